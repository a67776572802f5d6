/- The walk of the reference's Print. -/
import Derived.Test.YtkankjblpmmikaaDoorRefDec
import Derived.Test.YtkankjblpmmikaaDoorRefHex
import Derived.Deep.RegionHeld3
set_option linter.unusedSimpArgs false
set_option linter.unusedVariables false
namespace Go.Proofs.YtkankjblpmmikaaDoor.Sc
open Go.RowKit Hp

theorem dec_len : ∀ (k u : Nat), u < 10 ^ (k + 1) → (Lib.decDigits u).length ≤ k + 1
  | 0, u, h => by rw [Lib.decDigits, dif_pos (by omega)]; simp
  | k + 1, u, h => by
    rw [Lib.decDigits]
    split
    · simp
    · have := dec_len k (u / 10) (by rw [Nat.pow_succ] at h; omega)
      simp only [List.length_append, List.length_cons, List.length_nil]
      omega
theorem itoa_len (n : Int) (h0 : 0 ≤ n) (h1 : n ≤ 9223372036854775807) : (Lib.itoa n).length ≤ 19 := by
  unfold Lib.itoa
  rw [if_neg (by omega)]
  exact dec_len 18 _ (by omega)
/-- The box, and what it holds, in whatever later world. -/
structure CfIn (w wr : World) (b : Nat) (vr vt : Value) (c : Cf) : Prop where
  box : BoxAt w wr b vr vt c
  lt : b < wr.heap.size
theorem CfIn.next {w wr w2 : World} {b : Nat} {vr vt : Value} {c : Cf} (h : CfIn w wr b vr vt c) (hb : Below wr.heap.size wr w2) : CfIn w w2 b vr vt c :=
  ⟨⟨(hb.block b h.lt).trans h.box.heap, h.box.below.trans (hb.mono h.box.below.size)⟩, Nat.lt_of_lt_of_le h.lt hb.size⟩
theorem CfIn.new (w : World) (vr vt : Value) (c : Cf) : CfIn w ((w.alloc (.cells #[vr, vt, .int .i64 c.level, .int .i64 c.minSize, .int .i64 c.cap, .int .i64 c.buffer, .int .i64 c.timeout] 25)).drew) w.heap.size vr vt c :=
  ⟨⟨heap_alloc_new w _, ((Below.refl _ _).alloc (Nat.le_refl _) _).drew⟩, by simp⟩
theorem CfIn.five {w wr : World} {b : Nat} {vr vt : Value} {c : Cf} (h : CfIn w wr b vr vt c) : CfIn w wr b vr vt c ∧
    wr.cell? ⟨b, 2, none⟩ = some (.int .i64 c.level) ∧ wr.cell? ⟨b, 3, none⟩ = some (.int .i64 c.minSize) ∧ wr.cell? ⟨b, 4, none⟩ = some (.int .i64 c.cap) ∧
    wr.cell? ⟨b, 5, none⟩ = some (.int .i64 c.buffer) ∧ wr.cell? ⟨b, 6, none⟩ = some (.int .i64 c.timeout) :=
  ⟨h, h.box.cell 2, h.box.cell 3, h.box.cell 4, h.box.cell 5, h.box.cell 6⟩

theorem CfIn.drew {w wr : World} {b : Nat} {vr vt : Value} {c : Cf} (h : CfIn w wr b vr vt c) : CfIn w wr.drew b vr vt c := ⟨⟨h.box.heap, h.box.below.drew⟩, h.lt⟩
theorem CfIn.rows {w wr : World} {b : Nat} {vr vt : Value} {c : Cf} (h : CfIn w wr b vr vt c) {p q0 q1 q2 : Nat} (hp : p < w.heap.size) {v0 v1 v2 : Value}
    (h0 : w.cell? ⟨p, q0, none⟩ = some v0) (h1 : w.cell? ⟨p, q1, none⟩ = some v1) (h2 : w.cell? ⟨p, q2, none⟩ = some v2) : CfIn w wr b vr vt c ∧ wr.cell? ⟨b, 0, none⟩ = some vr ∧
    wr.cell? ⟨p, q0, none⟩ = some v0 ∧ wr.cell? ⟨p, q1, none⟩ = some v1 ∧ wr.cell? ⟨p, q2, none⟩ = some v2 :=
  ⟨h, h.box.cell 0, (cell_kept h.box.below hp).trans h0, (cell_kept h.box.below hp).trans h1, (cell_kept h.box.below hp).trans h2⟩
theorem le_sum {α : Type} (f : α → Nat) : ∀ {l : List α} {k : Nat} (h : k < l.length), f l[k] ≤ (l.map f).sum
  | a :: l, 0, _ => by simp
  | a :: l, k + 1, h => by
    have := le_sum f (l := l) (k := k) (by simpa using h)
    simp only [List.getElem_cons_succ, List.map_cons, List.sum_cons]
    omega
theorem take_map {α β : Type} (f : α → β) {l : List α} {k : Nat} (h : k < l.length) : (l.take (k + 1)).map f = (l.take k).map f ++ [f l[k]] := by
  rw [List.take_succ_eq_append_getElem h, List.map_append]; rfl

theorem lines_rt (c : Cf) {k : Nat} (h : k < c.routes.length) : joinL (cfLine c :: (c.routes.take (k + 1)).map rtLine) = joinL (cfLine c :: (c.routes.take k).map rtLine) ++ (rtLine c.routes[k] ++ [10]) := by
  rw [take_map _ h]; simp [joinL]
theorem lines_ty (c : Cf) {k : Nat} (h : k < c.types.length) : joinL (cfLine c :: (c.routes.map rtLine ++ (c.types.take (k + 1)).map tyLine)) = joinL (cfLine c :: (c.routes.map rtLine ++ (c.types.take k).map tyLine)) ++ (tyLine c.types[k] ++ [10]) := by
  rw [take_map _ h]; simp [joinL]
theorem lines_ac (c : Cf) (al : List Ac) {k : Nat} (h : k < al.length) : joinL (cfLine c :: (c.routes.map rtLine ++ c.types.map tyLine ++ (al.take (k + 1)).map acLine)) = joinL (cfLine c :: (c.routes.map rtLine ++ c.types.map tyLine ++ (al.take k).map acLine)) ++ (acLine al[k] ++ [10]) := by
  rw [take_map _ h]; simp [joinL]
theorem CfIn.acts {w wr : World} {b : Nat} {vr vt : Value} {c : Cf} (h : CfIn w wr b vr vt c) {p q0 q1 q2 q3 : Nat} (hp : p < w.heap.size) {v0 v1 v2 v3 : Value}
    (h0 : w.cell? ⟨p, q0, none⟩ = some v0) (h1 : w.cell? ⟨p, q1, none⟩ = some v1) (h2 : w.cell? ⟨p, q2, none⟩ = some v2) (h3 : w.cell? ⟨p, q3, none⟩ = some v3) : CfIn w wr b vr vt c ∧
    wr.cell? ⟨p, q0, none⟩ = some v0 ∧ wr.cell? ⟨p, q1, none⟩ = some v1 ∧ wr.cell? ⟨p, q2, none⟩ = some v2 ∧ wr.cell? ⟨p, q3, none⟩ = some v3 :=
  ⟨h, (cell_kept h.box.below hp).trans h0, (cell_kept h.box.below hp).trans h1, (cell_kept h.box.below hp).trans h2, (cell_kept h.box.below hp).trans h3⟩

set_option maxRecDepth 100000 in
set_option maxHeartbeats 3200000 in
theorem refPrint_any (vr vt va : Value) (c : Cf) (al : List Ac) (w : World) (hc : CfAt w vr vt c) (ha : AcAt w va al) (hcok : c.Ok) (haok : ∀ a ∈ al, a.Ok) (ht : total c al < 20000) :
    Calls Tryd.prog 10 #[cfVal vr vt c, va] w fun e w' => e = .returned (str (text c al)) ∧ Below w.heap.size w w' := by
  obtain ⟨ds, ha, hd⟩ := ha.row
  obtain ⟨k1, k2, k3, k4, k5, k6⟩ := hcok
  obtain ⟨k1, k1'⟩ := k1
  obtain ⟨k2, k2'⟩ := k2
  obtain ⟨k3, k3'⟩ := k3
  obtain ⟨k4, k4'⟩ := k4
  obtain ⟨k5, k5'⟩ := k5
  have K6 := Lib.hid k6
  have HAO := Lib.hid haok
  have HD := Lib.hid hd
  clear k6 haok hd
  obtain ⟨hr1, R, cR, rfl, hR⟩ := hc.routes
  obtain ⟨ht1, T, cT, rfl, hT⟩ := hc.types
  obtain ⟨ha1, A, cA, rfl, hA⟩ := ha
  have HR := Lib.hid hR
  have HT := Lib.hid hT
  have HA := Lib.hid hA
  clear hR hT hA
  have l1 := itoa_len _ k1 k1'
  have l2 := itoa_len _ k2 k2'
  have l3 := itoa_len _ k3 k3'
  have l4 := itoa_len _ k4 k4'
  have l5 := itoa_len _ k5 k5'
  have s0 : SumOk [99, 111, 110, 102, 105, 103, 32] (Lib.itoa c.level) := by unfold SumOk; simp only [List.length_append, List.length_cons, List.length_nil]; omega
  have s1 : SumOk ([99, 111, 110, 102, 105, 103, 32] ++ Lib.itoa c.level) [32] := by unfold SumOk; simp only [List.length_append, List.length_cons, List.length_nil]; omega
  have s2 : SumOk (([99, 111, 110, 102, 105, 103, 32] ++ Lib.itoa c.level) ++ [32]) (Lib.itoa c.minSize) := by unfold SumOk; simp only [List.length_append, List.length_cons, List.length_nil]; omega
  have s3 : SumOk ((([99, 111, 110, 102, 105, 103, 32] ++ Lib.itoa c.level) ++ [32]) ++ Lib.itoa c.minSize) [32] := by unfold SumOk; simp only [List.length_append, List.length_cons, List.length_nil]; omega
  have s4 : SumOk (((([99, 111, 110, 102, 105, 103, 32] ++ Lib.itoa c.level) ++ [32]) ++ Lib.itoa c.minSize) ++ [32]) (Lib.itoa c.cap) := by unfold SumOk; simp only [List.length_append, List.length_cons, List.length_nil]; omega
  have s5 : SumOk ((((([99, 111, 110, 102, 105, 103, 32] ++ Lib.itoa c.level) ++ [32]) ++ Lib.itoa c.minSize) ++ [32]) ++ Lib.itoa c.cap) [32] := by unfold SumOk; simp only [List.length_append, List.length_cons, List.length_nil]; omega
  have s6 : SumOk (((((([99, 111, 110, 102, 105, 103, 32] ++ Lib.itoa c.level) ++ [32]) ++ Lib.itoa c.minSize) ++ [32]) ++ Lib.itoa c.cap) ++ [32]) (Lib.itoa c.buffer) := by unfold SumOk; simp only [List.length_append, List.length_cons, List.length_nil]; omega
  have s7 : SumOk ((((((([99, 111, 110, 102, 105, 103, 32] ++ Lib.itoa c.level) ++ [32]) ++ Lib.itoa c.minSize) ++ [32]) ++ Lib.itoa c.cap) ++ [32]) ++ Lib.itoa c.buffer) [32] := by unfold SumOk; simp only [List.length_append, List.length_cons, List.length_nil]; omega
  have s8 : SumOk (((((((([99, 111, 110, 102, 105, 103, 32] ++ Lib.itoa c.level) ++ [32]) ++ Lib.itoa c.minSize) ++ [32]) ++ Lib.itoa c.cap) ++ [32]) ++ Lib.itoa c.buffer) ++ [32]) (Lib.itoa c.timeout) := by unfold SumOk; simp only [List.length_append, List.length_cons, List.length_nil]; omega
  have s9 : SumOk ((((((((([99, 111, 110, 102, 105, 103, 32] ++ Lib.itoa c.level) ++ [32]) ++ Lib.itoa c.minSize) ++ [32]) ++ Lib.itoa c.cap) ++ [32]) ++ Lib.itoa c.buffer) ++ [32]) ++ Lib.itoa c.timeout) [10] := by unfold SumOk; simp only [List.length_append, List.length_cons, List.length_nil]; omega
  simp only [List.append_assoc, List.cons_append, List.nil_append] at s1 s2 s3 s4 s5 s6 s7 s8 s9
  go_enter Tryd.func10, Tryd.ntmps10
  go_wp2_with fail
  go_region_held3 (fun w' => CfIn w w' w.heap.size (.slice R c.routes.length cR) (.slice T c.types.length cT) c ∧
      w'.cell? ⟨w.heap.size, 2, none⟩ = some (.int .i64 c.level) ∧ w'.cell? ⟨w.heap.size, 3, none⟩ = some (.int .i64 c.minSize) ∧ w'.cell? ⟨w.heap.size, 4, none⟩ = some (.int .i64 c.cap) ∧
      w'.cell? ⟨w.heap.size, 5, none⟩ = some (.int .i64 c.buffer) ∧ w'.cell? ⟨w.heap.size, 6, none⟩ = some (.int .i64 c.timeout))
    (first
      | exact (CfIn.new w _ _ c).five
      | (go_split_ands
         exact (CfIn.next (by assumption) hb).five))
    (first | (go_at_call 22; refine (dec_any _ (by omega) (by omega) _).mono ?_; rintro e w' ⟨rfl, hb⟩))
  go_wp2
  go_loopw [5, 6] (fun v i wr => ∃ (k : Nat) (t : Bs), k ≤ c.routes.length ∧ i = .int .i64 k ∧ v = str t ∧ t.length ≤ 1000 + 100000 * k ∧
      Veil (t = joinL (cfLine c :: (c.routes.take k).map rtLine)) ∧ CfIn w wr w.heap.size (.slice R c.routes.length cR) (.slice T c.types.length cT) c)
    (fun _ i _ => c.routes.length - (intOf i).toNat)
  case atStart =>
    refine ⟨0, _, Nat.zero_le _, rfl, rfl, ?_, ⟨?_⟩, by go_split_ands; assumption⟩
    · simp only [List.length_append, List.length_cons, List.length_nil]; omega
    · simp [joinL, cfLine, num, kwConfig]
  case round =>
    obtain ⟨k, t, hk, rfl, rfl, htl, HT1, hcf⟩ := hrel
    clear l1 l2 l3 l4 l5 s0 s1 s2 s3 s4 s5 s6 s7 s8 s9
    have c00 := hcf.box.cell 0
    simp at c00
    by_cases hlt : k < c.routes.length
    · obtain ⟨p, po, rfl, hpb, hp⟩ := HR.out (by omega)
      have a0 := hp k 0 hlt (by omega)
      have a1 := hp k 1 hlt (by omega)
      have a2 := hp k 2 hlt (by omega)
      clear hp
      simp only [rtCell, List.getElem?_eq_getElem hlt, Option.map_some, Option.getD_some, Nat.add_zero] at a0 a1 a2
      have hup := K6.out _ (List.getElem_mem hlt)
      have hs : c.routes[k].host.length + c.routes[k].pre.length ≤ (c.routes.map rtLen).sum := le_sum rtLen hlt
      have hhl := hexw_length c.routes[k].host
      have hpl := hexw_length c.routes[k].pre
      have hul := itoa_len _ hup.1 hup.2
      obtain ⟨hup1, hup2⟩ := hup
      have htt := ht
      unfold total at htt
      have hsh : Short c.routes[k].host := by unfold Short; omega
      have hsp : Short c.routes[k].pre := by unfold Short; omega
      have hk0 : (0 : Int) ≤ (k : Int) := by omega
      have hk1 : (k : Int) < (c.routes.length : Int) := by omega
      have q0 : SumOk (t) ([114, 111, 117, 116, 101, 32]) := by unfold SumOk; simp only [List.length_append, List.length_cons, List.length_nil]; omega
      have q1 : SumOk ((t) ++ ([114, 111, 117, 116, 101, 32])) (hexw c.routes[k].host) := by unfold SumOk; simp only [List.length_append, List.length_cons, List.length_nil]; omega
      have q2 : SumOk (((t) ++ ([114, 111, 117, 116, 101, 32])) ++ (hexw c.routes[k].host)) ([32]) := by unfold SumOk; simp only [List.length_append, List.length_cons, List.length_nil]; omega
      have q3 : SumOk ((((t) ++ ([114, 111, 117, 116, 101, 32])) ++ (hexw c.routes[k].host)) ++ ([32])) (hexw c.routes[k].pre) := by unfold SumOk; simp only [List.length_append, List.length_cons, List.length_nil]; omega
      have q4 : SumOk (((((t) ++ ([114, 111, 117, 116, 101, 32])) ++ (hexw c.routes[k].host)) ++ ([32])) ++ (hexw c.routes[k].pre)) ([32]) := by unfold SumOk; simp only [List.length_append, List.length_cons, List.length_nil]; omega
      have q5 : SumOk ((((((t) ++ ([114, 111, 117, 116, 101, 32])) ++ (hexw c.routes[k].host)) ++ ([32])) ++ (hexw c.routes[k].pre)) ++ ([32])) (Lib.itoa c.routes[k].up) := by unfold SumOk; simp only [List.length_append, List.length_cons, List.length_nil]; omega
      have q6 : SumOk (((((((t) ++ ([114, 111, 117, 116, 101, 32])) ++ (hexw c.routes[k].host)) ++ ([32])) ++ (hexw c.routes[k].pre)) ++ ([32])) ++ (Lib.itoa c.routes[k].up)) ([10]) := by unfold SumOk; simp only [List.length_append, List.length_cons, List.length_nil]; omega
      simp only [List.append_assoc, List.cons_append, List.nil_append] at q0 q1 q2 q3 q4 q5 q6
      go_wp2_with fail
      refine wp_region_held_drew (S := fun w' => CfIn w w' w.heap.size (.slice (some ⟨p, po, none⟩) c.routes.length cR) (.slice T c.types.length cT) c ∧ w'.cell? ⟨w.heap.size, 0, none⟩ = some (.slice (some ⟨p, po, none⟩) c.routes.length cR) ∧
          w'.cell? ⟨p, po + k * 3, none⟩ = some (str c.routes[k].host) ∧ w'.cell? ⟨p, po + k * 3 + 1, none⟩ = some (str c.routes[k].pre) ∧ w'.cell? ⟨p, po + k * 3 + 2, none⟩ = some (.int .i64 c.routes[k].up))
        (by kernel_rfl) (hcf.drew.rows hpb a0 a1 a2) (fun hHeld => ?_)
      (refine' wpAnyH_take (i := 0) ?hi ?hs ?hf ?hr ?hQ (Or.inl ⟨?hw, ?hv⟩) hHeld ?_
       case hr => decide +kernel
       case hf => decide +kernel
       case hs => kernel_rfl
       case hi => (simp only [List.getElem?_toArray, List.getElem?_cons_succ, List.getElem?_cons_zero]; rfl)
       case hQ => exact fun _ _ _ h => h
       case hw => rfl
       case hv => (intro wx hSw; (try dsimp only at hSw); go_simp; try with_reducible rfl)
       try simp only [Act.put, List.setIfInBounds_toArray, List.set_cons_zero, List.set_cons_succ])
      (refine' wpAnyH_take (i := 1) ?hi ?hs ?hf ?hr ?hQ (Or.inl ⟨?hw, ?hv⟩) hHeld ?_
       case hr => decide +kernel
       case hf => decide +kernel
       case hs => kernel_rfl
       case hi => (simp only [List.getElem?_toArray, List.getElem?_cons_succ, List.getElem?_cons_zero]; rfl)
       case hQ => exact fun _ _ _ h => h
       case hw => rfl
       case hv => (intro wx hSw; (try dsimp only at hSw); go_simp; try with_reducible rfl)
       try simp only [Act.put, List.setIfInBounds_toArray, List.set_cons_zero, List.set_cons_succ])
      (refine' wpAnyH_take (i := 2) ?hi ?hs ?hf ?hr ?hQ (Or.inl ⟨?hw, ?hv⟩) hHeld ?_
       case hr => decide +kernel
       case hf => decide +kernel
       case hs => kernel_rfl
       case hi => (simp only [List.getElem?_toArray, List.getElem?_cons_succ, List.getElem?_cons_zero]; rfl)
       case hQ => exact fun _ _ _ h => h
       case hw => rfl
       case hv => (intro wx hSw; (try dsimp only at hSw); go_simp; try with_reducible rfl)
       try simp only [Act.put, List.setIfInBounds_toArray, List.set_cons_zero, List.set_cons_succ])
      (refine' wpAnyH_take (i := 3) ?hi ?hs ?hf ?hr ?hQ (Or.inl ⟨?hw, ?hv⟩) hHeld ?_
       case hr => decide +kernel
       case hf => decide +kernel
       case hs => kernel_rfl
       case hi => (simp only [List.getElem?_toArray, List.getElem?_cons_succ, List.getElem?_cons_zero]; rfl)
       case hQ => exact fun _ _ _ h => h
       case hw => rfl
       case hv => (intro wx hSw; (try dsimp only at hSw); go_simp; try with_reducible rfl)
       try simp only [Act.put, List.setIfInBounds_toArray, List.set_cons_zero, List.set_cons_succ])
      (refine' wpAnyH_take (i := 4) ?hi ?hs ?hf ?hr ?hQ (Or.inl ⟨?hw, ?hv⟩) hHeld ?_
       case hr => decide +kernel
       case hf => decide +kernel
       case hs => kernel_rfl
       case hi => (simp only [List.getElem?_toArray, List.getElem?_cons_succ, List.getElem?_cons_zero]; rfl)
       case hQ => exact fun _ _ _ h => h
       case hw => rfl
       case hv => (intro wx hSw; (try dsimp only at hSw); go_simp; try with_reducible rfl)
       try simp only [Act.put, List.setIfInBounds_toArray, List.set_cons_zero, List.set_cons_succ])
      (refine' wpAnyH_take (i := 5) ?hi ?hs ?hf ?hr ?hQ (Or.inl ⟨?hw, ?hv⟩) hHeld ?_
       case hr => decide +kernel
       case hf => decide +kernel
       case hs => kernel_rfl
       case hi => (simp only [List.getElem?_toArray, List.getElem?_cons_succ, List.getElem?_cons_zero]; rfl)
       case hQ => exact fun _ _ _ h => h
       case hw => rfl
       case hv => (intro wx hSw; (try dsimp only at hSw); go_simp; try with_reducible rfl)
       try simp only [Act.put, List.setIfInBounds_toArray, List.set_cons_zero, List.set_cons_succ])
      (refine' wpAnyH_take (i := 6) ?hi ?hs ?hf ?hr ?hQ (Or.inl ⟨?hw, ?hv⟩) hHeld ?_
       case hr => decide +kernel
       case hf => decide +kernel
       case hs => kernel_rfl
       case hi => (simp only [List.getElem?_toArray, List.getElem?_cons_succ, List.getElem?_cons_zero]; rfl)
       case hQ => exact fun _ _ _ h => h
       case hw => rfl
       case hv => (intro wx hSw; (try dsimp only at hSw); go_simp; try with_reducible rfl)
       try simp only [Act.put, List.setIfInBounds_toArray, List.set_cons_zero, List.set_cons_succ])
      (refine' wpAnyH_take (i := 7) ?hi ?hs ?hf ?hr ?hQ (Or.inl ⟨?hw, ?hv⟩) hHeld ?_
       case hr => decide +kernel
       case hf => decide +kernel
       case hs => kernel_rfl
       case hi => (simp only [List.getElem?_toArray, List.getElem?_cons_succ, List.getElem?_cons_zero]; rfl)
       case hQ => exact fun _ _ _ h => h
       case hw => rfl
       case hv => (intro wx hSw; (try dsimp only at hSw); go_simp; try with_reducible rfl)
       try simp only [Act.put, List.setIfInBounds_toArray, List.set_cons_zero, List.set_cons_succ])
      (refine' wpAnyH_take (i := 12) ?hi ?hs ?hf ?hr ?hQ (Or.inl ⟨?hw, ?hv⟩) hHeld ?_
       case hr => decide +kernel
       case hf => decide +kernel
       case hs => kernel_rfl
       case hi => (simp only [List.getElem?_toArray, List.getElem?_cons_succ, List.getElem?_cons_zero]; rfl)
       case hQ => exact fun _ _ _ h => h
       case hw => rfl
       case hv => (intro wx hSw; (try dsimp only at hSw); go_simp; try with_reducible rfl)
       try simp only [Act.put, List.setIfInBounds_toArray, List.set_cons_zero, List.set_cons_succ])
      (refine' wpAnyH_take (i := 13) ?hi ?hs ?hf ?hr ?hQ (Or.inl ⟨?hw, ?hv⟩) hHeld ?_
       case hr => decide +kernel
       case hf => decide +kernel
       case hs => kernel_rfl
       case hi => (simp only [List.getElem?_toArray, List.getElem?_cons_succ, List.getElem?_cons_zero]; rfl)
       case hQ => exact fun _ _ _ h => h
       case hw => rfl
       case hv => (intro wx hSw; (try dsimp only at hSw); go_simp; try with_reducible rfl)
       try simp only [Act.put, List.setIfInBounds_toArray, List.set_cons_zero, List.set_cons_succ])
      (refine' wpAnyH_take (i := 14) ?hi ?hs ?hf ?hr ?hQ (Or.inl ⟨?hw, ?hv⟩) hHeld ?_
       case hr => decide +kernel
       case hf => decide +kernel
       case hs => kernel_rfl
       case hi => (simp only [List.getElem?_toArray, List.getElem?_cons_succ, List.getElem?_cons_zero]; rfl)
       case hQ => exact fun _ _ _ h => h
       case hw => rfl
       case hv => (intro wx hSw; (try dsimp only at hSw); go_simp; try with_reducible rfl)
       try simp only [Act.put, List.setIfInBounds_toArray, List.set_cons_zero, List.set_cons_succ])
      (refine' wpAnyH_take (i := 15) ?hi ?hs ?hf ?hr ?hQ (Or.inl ⟨?hw, ?hv⟩) hHeld ?_
       case hr => decide +kernel
       case hf => decide +kernel
       case hs => kernel_rfl
       case hi => (simp only [List.getElem?_toArray, List.getElem?_cons_succ, List.getElem?_cons_zero]; rfl)
       case hQ => exact fun _ _ _ h => h
       case hw => rfl
       case hv => (intro wx hSw; (try dsimp only at hSw); go_simp; try with_reducible rfl)
       try simp only [Act.put, List.setIfInBounds_toArray, List.set_cons_zero, List.set_cons_succ])
      (refine' wpAnyH_take (i := 16) ?hi ?hs ?hf ?hr ?hQ (Or.inl ⟨?hw, ?hv⟩) hHeld ?_
       case hr => decide +kernel
       case hf => decide +kernel
       case hs => kernel_rfl
       case hi => (simp only [List.getElem?_toArray, List.getElem?_cons_succ, List.getElem?_cons_zero]; rfl)
       case hQ => exact fun _ _ _ h => h
       case hw => rfl
       case hv => (intro wx hSw; (try dsimp only at hSw); go_simp; try with_reducible rfl)
       try simp only [Act.put, List.setIfInBounds_toArray, List.set_cons_zero, List.set_cons_succ])
      (refine' wpAnyH_take (i := 17) ?hi ?hs ?hf ?hr ?hQ (Or.inl ⟨?hw, ?hv⟩) hHeld ?_
       case hr => decide +kernel
       case hf => decide +kernel
       case hs => kernel_rfl
       case hi => (simp only [List.getElem?_toArray, List.getElem?_cons_succ, List.getElem?_cons_zero]; rfl)
       case hQ => exact fun _ _ _ h => h
       case hw => rfl
       case hv => (intro wx hSw; (try dsimp only at hSw); go_simp; try with_reducible rfl)
       try simp only [Act.put, List.setIfInBounds_toArray, List.set_cons_zero, List.set_cons_succ])
      (refine' wpAnyH_take (i := 22) ?hi ?hs ?hf ?hr ?hQ (Or.inl ⟨?hw, ?hv⟩) hHeld ?_
       case hr => decide +kernel
       case hf => decide +kernel
       case hs => kernel_rfl
       case hi => (simp only [List.getElem?_toArray, List.getElem?_cons_succ, List.getElem?_cons_zero]; rfl)
       case hQ => exact fun _ _ _ h => h
       case hw => rfl
       case hv => (intro wx hSw; (try dsimp only at hSw); go_simp; try with_reducible rfl)
       try simp only [Act.put, List.setIfInBounds_toArray, List.set_cons_zero, List.set_cons_succ])
      (refine' wpAnyH_take (i := 23) ?hi ?hs ?hf ?hr ?hQ (Or.inl ⟨?hw, ?hv⟩) hHeld ?_
       case hr => decide +kernel
       case hf => decide +kernel
       case hs => kernel_rfl
       case hi => (simp only [List.getElem?_toArray, List.getElem?_cons_succ, List.getElem?_cons_zero]; rfl)
       case hQ => exact fun _ _ _ h => h
       case hw => rfl
       case hv => (intro wx hSw; (try dsimp only at hSw); go_simp; try with_reducible rfl)
       try simp only [Act.put, List.setIfInBounds_toArray, List.set_cons_zero, List.set_cons_succ])
      (refine' wpAnyH_take (i := 24) ?hi ?hs ?hf ?hr ?hQ (Or.inl ⟨?hw, ?hv⟩) hHeld ?_
       case hr => decide +kernel
       case hf => decide +kernel
       case hs => kernel_rfl
       case hi => (simp only [List.getElem?_toArray, List.getElem?_cons_succ, List.getElem?_cons_zero]; rfl)
       case hQ => exact fun _ _ _ h => h
       case hw => rfl
       case hv => (intro wx hSw; (try dsimp only at hSw); go_simp; try with_reducible rfl)
       try simp only [Act.put, List.setIfInBounds_toArray, List.set_cons_zero, List.set_cons_succ])
      (refine' wpAnyH_take (i := 25) ?hi ?hs ?hf ?hr ?hQ (Or.inl ⟨?hw, ?hv⟩) hHeld ?_
       case hr => decide +kernel
       case hf => decide +kernel
       case hs => kernel_rfl
       case hi => (simp only [List.getElem?_toArray, List.getElem?_cons_succ, List.getElem?_cons_zero]; rfl)
       case hQ => exact fun _ _ _ h => h
       case hw => rfl
       case hv => (intro wx hSw; (try dsimp only at hSw); go_simp; try with_reducible rfl)
       try simp only [Act.put, List.setIfInBounds_toArray, List.set_cons_zero, List.set_cons_succ])
      (refine' wpAnyH_take (i := 26) ?hi ?hs ?hf ?hr ?hQ (Or.inl ⟨?hw, ?hv⟩) hHeld ?_
       case hr => decide +kernel
       case hf => decide +kernel
       case hs => kernel_rfl
       case hi => (simp only [List.getElem?_toArray, List.getElem?_cons_succ, List.getElem?_cons_zero]; rfl)
       case hQ => exact fun _ _ _ h => h
       case hw => rfl
       case hv => (intro wx hSw; (try dsimp only at hSw); go_simp; try with_reducible rfl)
       try simp only [Act.put, List.setIfInBounds_toArray, List.set_cons_zero, List.set_cons_succ])
      (refine' wpAnyH_take (i := 27) ?hi ?hs ?hf ?hr ?hQ (Or.inl ⟨?hw, ?hv⟩) hHeld ?_
       case hr => decide +kernel
       case hf => decide +kernel
       case hs => kernel_rfl
       case hi => (simp only [List.getElem?_toArray, List.getElem?_cons_succ, List.getElem?_cons_zero]; rfl)
       case hQ => exact fun _ _ _ h => h
       case hw => rfl
       case hv => (intro wx hSw; (try dsimp only at hSw); go_simp; try with_reducible rfl)
       try simp only [Act.put, List.setIfInBounds_toArray, List.set_cons_zero, List.set_cons_succ])
      repeat' (first
        | exact AllReadyH.nil
        | (refine wpAnyH_done (by decide +kernel) ?_ _)
        | (refine' wpAnyH_take (i := 10) ?hi ?hs ?hf ?hr ?hQ (Or.inl ⟨?hw, ?hv⟩) hHeld ?_
           case hr => decide +kernel
           case hf => decide +kernel
           case hs => kernel_rfl
           case hi => (simp only [List.getElem?_toArray, List.getElem?_cons_succ, List.getElem?_cons_zero]; rfl)
           case hQ => exact fun _ _ _ h => h
           case hw => rfl
           case hv => (intro wx hSw; (try dsimp only at hSw); go_simp; try with_reducible rfl)
           try simp only [Act.put, List.setIfInBounds_toArray, List.set_cons_zero, List.set_cons_succ])
        | (refine' wpAnyH_take (i := 11) ?hi ?hs ?hf ?hr ?hQ (Or.inl ⟨?hw, ?hv⟩) hHeld ?_
           case hr => decide +kernel
           case hf => decide +kernel
           case hs => kernel_rfl
           case hi => (simp only [List.getElem?_toArray, List.getElem?_cons_succ, List.getElem?_cons_zero]; rfl)
           case hQ => exact fun _ _ _ h => h
           case hw => rfl
           case hv => (intro wx hSw; (try dsimp only at hSw); go_simp; try with_reducible rfl)
           try simp only [Act.put, List.setIfInBounds_toArray, List.set_cons_zero, List.set_cons_succ])
        | (refine' wpAnyH_take (i := 20) ?hi ?hs ?hf ?hr ?hQ (Or.inl ⟨?hw, ?hv⟩) hHeld ?_
           case hr => decide +kernel
           case hf => decide +kernel
           case hs => kernel_rfl
           case hi => (simp only [List.getElem?_toArray, List.getElem?_cons_succ, List.getElem?_cons_zero]; rfl)
           case hQ => exact fun _ _ _ h => h
           case hw => rfl
           case hv => (intro wx hSw; (try dsimp only at hSw); go_simp; try with_reducible rfl)
           try simp only [Act.put, List.setIfInBounds_toArray, List.set_cons_zero, List.set_cons_succ])
        | (refine' wpAnyH_take (i := 21) ?hi ?hs ?hf ?hr ?hQ (Or.inl ⟨?hw, ?hv⟩) hHeld ?_
           case hr => decide +kernel
           case hf => decide +kernel
           case hs => kernel_rfl
           case hi => (simp only [List.getElem?_toArray, List.getElem?_cons_succ, List.getElem?_cons_zero]; rfl)
           case hQ => exact fun _ _ _ h => h
           case hw => rfl
           case hv => (intro wx hSw; (try dsimp only at hSw); go_simp; try with_reducible rfl)
           try simp only [Act.put, List.setIfInBounds_toArray, List.set_cons_zero, List.set_cons_succ])
        | (refine' wpAnyH_take (i := 29) ?hi ?hs ?hf ?hr ?hQ (Or.inl ⟨?hw, ?hv⟩) hHeld ?_
           case hr => decide +kernel
           case hf => decide +kernel
           case hs => kernel_rfl
           case hi => (simp only [List.getElem?_toArray, List.getElem?_cons_succ, List.getElem?_cons_zero]; rfl)
           case hQ => exact fun _ _ _ h => h
           case hw => rfl
           case hv => (intro wx hSw; (try dsimp only at hSw); go_simp; try with_reducible rfl)
           try simp only [Act.put, List.setIfInBounds_toArray, List.set_cons_zero, List.set_cons_succ])
        | (refine' wpAnyH_take (i := 30) ?hi ?hs ?hf ?hr ?hQ (Or.inl ⟨?hw, ?hv⟩) hHeld ?_
           case hr => decide +kernel
           case hf => decide +kernel
           case hs => kernel_rfl
           case hi => (simp only [List.getElem?_toArray, List.getElem?_cons_succ, List.getElem?_cons_zero]; rfl)
           case hQ => exact fun _ _ _ h => h
           case hw => rfl
           case hv => (intro wx hSw; (try dsimp only at hSw); go_simp; try with_reducible rfl)
           try simp only [Act.put, List.setIfInBounds_toArray, List.set_cons_zero, List.set_cons_succ])
        | (refine' wpAnyH_take (i := 31) ?hi ?hs ?hf ?hr ?hQ (Or.inl ⟨?hw, ?hv⟩) hHeld ?_
           case hr => decide +kernel
           case hf => decide +kernel
           case hs => kernel_rfl
           case hi => (simp only [List.getElem?_toArray, List.getElem?_cons_succ, List.getElem?_cons_zero]; rfl)
           case hQ => exact fun _ _ _ h => h
           case hw => rfl
           case hv => (intro wx hSw; (try dsimp only at hSw); go_simp; try with_reducible rfl)
           try simp only [Act.put, List.setIfInBounds_toArray, List.set_cons_zero, List.set_cons_succ])
        | (refine wpAnyH_ready (rs := [8, 18, 28]) (by decide +kernel) (by simp) ?_)
        | (refine wpAnyH_ready (rs := [8, 18]) (by decide +kernel) (by simp) ?_)
        | (refine wpAnyH_ready (rs := [8, 19, 28]) (by decide +kernel) (by simp) ?_)
        | (refine wpAnyH_ready (rs := [8, 19]) (by decide +kernel) (by simp) ?_)
        | (refine wpAnyH_ready (rs := [8, 28]) (by decide +kernel) (by simp) ?_)
        | (refine wpAnyH_ready (rs := [8]) (by decide +kernel) (by simp) ?_)
        | (refine wpAnyH_ready (rs := [9, 18, 28]) (by decide +kernel) (by simp) ?_)
        | (refine wpAnyH_ready (rs := [9, 18]) (by decide +kernel) (by simp) ?_)
        | (refine wpAnyH_ready (rs := [9, 19, 28]) (by decide +kernel) (by simp) ?_)
        | (refine wpAnyH_ready (rs := [9, 19]) (by decide +kernel) (by simp) ?_)
        | (refine wpAnyH_ready (rs := [9, 28]) (by decide +kernel) (by simp) ?_)
        | (refine wpAnyH_ready (rs := [9]) (by decide +kernel) (by simp) ?_)
        | (refine wpAnyH_ready (rs := [18, 28]) (by decide +kernel) (by simp) ?_)
        | (refine wpAnyH_ready (rs := [18]) (by decide +kernel) (by simp) ?_)
        | (refine wpAnyH_ready (rs := [19, 28]) (by decide +kernel) (by simp) ?_)
        | (refine wpAnyH_ready (rs := [19]) (by decide +kernel) (by simp) ?_)
        | (refine wpAnyH_ready (rs := [28]) (by decide +kernel) (by simp) ?_)
        | (refine' AllReadyH.cons (i := 8) ?ho (fun K hK => ?_) ?_
           case ho => (simp only [List.getElem?_toArray, List.getElem?_cons_succ, List.getElem?_cons_zero]; rfl)
           refine step_bytesI (by rfl) (.tmp 48) (by rfl) c.routes[k].host (by rfl) hsh ?_; intro x1 w1 hd1 hb; replace hd1 := hd1.reads
           refine hK.out _ _ ((CfIn.next hHeld.1 hb).rows hpb a0 a1 a2) (fun hNew => ?_)
           clear hK K hHeld
           have hHeld := hNew
           clear hNew
           try replace hd2 := hd2.kept hb
           clear hb
           try simp only [Act.put, List.setIfInBounds_toArray, List.set_cons_zero, List.set_cons_succ])
        | (refine' AllReadyH.cons (i := 18) ?ho (fun K hK => ?_) ?_
           case ho => (simp only [List.getElem?_toArray, List.getElem?_cons_succ, List.getElem?_cons_zero]; rfl)
           refine step_bytesI (by rfl) (.tmp 58) (by rfl) c.routes[k].pre (by rfl) hsp ?_; intro x2 w2 hd2 hb; replace hd2 := hd2.reads
           refine hK.out _ _ ((CfIn.next hHeld.1 hb).rows hpb a0 a1 a2) (fun hNew => ?_)
           clear hK K hHeld
           have hHeld := hNew
           clear hNew
           try replace hd1 := hd1.kept hb
           clear hb
           try simp only [Act.put, List.setIfInBounds_toArray, List.set_cons_zero, List.set_cons_succ])
        | (refine' AllReadyH.cons (i := 9) ?ho (fun K hK => ?_) ?_
           case ho => (simp only [List.getElem?_toArray, List.getElem?_cons_succ, List.getElem?_cons_zero]; rfl)
           refine step_callI (by rfl) _ _ _ (by rfl) (enters_of Tryd.func23 (by kernel_rfl) rfl) #[x1] (by rw [List.map_toArray]; rfl) ((refHex_any _ _ _ hd1 (by omega)).mono ?_); rintro e w' ⟨rfl, hb⟩; refine ⟨_, rfl, ?_⟩; clear hd1
           refine hK.out _ _ ((CfIn.next hHeld.1 hb).rows hpb a0 a1 a2) (fun hNew => ?_)
           clear hK K hHeld
           have hHeld := hNew
           clear hNew
           try replace hd1 := hd1.kept hb
           try replace hd2 := hd2.kept hb
           clear hb
           try simp only [Act.put, List.setIfInBounds_toArray, List.set_cons_zero, List.set_cons_succ])
        | (refine' AllReadyH.cons (i := 19) ?ho (fun K hK => ?_) ?_
           case ho => (simp only [List.getElem?_toArray, List.getElem?_cons_succ, List.getElem?_cons_zero]; rfl)
           refine step_callI (by rfl) _ _ _ (by rfl) (enters_of Tryd.func23 (by kernel_rfl) rfl) #[x2] (by rw [List.map_toArray]; rfl) ((refHex_any _ _ _ hd2 (by omega)).mono ?_); rintro e w' ⟨rfl, hb⟩; refine ⟨_, rfl, ?_⟩; clear hd2
           refine hK.out _ _ ((CfIn.next hHeld.1 hb).rows hpb a0 a1 a2) (fun hNew => ?_)
           clear hK K hHeld
           have hHeld := hNew
           clear hNew
           try replace hd1 := hd1.kept hb
           try replace hd2 := hd2.kept hb
           clear hb
           try simp only [Act.put, List.setIfInBounds_toArray, List.set_cons_zero, List.set_cons_succ])
        | (refine' AllReadyH.cons (i := 28) ?ho (fun K hK => ?_) ?_
           case ho => (simp only [List.getElem?_toArray, List.getElem?_cons_succ, List.getElem?_cons_zero]; rfl)
           refine step_callI (by rfl) _ _ _ (by rfl) (enters_of Tryd.func22 (by kernel_rfl) rfl) #[.int .i64 c.routes[k].up] (by rw [List.map_toArray]; rfl) ((dec_any _ (by omega) (by omega) _).mono ?_); rintro e w' ⟨rfl, hb⟩; refine ⟨_, rfl, ?_⟩
           refine hK.out _ _ ((CfIn.next hHeld.1 hb).rows hpb a0 a1 a2) (fun hNew => ?_)
           clear hK K hHeld
           have hHeld := hNew
           clear hNew
           try replace hd1 := hd1.kept hb
           try replace hd2 := hd2.kept hb
           clear hb
           try simp only [Act.put, List.setIfInBounds_toArray, List.set_cons_zero, List.set_cons_succ]))
      all_goals
        clear hhl hpl hul hs
        go_wp2
        go_roundw
        case rel =>
          refine ⟨k + 1, _, by omega, by go_num, rfl, ?_, ⟨?_⟩, by go_split_ands; assumption⟩
          · have hhl := hexw_length c.routes[k].host
            have hpl := hexw_length c.routes[k].pre
            have hul := itoa_len _ hup1 hup2
            have hs : c.routes[k].host.length + c.routes[k].pre.length ≤ (c.routes.map rtLen).sum := le_sum rtLen hlt
            simp only [List.length_append, List.length_cons, List.length_nil]; omega
          · rw [HT1.out, lines_rt c hlt]
            simp [rtLine, wd, num, kwRoute, List.append_assoc]
        case measure => simp [intOf]; omega
    · have hkk : k = c.routes.length := by omega
      subst hkk
      rw [List.take_length] at HT1
      have htt := ht
      unfold total at htt
      go_wp2
      clear c00 HR
      go_loopw [5, 7] (fun v i wr => ∃ (k : Nat) (t : Bs), k ≤ c.types.length ∧ i = .int .i64 k ∧ v = str t ∧ t.length ≤ 200000000 + 100000 * k ∧
          Veil (t = joinL (cfLine c :: (c.routes.map rtLine ++ (c.types.take k).map tyLine))) ∧ CfIn w wr w.heap.size (.slice R c.routes.length cR) (.slice T c.types.length cT) c)
        (fun _ i _ => c.types.length - (intOf i).toNat)
      case atStart => exact ⟨0, t, Nat.zero_le _, rfl, rfl, by omega, ⟨by rw [HT1.out]; simp⟩, hcf⟩
      case round =>
        clear HT1 htl hk hcf
        obtain ⟨k, t, hk, rfl, rfl, htl, HT1, hcf⟩ := hrel
        have c01 := hcf.box.cell 1
        simp at c01
        by_cases hlt : k < c.types.length
        · obtain ⟨p, po, rfl, hpb, hp⟩ := HT.out (by omega)
          have a0 := hp k 0 hlt (by omega)
          clear hp
          simp only [tyCell, List.getElem?_eq_getElem hlt, Option.getD_some, Nat.add_zero, Nat.mul_one] at a0
          have hs : c.types[k].length ≤ (c.types.map List.length).sum := le_sum List.length hlt
          have hhl := hexw_length c.types[k]
          have hsh : Short c.types[k] := by unfold Short; omega
          have hk0 : (0 : Int) ≤ (k : Int) := by omega
          have hk1 : (k : Int) < (c.types.length : Int) := by omega
          have q0 : SumOk (t) ([116, 121, 112, 101, 32]) := by unfold SumOk; simp only [List.length_append, List.length_cons, List.length_nil]; omega
          have q1 : SumOk ((t) ++ ([116, 121, 112, 101, 32])) (hexw c.types[k]) := by unfold SumOk; simp only [List.length_append, List.length_cons, List.length_nil]; omega
          have q2 : SumOk (((t) ++ ([116, 121, 112, 101, 32])) ++ (hexw c.types[k])) ([10]) := by unfold SumOk; simp only [List.length_append, List.length_cons, List.length_nil]; omega
          simp only [List.append_assoc, List.cons_append, List.nil_append] at q0 q1 q2
          have b0 := (cell_kept hcf.box.below (o := po + k) hpb).trans a0
          go_wp2_with fail
          go_at_call 23
          refine (refHex_any _ _ _ (reads_bytesWorld _ _ (by assumption)) (by omega)).mono ?_
          rintro e w' ⟨rfl, hb⟩
          have hcf' := (hcf.next (below_bytesWorld _ 5 ⟨c.types[k].toArray⟩)).next hb
          clear hb
          go_wp2
          go_roundw
          case rel =>
            refine ⟨k + 1, _, by omega, by go_num, rfl, ?_, ⟨?_⟩, hcf'⟩
            · simp only [List.length_append, List.length_cons, List.length_nil]; omega
            · rw [HT1.out, lines_ty c hlt]
              simp [tyLine, wd, kwType, List.append_assoc]
          case measure => simp [intOf]; omega
        · have hkk : k = c.types.length := by omega
          subst hkk
          rw [List.take_length] at HT1
          go_wp2
          clear c01 HT
          go_loopw [5, 8] (fun v i wr => ∃ (k : Nat) (t : Bs), k ≤ al.length ∧ i = .int .i64 k ∧ v = str t ∧ t.length ≤ 400000000 + 100000 * k ∧
              Veil (t = joinL (cfLine c :: (c.routes.map rtLine ++ c.types.map tyLine ++ (al.take k).map acLine))) ∧ CfIn w wr w.heap.size (.slice R c.routes.length cR) (.slice T c.types.length cT) c)
            (fun _ i _ => al.length - (intOf i).toNat)
          case atStart => exact ⟨0, t, Nat.zero_le _, rfl, rfl, by omega, ⟨by rw [HT1.out]; simp⟩, hcf⟩
          case round =>
            clear HT1 htl hk hcf
            obtain ⟨k, t, hk, rfl, rfl, htl, HT1, hcf⟩ := hrel
            by_cases hlt : k < al.length
            · obtain ⟨p, po, rfl, hpb, hp⟩ := HA.out (by omega)
              have a0 := hp k 0 hlt (by omega)
              have a1 := hp k 1 hlt (by omega)
              have a2 := hp k 2 hlt (by omega)
              have a3 := hp k 3 hlt (by omega)
              have hrd := HD.out k hlt
              clear hp
              simp only [acCell, List.getElem?_eq_getElem hlt, Option.map_some, Option.getD_some, Nat.add_zero] at a0 a1 a2 a3 hrd
              obtain ⟨n1, n2, n3⟩ := HAO.out _ (List.getElem_mem hlt)
              have u1 := itoa_len _ n1.1 n1.2
              have u2 := itoa_len _ n2.1 n2.2
              have u3 := itoa_len _ n3.1 n3.2
              obtain ⟨n1, n1'⟩ := n1
              obtain ⟨n2, n2'⟩ := n2
              obtain ⟨n3, n3'⟩ := n3
              have hs : al[k].data.length ≤ (al.map fun a => a.data.length).sum := le_sum (fun a : Ac => a.data.length) hlt
              have hhl := hexw_length al[k].data
              have hk0 : (0 : Int) ≤ (k : Int) := by omega
              have hk1 : (k : Int) < (al.length : Int) := by omega
              have q0 : SumOk (t) ([97, 99, 116, 32]) := by unfold SumOk; simp only [List.length_append, List.length_cons, List.length_nil]; omega
              have q1 : SumOk ((t) ++ ([97, 99, 116, 32])) (Lib.itoa al[k].kind) := by unfold SumOk; simp only [List.length_append, List.length_cons, List.length_nil]; omega
              have q2 : SumOk (((t) ++ ([97, 99, 116, 32])) ++ (Lib.itoa al[k].kind)) ([32]) := by unfold SumOk; simp only [List.length_append, List.length_cons, List.length_nil]; omega
              have q3 : SumOk ((((t) ++ ([97, 99, 116, 32])) ++ (Lib.itoa al[k].kind)) ++ ([32])) (Lib.itoa al[k].conn) := by unfold SumOk; simp only [List.length_append, List.length_cons, List.length_nil]; omega
              have q4 : SumOk (((((t) ++ ([97, 99, 116, 32])) ++ (Lib.itoa al[k].kind)) ++ ([32])) ++ (Lib.itoa al[k].conn)) ([32]) := by unfold SumOk; simp only [List.length_append, List.length_cons, List.length_nil]; omega
              have q5 : SumOk ((((((t) ++ ([97, 99, 116, 32])) ++ (Lib.itoa al[k].kind)) ++ ([32])) ++ (Lib.itoa al[k].conn)) ++ ([32])) (Lib.itoa al[k].n) := by unfold SumOk; simp only [List.length_append, List.length_cons, List.length_nil]; omega
              have q6 : SumOk (((((((t) ++ ([97, 99, 116, 32])) ++ (Lib.itoa al[k].kind)) ++ ([32])) ++ (Lib.itoa al[k].conn)) ++ ([32])) ++ (Lib.itoa al[k].n)) ([32]) := by unfold SumOk; simp only [List.length_append, List.length_cons, List.length_nil]; omega
              have q7 : SumOk ((((((((t) ++ ([97, 99, 116, 32])) ++ (Lib.itoa al[k].kind)) ++ ([32])) ++ (Lib.itoa al[k].conn)) ++ ([32])) ++ (Lib.itoa al[k].n)) ++ ([32])) (hexw al[k].data) := by unfold SumOk; simp only [List.length_append, List.length_cons, List.length_nil]; omega
              have q8 : SumOk (((((((((t) ++ ([97, 99, 116, 32])) ++ (Lib.itoa al[k].kind)) ++ ([32])) ++ (Lib.itoa al[k].conn)) ++ ([32])) ++ (Lib.itoa al[k].n)) ++ ([32])) ++ (hexw al[k].data)) ([10]) := by unfold SumOk; simp only [List.length_append, List.length_cons, List.length_nil]; omega
              simp only [List.append_assoc, List.cons_append, List.nil_append] at q0 q1 q2 q3 q4 q5 q6 q7 q8
              go_wp2_with fail
              go_region_held3 (fun w' => CfIn w w' w.heap.size (.slice R c.routes.length cR) (.slice T c.types.length cT) c ∧
                  w'.cell? ⟨p, po + k * 4, none⟩ = some (.int .i64 al[k].kind) ∧ w'.cell? ⟨p, po + k * 4 + 1, none⟩ = some (.int .i64 al[k].conn) ∧ w'.cell? ⟨p, po + k * 4 + 2, none⟩ = some (.int .i64 al[k].n) ∧ w'.cell? ⟨p, po + k * 4 + 3, none⟩ = some (ds k))
                (first
                  | exact hcf.drew.acts hpb a0 a1 a2 a3
                  | (go_split_ands
                     exact (CfIn.next (by assumption) hb).acts hpb a0 a1 a2 a3))
                (first
                  | (go_at_call 22; refine (dec_any _ (by omega) (by omega) _).mono ?_; rintro e w' ⟨rfl, hb⟩)
                  | (go_at_call 23
                     go_split_ands
                     refine (refHex_any _ _ _ (hrd.kept (CfIn.box (by assumption)).below) (by omega)).mono ?_
                     rintro e w' ⟨rfl, hb⟩))
              all_goals
                clear hhl u1 u2 u3 hs hrd
                go_wp2
                go_roundw
                case rel =>
                  refine ⟨k + 1, _, by omega, by go_num, rfl, ?_, ⟨?_⟩, by go_split_ands; assumption⟩
                  · have u1 := itoa_len _ n1 n1'
                    have u2 := itoa_len _ n2 n2'
                    have u3 := itoa_len _ n3 n3'
                    have hs : al[k].data.length ≤ (al.map fun a => a.data.length).sum := le_sum (fun a : Ac => a.data.length) hlt
                    have hhl := hexw_length al[k].data
                    simp only [List.length_append, List.length_cons, List.length_nil]; omega
                  · rw [HT1.out, lines_ac c al hlt]
                    simp [acLine, wd, num, kwAct, List.append_assoc]
                case measure => simp [intOf]; omega
            · have hkk : k = al.length := by omega
              subst hkk
              rw [List.take_length] at HT1
              go_wp2
              go_ret
              exact ⟨by rw [HT1.out]; rfl, hcf.box.below⟩
end Go.Proofs.YtkankjblpmmikaaDoor.Sc
