/- The walk of the program's Print. -/
import Derived.Test.YtkankjblpmmikaaDoorScNum
import Derived.Test.YtkankjblpmmikaaDoorScBelow
set_option linter.unusedSimpArgs false
set_option linter.unusedVariables false
namespace Go.Proofs.YtkankjblpmmikaaDoor.Sc
open Go.RowKit Hp

theorem num_len {n : Int} (h : Ok n) : (num n).length ≤ 20 := by
  have := itoa_len n h.1 h.2
  simp only [num, List.length_cons]; omega
theorem wd_len (b : Bs) : (wd b).length = 2 * b.length + 2 := by simp only [wd, List.length_cons, hexw_length]
theorem joinL_one {α : Type} (f : α → Bs) (m : α → Nat) : ∀ (l : List α), (∀ a ∈ l, (f a).length + 1 ≤ 4 * (20 + m a)) → (joinL (l.map f)).length ≤ 4 * (20 * l.length + (l.map m).sum)
  | [], _ => by simp [joinL]
  | a :: l, h => by
    have h1 := h a (by simp)
    have h2 := joinL_one f m l fun x hx => h x (by simp [hx])
    rw [List.map_cons, joinL_cons]
    simp only [List.length_append, List.length_cons, List.map_cons, List.sum_cons]
    omega
/-- A text's length. -/
theorem text_len {c : Cf} {al : List Ac} (hc : c.Ok) (ha : ∀ a ∈ al, a.Ok) : (text c al).length ≤ 107 + 4 * total c al := by
  obtain ⟨k1, k2, k3, k4, k5, k6⟩ := hc
  have n1 := num_len k1
  have n2 := num_len k2
  have n3 := num_len k3
  have n4 := num_len k4
  have n5 := num_len k5
  have h1 := joinL_one rtLine rtLen c.routes fun r hr => by
    have := num_len (k6 r hr)
    have e1 := wd_len r.host
    have e2 := wd_len r.pre
    simp only [rtLine, List.length_append, kwRoute, List.length_cons, List.length_nil, rtLen]; omega
  have h2 := joinL_one tyLine List.length c.types fun t _ => by
    have e1 := wd_len t
    simp only [tyLine, List.length_append, kwType, List.length_cons, List.length_nil]; omega
  have h3 := joinL_one acLine dLen al fun a h => by
    obtain ⟨o1, o2, o3⟩ := ha a h
    have m1 := num_len o1
    have m2 := num_len o2
    have m3 := num_len o3
    have e1 := wd_len a.data
    simp only [acLine, List.length_append, kwAct, List.length_cons, List.length_nil, dLen]; omega
  have h0 : (cfLine c).length ≤ 106 := by simp only [cfLine, List.length_append, kwConfig, List.length_cons, List.length_nil]; omega
  rw [total_eq]
  unfold text allLines base
  rw [joinL_cons, joinL_append, joinL_append]
  simp only [List.length_append, List.length_cons]
  omega
theorem joinL_pre {a b : List Bs} : (joinL a).length ≤ (joinL (a ++ b)).length := by rw [joinL_append]; simp
theorem pre_rt {c : Cf} {al : List Ac} (k : Nat) : (joinL (cfLine c :: (c.routes.take k).map rtLine)).length ≤ (text c al).length := by
  have : allLines c al = (cfLine c :: (c.routes.take k).map rtLine) ++ ((c.routes.drop k).map rtLine ++ c.types.map tyLine ++ al.map acLine) := by
    unfold allLines
    have e : c.routes.map rtLine = (c.routes.take k).map rtLine ++ (c.routes.drop k).map rtLine := by rw [← List.map_append, List.take_append_drop]
    rw [e]
    simp only [List.cons_append, List.append_assoc]
  unfold text
  rw [this]
  exact joinL_pre
theorem pre_ty {c : Cf} {al : List Ac} (k : Nat) : (joinL (cfLine c :: (c.routes.map rtLine ++ (c.types.take k).map tyLine))).length ≤ (text c al).length := by
  have : allLines c al = (cfLine c :: (c.routes.map rtLine ++ (c.types.take k).map tyLine)) ++ ((c.types.drop k).map tyLine ++ al.map acLine) := by
    unfold allLines
    have e : c.types.map tyLine = (c.types.take k).map tyLine ++ (c.types.drop k).map tyLine := by rw [← List.map_append, List.take_append_drop]
    rw [e]
    simp only [List.cons_append, List.append_assoc]
  unfold text
  rw [this]
  exact joinL_pre
theorem pre_ac {c : Cf} {al : List Ac} (k : Nat) : (joinL (cfLine c :: (c.routes.map rtLine ++ c.types.map tyLine ++ (al.take k).map acLine))).length ≤ (text c al).length := by
  have : allLines c al = (cfLine c :: (c.routes.map rtLine ++ c.types.map tyLine ++ (al.take k).map acLine)) ++ ((al.drop k).map acLine) := by
    unfold allLines
    have e : al.map acLine = (al.take k).map acLine ++ (al.drop k).map acLine := by rw [← List.map_append, List.take_append_drop]
    rw [e]
    simp only [List.cons_append, List.append_assoc]
  unfold text
  rw [this]
  exact joinL_pre

/-- The printer and the box of the configuration, somewhere in Print. -/
structure PS (w wr : World) (b : Nat) (v : Value) (t : Bs) (vr vt : Value) (c : Cf) : Prop where
  pr : Pr wr w.heap.size b v t false
  box : BoxAt w wr w.heap.size vr vt c
  gt : w.heap.size < b
theorem PS.next {w wr w2 : World} {b : Nat} {v : Value} {t : Bs} {vr vt : Value} {c : Cf} (h : PS w wr b v t vr vt c) (hb : Below wr.heap.size wr w2) : PS w w2 b v t vr vt c :=
  ⟨h.pr.next hb, ⟨(hb.block _ (Array.getElem?_eq_some_iff.1 h.box.heap).1).trans h.box.heap, h.box.below.trans (hb.mono h.box.below.size)⟩, h.gt⟩
theorem PS.wrote {w wr w2 : World} {b : Nat} {v : Value} {t t2 : Bs} {vr vt : Value} {c : Cf} (h : PS w wr b v t vr vt c) (hw : Wrote wr w.heap.size b v t2 false w2) : ∃ v2, PS w w2 b v2 t2 vr vt c ∧ Fr b v v2 wr w2 := by
  obtain ⟨v2, hp, hf⟩ := hw
  exact ⟨v2, ⟨hp, ⟨h.pr.keepT hf h.box.heap (by decide) (by have := h.gt; omega), h.box.below.trans (h.pr.below hf)⟩, h.gt⟩, hf⟩
theorem PS.new {w w2 : World} {vr vt : Value} {c : Cf} (hbox : BoxAt w w2 w.heap.size vr vt c) (hlt : w.heap.size < w2.heap.size) :
    PS w (w2.alloc (.cells #[.pointer none, .slice none 0 0, .bool false] 46)) w2.heap.size (.slice none 0 0) [] vr vt c := by
  have hb := (Below.refl w2.heap.size w2).alloc (Nat.le_refl _) (.cells #[.pointer none, .slice none 0 0, .bool false] 46)
  refine ⟨⟨by omega, by simp; omega, ⟨_, .inl rfl, heap_alloc_new w2 _⟩, OwnB.nil, fun a n c h => by cases h⟩, ⟨(hb.block _ hlt).trans hbox.heap, hbox.below.trans (hb.mono (by omega))⟩, hlt⟩

/-- Rows of other types than bytes stand, but for the printer's. -/
def KeepT (b : Nat) (wr w2 : World) : Prop := ∀ k cs tt, wr.heap[k]? = some (.cells cs tt (0, 0)) → tt ≠ 5 → k ≠ b → w2.heap[k]? = some (.cells cs tt (0, 0))
theorem KeepT.trans {b : Nat} {w w1 w2 : World} (h : KeepT b w w1) (h' : KeepT b w1 w2) : KeepT b w w2 := fun k cs tt h1 h2 h3 => h' k cs tt (h k cs tt h1 h2 h3) h2 h3
theorem KeepT.below {b : Nat} {w w1 : World} (h : Below w.heap.size w w1) : KeepT b w w1 := fun k cs tt h1 _ _ => (h.block k (Array.getElem?_eq_some_iff.1 h1).1).trans h1
/-- What a write to the printer comes to. -/
def Pd (w wr w2 : World) (b : Nat) (t2 : Bs) (vr vt : Value) (c : Cf) : Prop := ∃ v2, PS w w2 b v2 t2 vr vt c ∧ KeepT b wr w2
section
variable {w wr : World} {b : Nat} {v : Value} {t : Bs} {vr vt : Value} {c : Cf}
theorem PS.done {w1 w2 : World} {t2 : Bs} (h : PS w w1 b v t vr vt c) (hb : KeepT b wr w1) (hw : Wrote w1 w.heap.size b v t2 false w2) : Pd w wr w2 b t2 vr vt c := by
  obtain ⟨v2, h2, hf⟩ := h.wrote hw
  exact ⟨v2, h2, hb.trans fun k cs tt h1 h2 h3 => h.pr.keepT hf h1 h2 h3⟩
theorem PS.str (h : PS w wr b v t vr vt c) (m : Bs) (hl : t.length + m.length ≤ 140737488355328) :
    Calls Tryd.prog 14 #[.pointer (some ⟨b, 0, none⟩), str m] wr fun e w' => e = .returned (.tuple #[.int .i64 m.length, .nilIface]) ∧ Pd w wr w' b (t ++ m) vr vt c :=
  (writeString_any h.pr m hl).mono fun _ _ ⟨he, hw⟩ => ⟨he, h.done (.below (Below.refl _ _)) hw⟩
theorem PS.nl (h : PS w wr b v t vr vt c) (hl : t.length ≤ 100000000) :
    Calls Tryd.prog 16 #[.pointer (some ⟨b, 0, none⟩), .int .u8 10] wr fun e w' => e = .returned .nilIface ∧ Pd w wr w' b (t ++ [10]) vr vt c :=
  (writeByte_any h.pr 10 10 rfl (by omega)).mono fun _ _ ⟨he, hw⟩ => ⟨he, h.done (.below (Below.refl _ _)) hw⟩
theorem PS.nums (h : PS w wr b v t vr vt c) (hs : Std w w.heap.size) (ns : List Int) (n : Nat) (hn : n = ns.length) (cs : Array Value) (hcs : cs = (ns.map (Value.int .i64)).toArray) (hok : ∀ n ∈ ns, Ok n) (hl : t.length + 20 * ns.length ≤ 100000000) :
    Calls Tryd.prog 15 #[.pointer (some ⟨b, 0, none⟩), .slice (some ⟨wr.heap.size, 0, none⟩) n n] (wr.alloc (.cells cs 3)) fun e w' => e = .returned (.tuple #[]) ∧ Pd w wr w' b (t ++ ns.flatMap num) vr vt c := by
  subst hn hcs
  have hb := (Below.refl wr.heap.size wr).alloc (Nat.le_refl _) (.cells (ns.map (Value.int .i64)).toArray 3)
  have h1 := h.next hb
  exact (numbers_any h1.pr (hs.kept h1.box.below) ns wr.heap.size (heap_alloc_new wr _) (by have := h.pr.lt; omega) hok hl).mono fun _ _ ⟨he, hw⟩ => ⟨he, h1.done (.below hb) hw⟩
theorem PS.bytesOf (h : PS w wr b v t vr vt c) (l : Bs) (hsh : Short l) (hl : t.length + 2 * l.length ≤ 100000000) :
    Calls Tryd.prog 17 #[.pointer (some ⟨b, 0, none⟩), .slice (some ⟨wr.heap.size, 0, none⟩) l.length (grownCap wr l.length 0 5)] (Lib.bytesWorld wr 5 ⟨l.toArray⟩) fun e w' => e = .returned (.tuple #[]) ∧ Pd w wr w' b (t ++ wd l) vr vt c := by
  have hb := below_bytesWorld wr 5 ⟨l.toArray⟩
  have h1 := h.next hb
  refine (bytes_any h1.pr _ l (reads_bytesWorld wr l hsh) ?_ hl).mono fun _ _ ⟨he, hw⟩ => ⟨he, h1.done (.below hb) hw⟩
  intro a n cc e _
  injection e with e _ _
  injection e with e
  subst e
  exact ⟨by have := h.pr.lt; simp only; omega, fun e => by have := (h.pr.ownlo e).2; simp at this⟩
theorem PS.bytesIn (h : PS w wr b v t vr vt c) (s : Value) (l : Bs) (hr : Reads w s l) (hl : t.length + 2 * l.length ≤ 100000000) :
    Calls Tryd.prog 17 #[.pointer (some ⟨b, 0, none⟩), s] wr fun e w' => e = .returned (.tuple #[]) ∧ Pd w wr w' b (t ++ wd l) vr vt c := by
  refine (bytes_any h.pr _ l (hr.kept h.box.below) ?_ hl).mono fun _ _ ⟨he, hw⟩ => ⟨he, h.done (.below (Below.refl _ _)) hw⟩
  obtain ⟨_, a, cc, rfl, h2⟩ := hr
  intro a' n' cc' e hn
  injection e with e e2 _
  subst e2
  obtain ⟨q, qo, rfl, hq, _⟩ := h2 (fun e => hn (by rw [e]; rfl))
  injection e with e
  subst e
  exact ⟨by have := h.pr.lo; simp only; omega, fun e => by have := (h.pr.ownlo e).1; simp at this; omega⟩
end

set_option maxRecDepth 100000 in
set_option maxHeartbeats 3200000 in
theorem scPrint_neg (vr vt va : Value) (c : Cf) (al : List Ac) (w : World) (hc : CfAt w vr vt c) (ha : AcAt w va al) (hneg : below c al = true) :
    Calls Tryd.prog 7 #[cfVal vr vt c, va] w fun e w' => e = .returned (.tuple #[str [], .int .i64 2]) ∧ Below w.heap.size w w' := by
  obtain ⟨hr1, R, cR, rfl, _⟩ := hc.routes
  obtain ⟨ht1, T, cT, rfl, _⟩ := hc.types
  have hB1 := (Below.refl w.heap.size w).alloc (Nat.le_refl _) (.cells #[.slice R c.routes.length cR, .slice T c.types.length cT, .int .i64 c.level, .int .i64 c.minSize, .int .i64 c.cap, .int .i64 c.buffer, .int .i64 c.timeout] 25)
  have H1 := Lib.hid (And.intro (hc.kept hB1) (ha.kept hB1))
  have HB := Lib.hid hB1
  clear hc ha hB1
  go_enter Tryd.func7, Tryd.ntmps7
  go_wp2_with (go_at_call 12; refine (scBelow_any _ _ _ _ _ _ H1.out.1 H1.out.2).mono ?_; rw [hneg]; rintro e w1 ⟨rfl, hb1⟩)
  go_ret2
  exact ⟨rfl, HB.out.trans (hb1.mono (by simp))⟩

set_option maxRecDepth 100000 in
set_option maxHeartbeats 3200000 in
theorem scPrint_ok (vr vt va : Value) (c : Cf) (al : List Ac) (w : World) (hs : Std w w.heap.size) (hc : CfAt w vr vt c) (ha : AcAt w va al) (hneg : below c al = false) (hcok : c.Ok) (haok : ∀ a ∈ al, a.Ok) (ht : total c al < 20000) :
    Calls Tryd.prog 7 #[cfVal vr vt c, va] w fun e w' => e = .returned (.tuple #[str (text c al), .int .i64 0]) ∧ Below w.heap.size w w' := by
  have htl := text_len hcok haok
  obtain ⟨hr1, R, cR, rfl, hR⟩ := hc.routes
  obtain ⟨ht1, T, cT, rfl, hT⟩ := hc.types
  have hB1 := (Below.refl w.heap.size w).alloc (Nat.le_refl _) (.cells #[.slice R c.routes.length cR, .slice T c.types.length cT, .int .i64 c.level, .int .i64 c.minSize, .int .i64 c.cap, .int .i64 c.buffer, .int .i64 c.timeout] 25)
  have H1 := Lib.hid (And.intro (hc.kept hB1) (ha.kept hB1))
  have HB := Lib.hid hB1
  obtain ⟨ds, ha, hd⟩ := ha.row
  obtain ⟨ha1, A, cA, rfl, hA⟩ := ha
  have HR := Lib.hid hR
  have HT := Lib.hid hT
  have HA := Lib.hid hA
  have HD := Lib.hid hd
  clear hB1 hR hT hA hd
  have HC := Lib.hid hcok
  have HAO := Lib.hid haok
  have HBX : Hid (BoxAt w (w.alloc (.cells #[.slice R c.routes.length cR, .slice T c.types.length cT, .int .i64 c.level, .int .i64 c.minSize, .int .i64 c.cap, .int .i64 c.buffer, .int .i64 c.timeout] 25)) w.heap.size (.slice R c.routes.length cR) (.slice T c.types.length cT) c) := Lib.hid ⟨heap_alloc_new w _, HB.out⟩
  clear hcok haok hc
  go_enter Tryd.func7, Tryd.ntmps7
  go_wp2_with fail
  go_at_call 12
  refine (scBelow_any _ _ _ _ _ _ H1.out.1 H1.out.2).mono ?_
  rw [hneg]
  rintro e w1 ⟨rfl, hb1⟩
  have hx1 : BoxAt w w1 w.heap.size (.slice R c.routes.length cR) (.slice T c.types.length cT) c := ⟨(hb1.block _ (by simp)).trans HBX.out.heap, HBX.out.below.trans (hb1.mono (by simp))⟩
  have hlt1 : w.heap.size < w1.heap.size := by have := hb1.size; simp at this; omega
  have H2 := Lib.hid (And.intro (H1.out.1.kept hb1) (H1.out.2.kept hb1))
  have b0 := hx1.cell 0
  have b1 := hx1.cell 1
  have b2 := hx1.cell 2
  have b3 := hx1.cell 3
  have b4 := hx1.cell 4
  have b5 := hx1.cell 5
  have b6 := hx1.cell 6
  simp only [List.getElem?_toArray, List.getElem?_cons_zero, List.getElem?_cons_succ] at b0 b1 b2 b3 b4 b5 b6
  clear hb1
  go_wp2_with fail
  go_at_call 13
  refine (scLarge_any _ _ _ _ _ _ H2.out.1 H2.out.2 ht).mono ?_
  rintro e w2 ⟨rfl, hb2⟩
  have hx2 : BoxAt w w2 w.heap.size (.slice R c.routes.length cR) (.slice T c.types.length cT) c := ⟨(hb2.block _ hlt1).trans hx1.heap, hx1.below.trans (hb2.mono (by omega))⟩
  have hlt2 : w.heap.size < w2.heap.size := by have := hb2.size; omega
  have HP0 := Lib.hid (PS.new hx2 hlt2)
  clear hx1 hx2 hb2 b0 b1 b2 b3 b4 b5 b6 H1 H2 HBX HB
  go_wp2_with fail
  go_at_call 14
  refine (HP0.out.str kwConfig (by simp [kwConfig])).mono ?_
  rintro e w3 ⟨rfl, v3, hp3, _⟩
  have b2 := hp3.box.cell 2
  have b3 := hp3.box.cell 3
  have b4 := hp3.box.cell 4
  have b5 := hp3.box.cell 5
  have b6 := hp3.box.cell 6
  simp only [List.getElem?_toArray, List.getElem?_cons_zero, List.getElem?_cons_succ] at b2 b3 b4 b5 b6
  have HP3 := Lib.hid hp3
  clear hp3
  go_wp2_with fail
  go_at_call 15
  refine (HP3.out.nums hs [c.level, c.minSize, c.cap, c.buffer, c.timeout] 5 rfl _ rfl (fun n hn => by
      obtain ⟨k1, k2, k3, k4, k5, k6⟩ := HC.out
      simp only [List.mem_cons, List.mem_nil_iff, or_false] at hn
      rcases hn with rfl | rfl | rfl | rfl | rfl <;> assumption) (by simp [kwConfig])).mono ?_
  rintro e w4 ⟨rfl, v4, hp4, _⟩
  have HP4 := Lib.hid hp4
  clear hp4 HP3 b2 b3 b4 b5 b6
  have htt : ([] ++ kwConfig ++ [c.level, c.minSize, c.cap, c.buffer, c.timeout].flatMap num) ++ [10] = joinL [cfLine c] := by simp [joinL, cfLine]
  have hll : (([] ++ kwConfig ++ [c.level, c.minSize, c.cap, c.buffer, c.timeout].flatMap num) ++ [10]).length ≤ 100200 := by
    rw [htt]
    have := pre_rt (c := c) (al := al) 0
    simp only [List.take_zero, List.map_nil] at this
    omega
  have HTT := Lib.hid htt
  simp only [List.length_append, List.length_cons, List.length_nil] at hll
  clear htt
  go_wp2_with fail
  go_at_call 16
  refine (HP4.out.nl (by simp only [List.length_append, List.length_nil]; omega)).mono ?_
  rintro e w5 ⟨rfl, v5, hp5, _⟩
  rw [HTT.out] at hp5
  clear HP4 HTT hll HP0 hlt1 hlt2
  have b0 := hp5.box.cell 0
  simp only [List.getElem?_toArray, List.getElem?_cons_zero, List.getElem?_cons_succ] at b0
  have HP5 := Lib.hid hp5
  clear hp5
  generalize w2.heap.size = b at *
  go_wp2_with fail
  clear b0
  go_loopw [38] (fun i wr => ∃ (k : Nat) (v : Value), k ≤ c.routes.length ∧ i = .int .i64 k ∧ PS w wr b v (joinL (cfLine c :: (c.routes.take k).map rtLine)) (.slice R c.routes.length cR) (.slice T c.types.length cT) c) (fun i _ => c.routes.length - (intOf i).toNat)
  case atStart => exact ⟨0, v5, Nat.zero_le _, rfl, by simpa using HP5.out⟩
  case round =>
    clear HP5
    obtain ⟨k, v, hk, rfl, hp⟩ := hrel
    have hbel := hp.box.below
    by_cases hlt : k < c.routes.length
    · obtain ⟨p, po, rfl, hpb, hpc⟩ := HR.out (by omega)
      have c0 := (cell_kept hbel hpb).trans (hpc k 0 hlt (by omega))
      have c1 := (cell_kept hbel hpb).trans (hpc k 1 hlt (by omega))
      have c2 := (cell_kept hbel hpb).trans (hpc k 2 hlt (by omega))
      simp only [rtCell, List.getElem?_eq_getElem hlt, Option.map_some, Option.getD_some, Nat.add_zero] at c0 c1 c2
      have hup := HC.out.2.2.2.2.2 _ (List.getElem_mem hlt)
      have hsum : c.routes[k].host.length + c.routes[k].pre.length ≤ (c.routes.map rtLen).sum := le_sum rtLen hlt
      have hsum2 : (c.routes.map rtLen).sum ≤ total c al := by rw [total_eq]; omega
      have hlen := pre_rt (c := c) (al := al) k
      have hsh : Short c.routes[k].host := by unfold Short; omega
      have hsp : Short c.routes[k].pre := by unfold Short; omega
      have HUP := Lib.hid hup
      have hg := hp.pr.lt
      have hB1 := (Below.refl wr.heap.size wr).alloc (Nat.le_refl _) (.cells #[str c.routes[k].host, str c.routes[k].pre, .int .i64 c.routes[k].up] 41)
      have hp1 := hp.next hB1
      have HP1 := Lib.hid hp1
      have hbk : wr.heap.size ≠ b := by omega
      clear hpc hp hB1 hup hp1 hg
      go_wp2_with fail
      go_at_call 14
      refine (HP1.out.str kwRoute (by simp only [kwRoute, List.length_cons, List.length_nil]; omega)).mono ?_
      rintro e x1 ⟨rfl, v1, hp2, hk2⟩
      have hr1 := hk2 _ _ _ (heap_alloc_new wr _) (by decide) hbk
      have d0 : x1.cell? ⟨wr.heap.size, 0, none⟩ = some (str c.routes[k].host) := by rw [Lib.cell_of_heap hr1]; rfl
      have HP2 := Lib.hid hp2
      have HR1 := Lib.hid hr1
      clear hp2 hr1 hk2 HP1
      go_wp2_with fail
      go_at_call 17
      refine (HP2.out.bytesOf _ hsh (by simp only [kwRoute, List.length_append, List.length_cons, List.length_nil]; omega)).mono ?_
      rintro e x2 ⟨rfl, v2, hp3, hk3⟩
      have hr2 := hk3 _ _ _ HR1.out (by decide) hbk
      have d1 : x2.cell? ⟨wr.heap.size, 1, none⟩ = some (str c.routes[k].pre) := by rw [Lib.cell_of_heap hr2]; rfl
      have HP3 := Lib.hid hp3
      have HR2 := Lib.hid hr2
      clear hp3 hr2 hk3 HP2 HR1 d0
      go_wp2_with fail
      go_at_call 17
      refine (HP3.out.bytesOf _ hsp (by simp only [kwRoute, List.length_append, List.length_cons, List.length_nil, wd_len]; omega)).mono ?_
      rintro e x3 ⟨rfl, v3', hp4, hk4⟩
      have hr3 := hk4 _ _ _ HR2.out (by decide) hbk
      have d2 : x3.cell? ⟨wr.heap.size, 2, none⟩ = some (.int .i64 c.routes[k].up) := by rw [Lib.cell_of_heap hr3]; rfl
      have HP4 := Lib.hid hp4
      clear hp4 hr3 hk4 HP3 HR2 d1
      go_wp2_with fail
      go_at_call 15
      refine (HP4.out.nums hs [c.routes[k].up] 1 rfl _ rfl (fun n hn => by
          simp only [List.mem_cons, List.mem_nil_iff, or_false] at hn
          subst hn
          exact HUP.out) (by simp only [kwRoute, List.length_append, List.length_cons, List.length_nil, wd_len]; omega)).mono ?_
      rintro e x4 ⟨rfl, v4', hp5, _⟩
      have HP5 := Lib.hid hp5
      have hnl := num_len HUP.out
      have htt : ((((joinL (cfLine c :: (c.routes.take k).map rtLine) ++ kwRoute) ++ wd c.routes[k].host) ++ wd c.routes[k].pre) ++ [c.routes[k].up].flatMap num) ++ [10] = joinL (cfLine c :: (c.routes.take (k + 1)).map rtLine) := by
        rw [lines_rt c hlt]; simp [rtLine, List.append_assoc]
      have HTT := Lib.hid htt
      clear hp5 HP4 d2 htt
      go_wp2_with fail
      go_at_call 16
      refine (HP5.out.nl (by simp only [kwRoute, List.length_append, List.length_cons, List.length_nil, wd_len, List.flatMap_cons, List.flatMap_nil]; omega)).mono ?_
      rintro e x5 ⟨rfl, v5', hp6, _⟩
      rw [HTT.out] at hp6
      clear HTT HP5 hnl
      go_wp2_with fail
      go_roundw
      case rel => exact ⟨k + 1, v5', by omega, by go_num, hp6⟩
      case measure => simp [intOf]; omega
    · have hkk : k = c.routes.length := by omega
      subst hkk
      rw [List.take_length] at hp
      have b1 := hp.box.cell 1
      simp only [List.getElem?_toArray, List.getElem?_cons_zero, List.getElem?_cons_succ] at b1
      have HP5 := Lib.hid hp
      clear hp hbel HR
      go_wp2_with fail
      clear b1
      go_loopw [62] (fun i wr => ∃ (k : Nat) (v : Value), k ≤ c.types.length ∧ i = .int .i64 k ∧ PS w wr b v (joinL (cfLine c :: (c.routes.map rtLine ++ (c.types.take k).map tyLine))) (.slice R c.routes.length cR) (.slice T c.types.length cT) c) (fun i _ => c.types.length - (intOf i).toNat)
      case atStart => exact ⟨0, v, Nat.zero_le _, rfl, by simpa using HP5.out⟩
      case round =>
        clear HP5
        obtain ⟨k, v, hk, rfl, hp⟩ := hrel
        have hbel := hp.box.below
        by_cases hlt : k < c.types.length
        · obtain ⟨p, po, rfl, hpb, hpc⟩ := HT.out (by omega)
          have c0 := (cell_kept hbel hpb).trans (hpc k 0 hlt (by omega))
          simp only [tyCell, List.getElem?_eq_getElem hlt, Option.getD_some, Nat.add_zero, Nat.mul_one] at c0
          have hsum : c.types[k].length ≤ (c.types.map List.length).sum := le_sum List.length hlt
          have hsum2 : (c.types.map List.length).sum ≤ total c al := by rw [total_eq]; omega
          have hlen := pre_ty (c := c) (al := al) k
          have hsh : Short c.types[k] := by unfold Short; omega
          have HP1 := Lib.hid hp
          clear hpc hp
          go_wp2_with fail
          go_at_call 14
          refine (HP1.out.str kwType (by simp only [kwType, List.length_cons, List.length_nil]; omega)).mono ?_
          rintro e x1 ⟨rfl, v1, hp2, _⟩
          have HP2 := Lib.hid hp2
          clear hp2 HP1
          go_wp2_with fail
          go_at_call 17
          refine (HP2.out.bytesOf _ hsh (by simp only [kwType, List.length_append, List.length_cons, List.length_nil]; omega)).mono ?_
          rintro e x2 ⟨rfl, v2, hp3, _⟩
          have HP3 := Lib.hid hp3
          have htt : (joinL (cfLine c :: (c.routes.map rtLine ++ (c.types.take k).map tyLine)) ++ kwType ++ wd c.types[k]) ++ [10] = joinL (cfLine c :: (c.routes.map rtLine ++ (c.types.take (k + 1)).map tyLine)) := by
            rw [lines_ty c hlt]; simp [tyLine, List.append_assoc]
          have HTT := Lib.hid htt
          clear hp3 HP2 htt
          go_wp2_with fail
          go_at_call 16
          refine (HP3.out.nl (by simp only [kwType, List.length_append, List.length_cons, List.length_nil, wd_len]; omega)).mono ?_
          rintro e x5 ⟨rfl, v5', hp6, _⟩
          rw [HTT.out] at hp6
          clear HTT HP3
          go_wp2_with fail
          go_roundw
          case rel => exact ⟨k + 1, v5', by omega, by go_num, hp6⟩
          case measure => simp [intOf]; omega
        · have hkk : k = c.types.length := by omega
          subst hkk
          rw [List.take_length] at hp
          have HP5 := Lib.hid hp
          clear hp hbel HT
          go_wp2_with fail
          go_loopw [76] (fun i wr => ∃ (k : Nat) (v : Value), k ≤ al.length ∧ i = .int .i64 k ∧ PS w wr b v (joinL (cfLine c :: (c.routes.map rtLine ++ c.types.map tyLine ++ (al.take k).map acLine))) (.slice R c.routes.length cR) (.slice T c.types.length cT) c) (fun i _ => al.length - (intOf i).toNat)
          case atStart => exact ⟨0, v, Nat.zero_le _, rfl, by simpa using HP5.out⟩
          case round =>
            clear HP5
            obtain ⟨k, v, hk, rfl, hp⟩ := hrel
            have hbel := hp.box.below
            by_cases hlt : k < al.length
            · obtain ⟨p, po, rfl, hpb, hpc⟩ := HA.out (by omega)
              have c0 := (cell_kept hbel hpb).trans (hpc k 0 hlt (by omega))
              have c1 := (cell_kept hbel hpb).trans (hpc k 1 hlt (by omega))
              have c2 := (cell_kept hbel hpb).trans (hpc k 2 hlt (by omega))
              have c3 := (cell_kept hbel hpb).trans (hpc k 3 hlt (by omega))
              have hrd := HD.out k hlt
              obtain ⟨l0, dA, dC, hd1, _⟩ := HD.out k hlt
              simp only [acCell, List.getElem?_eq_getElem hlt, Option.map_some, Option.getD_some, Nat.add_zero] at c0 c1 c2 c3 hd1 hrd
              rw [hd1] at c3 hrd
              have hok := HAO.out _ (List.getElem_mem hlt)
              have hsum : al[k].data.length ≤ (al.map dLen).sum := le_sum dLen hlt
              have hsum2 : (al.map dLen).sum ≤ total c al := by rw [total_eq]; omega
              have hlen := pre_ac (c := c) (al := al) k
              have HOK := Lib.hid hok
              have HRD := Lib.hid hrd
              have hg := hp.pr.lt
              have hB1 := (Below.refl wr.heap.size wr).alloc (Nat.le_refl _) (.cells #[.int .i64 al[k].kind, .int .i64 al[k].conn, .int .i64 al[k].n, .slice dA al[k].data.length dC] 39)
              have HP1 := Lib.hid (hp.next hB1)
              have hbk : wr.heap.size ≠ b := by omega
              clear hpc hp hB1 hok hg hd1 hrd l0
              go_wp2_with fail
              go_at_call 14
              refine (HP1.out.str kwAct (by simp only [kwAct, List.length_cons, List.length_nil]; omega)).mono ?_
              rintro e x1 ⟨rfl, v1, hp2, hk2⟩
              have hr1 := hk2 _ _ _ (heap_alloc_new wr _) (by decide) hbk
              have d0 : x1.cell? ⟨wr.heap.size, 0, none⟩ = some (.int .i64 al[k].kind) := by rw [Lib.cell_of_heap hr1]; rfl
              have d1 : x1.cell? ⟨wr.heap.size, 1, none⟩ = some (.int .i64 al[k].conn) := by rw [Lib.cell_of_heap hr1]; rfl
              have d2 : x1.cell? ⟨wr.heap.size, 2, none⟩ = some (.int .i64 al[k].n) := by rw [Lib.cell_of_heap hr1]; rfl
              have HP2 := Lib.hid hp2
              have HR1 := Lib.hid hr1
              clear hp2 hr1 hk2 HP1
              go_wp2_with fail
              go_at_call 15
              refine (HP2.out.nums hs [al[k].kind, al[k].conn, al[k].n] 3 rfl _ rfl (fun n hn => by
                  simp only [List.mem_cons, List.mem_nil_iff, or_false] at hn
                  obtain ⟨o1, o2, o3⟩ := HOK.out
                  rcases hn with rfl | rfl | rfl <;> assumption) (by simp only [kwAct, List.length_append, List.length_cons, List.length_nil]; omega)).mono ?_
              rintro e x2 ⟨rfl, v2, hp3, hk3⟩
              have hr2 := hk3 _ _ _ HR1.out (by decide) hbk
              have d3 : x2.cell? ⟨wr.heap.size, 3, none⟩ = some (.slice dA al[k].data.length dC) := by rw [Lib.cell_of_heap hr2]; rfl
              have HP3 := Lib.hid hp3
              have hnl := nums_len (ns := [al[k].kind, al[k].conn, al[k].n]) (fun n hn => by
                  simp only [List.mem_cons, List.mem_nil_iff, or_false] at hn
                  obtain ⟨o1, o2, o3⟩ := HOK.out
                  rcases hn with rfl | rfl | rfl <;> assumption)
              simp only [List.length_cons, List.length_nil] at hnl
              clear hp3 hr2 hk3 HP2 HR1 d0 d1 d2
              go_wp2_with fail
              go_at_call 17
              refine (HP3.out.bytesIn _ _ HRD.out (by simp only [kwAct, List.length_append, List.length_cons, List.length_nil]; omega)).mono ?_
              rintro e x3 ⟨rfl, v3', hp4, _⟩
              have HP4 := Lib.hid hp4
              have htt : (joinL (cfLine c :: (c.routes.map rtLine ++ c.types.map tyLine ++ (al.take k).map acLine)) ++ kwAct ++ [al[k].kind, al[k].conn, al[k].n].flatMap num ++ wd al[k].data) ++ [10] = joinL (cfLine c :: (c.routes.map rtLine ++ c.types.map tyLine ++ (al.take (k + 1)).map acLine)) := by
                rw [lines_ac c al hlt]; simp [acLine, List.append_assoc]
              have HTT := Lib.hid htt
              clear hp4 HP3 htt d3
              go_wp2_with fail
              go_at_call 16
              refine (HP4.out.nl (by simp only [kwAct, List.length_append, List.length_cons, List.length_nil, wd_len]; omega)).mono ?_
              rintro e x5 ⟨rfl, v5', hp6, _⟩
              rw [HTT.out] at hp6
              clear HTT HP4 hnl
              go_wp2_with fail
              go_roundw
              case rel => exact ⟨k + 1, v5', by omega, by go_num, hp6⟩
              case measure => simp [intOf]; omega
            · have hkk : k = al.length := by omega
              subst hkk
              rw [List.take_length] at hp
              have hne : text c al ≠ [] := by unfold text allLines; rw [joinL_cons]; simp
              have HP5 : Hid (PS w wr b v (text c al) (.slice R c.routes.length cR) (.slice T c.types.length cT) c) := Lib.hid hp
              clear hp hbel
              have hd : decide (4194304 < ((text c al).length : Int)) = false := by simp; omega
              go_wp2_with fail
              go_at_call 18
              refine (len_any HP5.out.pr).mono ?_
              rintro e x ⟨rfl, rfl⟩
              go_wp2_with fail
              go_at_call 19
              refine (string_any HP5.out.pr hne).mono ?_
              rintro e x ⟨rfl, hb⟩
              have hbb := HP5.out.box.below.trans hb
              clear HP5 hd hne hb
              go_wp2_with fail
              go_ret2
              exact ⟨rfl, hbb⟩
end Go.Proofs.YtkankjblpmmikaaDoor.Sc
