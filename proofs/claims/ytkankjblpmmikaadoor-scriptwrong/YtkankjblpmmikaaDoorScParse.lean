/- The walk of Parse. -/
import Derived.Test.YtkankjblpmmikaaDoorScLine
set_option linter.unusedSimpArgs false
set_option linter.unusedVariables false
namespace Go.Proofs.YtkankjblpmmikaaDoor.Sc
open Go.RowKit Hp

theorem own_rowAt {w : World} {B e size n : Nat} {v : Value} {xs : List Value} (h : OwnR w B e size v n xs) (hn : n ≤ 140737488355328) (f : Nat → Nat → Value) (hf : ∀ i j, i < n → j < size → xs[i * size + j]? = some (f i j)) : RowAt w v n size f := by
  obtain ⟨a, c, rfl⟩ := h.slice
  refine ⟨hn, a, c, rfl, fun h0 => ?_⟩
  rcases h.2 with ⟨hv, hn0⟩ | ⟨g, off, cap, cur, fr, hv, _, hg, _⟩
  · omega
  · injection hv with e1 _ e3
    subst e1 e3
    refine ⟨g, off, rfl, (Array.getElem?_eq_some_iff.1 hg).1, fun i j hi hj => ?_⟩
    rw [Nat.add_assoc]
    exact h.cells rfl (i * size + j) _ (hf i j hi hj)
theorem flat3 (rs : List Rt) : ∀ i j, i < rs.length → j < 3 → (rs.flatMap rtCells)[i * 3 + j]? = some (rtCell rs i j) := by
  induction rs with
  | nil => intro i j h; simp at h
  | cons r rs ih =>
    intro i j hi hj
    cases i with
    | zero =>
      match j, hj with
      | 0, _ => simp [rtCells, rtCell]
      | 1, _ => simp [rtCells, rtCell]
      | 2, _ => simp [rtCells, rtCell]
    | succ i =>
      have := ih i j (by simpa using hi) hj
      rw [List.flatMap_cons, List.getElem?_append_right (by simp [rtCells]; omega)]
      simp only [rtCells, List.length_cons, List.length_nil]
      rw [show (i + 1) * 3 + j - (0 + 1 + 1 + 1) = i * 3 + j from by omega, this]
      unfold rtCell
      split <;> simp
theorem flat1 (ts : List Bs) : ∀ i j, i < ts.length → j < 1 → (ts.map str)[i * 1 + j]? = some (tyCell ts i j) := by
  intro i j hi hj
  obtain rfl : j = 0 := by omega
  simp [tyCell, hi]
theorem flat4 : ∀ (al : List Ac) (ds : List Value), ds.length = al.length → ∀ i j, i < al.length → j < 4 → (acsCells al ds)[i * 4 + j]? = some (acCell al (fun i => ds[i]?.getD undef) i j)
  | [], _, _ => by intro i j h; simp at h
  | a :: al, [], h => by simp at h
  | a :: al, d :: ds, h => by
    intro i j hi hj
    cases i with
    | zero =>
      match j, hj with
      | 0, _ => simp [acsCells, acCells, acCell]
      | 1, _ => simp [acsCells, acCells, acCell]
      | 2, _ => simp [acsCells, acCells, acCell]
      | 3, _ => simp [acsCells, acCells, acCell]
    | succ i =>
      have := flat4 al ds (by simpa using h) i j (by simpa using hi) hj
      rw [acsCells, List.getElem?_append_right (by simp [acCells]; omega)]
      simp only [acCells, List.length_cons, List.length_nil]
      rw [show (i + 1) * 4 + j - (0 + 1 + 1 + 1 + 1) = i * 4 + j from by omega, this]
      unfold acCell
      split <;> simp
theorem FlAt.cfAt {w : World} {B f N : Nat} {vr vt va : Value} {ds : List Value} {F : Fl} (h : FlAt w B f vr vt va ds N F) (hN : N ≤ 10000000) : CfAt w vr vt F.cf ∧ AcAt w va F.acts := by
  have hf := h.few
  refine ⟨⟨own_rowAt h.routes (by omega) _ (flat3 _), own_rowAt h.types (by omega) _ (flat1 _), fun r hr => ?_, fun t ht => ?_⟩, ⟨_, own_rowAt h.acts (by omega) _ (flat4 _ _ h.dl), fun i hi => (h.data i hi).reads⟩⟩
  · have := h.small r hr; omega
  · have := h.short t ht; omega
theorem cfAt_zero (w : World) : CfAt w (.slice none 0 0) (.slice none 0 0) Cf.zero := ⟨⟨by decide, none, 0, rfl, fun h => absurd h (by decide)⟩, ⟨by decide, none, 0, rfl, fun h => absurd h (by decide)⟩, (fun r hr => by cases hr), (fun r hr => by cases hr)⟩
theorem acAt_nil (w : World) : AcAt w (.slice none 0 0) [] := ⟨fun _ => undef, ⟨by decide, none, 0, rfl, fun h => absurd h (by decide)⟩, fun i hi => absurd hi (by simp)⟩

/-- What Parse comes to. -/
def Parsed (w : World) (g : Got) (e : Ending) (w' : World) : Prop :=
  ∃ vr vt va, e = .returned (.tuple #[cfVal vr vt g.cf, va, .int .i64 g.n, .int .i64 g.e]) ∧ CfAt w' vr vt g.cf ∧ AcAt w' va g.acts ∧ Below w.heap.size w w'

theorem FlAt.zero (w : World) : FlAt ((w.alloc (.cells #[.slice none 0 0, .slice none 0 0, .int .i64 0, .int .i64 0, .int .i64 0, .int .i64 0, .int .i64 0] 25)).alloc (.cells #[.slice none 0 0, .slice none 0 0, .int .i64 0, .int .i64 0, .int .i64 0, .int .i64 0, .int .i64 0, .slice none 0 0] 57))
    (w.heap.size + 1) (w.heap.size + 1) (.slice none 0 0) (.slice none 0 0) (.slice none 0 0) [] 1 Fl.zero := by
  have hn := heap_alloc_new (w.alloc (.cells #[.slice none 0 0, .slice none 0 0, .int .i64 0, .int .i64 0, .int .i64 0, .int .i64 0, .int .i64 0] 25)) (.cells #[.slice none 0 0, .slice none 0 0, .int .i64 0, .int .i64 0, .int .i64 0, .int .i64 0, .int .i64 0, .slice none 0 0] 57)
  refine ⟨Nat.le_refl _, by simp, by simpa [Fl.zero, Cf.zero] using hn, ?_, ?_, ?_, rfl, fun i hi => by simp [Fl.zero] at hi, by simp [Fl.zero, Cf.zero], fun r hr => by simp [Fl.zero, Cf.zero] at hr, fun r hr => by simp [Fl.zero, Cf.zero] at hr⟩
  · simpa [Fl.zero, Cf.zero] using OwnR.nil
  · simpa [Fl.zero, Cf.zero] using OwnR.nil
  · simpa [Fl.zero, acsCells] using OwnR.nil
/-- 'strings.Cut' at a line's end. -/
theorem cut_any (s : Bs) (hl : s.length ≤ 4194304) {w : World} {B : Nat} (hs : Std w B) :
    Calls Tryd.prog 20 #[str s, str [10]] w fun e w' => e = .returned (.tuple #[str (Lib.cut s [10]).1, str (Lib.cut s [10]).2.1, .bool (Lib.cut s [10]).2.2]) ∧ Below w.heap.size w w' := by
  obtain ⟨m, hm⟩ := hs.maxLen
  exact (Tryd.strings_Cut ⟨s.toArray⟩ ⟨[10].toArray⟩ m w (by simp [ByteArray.size]; omega) hm).mono fun e w' ⟨he, n, hw⟩ => ⟨he, by rw [hw]; exact below_drewN (Below.refl _ _) n⟩
theorem cut_len (s : Bs) : (Lib.cut s [10]).1.length ≤ s.length ∧ ((Lib.cut s [10]).2.2 = true → (Lib.cut s [10]).2.1.length + 1 ≤ s.length) := by
  unfold Lib.cut
  split
  · rename_i h
    have hr := Lib.index_room s [10] h
    simp only [List.length_singleton] at hr
    refine ⟨by simp; omega, fun _ => ?_⟩
    simp only [List.length_drop, List.length_singleton]
    omega
  · exact ⟨Nat.le_refl _, fun h => by cases h⟩

theorem lineM_le (F : Fl) (s : Bs) : (lineM F s).1 ≤ 4 := by
  unfold lineM lineK
  simp only
  repeat' split
  all_goals first | (simp; done) | (simp only; omega) | omega
theorem parseF_at {k n last : Nat} {F : Fl} {s : Bs} {one rest : Bs} {ended : Bool} {kind : Nat} {F' : Fl} (hne : ¬ (s = [] ∧ last ≠ 0)) (hc : Lib.cut s [10] = (one, rest, ended)) (hl : lineM F one = (kind, F')) :
    parseF (k + 1) n last F s = if wrongOrder ended kind last then ⟨Cf.zero, [], n, 9⟩ else parseF k (n + 1) kind F' rest := by
  rw [parseF, if_neg hne]
  simp only [hc, hl]

/-- The configuration's box written: seven cells. -/
def put7 (w : World) (b : Nat) (vr vt : Value) (c : Cf) : World :=
  ((((((w.setCell ⟨b, 0, none⟩ vr).setCell ⟨b, 1, none⟩ vt).setCell ⟨b, 2, none⟩ (.int .i64 c.level)).setCell ⟨b, 3, none⟩ (.int .i64 c.minSize)).setCell ⟨b, 4, none⟩ (.int .i64 c.cap)).setCell ⟨b, 5, none⟩ (.int .i64 c.buffer)).setCell ⟨b, 6, none⟩ (.int .i64 c.timeout)
theorem put7_at {w : World} {b : Nat} {vr vt vr0 vt0 : Value} {c c0 : Cf} (h : w.heap[b]? = some (.cells #[vr0, vt0, .int .i64 c0.level, .int .i64 c0.minSize, .int .i64 c0.cap, .int .i64 c0.buffer, .int .i64 c0.timeout] 25 (0, 0))) :
    (put7 w b vr vt c).heap[b]? = some (.cells #[vr, vt, .int .i64 c.level, .int .i64 c.minSize, .int .i64 c.cap, .int .i64 c.buffer, .int .i64 c.timeout] 25 (0, 0)) ∧ Below b w (put7 w b vr vt c) := by
  refine ⟨by simp [put7, World.setCell, Array.getElem?_modify, h], ?_⟩
  unfold put7
  exact (((((((Below.refl b w).setCell (p := ⟨b, 0, none⟩) (Nat.le_refl _) _).setCell (p := ⟨b, 1, none⟩) (Nat.le_refl _) _).setCell (p := ⟨b, 2, none⟩) (Nat.le_refl _) _).setCell (p := ⟨b, 3, none⟩) (Nat.le_refl _) _).setCell (p := ⟨b, 4, none⟩) (Nat.le_refl _) _).setCell (p := ⟨b, 5, none⟩) (Nat.le_refl _) _).setCell (p := ⟨b, 6, none⟩) (Nat.le_refl _) _
theorem put7_keep {w : World} {b : Nat} {vr vt vr0 vt0 : Value} {c c0 : Cf} (h : w.heap[b]? = some (.cells #[vr0, vt0, .int .i64 c0.level, .int .i64 c0.minSize, .int .i64 c0.cap, .int .i64 c0.buffer, .int .i64 c0.timeout] 25 (0, 0))) : KeepN 25 w (put7 w b vr vt c) := by
  refine ⟨by simp [put7, World.setCell], fun k cs t fr hk ht => ?_⟩
  have hne : k ≠ b := by
    rintro rfl
    rw [h] at hk
    simp only [Option.some.injEq, Obj.cells.injEq] at hk
    exact ht hk.2.1.symm
  unfold put7
  rw [Below.heap_setCell _ _ _ _ hne, Below.heap_setCell _ _ _ _ hne, Below.heap_setCell _ _ _ _ hne, Below.heap_setCell _ _ _ _ hne, Below.heap_setCell _ _ _ _ hne, Below.heap_setCell _ _ _ _ hne, Below.heap_setCell _ _ _ _ hne]
  exact hk
theorem cells7 {w : World} {b : Nat} {vr vt : Value} {c : Cf} (h : w.heap[b]? = some (.cells #[vr, vt, .int .i64 c.level, .int .i64 c.minSize, .int .i64 c.cap, .int .i64 c.buffer, .int .i64 c.timeout] 25 (0, 0))) :
    w.cell? ⟨b, 0, none⟩ = some vr ∧ w.cell? ⟨b, 1, none⟩ = some vt ∧ w.cell? ⟨b, 2, none⟩ = some (.int .i64 c.level) ∧ w.cell? ⟨b, 3, none⟩ = some (.int .i64 c.minSize) ∧ w.cell? ⟨b, 4, none⟩ = some (.int .i64 c.cap) ∧ w.cell? ⟨b, 5, none⟩ = some (.int .i64 c.buffer) ∧ w.cell? ⟨b, 6, none⟩ = some (.int .i64 c.timeout) ∧
    w.frozen? ⟨b, 0, none⟩ = false ∧ w.frozen? ⟨b, 1, none⟩ = false ∧ w.frozen? ⟨b, 2, none⟩ = false ∧ w.frozen? ⟨b, 3, none⟩ = false ∧ w.frozen? ⟨b, 4, none⟩ = false ∧ w.frozen? ⟨b, 5, none⟩ = false ∧ w.frozen? ⟨b, 6, none⟩ = false :=
  ⟨Lib.cell_of_heap h 0, Lib.cell_of_heap h 1, Lib.cell_of_heap h 2, Lib.cell_of_heap h 3, Lib.cell_of_heap h 4, Lib.cell_of_heap h 5, Lib.cell_of_heap h 6, Lib.frozen_of_heap h 0, Lib.frozen_of_heap h 1, Lib.frozen_of_heap h 2, Lib.frozen_of_heap h 3, Lib.frozen_of_heap h 4, Lib.frozen_of_heap h 5, Lib.frozen_of_heap h 6⟩

set_option maxRecDepth 100000 in
set_option maxHeartbeats 3200000 in
theorem parse_any {w : World} (hs : Std w w.heap.size) (t : Bs) (ht : t.length ≤ 4194304) :
    Calls Tryd.prog 9 #[str t] w (Parsed w (parse t)) := by
  have HF := Lib.hid (FlAt.zero w)
  have HP : Hid (parse t = parseF (t.length + 2) 1 0 Fl.zero t) := Lib.hid rfl
  have HS := Lib.hid hs
  clear hs
  go_enter Tryd.func9, Tryd.ntmps9
  go_wp2_with fail
  have HB1 : Hid (Below w.heap.size w ((w.alloc (.cells #[.slice none 0 0, .slice none 0 0, .int .i64 0, .int .i64 0, .int .i64 0, .int .i64 0, .int .i64 0] 25)).alloc (.cells #[.slice none 0 0, .slice none 0 0, .int .i64 0, .int .i64 0, .int .i64 0, .int .i64 0, .int .i64 0, .slice none 0 0] 57))) := Lib.hid (((Below.refl _ _).alloc (Nat.le_refl _) _).alloc (by simp) _)
  have HC1 : Hid (((w.alloc (.cells #[.slice none 0 0, .slice none 0 0, .int .i64 0, .int .i64 0, .int .i64 0, .int .i64 0, .int .i64 0] 25)).alloc (.cells #[.slice none 0 0, .slice none 0 0, .int .i64 0, .int .i64 0, .int .i64 0, .int .i64 0, .int .i64 0, .slice none 0 0] 57)).heap[w.heap.size]? = some (.cells #[.slice none 0 0, .slice none 0 0, .int .i64 0, .int .i64 0, .int .i64 0, .int .i64 0, .int .i64 0] 25 (0, 0))) := Lib.hid (by rw [Below.heap_alloc _ _ _ (by simp)]; exact heap_alloc_new w _)
  generalize ((w.alloc (.cells #[.slice none 0 0, .slice none 0 0, .int .i64 0, .int .i64 0, .int .i64 0, .int .i64 0, .int .i64 0] 25)).alloc (.cells #[.slice none 0 0, .slice none 0 0, .int .i64 0, .int .i64 0, .int .i64 0, .int .i64 0, .int .i64 0, .slice none 0 0] 57)) = W1 at *
  have HS1 : Hid (Std W1 (w.heap.size + 1)) := Lib.hid ((HS.out.kept HB1.out).mono (by omega))
  generalize hf : w.heap.size + 1 = f at *
  have Hf := Lib.hid hf
  clear hf
  go_loopw [0, 4, 7] (fun tx nn ls wr => ∃ (k n last : Nat) (F : Fl) (rest : Bs) (vr vt va : Value) (ds : List Value), tx = str rest ∧ nn = .int .i64 n ∧ ls = .int .i64 last ∧ rest.length + 2 ≤ k ∧ n + rest.length ≤ t.length + 1 ∧ 1 ≤ n ∧ last ≤ 4 ∧
      Veil (parse t = parseF k n last F rest) ∧ Veil (FlAt wr f f vr vt va ds n F) ∧ Veil (Below f W1 wr)) (fun tx _ _ _ => strLen tx)
  case atStart => exact ⟨t.length + 2, 1, 0, Fl.zero, t, _, _, _, _, rfl, rfl, rfl, Nat.le_refl _, by omega, Nat.le_refl _, by omega, ⟨HP.out⟩, ⟨HF.out⟩, ⟨Below.refl _ _⟩⟩
  case round =>
    obtain ⟨k, n, last, F, rest, vr, vt, va, ds, rfl, rfl, rfl, hk, hn, hn1, hl4, hpar, hfl, hbel⟩ := hrel
    clear HF HP
    by_cases hex : rest = [] ∧ last ≠ 0
    · obtain ⟨rfl, hl0⟩ := hex
      obtain ⟨k, rfl⟩ : ∃ j, k = j + 1 := ⟨k - 1, by omega⟩
      have hP : Hid (parse t = ⟨F.cf, F.acts, 0, 0⟩) := Lib.hid (by rw [hpar.out, parseF_done _ _ _ _ hl0])
      have hz : Hid (wr.heap[w.heap.size]? = some (.cells #[.slice none 0 0, .slice none 0 0, .int .i64 Cf.zero.level, .int .i64 Cf.zero.minSize, .int .i64 Cf.zero.cap, .int .i64 Cf.zero.buffer, .int .i64 Cf.zero.timeout] 25 (0, 0))) := Lib.hid ((hbel.out.block _ (by have := Hf.out; omega)).trans HC1.out)
      obtain ⟨z0, z1, z2, z3, z4, z5, z6, y0, y1, y2, y3, y4, y5, y6⟩ := cells7 hz.out
      simp only [Cf.zero] at z0 z1 z2 z3 z4 z5 z6
      obtain ⟨a1, k1, rfl⟩ := hfl.out.routes.slice
      obtain ⟨a2, k2, rfl⟩ := hfl.out.types.slice
      obtain ⟨a3, k3, rfl⟩ := hfl.out.acts.slice
      have q0 := Lib.cell_of_heap hfl.out.heap 0
      have q1 := Lib.cell_of_heap hfl.out.heap 1
      have q2 := Lib.cell_of_heap hfl.out.heap 2
      have q3 := Lib.cell_of_heap hfl.out.heap 3
      have q4 := Lib.cell_of_heap hfl.out.heap 4
      have q5 := Lib.cell_of_heap hfl.out.heap 5
      have q6 := Lib.cell_of_heap hfl.out.heap 6
      have q7 := Lib.cell_of_heap hfl.out.heap 7
      simp only [List.getElem?_toArray, List.getElem?_cons_zero, List.getElem?_cons_succ] at q0 q1 q2 q3 q4 q5 q6 q7
      have hd1 : (last == 0) = false := by simpa using hl0
      have hd2 : ((last : Int) == 0) = false := by simp; omega
      clear hpar
      go_wp2_with fail
      go_region
      go_wp2_with fail
      have hp7 := put7_at (vr := .slice a1 F.cf.routes.length k1) (vt := .slice a2 F.cf.types.length k2) (c := F.cf) hz.out
      have hkp := put7_keep (vr := .slice a1 F.cf.routes.length k1) (vt := .slice a2 F.cf.types.length k2) (c := F.cf) hz.out
      have HFL := Lib.hid ((hfl.out.keep hkp (by decide) (by decide) (by decide) (by decide) (by decide)).next ((Below.refl _ _).drew))
      have hB4 : Hid (Below w.heap.size w (put7 wr w.heap.size (.slice a1 F.cf.routes.length k1) (.slice a2 F.cf.types.length k2) F.cf).drew) := Lib.hid ((HB1.out.trans ((hbel.out.mono (by have := Hf.out; omega)).trans hp7.2)).drew)
      have HP7 := Lib.hid hp7
      clear hp7 hkp
      change bodyPost _ _ _ _ _ (put7 wr w.heap.size (.slice a1 F.cf.routes.length k1) (.slice a2 F.cf.types.length k2) F.cf).drew
      generalize put7 wr w.heap.size (.slice a1 F.cf.routes.length k1) (.slice a2 F.cf.types.length k2) F.cf = w4 at *
      clear z0 z1 z2 z3 z4 z5 z6 y0 y1 y2 y3 y4 y5 y6 q0 q1 q2 q3 q4 q5 q6 q7
      obtain ⟨z0, z1, z2, z3, z4, z5, z6, _⟩ := cells7 HP7.out.1
      refine bodyPost_ret (v := .tuple #[cfVal (.slice a1 F.cf.routes.length k1) (.slice a2 F.cf.types.length k2) F.cf, .slice a3 F.acts.length k3, .int .i64 0, .int .i64 0]) (by simp [results, Tryd.results9, go_sem, z0, z1, z2, z3, z4, z5, z6]) rfl ?_
      have hca := HFL.out.cfAt (by simp only [List.length_nil] at hn; omega)
      exact ⟨_, _, _, by rw [hP.out]; rfl, by rw [hP.out]; exact hca.1, by rw [hP.out]; exact hca.2, hB4.out⟩
    · obtain ⟨k, rfl⟩ : ∃ j, k = j + 1 := ⟨k - 1, by omega⟩
      obtain ⟨one, rest', ended, hcut⟩ : ∃ x y z, Lib.cut rest [10] = (x, y, z) := ⟨_, _, _, rfl⟩
      obtain ⟨kind, F', hline⟩ : ∃ x y, lineM F one = (x, y) := ⟨_, _, rfl⟩
      have hk4 : kind ≤ 4 := by have := lineM_le F one; rw [hline] at this; exact this
      have hcl := cut_len rest
      rw [hcut] at hcl
      obtain ⟨hc1, hc2⟩ := hcl
      simp only at hc1 hc2
      have HCUT := Lib.hid hcut
      have HLINE := Lib.hid hline
      have HEQ : Hid (parse t = if wrongOrder ended kind last then ⟨Cf.zero, [], n, 9⟩ else parseF k (n + 1) kind F' rest') := Lib.hid (by rw [hpar.out, parseF_at hex hcut hline])
      have hgo : Hid (rest ≠ [] ∨ last = 0) := Lib.hid (by by_cases h : rest = [] <;> simp_all)
      have HC2 := Lib.hid hc2
      clear hcut hline hpar hc2 hex
      have hstd : Std wr f := HS1.out.kept hbel.out
      have hlr : rest.length ≤ 4194304 := by omega
      have htest : Veil (∃ b : Bool, True) := ⟨true, trivial⟩
      have step : Calls Tryd.prog 20 #[str rest, str [10]] wr fun e w' => e = .returned (.tuple #[str one, str rest', .bool ended]) ∧ Below wr.heap.size wr w' := by
        have := cut_any rest hlr hstd
        rw [HCUT.out] at this
        exact this
      have HSTEP := Lib.hid step
      have hlast : last = 0 ∨ last = 1 ∨ last = 2 ∨ last = 3 ∨ last = 4 := by omega
      have hkind : kind = 0 ∨ kind = 1 ∨ kind = 2 ∨ kind = 3 ∨ kind = 4 := by omega
      have HLA := Lib.hid hlast
      have HKI := Lib.hid hkind
      clear step hlast hkind
      have main : Hid (rest ≠ [] ∨ rest = []) := Lib.hid (by by_cases h : rest = []; exact .inr h; exact .inl h)
      rcases rest with _ | ⟨x, l⟩
      · obtain rfl : last = 0 := by rcases hgo.out with h | h; exact absurd rfl h; exact h
        clear HLA main
        go_wp2_with fail
        go_at_call 20
        refine HSTEP.out.mono ?_
        rintro _ w2 ⟨rfl, hb2⟩
        have hfl2 := hfl.out.next hb2
        have HW2 := Lib.hid (And.intro hfl2 (hbel.out.trans (hb2.mono hfl.out.hi)))
        have HST2 := Lib.hid (hstd.kept (hb2.mono hfl.out.hi))
        clear hfl hbel hb2 hfl2 hstd
        go_wp2_with fail
        go_at_call 21
        refine (line_any HW2.out.1 HST2.out one (by omega) (by omega)).mono ?_
        rw [HLINE.out]
        dsimp only
        rintro _ w3 ⟨rfl, ⟨vr', vt', va', ds', hfl3⟩, hb3⟩
        have HW3 := Lib.hid (And.intro hfl3 (HW2.out.2.trans hb3))
        clear hfl3 hb3
        obtain rfl : ended = false := by have := HCUT.out; rw [show Lib.cut [] [10] = ([], [], false) from by decide] at this; injection this with _ h; injection h with _ h; exact h.symm
        have hz : Hid (w3.heap[w.heap.size]? = some (.cells #[.slice none 0 0, .slice none 0 0, .int .i64 Cf.zero.level, .int .i64 Cf.zero.minSize, .int .i64 Cf.zero.cap, .int .i64 Cf.zero.buffer, .int .i64 Cf.zero.timeout] 25 (0, 0))) := Lib.hid ((HW3.out.2.block _ (by have := Hf.out; omega)).trans HC1.out)
        obtain ⟨z0, z1, z2, z3, z4, z5, z6, y0, y1, y2, y3, y4, y5, y6⟩ := cells7 hz.out
        simp only [Cf.zero] at z0 z1 z2 z3 z4 z5 z6
        have hP : Hid (parse t = ⟨Cf.zero, [], n, 9⟩) := Lib.hid (by rw [HEQ.out]; rfl)
        have hp7 := put7_at (vr := .slice none 0 0) (vt := .slice none 0 0) (c := Cf.zero) hz.out
        have hB4 : Hid (Below w.heap.size w (put7 w3 w.heap.size (.slice none 0 0) (.slice none 0 0) Cf.zero)) := Lib.hid (HB1.out.trans ((HW3.out.2.mono (by have := Hf.out; omega)).trans hp7.2))
        have HP7 := Lib.hid hp7
        clear hp7
        go_wp2_with fail
        change bodyPost _ _ _ _ _ (put7 w3 w.heap.size (.slice none 0 0) (.slice none 0 0) Cf.zero)
        generalize put7 w3 w.heap.size (.slice none 0 0) (.slice none 0 0) Cf.zero = w4 at *
        clear z0 z1 z2 z3 z4 z5 z6 y0 y1 y2 y3 y4 y5 y6
        obtain ⟨z0, z1, z2, z3, z4, z5, z6, _⟩ := cells7 HP7.out.1
        simp only [Cf.zero] at z0 z1 z2 z3 z4 z5 z6
        refine bodyPost_ret (v := .tuple #[cfVal (.slice none 0 0) (.slice none 0 0) Cf.zero, .slice none 0 0, .int .i64 n, .int .i64 9]) (by simp [results, Tryd.results9, go_sem, z0, z1, z2, z3, z4, z5, z6, Cf.zero]) rfl ?_
        exact ⟨_, _, _, by rw [hP.out]; rfl, by rw [hP.out]; exact cfAt_zero _, by rw [hP.out]; exact acAt_nil _, hB4.out⟩
      · go_wp2_with fail
        go_at_call 20
        refine HSTEP.out.mono ?_
        rintro _ w2 ⟨rfl, hb2⟩
        have hfl2 := hfl.out.next hb2
        have HW2 := Lib.hid (And.intro hfl2 (hbel.out.trans (hb2.mono hfl.out.hi)))
        have HST2 := Lib.hid (hstd.kept (hb2.mono hfl.out.hi))
        clear hfl hbel hb2 hfl2 hstd
        go_wp2_with fail
        go_at_call 21
        refine (line_any HW2.out.1 HST2.out one (by omega) (by omega)).mono ?_
        rw [HLINE.out]
        dsimp only
        rintro _ w3 ⟨rfl, ⟨vr', vt', va', ds', hfl3⟩, hb3⟩
        have HW3 := Lib.hid (And.intro hfl3 (HW2.out.2.trans hb3))
        clear hfl3 hb3
        have hz : Hid (w3.heap[w.heap.size]? = some (.cells #[.slice none 0 0, .slice none 0 0, .int .i64 Cf.zero.level, .int .i64 Cf.zero.minSize, .int .i64 Cf.zero.cap, .int .i64 Cf.zero.buffer, .int .i64 Cf.zero.timeout] 25 (0, 0))) := Lib.hid ((HW3.out.2.block _ (by have := Hf.out; omega)).trans HC1.out)
        obtain ⟨z0, z1, z2, z3, z4, z5, z6, y0, y1, y2, y3, y4, y5, y6⟩ := cells7 hz.out
        simp only [Cf.zero] at z0 z1 z2 z3 z4 z5 z6
        have hp7 := put7_at (vr := .slice none 0 0) (vt := .slice none 0 0) (c := Cf.zero) hz.out
        have hB4 : Hid (Below w.heap.size w (put7 w3 w.heap.size (.slice none 0 0) (.slice none 0 0) Cf.zero)) := Lib.hid (HB1.out.trans ((HW3.out.2.mono (by have := Hf.out; omega)).trans hp7.2))
        have HP7 := Lib.hid hp7
        clear hp7
        cases ended with
        | false =>
          have hP : Hid (parse t = ⟨Cf.zero, [], n, 9⟩) := Lib.hid (by rw [HEQ.out]; rfl)
          go_wp2_with fail
          change bodyPost _ _ _ _ _ (put7 w3 w.heap.size (.slice none 0 0) (.slice none 0 0) Cf.zero)
          generalize put7 w3 w.heap.size (.slice none 0 0) (.slice none 0 0) Cf.zero = w4 at *
          clear z0 z1 z2 z3 z4 z5 z6 y0 y1 y2 y3 y4 y5 y6
          obtain ⟨z0, z1, z2, z3, z4, z5, z6, _⟩ := cells7 HP7.out.1
          simp only [Cf.zero] at z0 z1 z2 z3 z4 z5 z6
          refine bodyPost_ret (v := .tuple #[cfVal (.slice none 0 0) (.slice none 0 0) Cf.zero, .slice none 0 0, .int .i64 n, .int .i64 9]) (by simp [results, Tryd.results9, go_sem, z0, z1, z2, z3, z4, z5, z6, Cf.zero]) rfl ?_
          exact ⟨_, _, _, by rw [hP.out]; rfl, by rw [hP.out]; exact cfAt_zero _, by rw [hP.out]; exact acAt_nil _, hB4.out⟩
        | true =>
          have hr1 := HC2.out rfl
          simp only [List.length_cons] at hr1 hk hn
          rcases HKI.out with rfl | hkk
          · have hP : Hid (parse t = ⟨Cf.zero, [], n, 9⟩) := Lib.hid (by rw [HEQ.out]; rfl)
            go_wp2_with fail
            change bodyPost _ _ _ _ _ (put7 w3 w.heap.size (.slice none 0 0) (.slice none 0 0) Cf.zero)
            generalize put7 w3 w.heap.size (.slice none 0 0) (.slice none 0 0) Cf.zero = w4 at *
            clear z0 z1 z2 z3 z4 z5 z6 y0 y1 y2 y3 y4 y5 y6
            obtain ⟨z0, z1, z2, z3, z4, z5, z6, _⟩ := cells7 HP7.out.1
            simp only [Cf.zero] at z0 z1 z2 z3 z4 z5 z6
            refine bodyPost_ret (v := .tuple #[cfVal (.slice none 0 0) (.slice none 0 0) Cf.zero, .slice none 0 0, .int .i64 n, .int .i64 9]) (by simp [results, Tryd.results9, go_sem, z0, z1, z2, z3, z4, z5, z6, Cf.zero]) rfl ?_
            exact ⟨_, _, _, by rw [hP.out]; rfl, by rw [hP.out]; exact cfAt_zero _, by rw [hP.out]; exact acAt_nil _, hB4.out⟩
          by_cases hw : wrongOrder true kind last = true
          · have hP : Hid (parse t = ⟨Cf.zero, [], n, 9⟩) := Lib.hid (by rw [HEQ.out, if_pos hw])
            rcases hkk with rfl | rfl | rfl | rfl <;> rcases HLA.out with rfl | rfl | rfl | rfl | rfl
            all_goals try (exfalso; revert hw; decide; done)
            all_goals clear hw
            all_goals
              go_wp2_with fail
              change bodyPost _ _ _ _ _ (put7 w3 w.heap.size (.slice none 0 0) (.slice none 0 0) Cf.zero)
              generalize put7 w3 w.heap.size (.slice none 0 0) (.slice none 0 0) Cf.zero = w4 at *
              clear z0 z1 z2 z3 z4 z5 z6 y0 y1 y2 y3 y4 y5 y6
              obtain ⟨z0, z1, z2, z3, z4, z5, z6, _⟩ := cells7 HP7.out.1
              simp only [Cf.zero] at z0 z1 z2 z3 z4 z5 z6
              refine bodyPost_ret (v := .tuple #[cfVal (.slice none 0 0) (.slice none 0 0) Cf.zero, .slice none 0 0, .int .i64 n, .int .i64 9]) (by simp [results, Tryd.results9, go_sem, z0, z1, z2, z3, z4, z5, z6, Cf.zero]) rfl ?_
              exact ⟨_, _, _, by rw [hP.out]; rfl, by rw [hP.out]; exact cfAt_zero _, by rw [hP.out]; exact acAt_nil _, hB4.out⟩
          · have hP : Hid (parse t = parseF k (n + 1) kind F' rest') := Lib.hid (by rw [HEQ.out, if_neg hw])
            rcases hkk with rfl | rfl | rfl | rfl <;> rcases HLA.out with rfl | rfl | rfl | rfl | rfl
            all_goals try (exfalso; revert hw; decide; done)
            all_goals clear hw z0 z1 z2 z3 z4 z5 z6 y0 y1 y2 y3 y4 y5 y6
            all_goals
              go_wp2_with fail
              go_roundw
              case rel => exact ⟨k, n + 1, _, F', rest', _, _, _, _, rfl, by go_num, rfl, by omega, by omega, by omega, by omega, ⟨hP.out⟩, ⟨HW3.out.1⟩, ⟨HW3.out.2⟩⟩
              case measure => simp [strLen, ByteArray.size]; omega
end Go.Proofs.YtkankjblpmmikaaDoor.Sc
