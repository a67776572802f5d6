/- The reader of a line's words. -/
import Derived.Test.YtkankjblpmmikaaDoorScHexIn
import Derived.Deep.RegionHeld3
import Derived.Lib.AtoiBound
set_option linter.unusedSimpArgs false
set_option linter.unusedVariables false
namespace Go.Proofs.YtkankjblpmmikaaDoor.Sc
open Go.RowKit Hp

/-- The reader in block r, as R; B: the first of the call's own blocks. -/
structure RdAt (w : World) (B r : Nat) (R : Rd) : Prop where
  lo : B ≤ r
  hi : B ≤ w.heap.size
  short : ∀ s ∈ R.ws, s.length ≤ 4194304
  few : R.ws.length ≤ 5000000
  heap : ∃ A cap, w.heap[r]? = some (.cells #[.slice A R.ws.length cap, .bool R.bad] 73 (0, 0)) ∧ R.ws.length ≤ cap ∧ cap ≤ 5000000 ∧
    (R.ws ≠ [] → ∃ g o cur, A = some ⟨g, o, none⟩ ∧ w.heap[g]? = some (.cells cur 9 (0, 0)) ∧ ∀ i (h : i < R.ws.length), cur[o + i]? = some (str R.ws[i]))
theorem RdAt.lt {w : World} {B r : Nat} {R : Rd} (h : RdAt w B r R) : r < w.heap.size := by
  obtain ⟨A, cap, hh, _⟩ := h.heap
  exact (Array.getElem?_eq_some_iff.1 hh).1
theorem RdAt.next {w w' : World} {B r : Nat} {R : Rd} (h : RdAt w B r R) (hb : Below w.heap.size w w') : RdAt w' B r R := by
  obtain ⟨A, cap, hh, h1, h2, h3⟩ := h.heap
  refine ⟨h.lo, Nat.le_trans h.hi hb.size, h.short, h.few, A, cap, (hb.block r h.lt).trans hh, h1, h2, fun hn => ?_⟩
  obtain ⟨g, o, cur, e, hg, hc⟩ := h3 hn
  exact ⟨g, o, cur, e, (hb.block g (Array.getElem?_eq_some_iff.1 hg).1).trans hg, hc⟩
/-- The mark 'bad' written. -/
theorem RdAt.setBad {w : World} {B r : Nat} {R : Rd} (h : RdAt w B r R) : RdAt (w.setCell ⟨r, 1, none⟩ (.bool true)) B r ⟨R.ws, true⟩ ∧ w.grownBy (w.setCell ⟨r, 1, none⟩ (.bool true)) (some r) := by
  obtain ⟨A, cap, hh, h1, h2, h3⟩ := h.heap
  refine ⟨⟨h.lo, by have := h.hi; simpa [World.setCell] using this, h.short, h.few, A, cap, by simp [World.setCell, Array.getElem?_modify, hh], h1, h2, fun hn => ?_⟩, ⟨rfl, rfl, rfl, by simp [World.setCell], fun k _ hk => Below.heap_setCell _ _ _ _ (fun e => hk (by rw [e]))⟩⟩
  obtain ⟨g, o, cur, e, hg, hc⟩ := h3 hn
  refine ⟨g, o, cur, e, ?_, hc⟩
  rw [Below.heap_setCell _ _ _ _ (by rintro rfl; rw [hh] at hg; simp only [Option.some.injEq, Obj.cells.injEq] at hg; exact absurd hg.2.1 (by decide))]
  exact hg
theorem grown_trans {a b c : World} {r : Option Nat} (h : a.grownBy b r) (h' : b.grownBy c r) : a.grownBy c r :=
  ⟨h'.os.trans h.os, h'.tape.trans h.tape, h'.output.trans h.output, Nat.le_trans h.size h'.size, fun k hk hn => (h'.block k (Nat.lt_of_lt_of_le hk h.size) hn).trans (h.block k hk hn)⟩
theorem grown_below {a b : World} (h : Below a.heap.size a b) (r : Option Nat) : a.grownBy b r := ⟨h.os, h.tape, h.output, h.size, fun k hk _ => h.block k hk⟩
theorem RdAt.below {w w' : World} {B r : Nat} {R : Rd} (h : RdAt w B r R) (hg : w.grownBy w' (some r)) : Below B w w' :=
  ⟨hg.os, hg.tape, hg.output, hg.size, fun k hk => hg.block k (Nat.lt_of_lt_of_le hk h.hi) (fun e => by injection e with e; have := h.lo; omega)⟩

theorem RdAt.cut {w : World} {B r : Nat} {s : Bs} {t : List Bs} {bad : Bool} (h : RdAt w B r ⟨s :: t, bad⟩) {A : Option Addr} {cap : Nat} (hh : w.heap[r]? = some (.cells #[.slice A (t.length + 1) cap, .bool bad] 73 (0, 0))) {A' : Option Addr}
    (hA : ∀ g o, A = some ⟨g, o, none⟩ → t ≠ [] → A' = some ⟨g, o + 1, none⟩) (hcap : t.length + 1 ≤ cap) (hcap2 : cap ≤ 5000000) :
    RdAt (w.setCell ⟨r, 0, none⟩ (.slice A' t.length (cap - 1))) B r ⟨t, bad⟩ ∧ w.grownBy (w.setCell ⟨r, 0, none⟩ (.slice A' t.length (cap - 1))) (some r) := by
  obtain ⟨A2, cap2, hh2, h1, h2, h3⟩ := h.heap
  have e := hh.symm.trans hh2
  simp only [Option.some.injEq, Obj.cells.injEq, Array.mk.injEq, List.cons.injEq, Value.slice.injEq] at e
  obtain ⟨⟨⟨rfl, _, rfl⟩, _⟩, _⟩ := e
  have hf := h.few
  simp only [List.length_cons] at hf
  refine ⟨⟨h.lo, by have := h.hi; simpa [World.setCell] using this, fun x hx => h.short x (by simp [hx]), by simp only; omega, A', cap - 1, by simp [World.setCell, Array.getElem?_modify, hh], by simp only; omega, by omega, fun hn => ?_⟩, ⟨rfl, rfl, rfl, by simp [World.setCell], fun k _ hk => Below.heap_setCell _ _ _ _ (fun e => hk (by rw [e]))⟩⟩
  obtain ⟨g, o, cur, e, hg, hc⟩ := h3 (by simp)
  refine ⟨g, o + 1, cur, hA g o e hn, ?_, fun i hi => ?_⟩
  · rw [Below.heap_setCell _ _ _ _ (by rintro rfl; rw [hh] at hg; simp only [Option.some.injEq, Obj.cells.injEq] at hg; exact absurd hg.2.1 (by decide))]
    exact hg
  · have := hc (i + 1) (by simp only [List.length_cons]; simp only at hi; omega)
    rw [show o + 1 + i = o + (i + 1) from by omega, this]
    rfl

def RdPost (w : World) (B r : Nat) (R : Rd) (w' : World) : Prop := RdAt w' B r R ∧ w.grownBy w' (some r)

set_option maxHeartbeats 400000 in
theorem next_any {w : World} {B r : Nat} {R : Rd} (h : RdAt w B r R) :
    Calls Tryd.prog 31 #[.pointer (some ⟨r, 0, none⟩)] w fun e w' => e = .returned (str (rnext R).1) ∧ RdPost w B r (rnext R).2 w' := by
  obtain ⟨ws, bad⟩ := R
  obtain ⟨A, cap, hh, h1, h2, h3⟩ := h.heap
  simp only at hh h1 h3
  have c0 : w.cell? ⟨r, 0, none⟩ = some (.slice A ws.length cap) := by rw [Lib.cell_of_heap hh]; rfl
  have c1 : w.cell? ⟨r, 1, none⟩ = some (.bool bad) := by rw [Lib.cell_of_heap hh]; rfl
  have f0 : w.frozen? ⟨r, 0, none⟩ = false := Lib.frozen_of_heap hh 0
  have f1 : w.frozen? ⟨r, 1, none⟩ = false := Lib.frozen_of_heap hh 1
  have HH := Lib.hid h
  cases ws with
  | nil =>
    have HP : Veil (RdPost w B r ⟨[], true⟩ (w.setCell ⟨r, 1, none⟩ (.bool true))) := ⟨HH.out.setBad⟩
    clear h h3 hh
    go_enter Tryd.func31, Tryd.ntmps31
    go_wp2
    go_ret
    exact ⟨rfl, HP.out⟩
  | cons s t =>
    obtain ⟨g, o, cur, rfl, hg, hc⟩ := h3 (by simp)
    have c2 : w.cell? ⟨g, o, none⟩ = some (str s) := by rw [Lib.cell_of_heap hg]; have := hc 0 (by simp); simpa using this
    simp only [List.length_cons] at c0 hh h1
    have HG := Lib.hid hh
    clear h3 hh hg hc h
    by_cases hcap : cap = 1
    · obtain ht : t = [] := List.eq_nil_of_length_eq_zero (by omega)
      subst hcap ht
      have HP : Veil (RdPost w B r ⟨[], bad⟩ (w.setCell ⟨r, 0, none⟩ (.slice (some ⟨g, o, none⟩) 0 0))) := ⟨HH.out.cut HG.out (fun _ _ _ h => absurd rfl h) h1 h2⟩
      clear HG HH
      simp only [List.length_nil] at c0
      go_enter Tryd.func31, Tryd.ntmps31
      go_wp2
      go_ret
      exact ⟨rfl, HP.out⟩
    · have HP : Veil (RdPost w B r ⟨t, bad⟩ (w.setCell ⟨r, 0, none⟩ (.slice (some ⟨g, o + 1, none⟩) t.length (cap - 1)))) := ⟨HH.out.cut HG.out (fun _ _ e _ => by injection e with e; injection e with e1 e2; rw [e1, e2]) h1 h2⟩
      clear HG HH
      go_enter Tryd.func31, Tryd.ntmps31
      go_wp2
      go_ret
      exact ⟨rfl, HP.out⟩

def AtoiPost (s : Bs) (w : World) (e : Ending) (w' : World) : Prop :=
  Below w.heap.size w w' ∧ ((∃ n, Lib.atoiAll s = .ok n ∧ e = .returned (.tuple #[.int .i64 n, .nilIface])) ∨ ((∀ n, Lib.atoiAll s ≠ .ok n) ∧ ∃ n N, e = .returned (.tuple #[.int .i64 n, .iface 111 (.pointer (some ⟨N, 0, none⟩))])))
theorem atoi_any (s : Bs) (hl : s.length ≤ 4194304) {w : World} {B : Nat} (h : Std w B) :
    Calls Tryd.prog 38 #[str s] w (AtoiPost s w) := by
  have e1 : (⟨s.toArray⟩ : ByteArray).size = s.length := by simp [ByteArray.size]
  cases hs : Lib.atoiAll s with
  | ok v =>
    refine (Tryd.strconv_Atoi_ok ⟨s.toArray⟩ (by omega) v hs w).mono fun e w' ⟨he, hw⟩ => ⟨?_, .inl ⟨v, hs, he⟩⟩
    rcases hw with rfl | ⟨t, rfl⟩
    · exact Below.refl _ _
    · exact below_bytesWorld _ _ _
  | range =>
    obtain ⟨tp, p, hv⟩ := h.eran
    exact (Tryd.strconv_Atoi_range_var ⟨s.toArray⟩ (by omega) hs tp p w hv).mono fun _ _ hh => by
      obtain ⟨N, he, _, _, hb⟩ := hh
      exact ⟨hb, .inr ⟨fun n hn => by rw [hs] at hn; (cases hn), _, N, he⟩⟩
  | _ =>
    obtain ⟨tp, p, hv⟩ := h.esyn
    exact (Any.strconv_Atoi_syntax_var Tryd.laysC172 ⟨s.toArray⟩ (by omega) hs tp p w hv).mono fun _ _ hh => by
      obtain ⟨N, he, _, _, hb⟩ := hh
      exact ⟨hb, .inr ⟨fun n hn => by rw [hs] at hn; (cases hn), _, N, he⟩⟩
theorem numW_none {s : Bs} (h : ∀ n, Lib.atoiAll s ≠ .ok n) : numW s = none := by
  unfold numW
  split
  · rename_i n hn; exact absurd hn (h n)
  · rfl
theorem numW_ok {s : Bs} {n : Int} (h : Lib.atoiAll s = .ok n) : numW s = if n < 0 then none else if Lib.itoa n = s then some n else none := by
  unfold numW; rw [h]
theorem atoiAll_bound {s : Bs} {n : Int} (h : Lib.atoiAll s = .ok n) : -9223372036854775808 ≤ n ∧ n ≤ 9223372036854775807 := by
  unfold Lib.atoiAll at h
  split at h
  · cases h
  · simp only at h
    split at h
    · cases h
    · cases h
    · repeat' split at h
      all_goals first | (cases h; done) | (injection h with h; omega)
theorem rnumber_none {R : Rd} (h : numW (rnext R).1 = none) : rnumber R = (0, ⟨(rnext R).2.ws, true⟩) := by unfold rnumber; rw [h]
theorem rnumber_some {R : Rd} {n : Int} (h : numW (rnext R).1 = some n) : rnumber R = (n, (rnext R).2) := by unfold rnumber; rw [h]
theorem rnext_short {w : World} {B r : Nat} {R : Rd} (h : RdAt w B r R) : (rnext R).1.length ≤ 4194304 := by
  unfold rnext
  cases hws : R.ws with
  | nil => simp
  | cons a t => exact h.short a (by rw [hws]; simp)
theorem ret_i64 {a b : Int} (h : a = b) : Ending.returned (.int .i64 a) = .returned (.int .i64 b) := by rw [h]

set_option maxHeartbeats 1000000 in
theorem number_any {w : World} {B r : Nat} {R : Rd} (h : RdAt w B r R) (hs : Std w B) :
    Calls Tryd.prog 30 #[.pointer (some ⟨r, 0, none⟩)] w fun e w' => e = .returned (.int .i64 (rnumber R).1) ∧ RdPost w B r (rnumber R).2 w' := by
  have hsh := rnext_short h
  have HS := Lib.hid hs
  have HB := fun w' => h.below (w' := w')
  have HBB := Lib.hid HB
  clear HB hs
  go_enter Tryd.func30, Tryd.ntmps30
  go_wp2_with fail
  go_at_call 31
  refine (next_any h).mono ?_
  rintro e w1 ⟨rfl, h1, g1⟩
  have hs1 := HS.out.kept (HBB.out w1 g1)
  have H1 := Lib.hid (And.intro h1 g1)
  clear h1 g1 h
  generalize hS : (rnext R).1 = s at *
  generalize hR : (rnext R).2 = R1 at *
  have HSS := Lib.hid hS
  have HRR := Lib.hid hR
  clear hS hR
  go_wp2_with fail
  go_at_call 38
  refine (atoi_any s hsh hs1).mono ?_
  rintro e w2 ⟨hb, hc⟩
  have hs2 := hs1.kept (hb.mono (by have := H1.out.1.hi; omega))
  have h2 := H1.out.1.next hb
  have hg2 := grown_trans H1.out.2 (grown_below hb (some r))
  have H2 := Lib.hid (And.intro h2 hg2)
  have H3 := Lib.hid (And.intro h2.setBad.1 (grown_trans hg2 h2.setBad.2))
  obtain ⟨A, cap, hh, _⟩ := h2.heap
  have c1 : w2.cell? ⟨r, 1, none⟩ = some (.bool R1.bad) := by rw [Lib.cell_of_heap hh]; rfl
  have f1 : w2.frozen? ⟨r, 1, none⟩ = false := Lib.frozen_of_heap hh 1
  clear hb h2 hg2 hh H1 hs1
  rcases hc with ⟨n, hn, rfl⟩ | ⟨hno, n, N, rfl⟩
  · have HW := Lib.hid (numW_ok hn)
    obtain ⟨hb1, hb2⟩ := atoiAll_bound hn
    clear hn
    by_cases hneg : n < 0
    · have HR0 : Hid (rnumber R = (0, ⟨R1.ws, true⟩)) := Lib.hid (by rw [rnumber_none (by rw [HSS.out, HW.out, if_pos hneg]), HRR.out])
      clear HW
      go_wp2_with fail
      go_ret
      exact ⟨by rw [HR0.out]; rfl, by rw [HR0.out]; exact H3.out⟩
    · have hn0 : 0 ≤ n := by omega
      have hd : decide (n < 0) = false := by simpa using hneg
      by_cases heq : Lib.itoa n = s
      · have HR0 : Hid (rnumber R = (n, R1)) := Lib.hid (by rw [rnumber_some (n := n) (by rw [HSS.out, HW.out, if_neg hneg, if_pos heq]), HRR.out])
        have hx : (!Lib.itoa n == s) = false := by simp [heq]
        clear HW heq hneg
        go_wp2_with fail
        go_at_call 27
        refine (itoa_any n hn0 hb2 hs2).mono ?_
        rintro e w3 ⟨rfl, hb3⟩
        have H4 := Lib.hid (And.intro (H2.out.1.next hb3) (grown_trans H2.out.2 (grown_below hb3 (some r))))
        clear hb3
        go_wp2_with fail
        go_ret
        exact ⟨by rw [HR0.out]; rfl, by rw [HR0.out]; exact H4.out⟩
      · have HR0 : Hid (rnumber R = (0, ⟨R1.ws, true⟩)) := Lib.hid (by rw [rnumber_none (by rw [HSS.out, HW.out, if_neg hneg, if_neg heq]), HRR.out])
        have hx : (!Lib.itoa n == s) = true := by simp [heq]
        clear HW heq hneg
        go_wp2_with fail
        go_at_call 27
        refine (itoa_any n hn0 hb2 hs2).mono ?_
        rintro e w3 ⟨rfl, hb3⟩
        have h4 := H2.out.1.next hb3
        have H4 := Lib.hid (And.intro h4.setBad.1 (grown_trans (grown_trans H2.out.2 (grown_below hb3 (some r))) h4.setBad.2))
        obtain ⟨A4, cap4, hh4, _⟩ := h4.heap
        have c4 : w3.cell? ⟨r, 1, none⟩ = some (.bool R1.bad) := by rw [Lib.cell_of_heap hh4]; rfl
        have f4 : w3.frozen? ⟨r, 1, none⟩ = false := Lib.frozen_of_heap hh4 1
        clear hb3 h4 hh4
        go_wp2_with fail
        go_ret
        exact ⟨by rw [HR0.out]; rfl, by rw [HR0.out]; exact H4.out⟩
  · have HR0 : Hid (rnumber R = (0, ⟨R1.ws, true⟩)) := Lib.hid (by have := rnumber_none (R := R) (by rw [HSS.out]; exact numW_none hno); rw [this, HRR.out])
    clear hno
    go_wp2_with fail
    go_ret
    exact ⟨by rw [HR0.out]; rfl, by rw [HR0.out]; exact H3.out⟩
end Go.Proofs.YtkankjblpmmikaaDoor.Sc
