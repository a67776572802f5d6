/- The walk of the reference's comparison of configurations and acts, of equal ones (the law asks it of no others). -/
import Derived.Test.YtkankjblpmmikaaDoorRefTexts
import Derived.Test.YtkankjblpmmikaaDoorRefPrint
import Derived.Test.YtkankjblpmmikaaDoorRefOne
import Derived.Deep.RegionHeld3
set_option linter.unusedSimpArgs false
set_option linter.unusedVariables false
namespace Go.Proofs.YtkankjblpmmikaaDoor.Sc
open Go.RowKit Hp

theorem CfIn.drewN {w wr : World} {b : Nat} {vr vt : Value} {c : Cf} (h : CfIn w wr b vr vt c) (n : Nat) : CfIn w (wr.drewN n) b vr vt c := ⟨h.box.drawn n, h.lt⟩
theorem CfIn.old {w wr : World} {b : Nat} {vr vt : Value} {c : Cf} (h : CfIn w wr b vr vt c) {p q : Nat} (hp : p < w.heap.size) {v : Value} (h0 : w.cell? ⟨p, q, none⟩ = some v) : wr.cell? ⟨p, q, none⟩ = some v := (cell_kept h.box.below hp).trans h0

set_option maxRecDepth 100000 in
set_option maxHeartbeats 1600000 in
theorem refSame_any (vr vt va vr2 vt2 va2 : Value) (c : Cf) (al : List Ac) (w : World) (hc : CfAt w vr vt c) (ha : AcAt w va al) (hc2 : CfAt w vr2 vt2 c) (ha2 : AcAt w va2 al) :
    Calls Tryd.prog 11 #[cfVal vr vt c, cfVal vr2 vt2 c, va, va2] w fun e w' => e = .returned (.bool true) ∧ Below w.heap.size w w' := by
  obtain ⟨ds, ha, hd⟩ := ha.row
  obtain ⟨ds2, ha2, hd2⟩ := ha2.row
  have HT1 := hc.types
  have HT2 := hc2.types
  have HD := Lib.hid hd
  have HD2 := Lib.hid hd2
  clear hd hd2
  obtain ⟨hr1, R, cR, rfl, hR⟩ := hc.routes
  obtain ⟨_, R2, cR2, rfl, hR2⟩ := hc2.routes
  obtain ⟨ht1, T, cT, rfl, hT⟩ := hc.types
  obtain ⟨_, T2, cT2, rfl, hT2⟩ := hc2.types
  obtain ⟨ha1, A, cA, rfl, hA⟩ := ha
  obtain ⟨_, A2, cA2, rfl, hA2⟩ := ha2
  have HR := Lib.hid hR
  have HA := Lib.hid hA
  have HR2 := Lib.hid hR2
  have HA2 := Lib.hid hA2
  clear hR hT hA hR2 hT2 hA2
  go_enter Tryd.func11, Tryd.ntmps11
  go_wp2_with fail
  go_at_call 24
  have hB : Below w.heap.size w ((w.alloc (.cells #[.slice R c.routes.length cR, .slice T c.types.length cT, .int .i64 c.level, .int .i64 c.minSize, .int .i64 c.cap, .int .i64 c.buffer, .int .i64 c.timeout] 25)).alloc (.cells #[.slice R2 c.routes.length cR2, .slice T2 c.types.length cT2, .int .i64 c.level, .int .i64 c.minSize, .int .i64 c.cap, .int .i64 c.buffer, .int .i64 c.timeout] 25)) := ((Below.refl _ _).alloc (Nat.le_refl _) _).alloc (by simp) _
  refine (texts_any _ _ c.types c.types _ (HT1.kept hB) (HT2.kept hB)).mono ?_
  rintro e w' ⟨rfl, n, rfl⟩
  simp only [decide_true]
  go_wp2_with fail
  have hcf1 : CfIn w ((w.alloc (.cells #[.slice R c.routes.length cR, .slice T c.types.length cT, .int .i64 c.level, .int .i64 c.minSize, .int .i64 c.cap, .int .i64 c.buffer, .int .i64 c.timeout] 25)).alloc (.cells #[.slice R2 c.routes.length cR2, .slice T2 c.types.length cT2, .int .i64 c.level, .int .i64 c.minSize, .int .i64 c.cap, .int .i64 c.buffer, .int .i64 c.timeout] 25))
      w.heap.size (.slice R c.routes.length cR) (.slice T c.types.length cT) c := ⟨⟨by rw [Below.heap_alloc _ _ _ (by simp)]; exact heap_alloc_new w _, hB⟩, by simp; omega⟩
  have hcf2 : CfIn w ((w.alloc (.cells #[.slice R c.routes.length cR, .slice T c.types.length cT, .int .i64 c.level, .int .i64 c.minSize, .int .i64 c.cap, .int .i64 c.buffer, .int .i64 c.timeout] 25)).alloc (.cells #[.slice R2 c.routes.length cR2, .slice T2 c.types.length cT2, .int .i64 c.level, .int .i64 c.minSize, .int .i64 c.cap, .int .i64 c.buffer, .int .i64 c.timeout] 25))
      (w.heap.size + 1) (.slice R2 c.routes.length cR2) (.slice T2 c.types.length cT2) c := ⟨⟨by have := heap_alloc_new (w.alloc (.cells #[.slice R c.routes.length cR, .slice T c.types.length cT, .int .i64 c.level, .int .i64 c.minSize, .int .i64 c.cap, .int .i64 c.buffer, .int .i64 c.timeout] 25)) (.cells #[.slice R2 c.routes.length cR2, .slice T2 c.types.length cT2, .int .i64 c.level, .int .i64 c.minSize, .int .i64 c.cap, .int .i64 c.buffer, .int .i64 c.timeout] 25); simpa using this, hB⟩, by simp⟩
  go_loopw [9] (fun i wr => ∃ k : Nat, k ≤ c.routes.length ∧ i = .int .i64 k ∧ CfIn w wr w.heap.size (.slice R c.routes.length cR) (.slice T c.types.length cT) c ∧ CfIn w wr (w.heap.size + 1) (.slice R2 c.routes.length cR2) (.slice T2 c.types.length cT2) c)
    (fun i _ => c.routes.length - (intOf i).toNat)
  case atStart => exact ⟨0, Nat.zero_le _, rfl, hcf1.drewN n, hcf2.drewN n⟩
  case round =>
    clear hcf1 hcf2 hB HT1 HT2
    obtain ⟨k, hk, rfl, h1, h2⟩ := hrel
    have d1 := h1.box.cell 0
    have d2 := h2.box.cell 0
    simp at d1 d2
    by_cases hlt : k < c.routes.length
    · obtain ⟨p, po, rfl, hpb, hp⟩ := HR.out (by omega)
      obtain ⟨q, qo, rfl, hqb, hq⟩ := HR2.out (by omega)
      have a0 := h1.old hpb (hp k 0 hlt (by omega))
      have a1 := h1.old hpb (hp k 1 hlt (by omega))
      have a2 := h1.old hpb (hp k 2 hlt (by omega))
      have b0 := h1.old hqb (hq k 0 hlt (by omega))
      have b1 := h1.old hqb (hq k 1 hlt (by omega))
      have b2 := h1.old hqb (hq k 2 hlt (by omega))
      clear hp hq
      simp only [rtCell, List.getElem?_eq_getElem hlt, Option.map_some, Option.getD_some, Nat.add_zero] at a0 a1 a2 b0 b1 b2
      have hk0 : (0 : Int) ≤ (k : Int) := by omega
      have hk1 : (k : Int) < (c.routes.length : Int) := by omega
      go_wp2_with fail
      go_quiet (fail)
      go_wp2_with fail
      go_roundw
      case rel => exact ⟨k + 1, by omega, by go_num, h1.drewN _, h2.drewN _⟩
      case measure => simp [intOf]; omega
    · clear HR HR2
      go_wp2_with fail
      clear d1 d2
      go_loopw [10] (fun i wr => ∃ k : Nat, k ≤ al.length ∧ i = .int .i64 k ∧ Below w.heap.size w wr) (fun i _ => al.length - (intOf i).toNat)
      case atStart => exact ⟨0, Nat.zero_le _, rfl, h1.box.below⟩
      case round =>
        clear h1 h2
        obtain ⟨k, hk, rfl, hbel⟩ := hrel
        by_cases hlt : k < al.length
        · obtain ⟨p, po, rfl, hpb, hp⟩ := HA.out (by omega)
          obtain ⟨q, qo, rfl, hqb, hq⟩ := HA2.out (by omega)
          have a0 := (cell_kept hbel hpb).trans (hp k 0 hlt (by omega))
          have a1 := (cell_kept hbel hpb).trans (hp k 1 hlt (by omega))
          have a2 := (cell_kept hbel hpb).trans (hp k 2 hlt (by omega))
          have a3 := (cell_kept hbel hpb).trans (hp k 3 hlt (by omega))
          have b0 := (cell_kept hbel hqb).trans (hq k 0 hlt (by omega))
          have b1 := (cell_kept hbel hqb).trans (hq k 1 hlt (by omega))
          have b2 := (cell_kept hbel hqb).trans (hq k 2 hlt (by omega))
          have b3 := (cell_kept hbel hqb).trans (hq k 3 hlt (by omega))
          have r1 := (HD.out k hlt).kept hbel
          have r2 := (HD2.out k hlt).kept hbel
          clear hp hq
          simp only [acCell, List.getElem?_eq_getElem hlt, Option.map_some, Option.getD_some, Nat.add_zero] at a0 a1 a2 a3 b0 b1 b2 b3 r1 r2
          have hk0 : (0 : Int) ≤ (k : Int) := by omega
          have hk1 : (k : Int) < (al.length : Int) := by omega
          go_wp2_with fail
          go_quiet ((go_at_call 25
                     exact Calls.quiet_of (RefOne.same_any _ _ _ _ _ (r1.kept (below_drewN (Below.refl _ _) _)) (r2.kept (below_drewN (Below.refl _ _) _)))))
          go_wp2_with fail
          go_roundw
          case rel => exact ⟨k + 1, by omega, by go_num, below_drewN hbel _⟩
          case measure => simp [intOf]; omega
        · go_wp2_with fail
          go_ret
          exact ⟨rfl, hbel⟩
end Go.Proofs.YtkankjblpmmikaaDoor.Sc
