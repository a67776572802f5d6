/- The walk of 'light': is all of it not too large? -/
import Derived.Test.YtkankjblpmmikaaDoorScMem
set_option linter.unusedSimpArgs false
set_option linter.unusedVariables false
namespace Go.Proofs.YtkankjblpmmikaaDoor.Sc
open Go.RowKit Hp

def base (c : Cf) (al : List Ac) : Nat := 20 * c.routes.length + 20 * c.types.length + 20 * al.length
def dLen (a : Ac) : Nat := a.data.length
theorem total_eq (c : Cf) (al : List Ac) : total c al = base c al + (c.routes.map rtLen).sum + (c.types.map List.length).sum + (al.map dLen).sum := rfl
theorem sum_take_le {α : Type} (f : α → Nat) (l : List α) (k : Nat) : ((l.take k).map f).sum ≤ (l.map f).sum := by
  conv => rhs; rw [← List.take_append_drop k l, List.map_append, List.sum_append]
  omega
theorem light_step {s T b y y' d : Nat} (h : s = b + y ∨ 20000 ≤ s ∧ 20000 ≤ T) (hs : s < 20000) (hy : y' = y + d) : s + d = b + y' ∨ 20000 ≤ s + d ∧ 20000 ≤ T := by omega
theorem light_out {α : Type} {s T b : Nat} {f : α → Nat} {l : List α} {k : Nat} (h : s = b + ((l.take k).map f).sum ∨ 20000 ≤ s ∧ 20000 ≤ T) (hT : b + (l.map f).sum ≤ T) (hk : ¬ (k < l.length ∧ s < 20000)) :
    s = b + (l.map f).sum ∨ 20000 ≤ s ∧ 20000 ≤ T := by
  have := sum_take_le f l k
  by_cases hl : k < l.length
  · right
    rcases h with h | h <;> omega
  · rw [List.take_of_length_le (by omega)] at h
    exact h

theorem light_end {s : Nat} {c : Cf} {al : List Ac} (h : s = base c al + (c.routes.map rtLen).sum + (c.types.map List.length).sum + (al.map dLen).sum ∨ 20000 ≤ s ∧ 20000 ≤ total c al) :
    decide (total c al < 20000) = decide ((s : Int) < 20000) := by
  have e := total_eq c al
  rcases h with h | h
  · rw [← h] at e
    rw [e]
    exact decide_eq_decide.2 (by omega)
  · rw [decide_eq_false (by omega), decide_eq_false (by omega)]

set_option maxRecDepth 100000 in
set_option maxHeartbeats 3200000 in
theorem light_any (vr vt va : Value) (c : Cf) (al : List Ac) (w : World) (hc : CfAt w vr vt c) (ha : AcAt w va al) :
    Calls Tryd.prog 6 #[cfVal vr vt c, va] w fun e w' => e = .returned (.bool (decide (total c al < 20000))) ∧ Below w.heap.size w w' := by
  obtain ⟨ds, ha, hd⟩ := ha.row
  have hsm := hc.small
  have hst := hc.short
  have HSM := Lib.hid hsm
  have HST := Lib.hid hst
  have HD := Lib.hid hd
  clear hsm hst hd
  obtain ⟨hr1, R, cR, rfl, hR⟩ := hc.routes
  obtain ⟨ht1, T, cT, rfl, hT⟩ := hc.types
  obtain ⟨ha1, A, cA, rfl, hA⟩ := ha
  have HR := Lib.hid hR
  have HT := Lib.hid hT
  have HA := Lib.hid hA
  clear hR hT hA
  go_enter Tryd.func6, Tryd.ntmps6
  go_wp2
  go_loopw [5, 6] (fun n i wr => ∃ k s : Nat, k ≤ c.routes.length ∧ i = .int .i64 k ∧ n = .int .i64 s ∧ s ≤ 35184372088832000 ∧ Veil (s = base c al + ((c.routes.take k).map rtLen).sum ∨ 20000 ≤ s ∧ 20000 ≤ total c al) ∧ BoxAt w wr w.heap.size (.slice R c.routes.length cR) (.slice T c.types.length cT) c)
    (fun _ i _ => c.routes.length - (intOf i).toNat)
  case atStart => exact ⟨0, base c al, Nat.zero_le _, rfl, by unfold base; go_num, by unfold base; omega, ⟨.inl (by simp)⟩, ⟨heap_alloc_new w _, (Below.refl _ _).alloc (Nat.le_refl _) _⟩⟩
  case round =>
    obtain ⟨k, s, hk, rfl, rfl, hs, hv, hbox⟩ := hrel
    have b0 := hbox.cell 0
    have b1 := hbox.cell 1
    simp only [List.getElem?_toArray, List.getElem?_cons_zero, List.getElem?_cons_succ] at b0 b1
    by_cases hgo : k < c.routes.length ∧ s < 20000
    · obtain ⟨hlt, hsm⟩ := hgo
      obtain ⟨p, po, rfl, hpb, hp⟩ := HR.out (by omega)
      have c0 := hp k 0 hlt (by omega)
      have c1 := hp k 1 hlt (by omega)
      rw [← cell_kept hbox.below hpb] at c0 c1
      simp only [rtCell, Nat.add_zero] at c0 c1
      have l0 := HSM.out _ (List.getElem_mem hlt)
      have hk0 : (0 : Int) ≤ (k : Int) := by omega
      have hk1 : (k : Int) < (c.routes.length : Int) := by omega
      clear hp
      go_wp2
      go_quiet (fail)
      go_wp2
      go_roundw
      case rel => exact ⟨k + 1, s + rtLen c.routes[k], by omega, by go_num, by unfold rtLen; go_num, by unfold rtLen; omega, ⟨light_step hv.out (by omega) (sum_step rtLen hlt)⟩, hbox.drawn _⟩
      case measure => simp [intOf]; omega
    · have hv2 : Veil (s = base c al + (c.routes.map rtLen).sum ∨ 20000 ≤ s ∧ 20000 ≤ total c al) := ⟨light_out hv.out (by rw [total_eq]; omega) hgo⟩
      clear hv
      go_wp2
      all_goals
        go_loopw [5, 7] (fun n i wr => ∃ k s : Nat, k ≤ c.types.length ∧ i = .int .i64 k ∧ n = .int .i64 s ∧ s ≤ 35184372088832000 ∧ Veil (s = base c al + (c.routes.map rtLen).sum + ((c.types.take k).map List.length).sum ∨ 20000 ≤ s ∧ 20000 ≤ total c al) ∧ BoxAt w wr w.heap.size (.slice R c.routes.length cR) (.slice T c.types.length cT) c)
          (fun _ i _ => c.types.length - (intOf i).toNat)
        case atStart => exact ⟨0, s, Nat.zero_le _, rfl, rfl, hs, ⟨by simpa using hv2.out⟩, hbox⟩
        case round =>
          clear hv2 hbox b0 b1 hs
          obtain ⟨k, s, hk, rfl, rfl, hs, hv, hbox⟩ := hrel
          have b1 := hbox.cell 1
          simp only [List.getElem?_toArray, List.getElem?_cons_zero, List.getElem?_cons_succ] at b1
          by_cases hgo : k < c.types.length ∧ s < 20000
          · obtain ⟨hlt, hsm⟩ := hgo
            obtain ⟨p, po, rfl, hpb, hp⟩ := HT.out (by omega)
            have c0 := hp k 0 hlt (by omega)
            rw [← cell_kept hbox.below hpb] at c0
            simp only [tyCell, Nat.add_zero, Nat.mul_one] at c0
            have l0 := HST.out _ (List.getElem_mem hlt)
            clear hp
            go_wp2
            go_roundw
            case rel => exact ⟨k + 1, s + c.types[k].length, by omega, by go_num, by go_num, by omega, ⟨light_step hv.out (by omega) (sum_step List.length hlt)⟩, hbox⟩
            case measure => simp [intOf]; omega
          · have hv3 : Veil (s = base c al + (c.routes.map rtLen).sum + (c.types.map List.length).sum ∨ 20000 ≤ s ∧ 20000 ≤ total c al) := ⟨light_out hv.out (by rw [total_eq]; omega) hgo⟩
            clear hv
            go_wp2
            all_goals
              go_loopw [5, 8] (fun n i wr => ∃ k s : Nat, k ≤ al.length ∧ i = .int .i64 k ∧ n = .int .i64 s ∧ s ≤ 35184372088832000 ∧ Veil (s = base c al + (c.routes.map rtLen).sum + (c.types.map List.length).sum + ((al.take k).map dLen).sum ∨ 20000 ≤ s ∧ 20000 ≤ total c al) ∧ BoxAt w wr w.heap.size (.slice R c.routes.length cR) (.slice T c.types.length cT) c)
                (fun _ i _ => al.length - (intOf i).toNat)
              case atStart => exact ⟨0, s, Nat.zero_le _, rfl, rfl, hs, ⟨by simpa using hv3.out⟩, hbox⟩
              case round =>
                clear hv3 hbox b1 hs
                obtain ⟨k, s, hk, rfl, rfl, hs, hv, hbox⟩ := hrel
                by_cases hgo : k < al.length ∧ s < 20000
                · obtain ⟨hlt, hsm⟩ := hgo
                  obtain ⟨p, po, rfl, hpb, hp⟩ := HA.out (by omega)
                  have c0 := hp k 3 hlt (by omega)
                  rw [← cell_kept hbox.below hpb] at c0
                  obtain ⟨l0, dA, dC, hd1, _⟩ := HD.out k hlt
                  simp only [acCell, hd1] at c0
                  simp only [List.getElem?_eq_getElem hlt, Option.map_some, Option.getD_some] at c0 l0
                  clear hp hd1
                  go_wp2
                  go_roundw
                  case rel => exact ⟨k + 1, s + dLen al[k], by omega, by go_num, by unfold dLen; go_num, by unfold dLen; omega, ⟨light_step hv.out (by omega) (sum_step dLen hlt)⟩, hbox⟩
                  case measure => simp [intOf]; omega
                · have hv4 : Veil (decide (total c al < 20000) = decide ((s : Int) < 20000)) := ⟨light_end (light_out hv.out (by rw [total_eq]; omega) hgo)⟩
                  clear hv
                  go_wp2
                  all_goals
                    go_ret
                    exact ⟨ret_bool hv4.out, hbox.below⟩
end Go.Proofs.YtkankjblpmmikaaDoor.Sc
