/- The walk of the reference's comparison of texts. -/
import Derived.Test.YtkankjblpmmikaaDoorScMem
set_option linter.unusedSimpArgs false
set_option linter.unusedVariables false
namespace Go.Proofs.YtkankjblpmmikaaDoor.Sc
open Go.RowKit Hp

theorem str_ne {a b : Bs} : (Value.string ⟨a.toArray⟩ = Value.string ⟨b.toArray⟩) ↔ a = b := by simp
theorem takes_step {α : Type} {a b : List α} {k : Nat} (h : a.take k = b.take k) (ha : k < a.length) (hb : k < b.length) (he : a[k] = b[k]) : a.take (k + 1) = b.take (k + 1) := by
  rw [List.take_succ_eq_append_getElem ha, List.take_succ_eq_append_getElem hb, h, he]
set_option maxHeartbeats 400000 in
theorem texts_any (va vb : Value) (a b : List Bs) (w : World) (ha : RowAt w va a.length 1 (tyCell a)) (hb : RowAt w vb b.length 1 (tyCell b)) :
    Calls Tryd.prog 24 #[va, vb] w fun e w' => e = .returned (.bool (decide (a = b))) ∧ ∃ n, w' = w.drewN n := by
  obtain ⟨ha1, A, cA, rfl, hA⟩ := ha
  obtain ⟨hb1, B, cB, rfl, hB⟩ := hb
  by_cases hlen : a.length = b.length
  · have e1 : ((a.length : Int) != (b.length : Int)) = false := by rw [hlen]; simp
    go_enter Tryd.func24, Tryd.ntmps24
    go_wp2
    go_loopw [5] (fun i wr => ∃ k n : Nat, k ≤ a.length ∧ i = .int .i64 k ∧ wr = w.drewN n ∧ Veil (a.take k = b.take k)) (fun i _ => a.length - (intOf i).toNat)
    case atStart => exact ⟨0, 0, Nat.zero_le _, rfl, rfl, ⟨rfl⟩⟩
    case round =>
      obtain ⟨k, n, hk, rfl, rfl, ht⟩ := hrel
      by_cases hlt : k < a.length
      · have hlb : k < b.length := by omega
        obtain ⟨p, po, rfl, hpb, hp⟩ := hA (by omega)
        obtain ⟨q, qo, rfl, hqb, hq⟩ := hB (by omega)
        have cp := hp k 0 hlt (by omega)
        have cq := hq k 0 hlb (by omega)
        have hk0 : (0 : Int) ≤ (k : Int) := by omega
        have hk1 : (k : Int) < (a.length : Int) := by omega
        have hk2 : (k : Int) < (b.length : Int) := by omega
        simp only [tyCell, List.getElem?_eq_getElem hlt, List.getElem?_eq_getElem hlb, Option.getD_some, Nat.add_zero, Nat.mul_one] at cp cq
        clear hA hB hp hq
        go_wp2_with fail
        go_quiet (fail)
        go_wp2
        · have h : (!a[k] == b[k]) = true := by assumption
          go_ret
          refine ⟨?_, drawn2 _ _ _⟩
          have : ¬ a = b := fun e => by subst e; simp at h
          simp [this]
        · have h : (!a[k] == b[k]) = false := by assumption
          go_roundw
          case rel => exact ⟨k + 1, n + nq, by omega, by go_num, by simp, ⟨takes_step ht.out hlt hlb (by simpa using h)⟩⟩
          case measure => simp [intOf]; omega
      · go_wp2
        go_ret
        refine ⟨?_, _, rfl⟩
        have : a = b := by
          have e := ht.out
          rwa [List.take_of_length_le (by omega), List.take_of_length_le (by omega)] at e
        simp [this]
  · have hne : ((a.length : Int) != (b.length : Int)) = true := by simp; omega
    go_enter Tryd.func24, Tryd.ntmps24
    go_wp2
    go_ret
    refine ⟨?_, 0, rfl⟩
    have : ¬ a = b := fun e => hlen (by rw [e])
    simp [this]
end Go.Proofs.YtkankjblpmmikaaDoor.Sc
