import Derived.Test.YtkankjblpmmikaaDoorHp
set_option linter.unusedSimpArgs false
set_option linter.unusedVariables false
namespace Go.Proofs.YtkankjblpmmikaaDoor.RefOne
open Go.RowKit Hp


set_option maxHeartbeats 400000 in
theorem same_any (v u : Value) (a b : Bs) (w : World) (hv : Reads w v a) (hu : Reads w u b) :
    Calls Tryd.prog 25 #[v, u] w fun e w' => e = .returned (.bool (decide (a = b))) ∧ ∃ n, w' = w.drewN n := by
  obtain ⟨ha, A, cA, rfl, hA⟩ := hv
  obtain ⟨hb, B, cB, rfl, hB⟩ := hu
  by_cases hlen : a.length = b.length
  · go_enter Tryd.func25, Tryd.ntmps25
    go_wp2
    go_loopw [5] (fun i wr => ∃ k n : Nat, k ≤ a.length ∧ i = .int .i64 k ∧ wr = w.drewN n ∧ Veil (a.take k = b.take k)) (fun i _ => a.length - (intOf i).toNat)
    case atStart => exact ⟨0, 0, Nat.zero_le _, rfl, rfl, ⟨rfl⟩⟩
    case round =>
      obtain ⟨k, n, hk, rfl, rfl, ht⟩ := hrel
      by_cases hlt : k < a.length
      · have h0 : (0 : Int) ≤ (k : Int) := by omega
        have hi1 : (k : Int) < (a.length : Int) := by omega
        have hi2 : (k : Int) < (b.length : Int) := by omega
        obtain ⟨p, po, rfl, _, hp⟩ := hA (ne_nil_of_lt hlt)
        obtain ⟨q, qo, rfl, _, hq⟩ := hB (ne_nil_of_lt (k := k) (by omega))
        have cp := hp k hlt
        have cq := hq k (by omega)
        clear hA hB hp hq
        go_wp2
        go_quiet (fail)
        go_wp2
        · have h : (((a[k]?.getD 0).toNat : Int) != ((b[k]?.getD 0).toNat : Int)) = true := by assumption
          go_ret
          refine ⟨?_, drawn2 _ _ _⟩
          have : ¬ a = b := fun e => by subst e; simp at h
          simp [this]
        · have h : (((a[k]?.getD 0).toNat : Int) != ((b[k]?.getD 0).toNat : Int)) = false := by assumption
          go_roundw
          case rel => exact ⟨k + 1, n + nq, by omega, by go_num, by simp, ⟨take_step ht.out hlt (by omega) (byte_eq h)⟩⟩
          case measure => simp [intOf]; omega
      · go_wp2
        go_ret
        refine ⟨?_, _, rfl⟩
        have : a = b := by
          have e := ht.out
          rwa [List.take_of_length_le (by omega), List.take_of_length_le (by omega)] at e
        simp [this]
  · have hne : ((a.length : Int) != (b.length : Int)) = true := by simp; omega
    go_enter Tryd.func25, Tryd.ntmps25
    go_wp2
    go_ret
    refine ⟨?_, 0, rfl⟩
    have : ¬ a = b := fun e => hlen (by rw [e])
    simp [this]
end Go.Proofs.YtkankjblpmmikaaDoor.RefOne
