/- The walks of the references' decimal numerals. -/
import Derived.Test.YtkankjblpmmikaaDoorApp
import Derived.Test.YtkankjblpmmikaaDoorScMem
set_option linter.unusedSimpArgs false
set_option linter.unusedVariables false
namespace Go.Proofs.YtkankjblpmmikaaDoor.Sc
open Go.RowKit Hp

theorem dig_of {a : Int} (h : 0 ≤ a) : 48 + a % 10 = ((UInt8.ofNat (48 + a.toNat % 10)).toNat : Int) := by
  rw [UInt8.toNat_ofNat']
  omega
theorem dec_last {a : Int} (h0 : 0 ≤ a) (h : a < 10) : Lib.decDigits a.toNat = [UInt8.ofNat (48 + a.toNat % 10)] := by
  rw [Lib.decDigits, dif_pos (by omega)]
  have : a.toNat % 10 = a.toNat := by omega
  rw [this]
theorem dec_more {a : Int} (h : ¬ a < 10) : Lib.decDigits a.toNat = Lib.decDigits (a / 10).toNat ++ [UInt8.ofNat (48 + a.toNat % 10)] := by
  rw [Lib.decDigits, dif_neg (by omega)]
  have : a.toNat / 10 = (a / 10).toNat := by omega
  rw [this]
/-- 'string([]byte{c})'. -/
theorem conv_one (wr : World) (x : Int) (c : UInt8) (h : x = (c.toNat : Int)) :
    (convert 37 9 (.slice (some ⟨wr.heap.size, 0, none⟩) 1 1)).run Tryd.prog (wr.alloc (.cells #[.int .u8 x] 5)) = .ok (str [c]) (wr.alloc (.cells #[.int .u8 x] 5)) := by
  subst h
  refine run_string_of (l := [c]) ⟨by simp, _, _, rfl, fun _ => ⟨_, _, rfl, by simp, fun j hj => ?_⟩⟩
  obtain rfl : j = 0 := by simpa using hj
  rw [cell_of_row _ _ _ _ _ (0, 0) (heap_alloc_new wr _)]
  rfl

set_option maxRecDepth 100000 in
set_option maxHeartbeats 400000 in
theorem udec_any (n : Int) (h0 : 0 ≤ n) (h1 : n ≤ 9223372036854775807) (w : World) :
    Calls Tryd.prog 33 #[.int .u64 n] w fun e w' => e = .returned (str (Lib.decDigits n.toNat)) ∧ Below w.heap.size w w' := by
  go_enter Tryd.func33, Tryd.ntmps33
  go_wp2
  go_loopw [0, 3] (fun x s wr => ∃ (a : Int) (t : Bs), 0 ≤ a ∧ a ≤ 9223372036854775807 ∧ x = .int .u64 a ∧ s = str t ∧ Veil (Lib.decDigits n.toNat = Lib.decDigits a.toNat ++ t) ∧ 9 * (t.length : Int) + a ≤ n ∧ Below w.heap.size w wr)
    (fun x _ _ => (intOf x).toNat)
  case atStart => exact ⟨n, [], h0, h1, rfl, rfl, ⟨by simp⟩, by simp, Below.refl _ _⟩
  case round =>
    obtain ⟨a, t, ha0, ha1, rfl, rfl, ht, hlen, hbel⟩ := hrel
    obtain ⟨c, hc⟩ : ∃ c, c = UInt8.ofNat (48 + a.toNat % 10) := ⟨_, rfl⟩
    have hcv := conv_one wr (48 + a % 10) c (by rw [hc]; exact dig_of ha0)
    have HC := Lib.hid hc
    clear hc
    by_cases hz : a < 10
    · have hz2 : a / 10 = 0 := by omega
      go_wp2
      go_ret
      exact ⟨ret_str (by rw [ht.out, dec_last (a := a) (by omega) hz, ← HC.out]; rfl), hbel.alloc hbel.size _⟩
    · go_wp2
      go_roundw
      case rel => exact ⟨a / 10, c :: t, by omega, by omega, rfl, rfl, ⟨by rw [ht.out, dec_more hz, ← HC.out]; simp⟩, by simp only [List.length_cons]; omega, hbel.alloc hbel.size _⟩
      case measure => simp [intOf]; omega

set_option maxHeartbeats 400000 in
theorem dec_any (n : Int) (h0 : 0 ≤ n) (h1 : n ≤ 9223372036854775807) (w : World) :
    Calls Tryd.prog 22 #[.int .i64 n] w fun e w' => e = .returned (str (Lib.itoa n)) ∧ Below w.heap.size w w' := by
  have HE : Lib.decDigits n.toNat = Lib.itoa n := by unfold Lib.itoa; rw [if_neg (by omega)]
  have HE2 := Lib.hid HE
  clear HE
  go_enter Tryd.func22, Tryd.ntmps22
  go_wp2_with (go_at_call 33; refine (udec_any _ (by omega) (by omega) _).mono ?_; rintro e w' ⟨rfl, hb⟩)
  go_ret
  exact ⟨ret_str HE2.out.symm, hb⟩
end Go.Proofs.YtkankjblpmmikaaDoor.Sc
