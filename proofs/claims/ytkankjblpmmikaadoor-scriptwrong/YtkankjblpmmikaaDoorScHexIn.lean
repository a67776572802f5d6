/- 'strconv.ParseUint' of two hexadecimal digits. -/
import Derived.Test.YtkankjblpmmikaaDoorScStd
import Derived.Test.YtkankjblpmmikaaDoorApp
import Derived.Test.YtkankjblpmmikaaDoorScMem
import Derived.Lib.ConvBytes
import Derived.BigCall
import Derived.BigGuard
set_option linter.unusedSimpArgs false
set_option linter.unusedVariables false
namespace Go.Proofs.YtkankjblpmmikaaDoor.Sc
open Go.RowKit Hp

theorem digit_cases : ∀ c ∈ digits, (48 ≤ c.toNat ∧ c.toNat ≤ 57 ∧ nib c = c.toNat - 48) ∨ (97 ≤ c.toNat ∧ c.toNat ≤ 102 ∧ nib c = c.toNat - 87) := by decide
theorem or32 : ∀ m : Fin 256, 97 ≤ m.val → m.val ≤ 102 → bits .or .u8 ((m.val : Nat) : Int) 32 = ((m.val : Nat) : Int) := by decide +kernel
theorem or_32 (n : Nat) (h : 97 ≤ n) (h2 : n ≤ 102) : bits .or .u8 (n : Int) 32 = (n : Int) := or32 ⟨n, by omega⟩ h h2

theorem nib_le {c : UInt8} (h : (48 ≤ c.toNat ∧ c.toNat ≤ 57 ∧ nib c = c.toNat - 48) ∨ (97 ≤ c.toNat ∧ c.toNat ≤ 102 ∧ nib c = c.toNat - 87)) : nib c ≤ 15 := by omega
def acc2 (a b : UInt8) (k : Nat) : Int := if k = 0 then 0 else if k = 1 then (nib a : Int) else (nib a : Int) * 16 + nib b

set_option maxHeartbeats 4000000 in
set_option maxRecDepth 100000 in
theorem parseIn_any (a b : UInt8) (ha : a ∈ digits) (hb : b ∈ digits) (w : World) :
    Calls Tryd.prog 60 #[str [a, b], .int .i64 16, .int .i64 8] w fun e w' => e = .returned (.tuple #[.int .u64 ((nib a : Int) * 16 + nib b), .nilIface]) ∧ Below w.heap.size w w' := by
  have hcv := Lib.run_convert_string_bytes (P := Tryd.prog) w 9 37 5 ⟨[a, b].toArray⟩ Tryd.underlying9 Tryd.underlying37 Tryd.underlying5
  have hB : ∀ j, j < 2 → (Lib.bytesWorld w 5 ⟨[a, b].toArray⟩).cell? ⟨w.heap.size, j, none⟩ = some (.int .u8 ([a, b].getD j 0).toNat) := fun j hj => Lib.bytesWorld_cell w 5 ⟨[a, b].toArray⟩ j hj
  have hBel := below_bytesWorld w 5 ⟨[a, b].toArray⟩
  obtain ⟨W1, hW1⟩ : ∃ W1, W1 = Lib.bytesWorld w 5 ⟨[a, b].toArray⟩ := ⟨_, rfl⟩
  rw [← hW1] at hcv hB hBel
  have e2 : (⟨[a, b].toArray⟩ : ByteArray).size = 2 := rfl
  rw [e2] at hcv
  clear hW1 e2
  have HB := Lib.hid hB
  have HBel := Lib.hid hBel
  clear hB hBel
  have HA := Lib.hid (And.intro (digit_cases a ha) (digit_cases b hb))
  clear ha hb
  go_enter Tryd.func60, Tryd.ntmps60
  go_wp2_with fail
  go_loop [12, 13, 101] (fun vu vn vi => ∃ (k : Nat) (x : Int), vu = .bool false ∧ vn = .int .u64 x ∧ vi = .int .i64 k ∧ k ≤ 2 ∧ 0 ≤ x ∧ Hid (x = acc2 a b k))
    (fun _ _ vi => 2 - (intOf vi).toNat)
  case atStart => exact ⟨0, 0, rfl, rfl, rfl, by omega, by omega, Lib.hid rfl⟩
  case round =>
    obtain ⟨k, x, rfl, rfl, rfl, hk, hx0, hacc⟩ := hrel
    have na := nib_le HA.out.1
    have nb := nib_le HA.out.2
    by_cases hlt : k < 2
    · have hx1 : x ≤ 15 := by rw [hacc.out]; unfold acc2; split <;> (try split) <;> omega
      obtain ⟨c, hc, hcc, hstep⟩ : ∃ c : UInt8, W1.cell? ⟨w.heap.size, k, none⟩ = some (.int .u8 c.toNat) ∧ Hid ((48 ≤ c.toNat ∧ c.toNat ≤ 57 ∧ nib c = c.toNat - 48) ∨ (97 ≤ c.toNat ∧ c.toNat ≤ 102 ∧ nib c = c.toNat - 87)) ∧ Hid (acc2 a b (k + 1) = x * 16 + nib c) := by
        have hcell := HB.out k hlt
        match k, hlt with
        | 0, _ => exact ⟨a, hcell, Lib.hid HA.out.1, Lib.hid (by rw [hacc.out]; simp [acc2])⟩
        | 1, _ => exact ⟨b, hcell, Lib.hid HA.out.2, Lib.hid (by rw [hacc.out]; simp [acc2])⟩
      have hk0 : (0 : Int) ≤ (k : Int) := by omega
      have hk1 : (k : Int) < 2 := by omega
      clear na nb
      rcases hcc.out with ⟨h1, h2, h3⟩ | ⟨h1, h2, h3⟩
      · have HN := Lib.hid h3
        clear h3
        have f1 : decide ((48 : Int) ≤ (c.toNat : Int)) = true := by simp; omega
        go_wp2_with fail
        go_round
        case rel => exact ⟨k + 1, x * 16 + ((c.toNat : Int) - 48), rfl, by first | rfl | go_num, by go_num, by omega, by omega, Lib.hid (by rw [hstep.out, HN.out]; omega)⟩
        case measure => simp [intOf]; omega
      · have HN := Lib.hid h3
        have h32 := or_32 c.toNat h1 h2
        clear h3
        go_wp2_with (go_at_call 79; refine (Tryd.internal_strconv_lower _ _).mono ?_; rw [h32]; rintro e w' ⟨rfl, rfl⟩)
        go_round
        case rel => exact ⟨k + 1, x * 16 + ((c.toNat : Int) - 97 + 10), rfl, by first | rfl | go_num, by go_num, by omega, by omega, Lib.hid (by rw [hstep.out, HN.out]; omega)⟩
        case measure => simp [intOf]; omega
    · have hkk : k = 2 := by omega
      subst hkk
      have he : x = (nib a : Int) * 16 + nib b := by rw [hacc.out]; rfl
      subst he
      clear hacc
      go_wp2_with fail
      go_ret2
      exact ⟨rfl, HBel.out⟩

set_option maxHeartbeats 400000 in
theorem parseHex_any (a b : UInt8) (ha : a ∈ digits) (hb : b ∈ digits) (w : World) :
    Calls Tryd.prog 41 #[str [a, b], .int .i64 16, .int .i64 8] w fun e w' => e = .returned (.tuple #[.int .u64 ((nib a : Int) * 16 + nib b), .nilIface]) ∧ Below w.heap.size w w' := by
  go_enter Tryd.func41, Tryd.ntmps41
  go_wp2_with (go_at_call 60; refine (parseIn_any a b ha hb _).mono ?_; rintro e w1 ⟨rfl, hb1⟩)
  go_ret2
  exact ⟨rfl, hb1⟩
end Go.Proofs.YtkankjblpmmikaaDoor.Sc
