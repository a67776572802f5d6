/- The walks of the references' numerals and hexadecimal words. -/
import Derived.Test.YtkankjblpmmikaaDoorScMem
import Derived.Test.YtkankjblpmmikaaDoorApp
set_option linter.unusedSimpArgs false
set_option linter.unusedVariables false
namespace Go.Proofs.YtkankjblpmmikaaDoor.Sc
open Go.RowKit Hp

theorem u8_div (n : Nat) (h : n < 256) : IntKind.u8.wrap ((n : Int) / 16) = ((n / 16 : Nat) : Int) := by
  simp only [IntKind.wrap_u8]; omega
theorem u8_mod (n : Nat) (h : n < 256) : ((n : Int)).tmod 16 = ((n % 16 : Nat) : Int) := by
  rw [Int.tmod_eq_emod_of_nonneg (by omega)]; omega
theorem hexd_at (n : Nat) (h : n < 16) : (#[48, 49, 50, 51, 52, 53, 54, 55, 56, 57, 97, 98, 99, 100, 101, 102] : Array UInt8)[n]'(by simpa using h) = hexd n := by
  have : ∀ m (h : m < 16), (#[48, 49, 50, 51, 52, 53, 54, 55, 56, 57, 97, 98, 99, 100, 101, 102] : Array UInt8)[m]'(by simpa using h) = hexd m := by decide
  exact this n h
theorem idx_hex (x : Int) (n : Nat) (hx : x = n) (hn : n < 16) (W : World) :
    (Instr.index 9 (.string ⟨#[48, 49, 50, 51, 52, 53, 54, 55, 56, 57, 97, 98, 99, 100, 101, 102]⟩) (.int .u8 x)).run Tryd.prog W = .ok (.int .u8 (hexd n).toNat) W := by
  subst hx
  have e : (⟨#[48, 49, 50, 51, 52, 53, 54, 55, 56, 57, 97, 98, 99, 100, 101, 102]⟩ : ByteArray)[n]? = some (hexd n) := by
    rw [← hexd_at n hn]
    exact getElem?_pos (⟨#[48, 49, 50, 51, 52, 53, 54, 55, 56, 57, 97, 98, 99, 100, 101, 102]⟩ : ByteArray) n hn
  simp [Instr.index, go_sem, run_underlying Tryd.underlying9, e]

theorem hexw_take {b : Bs} {k : Nat} (h : k < b.length) : hexw (b.take (k + 1)) = hexw (b.take k) ++ [hexd (b[k].toNat / 16), hexd (b[k].toNat % 16)] := by
  rw [List.take_succ_eq_append_getElem h]
  simp only [hexw, hex, List.flatMap_append, List.flatMap_cons, List.flatMap_nil, List.append_nil, List.cons_append]
theorem hexw_length (b : Bs) : (hexw b).length = 2 * b.length + 1 := by simp [hexw, hex_length]

set_option maxRecDepth 100000 in
set_option maxHeartbeats 400000 in
theorem refHex_any (v : Value) (b : Bs) (w : World) (hv : Reads w v b) (hb : b.length ≤ 1099511627776) :
    Calls Tryd.prog 23 #[v] w fun e w' => e = .returned (str (hexw b)) ∧ Below w.heap.size w w' := by
  obtain ⟨_, A, cA, rfl, hA⟩ := hv
  have HA := Lib.hid hA
  clear hA
  go_enter Tryd.func23, Tryd.ntmps23
  go_wp2
  go_loopw [4, 5] (fun v i wr => ∃ k : Nat, k ≤ b.length ∧ i = .int .i64 k ∧ OwnB wr w.heap.size v (hexw (b.take k)) ∧ Below w.heap.size w wr)
    (fun _ i _ => b.length - (intOf i).toNat)
  case atStart => exact ⟨0, Nat.zero_le _, rfl, ⟨by simp [hexw, hex], OwnR.made w w.heap.size _ 1 1 _ (Nat.le_refl _) (by decide) rfl⟩, (Below.refl _ _).alloc (Nat.le_refl _) _⟩
  case round =>
    obtain ⟨k, hk, rfl, hown, hbel⟩ := hrel
    have hsz := hbel.size
    by_cases hlt : k < b.length
    · obtain ⟨p, po, rfl, hpb, hp⟩ := HA.out (ne_nil_of_lt hlt)
      have c0 := hp k hlt
      rw [← cell_kept hbel hpb] at c0
      have hk0 : (0 : Int) ≤ (k : Int) := by omega
      have hk1 : (k : Int) < (b.length : Int) := by omega
      have hb1 := b[k].toNat_lt
      have hi1 := fun W => idx_hex (IntKind.u8.wrap ((b[k].toNat : Int) / 16)) (b[k].toNat / 16) (u8_div _ (by omega)) (by omega) W
      have hi2 := fun W => idx_hex (((b[k].toNat : Int)).tmod 16) (b[k].toNat % 16) (u8_mod _ (by omega)) (by omega) W
      have hlen := hexw_length (b.take k)
      have hlk : (b.take k).length ≤ k := List.length_take_le _ _
      have HL := Lib.hid (hexw_take hlt)
      clear hp
      go_wp2_with fail
      go_region_law (refine step_appI rfl (.tmp 13) (.tmp 28) rfl appB txB u4 _ _ rfl (hown.below (by go_grown)).2 _ rfl 2 (Lib.byteCells [hexd (b[k].toNat / 16), hexd (b[k].toNat % 16)]) (Src.ofBlock 2 1 2 rfl (byteCells_one _) (by exact heap_alloc_new wr _)) (by unfold maxLen; omega) (by omega) (by simp; omega) ?_; intro v' w' hA)
      all_goals
        have hO := Appd.bytes (l := hexw (b.take k)) (m := [hexd (b[k].toNat / 16), hexd (b[k].toNat % 16)]) hA (by simp only [List.length_cons, List.length_nil]; omega)
        have hB := hA.below (B := w.heap.size) (w0 := w) (by go_grown) (by simp; omega) (hown.below (by go_grown)).2
        rw [← HL.out] at hO
        clear hA hown hlen hlk hi1 hi2 hb1
        go_wp2
        go_roundw
        case rel => exact ⟨k + 1, by omega, by go_num, hO, hB⟩
        case measure => simp [intOf]; omega
    · have hs := run_string_of hown.reads
      rw [List.take_of_length_le (by omega)] at hs
      clear hown
      go_wp2
      go_ret
      exact ⟨rfl, hbel⟩
end Go.Proofs.YtkankjblpmmikaaDoor.Sc
