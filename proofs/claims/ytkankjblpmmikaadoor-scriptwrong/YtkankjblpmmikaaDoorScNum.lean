/- The printer's numbers and bytes. -/
import Derived.Test.YtkankjblpmmikaaDoorScPr
import Derived.Test.YtkankjblpmmikaaDoorScStd
import Derived.Test.YtkankjblpmmikaaDoorRefPrint
import Derived.Deep.RegionHeld3
set_option linter.unusedSimpArgs false
set_option linter.unusedVariables false
namespace Go.Proofs.YtkankjblpmmikaaDoor.Sc
open Go.RowKit Hp

theorem nums_step {ns : List Int} {k : Nat} (h : k < ns.length) (l : Bs) : l ++ (ns.take (k + 1)).flatMap num = (l ++ (ns.take k).flatMap num) ++ (32 :: Lib.itoa ns[k]) := by
  rw [List.take_succ_eq_append_getElem h, List.flatMap_append, List.append_assoc]; simp [num]
theorem nums_len {ns : List Int} (hn : ∀ n ∈ ns, Ok n) : (ns.flatMap num).length ≤ 20 * ns.length := by
  induction ns with
  | nil => simp
  | cons a r ih =>
    have h1 := itoa_len a (hn a (by simp)).1 (hn a (by simp)).2
    have h2 := ih fun n h => hn n (by simp [h])
    simp only [List.flatMap_cons, List.length_append, List.length_cons, num]
    omega
theorem int_at {w : World} {ns : List Int} {g k : Nat} (hg : w.heap[g]? = some (.cells (ns.map (Value.int .i64)).toArray 3 (0, 0))) (hk : k < ns.length) : w.cell? ⟨g, k, none⟩ = some (.int .i64 ns[k]) := by
  rw [Lib.cell_of_heap hg]; simp [hk]

theorem drew_both {w w' : World} {B b : Nat} {v v' : Value} {l : Bs} {bad : Bool} (h : Pr w' B b v l bad ∧ Fr b v' v w w') : Pr w'.drew B b v l bad ∧ Fr b v' v w w'.drew :=
  ⟨h.1.next ((Below.refl _ _).drew), h.2.next ((Below.refl _ _).drew)⟩
/-- The mark 'bad' written anew as it was. -/
theorem Pr.setBad {w : World} {B b : Nat} {v : Value} {l : Bs} {bad : Bool} (h : Pr w B b v l bad) (bad' : Bool) : Pr (w.setCell ⟨b, 2, none⟩ (.bool bad')) B b v l bad' ∧ Fr b v v w (w.setCell ⟨b, 2, none⟩ (.bool bad')) := by
  obtain ⟨p, hp, hb⟩ := h.heap
  refine ⟨⟨h.lo, by have := h.hi; simpa [World.setCell] using this, ⟨p, hp, by simp [World.setCell, Array.getElem?_modify, hb]⟩, own_set h.own hb (by decide), h.off⟩, ⟨rfl, rfl, rfl, by simp [World.setCell], fun k _ hk _ => Below.heap_setCell _ _ _ _ hk, .inl rfl⟩⟩

set_option maxRecDepth 100000 in
set_option maxHeartbeats 1000000 in
theorem numbers_any {w : World} {B b : Nat} {v : Value} {l : Bs} (h : Pr w B b v l false) (hs : Std w B) (ns : List Int) (g : Nat) (hg : w.heap[g]? = some (.cells (ns.map (Value.int .i64)).toArray 3 (0, 0))) (hgb : g ≠ b)
    (hn : ∀ n ∈ ns, Ok n) (hl : l.length + 20 * ns.length ≤ 100000000) :
    Calls Tryd.prog 15 #[.pointer (some ⟨b, 0, none⟩), .slice (some ⟨g, 0, none⟩) ns.length ns.length] w fun e w' => e = .returned (.tuple #[]) ∧ Wrote w B b v (l ++ ns.flatMap num) false w' := by
  have HN := Lib.hid hn
  have HG := Lib.hid hg
  have HP := Lib.hid h
  clear hn hg h
  go_enter Tryd.func15, Tryd.ntmps15
  go_wp2_with fail
  go_loopw [8] (fun i wr => ∃ (k : Nat) (v' : Value), k ≤ ns.length ∧ i = .int .i64 k ∧ Pr wr B b v' (l ++ (ns.take k).flatMap num) false ∧ Fr b v v' w wr) (fun i _ => ns.length - (intOf i).toNat)
  case atStart => exact ⟨0, v, Nat.zero_le _, rfl, by simpa using HP.out, Fr.refl _ _ _⟩
  case round =>
    obtain ⟨k, v', hk, rfl, hp, hf⟩ := hrel
    by_cases hlt : k < ns.length
    · have hg1 := HP.out.keepT hf HG.out (by decide) hgb
      have c0 := int_at hg1 hlt
      have hs1 := hs.kept (HP.out.below hf)
      obtain ⟨p, hp0, hb⟩ := hp.heap
      have c2 : wr.cell? ⟨b, 2, none⟩ = some (.bool false) := by rw [Lib.cell_of_heap hb]; rfl
      have f2 : wr.frozen? ⟨b, 2, none⟩ = false := Lib.frozen_of_heap hb 2
      obtain ⟨o0, o1⟩ := HN.out _ (List.getElem_mem hlt)
      have ol := itoa_len _ o0 o1
      have hz : decide (ns[k] < 0) = false := by simp; omega
      have hlen := nums_len (ns := ns.take k) fun n h => HN.out n (List.mem_of_mem_take h)
      have hlk : (ns.take k).length ≤ k := List.length_take_le _ _
      have hq := drew_both (hp.setBad false)
      have hs2 := hs1.kept (hp.below hq.2)
      have HQ := Lib.hid hq
      have HST := Lib.hid (nums_step hlt l)
      have so : SumOk [32] (Lib.itoa ns[k]) := by unfold SumOk; simp only [List.length_cons, List.length_nil]; omega
      clear hg1 hb hp0 hq hp
      go_wp2_with fail
      go_region_held3 (fun _ => True) (trivial)
        (first
          | (go_at_call 27; refine (itoa_any _ (by omega) (by omega) hs2).mono ?_; rintro e w' ⟨rfl, hb⟩)
          | (go_at_call 14; refine (writeString_any (HQ.out.1.next hb) (32 :: Lib.itoa ns[k]) (by simp only [List.length_append, List.length_cons]; omega)).mono ?_; rintro e w' ⟨rfl, hw⟩))
      go_wp2
      obtain ⟨v2, hw1, hw2⟩ := hw
      rw [← HST.out] at hw1
      go_roundw
      case rel => exact ⟨k + 1, v2, by omega, by go_num, hw1, (hf.trans HQ.out.2).trans (Fr.after hb hw2)⟩
      case measure => simp [intOf]; omega
    · have hkk : k = ns.length := by omega
      subst hkk
      rw [List.take_length] at hp
      have HW : Veil (Wrote w B b v (l ++ ns.flatMap num) false wr) := ⟨v', hp, hf⟩
      clear hp hf
      go_wp2
      go_end0
      exact ⟨rfl, HW.out⟩

theorem and15 : ∀ m : Fin 256, bits .and .u8 ((m.val : Nat) : Int) 15 = ((m.val % 16 : Nat) : Int) := by decide +kernel
theorem and_15 (n : Nat) (h : n < 256) : bits .and .u8 (n : Int) 15 = ((n % 16 : Nat) : Int) := and15 ⟨n, h⟩
/-- A slice apart from the printer. -/
def Apart (b : Nat) (v s : Value) : Prop := ∀ a n c, s = .slice (some a) n c → n ≠ 0 → a.block ≠ b ∧ v.ownBlock ≠ some a.block
theorem hexw_step {c : Bs} {k : Nat} (h : k < c.length) (l : Bs) : l ++ (32 :: hexw (c.take (k + 1))) = (l ++ (32 :: hexw (c.take k)) ++ [hexd (c[k].toNat / 16)]) ++ [hexd (c[k].toNat % 16)] := by
  rw [hexw_take h]; simp

set_option maxRecDepth 100000 in
set_option maxHeartbeats 1000000 in
theorem bytes_any {w : World} {B b : Nat} {v : Value} {l : Bs} {bad : Bool} (h : Pr w B b v l bad) (s : Value) (c : Bs) (hr : Reads w s c) (ha : Apart b v s) (hl : l.length + 2 * c.length ≤ 100000000) :
    Calls Tryd.prog 17 #[.pointer (some ⟨b, 0, none⟩), s] w fun e w' => e = .returned (.tuple #[]) ∧ Wrote w B b v (l ++ wd c) bad w' := by
  obtain ⟨hc1, A, cA, rfl, hA⟩ := hr
  have HA := Lib.hid hA
  have HP := Lib.hid h
  have HAP := Lib.hid ha
  clear hA h ha
  go_enter Tryd.func17, Tryd.ntmps17
  go_wp2_with (go_at_call 14; refine (writeString_any HP.out [32, 120] (by simp only [List.length_cons, List.length_nil]; omega)).mono ?_; rintro e w1 ⟨rfl, hw1⟩)
  obtain ⟨v1, hp1, hf1⟩ := hw1
  go_loopw [12] (fun i wr => ∃ (k : Nat) (v' : Value), k ≤ c.length ∧ i = .int .i64 k ∧ Pr wr B b v' (l ++ (32 :: hexw (c.take k))) bad ∧ Fr b v v' w wr) (fun i _ => c.length - (intOf i).toNat)
  case atStart => exact ⟨0, v1, Nat.zero_le _, rfl, by simpa [hexw, hex] using hp1, hf1⟩
  case round =>
    clear hp1 hf1
    obtain ⟨k, v', hk, rfl, hp, hf⟩ := hrel
    by_cases hlt : k < c.length
    · obtain ⟨q, qo, rfl, hqb, hq⟩ := HA.out (ne_nil_of_lt hlt)
      have hap := HAP.out _ _ _ rfl (by omega)
      have c0 := hq k hlt
      have hkeep := World.cell?_of_block (a := ⟨q, qo + k, none⟩) (hf.block q hqb hap.1 hap.2)
      rw [← hkeep] at c0
      have hb1 := c[k].toNat_lt
      have hi1 := fun W => idx_hex ((c[k].toNat : Int) / 16) (c[k].toNat / 16) (by omega) (by omega) W
      have hi2 := fun W => idx_hex (bits .and .u8 (c[k].toNat : Int) 15) (c[k].toNat % 16) (and_15 _ (by omega)) (by omega) W
      have hlw := hexw_length (c.take k)
      have hlk : (c.take k).length ≤ k := List.length_take_le _ _
      clear hkeep hq hap
      have HP1 := Lib.hid hp
      go_wp2_with fail
      go_region_held3 (fun _ => True) (trivial)
        (first
          | (go_at_call 16; refine (writeByte_any (HP1.out.next ((Below.refl _ _).drew)) _ (hexd (c[k].toNat / 16)) rfl (by simp only [List.length_append, List.length_cons]; omega)).mono ?_; rintro e w2 ⟨rfl, hw2⟩))
      obtain ⟨v2, hp2, hf2⟩ := hw2
      have hf3 := Fr.after ((Below.refl _ _).drew) hf2
      have HP2 := Lib.hid (And.intro hp2 hf3)
      clear hp2 hf2 hf3
      go_wp2_with fail
      go_region_held3 (fun _ => True) (trivial)
        (first
          | (go_at_call 16; refine (writeByte_any (HP2.out.1.next ((Below.refl _ _).drew)) _ (hexd (c[k].toNat % 16)) rfl (by simp only [List.length_append, List.length_cons, List.length_nil]; omega)).mono ?_; rintro e w3 ⟨rfl, hw3⟩))
      obtain ⟨v3, hp3, hf3⟩ := hw3
      have hf4 := (hf.trans HP2.out.2).trans (Fr.after ((Below.refl _ _).drew) hf3)
      rw [← hexw_step hlt l] at hp3
      clear hlw hlk hi1 hi2 hb1 hf3
      go_wp2_with fail
      go_roundw
      case rel => exact ⟨k + 1, v3, by omega, by go_num, hp3, hf4⟩
      case measure => simp [intOf]; omega
    · have hkk : k = c.length := by omega
      subst hkk
      rw [List.take_length] at hp
      have HW : Veil (Wrote w B b v (l ++ wd c) bad wr) := ⟨v', hp, hf⟩
      clear hp hf
      go_wp2
      go_end0
      exact ⟨rfl, HW.out⟩
end Go.Proofs.YtkankjblpmmikaaDoor.Sc
