/- What the library's variables hold, and how it is kept. -/
import Derived.Test.YtkankjblpmmikaaDoorHp
import Derived.Test.YtkankjblpmmikaaDoorShelf
import Derived.Lib.LaidTab
import Derived.Lib.AppendIntMem
import Derived.WalkSmall
import Derived.ChangeBears2
set_option linter.unusedSimpArgs false
set_option linter.unusedVariables false
namespace Go.Proofs.YtkankjblpmmikaaDoor.Sc
open Go.RowKit Hp

theorem gPow : Tryd.prog.globalNamed "internal/strconv.uint64pow10" = some 1 := by kernel_rfl
theorem gSyn : Tryd.prog.globalNamed "strconv.ErrSyntax" = some 2 := by kernel_rfl
theorem gRan : Tryd.prog.globalNamed "strconv.ErrRange" = some 3 := by kernel_rfl

/-- The library's variables, below block B: how they stand in w. -/
structure Std (w : World) (B : Nat) : Prop where
  l0 : 0 < B
  l1 : 1 < B
  l2 : 2 < B
  l3 : 3 < B
  maxLen : ∃ m, w.cell? ⟨0, 0, none⟩ = some (.int .i64 m)
  tab : Lib.TabIs Tryd.prog w "internal/strconv.uint64pow10" .u64 Lib.pow10Tab
  esyn : ∃ tp p, w.var? Tryd.prog "strconv.ErrSyntax" = some #[.iface tp p]
  eran : ∃ tp p, w.var? Tryd.prog "strconv.ErrRange" = some #[.iface tp p]
theorem Std.kept {w w' : World} {B : Nat} (h : Std w B) (hb : Below B w w') : Std w' B := by
  refine ⟨h.l0, h.l1, h.l2, h.l3, ?_, ?_, ?_, ?_⟩
  · obtain ⟨m, hm⟩ := h.maxLen
    exact ⟨m, (hb.cell (p := ⟨0, 0, none⟩) h.l0).trans hm⟩
  · exact var?_below hb gPow h.l1 h.tab
  · obtain ⟨tp, p, hp⟩ := h.esyn
    exact ⟨tp, p, var?_below hb gSyn h.l2 hp⟩
  · obtain ⟨tp, p, hp⟩ := h.eran
    exact ⟨tp, p, var?_below hb gRan h.l3 hp⟩
theorem Std.mono {w : World} {B B' : Nat} (h : Std w B) (hb : B ≤ B') : Std w B' := ⟨Nat.lt_of_lt_of_le h.l0 hb, Nat.lt_of_lt_of_le h.l1 hb, Nat.lt_of_lt_of_le h.l2 hb, Nat.lt_of_lt_of_le h.l3 hb, h.maxLen, h.tab, h.esyn, h.eran⟩
/-- The same, behind a call that leaves what was. -/
theorem Std.next {w w' : World} (h : Std w w.heap.size) (hb : Below w.heap.size w w') : Std w' w'.heap.size := (h.kept hb).mono hb.size

/-- 'strconv.Itoa'. -/
theorem itoa_any (n : Int) (h0 : 0 ≤ n) (h1 : n ≤ 9223372036854775807) {w : World} {B : Nat} (h : Std w B) :
    Calls Tryd.prog 27 #[.int .i64 n] w fun e w' => e = .returned (str (Lib.itoa n)) ∧ Below w.heap.size w w' :=
  (Tryd.strconv_Itoa n (by omega) h1 w h.tab).mono fun _ _ ⟨he, k, os, hw⟩ => ⟨he, by rw [hw]; exact Lib.below_grow _ _ (Nat.le_refl _) k os⟩
end Go.Proofs.YtkankjblpmmikaaDoor.Sc
