/- Words on memory that the walks use: a slice that reads as a list of bytes, in whatever world. CONDITIONS: none beyond those in each statement. -/
import Derived.Test.YtkankjblpmmikaaDoorProg
import Derived.WalkKit
import Derived.WalkSpells
import Derived.WalkLawsBesides
import Derived.Deep.QuietTactic
import Derived.BigQuiet
import Derived.Lib.Hide
import Derived.Deep.Light
import Derived.Handy
import Derived.Lib.UnsafeStr
import Derived.Lib.ConvBytes
set_option linter.unusedSimpArgs false
set_option linter.unusedVariables false
namespace Go.Proofs.YtkankjblpmmikaaDoor.Hp
open Go.RowKit

abbrev Bs := List UInt8
/-- A fact that the walk does not look into. -/
structure Veil (p : Prop) : Prop where mk :: (out : p)

/-- The slice v reads as the bytes l. -/
def Reads (w : World) (v : Value) (l : Bs) : Prop :=
  l.length ≤ 140737488355328 ∧ ∃ a c, v = .slice a l.length c ∧ (l ≠ [] → ∃ b o, a = some ⟨b, o, none⟩ ∧ b < w.heap.size ∧ ∀ j, j < l.length → w.cell? ⟨b, o + j, none⟩ = some (.int .u8 (l[j]?.getD 0).toNat))

theorem below_drewN {B : Nat} {w W : World} (h : Below B w W) (n : Nat) : Below B w (W.drewN n) := ⟨h.os, h.tape, h.output, h.size, h.block⟩

theorem cell_kept {w w1 : World} (hb : Below w.heap.size w w1) {b o : Nat} (h : b < w.heap.size) : w1.cell? ⟨b, o, none⟩ = w.cell? ⟨b, o, none⟩ := hb.cell (p := ⟨b, o, none⟩) h

theorem Reads.kept {w w1 : World} {v : Value} {l : Bs} (h : Reads w v l) (hb : Below w.heap.size w w1) : Reads w1 v l := by
  obtain ⟨h1, a, c, rfl, h2⟩ := h
  refine ⟨h1, a, c, rfl, fun hl => ?_⟩
  obtain ⟨b, o, rfl, h3, h4⟩ := h2 hl
  exact ⟨b, o, rfl, Nat.lt_of_lt_of_le h3 hb.size, fun j hj => (cell_kept hb h3).trans (h4 j hj)⟩

theorem byte_eq {x y : UInt8} (h : ((x.toNat : Int) != (y.toNat : Int)) = false) : x = y := by
  have h2 : (x.toNat : Int) = (y.toNat : Int) := by simpa using h
  exact UInt8.toNat_inj.1 (by omega)
theorem take_step {a b : Bs} {k : Nat} (h : a.take k = b.take k) (ha : k < a.length) (hb : k < b.length) (he : a[k]?.getD 0 = b[k]?.getD 0) : a.take (k + 1) = b.take (k + 1) := by
  rw [List.take_succ_eq_append_getElem ha, List.take_succ_eq_append_getElem hb, h]
  simp [ha, hb] at he
  rw [he]

theorem ne_nil_of_lt {α : Type} {l : List α} {k : Nat} (h : k < l.length) : l ≠ [] := fun e => by rw [e] at h; exact absurd h (Nat.not_lt_zero _)
theorem drawn2 (w : World) (n m : Nat) : ∃ k, (w.drewN n).drewN m = w.drewN k := ⟨n + m, World.drewN_drewN ..⟩

/-- A string's value. -/
abbrev str (l : Bs) : Value := .string ⟨l.toArray⟩
theorem str_of (s : ByteArray) : ∃ l : Bs, s = ⟨l.toArray⟩ := ⟨s.data.toList, by simp⟩

/-- The slice v has n elements of so many cells each: element i's cell j is f i j. -/
def RowAt (w : World) (v : Value) (n size : Nat) (f : Nat → Nat → Value) : Prop :=
  n ≤ 140737488355328 ∧ ∃ a c, v = .slice a n c ∧ (0 < n → ∃ b o, a = some ⟨b, o, none⟩ ∧ b < w.heap.size ∧ ∀ i j, i < n → j < size → w.cell? ⟨b, o + i * size + j, none⟩ = some (f i j))

theorem RowAt.kept {w w1 : World} {v : Value} {n size : Nat} {f : Nat → Nat → Value} (h : RowAt w v n size f) (hb : Below w.heap.size w w1) : RowAt w1 v n size f := by
  obtain ⟨h1, a, c, rfl, h2⟩ := h
  refine ⟨h1, a, c, rfl, fun hl => ?_⟩
  obtain ⟨b, o, rfl, h3, h4⟩ := h2 hl
  exact ⟨b, o, rfl, Nat.lt_of_lt_of_le h3 hb.size, fun i j hi hj => (cell_kept hb h3).trans (h4 i j hi hj)⟩

theorem ret_bool {a b : Bool} (h : a = b) : Ending.returned (.bool b) = .returned (.bool a) := by rw [h]
theorem ret_str {a b : Bs} (h : a = b) : Ending.returned (str b) = .returned (str a) := by rw [h]
theorem all_step {α : Type} {l : List α} {k : Nat} {P : α → Prop} (h : k < l.length) (hs : ∀ x ∈ l.take k, P x) (hk : P l[k]) : ∀ x ∈ l.take (k + 1), P x := by
  intro x hx
  rw [List.take_succ_eq_append_getElem h] at hx
  rcases List.mem_append.1 hx with hx | hx
  · exact hs x hx
  · rw [List.mem_singleton.1 hx]; exact hk
theorem sum_step {α : Type} {l : List α} {k : Nat} (f : α → Nat) (h : k < l.length) : ((l.take (k + 1)).map f).sum = ((l.take k).map f).sum + f l[k] := by
  rw [List.take_succ_eq_append_getElem h, List.map_append, List.sum_append]
  simp only [List.map_cons, List.map_nil, List.sum_cons, List.sum_nil, Nat.add_zero]

/-- Strings behind one another, in one form. -/
@[simp, go_sem] theorem ba_append (a b : List UInt8) : (⟨a.toArray⟩ : ByteArray) ++ ⟨b.toArray⟩ = ⟨(a ++ b).toArray⟩ := by
  apply ByteArray.ext
  simp
/-- The two lengths together are an int. -/
def SumOk (x y : List UInt8) : Prop := x.length + y.length ≤ 9223372036854775807
@[go_sem high] theorem run_add_str {P : Program} (w : World) (x y : List UInt8) (h : SumOk x y) : (Op.stringOp .add ⟨x.toArray⟩ ⟨y.toArray⟩).run P w = .ok (.string ⟨(x ++ y).toArray⟩) w := by
  rw [run_string_add_sum w _ _ (by simpa [ByteArray.size, SumOk] using h), ba_append]
end Go.Proofs.YtkankjblpmmikaaDoor.Hp
