/- The printer: a strings.Builder in a struct, its methods' contracts. -/
import Derived.Test.YtkankjblpmmikaaDoorApp
import Derived.Test.YtkankjblpmmikaaDoorRefDec
import Derived.Test.YtkankjblpmmikaaDoorRefHex
import Derived.Lib.Builder
import Derived.Lib.UnsafeStr
import Derived.Laws.Externs
set_option linter.unusedSimpArgs false
set_option linter.unusedVariables false
namespace Go.Proofs.YtkankjblpmmikaaDoor.Sc
open Go.RowKit Hp

/-- The printer in block b: its bytes l in the slice v, whether something was bad. B: the first of the call's own blocks. -/
structure Pr (w : World) (B b : Nat) (v : Value) (l : Bs) (bad : Bool) : Prop where
  lo : B ≤ b
  hi : B ≤ w.heap.size
  heap : ∃ p, (p = .pointer none ∨ p = .pointer (some ⟨b, 0, none⟩)) ∧ w.heap[b]? = some (.cells #[p, v, .bool bad] 46 (0, 0))
  own : OwnB w B v l
  off : Off0 v

/-- What a write to the printer leaves as it was: all but its block and its buffer's row. -/
structure Fr (b : Nat) (v v' : Value) (w w' : World) : Prop where
  os : w'.os = w.os
  tape : w'.tape = w.tape
  output : w'.output = w.output
  size : w.heap.size ≤ w'.heap.size
  block : ∀ k, k < w.heap.size → k ≠ b → v.ownBlock ≠ some k → w'.heap[k]? = w.heap[k]?
  place : v'.ownBlock = v.ownBlock ∨ ∃ g, v'.ownBlock = some g ∧ w.heap.size ≤ g

theorem Fr.refl (b : Nat) (v : Value) (w : World) : Fr b v v w w := ⟨rfl, rfl, rfl, Nat.le_refl _, fun _ _ _ _ => rfl, .inl rfl⟩
theorem Fr.ne {b : Nat} {v v' : Value} {w w' : World} (h : Fr b v v' w w') {k : Nat} (hk : k < w.heap.size) (hv : v.ownBlock ≠ some k) : v'.ownBlock ≠ some k := by
  rcases h.place with e | ⟨g, e, hg⟩
  · rw [e]; exact hv
  · rw [e]; intro h; injection h with h; omega
theorem Fr.trans {b : Nat} {v v1 v2 : Value} {w w1 w2 : World} (h : Fr b v v1 w w1) (h' : Fr b v1 v2 w1 w2) : Fr b v v2 w w2 := by
  refine ⟨h'.os.trans h.os, h'.tape.trans h.tape, h'.output.trans h.output, Nat.le_trans h.size h'.size, fun k hk hb hv => ?_, ?_⟩
  · exact (h'.block k (Nat.lt_of_lt_of_le hk h.size) hb (h.ne hk hv)).trans (h.block k hk hb hv)
  · rcases h'.place with e | ⟨g, e, hg⟩
    · rcases h.place with e' | ⟨g, e', hg⟩
      · exact .inl (e.trans e')
      · exact .inr ⟨g, e.trans e', hg⟩
    · exact .inr ⟨g, e, Nat.le_trans h.size hg⟩
theorem Fr.next {b : Nat} {v v1 : Value} {w w1 w2 : World} (h : Fr b v v1 w w1) (h' : Below w1.heap.size w1 w2) : Fr b v v1 w w2 :=
  ⟨h'.os.trans h.os, h'.tape.trans h.tape, h'.output.trans h.output, Nat.le_trans h.size h'.size, fun k hk hb hv => (h'.block k (Nat.lt_of_lt_of_le hk h.size)).trans (h.block k hk hb hv), h.place⟩
theorem Fr.after {b : Nat} {v v1 : Value} {w w1 w2 : World} (h : Below w.heap.size w w1) (h' : Fr b v v1 w1 w2) : Fr b v v1 w w2 :=
  ⟨h'.os.trans h.os, h'.tape.trans h.tape, h'.output.trans h.output, Nat.le_trans h.size h'.size, fun k hk hb hv => (h'.block k (Nat.lt_of_lt_of_le hk h.size) hb hv).trans (h.block k hk), by
    rcases h'.place with e | ⟨g, e, hg⟩
    · exact .inl e
    · exact .inr ⟨g, e, Nat.le_trans h.size hg⟩⟩
theorem Pr.ownlo {w : World} {B b : Nat} {v : Value} {l : Bs} {bad : Bool} (h : Pr w B b v l bad) {k : Nat} (hk : v.ownBlock = some k) : B ≤ k ∧ k < w.heap.size := h.own.2.lt k hk
theorem Pr.lt {w : World} {B b : Nat} {v : Value} {l : Bs} {bad : Bool} (h : Pr w B b v l bad) : b < w.heap.size := by
  obtain ⟨p, _, hb⟩ := h.heap
  exact (Array.getElem?_eq_some_iff.1 hb).1
theorem Pr.below {w w' : World} {B b : Nat} {v v' : Value} {l : Bs} {bad : Bool} (h : Pr w B b v l bad) (f : Fr b v v' w w') : Below B w w' :=
  ⟨f.os, f.tape, f.output, f.size, fun k hk => f.block k (Nat.lt_of_lt_of_le hk h.hi) (fun e => by have := h.lo; omega) (fun e => by have := (h.ownlo e).1; omega)⟩
/-- Another world in which old blocks stand. -/
theorem Pr.next {w w' : World} {B b : Nat} {v : Value} {l : Bs} {bad : Bool} (h : Pr w B b v l bad) (hb : Below w.heap.size w w') : Pr w' B b v l bad := by
  obtain ⟨p, hp, hh⟩ := h.heap
  exact ⟨h.lo, Nat.le_trans h.hi hb.size, ⟨p, hp, (hb.block b h.lt).trans hh⟩, h.own.below hb, h.off⟩
/-- A row of another type than bytes is kept. -/
theorem Pr.keepT {w w' : World} {B b : Nat} {v v' : Value} {l : Bs} {bad : Bool} (h : Pr w B b v l bad) (f : Fr b v v' w w') {k : Nat} {cs : Array Value} {t : TypeId} {fr : Nat × Nat} (hk : w.heap[k]? = some (.cells cs t fr)) (ht : t ≠ 5) (hb : k ≠ b) : w'.heap[k]? = some (.cells cs t fr) := by
  refine (f.block k (Array.getElem?_eq_some_iff.1 hk).1 hb fun e => ?_).trans hk
  rcases h.own.2.2 with ⟨rfl, _⟩ | ⟨g, off, cap, cur, fr', rfl, _, hg, _⟩
  · simp [Value.ownBlock] at e
  · simp [Value.ownBlock] at e
    subst e
    rw [hg] at hk
    simp only [Option.some.injEq, Obj.cells.injEq] at hk
    exact ht hk.2.1.symm

theorem sizeBuilder : (Tryd.prog.info? 44).map (·.size) = some 2 := by kernel_rfl
theorem liesBuilder : liesAt Tryd.prog Tryd.prog.depth 46 (3 / Tryd.prog.cellsOf 46) 0 44 1 = true := by kernel_rfl

theorem fresh_fr {w : World} {B b : Nat} {v : Value} {l : Bs} {bad : Bool} (h : Pr w B b v l bad) (hb : w.heap[b]? = some (.cells #[.pointer none, v, .bool bad] 46 (0, 0))) :
    (w.setCell ⟨b, 0, none⟩ (.pointer (some ⟨b, 0, none⟩))).heap[b]? = some (.cells #[.pointer (some ⟨b, 0, none⟩), v, .bool bad] 46 (0, 0)) ∧ Fr b v v w (w.setCell ⟨b, 0, none⟩ (.pointer (some ⟨b, 0, none⟩))) := by
  refine ⟨by simp [World.setCell, Array.getElem?_modify, hb], ⟨rfl, rfl, rfl, by simp [World.setCell], fun k _ hk _ => Below.heap_setCell _ _ _ _ hk, .inl rfl⟩⟩
theorem own_set {w : World} {B b : Nat} {v : Value} {l : Bs} {j : Nat} {u : Value} (h : OwnB w B v l) {cs : Array Value} {t : TypeId} (hb : w.heap[b]? = some (.cells cs t (0, 0))) (ht : t ≠ 5) : OwnB (w.setCell ⟨b, j, none⟩ u) B v l := by
  refine ⟨h.1, h.2.setCell (fun e => ?_) u⟩
  rcases h.2.2 with ⟨rfl, _⟩ | ⟨g, off, cap, cur, fr', rfl, _, hg, _⟩
  · simp [Value.ownBlock] at e
  · simp [Value.ownBlock] at e
    subst e
    rw [hg] at hb
    simp only [Option.some.injEq, Obj.cells.injEq] at hb
    exact ht hb.2.1.symm

/-- The printer after a method's first look at itself: its first cell holds its own address. -/
structure PrU (w : World) (B b : Nat) (v : Value) (l : Bs) (bad : Bool) : Prop where
  lo : B ≤ b
  hi : B ≤ w.heap.size
  heap : w.heap[b]? = some (.cells #[.pointer (some ⟨b, 0, none⟩), v, .bool bad] 46 (0, 0))
  own : OwnB w B v l
  off : Off0 v
theorem PrU.pr {w : World} {B b : Nat} {v : Value} {l : Bs} {bad : Bool} (h : PrU w B b v l bad) : Pr w B b v l bad := ⟨h.lo, h.hi, ⟨_, .inr rfl, h.heap⟩, h.own, h.off⟩

set_option maxHeartbeats 1000000 in
set_option maxRecDepth 100000 in
theorem copyCheck_any {w : World} {B b : Nat} {v : Value} {l : Bs} {bad : Bool} (h : Pr w B b v l bad) :
    Calls Tryd.prog 26 #[.pointer (some ⟨b, 0, none⟩)] w fun e w' => e = .returned (.tuple #[]) ∧ PrU w' B b v l bad ∧ Fr b v v w w' := by
  obtain ⟨j, hj, hjs⟩ := Option.map_eq_some_iff.1 sizeBuilder
  obtain ⟨p, rfl | rfl, hb⟩ := h.heap
  · have h0 : w.cell? ⟨b, 0, none⟩ = some (.pointer none) := by rw [Lib.cell_of_heap hb]; rfl
    have hfz : w.frozen? ⟨b, 0, none⟩ = false := Lib.frozen_of_heap hb 0
    have hsh : w.shape? b = some (46, 3) := by simp [World.shape?, hb]
    have hfr := fresh_fr h hb
    have HB := Lib.hid hb
    have HO := Lib.hid h.own
    have HL := Lib.hid (And.intro h.lo h.hi)
    have HF := Lib.hid h.off
    have HFR := Lib.hid hfr
    clear hfr hb h
    go_enter Tryd.func26, Tryd.ntmps26
    go_wp2
    rw [Lib.run_to_unsafe w ⟨b, 0, none⟩ Tryd.underlying42 Tryd.underlying77 hj (by rw [hjs]; decide) hsh (Nat.zero_lt_succ 2)]
    simp only [Result.andThen]
    rw [Oper.upon_value]
    go_wp2
    rw [run_callFunc_extern Tryd.func34 (by kernel_rfl) (by kernel_rfl) (by kernel_rfl) (e := Extern.AbiNoEscape.same) (by kernel_rfl)]
    rw [Lib.run_noEscape]
    simp only [Result.andThen]
    rw [Oper.upon_value]
    go_wp2
    rw [Lib.run_from_unsafe w ⟨b, 0, none⟩ Tryd.underlying77 Tryd.underlying42 hj hsh liesBuilder]
    simp only [Result.andThen]
    rw [Oper.upon_value]
    go_wp2
    go_end0
    exact ⟨rfl, ⟨HL.out.1, by have := HL.out.2; simpa [World.setCell] using this, HFR.out.1, own_set HO.out HB.out (by decide), HF.out⟩, HFR.out.2⟩
  · have h0 : w.cell? ⟨b, 0, none⟩ = some (.pointer (some ⟨b, 0, none⟩)) := by rw [Lib.cell_of_heap hb]; rfl
    have HP : Veil (PrU w B b v l bad) := ⟨h.lo, h.hi, hb, h.own, h.off⟩
    clear h hb
    go_enter Tryd.func26, Tryd.ntmps26
    go_wp2
    rw [Lib.run_neq_ptr_same w _ Tryd.underlying42 hj]
    go_wp2
    go_end0
    exact ⟨rfl, HP.out, Fr.refl _ _ _⟩

theorem PrU.put {w w2 : World} {B b : Nat} {v v' : Value} {l m : Bs} {bad : Bool} (h : PrU w B b v l bad) (hA : Appd w w2 B 5 1 v v' (l.length + m.length) (Lib.byteCells l ++ Lib.byteCells m)) (hl : l.length + m.length ≤ 140737488355328) :
    Pr (w2.setCell ⟨b, 1, none⟩ v') B b v' (l ++ m) bad ∧ Fr b v v' w (w2.setCell ⟨b, 1, none⟩ v') ∧ w2.heap[b]? = some (.cells #[.pointer (some ⟨b, 0, none⟩), v, .bool bad] 46 (0, 0)) := by
  have hne : v.ownBlock ≠ some b := by
    intro e
    rcases h.own.2.2 with ⟨rfl, _⟩ | ⟨g, off, cap, cur, fr', rfl, _, hg, _⟩
    · simp [Value.ownBlock] at e
    · simp [Value.ownBlock] at e
      subst e
      have hb := h.heap
      rw [hg] at hb
      simp only [Option.some.injEq, Obj.cells.injEq] at hb
      exact absurd hb.2.1 (by decide)
  have hb2 : w2.heap[b]? = some (.cells #[.pointer (some ⟨b, 0, none⟩), v, .bool bad] 46 (0, 0)) := by
    rw [hA.grown.block b h.pr.lt (fun e => hne e.symm)]
    exact h.heap
  have hO := hA.bytes hl
  refine ⟨⟨h.lo, ?_, ⟨_, .inr rfl, by simp [World.setCell, Array.getElem?_modify, hb2]⟩, own_set hO hb2 (by decide), hA.off h.off⟩, ⟨?_, ?_, ?_, ?_, ?_, ?_⟩, hb2⟩
  · have := hA.grown.size; have := h.hi; simp [World.setCell]; omega
  · exact hA.grown.os
  · exact hA.grown.tape
  · exact hA.grown.output
  · simpa [World.setCell] using hA.grown.size
  · intro k hk hb hv
    rw [Below.heap_setCell _ _ _ _ hb]
    exact hA.grown.block k hk (fun e => hv e.symm)
  · rcases hA.place with e | e
    · exact .inl e
    · exact .inr ⟨_, e, Nat.le_refl _⟩

def Wrote (w : World) (B b : Nat) (v : Value) (l : Bs) (bad : Bool) (w' : World) : Prop := ∃ v', Pr w' B b v' l bad ∧ Fr b v v' w w'

set_option maxHeartbeats 1000000 in
set_option maxRecDepth 100000 in
theorem writeString_any {w : World} {B b : Nat} {v : Value} {l : Bs} {bad : Bool} (h : Pr w B b v l bad) (m : Bs) (hl : l.length + m.length ≤ 140737488355328) :
    Calls Tryd.prog 14 #[.pointer (some ⟨b, 0, none⟩), str m] w fun e w' => e = .returned (.tuple #[.int .i64 m.length, .nilIface]) ∧ Wrote w B b v (l ++ m) bad w' := by
  go_enter Tryd.func14, Tryd.ntmps14
  go_wp2_with (go_at_call 26; refine (copyCheck_any h).mono ?_)
  rintro e w1 ⟨rfl, hu, hf⟩
  have c0 : w1.cell? ⟨b, 1, none⟩ = some v := by rw [Lib.cell_of_heap hu.heap]; rfl
  have HH := Lib.hid (And.intro hu hf)
  clear h hf
  have e1 : (⟨m.toArray⟩ : ByteArray).size = m.length := by simp [ByteArray.size]
  have hsrc := Src.ofString w1 ⟨m.toArray⟩
  rw [e1] at hsrc
  have HS := Lib.hid hsrc
  have HE := Lib.hid e1
  clear hsrc e1
  go_wp2_with (at_builtin; refine wpList_appI rfl _ _ rfl appB txS _ _ _ rfl hu.own.2 _ rfl m.length _ HS.out (by unfold maxLen; omega) (by omega) hu.hi ?_)
  intro v' w2 hA
  have hp := hu.put hA hl
  have d1 : w2.cell? ⟨b, 1, none⟩ = some v := by rw [Lib.cell_of_heap hp.2.2]; rfl
  have f1 : w2.frozen? ⟨b, 1, none⟩ = false := Lib.frozen_of_heap hp.2.2 1
  obtain ⟨ao, cap, hv⟩ := hA.own.slice
  have HP := Lib.hid hp
  clear hp hA hu
  subst hv
  go_wp2
  go_ret2
  exact ⟨rfl, _, HP.out.1, HH.out.2.trans HP.out.2.1⟩

set_option maxHeartbeats 1000000 in
set_option maxRecDepth 100000 in
theorem writeByte_any {w : World} {B b : Nat} {v : Value} {l : Bs} {bad : Bool} (h : Pr w B b v l bad) (x : Int) (c : UInt8) (hx : x = (c.toNat : Int)) (hl : l.length + 1 ≤ 140737488355328) :
    Calls Tryd.prog 16 #[.pointer (some ⟨b, 0, none⟩), .int .u8 x] w fun e w' => e = .returned .nilIface ∧ Wrote w B b v (l ++ [c]) bad w' := by
  subst hx
  go_enter Tryd.func16, Tryd.ntmps16
  go_wp2_with (go_at_call 26; refine (copyCheck_any h).mono ?_)
  rintro e w1 ⟨rfl, hu, hf⟩
  have c0 : w1.cell? ⟨b, 1, none⟩ = some v := by rw [Lib.cell_of_heap hu.heap]; rfl
  have hB1 : Below w1.heap.size w1 (w1.alloc (.cells #[.int .u8 c.toNat] 5)) := (Below.refl _ _).alloc (Nat.le_refl _) _
  have hu1 : PrU (w1.alloc (.cells #[.int .u8 c.toNat] 5)) B b v l bad := ⟨hu.lo, by have := hu.hi; simp; omega, (hB1.block b hu.pr.lt).trans hu.heap, hu.own.below hB1, hu.off⟩
  have hf1 : Fr b v v w (w1.alloc (.cells #[.int .u8 c.toNat] 5)) := hf.next hB1
  have HH := Lib.hid (And.intro hu1 hf1)
  clear h hf hf1 hB1
  go_wp2_with (at_builtin; refine wpList_appI rfl _ _ rfl appB txB _ _ _ rfl HH.out.1.own.2 _ rfl 1 (Lib.byteCells [c]) (Src.ofBlock 1 1 1 rfl (byteCells_one _) (by exact heap_alloc_new w1 _)) (by unfold maxLen; omega) (by omega) HH.out.1.hi ?_)
  intro v' w2 hA
  have hp := hu1.put (m := [c]) hA (by simpa using hl)
  have d1 : w2.cell? ⟨b, 1, none⟩ = some v := by rw [Lib.cell_of_heap hp.2.2]; rfl
  have f1 : w2.frozen? ⟨b, 1, none⟩ = false := Lib.frozen_of_heap hp.2.2 1
  obtain ⟨ao, cap, hv⟩ := hA.own.slice
  have HP := Lib.hid hp
  clear hp hA hu hu1
  subst hv
  go_wp2
  go_ret
  exact ⟨rfl, _, HP.out.1, HH.out.2.trans HP.out.2.1⟩

set_option maxHeartbeats 400000 in
theorem len_any {w : World} {B b : Nat} {v : Value} {l : Bs} {bad : Bool} (h : Pr w B b v l bad) :
    Calls Tryd.prog 18 #[.pointer (some ⟨b, 0, none⟩)] w fun e w' => e = .returned (.int .i64 l.length) ∧ w = w' := by
  obtain ⟨p, _, hb⟩ := h.heap
  obtain ⟨ao, cap, rfl⟩ := h.own.2.slice
  have c1 : w.cell? ⟨b, 1, none⟩ = some (.slice ao l.length cap) := by rw [Lib.cell_of_heap hb]; rfl
  clear h hb
  go_enter Tryd.func18, Tryd.ntmps18
  go_wp2
  go_ret
  exact ⟨rfl, rfl⟩

theorem cellsByte : Tryd.prog.cellsOf 5 = 1 := by kernel_rfl
set_option maxHeartbeats 1000000 in
set_option maxRecDepth 100000 in
theorem string_any {w : World} {B b : Nat} {v : Value} {l : Bs} {bad : Bool} (h : Pr w B b v l bad) (h0 : l ≠ []) :
    Calls Tryd.prog 19 #[.pointer (some ⟨b, 0, none⟩)] w fun e w' => e = .returned (str l) ∧ Below B w w' := by
  obtain ⟨p, _, hb⟩ := h.heap
  have hl0 : l.length ≠ 0 := by simpa using h0
  obtain ⟨g, cap, cur, fr, rfl, hbg, hg, hnc, hcm, hcs⟩ : ∃ g cap cur fr, v = .slice (some ⟨g, 0, none⟩) l.length cap ∧ B ≤ g ∧ w.heap[g]? = some (.cells cur 5 fr) ∧ l.length ≤ cap ∧ cap ≤ maxLen ∧ cap ≤ cur.size := by
    rcases h.own.2.2 with ⟨_, hz⟩ | ⟨g, off, cap, cur, fr, hv, h1, h2, h3, h4, h5, _⟩
    · exact absurd hz hl0
    · obtain rfl : off = 0 := h.off _ _ _ hv
      exact ⟨g, cap, cur, fr, hv, h1, h2, h3, h4, by omega⟩
  have c1 : w.drew.cell? ⟨b, 1, none⟩ = some (.slice (some ⟨g, 0, none⟩) l.length cap) := by
    have : w.drew.heap[b]? = some (.cells #[p, .slice (some ⟨g, 0, none⟩) l.length cap, .bool bad] 46 (0, 0)) := hb
    rw [Lib.cell_of_heap this]; rfl
  have hSD : (Builtin.unsafeSliceData_ #[37] 68 #[.slice (some ⟨g, 0, none⟩) l.length cap]).run Tryd.prog w.drew = .ok (.pointer (some ⟨g, 0, none⟩)) w.drew :=
    Lib.run_unsafeSliceData_row _ _ _ _ _ _ (by omega)
  have hUS : (Builtin.unsafeString_ #[68, 3] 9 #[.pointer (some ⟨g, 0, none⟩), .int .i64 l.length]).run Tryd.prog w.drew = .ok (str l) (w.drew.freeze ⟨g, 0, none⟩ l.length) := by
    refine Lib.run_unsafeString_row w.drew 68 3 9 5 Tryd.underlying68 cellsByte g cur.size (by have hg' : w.drew.heap[g]? = some (.cells cur 5 fr) := hg; simp [World.shape?, hg']) l h0 (by omega) (by unfold maxLen at hcm; omega) ?_
    intro j x hx
    have := h.own.2.cells (g := g) rfl j (.int .u8 x.toNat) (by simp [Lib.byteCells, hx])
    have e : (⟨g, 0, none⟩ : Addr).add j = ⟨g, 0 + j, none⟩ := by unfold Addr.add; split <;> simp_all
    rw [e]
    exact this
  clear h hb hg hl0 hcs hcm hnc
  go_enter Tryd.func19, Tryd.ntmps19
  go_wp2
  go_region
  all_goals (go_wp2; go_ret; exact ⟨rfl, Lib.below_freeze (Below.drew (Below.refl B w)) (p := ⟨g, 0, none⟩) hbg _⟩)
end Go.Proofs.YtkankjblpmmikaaDoor.Sc
