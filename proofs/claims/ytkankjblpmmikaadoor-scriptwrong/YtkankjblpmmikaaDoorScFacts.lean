/- The script's laws: the configuration opened; what the listed variables give; a world for the witness. -/
import Derived.Test.YtkankjblpmmikaaDoorScOpen
import Derived.Test.YtkankjblpmmikaaDoorCards
import Derived.Test.YtkankjblpmmikaaDoorTie
import Derived.Deep.DeepHandedRow
import Derived.Deep.DeepWitnessRowRef
import Derived.Lib.LaidIn
import Derived.Lib.LaidTab
import Derived.Lib.LaidU8
import Derived.Stop.LaidErr
import Derived.Below
set_option linter.unusedSimpArgs false
set_option linter.unusedVariables false
set_option maxRecDepth 100000
namespace Go.Proofs.YtkankjblpmmikaaDoor.Sc
open Go.RowKit Go.ChangeShapes Go.WideShapes Go.Deep Hp

section
variable {H : Type} {enc : TypeId × Value → H} {P : Program} {w : World} {base : Nat} {spare : Nat → Bool} {held : Bool}
/-- A struct of seven fields of one cell each, by value. -/
theorem open_agg7 {r : Reach} {b0 : Nat} {t : TypeId} {f0 f1 f2 f3 f4 f5 f6 : Field} {v : Value} {d : DataW H} {p : List MemPlace} (hs : P.underlying t = some (.struct #[f0, f1, f2, f3, f4, f5, f6])) (hone : oneCellFields P #[f0, f1, f2, f3, f4, f5, f6] = true) (hC : P.cellsOf t = 7)
    (hv : Value.okWide P w r b0 t v) (h : DataW.Trod enc P w base spare held t v d p) :
    ∃ (v0 v1 v2 v3 v4 v5 v6 : Value) (y0 y1 y2 y3 y4 y5 y6 : DataW H × List MemPlace) (n : Nat), v = .agg #[v0, v1, v2, v3, v4, v5, v6] ∧ d = .agg [y0.1, y1.1, y2.1, y3.1, y4.1, y5.1, y6.1] ∧
      DataW.trod enc P w base spare held n f0.type [v0] = some y0 ∧ DataW.trod enc P w base spare held n f1.type [v1] = some y1 ∧ DataW.trod enc P w base spare held n f2.type [v2] = some y2 ∧ DataW.trod enc P w base spare held n f3.type [v3] = some y3 ∧ DataW.trod enc P w base spare held n f4.type [v4] = some y4 ∧ DataW.trod enc P w base spare held n f5.type [v5] = some y5 ∧ DataW.trod enc P w base spare held n f6.type [v6] = some y6 := by
  obtain ⟨cs, rfl, hsz⟩ := okWide_struct hs hv
  obtain ⟨l⟩ := cs
  match l, hsz.trans hC with
  | [c0, c1, c2, c3, c4, c5, c6], _ =>
    obtain ⟨fuel, hf⟩ := h
    obtain ⟨xs, n, _, hx, _, hlen, hg⟩ := DataW.trod_struct hs hf
    obtain ⟨o0, k0⟩ := hone_of hone 0 f0 rfl
    obtain ⟨o1, k1⟩ := hone_of hone 1 f1 rfl
    obtain ⟨o2, k2⟩ := hone_of hone 2 f2 rfl
    obtain ⟨o3, k3⟩ := hone_of hone 3 f3 rfl
    obtain ⟨o4, k4⟩ := hone_of hone 4 f4 rfl
    obtain ⟨o5, k5⟩ := hone_of hone 5 f5 rfl
    obtain ⟨o6, k6⟩ := hone_of hone 6 f6 rfl
    match xs, hlen with
    | [y0, y1, y2, y3, y4, y5, y6], _ =>
      simp only [Prod.mk.injEq] at hx
      exact ⟨c0, c1, c2, c3, c4, c5, c6, y0, y1, y2, y3, y4, y5, y6, n, rfl, by simpa using hx.1, by simpa [Value.cells, o0, k0] using hg 0 f0 rfl, by simpa [Value.cells, o1, k1] using hg 1 f1 rfl, by simpa [Value.cells, o2, k2] using hg 2 f2 rfl, by simpa [Value.cells, o3, k3] using hg 3 f3 rfl, by simpa [Value.cells, o4, k4] using hg 4 f4 rfl, by simpa [Value.cells, o5, k5] using hg 5 f5 rfl, by simpa [Value.cells, o6, k6] using hg 6 f6 rfl⟩
end

theorem bytesRoute : Tryd.prog.bytesOf 41 = 40 := by kernel_rfl
theorem bytesAct : Tryd.prog.bytesOf 39 = 48 := by kernel_rfl
theorem bytesStr : Tryd.prog.bytesOf 9 = 16 := by kernel_rfl
theorem bytesU8 : Tryd.prog.bytesOf 5 = 1 := by kernel_rfl
section
variable {H : Type} {enc : TypeId × Value → H} {w : World} {base : Nat} {spare : Nat → Bool} {held : Bool}
theorem config_of {r : Reach} {b0 : Nat} {v : Value} {d : DataW H} {p : List MemPlace} (hv : Value.okWide Tryd.prog w r b0 25 v) (h : DataW.Trod enc Tryd.prog w base spare held 25 v d p) (hf : Fit Tryd.prog 25 d) :
    ∃ vr vt c, v = cfVal vr vt c ∧ CfAt w vr vt c ∧ InR c.level ∧ InR c.minSize ∧ InR c.cap ∧ InR c.buffer ∧ InR c.timeout ∧ ∀ r ∈ c.routes, InR r.up := by
  obtain ⟨v0, v1, v2, v3, v4, v5, v6, y0, y1, y2, y3, y4, y5, y6, n, rfl, rfl, t0, t1, t2, t3, t4, t5, t6⟩ := open_agg7 Tryd.underlying25 (by kernel_rfl) (by kernel_rfl) hv h
  have f0 := hf.field Tryd.underlying25 (j := 0) rfl rfl
  have f1 := hf.field Tryd.underlying25 (j := 1) rfl rfl
  obtain ⟨rs, hr, hr1, hr2⟩ := routes_of Tryd.underlying22 Tryd.underlying41 (by kernel_rfl) (by kernel_rfl) (by rw [bytesRoute]; decide) Tryd.underlying9 Tryd.underlying9 Tryd.underlying3 t0 f0
  obtain ⟨ts, ht, ht1⟩ := types_of Tryd.underlying23 Tryd.underlying9 (by kernel_rfl) (by rw [bytesStr]; decide) t1 f1
  obtain ⟨z2, e2, _, w2⟩ := DataW.trod_int Tryd.underlying3 t2
  obtain ⟨z3, e3, _, w3⟩ := DataW.trod_int Tryd.underlying3 t3
  obtain ⟨z4, e4, _, w4⟩ := DataW.trod_int Tryd.underlying3 t4
  obtain ⟨z5, e5, _, w5⟩ := DataW.trod_int Tryd.underlying3 t5
  obtain ⟨z6, e6, _, w6⟩ := DataW.trod_int Tryd.underlying3 t6
  obtain rfl : v2 = .int .i64 z2 := by simpa using e2
  obtain rfl : v3 = .int .i64 z3 := by simpa using e3
  obtain rfl : v4 = .int .i64 z4 := by simpa using e4
  obtain rfl : v5 = .int .i64 z5 := by simpa using e5
  obtain rfl : v6 = .int .i64 z6 := by simpa using e6
  exact ⟨v0, v1, ⟨rs, ts, z2, z3, z4, z5, z6⟩, rfl, ⟨hr, ht, hr1, ht1⟩, bounds_i64 w2, bounds_i64 w3, bounds_i64 w4, bounds_i64 w5, bounds_i64 w6, hr2⟩
theorem actions_of {r : Reach} {b0 : Nat} {v : Value} {d : DataW H} {p : List MemPlace} (hv : Value.okWide Tryd.prog w r b0 26 v) (h : DataW.Trod enc Tryd.prog w base spare held 26 v d p) (hf : Fit Tryd.prog 26 d) :
    ∃ al : List Ac, AcAt w v al ∧ ∀ a ∈ al, InR a.kind ∧ InR a.conn ∧ InR a.n := by
  obtain ⟨a, len, cap, rfl⟩ := okWide_slice Tryd.underlying26 hv
  obtain ⟨fuel, hh⟩ := h
  exact acts_of Tryd.underlying26 Tryd.underlying39 (by kernel_rfl) (by kernel_rfl) (by rw [bytesAct]; decide) Tryd.underlying3 Tryd.underlying3 Tryd.underlying3 Tryd.underlying37 Tryd.underlying5 (by kernel_rfl) (by rw [bytesU8]; decide) hh hf
end

/-! ### What the rows' list gives -/
theorem own : ownKnob Tryd.prog.godebug = none := by kernel_rfl
theorem star : "*" ++ "errors.errorString" = "*errors.errorString" := by decide
theorem errRow (u : TypeId) (h : Tryd.prog.typeName? 3 u = some "*errors.errorString") : u = 134 :=
  typeName_ptr_named (nm := "errors.errorString") (by rw [star]; kernel_rfl) (by kernel_rfl) (by decide) u (by rw [star]; exact h)
def listed : List (String × DataW Unit) := [("math/bits.deBruijn32tab", Rows.laid_math_bits_deBruijn32tab), ("math/bits.deBruijn64tab", Rows.laid_math_bits_deBruijn64tab), ("internal/strconv.uint64pow10", Lib.tabData .u64 Lib.pow10Tab), ("unicode/utf8.acceptRanges", Rows.laid_unicode_utf8_acceptRanges), ("strconv.ErrRange", Rows.laid_strconv_ErrRange), ("strconv.ErrSyntax", Rows.laid_strconv_ErrSyntax), ("unicode/utf8.first", Rows.laid_unicode_utf8_first)]
theorem listed_prints : Rows.scriptPrintsRow.laid = listed := rfl
theorem listed_wrong : Rows.scriptWrongRow.laid = listed := rfl
theorem var_lt {P : Program} {w : World} {n : String} {g : Nat} {cs : Array Value} (hg : P.globalNamed n = some g) (h : w.var? P n = some cs) : g < w.heap.size := by
  rcases Nat.lt_or_ge g w.heap.size with h' | h'
  · exact h'
  · simp [World.var?, hg, Array.getElem?_eq_none h'] at h
theorem std_of {W : World} (hL : laidMet Tryd.prog listed W) (hs : W.ShapedOpen Tryd.prog) : Std W W.heap.size := by
  have hm := Go.Proofs.cell_of_shapedOpen_int (zero := #[.int .i64 0]) (t := 3) (g := 0) hs (of_decide_eq_true (by kernel_rfl)) (by kernel_rfl) rfl (by kernel_rfl) (by kernel_rfl) Tryd.underlying3
  have ht : Lib.TabIs Tryd.prog W "internal/strconv.uint64pow10" .u64 Lib.pow10Tab :=
    Lib.tabIs_of_head (rest := listed.drop 3) (t := 120) (e := 76) (n := 20) gPow (by kernel_rfl) (by kernel_rfl) (by kernel_rfl) (by kernel_rfl) (by kernel_rfl) hL.tail.tail
  obtain ⟨a1, s1, h1, _⟩ := laid_sentinel (g := 3) hL.tail.tail.tail.tail gRan (by kernel_rfl) Tryd.underlying48 errRow Tryd.underlying134 Tryd.underlying136 rfl rfl Tryd.underlying9 (by kernel_rfl) (by kernel_rfl)
  obtain ⟨a2, s2, h2, _⟩ := laid_sentinel (g := 2) hL.tail.tail.tail.tail.tail gSyn (by kernel_rfl) Tryd.underlying48 errRow Tryd.underlying134 Tryd.underlying136 rfl rfl Tryd.underlying9 (by kernel_rfl) (by kernel_rfl)
  obtain ⟨m, hm⟩ := hm
  exact ⟨block_lt hm, var_lt gPow ht, var_lt gSyn h2, var_lt gRan h1, ⟨m, hm⟩, ht, ⟨_, _, h2⟩, ⟨_, _, h1⟩⟩

/-! ### A world for the witness -/
noncomputable def laidWorld (os : Os) : World :=
  let N := (World.settled Tryd.prog os).heap.size
  let w0 := World.holding Tryd.prog os ⟨#[
    .cells #[.string ⟨#[118, 97, 108, 117, 101, 32, 111, 117, 116, 32, 111, 102, 32, 114, 97, 110, 103, 101]⟩] 136, .cells #[.string ⟨#[105, 110, 118, 97, 108, 105, 100, 32, 115, 121, 110, 116, 97, 120]⟩] 136], #[], []⟩
  let put (h : Array Obj) (g : Nat) (cs : Array Value) : Array Obj := h.modify g fun
    | .cells _ t frozen => .cells cs t frozen
    | o => o
  let h0 := put (put w0.heap 3 #[.iface 134 (.pointer (some ⟨N, 0, none⟩))]) 2 #[.iface 134 (.pointer (some ⟨N + 1, 0, none⟩))]
  let h1 := put h0 1 (Lib.pow10Tab.map fun z => Value.int .u64 z).toArray
  let h2 := put h1 5 ((List.range 16).flatMap fun i => [Value.int .u8 (Lib.accLo i), Value.int .u8 (Lib.accHi i)]).toArray
  let h3 := put h2 4 (Pinned.utf8FirstZ.map fun (z : Nat) => Value.int .u8 z).toArray
  let h4 := put h3 6 #[.int .u8 0, .int .u8 1, .int .u8 28, .int .u8 2, .int .u8 29, .int .u8 14, .int .u8 24, .int .u8 3, .int .u8 30, .int .u8 22, .int .u8 20, .int .u8 15, .int .u8 25, .int .u8 17, .int .u8 4, .int .u8 8, .int .u8 31, .int .u8 27, .int .u8 13, .int .u8 23, .int .u8 21, .int .u8 19, .int .u8 16, .int .u8 7, .int .u8 26, .int .u8 12, .int .u8 18, .int .u8 6, .int .u8 11, .int .u8 5, .int .u8 10, .int .u8 9]
  let h5 := put h4 7 #[.int .u8 0, .int .u8 1, .int .u8 56, .int .u8 2, .int .u8 57, .int .u8 49, .int .u8 28, .int .u8 3, .int .u8 61, .int .u8 58, .int .u8 42, .int .u8 50, .int .u8 38, .int .u8 29, .int .u8 17, .int .u8 4, .int .u8 62, .int .u8 47, .int .u8 59, .int .u8 36, .int .u8 45, .int .u8 43, .int .u8 51, .int .u8 22, .int .u8 53, .int .u8 39, .int .u8 33, .int .u8 30, .int .u8 24, .int .u8 18, .int .u8 12, .int .u8 5, .int .u8 63, .int .u8 55, .int .u8 48, .int .u8 27, .int .u8 60, .int .u8 41, .int .u8 37, .int .u8 16, .int .u8 46, .int .u8 35, .int .u8 44, .int .u8 21, .int .u8 52, .int .u8 32, .int .u8 23, .int .u8 11, .int .u8 54, .int .u8 26, .int .u8 40, .int .u8 15, .int .u8 34, .int .u8 20, .int .u8 31, .int .u8 10, .int .u8 25, .int .u8 14, .int .u8 19, .int .u8 9, .int .u8 13, .int .u8 8, .int .u8 7, .int .u8 6]
  { w0 with heap := h5 }
noncomputable abbrev N0 : Nat := (World.settled Tryd.prog default).heap.size
theorem laid_met (os : Os) (args : Array Value) : laidMet Tryd.prog listed ((laidWorld os).forCall (fun _ _ => 0) ⟨#[], args, []⟩).memory :=
  (LaidIn.of_run (l := listed) [6, 7, 1, 5, 3, N0, 2, N0 + 1, 4] 8 (by kernel_rfl) (by kernel_rfl) (by kernel_rfl) (by kernel_rfl)).met
end Go.Proofs.YtkankjblpmmikaaDoor.Sc
