/- How a configuration and acts lie in memory. CONDITIONS: none beyond those in each statement. -/
import Derived.Test.YtkankjblpmmikaaDoorHp
import Derived.Test.YtkankjblpmmikaaDoorScPure
set_option linter.unusedSimpArgs false
set_option linter.unusedVariables false
namespace Go.Proofs.YtkankjblpmmikaaDoor.Sc
open Go.RowKit Hp

def rtCell (rs : List Rt) (i j : Nat) : Value := match j with
  | 0 => str ((rs[i]?.map Rt.host).getD [])
  | 1 => str ((rs[i]?.map Rt.pre).getD [])
  | _ => .int .i64 ((rs[i]?.map Rt.up).getD 0)
def tyCell (ts : List Bs) (i _j : Nat) : Value := str (ts[i]?.getD [])
def acCell (al : List Ac) (ds : Nat → Value) (i j : Nat) : Value := match j with
  | 0 => .int .i64 ((al[i]?.map Ac.kind).getD 0)
  | 1 => .int .i64 ((al[i]?.map Ac.conn).getD 0)
  | 2 => .int .i64 ((al[i]?.map Ac.n).getD 0)
  | _ => ds i

/-- A configuration's value: its two slices, its numbers. -/
abbrev cfVal (vr vt : Value) (c : Cf) : Value := .agg #[vr, vt, .int .i64 c.level, .int .i64 c.minSize, .int .i64 c.cap, .int .i64 c.buffer, .int .i64 c.timeout]
structure CfAt (w : World) (vr vt : Value) (c : Cf) : Prop where
  routes : RowAt w vr c.routes.length 3 (rtCell c.routes)
  types : RowAt w vt c.types.length 1 (tyCell c.types)
  small : ∀ r ∈ c.routes, r.host.length ≤ 140737488355328 ∧ r.pre.length ≤ 140737488355328
  short : ∀ t ∈ c.types, t.length ≤ 140737488355328
structure AcAt (w : World) (va : Value) (al : List Ac) : Prop where
  row : ∃ ds, RowAt w va al.length 4 (acCell al ds) ∧ ∀ i, i < al.length → Reads w (ds i) ((al[i]?.map Ac.data).getD [])

theorem CfAt.kept {w w1 : World} {vr vt : Value} {c : Cf} (h : CfAt w vr vt c) (hb : Below w.heap.size w w1) : CfAt w1 vr vt c := ⟨h.routes.kept hb, h.types.kept hb, h.small, h.short⟩
theorem AcAt.kept {w w1 : World} {va : Value} {al : List Ac} (h : AcAt w va al) (hb : Below w.heap.size w w1) : AcAt w1 va al := by
  obtain ⟨ds, h1, h2⟩ := h.row
  exact ⟨ds, h1.kept hb, fun i hi => (h2 i hi).kept hb⟩

/-- The box in which a configuration lies that came by value, and all that was is as it was. -/
structure BoxAt (w wr : World) (b : Nat) (vr vt : Value) (c : Cf) : Prop where
  heap : wr.heap[b]? = some (.cells #[vr, vt, .int .i64 c.level, .int .i64 c.minSize, .int .i64 c.cap, .int .i64 c.buffer, .int .i64 c.timeout] 25 (0, 0))
  below : Below w.heap.size w wr
theorem BoxAt.cell {w wr : World} {b : Nat} {vr vt : Value} {c : Cf} (h : BoxAt w wr b vr vt c) (j : Nat) :
    wr.cell? ⟨b, j, none⟩ = #[vr, vt, .int .i64 c.level, .int .i64 c.minSize, .int .i64 c.cap, .int .i64 c.buffer, .int .i64 c.timeout][j]? := by
  simp [World.cell?, h.heap]
theorem BoxAt.drawn {w wr : World} {b : Nat} {vr vt : Value} {c : Cf} (h : BoxAt w wr b vr vt c) (n : Nat) : BoxAt w (wr.drewN n) b vr vt c := ⟨h.heap, below_drewN h.below n⟩

/-- is a number below 0? -/
def below (c : Cf) (al : List Ac) : Bool :=
  decide (c.level < 0) || decide (c.minSize < 0) || decide (c.cap < 0) || decide (c.buffer < 0) || decide (c.timeout < 0) || c.routes.any (fun r => decide (r.up < 0)) || al.any (fun a => decide (a.kind < 0) || decide (a.conn < 0) || decide (a.n < 0))

/-- how much all of it is. -/
def rtLen (r : Rt) : Nat := r.host.length + r.pre.length
def total (c : Cf) (al : List Ac) : Nat := 20 * c.routes.length + 20 * c.types.length + 20 * al.length + (c.routes.map rtLen).sum + (c.types.map List.length).sum + (al.map fun a => a.data.length).sum
end Go.Proofs.YtkankjblpmmikaaDoor.Sc
