/- The file that a text is read into: how it lies in memory. -/
import Derived.Test.YtkankjblpmmikaaDoorScRdB
import Derived.Lib.SplitLaws
set_option linter.unusedSimpArgs false
set_option linter.unusedVariables false
namespace Go.Proofs.YtkankjblpmmikaaDoor.Sc
open Go.RowKit Hp

/-- Whatever row is not of one type stands. -/
structure KeepN (T : TypeId) (w w' : World) : Prop where
  size : w.heap.size ≤ w'.heap.size
  block : ∀ (k : Nat) (cs : Array Value) (t : TypeId) (fr : Nat × Nat), w.heap[k]? = some (.cells cs t fr) → t ≠ T → w'.heap[k]? = some (.cells cs t fr)
theorem KeepN.of_below {T : TypeId} {w w' : World} (h : Below w.heap.size w w') : KeepN T w w' := ⟨h.size, fun k cs t fr hk _ => (h.block k (Array.getElem?_eq_some_iff.1 hk).1).trans hk⟩
theorem KeepN.of_grown {T : TypeId} {w w' : World} {row : Option Nat} (h : w.grownBy w' row) (hr : ∀ k, row = some k → ∃ cs fr, w.heap[k]? = some (.cells cs T fr)) : KeepN T w w' := by
  refine ⟨h.size, fun k cs t fr hk ht => (h.block k (Array.getElem?_eq_some_iff.1 hk).1 fun e => ?_).trans hk⟩
  obtain ⟨cs', fr', hc⟩ := hr k e.symm
  rw [hk] at hc
  simp only [Option.some.injEq, Obj.cells.injEq] at hc
  exact ht hc.2.1
theorem KeepN.setCell {T : TypeId} {w : World} {b o : Nat} {cs0 : Array Value} {fr0 : Nat × Nat} (hb : w.heap[b]? = some (.cells cs0 T fr0)) (u : Value) : KeepN T w (w.setCell ⟨b, o, none⟩ u) := by
  refine ⟨by simp [World.setCell], fun k cs t fr hk ht => (Below.heap_setCell _ _ _ _ fun e => ?_).trans hk⟩
  subst e
  rw [hb] at hk
  simp only [Option.some.injEq, Obj.cells.injEq] at hk
  exact ht hk.2.1.symm
theorem KeepN.of_rd {w w' : World} {B r : Nat} {R R' : Rd} (h : RdAt w B r R) (hp : RdPost w B r R' w') : KeepN 73 w w' :=
  .of_grown hp.2 fun k e => by
    injection e with e
    subst e
    obtain ⟨A, cap, hh, _⟩ := h.heap
    exact ⟨_, _, hh⟩
theorem own_typed {w : World} {B e size n : Nat} {v : Value} {xs : List Value} (h : OwnR w B e size v n xs) : ∀ k, v.ownBlock = some k → ∃ cs fr, w.heap[k]? = some (.cells cs e fr) := by
  intro k hk
  rcases h.2 with ⟨rfl, _⟩ | ⟨g, off, cap, cur, fr, rfl, _, hg, _⟩
  · simp [Value.ownBlock] at hk
  · simp [Value.ownBlock] at hk
    subst hk
    exact ⟨cur, fr, hg⟩
theorem KeepN.of_appd {w w' : World} {B e size : Nat} {v v' : Value} {n n0 : Nat} {xs xs0 : List Value} (h0 : OwnR w B e size v n0 xs0) (h : Appd w w' B e size v v' n xs) : KeepN e w w' := .of_grown h.grown (own_typed h0)
theorem own_keep {T : TypeId} {w w' : World} {B e size n : Nat} {v : Value} {xs : List Value} (h : OwnR w B e size v n xs) (k : KeepN T w w') (ht : e ≠ T) : OwnR w' B e size v n xs := by
  refine ⟨h.1, ?_⟩
  rcases h.2 with hn | ⟨g, off, cap, cur, fr, rfl, hb, hg, rest⟩
  · exact .inl hn
  · exact .inr ⟨g, off, cap, cur, fr, rfl, hb, k.block _ _ _ _ hg ht, rest⟩

theorem DataAt.keep {T : TypeId} {w w' : World} {v : Value} {l : Bs} (h : DataAt w v l) (k : KeepN T w w') (ht : T ≠ 5) : DataAt w' v l := by
  obtain ⟨h1, a, c, rfl, h2⟩ := h
  refine ⟨h1, a, c, rfl, fun hl => ?_⟩
  obtain ⟨b, o, cur, fr, rfl, hb, hc⟩ := h2 hl
  exact ⟨b, o, cur, fr, rfl, k.block _ _ _ _ hb (Ne.symm ht), hc⟩
def rtCells (r : Rt) : List Value := [str r.host, str r.pre, .int .i64 r.up]
def acCells (a : Ac) (d : Value) : List Value := [.int .i64 a.kind, .int .i64 a.conn, .int .i64 a.n, d]
def acsCells : List Ac → List Value → List Value
  | a :: al, d :: ds => acCells a d ++ acsCells al ds
  | _, _ => []
theorem acsCells_snoc : ∀ (al : List Ac) (ds : List Value) (a : Ac) (d : Value), ds.length = al.length → acsCells (al ++ [a]) (ds ++ [d]) = acsCells al ds ++ acCells a d
  | [], [], a, d, _ => by simp [acsCells]
  | b :: al, x :: ds, a, d, h => by
    simp only [List.cons_append, acsCells, acsCells_snoc al ds a d (by simpa using h), List.append_assoc]
  | [], _ :: _, _, _, h => by simp at h
  | _ :: _, [], _, _, h => by simp at h

/-- The file in block f: its three slices, and what they hold. N: how many lines at most. -/
structure FlAt (w : World) (B f : Nat) (vr vt va : Value) (ds : List Value) (N : Nat) (F : Fl) : Prop where
  lo : B ≤ f
  hi : B ≤ w.heap.size
  heap : w.heap[f]? = some (.cells #[vr, vt, .int .i64 F.cf.level, .int .i64 F.cf.minSize, .int .i64 F.cf.cap, .int .i64 F.cf.buffer, .int .i64 F.cf.timeout, va] 57 (0, 0))
  routes : OwnR w B 41 3 vr F.cf.routes.length (F.cf.routes.flatMap rtCells)
  types : OwnR w B 9 1 vt F.cf.types.length (F.cf.types.map str)
  acts : OwnR w B 39 4 va F.acts.length (acsCells F.acts ds)
  dl : ds.length = F.acts.length
  data : ∀ i, i < F.acts.length → DataAt w (ds[i]?.getD undef) ((F.acts[i]?.map Ac.data).getD [])
  few : F.cf.routes.length + F.cf.types.length + F.acts.length ≤ N
  small : ∀ r ∈ F.cf.routes, r.host.length ≤ 4194304 ∧ r.pre.length ≤ 4194304
  short : ∀ t ∈ F.cf.types, t.length ≤ 4194304
theorem FlAt.lt {w : World} {B f N : Nat} {vr vt va : Value} {ds : List Value} {F : Fl} (h : FlAt w B f vr vt va ds N F) : f < w.heap.size := (Array.getElem?_eq_some_iff.1 h.heap).1
theorem FlAt.keep {T : TypeId} {w w' : World} {B f N : Nat} {vr vt va : Value} {ds : List Value} {F : Fl} (h : FlAt w B f vr vt va ds N F) (k : KeepN T w w')
    (h1 : T ≠ 57) (h2 : T ≠ 41) (h3 : T ≠ 9) (h4 : T ≠ 39) (h5 : T ≠ 5) : FlAt w' B f vr vt va ds N F :=
  ⟨h.lo, Nat.le_trans h.hi k.size, k.block _ _ _ _ h.heap (Ne.symm h1), own_keep h.routes k (Ne.symm h2), own_keep h.types k (Ne.symm h3), own_keep h.acts k (Ne.symm h4), h.dl, fun i hi => (h.data i hi).keep k h5, h.few, h.small, h.short⟩
theorem FlAt.next {w w' : World} {B f N : Nat} {vr vt va : Value} {ds : List Value} {F : Fl} (h : FlAt w B f vr vt va ds N F) (hb : Below w.heap.size w w') : FlAt w' B f vr vt va ds N F :=
  h.keep (T := 73) (.of_below hb) (by decide) (by decide) (by decide) (by decide) (by decide)
theorem FlAt.rd {w w' : World} {B f N r : Nat} {vr vt va : Value} {ds : List Value} {F : Fl} {R R' : Rd} (h : FlAt w B f vr vt va ds N F) (hr : RdAt w B r R) (hp : RdPost w B r R' w') : FlAt w' B f vr vt va ds N F :=
  h.keep (.of_rd hr hp) (by decide) (by decide) (by decide) (by decide) (by decide)
theorem FlAt.more {w : World} {B f N M : Nat} {vr vt va : Value} {ds : List Value} {F : Fl} (h : FlAt w B f vr vt va ds N F) (hm : N ≤ M) : FlAt w B f vr vt va ds M F := { h with few := Nat.le_trans h.few hm }

/-- A number of the configuration written. -/
theorem FlAt.setNum {w : World} {B f N : Nat} {vr vt va : Value} {ds : List Value} {F : Fl} (h : FlAt w B f vr vt va ds N F) (o : Nat) (x : Int) (c2 : Cf)
    (hc : (#[vr, vt, .int .i64 F.cf.level, .int .i64 F.cf.minSize, .int .i64 F.cf.cap, .int .i64 F.cf.buffer, .int .i64 F.cf.timeout, va] : Array Value).setIfInBounds o (.int .i64 x) = #[vr, vt, .int .i64 c2.level, .int .i64 c2.minSize, .int .i64 c2.cap, .int .i64 c2.buffer, .int .i64 c2.timeout, va])
    (hr : c2.routes = F.cf.routes) (ht : c2.types = F.cf.types) : FlAt (w.setCell ⟨f, o, none⟩ (.int .i64 x)) B f vr vt va ds N ⟨c2, F.acts⟩ ∧ KeepN 57 w (w.setCell ⟨f, o, none⟩ (.int .i64 x)) := by
  have k : KeepN 57 w (w.setCell ⟨f, o, none⟩ (.int .i64 x)) := .setCell h.heap _
  refine ⟨⟨h.lo, Nat.le_trans h.hi k.size, ?_, ?_, ?_, own_keep h.acts k (by decide), h.dl, fun i hi => (h.data i hi).keep k (by decide), ?_, ?_, ?_⟩, k⟩
  · simp only [World.setCell, Array.getElem?_modify, h.heap]
    simp [hc]
  · rw [hr]; exact own_keep h.routes k (by decide)
  · rw [ht]; exact own_keep h.types k (by decide)
  · simp only [hr, ht]; exact h.few
  · simp only [hr]; exact h.small
  · simp only [ht]; exact h.short

theorem FlAt.putRt {w w1 : World} {B f N : Nat} {vr vt va vr' : Value} {ds : List Value} {F : Fl} (h : FlAt w B f vr vt va ds N F) {r : Rt} (hA : Appd w w1 B 41 3 vr vr' (F.cf.routes.length + 1) (F.cf.routes.flatMap rtCells ++ rtCells r)) (hr : r.host.length ≤ 4194304 ∧ r.pre.length ≤ 4194304) :
    FlAt (w1.setCell ⟨f, 0, none⟩ vr') B f vr' vt va ds (N + 1) ⟨{ F.cf with routes := F.cf.routes ++ [r] }, F.acts⟩ ∧ w1.heap[f]? = some (.cells #[vr, vt, .int .i64 F.cf.level, .int .i64 F.cf.minSize, .int .i64 F.cf.cap, .int .i64 F.cf.buffer, .int .i64 F.cf.timeout, va] 57 (0, 0)) := by
  have k1 : KeepN 41 w w1 := .of_appd h.routes hA
  have hf := k1.block _ _ _ _ h.heap (by decide)
  have k2 : KeepN 57 w1 (w1.setCell ⟨f, 0, none⟩ vr') := .setCell hf _
  refine ⟨⟨h.lo, Nat.le_trans h.hi (Nat.le_trans k1.size k2.size), ?_, own_keep ?_ k2 (by decide), own_keep (own_keep h.types k1 (by decide)) k2 (by decide), own_keep (own_keep h.acts k1 (by decide)) k2 (by decide), h.dl, fun i hi => ((h.data i hi).keep k1 (by decide)).keep k2 (by decide), ?_, ?_, h.short⟩, hf⟩
  · simp [World.setCell, Array.getElem?_modify, hf]
  · have := hA.own
    simpa using this
  · have := h.few; simp only [List.length_append, List.length_singleton]; omega
  · intro x hx
    rcases List.mem_append.1 hx with hx | hx
    · exact h.small x hx
    · rw [List.mem_singleton.1 hx]; exact hr
theorem FlAt.putTy {w w1 : World} {B f N : Nat} {vr vt va vt' : Value} {ds : List Value} {F : Fl} (h : FlAt w B f vr vt va ds N F) {t : Bs} (hA : Appd w w1 B 9 1 vt vt' (F.cf.types.length + 1) (F.cf.types.map str ++ [str t])) (ht : t.length ≤ 4194304) :
    FlAt (w1.setCell ⟨f, 1, none⟩ vt') B f vr vt' va ds (N + 1) ⟨{ F.cf with types := F.cf.types ++ [t] }, F.acts⟩ ∧ w1.heap[f]? = some (.cells #[vr, vt, .int .i64 F.cf.level, .int .i64 F.cf.minSize, .int .i64 F.cf.cap, .int .i64 F.cf.buffer, .int .i64 F.cf.timeout, va] 57 (0, 0)) := by
  have k1 : KeepN 9 w w1 := .of_appd h.types hA
  have hf := k1.block _ _ _ _ h.heap (by decide)
  have k2 : KeepN 57 w1 (w1.setCell ⟨f, 1, none⟩ vt') := .setCell hf _
  refine ⟨⟨h.lo, Nat.le_trans h.hi (Nat.le_trans k1.size k2.size), ?_, own_keep (own_keep h.routes k1 (by decide)) k2 (by decide), own_keep ?_ k2 (by decide), own_keep (own_keep h.acts k1 (by decide)) k2 (by decide), h.dl, fun i hi => ((h.data i hi).keep k1 (by decide)).keep k2 (by decide), ?_, h.small, ?_⟩, hf⟩
  · simp [World.setCell, Array.getElem?_modify, hf]
  · have := hA.own
    simpa using this
  · have := h.few; simp only [List.length_append, List.length_singleton]; omega
  · intro x hx
    rcases List.mem_append.1 hx with hx | hx
    · exact h.short x hx
    · rw [List.mem_singleton.1 hx]; exact ht
theorem FlAt.putAc {w w1 : World} {B f N : Nat} {vr vt va va' d : Value} {ds : List Value} {F : Fl} (h : FlAt w B f vr vt va ds N F) {a : Ac} (hA : Appd w w1 B 39 4 va va' (F.acts.length + 1) (acsCells F.acts ds ++ acCells a d)) (hd : DataAt w d a.data) :
    FlAt (w1.setCell ⟨f, 7, none⟩ va') B f vr vt va' (ds ++ [d]) (N + 1) ⟨F.cf, F.acts ++ [a]⟩ ∧ w1.heap[f]? = some (.cells #[vr, vt, .int .i64 F.cf.level, .int .i64 F.cf.minSize, .int .i64 F.cf.cap, .int .i64 F.cf.buffer, .int .i64 F.cf.timeout, va] 57 (0, 0)) := by
  have k1 : KeepN 39 w w1 := .of_appd h.acts hA
  have hf := k1.block _ _ _ _ h.heap (by decide)
  have k2 : KeepN 57 w1 (w1.setCell ⟨f, 7, none⟩ va') := .setCell hf _
  refine ⟨⟨h.lo, Nat.le_trans h.hi (Nat.le_trans k1.size k2.size), ?_, own_keep (own_keep h.routes k1 (by decide)) k2 (by decide), own_keep (own_keep h.types k1 (by decide)) k2 (by decide), own_keep ?_ k2 (by decide), by simp [h.dl], fun i hi => ?_, ?_, h.small, h.short⟩, hf⟩
  · simp [World.setCell, Array.getElem?_modify, hf]
  · have := hA.own
    rw [acsCells_snoc _ _ _ _ h.dl]
    simpa using this
  · by_cases hi2 : i < F.acts.length
    · have := ((h.data i hi2).keep k1 (by decide)).keep k2 (by decide)
      simp only [List.getElem?_append_left hi2, List.getElem?_append_left (by rw [h.dl]; exact hi2 : i < ds.length)]
      exact this
    · obtain rfl : i = F.acts.length := by simp only [List.length_append, List.length_singleton] at hi; omega
      have := (hd.keep k1 (by decide)).keep k2 (by decide)
      rw [← h.dl]
      simp only [List.getElem?_concat_length, Option.getD_some]
      rw [h.dl]
      simpa using this
  · have := h.few; simp only [List.length_append, List.length_singleton]; omega
theorem FlAt.belowS {w w1 : World} {B f N : Nat} {vr vt va : Value} {ds : List Value} {F : Fl} (h : FlAt w B f vr vt va ds N F) (o : Nat) (u : Value) {w0 : World} (hb : Below B w0 w1) : Below B w0 (w1.setCell ⟨f, o, none⟩ u) := hb.setCell (p := ⟨f, o, none⟩) h.lo _
end Go.Proofs.YtkankjblpmmikaaDoor.Sc
