/- The walk of a line. -/
import Derived.Test.YtkankjblpmmikaaDoorScFile
import Derived.Deep.RegionLaw
import Derived.Deep.DeepCutAuto
import Derived.Deep.CutBlock
set_option linter.unusedSimpArgs false
set_option linter.unusedVariables false
namespace Go.Proofs.YtkankjblpmmikaaDoor.Sc
open Go.RowKit Hp

theorem splitK_short : ∀ (k : Nat) (s : Bs), ∀ x ∈ Lib.splitK [32] 0 k s, x.length ≤ s.length
  | 0, s, x, hx => by simp only [Lib.splitK, List.mem_singleton] at hx; rw [hx]; exact Nat.le_refl _
  | k + 1, s, x, hx => by
    unfold Lib.splitK at hx
    split at hx
    · simp only [List.mem_singleton] at hx; rw [hx]; exact Nat.le_refl _
    · rcases List.mem_cons.1 hx with rfl | hx
      · simp only [List.length_take]; omega
      · have := splitK_short k _ x hx
        simp only [List.length_drop] at this
        omega
theorem words_short {s x : Bs} (h : x ∈ words s) : x.length ≤ s.length := splitK_short _ s x h
/-- 'strings.Split' at a blank. -/
theorem split_any (s : Bs) (hl : s.length ≤ 4194304) {w : World} {B : Nat} (hs : Std w B) :
    Calls Tryd.prog 29 #[str s, str [32]] w fun e w' => e = .returned (.slice (some ⟨w.heap.size, 0, none⟩) (words s).length (words s).length) ∧ w' = w.alloc (.cells ((words s).map str).toArray 9) ∧ (words s).length ≤ s.length + 1 := by
  obtain ⟨m, hm⟩ := hs.maxLen
  have h1 : (⟨s.toArray⟩ : ByteArray).size = s.length := by simp [ByteArray.size]
  have hsz : 1 ≤ (⟨[32].toArray⟩ : ByteArray).size := by decide
  have hd := Lib.splitB_data ⟨[32].toArray⟩ 0 (Lib.countB ⟨s.toArray⟩ ⟨[32].toArray⟩) ⟨s.toArray⟩
  have hall := Lib.splitB_all ⟨[32].toArray⟩ hsz 0 _ ⟨s.toArray⟩ rfl
  have hle := Lib.countB_le ⟨[32].toArray⟩ hsz s.length ⟨s.toArray⟩ (by omega)
  have hw : (Lib.splitB ⟨[32].toArray⟩ 0 (Lib.countB ⟨s.toArray⟩ ⟨[32].toArray⟩) ⟨s.toArray⟩).map (·.data.toList) = words s := hd
  have hlen : (words s).length = Lib.countB ⟨s.toArray⟩ ⟨[32].toArray⟩ + 1 := by rw [← hw, List.length_map, hall]
  have hmap : (words s).map str = (Lib.splitB ⟨[32].toArray⟩ 0 (Lib.countB ⟨s.toArray⟩ ⟨[32].toArray⟩) ⟨s.toArray⟩).map Value.string := by
    rw [← hw, List.map_map]
    apply List.map_congr_left
    intro x _
    simp [str]
  refine (Tryd.strings_Split ⟨s.toArray⟩ ⟨[32].toArray⟩ m w (by omega) hm hsz).mono fun e w' ⟨he, hw'⟩ => ⟨by rw [he, hlen], by rw [hw', hmap], by rw [hlen]; omega⟩

theorem RdAt.keep {T : TypeId} {w w' : World} {B r : Nat} {R : Rd} (h : RdAt w B r R) (k : KeepN T w w') (h1 : T ≠ 73) (h2 : T ≠ 9) : RdAt w' B r R := by
  obtain ⟨A, cap, hh, a1, a2, a3⟩ := h.heap
  refine ⟨h.lo, Nat.le_trans h.hi k.size, h.short, h.few, A, cap, k.block _ _ _ _ hh (Ne.symm h1), a1, a2, fun hn => ?_⟩
  obtain ⟨g, o, cur, e, hg, hc⟩ := a3 hn
  exact ⟨g, o, cur, e, k.block _ _ _ _ hg (Ne.symm h2), hc⟩

/-- Where a line is being read: the file, the reader, the library's variables; w0: when the line began. -/
structure LS (w0 w : World) (B f r : Nat) (vr vt va : Value) (ds : List Value) (N : Nat) (F : Fl) (R : Rd) : Prop where
  file : FlAt w B f vr vt va ds N F
  rd : RdAt w B r R
  std : Std w B
  below : Below B w0 w
section
variable {w0 w : World} {B f r N : Nat} {vr vt va : Value} {ds : List Value} {F : Fl} {R : Rd}
theorem LS.post {w' : World} {R' : Rd} (h : LS w0 w B f r vr vt va ds N F R) (hp : RdPost w B r R' w') : LS w0 w' B f r vr vt va ds N F R' ∧ KeepN 73 w w' :=
  ⟨⟨h.file.rd h.rd hp, hp.1, h.std.kept (h.rd.below hp.2), h.below.trans (h.rd.below hp.2)⟩, .of_rd h.rd hp⟩
theorem LS.next_ (h : LS w0 w B f r vr vt va ds N F R) : Calls Tryd.prog 31 #[.pointer (some ⟨r, 0, none⟩)] w fun e w' => e = .returned (str (rnext R).1) ∧ LS w0 w' B f r vr vt va ds N F (rnext R).2 ∧ KeepN 73 w w' :=
  (next_any h.rd).mono fun _ _ ⟨he, hp⟩ => ⟨he, h.post hp⟩
theorem LS.number (h : LS w0 w B f r vr vt va ds N F R) : Calls Tryd.prog 30 #[.pointer (some ⟨r, 0, none⟩)] w fun e w' => e = .returned (.int .i64 (rnumber R).1) ∧ LS w0 w' B f r vr vt va ds N F (rnumber R).2 ∧ KeepN 73 w w' :=
  (number_any h.rd h.std).mono fun _ _ ⟨he, hp⟩ => ⟨he, h.post hp⟩
theorem LS.bytes (h : LS w0 w B f r vr vt va ds N F R) : Calls Tryd.prog 32 #[.pointer (some ⟨r, 0, none⟩)] w fun e w' => ∃ v, e = .returned v ∧ DataAt w' v (rbytes R).1 ∧ LS w0 w' B f r vr vt va ds N F (rbytes R).2 ∧ KeepN 73 w w' :=
  (bytesR_any h.rd).mono fun _ _ ⟨v, he, hd, hp⟩ => ⟨v, he, hd, h.post hp⟩
end

theorem LS.start {w : World} {B f N : Nat} {vr vt va : Value} {ds : List Value} {F : Fl} (h : FlAt w B f vr vt va ds N F) (hs : Std w B) (ws : List Bs) (hl : ∀ x ∈ ws, x.length ≤ 4194304) (hn : ws.length ≤ 5000000) :
    LS w ((w.alloc (.cells (ws.map str).toArray 9)).alloc (.cells #[.slice (some ⟨w.heap.size, 0, none⟩) ws.length ws.length, .bool false] 73)) B f (w.heap.size + 1) vr vt va ds N F ⟨ws, false⟩ := by
  have hb : Below w.heap.size w ((w.alloc (.cells (ws.map str).toArray 9)).alloc (.cells #[.slice (some ⟨w.heap.size, 0, none⟩) ws.length ws.length, .bool false] 73)) := ((Below.refl _ _).alloc (Nat.le_refl _) _).alloc (by simp) _
  have hi := h.hi
  refine ⟨h.next hb, ⟨by omega, by simp; omega, hl, hn, some ⟨w.heap.size, 0, none⟩, ws.length, ?_, Nat.le_refl _, hn, fun _ => ⟨w.heap.size, 0, (ws.map str).toArray, rfl, ?_, fun i hi => ?_⟩⟩, hs.kept (hb.mono hi), hb.mono hi⟩
  · have := heap_alloc_new (w.alloc (.cells (ws.map str).toArray 9)) (.cells #[.slice (some ⟨w.heap.size, 0, none⟩) ws.length ws.length, .bool false] 73)
    simpa using this
  · rw [Below.heap_alloc _ _ _ (by simp)]
    exact heap_alloc_new w _
  · have hi' : i < ws.length := hi
    simp [hi']

section
variable {w0 w : World} {B f r N : Nat} {vr vt va : Value} {ds : List Value} {F : Fl} {R : Rd}
theorem LS.setNum (h : LS w0 w B f r vr vt va ds N F R) (o : Nat) (x : Int) (c2 : Cf)
    (hc : (#[vr, vt, .int .i64 F.cf.level, .int .i64 F.cf.minSize, .int .i64 F.cf.cap, .int .i64 F.cf.buffer, .int .i64 F.cf.timeout, va] : Array Value).setIfInBounds o (.int .i64 x) = #[vr, vt, .int .i64 c2.level, .int .i64 c2.minSize, .int .i64 c2.cap, .int .i64 c2.buffer, .int .i64 c2.timeout, va])
    (hr : c2.routes = F.cf.routes) (ht : c2.types = F.cf.types) : LS w0 (w.setCell ⟨f, o, none⟩ (.int .i64 x)) B f r vr vt va ds N ⟨c2, F.acts⟩ R := by
  obtain ⟨h1, k⟩ := h.file.setNum o x c2 hc hr ht
  have hb : Below B w (w.setCell ⟨f, o, none⟩ (.int .i64 x)) := (Below.refl B w).setCell (p := ⟨f, o, none⟩) h.file.lo _
  exact ⟨h1, h.rd.keep k (by decide) (by decide), h.std.kept hb, h.below.trans hb⟩
theorem LS.cell (h : LS w0 w B f r vr vt va ds N F R) (j : Nat) : w.cell? ⟨f, j, none⟩ = #[vr, vt, .int .i64 F.cf.level, .int .i64 F.cf.minSize, .int .i64 F.cf.cap, .int .i64 F.cf.buffer, .int .i64 F.cf.timeout, va][j]? ∧ w.frozen? ⟨f, j, none⟩ = false :=
  ⟨Lib.cell_of_heap h.file.heap j, Lib.frozen_of_heap h.file.heap j⟩
end
/-- A box of the line's own: no row of the file's. -/
structure Box (w : World) (B f r g : Nat) (vr vt va : Value) (cs : Array Value) (T : TypeId) : Prop where
  lo : B ≤ g
  heap : w.heap[g]? = some (.cells cs T (0, 0))
  nf : g ≠ f
  nr : g ≠ r
  n1 : vr.ownBlock ≠ some g
  n2 : vt.ownBlock ≠ some g
  n3 : va.ownBlock ≠ some g
section
variable {w0 w : World} {B f r N : Nat} {vr vt va : Value} {ds : List Value} {F : Fl} {R : Rd}
theorem LS.alloc (h : LS w0 w B f r vr vt va ds N F R) (o : Obj) : LS w0 (w.alloc o) B f r vr vt va ds N F R := by
  have hb : Below w.heap.size w (w.alloc o) := (Below.refl _ _).alloc (Nat.le_refl _) _
  exact ⟨h.file.next hb, h.rd.next hb, h.std.kept (hb.mono h.file.hi), h.below.trans (hb.mono h.file.hi)⟩
theorem LS.drew (h : LS w0 w B f r vr vt va ds N F R) : LS w0 w.drew B f r vr vt va ds N F R := by
  have hb : Below w.heap.size w w.drew := (Below.refl _ _).drew
  exact ⟨h.file.next hb, h.rd.next hb, h.std.kept (hb.mono h.file.hi), h.below.trans (hb.mono h.file.hi)⟩
theorem LS.newBox (h : LS w0 w B f r vr vt va ds N F R) (cs : Array Value) (T : TypeId) : LS w0 (w.alloc (.cells cs T)) B f r vr vt va ds N F R ∧ Box (w.alloc (.cells cs T)) B f r w.heap.size vr vt va cs T := by
  refine ⟨h.alloc _, ⟨h.file.hi, heap_alloc_new w _, ?_, ?_, fun e => ?_, fun e => ?_, fun e => ?_⟩⟩
  · have := h.file.lt; omega
  · have := h.rd.lt; omega
  · have := (h.file.routes.lt _ e).2; omega
  · have := (h.file.types.lt _ e).2; omega
  · have := (h.file.acts.lt _ e).2; omega
theorem Box.keep {w' : World} {g : Nat} {cs : Array Value} {T T' : TypeId} (h : Box w B f r g vr vt va cs T) (k : KeepN T' w w') (ht : T ≠ T') : Box w' B f r g vr vt va cs T :=
  ⟨h.lo, k.block _ _ _ _ h.heap ht, h.nf, h.nr, h.n1, h.n2, h.n3⟩
theorem LS.setBox {g : Nat} {cs : Array Value} {T : TypeId} (h : LS w0 w B f r vr vt va ds N F R) (b : Box w B f r g vr vt va cs T) (h1 : T ≠ 5) (h2 : T ≠ 9) (o : Nat) (u : Value) :
    LS w0 (w.setCell ⟨g, o, none⟩ u) B f r vr vt va ds N F R ∧ Box (w.setCell ⟨g, o, none⟩ u) B f r g vr vt va (cs.setIfInBounds o u) T := by
  have k : KeepN T w (w.setCell ⟨g, o, none⟩ u) := .setCell b.heap _
  have hb : Below B w (w.setCell ⟨g, o, none⟩ u) := (Below.refl B w).setCell (p := ⟨g, o, none⟩) b.lo _
  have hF := h.file
  refine ⟨⟨⟨hF.lo, Nat.le_trans hF.hi k.size, ?_, hF.routes.setCell b.n1 u, hF.types.setCell b.n2 u, hF.acts.setCell b.n3 u, hF.dl, fun i hi => (hF.data i hi).keep k h1, hF.few, hF.small, hF.short⟩, ?_, h.std.kept hb, h.below.trans hb⟩, ⟨b.lo, ?_, b.nf, b.nr, b.n1, b.n2, b.n3⟩⟩
  · exact (Below.heap_setCell _ _ _ _ (Ne.symm b.nf)).trans hF.heap
  · obtain ⟨A, cap, hh, a1, a2, a3⟩ := h.rd.heap
    refine ⟨h.rd.lo, Nat.le_trans h.rd.hi k.size, h.rd.short, h.rd.few, A, cap, (Below.heap_setCell _ _ _ _ (Ne.symm b.nr)).trans hh, a1, a2, fun hn => ?_⟩
    obtain ⟨g', o', cur, e, hg, hc⟩ := a3 hn
    exact ⟨g', o', cur, e, k.block _ _ _ _ hg (Ne.symm h2), hc⟩
  · simp [World.setCell, Array.getElem?_modify, b.heap]
theorem Box.cell {g : Nat} {cs : Array Value} {T : TypeId} (b : Box w B f r g vr vt va cs T) (j : Nat) : w.cell? ⟨g, j, none⟩ = cs[j]? ∧ w.frozen? ⟨g, j, none⟩ = false := ⟨Lib.cell_of_heap b.heap j, Lib.frozen_of_heap b.heap j⟩
theorem LS.more (h : LS w0 w B f r vr vt va ds N F R) : LS w0 w B f r vr vt va ds (N + 1) F R := ⟨h.file.more (by omega), h.rd, h.std, h.below⟩
theorem rd_heap (h : RdAt w B r R) : ∃ A cap, w.cell? ⟨r, 0, none⟩ = some (.slice A R.ws.length cap) ∧ w.cell? ⟨r, 1, none⟩ = some (.bool R.bad) := by
  obtain ⟨A, cap, hh, _⟩ := h.heap
  exact ⟨A, cap, by rw [Lib.cell_of_heap hh]; rfl, by rw [Lib.cell_of_heap hh]; rfl⟩
end
theorem rbytes_len {w : World} {B r : Nat} {R : Rd} (h : RdAt w B r R) : (rbytes R).1.length ≤ 4194304 := by
  have h1 := rnext_short h
  unfold rbytes
  split
  · have := unhex_len ((rnext R).1.drop 1)
    simp only [List.length_drop] at this
    simp only
    omega
  · simp
theorem lineRt_eq {F : Fl} {R Ra Rb Rc : Rd} {a b : Bs} {c : Int} (ha : rbytes R = (a, Ra)) (hb : rbytes Ra = (b, Rb)) (hc : rnumber Rb = (c, Rc)) :
    lineRt F R = (⟨{ F.cf with routes := F.cf.routes ++ [⟨a, b, c⟩] }, F.acts⟩, Rc) := by
  unfold lineRt
  simp only [ha, hb, hc]
theorem lineTy_eq {F : Fl} {R Ra : Rd} {a : Bs} (ha : rbytes R = (a, Ra)) : lineTy F R = (⟨{ F.cf with types := F.cf.types ++ [a] }, F.acts⟩, Ra) := by
  unfold lineTy
  simp only [ha]
theorem lineAc_eq {F : Fl} {R Ra Rb Rc Rd' : Rd} {a b c : Int} {d : Bs} (ha : rnumber R = (a, Ra)) (hb : rnumber Ra = (b, Rb)) (hc : rnumber Rb = (c, Rc)) (hd : rbytes Rc = (d, Rd')) :
    lineAc F R = (⟨F.cf, F.acts ++ [⟨a, b, c, d⟩]⟩, Rd') := by
  unfold lineAc
  simp only [ha, hb, hc, hd]
theorem appRt : AppI Tryd.prog 22 41 (.agg #[.string .empty, .string .empty, .int .i64 0]) 3 40 := ⟨Tryd.underlying22, by kernel_rfl, rfl, by decide⟩
theorem appTy : AppI Tryd.prog 23 9 (.string .empty) 1 16 := ⟨Tryd.underlying23, by kernel_rfl, rfl, by decide⟩
theorem appAc : AppI Tryd.prog 26 39 (.agg #[.int .i64 0, .int .i64 0, .int .i64 0, .slice none 0 0]) 4 48 := ⟨Tryd.underlying26, by kernel_rfl, rfl, by decide⟩
theorem txRt : Tryd.prog.underlying 22 = some .string ∨ ∃ u, Tryd.prog.underlying 22 = some (.slice u) := .inr ⟨_, Tryd.underlying22⟩
theorem txTy : Tryd.prog.underlying 23 = some .string ∨ ∃ u, Tryd.prog.underlying 23 = some (.slice u) := .inr ⟨_, Tryd.underlying23⟩
theorem txAc : Tryd.prog.underlying 26 = some .string ∨ ∃ u, Tryd.prog.underlying 26 = some (.slice u) := .inr ⟨_, Tryd.underlying26⟩
theorem step_bytesR {w0 w : World} {B f r N : Nat} {vr vt va : Value} {ds : List Value} {F : Fl} {R : Rd} {ops : Array Oper} {o : Oper} {a : Act} {K : Act → World → Prop} {Q : Exit → Act → World → Prop} {E : Prop} (hgd : o.guard = none) (x : Operand)
    (ho : o.op = .call { callee := .value (.func 32), args := #[x], argTypes := #[70] }) (hx : a.eval x = .pointer (some ⟨r, 0, none⟩)) (h : LS w0 w B f r vr vt va ds N F R)
    (hK : ∀ v x1, DataAt x1 v (rbytes R).1 → LS w0 x1 B f r vr vt va ds N F (rbytes R).2 → K (a.put o.dst v) x1) :
    if Region.wanted o (yielded ops a.tmps) = true then Oper.wp Tryd.prog o a w K Q else E :=
  step_callI hgd _ _ _ ho (enters_of Tryd.func32 (by kernel_rfl) rfl) #[.pointer (some ⟨r, 0, none⟩)] (by rw [← hx]; simp) (h.bytes.mono fun _ _ ⟨v, he, hd, hl, _⟩ => ⟨v, he, hK v _ hd hl⟩)
theorem lineK_kw {F : Fl} {s kw : Bs} {R1 : Rd} (hkw : (rnext ⟨words s, false⟩).1 = kw) (hR : (rnext ⟨words s, false⟩).2 = R1) :
    lineK F s = if kw = kwConfig then (1, lineCf F R1) else if kw = kwRoute then (2, lineRt F R1) else if kw = kwType then (3, lineTy F R1) else if kw = kwAct then (4, lineAc F R1) else (0, F, R1) := by
  subst hkw hR
  rfl
theorem lineCf_eq {F : Fl} {R Ra Rb Rc Rd' Re : Rd} {a b c d e : Int} (ha : rnumber R = (a, Ra)) (hb : rnumber Ra = (b, Rb)) (hc : rnumber Rb = (c, Rc)) (hd : rnumber Rc = (d, Rd')) (he : rnumber Rd' = (e, Re)) :
    lineCf F R = (⟨⟨F.cf.routes, F.cf.types, a, b, c, d, e⟩, F.acts⟩, Re) := by
  unfold lineCf
  simp only [ha, hb, hc, hd, he]
/-- The reader at a line's end. -/
def RE (w : World) (r : Nat) (R : Rd) : Prop := ∃ A cap, w.heap[r]? = some (.cells #[.slice A R.ws.length cap, .bool R.bad] 73 (0, 0))
theorem RdAt.re {w : World} {B r : Nat} {R : Rd} (h : RdAt w B r R) : RE w r R := by
  obtain ⟨A, cap, hh, _⟩ := h.heap
  exact ⟨A, cap, hh⟩
theorem RE.keep {T : TypeId} {w w' : World} {r : Nat} {R : Rd} (h : RE w r R) (k : KeepN T w w') (ht : T ≠ 73) : RE w' r R := by
  obtain ⟨A, cap, hh⟩ := h
  exact ⟨A, cap, k.block _ _ _ _ hh (Ne.symm ht)⟩
def LineDone (w : World) (B f r : Nat) (N : Nat) (F : Fl) (s : Bs) (k : Value) (wx : World) : Prop :=
  ∃ (n : Nat) (F' : Fl) (R' : Rd) (vr vt va : Value) (ds : List Value), k = .int .i64 n ∧ lineK F s = (n, F', R') ∧ FlAt wx B f vr vt va ds N F' ∧ RE wx r R' ∧ Below B w wx

set_option maxRecDepth 100000 in
set_option maxHeartbeats 3200000 in
theorem line_any {w : World} {B f N : Nat} {vr vt va : Value} {ds : List Value} {F : Fl} (h : FlAt w B f vr vt va ds N F) (hs : Std w B) (s : Bs) (hl : s.length ≤ 4194304) (hN : N ≤ 10000000) :
    Calls Tryd.prog 21 #[.pointer (some ⟨f, 0, none⟩), str s] w fun e w' => e = .returned (.int .i64 (lineM F s).1) ∧ (∃ vr vt va ds, FlAt w' B f vr vt va ds (N + 1) (lineM F s).2) ∧ Below B w w' := by
  have HF := Lib.hid h
  have HS := Lib.hid hs
  clear h hs
  go_enter Tryd.func21, Tryd.ntmps21
  go_wp2_with fail
  go_at_call 29
  refine (split_any s hl HS.out).mono ?_
  rintro e w1 ⟨rfl, rfl, hwl⟩
  have h1 := LS.start HF.out HS.out (words s) (fun x hx => Nat.le_trans (words_short hx) hl) (by omega)
  have H1 := Lib.hid h1
  clear HF h1
  have HM : Hid (lineM F s = let (k, f', r) := lineK F s; if r.bad || !r.ws.isEmpty then (0, f') else (k, f')) := Lib.hid rfl
  generalize hkw : (rnext ⟨words s, false⟩).1 = kw at *
  generalize hR : (rnext ⟨words s, false⟩).2 = R1 at *
  go_wp2_with fail
  go_at_call 31
  refine H1.out.next_.mono ?_
  rw [hkw, hR]
  rintro e w2 ⟨rfl, h2, _⟩
  have HKW := Lib.hid hkw
  have HR := Lib.hid hR
  have H2 := Lib.hid h2
  clear hkw hR h2 H1
  have HK : Hid (lineK F s = if kw = kwConfig then (1, lineCf F R1) else if kw = kwRoute then (2, lineRt F R1) else if kw = kwType then (3, lineTy F R1) else if kw = kwAct then (4, lineAc F R1) else (0, F, R1)) := Lib.hid (lineK_kw HKW.out HR.out)
  clear HKW HR
  generalize hr : w.heap.size + 1 = r at *
  have Hr := Lib.hid hr
  clear hr
  go_upto_block 0 with fail
  go_cut [6] (fun k wx => LineDone w B f r (N + 1) F s k wx)
  case first =>
    by_cases k1 : kw = kwConfig
    · obtain ⟨a, Ra, ha⟩ : ∃ y Y, rnumber R1 = (y, Y) := ⟨_, _, rfl⟩
      obtain ⟨b, Rb, hb⟩ : ∃ y Y, rnumber Ra = (y, Y) := ⟨_, _, rfl⟩
      obtain ⟨c, Rc, hc⟩ : ∃ y Y, rnumber Rb = (y, Y) := ⟨_, _, rfl⟩
      obtain ⟨d, Rd', hd⟩ : ∃ y Y, rnumber Rc = (y, Y) := ⟨_, _, rfl⟩
      obtain ⟨e, Re, he⟩ : ∃ y Y, rnumber Rd' = (y, Y) := ⟨_, _, rfl⟩
      have HA := Lib.hid ha
      have HB := Lib.hid hb
      have HC := Lib.hid hc
      have HD := Lib.hid hd
      have HE := Lib.hid he
      have HL : Hid (lineK F s = (1, ⟨⟨F.cf.routes, F.cf.types, a, b, c, d, e⟩, F.acts⟩, Re)) := Lib.hid (by rw [HK.out, if_pos k1, lineCf_eq ha hb hc hd he])
      clear ha hb hc hd he
      subst k1
      clear HK
      have hk2 : (kwConfig == [99, 111, 110, 102, 105, 103]) = true := by decide
      go_wp2_with fail
      refine H2.out.number.mono ?_
      rw [HA.out]
      dsimp only
      rintro _ x1 ⟨rfl, hx, _⟩
      obtain ⟨c1, f1⟩ := hx.cell 2
      simp only [List.getElem?_toArray, List.getElem?_cons_zero, List.getElem?_cons_succ] at c1
      have HX1 := Lib.hid (hx.setNum 2 a { F.cf with level := a } rfl rfl rfl)
      clear hx H2
      go_wp2_with fail
      clear c1 f1
      refine HX1.out.number.mono ?_
      rw [HB.out]
      dsimp only
      rintro _ x2 ⟨rfl, hx, _⟩
      obtain ⟨c1, f1⟩ := hx.cell 3
      simp only [List.getElem?_toArray, List.getElem?_cons_zero, List.getElem?_cons_succ] at c1
      have HX2 := Lib.hid (hx.setNum 3 b { F.cf with level := a, minSize := b } rfl rfl rfl)
      clear hx HX1
      go_wp2_with fail
      clear c1 f1
      refine HX2.out.number.mono ?_
      rw [HC.out]
      dsimp only
      rintro _ x3 ⟨rfl, hx, _⟩
      obtain ⟨c1, f1⟩ := hx.cell 4
      simp only [List.getElem?_toArray, List.getElem?_cons_zero, List.getElem?_cons_succ] at c1
      have HX3 := Lib.hid (hx.setNum 4 c { F.cf with level := a, minSize := b, cap := c } rfl rfl rfl)
      clear hx HX2
      go_wp2_with fail
      clear c1 f1
      refine HX3.out.number.mono ?_
      rw [HD.out]
      dsimp only
      rintro _ x4 ⟨rfl, hx, _⟩
      obtain ⟨c1, f1⟩ := hx.cell 5
      simp only [List.getElem?_toArray, List.getElem?_cons_zero, List.getElem?_cons_succ] at c1
      have HX4 := Lib.hid (hx.setNum 5 d { F.cf with level := a, minSize := b, cap := c, buffer := d } rfl rfl rfl)
      clear hx HX3
      go_wp2_with fail
      clear c1 f1
      refine HX4.out.number.mono ?_
      rw [HE.out]
      dsimp only
      rintro _ x5 ⟨rfl, hx, _⟩
      obtain ⟨c1, f1⟩ := hx.cell 6
      simp only [List.getElem?_toArray, List.getElem?_cons_zero, List.getElem?_cons_succ] at c1
      have HX5 := Lib.hid (hx.setNum 6 e ⟨F.cf.routes, F.cf.types, a, b, c, d, e⟩ rfl rfl rfl)
      clear hx HX4
      go_wp2_with fail
      
      go_meet
      exact ⟨1, _, _, _, _, _, _, rfl, HL.out, HX5.out.more.file, HX5.out.rd.re, HX5.out.below⟩
    by_cases k2 : kw = kwRoute
    · obtain ⟨a, Ra, ha⟩ : ∃ y Y, rbytes R1 = (y, Y) := ⟨_, _, rfl⟩
      obtain ⟨b, Rb, hb⟩ : ∃ y Y, rbytes Ra = (y, Y) := ⟨_, _, rfl⟩
      obtain ⟨c, Rc, hc⟩ : ∃ y Y, rnumber Rb = (y, Y) := ⟨_, _, rfl⟩
      have HA := Lib.hid ha
      have HB := Lib.hid hb
      have HC := Lib.hid hc
      have HL : Hid (lineK F s = (2, ⟨{ F.cf with routes := F.cf.routes ++ [⟨a, b, c⟩] }, F.acts⟩, Rc)) := Lib.hid (by rw [HK.out, if_neg k1, if_pos k2, lineRt_eq ha hb hc])
      clear ha hb hc k1
      subst k2
      clear HK
      have hk1 : (kwRoute == [99, 111, 110, 102, 105, 103]) = false := by decide
      have hk2 : (kwRoute == [114, 111, 117, 116, 101]) = true := by decide
      go_wp2_with fail
      refine H2.out.bytes.mono ?_
      rw [HA.out]
      dsimp only
      rintro _ x1 ⟨v1, rfl, hd1, hx1, _⟩
      have la : a.length ≤ 4194304 := by have := rbytes_len H2.out.rd; rw [HA.out] at this; exact this
      have cv1 := run_string_of hd1.reads
      have hb1 := hx1.newBox #[str a, str [], .int .i64 0] 41
      have HX1 := Lib.hid hb1
      clear hd1 hx1 hb1 H2 hk1 hk2
      go_wp2_with fail
      refine HX1.out.1.bytes.mono ?_
      rw [HB.out]
      dsimp only
      rintro _ x2 ⟨v2, rfl, hd2, hx2, kk2⟩
      have lb : b.length ≤ 4194304 := by have := rbytes_len HX1.out.1.rd; rw [HB.out] at this; exact this
      have cv2 := run_string_of hd2.reads
      have bx2 := HX1.out.2.keep kk2 (by decide)
      obtain ⟨g0, g1⟩ := bx2.cell 1
      simp only [List.getElem?_toArray, List.getElem?_cons_zero, List.getElem?_cons_succ] at g0
      have HX2 := Lib.hid (hx2.setBox bx2 (by decide) (by decide) 1 (str b))
      clear hd2 hx2 kk2 bx2 HX1 cv1
      go_wp2_with fail
      clear g0 g1 cv2
      refine HX2.out.1.number.mono ?_
      rw [HC.out]
      dsimp only
      rintro _ x3 ⟨rfl, hx3, kk3⟩
      have bx3 := HX2.out.2.keep kk3 (by decide)
      obtain ⟨g0, g1⟩ := bx3.cell 2
      simp at g0
      obtain ⟨hx4, bx4⟩ := hx3.setBox bx3 (by decide) (by decide) 2 (.int .i64 c)
      obtain ⟨d0, _⟩ := bx4.cell 0
      obtain ⟨d1, _⟩ := bx4.cell 1
      obtain ⟨d2, _⟩ := bx4.cell 2
      simp at d0 d1 d2
      obtain ⟨f0, f1⟩ := hx4.cell 0
      simp only [List.getElem?_toArray, List.getElem?_cons_zero, List.getElem?_cons_succ] at f0
      have HX4 := Lib.hid (And.intro hx4 bx4)
      clear hx3 kk3 bx3 HX2 hx4 bx4
      go_wp2_with fail
      clear g0 g1
      generalize x3.setCell ⟨x1.heap.size, 2, none⟩ (.int .i64 c) = y at *
      generalize x1.heap.size = g at *
      have HAL := Lib.hid (HX4.out.1.alloc (.cells #[str a, str b, .int .i64 c] 41)).drew
      obtain ⟨e0, e1⟩ := (HX4.out.1.alloc (.cells #[str a, str b, .int .i64 c] 41)).cell 0
      simp only [List.getElem?_toArray, List.getElem?_cons_zero, List.getElem?_cons_succ] at e0
      have hfew := HX4.out.1.file.few
      have hhi := HX4.out.1.file.hi
      go_region_law (refine step_appI (by rfl) (.tmp 68) (.tmp 70) (by rfl) appRt txRt vr _ _ (by rfl) HAL.out.file.routes _ (by rfl) 1 (rtCells ⟨a, b, c⟩) (Src.ofBlock 1 3 1 rfl (by intro u hu; simp [rtCells] at hu; rcases hu with rfl | rfl | rfl <;> rfl) (by exact heap_alloc_new y _)) (by unfold maxLen; omega) (by omega) (by simp; omega) ?_; intro v' w4 hA; have hp := HAL.out.file.putRt hA ⟨la, lb⟩; have q0 : w4.cell? ⟨f, 0, none⟩ = some vr := (by rw [Lib.cell_of_heap hp.2]; rfl); have q1 : w4.frozen? ⟨f, 0, none⟩ = false := Lib.frozen_of_heap hp.2 0; obtain ⟨ao, cap, rfl⟩ := hA.own.slice)
      all_goals
        have hD : Veil (LineDone w B f r (N + 1) F s (.int .i64 2) (w4.setCell ⟨f, 0, none⟩ (.slice ao (F.cf.routes.length + 1) cap))) := ⟨by
          have k1 : KeepN 41 _ w4 := .of_appd HAL.out.file.routes hA
          have hbl := hA.below (B := B) (HAL.out.below) HAL.out.file.hi HAL.out.file.routes
          have hf4 := hp.1
          exact ⟨2, _, _, _, _, _, _, rfl, HL.out, hf4, (HAL.out.rd.re.keep k1 (by decide)).keep (KeepN.setCell hp.2 _) (by decide), hbl.setCell (p := ⟨f, 0, none⟩) HAL.out.file.lo _⟩⟩
        clear hA hp q0 q1
        go_wp2_with fail
        go_meet
        exact hD.out
    by_cases k3 : kw = kwType
    · obtain ⟨a, Ra, ha⟩ : ∃ y Y, rbytes R1 = (y, Y) := ⟨_, _, rfl⟩
      have HA := Lib.hid ha
      have HL : Hid (lineK F s = (3, ⟨{ F.cf with types := F.cf.types ++ [a] }, F.acts⟩, Ra)) := Lib.hid (by rw [HK.out, if_neg k1, if_neg k2, if_pos k3, lineTy_eq ha])
      clear ha k1 k2
      subst k3
      clear HK
      have hk1 : (kwType == [99, 111, 110, 102, 105, 103]) = false := by decide
      have hk2 : (kwType == [114, 111, 117, 116, 101]) = false := by decide
      have hk3 : (kwType == [116, 121, 112, 101]) = true := by decide
      have la : a.length ≤ 4194304 := by have := rbytes_len H2.out.rd; rw [HA.out] at this; exact this
      have hfew := H2.out.file.few
      obtain ⟨e0, _⟩ := H2.out.cell 1
      simp only [List.getElem?_toArray, List.getElem?_cons_zero, List.getElem?_cons_succ] at e0
      go_wp2_with fail
      go_region_law (first
        | (refine step_bytesR (by rfl) (.tmp 83) (by rfl) (by rfl) H2.out.drew ?_; rw [HA.out]; dsimp only; intro v1 x1 hd1 hx1; have cv1 := run_string_of hd1.reads; have HAL := Lib.hid (hx1.alloc (.cells #[str a] 9)); obtain ⟨d0, _⟩ := hx1.cell 1; obtain ⟨d1, _⟩ := HAL.out.cell 1; simp only [List.getElem?_toArray, List.getElem?_cons_zero, List.getElem?_cons_succ] at d0 d1; have HX1 := Lib.hid hx1; clear hx1 hd1)
        | (refine step_appI (by rfl) (.tmp 82) (.tmp 86) (by rfl) appTy txTy vt _ _ (by rfl) HAL.out.file.types _ (by rfl) 1 [str a] (Src.ofBlock 1 1 1 rfl (by intro u hu; simp at hu; subst hu; rfl) (by exact heap_alloc_new x1 _)) (by unfold maxLen; omega) (by omega) (by have := HAL.out.file.hi; exact this) ?_; intro v' w4 hA; have hp := HAL.out.file.putTy hA la; have q0 : w4.cell? ⟨f, 1, none⟩ = some vt := (by rw [Lib.cell_of_heap hp.2]; rfl); have q1 : w4.frozen? ⟨f, 1, none⟩ = false := Lib.frozen_of_heap hp.2 1; obtain ⟨ao, cap, rfl⟩ := hA.own.slice))
      all_goals
        have hD : Veil (LineDone w B f r (N + 1) F s (.int .i64 3) (w4.setCell ⟨f, 1, none⟩ (.slice ao (F.cf.types.length + 1) cap))) := ⟨by
          have hbl := hA.below (B := B) (HAL.out.below) HAL.out.file.hi HAL.out.file.types
          have k1 : KeepN 9 _ w4 := .of_appd HAL.out.file.types hA
          have hf4 := hp.1
          exact ⟨3, _, _, _, _, _, _, rfl, HL.out, hf4, (HAL.out.rd.re.keep k1 (by decide)).keep (KeepN.setCell hp.2 _) (by decide), hbl.setCell (p := ⟨f, 1, none⟩) HAL.out.file.lo _⟩⟩
        clear hA hp q0 q1
        go_wp2_with fail
        go_meet
        exact hD.out
    by_cases k4 : kw = kwAct
    · obtain ⟨a, Ra, ha⟩ : ∃ y Y, rnumber R1 = (y, Y) := ⟨_, _, rfl⟩
      obtain ⟨b, Rb, hb⟩ : ∃ y Y, rnumber Ra = (y, Y) := ⟨_, _, rfl⟩
      obtain ⟨c, Rc, hc⟩ : ∃ y Y, rnumber Rb = (y, Y) := ⟨_, _, rfl⟩
      obtain ⟨d, Rd', hd⟩ : ∃ y Y, rbytes Rc = (y, Y) := ⟨_, _, rfl⟩
      have HA := Lib.hid ha
      have HB := Lib.hid hb
      have HC := Lib.hid hc
      have HD := Lib.hid hd
      have HL : Hid (lineK F s = (4, ⟨F.cf, F.acts ++ [⟨a, b, c, d⟩]⟩, Rd')) := Lib.hid (by rw [HK.out, if_neg k1, if_neg k2, if_neg k3, if_pos k4, lineAc_eq ha hb hc hd])
      clear ha hb hc hd k1 k2 k3
      subst k4
      clear HK
      have hk1 : (kwAct == [99, 111, 110, 102, 105, 103]) = false := by decide
      have hk2 : (kwAct == [114, 111, 117, 116, 101]) = false := by decide
      have hk3 : (kwAct == [116, 121, 112, 101]) = false := by decide
      have hk4 : (kwAct == [97, 99, 116]) = true := by decide
      go_wp2_with fail
      refine H2.out.number.mono ?_
      rw [HA.out]
      dsimp only
      rintro _ x1 ⟨rfl, hx1, _⟩
      have hb1 := hx1.newBox #[.int .i64 a, .int .i64 0, .int .i64 0, .slice none 0 0] 39
      have HX1 := Lib.hid hb1
      clear hx1 hb1 H2 hk1 hk2 hk3 hk4
      go_wp2_with fail
      refine HX1.out.1.number.mono ?_
      rw [HB.out]
      dsimp only
      rintro _ x2 ⟨rfl, hx2, kk2⟩
      have bx2 := HX1.out.2.keep kk2 (by decide)
      obtain ⟨g0, g1⟩ := bx2.cell 1
      simp at g0
      have HX2 := Lib.hid (hx2.setBox bx2 (by decide) (by decide) 1 (.int .i64 b))
      clear hx2 kk2 bx2 HX1
      go_wp2_with fail
      clear g0 g1
      refine HX2.out.1.number.mono ?_
      rw [HC.out]
      dsimp only
      rintro _ x3 ⟨rfl, hx3, kk3⟩
      have bx3 := HX2.out.2.keep kk3 (by decide)
      obtain ⟨g0, g1⟩ := bx3.cell 2
      simp at g0
      have HX3 := Lib.hid (hx3.setBox bx3 (by decide) (by decide) 2 (.int .i64 c))
      clear hx3 kk3 bx3 HX2
      go_wp2_with fail
      clear g0 g1
      refine HX3.out.1.bytes.mono ?_
      rw [HD.out]
      dsimp only
      rintro _ x4 ⟨v4, rfl, hd4, hx4, kk4⟩
      obtain ⟨hd4l, dA, dC, rfl, hd4'⟩ := hd4
      have hd4 : DataAt x4 (.slice dA d.length dC) d := ⟨hd4l, dA, dC, rfl, hd4'⟩
      have bx4 := HX3.out.2.keep kk4 (by decide)
      obtain ⟨g0, g1⟩ := bx4.cell 3
      simp at g0
      obtain ⟨hx5, bx5⟩ := hx4.setBox bx4 (by decide) (by decide) 3 (.slice dA d.length dC)
      have hd5 := hd4.keep (T := 39) (.setCell bx4.heap (o := 3) (.slice dA d.length dC)) (by decide)
      obtain ⟨d0, _⟩ := bx5.cell 0
      obtain ⟨d1, _⟩ := bx5.cell 1
      obtain ⟨d2, _⟩ := bx5.cell 2
      obtain ⟨d3, _⟩ := bx5.cell 3
      simp at d0 d1 d2 d3
      obtain ⟨f0, f1⟩ := hx5.cell 7
      simp only [List.getElem?_toArray, List.getElem?_cons_zero, List.getElem?_cons_succ] at f0
      have HX5 := Lib.hid (And.intro hx5 hd5)
      clear hx4 kk4 bx4 HX3 hx5 bx5 hd4 hd5 hd4'
      go_wp2_with fail
      clear g0 g1
      generalize x4.setCell ⟨x1.heap.size, 3, none⟩ (.slice dA d.length dC) = y at *
      generalize x1.heap.size = g at *
      have HAL := Lib.hid (HX5.out.1.alloc (.cells #[.int .i64 a, .int .i64 b, .int .i64 c, .slice dA d.length dC] 39)).drew
      have HDA : Hid (DataAt (y.alloc (.cells #[.int .i64 a, .int .i64 b, .int .i64 c, .slice dA d.length dC] 39)).drew (.slice dA d.length dC) d) := Lib.hid (HX5.out.2.keep (T := 73) (.of_below (((Below.refl _ _).alloc (Nat.le_refl _) _).drew)) (by decide))
      obtain ⟨e0, e1⟩ := (HX5.out.1.alloc (.cells #[.int .i64 a, .int .i64 b, .int .i64 c, .slice dA d.length dC] 39)).cell 7
      simp only [List.getElem?_toArray, List.getElem?_cons_zero, List.getElem?_cons_succ] at e0
      have hfew := HX5.out.1.file.few
      have hhi := HX5.out.1.file.hi
      go_region_law (refine step_appI (by rfl) (.tmp 109) (.tmp 111) (by rfl) appAc txAc va _ _ (by rfl) HAL.out.file.acts _ (by rfl) 1 (acCells ⟨a, b, c, d⟩ (.slice dA d.length dC)) (Src.ofBlock 1 4 1 rfl (by intro u hu; simp [acCells] at hu; rcases hu with rfl | rfl | rfl | rfl <;> rfl) (by exact heap_alloc_new y _)) (by unfold maxLen; omega) (by omega) (by simp; omega) ?_; intro v' w4 hA; have hp := HAL.out.file.putAc hA HDA.out; have q0 : w4.cell? ⟨f, 7, none⟩ = some va := (by rw [Lib.cell_of_heap hp.2]; rfl); have q1 : w4.frozen? ⟨f, 7, none⟩ = false := Lib.frozen_of_heap hp.2 7; obtain ⟨ao, cap, rfl⟩ := hA.own.slice)
      all_goals
        have hD : Veil (LineDone w B f r (N + 1) F s (.int .i64 4) (w4.setCell ⟨f, 7, none⟩ (.slice ao (F.acts.length + 1) cap))) := ⟨by
          have k1 : KeepN 39 _ w4 := .of_appd HAL.out.file.acts hA
          have hbl := hA.below (B := B) (HAL.out.below) HAL.out.file.hi HAL.out.file.acts
          have hf4 := hp.1
          exact ⟨4, _, _, _, _, _, _, rfl, HL.out, hf4, (HAL.out.rd.re.keep k1 (by decide)).keep (KeepN.setCell hp.2 _) (by decide), hbl.setCell (p := ⟨f, 7, none⟩) HAL.out.file.lo _⟩⟩
        clear hA hp q0 q1
        go_wp2_with fail
        go_meet
        exact hD.out
    · have HL : Hid (lineK F s = (0, F, R1)) := Lib.hid (by rw [HK.out, if_neg k1, if_neg k2, if_neg k3, if_neg k4])
      have hk1 : (kw == [99, 111, 110, 102, 105, 103]) = false := by simpa [kwConfig] using k1
      have hk2 : (kw == [114, 111, 117, 116, 101]) = false := by simpa [kwRoute] using k2
      have hk3 : (kw == [116, 121, 112, 101]) = false := by simpa [kwType] using k3
      have hk4 : (kw == [97, 99, 116]) = false := by simpa [kwAct] using k4
      clear k1 k2 k3 k4 HK
      go_wp2_with fail
      go_meet
      exact ⟨0, _, _, _, _, _, _, rfl, HL.out, H2.out.more.file, H2.out.rd.re, H2.out.below⟩
  case rest =>
    obtain ⟨n, F', R', vr', vt', va', ds', rfl, hK, hfile, ⟨A, cap, hre⟩, hbel⟩ := hcut
    have c0 := Lib.cell_of_heap hre 0
    have c1 := Lib.cell_of_heap hre 1
    simp only [List.getElem?_toArray, List.getElem?_cons_zero, List.getElem?_cons_succ] at c0 c1
    obtain ⟨ws, bad⟩ := R'
    have HV : Veil ((lineM F s = if bad || !ws.isEmpty then (0, F') else (n, F')) ∧ FlAt _ B f vr' vt' va' ds' (N + 1) F' ∧ Below B w _) := ⟨by rw [HM.out, hK], hfile, hbel⟩
    clear hfile hbel hre hK H2 HK HM
    cases bad with
    | true =>
      go_wp2_with fail
      go_ret
      exact ⟨by rw [HV.out.1]; rfl, ⟨_, _, _, _, by rw [HV.out.1]; exact HV.out.2.1⟩, HV.out.2.2⟩
    | false =>
      cases ws with
      | nil =>
        go_wp2_with fail
        go_ret
        exact ⟨by rw [HV.out.1]; rfl, ⟨_, _, _, _, by rw [HV.out.1]; exact HV.out.2.1⟩, HV.out.2.2⟩
      | cons x t =>
        have hd : decide ((0 : Int) < (t.length : Int) + 1) = true := by simp <;> omega
        simp only [List.length_cons] at c0
        go_wp2_with fail
        go_ret
        exact ⟨by rw [HV.out.1]; rfl, ⟨_, _, _, _, by rw [HV.out.1]; exact HV.out.2.1⟩, HV.out.2.2⟩
end Go.Proofs.YtkankjblpmmikaaDoor.Sc
