/- append onto a slice that is owned from a place of its row on; what is appended may be nil, empty, a string. CONDITIONS: as in each statement. -/
import Derived.Test.YtkankjblpmmikaaDoorHp
import Derived.Deep.RegionLaw
import Derived.Deep.AppendLies
import Derived.ArgAppend
import Derived.BigRegion
import Derived.Shelf.Abstract
set_option linter.unusedSimpArgs false
set_option linter.unusedVariables false
namespace Go.Proofs.YtkankjblpmmikaaDoor.Hp
open Go.RowKit

/-- v is owned: nil, or a slice from some place of a row on, up to the row's end, at most; its n elements are the cells xs; nothing of the row is frozen. -/
def OwnR (w : World) (base : Nat) (e : TypeId) (size : Nat) (v : Value) (n : Nat) (xs : List Value) : Prop :=
  xs.length = n * size ∧ ((v = .slice none 0 0 ∧ n = 0) ∨
    ∃ g off cap cur fr, v = .slice (some ⟨g, off, none⟩) n cap ∧ base ≤ g ∧ w.heap[g]? = some (.cells cur e fr) ∧ n ≤ cap ∧ cap ≤ maxLen ∧ off + cap * size ≤ cur.size ∧ (cur.toList.drop off).take (n * size) = xs ∧
      ∀ j, j < cur.size → ¬ (fr.1 ≤ j ∧ j < fr.2))

section
variable {w w' : World} {base : Nat} {e : TypeId} {size : Nat} {v : Value} {n : Nat} {xs : List Value}

theorem OwnR.nil : OwnR w base e size (.slice none 0 0) 0 [] := ⟨by simp, .inl ⟨rfl, rfl⟩⟩
theorem OwnR.of (h : w.ownsRow base e size v n xs) : OwnR w base e size v n xs := by
  refine ⟨h.1, ?_⟩
  rcases h.2 with h | ⟨g, cap, cur, h1, h2, h3, h4, h5, h6, h7⟩
  · exact .inl h
  · exact .inr ⟨g, 0, cap, cur, (0, 0), h1, h2, h3, h4, h5, by omega, by simpa using h7, fun j _ h => by omega⟩
theorem OwnR.lt (h : OwnR w base e size v n xs) : ∀ k, v.ownBlock = some k → base ≤ k ∧ k < w.heap.size := by
  intro k hk
  rcases h.2 with ⟨rfl, _⟩ | ⟨g, off, cap, cur, fr, rfl, hb, hg, _⟩
  · simp [Value.ownBlock] at hk
  · simp [Value.ownBlock] at hk
    subst hk
    exact ⟨hb, (Array.getElem?_eq_some_iff.1 hg).1⟩
theorem OwnR.kept {row : Option Nat} (h : OwnR w base e size v n xs) (hg : w.grownBy w' row) (hne : v.ownBlock = none ∨ v.ownBlock ≠ row) : OwnR w' base e size v n xs := by
  refine ⟨h.1, ?_⟩
  rcases h.2 with hn | ⟨g, off, cap, cur, fr, rfl, hb, hgg, rest⟩
  · exact .inl hn
  · refine .inr ⟨g, off, cap, cur, fr, rfl, hb, ?_, rest⟩
    rw [hg.block g (Array.getElem?_eq_some_iff.1 hgg).1 (by simpa [Value.ownBlock] using hne)]
    exact hgg
theorem OwnR.below (h : OwnR w base e size v n xs) (hb : Below w.heap.size w w') : OwnR w' base e size v n xs :=
  h.kept (row := none) ⟨hb.os, hb.tape, hb.output, hb.size, fun k hk _ => hb.block k hk⟩ (by cases v.ownBlock <;> simp)
theorem OwnR.drew (h : OwnR w base e size v n xs) : OwnR w.drew base e size v n xs := h
theorem OwnR.drewN (h : OwnR w base e size v n xs) (k : Nat) : OwnR (w.drewN k) base e size v n xs := h
theorem OwnR.alloc (h : OwnR w base e size v n xs) (o : Obj) : OwnR (w.alloc o) base e size v n xs :=
  h.below ((Below.refl _ _).alloc (Nat.le_refl _) o)
/-- A store into another block. -/
theorem OwnR.setCell (h : OwnR w base e size v n xs) {a : Addr} (hne : v.ownBlock ≠ some a.block) (u : Value) : OwnR (w.setCell a u) base e size v n xs :=
  h.kept (row := some a.block) ⟨rfl, rfl, rfl, by simp [World.setCell], fun k _ hk => Below.heap_setCell _ _ _ _ (fun e => hk (by rw [e]))⟩ (.inr hne)
/-- A new row, all of it. -/
theorem OwnR.made (w : World) (base : Nat) (e : TypeId) (size n : Nat) (cur : Array Value) (hb : base ≤ w.heap.size) (hn : n ≤ maxLen) (hs : cur.size = n * size) :
    OwnR (w.alloc (.cells cur e)) base e size (.slice (some ⟨w.heap.size, 0, none⟩) n n) n cur.toList :=
  ⟨by simp [hs], .inr ⟨w.heap.size, 0, n, cur, (0, 0), rfl, hb, heap_alloc_new w _, Nat.le_refl _, hn, by omega, by rw [List.drop_zero]; exact List.take_of_length_le (by simp [hs]), fun j _ h => by omega⟩⟩
theorem OwnR.rebase (h : OwnR w base e size v n xs) {base' : Nat} (hb : ∀ k, v.ownBlock = some k → base' ≤ k) : OwnR w base' e size v n xs := by
  refine ⟨h.1, ?_⟩
  rcases h.2 with hn | ⟨g, off, cap, cur, fr, rfl, hb', rest⟩
  · exact .inl hn
  · exact .inr ⟨g, off, cap, cur, fr, rfl, hb g rfl, rest⟩
theorem OwnR.slice (h : OwnR w base e size v n xs) : ∃ a c, v = .slice a n c := by
  rcases h.2 with ⟨rfl, rfl⟩ | ⟨g, off, cap, cur, fr, rfl, _⟩
  · exact ⟨_, _, rfl⟩
  · exact ⟨_, _, rfl⟩
/-- A cell of it. -/
theorem OwnR.cells (h : OwnR w base e size v n xs) {g off c : Nat} (hv : v = .slice (some ⟨g, off, none⟩) n c) : ∀ j u, xs[j]? = some u → w.cell? ⟨g, off + j, none⟩ = some u := by
  intro j u hu
  rcases h.2 with ⟨rfl, _⟩ | ⟨g', off', cap, cur, fr, rfl, _, hgg, _, _, _, htake, _⟩
  · cases hv
  · injection hv with h1 h2 h3
    injection h1 with h1
    injection h1 with h1 h4
    subst h1 h4
    rw [cell_of_row w g' (off' + j) cur e fr hgg]
    rw [← htake, List.getElem?_take] at hu
    split at hu
    · rw [List.getElem?_drop] at hu
      simpa using hu
    · cases hu
end

/-- What is appended: a string, or a slice whose cells are there. -/
def Src (w : World) (x : Value) (m size : Nat) (news : List Value) : Prop :=
  news.length = m * size ∧ (∀ u ∈ news, u.oneCell' = true) ∧
    ((∃ s : ByteArray, x = .string s ∧ size = 1 ∧ m = s.size ∧ news = Lib.byteCells s.data.toList) ∨
      ∃ a c, x = .slice a m c ∧ (0 < m * size → ∃ ad : Addr, a = some ad ∧ ∀ j u, news[j]? = some u → w.cell? (ad.add j) = some u))

theorem Src.drew {w : World} {x : Value} {m size : Nat} {news : List Value} (h : Src w x m size news) : Src w.drew x m size news := by
  obtain ⟨h1, h2, h3⟩ := h
  refine ⟨h1, h2, ?_⟩
  rcases h3 with h3 | ⟨a, c, h3, h4⟩
  · exact .inl h3
  · exact .inr ⟨a, c, h3, fun hm => by
      obtain ⟨ad, e, hc⟩ := h4 hm
      exact ⟨ad, e, fun j u hu => by simpa using hc j u hu⟩⟩

theorem Src.runLen {P : Program} {w : World} {x : Value} {m size : Nat} {news : List Value} (h : Src w x m size news) : (Builtin.lenOf x).run P w = .ok m w := by
  obtain ⟨_, _, ⟨s, rfl, _, rfl, _⟩ | ⟨a, c, rfl, _⟩⟩ := h <;> simp [Builtin.lenOf]
theorem Src.runCells {P : Program} {w : World} {x : Value} {m size : Nat} {news : List Value} (h : Src w x m size news) : (Builtin.firstCells size m x).run P w = .ok news.toArray w := by
  obtain ⟨h1, _, ⟨s, rfl, rfl, rfl, rfl⟩ | ⟨a, c, rfl, h4⟩⟩ := h
  · have e : s.extract 0 s.size = s := by simp
    simp only [Builtin.firstCells, e, Sem.run_pure, Result.ok.injEq, and_true]
    apply Array.ext'
    simp [Lib.byteCells]
  · by_cases hm : 0 < m * size
    · obtain ⟨ad, rfl, hc⟩ := h4 hm
      exact run_firstCells_some w size m ad m c news h1 hc
    · have e : news = [] := List.eq_nil_of_length_eq_zero (by omega)
      subst e
      have hz : m * size = 0 := by omega
      cases a with
      | none => simp [Builtin.firstCells]
      | some ad => simp [Builtin.firstCells, hz, loadCells, loadCellsFrom]

theorem byteCells_one (l : Bs) : ∀ v ∈ Lib.byteCells l, v.oneCell' = true := by
  intro v hv
  unfold Lib.byteCells at hv
  obtain ⟨b, _, rfl⟩ := List.mem_map.1 hv
  rfl
theorem Src.ofString (w : World) (s : ByteArray) : Src w (.string s) s.size 1 (Lib.byteCells s.data.toList) :=
  ⟨by simp [Lib.byteCells], byteCells_one _, .inl ⟨s, rfl, rfl, rfl, rfl⟩⟩
theorem Src.ofReads {w : World} {x : Value} {l : Bs} (h : Reads w x l) : Src w x l.length 1 (Lib.byteCells l) := by
  obtain ⟨_, a, c, rfl, h2⟩ := h
  refine ⟨by simp [Lib.byteCells], byteCells_one _, .inr ⟨a, c, rfl, fun hm => ?_⟩⟩
  obtain ⟨b, o, rfl, _, h3⟩ := h2 (ne_nil_of_lt (k := 0) (by omega))
  refine ⟨_, rfl, fun j u hu => ?_⟩
  have hj : j < l.length := by
    have := (List.getElem?_eq_some_iff.1 hu).1
    simpa [Lib.byteCells] using this
  have e : (⟨b, o, none⟩ : Addr).add j = ⟨b, o + j, none⟩ := by unfold Addr.add; split <;> simp_all
  rw [e, h3 j hj, ← hu]
  simp [Lib.byteCells, hj]
/-- Out of a block that is known whole. -/
theorem Src.ofBlock {w : World} {g : Nat} {cs : List Value} {t : TypeId} {fr : Nat × Nat} (m size c : Nat) (hl : cs.length = m * size) (h1 : ∀ u ∈ cs, u.oneCell' = true) (hb : w.heap[g]? = some (.cells cs.toArray t fr)) :
    Src w (.slice (some ⟨g, 0, none⟩) m c) m size cs :=
  ⟨hl, h1, .inr ⟨_, _, rfl, fun _ => ⟨_, rfl, fun j u hu => World.news_of_block hb j u (by simpa using hu)⟩⟩⟩

theorem setCells_heap_other (b o : Nat) : ∀ (vs : List Value) (w : World) (k : Nat), k ≠ b → (w.setCells b o vs).heap[k]? = w.heap[k]? := by
  intro vs
  induction vs generalizing o with
  | nil => intro w k _; rfl
  | cons v r ih =>
    intro w k hk
    rw [World.setCells, ih _ _ _ hk]
    exact Below.heap_setCell _ _ _ _ hk

theorem setCells_rest (b : Nat) : ∀ (vs : List Value) (o : Nat) (w : World), (w.setCells b o vs).os = w.os ∧ (w.setCells b o vs).tape = w.tape ∧ (w.setCells b o vs).output = w.output ∧ (w.setCells b o vs).heap.size = w.heap.size := by
  intro vs
  induction vs with
  | nil => intro o w; exact ⟨rfl, rfl, rfl, rfl⟩
  | cons v r ih =>
    intro o w
    obtain ⟨h1, h2, h3, h4⟩ := ih (o + 1) (w.setCell ⟨b, o, none⟩ v)
    exact ⟨h1, h2, h3, h4.trans (by simp [World.setCell])⟩

theorem setCells_heap (b : Nat) (e : TypeId) (fr : Nat × Nat) : ∀ (vs : List Value) (o : Nat) (w : World) (cur : Array Value), w.heap[b]? = some (.cells cur e fr) → o + vs.length ≤ cur.size →
    (w.setCells b o vs).heap[b]? = some (.cells (cur.toList.take o ++ vs ++ cur.toList.drop (o + vs.length)).toArray e fr) := by
  intro vs
  induction vs with
  | nil => intro o w cur h _; simp [World.setCells, h]
  | cons v r ih =>
    intro o w cur h hs
    simp only [List.length_cons] at hs
    rw [World.setCells, ih (o + 1) _ (cur.setIfInBounds o v) (by simp [World.setCell, Array.getElem?_modify, h]) (by simp; omega)]
    congr 2
    apply congrArg List.toArray
    have e1 : (cur.setIfInBounds o v).toList = cur.toList.set o v := by simp
    rw [e1]
    have ho : o < cur.toList.length := by simp; omega
    have e2 : (cur.toList.set o v).take (o + 1) = cur.toList.take o ++ [v] := by
      rw [List.take_succ_eq_append_getElem (by simpa using ho), List.take_set_of_le (Nat.le_refl _)]
      simp
    have e3 : (cur.toList.set o v).drop (o + 1 + r.length) = cur.toList.drop (o + (v :: r).length) := by
      rw [List.drop_set_of_lt (by omega)]
      congr 1
      simp only [List.length_cons]; omega
    rw [e2, e3]
    simp

/-- v lies at its row's head, or is nil. -/
def Off0 (v : Value) : Prop := ∀ a n c, v = .slice (some a) n c → a.off = 0
theorem Off0.same {a : Addr} {n c m d : Nat} (h : Off0 (.slice (some a) n c)) : Off0 (.slice (some a) m d) := by
  intro b k e hb
  injection hb with h1 _ _
  injection h1 with h1
  subst h1
  exact h _ _ _ rfl
theorem Off0.head (g n c : Nat) : Off0 (.slice (some ⟨g, 0, none⟩) n c) := by
  intro b k e hb
  injection hb with h1 _ _
  injection h1 with h1
  subst h1
  rfl

/-- THE LAW. -/
theorem run_app {P : Program} (w : World) (base : Nat) (t tx ty e : TypeId) (d : TypeDesc) (i : TypeInfo) (z : Value) (size bytes : Nat) (ht : P.underlying t = some (.slice e)) (hd : P.underlying tx = some d) (hnd : ∀ k, d ≠ .int k)
    (hi : P.info? e = some i) (hz : i.zero = some z) (hsize : i.size = size) (hby : i.bytes = bytes) (hzs : z.cells.size = size) (hsz : 0 < size)
    (v : Value) (n : Nat) (xs : List Value) (hown : OwnR w base e size v n xs) (x : Value) (m : Nat) (news : List Value) (hx : Src w x m size news)
    (h63 : n + m ≤ maxLen) (hbytes : (n + m) * bytes ≤ 140737488355328) (hbase : base ≤ w.heap.size) :
    ∃ v' w', (Builtin.append_ #[t, tx] ty #[v, x]).run P w = .ok v' w' ∧ OwnR w' base e size v' (n + m) (xs ++ news) ∧ w.grownBy w' v.ownBlock ∧ (v'.ownBlock = v.ownBlock ∨ v'.ownBlock = some w.heap.size) ∧ (Off0 v → Off0 v') := by
  subst hsize
  subst hby
  have hsmall : n + m ≤ 9223372036854775807 := by simp only [maxLen] at h63; omega
  have hlen : (xs ++ news).length = (n + m) * i.size := by rw [List.length_append, hown.1, hx.1, Nat.add_mul]
  have hz' : (match (generalizing := false) d with | .int _ => true | _ => false) = false := by cases d <;> first | rfl | exact absurd rfl (hnd _)
  have hL := hx.runLen (P := P)
  have hC := hx.runCells (P := P)
  have hC' := hx.drew.runCells (P := P)
  have grown : ∀ (old : Nat), old < n + m → ∀ (row : Option Nat),
      OwnR (w.drew.alloc (.cells (xs.toArray ++ news.toArray ++ Builtin.zeroCells z.cells (grownCap w (n + m) old e - (n + m))) e)) base e i.size
        (.slice (some ⟨w.heap.size, 0, none⟩) (n + m) (grownCap w (n + m) old e)) (n + m) (xs ++ news) ∧
      w.grownBy (w.drew.alloc (.cells (xs.toArray ++ news.toArray ++ Builtin.zeroCells z.cells (grownCap w (n + m) old e - (n + m))) e)) row := by
    intro old ho row
    have hge := grownCap_ge w (n + m) old e
    have hcm : grownCap w (n + m) old e ≤ maxLen := grownCap_le_maxLen w (n + m) old e h63
    refine ⟨⟨hlen, .inr ⟨w.heap.size, 0, _, _, (0, 0), rfl, hbase, heap_alloc_new w.drew _, hge, hcm, ?_, ?_, fun j _ h => by omega⟩⟩, ⟨rfl, rfl, rfl, by simp, fun k hk _ => Below.heap_alloc w.drew _ k hk⟩⟩
    · simp only [Array.size_append, List.size_toArray, size_zeroCells, hzs, hown.1, hx.1, ← Nat.add_mul]
      rw [Nat.zero_add]
      exact Nat.le_of_eq (by congr 1; omega)
    · simp only [Array.toList_append, List.append_assoc, List.drop_zero]
      rw [← List.append_assoc, ← hlen]
      exact List.take_left
  rcases hown.2 with ⟨rfl, rfl⟩ | ⟨g, off, cap, cur, fr, rfl, hbg, hg, hnc, hcm, hcs, htake, hfr⟩
  · have hx0 : xs = [] := List.eq_nil_of_length_eq_zero (by simpa using hown.1)
    subst hx0
    by_cases hm : m = 0
    · subst hm
      have hn : news = [] := List.eq_nil_of_length_eq_zero (by simpa using hx.1)
      subst hn
      refine ⟨.slice none 0 0, w, ?_, OwnR.nil, ⟨rfl, rfl, rfl, Nat.le_refl _, fun _ _ _ => rfl⟩, .inl rfl, fun h => h⟩
      simp [Builtin.append_, run_underlying ht, run_underlying hd, sizeOf, typeInfo, hi, hL, hC, hz']
    · have hgr := grown 0 (by omega) (Value.ownBlock (.slice none 0 0))
      simp only [Nat.zero_add, List.nil_append, Array.empty_append] at hgr hbytes hsmall ⊢
      have h48' : ¬ (281474976710656 < Builtin.nextslicecap m 0 * i.bytes) := by
        have := growslice_fits (need := m) (old := 0) (bytes := i.bytes) (by omega) hbytes
        omega
      have h63' : ¬ (9223372036854775807 < (m : Int)) := by omega
      refine ⟨_, _, ?_, hgr.1, hgr.2, .inr rfl, fun _ => Off0.head _ _ _⟩
      simp [Builtin.append_, run_underlying ht, run_underlying hd, sizeOf, typeInfo, zeroValue, hi, hz, hL, hC', hz', hm, h63', h48', Question.forced, newRow, grownCap, run_firstCells_none]
  · by_cases hroom : n + m ≤ cap
    · have hfit : off + n * i.size + news.length ≤ cur.size := by
        have : (n + m) * i.size ≤ cap * i.size := Nat.mul_le_mul_right _ hroom
        rw [hx.1]
        rw [Nat.add_mul] at this
        omega
      have hst := run_storeCells_cells (P := P) g (off + n * i.size) news 0 w
        (by intro j hj; rw [cell_of_row w g _ cur e fr hg, Array.getElem?_eq_getElem (by omega)]; rfl)
        (by intro j hj; have := hfr (off + n * i.size + 0 + j) (by omega); simp only [World.frozen?, hg]; simpa using this) hx.2.1
      simp only [Nat.add_zero] at hst
      have hadd : (⟨g, off, none⟩ : Addr).add (n * i.size) = ⟨g, off + n * i.size, none⟩ := by unfold Addr.add; split <;> simp_all
      refine ⟨.slice (some ⟨g, off, none⟩) (n + m) cap, w.setCells g (off + n * i.size) news, ?_, ⟨hlen, .inr ⟨g, off, cap, _, fr, rfl, hbg, setCells_heap g e fr news _ w cur hg hfit, hroom, hcm, ?_, ?_, ?_⟩⟩, ⟨?_, ?_, ?_, ?_, ?_⟩, .inl rfl, Off0.same⟩
      · simp [Builtin.append_, run_underlying ht, run_underlying hd, sizeOf, typeInfo, hi, hL, hC, hz', hroom, hadd, hst]
      · simp only [List.size_toArray, List.length_append, List.length_take, List.length_drop, Array.length_toList]
        omega
      · have e1 : (cur.toList.take (off + n * i.size) ++ news ++ cur.toList.drop (off + n * i.size + news.length)).drop off = xs ++ news ++ cur.toList.drop (off + n * i.size + news.length) := by
          rw [List.append_assoc, List.drop_append_of_le_length (by simp; omega), ← htake, List.append_assoc]
          congr 1
          rw [List.drop_take]
          congr 1
          omega
        rw [show (_ : Array Value).toList = _ from List.toList_toArray, e1, ← hlen]
        exact List.take_left
      · intro j hj
        refine hfr j ?_
        simp only [List.size_toArray, List.length_append, List.length_take, List.length_drop, Array.length_toList] at hj
        omega
      · exact (setCells_rest ..).1
      · exact (setCells_rest ..).2.1
      · exact (setCells_rest ..).2.2.1
      · exact Nat.le_of_eq (setCells_rest ..).2.2.2.symm
      · intro k _ hk
        exact setCells_heap_other g _ news w k (fun e => hk (by rw [e]; rfl))
    · have holds : ∀ j u, xs[j]? = some u → w.cell? ((⟨g, off, none⟩ : Addr).add j) = some u := fun j u hu => by
        have e : (⟨g, off, none⟩ : Addr).add j = ⟨g, off + j, none⟩ := by unfold Addr.add; split <;> simp_all
        rw [e]
        exact hown.cells rfl j u hu
      have hfo := run_firstCells_some (P := P) w.drew i.size n ⟨g, off, none⟩ n cap xs hown.1 (by simpa using holds)
      have hgr := grown cap (by omega) (Value.ownBlock (.slice (some ⟨g, off, none⟩) n cap))
      have h48' : ¬ (281474976710656 < Builtin.nextslicecap (n + m) cap * i.bytes) := by
        have := growslice_fits (need := n + m) (old := cap) (bytes := i.bytes) (by omega) hbytes
        omega
      have h63' : ¬ (9223372036854775807 < ((n : Int) + (m : Int))) := by omega
      refine ⟨_, _, ?_, hgr.1, hgr.2, .inr rfl, fun _ => Off0.head _ _ _⟩
      simp [Builtin.append_, run_underlying ht, run_underlying hd, sizeOf, typeInfo, zeroValue, hi, hz, hL, hC', hz', hroom, h63', h48', Question.forced, newRow, grownCap, hfo]
      congr 2
      apply Array.ext'
      simp [List.append_assoc]

/-- What the program's tables say of a slice type whose elements are appended. -/
structure AppI (P : Program) (t e : TypeId) (z : Value) (size bytes : Nat) : Prop where
  isSlice : P.underlying t = some (.slice e)
  info : (P.info? e).map (fun i => (i.zero, i.size, i.bytes)) = some (some z, size, bytes)
  zs : z.cells.size = size
  pos : 0 < size

/-- What was there ahead of an append, and what is behind it. -/
structure Appd (w w' : World) (base : Nat) (e size : Nat) (v v' : Value) (n : Nat) (xs : List Value) : Prop where
  own : OwnR w' base e size v' n xs
  grown : w.grownBy w' v.ownBlock
  place : v'.ownBlock = v.ownBlock ∨ v'.ownBlock = some w.heap.size
  off : Off0 v → Off0 v'

theorem Appd.below {w0 w w' : World} {base e size : Nat} {v v' : Value} {n n0 : Nat} {xs xs0 : List Value} (h : Appd w w' base e size v v' n xs) {B : Nat} (hB : Below B w0 w) (hb : B ≤ w.heap.size) (h0 : OwnR w B e size v n0 xs0) : Below B w0 w' :=
  hB.grown h.grown hb (fun k hk => (h0.lt k hk).1)

section
variable {P : Program} {w : World} {base : Nat} {t tx e : TypeId} {z : Value} {size bytes : Nat}

theorem run_appI (A : AppI P t e z size bytes) (hd : P.underlying tx = some .string ∨ ∃ u, P.underlying tx = some (.slice u)) (ty : TypeId) {v : Value} {n : Nat} {xs : List Value} (hown : OwnR w base e size v n xs) {x : Value} {m : Nat} {news : List Value} (hx : Src w x m size news)
    (h63 : n + m ≤ maxLen) (hbytes : (n + m) * bytes ≤ 140737488355328) (hbase : base ≤ w.heap.size) :
    ∃ v' w', (Builtin.append_ #[t, tx] ty #[v, x]).run P w = .ok v' w' ∧ Appd w w' base e size v v' (n + m) (xs ++ news) := by
  obtain ⟨i, hi, hz, hs, hb⟩ := info_parts A.info
  rcases hd with hd | ⟨u, hd⟩
  · obtain ⟨v', w', h1, h2, h3, h4, h5⟩ := run_app w base t tx ty e _ i z size bytes A.isSlice hd (fun _ h => by cases h) hi hz hs hb A.zs A.pos v n xs hown x m news hx h63 hbytes hbase
    exact ⟨v', w', h1, h2, h3, h4, h5⟩
  · obtain ⟨v', w', h1, h2, h3, h4, h5⟩ := run_app w base t tx ty e _ i z size bytes A.isSlice hd (fun _ h => by cases h) hi hz hs hb A.zs A.pos v n xs hown x m news hx h63 hbytes hbase
    exact ⟨v', w', h1, h2, h3, h4, h5⟩

theorem wp_appI {o : Oper} {a : Act} {K : Act → World → Prop} {Q : Exit → Act → World → Prop} (s x : Operand) (ho : o.op = .call { callee := .builtin .append, args := #[s, x], argTypes := #[t, tx] })
    (A : AppI P t e z size bytes) (hd : P.underlying tx = some .string ∨ ∃ u, P.underlying tx = some (.slice u)) (v : Value) (n : Nat) (xs : List Value) (hs : a.eval s = v) (hown : OwnR w base e size v n xs)
    (xv : Value) (hxv : a.eval x = xv) (m : Nat) (news : List Value) (hx : Src w xv m size news) (h63 : n + m ≤ maxLen) (hbytes : (n + m) * bytes ≤ 140737488355328) (hbase : base ≤ w.heap.size)
    (h : ∀ v' w', Appd w w' base e size v v' (n + m) (xs ++ news) → K (a.put o.dst v') w') : o.wp P a w K Q := by
  obtain ⟨v', w', hr, h2⟩ := run_appI A hd o.type hown hx h63 hbytes hbase
  unfold Oper.wp execOp
  simp only [ho, resolve, invoke, builtin, Sem.run_bind, Sem.run_pure, Result.andThen_ok, List.map_toArray, List.map_cons, List.map_nil, hs, hxv, hr]
  exact h v' w' h2

theorem wpList_appI {ops : Array Oper} {rest : List Oper} {o : Oper} {a : Act} {Q : Exit → Act → World → Prop} (hgd : o.guard = none) (s x : Operand) (ho : o.op = .call { callee := .builtin .append, args := #[s, x], argTypes := #[t, tx] })
    (A : AppI P t e z size bytes) (hd : P.underlying tx = some .string ∨ ∃ u, P.underlying tx = some (.slice u)) (v : Value) (n : Nat) (xs : List Value) (hs : a.eval s = v) (hown : OwnR w base e size v n xs)
    (xv : Value) (hxv : a.eval x = xv) (m : Nat) (news : List Value) (hx : Src w xv m size news) (h63 : n + m ≤ maxLen) (hbytes : (n + m) * bytes ≤ 140737488355328) (hbase : base ≤ w.heap.size)
    (h : ∀ v' w', Appd w w' base e size v v' (n + m) (xs ++ news) → wpList P ops Q rest (a.put o.dst v') w') : wpList P ops Q (o :: rest) a w :=
  wpList_plain hgd fun _ hK => wp_appI s x ho A hd v n xs hs hown xv hxv m news hx h63 hbytes hbase fun v' w' h2 => hK _ _ (h v' w' h2)

theorem step_appI {ops : Array Oper} {o : Oper} {a : Act} {K : Act → World → Prop} {Q : Exit → Act → World → Prop} {E : Prop} (hgd : o.guard = none) (s x : Operand) (ho : o.op = .call { callee := .builtin .append, args := #[s, x], argTypes := #[t, tx] })
    (A : AppI P t e z size bytes) (hd : P.underlying tx = some .string ∨ ∃ u, P.underlying tx = some (.slice u)) (v : Value) (n : Nat) (xs : List Value) (hs : a.eval s = v) (hown : OwnR w base e size v n xs)
    (xv : Value) (hxv : a.eval x = xv) (m : Nat) (news : List Value) (hx : Src w xv m size news) (h63 : n + m ≤ maxLen) (hbytes : (n + m) * bytes ≤ 140737488355328) (hbase : base ≤ w.heap.size)
    (h : ∀ v' w', Appd w w' base e size v v' (n + m) (xs ++ news) → K (a.put o.dst v') w') :
    if Region.wanted o (yielded ops a.tmps) = true then Oper.wp P o a w K Q else E := by
  have hw : Region.wanted o (yielded ops a.tmps) = true := by simp [Region.wanted, hgd]
  rw [if_pos hw]
  exact wp_appI s x ho A hd v n xs hs hown xv hxv m news hx h63 hbytes hbase h
end

/-- A call of a Go function, as one step of a region that draws its order. -/
theorem step_callI {P : Program} {ops : Array Oper} {o : Oper} {a : Act} {w : World} {K : Act → World → Prop} {Q : Exit → Act → World → Prop} {E : Prop} (hgd : o.guard = none) (f : FuncId) (args : Array Operand) (ts : Array TypeId)
    (ho : o.op = .call { callee := .value (.func f), args := args, argTypes := ts }) (he : ∀ args w, (callFunc f args).run P w = .ok (.enter f args) w) (vals : Array Value) (hv : args.map a.eval = vals)
    (h : Calls P f vals w fun e w' => ∃ v, e = .returned v ∧ K (a.put o.dst v) w') :
    if Region.wanted o (yielded ops a.tmps) = true then Oper.wp P o a w K Q else E := by
  have hw : Region.wanted o (yielded ops a.tmps) = true := by simp [Region.wanted, hgd]
  rw [if_pos hw]
  subst hv
  unfold Oper.wp execOp
  simp only [ho, resolve, Act.eval, Deferred.ofValue, invoke, Sem.run_bind, Sem.run_pure, Result.andThen_ok, Array.append_empty, Array.empty_append, he]
  rw [Oper.upon_enter]
  refine h.mono fun e w' hh => ?_
  obtain ⟨v, rfl, hK⟩ := hh
  exact hK

/-! ### Bytes -/
theorem appB : AppI Tryd.prog 37 5 (.int .u8 0) 1 1 := ⟨Tryd.underlying37, by kernel_rfl, rfl, by decide⟩
theorem txB : Tryd.prog.underlying 37 = some .string ∨ ∃ u, Tryd.prog.underlying 37 = some (.slice u) := .inr ⟨_, Tryd.underlying37⟩
theorem txS : Tryd.prog.underlying 9 = some .string ∨ ∃ u, Tryd.prog.underlying 9 = some (.slice u) := .inl Tryd.underlying9
/-- v is owned, and reads as the bytes l. -/
def OwnB (w : World) (base : Nat) (v : Value) (l : Bs) : Prop := l.length ≤ 140737488355328 ∧ OwnR w base 5 1 v l.length (Lib.byteCells l)
theorem OwnB.nil {w : World} {base : Nat} : OwnB w base (.slice none 0 0) [] := ⟨Nat.zero_le _, OwnR.nil⟩
theorem OwnB.below {w w' : World} {base : Nat} {v : Value} {l : Bs} (h : OwnB w base v l) (hb : Below w.heap.size w w') : OwnB w' base v l := ⟨h.1, h.2.below hb⟩
theorem OwnB.reads {w : World} {base : Nat} {v : Value} {l : Bs} (h : OwnB w base v l) : Reads w v l := by
  refine ⟨h.1, ?_⟩
  rcases h.2.2 with ⟨rfl, hn⟩ | ⟨g, off, cap, cur, fr, rfl, hb, hg, _⟩
  · refine ⟨none, 0, by rw [hn], fun hl => ?_⟩
    exact absurd (List.eq_nil_of_length_eq_zero hn) hl
  · refine ⟨_, _, rfl, fun hl => ⟨g, off, rfl, (Array.getElem?_eq_some_iff.1 hg).1, fun j hj => ?_⟩⟩
    exact h.2.cells rfl j _ (by simp [Lib.byteCells, hj])
theorem bytes_append (a b : Bs) : Lib.byteCells (a ++ b) = Lib.byteCells a ++ Lib.byteCells b := by simp [Lib.byteCells]
theorem Appd.bytes {w w' : World} {base : Nat} {v v' : Value} {l m : Bs} (h : Appd w w' base 5 1 v v' (l.length + m.length) (Lib.byteCells l ++ Lib.byteCells m)) (hl : l.length + m.length ≤ 140737488355328) : OwnB w' base v' (l ++ m) := by
  refine ⟨by simpa using hl, ?_⟩
  rw [bytes_append, List.length_append]
  exact h.own

theorem nums_str (l : Bs) : strOfNums (l.map fun b => (b.toNat : Int)) = ⟨l.toArray⟩ := by
  unfold strOfNums
  congr 1
  simp [Function.comp_def]
/-- 'string(b)' of a slice that reads as l. -/
theorem run_string_of {w : World} {v : Value} {l : Bs} (h : Reads w v l) : (convert 37 9 v).run Tryd.prog w = .ok (str l) w := by
  obtain ⟨_, a, c, rfl, h2⟩ := h
  by_cases hl : l = []
  · subst hl
    cases a with
    | none => exact run_convert_bytes_nil w _ _ Tryd.underlying37 Tryd.underlying5 _ _ _ Tryd.underlying9
    | some ad =>
      rw [run_convert_bytes_string w _ _ _ (some ad) _ c Tryd.underlying37 Tryd.underlying5 Tryd.underlying9]
      simp [Conv.bytesToString, loadCells, loadCellsFrom]
      rfl
  · obtain ⟨b, o, rfl, _, h3⟩ := h2 hl
    have := run_convert_bytes_arg w _ _ Tryd.underlying37 Tryd.underlying5 b o l.length c (l.map fun b => (b.toNat : Int)) (by simp)
      (fun i hi => by rw [h3 i hi]; simp [hi]) _ Tryd.underlying9
    rw [this, nums_str]

/-! ### '[]byte(s)' -/
theorem below_bytesWorld (w : World) (e : TypeId) (s : ByteArray) : Below w.heap.size w (Lib.bytesWorld w e s) :=
  ⟨rfl, rfl, rfl, by rw [Lib.bytesWorld_size]; omega, fun k hk => Lib.bytesWorld_at_old w e s k hk⟩
theorem own_bytesWorld (w : World) (l : Bs) (hl : l.length ≤ 140737488355328) :
    OwnB (Lib.bytesWorld w 5 ⟨l.toArray⟩) w.heap.size (.slice (some ⟨w.heap.size, 0, none⟩) l.length (grownCap w l.length 0 5)) l := by
  have hge := grownCap_ge w l.length 0 5
  refine ⟨hl, by simp [Lib.byteCells], .inr ⟨w.heap.size, 0, _, _, _, rfl, Nat.le_refl _, Lib.bytesWorld_at_new w _ _, hge, grownCap_le_maxLen w _ _ _ (by unfold maxLen; omega), ?_, ?_, fun j hj h => by omega⟩⟩
  · have e1 : (⟨l.toArray⟩ : ByteArray).size = l.length := by simp [ByteArray.size]
    simp [Lib.bytesCells, e1]
    omega
  · have e1 : (⟨l.toArray⟩ : ByteArray).size = l.length := by simp [ByteArray.size]
    simp [Lib.bytesCells, Lib.byteCells]
/-- '[]byte(s)', as the walk meets it. -/
theorem run_bytes_of (w : World) (l : Bs) (hl : l.length ≤ 140737488355328) : ∃ v w', (convert 9 37 (str l)).run Tryd.prog w = .ok v w' ∧ OwnB w' w.heap.size v l ∧ Below w.heap.size w w' := by
  have e1 : (⟨l.toArray⟩ : ByteArray).size = l.length := by simp [ByteArray.size]
  have := Lib.run_convert_string_bytes (P := Tryd.prog) w 9 37 5 ⟨l.toArray⟩ Tryd.underlying9 Tryd.underlying37 Tryd.underlying5
  rw [e1] at this
  exact ⟨_, _, this, own_bytesWorld w l hl, below_bytesWorld w _ _⟩
/-- The string is short. -/
def Short (l : Bs) : Prop := l.length ≤ 140737488355328
@[go_sem high] theorem run_bytes_conv (w : World) (l : Bs) (_hl : Short l) : (convert 9 37 (str l)).run Tryd.prog w = .ok (.slice (some ⟨w.heap.size, 0, none⟩) l.length (grownCap w l.length 0 5)) (Lib.bytesWorld w 5 ⟨l.toArray⟩) := by
  have e1 : (⟨l.toArray⟩ : ByteArray).size = l.length := by simp [ByteArray.size]
  have := Lib.run_convert_string_bytes (P := Tryd.prog) w 9 37 5 ⟨l.toArray⟩ Tryd.underlying9 Tryd.underlying37 Tryd.underlying5
  rw [e1] at this
  exact this
theorem reads_bytesWorld (w : World) (l : Bs) (hl : Short l) : Reads (Lib.bytesWorld w 5 ⟨l.toArray⟩) (.slice (some ⟨w.heap.size, 0, none⟩) l.length (grownCap w l.length 0 5)) l := (own_bytesWorld w l hl).reads
theorem wp_bytesI {w : World} {o : Oper} {a : Act} {K : Act → World → Prop} {Q : Exit → Act → World → Prop} (x : Operand) (ho : o.op = .convert 9 37 x)
    (l : Bs) (hx : a.eval x = str l) (hl : l.length ≤ 140737488355328) (h : ∀ v w', OwnB w' w.heap.size v l → Below w.heap.size w w' → K (a.put o.dst v) w') : o.wp Tryd.prog a w K Q := by
  obtain ⟨v, w', hr, h1, h2⟩ := run_bytes_of w l hl
  unfold Oper.wp execOp
  simp only [ho, Sem.run_bind, Sem.run_pure, Result.andThen_ok, hx, hr]
  exact h v w' h1 h2
theorem wpList_bytesI {w : World} {ops : Array Oper} {rest : List Oper} {o : Oper} {a : Act} {Q : Exit → Act → World → Prop} (hgd : o.guard = none) (x : Operand) (ho : o.op = .convert 9 37 x)
    (l : Bs) (hx : a.eval x = str l) (hl : l.length ≤ 140737488355328) (h : ∀ v w', OwnB w' w.heap.size v l → Below w.heap.size w w' → wpList Tryd.prog ops Q rest (a.put o.dst v) w') : wpList Tryd.prog ops Q (o :: rest) a w :=
  wpList_plain hgd fun _ hK => wp_bytesI x ho l hx hl fun v' w' h1 h2 => hK _ _ (h v' w' h1 h2)
theorem step_bytesI {w : World} {ops : Array Oper} {o : Oper} {a : Act} {K : Act → World → Prop} {Q : Exit → Act → World → Prop} {E : Prop} (hgd : o.guard = none) (x : Operand) (ho : o.op = .convert 9 37 x)
    (l : Bs) (hx : a.eval x = str l) (hl : l.length ≤ 140737488355328) (h : ∀ v w', OwnB w' w.heap.size v l → Below w.heap.size w w' → K (a.put o.dst v) w') :
    if Region.wanted o (yielded ops a.tmps) = true then Oper.wp Tryd.prog o a w K Q else E := by
  have hw : Region.wanted o (yielded ops a.tmps) = true := by simp [Region.wanted, hgd]
  rw [if_pos hw]
  exact wp_bytesI x ho l hx hl h
end Go.Proofs.YtkankjblpmmikaaDoor.Hp
