/- The arguments of the script's laws, opened: what their reading as data gives of the cells. -/
import Derived.Test.YtkankjblpmmikaaDoorScLaw
import Derived.Deep.Slices
import Derived.Deep.Fields
import Derived.SliceStrings
import Derived.SizedLaws
import Derived.OpenShut
import Derived.ChangeSame
set_option linter.unusedSimpArgs false
set_option linter.unusedVariables false
namespace Go.Proofs.YtkankjblpmmikaaDoor.Sc
open Go.RowKit Go.ChangeShapes Go.WideShapes Go.Deep Hp

theorem block_lt {w : World} {a : Addr} {v : Value} (h : w.cell? a = some v) : a.block < w.heap.size := by
  rcases Nat.lt_or_ge a.block w.heap.size with h' | h'
  · exact h'
  · simp [World.cell?, Array.getElem?_eq_none h'] at h
theorem str_bytes (s : ByteArray) : Value.string s = str s.data.toList := by
  cases s; simp [str]
theorem many_le {n b : Nat} (h : n * b ≤ reachBytes) (hb : 0 < b) : n ≤ 140737488355328 := by
  have h1 : n ≤ n * b := Nat.le_mul_of_pos_right n hb
  have h2 : reachBytes < 2 ^ 47 := reachBytes_lt
  omega
instance : Inhabited Rt := ⟨⟨[], [], 0⟩⟩
instance : Inhabited Ac := ⟨⟨0, 0, 0, []⟩⟩

section
variable {H : Type} {enc : TypeId × Value → H} {P : Program} {w : World} {base : Nat} {spare : Nat → Bool} {held : Bool}

/-- A datum all of whose parts are within the form's own reach. -/
def Fit (P : Program) (t : TypeId) (d : DataW H) : Prop := ∀ n ∈ d.weights P t, n ≤ reachBytes
theorem fit_of {ts : List TypeId} {ds : List (DataW H)} (h : (DataW.weightsEach P ts ds).all (· ≤ reachBytes) = true) {j : Nat} {t : TypeId} {d : DataW H} (ht : ts[j]? = some t) (hd : ds[j]? = some d) : Fit P t d := fun n hn => by
  simpa using List.all_eq_true.1 h n (DataW.weights_mem_each ht hd n hn)
theorem weightsAll_of {e : TypeId} : ∀ {l : List (DataW H)} {d : DataW H}, d ∈ l → ∀ n ∈ d.weights P e, n ∈ DataW.weightsAll P e l
  | [], _, h, _, _ => by cases h
  | d0 :: r, d, h, n, hn => by
    simp only [DataW.weightsAll, List.mem_append]
    rcases List.mem_cons.1 h with rfl | h
    · exact .inl hn
    · exact .inr (weightsAll_of h n hn)
theorem Fit.slice {t e : TypeId} {es sp : List (DataW H)} (hu : P.underlying t = some (.slice e)) (h : Fit P t (.slice es sp)) :
    (es.length + sp.length) * P.bytesOf e ≤ reachBytes ∧ (∀ d ∈ es, Fit P e d) ∧ ∀ d ∈ sp, Fit P e d := by
  unfold Fit at h
  simp only [DataW.weights, hu, List.mem_cons, List.mem_append] at h
  exact ⟨h _ (.inl rfl), fun d hd n hn => h n (.inr (.inl (weightsAll_of hd n hn))), fun d hd n hn => h n (.inr (.inr (weightsAll_of hd n hn)))⟩
theorem Fit.field {t : TypeId} {fs : Array Field} {parts : List (DataW H)} (hu : P.underlying t = some (.struct fs)) (h : Fit P t (.agg parts)) {j : Nat} {f : Field} {d : DataW H} (hf : fs[j]? = some f) (hd : parts[j]? = some d) : Fit P f.type d := by
  intro n hn
  refine h n ?_
  simp only [DataW.weights, hu]
  exact DataW.weights_mem_each (j := j) (by simp [hf]) hd n hn
theorem Fit.string {t : TypeId} {bytes : List UInt8} (h : Fit P t (.lit (.string bytes) : DataW H)) : bytes.length ≤ 140737488355328 := by
  have h1 := h bytes.length (by simp [DataW.weights])
  have h2 : reachBytes < 2 ^ 47 := reachBytes_lt
  omega

/-- A slice of structs, each field of one cell: every element's every cell. -/
theorem open_fields {t e : TypeId} {fs : Array Field} {fuel : Nat} {cs : List Value} {x : DataW H × List MemPlace} (ht : P.underlying t = some (.slice e)) (he : P.underlying e = some (.struct fs))
    (hone : oneCellFields P fs = true) (hC : P.cellsOf e = fs.size) (h : DataW.trod enc P w base spare held fuel t cs = some x) :
    (cs = [.slice none 0 0] ∧ x = (.nil, [])) ∨
    ∃ (a : Addr) (len cap m : Nat) (D : Nat → DataW H) (ps : List MemPlace), cs = [.slice (some a) len cap] ∧ len ≤ m ∧
      x = (.slice ((List.range len).map D) ((List.range (m - len)).map fun j => D (len + j)), ps) ∧
      ∀ i, i < m → ∃ (ys : List (DataW H × List MemPlace)) (n : Nat), D i = .agg (ys.map (·.1)) ∧ ys.length = fs.size ∧
        ∀ (j : Nat) (f : Field), fs[j]? = some f → ∃ (v : Value) (y : DataW H × List MemPlace), w.cell? (a.add (i * fs.size + j)) = some v ∧ ys[j]? = some y ∧ DataW.trod enc P w base spare held n f.type [v] = some y := by
  rcases open_slice ht h with h0 | ⟨a, len, cap, m, n, D, Pl, hcs, hb, hl, hm, hmm, hx, hi⟩
  · exact .inl h0
  · refine .inr ⟨a, len, cap, m, D, _, hcs, by rw [hmm]; split <;> omega, hx, fun i him => ?_⟩
    obtain ⟨cs', hc, ht'⟩ := hi i him
    rw [hC] at hc
    obtain ⟨ys, n', hn', hy, hlen, hyl, hf⟩ := DataW.trod_struct he ht'
    obtain ⟨_, hcl, hat⟩ := World.cells?_some hc
    simp only [Prod.mk.injEq] at hy
    refine ⟨ys, n', hy.1, hyl, fun j f hj => ?_⟩
    obtain ⟨ho, hk⟩ := hone_of hone j f hj
    have hjl : j < fs.size := (Array.getElem?_eq_some_iff.1 hj).1
    have hcell := hat j hjl
    have hv : cs'[j]? = some (cs'[j]'(by omega)) := List.getElem?_eq_getElem (by omega)
    have h1 := hf j f hj
    rw [ho, hk] at h1
    have hone' : (cs'.drop j).take 1 = [cs'[j]'(by omega)] := by
      rw [List.drop_eq_getElem_cons (by omega)]
      rfl
    rw [hone'] at h1
    have hys : ys[j]? = some (ys[j]'(by omega)) := List.getElem?_eq_getElem (by omega)
    refine ⟨_, _, ?_, hys, h1.trans hys⟩
    rw [← Go.Deep.add_add, hcell, hv]

theorem u8_back {z : Int} (h : (Lit.int .u8 z).wf = true) : ((UInt8.ofNat z.toNat).toNat : Int) = z := by
  have := bounds_u8 h
  simp only [UInt8.toNat_ofNat']
  omega
theorem reads_of {t e : TypeId} {n : Nat} {v : Value} {y : DataW H × List MemPlace} (ht : P.underlying t = some (.slice e)) (he : P.underlying e = some (.int .u8)) (hc : P.cellsOf e = 1) (hb : 0 < P.bytesOf e)
    (h : DataW.trod enc P w base spare held n t [v] = some y) (hf : Fit P t y.1) : ∃ l : Bs, Reads w v l := by
  rcases open_ints ht he hc h with ⟨hcs, hx⟩ | ⟨a, len, cap, zs, hcs, _, hl, _, hz, rfl, hcell, hwf⟩
  · obtain rfl : v = .slice none 0 0 := by simpa using hcs
    exact ⟨[], by decide, none, 0, rfl, fun h => absurd rfl h⟩
  · obtain rfl : v = .slice (some a) len cap := by simpa using hcs
    have hle : len ≤ zs.length := by rw [hz]; split <;> omega
    have hs := many_le (Fit.slice ht hf).1 hb
    simp only [lits, List.length_map, List.length_take, List.length_drop] at hs
    have hlen : ((zs.take len).map fun z => UInt8.ofNat z.toNat).length = len := by simp; omega
    refine ⟨(zs.take len).map fun z => UInt8.ofNat z.toNat, by omega, some a, cap, by rw [hlen], fun hne => ?_⟩
    have hp : 0 < len := by
      rcases Nat.eq_zero_or_pos len with h0 | h0
      · subst h0; simp at hne
      · exact h0
    obtain ⟨b, o, rfl, hat⟩ := ints_at hcell (by omega)
    refine ⟨b, o, rfl, block_lt (hat 0 (by omega)), fun j hj => ?_⟩
    rw [hlen] at hj
    rw [hat j (by omega)]
    have hj' : zs[j]? = some (zs[j]'(by omega)) := List.getElem?_eq_getElem (by omega)
    have hw := u8_back (hwf (zs[j]'(by omega)) (List.getElem_mem _))
    simp only [List.getD, List.getElem?_map, List.getElem?_take, if_pos hj, hj', Option.map_some, Option.getD_some]
    rw [hw]

theorem routes_of {t e : TypeId} {f0 f1 f2 : Field} {n : Nat} {v : Value} {y : DataW H × List MemPlace} (ht : P.underlying t = some (.slice e)) (he : P.underlying e = some (.struct #[f0, f1, f2])) (hone : oneCellFields P #[f0, f1, f2] = true)
    (hC : P.cellsOf e = 3) (hb : 0 < P.bytesOf e) (h0 : P.underlying f0.type = some .string) (h1 : P.underlying f1.type = some .string) (h2 : P.underlying f2.type = some (.int .i64))
    (h : DataW.trod enc P w base spare held n t [v] = some y) (hf : Fit P t y.1) :
    ∃ rs : List Rt, RowAt w v rs.length 3 (rtCell rs) ∧ (∀ r ∈ rs, r.host.length ≤ 140737488355328 ∧ r.pre.length ≤ 140737488355328) ∧ ∀ r ∈ rs, InR r.up := by
  rcases open_fields ht he hone hC h with ⟨hcs, hx⟩ | ⟨a, len, cap, m, D, ps, hcs, hl, rfl, hi⟩
  · obtain rfl : v = .slice none 0 0 := by simpa using hcs
    exact ⟨[], ⟨by decide, none, 0, rfl, fun h => absurd h (by decide)⟩, (fun r hr => by cases hr), (fun r hr => by cases hr)⟩
  · obtain rfl : v = .slice (some a) len cap := by simpa using hcs
    obtain ⟨hs, hs1, _⟩ := Fit.slice ht hf
    have hs := many_le hs hb
    simp only [List.length_map, List.length_range] at hs
    have one : ∀ i, i < len → ∃ r : Rt, (w.cell? (a.add (i * 3 + 0)) = some (str r.host) ∧ w.cell? (a.add (i * 3 + 1)) = some (str r.pre) ∧ w.cell? (a.add (i * 3 + 2)) = some (.int .i64 r.up)) ∧ (r.host.length ≤ 140737488355328 ∧ r.pre.length ≤ 140737488355328) ∧ InR r.up := by
      intro i hil
      obtain ⟨ys, n', hD, hyl, hf'⟩ := hi i (by omega)
      have hfit : Fit P e (D i) := hs1 _ (List.mem_map.2 ⟨i, List.mem_range.2 hil, rfl⟩)
      rw [hD] at hfit
      obtain ⟨v0, y0, c0, e0, t0⟩ := hf' 0 f0 rfl
      obtain ⟨v1, y1, c1, e1, t1⟩ := hf' 1 f1 rfl
      obtain ⟨v2, y2, c2, e2, t2⟩ := hf' 2 f2 rfl
      obtain ⟨s0, hs0, rfl, _⟩ := DataW.trod_string h0 t0
      obtain ⟨s1, hs1, rfl, _⟩ := DataW.trod_string h1 t1
      obtain ⟨z, hz, rfl, hw⟩ := DataW.trod_int h2 t2
      obtain rfl : v0 = .string s0 := by simpa using hs0
      obtain rfl : v1 = .string s1 := by simpa using hs1
      obtain rfl : v2 = .int .i64 z := by simpa using hz
      have l0 := (hfit.field he (j := 0) (f := f0) rfl (by rw [List.getElem?_map, e0]; rfl)).string
      have l1 := (hfit.field he (j := 1) (f := f1) rfl (by rw [List.getElem?_map, e1]; rfl)).string
      exact ⟨⟨s0.data.toList, s1.data.toList, z⟩, ⟨by rw [← str_bytes]; exact c0, by rw [← str_bytes]; exact c1, c2⟩, ⟨l0, l1⟩, bounds_i64 hw⟩
    obtain ⟨R, hR⟩ := choose_lt one
    have hlen : ((List.range len).map R).length = len := by simp
    refine ⟨(List.range len).map R, ⟨by omega, some a, cap, by rw [hlen], fun hp => ?_⟩, fun r hr => ?_, fun r hr => ?_⟩
    · rw [hlen] at hp
      obtain ⟨b, o, spot⟩ := a
      have hspot : spot = none := by simpa [Addr.add] using World.cell?_spot (hR 0 hp).1.1
      subst hspot
      refine ⟨b, o, rfl, ?_, fun i j hi hj => ?_⟩
      · have hb := block_lt (hR 0 hp).1.1
        rw [Go.WideShapes.add_plain] at hb
        exact hb
      · rw [hlen] at hi
        obtain ⟨⟨k0, k1, k2⟩, _⟩ := hR i hi
        rw [Go.WideShapes.add_plain, ← Nat.add_assoc] at k0 k1 k2
        have hget : ((List.range len).map R)[i]? = some (R i) := by simp [hi]
        match j, hj with
        | 0, _ => rw [k0]; simp only [rtCell, hget, Option.map_some, Option.getD_some]
        | 1, _ => rw [k1]; simp only [rtCell, hget, Option.map_some, Option.getD_some]
        | 2, _ => rw [k2]; simp only [rtCell, hget, Option.map_some, Option.getD_some]
    · obtain ⟨i, hi, rfl⟩ := List.mem_map.1 hr
      exact (hR i (List.mem_range.1 hi)).2.1
    · obtain ⟨i, hi, rfl⟩ := List.mem_map.1 hr
      exact (hR i (List.mem_range.1 hi)).2.2

theorem types_of {t e : TypeId} {n : Nat} {v : Value} {y : DataW H × List MemPlace} (ht : P.underlying t = some (.slice e)) (he : P.underlying e = some .string) (hc : P.cellsOf e = 1) (hb : 0 < P.bytesOf e)
    (h : DataW.trod enc P w base spare held n t [v] = some y) (hf : Fit P t y.1) : ∃ ts : List Bs, RowAt w v ts.length 1 (tyCell ts) ∧ ∀ t ∈ ts, t.length ≤ 140737488355328 := by
  rcases open_strings ht he hc h with ⟨hcs, hx⟩ | ⟨a, len, cap, ss, hcs, _, hl, _, hz, rfl, hcell, _⟩
  · obtain rfl : v = .slice none 0 0 := by simpa using hcs
    exact ⟨[], ⟨by decide, none, 0, rfl, fun h => absurd h (by decide)⟩, (fun r hr => by cases hr)⟩
  · obtain rfl : v = .slice (some a) len cap := by simpa using hcs
    have hle : len ≤ ss.length := by rw [hz]; split <;> omega
    obtain ⟨hs, hs1, _⟩ := Fit.slice ht hf
    have hs := many_le hs hb
    simp only [strs, List.length_map, List.length_take, List.length_drop] at hs
    have hlen : ((ss.take len).map fun s => s.data.toList).length = len := by simp; omega
    refine ⟨(ss.take len).map fun s => s.data.toList, ⟨by omega, some a, cap, by rw [hlen], fun hp => ?_⟩, fun r hr => ?_⟩
    · rw [hlen] at hp
      obtain ⟨b, o, spot⟩ := a
      have hspot : spot = none := by simpa [Addr.add] using World.cell?_spot (hcell 0 (by omega))
      subst hspot
      refine ⟨b, o, rfl, ?_, fun i j hi hj => ?_⟩
      · have hb := block_lt (hcell 0 (by omega))
        rw [Go.WideShapes.add_plain] at hb
        exact hb
      · rw [hlen] at hi
        obtain rfl : j = 0 := by omega
        have k0 := hcell i (by omega)
        rw [Go.WideShapes.add_plain] at k0
        have hi' : ss[i]? = some (ss[i]'(by omega)) := List.getElem?_eq_getElem (by omega)
        rw [Nat.mul_one, Nat.add_zero, k0]
        simp only [tyCell, List.getElem?_map, List.getElem?_take, if_pos hi, hi', Option.map_some, Option.getD_some, List.getD]
    · obtain ⟨s, hs', rfl⟩ := List.mem_map.1 hr
      exact (hs1 _ (List.mem_map.2 ⟨s, hs', rfl⟩)).string

theorem acts_of {t e tb : TypeId} {f0 f1 f2 f3 : Field} {n : Nat} {v : Value} {y : DataW H × List MemPlace} (ht : P.underlying t = some (.slice e)) (he : P.underlying e = some (.struct #[f0, f1, f2, f3])) (hone : oneCellFields P #[f0, f1, f2, f3] = true)
    (hC : P.cellsOf e = 4) (hb : 0 < P.bytesOf e) (h0 : P.underlying f0.type = some (.int .i64)) (h1 : P.underlying f1.type = some (.int .i64)) (h2 : P.underlying f2.type = some (.int .i64)) (h3 : P.underlying f3.type = some (.slice tb)) (h4 : P.underlying tb = some (.int .u8)) (h5 : P.cellsOf tb = 1) (h6 : 0 < P.bytesOf tb)
    (h : DataW.trod enc P w base spare held n t [v] = some y) (hf : Fit P t y.1) : ∃ al : List Ac, AcAt w v al ∧ ∀ a ∈ al, InR a.kind ∧ InR a.conn ∧ InR a.n := by
  rcases open_fields ht he hone hC h with ⟨hcs, hx⟩ | ⟨a, len, cap, m, D, ps, hcs, hl, rfl, hi⟩
  · obtain rfl : v = .slice none 0 0 := by simpa using hcs
    exact ⟨[], ⟨fun _ => .slice none 0 0, ⟨by decide, none, 0, rfl, fun h => absurd h (by decide)⟩, fun i hi => absurd hi (Nat.not_lt_zero _)⟩, (fun r hr => by cases hr)⟩
  · obtain rfl : v = .slice (some a) len cap := by simpa using hcs
    obtain ⟨hs, hs1, _⟩ := Fit.slice ht hf
    have hs := many_le hs hb
    simp only [List.length_map, List.length_range] at hs
    have one : ∀ i, i < len → ∃ r : Ac × Value, (w.cell? (a.add (i * 4 + 0)) = some (.int .i64 r.1.kind) ∧ w.cell? (a.add (i * 4 + 1)) = some (.int .i64 r.1.conn) ∧ w.cell? (a.add (i * 4 + 2)) = some (.int .i64 r.1.n) ∧ w.cell? (a.add (i * 4 + 3)) = some r.2) ∧ Reads w r.2 r.1.data ∧ (InR r.1.kind ∧ InR r.1.conn ∧ InR r.1.n) := by
      intro i hil
      obtain ⟨ys, n', hD, hyl, hf'⟩ := hi i (by omega)
      have hfit : Fit P e (D i) := hs1 _ (List.mem_map.2 ⟨i, List.mem_range.2 hil, rfl⟩)
      rw [hD] at hfit
      obtain ⟨v0, y0, c0, e0, t0⟩ := hf' 0 f0 rfl
      obtain ⟨v1, y1, c1, e1, t1⟩ := hf' 1 f1 rfl
      obtain ⟨v2, y2, c2, e2, t2⟩ := hf' 2 f2 rfl
      obtain ⟨v3, y3, c3, e3, t3⟩ := hf' 3 f3 rfl
      obtain ⟨z0, hz0, _, w0⟩ := DataW.trod_int h0 t0
      obtain ⟨z1, hz1, _, w1⟩ := DataW.trod_int h1 t1
      obtain ⟨z2, hz2, _, w2⟩ := DataW.trod_int h2 t2
      obtain rfl : v0 = .int .i64 z0 := by simpa using hz0
      obtain rfl : v1 = .int .i64 z1 := by simpa using hz1
      obtain rfl : v2 = .int .i64 z2 := by simpa using hz2
      obtain ⟨l, hl⟩ := reads_of h3 h4 h5 h6 t3 (hfit.field he (j := 3) (f := f3) rfl (by rw [List.getElem?_map, e3]; rfl))
      exact ⟨(⟨z0, z1, z2, l⟩, v3), ⟨c0, c1, c2, c3⟩, hl, bounds_i64 w0, bounds_i64 w1, bounds_i64 w2⟩
    have one' : ∃ R : Nat → Ac × Value, ∀ i, i < len → (w.cell? (a.add (i * 4 + 0)) = some (.int .i64 (R i).1.kind) ∧ w.cell? (a.add (i * 4 + 1)) = some (.int .i64 (R i).1.conn) ∧ w.cell? (a.add (i * 4 + 2)) = some (.int .i64 (R i).1.n) ∧ w.cell? (a.add (i * 4 + 3)) = some (R i).2) ∧ Reads w (R i).2 (R i).1.data ∧ (InR (R i).1.kind ∧ InR (R i).1.conn ∧ InR (R i).1.n) :=
      haveI : Inhabited (Ac × Value) := ⟨(default, .bool true)⟩
      choose_lt one
    obtain ⟨R, hR⟩ := one'
    have hlen : ((List.range len).map fun i => (R i).1).length = len := by simp
    refine ⟨(List.range len).map fun i => (R i).1, ⟨fun i => (R i).2, ⟨by omega, some a, cap, by rw [hlen], fun hp => ?_⟩, fun i hi => ?_⟩, fun r hr => ?_⟩
    · rw [hlen] at hp
      obtain ⟨b, o, spot⟩ := a
      have hspot : spot = none := by simpa [Addr.add] using World.cell?_spot (hR 0 hp).1.1
      subst hspot
      refine ⟨b, o, rfl, ?_, fun i j hi hj => ?_⟩
      · have hb := block_lt (hR 0 hp).1.1
        rw [Go.WideShapes.add_plain] at hb
        exact hb
      · rw [hlen] at hi
        obtain ⟨⟨k0, k1, k2, k3⟩, _⟩ := hR i hi
        rw [Go.WideShapes.add_plain, ← Nat.add_assoc] at k0 k1 k2 k3
        have hget : ((List.range len).map fun i => (R i).1)[i]? = some (R i).1 := by simp [hi]
        match j, hj with
        | 0, _ => rw [k0]; simp only [acCell, hget, Option.map_some, Option.getD_some]
        | 1, _ => rw [k1]; simp only [acCell, hget, Option.map_some, Option.getD_some]
        | 2, _ => rw [k2]; simp only [acCell, hget, Option.map_some, Option.getD_some]
        | 3, _ => rw [k3]; simp only [acCell]
    · rw [hlen] at hi
      have hget : ((List.range len).map fun i => (R i).1)[i]? = some (R i).1 := by simp [hi]
      rw [hget]
      exact (hR i hi).2.1
    · obtain ⟨i, hi, rfl⟩ := List.mem_map.1 hr
      exact (hR i (List.mem_range.1 hi)).2.2
end
end Go.Proofs.YtkankjblpmmikaaDoor.Sc
