/- The reader's bytes. -/
import Derived.Test.YtkankjblpmmikaaDoorScRd
import Derived.Shelf.Strings.SlTrimAscii
set_option linter.unusedSimpArgs false
set_option linter.unusedVariables false
namespace Go.Proofs.YtkankjblpmmikaaDoor.Sc
open Go.RowKit Hp

/-- 'strings.Trim' at the digits. -/
theorem trim_any (s : Bs) (hl : s.length ≤ 4194304) (w : World) :
    Calls Tryd.prog 40 #[str s, str digits] w fun e w' => e = .returned (str (Lib.trimS s digits)) ∧ Below w.heap.size w w' :=
  Any.strings_Trim_laid Tryd.lays160 (by kernel_rfl) ⟨s.toArray⟩ ⟨digits.toArray⟩ w (by simp [ByteArray.size]; omega) (by decide) (ascii_of_all (by decide))

theorem dropWhile_nil {p : UInt8 → Bool} : ∀ {l : Bs}, l.dropWhile p = [] → ∀ x ∈ l, p x = true
  | [], _, x, hx => by cases hx
  | a :: l, h, x, hx => by
    cases hp : p a with
    | false => rw [List.dropWhile_cons_of_neg (by simp [hp])] at h; cases h
    | true =>
      rw [List.dropWhile_cons_of_pos hp] at h
      rcases List.mem_cons.1 hx with rfl | hx
      · exact hp
      · exact dropWhile_nil h x hx
theorem trim_all {l : Bs} (h : Lib.trimS l digits = []) : ∀ x ∈ l, x ∈ digits := by
  intro x hx
  have h1 := dropWhile_nil (p := fun b => digits.contains b) (l := Lib.trimRightS l digits) h
  by_cases hr : Lib.trimRightS l digits = []
  · have h2 : l.reverse.dropWhile (digits.contains ·) = [] := by simpa [Lib.trimRightS] using hr
    simpa using dropWhile_nil h2 x (by simpa using hx)
  · exfalso
    have hne : l.reverse.dropWhile (digits.contains ·) ≠ [] := by simpa [Lib.trimRightS] using hr
    obtain ⟨a, t, e⟩ : ∃ a t, l.reverse.dropWhile (digits.contains ·) = a :: t := by
      cases hd : l.reverse.dropWhile (digits.contains ·) with
      | nil => exact absurd hd hne
      | cons a t => exact ⟨a, t, rfl⟩
    have hna : digits.contains a = false := by
      have := List.head?_dropWhile_not (p := (digits.contains ·)) (l := l.reverse)
      rw [e] at this
      simpa using this
    have := h1 a (by unfold Lib.trimRightS; rw [e]; simp)
    rw [hna] at this
    cases this
theorem unhex_snoc : ∀ (l : Bs) (a b : UInt8), l.length % 2 = 0 → unhex (l ++ [a, b]) = unhex l ++ [UInt8.ofNat (nib a * 16 + nib b)]
  | [], a, b, _ => rfl
  | [x], a, b, h => absurd h (by simp)
  | x :: y :: l, a, b, h => by
    have ih := unhex_snoc l a b (by simp only [List.length_cons] at h; omega)
    simp only [List.cons_append, unhex, ih]
theorem unhex_len : ∀ l : Bs, (unhex l).length ≤ l.length
  | [] => by simp [unhex]
  | [x] => by simp [unhex]
  | x :: y :: l => by have := unhex_len l; simp only [unhex, List.length_cons]; omega

theorem rbytes_bad {R : Rd} (h : okBytes (rnext R).1 = false) : rbytes R = ([], ⟨(rnext R).2.ws, true⟩) := by unfold rbytes; rw [h]; rfl
theorem rbytes_ok {R : Rd} (h : okBytes (rnext R).1 = true) : rbytes R = (unhex ((rnext R).1.drop 1), (rnext R).2) := by unfold rbytes; rw [h]; rfl
def strLen (v : Value) : Nat := match v with | .string b => b.size | _ => 0
theorem reads_nil (w : World) : Reads w (.slice none 0 0) [] := ⟨by simp, none, 0, rfl, fun h => absurd rfl h⟩

/-- A slice that reads as bytes, in a row of bytes. -/
def DataAt (w : World) (v : Value) (l : Bs) : Prop :=
  l.length ≤ 140737488355328 ∧ ∃ a c, v = .slice a l.length c ∧ (l ≠ [] → ∃ b o cur fr, a = some ⟨b, o, none⟩ ∧ w.heap[b]? = some (.cells cur 5 fr) ∧ ∀ j (h : j < l.length), cur[o + j]? = some (.int .u8 l[j].toNat))
theorem DataAt.reads {w : World} {v : Value} {l : Bs} (h : DataAt w v l) : Reads w v l := by
  obtain ⟨h1, a, c, rfl, h2⟩ := h
  refine ⟨h1, a, c, rfl, fun hl => ?_⟩
  obtain ⟨b, o, cur, fr, rfl, hb, hc⟩ := h2 hl
  refine ⟨b, o, rfl, (Array.getElem?_eq_some_iff.1 hb).1, fun j hj => ?_⟩
  rw [cell_of_row _ _ _ _ _ _ hb, hc j hj]
  simp [hj]
theorem DataAt.of_own {w : World} {B : Nat} {v : Value} {l : Bs} (h : OwnB w B v l) : DataAt w v l := by
  refine ⟨h.1, ?_⟩
  rcases h.2.2 with ⟨rfl, hn⟩ | ⟨g, off, cap, cur, fr, rfl, hb, hg, _, _, _, htake, _⟩
  · exact ⟨none, 0, by rw [hn], fun hl => absurd (List.eq_nil_of_length_eq_zero hn) hl⟩
  · refine ⟨_, _, rfl, fun hl => ⟨g, off, cur, fr, rfl, hg, fun j hj => ?_⟩⟩
    have h1 : (Lib.byteCells l)[j]? = some (.int .u8 l[j].toNat) := by simp [Lib.byteCells, hj]
    rw [← htake, List.getElem?_take] at h1
    split at h1
    · rw [List.getElem?_drop] at h1
      simpa using h1
    · cases h1
theorem DataAt.nil (w : World) : DataAt w (.slice none 0 0) [] := ⟨by simp, none, 0, rfl, fun h => absurd rfl h⟩

theorem ba_extract (l : Bs) (i j : Nat) : (⟨l.toArray⟩ : ByteArray).extract i j = ⟨((l.take j).drop i).toArray⟩ := by
  apply ByteArray.ext
  simp [ByteArray.data_extract, List.extract, List.drop_take]
theorem hexval {a b : UInt8} (ha : a ∈ digits) (hb : b ∈ digits) : (nib a : Int) * 16 + nib b = ((UInt8.ofNat (nib a * 16 + nib b)).toNat : Int) := by
  have h1 := nib_le (digit_cases a ha)
  have h2 := nib_le (digit_cases b hb)
  rw [UInt8.toNat_ofNat']
  omega
theorem own_row {w : World} {B : Nat} {v : Value} {l : Bs} (h : OwnB w B v l) : ∀ k, v.ownBlock = some k → B ≤ k ∧ ∃ cur fr, w.heap[k]? = some (.cells cur 5 fr) := by
  intro k hk
  refine ⟨(h.2.lt k hk).1, ?_⟩
  rcases h.2.2 with ⟨rfl, _⟩ | ⟨g, off, cap, cur, fr, rfl, _, hg, _⟩
  · simp [Value.ownBlock] at hk
  · simp [Value.ownBlock] at hk
    subst hk
    exact ⟨cur, fr, hg⟩
/-- An append to bytes of the call's own leaves the reader as it was. -/
theorem RdPost.grown {w w1 w2 : World} {B r : Nat} {R : Rd} {row : Option Nat} (h : RdPost w B r R w1) (hg : w1.grownBy w2 row) (hrow : ∀ k, row = some k → w.heap.size ≤ k ∧ ∃ cur fr, w1.heap[k]? = some (.cells cur 5 fr)) : RdPost w B r R w2 := by
  obtain ⟨h1, h2⟩ := h
  have hk : ∀ (k : Nat) (cs : Array Value) (tt : TypeId), w1.heap[k]? = some (.cells cs tt (0, 0)) → tt ≠ 5 → w2.heap[k]? = some (.cells cs tt (0, 0)) := by
    intro k cs tt hk ht
    refine (hg.block k (Array.getElem?_eq_some_iff.1 hk).1 (fun e => ?_)).trans hk
    obtain ⟨_, cur, fr, hc⟩ := hrow k e.symm
    rw [hk] at hc
    simp only [Option.some.injEq, Obj.cells.injEq] at hc
    exact ht hc.2.1
  obtain ⟨A, cap, hh, a1, a2, a3⟩ := h1.heap
  refine ⟨⟨h1.lo, Nat.le_trans h1.hi hg.size, h1.short, h1.few, A, cap, hk _ _ _ hh (by decide), a1, a2, fun hn => ?_⟩, ⟨hg.os.trans h2.os, hg.tape.trans h2.tape, hg.output.trans h2.output, Nat.le_trans h2.size hg.size, fun k hlt hne => ?_⟩⟩
  · obtain ⟨g, o, cur, e, hgg, hc⟩ := a3 hn
    exact ⟨g, o, cur, e, hk _ _ _ hgg (by decide), hc⟩
  · exact (hg.block k (Nat.lt_of_lt_of_le hlt h2.size) (fun e => by have := (hrow k e.symm).1; omega)).trans (h2.block k hlt hne)

set_option maxHeartbeats 1000000 in
theorem bytesR_any {w : World} {B r : Nat} {R : Rd} (h : RdAt w B r R) :
    Calls Tryd.prog 32 #[.pointer (some ⟨r, 0, none⟩)] w fun e w' => ∃ v, e = .returned v ∧ DataAt w' v (rbytes R).1 ∧ RdPost w B r (rbytes R).2 w' := by
  have hsh := rnext_short h
  go_enter Tryd.func32, Tryd.ntmps32
  go_wp2_with fail
  go_at_call 31
  refine (next_any h).mono ?_
  rintro e w1 ⟨rfl, h1, g1⟩
  have H1 := Lib.hid (And.intro h1 g1)
  generalize hS : (rnext R).1 = s at *
  generalize hR : (rnext R).2 = R1 at *
  have HSS := Lib.hid hS
  have HRR := Lib.hid hR
  obtain ⟨A, cap, hh, _⟩ := h1.heap
  have c1 : w1.cell? ⟨r, 1, none⟩ = some (.bool R1.bad) := by rw [Lib.cell_of_heap hh]; rfl
  have f1 : w1.frozen? ⟨r, 1, none⟩ = false := Lib.frozen_of_heap hh 1
  have H3 := Lib.hid (And.intro h1.setBad.1 (grown_trans g1 h1.setBad.2))
  clear h1 g1 h hS hR hh
  go_wp2_with fail
  go_at_call 39
  refine (Tryd.strings_CutPrefix ⟨s.toArray⟩ ⟨#[120]⟩ _).mono ?_
  rintro e w2 ⟨rfl, rfl⟩
  by_cases hp : Lib.hasPrefix s [120] = true
  · have ht : Lib.trimPrefix s [120] = s.drop 1 := by unfold Lib.trimPrefix; rw [if_pos hp]; rfl
    simp only [List.toList_toArray, hp, ht]
    generalize hT : s.drop 1 = t at *
    have htl : t.length ≤ 4194304 := by rw [← hT, List.length_drop]; omega
    have HTT := Lib.hid hT
    have HOK : Hid (okBytes s = ((t.length % 2 == 0) && (Lib.trimS t digits).isEmpty)) := Lib.hid (by unfold okBytes; rw [hp, hT]; simp)
    clear hp ht hT
    by_cases hev : t.length % 2 = 0
    · have he1 : (!((t.length : Int) % 2 == 0)) = false := by simp; omega
      have he2 : (((t.length : Int) % 2 != 0)) = false := by simp; omega
      go_wp2_with fail
      go_at_call 40
      refine (trim_any t htl _).mono ?_
      rintro e w3 ⟨rfl, hb3⟩
      cases htr : Lib.trimS t digits with
      | cons a l =>
        have HR0 : Hid (rbytes R = ([], ⟨R1.ws, true⟩)) := Lib.hid (by rw [rbytes_bad (by rw [HSS.out, HOK.out, htr]; simp), HRR.out])
        have h3 := H1.out.1.next hb3
        have H4 := Lib.hid (And.intro h3.setBad.1 (grown_trans (grown_trans H1.out.2 (grown_below hb3 (some r))) h3.setBad.2))
        obtain ⟨A3, cap3, hh3, _⟩ := h3.heap
        have c3 : w3.cell? ⟨r, 1, none⟩ = some (.bool R1.bad) := by rw [Lib.cell_of_heap hh3]; rfl
        have f3 : w3.frozen? ⟨r, 1, none⟩ = false := Lib.frozen_of_heap hh3 1
        clear htr HOK hb3 h3 hh3 H3
        go_wp2_with fail
        go_ret
        exact ⟨_, rfl, by rw [HR0.out]; exact DataAt.nil _, by rw [HR0.out]; exact H4.out⟩
      | nil =>
        have HR0 : Hid (rbytes R = (unhex t, R1)) := Lib.hid (by rw [rbytes_ok (by rw [HSS.out, HOK.out, htr]; simp [hev]), HRR.out, HSS.out, HTT.out])
        have HALL := Lib.hid (trim_all htr)
        have H4 := Lib.hid (And.intro (H1.out.1.next hb3) (grown_trans H1.out.2 (grown_below hb3 (some r))))
        have hev2 := Lib.hid hev
        clear htr HOK hb3 H3 he1 he2 hev
        go_wp2_with fail
        go_loopw [3, 5] (fun s v wr => ∃ done rest : Bs, s = str rest ∧ Veil (t = done ++ rest ∧ done.length % 2 = 0) ∧ done.length + rest.length ≤ 4194304 ∧ OwnB wr w.heap.size v (unhex done) ∧ Veil (RdPost w B r R1 wr)) (fun s _ _ => strLen s)
        case atStart => exact ⟨[], t, rfl, ⟨rfl, rfl⟩, by simpa using htl, OwnB.nil, ⟨H4.out⟩⟩
        case round =>
          obtain ⟨done, rest, rfl, hd, hlen, hown, hpost⟩ := hrel
          match rest, hd, hlen with
          | [], hd, hlen =>
            have HRD := Lib.hid (DataAt.of_own hown)
            have hdt : t = done := by simpa using hd.out.1
            have HDT := Lib.hid hdt
            clear hown hdt hd
            go_wp2_with fail
            go_ret
            exact ⟨_, rfl, by rw [HR0.out, HDT.out]; exact HRD.out, by rw [HR0.out]; exact hpost.out⟩
          | [a], hd, hlen =>
            exfalso
            obtain ⟨h1, h2⟩ := hd.out
            have h3 := hev2.out
            rw [h1, List.length_append, List.length_singleton] at h3
            omega
          | a :: b :: rest, hd, hlen =>
            have ha : a ∈ digits := HALL.out a (by rw [hd.out.1]; simp)
            have hb : b ∈ digits := HALL.out b (by rw [hd.out.1]; simp)
            obtain ⟨c, hc⟩ : ∃ c, c = UInt8.ofNat (nib a * 16 + nib b) := ⟨_, rfl⟩
            have hv := hexval ha hb
            rw [← hc] at hv
            have hc256 := c.toNat_lt
            have hx1 : (⟨(a :: b :: rest).toArray⟩ : ByteArray).extract 0 2 = ⟨[a, b].toArray⟩ := by rw [ba_extract]; rfl
            have hx2 : (⟨(a :: b :: rest).toArray⟩ : ByteArray).extract 2 (rest.length + 1 + 1) = ⟨rest.toArray⟩ := by rw [ba_extract]; simp
            have hrel2 : Veil ((t = (done ++ [a, b]) ++ rest ∧ (done ++ [a, b]).length % 2 = 0) ∧ unhex (done ++ [a, b]) = unhex done ++ [c]) := ⟨⟨by rw [hd.out.1]; simp, by have := hd.out.2; simp only [List.length_append, List.length_cons, List.length_nil]; omega⟩, by rw [unhex_snoc _ _ _ hd.out.2, hc]⟩
            have hul := unhex_len done
            have HV := Lib.hid hv
            have HOWN := Lib.hid hown
            simp only [List.length_cons] at hlen
            clear hd hown hc hv
            go_wp2_with fail
            go_at_call 41
            refine (parseHex_any a b ha hb _).mono ?_
            rw [HV.out]
            rintro e x1 ⟨rfl, hbx⟩
            have hB1 := hbx.alloc (Nat.le_trans (Nat.le_refl _) hbx.size) (.cells #[.int .u8 c.toNat] 5)
            have hown1 := HOWN.out.below hB1
            have hp1 : RdPost w B r R1 (x1.alloc (.cells #[.int .u8 c.toNat] 5)) := ⟨hpost.out.1.next hB1, grown_trans hpost.out.2 (grown_below hB1 (some r))⟩
            have hsz := hp1.2.size
            have HP1 := Lib.hid hp1
            clear hpost HOWN hB1 hbx hp1 ha hb
            go_wp2_with (at_builtin; refine wpList_appI rfl _ _ rfl appB txB _ _ _ rfl hown1.2 _ rfl 1 (Lib.byteCells [c]) (Src.ofBlock 1 1 1 rfl (byteCells_one _) (by exact heap_alloc_new x1 _)) (by unfold maxLen; omega) (by omega) hsz ?_; intro v' w4 hA)
            have hO := Appd.bytes (l := unhex done) (m := [c]) hA (by simp only [List.length_cons, List.length_nil]; omega)
            rw [← hrel2.out.2] at hO
            have hg4 : (x1.alloc (.cells #[.int .u8 c.toNat] 5)).heap.size ≤ w4.heap.size := hA.grown.size
            have hp4 : Veil (RdPost w B r R1 w4) := ⟨HP1.out.grown hA.grown (own_row hown1)⟩
            clear hA hown1 HP1
            go_wp2_with fail
            go_roundw
            case rel => exact ⟨done ++ [a, b], rest, rfl, ⟨hrel2.out.1⟩, by simp only [List.length_append, List.length_cons, List.length_nil]; omega, hO, hp4⟩
            case measure => simp [strLen, ByteArray.size]; omega
    · have HR0 : Hid (rbytes R = ([], ⟨R1.ws, true⟩)) := Lib.hid (by rw [rbytes_bad (by rw [HSS.out, HOK.out]; simp; omega), HRR.out])
      have he2 : (((t.length : Int) % 2 != 0)) = true := by simp; omega
      clear hev HOK
      go_wp2_with fail
      go_ret
      exact ⟨_, rfl, by rw [HR0.out]; exact DataAt.nil _, by rw [HR0.out]; exact H3.out⟩
  · have hp' : Lib.hasPrefix s [120] = false := by simpa using hp
    have HR0 : Hid (rbytes R = ([], ⟨R1.ws, true⟩)) := Lib.hid (by rw [rbytes_bad (by rw [HSS.out]; unfold okBytes; rw [hp']; rfl), HRR.out])
    have ht : Lib.trimPrefix s [120] = s := by unfold Lib.trimPrefix; rw [if_neg hp]
    simp only [List.toList_toArray, hp', ht]
    clear hp hp' ht
    go_wp2_with fail
    go_ret
    exact ⟨_, rfl, by rw [HR0.out]; exact DataAt.nil _, by rw [HR0.out]; exact H3.out⟩
end Go.Proofs.YtkankjblpmmikaaDoor.Sc
