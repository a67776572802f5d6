/- The walks of the program's looks at numbers and at sizes. -/
import Derived.Test.YtkankjblpmmikaaDoorScRef
import Derived.Test.YtkankjblpmmikaaDoorScLight
import Derived.Deep.DeepCutAuto
set_option linter.unusedSimpArgs false
set_option linter.unusedVariables false
namespace Go.Proofs.YtkankjblpmmikaaDoor.Sc
open Go.RowKit Hp

def five (c : Cf) : Bool := decide (c.level < 0) || decide (c.minSize < 0) || decide (c.cap < 0) || decide (c.buffer < 0) || decide (c.timeout < 0)
def rtNeg (r : Rt) : Bool := decide (r.up < 0)
def acNeg (a : Ac) : Bool := decide (a.kind < 0) || decide (a.conn < 0) || decide (a.n < 0)
theorem below_eq (c : Cf) (al : List Ac) : below c al = (five c || c.routes.any rtNeg || al.any acNeg) := rfl
theorem any_step {α : Type} {l : List α} {k : Nat} (h : k < l.length) (f : α → Bool) : (l.take (k + 1)).any f = ((l.take k).any f || f l[k]) := by
  rw [List.take_succ_eq_append_getElem h, List.any_append]; simp

set_option maxRecDepth 100000 in
set_option maxHeartbeats 1600000 in
theorem scBelow_any (vr vt va : Value) (c : Cf) (al : List Ac) (w : World) (hc : CfAt w vr vt c) (ha : AcAt w va al) :
    Calls Tryd.prog 12 #[cfVal vr vt c, va] w fun e w' => e = .returned (.bool (below c al)) ∧ Below w.heap.size w w' := by
  obtain ⟨ds, ha, hd⟩ := ha.row
  obtain ⟨hr1, R, cR, rfl, hR⟩ := hc.routes
  obtain ⟨ha1, A, cA, rfl, hA⟩ := ha
  have HR := Lib.hid hR
  have HA := Lib.hid hA
  have HD := Lib.hid hd
  clear hR hA hd hc
  go_enter Tryd.func12, Tryd.ntmps12
  go_upto_region 1 with fail
  go_cut [5] (fun s wx => s = .bool (five c) ∧ wx.cell? ⟨w.heap.size, 0, none⟩ = some (.slice R c.routes.length cR) ∧ Below w.heap.size w wx)
  case first =>
    have HF : Hid (five c = (decide (c.level < 0) || decide (c.minSize < 0) || decide (c.cap < 0) || decide (c.buffer < 0) || decide (c.timeout < 0))) := Lib.hid rfl
    by_cases h1 : c.level < 0
    · go_wp2; go_meet; exact ⟨by rw [HF.out]; simp [h1], by simp [go_sem], (Below.refl _ _).alloc (Nat.le_refl _) _⟩
    by_cases h2 : c.minSize < 0
    · go_wp2; go_meet; exact ⟨by rw [HF.out]; simp [h2], by simp [go_sem], (Below.refl _ _).alloc (Nat.le_refl _) _⟩
    by_cases h3 : c.cap < 0
    · go_wp2; go_meet; exact ⟨by rw [HF.out]; simp [h3], by simp [go_sem], (Below.refl _ _).alloc (Nat.le_refl _) _⟩
    by_cases h4 : c.buffer < 0
    · go_wp2; go_meet; exact ⟨by rw [HF.out]; simp [h4], by simp [go_sem], (Below.refl _ _).alloc (Nat.le_refl _) _⟩
    by_cases h5 : c.timeout < 0
    · go_wp2; go_meet; exact ⟨by rw [HF.out]; simp [h5], by simp [go_sem], (Below.refl _ _).alloc (Nat.le_refl _) _⟩
    · go_wp2; go_meet; exact ⟨by rw [HF.out]; simp [h1, h2, h3, h4, h5], by simp [go_sem], (Below.refl _ _).alloc (Nat.le_refl _) _⟩
  case rest =>
    obtain ⟨rfl, hc0, hb0⟩ := hcut
    have hb0' := Veil.mk hb0
    clear hb0
    go_wp2
    go_loopw [5, 36] (fun x i wr => ∃ k : Nat, k ≤ c.routes.length ∧ i = .int .i64 k ∧ x = .bool (five c || (c.routes.take k).any rtNeg) ∧ Below w.heap.size w wr) (fun _ i _ => c.routes.length - (intOf i).toNat)
    case atStart => exact ⟨0, Nat.zero_le _, rfl, by simp, hb0'.out⟩
    case round =>
      obtain ⟨k, hk, rfl, rfl, hbel⟩ := hrel
      by_cases hlt : k < c.routes.length
      · obtain ⟨p, po, rfl, hpb, hp⟩ := HR.out (by omega)
        have c0 := (cell_kept hbel hpb).trans (hp k 0 hlt (by omega))
        have c1 := (cell_kept hbel hpb).trans (hp k 1 hlt (by omega))
        have c2 := (cell_kept hbel hpb).trans (hp k 2 hlt (by omega))
        simp only [rtCell, List.getElem?_eq_getElem hlt, Option.map_some, Option.getD_some, Nat.add_zero] at c0 c1 c2
        have HB := Lib.hid (hbel.alloc hbel.size (.cells #[str c.routes[k].host, str c.routes[k].pre, .int .i64 c.routes[k].up] 41))
        have HS := Lib.hid (any_step hlt rtNeg)
        clear hp hc0
        generalize hx : (five c || (c.routes.take k).any rtNeg) = x
        have HX := Lib.hid hx
        clear hx
        have HN : Hid (rtNeg c.routes[k] = decide (c.routes[k].up < 0)) := Lib.hid rfl
        have hfin : Hid ((five c || (c.routes.take (k + 1)).any rtNeg) = (x || rtNeg c.routes[k])) := Lib.hid (by rw [HS.out, ← HX.out, Bool.or_assoc])
        cases x
        · by_cases hn : c.routes[k].up < 0
          · go_wp2
            go_roundw
            case rel => exact ⟨k + 1, by omega, by go_num, by rw [hfin.out, HN.out]; simp [hn], HB.out⟩
            case measure => simp [intOf]; omega
          · go_wp2
            go_roundw
            case rel => exact ⟨k + 1, by omega, by go_num, by rw [hfin.out, HN.out]; simp [hn], HB.out⟩
            case measure => simp [intOf]; omega
        · go_wp2
          go_roundw
          case rel => exact ⟨k + 1, by omega, by go_num, by rw [hfin.out]; simp, HB.out⟩
          case measure => simp [intOf]; omega
      · have hkk : k = c.routes.length := by omega
        subst hkk
        rw [List.take_length]
        generalize hx : (five c || c.routes.any rtNeg) = x
        have HX := Lib.hid hx
        clear hx hc0
        go_wp2
        go_loopw [5, 49] (fun y i wr => ∃ k : Nat, k ≤ al.length ∧ i = .int .i64 k ∧ y = .bool (x || (al.take k).any acNeg) ∧ Below w.heap.size w wr) (fun _ i _ => al.length - (intOf i).toNat)
        case atStart => exact ⟨0, Nat.zero_le _, rfl, by simp, hbel⟩
        case round =>
          clear hbel
          obtain ⟨k, hk, rfl, rfl, hbel⟩ := hrel
          by_cases hlt : k < al.length
          · obtain ⟨p, po, rfl, hpb, hp⟩ := HA.out (by omega)
            have c0 := (cell_kept hbel hpb).trans (hp k 0 hlt (by omega))
            have c1 := (cell_kept hbel hpb).trans (hp k 1 hlt (by omega))
            have c2 := (cell_kept hbel hpb).trans (hp k 2 hlt (by omega))
            have c3 := (cell_kept hbel hpb).trans (hp k 3 hlt (by omega))
            obtain ⟨l0, dA, dC, hd1, _⟩ := HD.out k hlt
            simp only [acCell, List.getElem?_eq_getElem hlt, Option.map_some, Option.getD_some, Nat.add_zero, hd1] at c0 c1 c2 c3
            clear hd1 l0
            have HB := Lib.hid (hbel.alloc hbel.size (.cells #[.int .i64 al[k].kind, .int .i64 al[k].conn, .int .i64 al[k].n, .slice dA al[k].data.length dC] 39))
            have HS := Lib.hid (any_step hlt acNeg)
            clear hp
            generalize hy : (x || (al.take k).any acNeg) = y
            have HN : Hid (acNeg al[k] = (decide (al[k].kind < 0) || decide (al[k].conn < 0) || decide (al[k].n < 0))) := Lib.hid rfl
            have hfin : Hid ((x || (al.take (k + 1)).any acNeg) = (y || acNeg al[k])) := Lib.hid (by rw [HS.out, ← hy, Bool.or_assoc])
            clear hy
            cases y
            · by_cases n1 : al[k].kind < 0
              · go_wp2
                go_roundw
                case rel => exact ⟨k + 1, by omega, by go_num, by rw [hfin.out, HN.out]; simp [n1], HB.out⟩
                case measure => simp [intOf]; omega
              by_cases n2 : al[k].conn < 0
              · go_wp2
                go_roundw
                case rel => exact ⟨k + 1, by omega, by go_num, by rw [hfin.out, HN.out]; simp [n2], HB.out⟩
                case measure => simp [intOf]; omega
              by_cases n3 : al[k].n < 0
              · go_wp2
                go_roundw
                case rel => exact ⟨k + 1, by omega, by go_num, by rw [hfin.out, HN.out]; simp [n3], HB.out⟩
                case measure => simp [intOf]; omega
              · go_wp2
                go_roundw
                case rel => exact ⟨k + 1, by omega, by go_num, by rw [hfin.out, HN.out]; simp [n1, n2, n3], HB.out⟩
                case measure => simp [intOf]; omega
            · go_wp2
              go_roundw
              case rel => exact ⟨k + 1, by omega, by go_num, by rw [hfin.out]; simp, HB.out⟩
              case measure => simp [intOf]; omega
          · have hkk : k = al.length := by omega
            subst hkk
            rw [List.take_length]
            go_wp2
            go_ret
            exact ⟨ret_bool (by rw [below_eq, HX.out]), hbel⟩

theorem sum_take_lt {α : Type} (f : α → Nat) {l : List α} {k : Nat} (h : k < l.length) : ((l.take k).map f).sum + f l[k] ≤ (l.map f).sum := by
  rw [← sum_step f h]
  exact sum_take_le f l (k + 1)

set_option maxRecDepth 100000 in
set_option maxHeartbeats 1600000 in
theorem scLarge_any (vr vt va : Value) (c : Cf) (al : List Ac) (w : World) (hc : CfAt w vr vt c) (ha : AcAt w va al) (ht : total c al < 20000) :
    Calls Tryd.prog 13 #[cfVal vr vt c, va] w fun e w' => e = .returned (.bool false) ∧ Below w.heap.size w w' := by
  rw [total_eq] at ht
  unfold base at ht
  obtain ⟨ds, ha, hd⟩ := ha.row
  obtain ⟨hr1, R, cR, rfl, hR⟩ := hc.routes
  obtain ⟨ht1, T, cT, rfl, hT⟩ := hc.types
  obtain ⟨ha1, A, cA, rfl, hA⟩ := ha
  have HR := Lib.hid hR
  have HT := Lib.hid hT
  have HA := Lib.hid hA
  have HD := Lib.hid hd
  clear hR hT hA hd hc
  go_enter Tryd.func13, Tryd.ntmps13
  go_wp2
  go_loopw [5, 15] (fun n i wr => ∃ k s : Nat, k ≤ c.routes.length ∧ i = .int .i64 k ∧ n = .int .i64 s ∧ s = ((c.routes.take k).map rtLen).sum ∧ BoxAt w wr w.heap.size (.slice R c.routes.length cR) (.slice T c.types.length cT) c) (fun _ i _ => c.routes.length - (intOf i).toNat)
  case atStart => exact ⟨0, 0, Nat.zero_le _, rfl, rfl, by simp, ⟨heap_alloc_new w _, (Below.refl _ _).alloc (Nat.le_refl _) _⟩⟩
  case round =>
    obtain ⟨k, s, hk, rfl, rfl, hs, hbox⟩ := hrel
    have hbel := hbox.below
    have HS := Lib.hid hs
    have hsl : s ≤ (c.routes.map rtLen).sum := by rw [hs]; exact sum_take_le rtLen _ _
    clear hs
    by_cases hlt : k < c.routes.length
    · obtain ⟨p, po, rfl, hpb, hp⟩ := HR.out (by omega)
      have c0 := (cell_kept hbel hpb).trans (hp k 0 hlt (by omega))
      have c1 := (cell_kept hbel hpb).trans (hp k 1 hlt (by omega))
      have c2 := (cell_kept hbel hpb).trans (hp k 2 hlt (by omega))
      simp only [rtCell, List.getElem?_eq_getElem hlt, Option.map_some, Option.getD_some, Nat.add_zero] at c0 c1 c2
      have hlim : s + (c.routes[k].host.length + c.routes[k].pre.length) ≤ 20000 := by
        have := sum_take_lt rtLen hlt
        rw [← HS.out] at this
        unfold rtLen at this ht
        omega
      have hB1 := (Below.refl wr.heap.size wr).alloc (Nat.le_refl _) (.cells #[str c.routes[k].host, str c.routes[k].pre, .int .i64 c.routes[k].up] 41)
      have HB : Veil (BoxAt w (wr.alloc (.cells #[str c.routes[k].host, str c.routes[k].pre, .int .i64 c.routes[k].up] 41)) w.heap.size (.slice (some ⟨p, po, none⟩) c.routes.length cR) (.slice T c.types.length cT) c) :=
        ⟨⟨(hB1.block _ (Array.getElem?_eq_some_iff.1 hbox.heap).1).trans hbox.heap, hbel.trans (hB1.mono hbel.size)⟩⟩
      clear hp hbox hB1
      go_wp2
      go_roundw
      case rel => exact ⟨k + 1, s + rtLen c.routes[k], by omega, by go_num, by unfold rtLen; go_num, by rw [sum_step rtLen hlt, HS.out], HB.out⟩
      case measure => simp [intOf]; omega
    · have b1 := hbox.cell 1
      simp only [List.getElem?_toArray, List.getElem?_cons_zero, List.getElem?_cons_succ] at b1
      have hkk : k = c.routes.length := by omega
      subst hkk
      have HS1 : Hid (s = (c.routes.map rtLen).sum) := Lib.hid (by rw [HS.out, List.take_length])
      clear HS HR
      go_wp2
      clear hbox b1
      go_loopw [5, 32] (fun n i wr => ∃ k s : Nat, k ≤ c.types.length ∧ i = .int .i64 k ∧ n = .int .i64 s ∧ s = (c.routes.map rtLen).sum + ((c.types.take k).map List.length).sum ∧ Below w.heap.size w wr) (fun _ i _ => c.types.length - (intOf i).toNat)
      case atStart => exact ⟨0, s, Nat.zero_le _, rfl, rfl, by simpa using HS1.out, hbel⟩
      case round =>
        clear HS1 hsl hbel
        obtain ⟨k, s, hk, rfl, rfl, hs, hbel⟩ := hrel
        have HS := Lib.hid hs
        have hsl : s ≤ (c.routes.map rtLen).sum + (c.types.map List.length).sum := by have := sum_take_le List.length c.types k; omega
        clear hs
        by_cases hlt : k < c.types.length
        · obtain ⟨p, po, rfl, hpb, hp⟩ := HT.out (by omega)
          have c0 := (cell_kept hbel hpb).trans (hp k 0 hlt (by omega))
          simp only [tyCell, List.getElem?_eq_getElem hlt, Option.getD_some, Nat.add_zero, Nat.mul_one] at c0
          have hlim : s + c.types[k].length ≤ 20000 := by
            have := sum_take_lt List.length hlt
            have h2 := HS.out
            omega
          clear hp
          go_wp2
          go_roundw
          case rel => exact ⟨k + 1, s + c.types[k].length, by omega, by go_num, by go_num, by rw [sum_step List.length hlt, HS.out]; omega, hbel⟩
          case measure => simp [intOf]; omega
        · have hkk : k = c.types.length := by omega
          subst hkk
          have HS1 : Hid (s = (c.routes.map rtLen).sum + (c.types.map List.length).sum) := Lib.hid (by rw [HS.out, List.take_length])
          clear HS HT
          go_wp2
          go_loopw [5, 43] (fun n i wr => ∃ k s : Nat, k ≤ al.length ∧ i = .int .i64 k ∧ n = .int .i64 s ∧ s = (c.routes.map rtLen).sum + (c.types.map List.length).sum + ((al.take k).map dLen).sum ∧ Below w.heap.size w wr) (fun _ i _ => al.length - (intOf i).toNat)
          case atStart => exact ⟨0, s, Nat.zero_le _, rfl, rfl, by simpa using HS1.out, hbel⟩
          case round =>
            clear HS1 hsl hbel
            obtain ⟨k, s, hk, rfl, rfl, hs, hbel⟩ := hrel
            have HS := Lib.hid hs
            have hsl : s ≤ 20000 := by have := sum_take_le dLen al k; omega
            clear hs
            by_cases hlt : k < al.length
            · obtain ⟨p, po, rfl, hpb, hp⟩ := HA.out (by omega)
              have c0 := (cell_kept hbel hpb).trans (hp k 0 hlt (by omega))
              have c1 := (cell_kept hbel hpb).trans (hp k 1 hlt (by omega))
              have c2 := (cell_kept hbel hpb).trans (hp k 2 hlt (by omega))
              have c3 := (cell_kept hbel hpb).trans (hp k 3 hlt (by omega))
              obtain ⟨l0, dA, dC, hd1, _⟩ := HD.out k hlt
              simp only [acCell, List.getElem?_eq_getElem hlt, Option.map_some, Option.getD_some, Nat.add_zero, hd1] at c0 c1 c2 c3
              have hlim : s + al[k].data.length ≤ 20000 := by
                have h1 := sum_take_lt dLen hlt
                have h2 := HS.out
                have h3 : dLen al[k] = al[k].data.length := rfl
                omega
              have HB := Lib.hid (hbel.alloc hbel.size (.cells #[.int .i64 al[k].kind, .int .i64 al[k].conn, .int .i64 al[k].n, .slice dA al[k].data.length dC] 39))
              clear hp hd1 l0
              go_wp2
              go_roundw
              case rel => exact ⟨k + 1, s + dLen al[k], by omega, by go_num, by unfold dLen; go_num, by rw [sum_step dLen hlt, HS.out]; omega, HB.out⟩
              case measure => simp [intOf]; omega
            · have hd : decide (4194304 < 2 * (s : Int)) = false := by simp; omega
              go_wp2
              go_ret
              exact ⟨rfl, hbel⟩
end Go.Proofs.YtkankjblpmmikaaDoor.Sc
