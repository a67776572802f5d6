/- The walks of the references of layer 27. -/
import Derived.Test.YtkankjblpmmikaaDoorScMem
set_option linter.unusedSimpArgs false
set_option linter.unusedVariables false
namespace Go.Proofs.YtkankjblpmmikaaDoor.Sc
open Go.RowKit Hp

theorem below_route {c : Cf} {al : List Ac} {k : Nat} (hlt : k < c.routes.length) (h : c.routes[k].up < 0) : below c al = true := by
  have : c.routes.any (fun r => decide (r.up < 0)) = true := List.any_eq_true.2 ⟨_, List.getElem_mem hlt, by simpa using h⟩
  simp [below, this]

theorem below_act {c : Cf} {al : List Ac} {k : Nat} (hlt : k < al.length) (h : al[k].kind < 0 ∨ al[k].conn < 0 ∨ al[k].n < 0) : below c al = true := by
  have : al.any (fun a => decide (a.kind < 0) || decide (a.conn < 0) || decide (a.n < 0)) = true := List.any_eq_true.2 ⟨_, List.getElem_mem hlt, by simpa [or_assoc] using h⟩
  simp [below, this]
theorem below_rest {c : Cf} {al : List Ac} (h1 : ∀ r ∈ c.routes, 0 ≤ r.up) (h2 : ∀ a ∈ al, 0 ≤ a.kind ∧ 0 ≤ a.conn ∧ 0 ≤ a.n) :
    below c al = (decide (c.level < 0) || decide (c.minSize < 0) || decide (c.cap < 0) || decide (c.buffer < 0) || decide (c.timeout < 0)) := by
  have e1 : c.routes.any (fun r => decide (r.up < 0)) = false := List.any_eq_false.2 fun r hr => by have := h1 r hr; simp; omega
  have e2 : al.any (fun a => decide (a.kind < 0) || decide (a.conn < 0) || decide (a.n < 0)) = false := List.any_eq_false.2 fun a ha => by have := h2 a ha; simp; omega
  simp [below, e1, e2]

set_option maxHeartbeats 400000 in
theorem refBelow_any (vr vt va : Value) (c : Cf) (al : List Ac) (w : World) (hc : CfAt w vr vt c) (ha : AcAt w va al) :
    Calls Tryd.prog 8 #[cfVal vr vt c, va] w fun e w' => e = .returned (.bool (below c al)) ∧ Below w.heap.size w w' := by
  obtain ⟨ds, ha, hd⟩ := ha.row
  obtain ⟨hr1, R, cR, rfl, hR⟩ := hc.routes
  obtain ⟨ha1, A, cA, rfl, hA⟩ := ha
  go_enter Tryd.func8, Tryd.ntmps8
  go_wp2
  go_loop [5] (fun i => ∃ k : Nat, k ≤ c.routes.length ∧ i = .int .i64 k ∧ Veil (∀ r ∈ c.routes.take k, 0 ≤ r.up)) (fun i => c.routes.length - (intOf i).toNat)
  case atStart => exact ⟨0, Nat.zero_le _, rfl, ⟨fun r h => by simp at h⟩⟩
  case round =>
    obtain ⟨k, hk, rfl, hs⟩ := hrel
    by_cases hlt : k < c.routes.length
    · obtain ⟨p, po, rfl, hpb, hp⟩ := hR (by omega)
      have cp := hp k 2 hlt (by omega)
      simp only [rtCell] at cp
      clear hR hp
      go_wp2
      · have h : c.routes[k].up < 0 := by assumption
        go_ret
        exact ⟨ret_bool (below_route hlt h), (Below.refl _ _).alloc (Nat.le_refl _) _⟩
      · have h : 0 ≤ c.routes[k].up := by assumption
        go_round
        case rel => exact ⟨k + 1, by omega, by go_num, ⟨all_step hlt hs.out h⟩⟩
        case measure => simp [intOf]; omega
    · have hall : Veil (∀ r ∈ c.routes, 0 ≤ r.up) := ⟨by have := hs.out; rwa [List.take_of_length_le (by omega)] at this⟩
      clear hs
      go_wp2
      go_loop [6] (fun i => ∃ k : Nat, k ≤ al.length ∧ i = .int .i64 k ∧ Veil (∀ a ∈ al.take k, 0 ≤ a.kind ∧ 0 ≤ a.conn ∧ 0 ≤ a.n)) (fun i => al.length - (intOf i).toNat)
      case atStart => exact ⟨0, Nat.zero_le _, rfl, ⟨fun r h => by simp at h⟩⟩
      case round =>
        obtain ⟨m, hm, rfl, hs⟩ := hrel
        by_cases hlt : m < al.length
        · obtain ⟨q, qo, rfl, hqb, hq⟩ := hA (by omega)
          have c0 := hq m 0 hlt (by omega)
          have c1 := hq m 1 hlt (by omega)
          have c2 := hq m 2 hlt (by omega)
          simp only [acCell, Nat.add_zero] at c0 c1 c2
          clear hA hq
          by_cases hneg : al[m].kind < 0 ∨ al[m].conn < 0 ∨ al[m].n < 0
          · have hb := below_act (c := c) hlt hneg
            have HB := Lib.hid hb
            clear hb
            go_wp2
            all_goals (go_ret; exact ⟨ret_bool HB.out, (Below.refl _ _).alloc (Nat.le_refl _) _⟩)
          · have h0 : ¬ al[m].kind < 0 := fun h => hneg (.inl h)
            have h1 : ¬ al[m].conn < 0 := fun h => hneg (.inr (.inl h))
            have h2 : ¬ al[m].n < 0 := fun h => hneg (.inr (.inr h))
            clear hneg
            go_wp2
            go_round
            case rel => exact ⟨m + 1, by omega, by go_num, ⟨all_step hlt hs.out ⟨by omega, by omega, by omega⟩⟩⟩
            case measure => simp [intOf]; omega
        · have hall2 : Veil (∀ a ∈ al, 0 ≤ a.kind ∧ 0 ≤ a.conn ∧ 0 ≤ a.n) := ⟨by have := hs.out; rwa [List.take_of_length_le (by omega)] at this⟩
          clear hs
          have hb := below_rest hall.out hall2.out
          have HB := Lib.hid hb
          clear hb hall hall2
          go_wp2
          all_goals (go_ret; refine ⟨ret_bool ?_, (Below.refl _ _).alloc (Nat.le_refl _) _⟩; rw [HB.out]; try (go_light; simp [*]))
end Go.Proofs.YtkankjblpmmikaaDoor.Sc
