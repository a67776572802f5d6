/- The walks of the two laws on the script. -/
import Derived.Test.YtkankjblpmmikaaDoorScParse
import Derived.Test.YtkankjblpmmikaaDoorScPrint
import Derived.Test.YtkankjblpmmikaaDoorRefSame
import Derived.Lib.SlBytesConst
set_option linter.unusedSimpArgs false
set_option linter.unusedVariables false
namespace Go.Proofs.YtkankjblpmmikaaDoor.Sc
open Go.RowKit Hp

theorem itoa_zero : Lib.itoa 0 = [48] := by unfold Lib.itoa; rw [if_neg (by omega)]; rw [Lib.decDigits]; rfl
theorem itoa_six : Lib.itoa 6 = [54] := by unfold Lib.itoa; rw [if_neg (by omega)]; rw [Lib.decDigits]; rfl
def ansC : Cf := ⟨[], [], 6, 0, 0, 0, 0⟩
def ansA : List Ac := [⟨2, 0, 0, [97]⟩]
theorem ans_text : text ansC ansA = [99, 111, 110, 102, 105, 103, 32, 54, 32, 48, 32, 48, 32, 48, 32, 48, 10, 97, 99, 116, 32, 50, 32, 48, 32, 48, 32, 120, 54, 49, 10] := by
  simp only [text, joinL, allLines, ansC, ansA, cfLine, acLine, num, wd, itoa_zero, itoa_six, itoa_two, List.map_nil, List.map_cons, List.nil_append, List.flatMap_cons, List.flatMap_nil]
  decide
theorem ans_below : below ansC ansA = false := by simp [below, ansC, ansA]
theorem ans_total : total ansC ansA < 20000 := by simp [total, ansC, ansA]
theorem ans_ok : ansC.Ok ∧ ∀ a ∈ ansA, a.Ok := by simp [Cf.Ok, Ac.Ok, Ok, ansC, ansA]
theorem ans_at (w : World) : CfAt ((w.alloc (.cells #[.int .u8 97] 5 (1, 2))).alloc (.cells #[.int .i64 2, .int .i64 0, .int .i64 0, .slice (some ⟨w.heap.size, 0, none⟩) 1 1] 39)) (.slice none 0 0) (.slice none 0 0) ansC ∧
    AcAt ((w.alloc (.cells #[.int .u8 97] 5 (1, 2))).alloc (.cells #[.int .i64 2, .int .i64 0, .int .i64 0, .slice (some ⟨w.heap.size, 0, none⟩) 1 1] 39)) (.slice (some ⟨w.heap.size + 1, 0, none⟩) 1 1) ansA := by
  refine ⟨⟨⟨by decide, none, 0, rfl, fun h => absurd h (by decide)⟩, ⟨by decide, none, 0, rfl, fun h => absurd h (by decide)⟩, (fun r hr => by cases hr), (fun r hr => by cases hr)⟩, ⟨fun _ => .slice (some ⟨w.heap.size, 0, none⟩) 1 1, ⟨by decide, _, _, rfl, fun _ => ⟨w.heap.size + 1, 0, rfl, by simp, fun i j hi hj => ?_⟩⟩, fun i hi => ?_⟩⟩
  · obtain rfl : i = 0 := by simpa [ansA] using hi
    have hh := heap_alloc_new (w.alloc (.cells #[.int .u8 97] 5 (1, 2))) (.cells #[.int .i64 2, .int .i64 0, .int .i64 0, .slice (some ⟨w.heap.size, 0, none⟩) 1 1] 39)
    have hs : (w.alloc (.cells #[.int .u8 97] 5 (1, 2))).heap.size = w.heap.size + 1 := by simp
    rw [hs] at hh
    rw [Lib.cell_of_heap hh]
    match j, hj with
    | 0, _ => rfl
    | 1, _ => rfl
    | 2, _ => rfl
    | 3, _ => rfl
  · obtain rfl : i = 0 := by simpa [ansA] using hi
    refine ⟨by decide, some ⟨w.heap.size, 0, none⟩, 1, rfl, fun _ => ⟨w.heap.size, 0, rfl, by simp; omega, fun j hj => ?_⟩⟩
    have hh := heap_alloc_new w (.cells #[.int .u8 97] 5 (1, 2))
    rw [← Below.heap_alloc (w.alloc (.cells #[.int .u8 97] 5 (1, 2))) (.cells #[.int .i64 2, .int .i64 0, .int .i64 0, .slice (some ⟨w.heap.size, 0, none⟩) 1 1] 39) _ (by simp)] at hh
    rw [cell_of_row _ _ _ _ _ _ hh]
    obtain rfl : j = 0 := by simpa [ansA] using hj
    rfl

set_option maxRecDepth 100000 in
set_option maxHeartbeats 1000000 in
theorem answers_any {w : World} (hs : Std w w.heap.size) :
    Calls Tryd.prog 5 #[] w fun e w' => e = .returned (.bool true) ∧ Below w.heap.size w w' := by
  have hb1 : Below w.heap.size w ((w.alloc (.cells #[.int .u8 97] 5 (1, 2))).alloc (.cells #[.int .i64 2, .int .i64 0, .int .i64 0, .slice (some ⟨w.heap.size, 0, none⟩) 1 1] 39)) := ((Below.refl _ _).alloc (Nat.le_refl _) _).alloc (by simp) _
  have HB := Lib.hid hb1
  have HS := Lib.hid (hs.next hb1)
  have HA := Lib.hid (ans_at w)
  have hcv : (convert 37 37 (.slice (some ⟨w.heap.size, 0, none⟩) 1 1)).run Tryd.prog (w.alloc (.cells #[.int .u8 97] 5)) = .ok (.slice (some ⟨w.heap.size, 0, none⟩) 1 1) (w.alloc (.cells #[.int .u8 97] 5 (1, 2))) := Lib.run_convert_bytes_const w _ _ _ 1 1 Tryd.underlying37 Tryd.underlying5
  clear hb1 hs
  go_enter Tryd.func5, Tryd.ntmps5
  go_wp2_with fail
  go_at_call 7
  refine (scPrint_ok (.slice none 0 0) (.slice none 0 0) _ ansC ansA _ HS.out HA.out.1 HA.out.2 ans_below ans_ok.1 ans_ok.2 ans_total).mono ?_
  rw [ans_text]
  rintro e w1 ⟨rfl, hb⟩
  go_wp2_with fail
  go_ret
  exact ⟨rfl, HB.out.trans (hb.mono (by simp; omega))⟩

/-- The numbers are ints. -/
def InR (n : Int) : Prop := -9223372036854775808 ≤ n ∧ n ≤ 9223372036854775807
def AllIn (c : Cf) (al : List Ac) : Prop := InR c.level ∧ InR c.minSize ∧ InR c.cap ∧ InR c.buffer ∧ InR c.timeout ∧ (∀ r ∈ c.routes, InR r.up) ∧ ∀ a ∈ al, InR a.kind ∧ InR a.conn ∧ InR a.n
theorem ok_of {c : Cf} {al : List Ac} (h : AllIn c al) (hb : below c al = false) : c.Ok ∧ ∀ a ∈ al, a.Ok := by
  obtain ⟨h1, h2, h3, h4, h5, h6, h7⟩ := h
  simp only [below, Bool.or_eq_false_iff, decide_eq_false_iff_not, List.any_eq_false, decide_eq_true_eq, Bool.or_eq_true, not_or] at hb
  obtain ⟨⟨⟨⟨⟨⟨b1, b2⟩, b3⟩, b4⟩, b5⟩, b6⟩, b7⟩ := hb
  unfold InR at *
  refine ⟨⟨⟨by omega, h1.2⟩, ⟨by omega, h2.2⟩, ⟨by omega, h3.2⟩, ⟨by omega, h4.2⟩, ⟨by omega, h5.2⟩, fun r hr => ⟨?_, (h6 r hr).2⟩⟩, fun a ha => ⟨⟨?_, (h7 a ha).1.2⟩, ⟨?_, (h7 a ha).2.1.2⟩, ⟨?_, (h7 a ha).2.2.2⟩⟩⟩
  · have := b6 r hr; omega
  · have := (b7 a ha).1.1; omega
  · have := (b7 a ha).1.2; omega
  · have := (b7 a ha).2; omega
theorem parse_len {c : Cf} {al : List Ac} (hc : c.Ok) (ha : ∀ a ∈ al, a.Ok) (ht : total c al < 20000) : (text c al).length ≤ 100107 := by
  have := text_len hc ha; omega

set_option maxRecDepth 100000 in
set_option maxHeartbeats 3200000 in
theorem scriptPrints_any (vr vt va : Value) (c : Cf) (al : List Ac) (w : World) (hs : Std w w.heap.size) (hc : CfAt w vr vt c) (ha : AcAt w va al) (hin : AllIn c al) :
    Calls Tryd.prog 3 #[cfVal vr vt c, va] w fun e w' => e = .returned (.bool true) ∧ Below w.heap.size w w' := by
  obtain ⟨hr1, R, cR, rfl, hR⟩ := hc.routes
  obtain ⟨ht1, T, cT, rfl, hT⟩ := hc.types
  obtain ⟨ds, haR, hd⟩ := ha.row
  obtain ⟨ha1, A, cA, rfl, hA⟩ := haR
  have hB1 := (Below.refl w.heap.size w).alloc (Nat.le_refl _) (.cells #[.slice R c.routes.length cR, .slice T c.types.length cT, .int .i64 c.level, .int .i64 c.minSize, .int .i64 c.cap, .int .i64 c.buffer, .int .i64 c.timeout] 25)
  have hcf : CfIn w (w.alloc (.cells #[.slice R c.routes.length cR, .slice T c.types.length cT, .int .i64 c.level, .int .i64 c.minSize, .int .i64 c.cap, .int .i64 c.buffer, .int .i64 c.timeout] 25)) w.heap.size (.slice R c.routes.length cR) (.slice T c.types.length cT) c := ⟨⟨heap_alloc_new w _, hB1⟩, by simp⟩
  have HCF := Lib.hid hcf
  have HC := Lib.hid hc
  have HA := Lib.hid ha
  have HS := Lib.hid hs
  have HIN := Lib.hid hin
  clear hR hT hA hd hB1 hcf hc ha hs hin
  go_enter Tryd.func3, Tryd.ntmps3
  go_wp2_with fail
  generalize hw0 : w.alloc (.cells #[.slice R c.routes.length cR, .slice T c.types.length cT, .int .i64 c.level, .int .i64 c.minSize, .int .i64 c.cap, .int .i64 c.buffer, .int .i64 c.timeout] 25) = W at *
  clear hw0
  go_at_call 5
  refine (answers_any (HS.out.next HCF.out.box.below)).mono ?_
  rintro e w1 ⟨rfl, hb⟩
  have hcf := HCF.out.next hb
  have HC1 := Lib.hid hcf
  clear HCF hb
  obtain ⟨z0, z1, z2, z3, z4, z5, z6, _⟩ := cells7 hcf.box.heap
  clear hcf
  go_wp2_with fail
  go_at_call 6
  refine (light_any _ _ _ c al _ (HC.out.kept HC1.out.box.below) (HA.out.kept HC1.out.box.below)).mono ?_
  rintro e w2 ⟨rfl, hb⟩
  have HC2 := Lib.hid (HC1.out.next hb)
  clear hb HC1 z0 z1 z2 z3 z4 z5 z6
  by_cases htot : total c al < 20000
  · have hd1 : decide (total c al < 20000) = true := by simpa using htot
    obtain ⟨z0, z1, z2, z3, z4, z5, z6, _⟩ := cells7 HC2.out.box.heap
    go_wp2_with fail
    cases hneg : below c al with
    | true =>
      go_at_call 7
      refine (scPrint_neg _ _ _ c al _ (HC.out.kept HC2.out.box.below) (HA.out.kept HC2.out.box.below) hneg).mono ?_
      rintro e w3 ⟨rfl, hb⟩
      have HC3 := Lib.hid (HC2.out.next hb)
      clear hb HC2 z0 z1 z2 z3 z4 z5 z6
      obtain ⟨z0, z1, z2, z3, z4, z5, z6, _⟩ := cells7 HC3.out.box.heap
      go_wp2_with fail
      go_at_call 8
      refine (refBelow_any _ _ _ c al _ (HC.out.kept HC3.out.box.below) (HA.out.kept HC3.out.box.below)).mono ?_
      rw [hneg]
      rintro e w4 ⟨rfl, hb⟩
      have hB := (HC3.out.next hb).box.below
      clear HC3 hb z0 z1 z2 z3 z4 z5 z6
      go_wp2_with fail
      go_ret
      exact ⟨rfl, hB⟩
    | false =>
      obtain ⟨hcok, haok⟩ := ok_of HIN.out hneg
      have HCK := Lib.hid hcok
      have HAK := Lib.hid haok
      clear hcok haok
      go_at_call 7
      refine (scPrint_ok _ _ _ c al _ (HS.out.next HC2.out.box.below) (HC.out.kept HC2.out.box.below) (HA.out.kept HC2.out.box.below) hneg HCK.out HAK.out htot).mono ?_
      rintro e w3 ⟨rfl, hb⟩
      have HC3 := Lib.hid (HC2.out.next hb)
      clear hb HC2 z0 z1 z2 z3 z4 z5 z6
      obtain ⟨z0, z1, z2, z3, z4, z5, z6, _⟩ := cells7 HC3.out.box.heap
      go_wp2_with fail
      go_at_call 8
      refine (refBelow_any _ _ _ c al _ (HC.out.kept HC3.out.box.below) (HA.out.kept HC3.out.box.below)).mono ?_
      rw [hneg]
      rintro e w4 ⟨rfl, hb⟩
      have HC4 := Lib.hid (HC3.out.next hb)
      clear hb HC3 z0 z1 z2 z3 z4 z5 z6
      have htl := parse_len HCK.out HAK.out htot
      go_wp2_with fail
      go_at_call 9
      refine (parse_any (HS.out.next HC4.out.box.below) (text c al) (by omega)).mono ?_
      rintro e w5 ⟨vr2, vt2, va2, rfl, hc2, ha2, hb⟩
      rw [parse_text c al HCK.out HAK.out] at hc2 ha2 ⊢
      dsimp only at hc2 ha2 ⊢
      have hc5 := HC4.out.next hb
      obtain ⟨_, R2, cR2, rfl, _⟩ := hc2.routes
      obtain ⟨_, T2, cT2, rfl, _⟩ := hc2.types
      have hB6 := (Below.refl w5.heap.size w5).alloc (Nat.le_refl _) (.cells #[.slice R2 c.routes.length cR2, .slice T2 c.types.length cT2, .int .i64 c.level, .int .i64 c.minSize, .int .i64 c.cap, .int .i64 c.buffer, .int .i64 c.timeout] 25)
      have HC6 := Lib.hid (And.intro (hc5.next hB6) (And.intro (hc2.kept hB6) (ha2.kept hB6)))
      have hh6 := heap_alloc_new w5 (.cells #[.slice R2 c.routes.length cR2, .slice T2 c.types.length cT2, .int .i64 c.level, .int .i64 c.minSize, .int .i64 c.cap, .int .i64 c.buffer, .int .i64 c.timeout] 25)
      obtain ⟨y0, y1, y2, y3, y4, y5, y6, _⟩ := cells7 hh6
      obtain ⟨z0, z1, z2, z3, z4, z5, z6, _⟩ := cells7 HC6.out.1.box.heap
      have HH6 := Lib.hid hh6
      have heq : (text c al == text c al) = true := by simp
      clear hb hc5 hc2 ha2 hB6 HC4 hh6
      go_wp2_with fail
      go_at_call 10
      refine (refPrint_any _ _ _ c al _ (HC.out.kept HC6.out.1.box.below) (HA.out.kept HC6.out.1.box.below) HCK.out HAK.out htot).mono ?_
      rintro e w7 ⟨rfl, hb⟩
      have hh7 := (hb.block _ (Array.getElem?_eq_some_iff.1 HH6.out).1).trans HH6.out
      have HC7 := Lib.hid (And.intro (HC6.out.1.next hb) (And.intro (HC6.out.2.1.kept hb) (HC6.out.2.2.kept hb)))
      clear hb HC6 HH6 y0 y1 y2 y3 y4 y5 y6 z0 z1 z2 z3 z4 z5 z6
      obtain ⟨y0, y1, y2, y3, y4, y5, y6, _⟩ := cells7 hh7
      obtain ⟨z0, z1, z2, z3, z4, z5, z6, _⟩ := cells7 HC7.out.1.box.heap
      clear hh7
      go_wp2_with fail
      go_at_call 11
      refine (refSame_any _ _ _ _ _ _ c al _ (HC.out.kept HC7.out.1.box.below) (HA.out.kept HC7.out.1.box.below) HC7.out.2.1 HC7.out.2.2).mono ?_
      rintro e w8 ⟨rfl, hb⟩
      have hB := (HC7.out.1.next hb).box.below
      clear hb HC7 y0 y1 y2 y3 y4 y5 y6 z0 z1 z2 z3 z4 z5 z6
      go_wp2_with fail
      go_ret
      exact ⟨rfl, hB⟩
  · have hd1 : decide (total c al < 20000) = false := by simpa using htot
    go_wp2_with fail
    go_at_call 5
    refine (answers_any (HS.out.next HC2.out.box.below)).mono ?_
    rintro e w3 ⟨rfl, hb⟩
    have hB := (HC2.out.next hb).box.below
    clear HC2 hb hd1
    go_wp2_with fail
    go_ret
    exact ⟨rfl, hB⟩

theorem bads_at (i : Nat) (h : i < 14) : (#[str [], str [119, 104, 97, 116], str [99, 111, 110, 102, 105, 103, 32, 49, 32, 50, 32, 51, 32, 52, 32, 53], str [114, 111, 117, 116, 101, 32, 120, 32, 120], str [114, 111, 117, 116, 101, 32, 120, 32, 120, 32, 45, 49], str [116, 121, 112, 101], str [116, 121, 112, 101, 32, 120, 103, 48], str [116, 121, 112, 101, 32, 120, 49], str [97, 99, 116, 32, 49, 32, 50, 32, 51], str [97, 99, 116, 32, 49, 32, 50, 32, 51, 32, 120, 32, 120], str [97, 99, 116, 32, 48, 49, 32, 50, 32, 51, 32, 120], str [97, 99, 116, 32, 49, 32, 32, 50, 32, 51, 32, 120], str [97, 99, 116, 32, 49, 32, 50, 32, 51, 32, 88], str [32, 97, 99, 116, 32, 49, 32, 50, 32, 51, 32, 120]] : Array Value)[i]? = some (str (badLine i)) := by
  match i, h with
  | 0, _ => rfl
  | 1, _ => rfl
  | 2, _ => rfl
  | 3, _ => rfl
  | 4, _ => rfl
  | 5, _ => rfl
  | 6, _ => rfl
  | 7, _ => rfl
  | 8, _ => rfl
  | 9, _ => rfl
  | 10, _ => rfl
  | 11, _ => rfl
  | 12, _ => rfl
  | 13, _ => rfl
/-- A text that is wrong at a line. -/
def ParsedBad (w : World) (n : Nat) (e : Ending) (w' : World) : Prop :=
  ∃ R cR T cT A cA, e = .returned (.tuple #[.agg #[.slice R 0 cR, .slice T 0 cT, .int .i64 0, .int .i64 0, .int .i64 0, .int .i64 0, .int .i64 0], .slice A 0 cA, .int .i64 n, .int .i64 9]) ∧ Below w.heap.size w w'
theorem Parsed.bad {w w' : World} {n : Nat} {e : Ending} (h : Parsed w ⟨Cf.zero, [], n, 9⟩ e w') : ParsedBad w n e w' := by
  obtain ⟨vr, vt, va, rfl, hc, ha, hb⟩ := h
  obtain ⟨_, R, cR, rfl, _⟩ := hc.routes
  obtain ⟨_, T, cT, rfl, _⟩ := hc.types
  obtain ⟨ds, haR, _⟩ := ha.row
  obtain ⟨_, A, cA, rfl, _⟩ := haR
  exact ⟨R, cR, T, cT, A, cA, rfl, hb⟩
theorem cellsZ {w : World} {b : Nat} (h : w.heap[b]? = some (.cells #[.slice none 0 0, .slice none 0 0, .int .i64 0, .int .i64 0, .int .i64 0, .int .i64 0, .int .i64 0] 25 (0, 0))) :
    w.cell? ⟨b, 0, none⟩ = some (.slice none 0 0) ∧ w.cell? ⟨b, 1, none⟩ = some (.slice none 0 0) ∧ w.cell? ⟨b, 2, none⟩ = some (.int .i64 0) ∧ w.cell? ⟨b, 3, none⟩ = some (.int .i64 0) ∧ w.cell? ⟨b, 4, none⟩ = some (.int .i64 0) ∧ w.cell? ⟨b, 5, none⟩ = some (.int .i64 0) ∧ w.cell? ⟨b, 6, none⟩ = some (.int .i64 0) ∧
    w.frozen? ⟨b, 0, none⟩ = false ∧ w.frozen? ⟨b, 1, none⟩ = false ∧ w.frozen? ⟨b, 2, none⟩ = false ∧ w.frozen? ⟨b, 3, none⟩ = false ∧ w.frozen? ⟨b, 4, none⟩ = false ∧ w.frozen? ⟨b, 5, none⟩ = false ∧ w.frozen? ⟨b, 6, none⟩ = false :=
  cells7 (c := Cf.zero) h
theorem bcell {W w1 : World} (hb : Below W.heap.size W w1) : (∀ b o, b < W.heap.size → w1.cell? ⟨b, o, none⟩ = W.cell? ⟨b, o, none⟩) ∧ (∀ b o, b < W.heap.size → w1.frozen? ⟨b, o, none⟩ = W.frozen? ⟨b, o, none⟩) :=
  ⟨fun b o h => hb.cell (p := ⟨b, o, none⟩) h, fun b o h => hb.frozen (p := ⟨b, o, none⟩) h⟩
theorem badLine_len (i : Nat) : (badLine i).length ≤ 16 := by
  unfold badLine
  split <;> simp
/-- How many line ends there are. -/
def nls (l : Bs) : Nat := (l.filter (· == 10)).length

theorem nls_append (a b : Bs) : nls (a ++ b) = nls a + nls b := by simp [nls, List.filter_append]
theorem nls_none {l : Bs} (h : (10 : UInt8) ∉ l) : nls l = 0 := by
  unfold nls
  rw [List.filter_eq_nil_iff.2 (fun x hx => by simp; rintro rfl; exact h hx)]
  rfl
theorem nls_one : nls [10] = 1 := rfl
theorem nls_join : ∀ (ls : List Bs), (∀ l ∈ ls, (10 : UInt8) ∉ l) → nls (joinL ls) = ls.length
  | [], _ => rfl
  | l :: ls, h => by
    have h1 := nls_join ls fun x hx => h x (by simp [hx])
    rw [joinL_cons, show l ++ 10 :: joinL ls = l ++ ([10] ++ joinL ls) from rfl, nls_append, nls_append, nls_none (h l (by simp)), nls_one, h1]
    simp only [List.length_cons]; omega
/-- A head of a text that ends at a line's end. -/
def AtEnd (p : Bs) : Prop := p = [] ∨ ∃ q, p = q ++ [10]
theorem head_lines : ∀ (ls : List Bs), (∀ l ∈ ls, (10 : UInt8) ∉ l) → ∀ p r, joinL ls = p ++ r → AtEnd p → p = joinL (ls.take (nls p))
  | [], _, p, r, he, ha => by
    have : p = [] := by
      have := congrArg List.length he
      simp [joinL] at this
      exact List.eq_nil_of_length_eq_zero (by omega)
    subst this; rfl
  | l :: ls, h, p, r, he, ha => by
    rcases ha with rfl | ⟨q, rfl⟩
    · rfl
    · rw [joinL_cons] at he
      have hl := h l (by simp)
      -- the first line lies whole within the head
      have hlen : l.length ≤ q.length := by
        rcases Nat.lt_or_ge q.length l.length with hlt | hge
        · exfalso
          have e1 : (l ++ 10 :: joinL ls)[q.length]? = some 10 := by rw [he]; simp
          rw [List.getElem?_append_left hlt] at e1
          exact hl (List.mem_of_getElem? e1)
        · exact hge
      have hq : (q ++ [10]).take (l.length + 1) = l ++ [10] := by
        have e1 : (q ++ [10] ++ r).take (l.length + 1) = (q ++ [10]).take (l.length + 1) := List.take_append_of_le_length (by simp; omega)
        rw [← e1, ← he, show l ++ 10 :: joinL ls = (l ++ [10]) ++ joinL ls from by simp]
        rw [show l.length + 1 = (l ++ [10]).length from by simp]
        exact List.take_left
      have hp : q ++ [10] = (l ++ [10]) ++ (q ++ [10]).drop (l.length + 1) := by
        conv => lhs; rw [← List.take_append_drop (l.length + 1) (q ++ [10]), hq]
      generalize hd : (q ++ [10]).drop (l.length + 1) = p' at hp
      have hjp : joinL ls = p' ++ r := by
        rw [hp] at he
        simpa using he
      have hae : AtEnd p' := by
        rcases Nat.lt_or_ge l.length q.length with hlt | hge
        · refine .inr ⟨q.drop (l.length + 1), ?_⟩
          rw [← hd, List.drop_append_of_le_length (by omega)]
        · left
          rw [← hd]
          apply List.drop_of_length_le
          simp; omega
      have ih := head_lines ls (fun x hx => h x (by simp [hx])) p' r hjp hae
      have hn : nls (q ++ [10]) = nls p' + 1 := by
        rw [hp, nls_append, nls_append, nls_none hl, nls_one]; omega
      rw [hn, List.take_succ_cons, joinL_cons, ← ih, hp]
      simp
/-- A letter of a text. -/
theorem idx_at (s : Bs) (k : Nat) (h : k < s.length) (x : Int) (hx : x = (s[k].toNat : Int)) (W : World) : (Instr.index 9 (str s) (.int .i64 (k : Int))).run Tryd.prog W = .ok (.int .u8 x) W := by
  subst hx
  have e : (⟨s.toArray⟩ : ByteArray)[k]? = some s[k] := getElem?_pos (⟨s.toArray⟩ : ByteArray) k h
  simp [Instr.index, go_sem, run_underlying Tryd.underlying9, e]
/-- How far the scan has come: the head up to cut is whole lines, line of them; at most A + 1 are taken. -/
def Scan (s : Bs) (A k cut line : Nat) : Prop :=
  cut ≤ k ∧ AtEnd (s.take cut) ∧ nls (s.take cut) = line ∧ line ≤ A + 1 ∧ (line ≤ A → nls (s.take k) = line)
theorem scan_start (s : Bs) (A : Nat) : Scan s A 0 0 0 := ⟨Nat.le_refl _, .inl rfl, rfl, by omega, fun _ => rfl⟩
theorem take_snoc' {s : Bs} {k : Nat} (h : k < s.length) : s.take (k + 1) = s.take k ++ [s[k]] := List.take_succ_eq_append_getElem h
theorem scan_hit {s : Bs} {A k cut line : Nat} (h : Scan s A k cut line) (hk : k < s.length) (h10 : s[k] = 10) (hl : line ≤ A) : Scan s A (k + 1) (k + 1) (line + 1) := by
  obtain ⟨h1, h2, h3, h4, h5⟩ := h
  have hn : nls (s.take (k + 1)) = line + 1 := by rw [take_snoc' hk, nls_append, h5 hl, h10]; rfl
  exact ⟨Nat.le_refl _, .inr ⟨s.take k, by rw [take_snoc' hk, h10]⟩, hn, by omega, fun _ => hn⟩
theorem scan_over {s : Bs} {A k cut line : Nat} (h : Scan s A k cut line) (hk : k < s.length) (hl : ¬ line ≤ A) : Scan s A (k + 1) cut line := by
  obtain ⟨h1, h2, h3, h4, h5⟩ := h
  exact ⟨by omega, h2, h3, h4, fun h => absurd h hl⟩
theorem scan_miss {s : Bs} {A k cut line : Nat} (h : Scan s A k cut line) (hk : k < s.length) (h10 : s[k] ≠ 10) : Scan s A (k + 1) cut line := by
  obtain ⟨h1, h2, h3, h4, h5⟩ := h
  refine ⟨by omega, h2, h3, h4, fun hl => ?_⟩
  rw [take_snoc' hk, nls_append, h5 hl, nls_none (by simpa using Ne.symm h10)]
  rfl
theorem lines_end {c : Cf} {al : List Ac} (hc : c.Ok) (ha : ∀ a ∈ al, a.Ok) : ∀ l ∈ allLines c al, (10 : UInt8) ∉ l := by
  intro l hl
  unfold allLines at hl
  rcases List.mem_cons.1 hl with rfl | hl
  · exact cfLine_end c hc
  · rcases List.mem_append.1 hl with hl | hl
    · rcases List.mem_append.1 hl with hl | hl
      · obtain ⟨r, hr, rfl⟩ := List.mem_map.1 hl
        exact rtLine_end r (hc.2.2.2.2.2 r hr)
      · obtain ⟨t, _, rfl⟩ := List.mem_map.1 hl
        exact tyLine_end t
    · obtain ⟨a, hm, rfl⟩ := List.mem_map.1 hl
      exact acLine_end a (ha a hm)
/-- Behind whole lines the first wrong one is told. -/
theorem scan_end {c : Cf} {al : List Ac} (hc : c.Ok) (ha : ∀ a ∈ al, a.Ok) {A cut line : Nat} (h : Scan (text c al) A (text c al).length cut line) (i : Nat) (t : Bs) :
    parse ((text c al).take cut ++ (badLine i ++ 10 :: t)) = ⟨Cf.zero, [], line + 1, 9⟩ := by
  obtain ⟨h1, h2, h3, h4, h5⟩ := h
  have hle := lines_end hc ha
  have hn : nls (text c al) = (allLines c al).length := nls_join _ hle
  have hpos : 1 ≤ (allLines c al).length := by rw [text_lines]; omega
  have hhd := head_lines (allLines c al) hle ((text c al).take cut) ((text c al).drop cut) (List.take_append_drop _ _).symm h2
  rw [h3] at hhd
  have hline : 1 ≤ line ∧ line ≤ (allLines c al).length := by
    have hsum : nls (text c al) = line + nls ((text c al).drop cut) := by
      conv => lhs; rw [← List.take_append_drop cut (text c al), nls_append, h3]
    refine ⟨?_, by omega⟩
    rcases Nat.eq_zero_or_pos line with h0 | h0
    · exfalso
      subst h0
      have := h5 (by omega)
      rw [List.take_length] at this
      omega
    · exact h0
  have htx : (text c al).take cut = text (c.cut line) (al.take (line - 1 - c.routes.length - c.types.length)) := by
    rw [hhd, lines_take c al line hline.1]; rfl
  have hlen : (allLines (c.cut line) (al.take (line - 1 - c.routes.length - c.types.length))).length = line := by
    rw [← lines_take c al line hline.1, List.length_take]; omega
  rw [htx, parse_bad _ _ (hc.cut line) (fun a h => ha a (List.mem_of_mem_take h)), hlen]

set_option maxRecDepth 100000 in
set_option maxHeartbeats 3200000 in
theorem scriptWrong_any (vr vt va : Value) (c : Cf) (al : List Ac) (av wv : UInt8) (tail : Bs) (w : World) (hs : Std w w.heap.size) (hc : CfAt w vr vt c) (ha : AcAt w va al) (hin : AllIn c al) (htl : tail.length ≤ 140737488355328) :
    Calls Tryd.prog 4 #[cfVal vr vt c, va, .int .u8 av.toNat, .int .u8 wv.toNat, str tail] w fun e w' => e = .returned (.bool true) ∧ Below w.heap.size w w' := by
  obtain ⟨hr1, R, cR, rfl, hR⟩ := hc.routes
  obtain ⟨ht1, T, cT, rfl, hT⟩ := hc.types
  obtain ⟨ds, haR, hd⟩ := ha.row
  obtain ⟨ha1, A, cA, rfl, hA⟩ := haR
  have hB1 := (Below.refl w.heap.size w).alloc (Nat.le_refl _) (.cells #[.slice R c.routes.length cR, .slice T c.types.length cT, .int .i64 c.level, .int .i64 c.minSize, .int .i64 c.cap, .int .i64 c.buffer, .int .i64 c.timeout] 25)
  have hcf : CfIn w (w.alloc (.cells #[.slice R c.routes.length cR, .slice T c.types.length cT, .int .i64 c.level, .int .i64 c.minSize, .int .i64 c.cap, .int .i64 c.buffer, .int .i64 c.timeout] 25)) w.heap.size (.slice R c.routes.length cR) (.slice T c.types.length cT) c := ⟨⟨heap_alloc_new w _, hB1⟩, by simp⟩
  have HCF := Lib.hid hcf
  have HC := Lib.hid hc
  have HA := Lib.hid ha
  have HS := Lib.hid hs
  have HIN := Lib.hid hin
  clear hR hT hA hd hB1 hcf hc ha hs hin
  go_enter Tryd.func4, Tryd.ntmps4
  go_wp2_with fail
  generalize hw0 : w.alloc (.cells #[.slice R c.routes.length cR, .slice T c.types.length cT, .int .i64 c.level, .int .i64 c.minSize, .int .i64 c.cap, .int .i64 c.buffer, .int .i64 c.timeout] 25) = W at *
  clear hw0
  go_at_call 5
  refine (answers_any (HS.out.next HCF.out.box.below)).mono ?_
  rintro e w1 ⟨rfl, hb⟩
  have hcf := HCF.out.next hb
  have HC1 := Lib.hid hcf
  clear HCF hb
  obtain ⟨z0, z1, z2, z3, z4, z5, z6, _⟩ := cells7 hcf.box.heap
  clear hcf
  go_wp2_with fail
  go_at_call 6
  refine (light_any _ _ _ c al _ (HC.out.kept HC1.out.box.below) (HA.out.kept HC1.out.box.below)).mono ?_
  rintro e w2 ⟨rfl, hb⟩
  have HC2 := Lib.hid (HC1.out.next hb)
  clear hb HC1 z0 z1 z2 z3 z4 z5 z6
  obtain ⟨z0, z1, z2, z3, z4, z5, z6, _⟩ := cells7 HC2.out.box.heap
  by_cases htot : total c al < 20000
  · have hd1 : decide (total c al < 20000) = true := by simpa using htot
    go_wp2_with fail
    go_at_call 8
    refine (refBelow_any _ _ _ c al _ (HC.out.kept HC2.out.box.below) (HA.out.kept HC2.out.box.below)).mono ?_
    rintro e w3 ⟨rfl, hb⟩
    have HC3 := Lib.hid (HC2.out.next hb)
    clear hb HC2 z0 z1 z2 z3 z4 z5 z6
    cases hneg : below c al with
    | true =>
      go_wp2_with fail
      go_at_call 5
      refine (answers_any (HS.out.next HC3.out.box.below)).mono ?_
      rintro e w4 ⟨rfl, hb⟩
      have hB := (HC3.out.next hb).box.below
      clear HC3 hb hd1
      go_wp2_with fail
      go_ret
      exact ⟨rfl, hB⟩
    | false =>
      by_cases htail : 300 < tail.length
      · have hd2 : decide ((300 : Int) < (tail.length : Int)) = true := by simp; omega
        go_wp2_with fail
        go_at_call 5
        refine (answers_any (HS.out.next HC3.out.box.below)).mono ?_
        rintro e w4 ⟨rfl, hb⟩
        have hB := (HC3.out.next hb).box.below
        clear HC3 hb hd1
        go_wp2_with fail
        go_ret
        exact ⟨rfl, hB⟩
      · have hd2 : decide ((300 : Int) < (tail.length : Int)) = false := by simp; omega
        obtain ⟨hcok, haok⟩ := ok_of HIN.out hneg
        have HCK := Lib.hid hcok
        have HAK := Lib.hid haok
        clear hcok haok
        have hcf := HC3.out.next ((Below.refl w3.heap.size w3).alloc (Nat.le_refl _) (.cells #[str [], str [119, 104, 97, 116], str [99, 111, 110, 102, 105, 103, 32, 49, 32, 50, 32, 51, 32, 52, 32, 53], str [114, 111, 117, 116, 101, 32, 120, 32, 120], str [114, 111, 117, 116, 101, 32, 120, 32, 120, 32, 45, 49], str [116, 121, 112, 101], str [116, 121, 112, 101, 32, 120, 103, 48], str [116, 121, 112, 101, 32, 120, 49], str [97, 99, 116, 32, 49, 32, 50, 32, 51], str [97, 99, 116, 32, 49, 32, 50, 32, 51, 32, 120, 32, 120], str [97, 99, 116, 32, 48, 49, 32, 50, 32, 51, 32, 120], str [97, 99, 116, 32, 49, 32, 32, 50, 32, 51, 32, 120], str [97, 99, 116, 32, 49, 32, 50, 32, 51, 32, 88], str [32, 97, 99, 116, 32, 49, 32, 50, 32, 51, 32, 120]] 9))
        obtain ⟨z0, z1, z2, z3, z4, z5, z6, _⟩ := cells7 hcf.box.heap
        have HC4 := Lib.hid hcf
        have hbd := Lib.hid (heap_alloc_new w3 (.cells #[str [], str [119, 104, 97, 116], str [99, 111, 110, 102, 105, 103, 32, 49, 32, 50, 32, 51, 32, 52, 32, 53], str [114, 111, 117, 116, 101, 32, 120, 32, 120], str [114, 111, 117, 116, 101, 32, 120, 32, 120, 32, 45, 49], str [116, 121, 112, 101], str [116, 121, 112, 101, 32, 120, 103, 48], str [116, 121, 112, 101, 32, 120, 49], str [97, 99, 116, 32, 49, 32, 50, 32, 51], str [97, 99, 116, 32, 49, 32, 50, 32, 51, 32, 120, 32, 120], str [97, 99, 116, 32, 48, 49, 32, 50, 32, 51, 32, 120], str [97, 99, 116, 32, 49, 32, 32, 50, 32, 51, 32, 120], str [97, 99, 116, 32, 49, 32, 50, 32, 51, 32, 88], str [32, 97, 99, 116, 32, 49, 32, 50, 32, 51, 32, 120]] 9))
        clear hcf
        go_wp2_with fail
        go_at_call 10
        refine (refPrint_any _ _ _ c al _ (HC.out.kept HC4.out.box.below) (HA.out.kept HC4.out.box.below) HCK.out HAK.out htot).mono ?_
        rintro e w5 ⟨rfl, hb⟩
        have hbd5 := Lib.hid ((hb.block _ (Array.getElem?_eq_some_iff.1 hbd.out).1).trans hbd.out)
        have HC5 := Lib.hid (HC4.out.next hb)
        have hsl := parse_len HCK.out HAK.out htot
        have hav := av.toNat_lt
        clear hb HC4 hbd z0 z1 z2 z3 z4 z5 z6 HC3
        obtain ⟨s, hs⟩ : ∃ s, s = text c al := ⟨_, rfl⟩
        rw [← hs] at hsl ⊢
        have HSS := Lib.hid hs
        clear hs
        go_wp2_with fail
        go_loop [13, 14, 15] (fun cc ll ii => ∃ cut line k : Nat, cc = .int .i64 cut ∧ ll = .int .i64 line ∧ ii = .int .i64 k ∧ k ≤ s.length ∧ cut ≤ k ∧ line ≤ 300 ∧ Veil (Scan s (av.toNat % 9) k cut line)) (fun _ _ ii => s.length - (intOf ii).toNat)
        case atStart => exact ⟨0, 0, 0, rfl, rfl, rfl, Nat.zero_le _, Nat.le_refl _, Nat.zero_le _, ⟨scan_start _ _⟩⟩
        case round =>
          obtain ⟨cut, line, k, rfl, rfl, rfl, hk, hck, hli, hscan⟩ := hrel
          by_cases hlt : k < s.length
          · have hk0 : (0 : Int) ≤ (k : Int) := by omega
            have hk1 : (k : Int) < (s.length : Int) := by omega
            by_cases h10 : s[k] = 10
            · have hidx := fun W => idx_at s k hlt 10 (by rw [h10]; rfl) W
              by_cases hl : line ≤ av.toNat % 9
              · have hd3 : decide ((line : Int) ≤ (av.toNat : Int) % 9) = true := by simp; omega
                have hsc := Lib.hid (scan_hit hscan.out hlt h10 hl)
                have hl9 : line ≤ 8 := by omega
                clear h10 hl
                go_wp2_with fail
                go_round
                case rel => exact ⟨k + 1, line + 1, k + 1, by go_num, by go_num, by go_num, by omega, by omega, by omega, ⟨hsc.out⟩⟩
                case measure => simp [intOf]; omega
              · have hd3 : decide ((line : Int) ≤ (av.toNat : Int) % 9) = false := by simp; omega
                have hsc := Lib.hid (scan_over hscan.out hlt hl)
                clear h10 hl
                go_wp2_with fail
                go_round
                case rel => exact ⟨cut, line, k + 1, rfl, rfl, by go_num, by omega, by omega, by omega, ⟨hsc.out⟩⟩
                case measure => simp [intOf]; omega
            · have hn10 : s[k].toNat ≠ 10 := fun h => h10 (UInt8.toNat_inj.1 h)
              obtain ⟨x, hx⟩ : ∃ x : Int, x = (s[k].toNat : Int) := ⟨_, rfl⟩
              have hidx := fun W => idx_at s k hlt x hx W
              have hb10 : (x == 10) = false := by simp; omega
              have hx2 : ¬ x = 10 := by omega
              have hsc := Lib.hid (scan_miss hscan.out hlt h10)
              clear h10 hn10 hx
              go_wp2_with fail
              go_round
              case rel => exact ⟨cut, line, k + 1, rfl, rfl, by go_num, by omega, by omega, by omega, ⟨hsc.out⟩⟩
              case measure => simp [intOf]; omega
          · have hkk : k = s.length := by omega
            subst hkk
            have hw := wv.toNat_lt
            have hcell := fun j (hj : j < 14) => (Lib.cell_of_heap hbd5.out j).trans (bads_at j hj)
            have cw := hcell (wv.toNat % 14) (by omega)
            have HPB : Hid (parse (s.take cut ++ (badLine (wv.toNat % 14) ++ 10 :: tail)) = ⟨Cf.zero, [], line + 1, 9⟩) := Lib.hid (by have := hscan.out; rw [HSS.out] at this ⊢; exact scan_end HCK.out HAK.out this _ _)
            have hbl : (badLine (wv.toNat % 14)).length ≤ 16 := badLine_len _
            have hm : ((wv.toNat : Int) % 14) = ((wv.toNat % 14 : Nat) : Int) := by omega
            have hx1 : (⟨s.toArray⟩ : ByteArray).extract 0 cut = ⟨(s.take cut).toArray⟩ := by rw [ba_extract]; simp
            clear hcell hscan
            have hpl : (s.take cut).length ≤ 100107 := by rw [List.length_take]; omega
            generalize s.take cut = p at *
            generalize badLine (wv.toNat % 14) = bl at *
            have q0 : SumOk p bl := by unfold SumOk; omega
            have q1 : SumOk (p ++ bl) [10] := by unfold SumOk; simp only [List.length_append, List.length_cons, List.length_nil]; omega
            have q2 : SumOk ((p ++ bl) ++ [10]) tail := by unfold SumOk; simp only [List.length_append, List.length_cons, List.length_nil]; omega
            simp only [List.append_assoc, List.cons_append, List.nil_append] at q0 q1 q2
            have hc0 : (0 : Int) ≤ (cut : Int) := by omega
            have hc1 : (cut : Int) ≤ (s.length : Int) := by omega
            have htm : (wv.toNat : Int).tmod 14 = ((wv.toNat % 14 : Nat) : Int) := by rw [Int.tmod_eq_emod_of_nonneg (by omega)]; omega
            have hwrap : IntKind.i64.wrap (wv.toNat : Int) = (wv.toNat : Int) := by rw [IntKind.wrap_i64]; omega
            have hi14 : wv.toNat % 14 < 14 := by omega
            generalize wv.toNat % 14 = i at *
            have hw0 : (0 : Int) ≤ (i : Int) := by omega
            have hw1 : (i : Int) < 14 := by omega
            have hpar : ∀ W : World, Std W W.heap.size → Calls Tryd.prog 9 #[str (p ++ (bl ++ 10 :: tail))] W (ParsedBad W (line + 1)) := fun W hW => by
              have := parse_any hW (p ++ (bl ++ 10 :: tail)) (by simp only [List.length_append, List.length_cons]; omega)
              rw [HPB.out] at this
              exact this.mono fun _ _ h => h.bad
            have HPAR := Lib.hid hpar
            clear hpar HPB
            have h35 : w3.heap.size < w5.heap.size := (Array.getElem?_eq_some_iff.1 hbd5.out).1
            have HSW : Hid (Std w5 w5.heap.size) := Lib.hid (HS.out.next HC5.out.box.below)
            have HBW := Lib.hid HC5.out.box.below
            clear hbd5 HC5 HC HA HCK HAK HIN HSS
            go_wp2_with fail
            have hne := Nat.ne_of_lt h35
            have hne2 := Nat.ne_of_gt h35
            go_region_held3 (fun w' => w'.cell? ⟨w3.heap.size, i, none⟩ = some (str bl)) (first | (with_reducible exact c6) | ((with_reducible refine (World.cell?_alloc_lt _ _ _ ?_).trans c6); simp only; omega) | go_keep)
              (first
                | (go_at_call 9
                   go_must (refine (HPAR.out _ (by first | exact HSW.out.next ((Below.refl _ _).drew) | exact HSW.out.next (((Below.refl _ _).alloc (Nat.le_refl _) _).drew))).mono ?_; rintro e w6 ⟨R2, cR2, T2, cT2, A2, cA2, rfl, hb⟩; obtain ⟨hcc, hff⟩ := bcell hb; have hsz := hb.size; simp at hsz; have c6 : w6.cell? ⟨w3.heap.size, i, none⟩ = some (str bl) := (by rw [hcc _ _ (by simp; omega)]; first | exact cw | exact (World.cell?_alloc_lt _ _ _ h35).trans cw))))
            all_goals
              have hB6 : Veil (Below w.heap.size w w6) := ⟨by
                first
                  | (have hbz : Below w5.drew.heap.size w5.drew w6 := (by with_reducible exact hb)
                     exact HBW.out.trans ((((Below.refl w5.heap.size w5).drew).trans hbz).mono HBW.out.size))
                  | exact HBW.out.trans (((((Below.refl w5.heap.size w5).alloc (Nat.le_refl _) _).drew).trans (hb.mono (by simp))).mono HBW.out.size)⟩
              have hws : w.heap.size ≤ w5.heap.size := HBW.out.size
              clear hb hcc hff c6
              go_wp2_with fail
              go_ret
              refine ⟨rfl, ?_⟩
              try with_reducible apply Below.drew
              first
                | with_reducible exact Below.alloc hB6.out hB6.out.size _
                | with_reducible exact (((((((hB6.out.setCell (p := ⟨w5.heap.size, 0, none⟩) hws _).setCell (p := ⟨w5.heap.size, 1, none⟩) hws _).setCell (p := ⟨w5.heap.size, 2, none⟩) hws _).setCell (p := ⟨w5.heap.size, 3, none⟩) hws _).setCell (p := ⟨w5.heap.size, 4, none⟩) hws _).setCell (p := ⟨w5.heap.size, 5, none⟩) hws _).setCell (p := ⟨w5.heap.size, 6, none⟩) hws _)
                | trace_state
  · have hd1 : decide (total c al < 20000) = false := by simpa using htot
    go_wp2_with fail
    go_at_call 5
    refine (answers_any (HS.out.next HC2.out.box.below)).mono ?_
    rintro e w3 ⟨rfl, hb⟩
    have hB := (HC2.out.next hb).box.below
    clear HC2 hb hd1
    go_wp2_with fail
    go_ret
    exact ⟨rfl, hB⟩
end Go.Proofs.YtkankjblpmmikaaDoor.Sc
