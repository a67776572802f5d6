/- Plain facts about the script's text: what is printed is read again, and the first bad line is told. No program in sight.
   CONDITIONS: none beyond those in each statement. -/
import Derived.Lib.ItoaNum
import Derived.Lib.AtoiAll
import Derived.Lib.IndexMore
import Derived.Lib.IndexBytes
import Derived.Lib.Split
import Derived.Lib.SlTrimSet
import Derived.Lib.Strings
set_option linter.unusedSimpArgs false
set_option linter.unusedVariables false
namespace Go.Proofs.YtkankjblpmmikaaDoor.Sc
open Go.Lib

abbrev Bs := List UInt8

/-! ### Printing -/
def hexd (n : Nat) : UInt8 := if n < 10 then UInt8.ofNat (48 + n) else UInt8.ofNat (87 + n)
def hex (b : Bs) : Bs := b.flatMap fun c => [hexd (c.toNat / 16), hexd (c.toNat % 16)]
def hexw (b : Bs) : Bs := 120 :: hex b

structure Rt where
  host : Bs
  pre : Bs
  up : Int
  deriving DecidableEq
structure Ac where
  kind : Int
  conn : Int
  n : Int
  data : Bs
  deriving DecidableEq
structure Cf where
  routes : List Rt
  types : List Bs
  level : Int
  minSize : Int
  cap : Int
  buffer : Int
  timeout : Int
  deriving DecidableEq

def num (n : Int) : Bs := 32 :: itoa n
def wd (b : Bs) : Bs := 32 :: hexw b
def kwConfig : Bs := [99, 111, 110, 102, 105, 103]
def kwRoute : Bs := [114, 111, 117, 116, 101]
def kwType : Bs := [116, 121, 112, 101]
def kwAct : Bs := [97, 99, 116]
def cfLine (c : Cf) : Bs := kwConfig ++ num c.level ++ num c.minSize ++ num c.cap ++ num c.buffer ++ num c.timeout
def rtLine (r : Rt) : Bs := kwRoute ++ wd r.host ++ wd r.pre ++ num r.up
def tyLine (t : Bs) : Bs := kwType ++ wd t
def acLine (a : Ac) : Bs := kwAct ++ num a.kind ++ num a.conn ++ num a.n ++ wd a.data
def allLines (c : Cf) (acts : List Ac) : List Bs := cfLine c :: (c.routes.map rtLine ++ c.types.map tyLine ++ acts.map acLine)
def joinL (ls : List Bs) : Bs := ls.flatMap fun l => l ++ [10]
def text (c : Cf) (acts : List Ac) : Bs := joinL (allLines c acts)

/-! ### Reading -/
structure Rd where
  ws : List Bs
  bad : Bool
def rnext (r : Rd) : Bs × Rd := match r.ws with
  | [] => ([], ⟨[], true⟩)
  | w :: t => (w, ⟨t, r.bad⟩)
def numW (s : Bs) : Option Int := match atoiAll s with
  | .ok n => if n < 0 then none else if itoa n = s then some n else none
  | _ => none
def rnumber (r : Rd) : Int × Rd := match numW (rnext r).1 with
  | some n => (n, (rnext r).2)
  | none => (0, ⟨(rnext r).2.ws, true⟩)
def digits : Bs := [48, 49, 50, 51, 52, 53, 54, 55, 56, 57, 97, 98, 99, 100, 101, 102]
def nib (c : UInt8) : Nat := if c.toNat < 58 then c.toNat - 48 else c.toNat - 87
def unhex : Bs → Bs
  | a :: b :: t => UInt8.ofNat (nib a * 16 + nib b) :: unhex t
  | _ => []
def okBytes (s : Bs) : Bool := hasPrefix s [120] && ((s.drop 1).length % 2 == 0) && (trimS (s.drop 1) digits).isEmpty
def rbytes (r : Rd) : Bs × Rd := if okBytes (rnext r).1 then (unhex ((rnext r).1.drop 1), (rnext r).2) else ([], ⟨(rnext r).2.ws, true⟩)

structure Fl where
  cf : Cf
  acts : List Ac
def Cf.zero : Cf := ⟨[], [], 0, 0, 0, 0, 0⟩
def Fl.zero : Fl := ⟨Cf.zero, []⟩

/-- a line's words: by the blanks. -/
def words (s : Bs) : List Bs := split s [32]

def lineCf (f : Fl) (r : Rd) : Fl × Rd :=
  let (a, r) := rnumber r
  let (b, r) := rnumber r
  let (c, r) := rnumber r
  let (d, r) := rnumber r
  let (e, r) := rnumber r
  (⟨{ f.cf with level := a, minSize := b, cap := c, buffer := d, timeout := e }, f.acts⟩, r)
def lineRt (f : Fl) (r : Rd) : Fl × Rd :=
  let (h, r) := rbytes r
  let (p, r) := rbytes r
  let (u, r) := rnumber r
  (⟨{ f.cf with routes := f.cf.routes ++ [⟨h, p, u⟩] }, f.acts⟩, r)
def lineTy (f : Fl) (r : Rd) : Fl × Rd :=
  let (t, r) := rbytes r
  (⟨{ f.cf with types := f.cf.types ++ [t] }, f.acts⟩, r)
def lineAc (f : Fl) (r : Rd) : Fl × Rd :=
  let (k, r) := rnumber r
  let (c, r) := rnumber r
  let (n, r) := rnumber r
  let (d, r) := rbytes r
  (⟨f.cf, f.acts ++ [⟨k, c, n, d⟩]⟩, r)
/-- which line it is (none: 0), what has been read then, and what is left. -/
def lineK (f : Fl) (s : Bs) : Nat × Fl × Rd :=
  let (w, r) := rnext ⟨words s, false⟩
  if w = kwConfig then (1, lineCf f r)
  else if w = kwRoute then (2, lineRt f r)
  else if w = kwType then (3, lineTy f r)
  else if w = kwAct then (4, lineAc f r)
  else (0, f, r)
def lineM (f : Fl) (s : Bs) : Nat × Fl :=
  let (k, f', r) := lineK f s
  if r.bad || !r.ws.isEmpty then (0, f') else (k, f')

/-- is the line out of order? -/
def wrongOrder (ended : Bool) (kind last : Nat) : Bool := !ended || kind == 0 || decide (kind < last) || (last == 0 && kind != 1) || (kind == 1 && last == 1)
structure Got where
  cf : Cf
  acts : List Ac
  n : Nat
  e : Nat
  deriving DecidableEq
def parseF : Nat → Nat → Nat → Fl → Bs → Got
  | 0, n, _, f, _ => ⟨f.cf, f.acts, n, 0⟩
  | k + 1, n, last, f, t =>
    if t = [] ∧ last ≠ 0 then ⟨f.cf, f.acts, 0, 0⟩
    else
      let (one, rest, ended) := cut t [10]
      let (kind, f') := lineM f one
      if wrongOrder ended kind last then ⟨Cf.zero, [], n, 9⟩ else parseF k (n + 1) kind f' rest
def parse (t : Bs) : Got := parseF (t.length + 2) 1 0 Fl.zero t

/-! ### Words -/
theorem index_one_none (s : Bs) (c : UInt8) (h : c ∉ s) : index s [c] = -1 := by
  refine index_none fun j _ => ?_
  cases hO : occAt s [c] j with
  | false => rfl
  | true =>
    have := occAt_head (t := []) rfl hO
    exact absurd (List.mem_of_getElem? this) h

theorem index_one_hit (a t : Bs) (c : UInt8) (h : c ∉ a) : index (a ++ c :: t) [c] = a.length := by
  refine index_first (by simp) ?_ fun j hj => ?_
  · rw [occAt_iff_take _ _ _ (by simp)]
    simp
  · cases hO : occAt (a ++ c :: t) [c] j with
    | false => rfl
    | true =>
      have := occAt_head (t := []) rfl hO
      rw [List.getElem?_append_left hj] at this
      exact absurd (List.mem_of_getElem? this) h

theorem cut_hit (a t : Bs) (c : UInt8) (h : c ∉ a) : cut (a ++ c :: t) [c] = (a, t, true) := by
  unfold cut
  rw [index_one_hit a t c h, if_pos (by omega)]
  simp

theorem count_none (s : Bs) (c : UInt8) (h : c ∉ s) : count s [c] = 0 := by
  unfold count
  rw [countFrom, index_one_none s c h]
  rfl

theorem countFrom_fuel (c : UInt8) : ∀ (n m : Nat) (s : Bs), s.length < n → s.length < m → countFrom [c] n s = countFrom [c] m s
  | 0, _, _, h, _ => absurd h (by omega)
  | _, 0, _, _, h => absurd h (by omega)
  | n + 1, m + 1, s, hn, hm => by
    unfold countFrom
    rcases index_spec s [c] with ⟨h1, _⟩ | ⟨i, h1, h2, h3, _⟩
    · rw [h1]; rfl
    · have hr := index_room s [c] (by omega)
      rw [h1] at hr ⊢
      simp only [List.length_singleton] at hr
      have hl : (s.drop ((i : Int).toNat + [c].length)).length < s.length := by simp; omega
      rw [countFrom_fuel c n m _ (by omega) (by omega)]

theorem split_none (s : Bs) (c : UInt8) (h : c ∉ s) : split s [c] = [s] := by
  unfold split
  rw [count_none s c h]
  rfl

theorem split_hit (a t : Bs) (c : UInt8) (h : c ∉ a) : split (a ++ c :: t) [c] = a :: split t [c] := by
  have hc : count (a ++ c :: t) [c] = count t [c] + 1 := by
    unfold count
    rw [countFrom, index_one_hit a t c h, if_neg (by simp)]
    have e : (a ++ c :: t).drop ((a.length : Int).toNat + [c].length) = t := by simp
    rw [e, countFrom_fuel c _ (t.length + 1) t (by simp; omega) (by omega)]
    omega
  unfold split
  rw [hc, splitK, index_one_hit a t c h, if_neg (by simp)]
  simp


/-! ### Numerals: what is printed reads back -/
theorem decDigits_mem (u : Nat) : ∀ b ∈ decDigits u, 48 ≤ b.toNat ∧ b.toNat ≤ 57 := by
  induction u using Nat.strongRecOn with
  | _ u ih =>
    intro b hb
    rw [decDigits] at hb
    split at hb
    · simp only [List.mem_singleton] at hb
      subst hb
      rw [UInt8.toNat_ofNat']
      omega
    · rcases List.mem_append.1 hb with h | h
      · exact ih _ (by omega) b h
      · simp only [List.mem_singleton] at h
        subst h
        rw [UInt8.toNat_ofNat']
        omega

theorem decDigits_ne (u : Nat) : decDigits u ≠ [] := by
  rw [decDigits]
  split <;> simp

theorem parse_snoc : ∀ (l : Bs) (acc : Nat) (d : Nat), d < 10 → ∀ v, parseUint10 acc l = .ok v → v * 10 + d < 18446744073709551616 →
    parseUint10 acc (l ++ [UInt8.ofNat (48 + d)]) = .ok (v * 10 + d)
  | [], acc, d, hd, v, h, hv => by
    simp only [parseUint10] at h
    injection h with h
    subst h
    simp only [List.nil_append, parseUint10]
    have e : (UInt8.ofNat (48 + d)).toNat = 48 + d := by rw [UInt8.toNat_ofNat']; omega
    rw [e, if_pos (by omega), if_neg (by omega), if_neg (by omega)]
    have e2 : acc * 10 + (48 + d - 48) = acc * 10 + d := by omega
    rw [e2]
  | c :: r, acc, d, hd, v, h, hv => by
    simp only [parseUint10] at h
    simp only [List.cons_append, parseUint10]
    split at h
    · rename_i h1
      rw [if_pos h1]
      split at h
      · cases h
      · rename_i h2
        rw [if_neg h2]
        split at h
        · cases h
        · rename_i h3
          rw [if_neg h3]
          exact parse_snoc r _ d hd v h hv
    · cases h

theorem parse_digits (u : Nat) : u < 18446744073709551616 → parseUint10 0 (decDigits u) = .ok u := by
  induction u using Nat.strongRecOn with
  | _ u ih =>
    intro hu
    rw [decDigits]
    split
    · rename_i h
      have := parse_snoc [] 0 u h 0 rfl (by omega)
      simpa using this
    · have := parse_snoc (decDigits (u / 10)) 0 (u % 10) (by omega) (u / 10) (ih _ (by omega) (by omega)) (by omega)
      rw [this]
      congr 1
      omega

theorem atoi_itoa (n : Int) (h0 : 0 ≤ n) (h1 : n ≤ 9223372036854775807) : atoiAll (itoa n) = .ok n := by
  unfold itoa
  rw [if_neg (by omega)]
  have hm := decDigits_mem n.toNat
  have hp := parse_digits n.toNat (by omega)
  cases hd : decDigits n.toNat with
  | nil => exact absurd hd (decDigits_ne _)
  | cons c r =>
    rw [hd] at hp hm
    have hc := hm c (by simp)
    unfold atoiAll
    simp only
    rw [if_neg (by omega)]
    unfold parseMag
    rw [if_neg (by simp), hp]
    simp only
    rw [if_neg (by omega), if_neg (by omega), if_neg (by omega)]
    congr 1
    omega

theorem itoa_mem (n : Int) (h0 : 0 ≤ n) : ∀ b ∈ itoa n, 48 ≤ b.toNat ∧ b.toNat ≤ 57 := by
  unfold itoa
  rw [if_neg (by omega)]
  exact decDigits_mem _

theorem numW_itoa (n : Int) (h0 : 0 ≤ n) (h1 : n ≤ 9223372036854775807) : numW (itoa n) = some n := by
  unfold numW
  rw [atoi_itoa n h0 h1]
  simp only
  rw [if_neg (by omega)]
  simp

/-! ### Bytes: what is printed reads back -/
theorem hexd_toNat (n : Nat) (h : n < 16) : (hexd n).toNat = if n < 10 then 48 + n else 87 + n := by
  unfold hexd
  split <;> rw [UInt8.toNat_ofNat'] <;> omega

theorem nib_hexd (n : Nat) (h : n < 16) : nib (hexd n) = n := by
  unfold nib
  rw [hexd_toNat n h]
  split <;> split at * <;> omega

theorem hexd_mem (n : Nat) (h : n < 16) : hexd n ∈ digits := by
  have : ∀ m, m < 16 → hexd m ∈ digits := by decide
  exact this n h

theorem hex_cons (c : UInt8) (b : Bs) : hex (c :: b) = hexd (c.toNat / 16) :: hexd (c.toNat % 16) :: hex b := rfl

theorem unhex_hex : ∀ b : Bs, unhex (hex b) = b
  | [] => rfl
  | c :: b => by
    have := c.toNat_lt
    rw [hex_cons, unhex, nib_hexd _ (by omega), nib_hexd _ (by omega), unhex_hex b]
    congr 1
    have e : c.toNat / 16 * 16 + c.toNat % 16 = c.toNat := by omega
    rw [e]
    simp

theorem hex_mem : ∀ (b : Bs), ∀ x ∈ hex b, x ∈ digits
  | [], _, h => by cases h
  | c :: b, x, h => by
    have := c.toNat_lt
    rw [hex_cons] at h
    rcases List.mem_cons.1 h with rfl | h
    · exact hexd_mem _ (by omega)
    · rcases List.mem_cons.1 h with rfl | h
      · exact hexd_mem _ (by omega)
      · exact hex_mem b x h

theorem hex_length : ∀ b : Bs, (hex b).length = 2 * b.length
  | [] => rfl
  | c :: b => by rw [hex_cons]; simp only [List.length_cons, hex_length b]; omega

theorem dropWhile_all {p : UInt8 → Bool} : ∀ (l : Bs), (∀ x ∈ l, p x = true) → l.dropWhile p = []
  | [], _ => rfl
  | c :: l, h => by rw [List.dropWhile_cons_of_pos (h c (by simp))]; exact dropWhile_all l fun x hx => h x (by simp [hx])

theorem trim_digits (l : Bs) (h : ∀ x ∈ l, x ∈ digits) : trimS l digits = [] := by
  have e : trimRightS l digits = [] := by
    unfold trimRightS
    rw [dropWhile_all _ fun x hx => by simpa using h x (by simpa using hx)]
    rfl
  unfold trimS
  rw [e]
  rfl

theorem okBytes_hexw (b : Bs) : okBytes (hexw b) = true := by
  unfold okBytes hexw
  simp only [List.drop_succ_cons, List.drop_zero]
  rw [trim_digits _ (hex_mem b), hex_length]
  simp [hasPrefix]

/-! ### A printed line's words -/
theorem itoa_blank (n : Int) (h0 : 0 ≤ n) (c : UInt8) (hc : c.toNat < 48) : c ∉ itoa n := fun h => by have := itoa_mem n h0 c h; omega
theorem digits_range : ∀ x ∈ digits, 48 ≤ x.toNat := by decide
theorem hexw_blank (b : Bs) (c : UInt8) (hc : c.toNat < 48) : c ∉ hexw b := fun h => by
  unfold hexw at h
  rcases List.mem_cons.1 h with rfl | h
  · exact absurd hc (by decide)
  · have := digits_range c (hex_mem b c h); omega

theorem split_two (a t : Bs) (h : (32 : UInt8) ∉ a) : split (a ++ 32 :: t) [32] = a :: split t [32] := split_hit a t 32 h

theorem words_cf (c : Cf) (h : 0 ≤ c.level ∧ 0 ≤ c.minSize ∧ 0 ≤ c.cap ∧ 0 ≤ c.buffer ∧ 0 ≤ c.timeout) :
    words (cfLine c) = [kwConfig, itoa c.level, itoa c.minSize, itoa c.cap, itoa c.buffer, itoa c.timeout] := by
  obtain ⟨h1, h2, h3, h4, h5⟩ := h
  unfold words cfLine num
  simp only [List.append_assoc, List.cons_append]
  rw [split_two _ _ (by decide), split_two _ _ (itoa_blank _ h1 _ (by decide)), split_two _ _ (itoa_blank _ h2 _ (by decide)), split_two _ _ (itoa_blank _ h3 _ (by decide)),
    split_two _ _ (itoa_blank _ h4 _ (by decide)), split_none _ _ (itoa_blank _ h5 _ (by decide))]

theorem words_rt (r : Rt) (h : 0 ≤ r.up) : words (rtLine r) = [kwRoute, hexw r.host, hexw r.pre, itoa r.up] := by
  unfold words rtLine num wd
  simp only [List.append_assoc, List.cons_append]
  rw [split_two _ _ (by decide), split_two _ _ (hexw_blank _ _ (by decide)), split_two _ _ (hexw_blank _ _ (by decide)), split_none _ _ (itoa_blank _ h _ (by decide))]

theorem words_ty (t : Bs) : words (tyLine t) = [kwType, hexw t] := by
  unfold words tyLine wd
  rw [split_two _ _ (by decide), split_none _ _ (hexw_blank _ _ (by decide))]

theorem words_ac (a : Ac) (h : 0 ≤ a.kind ∧ 0 ≤ a.conn ∧ 0 ≤ a.n) : words (acLine a) = [kwAct, itoa a.kind, itoa a.conn, itoa a.n, hexw a.data] := by
  obtain ⟨h1, h2, h3⟩ := h
  unfold words acLine num wd
  simp only [List.append_assoc, List.cons_append]
  rw [split_two _ _ (by decide), split_two _ _ (itoa_blank _ h1 _ (by decide)), split_two _ _ (itoa_blank _ h2 _ (by decide)), split_two _ _ (itoa_blank _ h3 _ (by decide)),
    split_none _ _ (hexw_blank _ _ (by decide))]

/-- a number that may be printed and is an int. -/
def Ok (n : Int) : Prop := 0 ≤ n ∧ n ≤ 9223372036854775807
def Cf.Ok (c : Cf) : Prop := Sc.Ok c.level ∧ Sc.Ok c.minSize ∧ Sc.Ok c.cap ∧ Sc.Ok c.buffer ∧ Sc.Ok c.timeout ∧ ∀ r ∈ c.routes, Sc.Ok r.up
def Ac.Ok (a : Ac) : Prop := Sc.Ok a.kind ∧ Sc.Ok a.conn ∧ Sc.Ok a.n

theorem rnumber_hit (n : Int) (h : Ok n) (ws : List Bs) (bad : Bool) : rnumber ⟨itoa n :: ws, bad⟩ = (n, ⟨ws, bad⟩) := by
  unfold rnumber rnext
  simp only [numW_itoa n h.1 h.2]

theorem rbytes_hit (b : Bs) (ws : List Bs) (bad : Bool) : rbytes ⟨hexw b :: ws, bad⟩ = (b, ⟨ws, bad⟩) := by
  unfold rbytes rnext
  simp only [okBytes_hexw, if_true]
  have e : (hexw b).drop 1 = hex b := rfl
  rw [e, unhex_hex]

theorem lineM_cf (f : Fl) (c : Cf) (h : c.Ok) : lineM f (cfLine c) =
    (1, ⟨{ f.cf with level := c.level, minSize := c.minSize, cap := c.cap, buffer := c.buffer, timeout := c.timeout }, f.acts⟩) := by
  obtain ⟨h1, h2, h3, h4, h5, _⟩ := h
  have hw := words_cf c ⟨h1.1, h2.1, h3.1, h4.1, h5.1⟩
  simp [lineM, lineK, hw, rnext, lineCf, rnumber_hit _ h1, rnumber_hit _ h2, rnumber_hit _ h3, rnumber_hit _ h4, rnumber_hit _ h5]

theorem lineM_rt (f : Fl) (r : Rt) (h : Ok r.up) : lineM f (rtLine r) = (2, ⟨{ f.cf with routes := f.cf.routes ++ [r] }, f.acts⟩) := by
  have hw := words_rt r h.1
  have k1 : ¬ kwRoute = kwConfig := by decide
  simp [lineM, lineK, hw, rnext, k1, lineRt, rnumber_hit _ h, rbytes_hit]

theorem lineM_ty (f : Fl) (t : Bs) : lineM f (tyLine t) = (3, ⟨{ f.cf with types := f.cf.types ++ [t] }, f.acts⟩) := by
  have hw := words_ty t
  have k1 : ¬ kwType = kwConfig := by decide
  have k2 : ¬ kwType = kwRoute := by decide
  simp [lineM, lineK, hw, rnext, k1, k2, lineTy, rbytes_hit]

theorem lineM_ac (f : Fl) (a : Ac) (h : a.Ok) : lineM f (acLine a) = (4, ⟨f.cf, f.acts ++ [a]⟩) := by
  obtain ⟨h1, h2, h3⟩ := h
  have hw := words_ac a ⟨h1.1, h2.1, h3.1⟩
  have k1 : ¬ kwAct = kwConfig := by decide
  have k2 : ¬ kwAct = kwRoute := by decide
  have k3 : ¬ kwAct = kwType := by decide
  simp [lineM, lineK, hw, rnext, k1, k2, k3, lineAc, rnumber_hit _ h1, rnumber_hit _ h2, rnumber_hit _ h3, rbytes_hit]

/-! ### Lines end where they end -/
theorem cfLine_end (c : Cf) (h : c.Ok) : (10 : UInt8) ∉ cfLine c := by
  obtain ⟨h1, h2, h3, h4, h5, _⟩ := h
  unfold cfLine num
  simp only [List.mem_append, List.mem_cons, not_or]
  have k : (10 : UInt8) ∉ kwConfig := by decide
  have b : ¬ (10 : UInt8) = 32 := by decide
  exact ⟨⟨⟨⟨⟨k, b, itoa_blank _ h1.1 _ (by decide)⟩, b, itoa_blank _ h2.1 _ (by decide)⟩, b, itoa_blank _ h3.1 _ (by decide)⟩, b, itoa_blank _ h4.1 _ (by decide)⟩, b, itoa_blank _ h5.1 _ (by decide)⟩
theorem rtLine_end (r : Rt) (h : Ok r.up) : (10 : UInt8) ∉ rtLine r := by
  unfold rtLine num wd
  simp only [List.mem_append, List.mem_cons, not_or]
  have b : ¬ (10 : UInt8) = 32 := by decide
  exact ⟨⟨⟨by decide, b, hexw_blank _ _ (by decide)⟩, b, hexw_blank _ _ (by decide)⟩, b, itoa_blank _ h.1 _ (by decide)⟩
theorem tyLine_end (t : Bs) : (10 : UInt8) ∉ tyLine t := by
  unfold tyLine wd
  simp only [List.mem_append, List.mem_cons, not_or]
  exact ⟨by decide, by decide, hexw_blank _ _ (by decide)⟩
theorem acLine_end (a : Ac) (h : a.Ok) : (10 : UInt8) ∉ acLine a := by
  obtain ⟨h1, h2, h3⟩ := h
  unfold acLine num wd
  simp only [List.mem_append, List.mem_cons, not_or]
  have b : ¬ (10 : UInt8) = 32 := by decide
  exact ⟨⟨⟨⟨by decide, b, itoa_blank _ h1.1 _ (by decide)⟩, b, itoa_blank _ h2.1 _ (by decide)⟩, b, itoa_blank _ h3.1 _ (by decide)⟩, b, hexw_blank _ _ (by decide)⟩

/-! ### One round of the reader -/
theorem parseF_step (k n last : Nat) (f f' : Fl) (l t : Bs) (kind : Nat) (h : (10 : UInt8) ∉ l) (hl : lineM f l = (kind, f')) (hw : wrongOrder true kind last = false) :
    parseF (k + 1) n last f (l ++ 10 :: t) = parseF k (n + 1) kind f' t := by
  rw [parseF, if_neg (by simp), cut_hit l t 10 h]
  simp only [hl, hw]
  rfl

theorem parseF_bad (k n last : Nat) (f : Fl) (l t : Bs) (h : (10 : UInt8) ∉ l) (hw : wrongOrder true (lineM f l).1 last = true) :
    parseF (k + 1) n last f (l ++ 10 :: t) = ⟨Cf.zero, [], n, 9⟩ := by
  rw [parseF, if_neg (by simp), cut_hit l t 10 h]
  simp only [hw, if_true]

theorem parseF_done (k n last : Nat) (f : Fl) (h : last ≠ 0) : parseF (k + 1) n last f [] = ⟨f.cf, f.acts, 0, 0⟩ := by
  rw [parseF, if_pos ⟨rfl, h⟩]

theorem parseF_acts : ∀ (as : List Ac), (∀ a ∈ as, a.Ok) → ∀ (k n last : Nat) (f : Fl) (t : Bs), 1 ≤ last → last ≤ 4 → ∃ last', 1 ≤ last' ∧ last' ≤ 4 ∧
    parseF (k + as.length) n last f (joinL (as.map acLine) ++ t) = parseF k (n + as.length) last' ⟨f.cf, f.acts ++ as⟩ t
  | [], _, k, n, last, f, t, h1, h4 => ⟨last, h1, h4, by simp [joinL]⟩
  | a :: as, h, k, n, last, f, t, h1, h4 => by
    obtain ⟨l', g1, g4, g⟩ := parseF_acts as (fun x hx => h x (by simp [hx])) k (n + 1) 4 ⟨f.cf, f.acts ++ [a]⟩ t (by omega) (by omega)
    refine ⟨l', g1, g4, ?_⟩
    have ha := h a (by simp)
    have e : joinL ((a :: as).map acLine) ++ t = acLine a ++ 10 :: (joinL (as.map acLine) ++ t) := by simp [joinL]
    rw [e, List.length_cons, ← Nat.add_assoc k, parseF_step _ _ _ _ _ _ _ 4 (acLine_end a ha) (lineM_ac f a ha) (by simp [wrongOrder]; omega), g]
    congr 1
    · omega
    · simp

theorem parseF_types : ∀ (ts : List Bs), ∀ (k n last : Nat) (f : Fl) (t : Bs), 1 ≤ last → last ≤ 3 → ∃ last', 1 ≤ last' ∧ last' ≤ 3 ∧
    parseF (k + ts.length) n last f (joinL (ts.map tyLine) ++ t) = parseF k (n + ts.length) last' ⟨{ f.cf with types := f.cf.types ++ ts }, f.acts⟩ t
  | [], k, n, last, f, t, h1, h4 => ⟨last, h1, h4, by simp [joinL]⟩
  | a :: as, k, n, last, f, t, h1, h4 => by
    obtain ⟨l', g1, g4, g⟩ := parseF_types as k (n + 1) 3 ⟨{ f.cf with types := f.cf.types ++ [a] }, f.acts⟩ t (by omega) (by omega)
    refine ⟨l', g1, g4, ?_⟩
    have e : joinL ((a :: as).map tyLine) ++ t = tyLine a ++ 10 :: (joinL (as.map tyLine) ++ t) := by simp [joinL]
    rw [e, List.length_cons, ← Nat.add_assoc k, parseF_step _ _ _ _ _ _ _ 3 (tyLine_end a) (lineM_ty f a) (by simp [wrongOrder]; omega), g]
    congr 1
    · omega
    · simp

theorem parseF_routes : ∀ (rs : List Rt), (∀ r ∈ rs, Ok r.up) → ∀ (k n last : Nat) (f : Fl) (t : Bs), 1 ≤ last → last ≤ 2 → ∃ last', 1 ≤ last' ∧ last' ≤ 2 ∧
    parseF (k + rs.length) n last f (joinL (rs.map rtLine) ++ t) = parseF k (n + rs.length) last' ⟨{ f.cf with routes := f.cf.routes ++ rs }, f.acts⟩ t
  | [], _, k, n, last, f, t, h1, h4 => ⟨last, h1, h4, by simp [joinL]⟩
  | a :: as, h, k, n, last, f, t, h1, h4 => by
    obtain ⟨l', g1, g4, g⟩ := parseF_routes as (fun x hx => h x (by simp [hx])) k (n + 1) 2 ⟨{ f.cf with routes := f.cf.routes ++ [a] }, f.acts⟩ t (by omega) (by omega)
    refine ⟨l', g1, g4, ?_⟩
    have ha := h a (by simp)
    have e : joinL ((a :: as).map rtLine) ++ t = rtLine a ++ 10 :: (joinL (as.map rtLine) ++ t) := by simp [joinL]
    rw [e, List.length_cons, ← Nat.add_assoc k, parseF_step _ _ _ _ _ _ _ 2 (rtLine_end a ha) (lineM_rt f a ha) (by simp [wrongOrder]; omega), g]
    congr 1
    · omega
    · simp

theorem joinL_cons (l : Bs) (ls : List Bs) : joinL (l :: ls) = l ++ 10 :: joinL ls := by simp [joinL]
theorem joinL_append (a b : List Bs) : joinL (a ++ b) = joinL a ++ joinL b := by simp [joinL]
theorem joinL_length : ∀ ls : List Bs, ls.length ≤ (joinL ls).length
  | [] => Nat.le_refl _
  | l :: ls => by rw [joinL_cons]; have := joinL_length ls; simp only [List.length_cons, List.length_append]; omega

/-- Behind a whole text the reader stands at its end, and has read just that. -/
theorem parseF_text (c : Cf) (as : List Ac) (hc : c.Ok) (ha : ∀ a ∈ as, a.Ok) (k : Nat) (t : Bs) : ∃ last', 1 ≤ last' ∧ last' ≤ 4 ∧
    parseF (k + as.length + c.types.length + c.routes.length + 1) 1 0 Fl.zero (text c as ++ t) = parseF k (2 + c.routes.length + c.types.length + as.length) last' ⟨c, as⟩ t := by
  have e : text c as ++ t = cfLine c ++ 10 :: (joinL (c.routes.map rtLine) ++ (joinL (c.types.map tyLine) ++ (joinL (as.map acLine) ++ t))) := by
    unfold text allLines
    rw [joinL_cons, joinL_append, joinL_append]
    simp
  rw [e, parseF_step _ _ _ _ _ _ _ 1 (cfLine_end c hc) (lineM_cf _ c hc) (by decide)]
  obtain ⟨l2, a2, b2, g2⟩ := parseF_routes c.routes hc.2.2.2.2.2 (k + as.length + c.types.length) (1 + 1) 1
    ⟨{ Fl.zero.cf with level := c.level, minSize := c.minSize, cap := c.cap, buffer := c.buffer, timeout := c.timeout }, Fl.zero.acts⟩ (joinL (c.types.map tyLine) ++ (joinL (as.map acLine) ++ t)) (by omega) (by omega)
  rw [g2]
  obtain ⟨l3, a3, b3, g3⟩ := parseF_types c.types (k + as.length) (1 + 1 + c.routes.length) l2
    ⟨{ Fl.zero.cf with routes := Fl.zero.cf.routes ++ c.routes, level := c.level, minSize := c.minSize, cap := c.cap, buffer := c.buffer, timeout := c.timeout }, Fl.zero.acts⟩ (joinL (as.map acLine) ++ t) a2 (by omega)
  rw [g3]
  obtain ⟨l4, a4, b4, g4⟩ := parseF_acts as ha k (1 + 1 + c.routes.length + c.types.length) l3
    ⟨{ Fl.zero.cf with routes := Fl.zero.cf.routes ++ c.routes, types := Fl.zero.cf.types ++ c.types, level := c.level, minSize := c.minSize, cap := c.cap, buffer := c.buffer, timeout := c.timeout }, Fl.zero.acts⟩ t a3 (by omega)
  rw [g4]
  exact ⟨l4, a4, b4, by simp [Fl.zero, Cf.zero]⟩

theorem text_lines (c : Cf) (as : List Ac) : (allLines c as).length = 1 + c.routes.length + c.types.length + as.length := by
  simp only [allLines, List.length_cons, List.length_append, List.length_map]; omega

/-- WHAT IS PRINTED IS READ AS IT WAS. -/
theorem parse_text (c : Cf) (as : List Ac) (hc : c.Ok) (ha : ∀ a ∈ as, a.Ok) : parse (text c as) = ⟨c, as, 0, 0⟩ := by
  have hlen := text_lines c as
  have hle := joinL_length (allLines c as)
  obtain ⟨k, hk⟩ : ∃ k, (text c as).length + 2 = k + 1 + as.length + c.types.length + c.routes.length + 1 := ⟨(text c as).length + 2 - (2 + as.length + c.types.length + c.routes.length), by unfold text; omega⟩
  obtain ⟨l, h1, _, h⟩ := parseF_text c as hc ha (k + 1) []
  rw [List.append_nil] at h
  unfold parse
  rw [hk, h, parseF_done _ _ _ _ (by omega)]

/-! ### The first line that is wrong -/
def badLine : Nat → Bs
  | 0 => []
  | 1 => [119, 104, 97, 116]
  | 2 => [99, 111, 110, 102, 105, 103, 32, 49, 32, 50, 32, 51, 32, 52, 32, 53]
  | 3 => [114, 111, 117, 116, 101, 32, 120, 32, 120]
  | 4 => [114, 111, 117, 116, 101, 32, 120, 32, 120, 32, 45, 49]
  | 5 => [116, 121, 112, 101]
  | 6 => [116, 121, 112, 101, 32, 120, 103, 48]
  | 7 => [116, 121, 112, 101, 32, 120, 49]
  | 8 => [97, 99, 116, 32, 49, 32, 50, 32, 51]
  | 9 => [97, 99, 116, 32, 49, 32, 50, 32, 51, 32, 120, 32, 120]
  | 10 => [97, 99, 116, 32, 48, 49, 32, 50, 32, 51, 32, 120]
  | 11 => [97, 99, 116, 32, 49, 32, 32, 50, 32, 51, 32, 120]
  | 12 => [97, 99, 116, 32, 49, 32, 50, 32, 51, 32, 88]
  | _ => [32, 97, 99, 116, 32, 49, 32, 50, 32, 51, 32, 120]

theorem numW_nil : numW [] = none := rfl
theorem numW_minus : numW [45, 49] = none := rfl
theorem itoa_one : itoa 1 = [49] := by unfold itoa; rw [if_neg (by omega)]; rw [decDigits]; rfl
theorem itoa_two : itoa 2 = [50] := by unfold itoa; rw [if_neg (by omega)]; rw [decDigits]; rfl
theorem itoa_three : itoa 3 = [51] := by unfold itoa; rw [if_neg (by omega)]; rw [decDigits]; rfl
theorem itoa_four : itoa 4 = [52] := by unfold itoa; rw [if_neg (by omega)]; rw [decDigits]; rfl
theorem itoa_five : itoa 5 = [53] := by unfold itoa; rw [if_neg (by omega)]; rw [decDigits]; rfl
theorem numW_one : numW [49] = some 1 := by rw [← itoa_one]; exact numW_itoa 1 (by omega) (by omega)
theorem numW_two : numW [50] = some 2 := by rw [← itoa_two]; exact numW_itoa 2 (by omega) (by omega)
theorem numW_three : numW [51] = some 3 := by rw [← itoa_three]; exact numW_itoa 3 (by omega) (by omega)
theorem numW_four : numW [52] = some 4 := by rw [← itoa_four]; exact numW_itoa 4 (by omega) (by omega)
theorem numW_five : numW [53] = some 5 := by rw [← itoa_five]; exact numW_itoa 5 (by omega) (by omega)
theorem numW_nought : numW [48, 49] = none := by
  have : atoiAll [48, 49] = .ok 1 := rfl
  unfold numW
  rw [this]
  simp only
  rw [itoa_one]
  decide
theorem bw0 : words [] = [[]] := by decide
theorem bw1 : words [119, 104, 97, 116] = [[119, 104, 97, 116]] := by decide
theorem bw2 : words [99, 111, 110, 102, 105, 103, 32, 49, 32, 50, 32, 51, 32, 52, 32, 53] = [[99, 111, 110, 102, 105, 103], [49], [50], [51], [52], [53]] := by decide
theorem bw3 : words [114, 111, 117, 116, 101, 32, 120, 32, 120] = [[114, 111, 117, 116, 101], [120], [120]] := by decide
theorem bw4 : words [114, 111, 117, 116, 101, 32, 120, 32, 120, 32, 45, 49] = [[114, 111, 117, 116, 101], [120], [120], [45, 49]] := by decide
theorem bw5 : words [116, 121, 112, 101] = [[116, 121, 112, 101]] := by decide
theorem bw6 : words [116, 121, 112, 101, 32, 120, 103, 48] = [[116, 121, 112, 101], [120, 103, 48]] := by decide
theorem bw7 : words [116, 121, 112, 101, 32, 120, 49] = [[116, 121, 112, 101], [120, 49]] := by decide
theorem bw8 : words [97, 99, 116, 32, 49, 32, 50, 32, 51] = [[97, 99, 116], [49], [50], [51]] := by decide
theorem bw9 : words [97, 99, 116, 32, 49, 32, 50, 32, 51, 32, 120, 32, 120] = [[97, 99, 116], [49], [50], [51], [120], [120]] := by decide
theorem bw10 : words [97, 99, 116, 32, 48, 49, 32, 50, 32, 51, 32, 120] = [[97, 99, 116], [48, 49], [50], [51], [120]] := by decide
theorem bw11 : words [97, 99, 116, 32, 49, 32, 32, 50, 32, 51, 32, 120] = [[97, 99, 116], [49], [], [50], [51], [120]] := by decide
theorem bw12 : words [97, 99, 116, 32, 49, 32, 50, 32, 51, 32, 88] = [[97, 99, 116], [49], [50], [51], [88]] := by decide
theorem bw13 : words [32, 97, 99, 116, 32, 49, 32, 50, 32, 51, 32, 120] = [[], [97, 99, 116], [49], [50], [51], [120]] := by decide
theorem kwC : kwConfig = [99, 111, 110, 102, 105, 103] := rfl
theorem kwR : kwRoute = [114, 111, 117, 116, 101] := rfl
theorem kwT : kwType = [116, 121, 112, 101] := rfl
theorem kwA : kwAct = [97, 99, 116] := rfl
theorem ob0 : okBytes [] = false := by decide
theorem ob1 : okBytes [120] = true := by decide
theorem ob2 : okBytes [120, 103, 48] = false := by decide
theorem ob3 : okBytes [120, 49] = false := by decide
theorem ob4 : okBytes [88] = false := by decide
theorem ob5 : okBytes [51] = false := by decide
theorem bad0 (f : Fl) : (lineM f []).1 = 0 := by
  simp [lineM, lineK, bw0, rnext, kwC, kwR, kwT, kwA, lineRt, lineTy, lineAc, rnumber, rbytes, numW_nil, numW_minus, numW_one, numW_two, numW_three, numW_nought, ob0, ob1, ob2, ob3, ob4, ob5]
theorem bad1 (f : Fl) : (lineM f [119, 104, 97, 116]).1 = 0 := by
  simp [lineM, lineK, bw1, rnext, kwC, kwR, kwT, kwA, lineRt, lineTy, lineAc, rnumber, rbytes, numW_nil, numW_minus, numW_one, numW_two, numW_three, numW_nought, ob0, ob1, ob2, ob3, ob4, ob5]
theorem bad2 (f : Fl) : (lineM f [99, 111, 110, 102, 105, 103, 32, 49, 32, 50, 32, 51, 32, 52, 32, 53]).1 = 1 := by
  simp [lineM, lineK, bw2, rnext, kwC, lineCf, rnumber, numW_one, numW_two, numW_three, numW_four, numW_five]
theorem bad3 (f : Fl) : (lineM f [114, 111, 117, 116, 101, 32, 120, 32, 120]).1 = 0 := by
  simp [lineM, lineK, bw3, rnext, kwC, kwR, kwT, kwA, lineRt, lineTy, lineAc, rnumber, rbytes, numW_nil, numW_minus, numW_one, numW_two, numW_three, numW_nought, ob0, ob1, ob2, ob3, ob4, ob5]
theorem bad4 (f : Fl) : (lineM f [114, 111, 117, 116, 101, 32, 120, 32, 120, 32, 45, 49]).1 = 0 := by
  simp [lineM, lineK, bw4, rnext, kwC, kwR, kwT, kwA, lineRt, lineTy, lineAc, rnumber, rbytes, numW_nil, numW_minus, numW_one, numW_two, numW_three, numW_nought, ob0, ob1, ob2, ob3, ob4, ob5]
theorem bad5 (f : Fl) : (lineM f [116, 121, 112, 101]).1 = 0 := by
  simp [lineM, lineK, bw5, rnext, kwC, kwR, kwT, kwA, lineRt, lineTy, lineAc, rnumber, rbytes, numW_nil, numW_minus, numW_one, numW_two, numW_three, numW_nought, ob0, ob1, ob2, ob3, ob4, ob5]
theorem bad6 (f : Fl) : (lineM f [116, 121, 112, 101, 32, 120, 103, 48]).1 = 0 := by
  simp [lineM, lineK, bw6, rnext, kwC, kwR, kwT, kwA, lineRt, lineTy, lineAc, rnumber, rbytes, numW_nil, numW_minus, numW_one, numW_two, numW_three, numW_nought, ob0, ob1, ob2, ob3, ob4, ob5]
theorem bad7 (f : Fl) : (lineM f [116, 121, 112, 101, 32, 120, 49]).1 = 0 := by
  simp [lineM, lineK, bw7, rnext, kwC, kwR, kwT, kwA, lineRt, lineTy, lineAc, rnumber, rbytes, numW_nil, numW_minus, numW_one, numW_two, numW_three, numW_nought, ob0, ob1, ob2, ob3, ob4, ob5]
theorem bad8 (f : Fl) : (lineM f [97, 99, 116, 32, 49, 32, 50, 32, 51]).1 = 0 := by
  simp [lineM, lineK, bw8, rnext, kwC, kwR, kwT, kwA, lineRt, lineTy, lineAc, rnumber, rbytes, numW_nil, numW_minus, numW_one, numW_two, numW_three, numW_nought, ob0, ob1, ob2, ob3, ob4, ob5]
theorem bad9 (f : Fl) : (lineM f [97, 99, 116, 32, 49, 32, 50, 32, 51, 32, 120, 32, 120]).1 = 0 := by
  simp [lineM, lineK, bw9, rnext, kwC, kwR, kwT, kwA, lineRt, lineTy, lineAc, rnumber, rbytes, numW_nil, numW_minus, numW_one, numW_two, numW_three, numW_nought, ob0, ob1, ob2, ob3, ob4, ob5]
theorem bad10 (f : Fl) : (lineM f [97, 99, 116, 32, 48, 49, 32, 50, 32, 51, 32, 120]).1 = 0 := by
  simp [lineM, lineK, bw10, rnext, kwC, kwR, kwT, kwA, lineRt, lineTy, lineAc, rnumber, rbytes, numW_nil, numW_minus, numW_one, numW_two, numW_three, numW_nought, ob0, ob1, ob2, ob3, ob4, ob5]
theorem bad11 (f : Fl) : (lineM f [97, 99, 116, 32, 49, 32, 32, 50, 32, 51, 32, 120]).1 = 0 := by
  simp [lineM, lineK, bw11, rnext, kwC, kwR, kwT, kwA, lineRt, lineTy, lineAc, rnumber, rbytes, numW_nil, numW_minus, numW_one, numW_two, numW_three, numW_nought, ob0, ob1, ob2, ob3, ob4, ob5]
theorem bad12 (f : Fl) : (lineM f [97, 99, 116, 32, 49, 32, 50, 32, 51, 32, 88]).1 = 0 := by
  simp [lineM, lineK, bw12, rnext, kwC, kwR, kwT, kwA, lineRt, lineTy, lineAc, rnumber, rbytes, numW_nil, numW_minus, numW_one, numW_two, numW_three, numW_nought, ob0, ob1, ob2, ob3, ob4, ob5]
theorem bad13 (f : Fl) : (lineM f [32, 97, 99, 116, 32, 49, 32, 50, 32, 51, 32, 120]).1 = 0 := by
  simp [lineM, lineK, bw13, rnext, kwC, kwR, kwT, kwA, lineRt, lineTy, lineAc, rnumber, rbytes, numW_nil, numW_minus, numW_one, numW_two, numW_three, numW_nought, ob0, ob1, ob2, ob3, ob4, ob5]

theorem bad_end (i : Nat) : (10 : UInt8) ∉ badLine i := by
  match i with
  | 0 => exact (by decide : (10 : UInt8) ∉ badLine 0)
  | 1 => exact (by decide : (10 : UInt8) ∉ badLine 1)
  | 2 => exact (by decide : (10 : UInt8) ∉ badLine 2)
  | 3 => exact (by decide : (10 : UInt8) ∉ badLine 3)
  | 4 => exact (by decide : (10 : UInt8) ∉ badLine 4)
  | 5 => exact (by decide : (10 : UInt8) ∉ badLine 5)
  | 6 => exact (by decide : (10 : UInt8) ∉ badLine 6)
  | 7 => exact (by decide : (10 : UInt8) ∉ badLine 7)
  | 8 => exact (by decide : (10 : UInt8) ∉ badLine 8)
  | 9 => exact (by decide : (10 : UInt8) ∉ badLine 9)
  | 10 => exact (by decide : (10 : UInt8) ∉ badLine 10)
  | 11 => exact (by decide : (10 : UInt8) ∉ badLine 11)
  | 12 => exact (by decide : (10 : UInt8) ∉ badLine 12)
  | _ + 13 => exact (by decide : (10 : UInt8) ∉ badLine 13)
theorem bad_order (i last : Nat) (f : Fl) (h : 1 ≤ last) : wrongOrder true (lineM f (badLine i)).1 last = true := by
  have z : ∀ k, k = 0 → wrongOrder true k last = true := fun k hk => by subst hk; simp [wrongOrder]
  match i with
  | 0 => exact z _ (bad0 f)
  | 1 => exact z _ (bad1 f)
  | 2 => rw [show (lineM f (badLine 2)).1 = 1 from bad2 f]; simp only [wrongOrder]; by_cases h1 : last = 1 <;> simp <;> omega
  | 3 => exact z _ (bad3 f)
  | 4 => exact z _ (bad4 f)
  | 5 => exact z _ (bad5 f)
  | 6 => exact z _ (bad6 f)
  | 7 => exact z _ (bad7 f)
  | 8 => exact z _ (bad8 f)
  | 9 => exact z _ (bad9 f)
  | 10 => exact z _ (bad10 f)
  | 11 => exact z _ (bad11 f)
  | 12 => exact z _ (bad12 f)
  | _ + 13 => exact z _ (bad13 f)

/-- BEHIND LINES THAT ARE RIGHT THE FIRST ONE THAT IS NOT IS TOLD, WHATEVER FOLLOWS. -/
theorem parse_bad (c : Cf) (as : List Ac) (hc : c.Ok) (ha : ∀ a ∈ as, a.Ok) (i : Nat) (t : Bs) :
    parse (text c as ++ (badLine i ++ 10 :: t)) = ⟨Cf.zero, [], (allLines c as).length + 1, 9⟩ := by
  have hlen := text_lines c as
  have hle := joinL_length (allLines c as)
  obtain ⟨k, hk⟩ : ∃ k, (text c as ++ (badLine i ++ 10 :: t)).length + 2 = k + 1 + as.length + c.types.length + c.routes.length + 1 :=
    ⟨(text c as ++ (badLine i ++ 10 :: t)).length + 2 - (2 + as.length + c.types.length + c.routes.length), by simp only [List.length_append, List.length_cons]; unfold text; omega⟩
  obtain ⟨l, h1, _, h⟩ := parseF_text c as hc ha (k + 1) (badLine i ++ 10 :: t)
  unfold parse
  rw [hk, h, parseF_bad _ _ _ _ _ _ (bad_end i) (bad_order i l _ h1), hlen]
  congr 1
  omega

/-- the first m lines (m at least 1) are a text of their own. -/
def Cf.cut (c : Cf) (m : Nat) : Cf := { c with routes := c.routes.take (m - 1), types := c.types.take (m - 1 - c.routes.length) }
theorem lines_take (c : Cf) (as : List Ac) (m : Nat) (h : 1 ≤ m) : (allLines c as).take m = allLines (c.cut m) (as.take (m - 1 - c.routes.length - c.types.length)) := by
  obtain ⟨m, rfl⟩ : ∃ j, m = j + 1 := ⟨m - 1, by omega⟩
  unfold allLines Cf.cut
  simp only [List.take_succ_cons, Nat.add_sub_cancel, List.take_append, List.map_take, List.length_map, List.length_append]
  congr 1
  simp only [List.append_assoc, Nat.sub_sub]
theorem Cf.Ok.cut {c : Cf} (h : c.Ok) (m : Nat) : (c.cut m).Ok := by
  obtain ⟨h1, h2, h3, h4, h5, h6⟩ := h
  exact ⟨h1, h2, h3, h4, h5, fun r hr => h6 r (List.mem_of_mem_take hr)⟩

end Go.Proofs.YtkankjblpmmikaaDoor.Sc
