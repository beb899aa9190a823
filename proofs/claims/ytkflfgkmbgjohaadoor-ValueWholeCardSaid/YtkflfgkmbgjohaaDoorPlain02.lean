/-
  WHAT IS PROVED HERE: what values show, the bytes of numbers and texts, and how both are read back, as plain Lean functions. No program is in sight.
-/
import Derived.Lib.AtoiAll
import Derived.Lib.ItoaNum
import Derived.Lib.ReplaceLaws
import Derived.Lib.VarintDec
import Derived.Lib.Zigzag
set_option linter.unusedVariables false
set_option linter.unusedSimpArgs false
namespace Go.Proofs.YtkflfgkmbgjohaaDoor
open Go.Lib

/-! ### replaceAll, byte by byte -/

theorem replaceAll_eq {s old new : List UInt8} (hne : old ≠ new) : replaceAll s old new = replaceK old new (count s old) s := by
  unfold replaceAll replace replaceNum
  rw [if_neg (by simpa using hne), if_pos (Or.inl (by decide))]
theorem replaceAll_nil {old new : List UInt8} (h : old ≠ []) (hne : old ≠ new) : replaceAll [] old new = [] := by
  have : index [] old = -1 := by unfold index; rw [if_neg (by simpa using h)]
  rw [replaceAll_eq hne, count_miss this, replaceK]
theorem replaceAll_hit {old new s : List UInt8} (h : old ≠ []) (hne : old ≠ new) (hp : old.isPrefixOf s = true) : replaceAll s old new = new ++ replaceAll (s.drop old.length) old new := by
  have hi : index s old = ((0 : Nat) : Int) := by
    cases s with
    | nil => cases old <;> simp_all
    | cons c r => rw [index, if_pos hp]; rfl
  rw [replaceAll_eq hne, replaceAll_eq hne, count_hit h hi, Nat.add_comm 1, replaceK_hit _ _ _ _ _ hi]
  simp
theorem replaceAll_miss {old new r : List UInt8} {c : UInt8} (h : old ≠ []) (hne : old ≠ new) (hp : old.isPrefixOf (c :: r) = false) : replaceAll (c :: r) old new = c :: replaceAll r old new := by
  rw [replaceAll_eq hne, replaceAll_eq hne]
  have hix : index (c :: r) old = if index r old == -1 then -1 else index r old + 1 := by rw [index, hp]; simp
  by_cases hm : index r old = -1
  · rw [count_miss hm, count_miss (by rw [hix, hm]; rfl), replaceK, replaceK]
  · have hge := index_ge r old
    obtain ⟨i, hi⟩ : ∃ i : Nat, index r old = i := ⟨(index r old).toNat, by omega⟩
    have hi' : index (c :: r) old = ((i + 1 : Nat) : Int) := by
      rw [hix, if_neg (by simpa using hm), hi]; rfl
    have e : (c :: r).drop (i + 1 + old.length) = r.drop (i + old.length) := by
      rw [show i + 1 + old.length = (i + old.length) + 1 by omega]; rfl
    rw [count_hit h hi, count_hit h hi', e, Nat.add_comm 1, replaceK_hit _ _ _ _ _ hi, replaceK_hit _ _ _ _ _ hi', e]
    simp

/-! ### quotes -/

def quoteL (t : List UInt8) : List UInt8 := t.flatMap fun c => if c = 39 then [39, 39] else [c]
theorem quoteL_len (t : List UInt8) : (quoteL t).length ≤ 2 * t.length := by
  induction t with
  | nil => simp [quoteL]
  | cons c t ih =>
    have : quoteL (c :: t) = (if c = 39 then [39, 39] else [c]) ++ quoteL t := rfl
    rw [this, List.length_append, List.length_cons]
    split <;> simp <;> omega
theorem replace_quote (t : List UInt8) : replaceAll t [39] [39, 39] = quoteL t := by
  induction t with
  | nil => exact replaceAll_nil (by simp) (by simp)
  | cons c t ih =>
    have e : quoteL (c :: t) = (if c = 39 then [39, 39] else [c]) ++ quoteL t := rfl
    by_cases hc : c = 39
    · subst hc
      rw [replaceAll_hit (by simp) (by simp) (by simp [List.isPrefixOf]), e, ← ih]; rfl
    · rw [replaceAll_miss (by simp) (by simp) (by simp [List.isPrefixOf]; exact fun h => hc h.symm), e, ← ih, if_neg hc]; rfl
theorem replace_back (t : List UInt8) : replaceAll (quoteL t) [39, 39] [39] = t := by
  induction t with
  | nil => exact replaceAll_nil (by simp) (by simp)
  | cons c t ih =>
    have e : quoteL (c :: t) = (if c = 39 then [39, 39] else [c]) ++ quoteL t := rfl
    by_cases hc : c = 39
    · subst hc
      rw [e, if_pos rfl, replaceAll_hit (by simp) (by simp) (by simp [List.isPrefixOf])]
      simpa using ih
    · rw [e, if_neg hc]
      show replaceAll (c :: quoteL t) [39, 39] [39] = _
      rw [replaceAll_miss (by simp) (by simp) (by simp [List.isPrefixOf]; intro h; exact absurd h.symm hc), ih]

/-- The document's way back: of each quote the next byte is passed by. -/
def unqL : List UInt8 → List UInt8
  | [] => []
  | c :: r => c :: unqL (if c = 39 then r.drop 1 else r)
termination_by l => l.length
decreasing_by
  split
  · simp only [List.length_drop, List.length_cons]; omega
  · simp
theorem unqL_quote (t : List UInt8) : unqL (quoteL t) = t := by
  induction t with
  | nil => simp [quoteL, unqL]
  | cons c t ih =>
    have e : quoteL (c :: t) = (if c = 39 then [39, 39] else [c]) ++ quoteL t := rfl
    by_cases hc : c = 39
    · subst hc
      rw [e, if_pos rfl]
      show unqL (39 :: 39 :: quoteL t) = _
      rw [unqL, if_pos rfl]
      simp [ih]
    · rw [e, if_neg hc]
      show unqL (c :: quoteL t) = _
      rw [unqL, if_neg hc, ih]

theorem replaceAll_len2 : ∀ (n : Nat) (t : List UInt8), t.length ≤ n → (replaceAll t [39, 39] [39]).length ≤ t.length := by
  intro n
  induction n with
  | zero =>
    intro t h
    have : t = [] := List.length_eq_zero_iff.1 (by omega)
    subst this
    rw [replaceAll_nil (by simp) (by simp)]; exact Nat.le_refl _
  | succ n ih =>
    intro t h
    cases t with
    | nil => rw [replaceAll_nil (by simp) (by simp)]; exact Nat.le_refl _
    | cons c r =>
      cases hp : ([39, 39] : List UInt8).isPrefixOf (c :: r) with
      | true =>
        rw [replaceAll_hit (by simp) (by simp) hp]
        have hd : ((c :: r).drop ([39, 39] : List UInt8).length).length = r.length - 1 := by simp
        have := ih ((c :: r).drop ([39, 39] : List UInt8).length) (by rw [hd]; simp at h; omega)
        rw [hd] at this
        simp only [List.length_append, List.length_cons, List.length_nil] at *
        have hr : 1 ≤ r.length := by
          cases r with
          | nil => simp [List.isPrefixOf] at hp
          | cons _ _ => simp
        omega
      | false =>
        rw [replaceAll_miss (by simp) (by simp) hp]
        have := ih r (by simp at h; omega)
        simp only [List.length_cons]; omega
theorem replaceAll_len (t : List UInt8) : (replaceAll t [39, 39] [39]).length ≤ t.length := replaceAll_len2 t.length t (Nat.le_refl _)
theorem atoi_range {l : List UInt8} {v : Int} (h : atoiAll l = .ok v) : -9223372036854775808 ≤ v ∧ v ≤ 9223372036854775807 := by
  unfold atoiAll at h
  split at h
  · cases h
  · simp only at h
    split at h
    · cases h
    · cases h
    · split at h
      · cases h
      · split at h
        · cases h
        · rename_i h1 h2
          simp only [NumEnd.ok.injEq] at h
          subst h
          split <;> omega

/-! ### numbers -/

theorem digit_nat {d : Nat} (h : d < 10) : (UInt8.ofNat (48 + d)).toNat = 48 + d := by
  rw [UInt8.toNat_ofNat_of_lt' (by simp [UInt8.size]; omega)]
theorem parse_digit {acc d : Nat} {r : List UInt8} (hd : d < 10) (h : acc * 10 + d < 1000000000000000000) : parseUint10 acc (UInt8.ofNat (48 + d) :: r) = parseUint10 (acc * 10 + d) r := by
  rw [parseUint10, digit_nat hd, if_pos (by omega), if_neg (by omega), if_neg (by omega)]
  congr 1; omega
theorem parse_digits (u : Nat) (hu : u < 1000000000000000000) : ∀ r, parseUint10 0 (decDigits u ++ r) = parseUint10 u r := by
  induction u using Nat.strongRecOn with
  | _ u ih =>
    intro r
    by_cases h : u < 10
    · rw [decDigits, dif_pos h]
      show parseUint10 0 (UInt8.ofNat (48 + u) :: r) = _
      rw [parse_digit h (by omega)]; simp
    · rw [decDigits, dif_neg h, List.append_assoc, ih (u / 10) (by omega) (by omega)]
      show parseUint10 (u / 10) (UInt8.ofNat (48 + u % 10) :: r) = _
      rw [parse_digit (by omega) (by omega)]
      congr 1; omega
theorem decDigits_head (u : Nat) : ∃ d r, d < 10 ∧ decDigits u = UInt8.ofNat (48 + d) :: r := by
  induction u using Nat.strongRecOn with
  | _ u ih =>
    by_cases h : u < 10
    · exact ⟨u, [], h, by rw [decDigits, dif_pos h]⟩
    · obtain ⟨d, r, hd, e⟩ := ih (u / 10) (by omega)
      exact ⟨d, _, hd, by rw [decDigits, dif_neg h, e]; rfl⟩
theorem parseMag_digits (u : Nat) (hu : u < 1000000000000000000) : parseMag (decDigits u) = .ok u := by
  obtain ⟨d, r, _, e⟩ := decDigits_head u
  have h1 := parse_digits u hu []
  rw [List.append_nil] at h1
  unfold parseMag
  rw [if_neg (by rw [e]; simp), h1]; rfl
theorem atoi_itoa (n : Int) (h0 : -1000000000000000000 < n) (h1 : n < 1000000000000000000) : atoiAll (itoa n) = .ok n := by
  unfold itoa
  by_cases hn : n < 0
  · rw [if_pos hn]
    unfold atoiAll
    simp only [show (45 : UInt8).toNat = 45 from rfl, or_true, if_true, parseMag_digits n.natAbs (by omega)]
    rw [if_neg (by simp), if_neg (by simp; omega)]
    congr 1; omega
  · rw [if_neg hn]
    have hp := parseMag_digits n.toNat (by omega)
    obtain ⟨d, r, hd, e⟩ := decDigits_head n.toNat
    rw [e] at hp ⊢
    unfold atoiAll
    simp only [digit_nat hd]
    rw [if_neg (by omega), hp]
    simp only
    rw [if_neg (by omega), if_neg (by omega), if_neg (by omega)]
    congr 1; omega

/-- The document's number of a text: the digits among its first twenty bytes. -/
def numStep (n : Nat) (c : UInt8) : Nat := if 48 ≤ c.toNat ∧ c.toNat ≤ 57 ∧ n < 100000000000000000 then 10 * n + (c.toNat - 48) else n
def numL (l : List UInt8) : Nat := (l.take 20).foldl numStep 0
theorem numStep_lt (n : Nat) (c : UInt8) (h : n < 1000000000000000000) : numStep n c < 1000000000000000000 := by
  unfold numStep; split <;> omega
theorem foldl_digits (u : Nat) (hu : u < 100000000000000000) : (decDigits u).foldl numStep 0 = u := by
  induction u using Nat.strongRecOn with
  | _ u ih =>
    by_cases h : u < 10
    · rw [decDigits, dif_pos h]
      show numStep 0 (UInt8.ofNat (48 + u)) = u
      unfold numStep
      rw [digit_nat h, if_pos (by omega)]; omega
    · rw [decDigits, dif_neg h, List.foldl_append, ih (u / 10) (by omega) (by omega)]
      show numStep (u / 10) (UInt8.ofNat (48 + u % 10)) = u
      unfold numStep
      rw [digit_nat (by omega), if_pos (by omega)]; omega
theorem nDigits_le (k u : Nat) (h : u < 10 ^ (k + 1)) : nDigits u ≤ k + 1 := by
  induction k generalizing u with
  | zero => rw [nDigits_small (by simpa using h)]; exact Nat.le_refl _
  | succ k ih =>
    by_cases hu : u < 10
    · rw [nDigits_small hu]; omega
    · rw [nDigits_big hu]
      have := ih (u / 10) (by rw [Nat.pow_succ] at h; exact Nat.div_lt_of_lt_mul (by rw [Nat.mul_comm]; exact h))
      omega
theorem numL_itoa (n : Int) (h0 : -100000000000000000 < n) (h1 : n < 100000000000000000) : numL (itoa n) = n.natAbs := by
  have hl := nDigits_le 16 n.natAbs (by have : (10 : Nat) ^ (16 + 1) = 100000000000000000 := by decide
                                        omega)
  rw [← decDigits_length] at hl
  unfold numL itoa
  by_cases hn : n < 0
  · rw [if_pos hn, List.take_of_length_le (by simp; omega)]
    show (decDigits n.natAbs).foldl numStep (numStep 0 45) = _
    have : numStep 0 45 = 0 := by decide
    rw [this, foldl_digits _ (by omega)]
  · have e : n.toNat = n.natAbs := by omega
    rw [if_neg hn, e, List.take_of_length_le (by omega), foldl_digits _ (by omega)]

/-! ### varints -/

theorem unzigzag_zigzag (n : Int) : unzigzag (zigzag n) = n := by
  unfold unzigzag zigzag; split <;> split <;> omega
theorem zigzag_unzigzag (u : Nat) : zigzag (unzigzag u) = u := by
  unfold unzigzag zigzag; split <;> split <;> omega
def putL (n : Int) : List UInt8 := uvarint (zigzag n)

/-- The program's way: i bytes are read. -/
def getFrom (i acc : Nat) : List UInt8 → Option (Nat × Nat)
  | [] => none
  | x :: r =>
    if (i = 9 ∧ 1 < x.toNat) ∨ 9 < i then none
    else if x.toNat < 128 then (if x.toNat = 0 ∧ 0 < i then none else some (acc + x.toNat % 128 * 2 ^ (7 * i), i + 1))
    else getFrom (i + 1) (acc + x.toNat % 128 * 2 ^ (7 * i)) r
def getL (l : List UInt8) : Option (Nat × Nat) := getFrom 0 0 l

theorem uvarint_zero : uvarint 0 = [0] := by rw [uvarint_small (by decide)]; rfl
theorem u8_of_nat {n : Nat} (h : n < 256) : n.toUInt8.toNat = n := by
  show (UInt8.ofNat n).toNat = n
  rw [UInt8.toNat_ofNat_of_lt' (by simpa [UInt8.size] using h)]

/-- What is put is got. -/
theorem getFrom_put : ∀ (k x i acc : Nat) (r : List UInt8), x < 2 ^ k → k + 7 * i ≤ 64 → i ≤ 9 → (0 < i → x ≠ 0) → getFrom i acc (uvarint x ++ r) = some (acc + x * 2 ^ (7 * i), i + (uvarint x).length) := by
  intro k
  induction k using Nat.strongRecOn with
  | _ k ih =>
    intro x i acc r hx hk hi h0
    by_cases hs : x < 128
    · rw [uvarint_small hs]
      show getFrom i acc (x.toUInt8 :: r) = _
      have h9 : i = 9 → x ≤ 1 := by
        intro h
        have : 2 ^ k ≤ 2 ^ 1 := Nat.pow_le_pow_right (by decide) (by omega)
        omega
      rw [getFrom, u8_of_nat (by omega), if_neg (by omega), if_pos hs, if_neg (by omega), Nat.mod_eq_of_lt hs]
      rfl
    · rw [uvarint_big (by omega)]
      have h7 : 7 ≤ k := by
        by_cases h : k < 7
        · have : 2 ^ k ≤ 2 ^ 7 := Nat.pow_le_pow_right (by decide) (by omega)
          omega
        · omega
      show getFrom i acc ((x % 128 + 128).toUInt8 :: (uvarint (x / 128) ++ r)) = _
      have hd : x / 128 < 2 ^ (k - 7) := by
        rw [Nat.div_lt_iff_lt_mul (by decide)]
        have : 2 ^ (k - 7) * 128 = 2 ^ k := by
          rw [show (128 : Nat) = 2 ^ 7 from rfl, ← Nat.pow_add]; congr 1; omega
        omega
      rw [getFrom, u8_of_nat (by omega), if_neg (by omega), if_neg (by omega), ih (k - 7) (by omega) (x / 128) (i + 1) _ r hd (by omega) (by omega) (by omega)]
      have e : (2 : Nat) ^ (7 * (i + 1)) = 128 * 2 ^ (7 * i) := by
        rw [show (128 : Nat) = 2 ^ 7 from rfl, ← Nat.pow_add]; congr 1; omega
      rw [e]
      simp only [List.length_cons, Option.some.injEq, Prod.mk.injEq]
      refine ⟨?_, by omega⟩
      have h1 : (x % 128 + 128) % 128 = x % 128 := by omega
      rw [h1, Nat.add_assoc]
      congr 1
      have h2 : x = x % 128 + x / 128 * 128 := by omega
      conv => rhs; rw [h2, Nat.add_mul, Nat.mul_assoc]
/-- What is got was put. -/
theorem getFrom_some : ∀ (l : List UInt8) (i acc u k : Nat), i ≤ 9 → getFrom i acc l = some (u, k) → ∃ x r, l = uvarint x ++ r ∧ u = acc + x * 2 ^ (7 * i) ∧ k = i + (uvarint x).length ∧ x < 2 ^ (64 - 7 * i) ∧ (0 < i → x ≠ 0)
  | [], i, acc, u, k, _, h => by simp [getFrom] at h
  | c :: r, i, acc, u, k, hi, h => by
    have hb := c.toNat_lt
    rw [getFrom] at h
    by_cases h1 : (i = 9 ∧ 1 < c.toNat) ∨ 9 < i
    · rw [if_pos h1] at h; cases h
    · rw [if_neg h1] at h
      by_cases h2 : c.toNat < 128
      · rw [if_pos h2] at h
        by_cases h3 : c.toNat = 0 ∧ 0 < i
        · rw [if_pos h3] at h; cases h
        · rw [if_neg h3] at h
          simp only [Option.some.injEq, Prod.mk.injEq] at h
          obtain ⟨rfl, rfl⟩ := h
          refine ⟨c.toNat, r, ?_, by rw [Nat.mod_eq_of_lt h2], by rw [uvarint_small h2]; rfl, ?_, by omega⟩
          · rw [uvarint_small h2]
            show c :: r = c.toNat.toUInt8 :: r
            congr 1
            exact (UInt8.ofNat_toNat).symm
          · by_cases h9 : i = 9
            · subst h9; have : c.toNat ≤ 1 := by omega
              show c.toNat < 2
              omega
            · have : 2 ^ 7 ≤ 2 ^ (64 - 7 * i) := Nat.pow_le_pow_right (by decide) (by omega)
              omega
      · rw [if_neg h2] at h
        by_cases h9 : i = 9
        · subst h9; omega
        · obtain ⟨x, r', e1, e2, e3, e4, e5⟩ := getFrom_some r (i + 1) _ u k (by omega) h
          have hx : x ≠ 0 := e5 (by omega)
          have hd : (c.toNat % 128 + x * 128) / 128 = x := by omega
          have hm : (c.toNat % 128 + x * 128) % 128 = c.toNat % 128 := by omega
          have hc : (c.toNat % 128 + 128).toUInt8 = c := by
            have : c.toNat % 128 + 128 = c.toNat := by omega
            rw [this]; exact UInt8.ofNat_toNat
          have hu : uvarint (c.toNat % 128 + x * 128) = c :: uvarint x := by
            rw [uvarint_big (by omega), hd, hm, hc]
          have e : (2 : Nat) ^ (7 * (i + 1)) = 128 * 2 ^ (7 * i) := by
            rw [show (128 : Nat) = 2 ^ 7 from rfl, ← Nat.pow_add]; congr 1; omega
          refine ⟨c.toNat % 128 + x * 128, r', by rw [hu, e1]; rfl, ?_, by rw [hu, e3, List.length_cons]; omega, ?_, by omega⟩
          · rw [e2, e, Nat.add_assoc]
            congr 1
            rw [Nat.add_mul, Nat.mul_assoc]
          · have : 2 ^ (64 - 7 * i) = 2 ^ (64 - 7 * (i + 1)) * 128 := by
              rw [show (128 : Nat) = 2 ^ 7 from rfl, ← Nat.pow_add]; congr 1; omega
            omega
theorem getL_put (x : Nat) (hx : x < 18446744073709551616) (r : List UInt8) : getL (uvarint x ++ r) = some (x, (uvarint x).length) := by
  have := getFrom_put 64 x 0 0 r (by simpa using hx) (by omega) (by omega) (by omega)
  simpa [getL] using this
theorem getL_some {l : List UInt8} {u k : Nat} (h : getL l = some (u, k)) : u < 18446744073709551616 ∧ k = (uvarint u).length ∧ ∃ r, l = uvarint u ++ r := by
  obtain ⟨x, r, e1, e2, e3, e4, _⟩ := getFrom_some l 0 0 u k (by omega) h
  have : u = x := by simpa using e2
  subst this
  exact ⟨by simpa using e4, by simpa using e3, r, e1⟩

/-- The document's way: the first byte below 128, among ten; then what the bytes come to, from the last; and that has just these bytes. -/
def headK : Nat → List UInt8 → Nat
  | 0, _ => 0
  | _ + 1, [] => 0
  | n + 1, c :: r => if 128 ≤ c.toNat then headK n r + 1 else 0
def sumL : List UInt8 → Nat
  | [] => 0
  | c :: r => (128 * sumL r + c.toNat % 128) % 18446744073709551616
def refGetL (l : List UInt8) : Option (Nat × Nat) :=
  let k := headK 10 l
  if k = l.length ∨ k = 10 then none
  else
    let u := sumL (l.take (k + 1))
    if uvarint u = l.take (k + 1) then some (u, k + 1) else none
theorem headK_put : ∀ (n x : Nat) (r : List UInt8), (uvarint x).length ≤ n → headK n (uvarint x ++ r) + 1 = (uvarint x).length
  | 0, x, r, h => by have := uvarint_pos x; omega
  | n + 1, x, r, h => by
    by_cases hs : x < 128
    · rw [uvarint_small hs]
      show headK (n + 1) (x.toUInt8 :: r) + 1 = 1
      rw [headK, u8_of_nat (by omega), if_neg (by omega)]
    · rw [uvarint_big (by omega)] at h ⊢
      show headK (n + 1) ((x % 128 + 128).toUInt8 :: (uvarint (x / 128) ++ r)) + 1 = _
      rw [headK, u8_of_nat (by omega), if_pos (by omega), headK_put n (x / 128) r (by simpa using h)]
      rfl
theorem sumL_put (x : Nat) (hx : x < 18446744073709551616) : sumL (uvarint x) = x := by
  induction x using Nat.strongRecOn with
  | _ x ih =>
    by_cases hs : x < 128
    · rw [uvarint_small hs, sumL, sumL, u8_of_nat (by omega)]; omega
    · rw [uvarint_big (by omega), sumL, ih (x / 128) (by omega) (by omega), u8_of_nat (by omega)]; omega
theorem sumL_lt (l : List UInt8) : sumL l < 18446744073709551616 := by
  cases l with
  | nil => simp [sumL]
  | cons c r => rw [sumL]; omega
theorem headK_le (n : Nat) (l : List UInt8) : headK n l ≤ l.length ∧ headK n l ≤ n := by
  induction n generalizing l with
  | zero => simp [headK]
  | succ n ih =>
    cases l with
    | nil => simp [headK]
    | cons c r =>
      rw [headK]
      have := ih r
      split <;> simp <;> omega
theorem refGetL_eq (l : List UInt8) : refGetL l = getL l := by
  cases hg : getL l with
  | some p =>
    obtain ⟨u, k⟩ := p
    obtain ⟨hu, rfl, r, rfl⟩ := getL_some hg
    have h1 := uvarint_length64 hu
    have h2 := uvarint_pos u
    have hk := headK_put 10 u r h1
    have ht : (uvarint u ++ r).take (headK 10 (uvarint u ++ r) + 1) = uvarint u := by rw [hk, List.take_left']; rfl
    unfold refGetL
    simp only
    rw [ht, sumL_put u hu, if_neg (by rw [List.length_append]; omega), if_pos rfl, hk]
  | none =>
    unfold refGetL
    simp only
    split
    · rfl
    · split
      · rename_i h1 h2
        have hlt := sumL_lt (l.take (headK 10 l + 1))
        have := getL_put _ hlt (l.drop (headK 10 l + 1))
        rw [h2, List.take_append_drop, hg] at this
        cases this
      · rfl

def getTextL (l : List UInt8) : Option (List UInt8 × Nat) :=
  match getL l with
  | none => none
  | some (u, k) => if unzigzag u < 0 ∨ (l.length : Int) - k < unzigzag u then none else some ((l.drop k).take (unzigzag u).toNat, k + (unzigzag u).toNat)
def textL (s : List UInt8) : List UInt8 := putL s.length ++ s
theorem getTextL_put (s r : List UInt8) (h : s.length < 9223372036854775808) : getTextL (textL s ++ r) = some (s, (textL s).length) := by
  unfold getTextL textL putL
  rw [List.append_assoc, getL_put _ (zigzag_lt (by omega) (by omega))]
  simp only [unzigzag_zigzag]
  rw [if_neg (by simp; omega)]
  simp
theorem getTextL_some {l t : List UInt8} {k : Nat} (h : getTextL l = some (t, k)) : k = (textL t).length ∧ ∃ r, l = textL t ++ r := by
  unfold getTextL at h
  cases hg : getL l with
  | none => rw [hg] at h; cases h
  | some p =>
    obtain ⟨u, k'⟩ := p
    rw [hg] at h
    simp only at h
    obtain ⟨hu, rfl, r, rfl⟩ := getL_some hg
    by_cases h1 : unzigzag u < 0 ∨ ((uvarint u ++ r).length : Int) - (uvarint u).length < unzigzag u
    · rw [if_pos h1] at h; cases h
    · rw [if_neg h1] at h
      simp only [List.drop_left, Option.some.injEq, Prod.mk.injEq] at h
      obtain ⟨rfl, rfl⟩ := h
      rw [List.length_append] at h1
      have hl : (r.take (unzigzag u).toNat).length = (unzigzag u).toNat := by rw [List.length_take]; omega
      have hz : zigzag (((unzigzag u).toNat : Nat) : Int) = u := by
        rw [Int.toNat_of_nonneg (by omega), zigzag_unzigzag]
      unfold textL putL
      rw [hl, hz, List.length_append, hl]
      exact ⟨rfl, r.drop (unzigzag u).toNat, by rw [List.append_assoc, List.take_append_drop]⟩
end Go.Proofs.YtkflfgkmbgjohaaDoor
