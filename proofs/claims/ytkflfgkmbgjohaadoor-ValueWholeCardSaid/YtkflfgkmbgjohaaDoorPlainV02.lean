/-
  WHAT IS PROVED HERE: values as plain data; Right, Less and Same as plain Lean functions, and their order. No program is in sight.
-/
import Derived.Test.YtkflfgkmbgjohaaDoorBase
set_option linter.unusedVariables false
set_option linter.unusedSimpArgs false
namespace Go.Proofs.YtkflfgkmbgjohaaDoor
open Go Go.RowKit

structure Val where
  kind : Int
  n : Int
  s : ByteArray

def Val.v (x : Val) : Value := .agg #[.int .i64 x.kind, .int .i64 x.n, .string x.s]
def Val.zero : Val := ⟨0, 0, ByteArray.empty⟩

def rightV (x : Val) : Bool :=
  if x.kind = 0 then decide (x.n = 0) && decide (x.s.toList = [])
  else if x.kind = 1 then decide (x.s.toList = []) && (decide (-1099511627776 ≤ x.n) && decide (x.n ≤ 1099511627776))
  else decide (x.kind = 2) && (decide (x.n = 0) && decide (x.s.size ≤ 200))

def lessV (a b : Val) : Bool := if a.kind ≠ b.kind then decide (a.kind < b.kind) else if a.n ≠ b.n then decide (a.n < b.n) else Op.bytesLess a.s.toList b.s.toList
def sameV (a b : Val) : Bool := decide (a.kind = b.kind) && (decide (a.n = b.n) && decide (a.s.toList = b.s.toList))

theorem bytesLess_irrefl (x : List UInt8) : Op.bytesLess x x = false := by
  induction x with
  | nil => rfl
  | cons a x ih => simp [Op.bytesLess, ih]
theorem bytesLess_asymm : ∀ (x y : List UInt8), Op.bytesLess x y = true → Op.bytesLess y x = false
  | _, [], h => by simp [Op.bytesLess] at h
  | [], _ :: _, _ => by simp [Op.bytesLess]
  | a :: x, b :: y, h => by
    simp only [Op.bytesLess, Bool.or_eq_true, Bool.and_eq_true, decide_eq_true_eq, beq_iff_eq, Bool.or_eq_false_iff, Bool.and_eq_false_imp, decide_eq_false_iff_not] at h ⊢
    rcases h with h | ⟨rfl, h⟩
    · refine ⟨fun h' => ?_, fun e => ?_⟩
      · exact absurd (UInt8.lt_trans h h') (UInt8.lt_irrefl _)
      · subst e; exact absurd h (UInt8.lt_irrefl _)
    · exact ⟨UInt8.lt_irrefl _, fun _ => bytesLess_asymm x y h⟩
theorem bytesLess_trans : ∀ (x y z : List UInt8), Op.bytesLess x y = true → Op.bytesLess y z = true → Op.bytesLess x z = true
  | _, _, [], _, h => by simp [Op.bytesLess] at h
  | _, [], _ :: _, h, _ => by simp [Op.bytesLess] at h
  | [], _ :: _, _ :: _, _, _ => by simp [Op.bytesLess]
  | a :: x, b :: y, c :: z, h, k => by
    simp only [Op.bytesLess, Bool.or_eq_true, Bool.and_eq_true, decide_eq_true_eq, beq_iff_eq] at h k ⊢
    rcases h with h | ⟨rfl, h⟩
    · rcases k with k | ⟨rfl, k⟩
      · exact Or.inl (UInt8.lt_trans h k)
      · exact Or.inl h
    · rcases k with k | ⟨rfl, k⟩
      · exact Or.inl k
      · exact Or.inr ⟨rfl, bytesLess_trans x y z h k⟩
theorem bytesLess_total : ∀ (x y : List UInt8), Op.bytesLess x y = false → Op.bytesLess y x = false → x = y
  | [], [], _, _ => rfl
  | _ :: _, [], _, h => by simp [Op.bytesLess] at h
  | [], _ :: _, h, _ => by simp [Op.bytesLess] at h
  | a :: x, b :: y, h, k => by
    simp only [Op.bytesLess, Bool.or_eq_false_iff, Bool.and_eq_false_imp, decide_eq_false_iff_not, beq_iff_eq] at h k
    have hab : a = b := by
      rcases Nat.lt_trichotomy a.toNat b.toNat with g | g | g
      · exact absurd (UInt8.lt_iff_toNat_lt.2 g) h.1
      · exact UInt8.toNat_inj.1 g
      · exact absurd (UInt8.lt_iff_toNat_lt.2 g) k.1
    subst hab
    rw [bytesLess_total x y (h.2 rfl) (k.2 rfl)]
theorem lessV_irrefl (a : Val) : lessV a a = false := by simp [lessV, bytesLess_irrefl]
theorem lessV_iff (a b : Val) : lessV a b = true ↔ a.kind < b.kind ∨ (a.kind = b.kind ∧ (a.n < b.n ∨ (a.n = b.n ∧ Op.bytesLess a.s.toList b.s.toList = true))) := by
  unfold lessV
  by_cases h1 : a.kind = b.kind
  · rw [if_neg (by simpa using h1)]
    by_cases h2 : a.n = b.n
    · rw [if_neg (by simpa using h2)]; simp [h1, h2]
    · rw [if_pos h2]; simp [h1, h2]
  · rw [if_pos h1]; simp [h1]
theorem lessV_asymm (a b : Val) (h : lessV a b = true) : lessV b a = false := by
  rw [← Bool.not_eq_true, lessV_iff]
  rw [lessV_iff] at h
  rintro k
  have hb := bytesLess_asymm a.s.toList b.s.toList
  rcases h with h | ⟨h, h' | ⟨h', h''⟩⟩ <;> rcases k with k | ⟨k, k' | ⟨k', k''⟩⟩ <;> first | omega | (have := hb h''; rw [this] at k''; cases k'')
theorem lessV_trans (a b c : Val) (h : lessV a b = true) (k : lessV b c = true) : lessV a c = true := by
  rw [lessV_iff] at *
  have hb := bytesLess_trans a.s.toList b.s.toList c.s.toList
  rcases h with h | ⟨h, h' | ⟨h', h''⟩⟩ <;> rcases k with k | ⟨k, k' | ⟨k', k''⟩⟩ <;> first | (exact Or.inl (by omega)) | (exact Or.inr ⟨by omega, Or.inl (by omega)⟩) | exact Or.inr ⟨by omega, Or.inr ⟨by omega, hb h'' k''⟩⟩
theorem toList_inj {a b : ByteArray} (h : a.toList = b.toList) : a = b := by
  rw [ByteArray.toList_eq, ByteArray.toList_eq] at h
  exact ByteArray.ext (by simpa [Array.toList_inj] using h)
theorem sameV_iff (a b : Val) : sameV a b = true ↔ a = b := by
  cases a; cases b
  simp only [sameV, Bool.and_eq_true, decide_eq_true_eq, Val.mk.injEq]
  constructor
  · rintro ⟨h1, h2, h3⟩; exact ⟨h1, h2, toList_inj h3⟩
  · rintro ⟨rfl, rfl, rfl⟩; exact ⟨rfl, rfl, rfl⟩
theorem sameV_less (a b : Val) : sameV a b = (!lessV a b && !lessV b a) := by
  rw [Bool.eq_iff_iff, sameV_iff]
  simp only [Bool.and_eq_true, Bool.not_eq_true']
  constructor
  · rintro rfl; exact ⟨lessV_irrefl _, lessV_irrefl _⟩
  · rintro ⟨h, k⟩
    rw [← Bool.not_eq_true, lessV_iff] at h k
    have h1 : a.kind = b.kind := by rcases Int.lt_trichotomy a.kind b.kind with g | g | g; exact absurd (Or.inl g) h; exact g; exact absurd (Or.inl g) k
    have h2 : a.n = b.n := by rcases Int.lt_trichotomy a.n b.n with g | g | g; exact absurd (Or.inr ⟨h1, Or.inl g⟩) h; exact g; exact absurd (Or.inr ⟨h1.symm, Or.inl g⟩) k
    have h3 : a.s.toList = b.s.toList := bytesLess_total _ _ (by rw [← Bool.not_eq_true]; exact fun g => h (Or.inr ⟨h1, Or.inr ⟨h2, g⟩⟩)) (by rw [← Bool.not_eq_true]; exact fun g => k (Or.inr ⟨h1.symm, Or.inr ⟨h2.symm, g⟩⟩))
    cases a; cases b
    simp only [Val.mk.injEq] at *
    exact ⟨h1, h2, toList_inj h3⟩
end Go.Proofs.YtkflfgkmbgjohaaDoor
