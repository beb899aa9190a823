/-
  WHAT IS PROVED HERE: a schema that is right is right with one table bared of its checks, unique columns, foreign keys and bounds: plain facts, no program in sight.
-/
import Derived.Test.YtgelmhcbiffghaaDoorAheadPlain
namespace Go.Proofs.YtgelmhcbiffghaaDoor
open Go.RowKit

/-- A table without its checks, unique columns, foreign keys and bounds. -/
def bare (t : Tbl) : Tbl := { t with uniq := [], checks := 0, frn := [], sums := [] }

theorem set_map_name (s : List Tbl) (k : Nat) (hk : k < s.length) : (s.set k (bare s[k])).map (·.name) = s.map (·.name) := by
  rw [List.map_set]
  apply List.ext_getElem
  · simp
  · intro i h1 h2
    rw [List.getElem_set]
    split
    · rename_i h; subst h; simp [bare]
    · rfl
theorem any_name (s : List Tbl) (n : ByteArray) : s.any (sameT n) = (s.map (·.name)).any (fun x => x.toList == n.toList) := by
  rw [List.any_map]; rfl
theorem set_any (s : List Tbl) (k j : Nat) (hk : k < s.length) (n : ByteArray) : ((s.set k (bare s[k])).take j).any (sameT n) = (s.take j).any (sameT n) := by
  rw [any_name, any_name, List.map_take, List.map_take, set_map_name s k hk]
theorem set_name (s : List Tbl) (k j : Nat) (hk : k < s.length) : ((s.set k (bare s[k])).getD j default).name = (s.getD j default).name := by
  by_cases hj : j < s.length
  · rw [getD_at (by simpa using hj), getD_at hj, List.getElem_set]
    split
    · rename_i h; subst h; rfl
    · rfl
  · simp only [List.getD]
    rw [List.getElem?_eq_none (by simp; omega), List.getElem?_eq_none (by omega)]
theorem fewer_good {s : List Tbl} (h : Good s) {k : Nat} (hk : k < s.length) : Good (s.set k (bare s[k])) := by
  have hl : (s.set k (bare s[k])).length = s.length := by simp
  refine ⟨by rw [hl]; exact h.few, fun j hj i hi => ?_⟩
  rw [hl] at hj
  have h0 := h.look j hj i hi
  have hne : ∀ (hjk : j ≠ k), (s.set k (bare s[k])).getD j default = s.getD j default := fun hjk => by
    rw [getD_at (by simpa using hj), getD_at hj, List.getElem_set_ne (Ne.symm hjk)]
  have heq : (s.set k (bare s[k])).getD k default = bare s[k] := by
    rw [getD_at (by simpa using hk), List.getElem_set_self]
  match i, hi with
  | 0, _ =>
    simp only [lookErr, nameErr] at h0 ⊢
    rw [set_name s k j hk, set_any s k j hk]
    exact h0
  | 1, _ =>
    by_cases hjk : j = k
    · subst hjk
      have hb := h.bound hk
      simp only [lookErr, heq]
      unfold boundErr
      rw [if_neg]
      simp only [Bool.or_eq_true, decide_eq_true_eq, not_or]
      show ¬ s[j].cols.length < 1 ∧ ¬ 16 < max s[j].cols.length (max 0 (max 0 (max 0 0)))
      omega
    · simp only [lookErr, hne hjk] at h0 ⊢; exact h0
  | 2, _ =>
    by_cases hjk : j = k
    · subst hjk
      simp only [lookErr, heq, getD_at hk] at h0 ⊢
      exact h0
    · simp only [lookErr, hne hjk] at h0 ⊢; exact h0
  | 3, _ =>
    by_cases hjk : j = k
    · subst hjk
      simp only [lookErr, heq, getD_at hk] at h0 ⊢
      exact h0
    · simp only [lookErr, hne hjk] at h0 ⊢; exact h0
  | 4, _ =>
    by_cases hjk : j = k
    · subst hjk
      simp only [lookErr, heq]
      rfl
    · simp only [lookErr, hne hjk] at h0 ⊢; exact h0
  | 5, _ =>
    by_cases hjk : j = k
    · subst hjk
      simp only [lookErr, heq]
      rfl
    · simp only [lookErr, hne hjk, hl] at h0 ⊢; exact h0
  | 6, _ =>
    by_cases hjk : j = k
    · subst hjk
      simp only [lookErr, heq]
      rfl
    · simp only [lookErr, hne hjk] at h0 ⊢; exact h0
/-- With that table twice it is not right. -/
theorem fewer_twice {s : List Tbl} (h : Good s) {k : Nat} (hk : k < s.length) : rightF (s.set k (bare s[k]) ++ [bare s[k]]) = if s.length = 16 then 2 else 5 := by
  have hl : (s.set k (bare s[k])).length = s.length := by simp
  have hf := h.few
  by_cases h16 : s.length = 16
  · rw [if_pos h16]
    unfold rightF
    rw [if_pos]
    simp only [Bool.or_eq_true, decide_eq_true_eq]
    right
    rw [List.length_append, hl]
    simp
    omega
  · rw [if_neg h16]
    refine (ahead_law (fewer_good h hk) (by omega) (t := bare s[k]) rfl).1 ?_ (h.name hk).1
    rw [List.any_eq_true]
    refine ⟨bare s[k], ?_, by simp [sameT]⟩
    rw [List.mem_iff_getElem]
    exact ⟨k, by simpa using hk, by simp⟩
theorem set_split (s : List Tbl) (k : Nat) (hk : k < s.length) (t : Tbl) : s.set k t = s.take k ++ [t] ++ s.drop (k + 1) := by
  rw [List.set_eq_take_append_cons_drop, if_pos hk]
  simp
end Go.Proofs.YtgelmhcbiffghaaDoor
