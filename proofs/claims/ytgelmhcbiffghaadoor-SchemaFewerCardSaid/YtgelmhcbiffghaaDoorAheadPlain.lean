/-
  WHAT IS PROVED HERE: what becomes of a schema that is right behind which one more table stands: plain facts, no program in sight.
-/
import Derived.Test.YtgelmhcbiffghaaDoorPlain11
namespace Go.Proofs.YtgelmhcbiffghaaDoor
open Go.RowKit

theorem getD_left {s : List Tbl} {t : Tbl} {k : Nat} (h : k < s.length) : (s ++ [t]).getD k default = s.getD k default := by
  simp [List.getD, List.getElem?_append_left h]
theorem getD_last {s : List Tbl} {t : Tbl} : (s ++ [t]).getD s.length default = t := by
  simp [List.getD]
theorem frnErr_more {n m : Nat} {t : Tbl} {i : Nat} (hnm : n ≤ m) (h : frnErr n t i = 0) : frnErr m t i = 0 := by
  unfold frnErr at *
  split at h
  · simp at h
  · rename_i h1
    rw [if_neg]
    · exact h
    · simp only [Bool.or_eq_true, Bool.not_eq_true', decide_eq_true_eq, not_or] at h1 ⊢
      refine ⟨h1.1, ?_⟩
      have := h1.2
      omega
theorem Good.ahead {s : List Tbl} (h : Good s) (t : Tbl) {k : Nat} (hk : k < s.length) : tabErr (s ++ [t]) k = 0 := by
  refine firstE_zero (fun j hj => ?_)
  have h0 := h.look k hk j hj
  have e := getD_left (t := t) hk
  have et : (s ++ [t]).take k = s.take k := by rw [List.take_append_of_le_length (by omega)]
  match j, hj with
  | 0, _ => simpa only [lookErr, nameErr, e, et] using h0
  | 1, _ => simpa only [lookErr, e] using h0
  | 2, _ => simpa only [lookErr, e] using h0
  | 3, _ => simpa only [lookErr, e] using h0
  | 4, _ => simpa only [lookErr, e] using h0
  | 5, _ =>
    simp only [lookErr, e] at h0 ⊢
    rw [firstE_eq_zero] at h0 ⊢
    intro i hi
    exact frnErr_more (by simp) (h0 i hi)
  | 6, _ => simpa only [lookErr, e] using h0

theorem right_ahead {s : List Tbl} (h : Good s) (h16 : s.length < 16) (t : Tbl) : rightF (s ++ [t]) = tabErr (s ++ [t]) s.length := by
  have hl : (s ++ [t]).length = s.length + 1 := by simp
  have hf := h.few
  unfold rightF
  rw [hl, if_neg (by simp only [Bool.or_eq_true, decide_eq_true_eq, not_or]; omega), firstE, firstE_zero (fun j hj => h.ahead t hj)]
  simp
theorem right_alone (t : Tbl) : rightF [t] = tabErr [t] 0 := by
  unfold rightF
  simp [firstE]
theorem tab_last {s : List Tbl} {t : Tbl} (hfr : t.frn = []) (hn : nameErr (s ++ [t]) s.length = 0) (ha : nameErr [t] 0 = 0) : tabErr (s ++ [t]) s.length = tabErr [t] 0 := by
  unfold tabErr
  refine firstE_congr (fun j hj => ?_)
  have e1 : (s ++ [t]).getD s.length default = t := getD_last
  have e2 : ([t] : List Tbl).getD 0 default = t := rfl
  match j, hj with
  | 0, _ => show nameErr _ _ = nameErr _ _; rw [hn, ha]
  | 1, _ => simp only [lookErr, e1, e2]
  | 2, _ => simp only [lookErr, e1, e2]
  | 3, _ => simp only [lookErr, e1, e2]
  | 4, _ => simp only [lookErr, e1, e2]
  | 5, _ => simp only [lookErr, e1, e2, hfr]; rfl
  | 6, _ => simp only [lookErr, e1, e2]
theorem firstE_head {f : Nat → Int} {n : Nat} (h : f 0 ≠ 0) : firstE (n + 1) f = f 0 := firstE_at (by omega) (fun j hj => by omega) h
/-- A table that has no foreign keys, behind a schema that is right. -/
theorem ahead_law {s : List Tbl} (h : Good s) (h16 : s.length < 16) {t : Tbl} (hfr : t.frn = []) :
    (s.any (sameT t.name) = true → nameL t.name.toList = true → rightF (s ++ [t]) = 5) ∧ (s.any (sameT t.name) = false → rightF (s ++ [t]) = rightF [t]) ∧ (rightF [t] = 0 → nameL t.name.toList = true) := by
  have e1 : (s ++ [t]).getD s.length default = t := getD_last
  have et : (s ++ [t]).take s.length = s := by simp
  rw [right_ahead h h16, right_alone]
  refine ⟨fun ha hn => ?_, fun ha => ?_, fun h0 => ?_⟩
  · have hn5 : nameErr (s ++ [t]) s.length = 5 := by unfold nameErr; rw [e1, et, hn, ha]; rfl
    unfold tabErr
    rw [firstE_head (n := 6) (by show nameErr _ _ ≠ 0; rw [hn5]; simp)]
    exact hn5
  · cases hn : nameL t.name.toList
    · have n1 : nameErr (s ++ [t]) s.length = 1 := by unfold nameErr; rw [e1, hn]; rfl
      have n2 : nameErr [t] 0 = 1 := by unfold nameErr; rw [show ([t] : List Tbl).getD 0 default = t from rfl, hn]; rfl
      unfold tabErr
      rw [firstE_head (n := 6) (by show nameErr _ _ ≠ 0; rw [n1]; simp), firstE_head (n := 6) (f := lookErr [t] 0) (by show nameErr _ _ ≠ 0; rw [n2]; simp)]
      show nameErr _ _ = nameErr _ _
      rw [n1, n2]
    · refine tab_last hfr ?_ ?_
      · unfold nameErr; rw [e1, et, hn, ha]; rfl
      · unfold nameErr; rw [show ([t] : List Tbl).getD 0 default = t from rfl, hn]; rfl
  · cases hn : nameL t.name.toList
    · have n2 : nameErr [t] 0 = 1 := by unfold nameErr; rw [show ([t] : List Tbl).getD 0 default = t from rfl, hn]; rfl
      unfold tabErr at h0
      rw [firstE_head (n := 6) (by show nameErr _ _ ≠ 0; rw [n2]; simp)] at h0
      have : nameErr [t] 0 = 0 := h0
      rw [n2] at this
      simp at this
    · rfl
end Go.Proofs.YtgelmhcbiffghaaDoor
