/-
  WHAT IS PROVED HERE: what follows for a schema that is right: plain facts, no program in sight.
-/
import Derived.Test.YtgelmhcbiffghaaDoorKids11
namespace Go.Proofs.YtgelmhcbiffghaaDoor
open Go.RowKit

structure Good (s : List Tbl) : Prop where
  few : 1 ≤ s.length ∧ s.length ≤ 16
  look : ∀ k, k < s.length → ∀ j, j < 7 → lookErr s k j = 0

theorem good_of {s : List Tbl} (h : rightF s = 0) : Good s := by
  unfold rightF at h
  split at h
  · simp at h
  · rename_i hb
    simp only [Bool.or_eq_true, decide_eq_true_eq, not_or] at hb
    rw [firstE_eq_zero] at h
    exact ⟨by omega, fun k hk j hj => firstE_eq_zero.1 (h k hk) j hj⟩
theorem good_right {s : List Tbl} (h : Good s) : rightF s = 0 := by
  have hf := h.few
  unfold rightF
  rw [if_neg (by simp only [Bool.or_eq_true, decide_eq_true_eq, not_or]; omega), firstE_eq_zero]
  exact fun k hk => firstE_eq_zero.2 (fun j hj => h.look k hk j hj)

theorem Good.name {s : List Tbl} (h : Good s) {k : Nat} (hk : k < s.length) : nameL s[k].name.toList = true ∧ (s.take k).any (sameT s[k].name) = false := by
  have := h.look k hk 0 (by omega)
  simp only [lookErr, nameErr, getD_at hk] at this
  split at this
  · simp at this
  · split at this
    · simp at this
    · simp_all
theorem Good.bound {s : List Tbl} (h : Good s) {k : Nat} (hk : k < s.length) : 1 ≤ s[k].cols.length ∧ s[k].cols.length ≤ 16 ∧ s[k].checks ≤ 16 ∧ s[k].uniq.length ≤ 16 ∧ s[k].frn.length ≤ 16 ∧ s[k].sums.length ≤ 16 := by
  have := h.look k hk 1 (by omega)
  simp only [lookErr, boundErr, getD_at hk] at this
  split at this
  · simp at this
  · rename_i hb
    simp only [Bool.or_eq_true, decide_eq_true_eq, not_or] at hb
    omega
theorem Good.col {s : List Tbl} (h : Good s) {k i : Nat} (hk : k < s.length) (hi : i < s[k].cols.length) : colErr (s[k].cols.take i) s[k].cols[i] = 0 := by
  have := h.look k hk 2 (by omega)
  simp only [lookErr, colsErr, getD_at hk] at this
  have := firstE_eq_zero.1 this i hi
  simp only [getD_at hi] at this
  exact this
theorem Good.frn {s : List Tbl} (h : Good s) {k i : Nat} (hk : k < s.length) (hi : i < s[k].frn.length) : frnErr s.length s[k] i = 0 := by
  have := h.look k hk 5 (by omega)
  simp only [lookErr, getD_at hk] at this
  exact firstE_eq_zero.1 this i hi
theorem take_any_false {α : Type} {s : List α} {p : α → Bool} {k : Nat} (h : (s.take k).any p = false) : ∀ j (hj : j < s.length), j < k → p s[j] = false := by
  intro j hj hjk
  rw [List.any_eq_false] at h
  have := h s[j] (by rw [List.mem_take_iff_getElem]; exact ⟨j, by omega, rfl⟩)
  simpa using this
theorem Good.table {s : List Tbl} (h : Good s) {k : Nat} (hk : k < s.length) : idxOf (sameT s[k].name) s = k :=
  idxOf_of_at hk (by simp [sameT]) (take_any_false (h.name hk).2)
theorem colErr_zero {l : List Col} {c : Col} (h : colErr l c = 0) : l.any (sameC c) = false := by
  unfold colErr at h
  split at h
  · simp at h
  · split at h
    · simp at h
    · simp_all
theorem Good.column {s : List Tbl} (h : Good s) {k i : Nat} (hk : k < s.length) (hi : i < s[k].cols.length) : idxOf (fun x : Col => x.name.toList == s[k].cols[i].name.toList) s[k].cols = i :=
  idxOf_of_at hi (by simp) (take_any_false (p := sameC s[k].cols[i]) (colErr_zero (h.col hk hi)))
theorem frnErr_zero {n : Nat} {t : Tbl} {i : Nat} (hi : i < t.frn.length) (h : frnErr n t i = 0) :
    isCol t t.frn[i].col = true ∧ 0 ≤ t.frn[i].tab ∧ t.frn[i].tab < n ∧ (0 < i → (t.frn.getD (i - 1) default).col < t.frn[i].col) := by
  unfold frnErr at h
  rw [getD_at hi] at h
  split at h
  · simp at h
  · rename_i h1
    split at h
    · simp at h
    · rename_i h2
      simp only [Bool.or_eq_true, Bool.not_eq_true', decide_eq_true_eq, Bool.and_eq_true, not_or, not_and] at h1 h2
      refine ⟨by simpa using h1.1.1, by omega, by omega, fun h0 => ?_⟩
      have := h2.1.1 h0
      omega
theorem Good.isCol {s : List Tbl} (h : Good s) {k i : Nat} (hk : k < s.length) (hi : i < s[k].frn.length) : 1 ≤ s[k].frn[i].col ∧ 0 ≤ s[k].frn[i].tab ∧ s[k].frn[i].tab < s.length := by
  obtain ⟨h1, h2, h3, _⟩ := frnErr_zero hi (h.frn hk hi)
  unfold Go.Proofs.YtgelmhcbiffghaaDoor.isCol at h1
  simp only [Bool.and_eq_true, decide_eq_true_eq] at h1
  exact ⟨h1.1, h2, h3⟩
theorem Good.rises {s : List Tbl} (h : Good s) {k i : Nat} (hk : k < s.length) (hi : i < s[k].frn.length) (h0 : 0 < i) : (s[k].frn.getD (i - 1) default).col < s[k].frn[i].col :=
  (frnErr_zero hi (h.frn hk hi)).2.2.2 h0
theorem Good.rise {s : List Tbl} (h : Good s) {k : Nat} (hk : k < s.length) : ∀ i (hi : i < s[k].frn.length) j (hj : j < s[k].frn.length), j < i → s[k].frn[j].col < s[k].frn[i].col := by
  intro i
  induction i with
  | zero => intro _ j _ hji; omega
  | succ i ih =>
    intro hi j hj hji
    have h1 := h.rises hk hi (by omega)
    rw [show i + 1 - 1 = i by omega, getD_at (by omega)] at h1
    by_cases hjl : j < i
    · have := ih (by omega) j hj hjl; omega
    · have : j = i := by omega
      subst this; exact h1
theorem Good.foreign {s : List Tbl} (h : Good s) {k i : Nat} (hk : k < s.length) (hi : i < s[k].frn.length) : frnIs s[k].frn s[k].frn[i].col = true ∧ frnOf s[k].frn s[k].frn[i].col = s[k].frn[i] :=
  frn_some hi rfl (fun j hj hji => by have := h.rise hk i hi j hj hji; omega)

/-! the kids -/
theorem kidsRow_mem {fs : List Frn} {table : Int} {k i : Nat} {p : Nat × Nat} : p ∈ kidsRow fs table k i ↔ p.1 = k ∧ p.2 < i ∧ (fs.getD p.2 default).tab = table := by
  unfold kidsRow
  simp only [List.mem_filterMap, List.mem_range]
  constructor
  · rintro ⟨j, hj, h⟩
    split at h
    · rename_i ht
      simp only [Option.some.injEq] at h
      subst h
      exact ⟨rfl, hj, by simpa using ht⟩
    · simp at h
  · rintro ⟨h1, h2, h3⟩
    exact ⟨p.2, h2, by rw [if_pos (by simpa using h3)]; rw [← h1]⟩
theorem kidsTo_mem {s : List Tbl} {table : Int} {k : Nat} {p : Nat × Nat} : p ∈ kidsTo s table k ↔ p.1 < k ∧ p.2 < (s.getD p.1 default).frn.length ∧ ((s.getD p.1 default).frn.getD p.2 default).tab = table := by
  unfold kidsTo
  simp only [List.mem_flatMap, List.mem_range, kidsRow_mem]
  constructor
  · rintro ⟨j, hj, h1, h2, h3⟩
    subst h1
    exact ⟨hj, h2, h3⟩
  · rintro ⟨h1, h2, h3⟩
    exact ⟨p.1, h1, rfl, h2, h3⟩

/-- One pair ahead of another. -/
def pairLt (p q : Nat × Nat) : Prop := p.1 < q.1 ∨ (p.1 = q.1 ∧ p.2 < q.2)
theorem kidsRow_sorted (fs : List Frn) (table : Int) (k i : Nat) : (kidsRow fs table k i).Pairwise pairLt := by
  induction i with
  | zero => simp [kidsRow]
  | succ i ih =>
    rw [kidsRow_succ]
    rw [List.pairwise_append]
    refine ⟨ih, by split <;> simp, fun p hp q hq => ?_⟩
    split at hq
    · simp only [List.mem_singleton] at hq
      subst hq
      obtain ⟨h1, h2, _⟩ := kidsRow_mem.1 hp
      exact Or.inr ⟨h1, h2⟩
    · simp at hq
theorem kidsTo_sorted (s : List Tbl) (table : Int) (k : Nat) : (kidsTo s table k).Pairwise pairLt := by
  induction k with
  | zero => simp [kidsTo]
  | succ k ih =>
    rw [kidsTo_succ, List.pairwise_append]
    refine ⟨ih, kidsRow_sorted _ _ _ _, fun p hp q hq => ?_⟩
    obtain ⟨h1, _⟩ := kidsTo_mem.1 hp
    obtain ⟨h2, _⟩ := kidsRow_mem.1 hq
    exact Or.inl (by omega)

theorem sum_map_add {α : Type} (l : List α) (f g : α → Nat) : (l.map fun x => f x + g x).sum = (l.map f).sum + (l.map g).sum := by
  induction l with
  | nil => rfl
  | cons a l ih => simp only [List.map_cons, List.sum_cons, ih]; omega
theorem sum_zero {α : Type} (l : List α) : (l.map fun _ => 0).sum = 0 := by
  induction l with
  | nil => rfl
  | cons a l ih => simp only [List.map_cons, List.sum_cons, ih]
theorem sum_ind (n : Nat) (t : Int) (h0 : 0 ≤ t) (h1 : t < n) : ((List.range n).map fun (j : Nat) => if t == (j : Int) then 1 else 0).sum = 1 := by
  induction n with
  | zero => omega
  | succ n ih =>
    rw [List.range_succ, List.map_append, List.sum_append]
    by_cases ht : t = n
    · have h2 : ((List.range n).map fun (j : Nat) => if t == (j : Int) then 1 else 0).sum = 0 := by
        have : ∀ j ∈ List.range n, (fun (j : Nat) => if t == (j : Int) then 1 else 0) j = (fun _ => 0) j := by
          intro j hj
          have := List.mem_range.1 hj
          simp only [beq_iff_eq]
          rw [if_neg (by omega)]
        rw [List.map_congr_left this, sum_zero]
      rw [h2, ht]; simp
    · rw [ih (by omega)]
      simp [ht]
theorem kidsRow_count (fs : List Frn) (n k i : Nat) (h : ∀ j, j < i → 0 ≤ (fs.getD j default).tab ∧ (fs.getD j default).tab < n) : ((List.range n).map fun (t : Nat) => (kidsRow fs t k i).length).sum = i := by
  induction i with
  | zero => simp only [kidsRow, List.range_zero, List.filterMap_nil, List.length_nil]; exact sum_zero _
  | succ i ih =>
    have e : ∀ t ∈ List.range n, (kidsRow fs ((t : Nat) : Int) k (i + 1)).length = (kidsRow fs ((t : Nat) : Int) k i).length + (if (fs.getD i default).tab == ((t : Nat) : Int) then 1 else 0) := by
      intro t _
      rw [kidsRow_succ, List.length_append]
      congr 1
      split <;> rfl
    rw [List.map_congr_left e, sum_map_add, ih (fun j hj => h j (by omega)), sum_ind n _ (h i (by omega)).1 (h i (by omega)).2]
theorem kidsTo_count (s : List Tbl) (n k : Nat) (h : ∀ a, a < k → ∀ j, j < (s.getD a default).frn.length → 0 ≤ ((s.getD a default).frn.getD j default).tab ∧ ((s.getD a default).frn.getD j default).tab < n) : ((List.range n).map fun (t : Nat) => (kidsTo s t k).length).sum = frnCount s k := by
  induction k with
  | zero => simp only [kidsTo, List.range_zero, List.flatMap_nil, List.length_nil]; exact sum_zero _
  | succ k ih =>
    have e : ∀ t ∈ List.range n, (kidsTo s ((t : Nat) : Int) (k + 1)).length = (kidsTo s ((t : Nat) : Int) k).length + (kidsRow (s.getD k default).frn ((t : Nat) : Int) k (s.getD k default).frn.length).length := by
      intro t _
      rw [kidsTo_succ, List.length_append]
    rw [List.map_congr_left e, sum_map_add, ih (fun a ha => h a (by omega)), kidsRow_count _ _ _ _ (h k (by omega)), frnCount_succ]
/-- Each foreign key is a kid once. -/
theorem Good.count {s : List Tbl} (h : Good s) : ((List.range s.length).map fun (t : Nat) => (kidsF s t).length).sum = frnCount s s.length := by
  refine kidsTo_count s s.length s.length (fun a ha j hj => ?_)
  rw [getD_at ha] at hj ⊢
  rw [getD_at hj]
  exact (h.isCol ha hj).2
theorem Good.frnCount {s : List Tbl} (h : Good s) : ∀ k, k ≤ s.length → frnCount s k ≤ k * 16 := by
  intro k
  induction k with
  | zero => intro _; simp [Go.Proofs.YtgelmhcbiffghaaDoor.frnCount]
  | succ k ih =>
    intro hk
    have h1 := ih (by omega)
    have h2 := h.bound (k := k) (by omega)
    rw [frnCount_succ, getD_at (by omega)]
    omega
end Go.Proofs.YtgelmhcbiffghaaDoor
