/-
  WHAT IS PROVED HERE: how plain data, and the interpreter's states, stand to memory; that it stays so while memory grows, and while what is nobody's data is written.
-/
import Derived.Test.YtkflfgkmbgjohaaDoorAbs1
import Derived.Laws.IdiomCopy
import Derived.Laws.Cells
set_option linter.unusedVariables false
set_option linter.unusedSimpArgs false
namespace Go.Proofs.YtkflfgkmbgjohaaDoor
open Go Go.RowKit

/-- Where an object lies: its block, its first cell, an element's cells, how many elements there is room for. -/
structure Loc where
  b : Nat
  st : Nat
  n : Nat
  lim : Nat
abbrev Ix := Nat → Nat → Option Loc
/-- Cells that nobody writes any more. -/
abbrev Sb := Nat → Nat → Prop

def noAgg : Value → Bool
  | .agg _ => false
  | _ => true
mutual
def CellsD (S : Sb) (w : World) : D → List Value → Prop
  | .s v, us => us = [v] ∧ noAgg v = true
  | .agg ys, us => CellsL S w ys us
  | .lst zs, us => ∃ a cap, us = [.slice a zs.length cap] ∧ zs.length ≤ cap ∧ (zs = [] ∨ ∃ b o n, a = some ⟨b, o, none⟩ ∧ RowD S w b n o zs)
def CellsL (S : Sb) (w : World) : List D → List Value → Prop
  | [], us => us = []
  | y :: ys, us => ∃ u us', us = u :: us' ∧ (y.flat = true ∧ CellsD S w y [u]) ∧ CellsL S w ys us'
def RowD (S : Sb) (w : World) (b n : Nat) : Nat → List D → Prop
  | _, [] => True
  | o, x :: xs => (∃ us : List Value, us.length = n ∧ x.cells.length = n ∧ CellsD S w x us ∧ ∀ (j : Nat) u, us[j]? = some u → u.oneCell' = true ∧ S b (o + j) ∧ w.cell? ⟨b, o + j, none⟩ = some u) ∧ RowD S w b n (o + n) xs
end

/-- A value that data are. -/
def ValD (S : Sb) (w : World) (x : D) (u : Value) : Prop :=
  match x with
  | .agg ys => ∃ us, u = .agg us ∧ CellsL S w ys us.toList
  | x => CellsD S w x [u]
def ValDs (S : Sb) (w : World) : List D → List Value → Prop
  | [], us => us = []
  | x :: xs, us => ∃ u us', us = u :: us' ∧ ValD S w x u ∧ ValDs S w xs us'

mutual
def VA (ι : Ix) (S : Sb) (w : World) : A → Value → Prop
  | .any, _ => True
  | .d x, u => ValD S w x u
  | .clip xs, u => ∃ a, u = .slice a xs.length xs.length ∧ (xs = [] ∨ ∃ b o n, a = some ⟨b, o, none⟩ ∧ RowD S w b n o xs)
  | .agg xs, u => ∃ us, u = .agg us ∧ VL ι S w xs us.toList
  | .tup xs, u => ∃ us, u = .tuple us ∧ VL ι S w xs us.toList
  | .bp id ver off, u => ∃ L, ι id ver = some L ∧ L.st = 0 ∧ u = .pointer (some ⟨L.b, off, none⟩)
  | .sl id ver off len, u => ∃ a cap, u = .slice a len cap ∧ len ≤ cap ∧ (cap = 0 ∨ ∃ L, ι id ver = some L ∧ a = some ⟨L.b, L.st + off * L.n, none⟩ ∧ off + cap ≤ L.lim)
  | .op id ver i off, u => ∃ L, ι id ver = some L ∧ u = .pointer (some ⟨L.b, L.st + i * L.n + off, none⟩)
  | .ep xs i off, u => ∃ b o n, u = .pointer (some ⟨b, o + i * n + off, none⟩) ∧ RowD S w b n o xs
  | .clo f caps, u => ∃ us, u = .func (.func f) #[] us ∧ VL ι S w caps us.toList
def VL (ι : Ix) (S : Sb) (w : World) : List A → List Value → Prop
  | [], us => us = []
  | y :: ys, us => ∃ u us', us = u :: us' ∧ VA ι S w y u ∧ VL ι S w ys us'
end

/-- The elements of a vec, as they lie. -/
def VecRow (S : Sb) (w : World) (b n o : Nat) (xs : List D) : Prop :=
  ∀ (i : Nat) x, xs[i]? = some x → ∃ us : List Value, us.length = n ∧ x.cells.length = n ∧ CellsD S w x us ∧ ∀ (j : Nat) u, us[j]? = some u → u.oneCell' = true ∧ w.cell? ⟨b, o + i * n + j, none⟩ = some u

def ORel (ι : Ix) (S : Sb) (base : Nat) (w : World) (id : Nat) : O → Prop
  | .no _ => True
  | .box ver cs => ∃ L, ι id ver = some L ∧ L.st = 0 ∧ base ≤ L.b ∧ L.b < w.heap.size ∧ (∀ o, ¬ S L.b o) ∧
      ∀ (j : Nat) a, cs[j]? = some a → ∃ u, w.cell? ⟨L.b, j, none⟩ = some u ∧ w.frozen? ⟨L.b, j, none⟩ = false ∧ VA ι S w a u
  | .vec ver n xs fz => (xs = [] ∧ ι id ver = none) ∨ ∃ L, ι id ver = some L ∧ L.n = n ∧ base ≤ L.b ∧ L.b < w.heap.size ∧ xs.length ≤ L.lim ∧
      (∀ o, L.st ≤ o → o < L.st + L.lim * n → (w.cell? ⟨L.b, o, none⟩).isSome = true ∧ w.frozen? ⟨L.b, o, none⟩ = false) ∧
      VecRow S w L.b n L.st xs ∧ (∀ o, L.st + xs.length * n ≤ o → ¬ S L.b o) ∧
      (fz = false → ∀ o, L.st ≤ o → ¬ S L.b o) ∧ (fz = true → ∀ o, L.st ≤ o → o < L.st + xs.length * n → S L.b o)

def O.live : O → Bool
  | .no _ => false
  | _ => true

/-- What does not turn while a call by value runs. -/
structure Env where
  base : Nat
  w0 : World
  S0 : Sb

structure RelH (E : Env) (ι : Ix) (S : Sb) (h : Nat → O) (w : World) : Prop where
  below : Below E.base E.w0 w
  size : E.base ≤ w.heap.size
  objs : ∀ id, ORel ι S E.base w id (h id)
  apart : ∀ id id' L L', id ≠ id' → (h id).live = true → (h id').live = true → ι id (h id).ver = some L → ι id' (h id').ver = some L' → L.b ≠ L'.b
  vers : ∀ id ver, (h id).ver < ver → ι id ver = none
  sub : ∀ b o, E.S0 b o → S b o
  new : ∀ b o, S b o → E.S0 b o ∨ E.base ≤ b
  inw : ∀ b o, S b o → b < w.heap.size

/-- What was known stays known. -/
structure Mono (ι : Ix) (S : Sb) (w : World) (ι' : Ix) (S' : Sb) (w' : World) : Prop where
  ix : ∀ id ver L, ι id ver = some L → ι' id ver = some L
  sb : ∀ b o, S b o → S' b o
  cell : ∀ b o, S b o → w'.cell? ⟨b, o, none⟩ = w.cell? ⟨b, o, none⟩

theorem Mono.refl (ι : Ix) (S : Sb) (w : World) : Mono ι S w ι S w := ⟨fun _ _ _ h => h, fun _ _ h => h, fun _ _ _ => rfl⟩
theorem Mono.trans {ι ι' ι'' : Ix} {S S' S'' : Sb} {w w' w'' : World} (h : Mono ι S w ι' S' w') (k : Mono ι' S' w' ι'' S'' w'') : Mono ι S w ι'' S'' w'' :=
  ⟨fun _ _ _ e => k.ix _ _ _ (h.ix _ _ _ e), fun _ _ e => k.sb _ _ (h.sb _ _ e), fun _ _ e => (k.cell _ _ (h.sb _ _ e)).trans (h.cell _ _ e)⟩

mutual
theorem CellsD_mono {S S' : Sb} {w w' : World} (hs : ∀ b o, S b o → S' b o) (hc : ∀ b o, S b o → w'.cell? ⟨b, o, none⟩ = w.cell? ⟨b, o, none⟩) : ∀ (x : D) (us : List Value), CellsD S w x us → CellsD S' w' x us
  | .s v, us, h => by unfold CellsD at *; exact h
  | .agg ys, us, h => by unfold CellsD at *; exact CellsL_mono hs hc ys us h
  | .lst zs, us, h => by
    unfold CellsD at *
    obtain ⟨a, cap, h1, h2, h3⟩ := h
    refine ⟨a, cap, h1, h2, ?_⟩
    rcases h3 with h3 | ⟨b, o, n, h3, h4⟩
    · exact Or.inl h3
    · exact Or.inr ⟨b, o, n, h3, RowD_mono hs hc b n o zs h4⟩
theorem CellsL_mono {S S' : Sb} {w w' : World} (hs : ∀ b o, S b o → S' b o) (hc : ∀ b o, S b o → w'.cell? ⟨b, o, none⟩ = w.cell? ⟨b, o, none⟩) : ∀ (xs : List D) (us : List Value), CellsL S w xs us → CellsL S' w' xs us
  | [], us, h => by unfold CellsL at *; exact h
  | y :: ys, us, h => by
    unfold CellsL at *
    obtain ⟨u, us', h1, h2, h3⟩ := h
    exact ⟨u, us', h1, ⟨h2.1, CellsD_mono hs hc y _ h2.2⟩, CellsL_mono hs hc ys _ h3⟩
theorem RowD_mono {S S' : Sb} {w w' : World} (hs : ∀ b o, S b o → S' b o) (hc : ∀ b o, S b o → w'.cell? ⟨b, o, none⟩ = w.cell? ⟨b, o, none⟩) (b n : Nat) : ∀ (o : Nat) (xs : List D), RowD S w b n o xs → RowD S' w' b n o xs
  | o, [], _ => by unfold RowD; trivial
  | o, x :: xs, h => by
    unfold RowD at *
    obtain ⟨⟨us, h1, h2, h3, h4⟩, h5⟩ := h
    exact ⟨⟨us, h1, h2, CellsD_mono hs hc x us h3, fun j u hj => ⟨(h4 j u hj).1, hs _ _ (h4 j u hj).2.1, (hc _ _ (h4 j u hj).2.1).trans (h4 j u hj).2.2⟩⟩, RowD_mono hs hc b n (o + n) xs h5⟩
end
theorem ValD_mono {S S' : Sb} {w w' : World} (hs : ∀ b o, S b o → S' b o) (hc : ∀ b o, S b o → w'.cell? ⟨b, o, none⟩ = w.cell? ⟨b, o, none⟩) (x : D) (u : Value) (h : ValD S w x u) : ValD S' w' x u := by
  cases x with
  | agg ys =>
    obtain ⟨us, h1, h2⟩ := h
    exact ⟨us, h1, CellsL_mono hs hc _ _ h2⟩
  | s v => exact CellsD_mono hs hc (.s v) _ h
  | lst zs => exact CellsD_mono hs hc (.lst zs) _ h
theorem ValDs_mono {S S' : Sb} {w w' : World} (hs : ∀ b o, S b o → S' b o) (hc : ∀ b o, S b o → w'.cell? ⟨b, o, none⟩ = w.cell? ⟨b, o, none⟩) : ∀ (xs : List D) (us : List Value), ValDs S w xs us → ValDs S' w' xs us
  | [], us, h => h
  | x :: xs, us, h => by
    obtain ⟨u, us', h1, h2, h3⟩ := h
    exact ⟨u, us', h1, ValD_mono hs hc _ _ h2, ValDs_mono hs hc _ _ h3⟩

mutual
theorem VA_mono {ι ι' : Ix} {S S' : Sb} {w w' : World} (m : Mono ι S w ι' S' w') : ∀ (x : A) (u : Value), VA ι S w x u → VA ι' S' w' x u
  | .any, u, h => by unfold VA; trivial
  | .d x, u, h => by unfold VA at *; exact ValD_mono m.sb m.cell x u h
  | .clip xs, u, h => by
    unfold VA at *
    obtain ⟨a, h1, h3⟩ := h
    refine ⟨a, h1, ?_⟩
    rcases h3 with h3 | ⟨b, o, n, h3, h4⟩
    · exact Or.inl h3
    · exact Or.inr ⟨b, o, n, h3, RowD_mono m.sb m.cell b n o xs h4⟩
  | .agg xs, u, h => by
    unfold VA at *
    obtain ⟨us, h1, h2⟩ := h
    exact ⟨us, h1, VL_mono m xs _ h2⟩
  | .tup xs, u, h => by
    unfold VA at *
    obtain ⟨us, h1, h2⟩ := h
    exact ⟨us, h1, VL_mono m xs _ h2⟩
  | .bp id ver off, u, h => by
    unfold VA at *
    obtain ⟨L, h1, h2⟩ := h
    exact ⟨L, m.ix _ _ _ h1, h2⟩
  | .sl id ver off len, u, h => by
    unfold VA at *
    obtain ⟨a, cap, h1, h2, h3⟩ := h
    refine ⟨a, cap, h1, h2, ?_⟩
    rcases h3 with h3 | ⟨L, h3, h4⟩
    · exact Or.inl h3
    · exact Or.inr ⟨L, m.ix _ _ _ h3, h4⟩
  | .op id ver i off, u, h => by
    unfold VA at *
    obtain ⟨L, h1, h2⟩ := h
    exact ⟨L, m.ix _ _ _ h1, h2⟩
  | .ep xs i off, u, h => by
    unfold VA at *
    obtain ⟨b, o, n, h1, h2⟩ := h
    exact ⟨b, o, n, h1, RowD_mono m.sb m.cell b n o xs h2⟩
  | .clo f caps, u, h => by
    unfold VA at *
    obtain ⟨us, h1, h2⟩ := h
    exact ⟨us, h1, VL_mono m caps _ h2⟩
theorem VL_mono {ι ι' : Ix} {S S' : Sb} {w w' : World} (m : Mono ι S w ι' S' w') : ∀ (xs : List A) (us : List Value), VL ι S w xs us → VL ι' S' w' xs us
  | [], us, h => by unfold VL at *; exact h
  | y :: ys, us, h => by
    unfold VL at *
    obtain ⟨u, us', h1, h2, h3⟩ := h
    exact ⟨u, us', h1, VA_mono m y _ h2, VL_mono m ys _ h3⟩
end

/-! ### lists of cells -/
theorem VL_get {ι : Ix} {S : Sb} {w : World} : ∀ {xs : List A} {us : List Value}, VL ι S w xs us ↔ xs.length = us.length ∧ ∀ (i : Nat) x u, xs[i]? = some x → us[i]? = some u → VA ι S w x u
  | [], us => by
    unfold VL
    constructor
    · rintro rfl; simp
    · rintro ⟨h, _⟩; exact List.length_eq_zero_iff.1 h.symm
  | x :: xs, us => by
    unfold VL
    constructor
    · rintro ⟨u, us', rfl, h1, h2⟩
      obtain ⟨h3, h4⟩ := VL_get.1 h2
      refine ⟨by simp [h3], fun i y v hy hv => ?_⟩
      cases i with
      | zero => simp at hy hv; subst hy hv; exact h1
      | succ i => exact h4 i y v (by simpa using hy) (by simpa using hv)
    · rintro ⟨h1, h2⟩
      cases us with
      | nil => simp at h1
      | cons u us => exact ⟨u, us, rfl, h2 0 x u rfl rfl, VL_get.2 ⟨by simpa using h1, fun i y v hy hv => h2 (i + 1) y v (by simpa using hy) (by simpa using hv)⟩⟩
theorem CellsL_get {S : Sb} {w : World} : ∀ {xs : List D} {us : List Value}, CellsL S w xs us ↔ xs.length = us.length ∧ ∀ (i : Nat) x u, xs[i]? = some x → us[i]? = some u → x.flat = true ∧ CellsD S w x [u]
  | [], us => by
    unfold CellsL
    constructor
    · rintro rfl; simp
    · rintro ⟨h, _⟩; exact List.length_eq_zero_iff.1 h.symm
  | x :: xs, us => by
    unfold CellsL
    constructor
    · rintro ⟨u, us', rfl, h1, h2⟩
      obtain ⟨h3, h4⟩ := CellsL_get.1 h2
      refine ⟨by simp [h3], fun i y v hy hv => ?_⟩
      cases i with
      | zero => simp at hy hv; subst hy hv; exact h1
      | succ i => exact h4 i y v (by simpa using hy) (by simpa using hv)
    · rintro ⟨h1, h2⟩
      cases us with
      | nil => simp at h1
      | cons u us => exact ⟨u, us, rfl, h2 0 x u rfl rfl, CellsL_get.2 ⟨by simpa using h1, fun i y v hy hv => h2 (i + 1) y v (by simpa using hy) (by simpa using hv)⟩⟩
theorem RowD_get {S : Sb} {w : World} {b n : Nat} : ∀ {o : Nat} {xs : List D}, RowD S w b n o xs ↔ ∀ (i : Nat) x, xs[i]? = some x → ∃ us : List Value, us.length = n ∧ x.cells.length = n ∧ CellsD S w x us ∧ ∀ (j : Nat) u, us[j]? = some u → u.oneCell' = true ∧ S b (o + i * n + j) ∧ w.cell? ⟨b, o + i * n + j, none⟩ = some u
  | o, [] => by unfold RowD; simp
  | o, x :: xs => by
    unfold RowD
    constructor
    · rintro ⟨⟨us, h1, h2, h3, h4⟩, h5⟩ i y hy
      cases i with
      | zero => simp at hy; subst hy; exact ⟨us, h1, h2, h3, by simpa using h4⟩
      | succ i =>
        obtain ⟨us', g1, g2, g3, g4⟩ := RowD_get.1 h5 i y (by simpa using hy)
        have e : o + (i + 1) * n = o + n + i * n := by rw [Nat.succ_mul]; omega
        exact ⟨us', g1, g2, g3, by rw [e]; exact g4⟩
    · intro h
      refine ⟨?_, RowD_get.2 fun i y hy => ?_⟩
      · simpa using h 0 x rfl
      · obtain ⟨us', g1, g2, g3, g4⟩ := h (i + 1) y (by simpa using hy)
        have e : o + (i + 1) * n = o + n + i * n := by rw [Nat.succ_mul]; omega
        exact ⟨us', g1, g2, g3, by rw [← e]; exact g4⟩
/-- A row whose cells nobody writes. -/
theorem VecRow.row {S : Sb} {w : World} {b n o : Nat} {xs : List D} (h : VecRow S w b n o xs) (hs : ∀ p, o ≤ p → p < o + xs.length * n → S b p) : RowD S w b n o xs :=
  RowD_get.2 fun i x hx => by
    obtain ⟨us, h1, h2, h3, h4⟩ := h i x hx
    refine ⟨us, h1, h2, h3, fun j u hj => ⟨(h4 j u hj).1, hs _ (by omega) ?_, (h4 j u hj).2⟩⟩
    have hi : i < xs.length := (List.getElem?_eq_some_iff.1 hx).1
    have hj' : j < us.length := (List.getElem?_eq_some_iff.1 hj).1
    have : (i + 1) * n ≤ xs.length * n := Nat.mul_le_mul_right _ hi
    rw [Nat.succ_mul] at this
    omega
theorem RowD.vec {S : Sb} {w : World} {b n o : Nat} {xs : List D} (h : RowD S w b n o xs) : VecRow S w b n o xs := fun i x hx => by
  obtain ⟨us, h1, h2, h3, h4⟩ := RowD_get.1 h i x hx
  exact ⟨us, h1, h2, h3, fun j u hj => ⟨(h4 j u hj).1, (h4 j u hj).2.2⟩⟩
theorem RowD.drop {S : Sb} {w : World} {b n o : Nat} {xs : List D} (h : RowD S w b n o xs) (k : Nat) : RowD S w b n (o + k * n) (xs.drop k) :=
  RowD_get.2 fun i x hx => by
    rw [List.getElem?_drop] at hx
    obtain ⟨us, h1, h2, h3, h4⟩ := RowD_get.1 h _ x hx
    have e : o + (k + i) * n = o + k * n + i * n := by rw [Nat.add_mul]; omega
    exact ⟨us, h1, h2, h3, by rw [← e]; exact h4⟩
theorem RowD.take {S : Sb} {w : World} {b n o : Nat} {xs : List D} (h : RowD S w b n o xs) (k : Nat) : RowD S w b n o (xs.take k) :=
  RowD_get.2 fun i x hx => RowD_get.1 h i x (by
    rw [List.getElem?_take] at hx
    split at hx
    · exact hx
    · cases hx)
theorem VecRow.drop {S : Sb} {w : World} {b n o : Nat} {xs : List D} (h : VecRow S w b n o xs) (k : Nat) : VecRow S w b n (o + k * n) (xs.drop k) := fun i x hx => by
    rw [List.getElem?_drop] at hx
    obtain ⟨us, h1, h2, h3, h4⟩ := h _ x hx
    have e : o + (k + i) * n = o + k * n + i * n := by rw [Nat.add_mul]; omega
    exact ⟨us, h1, h2, h3, by rw [← e]; exact h4⟩
theorem VecRow.take {S : Sb} {w : World} {b n o : Nat} {xs : List D} (h : VecRow S w b n o xs) (k : Nat) : VecRow S w b n o (xs.take k) := fun i x hx => h i x (by
    rw [List.getElem?_take] at hx
    split at hx
    · exact hx
    · cases hx)
theorem VecRow.mono {S S' : Sb} {w w' : World} {b n o : Nat} {xs : List D} (h : VecRow S w b n o xs) (hs : ∀ b o, S b o → S' b o) (hc : ∀ b o, S b o → w'.cell? ⟨b, o, none⟩ = w.cell? ⟨b, o, none⟩)
    (hk : ∀ p, o ≤ p → p < o + xs.length * n → w'.cell? ⟨b, p, none⟩ = w.cell? ⟨b, p, none⟩) : VecRow S' w' b n o xs := fun i x hx => by
    obtain ⟨us, h1, h2, h3, h4⟩ := h i x hx
    refine ⟨us, h1, h2, CellsD_mono hs hc _ _ h3, fun j u hj => ⟨(h4 j u hj).1, ?_⟩⟩
    have hi : i < xs.length := (List.getElem?_eq_some_iff.1 hx).1
    have hj' : j < us.length := (List.getElem?_eq_some_iff.1 hj).1
    have : (i + 1) * n ≤ xs.length * n := Nat.mul_le_mul_right _ hi
    rw [Nat.succ_mul] at this
    rw [hk _ (by omega) (by omega)]
    exact (h4 j u hj).2
end Go.Proofs.YtkflfgkmbgjohaaDoor
