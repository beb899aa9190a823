/-
  WHAT IS PROVED HERE: structs that are built; slices as lists of cells; what is frozen.
-/
import Derived.Test.YtkflfgkmbgjohaaDoorAbs7
import Derived.Laws.Append
import Derived.Laws.AppendOwn
set_option linter.unusedVariables false
set_option linter.unusedSimpArgs false
namespace Go.Proofs.YtkflfgkmbgjohaaDoor
open Go Go.RowKit

/-! ### build -/
theorem foldl_set (off : Nat) : ∀ (vs : List Value) (k : Nat) (cells : Array Value), off + k + vs.length ≤ cells.size →
    ((vs.zipIdx k).foldl (fun (cs : Array Value) (p : Value × Nat) => cs.setIfInBounds (off + p.2) p.1) cells).toList = put cells.toList (off + k) vs
  | [], k, cells, h => by
    simp only [List.zipIdx_nil, List.foldl_nil]
    unfold put
    simp
  | v :: vs, k, cells, h => by
    simp only [List.zipIdx_cons, List.foldl_cons]
    simp only [List.length_cons] at h
    rw [foldl_set off vs (k + 1) _ (by simp; omega)]
    apply List.ext_getElem?
    intro j
    have hl : off + k + (v :: vs).length ≤ cells.toList.length := by simp; omega
    rw [put_get (by simp; omega), put_get hl]
    simp only [Array.toList_setIfInBounds, List.length_cons]
    by_cases h1 : j < off + k
    · rw [if_pos (by omega), if_pos h1, List.getElem?_set, if_neg (by omega)]
    · rw [if_neg h1]
      by_cases h2 : j = off + k
      · subst h2
        rw [if_pos (by omega), if_pos (by omega), List.getElem?_set, if_pos rfl]
        simp; omega
      · rw [if_neg (by omega)]
        by_cases h3 : j < off + k + (vs.length + 1)
        · rw [if_pos (by omega), if_pos h3]
          have : j - (off + k) = (j - (off + (k + 1))) + 1 := by omega
          rw [this]
          simp
        · rw [if_neg (by omega), if_neg h3, List.getElem?_set, if_neg (by omega)]
theorem VL_put {ι : Ix} {S : Sb} {w : World} {cs xs : List A} {us vs : List Value} {off : Nat} (h : VL ι S w cs us) (k : VL ι S w xs vs) (hl : off + xs.length ≤ cs.length) : VL ι S w (put cs off xs) (put us off vs) := by
  obtain ⟨h1, h2⟩ := VL_get.1 h
  obtain ⟨k1, k2⟩ := VL_get.1 k
  have hl' : off + vs.length ≤ us.length := by omega
  refine VL_get.2 ⟨by rw [put_length hl, put_length hl', h1], fun i x u hx hu => ?_⟩
  rw [put_get hl] at hx
  rw [put_get hl'] at hu
  by_cases c1 : i < off
  · rw [if_pos c1] at hx hu; exact h2 i x u hx hu
  · rw [if_neg c1] at hx hu
    by_cases c2 : i < off + xs.length
    · rw [if_pos c2] at hx; rw [if_pos (by omega)] at hu; exact k2 _ x u hx hu
    · rw [if_neg c2] at hx; rw [if_neg (by omega)] at hu; exact h2 i x u hx hu
/-- Pairs of places and values. -/
def VP (ι : Ix) (S : Sb) (w : World) : List (Nat × A) → List (Nat × Value) → Prop
  | [], vs => vs = []
  | (i, x) :: l, vs => ∃ v vs', vs = (i, v) :: vs' ∧ VA ι S w x v ∧ VP ι S w l vs'
theorem fill_ok {ι : Ix} {S : Sb} {w : World} (place : Nat → Option (Nat × Nat)) : ∀ (parts : List (Nat × A)) (vparts : List (Nat × Value)) (cs r : List A) (us : Array Value), VP ι S w parts vparts → VL ι S w cs us.toList → fillA place cs parts = some r →
    ∃ us', Instr.fill place us vparts = some us' ∧ VL ι S w r us'.toList
  | [], vparts, cs, r, us, hp, hv, h => by
    unfold VP at hp
    subst hp
    simp only [fillA, Option.some.injEq] at h
    subst h
    exact ⟨us, rfl, hv⟩
  | (i, x) :: parts, vparts, cs, r, us, hp, hv, h => by
    unfold VP at hp
    obtain ⟨v, vs', rfl, h1, h2⟩ := hp
    unfold fillA at h
    cases hpl : place i with
    | none => rw [hpl] at h; cases h
    | some p =>
      obtain ⟨off, size⟩ := p
      rw [hpl] at h
      simp only at h
      split at h
      · cases h
      · rename_i hc
        have hvc := VA_cells h1 (by rintro rfl; exact hc (Or.inr (Or.inr rfl)))
        have hlen := (VL_get.1 hvc).1
        have hlen2 := (VL_get.1 hv).1
        simp only [Array.length_toList] at hlen hlen2
        have c1 : v.cells.size = size := by
          have : ¬ (x.cells.length ≠ size) := fun e => hc (Or.inl e)
          omega
        have c2 : ¬ (cs.length < off + x.cells.length) := fun e => hc (Or.inr (Or.inl e))
        have hf := foldl_set off v.cells.toList 0 us (by simp; omega)
        obtain ⟨us', h5, h6⟩ := fill_ok place parts vs' (put cs off x.cells) r (v.cells.zipIdx.foldl (fun cs (c, j) => cs.setIfInBounds (off + j) c) us) h2 (by
          rw [← Array.foldl_toList]
          simp only [Array.toList_zipIdx]
          have e : (v.cells.toList.zipIdx 0).foldl (fun (cs : Array Value) (x : Value × Nat) => match x with | (c, j) => cs.setIfInBounds (off + j) c) us = (v.cells.toList.zipIdx 0).foldl (fun (cs : Array Value) (p : Value × Nat) => cs.setIfInBounds (off + p.2) p.1) us := rfl
          rw [e, hf]
          exact VL_put hv hvc (by omega)) h
        refine ⟨us', ?_, h6⟩
        unfold Instr.fill
        rw [hpl]
        simp only
        rw [if_neg]
        · exact h5
        · simp only [Bool.or_eq_true, decide_eq_true_eq, ne_eq, not_or, Decidable.not_not]
          exact ⟨c1, by omega⟩
theorem places_get {P : Program} {w : World} : ∀ {fs : List Field} {pl : List (Nat × Nat)}, places P fs = some pl → (fs.mapM (fun (f : Field) => (do pure (f.offset, ← sizeOf f.type) : Sem (Nat × Nat)))).run P w = .ok pl w
  | [], pl, h => by
    simp only [places, Option.some.injEq] at h
    subst h
    simp
  | f :: fs, pl, h => by
    unfold places at h
    split at h
    · rename_i n r hn hr
      simp only [Option.some.injEq] at h
      subst h
      have ih := places_get (w := w) hr
      simp only [List.mapM_cons, Sem.run_bind, run_size hn, Result.andThen, ih, Sem.run_pure]
    · cases h
theorem build_ok {P : Program} {ι : Ix} {S : Sb} {w : World} {t : TypeId} {parts : List (Nat × A)} {vparts : Array (Nat × Value)} (hp : VP ι S w parts vparts.toList) {y : A} (h : buildE P t parts = some y) : ∃ u, (Instr.build t vparts).run P w = .ok u w ∧ VA ι S w y u := by
  unfold buildE at h
  split at h
  · rename_i z fs hz hu
    split at h
    · rename_i pl hpl
      obtain ⟨r, h1, rfl⟩ := Option.map_eq_some_iff.1 h
      obtain ⟨us', h2, h3⟩ := fill_ok (fun i => pl[i]?) parts vparts.toList _ r z.cells hp (VL_ofCell _ _ _ _) h1
      refine ⟨.agg us', ?_, by simpa using VA_mk h3⟩
      have hm := places_get (w := w) hpl
      have hm' : (fs.mapM (fun (f : Field) => (do pure (f.offset, ← sizeOf f.type) : Sem (Nat × Nat)))).run P w = .ok pl.toArray w := by
        rw [Array.mapM_eq_mapM_toList]
        simp only [map_eq_pure_bind, Sem.run_bind, hm, Result.andThen, Sem.run_pure]
      have h2' : Instr.fill (fun x => pl.toArray[x]?) z.cells vparts.toList = some us' := by simpa using h2
      simp only [Instr.build, Sem.run_bind, run_zero hz, run_under hu, Result.andThen, hm', h2', Sem.run_pure]
    · cases h
  · rename_i z len e hz hu
    split at h
    · rename_i sz hs
      obtain ⟨r, h1, rfl⟩ := Option.map_eq_some_iff.1 h
      obtain ⟨us', h2, h3⟩ := fill_ok (fun i => some (i * sz, sz)) parts vparts.toList _ r z.cells hp (VL_ofCell _ _ _ _) h1
      refine ⟨.agg us', ?_, by simpa using VA_mk h3⟩
      simp only [Instr.build, Sem.run_bind, run_zero hz, run_under hu, Result.andThen, run_size hs, h2, Sem.run_pure]
    · cases h
  · cases h

/-! ### rows as flat cells -/
def Flat (S : Sb) (w : World) (sz : Nat) (ys : List D) (news : List Value) : Prop :=
  news.length = ys.length * sz ∧ (∀ u ∈ news, u.oneCell' = true) ∧ ∀ (i : Nat) y, ys[i]? = some y → ∃ us : List Value, us.length = sz ∧ y.cells.length = sz ∧ CellsD S w y us ∧ ∀ (j : Nat) u, us[j]? = some u → news[i * sz + j]? = some u
theorem Flat.nil (S : Sb) (w : World) (sz : Nat) : Flat S w sz [] [] := ⟨by simp, by simp, fun i y h => by simp at h⟩
theorem Flat.cons {S : Sb} {w : World} {sz : Nat} {y : D} {ys : List D} {us news : List Value} (h1 : us.length = sz) (h2 : y.cells.length = sz) (h3 : CellsD S w y us) (h4 : ∀ u ∈ us, u.oneCell' = true) (h : Flat S w sz ys news) : Flat S w sz (y :: ys) (us ++ news) := by
  obtain ⟨g1, g2, g3⟩ := h
  refine ⟨by rw [List.length_append, List.length_cons, Nat.succ_mul, h1, g1]; omega, fun u hu => ?_, fun i x hx => ?_⟩
  · rcases List.mem_append.1 hu with hu | hu
    · exact h4 u hu
    · exact g2 u hu
  · cases i with
    | zero =>
      simp only [List.getElem?_cons_zero, Option.some.injEq] at hx
      subst hx
      refine ⟨us, h1, h2, h3, fun j u hj => ?_⟩
      have hj' : j < us.length := (List.getElem?_eq_some_iff.1 hj).1
      rw [Nat.zero_mul, Nat.zero_add, List.getElem?_append_left hj']
      exact hj
    | succ i =>
      obtain ⟨us', k1, k2, k3, k4⟩ := g3 i x (by simpa using hx)
      refine ⟨us', k1, k2, k3, fun j u hj => ?_⟩
      rw [List.getElem?_append_right (by rw [Nat.succ_mul]; omega), h1, show (i + 1) * sz + j - sz = i * sz + j by rw [Nat.succ_mul]; omega]
      exact k4 j u hj
theorem Flat.append {S : Sb} {w : World} {sz : Nat} {xs ys : List D} {a b : List Value} (h : Flat S w sz xs a) (k : Flat S w sz ys b) : Flat S w sz (xs ++ ys) (a ++ b) := by
  obtain ⟨g1, g2, g3⟩ := h
  obtain ⟨k1, k2, k3⟩ := k
  refine ⟨by rw [List.length_append, List.length_append, Nat.add_mul, g1, k1], fun u hu => ?_, fun i x hx => ?_⟩
  · rcases List.mem_append.1 hu with hu | hu
    · exact g2 u hu
    · exact k2 u hu
  · by_cases hi : i < xs.length
    · rw [List.getElem?_append_left hi] at hx
      obtain ⟨us, m1, m2, m3, m4⟩ := g3 i x hx
      refine ⟨us, m1, m2, m3, fun j u hj => ?_⟩
      have := m4 j u hj
      rw [List.getElem?_append_left (List.getElem?_eq_some_iff.1 this).1]
      exact this
    · rw [List.getElem?_append_right (by omega)] at hx
      obtain ⟨us, m1, m2, m3, m4⟩ := k3 _ x hx
      refine ⟨us, m1, m2, m3, fun j u hj => ?_⟩
      have e : i * sz = xs.length * sz + (i - xs.length) * sz := by rw [← Nat.add_mul]; congr 1; omega
      rw [List.getElem?_append_right (by omega), g1, show i * sz + j - xs.length * sz = (i - xs.length) * sz + j by omega]
      exact m4 j u hj
theorem Flat.mono {S S' : Sb} {w w' : World} {sz : Nat} {ys : List D} {news : List Value} (h : Flat S w sz ys news) (hs : ∀ b o, S b o → S' b o) (hc : ∀ b o, S b o → w'.cell? ⟨b, o, none⟩ = w.cell? ⟨b, o, none⟩) : Flat S' w' sz ys news :=
  ⟨h.1, h.2.1, fun i y hy => by
    obtain ⟨us, m1, m2, m3, m4⟩ := h.2.2 i y hy
    exact ⟨us, m1, m2, CellsD_mono hs hc _ _ m3, m4⟩⟩
theorem Flat.vec {S : Sb} {w : World} {sz : Nat} {ys : List D} {news : List Value} (h : Flat S w sz ys news) {b o : Nat} (hc : ∀ (j : Nat) u, news[j]? = some u → w.cell? ⟨b, o + j, none⟩ = some u) : VecRow S w b sz o ys := fun i y hy => by
  obtain ⟨us, m1, m2, m3, m4⟩ := h.2.2 i y hy
  refine ⟨us, m1, m2, m3, fun j u hj => ⟨?_, ?_⟩⟩
  · exact h.2.1 u (List.mem_of_getElem? (m4 j u hj))
  · rw [Nat.add_assoc]; exact hc _ _ (m4 j u hj)
theorem VecRow.flat {S : Sb} {w : World} {b n : Nat} : ∀ {xs : List D} {o : Nat}, VecRow S w b n o xs → ∃ news, Flat S w n xs news ∧ ∀ (j : Nat) u, news[j]? = some u → w.cell? ⟨b, o + j, none⟩ = some u
  | [], o, _ => ⟨[], Flat.nil _ _ _, fun j u h => by simp at h⟩
  | x :: xs, o, h => by
    obtain ⟨us, h1, h2, h3, h4⟩ := h 0 x rfl
    obtain ⟨news, h5, h6⟩ := VecRow.flat (xs := xs) (o := o + n) (by have := h.drop 1; simpa using this)
    refine ⟨us ++ news, Flat.cons h1 h2 h3 (fun u hu => ?_) h5, fun j u hj => ?_⟩
    · obtain ⟨j, hj, rfl⟩ := List.getElem_of_mem hu
      exact (h4 j _ (List.getElem?_eq_getElem hj)).1
    · by_cases hj' : j < us.length
      · rw [List.getElem?_append_left hj'] at hj
        have := (h4 j u hj).2
        simpa using this
      · rw [List.getElem?_append_right (by omega)] at hj
        have := h6 _ u hj
        rw [show o + n + (j - us.length) = o + j by omega] at this
        exact this
end Go.Proofs.YtkflfgkmbgjohaaDoor
