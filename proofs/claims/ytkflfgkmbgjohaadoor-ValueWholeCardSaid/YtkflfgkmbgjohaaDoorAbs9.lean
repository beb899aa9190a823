/-
  WHAT IS PROVED HERE: what is frozen, and what a new slice is: the interpreter says what the model does.
-/
import Derived.Test.YtkflfgkmbgjohaaDoorAbs8
set_option linter.unusedVariables false
set_option linter.unusedSimpArgs false
namespace Go.Proofs.YtkflfgkmbgjohaaDoor
open Go Go.RowKit

/-! ### freezing -/
def addS (S : Sb) (b lo hi : Nat) : Sb := fun b' o => S b' o ∨ (b' = b ∧ lo ≤ o ∧ o < hi)
theorem freeze_ver (o : O) : o.freeze.ver = o.ver := by cases o <;> rfl
theorem freeze_live (o : O) : o.freeze.live = o.live := by cases o <;> rfl
theorem freeze_freeze (o : O) : o.freeze.freeze = o.freeze := by cases o <;> rfl
/-- The cells of those vecs are nobody's to write. -/
def FzAll (ι : Ix) (S : Sb) (h : Nat → O) (ids : List Nat) : Prop := ∀ id ∈ ids, ∀ ver n xs fz L, h id = .vec ver n xs fz → ι id ver = some L → ∀ o, L.st ≤ o → o < L.st + xs.length * n → S L.b o
theorem RelH.congr {E : Env} {ι : Ix} {S : Sb} {h h' : Nat → O} {w : World} (hr : RelH E ι S h w) (e : ∀ i, h' i = h i) : RelH E ι S h' w := by
  have : h' = h := funext e
  rw [this]; exact hr
theorem RelH.freeze1 {E : Env} {ι : Ix} {S : Sb} {h : Nat → O} {w : World} (hr : RelH E ι S h w) (id : Nat) :
    ∃ S', Mono ι S w ι S' w ∧ RelH E ι S' (upd h id (h id).freeze) w ∧ FzAll ι S' h [id] := by
  cases ho : h id with
  | no v => exact ⟨S, Mono.refl _ _ _, hr.congr fun i => by unfold upd; split <;> simp_all [O.freeze], fun i hi ver n xs fz L e => by simp at hi; subst hi; rw [ho] at e; cases e⟩
  | box v cs => exact ⟨S, Mono.refl _ _ _, hr.congr fun i => by unfold upd; split <;> simp_all [O.freeze], fun i hi ver n xs fz L e => by simp at hi; subst hi; rw [ho] at e; cases e⟩
  | vec v n xs fz =>
    have hob := hr.objs id
    rw [ho] at hob
    have vl : ∀ i, (upd h id (O.vec v n xs fz).freeze i).ver = (h i).ver ∧ (upd h id (O.vec v n xs fz).freeze i).live = (h i).live := fun i => by
      unfold upd
      split
      · rename_i e; subst e; rw [ho]; exact ⟨rfl, rfl⟩
      · exact ⟨rfl, rfl⟩
    rcases hob with ⟨g1, g2⟩ | ⟨L, g1, g2, g3, g4, g5, g6, g7, g8, g9, g10⟩
    · refine ⟨S, Mono.refl _ _ _, ⟨hr.below, hr.size, fun i => ?_, fun i i' L1 L2 hne hl hl' h1 h2 => ?_, fun i ver hlt => ?_, hr.sub, hr.new, hr.inw⟩, fun i hi ver n' xs' fz' L e hL => ?_⟩
      · unfold upd
        split
        · rename_i e; subst e; exact Or.inl ⟨g1, g2⟩
        · exact hr.objs i
      · rw [(vl i).2] at hl; rw [(vl i').2] at hl'; rw [(vl i).1] at h1; rw [(vl i').1] at h2
        exact hr.apart i i' L1 L2 hne hl hl' h1 h2
      · rw [(vl i).1] at hlt; exact hr.vers i ver hlt
      · simp at hi; subst hi; rw [ho] at e; cases e; rw [g2] at hL; cases hL
    · have m : Mono ι S w ι (addS S L.b L.st (L.st + xs.length * n)) w := ⟨fun _ _ _ h => h, fun _ _ h => Or.inl h, fun _ _ _ => rfl⟩
      refine ⟨addS S L.b L.st (L.st + xs.length * n), m, ⟨hr.below, hr.size, fun i => ?_, fun i i' L1 L2 hne hl hl' h1 h2 => ?_, fun i ver hlt => ?_, fun b o hs => Or.inl (hr.sub b o hs), fun b o hs => ?_, fun b o hs => ?_⟩, fun i hi ver n' xs' fz' L' e hL o h1 h2 => ?_⟩
      · unfold upd
        split
        · rename_i e; subst e
          refine Or.inr ⟨L, g1, g2, g3, g4, g5, g6, g7.mono m.sb m.cell (fun _ _ _ => rfl), fun o ho hs => ?_, (fun hf => by cases hf), fun _ o h1 h2 => Or.inr ⟨rfl, h1, h2⟩⟩
          rcases hs with hs | ⟨_, _, hs⟩
          · exact g8 o ho hs
          · omega
        · rename_i e
          refine (hr.objs i).keep m rfl (Nat.le_refl _) fun hl L2 hL2 => ⟨fun p hs => ?_, fun p => ⟨rfl, rfl⟩⟩
          rcases hs with hs | ⟨e', _, _⟩
          · exact hs
          · exact absurd e' (hr.apart i id L2 L e hl (by rw [ho]; rfl) hL2 (by rw [ho]; exact g1))
      · rw [(vl i).2] at hl; rw [(vl i').2] at hl'; rw [(vl i).1] at h1; rw [(vl i').1] at h2
        exact hr.apart i i' L1 L2 hne hl hl' h1 h2
      · rw [(vl i).1] at hlt; exact hr.vers i ver hlt
      · rcases hs with hs | ⟨rfl, _, _⟩
        · exact hr.new b o hs
        · exact Or.inr g3
      · rcases hs with hs | ⟨rfl, _, _⟩
        · exact hr.inw b o hs
        · exact g4
      · simp at hi; subst hi; rw [ho] at e; cases e; rw [g1] at hL; cases hL
        exact Or.inr ⟨rfl, h1, h2⟩
theorem RelH.freezeL {E : Env} {ι : Ix} {h0 : Nat → O} {w : World} : ∀ (ids : List Nat) {S : Sb} {h : Nat → O}, (∀ j, h j = h0 j ∨ h j = (h0 j).freeze) → RelH E ι S h w → ∃ S', Mono ι S w ι S' w ∧ RelH E ι S' (upds h (frz h0 ids)) w ∧ FzAll ι S' h0 ids ∧ ∀ j, upds h (frz h0 ids) j = h0 j ∨ upds h (frz h0 ids) j = (h0 j).freeze
  | [], S, h, he, hr => ⟨S, Mono.refl _ _ _, hr, fun i hi => by simp at hi, he⟩
  | id :: ids, S, h, he, hr => by
    by_cases hfz : (h0 id).fz = true
    · have e0 : frz h0 (id :: ids) = frz h0 ids := by simp [frz, hfz]
      rw [e0]
      obtain ⟨S2, m2, r2, f2, f3⟩ := RelH.freezeL ids he hr
      refine ⟨S2, m2, r2, fun i hi ver n xs fz L e hL o h1 h2 => ?_, f3⟩
      rcases List.mem_cons.1 hi with rfl | hi
      · rw [e] at hfz
        simp only [O.fz] at hfz
        subst hfz
        have hi' : h i = .vec ver n xs true := by
          rcases he i with h' | h'
          · rw [h', e]
          · rw [h', e]; rfl
        have hob := hr.objs i
        rw [hi'] at hob
        rcases hob with ⟨g, _⟩ | ⟨L', g1, g2, g3, g4, g5, g6, g7, g8, g9, g10⟩
        · subst g; simp at h2; omega
        · rw [hL] at g1
          cases g1
          exact m2.sb _ _ (g10 rfl o h1 h2)
      · exact f2 i hi ver n xs fz L e hL o h1 h2
    have e0 : frz h0 (id :: ids) = (id, (h0 id).freeze) :: frz h0 ids := by simp [frz, hfz]
    rw [e0]
    obtain ⟨S1, m1, r1, f1⟩ := hr.freeze1 id
    have hid : (h id).freeze = (h0 id).freeze := by
      rcases he id with h' | h'
      · rw [h']
      · rw [h', freeze_freeze]
    rw [hid] at r1
    have he' : ∀ j, upd h id (h0 id).freeze j = h0 j ∨ upd h id (h0 id).freeze j = (h0 j).freeze := fun j => by
      unfold upd
      split
      · rename_i e; subst e; exact Or.inr rfl
      · exact he j
    obtain ⟨S2, m2, r2, f2, f3⟩ := RelH.freezeL ids he' r1
    refine ⟨S2, m1.trans m2, r2, fun i hi ver n xs fz L e hL o h1 h2 => ?_, f3⟩
    rcases List.mem_cons.1 hi with rfl | hi
    · have : ∃ fz', h i = .vec ver n xs fz' := by
        rcases he i with h' | h'
        · exact ⟨fz, by rw [h', e]⟩
        · exact ⟨true, by rw [h', e]; rfl⟩
      obtain ⟨fz', hh⟩ := this
      exact m2.sb _ _ (f1 i (by simp) ver n xs fz' L hh hL o h1 h2)
    · exact f2 i hi ver n xs fz L e hL o h1 h2
theorem FzAll.left {ι : Ix} {S : Sb} {h : Nat → O} {a b : List Nat} (k : FzAll ι S h (a ++ b)) : FzAll ι S h a := fun i hi => k i (List.mem_append.2 (Or.inl hi))
theorem FzAll.right {ι : Ix} {S : Sb} {h : Nat → O} {a b : List Nat} (k : FzAll ι S h (a ++ b)) : FzAll ι S h b := fun i hi => k i (List.mem_append.2 (Or.inr hi))

/-- What a view of a vec shows. -/
theorem view_row {E : Env} {ι : Ix} {S : Sb} {h : Nat → O} {w : World} (hr : RelH E ι S h w) {id ver off len n : Nat} {xs : List D} {fz : Bool} (ho : h id = .vec ver n xs fz) (hl : off + len ≤ xs.length) {u : Value} (hv : VA ι S w (.sl id ver off len) u) :
    ∃ a cap, u = .slice a len cap ∧ len ≤ cap ∧ (len = 0 ∨ ∃ L, ι id ver = some L ∧ L.n = n ∧ a = some ⟨L.b, L.st + off * n, none⟩ ∧ VecRow S w L.b n (L.st + off * n) ((xs.drop off).take len)) := by
  unfold VA at hv
  obtain ⟨a, cap, rfl, h1, h2⟩ := hv
  refine ⟨a, cap, rfl, h1, ?_⟩
  rcases h2 with rfl | ⟨L, hL, rfl, h3⟩
  · exact Or.inl (by omega)
  · have hob := hr.objs id
    rw [ho] at hob
    rcases hob with ⟨_, g⟩ | ⟨L', g1, g2, g3, g4, g5, g6, g7, _⟩
    · rw [hL] at g; cases g
    · rw [hL] at g1
      cases g1
      exact Or.inr ⟨L, hL, g2, by rw [g2], (g7.drop off).take len⟩
theorem fz_lst {E : Env} {ι : Ix} {S S' : Sb} {h : Nat → O} {w : World} (hr : RelH E ι S h w) (m : Mono ι S w ι S' w) {id ver off len n : Nat} {xs : List D} {fz : Bool} (ho : h id = .vec ver n xs fz) (hl : off + len ≤ xs.length) (hf : FzAll ι S' h [id]) {u : Value} (hv : VA ι S w (.sl id ver off len) u) :
    CellsD S' w (.lst ((xs.drop off).take len)) [u] := by
  obtain ⟨a, cap, rfl, h1, h2⟩ := view_row hr ho hl hv
  have hlen : ((xs.drop off).take len).length = len := by simp only [List.length_take, List.length_drop]; omega
  unfold CellsD
  refine ⟨a, cap, by rw [hlen], by rw [hlen]; exact h1, ?_⟩
  rcases h2 with rfl | ⟨L, hL, hn, rfl, hrow⟩
  · exact Or.inl (by simp)
  · refine Or.inr ⟨_, _, n, rfl, (hrow.mono m.sb m.cell (fun _ _ _ => rfl)).row fun p hp1 hp2 => hf id (by simp) ver n xs fz L ho hL p (by omega) ?_⟩
    rw [hlen] at hp2
    have : (off + len) * n ≤ xs.length * n := Nat.mul_le_mul_right _ hl
    rw [Nat.add_mul] at this
    omega
theorem fzCell_ok {E : Env} {ι : Ix} {S S' : Sb} {h : Nat → O} {w : World} (hr : RelH E ι S h w) (m : Mono ι S w ι S' w) {a : A} {u : Value} (hv : VA ι S w a u) {x : D} {ids : List Nat} (hx : fzCell h a = some (x, ids)) (hf : FzAll ι S' h ids) : ValD S' w x u := by
  unfold fzCell at hx
  split at hx
  · simp only [Option.some.injEq, Prod.mk.injEq] at hx
    obtain ⟨rfl, rfl⟩ := hx
    unfold VA at hv
    exact ValD_mono m.sb m.cell _ _ hv
  · simp only [Option.some.injEq, Prod.mk.injEq] at hx
    obtain ⟨rfl, rfl⟩ := hx
    unfold VA at hv
    obtain ⟨b, rfl, h2⟩ := hv
    show CellsD S' w (.lst _) [_]
    unfold CellsD
    refine ⟨b, _, rfl, Nat.le_refl _, ?_⟩
    rcases h2 with h2 | ⟨b', o, n, h2, h3⟩
    · exact Or.inl h2
    · exact Or.inr ⟨b', o, n, h2, RowD_mono m.sb m.cell _ _ _ _ h3⟩
  · split at hx
    · rename_i id ver off len v n xs fz ho
      split at hx
      · rename_i hc
        obtain ⟨rfl, hl⟩ := hc
        simp only [Option.some.injEq, Prod.mk.injEq] at hx
        obtain ⟨rfl, rfl⟩ := hx
        exact fz_lst hr m ho hl hf hv
      · cases hx
    · cases hx
  · cases hx
theorem fzCells_ok {E : Env} {ι : Ix} {S S' : Sb} {h : Nat → O} {w : World} (hr : RelH E ι S h w) (m : Mono ι S w ι S' w) : ∀ {l : List A} {us : List Value} {ds : List D} {ids : List Nat}, VL ι S w l us → fzCells h l = some (ds, ids) → FzAll ι S' h ids → CellsL S' w ds us
  | [], us, ds, ids, hv, hx, hf => by
    simp only [fzCells, Option.some.injEq, Prod.mk.injEq] at hx
    obtain ⟨rfl, rfl⟩ := hx
    unfold VL at hv
    unfold CellsL; exact hv
  | a :: l, us, ds, ids, hv, hx, hf => by
    unfold VL at hv
    obtain ⟨u, us', rfl, h1, h2⟩ := hv
    unfold fzCells at hx
    split at hx
    · rename_i x i xs j hx1 hx2
      split at hx
      · rename_i hfl
        simp only [Option.some.injEq, Prod.mk.injEq] at hx
        obtain ⟨rfl, rfl⟩ := hx
        unfold CellsL
        refine ⟨u, us', rfl, ⟨hfl, ?_⟩, fzCells_ok hr m h2 hx2 hf.right⟩
        have := fzCell_ok hr m h1 hx1 hf.left
        cases x with
        | agg ys => cases hfl
        | s v => exact this
        | lst zs => exact this
      · cases hx
    · cases hx
theorem fzVal_ok {E : Env} {ι : Ix} {S S' : Sb} {h : Nat → O} {w : World} (hr : RelH E ι S h w) (m : Mono ι S w ι S' w) {a : A} {u : Value} (hv : VA ι S w a u) {x : D} {ids : List Nat} (hx : fzVal h a = some (x, ids)) (hf : FzAll ι S' h ids) : ValD S' w x u := by
  unfold fzVal at hx
  split at hx
  · obtain ⟨⟨xs, i⟩, h1, h2⟩ := Option.map_eq_some_iff.1 hx
    simp only [Prod.mk.injEq] at h2
    obtain ⟨rfl, rfl⟩ := h2
    unfold VA at hv
    obtain ⟨us, rfl, h3⟩ := hv
    exact ⟨us, rfl, fzCells_ok hr m h3 h1 hf⟩
  · exact fzCell_ok hr m hv hx hf
theorem fzVals_ok {E : Env} {ι : Ix} {S S' : Sb} {h : Nat → O} {w : World} (hr : RelH E ι S h w) (m : Mono ι S w ι S' w) : ∀ {l : List A} {us : List Value} {ds : List D} {ids : List Nat}, VL ι S w l us → fzVals h l = some (ds, ids) → FzAll ι S' h ids → ValDs S' w ds us
  | [], us, ds, ids, hv, hx, hf => by
    simp only [fzVals, Option.some.injEq, Prod.mk.injEq] at hx
    obtain ⟨rfl, rfl⟩ := hx
    unfold VL at hv
    exact hv
  | a :: l, us, ds, ids, hv, hx, hf => by
    unfold VL at hv
    obtain ⟨u, us', rfl, h1, h2⟩ := hv
    unfold fzVals at hx
    split at hx
    · rename_i x i xs j hx1 hx2
      simp only [Option.some.injEq, Prod.mk.injEq] at hx
      obtain ⟨rfl, rfl⟩ := hx
      exact ⟨u, us', rfl, fzVal_ok hr m h1 hx1 hf.left, fzVals_ok hr m h2 hx2 hf.right⟩
    · cases hx

/-! ### a new object -/
/-- An object at a place that is its own: in a new block, or in the block of one that is gone. -/
theorem RelH.lay {E : Env} {ι : Ix} {S S' : Sb} {h : Nat → O} {w w' : World} (hr : RelH E ι S h w) (id : Nat) (o : O) (L : Loc) (ho : o.ver = (h id).ver + 1) (m : Mono ι S w (ixNew ι id o.ver L) S' w') (hz : w.heap.size ≤ w'.heap.size) (hb : Below E.base E.w0 w')
    (hobj : ORel (ixNew ι id o.ver L) S' E.base w' id o) (hkeep : ∀ i Li, i ≠ id → (h i).live = true → ι i (h i).ver = some Li → Li.b ≠ L.b ∧ (∀ p, S' Li.b p → S Li.b p) ∧ ∀ p, w'.cell? ⟨Li.b, p, none⟩ = w.cell? ⟨Li.b, p, none⟩ ∧ w'.frozen? ⟨Li.b, p, none⟩ = w.frozen? ⟨Li.b, p, none⟩)
    (hnew : ∀ b p, S' b p → S b p ∨ (E.base ≤ b ∧ b < w'.heap.size)) : RelH E (ixNew ι id o.ver L) S' (upd h id o) w' := by
  refine ⟨hb, Nat.le_trans hr.size hz, fun i => ?_, ?_, ?_, fun b p hs => m.sb _ _ (hr.sub b p hs), fun b p hs => ?_, fun b p hs => ?_⟩
  · unfold upd
    split
    · rename_i e; subst e; exact hobj
    · rename_i e
      exact (hr.objs i).keep m (ixNew_other (by rintro ⟨rfl, _⟩; exact e rfl)) hz fun hl L' hL' => (hkeep i L' e hl hL').2
  · intro i i' L1 L2 hne hl hl' h1 h2
    unfold upd at hl hl' h1 h2
    by_cases e : i = id
    · subst e
      rw [if_pos rfl] at hl h1
      rw [if_neg (fun e => hne e.symm)] at hl' h2
      rw [ixNew_same] at h1
      cases h1
      rw [ixNew_other (by rintro ⟨rfl, _⟩; exact hne rfl)] at h2
      exact fun e => (hkeep i' L2 (fun e => hne e.symm) hl' h2).1 e.symm
    · rw [if_neg e] at hl h1
      rw [ixNew_other (by rintro ⟨rfl, _⟩; exact e rfl)] at h1
      by_cases e' : i' = id
      · subst e'
        rw [if_pos rfl] at h2
        rw [ixNew_same] at h2
        cases h2
        exact (hkeep i L1 e hl h1).1
      · rw [if_neg e'] at hl' h2
        rw [ixNew_other (by rintro ⟨rfl, _⟩; exact e' rfl)] at h2
        exact hr.apart i i' L1 L2 hne hl hl' h1 h2
  · intro i ver hlt
    unfold upd at hlt
    by_cases e : i = id
    · subst e
      rw [if_pos rfl] at hlt
      rw [ixNew_other (by rintro ⟨_, rfl⟩; omega)]
      exact hr.vers _ _ (by omega)
    · rw [if_neg e] at hlt
      rw [ixNew_other (by rintro ⟨rfl, _⟩; exact e rfl)]
      exact hr.vers _ _ hlt
  · rcases hnew b p hs with hs | hs
    · exact hr.new b p hs
    · exact Or.inr hs.1
  · rcases hnew b p hs with hs | hs
    · exact Nat.lt_of_lt_of_le (hr.inw b p hs) hz
    · exact hs.2
/-- An object is let go. -/
theorem RelH.kill {E : Env} {ι : Ix} {S : Sb} {h : Nat → O} {w : World} (hr : RelH E ι S h w) (id : Nat) : RelH E ι S (upd h id (.no (h id).ver)) w := by
  refine ⟨hr.below, hr.size, fun i => ?_, fun i i' L1 L2 hne hl hl' h1 h2 => ?_, fun i ver hlt => ?_, hr.sub, hr.new, hr.inw⟩
  · unfold upd
    split
    · trivial
    · exact hr.objs i
  · unfold upd at hl hl' h1 h2
    split at hl
    · cases hl
    · split at hl'
      · cases hl'
      · rename_i e e'
        rw [if_neg e] at h1
        rw [if_neg e'] at h2
        exact hr.apart i i' L1 L2 hne hl hl' h1 h2
  · unfold upd at hlt
    split at hlt
    · rename_i e; subst e; exact hr.vers _ _ hlt
    · exact hr.vers _ _ hlt
/-- An empty vec that has no place. -/
theorem RelH.empty {E : Env} {ι : Ix} {S : Sb} {h : Nat → O} {w : World} (hr : RelH E ι S h w) (id n : Nat) (fz : Bool) : RelH E ι S (upd h id (.vec ((h id).ver + 1) n [] fz)) w := by
  refine ⟨hr.below, hr.size, fun i => ?_, fun i i' L1 L2 hne hl hl' h1 h2 => ?_, fun i ver hlt => ?_, hr.sub, hr.new, hr.inw⟩
  · unfold upd
    split
    · rename_i e; subst e; exact Or.inl ⟨rfl, hr.vers _ _ (by omega)⟩
    · exact hr.objs i
  · have none' : ∀ L, ι id ((h id).ver + 1) ≠ some L := fun L e => by rw [hr.vers id _ (by omega)] at e; cases e
    unfold upd at hl hl' h1 h2
    by_cases e : i = id
    · subst e; rw [if_pos rfl] at h1; exact absurd h1 (none' _)
    · by_cases e' : i' = id
      · subst e'; rw [if_pos rfl] at h2; exact absurd h2 (none' _)
      · rw [if_neg e] at hl h1; rw [if_neg e'] at hl' h2
        exact hr.apart i i' L1 L2 hne hl hl' h1 h2
  · unfold upd at hlt
    split at hlt
    · rename_i e; subst e; exact hr.vers _ _ (by have : (h i).ver + 1 < ver := hlt; omega)
    · exact hr.vers _ _ hlt
end Go.Proofs.YtkflfgkmbgjohaaDoor
