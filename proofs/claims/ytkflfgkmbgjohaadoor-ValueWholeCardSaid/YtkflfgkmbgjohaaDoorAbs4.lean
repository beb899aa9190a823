/-
  WHAT IS PROVED HERE: new variables, loads, stores, fields and elements: the interpreter says what the model does.
-/
import Derived.Test.YtkflfgkmbgjohaaDoorAbs3
set_option linter.unusedVariables false
set_option linter.unusedSimpArgs false
namespace Go.Proofs.YtkflfgkmbgjohaaDoor
open Go Go.RowKit

/-- An object that nobody touched stays what it is. -/
theorem ORel.keep {ι ι' : Ix} {S S' : Sb} {base : Nat} {w w' : World} {id : Nat} {o : O} (h : ORel ι S base w id o) (m : Mono ι S w ι' S' w') (hn : ι' id o.ver = ι id o.ver) (hz : w.heap.size ≤ w'.heap.size)
    (hk : o.live = true → ∀ L, ι id o.ver = some L → (∀ p, S' L.b p → S L.b p) ∧ ∀ p, w'.cell? ⟨L.b, p, none⟩ = w.cell? ⟨L.b, p, none⟩ ∧ w'.frozen? ⟨L.b, p, none⟩ = w.frozen? ⟨L.b, p, none⟩) : ORel ι' S' base w' id o := by
  cases o with
  | no v => trivial
  | box ver cs =>
    obtain ⟨L, h1, h2, h3, h4, h5, h6⟩ := h
    obtain ⟨k1, k2⟩ := hk rfl L h1
    refine ⟨L, m.ix _ _ _ h1, h2, h3, by omega, fun o ho => h5 o (k1 o ho), fun j a hj => ?_⟩
    obtain ⟨u, g1, g2, g3⟩ := h6 j a hj
    exact ⟨u, by rw [(k2 j).1]; exact g1, by rw [(k2 j).2]; exact g2, VA_mono m _ _ g3⟩
  | vec ver n xs fz =>
    rcases h with ⟨h1, h2⟩ | ⟨L, h1, h2, h3, h4, h5, h6, h7, h8, h9, h10⟩
    · exact Or.inl ⟨h1, by have := hn; simp only [O.ver] at this; rw [this]; exact h2⟩
    · obtain ⟨k1, k2⟩ := hk rfl L h1
      refine Or.inr ⟨L, m.ix _ _ _ h1, h2, h3, by omega, h5, fun o ho ho' => ?_, h7.mono m.sb m.cell (fun p _ _ => (k2 p).1), fun o ho hs => h8 o ho (k1 o hs), fun hf o ho hs => h9 hf o ho (k1 o hs), fun hf o ho ho' => m.sb _ _ (h10 hf o ho ho')⟩
      rw [(k2 o).1, (k2 o).2]
      exact h6 o ho ho'
theorem ORel.lt {ι : Ix} {S : Sb} {base : Nat} {w : World} {id : Nat} {o : O} (h : ORel ι S base w id o) (hl : o.live = true) {L : Loc} (hL : ι id o.ver = some L) : base ≤ L.b ∧ L.b < w.heap.size := by
  cases o with
  | no v => cases hl
  | box ver cs =>
    obtain ⟨L', h1, h2, h3, h4, _⟩ := h
    have : some L = some L' := hL.symm.trans h1
    cases this
    exact ⟨h3, h4⟩
  | vec ver n xs fz =>
    rcases h with ⟨_, h2⟩ | ⟨L', h1, h2, h3, h4, _⟩
    · have : some L = none := hL.symm.trans h2
      cases this
    · have : some L = some L' := hL.symm.trans h1
      cases this
      exact ⟨h3, h4⟩

/-- A new place for a new version. -/
def ixNew (ι : Ix) (id ver : Nat) (L : Loc) : Ix := fun i v => if i = id ∧ v = ver then some L else ι i v
theorem ixNew_same (ι : Ix) (id ver : Nat) (L : Loc) : ixNew ι id ver L id ver = some L := by simp [ixNew]
theorem ixNew_other {ι : Ix} {id ver : Nat} {L : Loc} {i v : Nat} (h : ¬ (i = id ∧ v = ver)) : ixNew ι id ver L i v = ι i v := by simp [ixNew, h]

/-- What a fresh block turns: nothing. -/
theorem Mono.newBlock {ι : Ix} {S : Sb} {w w' : World} {id ver : Nat} {L : Loc} (hv : ι id ver = none) (hi : ∀ b o, S b o → b < w.heap.size) (hc : ∀ p : Addr, p.block < w.heap.size → w'.cell? p = w.cell? p) :
    Mono ι S w (ixNew ι id ver L) S w' :=
  ⟨fun i v L' h => (ixNew_other (by rintro ⟨rfl, rfl⟩; rw [hv] at h; cases h)).trans h, fun _ _ h => h, fun b o h => hc ⟨b, o, none⟩ (hi b o h)⟩

/-- An object laid into a fresh block. -/
theorem RelH.newObj {E : Env} {ι : Ix} {S : Sb} {h : Nat → O} {w w' : World} (hr : RelH E ι S h w) (id : Nat) (o : O) (L : Loc) (ho : o.ver = (h id).ver + 1) (hL : L.b = w.heap.size)
    (hz : w.heap.size < w'.heap.size) (hb : Below w.heap.size w w') (hobj : ORel (ixNew ι id o.ver L) S E.base w' id o) : Mono ι S w (ixNew ι id o.ver L) S w' ∧ RelH E (ixNew ι id o.ver L) S (upd h id o) w' := by
  have hv : ι id o.ver = none := hr.vers id _ (by omega)
  have m : Mono ι S w (ixNew ι id o.ver L) S w' := Mono.newBlock hv hr.inw (fun p hp => hb.cell hp)
  refine ⟨m, hr.below.trans (hb.mono hr.size), Nat.le_trans hr.size (by omega), fun i => ?_, ?_, ?_, hr.sub, hr.new, fun b o h => Nat.lt_trans (hr.inw b o h) hz⟩
  · unfold upd
    split
    · rename_i e; subst e; exact hobj
    · rename_i e
      refine (hr.objs i).keep m (ixNew_other (by rintro ⟨rfl, _⟩; exact e rfl)) (by omega) fun hl L' hL' => ⟨fun _ h => h, fun p => ?_⟩
      have := ((hr.objs i).lt hl hL').2
      exact ⟨hb.cell (p := ⟨L'.b, p, none⟩) this, hb.frozen (p := ⟨L'.b, p, none⟩) this⟩
  · intro i i' L1 L2 hne hl hl' h1 h2
    unfold upd at hl hl' h1 h2
    by_cases e : i = id
    · subst e
      rw [if_pos rfl] at hl h1
      rw [if_neg (fun e => hne e.symm)] at hl' h2
      rw [ixNew_same] at h1
      cases h1
      rw [ixNew_other (by rintro ⟨rfl, _⟩; exact hne rfl)] at h2
      have := ((hr.objs i').lt hl' h2).2
      omega
    · rw [if_neg e] at hl h1
      rw [ixNew_other (by rintro ⟨rfl, _⟩; exact e rfl)] at h1
      by_cases e' : i' = id
      · subst e'
        rw [if_pos rfl] at h2
        rw [ixNew_same] at h2
        cases h2
        have := ((hr.objs i).lt hl h1).2
        omega
      · rw [if_neg e'] at hl' h2
        rw [ixNew_other (by rintro ⟨rfl, _⟩; exact e' rfl)] at h2
        exact hr.apart i i' L1 L2 hne hl hl' h1 h2
  · intro i ver hlt
    unfold upd at hlt
    by_cases e : i = id
    · subst e
      rw [if_pos rfl] at hlt
      rw [ixNew_other (by rintro ⟨_, rfl⟩; omega)]
      exact hr.vers _ _ (by omega)
    · rw [if_neg e] at hlt
      rw [ixNew_other (by rintro ⟨rfl, _⟩; exact e rfl)]
      exact hr.vers _ _ hlt

/-- A new variable. -/
theorem box_ok {E : Env} {ι : Ix} {S : Sb} {h : Nat → O} {w : World} (hr : RelH E ι S h w) (id : Nat) (cs : List A) (us : List Value) (t : TypeId) (hv : VL ι S w cs us) :
    Steps E ι S h w { v := .bp id ((h id).ver + 1) 0, rd := [id], wr := [(id, .box ((h id).ver + 1) cs)] } (.pointer (some ⟨w.heap.size, 0, none⟩)) (w.alloc (.cells us.toArray t)) := by
  have hb : Below w.heap.size w (w.alloc (.cells us.toArray t)) := (Below.refl _ _).alloc (Nat.le_refl _) _
  have hnone : ι id ((h id).ver + 1) = none := hr.vers id _ (by omega)
  have hm : Mono ι S w (ixNew ι id ((h id).ver + 1) ⟨w.heap.size, 0, 0, 0⟩) S (w.alloc (.cells us.toArray t)) := Mono.newBlock hnone hr.inw (fun p hp => hb.cell hp)
  obtain ⟨m, k⟩ := hr.newObj id (.box ((h id).ver + 1) cs) ⟨w.heap.size, 0, 0, 0⟩ rfl rfl (by simp) hb (by
    refine ⟨_, ixNew_same _ _ _ _, rfl, hr.size, by simp, fun o ho => ?_, fun j a hj => ?_⟩
    · exact absurd (hr.inw _ _ ho) (Nat.lt_irrefl _)
    · obtain ⟨h1, h2⟩ := VL_get.1 hv
      have hj' : j < us.length := by rw [← h1]; exact (List.getElem?_eq_some_iff.1 hj).1
      refine ⟨us[j], ?_, ?_, VA_mono hm _ _ (h2 j a us[j] hj (List.getElem?_eq_getElem hj'))⟩
      · simp [World.cell?_alloc_new, hj']
      · simp)
  refine ⟨_, _, m, ?_, k⟩
  show VA _ _ _ (.bp id ((h id).ver + 1) 0) _
  unfold VA
  exact ⟨_, ixNew_same _ _ _ _, rfl, rfl⟩

/-- Cells from an address on are those values. -/
def CellsFrom (ι : Ix) (S : Sb) (w : World) (b o : Nat) (l : List A) : Prop := ∀ (j : Nat) a, l[j]? = some a → ∃ u, w.cell? ⟨b, o + j, none⟩ = some u ∧ VA ι S w a u
theorem add_at (b o j : Nat) : (⟨b, o, none⟩ : Addr).add j = ⟨b, o + j, none⟩ := by
  unfold Addr.add
  split
  · rename_i h; subst h; rfl
  · rfl
theorem list_of {ι : Ix} {S : Sb} {w : World} {b : Nat} : ∀ (l : List A) (o : Nat), CellsFrom ι S w b o l → ∃ us : List Value, VL ι S w l us ∧ ∀ (j : Nat) u, us[j]? = some u → w.cell? ⟨b, o + j, none⟩ = some u
  | [], o, _ => ⟨[], by unfold VL; rfl, fun j u h => by simp at h⟩
  | a :: l, o, h => by
    obtain ⟨u, h1, h2⟩ := h 0 a rfl
    obtain ⟨us, h3, h4⟩ := list_of l (o + 1) fun j b hj => by
      obtain ⟨u, g1, g2⟩ := h (j + 1) b (by simpa using hj)
      exact ⟨u, by rw [show o + 1 + j = o + (j + 1) by omega]; exact g1, g2⟩
    refine ⟨u :: us, by unfold VL; exact ⟨u, us, rfl, h2, h3⟩, fun j v hj => ?_⟩
    cases j with
    | zero => simp at hj; subst hj; simpa using h1
    | succ j => rw [show o + (j + 1) = o + 1 + j by omega]; exact h4 j v (by simpa using hj)
theorem load_run {P : Program} {ι : Ix} {S : Sb} {w : World} {b o : Nat} {l : List A} {t : TypeId} {y : A} (h : CellsFrom ι S w b o l) (ht : takeVal P t l = some y) :
    ∃ u, (Instr.loadAt t (.pointer (some ⟨b, o, none⟩))).run P w = .ok u w ∧ VA ι S w y u := by
  unfold takeVal at ht
  split at ht
  · rename_i n ha hs
    split at ht
    · rename_i hn
      simp only [Option.some.injEq] at ht
      subst ht
      obtain ⟨us, h1, h2⟩ := list_of (l.take n) o fun j a hj => h j a (by
        rw [List.getElem?_take] at hj
        split at hj
        · exact hj
        · cases hj)
      have hl : us.length = n := by have := (VL_get.1 h1).1; rw [List.length_take] at this; omega
      refine ⟨.agg us.toArray, ?_, VA_mk h1⟩
      have := run_loadCells_list (P := P) w ⟨b, o, none⟩ us (fun j v hj => by rw [add_at]; exact h2 j v hj)
      rw [hl] at this
      simp only [Instr.loadAt, Instr.sureAddr, loadVar, Sem.run_bind, Sem.run_pure, Result.andThen, run_agg ha, run_size hs, this, if_true]
    · cases ht
  · rename_i ha hs
    cases l with
    | nil => simp at ht
    | cons a l =>
      simp only [List.head?_cons, Option.some.injEq] at ht
      subst ht
      obtain ⟨u, h1, h2⟩ := h 0 a rfl
      refine ⟨u, ?_, h2⟩
      simp only [Nat.add_zero] at h1
      simp [Instr.loadAt, Instr.sureAddr, loadVar, Sem.run_bind, Result.andThen, run_agg ha, run_load, h1]
  · cases ht
theorem cells_ne_any (x : D) : A.d x ≠ .any := by intro h; cases h
theorem row_cells {ι : Ix} {S : Sb} {w : World} {b o : Nat} {x : D} {us : List Value} (hc : CellsD S w x us) (hm : ∀ (j : Nat) u, us[j]? = some u → w.cell? ⟨b, o + j, none⟩ = some u) : CellsFrom ι S w b o (x.cells.map .d) := by
  have key : VL ι S w (x.cells.map .d) us := by
    cases x with
    | agg ys => unfold CellsD at hc; exact VL_mapd hc
    | s v =>
      have h' := hc
      unfold CellsD at h'
      obtain ⟨rfl, _⟩ := h'
      show VL ι S w [.d (.s v)] [v]
      unfold VL
      exact ⟨v, [], rfl, by unfold VA ValD; exact hc, by unfold VL; rfl⟩
    | lst zs =>
      have h' := hc
      unfold CellsD at h'
      obtain ⟨a, cap, rfl, _⟩ := h'
      show VL ι S w [.d (.lst zs)] [_]
      unfold VL
      exact ⟨_, [], rfl, by unfold VA ValD; exact hc, by unfold VL; rfl⟩
  obtain ⟨h1, h2⟩ := VL_get.1 key
  intro j a hj
  have hj' : j < us.length := by rw [← h1]; exact (List.getElem?_eq_some_iff.1 hj).1
  exact ⟨us[j], hm j _ (List.getElem?_eq_getElem hj'), h2 j a _ hj (List.getElem?_eq_getElem hj')⟩
theorem CellsFrom.drop {ι : Ix} {S : Sb} {w : World} {b o : Nat} {l : List A} (h : CellsFrom ι S w b o l) (k : Nat) : CellsFrom ι S w b (o + k) (l.drop k) := fun j a hj => by
  rw [List.getElem?_drop] at hj
  obtain ⟨u, h1, h2⟩ := h (k + j) a hj
  exact ⟨u, by rw [Nat.add_assoc]; exact h1, h2⟩
theorem box_cells {ι : Ix} {S : Sb} {base : Nat} {w : World} {id ver : Nat} {cs : List A} (h : ORel ι S base w id (.box ver cs)) {L : Loc} (hL : ι id ver = some L) : CellsFrom ι S w L.b 0 cs := fun j a hj => by
  obtain ⟨L', h1, h2, h3, h4, h5, h6⟩ := h
  rw [hL] at h1
  cases h1
  obtain ⟨u, g1, _, g3⟩ := h6 j a hj
  exact ⟨u, by rw [Nat.zero_add]; exact g1, g3⟩
theorem load_ok {P : Program} {E : Env} {ι : Ix} {S : Sb} {h : Nat → O} {w : World} (hr : RelH E ι S h w) {t : TypeId} {x : A} {v : Value} (hv : VA ι S w x v) {e : Eff} (he : loadE P h t x = some e) :
    ∃ u, (Instr.loadAt t v).run P w = .ok u w ∧ Steps E ι S h w e u w := by
  unfold loadE at he
  split at he
  · rename_i id ver off
    split at he
    · rename_i v' cs ho
      split at he
      · rename_i hve
        subst hve
        obtain ⟨y, h1, rfl⟩ := Option.map_eq_some_iff.1 he
        unfold VA at hv
        obtain ⟨L, h2, h3, rfl⟩ := hv
        have hc := (box_cells (by have := hr.objs id; rw [ho] at this; exact this) h2).drop off
        rw [Nat.zero_add] at hc
        obtain ⟨u, h5, h6⟩ := load_run hc h1
        exact ⟨u, h5, Steps.still hr rfl h6⟩
      · cases he
    · cases he
  · rename_i id ver i off
    split at he
    · rename_i v' n xs fz ho
      split at he
      · rename_i hve
        subst hve
        obtain ⟨x, h0, h0'⟩ := Option.bind_eq_some_iff.1 he
        obtain ⟨y, h1, rfl⟩ := Option.map_eq_some_iff.1 h0'
        unfold VA at hv
        obtain ⟨L, h2, rfl⟩ := hv
        have hob := hr.objs id
        rw [ho] at hob
        rcases hob with ⟨g1, _⟩ | ⟨L', g1, g2, g3, g4, g5, g6, g7, _⟩
        · rw [g1] at h0; simp at h0
        · rw [h2] at g1
          cases g1
          subst g2
          obtain ⟨us, k1, k2, k3, k4⟩ := g7 i x h0
          obtain ⟨u, h5, h6⟩ := load_run ((row_cells (ι := ι) k3 (fun j u hj => (k4 j u hj).2)).drop off) h1
          exact ⟨u, h5, Steps.still hr rfl h6⟩
      · cases he
    · cases he
  · rename_i xs i off
    obtain ⟨x, h0, h0'⟩ := Option.bind_eq_some_iff.1 he
    obtain ⟨y, h1, rfl⟩ := Option.map_eq_some_iff.1 h0'
    unfold VA at hv
    obtain ⟨b, o, n, rfl, h2⟩ := hv
    obtain ⟨us, k1, k2, k3, k4⟩ := RowD_get.1 h2 i x h0
    obtain ⟨u, h5, h6⟩ := load_run ((row_cells (ι := ι) k3 (fun j u hj => (k4 j u hj).2.2)).drop off) h1
    exact ⟨u, h5, Steps.still hr rfl h6⟩
  · cases he
theorem load_val {P : Program} {E : Env} {ι : Ix} {S : Sb} {h : Nat → O} {w : World} (hr : RelH E ι S h w) {t : TypeId} {x : A} {v : Value} (hv : VA ι S w x v) {e : Eff} (he : loadE P h t x = some e) :
    ∃ u, (Instr.loadAt t v).run P w = .ok u w ∧ VA ι S w e.v u := by
  unfold loadE at he
  split at he
  · rename_i id ver off
    split at he
    · rename_i v' cs ho
      split at he
      · rename_i hve
        subst hve
        obtain ⟨y, h1, rfl⟩ := Option.map_eq_some_iff.1 he
        unfold VA at hv
        obtain ⟨L, h2, h3, rfl⟩ := hv
        have hc := (box_cells (by have := hr.objs id; rw [ho] at this; exact this) h2).drop off
        rw [Nat.zero_add] at hc
        obtain ⟨u, h5, h6⟩ := load_run hc h1
        exact ⟨u, h5, h6⟩
      · cases he
    · cases he
  · rename_i id ver i off
    split at he
    · rename_i v' n xs fz ho
      split at he
      · rename_i hve
        subst hve
        obtain ⟨x, h0, h0'⟩ := Option.bind_eq_some_iff.1 he
        obtain ⟨y, h1, rfl⟩ := Option.map_eq_some_iff.1 h0'
        unfold VA at hv
        obtain ⟨L, h2, rfl⟩ := hv
        have hob := hr.objs id
        rw [ho] at hob
        rcases hob with ⟨g1, _⟩ | ⟨L', g1, g2, g3, g4, g5, g6, g7, _⟩
        · rw [g1] at h0; simp at h0
        · rw [h2] at g1
          cases g1
          subst g2
          obtain ⟨us, k1, k2, k3, k4⟩ := g7 i x h0
          obtain ⟨u, h5, h6⟩ := load_run ((row_cells (ι := ι) k3 (fun j u hj => (k4 j u hj).2)).drop off) h1
          exact ⟨u, h5, h6⟩
      · cases he
    · cases he
  · rename_i xs i off
    obtain ⟨x, h0, h0'⟩ := Option.bind_eq_some_iff.1 he
    obtain ⟨y, h1, rfl⟩ := Option.map_eq_some_iff.1 h0'
    unfold VA at hv
    obtain ⟨b, o, n, rfl, h2⟩ := hv
    obtain ⟨us, k1, k2, k3, k4⟩ := RowD_get.1 h2 i x h0
    obtain ⟨u, h5, h6⟩ := load_run ((row_cells (ι := ι) k3 (fun j u hj => (k4 j u hj).2.2)).drop off) h1
    exact ⟨u, h5, h6⟩
  · cases he
end Go.Proofs.YtkflfgkmbgjohaaDoor
