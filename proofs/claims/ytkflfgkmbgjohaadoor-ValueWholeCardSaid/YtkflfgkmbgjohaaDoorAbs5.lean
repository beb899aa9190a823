/-
  WHAT IS PROVED HERE: stores, addresses of fields and elements, structs that are built: the interpreter says what the model does.
-/
import Derived.Test.YtkflfgkmbgjohaaDoorAbs4
set_option linter.unusedVariables false
set_option linter.unusedSimpArgs false
namespace Go.Proofs.YtkflfgkmbgjohaaDoor
open Go Go.RowKit

theorem put_get {α : Type} {l xs : List α} {off : Nat} (h : off + xs.length ≤ l.length) (j : Nat) : (put l off xs)[j]? = if j < off then l[j]? else if j < off + xs.length then xs[j - off]? else l[j]? := by
  unfold put
  have hl : (l.take off).length = off := by rw [List.length_take]; omega
  by_cases h1 : j < off
  · rw [if_pos h1, List.append_assoc, List.getElem?_append_left (by omega), List.getElem?_take, if_pos h1]
  · rw [if_neg h1]
    by_cases h2 : j < off + xs.length
    · rw [if_pos h2, List.getElem?_append_left (by rw [List.length_append]; omega), List.getElem?_append_right (by omega), hl]
    · rw [if_neg h2, List.getElem?_append_right (by rw [List.length_append]; omega), List.length_append, hl, List.getElem?_drop]
      congr 1; omega
theorem put_length {α : Type} {l xs : List α} {off : Nat} (h : off + xs.length ≤ l.length) : (put l off xs).length = l.length := by
  unfold put
  simp only [List.length_append, List.length_take, List.length_drop]; omega
theorem below_setCells {B : Nat} {a : World} (b : Nat) (hb : B ≤ b) : ∀ (vs : List Value) (o : Nat) (w : World), Below B a w → Below B a (w.setCells b o vs)
  | [], _, _, h => h
  | v :: r, o, w, h => below_setCells b hb r (o + 1) _ (h.setCell (p := ⟨b, o, none⟩) hb v)
theorem size_setCells (b : Nat) : ∀ (vs : List Value) (o : Nat) (w : World), (w.setCells b o vs).heap.size = w.heap.size
  | [], _, _ => rfl
  | v :: r, o, w => by rw [World.setCells, size_setCells b r]; simp

theorem all_one_ne_any {x : A} (h : x.cells.all A.one = true) : x ≠ .any := by
  rintro rfl
  simp [A.cells, A.one] at h
theorem store_ok {P : Program} {E : Env} {ι : Ix} {S : Sb} {h : Nat → O} {w : World} (hr : RelH E ι S h w) {t : TypeId} {x y : A} {va vx : Value} (hva : VA ι S w x va) (hvx : VA ι S w y vx) {e : Eff} (he : storeE P h t x y = some e) :
    ∃ w', (Instr.storeAt t va vx).run P w = .ok () w' ∧ Steps E ι S h w e undef w' := by
  unfold storeE at he
  split at he
  · rename_i id ver off
    split at he
    · rename_i v cs n ho hn
      split at he
      · rename_i hcond
        obtain ⟨rfl, hlen, hoff, hone⟩ := hcond
        simp only [Option.some.injEq] at he
        subst he
        unfold VA at hva
        obtain ⟨L, hL, hst, rfl⟩ := hva
        have hob := hr.objs id
        rw [ho] at hob
        have hob' := hob
        obtain ⟨L', g1, g2, g3, g4, g5, g6⟩ := hob'
        rw [hL] at g1
        cases g1
        have hvl := VA_cells hvx (all_one_ne_any hone)
        obtain ⟨hl1, hl2⟩ := VL_get.1 hvl
        have hus : vx.cells.toList.length = n := by rw [← hl1]; exact hlen
        have hcell : ∀ j, j < vx.cells.toList.length → (w.cell? ⟨L.b, off + 0 + j, none⟩).isSome = true ∧ w.frozen? ⟨L.b, off + 0 + j, none⟩ = false := fun j hj => by
          obtain ⟨u, k1, k2, _⟩ := g6 (off + j) cs[off + j] (List.getElem?_eq_getElem (by omega))
          rw [Nat.add_zero]
          exact ⟨by rw [k1]; rfl, k2⟩
        have hrun := run_storeCells_cells (P := P) L.b off vx.cells.toList 0 w (fun j hj => (hcell j hj).1) (fun j hj => (hcell j hj).2) (ones_of hvl hone)
        rw [Nat.add_zero] at hrun
        have hm : Mono ι S w ι S (w.setCells L.b off vx.cells.toList) := ⟨fun _ _ _ h => h, fun _ _ h => h, fun b o hs => World.cell?_setCells_out _ _ _ _ _ (fun e _ => by
          have e' : b = L.b := e
          subst e'; exact absurd hs (g5 o))⟩
        refine ⟨w.setCells L.b off vx.cells.toList, ?_, ι, S, hm, ?_, ?_⟩
        · have hz : vx.cells.size = n := by rw [← hus]; simp
          simp [Instr.storeAt, Instr.sureAddr, storeVar, Sem.run_bind, Result.andThen, run_size hn, hz, hrun]
        · show VA _ _ _ (.d (.s undef)) undef
          unfold VA ValD CellsD; exact ⟨rfl, rfl⟩
        · refine ⟨below_setCells _ g3 _ _ _ hr.below, by rw [size_setCells]; exact hr.size, fun i => ?_, ?_, ?_, hr.sub, hr.new, fun b o hs => by rw [size_setCells]; exact hr.inw b o hs⟩
          · show ORel _ _ _ _ i (upd h id (.box v (put cs off y.cells)) i)
            unfold upd
            split
            · rename_i e; subst e
              refine ⟨L, hL, g2, g3, by rw [size_setCells]; exact g4, g5, fun j a hj => ?_⟩
              rw [put_get (by omega)] at hj
              by_cases h1 : j < off
              · rw [if_pos h1] at hj
                obtain ⟨u, k1, k2, k3⟩ := g6 j a hj
                exact ⟨u, by rw [World.cell?_setCells_out _ _ _ _ _ (fun _ _ => Or.inl h1)]; exact k1, by rw [World.frozen?_setCells]; exact k2, VA_mono hm _ _ k3⟩
              · rw [if_neg h1] at hj
                by_cases h2 : j < off + y.cells.length
                · rw [if_pos h2] at hj
                  have hj' : j - off < vx.cells.toList.length := by omega
                  refine ⟨vx.cells.toList[j - off], ?_, ?_, VA_mono hm _ _ (hl2 _ _ _ hj (List.getElem?_eq_getElem hj'))⟩
                  · have := World.cell?_setCells_in L.b vx.cells.toList off w (fun i hi => by have := (hcell i hi).1; rwa [Nat.add_zero] at this) (j - off) hj'
                    rw [show off + (j - off) = j by omega] at this
                    exact this
                  · rw [World.frozen?_setCells]
                    have := (hcell (j - off) hj').2
                    rw [show off + 0 + (j - off) = j by omega] at this
                    exact this
                · rw [if_neg h2] at hj
                  obtain ⟨u, k1, k2, k3⟩ := g6 j a hj
                  exact ⟨u, by rw [World.cell?_setCells_out _ _ _ _ _ (fun _ _ => Or.inr (by show off + vx.cells.toList.length ≤ j; omega))]; exact k1, by rw [World.frozen?_setCells]; exact k2, VA_mono hm _ _ k3⟩
            · rename_i e
              refine (hr.objs i).keep hm rfl (by rw [size_setCells]; exact Nat.le_refl _) fun hl L2 hL2 => ⟨fun _ h => h, fun p => ⟨World.cell?_setCells_out _ _ _ _ _ (fun e' _ => ?_), World.frozen?_setCells _ _ _ _ _⟩⟩
              exact absurd e' (hr.apart i id L2 L e hl (by rw [ho]; rfl) hL2 (by rw [ho]; exact hL))
          · intro i i' L1 L2 hne hl hl' h1 h2
            have hv : ∀ k, (upd h id (.box v (put cs off y.cells)) k).ver = (h k).ver ∧ ((upd h id (.box v (put cs off y.cells)) k).live = (h k).live) := fun k => by
              unfold upd
              split
              · rename_i e; subst e; rw [ho]; exact ⟨rfl, rfl⟩
              · exact ⟨rfl, rfl⟩
            change (upd h id (.box v (put cs off y.cells)) i).live = true at hl
            change (upd h id (.box v (put cs off y.cells)) i').live = true at hl'
            change ι i (upd h id (.box v (put cs off y.cells)) i).ver = some L1 at h1
            change ι i' (upd h id (.box v (put cs off y.cells)) i').ver = some L2 at h2
            rw [(hv i).2] at hl
            rw [(hv i').2] at hl'
            rw [(hv i).1] at h1
            rw [(hv i').1] at h2
            exact hr.apart i i' L1 L2 hne hl hl' h1 h2
          · intro i ver hlt
            change (upd h id (.box v (put cs off y.cells)) i).ver < ver at hlt
            refine hr.vers i ver ?_
            unfold upd at hlt
            split at hlt
            · rename_i e; subst e; rw [ho]; exact hlt
            · exact hlt
      · cases he
    · cases he
  · cases he

theorem fieldAddr_ok {P : Program} {E : Env} {ι : Ix} {S : Sb} {h : Nat → O} {w : World} (hr : RelH E ι S h w) {s : TypeId} {x : A} {v : Value} (hv : VA ι S w x v) {f : Nat} {e : Eff} (he : fieldAddrE P s x f = some e) :
    ∃ u, (Instr.fieldAt s v f).run P w = .ok u w ∧ Steps E ι S h w e u w := by
  unfold fieldAddrE at he
  split at he
  · rename_i fs hu
    split at he
    · rename_i fd hf
      split at he
      · rename_i n hn
        have hp : ∀ a : Addr, (fieldPlace a fd).run P w = .ok (a.add fd.offset) w := fun a => by
          simp [fieldPlace, Sem.run_bind, Result.andThen, run_size hn]
        have go : ∀ a : Addr, (Instr.fieldAt s (.pointer (some a)) f).run P w = .ok (.pointer (some (a.add fd.offset))) w := fun a => by
          simp [Instr.fieldAt, Instr.sureAddr, Sem.run_bind, Result.andThen, run_under hu, hf, hp]
        split at he
        · simp only [Option.some.injEq] at he
          subst he
          unfold VA at hv
          obtain ⟨L, h1, h2, rfl⟩ := hv
          refine ⟨_, go _, Steps.still hr rfl ?_⟩
          rw [add_at]
          show VA _ _ _ (.bp _ _ _) _
          unfold VA
          exact ⟨L, h1, h2, rfl⟩
        · simp only [Option.some.injEq] at he
          subst he
          unfold VA at hv
          obtain ⟨L, h1, rfl⟩ := hv
          refine ⟨_, go _, Steps.still hr rfl ?_⟩
          rw [add_at]
          show VA _ _ _ (.op _ _ _ _) _
          unfold VA
          exact ⟨L, h1, by rw [Nat.add_assoc]⟩
        · simp only [Option.some.injEq] at he
          subst he
          unfold VA at hv
          obtain ⟨b, o, n, rfl, h2⟩ := hv
          refine ⟨_, go _, Steps.still hr rfl ?_⟩
          rw [add_at]
          show VA _ _ _ (.ep _ _ _) _
          unfold VA
          exact ⟨b, o, n, by rw [Nat.add_assoc], h2⟩
        · cases he
      · cases he
    · cases he
  · cases he
end Go.Proofs.YtkflfgkmbgjohaaDoor
