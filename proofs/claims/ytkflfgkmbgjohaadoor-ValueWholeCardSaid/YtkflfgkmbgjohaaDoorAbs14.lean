/-
  WHAT IS PROVED HERE: what an operation does hangs on what it looks at alone.
-/
import Derived.Test.YtkflfgkmbgjohaaDoorAbs13
set_option linter.unusedVariables false
set_option linter.unusedSimpArgs false
namespace Go.Proofs.YtkflfgkmbgjohaaDoor
open Go Go.RowKit

theorem fzCell_loc {h h' : Nat → O} {a : A} {x : D} {ids : List Nat} (hx : fzCell h a = some (x, ids)) (he : ∀ i ∈ ids, h' i = h i) : fzCell h' a = some (x, ids) := by
  cases a with
  | sl id ver off len =>
    have hid : id ∈ ids := by
      unfold fzCell at hx
      simp only at hx
      split at hx
      · split at hx
        · simp only [Option.some.injEq, Prod.mk.injEq] at hx; rw [← hx.2]; simp
        · cases hx
      · cases hx
    unfold fzCell at *
    simp only at *
    rw [he id hid]; exact hx
  | _ => exact hx
theorem fzCells_loc {h h' : Nat → O} : ∀ {l : List A} {xs : List D} {ids : List Nat}, fzCells h l = some (xs, ids) → (∀ i ∈ ids, h' i = h i) → fzCells h' l = some (xs, ids)
  | [], xs, ids, hx, _ => hx
  | a :: l, xs, ids, hx, he => by
    unfold fzCells at hx
    split at hx
    · rename_i x i ys j h1 h2
      split at hx
      · rename_i hf
        simp only [Option.some.injEq, Prod.mk.injEq] at hx
        obtain ⟨rfl, rfl⟩ := hx
        unfold fzCells
        rw [fzCell_loc h1 (fun k hk => he k (List.mem_append.2 (Or.inl hk))), fzCells_loc h2 (fun k hk => he k (List.mem_append.2 (Or.inr hk)))]
        simp only [hf, if_true]
      · cases hx
    · cases hx
theorem fzVal_loc {h h' : Nat → O} {a : A} {x : D} {ids : List Nat} (hx : fzVal h a = some (x, ids)) (he : ∀ i ∈ ids, h' i = h i) : fzVal h' a = some (x, ids) := by
  cases a with
  | agg cs =>
    simp only [fzVal] at hx ⊢
    obtain ⟨⟨xs, i⟩, h1, h2⟩ := Option.map_eq_some_iff.1 hx
    simp only [Prod.mk.injEq] at h2
    obtain ⟨rfl, rfl⟩ := h2
    rw [fzCells_loc h1 he]; rfl
  | _ => (simp only [fzVal] at hx ⊢; exact fzCell_loc hx he)
theorem fzVals_loc {h h' : Nat → O} : ∀ {l : List A} {xs : List D} {ids : List Nat}, fzVals h l = some (xs, ids) → (∀ i ∈ ids, h' i = h i) → fzVals h' l = some (xs, ids)
  | [], xs, ids, hx, _ => hx
  | a :: l, xs, ids, hx, he => by
    unfold fzVals at hx
    split at hx
    · rename_i x i ys j h1 h2
      simp only [Option.some.injEq, Prod.mk.injEq] at hx
      obtain ⟨rfl, rfl⟩ := hx
      unfold fzVals
      rw [fzVal_loc h1 (fun k hk => he k (List.mem_append.2 (Or.inl hk))), fzVals_loc h2 (fun k hk => he k (List.mem_append.2 (Or.inr hk)))]
    · cases hx
theorem frz_loc {h h' : Nat → O} : ∀ {ids : List Nat}, (∀ i ∈ ids, h' i = h i) → frz h' ids = frz h ids
  | [], _ => rfl
  | i :: l, he => by
    unfold frz
    rw [he i (by simp), frz_loc fun k hk => he k (by simp [hk])]
theorem elems_loc {h h' : Nat → O} {a : A} {xs : List D} {ids : List Nat} (hx : elemsOf h a = some (xs, ids)) (he : ∀ i ∈ ids, h' i = h i) : elemsOf h' a = some (xs, ids) := by
  cases a with
  | sl id ver off len =>
    have hid : id ∈ ids := by
      unfold elemsOf at hx
      simp only at hx
      split at hx
      · split at hx
        · simp only [Option.some.injEq, Prod.mk.injEq] at hx; rw [← hx.2]; simp
        · cases hx
      · cases hx
    unfold elemsOf at *
    simp only at *
    rw [he id hid]; exact hx
  | d x =>
    cases x with
    | s v => cases v <;> exact hx
    | _ => exact hx
  | _ => exact hx
theorem loadE_loc {P : Program} {h h' : Nat → O} {t : TypeId} {a : A} {e : Eff} (hx : loadE P h t a = some e) (he : ∀ i ∈ e.rd, h' i = h i) : loadE P h' t a = some e := by
  cases a with
  | bp id ver off =>
    have hid : id ∈ e.rd := by
      unfold loadE at hx
      simp only at hx
      split at hx
      · split at hx
        · obtain ⟨y, _, rfl⟩ := Option.map_eq_some_iff.1 hx; simp
        · cases hx
      · cases hx
    unfold loadE at *
    simp only at *
    rw [he id hid]; exact hx
  | op id ver i off =>
    have hid : id ∈ e.rd := by
      unfold loadE at hx
      simp only at hx
      split at hx
      · split at hx
        · obtain ⟨x, _, hx⟩ := Option.bind_eq_some_iff.1 hx
          obtain ⟨y, _, rfl⟩ := Option.map_eq_some_iff.1 hx; simp
        · cases hx
      · cases hx
    unfold loadE at *
    simp only at *
    rw [he id hid]; exact hx
  | _ => exact hx
theorem storeE_loc {P : Program} {h h' : Nat → O} {t : TypeId} {a x : A} {e : Eff} (hx : storeE P h t a x = some e) (he : ∀ i ∈ e.rd, h' i = h i) : storeE P h' t a x = some e := by
  cases a with
  | bp id ver off =>
    have hid : id ∈ e.rd := by
      unfold storeE at hx
      simp only at hx
      split at hx
      · split at hx
        · simp only [Option.some.injEq] at hx; subst hx; simp
        · cases hx
      · cases hx
    unfold storeE at *
    simp only at *
    rw [he id hid]; exact hx
  | _ => exact hx
theorem indexAddrE_loc {P : Program} {h h' : Nat → O} {t : TypeId} {a x : A} {e : Eff} (hx : indexAddrE P h t a x = some e) (he : ∀ i ∈ e.rd, h' i = h i) : indexAddrE P h' t a x = some e := by
  unfold indexAddrE at *
  split at hx
  · rename_i i el h1 h2
    split at hx
    · exact hx
    · exact hx
    · split at hx
      · rename_i v n xs fz ho
        split at hx
        · rename_i hc
          simp only [Option.some.injEq] at hx
          subst hx
          simp only [he _ (List.mem_singleton.2 rfl), ho]
          rw [if_pos hc]
        · cases hx
      · cases hx
    · cases hx
  · exact hx
  · cases hx
theorem sliceE_loc {P : Program} {h h' : Nat → O} {t : TypeId} {a : A} {lo hi mx : Option A} {e : Eff} (hx : sliceE P h t a lo hi mx = some e) (he : ∀ i ∈ e.rd, h' i = h i) : sliceE P h' t a lo hi mx = some e := by
  unfold sliceE at *
  split at hx
  · cases hx
  · rename_i el h1
    split at hx
    · cases hx
    · rename_i sz h2
      split at hx
      · exact hx
      · exact hx
      · split at hx
        · rename_i v n xs fz l u ho hb
          split at hx
          · rename_i hc
            simp only [Option.some.injEq] at hx
            subst hx
            simp only [he _ (List.mem_singleton.2 rfl), ho, hb]
            rw [if_pos hc]
          · cases hx
        · cases hx
      · cases hx
theorem convertE_loc {P : Program} {h h' : Nat → O} {id : Nat} {s d : TypeId} {a : A} {e : Eff} (hx : convertE P h id s d a = some e) (he : ∀ i ∈ e.rd, h' i = h i) : convertE P h' id s d a = some e := by
  unfold convertE at *
  split at hx
  · rename_i el h1 h2
    split at hx
    · cases hx
    · rename_i xs rd hel hne hxs
      obtain ⟨l, h3, rfl⟩ := Option.map_eq_some_iff.1 hx
      have := elems_loc hxs he
      simp only [hel, this, h3]
      rfl
    · cases hx
  · rename_i el h1 h2
    split at hx
    · simp only [Option.some.injEq] at hx
      subst hx
      simp only [he id (List.mem_singleton.2 rfl)]
    · cases hx
  · cases hx
theorem callE_loc {X : Orc} {h h' : Nat → O} {id : Nat} {f : FuncId} {l : List A} {e : Eff} (hx : callE X h id f l = some e) (he : ∀ i ∈ e.rd, h' i = h i) : callE X h' id f l = some e := by
  unfold callE at *
  split at hx
  · cases hx
  · rename_i ds ids hfz
    split at hx
    · rename_i x hX
      simp only [Option.some.injEq] at hx
      subst hx
      rw [fzVals_loc hfz he]
      simp only [hX, frz_loc he]
    · rename_i x hX
      simp only [Option.some.injEq] at hx
      subst hx
      rw [fzVals_loc hfz he]
      simp only [hX, frz_loc he]
    · rename_i n xs hX
      simp only [Option.some.injEq] at hx
      subst hx
      have he' : ∀ i ∈ ids, h' i = h i := fun i hi => he i (by simp [hi])
      rw [fzVals_loc hfz he']
      simp only [hX, frz_loc he', he id (by simp)]
    · cases hx
theorem buildSliceE_loc {P : Program} {h h' : Nat → O} {id : Nat} {t : TypeId} {len : Nat} {parts : List (Nat × A)} {e : Eff} (hx : buildSliceE P h id t len parts = some e) (he : ∀ i ∈ e.rd, h' i = h i) : buildSliceE P h' id t len parts = some e := by
  unfold buildSliceE at *
  split at hx
  · cases hx
  · split at hx
    · split at hx
      · rename_i hc
        split at hx
        · cases hx
        · rename_i cs hfill
          split at hx
          · cases hx
          · rename_i hone
            split at hx
            · cases hx
            · rename_i ds ids hfz
              simp only [Option.some.injEq] at hx
              subst hx
              have he' : ∀ i ∈ ids, h' i = h i := fun i hi => he i (by simp [hi])
              rw [if_pos hc]
              (try simp only [hfill])
              rw [if_neg hone, fzCells_loc hfz he']
              simp only [frz_loc he', he id (by simp)]
      · cases hx
    · cases hx
theorem appendE_loc {P : Program} {h h' : Nat → O} {id : Nat} {t : TypeId} {s x : A} {e : Eff} (hx : appendE P h id t s x = some e) (he : ∀ i ∈ e.rd, h' i = h i) : appendE P h' id t s x = some e := by
  unfold appendE at *
  split at hx
  · cases hx
  · rename_i el h1
    split at hx
    · rename_i sz z ys rx hs hz hel
      split at hx
      · rename_i hc
        split at hx
        · rename_i xs
          split at hx
          · rename_i hc1
            split at hx
            · rename_i hc2
              simp only [Option.some.injEq] at hx
              subst hx
              rw [elems_loc hel he]
              simp only [hs, hz]
              rw [if_pos hc, if_pos hc1, if_pos hc2]
            · rename_i hc2
              simp only [Option.some.injEq] at hx
              subst hx
              rw [elems_loc hel (fun i hi => he i (by simp [hi]))]
              simp only [hs, hz]
              rw [if_pos hc, if_pos hc1, if_neg hc2, he id (by simp)]
          · cases hx
        · rename_i i ver off len
          split at hx
          · rename_i v n xs fz ho
            split at hx
            · rename_i hc1
              simp only [Option.some.injEq] at hx
              subst hx
              rw [elems_loc hel (fun i hi => he i (by simp [hi]))]
              simp only [hs, hz]
              rw [if_pos hc, he i (by simp), ho]
              (try dsimp only)
              rw [if_pos hc1, he id (by simp)]
            · cases hx
          · cases hx
        · cases hx
      · cases hx
    · cases hx
set_option maxHeartbeats 1000000 in
/-- An operation does the same wherever what it looks at is the same. -/
theorem opE_loc {P : Program} {X : Orc} {ev ev' : Operand → A} {h h' : Nat → O} {id : Nat} {o : Oper} {e : Eff} (hx : opE P X ev h id o = some e) (hev : ∀ x ∈ o.op.operands, ev' x = ev x) (he : ∀ i ∈ e.rd, h' i = h i) : opE P X ev' h' id o = some e := by
  have hex : exactE P ev' o = exactE P ev o ∨ (∃ cs b, o.op = .select cs b) := by
    by_cases hs : ∃ cs b, o.op = .select cs b
    · exact Or.inr hs
    · left
      unfold exactE exactOp
      have h1 : (o.op.operands.all fun x => (ev' x).exact.isSome) = (o.op.operands.all fun x => (ev x).exact.isSome) := by
        rw [Bool.eq_iff_iff, Array.all_eq_true_iff_forall_mem, Array.all_eq_true_iff_forall_mem]
        constructor
        · intro h x hx; rw [← hev x hx]; exact h x hx
        · intro h x hx; rw [hev x hx]; exact h x hx
      have h2 : execOp (fun x => ((ev' x).exact).getD undef) o = execOp (fun x => ((ev x).exact).getD undef) o := execOp_congr o (fun cs b e => hs ⟨cs, b, e⟩) fun x hx => by simp only [hev x hx]
      rw [h1, h2]
  unfold opE at hx ⊢
  split at hx
  · rename_i x hop; rw [hev x (by simp [hop, Op.operands])]; exact hx
  · rename_i x hop; rw [hev x (by simp [hop, Op.operands])]; exact hx
  · rename_i c x y hop
    rw [hev c (by simp [hop, Op.operands]), hev x (by simp [hop, Op.operands]), hev y (by simp [hop, Op.operands])]; exact hx
  · rename_i t hop
    obtain ⟨z, h1, rfl⟩ := Option.map_eq_some_iff.1 hx
    rw [h1, Option.map_some, he id (by simp)]
  · rename_i t x hop
    rw [hev x (by simp [hop, Op.operands])]
    split at hx
    · rename_i hc
      simp only [Option.some.injEq] at hx
      subst hx
      rw [if_pos hc, he id (by simp)]
    · cases hx
  · rename_i t parts hop
    have : (parts.toList.map fun p => (p.1, ev' p.2)) = parts.toList.map fun p => (p.1, ev p.2) := List.map_congr_left fun p hp => by rw [hev p.2 (by simp [hop, Op.operands]; exact ⟨p.1, by simpa using hp⟩)]
    rw [this]; exact hx
  · rename_i t len parts hop
    have : (parts.toList.map fun p => (p.1, ev' p.2)) = parts.toList.map fun p => (p.1, ev p.2) := List.map_congr_left fun p hp => by rw [hev p.2 (by simp [hop, Op.operands]; exact ⟨p.1, by simpa using hp⟩)]
    rw [this]; exact buildSliceE_loc hx he
  · rename_i t x hop
    rw [hev x (by simp [hop, Op.operands])]; exact loadE_loc hx he
  · rename_i t x y hop
    rw [hev x (by simp [hop, Op.operands]), hev y (by simp [hop, Op.operands])]; exact storeE_loc hx he
  · rename_i s x f hop
    rw [hev x (by simp [hop, Op.operands])]; exact hx
  · rename_i t x i hop
    rw [hev x (by simp [hop, Op.operands]), hev i (by simp [hop, Op.operands])]; exact indexAddrE_loc hx he
  · rename_i s x f hop
    rw [hev x (by simp [hop, Op.operands])]; exact hx
  · rename_i t x i hop
    have hex' : exactE P ev' o = exactE P ev o := by rcases hex with h | ⟨cs, b, h⟩; exact h; rw [hop] at h; cases h
    rw [hev x (by simp [hop, Op.operands]), hev i (by simp [hop, Op.operands]), hex']; exact hx
  · rename_i t x lo hi mx hop
    have hex' : exactE P ev' o = exactE P ev o := by rcases hex with h | ⟨cs, b, h⟩; exact h; rw [hop] at h; cases h
    have h1 : lo.map ev' = lo.map ev := by cases lo with | none => rfl | some y => simp only [Option.map_some]; rw [hev y (by simp [hop, Op.operands])]
    have h2 : hi.map ev' = hi.map ev := by cases hi with | none => rfl | some y => simp only [Option.map_some]; rw [hev y (by simp [hop, Op.operands])]
    have h3 : mx.map ev' = mx.map ev := by cases mx with | none => rfl | some y => simp only [Option.map_some]; rw [hev y (by simp [hop, Op.operands])]
    rw [hev x (by simp [hop, Op.operands]), hex', h1, h2, h3]
    split at hx
    · exact hx
    · exact sliceE_loc hx he
  · rename_i src dst x hop
    have hex' : exactE P ev' o = exactE P ev o := by rcases hex with h | ⟨cs, b, h⟩; exact h; rw [hop] at h; cases h
    rw [hev x (by simp [hop, Op.operands]), hex']
    split at hx
    · exact hx
    · exact convertE_loc hx he
  · rename_i t i hop
    rw [hev t (by simp [hop, Op.operands])]; exact hx
  · rename_i c hop
    have hex' : exactE P ev' o = exactE P ev o := by rcases hex with h | ⟨cs, b, h⟩; exact h; rw [hop] at h; cases h
    have harg : ∀ x ∈ c.args, ev' x = ev x := fun x hx => hev x (by simp [hop, Op.operands, Call.operands, hx])
    split at hx
    · rename_i hc
      split at hx
      · rename_i s x t t' hargs htys
        have h1 : s ∈ c.args := by rw [← Array.mem_toList_iff, hargs]; simp
        have h2 : x ∈ c.args := by rw [← Array.mem_toList_iff, hargs]; simp
        rw [harg s h1, harg x h2]
        split at hx
        · rename_i hc2
          rw [if_pos hc2]
          exact appendE_loc hx he
        · cases hx
      · cases hx
    · rename_i hc
      split at hx
      · rename_i x t hargs htys
        have h1 : x ∈ c.args := by rw [← Array.mem_toList_iff, hargs]; simp
        rw [harg x h1, hex']; exact hx
      · cases hx
    · rw [hex']; exact hx
    · rename_i f hc
      have : c.args.toList.map ev' = c.args.toList.map ev := List.map_congr_left fun x hx => harg x (by simpa using hx)
      rw [this]; exact callE_loc hx he
    · cases hx
  · cases hx
  · rename_i hsel
    have hex' : exactE P ev' o = exactE P ev o := by rcases hex with h | ⟨cs, b, h⟩; exact h; simp_all
    rw [hex']; exact hx
end Go.Proofs.YtkflfgkmbgjohaaDoor
