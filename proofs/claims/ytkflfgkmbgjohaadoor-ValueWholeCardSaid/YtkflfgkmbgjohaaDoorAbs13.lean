/-
  WHAT IS PROVED HERE: every operation, one by one: the interpreter says what the model does.
-/
import Derived.Test.YtkflfgkmbgjohaaDoorAbs12
set_option linter.unusedVariables false
set_option linter.unusedSimpArgs false
namespace Go.Proofs.YtkflfgkmbgjohaaDoor
open Go Go.RowKit

theorem bool_of {ι : Ix} {S : Sb} {w : World} {x : A} {u : Value} {b : Bool} (h : VA ι S w x u) (hx : x.bool? = some b) : u = .bool b := by
  unfold A.bool? at hx
  split at hx
  · simp only [Option.some.injEq] at hx
    subst hx
    unfold VA ValD CellsD at h
    simp only [List.cons.injEq, and_true] at h
    exact h.1
  · cases hx
theorem run_new {P : Program} {w : World} (t : TypeId) (c : Array Value) : (newRow t c).run P w = .ok ⟨w.heap.size, 0, none⟩ (w.alloc (.cells c t)) := by simp [newRow]
set_option maxHeartbeats 1000000 in
theorem op_wp {P : Program} {I : World → Prop} {X : Orc} (hX : Sound P I X) {E : Env} (hE : EnvOk I E) {ι : Ix} {S : Sb} {w : World} {st : St} {a : Act} {o : Oper} {e : Eff} (ht : RelT ι S w st a) (hr : RelH E ι S st.h w) (hd : dstOk st.n o.dst = true) {id : Nat}
    (he : opE P X st.ev st.h id o = some e) {K : Act → World → Prop} {Q : Exit → Act → World → Prop}
    (hK : ∀ ι' S' w' a', RelT ι' S' w' (st.put o.dst e) a' → RelH E ι' S' (st.put o.dst e).h w' → K a' w') : o.wp P a w K Q := by
  have exact_case : exactE P st.ev o = some e → (∀ cs b, o.op ≠ .select cs b) → o.wp P a w K Q := fun h hs => by
    obtain ⟨u, h1, h2⟩ := exactE_ok ht hr hs h
    exact wp_value ht hd h1 h2 hK
  unfold opE at he
  split at he
  · rename_i x hop
    simp only [Option.some.injEq] at he
    subst he
    exact wp_value ht hd (u := a.eval x) (by simp [execOp, hop]) (Steps.still hr rfl (ev_VA ht x)) hK
  · rename_i x hop
    simp only [Option.some.injEq] at he
    subst he
    exact wp_value ht hd (u := a.eval x) (by simp [execOp, hop]) (Steps.still hr rfl (ev_VA ht x)) hK
  · rename_i c x y hop
    split at he
    · rename_i h1
      have hb := bool_of (ev_VA ht c) h1
      simp only [Option.some.injEq] at he
      subst he
      exact wp_value ht hd (u := a.eval x) (by simp [execOp, hop, hb, asBool]) (Steps.still hr rfl (ev_VA ht x)) hK
    · split at he
      · rename_i h1
        have hb := bool_of (ev_VA ht c) h1
        simp only [Option.some.injEq] at he
        subst he
        exact wp_value ht hd (u := a.eval y) (by simp [execOp, hop, hb, asBool]) (Steps.still hr rfl (ev_VA ht y)) hK
      · cases he
  · rename_i t hop
    obtain ⟨z, h1, rfl⟩ := Option.map_eq_some_iff.1 he
    have := box_ok hr id (z.cells.toList.map ofCell) z.cells.toList t (VL_ofCell _ _ _ _)
    refine wp_value ht hd ?_ this hK
    simp [execOp, hop, Instr.alloc, run_zero h1, newVar, run_new]
  · rename_i t x hop
    split at he
    · rename_i hc
      simp only [Option.some.injEq] at he
      subst he
      have hvl := VA_cells (ev_VA ht x) (all_one_ne_any hc.2)
      have := box_ok hr id (st.ev x).cells (a.eval x).cells.toList t hvl
      refine wp_value ht hd ?_ this hK
      simp [execOp, hop, Instr.box, newVar, run_new]
    · cases he
  · rename_i t parts hop
    obtain ⟨y, h1, rfl⟩ := Option.map_eq_some_iff.1 he
    obtain ⟨u, h2, h3⟩ := build_ok (P := P) (vparts := parts.map fun p => (p.1, a.eval p.2)) (by simpa using VP_map ht parts.toList) h1
    exact wp_value ht hd (u := u) (by simp [execOp, hop, h2]) (Steps.still hr rfl h3) hK
  · rename_i t len parts hop
    obtain ⟨u, w', h2, h3⟩ := buildSlice_ok (P := P) (vparts := parts.map fun p => (p.1, a.eval p.2)) hr (by simpa using VP_map ht parts.toList) he
    exact wp_value ht hd (u := u) (by simp [execOp, hop, h2]) h3 hK
  · rename_i t x hop
    obtain ⟨u, h2, h3⟩ := load_ok (P := P) hr (ev_VA ht x) he
    exact wp_value ht hd (u := u) (by simp [execOp, hop, h2]) h3 hK
  · rename_i t x y hop
    obtain ⟨w', h2, h3⟩ := store_ok (P := P) hr (ev_VA ht x) (ev_VA ht y) he
    exact wp_skip' ht hd (by simp [execOp, hop, h2]) h3 hK
  · rename_i s x f hop
    obtain ⟨u, h2, h3⟩ := fieldAddr_ok (P := P) hr (ev_VA ht x) he
    exact wp_value ht hd (u := u) (by simp [execOp, hop, h2]) h3 hK
  · rename_i t x i hop
    obtain ⟨u, h2, h3⟩ := indexAddr_ok (P := P) hr (ev_VA ht x) (ev_VA ht i) he
    exact wp_value ht hd (u := u) (by simp [execOp, hop, h2]) h3 hK
  · rename_i s x f hop
    obtain ⟨y, h1, rfl⟩ := Option.map_eq_some_iff.1 he
    obtain ⟨u, h2, h3⟩ := field_ok (P := P) (ev_VA ht x) h1
    exact wp_value ht hd (u := u) (by simp [execOp, hop, h2]) (Steps.still hr rfl h3) hK
  · rename_i t x i hop
    split at he
    · exact exact_case he (by rw [hop]; intros; simp)
    · obtain ⟨y, h1, rfl⟩ := Option.map_eq_some_iff.1 he
      obtain ⟨u, h2, h3⟩ := index_ok (P := P) (ev_VA ht x) (ev_VA ht i) h1
      exact wp_value ht hd (u := u) (by simp [execOp, hop, h2]) (Steps.still hr rfl h3) hK
  · rename_i t x lo hi mx hop
    split at he
    · exact exact_case he (by rw [hop]; intros; simp)
    · obtain ⟨u, h2, h3⟩ := slice_ok (P := P) hr (ev_VA ht x) (OVA_map ht lo) (OVA_map ht hi) (OVA_map ht mx) he
      exact wp_value ht hd (u := u) (by simp [execOp, hop, h2]) h3 hK
  · rename_i src dst x hop
    split at he
    · rename_i e' hex
      simp only [Option.some.injEq] at he
      subst he
      exact exact_case hex (by rw [hop]; intros; simp)
    · obtain ⟨u, w', h2, h3⟩ := convert_ok (P := P) hr (ev_VA ht x) he
      exact wp_value ht hd (u := u) (by simp [execOp, hop, h2]) h3 hK
  · rename_i t i hop
    split at he
    · rename_i xs hx
      obtain ⟨y, h1, rfl⟩ := Option.map_eq_some_iff.1 he
      have hv := ev_VA ht t
      rw [hx] at hv
      unfold VA at hv
      obtain ⟨us, hu, hvl⟩ := hv
      obtain ⟨l1, l2⟩ := VL_get.1 hvl
      simp only [Array.length_toList] at l1
      have hi : i < us.size := by rw [← l1]; exact (List.getElem?_eq_some_iff.1 h1).1
      have hg : us[i]? = some us[i] := Array.getElem?_eq_getElem hi
      exact wp_value ht hd (u := us[i]) (by simp [execOp, hop, hu, Instr.extract, hg]) (Steps.still hr rfl (l2 i y us[i] h1 (by simp [hi]))) hK
    · cases he
  · rename_i c hop
    split at he
    · rename_i hc
      split at he
      · rename_i s x t t' hargs htys
        split at he
        · rename_i hcond
          have hargs' : c.args = #[s, x] := by apply Array.ext'; exact hargs
          have htys' : c.argTypes = #[t, t'] := by apply Array.ext'; exact htys
          obtain ⟨d', hd1, hd2⟩ : ∃ d', P.underlying t' = some d' ∧ slOrStr d' = true := by
            unfold okSrc at hcond
            split at hcond
            · rename_i d h'; exact ⟨d, h', hcond⟩
            · cases hcond
          obtain ⟨u, w', h2, h3⟩ := append_ok (P := P) (ty := o.type) hr hd1 hd2 (ev_VA ht s) (ev_VA ht x) he
          refine wp_value ht hd (u := u) ?_ h3 hK
          simp [execOp, hop, resolve, hc, invoke, builtin, hargs', htys', h2]
        · cases he
      · cases he
    · rename_i hc
      split at he
      · rename_i x t hargs htys
        split at he
        · exact exact_case he (by rw [hop]; intros; simp)
        · split at he
          · rename_i htel
            obtain ⟨el, hel⟩ := Option.isSome_iff_exists.1 htel
            obtain ⟨n, h1, rfl⟩ := Option.map_eq_some_iff.1 he
            have hargs' : c.args = #[x] := by apply Array.ext'; exact hargs
            have htys' : c.argTypes = #[t] := by apply Array.ext'; exact htys
            obtain ⟨ad, cap, hv⟩ := len_ok (P := P) (ev_VA ht x) h1
            refine wp_value ht hd (u := .int .i64 n) ?_ (Steps.still hr rfl ?_) hK
            · simp [execOp, hop, resolve, hc, invoke, builtin, hargs', htys', Builtin.len_, run_under (telem_under hel), hv, goInt]
            · show VA _ _ _ (.d (.s _)) _
              unfold VA ValD CellsD
              exact ⟨rfl, rfl⟩
          · cases he
      · cases he
    · exact exact_case he (by rw [hop]; intros; simp)
    · rename_i f hc
      exact call_wp hX hE ht hr hd hop hc he hK
    · cases he
  · cases he
  · rename_i hsel
    exact exact_case he (fun cs b h => by simp_all)
end Go.Proofs.YtkflfgkmbgjohaaDoor
