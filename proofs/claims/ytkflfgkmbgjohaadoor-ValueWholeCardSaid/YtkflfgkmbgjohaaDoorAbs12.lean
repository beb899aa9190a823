/-
  WHAT IS PROVED HERE: every operation: the interpreter says what the model does; calls by value, by what is known of the function that is called.
-/
import Derived.Test.YtkflfgkmbgjohaaDoorAbs11
set_option linter.unusedVariables false
set_option linter.unusedSimpArgs false
namespace Go.Proofs.YtkflfgkmbgjohaaDoor
open Go Go.RowKit

/-- A value that a call by value answers. -/
def RepR (S : Sb) (z0 : Nat) (w : World) : R → Value → Prop
  | .val x, v => ValD S w x v
  | .tup xs, v => ∃ us, v = .tuple us ∧ ValDs S w xs us.toList
  | .fresh n xs, v => ∃ a cap, v = .slice a xs.length cap ∧ xs.length ≤ cap ∧ ((xs = [] ∧ cap = 0) ∨ ∃ L : Loc, a = some ⟨L.b, L.st, none⟩ ∧ L.n = n ∧ z0 ≤ L.b ∧ L.b < w.heap.size ∧ xs.length ≤ L.lim ∧ cap ≤ L.lim ∧
      (∀ o, L.st ≤ o → o < L.st + L.lim * n → (w.cell? ⟨L.b, o, none⟩).isSome = true ∧ w.frozen? ⟨L.b, o, none⟩ = false) ∧ VecRow S w L.b n L.st xs ∧ ∀ o, L.st ≤ o → ¬ S L.b o)
/-- WHAT A FUNCTION DOES, called with plain data in whatever world that meets I. -/
structure Ret (P : Program) (I : World → Prop) (f : FuncId) (ds : List D) (r : R) : Prop where
  enters : Enters P f
  calls : ∀ (S : Sb) (w : World) (vs : Array Value), I w → (∀ b o, S b o → b < w.heap.size) → ValDs S w ds vs.toList →
    Calls P f vs w fun e w' => ∃ v S', e = .returned v ∧ Below w.heap.size w w' ∧ (∀ b o, S b o → S' b o) ∧ (∀ b o, S' b o → (S b o ∨ w.heap.size ≤ b) ∧ b < w'.heap.size) ∧ RepR S' w.heap.size w' r v

/-- Memory grew, and more is known to be nobody's. -/
theorem RelH.grow {E : Env} {ι : Ix} {S S' : Sb} {h : Nat → O} {w w' : World} (hr : RelH E ι S h w) (hb : Below w.heap.size w w') (h1 : ∀ b o, S b o → S' b o) (h2 : ∀ b o, S' b o → (S b o ∨ w.heap.size ≤ b) ∧ b < w'.heap.size) : Mono ι S w ι S' w' ∧ RelH E ι S' h w' := by
  have m : Mono ι S w ι S' w' := ⟨fun _ _ _ h => h, h1, fun b o hs => hb.cell (p := ⟨b, o, none⟩) (hr.inw b o hs)⟩
  refine ⟨m, hr.below.trans (hb.mono hr.size), Nat.le_trans hr.size hb.size, fun i => ?_, hr.apart, hr.vers, fun b o hs => h1 b o (hr.sub b o hs), fun b o hs => ?_, fun b o hs => (h2 b o hs).2⟩
  · refine (hr.objs i).keep m rfl hb.size fun hl L hL => ?_
    have hlt := ((hr.objs i).lt hl hL).2
    refine ⟨fun p hs => ?_, fun p => ⟨hb.cell (p := ⟨L.b, p, none⟩) hlt, hb.frozen (p := ⟨L.b, p, none⟩) hlt⟩⟩
    rcases (h2 _ _ hs).1 with hs | hs
    · exact hs
    · omega
  · rcases (h2 b o hs).1 with hs | hs
    · exact hr.new b o hs
    · exact Or.inr (Nat.le_trans hr.size hs)
theorem ValDs_VL {ι : Ix} {S : Sb} {w : World} : ∀ {xs : List D} {us : List Value}, ValDs S w xs us → VL ι S w (xs.map .d) us
  | [], us, h => by
    simp only [ValDs] at h
    simp only [List.map_nil]
    unfold VL; exact h
  | x :: xs, us, h => by
    obtain ⟨u, us', rfl, h1, h2⟩ := h
    simp only [List.map_cons]
    unfold VL
    exact ⟨u, us', rfl, by unfold VA; exact h1, ValDs_VL h2⟩
theorem VL_map {ι : Ix} {S : Sb} {w : World} {st : St} {a : Act} (h : RelT ι S w st a) : ∀ l : List Operand, VL ι S w (l.map st.ev) (l.map a.eval)
  | [] => by simp only [List.map_nil]; unfold VL; rfl
  | x :: l => by
    simp only [List.map_cons]
    unfold VL
    exact ⟨_, _, rfl, ev_VA h x, VL_map h l⟩
theorem VP_map {ι : Ix} {S : Sb} {w : World} {st : St} {a : Act} (h : RelT ι S w st a) : ∀ l : List (Nat × Operand), VP ι S w (l.map fun p => (p.1, st.ev p.2)) (l.map fun p => (p.1, a.eval p.2))
  | [] => by simp only [List.map_nil]; unfold VP; rfl
  | x :: l => by
    simp only [List.map_cons]
    unfold VP
    exact ⟨_, _, rfl, ev_VA h x.2, VP_map h l⟩
theorem OVA_map {ι : Ix} {S : Sb} {w : World} {st : St} {a : Act} (h : RelT ι S w st a) (x : Option Operand) : OVA ι S w (x.map st.ev) (x.map a.eval) := by
  cases x with
  | none => trivial
  | some x => exact ev_VA h x
theorem RelT_put {ι ι' : Ix} {S S' : Sb} {w w' : World} {st : St} {a : Act} (h : RelT ι S w st a) (m : Mono ι S w ι' S' w') {dst : Option Tmp} (hd : dstOk st.n dst = true) {e : Eff} {u : Value} (hv : VA ι' S' w' e.v u) : RelT ι' S' w' (st.put dst e) (a.put dst u) := by
  cases dst with
  | none => exact ⟨h.size, h.defers, fun i hi => VA_mono m _ _ (h.vals i hi)⟩
  | some d =>
    have hd' : d < st.n := by simpa [dstOk] using hd
    refine ⟨by simp [Act.put, h.size, St.put], h.defers, fun i hi => ?_⟩
    show VA ι' S' w' (upd st.t d e.v i) ((a.tmps.setIfInBounds d u).getD i undef)
    unfold upd
    rw [Array.getD_eq_getD_getElem?, Array.getElem?_setIfInBounds]
    by_cases hi' : i = d
    · subst hi'
      rw [if_pos rfl, if_pos rfl, if_pos (by rw [h.size]; exact hd')]
      exact hv
    · rw [if_neg hi', if_neg (fun e => hi' e.symm), ← Array.getD_eq_getD_getElem?]
      exact VA_mono m _ _ (h.vals i hi)

/-- The rest of an operation that answered. -/
theorem wp_value {P : Program} {E : Env} {ι : Ix} {S : Sb} {w w' : World} {st : St} {a : Act} {o : Oper} {e : Eff} {u : Value} (ht : RelT ι S w st a) (hd : dstOk st.n o.dst = true) (hrun : (execOp a.eval o).run P w = .ok (.value u) w') (hs : Steps E ι S st.h w e u w') {K : Act → World → Prop} {Q : Exit → Act → World → Prop}
    (hK : ∀ ι' S' w' a', RelT ι' S' w' (st.put o.dst e) a' → RelH E ι' S' (st.put o.dst e).h w' → K a' w') : o.wp P a w K Q := by
  obtain ⟨ι', S', m, hv, hr⟩ := hs
  unfold Oper.wp
  rw [hrun]
  exact hK ι' S' w' _ (RelT_put ht m hd hv) hr
theorem wp_skip' {P : Program} {E : Env} {ι : Ix} {S : Sb} {w w' : World} {st : St} {a : Act} {o : Oper} {e : Eff} (ht : RelT ι S w st a) (hd : dstOk st.n o.dst = true) (hrun : (execOp a.eval o).run P w = .ok .skip w') (hs : Steps E ι S st.h w e undef w') {K : Act → World → Prop} {Q : Exit → Act → World → Prop}
    (hK : ∀ ι' S' w' a', RelT ι' S' w' (st.put o.dst e) a' → RelH E ι' S' (st.put o.dst e).h w' → K a' w') : o.wp P a w K Q := by
  obtain ⟨ι', S', m, hv, hr⟩ := hs
  unfold Oper.wp
  rw [hrun]
  exact hK ι' S' w' _ (RelT_put ht m hd hv) hr

/-- What is asked of what is known of functions, and of what holds of the world all along. -/
structure Sound (P : Program) (I : World → Prop) (X : Orc) : Prop where
  orc : ∀ f ds r, X f ds = some r → Ret P I f ds r
  keep : ∀ w w', I w → Below w.heap.size w w' → I w'
structure EnvOk (I : World → Prop) (E : Env) : Prop where
  base : E.base = E.w0.heap.size
  inv : I E.w0

theorem call_wp {P : Program} {I : World → Prop} {X : Orc} (hX : Sound P I X) {E : Env} (hE : EnvOk I E) {ι : Ix} {S : Sb} {w : World} {st : St} {a : Act} {o : Oper} {e : Eff} (ht : RelT ι S w st a) (hr : RelH E ι S st.h w) (hd : dstOk st.n o.dst = true) {c : Call} {f : FuncId} (hop : o.op = .call c) (hc : c.callee = .value (.func f)) {id : Nat}
    (he : callE X st.h id f (c.args.toList.map st.ev) = some e) {K : Act → World → Prop} {Q : Exit → Act → World → Prop}
    (hK : ∀ ι' S' w' a', RelT ι' S' w' (st.put o.dst e) a' → RelH E ι' S' (st.put o.dst e).h w' → K a' w') : o.wp P a w K Q := by
  unfold callE at he
  split at he
  · cases he
  · rename_i ds ids hfz
    have hI : I w := hX.keep _ _ hE.inv (by have := hr.below; rw [hE.base] at this; exact this)
    obtain ⟨S1, m1, r1, f1, f2⟩ := RelH.freezeL (h0 := st.h) ids (fun _ => Or.inl rfl) hr
    have hvals := fzVals_ok hr m1 (VL_map ht c.args.toList) hfz f1
    have henter : Enters P f → (execOp a.eval o).run P w = .ok (.enter f (c.args.map a.eval)) w := fun hf => by
      have := hf (c.args.map a.eval) w
      simp [execOp, hop, resolve, hc, Act.eval, Deferred.ofValue, invoke, this]
    have go : ∀ r, X f ds = some r → (∀ (v : Value) (S' : Sb) (w' : World), Below w.heap.size w w' → (∀ b o, S1 b o → S' b o) → (∀ b o, S' b o → (S1 b o ∨ w.heap.size ≤ b) ∧ b < w'.heap.size) → RepR S' w.heap.size w' r v → Mono ι S1 w ι S' w' → RelH E ι S' (upds st.h (frz st.h ids)) w' → K (a.put o.dst v) w') → o.wp P a w K Q := fun r hr' hgo => by
      have hret := hX.orc f ds r hr'
      unfold Oper.wp
      rw [henter hret.enters]
      have := hret.calls S1 w (c.args.map a.eval) hI r1.inw (by simpa using hvals)
      refine this.mono ?_
      rintro ev w' ⟨v, S', rfl, hb, h1, h2, hrep⟩
      obtain ⟨m2, r2⟩ := r1.grow hb h1 h2
      exact hgo v S' w' hb h1 h2 hrep m2 r2
    split at he
    · rename_i x hx
      simp only [Option.some.injEq] at he
      subst he
      refine go _ hx fun v S' w' hb h1 h2 hrep m2 r2 => hK ι S' w' _ (RelT_put ht (m1.trans m2) hd ?_) r2
      show VA _ _ _ (.d x) v
      unfold VA
      exact hrep
    · rename_i xs hx
      simp only [Option.some.injEq] at he
      subst he
      refine go _ hx fun v S' w' hb h1 h2 hrep m2 r2 => hK ι S' w' _ (RelT_put ht (m1.trans m2) hd ?_) r2
      obtain ⟨us, rfl, h3⟩ := hrep
      show VA _ _ _ (.tup _) _
      unfold VA
      exact ⟨us, rfl, ValDs_VL h3⟩
    · rename_i n xs hx
      simp only [Option.some.injEq] at he
      subst he
      refine go _ hx fun v S' w' hb h1 h2 hrep m2 r2 => ?_
      have hver := ver_of_freeze (f2 id)
      obtain ⟨ad, cap, rfl, hlc, hrep⟩ := hrep
      rcases hrep with ⟨rfl, rfl⟩ | ⟨L, rfl, g1, g2, g3, g4, g5, g6, g7, g8⟩
      · refine hK ι S' w' _ (RelT_put ht (m1.trans m2) hd ?_) ?_
        · show VA _ _ _ (.sl _ _ _ _) _
          unfold VA
          exact ⟨ad, 0, rfl, by simp, Or.inl rfl⟩
        · show RelH E ι S' (upds st.h (frz st.h ids ++ [(id, .vec ((st.h id).ver + 1) n [] false)])) w'
          rw [upds_append]
          have := r2.empty id n false
          rw [hver] at this
          exact this
      · have hnone : ι id ((st.h id).ver + 1) = none := hr.vers id _ (by omega)
        have m3 : Mono ι S' w' (ixNew ι id ((st.h id).ver + 1) L) S' w' := ⟨fun a b L' hL' => (ixNew_other (by rintro ⟨rfl, rfl⟩; rw [hnone] at hL'; cases hL')).trans hL', fun _ _ h => h, fun _ _ _ => rfl⟩
        have r3 := r2.lay id (.vec ((st.h id).ver + 1) n xs false) L (by rw [hver]; rfl) m3 (Nat.le_refl _) r2.below (by
          refine Or.inr ⟨L, ixNew_same _ _ _ _, g1, Nat.le_trans hr.size g2, g3, g4, g6, g7, fun o ho => g8 o (by omega), fun _ => g8, fun hf => by cases hf⟩) (fun i Li hi hl hL => by
          have hlt := ((r1.objs i).lt hl hL).2
          exact ⟨by omega, fun _ h => h, fun _ => ⟨rfl, rfl⟩⟩) (fun b p hs => Or.inl hs)
        refine hK _ S' w' _ (RelT_put ht ((m1.trans m2).trans m3) hd ?_) ?_
        · show VA _ _ _ (.sl _ _ _ _) _
          unfold VA
          exact ⟨_, cap, rfl, hlc, Or.inr ⟨L, ixNew_same _ _ _ _, by simp, by omega⟩⟩
        · show RelH E _ S' (upds st.h (frz st.h ids ++ [(id, .vec ((st.h id).ver + 1) n xs false)])) w'
          rw [upds_append]
          exact r3
    · cases he
end Go.Proofs.YtkflfgkmbgjohaaDoor
