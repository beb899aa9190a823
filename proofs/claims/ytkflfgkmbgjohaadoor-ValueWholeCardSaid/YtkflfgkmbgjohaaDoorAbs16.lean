/-
  WHAT IS PROVED HERE: code, calls, and programs: what the interpreter says is what the model does.
-/
import Derived.Test.YtkflfgkmbgjohaaDoorAbs15
import Derived.WalkKit
import Derived.LoopN
import Derived.Scope
set_option linter.unusedVariables false
set_option linter.unusedSimpArgs false
namespace Go.Proofs.YtkflfgkmbgjohaaDoor
open Go Go.RowKit

def Ex.exit' : Ex → Exit
  | .normal => .normal
  | .exit i => .exit i
  | .goto l => .goto l
  | .ret => .ret

theorem exec_wp {P : Program} {I : World → Prop} {X : Orc} (hX : Sound P I X) (hP : P.follows .mixedOrders = true) {E : Env} (hE : EnvOk I E) (n : Nat) : ∀ (c : Code) (st : St) (ι : Ix) (S : Sb) (w : World) (a : Act) (x : Ex) (st' : St) (Q : Exit → Act → World → Prop), RelT ι S w st a → RelH E ι S st.h w → exec P X n c st = some (x, st') →
    (∀ ι' S' w' a', RelT ι' S' w' st' a' → RelH E ι' S' st'.h w' → Q x.exit' a' w') → c.wp P Q a w
  | .skip, st, ι, S, w, a, x, st', Q, ht, hr, h, hQ => by
    simp only [exec, Option.some.injEq, Prod.mk.injEq] at h
    obtain ⟨rfl, rfl⟩ := h
    exact wp_skip (hQ ι S w a ht hr)
  | .label l, st, ι, S, w, a, x, st', Q, ht, hr, h, hQ => by
    simp only [exec, Option.some.injEq, Prod.mk.injEq] at h
    obtain ⟨rfl, rfl⟩ := h
    exact wp_label (hQ ι S w a ht hr)
  | .exit id, st, ι, S, w, a, x, st', Q, ht, hr, h, hQ => by
    simp only [exec, Option.some.injEq, Prod.mk.injEq] at h
    obtain ⟨rfl, rfl⟩ := h
    exact wp_exit (hQ ι S w a ht hr)
  | .goto l, st, ι, S, w, a, x, st', Q, ht, hr, h, hQ => by
    simp only [exec, Option.some.injEq, Prod.mk.injEq] at h
    obtain ⟨rfl, rfl⟩ := h
    exact wp_goto (hQ ι S w a ht hr)
  | .ret, st, ι, S, w, a, x, st', Q, ht, hr, h, hQ => by
    simp only [exec, Option.some.injEq, Prod.mk.injEq] at h
    obtain ⟨rfl, rfl⟩ := h
    exact wp_ret (hQ ι S w a ht hr)
  | .region id ops false, st, ι, S, w, a, x, st', Q, ht, hr, h, hQ => by
    simp only [exec] at h
    obtain ⟨st1, h1, h2⟩ := Option.map_eq_some_iff.1 h
    simp only [Prod.mk.injEq] at h2
    obtain ⟨rfl, rfl⟩ := h2
    refine wp_region ?_
    have := ops_wp hX hE ops (Q := Q) hQ ops.size 0 st ι S w a (Nat.sub_zero _) ht hr (by simpa using h1)
    simpa using this
  | .region id ops true, st, ι, S, w, a, x, st', Q, ht, hr, h, hQ => by
    simp only [exec] at h
    split at h
    · rename_i st1 es h1
      split at h
      · rename_i hrf
        simp only [Option.some.injEq, Prod.mk.injEq] at h
        obtain ⟨rfl, rfl⟩ := h
        refine wp_region_any hP ?_
        obtain ⟨g1, g2, g3⟩ := runTr_acc (st := st) ops.size 0 [] es st st1 rfl (Nat.sub_zero _) (Nat.zero_le _) rfl (by simpa using h1)
        simp only [List.nil_append] at g1 g2 g3
        have hnone : ∀ k, (Array.replicate ops.size false).getD k false = false := fun k => by
          rw [Array.getD_eq_getD_getElem?, Array.getElem?_replicate]
          split <;> rfl
        have e0 : acc ops es st (fun k => (Array.replicate ops.size false).getD k false) ops.size = st := by
          have : ∀ m, acc ops es st (fun k => (Array.replicate ops.size false).getD k false) m = st := by
            intro m
            induction m with
            | zero => rfl
            | succ m ih => rw [acc, if_neg (by rw [hnone]; simp), ih]
          exact this _
        refine draw_wp hX hE g1 hrf (fun j o ho => g2 j (Nat.zero_le _) o ho) g3 hQ ops.size _ ι S { w with drawn := w.drawn + 1 } a (by simp) ?_ ?_ ?_ ?_
        · rw [List.filter_eq_self.2 (fun k _ => by rw [hnone]; rfl)]; simp
        · intro j o hj
          have hj' : (Array.replicate ops.size false).getD j false = true := hj
          rw [hnone] at hj'; cases hj'
        · rw [e0]
          exact ⟨ht.size, ht.defers, fun i hi => VA_mono (w := w) (w' := { w with drawn := w.drawn + 1 }) ⟨fun _ _ _ h => h, fun _ _ h => h, fun _ _ _ => rfl⟩ _ _ (ht.vals i hi)⟩
        · rw [e0]
          exact (hr.grow (w' := { w with drawn := w.drawn + 1 }) ⟨rfl, rfl, rfl, Nat.le_refl _, fun _ _ => rfl⟩ (fun _ _ h => h) (fun b o h => ⟨Or.inl h, hr.inw b o h⟩)).2
      · cases h
    · cases h
  | .seq c d, st, ι, S, w, a, x, st', Q, ht, hr, h, hQ => by
    simp only [exec] at h
    split at h
    · rename_i st1 h1
      refine wp_seq (exec_wp hX hP hE n c st ι S w a .normal st1 _ ht hr h1 fun ι' S' w' a' ht' hr' => ?_)
      exact exec_wp hX hP hE n d st1 ι' S' w' a' x st' Q ht' hr' h hQ
    · rename_i hne
      refine wp_seq (exec_wp hX hP hE n c st ι S w a x st' _ ht hr h fun ι' S' w' a' ht' hr' => ?_)
      have := hQ ι' S' w' a' ht' hr'
      cases x with
      | normal => exact absurd h (by intro h'; exact hne _ h')
      | exit i => exact this
      | goto l => exact this
      | ret => exact this
  | .cond b c d, st, ι, S, w, a, x, st', Q, ht, hr, h, hQ => by
    simp only [exec] at h
    split at h
    · rename_i hb
      exact wp_cond_true (bool_of (ev_VA ht b) hb) (exec_wp hX hP hE n c st ι S w a x st' Q ht hr h hQ)
    · rename_i hb
      exact wp_cond_false (bool_of (ev_VA ht b) hb) (exec_wp hX hP hE n d st ι S w a x st' Q ht hr h hQ)
    · cases h
  | .block id c, st, ι, S, w, a, x, st', Q, ht, hr, h, hQ => by
    simp only [exec] at h
    split at h
    · rename_i j st1 h1
      refine wp_block (exec_wp hX hP hE n c st ι S w a (.exit j) st1 _ ht hr h1 fun ι' S' w' a' ht' hr' => ?_)
      show Exit.inBlock id Q (.exit j) a' w'
      unfold Exit.inBlock
      simp only
      split at h
      · rename_i e
        rw [if_pos e]
        simp only [Option.some.injEq, Prod.mk.injEq] at h
        obtain ⟨rfl, rfl⟩ := h
        exact hQ ι' S' w' a' ht' hr'
      · rename_i e
        rw [if_neg e]
        simp only [Option.some.injEq, Prod.mk.injEq] at h
        obtain ⟨rfl, rfl⟩ := h
        exact hQ ι' S' w' a' ht' hr'
    · rename_i hne
      refine wp_block (exec_wp hX hP hE n c st ι S w a x st' _ ht hr h fun ι' S' w' a' ht' hr' => ?_)
      have := hQ ι' S' w' a' ht' hr'
      cases x with
      | normal => exact this
      | exit i => exact absurd h (by intro h'; exact hne _ _ h')
      | goto l => exact this
      | ret => exact this
  | .loop c, st, ι, S, w, a, x, st', Q, ht, hr, h, hQ => by
    simp only [exec] at h
    have key : ∀ (m : Nat) (st : St) (ι : Ix) (S : Sb) (w : World) (a : Act), RelT ι S w st a → RelH E ι S st.h w → iter (exec P X n c) m st = some (x, st') → Code.rounds P c Q m a w := by
      intro m
      induction m with
      | zero => intro st ι S w a ht hr h; simp [iter] at h
      | succ m ih =>
        intro st ι S w a ht hr h
        rw [rounds_succ]
        unfold iter at h
        split at h
        · rename_i st1 h1
          exact exec_wp hX hP hE n c st ι S w a .normal st1 _ ht hr h1 fun ι' S' w' a' ht' hr' => ih st1 ι' S' w' a' ht' hr' h
        · rename_i hne
          refine exec_wp hX hP hE n c st ι S w a x st' _ ht hr h fun ι' S' w' a' ht' hr' => ?_
          have := hQ ι' S' w' a' ht' hr'
          cases x with
          | normal => exact absurd h (by intro h'; exact hne _ h')
          | exit i => exact this
          | goto l => exact this
          | ret => exact this
    exact wp_loop_rounds n (key n st ι S w a ht hr h)
  | .scope c, st, ι, S, w, a, x, st', Q, ht, hr, h, hQ => by
    simp only [exec] at h
    split at h
    · cases h
    · rename_i hne
      refine wp_scope_straight (exec_wp hX hP hE n c st ι S w a x st' _ ht hr h fun ι' S' w' a' ht' hr' => ?_)
      have := hQ ι' S' w' a' ht' hr'
      cases x with
      | normal => exact this
      | exit i => exact this
      | goto l => exact absurd h (by intro h'; exact hne _ _ h')
      | ret => exact this
  | .rangeFunc f ps c d, st, ι, S, w, a, x, st', Q, ht, hr, h, hQ => by simp [exec] at h
  | .refuse y, st, ι, S, w, a, x, st', Q, ht, hr, h, hQ => by simp [exec] at h

/-! ### results -/
theorem res_ok {P : Program} {E : Env} {ι : Ix} {S : Sb} {w : World} {st : St} {a : Act} (ht : RelT ι S w st a) (hr : RelH E ι S st.h w) {r : ResultVar} {x : A} (h : resA P st r = some x) :
    ∃ u, (match r with | .tmp t => (pure (a.tmps.getD t undef) : Sem Value) | .cell ad t => do loadVar t (← asAddr (a.tmps.getD ad undef))).run P w = .ok u w ∧ VA ι S w x u := by
  unfold resA at h
  split at h
  · rename_i t
    split at h
    · rename_i hlt
      simp only [Option.some.injEq] at h
      subst h
      exact ⟨_, rfl, ht.vals t hlt⟩
    · cases h
  · rename_i ad t
    split at h
    · rename_i hlt
      obtain ⟨e, h1, rfl⟩ := Option.map_eq_some_iff.1 h
      obtain ⟨u, h2, ι', S', m, h3, h4⟩ := load_ok (P := P) hr (ht.vals ad hlt) h1
      have hptr : ∃ p, a.tmps.getD ad undef = .pointer (some p) := by
        have hv := ht.vals ad hlt
        cases hx : st.t ad <;> rw [hx] at h1 hv <;> simp only [loadE] at h1 <;> try (cases h1; done)
        · unfold VA at hv; obtain ⟨_, _, _, h⟩ := hv; exact ⟨_, h⟩
        · unfold VA at hv; obtain ⟨_, _, h⟩ := hv; exact ⟨_, h⟩
        · unfold VA at hv; obtain ⟨_, _, _, h, _⟩ := hv; exact ⟨_, h⟩
      obtain ⟨p, hp⟩ := hptr
      rw [hp] at h2
      have e0 : Steps E ι S st.h w e u w := ⟨ι', S', m, h3, h4⟩
      refine ⟨u, ?_, ?_⟩
      · simp only [hp, asAddr, Sem.run_bind, Sem.run_pure, Result.andThen]
        simpa [Instr.loadAt, Instr.sureAddr] using h2
      · obtain ⟨u', h2', h3'⟩ : ∃ u', (Instr.loadAt t (.pointer (some p))).run P w = .ok u' w ∧ VA ι S w e.v u' := by
          have hv := ht.vals ad hlt
          rw [hp] at hv
          exact load_val hr hv h1
        rw [h2'] at h2
        cases h2
        exact h3'
    · cases h
theorem ress_ok {P : Program} {E : Env} {ι : Ix} {S : Sb} {w : World} {st : St} {a : Act} (ht : RelT ι S w st a) (hr : RelH E ι S st.h w) : ∀ {l : List ResultVar} {xs : List A}, resAs P st l = some xs →
    ∃ us : List Value, (l.mapM fun (r : ResultVar) => (match r with | .tmp t => pure (a.tmps.getD t undef) | .cell ad t => do loadVar t (← asAddr (a.tmps.getD ad undef)) : Sem Value)).run P w = .ok us w ∧ VL ι S w xs us
  | [], xs, h => by
    simp only [resAs, Option.some.injEq] at h
    subst h
    exact ⟨[], by simp, by unfold VL; rfl⟩
  | r :: l, xs, h => by
    unfold resAs at h
    split at h
    · rename_i x ys h1 h2
      simp only [Option.some.injEq] at h
      subst h
      obtain ⟨u, g1, g2⟩ := res_ok (P := P) ht hr h1
      obtain ⟨us, g3, g4⟩ := ress_ok ht hr h2
      refine ⟨u :: us, ?_, by unfold VL; exact ⟨u, us, rfl, g2, g4⟩⟩
      simp only [List.mapM_cons, Sem.run_bind, g1, Result.andThen, g3, Sem.run_pure]
    · cases h
theorem results_ok {P : Program} {E : Env} {ι : Ix} {S : Sb} {w : World} {st : St} {a : Act} (ht : RelT ι S w st a) (hr : RelH E ι S st.h w) {fn : Func} {xs : List A} (h : resAs P st fn.results.toList = some xs) :
    ∃ us : List Value, (results fn a.tmps).run P w = .ok (if h : us.toArray.size = 1 then us.toArray[0] else .tuple us.toArray) w ∧ VL ι S w xs us := by
  obtain ⟨us, h1, h2⟩ := ress_ok (P := P) ht hr h
  refine ⟨us, ?_, h2⟩
  have e : results fn a.tmps = (fn.results.mapM fun (r : ResultVar) => (match r with | .tmp t => pure (a.tmps.getD t undef) | .cell ad t => do loadVar t (← asAddr (a.tmps.getD ad undef)) : Sem Value)) >>= fun vs => pure (if h : vs.size = 1 then vs[0] else .tuple vs) := rfl
  rw [e, Array.mapM_eq_mapM_toList]
  simp only [map_eq_pure_bind, Sem.run_bind, h1, Result.andThen, Sem.run_pure]
theorem resR_ok {E : Env} {ι : Ix} {S : Sb} {h : Nat → O} {w : World} (hr : RelH E ι S h w) {xs : List A} {us : List Value} (hv : VL ι S w xs us) {r : R} (hx : resR h xs = some r) :
    ∃ S', (∀ b o, S b o → S' b o) ∧ (∀ b o, S' b o → (E.S0 b o ∨ E.base ≤ b) ∧ b < w.heap.size) ∧ RepR S' E.base w r (if h : us.toArray.size = 1 then us.toArray[0] else .tuple us.toArray) := by
  have fin : ∀ (S' : Sb), RelH E ι S' (h) w → (∀ b o, S' b o → (E.S0 b o ∨ E.base ≤ b) ∧ b < w.heap.size) := fun S' hr' b o hs => ⟨hr'.new b o hs, hr'.inw b o hs⟩
  have single : ∀ a, xs = [a] → ∃ u, us = [u] ∧ VA ι S w a u := fun a e => by
    subst e
    unfold VL at hv
    obtain ⟨u, us', rfl, h1, h2⟩ := hv
    unfold VL at h2
    subst h2
    exact ⟨u, rfl, h1⟩
  have one : ∀ a, xs = [a] → ((fzVal h a).map fun p => R.val p.1) = some r → ∃ S', (∀ b o, S b o → S' b o) ∧ (∀ b o, S' b o → (E.S0 b o ∨ E.base ≤ b) ∧ b < w.heap.size) ∧ RepR S' E.base w r (if h : us.toArray.size = 1 then us.toArray[0] else .tuple us.toArray) := fun a e hx => by
    obtain ⟨u, rfl, hu⟩ := single a e
    obtain ⟨⟨x, ids⟩, h1, rfl⟩ := Option.map_eq_some_iff.1 hx
    obtain ⟨S', m, r', f1, _⟩ := RelH.freezeL (h0 := h) ids (fun _ => Or.inl rfl) hr
    exact ⟨S', m.sb, fun b o hs => ⟨r'.new b o hs, r'.inw b o hs⟩, fzVal_ok hr m hu h1 f1⟩
  unfold resR at hx
  split at hx
  · rename_i id ver off len
    split at hx
    · rename_i v n ys fz ho
      split at hx
      · rename_i hc
        obtain ⟨rfl, hl⟩ := hc
        split at hx
        · rename_i hc2
          obtain ⟨rfl, rfl, rfl⟩ := hc2
          simp only [Option.some.injEq] at hx
          subst hx
          obtain ⟨u, rfl, hu⟩ := single _ rfl
          refine ⟨S, fun _ _ h => h, fin S hr, ?_⟩
          show RepR S E.base w (.fresh n ys) u
          unfold VA at hu
          obtain ⟨a, cap, rfl, h1, h2⟩ := hu
          refine ⟨a, cap, rfl, h1, ?_⟩
          rcases h2 with rfl | ⟨L, hL, rfl, h3⟩
          · left; exact ⟨List.length_eq_zero_iff.1 (by omega), rfl⟩
          · have hob := hr.objs id
            rw [ho] at hob
            rcases hob with ⟨_, g⟩ | ⟨L', g1, g2, g3, g4, g5, g6, g7, g8, g9, g10⟩
            · rw [hL] at g; cases g
            · rw [hL] at g1
              cases g1
              exact Or.inr ⟨L, by simp, g2, g3, g4, g5, by omega, g6, g7, g9 rfl⟩
        · simp only [Option.some.injEq] at hx
          subst hx
          obtain ⟨u, rfl, hu⟩ := single _ rfl
          obtain ⟨S', m, r', f1, _⟩ := RelH.freezeL (h0 := h) [id] (fun _ => Or.inl rfl) hr
          exact ⟨S', m.sb, fun b o hs => ⟨r'.new b o hs, r'.inw b o hs⟩, fz_lst hr m ho hl f1 hu⟩
      · cases hx
    · cases hx
  · rename_i a hne
    exact one a rfl hx
  · rename_i h1 h2
    obtain ⟨⟨ds, ids⟩, h3, rfl⟩ := Option.map_eq_some_iff.1 hx
    obtain ⟨S', m, r', f1, _⟩ := RelH.freezeL (h0 := h) ids (fun _ => Or.inl rfl) hr
    refine ⟨S', m.sb, fun b o hs => ⟨r'.new b o hs, r'.inw b o hs⟩, ?_⟩
    have hne : ¬ us.toArray.size = 1 := fun e => by
      have hl := (VL_get.1 hv).1
      simp only [List.size_toArray] at e
      cases xs with
      | nil => simp at hl; omega
      | cons x xs =>
        cases xs with
        | nil => exact h2 x rfl
        | cons y ys => simp at hl; omega
    rw [dif_neg hne]
    exact ⟨us.toArray, rfl, by simpa using fzVals_ok hr m hv h3 f1⟩

/-! ### functions -/
theorem ValDs_get {S : Sb} {w : World} : ∀ {xs : List D} {us : List Value}, ValDs S w xs us → xs.length = us.length ∧ ∀ (i : Nat) x u, xs[i]? = some x → us[i]? = some u → ValD S w x u
  | [], us, h => by
    simp only [ValDs] at h
    subst h
    exact ⟨rfl, by simp⟩
  | x :: xs, us, h => by
    obtain ⟨u, us', rfl, h1, h2⟩ := h
    obtain ⟨h3, h4⟩ := ValDs_get h2
    refine ⟨by simp [h3], fun i y v hy hv => ?_⟩
    cases i with
    | zero => simp at hy hv; subst hy hv; exact h1
    | succ i => exact h4 i y v (by simpa using hy) (by simpa using hv)
theorem body_ret {P : Program} {I : World → Prop} {X : Orc} (hX : Sound P I X) (hP : P.follows .mixedOrders = true) {n : Nat} {f : FuncId} {ds : List D} {r : R} (h : body P X n f ds = some r) : Ret P I f ds r := by
  unfold body at h
  split at h
  · cases h
  · rename_i fn hf
    split at h
    · cases h
    · rename_i c hb
      split at h
      · rename_i hc
        obtain ⟨hlen, hname⟩ := hc
        refine ⟨enters_of hf (by simpa using hname) (by rw [hb]; rfl), fun S w vs hI hS hvs => ?_⟩
        obtain ⟨l1, l2⟩ := ValDs_get hvs
        simp only [Array.length_toList] at l1
        refine calls_of_wp hf hb ?_
        have hE : EnvOk I ⟨w.heap.size, w, S⟩ := ⟨rfl, hI⟩
        have hr0 : RelH ⟨w.heap.size, w, S⟩ (fun _ _ => none) S (initSt fn ds).h w := by
          refine ⟨Below.refl _ _, Nat.le_refl _, fun id => trivial, fun id id' L L' _ hl => ?_, fun _ _ _ => rfl, fun _ _ h => h, fun _ _ h => Or.inl h, hS⟩
          cases hl
        have ht0 : RelT (fun _ _ => none) S w (initSt fn ds) { tmps := vs ++ Array.replicate (fn.ntmps - vs.size) undef, defers := [] } := by
          refine ⟨by simp [initSt]; omega, rfl, fun i hi => ?_⟩
          show VA _ _ _ ((ds.map A.d).getD i (.d (.s undef))) ((vs ++ Array.replicate (fn.ntmps - vs.size) undef).getD i undef)
          rw [Array.getD_eq_getD_getElem?, List.getD_eq_getElem?_getD]
          by_cases hi' : i < vs.size
          · rw [Array.getElem?_append_left hi', Array.getElem?_eq_getElem hi', List.getElem?_map, List.getElem?_eq_getElem (by omega)]
            show VA _ _ _ (.d _) _
            unfold VA
            exact l2 i _ _ (List.getElem?_eq_getElem (by omega)) (by simp [hi'])
          · rw [Array.getElem?_append_right (by omega), List.getElem?_eq_none (by simp; omega), Array.getElem?_replicate]
            have : (if i - vs.size < fn.ntmps - vs.size then some undef else none).getD undef = undef := by split <;> rfl
            rw [this]
            show VA _ _ _ (.d (.s undef)) undef
            unfold VA ValD CellsD
            exact ⟨rfl, rfl⟩
        have fin : ∀ (x : Ex) (st : St), exec P X n c (initSt fn ds) = some (x, st) → (x = .normal ∨ x = .ret) → ((resAs P st fn.results.toList).bind (resR st.h)) = some r → c.wp P (bodyPost P fn fun e w' => ∃ v S', e = .returned v ∧ Below w.heap.size w w' ∧ (∀ b o, S b o → S' b o) ∧ (∀ b o, S' b o → (S b o ∨ w.heap.size ≤ b) ∧ b < w'.heap.size) ∧ RepR S' w.heap.size w' r v) { tmps := vs ++ Array.replicate (fn.ntmps - vs.size) undef, defers := [] } w := by
          intro x st hex hx hres
          refine exec_wp hX hP hE n c (initSt fn ds) _ S w _ x st _ ht0 hr0 hex fun ι' S' w' a' ht' hr' => ?_
          obtain ⟨as, h1, h2⟩ := Option.bind_eq_some_iff.1 hres
          obtain ⟨us, g1, g2⟩ := results_ok (P := P) ht' hr' h1
          obtain ⟨S2, k1, k2, k3⟩ := resR_ok hr' g2 h2
          have post : a'.defers = [] ∧ ∃ v, (results fn a'.tmps).run P w' = .ok v w' ∧ ∃ v' S', Ending.returned v = .returned v' ∧ Below w.heap.size w w' ∧ (∀ b o, S b o → S' b o) ∧ (∀ b o, S' b o → (S b o ∨ w.heap.size ≤ b) ∧ b < w'.heap.size) ∧ RepR S' w.heap.size w' r v' :=
            ⟨ht'.defers, _, g1, _, S2, rfl, hr'.below, fun b o hs => k1 b o (hr'.sub b o hs), k2, k3⟩
          rcases hx with rfl | rfl
          · exact post
          · exact post
        split at h
        · rename_i st hex; exact fin _ st hex (Or.inl rfl) h
        · rename_i st hex; exact fin _ st hex (Or.inr rfl) h
        · cases h
      · cases h
/-- WHAT IS ASKED OF WHAT IS KNOWN OTHERWISE. -/
structure ExtOk (P : Program) (I : World → Prop) (ext : FuncId → Option (List D → Option R)) : Prop where
  orders : P.follows .mixedOrders = true
  keep : ∀ w w', I w → Below w.heap.size w w' → I w'
  ext : ∀ f g ds r, ext f = some g → g ds = some r → Ret P I f ds r
theorem eval_sound {P : Program} {I : World → Prop} {ext : FuncId → Option (List D → Option R)} (h : ExtOk P I ext) : ∀ n, Sound P I (eval P ext n)
  | 0 => ⟨fun f ds r e => by simp [eval] at e, h.keep⟩
  | n + 1 => ⟨fun f ds r e => by
      unfold eval at e
      split at e
      · rename_i g hg; exact h.ext f g ds r hg e
      · exact body_ret (eval_sound h n) h.orders e, h.keep⟩
end Go.Proofs.YtkflfgkmbgjohaaDoor
