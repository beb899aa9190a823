/-
  WHAT IS PROVED HERE: what a function comes to, if it comes to anything, is one answer; and the program does that.
-/
import Derived.Test.YtkflfgkmbgjohaaDoorAbs16
set_option linter.unusedVariables false
set_option linter.unusedSimpArgs false
namespace Go.Proofs.YtkflfgkmbgjohaaDoor
open Go Go.RowKit

/-- Two tellings that never differ. -/
def Compat (X Y : Orc) : Prop := ∀ f ds a b, X f ds = some a → Y f ds = some b → a = b
theorem callE_compat {X Y : Orc} (hc : Compat X Y) {h : Nat → O} {id : Nat} {f : FuncId} {l : List A} {e e' : Eff} (h1 : callE X h id f l = some e) (h2 : callE Y h id f l = some e') : e = e' := by
  unfold callE at h1 h2
  cases hfz : fzVals h l with
  | none => rw [hfz] at h1; cases h1
  | some p =>
    obtain ⟨ds, ids⟩ := p
    rw [hfz] at h1 h2
    simp only at h1 h2
    cases hx : X f ds with
    | none => rw [hx] at h1; cases h1
    | some r =>
      cases hy : Y f ds with
      | none => rw [hy] at h2; cases h2
      | some r' =>
        have := hc f ds r r' hx hy
        subst this
        rw [hx] at h1
        rw [hy] at h2
        rw [h1] at h2
        cases h2
        rfl
theorem opE_compat {P : Program} {X Y : Orc} (hc : Compat X Y) {ev : Operand → A} {h : Nat → O} {id : Nat} {o : Oper} {e e' : Eff} (h1 : opE P X ev h id o = some e) (h2 : opE P Y ev h id o = some e') : e = e' := by
  by_cases hcall : ∃ c f, o.op = .call c ∧ c.callee = .value (.func f)
  · obtain ⟨c, f, hop, hcl⟩ := hcall
    unfold opE at h1 h2
    rw [hop] at h1 h2
    simp only [hcl] at h1 h2
    exact callE_compat hc h1 h2
  · have e0 : opE P X ev h id o = opE P Y ev h id o := by
      unfold opE
      split <;> try rfl
      rename_i c hop
      split <;> try rfl
      rename_i f hcl
      exact absurd ⟨c, f, hop, hcl⟩ hcall
    rw [e0, h2] at h1
    cases h1
    rfl
theorem stepE_compat {P : Program} {X Y : Orc} (hc : Compat X Y) {ops : Array Oper} {o : Oper} {st : St} {e e' : Eff} (h1 : stepE P X ops o st = some e) (h2 : stepE P Y ops o st = some e') : e = e' := by
  unfold stepE at h1 h2
  by_cases hd : dstOk st.n o.dst = true
  · rw [if_pos hd] at h1 h2
    cases hw : wantedA ops st o with
    | none => rw [hw] at h1; cases h1
    | some b =>
      rw [hw] at h1 h2
      cases b with
      | true => exact opE_compat hc h1 h2
      | false =>
        simp only [Option.some.injEq] at h1 h2
        rw [← h1, ← h2]
  · rw [if_neg hd] at h1; cases h1
theorem runOps_compat {P : Program} {X Y : Orc} (hc : Compat X Y) {ops : Array Oper} : ∀ {l : List Oper} {st s s' : St}, runOps P X ops l st = some s → runOps P Y ops l st = some s' → s = s'
  | [], st, s, s', h1, h2 => by
    simp only [runOps, Option.some.injEq] at h1 h2
    rw [← h1, ← h2]
  | o :: l, st, s, s', h1, h2 => by
    unfold runOps stepSt at h1 h2
    obtain ⟨t1, g1, g2⟩ := Option.bind_eq_some_iff.1 h1
    obtain ⟨t2, g3, g4⟩ := Option.bind_eq_some_iff.1 h2
    obtain ⟨e1, k1, rfl⟩ := Option.map_eq_some_iff.1 g1
    obtain ⟨e2, k2, rfl⟩ := Option.map_eq_some_iff.1 g3
    have := stepE_compat hc k1 k2
    subst this
    exact runOps_compat hc g2 g4
theorem runTr_compat {P : Program} {X Y : Orc} (hc : Compat X Y) {ops : Array Oper} : ∀ {l : List Oper} {st : St} {p p' : St × List Eff}, runTr P X ops l st = some p → runTr P Y ops l st = some p' → p = p'
  | [], st, p, p', h1, h2 => by
    simp only [runTr, Option.some.injEq] at h1 h2
    rw [← h1, ← h2]
  | o :: l, st, p, p', h1, h2 => by
    unfold runTr at h1 h2
    split at h1
    · cases h1
    · rename_i e1 k1
      split at h2
      · cases h2
      · rename_i e2 k2
        have := stepE_compat hc k1 k2
        subst this
        split at h1
        · cases h1
        · rename_i s1 es1 g1
          split at h2
          · cases h2
          · rename_i s2 es2 g2
            have := runTr_compat hc g1 g2
            cases this
            rw [h1] at h2
            cases h2
            rfl
theorem iter_compat {f g : St → Option (Ex × St)} (hfg : ∀ st p p', f st = some p → g st = some p' → p = p') : ∀ {n m : Nat} {st : St} {p p' : Ex × St}, iter f n st = some p → iter g m st = some p' → p = p'
  | 0, _, _, _, _, h1, _ => by simp [iter] at h1
  | _ + 1, 0, _, _, _, _, h2 => by simp [iter] at h2
  | n + 1, m + 1, st, p, p', h1, h2 => by
    unfold iter at h1 h2
    cases hf : f st with
    | none => rw [hf] at h1; cases h1
    | some q =>
      cases hg : g st with
      | none => rw [hg] at h2; cases h2
      | some q' =>
        have := hfg st q q' hf hg
        subst this
        rw [hf] at h1
        rw [hg] at h2
        obtain ⟨x, s⟩ := q
        cases x with
        | normal => exact iter_compat hfg h1 h2
        | _ => simp only [Option.some.injEq] at h1 h2; rw [← h1, ← h2]
theorem exec_compat {P : Program} {X Y : Orc} (hc : Compat X Y) {n m : Nat} : ∀ (c : Code) {st : St} {p p' : Ex × St}, exec P X n c st = some p → exec P Y m c st = some p' → p = p'
  | .skip, st, p, p', h1, h2 => by simp only [exec, Option.some.injEq] at h1 h2; rw [← h1, ← h2]
  | .label _, st, p, p', h1, h2 => by simp only [exec, Option.some.injEq] at h1 h2; rw [← h1, ← h2]
  | .exit _, st, p, p', h1, h2 => by simp only [exec, Option.some.injEq] at h1 h2; rw [← h1, ← h2]
  | .goto _, st, p, p', h1, h2 => by simp only [exec, Option.some.injEq] at h1 h2; rw [← h1, ← h2]
  | .ret, st, p, p', h1, h2 => by simp only [exec, Option.some.injEq] at h1 h2; rw [← h1, ← h2]
  | .region _ ops false, st, p, p', h1, h2 => by
    simp only [exec] at h1 h2
    obtain ⟨s1, g1, rfl⟩ := Option.map_eq_some_iff.1 h1
    obtain ⟨s2, g2, rfl⟩ := Option.map_eq_some_iff.1 h2
    rw [runOps_compat hc g1 g2]
  | .region _ ops true, st, p, p', h1, h2 => by
    simp only [exec] at h1 h2
    split at h1
    · rename_i s1 es1 g1
      split at h2
      · rename_i s2 es2 g2
        have := runTr_compat hc g1 g2
        cases this
        rw [h1] at h2
        cases h2; rfl
      · cases h2
    · cases h1
  | .seq a b, st, p, p', h1, h2 => by
    simp only [exec] at h1 h2
    cases ha : exec P X n a st with
    | none => rw [ha] at h1; cases h1
    | some q =>
      cases hb : exec P Y m a st with
      | none => rw [hb] at h2; cases h2
      | some q' =>
        have := exec_compat hc a ha hb
        subst this
        rw [ha] at h1
        rw [hb] at h2
        obtain ⟨x, s⟩ := q
        cases x with
        | normal => exact exec_compat hc b h1 h2
        | _ => simp only [Option.some.injEq] at h1 h2; rw [← h1, ← h2]
  | .cond c a b, st, p, p', h1, h2 => by
    simp only [exec] at h1 h2
    split at h1
    · rename_i hb; rw [hb] at h2; exact exec_compat hc a h1 h2
    · rename_i hb; rw [hb] at h2; exact exec_compat hc b h1 h2
    · cases h1
  | .block id a, st, p, p', h1, h2 => by
    simp only [exec] at h1 h2
    cases ha : exec P X n a st with
    | none => rw [ha] at h1; cases h1
    | some q =>
      cases hb : exec P Y m a st with
      | none => rw [hb] at h2; cases h2
      | some q' =>
        have := exec_compat hc a ha hb
        subst this
        rw [ha] at h1
        rw [hb, h1] at h2
        cases h2; rfl
  | .loop a, st, p, p', h1, h2 => by
    simp only [exec] at h1 h2
    exact iter_compat (fun s q q' g1 g2 => exec_compat hc a g1 g2) h1 h2
  | .scope a, st, p, p', h1, h2 => by
    simp only [exec] at h1 h2
    cases ha : exec P X n a st with
    | none => rw [ha] at h1; cases h1
    | some q =>
      cases hb : exec P Y m a st with
      | none => rw [hb] at h2; cases h2
      | some q' =>
        have := exec_compat hc a ha hb
        subst this
        rw [ha] at h1
        rw [hb, h1] at h2
        cases h2; rfl
  | .rangeFunc .., st, p, p', h1, h2 => by simp [exec] at h1
  | .refuse _, st, p, p', h1, h2 => by simp [exec] at h1
theorem body_compat {P : Program} {X Y : Orc} (hc : Compat X Y) {n m : Nat} {f : FuncId} {ds : List D} {r r' : R} (h1 : body P X n f ds = some r) (h2 : body P Y m f ds = some r') : r = r' := by
  unfold body at h1 h2
  cases hf : P.funcs[f]? with
  | none => rw [hf] at h1; cases h1
  | some fn =>
    rw [hf] at h1 h2
    simp only at h1 h2
    cases hb : fn.body with
    | none => rw [hb] at h1; cases h1
    | some c =>
      rw [hb] at h1 h2
      simp only at h1 h2
      split at h1
      · rename_i hcond
        rw [if_pos hcond] at h2
        cases ha : exec P X n c (initSt fn ds) with
        | none => rw [ha] at h1; cases h1
        | some q =>
          cases hb : exec P Y m c (initSt fn ds) with
          | none => rw [hb] at h2; cases h2
          | some q' =>
            have := exec_compat hc c ha hb
            subst this
            rw [ha] at h1
            rw [hb, h1] at h2
            cases h2; rfl
      · cases h1

abbrev Exts := FuncId → Option (List D → Option R)
/-- What a function comes to. -/
inductive Ev (P : Program) (ext : Exts) : FuncId → List D → R → Prop
  | ext (f : FuncId) (ds : List D) (r : R) (g : List D → Option R) (hg : ext f = some g) (h : g ds = some r) : Ev P ext f ds r
  | body (f : FuncId) (ds : List D) (r : R) (X : Orc) (n : Nat) (hx : ext f = none) (hX : ∀ f' ds' r', X f' ds' = some r' → Ev P ext f' ds' r') (h : Go.Proofs.YtkflfgkmbgjohaaDoor.body P X n f ds = some r) : Ev P ext f ds r
theorem Ev.det {P : Program} {ext : Exts} {f : FuncId} {ds : List D} {r : R} (h : Ev P ext f ds r) : ∀ {r' : R}, Ev P ext f ds r' → r = r' := by
  induction h with
  | ext f ds r g hg h =>
    intro r' h'
    cases h' with
    | ext _ _ _ g' hg' k => rw [hg] at hg'; cases hg'; rw [h] at k; cases k; rfl
    | body _ _ _ X n hx hX k => rw [hg] at hx; cases hx
  | body f ds r X n hx hX h ih =>
    intro r' h'
    cases h' with
    | ext _ _ _ g' hg' k => rw [hx] at hg'; cases hg'
    | body _ _ _ Y m hy hY k => exact body_compat (fun f' ds' a b ha hb => ih f' ds' a ha (hY f' ds' b hb)) h k
theorem Ev.ret {P : Program} {I : World → Prop} {ext : Exts} (hk : ExtOk P I ext) {f : FuncId} {ds : List D} {r : R} (h : Ev P ext f ds r) : Ret P I f ds r := by
  induction h with
  | ext f ds r g hg h => exact hk.ext f g ds r hg h
  | body f ds r X n hx hX h ih => exact body_ret ⟨ih, hk.keep⟩ hk.orders h
theorem Ev.of_eval {P : Program} {ext : Exts} : ∀ {n : Nat} {f : FuncId} {ds : List D} {r : R}, eval P ext n f ds = some r → Ev P ext f ds r
  | 0, f, ds, r, h => by simp [eval] at h
  | n + 1, f, ds, r, h => by
    unfold eval at h
    split at h
    · rename_i g hg; exact .ext f ds r g hg h
    · rename_i hx; exact .body f ds r (eval P ext n) (n + 1) hx (fun f' ds' r' h' => Ev.of_eval h') h
open Classical in
/-- The answer of each function that has one. -/
noncomputable def evr (P : Program) (ext : Exts) : Orc := fun f ds => if h : ∃ r, Ev P ext f ds r then some h.choose else none
theorem evr_iff {P : Program} {ext : Exts} {f : FuncId} {ds : List D} {r : R} : evr P ext f ds = some r ↔ Ev P ext f ds r := by
  unfold evr
  split
  · rename_i h
    constructor
    · intro e; cases e; exact h.choose_spec
    · intro e; rw [h.choose_spec.det e]
  · rename_i h
    constructor
    · intro e; cases e
    · intro e; exact absurd ⟨r, e⟩ h
/-- From a function's text. -/
theorem evr_body {P : Program} {ext : Exts} {f : FuncId} {ds : List D} {r : R} {n : Nat} (hx : ext f = none) (h : body P (evr P ext) n f ds = some r) : evr P ext f ds = some r :=
  evr_iff.2 (.body f ds r _ n hx (fun _ _ _ h' => evr_iff.1 h') h)
theorem evr_ext {P : Program} {ext : Exts} {f : FuncId} {ds : List D} {r : R} {g : List D → Option R} (hg : ext f = some g) (h : g ds = some r) : evr P ext f ds = some r := evr_iff.2 (.ext f ds r g hg h)
theorem evr_eval {P : Program} {ext : Exts} {n : Nat} {f : FuncId} {ds : List D} {r : R} (h : eval P ext n f ds = some r) : evr P ext f ds = some r := evr_iff.2 (.of_eval h)
theorem evr_ret {P : Program} {I : World → Prop} {ext : Exts} (hk : ExtOk P I ext) {f : FuncId} {ds : List D} {r : R} (h : evr P ext f ds = some r) : Ret P I f ds r := (evr_iff.1 h).ret hk
end Go.Proofs.YtkflfgkmbgjohaaDoor
