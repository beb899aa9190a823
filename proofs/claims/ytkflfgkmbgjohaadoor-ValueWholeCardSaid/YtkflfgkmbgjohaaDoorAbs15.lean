/-
  WHAT IS PROVED HERE: regions: operations in a row, and in whatever order their edges leave open.
-/
import Derived.Test.YtkflfgkmbgjohaaDoorAbs14
import Derived.Orders
set_option linter.unusedVariables false
set_option linter.unusedSimpArgs false
namespace Go.Proofs.YtkflfgkmbgjohaaDoor
open Go Go.RowKit

theorem wanted_of {ι : Ix} {S : Sb} {w : World} {ops : Array Oper} {st : St} {a : Act} (ht : RelT ι S w st a) {o : Oper} {b : Bool} (h : wantedA ops st o = some b) : Region.wanted o (yielded ops a.tmps) = b := by
  unfold wantedA at h
  unfold Region.wanted
  split at h
  · rename_i hg
    simp only [Option.some.injEq] at h
    rw [hg]; exact h
  · rename_i j want hg
    rw [hg]
    simp only
    split at h
    · rename_i d hd
      split at h
      · rename_i hlt
        have hv := ht.vals d hlt
        have hget : a.tmps[d]? = some (a.tmps.getD d undef) := by
          rw [Array.getD_eq_getD_getElem?, Array.getElem?_eq_getElem (by rw [ht.size]; exact hlt)]; rfl
        split at h
        · rename_i c hc
          rw [hc] at hv
          unfold VA ValD CellsD at hv
          simp only [List.cons.injEq, and_true] at hv
          simp only [Option.some.injEq] at h
          unfold yielded
          rw [hd]
          simp only [Option.bind_some, hget, hv.1]
          rw [← h]
          cases c <;> cases want <;> rfl
        · rename_i vs hc
          rw [hc] at hv
          unfold VA ValD CellsD at hv
          simp only [List.cons.injEq, and_true] at hv
          simp only [Option.some.injEq] at h
          unfold yielded
          rw [hd]
          simp only [Option.bind_some, hget, hv.1]
          rw [← h]
          cases want <;> rfl
        · cases h
      · cases h
    · cases h
theorem step_wp {P : Program} {I : World → Prop} {X : Orc} (hX : Sound P I X) {E : Env} (hE : EnvOk I E) {ι : Ix} {S : Sb} {w : World} {st : St} {a : Act} {ops : Array Oper} {i : Nat} {o : Oper} (ho : ops[i]? = some o) {e : Eff} (ht : RelT ι S w st a) (hr : RelH E ι S st.h w)
    (he : stepE P X ops o st = some e) {K : Act → World → Prop} {Q : Exit → Act → World → Prop}
    (hK : ∀ ι' S' w' a', RelT ι' S' w' (st.put o.dst e) a' → RelH E ι' S' (st.put o.dst e).h w' → K a' w') : wpOp P ops Q i K a w := by
  unfold stepE at he
  split at he
  · rename_i hd
    unfold wpOp
    rw [ho]
    simp only
    split at he
    · rename_i hw
      rw [if_pos (wanted_of ht hw)]
      exact Or.inl (op_wp hX hE ht hr hd he hK)
    · rename_i hw
      rw [if_neg (by rw [wanted_of ht hw]; simp)]
      simp only [Option.some.injEq] at he
      subst he
      refine hK ι S w _ (RelT_put ht (Mono.refl _ _ _) hd ?_) hr
      show VA _ _ _ (.d (.s undef)) undef
      unfold VA ValD CellsD
      exact ⟨rfl, rfl⟩
    · cases he
  · cases he
theorem ops_wp {P : Program} {I : World → Prop} {X : Orc} (hX : Sound P I X) {E : Env} (hE : EnvOk I E) (ops : Array Oper) {Q : Exit → Act → World → Prop} {st' : St} (hQ : ∀ ι' S' w' a', RelT ι' S' w' st' a' → RelH E ι' S' st'.h w' → Q .normal a' w') :
    ∀ (m k : Nat) (st : St) (ι : Ix) (S : Sb) (w : World) (a : Act), ops.size - k = m → RelT ι S w st a → RelH E ι S st.h w → runOps P X ops (ops.toList.drop k) st = some st' → wpOps P ops Q ((List.range ops.size).drop k) a w
  | 0, k, st, ι, S, w, a, hm, ht, hr, h => by
    rw [List.drop_eq_nil_of_le (by simp; omega)] at h ⊢
    simp only [runOps, Option.some.injEq] at h
    subst h
    exact hQ ι S w a ht hr
  | m + 1, k, st, ι, S, w, a, hm, ht, hr, h => by
    have hk : k < ops.size := by omega
    have e1 : (List.range ops.size).drop k = k :: (List.range ops.size).drop (k + 1) := by
      rw [List.drop_eq_getElem_cons (by simpa using hk)]; simp
    have e2 : ops.toList.drop k = ops[k] :: ops.toList.drop (k + 1) := by
      rw [List.drop_eq_getElem_cons (by simpa using hk)]; simp
    rw [e1, wpOps_cons]
    rw [e2] at h
    unfold runOps stepSt at h
    obtain ⟨st1, h1, h2⟩ := Option.bind_eq_some_iff.1 h
    obtain ⟨e, h3, rfl⟩ := Option.map_eq_some_iff.1 h1
    exact step_wp hX hE (Array.getElem?_eq_getElem hk) ht hr h3 fun ι' S' w' a' ht' hr' => ops_wp hX hE ops hQ m (k + 1) _ ι' S' w' a' (by omega) ht' hr' h2

/-! ### whatever order -/
def effD : Eff := { v := .any }
def putK (ops : Array Oper) (es : List Eff) (k : Nat) (st : St) : St := st.put ((ops[k]?).bind (·.dst)) (es.getD k effD)
/-- The state behind those operations that X names, in the order of the text. -/
def acc (ops : Array Oper) (es : List Eff) (st : St) (Y : Nat → Bool) : Nat → St
  | 0 => st
  | k + 1 => if Y k then putK ops es k (acc ops es st Y k) else acc ops es st Y k
theorem acc_congr {ops : Array Oper} {es : List Eff} {st : St} {Y Z : Nat → Bool} : ∀ {n : Nat}, (∀ k, k < n → Y k = Z k) → acc ops es st Y n = acc ops es st Z n
  | 0, _ => rfl
  | n + 1, h => by
    unfold acc
    rw [acc_congr fun k hk => h k (by omega), h n (by omega)]
theorem acc_n {ops : Array Oper} {es : List Eff} {st : St} {Y : Nat → Bool} : ∀ n, (acc ops es st Y n).n = st.n ∧ (acc ops es st Y n).fb = st.fb
  | 0 => ⟨rfl, rfl⟩
  | n + 1 => by
    unfold acc
    split
    · exact acc_n n
    · exact acc_n n
theorem upds_key {α : Type} : ∀ (l : List (Nat × α)) (T U : Nat → α) (i : Nat), (l.any fun p => p.1 == i) = true → upds T l i = upds U l i
  | [], T, U, i, h => by simp at h
  | (j, v) :: l, T, U, i, h => by
    show upds (upd T j v) l i = upds (upd U j v) l i
    by_cases hl : (l.any fun p => p.1 == i) = true
    · exact upds_key l _ _ i hl
    · have hj : j = i := by
        simp only [List.any_cons, Bool.or_eq_true, beq_iff_eq] at h
        rcases h with h | h
        · exact h
        · exact absurd h hl
      subst hj
      have off : ∀ (l : List (Nat × α)) (T : Nat → α), ¬ (l.any fun p => p.1 == j) = true → upds T l j = T j := by
        intro l
        induction l with
        | nil => intros; rfl
        | cons p l ih =>
          intro T hp
          obtain ⟨k, u⟩ := p
          simp only [List.any_cons, Bool.or_eq_true, beq_iff_eq, not_or] at hp
          show upds (upd T k u) l j = T j
          rw [ih _ hp.2]
          unfold upd
          rw [if_neg (fun e => hp.1 e.symm)]
      rw [off l _ hl, off l _ hl]
      simp [upd]
theorem upds_off {α : Type} : ∀ (l : List (Nat × α)) (T : Nat → α) (i : Nat), (l.any fun p => p.1 == i) = false → upds T l i = T i
  | [], T, i, h => rfl
  | (j, v) :: l, T, i, h => by
    simp only [List.any_cons, Bool.or_eq_false_iff, beq_eq_false_iff_ne, ne_eq] at h
    show upds (upd T j v) l i = T i
    rw [upds_off l _ i h.2]
    unfold upd
    rw [if_neg (fun e => h.1 e.symm)]
/-- Does operation k write slot t; does it write object i? -/
def wrT (ops : Array Oper) (k t : Nat) : Bool := (ops[k]?).bind (·.dst) == some t
def wrH (es : List Eff) (k i : Nat) : Bool := (es.getD k effD).wr.any fun p => p.1 == i
theorem putK_t {ops : Array Oper} {es : List Eff} {k t : Nat} {s s' : St} (h : wrT ops k t = true ∨ s.t t = s'.t t) : (putK ops es k s).t t = (putK ops es k s').t t := by
  unfold putK St.put wrT at *
  cases hd : (ops[k]?).bind (·.dst) with
  | none =>
    rw [hd] at h
    simp only
    rcases h with h | h
    · cases h
    · exact h
  | some d =>
    rw [hd] at h
    simp only
    unfold upd
    split
    · rfl
    · rename_i hne
      rcases h with h | h
      · simp at h; exact absurd h.symm hne
      · exact h
theorem putK_t_off {ops : Array Oper} {es : List Eff} {k t : Nat} {s : St} (h : wrT ops k t = false) : (putK ops es k s).t t = s.t t := by
  unfold putK St.put wrT at *
  cases hd : (ops[k]?).bind (·.dst) with
  | none => rfl
  | some d =>
    rw [hd] at h
    simp only [beq_eq_false_iff_ne, ne_eq, Option.some.injEq] at h
    simp only
    unfold upd
    rw [if_neg (fun e => h e.symm)]
theorem putK_h {ops : Array Oper} {es : List Eff} {k i : Nat} {s s' : St} (h : wrH es k i = true ∨ s.h i = s'.h i) : (putK ops es k s).h i = (putK ops es k s').h i := by
  show upds s.h (es.getD k effD).wr i = upds s'.h (es.getD k effD).wr i
  by_cases hw : wrH es k i = true
  · exact upds_key _ _ _ _ hw
  · rcases h with h | h
    · exact absurd h hw
    · have hw' : ((es.getD k effD).wr.any fun p => p.1 == i) = false := by rw [← Bool.not_eq_true]; exact hw
      rw [upds_off _ _ _ hw', upds_off _ _ _ hw', h]
theorem putK_h_off {ops : Array Oper} {es : List Eff} {k i : Nat} {s : St} (h : wrH es k i = false) : (putK ops es k s).h i = s.h i := upds_off _ _ _ h
theorem acc_t {ops : Array Oper} {es : List Eff} {st : St} {Y Z : Nat → Bool} {t : Nat} : ∀ n, (∀ k, k < n → wrT ops k t = true → Y k = Z k) → (acc ops es st Y n).t t = (acc ops es st Z n).t t
  | 0, _ => rfl
  | n + 1, h => by
    have ih := acc_t (ops := ops) (es := es) (st := st) n fun k hk => h k (by omega)
    unfold acc
    by_cases hw : wrT ops n t = true
    · rw [h n (by omega) hw]
      split
      · exact putK_t (Or.inl hw)
      · exact ih
    · have hw' : wrT ops n t = false := by simpa using hw
      split <;> split <;> simp only [putK_t_off hw', ih]
theorem acc_h {ops : Array Oper} {es : List Eff} {st : St} {Y Z : Nat → Bool} {i : Nat} : ∀ n, (∀ k, k < n → wrH es k i = true → Y k = Z k) → (acc ops es st Y n).h i = (acc ops es st Z n).h i
  | 0, _ => rfl
  | n + 1, h => by
    have ih := acc_h (ops := ops) (es := es) (st := st) n fun k hk => h k (by omega)
    unfold acc
    by_cases hw : wrH es n i = true
    · rw [h n (by omega) hw]
      split
      · exact putK_h (Or.inl hw)
      · exact ih
    · have hw' : wrH es n i = false := by simpa using hw
      split <;> split <;> simp only [putK_h_off hw', ih]
theorem acc_stop {ops : Array Oper} {es : List Eff} {st : St} {k : Nat} : ∀ n, k ≤ n → acc ops es st (fun j => decide (j < k)) n = acc ops es st (fun _ => true) k
  | 0, h => by
    have : k = 0 := by omega
    subst this; rfl
  | n + 1, h => by
    by_cases hk : k = n + 1
    · subst hk
      exact acc_congr fun j hj => by simp [hj]
    · rw [acc, if_neg (by simp; omega)]
      exact acc_stop n (by omega)
theorem runTr_acc {P : Program} {X : Orc} {ops : Array Oper} {st : St} : ∀ (m k : Nat) (pre es' : List Eff) (s st' : St), pre.length = k → ops.size - k = m → k ≤ ops.size → acc ops (pre ++ es') st (fun _ => true) k = s → runTr P X ops (ops.toList.drop k) s = some (st', es') →
    (pre ++ es').length = ops.size ∧ (∀ j, k ≤ j → ∀ o, ops[j]? = some o → stepE P X ops o (acc ops (pre ++ es') st (fun _ => true) j) = some ((pre ++ es').getD j effD)) ∧ st' = acc ops (pre ++ es') st (fun _ => true) ops.size
  | 0, k, pre, es', s, st', hp, hm, hle, hs, h => by
    have hk : k = ops.size := by omega
    rw [List.drop_eq_nil_of_le (by simp; omega)] at h
    simp only [runTr, Option.some.injEq, Prod.mk.injEq] at h
    obtain ⟨rfl, rfl⟩ := h
    refine ⟨by simp; omega, fun j hj o ho => ?_, by rw [← hk]; exact hs.symm⟩
    rw [Array.getElem?_eq_none (by omega)] at ho
    cases ho
  | m + 1, k, pre, es', s, st', hp, hm, hle, hs, h => by
    have hk : k < ops.size := by omega
    have e2 : ops.toList.drop k = ops[k] :: ops.toList.drop (k + 1) := by
      rw [List.drop_eq_getElem_cons (by simpa using hk)]; simp
    rw [e2] at h
    unfold runTr at h
    split at h
    · cases h
    · rename_i e he
      split at h
      · cases h
      · rename_i st2 es2 h2
        simp only [Option.some.injEq, Prod.mk.injEq] at h
        obtain ⟨rfl, rfl⟩ := h
        have ea : pre ++ e :: es2 = (pre ++ [e]) ++ es2 := by simp
        have hget : (pre ++ e :: es2).getD k effD = e := by simp [List.getD, ← hp]
        have hacc : acc ops ((pre ++ [e]) ++ es2) st (fun _ => true) (k + 1) = s.put ops[k].dst e := by
          rw [← ea, acc, if_pos rfl, hs]
          unfold putK
          rw [hget, Array.getElem?_eq_getElem hk]; rfl
        obtain ⟨g1, g2, g3⟩ := runTr_acc m (k + 1) (pre ++ [e]) es2 _ st2 (by simp [hp]) (by omega) (by omega) hacc h2
        rw [← ea] at g1 g2 g3
        refine ⟨g1, fun j hj o ho => ?_, g3⟩
        by_cases hjk : j = k
        · subst hjk
          rw [Array.getElem?_eq_getElem hk, Option.some.injEq] at ho
          subst ho
          rw [hs, hget]; exact he
        · exact g2 j (by omega) o ho

theorem stepE_loc {P : Program} {X : Orc} {ops : Array Oper} {o : Oper} {s s' : St} {e : Eff} (h : stepE P X ops o s = some e) (hn : s'.n = s.n) (hf : s'.fb = s.fb) (ht : ∀ t ∈ o.looksAt ops, s'.t t = s.t t) (he : ∀ i ∈ e.rd, s'.h i = s.h i) : stepE P X ops o s' = some e := by
  unfold stepE at h ⊢
  rw [hn]
  split at h
  · rename_i hd
    rw [if_pos hd]
    have hw : wantedA ops s' o = wantedA ops s o := by
      unfold wantedA
      split
      · rfl
      · rename_i j want hg
        cases hdj : (ops[j]?).bind (·.dst) with
        | none => rfl
        | some d =>
          simp only [hn]
          rw [ht d (List.mem_append_right _ (by simp [hg, hdj]))]
    rw [hw]
    split at h
    · rename_i hw'
      rw [hf]
      refine opE_loc h (fun x hx => ?_) he
      cases x with
      | tmp t =>
        show (if t < s'.n then s'.t t else _) = if t < s.n then s.t t else _
        rw [hn, ht t (List.mem_append_left _ (List.mem_filterMap.2 ⟨.tmp t, by simpa using hx, rfl⟩))]
      | const v => rfl
      | global g => rfl
      | func f => rfl
    · exact h
    · cases h
  · cases h

def Closed (ops : Array Oper) (Y : Nat → Bool) : Prop := ∀ (j : Nat) (o : Oper), Y j = true → ops[j]? = some o → ∀ e ∈ o.after, Region.binds .any e = true → Y e.on = true
theorem reach_closed {ops : Array Oper} {Y : Nat → Bool} (hc : Closed ops Y) : ∀ (n i j : Nat), reach ops n i j = true → (∀ o, ops[j]? = some o → ∀ e ∈ o.after, Region.binds .any e = true → Y e.on = true) → Y i = true
  | 0, i, j, h, _ => by simp [reach] at h
  | n + 1, i, j, h, hj => by
    unfold reach at h
    split at h
    · cases h
    · rename_i o ho
      simp only [Bool.or_eq_true] at h
      rcases h with h | h
      · obtain ⟨e, he, h'⟩ := Array.any_eq_true'.1 h
        simp only [Bool.and_eq_true, beq_iff_eq] at h'
        have hy := hj o ho e he h'.1
        rw [← h'.2]; exact hy
      · obtain ⟨e, he, h'⟩ := Array.any_eq_true'.1 h
        simp only [Bool.and_eq_true] at h'
        have hy := hj o ho e he h'.1
        exact reach_closed hc n i e.on h'.2.2 (fun o' ho' e' he' hb' => hc e.on o' hy ho' e' he' hb')
theorem apart_symm {ops : Array Oper} {x y : Oper} (h : Oper.apart ops x y = true) : (∀ d, x.dst = some d → d ∉ y.looksAt ops) ∧ (∀ d, y.dst = some d → d ∉ x.looksAt ops) ∧ (∀ d, x.dst = some d → y.dst ≠ some d) :=
  ⟨(Oper.apart_spec h).1, (Oper.apart_spec h).2.2, (Oper.apart_spec h).2.1⟩
theorem race_pair {ops : Array Oper} {es : List Eff} (hrf : raceFree ops es = true) {i j : Nat} (hij : i < j) {x y : Oper} (hx : ops[i]? = some x) (hy : ops[j]? = some y) (hl : es.length = ops.size) : (Oper.apart ops x y = true ∧ objConf (es.getD i effD) (es.getD j effD) = false) ∨ reach ops ops.size i j = true := by
  have hj : j < ops.size := (Array.getElem?_eq_some_iff.1 hy).1
  have h1 := List.all_eq_true.1 hrf j (by simpa using hj)
  simp only [Bool.and_eq_true] at h1
  have h2 := List.all_eq_true.1 h1.2 i (by simpa using hij)
  have e1 : es[i]? = some (es.getD i effD) := by rw [List.getD_eq_getElem?_getD, List.getElem?_eq_getElem (by omega)]; rfl
  have e2 : es[j]? = some (es.getD j effD) := by rw [List.getD_eq_getElem?_getD, List.getElem?_eq_getElem (by omega)]; rfl
  rw [hx, hy, e1, e2] at h2
  simp only [Bool.or_eq_true, Bool.and_eq_true, Bool.not_eq_true'] at h2
  exact h2
theorem race_edge {ops : Array Oper} {es : List Eff} (hrf : raceFree ops es = true) {j : Nat} {y : Oper} (hy : ops[j]? = some y) : ∀ e ∈ y.after, Region.binds .any e = true → e.on < j := by
  have hj : j < ops.size := (Array.getElem?_eq_some_iff.1 hy).1
  have h1 := List.all_eq_true.1 hrf j (by simpa using hj)
  simp only [Bool.and_eq_true, hy] at h1
  intro e he hb
  have := Array.all_eq_true_iff_forall_mem.1 h1.1 e he
  simp only [hb, Bool.not_true, Bool.false_or, decide_eq_true_eq] at this
  exact this
/-- Those that meet an operation that may come up: the ones ahead of it are done, the ones behind it are not. -/
theorem race_order {ops : Array Oper} {es : List Eff} (hrf : raceFree ops es = true) (hl : es.length = ops.size) {Y : Nat → Bool} (hc : Closed ops Y) {i : Nat} {x : Oper} (hx : ops[i]? = some x) (hYi : Y i = false) (hready : ∀ e ∈ x.after, Region.binds .any e = true → Y e.on = true)
    {k : Nat} {y : Oper} (hy : ops[k]? = some y) (hne : k ≠ i) (hconf : Oper.apart ops x y = false ∨ Oper.apart ops y x = false ∨ objConf (es.getD i effD) (es.getD k effD) = true ∨ objConf (es.getD k effD) (es.getD i effD) = true) : Y k = decide (k < i) := by
  have apc : Oper.apart ops x y = Oper.apart ops y x := by
    unfold Oper.apart
    cases hdx : x.dst with
    | none => cases hdy : y.dst <;> simp
    | some d => cases hdy : y.dst with
      | none => simp
      | some d' => simp only [Bool.and_comm, Bool.and_assoc, Bool.and_left_comm]; by_cases e : d = d' <;> simp [e, Ne.symm, Bool.and_comm, bne_comm]
  have obc : objConf (es.getD i effD) (es.getD k effD) = objConf (es.getD k effD) (es.getD i effD) := by
    rw [Bool.eq_iff_iff]
    unfold objConf
    simp only [Bool.or_eq_true, List.any_eq_true, List.contains_iff_mem, beq_iff_eq]
    constructor
    · rintro (⟨p, hp, h | ⟨q, hq, h⟩⟩ | ⟨p, hp, h⟩)
      · exact Or.inr ⟨p, hp, h⟩
      · exact Or.inl ⟨q, hq, Or.inr ⟨p, hp, h.symm⟩⟩
      · exact Or.inl ⟨p, hp, Or.inl h⟩
    · rintro (⟨p, hp, h | ⟨q, hq, h⟩⟩ | ⟨p, hp, h⟩)
      · exact Or.inr ⟨p, hp, h⟩
      · exact Or.inl ⟨q, hq, Or.inr ⟨p, hp, h.symm⟩⟩
      · exact Or.inl ⟨p, hp, Or.inl h⟩
  have hconf' : ¬ (Oper.apart ops x y = true ∧ objConf (es.getD i effD) (es.getD k effD) = false) := by
    rintro ⟨h1, h2⟩
    rcases hconf with h | h | h | h
    · rw [h1] at h; cases h
    · rw [← apc, h1] at h; cases h
    · rw [h2] at h; cases h
    · rw [← obc, h2] at h; cases h
  rcases Nat.lt_or_gt_of_ne hne with hlt | hgt
  · rw [decide_eq_true hlt]
    rcases race_pair hrf hlt hy hx hl with h | h
    · rw [← apc, ← obc] at h; exact absurd h hconf'
    · exact reach_closed hc _ k i h (fun o ho e he hb => by rw [hx] at ho; cases ho; exact hready e he hb)
  · have hd : decide (k < i) = false := by simp; omega
    rw [hd]
    rcases race_pair hrf hgt hx hy hl with h | h
    · exact absurd h hconf'
    · cases hk : Y k with
      | false => rfl
      | true =>
        have := reach_closed hc _ i k h (fun o ho e he hb => hc k o hk ho e he hb)
        rw [hYi] at this; cases this

theorem looks_wr {ops : Array Oper} {k : Nat} {y : Oper} (hy : ops[k]? = some y) {t : Nat} (h : wrT ops k t = true) : y.dst = some t := by
  unfold wrT at h
  rw [hy] at h
  simpa using h
/-- What operation i reads is what it read in the order of the text; and what it does is put where it belongs. -/
theorem draw_step {P : Program} {X : Orc} {ops : Array Oper} {es : List Eff} {st : St} (hl : es.length = ops.size) (hrf : raceFree ops es = true) (hstep : ∀ j o, ops[j]? = some o → stepE P X ops o (acc ops es st (fun _ => true) j) = some (es.getD j effD))
    {Y : Nat → Bool} (hc : Closed ops Y) {i : Nat} {x : Oper} (hx : ops[i]? = some x) (hYi : Y i = false) (hready : ∀ e ∈ x.after, Region.binds .any e = true → Y e.on = true) :
    stepE P X ops x (acc ops es st Y ops.size) = some (es.getD i effD) ∧ (acc ops es st Y ops.size).put x.dst (es.getD i effD) = acc ops es st (fun k => if k = i then true else Y k) ops.size := by
  have hi : i < ops.size := (Array.getElem?_eq_some_iff.1 hx).1
  have hpre := acc_stop (ops := ops) (es := es) (st := st) (k := i) ops.size (by omega)
  have ord : ∀ k y, ops[k]? = some y → k ≠ i → (Oper.apart ops x y = false ∨ Oper.apart ops y x = false ∨ objConf (es.getD i effD) (es.getD k effD) = true ∨ objConf (es.getD k effD) (es.getD i effD) = true) → Y k = decide (k < i) := fun k y hy hne hcf => race_order hrf hl hc hx hYi hready hy hne hcf
  have hk : ∀ k, k < ops.size → ∃ y, ops[k]? = some y := fun k hk => ⟨ops[k], Array.getElem?_eq_getElem hk⟩
  constructor
  · refine stepE_loc (hstep i x hx) ?_ ?_ (fun t ht => ?_) (fun j hj => ?_)
    · rw [(acc_n _).1, (acc_n _).1]
    · rw [(acc_n _).2, (acc_n _).2]
    · rw [← hpre]
      refine acc_t _ fun k hk' hw => ?_
      obtain ⟨y, hy⟩ := hk k hk'
      have hdy := looks_wr hy hw
      by_cases hne : k = i
      · subst hne; rw [hYi]; simp
      · refine ord k y hy hne (Or.inr (Or.inl ?_))
        cases hap : Oper.apart ops y x with
        | false => rfl
        | true => exact absurd ht ((apart_symm hap).1 t hdy)
    · rw [← hpre]
      refine acc_h _ fun k hk' hw => ?_
      obtain ⟨y, hy⟩ := hk k hk'
      by_cases hne : k = i
      · subst hne; rw [hYi]; simp
      · refine ord k y hy hne (Or.inr (Or.inr (Or.inr ?_)))
        unfold objConf
        simp only [Bool.or_eq_true, List.any_eq_true, List.contains_iff_mem, beq_iff_eq]
        obtain ⟨p, hp, hpe⟩ := List.any_eq_true.1 hw
        simp only [beq_iff_eq] at hpe
        exact Or.inl ⟨p, hp, Or.inl (by rw [hpe]; exact hj)⟩
  · have hput : (acc ops es st Y ops.size).put x.dst (es.getD i effD) = putK ops es i (acc ops es st Y ops.size) := by
      unfold putK; rw [hx]; rfl
    rw [hput]
    have hsucc : acc ops es st (fun j => decide (j < i + 1)) ops.size = putK ops es i (acc ops es st (fun _ => true) i) := by
      rw [acc_stop (k := i + 1) ops.size (by omega)]; rfl
    have e_t : ∀ t, (putK ops es i (acc ops es st Y ops.size)).t t = (acc ops es st (fun k => if k = i then true else Y k) ops.size).t t := fun t => by
      by_cases hw : wrT ops i t = true
      · have h1 : (acc ops es st (fun k => if k = i then true else Y k) ops.size).t t = (acc ops es st (fun j => decide (j < i + 1)) ops.size).t t := acc_t _ fun k hk' hwk => by
          obtain ⟨y, hy⟩ := hk k hk'
          by_cases hne : k = i
          · subst hne; simp
          · rw [if_neg hne, ord k y hy hne (Or.inl ?_)]
            · by_cases hlt : k < i
              · simp [hlt]; omega
              · simp [hlt]; omega
            · cases hap : Oper.apart ops x y with
              | false => rfl
              | true => exact absurd (looks_wr hy hwk) ((apart_symm hap).2.2 t (looks_wr hx hw))
        rw [h1, hsucc]
        exact putK_t (Or.inl hw)
      · have hw' : wrT ops i t = false := by simpa using hw
        rw [putK_t_off hw']
        exact acc_t _ fun k _ hwk => by
          by_cases hne : k = i
          · subst hne; rw [hw'] at hwk; cases hwk
          · rw [if_neg hne]
    have e_h : ∀ t, (putK ops es i (acc ops es st Y ops.size)).h t = (acc ops es st (fun k => if k = i then true else Y k) ops.size).h t := fun t => by
      by_cases hw : wrH es i t = true
      · have h1 : (acc ops es st (fun k => if k = i then true else Y k) ops.size).h t = (acc ops es st (fun j => decide (j < i + 1)) ops.size).h t := acc_h _ fun k hk' hwk => by
          obtain ⟨y, hy⟩ := hk k hk'
          by_cases hne : k = i
          · subst hne; simp
          · rw [if_neg hne, ord k y hy hne (Or.inr (Or.inr (Or.inl ?_)))]
            · by_cases hlt : k < i
              · simp [hlt]; omega
              · simp [hlt]; omega
            · unfold objConf
              simp only [Bool.or_eq_true, List.any_eq_true, List.contains_iff_mem, beq_iff_eq]
              obtain ⟨p, hp, hpe⟩ := List.any_eq_true.1 hw
              obtain ⟨q, hq, hqe⟩ := List.any_eq_true.1 hwk
              simp only [beq_iff_eq] at hpe hqe
              exact Or.inl ⟨p, hp, Or.inr ⟨q, hq, by rw [hqe, hpe]⟩⟩
        rw [h1, hsucc]
        exact putK_h (Or.inl hw)
      · have hw' : wrH es i t = false := by simpa using hw
        rw [putK_h_off hw']
        exact acc_h _ fun k _ hwk => by
          by_cases hne : k = i
          · subst hne; rw [hw'] at hwk; cases hwk
          · rw [if_neg hne]
    have en : (putK ops es i (acc ops es st Y ops.size)).n = (acc ops es st (fun k => if k = i then true else Y k) ops.size).n := by
      show (acc ops es st Y ops.size).n = _
      rw [(acc_n _).1, (acc_n _).1]
    have ef : (putK ops es i (acc ops es st Y ops.size)).fb = (acc ops es st (fun k => if k = i then true else Y k) ops.size).fb := by
      show (acc ops es st Y ops.size).fb = _
      rw [(acc_n _).2, (acc_n _).2]
    cases h1 : putK ops es i (acc ops es st Y ops.size) with
    | mk n1 f1 t1 h1' =>
      cases h2 : acc ops es st (fun k => if k = i then true else Y k) ops.size with
      | mk n2 f2 t2 h2' =>
        rw [h1, h2] at en ef e_t e_h
        simp only at en ef e_t e_h
        rw [en, ef, funext e_t, funext e_h]
theorem draw_wp {P : Program} {I : World → Prop} {X : Orc} (hX : Sound P I X) {E : Env} (hE : EnvOk I E) {ops : Array Oper} {es : List Eff} {st st' : St} (hl : es.length = ops.size) (hrf : raceFree ops es = true) (hstep : ∀ j o, ops[j]? = some o → stepE P X ops o (acc ops es st (fun _ => true) j) = some (es.getD j effD))
    (hst' : st' = acc ops es st (fun _ => true) ops.size) {Q : Exit → Act → World → Prop} (hQ : ∀ ι' S' w' a', RelT ι' S' w' st' a' → RelH E ι' S' st'.h w' → Q .normal a' w') :
    ∀ (fuel : Nat) (listed : Array Bool) (ι : Ix) (S : Sb) (w : World) (a : Act), listed.size = ops.size → ((List.range ops.size).filter fun k => !listed.getD k false).length = fuel → Closed ops (fun k => listed.getD k false) →
      RelT ι S w (acc ops es st (fun k => listed.getD k false) ops.size) a → RelH E ι S (acc ops es st (fun k => listed.getD k false) ops.size).h w → wpAny P .any ops Q fuel listed a w := by
  intro fuel
  have done : ∀ (listed : Array Bool) (ι : Ix) (S : Sb) (w : World) (a : Act), listed.size = ops.size → Region.ready .any ops listed = [] → RelT ι S w (acc ops es st (fun k => listed.getD k false) ops.size) a → RelH E ι S (acc ops es st (fun k => listed.getD k false) ops.size).h w → Q .normal a w := by
    intro listed ι S w a hsz hrd ht hr
    have all : ∀ k, k < ops.size → listed.getD k false = true := by
      intro k
      induction k using Nat.strongRecOn with
      | _ k ih =>
        intro hk
        cases hv : listed.getD k false with
        | true => rfl
        | false =>
          have : k ∈ Region.ready .any ops listed := mem_ready.2 ⟨by
            rw [Array.getD_eq_getD_getElem?] at hv ⊢
            rw [Array.getElem?_eq_getElem (by omega)] at hv ⊢
            exact hv, ops[k], Array.getElem?_eq_getElem hk, fun e he hb => ih e.on (race_edge hrf (Array.getElem?_eq_getElem hk) e he hb) (by have := race_edge hrf (Array.getElem?_eq_getElem hk) e he hb; omega)⟩
          rw [hrd] at this
          simp at this
    have e : acc ops es st (fun k => listed.getD k false) ops.size = st' := by
      rw [hst']
      exact acc_congr fun k hk => all k hk
    rw [e] at ht hr
    exact hQ ι S w a ht hr
  induction fuel with
  | zero =>
    intro listed ι S w a hsz hcnt hc ht hr
    have hrd : Region.ready .any ops listed = [] := by
      apply List.eq_nil_iff_forall_not_mem.2
      intro j hj
      obtain ⟨h1, o, ho, _⟩ := mem_ready.1 hj
      have hj' : j < ops.size := (Array.getElem?_eq_some_iff.1 ho).1
      have : j ∈ (List.range ops.size).filter fun k => !listed.getD k false := by
        rw [List.mem_filter]
        refine ⟨by simpa using hj', ?_⟩
        rw [Array.getD_eq_getD_getElem?] at h1 ⊢
        rw [Array.getElem?_eq_getElem (by omega)] at h1 ⊢
        simpa using h1
      rw [List.length_eq_zero_iff.1 hcnt] at this
      simp at this
    exact ⟨hrd, done listed ι S w a hsz hrd ht hr⟩
  | succ fuel ih =>
    intro listed ι S w a hsz hcnt hc ht hr
    refine ⟨fun hrd => done listed ι S w a hsz hrd ht hr, fun i hi => ?_⟩
    obtain ⟨h1, x, hx, hready⟩ := mem_ready.1 hi
    have hi' : i < ops.size := (Array.getElem?_eq_some_iff.1 hx).1
    have hYi : listed.getD i false = false := by
      rw [Array.getD_eq_getD_getElem?] at h1 ⊢
      rw [Array.getElem?_eq_getElem (by omega)] at h1 ⊢
      exact h1
    obtain ⟨hs, hp⟩ := draw_step hl hrf hstep hc hx hYi hready
    refine step_wp hX hE hx ht hr hs fun ι' S' w' a' ht' hr' => ?_
    rw [hp] at ht' hr'
    have hset : ∀ k, (listed.setIfInBounds i true).getD k false = if k = i then true else listed.getD k false := fun k => by
      rw [Array.getD_eq_getD_getElem?, Array.getElem?_setIfInBounds]
      by_cases e : i = k
      · subst e; rw [if_pos rfl, if_pos (by omega), if_pos rfl]; rfl
      · rw [if_neg e, if_neg (fun h => e h.symm), ← Array.getD_eq_getD_getElem?]
    have hfun : (fun k => (listed.setIfInBounds i true).getD k false) = fun k => if k = i then true else listed.getD k false := funext hset
    refine ih (listed.setIfInBounds i true) ι' S' w' a' (by simpa using hsz) ?_ ?_ (by rw [hfun]; exact ht') (by rw [hfun]; exact hr')
    · have : ((List.range ops.size).filter fun k => !(listed.setIfInBounds i true).getD k false) = ((List.range ops.size).filter fun k => !listed.getD k false).erase i := by
        rw [List.Nodup.erase_eq_filter (List.Pairwise.filter _ List.nodup_range), List.filter_filter]
        apply List.filter_congr
        intro k _
        rw [hset]
        by_cases e : k = i
        · simp [e]
        · simp [e, bne_iff_ne]
      rw [this, List.length_erase_of_mem, hcnt]
      · omega
      · rw [List.mem_filter]; exact ⟨by simpa using hi', by rw [hYi]; rfl⟩
    · intro j o hj ho e he hb
      have hj2 : (if j = i then true else listed.getD j false) = true := by rw [← hset]; exact hj
      show (listed.setIfInBounds i true).getD e.on false = true
      rw [hset]
      by_cases e1 : e.on = i
      · rw [if_pos e1]
      · rw [if_neg e1]
        by_cases e2 : j = i
        · subst e2
          rw [hx] at ho
          cases ho
          exact hready e he hb
        · rw [if_neg e2] at hj2
          exact hc j o hj2 ho e he hb
end Go.Proofs.YtkflfgkmbgjohaaDoor
