/-
  WHAT IS PROVED HERE: what the interpreter says of operations that read, or make a variable, or write one, is what the model does.
-/
import Derived.Test.YtkflfgkmbgjohaaDoorAbs2
set_option linter.unusedVariables false
set_option linter.unusedSimpArgs false
namespace Go.Proofs.YtkflfgkmbgjohaaDoor
open Go Go.RowKit

theorem pureRun_run {P : Program} {α : Type} {e : Sem α} {a : α} (h : pureRun P e = some a) (w : World) : e.run P w = .ok a w := by
  induction e with
  | pure b => simp only [pureRun, Option.some.injEq] at h; subst h; rfl
  | program k ih => exact ih P h
  | _ => simp [pureRun] at h

section
variable {P : Program} {w : World} {t : TypeId}
theorem run_info {i : TypeInfo} (h : P.info? t = some i) : (typeInfo t).run P w = .ok i w := by
  simp only [typeInfo, Sem.run_bind, program, Sem.run, Result.andThen, h]; rfl
theorem run_size {n : Nat} (h : tsize P t = some n) : (sizeOf t).run P w = .ok n w := by
  obtain ⟨i, hi, rfl⟩ := Option.map_eq_some_iff.1 h
  simp only [sizeOf, Sem.run_bind, run_info hi, Result.andThen]; rfl
theorem run_zero {z : Value} (h : tzero P t = some z) : (zeroValue t).run P w = .ok z w := by
  obtain ⟨i, hi, hz⟩ := Option.bind_eq_some_iff.1 h
  simp only [zeroValue, Sem.run_bind, run_info hi, Result.andThen, hz]; rfl
theorem run_under {d : TypeDesc} (h : P.underlying t = some d) : (underlying t).run P w = .ok d w := by
  simp only [underlying, Sem.run_bind, program, Sem.run, Result.andThen, h]; rfl
theorem run_agg {b : Bool} (h : tagg P t = some b) : (isAgg t).run P w = .ok b w := by
  unfold tagg at h
  cases hu : P.underlying t with
  | none => rw [hu] at h; simp at h
  | some d =>
    simp only [isAgg, Sem.run_bind, run_under hu, Result.andThen]
    rw [hu] at h
    cases d <;> simp_all <;> subst h <;> rfl
end

structure RelT (ι : Ix) (S : Sb) (w : World) (st : St) (a : Act) : Prop where
  size : a.tmps.size = st.n
  defers : a.defers = []
  vals : ∀ i, i < st.n → VA ι S w (st.t i) (a.tmps.getD i undef)

theorem VA_ofCell (ι : Ix) (S : Sb) (w : World) (v : Value) : VA ι S w (ofCell v) v := by
  unfold ofCell
  split
  · unfold VA; exact ⟨none, rfl, Or.inl rfl⟩
  · unfold VA; trivial
  · unfold VA ValD CellsD
    refine ⟨rfl, ?_⟩
    cases v <;> first | rfl | simp_all
theorem VL_ofCell (ι : Ix) (S : Sb) (w : World) : ∀ l : List Value, VL ι S w (l.map ofCell) l
  | [] => by unfold VL; rfl
  | v :: l => by
    simp only [List.map_cons]
    unfold VL
    exact ⟨v, l, rfl, VA_ofCell ι S w v, VL_ofCell ι S w l⟩
theorem allD_spec {ι : Ix} {S : Sb} {w : World} : ∀ {l : List A} {ds : List D} {us : List Value}, A.allD l = some ds → VL ι S w l us → CellsL S w ds us
  | [], ds, us, h, hv => by
    simp only [A.allD, Option.some.injEq] at h
    subst h
    unfold VL at hv
    unfold CellsL; exact hv
  | a :: l, ds, us, h, hv => by
    unfold VL at hv
    obtain ⟨u, us', rfl, h1, h2⟩ := hv
    cases a with
    | d x =>
      cases x with
      | agg ys => simp [A.allD] at h
      | s v =>
        simp only [A.allD, Option.map_eq_some_iff] at h
        obtain ⟨ds', h3, rfl⟩ := h
        unfold VA at h1
        unfold CellsL
        exact ⟨u, us', rfl, ⟨rfl, h1⟩, allD_spec h3 h2⟩
      | lst ys =>
        simp only [A.allD, Option.map_eq_some_iff] at h
        obtain ⟨ds', h3, rfl⟩ := h
        unfold VA at h1
        unfold CellsL
        exact ⟨u, us', rfl, ⟨rfl, h1⟩, allD_spec h3 h2⟩
    | _ => simp [A.allD] at h
theorem VA_mk {ι : Ix} {S : Sb} {w : World} {l : List A} {us : List Value} (h : VL ι S w l us) : VA ι S w (A.mk l) (.agg us.toArray) := by
  unfold A.mk
  split
  · rename_i ds hd
    unfold VA ValD
    exact ⟨us.toArray, rfl, by simpa using allD_spec hd h⟩
  · unfold VA
    exact ⟨us.toArray, rfl, by simpa using h⟩
theorem VA_ofV (ι : Ix) (S : Sb) (w : World) (v : Value) : VA ι S w (ofV v) v := by
  unfold ofV
  split
  · rename_i cs
    simpa using VA_mk (VL_ofCell ι S w cs.toList)
  · rename_i vs
    unfold VA
    exact ⟨vs, rfl, VL_ofCell ι S w _⟩
  · exact VA_ofCell ι S w v
/-- The value's cells are the data's. -/
theorem VL_mapd {ι : Ix} {S : Sb} {w : World} : ∀ {xs : List D} {us : List Value}, CellsL S w xs us → VL ι S w (xs.map .d) us
  | [], us, h => by unfold CellsL at h; simp only [List.map_nil]; unfold VL; exact h
  | x :: xs, us, h => by
    unfold CellsL at h
    obtain ⟨u, us', rfl, ⟨h0, h1⟩, h2⟩ := h
    simp only [List.map_cons]
    unfold VL
    refine ⟨u, us', rfl, ?_, VL_mapd h2⟩
    unfold VA ValD
    cases x with
    | agg ys => cases h0
    | s v => exact h1
    | lst zs => exact h1
theorem VA_cells {ι : Ix} {S : Sb} {w : World} {x : A} {u : Value} (h : VA ι S w x u) (hx : x ≠ .any) : VL ι S w x.cells u.cells.toList := by
  have one : ∀ (y : A) (v : Value), VA ι S w y v → VL ι S w [y] [v] := fun y v h => by
    unfold VL; exact ⟨v, [], rfl, h, by unfold VL; rfl⟩
  cases x with
  | any => exact absurd rfl hx
  | d x =>
    cases x with
    | s v =>
      have h' := h
      unfold VA ValD CellsD at h'
      obtain ⟨h1, h2⟩ := h'
      simp only [List.cons.injEq, and_true] at h1
      subst h1
      have e : u.cells.toList = [u] := by cases u <;> first | rfl | simp [noAgg] at h2
      rw [e]
      exact one _ _ h
    | lst zs =>
      have h' := h
      unfold VA ValD CellsD at h'
      obtain ⟨a, cap, h1, _⟩ := h'
      simp only [List.cons.injEq, and_true] at h1
      subst h1
      exact one _ _ h
    | agg ys =>
      unfold VA ValD at h
      obtain ⟨us, rfl, h2⟩ := h
      exact VL_mapd h2
  | agg xs =>
    unfold VA at h
    obtain ⟨us, rfl, h2⟩ := h
    exact h2
  | clip xs =>
    have h' := h
    unfold VA at h'
    obtain ⟨a, rfl, _⟩ := h'
    exact one _ _ h
  | tup xs =>
    have h' := h
    unfold VA at h'
    obtain ⟨a, rfl, _⟩ := h'
    exact one _ _ h
  | bp id ver off =>
    have h' := h
    unfold VA at h'
    obtain ⟨_, _, _, rfl⟩ := h'
    exact one _ _ h
  | sl id ver off len =>
    have h' := h
    unfold VA at h'
    obtain ⟨_, _, rfl, _⟩ := h'
    exact one _ _ h
  | op id ver i off =>
    have h' := h
    unfold VA at h'
    obtain ⟨_, _, rfl⟩ := h'
    exact one _ _ h
  | ep xs i off =>
    have h' := h
    unfold VA at h'
    obtain ⟨_, _, _, rfl, _⟩ := h'
    exact one _ _ h
  | clo f caps =>
    have h' := h
    unfold VA at h'
    obtain ⟨_, rfl, _⟩ := h'
    exact one _ _ h
theorem one_of {ι : Ix} {S : Sb} {w : World} {x : A} {u : Value} (h : VA ι S w x u) (hx : x.one = true) : u.oneCell' = true := by
  cases x with
  | d x =>
    cases x with
    | s v =>
      unfold VA ValD CellsD at h
      simp only [List.cons.injEq, and_true] at h
      obtain ⟨rfl, _⟩ := h
      exact hx
    | lst zs =>
      unfold VA ValD CellsD at h
      obtain ⟨a, cap, h1, _⟩ := h
      simp only [List.cons.injEq, and_true] at h1
      subst h1; rfl
    | agg ys => simp [A.one] at hx
  | clip xs => unfold VA at h; obtain ⟨a, rfl, _⟩ := h; rfl
  | bp id ver off => unfold VA at h; obtain ⟨_, _, _, rfl⟩ := h; rfl
  | sl id ver off len => unfold VA at h; obtain ⟨_, _, rfl, _⟩ := h; rfl
  | op id ver i off => unfold VA at h; obtain ⟨_, _, rfl⟩ := h; rfl
  | ep xs i off => unfold VA at h; obtain ⟨_, _, _, rfl, _⟩ := h; rfl
  | clo f caps => unfold VA at h; obtain ⟨_, rfl, _⟩ := h; rfl
  | _ => simp [A.one] at hx
theorem ones_of {ι : Ix} {S : Sb} {w : World} {xs : List A} {us : List Value} (h : VL ι S w xs us) (hx : xs.all A.one = true) : ∀ u ∈ us, u.oneCell' = true := by
  intro u hu
  obtain ⟨i, hi, rfl⟩ := List.getElem_of_mem hu
  obtain ⟨h1, h2⟩ := VL_get.1 h
  have hi' : i < xs.length := by omega
  exact one_of (h2 i xs[i] us[i] (List.getElem?_eq_getElem hi') (List.getElem?_eq_getElem hi)) (List.all_eq_true.1 hx _ (List.getElem_mem hi'))
theorem exacts_spec {S : Sb} {w : World} : ∀ {xs : List D} {vs us : List Value}, D.exacts xs = some vs → CellsL S w xs us → us = vs
  | [], vs, us, h, hc => by
    simp only [D.exacts, Option.some.injEq] at h
    subst h
    unfold CellsL at hc; exact hc
  | x :: xs, vs, us, h, hc => by
    unfold CellsL at hc
    obtain ⟨u, us', rfl, ⟨_, h1⟩, h2⟩ := hc
    cases x with
    | s v =>
      simp only [D.exacts, Option.map_eq_some_iff] at h
      obtain ⟨vs', h3, rfl⟩ := h
      unfold CellsD at h1
      simp only [List.cons.injEq, and_true] at h1
      rw [exacts_spec h3 h2, h1.1]
    | _ => simp [D.exacts] at h
theorem exact_spec {ι : Ix} {S : Sb} {w : World} {x : A} {u v : Value} (h : VA ι S w x u) (hx : x.exact = some v) : u = v := by
  cases x with
  | d x =>
    cases x with
    | s v' =>
      unfold VA ValD CellsD at h
      simp only [List.cons.injEq, and_true] at h
      simp only [A.exact, Option.some.injEq] at hx
      rw [h.1, hx]
    | agg ys =>
      unfold VA ValD at h
      obtain ⟨us, rfl, h2⟩ := h
      simp only [A.exact, Option.map_eq_some_iff] at hx
      obtain ⟨vs, h3, rfl⟩ := hx
      rw [← exacts_spec h3 h2]
    | lst zs => simp [A.exact] at hx
  | _ => simp [A.exact] at hx
theorem ev_VA {ι : Ix} {S : Sb} {w : World} {st : St} {a : Act} (h : RelT ι S w st a) (x : Operand) : VA ι S w (st.ev x) (a.eval x) := by
  cases x with
  | tmp t =>
    show VA ι S w (if t < st.n then st.t t else .d (.s undef)) (a.tmps.getD t undef)
    by_cases ht : t < st.n
    · rw [if_pos ht]; exact h.vals t ht
    · rw [if_neg ht]
      have : a.tmps.getD t undef = undef := by
        rw [Array.getD_eq_getD_getElem?, Array.getElem?_eq_none (by rw [h.size]; exact Nat.le_of_not_lt ht)]; rfl
      rw [this]
      unfold VA ValD CellsD
      exact ⟨rfl, rfl⟩
  | const v => exact VA_ofV ι S w v
  | global g =>
    show VA ι S w (.d (.s (.pointer (some ⟨g, 0, none⟩)))) (.pointer (some ⟨g, 0, none⟩))
    unfold VA ValD CellsD
    exact ⟨rfl, rfl⟩
  | func f =>
    show VA ι S w (.clo f []) (.func (.func f) #[] #[])
    unfold VA
    exact ⟨#[], rfl, by show VL ι S w [] []; unfold VL; rfl⟩

/-- What an operation has to show. -/
def Steps (E : Env) (ι : Ix) (S : Sb) (h : Nat → O) (w : World) (e : Eff) (u : Value) (w' : World) : Prop :=
  ∃ ι' S', Mono ι S w ι' S' w' ∧ VA ι' S' w' e.v u ∧ RelH E ι' S' (upds h e.wr) w'
theorem Steps.still {E : Env} {ι : Ix} {S : Sb} {h : Nat → O} {w : World} {e : Eff} {u : Value} (hr : RelH E ι S h w) (hw : e.wr = []) (hv : VA ι S w e.v u) : Steps E ι S h w e u w :=
  ⟨ι, S, Mono.refl _ _ _, hv, by rw [hw]; exact hr⟩
theorem exactE_ok {P : Program} {E : Env} {ι : Ix} {S : Sb} {w : World} {st : St} {a : Act} {o : Oper} {e : Eff} (ht : RelT ι S w st a) (hr : RelH E ι S st.h w) (hs : ∀ cs b, o.op ≠ .select cs b) (h : exactE P st.ev o = some e) :
    ∃ u, (execOp a.eval o).run P w = .ok (.value u) w ∧ Steps E ι S st.h w e u w := by
  unfold exactE at h
  obtain ⟨v, h1, rfl⟩ := Option.map_eq_some_iff.1 h
  unfold exactOp at h1
  split at h1
  · rename_i hall
    have hc : execOp a.eval o = execOp (fun x => ((st.ev x).exact).getD undef) o := execOp_congr o hs fun x hx => by
      have := Array.all_eq_true_iff_forall_mem.1 hall x hx
      obtain ⟨v, hv⟩ := Option.isSome_iff_exists.1 this
      rw [hv]
      exact exact_spec (ev_VA ht x) hv
    split at h1
    · rename_i v' hp
      simp only [Option.some.injEq] at h1
      subst h1
      refine ⟨v', ?_, Steps.still hr rfl (VA_ofV _ _ _ _)⟩
      rw [hc]
      exact pureRun_run hp w
    · cases h1
  · cases h1
end Go.Proofs.YtkflfgkmbgjohaaDoor
