/-
  WHAT IS PROVED HERE: how the interpreter's run is followed step by step, with letters for what is not known: rules to rewrite with.
-/
import Derived.Test.YtkflfgkmbgjohaaDoorAbs17
set_option linter.unusedVariables false
set_option linter.unusedSimpArgs false
namespace Go.Proofs.YtkflfgkmbgjohaaDoor
open Go Go.RowKit

/-! ### what is left to do -/
inductive Itm where
  | code (c : Code)
  | blk (id : Nat)
  | scp
  | ops (O : Array Oper) (l : List Oper)
  | tr (O : Array Oper) (l : List Oper) (es : List Eff)
mutual
def execK (P : Program) (X : Orc) (N : Nat) : List Itm → St → Option (Ex × St)
  | [], st => some (.normal, st)
  | .code c :: k, st =>
    match exec P X N c st with
    | some (.normal, s) => execK P X N k s
    | some (x, s) => unwK P X N x k s
    | none => none
  | .blk _ :: k, st => execK P X N k st
  | .scp :: k, st => execK P X N k st
  | .ops O l :: k, st =>
    match runOps P X O l st with
    | some s => execK P X N k s
    | none => none
  | .tr O l es :: k, st =>
    match runTr P X O l st with
    | some (s, es') => if raceFree O (es ++ es') then execK P X N k s else none
    | none => none
def unwK (P : Program) (X : Orc) (N : Nat) (x : Ex) : List Itm → St → Option (Ex × St)
  | [], st => some (x, st)
  | .blk j :: k, st => if x = .exit j then execK P X N k st else unwK P X N x k st
  | .scp :: k, st => (match x with | .goto _ => none | _ => unwK P X N x k st)
  | .code _ :: k, st => unwK P X N x k st
  | .ops _ _ :: k, st => unwK P X N x k st
  | .tr _ _ _ :: k, st => unwK P X N x k st
end
def Wk (P : Program) (X : Orc) (N : Nat) (k : List Itm) (st : St) (Q : Ex → St → Prop) : Prop := ∃ x s, execK P X N k st = some (x, s) ∧ Q x s
def Wu (P : Program) (X : Orc) (N : Nat) (x : Ex) (k : List Itm) (st : St) (Q : Ex → St → Prop) : Prop := ∃ y s, unwK P X N x k st = some (y, s) ∧ Q y s
section
variable (P : Program) (X : Orc) (N : Nat) (k : List Itm) (st : St) (Q : Ex → St → Prop) (a b : Code) (O : Array Oper) (l : List Oper)
theorem Wk_nil : Wk P X N [] st Q = Q .normal st := by
  apply propext; unfold Wk execK
  exact ⟨fun ⟨x, s, h, q⟩ => by cases h; exact q, fun q => ⟨_, _, rfl, q⟩⟩
theorem Wu_nil (x : Ex) : Wu P X N x [] st Q = Q x st := by
  apply propext; unfold Wu unwK
  exact ⟨fun ⟨y, s, h, q⟩ => by cases h; exact q, fun q => ⟨_, _, rfl, q⟩⟩
theorem Wk_blk (j : Nat) : Wk P X N (.blk j :: k) st Q = Wk P X N k st Q := by unfold Wk; rw [execK]
theorem Wu_blk (i j : Nat) : Wu P X N (.exit i) (.blk j :: k) st Q = if i = j then Wk P X N k st Q else Wu P X N (.exit i) k st Q := by
  unfold Wu Wk; rw [unwK]
  by_cases h : i = j
  · rw [if_pos h, if_pos (by rw [h])]
  · rw [if_neg h, if_neg (by simpa using h)]
theorem Wu_ret (j : Nat) : Wu P X N .ret (.blk j :: k) st Q = Wu P X N .ret k st Q := by
  unfold Wu; rw [unwK, if_neg (by simp)]
theorem Wu_code (x : Ex) : Wu P X N x (.code a :: k) st Q = Wu P X N x k st Q := by unfold Wu; rw [unwK]
theorem Wu_ops (x : Ex) : Wu P X N x (.ops O l :: k) st Q = Wu P X N x k st Q := by unfold Wu; rw [unwK]
theorem Wk_seq : Wk P X N (.code (.seq a b) :: k) st Q = Wk P X N (.code a :: .code b :: k) st Q := by
  unfold Wk; rw [execK, execK, exec]
  cases h : exec P X N a st with
  | none => rfl
  | some p =>
    obtain ⟨x, s⟩ := p
    cases x with
    | normal => simp only; rw [execK]
    | _ => simp only; rw [unwK]
theorem Wk_skip : Wk P X N (.code .skip :: k) st Q = Wk P X N k st Q := by unfold Wk; rw [execK, exec]
theorem Wk_label (j : Nat) : Wk P X N (.code (.label j) :: k) st Q = Wk P X N k st Q := by unfold Wk; rw [execK, exec]
theorem Wk_exit (j : Nat) : Wk P X N (.code (.exit j) :: k) st Q = Wu P X N (.exit j) k st Q := by unfold Wk Wu; rw [execK, exec]
theorem Wk_ret : Wk P X N (.code .ret :: k) st Q = Wu P X N .ret k st Q := by unfold Wk Wu; rw [execK, exec]
theorem Wk_block (j : Nat) : Wk P X N (.code (.block j a) :: k) st Q = Wk P X N (.code a :: .blk j :: k) st Q := by
  unfold Wk; rw [execK, execK, exec]
  cases h : exec P X N a st with
  | none => rfl
  | some p =>
    obtain ⟨x, s⟩ := p
    cases x with
    | normal => simp only; rw [execK]
    | exit i =>
      simp only
      rw [unwK]
      by_cases hi : i = j
      · rw [if_pos hi, if_pos (by rw [hi])]
      · rw [if_neg hi, if_neg (by simpa using hi)]
    | _ => simp only; rw [unwK, if_neg (by simp)]
theorem Wk_scp : Wk P X N (.scp :: k) st Q = Wk P X N k st Q := by unfold Wk; rw [execK]
theorem Wu_scp (i : Nat) : Wu P X N (.exit i) (.scp :: k) st Q = Wu P X N (.exit i) k st Q := by unfold Wu; rw [unwK]; simp
theorem Wu_scpr : Wu P X N .ret (.scp :: k) st Q = Wu P X N .ret k st Q := by unfold Wu; rw [unwK]; simp
theorem Wk_scope : Wk P X N (.code (.scope a) :: k) st Q = Wk P X N (.code a :: .scp :: k) st Q := by
  unfold Wk; rw [execK, execK, exec]
  cases h : exec P X N a st with
  | none => rfl
  | some p =>
    obtain ⟨x, s⟩ := p
    cases x with
    | normal => simp only; rw [execK]
    | goto j => simp only [unwK]
    | _ => simp only; rw [unwK]; simp
theorem Wk_cond (c : Operand) : Wk P X N (.code (.cond c a b) :: k) st Q = if (st.ev c).bool? = some true then Wk P X N (.code a :: k) st Q else if (st.ev c).bool? = some false then Wk P X N (.code b :: k) st Q else False := by
  unfold Wk; rw [execK, exec]
  cases h : (st.ev c).bool? with
  | none => simp
  | some t => cases t <;> simp [execK]
theorem Wk_region (id : Nat) : Wk P X N (.code (.region id O false) :: k) st Q = Wk P X N (.ops O O.toList :: k) st Q := by
  unfold Wk; rw [execK, execK, exec]
  cases h : runOps P X O O.toList st <;> rfl
theorem Wk_draw (id : Nat) : Wk P X N (.code (.region id O true) :: k) st Q = Wk P X N (.tr O O.toList [] :: k) st Q := by
  unfold Wk; rw [execK, execK, exec]
  cases h : runTr P X O O.toList st with
  | none => rfl
  | some p =>
    obtain ⟨s, es⟩ := p
    simp only [List.nil_append]
    by_cases hr : raceFree O es = true <;> simp [hr]
theorem Wk_ops_nil : Wk P X N (.ops O [] :: k) st Q = Wk P X N k st Q := by unfold Wk; rw [execK, runOps]
theorem Wk_tr_nil (es : List Eff) : Wk P X N (.tr O [] es :: k) st Q = (raceFree O es = true ∧ Wk P X N k st Q) := by
  unfold Wk; rw [execK, runTr]
  simp only [List.append_nil]
  by_cases hr : raceFree O es = true <;> simp [hr]
/-- An operation's answer, and what is left. -/
def Wv (e : Option Eff) (dst : Option Tmp) (st : St) (l : List Oper) : Prop := ∃ x, e = some x ∧ Wk P X N (.ops O l :: k) (st.put dst x) Q
def Wt (e : Option Eff) (dst : Option Tmp) (st : St) (l : List Oper) (es : List Eff) : Prop := ∃ x, e = some x ∧ Wk P X N (.tr O l (es ++ [x]) :: k) (st.put dst x) Q
theorem Wv_some (e : Eff) (d : Option Tmp) : Wv P X N k Q O (some e) d st l = Wk P X N (.ops O l :: k) (st.put d e) Q := by
  apply propext; unfold Wv
  exact ⟨fun ⟨x, h, q⟩ => by cases h; exact q, fun q => ⟨_, rfl, q⟩⟩
theorem Wt_some (e : Eff) (d : Option Tmp) (es : List Eff) : Wt P X N k Q O (some e) d st l es = Wk P X N (.tr O l (es ++ [e]) :: k) (st.put d e) Q := by
  apply propext; unfold Wt
  exact ⟨fun ⟨x, h, q⟩ => by cases h; exact q, fun q => ⟨_, rfl, q⟩⟩
theorem Wv_none (d : Option Tmp) : Wv P X N k Q O none d st l = False := by simp [Wv]
theorem Wv_ite (c : Prop) [Decidable c] (x y : Option Eff) (d : Option Tmp) : Wv P X N k Q O (if c then x else y) d st l = if c then Wv P X N k Q O x d st l else Wv P X N k Q O y d st l := by split <;> rfl
theorem Wt_none (d : Option Tmp) (es : List Eff) : Wt P X N k Q O none d st l es = False := by simp [Wt]
theorem Wt_ite (c : Prop) [Decidable c] (x y : Option Eff) (d : Option Tmp) (es : List Eff) : Wt P X N k Q O (if c then x else y) d st l es = if c then Wt P X N k Q O x d st l es else Wt P X N k Q O y d st l es := by split <;> rfl
theorem Wk_op (dst : Option Tmp) (op : Op) (ty : TypeId) (pos : String) (af : Array Edge) :
    Wk P X N (.ops O (⟨dst, op, ty, pos, af, none⟩ :: l) :: k) st Q = if dstOk st.n dst = true then Wv P X N k Q O (opE P X st.ev st.h (st.fb + dst.getD st.n) ⟨dst, op, ty, pos, af, none⟩) dst st l else False := by
  unfold Wk Wv; rw [execK, runOps, stepSt, stepE]
  by_cases hd : dstOk st.n dst = true
  · rw [if_pos hd, if_pos hd]
    simp only [wantedA]
    cases he : opE P X st.ev st.h (st.fb + dst.getD st.n) ⟨dst, op, ty, pos, af, none⟩ with
    | none => simp
    | some e => simp [Wk, execK]
  · rw [if_neg hd, if_neg hd]; simp
theorem Wk_opg (dst : Option Tmp) (op : Op) (ty : TypeId) (pos : String) (af : Array Edge) (g : Nat × Bool) :
    Wk P X N (.ops O (⟨dst, op, ty, pos, af, some g⟩ :: l) :: k) st Q = if dstOk st.n dst = true then (if wantedA O st ⟨dst, op, ty, pos, af, some g⟩ = some true then Wv P X N k Q O (opE P X st.ev st.h (st.fb + dst.getD st.n) ⟨dst, op, ty, pos, af, some g⟩) dst st l
      else if wantedA O st ⟨dst, op, ty, pos, af, some g⟩ = some false then Wk P X N (.ops O l :: k) (st.put dst { v := .d (.s undef) }) Q else False) else False := by
  unfold Wk Wv; rw [execK, runOps, stepSt, stepE]
  by_cases hd : dstOk st.n dst = true
  · rw [if_pos hd, if_pos hd]
    cases hw : wantedA O st ⟨dst, op, ty, pos, af, some g⟩ with
    | none => simp
    | some t =>
      cases t with
      | true =>
        simp only [if_true]
        cases he : opE P X st.ev st.h (st.fb + dst.getD st.n) ⟨dst, op, ty, pos, af, some g⟩ with
        | none => simp
        | some e => simp [Wk, execK]
      | false => simp [execK]
  · rw [if_neg hd, if_neg hd]; simp
theorem Wk_tr (dst : Option Tmp) (op : Op) (ty : TypeId) (pos : String) (af : Array Edge) (es : List Eff) :
    Wk P X N (.tr O (⟨dst, op, ty, pos, af, none⟩ :: l) es :: k) st Q = if dstOk st.n dst = true then Wt P X N k Q O (opE P X st.ev st.h (st.fb + dst.getD st.n) ⟨dst, op, ty, pos, af, none⟩) dst st l es else False := by
  unfold Wk Wt; rw [execK, runTr, stepE]
  by_cases hd : dstOk st.n dst = true
  · rw [if_pos hd, if_pos hd]
    simp only [wantedA]
    cases he : opE P X st.ev st.h (st.fb + dst.getD st.n) ⟨dst, op, ty, pos, af, none⟩ with
    | none => simp
    | some e =>
      simp only [Wk, execK]
      cases hr : runTr P X O l (st.put dst e) with
      | none => simp [hr]
      | some p => obtain ⟨s, es'⟩ := p; simp [hr]
  · rw [if_neg hd, if_neg hd]; simp
theorem Wk_trg (dst : Option Tmp) (op : Op) (ty : TypeId) (pos : String) (af : Array Edge) (g : Nat × Bool) (es : List Eff) :
    Wk P X N (.tr O (⟨dst, op, ty, pos, af, some g⟩ :: l) es :: k) st Q = if dstOk st.n dst = true then (if wantedA O st ⟨dst, op, ty, pos, af, some g⟩ = some true then Wt P X N k Q O (opE P X st.ev st.h (st.fb + dst.getD st.n) ⟨dst, op, ty, pos, af, some g⟩) dst st l es
      else if wantedA O st ⟨dst, op, ty, pos, af, some g⟩ = some false then Wk P X N (.tr O l (es ++ [{ v := .d (.s undef) }]) :: k) (st.put dst { v := .d (.s undef) }) Q else False) else False := by
  unfold Wk Wt; rw [execK, runTr, stepE]
  by_cases hd : dstOk st.n dst = true
  · rw [if_pos hd, if_pos hd]
    cases hw : wantedA O st ⟨dst, op, ty, pos, af, some g⟩ with
    | none => simp
    | some t =>
      cases t with
      | true =>
        simp only [if_true]
        cases he : opE P X st.ev st.h (st.fb + dst.getD st.n) ⟨dst, op, ty, pos, af, some g⟩ with
        | none => simp
        | some e =>
          simp only [Wk, execK]
          cases hr : runTr P X O l (st.put dst e) with
          | none => simp [hr]
          | some p => obtain ⟨s, es'⟩ := p; simp [hr]
      | false =>
        simp only [Wk, execK]
        cases hr : runTr P X O l (st.put dst { v := .d (.s undef) }) with
        | none => simp [hr]
        | some p => obtain ⟨s, es'⟩ := p; simp [hr]
  · rw [if_neg hd, if_neg hd]; simp
end
theorem body_of (P : Program) (X : Orc) (n : Nat) (f : FuncId) (fn : Func) (c : Code) (ds : List D) (r : R) (hf : P.funcs[f]? = some fn) (hc : fn.body = some c) (hl : ds.length ≤ fn.ntmps) (hn : fn.name ≠ "runtime.NumGoroutine")
    (h : Wk P X n [.code c] (initSt fn ds) fun x st => (x = .normal ∨ x = .ret) ∧ ((resAs P st fn.results.toList).bind (resR st.h)) = some r) : body P X n f ds = some r := by
  obtain ⟨x, st, h1, h2, h3⟩ := h
  have h4 : exec P X n c (initSt fn ds) = some (x, st) := by
    unfold execK at h1
    cases he : exec P X n c (initSt fn ds) with
    | none => rw [he] at h1; cases h1
    | some p =>
      obtain ⟨y, s⟩ := p
      rw [he] at h1
      cases y <;> simp only [execK, unwK] at h1 <;> exact h1
  unfold body
  rw [hf]
  simp only [hc]
  rw [if_pos ⟨hl, hn⟩, h4]
  rcases h2 with rfl | rfl <;> exact h3
theorem upd_at {α : Type} (T : Nat → α) (i j : Nat) (v : α) : upd T i v j = if j = i then v else T j := rfl
theorem pureRun_bind {P : Program} {α β : Type} (e : Sem α) (f : α → Sem β) : pureRun P (e >>= f) = (pureRun P e).bind fun a => pureRun P (f a) := by
  show pureRun P (e.bind f) = _
  induction e with
  | pure a => rfl
  | program k ih => exact ih P
  | _ => rfl
theorem pureRun_pure {P : Program} {α : Type} (a : α) : pureRun P (pure a : Sem α) = some a := rfl
end Go.Proofs.YtkflfgkmbgjohaaDoor
