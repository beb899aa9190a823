/-
  WHAT IS PROVED HERE: what single operations come to, with letters for numbers and texts: rules to rewrite with.
-/
import Derived.Test.YtkflfgkmbgjohaaDoorSim1
import Derived.Laws.StructEq
set_option linter.unusedVariables false
set_option linter.unusedSimpArgs false
namespace Go.Proofs.YtkflfgkmbgjohaaDoor
open Go Go.RowKit

def exBin (P : Program) (op : BinOp) (t : TypeId) (x y : Operand) (a b : A) : Option Eff :=
  match a.exact, b.exact with
  | some u, some v => (pureRun P (do eqGuard op t x y u v; binOp op t u v)).map fun v => { v := ofV v }
  | _, _ => none
theorem exactE_bin (P : Program) (ev : Operand → A) (dst : Option Tmp) (op : BinOp) (t : TypeId) (x y : Operand) (t' ty : TypeId) (pos : String) (af : Array Edge) (g : Option (Nat × Bool)) : exactE P ev ⟨dst, .binOp op t x y t', ty, pos, af, g⟩ = exBin P op t x y (ev x) (ev y) := by
  unfold exactE exactOp exBin
  simp only [Op.operands]
  cases hx : (ev x).exact with
  | none => simp [hx]
  | some u =>
    cases hy : (ev y).exact with
    | none => simp [hx, hy]
    | some v =>
      simp only [execOp, hx, hy, Option.getD_some, pureRun_bind, pureRun_pure]
      simp only [List.all_toArray, List.all_cons, List.all_nil, hx, hy, Option.isSome_some, Bool.and_self, if_true]
      cases pureRun P (eqGuard op t x y u v) with
      | none => rfl
      | some _ =>
        simp only [Option.bind_some]
        cases pureRun P (binOp op t u v) with
        | none => rfl
        | some _ => rfl
theorem ex_add (P : Program) (t : TypeId) (x y : Operand) (k : IntKind) (a b : Int) : exBin P .add t x y (.d (.s (.int k a))) (.d (.s (.int k b))) = some { v := .d (.s (.int k (k.wrap (a + b)))) } := by cases k <;> rfl
theorem ex_sub (P : Program) (t : TypeId) (x y : Operand) (k : IntKind) (a b : Int) : exBin P .sub t x y (.d (.s (.int k a))) (.d (.s (.int k b))) = some { v := .d (.s (.int k (k.wrap (a - b)))) } := by cases k <;> rfl
theorem ex_mul (P : Program) (t : TypeId) (x y : Operand) (k : IntKind) (a b : Int) : exBin P .mul t x y (.d (.s (.int k a))) (.d (.s (.int k b))) = some { v := .d (.s (.int k (k.wrap (a * b)))) } := by cases k <;> rfl
theorem ex_eql (P : Program) (t : TypeId) (x y : Operand) (k : IntKind) (a b : Int) : exBin P .eql t x y (.d (.s (.int k a))) (.d (.s (.int k b))) = some { v := .d (.s (.bool (a == b))) } := by cases k <;> rfl
theorem ex_neq (P : Program) (t : TypeId) (x y : Operand) (k : IntKind) (a b : Int) : exBin P .neq t x y (.d (.s (.int k a))) (.d (.s (.int k b))) = some { v := .d (.s (.bool (a != b))) } := by cases k <;> rfl
theorem ex_lss (P : Program) (t : TypeId) (x y : Operand) (k : IntKind) (a b : Int) : exBin P .lss t x y (.d (.s (.int k a))) (.d (.s (.int k b))) = some { v := .d (.s (.bool (decide (a < b)))) } := by cases k <;> rfl
theorem ex_leq (P : Program) (t : TypeId) (x y : Operand) (k : IntKind) (a b : Int) : exBin P .leq t x y (.d (.s (.int k a))) (.d (.s (.int k b))) = some { v := .d (.s (.bool (decide (a ≤ b)))) } := by cases k <;> rfl
theorem ex_gtr (P : Program) (t : TypeId) (x y : Operand) (k : IntKind) (a b : Int) : exBin P .gtr t x y (.d (.s (.int k a))) (.d (.s (.int k b))) = some { v := .d (.s (.bool (decide (b < a)))) } := by cases k <;> rfl
theorem ex_geq (P : Program) (t : TypeId) (x y : Operand) (k : IntKind) (a b : Int) : exBin P .geq t x y (.d (.s (.int k a))) (.d (.s (.int k b))) = some { v := .d (.s (.bool (decide (b ≤ a)))) } := by cases k <;> rfl
theorem exs_eql (P : Program) (t : TypeId) (u v : Operand) (x y : ByteArray) : exBin P .eql t u v (.d (.s (.string x))) (.d (.s (.string y))) = some { v := .d (.s (.bool (x.toList == y.toList))) } := rfl
theorem exs_neq (P : Program) (t : TypeId) (u v : Operand) (x y : ByteArray) : exBin P .neq t u v (.d (.s (.string x))) (.d (.s (.string y))) = some { v := .d (.s (.bool (!(x.toList == y.toList)))) } := rfl
theorem exs_lss (P : Program) (t : TypeId) (u v : Operand) (x y : ByteArray) : exBin P .lss t u v (.d (.s (.string x))) (.d (.s (.string y))) = some { v := .d (.s (.bool (Op.bytesLess x.toList y.toList))) } := rfl
theorem exs_leq (P : Program) (t : TypeId) (u v : Operand) (x y : ByteArray) : exBin P .leq t u v (.d (.s (.string x))) (.d (.s (.string y))) = some { v := .d (.s (.bool (Op.bytesLess x.toList y.toList || x.toList == y.toList))) } := rfl
theorem exs_gtr (P : Program) (t : TypeId) (u v : Operand) (x y : ByteArray) : exBin P .gtr t u v (.d (.s (.string x))) (.d (.s (.string y))) = some { v := .d (.s (.bool (!(Op.bytesLess x.toList y.toList || x.toList == y.toList)))) } := rfl
theorem exs_geq (P : Program) (t : TypeId) (u v : Operand) (x y : ByteArray) : exBin P .geq t u v (.d (.s (.string x))) (.d (.s (.string y))) = some { v := .d (.s (.bool (!Op.bytesLess x.toList y.toList))) } := rfl
theorem exs_add (P : Program) (t : TypeId) (u v : Operand) (x y : ByteArray) : exBin P .add t u v (.d (.s (.string x))) (.d (.s (.string y))) = if x.size + y.size ≤ 9223372036854775807 then some { v := .d (.s (.string (x ++ y))) } else none := by
  by_cases h : x.size + y.size ≤ 9223372036854775807
  · have h' : ¬ (((x.size + y.size : Nat) : Int) > IntKind.i64.max) := by simp [IntKind.max, IntKind.bits, IntKind.signed]; omega
    rw [if_pos h]
    simp only [exBin, A.exact, eqGuard, binOp, Op.stringOp]
    rw [if_neg h']; rfl
  · have h' : (((x.size + y.size : Nat) : Int) > IntKind.i64.max) := by simp [IntKind.max, IntKind.bits, IntKind.signed]; omega
    rw [if_neg h]
    simp only [exBin, A.exact, eqGuard, binOp, Op.stringOp]
    rw [if_pos h']; rfl
/-- The address of a field. -/
def faddr (x : A) (o : Nat) : Option Eff :=
  match x with
  | .bp id ver off => some { v := .bp id ver (off + o) }
  | .op id ver i off => some { v := .op id ver i (off + o) }
  | .ep xs i off => some { v := .ep xs i (off + o) }
  | _ => none
theorem exactE_un (P : Program) (ev : Operand → A) (dst : Option Tmp) (op : UnOp) (t : TypeId) (x : Operand) (ty : TypeId) (pos : String) (af : Array Edge) (g : Option (Nat × Bool)) : exactE P ev ⟨dst, .unOp op t x, ty, pos, af, g⟩ = (match (ev x).exact with | some u => (pureRun P (Op.unary op u)).map fun v => { v := ofV v } | none => none) := by
  unfold exactE exactOp
  simp only [Op.operands]
  cases hx : (ev x).exact with
  | none => simp [hx]
  | some u =>
    simp only [execOp, hx, Option.getD_some, pureRun_bind, pureRun_pure]
    simp only [List.all_toArray, List.all_cons, List.all_nil, hx, Option.isSome_some, Bool.and_self, if_true]
    cases pureRun P (Op.unary op u) with
    | none => rfl
    | some _ => rfl
theorem un_not (P : Program) (b : Bool) : pureRun P (Op.unary .not (.bool b)) = some (.bool !b) := rfl
theorem un_neg (P : Program) (k : IntKind) (n : Int) : pureRun P (Op.unary .neg (.int k n)) = some (.int k (k.wrap (0 - n))) := rfl

/-! ### structs that are compared -/
theorem pureRun_ite {P : Program} {α : Type} (c : Prop) [Decidable c] (x y : Sem α) : pureRun P (if c then x else y) = if c then pureRun P x else pureRun P y := by split <;> rfl
def fEq (P : Program) (d : Nat) (xs ys : Array Value) (f : Field) : Option Bool :=
  match pureRun P (part f.type xs f.offset), pureRun P (part f.type ys f.offset) with
  | some a, some b => pureRun P (Op.equalIn d f.type a b)
  | _, _ => none
def eqList (P : Program) (d : Nat) (xs ys : Array Value) : List Field → Option Bool
  | [] => some true
  | f :: fs =>
    if f.name = "_" then none else
    match fEq P d xs ys f, eqList P d xs ys fs with
    | some r, some q => some (r && q)
    | _, _ => none
theorem pure_eqFields {P : Program} {d : Nat} {xs ys : Array Value} : ∀ {fs : List Field} {q : Bool}, eqList P d xs ys fs = some q → pureRun P (Op.eqFields d xs ys fs) = some q
  | [], q, h => h
  | f :: fs, q, h => by
    unfold eqList at h
    split at h
    · cases h
    · rename_i hn
      split at h
      · rename_i r q' h1 h2
        simp only [Option.some.injEq] at h
        subst h
        unfold fEq at h1
        split at h1
        · rename_i a b ha hb
          have ih := pure_eqFields h2
          unfold Op.eqFields
          rw [if_pos hn]
          simp only [pureRun_bind, ha, hb, h1, Option.bind_some, pureRun_ite, ih, pureRun_pure]
          cases r <;> rfl
        · cases h1
      · cases h
theorem pure_equalIn {P : Program} (d : Nat) (t : TypeId) (xs ys : Array Value) (fs : Array Field) (ht : P.underlying t = some (.struct fs)) (hp : P.stoodInHeld t = false) :
    pureRun P (Op.equalIn (d + 1) t (.agg xs) (.agg ys)) = pureRun P (Op.eqFields d xs ys fs.toList) := by
  have hu : pureRun P (underlying t) = some (.struct fs) := by simp only [underlying, pureRun_bind, program, pureRun, Option.bind_some, ht]; rfl
  have hpr : pureRun P program = some P := rfl
  simp only [Op.equalIn, pureRun_bind, hu, Option.bind_some, hpr, hp, Bool.false_eq_true, if_false]
  rw [← Array.forIn_toList]
  generalize fs.toList = l
  clear ht hu
  induction l with
  | nil => simp [Op.eqFields, pureRun_pure]
  | cons f l ih =>
    simp only [List.forIn_cons, Op.eqFields, pureRun_bind, pureRun_ite]
    split
    · cases pureRun P (part f.type xs f.offset) with
      | none => rfl
      | some a =>
        cases pureRun P (part f.type ys f.offset) with
        | none => rfl
        | some b =>
          simp only [Option.bind_some]
          cases pureRun P (Op.equalIn d f.type a b) with
          | none => rfl
          | some r =>
            cases r with
            | false => rfl
            | true => exact ih
    · exact ih
theorem pure_equal {P : Program} {t : TypeId} {xs ys : Array Value} {fs : Array Field} (ht : P.underlying t = some (.struct fs)) (hp : P.stoodInHeld t = false) {q : Bool} (hq : eqList P 9999 xs ys fs.toList = some q) : pureRun P (Op.equal t (.agg xs) (.agg ys)) = some q := by
  show pureRun P (Op.equalIn (9999 + 1) t (.agg xs) (.agg ys)) = some q
  rw [pure_equalIn 9999 t xs ys fs ht hp]
  exact pure_eqFields hq
theorem pure_guard {P : Program} {op : BinOp} {t : TypeId} {x y : Operand} {xs ys : Array Value} (hg : P.eqGuardType P.depth t = false) (hop : op = .eql ∨ op = .neq) : pureRun P (eqGuard op t x y (.agg xs) (.agg ys)) = some () := by
  have hpr : pureRun P program = some P := rfl
  rcases hop with rfl | rfl
  · simp only [eqGuard, pureRun_bind, hpr, Option.bind_some, hg, Bool.not_false, if_true, Bool.not_true, Bool.false_eq_true, if_false]; rfl
  · simp only [eqGuard, pureRun_bind, hpr, Option.bind_some, hg, Bool.not_false, if_true, Bool.not_true, Bool.false_eq_true, if_false]; rfl
/-- Two structs: are they one? -/
theorem ex_agg_eql {P : Program} {t : TypeId} {x y : Operand} {as bs : List D} {us vs : List Value} {fs : Array Field} (ha : D.exacts as = some us) (hb : D.exacts bs = some vs) (ht : P.underlying t = some (.struct fs)) (hp : P.stoodInHeld t = false) (hg : P.eqGuardType P.depth t = false) {q : Bool} (hq : eqList P 9999 us.toArray vs.toArray fs.toList = some q) :
    exBin P .eql t x y (.d (.agg as)) (.d (.agg bs)) = some { v := .d (.s (.bool q)) } ∧ exBin P .neq t x y (.d (.agg as)) (.d (.agg bs)) = some { v := .d (.s (.bool !q)) } := by
  have h1 := pure_equal ht hp hq
  constructor
  · simp only [exBin, A.exact, ha, hb, Option.map_some, pureRun_bind, pure_guard hg (Or.inl rfl), Option.bind_some, binOp, h1, pureRun_pure]; rfl
  · simp only [exBin, A.exact, ha, hb, Option.map_some, pureRun_bind, pure_guard hg (Or.inr rfl), Option.bind_some, binOp, h1, pureRun_pure]; rfl

/-! ### more of single operations -/
theorem pureRun_map {P : Program} {α β : Type} (f : α → β) (e : Sem α) : pureRun P (Functor.map f e) = (pureRun P e).map f := by
  show pureRun P (e >>= fun a => pure (f a)) = _
  rw [pureRun_bind]
  cases pureRun P e <;> rfl
theorem exactE_len (P : Program) (ev : Operand → A) (dst : Option Tmp) (x : Operand) (t ty : TypeId) (pos : String) (af : Array Edge) (g : Option (Nat × Bool)) : exactE P ev ⟨dst, .call ⟨.builtin .len, #[x], #[t]⟩, ty, pos, af, g⟩ = (match (ev x).exact with | some u => (pureRun P (Builtin.len_ #[t] ty #[u])).map fun v => { v := ofV v } | none => none) := by
  unfold exactE exactOp
  simp only [Op.operands, Call.operands]
  cases hx : (ev x).exact with
  | none => simp [hx]
  | some u =>
    simp only [execOp, resolve, invoke, builtin, hx, Option.getD_some, pureRun_bind, pureRun_pure]
    simp [hx, pureRun_bind, pureRun_pure, pureRun_map]
    cases pureRun P (Builtin.len_ #[t] ty #[u]) with
    | none => rfl
    | some _ => rfl
theorem len_str {P : Program} {t ty : TypeId} (s : ByteArray) (ht : P.underlying t = some .string) : pureRun P (Builtin.len_ #[t] ty #[.string s]) = some (.int .i64 s.size) := by
  have hu : pureRun P (underlying t) = some .string := by simp only [underlying, pureRun_bind, program, pureRun, Option.bind_some, ht]; rfl
  simp [Builtin.len_, pureRun_bind, hu]
  rfl
theorem exactE_conv (P : Program) (ev : Operand → A) (dst : Option Tmp) (src d : TypeId) (x : Operand) (ty : TypeId) (pos : String) (af : Array Edge) (g : Option (Nat × Bool)) : exactE P ev ⟨dst, .convert src d x, ty, pos, af, g⟩ = (match (ev x).exact with | some u => (pureRun P (convert src d u)).map fun v => { v := ofV v } | none => none) := by
  unfold exactE exactOp
  simp only [Op.operands]
  cases hx : (ev x).exact with
  | none => simp [hx]
  | some u =>
    simp only [execOp, hx, Option.getD_some, pureRun_bind, pureRun_pure]
    simp only [List.all_toArray, List.all_cons, List.all_nil, hx, Option.isSome_some, Bool.and_self, if_true]
    cases pureRun P (convert src d u) with
    | none => rfl
    | some _ => rfl
theorem conv_int {P : Program} {src d : TypeId} {k' : IntKind} {t0 : TypeDesc} (k : IntKind) (n : Int) (hs : P.underlying src = some t0) (hd : P.underlying d = some (.int k')) : pureRun P (convert src d (.int k n)) = some (.int k' (k'.wrap n)) := by
  have hu : pureRun P (underlying src) = some t0 := by simp only [underlying, pureRun_bind, program, pureRun, Option.bind_some, hs]; rfl
  have hu2 : pureRun P (underlying d) = some (.int k') := by simp only [underlying, pureRun_bind, program, pureRun, Option.bind_some, hd]; rfl
  simp only [convert, pureRun_bind, hu, hu2, Option.bind_some]
  cases t0 <;> rfl
theorem conv_str {P : Program} {src d : TypeId} {t0 : TypeDesc} (s : ByteArray) (hs : P.underlying src = some t0) (hd : P.underlying d = some .string) : pureRun P (convert src d (.string s)) = some (.string s) := by
  have hu : pureRun P (underlying src) = some t0 := by simp only [underlying, pureRun_bind, program, pureRun, Option.bind_some, hs]; rfl
  have hu2 : pureRun P (underlying d) = some .string := by simp only [underlying, pureRun_bind, program, pureRun, Option.bind_some, hd]; rfl
  simp only [convert, pureRun_bind, hu, hu2, Option.bind_some]
  cases t0 <;> rfl
theorem exactE_idx (P : Program) (ev : Operand → A) (dst : Option Tmp) (t : TypeId) (x i : Operand) (ty : TypeId) (pos : String) (af : Array Edge) (g : Option (Nat × Bool)) : exactE P ev ⟨dst, .index t x i, ty, pos, af, g⟩ = (match (ev x).exact, (ev i).exact with | some u, some v => (pureRun P (Instr.index t u v)).map fun v => { v := ofV v } | _, _ => none) := by
  unfold exactE exactOp
  simp only [Op.operands]
  cases hx : (ev x).exact with
  | none => simp [hx]
  | some u =>
    cases hy : (ev i).exact with
    | none => simp [hx, hy]
    | some v =>
      simp only [execOp, hx, hy, Option.getD_some, pureRun_bind, pureRun_pure]
      simp only [List.all_toArray, List.all_cons, List.all_nil, hx, hy, Option.isSome_some, Bool.and_self, if_true]
      cases pureRun P (Instr.index t u v) with
      | none => rfl
      | some _ => rfl
theorem idx_str {P : Program} {t : TypeId} (s : ByteArray) (k : IntKind) (i : Int) (ht : P.underlying t = some .string) (h0 : 0 ≤ i) (h1 : i < s.size) : pureRun P (Instr.index t (.string s) (.int k i)) = some (.int .u8 ((s.data.toList.getD i.toNat 0).toNat)) := by
  have hu : pureRun P (underlying t) = some .string := by simp only [underlying, pureRun_bind, program, pureRun, Option.bind_some, ht]; rfl
  have hi : i.toNat < s.size := by omega
  have hg : s[i.toNat]? = some s[i.toNat] := getElem?_pos s i.toNat hi
  have hg2 : s.data.toList.getD i.toNat 0 = s[i.toNat] := by
    rw [List.getD_eq_getElem?_getD, List.getElem?_eq_getElem (by simpa using hi)]; rfl
  simp only [Instr.index, asIntOf, pureRun_bind, pureRun_pure, Option.bind_some, hu]
  rw [if_pos h0, hg, hg2]; rfl
end Go.Proofs.YtkflfgkmbgjohaaDoor
