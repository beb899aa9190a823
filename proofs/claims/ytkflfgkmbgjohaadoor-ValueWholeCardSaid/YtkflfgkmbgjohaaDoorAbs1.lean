/-
  WHAT IS PROVED HERE: nothing yet: an interpreter of the model's code on plain data. A slice that nobody writes is a list; a variable in memory is a box; a slice that the call made is a vec.
-/
import Derived.Test.YtkflfgkmbgjohaaDoorBase
set_option linter.unusedVariables false
set_option linter.unusedSimpArgs false
namespace Go.Proofs.YtkflfgkmbgjohaaDoor
open Go Go.RowKit

/-- Plain data: an exact value of one cell; a struct's cells; a slice's elements. -/
inductive D where
  | s (v : Value)
  | agg (xs : List D)
  | lst (xs : List D)
  deriving Inhabited

/-- What a slot may hold. -/
inductive A where
  | any
  | d (x : D)
  | clip (xs : List D)
  | agg (xs : List A)
  | tup (xs : List A)
  | bp (id ver off : Nat)
  | sl (id ver off len : Nat)
  | op (id ver i off : Nat)
  | ep (xs : List D) (i off : Nat)
  | clo (f : FuncId) (caps : List A)
  deriving Inhabited

/-- What lies in the call's own memory. -/
inductive O where
  | no (ver : Nat)
  | box (ver : Nat) (cs : List A)
  | vec (ver n : Nat) (xs : List D) (fz : Bool)
  deriving Inhabited

def O.ver : O → Nat
  | .no v => v
  | .box v _ => v
  | .vec v _ _ _ => v
def O.freeze : O → O
  | .vec v n xs _ => .vec v n xs true
  | o => o
def O.kill (o : O) : O := .no o.ver

def upd {α : Type} (T : Nat → α) (i : Nat) (v : α) : Nat → α := fun j => if j = i then v else T j
def upds {α : Type} (T : Nat → α) : List (Nat × α) → Nat → α
  | [] => T
  | (i, v) :: l => upds (upd T i v) l

structure St where
  n : Nat
  fb : Nat
  t : Nat → A
  h : Nat → O

/-- What a call by value answers. -/
inductive R where
  | val (x : D)
  | tup (xs : List D)
  | fresh (n : Nat) (xs : List D)
  deriving Inhabited

def D.flat : D → Bool
  | .agg _ => false
  | _ => true
def D.cells : D → List D
  | .agg xs => xs
  | x => [x]
def A.cells : A → List A
  | .d x => x.cells.map .d
  | .agg xs => xs
  | x => [x]
def A.toD? : A → Option D
  | .d x => some x
  | _ => none
def A.allD : List A → Option (List D)
  | [] => some []
  | .d (.agg _) :: _ => none
  | .d x :: l => (allD l).map (x :: ·)
  | _ :: _ => none
/-- A struct out of its cells. -/
def A.mk (l : List A) : A :=
  match A.allD l with
  | some ds => .d (.agg ds)
  | none => .agg l
/-- One cell, and storable. -/
def A.one : A → Bool
  | .d (.s v) => v.oneCell'
  | .d (.lst _) | .clip _ | .bp .. | .sl .. | .op .. | .ep .. | .clo .. => true
  | _ => false

/-- An exact value as data. -/
def ofCell : Value → A
  | .slice none 0 0 => .clip []
  | .agg _ => .any
  | v => .d (.s v)
def ofV : Value → A
  | .agg cs => A.mk (cs.toList.map ofCell)
  | .tuple vs => .tup (vs.toList.map ofCell)
  | v => ofCell v

def D.exact : D → Option Value
  | .s v => some v
  | _ => none
def D.exacts : List D → Option (List Value)
  | [] => some []
  | .s v :: l => (exacts l).map (v :: ·)
  | _ :: _ => none
def A.exact : A → Option Value
  | .d (.s v) => some v
  | .d (.agg xs) => (D.exacts xs).map fun vs => .agg vs.toArray
  | _ => none

/-- A computation that asks of the program alone. -/
def pureRun (P : Program) {α : Type} : Sem α → Option α
  | .pure a => some a
  | .program k => pureRun P (k P)
  | _ => none

def St.ev (st : St) : Operand → A
  | .tmp t => if t < st.n then st.t t else .d (.s undef)
  | .const v => ofV v
  | .global g => .d (.s (.pointer (some ⟨g, 0, none⟩)))
  | .func f => .clo f []

def exactOp (P : Program) (ev : Operand → A) (o : Oper) : Option Value :=
  if o.op.operands.all fun x => (ev x).exact.isSome then
    match pureRun P (execOp (fun x => ((ev x).exact).getD undef) o) with
    | some (.value v) => some v
    | _ => none
  else none

def tsize (P : Program) (t : TypeId) : Option Nat := (P.info? t).map (·.size)
def tagg (P : Program) (t : TypeId) : Option Bool :=
  match P.underlying t with
  | some (.struct _) | some (.array _ _) => some true
  | some _ => some false
  | none => none
def telem (P : Program) (t : TypeId) : Option TypeId :=
  match P.underlying t with
  | some (.slice e) => some e
  | _ => none
def tzero (P : Program) (t : TypeId) : Option Value := (P.info? t).bind (·.zero)

/-- The value of type t whose cells begin a list. -/
def takeVal (P : Program) (t : TypeId) (l : List A) : Option A :=
  match tagg P t, tsize P t with
  | some true, some n => if n ≤ l.length then some (A.mk (l.take n)) else none
  | some false, some _ => l.head?
  | _, _ => none

/-- What an operation does: its value; what it looked at; what it wrote. -/
structure Eff where
  v : A
  rd : List Nat := []
  wr : List (Nat × O) := []

def loadE (P : Program) (h : Nat → O) (t : TypeId) : A → Option Eff
  | .bp id ver off =>
    match h id with
    | .box v cs => if v = ver then (takeVal P t (cs.drop off)).map fun x => { v := x, rd := [id] } else none
    | _ => none
  | .op id ver i off =>
    match h id with
    | .vec v _ xs _ => if v = ver then (xs[i]?).bind fun x => (takeVal P t ((x.cells.map .d).drop off)).map fun y => { v := y, rd := [id] } else none
    | _ => none
  | .ep xs i off => (xs[i]?).bind fun x => (takeVal P t ((x.cells.map .d).drop off)).map fun y => { v := y }
  | _ => none

/-- A list with some cells replaced. -/
def put {α : Type} (l : List α) (off : Nat) (xs : List α) : List α := l.take off ++ xs ++ l.drop (off + xs.length)

def storeE (P : Program) (h : Nat → O) (t : TypeId) (a x : A) : Option Eff :=
  match a with
  | .bp id ver off =>
    match h id, tsize P t with
    | .box v cs, some n =>
      if v = ver ∧ x.cells.length = n ∧ off + n ≤ cs.length ∧ x.cells.all A.one then
        some { v := .d (.s undef), rd := [id], wr := [(id, .box v (put cs off x.cells))] }
      else none
    | _, _ => none
  | _ => none

def fieldAddrE (P : Program) (s : TypeId) (x : A) (f : Nat) : Option Eff :=
  match P.underlying s with
  | some (.struct fs) =>
    match (fs[f]? : Option Field) with
    | some fd =>
      match tsize P fd.type with
      | some (_ + 1) =>
        match x with
        | .bp id ver off => some { v := .bp id ver (off + fd.offset) }
        | .op id ver i off => some { v := .op id ver i (off + fd.offset) }
        | .ep xs i off => some { v := .ep xs i (off + fd.offset) }
        | _ => none
      | _ => none
    | none => none
  | _ => none

def intOfA : A → Option Int
  | .d (.s (.int _ n)) => some n
  | _ => none

def idxE (xs : List D) (sz : Nat) (i : Int) : Option Eff :=
  if 0 ≤ i ∧ i < xs.length ∧ ((xs[i.toNat]?).map fun x => x.cells.length) = some sz then some { v := .ep xs i.toNat 0 } else none

def indexAddrE (P : Program) (h : Nat → O) (t : TypeId) (x ix : A) : Option Eff :=
  match intOfA ix, P.underlying t with
  | some i, some (.slice e) =>
    match tsize P e, x with
    | some sz, .d (.lst xs) => idxE xs sz i
    | some sz, .clip xs => idxE xs sz i
    | some sz, .sl id ver off len =>
      match h id with
      | .vec v n _ _ => if v = ver ∧ n = sz ∧ 0 ≤ i ∧ i < len then some { v := .op id ver (off + i.toNat) 0, rd := [id] } else none
      | _ => none
    | _, _ => none
  | some i, some (.array len e) =>
    match tsize P e, x with
    | some sz, .bp id ver off => if 0 ≤ i ∧ i < len then some { v := .bp id ver (off + i.toNat * sz) } else none
    | _, _ => none
  | _, _ => none

/-- A part of a struct's or an array's cells. -/
def partE (P : Program) (t : TypeId) (cs : List A) (off : Nat) : Option A :=
  match tagg P t, tsize P t with
  | some true, some n => if off + n ≤ cs.length then some (A.mk ((cs.drop off).take n)) else none
  | some false, some _ => cs[off]?
  | _, _ => none
def A.isAgg : A → Bool
  | .d (.agg _) | .agg _ => true
  | _ => false
def fieldE (P : Program) (s : TypeId) (x : A) (f : Nat) : Option A :=
  match P.underlying s with
  | some (.struct fs) =>
    match (fs[f]? : Option Field) with
    | some fd => if x.isAgg then partE P fd.type x.cells fd.offset else none
    | none => none
  | _ => none
def indexE (P : Program) (t : TypeId) (x ix : A) : Option A :=
  match intOfA ix, P.underlying t with
  | some i, some (.array len e) =>
    match tsize P e with
    | some sz => if x.isAgg ∧ 0 ≤ i ∧ i < len then partE P e x.cells (i.toNat * sz) else none
    | none => none
  | _, _ => none

def A.isAny : A → Bool
  | .any => true
  | _ => false
def fillA (place : Nat → Option (Nat × Nat)) : List A → List (Nat × A) → Option (List A)
  | cells, [] => some cells
  | cells, (i, x) :: rest =>
    match place i with
    | none => none
    | some (off, size) => if x.cells.length ≠ size ∨ cells.length < off + x.cells.length ∨ x.isAny = true then none else fillA place (put cells off x.cells) rest
def places (P : Program) : List Field → Option (List (Nat × Nat))
  | [] => some []
  | f :: l => match tsize P f.type, places P l with
    | some n, some r => some ((f.offset, n) :: r)
    | _, _ => none
def buildE (P : Program) (t : TypeId) (parts : List (Nat × A)) : Option A :=
  match tzero P t, P.underlying t with
  | some z, some (.struct fs) =>
    match places P fs.toList with
    | some pl => (fillA (fun i => pl[i]?) (z.cells.toList.map ofCell) parts).map A.mk
    | none => none
  | some z, some (.array _ e) =>
    match tsize P e with
    | some sz => (fillA (fun i => some (i * sz, sz)) (z.cells.toList.map ofCell) parts).map A.mk
    | none => none
  | _, _ => none

/-- A cell as plain data; the vecs that are frozen by it. -/
def fzCell (h : Nat → O) : A → Option (D × List Nat)
  | .d x => some (x, [])
  | .clip xs => some (.lst xs, [])
  | .sl id ver off len =>
    match h id with
    | .vec v _ xs _ => if v = ver ∧ off + len ≤ xs.length then some (.lst ((xs.drop off).take len), [id]) else none
    | _ => none
  | _ => none
def fzCells (h : Nat → O) : List A → Option (List D × List Nat)
  | [] => some ([], [])
  | a :: l =>
    match fzCell h a, fzCells h l with
    | some (x, i), some (xs, j) => if x.flat then some (x :: xs, i ++ j) else none
    | _, _ => none
def fzVal (h : Nat → O) : A → Option (D × List Nat)
  | .agg cs => (fzCells h cs).map fun (xs, i) => (.agg xs, i)
  | a => fzCell h a
def fzVals (h : Nat → O) : List A → Option (List D × List Nat)
  | [] => some ([], [])
  | a :: l =>
    match fzVal h a, fzVals h l with
    | some (x, i), some (xs, j) => some (x :: xs, i ++ j)
    | _, _ => none
def O.fz : O → Bool
  | .vec _ _ _ fz => fz
  | _ => true
def frz (h : Nat → O) : List Nat → List (Nat × O)
  | [] => []
  | i :: l => if (h i).fz then frz h l else (i, (h i).freeze) :: frz h l

/-- The elements out of their cells. -/
def chunk (ag : Bool) (sz : Nat) : Nat → List D → List D
  | 0, _ => []
  | n + 1, l => (if ag then .agg (l.take sz) else (l.head?).getD default) :: chunk ag sz n (l.drop sz)

def buildSliceE (P : Program) (h : Nat → O) (id : Nat) (t : TypeId) (len : Nat) (parts : List (Nat × A)) : Option Eff :=
  match telem P t with
  | none => none
  | some e =>
    match tsize P e, tagg P e, tzero P e with
    | some sz, some ag, some z =>
      if len * sz ≤ 16777216 ∧ (ag || sz == 1) ∧ 0 < sz ∧ z.cells.size = sz then
        match fillA (fun i => some (i * sz, sz)) ((List.replicate len (z.cells.toList.map ofCell)).flatten) parts with
        | none => none
        | some cs =>
          if !cs.all A.one then none else
          match fzCells h cs with
          | none => none
          | some (ds, ids) => some { v := .sl id ((h id).ver + 1) 0 len, rd := id :: ids, wr := frz h ids ++ [(id, .vec ((h id).ver + 1) sz (chunk ag sz len ds) false)] }
      else none
    | _, _, _ => none

/-- What a slice, or a text, has: for append. -/
def elemsOf (h : Nat → O) : A → Option (List D × List Nat)
  | .d (.lst xs) => some (xs, [])
  | .clip xs => some (xs, [])
  | .sl id ver off len =>
    match h id with
    | .vec v _ xs _ => if v = ver ∧ off + len ≤ xs.length then some ((xs.drop off).take len, [id]) else none
    | _ => none
  | .d (.s (.string s)) => some (s.data.toList.map fun b => .s (.int .u8 b.toNat), [])
  | _ => none
def headOk (sz : Nat) : List D → Bool
  | [] => true
  | x :: _ => x.cells.length == sz
def appendE (P : Program) (h : Nat → O) (id : Nat) (t : TypeId) (s x : A) : Option Eff :=
  match telem P t with
  | none => none
  | some e =>
    match tsize P e, tzero P e, elemsOf h x with
    | some sz, some z, some (ys, rx) =>
      if 0 < sz ∧ headOk sz ys ∧ z.cells.size = sz then
        match s with
        | .clip xs =>
          if headOk sz xs ∧ (xs.length + ys.length) * (P.bytesOf e + 1) ≤ 70368744177664 then
            if ys.isEmpty && !xs.isEmpty then some { v := .clip xs, rd := rx }
            else some { v := .sl id ((h id).ver + 1) 0 (xs.length + ys.length), rd := id :: rx, wr := [(id, .vec ((h id).ver + 1) sz (xs ++ ys) false)] }
          else none
        | .sl i ver off len =>
          match h i with
          | .vec v n xs fz =>
            if v = ver ∧ off + len = xs.length ∧ n = sz ∧ (len + ys.length) * (P.bytesOf e + 1) ≤ 70368744177664 then
              some { v := .sl id ((h id).ver + 1) 0 (len + ys.length), rd := id :: i :: rx, wr := [(i, .no v), (id, .vec ((h id).ver + 1) sz (xs.drop off ++ ys) fz)] }
            else none
          | _ => none
        | _ => none
      else none
    | _, _, _ => none

def boundE (lo hi : Option A) (len : Nat) : Option (Nat × Nat) :=
  match (match hi with | some a => intOfA a | none => some (len : Int)) with
  | none => none
  | some h =>
    match (match lo with | some a => intOfA a | none => some 0) with
    | none => none
    | some l => if 0 ≤ l ∧ l ≤ h ∧ h ≤ len then some (l.toNat, h.toNat) else none
def maxOk (mx hi : Option A) (h : Nat) : Bool :=
  match mx with
  | none => true
  | some a => hi.isSome && intOfA a == some (h : Int)
def sliceE (P : Program) (h : Nat → O) (t : TypeId) (x : A) (lo hi mx : Option A) : Option Eff :=
  match telem P t with
  | none => none
  | some e =>
    match tsize P e with
    | none => none
    | some sz =>
      match x with
      | .d (.lst xs) =>
        match boundE lo hi xs.length with
        | some (l, u) => if maxOk mx hi u ∧ headOk sz xs then some { v := if mx.isSome then .clip ((xs.take u).drop l) else .d (.lst ((xs.take u).drop l)) } else none
        | none => none
      | .clip xs =>
        match boundE lo hi xs.length with
        | some (l, u) => if maxOk mx hi u ∧ headOk sz xs then some { v := if mx.isSome ∨ u = xs.length then .clip ((xs.take u).drop l) else .d (.lst ((xs.take u).drop l)) } else none
        | none => none
      | .sl id ver off len =>
        match h id, boundE lo hi len with
        | .vec v n xs _, some (l, u) =>
          if v = ver ∧ off + len ≤ xs.length ∧ (xs.isEmpty || n == sz) ∧ mx.isNone then some { v := .sl id ver (off + l) (u - l), rd := [id] } else none
        | _, _ => none
      | _ => none

/-- The bytes that elements are. -/
def bytesOfD : List D → Option (List UInt8)
  | [] => some []
  | .s (.int .u8 n) :: l => (bytesOfD l).map (UInt8.ofNat n.toNat :: ·)
  | _ :: _ => none
def convertE (P : Program) (h : Nat → O) (id : Nat) (src dst : TypeId) (x : A) : Option Eff :=
  match P.underlying src, P.underlying dst with
  | some (.slice e), some .string =>
    match P.underlying e, elemsOf h x, x with
    | some (.int .u8), some _, .d (.s _) => none
    | some (.int .u8), some (xs, rd), _ => (bytesOfD xs).map fun l => { v := .d (.s (.string ⟨l.toArray⟩)), rd }
    | _, _, _ => none
  | some .string, some (.slice e) =>
    match P.underlying e, x with
    | some (.int .u8), .d (.s (.string s)) => some { v := .sl id ((h id).ver + 1) 0 s.size, rd := [id], wr := [(id, .vec ((h id).ver + 1) 1 (s.data.toList.map fun b => .s (.int .u8 b.toNat)) false)] }
    | _, _ => none
  | _, _ => none

def lenE : A → Option Nat
  | .d (.lst xs) => some xs.length
  | .clip xs => some xs.length
  | .sl _ _ _ len => some len
  | _ => none

abbrev Orc := FuncId → List D → Option R

def callE (X : Orc) (h : Nat → O) (id : Nat) (f : FuncId) (args : List A) : Option Eff :=
  match fzVals h args with
  | none => none
  | some (ds, ids) =>
    match X f ds with
    | some (.val x) => some { v := .d x, rd := ids, wr := frz h ids }
    | some (.tup xs) => some { v := .tup (xs.map .d), rd := ids, wr := frz h ids }
    | some (.fresh n xs) => some { v := .sl id ((h id).ver + 1) 0 xs.length, rd := id :: ids, wr := frz h ids ++ [(id, .vec ((h id).ver + 1) n xs false)] }
    | none => none

def plainE (x : Option A) : Option Eff := x.map fun v => { v }
def exactE (P : Program) (ev : Operand → A) (o : Oper) : Option Eff := (exactOp P ev o).map fun v => { v := ofV v }

def A.bool? : A → Option Bool
  | .d (.s (.bool b)) => some b
  | _ => none

def slOrStr : TypeDesc → Bool
  | .slice _ | .string => true
  | _ => false
def okSrc (P : Program) (t : TypeId) : Bool :=
  match P.underlying t with
  | some d => slOrStr d
  | none => false
def opE (P : Program) (X : Orc) (ev : Operand → A) (h : Nat → O) (id : Nat) (o : Oper) : Option Eff :=
  match o.op with
  | .move x | .assign x => some { v := ev x }
  | .pick c a b => if (ev c).bool? = some true then some { v := ev a } else if (ev c).bool? = some false then some { v := ev b } else none
  | .alloc t => (tzero P t).map fun z => { v := .bp id ((h id).ver + 1) 0, rd := [id], wr := [(id, .box ((h id).ver + 1) (z.cells.toList.map ofCell))] }
  | .box t x => if tsize P t = some (ev x).cells.length ∧ (ev x).cells.all A.one then some { v := .bp id ((h id).ver + 1) 0, rd := [id], wr := [(id, .box ((h id).ver + 1) (ev x).cells)] } else none
  | .build t parts => plainE (buildE P t (parts.toList.map fun p => (p.1, ev p.2)))
  | .buildSlice t len parts => buildSliceE P h id t len (parts.toList.map fun p => (p.1, ev p.2))
  | .load t a => loadE P h t (ev a)
  | .store t a x => storeE P h t (ev a) (ev x)
  | .fieldAddr s x f => fieldAddrE P s (ev x) f
  | .indexAddr t x i => indexAddrE P h t (ev x) (ev i)
  | .field s x f => plainE (fieldE P s (ev x) f)
  | .index t x i => match (ev x).exact with | some _ => exactE P ev o | none => plainE (indexE P t (ev x) (ev i))
  | .slice t x lo hi mx => match (ev x).exact with | some _ => exactE P ev o | none => sliceE P h t (ev x) (lo.map ev) (hi.map ev) (mx.map ev)
  | .convert src dst x => match exactE P ev o with | some e => some e | none => convertE P h id src dst (ev x)
  | .extract t i => match ev t with | .tup xs => (xs[i]?).map fun v => { v } | _ => none
  | .call c =>
    match c.callee with
    | .builtin .append => match c.args.toList, c.argTypes.toList with | [s, x], [t, t'] => if okSrc P t' then appendE P h id t (ev s) (ev x) else none | _, _ => none
    | .builtin .len => match c.args.toList, c.argTypes.toList with | [x], [t] => (match (ev x).exact with | some _ => exactE P ev o | none => if (telem P t).isSome then (lenE (ev x)).map fun (n : Nat) => { v := .d (.s (.int .i64 (n : Int))) } else none) | _, _ => none
    | .builtin _ => exactE P ev o
    | .value (.func f) => callE X h id f (c.args.toList.map ev)
    | _ => none
  | .select _ _ => none
  | _ => exactE P ev o

inductive Ex where
  | normal | exit (id : Nat) | goto (l : Nat) | ret
  deriving DecidableEq, Inhabited

/-- One operation. -/
def St.put (st : St) (dst : Option Tmp) (e : Eff) : St :=
  { st with t := (match dst with | some d => upd st.t d e.v | none => st.t), h := upds st.h e.wr }
def dstOk (n : Nat) : Option Tmp → Bool
  | some d => d < n
  | none => true
def wantedA (ops : Array Oper) (st : St) (o : Oper) : Option Bool :=
  match o.guard with
  | none => some true
  | some (j, want) =>
    match (ops[j]?).bind (·.dst) with
    | some d => if d < st.n then (match st.t d with | .d (.s (.bool b)) => some (b == want) | .d (.s (.tuple _)) => some false | _ => none) else none
    | none => none
def stepE (P : Program) (X : Orc) (ops : Array Oper) (o : Oper) (st : St) : Option Eff :=
  if dstOk st.n o.dst then
    match wantedA ops st o with
    | some true => opE P X st.ev st.h (st.fb + o.dst.getD st.n) o
    | some false => some { v := .d (.s undef) }
    | none => none
  else none
def stepSt (P : Program) (X : Orc) (ops : Array Oper) (o : Oper) (st : St) : Option St := (stepE P X ops o st).map (st.put o.dst)
def runOps (P : Program) (X : Orc) (ops : Array Oper) : List Oper → St → Option St
  | [], st => some st
  | o :: l, st => (stepSt P X ops o st).bind (runOps P X ops l)

/-- With what each operation did. -/
def runTr (P : Program) (X : Orc) (ops : Array Oper) : List Oper → St → Option (St × List Eff)
  | [], st => some (st, [])
  | o :: l, st =>
    match stepE P X ops o st with
    | none => none
    | some e =>
      match runTr P X ops l (st.put o.dst e) with
      | none => none
      | some (st', es) => some (st', e :: es)
/-- Operation i is ahead of operation j, by edges that bind. -/
def reach (ops : Array Oper) : Nat → Nat → Nat → Bool
  | 0, _, _ => false
  | n + 1, i, j =>
    match ops[j]? with
    | none => false
    | some o => (o.after.any fun e => Region.binds .any e && e.on == i) || o.after.any fun e => Region.binds .any e && (decide (i < e.on) && reach ops n i e.on)
def objConf (a b : Eff) : Bool := (a.wr.any fun p => b.rd.contains p.1 || b.wr.any fun q => q.1 == p.1) || (b.wr.any fun p => a.rd.contains p.1)
/-- Whatever two operations that are not ordered do, they do not meet. -/
def raceFree (ops : Array Oper) (es : List Eff) : Bool :=
  (List.range ops.size).all fun j => (match ops[j]? with | none => false | some o => o.after.all fun e => !Region.binds .any e || e.on < j) &&
    (List.range j).all fun i =>
      match ops[i]?, ops[j]?, es[i]?, es[j]? with
      | some x, some y, some a, some b => (Oper.apart ops x y && !objConf a b) || reach ops ops.size i j
      | _, _, _, _ => false

def iter (f : St → Option (Ex × St)) : Nat → St → Option (Ex × St)
  | 0, _ => none
  | n + 1, st =>
    match f st with
    | some (.normal, st') => iter f n st'
    | r => r
def exec (P : Program) (X : Orc) (n : Nat) : Code → St → Option (Ex × St)
  | .skip, st | .label _, st => some (.normal, st)
  | .region _ ops false, st => (runOps P X ops ops.toList st).map fun st' => (.normal, st')
  | .region _ ops true, st =>
    match runTr P X ops ops.toList st with
    | some (st', es) => if raceFree ops es then some (.normal, st') else none
    | none => none
  | .seq a b, st =>
    match exec P X n a st with
    | some (.normal, st') => exec P X n b st'
    | r => r
  | .cond c a b, st =>
    match (st.ev c).bool? with
    | some true => exec P X n a st
    | some false => exec P X n b st
    | none => none
  | .block id c, st =>
    match exec P X n c st with
    | some (.exit j, st') => if j = id then some (.normal, st') else some (.exit j, st')
    | r => r
  | .loop c, st => iter (exec P X n c) n st
  | .exit id, st => some (.exit id, st)
  | .scope c, st =>
    match exec P X n c st with
    | some (.goto _, _) => none
    | r => r
  | .goto l, st => some (.goto l, st)
  | .ret, st => some (.ret, st)
  | _, _ => none

def resA (P : Program) (st : St) : ResultVar → Option A
  | .tmp t => if t < st.n then some (st.t t) else none
  | .cell a t => if a < st.n then (loadE P st.h t (st.t a)).map (·.v) else none
def resAs (P : Program) (st : St) : List ResultVar → Option (List A)
  | [] => some []
  | r :: l =>
    match resA P st r, resAs P st l with
    | some a, some as => some (a :: as)
    | _, _ => none
def resR (h : Nat → O) : List A → Option R
  | [.sl id ver off len] =>
    match h id with
    | .vec v n xs fz => if v = ver ∧ off + len ≤ xs.length then (if fz = false ∧ off = 0 ∧ len = xs.length then some (.fresh n xs) else some (.val (.lst ((xs.drop off).take len)))) else none
    | _ => none
  | [a] => (fzVal h a).map fun p => .val p.1
  | as => (fzVals h as).map fun p => .tup p.1

def initSt (fn : Func) (ds : List D) : St :=
  { n := fn.ntmps, fb := 0, t := fun i => (ds.map A.d).getD i (.d (.s undef)), h := fun _ => .no 0 }
/-- One call by value. -/
def body (P : Program) (X : Orc) (n : Nat) (f : FuncId) (ds : List D) : Option R :=
  match P.funcs[f]? with
  | none => none
  | some fn =>
    match fn.body with
    | none => none
    | some c =>
      if ds.length ≤ fn.ntmps ∧ fn.name ≠ "runtime.NumGoroutine" then
        match exec P X n c (initSt fn ds) with
        | some (.normal, st) | some (.ret, st) => (resAs P st fn.results.toList).bind (resR st.h)
        | _ => none
      else none
/-- With so much fuel; 'ext' are functions that are known otherwise. -/
def eval (P : Program) (ext : FuncId → Option (List D → Option R)) : Nat → Orc
  | 0 => fun _ _ => none
  | n + 1 => fun f ds =>
    match ext f with
    | some g => g ds
    | none => body P (eval P ext n) (n + 1) f ds
end Go.Proofs.YtkflfgkmbgjohaaDoor
