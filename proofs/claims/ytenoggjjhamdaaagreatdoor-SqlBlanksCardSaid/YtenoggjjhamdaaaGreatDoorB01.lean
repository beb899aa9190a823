/-
  WHAT IS PROVED HERE: parts of the proof: Base In1 In2 In3.
-/
import Derived.WalkKit
import Derived.Deep.Quiet
import Derived.Laws.IdiomCopy
import Derived.Laws.Cells
set_option linter.all false
section
namespace Go.Proofs.YtenoggjjhamdaaaGreatDoor
open Go.RowKit
theorem hid {p:Prop} (h:p):Hid p:=h
abbrev Ext (w w':World):Prop:=Below w.heap.size w w'
theorem Ext.refl (w:World):Ext w w:=Below.refl _ w
theorem Ext.trans {a b c:World} (h:Ext a b) (k:Ext b c):Ext a c:=Below.trans h (k.mono h.size)
theorem Ext.alloc (w:World) (o:Obj):Ext w (w.alloc o):=(Below.refl _ _).alloc (Nat.le_refl _) _
theorem Ext.drew (w:World):Ext w w.drew:=(Below.refl _ _).drew
theorem Ext.drewN (w:World) (n:Nat):Ext w (w.drewN n):=⟨rfl,rfl,rfl,Nat.le_refl _,fun _ _=>rfl⟩
theorem lt_of_cell {w:World} {p:Addr} {v:Value} (h:w.cell? p=some v):p.block < w.heap.size:=by
 unfold World.cell? at h
 by_cases hlt:p.block < w.heap.size
 ·exact hlt
 ·rw [Array.getElem?_eq_none (by omega)] at h; simp at h
theorem Ext.cell {w w':World} (h:Ext w w') {p:Addr} {v:Value} (hc:w.cell? p=some v):w'.cell? p=some v:=by
 rw [Below.cell h (lt_of_cell hc)]; exact hc
def CellsAt (w:World) (b o:Nat) (l:List Value):Prop:=∀ j (h:j < l.length),w.cell? ⟨b,o + j,none⟩=some l[j]
theorem CellsAt.ext {w w':World} {b o:Nat} {l:List Value} (h:CellsAt w b o l) (hx:Ext w w'):CellsAt w' b o l :=
 fun j hj=>hx.cell (h j hj)
structure SliceOf {α:Type} (n:Nat) (R:World→α→List Value→Prop) (w:World) (v:Value) (xs:List α):Prop where
 out:∃ a cap,v = .slice a xs.length cap∧xs.length ≤ cap∧cap ≤ maxLen∧(a=none→cap=0)∧(∀ i (_:i < xs.length),∃ b off,a=some ⟨b,off,none⟩ ∧ ∃ l,l.length=n∧R w xs[i] l∧CellsAt w b (off + i * n) l)
def Keeps {α:Type} (R:World→α→List Value→Prop):Prop:=∀ w w' x l,Ext w w'→R w x l→R w' x l
theorem SliceOf.ext {α:Type} {n:Nat} {R:World→α→List Value→Prop} {w w':World} {v:Value} {xs:List α} (h:SliceOf n R w v xs) (hR:Keeps R) (hx:Ext w w'):SliceOf n R w' v xs:=by
 obtain ⟨a,cap,h1,h2,h3,h4,h5⟩:=h.out
 exact ⟨a,cap,h1,h2,h3,h4,fun i hi=>by
  obtain ⟨b,off,h6,l,h7,h8,h9⟩:=h5 i hi
  exact ⟨b,off,h6,l,h7,hR _ _ _ _ hx h8,h9.ext hx⟩⟩
theorem SliceOf.cases {α:Type} {n:Nat} {R:World→α→List Value→Prop} {w:World} {v:Value} {xs:List α} (h:SliceOf n R w v xs) :
  (xs=[] ∧ ∃ a cap,v = .slice a 0 cap∧cap ≤ maxLen∧(a=none→cap=0)) ∨
  (0 < xs.length ∧ ∃ b off cap,v = .slice (some ⟨b,off,none⟩) xs.length cap∧xs.length ≤ cap∧cap ≤ maxLen ∧ ∀ i (_:i < xs.length),∃ l,l.length=n∧R w xs[i] l∧CellsAt w b (off + i * n) l):=by
 obtain ⟨a,cap,h1,h2,h3,h4,h5⟩:=h.out
 by_cases h0:xs.length=0
 ·have:xs=[]:=List.length_eq_zero_iff.1 h0
  subst this
  exact Or.inl ⟨rfl,a,cap,h1,h3,h4⟩
 ·obtain ⟨b,off,h6,l,h7,h8,h9⟩:=h5 0 (by omega)
  subst h6
  refine Or.inr ⟨by omega,b,off,cap,h1,h2,h3,fun i hi=>?_⟩
  obtain ⟨b',off',h6',l',h'⟩:=h5 i hi
  simp only [Option.some.injEq,Addr.mk.injEq,and_true] at h6'
  obtain ⟨rfl,rfl⟩:=h6'
  exact ⟨l',h'⟩
theorem SliceOf.of {α:Type} {n:Nat} {R:World→α→List Value→Prop} {w:World} {b off cap:Nat} {xs:List α} (h2:xs.length ≤ cap) (h3:cap ≤ maxLen) (h:∀ i (_:i < xs.length),∃ l,l.length=n∧R w xs[i] l∧CellsAt w b (off + i * n) l) :
  SliceOf n R w (.slice (some ⟨b,off,none⟩) xs.length cap) xs :=
 ⟨_,cap,rfl,h2,h3,(by simp),fun i hi=>⟨b,off,rfl,h i hi⟩⟩
theorem SliceOf.nil {α:Type} {n:Nat} {R:World→α→List Value→Prop} {w:World}:SliceOf n R w (.slice none 0 0) ([]:List α) :=
 ⟨none,0,rfl,by simp,by simp,by simp,fun i hi=>by simp at hi⟩
theorem SliceOf.take {α:Type} {n:Nat} {R:World→α→List Value→Prop} {w:World} {b off len cap:Nat} {xs:List α} (h:SliceOf n R w (.slice (some ⟨b,off,none⟩) len cap) xs) (k:Nat) (hk:k ≤ xs.length) :
  SliceOf n R w (.slice (some ⟨b,off,none⟩) k cap) (xs.take k):=by
 have hl:(xs.take k).length=k:=by simp; omega
 rcases h.cases with ⟨rfl,a,cap',h1,h2,h3⟩ | ⟨h0,b',off',cap',h1,h2,h3,h4⟩
 ·simp only [Value.slice.injEq] at h1
  obtain ⟨rfl,rfl,rfl⟩:=h1
  simp at hk
  subst hk
  exact ⟨_,cap,rfl,by simp,h2,by simp,fun i hi=>by simp at hi⟩
 ·simp only [Value.slice.injEq,Option.some.injEq,Addr.mk.injEq,and_true] at h1
  obtain ⟨⟨rfl,rfl⟩,rfl,rfl⟩:=h1
  refine ⟨_,cap,by rw [hl],by omega,h3,by simp,fun i hi=>⟨b,off,rfl,?_⟩⟩
  obtain ⟨l,h5,h6,h7⟩:=h4 i (by omega)
  exact ⟨l,h5,by simpa using h6,h7⟩
def Enters (P:Program) (f:FuncId):Prop:=∀ (args:Array Value) (w:World),(callFunc f args).run P w = .ok (.enter f args) w
theorem enters_of {P:Program} {f:FuncId} {fn:Func} (hf:P.funcs[f]? = some fn) (hname:(fn.name == "runtime.NumGoroutine")=false) (hb:fn.body.isNone=false):Enters P f:=by
 intro args w
 simp only [callFunc,program,Sem.run,bind,Sem.bind,hf,hname,hb,pure,Bool.false_eq_true,if_false]
end Go.Proofs.YtenoggjjhamdaaaGreatDoor
end
namespace Go.Proofs.YtenoggjjhamdaaaGreatDoor
open Go Go.RowKit
section
inductive D where
 | s (v:Value)
 | agg (xs:List D)
 | lst (xs:List D)
 | ifc (t:TypeId) (x:D)
 | any
 deriving Inhabited
abbrev Id:=Nat × Nat
inductive A where
 | any
 | d (x:D)
 | clip (xs:List D)
 | agg (xs:List A)
 | tup (xs:List A)
 | bp (id:Id) (ver off:Nat)
 | sl (id:Id) (ver off len:Nat)
 | op (id:Id) (ver i off:Nat)
 | ep (xs:List D) (i off:Nat)
 | clo (f:FuncId) (caps:List A)
 | mp (id:Id) (ver:Nat)
 | it (id:Id) (ver:Nat)
 deriving Inhabited
inductive O where
 | no (ver:Nat)
 | box (ver:Nat) (cs:List A)
 | vec (ver n:Nat) (xs:List D) (fz:Bool)
 | map (ver:Nat) (es:List (Nat × Value × A)) (clock:Nat)
 | sit (ver:Nat) (s:ByteArray) (pos:Nat)
 | mit (ver:Nat) (m:Option (Id × Nat)) (since:Nat) (seen:List Nat × Option Nat) (last:Nat)
 deriving Inhabited
def O.ver:O→Nat
 | .no v=>v
 | .box v _=>v
 | .vec v _ _ _=>v
 | .map v _ _=>v
 | .sit v _ _=>v
 | .mit v _ _ _ _=>v
def O.freeze:O→O
 | .vec v n xs _=>.vec v n xs true
 | o=>o
def O.kill (o:O):O:=.no o.ver
def upd {κ α:Type} [DecidableEq κ] (T:κ→α) (i:κ) (v:α):κ→α:=fun j=>if j=i then v else T j
def upds {κ α:Type} [DecidableEq κ] (T:κ→α):List (κ × α)→κ→α
 | []=>T
 | (i,v) :: l=>upds (upd T i v) l
structure St where
 n:Nat
 d:Nat
 t:Nat→A
 h:Id→O
 al:List Id
inductive R where
 | val (x:D)
 | tup (xs:List A)
 | fresh (n:Nat) (xs:List D)
 | ref (a:A)
 | mapf (es:List (Nat × Value × A)) (clock:Nat)
 | freshT (n:Nat) (xs:List D) (rest:List A)
 deriving Inhabited
def D.flat:D→Bool
 | .agg _=>false
 | _=>true
def D.cells:D→List D
 | .agg xs=>xs
 | x=>[x]
def A.cells:A→List A
 | .d x=>x.cells.map .d
 | .agg xs=>xs
 | x=>[x]
def A.toD?:A→Option D
 | .d x=>some x
 | _=>none
def A.allD:List A→Option (List D)
 | []=>some []
 | .d (.agg _) :: _=>none
 | .d x :: l=>(allD l).map (x :: ·)
 | _ :: _=>none
def A.mk (l:List A):A :=
 match A.allD l with
 | some ds=>.d (.agg ds)
 | none=>.agg l
def A.one:A→Bool
 | .d (.s v)=>v.oneCell'
 | .d (.lst _) | .d (.ifc ..) | .d .any | .clip _ | .bp .. | .sl .. | .op .. | .ep .. | .clo .. | .mp .. | .it ..=>true
 | _=>false
mutual
def A.low (k:Nat):A→Bool
 | .any | .d _ | .clip _ | .ep ..=>true
 | .agg xs | .tup xs=>A.lows k xs
 | .bp id _ _ | .sl id _ _ _ | .op id _ _ _ | .mp id _ | .it id _=>decide (id.1 ≤ k)
 | .clo _ caps=>A.lows k caps
def A.lows (k:Nat):List A→Bool
 | []=>true
 | a :: l=>A.low k a && A.lows k l
end
def A.plain:A→Bool
 | .d _=>true
 | .clo _ caps=>caps.isEmpty
 | _=>false
def ofCell:Value→A
 | .slice none 0 0=>.clip []
 | .agg _=>.any
 | v=>.d (.s v)
def ofV:Value→A
 | .agg cs=>A.mk (cs.toList.map ofCell)
 | .tuple vs=>.tup (vs.toList.map ofCell)
 | v=>ofCell v
def D.exact:D→Option Value
 | .s v=>some v
 | _=>none
def D.exacts:List D→Option (List Value)
 | []=>some []
 | .s v :: l=>(exacts l).map (v :: ·)
 | _ :: _=>none
def A.exact:A→Option Value
 | .d (.s v)=>some v
 | .d (.agg xs)=>(D.exacts xs).map fun vs=>.agg vs.toArray
 | .d (.ifc t (.s v))=>some (.iface t v)
 | .d (.ifc t (.agg xs))=>(D.exacts xs).map fun vs=>.iface t (.agg vs.toArray)
 | _=>none
def pureRun (P:Program) {α:Type}:Sem α→Option α
 | .pure a=>some a
 | .program k=>pureRun P (k P)
 | _=>none
def St.ev (st:St):Operand→A
 | .tmp t=>if t < st.n then st.t t else .d (.s undef)
 | .const v=>ofV v
 | .global g=>.d (.s (.pointer (some ⟨g,0,none⟩)))
 | .func f=>.clo f []
def exactOp (P:Program) (ev:Operand→A) (o:Oper):Option Value :=
 if o.op.operands.all fun x=>(ev x).exact.isSome then
  match pureRun P (execOp (fun x=>((ev x).exact).getD undef) o) with
  | some (.value v)=>some v
  | _=>none
 else none
def tsize (P:Program) (t:TypeId):Option Nat:=(P.info? t).map (·.size)
def tagg (P:Program) (t:TypeId):Option Bool :=
 match P.underlying t with
 | some (.struct _) | some (.array _ _)=>some true
 | some _=>some false
 | none=>none
def telem (P:Program) (t:TypeId):Option TypeId :=
 match P.underlying t with
 | some (.slice e)=>some e
 | _=>none
def tzero (P:Program) (t:TypeId):Option Value:=(P.info? t).bind (·.zero)
def takeVal (P:Program) (t:TypeId) (l:List A):Option A :=
 match tagg P t,tsize P t with
 | some true,some n=>if n ≤ l.length then some (A.mk (l.take n)) else none
 | some false,some _=>l.head?
 | _,_=>none
structure Eff where
 v:A
 rd:List Id:=[]
 wr:List (Id × O):=[]
 ra:Bool:=false
def Eff.out (e:Eff) (h:Id→O):Id→O:=upds h e.wr
def loadE (P:Program) (h:Id→O) (t:TypeId):A→Option Eff
 | .bp id ver off =>
  match h id with
  | .box v cs=>if v=ver then (takeVal P t (cs.drop off)).map fun x=>{ v:=x,rd:=[id] } else none
  | _=>none
 | .op id ver i off =>
  match h id with
  | .vec v _ xs _=>if v=ver then (xs[i]?).bind fun x=>(takeVal P t ((x.cells.map .d).drop off)).map fun y=>{ v:=y,rd:=[id] } else none
  | _=>none
 | .ep xs i off=>(xs[i]?).bind fun x=>(takeVal P t ((x.cells.map .d).drop off)).map fun y=>{ v:=y }
 | _=>none
def fzCell (h:Id→O):A→Option (D × List Id)
 | .d x=>some (x,[])
 | .clip xs=>some (.lst xs,[])
 | .sl id ver off len =>
  match h id with
  | .vec v _ xs _=>if v=ver∧off + len ≤ xs.length then some (.lst ((xs.drop off).take len),[id]) else none
  | _=>none
 | .clo _ _=>some (.any,[])
 | _=>none
def fzCells (h:Id→O):List A→Option (List D × List Id)
 | []=>some ([],[])
 | a :: l =>
  match fzCell h a,fzCells h l with
  | some (x,i),some (xs,j)=>if x.flat then some (x :: xs,i ++ j) else none
  | _,_=>none
def fzVal (h:Id→O):A→Option (D × List Id)
 | .agg cs=>(fzCells h cs).map fun (xs,i)=>(.agg xs,i)
 | a=>fzCell h a
def fzVals (h:Id→O):List A→Option (List D × List Id)
 | []=>some ([],[])
 | a :: l =>
  match fzVal h a,fzVals h l with
  | some (x,i),some (xs,j)=>some (x :: xs,i ++ j)
  | _,_=>none
def O.fz:O→Bool
 | .vec _ _ _ fz=>fz
 | _=>true
def frz (h:Id→O):List Id→List (Id × O)
 | []=>[]
 | i :: l=>if (h i).fz then frz h l else (i,(h i).freeze) :: frz h l
def put {α:Type} (l:List α) (off:Nat) (xs:List α):List α:=l.take off ++ xs ++ l.drop (off + xs.length)
def lowCells (h:Id→O) (k:Nat):List A→Option (List A × List Id)
 | []=>some ([],[])
 | a :: l =>
  match lowCells h k l with
  | none=>none
  | some (l',ids) =>
   if a.low k then some (a :: l',ids) else
   match fzCell h a with
   | some (x,i)=>if x.flat then some (.d x :: l',i ++ ids) else none
   | none=>none
def adoptable:Option A→Bool
 | some (.clip _) | some (.sl ..)=>true
 | _=>false
def adoptId (id:Id) (off:Nat):Id:=(id.1,1000000 + 64 * id.2 + off)
def adoptE (P:Program) (h:Id→O) (t:TypeId) (id:Id) (ver off:Nat) (x:A):Option Eff :=
 match x with
 | .sl vid v 0 len =>
  if vid.1 ≤ id.1 then none else
  match h id,h vid with
  | .box bv cs,.vec v' n xs fz =>
   if bv=ver∧v=v' ∧ len=xs.length∧xs.isEmpty=false∧off < 64∧off < cs.length∧tsize P t=some 1∧adoptable cs[off]? = true then
    some { v:=.d (.s undef),rd:=[id,vid,adoptId id off],wr:=[(vid,.no v),(adoptId id off,.vec ((h (adoptId id off)).ver + 1) n xs fz),(id,.box ver (put cs off [.sl (adoptId id off) ((h (adoptId id off)).ver + 1) 0 len]))] }
   else none
  | _,_=>none
 | _=>none
def storeE (P:Program) (h:Id→O) (t:TypeId) (a x:A):Option Eff :=
 match a with
 | .bp id ver off =>
  match adoptE P h t id ver off x with
  | some e=>some e
  | none =>
  match h id,tsize P t,lowCells h id.1 x.cells with
  | .box v cs,some n,some (l,ids) =>
   if v=ver∧x.cells.length=n∧off + n ≤ cs.length∧x.cells.all A.one then
    some { v:=.d (.s undef),rd:=id :: ids,wr:=frz h ids ++ [(id,.box v (put cs off l))] }
   else none
  | _,_,_=>none
 | _=>none
def fieldAddrE (P:Program) (s:TypeId) (x:A) (f:Nat):Option Eff :=
 match P.underlying s with
 | some (.struct fs) =>
  match (fs[f]?:Option Field) with
  | some fd =>
   match tsize P fd.type with
   | some (_ + 1) =>
    match x with
    | .bp id ver off=>some { v:=.bp id ver (off + fd.offset) }
    | .op id ver i off=>some { v:=.op id ver i (off + fd.offset) }
    | .ep xs i off=>some { v:=.ep xs i (off + fd.offset) }
    | _=>none
   | _=>none
  | none=>none
 | _=>none
def intOfA:A→Option Int
 | .d (.s (.int _ n))=>some n
 | _=>none
def idxE (xs:List D) (sz:Nat) (i:Int):Option Eff :=
 if 0 ≤ i∧i < xs.length∧((xs[i.toNat]?).map fun x=>x.cells.length)=some sz then some { v:=.ep xs i.toNat 0 } else none
def indexAddrE (P:Program) (h:Id→O) (t:TypeId) (x ix:A):Option Eff :=
 match intOfA ix,P.underlying t with
 | some i,some (.slice e) =>
  match tsize P e,x with
  | some sz,.d (.lst xs)=>idxE xs sz i
  | some sz,.clip xs=>idxE xs sz i
  | some sz,.sl id ver off len =>
   match h id with
   | .vec v n _ _=>if v=ver∧n=sz∧0 ≤ i∧i < len then some { v:=.op id ver (off + i.toNat) 0,rd:=[id] } else none
   | _=>none
  | _,_=>none
 | some i,some (.array len e) =>
  match tsize P e,x with
  | some sz,.bp id ver off=>if 0 ≤ i∧i < len then some { v:=.bp id ver (off + i.toNat * sz) } else none
  | _,_=>none
 | _,_=>none
def partE (P:Program) (t:TypeId) (cs:List A) (off:Nat):Option A :=
 match tagg P t,tsize P t with
 | some true,some n=>if off + n ≤ cs.length then some (A.mk ((cs.drop off).take n)) else none
 | some false,some _=>cs[off]?
 | _,_=>none
def A.isAgg:A→Bool
 | .d (.agg _) | .agg _=>true
 | _=>false
def fieldE (P:Program) (s:TypeId) (x:A) (f:Nat):Option A :=
 match P.underlying s with
 | some (.struct fs) =>
  match (fs[f]?:Option Field) with
  | some fd=>if x.isAgg then partE P fd.type x.cells fd.offset else none
  | none=>none
 | _=>none
def indexE (P:Program) (t:TypeId) (x ix:A):Option A :=
 match intOfA ix,P.underlying t with
 | some i,some (.array len e) =>
  match tsize P e with
  | some sz=>if x.isAgg∧0 ≤ i∧i < len then partE P e x.cells (i.toNat * sz) else none
  | none=>none
 | _,_=>none
def A.isAny:A→Bool
 | .any=>true
 | _=>false
def fillA (place:Nat→Option (Nat × Nat)):List A→List (Nat × A)→Option (List A)
 | cells,[]=>some cells
 | cells,(i,x) :: rest =>
  match place i with
  | none=>none
  | some (off,size)=>if x.cells.length ≠ size ∨ cells.length < off + x.cells.length ∨ x.isAny=true then none else fillA place (put cells off x.cells) rest
def places (P:Program):List Field→Option (List (Nat × Nat))
 | []=>some []
 | f :: l=>match tsize P f.type,places P l with
  | some n,some r=>some ((f.offset,n) :: r)
  | _,_=>none
def buildE (P:Program) (t:TypeId) (parts:List (Nat × A)):Option A :=
 match tzero P t,P.underlying t with
 | some z,some (.struct fs) =>
  match places P fs.toList with
  | some pl=>(fillA (fun i=>pl[i]?) (z.cells.toList.map ofCell) parts).map A.mk
  | none=>none
 | some z,some (.array _ e) =>
  match tsize P e with
  | some sz=>(fillA (fun i=>some (i * sz,sz)) (z.cells.toList.map ofCell) parts).map A.mk
  | none=>none
 | _,_=>none
def chunk (ag:Bool) (sz:Nat):Nat→List D→List D
 | 0,_=>[]
 | n + 1,l=>(if ag then .agg (l.take sz) else (l.head?).getD default) :: chunk ag sz n (l.drop sz)
def buildSliceE (P:Program) (h:Id→O) (id:Id) (t:TypeId) (len:Nat) (parts:List (Nat × A)):Option Eff :=
 match telem P t with
 | none=>none
 | some e =>
  match tsize P e,tagg P e,tzero P e with
  | some sz,some ag,some z =>
   if len * sz ≤ 16777216∧(ag || sz == 1)∧0 < sz∧z.cells.size=sz then
    match fillA (fun i=>some (i * sz,sz)) ((List.replicate len (z.cells.toList.map ofCell)).flatten) parts with
    | none=>none
    | some cs =>
     if !cs.all A.one then none else
     match fzCells h cs with
     | none=>none
     | some (ds,ids)=>some { v:=.sl id ((h id).ver + 1) 0 len,rd:=id :: ids,wr:=frz h ids ++ [(id,.vec ((h id).ver + 1) sz (chunk ag sz len ds) false)] }
   else none
  | _,_,_=>none
def elemsOf (h:Id→O):A→Option (List D × List Id)
 | .d (.lst xs)=>some (xs,[])
 | .clip xs=>some (xs,[])
 | .sl id ver off len =>
  match h id with
  | .vec v _ xs _=>if v=ver∧off + len ≤ xs.length then some ((xs.drop off).take len,[id]) else none
  | _=>none
 | .d (.s (.string s))=>some (s.data.toList.map fun b=>.s (.int .u8 b.toNat),[])
 | _=>none
def headOk (sz:Nat):List D→Bool
 | []=>true
 | x :: _=>x.cells.length == sz
def appendE (P:Program) (h:Id→O) (id:Id) (t:TypeId) (s x:A):Option Eff :=
 match telem P t with
 | none=>none
 | some e =>
  match tsize P e,tzero P e,elemsOf h x with
  | some sz,some z,some (ys,rx) =>
   if 0 < sz∧headOk sz ys∧z.cells.size=sz then
    match s with
    | .clip xs =>
     if headOk sz xs∧(xs.length + ys.length) * (P.bytesOf e + 1) ≤ 70368744177664 then
      if ys.isEmpty && !xs.isEmpty then some { v:=.clip xs,rd:=rx }
      else some { v:=.sl id ((h id).ver + 1) 0 (xs.length + ys.length),rd:=id :: rx,wr:=[(id,.vec ((h id).ver + 1) sz (xs ++ ys) false)] }
     else none
    | .sl i ver off len =>
     match h i with
     | .vec v n xs fz =>
      if v=ver∧off + len=xs.length∧n=sz∧(len + ys.length) * (P.bytesOf e + 1) ≤ 70368744177664 then
       some { v:=.sl id ((h id).ver + 1) 0 (len + ys.length),rd:=id :: i :: rx,wr:=[(i,.no v),(id,.vec ((h id).ver + 1) sz (xs.drop off ++ ys) fz)] }
      else none
     | _=>none
    | _=>none
   else none
  | _,_,_=>none
def boundE (lo hi:Option A) (len:Nat):Option (Nat × Nat) :=
 match (match hi with | some a=>intOfA a | none=>some (len:Int)) with
 | none=>none
 | some h =>
  match (match lo with | some a=>intOfA a | none=>some 0) with
  | none=>none
  | some l=>if 0 ≤ l∧l ≤ h∧h ≤ len then some (l.toNat,h.toNat) else none
def maxOk (mx hi:Option A) (h:Nat):Bool :=
 match mx with
 | none=>true
 | some a=>hi.isSome && intOfA a == some (h:Int)
def sliceE (P:Program) (h:Id→O) (t:TypeId) (x:A) (lo hi mx:Option A):Option Eff :=
 match telem P t with
 | none=>none
 | some e =>
  match tsize P e with
  | none=>none
  | some sz =>
   match x with
   | .d (.lst xs) =>
    match boundE lo hi xs.length with
    | some (l,u)=>if maxOk mx hi u∧headOk sz xs then some { v:=if mx.isSome then .clip ((xs.take u).drop l) else .d (.lst ((xs.take u).drop l)) } else none
    | none=>none
   | .clip xs =>
    match boundE lo hi xs.length with
    | some (l,u)=>if maxOk mx hi u∧headOk sz xs then some { v:=if mx.isSome ∨ u=xs.length then .clip ((xs.take u).drop l) else .d (.lst ((xs.take u).drop l)) } else none
    | none=>none
   | .sl id ver off len =>
    match h id,boundE lo hi len with
    | .vec v n xs _,some (l,u) =>
     if v=ver∧off + len ≤ xs.length∧(xs.isEmpty || n == sz)∧mx.isNone then some { v:=.sl id ver (off + l) (u - l),rd:=[id] } else none
    | _,_=>none
   | _=>none
def bytesOfD:List D→Option (List UInt8)
 | []=>some []
 | .s (.int .u8 n) :: l=>(bytesOfD l).map (UInt8.ofNat n.toNat :: ·)
 | _ :: _=>none
def convertE (P:Program) (h:Id→O) (id:Id) (src dst:TypeId) (x:A):Option Eff :=
 match P.underlying src,P.underlying dst with
 | some (.slice e),some .string =>
  match P.underlying e,elemsOf h x,x with
  | some (.int .u8),some _,.d (.s _)=>none
  | some (.int .u8),some (xs,rd),_=>(bytesOfD xs).map fun l=>{ v:=.d (.s (.string ⟨l.toArray⟩)),rd }
  | _,_,_=>none
 | some .string,some (.slice e) =>
  match P.underlying e,x with
  | some (.int .u8),.d (.s (.string s))=>some { v:=.sl id ((h id).ver + 1) 0 s.size,rd:=[id],wr:=[(id,.vec ((h id).ver + 1) 1 (s.data.toList.map fun b=>.s (.int .u8 b.toNat)) false)] }
  | _,_=>none
 | _,_=>none
def lenE:A→Option Nat
 | .d (.lst xs)=>some xs.length
 | .clip xs=>some xs.length
 | .sl _ _ _ len=>some len
 | _=>none
mutual
def idsA:A→List Id
 | .bp id _ _ | .sl id _ _ _ | .op id _ _ _ | .mp id _ | .it id _=>[id]
 | .agg xs | .tup xs | .clo _ xs=>idsL xs
 | .any | .d _ | .clip _ | .ep ..=>[]
def idsL:List A→List Id
 | []=>[]
 | a :: l=>idsA a ++ idsL l
end
def idsE:List (Nat × Value × A)→List Id
 | []=>[]
 | e :: l=>idsA e.2.2 ++ idsE l
def idsO:O→List Id
 | .box _ cs=>idsL cs
 | .map _ es _=>idsE es
 | .mit _ (some p) _ _ _=>[p.1]
 | _=>[]
def adL (i:Id):Nat→List A→List Id
 | _,[]=>[]
 | k,c :: cs=>if adoptable (some c) then adoptId i k :: adL i (k + 1) cs else adL i (k + 1) cs
def adIds (i:Id):O→List Id
 | .box _ cs=>adL i 0 cs
 | _=>[]
def idsH (h:Id→O):List Id→List Id
 | []=>[]
 | i :: l=>idsO (h i) ++ idsH h l
def adH (h:Id→O):List Id→List Id
 | []=>[]
 | i :: l=>adIds i (h i) ++ adH h l
def reachIds (h:Id→O):Nat→List Id→List Id
 | _,[]=>[]
 | 0,l=>l
 | n + 1,l=>l ++ adH h l ++ reachIds h n (idsH h l)
def graphOf (h:Id→O):List Id→List (Id × O)
 | []=>[]
 | i :: l=>(i,h i) :: graphOf h l
abbrev Orc:=FuncId→Nat→(Id→O)→List A→Option (R × (Id→O))
def argA (h:Id→O):A→Option (A × List Id)
 | .d x=>some (.d x,[])
 | .clip xs=>some (.d (.lst xs),[])
 | .sl id ver off len=>(fzCell h (.sl id ver off len)).map fun p=>(.d p.1,p.2)
 | .agg cs=>(fzCells h cs).map fun p=>(.d (.agg p.1),p.2)
 | .bp id ver off=>some (.bp id ver off,[])
 | .mp id ver=>some (.mp id ver,[])
 | .clo f caps=>some (.clo f caps,[])
 | _=>none
def argAs (h:Id→O):List A→Option (List A × List Id)
 | []=>some ([],[])
 | a :: l =>
  match argA h a,argAs h l with
  | some (x,i),some (xs,j)=>some (x :: xs,i ++ j)
  | _,_=>none
def backE (ver:Nat) (id:Id):R→A × List (Id × O)
 | .val x=>(.d x,[])
 | .tup xs=>(.tup xs,[])
 | .fresh n xs=>(.sl id (ver + 1) 0 xs.length,[(id,.vec (ver + 1) n xs false)])
 | .ref a=>(a,[])
 | .mapf es clock=>(.mp id (ver + 1),[(id,.map (ver + 1) es clock)])
 | .freshT n xs rest=>(.tup (.sl id (ver + 1) 0 xs.length :: rest),[(id,.vec (ver + 1) n xs false)])
def refIds (h:Id→O):Nat→List Id→List Id
 | _,[]=>[]
 | 0,l=>l
 | n + 1,l=>l ++ refIds h n (idsH h l)
def closedIn (h:Id→O) (F:List Id):Bool:=F.all fun i=>(idsO (h i)).all fun j=>F.contains j
def canE (h:Id→O) (F R:List Id):Id→O:=fun i=>if F.contains i then h i else if R.contains i then .no (h i).ver else .no 0
def verG (h h':Id→O) (R:List Id) (id:Id):Nat:=if R.contains id then (h' id).ver else (h id).ver
def O.live:O→Bool
 | .no _=>false
 | _=>true
def unmaskH (h h':Id→O) (F Rs:List Id):Id→O:=fun i=>if F.contains i then h' i else if Rs.contains i then (if !(h' i).live && (h' i).ver == (h i).ver then h i else h' i) else h i
def backG (h h':Id→O) (id:Id) (fz:List (Id × O)) (ids Rs:List Id) (r:R):Eff :=
 { v:=(backE (verG h h' Rs id) id r).1,rd:=id :: (ids ++ Rs),wr:=fz ++ graphOf h' Rs ++ (backE (verG h h' Rs id) id r).2 }
def callE (X:Orc) (d:Nat) (h:Id→O) (id:Id) (f:FuncId) (args:List A):Option Eff :=
 match argAs h args with
 | none=>none
 | some (az,ids) =>
  if az.all A.plain then
   match X f 0 (fun _=>.no 0) az with
   | some (r,_)=>some { v:=(backE (h id).ver id r).1,rd:=id :: ids,wr:=frz h ids ++ (backE (h id).ver id r).2 }
   | none=>none
  else
   if closedIn (upds h (frz h ids)) (refIds (upds h (frz h ids)) 3 (idsL az)) then
    match X f (d + 1) (canE (upds h (frz h ids)) (refIds (upds h (frz h ids)) 3 (idsL az)) (reachIds (upds h (frz h ids)) 3 (idsL az))) az with
    | some (r,h')=>some (backG h (unmaskH (upds h (frz h ids)) h' (refIds (upds h (frz h ids)) 3 (idsL az)) (reachIds (upds h (frz h ids)) 3 (idsL az))) id (frz h ids) ids (reachIds (upds h (frz h ids)) 3 (idsL az)) r)
    | none=>none
   else none
def plainE (x:Option A):Option Eff:=x.map fun v=>{ v }
def exactE (P:Program) (ev:Operand→A) (o:Oper):Option Eff:=(exactOp P ev o).map fun v=>{ v:=ofV v }
def A.bool?:A→Option Bool
 | .d (.s (.bool b))=>some b
 | _=>none
def slOrStr:TypeDesc→Bool
 | .slice _ | .string=>true
 | _=>false
def okSrc (P:Program) (t:TypeId):Bool :=
 match P.underlying t with
 | some d=>slOrStr d
 | none=>false
def findE (P:Program) (kt:TypeId) (kv:Value) (es:List (Nat × Value × A)):Option (Option Nat) :=
 (pureRun P (Instr.findKey kt kv (es.map fun e=>({ key:=e.2.1,val:=undef,born:=e.1 }:MapEntry)))).map fun r=>r.map (·.1)
def lookupE (P:Program) (h:Id→O) (t:TypeId) (x k:A) (ok:Bool):Option Eff :=
 match P.underlying t,x,k.exact with
 | some (.map kt el),.mp id ver,some kv =>
  match h id with
  | .map v es _ =>
   if v=ver then
    match pureRun P (Instr.checkKey es.isEmpty 10000 kt kv),findE P kt kv es,tzero P el with
    | some _,some (some i),_=>(es[i]?).map fun e=>{ v:=if ok then .tup [e.2.2,.d (.s (.bool true))] else e.2.2,rd:=[id] }
    | some _,some none,some z=>some { v:=if ok then .tup [ofV z,.d (.s (.bool false))] else ofV z,rd:=[id] }
    | _,_,_=>none
   else none
  | _=>none
 | _,_,_=>none
def lowA (h:Id→O) (k:Nat) (a:A):Option (A × List Id):=if a.low k then some (a,[]) else (fzVal h a).map fun p=>(.d p.1,p.2)
def mapPutE (P:Program) (h:Id→O) (t:TypeId) (m k x:A):Option Eff :=
 match P.underlying t,m,k.exact with
 | some (.map kt _),.mp id ver,some kv =>
  match h id,lowA h id.1 x with
  | .map v es clock,some (a,ids) =>
   if v=ver then
    match pureRun P (Instr.checkKey false 10000 kt kv),findE P kt kv es with
    | some _,some (some i) =>
     match es[i]? with
     | some e=>if Instr.sameBits 10000 e.2.1 kv then some { v:=.d (.s undef),rd:=id :: ids,wr:=frz h ids ++ [(id,.map v (es.set i (e.1,kv,a)) clock)] } else none
     | none=>none
    | some _,some none=>some { v:=.d (.s undef),rd:=id :: ids,wr:=frz h ids ++ [(id,.map v (es ++ [(clock,kv,a)]) (clock + 1))] }
    | _,_=>none
   else none
  | _,_=>none
 | _,_,_=>none
def lenMapE (P:Program) (h:Id→O) (t:TypeId) (x:A):Option Eff :=
 match P.underlying t,x with
 | some (.map _ _),.mp id ver =>
  match h id with
  | .map v es _=>if v=ver then some { v:=.d (.s (.int .i64 (es.length:Int))),rd:=[id] } else none
  | _=>none
 | _,_=>none
def isIfaceT (P:Program) (t:TypeId):Option Bool :=
 match P.underlying t with
 | some (.interface _)=>some true
 | some _=>some false
 | none=>none
def mkIfcE (P:Program) (h:Id→O) (t:TypeId) (x:A):Option Eff :=
 if isIfaceT P t=some false then (fzVal h x).map fun p=>{ v:=.d (.ifc t p.1),rd:=p.2,wr:=frz h p.2 } else none
def fz0 (h:Id→O) (a:A):A:=match fzVal h a with | some (x,[])=>.d x | _=>a
def assertE (P:Program) (h:Id→O) (t:TypeId) (y:D) (asserted:TypeId) (ok:Bool):Option Eff :=
 if isIfaceT P asserted=some false then
  if t=asserted then some { v:=if ok then .tup [.d y,.d (.s (.bool true))] else .d y }
  else if ok then (tzero P asserted).map fun z=>{ v:=.tup [fz0 h (ofV z),.d (.s (.bool false))] } else none
 else none
def A.isNil:A→Bool
 | .d (.s .nilIface)=>true
 | _=>false
def ifcNilE (P:Program) (op:BinOp) (t:TypeId) (y:A):Option Eff :=
 if isIfaceT P t=some true∧y.isNil=true then
  match op with
  | .eql=>some { v:=.d (.s (.bool false)) }
  | .neq=>some { v:=.d (.s (.bool true)) }
  | _=>none
 else none
def rangeE (P:Program) (h:Id→O) (id:Id) (t:TypeId) (x:A):Option Eff :=
 match P.underlying t,x with
 | some .string,.d (.s (.string s))=>some { v:=.it id ((h id).ver + 1),rd:=[id],wr:=[(id,.sit ((h id).ver + 1) s 0)] }
 | some (.map _ _),.mp i ver =>
  match h i with
  | .map v _ clock=>if v=ver∧i.1 ≤ id.1∧i ≠ id then some { v:=.it id ((h id).ver + 1),rd:=[id,i],wr:=[(id,.mit ((h id).ver + 1) (some (i,ver)) clock ([],none) clock)] } else none
  | _=>none
 | _,_=>none
def nextE (h:Id→O) (x:A) (str:Bool):Option Eff :=
 match x with
 | .it id ver =>
  match h id with
  | .sit v s pos =>
   if v=ver∧str=true then
    if pos < s.size then some { v:=.tup [.d (.s (.bool true)),.d (.s (.int .i64 (pos:Int))),.d (.s (.int .i32 (Utf8.decode s pos).1))],rd:=[id],wr:=[(id,.sit v s (pos + (Utf8.decode s pos).2))] }
    else some { v:=.tup [.d (.s (.bool false))],rd:=[id] }
   else none
  | _=>none
 | _=>none
def sIns (x:Nat):List Nat→List Nat
 | []=>[x]
 | y :: l=>if Nat.ble x y=true then x :: y :: l else y :: sIns x l
theorem mem_sIns {x k:Nat}:∀ {l:List Nat},k ∈ sIns x l ↔ k=x ∨ k ∈ l
 | []=>by simp [sIns]
 | y :: l=>by
  unfold sIns
  split
  ·simp
  ·rw [List.mem_cons,mem_sIns,List.mem_cons]
   constructor
   ·rintro (h | h | h)
    ·exact Or.inr (Or.inl h)
    ·exact Or.inl h
    ·exact Or.inr (Or.inr h)
   ·rintro (h | h | h)
    ·exact Or.inr (Or.inl h)
    ·exact Or.inl h
    ·exact Or.inr (Or.inr h)
def SameSeen (a:List Nat × Option Nat) (b:List Nat):Prop:=(∀ k,a.1.contains k=b.contains k) ∧ ∀ k,a.2=some k→b.getLast? = some k
theorem SameSeen.nil:SameSeen ([],none) []:=⟨fun _=>rfl,fun _ h=>by cases h⟩
theorem SameSeen.less {a:List Nat × Option Nat} {b:List Nat} (h:SameSeen a b):SameSeen (a.1,none) b:=⟨h.1,fun _ h=>by cases h⟩
theorem SameSeen.push {a:List Nat × Option Nat} {b:List Nat} (h:SameSeen a b) (k:Nat):SameSeen (sIns k a.1,some k) (b ++ [k]):=by
 refine ⟨fun j=>?_,fun j e=>by cases e; simp⟩
 have h1:=h.1 j
 rw [Bool.eq_iff_iff] at h1 ⊢
 simp only [List.contains_iff_mem,List.mem_append,mem_sIns,List.mem_singleton] at h1 ⊢
 rw [h1]
 exact Or.comm
def nextsE (h:Id→O) (x:A):Option (List Eff) :=
 match x with
 | .it id ver =>
  match h id with
  | .mit v (some (m,mv)) since seen last =>
   match h m with
   | .map v' es clock =>
    if v=ver∧mv=v' ∧ (es.all fun e=>decide (e.1 < since))=true∧since ≤ last then
     some (if (es.filter fun e=>!seen.1.contains e.1).isEmpty then [{ v:=.tup [.d (.s (.bool false))],rd:=[id,m] }] else
      (es.filter fun e=>!seen.1.contains e.1).map fun e=>{ v:=.tup [.d (.s (.bool true)),ofV e.2.1,e.2.2],rd:=[id,m],wr:=[(id,.mit v (some (m,mv)) since (sIns e.1 seen.1,some e.1) clock)] })
    else none
   | _=>none
  | _=>none
 | _=>none
def entryE (h:Id→O) (x:A):Option Eff :=
 match x with
 | .it id ver =>
  match h id with
  | .mit v (some (m,mv)) since seen last =>
   match h m with
   | .map v' es clock =>
    if v=ver∧mv=v' ∧ clock=last then
     match seen.2 with
     | some b=>(es.find? fun e=>e.1 == b).map fun e=>{ v:=.tup [ofV e.2.1,e.2.2],rd:=[id,m],wr:=[(id,.mit v (some (m,mv)) since (seen.1,none) last)] }
     | none=>none
    else none
   | _=>none
  | _=>none
 | _=>none
def A.isIfc:A→Bool
 | .d (.ifc ..)=>true
 | _=>false
def A.here:A→Bool
 | .bp .. | .op .. | .ep .. | .mp .. | .clo ..=>true
 | _=>false
def opE (P:Program) (X:Orc) (d:Nat) (ev:Operand→A) (h:Id→O) (id:Id) (o:Oper):Option Eff :=
 match o.op with
 | .move x | .assign x=>some { v:=ev x }
 | .pick c a b=>if (ev c).bool? = some true then some { v:=ev a } else if (ev c).bool? = some false then some { v:=ev b } else none
 | .alloc t=>(tzero P t).map fun z=>{ v:=.bp id ((h id).ver + 1) 0,rd:=[id],wr:=[(id,.box ((h id).ver + 1) (z.cells.toList.map ofCell))] }
 | .box t x=>if tsize P t=some (ev x).cells.length∧(ev x).cells.all A.one then some { v:=.bp id ((h id).ver + 1) 0,rd:=[id],wr:=[(id,.box ((h id).ver + 1) (ev x).cells)] } else none
 | .build t parts=>plainE (buildE P t (parts.toList.map fun p=>(p.1,ev p.2)))
 | .buildSlice t len parts=>buildSliceE P h id t len (parts.toList.map fun p=>(p.1,ev p.2))
 | .load t a=>loadE P h t (ev a)
 | .store t a x=>storeE P h t (ev a) (ev x)
 | .fieldAddr s x f=>fieldAddrE P s (ev x) f
 | .indexAddr t x i=>indexAddrE P h t (ev x) (ev i)
 | .field s x f=>plainE (fieldE P s (ev x) f)
 | .index t x i=>match (ev x).exact with | some _=>exactE P ev o | none=>plainE (indexE P t (ev x) (ev i))
 | .slice t x lo hi mx=>match (ev x).exact with | some _=>exactE P ev o | none=>sliceE P h t (ev x) (lo.map ev) (hi.map ev) (mx.map ev)
 | .convert src dst x=>match exactE P ev o with | some e=>some e | none=>convertE P h id src dst (ev x)
 | .extract t i=>match ev t with | .tup xs=>(xs[i]?).map fun v=>{ v } | _=>none
 | .nilCheck x=>if (ev x).here then some { v:=ev x } else exactE P ev o
 | .makeFunc fn first captured =>
  match fn with
  | .func f=>if first.isEmpty then some { v:=.clo f (captured.toList.map ev) } else none
  | _=>none
 | .makeMap t r=>if r.isNone then some { v:=.mp id ((h id).ver + 1),rd:=[id],wr:=[(id,.map ((h id).ver + 1) [] 0)] } else none
 | .lookup t x k ok=>match ev x with | .mp _ _=>lookupE P h t (ev x) (ev k) ok | _=>exactE P ev o
 | .insert t m k x=>mapPutE P h t (ev m) (ev k) (ev x)
 | .mapUpdate t m k x=>mapPutE P h t (ev m) (ev k) (ev x)
 | .makeInterface t x=>mkIfcE P h t (ev x)
 | .typeAssert x xt t ok=>match ev x with | .d (.ifc ty y)=>(match assertE P h ty y t ok with | some e=>some e | none=>exactE P ev o) | _=>exactE P ev o
 | .binOp op t x y _=>if (ev x).isIfc then (match ifcNilE P op t (ev y) with | some e=>some e | none=>exactE P ev o) else exactE P ev o
 | .range t x=>rangeE P h id t (ev x)
 | .next x str=>nextE h (ev x) str
 | .entry x=>entryE h (ev x)
 | .call c =>
  match c.callee with
  | .builtin .append=>match c.args.toList,c.argTypes.toList with | [s,x],[t,t']=>if okSrc P t' then appendE P h id t (ev s) (ev x) else none | _,_=>none
  | .builtin .len=>match c.args.toList,c.argTypes.toList with | [x],[t]=>(match (ev x).exact with | some _=>exactE P ev o | none=>if (telem P t).isSome then (lenE (ev x)).map fun (n:Nat)=>{ v:=.d (.s (.int .i64 (n:Int))) } else lenMapE P h t (ev x)) | _,_=>none
  | .builtin _=>exactE P ev o
  | .value (.func f)=>callE X d h id f (c.args.toList.map ev)
  | .value x =>
   match ev x with
   | .clo f caps=>callE X d h id f (c.args.toList.map ev ++ caps)
   | _=>none
  | _=>none
 | .select _ _=>none
 | _=>exactE P ev o
inductive Ex where
 | normal | exit (id:Nat) | goto (l:Nat) | ret
 deriving DecidableEq,Inhabited
def St.put (st:St) (dst:Option Tmp) (e:Eff):St :=
 { st with t:=(match dst with | some d=>upd st.t d e.v | none=>st.t),h:=e.out st.h }
def dstOk (n:Nat):Option Tmp→Bool
 | some d=>d < n
 | none=>true
def wantedA (ops:Array Oper) (st:St) (o:Oper):Option Bool :=
 match o.guard with
 | none=>some true
 | some (j,want) =>
  match (ops[j]?).bind (·.dst) with
  | some d=>if d < st.n then (match st.t d with | .d (.s (.bool b))=>some (b == want) | .d (.s (.tuple _))=>some false | _=>none) else none
  | none=>none
def okW (d:Nat) (al:List Id):List (Id × O)→Bool
 | []=>true
 | p :: l=>(p.1.1 == d || al.contains p.1) && okW d al l
def chkE (st:St):Option Eff→Option Eff
 | some e=>if okW st.d st.al e.wr then some e else none
 | none=>none
def stepE (P:Program) (X:Orc) (ops:Array Oper) (o:Oper) (st:St):Option Eff :=
 if dstOk st.n o.dst then
  match wantedA ops st o with
  | some true=>chkE st (opE P X st.d st.ev st.h (st.d,o.dst.getD st.n) o)
  | some false=>some { v:=.d (.s undef) }
  | none=>none
 else none
def stepSt (P:Program) (X:Orc) (ops:Array Oper) (o:Oper) (st:St):Option St:=(stepE P X ops o st).map (st.put o.dst)
def runOps (P:Program) (X:Orc) (ops:Array Oper):List Oper→St→Option St
 | [],st=>some st
 | o :: l,st=>(stepSt P X ops o st).bind (runOps P X ops l)
def runTr (P:Program) (X:Orc) (ops:Array Oper):List Oper→St→Option (St × List Eff)
 | [],st=>some (st,[])
 | o :: l,st =>
  match stepE P X ops o st with
  | none=>none
  | some e =>
   match runTr P X ops l (st.put o.dst e) with
   | none=>none
   | some (st',es)=>some (st',e :: es)
def reach (ops:Array Oper):Nat→Nat→Nat→Bool
 | 0,_,_=>false
 | n + 1,i,j =>
  match ops[j]? with
  | none=>false
  | some o=>(o.after.any fun e=>Region.binds .any e && e.on == i) || o.after.any fun e=>Region.binds .any e && (decide (i < e.on) && reach ops n i e.on)
def objConf (a b:Eff):Bool:=(a.ra && !b.wr.isEmpty) || (b.ra && !a.wr.isEmpty) || (a.wr.any fun p=>b.rd.contains p.1 || b.wr.any fun q=>q.1 == p.1) || (b.wr.any fun p=>a.rd.contains p.1)
def raceFree (ops:Array Oper) (es:List Eff):Bool :=
 (List.range ops.size).all fun j=>(match ops[j]? with | none=>false | some o=>o.after.all fun e=>!Region.binds .any e || e.on < j) &&
  (List.range j).all fun i =>
   match ops[i]?,ops[j]?,es[i]?,es[j]? with
   | some x,some y,some a,some b=>(Oper.apart ops x y && !objConf a b) || reach ops ops.size i j
   | _,_,_,_=>false
def iter (f:St→Option (Ex × St)):Nat→St→Option (Ex × St)
 | 0,_=>none
 | n + 1,st =>
  match f st with
  | some (.normal,st')=>iter f n st'
  | r=>r
def exec (P:Program) (X:Orc) (n:Nat):Code→St→Option (Ex × St)
 | .skip,st | .label _,st=>some (.normal,st)
 | .region _ ops false,st=>(runOps P X ops ops.toList st).map fun st'=>(.normal,st')
 | .region _ ops true,st =>
  match runTr P X ops ops.toList st with
  | some (st',es)=>if raceFree ops es then some (.normal,st') else none
  | none=>none
 | .seq a b,st =>
  match exec P X n a st with
  | some (.normal,st')=>exec P X n b st'
  | r=>r
 | .cond c a b,st =>
  match (st.ev c).bool? with
  | some true=>exec P X n a st
  | some false=>exec P X n b st
  | none=>none
 | .block id c,st =>
  match exec P X n c st with
  | some (.exit j,st')=>if j=id then some (.normal,st') else some (.exit j,st')
  | r=>r
 | .loop c,st=>iter (exec P X n c) n st
 | .exit id,st=>some (.exit id,st)
 | .scope c,st =>
  match exec P X n c st with
  | some (.goto _,_)=>none
  | r=>r
 | .goto l,st=>some (.goto l,st)
 | .ret,st=>some (.ret,st)
 | _,_=>none
def resA (P:Program) (st:St):ResultVar→Option A
 | .tmp t=>if t < st.n then some (st.t t) else none
 | .cell a t=>if a < st.n then (loadE P st.h t (st.t a)).map (·.v) else none
def resAs (P:Program) (st:St):List ResultVar→Option (List A)
 | []=>some []
 | r :: l =>
  match resA P st r,resAs P st l with
  | some a,some az=>some (a :: az)
  | _,_=>none
def keepA (d:Nat) (h:Id→O) (a:A):Option (A × List Id):=if 0 < d && a.low (d - 1) then some (a,[]) else (fzVal h a).map fun p=>(.d p.1,p.2)
def keepAs (d:Nat) (h:Id→O):List A→Option (List A × List Id)
 | []=>some ([],[])
 | a :: l =>
  match keepA d h a,keepAs d h l with
  | some (x,i),some (xs,j)=>some (x :: xs,i ++ j)
  | _,_=>none
def fzEnt (h:Id→O) (a:A):Option (A × List Id):=if a.plain then some (a,[]) else (fzVal h a).map fun p=>(.d p.1,p.2)
def fzEnts (h:Id→O):List (Nat × Value × A)→Option (List (Nat × Value × A) × List Id)
 | []=>some ([],[])
 | e :: l =>
  match fzEnt h e.2.2,fzEnts h l with
  | some (x,i),some (xs,j)=>some ((e.1,e.2.1,x) :: xs,i ++ j)
  | _,_=>none
def kName:String := "homestead" ++ String.singleton (Char.ofNat 47) ++ "query.Kinds" ++ String.singleton (Char.ofNat 36) ++ "1"
def keepT (n:String):Bool:=n == kName
def resT (d:Nat) (h:Id→O):List A→Option (R × List Id)
 | .sl id ver off len :: rest =>
  if id.1 < d then none else
  match h id with
  | .vec v n xs fz =>
   if v=ver∧fz=false∧off=0∧len=xs.length then
    match keepAs d h rest with
    | some (l,ids)=>if ids.contains id then none else some (.freshT n xs l,ids)
    | none=>none
   else none
  | _=>none
 | .clip xs :: rest=>(keepAs d h rest).map fun p=>(.tup (.clip xs :: p.1),p.2)
 | _=>none
def resR (k:Bool) (d:Nat) (h:Id→O):List A→Option (R × List Id)
 | [.sl id ver off len] =>
  if id.1 < d then some (.ref (.sl id ver off len),[]) else
  match h id with
  | .vec v n xs fz=>if v=ver∧off + len ≤ xs.length then (if fz=false∧off=0∧len=xs.length then some (.fresh n xs,[]) else some (.val (.lst ((xs.drop off).take len)),[id])) else none
  | _=>none
 | [.mp id ver] =>
  if id.1 < d then some (.ref (.mp id ver),[]) else
  match h id with
  | .map v es clock=>if v=ver then (fzEnts h es).map fun p=>(.mapf p.1 clock,p.2) else none
  | _=>none
 | [.bp id ver off]=>if id.1 < d then some (.ref (.bp id ver off),[]) else none
 | [.clo f caps]=>if caps.isEmpty || (0 < d && A.lows (d - 1) caps) then some (.ref (.clo f caps),[]) else some (.val .any,[])
 | [a]=>(fzVal h a).map fun p=>(.val p.1,p.2)
 | []=>some (.tup [],[])
 | az=>if k then resT d h az else (keepAs d h az).map fun p=>(.tup p.1,p.2)
def initSt (fn:Func) (d:Nat) (h:Id→O) (az:List A):St :=
 { n:=fn.ntmps,d:=d,t:=fun i=>az.getD i (.d (.s undef)),h:=h,al:=reachIds h 3 (idsL az) }
def cut (d:Nat) (h h':Id→O):Id→O:=fun i=>if i.1 < d then h' i else h i
def bodyR (P:Program) (fn:Func) (d:Nat) (h:Id→O) (st:St):Option (R × (Id→O)) :=
 ((resAs P st fn.results.toList).bind (resR (keepT fn.name) d st.h)).bind fun r=>if okW st.d st.al (frz st.h r.2) then some (r.1,cut d h (upds st.h (frz st.h r.2))) else none
def body (P:Program) (X:Orc) (n:Nat) (f:FuncId) (d:Nat) (h:Id→O) (az:List A):Option (R × (Id→O)) :=
 match P.funcs[f]? with
 | none=>none
 | some fn =>
  match fn.body with
  | none=>none
  | some c =>
   if az.length ≤ fn.ntmps∧fn.name ≠ "runtime.NumGoroutine" then
    match exec P X n c (initSt fn d h az) with
    | some (.normal,st) | some (.ret,st)=>bodyR P fn d h st
    | _=>none
   else none
abbrev Exts:=FuncId→Option (Nat→(Id→O)→List A→Option (R × (Id→O)))
def eval (P:Program) (ext:Exts):Nat→Orc
 | 0=>fun _ _ _ _=>none
 | n + 1=>fun f d h az =>
  match ext f with
  | some g=>g d h az
  | none=>body P (eval P ext n) (n + 1) f d h az
end
section
structure Loc where
 b:Nat
 st:Nat
 n:Nat
 lim:Nat
abbrev Ix:=Id→Nat→Option Loc
def upto (k:Nat) (ι:Ix):Ix:=fun i v=>if i.1 ≤ k then ι i v else none
abbrev Sb:=Nat→Nat→Prop
def noAgg:Value→Bool
 | .agg _=>false
 | _=>true
def wrapV:D→List Value→Value
 | .agg _,us=>.agg us.toArray
 | _,us=>us.headD undef
mutual
def CellsD (S:Sb) (w:World):D→List Value→Prop
 | .s v,us=>us=[v]∧noAgg v=true
 | .agg ys,us=>CellsL S w ys us
 | .lst zs,us=>∃ a cap,us=[.slice a zs.length cap]∧zs.length ≤ cap∧(zs=[] ∨ ∃ b o n,a=some ⟨b,o,none⟩∧RowD S w b n o zs)
 | .ifc t x,us=>∃ vs,CellsD S w x vs∧us=[.iface t (wrapV x vs)]
 | .any,us=>∃ u:Value,u.oneCell' = true∧us=[u]
def CellsL (S:Sb) (w:World):List D→List Value→Prop
 | [],us=>us=[]
 | y :: ys,us=>∃ u us',us=u :: us' ∧ (y.flat=true∧CellsD S w y [u])∧CellsL S w ys us'
def RowD (S:Sb) (w:World) (b n:Nat):Nat→List D→Prop
 | _,[]=>True
 | o,x :: xs=>(∃ us:List Value,us.length=n∧x.cells.length=n∧CellsD S w x us ∧ ∀ (j:Nat) u,us[j]? = some u→u.oneCell' = true∧S b (o + j)∧w.cell? ⟨b,o + j,none⟩=some u)∧RowD S w b n (o + n) xs
end
def ValD (S:Sb) (w:World) (x:D) (u:Value):Prop :=
 match x with
 | .agg ys=>∃ us,u = .agg us∧CellsL S w ys us.toList
 | x=>CellsD S w x [u]
def ValDs (S:Sb) (w:World):List D→List Value→Prop
 | [],us=>us=[]
 | x :: xs,us=>∃ u us',us=u :: us' ∧ ValD S w x u∧ValDs S w xs us'
mutual
def VA (ι:Ix) (S:Sb) (w:World):A→Value→Prop
 | .any,_=>True
 | .d x,u=>ValD S w x u
 | .clip xs,u=>∃ a,u = .slice a xs.length xs.length∧(xs=[] ∨ ∃ b o n,a=some ⟨b,o,none⟩∧RowD S w b n o xs)
 | .agg xs,u=>∃ us,u = .agg us∧VL ι S w xs us.toList
 | .tup xs,u=>∃ us,u = .tuple us∧VL ι S w xs us.toList
 | .bp id ver off,u=>∃ L,ι id ver=some L∧L.st=0∧u = .pointer (some ⟨L.b,off,none⟩)
 | .sl id ver off len,u=>∃ a cap,u = .slice a len cap∧len ≤ cap∧(cap=0 ∨ ∃ L,ι id ver=some L∧a=some ⟨L.b,L.st + off * L.n,none⟩∧off + cap ≤ L.lim)
 | .op id ver i off,u=>∃ L,ι id ver=some L∧u = .pointer (some ⟨L.b,L.st + i * L.n + off,none⟩)
 | .ep xs i off,u=>∃ b o n,u = .pointer (some ⟨b,o + i * n + off,none⟩)∧RowD S w b n o xs
 | .clo f caps,u=>∃ us,u = .func (.func f) #[] us∧VL ι S w caps us.toList
 | .mp id ver,u=>∃ L,ι id ver=some L∧u = .map (some L.b)
 | .it id ver,u=>∃ L,ι id ver=some L∧u = .pointer (some ⟨L.b,0,none⟩)
def VL (ι:Ix) (S:Sb) (w:World):List A→List Value→Prop
 | [],us=>us=[]
 | y :: ys,us=>∃ u us',us=u :: us' ∧ VA ι S w y u∧VL ι S w ys us'
end
def VecRow (S:Sb) (w:World) (b n o:Nat) (xs:List D):Prop :=
 ∀ (i:Nat) x,xs[i]? = some x→∃ us:List Value,us.length=n∧x.cells.length=n∧CellsD S w x us ∧ ∀ (j:Nat) u,us[j]? = some u→u.oneCell' = true∧w.cell? ⟨b,o + i * n + j,none⟩=some u
def MapRel (ι:Ix) (S:Sb) (w:World):List (Nat × Value × A)→List MapEntry→Prop
 | [],ms=>ms=[]
 | e :: es,ms=>∃ m ms',ms=m :: ms' ∧ m.born=e.1∧m.key=e.2.1∧VA ι S w e.2.2 m.val∧MapRel ι S w es ms'
def ORel (ι:Ix) (S:Sb) (base:Nat) (w:World) (id:Id):O→Prop
 | .no _=>True
 | .box ver cs=>∃ L,ι id ver=some L∧L.st=0∧base ≤ L.b∧L.b < w.heap.size∧(∀ o,¬ S L.b o) ∧
   ∀ (j:Nat) a,cs[j]? = some a→∃ u,w.cell? ⟨L.b,j,none⟩=some u∧w.frozen? ⟨L.b,j,none⟩=false∧VA (upto id.1 ι) S w a u
 | .vec ver n xs fz=>(xs=[]∧ι id ver=none) ∨ ∃ L,ι id ver=some L∧L.n=n∧base ≤ L.b∧L.b < w.heap.size∧xs.length ≤ L.lim ∧
   (∀ o,L.st ≤ o→o < L.st + L.lim * n→(w.cell? ⟨L.b,o,none⟩).isSome=true∧w.frozen? ⟨L.b,o,none⟩=false) ∧
   VecRow S w L.b n L.st xs∧(∀ o,L.st + xs.length * n ≤ o→¬ S L.b o) ∧
   (fz=false→∀ o,L.st ≤ o→¬ S L.b o)∧(fz=true→∀ o,L.st ≤ o→o < L.st + xs.length * n→S L.b o)
 | .map ver es clock=>∃ L,ι id ver=some L∧base ≤ L.b∧L.b < w.heap.size∧(∀ o,¬ S L.b o) ∧ ∃ ens:Array MapEntry,w.heap[L.b]? = some (.map ens clock)∧MapRel (upto id.1 ι) S w es ens.toList∧(∀ e ∈ es,e.1 < clock)∧es.Pairwise (fun a b=>a.1 ≠ b.1)
 | .sit ver s pos=>∃ L,ι id ver=some L∧base ≤ L.b∧L.b < w.heap.size∧(∀ o,¬ S L.b o)∧w.heap[L.b]? = some (.stringIter s pos)
 | .mit ver m since seen last=>∃ L,ι id ver=some L∧base ≤ L.b∧L.b < w.heap.size∧(∀ o,¬ S L.b o) ∧ ∃ mb,(∃ sn:List Nat,SameSeen seen sn∧w.heap[L.b]? = some (.mapIter mb since sn.toArray last))∧(match m with | none=>mb=none | some (i,v)=>∃ Lm,upto id.1 ι i v=some Lm∧mb=some Lm.b)
structure Env where
 base:Nat
 w0:World
 S0:Sb
 d:Nat
 ι0:Ix
 w1:World
 prot:Nat→Prop
 vb:Id→Nat
structure RelH (E:Env) (ι:Ix) (S:Sb) (h:Id→O) (w:World):Prop where
 below:Below E.base E.w0 w
 size:E.base ≤ w.heap.size
 objs:∀ id,ORel ι S E.base w id (h id)
 apart:∀ id id' L L',id ≠ id'→(h id).live=true→(h id').live=true→ι id (h id).ver=some L→ι id' (h id').ver=some L'→L.b ≠ L'.b
 vers:∀ id ver,(h id).ver < ver→ι id ver=none
 sub:∀ b o,E.S0 b o→S b o
 new:∀ b o,S b o→E.S0 b o ∨ E.base ≤ b
 inw:∀ b o,S b o→b < w.heap.size
 old:∀ i v L,i.1 < E.d→E.ι0 i v=some L→ι i v=some L
 deep:∀ i v,E.d < i.1→ι i v=none
 hold:∀ b o,E.S0 b o→w.cell? ⟨b,o,none⟩=E.w1.cell? ⟨b,o,none⟩
 prot:∀ b,E.prot b→b < w.heap.size∧w.heap[b]? = E.w1.heap[b]? ∧ (∀ o,S b o→E.S0 b o) ∧ ∀ id L,(h id).live=true→ι id (h id).ver=some L→L.b ≠ b
 z:∀ id,ι id 0=none
 low:∀ i:Id,i.1 < E.d→E.vb i ≤ (h i).ver ∧ ∀ v,v ≤ E.vb i→ι i v=E.ι0 i v
structure Mono (ι:Ix) (S:Sb) (w:World) (ι':Ix) (S':Sb) (w':World):Prop where
 ix:∀ id ver L,ι id ver=some L→ι' id ver=some L
 sb:∀ b o,S b o→S' b o
 cell:∀ b o,S b o→w'.cell? ⟨b,o,none⟩=w.cell? ⟨b,o,none⟩
theorem Mono.refl (ι:Ix) (S:Sb) (w:World):Mono ι S w ι S w:=⟨fun _ _ _ h=>h,fun _ _ h=>h,fun _ _ _=>rfl⟩
theorem Mono.trans {ι ι' ι'':Ix} {S S' S'':Sb} {w w' w'':World} (h:Mono ι S w ι' S' w') (k:Mono ι' S' w' ι'' S'' w''):Mono ι S w ι'' S'' w'' :=
 ⟨fun _ _ _ e=>k.ix _ _ _ (h.ix _ _ _ e),fun _ _ e=>k.sb _ _ (h.sb _ _ e),fun _ _ e=>(k.cell _ _ (h.sb _ _ e)).trans (h.cell _ _ e)⟩
mutual
theorem CellsD_mono {S S':Sb} {w w':World} (hs:∀ b o,S b o→S' b o) (hc:∀ b o,S b o→w'.cell? ⟨b,o,none⟩=w.cell? ⟨b,o,none⟩):∀ (x:D) (us:List Value),CellsD S w x us→CellsD S' w' x us
 | .s v,us,h=>by unfold CellsD at *; exact h
 | .agg ys,us,h=>by unfold CellsD at *; exact CellsL_mono hs hc ys us h
 | .lst zs,us,h=>by
  unfold CellsD at *
  obtain ⟨a,cap,h1,h2,h3⟩:=h
  refine ⟨a,cap,h1,h2,?_⟩
  rcases h3 with h3 | ⟨b,o,n,h3,h4⟩
  ·exact Or.inl h3
  ·exact Or.inr ⟨b,o,n,h3,RowD_mono hs hc b n o zs h4⟩
 | .ifc t x,us,h=>by
  unfold CellsD at *
  obtain ⟨vs,h1,h2⟩:=h
  exact ⟨vs,CellsD_mono hs hc x vs h1,h2⟩
 | .any,us,h=>by unfold CellsD at *; exact h
theorem CellsL_mono {S S':Sb} {w w':World} (hs:∀ b o,S b o→S' b o) (hc:∀ b o,S b o→w'.cell? ⟨b,o,none⟩=w.cell? ⟨b,o,none⟩):∀ (xs:List D) (us:List Value),CellsL S w xs us→CellsL S' w' xs us
 | [],us,h=>by unfold CellsL at *; exact h
 | y :: ys,us,h=>by
  unfold CellsL at *
  obtain ⟨u,us',h1,h2,h3⟩:=h
  exact ⟨u,us',h1,⟨h2.1,CellsD_mono hs hc y _ h2.2⟩,CellsL_mono hs hc ys _ h3⟩
theorem RowD_mono {S S':Sb} {w w':World} (hs:∀ b o,S b o→S' b o) (hc:∀ b o,S b o→w'.cell? ⟨b,o,none⟩=w.cell? ⟨b,o,none⟩) (b n:Nat):∀ (o:Nat) (xs:List D),RowD S w b n o xs→RowD S' w' b n o xs
 | o,[],_=>by unfold RowD; trivial
 | o,x :: xs,h=>by
  unfold RowD at *
  obtain ⟨⟨us,h1,h2,h3,h4⟩,h5⟩:=h
  exact ⟨⟨us,h1,h2,CellsD_mono hs hc x us h3,fun j u hj=>⟨(h4 j u hj).1,hs _ _ (h4 j u hj).2.1,(hc _ _ (h4 j u hj).2.1).trans (h4 j u hj).2.2⟩⟩,RowD_mono hs hc b n (o + n) xs h5⟩
end
theorem ValD_mono {S S':Sb} {w w':World} (hs:∀ b o,S b o→S' b o) (hc:∀ b o,S b o→w'.cell? ⟨b,o,none⟩=w.cell? ⟨b,o,none⟩) (x:D) (u:Value) (h:ValD S w x u):ValD S' w' x u:=by
 cases x with
 | agg ys =>
  obtain ⟨us,h1,h2⟩:=h
  exact ⟨us,h1,CellsL_mono hs hc _ _ h2⟩
 | s v=>exact CellsD_mono hs hc (.s v) _ h
 | lst zs=>exact CellsD_mono hs hc (.lst zs) _ h
 | ifc t x=>exact CellsD_mono hs hc (.ifc t x) _ h
 | any=>exact CellsD_mono hs hc .any _ h
mutual
theorem VA_mono {ι ι':Ix} {S S':Sb} {w w':World} (m:Mono ι S w ι' S' w'):∀ (x:A) (u:Value),VA ι S w x u→VA ι' S' w' x u
 | .any,u,h=>by unfold VA; trivial
 | .d x,u,h=>by unfold VA at *; exact ValD_mono m.sb m.cell x u h
 | .clip xs,u,h=>by
  unfold VA at *
  obtain ⟨a,h1,h3⟩:=h
  refine ⟨a,h1,?_⟩
  rcases h3 with h3 | ⟨b,o,n,h3,h4⟩
  ·exact Or.inl h3
  ·exact Or.inr ⟨b,o,n,h3,RowD_mono m.sb m.cell b n o xs h4⟩
 | .agg xs,u,h=>by
  unfold VA at *
  obtain ⟨us,h1,h2⟩:=h
  exact ⟨us,h1,VL_mono m xs _ h2⟩
 | .tup xs,u,h=>by
  unfold VA at *
  obtain ⟨us,h1,h2⟩:=h
  exact ⟨us,h1,VL_mono m xs _ h2⟩
 | .bp id ver off,u,h=>by
  unfold VA at *
  obtain ⟨L,h1,h2⟩:=h
  exact ⟨L,m.ix _ _ _ h1,h2⟩
 | .sl id ver off len,u,h=>by
  unfold VA at *
  obtain ⟨a,cap,h1,h2,h3⟩:=h
  refine ⟨a,cap,h1,h2,?_⟩
  rcases h3 with h3 | ⟨L,h3,h4⟩
  ·exact Or.inl h3
  ·exact Or.inr ⟨L,m.ix _ _ _ h3,h4⟩
 | .op id ver i off,u,h=>by
  unfold VA at *
  obtain ⟨L,h1,h2⟩:=h
  exact ⟨L,m.ix _ _ _ h1,h2⟩
 | .ep xs i off,u,h=>by
  unfold VA at *
  obtain ⟨b,o,n,h1,h2⟩:=h
  exact ⟨b,o,n,h1,RowD_mono m.sb m.cell b n o xs h2⟩
 | .clo f caps,u,h=>by
  unfold VA at *
  obtain ⟨us,h1,h2⟩:=h
  exact ⟨us,h1,VL_mono m caps _ h2⟩
 | .mp id ver,u,h=>by
  unfold VA at *
  obtain ⟨L,h1,h2⟩:=h
  exact ⟨L,m.ix _ _ _ h1,h2⟩
 | .it id ver,u,h=>by
  unfold VA at *
  obtain ⟨L,h1,h2⟩:=h
  exact ⟨L,m.ix _ _ _ h1,h2⟩
theorem VL_mono {ι ι':Ix} {S S':Sb} {w w':World} (m:Mono ι S w ι' S' w'):∀ (xs:List A) (us:List Value),VL ι S w xs us→VL ι' S' w' xs us
 | [],us,h=>by unfold VL at *; exact h
 | y :: ys,us,h=>by
  unfold VL at *
  obtain ⟨u,us',h1,h2,h3⟩:=h
  exact ⟨u,us',h1,VA_mono m y _ h2,VL_mono m ys _ h3⟩
end
theorem upto_some {k:Nat} {ι:Ix} {i:Id} {v:Nat} {L:Loc} (h:upto k ι i v=some L):i.1 ≤ k∧ι i v=some L:=by
 unfold upto at h
 split at h
 ·rename_i hk; exact ⟨hk,h⟩
 ·cases h
theorem upto_of {k:Nat} {ι:Ix} {i:Id} {v:Nat} {L:Loc} (hk:i.1 ≤ k) (h:ι i v=some L):upto k ι i v=some L:=by unfold upto; rw [if_pos hk]; exact h
theorem Mono.upto {k:Nat} {ι ι':Ix} {S S':Sb} {w w':World} (m:Mono ι S w ι' S' w'):Mono (upto k ι) S w (Go.Proofs.YtenoggjjhamdaaaGreatDoor.upto k ι') S' w' :=
 ⟨fun _ _ _ h=>upto_of (upto_some h).1 (m.ix _ _ _ (upto_some h).2),m.sb,m.cell⟩
theorem Mono.less {k:Nat} {ι ι':Ix} {S S':Sb} {w w':World} (m:Mono ι S w ι' S' w'):Mono (Go.Proofs.YtenoggjjhamdaaaGreatDoor.upto k ι) S w ι' S' w' :=
 ⟨fun _ _ _ h=>m.ix _ _ _ (upto_some h).2,m.sb,m.cell⟩
mutual
theorem VA_low {k:Nat} {ι:Ix} {S:Sb} {w:World}:∀ (x:A) (u:Value),A.low k x=true→VA ι S w x u→VA (upto k ι) S w x u
 | .any,u,_,h=>by unfold VA; trivial
 | .d x,u,_,h=>by unfold VA at *; exact h
 | .clip xs,u,_,h=>by unfold VA at *; exact h
 | .agg xs,u,hl,h=>by
  unfold VA at *
  obtain ⟨us,h1,h2⟩:=h
  exact ⟨us,h1,VL_low xs _ hl h2⟩
 | .tup xs,u,hl,h=>by
  unfold VA at *
  obtain ⟨us,h1,h2⟩:=h
  exact ⟨us,h1,VL_low xs _ hl h2⟩
 | .bp id ver off,u,hl,h=>by
  unfold VA at *
  obtain ⟨L,h1,h2⟩:=h
  exact ⟨L,upto_of (of_decide_eq_true hl) h1,h2⟩
 | .sl id ver off len,u,hl,h=>by
  unfold VA at *
  obtain ⟨a,cap,h1,h2,h3⟩:=h
  refine ⟨a,cap,h1,h2,?_⟩
  rcases h3 with h3 | ⟨L,h3,h4⟩
  ·exact Or.inl h3
  ·exact Or.inr ⟨L,upto_of (of_decide_eq_true hl) h3,h4⟩
 | .op id ver i off,u,hl,h=>by
  unfold VA at *
  obtain ⟨L,h1,h2⟩:=h
  exact ⟨L,upto_of (of_decide_eq_true hl) h1,h2⟩
 | .ep xs i off,u,_,h=>by unfold VA at *; exact h
 | .clo f caps,u,hl,h=>by
  unfold VA at *
  obtain ⟨us,h1,h2⟩:=h
  exact ⟨us,h1,VL_low caps _ hl h2⟩
 | .mp id ver,u,hl,h=>by
  unfold VA at *
  obtain ⟨L,h1,h2⟩:=h
  exact ⟨L,upto_of (of_decide_eq_true hl) h1,h2⟩
 | .it id ver,u,hl,h=>by
  unfold VA at *
  obtain ⟨L,h1,h2⟩:=h
  exact ⟨L,upto_of (of_decide_eq_true hl) h1,h2⟩
theorem VL_low {k:Nat} {ι:Ix} {S:Sb} {w:World}:∀ (xs:List A) (us:List Value),A.lows k xs=true→VL ι S w xs us→VL (upto k ι) S w xs us
 | [],us,_,h=>by unfold VL at *; exact h
 | y :: ys,us,hl,h=>by
  unfold VL at *
  obtain ⟨u,us',h1,h2,h3⟩:=h
  unfold A.lows at hl
  simp only [Bool.and_eq_true] at hl
  exact ⟨u,us',h1,VA_low y _ hl.1 h2,VL_low ys _ hl.2 h3⟩
end
theorem MapRel_mono {ι ι':Ix} {S S':Sb} {w w':World} (m:Mono ι S w ι' S' w'):∀ {es:List (Nat × Value × A)} {ms:List MapEntry},MapRel ι S w es ms→MapRel ι' S' w' es ms
 | [],ms,h=>h
 | e :: es,ms,h=>by
  obtain ⟨x,ms',h1,h2,h3,h4,h5⟩:=h
  exact ⟨x,ms',h1,h2,h3,VA_mono m _ _ h4,MapRel_mono m h5⟩
theorem VL_get {ι:Ix} {S:Sb} {w:World}:∀ {xs:List A} {us:List Value},VL ι S w xs us ↔ xs.length=us.length ∧ ∀ (i:Nat) x u,xs[i]? = some x→us[i]? = some u→VA ι S w x u
 | [],us=>by
  unfold VL
  constructor
  ·rintro rfl; simp
  ·rintro ⟨h,_⟩; exact List.length_eq_zero_iff.1 h.symm
 | x :: xs,us=>by
  unfold VL
  constructor
  ·rintro ⟨u,us',rfl,h1,h2⟩
   obtain ⟨h3,h4⟩:=VL_get.1 h2
   refine ⟨by simp [h3],fun i y v hy hv=>?_⟩
   cases i with
   | zero=>simp at hy hv; subst hy hv; exact h1
   | succ i=>exact h4 i y v (by simpa using hy) (by simpa using hv)
  ·rintro ⟨h1,h2⟩
   cases us with
   | nil=>simp at h1
   | cons u us=>exact ⟨u,us,rfl,h2 0 x u rfl rfl,VL_get.2 ⟨by simpa using h1,fun i y v hy hv=>h2 (i + 1) y v (by simpa using hy) (by simpa using hv)⟩⟩
theorem CellsL_get {S:Sb} {w:World}:∀ {xs:List D} {us:List Value},CellsL S w xs us ↔ xs.length=us.length ∧ ∀ (i:Nat) x u,xs[i]? = some x→us[i]? = some u→x.flat=true∧CellsD S w x [u]
 | [],us=>by
  unfold CellsL
  constructor
  ·rintro rfl; simp
  ·rintro ⟨h,_⟩; exact List.length_eq_zero_iff.1 h.symm
 | x :: xs,us=>by
  unfold CellsL
  constructor
  ·rintro ⟨u,us',rfl,h1,h2⟩
   obtain ⟨h3,h4⟩:=CellsL_get.1 h2
   refine ⟨by simp [h3],fun i y v hy hv=>?_⟩
   cases i with
   | zero=>simp at hy hv; subst hy hv; exact h1
   | succ i=>exact h4 i y v (by simpa using hy) (by simpa using hv)
  ·rintro ⟨h1,h2⟩
   cases us with
   | nil=>simp at h1
   | cons u us=>exact ⟨u,us,rfl,h2 0 x u rfl rfl,CellsL_get.2 ⟨by simpa using h1,fun i y v hy hv=>h2 (i + 1) y v (by simpa using hy) (by simpa using hv)⟩⟩
theorem RowD_get {S:Sb} {w:World} {b n:Nat}:∀ {o:Nat} {xs:List D},RowD S w b n o xs ↔ ∀ (i:Nat) x,xs[i]? = some x→∃ us:List Value,us.length=n∧x.cells.length=n∧CellsD S w x us ∧ ∀ (j:Nat) u,us[j]? = some u→u.oneCell' = true∧S b (o + i * n + j)∧w.cell? ⟨b,o + i * n + j,none⟩=some u
 | o,[]=>by unfold RowD; simp
 | o,x :: xs=>by
  unfold RowD
  constructor
  ·rintro ⟨⟨us,h1,h2,h3,h4⟩,h5⟩ i y hy
   cases i with
   | zero=>simp at hy; subst hy; exact ⟨us,h1,h2,h3,by simpa using h4⟩
   | succ i =>
    obtain ⟨us',g1,g2,g3,g4⟩:=RowD_get.1 h5 i y (by simpa using hy)
    have e:o + (i + 1) * n=o + n + i * n:=by rw [Nat.succ_mul]; omega
    exact ⟨us',g1,g2,g3,by rw [e]; exact g4⟩
  ·intro h
   refine ⟨?_,RowD_get.2 fun i y hy=>?_⟩
   ·simpa using h 0 x rfl
   ·obtain ⟨us',g1,g2,g3,g4⟩:=h (i + 1) y (by simpa using hy)
    have e:o + (i + 1) * n=o + n + i * n:=by rw [Nat.succ_mul]; omega
    exact ⟨us',g1,g2,g3,by rw [← e]; exact g4⟩
theorem VecRow.row {S:Sb} {w:World} {b n o:Nat} {xs:List D} (h:VecRow S w b n o xs) (hs:∀ p,o ≤ p→p < o + xs.length * n→S b p):RowD S w b n o xs :=
 RowD_get.2 fun i x hx=>by
  obtain ⟨us,h1,h2,h3,h4⟩:=h i x hx
  refine ⟨us,h1,h2,h3,fun j u hj=>⟨(h4 j u hj).1,hs _ (by omega) ?_,(h4 j u hj).2⟩⟩
  have hi:i < xs.length:=(List.getElem?_eq_some_iff.1 hx).1
  have hj':j < us.length:=(List.getElem?_eq_some_iff.1 hj).1
  have:(i + 1) * n ≤ xs.length * n:=Nat.mul_le_mul_right _ hi
  rw [Nat.succ_mul] at this
  omega
theorem RowD.vec {S:Sb} {w:World} {b n o:Nat} {xs:List D} (h:RowD S w b n o xs):VecRow S w b n o xs:=fun i x hx=>by
 obtain ⟨us,h1,h2,h3,h4⟩:=RowD_get.1 h i x hx
 exact ⟨us,h1,h2,h3,fun j u hj=>⟨(h4 j u hj).1,(h4 j u hj).2.2⟩⟩
theorem RowD.drop {S:Sb} {w:World} {b n o:Nat} {xs:List D} (h:RowD S w b n o xs) (k:Nat):RowD S w b n (o + k * n) (xs.drop k) :=
 RowD_get.2 fun i x hx=>by
  rw [List.getElem?_drop] at hx
  obtain ⟨us,h1,h2,h3,h4⟩:=RowD_get.1 h _ x hx
  have e:o + (k + i) * n=o + k * n + i * n:=by rw [Nat.add_mul]; omega
  exact ⟨us,h1,h2,h3,by rw [← e]; exact h4⟩
theorem RowD.take {S:Sb} {w:World} {b n o:Nat} {xs:List D} (h:RowD S w b n o xs) (k:Nat):RowD S w b n o (xs.take k) :=
 RowD_get.2 fun i x hx=>RowD_get.1 h i x (by
  rw [List.getElem?_take] at hx
  split at hx
  ·exact hx
  ·cases hx)
theorem VecRow.drop {S:Sb} {w:World} {b n o:Nat} {xs:List D} (h:VecRow S w b n o xs) (k:Nat):VecRow S w b n (o + k * n) (xs.drop k):=fun i x hx=>by
  rw [List.getElem?_drop] at hx
  obtain ⟨us,h1,h2,h3,h4⟩:=h _ x hx
  have e:o + (k + i) * n=o + k * n + i * n:=by rw [Nat.add_mul]; omega
  exact ⟨us,h1,h2,h3,by rw [← e]; exact h4⟩
theorem VecRow.take {S:Sb} {w:World} {b n o:Nat} {xs:List D} (h:VecRow S w b n o xs) (k:Nat):VecRow S w b n o (xs.take k):=fun i x hx=>h i x (by
  rw [List.getElem?_take] at hx
  split at hx
  ·exact hx
  ·cases hx)
theorem VecRow.mono {S S':Sb} {w w':World} {b n o:Nat} {xs:List D} (h:VecRow S w b n o xs) (hs:∀ b o,S b o→S' b o) (hc:∀ b o,S b o→w'.cell? ⟨b,o,none⟩=w.cell? ⟨b,o,none⟩)
  (hk:∀ p,o ≤ p→p < o + xs.length * n→w'.cell? ⟨b,p,none⟩=w.cell? ⟨b,p,none⟩):VecRow S' w' b n o xs:=fun i x hx=>by
  obtain ⟨us,h1,h2,h3,h4⟩:=h i x hx
  refine ⟨us,h1,h2,CellsD_mono hs hc _ _ h3,fun j u hj=>⟨(h4 j u hj).1,?_⟩⟩
  have hi:i < xs.length:=(List.getElem?_eq_some_iff.1 hx).1
  have hj':j < us.length:=(List.getElem?_eq_some_iff.1 hj).1
  have:(i + 1) * n ≤ xs.length * n:=Nat.mul_le_mul_right _ hi
  rw [Nat.succ_mul] at this
  rw [hk _ (by omega) (by omega)]
  exact (h4 j u hj).2
end
section
theorem pureRun_run {P:Program} {α:Type} {e:Sem α} {a:α} (h:pureRun P e=some a) (w:World):e.run P w = .ok a w:=by
 induction e with
 | pure b=>simp only [pureRun,Option.some.injEq] at h; subst h; rfl
 | program k ih=>exact ih P h
 | _=>simp [pureRun] at h
section
variable {P:Program} {w:World} {t:TypeId}
theorem run_info {i:TypeInfo} (h:P.info? t=some i):(typeInfo t).run P w = .ok i w:=by
 simp only [typeInfo,Sem.run_bind,program,Sem.run,Result.andThen,h]; rfl
theorem run_size {n:Nat} (h:tsize P t=some n):(sizeOf t).run P w = .ok n w:=by
 obtain ⟨i,hi,rfl⟩:=Option.map_eq_some_iff.1 h
 simp only [sizeOf,Sem.run_bind,run_info hi,Result.andThen]; rfl
theorem run_zero {z:Value} (h:tzero P t=some z):(zeroValue t).run P w = .ok z w:=by
 obtain ⟨i,hi,hz⟩:=Option.bind_eq_some_iff.1 h
 simp only [zeroValue,Sem.run_bind,run_info hi,Result.andThen,hz]; rfl
theorem run_under {d:TypeDesc} (h:P.underlying t=some d):(underlying t).run P w = .ok d w:=by
 simp only [underlying,Sem.run_bind,program,Sem.run,Result.andThen,h]; rfl
theorem run_agg {b:Bool} (h:tagg P t=some b):(isAgg t).run P w = .ok b w:=by
 unfold tagg at h
 cases hu:P.underlying t with
 | none=>rw [hu] at h; simp at h
 | some d =>
  simp only [isAgg,Sem.run_bind,run_under hu,Result.andThen]
  rw [hu] at h
  cases d <;> simp_all <;> subst h <;> rfl
end
structure RelT (E:Env) (ι:Ix) (S:Sb) (w:World) (st:St) (a:Act):Prop where
 depth:st.d=E.d
 size:a.tmps.size=st.n
 defers:a.defers=[]
 vals:∀ i,i < st.n→VA ι S w (st.t i) (a.tmps.getD i undef)
theorem VA_ofCell (ι:Ix) (S:Sb) (w:World) (v:Value):VA ι S w (ofCell v) v:=by
 unfold ofCell
 split
 ·unfold VA; exact ⟨none,rfl,Or.inl rfl⟩
 ·unfold VA; trivial
 ·unfold VA ValD CellsD
  refine ⟨rfl,?_⟩
  cases v <;> first | rfl | simp_all
theorem VL_ofCell (ι:Ix) (S:Sb) (w:World):∀ l:List Value,VL ι S w (l.map ofCell) l
 | []=>by unfold VL; rfl
 | v :: l=>by
  simp only [List.map_cons]
  unfold VL
  exact ⟨v,l,rfl,VA_ofCell ι S w v,VL_ofCell ι S w l⟩
theorem allD_spec {ι:Ix} {S:Sb} {w:World}:∀ {l:List A} {ds:List D} {us:List Value},A.allD l=some ds→VL ι S w l us→CellsL S w ds us
 | [],ds,us,h,hv=>by
  simp only [A.allD,Option.some.injEq] at h
  subst h
  unfold VL at hv
  unfold CellsL; exact hv
 | a :: l,ds,us,h,hv=>by
  unfold VL at hv
  obtain ⟨u,us',rfl,h1,h2⟩:=hv
  cases a with
  | d x =>
   cases x with
   | agg ys=>simp [A.allD] at h
   | s v =>
    simp only [A.allD,Option.map_eq_some_iff] at h
    obtain ⟨ds',h3,rfl⟩:=h
    unfold VA at h1
    unfold CellsL
    exact ⟨u,us',rfl,⟨rfl,h1⟩,allD_spec h3 h2⟩
   | lst ys =>
    simp only [A.allD,Option.map_eq_some_iff] at h
    obtain ⟨ds',h3,rfl⟩:=h
    unfold VA at h1
    unfold CellsL
    exact ⟨u,us',rfl,⟨rfl,h1⟩,allD_spec h3 h2⟩
   | ifc t y =>
    simp only [A.allD,Option.map_eq_some_iff] at h
    obtain ⟨ds',h3,rfl⟩:=h
    unfold VA at h1
    unfold CellsL
    exact ⟨u,us',rfl,⟨rfl,h1⟩,allD_spec h3 h2⟩
   | any =>
    simp only [A.allD,Option.map_eq_some_iff] at h
    obtain ⟨ds',h3,rfl⟩:=h
    unfold VA at h1
    unfold CellsL
    exact ⟨u,us',rfl,⟨rfl,h1⟩,allD_spec h3 h2⟩
  | _=>simp [A.allD] at h
theorem VA_mk {ι:Ix} {S:Sb} {w:World} {l:List A} {us:List Value} (h:VL ι S w l us):VA ι S w (A.mk l) (.agg us.toArray):=by
 unfold A.mk
 split
 ·rename_i ds hd
  unfold VA ValD
  exact ⟨us.toArray,rfl,by simpa using allD_spec hd h⟩
 ·unfold VA
  exact ⟨us.toArray,rfl,by simpa using h⟩
theorem VA_ofV (ι:Ix) (S:Sb) (w:World) (v:Value):VA ι S w (ofV v) v:=by
 unfold ofV
 split
 ·rename_i cs
  simpa using VA_mk (VL_ofCell ι S w cs.toList)
 ·rename_i vs
  unfold VA
  exact ⟨vs,rfl,VL_ofCell ι S w _⟩
 ·exact VA_ofCell ι S w v
theorem VL_mapd {ι:Ix} {S:Sb} {w:World}:∀ {xs:List D} {us:List Value},CellsL S w xs us→VL ι S w (xs.map .d) us
 | [],us,h=>by unfold CellsL at h; simp only [List.map_nil]; unfold VL; exact h
 | x :: xs,us,h=>by
  unfold CellsL at h
  obtain ⟨u,us',rfl,⟨h0,h1⟩,h2⟩:=h
  simp only [List.map_cons]
  unfold VL
  refine ⟨u,us',rfl,?_,VL_mapd h2⟩
  unfold VA ValD
  cases x with
  | agg ys=>cases h0
  | s v=>exact h1
  | lst zs=>exact h1
  | ifc t y=>exact h1
  | any=>exact h1
theorem VA_cells {ι:Ix} {S:Sb} {w:World} {x:A} {u:Value} (h:VA ι S w x u) (hx:x ≠ .any):VL ι S w x.cells u.cells.toList:=by
 have one:∀ (y:A) (v:Value),VA ι S w y v→VL ι S w [y] [v]:=fun y v h=>by
  unfold VL; exact ⟨v,[],rfl,h,by unfold VL; rfl⟩
 cases x with
 | any=>exact absurd rfl hx
 | d x =>
  cases x with
  | s v =>
   have h':=h
   unfold VA ValD CellsD at h'
   obtain ⟨h1,h2⟩:=h'
   simp only [List.cons.injEq,and_true] at h1
   subst h1
   have e:u.cells.toList=[u]:=by cases u <;> first | rfl | simp [noAgg] at h2
   rw [e]
   exact one _ _ h
  | lst zs =>
   have h':=h
   unfold VA ValD CellsD at h'
   obtain ⟨a,cap,h1,_⟩:=h'
   simp only [List.cons.injEq,and_true] at h1
   subst h1
   exact one _ _ h
  | ifc t y =>
   have h':=h
   unfold VA ValD CellsD at h'
   obtain ⟨vs,_,h1⟩:=h'
   simp only [List.cons.injEq,and_true] at h1
   subst h1
   exact one _ _ h
  | any =>
   have h':=h
   unfold VA ValD CellsD at h'
   obtain ⟨v,h1,h2⟩:=h'
   simp only [List.cons.injEq,and_true] at h2
   subst h2
   have e:u.cells.toList=[u]:=by cases u <;> first | rfl | simp [Go.Value.oneCell'] at h1
   rw [e]
   exact one _ _ h
  | agg ys =>
   unfold VA ValD at h
   obtain ⟨us,rfl,h2⟩:=h
   exact VL_mapd h2
 | mp id ver =>
  have h':=h
  unfold VA at h'
  obtain ⟨_,_,rfl⟩:=h'
  exact one _ _ h
 | it id ver =>
  have h':=h
  unfold VA at h'
  obtain ⟨_,_,rfl⟩:=h'
  exact one _ _ h
 | agg xs =>
  unfold VA at h
  obtain ⟨us,rfl,h2⟩:=h
  exact h2
 | clip xs =>
  have h':=h
  unfold VA at h'
  obtain ⟨a,rfl,_⟩:=h'
  exact one _ _ h
 | tup xs =>
  have h':=h
  unfold VA at h'
  obtain ⟨a,rfl,_⟩:=h'
  exact one _ _ h
 | bp id ver off =>
  have h':=h
  unfold VA at h'
  obtain ⟨_,_,_,rfl⟩:=h'
  exact one _ _ h
 | sl id ver off len =>
  have h':=h
  unfold VA at h'
  obtain ⟨_,_,rfl,_⟩:=h'
  exact one _ _ h
 | op id ver i off =>
  have h':=h
  unfold VA at h'
  obtain ⟨_,_,rfl⟩:=h'
  exact one _ _ h
 | ep xs i off =>
  have h':=h
  unfold VA at h'
  obtain ⟨_,_,_,rfl,_⟩:=h'
  exact one _ _ h
 | clo f caps =>
  have h':=h
  unfold VA at h'
  obtain ⟨_,rfl,_⟩:=h'
  exact one _ _ h
theorem one_of {ι:Ix} {S:Sb} {w:World} {x:A} {u:Value} (h:VA ι S w x u) (hx:x.one=true):u.oneCell' = true:=by
 cases x with
 | d x =>
  cases x with
  | s v =>
   unfold VA ValD CellsD at h
   simp only [List.cons.injEq,and_true] at h
   obtain ⟨rfl,_⟩:=h
   exact hx
  | lst zs =>
   unfold VA ValD CellsD at h
   obtain ⟨a,cap,h1,_⟩:=h
   simp only [List.cons.injEq,and_true] at h1
   subst h1; rfl
  | ifc t y =>
   unfold VA ValD CellsD at h
   obtain ⟨vs,_,h1⟩:=h
   simp only [List.cons.injEq,and_true] at h1
   subst h1; rfl
  | any =>
   unfold VA ValD CellsD at h
   obtain ⟨u',h1,h2⟩:=h
   simp only [List.cons.injEq,and_true] at h2
   subst h2; exact h1
  | agg ys=>simp [A.one] at hx
 | clip xs=>unfold VA at h; obtain ⟨a,rfl,_⟩:=h; rfl
 | bp id ver off=>unfold VA at h; obtain ⟨_,_,_,rfl⟩:=h; rfl
 | sl id ver off len=>unfold VA at h; obtain ⟨_,_,rfl,_⟩:=h; rfl
 | op id ver i off=>unfold VA at h; obtain ⟨_,_,rfl⟩:=h; rfl
 | ep xs i off=>unfold VA at h; obtain ⟨_,_,_,rfl,_⟩:=h; rfl
 | clo f caps=>unfold VA at h; obtain ⟨_,rfl,_⟩:=h; rfl
 | mp id ver=>unfold VA at h; obtain ⟨_,_,rfl⟩:=h; rfl
 | it id ver=>unfold VA at h; obtain ⟨_,_,rfl⟩:=h; rfl
 | _=>simp [A.one] at hx
theorem ones_of {ι:Ix} {S:Sb} {w:World} {xs:List A} {us:List Value} (h:VL ι S w xs us) (hx:xs.all A.one=true):∀ u ∈ us,u.oneCell' = true:=by
 intro u hu
 obtain ⟨i,hi,rfl⟩:=List.getElem_of_mem hu
 obtain ⟨h1,h2⟩:=VL_get.1 h
 have hi':i < xs.length:=by omega
 exact one_of (h2 i xs[i] us[i] (List.getElem?_eq_getElem hi') (List.getElem?_eq_getElem hi)) (List.all_eq_true.1 hx _ (List.getElem_mem hi'))
theorem exacts_spec {S:Sb} {w:World}:∀ {xs:List D} {vs us:List Value},D.exacts xs=some vs→CellsL S w xs us→us=vs
 | [],vs,us,h,hc=>by
  simp only [D.exacts,Option.some.injEq] at h
  subst h
  unfold CellsL at hc; exact hc
 | x :: xs,vs,us,h,hc=>by
  unfold CellsL at hc
  obtain ⟨u,us',rfl,⟨_,h1⟩,h2⟩:=hc
  cases x with
  | s v =>
   simp only [D.exacts,Option.map_eq_some_iff] at h
   obtain ⟨vs',h3,rfl⟩:=h
   unfold CellsD at h1
   simp only [List.cons.injEq,and_true] at h1
   rw [exacts_spec h3 h2,h1.1]
  | _=>simp [D.exacts] at h
theorem exact_spec {ι:Ix} {S:Sb} {w:World} {x:A} {u v:Value} (h:VA ι S w x u) (hx:x.exact=some v):u=v:=by
 cases x with
 | d x =>
  cases x with
  | s v' =>
   unfold VA ValD CellsD at h
   simp only [List.cons.injEq,and_true] at h
   simp only [A.exact,Option.some.injEq] at hx
   rw [h.1,hx]
  | agg ys =>
   unfold VA ValD at h
   obtain ⟨us,rfl,h2⟩:=h
   simp only [A.exact,Option.map_eq_some_iff] at hx
   obtain ⟨vs,h3,rfl⟩:=hx
   rw [← exacts_spec h3 h2]
  | lst zs=>simp [A.exact] at hx
  | ifc t y =>
   unfold VA ValD CellsD at h
   obtain ⟨vs,h1,h2⟩:=h
   simp only [List.cons.injEq,and_true] at h2
   subst h2
   cases y with
   | s v' =>
    unfold CellsD at h1
    simp only [A.exact,Option.some.injEq] at hx
    rw [← hx,h1.1]; rfl
   | agg ys =>
    unfold CellsD at h1
    simp only [A.exact,Option.map_eq_some_iff] at hx
    obtain ⟨vs',h3,rfl⟩:=hx
    rw [← exacts_spec h3 h1]; rfl
   | lst zs=>simp [A.exact] at hx
   | ifc t z=>simp [A.exact] at hx
   | any=>simp [A.exact] at hx
  | any=>simp [A.exact] at hx
 | _=>simp [A.exact] at hx
theorem ev_VA {E:Env} {ι:Ix} {S:Sb} {w:World} {st:St} {a:Act} (h:RelT E ι S w st a) (x:Operand):VA ι S w (st.ev x) (a.eval x):=by
 cases x with
 | tmp t =>
  show VA ι S w (if t < st.n then st.t t else .d (.s undef)) (a.tmps.getD t undef)
  by_cases ht:t < st.n
  ·rw [if_pos ht]; exact h.vals t ht
  ·rw [if_neg ht]
   have:a.tmps.getD t undef=undef:=by
    rw [Array.getD_eq_getD_getElem?,Array.getElem?_eq_none (by rw [h.size]; exact Nat.le_of_not_lt ht)]; rfl
   rw [this]
   unfold VA ValD CellsD
   exact ⟨rfl,rfl⟩
 | const v=>exact VA_ofV ι S w v
 | global g =>
  show VA ι S w (.d (.s (.pointer (some ⟨g,0,none⟩)))) (.pointer (some ⟨g,0,none⟩))
  unfold VA ValD CellsD
  exact ⟨rfl,rfl⟩
 | func f =>
  show VA ι S w (.clo f []) (.func (.func f) #[] #[])
  unfold VA
  exact ⟨#[],rfl,by show VL ι S w [] []; unfold VL; rfl⟩
def Steps (E:Env) (ι:Ix) (S:Sb) (h:Id→O) (w:World) (e:Eff) (u:Value) (w':World):Prop :=
 ∃ ι' S',Mono ι S w ι' S' w' ∧ VA ι' S' w' e.v u∧RelH E ι' S' (e.out h) w'
theorem Steps.still {E:Env} {ι:Ix} {S:Sb} {h:Id→O} {w:World} {e:Eff} {u:Value} (hr:RelH E ι S h w) (hw:e.wr=[]) (hv:VA ι S w e.v u):Steps E ι S h w e u w :=
 ⟨ι,S,Mono.refl _ _ _,hv,by unfold Eff.out; rw [hw]; exact hr⟩
theorem exactE_ok {P:Program} {E:Env} {ι:Ix} {S:Sb} {w:World} {st:St} {a:Act} {o:Oper} {e:Eff} (ht:RelT E ι S w st a) (hr:RelH E ι S st.h w) (hs:∀ cs b,o.op ≠ .select cs b) (h:exactE P st.ev o=some e) :
  ∃ u,(execOp a.eval o).run P w = .ok (.value u) w∧Steps E ι S st.h w e u w:=by
 unfold exactE at h
 obtain ⟨v,h1,rfl⟩:=Option.map_eq_some_iff.1 h
 unfold exactOp at h1
 split at h1
 ·rename_i hall
  have hc:execOp a.eval o=execOp (fun x=>((st.ev x).exact).getD undef) o:=execOp_congr o hs fun x hx=>by
   have:=Array.all_eq_true_iff_forall_mem.1 hall x hx
   obtain ⟨v,hv⟩:=Option.isSome_iff_exists.1 this
   rw [hv]
   exact exact_spec (ev_VA ht x) hv
  split at h1
  ·rename_i v' hp
   simp only [Option.some.injEq] at h1
   subst h1
   refine ⟨v',?_,Steps.still hr rfl (VA_ofV _ _ _ _)⟩
   rw [hc]
   exact pureRun_run hp w
  ·cases h1
 ·cases h1
end
end Go.Proofs.YtenoggjjhamdaaaGreatDoor
