/-
  WHAT IS PROVED HERE: parts of the proof: Is2 Facts Is3 Is4 Is5 Is6 Is7 Is8 Wo26 Qi26 Qj26 Qk26.
-/
import Derived.Laws.StructEq
import Derived.Test.YtenoggjjhamdaaaGreatDoorProg
import Derived.KernelRfl
import Derived.Laws.Bits64
import Derived.Lib.AtoiAll
import Derived.Lib.ItoaNum
import Derived.Lib.ReplaceLaws
import Derived.Lib.SlTrimSet
import Derived.Lib.Join
import Derived.Test.YtenoggjjhamdaaaGreatDoorB06
set_option linter.all false
namespace Go.Proofs.YtenoggjjhamdaaaGreatDoor
open Go Go.RowKit
section
def exBin (P:Program) (op:BinOp) (t:TypeId) (x y:Operand) (a b:A):Option Eff :=
 match a.exact,b.exact with
 | some u,some v=>(pureRun P (do eqGuard op t x y u v; binOp op t u v)).map fun v=>{ v:=ofV v }
 | _,_=>none
theorem exactE_bin (P:Program) (ev:Operand→A) (dst:Option Tmp) (op:BinOp) (t:TypeId) (x y:Operand) (t' ty:TypeId) (pos:String) (af:Array Edge) (g:Option (Nat × Bool)):exactE P ev ⟨dst,.binOp op t x y t',ty,pos,af,g⟩=exBin P op t x y (ev x) (ev y):=by
 unfold exactE exactOp exBin
 simp only [Op.operands]
 cases hx:(ev x).exact with
 | none=>simp [hx]
 | some u =>
  cases hy:(ev y).exact with
  | none=>simp [hx,hy]
  | some v =>
   simp only [execOp,hx,hy,Option.getD_some,pureRun_bind,pureRun_pure]
   simp only [List.all_toArray,List.all_cons,List.all_nil,hx,hy,Option.isSome_some,Bool.and_self,if_true]
   cases pureRun P (eqGuard op t x y u v) with
   | none=>rfl
   | some _ =>
    simp only [Option.bind_some]
    cases pureRun P (binOp op t u v) with
    | none=>rfl
    | some _=>rfl
theorem ex_add (P:Program) (t:TypeId) (x y:Operand) (k:IntKind) (a b:Int):exBin P .add t x y (.d (.s (.int k a))) (.d (.s (.int k b)))=some { v:=.d (.s (.int k (k.wrap (a + b)))) }:=by cases k <;> rfl
theorem ex_sub (P:Program) (t:TypeId) (x y:Operand) (k:IntKind) (a b:Int):exBin P .sub t x y (.d (.s (.int k a))) (.d (.s (.int k b)))=some { v:=.d (.s (.int k (k.wrap (a - b)))) }:=by cases k <;> rfl
theorem ex_mul (P:Program) (t:TypeId) (x y:Operand) (k:IntKind) (a b:Int):exBin P .mul t x y (.d (.s (.int k a))) (.d (.s (.int k b)))=some { v:=.d (.s (.int k (k.wrap (a * b)))) }:=by cases k <;> rfl
theorem ex_eql (P:Program) (t:TypeId) (x y:Operand) (k:IntKind) (a b:Int):exBin P .eql t x y (.d (.s (.int k a))) (.d (.s (.int k b)))=some { v:=.d (.s (.bool (a == b))) }:=by cases k <;> rfl
theorem ex_neq (P:Program) (t:TypeId) (x y:Operand) (k:IntKind) (a b:Int):exBin P .neq t x y (.d (.s (.int k a))) (.d (.s (.int k b)))=some { v:=.d (.s (.bool (a != b))) }:=by cases k <;> rfl
theorem ex_lss (P:Program) (t:TypeId) (x y:Operand) (k:IntKind) (a b:Int):exBin P .lss t x y (.d (.s (.int k a))) (.d (.s (.int k b)))=some { v:=.d (.s (.bool (decide (a < b)))) }:=by cases k <;> rfl
theorem ex_leq (P:Program) (t:TypeId) (x y:Operand) (k:IntKind) (a b:Int):exBin P .leq t x y (.d (.s (.int k a))) (.d (.s (.int k b)))=some { v:=.d (.s (.bool (decide (a ≤ b)))) }:=by cases k <;> rfl
theorem ex_gtr (P:Program) (t:TypeId) (x y:Operand) (k:IntKind) (a b:Int):exBin P .gtr t x y (.d (.s (.int k a))) (.d (.s (.int k b)))=some { v:=.d (.s (.bool (decide (b < a)))) }:=by cases k <;> rfl
theorem ex_geq (P:Program) (t:TypeId) (x y:Operand) (k:IntKind) (a b:Int):exBin P .geq t x y (.d (.s (.int k a))) (.d (.s (.int k b)))=some { v:=.d (.s (.bool (decide (b ≤ a)))) }:=by cases k <;> rfl
theorem exs_eql (P:Program) (t:TypeId) (u v:Operand) (x y:ByteArray):exBin P .eql t u v (.d (.s (.string x))) (.d (.s (.string y)))=some { v:=.d (.s (.bool (x.toList == y.toList))) }:=rfl
theorem exs_neq (P:Program) (t:TypeId) (u v:Operand) (x y:ByteArray):exBin P .neq t u v (.d (.s (.string x))) (.d (.s (.string y)))=some { v:=.d (.s (.bool (!(x.toList == y.toList)))) }:=rfl
theorem exs_lss (P:Program) (t:TypeId) (u v:Operand) (x y:ByteArray):exBin P .lss t u v (.d (.s (.string x))) (.d (.s (.string y)))=some { v:=.d (.s (.bool (Op.bytesLess x.toList y.toList))) }:=rfl
theorem exs_leq (P:Program) (t:TypeId) (u v:Operand) (x y:ByteArray):exBin P .leq t u v (.d (.s (.string x))) (.d (.s (.string y)))=some { v:=.d (.s (.bool (Op.bytesLess x.toList y.toList || x.toList == y.toList))) }:=rfl
theorem exs_gtr (P:Program) (t:TypeId) (u v:Operand) (x y:ByteArray):exBin P .gtr t u v (.d (.s (.string x))) (.d (.s (.string y)))=some { v:=.d (.s (.bool (!(Op.bytesLess x.toList y.toList || x.toList == y.toList)))) }:=rfl
theorem exs_geq (P:Program) (t:TypeId) (u v:Operand) (x y:ByteArray):exBin P .geq t u v (.d (.s (.string x))) (.d (.s (.string y)))=some { v:=.d (.s (.bool (!Op.bytesLess x.toList y.toList))) }:=rfl
theorem exs_add (P:Program) (t:TypeId) (u v:Operand) (x y:ByteArray):exBin P .add t u v (.d (.s (.string x))) (.d (.s (.string y)))=if x.size + y.size ≤ 9223372036854775807 then some { v:=.d (.s (.string (x ++ y))) } else none:=by
 by_cases h:x.size + y.size ≤ 9223372036854775807
 ·have h':¬ (((x.size + y.size:Nat):Int) > IntKind.i64.max):=by simp [IntKind.max,IntKind.bits,IntKind.signed]; omega
  rw [if_pos h]
  simp only [exBin,A.exact,eqGuard,binOp,Op.stringOp]
  rw [if_neg h']; rfl
 ·have h':(((x.size + y.size:Nat):Int) > IntKind.i64.max):=by simp [IntKind.max,IntKind.bits,IntKind.signed]; omega
  rw [if_neg h]
  simp only [exBin,A.exact,eqGuard,binOp,Op.stringOp]
  rw [if_pos h']; rfl
def faddr (x:A) (o:Nat):Option Eff :=
 match x with
 | .bp id ver off=>some { v:=.bp id ver (off + o) }
 | .op id ver i off=>some { v:=.op id ver i (off + o) }
 | .ep xs i off=>some { v:=.ep xs i (off + o) }
 | _=>none
theorem exactE_un (P:Program) (ev:Operand→A) (dst:Option Tmp) (op:UnOp) (t:TypeId) (x:Operand) (ty:TypeId) (pos:String) (af:Array Edge) (g:Option (Nat × Bool)):exactE P ev ⟨dst,.unOp op t x,ty,pos,af,g⟩=(match (ev x).exact with | some u=>(pureRun P (Op.unary op u)).map fun v=>{ v:=ofV v } | none=>none):=by
 unfold exactE exactOp
 simp only [Op.operands]
 cases hx:(ev x).exact with
 | none=>simp [hx]
 | some u =>
  simp only [execOp,hx,Option.getD_some,pureRun_bind,pureRun_pure]
  simp only [List.all_toArray,List.all_cons,List.all_nil,hx,Option.isSome_some,Bool.and_self,if_true]
  cases pureRun P (Op.unary op u) with
  | none=>rfl
  | some _=>rfl
theorem un_not (P:Program) (b:Bool):pureRun P (Op.unary .not (.bool b))=some (.bool !b):=rfl
theorem un_neg (P:Program) (k:IntKind) (n:Int):pureRun P (Op.unary .neg (.int k n))=some (.int k (k.wrap (0 - n))):=rfl
theorem pureRun_ite {P:Program} {α:Type} (c:Prop) [Decidable c] (x y:Sem α):pureRun P (if c then x else y)=if c then pureRun P x else pureRun P y:=by split <;> rfl
def fEq (P:Program) (d:Nat) (xs ys:Array Value) (f:Field):Option Bool :=
 match pureRun P (part f.type xs f.offset),pureRun P (part f.type ys f.offset) with
 | some a,some b=>pureRun P (Op.equalIn d f.type a b)
 | _,_=>none
def eqList (P:Program) (d:Nat) (xs ys:Array Value):List Field→Option Bool
 | []=>some true
 | f :: fs =>
  if f.name = "_" then none else
  match fEq P d xs ys f,eqList P d xs ys fs with
  | some r,some q=>some (r && q)
  | _,_=>none
theorem pure_eqFields {P:Program} {d:Nat} {xs ys:Array Value}:∀ {fs:List Field} {q:Bool},eqList P d xs ys fs=some q→pureRun P (Op.eqFields d xs ys fs)=some q
 | [],q,h=>h
 | f :: fs,q,h=>by
  unfold eqList at h
  split at h
  ·cases h
  ·rename_i hn
   split at h
   ·rename_i r q' h1 h2
    simp only [Option.some.injEq] at h
    subst h
    unfold fEq at h1
    split at h1
    ·rename_i a b ha hb
     have ih:=pure_eqFields h2
     unfold Op.eqFields
     rw [if_pos hn]
     simp only [pureRun_bind,ha,hb,h1,Option.bind_some,pureRun_ite,ih,pureRun_pure]
     cases r <;> rfl
    ·cases h1
   ·cases h
theorem pure_equalIn {P:Program} (d:Nat) (t:TypeId) (xs ys:Array Value) (fs:Array Field) (ht:P.underlying t=some (.struct fs)) (hp:P.stoodInHeld t=false) :
  pureRun P (Op.equalIn (d + 1) t (.agg xs) (.agg ys))=pureRun P (Op.eqFields d xs ys fs.toList):=by
 have hu:pureRun P (underlying t)=some (.struct fs):=by simp only [underlying,pureRun_bind,program,pureRun,Option.bind_some,ht]; rfl
 have hpr:pureRun P program=some P:=rfl
 simp only [Op.equalIn,pureRun_bind,hu,Option.bind_some,hpr,hp,Bool.false_eq_true,if_false]
 rw [← Array.forIn_toList]
 generalize fs.toList=l
 clear ht hu
 induction l with
 | nil=>simp [Op.eqFields,pureRun_pure]
 | cons f l ih =>
  simp only [List.forIn_cons,Op.eqFields,pureRun_bind,pureRun_ite]
  split
  ·cases pureRun P (part f.type xs f.offset) with
   | none=>rfl
   | some a =>
    cases pureRun P (part f.type ys f.offset) with
    | none=>rfl
    | some b =>
     simp only [Option.bind_some]
     cases pureRun P (Op.equalIn d f.type a b) with
     | none=>rfl
     | some r =>
      cases r with
      | false=>rfl
      | true=>exact ih
  ·exact ih
theorem pure_equal {P:Program} {t:TypeId} {xs ys:Array Value} {fs:Array Field} (ht:P.underlying t=some (.struct fs)) (hp:P.stoodInHeld t=false) {q:Bool} (hq:eqList P 9999 xs ys fs.toList=some q):pureRun P (Op.equal t (.agg xs) (.agg ys))=some q:=by
 show pureRun P (Op.equalIn (9999 + 1) t (.agg xs) (.agg ys))=some q
 rw [pure_equalIn 9999 t xs ys fs ht hp]
 exact pure_eqFields hq
theorem pure_guard {P:Program} {op:BinOp} {t:TypeId} {x y:Operand} {xs ys:Array Value} (hg:P.eqGuardType P.depth t=false) (hop:op = .eql ∨ op = .neq):pureRun P (eqGuard op t x y (.agg xs) (.agg ys))=some ():=by
 have hpr:pureRun P program=some P:=rfl
 rcases hop with rfl | rfl
 ·simp only [eqGuard,pureRun_bind,hpr,Option.bind_some,hg,Bool.not_false,if_true,Bool.not_true,Bool.false_eq_true,if_false]; rfl
 ·simp only [eqGuard,pureRun_bind,hpr,Option.bind_some,hg,Bool.not_false,if_true,Bool.not_true,Bool.false_eq_true,if_false]; rfl
theorem ex_agg_eql {P:Program} {t:TypeId} {x y:Operand} {az bs:List D} {us vs:List Value} {fs:Array Field} (ha:D.exacts az=some us) (hb:D.exacts bs=some vs) (ht:P.underlying t=some (.struct fs)) (hp:P.stoodInHeld t=false) (hg:P.eqGuardType P.depth t=false) {q:Bool} (hq:eqList P 9999 us.toArray vs.toArray fs.toList=some q) :
  exBin P .eql t x y (.d (.agg az)) (.d (.agg bs))=some { v:=.d (.s (.bool q)) } ∧ exBin P .neq t x y (.d (.agg az)) (.d (.agg bs))=some { v:=.d (.s (.bool !q)) }:=by
 have h1:=pure_equal ht hp hq
 constructor
 ·simp only [exBin,A.exact,ha,hb,Option.map_some,pureRun_bind,pure_guard hg (Or.inl rfl),Option.bind_some,binOp,h1,pureRun_pure]; rfl
 ·simp only [exBin,A.exact,ha,hb,Option.map_some,pureRun_bind,pure_guard hg (Or.inr rfl),Option.bind_some,binOp,h1,pureRun_pure]; rfl
theorem pureRun_map {P:Program} {α β:Type} (f:α→β) (e:Sem α):pureRun P (Functor.map f e)=(pureRun P e).map f:=by
 show pureRun P (e >>= fun a=>pure (f a))=_
 rw [pureRun_bind]
 cases pureRun P e <;> rfl
theorem exactE_len (P:Program) (ev:Operand→A) (dst:Option Tmp) (x:Operand) (t ty:TypeId) (pos:String) (af:Array Edge) (g:Option (Nat × Bool)):exactE P ev ⟨dst,.call ⟨.builtin .len,#[x],#[t]⟩,ty,pos,af,g⟩=(match (ev x).exact with | some u=>(pureRun P (Builtin.len_ #[t] ty #[u])).map fun v=>{ v:=ofV v } | none=>none):=by
 unfold exactE exactOp
 simp only [Op.operands,Call.operands]
 cases hx:(ev x).exact with
 | none=>simp [hx]
 | some u =>
  simp only [execOp,resolve,invoke,builtin,hx,Option.getD_some,pureRun_bind,pureRun_pure]
  simp [hx,pureRun_bind,pureRun_pure,pureRun_map]
  cases pureRun P (Builtin.len_ #[t] ty #[u]) with
  | none=>rfl
  | some _=>rfl
theorem len_str {P:Program} {t ty:TypeId} (s:ByteArray) (ht:P.underlying t=some .string):pureRun P (Builtin.len_ #[t] ty #[.string s])=some (.int .i64 s.size):=by
 have hu:pureRun P (underlying t)=some .string:=by simp only [underlying,pureRun_bind,program,pureRun,Option.bind_some,ht]; rfl
 simp [Builtin.len_,pureRun_bind,hu]
 rfl
theorem exactE_conv (P:Program) (ev:Operand→A) (dst:Option Tmp) (src d:TypeId) (x:Operand) (ty:TypeId) (pos:String) (af:Array Edge) (g:Option (Nat × Bool)):exactE P ev ⟨dst,.convert src d x,ty,pos,af,g⟩=(match (ev x).exact with | some u=>(pureRun P (convert src d u)).map fun v=>{ v:=ofV v } | none=>none):=by
 unfold exactE exactOp
 simp only [Op.operands]
 cases hx:(ev x).exact with
 | none=>simp [hx]
 | some u =>
  simp only [execOp,hx,Option.getD_some,pureRun_bind,pureRun_pure]
  simp only [List.all_toArray,List.all_cons,List.all_nil,hx,Option.isSome_some,Bool.and_self,if_true]
  cases pureRun P (convert src d u) with
  | none=>rfl
  | some _=>rfl
theorem conv_int {P:Program} {src d:TypeId} {k':IntKind} {t0:TypeDesc} (k:IntKind) (n:Int) (hs:P.underlying src=some t0) (hd:P.underlying d=some (.int k')):pureRun P (convert src d (.int k n))=some (.int k' (k'.wrap n)):=by
 have hu:pureRun P (underlying src)=some t0:=by simp only [underlying,pureRun_bind,program,pureRun,Option.bind_some,hs]; rfl
 have hu2:pureRun P (underlying d)=some (.int k'):=by simp only [underlying,pureRun_bind,program,pureRun,Option.bind_some,hd]; rfl
 simp only [convert,pureRun_bind,hu,hu2,Option.bind_some]
 cases t0 <;> rfl
theorem conv_str {P:Program} {src d:TypeId} {t0:TypeDesc} (s:ByteArray) (hs:P.underlying src=some t0) (hd:P.underlying d=some .string):pureRun P (convert src d (.string s))=some (.string s):=by
 have hu:pureRun P (underlying src)=some t0:=by simp only [underlying,pureRun_bind,program,pureRun,Option.bind_some,hs]; rfl
 have hu2:pureRun P (underlying d)=some .string:=by simp only [underlying,pureRun_bind,program,pureRun,Option.bind_some,hd]; rfl
 simp only [convert,pureRun_bind,hu,hu2,Option.bind_some]
 cases t0 <;> rfl
theorem exactE_idx (P:Program) (ev:Operand→A) (dst:Option Tmp) (t:TypeId) (x i:Operand) (ty:TypeId) (pos:String) (af:Array Edge) (g:Option (Nat × Bool)):exactE P ev ⟨dst,.index t x i,ty,pos,af,g⟩=(match (ev x).exact,(ev i).exact with | some u,some v=>(pureRun P (Instr.index t u v)).map fun v=>{ v:=ofV v } | _,_=>none):=by
 unfold exactE exactOp
 simp only [Op.operands]
 cases hx:(ev x).exact with
 | none=>simp [hx]
 | some u =>
  cases hy:(ev i).exact with
  | none=>simp [hx,hy]
  | some v =>
   simp only [execOp,hx,hy,Option.getD_some,pureRun_bind,pureRun_pure]
   simp only [List.all_toArray,List.all_cons,List.all_nil,hx,hy,Option.isSome_some,Bool.and_self,if_true]
   cases pureRun P (Instr.index t u v) with
   | none=>rfl
   | some _=>rfl
theorem idx_str {P:Program} {t:TypeId} (s:ByteArray) (k:IntKind) (i:Int) (ht:P.underlying t=some .string) (h0:0 ≤ i) (h1:i < s.size):pureRun P (Instr.index t (.string s) (.int k i))=some (.int .u8 ((s.data.toList.getD i.toNat 0).toNat)):=by
 have hu:pureRun P (underlying t)=some .string:=by simp only [underlying,pureRun_bind,program,pureRun,Option.bind_some,ht]; rfl
 have hi:i.toNat < s.size:=by omega
 have hg:s[i.toNat]? = some s[i.toNat]:=getElem?_pos s i.toNat hi
 have hg2:s.data.toList.getD i.toNat 0=s[i.toNat]:=by
  rw [List.getD_eq_getElem?_getD,List.getElem?_eq_getElem (by simpa using hi)]; rfl
 simp only [Instr.index,asIntOf,pureRun_bind,pureRun_pure,Option.bind_some,hu]
 rw [if_pos h0,hg,hg2]; rfl
theorem telem_cases {P:Program} {t:TypeId}:(∃ e,P.underlying t=some (.slice e)∧telem P t=some e) ∨ telem P t=none ∧ ∀ e,P.underlying t ≠ some (.slice e):=by
 unfold telem
 cases h:P.underlying t with
 | none=>exact Or.inr ⟨rfl,by simp⟩
 | some d=>cases d <;> first | exact Or.inl ⟨_,rfl,rfl⟩ | exact Or.inr ⟨rfl,by simp⟩
theorem ix_lst (P:Program) (h:Id→O) (t:TypeId) (xs:List D) (k:IntKind) (i:Int):indexAddrE P h t (.d (.lst xs)) (.d (.s (.int k i)))=(match telem P t with | some e=>(match tsize P e with | some sz=>idxE xs sz i | none=>none) | none=>none):=by
 unfold indexAddrE
 simp only [intOfA]
 rcases telem_cases (P:=P) (t:=t) with ⟨e,h1,h2⟩ | ⟨h1,h2⟩
 ·rw [h1,h2]; simp only; cases tsize P e <;> rfl
 ·rw [h1]
  cases h3:P.underlying t with
  | none=>rfl
  | some d =>
   cases d with
   | slice e=>exact absurd h3 (h2 e)
   | array len e=>simp only; cases tsize P e <;> rfl
   | _=>rfl
theorem ix_clip (P:Program) (h:Id→O) (t:TypeId) (xs:List D) (k:IntKind) (i:Int):indexAddrE P h t (.clip xs) (.d (.s (.int k i)))=(match telem P t with | some e=>(match tsize P e with | some sz=>idxE xs sz i | none=>none) | none=>none):=by
 unfold indexAddrE
 simp only [intOfA]
 rcases telem_cases (P:=P) (t:=t) with ⟨e,h1,h2⟩ | ⟨h1,h2⟩
 ·rw [h1,h2]; simp only; cases tsize P e <;> rfl
 ·rw [h1]
  cases h3:P.underlying t with
  | none=>rfl
  | some d =>
   cases d with
   | slice e=>exact absurd h3 (h2 e)
   | array len e=>simp only; cases tsize P e <;> rfl
   | _=>rfl
theorem ix_sl (P:Program) (h:Id→O) (t:TypeId) (id:Id) (ver off len:Nat) (k:IntKind) (i:Int):indexAddrE P h t (.sl id ver off len) (.d (.s (.int k i)))=(match telem P t with | some e=>(match tsize P e with | some sz=>(match h id with | .vec v n _ _=>if v=ver∧n=sz∧0 ≤ i∧i < len then some { v:=.op id ver (off + i.toNat) 0,rd:=[id] } else none | _=>none) | none=>none) | none=>none):=by
 unfold indexAddrE
 simp only [intOfA]
 rcases telem_cases (P:=P) (t:=t) with ⟨e,h1,h2⟩ | ⟨h1,h2⟩
 ·rw [h1,h2]; simp only; cases tsize P e <;> rfl
 ·rw [h1]
  cases h3:P.underlying t with
  | none=>rfl
  | some d =>
   cases d with
   | slice e=>exact absurd h3 (h2 e)
   | array len e=>simp only; cases tsize P e <;> rfl
   | _=>rfl
theorem iface_under {P:Program} {t:TypeId} (h:isIfaceT P t=some true):∃ ms,P.underlying t=some (.interface ms):=by
 unfold isIfaceT at h
 split at h
 ·rename_i ms hu; exact ⟨ms,hu⟩
 ·cases h
 ·cases h
theorem nil_eqB {P:Program} {t:TypeId} {x:Operand} {v:Value} (h:isIfaceT P t=some true):exBin P .eql t x (.const v) (.d (.s .nilIface)) (.d (.s .nilIface))=some { v:=.d (.s (.bool true)) } ∧ exBin P .neq t x (.const v) (.d (.s .nilIface)) (.d (.s .nilIface))=some { v:=.d (.s (.bool false)) }:=by
 obtain ⟨ms,hu⟩:=iface_under h
 have hu':pureRun P (underlying t)=some (.interface ms):=by simp only [underlying,pureRun_bind,program,pureRun,Option.bind_some,hu]; rfl
 have he:pureRun P (Op.equal t .nilIface .nilIface)=some true:=by
  show pureRun P (Op.equalIn (9999 + 1) t .nilIface .nilIface)=_
  unfold Op.equalIn
  simp only [pureRun_bind,hu',Option.bind_some]
  rfl
 constructor
 ·cases x <;> (simp only [exBin,A.exact,eqGuard,binOp,pureRun_bind,he]; rfl)
 ·cases x <;> (simp only [exBin,A.exact,eqGuard,binOp,pureRun_bind,he]; rfl)
theorem nil_eql {P:Program} {t:TypeId} {x:Operand} {v:Value} (h:isIfaceT P t=some true):exBin P .eql t x (.const v) (.d (.s .nilIface)) (.d (.s .nilIface))=some { v:=.d (.s (.bool true)) }:=(nil_eqB h).1
theorem nil_neq {P:Program} {t:TypeId} {x:Operand} {v:Value} (h:isIfaceT P t=some true):exBin P .neq t x (.const v) (.d (.s .nilIface)) (.d (.s .nilIface))=some { v:=.d (.s (.bool false)) }:=(nil_eqB h).2
end
section
theorem ts1:tsize Tryz.prog 1=some 1:=by kernel_rfl
theorem ts2:tsize Tryz.prog 2=some 1:=by kernel_rfl
theorem ts3:tsize Tryz.prog 3=some 1:=by kernel_rfl
theorem tb3:Tryz.prog.bytesOf 3=8:=by kernel_rfl
theorem ta3:tagg Tryz.prog 3=some false:=by kernel_rfl
theorem tz3:tzero Tryz.prog 3=some (.int .i64 (0)):=by kernel_rfl
theorem ts9:tsize Tryz.prog 9=some 1:=by kernel_rfl
theorem tb9:Tryz.prog.bytesOf 9=16:=by kernel_rfl
theorem ta9:tagg Tryz.prog 9=some false:=by kernel_rfl
theorem tz9:tzero Tryz.prog 9=some (.string ⟨#[]⟩):=by kernel_rfl
theorem ts22:tsize Tryz.prog 22=some 1:=by kernel_rfl
theorem ta22:tagg Tryz.prog 22=some false:=by kernel_rfl
theorem te22:telem Tryz.prog 22=some 98:=by kernel_rfl
theorem ts24:tsize Tryz.prog 24=some 1:=by kernel_rfl
theorem ta24:tagg Tryz.prog 24=some true:=by kernel_rfl
theorem fa24_0 (x:A):fieldAddrE Tryz.prog 24 x 0=faddr x 0:=by cases x <;> kernel_rfl
theorem ts27:tsize Tryz.prog 27=some 1:=by kernel_rfl
theorem ta27:tagg Tryz.prog 27=some false:=by kernel_rfl
theorem te27:telem Tryz.prog 27=some 105:=by kernel_rfl
theorem ts28:tsize Tryz.prog 28=some 1:=by kernel_rfl
theorem ta28:tagg Tryz.prog 28=some false:=by kernel_rfl
theorem te28:telem Tryz.prog 28=some 59:=by kernel_rfl
theorem ts29:tsize Tryz.prog 29=some 1:=by kernel_rfl
theorem ta29:tagg Tryz.prog 29=some false:=by kernel_rfl
theorem te29:telem Tryz.prog 29=some 62:=by kernel_rfl
theorem ts30:tsize Tryz.prog 30=some 1:=by kernel_rfl
theorem ta30:tagg Tryz.prog 30=some false:=by kernel_rfl
theorem te30:telem Tryz.prog 30=some 3:=by kernel_rfl
theorem ts32:tsize Tryz.prog 32=some 7:=by kernel_rfl
theorem ta32:tagg Tryz.prog 32=some true:=by kernel_rfl
theorem bd32 (parts:List (Nat × A)):buildE Tryz.prog 32 parts=(fillA (fun j=>[(0,1),(1,1),(2,1),(3,1),(4,1),(5,1),(6,1)][j]?) [.d (.s (.int .i64 (0))),.clip [],.clip [],.clip [],.clip [],.clip [],.d (.s (.int .i64 (0)))] parts).map A.mk:=by kernel_rfl
theorem fa32_0 (x:A):fieldAddrE Tryz.prog 32 x 0=faddr x 0:=by cases x <;> kernel_rfl
theorem fa32_1 (x:A):fieldAddrE Tryz.prog 32 x 1=faddr x 1:=by cases x <;> kernel_rfl
theorem fa32_2 (x:A):fieldAddrE Tryz.prog 32 x 2=faddr x 2:=by cases x <;> kernel_rfl
theorem fa32_3 (x:A):fieldAddrE Tryz.prog 32 x 3=faddr x 3:=by cases x <;> kernel_rfl
theorem fa32_4 (x:A):fieldAddrE Tryz.prog 32 x 4=faddr x 4:=by cases x <;> kernel_rfl
theorem fa32_5 (x:A):fieldAddrE Tryz.prog 32 x 5=faddr x 5:=by cases x <;> kernel_rfl
theorem fa32_6 (x:A):fieldAddrE Tryz.prog 32 x 6=faddr x 6:=by cases x <;> kernel_rfl
theorem tz32:tzero Tryz.prog 32=some (.agg #[.int .i64 (0),.slice none 0 0,.slice none 0 0,.slice none 0 0,.slice none 0 0,.slice none 0 0,.int .i64 (0)]):=by kernel_rfl
theorem te36:telem Tryz.prog 36=some 48:=by kernel_rfl
theorem ts42:tsize Tryz.prog 42=some 1:=by kernel_rfl
theorem ta42:tagg Tryz.prog 42=some false:=by kernel_rfl
theorem te42:telem Tryz.prog 42=some 44:=by kernel_rfl
theorem ts44:tsize Tryz.prog 44=some 3:=by kernel_rfl
theorem ta44:tagg Tryz.prog 44=some true:=by kernel_rfl
theorem eq44 (x y:Operand) (a0 b0:Int) (a1 b1:Int) (a2 b2:ByteArray):exBin Tryz.prog .eql 44 x y (.d (.agg [.s (.int .i64 a0),.s (.int .i64 a1),.s (.string a2)])) (.d (.agg [.s (.int .i64 b0),.s (.int .i64 b1),.s (.string b2)]))=some { v:=.d (.s (.bool ((a0 == b0 && (a1 == b1 && (a2 == b2 && true)))))) }:=(ex_agg_eql rfl rfl Tryz.underlying44 (by kernel_rfl) (by kernel_rfl) (by kernel_rfl)).1
theorem ne44 (x y:Operand) (a0 b0:Int) (a1 b1:Int) (a2 b2:ByteArray):exBin Tryz.prog .neq 44 x y (.d (.agg [.s (.int .i64 a0),.s (.int .i64 a1),.s (.string a2)])) (.d (.agg [.s (.int .i64 b0),.s (.int .i64 b1),.s (.string b2)]))=some { v:=.d (.s (.bool (!((a0 == b0 && (a1 == b1 && (a2 == b2 && true))))))) }:=(ex_agg_eql rfl rfl Tryz.underlying44 (by kernel_rfl) (by kernel_rfl) (by kernel_rfl)).2
theorem ts46:tsize Tryz.prog 46=some 2:=by kernel_rfl
theorem ta46:tagg Tryz.prog 46=some true:=by kernel_rfl
theorem eq46 (x y:Operand) (a0 b0:Int) (a1 b1:Int):exBin Tryz.prog .eql 46 x y (.d (.agg [.s (.int .i64 a0),.s (.int .i64 a1)])) (.d (.agg [.s (.int .i64 b0),.s (.int .i64 b1)]))=some { v:=.d (.s (.bool ((a0 == b0 && (a1 == b1 && true))))) }:=(ex_agg_eql rfl rfl Tryz.underlying46 (by kernel_rfl) (by kernel_rfl) (by kernel_rfl)).1
theorem ne46 (x y:Operand) (a0 b0:Int) (a1 b1:Int):exBin Tryz.prog .neq 46 x y (.d (.agg [.s (.int .i64 a0),.s (.int .i64 a1)])) (.d (.agg [.s (.int .i64 b0),.s (.int .i64 b1)]))=some { v:=.d (.s (.bool (!((a0 == b0 && (a1 == b1 && true)))))) }:=(ex_agg_eql rfl rfl Tryz.underlying46 (by kernel_rfl) (by kernel_rfl) (by kernel_rfl)).2
theorem ts48:tsize Tryz.prog 48=some 11:=by kernel_rfl
theorem ta48:tagg Tryz.prog 48=some true:=by kernel_rfl
theorem fa48_0 (x:A):fieldAddrE Tryz.prog 48 x 0=faddr x 0:=by cases x <;> kernel_rfl
theorem fa48_1 (x:A):fieldAddrE Tryz.prog 48 x 1=faddr x 1:=by cases x <;> kernel_rfl
theorem fa48_2 (x:A):fieldAddrE Tryz.prog 48 x 2=faddr x 2:=by cases x <;> kernel_rfl
theorem fa48_3 (x:A):fieldAddrE Tryz.prog 48 x 3=faddr x 3:=by cases x <;> kernel_rfl
theorem fa48_4 (x:A):fieldAddrE Tryz.prog 48 x 4=faddr x 4:=by cases x <;> kernel_rfl
theorem fa48_5 (x:A):fieldAddrE Tryz.prog 48 x 5=faddr x 5:=by cases x <;> kernel_rfl
theorem fa48_6 (x:A):fieldAddrE Tryz.prog 48 x 6=faddr x 8:=by cases x <;> kernel_rfl
theorem fa48_7 (x:A):fieldAddrE Tryz.prog 48 x 7=faddr x 10:=by cases x <;> kernel_rfl
theorem tz48:tzero Tryz.prog 48=some (.agg #[.int .i64 (0),.int .i64 (0),.int .i64 (0),.int .i64 (0),.slice none 0 0,.int .i64 (0),.int .i64 (0),.string ⟨#[]⟩,.int .i64 (0),.int .i64 (0),.int .i64 (0)]):=by kernel_rfl
theorem te50:telem Tryz.prog 50=some 9:=by kernel_rfl
theorem ts59:tsize Tryz.prog 59=some 6:=by kernel_rfl
theorem ta59:tagg Tryz.prog 59=some true:=by kernel_rfl
theorem fa59_0 (x:A):fieldAddrE Tryz.prog 59 x 0=faddr x 0:=by cases x <;> kernel_rfl
theorem fa59_1 (x:A):fieldAddrE Tryz.prog 59 x 1=faddr x 1:=by cases x <;> kernel_rfl
theorem fa59_2 (x:A):fieldAddrE Tryz.prog 59 x 2=faddr x 2:=by cases x <;> kernel_rfl
theorem fa59_3 (x:A):fieldAddrE Tryz.prog 59 x 3=faddr x 5:=by cases x <;> kernel_rfl
theorem tz59:tzero Tryz.prog 59=some (.agg #[.int .i64 (0),.int .i64 (0),.int .i64 (0),.int .i64 (0),.string ⟨#[]⟩,.slice none 0 0]):=by kernel_rfl
theorem ts62:tsize Tryz.prog 62=some 7:=by kernel_rfl
theorem ta62:tagg Tryz.prog 62=some true:=by kernel_rfl
theorem fa62_0 (x:A):fieldAddrE Tryz.prog 62 x 0=faddr x 0:=by cases x <;> kernel_rfl
theorem fa62_1 (x:A):fieldAddrE Tryz.prog 62 x 1=faddr x 1:=by cases x <;> kernel_rfl
theorem tz62:tzero Tryz.prog 62=some (.agg #[.int .i64 (0),.int .i64 (0),.int .i64 (0),.int .i64 (0),.int .i64 (0),.string ⟨#[]⟩,.slice none 0 0]):=by kernel_rfl
theorem te65:telem Tryz.prog 65=some 102:=by kernel_rfl
theorem ts94:tsize Tryz.prog 94=some 1:=by kernel_rfl
theorem ta94:tagg Tryz.prog 94=some false:=by kernel_rfl
theorem te94:telem Tryz.prog 94=some 108:=by kernel_rfl
theorem ts95:tsize Tryz.prog 95=some 1:=by kernel_rfl
theorem ta95:tagg Tryz.prog 95=some false:=by kernel_rfl
theorem te95:telem Tryz.prog 95=some 285:=by kernel_rfl
theorem ts96:tsize Tryz.prog 96=some 1:=by kernel_rfl
theorem ta96:tagg Tryz.prog 96=some false:=by kernel_rfl
theorem te96:telem Tryz.prog 96=some 287:=by kernel_rfl
theorem ts98:tsize Tryz.prog 98=some 6:=by kernel_rfl
theorem ta98:tagg Tryz.prog 98=some true:=by kernel_rfl
theorem fa98_1 (x:A):fieldAddrE Tryz.prog 98 x 1=faddr x 1:=by cases x <;> kernel_rfl
theorem fa98_2 (x:A):fieldAddrE Tryz.prog 98 x 2=faddr x 2:=by cases x <;> kernel_rfl
theorem fa98_3 (x:A):fieldAddrE Tryz.prog 98 x 3=faddr x 3:=by cases x <;> kernel_rfl
theorem fa98_4 (x:A):fieldAddrE Tryz.prog 98 x 4=faddr x 4:=by cases x <;> kernel_rfl
theorem fa98_5 (x:A):fieldAddrE Tryz.prog 98 x 5=faddr x 5:=by cases x <;> kernel_rfl
theorem tz98:tzero Tryz.prog 98=some (.agg #[.string ⟨#[]⟩,.slice none 0 0,.slice none 0 0,.slice none 0 0,.slice none 0 0,.slice none 0 0]):=by kernel_rfl
theorem ts102:tsize Tryz.prog 102=some 2:=by kernel_rfl
theorem tb102:Tryz.prog.bytesOf 102=24:=by kernel_rfl
theorem ta102:tagg Tryz.prog 102=some true:=by kernel_rfl
theorem bd102 (parts:List (Nat × A)):buildE Tryz.prog 102 parts=(fillA (fun j=>[(0,1),(1,1)][j]?) [.d (.s (.int .i64 (0))),.d (.s (.string ⟨#[]⟩))] parts).map A.mk:=by kernel_rfl
theorem fa102_1 (x:A):fieldAddrE Tryz.prog 102 x 1=faddr x 1:=by cases x <;> kernel_rfl
theorem tz102:tzero Tryz.prog 102=some (.agg #[.int .i64 (0),.string ⟨#[]⟩]):=by kernel_rfl
theorem ts105:tsize Tryz.prog 105=some 3:=by kernel_rfl
theorem ta105:tagg Tryz.prog 105=some true:=by kernel_rfl
theorem ne105 (x y:Operand) (a0 b0:Int) (a1 b1:Int) (a2 b2:Int):exBin Tryz.prog .neq 105 x y (.d (.agg [.s (.int .i64 a0),.s (.int .i64 a1),.s (.int .i64 a2)])) (.d (.agg [.s (.int .i64 b0),.s (.int .i64 b1),.s (.int .i64 b2)]))=some { v:=.d (.s (.bool (!((a0 == b0 && (a1 == b1 && (a2 == b2 && true))))))) }:=(ex_agg_eql rfl rfl Tryz.underlying105 (by kernel_rfl) (by kernel_rfl) (by kernel_rfl)).2
theorem ts108:tsize Tryz.prog 108=some 4:=by kernel_rfl
theorem ta108:tagg Tryz.prog 108=some true:=by kernel_rfl
theorem tz108:tzero Tryz.prog 108=some (.agg #[.string ⟨#[]⟩,.int .i64 (0),.int .i64 (0),.bool false]):=by kernel_rfl
attribute [simp] ts1 ts2 ts3 ta3 tz3 ts9 ta9 tz9 ts22 ta22 te22 ts24 ta24 fa24_0 ts27 ta27 te27 ts28 ta28 te28 ts29 ta29 te29 ts30 ta30 te30 ts32 ta32 bd32 fa32_0 fa32_1 fa32_2 fa32_3 fa32_4 fa32_5 fa32_6 tz32 te36 ts42 ta42 te42 ts44 ta44 eq44 ne44 ts46 ta46 eq46 ne46 ts48 ta48 fa48_0 fa48_1 fa48_2 fa48_3 fa48_4 fa48_5 fa48_6 fa48_7 tz48 te50 ts59 ta59 fa59_0 fa59_1 fa59_2 fa59_3 tz59 ts62 ta62 fa62_0 fa62_1 tz62 te65 ts94 ta94 te94 ts95 ta95 te95 ts96 ta96 te96 ts98 ta98 fa98_1 fa98_2 fa98_3 fa98_4 fa98_5 tz98 ts102 ta102 bd102 fa102_1 tz102 ts105 ta105 ne105 ts108 ta108 tz108
end
section
theorem ver_no (v:Nat):(O.no v).ver=v:=rfl
theorem ver_box (v:Nat) (cs:List A):(O.box v cs).ver=v:=rfl
theorem ver_vec (v n:Nat) (xs:List D) (fz:Bool):(O.vec v n xs fz).ver=v:=rfl
theorem ver_map (v c:Nat) (es:List (Nat × Value × A)):(O.map v es c).ver=v:=rfl
theorem ver_sit (v p:Nat) (s:ByteArray):(O.sit v s p).ver=v:=rfl
theorem headOk_nil (sz:Nat):headOk sz []=true:=rfl
theorem headOk_cons (sz:Nat) (x:D) (l:List D):headOk sz (x :: l)=(x.cells.length == sz):=rfl
theorem headOk_one {α:Type} (f:α→Value) (l:List α):headOk 1 (l.map fun x=>.s (f x))=true:=by cases l <;> rfl
theorem out_eq (v:A) (rd:List Id) (wr:List (Id × O)) (ra:Bool) (h:Id→O):Eff.out { v:=v,rd:=rd,wr:=wr,ra:=ra } h=upds h wr:=rfl
theorem nz_cast (n:Nat):((n:Int) + 1=0)=False:=by simp; omega
theorem one_le_cast (n:Nat):((1:Int) ≤ (n:Int) + 1)=True:=by simp; omega
theorem take_map_len {α β:Type} (f:α→β) (l:List α):List.take l.length (List.map f l)=List.map f l:=List.take_of_length_le (by simp)
attribute [simp] Go.undef take_map_len nz_cast one_le_cast bodyQ_ret bodyQ_normal bodyE_ret bodyE_normal ver_no ver_box ver_vec ver_map ver_sit headOk_nil headOk_cons headOk_one out_eq okW bodyR reachIds idsL idsA idsH adH idsO idsE graphOf adIds adL adoptE adoptable Wk_nil Wu_nil Wk_blk Wu_blk Wu_ret Wu_code Wu_ops Wk_seq Wk_skip Wk_label Wk_exit Wk_ret Wk_block Wk_scp Wu_scp Wu_scpr Wk_scope Wk_cond Wk_region Wk_draw Wk_ops_nil Wk_tr_nil Wv_some Wt_some Wv_none Wv_ite Wt_none Wt_ite Wk_op Wk_opg Wk_tr Wk_trg upd_at upds dstOk wantedA opE St.put St.ev exactE_bin ex_add ex_sub ex_mul ex_eql ex_neq ex_lss ex_leq ex_gtr ex_geq exs_eql exs_neq exs_lss exs_leq exs_gtr exs_geq exs_add exactE_un un_not un_neg faddr loadE storeE lowCells A.low A.lows takeVal A.cells D.cells A.mk A.allD A.one ofV ofCell A.bool? put Go.Value.oneCell' initSt resAs resA keepA keepAs resR resT fzEnt fzEnts fzVal fzVals fzCell fzCells D.flat A.exact D.exacts callE_eq argAs argA A.plain callV_some callG_some backE frz exactE_len len_str exactE_conv conv_int conv_str exactE_idx fillA A.isAny plainE lenE intOfA A.isIfc A.here A.isNil upd_upd cut_self cut_deep cut_low ix_lst ix_clip ix_sl idxE sliceE boundE maxOk nil_eql nil_neq ifcNilE mkIfcE assertE lookupE lenMapE rangeE nextE partE A.isAgg
end
section
def Round (P:Program) (X:Orc) (N:Nat) (k:List Itm) (Q:Ex→St→Prop) (I:Nat→St→Prop) (m j:Nat):Ex→St→Prop
 | .normal,s=>j < m∧I (j + 1) s
 | x,s=>Wu P X N x k s Q
theorem Round_normal (P:Program) (X:Orc) (N:Nat) (k:List Itm) (Q:Ex→St→Prop) (I:Nat→St→Prop) (m j:Nat) (s:St):Round P X N k Q I m j .normal s=(j < m∧I (j + 1) s):=rfl
theorem Round_exit (P:Program) (X:Orc) (N:Nat) (k:List Itm) (Q:Ex→St→Prop) (I:Nat→St→Prop) (m j i:Nat) (s:St):Round P X N k Q I m j (.exit i) s=Wu P X N (.exit i) k s Q:=rfl
theorem Round_ret (P:Program) (X:Orc) (N:Nat) (k:List Itm) (Q:Ex→St→Prop) (I:Nat→St→Prop) (m j:Nat) (s:St):Round P X N k Q I m j .ret s=Wu P X N .ret k s Q:=rfl
theorem Wk_loopd {P:Program} {X:Orc} {N:Nat} {k:List Itm} {c:Code} {st:St} {Q:Ex→St→Prop} (I:Nat→St→Prop) (m:Nat) (hm:m < N) (h0:I m st)
  (round:∀ j s,j ≤ m→I j s→Wk P X N [.code c] s fun x s'=>match x with | .normal=>∃ i,i < j∧I i s' | x=>Wu P X N x k s' Q):Wk P X N (.code (.loop c) :: k) st Q:=by
 have key:∀ fuel j s,j < fuel→j ≤ m→I j s→∃ x s',iter (exec P X N c) fuel s=some (x,s')∧x ≠ .normal∧Wu P X N x k s' Q:=by
  intro fuel
  induction fuel with
  | zero=>intro j s h; omega
  | succ fuel ih =>
   intro j s hlt hj hI
   obtain ⟨x,s',he,hq⟩:=exec_of (round j s hj hI)
   unfold iter
   rw [he]
   cases x with
   | normal =>
    obtain ⟨i,h1,h2⟩:=hq
    exact ih i s' (by omega) (by omega) h2
   | exit i=>exact ⟨_,_,rfl,by simp,hq⟩
   | goto l=>exact ⟨_,_,rfl,by simp,hq⟩
   | ret=>exact ⟨_,_,rfl,by simp,hq⟩
 obtain ⟨x,s',h1,h2,y,s2,h3,h4⟩:=key N m st hm (Nat.le_refl _) h0
 refine ⟨y,s2,?_,h4⟩
 rw [execK,exec,h1]
 cases x with
 | normal=>exact absurd rfl h2
 | _=>exact h3
theorem Wk_mono {P:Program} {X:Orc} {N:Nat} {k:List Itm} {st:St} {Q Q':Ex→St→Prop} (h:Wk P X N k st Q) (hq:∀ x s,Q x s→Q' x s):Wk P X N k st Q':=by
 obtain ⟨x,s,h1,h2⟩:=h
 exact ⟨x,s,h1,hq x s h2⟩
theorem Wk_loop {P:Program} {X:Orc} {N:Nat} {k:List Itm} {c:Code} {st:St} {Q:Ex→St→Prop} (I:Nat→St→Prop) (m:Nat) (hm:m < N) (h0:I 0 st) (round:∀ j s,j ≤ m→I j s→Wk P X N [.code c] s (Round P X N k Q I m j)):Wk P X N (.code (.loop c) :: k) st Q:=by
 refine Wk_loopd (fun i s=>∃ j,i=m - j∧j ≤ m∧I j s) m hm ⟨0,by omega,by omega,h0⟩ fun i s hi hI=>?_
 obtain ⟨j,rfl,hj,hI⟩:=hI
 refine Wk_mono (round j s hj hI) fun x s' h=>?_
 cases x with
 | normal=>exact ⟨m - (j + 1),by have:=h.1; omega,j + 1,rfl,h.1,h.2⟩
 | exit i=>exact h
 | goto l=>exact h
 | ret=>exact h
attribute [simp] Round_normal Round_exit Round_ret
theorem ex_quo (P:Program) (t:TypeId) (x y:Operand) (k:IntKind) (a b:Int):exBin P .quo t x y (.d (.s (.int k a))) (.d (.s (.int k b)))=if b=0 then none else some { v:=.d (.s (.int k (k.wrap (a.tdiv b)))) }:=by
 by_cases h:b=0
 ·subst h; cases k <;> rfl
 ·rw [if_neg h]
  simp only [exBin,A.exact,eqGuard,binOp,Op.intDiv,if_neg h]
  cases k <;> rfl
theorem ex_rem (P:Program) (t:TypeId) (x y:Operand) (k:IntKind) (a b:Int):exBin P .rem t x y (.d (.s (.int k a))) (.d (.s (.int k b)))=if b=0 then none else some { v:=.d (.s (.int k (a.tmod b))) }:=by
 by_cases h:b=0
 ·subst h; cases k <;> rfl
 ·rw [if_neg h]
  simp only [exBin,A.exact,eqGuard,binOp,Op.intDiv,if_neg h]
  cases k <;> rfl
theorem ex_and (P:Program) (t:TypeId) (x y:Operand) (k:IntKind) (a b:Int):exBin P .and t x y (.d (.s (.int k a))) (.d (.s (.int k b)))=some { v:=.d (.s (.int k (bits .and k a b))) }:=by cases k <;> rfl
theorem ex_or (P:Program) (t:TypeId) (x y:Operand) (k:IntKind) (a b:Int):exBin P .or t x y (.d (.s (.int k a))) (.d (.s (.int k b)))=some { v:=.d (.s (.int k (bits .or k a b))) }:=by cases k <;> rfl
theorem ex_xor (P:Program) (t:TypeId) (x y:Operand) (k:IntKind) (a b:Int):exBin P .xor t x y (.d (.s (.int k a))) (.d (.s (.int k b)))=some { v:=.d (.s (.int k (bits .xor k a b))) }:=by cases k <;> rfl
theorem ex_andNot (P:Program) (t:TypeId) (x y:Operand) (k:IntKind) (a b:Int):exBin P .andNot t x y (.d (.s (.int k a))) (.d (.s (.int k b)))=some { v:=.d (.s (.int k (bits .andNot k a b))) }:=by cases k <;> rfl
theorem ex_shl (P:Program) (t:TypeId) (x y:Operand) (k ky:IntKind) (a b:Int):exBin P .shl t x y (.d (.s (.int k a))) (.d (.s (.int ky b)))=if b < 0 then none else some { v:=.d (.s (.int k (k.wrap (a * 2 ^ (min b.toNat k.bits))))) }:=by
 by_cases h:b < 0
 ·rw [if_pos h]; simp only [exBin,A.exact,eqGuard,binOp,Op.shift,if_pos h]; cases k <;> rfl
 ·rw [if_neg h]; simp only [exBin,A.exact,eqGuard,binOp,Op.shift,if_neg h]; cases k <;> rfl
theorem ex_shr (P:Program) (t:TypeId) (x y:Operand) (k ky:IntKind) (a b:Int):exBin P .shr t x y (.d (.s (.int k a))) (.d (.s (.int ky b)))=if b < 0 then none else some { v:=.d (.s (.int k (a.fdiv (2 ^ (min b.toNat k.bits))))) }:=by
 by_cases h:b < 0
 ·rw [if_pos h]; simp only [exBin,A.exact,eqGuard,binOp,Op.shift,if_pos h]; cases k <;> rfl
 ·rw [if_neg h]; simp only [exBin,A.exact,eqGuard,binOp,Op.shift,if_neg h]; cases k <;> rfl
attribute [simp] ex_and ex_or ex_xor ex_andNot ex_shl ex_shr Go.IntKind.bits ex_quo ex_rem appendE elemsOf buildSliceE chunk okSrc slOrStr O.fz O.freeze Go.Value.cells
theorem wrap_i64 {x:Int} (h0:-9223372036854775808 ≤ x) (h1:x ≤ 9223372036854775807):IntKind.i64.wrap x=x:=by
 simp [IntKind.wrap,IntKind.bits,IntKind.signed]; omega
end
section
theorem pure_under {P:Program} {t:TypeId} {d:TypeDesc} (h:P.underlying t=some d):pureRun P (underlying t)=some d:=by
 simp only [underlying,pureRun_bind,program,pureRun,Option.bind_some,h]; rfl
theorem slice_str {P:Program} {t:TypeId} (ht:P.underlying t=some .string) (s:ByteArray) (l h:Int) (hl:0 ≤ l) (hlh:l ≤ h) (hh:h ≤ s.size):pureRun P (Instr.slice t (.string s) (some (.int .i64 l)) (some (.int .i64 h)) none)=some (.string (s.extract l.toNat h.toNat)):=by
 have h1:0 ≤ h∧h ≤ (s.size:Int):=⟨by omega,hh⟩
 have h2:0 ≤ l∧l ≤ (h.toNat:Int):=⟨hl,by omega⟩
 simp only [Instr.slice,pureRun_bind,pure_under ht,Option.bind_some,Instr.sliceBounds,Instr.sliceBound,asIntOf,pureRun_pure,Option.isSome_none,Bool.false_eq_true,if_false,pureRun_ite]
 rw [if_pos h1]
 simp only [Option.bind_some]
 rw [if_pos h2]
 rfl
theorem sliceAt_str {P:Program} {t:TypeId} (s:ByteArray) (l h:Int) (ht:P.underlying t=some .string) (hl:0 ≤ l) (hlh:l ≤ h) (hh:h ≤ s.size):pureRun P (Instr.sliceAt t (.string s) (some (.int .i64 l)) (some (.int .i64 h)) none)=some (.string (s.extract l.toNat h.toNat)):=by
 simp only [Instr.sliceAt,pureRun_bind,pure_under ht,Option.bind_some]
 exact slice_str ht s l h hl hlh hh
theorem exactE_slice (P:Program) (ev:Operand→A) (dst:Option Tmp) (t:TypeId) (x l h:Operand) (ty:TypeId) (pos:String) (af:Array Edge) (g:Option (Nat × Bool)):exactE P ev ⟨dst,.slice t x (some l) (some h) none,ty,pos,af,g⟩ =
  (match (ev x).exact,(ev l).exact,(ev h).exact with | some u,some a,some b=>(pureRun P (Instr.sliceAt t u (some a) (some b) none)).map fun v=>{ v:=ofV v } | _,_,_=>none):=by
 unfold exactE exactOp
 simp only [Op.operands]
 cases hx:(ev x).exact with
 | none=>simp [hx,-A.exact]
 | some u =>
  cases hl:(ev l).exact with
  | none=>simp [hx,hl,-A.exact]
  | some a =>
   cases hh:(ev h).exact with
   | none=>simp [hx,hl,hh,-A.exact]
   | some b =>
    simp only [execOp,hx,hl,hh,Option.getD_some,Option.map_some,pureRun_bind,pureRun_pure]
    simp [hx,hl,hh,-A.exact]
    cases pureRun P (Instr.sliceAt t u (some a) (some b) none) with
    | none=>rfl
    | some _=>rfl
attribute [simp] exactE_slice
def RoundX (P:Program) (X:Orc) (N:Nat) (k:List Itm) (Q:Ex→St→Prop) (I:Nat→St→Prop) (J:St→Prop) (e m j:Nat):Ex→St→Prop
 | .normal,s=>j < m∧I (j + 1) s
 | .exit i,s=>if i=e then J s else Wu P X N (.exit i) k s Q
 | x,s=>Wu P X N x k s Q
theorem RoundX_normal (P:Program) (X:Orc) (N:Nat) (k:List Itm) (Q:Ex→St→Prop) (I:Nat→St→Prop) (J:St→Prop) (e m j:Nat) (s:St):RoundX P X N k Q I J e m j .normal s=(j < m∧I (j + 1) s):=rfl
theorem RoundX_exit (P:Program) (X:Orc) (N:Nat) (k:List Itm) (Q:Ex→St→Prop) (I:Nat→St→Prop) (J:St→Prop) (e m j i:Nat) (s:St):RoundX P X N k Q I J e m j (.exit i) s=if i=e then J s else Wu P X N (.exit i) k s Q:=rfl
theorem RoundX_ret (P:Program) (X:Orc) (N:Nat) (k:List Itm) (Q:Ex→St→Prop) (I:Nat→St→Prop) (J:St→Prop) (e m j:Nat) (s:St):RoundX P X N k Q I J e m j .ret s=Wu P X N .ret k s Q:=rfl
attribute [simp] RoundX_normal RoundX_exit RoundX_ret
end
section
abbrev SigN:=List Nat × List Nat × Bool
def sigE (φ:Id→Nat) (e:Eff):SigN:=(e.rd.map φ,e.wr.map (fun p=>φ p.1),e.ra)
def confN (a b:SigN):Bool:=(a.2.2 && !b.2.1.isEmpty) || (b.2.2 && !a.2.1.isEmpty) || (a.2.1.any fun p=>b.1.contains p || b.2.1.contains p) || (b.2.1.any fun p=>a.1.contains p)
theorem confN_of {φ:Id→Nat} {a b:Eff} (h:objConf a b=true):confN (sigE φ a) (sigE φ b)=true:=by
 unfold objConf at h
 unfold confN sigE
 simp only [Bool.or_eq_true,Bool.and_eq_true,List.any_eq_true,List.contains_iff_mem,beq_iff_eq] at h ⊢
 rcases h with ((⟨h1,h2⟩ | ⟨h1,h2⟩) | ⟨p,hp,h | ⟨q,hq,h⟩⟩) | ⟨p,hp,h⟩
 ·exact Or.inl (Or.inl (Or.inl ⟨h1,by cases hb:b.wr with | nil=>rw [hb] at h2; cases h2 | cons x l=>rfl⟩))
 ·exact Or.inl (Or.inl (Or.inr ⟨h1,by cases hb:a.wr with | nil=>rw [hb] at h2; cases h2 | cons x l=>rfl⟩))
 ·exact Or.inl (Or.inr ⟨φ p.1,List.mem_map.2 ⟨p,hp,rfl⟩,Or.inl (List.mem_map.2 ⟨_,h,rfl⟩)⟩)
 ·exact Or.inl (Or.inr ⟨φ p.1,List.mem_map.2 ⟨p,hp,rfl⟩,Or.inr (List.mem_map.2 ⟨q,hq,by rw [h]⟩)⟩)
 ·exact Or.inr ⟨φ p.1,List.mem_map.2 ⟨p,hp,rfl⟩,List.mem_map.2 ⟨_,h,rfl⟩⟩
def raceN (ops:Array Oper) (es:List SigN):Bool :=
 (List.range ops.size).all fun j=>(match ops[j]? with | none=>false | some o=>o.after.all fun e=>!Region.binds .any e || e.on < j) &&
  (List.range j).all fun i =>
   match ops[i]?,ops[j]?,es[i]?,es[j]? with
   | some x,some y,some a,some b=>(Oper.apart ops x y && !confN a b) || reach ops ops.size i j
   | _,_,_,_=>false
theorem raceFree_of (φ:Id→Nat) {ops:Array Oper} {es:List Eff} (h:raceN ops (es.map (sigE φ))=true):raceFree ops es=true:=by
 unfold raceN at h
 unfold raceFree
 rw [List.all_eq_true] at h ⊢
 intro j hj
 have h1:=h j hj
 rw [Bool.and_eq_true] at h1 ⊢
 refine ⟨h1.1,?_⟩
 rw [List.all_eq_true]
 intro i hi
 have h2:=List.all_eq_true.1 h1.2 i hi
 simp only [List.getElem?_map] at h2
 cases hx:ops[i]? with
 | none=>rw [hx] at h2; cases h2
 | some x =>
  cases hy:ops[j]? with
  | none=>rw [hx,hy] at h2; cases h2
  | some y =>
   cases ha:es[i]? with
   | none=>rw [hx,hy,ha] at h2; cases h2
   | some a =>
    cases hb:es[j]? with
    | none=>rw [hx,hy,ha,hb] at h2; cases h2
    | some b =>
     rw [hx,hy,ha,hb] at h2
     simp only [Option.map_some] at h2 ⊢
     rw [Bool.or_eq_true,Bool.and_eq_true] at h2 ⊢
     rcases h2 with ⟨g1,g2⟩ | g
     ·refine Or.inl ⟨g1,?_⟩
      cases hc:objConf a b with
      | false=>rfl
      | true=>rw [confN_of hc] at g2; cases g2
     ·exact Or.inr g
def slotN (d:Nat) (i:Id):Nat:=if i.1=d then i.2 + 1 else 0
theorem slotN_own (d j:Nat):slotN d (d,j)=j + 1:=by simp [slotN]
theorem atoi_bounds {l:List UInt8} {v:Int} (h:Lib.atoiAll l = .ok v):-9223372036854775808 ≤ v∧v ≤ 9223372036854775807:=by
 unfold Lib.atoiAll at h
 split at h
 ·cases h
 ·simp only at h
  split at h
  ·cases h
  ·cases h
  ·split at h
   ·cases h
   ·split at h
    ·cases h
    ·rename_i g1 g2
     injection h with h
     subst h
     split
     ·omega
     ·rename_i hn; simp only [hn,not_false_eq_true,true_and] at g1; omega
end
section
def FrT (W:List Nat) (t0 t:Nat→A):Prop:=∀ i,i ∉ W→t i=t0 i
def FrH (W:List Nat) (Y:List Id) (d:Nat) (h0 h:Id→O):Prop:=∀ id,id ∉ Y→(id.1=d→id.2 ∉ W)→h id=h0 id
theorem FrT_refl (W:List Nat) (t:Nat→A):FrT W t t:=fun _ _=>rfl
theorem FrH_refl (W:List Nat) (Y:List Id) (d:Nat) (h:Id→O):FrH W Y d h h:=fun _ _ _=>rfl
theorem FrT_upd {W:List Nat} {t0 t:Nat→A} {j:Nat} {v:A} (hj:j ∈ W):FrT W t0 (upd t j v)=FrT W t0 t:=by
 apply propext
 constructor
 ·intro h i hi
  have:=h i hi
  rw [upd_at,if_neg (by rintro rfl; exact hi hj)] at this
  exact this
 ·intro h i hi
  rw [upd_at,if_neg (by rintro rfl; exact hi hj)]
  exact h i hi
theorem FrH_updS {W:List Nat} {Y:List Id} {d:Nat} {h0 h:Id→O} {j:Nat} {o:O} (hj:j ∈ W):FrH W Y d h0 (upd h (d,j) o)=FrH W Y d h0 h:=by
 apply propext
 constructor
 ·intro h i hi hw
  have:=h i hi hw
  rw [upd_at,if_neg (by rintro rfl; exact hw rfl hj)] at this
  exact this
 ·intro h i hi hw
  rw [upd_at,if_neg (by rintro rfl; exact hw rfl hj)]
  exact h i hi hw
theorem FrH_updY {W:List Nat} {Y:List Id} {d:Nat} {h0 h:Id→O} {id:Id} {o:O} (hj:id ∈ Y):FrH W Y d h0 (upd h id o)=FrH W Y d h0 h:=by
 apply propext
 constructor
 ·intro h i hi hw
  have:=h i hi hw
  rw [upd_at,if_neg (by rintro rfl; exact hi hj)] at this
  exact this
 ·intro h i hi hw
  rw [upd_at,if_neg (by rintro rfl; exact hi hj)]
  exact h i hi hw
def RoundR (P:Program) (X:Orc) (N:Nat) (k:List Itm) (Q:Ex→St→Prop) (W:List Nat) (Y:List Id) (ti:Nat) (J:Nat→(Nat→A)→(Id→O)→Prop) (s0:St) (j:Nat):Ex→St→Prop
 | .normal,s=>s.n=s0.n∧s.d=s0.d∧s.al=s0.al∧s.t ti = .d (.s (.int .i64 ((j + 1:Nat):Int)))∧FrT W s0.t s.t∧FrH W Y s0.d s0.h s.h∧J (j + 1) s.t s.h
 | x,s=>Wu P X N x k s Q
theorem RoundR_normal (P:Program) (X:Orc) (N:Nat) (k:List Itm) (Q:Ex→St→Prop) (W:List Nat) (Y:List Id) (ti:Nat) (J:Nat→(Nat→A)→(Id→O)→Prop) (s0:St) (j:Nat) (s:St):RoundR P X N k Q W Y ti J s0 j .normal s=(s.n=s0.n∧s.d=s0.d∧s.al=s0.al∧s.t ti = .d (.s (.int .i64 ((j + 1:Nat):Int)))∧FrT W s0.t s.t∧FrH W Y s0.d s0.h s.h∧J (j + 1) s.t s.h):=rfl
theorem RoundR_exit (P:Program) (X:Orc) (N:Nat) (k:List Itm) (Q:Ex→St→Prop) (W:List Nat) (Y:List Id) (ti:Nat) (J:Nat→(Nat→A)→(Id→O)→Prop) (s0:St) (j i:Nat) (s:St):RoundR P X N k Q W Y ti J s0 j (.exit i) s=Wu P X N (.exit i) k s Q:=rfl
theorem RoundR_ret (P:Program) (X:Orc) (N:Nat) (k:List Itm) (Q:Ex→St→Prop) (W:List Nat) (Y:List Id) (ti:Nat) (J:Nat→(Nat→A)→(Id→O)→Prop) (s0:St) (j:Nat) (s:St):RoundR P X N k Q W Y ti J s0 j .ret s=Wu P X N .ret k s Q:=rfl
theorem Wk_range {P:Program} {X:Orc} {N:Nat} {k:List Itm} {c:Code} {n d:Nat} {t:Nat→A} {h:Id→O} {al:List Id} {Q:Ex→St→Prop} {α:Type} (l:List α) (W:List Nat) (Y:List Id) (ti:Nat) (J:Nat→(Nat→A)→(Id→O)→Prop) (hN:l.length < N) (hl:l.length ≤ 1000000000000)
  (h0:t ti = .d (.s (.int .i64 0))) (hJ:J 0 t h)
  (round:∀ j (hj:j < l.length) t' h',t' ti = .d (.s (.int .i64 (j:Int)))→(∀ i,i ∉ W→t' i=t i)→FrT W t t'→(∀ id,id ∉ Y→(id.1=d→id.2 ∉ W)→h' id=h id)→FrH W Y d h h'→J j t' h'→IntKind.i64.wrap ((j:Int) + 1)=(j:Int) + 1→Wk P X N [.code c] ⟨n,d,t',h',al⟩ (RoundR P X N k Q W Y ti J ⟨n,d,t,h,al⟩ j))
  (last:∀ t' h',t' ti = .d (.s (.int .i64 (l.length:Int)))→(∀ i,i ∉ W→t' i=t i)→FrT W t t'→(∀ id,id ∉ Y→(id.1=d→id.2 ∉ W)→h' id=h id)→FrH W Y d h h'→J l.length t' h'→Wk P X N [.code c] ⟨n,d,t',h',al⟩ (fun x s'=>match x with | .normal=>False | x=>Wu P X N x k s' Q)) :
  Wk P X N (.code (.loop c) :: k) ⟨n,d,t,h,al⟩ Q:=by
 refine Wk_loop (fun j s=>s.n=n∧s.d=d∧s.al=al∧s.t ti = .d (.s (.int .i64 (j:Int)))∧FrT W t s.t∧FrH W Y d h s.h∧J j s.t s.h) l.length hN ⟨rfl,rfl,rfl,h0,FrT_refl _ _,FrH_refl _ _ _ _,hJ⟩ ?_
 rintro j ⟨n',d',t',h',al'⟩ hj ⟨h1,h2,h3,h4,h5,h6,h7⟩
 simp only at h1 h2 h3 h4 h5 h6 h7
 subst h1 h2 h3
 rcases Nat.lt_or_ge j l.length with hlt | hge
 ·refine Wk_mono (round j hlt t' h' h4 h5 h5 h6 h6 h7 (wrap_i64 (by omega) (by omega))) fun x s hq=>?_
  cases x with
  | normal=>exact ⟨hlt,hq⟩
  | exit i=>exact hq
  | goto i=>exact hq
  | ret=>exact hq
 ·obtain rfl:j=l.length:=by omega
  refine Wk_mono (last t' h' h4 h5 h5 h6 h6 h7) fun x s hq=>?_
  cases x with
  | normal=>exact hq.elim
  | exit i=>exact hq
  | goto i=>exact hq
  | ret=>exact hq
attribute [simp] RoundR_normal RoundR_exit RoundR_ret FrT_upd FrH_updS FrH_updY
theorem evr_bodyP {P:Program} {ext:Exts} {n:Nat} {f:FuncId} {fn:Func} {c:Code} {d:Nat} {h:Id→O} {l:List A} {T:R→(Id→O)→Prop} (hx:ext f=none) (hf:P.funcs[f]? = some fn) (hc:fn.body=some c) (hl:l.length ≤ fn.ntmps) (hn:fn.name ≠ "runtime.NumGoroutine")
  (hw:Wk P (evr P ext) n [.code c] (initSt fn d h l) (bodyE P fn d h T)):∃ r h',evr P ext f d h l=some (r,h')∧T r h':=by
 obtain ⟨r,h',h1,h2⟩:=bx_bodyE hf hc hl hn hw
 exact ⟨r,h',evr_body hx h1,h2⟩
theorem cut0 (h g:Id→O):cut 0 h g=h:=by funext i; unfold cut; rw [if_neg (Nat.not_lt_zero _)]
abbrev E0:Id→O:=fun _=>.no 0
def okT (T:R→Prop):Option (R × (Id→O))→Prop
 | some (r,h')=>h' = E0∧T r
 | none=>False
def bodyT (P:Program) (fn:Func) (T:R→Prop) (x:Ex) (st:St):Prop:=(x = .normal ∨ x = .ret)∧okT T (bodyR P fn 0 E0 st)
theorem bodyT_ret (P:Program) (fn:Func) (T:R→Prop) (st:St):bodyT P fn T .ret st=okT T (bodyR P fn 0 E0 st):=by simp [bodyT]
theorem bodyT_normal (P:Program) (fn:Func) (T:R→Prop) (st:St):bodyT P fn T .normal st=okT T (bodyR P fn 0 E0 st):=by simp [bodyT]
theorem okT_some (T:R→Prop) (r:R):okT T (some (r,E0))=T r:=by simp [okT]
theorem okT_none (T:R→Prop):okT T none=False:=rfl
theorem evr_val {P:Program} {ext:Exts} {n:Nat} {f:FuncId} {fn:Func} {c:Code} {l:List A} {T:R→Prop} (hx:ext f=none) (hf:P.funcs[f]? = some fn) (hc:fn.body=some c) (hl:l.length ≤ fn.ntmps) (hn:fn.name ≠ "runtime.NumGoroutine")
  (hw:Wk P (evr P ext) n [.code c] (initSt fn 0 E0 l) (bodyT P fn T)):∃ r,evr P ext f 0 E0 l=some (r,E0)∧T r:=by
 obtain ⟨x,s,h1,h2,h3⟩:=hw
 obtain ⟨r,h',h4,rfl,h5⟩:=evr_bodyP (T:=fun r h'=>h' = E0∧T r) hx hf hc hl hn ⟨x,s,h1,by
  unfold okT at h3
  split at h3
  ·rename_i r h' he
   exact ⟨r,h',⟨h2,he⟩,h3⟩
  ·exact h3.elim⟩
 exact ⟨r,h4,h5⟩
attribute [simp] cut0 bodyT_ret bodyT_normal okT_some okT_none
end
section
abbrev Tab:=List (Nat × ByteArray × A)
def tabV (t:Tab):List (Nat × Value × A):=t.map fun e=>(e.1,.string e.2.1,e.2.2)
theorem findNow_str (s:ByteArray):∀ (t:Tab) (i:Nat),Instr.findNow .string (.string s) ((tabV t).map fun e=>({ key:=e.2.1,val:=undef,born:=e.1 }:MapEntry)) i=some ((t.findIdx? fun e=>s == e.2.1).map fun j=>(i + j,undef))
 | [],i=>rfl
 | e :: t,i=>by
  simp only [tabV,List.map_cons]
  unfold Instr.findNow
  simp only [Instr.sameNow]
  rw [List.findIdx?_cons]
  cases h:(s == e.2.1) with
  | true=>simp
  | false =>
   simp only [Bool.false_eq_true,if_false]
   have:=findNow_str s t (i + 1)
   simp only [tabV] at this
   rw [this]
   cases t.findIdx? fun e=>s == e.2.1 with
   | none=>rfl
   | some j=>simp; omega
theorem findE_str {P:Program} {kt:TypeId} (hu:P.underlying kt=some .string) (s:ByteArray) (t:Tab):findE P kt (.string s) (tabV t)=some (t.findIdx? fun e=>s == e.2.1):=by
 have hp:pureRun P (underlying kt)=some .string:=pure_under hu
 unfold findE Instr.findKey
 simp only [pureRun_bind,hp,Option.bind_some,findNow_str s t 0]
 simp only [pureRun_pure,Option.map_some,Nat.zero_add]
 cases t.findIdx? fun e=>s == e.2.1 <;> rfl
theorem checkKey_str {P:Program} {kt:TypeId} (hu:P.underlying kt=some .string) (b:Bool) (s:ByteArray):pureRun P (Instr.checkKey b 10000 kt (.string s))=some ():=by
 have hp:pureRun P (underlying kt)=some .string:=pure_under hu
 show pureRun P (Instr.checkKey b (9999 + 1) kt (.string s))=_
 unfold Instr.checkKey
 simp only [pureRun_bind,hp,Option.bind_some]
 rfl
theorem find_idx {α:Type} (p:α→Bool):∀ t:List α,t.find? p=(t.findIdx? p).bind fun i=>t[i]?
 | []=>rfl
 | a :: t=>by
  rw [List.find?_cons,List.findIdx?_cons]
  cases p a with
  | true=>rfl
  | false =>
   simp only [find_idx p t,Bool.false_eq_true,if_false]
   cases t.findIdx? p <;> rfl
def tabAt (t:Tab) (s:ByteArray):Option A:=(t.find? fun e=>s == e.2.1).map (·.2.2)
end
section
abbrev ExtF:=Nat→(Id→O)→List A→Option (R × (Id→O))
def itoaE:ExtF:=fun d h l =>
 match l with
 | [.d (.s (.int .i64 n))]=>if -9223372036854775808 ≤ n∧n ≤ 9223372036854775807 then some (.val (.s (.string ⟨(Lib.itoa n).toArray⟩)),h) else none
 | _=>none
def atoiF (s:ByteArray):Int × Bool :=
 match Lib.atoiAll s.data.toList with
 | .ok v=>(v,false)
 | .range=>(Lib.atoiSat s.data.toList,true)
 | _=>(0,true)
def errA (b:Bool):A:=if b then .d (.ifc 230 .any) else .d (.s .nilIface)
def atoiE:ExtF:=fun d h l =>
 match l with
 | [.d (.s (.string s))]=>if s.size ≤ 1000000 then some (.tup [.d (.s (.int .i64 (atoiF s).1)),errA (atoiF s).2],h) else none
 | _=>none
def unq (s:ByteArray):ByteArray:=⟨(Lib.replaceAll s.data.toList [39,39] [39]).toArray⟩
def replE:ExtF:=fun d h l =>
 match l with
 | [.d (.s (.string s)),.d (.s (.string a)),.d (.s (.string b))]=>if s.size ≤ 1000000∧a.data.toList=[39,39]∧b.data.toList=[39] then some (.val (.s (.string (unq s))),h) else none
 | _=>none
def trimLE:ExtF:=fun d h l =>
 match l with
 | [.d (.s (.string s)),.d (.s (.string c))]=>if s.size ≤ 1000000∧c.data.toList=[32,9,10] then some (.val (.s (.string ⟨(Lib.trimLeftS s.data.toList [32,9,10]).toArray⟩)),h) else none
 | _=>none
def signs:List UInt8:=[40,41,44,46,59,61,60,43,45,42]
def containsE:ExtF:=fun d h l =>
 match l with
 | [.d (.s (.string a)),.d (.s (.string b))]=>if a.data.toList=signs∧b.size=1 then some (.val (.s (.bool (signs.contains (b.data.toList.getD 0 0)))),h) else none
 | _=>none
def strsD:List D→Option (List ByteArray)
 | []=>some []
 | .s (.string s) :: l=>(strsD l).map (s :: ·)
 | _ :: _=>none
def joinB (ss:List ByteArray) (sep:ByteArray):List UInt8:=Lib.join (ss.map (·.data.toList)) sep.data.toList
def joinE:ExtF:=fun d h l =>
 match l with
 | [.d (.lst xs),.d (.s (.string sep))] =>
  match strsD xs with
  | some ss=>if ss.isEmpty=false∧ss.length ≤ 1000000∧(joinB ss sep).length ≤ 1000000 then some (.val (.s (.string ⟨(joinB ss sep).toArray⟩)),h) else none
  | none=>none
 | _=>none
def ext26:Exts:=fun f =>
 if f=82 then some itoaE else if f=88 then some atoiE else if f=91 then some replE else if f=85 then some trimLE else if f=119 then some containsE else if f=83 then some joinE else none
theorem atoiF_bounds (s:ByteArray):-9223372036854775808 ≤ (atoiF s).1∧(atoiF s).1 ≤ 9223372036854775807:=by
 unfold atoiF
 split
 ·rename_i v h; exact atoi_bounds h
 ·unfold Lib.atoiSat; simp only; split <;> omega
 ·simp
theorem itoa_at (d:Nat) (h:Id→O) (n:Int) (h0:-9223372036854775808 ≤ n) (h1:n ≤ 9223372036854775807):evr Tryz.prog ext26 82 d h [.d (.s (.int .i64 n))]=some (.val (.s (.string ⟨(Lib.itoa n).toArray⟩)),h) :=
 evr_ext (g:=itoaE) rfl (by show (if _ then _ else _)=_; rw [if_pos ⟨h0,h1⟩])
theorem atoi_at (d:Nat) (h:Id→O) (s:ByteArray) (hs:s.size ≤ 1000000):evr Tryz.prog ext26 88 d h [.d (.s (.string s))]=some (.tup [.d (.s (.int .i64 (atoiF s).1)),errA (atoiF s).2],h) :=
 evr_ext (g:=atoiE) rfl (by show (if _ then _ else _)=_; rw [if_pos hs])
theorem repl_at (d:Nat) (h:Id→O) (s:ByteArray) (hs:s.size ≤ 1000000):evr Tryz.prog ext26 91 d h [.d (.s (.string s)),.d (.s (.string ⟨#[39,39]⟩)),.d (.s (.string ⟨#[39]⟩))]=some (.val (.s (.string (unq s))),h) :=
 evr_ext (g:=replE) rfl (by show (if _ then _ else _)=_; rw [if_pos ⟨hs,rfl,rfl⟩])
theorem contains_at (d:Nat) (h:Id→O) (b:ByteArray) (hb:b.size=1):evr Tryz.prog ext26 119 d h [.d (.s (.string ⟨#[40,41,44,46,59,61,60,43,45,42]⟩)),.d (.s (.string b))]=some (.val (.s (.bool (signs.contains (b.data.toList.getD 0 0)))),h) :=
 evr_ext (g:=containsE) rfl (by show (if _ then _ else _)=_; rw [if_pos ⟨rfl,hb⟩])
theorem trimL_at (d:Nat) (h:Id→O) (s:ByteArray) (hs:s.size ≤ 1000000):evr Tryz.prog ext26 85 d h [.d (.s (.string s)),.d (.s (.string ⟨#[32,9,10]⟩))]=some (.val (.s (.string ⟨(Lib.trimLeftS s.data.toList [32,9,10]).toArray⟩)),h) :=
 evr_ext (g:=trimLE) rfl (by show (if _ then _ else _)=_; rw [if_pos ⟨hs,rfl⟩])
noncomputable abbrev ev26:Orc:=evr Tryz.prog ext26
structure Word where
 kind:Int
 s:ByteArray
 deriving Inhabited
abbrev encW (w:Word):D:=.agg [.s (.int .i64 w.kind),.s (.string w.s)]
abbrev noW:Word:=⟨0,⟨#[]⟩⟩
end
section
theorem cut_zero (h g:Id→O):cut 0 h g=h:=by funext i; unfold cut; rw [if_neg (Nat.not_lt_zero _)]
def isLetter (c:Int):Bool:=decide (97 ≤ c) && decide (c ≤ 122)
def isDigit (c:Int):Bool:=decide (48 ≤ c) && decide (c ≤ 57)
def isName (c:Int):Bool:=isLetter c || isDigit c || c == 95
theorem letter_at (c:Int):ev26 114 0 (fun _=>.no 0) [.d (.s (.int .i32 c))]=some (.val (.s (.bool (isLetter c))),(fun _=>.no 0)):=by
 refine evr_body (n:=5) rfl (bx_body (fn:=Tryz.f114) Tryz.func114 rfl (by simp [Tryz.ntmps114]) (by decide) ?_)
 unfold isLetter
 by_cases h1:97 ≤ c <;> simp [Tryz.ntmps114,Tryz.results114,cut_zero,h1]
theorem digit_at (c:Int):ev26 117 0 (fun _=>.no 0) [.d (.s (.int .i32 c))]=some (.val (.s (.bool (isDigit c))),(fun _=>.no 0)):=by
 refine evr_body (n:=5) rfl (bx_body (fn:=Tryz.f117) Tryz.func117 rfl (by simp [Tryz.ntmps117]) (by decide) ?_)
 unfold isDigit
 by_cases h1:48 ≤ c <;> simp [Tryz.ntmps117,Tryz.results117,cut_zero,h1]
theorem name_char_at (c:Int):ev26 116 0 (fun _=>.no 0) [.d (.s (.int .i32 c))]=some (.val (.s (.bool (isName c))),(fun _=>.no 0)):=by
 refine evr_body (n:=5) rfl (bx_body (fn:=Tryz.f116) Tryz.func116 rfl (by simp [Tryz.ntmps116]) (by decide) ?_)
 have h1:=letter_at c
 have h2:=digit_at c
 unfold isName
 cases k1:isLetter c <;> cases k2:isDigit c <;> simp [Tryz.ntmps116,Tryz.results116,cut_zero,h1,h2,k1,k2]
def at8 (s:ByteArray) (i:Nat):Nat:=(s.data.toList.getD i 0).toNat
theorem get_at8 (s:ByteArray) (i:Nat) (h:i < s.size):(s.get! i).toNat=at8 s i:=by
 unfold at8
 have h':i < s.data.size:=h
 have e:s.get! i=s.data[i]!:=rfl
 rw [e,List.getD_eq_getElem?_getD,Array.getElem?_toList,getElem!_pos s.data i h',Array.getElem?_eq_getElem h']
 rfl
theorem decode_low {s:ByteArray} {i:Nat} (h:i < s.size) (hb:at8 s i < 128):Utf8.decode s i=(at8 s i,1):=by
 unfold Utf8.decode
 simp only [Nat.add_zero,get_at8 s i h]
 rw [if_pos hb]
theorem decode_high {s:ByteArray} {i:Nat} (h:i < s.size) (hb:¬ at8 s i < 128):128 ≤ (Utf8.decode s i).1:=by
 unfold Utf8.decode
 simp only [Nat.add_zero,get_at8 s i h]
 rw [if_neg hb]
 have e:Utf8.runeError=65533:=rfl
 split
 ·split
  ·assumption
  ·rw [e]; omega
 ·split
  ·split
   ·rename_i hc; simp only [ge_iff_le,Bool.and_eq_true,decide_eq_true_eq] at hc; exact Nat.le_trans (by omega) hc.1
   ·rw [e]; omega
  ·split
   ·split
    ·rename_i hc; simp only [ge_iff_le,Bool.and_eq_true,decide_eq_true_eq] at hc; exact Nat.le_trans (by omega) hc.1
    ·rw [e]; omega
   ·rw [e]; omega
def runF (p:Int→Bool) (s:ByteArray):Nat:=(s.data.toList.takeWhile fun b=>p b.toNat).length
theorem runF_stop {p:Int→Bool} {s:ByteArray} {i:Nat} (hi:i < s.size) (h1:∀ j,j < i→p (at8 s j)=true) (h2:p (at8 s i)=false):runF p s=i:=by
 unfold runF
 have hl:i < s.data.toList.length:=by rw [Array.length_toList]; exact hi
 have e:s.data.toList=s.data.toList.take i ++ s.data.toList.drop i:=(List.take_append_drop _ _).symm
 rw [e,List.takeWhile_append_of_pos]
 ·rw [List.drop_eq_getElem_cons hl,List.takeWhile_cons_of_neg]
  ·simp; omega
  ·have:at8 s i=(s.data.toList[i]).toNat:=by unfold at8; rw [List.getD_eq_getElem?_getD,List.getElem?_eq_getElem hl]; rfl
   rw [← this,h2]; simp
 ·intro b hb
  obtain ⟨j,hj,rfl⟩:=List.getElem_of_mem hb
  rw [List.length_take] at hj
  rw [List.getElem_take]
  have hj':j < s.data.toList.length:=by omega
  have:at8 s j=(s.data.toList[j]).toNat:=by unfold at8; rw [List.getD_eq_getElem?_getD,List.getElem?_eq_getElem hj']; rfl
  rw [← this]; exact h1 j (by omega)
theorem runF_all {p:Int→Bool} {s:ByteArray} (h1:∀ j,j < s.size→p (at8 s j)=true):runF p s=s.size:=by
 unfold runF
 have hs:s.size=s.data.toList.length:=by rw [Array.length_toList]; rfl
 have key:∀ b ∈ s.data.toList,p b.toNat=true:=by
  intro b hb
  obtain ⟨j,hj,rfl⟩:=List.getElem_of_mem hb
  have:at8 s j=(s.data.toList[j]).toNat:=by unfold at8; rw [List.getD_eq_getElem?_getD,List.getElem?_eq_getElem hj]; rfl
  rw [← this]; exact h1 j (by rw [hs]; exact hj)
 have:=List.takeWhile_append_of_pos (p:=fun b:UInt8=>p b.toNat) (l₁:=s.data.toList) (l₂:=[]) key
 simp only [List.append_nil,List.takeWhile_nil] at this
 rw [hs,this]
theorem run_at (f:FuncId) (p:Int→Bool) (hf:∀ c:Int,ev26 f 0 (fun _=>.no 0) [.d (.s (.int .i32 c))]=some (.val (.s (.bool (p c))),(fun _=>.no 0))) (ha:∀ c:Int,128 ≤ c→p c=false) (s:ByteArray):ev26 115 0 (fun _=>.no 0) [.d (.s (.string s)),.clo f []]=some (.val (.s (.int .i64 (runF p s))),(fun _=>.no 0)):=by
 refine evr_body (n:=s.size + 5) rfl (bx_body (fn:=Tryz.f115) Tryz.func115 rfl (by simp [Tryz.ntmps115]) (by decide) ?_)
 simp [Tryz.ntmps115,Tryz.results115,Tryz.underlying9]
 refine Wk_loopd (fun j st=>st.n=20∧0=st.d∧st.al=[]∧st.t 0 = .d (.s (.string s))∧st.t 1 = .clo f [] ∧ ∃ v pos,st.t 8 = .it (0,8) v∧st.h (0,8) = .sit v s pos∧pos ≤ s.size∧j=s.size - pos ∧ ∀ k,k < pos→p (at8 s k)=true) s.size (by omega) ?_ ?_
 ·exact ⟨rfl,rfl,by simp,by simp,by simp,1,0,by simp,by simp,by omega,by omega,fun k hk=>by omega⟩
 ·rintro j ⟨n,d,t,H,al⟩ hj ⟨rfl,rfl,rfl,h0,h1,v,pos,h8,hv,hp,hjj,hall⟩
  simp only at h0 h1 h8 hv
  by_cases hlt:pos < s.size
  ·by_cases hb:at8 s pos < 128
   ·have e:=decode_low hlt hb
    have hc:=hf (at8 s pos)
    cases k1:p (at8 s pos) with
    | true =>
     rw [k1] at hc
     simp [h0,h1,h8,hv,hlt,e,hc]
     exact ⟨j - 1,by omega,by omega,by omega,fun k hk=>by
      by_cases hk':k=pos
      ·rw [hk']; exact k1
      ·exact hall k (by omega)⟩
    | false =>
     rw [k1] at hc
     rw [runF_stop hlt hall k1]
     simp [h0,h1,h8,hv,hlt,e,hc,Tryz.ntmps115,Tryz.results115,cut_zero]
   ·have e:=decode_high hlt hb
    have hc:=hf (Utf8.decode s pos).1
    have k1:=ha (Utf8.decode s pos).1 (by omega)
    have k2:=ha (at8 s pos) (by omega)
    rw [k1] at hc
    rw [runF_stop hlt hall k2]
    simp [h0,h1,h8,hv,hlt,hc,Tryz.ntmps115,Tryz.results115,cut_zero]
  ·have hpe:pos=s.size:=by omega
   rw [runF_all (fun k hk=>hall k (by omega))]
   simp [h0,h1,h8,hv,hlt,Tryz.ntmps115,Tryz.results115,cut_zero,len_str (P:=Tryz.prog) s Tryz.underlying9]
def quotQ (s:ByteArray):Nat→Nat→Nat
 | 0,i=>0
 | n + 1,i =>
  if i < s.size then
   if at8 s i=39 then (if i + 1 < s.size∧at8 s (i + 1)=39 then quotQ s n (i + 2) else i + 1)
   else quotQ s n (i + 1)
  else 0
def quotedF (s:ByteArray):Nat:=quotQ s (s.size + 1) 1
theorem quotQ_le (s:ByteArray):∀ (n i:Nat),1 ≤ i→quotQ s n i=0 ∨ (2 ≤ quotQ s n i∧quotQ s n i ≤ s.size)
 | 0,i,hi=>Or.inl rfl
 | n + 1,i,hi=>by
  unfold quotQ
  split
  ·split
   ·split
    ·exact quotQ_le s n (i + 2) (by omega)
    ·exact Or.inr ⟨by omega,by omega⟩
   ·exact quotQ_le s n (i + 1) (by omega)
  ·exact Or.inl rfl
theorem quoted_at (s:ByteArray) (hs:s.size ≤ 1000000):ev26 118 0 (fun _=>.no 0) [.d (.s (.string s))]=some (.val (.s (.int .i64 (quotedF s))),(fun _=>.no 0)):=by
 refine evr_body (n:=s.size + 5) rfl (bx_body (fn:=Tryz.f118) Tryz.func118 rfl (by simp [Tryz.ntmps118]) (by decide) ?_)
 have hlen:=len_str (P:=Tryz.prog) (ty:=3) s Tryz.underlying9
 have hq:pureRun Tryz.prog (Instr.index 9 (.string ⟨#[39]⟩) (.int .i64 0))=some (.int .u8 39):=by
  have:=idx_str (P:=Tryz.prog) (t:=9) ⟨#[39]⟩ .i64 0 Tryz.underlying9 (by decide) (by decide)
  rw [this]; rfl
 simp [Tryz.ntmps118,Tryz.results118]
 refine Wk_loopd (fun j st=>st.n=32∧0=st.d∧st.al=[]∧st.t 0 = .d (.s (.string s)) ∧ ∃ i f:Nat,st.t 3 = .d (.s (.int .i64 i))∧1 ≤ i∧i ≤ s.size + 2∧j=s.size + 2 - i∧j ≤ f∧quotedF s=quotQ s f i) (s.size + 1) (by omega) ?_ ?_
 ·exact ⟨rfl,rfl,by simp,by simp,1,s.size + 1,by simp,by omega,by omega,by omega,Nat.le_refl _,rfl⟩
 ·rintro j ⟨n,d,t,H,al⟩ hj ⟨rfl,rfl,rfl,h0,i,f,h3,hi1,hi2,hjj,hjf,hfin⟩
  simp only at h0 h3
  by_cases hlt:i < s.size
  ·obtain ⟨f,rfl⟩:∃ f',f=f' + 1:=⟨f - 1,by omega⟩
   rw [quotQ,if_pos hlt] at hfin
   have hlt':(i:Int) < (s.size:Int):=by omega
   have hw:IntKind.i64.wrap ((i:Int) + 1)=(i:Int) + 1:=wrap_i64 (by omega) (by omega)
   have hw2:IntKind.i64.wrap ((i:Int) + 1 + 1)=(i:Int) + 1 + 1:=wrap_i64 (by omega) (by omega)
   have e1:pureRun Tryz.prog (Instr.index 9 (.string s) (.int .i64 (i:Int)))=some (.int .u8 (at8 s i)):=by
    have:=idx_str (P:=Tryz.prog) (t:=9) s .i64 (i:Int) Tryz.underlying9 (by omega) hlt'
    rw [this]; rfl
   have rf:∀ (ops:Array Oper) (es:List Eff),raceN ops (es.map (sigE (slotN 0)))=true→raceFree ops es=true:=fun ops es h=>raceFree_of (slotN 0) h
   by_cases hq1:at8 s i=39
   ·rw [if_pos hq1] at hfin
    rw [hq1] at e1
    by_cases hl2:i + 1 < s.size
    ·have hl2':(i:Int) + 1 < (s.size:Int):=by omega
     have e2:pureRun Tryz.prog (Instr.index 9 (.string s) (.int .i64 ((i:Int) + 1)))=some (.int .u8 (at8 s (i + 1))):=by
      have:=idx_str (P:=Tryz.prog) (t:=9) s .i64 ((i:Int) + 1) Tryz.underlying9 (by omega) hl2'
      rw [this,show ((i:Int) + 1).toNat=i + 1 by omega]; rfl
     by_cases hq2:at8 s (i + 1)=39
     ·rw [if_pos ⟨hl2,hq2⟩] at hfin
      rw [hq2] at e2
      simp [h0,h3,hlen,hlt',hw,hw2,e1,e2,hq,hl2']
      refine ⟨raceFree_of (slotN 0) (by simp only [List.map_cons,List.map_nil,sigE]; kernel_rfl),raceFree_of (slotN 0) (by simp only [List.map_cons,List.map_nil,sigE]; kernel_rfl),?_⟩
      exact ⟨s.size + 2 - (i + 2),by omega,i + 2,by omega,by omega,by omega,rfl,f,by omega,hfin⟩
     ·have hq2':¬ (at8 s (i + 1):Int)=39:=by omega
      rw [if_neg (fun h=>hq2 h.2)] at hfin
      rw [hfin]
      simp [h0,h3,hlen,hlt',hw,hw2,e1,e2,hq,hl2',hq2',Tryz.ntmps118,Tryz.results118,cut_zero]
      exact ⟨raceFree_of (slotN 0) (by simp only [List.map_cons,List.map_nil,sigE]; kernel_rfl),raceFree_of (slotN 0) (by simp only [List.map_cons,List.map_nil,sigE]; kernel_rfl)⟩
    ·have hl2':¬ (i:Int) + 1 < (s.size:Int):=by omega
     rw [if_neg (fun h=>hl2 h.1)] at hfin
     rw [hfin]
     simp [h0,h3,hlen,hlt',hw,hw2,e1,hq,hl2',Tryz.ntmps118,Tryz.results118,cut_zero]
     exact ⟨raceFree_of (slotN 0) (by simp only [List.map_cons,List.map_nil,sigE]; kernel_rfl),raceFree_of (slotN 0) (by simp only [List.map_cons,List.map_nil,sigE]; kernel_rfl)⟩
   ·have hq1':¬ (at8 s i:Int)=39:=by omega
    rw [if_neg hq1] at hfin
    simp [h0,h3,hlen,hlt',hw,hw2,e1,hq,hq1']
    exact ⟨raceFree_of (slotN 0) (by simp only [List.map_cons,List.map_nil,sigE]; kernel_rfl),s.size + 2 - (i + 1),by omega,i + 1,by omega,by omega,by omega,rfl,f,by omega,hfin⟩
  ·have hf0:quotedF s=0:=by
    rw [hfin]
    cases f with
    | zero=>rfl
    | succ f=>rw [quotQ,if_neg hlt]
   have hlt':¬ (i:Int) < (s.size:Int):=by omega
   simp [h0,h3,hlen,hlt',hf0,Tryz.ntmps118,Tryz.results118,cut_zero]
end
section
theorem sliceAt_hi {P:Program} {t:TypeId} (s:ByteArray) (h:Int) (ht:P.underlying t=some .string) (h0:0 ≤ h) (hh:h ≤ s.size):pureRun P (Instr.sliceAt t (.string s) none (some (.int .i64 h)) none)=some (.string (s.extract 0 h.toNat)):=by
 have h1:0 ≤ h∧h ≤ (s.size:Int):=⟨h0,hh⟩
 simp only [Instr.sliceAt,pureRun_bind,pure_under ht,Option.bind_some,Instr.slice,Instr.sliceBounds,Instr.sliceBound,asIntOf,pureRun_pure,Option.isSome_none,Bool.false_eq_true,if_false,pureRun_ite]
 rw [if_pos h1]
 rfl
theorem sliceAt_lo {P:Program} {t:TypeId} (s:ByteArray) (l:Int) (ht:P.underlying t=some .string) (h0:0 ≤ l) (hh:l ≤ s.size):pureRun P (Instr.sliceAt t (.string s) (some (.int .i64 l)) none none)=some (.string (s.extract l.toNat s.size)):=by
 have h1:0 ≤ l∧l ≤ (s.size:Int):=⟨h0,hh⟩
 simp only [Instr.sliceAt,pureRun_bind,pure_under ht,Option.bind_some,Instr.slice,Instr.sliceBounds,Instr.sliceBound,asIntOf,pureRun_pure,Option.isSome_none,Bool.false_eq_true,if_false,pureRun_ite]
 rw [if_pos h1]
 rfl
theorem exactE_sliceH (P:Program) (ev:Operand→A) (dst:Option Tmp) (t:TypeId) (x h:Operand) (ty:TypeId) (pos:String) (af:Array Edge) (g:Option (Nat × Bool)):exactE P ev ⟨dst,.slice t x none (some h) none,ty,pos,af,g⟩ =
  (match (ev x).exact,(ev h).exact with | some u,some b=>(pureRun P (Instr.sliceAt t u none (some b) none)).map fun v=>{ v:=ofV v } | _,_=>none):=by
 unfold exactE exactOp
 simp only [Op.operands]
 cases hx:(ev x).exact with
 | none=>simp [hx,-A.exact]
 | some u =>
  cases hh:(ev h).exact with
  | none=>simp [hx,hh,-A.exact]
  | some b =>
   simp only [execOp,hx,hh,Option.getD_some,Option.map_some,Option.map_none,pureRun_bind,pureRun_pure]
   simp [hx,hh,-A.exact]
   cases pureRun P (Instr.sliceAt t u none (some b) none) with
   | none=>rfl
   | some _=>rfl
theorem exactE_sliceL (P:Program) (ev:Operand→A) (dst:Option Tmp) (t:TypeId) (x l:Operand) (ty:TypeId) (pos:String) (af:Array Edge) (g:Option (Nat × Bool)):exactE P ev ⟨dst,.slice t x (some l) none none,ty,pos,af,g⟩ =
  (match (ev x).exact,(ev l).exact with | some u,some b=>(pureRun P (Instr.sliceAt t u (some b) none none)).map fun v=>{ v:=ofV v } | _,_=>none):=by
 unfold exactE exactOp
 simp only [Op.operands]
 cases hx:(ev x).exact with
 | none=>simp [hx,-A.exact]
 | some u =>
  cases hh:(ev l).exact with
  | none=>simp [hx,hh,-A.exact]
  | some b =>
   simp only [execOp,hx,hh,Option.getD_some,Option.map_some,Option.map_none,pureRun_bind,pureRun_pure]
   simp [hx,hh,-A.exact]
   cases pureRun P (Instr.sliceAt t u (some b) none none) with
   | none=>rfl
   | some _=>rfl
attribute [simp] exactE_sliceH exactE_sliceL
def isSign (b:ByteArray):Bool:=signs.contains (b.data.toList.getD 0 0)
theorem isSign_def (b:ByteArray):signs.contains (b.data.toList.getD 0 0)=isSign b:=rfl
def firstF (s:ByteArray):Word :=
 if isLetter (at8 s 0) then ⟨1,s.extract 0 (runF isName s)⟩
 else if isDigit (at8 s 0) then (if runF isDigit s < s.size∧isLetter (at8 s (runF isDigit s))=true then noW else ⟨2,s.extract 0 (runF isDigit s)⟩)
 else if (s.extract 0 1).toList=[39] then ⟨3,s.extract 0 (quotedF s)⟩
 else if isSign (s.extract 0 1) then ⟨4,s.extract 0 1⟩
 else noW
theorem runF_le (p:Int→Bool) (s:ByteArray):runF p s ≤ s.size:=by
 unfold runF
 have:s.size=s.data.toList.length:=by rw [Array.length_toList]; rfl
 rw [this]
 exact (List.takeWhile_sublist _).length_le
theorem quotedF_le (s:ByteArray):quotedF s ≤ s.size:=by
 rcases quotQ_le s (s.size + 1) 1 (by omega) with h | h
 ·show quotQ s (s.size + 1) 1 ≤ _; rw [h]; exact Nat.zero_le _
 ·exact h.2
theorem isName_high (c:Int) (h:128 ≤ c):isName c=false:=by unfold isName isLetter isDigit; simp; omega
theorem isDigit_high (c:Int) (h:128 ≤ c):isDigit c=false:=by unfold isDigit; simp; omega
theorem wrap_byte (b:Nat) (h:b < 256):IntKind.wrap .i32 (b:Int)=(b:Int):=by
 rw [IntKind.wrap_i32]; omega
theorem at8_lt (s:ByteArray) (i:Nat):at8 s i < 256:=UInt8.toNat_lt _
theorem first_at (s:ByteArray) (h0:0 < s.size) (hs:s.size ≤ 1000000):ev26 86 0 (fun _=>.no 0) [.d (.s (.string s))]=some (.val (encW (firstF s)),(fun _=>.no 0)):=by
 refine evr_body (n:=5) rfl (bx_body (fn:=Tryz.f86) Tryz.func86 rfl (by simp [Tryz.ntmps86]) (by decide) ?_)
 have hlen:=len_str (P:=Tryz.prog) (ty:=3) s Tryz.underlying9
 have ix:∀ i:Nat,i < s.size→pureRun Tryz.prog (Instr.index 9 (.string s) (.int .i64 (i:Int)))=some (.int .u8 (at8 s i)):=fun i hi=>by
  have:=idx_str (P:=Tryz.prog) (t:=9) s .i64 (i:Int) Tryz.underlying9 (by omega) (by omega)
  rw [this]; rfl
 have i0:pureRun Tryz.prog (Instr.index 9 (.string s) (.int .i64 0))=some (.int .u8 (at8 s 0)):=ix 0 h0
 have cv:∀ b:Nat,b < 256→pureRun Tryz.prog (convert 5 21 (.int .u8 (b:Int)))=some (.int .i32 (b:Int)):=fun b hb=>by
  rw [conv_int .u8 (b:Int) Tryz.underlying5 Tryz.underlying21]
  rw [wrap_byte b hb]
 have c0:=cv _ (at8_lt s 0)
 have hl:=letter_at (at8 s 0)
 have hd':=digit_at (at8 s 0)
 have hrn:=run_at 116 isName name_char_at isName_high s
 have hrd:=run_at 117 isDigit digit_at isDigit_high s
 have s1:=sliceAt_hi (P:=Tryz.prog) s (runF isName s:Int) Tryz.underlying9 (by omega) (by have:=runF_le isName s; omega)
 have s2:=sliceAt_hi (P:=Tryz.prog) s (runF isDigit s:Int) Tryz.underlying9 (by omega) (by have:=runF_le isDigit s; omega)
 have s3:=sliceAt_hi (P:=Tryz.prog) s (quotedF s:Int) Tryz.underlying9 (by omega) (by have:=quotedF_le s; omega)
 have s4:=sliceAt_hi (P:=Tryz.prog) s 1 Tryz.underlying9 (by omega) (by omega)
 have hq:=quoted_at s hs
 have hc:=contains_at 0 (fun _=>.no 0) (s.extract 0 1) (by rw [ByteArray.size_extract]; omega)
 rw [isSign_def] at hc
 simp only [Int.toNat_natCast] at s1 s2 s3 s4
 have s4':pureRun Tryz.prog (Instr.sliceAt 9 (.string s) none (some (.int .i64 1)) none)=some (.string (s.extract 0 1)):=s4
 unfold firstF
 cases k1:isLetter (at8 s 0) with
 | true=>simp [Tryz.ntmps86,Tryz.results86,cut_zero,i0,c0,hl,hrn,s1,k1,encW]
 | false =>
  cases k2:isDigit (at8 s 0) with
  | true =>
   by_cases k3:runF isDigit s < s.size
   ·have k3':(runF isDigit s:Int) < (s.size:Int):=by omega
    have i1:=ix _ k3
    have c1:=cv _ (at8_lt s (runF isDigit s))
    have hl2:=letter_at (at8 s (runF isDigit s))
    cases k4:isLetter (at8 s (runF isDigit s)) <;> simp [Tryz.ntmps86,Tryz.results86,cut_zero,i0,c0,hl,hd',hrd,hlen,s2,i1,c1,hl2,k1,k2,k3,k3',k4,encW,noW]
   ·have k3':¬ (runF isDigit s:Int) < (s.size:Int):=by omega
    simp [Tryz.ntmps86,Tryz.results86,cut_zero,i0,c0,hl,hd',hrd,hlen,s2,k1,k2,k3,k3',encW,noW]
  | false =>
   by_cases k5:(s.extract 0 1).toList=[39]
   ·simp [Tryz.ntmps86,Tryz.results86,cut_zero,i0,c0,hl,hd',hq,s3,s4',k1,k2,k5,encW,noW]
   ·cases k6:isSign (s.extract 0 1) <;> simp [Tryz.ntmps86,Tryz.results86,cut_zero,i0,c0,hl,hd',hc,s4',k1,k2,k5,k6,encW,noW]
end
section
def trimL (s:ByteArray):ByteArray:=⟨(Lib.trimLeftS s.data.toList [32,9,10]).toArray⟩
theorem trimL_le (s:ByteArray):(trimL s).size ≤ s.size:=by
 show (Lib.trimLeftS s.data.toList [32,9,10]).toArray.size ≤ s.data.size
 rw [List.size_toArray,← Array.length_toList]
 exact (List.dropWhile_sublist _).length_le
theorem empty_iff (s:ByteArray):s.toList=[] ↔ s.size=0:=by
 rw [ByteArray.toList_eq]
 constructor
 ·intro h
  have:s.data.toList.length=0:=by rw [h]; rfl
  rw [Array.length_toList] at this; exact this
 ·intro h
  apply List.length_eq_zero_iff.1
  rw [Array.length_toList]; exact h
def wordsF:Nat→ByteArray→Option (List Word)
 | 0,_=>none
 | n + 1,s =>
  if (trimL s).toList=[] then some []
  else if (firstF (trimL s)).s.toList=[] then none
  else (wordsF n ((trimL s).extract (firstF (trimL s)).s.size (trimL s).size)).map (firstF (trimL s) :: ·)
theorem first_le (s:ByteArray):(firstF s).s.size ≤ s.size:=by
 unfold firstF
 split
 ·simp [ByteArray.size_extract]; omega
 ·split
  ·split
   ·exact Nat.zero_le _
   ·simp [ByteArray.size_extract]; omega
  ·split
   ·simp [ByteArray.size_extract]; omega
   ·split
    ·simp [ByteArray.size_extract]; omega
    ·exact Nat.zero_le _
abbrev encWs (ws:List Word):D:=.lst (ws.map encW)
def wordsR (o:Option (List Word)):R :=
 match o with
 | some ws=>.tup [.d (encWs ws),.d (.s (.bool true))]
 | none=>.tup [.d (.lst []),.d (.s (.bool false))]
theorem words_at (s:ByteArray) (hs:s.size ≤ 1000000):ev26 45 0 (fun _=>.no 0) [.d (.s (.string s))]=some (wordsR (wordsF (s.size + 1) s),(fun _=>.no 0)):=by
 refine evr_body (n:=s.size + 5) rfl (bx_body (fn:=Tryz.f45) Tryz.func45 rfl (by simp [Tryz.ntmps45]) (by decide) ?_)
 simp [Tryz.ntmps45,Tryz.results45,(show keepT Tryz.f45.name=false from rfl)]
 refine Wk_loopd (fun j st=>st.n=25∧0=st.d∧st.al=[] ∧ ∃ l r,st.t 0 = .d (.s (.string r))∧r.size ≤ j∧l.length + r.size ≤ s.size∧(wordsF (j + 1) r).map (l ++ ·)=wordsF (s.size + 1) s∧((l=[]∧st.t 4 = .clip []) ∨ ∃ v,st.t 4 = .sl (0,19) v 0 l.length∧st.h (0,19) = .vec v 2 (l.map encW) false)) s.size (by omega) ?_ ?_
 ·exact ⟨rfl,rfl,by simp,[],s,by simp,by omega,by simp,by simp,Or.inl ⟨rfl,by simp⟩⟩
 ·rintro j ⟨n,d,t,H,al⟩ hj ⟨rfl,rfl,rfl,l,r,h0,hr,hlr,hw,hi⟩
  simp only at h0 hi
  have ht:=trimL_at 0 (fun _=>.no 0) r (by omega)
  have ht:evr Tryz.prog ext26 85 0 (fun _=>.no 0) [.d (.s (.string r)),.d (.s (.string ⟨#[32,9,10]⟩))]=some (.val (.s (.string (trimL r))),(fun _=>.no 0)):=ht
  have htl:=trimL_le r
  rcases hi with ⟨hl,h4⟩ | ⟨v,h4,hv⟩
  ·have hv:True:=trivial
   subst hl
   have hl:True:=trivial
   by_cases k1:(trimL r).toList=[]
   ·have hw0:wordsF (j + 1) r=some []:=by unfold wordsF; rw [if_pos k1]
    rw [hw0] at hw
    rw [← hw]
    simp [h0,h4,hv,ht,k1,Tryz.ntmps45,Tryz.results45,(show keepT Tryz.f45.name=false from rfl),cut_zero,encW,wordsR,hl]
   ·have hpos:0 < (trimL r).size:=by have:=mt (empty_iff (trimL r)).2 k1; omega
    have hfi:=first_at (trimL r) hpos (by omega)
    have hfl:=first_le (trimL r)
    by_cases k2:(firstF (trimL r)).s.toList=[]
    ·have hw0:wordsF (j + 1) r=none:=by unfold wordsF; rw [if_neg k1,if_pos k2]
     rw [hw0] at hw
     rw [← hw]
     simp [h0,h4,hv,ht,hfi,k1,k2,Tryz.ntmps45,Tryz.results45,(show keepT Tryz.f45.name=false from rfl),cut_zero,encW,wordsR]
    ·have hw0:wordsF (j + 1) r=(wordsF j ((trimL r).extract (firstF (trimL r)).s.size (trimL r).size)).map (firstF (trimL r) :: ·):=by
      show (if _ then _ else if _ then _ else _)=_
      rw [if_neg k1,if_neg k2]
     rw [hw0] at hw
     have hp2:0 < (firstF (trimL r)).s.size:=by have:=mt (empty_iff (firstF (trimL r)).s).2 k2; omega
     have hsl:=sliceAt_lo (P:=Tryz.prog) (trimL r) ((firstF (trimL r)).s.size:Int) Tryz.underlying9 (by omega) (by omega)
     simp only [Int.toNat_natCast] at hsl
     have hle:=len_str (P:=Tryz.prog) (ty:=3) (firstF (trimL r)).s Tryz.underlying9
     have hsz:True:=trivial
     have hsz2:(((trimL r).extract (firstF (trimL r)).s.size (trimL r).size)).size=(trimL r).size - (firstF (trimL r)).s.size:=by rw [ByteArray.size_extract]; omega
     generalize firstF (trimL r)=w at *
     simp [h0,h4,hv,ht,hfi,k1,k2,Tryz.ntmps45,Tryz.results45,(show keepT Tryz.f45.name=false from rfl),cut_zero,encW,hsl,hle,hsz,tb102]
     have hj0:0 < j:=by omega
     refine ⟨j - 1,by omega,by omega,[w],by simp; omega,?_,_,⟨rfl,by simp⟩,rfl,by simp⟩
     rw [show j - 1 + 1=j by omega,← hw,Option.map_map]
     first | rfl | (refine congrArg (fun g=>Option.map g _) ?_; funext x; simp)
  ·have hl:True:=trivial
   by_cases k1:(trimL r).toList=[]
   ·have hw0:wordsF (j + 1) r=some []:=by unfold wordsF; rw [if_pos k1]
    rw [hw0] at hw
    rw [← hw]
    simp [h0,h4,hv,ht,k1,Tryz.ntmps45,Tryz.results45,(show keepT Tryz.f45.name=false from rfl),cut_zero,encW,wordsR,hl]
   ·have hpos:0 < (trimL r).size:=by have:=mt (empty_iff (trimL r)).2 k1; omega
    have hfi:=first_at (trimL r) hpos (by omega)
    have hfl:=first_le (trimL r)
    by_cases k2:(firstF (trimL r)).s.toList=[]
    ·have hw0:wordsF (j + 1) r=none:=by unfold wordsF; rw [if_neg k1,if_pos k2]
     rw [hw0] at hw
     rw [← hw]
     simp [h0,h4,hv,ht,hfi,k1,k2,Tryz.ntmps45,Tryz.results45,(show keepT Tryz.f45.name=false from rfl),cut_zero,encW,wordsR]
    ·have hw0:wordsF (j + 1) r=(wordsF j ((trimL r).extract (firstF (trimL r)).s.size (trimL r).size)).map (firstF (trimL r) :: ·):=by
      show (if _ then _ else if _ then _ else _)=_
      rw [if_neg k1,if_neg k2]
     rw [hw0] at hw
     have hp2:0 < (firstF (trimL r)).s.size:=by have:=mt (empty_iff (firstF (trimL r)).s).2 k2; omega
     have hsl:=sliceAt_lo (P:=Tryz.prog) (trimL r) ((firstF (trimL r)).s.size:Int) Tryz.underlying9 (by omega) (by omega)
     simp only [Int.toNat_natCast] at hsl
     have hle:=len_str (P:=Tryz.prog) (ty:=3) (firstF (trimL r)).s Tryz.underlying9
     have hsz:(l.length + 1) * 25 ≤ 70368744177664:=by omega
     have hsz2:(((trimL r).extract (firstF (trimL r)).s.size (trimL r).size)).size=(trimL r).size - (firstF (trimL r)).s.size:=by rw [ByteArray.size_extract]; omega
     generalize firstF (trimL r)=w at *
     simp [h0,h4,hv,ht,hfi,k1,k2,Tryz.ntmps45,Tryz.results45,(show keepT Tryz.f45.name=false from rfl),cut_zero,encW,hsl,hle,hsz,tb102]
     have hj0:0 < j:=by omega
     refine ⟨j - 1,by omega,by omega,l ++ [w],by simp; omega,?_,_,⟨rfl,by simp⟩,rfl,by simp⟩
     rw [show j - 1 + 1=j by omega,← hw,Option.map_map]
     first | rfl | (refine congrArg (fun g=>Option.map g _) ?_; funext x; simp)
def readF (s:ByteArray):List Word × Int :=
 if 4000 < s.size then ([],2) else match wordsF (s.size + 1) s with | some ws=>(ws,0) | none=>([],3)
theorem read_at (s:ByteArray) (hs:s.size ≤ 1000000):ev26 20 0 (fun _=>.no 0) [.d (.s (.string s))]=some (.tup [.d (encWs (readF s).1),.d (.s (.int .i64 (readF s).2))],(fun _=>.no 0)):=by
 refine evr_body (n:=5) rfl (bx_body (fn:=Tryz.f20) Tryz.func20 rfl (by simp [Tryz.ntmps20]) (by decide) ?_)
 have hw:=words_at s hs
 have hle:=len_str (P:=Tryz.prog) (ty:=3) s Tryz.underlying9
 unfold readF
 by_cases k1:4000 < s.size
 ·have k1':(4000:Int) < (s.size:Int):=by omega
  simp [Tryz.ntmps20,Tryz.results20,(show keepT Tryz.f20.name=false from rfl),cut_zero,hle,k1,k1']
 ·have k1':¬ (4000:Int) < (s.size:Int):=by omega
  cases k2:wordsF (s.size + 1) s <;> rw [k2] at hw <;> simp only [wordsR,encWs] at hw <;> simp [Tryz.ntmps20,Tryz.results20,(show keepT Tryz.f20.name=false from rfl),cut_zero,hle,k1,k1',hw]
theorem wordsS_at (s:ByteArray) (hs:s.size ≤ 1000000) (hl:(readF s).1.length ≤ 1000000):ev26 11 0 (fun _=>.no 0) [.d (.s (.string s))]=some (.tup [.d (.lst ((readF s).1.map fun w=>.s (.string w.s))),.d (.s (.int .i64 (readF s).2))],(fun _=>.no 0)):=by
 refine evr_body (n:=(readF s).1.length + 5) rfl (bx_body (fn:=Tryz.f11) Tryz.func11 rfl (by simp [Tryz.ntmps11]) (by decide) ?_)
 have hw:=read_at s hs
 generalize hq:readF s=q at *
 obtain ⟨ws,e⟩:=q
 simp only [encWs] at hw hl ⊢
 simp [Tryz.ntmps11,Tryz.results11,(show keepT Tryz.f11.name=false from rfl),hw]
 refine Wk_loop (fun j st=>st.n=28∧0=st.d∧st.al=[]∧st.t 14 = .d (.lst (ws.map encW))∧st.t 15 = .d (.s (.int .i64 ws.length))∧st.t 16 = .d (.s (.int .i64 j))∧st.t 5 = .d (.s (.int .i64 e))∧j ≤ ws.length∧((j=0∧st.t 6 = .clip []) ∨ ∃ v,st.t 6 = .sl (0,24) v 0 j∧st.h (0,24) = .vec v 1 ((ws.take j).map fun w=>.s (.string w.s)) false)) ws.length (by omega) ?_ ?_
 ·simp
 ·rintro j ⟨n,d,t,H,al⟩ hj ⟨rfl,rfl,rfl,h14,h15,h16,h5,hjl,hi⟩
  simp only at h14 h15 h16 h5 hi
  rcases hi with ⟨rfl,h6⟩ | ⟨v,h6,hv⟩
  ·by_cases k:0 < ws.length
   ·have k':(0:Int) < (ws.length:Int):=by omega
    cases ws with
    | nil=>simp at k
    | cons w r=>simp [h14,h15,h16,h5,h6,cut_zero,encW,tb9,wrap_i64]
   ·have hn:ws=[]:=List.length_eq_zero_iff.1 (by omega)
    subst hn
    simp [h14,h15,h16,h5,h6,Tryz.ntmps11,Tryz.results11,(show keepT Tryz.f11.name=false from rfl),cut_zero,encW]
  ·by_cases k:j < ws.length
   ·have k':(j:Int) < (ws.length:Int):=by omega
    have hg:ws[j]? = some ws[j]:=List.getElem?_eq_getElem k
    have hsz:(j + 1) * 17 ≤ 70368744177664:=by omega
    have w1:IntKind.wrap .i64 ((j:Int) + 1)=((j + 1:Nat):Int):=by rw [wrap_i64 (by omega) (by omega)]; omega
    simp [h14,h15,h16,h5,h6,hv,k,k',hg,hsz,w1,cut_zero,encW,tb9]
    refine ⟨by omega,by omega,?_⟩
    rw [List.take_add_one,List.getElem?_map,hg]; rfl
   ·have k':¬ (j:Int) < (ws.length:Int):=by omega
    have hjw:j=ws.length:=by omega
    subst hjw
    simp [h14,h15,h16,h5,h6,hv,Tryz.ntmps11,Tryz.results11,(show keepT Tryz.f11.name=false from rfl),cut_zero,encW]
end
end Go.Proofs.YtenoggjjhamdaaaGreatDoor
