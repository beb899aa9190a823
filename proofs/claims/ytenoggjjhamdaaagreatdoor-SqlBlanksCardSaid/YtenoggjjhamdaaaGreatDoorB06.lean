/-
  WHAT IS PROVED HERE: parts of the proof: Is1 Is1D Ir0 Dm DmK Dm1 Dm2 Dm3 Dm4.
-/
import Derived.Orders
import Derived.Test.YtenoggjjhamdaaaGreatDoorB05
set_option linter.all false
namespace Go.Proofs.YtenoggjjhamdaaaGreatDoor
open Go Go.RowKit
section
inductive Itm where
 | code (c:Code)
 | blk (id:Nat)
 | scp
 | ops (O:Array Oper) (l:List Oper)
 | tr (O:Array Oper) (l:List Oper) (es:List Eff)
mutual
def execK (P:Program) (X:Orc) (N:Nat):List Itm→St→Option (Ex × St)
 | [],st=>some (.normal,st)
 | .code c :: k,st =>
  match exec P X N c st with
  | some (.normal,s)=>execK P X N k s
  | some (x,s)=>unwK P X N x k s
  | none=>none
 | .blk _ :: k,st=>execK P X N k st
 | .scp :: k,st=>execK P X N k st
 | .ops O l :: k,st =>
  match runOps P X O l st with
  | some s=>execK P X N k s
  | none=>none
 | .tr O l es :: k,st =>
  match runTr P X O l st with
  | some (s,es')=>if raceFree O (es ++ es') then execK P X N k s else none
  | none=>none
def unwK (P:Program) (X:Orc) (N:Nat) (x:Ex):List Itm→St→Option (Ex × St)
 | [],st=>some (x,st)
 | .blk j :: k,st=>if x = .exit j then execK P X N k st else unwK P X N x k st
 | .scp :: k,st=>(match x with | .goto _=>none | _=>unwK P X N x k st)
 | .code _ :: k,st=>unwK P X N x k st
 | .ops _ _ :: k,st=>unwK P X N x k st
 | .tr _ _ _ :: k,st=>unwK P X N x k st
end
def Wk (P:Program) (X:Orc) (N:Nat) (k:List Itm) (st:St) (Q:Ex→St→Prop):Prop:=∃ x s,execK P X N k st=some (x,s)∧Q x s
def Wu (P:Program) (X:Orc) (N:Nat) (x:Ex) (k:List Itm) (st:St) (Q:Ex→St→Prop):Prop:=∃ y s,unwK P X N x k st=some (y,s)∧Q y s
section
variable (P:Program) (X:Orc) (N:Nat) (k:List Itm) (st:St) (Q:Ex→St→Prop) (a b:Code) (O:Array Oper) (l:List Oper)
theorem Wk_nil:Wk P X N [] st Q=Q .normal st:=by
 apply propext; unfold Wk execK
 exact ⟨fun ⟨x,s,h,q⟩=>by cases h; exact q,fun q=>⟨_,_,rfl,q⟩⟩
theorem Wu_nil (x:Ex):Wu P X N x [] st Q=Q x st:=by
 apply propext; unfold Wu unwK
 exact ⟨fun ⟨y,s,h,q⟩=>by cases h; exact q,fun q=>⟨_,_,rfl,q⟩⟩
theorem Wk_blk (j:Nat):Wk P X N (.blk j :: k) st Q=Wk P X N k st Q:=by unfold Wk; rw [execK]
theorem Wu_blk (i j:Nat):Wu P X N (.exit i) (.blk j :: k) st Q=if i=j then Wk P X N k st Q else Wu P X N (.exit i) k st Q:=by
 unfold Wu Wk; rw [unwK]
 by_cases h:i=j
 ·rw [if_pos h,if_pos (by rw [h])]
 ·rw [if_neg h,if_neg (by simpa using h)]
theorem Wu_ret (j:Nat):Wu P X N .ret (.blk j :: k) st Q=Wu P X N .ret k st Q:=by
 unfold Wu; rw [unwK,if_neg (by simp)]
theorem Wu_code (x:Ex):Wu P X N x (.code a :: k) st Q=Wu P X N x k st Q:=by unfold Wu; rw [unwK]
theorem Wu_ops (x:Ex):Wu P X N x (.ops O l :: k) st Q=Wu P X N x k st Q:=by unfold Wu; rw [unwK]
theorem Wk_seq:Wk P X N (.code (.seq a b) :: k) st Q=Wk P X N (.code a :: .code b :: k) st Q:=by
 unfold Wk; rw [execK,execK,exec]
 cases h:exec P X N a st with
 | none=>rfl
 | some p =>
  obtain ⟨x,s⟩:=p
  cases x with
  | normal=>simp only; rw [execK]
  | _=>simp only; rw [unwK]
theorem Wk_skip:Wk P X N (.code .skip :: k) st Q=Wk P X N k st Q:=by unfold Wk; rw [execK,exec]
theorem Wk_label (j:Nat):Wk P X N (.code (.label j) :: k) st Q=Wk P X N k st Q:=by unfold Wk; rw [execK,exec]
theorem Wk_exit (j:Nat):Wk P X N (.code (.exit j) :: k) st Q=Wu P X N (.exit j) k st Q:=by unfold Wk Wu; rw [execK,exec]
theorem Wk_ret:Wk P X N (.code .ret :: k) st Q=Wu P X N .ret k st Q:=by unfold Wk Wu; rw [execK,exec]
theorem Wk_block (j:Nat):Wk P X N (.code (.block j a) :: k) st Q=Wk P X N (.code a :: .blk j :: k) st Q:=by
 unfold Wk; rw [execK,execK,exec]
 cases h:exec P X N a st with
 | none=>rfl
 | some p =>
  obtain ⟨x,s⟩:=p
  cases x with
  | normal=>simp only; rw [execK]
  | exit i =>
   simp only
   rw [unwK]
   by_cases hi:i=j
   ·rw [if_pos hi,if_pos (by rw [hi])]
   ·rw [if_neg hi,if_neg (by simpa using hi)]
  | _=>simp only; rw [unwK,if_neg (by simp)]
theorem Wk_scp:Wk P X N (.scp :: k) st Q=Wk P X N k st Q:=by unfold Wk; rw [execK]
theorem Wu_scp (i:Nat):Wu P X N (.exit i) (.scp :: k) st Q=Wu P X N (.exit i) k st Q:=by unfold Wu; rw [unwK]; simp
theorem Wu_scpr:Wu P X N .ret (.scp :: k) st Q=Wu P X N .ret k st Q:=by unfold Wu; rw [unwK]; simp
theorem Wk_scope:Wk P X N (.code (.scope a) :: k) st Q=Wk P X N (.code a :: .scp :: k) st Q:=by
 unfold Wk; rw [execK,execK,exec]
 cases h:exec P X N a st with
 | none=>rfl
 | some p =>
  obtain ⟨x,s⟩:=p
  cases x with
  | normal=>simp only; rw [execK]
  | goto j=>simp only [unwK]
  | _=>simp only; rw [unwK]; simp
theorem Wk_cond (c:Operand):Wk P X N (.code (.cond c a b) :: k) st Q=if (st.ev c).bool? = some true then Wk P X N (.code a :: k) st Q else if (st.ev c).bool? = some false then Wk P X N (.code b :: k) st Q else False:=by
 unfold Wk; rw [execK,exec]
 cases h:(st.ev c).bool? with
 | none=>simp
 | some t=>cases t <;> simp [execK]
theorem Wk_region (id:Nat):Wk P X N (.code (.region id O false) :: k) st Q=Wk P X N (.ops O O.toList :: k) st Q:=by
 unfold Wk; rw [execK,execK,exec]
 cases h:runOps P X O O.toList st <;> rfl
theorem Wk_draw (id:Nat):Wk P X N (.code (.region id O true) :: k) st Q=Wk P X N (.tr O O.toList [] :: k) st Q:=by
 unfold Wk; rw [execK,execK,exec]
 cases h:runTr P X O O.toList st with
 | none=>rfl
 | some p =>
  obtain ⟨s,es⟩:=p
  simp only [List.nil_append]
  by_cases hr:raceFree O es=true <;> simp [hr]
theorem Wk_ops_nil:Wk P X N (.ops O [] :: k) st Q=Wk P X N k st Q:=by unfold Wk; rw [execK,runOps]
theorem Wk_tr_nil (es:List Eff):Wk P X N (.tr O [] es :: k) st Q=(raceFree O es=true∧Wk P X N k st Q):=by
 unfold Wk; rw [execK,runTr]
 simp only [List.append_nil]
 by_cases hr:raceFree O es=true <;> simp [hr]
def Wv (e:Option Eff) (dst:Option Tmp) (st:St) (l:List Oper):Prop:=∃ x,chkE st e=some x∧Wk P X N (.ops O l :: k) (st.put dst x) Q
def Wt (e:Option Eff) (dst:Option Tmp) (st:St) (l:List Oper) (es:List Eff):Prop:=∃ x,chkE st e=some x∧Wk P X N (.tr O l (es ++ [x]) :: k) (st.put dst x) Q
theorem Wv_some (e:Eff) (d:Option Tmp):Wv P X N k Q O (some e) d st l=(okW st.d st.al e.wr=true∧Wk P X N (.ops O l :: k) (st.put d e) Q):=by
 apply propext; unfold Wv chkE
 constructor
 ·rintro ⟨x,h,q⟩
  simp only at h
  split at h
  ·rename_i hok; cases h; exact ⟨hok,q⟩
  ·cases h
 ·rintro ⟨hok,q⟩
  exact ⟨e,by simp only; rw [if_pos hok],q⟩
theorem Wt_some (e:Eff) (d:Option Tmp) (es:List Eff):Wt P X N k Q O (some e) d st l es=(okW st.d st.al e.wr=true∧Wk P X N (.tr O l (es ++ [e]) :: k) (st.put d e) Q):=by
 apply propext; unfold Wt chkE
 constructor
 ·rintro ⟨x,h,q⟩
  simp only at h
  split at h
  ·rename_i hok; cases h; exact ⟨hok,q⟩
  ·cases h
 ·rintro ⟨hok,q⟩
  exact ⟨e,by simp only; rw [if_pos hok],q⟩
theorem Wv_none (d:Option Tmp):Wv P X N k Q O none d st l=False:=by simp [Wv,chkE]
theorem Wv_ite (c:Prop) [Decidable c] (x y:Option Eff) (d:Option Tmp):Wv P X N k Q O (if c then x else y) d st l=if c then Wv P X N k Q O x d st l else Wv P X N k Q O y d st l:=by split <;> rfl
theorem Wt_none (d:Option Tmp) (es:List Eff):Wt P X N k Q O none d st l es=False:=by simp [Wt,chkE]
theorem Wt_ite (c:Prop) [Decidable c] (x y:Option Eff) (d:Option Tmp) (es:List Eff):Wt P X N k Q O (if c then x else y) d st l es=if c then Wt P X N k Q O x d st l es else Wt P X N k Q O y d st l es:=by split <;> rfl
theorem Wk_op (dst:Option Tmp) (op:Op) (ty:TypeId) (pos:String) (af:Array Edge) :
  Wk P X N (.ops O (⟨dst,op,ty,pos,af,none⟩ :: l) :: k) st Q=if dstOk st.n dst=true then Wv P X N k Q O (opE P X st.d st.ev st.h (st.d,dst.getD st.n) ⟨dst,op,ty,pos,af,none⟩) dst st l else False:=by
 unfold Wk Wv; rw [execK,runOps,stepSt,stepE]
 by_cases hd:dstOk st.n dst=true
 ·rw [if_pos hd,if_pos hd]
  simp only [wantedA]
  cases he:chkE st (opE P X st.d st.ev st.h (st.d,dst.getD st.n) ⟨dst,op,ty,pos,af,none⟩) with
  | none=>simp
  | some e=>simp [Wk,execK]
 ·rw [if_neg hd,if_neg hd]; simp
theorem Wk_opg (dst:Option Tmp) (op:Op) (ty:TypeId) (pos:String) (af:Array Edge) (g:Nat × Bool) :
  Wk P X N (.ops O (⟨dst,op,ty,pos,af,some g⟩ :: l) :: k) st Q=if dstOk st.n dst=true then (if wantedA O st ⟨dst,op,ty,pos,af,some g⟩=some true then Wv P X N k Q O (opE P X st.d st.ev st.h (st.d,dst.getD st.n) ⟨dst,op,ty,pos,af,some g⟩) dst st l
   else if wantedA O st ⟨dst,op,ty,pos,af,some g⟩=some false then Wk P X N (.ops O l :: k) (st.put dst { v:=.d (.s undef) }) Q else False) else False:=by
 unfold Wk Wv; rw [execK,runOps,stepSt,stepE]
 by_cases hd:dstOk st.n dst=true
 ·rw [if_pos hd,if_pos hd]
  cases hw:wantedA O st ⟨dst,op,ty,pos,af,some g⟩ with
  | none=>simp
  | some t =>
   cases t with
   | true =>
    simp only [if_true]
    cases he:chkE st (opE P X st.d st.ev st.h (st.d,dst.getD st.n) ⟨dst,op,ty,pos,af,some g⟩) with
    | none=>simp
    | some e=>simp [Wk,execK]
   | false=>simp [execK]
 ·rw [if_neg hd,if_neg hd]; simp
theorem Wk_tr (dst:Option Tmp) (op:Op) (ty:TypeId) (pos:String) (af:Array Edge) (es:List Eff) :
  Wk P X N (.tr O (⟨dst,op,ty,pos,af,none⟩ :: l) es :: k) st Q=if dstOk st.n dst=true then Wt P X N k Q O (opE P X st.d st.ev st.h (st.d,dst.getD st.n) ⟨dst,op,ty,pos,af,none⟩) dst st l es else False:=by
 unfold Wk Wt; rw [execK,runTr,stepE]
 by_cases hd:dstOk st.n dst=true
 ·rw [if_pos hd,if_pos hd]
  simp only [wantedA]
  cases he:chkE st (opE P X st.d st.ev st.h (st.d,dst.getD st.n) ⟨dst,op,ty,pos,af,none⟩) with
  | none=>simp
  | some e =>
   simp only [Wk,execK]
   cases hr:runTr P X O l (st.put dst e) with
   | none=>simp [hr]
   | some p=>obtain ⟨s,es'⟩:=p; simp [hr]
 ·rw [if_neg hd,if_neg hd]; simp
theorem Wk_trg (dst:Option Tmp) (op:Op) (ty:TypeId) (pos:String) (af:Array Edge) (g:Nat × Bool) (es:List Eff) :
  Wk P X N (.tr O (⟨dst,op,ty,pos,af,some g⟩ :: l) es :: k) st Q=if dstOk st.n dst=true then (if wantedA O st ⟨dst,op,ty,pos,af,some g⟩=some true then Wt P X N k Q O (opE P X st.d st.ev st.h (st.d,dst.getD st.n) ⟨dst,op,ty,pos,af,some g⟩) dst st l es
   else if wantedA O st ⟨dst,op,ty,pos,af,some g⟩=some false then Wk P X N (.tr O l (es ++ [{ v:=.d (.s undef) }]) :: k) (st.put dst { v:=.d (.s undef) }) Q else False) else False:=by
 unfold Wk Wt; rw [execK,runTr,stepE]
 by_cases hd:dstOk st.n dst=true
 ·rw [if_pos hd,if_pos hd]
  cases hw:wantedA O st ⟨dst,op,ty,pos,af,some g⟩ with
  | none=>simp
  | some t =>
   cases t with
   | true =>
    simp only [if_true]
    cases he:chkE st (opE P X st.d st.ev st.h (st.d,dst.getD st.n) ⟨dst,op,ty,pos,af,some g⟩) with
    | none=>simp
    | some e =>
     simp only [Wk,execK]
     cases hr:runTr P X O l (st.put dst e) with
     | none=>simp [hr]
     | some p=>obtain ⟨s,es'⟩:=p; simp [hr]
   | false =>
    simp only [Wk,execK]
    cases hr:runTr P X O l (st.put dst { v:=.d (.s undef) }) with
    | none=>simp [hr]
    | some p=>obtain ⟨s,es'⟩:=p; simp [hr]
 ·rw [if_neg hd,if_neg hd]; simp
end
def bodyQ (P:Program) (fn:Func) (d:Nat) (h:Id→O) (r:R × (Id→O)) (x:Ex) (st:St):Prop :=
 (x = .normal ∨ x = .ret)∧bodyR P fn d h st=some r
theorem bodyQ_ret (P:Program) (fn:Func) (d:Nat) (h:Id→O) (r:R × (Id→O)) (st:St):bodyQ P fn d h r .ret st=(bodyR P fn d h st=some r):=by simp [bodyQ]
theorem bodyQ_normal (P:Program) (fn:Func) (d:Nat) (h:Id→O) (r:R × (Id→O)) (st:St):bodyQ P fn d h r .normal st=(bodyR P fn d h st=some r):=by simp [bodyQ]
theorem exec_of {P:Program} {X:Orc} {n:Nat} {c:Code} {st:St} {Q:Ex→St→Prop} (h:Wk P X n [.code c] st Q):∃ x s,exec P X n c st=some (x,s)∧Q x s:=by
 obtain ⟨x,s,h1,h2⟩:=h
 refine ⟨x,s,?_,h2⟩
 unfold execK at h1
 cases he:exec P X n c st with
 | none=>rw [he] at h1; cases h1
 | some p =>
  obtain ⟨y,s'⟩:=p
  rw [he] at h1
  cases y <;> simp only [execK,unwK] at h1 <;> exact h1
theorem bx_body {P:Program} {X:Orc} {n:Nat} {f:FuncId} {fn:Func} {c:Code} {d:Nat} {h:Id→O} {az:List A} {r:R × (Id→O)} (hf:P.funcs[f]? = some fn) (hc:fn.body=some c) (hl:az.length ≤ fn.ntmps) (hn:fn.name ≠ "runtime.NumGoroutine")
  (hw:Wk P X n [.code c] (initSt fn d h az) (bodyQ P fn d h r)):Bx P X n f d h az r:=by
 obtain ⟨x,s,h1,h2⟩:=exec_of hw
 exact ⟨fn,c,hf,hc,hl,hn,wx_of c _ h1 h2⟩
def bodyE (P:Program) (fn:Func) (d:Nat) (h:Id→O) (T:R→(Id→O)→Prop) (x:Ex) (st:St):Prop:=∃ r h',bodyQ P fn d h (r,h') x st∧T r h'
theorem bx_bodyE {P:Program} {X:Orc} {n:Nat} {f:FuncId} {fn:Func} {c:Code} {d:Nat} {h:Id→O} {az:List A} {T:R→(Id→O)→Prop} (hf:P.funcs[f]? = some fn) (hc:fn.body=some c) (hl:az.length ≤ fn.ntmps) (hn:fn.name ≠ "runtime.NumGoroutine")
  (hw:Wk P X n [.code c] (initSt fn d h az) (bodyE P fn d h T)):∃ r h',Bx P X n f d h az (r,h')∧T r h':=by
 obtain ⟨x,s,h1,r,h',h2,h3⟩:=exec_of hw
 exact ⟨r,h',⟨fn,c,hf,hc,hl,hn,wx_of c _ h1 h2⟩,h3⟩
theorem bodyE_ret (P:Program) (fn:Func) (d:Nat) (h:Id→O) (T:R→(Id→O)→Prop) (st:St):bodyE P fn d h T .ret st = ∃ r h',(bodyR P fn d h st=some (r,h'))∧T r h':=by simp [bodyE,bodyQ]
theorem bodyE_normal (P:Program) (fn:Func) (d:Nat) (h:Id→O) (T:R→(Id→O)→Prop) (st:St):bodyE P fn d h T .normal st = ∃ r h',(bodyR P fn d h st=some (r,h'))∧T r h':=by simp [bodyE,bodyQ]
theorem upd_at {κ α:Type} [DecidableEq κ] (T:κ→α) (i j:κ) (v:α):upd T i v j=if j=i then v else T j:=rfl
theorem pureRun_bind {P:Program} {α β:Type} (e:Sem α) (f:α→Sem β):pureRun P (e >>= f)=(pureRun P e).bind fun a=>pureRun P (f a):=pureRun_bind0 e f
theorem pureRun_pure {P:Program} {α:Type} (a:α):pureRun P (pure a:Sem α)=some a:=rfl
theorem upd_upd {κ α:Type} [DecidableEq κ] (T:κ→α) (i:κ) (v u:α):upd (upd T i v) i u=upd T i u:=by
 funext j; unfold upd; split <;> rfl
theorem cut_self (d:Nat) (h:Id→O):cut d h h=h:=by funext i; unfold cut; split <;> rfl
theorem cut_deep (d j:Nat) (h g:Id→O) (o:O):cut d h (upd g (d,j) o)=cut d h g:=by
 funext i; unfold cut upd
 split
 ·rename_i hi
  rw [if_neg (by rintro rfl; exact absurd hi (Nat.lt_irrefl _))]
 ·rfl
theorem cut_low {d:Nat} {i:Id} (hi:i.1 < d) (h g:Id→O) (o:O):cut d h (upd g i o)=upd (cut d h g) i o:=by
 funext j
 by_cases hj:j.1 < d
 ·simp [cut,upd,hj]
 ·by_cases e:j=i
  ·subst e; exact absurd hi hj
  ·simp [cut,upd,hj,e]
theorem id_ne {d j:Nat} {i:Id} (hi:i.1 < d):((d,j)=i)=False:=by
 apply propext; exact ⟨by rintro rfl; exact absurd hi (Nat.lt_irrefl _),False.elim⟩
theorem id_ne' {d j:Nat} {i:Id} (hi:i.1 < d):(i=(d,j))=False:=by
 apply propext; exact ⟨by rintro rfl; exact absurd hi (Nat.lt_irrefl _),False.elim⟩
def callV (o:Option (R × (Id→O))) (h:Id→O) (id:Id) (ids:List Id):Option Eff :=
 match o with
 | some (r,_)=>some { v:=(backE (h id).ver id r).1,rd:=id :: ids,wr:=frz h ids ++ (backE (h id).ver id r).2 }
 | none=>none
def callG (o:Option (R × (Id→O))) (h h1:Id→O) (F:List Id) (id:Id) (fz:List (Id × O)) (ids l:List Id):Option Eff :=
 match o with
 | some (r,h')=>some (backG h (unmaskH h1 h' F l) id fz ids l r)
 | none=>none
theorem callE_eq (X:Orc) (d:Nat) (h:Id→O) (id:Id) (f:FuncId) (args:List A):callE X d h id f args =
  match argAs h args with
  | none=>none
  | some (az,ids)=>if az.all A.plain then callV (X f 0 (fun _=>.no 0) az) h id ids else if closedIn (upds h (frz h ids)) (refIds (upds h (frz h ids)) 3 (idsL az)) then callG (X f (d + 1) (canE (upds h (frz h ids)) (refIds (upds h (frz h ids)) 3 (idsL az)) (reachIds (upds h (frz h ids)) 3 (idsL az))) az) h (upds h (frz h ids)) (refIds (upds h (frz h ids)) 3 (idsL az)) id (frz h ids) ids (reachIds (upds h (frz h ids)) 3 (idsL az)) else none:=by
 unfold callE callV callG
 cases argAs h args with
 | none=>rfl
 | some p =>
  obtain ⟨az,ids⟩:=p
  simp only
  split
  ·cases X f 0 (fun _=>.no 0) az <;> rfl
  ·split
   ·cases X f (d + 1) (canE (upds h (frz h ids)) (refIds (upds h (frz h ids)) 3 (idsL az)) (reachIds (upds h (frz h ids)) 3 (idsL az))) az <;> rfl
   ·rfl
theorem callV_some (r:R) (k h:Id→O) (id:Id) (ids:List Id):callV (some (r,k)) h id ids=some { v:=(backE (h id).ver id r).1,rd:=id :: ids,wr:=frz h ids ++ (backE (h id).ver id r).2 }:=rfl
theorem callG_some (r:R) (h' h h1:Id→O) (F:List Id) (id:Id) (fz:List (Id × O)) (ids l:List Id):callG (some (r,h')) h h1 F id fz ids l=some (backG h (unmaskH h1 h' F l) id fz ids l r):=rfl
section
variable {P:Program} {X:Orc} {N:Nat} {k:List Itm} {st:St} {Q:Ex→St→Prop} {O:Array Oper} {l:List Oper}
end
end
section
mutual
def Dk (P:Program) (X:Orc) (N:Nat):List Itm→St→(Ex→St→Prop)→Prop
 | [],st,Q=>Q .normal st
 | .code c :: k,st,Q=>Wx P X N c st fun x s=>match x with | .normal=>Dk P X N k s Q | x=>Du P X N x k s Q
 | .blk _ :: k,st,Q=>Dk P X N k st Q
 | .scp :: k,st,Q=>Dk P X N k st Q
 | .ops O l :: k,st,Q=>WOps P X O l st fun s=>Dk P X N k s Q
 | .tr O l es :: k,st,Q=>∃ s es',runTr P X O l st=some (s,es')∧raceFree O (es ++ es')=true∧Dk P X N k s Q
def Du (P:Program) (X:Orc) (N:Nat) (x:Ex):List Itm→St→(Ex→St→Prop)→Prop
 | [],st,Q=>Q x st
 | .blk j :: k,st,Q=>if x = .exit j then Dk P X N k st Q else Du P X N x k st Q
 | .scp :: k,st,Q=>match x with | .goto _=>False | x=>Du P X N x k st Q
 | .code _ :: k,st,Q=>Du P X N x k st Q
 | .ops _ _ :: k,st,Q=>Du P X N x k st Q
 | .tr _ _ _ :: k,st,Q=>Du P X N x k st Q
end
section
variable (P:Program) (X:Orc) (N:Nat) (k:List Itm) (st:St) (Q:Ex→St→Prop) (a b:Code) (O:Array Oper) (l:List Oper)
theorem Dk_nil:Dk P X N [] st Q=Q .normal st:=by unfold Dk; rfl
theorem Du_nil (x:Ex):Du P X N x [] st Q=Q x st:=by unfold Du; rfl
theorem Dk_code (c:Code):Dk P X N (.code c :: k) st Q=Wx P X N c st fun x s=>match x with | .normal=>Dk P X N k s Q | x=>Du P X N x k s Q:=by rw [Dk]
end
theorem bx_bodyD {P:Program} {X:Orc} {n:Nat} {f:FuncId} {fn:Func} {c:Code} {d:Nat} {h:Id→O} {az:List A} {r:R × (Id→O)} (hf:P.funcs[f]? = some fn) (hc:fn.body=some c) (hl:az.length ≤ fn.ntmps) (hn:fn.name ≠ "runtime.NumGoroutine")
  (hw:Dk P X n [.code c] (initSt fn d h az) (bodyQ P fn d h r)):Bx P X n f d h az r:=by
 refine ⟨fn,c,hf,hc,hl,hn,?_⟩
 rw [Dk_code] at hw
 refine Wx_mono c (fun x s q=>?_) hw
 cases x <;> simpa [Dk_nil,Du_nil,bodyQ] using q
end
section
theorem exact_congr {P:Program} {ev ev':Operand→A} {o:Oper} (hs:∀ cs b,o.op ≠ .select cs b) (h:∀ x ∈ o.op.operands,ev x=ev' x):exactE P ev o=exactE P ev' o:=by
 unfold exactE exactOp
 have e1:(o.op.operands.all fun x=>(ev x).exact.isSome)=(o.op.operands.all fun x=>(ev' x).exact.isSome):=by
  rw [← Array.all_toList,← Array.all_toList]
  have:∀ l:List Operand,(∀ x ∈ l,ev x=ev' x)→(l.all fun x=>(ev x).exact.isSome)=l.all fun x=>(ev' x).exact.isSome:=by
   intro l
   induction l with
   | nil=>intro _; rfl
   | cons a l ih =>
    intro hl
    rw [List.all_cons,List.all_cons,hl a List.mem_cons_self,ih fun x hx=>hl x (List.mem_cons_of_mem _ hx)]
  exact this _ fun x hx=>h x (by simpa using hx)
 have e2:execOp (fun x=>((ev x).exact).getD undef) o=execOp (fun x=>((ev' x).exact).getD undef) o:=execOp_congr o hs fun x hx=>by show ((ev x).exact).getD undef=_; rw [h x hx]
 rw [e1,e2]
theorem map_congr_mem {α β:Type} {f g:α→β}:∀ {l:List α},(∀ x ∈ l,f x=g x)→l.map f=l.map g
 | [],_=>rfl
 | a :: l,h=>by rw [List.map_cons,List.map_cons,h a List.mem_cons_self,map_congr_mem fun x hx=>h x (List.mem_cons_of_mem _ hx)]
theorem pairs_congr {ev ev':Operand→A} {l:List (Nat × Operand)} (h:∀ p ∈ l,ev p.2=ev' p.2):(l.map fun p=>(p.1,ev p.2))=l.map fun p=>(p.1,ev' p.2):=map_congr_mem fun p hp=>by rw [h p hp]
theorem op_congr {P:Program} {X:Orc} {d:Nat} {ev ev':Operand→A} {h:Id→O} {id:Id} {o:Oper} (he:∀ x ∈ o.op.operands,ev x=ev' x):opE P X d ev h id o=opE P X d ev' h id o:=by
 by_cases hs:∃ cs b,o.op = .select cs b
 ·obtain ⟨cs,b,hs⟩:=hs
  unfold opE
  rw [hs]
 have hex:=exact_congr (P:=P) (o:=o) (fun cs b e=>hs ⟨cs,b,e⟩) he
 obtain ⟨dst,op,ty,pos,after,guard⟩:=o
 unfold opE
 have hex':exactE P ev ⟨dst,op,ty,pos,after,guard⟩=exactE P ev' ⟨dst,op,ty,pos,after,guard⟩:=hex
 cases op <;> simp only [Op.operands,Call.operands] at he <;> simp only [hex']
 case build t ps=>rw [pairs_congr fun p hp=>he p.2 (by simp only [List.mem_toArray,List.mem_map]; exact ⟨p,hp,rfl⟩)]
 case buildSlice t n ps=>rw [pairs_congr fun p hp=>he p.2 (by simp only [List.mem_toArray,List.mem_map]; exact ⟨p,hp,rfl⟩)]
 case makeFunc fn a b=>rw [map_congr_mem (l:=b.toList) fun x hx=>he x (by simp only [Array.mem_append]; exact Or.inr (by simpa using hx))]
 case slice t x lo hi mx =>
  have hx:ev x=ev' x:=he x (by simp)
  have hl:lo.map ev=lo.map ev':=by cases lo with | none=>rfl | some y=>exact congrArg some (he y (by simp))
  have hh:hi.map ev=hi.map ev':=by cases hi with | none=>rfl | some y=>exact congrArg some (he y (by simp))
  have hm:mx.map ev=mx.map ev':=by cases mx with | none=>rfl | some y=>exact congrArg some (he y (by simp))
  rw [hx,hl,hh,hm]
 case call c =>
  obtain ⟨callee,args,ats⟩:=c
  have ha:∀ x ∈ args.toList,ev x=ev' x:=fun x hx=>he x (by
   cases callee <;> simp only [Call.operands,Array.mem_append] <;> first | exact Or.inr (by simpa using hx) | exact Or.inl (by simpa using hx) | (simpa using hx))
  have hm:args.toList.map ev=args.toList.map ev':=map_congr_mem ha
  cases callee with
  | builtin b =>
   cases b <;> simp only [hm]
   case append =>
    split
    ·rename_i s x t t' e1 e2
     have h1:=ha s (by simp [e1])
     have h2:=ha x (by simp [e1])
     rw [h1,h2]
    ·rfl
   case len =>
    split
    ·rename_i x t e1 e2
     have h1:=ha x (by simp [e1])
     rw [h1]
    ·rfl
  | value x =>
   have hx:ev x=ev' x:=he x (by simp [Call.operands])
   cases x <;> simp only [hm,hx]
  | invoke r m=>rfl
 all_goals first
  | rfl
  | (simp only [List.mem_toArray,List.mem_cons,List.not_mem_nil,or_false,forall_eq_or_imp,forall_eq] at he; simp only [he])
  | (simp at he; simp only [he])
end
end Go.Proofs.YtenoggjjhamdaaaGreatDoor
namespace Go.Proofs.YtenoggjjhamdaaaGreatDoor.Dm
open Go Go.RowKit
section
noncomputable def iQ (a b:Id):Bool:=Bool.rec false (Nat.beq a.1 b.1) (Nat.beq a.2 b.2)
theorem iQ_iff {a b:Id}:iQ a b=true ↔ a=b:=by
 obtain ⟨a1,a2⟩:=a
 obtain ⟨b1,b2⟩:=b
 unfold iQ
 cases h2:Nat.beq a2 b2
 ·simp only [Prod.mk.injEq]
  constructor
  ·intro h; cases h
  ·rintro ⟨-,e⟩
   rw [e,Nat.beq_refl] at h2; cases h2
 ·have:=Nat.eq_of_beq_eq_true h2
  subst this
  simp only [Prod.mk.injEq,and_true]
  exact ⟨fun h=>Nat.eq_of_beq_eq_true h,fun h=>by rw [h]; exact Nat.beq_refl _⟩
noncomputable def look (l:List (Id × O)) (T:Id→O) (i:Id):O:=List.rec (T i) (fun p _ ih=>Bool.rec ih p.2 (iQ i p.1)) l
theorem look_cons (p:Id × O) (l:List (Id × O)) (T:Id→O) (i:Id):look (p :: l) T i=if i=p.1 then p.2 else look l T i:=by
 have hs:look (p :: l) T i=(Bool.rec (look l T i) p.2 (iQ i p.1):O):=rfl
 rw [hs]
 by_cases h:i=p.1
 ·rw [if_pos h,iQ_iff.2 h]
 ·rw [if_neg h]
  cases h2:iQ i p.1
  ·rfl
  ·exact (h (iQ_iff.1 h2)).elim
noncomputable def insA (l:List (Id × O)) (i:Id) (v:O):List (Id × O):=List.rec [(i,v)] (fun p l ih=>Bool.rec (p :: ih) ((i,v) :: l) (iQ i p.1)) l
noncomputable def inssA (l m:List (Id × O)):List (Id × O):=List.rec (motive:=fun _=>List (Id × O)→List (Id × O)) (fun l=>l) (fun p _ ih l=>ih (insA l p.1 p.2)) m l
theorem look_insA (T:Id→O) (i:Id) (v:O):∀ l:List (Id × O),look (insA l i v) T=upd (look l T) i v
 | []=>by
  funext k
  show look [(i,v)] T k=_
  rw [look_cons]
  rfl
 | p :: l=>by
  funext k
  have hs:insA (p :: l) i v=(Bool.rec (p :: insA l i v) ((i,v) :: l) (iQ i p.1):List (Id × O)):=rfl
  rw [hs]
  cases h:iQ i p.1
  ·have hn:i ≠ p.1:=fun e=>by rw [iQ_iff.2 e] at h; cases h
   show look (p :: insA l i v) T k=_
   have ih:=congrFun (look_insA T i v l) k
   simp only [upd] at ih ⊢
   rw [look_cons,look_cons,ih]
   by_cases hk:k=p.1
   ·rw [if_pos hk,if_pos hk,if_neg (fun e=>hn (e.symm.trans hk))]
   ·rw [if_neg hk,if_neg hk]
  ·have he:=iQ_iff.1 h
   show look ((i,v) :: l) T k=_
   simp only [upd]
   rw [look_cons,look_cons,he]
   simp only
   split <;> rfl
theorem look_inssA (T:Id→O):∀ (m l:List (Id × O)),look (inssA l m) T=upds (look l T) m
 | [],l=>rfl
 | p :: m,l=>by
  show look (inssA (insA l p.1 p.2) m) T=upds (upd (look l T) p.1 p.2) m
  rw [look_inssA T m,look_insA]
inductive Tr where
 | e
 | n0 (l r:Tr)
 | n1 (a:A) (l r:Tr)
noncomputable def getT (t:Tr) (k:Nat) (x:A):A:=Tr.rec (motive:=fun _=>Nat→A) (fun _=>x) (fun _ _ il ir k=>Bool.rec (Bool.rec (ir (Nat.div k (nat_lit 2))) (il (Nat.div k (nat_lit 2))) (Nat.beq (Nat.mod k (nat_lit 2)) (nat_lit 0))) x (Nat.beq k (nat_lit 1))) (fun a _ _ il ir k=>Bool.rec (Bool.rec (ir (Nat.div k (nat_lit 2))) (il (Nat.div k (nat_lit 2))) (Nat.beq (Nat.mod k (nat_lit 2)) (nat_lit 0))) a (Nat.beq k (nat_lit 1))) t k
noncomputable def oneT (v:A) (n k:Nat):Tr:=Nat.rec (motive:=fun _=>Nat→Tr) (fun _=>.n1 v .e .e) (fun _ ih k=>Bool.rec (Bool.rec (.n0 .e (ih (Nat.div k (nat_lit 2)))) (.n0 (ih (Nat.div k (nat_lit 2))) .e) (Nat.beq (Nat.mod k (nat_lit 2)) (nat_lit 0))) (.n1 v .e .e) (Nat.beq k (nat_lit 1))) n k
noncomputable def insT (t:Tr) (k:Nat) (v:A):Tr:=Tr.rec (motive:=fun _=>Nat→Tr) (fun k=>oneT v k k) (fun l r il ir k=>Bool.rec (Bool.rec (.n0 l (ir (Nat.div k (nat_lit 2)))) (.n0 (il (Nat.div k (nat_lit 2))) r) (Nat.beq (Nat.mod k (nat_lit 2)) (nat_lit 0))) (.n1 v l r) (Nat.beq k (nat_lit 1))) (fun a l r il ir k=>Bool.rec (Bool.rec (.n1 a l (ir (Nat.div k (nat_lit 2)))) (.n1 a (il (Nat.div k (nat_lit 2))) r) (Nat.beq (Nat.mod k (nat_lit 2)) (nat_lit 0))) (.n1 v l r) (Nat.beq k (nat_lit 1))) t k
theorem brec {α:Type} {c:Prop} [Decidable c] {b:Bool} (h:b=true ↔ c) (x y:α):(Bool.rec y x b:α)=if c then x else y:=by
 by_cases hc:c
 ·rw [h.2 hc,if_pos hc]
 ·cases b
  ·rw [if_neg hc]
  ·exact (hc (h.1 rfl)).elim
theorem beq_iff {a b:Nat}:Nat.beq a b=true ↔ a=b:=⟨Nat.eq_of_beq_eq_true,fun h=>by rw [h]; exact Nat.beq_refl _⟩
theorem getT_n0 (l r:Tr) (k:Nat) (x:A):getT (.n0 l r) k x=if k=1 then x else if k % 2=0 then getT l (k / 2) x else getT r (k / 2) x:=by
 show (Bool.rec (Bool.rec (getT r (k / 2) x) (getT l (k / 2) x) (Nat.beq (k % 2) 0)) x (Nat.beq k 1):A)=_
 rw [brec beq_iff,brec beq_iff]
theorem getT_n1 (a:A) (l r:Tr) (k:Nat) (x:A):getT (.n1 a l r) k x=if k=1 then a else if k % 2=0 then getT l (k / 2) x else getT r (k / 2) x:=by
 show (Bool.rec (Bool.rec (getT r (k / 2) x) (getT l (k / 2) x) (Nat.beq (k % 2) 0)) a (Nat.beq k 1):A)=_
 rw [brec beq_iff,brec beq_iff]
theorem insT_n0 (l r:Tr) (k:Nat) (v:A):insT (.n0 l r) k v=if k=1 then .n1 v l r else if k % 2=0 then .n0 (insT l (k / 2) v) r else .n0 l (insT r (k / 2) v):=by
 show (Bool.rec (Bool.rec (.n0 l (insT r (k / 2) v)) (.n0 (insT l (k / 2) v) r) (Nat.beq (k % 2) 0)) (.n1 v l r) (Nat.beq k 1):Tr)=_
 rw [brec beq_iff,brec beq_iff]
theorem insT_n1 (a:A) (l r:Tr) (k:Nat) (v:A):insT (.n1 a l r) k v=if k=1 then .n1 v l r else if k % 2=0 then .n1 a (insT l (k / 2) v) r else .n1 a l (insT r (k / 2) v):=by
 show (Bool.rec (Bool.rec (.n1 a l (insT r (k / 2) v)) (.n1 a (insT l (k / 2) v) r) (Nat.beq (k % 2) 0)) (.n1 v l r) (Nat.beq k 1):Tr)=_
 rw [brec beq_iff,brec beq_iff]
theorem oneT_succ (v:A) (n k:Nat):oneT v (n + 1) k=if k=1 then .n1 v .e .e else if k % 2=0 then .n0 (oneT v n (k / 2)) .e else .n0 .e (oneT v n (k / 2)):=by
 show (Bool.rec (Bool.rec (.n0 .e (oneT v n (k / 2))) (.n0 (oneT v n (k / 2)) .e) (Nat.beq (k % 2) 0)) (.n1 v .e .e) (Nat.beq k 1):Tr)=_
 rw [brec beq_iff,brec beq_iff]
theorem getT_e (k:Nat) (x:A):getT .e k x=x:=rfl
theorem getT_oneT (v x:A):∀ (n k k':Nat),1 ≤ k→1 ≤ k'→k ≤ n→getT (oneT v n k) k' x=if k' = k then v else x
 | 0,k,k',hk,_,hn=>by omega
 | n + 1,k,k',hk,hk',hn=>by
  rw [oneT_succ]
  split
  ·rename_i h
   subst h
   rw [getT_n1]
   simp only [getT_e,ite_self]
  ·rename_i h1
   split
   ·rename_i h2
    rw [getT_n0,getT_e]
    split
    ·rename_i h3
     rw [if_neg (by omega)]
    ·rename_i h3
     split
     ·rename_i h4
      rw [getT_oneT v x n (k / 2) (k' / 2) (by omega) (by omega) (by omega)]
      by_cases e:k' = k
      ·rw [if_pos e,if_pos (by omega)]
      ·rw [if_neg e,if_neg (by omega)]
     ·rw [if_neg (by omega)]
   ·rename_i h2
    rw [getT_n0,getT_e]
    split
    ·rename_i h3
     rw [if_neg (by omega)]
    ·rename_i h3
     split
     ·rw [if_neg (by omega)]
     ·rename_i h4
      rw [getT_oneT v x n (k / 2) (k' / 2) (by omega) (by omega) (by omega)]
      by_cases e:k' = k
      ·rw [if_pos e,if_pos (by omega)]
      ·rw [if_neg e,if_neg (by omega)]
theorem getT_insT (v x:A):∀ (t:Tr) (k k':Nat),1 ≤ k→1 ≤ k'→getT (insT t k v) k' x=if k' = k then v else getT t k' x
 | .e,k,k',hk,hk'=>getT_oneT v x k k k' hk hk' (Nat.le_refl _)
 | .n0 l r,k,k',hk,hk'=>by
  rw [insT_n0,getT_n0]
  split
  ·rename_i h
   subst h
   rw [getT_n1]
   split <;> rfl
  ·rename_i h1
   split
   ·rename_i h2
    rw [getT_n0]
    by_cases h3:k' = 1
    ·rw [if_pos h3,if_pos h3,if_neg (by omega)]
    ·rw [if_neg h3,if_neg h3]
     by_cases h4:k' % 2=0
     ·rw [if_pos h4,if_pos h4,getT_insT v x l (k / 2) (k' / 2) (by omega) (by omega)]
      by_cases e:k' = k
      ·rw [if_pos e,if_pos (by omega)]
      ·rw [if_neg e,if_neg (by omega)]
     ·rw [if_neg h4,if_neg h4,if_neg (by omega)]
   ·rename_i h2
    rw [getT_n0]
    by_cases h3:k' = 1
    ·rw [if_pos h3,if_pos h3,if_neg (by omega)]
    ·rw [if_neg h3,if_neg h3]
     by_cases h4:k' % 2=0
     ·rw [if_pos h4,if_pos h4,if_neg (by omega)]
     ·rw [if_neg h4,if_neg h4,getT_insT v x r (k / 2) (k' / 2) (by omega) (by omega)]
      by_cases e:k' = k
      ·rw [if_pos e,if_pos (by omega)]
      ·rw [if_neg e,if_neg (by omega)]
 | .n1 a l r,k,k',hk,hk'=>by
  rw [insT_n1,getT_n1]
  split
  ·rename_i h
   subst h
   rw [getT_n1]
   split <;> rfl
  ·rename_i h1
   split
   ·rename_i h2
    rw [getT_n1]
    by_cases h3:k' = 1
    ·rw [if_pos h3,if_pos h3,if_neg (by omega)]
    ·rw [if_neg h3,if_neg h3]
     by_cases h4:k' % 2=0
     ·rw [if_pos h4,if_pos h4,getT_insT v x l (k / 2) (k' / 2) (by omega) (by omega)]
      by_cases e:k' = k
      ·rw [if_pos e,if_pos (by omega)]
      ·rw [if_neg e,if_neg (by omega)]
     ·rw [if_neg h4,if_neg h4,if_neg (by omega)]
   ·rename_i h2
    rw [getT_n1]
    by_cases h3:k' = 1
    ·rw [if_pos h3,if_pos h3,if_neg (by omega)]
    ·rw [if_neg h3,if_neg h3]
     by_cases h4:k' % 2=0
     ·rw [if_pos h4,if_pos h4,if_neg (by omega)]
     ·rw [if_neg h4,if_neg h4,getT_insT v x r (k / 2) (k' / 2) (by omega) (by omega)]
      by_cases e:k' = k
      ·rw [if_pos e,if_pos (by omega)]
      ·rw [if_neg e,if_neg (by omega)]
structure Fs where
 ts:Tr
 hs:List (Id × O)
 u:Nat
noncomputable def lookT (t:Tr) (T:Nat→A) (i:Nat):A:=getT t (Nat.succ i) (T i)
theorem lookT_insT (T:Nat→A) (t:Tr) (i:Nat) (v:A):lookT (insT t (Nat.succ i) v) T=upd (lookT t T) i v:=by
 funext k
 unfold lookT
 rw [getT_insT v _ t _ _ (by omega) (by omega)]
 simp only [upd,Nat.succ.injEq]
noncomputable def toSt (b:St) (f:Fs):St:={ b with t:=lookT f.ts b.t,h:=look f.hs b.h }
noncomputable def fput (f:Fs) (dst:Option Tmp) (e:Eff):Fs:=⟨match dst with | some d=>insT f.ts (Nat.succ d) e.v | none=>f.ts,inssA f.hs e.wr,f.u⟩
theorem toSt_put (b:St) (f:Fs) (dst:Option Tmp) (e:Eff):toSt b (fput f dst e)=(toSt b f).put dst e:=by
 unfold toSt fput St.put Eff.out
 cases dst with
 | none=>simp only [look_inssA]
 | some d=>simp only [look_inssA]; rw [lookT_insT]
end
section
def kAppend (P:Program) (ev:Operand→A) (h:Id→O) (id:Id) (c:Call):Option Eff:=match c.args.toList,c.argTypes.toList with | [s,x],[t,t']=>if okSrc P t' then appendE P h id t (ev s) (ev x) else none | _,_=>none
def kLen (P:Program) (ev:Operand→A) (h:Id→O) (o:Oper) (c:Call):Option Eff:=match c.args.toList,c.argTypes.toList with | [x],[t]=>(match (ev x).exact with | some _=>exactE P ev o | none=>if (telem P t).isSome then (lenE (ev x)).map fun (n:Nat)=>{ v:=.d (.s (.int .i64 (n:Int))) } else lenMapE P h t (ev x)) | _,_=>none
def kClo (X:Orc) (d:Nat) (ev:Operand→A) (h:Id→O) (id:Id) (c:Call) (x:Operand):Option Eff:=match ev x with | .clo f caps=>callE X d h id f (c.args.toList.map ev ++ caps) | _=>none
def kMove (ev:Operand→A) (x:Operand):Option Eff:=some { v:=ev x }
def kAssign (ev:Operand→A) (x:Operand):Option Eff:=some { v:=ev x }
def kPick (ev:Operand→A) (c a b:Operand):Option Eff:=if (ev c).bool? = some true then some { v:=ev a } else if (ev c).bool? = some false then some { v:=ev b } else none
def kAlloc (P:Program) (h:Id→O) (id:Id) (t:TypeId):Option Eff:=(tzero P t).map fun z=>{ v:=.bp id ((h id).ver + 1) 0,rd:=[id],wr:=[(id,.box ((h id).ver + 1) (z.cells.toList.map ofCell))] }
def kBox (P:Program) (ev:Operand→A) (h:Id→O) (id:Id) (t:TypeId) (x:Operand):Option Eff:=if tsize P t=some (ev x).cells.length∧(ev x).cells.all A.one then some { v:=.bp id ((h id).ver + 1) 0,rd:=[id],wr:=[(id,.box ((h id).ver + 1) (ev x).cells)] } else none
def kBuild (P:Program) (ev:Operand→A) (t:TypeId) (parts:Array (Nat × Operand)):Option Eff:=plainE (buildE P t (parts.toList.map fun p=>(p.1,ev p.2)))
def kBuildSlice (P:Program) (ev:Operand→A) (h:Id→O) (id:Id) (t:TypeId) (len:Nat) (parts:Array (Nat × Operand)):Option Eff:=buildSliceE P h id t len (parts.toList.map fun p=>(p.1,ev p.2))
def kInsert (P:Program) (ev:Operand→A) (h:Id→O) (t:TypeId) (m k x:Operand):Option Eff:=mapPutE P h t (ev m) (ev k) (ev x)
def kLoad (P:Program) (ev:Operand→A) (h:Id→O) (t:TypeId) (a:Operand):Option Eff:=loadE P h t (ev a)
def kStore (P:Program) (ev:Operand→A) (h:Id→O) (t:TypeId) (a x:Operand):Option Eff:=storeE P h t (ev a) (ev x)
def kNilCheck (P:Program) (ev:Operand→A) (o:Oper) (x:Operand):Option Eff:=if (ev x).here then some { v:=ev x } else exactE P ev o
def kBinOp (P:Program) (ev:Operand→A) (o:Oper) (op:BinOp) (t:TypeId) (x y:Operand) (yt:TypeId):Option Eff:=if (ev x).isIfc then (match ifcNilE P op t (ev y) with | some e=>some e | none=>exactE P ev o) else exactE P ev o
def kConvert (P:Program) (ev:Operand→A) (h:Id→O) (id:Id) (o:Oper) (src dst:TypeId) (x:Operand):Option Eff:=match exactE P ev o with | some e=>some e | none=>convertE P h id src dst (ev x)
def kMakeInterface (P:Program) (ev:Operand→A) (h:Id→O) (t:TypeId) (x:Operand):Option Eff:=mkIfcE P h t (ev x)
def kMakeFunc (ev:Operand→A) (fn:Fn) (first captured:Array Operand):Option Eff:=match fn with | .func f=>if first.isEmpty then some { v:=.clo f (captured.toList.map ev) } else none | _=>none
def kMakeMap (h:Id→O) (id:Id) (t:TypeId) (r:Option Operand):Option Eff:=if r.isNone then some { v:=.mp id ((h id).ver + 1),rd:=[id],wr:=[(id,.map ((h id).ver + 1) [] 0)] } else none
def kSlice (P:Program) (ev:Operand→A) (h:Id→O) (o:Oper) (t:TypeId) (x:Operand) (lo hi mx:Option Operand):Option Eff:=match (ev x).exact with | some _=>exactE P ev o | none=>sliceE P h t (ev x) (lo.map ev) (hi.map ev) (mx.map ev)
def kFieldAddr (P:Program) (ev:Operand→A) (s:TypeId) (x:Operand) (f:Nat):Option Eff:=fieldAddrE P s (ev x) f
def kField (P:Program) (ev:Operand→A) (s:TypeId) (x:Operand) (f:Nat):Option Eff:=plainE (fieldE P s (ev x) f)
def kIndexAddr (P:Program) (ev:Operand→A) (h:Id→O) (t:TypeId) (x i:Operand):Option Eff:=indexAddrE P h t (ev x) (ev i)
def kIndex (P:Program) (ev:Operand→A) (o:Oper) (t:TypeId) (x i:Operand):Option Eff:=match (ev x).exact with | some _=>exactE P ev o | none=>plainE (indexE P t (ev x) (ev i))
def kLookup (P:Program) (ev:Operand→A) (h:Id→O) (o:Oper) (t:TypeId) (x k:Operand) (ok:Bool):Option Eff:=match ev x with | .mp _ _=>lookupE P h t (ev x) (ev k) ok | _=>exactE P ev o
def kMapUpdate (P:Program) (ev:Operand→A) (h:Id→O) (t:TypeId) (m k x:Operand):Option Eff:=mapPutE P h t (ev m) (ev k) (ev x)
def kRange (P:Program) (ev:Operand→A) (h:Id→O) (id:Id) (t:TypeId) (x:Operand):Option Eff:=rangeE P h id t (ev x)
def kNext (ev:Operand→A) (h:Id→O) (x:Operand) (str:Bool):Option Eff:=nextE h (ev x) str
def kEntry (ev:Operand→A) (h:Id→O) (x:Operand):Option Eff:=entryE h (ev x)
def kTypeAssert (P:Program) (ev:Operand→A) (h:Id→O) (o:Oper) (x:Operand) (xt t:TypeId) (ok:Bool):Option Eff:=match ev x with | .d (.ifc ty y)=>(match assertE P h ty y t ok with | some e=>some e | none=>exactE P ev o) | _=>exactE P ev o
def kExtract (ev:Operand→A) (t:Operand) (i:Nat):Option Eff:=match ev t with | .tup xs=>(xs[i]?).map fun v=>{ v } | _=>none
def kCall (P:Program) (X:Orc) (d:Nat) (ev:Operand→A) (h:Id→O) (id:Id) (o:Oper) (c:Call):Option Eff:=match c.callee with
  | .builtin .append=>kAppend P ev h id c
  | .builtin .len=>kLen P ev h o c
  | .builtin _=>exactE P ev o
  | .value (.func f)=>callE X d h id f (c.args.toList.map ev)
  | .value x=>kClo X d ev h id c x
  | _=>none
noncomputable def opK (P:Program) (X:Orc) (d:Nat) (ev:Operand→A) (h:Id→O) (id:Id) (o:Oper):Option Eff:=Op.rec (motive:=fun _=>Option Eff) (fun x=>kMove ev x) (fun x=>kAssign ev x) (fun c a b=>kPick ev c a b) (fun t=>kAlloc P h id t) (fun t x=>kBox P ev h id t x) (fun t parts=>kBuild P ev t parts) (fun t len parts=>kBuildSlice P ev h id t len parts) (fun t m k x=>kInsert P ev h t m k x) (fun t a=>kLoad P ev h t a) (fun t a x=>kStore P ev h t a x) (fun _=>exactE P ev o) (fun _=>exactE P ev o) (fun x=>kNilCheck P ev o x) (fun op t x y yt=>kBinOp P ev o op t x y yt) (fun _ _ _=>exactE P ev o) (fun src dst x=>kConvert P ev h id o src dst x) (fun _ _=>exactE P ev o) (fun t x=>kMakeInterface P ev h t x) (fun fn first captured=>kMakeFunc ev fn first captured) (fun t r=>kMakeMap h id t r) (fun _ _=>exactE P ev o) (fun _ _ _=>exactE P ev o) (fun t x lo hi mx=>kSlice P ev h o t x lo hi mx) (fun s x f=>kFieldAddr P ev s x f) (fun s x f=>kField P ev s x f) (fun t x i=>kIndexAddr P ev h t x i) (fun t x i=>kIndex P ev o t x i) (fun t x k ok=>kLookup P ev h o t x k ok) (fun t m k x=>kMapUpdate P ev h t m k x) (fun _ _ _=>exactE P ev o) (fun _ _ _ _=>exactE P ev o) (fun t x=>kRange P ev h id t x) (fun x str=>kNext ev h x str) (fun x=>kEntry ev h x) (fun x xt t ok=>kTypeAssert P ev h o x xt t ok) (fun t i=>kExtract ev t i) (fun c=>kCall P X d ev h id o c) (fun _=>exactE P ev o) (fun _=>exactE P ev o) (fun _=>exactE P ev o) (fun _ _=>exactE P ev o) (fun _ _ _=>exactE P ev o) (fun _ _=>none) o.op
theorem opK_eq (P:Program) (X:Orc) (d:Nat) (ev:Operand→A) (h:Id→O) (id:Id) (o:Oper):opK P X d ev h id o=opE P X d ev h id o:=by
 obtain ⟨dst,op,gu,af,ps⟩:=o
 cases op <;> rfl
noncomputable def evK (n:Nat) (t:Nat→A) (x:Operand):A:=Operand.rec (motive:=fun _=>A) (fun i=>Bool.rec (.d (.s undef)) (t i) (Nat.ble (Nat.succ i) n)) (fun v=>ofV v) (fun g=>.d (.s (.pointer (some ⟨g,0,none⟩)))) (fun f=>.clo f []) x
theorem ble_iff {a b:Nat}:Nat.ble a b=true ↔ a ≤ b:=⟨Nat.le_of_ble_eq_true,Nat.ble_eq_true_of_le⟩
theorem evK_eq (st:St):evK st.n st.t=st.ev:=by
 funext x
 cases x with
 | tmp i =>
  have hs:evK st.n st.t (.tmp i)=(Bool.rec (.d (.s undef)) (st.t i) (Nat.ble (Nat.succ i) st.n):A):=rfl
  rw [hs,brec ble_iff]
  rfl
 | _=>rfl
noncomputable def dstK (n:Nat) (d:Option Tmp):Bool:=Option.rec true (fun d=>Nat.ble (Nat.succ d) n) d
theorem dstK_eq (n:Nat) (d:Option Tmp):dstK n d=dstOk n d:=by
 cases d with
 | none=>rfl
 | some d =>
  have:Nat.ble (Nat.succ d) n=decide (d < n):=by
   rw [Bool.eq_iff_iff,ble_iff,decide_eq_true_eq]
   exact Iff.rfl
  exact this
noncomputable def okK (d:Nat) (al:List Id) (l:List (Id × O)):Bool:=List.rec true (fun p _ ih=>Bool.rec false ih (Bool.rec (al.contains p.1) true (Nat.beq p.1.1 d))) l
theorem okK_eq (d:Nat) (al:List Id):∀ l:List (Id × O),okK d al l=okW d al l
 | []=>rfl
 | p :: l=>by
  have hs:okK d al (p :: l)=(Bool.rec false (okK d al l) (Bool.rec (al.contains p.1) true (Nat.beq p.1.1 d)):Bool):=rfl
  rw [hs,okK_eq d al l]
  have hw:okW d al (p :: l)=((p.1.1 == d || al.contains p.1) && okW d al l):=rfl
  rw [hw]
  have h1:(p.1.1 == d)=Nat.beq p.1.1 d:=by rw [Bool.eq_iff_iff,beq_iff,beq_iff_eq]
  rw [h1]
  cases Nat.beq p.1.1 d <;> cases al.contains p.1 <;> rfl
noncomputable def chkK (b:St) (e:Option Eff):Option Eff:=Option.rec none (fun e=>Bool.rec none (some e) (okK b.d b.al e.wr)) e
noncomputable def goK (P:Program) (X:Orc) (b:St) (f:Fs) (o:Oper):Option Eff:=chkK b (opK P X b.d (evK b.n (lookT f.ts b.t)) (look f.hs b.h) (b.d,o.dst.getD b.n) o)
noncomputable def wantK (ops:Array Oper) (b:St) (f:Fs) (g:Nat × Bool):Option Bool :=
 match (ops[g.1]?).bind (·.dst) with
 | some d=>if d < b.n then (match lookT f.ts b.t d with | .d (.s (.bool c))=>some (c == g.2) | .d (.s (.tuple _))=>some false | _=>none) else none
 | none=>none
def skipK (e:Unit→Option Eff):Option Bool→Option Eff
 | some true=>e ()
 | some false=>some { v:=.d (.s undef) }
 | none=>none
noncomputable def stepK (P:Program) (X:Orc) (ops:Array Oper) (b:St) (f:Fs) (o:Oper):Option Eff:=Bool.rec none (Option.rec (goK P X b f o) (fun g=>skipK (fun _=>goK P X b f o) (wantK ops b f g)) o.guard) (dstK b.n o.dst)
theorem chkK_eq (b:St) (e:Option Eff):chkK b e=chkE b e:=by
 cases e with
 | none=>rfl
 | some e =>
  have hs:chkK b (some e)=(Bool.rec none (some e) (okK b.d b.al e.wr):Option Eff):=rfl
  have hc:chkE b (some e)=if okW b.d b.al e.wr=true then some e else none:=rfl
  rw [hs,hc,okK_eq]
  cases okW b.d b.al e.wr <;> rfl
theorem goK_eq (P:Program) (X:Orc) (b:St) (f:Fs) (o:Oper):goK P X b f o=chkE (toSt b f) (opE P X (toSt b f).d (toSt b f).ev (toSt b f).h ((toSt b f).d,o.dst.getD (toSt b f).n) o):=by
 unfold goK
 rw [chkK_eq,opK_eq]
 have:=evK_eq (toSt b f)
 rw [show evK b.n (lookT f.ts b.t)=(toSt b f).ev from this]
 rfl
theorem stepK_eq (P:Program) (X:Orc) (ops:Array Oper) (b:St) (f:Fs) (o:Oper):stepK P X ops b f o=stepE P X ops o (toSt b f):=by
 unfold stepK stepE
 rw [dstK_eq,goK_eq]
 have hn:(toSt b f).n=b.n:=rfl
 rw [hn]
 unfold wantedA
 cases dstOk b.n o.dst with
 | false=>rfl
 | true =>
  simp only [if_true]
  cases o.guard with
  | none=>rfl
  | some g =>
   obtain ⟨j,w⟩:=g
   show skipK _ (wantK ops b f (j,w))=(match wantK ops b f (j,w) with | some true=>chkE (toSt b f) (opE P X (toSt b f).d (toSt b f).ev (toSt b f).h ((toSt b f).d,o.dst.getD b.n) o) | some false=>some { v:=.d (.s undef) } | none=>none)
   cases wantK ops b f (j,w) with
   | none=>rfl
   | some c=>cases c <;> rfl
def noIn (u i:Nat):Bool:=Nat.beq (Nat.land (nat_lit 1) (Nat.shiftRight u i)) (nat_lit 0)
noncomputable def opIn (u:Nat) (x:Operand):Bool:=Operand.rec (motive:=fun _=>Bool) (fun i=>noIn u i) (fun _=>true) (fun _=>true) (fun _=>true) x
def guardIn (ops:Array Oper) (u:Nat) (g:Option (Nat × Bool)):Bool :=
 match g with
 | none=>true
 | some (j,_)=>match (ops[j]?).bind (·.dst) with | some d=>noIn u d | none=>true
noncomputable def operIn (ops:Array Oper) (u:Nat) (o:Oper):Bool:=o.op.operands.toList.all (opIn u) && guardIn ops u o.guard
def delU (u:Nat) (dst:Option Tmp):Nat:=match dst with | none=>u | some d=>Nat.xor u (Nat.shiftLeft (Nat.land (nat_lit 1) (Nat.shiftRight u d)) d)
noncomputable def safeR (ops:Array Oper):List Oper→Nat→Option Nat
 | [],u=>some u
 | o :: l,u=>if operIn ops u o=true then safeR ops l (delU u o.dst) else none
noncomputable def safeU (ops:Array Oper) (u:Nat):Option Nat:=Nat.rec (some (nat_lit 0)) (fun n _=>Option.rec none some (safeR ops ops.toList (Nat.succ n))) u
theorem noIn_bit (u i:Nat):noIn u i = !u.testBit i:=by
 have e1:noIn u i=Nat.beq (1 &&& (u >>> i)) 0:=rfl
 have e2:u.testBit i=((1 &&& (u >>> i)) != 0):=rfl
 rw [e1,e2]
 generalize (1 &&& (u >>> i))=x
 cases x <;> rfl
theorem noIn_zero (i:Nat):noIn 0 i=true:=by rw [noIn_bit]; simp
theorem operIn_nil (ops:Array Oper) (o:Oper):operIn ops 0 o=true:=by
 unfold operIn
 rw [Bool.and_eq_true]
 refine ⟨List.all_eq_true.2 fun x _=>by
  cases x with
  | tmp i=>exact noIn_zero i
  | _=>rfl,?_⟩
 unfold guardIn
 cases o.guard with
 | none=>rfl
 | some g =>
  obtain ⟨j,w⟩:=g
  simp only
  cases (ops[j]?).bind (·.dst) with
  | none=>rfl
  | some d=>exact noIn_zero d
theorem safeR_nil (ops:Array Oper):∀ l:List Oper,safeR ops l 0=some 0
 | []=>rfl
 | o :: l=>by
  unfold safeR
  rw [if_pos (operIn_nil ops o)]
  have:delU 0 o.dst=0:=by
   cases h:o.dst with
   | none=>rfl
   | some d =>
    show 0 ^^^ ((1 &&& (0 >>> d)) <<< d)=0
    simp
  rw [this]
  exact safeR_nil ops l
theorem safeU_ok {ops:Array Oper} {u u':Nat} (h:safeU ops u=some u'):safeR ops ops.toList u=some u':=by
 cases u with
 | zero=>rw [safeR_nil]; exact h
 | succ n =>
  have h:(Option.rec none some (safeR ops ops.toList (Nat.succ n)):Option Nat)=some u':=h
  cases hs:safeR ops ops.toList (Nat.succ n) with
  | none=>rw [hs] at h; cases h
  | some x=>rw [hs] at h; exact h
structure Den (b:St) (u:Nat) (f:Fs) (s:St):Prop where
 n:s.n=b.n
 d:s.d=b.d
 al:s.al=b.al
 h:s.h=look f.hs b.h
 t:∀ i,noIn u i=true→s.t i=lookT f.ts b.t i
theorem Den.self (b:St) (u:Nat) (f:Fs):Den b u f (toSt b f):=⟨rfl,rfl,rfl,rfl,fun _ _=>rfl⟩
theorem Den.ev {b:St} {u:Nat} {f:Fs} {s:St} (k:Den b u f s) {x:Operand} (hx:opIn u x=true):s.ev x=(toSt b f).ev x:=by
 cases x with
 | tmp i =>
  show (if i < s.n then s.t i else _)=if i < b.n then lookT f.ts b.t i else _
  rw [k.n,k.t i hx]
 | _=>rfl
theorem Den.wanted {b:St} {u:Nat} {f:Fs} {s:St} (k:Den b u f s) {ops:Array Oper} {o:Oper} (ho:operIn ops u o=true):wantedA ops s o=wantedA ops (toSt b f) o:=by
 unfold operIn at ho
 rw [Bool.and_eq_true] at ho
 have hg:=ho.2
 unfold guardIn at hg
 unfold wantedA
 cases hgd:o.guard with
 | none=>rfl
 | some g =>
  obtain ⟨j,w⟩:=g
  rw [hgd] at hg
  simp only at hg ⊢
  cases hd:(ops[j]?).bind (·.dst) with
  | none=>rfl
  | some d =>
   rw [hd] at hg
   simp only at hg ⊢
   rw [k.t d hg,k.n]
   rfl
theorem Den.step {b:St} {u:Nat} {f:Fs} {s:St} (k:Den b u f s) {P:Program} {X:Orc} {ops:Array Oper} {o:Oper} (ho:operIn ops u o=true):stepE P X ops o s=stepE P X ops o (toSt b f):=by
 have hw:=k.wanted ho
 unfold operIn at ho
 rw [Bool.and_eq_true] at ho
 have he:∀ h id,opE P X s.d s.ev h id o=opE P X s.d (toSt b f).ev h id o:=fun h id=>op_congr fun x hx=>k.ev (List.all_eq_true.1 ho.1 x (by simpa using hx))
 unfold stepE
 rw [hw,he,k.n,k.d,k.h]
 unfold chkE
 rw [k.d,k.al]
 rfl
theorem Den.put {b:St} {u:Nat} {f:Fs} {s:St} (k:Den b u f s) (dst:Option Tmp) (e:Eff):Den b (delU u dst) (fput f dst e) (s.put dst e):=by
 have h2:=congrArg St.h (toSt_put b f dst e)
 refine ⟨k.n,k.d,k.al,?_,fun i hi=>?_⟩
 ·show upds s.h e.wr=look (inssA f.hs e.wr) b.h
  rw [look_inssA,k.h]
 ·cases dst with
  | none=>exact k.t i hi
  | some d =>
   show upd s.t d e.v i=lookT (insT f.ts (Nat.succ d) e.v) b.t i
   rw [lookT_insT]
   unfold upd
   by_cases hd:i=d
   ·rw [if_pos hd,if_pos hd]
   ·rw [if_neg hd,if_neg hd]
    refine k.t i ?_
    rw [noIn_bit] at hi ⊢
    have e:(delU u (some d)).testBit i=(u ^^^ ((1 &&& (u >>> d)) <<< d)).testBit i:=rfl
    have h0:((1 &&& (u >>> d)) <<< d).testBit i=false:=by
     rw [Nat.testBit_shiftLeft]
     by_cases hl:d ≤ i
     ·have h1:Nat.testBit 1 (i - d)=false:=by
       cases ht:Nat.testBit 1 (i - d) with
       | false=>rfl
       | true=>exact (hd (Nat.le_antisymm (Nat.sub_eq_zero_iff_le.1 (Nat.testBit_one_eq_true_iff_self_eq_zero.1 ht)) hl)).elim
      rw [Nat.testBit_and,h1]; simp
     ·simp [hl]
    rw [e,Nat.testBit_xor,h0] at hi
    simpa using hi
noncomputable def anyT (D:List Nat) (t:Tr):Tr:=List.rec t (fun i _ ih=>insT ih (Nat.succ i) .any) D
noncomputable def maskOf (D:List Nat):Nat:=List.rec (nat_lit 0) (fun i _ ih=>Nat.lor (Nat.shiftLeft (nat_lit 1) i) ih) D
noncomputable def forget (D:List Nat) (f:Fs):Fs:=List.rec f (fun _ _ _=>⟨anyT D f.ts,f.hs,Nat.lor (maskOf D) f.u⟩) D
theorem maskOf_bit (i:Nat):∀ D:List Nat,i ∈ D→(maskOf D).testBit i=true
 | [],h=>nomatch h
 | j :: D,h=>by
  have e:(maskOf (j :: D)).testBit i=((1 <<< j) ||| maskOf D).testBit i:=rfl
  rw [e,Nat.testBit_or]
  rcases List.mem_cons.1 h with rfl | h
  ·rw [Nat.testBit_shiftLeft]; simp
  ·rw [maskOf_bit i D h]; simp
theorem anyT_t (T:Nat→A) (t:Tr) (i:Nat):∀ D:List Nat,i ∉ D→lookT (anyT D t) T i=lookT t T i
 | [],_=>rfl
 | j :: D,h=>by
  show lookT (insT (anyT D t) (Nat.succ j) .any) T i=_
  rw [lookT_insT]
  unfold upd
  rw [if_neg fun e:i=j=>h (e ▸ List.mem_cons_self)]
  exact anyT_t T t i D fun hm=>h (List.mem_cons_of_mem _ hm)
theorem Den.forget {b:St} {f:Fs} {s:St} (k:Den b f.u f s) (D:List Nat):Den b (Dm.forget D f).u (Dm.forget D f) s:=by
 cases D with
 | nil=>exact k
 | cons j D =>
  refine ⟨k.n,k.d,k.al,k.h,fun i hi=>?_⟩
  have h1:noIn (maskOf (j :: D) ||| f.u) i=true:=hi
  rw [noIn_bit,Nat.testBit_or] at h1
  simp only [Bool.not_or,Bool.and_eq_true,Bool.not_eq_true'] at h1
  have hn:i ∉ j :: D:=fun hm=>by rw [maskOf_bit i _ hm] at h1; cases h1.1
  show s.t i=lookT (anyT (j :: D) f.ts) b.t i
  rw [anyT_t _ _ _ _ hn]
  refine k.t i ?_
  rw [noIn_bit,h1.2]; rfl
end
section
def catO {α:Type}:List (Option (List α))→Option (List α)
 | []=>some []
 | none :: _=>none
 | some x :: l=>match catO l with | some y=>some (x ++ y) | none=>none
theorem catO_mem {α:Type}:∀ {ys:List (Option (List α))} {L:List α},catO ys=some L→∀ y ∈ ys,∃ l,y=some l ∧ ∀ a ∈ l,a ∈ L
 | [],_,_,_,hy=>nomatch hy
 | none :: l,L,h,_,_=>by cases h
 | some x :: l,L,h,y,hy=>by
  unfold catO at h
  split at h
  ·rename_i z hz
   cases h
   rcases List.mem_cons.1 hy with rfl | hy
   ·exact ⟨x,rfl,fun a ha=>List.mem_append_left _ ha⟩
   ·obtain ⟨l',e,k⟩:=catO_mem hz y hy
    exact ⟨l',e,fun a ha=>List.mem_append_right _ (k a ha)⟩
  ·cases h
noncomputable section
variable (P:Program) (X:Orc) (N:Nat) (b:St) (eqF:Fs→Fs→Bool)
noncomputable def nextK (ops:Array Oper) (o:Oper) (k:Fs→Option (List Fs)) (f:Fs):Option (List Fs) :=
 match o.op with
 | .next x false =>
  if dstOk (toSt b f).n o.dst=true∧wantedA ops (toSt b f) o=some true then
   match nextsE (toSt b f).h ((toSt b f).ev x) with
   | some es=>if (es.all fun e=>okW b.d b.al e.wr)=true then catO (es.map fun e=>k (fput f o.dst e)) else none
   | none=>none
  else none
 | _=>none
noncomputable def outsOps (ops:Array Oper) (l:List Oper):Fs→Option (List Fs):=List.rec (motive:=fun _=>Fs→Option (List Fs)) (fun f=>some [f]) (fun o _ ih f=>Option.rec (nextK b ops o ih f) (fun e=>ih (fput f o.dst e)) (stepK P X ops b f o)) l
theorem outsOps_cons (ops:Array Oper) (o:Oper) (l:List Oper) (f:Fs):outsOps P X b ops (o :: l) f=match stepE P X ops o (toSt b f) with | some e=>outsOps P X b ops l (fput f o.dst e) | none=>nextK b ops o (outsOps P X b ops l) f:=by
 have hs:outsOps P X b ops (o :: l) f=(Option.rec (nextK b ops o (outsOps P X b ops l) f) (fun e=>outsOps P X b ops l (fput f o.dst e)) (stepK P X ops b f o):Option (List Fs)):=rfl
 rw [hs,stepK_eq]
 cases stepE P X ops o (toSt b f) <;> rfl
def tr1 (e:Eff):Option (Fs × List Eff)→Option (Fs × List Eff)
 | none=>none
 | some (g,es)=>some (g,e :: es)
noncomputable def trF (ops:Array Oper) (l:List Oper):Fs→Option (Fs × List Eff):=List.rec (motive:=fun _=>Fs→Option (Fs × List Eff)) (fun f=>some (f,[])) (fun o _ ih f=>Option.rec none (fun e=>tr1 e (ih (fput f o.dst e))) (stepK P X ops b f o)) l
theorem trF_cons (ops:Array Oper) (o:Oper) (l:List Oper) (f:Fs):trF P X b ops (o :: l) f=match stepE P X ops o (toSt b f) with | some e=>tr1 e (trF P X b ops l (fput f o.dst e)) | none=>none:=by
 have hs:trF P X b ops (o :: l) f=(Option.rec none (fun e=>tr1 e (trF P X b ops l (fput f o.dst e))) (stepK P X ops b f o):Option (Fs × List Eff)):=rfl
 rw [hs,stepK_eq]
 cases stepE P X ops o (toSt b f) <;> rfl
theorem trF_ok (ops:Array Oper):∀ (l:List Oper) {u u':Nat} {f g:Fs} {es:List Eff} {s:St},safeR ops l u=some u'→Den b u f s→trF P X b ops l f=some (g,es)→∃ s',runTr P X ops l s=some (s',es)∧Den b u' g s'
 | [],u,u',f,g,es,s,hu,k,h=>by
  cases h; cases hu
  exact ⟨s,rfl,k⟩
 | o :: l,u,u',f,g,es,s,hu,k,h=>by
  unfold safeR at hu
  split at hu
  ·rename_i ho
   rw [trF_cons] at h
   unfold runTr
   rw [k.step ho]
   cases he:stepE P X ops o (toSt b f) with
   | none=>rw [he] at h; cases h
   | some e =>
    rw [he] at h
    simp only at h ⊢
    cases hg:trF P X b ops l (fput f o.dst e) with
    | none=>rw [hg] at h; cases h
    | some p =>
     obtain ⟨g',es'⟩:=p
     rw [hg] at h
     cases h
     obtain ⟨s',h1,h2⟩:=trF_ok ops l hu (k.put o.dst e) hg
     rw [h1]
     exact ⟨s',rfl,h2⟩
  ·cases hu
theorem outsOps_ok (ops:Array Oper):∀ (l:List Oper) {u u':Nat} {f:Fs} {L:List Fs} {s:St},safeR ops l u=some u'→Den b u f s→outsOps P X b ops l f=some L→WOps P X ops l s fun s=>∃ g ∈ L,Den b u' g s
 | [],u,u',f,L,s,hu,k,h=>by
  cases h; cases hu
  exact ⟨f,List.mem_singleton.2 rfl,k⟩
 | o :: l,u,u',f,L,s,hu,k,h=>by
  unfold safeR at hu
  split at hu
  ·rename_i ho
   rw [outsOps_cons] at h
   unfold WOps
   rw [k.step ho]
   split at h
   ·rename_i e he
    exact Or.inl ⟨e,he,outsOps_ok ops l hu (k.put o.dst e) h⟩
   ·unfold nextK at h
    split at h
    ·rename_i x hx
     split at h
     ·rename_i hc
      split at h
      ·rename_i es hes
       split at h
       ·rename_i hok
        have hxe:s.ev x=(toSt b f).ev x:=k.ev (by
         unfold operIn at ho
         rw [Bool.and_eq_true] at ho
         refine List.all_eq_true.1 ho.1 x ?_
         rw [hx]
         simp [Op.operands])
        refine Or.inr ⟨x,es,hx,?_,?_,?_,fun e he=>?_,fun e he=>?_⟩
        ·rw [k.n]; exact hc.1
        ·rw [k.wanted ho]; exact hc.2
        ·rw [hxe,k.h]; exact hes
        ·rw [k.d,k.al]; exact List.all_eq_true.1 hok e he
        ·obtain ⟨L',h1,h2⟩:=catO_mem h _ (List.mem_map.2 ⟨e,he,rfl⟩)
         exact WOps_mono (fun s ⟨g,hg,e⟩=>⟨g,h2 g hg,e⟩) (outsOps_ok ops l hu (k.put o.dst e) h1)
       ·cases h
      ·cases h
     ·cases h
    ·cases h
  ·cases hu
def ddI (x:Fs) (l:List Fs):List Fs:=if l.any (eqF x) then l else x :: l
def ddF:List Fs→List Fs
 | []=>[]
 | x :: l=>ddI eqF x (ddF l)
theorem ddF_mem (heq:∀ f g,eqF f g=true→f=g):∀ {l:List Fs} {f:Fs},f ∈ l→f ∈ ddF eqF l
 | [],_,h=>nomatch h
 | x :: l,f,h=>by
  unfold ddF ddI
  rcases List.mem_cons.1 h with rfl | h
  ·split
   ·rename_i h1
    obtain ⟨g,hg,e⟩:=List.any_eq_true.1 h1
    rw [heq _ _ e]
    exact hg
   ·exact List.mem_cons_self
  ·split
   ·exact ddF_mem heq h
   ·exact List.mem_cons_of_mem _ (ddF_mem heq h)
def normals:List (Ex × Fs)→List Fs
 | []=>[]
 | (.normal,f) :: l=>f :: normals l
 | _ :: l=>normals l
def others:List (Ex × Fs)→List (Ex × Fs)
 | []=>[]
 | (.normal,_) :: l=>others l
 | p :: l=>p :: others l
theorem normals_mem:∀ {l:List (Ex × Fs)} {f:Fs},(Ex.normal,f) ∈ l→f ∈ normals l
 | [],_,h=>nomatch h
 | (x,g) :: l,f,h=>by
  rcases List.mem_cons.1 h with h2 | h2
  ·cases h2
   exact List.mem_cons_self
  ·have ih:=normals_mem h2
   cases x <;> unfold normals
   ·exact List.mem_cons_of_mem _ ih
   all_goals exact ih
theorem others_mem:∀ {l:List (Ex × Fs)} {x:Ex} {f:Fs},x ≠ .normal→(x,f) ∈ l→(x,f) ∈ others l
 | [],_,_,_,h=>nomatch h
 | (y,g) :: l,x,f,hx,h=>by
  rcases List.mem_cons.1 h with h2 | h2
  ·simp only [Prod.mk.injEq] at h2
   obtain ⟨rfl,rfl⟩:=h2
   cases x
   ·exact (hx rfl).elim
   all_goals exact List.mem_cons_self
  ·have ih:=others_mem hx h2
   cases y <;> unfold others
   ·exact ih
   all_goals exact List.mem_cons_of_mem _ ih
def packO (l:List (Ex × Fs)):List (Ex × Fs):=(ddP l)
 where
 ddP:List (Ex × Fs)→List (Ex × Fs)
  | []=>[]
  | p :: l=>if (ddP l).any (fun q=>decide (p.1=q.1) && eqF p.2 q.2) then ddP l else p :: ddP l
theorem packO_mem (heq:∀ f g,eqF f g=true→f=g):∀ {l:List (Ex × Fs)} {p:Ex × Fs},p ∈ l→p ∈ packO.ddP eqF l
 | [],_,h=>nomatch h
 | q :: l,p,h=>by
  unfold packO.ddP
  rcases List.mem_cons.1 h with rfl | h
  ·split
   ·rename_i h1
    obtain ⟨g,hg,e⟩:=List.any_eq_true.1 h1
    simp only [Bool.and_eq_true,decide_eq_true_eq] at e
    obtain ⟨e1,e2⟩:=e
    have e3:p=g:=by
     obtain ⟨p1,p2⟩:=p
     obtain ⟨g1,g2⟩:=g
     have:=heq _ _ e2
     simp only at e1 this
     rw [e1,this]
    rw [e3]
    exact hg
   ·exact List.mem_cons_self
  ·split
   ·exact packO_mem heq h
   ·exact List.mem_cons_of_mem _ (packO_mem heq h)
def loopF (F:Fs→Option (List (Ex × Fs))) (fg:Fs→Fs):Nat→List Fs→Option (List (Ex × Fs))
 | _,[]=>some []
 | 0,_ :: _=>none
 | m + 1,f :: cur =>
  match catO ((f :: cur).map F) with
  | none=>none
  | some L =>
   match loopF F fg m (ddF eqF ((normals L).map fg)) with
   | none=>none
   | some M=>some (packO.ddP eqF (others L ++ M))
def Ends (L:List (Ex × Fs)) (x:Ex) (s:St):Prop:=∃ g,(x,g) ∈ L∧Den b g.u g s
theorem loopF_ok (heq:∀ f g,eqF f g=true→f=g) {F:Fs→Option (List (Ex × Fs))} {fg:Fs→Fs} (hfg:∀ f s,Den b f.u f s→Den b (fg f).u (fg f) s) {G:St→(Ex→St→Prop)→Prop} (hG:∀ st K L,(∀ x s,K x s→L x s)→G st K→G st L) (hF:∀ f L s,Den b f.u f s→F f=some L→G s (Ends b L)) :
  ∀ (m:Nat) {cur:List Fs} {M:List (Ex × Fs)},loopF eqF F fg m cur=some M→∀ f ∈ cur,∀ s,Den b f.u f s→Wit G m s (Ends b M)
 | m,[],M,h,f,hf,s,k=>nomatch hf
 | 0,_ :: _,M,h,f,hf,s,k=>by cases h
 | m + 1,f0 :: cur,M,h,f,hf,s,k=>by
  unfold loopF at h
  split at h
  ·cases h
  ·rename_i L hL
   split at h
   ·cases h
   ·rename_i M' hM'
    cases h
    obtain ⟨L',h1,h2⟩:=catO_mem hL _ (List.mem_map.2 ⟨f,hf,rfl⟩)
    unfold Wit
    refine hG _ _ _ (fun x s he=>?_) (hF f L' s k h1)
    obtain ⟨g,hg,kg⟩:=he
    have hg':=h2 _ hg
    have fin:∀ y:Ex,y ≠ .normal→(y,g) ∈ L→Ends b (packO.ddP eqF (others L ++ M')) y s:=fun y hy hm=>⟨g,packO_mem eqF heq (List.mem_append_left _ (others_mem hy hm)),kg⟩
    cases x with
    | normal =>
     have:=loopF_ok heq hfg hG hF m hM' (fg g) (ddF_mem eqF heq (List.mem_map.2 ⟨g,normals_mem hg',rfl⟩)) s (hfg g s kg)
     exact Wit_mono hG (fun x s ⟨k,hk,e⟩=>⟨k,packO_mem eqF heq (List.mem_append_right _ hk),e⟩) this
    | exit i=>exact fin _ (by simp) hg'
    | goto i=>exact fin _ (by simp) hg'
    | ret=>exact fin _ (by simp) hg'
def isGoto:Ex→Bool
 | .goto _=>true
 | _=>false
def norm (u:Nat) (L:List Fs):List (Ex × Fs):=L.map fun g=>(.normal,⟨g.ts,g.hs,u⟩)
def kDrawn (ops:Array Oper) (u:Nat):Option (Fs × List Eff)→Option (List (Ex × Fs))
 | some (g,es)=>if raceFree ops es=true then some [(.normal,⟨g.ts,g.hs,u⟩)] else none
 | none=>none
def kRegion (ops:Array Oper) (draw:Bool) (f:Fs):Option (List (Ex × Fs)):=Option.rec none (fun u=>Bool.rec (Option.map (norm u) (outsOps P X b ops ops.toList f)) (kDrawn ops u (trF P X b ops ops.toList f)) draw) (safeU ops f.u)
def kSeq2 (kd:Fs→Option (List (Ex × Fs))) (L:List (Ex × Fs)):Option (List (Ex × Fs)):=match catO ((ddF eqF (normals L)).map fun g=>kd g) with | none=>none | some M=>some (packO.ddP eqF (others L ++ M))
def kSeq (kd:Fs→Option (List (Ex × Fs))):Option (List (Ex × Fs))→Option (List (Ex × Fs))
 | none=>none
 | some [(.normal,g)]=>kd g
 | some L=>kSeq2 eqF kd L
def kCond (kx ky:Fs→Option (List (Ex × Fs))) (f:Fs):Option Bool→Option (List (Ex × Fs))
 | some true=>kx f
 | some false=>ky f
 | none=>none
def unExit (id:Nat) (p:Ex × Fs):Ex × Fs:=if p.1 = .exit id then (.normal,p.2) else p
def kBlock (id:Nat):Option (List (Ex × Fs))→Option (List (Ex × Fs))
 | none=>none
 | some L=>some (packO.ddP eqF (L.map (unExit id)))
def kScope:Option (List (Ex × Fs))→Option (List (Ex × Fs))
 | none=>none
 | some L=>if (L.any fun p=>isGoto p.1)=true then none else some L
def kIf (u:Nat) (c:Operand) (kx ky:Fs→Option (List (Ex × Fs))) (f:Fs):Option (List (Ex × Fs)):=Bool.rec none (kCond kx ky f (evK b.n (lookT f.ts b.t) c).bool?) (opIn u c)
def headId (c:Code):Nat:=Code.rec (motive:=fun _=>Nat) 0 (fun id _ _=>id) (fun _ _ i _=>i) (fun _ _ _ i _=>i) (fun _ _ i=>i) (fun _ i=>i) (fun _ _ _ _ _ _=>0) (fun _=>0) (fun _ i=>i) (fun _=>0) (fun _=>0) 0 (fun _=>0) c
variable (dl:Nat→List Nat)
def outs (c:Code):Fs→Option (List (Ex × Fs)):=Code.rec (motive:=fun _=>Fs→Option (List (Ex × Fs)))
 (fun f=>some [(.normal,f)])
 (fun _ ops draw=>kRegion P X b ops draw)
 (fun _ _ ic id f=>kSeq eqF id (ic f))
 (fun c _ _ ix iy f=>kIf b f.u c ix iy f)
 (fun id _ ic f=>kBlock eqF id (ic f))
 (fun c ic f=>loopF eqF ic (forget (dl (headId c))) N [forget (dl (headId c)) f])
 (fun _ _ _ _ _ _ _=>none)
 (fun id f=>some [(.exit id,f)])
 (fun _ ic f=>kScope (ic f))
 (fun _ f=>some [(.normal,f)])
 (fun l f=>some [(.goto l,f)])
 (fun f=>some [(.ret,f)])
 (fun _ _=>none) c
theorem Den.setU {u:Nat} {g:Fs} {s:St} (k:Den b u g s):Den b u ⟨g.ts,g.hs,u⟩ s:=⟨k.n,k.d,k.al,k.h,k.t⟩
theorem outs_ok (heq:∀ f g,eqF f g=true→f=g):∀ (c:Code) {f:Fs} {L:List (Ex × Fs)} {s:St},Den b f.u f s→outs P X N b eqF dl c f=some L→Wx P X N c s (Ends b L)
 | .skip,f,L,s,k,h=>by
  cases h; unfold Wx
  exact ⟨f,List.mem_singleton.2 rfl,k⟩
 | .label _,f,L,s,k,h=>by
  cases h; unfold Wx
  exact ⟨f,List.mem_singleton.2 rfl,k⟩
 | .region _ ops dr,f,L,s,k,h=>by
  cases hu:safeU ops f.u with
  | none =>
   have h:(Option.rec none (fun u=>Bool.rec (Option.map (norm u) (outsOps P X b ops ops.toList f)) (kDrawn ops u (trF P X b ops ops.toList f)) dr) (safeU ops f.u):Option (List (Ex × Fs)))=some L:=h
   rw [hu] at h; cases h
  | some u =>
   have h:(Option.rec none (fun u=>Bool.rec (Option.map (norm u) (outsOps P X b ops ops.toList f)) (kDrawn ops u (trF P X b ops ops.toList f)) dr) (safeU ops f.u):Option (List (Ex × Fs)))=some L:=h
   rw [hu] at h
   have hr:=safeU_ok hu
   cases dr with
   | false =>
    have h:Option.map (norm u) (outsOps P X b ops ops.toList f)=some L:=h
    unfold Wx
    cases hl:outsOps P X b ops ops.toList f with
    | none=>rw [hl] at h; cases h
    | some l =>
     rw [hl] at h
     cases h
     exact WOps_mono (fun s ⟨g,hg,e⟩=>⟨_,List.mem_map.2 ⟨g,hg,rfl⟩,e.setU⟩) (outsOps_ok P X b ops _ hr k hl)
   | true =>
    have h:kDrawn ops u (trF P X b ops ops.toList f)=some L:=h
    unfold Wx
    cases hl:trF P X b ops ops.toList f with
    | none=>rw [hl] at h; cases h
    | some p =>
     obtain ⟨g,es⟩:=p
     rw [hl] at h
     unfold kDrawn at h
     simp only at h
     split at h
     ·rename_i hrf
      cases h
      obtain ⟨s',h1,h2⟩:=trF_ok P X b ops _ hr k hl
      exact ⟨_,_,h1,hrf,_,List.mem_singleton.2 rfl,h2.setU⟩
     ·cases h
 | .seq c d,f,L,s,k,h=>by
  have h:kSeq eqF (outs P X N b eqF dl d) (outs P X N b eqF dl c f)=some L:=h
  unfold Wx
  cases h1:outs P X N b eqF dl c f with
  | none=>rw [h1] at h; cases h
  | some L1 =>
   rw [h1] at h
   have key:kSeq2 eqF (outs P X N b eqF dl d) L1=some L→Wx P X N c s fun x s=>match x with | .normal=>Wx P X N d s (Ends b L) | y=>Ends b L y s:=by
    intro h
    unfold kSeq2 at h
    split at h
    ·cases h
    ·rename_i M hM
     cases h
     refine Wx_mono c (fun x s he=>?_) (outs_ok heq c k h1)
     obtain ⟨g,hg,kg⟩:=he
     have fin:∀ y:Ex,y ≠ .normal→(y,g) ∈ L1→Ends b (packO.ddP eqF (others L1 ++ M)) y s:=fun y hy hm=>⟨g,packO_mem eqF heq (List.mem_append_left _ (others_mem hy hm)),kg⟩
     cases x with
     | normal =>
      obtain ⟨l',k1,k2⟩:=catO_mem hM _ (List.mem_map.2 ⟨g,ddF_mem eqF heq (normals_mem hg),rfl⟩)
      exact Wx_mono d (fun x s ⟨k,hk,e⟩=>⟨k,packO_mem eqF heq (List.mem_append_right _ (k2 _ hk)),e⟩) (outs_ok heq d kg k1)
     | exit i=>exact fin _ (by simp) hg
     | goto i=>exact fin _ (by simp) hg
     | ret=>exact fin _ (by simp) hg
   unfold kSeq at h
   split at h
   ·cases h
   ·rename_i g hL1
    cases hL1
    refine Wx_mono c (fun x s he=>?_) (outs_ok heq c k h1)
    obtain ⟨g',hg,kg⟩:=he
    have:=List.mem_singleton.1 hg
    cases this
    exact outs_ok heq d kg h
   ·rename_i hL1
    cases hL1
    exact key h
 | .cond c x y,f,L,s,k,h=>by
  have h:(Bool.rec none (kCond (outs P X N b eqF dl x) (outs P X N b eqF dl y) f (evK b.n (lookT f.ts b.t) c).bool?) (opIn f.u c):Option (List (Ex × Fs)))=some L:=h
  cases hc:opIn f.u c with
  | false=>rw [hc] at h; cases h
  | true =>
   rw [hc] at h
   have h:kCond (outs P X N b eqF dl x) (outs P X N b eqF dl y) f (evK b.n (lookT f.ts b.t) c).bool? = some L:=h
   rw [show evK b.n (lookT f.ts b.t)=(toSt b f).ev from evK_eq (toSt b f),← k.ev hc] at h
   unfold Wx
   unfold kCond at h
   split at h
   ·rename_i hb
    rw [hb]
    exact outs_ok heq x k h
   ·rename_i hb
    rw [hb]
    exact outs_ok heq y k h
   ·cases h
 | .block id c,f,L,s,k,h=>by
  have h:kBlock eqF id (outs P X N b eqF dl c f)=some L:=h
  unfold Wx
  cases h1:outs P X N b eqF dl c f with
  | none=>rw [h1] at h; cases h
  | some L1 =>
   rw [h1] at h
   cases h
   refine Wx_mono c (fun x s he=>?_) (outs_ok heq c k h1)
   obtain ⟨g,hg,kg⟩:=he
   have fin:∀ y:Ex × Fs,unExit id (x,g)=y→y ∈ packO.ddP eqF (L1.map (unExit id)):=fun y e=>packO_mem eqF heq (List.mem_map.2 ⟨_,hg,e⟩)
   cases x with
   | normal=>exact ⟨g,fin _ (by simp [unExit]),kg⟩
   | exit j =>
    simp only
    split
    ·rename_i hj
     exact ⟨g,fin _ (by simp [unExit,hj]),kg⟩
    ·rename_i hj
     exact ⟨g,fin _ (by simp [unExit,hj]),kg⟩
   | goto i=>exact ⟨g,fin _ (by simp [unExit]),kg⟩
   | ret=>exact ⟨g,fin _ (by simp [unExit]),kg⟩
 | .loop c,f,L,s,k,h=>by
  unfold Wx
  exact loopF_ok b eqF (F:=outs P X N b eqF dl c) (fg:=forget (dl (headId c))) (G:=Wx P X N c) heq (fun f s k=>k.forget _) (fun st K L k=>Wx_mono c k) (fun g L' s k e=>outs_ok heq c k e) N h _ (List.mem_singleton.2 rfl) s (k.forget _)
 | .exit id,f,L,s,k,h=>by
  cases h; unfold Wx
  exact ⟨f,List.mem_singleton.2 rfl,k⟩
 | .scope c,f,L,s,k,h=>by
  have h:kScope (outs P X N b eqF dl c f)=some L:=h
  unfold Wx
  cases h1:outs P X N b eqF dl c f with
  | none=>rw [h1] at h; cases h
  | some L1 =>
   rw [h1] at h
   unfold kScope at h
   simp only at h
   split at h
   ·cases h
   ·rename_i hn
    cases h
    refine Wx_mono c (fun x s he=>?_) (outs_ok heq c k h1)
    cases x with
    | goto l =>
     obtain ⟨g,hg,kg⟩:=he
     exact hn (List.any_eq_true.2 ⟨_,hg,rfl⟩)
    | _=>exact he
 | .goto l,f,L,s,k,h=>by
  cases h; unfold Wx
  exact ⟨f,List.mem_singleton.2 rfl,k⟩
 | .ret,f,L,s,k,h=>by
  cases h; unfold Wx
  exact ⟨f,List.mem_singleton.2 rfl,k⟩
 | .rangeFunc _ _ _ _,f,L,s,k,h=>by cases h
 | .refuse _,f,L,s,k,h=>by cases h
end
end
section
def eqV:Value→Value→Bool
 | .int k n,.int k' n'=>decide (k=k') && decide (n=n')
 | .bool a,.bool b=>decide (a=b)
 | .string a,.string b=>decide (a.data.toList=b.data.toList)
 | .tuple a,.tuple b=>decide (a.size=0) && decide (b.size=0)
 | _,_=>false
theorem eqV_ok {a b:Value} (h:eqV a b=true):a=b:=by
 unfold eqV at h
 split at h
 ·simp only [Bool.and_eq_true,decide_eq_true_eq] at h
  obtain ⟨rfl,rfl⟩:=h; rfl
 ·simp only [decide_eq_true_eq] at h
  rw [h]
 ·rename_i a b
  simp only [decide_eq_true_eq] at h
  obtain ⟨a⟩:=a
  obtain ⟨b⟩:=b
  have:a=b:=Array.toList_inj.1 h
  rw [this]
 ·rename_i a b
  simp only [Bool.and_eq_true,decide_eq_true_eq] at h
  rw [Array.eq_empty_of_size_eq_zero h.1,Array.eq_empty_of_size_eq_zero h.2]
 ·cases h
mutual
def eqD:D→D→Bool
 | .s v,.s w=>eqV v w
 | .agg xs,.agg ys=>eqDs xs ys
 | .lst xs,.lst ys=>eqDs xs ys
 | .ifc t x,.ifc u y=>decide (t=u) && eqD x y
 | .any,.any=>true
 | _,_=>false
def eqDs:List D→List D→Bool
 | [],[]=>true
 | x :: xs,y :: ys=>eqD x y && eqDs xs ys
 | _,_=>false
end
mutual
theorem eqD_ok:∀ {a b:D},eqD a b=true→a=b
 | .s v,.s w,h=>by unfold eqD at h; rw [eqV_ok h]
 | .agg xs,.agg ys,h=>by unfold eqD at h; rw [eqDs_ok h]
 | .lst xs,.lst ys,h=>by unfold eqD at h; rw [eqDs_ok h]
 | .ifc t x,.ifc u y,h=>by
  unfold eqD at h
  simp only [Bool.and_eq_true,decide_eq_true_eq] at h
  rw [h.1,eqD_ok h.2]
 | .any,.any,h=>rfl
 | .s _,.agg _,h=>by simp [eqD] at h
 | .s _,.lst _,h=>by simp [eqD] at h
 | .s _,.ifc _ _,h=>by simp [eqD] at h
 | .s _,.any,h=>by simp [eqD] at h
 | .agg _,.s _,h=>by simp [eqD] at h
 | .agg _,.lst _,h=>by simp [eqD] at h
 | .agg _,.ifc _ _,h=>by simp [eqD] at h
 | .agg _,.any,h=>by simp [eqD] at h
 | .lst _,.s _,h=>by simp [eqD] at h
 | .lst _,.agg _,h=>by simp [eqD] at h
 | .lst _,.ifc _ _,h=>by simp [eqD] at h
 | .lst _,.any,h=>by simp [eqD] at h
 | .ifc _ _,.s _,h=>by simp [eqD] at h
 | .ifc _ _,.agg _,h=>by simp [eqD] at h
 | .ifc _ _,.lst _,h=>by simp [eqD] at h
 | .ifc _ _,.any,h=>by simp [eqD] at h
 | .any,.s _,h=>by simp [eqD] at h
 | .any,.agg _,h=>by simp [eqD] at h
 | .any,.lst _,h=>by simp [eqD] at h
 | .any,.ifc _ _,h=>by simp [eqD] at h
theorem eqDs_ok:∀ {a b:List D},eqDs a b=true→a=b
 | [],[],_=>rfl
 | x :: xs,y :: ys,h=>by
  unfold eqDs at h
  simp only [Bool.and_eq_true] at h
  rw [eqD_ok h.1,eqDs_ok h.2]
 | [],_ :: _,h=>by simp [eqDs] at h
 | _ :: _,[],h=>by simp [eqDs] at h
end
def eqL {α:Type} (e:α→α→Bool):List α→List α→Bool
 | [],[]=>true
 | x :: xs,y :: ys=>e x y && eqL e xs ys
 | _,_=>false
theorem eqL_ok {α:Type} {e:α→α→Bool} (he:∀ a b,e a b=true→a=b):∀ {a b:List α},eqL e a b=true→a=b
 | [],[],_=>rfl
 | x :: xs,y :: ys,h=>by
  unfold eqL at h
  simp only [Bool.and_eq_true] at h
  rw [he _ _ h.1,eqL_ok he h.2]
 | [],_ :: _,h=>by simp [eqL] at h
 | _ :: _,[],h=>by simp [eqL] at h
def eqA0:A→A→Bool
 | .any,.any=>true
 | .d x,.d y=>eqD x y
 | .clip xs,.clip ys=>eqDs xs ys
 | .bp i v o,.bp i' v' o'=>decide (i=i') && (decide (v=v') && decide (o=o'))
 | .sl i v o l,.sl i' v' o' l'=>decide (i=i') && (decide (v=v') && (decide (o=o') && decide (l=l')))
 | .op i v o l,.op i' v' o' l'=>decide (i=i') && (decide (v=v') && (decide (o=o') && decide (l=l')))
 | .ep xs i o,.ep ys i' o'=>eqDs xs ys && (decide (i=i') && decide (o=o'))
 | .mp i v,.mp i' v'=>decide (i=i') && decide (v=v')
 | .it i v,.it i' v'=>decide (i=i') && decide (v=v')
 | _,_=>false
theorem eqA0_ok (a b:A) (h:eqA0 a b=true):a=b:=by
 unfold eqA0 at h
 split at h
 ·rfl
 ·rw [eqD_ok h]
 ·rw [eqDs_ok h]
 ·simp only [Bool.and_eq_true,decide_eq_true_eq] at h
  obtain ⟨rfl,rfl,rfl⟩:=h; rfl
 ·simp only [Bool.and_eq_true,decide_eq_true_eq] at h
  obtain ⟨rfl,rfl,rfl,rfl⟩:=h; rfl
 ·simp only [Bool.and_eq_true,decide_eq_true_eq] at h
  obtain ⟨rfl,rfl,rfl,rfl⟩:=h; rfl
 ·simp only [Bool.and_eq_true,decide_eq_true_eq] at h
  obtain ⟨h1,rfl,rfl⟩:=h
  rw [eqDs_ok h1]
 ·simp only [Bool.and_eq_true,decide_eq_true_eq] at h
  obtain ⟨rfl,rfl⟩:=h; rfl
 ·simp only [Bool.and_eq_true,decide_eq_true_eq] at h
  obtain ⟨rfl,rfl⟩:=h; rfl
 ·cases h
def eqA:A→A→Bool
 | .agg xs,.agg ys=>eqL eqA0 xs ys
 | .tup xs,.tup ys=>eqL eqA0 xs ys
 | a,b=>eqA0 a b
theorem eqA_ok (a b:A) (h:eqA a b=true):a=b:=by
 unfold eqA at h
 split at h
 ·rw [eqL_ok eqA0_ok h]
 ·rw [eqL_ok eqA0_ok h]
 ·exact eqA0_ok _ _ h
def natQ (a b:Nat):Bool:=Nat.beq a b
def eqE (e f:Nat × Value × A):Bool:=decide (e.1=f.1) && (eqV e.2.1 f.2.1 && eqA e.2.2 f.2.2)
theorem eqE_ok (e f:Nat × Value × A) (h:eqE e f=true):e=f:=by
 unfold eqE at h
 simp only [Bool.and_eq_true,decide_eq_true_eq] at h
 obtain ⟨a,b,c⟩:=e
 obtain ⟨a',b',c'⟩:=f
 obtain ⟨h1,h2,h3⟩:=h
 simp only at h1 h2 h3
 rw [h1,eqV_ok h2,eqA_ok _ _ h3]
def eqO:O→O→Bool
 | .no v,.no w=>decide (v=w)
 | .box v cs,.box w ds=>decide (v=w) && eqL eqA cs ds
 | .vec v n xs fz,.vec w m ys gz=>decide (v=w) && (decide (n=m) && (decide (fz=gz) && eqDs xs ys))
 | .map v es c,.map w fs d=>decide (v=w) && (decide (c=d) && eqL eqE es fs)
 | .sit v s p,.sit w t q=>decide (v=w) && (decide (p=q) && decide (s.data.toList=t.data.toList))
 | .mit v m a b c,.mit v' m' a' b' c'=>decide (v=v') && (eqL natQ b.1 b'.1 && (decide (b.2=b'.2) && (decide (m=m') && (decide (a=a') && decide (c=c')))))
 | _,_=>false
theorem eqO_ok (a b:O) (h:eqO a b=true):a=b:=by
 unfold eqO at h
 split at h
 ·simp only [decide_eq_true_eq] at h
  rw [h]
 ·simp only [Bool.and_eq_true,decide_eq_true_eq] at h
  rw [h.1,eqL_ok eqA_ok h.2]
 ·simp only [Bool.and_eq_true,decide_eq_true_eq] at h
  obtain ⟨rfl,rfl,rfl,h⟩:=h
  rw [eqDs_ok h]
 ·simp only [Bool.and_eq_true,decide_eq_true_eq] at h
  obtain ⟨rfl,rfl,h⟩:=h
  rw [eqL_ok eqE_ok h]
 ·rename_i v s p w t q
  simp only [Bool.and_eq_true,decide_eq_true_eq] at h
  obtain ⟨rfl,rfl,h⟩:=h
  obtain ⟨s⟩:=s
  obtain ⟨t⟩:=t
  have:s=t:=Array.toList_inj.1 h
  rw [this]
 ·rename_i v m a b c v' m' a' b' c'
  simp only [Bool.and_eq_true,decide_eq_true_eq] at h
  obtain ⟨rfl,h1,h2,rfl,rfl,rfl⟩:=h
  obtain ⟨b1,b2⟩:=b
  obtain ⟨c1,c2⟩:=b'
  have:=eqL_ok (fun a b h=>Nat.eq_of_beq_eq_true h) h1
  simp only at h2 this
  rw [h2,this]
 ·cases h
def eqH (p q:Id × O):Bool:=decide (p.1=q.1) && eqO p.2 q.2
theorem eqH_ok (p q:Id × O) (h:eqH p q=true):p=q:=by
 unfold eqH at h
 simp only [Bool.and_eq_true,decide_eq_true_eq] at h
 obtain ⟨a,b⟩:=p
 obtain ⟨c,d⟩:=q
 obtain ⟨h1,h2⟩:=h
 simp only at h1 h2
 rw [h1,eqO_ok _ _ h2]
def eqTr:Tr→Tr→Bool
 | .e,.e=>true
 | .n0 l r,.n0 l' r'=>eqTr l l' && eqTr r r'
 | .n1 a l r,.n1 a' l' r'=>eqA a a' && (eqTr l l' && eqTr r r')
 | _,_=>false
theorem eqTr_ok:∀ (f g:Tr),eqTr f g=true→f=g
 | .e,.e,_=>rfl
 | .n0 l r,.n0 l' r',h=>by
  simp only [eqTr,Bool.and_eq_true] at h
  rw [eqTr_ok l l' h.1,eqTr_ok r r' h.2]
 | .n1 a l r,.n1 a' l' r',h=>by
  simp only [eqTr,Bool.and_eq_true] at h
  rw [eqA_ok _ _ h.1,eqTr_ok l l' h.2.1,eqTr_ok r r' h.2.2]
 | .e,.n0 ..,h | .e,.n1 ..,h | .n0 ..,.e,h | .n0 ..,.n1 ..,h | .n1 ..,.e,h | .n1 ..,.n0 ..,h=>by simp [eqTr] at h
noncomputable def seenO (o:O) (l:List (List Nat)):List (List Nat):=O.rec (fun _=>l) (fun _ _=>l) (fun _ _ _ _=>l) (fun _ _ _=>l) (fun _ _ _=>l) (fun _ _ _ s _=>s.1 :: l) o
noncomputable def seenH (l:List (Id × O)):List (List Nat):=List.rec [] (fun p _ ih=>seenO p.2 ih) l
noncomputable def eqF (f g:Fs):Bool:=eqL (eqL natQ) (seenH f.hs) (seenH g.hs) && (eqL eqH f.hs g.hs && (Nat.beq f.u g.u && eqTr f.ts g.ts))
theorem eqF_ok (f g:Fs) (h:eqF f g=true):f=g:=by
 unfold eqF at h
 simp only [Bool.and_eq_true] at h
 obtain ⟨a,b,u⟩:=f
 obtain ⟨c,d,v⟩:=g
 obtain ⟨-,h1,h0,h2⟩:=h
 simp only at h0 h1 h2
 rw [Nat.eq_of_beq_eq_true h0,eqL_ok eqH_ok h1,eqTr_ok _ _ h2]
def eqR:R→R→Bool
 | .val x,.val y=>eqD x y
 | .tup xs,.tup ys=>eqL eqA xs ys
 | .ref a,.ref b=>eqA a b
 | .fresh n xs,.fresh m ys=>decide (n=m) && eqDs xs ys
 | .mapf es c,.mapf fs d=>decide (c=d) && eqL eqE es fs
 | .freshT n xs l,.freshT m ys k=>decide (n=m) && (eqDs xs ys && eqL eqA l k)
 | _,_=>false
theorem eqR_ok (a b:R) (h:eqR a b=true):a=b:=by
 unfold eqR at h
 split at h
 ·rw [eqD_ok h]
 ·rw [eqL_ok eqA_ok h]
 ·rw [eqA_ok _ _ h]
 ·simp only [Bool.and_eq_true,decide_eq_true_eq] at h
  rw [h.1,eqDs_ok h.2]
 ·simp only [Bool.and_eq_true,decide_eq_true_eq] at h
  rw [h.1,eqL_ok eqE_ok h.2]
 ·simp only [Bool.and_eq_true,decide_eq_true_eq] at h
  rw [h.1,eqDs_ok h.2.1,eqL_ok eqA_ok h.2.2]
 ·cases h
end
section
theorem look_filter (d:Nat) (h:Id→O):∀ l:List (Id × O),cut d h (look l h)=look (l.filter fun p=>decide (p.1.1 < d)) h
 | []=>by
  funext i
  have e:∀ k,look [] h k=h k:=fun _=>rfl
  simp [cut,e]
 | (j,v) :: l=>by
  funext i
  have ih:=congrFun (look_filter d h l) i
  simp only [cut] at ih ⊢
  rw [look_cons]
  by_cases hi:i=j
  ·subst hi
   by_cases hj:i.1 < d
   ·have e:(List.filter (fun p:Id × O=>decide (p.1.1 < d)) ((i,v) :: l))=(i,v) :: List.filter (fun p:Id × O=>decide (p.1.1 < d)) l:=List.filter_cons_of_pos (by simpa using hj)
    rw [e,if_pos hj,look_cons,if_pos rfl,if_pos rfl]
   ·have e:(List.filter (fun p:Id × O=>decide (p.1.1 < d)) ((i,v) :: l))=List.filter (fun p:Id × O=>decide (p.1.1 < d)) l:=List.filter_cons_of_neg (by simpa using hj)
    rw [if_neg hj] at ih ⊢
    rw [e]
    exact ih
  ·rw [if_neg hi,ih]
   by_cases hj:j.1 < d
   ·have e:(List.filter (fun p:Id × O=>decide (p.1.1 < d)) ((j,v) :: l))=(j,v) :: List.filter (fun p:Id × O=>decide (p.1.1 < d)) l:=List.filter_cons_of_pos (by simpa using hj)
    rw [e,look_cons,if_neg hi]
   ·have e:(List.filter (fun p:Id × O=>decide (p.1.1 < d)) ((j,v) :: l))=List.filter (fun p:Id × O=>decide (p.1.1 < d)) l:=List.filter_cons_of_neg (by simpa using hj)
    rw [e]
noncomputable def resIn (u:Nat):ResultVar→Bool
 | .tmp t=>noIn u t
 | .cell a _=>noIn u a
theorem resAs_den {P:Program} {b:St} {u:Nat} {g:Fs} {s:St} (k:Den b u g s):∀ {l:List ResultVar},l.all (resIn u)=true→resAs P s l=resAs P (toSt b g) l
 | [],_=>rfl
 | r :: l,h=>by
  rw [List.all_cons,Bool.and_eq_true] at h
  have e:resA P s r=resA P (toSt b g) r:=by
   cases r with
   | tmp t =>
    have h1:noIn u t=true:=h.1
    show (if t < s.n then some (s.t t) else none)=if t < b.n then some (lookT g.ts b.t t) else none
    rw [k.n,k.t t h1]
   | cell a t =>
    have h1:noIn u a=true:=h.1
    show (if a < s.n then (loadE P s.h t (s.t a)).map (·.v) else none)=if a < b.n then (loadE P (look g.hs b.h) t (lookT g.ts b.t a)).map (·.v) else none
    rw [k.n,k.t a h1,k.h]
  unfold resAs
  rw [e,resAs_den k h.2]
noncomputable def bodyRF (P:Program) (fn:Func) (b:St) (g:Fs):Option (R × List (Id × O)) :=
 if fn.results.toList.all (resIn g.u)=true then
  ((resAs P (toSt b g) fn.results.toList).bind (resR (keepT fn.name) b.d (toSt b g).h)).bind fun r=>if okW b.d b.al (frz (toSt b g).h r.2) then some (r.1,(inssA g.hs (frz (toSt b g).h r.2)).filter fun p=>decide (p.1.1 < b.d)) else none
 else none
theorem bodyRF_ok {P:Program} {fn:Func} {b:St} {g:Fs} {s:St} {r:R} {l:List (Id × O)} (k:Den b g.u g s) (h:bodyRF P fn b g=some (r,l)):bodyR P fn b.d b.h s=some (r,look l b.h):=by
 unfold bodyRF at h
 split at h
 ·rename_i hres
  unfold bodyR
  rw [resAs_den k hres]
  obtain ⟨x,h1,h2⟩:=Option.bind_eq_some_iff.1 h
  have hh:s.h=(toSt b g).h:=k.h
  rw [hh,k.d,k.al]
  rw [h1]
  simp only [Option.bind_some]
  split at h2
  ·rename_i hok
   rw [if_pos hok]
   cases h2
   rw [← look_filter,look_inssA]
   rfl
  ·cases h2
 ·cases h
noncomputable def oneR (P:Program) (fn:Func) (b:St):List (Ex × Fs)→Option (R × List (Id × O))
 | []=>none
 | (x,g) :: l =>
  if x = .normal ∨ x = .ret then
   match bodyRF P fn b g with
   | none=>none
   | some r=>if (l.all fun p=>(decide (p.1 = .normal) || decide (p.1 = .ret)) && (match bodyRF P fn b p.2 with | some q=>eqR r.1 q.1 && eqL eqH r.2 q.2 | none=>false))=true then some r else none
  else none
theorem oneR_ok {P:Program} {fn:Func} {b:St}:∀ {L:List (Ex × Fs)} {r:R × List (Id × O)},oneR P fn b L=some r→∀ x g,(x,g) ∈ L→(x = .normal ∨ x = .ret)∧bodyRF P fn b g=some r
 | [],r,h,x,g,hm=>by cases h
 | (y,k) :: l,r,h,x,g,hm=>by
  rw [oneR] at h
  split at h
  ·rename_i hy
   split at h
   ·cases h
   ·rename_i r' hr'
    split at h
    ·rename_i hall
     cases h
     rcases List.mem_cons.1 hm with hm | hm
     ·cases hm
      exact ⟨hy,hr'⟩
     ·have:=List.all_eq_true.1 hall _ hm
      simp only [Bool.and_eq_true,Bool.or_eq_true,decide_eq_true_eq] at this
      refine ⟨this.1,?_⟩
      have h2:=this.2
      split at h2
      ·rename_i q hq
       simp only [Bool.and_eq_true] at h2
       rw [hq]
       obtain ⟨a,c⟩:=q
       obtain ⟨a',c'⟩:=r
       have e1:=eqR_ok _ _ h2.1
       have e2:=eqL_ok eqH_ok h2.2
       simp only at e1 e2
       rw [e1,e2]
      ·cases h2
    ·cases h
  ·cases h
abbrev Dl:=FuncId→Nat→List Nat
noncomputable def bodyL (P:Program) (X:Orc) (dl:Dl) (n:Nat) (f:FuncId) (d:Nat) (h:Id→O) (az:List A):Option (R × List (Id × O)) :=
 match P.funcs[f]? with
 | none=>none
 | some fn =>
  match fn.body with
  | none=>none
  | some c =>
   if az.length ≤ fn.ntmps∧fn.name ≠ "runtime.NumGoroutine" then
    match outs P X n (initSt fn d h az) eqF (dl f) c ⟨.e,[],0⟩ with
    | none=>none
    | some L=>oneR P fn (initSt fn d h az) L
   else none
noncomputable def lookR (h:Id→O):Option (R × List (Id × O))→Option (R × (Id→O))
 | none=>none
 | some r=>some (r.1,look r.2 h)
theorem bodyL_ok {P:Program} {X:Orc} {dl:Dl} {n:Nat} {f:FuncId} {d:Nat} {h:Id→O} {az:List A} {r:R × List (Id × O)} (e:bodyL P X dl n f d h az=some r):Bx P X n f d h az (r.1,look r.2 h):=by
 unfold bodyL at e
 split at e
 ·cases e
 ·rename_i fn hf
  split at e
  ·cases e
  ·rename_i c hc
   split at e
   ·rename_i hl
    split at e
    ·cases e
    ·rename_i L hL
     have h1:=outs_ok P X n (initSt fn d h az) eqF (dl f) eqF_ok c (Den.self _ _ _) hL
     have h2:toSt (initSt fn d h az) ⟨.e,[],0⟩=initSt fn d h az:=rfl
     rw [h2] at h1
     refine bx_bodyD hf hc hl.1 hl.2 ?_
     rw [Dk_code]
     refine Wx_mono c (fun x s he=>?_) h1
     obtain ⟨g,hg,kg⟩:=he
     obtain ⟨k1,k2⟩:=oneR_ok e x g hg
     have k3:=bodyRF_ok kg k2
     rcases k1 with rfl | rfl
     ·show Dk P X n [] _ _
      rw [Dk_nil]
      exact ⟨Or.inl rfl,k3⟩
     ·show Du P X n .ret [] _ _
      rw [Du_nil]
      exact ⟨Or.inr rfl,k3⟩
   ·cases e
noncomputable def evalA (P:Program) (ext:Exts) (dl:Dl):Nat→Orc
 | 0=>fun _ _ _ _=>none
 | n + 1=>fun f d h az =>
  match ext f with
  | some g=>g d h az
  | none=>lookR h (bodyL P (evalA P ext dl n) dl (n + 1) f d h az)
theorem evalA_ev {P:Program} {ext:Exts} {dl:Dl}:∀ {n:Nat} {f:FuncId} {d:Nat} {h:Id→O} {az:List A} {r:R × (Id→O)},evalA P ext dl n f d h az=some r→Ev P ext f d h az r
 | 0,f,d,h,az,r,e=>by unfold evalA at e; cases e
 | n + 1,f,d,h,az,r,e=>by
  unfold evalA at e
  split at e
  ·rename_i g hg
   exact .ext f d h az r g hg e
  ·rename_i hx
   cases hb:bodyL P (evalA P ext dl n) dl (n + 1) f d h az with
   | none=>rw [hb] at e; cases e
   | some q =>
    rw [hb] at e
    cases e
    exact .body f d h az _ _ _ hx (fun f' d' h' as' r' k=>evalA_ev k) (bodyL_ok hb)
theorem evr_evalA {P:Program} {ext:Exts} {dl:Dl} {n:Nat} {f:FuncId} {d:Nat} {h:Id→O} {az:List A} {r:R × (Id→O)} (e:evalA P ext dl n f d h az=some r):evr P ext f d h az=some r:=evr_iff.2 (evalA_ev e)
end
section
structure SubO (X Y:Orc):Prop where
 plain:∀ f az r,az.all A.plain=true→X f 0 (fun _=>.no 0) az=some r→∃ h',Y f 0 (fun _=>.no 0) az=some (r.1,h')
 deep:∀ f d h az r,X f (d + 1) h az=some r→Y f (d + 1) h az=some r
section
variable {P:Program} {X Y:Orc} (hs:SubO X Y)
include hs
theorem callE_sub {d:Nat} {h:Id→O} {id:Id} {f:FuncId} {l:List A} {e:Eff} (h1:callE X d h id f l=some e):callE Y d h id f l=some e:=by
 unfold callE at h1 ⊢
 split at h1
 ·cases h1
 ·rename_i az ids hfz
  split at h1
  ·rename_i hp
   rw [if_pos hp]
   split at h1
   ·rename_i r k hx
    obtain ⟨h',hy⟩:=hs.plain _ _ _ hp hx
    rw [hy]
    exact h1
   ·cases h1
  ·rename_i hp
   rw [if_neg hp]
   split at h1
   ·rename_i hcl
    rw [if_pos hcl]
    split at h1
    ·rename_i r k hx
     rw [hs.deep _ _ _ _ _ hx]
     exact h1
    ·cases h1
   ·cases h1
theorem opE_sub {d:Nat} {ev:Operand→A} {h:Id→O} {id:Id} {o:Oper} {e:Eff} (h1:opE P X d ev h id o=some e):opE P Y d ev h id o=some e:=by
 by_cases hcall:∃ c x,o.op = .call c∧c.callee = .value x
 ·obtain ⟨c,x,hop,hcl⟩:=hcall
  unfold opE at h1 ⊢
  rw [hop] at h1 ⊢
  cases x with
  | func f =>
   simp only [hcl] at h1 ⊢
   exact callE_sub hs h1
  | tmp t =>
   simp only [hcl] at h1 ⊢
   split at h1
   ·rename_i f caps hx
    exact callE_sub hs h1
   ·cases h1
  | const v =>
   simp only [hcl] at h1 ⊢
   split at h1
   ·rename_i f caps hx
    exact callE_sub hs h1
   ·cases h1
  | global g =>
   simp only [hcl] at h1 ⊢
   split at h1
   ·rename_i f caps hx
    exact callE_sub hs h1
   ·cases h1
 ·have e0:opE P X d ev h id o=opE P Y d ev h id o:=by
   unfold opE
   split <;> try rfl
   rename_i c hop
   split <;> try rfl
   ·rename_i f hcl
    exact absurd ⟨c,_,hop,hcl⟩ hcall
   ·rename_i x hcl
    exact absurd ⟨c,_,hop,by assumption⟩ hcall
  rw [← e0]; exact h1
theorem stepE_sub {ops:Array Oper} {o:Oper} {st:St} {e:Eff} (h1:stepE P X ops o st=some e):stepE P Y ops o st=some e:=by
 unfold stepE at h1 ⊢
 split at h1
 ·rename_i hd
  rw [if_pos hd]
  split at h1
  ·unfold chkE at h1 ⊢
   split at h1
   ·rename_i e1 hop1
    rw [opE_sub hs hop1]
    exact h1
   ·cases h1
  ·exact h1
  ·cases h1
 ·cases h1
theorem runTr_sub {ops:Array Oper}:∀ {l:List Oper} {st:St} {p:St × List Eff},runTr P X ops l st=some p→runTr P Y ops l st=some p
 | [],st,p,h1=>h1
 | o :: l,st,p,h1=>by
  unfold runTr at h1 ⊢
  split at h1
  ·cases h1
  ·rename_i e he
   rw [stepE_sub hs he]
   simp only
   split at h1
   ·cases h1
   ·rename_i s es hr
    rw [runTr_sub hr]
    exact h1
theorem wops_sub {ops:Array Oper}:∀ {l:List Oper} {st:St} {K:St→Prop},WOps P X ops l st K→WOps P Y ops l st K
 | [],st,K,h1=>h1
 | o :: l,st,K,h1=>by
  unfold WOps at h1 ⊢
  rcases h1 with ⟨e,g1,g2⟩ | ⟨x,es,hop,hd,hw,hes,hk,hall⟩
  ·exact Or.inl ⟨e,stepE_sub hs g1,wops_sub g2⟩
  ·exact Or.inr ⟨x,es,hop,hd,hw,hes,hk,fun e he=>wops_sub (hall e he)⟩
omit hs in
theorem wit_sub {f g:St→(Ex→St→Prop)→Prop} (hm:∀ st K L,(∀ x s,K x s→L x s)→g st K→g st L) (hfg:∀ st K,f st K→g st K):∀ {n:Nat} {st:St} {K:Ex→St→Prop},Wit f n st K→Wit g n st K
 | 0,_,_,h1=>h1
 | n + 1,st,K,h1=>by
  unfold Wit at h1 ⊢
  refine hm _ _ _ (fun x s k=>?_) (hfg _ _ h1)
  cases x with
  | normal=>exact wit_sub hm hfg k
  | exit i=>exact k
  | goto i=>exact k
  | ret=>exact k
theorem wx_sub {n:Nat}:∀ (c:Code) {st:St} {K:Ex→St→Prop},Wx P X n c st K→Wx P Y n c st K
 | .skip,st,K,h1 | .label _,st,K,h1 | .exit _,st,K,h1 | .goto _,st,K,h1 | .ret,st,K,h1=>h1
 | .region _ ops false,st,K,h1=>wops_sub hs h1
 | .region _ ops true,st,K,h1=>by
  obtain ⟨s1,es1,g1,g2,k⟩:=h1
  exact ⟨s1,es1,runTr_sub hs g1,g2,k⟩
 | .seq a b,st,K,h1=>by
  unfold Wx at h1 ⊢
  refine Wx_mono a (fun x s k=>?_) (wx_sub a h1)
  cases x with
  | normal=>exact wx_sub b k
  | exit i=>exact k
  | goto i=>exact k
  | ret=>exact k
 | .cond c a b,st,K,h1=>by
  unfold Wx at h1 ⊢
  cases hb:(st.ev c).bool? with
  | none=>rw [hb] at h1; exact absurd h1 id
  | some t =>
   rw [hb] at h1
   cases t with
   | true=>exact wx_sub a h1
   | false=>exact wx_sub b h1
 | .block id a,st,K,h1=>by
  unfold Wx at h1 ⊢
  exact wx_sub a h1
 | .loop a,st,K,h1=>wit_sub (f:=Wx P X n a) (g:=Wx P Y n a) (fun st K L k=>Wx_mono a k) (fun s K g1=>wx_sub a g1) h1
 | .scope a,st,K,h1=>by
  unfold Wx at h1 ⊢
  exact wx_sub a h1
 | .rangeFunc ..,st,K,h1=>absurd h1 id
 | .refuse _,st,K,h1=>absurd h1 id
theorem bx_sub {n:Nat} {f:FuncId} {d:Nat} {h:Id→O} {az:List A} {r:R × (Id→O)} (h1:Bx P X n f d h az r):Bx P Y n f d h az r:=by
 obtain ⟨fn,c,g1,g2,g3,g4,g5⟩:=h1
 exact ⟨fn,c,g1,g2,g3,g4,wx_sub hs c g5⟩
end
abbrev Tab:=List (FuncId × List A × R)
def tabX (l:Tab) (Y:Orc):Orc:=fun f d h az =>
 match d with
 | 0=>match l.find? fun e=>Nat.beq e.1 f && eqL eqA e.2.1 az with | some e=>some (e.2.2,fun _=>.no 0) | none=>Y f 0 h az
 | d + 1=>Y f (d + 1) h az
theorem tabX_sub {P:Program} {ext:Exts} {l:Tab} {Y:Orc} (hl:∀ e ∈ l,∃ h',evr P ext e.1 0 (fun _=>.no 0) e.2.1=some (e.2.2,h')) (hY:∀ f d h az r,Y f d h az=some r→evr P ext f d h az=some r):SubO (tabX l Y) (evr P ext):=by
 refine ⟨fun f az r _ h=>?_,fun f d h az r k=>hY f (d + 1) h az r k⟩
 unfold tabX at h
 simp only at h
 split at h
 ·rename_i e he
  cases h
  have hm:=List.mem_of_find?_eq_some he
  have hb:=List.find?_some he
  simp only [Bool.and_eq_true] at hb
  obtain ⟨h',k⟩:=hl e hm
  rw [Nat.eq_of_beq_eq_true hb.1,eqL_ok eqA_ok hb.2] at k
  exact ⟨h',k⟩
 ·exact ⟨r.2,hY f 0 _ az r h⟩
theorem evr_tab {P:Program} {ext:Exts} {dl:Dl} {l:Tab} {m n:Nat} (hl:∀ e ∈ l,∃ h',evr P ext e.1 0 (fun _=>.no 0) e.2.1=some (e.2.2,h')) {f:FuncId} (hx:ext f=none) {d:Nat} {h:Id→O} {az:List A} {r:R × List (Id × O)} (e:bodyL P (tabX l (evalA P ext dl m)) dl n f d h az=some r):evr P ext f d h az=some (r.1,look r.2 h) :=
 evr_body hx (bx_sub (tabX_sub hl fun f d h az r k=>evr_evalA k) (bodyL_ok e))
end
end Go.Proofs.YtenoggjjhamdaaaGreatDoor.Dm
