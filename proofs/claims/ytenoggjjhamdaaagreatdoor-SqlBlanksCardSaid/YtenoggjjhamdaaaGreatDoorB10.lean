/-
  WHAT IS PROVED HERE: parts of the proof: Sx9 SxQ SxA SxB.
-/
import Derived.Test.YtenoggjjhamdaaaGreatDoorB09
set_option linter.all false
namespace Go.Proofs.YtenoggjjhamdaaaGreatDoor
open Go Go.RowKit
section
noncomputable section
theorem equal_bool {P:Program} {t:TypeId} (ht:P.underlying t=some .bool) (a b:Bool):pureRun P (Op.equal t (.bool a) (.bool b))=some (a == b):=by
 have key:∀ d,pureRun P (Op.equalIn (d + 1) t (.bool a) (.bool b))=some (a == b):=fun d=>by
  simp only [Op.equalIn,pureRun_bind,pure_under ht,Option.bind_some,pureRun_pure]
 exact key 9999
theorem bool_eql {P:Program} {t:TypeId} (x y:Operand) (a b:Bool) (ht:P.underlying t=some .bool):exBin P .eql t x y (.d (.s (.bool a))) (.d (.s (.bool b)))=some { v:=.d (.s (.bool (a == b))) } ∧ exBin P .neq t x y (.d (.s (.bool a))) (.d (.s (.bool b)))=some { v:=.d (.s (.bool !(a == b))) }:=by
 constructor
 ·unfold exBin
  simp only [A.exact,pureRun_bind,binOp,equal_bool ht,Option.bind_some,pureRun_pure]
  rfl
 ·unfold exBin
  simp only [A.exact,pureRun_bind,binOp,equal_bool ht,Option.bind_some,pureRun_pure]
  rfl
def plainOp:BinOp→Bool
 | .add | .sub | .mul | .and | .or | .xor | .andNot=>true
 | _=>false
theorem plain_ex {P:Program} {op:BinOp} (h:plainOp op=true) (t:TypeId) (x y:Operand) (k:IntKind) (a b:Int):∃ n,exBin P op t x y (.d (.s (.int k a))) (.d (.s (.int k b)))=some { v:=.d (.s (.int k n)) }:=by
 cases op <;> simp only [plainOp,Bool.false_eq_true] at h
 ·exact ⟨_,ex_add ..⟩
 ·exact ⟨_,ex_sub ..⟩
 ·exact ⟨_,ex_mul ..⟩
 ·exact ⟨_,ex_and ..⟩
 ·exact ⟨_,ex_or ..⟩
 ·exact ⟨_,ex_xor ..⟩
 ·exact ⟨_,ex_andNot ..⟩
def inI64 (fs:List Fact) (S:Term × Int):Bool:=leI fs (zT,-9223372036854775808) S 0 && leI fs S (zT,9223372036854775807) 0
theorem inI64_ok {v:AP→A} {fs:List Fact} (hf:FOk v fs) {S:Term × Int} (h:inI64 fs S=true):IntKind.i64.wrap (tv v S.1 + S.2)=tv v S.1 + S.2:=by
 unfold inI64 at h
 rw [Bool.and_eq_true] at h
 have h1:=leI_ok hf h.1
 have h2:=leI_ok hf h.2
 have z0:tv v zT=0:=rfl
 simp only [z0] at h1 h2
 exact wrap_i64 (by omega) (by omega)
def eqI (S:Term × Int):List Fact:=[.f (leF ((1,5,0,0),0) S 0),.f (leF S ((1,5,0,0),0) 0)]
theorem eqI_ok {v:AP→A} {S:Term × Int} {n:Int} (h5:intA (v (5,0,0))=n) (h:n=tv v S.1 + S.2):FOk v (eqI S):=by
 have h6:tv v (1,5,0,0)=n:=h5
 intro f hf
 simp only [eqI,List.mem_cons,List.not_mem_nil,or_false] at hf
 rcases hf with rfl | rfl
 ·exact leF_ok.2 (by simp only [h6]; omega)
 ·exact leF_ok.2 (by simp only [h6]; omega)
def sumFs (op:BinOp) (k:IntKind) (fs:List Fact) (X Y:Term × Int):List Fact :=
 if !kindEq k .i64 then [] else
 match op with
 | .add=>if Y.1 == zT then (if inI64 fs (X.1,X.2 + Y.2) then eqI (X.1,X.2 + Y.2) else []) else if X.1 == zT then (if inI64 fs (Y.1,X.2 + Y.2) then eqI (Y.1,X.2 + Y.2) else []) else []
 | .sub=>if Y.1 == zT then (if inI64 fs (X.1,X.2 - Y.2) then eqI (X.1,X.2 - Y.2) else []) else []
 | _=>[]
theorem sum_ok {v:AP→A} {P:Program} {op:BinOp} {k:IntKind} {fs:List Fact} (hf:FOk v fs) {X Y:Term × Int} {a b n:Int} {t:TypeId} {x y:Operand} (ha:a=tv v X.1 + X.2) (hb:b=tv v Y.1 + Y.2)
  (he:exBin P op t x y (.d (.s (.int k a))) (.d (.s (.int k b)))=some { v:=.d (.s (.int k n)) }) (h5:intA (v (5,0,0))=n):FOk v (sumFs op k fs X Y):=by
 have no:FOk v []:=fun f hf=>by cases hf
 have z0:tv v zT=0:=rfl
 unfold sumFs
 split
 ·exact no
 ·rename_i hk
  have hk:k = .i64:=by simpa [kindEq] using hk
  subst hk
  split
  ·rw [ex_add] at he
   simp only [Option.some.injEq,Eff.mk.injEq,A.d.injEq,D.s.injEq,Value.int.injEq,true_and,and_true] at he
   split
   ·rename_i h1
    have h1:=eq_of_beq h1
    split
    ·rename_i h2
     have:=inI64_ok hf h2
     refine eqI_ok h5 ?_
     rw [← this,← he]
     congr 1
     rw [h1] at hb
     simp only [z0] at hb
     simp only
     omega
    ·exact no
   ·split
    ·rename_i h1
     have h1:=eq_of_beq h1
     split
     ·rename_i h2
      have:=inI64_ok hf h2
      refine eqI_ok h5 ?_
      rw [← this,← he]
      congr 1
      rw [h1] at ha
      simp only [z0] at ha
      simp only
      omega
     ·exact no
    ·exact no
  ·rw [ex_sub] at he
   simp only [Option.some.injEq,Eff.mk.injEq,A.d.injEq,D.s.injEq,Value.int.injEq,true_and,and_true] at he
   split
   ·rename_i h1
    have h1:=eq_of_beq h1
    split
    ·rename_i h2
     have:=inI64_ok hf h2
     refine eqI_ok h5 ?_
     rw [← this,← he]
     congr 1
     rw [h1] at hb
     simp only [z0] at hb
     simp only
     omega
    ·exact no
   ·exact no
  ·exact no
def strCmp:BinOp→Bool
 | .eql | .neq | .lss | .leq | .gtr | .geq=>true
 | _=>false
theorem str_ex {P:Program} {op:BinOp} (h:strCmp op=true) (t:TypeId) (x y:Operand) (a b:ByteArray):∃ q,exBin P op t x y (.d (.s (.string a))) (.d (.s (.string b)))=some { v:=.d (.s (.bool q)) }:=by
 cases op <;> simp only [strCmp,Bool.false_eq_true] at h
 ·exact ⟨_,exs_eql ..⟩
 ·exact ⟨_,exs_neq ..⟩
 ·exact ⟨_,exs_lss ..⟩
 ·exact ⟨_,exs_leq ..⟩
 ·exact ⟨_,exs_gtr ..⟩
 ·exact ⟨_,exs_geq ..⟩
def isEq:BinOp→Bool
 | .eql | .neq=>true
 | _=>false
def rankT (t:Term):Nat:=match t.1 with | 0=>0 | _=>match t.2.1 with | 0=>t.2.2.1 + 2 | 1=>t.2.2.1 + 2 | 2=>1 | 3=>1 | _=>1000000
def canon1 (fs:List Fact) (T:Term):Option Term :=
 fs.findSome? fun f=>match f with
  | .f (.le a b c)=>if a == T && Nat.blt (rankT b) (rankT T) && decide (0 ≤ c) && hasF fs (.le b T 0) then some b else none
  | _=>none
def canon (fs:List Fact):Nat→Term→Term
 | 0,T=>T
 | n + 1,T=>match canon1 fs T with | some b=>canon fs n b | none=>T
theorem hasF_ok {v:AP→A} {fs:List Fact} (hf:FOk v fs) {x:LF} (h:hasF fs x=true):x.ok v:=hf _ (hasF_mem h)
theorem canon1_ok {v:AP→A} {fs:List Fact} (hf:FOk v fs) {T b:Term} (h:canon1 fs T=some b):tv v T=tv v b:=by
 unfold canon1 at h
 obtain ⟨f,hm,h1⟩:=List.exists_of_findSome?_eq_some h
 split at h1
 ·rename_i a b' c
  split at h1
  ·rename_i hc
   cases h1
   rw [Bool.and_eq_true,Bool.and_eq_true,Bool.and_eq_true] at hc
   obtain ⟨⟨⟨h2,_⟩,h3⟩,h4⟩:=hc
   have h2:=eq_of_beq h2
   have h3:=of_decide_eq_true h3
   have e1:=hf _ hm
   have e2:=hasF_ok hf h4
   simp only [Fact.ok,LF.ok] at e1 e2
   rw [h2] at e1
   omega
  ·cases h1
 ·cases h1
theorem canon_ok {v:AP→A} {fs:List Fact} (hf:FOk v fs):∀ (n:Nat) (T:Term),tv v (canon fs n T)=tv v T
 | 0,T=>rfl
 | n + 1,T=>by
  unfold canon
  split
  ·rename_i b hb
   rw [canon_ok hf n b,canon1_ok hf hb]
  ·rfl
def opC (σ:SS) (x:Operand):Option (Term × Int):=match opI σ x with | some X=>some (canon σ.fs 4 X.1,X.2) | none=>none
theorem opC_ok {C:Cx} {σ:SS} {st:St} (g:Ga C σ st) {o:Operand} {T:Term} {z:Int} (h:opC σ o=some (T,z)) {v:AP→A} (hv:Now C st v):intA (st.ev o)=tv v T + z:=by
 unfold opC at h
 split at h
 ·rename_i X hX
  cases h
  rw [canon_ok (g.fs v hv)]
  exact opI_ok g hX hv
 ·cases h
def nqFs (op:BinOp) (fs:List Fact) (X Y:Term × Int):List Fact :=
 match op with
 | .eql=>(if leI fs Y X 0 then [.imp (5,0,0) false (leF Y X 1)] else []) ++ (if leI fs X Y 0 then [.imp (5,0,0) false (leF X Y 1)] else [])
 | .neq=>(if leI fs Y X 0 then [.imp (5,0,0) true (leF Y X 1)] else []) ++ (if leI fs X Y 0 then [.imp (5,0,0) true (leF X Y 1)] else [])
 | _=>[]
theorem nqFs_ok {v:AP→A} {op:BinOp} {fs:List Fact} (hf:FOk v fs) {X Y:Term × Int} {a b:Int} (ha:a=tv v X.1 + X.2) (hb:b=tv v Y.1 + Y.2) (h5:boolA (v (5,0,0))=cmpV op a b):FOk v (nqFs op fs X Y):=by
 have one:∀ (c:Bool) (d:Bool) (x:LF),(c=true→boolA (v (5,0,0))=d→x.ok v)→FOk v (if c then [.imp (5,0,0) d x] else []):=by
  intro c d x h
  cases c with
  | false=>intro f hf; cases hf
  | true =>
   intro f hf
   simp only [if_true,List.mem_singleton] at hf
   subst hf
   exact h rfl
 unfold nqFs
 split
 ·simp only [cmpV] at h5
  refine FOkA (one _ _ _ fun h1 h2=>?_) (one _ _ _ fun h1 h2=>?_) <;> rw [h5] at h2 <;> simp at h2 <;> have:=leI_ok hf h1 <;> rw [leF_ok] <;> omega
 ·simp only [cmpV] at h5
  refine FOkA (one _ _ _ fun h1 h2=>?_) (one _ _ _ fun h1 h2=>?_) <;> rw [h5] at h2 <;> simp at h2 <;> have:=leI_ok hf h1 <;> rw [leF_ok] <;> omega
 ·intro f hf; cases hf
def sBin (P:Program) (eqs:List (TypeId × List Ty)) (σ:SS) (op:BinOp) (t:TypeId) (x y:Operand):Option Out :=
 match opTV σ x,opTV σ y with
 | .c (.int k),.c (.int k') =>
  if kindEq k k' then
   match opC σ x,opC σ y with
   | some X,some Y =>
    match cmpFs op X Y with
    | some fs=>some { act:=.wr (.c .bool) [] (fs ++ nqFs op σ.fs X Y) }
    | none =>
     if plainOp op then some { act:=.wr (.c (.int k)) [] (sumFs op k σ.fs X Y) }
     else match op with
      | .quo | .rem=>if Y.1 == zT && !(Y.2 == 0) then some { act:=.wr (.c (.int k)) [] [] } else none
      | _=>none
   | _,_=>none
  else none
 | .c (.str a),.c (.str b) =>
  if strCmp op then some { act:=.wr (.c .bool) [] [] }
  else match op with
   | .add=>if decide (a + b ≤ 4611686018427387904) then some { act:=.wr (.c (.str (a + b))) [] (tyB (5,0,0) (.str (a + b))) } else none
   | _=>none
 | .c .bool,.c .bool=>if isEq op then (match P.underlying t with | some .bool=>some { act:=.wr (.c .bool) [] [] } | _=>none) else none
 | .c (.st ts),.c (.st us)=>if isEq op && eqs.any fun p=>p.1 == t && Ty.subs ts p.2 && Ty.subs us p.2 then some { act:=.wr (.c .bool) [] [] } else none
 | _,_=>none
theorem sBin_ok {C:Cx} (hC:C.Ok) {X:Orc} {σ:SS} {st:St} (g:Ga C σ st) {o:Oper} {op:BinOp} {t t':TypeId} {x y:Operand} (ho:o.op = .binOp op t x y t') {out:Out} (h:sBin C.P C.eqs σ op t x y=some out):OpOk C X σ st o out:=by
 have hx:=opTV_ok g x
 have hy:=opTV_ok g y
 have hop:(st.ev x).isIfc=false→opE C.P X st.d st.ev st.h (st.d,o.dst.getD st.n) o=exBin C.P op t x y (st.ev x) (st.ev y):=by
  intro hi
  obtain ⟨dst,op',ty,pos,af,gd⟩:=o
  simp only at ho
  subst ho
  show (if (st.ev x).isIfc then _ else exactE _ _ _)=_
  rw [hi]
  exact exactE_bin ..
 have boolv:∀ q fs,exBin C.P op t x y (st.ev x) (st.ev y)=some { v:=.d (.s (.bool q)) }→(st.ev x).isIfc=false→(∀ v,New C st (.d (.s (.bool q))) [] v→FOk v fs)→OpOk C X σ st o { act:=.wr (.c .bool) [] fs }:=by
  intro q fs he hi hf
  refine out_val hC g (a:=.d (.s (.bool q))) (rd:=[]) (by rw [hop hi]; exact he) ?_ (fun _ hi=>by cases hi) fun v hv=>⟨fun p hp=>(by cases hp),hf v hv⟩
  simp only [TV.ok,ShT]; exact ⟨_,rfl,_,rfl⟩
 have intv:∀ n k fs,exBin C.P op t x y (st.ev x) (st.ev y)=some { v:=.d (.s (.int k n)) }→(st.ev x).isIfc=false→(∀ v,New C st (.d (.s (.int k n))) [] v→FOk v fs)→OpOk C X σ st o { act:=.wr (.c (.int k)) [] fs }:=by
  intro n k fs he hi hf
  refine out_val hC g (a:=.d (.s (.int k n))) (rd:=[]) (by rw [hop hi]; exact he) ?_ (fun _ hi=>by cases hi) fun v hv=>⟨fun p hp=>(by cases hp),hf v hv⟩
  simp only [TV.ok,ShT]; exact ⟨_,rfl,_,rfl⟩
 have no:∀ v:AP→A,FOk v []:=fun v f hf=>by cases hf
 unfold sBin at h
 split at h
 ·rename_i k k' tx ty
  rw [tx] at hx
  rw [ty] at hy
  simp only [TV.ok,ShT] at hx hy
  obtain ⟨_,ex,a,rfl⟩:=hx
  obtain ⟨_,ey,b,rfl⟩:=hy
  split at h
  ·rename_i hk
   obtain rfl:k=k':=by simpa [kindEq] using hk
   have hi:(st.ev x).isIfc=false:=by rw [ex]; rfl
   split at h
   ·rename_i X' Y' hX hY
    have e1:∀ v,Now C st v→a=tv v X'.1 + X'.2:=fun v hv=>by have:=opC_ok g hX hv; rw [ex] at this; exact this
    have e2:∀ v,Now C st v→b=tv v Y'.1 + Y'.2:=fun v hv=>by have:=opC_ok g hY hv; rw [ey] at this; exact this
    split at h
    ·rename_i fs hfs
     cases h
     refine boolv (cmpV op a b) _ (by rw [ex,ey]; exact cmp_ex hfs t x y k a b) hi fun v hv=>?_
     exact FOkA (cmpFs_ok hfs (e1 v hv.now) (e2 v hv.now) (by rw [hv.nv]; rfl)) (nqFs_ok (g.fs v hv.now) (e1 v hv.now) (e2 v hv.now) (by rw [hv.nv]; rfl))
    ·split at h
     ·rename_i hp
      cases h
      obtain ⟨n,hn⟩:=plain_ex (P:=C.P) hp t x y k a b
      refine intv n k _ (by rw [ex,ey]; exact hn) hi fun v hv=>?_
      exact sum_ok (g.fs v hv.now) (e1 v hv.now) (e2 v hv.now) hn (by rw [hv.nv]; rfl)
     ·split at h
      ·split at h
       ·rename_i hz
        cases h
        rw [Bool.and_eq_true] at hz
        have z1:=eq_of_beq hz.1
        have hb0:b ≠ 0:=by
         have:=e2 _ (nows C st)
         rw [z1] at this
         have z0:tv (apv C st) zT=0:=rfl
         rw [z0] at this
         have z2:Y'.2 ≠ 0:=by simpa using hz.2
         omega
        refine intv _ k [] (by rw [ex,ey,ex_quo,if_neg hb0]) hi fun v _=>no v
       ·cases h
      ·split at h
       ·rename_i hz
        cases h
        rw [Bool.and_eq_true] at hz
        have z1:=eq_of_beq hz.1
        have hb0:b ≠ 0:=by
         have:=e2 _ (nows C st)
         rw [z1] at this
         have z0:tv (apv C st) zT=0:=rfl
         rw [z0] at this
         have z2:Y'.2 ≠ 0:=by simpa using hz.2
         omega
        refine intv _ k [] (by rw [ex,ey,ex_rem,if_neg hb0]) hi fun v _=>no v
       ·cases h
      ·cases h
   ·cases h
  ·cases h
 ·rename_i a b tx ty
  rw [tx] at hx
  rw [ty] at hy
  simp only [TV.ok,ShT] at hx hy
  obtain ⟨_,ex,s,rfl,hs⟩:=hx
  obtain ⟨_,ey,u,rfl,hu⟩:=hy
  have hi:(st.ev x).isIfc=false:=by rw [ex]; rfl
  split at h
  ·rename_i hp
   cases h
   obtain ⟨q,hq⟩:=str_ex (P:=C.P) hp t x y s u
   exact boolv q [] (by rw [ex,ey]; exact hq) hi fun v _=>no v
  ·split at h
   ·split at h
    ·rename_i hb
     have hb:=of_decide_eq_true hb
     cases h
     have hsz:(s ++ u).size ≤ a + b:=by rw [ByteArray.size_append]; omega
     refine out_val hC g (a:=.d (.s (.string (s ++ u)))) (rd:=[]) ?_ ?_ (fun _ hi=>by cases hi) fun v hv=>⟨fun p hp=>(by cases hp),?_⟩
     ·rw [hop hi,ex,ey,exs_add,if_pos (by omega)]
     ·simp only [TV.ok,ShT]; exact ⟨_,rfl,_,rfl,hsz⟩
     ·refine tyB_ok (R:=C.R) (gbOf hC hv.now) (x:=.s (.string (s ++ u))) ?_ (hv.nv 0 0)
      simp only [ShT]; exact ⟨_,rfl,hsz⟩
    ·cases h
   ·cases h
 ·rename_i tx ty
  rw [tx] at hx
  rw [ty] at hy
  simp only [TV.ok,ShT] at hx hy
  obtain ⟨_,ex,s,rfl⟩:=hx
  obtain ⟨_,ey,u,rfl⟩:=hy
  have hi:(st.ev x).isIfc=false:=by rw [ex]; rfl
  split at h
  ·rename_i he
   split at h
   ·rename_i hu
    cases h
    have hb:=bool_eql (P:=C.P) x y s u hu
    cases op <;> simp only [isEq,Bool.false_eq_true] at he
    ·exact boolv _ [] (by rw [ex,ey]; exact hb.1) hi fun v _=>no v
    ·exact boolv _ [] (by rw [ex,ey]; exact hb.2) hi fun v _=>no v
   ·cases h
  ·cases h
 ·rename_i ts us tx ty
  rw [tx] at hx
  rw [ty] at hy
  simp only [TV.ok,ShT] at hx hy
  obtain ⟨_,ex,xs,rfl,hxs⟩:=hx
  obtain ⟨_,ey,ys,rfl,hys⟩:=hy
  have hi:(st.ev x).isIfc=false:=by rw [ex]; rfl
  split at h
  ·rename_i he
   cases h
   rw [Bool.and_eq_true] at he
   obtain ⟨p,hp,hq⟩:=List.any_eq_true.1 he.2
   rw [Bool.and_eq_true,Bool.and_eq_true] at hq
   obtain ⟨q,h1,h2⟩:=hC.eqs p hp xs ys (subs_ok hC.rel _ _ _ hq.1.2 hxs) (subs_ok hC.rel _ _ _ hq.2 hys) x y
   have hpt:p.1=t:=eq_of_beq hq.1.1
   rw [hpt] at h1 h2
   have he1:=he.1
   cases op <;> simp only [isEq,Bool.false_eq_true] at he1
   ·exact boolv _ [] (by rw [ex,ey]; exact h1) hi fun v _=>no v
   ·exact boolv _ [] (by rw [ex,ey]; exact h2) hi fun v _=>no v
  ·cases h
 ·cases h
def sUn (σ:SS) (op:UnOp) (x:Operand):Option Out :=
 match op,opTV σ x with
 | .not,.c .bool=>some { act:=.wr (.c .bool) [] (impB σ x false (5,0,0) true ++ impB σ x true (5,0,0) false) }
 | .neg,.c (.int k)=>some { act:=.wr (.c (.int k)) [] [] }
 | _,_=>none
theorem sUn_ok {C:Cx} (hC:C.Ok) {X:Orc} {σ:SS} {st:St} (g:Ga C σ st) {o:Oper} {op:UnOp} {t:TypeId} {x:Operand} (ho:o.op = .unOp op t x) {out:Out} (h:sUn σ op x=some out):OpOk C X σ st o out:=by
 have hx:=opTV_ok g x
 have hop:opE C.P X st.d st.ev st.h (st.d,o.dst.getD st.n) o=(match (st.ev x).exact with | some u=>(pureRun C.P (Op.unary op u)).map fun v=>{ v:=ofV v } | none=>none):=by
  obtain ⟨dst,op',ty,pos,af,gd⟩:=o
  simp only at ho
  subst ho
  show exactE _ _ _=_
  exact exactE_un ..
 unfold sUn at h
 split at h
 ·rename_i tx
  cases h
  rw [tx] at hx
  simp only [TV.ok,ShT] at hx
  obtain ⟨_,ex,b,rfl⟩:=hx
  refine out_val hC g (a:=.d (.s (.bool !b))) (rd:=[]) ?_ ?_ (fun _ hi=>by cases hi) fun v hv=>⟨fun p hp=>(by cases hp),?_⟩
  ·rw [hop,ex]; rfl
  ·simp only [TV.ok,ShT]; exact ⟨_,rfl,_,rfl⟩
  ·have e5:boolA (v (5,0,0)) = !b:=by rw [hv.nv]; rfl
   have ex2:boolA (st.ev x)=b:=by rw [ex]; rfl
   refine FOkA (impB_ok g hv.now fun h=>?_) (impB_ok g hv.now fun h=>?_)
   ·rw [e5] at h; rw [ex2]; simpa using h
   ·rw [e5] at h; rw [ex2]; simpa using h
 ·rename_i k tx
  cases h
  rw [tx] at hx
  simp only [TV.ok,ShT] at hx
  obtain ⟨_,ex,n,rfl⟩:=hx
  refine out_val hC g (a:=.d (.s (.int k (k.wrap (0 - n))))) (rd:=[]) ?_ ?_ (fun _ hi=>by cases hi) fun v hv=>nofs v
  ·rw [hop,ex]; rfl
  ·simp only [TV.ok,ShT]; exact ⟨_,rfl,_,rfl⟩
 ·cases h
end
end
section
noncomputable section
def plainCell:TV→Bool
 | .c t=>t.flat
 | .nilv=>true
 | _=>false
theorem plainCell_ok {C:Cx} {h:Id→O} {t:TV} {a:A} (hx:TV.ok C h t a) (hp:plainCell t=true):(∀ k,A.low k a=true) ∧ ∀ i v o n,a ≠ .sl i v o n:=by
 cases t <;> simp only [plainCell,Bool.false_eq_true] at hp <;> simp only [TV.ok] at hx
 ·obtain ⟨x,rfl,_⟩:=hx
  exact ⟨fun _=>by simp [A.low],fun _ _ _ _ h=>by cases h⟩
 ·subst hx
  exact ⟨fun _=>by simp [A.low],fun _ _ _ _ h=>by cases h⟩
theorem plainCells_ok {C:Cx} {h:Id→O}:∀ {ts:List TV} {zs:List A},TV.oks C h ts zs→ts.all plainCell=true→(∀ k,A.lows k zs=true) ∧ ∀ i v o n,A.sl i v o n ∉ zs
 | [],zs,hx,_=>by simp only [TV.oks] at hx; subst hx; exact ⟨fun _=>rfl,fun _ _ _ _ h=>by cases h⟩
 | t :: ts,zs,hx,hp=>by
  simp only [TV.oks] at hx
  obtain ⟨a,l,rfl,h2,h3⟩:=hx
  rw [List.all_cons,Bool.and_eq_true] at hp
  have e1:=plainCell_ok h2 hp.1
  have e2:=plainCells_ok h3 hp.2
  refine ⟨fun k=>by simp only [A.lows,e1.1 k,e2.1 k,Bool.and_self],fun i v o n hm=>?_⟩
  rcases List.mem_cons.1 hm with hm | hm
  ·exact e1.2 i v o n hm.symm
  ·exact e2.2 i v o n hm
def lenPos (σ:SS) (x:Operand):Bool :=
 match opL σ x with
 | some L=>leI σ.fs (zT,0) L 1
 | none=>false
def adoptT:Option TV→Bool
 | some .nilv | some (.own _ _) | some .dead=>true
 | _=>false
theorem adoptT_ok {C:Cx} {h:Id→O} {ts:List TV} {zs:List A} (hx:TV.oks C h ts zs) {off:Nat} (ha:adoptT ts[off]? = true):adoptable zs[off]? = true:=by
 cases ht:ts[off]? with
 | none=>rw [ht] at ha; cases ha
 | some t =>
  obtain ⟨a,h1,h2⟩:=oks_get hx ht
  rw [h1]
  rw [ht] at ha
  cases t <;> simp only [adoptT,Bool.false_eq_true] at ha <;> simp only [TV.ok] at h2
  ·subst h2; rfl
  ·rcases h2 with ⟨xs,rfl,_⟩ | ⟨ver,n,xs,fz,rfl,_⟩ <;> rfl
  ·exact h2
def lenF (σ:SS) (x:Operand) (dst:AP):List Fact :=
 match opL σ x with
 | some L=>[.f (leF L ((2,dst),0) 0),.f (leF ((2,dst),0) L 0)]
 | none=>[]
theorem lenF_ok {C:Cx} {σ:SS} {st:St} (g:Ga C σ st) {x:Operand} {dst:AP} {v:AP→A} (hv:Now C st v) (h:lenA (v dst)=lenA (st.ev x)):FOk v (lenF σ x dst):=by
 unfold lenF
 split
 ·rename_i L hL
  have e1:=opL_ok g hL hv
  have e2:tv v (2,dst)=lenA (v dst):=rfl
  intro f hf
  simp only [List.mem_cons,List.not_mem_nil,or_false] at hf
  rcases hf with rfl | rfl
  ·exact leF_ok.2 (by simp only [e2]; omega)
  ·exact leF_ok.2 (by simp only [e2]; omega)
 ·intro f hf; cases hf
def sStoreG (P:Program) (E:Nat→Option (List Ty)) (wl:List Nat) (ads:List (Nat × Nat)) (σ:SS) (t:TypeId) (a x:Operand):Option Out :=
 match opTV σ a with
 | .bp (false,k) off =>
  match σ.hp.find? fun q=>q.1 == (false,k),cellsTV E (opTV σ x) with
  | some q,some l =>
   if wl.contains k then
    if l.all plainCell then
     if tsize P t == some l.length && decide (off + l.length ≤ q.2.length) then
      let f1:=linkC σ.fs (fun c=>(3,k,c)) (fun c=>(7,c,0)) 0 (q.2.take off)
      let f2:=cellF E σ x (fun c=>(7,off + c,0)) l
      let f3:=linkC σ.fs (fun c=>(3,k,c)) (fun c=>(7,c,0)) (off + l.length) (q.2.drop (off + l.length))
      some { act:=.gen .und [] [((false,k),putL q.2 off l)] (f1.1 ++ (f2.1 ++ f3.1)) (f1.2 ++ (f2.2 ++ f3.2)),rd:=[sN (false,k)],wr:=[sN (false,k)] }
     else none
    else
     match opTV σ x with
     | .own (true,j) e =>
      if tsize P t == some 1 && decide (off < 64) && decide (off < q.2.length) && ads.contains (k,off) && lenPos σ x && adoptT q.2[off]? then
       let f1:=linkC σ.fs (fun c=>(3,k,c)) (fun c=>(7,c,0)) 0 (q.2.take off)
       let f2:=lenF σ x (7,off,0)
       let f3:=linkC σ.fs (fun c=>(3,k,c)) (fun c=>(7,c,0)) (off + 1) (q.2.drop (off + 1))
       some { act:=.gen .und [(true,j),(false,adNum k off)] [((false,k),putL (q.2.map (killT [(true,j),(false,adNum k off)])) off [.own (false,adNum k off) e])] (f1.1 ++ f3.1) (f1.2 ++ (f2 ++ f3.2)),rd:=[sN (false,k),sN (false,adNum k off),j + 1],wr:=[j + 1,sN (false,adNum k off),sN (false,k)] }
      else none
     | _=>none
   else none
  | _,_=>none
 | _=>none
theorem linkP_ok {C:Cx} {fs:List Fact} {st:St} {k off n:Nat} {q:List TV} {cs:List A} {ver:Nat} (hb:st.h (C.π k) = .box ver cs) (hq:q.length=cs.length) (nc:List A) (hnl:nc.length=n) (hoff:off + n ≤ cs.length) {v:AP→A} (hv:Now C st v) (hv7:∀ c,v (7,c,0)=(put cs off nc).getD c .any) :
  ((∀ p ∈ (linkC fs (fun c=>(3,k,c)) (fun c=>(7,c,0)) 0 (q.take off)).1,v p.1=v p.2)∧FOk v (linkC fs (fun c=>(3,k,c)) (fun c=>(7,c,0)) 0 (q.take off)).2) ∧
  ((∀ p ∈ (linkC fs (fun c=>(3,k,c)) (fun c=>(7,c,0)) (off + n) (q.drop (off + n))).1,v p.1=v p.2)∧FOk v (linkC fs (fun c=>(3,k,c)) (fun c=>(7,c,0)) (off + n) (q.drop (off + n))).2) ∧ ∀ c,c < n→v (7,off + c,0)=nc.getD c .any:=by
 have htl:(cs.take off).length=off:=by simp; omega
 have b2:∀ c,v (3,k,c)=cs.getD c .any:=fun c=>by
  rw [hv _ (by show 3 < 5; decide)]
  show boxCell (st.h (C.π k)) c=_
  rw [hb]; rfl
 refine ⟨linkC_ok (v:=v) (fs:=fs) (f:=fun c=>(3,k,c)) (g:=fun c=>(7,c,0)) (l:=q.take off) (k:=0) fun c _ hc=>?_,linkC_ok (v:=v) (fs:=fs) (f:=fun c=>(3,k,c)) (g:=fun c=>(7,c,0)) (l:=q.drop (off + n)) (k:=off + n) fun c hc1 hc2=>?_,fun c hc=>?_⟩
 ·have hc:c < off:=by simp at hc; omega
  show v (3,k,c)=v (7,c,0)
  rw [b2,hv7]
  unfold put
  rw [List.append_assoc,getD_app1 (by omega),getD_take hc]
 ·show v (3,k,c)=v (7,c,0)
  rw [b2,hv7]
  unfold put
  have e1:(cs.take off ++ nc).length=off + n:=by rw [List.length_append,htl,hnl]
  have e2:=getD_app2 (l:=cs.take off ++ nc) (m:=cs.drop (off + nc.length)) (i:=c - (off + n)) (d:=A.any)
  rw [e1,show off + n + (c - (off + n))=c by omega,getD_drop,hnl,show off + n + (c - (off + n))=c by omega] at e2
  rw [hnl]
  exact e2.symm
 ·rw [hv7]
  unfold put
  have e1:∀ m:List A,(cs.take off ++ m).getD (off + c) .any=m.getD c .any:=fun m=>by
   have:=getD_app2 (l:=cs.take off) (m:=m) (i:=c) (d:=A.any)
   rw [htl] at this; exact this
  rw [List.append_assoc,e1,getD_app1 (by omega)]
theorem cp3 {v:AP→A} {a b c:List (AP × AP)} (h1:∀ p ∈ a,v p.1=v p.2) (h2:∀ p ∈ b,v p.1=v p.2) (h3:∀ p ∈ c,v p.1=v p.2):∀ p ∈ a ++ (b ++ c),v p.1=v p.2:=fun p hp=>by
 rcases List.mem_append.1 hp with hp | hp
 ·exact h1 p hp
 ·rcases List.mem_append.1 hp with hp | hp
  ·exact h2 p hp
  ·exact h3 p hp
theorem okW_ofQ {d:Nat} {al:List Id}:∀ {l:List (Id × O)},(∀ p ∈ l,p.1.1=d ∨ p.1 ∈ al)→okW d al l=true
 | [],_=>rfl
 | p :: l,h=>by
  unfold okW
  rw [okW_ofQ fun q hq=>h q (List.mem_cons_of_mem _ hq)]
  rcases h p List.mem_cons_self with h | h
  ·rw [h]; simp
  ·simp [h]
theorem sStoreG_ok {C:Cx} (hC:C.Ok) {X:Orc} {σ:SS} {st:St} (g:Ga C σ st) {o:Oper} {t:TypeId} {a x:Operand} (ho:o.op = .store t a x) {out:Out} (h:sStoreG C.P C.E C.wl C.ads σ t a x=some out):OpOk C X σ st o out:=by
 have hop:opE C.P X st.d st.ev st.h (st.d,o.dst.getD st.n) o=storeE C.P st.h t (st.ev a) (st.ev x):=by
  obtain ⟨dst,op,ty,pos,af,gd⟩:=o
  simp only at ho
  subst ho; rfl
 have hok:=opTV_ok g a
 have hxk:=opTV_ok g x
 unfold sStoreG at h
 split at h
 ·rename_i k off hp
  rw [hp] at hok
  simp only [TV.ok] at hok
  obtain ⟨ver,cs,he,hb⟩:=hok
  have hb:st.h (C.π k) = .box ver cs:=hb
  have he:st.ev a = .bp (C.π k) ver off:=he
  split at h
  ·rename_i q l hq hl
   have hq1:=g.hp q (List.mem_of_find?_eq_some hq)
   have hq2:q.1=(false,k):=by simpa using List.find?_some hq
   rw [hq2] at hq1
   obtain ⟨ver',cs',hb',hcs⟩:=hq1
   have hb':st.h (C.π k) = .box ver' cs':=hb'
   rw [hb] at hb'
   cases hb'
   obtain ⟨x1,x2,x3,x4⟩:=cellsTV_ok hC hxk hl
   have hcl:=oks_len hcs
   split at h
   ·rename_i hwl
    have hwl:k ∈ C.wl:=by simpa using hwl
    have hkn:=hC.wlk k hwl
    have hal:=g.al.1 k hkn
    have hlow0:=hC.low k hkn
    split at h
    ·rename_i hpl
     split at h
     ·rename_i hc
      rw [Bool.and_eq_true] at hc
      have hc1:=eq_of_beq hc.1
      have hc2:=of_decide_eq_true hc.2
      cases h
      have hpc:=plainCells_ok x1 hpl
      have hno:adoptE C.P st.h t (C.π k) ver off (st.ev x)=none:=by
       unfold adoptE
       split
       ·rename_i vid v len hsl
        exact absurd (show A.sl vid v 0 len ∈ (st.ev x).cells by rw [hsl]; simp [A.cells]) (hpc.2 _ _ _ _)
       ·rfl
      have hse:storeE C.P st.h t (st.ev a) (st.ev x)=some { v:=.d (.s undef),rd:=[C.π k],wr:=[(C.π k,.box ver (put cs off (st.ev x).cells))] }:=by
       rw [he]
       show (match adoptE C.P st.h t (C.π k) ver off (st.ev x) with | some e=>some e | none=>_)=_
       rw [hno]
       simp only [hb,hc1,lowCells_low (hpc.1 (C.π k).1),frz,List.nil_append]
       rw [if_pos ⟨trivial,x3,by omega,x2⟩]
      have hout:∀ i,({ v:=A.d (.s undef),rd:=[C.π k],wr:=[(C.π k,O.box ver (put cs off (st.ev x).cells))] }:Eff).out st.h i=upd st.h (C.π k) (.box ver (put cs off (st.ev x).cells)) i:=fun _=>rfl
      have hother:∀ p:PL,p ≠ (false,k)→({ v:=A.d (.s undef),rd:=[C.π k],wr:=[(C.π k,O.box ver (put cs off (st.ev x).cells))] }:Eff).out st.h (C.at p)=st.h (C.at p):=fun p hp=>by
       rw [hout]; show upd st.h (C.π k) _ (C.at p)=_; rw [upd_at,if_neg (show ¬ C.at p=C.π k from fun h=>hp (at_inj2 hC (q:=(false,k)) h))]
      have hself:({ v:=A.d (.s undef),rd:=[C.π k],wr:=[(C.π k,O.box ver (put cs off (st.ev x).cells))] }:Eff).out st.h (C.at (false,k)) = .box ver (put cs off (st.ev x).cells):=by
       rw [hout]; show upd st.h (C.π k) _ (C.π k)=_; rw [upd_at,if_pos rfl]
      have hkp:∀ p:PL,Kp (st.h (C.at p)) (({ v:=A.d (.s undef),rd:=[C.π k],wr:=[(C.π k,O.box ver (put cs off (st.ev x).cells))] }:Eff).out st.h (C.at p)):=fun p=>by
       by_cases e:p=(false,k)
       ·subst e; exact Or.inr ⟨ver,cs,_,hb,hself⟩
       ·rw [hother p e]; exact Or.inl (Fz_refl _)
      intro σ' hσ
      cases hσ
      refine ⟨_,by rw [hop]; exact hse,?_,⟨?_,?_,?_⟩,?_⟩
      ·show ((_ || st.al.contains (C.π k)) && okW st.d st.al [])=true
       simp [okW,hal]
      ·intro y hy
       simp only [sigE,List.map_cons,List.map_nil,List.mem_singleton] at hy
       subst hy; rw [show slotC C (C.π k)=sN (false,k) from sN_at hC (false,k)]; simp
      ·intro y hy
       simp only [sigE,List.map_cons,List.map_nil,List.mem_singleton] at hy
       subst hy; rw [show slotC C (C.π k)=sN (false,k) from sN_at hC (false,k)]; simp
      ·intro y; cases y
      ·refine gen_ok hC g (bcs:=[put cs off (st.ev x).cells]) (fun p _ hn=>?_) (fun p _ _=>hkp p) (fun id hid hw=>?_) (fun _=>by simp only [TV.ok]) (fun p hp=>?_) (fun p hp=>?_) (fun b p hp c=>?_) (fun p hn _ c=>?_) (fun v hv=>?_) (fun v hv=>?_)
       ·rw [hother p (by simpa using hn)]; exact Fz_refl _
       ·rw [hout,upd_at,if_neg (by rintro rfl; exact hw (Or.inl ⟨k,hwl,rfl⟩))]
       ·simp only [List.mem_singleton] at hp
        subst hp
        refine ⟨ver,_,hself,?_⟩
        have:TV.oks C st.h (putL q.2 off l) (put cs off (st.ev x).cells):=by
         unfold put putL
         rw [x3]
         exact oks_app (oks_app (oks_take off hcs) x1) (oks_drop _ hcs)
        exact TV.oks_kp (fun p _=>hkp p) this
       ·simp only [List.mem_singleton] at hp
        subst hp; exact Or.inr hkn
       ·cases b with
        | zero =>
         have hp:(false,k)=p:=by simpa using hp
         subst hp
         rw [hself]; rfl
        | succ b=>simp at hp
       ·rw [hother p (by simpa using hn)]
       ·obtain ⟨l1,l3,l2⟩:=linkP_ok (fs:=σ.fs) (q:=q.2) hb (by omega) (st.ev x).cells x3 (by omega) hv.now (fun c=>hv.nb c 0)
        exact cp3 l1.1 (cellF_ok hC g (f:=fun c=>(7,off + c,0)) hl hv.now l2).1 l3.1
       ·obtain ⟨l1,l3,l2⟩:=linkP_ok (fs:=σ.fs) (q:=q.2) hb (by omega) (st.ev x).cells x3 (by omega) hv.now (fun c=>hv.nb c 0)
        exact FOkA8 l1.2 (FOkA8 (cellF_ok hC g (f:=fun c=>(7,off + c,0)) hl hv.now l2).2 l3.2)
     ·cases h
    ·split at h
     ·rename_i j e hxt
      split at h
      ·rename_i hc
       simp only [Bool.and_eq_true] at hc
       obtain ⟨⟨⟨⟨⟨c1,c2⟩,c3⟩,c4⟩,c5⟩,c6⟩:=hc
       have c1:tsize C.P t=some 1:=eq_of_beq c1
       have c2:=of_decide_eq_true c2
       have c3:=of_decide_eq_true c3
       have c4:(k,off) ∈ C.ads:=by simpa using c4
       cases h
       have hl1:l=[.own (true,j) e]:=by
        rw [hxt] at hl
        simp only [cellsTV,TV.one,if_true,Option.some.injEq] at hl
        exact hl.symm
       have hll:l.length=1:=by rw [hl1]; rfl
       have had:=hC.ad k off hkn c2
       have hadn:C.at (false,adNum k off)=adoptId (C.π k) off:=had
       have hala:=g.al.2 _ c4
       have hlen:1 ≤ lenA (st.ev x):=by
        unfold lenPos at c5
        split at c5
        ·rename_i L hL
         have e1:=opL_ok g hL (nows C st)
         have e2:=leI_ok (g.fs _ (nows C st)) c5
         have z0:tv (apv C st) zT=0:=rfl
         simp only [z0] at e2
         omega
        ·cases c5
       have hne1:adoptId (C.π k) off ≠ C.π k:=fun e=>by
        have h2:(adoptId (C.π k) off).2=(C.π k).2:=by rw [e]
        have h3:(adoptId (C.π k) off).2=1000000 + 64 * (C.π k).2 + off:=rfl
        omega
       have hne2:∀ i:Nat,(C.d,i) ≠ C.π k:=fun i e=>by
        have:C.d=(C.π k).1:=congrArg Prod.fst e
        omega
       have hne3:∀ i:Nat,(C.d,i) ≠ adoptId (C.π k) off:=fun i e=>by
        have:C.d=(C.π k).1:=congrArg Prod.fst e
        omega
       have key:∀ (c0:A) (e0:Eff),storeE C.P st.h t (st.ev a) (st.ev x)=some e0→e0.v = .d (.s undef)→e0.ra=false→(∀ i ∈ e0.rd,i=C.π k ∨ i=(C.d,j) ∨ i=adoptId (C.π k) off)→(∀ p ∈ e0.wr,p.1=C.π k ∨ p.1=(C.d,j) ∨ p.1=adoptId (C.π k) off) →
         (∀ i,i ≠ C.π k→i ≠ (C.d,j)→i ≠ adoptId (C.π k) off→e0.out st.h i=st.h i)→e0.out st.h (C.π k) = .box ver (put cs off [c0])→∀ bc1 bc2:List A,(∀ c,boxCell (e0.out st.h (C.d,j)) c=bc1.getD c .any)→(∀ c,boxCell (e0.out st.h (adoptId (C.π k) off)) c=bc2.getD c .any) →
         TV.ok C (e0.out st.h) (.own (false,adNum k off) e) c0→lenA c0=lenA (st.ev x) →
         OpOk C X σ st o { act:=.gen .und [(true,j),(false,adNum k off)] [((false,k),putL (q.2.map (killT [(true,j),(false,adNum k off)])) off [.own (false,adNum k off) e])] ((linkC σ.fs (fun c=>(3,k,c)) (fun c=>(7,c,0)) 0 (q.2.take off)).1 ++ (linkC σ.fs (fun c=>(3,k,c)) (fun c=>(7,c,0)) (off + 1) (q.2.drop (off + 1))).1) ((linkC σ.fs (fun c=>(3,k,c)) (fun c=>(7,c,0)) 0 (q.2.take off)).2 ++ (lenF σ x (7,off,0) ++ (linkC σ.fs (fun c=>(3,k,c)) (fun c=>(7,c,0)) (off + 1) (q.2.drop (off + 1))).2)),rd:=[sN (false,k),sN (false,adNum k off),j + 1],wr:=[j + 1,sN (false,adNum k off),sN (false,k)] }:=by
        intro c0 e0 k1 k2 k3 k4 k5 k6 k7 bc1 bc2 k8 k9 k10 k11
        have other:∀ p:PL,p ≠ (false,k)→p ∉ [(true,j),(false,adNum k off)]→e0.out st.h (C.at p)=st.h (C.at p):=fun p hp hn=>by
         simp only [List.mem_cons,List.not_mem_nil,or_false,not_or] at hn
         refine k6 _ (fun h=>hp (at_inj2 hC (q:=(false,k)) h)) (fun h=>hn.1 (at_inj2 hC (q:=(true,j)) h)) (fun h=>hn.2 (at_inj2 hC (h.trans hadn.symm)))
        have hkp:∀ p:PL,p ∉ [(true,j),(false,adNum k off)]→Kp (st.h (C.at p)) (e0.out st.h (C.at p)):=fun p hn=>by
         by_cases e:p=(false,k)
         ·subst e; exact Or.inr ⟨ver,cs,_,hb,k7⟩
         ·rw [other p e hn]; exact Or.inl (Fz_refl _)
        have sπ:slotC C (C.π k)=sN (false,k):=sN_at hC (false,k)
        have sa:slotC C (adoptId (C.π k) off)=sN (false,adNum k off):=by rw [← hadn]; exact sN_at hC (false,adNum k off)
        have so:slotC C (C.d,j)=j + 1:=slotC_own _
        intro σ' hσ
        cases hσ
        refine ⟨e0,by rw [hop]; exact k1,?_,⟨?_,?_,?_⟩,?_⟩
        ·refine okW_ofQ fun p hp=>?_
         rcases k5 p hp with h | h | h
         ·exact Or.inr (by rw [h]; exact hal)
         ·exact Or.inl (by rw [h]; exact g.d.symm)
         ·exact Or.inr (by rw [h]; exact hala)
        ·intro y hy
         obtain ⟨i,hi,rfl⟩:=List.mem_map.1 hy
         rcases k4 i hi with rfl | rfl | rfl
         ·rw [sπ]; simp
         ·rw [so]; simp
         ·rw [sa]; simp
        ·intro y hy
         obtain ⟨p,hp,rfl⟩:=List.mem_map.1 hy
         rcases k5 p hp with h | h | h
         ·rw [h,sπ]; simp
         ·rw [h,so]; simp
         ·rw [h,sa]; simp
        ·intro y
         have y:e0.ra=true:=y
         rw [k3] at y; cases y
        ·refine gen_ok hC g (bcs:=[put cs off [c0],bc1,bc2]) (fun p hk hn=>?_) (fun p hk _=>hkp p hk) (fun id hid hw=>?_) (fun _=>by simp only [TV.ok]; exact k2) (fun p hp=>?_) (fun p hp=>?_) (fun b p hp c=>?_) (fun p hn hk c=>?_) (fun v hv=>?_) (fun v hv=>?_)
         ·rw [other p (by simpa using hn) hk]; exact Fz_refl _
         ·exact k6 id (by rintro rfl; exact hw (Or.inl ⟨k,hwl,rfl⟩)) (by rintro rfl; exact Nat.lt_irrefl _ hid) (by rintro rfl; exact hw (Or.inr ⟨_,c4,rfl⟩))
         ·simp only [List.mem_singleton] at hp
          subst hp
          refine ⟨ver,_,k7,?_⟩
          have hold:TV.oks C (e0.out st.h) (q.2.map (killT [(true,j),(false,adNum k off)])) cs:=killTs_kp hkp hcs
          unfold put putL
          refine oks_app (oks_app (oks_take off hold) ?_) (oks_drop _ hold)
          simp only [TV.oks]
          exact ⟨c0,[],rfl,k10,rfl⟩
         ·simp only [List.mem_singleton] at hp
          subst hp; exact Or.inr hkn
         ·match b,hp with
          | 0,hp =>
           have hp:(false,k)=p:=by simpa using hp
           subst hp
           show boxCell (e0.out st.h (C.π k)) c=_
           rw [k7]; rfl
          | 1,hp =>
           have hp:(true,j)=p:=by simpa using hp
           subst hp
           exact k8 c
          | 2,hp =>
           have hp:(false,adNum k off)=p:=by simpa using hp
           subst hp
           rw [hadn]; exact k9 c
          | b + 3,hp=>simp at hp
         ·rw [other p (by simpa using hn) hk]
         ·obtain ⟨l1,l3,l2⟩:=linkP_ok (fs:=σ.fs) (q:=q.2) (n:=1) hb (by omega) [c0] rfl (by omega) hv.now (fun c=>hv.nb c 0)
          intro p hp
          rcases List.mem_append.1 hp with hp | hp
          ·exact l1.1 p hp
          ·exact l3.1 p hp
         ·obtain ⟨l1,l3,l2⟩:=linkP_ok (fs:=σ.fs) (q:=q.2) (n:=1) hb (by omega) [c0] rfl (by omega) hv.now (fun c=>hv.nb c 0)
          refine FOkA8 l1.2 (FOkA8 (lenF_ok g hv.now ?_) l3.2)
          have:=l2 0 (by omega)
          rw [Nat.add_zero] at this
          rw [this]
          exact k11
       rw [hxt] at hxk
       simp only [TV.ok] at hxk
       rcases hxk with ⟨xs,hxv,hxs⟩ | ⟨ver0,n,xs,fz,hxv,hvv,hn,hxs⟩
       ·refine key (.clip xs) { v:=.d (.s undef),rd:=[C.π k],wr:=[(C.π k,.box ver (put cs off [.clip xs]))] } ?_ rfl rfl (fun i hi=>by simp at hi; exact Or.inl hi) (fun p hp=>by simp at hp; subst hp; exact Or.inl rfl) (fun i h1 _ _=>by show upd st.h (C.π k) _ i=_; rw [upd_at,if_neg h1]) (by show upd st.h (C.π k) _ (C.π k)=_; rw [upd_at,if_pos rfl])
         (match st.h (C.d,j) with | .box _ cs=>cs | _=>[]) (match st.h (adoptId (C.π k) off) with | .box _ cs=>cs | _=>[]) (fun c=>?_) (fun c=>?_) ?_ (by rw [hxv])
        ·rw [he,hxv]
         have hno:adoptE C.P st.h t (C.π k) ver off (.clip xs)=none:=rfl
         have hlo:lowCells st.h (C.π k).1 (A.clip xs).cells=some ([.clip xs],[]):=lowCells_low (by simp [A.cells,A.lows,A.low])
         unfold storeE
         simp only [hno,hb,c1,hlo]
         rw [if_pos ⟨trivial,rfl,by omega,rfl⟩]
         rfl
        ·show boxCell (upd st.h (C.π k) _ (C.d,j)) c=_
         rw [upd_at,if_neg (hne2 j)]
         cases st.h (C.d,j) <;> rfl
        ·show boxCell (upd st.h (C.π k) _ (adoptId (C.π k) off)) c=_
         rw [upd_at,if_neg hne1]
         cases st.h (adoptId (C.π k) off) <;> rfl
        ·simp only [TV.ok]; exact Or.inl ⟨xs,rfl,hxs⟩
       ·have hvv:st.h (C.d,j) = .vec ver0 n xs fz:=hvv
        have hxv:st.ev x = .sl (C.d,j) ver0 0 xs.length:=hxv
        have hpos:xs.isEmpty=false:=by
         rw [hxv] at hlen
         have hlen:(1:Int) ≤ xs.length:=hlen
         cases xs with
         | nil=>simp at hlen
         | cons y l=>rfl
        have hadp:=adoptT_ok hcs c6
        refine key (.sl (adoptId (C.π k) off) ((st.h (adoptId (C.π k) off)).ver + 1) 0 xs.length) { v:=.d (.s undef),rd:=[C.π k,(C.d,j),adoptId (C.π k) off],wr:=[((C.d,j),.no ver0),(adoptId (C.π k) off,.vec ((st.h (adoptId (C.π k) off)).ver + 1) n xs fz),(C.π k,.box ver (put cs off [.sl (adoptId (C.π k) off) ((st.h (adoptId (C.π k) off)).ver + 1) 0 xs.length]))] } ?_ rfl rfl (fun i hi=>by simpa using hi) (fun p hp=>by simp at hp; rcases hp with rfl | rfl | rfl <;> simp) (fun i h1 h2 h3=>?_) ?_ [] [] (fun c=>?_) (fun c=>?_) ?_ (by rw [hxv]; rfl)
        ·rw [he,hxv]
         have:adoptE C.P st.h t (C.π k) ver off (.sl (C.d,j) ver0 0 xs.length)=some { v:=.d (.s undef),rd:=[C.π k,(C.d,j),adoptId (C.π k) off],wr:=[((C.d,j),.no ver0),(adoptId (C.π k) off,.vec ((st.h (adoptId (C.π k) off)).ver + 1) n xs fz),(C.π k,.box ver (put cs off [.sl (adoptId (C.π k) off) ((st.h (adoptId (C.π k) off)).ver + 1) 0 xs.length]))] }:=by
          unfold adoptE
          simp only
          rw [if_neg (by show ¬ C.d ≤ (C.π k).1; omega)]
          simp only [hb,hvv]
          rw [if_pos ⟨trivial,trivial,trivial,hpos,c2,by omega,c1,hadp⟩]
         show (match adoptE C.P st.h t (C.π k) ver off (.sl (C.d,j) ver0 0 xs.length) with | some e=>some e | none=>_)=_
         rw [this]
        ·show upd (upd (upd st.h (C.d,j) _) (adoptId (C.π k) off) _) (C.π k) _ i=_
         rw [upd_at,if_neg h1,upd_at,if_neg h3,upd_at,if_neg h2]
        ·show upd (upd (upd st.h (C.d,j) _) (adoptId (C.π k) off) _) (C.π k) _ (C.π k)=_
         rw [upd_at,if_pos rfl]
        ·show boxCell (upd (upd (upd st.h (C.d,j) _) (adoptId (C.π k) off) _) (C.π k) _ (C.d,j)) c=_
         rw [upd_at,if_neg (hne2 j),upd_at,if_neg (hne3 j),upd_at,if_pos rfl]
         rfl
        ·show boxCell (upd (upd (upd st.h (C.d,j) _) (adoptId (C.π k) off) _) (C.π k) _ (adoptId (C.π k) off)) c=_
         rw [upd_at,if_neg hne1,upd_at,if_pos rfl]
         rfl
        ·simp only [TV.ok]
         refine Or.inr ⟨_,n,xs,fz,by rw [hadn],?_,hn,hxs⟩
         rw [hadn]
         show upd (upd (upd st.h (C.d,j) _) (adoptId (C.π k) off) _) (C.π k) _ (adoptId (C.π k) off)=_
         rw [upd_at,if_neg hne1,upd_at,if_pos rfl]
      ·cases h
     ·cases h
   ·cases h
  ·cases h
 ·cases h
end
end
section
noncomputable section
inductive RS where
 | val (t:Ty)
 | lst (e:Ty) (b:Nat)
 | tup (ts:List Ty)
 | map (el:Ty) (s:Bool)
 | tupF (e:Ty) (b:Nat) (ts:List Ty)
def plainArg:TV→Bool
 | .c _=>true
 | .clo _ l=>l.isEmpty
 | _=>false
structure Ctr where
 f:FuncId
 args:List TV
 pars:List (List TV):=[]
 pre:List Fact:=[]
 res:RS
 post:List Fact:=[]
 ws:List (Nat × List TV):=[]
 ads:List (Nat × Nat):=[]
 dd:List (Nat × List Nat × List Nat × List (List Nat)):=[]
def RS.ok (C:Cx):RS→R→A→Prop
 | .val t,r,a=>∃ x,r = .val x∧a = .d x∧ShT C.R t x
 | .lst e b,r,a=>∃ xs,(r = .val (.lst xs) ∨ r = .fresh (e.sz C.E) xs)∧a = .d (.lst xs)∧xs.length ≤ b ∧ ∀ x ∈ xs,ShT C.R e x
 | .map el s,r,a=>∃ es c,r = .mapf es c∧a = .any∧KeyOk s es ∧ ∀ e ∈ es,∃ x,e.2.2 = .d x∧ShT C.R el x
 | .tupF e b ts,r,a=>∃ (xs:List D) (ds:List D),(r = .freshT (e.sz C.E) xs (ds.map .d) ∨ r = .tup (.clip xs :: ds.map .d))∧a = .tup (.d (.lst xs) :: ds.map .d)∧xs.length ≤ b∧(∀ x ∈ xs,ShT C.R e x)∧ShL C.R ts ds
 | .tup ts,r,a=>∃ ds:List D,r = .tup (ds.map .d)∧a = .tup (ds.map .d)∧ShL C.R ts ds
def st0 (d:Nat) (h:Id→O) (zs:List A):St:={ n:=0,d:=d,t:=fun i=>zs.getD i (.d (.s undef)),h:=h,al:=[] }
def iniG (h:Id→O) (π:Nat→Id) (j:Nat):Int:=if j % 2=0 then intA (boxCell (h (π (j / 128))) (j % 128 / 2)) else lenA (boxCell (h (π (j / 128))) (j % 128 / 2))
def Cx.call (C:Cx) (d:Nat) (h:Id→O) (π:Nat→Id) (np:Nat) (wl:List Nat:=[]) (ads:List (Nat × Nat):=[]):Cx:={ C with d:=d,π:=π,h0:=h,gs:=fun i=>if 3000 ≤ i then C.bd (i - 3000) else if 2000 ≤ i then iniG h π (i - 2000) else 0,np:=np,wl:=wl,ads:=ads }
abbrev Ctr.cx (c:Ctr) (C:Cx) (d:Nat) (h:Id→O) (π:Nat→Id):Cx:=C.call d h π c.pars.length (c.ws.map (·.1)) c.ads
structure NewC (C:Cx) (st:St) (a:A) (h':Id→O) (v:AP→A):Prop where
 now:Now C st v
 nv:∀ x y,v (5,x,y)=a
 nc:∀ c y,v (6,c,y)=a.parts.getD c .any
 nb:∀ c k,v (7,c,k)=boxCell (h' (C.π k)) c
def Ctr.Ok (C:Cx) (X:Orc) (c:Ctr):Prop:=∀ (d:Nat) (h:Id→O) (π:Nat→Id) (zs:List A),(c.cx C d h π).Ok→(c.args.all plainArg=true→d=0∧h=E0)→TV.oks (c.cx C d h π) h c.args zs →
 (∀ k ts,c.pars[k]? = some ts→∃ ver cs,h (π k) = .box ver cs∧TV.oks (c.cx C d h π) h ts cs)→(∀ v,Now (c.cx C d h π) (st0 d h zs) v→FOk v c.pre) →
 ∃ r a h',X c.f d h zs=some (r,h')∧RS.ok (c.cx C d h π) c.res r a∧(∀ i,¬ (c.cx C d h π).wid i→h' i=h i)∧(∀ i,i ∉ reachIds h 3 (idsL zs)→h' i=h i) ∧
  (∀ p ∈ c.ws,∃ ver cs cs',h (π p.1) = .box ver cs∧h' (π p.1) = .box ver cs' ∧ TV.oks (c.cx C d h π) h' p.2 cs') ∧ ∀ v,NewC (c.cx C d h π) (st0 d h zs) a h' v→FOk v c.post
structure Me1 (a b:A):Prop where
 i:intA a=intA b
 l:lenA a=lenA b
 b:boolA a=boolA b
theorem Me1.refl (a:A):Me1 a a:=⟨rfl,rfl,rfl⟩
def LF.inst (τ:Term→Term × Int) (ρ:AP→AP):LF→LF
 | .le a b c=>.le (τ a).1 (τ b).1 (c + (τ a).2 - (τ b).2)
 | .isb a b=>.isb (ρ a) b
def Fact.inst (τ:Term→Term × Int) (ρ:AP→AP):Fact→Fact
 | .f x=>.f (x.inst τ ρ)
 | .imp a b x=>.imp (ρ a) b (x.inst τ ρ)
 | .impi a z x=>.impi (ρ a) z (x.inst τ ρ)
 | .impl x y=>.impl (x.inst τ ρ) (y.inst τ ρ)
def isBad (a:AP):Bool:=decide (8 ≤ a.1)
structure Told (τ:Term→Term × Int) (ρ:AP→AP) (vc v:AP→A):Prop where
 t:∀ t,Term.men isBad (τ t).1=false→tv vc t=tv v (τ t).1 + (τ t).2
 a:∀ a,isBad (ρ a)=false→boolA (vc a)=boolA (v (ρ a))∧intA (vc a)=intA (v (ρ a))
theorem LF.inst_ok {τ:Term→Term × Int} {ρ:AP→AP} {vc v:AP→A} (h:Told τ ρ vc v) {x:LF} (hm:(x.inst τ ρ).men isBad=false):(x.inst τ ρ).ok v ↔ x.ok vc:=by
 cases x with
 | le a b c =>
  simp only [LF.inst,LF.men,Bool.or_eq_false_iff] at hm
  simp only [LF.inst,LF.ok]
  rw [h.t a hm.1,h.t b hm.2]
  omega
 | isb a b =>
  simp only [LF.inst,LF.men] at hm
  simp only [LF.inst,LF.ok]
  rw [(h.a a hm).1]
theorem Fact.inst_ok {τ:Term→Term × Int} {ρ:AP→AP} {vc v:AP→A} (h:Told τ ρ vc v) {f:Fact} (hm:(f.inst τ ρ).men isBad=false):(f.inst τ ρ).ok v ↔ f.ok vc:=by
 cases f with
 | f x=>exact LF.inst_ok h hm
 | imp a b x =>
  simp only [Fact.inst,Fact.men,Bool.or_eq_false_iff] at hm
  simp only [Fact.inst,Fact.ok]
  rw [(h.a a hm.1).1,LF.inst_ok h hm.2]
 | impi a z x =>
  simp only [Fact.inst,Fact.men,Bool.or_eq_false_iff] at hm
  simp only [Fact.inst,Fact.ok]
  rw [(h.a a hm.1).2,LF.inst_ok h hm.2]
 | impl x y =>
  simp only [Fact.inst,Fact.men,Bool.or_eq_false_iff] at hm
  simp only [Fact.inst,Fact.ok]
  rw [LF.inst_ok h hm.1,LF.inst_ok h hm.2]
def instFs (τ:Term→Term × Int) (ρ:AP→AP) (fs:List Fact):List Fact:=(fs.map (Fact.inst τ ρ)).filter fun f=>!f.men isBad
theorem instFs_ok {τ:Term→Term × Int} {ρ:AP→AP} {vc v:AP→A} (h:Told τ ρ vc v) {fs:List Fact} (hf:FOk vc fs):FOk v (instFs τ ρ fs):=by
 intro f hm
 obtain ⟨hm,hb⟩:=List.mem_filter.1 hm
 obtain ⟨g,hg,rfl⟩:=List.mem_map.1 hm
 exact (Fact.inst_ok h (by simpa using hb)).2 (hf g hg)
def known (fs:List Fact):Fact→Bool
 | .f (.le a b c)=>entLe fs a b c
 | .f (.isb a b)=>isbOf fs a == some b
 | _=>false
theorem known_ok {v:AP→A} {fs:List Fact} (hf:FOk v fs) {f:Fact} (h:known fs f=true):f.ok v:=by
 unfold known at h
 split at h
 ·exact entLe_ok hf h
 ·exact isbOf_ok hf (eq_of_beq h)
 ·cases h
def preOk (τ:Term→Term × Int) (ρ:AP→AP) (fs pre:List Fact):Bool:=pre.all fun f=>!(f.inst τ ρ).men isBad && known fs (f.inst τ ρ)
theorem preOk_ok {τ:Term→Term × Int} {ρ:AP→AP} {vc v:AP→A} (h:Told τ ρ vc v) {fs pre:List Fact} (hf:FOk v fs) (hp:preOk τ ρ fs pre=true):FOk vc pre:=by
 intro f hm
 have:=List.all_eq_true.1 hp f hm
 rw [Bool.and_eq_true] at this
 exact (Fact.inst_ok h (by simpa using this.1)).1 (known_ok hf this.2)
inductive Src where
 | op (x:Operand)
 | tv (t:TV)
def Src.t (σ:SS):Src→TV
 | .op x=>opTV σ x
 | .tv t=>t
def wsIx (ws:List (Nat × List TV)) (k:Nat):Option Nat:=ws.findIdx? fun p=>Nat.beq p.1 k
def rhoC (σ:SS) (pls:List PL) (srcs:List Src) (ws:List (Nat × List TV)) (a:AP):AP :=
 match a.1 with
 | 0=>(match srcs[a.2.1]? with | some (.op (.tmp s))=>if s < σ.n then (0,s,0) else (8,0,0) | _=>(8,0,0))
 | 1=>(match srcs[a.2.1]? with | some (.op (.tmp s))=>if s < σ.n then (1,s,a.2.2) else (8,0,0) | _=>(8,0,0))
 | 3=>(match pls[a.2.1]? with | some p=>apB p a.2.2 | none=>(8,0,0))
 | 4=>if 3000 ≤ a.2.1 then (4,a.2.1,0) else (8,0,0)
 | 5=>(5,0,0)
 | 6=>(6,a.2.1,0)
 | 7=>(match wsIx ws a.2.2 with | some i=>(7,a.2.1,i) | none=>(8,0,0))
 | _=>(8,0,0)
def tauC (σ:SS) (pls:List PL) (srcs:List Src) (ws:List (Nat × List TV)) (t:Term):Term × Int :=
 match t with
 | (0,_)=>(zT,0)
 | (1,a)=>(match a.1,srcs[a.2.1]? with | 0,some (.op x)=>(match opI σ x with | some I=>I | none=>((1,8,0,0),0)) | _,_=>((1,rhoC σ pls srcs ws a),0))
 | (3,_)=>((3,8,0,0),0)
 | (k,a)=>(match a.1,srcs[a.2.1]? with | 0,some (.op x)=>(match opL σ x with | some L=>L | none=>((2,8,0,0),0)) | _,_=>((2,rhoC σ pls srcs ws a),0))
theorem told_ok {C C':Cx} {σ:SS} {st:St} (g:Ga C σ st) {pls:List PL} {srcs:List Src} {wsl:List (Nat × List TV)} {d:Nat} {h1 h2:Id→O} {zs ws:List A} {a b:A} {v vc:AP→A}
  (hz:∀ i x,srcs[i]? = some (.op x)→zs.getD i (.d (.s undef))=st.ev x)
  (hm:∀ i,Me1 (ws.getD i (.d (.s undef))) (zs.getD i (.d (.s undef)))) (hmc:∀ i c,Me1 ((ws.getD i (.d (.s undef))).parts.getD c .any) ((zs.getD i (.d (.s undef))).parts.getD c .any))
  (hp:∀ k p,pls[k]? = some p→∀ c,boxCell (h1 (C'.π k)) c=v (apB p c)) (hw:∀ k i,wsIx wsl k=some i→∀ c,boxCell (h2 (C'.π k)) c=v (7,c,i)) (hg:∀ i,3000 ≤ i→C'.gs i=C.gs i)
  (ha:Me1 a b) (hac:∀ c,Me1 (a.parts.getD c .any) (b.parts.getD c .any))
  (hv:Now C st v) (hv5:v (5,0,0)=b) (hv6:∀ i,v (6,i,0)=b.parts.getD i .any) (hvc:NewC C' (st0 d h1 ws) a h2 vc):Told (tauC σ pls srcs wsl) (rhoC σ pls srcs wsl) vc v:=by
 have key:∀ x:AP,isBad (rhoC σ pls srcs wsl x)=false→Me1 (vc x) (v (rhoC σ pls srcs wsl x)):=by
  rintro ⟨k,i,c⟩ hb
  match k with
  | 0 =>
   simp only [rhoC] at hb ⊢
   split at hb
   ·rename_i s hs
    split at hb
    ·rename_i hlt
     rw [if_pos hlt]
     rw [hvc.now _ (by show 0 < 5; decide),hv _ (by show 0 < 5; decide)]
     show Me1 (ws.getD i _) (st.t s)
     rw [← ev_tmp g hlt,← hz i _ hs]
     exact hm i
    ·simp [isBad] at hb
   ·simp [isBad] at hb
  | 1 =>
   simp only [rhoC] at hb ⊢
   split at hb
   ·rename_i s hs
    split at hb
    ·rename_i hlt
     rw [if_pos hlt]
     rw [hvc.now _ (by show 1 < 5; decide),hv _ (by show 1 < 5; decide)]
     show Me1 ((ws.getD i _).parts.getD c .any) ((st.t s).parts.getD c .any)
     rw [← ev_tmp g hlt,← hz i _ hs]
     exact hmc i c
    ·simp [isBad] at hb
   ·simp [isBad] at hb
  | 2=>simp [rhoC,isBad] at hb
  | 3 =>
   simp only [rhoC] at hb ⊢
   split at hb
   ·rename_i p hpk
    rw [hvc.now _ (by show 3 < 5; decide)]
    show Me1 (boxCell (h1 (C'.π i)) c) _
    rw [hp i p hpk c]
    exact Me1.refl _
   ·simp [isBad] at hb
  | 4 =>
   simp only [rhoC] at hb ⊢
   split at hb
   ·rename_i hi
    rw [if_pos hi,hvc.now _ (by show 4 < 5; decide),hv _ (by show 4 < 5; decide)]
    show Me1 (.d (.s (.int .i64 (C'.gs i)))) (.d (.s (.int .i64 (C.gs i))))
    rw [hg i hi]
    exact Me1.refl _
   ·simp [isBad] at hb
  | 5 =>
   show Me1 (vc (5,i,c)) (v (5,0,0))
   rw [hvc.nv,hv5]; exact ha
  | 6 =>
   show Me1 (vc (6,i,c)) (v (6,i,0))
   rw [hvc.nc,hv6]; exact hac i
  | 7 =>
   simp only [rhoC] at hb ⊢
   split at hb
   ·rename_i j hj
    rw [hvc.nb,hw c j hj i]
    exact Me1.refl _
   ·simp [isBad] at hb
  | k + 8=>simp [rhoC,isBad] at hb
 have arg:∀ i c x,srcs[i]? = some (.op x)→Me1 (vc (0,i,c)) (st.ev x):=by
  intro i c x hx
  rw [hvc.now _ (by show 0 < 5; decide),← hz i x hx]
  exact hm i
 have two:∀ (k0:Nat) (x:AP),tauC σ pls srcs wsl (k0,x)=(match x.1,srcs[x.2.1]? with | 0,some (.op y)=>(match opL σ y with | some L=>L | none=>((2,8,0,0),0)) | _,_=>((2,rhoC σ pls srcs wsl x),0))→(tv vc (k0,x)=lenA (vc x))→Term.men isBad (tauC σ pls srcs wsl (k0,x)).1=false→tv vc (k0,x)=tv v (tauC σ pls srcs wsl (k0,x)).1 + (tauC σ pls srcs wsl (k0,x)).2:=by
  intro k0 x he hk hb
  rw [he] at hb ⊢
  rw [hk]
  split at hb
  ·rename_i y h0 hy
   obtain ⟨k1,i,c⟩:=x
   simp only at h0 hy
   subst h0
   split at hb
   ·rename_i L hL
    have e1:=opL_ok g hL hv
    rw [(arg i c y hy).l,e1]
   ·simp [Term.men,isBad] at hb
  ·rename_i hno
   have:=(key x hb).l
   rw [this]
   show _=lenA (v _) + 0
   omega
 refine ⟨?_,fun x hb=>⟨(key x hb).b,(key x hb).i⟩⟩
 rintro ⟨k,x⟩ hb
 match k with
 | 0=>rfl
 | 1 =>
  simp only [tauC] at hb ⊢
  split at hb
  ·rename_i y h0 hy
   obtain ⟨k0,i,c⟩:=x
   simp only at h0 hy
   subst h0
   split at hb
   ·rename_i I hI
    have e1:=opI_ok g hI hv
    show intA (vc (0,i,c))=_
    rw [(arg i c y hy).i,e1]
   ·simp [Term.men,isBad] at hb
  ·have:=(key x hb).i
   show intA (vc x)=intA (v _) + 0
   rw [this]; omega
 | 2=>exact two 2 x rfl rfl hb
 | 3=>simp [tauC,Term.men,isBad] at hb
 | k + 4=>exact two (k + 4) x rfl rfl hb
end
end
section
noncomputable section
mutual
def fit (E:Nat→Option (List Ty)) (pls:List PL):TV→TV→Bool
 | .c t,.c u=>Ty.subE E t u
 | .bp p off,.bp q off'=>!q.1 && off == off' && (match pls[q.2]? with | some r=>r == p | none=>false)
 | .clo f l,.clo f' l'=>f == f' && fits E pls l l'
 | _,_=>false
def fits (E:Nat→Option (List Ty)) (pls:List PL):List TV→List TV→Bool
 | [],[]=>true
 | t :: l,u :: m=>fit E pls t u && fits E pls l m
 | _,_=>false
end
mutual
theorem fit_ok {C C':Cx} (hC:C.Ok) {h:Id→O} {pls:List PL} (hR:C'.R=C.R) (hp:∀ k p,pls[k]? = some p→C'.π k=C.at p):∀ {t u:TV} {a:A},TV.ok C h t a→fit C.E pls t u=true→TV.ok C' h u a ∧ ∀ i ∈ idsA a,∃ p ∈ pls,i=C.at p
 | .c t,u,a,hx,hf=>by
  cases u <;> simp only [fit,Bool.false_eq_true] at hf
  simp only [TV.ok] at hx ⊢
  obtain ⟨x,rfl,h2⟩:=hx
  exact ⟨⟨x,rfl,by rw [hR]; exact subE_ok hC.rel hf h2⟩,fun i hi=>by simp [idsA] at hi⟩
 | .bp p off,u,a,hx,hf=>by
  cases u <;> simp only [fit,Bool.false_eq_true] at hf
  rename_i q off'
  rw [Bool.and_eq_true,Bool.and_eq_true] at hf
  obtain ⟨⟨h1,h2⟩,h3⟩:=hf
  split at h3
  ·rename_i r hr
   have hrp:=eq_of_beq h3
   subst hrp
   have ho:off=off':=by simpa using h2
   subst ho
   obtain ⟨qb,k⟩:=q
   have hqb:qb=false:=by simpa using h1
   subst hqb
   simp only [TV.ok] at hx ⊢
   obtain ⟨ver,cs,rfl,h5⟩:=hx
   have e:=hp k r hr
   refine ⟨⟨ver,cs,?_,?_⟩,?_⟩
   ·show A.bp (C.at r) ver off=A.bp (C'.π k) ver off
    rw [e]
   ·show h (C'.π k)=_
    rw [e]; exact h5
   ·intro i hi
    simp only [idsA,List.mem_singleton] at hi
    exact ⟨r,List.mem_of_getElem? hr,hi⟩
  ·cases h3
 | .clo f l,u,a,hx,hf=>by
  cases u <;> simp only [fit,Bool.false_eq_true] at hf
  rename_i f' l'
  rw [Bool.and_eq_true] at hf
  have hff:f=f':=eq_of_beq hf.1
  subst hff
  simp only [TV.ok] at hx ⊢
  obtain ⟨zs,rfl,h2⟩:=hx
  have:=fits_ok hC hR hp h2 hf.2
  exact ⟨⟨zs,rfl,this.1⟩,fun i hi=>this.2 i (by simpa [idsA] using hi)⟩
 | .any,u,a,hx,hf=>by cases u <;> simp [fit] at hf
 | .und,u,a,hx,hf=>by cases u <;> simp [fit] at hf
 | .mp _ _ _,u,a,hx,hf=>by cases u <;> simp [fit] at hf
 | .was _ _,u,a,hx,hf=>by cases u <;> simp [fit] at hf
 | .dead,u,a,hx,hf=>by cases u <;> simp [fit] at hf
 | .nilv,u,a,hx,hf=>by cases u <;> simp [fit] at hf
 | .own _ _,u,a,hx,hf=>by cases u <;> simp [fit] at hf
 | .rl _ _,u,a,hx,hf=>by cases u <;> simp [fit] at hf
 | .tup _,u,a,hx,hf=>by cases u <;> simp [fit] at hf
 | .ep _ _,u,a,hx,hf=>by cases u <;> simp [fit] at hf
 | .ag _,u,a,hx,hf=>by cases u <;> simp [fit] at hf
 | .el _ _ _,u,a,hx,hf=>by cases u <;> simp [fit] at hf
theorem fits_ok {C C':Cx} (hC:C.Ok) {h:Id→O} {pls:List PL} (hR:C'.R=C.R) (hp:∀ k p,pls[k]? = some p→C'.π k=C.at p):∀ {ts us:List TV} {zs:List A},TV.oks C h ts zs→fits C.E pls ts us=true→TV.oks C' h us zs ∧ ∀ i ∈ idsL zs,∃ p ∈ pls,i=C.at p
 | [],us,zs,hx,hf=>by
  cases us <;> simp only [fits,Bool.false_eq_true] at hf
  simp only [TV.oks] at hx
  subst hx
  exact ⟨by simp [TV.oks],fun i hi=>by simp [idsL] at hi⟩
 | t :: ts,us,zs,hx,hf=>by
  cases us <;> simp only [fits,Bool.false_eq_true,Bool.and_eq_true] at hf
  simp only [TV.oks] at hx ⊢
  obtain ⟨a,l,rfl,h2,h3⟩:=hx
  have e1:=fit_ok hC hR hp h2 hf.1
  have e2:=fits_ok hC hR hp h3 hf.2
  refine ⟨⟨a,l,rfl,e1.1,e2.1⟩,fun i hi=>?_⟩
  simp only [idsL,List.mem_append] at hi
  rcases hi with hi | hi
  ·exact e1.2 i hi
  ·exact e2.2 i hi
end
theorem Ga.nows' {C:Cx} {σ:SS} {st:St} (g:Ga C σ st):FOk (apv C st) σ.fs:=g.fs _ (fun _ _=>rfl)
def lenLe (σ:SS) (x:Operand) (b:Nat):Bool :=
 match opL σ x with
 | some L=>leI σ.fs L (zT,b) 0
 | none=>false
theorem lenLe_ok {C:Cx} {σ:SS} {st:St} (g:Ga C σ st) {x:Operand} {b:Nat} (h:lenLe σ x b=true):lenA (st.ev x) ≤ b:=by
 unfold lenLe at h
 split at h
 ·rename_i L hL
  have h1:=leI_ok (g.fs _ (nows C st)) h
  have h2:=opL_ok g hL (nows C st)
  have z0:tv (apv C st) zT=0:=rfl
  simp only [z0] at h1
  omega
 ·cases h
def agFit (E:Nat→Option (List Ty)) (fs:List Fact) (r:Nat):Nat→List TV→List Ty→Bool
 | _,[],[]=>true
 | c,t :: ts,u :: us=>(match t with
  | .c a=>a.flat && Ty.sub a u
  | .nilv=>(match u with | .lst _ _=>true | _=>false)
  | .own p e | .rl p e=>(match u with | .lst e' b=>p.1 && (Ty.subE E e e' && leI fs ((2,1,r,c),0) (zT,b) 0) | _=>false)
  | _=>false) && agFit E fs r (c + 1) ts us
 | _,_,_=>false
def agTy (E:Nat→Option (List Ty)):Ty→Option (List Ty)
 | .st us=>some us
 | .nm i=>if i < 1000∧foldable i=true then E i else none
 | _=>none
theorem agTy_ok {C:Cx} (hC:C.Ok) {u:Ty} {us:List Ty} {ds:List D} (h:agTy C.E u=some us) (hs:ShL C.R us ds):ShT C.R u (.agg ds):=by
 unfold agTy at h
 split at h
 ·cases h; simp only [ShT]; exact ⟨ds,rfl,hs⟩
 ·split at h
  ·rename_i i hi
   simp only [ShT]; exact hC.rel.fold i us ds hi.1 hi.2 h hs
  ·cases h
 ·cases h
def ownPl1:TV→List PL
 | .own p _ | .rl p _=>[p]
 | _=>[]
theorem agFit_ok {C:Cx} (hC:C.Ok) {fs:List Fact} {h:Id→O} {v:AP→A} (hf:FOk v fs) {r:Nat} {all:List A} (hv:∀ c,v (1,r,c)=all.getD c .any):∀ {ts:List TV} {us:List Ty} {cs:List A} {c:Nat},TV.oks C h ts cs→(∀ i,cs.getD i .any=all.getD (c + i) .any)→agFit C.E fs r c ts us=true →
  ∃ ds ids,fzCells h cs=some (ds,ids)∧(∀ i ∈ ids,∃ p ∈ ts.flatMap ownPl1,p.1=true∧i=C.at p)∧ShL C.R us ds∧ds.length=cs.length ∧ ∀ (j:Nat) (x:D),ds[j]? = some x→Me1 (.d x) (cs.getD j .any)
 | [],us,cs,c,hx,_,hg=>by
  cases us <;> simp only [agFit,Bool.false_eq_true] at hg
  simp only [TV.oks] at hx
  subst hx
  exact ⟨[],[],rfl,fun i hi=>(by cases hi),(by simp [ShL]),rfl,fun j x hj=>(by simp at hj)⟩
 | t :: ts,us,cs,c,hx,hall,hg=>by
  cases us <;> simp only [agFit,Bool.false_eq_true,Bool.and_eq_true] at hg
  rename_i u us
  simp only [TV.oks] at hx
  obtain ⟨a,l,rfl,h2,h3⟩:=hx
  obtain ⟨ds,ids,e1,e2,e3,e4,e5⟩:=agFit_ok hC hf hv (c:=c + 1) h3 (fun i=>by
   have:=hall (i + 1)
   rw [show c + (i + 1)=c + 1 + i by omega] at this
   simpa using this) hg.2
  have hva:v (1,r,c)=a:=by
   rw [hv]
   have:=hall 0
   simpa using this.symm
  have head:∃ x id1,fzCell h a=some (x,id1)∧x.flat=true∧(∀ i ∈ id1,∃ p ∈ ownPl1 t,p.1=true∧i=C.at p)∧ShT C.R u x∧Me1 (.d x) a:=by
   have h1:=hg.1
   have len:∀ b,leI fs ((2,1,r,c),0) (zT,(b:Int)) 0=true→lenA a ≤ b:=fun b hb=>by
    have k:=leI_ok hf hb
    have z0:tv v zT=0:=rfl
    have k1:tv v (2,1,r,c)=lenA a:=by show lenA (v (1,r,c))=_; rw [hva]
    simp only [z0,k1] at k
    omega
   have fin:∀ (xs:List D) (id1:List Id) (e e':Ty) (b:Nat),fzCell h a=some (.lst xs,id1)→(∀ i ∈ id1,∃ p ∈ ownPl1 t,p.1=true∧i=C.at p)→Ty.subE C.E e e' = true→(∀ x ∈ xs,ShT C.R e x)→lenA a=xs.length→lenA a ≤ b→intA a=0→boolA a=false→u = .lst e' b→∃ x id1,fzCell h a=some (x,id1)∧x.flat=true∧(∀ i ∈ id1,∃ p ∈ ownPl1 t,p.1=true∧i=C.at p)∧ShT C.R u x∧Me1 (.d x) a:=by
    intro xs id1 e e' b k1 k2 k3 k4 k5 k6 k7 k8 k9
    subst k9
    refine ⟨.lst xs,id1,k1,rfl,k2,?_,⟨k7.symm,k5.symm,k8.symm⟩⟩
    simp only [ShT]
    exact ⟨xs,rfl,by omega,fun y hy=>subE_ok hC.rel k3 (k4 y hy)⟩
   have noid:∀ i ∈ ([]:List Id),∃ p ∈ ownPl1 t,p.1=true∧i=C.at p:=fun i hi=>by cases hi
   cases t <;> simp only [Bool.false_eq_true] at h1
   ·rw [Bool.and_eq_true] at h1
    simp only [TV.ok] at h2
    obtain ⟨x,rfl,h2⟩:=h2
    obtain ⟨_,_,k3⟩:=flat_ok h2 h1.1
    refine ⟨x,[],rfl,?_,noid,sub_ok hC.rel _ _ _ h1.2 h2,Me1.refl _⟩
    cases x with
    | agg ds'=>exact absurd rfl (k3 ds')
    | _=>rfl
   ·simp only [TV.ok] at h2
    subst h2
    split at h1
    ·rename_i e' b
     refine ⟨.lst [],[],rfl,rfl,noid,?_,⟨rfl,rfl,rfl⟩⟩
     simp only [ShT]
     exact ⟨[],rfl,Nat.zero_le _,fun y hy=>by cases hy⟩
    ·cases h1
   ·rename_i p e
    split at h1
    ·rename_i e' b
     rw [Bool.and_eq_true,Bool.and_eq_true] at h1
     have hl:=len b h1.2.2
     simp only [TV.ok] at h2
     rcases h2 with ⟨xs,rfl,k⟩ | ⟨ver,n,xs,fz,rfl,hb,_,k⟩
     ·exact fin xs [] e e' b rfl noid h1.2.1 k rfl hl rfl rfl rfl
     ·refine fin xs [C.at p] e e' b ?_ (fun i hi=>⟨p,by simp [ownPl1],h1.1,by simpa using hi⟩) h1.2.1 k rfl hl rfl rfl rfl
      simp only [fzCell,hb]
      rw [if_pos ⟨trivial,by omega⟩]
      simp
    ·cases h1
   ·rename_i p e
    split at h1
    ·rename_i e' b
     rw [Bool.and_eq_true,Bool.and_eq_true] at h1
     have hl:=len b h1.2.2
     simp only [TV.ok] at h2
     rcases h2 with (⟨xs,rfl,k⟩ | ⟨ver,n,xs,fz,rfl,hb,_,k⟩) | ⟨xs,rfl,k⟩
     ·exact fin xs [] e e' b rfl noid h1.2.1 k rfl hl rfl rfl rfl
     ·refine fin xs [C.at p] e e' b ?_ (fun i hi=>⟨p,by simp [ownPl1],h1.1,by simpa using hi⟩) h1.2.1 k rfl hl rfl rfl rfl
      simp only [fzCell,hb]
      rw [if_pos ⟨trivial,by omega⟩]
      simp
     ·exact fin xs [] e e' b rfl noid h1.2.1 k rfl hl rfl rfl rfl
    ·cases h1
  obtain ⟨x,id1,k1,k2,k3,k4,k5⟩:=head
  refine ⟨x :: ds,id1 ++ ids,?_,?_,?_,by simp [e4],?_⟩
  ·unfold fzCells
   rw [k1,e1]
   simp only
   rw [if_pos k2]
  ·intro i hi
   simp only [List.flatMap_cons,List.mem_append]
   rcases List.mem_append.1 hi with hi | hi
   ·obtain ⟨p,hp,h5⟩:=k3 i hi; exact ⟨p,Or.inl hp,h5⟩
   ·obtain ⟨p,hp,h5⟩:=e2 i hi; exact ⟨p,Or.inr hp,h5⟩
  ·simp only [ShL]; exact ⟨x,ds,rfl,k4,e3⟩
  ·intro j y hy
   cases j with
   | zero=>simp at hy; subst hy; simpa using k5
   | succ j=>simpa using e5 j y (by simpa using hy)
theorem agVal_ok {C:Cx} (hC:C.Ok) {fs:List Fact} {h:Id→O} {v:AP→A} (hf:FOk v fs) {r:Nat} {l:List TV} {u:Ty} {us:List Ty} {a:A} (hx:TV.ok C h (.ag l) a) (hv:∀ c,v (1,r,c)=a.cells.getD c .any) (hu:agTy C.E u=some us) (hg:agFit C.E fs r 0 l us=true) :
  ∃ x ids,fzVal h a=some (x,ids)∧argA h a=some (.d x,ids)∧(∀ i ∈ ids,∃ p ∈ l.flatMap ownPl1,p.1=true∧i=C.at p)∧ShT C.R u x∧Me1 (.d x) a ∧ ∀ c,Me1 ((A.d x).parts.getD c .any) (a.parts.getD c .any):=by
 simp only [TV.ok] at hx
 obtain ⟨hag,hx⟩:=hx
 obtain ⟨ds,ids,e1,e2,e3,e4,e5⟩:=agFit_ok hC hf hv (c:=0) hx (fun i=>by rw [Nat.zero_add]) hg
 have parts:∀ (cs:List A),cs.length=ds.length→(∀ (j:Nat) (x:D),ds[j]? = some x→Me1 (.d x) (cs.getD j .any))→∀ c,Me1 ((ds.map A.d).getD c .any) (cs.getD c .any):=by
  intro cs hl h5 c
  cases hd:ds[c]? with
  | none =>
   have h1:ds.length ≤ c:=by simpa using hd
   rw [List.getD_eq_getElem?_getD,List.getElem?_map,hd,List.getD_eq_getElem?_getD,List.getElem?_eq_none (by omega)]
   exact Me1.refl _
  | some x =>
   rw [List.getD_eq_getElem?_getD (l:=ds.map A.d),List.getElem?_map,hd]
   exact h5 c x hd
 cases a with
 | agg cs =>
  have e1:fzCells h cs=some (ds,ids):=e1
  refine ⟨.agg ds,ids,?_,?_,e2,agTy_ok hC hu e3,⟨rfl,rfl,rfl⟩,parts cs e4.symm e5⟩
  ·simp only [fzVal,e1]; rfl
  ·simp only [argA,e1]; rfl
 | d x =>
  cases x with
  | agg ds' =>
   have e1:fzCells h (ds'.map A.d)=some (ds,ids):=e1
   have key:∀ (l:List D) (m:List D) (is:List Id),fzCells h (l.map A.d)=some (m,is)→m=l∧is=[]:=by
    intro l
    induction l with
    | nil=>intro m is hm; simp only [List.map_nil,fzCells,Option.some.injEq,Prod.mk.injEq] at hm; exact ⟨hm.1.symm,hm.2.symm⟩
    | cons y l ih =>
     intro m is hm
     simp only [List.map_cons] at hm
     unfold fzCells at hm
     simp only [fzCell] at hm
     split at hm
     ·rename_i x i xs j g1 g2
      obtain ⟨rfl,rfl⟩:=ih _ _ g2
      cases g1
      split at hm
      ·cases hm; exact ⟨rfl,rfl⟩
      ·cases hm
     ·cases hm
   obtain ⟨k1,k2⟩:=key _ _ _ e1
   subst k1 k2
   exact ⟨.agg ds,[],rfl,rfl,fun i hi=>(by cases hi),agTy_ok hC hu e3,Me1.refl _,fun c=>Me1.refl _⟩
  | _=>cases hag
 | _=>cases hag
def ownPl:TV→List PL
 | .own p _ | .rl p _=>[p]
 | .ag l=>l.flatMap ownPl1
 | _=>[]
def fitA (E:Nat→Option (List Ty)) (σ:SS) (pls:List PL) (s:Src) (u:TV):Bool :=
 fit E pls (s.t σ) u || (match s,u with
  | .op x,.c (.lst e' b)=>(match opTV σ x with
   | .c (.lst e _)=>Ty.subE E e e' && lenLe σ x b
   | .nilv=>true
   | .own p e=>p.1 && Ty.subE E e e' && lenLe σ x b
   | .rl p e=>p.1 && Ty.subE E e e' && lenLe σ x b
   | _=>false)
  | .op (.const (.string a)),.c (.lit l)=>a.data.toList == l
  | .op x,.c (.str b)=>(match opTV σ x with | .c (.str _)=>lenLe σ x b | _=>false)
  | .op (.tmp r),.c u'=>decide (r < σ.n) && (match opTV σ (.tmp r),agTy E u' with | .ag l,some us=>agFit E σ.fs r 0 l us | _,_=>false)
  | _,_=>false)
def fitAs (E:Nat→Option (List Ty)) (σ:SS) (pls:List PL):List Src→List TV→Bool
 | [],[]=>true
 | s :: l,u :: m=>fitA E σ pls s u && fitAs E σ pls l m
 | _,_=>false
structure Me (a b:A):Prop where
 w:Me1 a b
 c:∀ c,Me1 (a.parts.getD c .any) (b.parts.getD c .any)
theorem Me.refl (a:A):Me a a:=⟨Me1.refl _,fun _=>Me1.refl _⟩
structure ArgR (C C':Cx) (h h1:Id→O) (pls:List PL) (t u:TV) (a w:A) (ids:List Id):Prop where
 e:argA h a=some (w,ids)
 ids:∀ i ∈ ids,∃ p ∈ ownPl t,p.1=true∧i=C.at p
 ok:TV.ok C' h1 u w
 me:Me w a
 low:∀ i ∈ idsA w,∃ p ∈ pls,i=C.at p
theorem me_lst1 (xs:List D):Me (.d (.lst xs)) (.clip xs):=⟨⟨rfl,rfl,rfl⟩,fun c=>by
 cases c with
 | zero=>exact ⟨rfl,rfl,rfl⟩
 | succ c=>exact Me1.refl _⟩
theorem me_lst2 (xs:List D) (i:Id) (v:Nat):Me (.d (.lst xs)) (.sl i v 0 xs.length):=⟨⟨rfl,rfl,rfl⟩,fun c=>by
 cases c with
 | zero=>exact ⟨rfl,rfl,rfl⟩
 | succ c=>exact Me1.refl _⟩
theorem fit_argA {C C':Cx} {h h1:Id→O} {pls:List PL} {t u:TV} {a:A} (hf:fit C.E pls t u=true) (hx:TV.ok C h t a):argA h a=some (a,[]):=by
 cases t <;> cases u <;> simp only [fit,Bool.false_eq_true] at hf <;> simp only [TV.ok] at hx
 ·obtain ⟨x,rfl,_⟩:=hx; rfl
 ·obtain ⟨ver,cs,rfl,_⟩:=hx; rfl
 ·obtain ⟨zs,rfl,_⟩:=hx; rfl
theorem fitA_ok {C C':Cx} (hC:C.Ok) {σ:SS} {st:St} (g:Ga C σ st) {h1:Id→O} (hh:∀ q,Fz (st.h (C.at q)) (h1 (C.at q))) {pls:List PL} (hR:C'.R=C.R) (hp:∀ k p,pls[k]? = some p→C'.π k=C.at p)
  {s:Src} {u:TV} {a:A} (ha:TV.ok C st.h (s.t σ) a) (hs:∀ x,s = .op x→a=st.ev x) (hf:fitA C.E σ pls s u=true):∃ w ids,ArgR C C' st.h h1 pls (s.t σ) u a w ids:=by
 unfold fitA at hf
 rw [Bool.or_eq_true] at hf
 rcases hf with hf | hf
 ·have:=fit_ok (C':=C') hC hR hp (TV.ok_fz hh ha) hf
  exact ⟨a,[],fit_argA (C':=C') (h1:=h1) hf ha,fun i hi=>(by cases hi),this.1,Me.refl a,this.2⟩
 ·split at hf
  ·rename_i x e' b
   obtain rfl:=hs x rfl
   have ha:TV.ok C st.h (opTV σ x) (st.ev x):=ha
   have fin:∀ xs:List D,(∀ y ∈ xs,ShT C.R e' y)→xs.length ≤ b→TV.ok C' h1 (.c (.lst e' b)) (.d (.lst xs)):=fun xs h2 h3=>by
    simp only [TV.ok,ShT,hR]; exact ⟨_,rfl,xs,rfl,h3,h2⟩
   split at hf
   ·rename_i e b' hx
    rw [Bool.and_eq_true] at hf
    have hle:=lenLe_ok g hf.2
    rw [hx] at ha
    simp only [TV.ok,ShT] at ha
    obtain ⟨_,hxv,xs,rfl,_,h3⟩:=ha
    rw [hxv] at hle ⊢
    have hle:(xs.length:Int) ≤ b:=hle
    exact ⟨_,[],rfl,fun i hi=>(by cases hi),fin xs (fun y hy=>subE_ok hC.rel hf.1 (h3 y hy)) (by omega),Me.refl _,fun i hi=>(by cases hi)⟩
   ·rename_i hx
    rw [hx] at ha
    simp only [TV.ok] at ha
    rw [ha]
    exact ⟨.d (.lst []),[],rfl,fun i hi=>(by cases hi),fin [] (fun y hy=>by cases hy) (Nat.zero_le _),me_lst1 [],fun i hi=>(by cases hi)⟩
   ·rename_i p e hx
    rw [Bool.and_eq_true,Bool.and_eq_true] at hf
    have hle:=lenLe_ok g hf.2
    rw [hx] at ha
    simp only [TV.ok] at ha
    rcases ha with ⟨xs,hxv,h3⟩ | ⟨ver,n,xs,fz,hxv,hb,_,h3⟩
    ·rw [hxv] at hle ⊢
     have hle:(xs.length:Int) ≤ b:=hle
     exact ⟨.d (.lst xs),[],rfl,fun i hi=>(by cases hi),fin xs (fun y hy=>subE_ok hC.rel hf.1.2 (h3 y hy)) (by omega),me_lst1 xs,fun i hi=>(by cases hi)⟩
    ·rw [hxv] at hle ⊢
     have hle:(xs.length:Int) ≤ b:=hle
     refine ⟨.d (.lst xs),[C.at p],?_,?_,fin xs (fun y hy=>subE_ok hC.rel hf.1.2 (h3 y hy)) (by omega),me_lst2 xs _ _,fun i hi=>(by cases hi)⟩
     ·simp only [argA,fzCell,hb]
      rw [if_pos ⟨trivial,by omega⟩]
      simp
     ·intro i hi
      simp only [List.mem_singleton] at hi
      exact ⟨p,by show p ∈ ownPl (opTV σ x); rw [hx]; simp [ownPl],hf.1.1,hi⟩
   ·rename_i p e hx
    rw [Bool.and_eq_true,Bool.and_eq_true] at hf
    have hle:=lenLe_ok g hf.2
    rw [hx] at ha
    simp only [TV.ok] at ha
    rcases ha with (⟨xs,hxv,h3⟩ | ⟨ver,n,xs,fz,hxv,hb,_,h3⟩) | ⟨xs,hxv,h3⟩
    ·rw [hxv] at hle ⊢
     have hle:(xs.length:Int) ≤ b:=hle
     exact ⟨.d (.lst xs),[],rfl,fun i hi=>(by cases hi),fin xs (fun y hy=>subE_ok hC.rel hf.1.2 (h3 y hy)) (by omega),me_lst1 xs,fun i hi=>(by cases hi)⟩
    ·rw [hxv] at hle ⊢
     have hle:(xs.length:Int) ≤ b:=hle
     refine ⟨.d (.lst xs),[C.at p],?_,?_,fin xs (fun y hy=>subE_ok hC.rel hf.1.2 (h3 y hy)) (by omega),me_lst2 xs _ _,fun i hi=>(by cases hi)⟩
     ·simp only [argA,fzCell,hb]
      rw [if_pos ⟨trivial,by omega⟩]
      simp
     ·intro i hi
      simp only [List.mem_singleton] at hi
      exact ⟨p,by show p ∈ ownPl (opTV σ x); rw [hx]; simp [ownPl],hf.1.1,hi⟩
    ·rw [hxv] at hle ⊢
     have hle:(xs.length:Int) ≤ b:=hle
     exact ⟨_,[],rfl,fun i hi=>(by cases hi),fin xs (fun y hy=>subE_ok hC.rel hf.1.2 (h3 y hy)) (by omega),Me.refl _,fun i hi=>(by cases hi)⟩
   ·cases hf
  ·rename_i s l
   have hs:=hs _ rfl
   subst hs
   have e:s.data.toList=l:=eq_of_beq hf
   refine ⟨.d (.s (.string s)),[],rfl,fun i hi=>(by cases hi),?_,Me.refl _,fun i hi=>(by cases hi)⟩
   simp only [TV.ok,ShT]; exact ⟨_,rfl,s,rfl,e⟩
  ·rename_i x b
   have hs:=hs x rfl
   subst hs
   have ha:TV.ok C st.h (opTV σ x) (st.ev x):=ha
   split at hf
   ·rename_i b' hx
    have hle:=lenLe_ok g hf
    rw [hx] at ha
    simp only [TV.ok,ShT] at ha
    obtain ⟨_,hxv,s,rfl,_⟩:=ha
    rw [hxv] at hle ⊢
    have hle:(s.size:Int) ≤ b:=hle
    refine ⟨.d (.s (.string s)),[],rfl,fun i hi=>(by cases hi),?_,Me.refl _,fun i hi=>(by cases hi)⟩
    simp only [TV.ok,ShT]; exact ⟨_,rfl,s,rfl,by omega⟩
   ·cases hf
  ·rename_i r u' _ _
   rw [Bool.and_eq_true] at hf
   obtain ⟨hr,hf⟩:=hf
   have hr:=of_decide_eq_true hr
   obtain rfl:=hs _ rfl
   split at hf
   ·rename_i l us hl hu
    have ha:TV.ok C st.h (opTV σ (.tmp r)) (st.ev (.tmp r)):=ha
    rw [hl] at ha
    have hag:(st.ev (.tmp r)).isAgg=true:=by simp only [TV.ok] at ha; exact ha.1
    obtain ⟨x,ids,k1,k2,k3,k4,k5,k6⟩:=agVal_ok hC g.nows' (r:=r) ha (fun c=>by
     show (st.t r).parts.getD c .any=_
     rw [← ev_tmp g hr]
     cases hst:st.ev (.tmp r) with
     | d y=>rfl
     | agg cs=>rfl
     | _=>rw [hst] at hag; cases hag) hu hf
    refine ⟨.d x,ids,k2,fun i hi=>?_,?_,⟨k5,k6⟩,fun i hi=>(by cases hi)⟩
    ·obtain ⟨p,hp,h5⟩:=k3 i hi
     exact ⟨p,by show p ∈ ownPl (opTV σ (.tmp r)); rw [hl]; exact hp,h5⟩
    ·simp only [TV.ok,hR]; exact ⟨x,rfl,k4⟩
   ·cases hf
  ·cases hf
def ownPls (σ:SS) (l:List Src):List PL:=l.flatMap fun s=>ownPl (s.t σ)
structure ArgsR (C C':Cx) (h h1:Id→O) (pls own:List PL) (us:List TV) (zs ws:List A) (ids:List Id):Prop where
 e:argAs h zs=some (ws,ids)
 ids:∀ i ∈ ids,∃ p ∈ own,p.1=true∧i=C.at p
 ok:TV.oks C' h1 us ws
 me:∀ i,Me (ws.getD i (.d (.s undef))) (zs.getD i (.d (.s undef)))
 low:∀ i ∈ idsL ws,∃ p ∈ pls,i=C.at p
theorem fitAs_ok {C C':Cx} (hC:C.Ok) {σ:SS} {st:St} (g:Ga C σ st) {h1:Id→O} (hh:∀ q,Fz (st.h (C.at q)) (h1 (C.at q))) {pls:List PL} (hR:C'.R=C.R) (hp:∀ k p,pls[k]? = some p→C'.π k=C.at p) :
  ∀ {srcs:List Src} {us:List TV} {zs:List A},TV.oks C st.h (srcs.map (Src.t σ)) zs→(∀ (i:Nat) (x:Operand),srcs[i]? = some (Src.op x)→zs[i]? = some (st.ev x))→fitAs C.E σ pls srcs us=true→∃ ws ids,ArgsR C C' st.h h1 pls (ownPls σ srcs) us zs ws ids
 | [],us,zs,hx,hs,hf=>by
  cases us <;> simp only [fitAs,Bool.false_eq_true] at hf
  simp only [List.map_nil,TV.oks] at hx
  subst hx
  exact ⟨[],[],rfl,fun i hi=>(by cases hi),by simp [TV.oks],fun i=>Me.refl _,fun i hi=>(by cases hi)⟩
 | s :: srcs,us,zs,hx,hs,hf=>by
  cases us <;> simp only [fitAs,Bool.false_eq_true,Bool.and_eq_true] at hf
  rename_i u us
  simp only [List.map_cons,TV.oks] at hx
  obtain ⟨a,l,rfl,h2,h3⟩:=hx
  obtain ⟨w,i1,r1⟩:=fitA_ok hC g hh hR hp h2 (fun x hx=>by
   have:=hs 0 x (by simp [hx])
   simpa using this) hf.1
  obtain ⟨ws,i2,r2⟩:=fitAs_ok hC g hh hR hp h3 (fun i x hx=>by
   have:=hs (i + 1) x (by simpa using hx)
   simpa using this) hf.2
  refine ⟨w :: ws,i1 ++ i2,?_,?_,?_,?_,?_⟩
  ·unfold argAs
   rw [r1.e,r2.e]
  ·intro i hi
   rcases List.mem_append.1 hi with hi | hi
   ·obtain ⟨p,h4,h5⟩:=r1.ids i hi
    exact ⟨p,by simp only [ownPls,List.flatMap_cons,List.mem_append]; exact Or.inl h4,h5⟩
   ·obtain ⟨p,h4,h5⟩:=r2.ids i hi
    exact ⟨p,by simp only [ownPls,List.flatMap_cons,List.mem_append]; exact Or.inr h4,h5⟩
  ·simp only [TV.oks]; exact ⟨w,ws,rfl,r1.ok,r2.ok⟩
  ·intro i
   cases i with
   | zero=>simpa using r1.me
   | succ i=>simpa using r2.me i
  ·intro i hi
   simp only [idsL,List.mem_append] at hi
   rcases hi with hi | hi
   ·exact r1.low i hi
   ·exact r2.low i hi
end
end
end Go.Proofs.YtenoggjjhamdaaaGreatDoor
