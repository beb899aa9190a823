/-
  WHAT IS PROVED HERE: parts of the proof: SxV SxX SxF SxG SxH.
-/
import Derived.Test.YtenoggjjhamdaaaGreatDoorB12
set_option linter.all false
namespace Go.Proofs.YtenoggjjhamdaaaGreatDoor
open Go Go.RowKit
section
noncomputable section
def sNilQ (P:Program) (σ:SS) (op:BinOp) (t:TypeId) (x y:Operand):Option Out :=
 match y,opTV σ x,isIfaceT P t with
 | .const .nilIface,.c (.opq _),some true=>if isEq op then some { act:=.wr (.c .bool) [] [] } else none
 | _,_,_=>none
theorem sNilQ_ok {C:Cx} (hC:C.Ok) {X:Orc} {σ:SS} {st:St} (g:Ga C σ st) {o:Oper} {op:BinOp} {t t':TypeId} {x y:Operand} (ho:o.op = .binOp op t x y t') {out:Out} (h:sNilQ C.P σ op t x y=some out):OpOk C X σ st o out:=by
 unfold sNilQ at h
 split at h
 ·rename_i i tx hi
  split at h
  ·rename_i hop
   cases h
   have hx:=opTV_ok g x
   rw [tx] at hx
   simp only [TV.ok,ShT] at hx
   obtain ⟨_,ex,hx⟩:=hx
   have fin:∀ b,opE C.P X st.d st.ev st.h (st.d,o.dst.getD st.n) o=some { v:=.d (.s (.bool b)) }→OpOk C X σ st o { act:=.wr (.c .bool) [] [] }:=fun b he=>by
    refine out_val hC g (a:=.d (.s (.bool b))) (rd:=[]) he ?_ (fun _ hi=>by cases hi) fun v hv=>nofs v
    simp only [TV.ok,ShT]; exact ⟨_,rfl,_,rfl⟩
   obtain ⟨d,op',ty,pos,af,gd⟩:=o
   simp only at ho
   subst ho
   have he:opE C.P X st.d st.ev st.h (st.d,d.getD st.n) ⟨d,.binOp op t x (.const .nilIface) t',ty,pos,af,gd⟩=if (st.ev x).isIfc then (match ifcNilE C.P op t (st.ev (.const .nilIface)) with | some e=>some e | none=>exactE C.P st.ev ⟨d,.binOp op t x (.const .nilIface) t',ty,pos,af,gd⟩) else exactE C.P st.ev ⟨d,.binOp op t x (.const .nilIface) t',ty,pos,af,gd⟩:=rfl
   have hb:op = .eql ∨ op = .neq:=by cases op <;> simp [isEq] at hop <;> simp
   rcases hx with ⟨_,rfl⟩ | ⟨⟨ty',y,rfl⟩,_⟩
   ·rcases hb with rfl | rfl
    ·refine fin true ?_
     rw [he,if_neg (by rw [ex]; simp [A.isIfc]),exactE_bin,ex]
     exact nil_eql hi
    ·refine fin false ?_
     rw [he,if_neg (by rw [ex]; simp [A.isIfc]),exactE_bin,ex]
     exact nil_neq hi
   ·have hn:(st.ev (.const .nilIface)).isNil=true:=rfl
    rcases hb with rfl | rfl
    ·refine fin false ?_
     rw [he,if_pos (by rw [ex]; rfl)]
     unfold ifcNilE
     rw [if_pos ⟨hi,hn⟩]
    ·refine fin true ?_
     rw [he,if_pos (by rw [ex]; rfl)]
     unfold ifcNilE
     rw [if_pos ⟨hi,hn⟩]
  ·cases h
 ·cases h
def agCells (E:Nat→Option (List Ty)):TV→Option (List TV)
 | .ag l=>some l
 | .c (.st ts)=>if ts.all Ty.flat then some (ts.map .c) else none
 | .c (.nm i)=>match E i with | some ts=>if ts.all Ty.flat then some (ts.map .c) else none | none=>none
 | _=>none
theorem agCells_ok {C:Cx} (hC:C.Ok) {h:Id→O} {t:TV} {a:A} {l:List TV} (hx:TV.ok C h t a) (hl:agCells C.E t=some l):a.isAgg=true∧TV.oks C h l a.cells∧a.parts=a.cells:=by
 have pl:∀ a:A,a.isAgg=true→a.parts=a.cells:=by
  intro a h
  cases a <;> first | rfl | (simp [A.isAgg] at h)
 unfold agCells at hl
 split at hl
 ·cases hl
  simp only [TV.ok] at hx
  exact ⟨hx.1,hx.2,pl _ hx.1⟩
 ·split at hl
  ·cases hl
   simp only [TV.ok,ShT] at hx
   obtain ⟨_,rfl,ds,rfl,h2⟩:=hx
   exact ⟨rfl,oks_map_c h2,rfl⟩
  ·cases hl
 ·split at hl
  ·rename_i i ts hE
   split at hl
   ·cases hl
    simp only [TV.ok,ShT] at hx
    obtain ⟨_,rfl,h2⟩:=hx
    obtain ⟨ts',ds,e1,rfl,h3⟩:=hC.rel.unf _ _ h2
    rw [hE] at e1
    cases e1
    exact ⟨rfl,oks_map_c h3,rfl⟩
   ·cases hl
  ·cases hl
 ·cases hl
def sFieldV (P:Program) (E:Nat→Option (List Ty)) (σ:SS) (s:TypeId) (x:Operand) (f:Nat):Option Out :=
 match P.underlying s,x with
 | some (.struct fs),.tmp r =>
  match (fs[f]?:Option Field),decide (r < σ.n),agCells E (opTV σ (.tmp r)) with
  | some fd,true,some l =>
   match tagg P fd.type with
   | some true =>
    match tsize P fd.type with
    | some n=>if fd.offset + n ≤ l.length then
      let m:=linkC σ.fs (fun c=>(1,r,fd.offset + c)) (fun c=>(6,c,0)) 0 ((l.drop fd.offset).take n)
      some { act:=.wr (mkTV ((l.drop fd.offset).take n)) m.1 m.2 } else none
    | none=>none
   | some false =>
    match l[fd.offset]?,tsize P fd.type with
    | some u,some _=>some { act:=.wr u [((1,r,fd.offset),(5,0,0))] (eqNew (1,r,fd.offset) (5,0,0) u) }
    | _,_=>none
   | none=>none
  | _,_,_=>none
 | _,_=>none
theorem sFieldV_ok {C:Cx} (hC:C.Ok) {X:Orc} {σ:SS} {st:St} (g:Ga C σ st) {o:Oper} {s:TypeId} {x:Operand} {f:Nat} (ho:o.op = .field s x f) {out:Out} (h:sFieldV C.P C.E σ s x f=some out):OpOk C X σ st o out:=by
 have hop:∀ a,fieldE C.P s (st.ev x) f=some a→opE C.P X st.d st.ev st.h (st.d,o.dst.getD st.n) o=some { v:=a }:=by
  intro a ha
  obtain ⟨dst,op,ty,pos,af,gd⟩:=o
  simp only at ho
  subst ho
  show plainE (fieldE C.P s (st.ev x) f)=_
  rw [ha]; rfl
 unfold sFieldV at h
 split at h
 ·rename_i fs r hu
  split at h
  ·rename_i fd l hfd hr hl
   have hr:r < σ.n:=of_decide_eq_true hr
   have hx:=opTV_ok g (.tmp r)
   obtain ⟨h1,h2,h3⟩:=agCells_ok hC hx hl
   have ev:st.ev (.tmp r)=st.t r:=ev_tmp g hr
   rw [ev] at h1 h2 h3
   have hlen:=oks_len h2
   have hpart:∀ a,partE C.P fd.type (st.t r).cells fd.offset=some a→fieldE C.P s (st.ev (.tmp r)) f=some a:=fun a ha=>by
    unfold fieldE
    rw [hu]
    simp only [hfd,ev]
    rw [if_pos h1,ha]
   have hv1:∀ v:AP→A,Now C st v→∀ c,v (1,r,c)=(st.t r).cells.getD c .any:=fun v hv c=>by
    rw [hv _ (by show 1 < 5; decide)]
    show (st.t r).parts.getD c .any=_
    rw [h3]
   split at h
   ·rename_i hag
    split at h
    ·rename_i n hn
     split at h
     ·rename_i hb
      cases h
      refine out_val hC g (a:=A.mk (((st.t r).cells.drop fd.offset).take n)) (rd:=[]) (hop _ (hpart _ ?_)) (mkTV_ok (oks_take n (oks_drop fd.offset h2))) (fun _ hi=>by cases hi) fun v hv=>?_
      ·unfold partE
       rw [hag,hn]
       simp only
       rw [if_pos (by omega)]
      ·refine linkC_ok fun c _ hc=>?_
       simp only [List.length_take,List.length_drop,Nat.zero_add] at hc
       rw [hv1 v hv.now,hv.nc,(mk_cells _).2.2]
       rw [List.getD_eq_getElem?_getD,List.getD_eq_getElem?_getD,List.getElem?_take,if_pos (by omega),List.getElem?_drop]
     ·cases h
    ·cases h
   ·rename_i hag
    split at h
    ·rename_i u n hu2 hn
     cases h
     obtain ⟨a,ha,hok⟩:=oks_get h2 hu2
     refine out_val hC g (a:=a) (rd:=[]) (hop _ (hpart _ ?_)) hok (fun _ hi=>by cases hi) fun v hv=>?_
     ·unfold partE
      rw [hag,hn]
      exact ha
     ·have e:v (1,r,fd.offset)=v (5,0,0):=by
       rw [hv1 v hv.now,hv.nv,List.getD_eq_getElem?_getD,ha]; rfl
      refine ⟨fun p hp=>?_,eqNew_ok e _⟩
      simp only [List.mem_singleton] at hp
      subst hp; exact e
    ·cases h
   ·cases h
  ·cases h
 ·cases h
def sSliceS (P:Program) (σ:SS) (t:TypeId) (x:Operand) (lo hi mx:Option Operand):Option Out :=
 match P.underlying t,opTV σ x,opL σ x,mx with
 | some .string,.c (.str b),some L,none =>
  match lo,hi with
  | some l,some u =>
   match opTV σ l,opTV σ u,opI σ l,opI σ u with
   | .c (.int .i64),.c (.int .i64),some A,some B =>
    if leI σ.fs (zT,0) A 0 && leI σ.fs A B 0 && leI σ.fs B L 0 then some { act:=.wr (.c (.str b)) [] (tyB (5,0,0) (.str b)) } else none
   | _,_,_,_=>none
  | _,_=>none
 | _,_,_,_=>none
theorem sSliceS_ok {C:Cx} (hC:C.Ok) {X:Orc} {σ:SS} {st:St} (g:Ga C σ st) {o:Oper} {t:TypeId} {x:Operand} {lo hi mx:Option Operand} (ho:o.op = .slice t x lo hi mx) {out:Out} (h:sSliceS C.P σ t x lo hi mx=some out):OpOk C X σ st o out:=by
 have hx:=opTV_ok g x
 unfold sSliceS at h
 split at h
 ·rename_i b L hu tx hL
  rw [tx] at hx
  simp only [TV.ok,ShT] at hx
  obtain ⟨_,ex,s,rfl,hbs⟩:=hx
  split at h
  ·rename_i l u
   split at h
   ·rename_i A' B' tl tu hA hB
    split at h
    ·rename_i hc
     cases h
     rw [Bool.and_eq_true,Bool.and_eq_true] at hc
     obtain ⟨⟨d2,d3⟩,d4⟩:=hc
     have hl:=opTV_ok g l
     have hu':=opTV_ok g u
     rw [tl] at hl
     rw [tu] at hu'
     simp only [TV.ok,ShT] at hl hu'
     obtain ⟨_,el,a,rfl⟩:=hl
     obtain ⟨_,eu,z,rfl⟩:=hu'
     have q1:=leI_ok g.nows d2
     have q2:=leI_ok g.nows d3
     have q3:=leI_ok g.nows d4
     have c1:=opI_ok g hA (nows C st)
     have c2:=opI_ok g hB (nows C st)
     have c3:=opL_ok g hL (nows C st)
     rw [el] at c1
     rw [eu] at c2
     rw [ex] at c3
     have c1:a=_:=c1
     have c2:z=_:=c2
     have c3:(s.size:Int)=_:=c3
     have z0:tv (apv C st) zT=0:=rfl
     simp only [z0] at q1
     have hsl:=sliceAt_str (P:=C.P) s a z hu (by omega) (by omega) (by omega)
     have hsz:(s.extract a.toNat z.toNat).size ≤ b:=by rw [ByteArray.size_extract]; omega
     refine out_val hC g (a:=.d (.s (.string (s.extract a.toNat z.toNat)))) (rd:=[]) ?_ ?_ (fun _ hi=>by cases hi) fun v hv=>⟨fun p hp=>(by cases hp),?_⟩
     ·obtain ⟨d,op,ty,pos,af,gd⟩:=o
      simp only at ho
      subst ho
      show (match (st.ev x).exact with | some _=>exactE C.P st.ev ⟨d,.slice t x (some l) (some u) none,ty,pos,af,gd⟩ | none=>_)=_
      rw [ex]
      show exactE _ _ _=_
      rw [exactE_slice,ex,el,eu]
      simp only [A.exact,hsl,Option.map_some]
      rfl
     ·simp only [TV.ok,ShT]; exact ⟨_,rfl,_,rfl,hsz⟩
     ·exact tyB_ok (R:=C.R) (gbOf hC hv.now) (x:=.s (.string (s.extract a.toNat z.toNat))) (by simp only [ShT]; exact ⟨_,rfl,hsz⟩) (hv.nv 0 0)
    ·cases h
   ·cases h
  ·cases h
 ·cases h
def sIxJ (P:Program) (E:Nat→Option (List Ty)) (σ:SS) (o:Oper):Option (Out × Out) :=
 match o.op with
 | .indexAddr t x i =>
  match P.underlying t,opI σ i,opL σ x,opTV σ i,opTV σ x with
  | some (.slice e),some I,some L,.c (.int _),.c (.lsj el ej _ m) =>
   let G:Term × Int:=((1,4,3000 + m,0),0)
   if leI σ.fs (zT,0) I 0 && (leI σ.fs I L 1 && (tsize P e == some (el.sz E) && (decide (m < 500) && el.sz E == ej.sz E))) then
    some ({ act:=.wr (.ep ej 0) [] [.f (leF I G 0),.f (leF G I 0)] },{ act:=.wr (.ep el 0) [] (if leI σ.fs I G 0 then [.f (leF I G 1)] else []) })
   else none
  | _,_,_,_,_=>none
 | _=>none
theorem sIxJ_ok {C:Cx} (hC:C.Ok) {X:Orc} {σ:SS} {st:St} (g:Ga C σ st) {o:Oper} {o1 o2:Out} (h:sIxJ C.P C.E σ o=some (o1,o2)):OpOk C X σ st o o1 ∨ OpOk C X σ st o o2:=by
 unfold sIxJ at h
 split at h
 ·rename_i t x i ho
  have hop:opE C.P X st.d st.ev st.h (st.d,o.dst.getD st.n) o=indexAddrE C.P st.h t (st.ev x) (st.ev i):=by
   obtain ⟨dst,op,ty,pos,af,gd⟩:=o
   simp only at ho
   subst ho; rfl
  split at h
  ·rename_i e I L k el ej b m hu hI hL hti hx
   split at h
   ·rename_i hb
    simp only [Bool.and_eq_true] at hb
    obtain ⟨b1,b2,b3,b4,b5⟩:=hb
    cases h
    have hok:=opTV_ok g x
    have hik:=opTV_ok g i
    rw [hti] at hik
    simp only [TV.ok,ShT] at hik
    obtain ⟨_,hiv,n,rfl⟩:=hik
    rw [hx] at hok
    simp only [TV.ok,ShT] at hok
    obtain ⟨_,hxv,xs,rfl,_,hs,hm,n',y',hn',hy',hj⟩:=hok
    have c1:=fun v hv=>opI_ok g hI (v:=v) hv
    have c2:=opL_ok g hL (nows C st)
    have b1:=leI_ok g.nows b1
    have b2:=leI_ok g.nows b2
    have d1:=c1 _ (nows C st)
    rw [hiv] at d1
    rw [hxv] at c2
    have d1:n=_:=d1
    have c2:(xs.length:Int)=_:=c2
    have z0:tv (apv C st) zT=0:=rfl
    simp only [z0] at b1
    have n0:0 ≤ n:=by omega
    have n1:n < xs.length:=by omega
    have hG:(n':Int)=C.bd m:=(hC.gx m n' hm).1 hn'
    have gv:∀ v,Now C st v→tv v (1,4,3000 + m,0)=(n':Int):=fun v hv=>by rw [hG]; exact bdOf hC hv m
    have iv:∀ v,Now C st v→n=tv v I.1 + I.2:=fun v hv=>by
     have:=c1 v hv
     rw [hiv] at this
     exact this
    have b3:=eq_of_beq b3
    obtain ⟨y,h1,h2,h3⟩:=idxT_ok hC hs rfl n0 n1
    by_cases hn:n.toNat=n'
    ·left
     refine out_val hC g (a:=.ep xs n.toNat 0) (rd:=[]) ?_ ?_ (fun _ hi=>by cases hi) fun v hv=>⟨fun p hp=>(by cases hp),?_⟩
     ·rw [hop,hxv,hiv]
      simp only [indexAddrE,intOfA,hu,b3,h3]
     ·simp only [TV.ok]; exact ⟨xs,_,y',rfl,by rw [hn]; exact hy',hj⟩
     ·have e1:=gv v hv.now
      have e2:=iv v hv.now
      intro f hf
      simp only [List.mem_cons,List.not_mem_nil,or_false] at hf
      rcases hf with rfl | rfl
      ·exact leF_ok.2 (by simp only [e1]; omega)
      ·exact leF_ok.2 (by simp only [e1]; omega)
    ·right
     refine out_val hC g (a:=.ep xs n.toNat 0) (rd:=[]) ?_ ?_ (fun _ hi=>by cases hi) fun v hv=>⟨fun p hp=>(by cases hp),?_⟩
     ·rw [hop,hxv,hiv]
      simp only [indexAddrE,intOfA,hu,b3,h3]
     ·simp only [TV.ok]; exact ⟨xs,_,y,rfl,h1,h2⟩
     ·have e1:=gv v hv.now
      have e2:=iv v hv.now
      split
      ·rename_i hle
       have e3:=leI_ok (g.fs v hv.now) hle
       intro f hf
       simp only [List.mem_cons,List.not_mem_nil,or_false] at hf
       subst hf
       simp only [e1] at e3
       exact leF_ok.2 (by simp only [e1]; omega)
      ·intro f hf; cases hf
   ·cases h
  ·cases h
 ·cases h
end
end
section
noncomputable section
section
variable {β:Type}
def fB (b:Bool) (k:Bool→β):β:=match b with
 | true=>k true
 | false=>k false
def fP (p:Bool × Nat) (k:Bool × Nat→β):β:=match p with
 | (a,b)=>fB a fun a=>fN b fun b=>k (a,b)
def fLF (x:LF) (k:LF→β):β:=match x with
 | .le a b c=>fTm a fun a=>fTm b fun b=>fZ c fun c=>k (.le a b c)
 | .isb a b=>fAP a fun a=>fB b fun b=>k (.isb a b)
def fF (x:Fact) (k:Fact→β):β:=match x with
 | .f x=>fLF x fun x=>k (.f x)
 | .imp a b x=>fAP a fun a=>fB b fun b=>fLF x fun x=>k (.imp a b x)
 | .impi a z x=>fAP a fun a=>fZ z fun z=>fLF x fun x=>k (.impi a z x)
 | .impl x y=>fLF x fun x=>fLF y fun y=>k (.impl x y)
def fTy (t:Ty) (k:Ty→β):β:=match t with
 | .int i=>k (.int i)
 | .bool=>k .bool
 | .str b=>k (.str b)
 | .lst e b=>k (.lst e b)
 | .st ts=>k (.st ts)
 | .nm i=>k (.nm i)
 | .any=>k .any
 | .ix m=>k (.ix m)
 | .opq i=>k (.opq i)
 | .lit l=>k (.lit l)
 | .lsj e f b m=>k (.lsj e f b m)
def fT (t:TV) (k:TV→β):β:=match t with
 | .any=>k .any
 | .c t=>fTy t fun t=>k (.c t)
 | .nilv=>k .nilv
 | .own p e=>fP p fun p=>fTy e fun e=>k (.own p e)
 | .rl p e=>fP p fun p=>fTy e fun e=>k (.rl p e)
 | .tup l=>k (.tup l)
 | .bp p off=>fP p fun p=>fN off fun off=>k (.bp p off)
 | .ep t off=>fTy t fun t=>fN off fun off=>k (.ep t off)
 | .clo f caps=>k (.clo f caps)
 | .ag l=>k (.ag l)
 | .el p e off=>fP p fun p=>fTy e fun e=>fN off fun off=>k (.el p e off)
 | .und=>k .und
 | .mp p el s=>fP p fun p=>fTy el fun el=>k (.mp p el s)
 | .was a b=>k (.was a b)
 | .dead=>k .dead
def fSl (p:Nat × TV) (k:Nat × TV→β):β:=match p with
 | (i,t)=>fN i fun i=>fT t fun t=>k (i,t)
def fHp (p:PL × List TV) (k:PL × List TV→β):β:=match p with
 | (p,l)=>fP p fun p=>fL fT l fun l=>k (p,l)
def fWh (p:PL × Ty) (k:PL × Ty→β):β:=match p with
 | (p,t)=>fP p fun p=>fTy t fun t=>k (p,t)
def fSS (σ:SS) (k:SS→β):β:=match σ with
 | ⟨n,wh,sl,hp,fs⟩=>fN n fun n=>fL fWh wh fun wh=>fL fSl sl fun sl=>fL fHp hp fun hp=>fL fF fs fun fs=>k ⟨n,wh,sl,hp,fs⟩
theorem fB_eq (n:Bool) (k:Bool→β):fB n k=k n:=by cases n <;> rfl
theorem fP_eq (n:Bool × Nat) (k:Bool × Nat→β):fP n k=k n:=by obtain ⟨a,b⟩:=n; simp only [fP,fB_eq,fN_eq]
theorem fLF_eq (n:LF) (k:LF→β):fLF n k=k n:=by cases n <;> simp only [fLF,fTm_eq,fZ_eq,fB_eq,fAP_eq]
theorem fF_eq (n:Fact) (k:Fact→β):fF n k=k n:=by cases n <;> simp only [fF,fLF_eq,fZ_eq,fB_eq,fAP_eq]
theorem fTy_eq (n:Ty) (k:Ty→β):fTy n k=k n:=by cases n <;> rfl
theorem fT_eq (n:TV) (k:TV→β):fT n k=k n:=by cases n <;> simp only [fT,fTy_eq,fP_eq,fN_eq]
theorem fSl_eq (n:Nat × TV) (k:Nat × TV→β):fSl n k=k n:=by obtain ⟨a,b⟩:=n; simp only [fSl,fN_eq,fT_eq]
theorem fHp_eq (n:PL × List TV) (k:PL × List TV→β):fHp n k=k n:=by obtain ⟨a,b⟩:=n; simp only [fHp,fP_eq,fL_eq fT_eq]
theorem fWh_eq (n:PL × Ty) (k:PL × Ty→β):fWh n k=k n:=by obtain ⟨a,b⟩:=n; simp only [fWh,fP_eq,fTy_eq]
theorem fSS_eq (σ:SS) (k:SS→β):fSS σ k=k σ:=by
 obtain ⟨n,wh,sl,hp,fs⟩:=σ
 simp only [fSS,fN_eq,fL_eq fWh_eq,fL_eq fSl_eq,fL_eq fHp_eq,fL_eq fF_eq]
end
def isT (t:Nat) (a:AP):Bool:=Bool.rec false (Nat.ble a.1 1) (Nat.beq a.2.1 t)
def isO (j:Nat) (a:AP):Bool:=Bool.rec false (Nat.beq a.1 2) (Nat.beq a.2.1 j)
def reLE (K:AP→Bool) (fs:List Fact) (x y:Term) (c:Int):List LF :=
 if Term.men K x then (if Term.men K y then [] else fs.filterMap fun g=>match g with
  | .f (.le z x' e)=>if tmQ x' x && !Term.men K z then some (.le z y (e + c)) else none
  | _=>none)
 else fs.filterMap fun g=>match g with
  | .f (.le y' z e)=>if tmQ y' y && !Term.men K z then some (.le x z (c + e)) else none
  | _=>none
theorem reLE_ok {v:AP→A} {K:AP→Bool} {fs:List Fact} (hf:FOk v fs) {x y:Term} {c:Int} {z:LF} (hz:z ∈ reLE K fs x y c) (h:LF.ok v (.le x y c)):z.ok v:=by
 have h:tv v x + c ≤ tv v y:=h
 unfold reLE at hz
 split at hz
 ·split at hz
  ·cases hz
  ·obtain ⟨g,hg,hm⟩:=List.mem_filterMap.1 hz
   clear hz
   split at hm
   ·rename_i a b e
    split at hm
    ·rename_i hc
     rw [Bool.and_eq_true] at hc
     cases hm
     have h2:tv v a + e ≤ tv v b:=hf _ hg
     rw [tmQ_eq hc.1] at h2
     show tv v a + (e + c) ≤ tv v y
     omega
    ·cases hm
   ·cases hm
 ·obtain ⟨g,hg,hm⟩:=List.mem_filterMap.1 hz
  clear hz
  split at hm
  ·rename_i a b e
   split at hm
   ·rename_i hc
    rw [Bool.and_eq_true] at hc
    cases hm
    have h2:tv v a + e ≤ tv v b:=hf _ hg
    rw [tmQ_eq hc.1] at h2
    show tv v x + (c + e) ≤ tv v b
    omega
   ·cases hm
  ·cases hm
def prLE (K:AP→Bool) (fs:List Fact) (x y:Term) (c:Int):List LF :=
 if Term.men K x then (if Term.men K y then [] else fs.filterMap fun g=>match g with
  | .f (.le x' z e)=>if tmQ x' x && !Term.men K z then some (.le z y (c - e)) else none
  | _=>none)
 else if Term.men K y then fs.filterMap fun g=>match g with
  | .f (.le z y' e)=>if tmQ y' y && !Term.men K z then some (.le x z (c - e)) else none
  | _=>none
 else [.le x y c]
theorem prLE_ok {v:AP→A} {K:AP→Bool} {fs:List Fact} (hf:FOk v fs) {x y:Term} {c:Int} {z:LF} (hz:z ∈ prLE K fs x y c) (h:z.ok v):LF.ok v (.le x y c):=by
 unfold prLE at hz
 split at hz
 ·split at hz
  ·cases hz
  ·obtain ⟨g,hg,hm⟩:=List.mem_filterMap.1 hz
   clear hz
   split at hm
   ·rename_i a b e
    split at hm
    ·rename_i hc
     rw [Bool.and_eq_true] at hc
     cases hm
     have h2:tv v a + e ≤ tv v b:=hf _ hg
     have h:tv v b + (c - e) ≤ tv v y:=h
     rw [tmQ_eq hc.1] at h2
     show tv v x + c ≤ tv v y
     omega
    ·cases hm
   ·cases hm
 ·split at hz
  ·obtain ⟨g,hg,hm⟩:=List.mem_filterMap.1 hz
   clear hz
   split at hm
   ·rename_i a b e
    split at hm
    ·rename_i hc
     rw [Bool.and_eq_true] at hc
     cases hm
     have h2:tv v a + e ≤ tv v b:=hf _ hg
     have h:tv v x + (c - e) ≤ tv v a:=h
     rw [tmQ_eq hc.1] at h2
     show tv v x + c ≤ tv v y
     omega
    ·cases hm
   ·cases hm
  ·simp only [List.mem_singleton] at hz
   subst hz; exact h
def coLF (K:AP→Bool) (fs:List Fact) (y:LF):List LF :=
 if y.men K then (match y with | .le a b c=>reLE K fs a b c | .isb _ _=>[]) else [y]
theorem coLF_ok {v:AP→A} {K:AP→Bool} {fs:List Fact} (hf:FOk v fs) {y z:LF} (hz:z ∈ coLF K fs y) (h:y.ok v):z.ok v:=by
 unfold coLF at hz
 split at hz
 ·split at hz
  ·exact reLE_ok hf hz h
  ·cases hz
 ·simp only [List.mem_singleton] at hz
  subst hz; exact h
def elimC (K:AP→Bool) (fs:List Fact):List Fact :=
 fs.flatMap fun f=>if !f.men K then [] else match f with
  | .imp p q (.isb a b)=>if K a && !K p then fs.filterMap fun g=>(match g with
    | .imp a' b' x=>if apQ a' a && (bQ b' b && !x.men K) then some (.imp p q x) else none
    | _=>none) else []
  | .impi a z x=>if K a then (fs.flatMap fun g=>match g with
    | .f (.le t u c)=>if tmQ t (1,a) && (Nat.beq u.1 1 && (!K u.2 && (zQ c 0 && fs.any fun g2=>(match g2 with | .f (.le u' t' c')=>tmQ u' u && (tmQ t' t && zQ c' 0) | _=>false)))) then (coLF K fs x).map (.impi u.2 z) else []
    | _=>[]) else (coLF K fs x).map (.impi a z)
  | .impl (.le a b c) y=>(prLE K fs a b c).flatMap fun p=>(coLF K fs y).map (.impl p)
  | _=>[]
theorem elimC_ok {v:AP→A} {K:AP→Bool} {fs:List Fact} (hf:FOk v fs):FOk v (elimC K fs):=by
 intro h hm
 unfold elimC at hm
 obtain ⟨f,hfm,hm⟩:=List.mem_flatMap.1 hm
 split at hm
 ·cases hm
 ·split at hm
  ·rename_i p q a b hnm
   split at hm
   ·obtain ⟨g,hg,hm⟩:=List.mem_filterMap.1 hm
    split at hm
    ·rename_i a' b' x
     split at hm
     ·rename_i hc
      rw [Bool.and_eq_true,Bool.and_eq_true] at hc
      cases hm
      intro hp
      have h1:boolA (v a)=b:=hf _ hfm hp
      refine (hf _ hg) ?_
      rw [apQ_eq hc.1,bQ_eq hc.2.1]; exact h1
     ·cases hm
    ·cases hm
   ·cases hm
  ·rename_i a z x hnm
   split at hm
   ·obtain ⟨g,hg,hm⟩:=List.mem_flatMap.1 hm
    split at hm
    ·rename_i t u c
     split at hm
     ·rename_i hc
      simp only [Bool.and_eq_true] at hc
      obtain ⟨h1,h2,_,h3,h4⟩:=hc
      obtain ⟨g2,hg2,h4⟩:=List.any_eq_true.1 h4
      split at h4
      ·rename_i u' t' c'
       simp only [Bool.and_eq_true] at h4
       obtain ⟨y,hy,rfl⟩:=List.mem_map.1 hm
       have e1:tv v t + c ≤ tv v u:=hf _ hg
       have e2:tv v u' + c' ≤ tv v t':=hf _ hg2
       rw [tmQ_eq h4.1,tmQ_eq h4.2.1,zQ_eq h4.2.2] at e2
       rw [zQ_eq h3] at e1
       rw [tmQ_eq h1] at e1 e2
       obtain ⟨ku,u⟩:=u
       obtain rfl:ku=1:=Nat.eq_of_beq_eq_true h2
       have e3:tv v (1,a)=intA (v a):=rfl
       have e4:tv v (1,u)=intA (v u):=rfl
       intro hz
       have hz:intA (v u)=z:=hz
       exact coLF_ok hf hy (hf _ hfm (by omega))
      ·cases h4
     ·cases hm
    ·cases hm
   ·obtain ⟨y,hy,rfl⟩:=List.mem_map.1 hm
    intro hz
    exact coLF_ok hf hy (hf _ hfm hz)
  ·rename_i a b c y hnm
   obtain ⟨p,hp,hm⟩:=List.mem_flatMap.1 hm
   obtain ⟨z,hz,rfl⟩:=List.mem_map.1 hm
   intro h1
   exact coLF_ok hf hz (hf _ hfm (prLE_ok hf hp h1))
  ·cases hm
def dropK (K:AP→Bool) (fs:List Fact):List Fact :=
 if fs.any (Fact.men K) then addU (elimN K fs ++ elimC K fs) (fs.filter fun f=>!f.men K && !f.triv) else fs
theorem dropK_ok {v:AP→A} {K:AP→Bool} {fs:List Fact} (hf:FOk v fs):FOk v (dropK K fs):=by
 unfold dropK
 split
 ·intro f hm
  rcases addU_mem hm with hm | hm
  ·rcases List.mem_append.1 hm with hm | hm
   ·exact elimN_ok2 hf f hm
   ·exact elimC_ok hf f hm
  ·exact hf f (List.mem_filter.1 hm).1
 ·exact hf
def dropKs {α:Type} (K:α→AP→Bool):List α→List Fact→List Fact
 | [],fs=>fs
 | t :: l,fs=>dropKs K l (dropK (K t) fs)
theorem dropKs_ok {α:Type} {v:AP→A} {K:α→AP→Bool}:∀ (l:List α) {fs:List Fact},FOk v fs→FOk v (dropKs K l fs)
 | [],fs,h=>h
 | t :: l,fs,h=>dropKs_ok l (dropK_ok h)
def memN (l:List Nat) (i:Nat):Bool:=List.rec false (fun j _ ih=>Bool.rec ih true (Nat.beq i j)) l
def slim (d b:List Nat) (σ:SS):SS :=
 match d,b with
 | [],[]=>σ
 | d,b =>
  { n:=σ.n,
     wh:=σ.wh.filter fun p=>!(p.1.1 && memN b p.1.2),
     sl:=σ.sl.filter fun p=>!memN d p.1,
     hp:=σ.hp.filter fun p=>!(p.1.1 && memN b p.1.2),
     fs:=dropKs isO b (dropKs isT d σ.fs) }
theorem slim_ok {C:Cx} {σ:SS} {st:St} (g:Ga C σ st) (d b:List Nat):Ga C (slim d b σ) st:=by
 unfold slim
 split
 ·exact g
 ·exact ⟨g.d,g.n,fun p hp=>g.sl p (List.mem_filter.1 hp).1,fun p hp=>g.hp p (List.mem_filter.1 hp).1,fun v hv=>dropKs_ok _ (dropKs_ok _ (g.fs v hv)),g.low,g.al,fun p hp=>g.pk p (List.mem_filter.1 hp).1,fun p hp=>g.wh p (List.mem_filter.1 hp).1⟩
abbrev DD:=List (Nat × List Nat × List Nat × List (List Nat))
def ddF (dd:DD) (i:Nat):Option (Nat × List Nat × List Nat × List (List Nat)):=dd.find? fun p=>Nat.beq p.1 i
def ddE (dd:DD) (i:Nat) (σ:SS):SS:=match ddF dd i with
 | some p=>slim p.2.1 p.2.2.1 σ
 | none=>σ
def ddO (dd:DD) (i:Nat):List (List Nat):=match ddF dd i with
 | some p=>p.2.2.2
 | none=>[]
theorem ddE_ok {C:Cx} {σ:SS} {st:St} (g:Ga C σ st) (dd:DD) (i:Nat):Ga C (ddE dd i σ) st:=by
 unfold ddE
 split
 ·exact slim_ok g _ _
 ·exact g
end
end
section
noncomputable section
structure SK where
 P:Program
 E:Nat→Option (List Ty)
 np:Nat
 eqs:List (TypeId × List Ty)
 DB:List Ctr
 wl:List Nat:=[]
 ads:List (Nat × Nat):=[]
 ai:Nat→TypeId→Option Ty:=fun _ _=>none
 ixs:List Nat:=[]
structure SK.Of (K:SK) (C:Cx) (X:Orc):Prop where
 ok:C.Ok
 p:C.P=K.P
 e:C.E=K.E
 np:C.np=K.np
 eqs:C.eqs=K.eqs
 wl:C.wl=K.wl
 ads:C.ads=K.ads
 ai:C.ai=K.ai
 db:Ctrs C X K.DB
def opS (K:SK) (σ:SS) (o:Oper):Option Out :=
 match o.op with
 | .move x | .assign x=>some (sMove K.E σ x)
 | .pick c a b=>sPick K.E σ c a b
 | .alloc t=>sAlloc K.P o.dst t
 | .box t x=>sBox K.P K.E σ o.dst t x
 | .load t a=>sLoad K.P K.E σ t a
 | .store t a x=>(match sStore K.P K.E K.np σ t a x with | some out=>some out | none=>sStoreG K.P K.E K.wl K.ads σ t a x)
 | .fieldAddr s x f=>sField K.P σ s x f
 | .indexAddr t x i=>sIndexA K.P K.E σ t x i
 | .extract x i=>sExtract K.E σ x i
 | .nilCheck x=>sNil K.E σ x
 | .makeFunc fn a b=>sFunc σ fn a b
 | .binOp op t x y _=>(match sBin K.P K.eqs σ op t x y with | some out=>some out | none=>sNilQ K.P σ op t x y)
 | .unOp op _ x=>sUn σ op x
 | .convert src dst x=>sConv K.P σ src dst x
 | .index t x i=>sIdx K.P σ t x i
 | .slice t x lo hi mx=>(match sSlice K.P K.E σ t x lo hi mx with | some out=>some out | none=>sSliceS K.P σ t x lo hi mx)
 | .field s x f=>sFieldV K.P K.E σ s x f
 | .typeAssert x _ t ok=>sAssert K.P K.E K.ai σ x t ok
 | .lookup t x k ok=>sLookup K.P σ o.dst t x k ok
 | .makeInterface t x=>sMkIfc K.P K.E K.ai σ t x
 | .build t parts=>sBuild K.P K.E σ t parts.toList
 | .buildSlice t len parts=>sBuildS K.P K.E K.ixs σ o.dst t len parts.toList
 | .call ⟨.builtin .max,args,_⟩=>match args.toList with | [x,y,z,w]=>sMx4 σ x y z w | _=>none
 | .call ⟨.builtin .append,args,ts⟩=>match args.toList,ts.toList with | [s,x],[t,t']=>sAppend K.P K.E K.ads σ o.dst t t' s x | _,_=>none
 | .call ⟨.builtin .len,args,ts⟩=>match args.toList,ts.toList with | [x],[t]=>sLen K.P σ t x | _,_=>none
 | .call ⟨.value x,args,_⟩=>sCallOp K.E K.np K.wl K.ads K.DB σ o.dst x args.toList
 | _=>none
theorem opS_ok {K:SK} {C:Cx} {X:Orc} (hK:K.Of C X) {σ:SS} {st:St} (g:Ga C σ st) {o:Oper} {out:Out} (h:opS K σ o=some out):OpOk C X σ st o out:=by
 have hC:=hK.ok
 obtain ⟨P,E,np,eqs,DB,wl,ads,ai,ixs⟩:=K
 obtain ⟨_,h1,h2,h3,h4,h5,h6,h7,hdb⟩:=hK
 simp only at h1 h2 h3 h4 h5 h6 h7 hdb
 subst h1 h2 h3 h4 h5 h6 h7
 unfold opS at h
 split at h
 ·rename_i x ho; cases h; exact sMove_ok hC g (Or.inl ho)
 ·rename_i x ho; cases h; exact sMove_ok hC g (Or.inr ho)
 ·rename_i ho; exact sPick_ok hC g ho h
 ·rename_i ho; exact sAlloc_ok hC g ho h
 ·rename_i ho; exact sBox_ok hC g ho h
 ·rename_i ho; exact sLoad_ok hC g ho h
 ·rename_i ho
  split at h
  ·rename_i hs; cases h; exact sStore_ok hC g ho hs
  ·exact sStoreG_ok hC g ho h
 ·rename_i ho; exact sField_ok hC g ho h
 ·rename_i ho; exact sIndexA_ok hC g ho h
 ·rename_i ho; exact sExtract_ok hC g ho h
 ·rename_i ho; exact sNil_ok hC g ho h
 ·rename_i ho; exact sFunc_ok hC g ho h
 ·rename_i ho
  split at h
  ·rename_i hs; cases h; exact sBin_ok hC g ho hs
  ·exact sNilQ_ok hC g ho h
 ·rename_i ho; exact sUn_ok hC g ho h
 ·rename_i ho; exact sConv_ok hC g ho h
 ·rename_i ho; exact sIdx_ok hC g ho h
 ·rename_i ho
  split at h
  ·rename_i hs; cases h; exact sSlice_ok hC g ho hs
  ·exact sSliceS_ok hC g ho h
 ·rename_i ho; exact sFieldV_ok hC g ho h
 ·rename_i ho; exact sAssert_ok hC g ho h
 ·rename_i ho; exact sLookup_ok hC g ho h
 ·rename_i ho; exact sMkIfc_ok hC g ho h
 ·rename_i ho; exact sBuild_ok hC g ho h
 ·rename_i ho; exact sBuildS_ok hC g ho h
 ·rename_i args ts ho
  split at h
  ·rename_i x y z w hx
   obtain ⟨args⟩:=args
   simp only at hx
   subst hx
   exact sMx4_ok hC g ho h
  ·cases h
 ·rename_i args ts ho
  split at h
  ·rename_i s x t t' hx ht
   obtain ⟨args⟩:=args
   obtain ⟨ts⟩:=ts
   simp only at hx ht
   subst hx ht
   exact sAppend_ok hC g ho h
  ·cases h
 ·rename_i args ts ho
  split at h
  ·rename_i x t hx ht
   obtain ⟨args⟩:=args
   obtain ⟨ts⟩:=ts
   simp only at hx ht
   subst hx ht
   exact sLen_ok hC g ho h
  ·cases h
 ·rename_i ho; exact sCallOp_ok hC hdb g ho h
 ·cases h
def two (K:SK) (σ:SS) (o:Oper):Option (Out × Out):=match sMx σ o with | some p=>some p | none=>sIxJ K.P K.E σ o
theorem two_ok {K:SK} {C:Cx} {X:Orc} (hK:K.Of C X) {σ:SS} {st:St} (g:Ga C σ st) {o:Oper} {o1 o2:Out} (h:two K σ o=some (o1,o2)):OpOk C X σ st o o1 ∨ OpOk C X σ st o o2:=by
 unfold two at h
 split at h
 ·rename_i p hp; cases h; exact sMx_ok hK.ok g hp
 ·rw [← hK.p,← hK.e] at h; exact sIxJ_ok hK.ok g h
def dstB (n:Nat):Option Nat→Bool
 | some d=>decide (d < n)
 | none=>true
def doB (K:SK) (o:Oper) (σ:SS) (f:SS→Out→Bool):Bool :=
 match two K σ o with
 | some (o1,o2)=>(match o1.act.ap σ o.dst,o2.act.ap σ o.dst with | some σ1,some σ2=>f σ1 o1 && f σ2 o2 | _,_=>false)
 | none =>
 match opS K σ o with
 | some out=>match out.act.ap σ o.dst with | some σ'=>f σ' out | none=>false
 | none=>false
def skipB (o:Oper) (σ:SS) (f:SS→Out→Bool):Bool:=f (σ.wr o.dst .und [] [.f (.isb (5,0,0) false)]) { act:=.wr .und [] [.f (.isb (5,0,0) false)] }
def SS.learn (σ:SS) (a:AP) (b:Bool):SS:={ σ with fs:=Go.Proofs.YtenoggjjhamdaaaGreatDoor.learn σ.fs a b }
def SS.no (σ:SS):Bool:=contra σ.fs
theorem no_ok {C:Cx} {σ:SS} {st:St} (g:Ga C σ st) (h:σ.no=true):False:=contra_ok g.nows h
def stepB (K:SK) (O:Array Oper) (o:Oper) (σ:SS) (f:SS→Out→Bool):Bool :=
 dstB σ.n o.dst && match o.guard with
  | none=>doB K o σ f
  | some (j,want) =>
   match (O[j]?).bind (·.dst) with
   | some d =>
    if d < σ.n then
     match opTV σ (.tmp d) with
     | .und=>skipB o σ f
     | .c .bool =>
      match opB σ (.tmp d) with
      | some b=>if b == want then doB K o σ f else skipB o σ f
      | none=>((σ.learn (0,d,0) want).no || doB K o (σ.learn (0,d,0) want) f) && ((σ.learn (0,d,0) (!want)).no || skipB o (σ.learn (0,d,0) (!want)) f)
     | _=>false
    else false
   | none=>false
theorem learn_Ga {C:Cx} {σ:SS} {st:St} (g:Ga C σ st) {d:Nat} {b:Bool} (hd:d < σ.n) (h:boolA (st.t d)=b):Ga C (σ.learn (0,d,0) b) st :=
 ⟨g.d,g.n,g.sl,g.hp,fun v hv=>learn_ok (g.fs v hv) (by rw [hv _ (by show 0 < 5; decide)]; exact h),g.low,g.al,g.pk,g.wh⟩
theorem doB_ok {K:SK} {C:Cx} {X:Orc} (hK:K.Of C X) {σ:SS} {st:St} (g:Ga C σ st) {o:Oper} {f:SS→Out→Bool} (h:doB K o σ f=true) :
  ∃ σ' out e,f σ' out=true∧chkE st (opE K.P X st.d st.ev st.h (st.d,o.dst.getD st.n) o)=some e∧SubSig (sigE (slotC C) e) out∧Ga C σ' (st.put o.dst e):=by
 have one:∀ (σ':SS) (out:Out),f σ' out=true→out.act.ap σ o.dst=some σ'→OpOk C X σ st o out→∃ σ' out e,f σ' out=true∧chkE st (opE K.P X st.d st.ev st.h (st.d,o.dst.getD st.n) o)=some e∧SubSig (sigE (slotC C) e) out∧Ga C σ' (st.put o.dst e):=by
  intro σ' out hf hσ hok
  obtain ⟨e,h1,h2,h3,h4⟩:=hok σ' hσ
  refine ⟨σ',out,e,hf,?_,h3,h4⟩
  rw [← hK.p,h1]
  show (if okW st.d st.al e.wr then some e else none)=_
  rw [if_pos h2]
 unfold doB at h
 split at h
 ·rename_i o1 o2 hm
  split at h
  ·rename_i σ1 σ2 h1 h2
   rw [Bool.and_eq_true] at h
   rcases two_ok (X:=X) hK g hm with hok | hok
   ·exact one σ1 o1 h.1 h1 hok
   ·exact one σ2 o2 h.2 h2 hok
  ·cases h
 ·split at h
  ·rename_i out hout
   split at h
   ·rename_i σ' hσ
    exact one σ' out h hσ (opS_ok hK g hout)
   ·cases h
  ·cases h
theorem skipB_ok {C:Cx} {σ:SS} {st:St} (g:Ga C σ st) {o:Oper} {f:SS→Out→Bool} (h:skipB o σ f=true) :
  ∃ σ' out,f σ' out=true∧SubSig (sigE (slotC C) { v:=.d (.s undef) }) out∧Ga C σ' (st.put o.dst { v:=.d (.s undef) }):=by
 refine ⟨_,_,h,⟨fun x hx=>(by cases hx),fun x hx=>(by cases hx),fun hx=>(by cases hx)⟩,?_⟩
 exact wr_ok g (fun _=>Fz_refl _) (fun _ _=>rfl) (fun _=>by simp only [TV.ok]) (fun v _ p hp=>by cases hp) (fun v hv f hf=>by
  simp only [List.mem_singleton] at hf
  subst hf
  show boolA (v (5,0,0))=false
  rw [hv.nv]; rfl)
theorem stepB_ok {K:SK} {C:Cx} {X:Orc} (hK:K.Of C X) {σ:SS} {st:St} (g:Ga C σ st) {O:Array Oper} {o:Oper} {f:SS→Out→Bool} (h:stepB K O o σ f=true) :
  ∃ σ' out e,f σ' out=true∧stepE K.P X O o st=some e∧SubSig (sigE (slotC C) e) out∧Ga C σ' (st.put o.dst e):=by
 unfold stepB at h
 rw [Bool.and_eq_true] at h
 obtain ⟨hd,h⟩:=h
 have hd:dstOk st.n o.dst=true:=by
  rw [g.n]
  cases ho:o.dst with
  | none=>rfl
  | some d=>rw [ho] at hd; exact hd
 unfold stepE
 rw [if_pos hd]
 split at h
 ·rename_i hg
  have hw:wantedA O st o=some true:=by unfold wantedA; rw [hg]
  obtain ⟨σ',out,e,h1,h2,h3,h4⟩:=doB_ok hK g h
  exact ⟨σ',out,e,h1,by rw [hw]; exact h2,h3,h4⟩
 ·rename_i j want hg
  split at h
  ·rename_i d hj
   split at h
   ·rename_i hdn
    have hw:wantedA O st o=(match st.t d with | .d (.s (.bool b))=>some (b == want) | .d (.s (.tuple _))=>some false | _=>none):=by
     unfold wantedA
     rw [hg]
     simp only [hj,g.n,hdn,if_true]
     rfl
    have hok:=opTV_ok g (.tmp d)
    rw [ev_tmp g hdn] at hok
    split at h
    ·rename_i ht
     rw [ht] at hok
     simp only [TV.ok] at hok
     obtain ⟨σ',out,h1,h2,h3⟩:=skipB_ok g h
     exact ⟨σ',out,_,h1,by rw [hw,hok]; rfl,h2,h3⟩
    ·rename_i ht
     rw [ht] at hok
     simp only [TV.ok,ShT] at hok
     obtain ⟨_,hv,b,rfl⟩:=hok
     rw [hv] at hw
     have hw:wantedA O st o=some (b == want):=hw
     have hb:boolA (st.t d)=b:=by rw [hv]; rfl
     have go:∀ σ1,Ga C σ1 st→b=want→doB K o σ1 f=true→∃ σ' out e,f σ' out=true∧(match wantedA O st o with | some true=>chkE st (opE K.P X st.d st.ev st.h (st.d,o.dst.getD st.n) o) | some false=>some { v:=.d (.s undef) } | none=>none)=some e∧SubSig (sigE (slotC C) e) out∧Ga C σ' (st.put o.dst e):=by
      intro σ1 g1 hbw h1
      obtain ⟨σ',out,e,h2,h3,h4,h5⟩:=doB_ok hK g1 h1
      refine ⟨σ',out,e,h2,?_,h4,h5⟩
      rw [hw,hbw,beq_self_eq_true]
      exact h3
     have no:∀ σ1,Ga C σ1 st→b ≠ want→skipB o σ1 f=true→∃ σ' out e,f σ' out=true∧(match wantedA O st o with | some true=>chkE st (opE K.P X st.d st.ev st.h (st.d,o.dst.getD st.n) o) | some false=>some { v:=.d (.s undef) } | none=>none)=some e∧SubSig (sigE (slotC C) e) out∧Ga C σ' (st.put o.dst e):=by
      intro σ1 g1 hbw h1
      obtain ⟨σ',out,h2,h3,h4⟩:=skipB_ok g1 h1
      refine ⟨σ',out,_,h2,?_,h3,h4⟩
      rw [hw,show (b == want)=false by simpa using hbw]
     split at h
     ·rename_i b' hb'
      have e1:=opB_ok g hb'
      rw [ev_tmp g hdn,hb] at e1
      split at h
      ·rename_i hbw
       exact go σ g (by rw [e1]; exact eq_of_beq hbw) h
      ·rename_i hbw
       exact no σ g (by rw [e1]; simpa using hbw) h
     ·rw [Bool.and_eq_true,Bool.or_eq_true,Bool.or_eq_true] at h
      by_cases hbw:b=want
      ·have gl:=learn_Ga g hdn (b:=want) (by rw [hb,hbw])
       exact go _ gl hbw (h.1.resolve_left fun hno=>no_ok gl hno)
      ·have gl:=learn_Ga g hdn (b:=!want) (by rw [hb]; cases b <;> cases want <;> first | rfl | exact absurd rfl hbw)
       exact no _ gl hbw (h.2.resolve_left fun hno=>no_ok gl hno)
    ·cases h
   ·cases h
  ·cases h
def SubL:List Out→List Eff→(Id→Nat)→Prop
 | [],[],_=>True
 | o :: l,e :: m,φ=>SubSig (sigE φ e) o∧SubL l m φ
 | _,_,_=>False
theorem SubL_app {φ:Id→Nat}:∀ {l:List Out} {m:List Eff} {o:Out} {e:Eff},SubL l m φ→SubSig (sigE φ e) o→SubL (l ++ [o]) (m ++ [e]) φ
 | [],[],o,e,_,h=>⟨h,trivial⟩
 | _ :: l,_ :: m,o,e,h,h2=>⟨h.1,SubL_app h.2 h2⟩
theorem SubL_get {φ:Id→Nat}:∀ {l:List Out} {m:List Eff},SubL l m φ→∀ (i:Nat),(l[i]? = none∧m[i]? = none) ∨ ∃ o e,l[i]? = some o∧m[i]? = some e∧SubSig (sigE φ e) o
 | [],[],_,i=>Or.inl ⟨by simp,by simp⟩
 | o :: l,e :: m,h,i=>by
  cases i with
  | zero=>exact Or.inr ⟨o,e,by simp,by simp,h.1⟩
  | succ i=>simpa using SubL_get h.2 i
def raceS (O:Array Oper) (l:List Out):Bool:=raceN O (l.map fun o=>(o.rd,o.wr,o.ra))
theorem confN_mono {a b a' b':SigN} (h1:(∀ x ∈ a.1,x ∈ a'.1)∧(∀ x ∈ a.2.1,x ∈ a'.2.1)∧(a.2.2=true→a'.2.2=true)) (h2:(∀ x ∈ b.1,x ∈ b'.1)∧(∀ x ∈ b.2.1,x ∈ b'.2.1)∧(b.2.2=true→b'.2.2=true)) (h:confN a b=true):confN a' b' = true:=by
 unfold confN at h ⊢
 simp only [Bool.or_eq_true,Bool.and_eq_true,List.any_eq_true,List.contains_iff_mem] at h ⊢
 have ne:∀ {l m:List Nat},(∀ x ∈ l,x ∈ m)→(!l.isEmpty)=true→(!m.isEmpty)=true:=by
  intro l m hs hl
  cases l with
  | nil=>cases hl
  | cons x l=>cases m with
   | nil=>exact absurd (hs x List.mem_cons_self) (by simp)
   | cons y m=>rfl
 rcases h with ((⟨e1,e2⟩ | ⟨e1,e2⟩) | ⟨p,hp,e⟩) | ⟨p,hp,e⟩
 ·exact Or.inl (Or.inl (Or.inl ⟨h1.2.2 e1,ne h2.2.1 e2⟩))
 ·exact Or.inl (Or.inl (Or.inr ⟨h2.2.2 e1,ne h1.2.1 e2⟩))
 ·exact Or.inl (Or.inr ⟨p,h1.2.1 p hp,e.imp (h2.1 p) (h2.2.1 p)⟩)
 ·exact Or.inr ⟨p,h2.2.1 p hp,h1.1 p e⟩
theorem raceS_ok {O:Array Oper} {l:List Out} {es:List Eff} {φ:Id→Nat} (hs:SubL l es φ) (h:raceS O l=true):raceFree O es=true:=by
 refine raceFree_of φ ?_
 unfold raceS at h
 unfold raceN at h ⊢
 rw [List.all_eq_true] at h ⊢
 intro j hj
 have h1:=h j hj
 rw [Bool.and_eq_true] at h1 ⊢
 refine ⟨h1.1,?_⟩
 rw [List.all_eq_true]
 intro i hi
 have h2:=List.all_eq_true.1 h1.2 i hi
 simp only [List.getElem?_map] at h2 ⊢
 rcases SubL_get hs i with ⟨a1,a2⟩ | ⟨oa,ea,a1,a2,a3⟩
 ·rw [a1] at h2; cases hx:O[i]? <;> cases hy:O[j]? <;> rw [hx,hy] at h2 <;> simp at h2
 ·rcases SubL_get hs j with ⟨b1,b2⟩ | ⟨ob,eb,b1,b2,b3⟩
  ·rw [b1] at h2; cases hx:O[i]? <;> cases hy:O[j]? <;> rw [hx,hy,a1] at h2 <;> simp at h2
  ·rw [a1,b1] at h2
   rw [a2,b2]
   cases hx:O[i]? with
   | none=>rw [hx] at h2; cases h2
   | some x =>
    cases hy:O[j]? with
    | none=>rw [hx,hy] at h2; cases h2
    | some y =>
     rw [hx,hy] at h2
     simp only [Option.map_some,Bool.or_eq_true,Bool.and_eq_true] at h2 ⊢
     rcases h2 with ⟨g1,g2⟩ | g
     ·refine Or.inl ⟨g1,?_⟩
      cases hc:confN (sigE φ ea) (sigE φ eb) with
      | false=>rfl
      | true=>rw [confN_mono (a':=(oa.rd,oa.wr,oa.ra)) (b':=(ob.rd,ob.wr,ob.ra)) a3 b3 hc] at g2; cases g2
     ·exact Or.inr g
theorem Wk_step {P:Program} {X:Orc} {N:Nat} {k:List Itm} {st:St} {Q:Ex→St→Prop} {O:Array Oper} {o:Oper} {l:List Oper} {e:Eff} (h:stepE P X O o st=some e) (hk:Wk P X N (.ops O l :: k) (st.put o.dst e) Q):Wk P X N (.ops O (o :: l) :: k) st Q:=by
 unfold Wk at hk ⊢
 rw [execK] at hk ⊢
 have:runOps P X O (o :: l) st=runOps P X O l (st.put o.dst e):=by
  rw [runOps,stepSt,h]; rfl
 rw [this]; exact hk
theorem Wk_stepT {P:Program} {X:Orc} {N:Nat} {k:List Itm} {st:St} {Q:Ex→St→Prop} {O:Array Oper} {o:Oper} {l:List Oper} {es:List Eff} {e:Eff} (h:stepE P X O o st=some e) (hk:Wk P X N (.tr O l (es ++ [e]) :: k) (st.put o.dst e) Q):Wk P X N (.tr O (o :: l) es :: k) st Q:=by
 unfold Wk at hk ⊢
 rw [execK] at hk ⊢
 rw [runTr,h]
 simp only
 cases hr:runTr P X O l (st.put o.dst e) with
 | none=>rw [hr] at hk; simp at hk
 | some p =>
  obtain ⟨s,es'⟩:=p
  rw [hr] at hk
  simpa using hk
def naB (na:Nat):Option Nat→Bool
 | some d=>decide (na ≤ d)
 | none=>true
def doL (K:SK) (o:Oper) (σ:SS):Option (List (SS × Out)) :=
 match two K σ o with
 | some (o1,o2)=>(match o1.act.ap σ o.dst,o2.act.ap σ o.dst with | some σ1,some σ2=>some [(σ1,o1),(σ2,o2)] | _,_=>none)
 | none =>
 match opS K σ o with
 | some out=>match out.act.ap σ o.dst with | some σ'=>some [(σ',out)] | none=>none
 | none=>none
def skipL (o:Oper) (σ:SS):List (SS × Out):=[(σ.wr o.dst .und [] [.f (.isb (5,0,0) false)],{ act:=.wr .und [] [.f (.isb (5,0,0) false)] })]
def stepL (K:SK) (O:Array Oper) (o:Oper) (σ:SS):Option (List (SS × Out)) :=
 if !dstB σ.n o.dst then none else
 match o.guard with
 | none=>doL K o σ
 | some (j,want) =>
  match (O[j]?).bind (·.dst) with
  | some d =>
   if d < σ.n then
    match opTV σ (.tmp d) with
    | .und=>some (skipL o σ)
    | .c .bool =>
     match opB σ (.tmp d) with
     | some b=>if b == want then doL K o σ else some (skipL o σ)
     | none=>match (if (σ.learn (0,d,0) want).no then some [] else doL K o (σ.learn (0,d,0) want)) with | some l=>some (l ++ if (σ.learn (0,d,0) (!want)).no then [] else skipL o (σ.learn (0,d,0) (!want))) | none=>none
    | _=>none
   else none
  | none=>none
theorem doL_ok {K:SK} {o:Oper} {σ:SS} {l:List (SS × Out)} (h:doL K o σ=some l) (f:SS→Out→Bool) (hf:∀ p ∈ l,f p.1 p.2=true):doB K o σ f=true:=by
 unfold doL at h
 unfold doB
 split at h
 ·rename_i o1 o2 hm
  split at h
  ·rename_i σ1 σ2 h1 h2
   cases h
   rw [Bool.and_eq_true]
   exact ⟨hf _ List.mem_cons_self,hf _ (List.mem_cons_of_mem _ List.mem_cons_self)⟩
  ·cases h
 ·split at h
  ·rename_i out hout
   split at h
   ·rename_i σ' hσ
    cases h
    exact hf _ List.mem_cons_self
   ·cases h
  ·cases h
theorem stepL_ok {K:SK} {O:Array Oper} {o:Oper} {σ:SS} {l:List (SS × Out)} (h:stepL K O o σ=some l) (f:SS→Out→Bool) (hf:∀ p ∈ l,f p.1 p.2=true):stepB K O o σ f=true:=by
 unfold stepL at h
 unfold stepB
 split at h
 ·cases h
 ·rename_i hd
  have hd:dstB σ.n o.dst=true:=by simpa using hd
  rw [hd,Bool.true_and]
  split at h
  ·rename_i hg
   exact doL_ok h f hf
  ·rename_i j want hg
   split at h
   ·rename_i d hj
    split at h
    ·rename_i hdn
     rw [if_pos hdn]
     split at h
     ·cases h; exact hf _ List.mem_cons_self
     ·split at h
      ·rename_i b hb
       split at h
       ·rename_i hbw
        rw [if_pos hbw]; exact doL_ok h f hf
       ·rename_i hbw
        rw [if_neg hbw]; cases h; exact hf _ List.mem_cons_self
      ·rename_i hb
       split at h
       ·rename_i l' hl'
        cases h
        rw [Bool.and_eq_true,Bool.or_eq_true,Bool.or_eq_true]
        refine ⟨?_,?_⟩
        ·split at hl'
         ·rename_i hno; exact Or.inl hno
         ·exact Or.inr (doL_ok hl' f fun p hp=>hf p (List.mem_append_left _ hp))
        ·cases hno:(σ.learn (0,d,0) (!want)).no with
         | true=>exact Or.inl rfl
         | false =>
          refine Or.inr ?_
          show f ((σ.learn (0,d,0) (!want)).wr o.dst .und [] [.f (.isb (5,0,0) false)]) { act:=.wr .und [] [.f (.isb (5,0,0) false)] } = true
          exact hf (_,_) (List.mem_append_right _ (by rw [hno]; exact List.mem_cons_self))
       ·cases h
     ·cases h
    ·cases h
   ·cases h
open Classical in
theorem stepL_get {K:SK} {C:Cx} {X:Orc} (hK:K.Of C X) {σ:SS} {st:St} (g:Ga C σ st) {O:Array Oper} {o:Oper} {ps:List (SS × Out)} (h:stepL K O o σ=some ps) :
  ∃ p ∈ ps,∃ e,stepE K.P X O o st=some e∧SubSig (sigE (slotC C) e) p.2∧Ga C p.1 (st.put o.dst e):=by
 obtain ⟨σ',out,e,h1,h2,h3,h4⟩:=stepB_ok hK g (stepL_ok h (fun σ' out=>decide ((σ',out) ∈ ps)) fun p hp=>decide_eq_true hp)
 exact ⟨(σ',out),of_decide_eq_true h1,e,h2,h3,h4⟩
def contL {α:Type} (f:α→Option (List SS)):List α→Option (List SS)
 | []=>some []
 | x :: l=>match f x,contL f l with | some a,some b=>some (a ++ b) | _,_=>none
theorem contL_mem {α:Type} {f:α→Option (List SS)}:∀ {l:List α} {r:List SS},contL f l=some r→∀ x ∈ l,∃ a,f x=some a ∧ ∀ y ∈ a,y ∈ r
 | [],r,h,x,hx=>by cases hx
 | z :: l,r,h,x,hx=>by
  unfold contL at h
  split at h
  ·rename_i a b h1 h2
   cases h
   rcases List.mem_cons.1 hx with rfl | hx
   ·exact ⟨a,h1,fun y hy=>List.mem_append_left _ hy⟩
   ·obtain ⟨c,h3,h4⟩:=contL_mem h2 x hx
    exact ⟨c,h3,fun y hy=>List.mem_append_right _ (h4 y hy)⟩
  ·cases h
def opsS (K:SK) (na:Nat) (O:Array Oper):List Oper→List (List Nat)→SS→Option (List SS)
 | [],_,σ=>some [σ]
 | o :: l,ds,σ=>if naB na o.dst then (match stepL K O o σ with | some ps=>contL (fun p=>opsS K na O l ds.tail (slim (ds.headD []) [] p.1)) ps | none=>none) else none
def trS (K:SK) (na:Nat) (O:Array Oper):List Oper→List (List Nat)→List Out→SS→Option (List SS)
 | [],_,outs,σ=>if raceS O outs then some [σ] else none
 | o :: l,ds,outs,σ=>if naB na o.dst then (match stepL K O o σ with | some ps=>contL (fun p=>trS K na O l ds.tail (outs ++ [p.2]) (slim (ds.headD []) [] p.1)) ps | none=>none) else none
end
end
section
noncomputable section
mutual
def TV.sub (E:Nat→Option (List Ty)):TV→TV→Bool
 | t,u =>
  match u with
  | .any=>true
  | .c u'=>(match t with | .c t'=>Ty.subE E t' u' | _=>false)
  | .nilv=>(match t with | .nilv=>true | _=>false)
  | .own q e'=>(match t with | .nilv=>true | .own p e=>p == q && Ty.sub e e' && e.sz E == e'.sz E | _=>false)
  | .rl q e'=>(match t with | .nilv=>true | .own p e | .rl p e=>p == q && Ty.sub e e' && e.sz E == e'.sz E | .c (.lst e _)=>Ty.sub e e' | _=>false)
  | .bp q off'=>(match t with | .bp p off=>p == q && off == off' | _=>false)
  | .ep u' off'=>(match t with | .ep t' off=>Ty.sub t' u' && off == off' | _=>false)
  | .el q e' off'=>(match t with | .el p e off=>p == q && Ty.sub e e' && off == off' | _=>false)
  | .und=>(match t with | .und=>true | _=>false)
  | .mp q e' s'=>(match t with | .mp p e s=>p == q && Ty.sub e e' && s == s' | _=>false)
  | .dead=>(match t with | .dead | .own _ _ | .nilv=>true | _=>false)
  | .was k' j'=>(match t with | .was k j=>Nat.beq k k' && Nat.beq j j' | _=>false)
  | .clo f' l'=>(match t with | .clo f l=>f == f' && TV.subs E l l' | _=>false)
  | .tup l'=>(match t with | .tup l=>TV.subs E l l' | _=>false)
  | .ag l'=>(match t with | .ag l=>TV.subs E l l' | _=>false)
def TV.subs (E:Nat→Option (List Ty)):List TV→List TV→Bool
 | [],[]=>true
 | t :: l,u :: m=>TV.sub E t u && TV.subs E l m
 | _,_=>false
end
mutual
theorem TV.sub_ok {C:Cx} (hC:C.Ok) {h:Id→O}:∀ (t u:TV) {a:A},TV.sub C.E t u=true→TV.ok C h t a→TV.ok C h u a
 | t,u,a,hs,hx=>by
  unfold TV.sub at hs
  cases u with
  | any=>simp only [TV.ok]
  | c u' =>
   simp only at hs
   split at hs
   ·simp only [TV.ok] at hx ⊢
    obtain ⟨x,rfl,h2⟩:=hx
    exact ⟨x,rfl,subE_ok hC.rel hs h2⟩
   ·cases hs
  | nilv =>
   simp only at hs
   split at hs
   ·exact hx
   ·cases hs
  | own q e' =>
   simp only at hs
   split at hs
   ·simp only [TV.ok] at hx ⊢
    exact Or.inl ⟨[],hx,fun x hx=>by cases hx⟩
   ·rw [Bool.and_eq_true,Bool.and_eq_true] at hs
    have e1:=eq_of_beq hs.1.1
    have e2:_=_:=eq_of_beq hs.2
    subst e1
    simp only [TV.ok] at hx ⊢
    rcases hx with ⟨xs,h1,h2⟩ | ⟨ver,n,xs,fz,h1,h2,h3,h4⟩
    ·exact Or.inl ⟨xs,h1,fun x hx=>Go.Proofs.YtenoggjjhamdaaaGreatDoor.sub_ok hC.rel _ _ _ hs.1.2 (h2 x hx)⟩
    ·exact Or.inr ⟨ver,n,xs,fz,h1,h2,by rw [h3,e2],fun x hx=>Go.Proofs.YtenoggjjhamdaaaGreatDoor.sub_ok hC.rel _ _ _ hs.1.2 (h4 x hx)⟩
   ·cases hs
  | rl q e' =>
   simp only at hs
   split at hs
   ·simp only [TV.ok] at hx ⊢
    exact Or.inl (Or.inl ⟨[],hx,fun x hx=>by cases hx⟩)
   ·rw [Bool.and_eq_true,Bool.and_eq_true] at hs
    have e1:=eq_of_beq hs.1.1
    have e2:_=_:=eq_of_beq hs.2
    subst e1
    simp only [TV.ok] at hx ⊢
    rcases hx with ⟨xs,h1,h2⟩ | ⟨ver,n,xs,fz,h1,h2,h3,h4⟩
    ·exact Or.inl (Or.inl ⟨xs,h1,fun x hx=>Go.Proofs.YtenoggjjhamdaaaGreatDoor.sub_ok hC.rel _ _ _ hs.1.2 (h2 x hx)⟩)
    ·exact Or.inl (Or.inr ⟨ver,n,xs,fz,h1,h2,by rw [h3,e2],fun x hx=>Go.Proofs.YtenoggjjhamdaaaGreatDoor.sub_ok hC.rel _ _ _ hs.1.2 (h4 x hx)⟩)
   ·rw [Bool.and_eq_true,Bool.and_eq_true] at hs
    have e1:=eq_of_beq hs.1.1
    have e2:_=_:=eq_of_beq hs.2
    subst e1
    simp only [TV.ok] at hx ⊢
    rcases hx with (⟨xs,h1,h2⟩ | ⟨ver,n,xs,fz,h1,h2,h3,h4⟩) | ⟨xs,h1,h2⟩
    ·exact Or.inl (Or.inl ⟨xs,h1,fun x hx=>Go.Proofs.YtenoggjjhamdaaaGreatDoor.sub_ok hC.rel _ _ _ hs.1.2 (h2 x hx)⟩)
    ·exact Or.inl (Or.inr ⟨ver,n,xs,fz,h1,h2,by rw [h3,e2],fun x hx=>Go.Proofs.YtenoggjjhamdaaaGreatDoor.sub_ok hC.rel _ _ _ hs.1.2 (h4 x hx)⟩)
    ·exact Or.inr ⟨xs,h1,fun x hx=>Go.Proofs.YtenoggjjhamdaaaGreatDoor.sub_ok hC.rel _ _ _ hs.1.2 (h2 x hx)⟩
   ·simp only [TV.ok,ShT] at hx ⊢
    obtain ⟨_,rfl,xs,rfl,_,h2⟩:=hx
    exact Or.inr ⟨xs,rfl,fun x hx=>Go.Proofs.YtenoggjjhamdaaaGreatDoor.sub_ok hC.rel _ _ _ hs (h2 x hx)⟩
   ·cases hs
  | bp q off' =>
   simp only at hs
   split at hs
   ·rw [Bool.and_eq_true] at hs
    have e1:=eq_of_beq hs.1
    have e2:=eq_of_beq hs.2
    subst e1 e2
    exact hx
   ·cases hs
  | ep u' off' =>
   simp only at hs
   split at hs
   ·rw [Bool.and_eq_true] at hs
    have e2:=eq_of_beq hs.2
    subst e2
    simp only [TV.ok] at hx ⊢
    obtain ⟨xs,i,x,h1,h2,h3⟩:=hx
    exact ⟨xs,i,x,h1,h2,Go.Proofs.YtenoggjjhamdaaaGreatDoor.sub_ok hC.rel _ _ _ hs.1 h3⟩
   ·cases hs
  | el q e' off' =>
   simp only at hs
   split at hs
   ·rw [Bool.and_eq_true,Bool.and_eq_true] at hs
    have e1:=eq_of_beq hs.1.1
    have e2:=eq_of_beq hs.2
    subst e1 e2
    simp only [TV.ok] at hx ⊢
    rcases hx with ⟨xs,i,x,h1,h2,h3⟩ | ⟨ver,n,xs,fz,i,x,h1,h2,h3,h4⟩
    ·exact Or.inl ⟨xs,i,x,h1,h2,Go.Proofs.YtenoggjjhamdaaaGreatDoor.sub_ok hC.rel _ _ _ hs.1.2 h3⟩
    ·exact Or.inr ⟨ver,n,xs,fz,i,x,h1,h2,h3,Go.Proofs.YtenoggjjhamdaaaGreatDoor.sub_ok hC.rel _ _ _ hs.1.2 h4⟩
   ·cases hs
  | und =>
   simp only at hs
   split at hs
   ·exact hx
   ·cases hs
  | mp q e' s' =>
   simp only at hs
   split at hs
   ·rw [Bool.and_eq_true,Bool.and_eq_true] at hs
    have e1:=eq_of_beq hs.1.1
    have e2:=eq_of_beq hs.2
    subst e1 e2
    simp only [TV.ok] at hx ⊢
    obtain ⟨ver,t,c,h1,h2,hk,h3⟩:=hx
    refine ⟨ver,t,c,h1,h2,hk,fun e he=>?_⟩
    obtain ⟨x,h4,h5⟩:=h3 e he
    exact ⟨x,h4,Go.Proofs.YtenoggjjhamdaaaGreatDoor.sub_ok hC.rel _ _ _ hs.1.2 h5⟩
   ·cases hs
  | dead =>
   simp only at hs
   split at hs
   ·exact hx
   ·simp only [TV.ok] at hx ⊢
    rcases hx with ⟨xs,rfl,_⟩ | ⟨ver,n,xs,fz,rfl,_⟩ <;> rfl
   ·simp only [TV.ok] at hx ⊢
    subst hx; rfl
   ·cases hs
  | was k' j' =>
   simp only at hs
   split at hs
   ·rw [Bool.and_eq_true] at hs
    have e1:=Nat.eq_of_beq_eq_true hs.1
    have e2:=Nat.eq_of_beq_eq_true hs.2
    subst e1 e2
    exact hx
   ·cases hs
  | clo f' l' =>
   simp only at hs
   split at hs
   ·rw [Bool.and_eq_true] at hs
    have e1:=eq_of_beq hs.1
    subst e1
    simp only [TV.ok] at hx ⊢
    obtain ⟨zs,h1,h2⟩:=hx
    exact ⟨zs,h1,TV.subs_ok hC _ l' hs.2 h2⟩
   ·cases hs
  | tup l' =>
   simp only at hs
   split at hs
   ·simp only [TV.ok] at hx ⊢
    obtain ⟨zs,h1,h2⟩:=hx
    exact ⟨zs,h1,TV.subs_ok hC _ l' hs h2⟩
   ·cases hs
  | ag l' =>
   simp only at hs
   split at hs
   ·simp only [TV.ok] at hx ⊢
    exact ⟨hx.1,TV.subs_ok hC _ l' hs hx.2⟩
   ·cases hs
theorem TV.subs_ok {C:Cx} (hC:C.Ok) {h:Id→O}:∀ (ts us:List TV) {zs:List A},TV.subs C.E ts us=true→TV.oks C h ts zs→TV.oks C h us zs
 | [],us,zs,hs,hx=>by
  cases us <;> simp only [TV.subs,Bool.false_eq_true] at hs
  exact hx
 | t :: ts,us,zs,hs,hx=>by
  cases us <;> simp only [TV.subs,Bool.false_eq_true,Bool.and_eq_true] at hs
  simp only [TV.oks] at hx ⊢
  obtain ⟨a,l,rfl,h2,h3⟩:=hx
  exact ⟨a,l,rfl,TV.sub_ok hC t _ hs.1 h2,TV.subs_ok hC ts _ hs.2 h3⟩
end
def eqZ (a:AP) (z:Int):List Fact:=[.f (.le (1,a) zT (-z)),.f (.le zT (1,a) z)]
def has (fs:List Fact) (f:Fact):Bool :=
 inF fs f || (match f with
  | .imp a b x=>(match isbOf fs a with
   | some b'=>if b' == b then known fs (.f x) else true
   | none=>known (learn fs a b) (.f x))
  | .impi a z x=>entLe fs (1,a) zT (1 - z) || entLe fs zT (1,a) (z + 1) || known (saturate 2 (eqZ a z ++ fs)) (.f x)
  | .impl p x=>(match p with | .le a b c=>entLe fs b a (1 - c) | _=>false) || known (saturate 2 (.f p :: fs)) (.f x) || entLe (saturate 2 (.f p :: fs)) zT zT 1
  | .f (.isb a b)=>known fs (.f (.isb a b)) || contra (learn fs a (!b))
  | f=>known fs f)
theorem has_ok {v:AP→A} {fs:List Fact} (hf:FOk v fs) {f:Fact} (h:has fs f=true):f.ok v:=by
 unfold has at h
 rw [Bool.or_eq_true] at h
 rcases h with h | h
 ·exact hf f (inF_mem h)
 ·split at h
  ·rename_i a b x
   intro hb
   split at h
   ·rename_i b' hb'
    have e:=isbOf_ok hf hb'
    rw [hb] at e
    subst e
    rw [if_pos (beq_self_eq_true _)] at h
    exact known_ok hf h
   ·exact known_ok (learn_ok hf hb) h
  ·rename_i a z x
   intro hz
   have z0:tv v zT=0:=rfl
   have z1:tv v (1,a)=intA (v a):=rfl
   simp only [Bool.or_eq_true] at h
   rcases h with (h | h) | h
   ·have:=entLe_ok hf h; omega
   ·have:=entLe_ok hf h; omega
   ·refine known_ok (f:=.f x) (saturate_ok 2 (FOkA ?_ hf)) h
    intro f hm
    simp only [eqZ,List.mem_cons,List.not_mem_nil,or_false] at hm
    rcases hm with rfl | rfl <;> simp only [Fact.ok,LF.ok,z0,z1] <;> omega
  ·rename_i p x
   intro hp
   rw [Bool.or_eq_true,Bool.or_eq_true] at h
   have hs:FOk v (saturate 2 (.f p :: fs)):=saturate_ok 2 fun f hm=>by
    rcases List.mem_cons.1 hm with rfl | hm
    ·exact hp
    ·exact hf f hm
   rcases h with (h | h) | h
   rotate_left 2
   ·have:=entLe_ok hs h
    have z0:tv v zT=0:=rfl
    omega
   ·split at h
    ·have:=entLe_ok hf h
     simp only [LF.ok] at hp
     omega
    ·cases h
   ·refine known_ok (f:=.f x) (saturate_ok 2 fun f hm=>?_) h
    rcases List.mem_cons.1 hm with rfl | hm
    ·exact hp
    ·exact hf f hm
  ·rename_i a b
   rw [Bool.or_eq_true] at h
   rcases h with h | h
   ·exact known_ok hf h
   ·show boolA (v a)=b
    refine Classical.byContradiction fun hn=>?_
    have hb:boolA (v a) = !b:=by
     cases hx:boolA (v a) <;> cases b <;> simp_all
    exact contra_ok (learn_ok hf hb) h
  ·exact known_ok hf h
def subSS (E:Nat→Option (List Ty)) (σ inv:SS):Bool :=
 σ.n == inv.n && (inv.sl.all fun p=>decide (p.1 < σ.n) && TV.sub E (opTV σ (.tmp p.1)) p.2) && (inv.hp.all fun p=>match σ.hp.find? fun q=>q.1 == p.1 with | some q=>TV.subs E q.2 p.2 | none=>false) && (inv.fs.all fun f=>has σ.fs f) && inv.wh.all fun p=>match σ.wh.find? fun q=>q.1 == p.1 with | some q=>Ty.sub q.2 p.2 | none=>false
theorem subSS_ok {C:Cx} (hC:C.Ok) {σ inv:SS} {st:St} (g:Ga C σ st) (h:subSS C.E σ inv=true):Ga C inv st:=by
 unfold subSS at h
 rw [Bool.and_eq_true,Bool.and_eq_true,Bool.and_eq_true,Bool.and_eq_true] at h
 obtain ⟨⟨⟨⟨h1,h2⟩,h3⟩,h4⟩,h5⟩:=h
 have h1:σ.n=inv.n:=eq_of_beq h1
 refine ⟨g.d,by rw [g.n,h1],fun p hp=>?_,fun p hp=>?_,fun v hv f hf=>?_,g.low,g.al,fun p hp=>?_,fun p hp=>?_⟩
 ·have:=List.all_eq_true.1 h2 p hp
  rw [Bool.and_eq_true] at this
  have hok:=opTV_ok g (.tmp p.1)
  rw [ev_tmp g (of_decide_eq_true this.1)] at hok
  exact TV.sub_ok hC _ _ this.2 hok
 ·have:=List.all_eq_true.1 h3 p hp
  split at this
  ·rename_i q hq
   have hq1:=g.hp q (List.mem_of_find?_eq_some hq)
   have hq2:q.1=p.1:=by simpa using List.find?_some hq
   rw [hq2] at hq1
   obtain ⟨ver,cs,e1,e2⟩:=hq1
   exact ⟨ver,cs,e1,TV.subs_ok hC _ _ this e2⟩
  ·cases this
 ·exact has_ok (g.fs v hv) (List.all_eq_true.1 h4 f hf)
 ·have:=List.all_eq_true.1 h3 p hp
  split at this
  ·rename_i q hq
   have hq2:q.1=p.1:=by simpa using List.find?_some hq
   rw [← hq2]
   exact g.pk q (List.mem_of_find?_eq_some hq)
  ·cases this
 ·have:=List.all_eq_true.1 h5 p hp
  split at this
  ·rename_i q hq
   have hq2:q.1=p.1:=by simpa using List.find?_some hq
   obtain ⟨ver,ds,e1,e2⟩:=g.wh q (List.mem_of_find?_eq_some hq)
   rw [hq2] at e1
   exact ⟨ver,ds,e1,Go.Proofs.YtenoggjjhamdaaaGreatDoor.sub_ok hC.rel _ _ _ this e2⟩
  ·cases this
inductive SI where
 | code (c:Code)
 | blk (id:Nat)
 | scp
structure LA where
 key:Nat
 drop:List Nat
 slots:List (Nat × TV)
 dropH:List PL:=[]
 boxes:List (PL × List TV):=[]
 facts:List Fact
 alts:List (List (Nat × TV) × List (PL × List TV) × List Fact):=[]
 p:Term × Int
 q:Term × Int
inductive Bot where
 | fn
 | lp (invs:List SS) (p q:Term × Int) (k:List SI) (b:Bot)
def Bot.dep:Bot→Nat
 | .fn=>0
 | .lp _ _ _ _ b=>b.dep + 2
def firstReg:Code→Option Nat
 | .region id _ _=>some id
 | .seq a b=>match firstReg a with | some n=>some n | none=>firstReg b
 | .block _ c | .loop c | .scope c=>firstReg c
 | .cond _ a b=>match firstReg a with | some n=>some n | none=>firstReg b
 | _=>none
def ghosts (m:Nat) (a:AP):Bool:=a.1 == 4 && (decide (m ≤ a.2.1) && decide (a.2.1 < 2000))
def ghK (m:Nat) (a:AP):Bool:=ghosts m a || decide (5 ≤ a.1)
def isCT:TV→Bool
 | .c _=>true
 | _=>false
def mkInv (la:LA) (m:Nat) (σ:SS):SS :=
 { n:=σ.n,
    wh:=σ.wh.filter fun p=>!(la.drop.contains p.1.2 || la.dropH.contains p.1),
    sl:=la.slots ++ σ.sl.filter fun p=>(!la.drop.contains p.1 || isCT p.2) && !la.slots.any fun q=>q.1 == p.1,
    hp:=la.boxes ++ σ.hp.filter fun p=>!la.dropH.contains p.1,
    fs:=la.facts ++ elim (fun a=>((a.1 == 0 || a.1 == 1) && la.drop.contains a.2.1) || (a.1 == 2 && la.dropH.contains (true,a.2.1)) || (a.1 == 3 && la.dropH.contains (false,a.2.1)) || ghosts m a) σ.fs }
def mkInvs (la:LA) (m:Nat) (σ:SS):List SS:=if la.alts.isEmpty then [mkInv la m σ] else la.alts.map fun p=>mkInv { la with slots:=p.1,boxes:=p.2.1,facts:=p.2.2 ++ la.facts } m σ
def leG (a b:Term × Int):Fact:=.f (leF a b 0)
def withG (la:LA) (m:Nat) (σ:SS):SS :=
 { σ with fs:=[leG ((1,4,m,0),0) la.q,leG la.q ((1,4,m,0),0),leG ((1,4,m + 1,0),0) la.p,leG la.p ((1,4,m + 1,0),0)] ++ σ.fs }
def fell (fs:List Fact) (p q:Term × Int) (m:Nat):Bool :=
 let gq:Term × Int:=((1,4,m,0),0)
 let gp:Term × Int:=((1,4,m + 1,0),0)
 (leI fs p gp 0 && leI fs gq q 1) || (leI fs p gp 1 && leI fs gq q 0)
def candF:List SS→List Fact
 | []=>[]
 | σ :: l=>σ.fs ++ (candF l).filter fun f=>!inF σ.fs f
def candB (l:List SS) (r:Nat) (b:Bool):List Fact :=
 match l.filter fun τ=>!(isbOf τ.fs (0,r,0) == some (!b)) && !(entLe (learn τ.fs (0,r,0) b) zT zT 1) with
 | []=>[]
 | τ :: m=>if m.length + 1 == l.length then [] else
  (τ.fs.filterMap fun f=>match f with
   | .f x=>if (m.all fun τ'=>hasF τ'.fs x) && !(l.all fun τ'=>hasF τ'.fs x) then some (.imp (0,r,0) b x) else none
   | _=>none) ++ if m.isEmpty then [] else
    let fl:=(τ :: m).map fun τ1=>Go.Proofs.YtenoggjjhamdaaaGreatDoor.learn τ1.fs (0,r,0) b
    fl.flatMap fun fs1=>fs1.filterMap fun f=>match f with
    | .f (.le x y c)=>if (x == zT || y == zT) && ((fl.all fun fs2=>entLe fs2 x y c) && !(l.all fun τ'=>hasF τ'.fs (.le x y c))) then some (.imp (0,r,0) b (.le x y c)) else none
    | _=>none
def candL (l:List SS):List Fact :=
 match l with
 | σ :: _=>match σ.sl with
  | (r,.c .bool) :: _=>candB l r true ++ candB l r false
  | _=>[]
 | []=>[]
def joinS (E:Nat→Option (List Ty)) (σ:SS) (l:List SS):SS :=
 { n:=σ.n,
    wh:=σ.wh.filter fun p=>l.all fun τ=>match τ.wh.find? fun q=>q.1 == p.1 with | some q=>Ty.sub q.2 p.2 | none=>false,
    sl:=σ.sl.filter fun p=>l.all fun τ=>TV.sub E (opTV τ (.tmp p.1)) p.2,
    hp:=σ.hp.filter fun p=>l.all fun τ=>match τ.hp.find? fun q=>q.1 == p.1 with | some q=>TV.subs E q.2 p.2 | none=>false,
    fs:=(candL (σ :: l) ++ candF (σ :: l)).filter fun f=>has σ.fs f && l.all fun τ=>has τ.fs f }
def merge1 (E:Nat→Option (List Ty)):List SS→List SS
 | []=>[]
 | [σ]=>[σ]
 | σ :: l =>
  let μ:=joinS E σ l
  if (σ :: l).all fun τ=>subSS E τ μ then [μ] else σ :: l
theorem merge1_ok {C:Cx} (hC:C.Ok) {l:List SS} {st:St} (h:∃ σ ∈ l,Ga C σ st):∃ σ ∈ merge1 C.E l,Ga C σ st:=by
 unfold merge1
 split
 ·exact h
 ·exact h
 ·rename_i σ l hne
  simp only
  split
  ·rename_i hall
   obtain ⟨τ,hτ,g⟩:=h
   exact ⟨_,List.mem_cons_self,subSS_ok hC g (List.all_eq_true.1 hall τ hτ)⟩
  ·exact h
def nmKey (σ:SS):List (Nat × Nat):=σ.sl.filterMap fun p=>match p.2 with
 | .c (.nm i)=>some (p.1,i)
 | .ep (.nm i) _=>some (p.1,i)
 | _=>none
def unlike (σ τ:SS):Bool:=(nmKey σ).any fun p=>(nmKey τ).any fun q=>Nat.beq p.1 q.1 && !Nat.beq p.2 q.2
def merge (E:Nat→Option (List Ty)):List SS→List SS
 | []=>[]
 | [σ]=>[σ]
 | σ :: l=>if l.any (unlike σ) then merge1 E (σ :: l.filter fun τ=>!unlike σ τ) ++ merge1 E (l.filter (unlike σ)) else merge1 E (σ :: l)
theorem merge_ok {C:Cx} (hC:C.Ok) {l:List SS} {st:St} (h:∃ σ ∈ l,Ga C σ st):∃ σ ∈ merge C.E l,Ga C σ st:=by
 unfold merge
 split
 ·exact h
 ·exact h
 ·rename_i σ l hne
  split
  ·obtain ⟨τ,hτ,g⟩:=h
   have key:(∃ σ' ∈ σ :: l.filter fun τ=>!unlike σ τ,Ga C σ' st) ∨ ∃ σ' ∈ l.filter (unlike σ),Ga C σ' st:=by
    rcases List.mem_cons.1 hτ with rfl | hτ
    ·exact Or.inl ⟨_,List.mem_cons_self,g⟩
    ·cases hu:unlike σ τ with
     | true=>exact Or.inr ⟨τ,List.mem_filter.2 ⟨hτ,hu⟩,g⟩
     | false=>exact Or.inl ⟨τ,List.mem_cons_of_mem _ (List.mem_filter.2 ⟨hτ,by simp [hu]⟩),g⟩
   rcases key with h | h
   ·obtain ⟨μ,h1,h2⟩:=merge1_ok hC h
    exact ⟨μ,List.mem_append_left _ h1,h2⟩
   ·obtain ⟨μ,h1,h2⟩:=merge1_ok hC h
    exact ⟨μ,List.mem_append_right _ h1,h2⟩
  ·exact merge1_ok hC h
structure Ways where
 K:SK
 na:Nat
 las:List LA
 fin:SS→Bool
 dd:DD:=[]
mutual
def run (W:Ways):Nat→List SI→Bot→SS→Bool
 | 0,_,_,_=>false
 | n + 1,ks,bot,σ =>
  match ks with
  | []=>(match bot with
   | .fn=>W.fin σ
   | .lp invs p q k b=>(invs.any fun inv=>subSS W.K.E σ inv) && fell σ.fs p q b.dep)
  | .blk _ :: k=>run W n k bot σ
  | .scp :: k=>run W n k bot σ
  | .code .skip :: k=>run W n k bot σ
  | .code (.label _) :: k=>run W n k bot σ
  | .code (.seq a b) :: k=>run W n (.code a :: .code b :: k) bot σ
  | .code (.block j a) :: k=>run W n (.code a :: .blk j :: k) bot σ
  | .code (.scope a) :: k=>run W n (.code a :: .scp :: k) bot σ
  | .code (.exit j) :: k=>unw W n (.exit j) k bot σ
  | .code .ret :: k=>unw W n .ret k bot σ
  | .code (.region i O false) :: k=>(match opsS W.K W.na O O.toList (ddO W.dd i) (ddE W.dd i σ) with | some l=>(merge W.K.E l).all fun σ'=>fSS σ' fun σ'=>run W n k bot σ' | none=>false)
  | .code (.region i O true) :: k=>(match trS W.K W.na O O.toList (ddO W.dd i) [] (ddE W.dd i σ) with | some l=>(merge W.K.E l).all fun σ'=>fSS σ' fun σ'=>run W n k bot σ' | none=>false)
  | .code (.cond c a b) :: k =>
   isBoolT (opTV σ c) && match opB σ c with
   | some true=>run W n (.code a :: k) bot σ
   | some false=>run W n (.code b :: k) bot σ
   | none =>
    match c with
    | .tmp t=>decide (t < σ.n) && ((σ.learn (0,t,0) true).no || run W n (.code a :: k) bot (σ.learn (0,t,0) true)) && ((σ.learn (0,t,0) false).no || run W n (.code b :: k) bot (σ.learn (0,t,0) false))
    | _=>false
  | .code (.loop c) :: k =>
   match W.las.find? fun la=>some la.key == firstReg c with
   | some la =>
    let invs:=mkInvs la bot.dep σ
    decide (bot.dep < 1000) && (invs.any fun inv=>subSS W.K.E σ inv) && (invs.all fun inv=>inv.fs.all fun f=>!f.men (ghosts bot.dep)) && (!Term.men (ghK bot.dep) la.p.1 && !Term.men (ghK bot.dep) la.q.1) && (invs.all fun inv=>leI inv.fs la.q la.p 0) && leI σ.fs la.p (zT,1000000000000000) 0 && leI σ.fs (zT,0) la.q 0
     && invs.all fun inv=>run W n [.code c] (.lp invs la.p la.q k bot) (withG la bot.dep inv)
   | none=>false
  | _=>false
def unw (W:Ways):Nat→Ex→List SI→Bot→SS→Bool
 | 0,_,_,_,_=>false
 | n + 1,x,ks,bot,σ =>
  match ks with
  | []=>(match bot with
   | .fn=>(match x with | .ret=>W.fin σ | _=>false)
   | .lp _ _ _ k b=>unw W n x k b σ)
  | .blk j :: k=>(match x with
   | .exit i=>if i == j then run W n k bot σ else unw W n (.exit i) k bot σ
   | .ret=>unw W n .ret k bot σ
   | _=>false)
  | .scp :: k=>(match x with
   | .exit i=>unw W n (.exit i) k bot σ
   | .ret=>unw W n .ret k bot σ
   | _=>false)
  | .code _ :: k=>unw W n x k bot σ
end
end
end
section
noncomputable section
def Cx.g (C:Cx) (gs:Nat→Int):Cx:={ C with gs:=gs }
mutual
theorem TV.ok_g {C:Cx} {h:Id→O} {a b:Nat→Int}:∀ {t:TV} {x:A},TV.ok (C.g a) h t x→TV.ok (C.g b) h t x
 | .any,x,hx=>by simp only [TV.ok]
 | .und,x,hx=>by simpa only [TV.ok] using hx
 | .mp q e s,x,hx=>by simp only [TV.ok] at hx ⊢; exact hx
 | .was k i,x,hx=>by simp only [TV.ok] at hx ⊢; exact hx
 | .dead,x,hx=>by simp only [TV.ok] at hx ⊢; exact hx
 | .c t,x,hx=>by simp only [TV.ok] at hx ⊢; exact hx
 | .nilv,x,hx=>by simpa only [TV.ok] using hx
 | .own q e,x,hx=>by simp only [TV.ok] at hx ⊢; exact hx
 | .rl q e,x,hx=>by simp only [TV.ok] at hx ⊢; exact hx
 | .bp q off,x,hx=>by simp only [TV.ok] at hx ⊢; exact hx
 | .ep t off,x,hx=>by simp only [TV.ok] at hx ⊢; exact hx
 | .el q e off,x,hx=>by simp only [TV.ok] at hx ⊢; exact hx
 | .tup l,x,hx=>by
  simp only [TV.ok] at hx ⊢
  obtain ⟨zs,h1,h2⟩:=hx
  exact ⟨zs,h1,TV.oks_g h2⟩
 | .clo f l,x,hx=>by
  simp only [TV.ok] at hx ⊢
  obtain ⟨zs,h1,h2⟩:=hx
  exact ⟨zs,h1,TV.oks_g h2⟩
 | .ag l,x,hx=>by
  simp only [TV.ok] at hx ⊢
  exact ⟨hx.1,TV.oks_g hx.2⟩
theorem TV.oks_g {C:Cx} {h:Id→O} {a b:Nat→Int}:∀ {ts:List TV} {zs:List A},TV.oks (C.g a) h ts zs→TV.oks (C.g b) h ts zs
 | [],zs,hx=>by simpa only [TV.oks] using hx
 | t :: ts,zs,hx=>by
  simp only [TV.oks] at hx ⊢
  obtain ⟨x,l,h1,h2,h3⟩:=hx
  exact ⟨x,l,h1,TV.ok_g h2,TV.oks_g h3⟩
end
def GsEq (m:Nat) (a b:Nat→Int):Prop:=∀ i,i < m ∨ 2000 ≤ i→a i=b i
def GsB (C:Cx) (gs:Nat→Int):Prop:=∀ i,2000 ≤ i→gs i=C.gs i
theorem GsEq.bot {m:Nat} {C:Cx} {a b:Nat→Int} (h:GsEq m a b) (ha:GsB C a):GsB C b:=fun i hi=>by rw [← h i (Or.inr hi)]; exact ha i hi
inductive SR (φ:Id→Nat):SI→Itm→Prop where
 | code (c):SR φ (.code c) (.code c)
 | blk (j):SR φ (.blk j) (.blk j)
 | scp:SR φ .scp .scp
inductive SRs (φ:Id→Nat):List SI→List Itm→Prop where
 | nil:SRs φ [] []
 | cons {a b k l}:SR φ a b→SRs φ k l→SRs φ (a :: k) (b :: l)
def Args (na:Nat) (zs:Nat→A) (st:St):Prop:=∀ i,i < na→st.t i=zs i
theorem args_put {na:Nat} {zs:Nat→A} {st:St} {dst:Option Nat} {e:Eff} (h:Args na zs st) (hd:naB na dst=true):Args na zs (st.put dst e):=by
 intro i hi
 show (match dst with | some d=>upd st.t d e.v | none=>st.t) i=_
 cases dst with
 | none=>exact h i hi
 | some d =>
  have:na ≤ d:=of_decide_eq_true hd
  show upd st.t d e.v i=_
  rw [upd_at,if_neg (by omega)]
  exact h i hi
def vI (C:Cx) (s:St) (p:Term × Int):Int:=tv (apv C s) p.1 + p.2
def Iv (C:Cx) (na:Nat) (zs:Nat→A) (invs:List SS) (p q:Term × Int) (m:Nat) (gs:Nat→Int) (i:Nat) (s:St):Prop :=
 ∃ gs',GsEq m gs gs' ∧ ((∃ inv ∈ invs,Ga (C.g gs') inv s)∧Args na zs s)∧(i:Int)=vI (C.g gs') s p - vI (C.g gs') s q
def BR (C:Cx) (X:Orc) (N:Nat) (na:Nat) (zs:Nat→A) (fin:SS→Bool):Bot→(Nat→Int)→(Ex→St→Prop)→Prop
 | .fn,_,Q=>∀ σ gs st,GsB C gs→fin σ=true→Ga (C.g gs) σ st→Args na zs st→Q .normal st∧Q .ret st
 | .lp invs p q k b,gs,Q=>∃ Qb k',BR C X N na zs fin b gs Qb∧SRs (slotC C) k k' ∧ (∀ gs s,(∃ inv ∈ invs,Ga (C.g gs) inv s)→0 ≤ vI (C.g gs) s p - vI (C.g gs) s q)∧(∀ s,(∃ i:Nat,(i:Int) < gs (b.dep + 1) - gs b.dep∧Iv C na zs invs p q b.dep gs i s)→Q .normal s) ∧ ∀ x s,x ≠ .normal→Wu C.P X N x k' s Qb→Q x s
theorem BR_mono {C:Cx} {X:Orc} {N:Nat} {na:Nat} {zs:Nat→A} {fin:SS→Bool}:∀ {b:Bot} {gs gs':Nat→Int} {Q:Ex→St→Prop},BR C X N na zs fin b gs Q→GsEq b.dep gs gs'→BR C X N na zs fin b gs' Q
 | .fn,gs,gs',Q,h,_=>h
 | .lp inv p q k b,gs,gs',Q,h,he=>by
  obtain ⟨Qb,k',h1,h2,h0,h3,h4⟩:=h
  have he:∀ i,i < b.dep + 2 ∨ 2000 ≤ i→gs i=gs' i:=he
  refine ⟨Qb,k',BR_mono h1 (fun i hi=>he i (by omega)),h2,h0,?_,h4⟩
  rintro s ⟨i,hi,g2,e1,e2⟩
  refine h3 s ⟨i,by rw [he _ (by omega),he b.dep (by omega)]; exact hi,g2,fun j hj=>by rw [he j (by omega)]; exact e1 j hj,e2⟩
theorem apv_g {C:Cx} {st:St} {a b:Nat→Int} {m:Nat} (h:GsEq m a b) (x:AP) (hx:ghosts m x=false):apv (C.g a) st x=apv (C.g b) st x:=by
 obtain ⟨k,i,c⟩:=x
 match k with
 | 0=>rfl
 | 1=>rfl
 | 2=>rfl
 | 3=>rfl
 | 4 =>
  have:i < m ∨ 2000 ≤ i:=by
   simp only [ghosts,beq_self_eq_true,Bool.true_and,Bool.and_eq_false_iff,decide_eq_false_iff_not] at hx
   omega
  show A.d (.s (.int .i64 (a i)))=A.d (.s (.int .i64 (b i)))
  rw [h i this]
 | k + 5=>rfl
theorem opsS_ok {K:SK} {C:Cx} {X:Orc} (hK:K.Of C X) (hP:K.P=C.P) {na:Nat} {zs:Nat→A} {O:Array Oper}:∀ {l:List Oper} {ds:List (List Nat)} {σ:SS} {st:St} {r:List SS},opsS K na O l ds σ=some r→Ga C σ st→Args na zs st →
  ∃ s,∃ σ' ∈ r,Ga C σ' s∧Args na zs s ∧ ∀ (N:Nat) (k:List Itm) (Q:Ex→St→Prop),Wk C.P X N k s Q→Wk C.P X N (.ops O l :: k) st Q
 | [],ds,σ,st,r,h,g,ha=>by
  simp only [opsS,Option.some.injEq] at h
  subst h
  exact ⟨st,σ,List.mem_cons_self,g,ha,fun N k Q hw=>by rw [Wk_ops_nil]; exact hw⟩
 | o :: l,ds,σ,st,r,h,g,ha=>by
  unfold opsS at h
  split at h
  ·rename_i hna
   split at h
   ·rename_i ps hps
    obtain ⟨p,hp,e,h1,h2,h3⟩:=stepL_get hK g hps
    obtain ⟨a,h4,h5⟩:=contL_mem h p hp
    obtain ⟨s,σ',h6,h7,h8,h9⟩:=opsS_ok hK hP h4 (slim_ok h3 _ _) (args_put ha hna)
    rw [hP] at h1
    exact ⟨s,σ',h5 _ h6,h7,h8,fun N k Q hw=>Wk_step h1 (h9 N k Q hw)⟩
   ·cases h
  ·cases h
theorem trS_ok {K:SK} {C:Cx} {X:Orc} (hK:K.Of C X) (hP:K.P=C.P) {na:Nat} {zs:Nat→A} {O:Array Oper}:∀ {l:List Oper} {ds:List (List Nat)} {outs:List Out} {es:List Eff} {σ:SS} {st:St} {r:List SS},trS K na O l ds outs σ=some r→Ga C σ st→Args na zs st→SubL outs es (slotC C) →
  ∃ s,∃ σ' ∈ r,Ga C σ' s∧Args na zs s ∧ ∀ (N:Nat) (k:List Itm) (Q:Ex→St→Prop),Wk C.P X N k s Q→Wk C.P X N (.tr O l es :: k) st Q
 | [],ds,outs,es,σ,st,r,h,g,ha,hs=>by
  unfold trS at h
  split at h
  ·rename_i hr
   cases h
   exact ⟨st,σ,List.mem_cons_self,g,ha,fun N k Q hw=>by rw [Wk_tr_nil]; exact ⟨raceS_ok hs hr,hw⟩⟩
  ·cases h
 | o :: l,ds,outs,es,σ,st,r,h,g,ha,hs=>by
  unfold trS at h
  split at h
  ·rename_i hna
   split at h
   ·rename_i ps hps
    obtain ⟨p,hp,e,h1,h2,h3⟩:=stepL_get hK g hps
    obtain ⟨a,h4,h5⟩:=contL_mem h p hp
    obtain ⟨s,σ',h6,h7,h8,h9⟩:=trS_ok hK hP h4 (slim_ok h3 _ _) (args_put ha hna) (SubL_app hs h2)
    rw [hP] at h1
    exact ⟨s,σ',h5 _ h6,h7,h8,fun N k Q hw=>Wk_stepT h1 (h9 N k Q hw)⟩
   ·cases h
  ·cases h
theorem lt5 {a:AP} (h:decide (5 ≤ a.1)=false):a.1 < 5:=by
 have:¬ 5 ≤ a.1:=by simpa using h
 omega
theorem men_mono {K K':AP→Bool} (hk:∀ a,K' a=false→K a=false):∀ {t:Term},Term.men K' t=false→Term.men K t=false
 | (0,_),_=>rfl
 | (1,a),h=>hk a h
 | (k + 2,a),h=>hk a h
theorem ghK_g {m:Nat} {a:AP} (h:ghK m a=false):ghosts m a=false:=by
 unfold ghK at h
 rw [Bool.or_eq_false_iff] at h
 exact h.1
theorem ghK_5 {m:Nat} {a:AP} (h:ghK m a=false):a.1 < 5:=by
 unfold ghK at h
 rw [Bool.or_eq_false_iff] at h
 exact lt5 h.2
theorem run_ok {W:Ways} {C:Cx} {X:Orc} {N:Nat} {zs:Nat→A} (hN:1000000000000000 < N) (hK:∀ gs,GsB C gs→W.K.Of (C.g gs) X):∀ n:Nat,
  (∀ (ks:List SI) (bot:Bot) (σ:SS) (gs:Nat→Int) (st:St) (ks':List Itm) (Q:Ex→St→Prop),GsB C gs→run W n ks bot σ=true→SRs (slotC C) ks ks'→Ga (C.g gs) σ st→Args W.na zs st→BR C X N W.na zs W.fin bot gs Q→Wk C.P X N ks' st Q) ∧
  (∀ (x:Ex) (ks:List SI) (bot:Bot) (σ:SS) (gs:Nat→Int) (st:St) (ks':List Itm) (Q:Ex→St→Prop),GsB C gs→x ≠ .normal→unw W n x ks bot σ=true→SRs (slotC C) ks ks'→Ga (C.g gs) σ st→Args W.na zs st→BR C X N W.na zs W.fin bot gs Q→Wu C.P X N x ks' st Q):=by
 have hP:W.K.P=C.P:=(hK C.gs fun _ _=>rfl).p.symm
 have hE:W.K.E=C.E:=(hK C.gs fun _ _=>rfl).e.symm
 have hC:∀ gs,GsB C gs→(C.g gs).Ok:=fun gs h=>(hK gs h).ok
 intro n
 induction n with
 | zero =>
  exact ⟨fun ks bot σ gs st ks' Q _ h=>by simp [run] at h,fun x ks bot σ gs st ks' Q _ _ h=>by simp [unw] at h⟩
 | succ n ih =>
  obtain ⟨ih1,ih2⟩:=ih
  constructor
  ·intro ks bot σ gs st ks' Q hgs h hs g ha hb
   unfold run at h
   split at h
   ·
    cases hs
    rw [Wk_nil]
    split at h
    ·exact (hb σ gs st hgs h g ha).1
    ·rename_i invs p q k b
     rw [Bool.and_eq_true] at h
     obtain ⟨Qb,k',h1,h2,h0,h3,h4⟩:=hb
     obtain ⟨inv,hinv,hsub⟩:=List.any_eq_true.1 h.1
     have g':∃ inv ∈ invs,Ga (C.g gs) inv st:=⟨inv,hinv,subSS_ok (hC gs hgs) g (by rw [hE] at hsub; exact hsub)⟩
     have hf:=g.nows
     have key:vI (C.g gs) st p - vI (C.g gs) st q < gs (b.dep + 1) - gs b.dep:=by
      have hfe:=h.2
      unfold fell at hfe
      simp only [Bool.or_eq_true,Bool.and_eq_true] at hfe
      have z1:tv (apv (C.g gs) st) (1,4,b.dep,0)=gs b.dep:=rfl
      have z2:tv (apv (C.g gs) st) (1,4,b.dep + 1,0)=gs (b.dep + 1):=rfl
      unfold vI
      rcases hfe with ⟨e1,e2⟩ | ⟨e1,e2⟩
      ·have f1:=leI_ok hf e1
       have f2:=leI_ok hf e2
       simp only [z1,z2] at f1 f2
       omega
      ·have f1:=leI_ok hf e1
       have f2:=leI_ok hf e2
       simp only [z1,z2] at f1 f2
       omega
     have hpos:=h0 gs st g'
     exact h3 st ⟨(vI (C.g gs) st p - vI (C.g gs) st q).toNat,by rw [Int.toNat_of_nonneg hpos]; exact key,gs,fun _ _=>rfl,⟨g',ha⟩,Int.toNat_of_nonneg hpos⟩
   ·cases hs; rename_i h1 h2; cases h1; rw [Wk_blk]; exact ih1 _ _ _ _ _ _ _ hgs h h2 g ha hb
   ·cases hs; rename_i h1 h2; cases h1; rw [Wk_scp]; exact ih1 _ _ _ _ _ _ _ hgs h h2 g ha hb
   ·cases hs; rename_i h1 h2; cases h1; rw [Wk_skip]; exact ih1 _ _ _ _ _ _ _ hgs h h2 g ha hb
   ·cases hs; rename_i h1 h2; cases h1; rw [Wk_label]; exact ih1 _ _ _ _ _ _ _ hgs h h2 g ha hb
   ·cases hs; rename_i h1 h2; cases h1; rw [Wk_seq]; exact ih1 _ _ _ _ _ _ _ hgs h (.cons (.code _) (.cons (.code _) h2)) g ha hb
   ·cases hs; rename_i h1 h2; cases h1; rw [Wk_block]; exact ih1 _ _ _ _ _ _ _ hgs h (.cons (.code _) (.cons (.blk _) h2)) g ha hb
   ·cases hs; rename_i h1 h2; cases h1; rw [Wk_scope]; exact ih1 _ _ _ _ _ _ _ hgs h (.cons (.code _) (.cons .scp h2)) g ha hb
   ·cases hs; rename_i h1 h2; cases h1; rw [Wk_exit]; exact ih2 _ _ _ _ _ _ _ _ hgs (by simp) h h2 g ha hb
   ·cases hs; rename_i h1 h2; cases h1; rw [Wk_ret]; exact ih2 _ _ _ _ _ _ _ _ hgs (by simp) h h2 g ha hb
   ·cases hs; rename_i h1 h2; cases h1
    split at h
    ·rename_i l hl
     rw [Wk_region]
     obtain ⟨s,σ',hm,g',ha',hw⟩:=opsS_ok (hK gs hgs) hP hl (ddE_ok g _ _) ha
     obtain ⟨τ,hτ,gτ⟩:=merge_ok (hC gs hgs) ⟨σ',hm,g'⟩
     exact hw _ _ _ (ih1 _ _ _ _ _ _ _ hgs (by have:=List.all_eq_true.1 h τ (by rw [hE]; exact hτ); rwa [fSS_eq] at this) h2 gτ ha' hb)
    ·cases h
   ·cases hs; rename_i h1 h2; cases h1
    split at h
    ·rename_i l hl
     rw [Wk_draw]
     obtain ⟨s,σ',hm,g',ha',hw⟩:=trS_ok (hK gs hgs) hP hl (ddE_ok g _ _) ha (es:=[]) trivial
     obtain ⟨τ,hτ,gτ⟩:=merge_ok (hC gs hgs) ⟨σ',hm,g'⟩
     exact hw _ _ _ (ih1 _ _ _ _ _ _ _ hgs (by have:=List.all_eq_true.1 h τ (by rw [hE]; exact hτ); rwa [fSS_eq] at this) h2 gτ ha' hb)
    ·cases h
   ·
    cases hs; rename_i h1 h2; cases h1
    rename_i c a b k l
    rw [Bool.and_eq_true] at h
    obtain ⟨ht,h⟩:=h
    have hv:=isBoolT_ok (opTV_ok g c) ht
    have hb1:(st.ev c).bool? = some (boolA (st.ev c)):=by rw [hv]; rfl
    rw [Wk_cond,hb1]
    have yes:boolA (st.ev c)=true→Wk C.P X N (.code a :: l) st Q→(if some (boolA (st.ev c))=some true then Wk C.P X N (.code a :: l) st Q else if some (boolA (st.ev c))=some false then Wk C.P X N (.code b :: l) st Q else False):=fun e hw=>by rw [e]; exact hw
    have no:boolA (st.ev c)=false→Wk C.P X N (.code b :: l) st Q→(if some (boolA (st.ev c))=some true then Wk C.P X N (.code a :: l) st Q else if some (boolA (st.ev c))=some false then Wk C.P X N (.code b :: l) st Q else False):=fun e hw=>by rw [e]; exact hw
    split at h
    ·rename_i hb0
     exact yes (opB_ok g hb0) (ih1 _ _ _ _ _ _ _ hgs h (.cons (.code _) h2) g ha hb)
    ·rename_i hb0
     exact no (opB_ok g hb0) (ih1 _ _ _ _ _ _ _ hgs h (.cons (.code _) h2) g ha hb)
    ·split at h
     ·rename_i t hb0
      rw [Bool.and_eq_true,Bool.and_eq_true] at h
      obtain ⟨⟨hlt,h3⟩,h4⟩:=h
      have hlt:=of_decide_eq_true hlt
      have hev:st.ev (.tmp t)=st.t t:=ev_tmp g hlt
      rcases Bool.eq_false_or_eq_true (boolA (st.ev (.tmp t))) with hbv | hbv
      ·rw [Bool.or_eq_true] at h3
       have gl:=learn_Ga g hlt (b:=true) (by rw [← hev]; exact hbv)
       rcases h3 with h3 | h3
       ·exact (no_ok gl h3).elim
       ·exact yes hbv (ih1 _ _ _ _ _ _ _ hgs h3 (.cons (.code _) h2) gl ha hb)
      ·rw [Bool.or_eq_true] at h4
       have gl:=learn_Ga g hlt (b:=false) (by rw [← hev]; exact hbv)
       rcases h4 with h4 | h4
       ·exact (no_ok gl h4).elim
       ·exact no hbv (ih1 _ _ _ _ _ _ _ hgs h4 (.cons (.code _) h2) gl ha hb)
     ·cases h
   ·
    cases hs; rename_i h1 h2; cases h1
    rename_i c k l
    split at h
    ·rename_i la hla
     simp only [Bool.and_eq_true] at h
     obtain ⟨⟨⟨⟨⟨⟨⟨e0,e1⟩,e2⟩,e3,e4⟩,e5⟩,e6⟩,e7⟩,e8⟩:=h
     have e0:=of_decide_eq_true e0
     obtain ⟨inv0,hinv0,e1⟩:=List.any_eq_true.1 e1
     have ginv:∃ inv ∈ mkInvs la bot.dep σ,Ga (C.g gs) inv st:=⟨inv0,hinv0,subSS_ok (hC gs hgs) g (by rw [hE] at e1; exact e1)⟩
     have pos:∀ gs s,(∃ inv ∈ mkInvs la bot.dep σ,Ga (C.g gs) inv s)→0 ≤ vI (C.g gs) s la.p - vI (C.g gs) s la.q:=fun gs s ⟨inv,hi,g'⟩=>by
      have:=leI_ok g'.nows (List.all_eq_true.1 e5 inv hi)
      unfold vI; omega
     have bnd:vI (C.g gs) st la.p - vI (C.g gs) st la.q ≤ 1000000000000000:=by
      have f1:=leI_ok g.nows e6
      have f2:=leI_ok g.nows e7
      have z0:tv (apv (C.g gs) st) zT=0:=rfl
      simp only [z0] at f1 f2
      unfold vI; omega
     have p0:=pos gs st ginv
     refine Wk_loopd (fun i s=>Iv C W.na zs (mkInvs la bot.dep σ) la.p la.q bot.dep gs i s) (vI (C.g gs) st la.p - vI (C.g gs) st la.q).toNat (by omega) ⟨gs,fun _ _=>rfl,⟨ginv,ha⟩,Int.toNat_of_nonneg p0⟩ ?_
     rintro j s hj ⟨g1,ge,⟨⟨inv,hinv,gi⟩,ga⟩,hij⟩
     have e2:=List.all_eq_true.1 e2 inv hinv
     have e8:=List.all_eq_true.1 e8 inv hinv
     let g2:Nat→Int:=fun i=>if i=bot.dep then vI (C.g g1) s la.q else if i=bot.dep + 1 then vI (C.g g1) s la.p else g1 i
     have g2q:g2 bot.dep=vI (C.g g1) s la.q:=if_pos rfl
     have g2p:g2 (bot.dep + 1)=vI (C.g g1) s la.p:=by
      show (if bot.dep + 1=bot.dep then _ else _)=_
      rw [if_neg (by omega),if_pos rfl]
     have g12:GsEq bot.dep g1 g2:=fun i hi=>by
      show g1 i=if i=bot.dep then _ else _
      rw [if_neg (by omega),if_neg (by omega)]
     have gg:GsEq bot.dep gs g2:=fun i hi=>by rw [ge i hi]; exact g12 i hi
     have same:∀ t:Term × Int,Term.men (ghosts bot.dep) t.1=false→vI (C.g g2) s t=vI (C.g g1) s t:=fun t ht=>by
      unfold vI
      rw [tv_agree (fun a ha=>apv_g g12 a ha) ht]
     have e3:Term.men (ghK bot.dep) la.p.1=false:=by simpa using e3
     have e4:Term.men (ghK bot.dep) la.q.1=false:=by simpa using e4
     have sq:=same la.q (men_mono (fun _=>ghK_g) e4)
     have sp:=same la.p (men_mono (fun _=>ghK_g) e3)
     have gin2:Ga (C.g g2) inv s:=by
      refine ⟨gi.d,gi.n,fun p hp=>TV.ok_g (gi.sl p hp),fun p hp=>?_,fun v hv f hf=>?_,gi.low,gi.al,gi.pk,gi.wh⟩
      ·obtain ⟨ver,cs,q1,q2⟩:=gi.hp p hp
       exact ⟨ver,cs,q1,TV.oks_g q2⟩
      ·have hm:=List.all_eq_true.1 e2 f hf
       have h1:=gi.nows f hf
       have h2:=Fact.ok_agree (K:=ghosts bot.dep) (w:=apv (C.g g2) s) (fun a ha=>apv_g g12 a ha) (by simpa using hm) h1
       have h3:∀ w,Now (C.g g1) s w→Fact.ok w f:=fun w hw=>gi.fs w hw f hf
       let w:AP→A:=fun a=>if ghosts bot.dep a=true∧a.1 < 5 then apv (C.g g1) s a else v a
       have hw:Now (C.g g1) s w:=fun a ha=>by
        show (if _ then _ else _)=_
        split
        ·rfl
        ·rename_i hn
         have hgf:ghosts bot.dep a=false:=by
          cases hx:ghosts bot.dep a with
          | false=>rfl
          | true=>exact absurd ⟨hx,ha⟩ hn
         rw [hv a ha]
         exact (apv_g g12 a hgf).symm
       refine Fact.ok_agree (K:=ghosts bot.dep) (fun a ha=>?_) (by simpa using hm) (h3 w hw)
       show (if _ then _ else _)=_
       rw [if_neg (by rw [ha]; simp)]
     have gw:Ga (C.g g2) (withG la bot.dep inv) s:=by
      refine ⟨gin2.d,gin2.n,gin2.sl,gin2.hp,fun v hv=>FOkA ?_ (gin2.fs v hv),gin2.low,gin2.al,gin2.pk,gin2.wh⟩
      have tvn:∀ t:Term × Int,Term.men (ghK bot.dep) t.1=false→tv v t.1 + t.2=vI (C.g g2) s t:=fun t ht=>by
       unfold vI
       rw [tv_agree (K:=ghK bot.dep) (v:=v) (w:=apv (C.g g2) s) (fun a ha=>hv a (ghK_5 ha)) ht]
      have tq:=tvn la.q e4
      have tp:=tvn la.p e3
      have zq:tv v (1,4,bot.dep,0)=g2 bot.dep:=by
       show intA (v (4,bot.dep,0))=_
       rw [hv _ (by show 4 < 5; decide)]; rfl
      have zp:tv v (1,4,bot.dep + 1,0)=g2 (bot.dep + 1):=by
       show intA (v (4,bot.dep + 1,0))=_
       rw [hv _ (by show 4 < 5; decide)]; rfl
      intro f hf
      simp only [List.mem_cons,List.not_mem_nil,or_false] at hf
      rcases hf with rfl | rfl | rfl | rfl
      ·exact leF_ok.2 (by simp only [zq,g2q]; omega)
      ·exact leF_ok.2 (by simp only [zq,g2q]; omega)
      ·exact leF_ok.2 (by simp only [zp,g2p]; omega)
      ·exact leF_ok.2 (by simp only [zp,g2p]; omega)
     refine Wk_mono (ih1 _ _ _ g2 _ _ (fun x s'=>match x with | .normal=>∃ i,i < j∧Iv C W.na zs (mkInvs la bot.dep σ) la.p la.q bot.dep gs i s' | x=>Wu C.P X N x l s' Q) (gg.bot hgs) e8 (.cons (.code _) .nil) gw ga ⟨Q,l,BR_mono hb gg,h2,pos,?_,?_⟩) fun x s' hq=>hq
     ·rintro s' ⟨i,hi,g3,k1,k2,k3⟩
      refine ⟨i,?_,g3,fun i hi=>by rw [gg i hi]; exact k1 i hi,k2,k3⟩
      rw [g2q,g2p,← hij] at hi
      omega
     ·intro x s' hx hw
      cases x with
      | normal=>exact absurd rfl hx
      | exit i=>exact hw
      | goto i=>exact hw
      | ret=>exact hw
    ·cases h
   ·cases h
  ·intro x ks bot σ gs st ks' Q hgs hx h hs g ha hb
   unfold unw at h
   split at h
   ·cases hs
    rw [Wu_nil]
    split at h
    ·split at h
     ·exact (hb σ gs st hgs h g ha).2
     ·cases h
    ·rename_i inv p q k b
     obtain ⟨Qb,k',h1,h2,h0,h3,h4⟩:=hb
     exact h4 x st hx (ih2 _ _ _ _ _ _ _ _ hgs hx h h2 g ha h1)
   ·cases hs; rename_i h1 h2; cases h1
    split at h
    ·rename_i i
     rw [Wu_blk]
     split at h
     ·rename_i hij
      rw [if_pos (eq_of_beq hij)]
      exact ih1 _ _ _ _ _ _ _ hgs h h2 g ha hb
     ·rename_i hij
      rw [if_neg (by simpa using hij)]
      exact ih2 _ _ _ _ _ _ _ _ hgs hx h h2 g ha hb
    ·rw [Wu_ret]; exact ih2 _ _ _ _ _ _ _ _ hgs hx h h2 g ha hb
    ·cases h
   ·cases hs; rename_i h1 h2; cases h1
    split at h
    ·rw [Wu_scp]; exact ih2 _ _ _ _ _ _ _ _ hgs hx h h2 g ha hb
    ·rw [Wu_scpr]; exact ih2 _ _ _ _ _ _ _ _ hgs hx h h2 g ha hb
    ·cases h
   ·cases hs; rename_i h1 h2; cases h1
    rw [Wu_code]; exact ih2 _ _ _ _ _ _ _ _ hgs hx h h2 g ha hb
end
end
end Go.Proofs.YtenoggjjhamdaaaGreatDoor
