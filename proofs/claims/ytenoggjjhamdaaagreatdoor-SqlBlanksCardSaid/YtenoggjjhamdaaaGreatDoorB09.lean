/-
  WHAT IS PROVED HERE: parts of the proof: Sx4 Sx5 Sx6 Sx7 Sx8.
-/
import Derived.Test.YtenoggjjhamdaaaGreatDoorB08
set_option linter.all false
namespace Go.Proofs.YtenoggjjhamdaaaGreatDoor
open Go Go.RowKit
section
noncomputable section
def valTV:Value→TV
 | .int k _=>.c (.int k)
 | .bool _=>.c .bool
 | .string s=>.c (.str s.size)
 | .slice none 0 0=>.nilv
 | .nilFunc=>.c .any
 | _=>.any
theorem valTV_ok (C:Cx) (h:Id→O) (v:Value):TV.ok C h (valTV v) (ofCell v):=by
 unfold valTV
 split
 ·exact ⟨_,rfl,_,rfl⟩
 ·exact ⟨_,rfl,_,rfl⟩
 ·exact ⟨_,rfl,_,rfl,Nat.le_refl _⟩
 ·simp only [TV.ok]; rfl
 ·exact ⟨_,rfl,Or.inr rfl⟩
 ·simp only [TV.ok]
theorem valTV_okV (C:Cx) (h:Id→O) (v:Value):TV.ok C h (valTV v) (ofV v):=by
 cases v with
 | agg cs=>unfold valTV; simp only [TV.ok]
 | tuple cs=>unfold valTV; simp only [TV.ok]
 | _=>exact valTV_ok C h _
def opTV (σ:SS):Operand→TV
 | .tmp t=>if t < σ.n then (match σ.sl.find? fun p=>p.1 == t with | some p=>p.2 | none=>.any) else .any
 | .const v=>valTV v
 | .func f=>.clo f []
 | .global _=>.any
theorem ev_tmp {C:Cx} {σ:SS} {st:St} (g:Ga C σ st) {t:Nat} (ht:t < σ.n):st.ev (.tmp t)=st.t t:=by
 show (if t < st.n then st.t t else _)=_
 rw [g.n,if_pos ht]
theorem opTV_ok {C:Cx} {σ:SS} {st:St} (g:Ga C σ st) (o:Operand):TV.ok C st.h (opTV σ o) (st.ev o):=by
 cases o with
 | tmp t =>
  show TV.ok C st.h (if t < σ.n then (match σ.sl.find? fun p=>p.1 == t with | some p=>p.2 | none=>.any) else .any) _
  split
  ·rename_i ht
   rw [ev_tmp g ht]
   split
   ·rename_i p hp
    have h1:=g.sl p (List.mem_of_find?_eq_some hp)
    have h2:p.1=t:=by simpa using List.find?_some hp
    rw [h2] at h1
    exact h1
   ·simp only [TV.ok]
  ·simp only [TV.ok]
 | const v=>exact valTV_okV C st.h v
 | func f=>exact ⟨[],rfl,rfl⟩
 | global g=>simp only [opTV,TV.ok]
def opI (σ:SS):Operand→Option (Term × Int)
 | .tmp t=>if t < σ.n then some ((1,0,t,0),0) else none
 | .const (.int _ z)=>some (zT,z)
 | _=>none
theorem opI_ok {C:Cx} {σ:SS} {st:St} (g:Ga C σ st) {o:Operand} {T:Term} {z:Int} (h:opI σ o=some (T,z)) {v:AP→A} (hv:Now C st v):intA (st.ev o)=tv v T + z:=by
 unfold opI at h
 split at h
 ·rename_i t
  split at h
  ·rename_i ht
   cases h
   show intA (st.ev (.tmp t))=intA (v (0,t,0)) + 0
   rw [hv _ (by show 0 < 5; decide),ev_tmp g ht]
   show _=intA (st.t t) + 0
   omega
  ·cases h
 ·cases h
  show _=(0:Int) + z
  simp [St.ev,ofV,ofCell,intA]
 ·cases h
def opL (σ:SS):Operand→Option (Term × Int)
 | .tmp t=>if t < σ.n then some ((2,0,t,0),0) else none
 | .const (.string s)=>some (zT,s.size)
 | .const (.slice none 0 0)=>some (zT,0)
 | _=>none
theorem opL_ok {C:Cx} {σ:SS} {st:St} (g:Ga C σ st) {o:Operand} {T:Term} {z:Int} (h:opL σ o=some (T,z)) {v:AP→A} (hv:Now C st v):lenA (st.ev o)=tv v T + z:=by
 unfold opL at h
 split at h
 ·rename_i t
  split at h
  ·rename_i ht
   cases h
   show lenA (st.ev (.tmp t))=lenA (v (0,t,0)) + 0
   rw [hv _ (by show 0 < 5; decide),ev_tmp g ht]
   show _=lenA (st.t t) + 0
   omega
  ·cases h
 ·cases h
  show _=(0:Int) + _
  simp [St.ev,ofV,ofCell,lenA]
 ·cases h
  show _=(0:Int) + 0
  simp [St.ev,ofV,ofCell,lenA]
 ·cases h
def eqNew (src dst:AP):TV→List Fact
 | .c (.int _)=>[.f (.le (1,src) (1,dst) 0),.f (.le (1,dst) (1,src) 0)]
 | .c (.lst _ _) | .c (.lsj ..) | .c (.str _) | .nilv | .own _ _ | .rl _ _=>[.f (.le (2,src) (2,dst) 0),.f (.le (2,dst) (2,src) 0)]
 | _=>[]
theorem eqNew_ok {v:AP→A} {src dst:AP} (h:v src=v dst) (t:TV):FOk v (eqNew src dst t):=by
 have h1:FOk v [.f (.le (1,src) (1,dst) 0),.f (.le (1,dst) (1,src) 0)]:=by
  intro f hf
  simp only [List.mem_cons,List.not_mem_nil,or_false] at hf
  rcases hf with rfl | rfl <;> simp only [Fact.ok,LF.ok,tv,h] <;> omega
 have h2:FOk v [.f (.le (2,src) (2,dst) 0),.f (.le (2,dst) (2,src) 0)]:=by
  intro f hf
  simp only [List.mem_cons,List.not_mem_nil,or_false] at hf
  rcases hf with rfl | rfl <;> simp only [Fact.ok,LF.ok,tv,h] <;> omega
 unfold eqNew
 split
 ·exact h1
 all_goals first | exact h2 | (intro f hf; cases hf)
def worth (fs:List Fact) (a:AP):TV→Bool
 | .c (.int _)=>fs.any fun f=>f.men fun b=>b == a
 | _=>true
def linkC (fs:List Fact) (f g:Nat→AP):Nat→List TV→List (AP × AP) × List Fact
 | _,[]=>([],[])
 | k,t :: l =>
  let r:=linkC fs f g (k + 1) l
  if worth fs (f k) t then ((f k,g k) :: r.1,eqNew (f k) (g k) t ++ r.2) else r
theorem linkC_ok {v:AP→A} {fs:List Fact} {f g:Nat→AP}:∀ {l:List TV} {k:Nat},(∀ c,k ≤ c→c < k + l.length→v (f c)=v (g c))→(∀ p ∈ (linkC fs f g k l).1,v p.1=v p.2)∧FOk v (linkC fs f g k l).2
 | [],k,h=>⟨fun p hp=>(by cases hp),fun p hp=>(by cases hp)⟩
 | t :: l,k,h=>by
  have ih:=linkC_ok (v:=v) (fs:=fs) (f:=f) (g:=g) (l:=l) (k:=k + 1) (fun c h1 h2=>h c (by omega) (by simp; omega))
  have h0:=h k (Nat.le_refl _) (by simp)
  unfold linkC
  simp only
  split
  ·refine ⟨fun p hp=>?_,fun p hp=>?_⟩
   ·rcases List.mem_cons.1 hp with rfl | hp
    ·exact h0
    ·exact ih.1 p hp
   ·rcases List.mem_append.1 hp with hp | hp
    ·exact eqNew_ok h0 t p hp
    ·exact ih.2 p hp
  ·exact ih
def subTV (E:Nat→Option (List Ty)):TV→List TV
 | .c (.st ts)=>ts.map .c
 | .c (.nm i)=>match E i with | some ts=>ts.map .c | none=>[]
 | .ag l | .tup l=>l
 | _=>[]
def cstFs (dst:AP):Value→List Fact
 | .int _ z=>[.f (.le (1,dst) zT (-z)),.f (.le zT (1,dst) z)]
 | .bool b=>[.f (.isb dst b)]
 | .string s=>[.f (.le (2,dst) zT (-s.size)),.f (.le zT (2,dst) s.size)]
 | .slice none 0 0=>[.f (.le (2,dst) zT 0)]
 | _=>[]
theorem cstFs_ok {v:AP→A} {dst:AP} {x:Value} (h:v dst=ofCell x):FOk v (cstFs dst x):=by
 have z0:tv v zT=0:=rfl
 unfold cstFs
 split
 ·intro f hf
  simp only [List.mem_cons,List.not_mem_nil,or_false] at hf
  rcases hf with rfl | rfl <;> simp only [Fact.ok,LF.ok,z0] <;> simp only [tv,h,ofCell,intA] <;> omega
 ·intro f hf
  simp only [List.mem_cons,List.not_mem_nil,or_false] at hf
  subst hf
  simp only [Fact.ok,LF.ok,h,ofCell,boolA]
 ·intro f hf
  simp only [List.mem_cons,List.not_mem_nil,or_false] at hf
  rcases hf with rfl | rfl <;> simp only [Fact.ok,LF.ok,z0] <;> simp only [tv,h,ofCell,lenA] <;> omega
 ·intro f hf
  simp only [List.mem_cons,List.not_mem_nil,or_false] at hf
  subst hf
  show lenA (v dst) + 0 ≤ 0
  rw [h]
  exact Int.le_refl _
 ·intro f hf; cases hf
def asgF (E:Nat→Option (List Ty)) (σ:SS):Operand→List (AP × AP) × List Fact
 | .tmp t=>if t < σ.n then
   let l:=linkC σ.fs (fun c=>(1,t,c)) (fun c=>(6,c,0)) 0 (subTV E (opTV σ (.tmp t)))
   (((0,t,0),(5,0,0)) :: l.1,eqNew (0,t,0) (5,0,0) (opTV σ (.tmp t)) ++ l.2) else ([],[])
 | .const (.agg _) | .const (.tuple _)=>([],[])
 | .const v=>([],cstFs (5,0,0) v)
 | _=>([],[])
theorem asgF_ok {C:Cx} {σ:SS} {st:St} (g:Ga C σ st) (E:Nat→Option (List Ty)) (o:Operand) {bc:List A} {v:AP→A} (hv:New C st (st.ev o) bc v):(∀ p ∈ (asgF E σ o).1,v p.1=v p.2)∧FOk v (asgF E σ o).2:=by
 have hno:(∀ p ∈ ([]:List (AP × AP)),v p.1=v p.2)∧FOk v []:=⟨fun p hp=>(by cases hp),fun p hp=>(by cases hp)⟩
 unfold asgF
 split
 ·rename_i t
  split
  ·rename_i ht
   have hev:st.ev (.tmp t)=st.t t:=ev_tmp g ht
   rw [hev] at hv
   have h0:v (0,t,0)=v (5,0,0):=by rw [hv.now _ (by show 0 < 5; decide),hv.nv]; rfl
   have h1:=linkC_ok (v:=v) (fs:=σ.fs) (f:=fun c=>(1,t,c)) (g:=fun c=>(6,c,0)) (l:=subTV E (opTV σ (.tmp t))) (k:=0) fun c _ _=>by
    rw [hv.now _ (by show 1 < 5; decide),hv.nc]; rfl
   refine ⟨fun p hp=>?_,fun p hp=>?_⟩
   ·rcases List.mem_cons.1 hp with rfl | hp
    ·exact h0
    ·exact h1.1 p hp
   ·rcases List.mem_append.1 hp with hp | hp
    ·exact eqNew_ok h0 _ p hp
    ·exact h1.2 p hp
  ·exact hno
 ·exact hno
 ·exact hno
 ·rename_i x hx1 hx2
  refine ⟨hno.1,cstFs_ok ?_⟩
  rw [hv.nv]
  cases x with
  | agg cs=>exact absurd rfl (hx1 cs)
  | tuple cs=>exact absurd rfl (hx2 cs)
  | _=>rfl
 ·exact hno
inductive Act where
 | wr (t:TV) (cp:List (AP × AP)) (new:List Fact)
 | mk (t:TV) (ks:List PL) (bx:Option (List TV)) (cp:List (AP × AP)) (new:List Fact) (w:Option Ty:=none)
 | stb (j:Nat) (ts:List TV) (cp:List (AP × AP)) (new:List Fact) (w:Option Ty:=none)
 | gen (t:TV) (ks:List PL) (bx:List (PL × List TV)) (cp:List (AP × AP)) (new:List Fact)
def Act.ap (σ:SS) (dst:Option Nat):Act→Option SS
 | .wr t cp new=>some (σ.wr dst t cp new)
 | .mk t ks bx cp new w=>dst.map fun j=>σ.mk' j t ks bx cp new w
 | .stb j ts cp new w=>if dst.isNone then some (σ.stb j ts cp new w) else none
 | .gen t ks bx cp new=>some (σ.gen dst t ks bx cp new)
structure Out where
 act:Act
 rd:List Nat:=[]
 wr:List Nat:=[]
 ra:Bool:=false
abbrev sN:PL→Nat
 | (true,j)=>j + 1
 | (false,k)=>5000000 + k
open Classical in
noncomputable def slotC (C:Cx) (i:Id):Nat:=if i.1=C.d then i.2 + 1 else if h:∃ k,C.π k=i then 5000000 + h.choose else 0
theorem slotC_own {C:Cx} (j:Nat):slotC C (C.d,j)=j + 1:=by unfold slotC; rw [if_pos rfl]
theorem sN_at {C:Cx} (hC:C.Ok) (p:PL):slotC C (C.at p)=sN p:=by
 obtain ⟨b,k⟩:=p
 cases b with
 | true=>exact slotC_own _
 | false =>
  show slotC C (C.π k)=5000000 + k
  unfold slotC
  have hex:∃ j,C.π j=C.π k:=⟨k,rfl⟩
  rw [if_neg (hC.dis k),dif_pos hex]
  have:=hC.inj _ _ hex.choose_spec
  rw [this]
def SubSig (a:SigN) (o:Out):Prop:=(∀ x ∈ a.1,x ∈ o.rd)∧(∀ x ∈ a.2.1,x ∈ o.wr)∧(a.2.2=true→o.ra=true)
def OpOk (C:Cx) (X:Orc) (σ:SS) (st:St) (o:Oper) (out:Out):Prop :=
 ∀ σ',out.act.ap σ o.dst=some σ'→∃ e,opE C.P X st.d st.ev st.h (st.d,o.dst.getD st.n) o=some e∧okW st.d st.al e.wr=true∧SubSig (sigE (slotC C) e) out∧Ga C σ' (st.put o.dst e)
theorem out_val {C:Cx} (hC:C.Ok) {X:Orc} {σ:SS} {st:St} (g:Ga C σ st) {o:Oper} {a:A} {rd:List Id} {t:TV} {cp:List (AP × AP)} {new:List Fact} {ps:List Nat}
  (he:opE C.P X st.d st.ev st.h (st.d,o.dst.getD st.n) o=some { v:=a,rd:=rd }) (ht:TV.ok C st.h t a) (hrd:∀ i ∈ rd,slotC C i ∈ ps)
  (hf:∀ v,New C st a [] v→(∀ p ∈ cp,v p.1=v p.2)∧FOk v new):OpOk C X σ st o { act:=.wr t cp new,rd:=ps }:=by
 intro σ' h
 cases h
 refine ⟨_,he,rfl,⟨?_,?_,?_⟩,?_⟩
 ·intro x hx
  obtain ⟨i,hi,rfl⟩:=List.mem_map.1 hx
  exact hrd i hi
 ·intro x hx; cases hx
 ·intro hx; cases hx
 ·exact wr_ok g (fun _=>Fz_refl _) (fun _ _=>rfl) (fun _=>ht) (fun v hv=>(hf v hv).1) (fun v hv=>(hf v hv).2)
def sMove (E:Nat→Option (List Ty)) (σ:SS) (x:Operand):Out:={ act:=.wr (opTV σ x) (asgF E σ x).1 (asgF E σ x).2 }
theorem sMove_ok {C:Cx} (hC:C.Ok) {X:Orc} {σ:SS} {st:St} (g:Ga C σ st) {o:Oper} {x:Operand} (ho:o.op = .move x ∨ o.op = .assign x):OpOk C X σ st o (sMove C.E σ x):=by
 refine out_val hC g (a:=st.ev x) (rd:=[]) ?_ (opTV_ok g x) (fun _ hi=>by cases hi) fun v hv=>asgF_ok g C.E x hv
 obtain ⟨dst,op,ty,pos,af,gd⟩:=o
 rcases ho with rfl | rfl <;> rfl
def sExtract (E:Nat→Option (List Ty)) (σ:SS) (x:Operand) (i:Nat):Option Out :=
 match x,opTV σ x with
 | .tmp s,.tup l =>
  if s < σ.n then
   match l[i]? with
   | some t=>some { act:=.wr t [((1,s,i),(5,0,0))] (eqNew (1,s,i) (5,0,0) t) }
   | none=>none
  else none
 | _,_=>none
theorem sExtract_ok {C:Cx} (hC:C.Ok) {X:Orc} {σ:SS} {st:St} (g:Ga C σ st) {o:Oper} {x:Operand} {i:Nat} (ho:o.op = .extract x i) {out:Out} (h:sExtract C.E σ x i=some out):OpOk C X σ st o out:=by
 unfold sExtract at h
 split at h
 ·rename_i s l hl
  split at h
  ·rename_i hs
   split at h
   ·rename_i t ht
    cases h
    have h1:=opTV_ok g (.tmp s)
    rw [hl] at h1
    simp only [TV.ok] at h1
    obtain ⟨zs,h2,h3⟩:=h1
    obtain ⟨a,h4,h5⟩:=oks_get h3 ht
    have hev:st.ev (.tmp s)=st.t s:=ev_tmp g hs
    refine out_val hC g (a:=a) (rd:=[]) ?_ h5 (fun _ hi=>by cases hi) fun v hv=>?_
    ·obtain ⟨dst,op,ty,pos,af,gd⟩:=o
     simp only at ho
     subst ho
     show (match st.ev (.tmp s) with | .tup xs=>(xs[i]?).map fun v=>({ v }:Eff) | _=>none)=_
     rw [h2]
     simp [h4]
    ·have e:v (1,s,i)=v (5,0,0):=by
      rw [hv.now _ (by show 1 < 5; decide),hv.nv]
      show (st.t s).parts.getD i .any=a
      rw [← hev,h2]
      show zs.getD i .any=a
      rw [List.getD_eq_getElem?_getD,h4]; rfl
     refine ⟨fun p hp=>?_,eqNew_ok e t⟩
     simp only [List.mem_singleton] at hp
     subst hp
     exact e
   ·cases h
  ·cases h
 ·cases h
end
end
section
noncomputable section
def Ty.flat:Ty→Bool
 | .st _ | .nm _=>false
 | _=>true
theorem flat_ok {R:Nat→D→Prop} {t:Ty} {x:D} (h:ShT R t x) (hf:t.flat=true):A.one (.d x)=true∧x.cells=[x]∧(∀ ds,x ≠ .agg ds):=by
 cases t <;> simp only [Ty.flat,Bool.false_eq_true] at hf <;> simp only [ShT] at h
 ·obtain ⟨n,rfl⟩:=h; exact ⟨rfl,rfl,by simp⟩
 ·obtain ⟨n,rfl⟩:=h; exact ⟨rfl,rfl,by simp⟩
 ·obtain ⟨n,rfl,_⟩:=h; exact ⟨rfl,rfl,by simp⟩
 ·obtain ⟨n,rfl,_⟩:=h; exact ⟨rfl,rfl,by simp⟩
 ·rcases h with rfl | rfl
  ·exact ⟨rfl,rfl,by simp⟩
  ·exact ⟨rfl,rfl,by simp⟩
 ·obtain ⟨n,rfl,_⟩:=h; exact ⟨rfl,rfl,by simp⟩
 ·rcases h with ⟨_,rfl⟩ | ⟨⟨t,y,rfl⟩,_⟩ <;> exact ⟨rfl,rfl,by simp⟩
 ·obtain ⟨s,rfl,_⟩:=h; exact ⟨rfl,rfl,by simp⟩
 ·obtain ⟨s,rfl,_⟩:=h; exact ⟨rfl,rfl,by simp⟩
def TV.one:TV→Bool
 | .c t=>t.flat
 | .nilv | .own .. | .rl .. | .bp .. | .ep .. | .clo .. | .el ..=>true
 | _=>false
theorem one_ok {C:Cx} {h:Id→O} {t:TV} {a:A} (hx:TV.ok C h t a) (h1:t.one=true):A.one a=true∧a.cells=[a]:=by
 cases t <;> simp only [TV.one,Bool.false_eq_true] at h1 <;> simp only [TV.ok] at hx
 ·obtain ⟨x,rfl,hx⟩:=hx
  obtain ⟨h2,h3,h4⟩:=flat_ok hx h1
  refine ⟨h2,?_⟩
  show x.cells.map A.d=_
  rw [h3]; rfl
 ·subst hx; exact ⟨rfl,rfl⟩
 ·rcases hx with ⟨xs,rfl,_⟩ | ⟨ver,n,xs,fz,rfl,_⟩ <;> exact ⟨rfl,rfl⟩
 ·rcases hx with (⟨xs,rfl,_⟩ | ⟨ver,n,xs,fz,rfl,_⟩) | ⟨xs,rfl,_⟩ <;> exact ⟨rfl,rfl⟩
 ·obtain ⟨ver,cs,rfl,_⟩:=hx; exact ⟨rfl,rfl⟩
 ·obtain ⟨xs,i,x,rfl,_⟩:=hx; exact ⟨rfl,rfl⟩
 ·obtain ⟨zs,rfl,_⟩:=hx; exact ⟨rfl,rfl⟩
 ·rcases hx with ⟨xs,i,x,rfl,_⟩ | ⟨ver,n,xs,fz,i,x,rfl,_⟩ <;> exact ⟨rfl,rfl⟩
theorem ones_ok {C:Cx} {h:Id→O}:∀ {ts:List TV} {zs:List A},TV.oks C h ts zs→ts.all TV.one=true→zs.all A.one=true
 | [],zs,hx,_=>by simp only [TV.oks] at hx; subst hx; rfl
 | t :: ts,zs,hx,h1=>by
  simp only [TV.oks] at hx
  obtain ⟨a,l,rfl,h2,h3⟩:=hx
  rw [List.all_cons,Bool.and_eq_true] at h1 ⊢
  exact ⟨(one_ok h2 h1.1).1,ones_ok h3 h1.2⟩
theorem oks_map_c {C:Cx} {h:Id→O}:∀ {ts:List Ty} {ds:List D},ShL C.R ts ds→TV.oks C h (ts.map .c) (ds.map .d)
 | [],ds,hx=>by simp only [ShL] at hx; subst hx; simp [TV.oks]
 | t :: ts,ds,hx=>by
  simp only [ShL] at hx
  obtain ⟨x,l,rfl,h2,h3⟩:=hx
  simp only [List.map_cons,TV.oks]
  exact ⟨_,_,rfl,by simp only [TV.ok]; exact ⟨x,rfl,h2⟩,oks_map_c h3⟩
def cellsTV (E:Nat→Option (List Ty)):TV→Option (List TV)
 | .c (.st ts)=>if ts.all Ty.flat then some (ts.map .c) else none
 | .c (.nm i)=>match E i with | some ts=>if ts.all Ty.flat then some (ts.map .c) else none | none=>none
 | .ag l=>if l.all TV.one then some l else none
 | t=>if t.one then some [t] else none
theorem all_flat {ts:List Ty} (h:ts.all Ty.flat=true):(ts.map TV.c).all TV.one=true:=by
 rw [List.all_map]
 exact h
theorem cellsTV_ok {C:Cx} (hC:C.Ok) {h:Id→O} {t:TV} {a:A} {l:List TV} (hx:TV.ok C h t a) (hl:cellsTV C.E t=some l):TV.oks C h l a.cells∧a.cells.all A.one=true∧a.cells.length=l.length∧a.parts=a.cells:=by
 have fin:TV.oks C h l a.cells→l.all TV.one=true→a.parts=a.cells→TV.oks C h l a.cells∧a.cells.all A.one=true∧a.cells.length=l.length∧a.parts=a.cells :=
  fun h1 h2 h3=>⟨h1,ones_ok h1 h2,oks_len h1,h3⟩
 unfold cellsTV at hl
 split at hl
 ·rename_i ts
  split at hl
  ·rename_i hf
   cases hl
   simp only [TV.ok] at hx
   obtain ⟨x,rfl,hx⟩:=hx
   simp only [ShT] at hx
   obtain ⟨ds,rfl,hx⟩:=hx
   exact fin (oks_map_c hx) (all_flat hf) rfl
  ·cases hl
 ·rename_i i
  split at hl
  ·rename_i ts hts
   split at hl
   ·rename_i hf
    cases hl
    simp only [TV.ok] at hx
    obtain ⟨x,rfl,hx⟩:=hx
    simp only [ShT] at hx
    obtain ⟨ts',ds,e1,rfl,hx⟩:=hC.rel.unf _ _ hx
    rw [hts] at e1; cases e1
    exact fin (oks_map_c hx) (all_flat hf) rfl
   ·cases hl
  ·cases hl
 ·rename_i l'
  split at hl
  ·rename_i hf
   cases hl
   simp only [TV.ok] at hx
   refine fin hx.2 hf ?_
   have:=hx.1
   cases a <;> first | rfl | cases this
  ·cases hl
 ·split at hl
  ·rename_i hone
   cases hl
   have h1:=one_ok hx hone
   refine fin ?_ (by simp [hone]) ?_
   ·rw [h1.2]; simp only [TV.oks]; exact ⟨a,[],rfl,hx,rfl⟩
   ·have:=h1.1
    cases a <;> first | rfl | cases this
  ·cases hl
def cellF (E:Nat→Option (List Ty)) (σ:SS) (x:Operand) (g:Nat→AP) (l:List TV):List (AP × AP) × List Fact :=
 match x with
 | .tmp s=>if s < σ.n then (if l.length=1 && (opTV σ x).one then ([((0,s,0),g 0)],eqNew (0,s,0) (g 0) (opTV σ x)) else linkC σ.fs (fun c=>(1,s,c)) g 0 l) else ([],[])
 | .const (.agg _) | .const (.tuple _)=>([],[])
 | .const v=>([],cstFs (g 0) v)
 | _=>([],[])
theorem cellF_ok {C:Cx} (hC:C.Ok) {σ:SS} {st:St} (g:Ga C σ st) {x:Operand} {f:Nat→AP} {l:List TV} (hl:cellsTV C.E (opTV σ x)=some l) {v:AP→A} (hv:Now C st v)
  (hf:∀ c,c < l.length→v (f c)=(st.ev x).cells.getD c .any):(∀ p ∈ (cellF C.E σ x f l).1,v p.1=v p.2)∧FOk v (cellF C.E σ x f l).2:=by
 have hno:(∀ p ∈ ([]:List (AP × AP)),v p.1=v p.2)∧FOk v []:=⟨fun p hp=>(by cases hp),fun p hp=>(by cases hp)⟩
 have hok:=opTV_ok g x
 have hc:=cellsTV_ok hC hok hl
 unfold cellF
 split
 ·rename_i s
  split
  ·rename_i hs
   rw [ev_tmp g hs] at hf hc hok
   split
   ·rename_i h1
    rw [Bool.and_eq_true] at h1
    have h2:=one_ok hok h1.2
    have e:v (0,s,0)=v (f 0):=by
     rw [hf 0 (by have:=of_decide_eq_true h1.1; omega),hv _ (by show 0 < 5; decide),h2.2]; rfl
    refine ⟨fun p hp=>?_,eqNew_ok e _⟩
    simp only [List.mem_singleton] at hp
    subst hp; exact e
   ·refine linkC_ok fun c _ h2=>?_
    rw [hf c (by omega),hv _ (by show 1 < 5; decide)]
    show (st.t s).parts.getD c .any=_
    rw [hc.2.2.2]
  ·exact hno
 ·exact hno
 ·exact hno
 ·rename_i y hy1 hy2
  refine ⟨hno.1,cstFs_ok ?_⟩
  have e:st.ev (.const y)=ofCell y:=by
   cases y with
   | agg cs=>exact absurd rfl (hy1 cs)
   | tuple cs=>exact absurd rfl (hy2 cs)
   | _=>rfl
  have hone:(valTV y).one=true:=by
   show TV.one (valTV y)=true
   unfold cellsTV at hl
   show TV.one (opTV σ (.const y))=true
   split at hl
   ·rename_i ts h3
    have h3:valTV y=_:=h3
    unfold valTV at h3
    split at h3 <;> cases h3
   ·rename_i ts h3
    have h3:valTV y=_:=h3
    unfold valTV at h3
    split at h3 <;> cases h3
   ·rename_i ts h3
    have h3:valTV y=_:=h3
    unfold valTV at h3
    split at h3 <;> cases h3
   ·split at hl
    ·assumption
    ·cases hl
  have h2:=one_ok hok hone
  have hlen:0 < l.length:=by rw [← hc.2.2.1,h2.2]; exact Nat.zero_lt_one
  rw [hf 0 hlen,h2.2,← e]
  rfl
 ·exact hno
theorem out_mk1 {C:Cx} (hC:C.Ok) {X:Orc} {σ:SS} {st:St} (g:Ga C σ st) {o:Oper} {j:Nat} (hdst:o.dst=some j) {a:A} {rd:List Id} {ob:O} {t:TV} {bx:Option (List TV)} {cp:List (AP × AP)} {new:List Fact} {ps:List Nat} {bc:List A}
  (he:opE C.P X st.d st.ev st.h (st.d,o.dst.getD st.n) o=some { v:=a,rd:=rd,wr:=[((C.d,j),ob)] }) (ht:TV.ok C (upd st.h (C.d,j) ob) t a) (hrd:∀ i ∈ rd,slotC C i ∈ ps)
  (hbc:∀ c,boxCell ob c=bc.getD c .any) (hbx:∀ ts,bx=some ts→∃ ver,ob = .box ver bc∧TV.oks C st.h ts bc) {w:Option Ty} (hw:∀ u,w=some u→∃ ver ds,ob = .box ver (ds.map A.d)∧ShT C.R u (.agg ds))
  (hf:∀ v,New C st a bc v→(∀ p ∈ cp,v p.1=v p.2)∧FOk v new):OpOk C X σ st o { act:=.mk t [] bx cp new w,rd:=ps,wr:=[j + 1] }:=by
 intro σ' h
 rw [hdst] at h
 cases h
 refine ⟨_,he,?_,⟨?_,?_,?_⟩,?_⟩
 ·show ((C.d == st.d || _) && okW st.d st.al [])=true
  rw [g.d]; simp [okW]
 ·intro x hx
  obtain ⟨i,hi,rfl⟩:=List.mem_map.1 hx
  exact hrd i hi
 ·intro x hx
  simp only [sigE,List.map_cons,List.map_nil,List.mem_singleton] at hx
  subst hx
  simp [slotC_own]
 ·intro hx; cases hx
 ·rw [hdst]
  have hout:∀ id,({ v:=a,rd:=rd,wr:=[((C.d,j),ob)] }:Eff).out st.h id=upd st.h (C.d,j) ob id:=fun _=>rfl
  refine mk_ok (w:=w) (e:={ v:=a,rd:=rd,wr:=[((C.d,j),ob)] }) hC g (bc:=bc) ?_ ?_ ?_ ?_ ?_ ht ?_ ?_ (fun v hv=>(hf v hv).1) (fun v hv=>(hf v hv).2)
  ·intro q hq
   rw [hout,upd_at,if_neg (fun h=>hq (by rw [at_inj hC h]; simp))]
   exact Fz_refl _
  ·intro id hid
   rw [hout,upd_at,if_neg (by rintro rfl; exact Nat.lt_irrefl _ hid)]
  ·intro i c hi
   rw [hout,upd_at,if_neg (fun h=>hi (Prod.mk.inj h).2)]
  ·intro c
   rw [hout,upd_at,if_pos rfl]
   exact hbc c
  ·intro k c
   rw [hout,upd_at,if_neg (fun h=>hC.dis k (congrArg Prod.fst h))]
  ·intro ts hts
   obtain ⟨ver,h1,h2⟩:=hbx ts hts
   exact ⟨ver,by rw [hout,upd_at,if_pos rfl]; exact h1,h2⟩
  ·intro u hu
   obtain ⟨ver,ds,h1,h2⟩:=hw u hu
   exact ⟨ver,ds,by rw [hout,upd_at,if_pos rfl]; exact h1,h2⟩
def nmOf:TV→Option Ty
 | .c (.nm i)=>some (.nm i)
 | _=>none
theorem nmOf_ok {C:Cx} (hC:C.Ok) {h:Id→O} {t:TV} {a:A} (hx:TV.ok C h t a) {u:Ty} (hu:nmOf t=some u):∃ ds:List D,a.cells=ds.map A.d∧ShT C.R u (.agg ds):=by
 unfold nmOf at hu
 split at hu
 ·rename_i i
  cases hu
  simp only [TV.ok] at hx
  obtain ⟨x,rfl,hx⟩:=hx
  simp only [ShT] at hx
  obtain ⟨ts,ds,_,rfl,_⟩:=hC.rel.unf _ _ hx
  exact ⟨ds,rfl,hx⟩
 ·cases hu
def sBox (P:Program) (E:Nat→Option (List Ty)) (σ:SS) (dst:Option Nat) (t:TypeId) (x:Operand):Option Out :=
 match dst,cellsTV E (opTV σ x) with
 | some j,some l =>
  if tsize P t == some l.length then
   let f:=cellF E σ x (fun c=>(7,c,0)) l
   some { act:=.mk (.bp (true,j) 0) [] (some l) f.1 f.2 (nmOf (opTV σ x)),rd:=[j + 1],wr:=[j + 1] }
  else none
 | _,_=>none
theorem sBox_ok {C:Cx} (hC:C.Ok) {X:Orc} {σ:SS} {st:St} (g:Ga C σ st) {o:Oper} {t:TypeId} {x:Operand} (ho:o.op = .box t x) {out:Out} (h:sBox C.P C.E σ o.dst t x=some out):OpOk C X σ st o out:=by
 unfold sBox at h
 split at h
 ·rename_i j l hdst hl
  split at h
  ·rename_i hts
   cases h
   have hts:=eq_of_beq hts
   have hok:=opTV_ok g x
   have hc:=cellsTV_ok hC hok hl
   have hd:(st.d,o.dst.getD st.n)=(C.d,j):=by rw [hdst,g.d]; rfl
   refine out_mk1 hC g hdst (a:=.bp (C.d,j) ((st.h (C.d,j)).ver + 1) 0) (rd:=[(C.d,j)]) (ob:=.box ((st.h (C.d,j)).ver + 1) (st.ev x).cells) (bc:=(st.ev x).cells) ?_ ?_ ?_ ?_ ?_ ?_ ?_
   ·rw [hd]
    obtain ⟨dst,op,ty,pos,af,gd⟩:=o
    simp only at ho
    subst ho
    show (if tsize C.P t=some (st.ev x).cells.length∧(st.ev x).cells.all A.one then _ else _)=_
    rw [if_pos ⟨by rw [hts,hc.2.2.1],hc.2.1⟩]
   ·simp only [TV.ok]
    exact ⟨_,_,rfl,by rw [show C.at (true,j)=(C.d,j) from rfl,upd_at,if_pos rfl]⟩
   ·intro i hi
    simp only [List.mem_singleton] at hi
    subst hi
    simp [slotC_own]
   ·intro c; rfl
   ·intro ts hts; cases hts; exact ⟨_,rfl,hc.1⟩
   ·intro u hu
    obtain ⟨ds,k1,k2⟩:=nmOf_ok hC hok hu
    exact ⟨_,ds,by rw [k1],k2⟩
   ·intro v hv
    exact cellF_ok hC g hl hv.now fun c _=>hv.nb c 0
  ·cases h
 ·cases h
def zeroFs:Nat→List Value→List Fact
 | _,[]=>[]
 | k,v :: l=>cstFs (7,k,0) v ++ zeroFs (k + 1) l
theorem zeroFs_ok {v:AP→A}:∀ {l:List Value} {k:Nat},(∀ c,c < l.length→∀ x,l[c]? = some x→v (7,k + c,0)=ofCell x)→FOk v (zeroFs k l)
 | [],k,h=>fun f hf=>by cases hf
 | x :: l,k,h=>fun f hf=>by
  rcases List.mem_append.1 hf with hf | hf
  ·exact cstFs_ok (h 0 (by simp) x (by simp)) f hf
  ·exact zeroFs_ok (l:=l) (k:=k + 1) (fun c hc y hy=>by
    have:=h (c + 1) (by simp; omega) y (by simpa using hy)
    rw [show k + 1 + c=k + (c + 1) by omega]; exact this) f hf
theorem oks_vals (C:Cx) (h:Id→O):∀ l:List Value,TV.oks C h (l.map valTV) (l.map ofCell)
 | []=>by simp [TV.oks]
 | v :: l=>by
  simp only [List.map_cons,TV.oks]
  exact ⟨_,_,rfl,valTV_ok C h v,oks_vals C h l⟩
def sAlloc (P:Program) (dst:Option Nat) (t:TypeId):Option Out :=
 match dst,tzero P t with
 | some j,some z=>some { act:=.mk (.bp (true,j) 0) [] (some (z.cells.toList.map valTV)) [] (zeroFs 0 z.cells.toList),rd:=[j + 1],wr:=[j + 1] }
 | _,_=>none
theorem sAlloc_ok {C:Cx} (hC:C.Ok) {X:Orc} {σ:SS} {st:St} (g:Ga C σ st) {o:Oper} {t:TypeId} (ho:o.op = .alloc t) {out:Out} (h:sAlloc C.P o.dst t=some out):OpOk C X σ st o out:=by
 unfold sAlloc at h
 split at h
 ·rename_i j z hdst hz
  cases h
  have hd:(st.d,o.dst.getD st.n)=(C.d,j):=by rw [hdst,g.d]; rfl
  refine out_mk1 hC g hdst (a:=.bp (C.d,j) ((st.h (C.d,j)).ver + 1) 0) (rd:=[(C.d,j)]) (ob:=.box ((st.h (C.d,j)).ver + 1) (z.cells.toList.map ofCell)) (bc:=z.cells.toList.map ofCell) ?_ ?_ ?_ ?_ ?_ ?_ ?_
  ·rw [hd]
   obtain ⟨dst,op,ty,pos,af,gd⟩:=o
   simp only at ho
   subst ho
   show (tzero C.P t).map _=_
   rw [hz]; rfl
  ·simp only [TV.ok]
   exact ⟨_,_,rfl,by rw [show C.at (true,j)=(C.d,j) from rfl,upd_at,if_pos rfl]⟩
  ·intro i hi
   simp only [List.mem_singleton] at hi
   subst hi
   simp [slotC_own]
  ·intro c; rfl
  ·intro ts hts; cases hts; exact ⟨_,rfl,oks_vals C st.h _⟩
  ·intro u hu; cases hu
  ·intro v hv
   refine ⟨fun p hp=>(by cases hp),zeroFs_ok fun c _ x hx=>?_⟩
   rw [Nat.zero_add,hv.nb,List.getD_eq_getElem?_getD,List.getElem?_map,hx]; rfl
 ·cases h
end
end
section
noncomputable section
def isC:TV→Option Ty
 | .c t=>if t.flat then some t else none
 | _=>none
def allC:List TV→Option (List Ty)
 | []=>some []
 | t :: l=>match isC t,allC l with | some u,some us=>some (u :: us) | _,_=>none
theorem allC_ok {C:Cx} {h:Id→O}:∀ {ts:List TV} {us:List Ty} {zs:List A},allC ts=some us→TV.oks C h ts zs→∃ ds,A.allD zs=some ds∧zs=ds.map .d∧ShL C.R us ds
 | [],us,zs,h,hx=>by
  simp only [allC,Option.some.injEq] at h
  simp only [TV.oks] at hx
  subst h hx
  exact ⟨[],rfl,rfl,by simp [ShL]⟩
 | t :: ts,us,zs,h,hx=>by
  simp only [TV.oks] at hx
  obtain ⟨a,l,rfl,h2,h3⟩:=hx
  unfold allC at h
  split at h
  ·rename_i u us' h4 h5
   cases h
   obtain ⟨ds,e1,e2,e3⟩:=allC_ok h5 h3
   unfold isC at h4
   split at h4
   ·rename_i t'
    split at h4
    ·rename_i hf
     cases h4
     simp only [TV.ok] at h2
     obtain ⟨x,rfl,h2⟩:=h2
     have hno:=(flat_ok h2 hf).2.2
     refine ⟨x :: ds,?_,by rw [e2]; rfl,by simp only [ShL]; exact ⟨x,ds,rfl,h2,e3⟩⟩
     cases x with
     | agg ds'=>exact absurd rfl (hno ds')
     | _=>simp [A.allD,e1]
    ·cases h4
   ·cases h4
  ·cases h
def mkTV (l:List TV):TV :=
 match allC l with
 | some us=>.c (.st us)
 | none=>.ag l
theorem mk_cells (l:List A):(A.mk l).cells=l∧(A.mk l).isAgg=true∧(A.mk l).parts=l:=by
 have key:∀ (l:List A) (ds:List D),A.allD l=some ds→ds.map A.d=l:=by
  intro l
  induction l with
  | nil=>intro ds h; simp only [A.allD,Option.some.injEq] at h; subst h; rfl
  | cons a l ih =>
   intro ds h
   cases a with
   | d x =>
    have go:(A.allD l).map (x :: ·)=some ds→ds.map A.d = .d x :: l:=by
     intro h
     cases hl:A.allD l with
     | none=>rw [hl] at h; cases h
     | some es=>rw [hl] at h; cases h; simp [ih es hl]
    cases x with
    | agg=>simp [A.allD] at h
    | _=>exact go (by simpa only [A.allD] using h)
   | _=>simp [A.allD] at h
 unfold A.mk
 split
 ·rename_i ds h
  have:=key l ds h
  exact ⟨this,rfl,this⟩
 ·exact ⟨rfl,rfl,rfl⟩
theorem mkTV_ok {C:Cx} {h:Id→O} {ts:List TV} {zs:List A} (hx:TV.oks C h ts zs):TV.ok C h (mkTV ts) (A.mk zs):=by
 unfold mkTV
 split
 ·rename_i us hu
  obtain ⟨ds,h1,h2,h3⟩:=allC_ok hu hx
  unfold A.mk
  rw [h1]
  simp only [TV.ok,ShT]
  exact ⟨_,rfl,_,rfl,h3⟩
 ·simp only [TV.ok]
  rw [(mk_cells zs).1]
  exact ⟨(mk_cells zs).2.1,hx⟩
theorem oks_drop {C:Cx} {h:Id→O}:∀ {ts:List TV} {zs:List A} (n:Nat),TV.oks C h ts zs→TV.oks C h (ts.drop n) (zs.drop n)
 | ts,zs,0,h=>by simpa using h
 | [],zs,n + 1,h=>by simp only [TV.oks] at h; subst h; simp [TV.oks]
 | u :: ts,zs,n + 1,h=>by
  simp only [TV.oks] at h
  obtain ⟨x,l,rfl,h2,h3⟩:=h
  simpa using oks_drop n h3
theorem oks_take {C:Cx} {h:Id→O}:∀ {ts:List TV} {zs:List A} (n:Nat),TV.oks C h ts zs→TV.oks C h (ts.take n) (zs.take n)
 | ts,zs,0,h=>by simp [TV.oks]
 | [],zs,n + 1,h=>by simp only [TV.oks] at h; subst h; simp [TV.oks]
 | u :: ts,zs,n + 1,h=>by
  simp only [TV.oks] at h
  obtain ⟨x,l,rfl,h2,h3⟩:=h
  simp only [List.take_succ_cons,TV.oks]
  exact ⟨x,_,rfl,h2,oks_take n h3⟩
theorem oks_app {C:Cx} {h:Id→O}:∀ {ts us:List TV} {zs ws:List A},TV.oks C h ts zs→TV.oks C h us ws→TV.oks C h (ts ++ us) (zs ++ ws)
 | [],us,zs,ws,h1,h2=>by simp only [TV.oks] at h1; subst h1; simpa using h2
 | t :: ts,us,zs,ws,h1,h2=>by
  simp only [TV.oks] at h1
  obtain ⟨a,l,rfl,h3,h4⟩:=h1
  simp only [List.cons_append,TV.oks]
  exact ⟨a,_,rfl,h3,oks_app h4 h2⟩
def takeTV (P:Program) (t:TypeId) (l:List TV):Option TV :=
 match tagg P t,tsize P t with
 | some true,some n=>if n ≤ l.length then some (mkTV (l.take n)) else none
 | some false,some _=>l.head?
 | _,_=>none
theorem takeTV_ok {C:Cx} {h:Id→O} {P:Program} {t:TypeId} {ts:List TV} {zs:List A} {u:TV} (hx:TV.oks C h ts zs) (hu:takeTV P t ts=some u):∃ a,takeVal P t zs=some a∧TV.ok C h u a ∧
  ((tagg P t=some true ∧ ∃ n,tsize P t=some n∧a=A.mk (zs.take n)) ∨ tagg P t=some false∧zs.head? = some a):=by
 have hlen:=oks_len hx
 unfold takeTV at hu
 unfold takeVal
 split at hu
 ·rename_i n h1 h2
  split at hu
  ·rename_i hn
   cases hu
   rw [h1,h2]
   simp only
   rw [if_pos (by omega)]
   exact ⟨_,rfl,mkTV_ok (oks_take n hx),Or.inl ⟨by simp,n,by simp,rfl⟩⟩
  ·cases hu
 ·rename_i m h1 h2
  rw [h1,h2]
  simp only
  cases ts with
  | nil=>cases hu
  | cons t' ts =>
   cases hu
   simp only [TV.oks] at hx
   obtain ⟨a,l,rfl,h3,h4⟩:=hx
   exact ⟨a,rfl,h3,Or.inr ⟨by simp,rfl⟩⟩
 ·cases hu
theorem apB_now {C:Cx} {st:St} {p:PL} {ver:Nat} {cs:List A} (hb:st.h (C.at p) = .box ver cs) {v:AP→A} (hv:Now C st v) (c:Nat):v (apB p c)=cs.getD c .any:=by
 obtain ⟨b,k⟩:=p
 cases b with
 | true =>
  rw [hv _ (by show 2 < 5; decide)]
  show boxCell (st.h (C.d,k)) c=_
  rw [show st.h (C.d,k)=_ from hb]; rfl
 | false =>
  rw [hv _ (by show 3 < 5; decide)]
  show boxCell (st.h (C.π k)) c=_
  rw [show st.h (C.π k)=_ from hb]; rfl
def GB (R:Nat→D→Prop) (v:AP→A):Prop:=(∀ m n,m < 500→R (9000 + m) (.agg [.s (.int .i64 n)])→0 ≤ n∧n < intA (v (4,3000 + m,0))) ∧ ∀ m n,m < 500→R (8000 + m) (.agg [.s (.int .i64 n)])→n=intA (v (4,3000 + m,0))
theorem gbOf {C:Cx} (hC:C.Ok) {st:St} {v:AP→A} (hv:Now C st v):GB C.R v:=⟨fun m n hm h=>by
 have h1:=(hC.ix m n hm).1 h
 rw [hv _ (by show 4 < 5; decide)]
 show 0 ≤ n∧n < C.gs (3000 + m)
 rw [hC.gb]; exact h1,fun m n hm h=>by
 have h1:=(hC.gx m n hm).1 h
 rw [hv _ (by show 4 < 5; decide)]
 show n=C.gs (3000 + m)
 rw [hC.gb]; exact h1⟩
def tyB (a:AP):Ty→List Fact
 | .lst _ b | .str b=>[.f (.le (2,a) zT (-b))]
 | .lsj _ _ b m=>[.f (.le (2,a) zT (-b)),.f (.le zT (1,4,3000 + m,0) 0),.f (.le (1,4,3000 + m,0) (2,a) 1)]
 | .ix m=>if m < 500 then [.f (.le zT (1,a) 0),.f (.le (1,a) (1,4,3000 + m,0) 1)] else []
 | _=>[]
theorem tyB_ok {R:Nat→D→Prop} {v:AP→A} (hg:GB R v) {a:AP} {t:Ty} {x:D} (h:ShT R t x) (ha:v a = .d x):FOk v (tyB a t):=by
 unfold tyB
 split
 ·intro f hf
  simp only [List.mem_singleton] at hf
  subst hf
  simp only [ShT] at h
  obtain ⟨xs,rfl,h1,_⟩:=h
  show lenA (v a) + _ ≤ 0
  rw [ha]
  show (xs.length:Int) + _ ≤ 0
  omega
 ·intro f hf
  simp only [List.mem_singleton] at hf
  subst hf
  simp only [ShT] at h
  obtain ⟨xs,rfl,h1⟩:=h
  show lenA (v a) + _ ≤ 0
  rw [ha]
  show (xs.size:Int) + _ ≤ 0
  omega
 ·rename_i b m
  simp only [ShT] at h
  obtain ⟨xs,rfl,h1,_,hm,n,y,h2,h3,_⟩:=h
  have e1:=hg.2 m n hm h2
  have e2:tv v (2,a)=xs.length:=by show lenA (v a)=_; rw [ha]; rfl
  have e3:tv v (1,4,3000 + m,0)=(n:Int):=e1.symm
  have z0:tv v zT=0:=rfl
  have e4:n < xs.length:=(List.getElem?_eq_some_iff.1 h3).1
  intro f hf
  simp only [List.mem_cons,List.not_mem_nil,or_false] at hf
  rcases hf with rfl | rfl | rfl <;> simp only [Fact.ok,LF.ok,e2,e3,z0] <;> omega
 ·rename_i m
  split
  rotate_left
  ·intro f hf; cases hf
  rename_i hm
  simp only [ShT] at h
  obtain ⟨n,rfl,h1⟩:=h
  have h2:=hg.1 m n hm h1
  have e:tv v (1,a)=n:=by show intA (v a)=n; rw [ha]; rfl
  have z0:tv v zT=0:=rfl
  intro f hf
  simp only [List.mem_cons,List.not_mem_nil,or_false] at hf
  rcases hf with rfl | rfl
  ·show tv v zT + 0 ≤ tv v (1,a); rw [e,z0]; omega
  ·show tv v (1,a) + 1 ≤ intA (v (4,3000 + m,0)); rw [e]; omega
 ·intro f hf; cases hf
def tyBs (g:Nat→AP):Nat→List Ty→List Fact
 | _,[]=>[]
 | k,t :: l=>tyB (g k) t ++ tyBs g (k + 1) l
theorem tyBs_ok {R:Nat→D→Prop} {v:AP→A} (hg:GB R v) {g:Nat→AP}:∀ {ts:List Ty} {ds:List D} {k:Nat},ShL R ts ds→(∀ c x,ds[c]? = some x→v (g (k + c)) = .d x)→FOk v (tyBs g k ts)
 | [],ds,k,h,hv=>fun f hf=>by cases hf
 | t :: ts,ds,k,h,hv=>fun f hf=>by
  simp only [ShL] at h
  obtain ⟨x,l,rfl,h2,h3⟩:=h
  rcases List.mem_append.1 hf with hf | hf
  ·exact tyB_ok hg h2 (hv 0 x (by simp)) f hf
  ·exact tyBs_ok hg h3 (k:=k + 1) (fun c y hy=>by
    have:=hv (c + 1) y (by simpa using hy)
    rw [show k + 1 + c=k + (c + 1) by omega]; exact this) f hf
def nfR (g:Nat→AP) (a:AP):AP:=if Nat.beq a.1 8 then g a.2.1 else a
def nfG (g:Nat→AP) (i:Nat):List Fact:=(nfTab i).map (Fact.ren (nfR g))
theorem nfG_ok {C:Cx} (hC:C.Ok) {v:AP→A} (hg:∀ m,intA (v (4,3000 + m,0))=C.bd m) {g:Nat→AP} {i:Nat} {ds:List D} (h:C.R i (.agg ds)) (hv:∀ c,v (g c)=(ds.map A.d).getD c .any):FOk v (nfG g i):=by
 intro f hf
 obtain ⟨f0,h0,rfl⟩:=List.mem_map.1 hf
 rw [Fact.ok_ren]
 exact hC.nf i ds h (fun a=>v (nfR g a)) (fun c=>hv c) (fun m=>hg m) f0 h0
theorem bdOf {C:Cx} (hC:C.Ok) {st:St} {v:AP→A} (hv:Now C st v) (m:Nat):intA (v (4,3000 + m,0))=C.bd m:=by
 rw [hv _ (by show 4 < 5; decide)]
 exact hC.gb m
def tyN (E:Nat→Option (List Ty)):Ty→List Fact
 | .st ts=>tyBs (fun c=>(6,c,0)) 0 ts
 | .nm i=>nfG (fun c=>(6,c,0)) i ++ (match E i with | some ts=>tyBs (fun c=>(6,c,0)) 0 ts | none=>[])
 | t=>tyB (5,0,0) t
theorem tyN_ok3 {C:Cx} (hC:C.Ok) {v:AP→A} (hg:GB C.R v) (hb:∀ m,intA (v (4,3000 + m,0))=C.bd m) {t:Ty} {x:D} (h:ShT C.R t x) (h5:v (5,0,0) = .d x) (h6:∀ c,v (6,c,0)=(A.d x).parts.getD c .any):FOk v (tyN C.E t):=by
 have agg:∀ ts ds,ShL C.R ts ds→x = .agg ds→FOk v (tyBs (fun c=>(6,c,0)) 0 ts):=by
  rintro ts ds h1 rfl
  refine tyBs_ok hg h1 fun c y hy=>?_
  show v (6,0 + c,0)=_
  rw [h6,List.getD_eq_getElem?_getD]
  show ((ds.map A.d)[0 + c]?).getD _=_
  rw [Nat.zero_add,List.getElem?_map,hy]; rfl
 cases t with
 | st ts =>
  simp only [ShT] at h
  obtain ⟨ds,e,h5⟩:=h
  exact agg _ ds h5 e
 | nm i =>
  simp only [ShT] at h
  obtain ⟨ts,ds,e1,e2,h5⟩:=hC.rel.unf _ _ h
  intro f hf
  simp only [tyN] at hf
  rcases List.mem_append.1 hf with hf | hf
  ·subst e2
   exact nfG_ok hC hb h (g:=fun c=>(6,c,0)) h6 f hf
  ·rw [e1] at hf
   exact agg ts ds h5 e2 f hf
 | _=>exact tyB_ok hg h h5
theorem tyN_ok {C:Cx} (hC:C.Ok) {st:St} {bc:List A} {v:AP→A} {t:Ty} {x:D} (h:ShT C.R t x) (hv:New C st (.d x) bc v):FOk v (tyN C.E t) :=
 tyN_ok3 hC (gbOf hC hv.now) (bdOf hC hv.now) h (hv.nv 0 0) fun c=>hv.nc c 0
def elTy (E:Nat→Option (List Ty)):Ty→List Ty
 | .st ts=>ts
 | .nm i=>(E i).getD []
 | t=>[t]
theorem elTy_ok {C:Cx} (hC:C.Ok) {t:Ty} {x:D} (h:ShT C.R t x):ShL C.R (elTy C.E t) x.cells:=by
 cases t with
 | st ts=>simp only [ShT] at h; obtain ⟨ds,rfl,h5⟩:=h; exact h5
 | nm i =>
  simp only [ShT] at h
  obtain ⟨ts,ds,e1,rfl,h5⟩:=hC.rel.unf _ _ h
  simp only [elTy,e1,Option.getD_some]
  exact h5
 | _ =>
  have:=(flat_ok h rfl).2.1
  rw [this]
  simp only [elTy,ShL]
  exact ⟨x,[],rfl,h,rfl⟩
def takeTy (P:Program) (t:TypeId) (l:List Ty):Option Ty :=
 match tagg P t,tsize P t with
 | some true,some n=>if n ≤ l.length∧(l.take n).all Ty.flat then some (.st (l.take n)) else none
 | some false,some _=>match l.head? with | some t=>if t.flat then some t else none | none=>none
 | _,_=>none
theorem allD_flat {R:Nat→D→Prop}:∀ {ts:List Ty} {ds:List D},ShL R ts ds→ts.all Ty.flat=true→A.allD (ds.map .d)=some ds
 | [],ds,h,_=>by simp only [ShL] at h; subst h; rfl
 | t :: ts,ds,h,hf=>by
  simp only [ShL] at h
  obtain ⟨x,l,rfl,h2,h3⟩:=h
  rw [List.all_cons,Bool.and_eq_true] at hf
  have ih:=allD_flat h3 hf.2
  have hno:=(flat_ok h2 hf.1).2.2
  cases x with
  | agg ds'=>exact absurd rfl (hno ds')
  | _=>simp [A.allD,ih]
theorem takeTy_ok {R:Nat→D→Prop} {P:Program} {t:TypeId} {ts:List Ty} {ds:List D} {u:Ty} (hx:ShL R ts ds) (hu:takeTy P t ts=some u):∃ x,takeVal P t (ds.map .d)=some (.d x)∧ShT R u x:=by
 have hlen:=ShL_len hx
 unfold takeTy at hu
 unfold takeVal
 split at hu
 ·rename_i n h1 h2
  split at hu
  ·rename_i hn
   cases hu
   rw [h1,h2]
   simp only
   rw [if_pos (by simp; omega),← List.map_take]
   have h3:=ShL_take n hx
   refine ⟨.agg (ds.take n),?_,by simp only [ShT]; exact ⟨_,rfl,h3⟩⟩
   unfold A.mk
   rw [allD_flat h3 hn.2]
  ·cases hu
 ·rename_i m h1 h2
  rw [h1,h2]
  simp only
  cases ts with
  | nil=>cases hu
  | cons t' ts =>
   simp only [List.head?_cons] at hu
   split at hu
   ·cases hu
    simp only [ShL] at hx
    obtain ⟨x,l,rfl,h3,h4⟩:=hx
    exact ⟨x,rfl,h3⟩
   ·cases hu
 ·cases hu
theorem FOkA8 {v:AP→A} {a b:List Fact} (ha:FOk v a) (hb:FOk v b):FOk v (a ++ b):=fun f hf=>by
 rcases List.mem_append.1 hf with hf | hf
 ·exact ha f hf
 ·exact hb f hf
def sWhole (P:Program) (E:Nat→Option (List Ty)) (σ:SS) (t:TypeId) (x:Operand):Option Out :=
 match tagg P t,tsize P t with
 | some true,some n =>
  match opTV σ x with
  | .bp p 0 =>
   match σ.wh.find? fun q=>q.1 == p with
   | some q =>
    if q.2.sz E == n && (elTy E q.2).all Ty.flat then
     let f:=linkC σ.fs (fun c=>apB p c) (fun c=>(6,c,0)) 0 ((elTy E q.2).map .c)
     some { act:=.wr (.c q.2) f.1 (tyN E q.2 ++ f.2),rd:=[sN p] } else none
   | none=>none
  | .ep e 0=>if (nmOf (.c e)).isSome && e.sz E == n && (elTy E e).all Ty.flat then some { act:=.wr (.c e) [] (tyN E e) } else none
  | _=>none
 | _,_=>none
def Ty.wk:Ty→Ty
 | .ix _=>.int .i64
 | t=>t
theorem wk_ok {R:Nat→D→Prop} {t:Ty} {x:D} (h:ShT R t x):ShT R t.wk x:=by
 cases t <;> first | exact h | (simp only [ShT] at h; obtain ⟨n,rfl,_⟩:=h; exact ⟨n,rfl⟩)
def sLoad (P:Program) (E:Nat→Option (List Ty)) (σ:SS) (t:TypeId) (x:Operand):Option Out :=
 match sWhole P E σ t x with
 | some out=>some out
 | none =>
 match opTV σ x with
 | .bp p off =>
  match σ.hp.find? fun q=>q.1 == p with
  | some q =>
   match takeTV P t (q.2.drop off) with
   | some u =>
    let f:=match tagg P t with
     | some true=>linkC σ.fs (fun c=>apB p (off + c)) (fun c=>(6,c,0)) 0 ((q.2.drop off).take ((tsize P t).getD 0))
     | _=>([(apB p off,(5,0,0))],eqNew (apB p off) (5,0,0) u)
    some { act:=.wr u f.1 f.2,rd:=[sN p] }
   | none=>none
  | none=>none
 | .ep e off =>
  match takeTy P t ((elTy E e).drop off) with
  | some u=>some { act:=.wr (.c u.wk) [] (tyN E u) }
  | none=>none
 | .el p e off =>
  match takeTy P t ((elTy E e).drop off) with
  | some u=>some { act:=.wr (.c u.wk) [] (tyN E u),rd:=[sN p] }
  | none=>none
 | _=>none
theorem take_whole {C:Cx} (hC:C.Ok) {P:Program} {t:TypeId} {n:Nat} (h1:tagg P t=some true) (h2:tsize P t=some n) {u:Ty} {ds:List D} (hu:ShT C.R u (.agg ds)) (hn:u.sz C.E=n) (hf:(elTy C.E u).all Ty.flat=true):takeVal P t (ds.map A.d)=some (.d (.agg ds)):=by
 have hlen:=hu.sz hC.rel
 have hlen:ds.length=n:=by rw [← hn]; exact hlen
 unfold takeVal
 rw [h1,h2]
 simp only
 rw [if_pos (by simp [hlen]),List.take_of_length_le (by simp [hlen])]
 unfold A.mk
 have h5:A.allD (ds.map A.d)=some ds:=allD_flat (elTy_ok hC hu) hf
 rw [h5]
theorem sWhole_ok {C:Cx} (hC:C.Ok) {X:Orc} {σ:SS} {st:St} (g:Ga C σ st) {o:Oper} {t:TypeId} {x:Operand} (ho:o.op = .load t x) {out:Out} (h:sWhole C.P C.E σ t x=some out):OpOk C X σ st o out:=by
 have hop:opE C.P X st.d st.ev st.h (st.d,o.dst.getD st.n) o=loadE C.P st.h t (st.ev x):=by
  obtain ⟨dst,op,ty,pos,af,gd⟩:=o
  simp only at ho
  subst ho; rfl
 have hok:=opTV_ok g x
 unfold sWhole at h
 split at h
 ·rename_i n hag hsz
  split at h
  ·rename_i p hp
   rw [hp] at hok
   simp only [TV.ok] at hok
   obtain ⟨ver,cs,he,hb⟩:=hok
   split at h
   ·rename_i q hq
    split at h
    ·rename_i hc
     rw [Bool.and_eq_true] at hc
     have hc1:q.2.sz C.E=n:=eq_of_beq hc.1
     cases h
     obtain ⟨v2,ds,k1,k2⟩:=g.wh q (List.mem_of_find?_eq_some hq)
     have hq2:q.1=p:=by simpa using List.find?_some hq
     rw [hq2,hb] at k1
     cases k1
     refine out_val hC g (a:=.d (.agg ds)) (rd:=[C.at p]) ?_ ?_ ?_ fun v hv=>?_
     ·rw [hop,he]
      simp only [loadE,hb,if_true,List.drop_zero,take_whole hC hag hsz k2 hc1 hc.2,Option.map_some]
     ·simp only [TV.ok]; exact ⟨_,rfl,k2⟩
     ·intro i hi
      simp only [List.mem_singleton] at hi
      subst hi
      rw [sN_at hC]; simp
     ·have hl:=linkC_ok (v:=v) (fs:=σ.fs) (f:=fun c=>apB p c) (g:=fun c=>(6,c,0)) (l:=(elTy C.E q.2).map .c) (k:=0) fun c _ _=>by
       show v (apB p c)=v (6,c,0)
       rw [apB_now hb hv.now,hv.nc]; rfl
      exact ⟨hl.1,FOkA8 (tyN_ok hC k2 hv) hl.2⟩
    ·cases h
   ·cases h
  ·rename_i e hp
   rw [hp] at hok
   simp only [TV.ok] at hok
   obtain ⟨xs,i,y,he,hy,hs⟩:=hok
   split at h
   ·rename_i hc
    rw [Bool.and_eq_true,Bool.and_eq_true] at hc
    have hc1:e.sz C.E=n:=eq_of_beq hc.1.2
    cases h
    obtain ⟨u,hu⟩:=Option.isSome_iff_exists.1 hc.1.1
    have hag2:∃ ds,y = .agg ds:=by
     cases e <;> simp [nmOf] at hu
     simp only [ShT] at hs
     obtain ⟨ts,ds,_,rfl,_⟩:=hC.rel.unf _ _ hs
     exact ⟨ds,rfl⟩
    obtain ⟨ds,rfl⟩:=hag2
    refine out_val hC g (a:=.d (.agg ds)) (rd:=[]) ?_ ?_ (fun _ hi=>by cases hi) fun v hv=>⟨fun p hp=>(by cases hp),tyN_ok hC hs hv⟩
    ·rw [hop,he]
     simp only [loadE,hy,Option.bind_some,List.drop_zero]
     show (takeVal C.P t (ds.map A.d)).map _=_
     rw [take_whole hC hag hsz hs hc1 hc.2]; rfl
    ·simp only [TV.ok]; exact ⟨_,rfl,hs⟩
   ·cases h
  ·cases h
 ·cases h
theorem sLoad_ok {C:Cx} (hC:C.Ok) {X:Orc} {σ:SS} {st:St} (g:Ga C σ st) {o:Oper} {t:TypeId} {x:Operand} (ho:o.op = .load t x) {out:Out} (h:sLoad C.P C.E σ t x=some out):OpOk C X σ st o out:=by
 have hop:opE C.P X st.d st.ev st.h (st.d,o.dst.getD st.n) o=loadE C.P st.h t (st.ev x):=by
  obtain ⟨dst,op,ty,pos,af,gd⟩:=o
  simp only at ho
  subst ho; rfl
 have hok:=opTV_ok g x
 unfold sLoad at h
 split at h
 ·rename_i out' hw
  cases h
  exact sWhole_ok hC g ho hw
 split at h
 ·rename_i p off hp
  rw [hp] at hok
  simp only [TV.ok] at hok
  obtain ⟨ver,cs,he,hb⟩:=hok
  split at h
  ·rename_i q hq
   have hq1:=g.hp q (List.mem_of_find?_eq_some hq)
   have hq2:q.1=p:=by simpa using List.find?_some hq
   rw [hq2] at hq1
   obtain ⟨ver',cs',hb',hcs⟩:=hq1
   rw [hb] at hb'
   cases hb'
   split at h
   ·rename_i u hu
    cases h
    obtain ⟨a,h1,h2,h3⟩:=takeTV_ok (oks_drop off hcs) hu
    refine out_val hC g (a:=a) (rd:=[C.at p]) ?_ h2 ?_ ?_
    ·rw [hop,he]
     simp only [loadE,hb,if_true,h1,Option.map_some]
    ·intro i hi
     simp only [List.mem_singleton] at hi
     subst hi
     rw [sN_at hC]; simp
    ·intro v hv
     rcases h3 with ⟨e1,n,e2,rfl⟩ | ⟨e1,e2⟩
     ·rw [e1,e2]
      simp only [Option.getD_some]
      refine linkC_ok fun c _ hc=>?_
      simp only [List.length_take,Nat.zero_add] at hc
      rw [apB_now hb hv.now,hv.nc,(mk_cells _).2.2]
      rw [List.getD_eq_getElem?_getD,List.getD_eq_getElem?_getD,List.getElem?_take,if_pos (by omega),List.getElem?_drop]
     ·rw [e1]
      have e:v (apB p off)=v (5,0,0):=by
       rw [apB_now hb hv.now,hv.nv,List.getD_eq_getElem?_getD]
       rw [List.head?_drop] at e2
       rw [e2]; rfl
      refine ⟨fun p hp=>?_,eqNew_ok e _⟩
      simp only [List.mem_singleton] at hp
      subst hp; exact e
   ·cases h
  ·cases h
 ·rename_i e off hp
  rw [hp] at hok
  simp only [TV.ok] at hok
  obtain ⟨xs,i,y,he,hy,hs⟩:=hok
  split at h
  ·rename_i u hu
   cases h
   obtain ⟨z,h1,h2⟩:=takeTy_ok (ShL_drop off (elTy_ok hC hs)) hu
   refine out_val hC g (a:=.d z) (rd:=[]) ?_ ?_ (fun _ hi=>by cases hi) fun v hv=>⟨fun p hp=>(by cases hp),tyN_ok hC h2 hv⟩
   ·rw [hop,he]
    simp only [loadE,hy,Option.bind_some]
    rw [List.map_drop] at h1
    rw [h1]; rfl
   ·simp only [TV.ok]; exact ⟨z,rfl,wk_ok h2⟩
  ·cases h
 ·rename_i p e off hp
  rw [hp] at hok
  simp only [TV.ok] at hok
  split at h
  ·rename_i u hu
   cases h
   rcases hok with ⟨xs,i,y,he,hy,hs⟩ | ⟨ver,n,xs,fz,i,y,he,hb,hy,hs⟩
   ·obtain ⟨z,h1,h2⟩:=takeTy_ok (ShL_drop off (elTy_ok hC hs)) hu
    refine out_val hC g (a:=.d z) (rd:=[]) ?_ ?_ (fun _ hi=>by cases hi) fun v hv=>⟨fun p hp=>(by cases hp),tyN_ok hC h2 hv⟩
    ·rw [hop,he]
     simp only [loadE,hy,Option.bind_some]
     rw [List.map_drop] at h1
     rw [h1]; rfl
    ·simp only [TV.ok]; exact ⟨z,rfl,wk_ok h2⟩
   ·obtain ⟨z,h1,h2⟩:=takeTy_ok (ShL_drop off (elTy_ok hC hs)) hu
    refine out_val hC g (a:=.d z) (rd:=[C.at p]) ?_ ?_ ?_ fun v hv=>⟨fun p hp=>(by cases hp),tyN_ok hC h2 hv⟩
    ·rw [hop,he]
     simp only [loadE,hb,if_true,hy,Option.bind_some]
     rw [List.map_drop] at h1
     rw [h1]; rfl
    ·simp only [TV.ok]; exact ⟨z,rfl,wk_ok h2⟩
    ·intro i hi
     simp only [List.mem_singleton] at hi
     subst hi
     rw [sN_at hC]; simp
  ·cases h
 ·cases h
def sField (P:Program) (σ:SS) (s:TypeId) (x:Operand) (f:Nat):Option Out :=
 match P.underlying s with
 | some (.struct fs) =>
  match (fs[f]?:Option Field) with
  | some fd =>
   match tsize P fd.type with
   | some (_ + 1) =>
    match opTV σ x with
    | .bp p off=>some { act:=.wr (.bp p (off + fd.offset)) [] [] }
    | .ep e off=>some { act:=.wr (.ep e (off + fd.offset)) [] [] }
    | .el p e off=>some { act:=.wr (.el p e (off + fd.offset)) [] [] }
    | _=>none
   | _=>none
  | none=>none
 | _=>none
theorem sField_ok {C:Cx} (hC:C.Ok) {X:Orc} {σ:SS} {st:St} (g:Ga C σ st) {o:Oper} {s:TypeId} {x:Operand} {f:Nat} (ho:o.op = .fieldAddr s x f) {out:Out} (h:sField C.P σ s x f=some out):OpOk C X σ st o out:=by
 have hop:opE C.P X st.d st.ev st.h (st.d,o.dst.getD st.n) o=fieldAddrE C.P s (st.ev x) f:=by
  obtain ⟨dst,op,ty,pos,af,gd⟩:=o
  simp only at ho
  subst ho; rfl
 have hok:=opTV_ok g x
 have hno:∀ (v:AP→A),(∀ p ∈ ([]:List (AP × AP)),v p.1=v p.2)∧FOk v []:=fun v=>⟨fun p hp=>(by cases hp),fun p hp=>(by cases hp)⟩
 unfold sField at h
 split at h
 ·rename_i fs hfs
  split at h
  ·rename_i fd hfd
   split at h
   ·rename_i n hn
    split at h
    ·rename_i p off hp
     cases h
     rw [hp] at hok
     simp only [TV.ok] at hok
     obtain ⟨ver,cs,he,hb⟩:=hok
     refine out_val hC g (a:=.bp (C.at p) ver (off + fd.offset)) (rd:=[]) ?_ ?_ (fun _ hi=>by cases hi) fun v _=>hno v
     ·rw [hop,he]; simp only [fieldAddrE,hfs,hfd,hn]
     ·simp only [TV.ok]; exact ⟨ver,cs,rfl,hb⟩
    ·rename_i e off hp
     cases h
     rw [hp] at hok
     simp only [TV.ok] at hok
     obtain ⟨xs,i,y,he,hy,hs⟩:=hok
     refine out_val hC g (a:=.ep xs i (off + fd.offset)) (rd:=[]) ?_ ?_ (fun _ hi=>by cases hi) fun v _=>hno v
     ·rw [hop,he]; simp only [fieldAddrE,hfs,hfd,hn]
     ·simp only [TV.ok]; exact ⟨xs,i,y,rfl,hy,hs⟩
    ·rename_i p e off hp
     cases h
     rw [hp] at hok
     simp only [TV.ok] at hok
     rcases hok with ⟨xs,i,y,he,hy,hs⟩ | ⟨ver,n',xs,fz,i,y,he,hb,hy,hs⟩
     ·refine out_val hC g (a:=.ep xs i (off + fd.offset)) (rd:=[]) ?_ ?_ (fun _ hi=>by cases hi) fun v _=>hno v
      ·rw [hop,he]; simp only [fieldAddrE,hfs,hfd,hn]
      ·simp only [TV.ok]; exact Or.inl ⟨xs,i,y,rfl,hy,hs⟩
     ·refine out_val hC g (a:=.op (C.at p) ver i (off + fd.offset)) (rd:=[]) ?_ ?_ (fun _ hi=>by cases hi) fun v _=>hno v
      ·rw [hop,he]; simp only [fieldAddrE,hfs,hfd,hn]
      ·simp only [TV.ok]; exact Or.inr ⟨ver,n',xs,fz,i,y,rfl,hb,hy,hs⟩
    ·cases h
   ·cases h
  ·cases h
 ·cases h
end
end
section
noncomputable section
def adNum (k off:Nat):Nat:=1000 + 64 * k + off
def lowP (np:Nat) (p:PL):Bool:=p.1 || (decide (p.2 < np) || (decide (1000 ≤ p.2) && decide (p.2 < 1000 + 64 * np)))
mutual
def TV.lowt (np:Nat):TV→Bool
 | .any | .und | .mp _ _ _ | .was _ _ | .dead=>false
 | .bp p _ | .own p _ | .rl p _ | .el p _ _=>lowP np p
 | .tup l | .clo _ l | .ag l=>TV.lowts np l
 | .c _ | .nilv | .ep _ _=>true
def TV.lowts (np:Nat):List TV→Bool
 | []=>true
 | t :: l=>TV.lowt np t && TV.lowts np l
end
theorem at_le {C:Cx} (hC:C.Ok) {p:PL} (h:lowP C.np p=true):(C.at p).1 ≤ C.d:=by
 obtain ⟨b,k⟩:=p
 cases b with
 | true=>exact Nat.le_refl _
 | false =>
  unfold lowP at h
  simp only [Bool.false_or,Bool.or_eq_true,Bool.and_eq_true,decide_eq_true_eq] at h
  show (C.π k).1 ≤ C.d
  rcases h with h | h
  ·exact Nat.le_of_lt (hC.low k h)
  ·have key:∃ a b,a < C.np∧b < 64∧k=1000 + 64 * a + b:=⟨(k - 1000) / 64,(k - 1000) % 64,by omega,by omega,by omega⟩
   obtain ⟨a,b,h1,h2,rfl⟩:=key
   rw [hC.ad a b h1 h2]
   exact Nat.le_of_lt (hC.low a h1)
mutual
theorem lowt_ok {C:Cx} (hC:C.Ok) {h:Id→O}:∀ {t:TV} {a:A},TV.ok C h t a→t.lowt C.np=true→A.low C.d a=true
 | .any,a,_,hk=>by simp [TV.lowt] at hk
 | .und,a,_,hk=>by simp [TV.lowt] at hk
 | .mp _ _ _,a,_,hk=>by simp [TV.lowt] at hk
 | .was _ _,a,_,hk=>by simp [TV.lowt] at hk
 | .dead,a,_,hk=>by simp [TV.lowt] at hk
 | .tup l,a,hx,hk=>by
  simp only [TV.ok] at hx
  obtain ⟨zs,rfl,hx⟩:=hx
  simp only [A.low]
  exact lowts_ok hC hx (by simpa [TV.lowt] using hk)
 | .ag l,a,hx,hk=>by
  simp only [TV.ok] at hx
  have:=lowts_ok hC hx.2 (by simpa [TV.lowt] using hk)
  cases a with
  | d x=>simp [A.low]
  | agg xs=>simpa [A.low] using this
  | _=>have:=hx.1; simp [A.isAgg] at this
 | .c t,a,hx,_=>by simp only [TV.ok] at hx; obtain ⟨x,rfl,_⟩:=hx; simp [A.low]
 | .nilv,a,hx,_=>by simp only [TV.ok] at hx; subst hx; simp [A.low]
 | .own p e,a,hx,hk=>by
  simp only [TV.ok] at hx
  rcases hx with ⟨xs,rfl,_⟩ | ⟨ver,n,xs,fz,rfl,_⟩
  ·simp [A.low]
  ·simpa [A.low] using at_le hC (by simpa [TV.lowt] using hk)
 | .rl p e,a,hx,hk=>by
  simp only [TV.ok] at hx
  rcases hx with (⟨xs,rfl,_⟩ | ⟨ver,n,xs,fz,rfl,_⟩) | ⟨xs,rfl,_⟩
  ·simp [A.low]
  ·simpa [A.low] using at_le hC (by simpa [TV.lowt] using hk)
  ·simp [A.low]
 | .bp p off,a,hx,hk=>by
  simp only [TV.ok] at hx
  obtain ⟨ver,cs,rfl,_⟩:=hx
  simpa [A.low] using at_le hC (by simpa [TV.lowt] using hk)
 | .ep t off,a,hx,_=>by simp only [TV.ok] at hx; obtain ⟨xs,i,x,rfl,_⟩:=hx; simp [A.low]
 | .el p e off,a,hx,hk=>by
  simp only [TV.ok] at hx
  rcases hx with ⟨xs,i,x,rfl,_⟩ | ⟨ver,n,xs,fz,i,x,rfl,_⟩
  ·simp [A.low]
  ·simpa [A.low] using at_le hC (by simpa [TV.lowt] using hk)
 | .clo f l,a,hx,hk=>by
  simp only [TV.ok] at hx
  obtain ⟨zs,rfl,hx⟩:=hx
  simp only [A.low]
  exact lowts_ok hC hx (by simpa [TV.lowt] using hk)
theorem lowts_ok {C:Cx} (hC:C.Ok) {h:Id→O}:∀ {ts:List TV} {zs:List A},TV.oks C h ts zs→TV.lowts C.np ts=true→A.lows C.d zs=true
 | [],zs,hx,_=>by simp only [TV.oks] at hx; subst hx; simp [A.lows]
 | t :: ts,zs,hx,hk=>by
  simp only [TV.oks] at hx
  obtain ⟨a,l,rfl,h2,h3⟩:=hx
  simp only [TV.lowts,Bool.and_eq_true] at hk
  simp only [A.lows,Bool.and_eq_true]
  exact ⟨lowt_ok hC h2 hk.1,lowts_ok hC h3 hk.2⟩
end
theorem lowCells_low {h:Id→O} {k:Nat}:∀ {zs:List A},A.lows k zs=true→lowCells h k zs=some (zs,[])
 | [],_=>rfl
 | a :: l,hk=>by
  simp only [A.lows,Bool.and_eq_true] at hk
  unfold lowCells
  rw [lowCells_low hk.2]
  simp only
  rw [if_pos hk.1]
theorem adopt_none {C:Cx} (hC:C.Ok) {h:Id→O} {P:Program} {t:TypeId} {j ver off:Nat} {x:A} (hx:A.low C.d x=true):adoptE P h t (C.d,j) ver off x=none:=by
 unfold adoptE
 split
 ·rename_i vid v len
  have:vid.1 ≤ C.d:=by simpa [A.low] using hx
  rw [if_pos this]
 ·rfl
def putL {α:Type} (l:List α) (off:Nat) (xs:List α):List α:=l.take off ++ xs ++ l.drop (off + xs.length)
theorem agg_low {C:Cx} {h:Id→O} {E:Nat→Option (List Ty)} {t:TV} {a:A} {l:List TV} (hl:cellsTV E t=some l) (hx:TV.ok C h t a) (hlow:A.lows C.d a.cells=true):A.low C.d a=true:=by
 cases a with
 | d x=>simp [A.low]
 | agg xs=>simpa [A.low] using hlow
 | _=>simp [A.low] <;> simpa [A.cells,A.lows,A.low] using hlow
def sStore (P:Program) (E:Nat→Option (List Ty)) (np:Nat) (σ:SS) (t:TypeId) (a x:Operand):Option Out :=
 match opTV σ a with
 | .bp (true,j) off =>
  match σ.hp.find? fun q=>q.1 == (true,j),cellsTV E (opTV σ x) with
  | some q,some l =>
   if tsize P t == some l.length && decide (off + l.length ≤ q.2.length) && TV.lowts np l then
    let f1:=linkC σ.fs (fun c=>(2,j,c)) (fun c=>(7,c,0)) 0 (q.2.take off)
    let f2:=cellF E σ x (fun c=>(7,off + c,0)) l
    let f3:=linkC σ.fs (fun c=>(2,j,c)) (fun c=>(7,c,0)) (off + l.length) (q.2.drop (off + l.length))
    some { act:=.stb j (putL q.2 off l) (f1.1 ++ (f2.1 ++ f3.1)) (f1.2 ++ (f2.2 ++ f3.2)) (if off == 0 && l.length == q.2.length then nmOf (opTV σ x) else none),rd:=[j + 1],wr:=[j + 1] }
   else none
  | _,_=>none
 | _=>none
theorem getD_app1 {α:Type} {l m:List α} {i:Nat} {d:α} (h:i < l.length):(l ++ m).getD i d=l.getD i d:=by
 rw [List.getD_eq_getElem?_getD,List.getD_eq_getElem?_getD,List.getElem?_append_left h]
theorem getD_app2 {α:Type} {l m:List α} {i:Nat} {d:α}:(l ++ m).getD (l.length + i) d=m.getD i d:=by
 rw [List.getD_eq_getElem?_getD,List.getD_eq_getElem?_getD,List.getElem?_append_right (by omega)]
 simp
theorem getD_take {α:Type} {l:List α} {i n:Nat} {d:α} (h:i < n):(l.take n).getD i d=l.getD i d:=by
 rw [List.getD_eq_getElem?_getD,List.getD_eq_getElem?_getD,List.getElem?_take,if_pos h]
theorem getD_drop {α:Type} {l:List α} {i n:Nat} {d:α}:(l.drop n).getD i d=l.getD (n + i) d:=by
 rw [List.getD_eq_getElem?_getD,List.getD_eq_getElem?_getD,List.getElem?_drop]
theorem sStore_ok {C:Cx} (hC:C.Ok) {X:Orc} {σ:SS} {st:St} (g:Ga C σ st) {o:Oper} {t:TypeId} {a x:Operand} (ho:o.op = .store t a x) {out:Out} (h:sStore C.P C.E C.np σ t a x=some out):OpOk C X σ st o out:=by
 have hop:opE C.P X st.d st.ev st.h (st.d,o.dst.getD st.n) o=storeE C.P st.h t (st.ev a) (st.ev x):=by
  obtain ⟨dst,op,ty,pos,af,gd⟩:=o
  simp only at ho
  subst ho; rfl
 have hok:=opTV_ok g a
 have hxk:=opTV_ok g x
 unfold sStore at h
 split at h
 ·rename_i j off hp
  rw [hp] at hok
  simp only [TV.ok] at hok
  obtain ⟨ver,cs,he,hb⟩:=hok
  split at h
  ·rename_i q l hq hl
   have hq1:=g.hp q (List.mem_of_find?_eq_some hq)
   have hq2:q.1=(true,j):=by simpa using List.find?_some hq
   rw [hq2] at hq1
   obtain ⟨ver',cs',hb',hcs⟩:=hq1
   rw [hb] at hb'
   cases hb'
   split at h
   ·rename_i hc
    rw [Bool.and_eq_true,Bool.and_eq_true] at hc
    obtain ⟨⟨hc1,hc2⟩,hc3⟩:=hc
    have hc1:=eq_of_beq hc1
    have hc2:=of_decide_eq_true hc2
    cases h
    obtain ⟨x1,x2,x3,x4⟩:=cellsTV_ok hC hxk hl
    have hlow:=lowts_ok hC x1 hc3
    have hcl:=oks_len hcs
    intro σ' hσ
    unfold Act.ap at hσ
    simp only at hσ
    split at hσ
    ·rename_i hdn
     cases hσ
     have hdn:o.dst=none:=by simpa using hdn
     have hb0:st.h (C.d,j) = .box ver cs:=hb
     have hse:storeE C.P st.h t (st.ev a) (st.ev x)=some { v:=.d (.s undef),rd:=[(C.d,j)],wr:=[((C.d,j),.box ver (put cs off (st.ev x).cells))] }:=by
      rw [show st.ev a = .bp (C.d,j) ver off from he]
      show (match adoptE C.P st.h t (C.d,j) ver off (st.ev x) with | some e=>some e | none=>_)=_
      rw [adopt_none hC (agg_low hl hxk hlow)]
      simp only [hb0,hc1,lowCells_low hlow,frz,List.nil_append]
      rw [if_pos ⟨trivial,x3,by omega,x2⟩]
     rw [hdn]
     refine ⟨_,by rw [hdn] at hop; rw [hop]; exact hse,?_,⟨?_,?_,?_⟩,?_⟩
     ·show ((C.d == st.d || _) && okW st.d st.al [])=true
      rw [g.d]; simp [okW]
     ·intro y hy
      simp only [sigE,List.map_cons,List.map_nil,List.mem_singleton] at hy
      subst hy; simp [slotC_own]
     ·intro y hy
      simp only [sigE,List.map_cons,List.map_nil,List.mem_singleton] at hy
      subst hy; simp [slotC_own]
     ·intro y; cases y
     ·refine stb_ok hC g (ver:=ver) (cs:=cs) (bc:=put cs off (st.ev x).cells) hb0 rfl ?_ ?_ ?_ ?_
      ·unfold put putL
       rw [x3]
       exact oks_app (oks_app (oks_take off hcs) x1) (oks_drop _ hcs)
      ·intro u hu
       split at hu
       ·rename_i hcc
        rw [Bool.and_eq_true] at hcc
        have hoff:off=0:=eq_of_beq hcc.1
        have hll:l.length=q.2.length:=eq_of_beq hcc.2
        subst hoff
        obtain ⟨ds,k1,k2⟩:=nmOf_ok hC hxk hu
        refine ⟨ds,?_,k2⟩
        unfold put
        rw [List.take_zero,List.nil_append,Nat.zero_add,List.drop_of_length_le (by omega),List.append_nil,k1]
       ·cases hu
      all_goals
       intro v hv
       have hbc:∀ c,v (7,c,0)=(put cs off (st.ev x).cells).getD c .any:=fun c=>hv.nb c 0
       have htl:(cs.take off).length=off:=by simp; omega
       have b2:∀ c,v (2,j,c)=cs.getD c .any:=fun c=>by
        rw [hv.now _ (by show 2 < 5; decide)]
        show boxCell (st.h (C.d,j)) c=_
        rw [hb0]; rfl
       have l1:=linkC_ok (v:=v) (fs:=σ.fs) (f:=fun c=>(2,j,c)) (g:=fun c=>(7,c,0)) (l:=q.2.take off) (k:=0) fun c _ hc=>by
        have hc:c < off:=by simp at hc; omega
        show v (2,j,c)=v (7,c,0)
        rw [b2,hbc]
        unfold put
        rw [List.append_assoc,getD_app1 (by omega),getD_take hc]
       have l2:=cellF_ok hC g (f:=fun c=>(7,off + c,0)) hl hv.now fun c hc=>by
        show v (7,off + c,0)=_
        rw [hbc]
        unfold put
        have e1:∀ m:List A,(cs.take off ++ m).getD (off + c) .any=m.getD c .any:=fun m=>by
         have:=getD_app2 (l:=cs.take off) (m:=m) (i:=c) (d:=A.any)
         rw [htl] at this; exact this
        rw [List.append_assoc,e1,getD_app1 (by omega)]
       have l3:=linkC_ok (v:=v) (fs:=σ.fs) (f:=fun c=>(2,j,c)) (g:=fun c=>(7,c,0)) (l:=q.2.drop (off + l.length)) (k:=off + l.length) fun c hc1 hc2=>by
        show v (2,j,c)=v (7,c,0)
        rw [b2,hbc]
        unfold put
        have e1:(cs.take off ++ (st.ev x).cells).length=off + l.length:=by rw [List.length_append,htl,x3]
        have e2:=getD_app2 (l:=cs.take off ++ (st.ev x).cells) (m:=cs.drop (off + (st.ev x).cells.length)) (i:=c - (off + l.length)) (d:=A.any)
        rw [e1,show off + l.length + (c - (off + l.length))=c by omega,getD_drop,x3,show off + l.length + (c - (off + l.length))=c by omega] at e2
        rw [x3]
        exact e2.symm
      ·intro p hp
       rcases List.mem_append.1 hp with hp | hp
       ·exact l1.1 p hp
       ·rcases List.mem_append.1 hp with hp | hp
        ·exact l2.1 p hp
        ·exact l3.1 p hp
      ·intro p hp
       rcases List.mem_append.1 hp with hp | hp
       ·exact l1.2 p hp
       ·rcases List.mem_append.1 hp with hp | hp
        ·exact l2.2 p hp
        ·exact l3.2 p hp
    ·cases hσ
   ·cases h
  ·cases h
 ·cases h
def nofs:∀ v:AP→A,(∀ p ∈ ([]:List (AP × AP)),v p.1=v p.2)∧FOk v []:=fun v=>⟨fun p hp=>(by cases hp),fun p hp=>(by cases hp)⟩
theorem nows (C:Cx) (st:St):Now C st (apv C st):=fun _ _=>rfl
def leI (fs:List Fact) (a b:Term × Int) (k:Int):Bool:=entLe fs a.1 b.1 (a.2 + k - b.2)
theorem leI_ok {v:AP→A} {fs:List Fact} (hf:FOk v fs) {a b:Term × Int} {k:Int} (h:leI fs a b k=true):tv v a.1 + a.2 + k ≤ tv v b.1 + b.2:=by
 have:=entLe_ok hf h
 omega
def sIndexA (P:Program) (E:Nat→Option (List Ty)) (σ:SS) (t:TypeId) (x i:Operand):Option Out :=
 match P.underlying t,opI σ i,opL σ x,opTV σ i with
 | some (.slice e),some I,some L,.c (.int _) =>
  if leI σ.fs (zT,0) I 0 && leI σ.fs I L 1 then
   match opTV σ x with
   | .c (.lst el _)=>if tsize P e == some (el.sz E) then some { act:=.wr (.ep el 0) [] [] } else none
   | .own p el=>if tsize P e == some (el.sz E) then some { act:=.wr (.el p el 0) [] [],rd:=[sN p] } else none
   | .rl p el=>if tsize P e == some (el.sz E) then some { act:=.wr (.el p el 0) [] [],rd:=[sN p] } else none
   | _=>none
  else none
 | _,_,_,_=>none
theorem idxT_ok {C:Cx} (hC:C.Ok) {xs:List D} {el:Ty} {sz:Nat} {i:Int} (hs:∀ x ∈ xs,ShT C.R el x) (hsz:sz=el.sz C.E) (h0:0 ≤ i) (h1:i < xs.length):∃ x,xs[i.toNat]? = some x∧ShT C.R el x∧idxE xs sz i=some { v:=.ep xs i.toNat 0 }:=by
 have hlt:i.toNat < xs.length:=by omega
 have hg:=List.getElem?_eq_getElem hlt
 have hm:=hs _ (List.getElem_mem hlt)
 refine ⟨_,hg,hm,?_⟩
 unfold idxE
 rw [hg]
 simp only [Option.map_some,hm.sz hC.rel]
 rw [if_pos ⟨h0,h1,by rw [hsz]⟩]
theorem sIndexA_ok {C:Cx} (hC:C.Ok) {X:Orc} {σ:SS} {st:St} (g:Ga C σ st) {o:Oper} {t:TypeId} {x i:Operand} (ho:o.op = .indexAddr t x i) {out:Out} (h:sIndexA C.P C.E σ t x i=some out):OpOk C X σ st o out:=by
 have hop:opE C.P X st.d st.ev st.h (st.d,o.dst.getD st.n) o=indexAddrE C.P st.h t (st.ev x) (st.ev i):=by
  obtain ⟨dst,op,ty,pos,af,gd⟩:=o
  simp only at ho
  subst ho; rfl
 have hok:=opTV_ok g x
 have hik:=opTV_ok g i
 unfold sIndexA at h
 split at h
 ·rename_i e I L k hu hI hL hti
  rw [hti] at hik
  simp only [TV.ok,ShT] at hik
  obtain ⟨_,hiv,n,rfl⟩:=hik
  split at h
  ·rename_i hb
   rw [Bool.and_eq_true] at hb
   have hfs:=g.fs _ (nows C st)
   have b1:=leI_ok hfs hb.1
   have b2:=leI_ok hfs hb.2
   have c1:=opI_ok g hI (nows C st)
   have c2:=opL_ok g hL (nows C st)
   rw [hiv] at c1
   have c1:n=_:=c1
   have z0:tv (apv C st) zT=0:=rfl
   simp only [z0] at b1
   have n0:0 ≤ n:=by omega
   have n1:n < lenA (st.ev x):=by omega
   split at h
   ·rename_i el b hx
    split at h
    ·rename_i hsz
     have hsz:=eq_of_beq hsz
     cases h
     rw [hx] at hok
     simp only [TV.ok,ShT] at hok
     obtain ⟨_,hxv,xs,rfl,_,hs⟩:=hok
     rw [hxv] at n1
     obtain ⟨y,h1,h2,h3⟩:=idxT_ok hC hs rfl n0 n1
     refine out_val hC g (a:=.ep xs n.toNat 0) (rd:=[]) ?_ ?_ (fun _ hi=>by cases hi) fun v _=>nofs v
     ·rw [hop,hxv,hiv]
      simp only [indexAddrE,intOfA,hu,hsz,h3]
     ·simp only [TV.ok]; exact ⟨xs,_,y,rfl,h1,h2⟩
    ·cases h
   ·rename_i p el hx
    split at h
    ·rename_i hsz
     have hsz:=eq_of_beq hsz
     cases h
     rw [hx] at hok
     simp only [TV.ok] at hok
     rcases hok with ⟨xs,hxv,hs⟩ | ⟨ver,n',xs,fz,hxv,hb,rfl,hs⟩
     ·rw [hxv] at n1
      obtain ⟨y,h1,h2,h3⟩:=idxT_ok hC hs rfl n0 n1
      refine out_val hC g (a:=.ep xs n.toNat 0) (rd:=[]) ?_ ?_ (fun _ hi=>by cases hi) fun v _=>nofs v
      ·rw [hop,hxv,hiv]
       simp only [indexAddrE,intOfA,hu,hsz,h3]
      ·simp only [TV.ok]; exact Or.inl ⟨xs,_,y,rfl,h1,h2⟩
     ·rw [hxv] at n1
      have n1:n < xs.length:=n1
      have hlt:n.toNat < xs.length:=by omega
      refine out_val hC g (a:=.op (C.at p) ver n.toNat 0) (rd:=[C.at p]) ?_ ?_ ?_ fun v _=>nofs v
      ·rw [hop,hxv,hiv]
       simp only [indexAddrE,intOfA,hu,hsz,hb]
       rw [if_pos ⟨trivial,trivial,n0,n1⟩,Nat.zero_add]
      ·simp only [TV.ok]; exact Or.inr ⟨ver,_,xs,fz,_,_,rfl,hb,List.getElem?_eq_getElem hlt,hs _ (List.getElem_mem hlt)⟩
      ·intro i hi
       simp only [List.mem_singleton] at hi
       subst hi
       rw [sN_at hC]; simp
    ·cases h
   ·rename_i p el hx
    split at h
    ·rename_i hsz
     have hsz:=eq_of_beq hsz
     cases h
     rw [hx] at hok
     simp only [TV.ok] at hok
     rcases hok with (⟨xs,hxv,hs⟩ | ⟨ver,n',xs,fz,hxv,hb,rfl,hs⟩) | ⟨xs,hxv,hs⟩
     ·rw [hxv] at n1
      obtain ⟨y,h1,h2,h3⟩:=idxT_ok hC hs rfl n0 n1
      refine out_val hC g (a:=.ep xs n.toNat 0) (rd:=[]) ?_ ?_ (fun _ hi=>by cases hi) fun v _=>nofs v
      ·rw [hop,hxv,hiv]
       simp only [indexAddrE,intOfA,hu,hsz,h3]
      ·simp only [TV.ok]; exact Or.inl ⟨xs,_,y,rfl,h1,h2⟩
     ·rw [hxv] at n1
      have n1:n < xs.length:=n1
      have hlt:n.toNat < xs.length:=by omega
      refine out_val hC g (a:=.op (C.at p) ver n.toNat 0) (rd:=[C.at p]) ?_ ?_ ?_ fun v _=>nofs v
      ·rw [hop,hxv,hiv]
       simp only [indexAddrE,intOfA,hu,hsz,hb]
       rw [if_pos ⟨trivial,trivial,n0,n1⟩,Nat.zero_add]
      ·simp only [TV.ok]; exact Or.inr ⟨ver,_,xs,fz,_,_,rfl,hb,List.getElem?_eq_getElem hlt,hs _ (List.getElem_mem hlt)⟩
      ·intro i hi
       simp only [List.mem_singleton] at hi
       subst hi
       rw [sN_at hC]; simp
     ·rw [hxv] at n1
      obtain ⟨y,h1,h2,h3⟩:=idxT_ok hC hs rfl n0 n1
      refine out_val hC g (a:=.ep xs n.toNat 0) (rd:=[]) ?_ ?_ (fun _ hi=>by cases hi) fun v _=>nofs v
      ·rw [hop,hxv,hiv]
       simp only [indexAddrE,intOfA,hu,hsz,h3]
      ·simp only [TV.ok]; exact Or.inl ⟨xs,_,y,rfl,h1,h2⟩
    ·cases h
   ·cases h
  ·cases h
 ·cases h
end
end
section
noncomputable section
theorem oks_ev {C:Cx} {σ:SS} {st:St} (g:Ga C σ st):∀ l:List Operand,TV.oks C st.h (l.map (opTV σ)) (l.map st.ev)
 | []=>by simp [TV.oks]
 | o :: l=>by
  simp only [List.map_cons,TV.oks]
  exact ⟨_,_,rfl,opTV_ok g o,oks_ev g l⟩
def sFunc (σ:SS) (fn:Fn) (first captured:Array Operand):Option Out :=
 match fn with
 | .func f=>if first.isEmpty then some { act:=.wr (.clo f (captured.toList.map (opTV σ))) [] [] } else none
 | _=>none
theorem sFunc_ok {C:Cx} (hC:C.Ok) {X:Orc} {σ:SS} {st:St} (g:Ga C σ st) {o:Oper} {fn:Fn} {first cap:Array Operand} (ho:o.op = .makeFunc fn first cap) {out:Out} (h:sFunc σ fn first cap=some out):OpOk C X σ st o out:=by
 unfold sFunc at h
 split at h
 ·rename_i f
  split at h
  ·rename_i hf
   cases h
   refine out_val hC g (a:=.clo f (cap.toList.map st.ev)) (rd:=[]) ?_ ?_ (fun _ hi=>by cases hi) fun v _=>nofs v
   ·obtain ⟨dst,op,ty,pos,af,gd⟩:=o
    simp only at ho
    subst ho
    show (if first.isEmpty then _ else _)=_
    rw [if_pos hf]
   ·simp only [TV.ok]; exact ⟨_,rfl,oks_ev g _⟩
  ·cases h
 ·cases h
def TV.here:TV→Bool
 | .bp .. | .ep .. | .el .. | .clo ..=>true
 | _=>false
theorem here_ok {C:Cx} {h:Id→O} {t:TV} {a:A} (hx:TV.ok C h t a) (hh:t.here=true):a.here=true:=by
 cases t <;> simp only [TV.here,Bool.false_eq_true] at hh <;> simp only [TV.ok] at hx
 ·obtain ⟨_,_,rfl,_⟩:=hx; rfl
 ·obtain ⟨_,_,_,rfl,_⟩:=hx; rfl
 ·obtain ⟨_,rfl,_⟩:=hx; rfl
 ·rcases hx with ⟨_,_,_,rfl,_⟩ | ⟨_,_,_,_,_,_,rfl,_⟩ <;> rfl
def sNil (E:Nat→Option (List Ty)) (σ:SS) (x:Operand):Option Out:=if (opTV σ x).here then some (sMove E σ x) else none
theorem sNil_ok {C:Cx} (hC:C.Ok) {X:Orc} {σ:SS} {st:St} (g:Ga C σ st) {o:Oper} {x:Operand} (ho:o.op = .nilCheck x) {out:Out} (h:sNil C.E σ x=some out):OpOk C X σ st o out:=by
 unfold sNil at h
 split at h
 ·rename_i hh
  cases h
  refine out_val hC g (a:=st.ev x) (rd:=[]) ?_ (opTV_ok g x) (fun _ hi=>by cases hi) fun v hv=>asgF_ok g C.E x hv
  obtain ⟨dst,op,ty,pos,af,gd⟩:=o
  simp only at ho
  subst ho
  show (if (st.ev x).here then _ else _)=_
  rw [if_pos (here_ok (opTV_ok g x) hh)]
 ·cases h
def opAP (σ:SS):Operand→Option AP
 | .tmp t=>if t < σ.n then some (0,t,0) else none
 | _=>none
def opB (σ:SS):Operand→Option Bool
 | .tmp t=>if t < σ.n then isbOf σ.fs (0,t,0) else none
 | .const (.bool b)=>some b
 | _=>none
theorem opB_ok {C:Cx} {σ:SS} {st:St} (g:Ga C σ st) {o:Operand} {b:Bool} (h:opB σ o=some b):boolA (st.ev o)=b:=by
 unfold opB at h
 split at h
 ·split at h
  ·rename_i ht
   have:=isbOf_ok (g.fs _ (nows C st)) h
   rw [ev_tmp g ht]; exact this
  ·cases h
 ·cases h; rfl
 ·cases h
def impB (σ:SS) (x:Operand) (b:Bool) (dst:AP) (d:Bool):List Fact :=
 match x with
 | .tmp t=>if t < σ.n then [.imp dst d (.isb (0,t,0) b)] else []
 | _=>[]
theorem impB_ok {C:Cx} {σ:SS} {st:St} (g:Ga C σ st) {x:Operand} {b d:Bool} {dst:AP} {v:AP→A} (hv:Now C st v) (h:boolA (v dst)=d→boolA (st.ev x)=b):FOk v (impB σ x b dst d):=by
 unfold impB
 split
 ·split
  ·rename_i ht
   intro f hf
   simp only [List.mem_singleton] at hf
   subst hf
   intro hd
   show boolA (v (0,_,0))=b
   rw [hv _ (by show 0 < 5; decide)]
   show boolA (st.t _)=b
   rw [← ev_tmp g ht]
   exact h hd
  ·intro f hf; cases hf
 ·intro f hf; cases hf
theorem pick_and {p q r:Bool} (h1:r=false) (h:(if p=true then q else r)=true):p=true∧q=true:=by
 subst h1; cases p <;> cases q <;> first | exact ⟨rfl,rfl⟩ | cases h
theorem pick_or {p q r:Bool} (h1:q=true) (h:(if p=true then q else r)=false):p=false∧r=false:=by
 subst h1; cases p <;> cases r <;> first | exact ⟨rfl,rfl⟩ | cases h
def isBoolT:TV→Bool
 | .c .bool=>true
 | _=>false
theorem isBoolT_ok {C:Cx} {h:Id→O} {t:TV} {a:A} (hx:TV.ok C h t a) (hh:isBoolT t=true):a = .d (.s (.bool (boolA a))):=by
 unfold isBoolT at hh
 split at hh
 ·simp only [TV.ok,ShT] at hx
  obtain ⟨_,rfl,b,rfl⟩:=hx
  rfl
 ·cases hh
def FOkA {v:AP→A} {a b:List Fact} (ha:FOk v a) (hb:FOk v b):FOk v (a ++ b):=fun f hf=>by
 rcases List.mem_append.1 hf with hf | hf
 ·exact ha f hf
 ·exact hb f hf
def sPick (E:Nat→Option (List Ty)) (σ:SS) (c a b:Operand):Option Out :=
 if isBoolT (opTV σ c) then
  match opB σ c with
  | some true=>some (sMove E σ a)
  | some false=>some (sMove E σ b)
  | none =>
   match opTV σ a,opTV σ b with
   | .c .bool,.c .bool =>
    some { act:=.wr (.c .bool) [] ((if opB σ b=some false then impB σ c true (5,0,0) true ++ impB σ a true (5,0,0) true else []) ++ (if opB σ a=some true then impB σ c false (5,0,0) false ++ impB σ b false (5,0,0) false else [])) }
   | .c t,.c u=>if Ty.sub t u then some { act:=.wr (.c u) [] [] } else none
   | _,_=>none
 else none
theorem sPick_ok {C:Cx} (hC:C.Ok) {X:Orc} {σ:SS} {st:St} (g:Ga C σ st) {o:Oper} {c a b:Operand} (ho:o.op = .pick c a b) {out:Out} (h:sPick C.E σ c a b=some out):OpOk C X σ st o out:=by
 unfold sPick at h
 split at h
 ·rename_i hc
  have hcb:=isBoolT_ok (opTV_ok g c) hc
  have hop:opE C.P X st.d st.ev st.h (st.d,o.dst.getD st.n) o=if boolA (st.ev c)=true then some { v:=st.ev a } else some { v:=st.ev b }:=by
   obtain ⟨dst,op,ty,pos,af,gd⟩:=o
   simp only at ho
   subst ho
   show (if (st.ev c).bool? = some true then _ else if (st.ev c).bool? = some false then _ else _)=_
   have e:(st.ev c).bool? = some (boolA (st.ev c)):=by rw [hcb]; rfl
   rw [e]
   cases boolA (st.ev c) <;> rfl
  split at h
  ·rename_i hb
   cases h
   refine out_val hC g (a:=st.ev a) (rd:=[]) ?_ (opTV_ok g a) (fun _ hi=>by cases hi) fun v hv=>asgF_ok g C.E a hv
   rw [hop,opB_ok g hb]; rfl
  ·rename_i hb
   cases h
   refine out_val hC g (a:=st.ev b) (rd:=[]) ?_ (opTV_ok g b) (fun _ hi=>by cases hi) fun v hv=>asgF_ok g C.E b hv
   rw [hop,opB_ok g hb]; rfl
  ·split at h
   ·rename_i ha hb
    cases h
    have hab:=isBoolT_ok (opTV_ok g a) (by rw [ha]; rfl)
    have hbb:=isBoolT_ok (opTV_ok g b) (by rw [hb]; rfl)
    refine out_val hC g (a:=.d (.s (.bool (if boolA (st.ev c)=true then boolA (st.ev a) else boolA (st.ev b))))) (rd:=[]) ?_ ?_ (fun _ hi=>by cases hi) fun v hv=>⟨fun p hp=>(by cases hp),?_⟩
    ·rw [hop]
     cases hcv:boolA (st.ev c)
     ·simp only [Bool.false_eq_true,if_false]; rw [← hbb]
     ·simp only [if_true]; rw [← hab]
    ·simp only [TV.ok,ShT]; exact ⟨_,rfl,_,rfl⟩
    ·have e5:boolA (v (5,0,0))=if boolA (st.ev c)=true then boolA (st.ev a) else boolA (st.ev b):=by rw [hv.nv]; rfl
     refine FOkA ?_ ?_
     ·split
      ·rename_i h1
       have h1:=opB_ok g h1
       exact FOkA (impB_ok g hv.now fun h=>(pick_and h1 (e5 ▸ h)).1) (impB_ok g hv.now fun h=>(pick_and h1 (e5 ▸ h)).2)
      ·intro f hf; cases hf
     ·split
      ·rename_i h1
       have h1:=opB_ok g h1
       exact FOkA (impB_ok g hv.now fun h=>(pick_or h1 (e5 ▸ h)).1) (impB_ok g hv.now fun h=>(pick_or h1 (e5 ▸ h)).2)
      ·intro f hf; cases hf
   ·rename_i t u hne ha hb
    split at h
    ·rename_i hsub
     cases h
     have hta:=opTV_ok g a
     have htb:=opTV_ok g b
     rw [ha] at hta
     rw [hb] at htb
     refine out_val hC g (a:=if boolA (st.ev c)=true then st.ev a else st.ev b) (rd:=[]) ?_ ?_ (fun _ hi=>by cases hi) fun v hv=>nofs v
     ·rw [hop]; split <;> rfl
     ·split
      ·simp only [TV.ok] at hta ⊢
       obtain ⟨x,h1,h2⟩:=hta
       exact ⟨x,h1,sub_ok hC.rel _ _ _ hsub h2⟩
      ·exact htb
    ·cases h
   ·cases h
 ·cases h
def isLenT:TV→Bool
 | .nilv | .own .. | .rl ..=>true
 | .c (.lst ..)=>true
 | .c (.lsj ..)=>true
 | _=>false
theorem isLenT_ok {C:Cx} {h:Id→O} {t:TV} {a:A} (hx:TV.ok C h t a) (hh:isLenT t=true):a.exact=none ∧ ∃ n:Nat,lenE a=some n∧lenA a=n:=by
 unfold isLenT at hh
 split at hh
 ·simp only [TV.ok] at hx; subst hx; exact ⟨rfl,0,rfl,rfl⟩
 ·simp only [TV.ok] at hx
  rcases hx with ⟨xs,rfl,_⟩ | ⟨ver,n,xs,fz,rfl,_⟩ <;> exact ⟨rfl,_,rfl,rfl⟩
 ·simp only [TV.ok] at hx
  rcases hx with (⟨xs,rfl,_⟩ | ⟨ver,n,xs,fz,rfl,_⟩) | ⟨xs,rfl,_⟩ <;> exact ⟨rfl,_,rfl,rfl⟩
 ·simp only [TV.ok,ShT] at hx
  obtain ⟨_,rfl,xs,rfl,_⟩:=hx
  exact ⟨rfl,_,rfl,rfl⟩
 ·simp only [TV.ok,ShT] at hx
  obtain ⟨_,rfl,xs,rfl,_⟩:=hx
  exact ⟨rfl,_,rfl,rfl⟩
 ·cases hh
def lenFs (L:Term × Int):List Fact:=[.f (.le (1,5,0,0) L.1 (-L.2)),.f (.le L.1 (1,5,0,0) L.2),.f (.le zT (1,5,0,0) 0)]
def sLen (P:Program) (σ:SS) (t:TypeId) (x:Operand):Option Out :=
 match opL σ x with
 | some L =>
  if isLenT (opTV σ x) && (telem P t).isSome then some { act:=.wr (.c (.int .i64)) [] (lenFs L) }
  else match opTV σ x,P.underlying t with
  | .c (.str _),some .string=>some { act:=.wr (.c (.int .i64)) [] (lenFs L) }
  | _,_=>none
 | none=>none
theorem sLen_ok {C:Cx} (hC:C.Ok) {X:Orc} {σ:SS} {st:St} (g:Ga C σ st) {o:Oper} {t:TypeId} {x:Operand} (ho:o.op = .call ⟨.builtin .len,#[x],#[t]⟩) {out:Out} (h:sLen C.P σ t x=some out):OpOk C X σ st o out:=by
 have hok:=opTV_ok g x
 have fin:∀ L,opL σ x=some L→opE C.P X st.d st.ev st.h (st.d,o.dst.getD st.n) o=some { v:=.d (.s (.int .i64 (lenA (st.ev x)))) }→OpOk C X σ st o { act:=.wr (.c (.int .i64)) [] (lenFs L) }:=by
  intro L hL he
  refine out_val hC g (a:=.d (.s (.int .i64 (lenA (st.ev x))))) (rd:=[]) he ?_ (fun _ hi=>by cases hi) fun v hv=>⟨fun p hp=>(by cases hp),?_⟩
  ·simp only [TV.ok,ShT]; exact ⟨_,rfl,_,rfl⟩
  ·have h1:=opL_ok g hL hv.now
   have h2:tv v (1,5,0,0)=lenA (st.ev x):=by
    show intA (v (5,0,0))=_
    rw [hv.nv]; rfl
   have h3:=lenA_nonneg (st.ev x)
   have z0:tv v zT=0:=rfl
   intro f hf
   simp only [lenFs,List.mem_cons,List.not_mem_nil,or_false] at hf
   rcases hf with rfl | rfl | rfl <;> simp only [Fact.ok,LF.ok,h2,z0] <;> omega
 unfold sLen at h
 split at h
 ·rename_i L hL
  split at h
  ·rename_i hh
   cases h
   rw [Bool.and_eq_true] at hh
   obtain ⟨h1,n,h2,h3⟩:=isLenT_ok hok hh.1
   refine fin L hL ?_
   obtain ⟨dst,op,ty,pos,af,gd⟩:=o
   simp only at ho
   subst ho
   show (match (st.ev x).exact with | some _=>_ | none=>if (telem C.P t).isSome then (lenE (st.ev x)).map fun (n:Nat)=>({ v:=.d (.s (.int .i64 (n:Int))) }:Eff) else _)=_
   rw [h1,if_pos hh.2,h2,h3]
   rfl
  ·split at h
   ·rename_i b hx hu
    cases h
    refine fin L hL ?_
    rw [hx] at hok
    simp only [TV.ok,ShT] at hok
    obtain ⟨_,hxv,s,rfl,_⟩:=hok
    obtain ⟨dst,op,ty,pos,af,gd⟩:=o
    simp only at ho
    subst ho
    show (match (st.ev x).exact with | some _=>exactE _ _ _ | none=>_)=_
    rw [hxv]
    show exactE _ _ _=_
    rw [exactE_len,hxv]
    simp only [A.exact,len_str s hu,Option.map_some]
    rfl
   ·cases h
 ·cases h
def leF (a b:Term × Int) (k:Int):LF:=.le a.1 b.1 (a.2 + k - b.2)
theorem leF_ok {v:AP→A} {a b:Term × Int} {k:Int}:(leF a b k).ok v ↔ tv v a.1 + a.2 + k ≤ tv v b.1 + b.2:=by
 unfold leF LF.ok
 omega
def cmpFs (op:BinOp) (X Y:Term × Int):Option (List Fact) :=
 let d:AP:=(5,0,0)
 match op with
 | .lss=>some [.imp d true (leF X Y 1),.imp d false (leF Y X 0)]
 | .leq=>some [.imp d true (leF X Y 0),.imp d false (leF Y X 1)]
 | .gtr=>some [.imp d true (leF Y X 1),.imp d false (leF X Y 0)]
 | .geq=>some [.imp d true (leF Y X 0),.imp d false (leF X Y 1)]
 | .eql=>some [.imp d true (leF X Y 0),.imp d true (leF Y X 0)]
 | .neq=>some [.imp d false (leF X Y 0),.imp d false (leF Y X 0)]
 | _=>none
def cmpV (op:BinOp) (a b:Int):Bool :=
 match op with
 | .lss=>decide (a < b)
 | .leq=>decide (a ≤ b)
 | .gtr=>decide (b < a)
 | .geq=>decide (b ≤ a)
 | .eql=>a == b
 | .neq=>a != b
 | _=>false
theorem cmpFs_ok {v:AP→A} {op:BinOp} {X Y:Term × Int} {fs:List Fact} (h:cmpFs op X Y=some fs) {a b:Int} (ha:a=tv v X.1 + X.2) (hb:b=tv v Y.1 + Y.2) (h5:boolA (v (5,0,0))=cmpV op a b):FOk v fs:=by
 unfold cmpFs at h
 split at h <;> cases h <;> simp only [cmpV] at h5 <;> intro f hf <;> simp only [List.mem_cons,List.not_mem_nil,or_false] at hf <;> rcases hf with rfl | rfl <;> intro h6 <;> rw [leF_ok] <;> rw [h5] at h6 <;> simp at h6 <;> omega
theorem cmp_ex {P:Program} {op:BinOp} {X Y:Term × Int} {fs:List Fact} (h:cmpFs op X Y=some fs) (t:TypeId) (x y:Operand) (k:IntKind) (a b:Int):exBin P op t x y (.d (.s (.int k a))) (.d (.s (.int k b)))=some { v:=.d (.s (.bool (cmpV op a b))) }:=by
 unfold cmpFs at h
 split at h <;> first | (cases h; done) | simp only [ex_lss,ex_leq,ex_gtr,ex_geq,ex_eql,ex_neq,cmpV]
end
end
end Go.Proofs.YtenoggjjhamdaaaGreatDoor
