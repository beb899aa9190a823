/-
  WHAT IS PROVED HERE: parts of the proof: SxK SxL SxM SxN SxO SxR SxS.
-/
import Derived.Test.YtenoggjjhamdaaaGreatDoorB11
set_option linter.all false
namespace Go.Proofs.YtenoggjjhamdaaaGreatDoor
open Go Go.RowKit
section
noncomputable section
theorem Ga.nows {C:Cx} {σ:SS} {st:St} (g:Ga C σ st):FOk (apv C st) σ.fs:=g.fs _ (fun _ _=>rfl)
theorem cells_any {C:Cx} (hC:C.Ok) {h:Id→O} {t:TV} {a:A} {l:List TV} (hx:TV.ok C h t a) (hl:cellsTV C.E t=some l):a.isAny=false:=by
 cases a with
 | any =>
  obtain ⟨_,h1,_⟩:=cellsTV_ok hC hx hl
  simp [A.cells,A.one] at h1
 | _=>rfl
structure Fill where
 cells:List TV
 cp:List (AP × AP)
 fs:List Fact
def inR (off n:Nat) (a:AP):Bool:=a.1 == 6 && decide (off ≤ a.2.1) && decide (a.2.1 < off + n)
def refT (E:Nat→Option (List Ty)) (T:Operand→Option TV) (x:Operand) (l:List TV):List TV:=match T x with
 | some t=>(match cellsTV E t with | some l'=>if l'.length == l.length then l' else l | none=>l)
 | none=>l
def fillS (E:Nat→Option (List Ty)) (σ:SS) (T:Operand→Option TV) (place:Nat→Option (Nat × Nat)):Fill→List (Nat × Operand)→Option Fill
 | f,[]=>some f
 | f,(i,x) :: rest =>
  match place i,cellsTV E (opTV σ x) with
  | some (off,size),some l =>
   if l.length == size && decide (off + l.length ≤ f.cells.length) then
    let c:=cellF E σ x (fun c=>(6,off + c,0)) l
    fillS E σ T place { cells:=putL f.cells off (refT E T x l),cp:=c.1 ++ f.cp.filter fun p=>!(inR off l.length p.1 || inR off l.length p.2),fs:=c.2 ++ f.fs.filter fun g=>!g.men (inR off l.length) } rest
   else none
  | _,_=>none
def FillOk (C:Cx) (st:St) (f:Fill) (zs:List A):Prop :=
 TV.oks C st.h f.cells zs ∧ ∀ v,Now C st v→(∀ c y,v (6,c,y)=zs.getD c .any)→(∀ p ∈ f.cp,v p.1=v p.2)∧FOk v f.fs
theorem put_in {l:List A} {off:Nat} {xs:List A} (h:off + xs.length ≤ l.length) {c:Nat} (hc:c < xs.length):(put l off xs).getD (off + c) .any=xs.getD c .any:=by
 unfold put
 have htl:(l.take off).length=off:=by simp; omega
 have:=getD_app2 (l:=l.take off) (m:=xs ++ l.drop (off + xs.length)) (i:=c) (d:=A.any)
 rw [htl] at this
 rw [List.append_assoc,this,getD_app1 hc]
theorem put_out {l:List A} {off:Nat} {xs:List A} (h:off + xs.length ≤ l.length) {c:Nat} (hc:c < off ∨ off + xs.length ≤ c):(put l off xs).getD c .any=l.getD c .any:=by
 unfold put
 have htl:(l.take off).length=off:=by simp; omega
 rcases hc with hc | hc
 ·rw [List.append_assoc,getD_app1 (by omega),getD_take hc]
 ·have e1:(l.take off ++ xs).length=off + xs.length:=by rw [List.length_append,htl]
  have e2:=getD_app2 (l:=l.take off ++ xs) (m:=l.drop (off + xs.length)) (i:=c - (off + xs.length)) (d:=A.any)
  rw [e1,show off + xs.length + (c - (off + xs.length))=c by omega,getD_drop,show off + xs.length + (c - (off + xs.length))=c by omega] at e2
  exact e2
theorem refT_ok {C:Cx} (hC:C.Ok) {st:St} {T:Operand→Option TV} (hT:∀ x t,T x=some t→TV.ok C st.h t (st.ev x)) {x:Operand} {l:List TV} (h:TV.oks C st.h l (st.ev x).cells):TV.oks C st.h (refT C.E T x l) (st.ev x).cells∧(refT C.E T x l).length=l.length:=by
 unfold refT
 split
 ·rename_i t ht
  split
  ·rename_i l' hl
   split
   ·rename_i he
    exact ⟨(cellsTV_ok hC (hT x t ht) hl).1,eq_of_beq he⟩
   ·exact ⟨h,rfl⟩
  ·exact ⟨h,rfl⟩
 ·exact ⟨h,rfl⟩
theorem fillS_ok {C:Cx} (hC:C.Ok) {σ:SS} {st:St} (g:Ga C σ st) {T:Operand→Option TV} (hT:∀ x t,T x=some t→TV.ok C st.h t (st.ev x)) {place:Nat→Option (Nat × Nat)}:∀ {parts:List (Nat × Operand)} {f f':Fill} {zs:List A},fillS C.E σ T place f parts=some f'→FillOk C st f zs→∃ zs',fillA place zs (parts.map fun p=>(p.1,st.ev p.2))=some zs' ∧ FillOk C st f' zs'
 | [],f,f',zs,h,hf=>by
  simp only [fillS,Option.some.injEq] at h
  subst h
  exact ⟨zs,rfl,hf⟩
 | (i,x) :: rest,f,f',zs,h,hf=>by
  unfold fillS at h
  split at h
  ·rename_i off size l hpl hl
   split at h
   ·rename_i hc
    rw [Bool.and_eq_true] at hc
    have hc1:l.length=size:=eq_of_beq hc.1
    have hc2:=of_decide_eq_true hc.2
    have hok:=opTV_ok g x
    obtain ⟨x1,x2,x3,x4⟩:=cellsTV_ok hC hok hl
    have hlen:=oks_len hf.1
    have hfit:off + (st.ev x).cells.length ≤ zs.length:=by omega
    have hrt:=refT_ok hC hT x1
    have step:FillOk C st { cells:=putL f.cells off (refT C.E T x l),cp:=(cellF C.E σ x (fun c=>(6,off + c,0)) l).1 ++ f.cp.filter fun p=>!(inR off l.length p.1 || inR off l.length p.2),fs:=(cellF C.E σ x (fun c=>(6,off + c,0)) l).2 ++ f.fs.filter fun g=>!g.men (inR off l.length) } (put zs off (st.ev x).cells):=by
     refine ⟨?_,fun v hv hv6=>?_⟩
     ·show TV.oks C st.h (putL f.cells off (refT C.E T x l)) _
      unfold put putL
      rw [x3,hrt.2]
      exact oks_app (oks_app (oks_take off hf.1) hrt.1) (oks_drop _ hf.1)
     ·have hc:=cellF_ok hC g (f:=fun c=>(6,off + c,0)) hl hv fun c hc=>by
       rw [hv6,put_in hfit (by omega)]
      let w:AP→A:=fun a=>if inR off l.length a=true then zs.getD a.2.1 .any else v a
      have hwv:∀ a,inR off l.length a=false→w a=v a:=fun a ha=>by
       show (if _ then _ else _)=_
       rw [if_neg (by rw [ha]; simp)]
      have hw:Now C st w:=fun a ha=>by
       rw [hwv a ?_,hv a ha]
       unfold inR
       have:(a.1 == 6)=false:=by simp; omega
       rw [this]; rfl
      have hw6:∀ c y,w (6,c,y)=zs.getD c .any:=fun c y=>by
       by_cases hin:inR off l.length (6,c,y)=true
       ·show (if _ then _ else _)=_
        rw [if_pos hin]
       ·have hin:inR off l.length (6,c,y)=false:=by simpa using hin
        rw [hwv _ hin,hv6,put_out hfit ?_]
        simp [inR] at hin
        omega
      have hold:=hf.2 w hw hw6
      refine ⟨fun p hp=>?_,FOkA hc.2 fun q hq=>?_⟩
      ·rcases List.mem_append.1 hp with hp | hp
       ·exact hc.1 p hp
       ·obtain ⟨hp,hn⟩:=List.mem_filter.1 hp
        have hn:inR off l.length p.1=false∧inR off l.length p.2=false:=by simpa using hn
        rw [← hwv _ hn.1,← hwv _ hn.2]
        exact hold.1 p hp
      ·obtain ⟨hq,hn⟩:=List.mem_filter.1 hq
       exact Fact.ok_agree hwv (by simpa using hn) (hold.2 q hq)
    obtain ⟨zs',h1,h2⟩:=fillS_ok hC g hT h step
    refine ⟨zs',?_,h2⟩
    simp only [List.map_cons,fillA,hpl]
    rw [if_neg ?_]
    ·exact h1
    ·rintro (h | h | h)
     ·exact h (by rw [x3,hc1])
     ·omega
     ·rw [cells_any hC hok hl] at h; cases h
   ·cases h
  ·cases h
def zeroFs6:Nat→List Value→List Fact
 | _,[]=>[]
 | k,v :: l=>cstFs (6,k,0) v ++ zeroFs6 (k + 1) l
theorem zeroFs6_ok {v:AP→A}:∀ {l:List Value} {k:Nat},(∀ c,c < l.length→∀ x,l[c]? = some x→v (6,k + c,0)=ofCell x)→FOk v (zeroFs6 k l)
 | [],k,h=>fun f hf=>by cases hf
 | x :: l,k,h=>fun f hf=>by
  rcases List.mem_append.1 hf with hf | hf
  ·exact cstFs_ok (h 0 (by simp) x (by simp)) f hf
  ·exact zeroFs6_ok (l:=l) (k:=k + 1) (fun c hc y hy=>by
    have:=h (c + 1) (by simp; omega) y (by simpa using hy)
    rw [show k + 1 + c=k + (c + 1) by omega]; exact this) f hf
def fill0 (z:Value):Fill:={ cells:=z.cells.toList.map valTV,cp:=[],fs:=zeroFs6 0 z.cells.toList }
theorem fill0_ok (C:Cx) (st:St) (z:Value):FillOk C st (fill0 z) (z.cells.toList.map ofCell):=by
 refine ⟨oks_vals C st.h _,fun v hv hv6=>⟨fun p hp=>(by cases hp),zeroFs6_ok fun c _ x hx=>?_⟩⟩
 rw [Nat.zero_add,hv6,List.getD_eq_getElem?_getD,List.getElem?_map,hx]; rfl
def sBuild (P:Program) (E:Nat→Option (List Ty)) (σ:SS) (t:TypeId) (parts:List (Nat × Operand)):Option Out :=
 match tzero P t,P.underlying t with
 | some z,some (.struct fs) =>
  match places P fs.toList with
  | some pl=>(fillS E σ (fun _=>none) (fun i=>pl[i]?) (fill0 z) parts).map fun f=>{ act:=.wr (mkTV f.cells) f.cp f.fs }
  | none=>none
 | _,_=>none
theorem sBuild_ok {C:Cx} (hC:C.Ok) {X:Orc} {σ:SS} {st:St} (g:Ga C σ st) {o:Oper} {t:TypeId} {parts:Array (Nat × Operand)} (ho:o.op = .build t parts) {out:Out} (h:sBuild C.P C.E σ t parts.toList=some out):OpOk C X σ st o out:=by
 have hop:opE C.P X st.d st.ev st.h (st.d,o.dst.getD st.n) o=plainE (buildE C.P t (parts.toList.map fun p=>(p.1,st.ev p.2))):=by
  obtain ⟨dst,op,ty,pos,af,gd⟩:=o
  simp only at ho
  subst ho; rfl
 unfold sBuild at h
 split at h
 ·rename_i z fs hz hu
  split at h
  ·rename_i pl hpl
   cases hfl:fillS C.E σ (fun _=>none) (fun i=>pl[i]?) (fill0 z) parts.toList with
   | none=>rw [hfl] at h; cases h
   | some f =>
    rw [hfl] at h
    cases h
    obtain ⟨zs,h1,h2,h3⟩:=fillS_ok hC g (fun x t h=>by cases h) hfl (fill0_ok C st z)
    refine out_val hC g (a:=A.mk zs) (rd:=[]) ?_ (mkTV_ok h2) (fun _ hi=>by cases hi) fun v hv=>h3 v hv.now fun c y=>by rw [hv.nc,(mk_cells zs).2.2]
    rw [hop]
    unfold buildE
    rw [hz,hu]
    simp only [hpl,h1]
    rfl
  ·cases h
 ·cases h
end
end
section
noncomputable section
def bestLe (fs:List Fact) (a b:Term):Option Int:=best b (closure fs 14 [(a,0)])
theorem bestLe_ok {v:AP→A} {fs:List Fact} (hf:FOk v fs) {a b:Term} {c:Int} (h:bestLe fs a b=some c):tv v a + c ≤ tv v b:=by
 have h0:BOk v a [(a,0)]:=fun p hp=>by
  simp only [List.mem_singleton] at hp; subst hp; simp
 obtain ⟨p,hp,h2,rfl⟩:=best_ok h
 have h1:=closure_ok hf 14 h0 p hp
 rw [h2] at h1
 exact h1
def loI (fs:List Fact) (L:Term × Int):Int:=if L.1 == zT then L.2 else match bestLe fs zT L.1 with | some c=>if 0 ≤ c then c + L.2 else L.2 | none=>L.2
def hiI (fs:List Fact) (L:Term × Int):Option Int:=if L.1 == zT then some L.2 else (bestLe fs L.1 zT).map fun c=>L.2 - c
theorem loI_ok {v:AP→A} {fs:List Fact} (hf:FOk v fs) {L:Term × Int} (hn:0 ≤ tv v L.1):loI fs L ≤ tv v L.1 + L.2:=by
 unfold loI
 have z0:tv v zT=0:=rfl
 split
 ·omega
 ·split
  ·rename_i c hc
   have:=bestLe_ok hf hc
   split <;> omega
  ·omega
theorem hiI_ok {v:AP→A} {fs:List Fact} (hf:FOk v fs) {L:Term × Int} {c:Int} (h:hiI fs L=some c):tv v L.1 + L.2 ≤ c:=by
 unfold hiI at h
 have z0:tv v zT=0:=rfl
 split at h
 ·rename_i e
  have e:=eq_of_beq e
  cases h
  rw [e,z0]; omega
 ·cases hb:bestLe fs L.1 zT with
  | none=>rw [hb] at h; cases h
  | some d =>
   rw [hb] at h
   cases h
   have:=bestLe_ok hf hb
   show tv v L.1 + L.2 ≤ L.2 - d
   omega
def srcT (t:TV):Option (Ty × List PL) :=
 match t with
 | .c (.lst e _)=>some (e,[])
 | .own p e | .rl p e=>some (e,[p])
 | _=>none
theorem srcT_ok {C:Cx} {h:Id→O} {t:TV} {a:A} {e:Ty} {ps:List PL} (hx:TV.ok C h t a) (hs:srcT t=some (e,ps)):∃ xs rd,elemsOf h a=some (xs,rd)∧(xs.length:Int)=lenA a∧(∀ x ∈ xs,ShT C.R e x) ∧ ∀ i ∈ rd,∃ p ∈ ps,i=C.at p:=by
 have no:∀ i ∈ ([]:List Id),∃ p ∈ ps,i=C.at p:=fun i hi=>by cases hi
 have sl:∀ p ver n (xs:List D) fz,a = .sl (C.at p) ver 0 xs.length→h (C.at p) = .vec ver n xs fz→(∀ x ∈ xs,ShT C.R e x)→p ∈ ps→∃ xs rd,elemsOf h a=some (xs,rd)∧(xs.length:Int)=lenA a∧(∀ x ∈ xs,ShT C.R e x) ∧ ∀ i ∈ rd,∃ p ∈ ps,i=C.at p:=by
  rintro p ver n xs fz rfl hv h1 hp
  refine ⟨xs,[C.at p],?_,rfl,h1,fun i hi=>⟨p,hp,by simpa using hi⟩⟩
  simp only [elemsOf,hv]
  rw [if_pos ⟨trivial,by omega⟩]
  simp
 unfold srcT at hs
 split at hs
 ·cases hs
  simp only [TV.ok,ShT] at hx
  obtain ⟨_,rfl,xs,rfl,_,h1⟩:=hx
  exact ⟨xs,[],rfl,rfl,h1,no⟩
 ·cases hs
  simp only [TV.ok] at hx
  rcases hx with ⟨xs,rfl,h1⟩ | ⟨ver,n,xs,fz,h1,h2,_,h3⟩
  ·exact ⟨xs,[],rfl,rfl,h1,no⟩
  ·exact sl _ ver n xs fz h1 h2 h3 (by simp)
 ·cases hs
  simp only [TV.ok] at hx
  rcases hx with (⟨xs,rfl,h1⟩ | ⟨ver,n,xs,fz,h1,h2,_,h3⟩) | ⟨xs,rfl,h1⟩
  ·exact ⟨xs,[],rfl,rfl,h1,no⟩
  ·exact sl _ ver n xs fz h1 h2 h3 (by simp)
  ·exact ⟨xs,[],rfl,rfl,h1,no⟩
 ·cases hs
theorem headOk_of {C:Cx} (hC:C.Ok) {e:Ty} {sz:Nat} (hsz:sz=e.sz C.E) {xs:List D} (h:∀ x ∈ xs,ShT C.R e x):headOk sz xs=true:=by
 cases xs with
 | nil=>rfl
 | cons x l =>
  show (x.cells.length == sz)=true
  rw [(h x List.mem_cons_self).sz hC.rel,hsz]
  simp
def appFs (fs:List Fact) (S L:Term × Int):List Fact :=
 [.f (leF S ((2,5,0,0),0) (loI fs L))] ++ (match hiI fs L with | some c=>[.f (leF ((2,5,0,0),0) S (-c))] | none=>[])
theorem adopt_lt {i:Id} {k d:Nat} (h:i.1 < d):(adoptId i k).1 < d:=h
def adIn (ads:List (Nat × Nat)) (n:Nat):Bool:=decide (1000 ≤ n) && ads.contains ((n - 1000) / 64,(n - 1000) % 64)
def sAppend (P:Program) (E:Nat→Option (List Ty)) (ads:List (Nat × Nat)) (σ:SS) (dst:Option Nat) (t t':TypeId) (s x:Operand):Option Out :=
 match dst,telem P t,opL σ s,opL σ x,srcT (opTV σ x) with
 | some j,some e,some S,some L,some (ex,ps) =>
  match tsize P e,tzero P e,hiI σ.fs S,hiI σ.fs L with
  | some sz,some z,some cs,some cx =>
   if okSrc P t' && decide (0 < sz) && z.cells.size == sz && sz == ex.sz E && decide ((cs + cx) * (P.bytesOf e + 1) ≤ 70368744177664) && decide (0 ≤ cs) && decide (0 ≤ cx) then
    match opTV σ s with
    | .nilv=>some { act:=.mk (.own (true,j) ex) [] none [] (appFs σ.fs S L),rd:=(j + 1) :: ps.map sN,wr:=[j + 1] }
    | .own (true,pj) el=>if Ty.subE E ex el && sz == el.sz E then some { act:=.mk (.own (true,j) el) [(true,pj)] none [] (appFs σ.fs S L),rd:=(j + 1) :: sN (true,pj) :: ps.map sN,wr:=[sN (true,pj),j + 1] } else none
    | .own (false,n) el=>if adIn ads n && (Ty.subE E ex el && sz == el.sz E) then some { act:=.gen (.own (true,j) el) [(true,j),(false,n)] [] [] (appFs σ.fs S L),rd:=(j + 1) :: sN (false,n) :: ps.map sN,wr:=[sN (false,n),j + 1] } else none
    | _=>none
   else none
  | _,_,_,_=>none
 | _,_,_,_,_=>none
theorem appFs_ok {v:AP→A} {fs:List Fact} (hf:FOk v fs) {S L:Term × Int} {a b n:Int} (h5:lenA (v (5,0,0))=n) (hn:n=a + b) (ha:a=tv v S.1 + S.2) (hb:b=tv v L.1 + L.2) (hL:0 ≤ tv v L.1):FOk v (appFs fs S L):=by
 have h6:tv v (2,5,0,0)=n:=h5
 refine FOkA ?_ ?_
 ·intro f hm
  simp only [List.mem_singleton] at hm
  subst hm
  have:=loI_ok hf hL
  exact leF_ok.2 (by simp only [h6]; omega)
 ·split
  ·rename_i c hc
   intro f hm
   simp only [List.mem_singleton] at hm
   subst hm
   have:=hiI_ok hf hc
   exact leF_ok.2 (by simp only [h6]; omega)
  ·intro f hm; cases hm
theorem opL_nn {σ:SS} {o:Operand} {T:Term} {z:Int} (h:opL σ o=some (T,z)) (v:AP→A):0 ≤ tv v T:=by
 unfold opL at h
 split at h
 ·split at h
  ·cases h; exact lenA_nonneg _
  ·cases h
 ·cases h; exact Int.le_refl _
 ·cases h; exact Int.le_refl _
 ·cases h
theorem appendE_own {P:Program} {h:Id→O} {id i:Id} {t e:TypeId} {x:A} {sz ver n:Nat} {z:Value} {xs ys:List D} {rx:List Id} {fz:Bool} (h1:telem P t=some e) (h2:tsize P e=some sz) (h3:tzero P e=some z) (h4:elemsOf h x=some (ys,rx)) (h5:0 < sz) (h6:headOk sz ys=true) (h7:z.cells.size=sz) (h8:h i = .vec ver n xs fz) (h9:n=sz) (h10:(xs.length + ys.length) * (P.bytesOf e + 1) ≤ 70368744177664) :
  appendE P h id t (.sl i ver 0 xs.length) x=some { v:=.sl id ((h id).ver + 1) 0 (xs.length + ys.length),rd:=id :: i :: rx,wr:=[(i,.no ver),(id,.vec ((h id).ver + 1) sz (xs ++ ys) fz)] }:=by
 unfold appendE
 simp only [h1,h2,h3,h4,h8]
 rw [if_pos ⟨h5,h6,h7⟩,if_pos ⟨trivial,by omega,h9,h10⟩]
 simp
theorem appendE_clip {P:Program} {h:Id→O} {id:Id} {t e:TypeId} {x:A} {sz:Nat} {z:Value} {xs ys:List D} {rx:List Id} (h1:telem P t=some e) (h2:tsize P e=some sz) (h3:tzero P e=some z) (h4:elemsOf h x=some (ys,rx)) (h5:0 < sz) (h6:headOk sz ys=true) (h7:z.cells.size=sz) (h8:headOk sz xs=true) (h10:(xs.length + ys.length) * (P.bytesOf e + 1) ≤ 70368744177664) :
  appendE P h id t (.clip xs) x=if ys.isEmpty && !xs.isEmpty then some { v:=.clip xs,rd:=rx } else some { v:=.sl id ((h id).ver + 1) 0 (xs.length + ys.length),rd:=id :: rx,wr:=[(id,.vec ((h id).ver + 1) sz (xs ++ ys) false)] }:=by
 unfold appendE
 simp only [h1,h2,h3,h4]
 rw [if_pos ⟨h5,h6,h7⟩,if_pos ⟨h8,h10⟩]
theorem adIn_ok {C:Cx} (hC:C.Ok) {n:Nat} (h:adIn C.ads n=true):C.wid (C.π n)∧(C.π n).1 < C.d ∧ ∃ p ∈ C.ads,C.π n=adoptId (C.π p.1) p.2:=by
 unfold adIn at h
 rw [Bool.and_eq_true] at h
 have h1:=of_decide_eq_true h.1
 have h2:((n - 1000) / 64,(n - 1000) % 64) ∈ C.ads:=by simpa using h.2
 have h3:=hC.adk _ h2
 have h4:=hC.ad _ _ h3.1 h3.2
 rw [show 1000 + 64 * ((n - 1000) / 64) + (n - 1000) % 64=n by omega] at h4
 refine ⟨Or.inr ⟨_,h2,h4⟩,?_,_,h2,h4⟩
 rw [h4]
 exact adopt_lt (hC.low _ h3.1)
theorem sAppend_ok {C:Cx} (hC:C.Ok) {X:Orc} {σ:SS} {st:St} (g:Ga C σ st) {o:Oper} {t t':TypeId} {s x:Operand} (ho:o.op = .call ⟨.builtin .append,#[s,x],#[t,t']⟩) {out:Out} (h:sAppend C.P C.E C.ads σ o.dst t t' s x=some out):OpOk C X σ st o out:=by
 unfold sAppend at h
 split at h
 ·rename_i j e S L ex ps hdst he hS hL hsrc
  split at h
  ·rename_i sz z cs cx hsz hz hcs hcx
   split at h
   ·rename_i hc
    simp only [Bool.and_eq_true] at hc
    obtain ⟨⟨⟨⟨⟨⟨c1,c2⟩,c3⟩,c4⟩,c5⟩,c6⟩,c7⟩:=hc
    have c2:=of_decide_eq_true c2
    have c3:z.cells.size=sz:=eq_of_beq c3
    have c4:sz=ex.sz C.E:=eq_of_beq c4
    have c5:=of_decide_eq_true c5
    have hd:(st.d,o.dst.getD st.n)=(C.d,j):=by rw [hdst,g.d]; rfl
    have hop:opE C.P X st.d st.ev st.h (st.d,o.dst.getD st.n) o=appendE C.P st.h (C.d,j) t (st.ev s) (st.ev x):=by
     rw [hd]
     obtain ⟨dst,op,ty,pos,af,gd⟩:=o
     simp only at ho
     subst ho
     show (if okSrc C.P t' then _ else _)=_
     rw [if_pos c1]
    obtain ⟨ys,rx,y1,y2,y3,y4⟩:=srcT_ok (opTV_ok g x) hsrc
    have lS:=opL_ok g hS (nows C st)
    have lL:=opL_ok g hL (nows C st)
    have bS:=hiI_ok g.nows hcs
    have bL:=hiI_ok g.nows hcx
    have hky:=headOk_of hC c4 y3
    have size:∀ n:Nat,(n:Int)=lenA (st.ev s)→(n + ys.length) * (C.P.bytesOf e + 1) ≤ 70368744177664:=by
     intro n hn
     have h1:((n + ys.length:Nat):Int) ≤ cs + cx:=by omega
     have h2:((n + ys.length:Nat):Int) * ((C.P.bytesOf e + 1:Nat):Int) ≤ (cs + cx) * ((C.P.bytesOf e + 1:Nat):Int):=Int.mul_le_mul_of_nonneg_right h1 (by omega)
     have h3:(cs + cx) * ((C.P.bytesOf e + 1:Nat):Int) ≤ 70368744177664:=by
      have:((C.P.bytesOf e + 1:Nat):Int)=(C.P.bytesOf e:Int) + 1:=by omega
      rw [this]; exact c5
     have h4:(((n + ys.length) * (C.P.bytesOf e + 1):Nat):Int) ≤ 70368744177664:=by
      rw [Int.natCast_mul]; omega
     omega
    have fsok2:∀ (n:Nat),(n:Int)=lenA (st.ev s)→∀ (a:A) v,Now C st v→v (5,0,0)=a→lenA a=((n + ys.length:Nat):Int)→FOk v (appFs σ.fs S L):=by
     intro n hn a v hv h5 ha
     exact appFs_ok (g.fs v hv) (a:=n) (b:=ys.length) (n:=((n + ys.length:Nat):Int)) (by rw [h5]; exact ha) (by omega) (by rw [hn]; exact opL_ok g hS hv) (by rw [y2]; exact opL_ok g hL hv) (opL_nn hL v)
    have fsok:∀ (n:Nat),(n:Int)=lenA (st.ev s)→∀ a bc v,New C st a bc v→lenA a=((n + ys.length:Nat):Int)→FOk v (appFs σ.fs S L):=fun n hn a bc v hv ha=>fsok2 n hn a v hv.now (hv.nv 0 0) ha
    have hrx:∀ i ∈ rx,slotC C i ∈ ps.map sN:=fun i hi=>by
     obtain ⟨p,hp,rfl⟩:=y4 i hi
     rw [sN_at hC]; exact List.mem_map_of_mem hp
    have fresh:∀ (el:Ty) (ks:List PL) (xs:List D) (rds wrs:List Nat),appendE C.P st.h (C.d,j) t (st.ev s) (st.ev x)=some { v:=.sl (C.d,j) ((st.h (C.d,j)).ver + 1) 0 (xs.length + ys.length),rd:=(C.d,j) :: rx,wr:=[((C.d,j),.vec ((st.h (C.d,j)).ver + 1) sz (xs ++ ys) false)] } →
      (xs.length:Int)=lenA (st.ev s)→sz=el.sz C.E→(∀ x ∈ xs,ShT C.R el x)→(∀ x ∈ ys,ShT C.R el x)→(∀ x ∈ (j + 1) :: ps.map sN,x ∈ rds)→j + 1 ∈ wrs →
      OpOk C X σ st o { act:=.mk (.own (true,j) el) ks none [] (appFs σ.fs S L),rd:=rds,wr:=wrs }:=by
     intro el ks xs rds wrs hap hlen hel h1 h2 h3 h4
     intro σ' hσ
     rw [hdst] at hσ
     cases hσ
     refine ⟨_,by rw [hop]; exact hap,?_,⟨?_,?_,?_⟩,?_⟩
     ·show ((C.d == st.d || _) && okW st.d st.al [])=true
      rw [g.d]; simp [okW]
     ·intro y hy
      obtain ⟨i,hi,rfl⟩:=List.mem_map.1 hy
      rcases List.mem_cons.1 hi with rfl | hi
      ·rw [slotC_own]; exact h3 _ List.mem_cons_self
      ·exact h3 _ (List.mem_cons_of_mem _ (hrx i hi))
     ·intro y hy
      simp only [sigE,List.map_cons,List.map_nil,List.mem_singleton] at hy
      subst hy; rw [slotC_own]; exact h4
     ·intro hy; cases hy
     ·rw [hdst]
      have hout:∀ i,({ v:=A.sl (C.d,j) ((st.h (C.d,j)).ver + 1) 0 (xs.length + ys.length),rd:=(C.d,j) :: rx,wr:=[((C.d,j),O.vec ((st.h (C.d,j)).ver + 1) sz (xs ++ ys) false)] }:Eff).out st.h i=upd st.h (C.d,j) (.vec ((st.h (C.d,j)).ver + 1) sz (xs ++ ys) false) i:=fun _=>rfl
      refine mk_ok hC g (bc:=[]) (fun q hq=>?_) (fun i hi=>?_) (fun i c hi=>?_) (fun c=>?_) (fun k c=>?_) ?_ (fun ts h=>by cases h) (fun u h=>by cases h) (fun v _ p hp=>by cases hp) fun v hv=>fsok _ hlen _ _ v hv rfl
      ·rw [hout,upd_at,if_neg (fun h=>hq (by rw [at_inj hC h]; simp))]
       exact Fz_refl _
      ·rw [hout,upd_at,if_neg (by rintro rfl; exact Nat.lt_irrefl _ hi)]
      ·rw [hout,upd_at,if_neg (fun h=>hi (Prod.mk.inj h).2)]
      ·rw [hout,upd_at,if_pos rfl]; rfl
      ·rw [hout,upd_at,if_neg (fun h=>hC.dis k (congrArg Prod.fst h))]
      ·simp only [TV.ok]
       refine Or.inr ⟨_,sz,xs ++ ys,false,by rw [List.length_append]; rfl,?_,hel,fun y hy=>?_⟩
       ·exact (hout (C.d,j)).trans (by rw [upd_at,if_pos rfl])
       ·rcases List.mem_append.1 hy with hy | hy
        ·exact h1 y hy
        ·exact h2 y hy
    split at h
    ·rename_i hts
     cases h
     have hs:=opTV_ok g s
     rw [hts] at hs
     simp only [TV.ok] at hs
     refine fresh ex [] [] _ _ ?_ (by rw [hs]; rfl) c4 (fun y hy=>by cases hy) y3 (fun _ h=>h) (by simp)
     rw [hs,appendE_clip (xs:=[]) he hsz hz y1 c2 hky c3 rfl (size 0 (by rw [hs]; rfl))]
     simp
    ·rename_i pj el hts
     split at h
     ·rename_i hcp
      rw [Bool.and_eq_true] at hcp
      cases h
      have hel:sz=el.sz C.E:=eq_of_beq hcp.2
      have hys:∀ y ∈ ys,ShT C.R el y:=fun y hy=>subE_ok hC.rel hcp.1 (y3 y hy)
      have hs:=opTV_ok g s
      rw [hts] at hs
      simp only [TV.ok] at hs
      rcases hs with ⟨xs,hs,h1⟩ | ⟨ver,n,xs,fz,hs,hv,hn,h1⟩
      ·
       have hap:=appendE_clip (id:=(C.d,j)) he hsz hz y1 c2 hky c3 (headOk_of hC hel h1) (size xs.length (by rw [hs]; rfl))
       by_cases hem:(ys.isEmpty && !xs.isEmpty)=true
       ·rw [if_pos hem] at hap
        rw [Bool.and_eq_true] at hem
        have hys0:ys=[]:=by simpa using hem.1
        intro σ' hσ
        rw [hdst] at hσ
        cases hσ
        refine ⟨_,by rw [hop,hs]; exact hap,rfl,⟨?_,?_,?_⟩,?_⟩
        ·intro y hy
         obtain ⟨i,hi,rfl⟩:=List.mem_map.1 hy
         exact List.mem_cons_of_mem _ (List.mem_cons_of_mem _ (hrx i hi))
        ·intro y hy; cases hy
        ·intro hy; cases hy
        ·rw [hdst]
         refine mk_ok hC g (bc:=match st.h (C.d,j) with | .box _ cs=>cs | _=>[]) (fun q hq=>Fz_refl _) (fun i hi=>rfl) (fun i c hi=>rfl) (fun c=>?_) (fun k c=>rfl) ?_ (fun ts h=>by cases h) (fun u h=>by cases h) (fun v _ p hp=>by cases hp) fun v hv=>fsok xs.length (by rw [hs]; rfl) _ _ v hv (by rw [hys0]; rfl)
         ·show boxCell (st.h (C.d,j)) c=_
          cases st.h (C.d,j) <;> rfl
         ·simp only [TV.ok]; exact Or.inl ⟨xs,rfl,h1⟩
       ·rw [if_neg hem] at hap
        exact fresh el _ xs _ _ (by rw [hs]; exact hap) (by rw [hs]; rfl) hel h1 hys (fun y hy=>by
         rcases List.mem_cons.1 hy with rfl | hy
         ·exact List.mem_cons_self
         ·exact List.mem_cons_of_mem _ (List.mem_cons_of_mem _ hy)) (by simp)
      ·have hap:=appendE_own (id:=(C.d,j)) he hsz hz y1 c2 hky c3 hv (by rw [hn,hel]) (size xs.length (by rw [hs]; rfl))
       have hat:C.at (true,pj)=(C.d,pj):=rfl
       rw [hat] at hap hs hv
       intro σ' hσ
       rw [hdst] at hσ
       cases hσ
       refine ⟨_,by rw [hop,hs]; exact hap,?_,⟨?_,?_,?_⟩,?_⟩
       ·show ((C.d == st.d || _) && ((C.d == st.d || _) && okW st.d st.al []))=true
        rw [g.d]; simp [okW]
       ·intro y hy
        obtain ⟨i,hi,rfl⟩:=List.mem_map.1 hy
        rcases List.mem_cons.1 hi with rfl | hi
        ·rw [slotC_own]; exact List.mem_cons_self
        ·rcases List.mem_cons.1 hi with rfl | hi
         ·rw [slotC_own]; exact List.mem_cons_of_mem _ List.mem_cons_self
         ·exact List.mem_cons_of_mem _ (List.mem_cons_of_mem _ (hrx i hi))
       ·intro y hy
        simp only [sigE,List.map_cons,List.map_nil,List.mem_cons,List.not_mem_nil,or_false] at hy
        rcases hy with rfl | rfl
        ·rw [slotC_own]; exact List.mem_cons_self
        ·rw [slotC_own]; exact List.mem_cons_of_mem _ List.mem_cons_self
       ·intro hy; cases hy
       ·rw [hdst]
        have hout:∀ i,({ v:=A.sl (C.d,j) ((st.h (C.d,j)).ver + 1) 0 (xs.length + ys.length),rd:=(C.d,j) :: (C.d,pj) :: rx,wr:=[((C.d,pj),O.no ver),((C.d,j),O.vec ((st.h (C.d,j)).ver + 1) sz (xs ++ ys) fz)] }:Eff).out st.h i=upd (upd st.h (C.d,pj) (.no ver)) (C.d,j) (.vec ((st.h (C.d,j)).ver + 1) sz (xs ++ ys) fz) i:=fun _=>rfl
        refine mk_ok hC g (bc:=[]) (fun q hq=>?_) (fun i hi=>?_) (fun i c hi=>?_) (fun c=>?_) (fun k c=>?_) ?_ (fun ts h=>by cases h) (fun u h=>by cases h) (fun v _ p hp=>by cases hp) fun v hv=>fsok xs.length (by rw [hs]; rfl) _ _ v hv rfl
        ·rw [hout,upd_at,if_neg (fun h=>hq (by rw [at_inj hC h]; simp)),upd_at,if_neg (fun h=>hq (by rw [at_inj hC h]; simp))]
         exact Fz_refl _
        ·rw [hout,upd_at,if_neg (by rintro rfl; exact Nat.lt_irrefl _ hi),upd_at,if_neg (by rintro rfl; exact Nat.lt_irrefl _ hi)]
        ·rw [hout,upd_at,if_neg (fun h=>hi (Prod.mk.inj h).2),upd_at]
         split
         ·rename_i e
          rw [e,hv]; rfl
         ·rfl
        ·rw [hout,upd_at,if_pos rfl]; rfl
        ·rw [hout,upd_at,if_neg (fun h=>hC.dis k (congrArg Prod.fst h)),upd_at,if_neg (fun h=>hC.dis k (congrArg Prod.fst h))]
        ·simp only [TV.ok]
         refine Or.inr ⟨_,sz,xs ++ ys,fz,by rw [List.length_append]; rfl,?_,hel,fun y hy=>?_⟩
         ·exact (hout (C.d,j)).trans (by rw [upd_at,if_pos rfl])
         ·rcases List.mem_append.1 hy with hy | hy
          ·exact h1 y hy
          ·exact hys y hy
     ·cases h
    ·rename_i n el hts
     split at h
     ·rename_i hcp
      rw [Bool.and_eq_true,Bool.and_eq_true] at hcp
      cases h
      obtain ⟨hwid,hlow,pa,hpa,hpe⟩:=adIn_ok hC hcp.1
      have hal:C.π n ∈ st.al:=by rw [hpe]; exact g.al.2 _ hpa
      have hel:sz=el.sz C.E:=eq_of_beq hcp.2.2
      have hys:∀ y ∈ ys,ShT C.R el y:=fun y hy=>subE_ok hC.rel hcp.2.1 (y3 y hy)
      have hs:=opTV_ok g s
      rw [hts] at hs
      simp only [TV.ok] at hs
      have hne:∀ i:Nat,(C.d,i) ≠ C.π n:=fun i e=>by
       have:C.d=(C.π n).1:=congrArg Prod.fst e
       omega
      have sπ:slotC C (C.π n)=sN (false,n):=sN_at hC (false,n)
      have key:∀ (e0:Eff),appendE C.P st.h (C.d,j) t (st.ev s) (st.ev x)=some e0→e0.ra=false→(∀ i ∈ e0.rd,i=(C.d,j) ∨ i=C.π n ∨ i ∈ rx)→(∀ p ∈ e0.wr,p.1=(C.d,j) ∨ p.1=C.π n)→(∀ i,i ≠ (C.d,j)→i ≠ C.π n→e0.out st.h i=st.h i) →
        TV.ok C (e0.out st.h) (.own (true,j) el) e0.v→(∃ m:Nat,(m:Int)=lenA (st.ev s)∧lenA e0.v=((m + ys.length:Nat):Int)) →
        OpOk C X σ st o { act:=.gen (.own (true,j) el) [(true,j),(false,n)] [] [] (appFs σ.fs S L),rd:=(j + 1) :: sN (false,n) :: ps.map sN,wr:=[sN (false,n),j + 1] }:=by
       rintro e0 k1 k2 k3 k4 k5 k6 ⟨m,k7,k8⟩
       have other:∀ q:PL,q ∉ [(true,j),(false,n)]→e0.out st.h (C.at q)=st.h (C.at q):=fun q hq=>by
        simp only [List.mem_cons,List.not_mem_nil,or_false,not_or] at hq
        exact k5 _ (fun h=>hq.1 (at_inj hC h)) (fun h=>hq.2 (at_inj2 hC (q:=(false,n)) h))
       intro σ' hσ
       rw [hdst] at hσ
       cases hσ
       refine ⟨e0,by rw [hop]; exact k1,?_,⟨?_,?_,?_⟩,?_⟩
       ·refine okW_ofQ fun p hp=>?_
        rcases k4 p hp with h | h
        ·exact Or.inl (by rw [h]; exact g.d.symm)
        ·exact Or.inr (by rw [h]; exact hal)
       ·intro y hy
        obtain ⟨i,hi,rfl⟩:=List.mem_map.1 hy
        rcases k3 i hi with rfl | rfl | hi
        ·rw [slotC_own]; exact List.mem_cons_self
        ·rw [sπ]; exact List.mem_cons_of_mem _ List.mem_cons_self
        ·exact List.mem_cons_of_mem _ (List.mem_cons_of_mem _ (hrx i hi))
       ·intro y hy
        obtain ⟨p,hp,rfl⟩:=List.mem_map.1 hy
        rcases k4 p hp with h | h
        ·rw [h,slotC_own]; simp
        ·rw [h,sπ]; simp
       ·intro y
        have y:e0.ra=true:=y
        rw [k2] at y; cases y
       ·rw [hdst]
        refine gen_ok hC g (bcs:=[(match e0.out st.h (C.d,j) with | .box _ cs=>cs | _=>[]),(match e0.out st.h (C.π n) with | .box _ cs=>cs | _=>[])]) (fun p hk _=>?_) (fun p hk hb=>(by cases hb)) (fun id hid hw=>?_) (fun _=>k6) (fun p hp=>(by cases hp)) (fun p hp=>(by cases hp)) (fun b p hp c=>?_) (fun p _ hk c=>?_) (fun v hv p hp=>(by cases hp)) (fun v hv=>fsok2 m k7 e0.v v hv.now (hv.nv 0 0) k8)
        ·rw [other p hk]; exact Fz_refl _
        ·exact k5 id (by rintro rfl; exact Nat.lt_irrefl _ hid) (by rintro rfl; exact hw hwid)
        ·match b,hp with
         | 0,hp =>
          have hp:(true,j)=p:=by simpa using hp
          subst hp
          show boxCell (e0.out st.h (C.d,j)) c=_
          cases e0.out st.h (C.d,j) <;> rfl
         | 1,hp =>
          have hp:(false,n)=p:=by simpa using hp
          subst hp
          show boxCell (e0.out st.h (C.π n)) c=_
          cases e0.out st.h (C.π n) <;> rfl
         | b + 2,hp=>simp at hp
        ·rw [other p hk]
      rcases hs with ⟨xs,hs,h1⟩ | ⟨ver,n',xs,fz,hs,hv,hn,h1⟩
      ·have hap:=appendE_clip (id:=(C.d,j)) he hsz hz y1 c2 hky c3 (headOk_of hC hel h1) (size xs.length (by rw [hs]; rfl))
       by_cases hem:(ys.isEmpty && !xs.isEmpty)=true
       ·rw [if_pos hem] at hap
        rw [Bool.and_eq_true] at hem
        have hys0:ys=[]:=by simpa using hem.1
        refine key _ (by rw [hs]; exact hap) rfl (fun i hi=>Or.inr (Or.inr hi)) (fun p hp=>by cases hp) (fun i _ _=>rfl) ?_ ⟨xs.length,by rw [hs]; rfl,by rw [hys0]; rfl⟩
        simp only [TV.ok]; exact Or.inl ⟨xs,rfl,h1⟩
       ·rw [if_neg hem] at hap
        refine key _ (by rw [hs]; exact hap) rfl (fun i hi=>?_) (fun p hp=>?_) (fun i hi _=>?_) ?_ ⟨xs.length,by rw [hs]; rfl,rfl⟩
        ·rcases List.mem_cons.1 hi with rfl | hi
         ·exact Or.inl rfl
         ·exact Or.inr (Or.inr hi)
        ·simp only [List.mem_singleton] at hp
         subst hp; exact Or.inl rfl
        ·show upd st.h (C.d,j) _ i=_
         rw [upd_at,if_neg hi]
        ·simp only [TV.ok]
         refine Or.inr ⟨_,sz,xs ++ ys,false,by rw [List.length_append]; rfl,?_,hel,fun y hy=>?_⟩
         ·show upd st.h (C.d,j) _ (C.d,j)=_
          rw [upd_at,if_pos rfl]
         ·rcases List.mem_append.1 hy with hy | hy
          ·exact h1 y hy
          ·exact hys y hy
      ·have hap:=appendE_own (id:=(C.d,j)) he hsz hz y1 c2 hky c3 hv (by rw [hn,hel]) (size xs.length (by rw [hs]; rfl))
       have hat:C.at (false,n)=C.π n:=rfl
       rw [hat] at hap hs hv
       refine key _ (by rw [hs]; exact hap) rfl (fun i hi=>?_) (fun p hp=>?_) (fun i hi hi2=>?_) ?_ ⟨xs.length,by rw [hs]; rfl,rfl⟩
       ·rcases List.mem_cons.1 hi with rfl | hi
        ·exact Or.inl rfl
        ·rcases List.mem_cons.1 hi with rfl | hi
         ·exact Or.inr (Or.inl rfl)
         ·exact Or.inr (Or.inr hi)
       ·simp only [List.mem_cons,List.not_mem_nil,or_false] at hp
        rcases hp with rfl | rfl
        ·exact Or.inr rfl
        ·exact Or.inl rfl
       ·show upd (upd st.h (C.π n) _) (C.d,j) _ i=_
        rw [upd_at,if_neg hi,upd_at,if_neg hi2]
       ·simp only [TV.ok]
        refine Or.inr ⟨_,sz,xs ++ ys,fz,by rw [List.length_append]; rfl,?_,hel,fun y hy=>?_⟩
        ·show upd (upd st.h (C.π n) _) (C.d,j) _ (C.d,j)=_
         rw [upd_at,if_pos rfl]
        ·rcases List.mem_append.1 hy with hy | hy
         ·exact h1 y hy
         ·exact hys y hy
     ·cases h
    ·cases h
   ·cases h
  ·cases h
 ·cases h
def cellTy:TV→Option Ty
 | .c t=>if t.flat then some t else none
 | .nilv=>some (.lst .any 0)
 | _=>none
def cellTys:List TV→Option (List Ty)
 | []=>some []
 | t :: l=>match cellTy t,cellTys l with | some u,some us=>some (u :: us) | _,_=>none
theorem cellTys_ok {C:Cx} {h:Id→O}:∀ {ts:List TV} {us:List Ty} {zs:List A},cellTys ts=some us→TV.oks C h ts zs→∃ ds,fzCells h zs=some (ds,[])∧ShL C.R us ds∧zs.all A.one=true
 | [],us,zs,hu,hx=>by
  simp only [cellTys,Option.some.injEq] at hu
  simp only [TV.oks] at hx
  subst hu hx
  exact ⟨[],rfl,by simp [ShL],rfl⟩
 | t :: ts,us,zs,hu,hx=>by
  simp only [TV.oks] at hx
  obtain ⟨a,l,rfl,h2,h3⟩:=hx
  unfold cellTys at hu
  split at hu
  ·rename_i u us' h4 h5
   cases hu
   obtain ⟨ds,e1,e2,e3⟩:=cellTys_ok h5 h3
   have key:∃ x,fzCell h a=some (x,[])∧x.flat=true∧ShT C.R u x∧A.one a=true:=by
    unfold cellTy at h4
    split at h4
    ·split at h4
     ·rename_i hf
      cases h4
      simp only [TV.ok] at h2
      obtain ⟨x,rfl,h2⟩:=h2
      obtain ⟨k1,k2,k3⟩:=flat_ok h2 hf
      refine ⟨x,rfl,?_,h2,k1⟩
      cases x with
      | agg ds'=>exact absurd rfl (k3 ds')
      | _=>rfl
     ·cases h4
    ·cases h4
     simp only [TV.ok] at h2
     subst h2
     refine ⟨.lst [],rfl,rfl,?_,rfl⟩
     simp only [ShT]
     exact ⟨[],rfl,Nat.le_refl _,fun y hy=>by cases hy⟩
    ·cases h4
   obtain ⟨x,k1,k2,k3,k4⟩:=key
   refine ⟨x :: ds,?_,?_,?_⟩
   ·unfold fzCells
    rw [k1,e1]
    simp only
    rw [if_pos k2]; rfl
   ·simp only [ShL]; exact ⟨x,ds,rfl,k3,e2⟩
   ·simp only [List.all_cons,k4,e3]; rfl
  ·cases hu
def chunkTy (ag:Bool) (sz:Nat):Nat→List Ty→List Ty
 | 0,_=>[]
 | n + 1,l=>(if ag then .st (l.take sz) else (l.head?).getD .any) :: chunkTy ag sz n (l.drop sz)
theorem chunk_ok {C:Cx} (hC:C.Ok) {ag:Bool} {sz:Nat} (hsz:0 < sz) {el:Ty}:∀ {n:Nat} {ts:List Ty} {ds:List D},ShL C.R ts ds→n * sz ≤ ds.length→(chunkTy ag sz n ts).all (fun t=>Ty.sub t el)=true→(∀ x ∈ chunk ag sz n ds,ShT C.R el x)∧(chunk ag sz n ds).length=n
 | 0,ts,ds,_,_,_=>⟨fun x hx=>(by cases hx),rfl⟩
 | n + 1,ts,ds,h1,h2,h3=>by
  unfold chunkTy at h3
  rw [List.all_cons,Bool.and_eq_true] at h3
  have e:(n + 1) * sz=n * sz + sz:=Nat.succ_mul n sz
  obtain ⟨i1,i2⟩:=chunk_ok (n:=n) hC hsz (ShL_drop sz h1) (by rw [List.length_drop]; omega) h3.2
  unfold chunk
  refine ⟨fun x hx=>?_,by simp [i2]⟩
  rcases List.mem_cons.1 hx with rfl | hx
  ·refine sub_ok hC.rel _ _ _ h3.1 ?_
   cases ag with
   | true=>simp only [if_true,ShT]; exact ⟨_,rfl,ShL_take sz h1⟩
   | false =>
    simp only [Bool.false_eq_true,if_false]
    cases ts with
    | nil=>simp only [ShL] at h1; subst h1; simp at h2; omega
    | cons t ts =>
     simp only [ShL] at h1
     obtain ⟨x,l,rfl,h4,_⟩:=h1
     exact h4
  ·exact i1 x hx
def joinT (t u:Ty):Ty:=if Ty.sub t u then u else t
def ixT (ixs:List Nat) (σ:SS) (x:Operand):Option TV :=
 match opTV σ x,opI σ x with
 | .c (.int .i64),some I=>(ixs.find? fun m=>decide (m < 500) && leI σ.fs (zT,0) I 0 && leI σ.fs I ((1,4,3000 + m,0),0) 1).map fun m=>.c (.ix m)
 | _,_=>none
theorem ixT_ok {C:Cx} (hC:C.Ok) {σ:SS} {st:St} (g:Ga C σ st) {ixs:List Nat}:∀ x t,ixT ixs σ x=some t→TV.ok C st.h t (st.ev x):=by
 intro x t h
 unfold ixT at h
 split at h
 ·rename_i I hx hI
  obtain ⟨m,hm,rfl⟩:=Option.map_eq_some_iff.1 h
  have h1:=List.find?_some hm
  rw [Bool.and_eq_true,Bool.and_eq_true] at h1
  obtain ⟨⟨hm5,h1⟩,h2⟩:=h1
  have hm5:=of_decide_eq_true hm5
  have h1:=And.intro h1 h2
  have hok:=opTV_ok g x
  rw [hx] at hok
  simp only [TV.ok,ShT] at hok
  obtain ⟨_,e,n,rfl⟩:=hok
  have c1:=opI_ok g hI (nows C st)
  rw [e] at c1
  have c1:n=_:=c1
  have b1:=leI_ok g.nows h1.1
  have b2:=leI_ok g.nows h1.2
  have z0:tv (apv C st) zT=0:=rfl
  have zg:tv (apv C st) (1,4,3000 + m,0)=C.bd m:=hC.gb m
  simp only [z0,zg] at b1 b2
  simp only [TV.ok,ShT]
  exact ⟨_,e,n,rfl,(hC.ix m n hm5).2 ⟨by omega,by omega⟩⟩
 ·cases h
theorem flat_len {α:Type} (l:List α):∀ n,(List.replicate n l).flatten.length=n * l.length
 | 0=>by simp
 | n + 1=>by rw [List.replicate_succ,List.flatten_cons,List.length_append,flat_len l n,Nat.succ_mul]; omega
def nmPart (σ:SS) (ag:Bool) (len:Nat) (parts:List (Nat × Operand)):Option Nat :=
 match ag,len,parts with
 | true,1,[(0,x)]=>(match opTV σ x with | .c (.nm i)=>some i | _=>none)
 | _,_,_=>none
theorem fz_ds (h:Id→O):∀ {l m:List D} {is:List Id},fzCells h (l.map A.d)=some (m,is)→m=l
 | [],m,is,hm=>by
  simp only [List.map_nil,fzCells,Option.some.injEq,Prod.mk.injEq] at hm
  exact hm.1.symm
 | x :: l,m,is,hm=>by
  simp only [List.map_cons] at hm
  unfold fzCells at hm
  split at hm
  ·rename_i x' i xs j h1 h2
   split at hm
   ·simp only [Option.some.injEq,Prod.mk.injEq] at hm
    have:=fz_ds h h2
    unfold fzCell at h1
    simp only [Option.some.injEq,Prod.mk.injEq] at h1
    rw [← hm.1,← h1.1,this]
   ·cases hm
  ·cases hm
theorem nmPart_ok {C:Cx} (hC:C.Ok) {σ:SS} {st:St} (g:Ga C σ st) {ag:Bool} {len sz i:Nat} {parts:List (Nat × Operand)} (h:nmPart σ ag len parts=some i) {cells zs:List A} (hl:cells.length=len * sz)
  (hf:fillA (fun i=>some (i * sz,sz)) cells (parts.map fun p=>(p.1,st.ev p.2))=some zs) {hh:Id→O} {ds:List D} (hz:fzCells hh zs=some (ds,[])):(∀ x ∈ chunk ag sz len ds,ShT C.R (.nm i) x)∧(chunk ag sz len ds).length=len:=by
 unfold nmPart at h
 split at h
 ·rename_i x
  split at h
  ·rename_i i' hx
   cases h
   have hok:=opTV_ok g x
   rw [hx] at hok
   simp only [TV.ok,ShT] at hok
   obtain ⟨y,e,hy⟩:=hok
   obtain ⟨ts,ds0,_,rfl,_⟩:=hC.rel.unf _ _ hy
   simp only [List.map_cons,List.map_nil,e] at hf
   unfold fillA at hf
   simp only [Nat.zero_mul,Nat.zero_add] at hf
   split at hf
   ·cases hf
   ·rename_i hn
    have hn1:ds0.length=sz:=by
     refine Classical.byContradiction fun hc=>hn (Or.inl ?_)
     intro h'
     apply hc
     rw [← h']
     show _=(ds0.map A.d).length
     simp
    have hcl:cells.length=sz:=by omega
    unfold fillA at hf
    have hp:put cells 0 (A.cells (.d (.agg ds0)))=ds0.map A.d:=by
     show cells.take 0 ++ ds0.map A.d ++ cells.drop (0 + (ds0.map A.d).length)=_
     rw [List.drop_eq_nil_of_le (by simp; omega)]
     simp
    rw [hp] at hf
    cases hf
    have:=fz_ds hh hz
    subst this
    constructor
    ·intro x hx
     simp only [chunk,if_true,List.mem_singleton] at hx
     subst hx
     rw [List.take_of_length_le (by omega)]
     simp only [ShT]; exact hy
    ·rfl
  ·cases h
 ·cases h
def elT (σ:SS) (ag:Bool) (len:Nat) (parts:List (Nat × Operand)) (l:List Ty):Ty:=match nmPart σ ag len parts with | some i=>Ty.nm i | none=>l.foldl joinT ((l.head?).getD .any)
def sBuildS (P:Program) (E:Nat→Option (List Ty)) (ixs:List Nat) (σ:SS) (dst:Option Nat) (t:TypeId) (len:Nat) (parts:List (Nat × Operand)):Option Out :=
 match dst,telem P t with
 | some j,some e =>
  match tsize P e,tagg P e,tzero P e with
  | some sz,some ag,some z =>
   if decide (len * sz ≤ 16777216) && (ag || sz == 1) && decide (0 < sz) && z.cells.size == sz then
    match fillS E σ (ixT ixs σ) (fun i=>some (i * sz,sz)) { cells:=(List.replicate len (z.cells.toList.map valTV)).flatten,cp:=[],fs:=[] } parts with
    | some f =>
     match cellTys f.cells with
     | some us =>
      let l:=chunkTy ag sz len us
      let el:=elT σ ag len parts l
      if decide (len * sz ≤ us.length) && ((nmPart σ ag len parts).isSome || l.all (fun t=>Ty.sub t el)) && sz == el.sz E then
       some { act:=.mk (.own (true,j) el) [] none [] [.f (.le (2,5,0,0) zT (-len)),.f (.le zT (2,5,0,0) len)],rd:=[j + 1],wr:=[j + 1] }
      else none
     | none=>none
    | none=>none
   else none
  | _,_,_=>none
 | _,_=>none
theorem oks_flat {C:Cx} {h:Id→O} {ts:List TV} {zs:List A} (hx:TV.oks C h ts zs):∀ n,TV.oks C h (List.replicate n ts).flatten (List.replicate n zs).flatten
 | 0=>by simp [TV.oks]
 | n + 1=>by
  simp only [List.replicate_succ,List.flatten_cons]
  exact oks_app hx (oks_flat hx n)
theorem sBuildS_ok {C:Cx} (hC:C.Ok) {X:Orc} {σ:SS} {st:St} (g:Ga C σ st) {o:Oper} {t:TypeId} {len:Nat} {parts:Array (Nat × Operand)} {ixs:List Nat} (ho:o.op = .buildSlice t len parts) {out:Out} (h:sBuildS C.P C.E ixs σ o.dst t len parts.toList=some out):OpOk C X σ st o out:=by
 unfold sBuildS at h
 split at h
 ·rename_i j e hdst he
  have hd:(st.d,o.dst.getD st.n)=(C.d,j):=by rw [hdst,g.d]; rfl
  have hop:opE C.P X st.d st.ev st.h (st.d,o.dst.getD st.n) o=buildSliceE C.P st.h (C.d,j) t len (parts.toList.map fun p=>(p.1,st.ev p.2)):=by
   rw [hd]
   obtain ⟨dst,op,ty,pos,af,gd⟩:=o
   simp only at ho
   subst ho; rfl
  split at h
  ·rename_i sz ag z hsz hag hz
   split at h
   ·rename_i hc
    simp only [Bool.and_eq_true] at hc
    obtain ⟨⟨⟨c1,c2⟩,c3⟩,c4⟩:=hc
    have c1:=of_decide_eq_true c1
    have c3:=of_decide_eq_true c3
    have c4:z.cells.size=sz:=eq_of_beq c4
    split at h
    ·rename_i f hf
     split at h
     ·rename_i us hus
      simp only at h
      split at h
      ·rename_i hc2
       simp only [Bool.and_eq_true] at hc2
       obtain ⟨⟨d1,d2⟩,d3⟩:=hc2
       have d1:=of_decide_eq_true d1
       have d3:=eq_of_beq d3
       cases h
       generalize hel:elT σ ag len parts.toList (chunkTy ag sz len us)=el at *
       unfold elT at hel
       obtain ⟨zs,h1,h2,h3⟩:=fillS_ok hC g (ixT_ok hC g) hf (zs:=(List.replicate len (z.cells.toList.map ofCell)).flatten) ⟨oks_flat (oks_vals C st.h _) len,fun v _ _=>nofs v⟩
       obtain ⟨ds,k1,k2,k3⟩:=cellTys_ok hus h2
       have hq:(∀ x ∈ chunk ag sz len ds,ShT C.R el x)∧(chunk ag sz len ds).length=len:=by
        cases hnm:nmPart σ ag len parts.toList with
        | none =>
         rw [hnm] at d2
         exact chunk_ok hC c3 k2 (by rw [ShL_len k2]; exact d1) (by simpa using d2)
        | some i =>
         rw [hnm] at hel
         simp only at hel
         subst hel
         exact nmPart_ok hC g hnm (by rw [flat_len,List.length_map,← c4]; rfl) h1 k1
       obtain ⟨q1,q2⟩:=hq
       have hap:buildSliceE C.P st.h (C.d,j) t len (parts.toList.map fun p=>(p.1,st.ev p.2))=some { v:=.sl (C.d,j) ((st.h (C.d,j)).ver + 1) 0 len,rd:=[(C.d,j)],wr:=[((C.d,j),.vec ((st.h (C.d,j)).ver + 1) sz (chunk ag sz len ds) false)] }:=by
        unfold buildSliceE
        simp only [he,hsz,hag,hz]
        rw [if_pos ⟨c1,by rw [c2],c3,c4⟩,h1]
        simp only
        rw [if_neg (by rw [k3]; simp),k1]
        rfl
       refine out_mk1 hC g hdst (a:=.sl (C.d,j) ((st.h (C.d,j)).ver + 1) 0 len) (rd:=[(C.d,j)]) (bx:=none) (w:=none) (ob:=.vec ((st.h (C.d,j)).ver + 1) sz (chunk ag sz len ds) false) (bc:=[]) (by rw [hop]; exact hap) ?_ ?_ (fun c=>rfl) (fun ts h=>by cases h) (fun u h=>by cases h) ?_
       ·simp only [TV.ok]
        refine Or.inr ⟨_,sz,chunk ag sz len ds,false,by rw [q2]; rfl,?_,d3,q1⟩
        rw [show C.at (true,j)=(C.d,j) from rfl,upd_at,if_pos rfl]
       ·intro i hi
        simp only [List.mem_singleton] at hi
        subst hi
        simp [slotC_own]
       ·intro v hv
        refine ⟨fun p hp=>(by cases hp),?_⟩
        have h6:tv v (2,5,0,0)=len:=by
         show lenA (v (5,0,0))=_
         rw [hv.nv]; rfl
        have z0:tv v zT=0:=rfl
        intro f hf
        simp only [List.mem_cons,List.not_mem_nil,or_false] at hf
        rcases hf with rfl | rfl <;> simp only [Fact.ok,LF.ok,h6,z0] <;> omega
      ·cases h
     ·cases h
    ·cases h
   ·cases h
  ·cases h
 ·cases h
end
end
section
noncomputable section
theorem find_idxT {α:Type} (p:α→Bool):∀ t:List α,t.find? p=(t.findIdx? p).bind fun i=>t[i]?
 | []=>rfl
 | a :: t=>by
  rw [List.find?_cons,List.findIdx?_cons]
  cases p a with
  | true=>rfl
  | false =>
   simp only [find_idxT p t,Bool.false_eq_true,if_false]
   cases t.findIdx? p <;> rfl
theorem findNow_int (s:Int):∀ (t:TabI) (i:Nat),Instr.findNow (.int .i64) (.int .i64 s) ((tabW t).map fun e=>({ key:=e.2.1,val:=undef,born:=e.1 }:MapEntry)) i=some ((t.findIdx? fun e=>s == e.2.1).map fun j=>(i + j,undef))
 | [],i=>rfl
 | e :: t,i=>by
  simp only [tabW,List.map_cons]
  unfold Instr.findNow
  simp only [Instr.sameNow]
  rw [List.findIdx?_cons]
  cases h:(s == e.2.1) with
  | true=>simp
  | false =>
   simp only [Bool.false_eq_true,if_false]
   have:=findNow_int s t (i + 1)
   simp only [tabW] at this
   rw [this]
   cases t.findIdx? fun e=>s == e.2.1 with
   | none=>rfl
   | some j=>simp; omega
theorem findE_int {P:Program} {kt:TypeId} (hu:P.underlying kt=some (.int .i64)) (s:Int) (t:TabI):findE P kt (.int .i64 s) (tabW t)=some (t.findIdx? fun e=>s == e.2.1):=by
 have hp:pureRun P (underlying kt)=some (.int .i64):=pure_under hu
 unfold findE Instr.findKey
 simp only [pureRun_bind,hp,Option.bind_some,findNow_int s t 0]
 simp only [pureRun_pure,Option.map_some,Nat.zero_add]
 cases t.findIdx? fun e=>s == e.2.1 <;> rfl
theorem checkKey_int {P:Program} {kt:TypeId} (hu:P.underlying kt=some (.int .i64)) (b:Bool) (s:Int):pureRun P (Instr.checkKey b 10000 kt (.int .i64 s))=some ():=by
 have hp:pureRun P (underlying kt)=some (.int .i64):=pure_under hu
 show pureRun P (Instr.checkKey b (9999 + 1) kt (.int .i64 s))=_
 unfold Instr.checkKey
 simp only [pureRun_bind,hp,Option.bind_some]
 rfl
def tabAtI (t:TabI) (s:Int):Option A:=(t.find? fun e=>s == e.2.1).map (·.2.2)
theorem look_int {P:Program} {tt kt el:TypeId} {z:Value} (ht:P.underlying tt=some (.map kt el)) (hu:P.underlying kt=some (.int .i64)) (hz:tzero P el=some z) {h:Id→O} {id:Id} {ver c:Nat} {t:TabI} (ho:h id = .map ver (tabW t) c) (s:Int) (ok:Bool) :
  lookupE P h tt (.mp id ver) (.d (.s (.int .i64 s))) ok=some { v:=if ok then .tup [(tabAtI t s).getD (ofV z),.d (.s (.bool (tabAtI t s).isSome))] else (tabAtI t s).getD (ofV z),rd:=[id] }:=by
 unfold lookupE
 simp only [ht,A.exact,ho,if_true,checkKey_int hu,findE_int hu,hz]
 unfold tabAtI
 rw [find_idxT]
 cases hf:t.findIdx? fun e=>s == e.2.1 with
 | none=>rfl
 | some i =>
  have hi:i < t.length:=(List.findIdx?_eq_some_iff_getElem.1 hf).1
  simp [tabW,List.getElem?_eq_getElem hi]
def zeroTV (z:Value):TV :=
 match z with
 | .agg cs=>mkTV (cs.toList.map valTV)
 | v=>valTV v
theorem zeroTV_ok (C:Cx) (h:Id→O) (z:Value):TV.ok C h (zeroTV z) (ofV z):=by
 unfold zeroTV
 split
 ·rename_i cs
  exact mkTV_ok (oks_vals C h cs.toList)
 ·exact valTV_okV C h _
def lookTV (j:Nat) (el:Ty) (z:Value):Option (TV × List Fact) :=
 match el,zeroTV z with
 | .lst e b,.nilv=>some (.rl (true,j) e,[.f (.le (2,5,0,0) zT (-b))])
 | el,.c u=>if Ty.sub u el then some (.c el,[]) else none
 | _,_=>none
theorem lookTV_ok {C:Cx} (hC:C.Ok) {h:Id→O} {j:Nat} {el:Ty} {z:Value} {tv':TV} {fs:List Fact} (hl:lookTV j el z=some (tv',fs)) {a:A} (ha:a=ofV z ∨ ∃ x,a = .d x∧ShT C.R el x) :
  TV.ok C h tv' a ∧ ∀ st bc v,New C st a bc v→FOk v fs:=by
 have no:∀ st bc v,New C st a bc v→FOk v []:=fun _ _ _ _ f hf=>by cases hf
 unfold lookTV at hl
 split at hl
 ·rename_i hz
  cases hl
  have hzv:=zeroTV_ok C h z
  rw [hz] at hzv
  simp only [TV.ok] at hzv
  rcases ha with rfl | ⟨x,rfl,hx⟩
  ·rw [hzv]
   refine ⟨by simp only [TV.ok]; exact Or.inl (Or.inl ⟨[],rfl,fun y hy=>by cases hy⟩),fun st bc v hv f hf=>?_⟩
   simp only [List.mem_singleton] at hf
   subst hf
   show lenA (v (5,0,0)) + _ ≤ 0
   rw [hv.nv]
   show (0:Int) + _ ≤ 0
   omega
  ·simp only [ShT] at hx
   obtain ⟨xs,rfl,h1,h2⟩:=hx
   refine ⟨by simp only [TV.ok]; exact Or.inr ⟨xs,rfl,h2⟩,fun st bc v hv f hf=>?_⟩
   simp only [List.mem_singleton] at hf
   subst hf
   show lenA (v (5,0,0)) + _ ≤ 0
   rw [hv.nv]
   show (xs.length:Int) + _ ≤ 0
   omega
 ·rename_i hz
  split at hl
  ·rename_i hsub
   cases hl
   refine ⟨?_,no⟩
   rcases ha with rfl | ⟨x,rfl,hx⟩
   ·have hzv:=zeroTV_ok C h z
    rw [hz] at hzv
    simp only [TV.ok] at hzv ⊢
    obtain ⟨x,h1,h2⟩:=hzv
    exact ⟨x,h1,sub_ok hC.rel _ _ _ hsub h2⟩
   ·simp only [TV.ok]; exact ⟨x,rfl,hx⟩
  ·cases hl
 ·cases hl
theorem look_strB {P:Program} {tt kt el:TypeId} {z:Value} (ht:P.underlying tt=some (.map kt el)) (hu:P.underlying kt=some .string) (hz:tzero P el=some z) {h:Id→O} {id:Id} {ver c:Nat} {t:Tab} (ho:h id = .map ver (tabV t) c) (s:ByteArray) (ok:Bool) :
  lookupE P h tt (.mp id ver) (.d (.s (.string s))) ok=some { v:=if ok then .tup [(tabAt t s).getD (ofV z),.d (.s (.bool (tabAt t s).isSome))] else (tabAt t s).getD (ofV z),rd:=[id] }:=by
 unfold lookupE
 simp only [ht,A.exact,ho,if_true,checkKey_str hu,findE_str hu,hz]
 unfold tabAt
 rw [find_idx]
 cases hf:t.findIdx? fun e=>s == e.2.1 with
 | none=>rfl
 | some i =>
  have hi:i < t.length:=(List.findIdx?_eq_some_iff_getElem.1 hf).1
  simp [tabV,List.getElem?_eq_getElem hi]
def keyT (P:Program) (s:Bool) (kt:TypeId):TV→Bool
 | .c (.int .i64)=>!s && (match P.underlying kt with | some (.int .i64)=>true | _=>false)
 | .c (.str _)=>s && (match P.underlying kt with | some .string=>true | _=>false)
 | _=>false
theorem key_look {C:Cx} {h:Id→O} {s:Bool} {kt el:TypeId} {tk:TV} {k:A} (hk:TV.ok C h tk k) (hkt:keyT C.P s kt tk=true) {tt:TypeId} {z:Value} (ht:C.P.underlying tt=some (.map kt el)) (hz:tzero C.P el=some z) {h':Id→O} {id:Id} {ver c:Nat} {es:List (Nat × Value × A)} (ho:h' id = .map ver es c) (hes:KeyOk s es) {ey:Ty} (hall:∀ e ∈ es,∃ x,e.2.2 = .d x∧ShT C.R ey x) (ok:Bool) :
  ∃ a b,(a=ofV z ∨ ∃ x,a = .d x∧ShT C.R ey x)∧lookupE C.P h' tt (.mp id ver) k ok=some { v:=if ok then .tup [a,.d (.s (.bool b))] else a,rd:=[id] }:=by
 unfold keyT at hkt
 split at hkt
 ·rw [Bool.and_eq_true] at hkt
  have hs:s=false:=by simpa using hkt.1
  subst hs
  have hu:C.P.underlying kt=some (.int .i64):=by
   have:=hkt.2
   split at this
   ·assumption
   ·cases this
  simp only [TV.ok,ShT] at hk
  obtain ⟨_,rfl,n,rfl⟩:=hk
  simp only [KeyOk,Bool.false_eq_true,if_false] at hes
  obtain ⟨t,rfl⟩:=hes
  refine ⟨_,_,?_,look_int ht hu hz ho n ok⟩
  unfold tabAtI
  cases hf:t.find? (fun e=>n == e.2.1) with
  | none=>exact Or.inl rfl
  | some en =>
   obtain ⟨y,h1,h2⟩:=hall (en.1,.int .i64 en.2.1,en.2.2) (List.mem_map.2 ⟨en,List.mem_of_find?_eq_some hf,rfl⟩)
   exact Or.inr ⟨y,h1,h2⟩
 ·rw [Bool.and_eq_true] at hkt
  have hs:s=true:=hkt.1
  subst hs
  have hu:C.P.underlying kt=some .string:=by
   have:=hkt.2
   split at this
   ·assumption
   ·cases this
  simp only [TV.ok,ShT] at hk
  obtain ⟨_,rfl,n,rfl,_⟩:=hk
  simp only [KeyOk,if_true] at hes
  obtain ⟨t,rfl⟩:=hes
  refine ⟨_,_,?_,look_strB ht hu hz ho n ok⟩
  unfold tabAt
  cases hf:t.find? (fun e=>n == e.2.1) with
  | none=>exact Or.inl rfl
  | some en =>
   obtain ⟨y,h1,h2⟩:=hall (en.1,.string en.2.1,en.2.2) (List.mem_map.2 ⟨en,List.mem_of_find?_eq_some hf,rfl⟩)
   exact Or.inr ⟨y,h1,h2⟩
 ·cases hkt
def sLookup (P:Program) (σ:SS) (dst:Option Nat) (t:TypeId) (x k:Operand) (ok:Bool):Option Out :=
 match dst,opTV σ x,P.underlying t with
 | some j,.mp p el s,some (.map kt elt) =>
  if keyT P s kt (opTV σ k) then
   match tzero P elt with
   | some z =>
    match lookTV j el z with
    | some (u,fs)=>if ok then some { act:=.wr (.tup [u,.c .bool]) [] [],rd:=[sN p] } else some { act:=.wr u [] fs,rd:=[sN p] }
    | none=>none
   | none=>none
  else none
 | _,_,_=>none
theorem sLookup_ok {C:Cx} (hC:C.Ok) {X:Orc} {σ:SS} {st:St} (g:Ga C σ st) {o:Oper} {t:TypeId} {x k:Operand} {ok:Bool} (ho:o.op = .lookup t x k ok) {out:Out} (h:sLookup C.P σ o.dst t x k ok=some out):OpOk C X σ st o out:=by
 unfold sLookup at h
 split at h
 ·rename_i j p el s kt elt hdst hx hu
  split at h
  ·rename_i hkt
   split at h
   ·rename_i z hz
    split at h
    ·rename_i u fs hl
     have hxo:=opTV_ok g x
     have hko:=opTV_ok g k
     rw [hx] at hxo
     simp only [TV.ok] at hxo
     obtain ⟨ver,tab,c,e1,e2,e3,e5⟩:=hxo
     have hop:opE C.P X st.d st.ev st.h (st.d,o.dst.getD st.n) o=lookupE C.P st.h t (st.ev x) (st.ev k) ok:=by
      obtain ⟨dst,op,ty,pos,af,gd⟩:=o
      simp only at ho
      subst ho
      show (match st.ev x with | .mp _ _=>lookupE C.P st.h t (st.ev x) (st.ev k) ok | _=>_)=_
      rw [e1]
     obtain ⟨a,b,hval,hlk⟩:=key_look hko hkt hu hz e2 e3 e5 ok
     obtain ⟨k1,k2⟩:=lookTV_ok hC (h:=st.h) hl hval
     have hrd:∀ i ∈ [C.at p],slotC C i ∈ [sN p]:=fun i hi=>by
      simp only [List.mem_singleton] at hi
      subst hi
      rw [sN_at hC]; simp
     cases ok with
     | true =>
      simp only [if_true] at h hlk
      cases h
      refine out_val hC g (a:=.tup [a,.d (.s (.bool b))]) (rd:=[C.at p]) (by rw [hop,e1]; exact hlk) ?_ hrd fun v hv=>nofs v
      simp only [TV.ok,TV.oks]
      exact ⟨_,rfl,_,_,rfl,k1,_,_,rfl,⟨_,rfl,_,rfl⟩,rfl⟩
     | false =>
      simp only [Bool.false_eq_true,if_false] at h hlk
      cases h
      exact out_val hC g (a:=a) (rd:=[C.at p]) (by rw [hop,e1]; exact hlk) k1 hrd fun v hv=>⟨fun p hp=>(by cases hp),k2 st [] v hv⟩
    ·cases h
   ·cases h
  ·cases h
 ·cases h
end
end
section
noncomputable section
theorem exactE_mx (P:Program) (ev:Operand→A) (dst:Option Tmp) (x y:Operand) (ts:Array TypeId) (ty:TypeId) (pos:String) (af:Array Edge) (g:Option (Nat × Bool)) (k:IntKind) (a b:Int) (hx:ev x = .d (.s (.int k a))) (hy:ev y = .d (.s (.int k b))) :
  exactE P ev ⟨dst,.call ⟨.builtin .max,#[x,y],ts⟩,ty,pos,af,g⟩=some { v:=.d (.s (.int k (if a < b then b else a))) }:=by
 unfold exactE exactOp
 simp only [Op.operands,Call.operands]
 simp only [execOp,resolve,invoke,builtin,hx,hy,A.exact,D.exact,Option.getD_some,pureRun_bind,pureRun_pure]
 simp [hx,hy,pureRun_bind,pureRun_pure,pureRun_map]
 exact ⟨_,rfl,rfl⟩
theorem exactE_mn (P:Program) (ev:Operand→A) (dst:Option Tmp) (x y:Operand) (ts:Array TypeId) (ty:TypeId) (pos:String) (af:Array Edge) (g:Option (Nat × Bool)) (k:IntKind) (a b:Int) (hx:ev x = .d (.s (.int k a))) (hy:ev y = .d (.s (.int k b))) :
  exactE P ev ⟨dst,.call ⟨.builtin .min,#[x,y],ts⟩,ty,pos,af,g⟩=some { v:=.d (.s (.int k (if b < a then b else a))) }:=by
 unfold exactE exactOp
 simp only [Op.operands,Call.operands]
 simp only [execOp,resolve,invoke,builtin,hx,hy,A.exact,D.exact,Option.getD_some,pureRun_bind,pureRun_pure]
 simp [hx,hy,pureRun_bind,pureRun_pure,pureRun_map]
 exact ⟨_,rfl,rfl⟩
theorem exactE_mx4 (P:Program) (ev:Operand→A) (dst:Option Tmp) (x y z w:Operand) (ts:Array TypeId) (ty:TypeId) (pos:String) (af:Array Edge) (g:Option (Nat × Bool)) (k:IntKind) (a b c d:Int) (hx:ev x = .d (.s (.int k a))) (hy:ev y = .d (.s (.int k b))) (hz:ev z = .d (.s (.int k c))) (hw:ev w = .d (.s (.int k d))) :
  ∃ n,exactE P ev ⟨dst,.call ⟨.builtin .max,#[x,y,z,w],ts⟩,ty,pos,af,g⟩=some { v:=.d (.s (.int k n)) }:=by
 unfold exactE exactOp
 simp only [Op.operands,Call.operands]
 simp only [execOp,resolve,invoke,builtin,hx,hy,hz,hw,A.exact,D.exact,Option.getD_some,pureRun_bind,pureRun_pure]
 simp [hx,hy,hz,hw,pureRun_bind,pureRun_pure,pureRun_map]
 exact ⟨_,_,rfl,rfl⟩
def mxOf (o:Oper):Option (Bool × Operand × Operand) :=
 match o.op with
 | .call ⟨.builtin .max,args,_⟩=>match args.toList with | [x,y]=>some (true,x,y) | _=>none
 | .call ⟨.builtin .min,args,_⟩=>match args.toList with | [x,y]=>some (false,x,y) | _=>none
 | _=>none
def mxOut (k:IntKind) (S:Term × Int) (L U:Term × Int) (n:Int):Out:={ act:=.wr (.c (.int k)) [] (eqI S ++ [.f (leF L U n)]) }
def sMx (σ:SS) (o:Oper):Option (Out × Out) :=
 match mxOf o with
 | some (m,x,y) =>
  match opTV σ x,opTV σ y,opC σ x,opC σ y with
  | .c (.int k),.c (.int k'),some X,some Y=>if kindEq k k' then some (if m then (mxOut k X Y X 0,mxOut k Y X Y 1) else (mxOut k X X Y 0,mxOut k Y Y X 1)) else none
  | _,_,_,_=>none
 | none=>none
theorem sMx_ok {C:Cx} (hC:C.Ok) {X:Orc} {σ:SS} {st:St} (g:Ga C σ st) {o:Oper} {o1 o2:Out} (h:sMx σ o=some (o1,o2)):OpOk C X σ st o o1 ∨ OpOk C X σ st o o2:=by
 unfold sMx at h
 split at h
 ·rename_i m x y hm
  split at h
  ·rename_i k k' X' Y' tx ty hX hY
   split at h
   ·rename_i hk
    obtain rfl:k=k':=by simpa [kindEq] using hk
    have hx:=opTV_ok g x
    have hy:=opTV_ok g y
    rw [tx] at hx
    rw [ty] at hy
    simp only [TV.ok,ShT] at hx hy
    obtain ⟨_,ex,a,rfl⟩:=hx
    obtain ⟨_,ey,b,rfl⟩:=hy
    have e1:∀ v,Now C st v→a=tv v X'.1 + X'.2:=fun v hv=>by have:=opC_ok g hX hv; rw [ex] at this; exact this
    have e2:∀ v,Now C st v→b=tv v Y'.1 + Y'.2:=fun v hv=>by have:=opC_ok g hY hv; rw [ey] at this; exact this
    have fin:∀ (n:Int) (S L U:Term × Int) (q:Int),opE C.P X st.d st.ev st.h (st.d,o.dst.getD st.n) o=some { v:=.d (.s (.int k n)) }→(∀ v,Now C st v→n=tv v S.1 + S.2)→(∀ v,Now C st v→tv v L.1 + L.2 + q ≤ tv v U.1 + U.2)→OpOk C X σ st o (mxOut k S L U q):=by
     intro n S L U q he h1 h2
     refine out_val hC g (a:=.d (.s (.int k n))) (rd:=[]) he ?_ (fun _ hi=>by cases hi) fun v hv=>⟨fun p hp=>(by cases hp),FOkA (eqI_ok (by rw [hv.nv]; rfl) (h1 v hv.now)) fun f hf=>?_⟩
     ·simp only [TV.ok,ShT]; exact ⟨_,rfl,_,rfl⟩
     ·simp only [List.mem_singleton] at hf
      subst hf
      exact leF_ok.2 (by have:=h2 v hv.now; omega)
    cases m with
    | true =>
     cases h
     have he:opE C.P X st.d st.ev st.h (st.d,o.dst.getD st.n) o=some { v:=.d (.s (.int k (if a < b then b else a))) }:=by
      obtain ⟨dst,op,ty',pos,af,gd⟩:=o
      unfold mxOf at hm
      simp only at hm
      split at hm
      ·rename_i args ts
       split at hm
       ·rename_i x' y' hargs
        cases hm
        obtain ⟨args⟩:=args
        have hargs:args=[x,y]:=hargs
        subst hargs
        exact exactE_mx _ _ _ _ _ _ _ _ _ _ _ _ _ ex ey
       ·cases hm
      ·split at hm
       ·cases hm
       ·cases hm
      ·cases hm
     by_cases hab:a < b
     ·rw [if_pos hab] at he
      exact Or.inr (fin b Y' X' Y' 1 he e2 fun v hv=>by have:=e1 v hv; have:=e2 v hv; omega)
     ·rw [if_neg hab] at he
      exact Or.inl (fin a X' Y' X' 0 he e1 fun v hv=>by have:=e1 v hv; have:=e2 v hv; omega)
    | false =>
     cases h
     have he:opE C.P X st.d st.ev st.h (st.d,o.dst.getD st.n) o=some { v:=.d (.s (.int k (if b < a then b else a))) }:=by
      obtain ⟨dst,op,ty',pos,af,gd⟩:=o
      unfold mxOf at hm
      simp only at hm
      split at hm
      ·split at hm
       ·cases hm
       ·cases hm
      ·rename_i args ts
       split at hm
       ·rename_i x' y' hargs
        cases hm
        obtain ⟨args⟩:=args
        have hargs:args=[x,y]:=hargs
        subst hargs
        exact exactE_mn _ _ _ _ _ _ _ _ _ _ _ _ _ ex ey
       ·cases hm
      ·cases hm
     by_cases hab:b < a
     ·rw [if_pos hab] at he
      exact Or.inr (fin b Y' Y' X' 1 he e2 fun v hv=>by have:=e1 v hv; have:=e2 v hv; omega)
     ·rw [if_neg hab] at he
      exact Or.inl (fin a X' X' Y' 0 he e1 fun v hv=>by have:=e1 v hv; have:=e2 v hv; omega)
   ·cases h
  ·cases h
 ·cases h
def sMx4 (σ:SS) (x y z w:Operand):Option Out :=
 match opTV σ x,opTV σ y,opTV σ z,opTV σ w with
 | .c (.int .i64),.c (.int .i64),.c (.int .i64),.c (.int .i64)=>some { act:=.wr (.c (.int .i64)) [] [] }
 | _,_,_,_=>none
theorem sMx4_ok {C:Cx} (hC:C.Ok) {X:Orc} {σ:SS} {st:St} (g:Ga C σ st) {o:Oper} {x y z w:Operand} {ts:Array TypeId} (ho:o.op = .call ⟨.builtin .max,#[x,y,z,w],ts⟩) {out:Out} (h:sMx4 σ x y z w=some out):OpOk C X σ st o out:=by
 unfold sMx4 at h
 split at h
 ·rename_i tx ty tz tw
  cases h
  have hx:=opTV_ok g x
  have hy:=opTV_ok g y
  have hz:=opTV_ok g z
  have hw:=opTV_ok g w
  rw [tx] at hx
  rw [ty] at hy
  rw [tz] at hz
  rw [tw] at hw
  simp only [TV.ok,ShT] at hx hy hz hw
  obtain ⟨_,ex,a,rfl⟩:=hx
  obtain ⟨_,ey,b,rfl⟩:=hy
  obtain ⟨_,ez,c,rfl⟩:=hz
  obtain ⟨_,ew,d,rfl⟩:=hw
  obtain ⟨dst,op,ty',pos,af,gd⟩:=o
  simp only at ho
  subst ho
  obtain ⟨n,hn⟩:=exactE_mx4 C.P st.ev dst x y z w ts ty' pos af gd .i64 a b c d ex ey ez ew
  refine out_val hC g (a:=.d (.s (.int .i64 n))) (rd:=[]) hn ?_ (fun _ hi=>by cases hi) fun v hv=>nofs v
  simp only [TV.ok,ShT]; exact ⟨_,rfl,_,rfl⟩
 ·cases h
end
end
section
noncomputable section
def sConv (P:Program) (σ:SS) (src dst:TypeId) (x:Operand):Option Out :=
 match P.underlying src,P.underlying dst,opTV σ x with
 | some _,some (.int k'),.c (.int k) =>
  match opC σ x with
  | some S=>some { act:=.wr (.c (.int k')) [] (if kindEq k' .i64 && inI64 σ.fs S then eqI S else []) }
  | none=>none
 | some _,some .string,.c (.str b)=>some { act:=.wr (.c (.str b)) [] (tyB (5,0,0) (.str b)) }
 | _,_,_=>none
theorem sConv_ok {C:Cx} (hC:C.Ok) {X:Orc} {σ:SS} {st:St} (g:Ga C σ st) {o:Oper} {src dst:TypeId} {x:Operand} (ho:o.op = .convert src dst x) {out:Out} (h:sConv C.P σ src dst x=some out):OpOk C X σ st o out:=by
 have hx:=opTV_ok g x
 have hop:∀ e,(match (st.ev x).exact with | some u=>(pureRun C.P (convert src dst u)).map fun v=>({ v:=ofV v }:Eff) | none=>none)=some e→opE C.P X st.d st.ev st.h (st.d,o.dst.getD st.n) o=some e:=by
  intro e he
  obtain ⟨d,op,ty,pos,af,gd⟩:=o
  simp only at ho
  subst ho
  have h1:exactE C.P st.ev ⟨d,.convert src dst x,ty,pos,af,gd⟩=some e:=(exactE_conv ..).trans he
  show (match exactE C.P st.ev ⟨d,.convert src dst x,ty,pos,af,gd⟩ with | some e=>some e | none=>_)=_
  rw [h1]
 unfold sConv at h
 split at h
 ·rename_i t0 k' k hs hd tx
  rw [tx] at hx
  simp only [TV.ok,ShT] at hx
  obtain ⟨_,ex,n,rfl⟩:=hx
  split at h
  ·rename_i S hS
   cases h
   refine out_val hC g (a:=.d (.s (.int k' (k'.wrap n)))) (rd:=[]) (hop _ ?_) ?_ (fun _ hi=>by cases hi) fun v hv=>⟨fun p hp=>(by cases hp),?_⟩
   ·rw [ex]
    simp only [A.exact,conv_int k n hs hd,Option.map_some]
    rfl
   ·simp only [TV.ok,ShT]; exact ⟨_,rfl,_,rfl⟩
   ·split
    ·rename_i hk
     rw [Bool.and_eq_true] at hk
     obtain rfl:k' = .i64:=by simpa [kindEq] using hk.1
     have e1:n=tv v S.1 + S.2:=by have:=opC_ok g hS hv.now; rw [ex] at this; exact this
     refine eqI_ok (n:=IntKind.i64.wrap n) (congrArg intA (hv.nv 0 0)) ?_
     rw [e1]
     exact inI64_ok (g.fs v hv.now) hk.2
    ·intro f hf; cases hf
  ·cases h
 ·rename_i t0 b hs hd tx
  cases h
  rw [tx] at hx
  simp only [TV.ok,ShT] at hx
  obtain ⟨_,ex,s,rfl,hb⟩:=hx
  refine out_val hC g (a:=.d (.s (.string s))) (rd:=[]) (hop _ ?_) ?_ (fun _ hi=>by cases hi) fun v hv=>⟨fun p hp=>(by cases hp),?_⟩
  ·rw [ex]
   simp only [A.exact,conv_str s hs hd,Option.map_some]
   rfl
  ·simp only [TV.ok,ShT]; exact ⟨_,rfl,_,rfl,hb⟩
  ·exact tyB_ok (R:=C.R) (gbOf hC hv.now) (x:=.s (.string s)) (by simp only [ShT]; exact ⟨_,rfl,hb⟩) (hv.nv 0 0)
 ·cases h
def sIdx (P:Program) (σ:SS) (t:TypeId) (x i:Operand):Option Out :=
 match P.underlying t,opTV σ x,opTV σ i,opI σ i,opL σ x with
 | some .string,.c (.str _),.c (.int _),some I,some L=>if leI σ.fs (zT,0) I 0 && leI σ.fs I L 1 then some { act:=.wr (.c (.int .u8)) [] [] } else none
 | _,_,_,_,_=>none
theorem sIdx_ok {C:Cx} (hC:C.Ok) {X:Orc} {σ:SS} {st:St} (g:Ga C σ st) {o:Oper} {t:TypeId} {x i:Operand} (ho:o.op = .index t x i) {out:Out} (h:sIdx C.P σ t x i=some out):OpOk C X σ st o out:=by
 have hx:=opTV_ok g x
 have hi:=opTV_ok g i
 unfold sIdx at h
 split at h
 ·rename_i b k I L hu tx ti hI hL
  rw [tx] at hx
  rw [ti] at hi
  simp only [TV.ok,ShT] at hx hi
  obtain ⟨_,ex,s,rfl,_⟩:=hx
  obtain ⟨_,ei,n,rfl⟩:=hi
  split at h
  ·rename_i hb
   cases h
   rw [Bool.and_eq_true] at hb
   have b1:=leI_ok g.nows hb.1
   have b2:=leI_ok g.nows hb.2
   have c1:=opI_ok g hI (nows C st)
   have c2:=opL_ok g hL (nows C st)
   rw [ei] at c1
   rw [ex] at c2
   have c1:n=_:=c1
   have c2:(s.size:Int)=_:=c2
   have z0:tv (apv C st) zT=0:=rfl
   simp only [z0] at b1
   have hix:=idx_str (P:=C.P) s k n hu (by omega) (by omega)
   refine out_val hC g (a:=.d (.s (.int .u8 ((s.data.toList.getD n.toNat 0).toNat)))) (rd:=[]) ?_ ?_ (fun _ hi=>by cases hi) fun v hv=>nofs v
   ·obtain ⟨d,op,ty,pos,af,gd⟩:=o
    simp only at ho
    subst ho
    show (match (st.ev x).exact with | some _=>exactE _ _ _ | none=>_)=_
    rw [ex]
    show exactE _ _ _=_
    rw [exactE_idx,ex,ei]
    simp only [A.exact,hix,Option.map_some]
    rfl
   ·simp only [TV.ok,ShT]; exact ⟨_,rfl,_,rfl⟩
  ·cases h
 ·cases h
def optI (σ:SS) (d:Term × Int):Option Operand→Option (Term × Int)
 | none=>some d
 | some o=>match opTV σ o with | .c (.int _)=>opI σ o | _=>none
def sSlice (P:Program) (E:Nat→Option (List Ty)) (σ:SS) (t:TypeId) (x:Operand) (lo hi mx:Option Operand):Option Out :=
 match telem P t,opTV σ x,opL σ x,mx with
 | some e,.c (.lst el b),some L,none =>
  match tsize P e,optI σ (zT,0) lo,optI σ L hi with
  | some sz,some A,some B =>
   if sz == el.sz E && leI σ.fs (zT,0) A 0 && leI σ.fs A B 0 && leI σ.fs B L 0 then
    some { act:=.wr (.c (.lst el b)) [] (([.f (leF ((2,5,0,0),0) L 0)] ++ (if A.1 == zT then [.f (leF ((2,5,0,0),A.2) B 0),.f (leF B ((2,5,0,0),A.2) 0)] else [])) ++ tyB (5,0,0) (.lst el b)) }
   else none
  | _,_,_=>none
 | _,_,_,_=>none
theorem optI_ok {C:Cx} {σ:SS} {st:St} (g:Ga C σ st) {d I:Term × Int} {o:Option Operand} (h:optI σ d o=some I):(o=none∧I=d) ∨ ∃ (n:Int),(o.map st.ev).bind intOfA=some n∧o.isSome=true ∧ ∀ v,Now C st v→n=tv v I.1 + I.2:=by
 unfold optI at h
 split at h
 ·cases h; exact Or.inl ⟨rfl,rfl⟩
 ·rename_i o
  split at h
  ·rename_i k ht
   have hx:=opTV_ok g o
   rw [ht] at hx
   simp only [TV.ok,ShT] at hx
   obtain ⟨_,ex,n,rfl⟩:=hx
   refine Or.inr ⟨n,?_,rfl,fun v hv=>?_⟩
   ·simp only [Option.map_some,Option.bind_some,ex,intOfA]
   ·have:=opI_ok g h hv; rw [ex] at this; exact this
  ·cases h
theorem bound_of {lo hi:Option A} {len:Nat} {a u:Int} (ha:(lo=none∧a=0) ∨ ∃ x,lo=some x∧intOfA x=some a) (hu:(hi=none∧u=len) ∨ ∃ x,hi=some x∧intOfA x=some u) (h1:0 ≤ a) (h2:a ≤ u) (h3:u ≤ len):boundE lo hi len=some (a.toNat,u.toNat):=by
 unfold boundE
 rcases ha with ⟨rfl,rfl⟩ | ⟨x,rfl,hx⟩ <;> rcases hu with ⟨rfl,rfl⟩ | ⟨y,rfl,hy⟩
 ·simp only; rw [if_pos ⟨h1,h2,h3⟩]
 ·simp only [hy]; rw [if_pos ⟨h1,h2,h3⟩]
 ·simp only [hx]; rw [if_pos ⟨h1,h2,h3⟩]
 ·simp only [hx,hy]; rw [if_pos ⟨h1,h2,h3⟩]
theorem sSlice_ok {C:Cx} (hC:C.Ok) {X:Orc} {σ:SS} {st:St} (g:Ga C σ st) {o:Oper} {t:TypeId} {x:Operand} {lo hi mx:Option Operand} (ho:o.op = .slice t x lo hi mx) {out:Out} (h:sSlice C.P C.E σ t x lo hi mx=some out):OpOk C X σ st o out:=by
 have hx:=opTV_ok g x
 unfold sSlice at h
 split at h
 ·rename_i e el b L he tx hL
  rw [tx] at hx
  simp only [TV.ok,ShT] at hx
  obtain ⟨_,ex,xs,rfl,hbl,hxs⟩:=hx
  split at h
  ·rename_i sz A' B' hsz hA hB
   split at h
   ·rename_i hc
    cases h
    rw [Bool.and_eq_true,Bool.and_eq_true,Bool.and_eq_true] at hc
    obtain ⟨⟨⟨d1,d2⟩,d3⟩,d4⟩:=hc
    have d1:sz=el.sz C.E:=eq_of_beq d1
    have z0:∀ v:AP→A,tv v zT=0:=fun _=>rfl
    have hLv:∀ v,Now C st v→(xs.length:Int)=tv v L.1 + L.2:=fun v hv=>by have:=opL_ok g hL hv; rw [ex] at this; exact this
    have hav:∃ a:Int,((lo.map st.ev=none∧a=0) ∨ ∃ x,lo.map st.ev=some x∧intOfA x=some a) ∧ ∀ v,Now C st v→a=tv v A'.1 + A'.2:=by
     rcases optI_ok g hA with ⟨rfl,rfl⟩ | ⟨n,h1,h2,h3⟩
     ·exact ⟨0,Or.inl ⟨rfl,rfl⟩,fun v _=>by rw [z0 v]; rfl⟩
     ·cases lo with
      | none=>cases h2
      | some l=>exact ⟨n,Or.inr ⟨_,rfl,h1⟩,h3⟩
    have hbv:∃ b:Int,((hi.map st.ev=none∧b=xs.length) ∨ ∃ x,hi.map st.ev=some x∧intOfA x=some b) ∧ ∀ v,Now C st v→b=tv v B'.1 + B'.2:=by
     rcases optI_ok g hB with ⟨rfl,rfl⟩ | ⟨n,h1,h2,h3⟩
     ·exact ⟨xs.length,Or.inl ⟨rfl,rfl⟩,fun v hv=>hLv v hv⟩
     ·cases hi with
      | none=>cases h2
      | some l=>exact ⟨n,Or.inr ⟨_,rfl,h1⟩,h3⟩
    obtain ⟨a,a1,a2⟩:=hav
    obtain ⟨u,u1,u2⟩:=hbv
    have q1:=leI_ok g.nows d2
    have q2:=leI_ok g.nows d3
    have q3:=leI_ok g.nows d4
    have r1:=a2 _ (nows C st)
    have r2:=u2 _ (nows C st)
    have r3:=hLv _ (nows C st)
    rw [z0] at q1
    have hbd:boundE (lo.map st.ev) (hi.map st.ev) xs.length=some (a.toNat,u.toNat):=by
     exact bound_of a1 u1 (by omega) (by omega) (by omega)
    have hlen:((xs.take u.toNat).drop a.toNat).length=u.toNat - a.toNat:=by simp; omega
    refine out_val hC g (a:=.d (.lst ((xs.take u.toNat).drop a.toNat))) (rd:=[]) ?_ ?_ (fun _ hi=>by cases hi) fun v hv=>⟨fun p hp=>(by cases hp),?_⟩
    ·obtain ⟨d,op,ty,pos,af,gd⟩:=o
     simp only at ho
     subst ho
     show (match (st.ev x).exact with | some _=>_ | none=>sliceE C.P st.h t (st.ev x) (lo.map st.ev) (hi.map st.ev) none)=_
     rw [ex]
     show sliceE C.P st.h t (.d (.lst xs)) (lo.map st.ev) (hi.map st.ev) none=_
     unfold sliceE
     simp only [he,hsz,hbd]
     rw [if_pos ⟨rfl,headOk_of hC d1 hxs⟩]
     rfl
    ·simp only [TV.ok,ShT]
     refine ⟨_,rfl,_,rfl,by omega,fun y hy=>hxs y (List.mem_of_mem_take (List.mem_of_mem_drop hy))⟩
    ·have h6:tv v (2,5,0,0)=((u.toNat - a.toNat:Nat):Int):=by
      show lenA (v (5,0,0))=_
      rw [hv.nv]
      show (((xs.take u.toNat).drop a.toNat).length:Int)=_
      rw [hlen]
     have s1:=a2 v hv.now
     have s2:=u2 v hv.now
     have s3:=hLv v hv.now
     refine FOkA (FOkA ?_ ?_) ?_
     ·intro f hf
      simp only [List.mem_singleton] at hf
      subst hf
      exact leF_ok.2 (by simp only [h6]; omega)
     ·split
      ·rename_i hz
       have hz:=eq_of_beq hz
       rw [hz,z0] at s1
       intro f hf
       simp only [List.mem_cons,List.not_mem_nil,or_false] at hf
       rcases hf with rfl | rfl
       ·exact leF_ok.2 (by simp only [h6]; omega)
       ·exact leF_ok.2 (by simp only [h6]; omega)
      ·intro f hf; cases hf
     ·intro f hf
      simp only [tyB,List.mem_singleton] at hf
      subst hf
      show tv v (2,5,0,0) + _ ≤ 0
      rw [h6]
      omega
   ·cases h
  ·cases h
 ·cases h
end
end
section
noncomputable section
def sAssert (P:Program) (E:Nat→Option (List Ty)) (ai:Nat→TypeId→Option Ty) (σ:SS) (x:Operand) (t:TypeId) (ok:Bool):Option Out :=
 match opTV σ x,ok,isIfaceT P t,tzero P t with
 | .c (.opq i),true,some false,some z =>
  if nilable i then none else
  match ai i t,(match zeroTV z with | .ag l=>(cellTys l).map Ty.st | .c u=>some u | _=>none) with
  | some u,some u0=>if Ty.subE E u0 u then some { act:=.wr (.tup [.c u,.c .bool]) [] [] } else none
  | _,_=>none
 | _,_,_,_=>none
theorem fz0_kind {C:Cx} (hC:C.Ok) {h:Id→O} {z:Value} {u0:Ty} (hu:(match zeroTV z with | .ag l=>(cellTys l).map Ty.st | .c u=>some u | _=>none)=some u0):∃ x,fz0 h (ofV z) = .d x∧ShT C.R u0 x:=by
 have hz:=zeroTV_ok C h z
 split at hu
 ·rename_i l hl
  rw [hl] at hz
  simp only [TV.ok] at hz
  obtain ⟨us,hus,rfl⟩:=Option.map_eq_some_iff.1 hu
  obtain ⟨ds,h1,h2,_⟩:=cellTys_ok hus hz.2
  refine ⟨.agg ds,?_,by simp only [ShT]; exact ⟨ds,rfl,h2⟩⟩
  cases hv:ofV z with
  | agg cs =>
   rw [hv] at h1
   have h1:fzCells h cs=some (ds,[]):=h1
   unfold fz0
   simp only [fzVal,h1,Option.map_some]
  | d x =>
   rw [hv] at h1 hz
   cases x with
   | agg ds' =>
    have h1:fzCells h (ds'.map A.d)=some (ds,[]):=h1
    have key:∀ (l m:List D) (is:List Id),fzCells h (l.map A.d)=some (m,is)→m=l:=by
     intro l
     induction l with
     | nil=>intro m is hm; simp only [List.map_nil,fzCells,Option.some.injEq,Prod.mk.injEq] at hm; exact hm.1.symm
     | cons y l ih =>
      intro m is hm
      simp only [List.map_cons] at hm
      unfold fzCells at hm
      simp only [fzCell] at hm
      split at hm
      ·rename_i x i xs j g1 g2
       have:=ih _ _ g2
       subst this
       cases g1
       split at hm
       ·cases hm; rfl
       ·cases hm
      ·cases hm
    have:=key _ _ _ h1
    subst this
    rfl
   | _=>have:=hz.1; simp [A.isAgg] at this
  | _=>rw [hv] at hz; have:=hz.1; simp [A.isAgg] at this
 ·rename_i u hl
  cases hu
  rw [hl] at hz
  simp only [TV.ok] at hz
  obtain ⟨x,h1,h2⟩:=hz
  refine ⟨x,?_,h2⟩
  rw [h1]
  rfl
 ·cases hu
theorem sAssert_ok {C:Cx} (hC:C.Ok) {X:Orc} {σ:SS} {st:St} (g:Ga C σ st) {o:Oper} {x:Operand} {xt t:TypeId} {ok:Bool} (ho:o.op = .typeAssert x xt t ok) {out:Out} (h:sAssert C.P C.E C.ai σ x t ok=some out):OpOk C X σ st o out:=by
 unfold sAssert at h
 split at h
 ·rename_i i z hx hi hz
  split at h
  ·cases h
  rename_i hnil
  split at h
  ·rename_i u u0 hu hu0
   split at h
   ·rename_i hs
    cases h
    have hok:=opTV_ok g x
    rw [hx] at hok
    simp only [TV.ok,ShT] at hok
    obtain ⟨_,e1,hok⟩:=hok
    have hok:=hok.resolve_left fun h=>hnil h.1
    obtain ⟨⟨ty,y,rfl⟩,hR⟩:=hok
    have hop:∀ e,assertE C.P st.h ty y t true=some e→opE C.P X st.d st.ev st.h (st.d,o.dst.getD st.n) o=some e:=by
     intro e he
     obtain ⟨d,op,ty',pos,af,gd⟩:=o
     simp only at ho
     subst ho
     show (match st.ev x with | .d (.ifc ty y)=>(match assertE C.P st.h ty y t true with | some e=>some e | none=>_) | _=>_)=_
     rw [e1]
     simp only [he]
    have fin:∀ (y':D) (b:Bool),assertE C.P st.h ty y t true=some { v:=.tup [.d y',.d (.s (.bool b))] }→ShT C.R u y'→OpOk C X σ st o { act:=.wr (.tup [.c u,.c .bool]) [] [] }:=fun y' b h1 h2=>by
     refine out_val hC g (a:=.tup [.d y',.d (.s (.bool b))]) (rd:=[]) (hop _ h1) ?_ (fun _ hi=>by cases hi) fun v hv=>nofs v
     simp only [TV.ok,TV.oks,ShT]
     exact ⟨_,rfl,_,_,rfl,⟨_,rfl,h2⟩,_,_,rfl,⟨_,rfl,_,rfl⟩,rfl⟩
    by_cases hty:ty=t
    ·subst hty
     refine fin y true ?_ (hC.aik i ty y u hu hR)
     unfold assertE
     rw [if_pos hi,if_pos rfl]
     rfl
    ·obtain ⟨x0,k1,k2⟩:=fz0_kind hC (h:=st.h) hu0
     refine fin x0 false ?_ (subE_ok hC.rel hs k2)
     unfold assertE
     rw [if_pos hi,if_neg hty,if_pos rfl,hz,Option.map_some,k1]
   ·cases h
  ·cases h
 ·cases h
end
end
section
noncomputable section
def ifcIx (ai:Nat→TypeId→Option Ty) (t:TypeId) (p:Ty→Bool):Option Nat:=[0,1,2,3].find? fun i=>match ai i t with | some u=>p u | none=>false
theorem ifcIx_ok {ai:Nat→TypeId→Option Ty} {t:TypeId} {p:Ty→Bool} {i:Nat} (h:ifcIx ai t p=some i):i < 100 ∧ ∃ u,ai i t=some u∧p u=true:=by
 unfold ifcIx at h
 have h1:=List.find?_some h
 have h2:=List.mem_of_find?_eq_some h
 refine ⟨by simp at h2; omega,?_⟩
 split at h1
 ·rename_i u hu; exact ⟨u,hu,h1⟩
 ·cases h1
def sMkIfc (P:Program) (E:Nat→Option (List Ty)) (ai:Nat→TypeId→Option Ty) (σ:SS) (t:TypeId) (x:Operand):Option Out :=
 match isIfaceT P t with
 | some false =>
  match opTV σ x with
  | .c u=>match ifcIx ai t fun u'=>Ty.subE E u u' with
   | some i=>some { act:=.wr (.c (.opq i)) [] [] }
   | none=>none
  | .ag l=>match x with
   | .tmp r=>if r < σ.n then (match ifcIx ai t fun u'=>match agTy E u' with | some us=>agFit E σ.fs r 0 l us | none=>false with
    | some i=>some { act:=.wr (.c (.opq i)) [] [],rd:=(l.flatMap ownPl1).map sN,wr:=(l.flatMap ownPl1).map sN }
    | none=>none) else none
   | _=>none
  | _=>none
 | _=>none
theorem sMkIfc_ok {C:Cx} (hC:C.Ok) {X:Orc} {σ:SS} {st:St} (g:Ga C σ st) {o:Oper} {t:TypeId} {x:Operand} (ho:o.op = .makeInterface t x) {out:Out} (h:sMkIfc C.P C.E C.ai σ t x=some out):OpOk C X σ st o out:=by
 have hop:∀ e,mkIfcE C.P st.h t (st.ev x)=some e→opE C.P X st.d st.ev st.h (st.d,o.dst.getD st.n) o=some e:=by
  intro e he
  obtain ⟨d,op,ty,pos,af,gd⟩:=o
  simp only at ho
  subst ho
  exact he
 have hx:=opTV_ok g x
 unfold sMkIfc at h
 split at h
 ·rename_i hi
  split at h
  ·rename_i u tx
   rw [tx] at hx
   simp only [TV.ok] at hx
   obtain ⟨y,ey,hy⟩:=hx
   split at h
   ·rename_i i hix
    cases h
    obtain ⟨hi1,u',hu,hs⟩:=ifcIx_ok hix
    refine out_val hC g (a:=.d (.ifc t y)) (rd:=[]) (hop _ ?_) ?_ (fun _ hi=>by cases hi) fun v hv=>nofs v
    ·unfold mkIfcE
     rw [if_pos hi,ey]; rfl
    ·simp only [TV.ok,ShT]
     exact ⟨_,rfl,Or.inr ⟨⟨_,_,rfl⟩,hC.aif i t y u' hi1 hu (subE_ok hC.rel hs hy)⟩⟩
   ·cases h
  ·rename_i l tx
   split at h
   ·rename_i r
    split at h
    ·rename_i hr
     split at h
     ·rename_i i hix
      cases h
      obtain ⟨hi1,u',hu,hs⟩:=ifcIx_ok hix
      split at hs
      ·rename_i us hus
       rw [tx] at hx
       have ev:st.ev (.tmp r)=st.t r:=by show (if r < st.n then _ else _)=_; rw [g.n,if_pos hr]
       rw [ev] at hx
       obtain ⟨y,ids,k1,k2,k3,k4,k5,k6⟩:=agVal_ok hC g.nows hx (r:=r) (fun c=>by
        show (st.t r).parts.getD c .any=_
        have:=hx
        simp only [TV.ok] at this
        cases hv:st.t r <;> rw [hv] at this <;> first | rfl | (have:=this.1; simp [A.isAgg] at this)) hus hs
       intro σ' hσ
       cases hσ
       have hids:∀ i ∈ ids,∃ p ∈ l.flatMap ownPl1,i=C.at p∧i.1=C.d:=fun i hi=>by
        obtain ⟨p,hp,hb,e⟩:=k3 i hi
        obtain ⟨b,k⟩:=p
        have hb:b=true:=hb
        subst hb
        exact ⟨_,hp,e,by rw [e]; rfl⟩
       refine ⟨{ v:=.d (.ifc t y),rd:=ids,wr:=frz st.h ids },hop _ ?_,?_,⟨?_,?_,fun h=>(by cases h)⟩,?_⟩
       ·unfold mkIfcE
        rw [if_pos hi,ev,k1]; rfl
       ·rw [g.d]
        exact okW_of fun p hp=>by
         obtain ⟨q,_,_,e⟩:=hids _ (frz_mem hp)
         exact e
       ·intro z hz
        obtain ⟨j,hj,rfl⟩:=List.mem_map.1 hz
        obtain ⟨q,hq,e,_⟩:=hids j hj
        rw [e,sN_at hC]
        exact List.mem_map_of_mem hq
       ·intro z hz
        obtain ⟨p,hp,rfl⟩:=List.mem_map.1 hz
        obtain ⟨q,hq,e,_⟩:=hids _ (frz_mem hp)
        rw [e,sN_at hC]
        exact List.mem_map_of_mem hq
       ·refine wr_ok g (fun i=>frz_out ids st.h (fun _=>Fz_refl _) i) (fun i hi=>?_) (fun _=>?_) (fun v _ p hp=>by cases hp) fun v hv f hf=>by cases hf
        ·show upds st.h (frz st.h ids) i=_
         refine frz_not ids _ _ fun hm=>?_
         obtain ⟨q,_,_,e⟩:=hids i hm
         omega
        ·simp only [TV.ok,ShT]
         exact ⟨_,rfl,Or.inr ⟨⟨_,_,rfl⟩,hC.aif i t y u' hi1 hu k4⟩⟩
      ·cases hs
     ·cases h
    ·cases h
   ·cases h
  ·cases h
 ·cases h
end
end
end Go.Proofs.YtenoggjjhamdaaaGreatDoor
