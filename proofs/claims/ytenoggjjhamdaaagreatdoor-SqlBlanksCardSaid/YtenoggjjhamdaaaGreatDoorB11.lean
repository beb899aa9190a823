/-
  WHAT IS PROVED HERE: parts of the proof: SxC SxD SxE.
-/
import Derived.Test.YtenoggjjhamdaaaGreatDoorB10
set_option linter.all false
namespace Go.Proofs.YtenoggjjhamdaaaGreatDoor
open Go Go.RowKit
section
noncomputable section
theorem upds_app {κ α:Type} [DecidableEq κ]:∀ (a b:List (κ × α)) (T:κ→α),upds T (a ++ b)=upds (upds T a) b
 | [],b,T=>rfl
 | (i,v) :: a,b,T=>by simp only [List.cons_append,upds]; exact upds_app a b _
theorem freeze_fz (a:O):Fz a a.freeze:=by
 cases a <;> first | exact Or.inl rfl | exact Or.inr ⟨_,_,_,_,rfl,rfl⟩
theorem frz_out {h:Id→O}:∀ (l:List Id) (T:Id→O),(∀ i,Fz (h i) (T i))→∀ i,Fz (h i) (upds T (frz h l) i)
 | [],T,hT,i=>hT i
 | k :: l,T,hT,i=>by
  unfold frz
  split
  ·exact frz_out l T hT i
  ·refine frz_out l (upd T k (h k).freeze) (fun j=>?_) i
   rw [upd_at]
   split
   ·rename_i e; subst e; exact freeze_fz _
   ·exact hT j
theorem frz_not {h:Id→O}:∀ (l:List Id) (T:Id→O) (i:Id),i ∉ l→upds T (frz h l) i=T i
 | [],T,i,_=>rfl
 | k :: l,T,i,hi=>by
  simp only [List.mem_cons,not_or] at hi
  unfold frz
  split
  ·exact frz_not l T i hi.2
  ·show upds (upd T k _) (frz h l) i=_
   rw [frz_not l _ i hi.2,upd_at,if_neg hi.1]
theorem frz_mem {h:Id→O}:∀ {l:List Id} {p:Id × O},p ∈ frz h l→p.1 ∈ l
 | [],p,hp=>by cases hp
 | k :: l,p,hp=>by
  unfold frz at hp
  split at hp
  ·exact List.mem_cons_of_mem _ (frz_mem hp)
  ·rcases List.mem_cons.1 hp with rfl | hp
   ·exact List.mem_cons_self
   ·exact List.mem_cons_of_mem _ (frz_mem hp)
theorem okW_of {d:Nat} {al:List Id}:∀ {l:List (Id × O)},(∀ p ∈ l,p.1.1=d)→okW d al l=true
 | [],_=>rfl
 | p :: l,h=>by
  unfold okW
  rw [okW_of fun q hq=>h q (List.mem_cons_of_mem _ hq),h p List.mem_cons_self]
  simp
theorem okW_of2 {d:Nat} {al:List Id}:∀ {l:List (Id × O)},(∀ p ∈ l,p.1.1=d ∨ p.1 ∈ al)→okW d al l=true
 | [],_=>rfl
 | p :: l,h=>by
  unfold okW
  rw [okW_of2 fun q hq=>h q (List.mem_cons_of_mem _ hq)]
  rcases h p List.mem_cons_self with h | h
  ·rw [h]; simp
  ·simp [h]
theorem reach_sub {h:Id→O} {B S:Id→Prop} (h1:∀ i,B i→∀ j ∈ idsO (h i),B j) (h2:∀ i,B i→∀ j ∈ adIds i (h i),S j) (h3:∀ i,B i→S i):∀ (n:Nat) {l:List Id},(∀ i ∈ l,B i)→∀ j ∈ reachIds h n l,S j
 | n,[],hl,j,hj=>by cases n <;> simp [reachIds] at hj
 | 0,a :: l,hl,j,hj=>h3 j (hl j hj)
 | n + 1,a :: l,hl,j,hj=>by
  have hH:∀ (m:List Id),(∀ i ∈ m,B i)→∀ j ∈ idsH h m,B j:=by
   intro m
   induction m with
   | nil=>intro _ j hj; cases hj
   | cons b m ih =>
    intro hm j hj
    rcases List.mem_append.1 hj with hj | hj
    ·exact h1 b (hm b List.mem_cons_self) j hj
    ·exact ih (fun i hi=>hm i (List.mem_cons_of_mem _ hi)) j hj
  have hA:∀ (m:List Id),(∀ i ∈ m,B i)→∀ j ∈ adH h m,S j:=by
   intro m
   induction m with
   | nil=>intro _ j hj; cases hj
   | cons b m ih =>
    intro hm j hj
    rcases List.mem_append.1 hj with hj | hj
    ·exact h2 b (hm b List.mem_cons_self) j hj
    ·exact ih (fun i hi=>hm i (List.mem_cons_of_mem _ hi)) j hj
  rcases List.mem_append.1 hj with hj | hj
  ·rcases List.mem_append.1 hj with hj | hj
   ·exact h3 j (hl j hj)
   ·exact hA _ hl j hj
  ·exact reach_sub h1 h2 h3 n (hH _ hl) j hj
mutual
def plsT:TV→List PL
 | .bp p _=>[p]
 | .clo _ l=>plsL l
 | _=>[]
def plsL:List TV→List PL
 | []=>[]
 | t :: l=>plsT t ++ plsL l
end
def adP:PL→Nat→PL
 | (true,j),off=>(true,1000000 + 64 * j + off)
 | (false,k),off=>(false,adNum k off)
theorem adP_at {C:Cx} (hC:C.Ok) {p:PL} (hp:p.1=true ∨ p.2 < C.np) {off:Nat} (h:off < 64):C.at (adP p off)=adoptId (C.at p) off:=by
 obtain ⟨b,k⟩:=p
 cases b with
 | true=>rfl
 | false =>
  rcases hp with hp | hp
  ·cases hp
  ·exact hC.ad k off hp h
def trP (pls:List PL) (n:Nat):Option PL:=if n < 1000 then pls[n]? else (pls[(n - 1000) / 64]?).map fun p=>adP p ((n - 1000) % 64)
def piC (C:Cx) (pls:List PL) (n:Nat):Id:=match trP pls n with | some p=>C.at p | none=>(C.d + 2,n)
def plsOk (np:Nat) (pls:List PL):Bool:=decide (np ≤ 1000) && decide (pls.length ≤ 10) && (pls.all fun p=>if p.1 then decide (p.2 < 1000000) else decide (p.2 < np)) && decide (pls.Nodup)
theorem trP_box {pls:List PL} {k:Nat} {p:PL} (h10:pls.length ≤ 10) (h:pls[k]? = some p):trP pls k=some p:=by
 have:k < pls.length:=(List.getElem?_eq_some_iff.1 h).1
 unfold trP
 rw [if_pos (by omega),h]
theorem trP_ad {pls:List PL} {k off:Nat} {p:PL} (h64:off < 64) (h:pls[k]? = some p):trP pls (adNum k off)=some (adP p off):=by
 unfold trP adNum
 rw [if_neg (by omega),show (1000 + 64 * k + off - 1000) / 64=k by omega,show (1000 + 64 * k + off - 1000) % 64=off by omega,h]
 rfl
structure PlsOk (C:Cx) (pls:List PL):Prop where
 n10:pls.length ≤ 10
 np:C.np ≤ 1000
 pk:∀ p ∈ pls,(p.1=true∧p.2 < 1000000) ∨ (p.1=false∧p.2 < C.np)
 nd:pls.Nodup
theorem plsOk_ok {C:Cx} {pls:List PL} (h:plsOk C.np pls=true):PlsOk C pls:=by
 unfold plsOk at h
 simp only [Bool.and_eq_true,decide_eq_true_eq] at h
 obtain ⟨⟨⟨h1,h2⟩,h3⟩,h4⟩:=h
 refine ⟨h2,h1,fun p hp=>?_,h4⟩
 have:=List.all_eq_true.1 h3 p hp
 obtain ⟨b,k⟩:=p
 cases b with
 | true=>exact Or.inl ⟨rfl,by simpa using this⟩
 | false=>exact Or.inr ⟨rfl,by simpa using this⟩
theorem PlsOk.pk2 {C:Cx} {pls:List PL} (h:PlsOk C pls) {p:PL} (hp:p ∈ pls):p.1=true ∨ p.2 < C.np:=(h.pk p hp).imp (·.1) (·.2)
theorem at_le2 {C:Cx} (hC:C.Ok) {p:PL} (hp:p.1=true ∨ p.2 < C.np):(C.at p).1 ≤ C.d:=by
 obtain ⟨b,k⟩:=p
 cases b with
 | true=>exact Nat.le_refl _
 | false =>
  rcases hp with hp | hp
  ·cases hp
  ·exact Nat.le_of_lt (hC.low k hp)
theorem adopt_fst1 (i:Id) (k:Nat):(adoptId i k).1=i.1:=rfl
theorem trP_le {C:Cx} (hC:C.Ok) {pls:List PL} (hp:PlsOk C pls) {n:Nat} {p:PL} (h:trP pls n=some p):(C.at p).1 ≤ C.d:=by
 unfold trP at h
 split at h
 ·exact at_le2 hC (hp.pk2 (List.mem_of_getElem? h))
 ·obtain ⟨q,hq,rfl⟩:=Option.map_eq_some_iff.1 h
  have m1:∀ k:Nat,k % 64 < 64:=fun k=>Nat.mod_lt _ (Nat.zero_lt_succ _)
  have e:=adP_at hC (hp.pk2 (List.mem_of_getElem? hq)) (m1 (n - 1000))
  have e1:(C.at (adP q ((n - 1000) % 64))).1=(C.at q).1:=by rw [e]; exact adopt_fst1 _ _
  have e2:=at_le2 hC (hp.pk2 (List.mem_of_getElem? hq))
  omega
theorem nodup_ix {pls:List PL} (h:pls.Nodup) {i j:Nat} {p:PL} (hi:pls[i]? = some p) (hj:pls[j]? = some p):i=j:=by
 obtain ⟨h1,e1⟩:=List.getElem?_eq_some_iff.1 hi
 obtain ⟨h2,e2⟩:=List.getElem?_eq_some_iff.1 hj
 exact (List.getElem_inj h).1 (e1.trans e2.symm)
theorem piC_ok {C:Cx} (hC:C.Ok) {pls:List PL} (hp:PlsOk C pls):(∀ k,k < pls.length→(piC C pls k).1 < C.d + 1)∧(∀ k,(piC C pls k).1 ≠ C.d + 1)∧(∀ a b,piC C pls a=piC C pls b→a=b) ∧ ∀ k off,k < pls.length→off < 64→piC C pls (1000 + 64 * k + off)=adoptId (piC C pls k) off:=by
 have le:∀ n p,trP pls n=some p→(C.at p).1 ≤ C.d:=fun n p h=>trP_le hC hp h
 refine ⟨fun k hk=>?_,fun k=>?_,fun a b hab=>?_,fun k off hk ho=>?_⟩
 ·have:=List.getElem?_eq_getElem hk
  unfold piC
  rw [trP_box hp.n10 this]
  exact Nat.lt_succ_of_le (le k _ (trP_box hp.n10 this))
 ·unfold piC
  split
  ·rename_i p h
   have:=le k p h
   omega
  ·show C.d + 2 ≠ C.d + 1
   omega
 ·unfold piC at hab
  cases ha:trP pls a with
  | none =>
   cases hb:trP pls b with
   | none =>
    rw [ha,hb] at hab
    exact congrArg Prod.snd hab
   | some q =>
    rw [ha,hb] at hab
    have h1:C.d + 2=(C.at q).1:=congrArg Prod.fst hab
    have:=le b q hb
    omega
  | some p =>
   cases hb:trP pls b with
   | none =>
    rw [ha,hb] at hab
    have h1:(C.at p).1=C.d + 2:=congrArg Prod.fst hab
    have:=le a p ha
    omega
   | some q =>
    rw [ha,hb] at hab
    have hpq:p=q:=at_inj2 hC hab
    subst hpq
    have far:∀ {i off:Nat} {r:PL},p ∈ pls→pls[i]? = some r→adP r off ≠ p:=by
     intro i off r h1 h2 e
     have k1:=hp.pk p h1
     have k2:=hp.pk r (List.mem_of_getElem? h2)
     have:=hp.np
     obtain ⟨rb,rk⟩:=r
     cases rb with
     | true =>
      subst e
      rcases k1 with ⟨_,k1⟩ | ⟨k1,_⟩
      ·have k1:1000000 + 64 * rk + off < 1000000:=k1
       omega
      ·cases k1
     | false =>
      subst e
      rcases k1 with ⟨k1,_⟩ | ⟨_,k1⟩
      ·cases k1
      ·have k1:1000 + 64 * rk + off < C.np:=k1
       omega
    unfold trP at ha hb
    split at ha
    ·split at hb
     ·exact nodup_ix hp.nd ha hb
     ·obtain ⟨r,hr,e⟩:=Option.map_eq_some_iff.1 hb
      exact absurd e (far (List.mem_of_getElem? ha) hr)
    ·obtain ⟨r,hr,e⟩:=Option.map_eq_some_iff.1 ha
     split at hb
     ·exact absurd e (far (List.mem_of_getElem? hb) hr)
     ·obtain ⟨s,hs,e2⟩:=Option.map_eq_some_iff.1 hb
      have h3:adP r ((a - 1000) % 64)=adP s ((b - 1000) % 64):=e.trans e2.symm
      have m1:(a - 1000) % 64 < 64:=Nat.mod_lt _ (by decide)
      have m2:(b - 1000) % 64 < 64:=Nat.mod_lt _ (by decide)
      have h4:r=s∧(a - 1000) % 64=(b - 1000) % 64:=by
       obtain ⟨rb,rk⟩:=r
       obtain ⟨sb,sk⟩:=s
       cases rb <;> cases sb <;> simp only [adP,adNum,Prod.mk.injEq,reduceCtorEq,false_and,true_and] at h3
       ·have:rk=sk:=by omega
        subst this
        exact ⟨rfl,by omega⟩
       ·have:rk=sk:=by omega
        subst this
        exact ⟨rfl,by omega⟩
      obtain ⟨rfl,h5⟩:=h4
      have h6:=nodup_ix hp.nd hr hs
      omega
 ·have hg:=List.getElem?_eq_getElem hk
  unfold piC
  rw [show 1000 + 64 * k + off=adNum k off from rfl,trP_ad ho hg,trP_box hp.n10 hg]
  exact adP_at hC (hp.pk2 (List.getElem_mem hk)) ho
def cellOkT:TV→Bool
 | .c t=>t.flat
 | .nilv | .own _ _ | .rl _ _=>true
 | _=>false
def cellPls (p:PL):Nat→List TV→List PL
 | _,[]=>[]
 | off,t :: ts=>(match t with
  | .own q _ | .rl q _=>[q,adP p off]
  | .nilv=>[adP p off]
  | _=>[]) ++ cellPls p (off + 1) ts
theorem cells_ids {C:Cx} {h:Id→O} {p:PL} {i:Id}:∀ {ts:List TV} {cs:List A} {off:Nat},TV.oks C h ts cs→ts.all cellOkT=true →
  (∀ j ∈ idsL cs,∃ q ∈ cellPls p off ts,j=C.at q ∧ ∃ v n xs fz,h j = .vec v n xs fz) ∧ ∀ j ∈ adL i off cs,∃ k,k < off + ts.length∧j=adoptId i k∧adP p k ∈ cellPls p off ts
 | [],cs,off,hx,_=>by
  simp only [TV.oks] at hx
  subst hx
  exact ⟨fun j hj=>by simp [idsL] at hj,fun j hj=>by simp [adL] at hj⟩
 | t :: ts,cs,off,hx,ha=>by
  simp only [TV.oks] at hx
  obtain ⟨a,l,rfl,h2,h3⟩:=hx
  rw [List.all_cons,Bool.and_eq_true] at ha
  obtain ⟨i1,i2⟩:=cells_ids (p:=p) (i:=i) (off:=off + 1) h3 ha.2
  have head:(∀ j ∈ idsA a,∃ q ∈ cellPls p off (t :: ts),j=C.at q ∧ ∃ v n xs fz,h j = .vec v n xs fz)∧(adoptable (some a)=true→adP p off ∈ cellPls p off (t :: ts)):=by
   have h1:=ha.1
   cases t <;> simp only [cellOkT,Bool.false_eq_true] at h1 <;> simp only [TV.ok] at h2
   ·obtain ⟨x,rfl,_⟩:=h2
    exact ⟨fun j hj=>by simp [idsA] at hj,fun h=>by simp [adoptable] at h⟩
   ·subst h2
    exact ⟨fun j hj=>by simp [idsA] at hj,fun _=>by simp [cellPls]⟩
   ·rename_i q e
    refine ⟨?_,fun _=>by simp [cellPls]⟩
    rcases h2 with ⟨xs,rfl,_⟩ | ⟨ver,n,xs,fz,rfl,hv,_⟩
    ·intro j hj; simp [idsA] at hj
    ·intro j hj
     have:j=C.at q:=by simpa [idsA] using hj
     exact ⟨q,by simp [cellPls],this,ver,n,xs,fz,by rw [this]; exact hv⟩
   ·rename_i q e
    refine ⟨?_,fun _=>by simp [cellPls]⟩
    rcases h2 with (⟨xs,rfl,_⟩ | ⟨ver,n,xs,fz,rfl,hv,_⟩) | ⟨xs,rfl,_⟩
    ·intro j hj; simp [idsA] at hj
    ·intro j hj
     have:j=C.at q:=by simpa [idsA] using hj
     exact ⟨q,by simp [cellPls],this,ver,n,xs,fz,by rw [this]; exact hv⟩
    ·intro j hj; simp [idsA] at hj
  have tail:∀ q,q ∈ cellPls p (off + 1) ts→q ∈ cellPls p off (t :: ts):=fun q hq=>by
   unfold cellPls
   exact List.mem_append_right _ hq
  refine ⟨fun j hj=>?_,fun j hj=>?_⟩
  ·simp only [idsL,List.mem_append] at hj
   rcases hj with hj | hj
   ·exact head.1 j hj
   ·obtain ⟨q,h4,h5⟩:=i1 j hj
    exact ⟨q,tail q h4,h5⟩
  ·unfold adL at hj
   have rest:∀ j ∈ adL i (off + 1) l,∃ k,k < off + (t :: ts).length∧j=adoptId i k∧adP p k ∈ cellPls p off (t :: ts):=fun j hj=>by
    obtain ⟨k,h4,h5,h6⟩:=i2 j hj
    exact ⟨k,by simp; omega,h5,tail _ h6⟩
   split at hj
   ·rename_i had
    rcases List.mem_cons.1 hj with rfl | hj
    ·exact ⟨off,by simp,rfl,head.2 had⟩
    ·exact rest j hj
   ·exact rest j hj
def reachPls (σ:SS) (pls:List PL):List PL:=pls ++ pls.flatMap fun p=>match σ.hp.find? fun q=>q.1 == p with | some q=>cellPls p 0 q.2 | none=>[]
def fitCell (E:Nat→Option (List Ty)) (pls:List PL) (k c:Nat) (t u:TV):Bool :=
 match u with
 | .was k' c'=>Nat.beq k k' && Nat.beq c c'
 | .any=>true
 | .c u'=>(match t with | .c t'=>Ty.subE E t' u' | _=>false)
 | .nilv=>(match t with | .nilv=>true | _=>false)
 | .own q e'=>(match t with
  | .nilv=>true
  | .own p e=>!q.1 && (match trP pls q.2 with | some r=>r == p | none=>false) && Ty.sub e e' && e.sz E == e'.sz E
  | _=>false)
 | _=>false
def fitCells (E:Nat→Option (List Ty)) (pls:List PL) (k:Nat):Nat→List TV→List TV→Bool
 | _,[],[]=>true
 | c,t :: ts,u :: us=>fitCell E pls k c t u && fitCells E pls k (c + 1) ts us
 | _,_,_=>false
def parOk (E:Nat→Option (List Ty)) (σ:SS) (pls:List PL) (k:Nat) (p:PL) (ts:List TV):Bool :=
 (match σ.hp.find? fun q=>q.1 == p with | some q=>q.2.all cellOkT && decide (q.2.length ≤ 64) && fitCells E pls k 0 q.2 ts | none=>false)
def parsOk (E:Nat→Option (List Ty)) (σ:SS) (pls:List PL):Nat→List PL→List (List TV)→Bool
 | _,[],[]=>true
 | k,p :: l,ts :: m=>parOk E σ pls k p ts && parsOk E σ pls (k + 1) l m
 | _,_,_=>false
theorem fitCells_ok {C C':Cx} (hC:C.Ok) {h:Id→O} {pls:List PL} (hR:C'.R=C.R) (hE:C'.E=C.E) (hp:∀ n p,trP pls n=some p→C'.π n=C.at p) {k:Nat} {all:List A} (h0:∀ c,boxCell (C'.h0 (C'.π k)) c=all.getD c .any):∀ {ts us:List TV} {cs:List A} {c:Nat},TV.oks C h ts cs→(∀ i,cs.getD i .any=all.getD (c + i) .any)→fitCells C.E pls k c ts us=true→TV.oks C' h us cs
 | [],us,cs,c,hx,_,hf=>by
  cases us <;> simp only [fitCells,Bool.false_eq_true] at hf
  simpa only [TV.oks] using hx
 | t :: ts,us,cs,c,hx,hall,hf=>by
  cases us <;> simp only [fitCells,Bool.false_eq_true,Bool.and_eq_true] at hf
  rename_i u us
  simp only [TV.oks] at hx ⊢
  obtain ⟨a,l,rfl,h2,h3⟩:=hx
  refine ⟨a,l,rfl,?_,fitCells_ok hC hR hE hp h0 h3 (fun i=>by
   have:=hall (i + 1)
   rw [show c + (i + 1)=c + 1 + i by omega] at this
   simpa using this) hf.2⟩
  have hf1:=hf.1
  unfold fitCell at hf1
  cases u <;> simp only [Bool.false_eq_true] at hf1
  ·simp only [TV.ok]
  ·split at hf1
   ·simp only [TV.ok] at h2 ⊢
    obtain ⟨x,rfl,h2⟩:=h2
    exact ⟨x,rfl,by rw [hR]; exact subE_ok hC.rel hf1 h2⟩
   ·cases hf1
  ·split at hf1
   ·simpa only [TV.ok] using h2
   ·cases hf1
  ·rename_i q e'
   split at hf1
   ·simp only [TV.ok] at h2 ⊢
    exact Or.inl ⟨[],h2,fun x hx=>by cases hx⟩
   ·rename_i p e
    simp only [Bool.and_eq_true] at hf1
    obtain ⟨⟨⟨g1,g2⟩,g3⟩,g4⟩:=hf1
    obtain ⟨qb,qn⟩:=q
    have hqb:qb=false:=by simpa using g1
    subst hqb
    split at g2
    ·rename_i r hr
     have hrp:r=p:=eq_of_beq g2
     subst hrp
     have e1:C'.at (false,qn)=C.at r:=hp qn r hr
     have e2:e.sz C.E=e'.sz C.E:=eq_of_beq g4
     simp only [TV.ok] at h2 ⊢
     rw [e1,hR,hE]
     rcases h2 with ⟨xs,h4,h5⟩ | ⟨ver,n,xs,fz,h4,h5,h6,h7⟩
     ·exact Or.inl ⟨xs,h4,fun x hx=>sub_ok hC.rel _ _ _ g3 (h5 x hx)⟩
     ·exact Or.inr ⟨ver,n,xs,fz,h4,h5,by rw [h6,e2],fun x hx=>sub_ok hC.rel _ _ _ g3 (h7 x hx)⟩
    ·cases g2
   ·cases hf1
  ·rename_i k' c'
   rw [Bool.and_eq_true] at hf1
   have e1:k=k':=Nat.eq_of_beq_eq_true hf1.1
   have e2:c=c':=Nat.eq_of_beq_eq_true hf1.2
   subst e1 e2
   simp only [TV.ok]
   rw [h0]
   have:=hall 0
   simpa using this
structure ParR (C C':Cx) (σ:SS) (h h1:Id→O) (p:PL) (ts:List TV):Prop where
 box:∃ q ver cs,(σ.hp.find? fun q=>q.1 == p)=some q∧h (C.at p) = .box ver cs∧h1 (C.at p) = .box ver cs∧TV.oks C h1 q.2 cs∧TV.oks C h q.2 cs∧q.2.all cellOkT=true∧q.2.length ≤ 64∧TV.oks C' h1 ts cs
theorem parsOk_ok {C C':Cx} (hC:C.Ok) {σ:SS} {st:St} (g:Ga C σ st) {h1:Id→O} (hh:∀ q,Fz (st.h (C.at q)) (h1 (C.at q))) (hR:C'.R=C.R) (hE:C'.E=C.E) {pls:List PL} (hh0:∀ p ∈ pls,C'.h0 (C.at p)=h1 (C.at p)) (hp:∀ n p,trP pls n=some p→C'.π n=C.at p) (h10:pls.length ≤ 10):∀ {l:List PL} {k:Nat} {pars:List (List TV)},(∀ i p,l[i]? = some p→pls[k + i]? = some p)→parsOk C.E σ pls k l pars=true →
  l.length=pars.length ∧ ∀ (i:Nat) (p:PL) (ts:List TV),l[i]? = some p→pars[i]? = some ts→ParR C C' σ st.h h1 p ts
 | [],k,pars,_,hf=>by
  cases pars <;> simp only [parsOk,Bool.false_eq_true] at hf
  exact ⟨rfl,fun i p ts hp=>(by simp at hp)⟩
 | p :: l,k,pars,hl,hf=>by
  cases pars <;> simp only [parsOk,Bool.false_eq_true,Bool.and_eq_true] at hf
  rename_i ts pars
  obtain ⟨i1,i2⟩:=parsOk_ok hC g hh hR hE hh0 hp h10 (l:=l) (k:=k + 1) (fun i p hi=>by
   have:=hl (i + 1) p (by simpa using hi)
   rw [show k + 1 + i=k + (i + 1) by omega]; exact this) hf.2
  refine ⟨by simp [i1],fun i r us hr hu=>?_⟩
  cases i with
  | succ i=>exact i2 i r us (by simpa using hr) (by simpa using hu)
  | zero =>
   simp only [List.getElem?_cons_zero,Option.some.injEq] at hr hu
   subst hr hu
   have h0:=hf.1
   unfold parOk at h0
   split at h0
   ·rename_i q hq
    simp only [Bool.and_eq_true,decide_eq_true_eq] at h0
    obtain ⟨⟨a1,a2⟩,a3⟩:=h0
    have hq1:=g.hp q (List.mem_of_find?_eq_some hq)
    have hq2:q.1=p:=by simpa using List.find?_some hq
    rw [hq2] at hq1
    obtain ⟨ver,cs,hb,hcs⟩:=hq1
    have hb1:h1 (C.at p) = .box ver cs:=by
     rcases hh p with h | ⟨v,n,xs,fz,h4,h5⟩
     ·rw [h,hb]
     ·rw [hb] at h4; cases h4
    have hcs1:TV.oks C h1 q.2 cs:=TV.oks_keep (fun q _=>hh q) hcs
    have hpk:C'.π k=C.at p:=hp k p (trP_box h10 (by have:=hl 0 p (by simp); simpa using this))
    exact ⟨q,ver,cs,hq,hb,hb1,hcs1,hcs,a1,a2,fitCells_ok hC hR hE hp (all:=cs) (fun c=>by rw [hpk,hh0 p (List.mem_of_getElem? (hl 0 p (by simp))),hb1]; rfl) hcs1 (fun i=>by rw [Nat.zero_add]) a3⟩
   ·cases h0
theorem reach_ok {C C':Cx} (hC:C.Ok) {σ:SS} {h h1:Id→O} {pls:List PL} (hpo:PlsOk C pls) {pars:List (List TV)} (hlen:pls.length=pars.length) (hpar:∀ (i:Nat) (p:PL) (ts:List TV),pls[i]? = some p→pars[i]? = some ts→ParR C C' σ h h1 p ts) {ws:List A} (hws:∀ i ∈ idsL ws,∃ p ∈ pls,i=C.at p):∀ j ∈ reachIds h1 3 (idsL ws),∃ q ∈ reachPls σ pls,j=C.at q:=by
 have par:∀ p ∈ pls,∃ ts,ParR C C' σ h h1 p ts:=fun p hp=>by
  obtain ⟨i,hi,rfl⟩:=List.getElem_of_mem hp
  exact ⟨_,hpar i _ _ (List.getElem?_eq_getElem hi) (List.getElem?_eq_getElem (by rw [← hlen]; exact hi))⟩
 have sub:∀ p ∈ pls,∀ q,(σ.hp.find? fun q=>q.1 == p)=some q→∀ r ∈ cellPls p 0 q.2,r ∈ reachPls σ pls:=fun p hp q hq r hr=>by
  refine List.mem_append_right _ (List.mem_flatMap.2 ⟨p,hp,?_⟩)
  rw [hq]; exact hr
 refine reach_sub (B:=fun i=>(∃ p ∈ pls,i=C.at p) ∨ ∃ q ∈ reachPls σ pls,i=C.at q ∧ ∃ v n xs fz,h1 i = .vec v n xs fz) ?_ ?_ ?_ 3 (fun i hi=>Or.inl (hws i hi))
 ·rintro i (⟨p,hp,rfl⟩ | ⟨q,hq,rfl,v,n,xs,fz,hv⟩) j hj
  ·obtain ⟨ts,⟨q,ver,cs,hq,_,hb1,hcs,_,a1,_,_⟩⟩:=par p hp
   rw [hb1] at hj
   obtain ⟨r,hr,e,hv⟩:=(cells_ids (p:=p) (i:=C.at p) (off:=0) hcs a1).1 j hj
   exact Or.inr ⟨r,sub p hp q hq r hr,e,hv⟩
  ·rw [hv] at hj; cases hj
 ·rintro i (⟨p,hp,rfl⟩ | ⟨q,hq,rfl,v,n,xs,fz,hv⟩) j hj
  ·obtain ⟨ts,⟨q,ver,cs,hq,_,hb1,hcs,_,a1,a2,_⟩⟩:=par p hp
   rw [hb1] at hj
   obtain ⟨k,hk,rfl,hm⟩:=(cells_ids (p:=p) (i:=C.at p) (off:=0) hcs a1).2 j hj
   exact ⟨adP p k,sub p hp q hq _ hm,(adP_at hC (hpo.pk2 hp) (by omega)).symm⟩
  ·rw [hv] at hj; cases hj
 ·rintro i (⟨p,hp,rfl⟩ | ⟨q,hq,rfl,_⟩)
  ·exact ⟨p,List.mem_append_left _ hp,rfl⟩
  ·exact ⟨q,hq,rfl⟩
theorem idsL_map_d:∀ xs:List D,idsL (xs.map A.d)=[]
 | []=>rfl
 | x :: xs=>by
  show idsA (.d x) ++ idsL (xs.map A.d)=[]
  rw [idsL_map_d xs]; rfl
theorem idsL_cells {a:A} (h:a.isAgg=true):idsL a.cells=idsA a:=by
 cases a with
 | d x =>
  cases x with
  | agg xs=>exact idsL_map_d xs
  | _=>cases h
 | agg xs=>rfl
 | _=>cases h
mutual
theorem TV.ok_at {C:Cx} {h h2:Id→O}:∀ {t:TV} {a:A},(∀ i ∈ idsA a,(h i).live=true→h2 i=h i)→TV.ok C h t a→TV.ok C h2 t a
 | .any,a,_,_=>by simp only [TV.ok]
 | .c t,a,_,hx=>by simpa only [TV.ok] using hx
 | .nilv,a,_,hx=>by simpa only [TV.ok] using hx
 | .und,a,_,hx=>by simpa only [TV.ok] using hx
 | .was k i,a,_,hx=>by simpa only [TV.ok] using hx
 | .dead,a,_,hx=>by simpa only [TV.ok] using hx
 | .mp q ey s,a,hm,hx=>by
  simp only [TV.ok] at hx ⊢
  obtain ⟨ver,t,c,rfl,h3,h4⟩:=hx
  exact ⟨ver,t,c,rfl,by rw [hm _ (by simp [idsA]) (by rw [h3]; rfl)]; exact h3,h4⟩
 | .own q e,a,hm,hx=>by
  simp only [TV.ok] at hx ⊢
  rcases hx with hx | ⟨ver,n,xs,fz,rfl,h3,h4⟩
  ·exact Or.inl hx
  ·exact Or.inr ⟨ver,n,xs,fz,rfl,by rw [hm _ (by simp [idsA]) (by rw [h3]; rfl)]; exact h3,h4⟩
 | .rl q e,a,hm,hx=>by
  simp only [TV.ok] at hx ⊢
  rcases hx with (hx | ⟨ver,n,xs,fz,rfl,h3,h4⟩) | hx
  ·exact Or.inl (Or.inl hx)
  ·exact Or.inl (Or.inr ⟨ver,n,xs,fz,rfl,by rw [hm _ (by simp [idsA]) (by rw [h3]; rfl)]; exact h3,h4⟩)
  ·exact Or.inr hx
 | .tup l,a,hm,hx=>by
  simp only [TV.ok] at hx ⊢
  obtain ⟨zs,rfl,h3⟩:=hx
  exact ⟨zs,rfl,TV.oks_at (fun i hi=>hm i (by simpa only [idsA] using hi)) h3⟩
 | .bp q off,a,hm,hx=>by
  simp only [TV.ok] at hx ⊢
  obtain ⟨ver,cs,rfl,h3⟩:=hx
  exact ⟨ver,cs,rfl,by rw [hm _ (by simp [idsA]) (by rw [h3]; rfl)]; exact h3⟩
 | .ep t off,a,_,hx=>by simpa only [TV.ok] using hx
 | .clo f l,a,hm,hx=>by
  simp only [TV.ok] at hx ⊢
  obtain ⟨zs,rfl,h3⟩:=hx
  exact ⟨zs,rfl,TV.oks_at (fun i hi=>hm i (by simpa only [idsA] using hi)) h3⟩
 | .ag l,a,hm,hx=>by
  simp only [TV.ok] at hx ⊢
  exact ⟨hx.1,TV.oks_at (fun i hi=>hm i (by rw [← idsL_cells hx.1]; exact hi)) hx.2⟩
 | .el q e off,a,hm,hx=>by
  simp only [TV.ok] at hx ⊢
  rcases hx with hx | ⟨ver,n,xs,fz,i,x,rfl,h3,h4⟩
  ·exact Or.inl hx
  ·exact Or.inr ⟨ver,n,xs,fz,i,x,rfl,by rw [hm _ (by simp [idsA]) (by rw [h3]; rfl)]; exact h3,h4⟩
theorem TV.oks_at {C:Cx} {h h2:Id→O}:∀ {ts:List TV} {zs:List A},(∀ i ∈ idsL zs,(h i).live=true→h2 i=h i)→TV.oks C h ts zs→TV.oks C h2 ts zs
 | [],zs,_,hx=>by simpa only [TV.oks] using hx
 | t :: ts,zs,hm,hx=>by
  simp only [TV.oks] at hx ⊢
  obtain ⟨a,l,rfl,h3,h4⟩:=hx
  exact ⟨a,l,rfl,TV.ok_at (fun i hi=>hm i (by simp only [idsL]; exact List.mem_append_left _ hi)) h3,TV.oks_at (fun i hi=>hm i (by simp only [idsL]; exact List.mem_append_right _ hi)) h4⟩
end
mutual
theorem plsT_ids {C:Cx} {h:Id→O}:∀ {t:TV} {a:A},TV.ok C h t a→∀ p ∈ plsT t,C.at p ∈ idsA a
 | .bp q off,a,hx,p,hp=>by
  simp only [TV.ok] at hx
  obtain ⟨ver,cs,rfl,_⟩:=hx
  have:p=q:=by simpa [plsT] using hp
  subst this; simp [idsA]
 | .clo f l,a,hx,p,hp=>by
  simp only [TV.ok] at hx
  obtain ⟨zs,rfl,h3⟩:=hx
  simp only [plsT] at hp
  simp only [idsA]
  exact plsL_ids h3 p hp
 | .any,_,_,_,hp | .c _,_,_,_,hp | .nilv,_,_,_,hp | .und,_,_,_,hp | .was _ _,_,_,_,hp | .dead,_,_,_,hp | .mp _ _ _,_,_,_,hp | .own _ _,_,_,_,hp | .rl _ _,_,_,_,hp | .tup _,_,_,_,hp | .ep _ _,_,_,_,hp | .ag _,_,_,_,hp | .el _ _ _,_,_,_,hp=>by simp [plsT] at hp
theorem plsL_ids {C:Cx} {h:Id→O}:∀ {ts:List TV} {zs:List A},TV.oks C h ts zs→∀ p ∈ plsL ts,C.at p ∈ idsL zs
 | [],zs,_,p,hp=>by simp [plsL] at hp
 | t :: ts,zs,hx,p,hp=>by
  simp only [TV.oks] at hx
  obtain ⟨a,l,rfl,h3,h4⟩:=hx
  simp only [plsL,List.mem_append] at hp
  simp only [idsL,List.mem_append]
  rcases hp with hp | hp
  ·exact Or.inl (plsT_ids h3 p hp)
  ·exact Or.inr (plsL_ids h4 p hp)
end
theorem plsT_arg {C:Cx} {h h1:Id→O} {t:TV} {a w:A} {ids:List Id} (hx:TV.ok C h t a) (he:argA h1 a=some (w,ids)):∀ p ∈ plsT t,C.at p ∈ idsA w:=by
 intro p hp
 have h3:=plsT_ids hx p hp
 cases t <;> simp only [plsT] at hp <;> (try cases hp)
 ·simp only [TV.ok] at hx
  obtain ⟨ver,cs,rfl,_⟩:=hx
  cases he; exact h3
 ·simp only [TV.ok] at hx
  obtain ⟨ver,cs,rfl,_⟩:=hx
  cases he; exact h3
 ·simp only [TV.ok] at hx
  obtain ⟨zs,rfl,_⟩:=hx
  cases he; exact h3
theorem plsL_arg {C:Cx} {h h1:Id→O}:∀ {ts:List TV} {zs ws:List A} {ids:List Id},TV.oks C h ts zs→argAs h1 zs=some (ws,ids)→∀ p ∈ plsL ts,C.at p ∈ idsL ws
 | [],zs,ws,ids,_,_,p,hp=>by simp [plsL] at hp
 | t :: ts,zs,ws,ids,hx,he,p,hp=>by
  simp only [TV.oks] at hx
  obtain ⟨a,l,rfl,h3,h4⟩:=hx
  unfold argAs at he
  split at he
  ·rename_i x i xs j e1 e2
   cases he
   simp only [plsL,List.mem_append] at hp
   simp only [idsL,List.mem_append]
   rcases hp with hp | hp
   ·exact Or.inl (plsT_arg h3 e1 p hp)
   ·exact Or.inr (plsL_arg h4 e2 p hp)
  ·cases he
theorem refs_sub {h:Id→O} {B:Id→Prop} (h1:∀ i,B i→∀ j ∈ idsO (h i),B j):∀ (n:Nat) {l:List Id},(∀ i ∈ l,B i)→∀ j ∈ refIds h n l,B j
 | n,[],hl,j,hj=>by cases n <;> simp [refIds] at hj
 | 0,a :: l,hl,j,hj=>hl j hj
 | n + 1,a :: l,hl,j,hj=>by
  have hH:∀ (m:List Id),(∀ i ∈ m,B i)→∀ j ∈ idsH h m,B j:=by
   intro m
   induction m with
   | nil=>intro _ j hj; cases hj
   | cons b m ih =>
    intro hm j hj
    rcases List.mem_append.1 hj with hj | hj
    ·exact h1 b (hm b List.mem_cons_self) j hj
    ·exact ih (fun i hi=>hm i (List.mem_cons_of_mem _ hi)) j hj
  rcases List.mem_append.1 hj with hj | hj
  ·exact hl j hj
  ·exact refs_sub h1 n (hH _ hl) j hj
theorem idsH_mem {h:Id→O}:∀ {l:List Id} {i j:Id},i ∈ l→j ∈ idsO (h i)→j ∈ idsH h l
 | a :: l,i,j,hi,hj=>by
  rcases List.mem_cons.1 hi with rfl | hi
  ·exact List.mem_append_left _ hj
  ·exact List.mem_append_right _ (idsH_mem hi hj)
theorem refs_step {h:Id→O} {n:Nat} {l:List Id} {i j:Id} (hi:i ∈ l) (hj:j ∈ idsO (h i)):j ∈ refIds h (n + 1) l:=by
 cases l with
 | nil=>cases hi
 | cons a l=>exact List.mem_append_right _ (mem_refs h n (idsH_mem hi hj))
theorem wsIx_ok {ws:List (Nat × List TV)} {k i:Nat} (h:wsIx ws k=some i):∃ w,ws[i]? = some w∧w.1=k:=by
 unfold wsIx at h
 obtain ⟨hi,h1,_⟩:=List.findIdx?_eq_some_iff_getElem.1 h
 exact ⟨ws[i],List.getElem?_eq_getElem hi,Nat.eq_of_beq_eq_true h1⟩
end
end
section
noncomputable section
def canV (C:Cx) (st:St) (a:A) (bc:List A):AP→A:=fun x=>match x.1 with
 | 0 | 1 | 2 | 3 | 4=>apv C st x
 | 5=>a
 | 6=>a.parts.getD x.2.1 .any
 | 7=>bc.getD x.2.1 .any
 | _=>.any
theorem canV_new (C:Cx) (st:St) (a:A) (bc:List A):New C st a bc (canV C st a bc):=by
 refine ⟨fun x hx=>?_,fun _ _=>rfl,fun _ _=>rfl,fun _ _=>rfl⟩
 obtain ⟨k,i,c⟩:=x
 simp only at hx
 match k,hx with
 | 0,_=>rfl
 | 1,_=>rfl
 | 2,_=>rfl
 | 3,_=>rfl
 | 4,_=>rfl
theorem plain_other {C1 C2:Cx} (hR:C2.R=C1.R) {h1 h2:Id→O}:∀ {us:List TV} {ws:List A},us.all plainArg=true→TV.oks C1 h1 us ws→TV.oks C2 h2 us ws∧ws.all A.plain=true
 | [],ws,_,hx=>by simp only [TV.oks] at hx; subst hx; simp [TV.oks]
 | u :: us,ws,hp,hx=>by
  rw [List.all_cons,Bool.and_eq_true] at hp
  simp only [TV.oks] at hx ⊢
  obtain ⟨a,l,rfl,h3,h4⟩:=hx
  have ih:=plain_other (C2:=C2) hR (h2:=h2) hp.2 h4
  have h0:=hp.1
  cases u <;> simp only [plainArg,Bool.false_eq_true] at h0
  ·simp only [TV.ok] at h3
   obtain ⟨x,rfl,h5⟩:=h3
   exact ⟨⟨_,l,rfl,by simp only [TV.ok]; exact ⟨x,rfl,by rw [hR]; exact h5⟩,ih.1⟩,by simp only [List.all_cons,ih.2]; rfl⟩
  ·rename_i f caps
   have hc:caps=[]:=by simpa using h0
   subst hc
   simp only [TV.ok,TV.oks] at h3
   obtain ⟨zs,rfl,rfl⟩:=h3
   exact ⟨⟨_,l,rfl,by simp only [TV.ok,TV.oks]; exact ⟨[],rfl,rfl⟩,ih.1⟩,by simp only [List.all_cons,ih.2]; rfl⟩
theorem not_plain {C1:Cx} {h1:Id→O}:∀ {us:List TV} {ws:List A},TV.oks C1 h1 us ws→(us.any fun u=>match u with | .bp _ _=>true | .clo _ l=>!l.isEmpty | _=>false)=true→ws.all A.plain=false
 | [],ws,hx,hp=>by simp at hp
 | u :: us,ws,hx,hp=>by
  simp only [TV.oks] at hx
  obtain ⟨a,l,rfl,h3,h4⟩:=hx
  rw [List.any_cons,Bool.or_eq_true] at hp
  rw [List.all_cons,Bool.and_eq_false_iff]
  rcases hp with hp | hp
  ·left
   split at hp
   ·simp only [TV.ok] at h3
    obtain ⟨_,_,rfl,_⟩:=h3
    rfl
   ·rename_i f caps
    simp only [TV.ok] at h3
    obtain ⟨zs,rfl,h5⟩:=h3
    cases caps with
    | nil=>simp at hp
    | cons t caps =>
     simp only [TV.oks] at h5
     obtain ⟨a,l',rfl,_⟩:=h5
     rfl
   ·cases hp
  ·exact Or.inr (not_plain h4 hp)
def hasPl (us:List TV):Bool:=us.any fun u=>match u with | .bp _ _=>true | .clo _ l=>!l.isEmpty | _=>false
def reachOk (np:Nat) (ads:List (Nat × Nat)) (q:PL):Bool :=
 q.1 || (decide (q.2 < np) || (decide (1000 ≤ q.2) && ads.contains ((q.2 - 1000) / 64,(q.2 - 1000) % 64)))
theorem reachOk_ok {C:Cx} (hC:C.Ok) {σ:SS} {st:St} (g:Ga C σ st) {q:PL} (h:reachOk C.np C.ads q=true):(C.at q).1=C.d ∨ C.at q ∈ st.al:=by
 obtain ⟨b,k⟩:=q
 cases b with
 | true=>exact Or.inl rfl
 | false =>
  right
  unfold reachOk at h
  simp only [Bool.false_or,Bool.or_eq_true,Bool.and_eq_true,decide_eq_true_eq] at h
  rcases h with h | ⟨h1,h2⟩
  ·exact g.al.1 k h
  ·have h2:((k - 1000) / 64,(k - 1000) % 64) ∈ C.ads:=by simpa using h2
   have h3:=hC.adk _ h2
   have h4:=hC.ad _ _ h3.1 h3.2
   have h5:=g.al.2 _ h2
   have e:1000 + 64 * ((k - 1000) / 64) + (k - 1000) % 64=k:=by omega
   rw [e] at h4
   show C.π k ∈ st.al
   rw [h4]; exact h5
def writesOk (wl:List Nat) (ads:List (Nat × Nat)) (c:Ctr) (pls:List PL):Bool :=
 (c.ws.all fun p=>match pls[p.1]? with | some q=>q.1 || wl.contains q.2 | none=>false) && c.ads.all fun a=>decide (a.2 < 64) && match pls[a.1]? with | some q=>q.1 || ads.contains (q.2,a.2) | none=>false
structure WritesOk (C:Cx) (c:Ctr) (pls:List PL):Prop where
 w:∀ p ∈ c.ws,∃ q,pls[p.1]? = some q∧(q.1=true ∨ q.2 ∈ C.wl)
 a:∀ a ∈ c.ads,a.2 < 64 ∧ ∃ q,pls[a.1]? = some q∧(q.1=true ∨ (q.2,a.2) ∈ C.ads)
theorem writesOk_ok {C:Cx} {c:Ctr} {pls:List PL} (h:writesOk C.wl C.ads c pls=true):WritesOk C c pls:=by
 unfold writesOk at h
 rw [Bool.and_eq_true] at h
 refine ⟨fun p hp=>?_,fun a ha=>?_⟩
 ·have:=List.all_eq_true.1 h.1 p hp
  split at this
  ·rename_i q hq
   rw [Bool.or_eq_true] at this
   exact ⟨q,hq,this.imp id (by simp)⟩
  ·cases this
 ·have:=List.all_eq_true.1 h.2 a ha
  rw [Bool.and_eq_true] at this
  refine ⟨of_decide_eq_true this.1,?_⟩
  have:=this.2
  split at this
  ·rename_i q hq
   rw [Bool.or_eq_true] at this
   exact ⟨q,hq,this.imp id (by simp)⟩
  ·cases this
def adPls (pls:List PL) (ads:List (Nat × Nat)):List PL:=ads.filterMap fun a=>(pls[a.1]?).map fun p=>adP p a.2
theorem graph_mem {h:Id→O}:∀ {l:List Id} {q:Id × O},q ∈ graphOf h l→q.1 ∈ l
 | [],q,hq=>by cases hq
 | i :: l,q,hq=>by
  rcases List.mem_cons.1 hq with rfl | hq
  ·exact List.mem_cons_self
  ·exact List.mem_cons_of_mem _ (graph_mem hq)
theorem frz_low {C:Cx} (hC:C.Ok) {st:St} {ids:List Id} {own:List PL} (hi:∀ i ∈ ids,∃ p ∈ own,p.1=true∧i=C.at p) (id:Id) (h:id.1 ≠ C.d):upds st.h (frz st.h ids) id=st.h id :=
 frz_not ids _ _ fun hm=>by
  obtain ⟨⟨b,k⟩,_,hb,rfl⟩:=hi id hm
  have hb:b=true:=hb
  subst hb
  exact h rfl
theorem Fz_ver {a b:O} (h:Fz a b):b.ver=a.ver:=by
 rcases h with rfl | ⟨v,n,xs,fz,rfl,rfl⟩ <;> rfl
def canC (C:Cx) (st:St) (a:A) (h':Id→O):AP→A:=fun x=>match x.1 with
 | 0 | 1 | 2 | 3 | 4=>apv C st x
 | 5=>a
 | 6=>a.parts.getD x.2.1 .any
 | 7=>boxCell (h' (C.π x.2.2)) x.2.1
 | _=>.any
theorem canC_new (C:Cx) (st:St) (a:A) (h':Id→O):NewC C st a h' (canC C st a h'):=by
 refine ⟨fun x hx=>?_,fun _ _=>rfl,fun _ _=>rfl,fun _ _=>rfl⟩
 obtain ⟨k,i,c⟩:=x
 simp only at hx
 match k,hx with
 | 0,_=>rfl
 | 1,_=>rfl
 | 2,_=>rfl
 | 3,_=>rfl
 | 4,_=>rfl
def callFits (E:Nat→Option (List Ty)) (np:Nat) (wl:List Nat) (ads:List (Nat × Nat)) (σ:SS) (c:Ctr) (pls:List PL) (srcs:List Src):Bool :=
 fitAs E σ pls srcs c.args && (parsOk E σ pls 0 pls c.pars && ((if c.args.all plainArg then pls.isEmpty else hasPl c.args) && ((c.pre.all fun f=>!f.men fun a=>decide (5 ≤ a.1)) && (preOk (tauC σ pls srcs []) (rhoC σ pls srcs []) σ.fs c.pre && (plsOk np pls && ((reachPls σ pls).all (reachOk np ads) && writesOk wl ads c pls))))))
structure CallR (C C':Cx) (X:Orc) (σ:SS) (st:St) (c:Ctr) (pls:List PL) (srcs:List Src) (zs:List A) (id:Id) (ids:List Id) (r:R) (a:A) (e:Eff) (hF:Id→O):Prop where
 call:callE X C.d st.h id c.f zs=some e
 idso:∀ i ∈ ids,∃ p ∈ ownPls σ srcs,p.1=true∧i=C.at p
 hR:C'.R=C.R
 hE:C'.E=C.E
 hπ:∀ n p,trP pls n=some p→C'.π n=C.at p
 h0:∀ q ∈ pls,Fz (st.h (C.at q)) (C'.h0 (C.at q))
 rs:RS.ok C' c.res r a
 val:e.v=(backE (hF id).ver id r).1
 outq:e.out st.h=upds hF (backE (hF id).ver id r).2
 perm:(∀ p ∈ e.wr,p.1.1=C.d ∨ p.1 ∈ st.al) ∨ id.1 ≠ C.d
 rdq:∀ i ∈ e.rd,i=id ∨ i ∈ ids ∨ (c.args.all plainArg=false ∧ ∃ q ∈ reachPls σ pls,i=C.at q)
 wrq:∀ p ∈ e.wr,p.1 ∈ ids ∨ (c.args.all plainArg=false ∧ ∃ q ∈ reachPls σ pls,p.1=C.at q) ∨ p ∈ (backE (hF id).ver id r).2
 raq:e.ra=false
 same:∀ i,¬ C'.wid i→hF i=upds st.h (frz st.h ids) i
 low:∀ i:Id,i.1 < C.d→¬ C.wid i→hF i=st.h i
 wlq:C'.wl=c.ws.map (·.1)
 adq:C'.ads=c.ads
 po:PlsOk C pls
 wo:WritesOk C c pls
 ws:∀ p ∈ c.ws,∃ q ver cs cs',pls[p.1]? = some q∧st.h (C.at q) = .box ver cs∧hF (C.at q) = .box ver cs' ∧ TV.oks C' hF p.2 cs'
 fs:∀ b v,Me1 a b→(∀ c,Me1 (a.parts.getD c .any) (b.parts.getD c .any))→Now C st v→v (5,0,0)=b→(∀ i,v (6,i,0)=b.parts.getD i .any)→(∀ k i,wsIx c.ws k=some i→∀ c,boxCell (hF (C'.π k)) c=v (7,c,i))→FOk v (instFs (tauC σ pls srcs c.ws) (rhoC σ pls srcs c.ws) c.post)
theorem call_core {C:Cx} (hC:C.Ok) {X:Orc} {σ:SS} {st:St} (g:Ga C σ st) {c:Ctr} (hc:c.Ok C X) {pls:List PL} {srcs:List Src} {zs:List A} (hz:TV.oks C st.h (srcs.map (Src.t σ)) zs) (hzo:∀ (i:Nat) (x:Operand),srcs[i]? = some (Src.op x)→zs[i]? = some (st.ev x))
  (hpq:pls=plsL (srcs.map (Src.t σ))) (hf:callFits C.E C.np C.wl C.ads σ c pls srcs=true) (id:Id):∃ C' ids r a e hF,CallR C C' X σ st c pls srcs zs id ids r a e hF:=by
 unfold callFits at hf
 simp only [Bool.and_eq_true] at hf
 obtain ⟨hf1,hf2,hf3,hf4,hf5,hf6,hf7,hf8⟩:=hf
 have hpo:=plsOk_ok hf6
 have hwo:=writesOk_ok hf8
 have zsD:∀ i x,srcs[i]? = some (Src.op x)→zs.getD i (.d (.s undef))=st.ev x:=fun i x hx=>by
  rw [List.getD_eq_getElem?_getD,hzo i x hx]; rfl
 have hg:∀ (d:Nat) (h:Id→O) (π:Nat→Id) (i:Nat),3000 ≤ i→(c.cx C d h π).gs i=C.gs i:=fun d h π i hi=>by
  show (if 3000 ≤ i then C.bd (i - 3000) else _)=_
  rw [if_pos hi,← hC.gb,show 3000 + (i - 3000)=i by omega]
 have hgb:∀ (d:Nat) (h:Id→O) (π:Nat→Id) (m:Nat),(c.cx C d h π).gs (3000 + m)=C.bd m:=fun d h π m=>by
  show (if 3000 ≤ 3000 + m then C.bd (3000 + m - 3000) else _)=_
  rw [if_pos (by omega),show 3000 + m - 3000=m by omega]
 have preT:∀ (C':Cx) (d:Nat) (h1:Id→O) (ws:List A),(∀ v,Now C' (st0 d h1 ws) v→∀ x,x.1 < 5→v x=apv C' (st0 d h1 ws) x)→Told (tauC σ pls srcs []) (rhoC σ pls srcs []) (canC C' (st0 d h1 ws) .any h1) (canV C st .any [])→∀ v,Now C' (st0 d h1 ws) v→FOk v c.pre:=by
  intro C' d h1 ws _ told v hv
  have h2:=preOk_ok told (g.fs _ (canV_new C st .any []).now) hf5
  intro f hm
  have h3:=List.all_eq_true.1 hf4 f hm
  refine Fact.ok_agree (K:=fun a=>decide (5 ≤ a.1)) (fun x hx=>?_) (by simpa using h3) (h2 f hm)
  have hx:x.1 < 5:=by
   have:¬ 5 ≤ x.1:=by simpa using hx
   omega
  rw [hv x hx]
  exact (canC_new C' (st0 d h1 ws) .any h1).now x hx
 by_cases hpl:c.args.all plainArg=true
 ·
  rw [if_pos hpl] at hf3
  have hpls:pls=[]:=by simpa using hf3
  clear hpq
  subst hpls
  have hlen:c.pars.length=0:=by
   cases hcp:c.pars with
   | nil=>rfl
   | cons x l=>rw [hcp] at hf2; simp [parsOk] at hf2
  have hws0:c.ws=[]:=by
   cases hcw:c.ws with
   | nil=>rfl
   | cons p l =>
    obtain ⟨q,hq,_⟩:=hwo.w p (by rw [hcw]; exact List.mem_cons_self)
    simp at hq
  have had0:c.ads=[]:=by
   cases hcw:c.ads with
   | nil=>rfl
   | cons p l =>
    obtain ⟨_,q,hq,_⟩:=hwo.a p (by rw [hcw]; exact List.mem_cons_self)
    simp at hq
  let C1:Cx:=c.cx C C.d st.h (fun k=>(C.d + 1,k))
  obtain ⟨ws,ids,R⟩:=fitAs_ok (C':=C1) hC g (h1:=st.h) (fun q=>Fz_refl _) rfl (fun k p hp=>by simp at hp) hz hzo hf1
  let C':Cx:=c.cx C 0 E0 (fun k=>(1,k))
  have hok:=plain_other (C1:=C1) (C2:=C') rfl (h2:=E0) hpl R.ok
  have hC':C'.Ok:=by
   refine { rel:=hC.rel,low:=fun k hk=>?_,dis:=fun k=>?_,inj:=fun a b h=>(Prod.mk.inj h).2,ad:=fun k off hk _=>?_,wlk:=fun k hk=>?_,adk:=fun p hp=>?_,ix:=hC.ix,gx:=hC.gx,gb:=hgb _ _ _,nf:=hC.nf,aik:=hC.aik,aif:=hC.aif,eqs:=hC.eqs }
   ·have:k < c.pars.length:=hk
    omega
   ·show (1:Nat) ≠ 0
    decide
   ·have:k < c.pars.length:=hk
    omega
   ·have:k ∈ c.ws.map (·.1):=hk
    rw [hws0] at this; cases this
   ·have:p ∈ c.ads:=hp
    rw [had0] at this; cases this
  have hwid:∀ i,¬ C'.wid i:=by
   rintro i (⟨k,hk,_⟩ | ⟨p,hp,_⟩)
   ·have:k ∈ c.ws.map (·.1):=hk
    rw [hws0] at this; cases this
   ·have:p ∈ c.ads:=hp
    rw [had0] at this; cases this
  have told0:Told (tauC σ [] srcs []) (rhoC σ [] srcs []) (canC C' (st0 0 E0 ws) .any E0) (canV C st .any []) :=
   told_ok (b:=.any) g zsD (fun i=>(R.me i).w) (fun i c=>(R.me i).c c) (fun k p hp=>by simp at hp) (fun k i hk=>by cases hk) (hg _ _ _) (Me1.refl _) (fun _=>Me1.refl _) (canV_new C st .any []).now rfl (fun i=>rfl) (canC_new _ _ _ _)
  obtain ⟨r,a,h',h1,h2,_,_,_,h3⟩:=hc 0 E0 (fun k=>(1,k)) ws hC' (fun _=>⟨rfl,rfl⟩) hok.1 (fun k ts hk=>by
   have:k < c.pars.length:=(List.getElem?_eq_some_iff.1 hk).1
   omega) (preT C' 0 E0 ws (fun v hv=>hv) told0)
  have hfz:∀ i,Fz (st.h i) (upds st.h (frz st.h ids) i):=fun i=>frz_out ids st.h (fun _=>Fz_refl _) i
  have hver:=Fz_ver (hfz id)
  refine ⟨C',ids,r,a,{ v:=(backE (st.h id).ver id r).1,rd:=id :: ids,wr:=frz st.h ids ++ (backE (st.h id).ver id r).2 },upds st.h (frz st.h ids),?_⟩
  refine { call:=?_,idso:=R.ids,hR:=rfl,hE:=rfl,hπ:=fun n p h=>?_,h0:=fun q hq=>(by cases hq),rs:=h2,val:=?_,outq:=?_,perm:=?_,rdq:=?_,wrq:=?_,raq:=rfl,same:=fun _ _=>rfl,low:=fun i hi _=>frz_low hC R.ids i (by omega),wlq:=rfl,adq:=rfl,po:=hpo,wo:=hwo,ws:=fun p hp=>(by rw [hws0] at hp; cases hp),fs:=?_ }
  ·unfold callE
   rw [R.e]
   simp only
   rw [if_pos hok.2]
   have h1:X c.f 0 (fun _=>.no 0) ws=some (r,h'):=h1
   rw [h1]
  ·unfold trP at h
   split at h <;> simp at h
  ·rw [hver]
  ·rw [hver]; exact upds_app _ _ _
  ·by_cases hid:id.1=C.d
   ·left
    intro p hp
    left
    rcases List.mem_append.1 hp with hp | hp
    ·obtain ⟨q,_,hq,e⟩:=R.ids _ (frz_mem hp)
     rw [e]
     obtain ⟨b,k⟩:=q
     have:b=true:=hq
     subst this; rfl
    ·cases r <;> simp [backE] at hp <;> (try obtain ⟨rfl,_⟩:=hp) <;> first | exact hid | (subst hp; exact hid)
   ·exact Or.inr hid
  ·intro i hi
   rcases List.mem_cons.1 hi with rfl | hi
   ·exact Or.inl rfl
   ·exact Or.inr (Or.inl hi)
  ·intro p hp
   rw [hver]
   rcases List.mem_append.1 hp with hp | hp
   ·exact Or.inl (frz_mem hp)
   ·exact Or.inr (Or.inr hp)
  ·intro b v ha hac hv hv5 hv6 _
   exact instFs_ok (told_ok g zsD (fun i=>(R.me i).w) (fun i c=>(R.me i).c c) (fun k p hp=>by simp at hp) (fun k i hk=>by rw [hws0] at hk; cases hk) (hg _ _ _) ha hac hv hv5 hv6 (canC_new C' _ _ _)) (h3 _ (canC_new _ _ _ _))
 ·
  have hpl:c.args.all plainArg=false:=by simpa using hpl
  rw [hpl] at hf3
  simp only [Bool.false_eq_true,if_false] at hf3
  obtain ⟨q1,q2,q3,q4⟩:=piC_ok hC hpo
  let π':Nat→Id:=piC C pls
  have hπ:∀ n p,trP pls n=some p→π' n=C.at p:=fun n p h=>by
   show piC C pls n=_
   unfold piC; rw [h]
  have hπ0:∀ k p,pls[k]? = some p→π' k=C.at p:=fun k p h=>hπ k p (trP_box hpo.n10 h)
  obtain ⟨ws,ids,R0⟩:=fitAs_ok (C':=c.cx C (C.d + 1) st.h π') hC g (h1:=st.h) (fun q=>Fz_refl _) rfl hπ0 hz hzo hf1
  let h1:Id→O:=upds st.h (frz st.h ids)
  have hh:∀ q,Fz (st.h (C.at q)) (h1 (C.at q)):=fun q=>frz_out ids st.h (fun _=>Fz_refl _) _
  let F:List Id:=refIds h1 3 (idsL ws)
  let Rs:List Id:=reachIds h1 3 (idsL ws)
  let hc0:Id→O:=canE h1 F Rs
  have hcF:∀ i ∈ F,hc0 i=h1 i:=fun i hi=>by
   show (if F.contains i then h1 i else _)=_
   rw [if_pos (by simpa using hi)]
  have hFR:∀ i ∈ F,i ∈ Rs:=refIds_sub h1 3 _
  let C':Cx:=c.cx C (C.d + 1) hc0 π'
  obtain ⟨ws',ids',R⟩:=fitAs_ok (C':=C') hC g hh rfl hπ0 hz hzo hf1
  have e0:=R0.e
  rw [R.e] at e0
  have e1:ids' = ids:=(Prod.mk.inj (Option.some.inj e0)).2
  have e2:ws' = ws:=(Prod.mk.inj (Option.some.inj e0)).1
  subst e1
  subst e2
  have hin:∀ p ∈ pls,C.at p ∈ idsL ws':=by rw [hpq]; exact plsL_arg hz R.e
  have hinF:∀ p ∈ pls,C.at p ∈ F:=fun p hp=>mem_refs h1 3 (hin p hp)
  obtain ⟨p1,p2⟩:=parsOk_ok (C':=C') hC g hh rfl rfl (fun p hp=>hcF _ (hinF p hp)) hπ hpo.n10 (l:=pls) (k:=0) (fun i p hi=>by rw [Nat.zero_add]; exact hi) hf2
  have par:∀ p ∈ pls,∃ ts,ParR C C' σ st.h h1 p ts:=fun p hp=>by
   obtain ⟨i,hi,rfl⟩:=List.getElem_of_mem hp
   exact ⟨_,p2 i _ _ (List.getElem?_eq_getElem hi) (List.getElem?_eq_getElem (by rw [← p1]; exact hi))⟩
  have cellsF:∀ p ∈ pls,∀ j ∈ idsO (h1 (C.at p)),j ∈ F:=fun p hp j hj=>refs_step (hin p hp) hj
  have hB:∀ i ∈ F,(∃ p ∈ pls,i=C.at p) ∨ ∃ v n xs fz,h1 i = .vec v n xs fz:=by
   refine refs_sub (B:=fun i=>(∃ p ∈ pls,i=C.at p) ∨ ∃ v n xs fz,h1 i = .vec v n xs fz) ?_ 3 (fun i hi=>Or.inl (R.low i hi))
   rintro i (⟨p,hp,rfl⟩ | ⟨v,n,xs,fz,hv⟩) j hj
   ·obtain ⟨ts,⟨q,ver,cs,hq,_,hb1,hcs,_,a1,_,_⟩⟩:=par p hp
    rw [hb1] at hj
    obtain ⟨r,hr,e,hv⟩:=(cells_ids (p:=p) (i:=C.at p) (off:=0) hcs a1).1 j hj
    exact Or.inr hv
   ·rw [hv] at hj; cases hj
  have hclosed:closedIn h1 F=true:=by
   unfold closedIn
   rw [List.all_eq_true]
   intro i hi
   rw [List.all_eq_true]
   intro j hj
   rcases hB i hi with ⟨p,hp,rfl⟩ | ⟨v,n,xs,fz,hv⟩
   ·simpa using cellsF p hp j hj
   ·rw [hv] at hj; cases hj
  have hC':C'.Ok:=by
   refine { rel:=hC.rel,low:=fun k hk=>q1 k (by rw [p1]; exact hk),dis:=q2,inj:=q3,ad:=fun k off hk ho=>q4 k off (by rw [p1]; exact hk) ho,wlk:=fun k hk=>?_,adk:=fun p hp=>?_,ix:=hC.ix,gx:=hC.gx,gb:=hgb _ _ _,nf:=hC.nf,aik:=hC.aik,aif:=hC.aif,eqs:=hC.eqs }
   ·have hk:k ∈ c.ws.map (·.1):=hk
    obtain ⟨p,hp,rfl⟩:=List.mem_map.1 hk
    obtain ⟨q,hq,_⟩:=hwo.w p hp
    show p.1 < c.pars.length
    rw [← p1]; exact (List.getElem?_eq_some_iff.1 hq).1
   ·have hp:p ∈ c.ads:=hp
    obtain ⟨ha,q,hq,_⟩:=hwo.a p hp
    refine ⟨?_,ha⟩
    show p.1 < c.pars.length
    rw [← p1]; exact (List.getElem?_eq_some_iff.1 hq).1
  have told:∀ (h2:Id→O) (wsl:List (Nat × List TV)) (a b:A) (v:AP→A),(∀ k i,wsIx wsl k=some i→∀ c,boxCell (h2 (C'.π k)) c=v (7,c,i))→Me1 a b→(∀ c,Me1 (a.parts.getD c .any) (b.parts.getD c .any))→Now C st v→v (5,0,0)=b→(∀ i,v (6,i,0)=b.parts.getD i .any)→Told (tauC σ pls srcs wsl) (rhoC σ pls srcs wsl) (canC C' (st0 (C.d + 1) hc0 ws') a h2) v:=fun h2 wsl a b v hw ha hac hv hv5 hv6 =>
   told_ok g zsD (fun i=>(R.me i).w) (fun i c=>(R.me i).c c) (fun k p hp c=>by
    have e:C'.π k=C.at p:=hπ0 k p hp
    rw [e,hcF _ (hinF p (List.mem_of_getElem? hp)),boxCell_fz (hh p),hv _ (apB_lt _ _),apB_apv]) hw (hg _ _ _) ha hac hv hv5 hv6 (canC_new _ _ _ _)
  have hok:TV.oks C' hc0 c.args ws':=TV.oks_at (fun i hi _=>hcF i (mem_refs h1 3 hi)) R.ok
  obtain ⟨r,a,h',h2,h3,h4,h5,h6,h7⟩:=hc (C.d + 1) hc0 π' ws' hC' (fun h=>by rw [hpl] at h; cases h) hok (fun k ts hk=>by
   have hlt:k < pls.length:=by rw [p1]; exact (List.getElem?_eq_some_iff.1 hk).1
   have hg:=List.getElem?_eq_getElem hlt
   obtain ⟨q,ver,cs,_,_,hb1,_,_,_,_,hts⟩:=p2 k _ ts hg hk
   have hm:=List.getElem_mem hlt
   exact ⟨ver,cs,by rw [hπ0 k _ hg,hcF _ (hinF _ hm)]; exact hb1,TV.oks_at (fun i hi _=>hcF i (cellsF _ hm i (by rw [hb1]; exact hi))) hts⟩) (preT C' (C.d + 1) hc0 ws' (fun v hv=>hv) (told hc0 [] .any .any _ (fun k i hk=>by cases hk) (Me1.refl _) (fun _=>Me1.refl _) (canV_new C st .any []).now rfl (fun i=>rfl)))
  have hreach:=reach_ok hC hpo p1 p2 R.low
  have hnp:=not_plain R.ok hf3
  have hRs:reachIds hc0 3 (idsL ws')=Rs:=reach_same 3 fun i hi=>hcF i hi
  rw [hRs] at h5
  let hU:Id→O:=unmaskH h1 h' F Rs
  have hUF:∀ i ∈ F,hU i=h' i:=fun i hi=>by
   show (if F.contains i then h' i else _)=_
   rw [if_pos (by simpa using hi)]
  have hUR:∀ i,i ∉ F→i ∈ Rs→hU i=if !(h' i).live && (h' i).ver == (h1 i).ver then h1 i else h' i:=fun i hi hr=>by
   show (if F.contains i then h' i else if Rs.contains i then _ else _)=_
   rw [if_neg (by simpa using hi),if_pos (by simpa using hr)]
  have hcR:∀ i,i ∉ F→i ∈ Rs→hc0 i = .no (h1 i).ver:=fun i hi hr=>by
   show (if F.contains i then h1 i else if Rs.contains i then _ else _)=_
   rw [if_neg (by simpa using hi),if_pos (by simpa using hr)]
  have hc0n:∀ i,i ∉ F→i ∉ Rs→hc0 i = .no 0:=fun i hi hr=>by
   show (if F.contains i then h1 i else if Rs.contains i then _ else _)=_
   rw [if_neg (by simpa using hi),if_neg (by simpa using hr)]
  let hF:Id→O:=upds h1 (graphOf hU Rs)
  have hFi:∀ i,i ∈ Rs→hF i=hU i:=fun i hi=>by
   show upds h1 (graphOf hU Rs) i=_
   rw [upds_graph,if_pos hi]
  have hFn:∀ i,i ∉ Rs→hF i=h1 i:=fun i hi=>by
   show upds h1 (graphOf hU Rs) i=_
   rw [upds_graph,if_neg hi]
  have live:∀ i,(h' i).live=true→hF i=h' i:=fun i hl=>by
   by_cases hi:i ∈ F
   ·rw [hFi i (hFR i hi),hUF i hi]
   ·by_cases hr:i ∈ Rs
    ·rw [hFi i hr,hUR i hi hr,if_neg (by rw [hl]; simp)]
    ·have h8:=h5 i hr
     rw [hc0n i hi hr] at h8
     rw [h8] at hl; cases hl
  have same:∀ i,¬ C'.wid i→hF i=h1 i:=fun i hw=>by
   have h8:=h4 i hw
   by_cases hr:i ∈ Rs
   ·by_cases hi:i ∈ F
    ·rw [hFi i hr,hUF i hi,h8,hcF i hi]
    ·rw [hFi i hr,hUR i hi hr,h8,hcR i hi hr,if_pos (by simp [O.live,O.ver])]
   ·exact hFn i hr
  have hver:verG st.h hU Rs id=(hF id).ver:=by
   unfold verG
   by_cases hr:id ∈ Rs
   ·rw [if_pos (by simpa using hr),hFi id hr]
   ·rw [if_neg (by simpa using hr),hFn id hr]
    exact (Fz_ver (frz_out ids' st.h (fun _=>Fz_refl _) id)).symm
  refine ⟨C',ids',r,a,backG st.h hU id (frz st.h ids') ids' Rs r,hF,?_⟩
  refine { call:=?_,idso:=R.ids,hR:=rfl,hE:=rfl,hπ:=hπ,h0:=fun q hq=>?_,rs:=h3,val:=?_,outq:=?_,perm:=?_,rdq:=fun i hi=>?_,wrq:=?_,raq:=rfl,same:=same,low:=fun i hi hw=>?_,wlq:=rfl,adq:=rfl,po:=hpo,wo:=hwo,ws:=fun p hp=>?_,fs:=?_ }
  ·unfold callE
   rw [R.e]
   simp only
   rw [if_neg (by rw [hnp]; simp)]
   have h2:X c.f (C.d + 1) (canE (upds st.h (frz st.h ids')) (refIds (upds st.h (frz st.h ids')) 3 (idsL ws')) (reachIds (upds st.h (frz st.h ids')) 3 (idsL ws'))) ws' = some (r,h'):=h2
   have hclosed:closedIn (upds st.h (frz st.h ids')) (refIds (upds st.h (frz st.h ids')) 3 (idsL ws'))=true:=hclosed
   rw [if_pos hclosed,h2]
  ·show Fz (st.h (C.at q)) (hc0 (C.at q))
   rw [hcF _ (hinF q hq)]; exact hh q
  ·show (backE (verG st.h hU Rs id) id r).1=_
   rw [hver]
  ·show upds st.h (frz st.h ids' ++ graphOf hU Rs ++ (backE (verG st.h hU Rs id) id r).2)=_
   rw [upds_app,upds_app,hver]
  ·by_cases hid:id.1=C.d
   ·left
    intro p hp
    rcases List.mem_append.1 hp with hp | hp
    ·rcases List.mem_append.1 hp with hp | hp
     ·left
      obtain ⟨q,_,hq,e⟩:=R.ids _ (frz_mem hp)
      rw [e]
      obtain ⟨b,k⟩:=q
      have:b=true:=hq
      subst this; rfl
     ·obtain ⟨q,hq,e⟩:=hreach _ (graph_mem hp)
      rw [e]
      exact reachOk_ok hC g (List.all_eq_true.1 hf7 q hq)
    ·left
     cases r <;> simp [backE] at hp <;> (try obtain ⟨rfl,_⟩:=hp) <;> first | exact hid | (subst hp; exact hid)
   ·exact Or.inr hid
  ·have hi:i ∈ id :: (ids' ++ Rs):=hi
   rcases List.mem_cons.1 hi with rfl | hi
   ·exact Or.inl rfl
   ·rcases List.mem_append.1 hi with hi | hi
    ·exact Or.inr (Or.inl hi)
    ·exact Or.inr (Or.inr ⟨hpl,hreach i hi⟩)
  ·intro p hp
   have hp:p ∈ frz st.h ids' ++ graphOf hU Rs ++ (backE (verG st.h hU Rs id) id r).2:=hp
   rw [hver] at hp
   rcases List.mem_append.1 hp with hp | hp
   ·rcases List.mem_append.1 hp with hp | hp
    ·exact Or.inl (frz_mem hp)
    ·exact Or.inr (Or.inl ⟨hpl,hreach _ (graph_mem hp)⟩)
   ·exact Or.inr (Or.inr hp)
  ·rw [same i ?_]
   ·exact frz_low hC R.ids i (by omega)
   ·rintro (⟨k,hk,rfl⟩ | ⟨p,hp,rfl⟩)
    ·have hk:k ∈ c.ws.map (·.1):=hk
     obtain ⟨p,hp,rfl⟩:=List.mem_map.1 hk
     obtain ⟨q,hq,hq2⟩:=hwo.w p hp
     have e:C'.π p.1=C.at q:=hπ0 _ _ hq
     rw [e] at hi hw
     obtain ⟨b,k⟩:=q
     cases b with
     | true=>exact Nat.lt_irrefl _ hi
     | false =>
      rcases hq2 with hq2 | hq2
      ·cases hq2
      ·exact hw (Or.inl ⟨k,hq2,rfl⟩)
    ·have hp:p ∈ c.ads:=hp
     obtain ⟨ha,q,hq,hq2⟩:=hwo.a p hp
     have e:C'.π p.1=C.at q:=hπ0 _ _ hq
     rw [e] at hi hw
     obtain ⟨b,k⟩:=q
     cases b with
     | true=>exact Nat.lt_irrefl _ hi
     | false =>
      rcases hq2 with hq2 | hq2
      ·cases hq2
      ·exact hw (Or.inr ⟨_,hq2,rfl⟩)
  ·obtain ⟨q,hq,_⟩:=hwo.w p hp
   obtain ⟨ver,cs,cs',e1,e2,e3⟩:=h6 p hp
   rw [hπ0 _ _ hq] at e1 e2
   rw [hcF _ (hinF q (List.mem_of_getElem? hq))] at e1
   refine ⟨q,ver,cs,cs',hq,?_,by rw [live _ (by rw [e2]; rfl)]; exact e2,TV.oks_at (fun i _ hl=>live i hl) e3⟩
   rcases hh q with h | ⟨v,n,xs,fz,h8,h9⟩
   ·rw [← h]; exact e1
   ·rw [h9] at e1; cases e1
  ·intro b v ha hac hv hv5 hv6 hw
   refine instFs_ok (told h' c.ws a b v (fun k i hk d=>?_) ha hac hv hv5 hv6) (h7 _ (canC_new _ _ _ _))
   rw [← hw k i hk d]
   obtain ⟨w,hw1,rfl⟩:=wsIx_ok hk
   obtain ⟨ver,cs,cs',e1,e2,e3⟩:=h6 w (List.mem_of_getElem? hw1)
   have e2:h' (C'.π w.1) = .box ver cs':=e2
   rw [live _ (by rw [e2]; rfl)]
end
end
section
noncomputable section
def trTV (σ:SS) (pls ks:List PL):TV→TV
 | .c t=>.c t
 | .nilv=>.nilv
 | .own (false,n) e=>(match trP pls n with | some p=>.own p e | none=>.any)
 | .rl (false,n) e=>(match trP pls n with | some p=>.rl p e | none=>.any)
 | .was k c=>(match pls[k]? with
  | some p=>(match σ.hp.find? fun q=>q.1 == p with
   | some q=>(match q.2[c]? with | some t=>killT ks t | none=>.any)
   | none=>.any)
  | none=>.any)
 | _=>.any
theorem trTV_ok {C C':Cx} (hC:C.Ok) {σ:SS} {st:St} (g:Ga C σ st) {pls ks:List PL} {hF:Id→O} (hR:C'.R=C.R) (hE:C'.E=C.E) (h10:pls.length ≤ 10) (hπ:∀ n p,trP pls n=some p→C'.π n=C.at p) (h0:∀ q ∈ pls,Fz (st.h (C.at q)) (C'.h0 (C.at q))) (hk:∀ q,q ∉ ks→Kp (st.h (C.at q)) (hF (C.at q))):∀ {t:TV} {a:A},TV.ok C' hF t a→TV.ok C hF (trTV σ pls ks t) a:=by
 intro t a hx
 unfold trTV
 split
 ·simp only [TV.ok] at hx ⊢
  rw [← hR]; exact hx
 ·simpa only [TV.ok] using hx
 ·split
  ·rename_i n e _ p hp
   simp only [TV.ok] at hx ⊢
   have e1:C'.at (false,n)=C.at p:=hπ n p hp
   rw [e1,hR,hE] at hx
   exact hx
  ·simp only [TV.ok]
 ·split
  ·rename_i n e _ p hp
   simp only [TV.ok] at hx ⊢
   have e1:C'.at (false,n)=C.at p:=hπ n p hp
   rw [e1,hR,hE] at hx
   exact hx
  ·simp only [TV.ok]
 ·rename_i k c
  split
  ·rename_i p hp
   split
   ·rename_i q hq
    split
    ·rename_i t ht
     simp only [TV.ok] at hx
     have hq1:=g.hp q (List.mem_of_find?_eq_some hq)
     have hq2:q.1=p:=by simpa using List.find?_some hq
     rw [hq2] at hq1
     obtain ⟨ver,cs,hb,hcs⟩:=hq1
     obtain ⟨b,hb1,hb2⟩:=oks_get hcs ht
     have e1:C'.π k=C.at p:=hπ k p (trP_box h10 hp)
     have e2:C'.h0 (C.at p) = .box ver cs:=by
      rcases h0 p (List.mem_of_getElem? hp) with h | ⟨v,n,xs,fz,h4,h5⟩
      ·rw [h,hb]
      ·rw [hb] at h4; cases h4
     have e3:a=b:=by
      rw [hx,e1,e2]
      show cs.getD c .any=b
      rw [List.getD_eq_getElem?_getD,hb1]; rfl
     rw [e3]
     exact killT_kp hk hb2
    ·simp only [TV.ok]
   ·simp only [TV.ok]
  ·simp only [TV.ok]
 ·simp only [TV.ok]
def wasL (fs:List Fact) (p:PL) (i k:Nat):Nat→List TV→List TV→List (AP × AP) × List Fact
 | _,_,[]=>([],[])
 | c,old,t :: l =>
  let r:=wasL fs p i k (c + 1) (old.drop 1) l
  match t with
  | .was k' c'=>if Nat.beq k k' && Nat.beq c c' then
    let m:=linkC fs (fun c=>apB p c) (fun c=>(7,c,i)) c (old.take 1)
    (m.1 ++ r.1,m.2 ++ r.2) else r
  | _=>r
theorem wasL_ok {v:AP→A} {fs:List Fact} {p:PL} {i k:Nat}:∀ {l:List TV} {c:Nat} {old:List TV},(∀ j,l[j]? = some (.was k (c + j))→v (apB p (c + j))=v (7,c + j,i))→(∀ q ∈ (wasL fs p i k c old l).1,v q.1=v q.2)∧FOk v (wasL fs p i k c old l).2
 | [],c,old,h=>⟨fun q hq=>(by cases hq),fun f hf=>(by cases hf)⟩
 | t :: l,c,old,h=>by
  have ih:=wasL_ok (v:=v) (fs:=fs) (p:=p) (i:=i) (k:=k) (l:=l) (c:=c + 1) (old:=old.drop 1) fun j hj=>by
   have:=h (j + 1) (by simpa [show c + (j + 1)=c + 1 + j by omega] using hj)
   rw [show c + (j + 1)=c + 1 + j by omega] at this; exact this
  have h0:=h 0
  unfold wasL
  simp only
  split
  ·rename_i k' c'
   split
   ·rename_i hc
    rw [Bool.and_eq_true] at hc
    have e1:k=k':=Nat.eq_of_beq_eq_true hc.1
    have e2:c=c':=Nat.eq_of_beq_eq_true hc.2
    subst e1 e2
    have h1:v (apB p c)=v (7,c,i):=h0 (by simp)
    have hm:=linkC_ok (v:=v) (fs:=fs) (f:=fun c=>apB p c) (g:=fun c=>(7,c,i)) (l:=old.take 1) (k:=c) fun d hd1 hd2=>by
     have:(old.take 1).length ≤ 1:=by simp; omega
     have:d=c:=by omega
     subst this; exact h1
    refine ⟨fun q hq=>?_,fun f hf=>?_⟩
    ·rcases List.mem_append.1 hq with hq | hq
     ·exact hm.1 q hq
     ·exact ih.1 q hq
    ·rcases List.mem_append.1 hf with hf | hf
     ·exact hm.2 f hf
     ·exact ih.2 f hf
   ·exact ih
  ·exact ih
def oldTV (σ:SS) (p:PL):List TV:=match σ.hp.find? fun q=>q.1 == p with | some q=>q.2 | none=>[]
def wasA (σ:SS) (pls:List PL):Nat→List (Nat × List TV)→List (AP × AP) × List Fact
 | _,[]=>([],[])
 | i,w :: l =>
  let r:=wasA σ pls (i + 1) l
  match pls[w.1]? with
  | some p=>let m:=wasL σ.fs p i w.1 0 (oldTV σ p) w.2; (m.1 ++ r.1,m.2 ++ r.2)
  | none=>r
theorem wasA_ok {v:AP→A} {σ:SS} {pls:List PL}:∀ {l:List (Nat × List TV)} {i:Nat},(∀ (j:Nat) (w:Nat × List TV) (p:PL),l[j]? = some w→pls[w.1]? = some p→∀ c,w.2[c]? = some (.was w.1 c)→v (apB p c)=v (7,c,i + j))→(∀ q ∈ (wasA σ pls i l).1,v q.1=v q.2)∧FOk v (wasA σ pls i l).2
 | [],i,h=>⟨fun q hq=>(by cases hq),fun f hf=>(by cases hf)⟩
 | w :: l,i,h=>by
  have ih:=wasA_ok (v:=v) (σ:=σ) (pls:=pls) (l:=l) (i:=i + 1) fun j w p hw hp c hc=>by
   have:=h (j + 1) w p (by simpa using hw) hp c hc
   rw [show i + (j + 1)=i + 1 + j by omega] at this; exact this
  unfold wasA
  simp only
  split
  ·rename_i p hp
   have hm:=wasL_ok (v:=v) (fs:=σ.fs) (p:=p) (i:=i) (k:=w.1) (l:=w.2) (c:=0) (old:=oldTV σ p) fun j hj=>by
    rw [Nat.zero_add] at hj ⊢
    exact h 0 w p (by simp) hp j hj
   refine ⟨fun q hq=>?_,fun f hf=>?_⟩
   ·rcases List.mem_append.1 hq with hq | hq
    ·exact hm.1 q hq
    ·exact ih.1 q hq
   ·rcases List.mem_append.1 hf with hf | hf
    ·exact hm.2 f hf
    ·exact ih.2 f hf
  ·exact ih
def bxA (σ:SS) (pls ks kj:List PL) (ws:List (Nat × List TV)):List (PL × List TV):=ws.filterMap fun w=>(pls[w.1]?).map fun p=>(p,w.2.map fun t=>killT kj (trTV σ pls ks t))
def postFs (σ:SS) (pls:List PL) (srcs:List Src) (c:Ctr):List Fact :=
 let l:=instFs (tauC σ pls srcs c.ws) (rhoC σ pls srcs c.ws) c.post
 sat1 (l ++ σ.fs) (isbs (l ++ σ.fs)) l ++ l
theorem postFs_ok {v:AP→A} {σ:SS} {pls:List PL} {srcs:List Src} {c:Ctr} (hf:FOk v σ.fs) (h:FOk v (instFs (tauC σ pls srcs c.ws) (rhoC σ pls srcs c.ws) c.post)):FOk v (postFs σ pls srcs c) :=
 FOkA (sat1_ok (FOkA h hf) (isbs_ok (FOkA h hf)) h) h
def callOut (E:Nat→Option (List Ty)) (σ:SS) (dst:Option Nat) (c:Ctr) (pls:List PL) (srcs:List Src):Option Out :=
 let own:=(ownPls σ srcs).map sN
 let new:=postFs σ pls srcs c
 let pl:=c.args.all plainArg
 let rd:=(dst.getD σ.n + 1) :: (own ++ (if pl then [] else (reachPls σ pls).map sN))
 let wr:=own ++ (if pl then [] else (reachPls σ pls).map sN)
 if c.ws.isEmpty && c.ads.isEmpty then
  match c.res with
  | .val t=>some { act:=.wr (.c t) [] (new ++ tyN E t),rd:=rd,wr:=wr,ra:=false }
  | .tup ts=>some { act:=.wr (.tup (ts.map .c)) [] (new ++ tyBs (fun c=>(6,c,0)) 0 ts),rd:=rd,wr:=wr,ra:=false }
  | .map el s=>match dst with
   | some j=>some { act:=.mk (.mp (true,j) el s) [] none [] [],rd:=rd,wr:=(j + 1) :: wr,ra:=false }
   | none=>none
  | .tupF e b ts=>match dst with
   | some j=>some { act:=.mk (.tup (.own (true,j) e :: ts.map .c)) [] none [] (new ++ (tyB (6,0,0) (.lst e b) ++ tyBs (fun c=>(6,c,0)) 1 ts)),rd:=rd,wr:=(j + 1) :: wr,ra:=false }
   | none=>none
  | .lst e b=>match dst with
   | some j=>some { act:=.mk (.rl (true,j) e) [] none [] (new ++ tyB (5,0,0) (.lst e b)),rd:=rd,wr:=(j + 1) :: wr,ra:=false }
   | none=>none
 else
  let ks:=adPls pls c.ads
  let w:=wasA σ pls 0 c.ws
  match c.res with
  | .val t=>some { act:=.gen (.c t) ks (bxA σ pls ks [] c.ws) w.1 (w.2 ++ (new ++ tyN E t)),rd:=rd,wr:=wr,ra:=false }
  | .tup ts=>some { act:=.gen (.tup (ts.map .c)) ks (bxA σ pls ks [] c.ws) w.1 (w.2 ++ (new ++ tyBs (fun c=>(6,c,0)) 0 ts)),rd:=rd,wr:=wr,ra:=false }
  | .map _ _ | .tupF ..=>none
  | .lst e b=>match dst with
   | some j=>if pls.contains (true,j) then none else some { act:=.gen (.rl (true,j) e) ((true,j) :: ks) (bxA σ pls ks [(true,j)] c.ws) w.1 (w.2 ++ (new ++ tyB (5,0,0) (.lst e b))),rd:=rd,wr:=(j + 1) :: wr,ra:=false }
   | none=>none
def sCall (E:Nat→Option (List Ty)) (np:Nat) (wl:List Nat) (ads:List (Nat × Nat)) (DB:List Ctr) (σ:SS) (dst:Option Nat) (f:FuncId) (srcs:List Src):Option Out :=
 let pls:=plsL (srcs.map (Src.t σ))
 match DB.find? fun c=>Nat.beq c.f f && callFits E np wl ads σ c pls srcs with
 | some c=>callOut E σ dst c pls srcs
 | none=>none
theorem bxA_get {σ:SS} {pls ks kj:List PL}:∀ {ws:List (Nat × List TV)},(∀ w ∈ ws,∃ p,pls[w.1]? = some p)→∀ {i:Nat} {w:Nat × List TV},ws[i]? = some w→∃ p,pls[w.1]? = some p∧(bxA σ pls ks kj ws)[i]? = some (p,w.2.map fun t=>killT kj (trTV σ pls ks t))
 | [],_,i,w,h=>by simp at h
 | x :: ws,hall,i,w,h=>by
  obtain ⟨p,hp⟩:=hall x List.mem_cons_self
  have e:bxA σ pls ks kj (x :: ws)=(p,x.2.map fun t=>killT kj (trTV σ pls ks t)) :: bxA σ pls ks kj ws:=by
   unfold bxA
   rw [List.filterMap_cons,hp]; rfl
  cases i with
  | zero =>
   simp only [List.getElem?_cons_zero,Option.some.injEq] at h
   subst h
   exact ⟨p,hp,by rw [e]; rfl⟩
  | succ i =>
   obtain ⟨q,h1,h2⟩:=bxA_get (fun w hw=>hall w (List.mem_cons_of_mem _ hw)) (i:=i) (by simpa using h)
   exact ⟨q,h1,by rw [e]; simpa using h2⟩
theorem bxA_mem {σ:SS} {pls ks kj:List PL} {ws:List (Nat × List TV)} {b:PL × List TV} (h:b ∈ bxA σ pls ks kj ws):∃ w ∈ ws,pls[w.1]? = some b.1∧b.2=w.2.map fun t=>killT kj (trTV σ pls ks t):=by
 unfold bxA at h
 obtain ⟨w,hw,h1⟩:=List.mem_filterMap.1 h
 obtain ⟨p,hp,rfl⟩:=Option.map_eq_some_iff.1 h1
 exact ⟨w,hw,hp,rfl⟩
def boxCs:O→List A
 | .box _ cs=>cs
 | _=>[]
theorem boxCs_ok (o:O) (c:Nat):boxCell o c=(boxCs o).getD c .any:=by
 cases o <;> rfl
theorem call_gen {C C':Cx} (hC:C.Ok) {X:Orc} {σ:SS} {st:St} (g:Ga C σ st) {c:Ctr} {pls:List PL} {srcs:List Src} {zs:List A} {id:Id} {ids:List Id} {r:R} {a:A} {e:Eff} {hF:Id→O} (h:CallR C C' X σ st c pls srcs zs id ids r a e hF)
  {dst:Option Nat} {t:TV} {kj:List PL} {new:List Fact} (hnb:∀ q ∈ pls,q ∉ kj) (hback:∀ q,q ∉ kj→e.out st.h (C.at q)=hF (C.at q)) (hlow:∀ i:Id,i.1 < C.d→e.out st.h i=hF i) (ht:dst ≠ none→TV.ok C (e.out st.h) t e.v) {b:A} (hb:e.v=b) (hab:Me1 a b) (hac:∀ c,Me1 (a.parts.getD c .any) (b.parts.getD c .any))
  (hnew:∀ v:AP→A,Now C st v→v (5,0,0)=b→(∀ c,v (6,c,0)=b.parts.getD c .any)→FOk v new) :
  Ga C (σ.gen dst t (kj ++ adPls pls c.ads) (bxA σ pls (adPls pls c.ads) kj c.ws) (wasA σ pls 0 c.ws).1 ((wasA σ pls 0 c.ws).2 ++ (postFs σ pls srcs c ++ new))) (st.put dst e):=by
 have hall:∀ w ∈ c.ws,∃ p,pls[w.1]? = some p:=fun w hw=>by obtain ⟨q,hq,_⟩:=h.wo.w w hw; exact ⟨q,hq⟩
 have hπ0:∀ k p,pls[k]? = some p→C'.π k=C.at p:=fun k p hp=>h.hπ k p (trP_box h.po.n10 hp)
 have hbxk:∀ w ∈ c.ws,∀ p,pls[w.1]? = some p→p ∈ (bxA σ pls (adPls pls c.ads) kj c.ws).map (·.1):=fun w hw p hp=>by
  refine List.mem_map.2 ⟨(p,w.2.map fun t=>killT kj (trTV σ pls (adPls pls c.ads) t)),?_,rfl⟩
  unfold bxA
  exact List.mem_filterMap.2 ⟨w,hw,by rw [hp]; rfl⟩
 have stay:∀ q,q ∉ adPls pls c.ads→q ∉ (bxA σ pls (adPls pls c.ads) kj c.ws).map (·.1)→Fz (st.h (C.at q)) (hF (C.at q)):=by
  intro q hq1 hq2
  rw [h.same _ ?_]
  ·exact frz_out ids st.h (fun _=>Fz_refl _) _
  ·rintro (⟨k,hk,e1⟩ | ⟨p,hp,e1⟩)
   ·rw [h.wlq] at hk
    obtain ⟨w,hw,rfl⟩:=List.mem_map.1 hk
    obtain ⟨p,hp⟩:=hall w hw
    rw [hπ0 _ _ hp] at e1
    have:=at_inj2 hC e1
    subst this
    exact hq2 (hbxk w hw q hp)
   ·rw [h.adq] at hp
    obtain ⟨ho,r,hr,_⟩:=h.wo.a p hp
    rw [hπ0 _ _ hr,← adP_at hC (h.po.pk2 (List.mem_of_getElem? hr)) ho] at e1
    have:=at_inj2 hC e1
    subst this
    exact hq1 (by unfold adPls; exact List.mem_filterMap.2 ⟨p,hp,by rw [hr]; rfl⟩)
 have hkp:∀ q,q ∉ adPls pls c.ads→Kp (st.h (C.at q)) (hF (C.at q)):=by
  intro q hq
  by_cases hm:q ∈ (bxA σ pls (adPls pls c.ads) kj c.ws).map (·.1)
  ·obtain ⟨b,hb,rfl⟩:=List.mem_map.1 hm
   obtain ⟨w,hw,hp,_⟩:=bxA_mem hb
   obtain ⟨q',ver,cs,cs',e1,e2,e3,_⟩:=h.ws w hw
   rw [hp] at e1
   cases e1
   exact Or.inr ⟨ver,cs,cs',e2,e3⟩
  ·exact Or.inl (stay q hq hm)
 have hkj:∀ q,q ∉ kj→Kp (hF (C.at q)) (e.out st.h (C.at q)):=fun q hq=>by rw [hback q hq]; exact Or.inl (Fz_refl _)
 have bxn:∀ b ∈ bxA σ pls (adPls pls c.ads) kj c.ws,b.1 ∉ kj∧b.1 ∈ pls:=fun b hb=>by
  obtain ⟨w,hw,hp,_⟩:=bxA_mem hb
  have:=List.mem_of_getElem? hp
  exact ⟨hnb _ this,this⟩
 let bcs:List (List A):=((bxA σ pls (adPls pls c.ads) kj c.ws).map (·.1) ++ (kj ++ adPls pls c.ads)).map fun p=>boxCs (e.out st.h (C.at p))
 have hbcs:∀ i p,((bxA σ pls (adPls pls c.ads) kj c.ws).map (·.1) ++ (kj ++ adPls pls c.ads))[i]? = some p→∀ d,boxCell (e.out st.h (C.at p)) d=(bcs.getD i []).getD d .any:=by
  intro i p hi d
  rw [boxCs_ok]
  congr 1
  show _=(List.map _ _).getD i []
  rw [List.getD_eq_getElem?_getD,List.getElem?_map,hi]; rfl
 have hws7:∀ (v:AP→A),NewG C st e.v bcs v→∀ (i:Nat) (w:Nat × List TV) (p:PL),c.ws[i]? = some w→pls[w.1]? = some p→∀ d,boxCell (hF (C.at p)) d=v (7,d,i):=by
  intro v hv i w p hw hp d
  obtain ⟨p',hp',hbx⟩:=bxA_get (σ:=σ) (ks:=adPls pls c.ads) (kj:=kj) hall hw
  rw [hp] at hp'
  cases hp'
  have h1:((bxA σ pls (adPls pls c.ads) kj c.ws).map (·.1) ++ (kj ++ adPls pls c.ads))[i]? = some p:=by
   have hlt:i < ((bxA σ pls (adPls pls c.ads) kj c.ws).map (·.1)).length:=by
    rw [List.length_map]; exact (List.getElem?_eq_some_iff.1 hbx).1
   rw [List.getElem?_append_left hlt,List.getElem?_map,hbx]; rfl
  rw [hv.nb,← hbcs i p h1 d,hback p (bxn _ (List.mem_of_getElem? hbx)).1]
 refine gen_ok hC g (bcs:=bcs) (fun q hk hn=>?_) (fun q hk _=>?_) (fun i hi hw=>?_) ht (fun b hb=>?_) (fun b hb=>?_) hbcs (fun q hn hk d=>?_) (fun v hv=>?_) (fun v hv=>?_)
 ·simp only [List.mem_append,not_or] at hk
  rw [hback q hk.1]; exact stay q hk.2 hn
 ·simp only [List.mem_append,not_or] at hk
  rw [hback q hk.1]; exact hkp q hk.2
 ·rw [hlow i hi]; exact h.low i hi hw
 ·obtain ⟨w,hw,hp,hts⟩:=bxA_mem hb
  obtain ⟨q,ver,cs,cs',e1,e2,e3,e4⟩:=h.ws w hw
  rw [hp] at e1
  cases e1
  refine ⟨ver,cs',by rw [hback _ (bxn b hb).1]; exact e3,?_⟩
  rw [hts]
  have key:∀ {ts:List TV} {zs:List A},TV.oks C' hF ts zs→TV.oks C (e.out st.h) (ts.map fun t=>killT kj (trTV σ pls (adPls pls c.ads) t)) zs:=by
   intro ts
   induction ts with
   | nil=>intro zs hz; simpa only [TV.oks,List.map_nil] using hz
   | cons t ts ih =>
    intro zs hz
    simp only [TV.oks,List.map_cons] at hz ⊢
    obtain ⟨x,l,h1,h2,h3⟩:=hz
    exact ⟨x,l,h1,killT_kp hkj (trTV_ok hC g h.hR h.hE h.po.n10 h.hπ h.h0 hkp h2),ih h3⟩
  exact key e4
 ·exact h.po.pk2 (bxn b hb).2
 ·simp only [List.mem_append,not_or] at hk
  rw [hback q hk.1]
  exact boxCell_fz (stay q hk.2 hn) d
 ·refine (wasA_ok (fun i w p hw hp d hd=>?_)).1
  rw [Nat.zero_add,← hws7 v hv i w p hw hp d]
  obtain ⟨q,ver,cs,cs',e1,e2,e3,e4⟩:=h.ws w (List.mem_of_getElem? hw)
  rw [hp] at e1
  cases e1
  obtain ⟨x,hx1,hx2⟩:=oks_get e4 hd
  simp only [TV.ok] at hx2
  have e5:C'.h0 (C.at p) = .box ver cs:=by
   rcases h.h0 p (List.mem_of_getElem? hp) with h | ⟨v,n,xs,fz,h4,h5⟩
   ·rw [h,e2]
   ·rw [e2] at h4; cases h4
  rw [hπ0 _ _ hp,e5] at hx2
  rw [hv.now _ (apB_lt _ _),apB_apv,e2,e3]
  show cs.getD d .any=cs'.getD d .any
  rw [List.getD_eq_getElem?_getD (l:=cs'),hx1]
  exact hx2.symm
 ·refine FOkA (wasA_ok (fun i w p hw hp d hd=>?_)).2 (FOkA ?_ (hnew v hv.now (by rw [hv.nv,hb]) (fun i=>by rw [hv.nc,hb])))
  ·rw [Nat.zero_add,← hws7 v hv i w p hw hp d]
   obtain ⟨q,ver,cs,cs',e1,e2,e3,e4⟩:=h.ws w (List.mem_of_getElem? hw)
   rw [hp] at e1
   cases e1
   obtain ⟨x,hx1,hx2⟩:=oks_get e4 hd
   simp only [TV.ok] at hx2
   have e5:C'.h0 (C.at p) = .box ver cs:=by
    rcases h.h0 p (List.mem_of_getElem? hp) with h | ⟨v,n,xs,fz,h4,h5⟩
    ·rw [h,e2]
    ·rw [e2] at h4; cases h4
   rw [hπ0 _ _ hp,e5] at hx2
   rw [hv.now _ (apB_lt _ _),apB_apv,e2,e3]
   show cs.getD d .any=cs'.getD d .any
   rw [List.getD_eq_getElem?_getD (l:=cs'),hx1]
   exact hx2.symm
  ·refine postFs_ok (g.fs v hv.now) (h.fs b v hab hac hv.now (by rw [hv.nv,hb]) (fun i=>by rw [hv.nc,hb]) fun k i hk d=>?_)
   obtain ⟨w,hw,rfl⟩:=wsIx_ok hk
   obtain ⟨p,hp⟩:=hall w (List.mem_of_getElem? hw)
   rw [hπ0 _ _ hp]
   exact hws7 v hv i w p hw hp d
theorem sCall_core {C:Cx} (hC:C.Ok) {X:Orc} {σ:SS} {st:St} (g:Ga C σ st) {o:Oper} {c:Ctr} (hc:c.Ok C X) {pls:List PL} {srcs:List Src} {zs:List A} (hz:TV.oks C st.h (srcs.map (Src.t σ)) zs) (hzo:∀ (i:Nat) (x:Operand),srcs[i]? = some (Src.op x)→zs[i]? = some (st.ev x))
  (hpq:pls=plsL (srcs.map (Src.t σ))) (hf:callFits C.E C.np C.wl C.ads σ c pls srcs=true) (hop:opE C.P X st.d st.ev st.h (st.d,o.dst.getD st.n) o=callE X st.d st.h (st.d,o.dst.getD st.n) c.f zs) {out:Out} (h:callOut C.E σ o.dst c pls srcs=some out):OpOk C X σ st o out:=by
 obtain ⟨C',ids,r,a,e,hF,H⟩:=call_core hC g hc hz hzo hpq hf (C.d,o.dst.getD st.n)
 have hids:∀ i ∈ ids,slotC C i ∈ (ownPls σ srcs).map sN:=fun i hi=>by
  obtain ⟨p,hp,_,rfl⟩:=H.idso i hi
  rw [sN_at hC]
  exact List.mem_map_of_mem hp
 have hn:=g.n
 have hw:okW st.d st.al e.wr=true:=by
  rw [g.d]
  rcases H.perm with h6 | h6
  ·exact okW_of2 h6
  ·exact absurd rfl h6
 have hrd:∀ x ∈ (sigE (slotC C) e).1,x ∈ (o.dst.getD σ.n + 1) :: ((ownPls σ srcs).map sN ++ (if c.args.all plainArg then [] else (reachPls σ pls).map sN)):=by
  intro x hx
  obtain ⟨i,hi,rfl⟩:=List.mem_map.1 hx
  rcases H.rdq i hi with rfl | hi | ⟨hp1,q,hq,rfl⟩
  ·rw [slotC_own,hn]; exact List.mem_cons_self
  ·exact List.mem_cons_of_mem _ (List.mem_append_left _ (hids i hi))
  ·refine List.mem_cons_of_mem _ (List.mem_append_right _ ?_)
   rw [if_neg (by rw [hp1]; simp),sN_at hC]
   exact List.mem_map_of_mem hq
 have hwr:∀ x ∈ (sigE (slotC C) e).2.1,x ∈ (ownPls σ srcs).map sN ++ (if c.args.all plainArg then [] else (reachPls σ pls).map sN) ∨ ∃ p ∈ (backE (hF (C.d,o.dst.getD st.n)).ver (C.d,o.dst.getD st.n) r).2,x=slotC C p.1:=by
  intro x hx
  obtain ⟨p,hp,rfl⟩:=List.mem_map.1 hx
  rcases H.wrq p hp with hp | ⟨hp1,q,hq,hp⟩ | hp
  ·exact Or.inl (List.mem_append_left _ (hids _ hp))
  ·left
   refine List.mem_append_right _ ?_
   rw [if_neg (by rw [hp1]; simp),hp,sN_at hC]
   exact List.mem_map_of_mem hq
  ·exact Or.inr ⟨p,hp,rfl⟩
 have hra:(sigE (slotC C) e).2.2=true→false=true:=fun h=>by
  have h:e.ra=true:=h
  rw [H.raq] at h; exact h
 have he:opE C.P X st.d st.ev st.h (st.d,o.dst.getD st.n) o=some e:=by rw [hop,g.d]; exact H.call
 have h3:=H.rs
 have h4:=H.val
 have h5:=H.outq
 have hR:=H.hR
 have hE:=H.hE
 have mem_at:∀ q j,C.at q=(C.d,j)→q=(true,j):=fun q j h=>at_inj hC h
 unfold callOut at h
 simp only at h
 split at h
 ·
  rename_i hno
  rw [Bool.and_eq_true] at hno
  have hws0:c.ws=[]:=by simpa using hno.1
  have had0:c.ads=[]:=by simpa using hno.2
  have hsame:∀ i,hF i=upds st.h (frz st.h ids) i:=fun i=>H.same i (by
   rintro (⟨k,hk,_⟩ | ⟨p,hp,_⟩)
   ·rw [H.wlq,hws0] at hk; cases hk
   ·rw [H.adq,had0] at hp; cases hp)
  have hfzall:∀ i,Fz (st.h i) (hF i):=fun i=>by rw [hsame]; exact frz_out ids st.h (fun _=>Fz_refl _) i
  have hlow:∀ i:Id,i.1 ≠ C.d→hF i=st.h i:=fun i hi=>by rw [hsame]; exact frz_low hC H.idso i hi
  have hfs:∀ b bc v,Me1 a b→(∀ c,Me1 (a.parts.getD c .any) (b.parts.getD c .any))→New C st b bc v→FOk v (postFs σ pls srcs c):=fun b bc v h1 h2 hv =>
   postFs_ok (g.fs v hv.now) (H.fs b v h1 h2 hv.now (hv.nv 0 0) (fun i=>hv.nc i 0) fun k i hk=>by rw [hws0] at hk; cases hk)
  split at h
  ·rename_i t ht
   cases h
   rw [ht] at h3
   obtain ⟨x,rfl,rfl,hx⟩:=h3
   intro σ' hσ
   cases hσ
   have hout:e.out st.h=hF:=h5
   refine ⟨e,he,hw,⟨hrd,fun y hy=>?_,hra⟩,?_⟩
   ·rcases hwr y hy with h | ⟨p,hp,_⟩
    ·exact h
    ·cases hp
   ·have h4:e.v = .d x:=h4
    refine wr_ok g (fun i=>by rw [hout]; exact hfzall i) (fun i hi=>by rw [hout]; exact hlow i (by omega)) (fun _=>?_) (fun v _ p hp=>by cases hp) fun v hv=>?_
    ·rw [h4]; simp only [TV.ok]; exact ⟨x,rfl,by rw [← hR]; exact hx⟩
    ·rw [h4] at hv
     refine FOkA (hfs _ [] v (Me1.refl _) (fun _=>Me1.refl _) hv) (tyN_ok hC (by rw [← hR]; exact hx) hv)
  ·rename_i ts ht
   cases h
   rw [ht] at h3
   obtain ⟨ds,rfl,rfl,hx⟩:=h3
   intro σ' hσ
   cases hσ
   have hout:e.out st.h=hF:=h5
   refine ⟨e,he,hw,⟨hrd,fun y hy=>?_,hra⟩,?_⟩
   ·rcases hwr y hy with h | ⟨p,hp,_⟩
    ·exact h
    ·cases hp
   ·have h4:e.v = .tup (ds.map .d):=h4
    rw [hR] at hx
    refine wr_ok g (fun i=>by rw [hout]; exact hfzall i) (fun i hi=>by rw [hout]; exact hlow i (by omega)) (fun _=>?_) (fun v _ p hp=>by cases hp) fun v hv=>?_
    ·rw [h4]; simp only [TV.ok]; exact ⟨_,rfl,oks_map_c hx⟩
    ·rw [h4] at hv
     refine FOkA (hfs _ [] v (Me1.refl _) (fun _=>Me1.refl _) hv) (tyBs_ok (gbOf hC hv.now) hx fun k y hy=>?_)
     show v (6,0 + k,0)=_
     rw [hv.nc,Nat.zero_add]
     show (ds.map A.d).getD k .any=_
     rw [List.getD_eq_getElem?_getD,List.getElem?_map,hy]; rfl
  ·rename_i el s ht
   split at h
   ·rename_i j hj
    cases h
    rw [ht] at h3
    obtain ⟨t,mc,rfl,rfl,hko,hx⟩:=h3
    rw [hR] at hx
    intro σ' hσ
    rw [hj] at hσ
    cases hσ
    rw [hj] at hrd hwr h4 h5
    simp only [Option.getD_some] at hrd hwr h4 h5
    have hout:∀ i,e.out st.h i=upd hF (C.d,j) (.map ((hF (C.d,j)).ver + 1) t mc) i:=fun i=>by rw [h5]; rfl
    have hoth:∀ i,i ≠ (C.d,j)→e.out st.h i=hF i:=fun i hi=>by
     rw [hout,upd_at,if_neg hi]
    have h4:e.v = .mp (C.d,j) ((hF (C.d,j)).ver + 1):=h4
    rw [hj]
    refine ⟨e,by rw [hj] at he; exact he,hw,⟨hrd,fun y hy=>?_,hra⟩,?_⟩
    ·rcases hwr y hy with h | ⟨p,hp,rfl⟩
     ·exact List.mem_cons_of_mem _ h
     ·simp only [backE,List.mem_singleton] at hp
      rw [hp,slotC_own]; exact List.mem_cons_self
    ·refine mk_ok hC g (bc:=[]) (fun q hq=>?_) (fun i hi=>?_) (fun i c hi=>?_) (fun c=>?_) (fun k c=>?_) ?_ (fun ts h=>by cases h) (fun u h=>by cases h) (fun v _ p hp=>by cases hp) fun v hv=>fun f hf=>by cases hf
     ·rw [hoth _ (fun h=>hq (by rw [at_inj hC h]; simp))]
      exact hfzall _
     ·rw [hoth _ (by rintro rfl; exact Nat.lt_irrefl _ hi)]
      exact hlow i (by omega)
     ·rw [hoth _ (fun h=>hi (Prod.mk.inj h).2)]
      exact boxCell_fz (hfzall _) c
     ·rw [hout,upd_at,if_pos rfl]; rfl
     ·rw [hoth _ (fun h=>hC.dis k (congrArg Prod.fst h))]
      exact boxCell_fz (hfzall _) c
     ·simp only [TV.ok]
      refine ⟨_,t,mc,h4,?_,hko,hx⟩
      rw [show C.at (true,j)=(C.d,j) from rfl,hout,upd_at,if_pos rfl]
   ·cases h
  ·rename_i el b ts ht
   split at h
   ·rename_i j hj
    cases h
    rw [ht] at h3
    obtain ⟨xs,ds,hr,rfl,hlen,hx,hds⟩:=h3
    rw [hR] at hx hds
    rw [hE] at hr
    intro σ' hσ
    rw [hj] at hσ
    cases hσ
    rw [hj] at hrd hwr h4 h5
    simp only [Option.getD_some] at hrd hwr h4 h5
    have hoth:∀ i,i ≠ (C.d,j)→e.out st.h i=hF i:=fun i hi=>by
     rw [h5]
     rcases hr with rfl | rfl
     ·show upd _ (C.d,j) _ i=_
      rw [upd_at,if_neg hi]
     ·rfl
    have htv:TV.ok C (e.out st.h) (.tup (.own (true,j) el :: ts.map .c)) e.v:=by
     rw [h4,h5]
     simp only [TV.ok]
     rcases hr with rfl | rfl
     ·refine ⟨_,rfl,?_⟩
      simp only [TV.oks,TV.ok]
      refine ⟨_,_,rfl,Or.inr ⟨_,_,xs,false,rfl,?_,rfl,hx⟩,oks_map_c hds⟩
      show upd _ (C.d,j) _ (C.d,j)=_
      rw [upd_at,if_pos rfl]
     ·refine ⟨_,rfl,?_⟩
      simp only [TV.oks,TV.ok]
      exact ⟨_,_,rfl,Or.inl ⟨xs,rfl,hx⟩,oks_map_c hds⟩
    obtain ⟨a0,hv0,ha0⟩:∃ a0,e.v = .tup (a0 :: ds.map .d)∧Me (.d (.lst xs)) a0:=by
     rw [h4]
     rcases hr with rfl | rfl
     ·exact ⟨_,rfl,me_lst2 xs _ _⟩
     ·exact ⟨_,rfl,me_lst1 xs⟩
    have hme:Me1 (.tup (.d (.lst xs) :: ds.map .d)) e.v ∧ ∀ c,Me1 ((A.tup (.d (.lst xs) :: ds.map .d)).parts.getD c .any) (e.v.parts.getD c .any):=by
     rw [hv0]
     refine ⟨⟨rfl,rfl,rfl⟩,fun c=>?_⟩
     cases c with
     | zero=>exact ha0.w
     | succ c=>exact Me1.refl _
    rw [hj]
    refine ⟨e,by rw [hj] at he; exact he,hw,⟨hrd,fun y hy=>?_,hra⟩,?_⟩
    ·rcases hwr y hy with h | ⟨p,hp,rfl⟩
     ·exact List.mem_cons_of_mem _ h
     ·have hp1:p.1=(C.d,j):=by
       rcases hr with rfl | rfl
       ·simp only [backE,List.mem_singleton] at hp
        rw [hp]
       ·cases hp
      rw [hp1,slotC_own]; exact List.mem_cons_self
    ·let bc:List A:=boxCs (e.out st.h (C.d,j))
     refine mk_ok hC g (bc:=bc) (fun q hq=>?_) (fun i hi=>?_) (fun i c hi=>?_) (fun c=>boxCs_ok _ _) (fun k c=>?_) htv (fun ts h=>by cases h) (fun u h=>by cases h) (fun v _ p hp=>by cases hp) fun v hv=>?_
     ·rw [hoth _ (fun h=>hq (by rw [at_inj hC h]; simp))]
      exact hfzall _
     ·rw [hoth _ (by rintro rfl; exact Nat.lt_irrefl _ hi)]
      exact hlow i (by omega)
     ·rw [hoth _ (fun h=>hi (Prod.mk.inj h).2)]
      exact boxCell_fz (hfzall _) c
     ·rw [hoth _ (fun h=>hC.dis k (congrArg Prod.fst h))]
      exact boxCell_fz (hfzall _) c
     ·refine FOkA (hfs _ bc v hme.1 hme.2 hv) (FOkA ?_ (tyBs_ok (gbOf hC hv.now) hds fun c y hy=>?_))
      ·intro f hf
       simp only [tyB,List.mem_singleton] at hf
       subst hf
       show lenA (v (6,0,0)) + _ ≤ 0
       rw [hv.nc,hv0]
       show lenA a0 + _ ≤ 0
       rw [← ha0.w.l]
       show (xs.length:Int) + _ ≤ 0
       omega
      ·show v (6,1 + c,0)=_
       rw [hv.nc,hv0]
       show (a0 :: ds.map A.d).getD (1 + c) .any=_
       rw [Nat.add_comm,List.getD_cons_succ,List.getD_eq_getElem?_getD,List.getElem?_map,hy]; rfl
   ·cases h
  ·rename_i el b ht
   split at h
   ·rename_i j hj
    cases h
    rw [ht] at h3
    obtain ⟨xs,hr,rfl,hlen,hx⟩:=h3
    rw [hR] at hx
    rw [hE] at hr
    intro σ' hσ
    rw [hj] at hσ
    cases hσ
    rw [hj] at hrd hwr h4 h5
    simp only [Option.getD_some] at hrd hwr h4 h5
    have hoth:∀ i,i ≠ (C.d,j)→e.out st.h i=hF i:=fun i hi=>by
     rw [h5]
     rcases hr with rfl | rfl
     ·rfl
     ·show upd _ (C.d,j) _ i=_
      rw [upd_at,if_neg hi]
    have htv:TV.ok C (e.out st.h) (.rl (true,j) el) e.v:=by
     rw [h4,h5]
     simp only [TV.ok]
     rcases hr with rfl | rfl
     ·exact Or.inr ⟨xs,rfl,hx⟩
     ·refine Or.inl (Or.inr ⟨_,_,xs,false,rfl,?_,rfl,hx⟩)
      show upd _ (C.d,j) _ (C.d,j)=_
      rw [upd_at,if_pos rfl]
    have hme:Me1 (.d (.lst xs)) e.v ∧ ∀ c,Me1 ((A.d (.lst xs)).parts.getD c .any) (e.v.parts.getD c .any):=by
     rw [h4]
     rcases hr with rfl | rfl
     ·exact ⟨Me1.refl _,fun _=>Me1.refl _⟩
     ·exact ⟨(me_lst2 xs _ _).w,(me_lst2 xs _ _).c⟩
    rw [hj]
    refine ⟨e,by rw [hj] at he; exact he,hw,⟨hrd,fun y hy=>?_,hra⟩,?_⟩
    ·rcases hwr y hy with h | ⟨p,hp,rfl⟩
     ·exact List.mem_cons_of_mem _ h
     ·have hp1:p.1=(C.d,j):=by
       rcases hr with rfl | rfl
       ·cases hp
       ·simp only [backE,List.mem_singleton] at hp
        rw [hp]
      rw [hp1,slotC_own]; exact List.mem_cons_self
    ·let bc:List A:=boxCs (e.out st.h (C.d,j))
     refine mk_ok hC g (bc:=bc) (fun q hq=>?_) (fun i hi=>?_) (fun i c hi=>?_) (fun c=>boxCs_ok _ _) (fun k c=>?_) htv (fun ts h=>by cases h) (fun u h=>by cases h) (fun v _ p hp=>by cases hp) fun v hv=>?_
     ·rw [hoth _ (fun h=>hq (by rw [at_inj hC h]; simp))]
      exact hfzall _
     ·rw [hoth _ (by rintro rfl; exact Nat.lt_irrefl _ hi)]
      exact hlow i (by omega)
     ·rw [hoth _ (fun h=>hi (Prod.mk.inj h).2)]
      exact boxCell_fz (hfzall _) c
     ·rw [hoth _ (fun h=>hC.dis k (congrArg Prod.fst h))]
      exact boxCell_fz (hfzall _) c
     ·refine FOkA (hfs _ bc v hme.1 hme.2 hv) ?_
      intro f hf
      simp only [tyB,List.mem_singleton] at hf
      subst hf
      show lenA (v (5,0,0)) + _ ≤ 0
      rw [hv.nv,← hme.1.l]
      show (xs.length:Int) + _ ≤ 0
      omega
   ·cases h
 ·
  split at h
  ·rename_i t ht
   cases h
   rw [ht] at h3
   obtain ⟨x,rfl,rfl,hx⟩:=h3
   rw [hR] at hx
   intro σ' hσ
   cases hσ
   have hout:e.out st.h=hF:=h5
   have h4:e.v = .d x:=h4
   refine ⟨e,he,hw,⟨hrd,fun y hy=>?_,hra⟩,?_⟩
   ·rcases hwr y hy with h | ⟨p,hp,_⟩
    ·exact h
    ·cases hp
   ·have:=call_gen hC g H (dst:=o.dst) (t:=.c t) (kj:=[]) (new:=tyN C.E t) (fun q _ h=>by cases h) (fun q _=>by rw [hout]) (fun i _=>by rw [hout]) (fun _=>by rw [h4]; simp only [TV.ok]; exact ⟨x,rfl,hx⟩) h4 (Me1.refl _) (fun _=>Me1.refl _) (fun v h0 h1 h2=>tyN_ok3 hC (gbOf hC h0) (bdOf hC h0) hx h1 h2)
    exact this
  ·rename_i ts ht
   cases h
   rw [ht] at h3
   obtain ⟨ds,rfl,rfl,hx⟩:=h3
   rw [hR] at hx
   intro σ' hσ
   cases hσ
   have hout:e.out st.h=hF:=h5
   have h4:e.v = .tup (ds.map .d):=h4
   refine ⟨e,he,hw,⟨hrd,fun y hy=>?_,hra⟩,?_⟩
   ·rcases hwr y hy with h | ⟨p,hp,_⟩
    ·exact h
    ·cases hp
   ·have:=call_gen hC g H (dst:=o.dst) (t:=.tup (ts.map .c)) (kj:=[]) (new:=tyBs (fun c=>(6,c,0)) 0 ts) (fun q _ h=>by cases h) (fun q _=>by rw [hout]) (fun i _=>by rw [hout]) (fun _=>by rw [h4]; simp only [TV.ok]; exact ⟨_,rfl,oks_map_c hx⟩) h4 (Me1.refl _) (fun _=>Me1.refl _) (fun v h0 h1 h2=>tyBs_ok (gbOf hC h0) hx fun k y hy=>by
     show v (6,0 + k,0)=_
     rw [h2,Nat.zero_add]
     show (ds.map A.d).getD k .any=_
     rw [List.getD_eq_getElem?_getD,List.getElem?_map,hy]; rfl)
    exact this
  ·cases h
  ·cases h
  ·rename_i el b ht
   split at h
   ·rename_i j hj
    split at h
    ·cases h
    rename_i hpj
    cases h
    have hpj:(true,j) ∉ pls:=by simpa using hpj
    rw [ht] at h3
    obtain ⟨xs,hr,rfl,hlen,hx⟩:=h3
    rw [hR] at hx
    rw [hE] at hr
    intro σ' hσ
    rw [hj] at hσ
    cases hσ
    rw [hj] at hrd hwr h4 h5
    simp only [Option.getD_some] at hrd hwr h4 h5
    have hoth:∀ i,i ≠ (C.d,j)→e.out st.h i=hF i:=fun i hi=>by
     rw [h5]
     rcases hr with rfl | rfl
     ·rfl
     ·show upd _ (C.d,j) _ i=_
      rw [upd_at,if_neg hi]
    have htv:TV.ok C (e.out st.h) (.rl (true,j) el) e.v:=by
     rw [h4,h5]
     simp only [TV.ok]
     rcases hr with rfl | rfl
     ·exact Or.inr ⟨xs,rfl,hx⟩
     ·refine Or.inl (Or.inr ⟨_,_,xs,false,rfl,?_,rfl,hx⟩)
      show upd _ (C.d,j) _ (C.d,j)=_
      rw [upd_at,if_pos rfl]
    have hme:Me1 (.d (.lst xs)) e.v ∧ ∀ c,Me1 ((A.d (.lst xs)).parts.getD c .any) (e.v.parts.getD c .any):=by
     rw [h4]
     rcases hr with rfl | rfl
     ·exact ⟨Me1.refl _,fun _=>Me1.refl _⟩
     ·exact ⟨(me_lst2 xs _ _).w,(me_lst2 xs _ _).c⟩
    rw [hj]
    refine ⟨e,by rw [hj] at he; exact he,hw,⟨hrd,fun y hy=>?_,hra⟩,?_⟩
    ·rcases hwr y hy with h | ⟨p,hp,rfl⟩
     ·exact List.mem_cons_of_mem _ h
     ·have hp1:p.1=(C.d,j):=by
       rcases hr with rfl | rfl
       ·cases hp
       ·simp only [backE,List.mem_singleton] at hp
        rw [hp]
      rw [hp1,slotC_own]; exact List.mem_cons_self
    ·have H':CallR C C' X σ st c pls srcs zs (C.d,j) ids r (.d (.lst xs)) e hF:=by rw [hj] at H; exact H
     have:=call_gen hC g H' (dst:=some j) (t:=.rl (true,j) el) (kj:=[(true,j)]) (new:=tyB (5,0,0) (.lst el b)) (fun q hq h=>by
      simp only [List.mem_singleton] at h
      subst h; exact hpj hq) (fun q hq=>hoth _ fun h=>hq (by rw [at_inj hC h]; simp)) (fun i hi=>hoth _ (by rintro rfl; exact Nat.lt_irrefl _ hi)) (fun _=>htv) rfl hme.1 hme.2 (fun v _ h1 h2=>by
      intro f hf
      simp only [tyB,List.mem_singleton] at hf
      subst hf
      show lenA (v (5,0,0)) + _ ≤ 0
      rw [h1,← hme.1.l]
      show (xs.length:Int) + _ ≤ 0
      omega)
     exact this
   ·cases h
def Ctrs (C:Cx) (X:Orc) (DB:List Ctr):Prop:=∀ c ∈ DB,c.Ok C X
theorem sCall_ok {C:Cx} (hC:C.Ok) {X:Orc} {DB:List Ctr} (hDB:Ctrs C X DB) {σ:SS} {st:St} (g:Ga C σ st) {o:Oper} {f:FuncId} {srcs:List Src} {zs:List A} (hz:TV.oks C st.h (srcs.map (Src.t σ)) zs) (hzo:∀ (i:Nat) (x:Operand),srcs[i]? = some (Src.op x)→zs[i]? = some (st.ev x))
  (hop:opE C.P X st.d st.ev st.h (st.d,o.dst.getD st.n) o=callE X st.d st.h (st.d,o.dst.getD st.n) f zs) {out:Out} (h:sCall C.E C.np C.wl C.ads DB σ o.dst f srcs=some out):OpOk C X σ st o out:=by
 unfold sCall at h
 simp only at h
 split at h
 ·rename_i c hc
  have h1:=List.find?_some hc
  simp only [Bool.and_eq_true] at h1
  have hcf:c.f=f:=Nat.eq_of_beq_eq_true h1.1
  subst hcf
  exact sCall_core hC g (hDB c (List.mem_of_find?_eq_some hc)) hz hzo rfl h1.2 hop h
 ·cases h
theorem oks_srcs {C:Cx} {σ:SS} {st:St} (g:Ga C σ st) {caps:List TV} {cs:List A} (hc:TV.oks C st.h caps cs):∀ l:List Operand,TV.oks C st.h ((l.map Src.op ++ caps.map Src.tv).map (Src.t σ)) (l.map st.ev ++ cs)
 | []=>by
  simp only [List.map_nil,List.nil_append,List.map_map]
  have:(caps.map (Src.t σ ∘ Src.tv))=caps:=by
   rw [show (Src.t σ ∘ Src.tv)=id from rfl]; simp
  rw [this]; exact hc
 | o :: l=>by
  simp only [List.map_cons,List.cons_append,TV.oks]
  exact ⟨_,_,rfl,opTV_ok g o,oks_srcs g hc l⟩
theorem srcs_ev {st:St} {caps:List TV} {cs:List A} (l:List Operand):∀ (i:Nat) (x:Operand),(l.map Src.op ++ caps.map Src.tv)[i]? = some (Src.op x)→(l.map st.ev ++ cs)[i]? = some (st.ev x):=by
 intro i x hx
 by_cases hi:i < l.length
 ·rw [List.getElem?_append_left (by simpa using hi),List.getElem?_map] at hx ⊢
  ·cases hl:l[i]? with
   | none=>rw [hl] at hx; cases hx
   | some y=>rw [hl] at hx; cases hx; rfl
 ·rw [List.getElem?_append_right (by simpa using hi),List.getElem?_map] at hx
  cases hl:caps[i - (l.map Src.op).length]? with
  | none=>rw [hl] at hx; cases hx
  | some y=>rw [hl] at hx; cases hx
def sCallOp (E:Nat→Option (List Ty)) (np:Nat) (wl:List Nat) (ads:List (Nat × Nat)) (DB:List Ctr) (σ:SS) (dst:Option Nat) (x:Operand) (args:List Operand):Option Out :=
 match x with
 | .func f=>sCall E np wl ads DB σ dst f (args.map Src.op)
 | x=>match opTV σ x with
  | .clo f caps=>sCall E np wl ads DB σ dst f (args.map Src.op ++ caps.map Src.tv)
  | _=>none
theorem sCallOp_ok {C:Cx} (hC:C.Ok) {X:Orc} {DB:List Ctr} (hDB:Ctrs C X DB) {σ:SS} {st:St} (g:Ga C σ st) {o:Oper} {x:Operand} {args:Array Operand} {ts:Array TypeId} (ho:o.op = .call ⟨.value x,args,ts⟩) {out:Out} (h:sCallOp C.E C.np C.wl C.ads DB σ o.dst x args.toList=some out):OpOk C X σ st o out:=by
 unfold sCallOp at h
 split at h
 ·rename_i f
  refine sCall_ok hC hDB g (zs:=args.toList.map st.ev) ?_ ?_ ?_ h
  ·have:=oks_srcs g (caps:=[]) (cs:=[]) (by simp [TV.oks]) args.toList
   simpa using this
  ·intro i y hy
   have:=srcs_ev (st:=st) (caps:=[]) (cs:=[]) args.toList i y (by simpa using hy)
   simpa using this
  ·obtain ⟨dst,op,ty,pos,af,gd⟩:=o
   simp only at ho
   subst ho; rfl
 ·rename_i hnf
  split at h
  ·rename_i f caps hx
   have hok:=opTV_ok g x
   rw [hx] at hok
   simp only [TV.ok] at hok
   obtain ⟨cs,hxv,hcs⟩:=hok
   refine sCall_ok hC hDB g (zs:=args.toList.map st.ev ++ cs) (oks_srcs g hcs _) (srcs_ev _) ?_ h
   obtain ⟨dst,op,ty,pos,af,gd⟩:=o
   simp only at ho
   subst ho
   have key:∀ y:Operand,(∀ f',y ≠ .func f')→opE C.P X st.d st.ev st.h (st.d,dst.getD st.n) ⟨dst,.call ⟨.value y,args,ts⟩,ty,pos,af,gd⟩=(match st.ev y with | .clo f caps=>callE X st.d st.h (st.d,dst.getD st.n) f (args.toList.map st.ev ++ caps) | _=>none):=by
    intro y hy
    cases y <;> first | rfl | exact absurd rfl (hy _)
   refine (key x fun f' e=>hnf f' e).trans ?_
   rw [hxv]
  ·cases h
end
end
end Go.Proofs.YtenoggjjhamdaaaGreatDoor
