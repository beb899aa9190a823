/-
  WHAT IS PROVED HERE: parts of the proof: SxG SxH SxI.
-/
import Derived.Test.YtenoggjjhamdaaaGreatDoorM13
set_option linter.all false
namespace Go.Proofs.YtenoggjjhamdaaaGreatDoor
open Go Go.RowKit
section
noncomputable section
mutual
def TV.sub (E:Nat→Option (List Ty)):TV→TV→Bool
  | t,u =>
    match u with
    | .any=>true
    | .c u'=>(match t with | .c t'=>Ty.subE E t' u' | _=>false)
    | .nilv=>(match t with | .nilv=>true | _=>false)
    | .own q e'=>(match t with | .nilv=>true | .own p e=>p == q && Ty.sub e e' && e.sz E == e'.sz E | _=>false)
    | .rl q e'=>(match t with | .nilv=>true | .own p e | .rl p e=>p == q && Ty.sub e e' && e.sz E == e'.sz E | .c (.lst e _)=>Ty.sub e e' | _=>false)
    | .bp q off'=>(match t with | .bp p off=>p == q && off == off' | _=>false)
    | .ep u' off'=>(match t with | .ep t' off=>Ty.sub t' u' && off == off' | _=>false)
    | .el q e' off'=>(match t with | .el p e off=>p == q && Ty.sub e e' && off == off' | _=>false)
    | .und=>(match t with | .und=>true | _=>false)
    | .mp q e' s'=>(match t with | .mp p e s=>p == q && Ty.sub e e' && s == s' | _=>false)
    | .dead=>(match t with | .dead | .own _ _ | .nilv=>true | _=>false)
    | .was k' j'=>(match t with | .was k j=>Nat.beq k k' && Nat.beq j j' | _=>false)
    | .clo f' l'=>(match t with | .clo f l=>f == f' && TV.subs E l l' | _=>false)
    | .tup l'=>(match t with | .tup l=>TV.subs E l l' | _=>false)
    | .ag l'=>(match t with | .ag l=>TV.subs E l l' | _=>false)
def TV.subs (E:Nat→Option (List Ty)):List TV→List TV→Bool
  | [],[]=>true
  | t :: l,u :: m=>TV.sub E t u && TV.subs E l m
  | _,_=>false
end
mutual
theorem TV.sub_ok {C:Cx} (hC:C.Ok) {h:Id→O}:∀ (t u:TV) {a:A},TV.sub C.E t u=true→TV.ok C h t a→TV.ok C h u a
  | t,u,a,hs,hx=>by
    unfold TV.sub at hs
    cases u with
    | any=>simp only [TV.ok]
    | c u' =>
      simp only at hs
      split at hs
      · simp only [TV.ok] at hx ⊢
        obtain ⟨x,rfl,h2⟩:=hx
        exact ⟨x,rfl,subE_ok hC.rel hs h2⟩
      · cases hs
    | nilv =>
      simp only at hs
      split at hs
      · exact hx
      · cases hs
    | own q e' =>
      simp only at hs
      split at hs
      · simp only [TV.ok] at hx ⊢
        exact Or.inl ⟨[],hx,fun x hx=>by cases hx⟩
      · rw [Bool.and_eq_true,Bool.and_eq_true] at hs
        have e1:=eq_of_beq hs.1.1
        have e2:_=_:=eq_of_beq hs.2
        subst e1
        simp only [TV.ok] at hx ⊢
        rcases hx with ⟨xs,h1,h2⟩ | ⟨ver,n,xs,fz,h1,h2,h3,h4⟩
        · exact Or.inl ⟨xs,h1,fun x hx=>Go.Proofs.YtenoggjjhamdaaaGreatDoor.sub_ok hC.rel _ _ _ hs.1.2 (h2 x hx)⟩
        · exact Or.inr ⟨ver,n,xs,fz,h1,h2,by rw [h3,e2],fun x hx=>Go.Proofs.YtenoggjjhamdaaaGreatDoor.sub_ok hC.rel _ _ _ hs.1.2 (h4 x hx)⟩
      · cases hs
    | rl q e' =>
      simp only at hs
      split at hs
      · simp only [TV.ok] at hx ⊢
        exact Or.inl (Or.inl ⟨[],hx,fun x hx=>by cases hx⟩)
      · rw [Bool.and_eq_true,Bool.and_eq_true] at hs
        have e1:=eq_of_beq hs.1.1
        have e2:_=_:=eq_of_beq hs.2
        subst e1
        simp only [TV.ok] at hx ⊢
        rcases hx with ⟨xs,h1,h2⟩ | ⟨ver,n,xs,fz,h1,h2,h3,h4⟩
        · exact Or.inl (Or.inl ⟨xs,h1,fun x hx=>Go.Proofs.YtenoggjjhamdaaaGreatDoor.sub_ok hC.rel _ _ _ hs.1.2 (h2 x hx)⟩)
        · exact Or.inl (Or.inr ⟨ver,n,xs,fz,h1,h2,by rw [h3,e2],fun x hx=>Go.Proofs.YtenoggjjhamdaaaGreatDoor.sub_ok hC.rel _ _ _ hs.1.2 (h4 x hx)⟩)
      · rw [Bool.and_eq_true,Bool.and_eq_true] at hs
        have e1:=eq_of_beq hs.1.1
        have e2:_=_:=eq_of_beq hs.2
        subst e1
        simp only [TV.ok] at hx ⊢
        rcases hx with (⟨xs,h1,h2⟩ | ⟨ver,n,xs,fz,h1,h2,h3,h4⟩) | ⟨xs,h1,h2⟩
        · exact Or.inl (Or.inl ⟨xs,h1,fun x hx=>Go.Proofs.YtenoggjjhamdaaaGreatDoor.sub_ok hC.rel _ _ _ hs.1.2 (h2 x hx)⟩)
        · exact Or.inl (Or.inr ⟨ver,n,xs,fz,h1,h2,by rw [h3,e2],fun x hx=>Go.Proofs.YtenoggjjhamdaaaGreatDoor.sub_ok hC.rel _ _ _ hs.1.2 (h4 x hx)⟩)
        · exact Or.inr ⟨xs,h1,fun x hx=>Go.Proofs.YtenoggjjhamdaaaGreatDoor.sub_ok hC.rel _ _ _ hs.1.2 (h2 x hx)⟩
      · simp only [TV.ok,ShT] at hx ⊢
        obtain ⟨_,rfl,xs,rfl,_,h2⟩:=hx
        exact Or.inr ⟨xs,rfl,fun x hx=>Go.Proofs.YtenoggjjhamdaaaGreatDoor.sub_ok hC.rel _ _ _ hs (h2 x hx)⟩
      · cases hs
    | bp q off' =>
      simp only at hs
      split at hs
      · rw [Bool.and_eq_true] at hs
        have e1:=eq_of_beq hs.1
        have e2:=eq_of_beq hs.2
        subst e1 e2
        exact hx
      · cases hs
    | ep u' off' =>
      simp only at hs
      split at hs
      · rw [Bool.and_eq_true] at hs
        have e2:=eq_of_beq hs.2
        subst e2
        simp only [TV.ok] at hx ⊢
        obtain ⟨xs,i,x,h1,h2,h3⟩:=hx
        exact ⟨xs,i,x,h1,h2,Go.Proofs.YtenoggjjhamdaaaGreatDoor.sub_ok hC.rel _ _ _ hs.1 h3⟩
      · cases hs
    | el q e' off' =>
      simp only at hs
      split at hs
      · rw [Bool.and_eq_true,Bool.and_eq_true] at hs
        have e1:=eq_of_beq hs.1.1
        have e2:=eq_of_beq hs.2
        subst e1 e2
        simp only [TV.ok] at hx ⊢
        rcases hx with ⟨xs,i,x,h1,h2,h3⟩ | ⟨ver,n,xs,fz,i,x,h1,h2,h3,h4⟩
        · exact Or.inl ⟨xs,i,x,h1,h2,Go.Proofs.YtenoggjjhamdaaaGreatDoor.sub_ok hC.rel _ _ _ hs.1.2 h3⟩
        · exact Or.inr ⟨ver,n,xs,fz,i,x,h1,h2,h3,Go.Proofs.YtenoggjjhamdaaaGreatDoor.sub_ok hC.rel _ _ _ hs.1.2 h4⟩
      · cases hs
    | und =>
      simp only at hs
      split at hs
      · exact hx
      · cases hs
    | mp q e' s' =>
      simp only at hs
      split at hs
      · rw [Bool.and_eq_true,Bool.and_eq_true] at hs
        have e1:=eq_of_beq hs.1.1
        have e2:=eq_of_beq hs.2
        subst e1 e2
        simp only [TV.ok] at hx ⊢
        obtain ⟨ver,t,c,h1,h2,hk,h3⟩:=hx
        refine ⟨ver,t,c,h1,h2,hk,fun e he=>?_⟩
        obtain ⟨x,h4,h5⟩:=h3 e he
        exact ⟨x,h4,Go.Proofs.YtenoggjjhamdaaaGreatDoor.sub_ok hC.rel _ _ _ hs.1.2 h5⟩
      · cases hs
    | dead =>
      simp only at hs
      split at hs
      · exact hx
      · simp only [TV.ok] at hx ⊢
        rcases hx with ⟨xs,rfl,_⟩ | ⟨ver,n,xs,fz,rfl,_⟩ <;> rfl
      · simp only [TV.ok] at hx ⊢
        subst hx; rfl
      · cases hs
    | was k' j' =>
      simp only at hs
      split at hs
      · rw [Bool.and_eq_true] at hs
        have e1:=Nat.eq_of_beq_eq_true hs.1
        have e2:=Nat.eq_of_beq_eq_true hs.2
        subst e1 e2
        exact hx
      · cases hs
    | clo f' l' =>
      simp only at hs
      split at hs
      · rw [Bool.and_eq_true] at hs
        have e1:=eq_of_beq hs.1
        subst e1
        simp only [TV.ok] at hx ⊢
        obtain ⟨zs,h1,h2⟩:=hx
        exact ⟨zs,h1,TV.subs_ok hC _ l' hs.2 h2⟩
      · cases hs
    | tup l' =>
      simp only at hs
      split at hs
      · simp only [TV.ok] at hx ⊢
        obtain ⟨zs,h1,h2⟩:=hx
        exact ⟨zs,h1,TV.subs_ok hC _ l' hs h2⟩
      · cases hs
    | ag l' =>
      simp only at hs
      split at hs
      · simp only [TV.ok] at hx ⊢
        exact ⟨hx.1,TV.subs_ok hC _ l' hs hx.2⟩
      · cases hs
theorem TV.subs_ok {C:Cx} (hC:C.Ok) {h:Id→O}:∀ (ts us:List TV) {zs:List A},TV.subs C.E ts us=true→TV.oks C h ts zs→TV.oks C h us zs
  | [],us,zs,hs,hx=>by
    cases us <;> simp only [TV.subs,Bool.false_eq_true] at hs
    exact hx
  | t :: ts,us,zs,hs,hx=>by
    cases us <;> simp only [TV.subs,Bool.false_eq_true,Bool.and_eq_true] at hs
    simp only [TV.oks] at hx ⊢
    obtain ⟨a,l,rfl,h2,h3⟩:=hx
    exact ⟨a,l,rfl,TV.sub_ok hC t _ hs.1 h2,TV.subs_ok hC ts _ hs.2 h3⟩
end
def eqZ (a:AP) (z:Int):List Fact:=[.f (.le (1,a) zT (-z)),.f (.le zT (1,a) z)]
def has (fs:List Fact) (f:Fact):Bool :=
  inF fs f || (match f with
    | .imp a b x=>(match isbOf fs a with
      | some b'=>if b' == b then known fs (.f x) else true
      | none=>known (learn fs a b) (.f x))
    | .impi a z x=>entLe fs (1,a) zT (1 - z) || entLe fs zT (1,a) (z + 1) || known (saturate 2 (eqZ a z ++ fs)) (.f x)
    | .impl p x=>(match p with | .le a b c=>entLe fs b a (1 - c) | _=>false) || known (saturate 2 (.f p :: fs)) (.f x) || entLe (saturate 2 (.f p :: fs)) zT zT 1
    | .f (.isb a b)=>known fs (.f (.isb a b)) || contra (learn fs a (!b))
    | f=>known fs f)
theorem has_ok {v:AP→A} {fs:List Fact} (hf:FOk v fs) {f:Fact} (h:has fs f=true):f.ok v:=by
  unfold has at h
  rw [Bool.or_eq_true] at h
  rcases h with h | h
  · exact hf f (inF_mem h)
  · split at h
    · rename_i a b x
      intro hb
      split at h
      · rename_i b' hb'
        have e:=isbOf_ok hf hb'
        rw [hb] at e
        subst e
        rw [if_pos (beq_self_eq_true _)] at h
        exact known_ok hf h
      · exact known_ok (learn_ok hf hb) h
    · rename_i a z x
      intro hz
      have z0:tv v zT=0:=rfl
      have z1:tv v (1,a)=intA (v a):=rfl
      simp only [Bool.or_eq_true] at h
      rcases h with (h | h) | h
      · have:=entLe_ok hf h; omega
      · have:=entLe_ok hf h; omega
      · refine known_ok (f:=.f x) (saturate_ok 2 (FOkA ?_ hf)) h
        intro f hm
        simp only [eqZ,List.mem_cons,List.not_mem_nil,or_false] at hm
        rcases hm with rfl | rfl <;> simp only [Fact.ok,LF.ok,z0,z1] <;> omega
    · rename_i p x
      intro hp
      rw [Bool.or_eq_true,Bool.or_eq_true] at h
      have hs:FOk v (saturate 2 (.f p :: fs)):=saturate_ok 2 fun f hm=>by
        rcases List.mem_cons.1 hm with rfl | hm
        · exact hp
        · exact hf f hm
      rcases h with (h | h) | h
      rotate_left 2
      · have:=entLe_ok hs h
        have z0:tv v zT=0:=rfl
        omega
      · split at h
        · have:=entLe_ok hf h
          simp only [LF.ok] at hp
          omega
        · cases h
      · refine known_ok (f:=.f x) (saturate_ok 2 fun f hm=>?_) h
        rcases List.mem_cons.1 hm with rfl | hm
        · exact hp
        · exact hf f hm
    · rename_i a b
      rw [Bool.or_eq_true] at h
      rcases h with h | h
      · exact known_ok hf h
      · show boolA (v a)=b
        refine Classical.byContradiction fun hn=>?_
        have hb:boolA (v a) = !b:=by
          cases hx:boolA (v a) <;> cases b <;> simp_all
        exact contra_ok (learn_ok hf hb) h
    · exact known_ok hf h
def subSS (E:Nat→Option (List Ty)) (σ inv:SS):Bool :=
  σ.n == inv.n && (inv.sl.all fun p=>decide (p.1 < σ.n) && TV.sub E (opTV σ (.tmp p.1)) p.2) && (inv.hp.all fun p=>match σ.hp.find? fun q=>q.1 == p.1 with | some q=>TV.subs E q.2 p.2 | none=>false) && (inv.fs.all fun f=>has σ.fs f) && inv.wh.all fun p=>match σ.wh.find? fun q=>q.1 == p.1 with | some q=>Ty.sub q.2 p.2 | none=>false
theorem subSS_ok {C:Cx} (hC:C.Ok) {σ inv:SS} {st:St} (g:Ga C σ st) (h:subSS C.E σ inv=true):Ga C inv st:=by
  unfold subSS at h
  rw [Bool.and_eq_true,Bool.and_eq_true,Bool.and_eq_true,Bool.and_eq_true] at h
  obtain ⟨⟨⟨⟨h1,h2⟩,h3⟩,h4⟩,h5⟩:=h
  have h1:σ.n=inv.n:=eq_of_beq h1
  refine ⟨g.d,by rw [g.n,h1],fun p hp=>?_,fun p hp=>?_,fun v hv f hf=>?_,g.low,g.al,fun p hp=>?_,fun p hp=>?_⟩
  · have:=List.all_eq_true.1 h2 p hp
    rw [Bool.and_eq_true] at this
    have hok:=opTV_ok g (.tmp p.1)
    rw [ev_tmp g (of_decide_eq_true this.1)] at hok
    exact TV.sub_ok hC _ _ this.2 hok
  · have:=List.all_eq_true.1 h3 p hp
    split at this
    · rename_i q hq
      have hq1:=g.hp q (List.mem_of_find?_eq_some hq)
      have hq2:q.1=p.1:=by simpa using List.find?_some hq
      rw [hq2] at hq1
      obtain ⟨ver,cs,e1,e2⟩:=hq1
      exact ⟨ver,cs,e1,TV.subs_ok hC _ _ this e2⟩
    · cases this
  · exact has_ok (g.fs v hv) (List.all_eq_true.1 h4 f hf)
  · have:=List.all_eq_true.1 h3 p hp
    split at this
    · rename_i q hq
      have hq2:q.1=p.1:=by simpa using List.find?_some hq
      rw [← hq2]
      exact g.pk q (List.mem_of_find?_eq_some hq)
    · cases this
  · have:=List.all_eq_true.1 h5 p hp
    split at this
    · rename_i q hq
      have hq2:q.1=p.1:=by simpa using List.find?_some hq
      obtain ⟨ver,ds,e1,e2⟩:=g.wh q (List.mem_of_find?_eq_some hq)
      rw [hq2] at e1
      exact ⟨ver,ds,e1,Go.Proofs.YtenoggjjhamdaaaGreatDoor.sub_ok hC.rel _ _ _ this e2⟩
    · cases this
inductive SI where
  | code (c:Code)
  | blk (id:Nat)
  | scp
structure LA where
  key:Nat
  drop:List Nat
  slots:List (Nat × TV)
  dropH:List PL:=[]
  boxes:List (PL × List TV):=[]
  facts:List Fact
  alts:List (List (Nat × TV) × List (PL × List TV) × List Fact):=[]
  p:Term × Int
  q:Term × Int
inductive Bot where
  | fn
  | lp (invs:List SS) (p q:Term × Int) (k:List SI) (b:Bot)
def Bot.dep:Bot→Nat
  | .fn=>0
  | .lp _ _ _ _ b=>b.dep + 2
def firstReg:Code→Option Nat
  | .region id _ _=>some id
  | .seq a b=>match firstReg a with | some n=>some n | none=>firstReg b
  | .block _ c | .loop c | .scope c=>firstReg c
  | .cond _ a b=>match firstReg a with | some n=>some n | none=>firstReg b
  | _=>none
def ghosts (m:Nat) (a:AP):Bool:=a.1 == 4 && (decide (m ≤ a.2.1) && decide (a.2.1 < 2000))
def ghK (m:Nat) (a:AP):Bool:=ghosts m a || decide (5 ≤ a.1)
def isCT:TV→Bool
  | .c _=>true
  | _=>false
def mkInv (la:LA) (m:Nat) (σ:SS):SS :=
  { n:=σ.n
    wh:=σ.wh.filter fun p=>!(la.drop.contains p.1.2 || la.dropH.contains p.1)
    sl:=la.slots ++ σ.sl.filter fun p=>(!la.drop.contains p.1 || isCT p.2) && !la.slots.any fun q=>q.1 == p.1
    hp:=la.boxes ++ σ.hp.filter fun p=>!la.dropH.contains p.1
    fs:=la.facts ++ elim (fun a=>((a.1 == 0 || a.1 == 1) && la.drop.contains a.2.1) || (a.1 == 2 && la.dropH.contains (true,a.2.1)) || (a.1 == 3 && la.dropH.contains (false,a.2.1)) || ghosts m a) σ.fs }
def mkInvs (la:LA) (m:Nat) (σ:SS):List SS:=if la.alts.isEmpty then [mkInv la m σ] else la.alts.map fun p=>mkInv { la with slots:=p.1,boxes:=p.2.1,facts:=p.2.2 ++ la.facts } m σ
def leG (a b:Term × Int):Fact:=.f (leF a b 0)
def withG (la:LA) (m:Nat) (σ:SS):SS :=
  { σ with fs:=[leG ((1,4,m,0),0) la.q,leG la.q ((1,4,m,0),0),leG ((1,4,m + 1,0),0) la.p,leG la.p ((1,4,m + 1,0),0)] ++ σ.fs }
def fell (fs:List Fact) (p q:Term × Int) (m:Nat):Bool :=
  let gq:Term × Int:=((1,4,m,0),0)
  let gp:Term × Int:=((1,4,m + 1,0),0)
  (leI fs p gp 0 && leI fs gq q 1) || (leI fs p gp 1 && leI fs gq q 0)
def candF:List SS→List Fact
  | []=>[]
  | σ :: l=>σ.fs ++ (candF l).filter fun f=>!inF σ.fs f
def candB (l:List SS) (r:Nat) (b:Bool):List Fact :=
  match l.filter fun τ=>!(isbOf τ.fs (0,r,0) == some (!b)) && !(entLe (learn τ.fs (0,r,0) b) zT zT 1) with
  | []=>[]
  | τ :: m=>if m.length + 1 == l.length then [] else
    (τ.fs.filterMap fun f=>match f with
      | .f x=>if (m.all fun τ'=>hasF τ'.fs x) && !(l.all fun τ'=>hasF τ'.fs x) then some (.imp (0,r,0) b x) else none
      | _=>none) ++ if m.isEmpty then [] else
        let fl:=(τ :: m).map fun τ1=>Go.Proofs.YtenoggjjhamdaaaGreatDoor.learn τ1.fs (0,r,0) b
        fl.flatMap fun fs1=>fs1.filterMap fun f=>match f with
        | .f (.le x y c)=>if (x == zT || y == zT) && ((fl.all fun fs2=>entLe fs2 x y c) && !(l.all fun τ'=>hasF τ'.fs (.le x y c))) then some (.imp (0,r,0) b (.le x y c)) else none
        | _=>none
def candL (l:List SS):List Fact :=
  match l with
  | σ :: _=>match σ.sl with
    | (r,.c .bool) :: _=>candB l r true ++ candB l r false
    | _=>[]
  | []=>[]
def joinS (E:Nat→Option (List Ty)) (σ:SS) (l:List SS):SS :=
  { n:=σ.n
    wh:=σ.wh.filter fun p=>l.all fun τ=>match τ.wh.find? fun q=>q.1 == p.1 with | some q=>Ty.sub q.2 p.2 | none=>false
    sl:=σ.sl.filter fun p=>l.all fun τ=>TV.sub E (opTV τ (.tmp p.1)) p.2
    hp:=σ.hp.filter fun p=>l.all fun τ=>match τ.hp.find? fun q=>q.1 == p.1 with | some q=>TV.subs E q.2 p.2 | none=>false
    fs:=(candL (σ :: l) ++ candF (σ :: l)).filter fun f=>has σ.fs f && l.all fun τ=>has τ.fs f }
def merge1 (E:Nat→Option (List Ty)):List SS→List SS
  | []=>[]
  | [σ]=>[σ]
  | σ :: l =>
    let μ:=joinS E σ l
    if (σ :: l).all fun τ=>subSS E τ μ then [μ] else σ :: l
theorem merge1_ok {C:Cx} (hC:C.Ok) {l:List SS} {st:St} (h:∃ σ ∈ l,Ga C σ st):∃ σ ∈ merge1 C.E l,Ga C σ st:=by
  unfold merge1
  split
  · exact h
  · exact h
  · rename_i σ l hne
    simp only
    split
    · rename_i hall
      obtain ⟨τ,hτ,g⟩:=h
      exact ⟨_,List.mem_cons_self,subSS_ok hC g (List.all_eq_true.1 hall τ hτ)⟩
    · exact h
def nmKey (σ:SS):List (Nat × Nat):=σ.sl.filterMap fun p=>match p.2 with
  | .c (.nm i)=>some (p.1,i)
  | .ep (.nm i) _=>some (p.1,i)
  | _=>none
def unlike (σ τ:SS):Bool:=(nmKey σ).any fun p=>(nmKey τ).any fun q=>Nat.beq p.1 q.1 && !Nat.beq p.2 q.2
def merge (E:Nat→Option (List Ty)):List SS→List SS
  | []=>[]
  | [σ]=>[σ]
  | σ :: l=>if l.any (unlike σ) then merge1 E (σ :: l.filter fun τ=>!unlike σ τ) ++ merge1 E (l.filter (unlike σ)) else merge1 E (σ :: l)
theorem merge_ok {C:Cx} (hC:C.Ok) {l:List SS} {st:St} (h:∃ σ ∈ l,Ga C σ st):∃ σ ∈ merge C.E l,Ga C σ st:=by
  unfold merge
  split
  · exact h
  · exact h
  · rename_i σ l hne
    split
    · obtain ⟨τ,hτ,g⟩:=h
      have key:(∃ σ' ∈ σ :: l.filter fun τ=>!unlike σ τ,Ga C σ' st) ∨ ∃ σ' ∈ l.filter (unlike σ),Ga C σ' st:=by
        rcases List.mem_cons.1 hτ with rfl | hτ
        · exact Or.inl ⟨_,List.mem_cons_self,g⟩
        · cases hu:unlike σ τ with
          | true=>exact Or.inr ⟨τ,List.mem_filter.2 ⟨hτ,hu⟩,g⟩
          | false=>exact Or.inl ⟨τ,List.mem_cons_of_mem _ (List.mem_filter.2 ⟨hτ,by simp [hu]⟩),g⟩
      rcases key with h | h
      · obtain ⟨μ,h1,h2⟩:=merge1_ok hC h
        exact ⟨μ,List.mem_append_left _ h1,h2⟩
      · obtain ⟨μ,h1,h2⟩:=merge1_ok hC h
        exact ⟨μ,List.mem_append_right _ h1,h2⟩
    · exact merge1_ok hC h
structure Ways where
  K:SK
  na:Nat
  las:List LA
  fin:SS→Bool
  dd:DD:=[]
mutual
def run (W:Ways):Nat→List SI→Bot→SS→Bool
  | 0,_,_,_=>false
  | n + 1,ks,bot,σ =>
    match ks with
    | []=>(match bot with
      | .fn=>W.fin σ
      | .lp invs p q k b=>(invs.any fun inv=>subSS W.K.E σ inv) && fell σ.fs p q b.dep)
    | .blk _ :: k=>run W n k bot σ
    | .scp :: k=>run W n k bot σ
    | .code .skip :: k=>run W n k bot σ
    | .code (.label _) :: k=>run W n k bot σ
    | .code (.seq a b) :: k=>run W n (.code a :: .code b :: k) bot σ
    | .code (.block j a) :: k=>run W n (.code a :: .blk j :: k) bot σ
    | .code (.scope a) :: k=>run W n (.code a :: .scp :: k) bot σ
    | .code (.exit j) :: k=>unw W n (.exit j) k bot σ
    | .code .ret :: k=>unw W n .ret k bot σ
    | .code (.region i O false) :: k=>(match opsS W.K W.na O O.toList (ddO W.dd i) (ddE W.dd i σ) with | some l=>(merge W.K.E l).all fun σ'=>fSS σ' fun σ'=>run W n k bot σ' | none=>false)
    | .code (.region i O true) :: k=>(match trS W.K W.na O O.toList (ddO W.dd i) [] (ddE W.dd i σ) with | some l=>(merge W.K.E l).all fun σ'=>fSS σ' fun σ'=>run W n k bot σ' | none=>false)
    | .code (.cond c a b) :: k =>
      isBoolT (opTV σ c) && match opB σ c with
      | some true=>run W n (.code a :: k) bot σ
      | some false=>run W n (.code b :: k) bot σ
      | none =>
        match c with
        | .tmp t=>decide (t < σ.n) && ((σ.learn (0,t,0) true).no || run W n (.code a :: k) bot (σ.learn (0,t,0) true)) && ((σ.learn (0,t,0) false).no || run W n (.code b :: k) bot (σ.learn (0,t,0) false))
        | _=>false
    | .code (.loop c) :: k =>
      match W.las.find? fun la=>some la.key == firstReg c with
      | some la =>
        let invs:=mkInvs la bot.dep σ
        decide (bot.dep < 1000) && (invs.any fun inv=>subSS W.K.E σ inv) && (invs.all fun inv=>inv.fs.all fun f=>!f.men (ghosts bot.dep)) && (!Term.men (ghK bot.dep) la.p.1 && !Term.men (ghK bot.dep) la.q.1) && (invs.all fun inv=>leI inv.fs la.q la.p 0) && leI σ.fs la.p (zT,1000000000000000) 0 && leI σ.fs (zT,0) la.q 0
          && invs.all fun inv=>run W n [.code c] (.lp invs la.p la.q k bot) (withG la bot.dep inv)
      | none=>false
    | _=>false
def unw (W:Ways):Nat→Ex→List SI→Bot→SS→Bool
  | 0,_,_,_,_=>false
  | n + 1,x,ks,bot,σ =>
    match ks with
    | []=>(match bot with
      | .fn=>(match x with | .ret=>W.fin σ | _=>false)
      | .lp _ _ _ k b=>unw W n x k b σ)
    | .blk j :: k=>(match x with
      | .exit i=>if i == j then run W n k bot σ else unw W n (.exit i) k bot σ
      | .ret=>unw W n .ret k bot σ
      | _=>false)
    | .scp :: k=>(match x with
      | .exit i=>unw W n (.exit i) k bot σ
      | .ret=>unw W n .ret k bot σ
      | _=>false)
    | .code _ :: k=>unw W n x k bot σ
end
end
end
section
noncomputable section
def Cx.g (C:Cx) (gs:Nat→Int):Cx:={ C with gs:=gs }
mutual
theorem TV.ok_g {C:Cx} {h:Id→O} {a b:Nat→Int}:∀ {t:TV} {x:A},TV.ok (C.g a) h t x→TV.ok (C.g b) h t x
  | .any,x,hx=>by simp only [TV.ok]
  | .und,x,hx=>by simpa only [TV.ok] using hx
  | .mp q e s,x,hx=>by simp only [TV.ok] at hx ⊢; exact hx
  | .was k i,x,hx=>by simp only [TV.ok] at hx ⊢; exact hx
  | .dead,x,hx=>by simp only [TV.ok] at hx ⊢; exact hx
  | .c t,x,hx=>by simp only [TV.ok] at hx ⊢; exact hx
  | .nilv,x,hx=>by simpa only [TV.ok] using hx
  | .own q e,x,hx=>by simp only [TV.ok] at hx ⊢; exact hx
  | .rl q e,x,hx=>by simp only [TV.ok] at hx ⊢; exact hx
  | .bp q off,x,hx=>by simp only [TV.ok] at hx ⊢; exact hx
  | .ep t off,x,hx=>by simp only [TV.ok] at hx ⊢; exact hx
  | .el q e off,x,hx=>by simp only [TV.ok] at hx ⊢; exact hx
  | .tup l,x,hx=>by
    simp only [TV.ok] at hx ⊢
    obtain ⟨zs,h1,h2⟩:=hx
    exact ⟨zs,h1,TV.oks_g h2⟩
  | .clo f l,x,hx=>by
    simp only [TV.ok] at hx ⊢
    obtain ⟨zs,h1,h2⟩:=hx
    exact ⟨zs,h1,TV.oks_g h2⟩
  | .ag l,x,hx=>by
    simp only [TV.ok] at hx ⊢
    exact ⟨hx.1,TV.oks_g hx.2⟩
theorem TV.oks_g {C:Cx} {h:Id→O} {a b:Nat→Int}:∀ {ts:List TV} {zs:List A},TV.oks (C.g a) h ts zs→TV.oks (C.g b) h ts zs
  | [],zs,hx=>by simpa only [TV.oks] using hx
  | t :: ts,zs,hx=>by
    simp only [TV.oks] at hx ⊢
    obtain ⟨x,l,h1,h2,h3⟩:=hx
    exact ⟨x,l,h1,TV.ok_g h2,TV.oks_g h3⟩
end
def GsEq (m:Nat) (a b:Nat→Int):Prop:=∀ i,i < m ∨ 2000 ≤ i→a i=b i
def GsB (C:Cx) (gs:Nat→Int):Prop:=∀ i,2000 ≤ i→gs i=C.gs i
theorem GsEq.bot {m:Nat} {C:Cx} {a b:Nat→Int} (h:GsEq m a b) (ha:GsB C a):GsB C b:=fun i hi=>by rw [← h i (Or.inr hi)]; exact ha i hi
inductive SR (φ:Id→Nat):SI→Itm→Prop where
  | code (c):SR φ (.code c) (.code c)
  | blk (j):SR φ (.blk j) (.blk j)
  | scp:SR φ .scp .scp
inductive SRs (φ:Id→Nat):List SI→List Itm→Prop where
  | nil:SRs φ [] []
  | cons {a b k l}:SR φ a b→SRs φ k l→SRs φ (a :: k) (b :: l)
def Args (na:Nat) (zs:Nat→A) (st:St):Prop:=∀ i,i < na→st.t i=zs i
theorem args_put {na:Nat} {zs:Nat→A} {st:St} {dst:Option Nat} {e:Eff} (h:Args na zs st) (hd:naB na dst=true):Args na zs (st.put dst e):=by
  intro i hi
  show (match dst with | some d=>upd st.t d e.v | none=>st.t) i=_
  cases dst with
  | none=>exact h i hi
  | some d =>
    have:na ≤ d:=of_decide_eq_true hd
    show upd st.t d e.v i=_
    rw [upd_at,if_neg (by omega)]
    exact h i hi
def vI (C:Cx) (s:St) (p:Term × Int):Int:=tv (apv C s) p.1 + p.2
def Iv (C:Cx) (na:Nat) (zs:Nat→A) (invs:List SS) (p q:Term × Int) (m:Nat) (gs:Nat→Int) (i:Nat) (s:St):Prop :=
  ∃ gs',GsEq m gs gs' ∧ ((∃ inv ∈ invs,Ga (C.g gs') inv s)∧Args na zs s)∧(i:Int)=vI (C.g gs') s p - vI (C.g gs') s q
def BR (C:Cx) (X:Orc) (N:Nat) (na:Nat) (zs:Nat→A) (fin:SS→Bool):Bot→(Nat→Int)→(Ex→St→Prop)→Prop
  | .fn,_,Q=>∀ σ gs st,GsB C gs→fin σ=true→Ga (C.g gs) σ st→Args na zs st→Q .normal st∧Q .ret st
  | .lp invs p q k b,gs,Q=>∃ Qb k',BR C X N na zs fin b gs Qb∧SRs (slotC C) k k' ∧ (∀ gs s,(∃ inv ∈ invs,Ga (C.g gs) inv s)→0 ≤ vI (C.g gs) s p - vI (C.g gs) s q)∧(∀ s,(∃ i:Nat,(i:Int) < gs (b.dep + 1) - gs b.dep∧Iv C na zs invs p q b.dep gs i s)→Q .normal s) ∧ ∀ x s,x ≠ .normal→Wu C.P X N x k' s Qb→Q x s
theorem BR_mono {C:Cx} {X:Orc} {N:Nat} {na:Nat} {zs:Nat→A} {fin:SS→Bool}:∀ {b:Bot} {gs gs':Nat→Int} {Q:Ex→St→Prop},BR C X N na zs fin b gs Q→GsEq b.dep gs gs'→BR C X N na zs fin b gs' Q
  | .fn,gs,gs',Q,h,_=>h
  | .lp inv p q k b,gs,gs',Q,h,he=>by
    obtain ⟨Qb,k',h1,h2,h0,h3,h4⟩:=h
    have he:∀ i,i < b.dep + 2 ∨ 2000 ≤ i→gs i=gs' i:=he
    refine ⟨Qb,k',BR_mono h1 (fun i hi=>he i (by omega)),h2,h0,?_,h4⟩
    rintro s ⟨i,hi,g2,e1,e2⟩
    refine h3 s ⟨i,by rw [he _ (by omega),he b.dep (by omega)]; exact hi,g2,fun j hj=>by rw [he j (by omega)]; exact e1 j hj,e2⟩
theorem apv_g {C:Cx} {st:St} {a b:Nat→Int} {m:Nat} (h:GsEq m a b) (x:AP) (hx:ghosts m x=false):apv (C.g a) st x=apv (C.g b) st x:=by
  obtain ⟨k,i,c⟩:=x
  match k with
  | 0=>rfl
  | 1=>rfl
  | 2=>rfl
  | 3=>rfl
  | 4 =>
    have:i < m ∨ 2000 ≤ i:=by
      simp only [ghosts,beq_self_eq_true,Bool.true_and,Bool.and_eq_false_iff,decide_eq_false_iff_not] at hx
      omega
    show A.d (.s (.int .i64 (a i)))=A.d (.s (.int .i64 (b i)))
    rw [h i this]
  | k + 5=>rfl
theorem opsS_ok {K:SK} {C:Cx} {X:Orc} (hK:K.Of C X) (hP:K.P=C.P) {na:Nat} {zs:Nat→A} {O:Array Oper}:∀ {l:List Oper} {ds:List (List Nat)} {σ:SS} {st:St} {r:List SS},opsS K na O l ds σ=some r→Ga C σ st→Args na zs st →
    ∃ s,∃ σ' ∈ r,Ga C σ' s∧Args na zs s ∧ ∀ (N:Nat) (k:List Itm) (Q:Ex→St→Prop),Wk C.P X N k s Q→Wk C.P X N (.ops O l :: k) st Q
  | [],ds,σ,st,r,h,g,ha=>by
    simp only [opsS,Option.some.injEq] at h
    subst h
    exact ⟨st,σ,List.mem_cons_self,g,ha,fun N k Q hw=>by rw [Wk_ops_nil]; exact hw⟩
  | o :: l,ds,σ,st,r,h,g,ha=>by
    unfold opsS at h
    split at h
    · rename_i hna
      split at h
      · rename_i ps hps
        obtain ⟨p,hp,e,h1,h2,h3⟩:=stepL_get hK g hps
        obtain ⟨a,h4,h5⟩:=contL_mem h p hp
        obtain ⟨s,σ',h6,h7,h8,h9⟩:=opsS_ok hK hP h4 (slim_ok h3 _ _) (args_put ha hna)
        rw [hP] at h1
        exact ⟨s,σ',h5 _ h6,h7,h8,fun N k Q hw=>Wk_step h1 (h9 N k Q hw)⟩
      · cases h
    · cases h
theorem trS_ok {K:SK} {C:Cx} {X:Orc} (hK:K.Of C X) (hP:K.P=C.P) {na:Nat} {zs:Nat→A} {O:Array Oper}:∀ {l:List Oper} {ds:List (List Nat)} {outs:List Out} {es:List Eff} {σ:SS} {st:St} {r:List SS},trS K na O l ds outs σ=some r→Ga C σ st→Args na zs st→SubL outs es (slotC C) →
    ∃ s,∃ σ' ∈ r,Ga C σ' s∧Args na zs s ∧ ∀ (N:Nat) (k:List Itm) (Q:Ex→St→Prop),Wk C.P X N k s Q→Wk C.P X N (.tr O l es :: k) st Q
  | [],ds,outs,es,σ,st,r,h,g,ha,hs=>by
    unfold trS at h
    split at h
    · rename_i hr
      cases h
      exact ⟨st,σ,List.mem_cons_self,g,ha,fun N k Q hw=>by rw [Wk_tr_nil]; exact ⟨raceS_ok hs hr,hw⟩⟩
    · cases h
  | o :: l,ds,outs,es,σ,st,r,h,g,ha,hs=>by
    unfold trS at h
    split at h
    · rename_i hna
      split at h
      · rename_i ps hps
        obtain ⟨p,hp,e,h1,h2,h3⟩:=stepL_get hK g hps
        obtain ⟨a,h4,h5⟩:=contL_mem h p hp
        obtain ⟨s,σ',h6,h7,h8,h9⟩:=trS_ok hK hP h4 (slim_ok h3 _ _) (args_put ha hna) (SubL_app hs h2)
        rw [hP] at h1
        exact ⟨s,σ',h5 _ h6,h7,h8,fun N k Q hw=>Wk_stepT h1 (h9 N k Q hw)⟩
      · cases h
    · cases h
theorem lt5 {a:AP} (h:decide (5 ≤ a.1)=false):a.1 < 5:=by
  have:¬ 5 ≤ a.1:=by simpa using h
  omega
theorem men_mono {K K':AP→Bool} (hk:∀ a,K' a=false→K a=false):∀ {t:Term},Term.men K' t=false→Term.men K t=false
  | (0,_),_=>rfl
  | (1,a),h=>hk a h
  | (k + 2,a),h=>hk a h
theorem ghK_g {m:Nat} {a:AP} (h:ghK m a=false):ghosts m a=false:=by
  unfold ghK at h
  rw [Bool.or_eq_false_iff] at h
  exact h.1
theorem ghK_5 {m:Nat} {a:AP} (h:ghK m a=false):a.1 < 5:=by
  unfold ghK at h
  rw [Bool.or_eq_false_iff] at h
  exact lt5 h.2
theorem run_ok {W:Ways} {C:Cx} {X:Orc} {N:Nat} {zs:Nat→A} (hN:1000000000000000 < N) (hK:∀ gs,GsB C gs→W.K.Of (C.g gs) X):∀ n:Nat,
    (∀ (ks:List SI) (bot:Bot) (σ:SS) (gs:Nat→Int) (st:St) (ks':List Itm) (Q:Ex→St→Prop),GsB C gs→run W n ks bot σ=true→SRs (slotC C) ks ks'→Ga (C.g gs) σ st→Args W.na zs st→BR C X N W.na zs W.fin bot gs Q→Wk C.P X N ks' st Q) ∧
    (∀ (x:Ex) (ks:List SI) (bot:Bot) (σ:SS) (gs:Nat→Int) (st:St) (ks':List Itm) (Q:Ex→St→Prop),GsB C gs→x ≠ .normal→unw W n x ks bot σ=true→SRs (slotC C) ks ks'→Ga (C.g gs) σ st→Args W.na zs st→BR C X N W.na zs W.fin bot gs Q→Wu C.P X N x ks' st Q):=by
  have hP:W.K.P=C.P:=(hK C.gs fun _ _=>rfl).p.symm
  have hE:W.K.E=C.E:=(hK C.gs fun _ _=>rfl).e.symm
  have hC:∀ gs,GsB C gs→(C.g gs).Ok:=fun gs h=>(hK gs h).ok
  intro n
  induction n with
  | zero =>
    exact ⟨fun ks bot σ gs st ks' Q _ h=>by simp [run] at h,fun x ks bot σ gs st ks' Q _ _ h=>by simp [unw] at h⟩
  | succ n ih =>
    obtain ⟨ih1,ih2⟩:=ih
    constructor
    · intro ks bot σ gs st ks' Q hgs h hs g ha hb
      unfold run at h
      split at h
      ·
        cases hs
        rw [Wk_nil]
        split at h
        · exact (hb σ gs st hgs h g ha).1
        · rename_i invs p q k b
          rw [Bool.and_eq_true] at h
          obtain ⟨Qb,k',h1,h2,h0,h3,h4⟩:=hb
          obtain ⟨inv,hinv,hsub⟩:=List.any_eq_true.1 h.1
          have g':∃ inv ∈ invs,Ga (C.g gs) inv st:=⟨inv,hinv,subSS_ok (hC gs hgs) g (by rw [hE] at hsub; exact hsub)⟩
          have hf:=g.nows
          have key:vI (C.g gs) st p - vI (C.g gs) st q < gs (b.dep + 1) - gs b.dep:=by
            have hfe:=h.2
            unfold fell at hfe
            simp only [Bool.or_eq_true,Bool.and_eq_true] at hfe
            have z1:tv (apv (C.g gs) st) (1,4,b.dep,0)=gs b.dep:=rfl
            have z2:tv (apv (C.g gs) st) (1,4,b.dep + 1,0)=gs (b.dep + 1):=rfl
            unfold vI
            rcases hfe with ⟨e1,e2⟩ | ⟨e1,e2⟩
            · have f1:=leI_ok hf e1
              have f2:=leI_ok hf e2
              simp only [z1,z2] at f1 f2
              omega
            · have f1:=leI_ok hf e1
              have f2:=leI_ok hf e2
              simp only [z1,z2] at f1 f2
              omega
          have hpos:=h0 gs st g'
          exact h3 st ⟨(vI (C.g gs) st p - vI (C.g gs) st q).toNat,by rw [Int.toNat_of_nonneg hpos]; exact key,gs,fun _ _=>rfl,⟨g',ha⟩,Int.toNat_of_nonneg hpos⟩
      · cases hs; rename_i h1 h2; cases h1; rw [Wk_blk]; exact ih1 _ _ _ _ _ _ _ hgs h h2 g ha hb
      · cases hs; rename_i h1 h2; cases h1; rw [Wk_scp]; exact ih1 _ _ _ _ _ _ _ hgs h h2 g ha hb
      · cases hs; rename_i h1 h2; cases h1; rw [Wk_skip]; exact ih1 _ _ _ _ _ _ _ hgs h h2 g ha hb
      · cases hs; rename_i h1 h2; cases h1; rw [Wk_label]; exact ih1 _ _ _ _ _ _ _ hgs h h2 g ha hb
      · cases hs; rename_i h1 h2; cases h1; rw [Wk_seq]; exact ih1 _ _ _ _ _ _ _ hgs h (.cons (.code _) (.cons (.code _) h2)) g ha hb
      · cases hs; rename_i h1 h2; cases h1; rw [Wk_block]; exact ih1 _ _ _ _ _ _ _ hgs h (.cons (.code _) (.cons (.blk _) h2)) g ha hb
      · cases hs; rename_i h1 h2; cases h1; rw [Wk_scope]; exact ih1 _ _ _ _ _ _ _ hgs h (.cons (.code _) (.cons .scp h2)) g ha hb
      · cases hs; rename_i h1 h2; cases h1; rw [Wk_exit]; exact ih2 _ _ _ _ _ _ _ _ hgs (by simp) h h2 g ha hb
      · cases hs; rename_i h1 h2; cases h1; rw [Wk_ret]; exact ih2 _ _ _ _ _ _ _ _ hgs (by simp) h h2 g ha hb
      · cases hs; rename_i h1 h2; cases h1
        split at h
        · rename_i l hl
          rw [Wk_region]
          obtain ⟨s,σ',hm,g',ha',hw⟩:=opsS_ok (hK gs hgs) hP hl (ddE_ok g _ _) ha
          obtain ⟨τ,hτ,gτ⟩:=merge_ok (hC gs hgs) ⟨σ',hm,g'⟩
          exact hw _ _ _ (ih1 _ _ _ _ _ _ _ hgs (by have:=List.all_eq_true.1 h τ (by rw [hE]; exact hτ); rwa [fSS_eq] at this) h2 gτ ha' hb)
        · cases h
      · cases hs; rename_i h1 h2; cases h1
        split at h
        · rename_i l hl
          rw [Wk_draw]
          obtain ⟨s,σ',hm,g',ha',hw⟩:=trS_ok (hK gs hgs) hP hl (ddE_ok g _ _) ha (es:=[]) trivial
          obtain ⟨τ,hτ,gτ⟩:=merge_ok (hC gs hgs) ⟨σ',hm,g'⟩
          exact hw _ _ _ (ih1 _ _ _ _ _ _ _ hgs (by have:=List.all_eq_true.1 h τ (by rw [hE]; exact hτ); rwa [fSS_eq] at this) h2 gτ ha' hb)
        · cases h
      ·
        cases hs; rename_i h1 h2; cases h1
        rename_i c a b k l
        rw [Bool.and_eq_true] at h
        obtain ⟨ht,h⟩:=h
        have hv:=isBoolT_ok (opTV_ok g c) ht
        have hb1:(st.ev c).bool? = some (boolA (st.ev c)):=by rw [hv]; rfl
        rw [Wk_cond,hb1]
        have yes:boolA (st.ev c)=true→Wk C.P X N (.code a :: l) st Q→(if some (boolA (st.ev c))=some true then Wk C.P X N (.code a :: l) st Q else if some (boolA (st.ev c))=some false then Wk C.P X N (.code b :: l) st Q else False):=fun e hw=>by rw [e]; exact hw
        have no:boolA (st.ev c)=false→Wk C.P X N (.code b :: l) st Q→(if some (boolA (st.ev c))=some true then Wk C.P X N (.code a :: l) st Q else if some (boolA (st.ev c))=some false then Wk C.P X N (.code b :: l) st Q else False):=fun e hw=>by rw [e]; exact hw
        split at h
        · rename_i hb0
          exact yes (opB_ok g hb0) (ih1 _ _ _ _ _ _ _ hgs h (.cons (.code _) h2) g ha hb)
        · rename_i hb0
          exact no (opB_ok g hb0) (ih1 _ _ _ _ _ _ _ hgs h (.cons (.code _) h2) g ha hb)
        · split at h
          · rename_i t hb0
            rw [Bool.and_eq_true,Bool.and_eq_true] at h
            obtain ⟨⟨hlt,h3⟩,h4⟩:=h
            have hlt:=of_decide_eq_true hlt
            have hev:st.ev (.tmp t)=st.t t:=ev_tmp g hlt
            rcases Bool.eq_false_or_eq_true (boolA (st.ev (.tmp t))) with hbv | hbv
            · rw [Bool.or_eq_true] at h3
              have gl:=learn_Ga g hlt (b:=true) (by rw [← hev]; exact hbv)
              rcases h3 with h3 | h3
              · exact (no_ok gl h3).elim
              · exact yes hbv (ih1 _ _ _ _ _ _ _ hgs h3 (.cons (.code _) h2) gl ha hb)
            · rw [Bool.or_eq_true] at h4
              have gl:=learn_Ga g hlt (b:=false) (by rw [← hev]; exact hbv)
              rcases h4 with h4 | h4
              · exact (no_ok gl h4).elim
              · exact no hbv (ih1 _ _ _ _ _ _ _ hgs h4 (.cons (.code _) h2) gl ha hb)
          · cases h
      ·
        cases hs; rename_i h1 h2; cases h1
        rename_i c k l
        split at h
        · rename_i la hla
          simp only [Bool.and_eq_true] at h
          obtain ⟨⟨⟨⟨⟨⟨⟨e0,e1⟩,e2⟩,e3,e4⟩,e5⟩,e6⟩,e7⟩,e8⟩:=h
          have e0:=of_decide_eq_true e0
          obtain ⟨inv0,hinv0,e1⟩:=List.any_eq_true.1 e1
          have ginv:∃ inv ∈ mkInvs la bot.dep σ,Ga (C.g gs) inv st:=⟨inv0,hinv0,subSS_ok (hC gs hgs) g (by rw [hE] at e1; exact e1)⟩
          have pos:∀ gs s,(∃ inv ∈ mkInvs la bot.dep σ,Ga (C.g gs) inv s)→0 ≤ vI (C.g gs) s la.p - vI (C.g gs) s la.q:=fun gs s ⟨inv,hi,g'⟩=>by
            have:=leI_ok g'.nows (List.all_eq_true.1 e5 inv hi)
            unfold vI; omega
          have bnd:vI (C.g gs) st la.p - vI (C.g gs) st la.q ≤ 1000000000000000:=by
            have f1:=leI_ok g.nows e6
            have f2:=leI_ok g.nows e7
            have z0:tv (apv (C.g gs) st) zT=0:=rfl
            simp only [z0] at f1 f2
            unfold vI; omega
          have p0:=pos gs st ginv
          refine Wk_loopd (fun i s=>Iv C W.na zs (mkInvs la bot.dep σ) la.p la.q bot.dep gs i s) (vI (C.g gs) st la.p - vI (C.g gs) st la.q).toNat (by omega) ⟨gs,fun _ _=>rfl,⟨ginv,ha⟩,Int.toNat_of_nonneg p0⟩ ?_
          rintro j s hj ⟨g1,ge,⟨⟨inv,hinv,gi⟩,ga⟩,hij⟩
          have e2:=List.all_eq_true.1 e2 inv hinv
          have e8:=List.all_eq_true.1 e8 inv hinv
          let g2:Nat→Int:=fun i=>if i=bot.dep then vI (C.g g1) s la.q else if i=bot.dep + 1 then vI (C.g g1) s la.p else g1 i
          have g2q:g2 bot.dep=vI (C.g g1) s la.q:=if_pos rfl
          have g2p:g2 (bot.dep + 1)=vI (C.g g1) s la.p:=by
            show (if bot.dep + 1=bot.dep then _ else _)=_
            rw [if_neg (by omega),if_pos rfl]
          have g12:GsEq bot.dep g1 g2:=fun i hi=>by
            show g1 i=if i=bot.dep then _ else _
            rw [if_neg (by omega),if_neg (by omega)]
          have gg:GsEq bot.dep gs g2:=fun i hi=>by rw [ge i hi]; exact g12 i hi
          have same:∀ t:Term × Int,Term.men (ghosts bot.dep) t.1=false→vI (C.g g2) s t=vI (C.g g1) s t:=fun t ht=>by
            unfold vI
            rw [tv_agree (fun a ha=>apv_g g12 a ha) ht]
          have e3:Term.men (ghK bot.dep) la.p.1=false:=by simpa using e3
          have e4:Term.men (ghK bot.dep) la.q.1=false:=by simpa using e4
          have sq:=same la.q (men_mono (fun _=>ghK_g) e4)
          have sp:=same la.p (men_mono (fun _=>ghK_g) e3)
          have gin2:Ga (C.g g2) inv s:=by
            refine ⟨gi.d,gi.n,fun p hp=>TV.ok_g (gi.sl p hp),fun p hp=>?_,fun v hv f hf=>?_,gi.low,gi.al,gi.pk,gi.wh⟩
            · obtain ⟨ver,cs,q1,q2⟩:=gi.hp p hp
              exact ⟨ver,cs,q1,TV.oks_g q2⟩
            · have hm:=List.all_eq_true.1 e2 f hf
              have h1:=gi.nows f hf
              have h2:=Fact.ok_agree (K:=ghosts bot.dep) (w:=apv (C.g g2) s) (fun a ha=>apv_g g12 a ha) (by simpa using hm) h1
              have h3:∀ w,Now (C.g g1) s w→Fact.ok w f:=fun w hw=>gi.fs w hw f hf
              let w:AP→A:=fun a=>if ghosts bot.dep a=true∧a.1 < 5 then apv (C.g g1) s a else v a
              have hw:Now (C.g g1) s w:=fun a ha=>by
                show (if _ then _ else _)=_
                split
                · rfl
                · rename_i hn
                  have hgf:ghosts bot.dep a=false:=by
                    cases hx:ghosts bot.dep a with
                    | false=>rfl
                    | true=>exact absurd ⟨hx,ha⟩ hn
                  rw [hv a ha]
                  exact (apv_g g12 a hgf).symm
              refine Fact.ok_agree (K:=ghosts bot.dep) (fun a ha=>?_) (by simpa using hm) (h3 w hw)
              show (if _ then _ else _)=_
              rw [if_neg (by rw [ha]; simp)]
          have gw:Ga (C.g g2) (withG la bot.dep inv) s:=by
            refine ⟨gin2.d,gin2.n,gin2.sl,gin2.hp,fun v hv=>FOkA ?_ (gin2.fs v hv),gin2.low,gin2.al,gin2.pk,gin2.wh⟩
            have tvn:∀ t:Term × Int,Term.men (ghK bot.dep) t.1=false→tv v t.1 + t.2=vI (C.g g2) s t:=fun t ht=>by
              unfold vI
              rw [tv_agree (K:=ghK bot.dep) (v:=v) (w:=apv (C.g g2) s) (fun a ha=>hv a (ghK_5 ha)) ht]
            have tq:=tvn la.q e4
            have tp:=tvn la.p e3
            have zq:tv v (1,4,bot.dep,0)=g2 bot.dep:=by
              show intA (v (4,bot.dep,0))=_
              rw [hv _ (by show 4 < 5; decide)]; rfl
            have zp:tv v (1,4,bot.dep + 1,0)=g2 (bot.dep + 1):=by
              show intA (v (4,bot.dep + 1,0))=_
              rw [hv _ (by show 4 < 5; decide)]; rfl
            intro f hf
            simp only [List.mem_cons,List.not_mem_nil,or_false] at hf
            rcases hf with rfl | rfl | rfl | rfl
            · exact leF_ok.2 (by simp only [zq,g2q]; omega)
            · exact leF_ok.2 (by simp only [zq,g2q]; omega)
            · exact leF_ok.2 (by simp only [zp,g2p]; omega)
            · exact leF_ok.2 (by simp only [zp,g2p]; omega)
          refine Wk_mono (ih1 _ _ _ g2 _ _ (fun x s'=>match x with | .normal=>∃ i,i < j∧Iv C W.na zs (mkInvs la bot.dep σ) la.p la.q bot.dep gs i s' | x=>Wu C.P X N x l s' Q) (gg.bot hgs) e8 (.cons (.code _) .nil) gw ga ⟨Q,l,BR_mono hb gg,h2,pos,?_,?_⟩) fun x s' hq=>hq
          · rintro s' ⟨i,hi,g3,k1,k2,k3⟩
            refine ⟨i,?_,g3,fun i hi=>by rw [gg i hi]; exact k1 i hi,k2,k3⟩
            rw [g2q,g2p,← hij] at hi
            omega
          · intro x s' hx hw
            cases x with
            | normal=>exact absurd rfl hx
            | exit i=>exact hw
            | goto i=>exact hw
            | ret=>exact hw
        · cases h
      · cases h
    · intro x ks bot σ gs st ks' Q hgs hx h hs g ha hb
      unfold unw at h
      split at h
      · cases hs
        rw [Wu_nil]
        split at h
        · split at h
          · exact (hb σ gs st hgs h g ha).2
          · cases h
        · rename_i inv p q k b
          obtain ⟨Qb,k',h1,h2,h0,h3,h4⟩:=hb
          exact h4 x st hx (ih2 _ _ _ _ _ _ _ _ hgs hx h h2 g ha h1)
      · cases hs; rename_i h1 h2; cases h1
        split at h
        · rename_i i
          rw [Wu_blk]
          split at h
          · rename_i hij
            rw [if_pos (eq_of_beq hij)]
            exact ih1 _ _ _ _ _ _ _ hgs h h2 g ha hb
          · rename_i hij
            rw [if_neg (by simpa using hij)]
            exact ih2 _ _ _ _ _ _ _ _ hgs hx h h2 g ha hb
        · rw [Wu_ret]; exact ih2 _ _ _ _ _ _ _ _ hgs hx h h2 g ha hb
        · cases h
      · cases hs; rename_i h1 h2; cases h1
        split at h
        · rw [Wu_scp]; exact ih2 _ _ _ _ _ _ _ _ hgs hx h h2 g ha hb
        · rw [Wu_scpr]; exact ih2 _ _ _ _ _ _ _ _ hgs hx h h2 g ha hb
        · cases h
      · cases hs; rename_i h1 h2; cases h1
        rw [Wu_code]; exact ih2 _ _ _ _ _ _ _ _ hgs hx h h2 g ha hb
end
end
section
noncomputable section
def lstOk (E:Nat→Option (List Ty)) (t:TV) (e:Ty):Bool :=
  match t with
  | .nilv=>true
  | .own p e' | .rl p e'=>p.1 && Ty.subE E e' e && e'.sz E == e.sz E
  | .c (.lst e' _)=>Ty.subE E e' e
  | _=>false
abbrev gN (k c b:Nat):Nat:=2000 + (128 * k + 2 * c + b)
theorem gN_0 (h:Id→O) (π:Nat→Id) {k c:Nat} (hc:c < 64):iniG h π (128 * k + 2 * c + 0)=intA (boxCell (h (π k)) c):=by
  unfold iniG
  rw [if_pos (by omega),show (128 * k + 2 * c + 0) / 128=k by omega,show (128 * k + 2 * c + 0) % 128 / 2=c by omega]
theorem gN_1 (h:Id→O) (π:Nat→Id) {k c:Nat} (hc:c < 64):iniG h π (128 * k + 2 * c + 1)=lenA (boxCell (h (π k)) c):=by
  unfold iniG
  rw [if_neg (by omega),show (128 * k + 2 * c + 1) / 128=k by omega,show (128 * k + 2 * c + 1) % 128 / 2=c by omega]
def rhoF (na np:Nat) (wl:List Nat) (r:Option Nat) (g:Nat→Option Nat) (a:AP):AP :=
  match a.1 with
  | 0=>if a.2.1 < na then (0,a.2.1,0) else (8,0,0)
  | 1=>if a.2.1 < na then (1,a.2.1,a.2.2) else (8,0,0)
  | 3=>if a.2.1 < np && !wl.contains a.2.1 then (3,a.2.1,a.2.2) else (8,0,0)
  | 4=>if 3000 ≤ a.2.1 then (4,a.2.1,0) else (8,0,0)
  | 5=>(match r with | some r=>(0,r,0) | none=>(8,0,0))
  | 6=>(match r with | some r=>(1,r,a.2.1) | none=>(match g a.2.1 with | some s=>(0,s,0) | none=>(8,0,0)))
  | 7=>if a.2.2 < np then (3,a.2.2,a.2.1) else (8,0,0)
  | _=>(8,0,0)
def wasN (wl:List Nat) (a:AP):Bool:=Nat.beq a.1 3 && (wl.contains a.2.1 && (decide (a.2.1 ≤ 6) && decide (a.2.2 < 64)))
def tauF (wl:List Nat) (ρ:AP→AP) (t:Term):Term × Int :=
  match t with
  | (0,_)=>(zT,0)
  | (1,a)=>if wasN wl a then ((1,4,gN a.2.1 a.2.2 0,0),0) else ((1,ρ a),0)
  | (3,_)=>((3,8,0,0),0)
  | (_,a)=>if wasN wl a then ((1,4,gN a.2.1 a.2.2 1,0),0) else ((2,ρ a),0)
def postB (wl:List Nat) (ρ:AP→AP) (fs post:List Fact):Bool:=post.all fun f=>!(f.inst (tauF wl ρ) ρ).men isBad && has fs (f.inst (tauF wl ρ) ρ)
theorem postB_ok {wl:List Nat} {ρ:AP→AP} {vc v:AP→A} (hk:∀ a,isBad (ρ a)=false→Me1 (vc a) (v (ρ a))) (hw:∀ k c,k ≤ 6→c < 64→intA (vc (3,k,c))=intA (v (4,gN k c 0,0))∧lenA (vc (3,k,c))=intA (v (4,gN k c 1,0))) {fs post:List Fact} (hf:FOk v fs) (h:postB wl ρ fs post=true):FOk vc post:=by
  have hw':∀ a,wasN wl a=true→intA (vc a)=intA (v (4,gN a.2.1 a.2.2 0,0))∧lenA (vc a)=intA (v (4,gN a.2.1 a.2.2 1,0)):=by
    rintro ⟨k,i,c⟩ ha
    unfold wasN at ha
    simp only [Bool.and_eq_true,decide_eq_true_eq] at ha
    obtain ⟨h1,_,h2,h3⟩:=ha
    have:k=3:=Nat.eq_of_beq_eq_true h1
    subst this
    exact hw i c h2 h3
  have two:∀ (k:Nat) (a:AP),tauF wl ρ (k,a)=(if wasN wl a then ((1,4,gN a.2.1 a.2.2 1,0),0) else ((2,ρ a),0))→tv vc (k,a)=lenA (vc a)→Term.men isBad (tauF wl ρ (k,a)).1=false→tv vc (k,a)=tv v (tauF wl ρ (k,a)).1 + (tauF wl ρ (k,a)).2:=by
    intro k a he hv hb
    rw [he] at hb ⊢
    rw [hv]
    split at hb
    · rename_i hn
      rw [if_pos hn,(hw' a hn).2]
      show _=intA (v (4,gN a.2.1 a.2.2 1,0)) + 0
      omega
    · rename_i hn
      rw [if_neg hn]
      have:=(hk a hb).l
      show lenA (vc a)=lenA (v (ρ a)) + 0
      omega
  have told:Told (tauF wl ρ) ρ vc v:=by
    refine ⟨?_,fun a ha=>⟨(hk a ha).b,(hk a ha).i⟩⟩
    rintro ⟨k,a⟩ hb
    match k with
    | 0=>rfl
    | 1 =>
      simp only [tauF] at hb ⊢
      split at hb
      · rename_i hn
        rw [if_pos hn]
        show intA (vc a)=intA (v (4,gN a.2.1 a.2.2 0,0)) + 0
        rw [(hw' a hn).1]; omega
      · rename_i hn
        rw [if_neg hn]
        have:=(hk a hb).i
        show intA (vc a)=intA (v (ρ a)) + 0
        omega
    | 2=>exact two 2 a rfl rfl hb
    | 3=>simp [tauF,Term.men,isBad] at hb
    | k + 4=>exact two (k + 4) a rfl rfl hb
  intro f hm
  have:=List.all_eq_true.1 h f hm
  rw [Bool.and_eq_true] at this
  exact (Fact.inst_ok told (by simpa using this.1)).1 (has_ok hf this.2)
def agOk (E:Nat→Option (List Ty)) (σ:SS) (r:Nat) (t:Ty):Bool:=match opTV σ (.tmp r),agTy E t with | .ag l,some us=>(l.flatMap ownPl1).all (fun p=>p.1) && agFit E σ.fs r 0 l us | _,_=>false
theorem agOk_ok {C:Cx} (hC:C.Ok) {σ:SS} {st:St} (g:Ga C σ st) {r:Nat} {t:Ty} (hr:r < σ.n) (h:agOk C.E σ r t=true):(st.t r).isAgg=true ∧ ∃ x ids,fzVal st.h (st.t r)=some (x,ids)∧(∀ i ∈ ids,i.1=C.d)∧ShT C.R t x∧Me (.d x) (st.t r):=by
  unfold agOk at h
  split at h
  · rename_i l us hl hu
    rw [Bool.and_eq_true] at h
    have ha:=opTV_ok g (.tmp r)
    rw [hl,ev_tmp g hr] at ha
    have hag:(st.t r).isAgg=true:=by simp only [TV.ok] at ha; exact ha.1
    obtain ⟨x,ids,k1,_,k3,k4,k5,k6⟩:=agVal_ok hC g.nows' (r:=r) ha (fun c=>by
      show (st.t r).parts.getD c .any=_
      cases hst:st.t r with
      | d y=>rfl
      | agg cs=>rfl
      | _=>rw [hst] at hag; cases hag) hu h.2
    refine ⟨hag,x,ids,k1,fun i hi=>?_,k4,⟨k5,k6⟩⟩
    obtain ⟨p,hp,hp1,rfl⟩:=k3 i hi
    obtain ⟨b,j⟩:=p
    have hb:b=true:=hp1
    subst hb; rfl
  · cases h
theorem resR_agg {k:Bool} {d:Nat} {h:Id→O} {a:A} (ha:a.isAgg=true):resR k d h [a]=(fzVal h a).map fun p=>(.val p.1,p.2):=by
  cases a <;> first | rfl | cases ha
def tupB (E:Nat→Option (List Ty)) (pl:Bool) (σ:SS):List Nat→List Ty→Bool
  | [],[]=>true
  | r :: l,t :: ts=>decide (r < σ.n) && (TV.sub E (opTV σ (.tmp r)) (.c t) || (pl && ((match t with | .lst e b=>lstOk E (opTV σ (.tmp r)) e && leI σ.fs ((2,0,r,0),0) (zT,b) 0 | _=>false) || agOk E σ r t))) && tupB E pl σ l ts
  | _,_=>false
mutual
def parsT:TV→List Nat
  | .bp p _=>if p.1 then [] else [p.2]
  | .clo _ l=>parsTs l
  | _=>[]
def parsTs:List TV→List Nat
  | []=>[]
  | t :: l=>parsT t ++ parsTs l
end
def wsT (np:Nat):TV→Bool
  | .c _ | .nilv | .any | .was _ _=>true
  | .own p _ | .rl p _=>!p.1 && lowP np p
  | _=>false
def wsB (E:Nat→Option (List Ty)) (c:Ctr) (σ:SS):Bool:=c.ws.all fun w =>
  (match σ.hp.find? fun q=>q.1 == (false,w.1) with | some q=>TV.subs E q.2 w.2 | none=>false) && (w.2.all (wsT c.pars.length) && ((List.range c.args.length).any fun i=>match c.args[i]? with | some t=>(parsT t).contains w.1 && (decide (i < σ.n) && TV.sub E (opTV σ (.tmp i)) t) | none=>false))
def cellsS (P:Program) (E:Nat→Option (List Ty)) (n0:Nat):List ResultVar→Nat→SS→Option (SS × List Nat)
  | [],_,σ=>some (σ,[])
  | .tmp t :: l,k,σ=>if t < n0 then (cellsS P E n0 l k σ).map fun p=>(p.1,t :: p.2) else none
  | .cell a t :: l,k,σ=>if a < n0 then (match sLoad P E σ t (.tmp a) with
    | some o=>(match o.act with
      | .wr u cp new=>(cellsS P E n0 l (k + 1) (σ.wr (some k) u cp new)).map fun p=>(p.1,k :: p.2)
      | _=>none)
    | none=>none) else none
theorem resA_congr {P:Program} {st st':St} (hn:st'.n=st.n) (hh:st'.h=st.h) (ht:∀ i,i < st.n→st'.t i=st.t i) (r:ResultVar):resA P st' r=resA P st r:=by
  cases r with
  | tmp t =>
    simp only [resA,hn]
    split
    · rename_i h; rw [ht t h]
    · rfl
  | cell a t =>
    simp only [resA,hn,hh]
    split
    · rename_i h; rw [ht a h]
    · rfl
theorem resAs_congr {P:Program} {st st':St} (hn:st'.n=st.n) (hh:st'.h=st.h) (ht:∀ i,i < st.n→st'.t i=st.t i):∀ l:List ResultVar,resAs P st' l=resAs P st l
  | []=>rfl
  | r :: l=>by simp only [resAs,resA_congr hn hh ht r,resAs_congr hn hh ht l]
theorem cellsS_ok {C:Cx} (hC:C.Ok) {n0:Nat}:∀ {rs:List ResultVar} {k:Nat} {σ σ':SS} {ts:List Nat} {st:St},cellsS C.P C.E n0 rs k σ=some (σ',ts)→n0 ≤ k→k + rs.length ≤ σ.n→Ga C σ st →
    ∃ st',Ga C σ' st' ∧ st'.h=st.h∧st'.d=st.d∧st'.al=st.al∧(∀ i,i < k→st'.t i=st.t i)∧resAs C.P { st with n:=n0 } rs=some (ts.map st'.t)
  | [],k,σ,σ',ts,st,h,_,_,g=>by
    simp only [cellsS,Option.some.injEq,Prod.mk.injEq] at h
    obtain ⟨rfl,rfl⟩:=h
    exact ⟨st,g,rfl,rfl,rfl,fun _ _=>rfl,rfl⟩
  | .tmp t :: l,k,σ,σ',ts,st,h,hk,hn,g=>by
    unfold cellsS at h
    split at h
    · rename_i ht
      obtain ⟨⟨σ2,ts2⟩,h1,h2⟩:=Option.map_eq_some_iff.1 h
      cases h2
      rw [List.length_cons] at hn
      obtain ⟨st',g',e1,e2,e3,e4,e5⟩:=cellsS_ok hC h1 hk (by omega) g
      refine ⟨st',g',e1,e2,e3,e4,?_⟩
      unfold resAs
      rw [e5]
      have:resA C.P { st with n:=n0 } (.tmp t)=some (st.t t):=by
        show (if t < n0 then _ else _)=_
        rw [if_pos ht]
      rw [this,List.map_cons,e4 t (Nat.lt_of_lt_of_le ht hk)]
    · cases h
  | .cell a t :: l,k,σ,σ',ts,st,h,hk,hn,g=>by
    unfold cellsS at h
    rw [List.length_cons] at hn
    split at h
    · rename_i ha
      split at h
      · rename_i o ho
        split at h
        · rename_i u cp new hact
          obtain ⟨⟨σ2,ts2⟩,h1,h2⟩:=Option.map_eq_some_iff.1 h
          cases h2
          have hok:=sLoad_ok (X:=fun _ _ _ _=>none) hC g (o:=⟨some k,.load t (.tmp a),t, "", #[],none⟩) rfl ho
          obtain ⟨e,q1,_,_,q4⟩:=hok (σ.wr (some k) u cp new) (by rw [hact]; rfl)
          have q1:loadE C.P st.h t (st.ev (.tmp a))=some e:=q1
          have hw:e.wr=[]:=by
            have key:∀ x:A,loadE C.P st.h t x=some e→e.wr=[]:=by
              intro x hx
              cases x <;> simp only [loadE] at hx <;> try cases hx
              · split at hx
                · split at hx
                  · obtain ⟨y,_,rfl⟩:=Option.map_eq_some_iff.1 hx; rfl
                  · cases hx
                · cases hx
              · split at hx
                · split at hx
                  · obtain ⟨z,_,hz⟩:=Option.bind_eq_some_iff.1 hx
                    obtain ⟨y,_,rfl⟩:=Option.map_eq_some_iff.1 hz; rfl
                  · cases hx
                · cases hx
              · obtain ⟨z,_,hz⟩:=Option.bind_eq_some_iff.1 hx
                obtain ⟨y,_,rfl⟩:=Option.map_eq_some_iff.1 hz; rfl
            exact key _ q1
          have hev:st.ev (.tmp a)=st.t a:=by
            show (if a < st.n then _ else _)=_
            rw [if_pos (Nat.lt_of_lt_of_le ha (by have:=g.n; omega))]
          rw [hev] at q1
          have hh:(st.put (some k) e).h=st.h:=by
            show e.out st.h=st.h
            unfold Eff.out
            rw [hw]; rfl
          have htk:(st.put (some k) e).t k=e.v:=by
            show upd st.t k e.v k=_
            rw [upd_at,if_pos rfl]
          have hto:∀ i,i ≠ k→(st.put (some k) e).t i=st.t i:=fun i hi=>by
            show upd st.t k e.v i=_
            rw [upd_at,if_neg hi]
          obtain ⟨st',g',e1,e2,e3,e4,e5⟩:=cellsS_ok hC h1 (by omega) (by show k + 1 + l.length ≤ σ.n; omega) q4
          refine ⟨st',g',by rw [e1,hh],by rw [e2]; rfl,by rw [e3]; rfl,fun i hi=>by rw [e4 i (by omega),hto i (by omega)],?_⟩
          unfold resAs
          have h6:resAs C.P { st with n:=n0 } l=resAs C.P { st.put (some k) e with n:=n0 } l:=(resAs_congr (st:={ st with n:=n0 }) (st':={ st.put (some k) e with n:=n0 }) rfl hh (fun i hi=>hto i (by have:i < n0:=hi; omega)) l).symm
          rw [h6,e5]
          have:resA C.P { st with n:=n0 } (.cell a t)=some e.v:=by
            show (if a < n0 then (loadE C.P st.h t (st.t a)).map (·.v) else none)=_
            rw [if_pos ha,q1]; rfl
          rw [this,List.map_cons,e4 k (by omega),htk]
        · cases h
      · cases h
    · cases h
def finR (K:SK) (nm:String) (c:Ctr) (ts:List Nat) (σ:SS):Bool :=
  match c.res,ts with
  | .val t,[r]=>decide (r < σ.n) && (TV.sub K.E (opTV σ (.tmp r)) (.c t) || agOk K.E σ r t) && postB K.wl (rhoF c.args.length c.pars.length K.wl (some r) fun _=>none) σ.fs c.post
  | .lst e b,[r]=>decide (r < σ.n) && lstOk K.E (opTV σ (.tmp r)) e && leI σ.fs ((2,0,r,0),0) (zT,b) 0 && postB K.wl (rhoF c.args.length c.pars.length K.wl (some r) fun _=>none) σ.fs c.post
  | .tup ts,r :: s :: l=>!keepT nm && tupB K.E (c.args.all plainArg) σ (r :: s :: l) ts && postB K.wl (rhoF c.args.length c.pars.length K.wl none fun i=>(r :: s :: l)[i]?) σ.fs c.post
  | .tup ts,[]=>ts.isEmpty && postB K.wl (rhoF c.args.length c.pars.length K.wl none fun _=>none) σ.fs c.post
  | _,_=>false
def finB (K:SK) (fn:Func) (c:Ctr) (σ:SS):Bool :=
  match cellsS K.P K.E σ.n fn.results.toList σ.n { σ with n:=σ.n + fn.results.toList.length } with
  | some (σ',ts)=>decide (c.args.length ≤ σ.n) && (finR K fn.name c ts σ' && wsB K.E c σ')
  | none=>false
theorem Ga.more {C:Cx} {σ:SS} {st:St} (g:Ga C σ st) (m:Nat):Ga C { σ with n:=σ.n + m } { st with n:=st.n + m } :=
  ⟨g.d,by show st.n + m=σ.n + m; rw [g.n],g.sl,g.hp,fun v hv=>g.fs v fun x hx=>by
    rw [hv x hx]
    obtain ⟨k,i,c⟩:=x
    match k with
    | 0=>rfl
    | 1=>rfl
    | 2=>rfl
    | 3=>rfl
    | 4=>rfl
    | k + 5=>rfl,g.low,g.al,g.pk,g.wh⟩
def startFs (E:Nat→Option (List Ty)):Nat→List TV→List Fact
  | _,[]=>[]
  | i,t :: l=>(match t with
    | .c (.st ts)=>tyBs (fun c=>(1,i,c)) 0 ts
    | .c (.nm j)=>nfG (fun c=>(1,i,c)) j ++ (match E j with | some ts=>tyBs (fun c=>(1,i,c)) 0 ts | none=>[])
    | .c t=>tyB (0,i,0) t
    | _=>[]) ++ startFs E (i + 1) l
def parF1 (k:Nat):Nat→List TV→List Fact
  | _,[]=>[]
  | c,t :: l=>(match t with | .c u=>tyB (3,k,c) u | _=>[]) ++ parF1 k (c + 1) l
def parFs:Nat→List (List TV)→List Fact
  | _,[]=>[]
  | k,ts :: l=>parF1 k 0 ts ++ parFs (k + 1) l
def iniF1 (k:Nat):Nat→List TV→List Fact
  | _,[]=>[]
  | c,t :: l=>(if decide (k ≤ 6) && decide (c < 64) then (match t with
    | .c (.int _)=>[.f (.le (1,4,gN k c 0,0) (1,3,k,c) 0),.f (.le (1,3,k,c) (1,4,gN k c 0,0) 0)]
    | .c (.lst _ _) | .c (.str _) | .nilv | .own _ _ | .rl _ _=>[.f (.le (1,4,gN k c 1,0) (2,3,k,c) 0),.f (.le (2,3,k,c) (1,4,gN k c 1,0) 0)]
    | _=>[]) else []) ++ iniF1 k (c + 1) l
def iniFs (c:Ctr):List Fact:=c.ws.flatMap fun w=>match c.pars[w.1]? with | some ts=>iniF1 w.1 0 ts | none=>[]
def idx {α:Type}:Nat→List α→List (Nat × α)
  | _,[]=>[]
  | i,x :: l=>(i,x) :: idx (i + 1) l
def start (E:Nat→Option (List Ty)) (fn:Func) (c:Ctr):SS :=
  { n:=fn.ntmps,sl:=idx 0 c.args,hp:=(idx 0 c.pars).map fun p=>((false,p.1),p.2),fs:=startFs E 0 c.args ++ (parFs 0 c.pars ++ (iniFs c ++ c.pre)) }
theorem idx_mem {α:Type}:∀ {l:List α} {k i:Nat} {x:α},(i,x) ∈ idx k l→k ≤ i∧l[i - k]? = some x
  | [],k,i,x,h=>by cases h
  | y :: l,k,i,x,h=>by
    rcases List.mem_cons.1 h with h | h
    · cases h; simp
    · obtain ⟨h1,h2⟩:=idx_mem h
      refine ⟨by omega,?_⟩
      rw [show i - k=(i - (k + 1)) + 1 by omega]
      simpa using h2
theorem mem_reachS {h:Id→O}:∀ (n:Nat) {l:List Id} {x:Id},x ∈ l→x ∈ reachIds h n l
  | n,[],x,hx=>by cases hx
  | 0,a :: l,x,hx=>hx
  | n + 1,a :: l,x,hx=>List.mem_append_left _ (List.mem_append_left _ hx)
mutual
theorem parsT_ok {C:Cx} {h:Id→O}:∀ {t:TV} {a:A},TV.ok C h t a→∀ k ∈ parsT t,C.π k ∈ idsA a
  | .bp p off,a,hx,k,hk=>by
    simp only [TV.ok] at hx
    obtain ⟨ver,cs,rfl,_⟩:=hx
    obtain ⟨b,j⟩:=p
    cases b with
    | true=>simp [parsT] at hk
    | false =>
      have:k=j:=by simpa [parsT] using hk
      subst this
      simp [idsA,Cx.at]
  | .clo f l,a,hx,k,hk=>by
    simp only [TV.ok] at hx
    obtain ⟨zs,rfl,hx⟩:=hx
    simp only [idsA]
    exact parsTs_ok hx k (by simpa [parsT] using hk)
  | .any,a,hx,k,hk=>by simp [parsT] at hk
  | .und,a,hx,k,hk=>by simp [parsT] at hk
  | .mp _ _ _,a,hx,k,hk=>by simp [parsT] at hk
  | .was _ _,a,hx,k,hk=>by simp [parsT] at hk
  | .dead,a,hx,k,hk=>by simp [parsT] at hk
  | .c _,a,hx,k,hk=>by simp [parsT] at hk
  | .nilv,a,hx,k,hk=>by simp [parsT] at hk
  | .own _ _,a,hx,k,hk=>by simp [parsT] at hk
  | .rl _ _,a,hx,k,hk=>by simp [parsT] at hk
  | .tup _,a,hx,k,hk=>by simp [parsT] at hk
  | .ep _ _,a,hx,k,hk=>by simp [parsT] at hk
  | .ag _,a,hx,k,hk=>by simp [parsT] at hk
  | .el _ _ _,a,hx,k,hk=>by simp [parsT] at hk
theorem parsTs_ok {C:Cx} {h:Id→O}:∀ {ts:List TV} {zs:List A},TV.oks C h ts zs→∀ k ∈ parsTs ts,C.π k ∈ idsL zs
  | [],zs,hx,k,hk=>by simp [parsTs] at hk
  | t :: ts,zs,hx,k,hk=>by
    simp only [TV.oks] at hx
    obtain ⟨a,l,rfl,h2,h3⟩:=hx
    simp only [parsTs,List.mem_append] at hk
    simp only [idsL,List.mem_append]
    rcases hk with hk | hk
    · exact Or.inl (parsT_ok h2 k hk)
    · exact Or.inr (parsTs_ok h3 k hk)
end
theorem mem_adLI {i:Id}:∀ {cs:List A} {k off:Nat},adoptable cs[off]? = true→adoptId i (k + off) ∈ adL i k cs
  | [],k,off,h=>by simp [adoptable] at h
  | c :: cs,k,0,h=>by
    simp only [List.getElem?_cons_zero] at h
    unfold adL
    rw [if_pos h]
    exact List.mem_cons_self
  | c :: cs,k,off + 1,h=>by
    have:=mem_adLI (i:=i) (cs:=cs) (k:=k + 1) (off:=off) (by simpa using h)
    rw [show k + 1 + off=k + (off + 1) by omega] at this
    unfold adL
    split
    · exact List.mem_cons_of_mem _ this
    · exact this
theorem mem_reachA {h:Id→O} {l:List Id} {i:Id} (hi:i ∈ l) {ver:Nat} {cs:List A} {off:Nat} (hb:h i = .box ver cs) (ha:adoptable cs[off]? = true):adoptId i off ∈ reachIds h 3 l:=by
  have key:∀ (m:List Id),i ∈ m→adoptId i off ∈ adH h m:=by
    intro m
    induction m with
    | nil=>intro h; cases h
    | cons j m ih =>
      intro hm
      show _ ∈ adIds j (h j) ++ adH h m
      rcases List.mem_cons.1 hm with rfl | hm
      · refine List.mem_append_left _ ?_
        rw [hb]
        have:=mem_adLI (i:=i) (k:=0) ha
        rw [Nat.zero_add] at this
        exact this
      · exact List.mem_append_right _ (ih hm)
  cases l with
  | nil=>cases hi
  | cons a l=>exact List.mem_append_left _ (List.mem_append_right _ (key _ hi))
theorem start_ok {C:Cx} (hC:C.Ok) {fn:Func} {c:Ctr} {d:Nat} {h:Id→O} {zs:List A} (hd:C.d=d) (hh:C.h0=h) (ha:TV.oks C h c.args zs) (hp:∀ k ts,c.pars[k]? = some ts→∃ ver cs,h (C.π k) = .box ver cs∧TV.oks C h ts cs)
    (hpre:∀ v,Now C (st0 d h zs) v→FOk v c.pre) (hnp:C.np=c.pars.length) (hal:∀ k,k < C.np→C.π k ∈ idsL zs) (hwl:C.wl=c.ws.map (·.1)) (had:∀ p ∈ C.ads,p.1 < C.np ∧ ∃ ver cs,h (C.π p.1) = .box ver cs∧adoptable cs[p.2]? = true) (hgn:∀ k c,k ≤ 6→c < 64→C.gs (gN k c 0)=intA (boxCell (h (C.π k)) c)∧C.gs (gN k c 1)=lenA (boxCell (h (C.π k)) c)):Ga C (start C.E fn c) (initSt fn d h zs):=by
  have hget:∀ i t,c.args[i]? = some t→TV.ok C h t (zs.getD i (.d (.s undef))):=fun i t ht=>by
    obtain ⟨a,h1,h2⟩:=oks_get ha ht
    rw [List.getD_eq_getElem?_getD,h1]; exact h2
  have hpk:∀ p ∈ (start C.E fn c).hp,p.1.1=true ∨ p.1.2 < C.np:=by
    intro p hm
    obtain ⟨⟨k,ts⟩,hm2,rfl⟩:=List.mem_map.1 hm
    obtain ⟨_,h2⟩:=idx_mem hm2
    right
    rw [hnp]
    have:k < c.pars.length:=(List.getElem?_eq_some_iff.1 (by simpa using h2)).1
    exact this
  refine ⟨hd.symm,rfl,?_,?_,?_,?_,⟨fun k hk=>mem_reachS 3 (hal k hk),fun p hp=>?_⟩,hpk,fun p hp=>by cases hp⟩
  · rintro ⟨i,t⟩ hm
    obtain ⟨_,h2⟩:=idx_mem hm
    exact hget i t (by simpa using h2)
  · intro p hm
    obtain ⟨⟨k,ts⟩,hm2,rfl⟩:=List.mem_map.1 hm
    obtain ⟨_,h2⟩:=idx_mem hm2
    exact hp k ts (by simpa using h2)
  · intro v hv
    have hv0:Now C (st0 d h zs) v:=fun a ha=>by
      rw [hv a ha]
      obtain ⟨k,i,c⟩:=a
      match k with
      | 0=>rfl
      | 1=>rfl
      | 2=>rfl
      | 3=>rfl
      | 4=>rfl
      | k + 5=>exact absurd ha (by simp)
    refine FOkA ?_ (FOkA ?_ (FOkA ?_ (hpre v hv0)))
    · have key:∀ (l:List TV) (i:Nat),(∀ j t,l[j]? = some t→TV.ok C h t (zs.getD (i + j) (.d (.s undef))))→FOk v (startFs C.E i l):=by
        intro l
        induction l with
        | nil=>intro i _ f hf; cases hf
        | cons t l ih =>
          intro i hl
          refine FOkA ?_ (ih (i + 1) fun j u hu=>by
            have:=hl (j + 1) u (by simpa using hu)
            rw [show i + 1 + j=i + (j + 1) by omega]; exact this)
          have h0:=hl 0 t (by simp)
          rw [Nat.add_zero] at h0
          have v0:v (0,i,0)=zs.getD i (.d (.s undef)):=by rw [hv0 _ (by show 0 < 5; decide)]; rfl
          have v1:∀ c,v (1,i,c)=(zs.getD i (.d (.s undef))).parts.getD c .any:=fun c=>by rw [hv0 _ (by show 1 < 5; decide)]; rfl
          have agg:∀ ts ds,ShL C.R ts ds→zs.getD i (.d (.s undef)) = .d (.agg ds)→FOk v (tyBs (fun c=>(1,i,c)) 0 ts):=by
            intro ts ds h1 h2
            refine tyBs_ok (gbOf hC hv0) h1 fun c y hy=>?_
            show v (1,i,0 + c)=_
            rw [v1,h2,Nat.zero_add,List.getD_eq_getElem?_getD]
            show ((ds.map A.d)[c]?).getD _=_
            rw [List.getElem?_map,hy]; rfl
          cases t with
          | c t =>
            simp only [TV.ok] at h0
            obtain ⟨x,h2,h3⟩:=h0
            cases t with
            | st ts =>
              simp only [ShT] at h3
              obtain ⟨ds,rfl,h3⟩:=h3
              exact agg _ ds h3 h2
            | nm j =>
              simp only [ShT] at h3
              obtain ⟨ts,ds,e1,rfl,h4⟩:=hC.rel.unf _ _ h3
              intro f hf
              rcases List.mem_append.1 hf with hf | hf
              · refine nfG_ok hC (bdOf hC hv0) h3 (g:=fun c=>(1,i,c)) (fun c=>?_) f hf
                show v (1,i,c)=_
                rw [v1,h2]; rfl
              · simp only [e1] at hf
                exact agg ts ds h4 h2 f hf
            | _=>exact tyB_ok (gbOf hC hv0) h3 (by rw [v0,h2])
          | _=>intro f hf; cases hf
      exact key _ 0 fun j t ht=>by rw [Nat.zero_add]; exact hget j t ht
    · have key:∀ (l:List (List TV)) (i:Nat),(∀ j ts,l[j]? = some ts→∃ ver cs,h (C.π (i + j)) = .box ver cs∧TV.oks C h ts cs)→FOk v (parFs i l):=by
        intro l
        induction l with
        | nil=>intro i _ f hf; cases hf
        | cons ts l ih =>
          intro i hl
          refine FOkA ?_ (ih (i + 1) fun j u hu=>by
            have:=hl (j + 1) u (by simpa using hu)
            rw [show i + 1 + j=i + (j + 1) by omega]; exact this)
          obtain ⟨ver,cs,h1,h2⟩:=hl 0 ts (by simp)
          rw [Nat.add_zero] at h1
          have one:∀ (ts:List TV) (cs2:List A) (c0:Nat),TV.oks C h ts cs2→(∀ j,cs.getD (c0 + j) .any=cs2.getD j .any)→FOk v (parF1 i c0 ts):=by
            intro ts
            induction ts with
            | nil=>intro _ _ _ _ f hf; cases hf
            | cons t ts ih2 =>
              intro cs2 c0 hx hc
              simp only [TV.oks] at hx
              obtain ⟨a,l2,rfl,h4,h5⟩:=hx
              refine FOkA ?_ (ih2 l2 (c0 + 1) h5 fun j=>by
                have:=hc (j + 1)
                rw [show c0 + 1 + j=c0 + (j + 1) by omega,this]; rfl)
              have e0:v (3,i,c0)=a:=by
                rw [hv0 _ (by show 3 < 5; decide)]
                show boxCell (h (C.π i)) c0=a
                rw [h1]
                exact hc 0
              split
              · rename_i u
                simp only [TV.ok] at h4
                obtain ⟨x,rfl,h6⟩:=h4
                exact tyB_ok (gbOf hC hv0) h6 e0
              · intro f hf; cases hf
          exact one ts cs 0 h2 fun j=>by rw [Nat.zero_add]
      exact key _ 0 fun j ts hts=>by rw [Nat.zero_add]; exact hp j ts hts
    · intro f hf
      unfold iniFs at hf
      obtain ⟨w,hw,hf⟩:=List.mem_flatMap.1 hf
      split at hf
      · rename_i ts hts
        have key:∀ (ts:List TV) (c0:Nat),FOk v (iniF1 w.1 c0 ts):=by
          intro ts
          induction ts with
          | nil=>intro _ f hf; cases hf
          | cons t ts ih =>
            intro c0
            refine FOkA ?_ (ih (c0 + 1))
            split
            · rename_i hc
              simp only [Bool.and_eq_true,decide_eq_true_eq] at hc
              obtain ⟨g1,g2⟩:=hgn w.1 c0 hc.1 hc.2
              have e3:v (3,w.1,c0)=boxCell (h (C.π w.1)) c0:=hv0 _ (by show 3 < 5; decide)
              have e4:∀ b,tv v (1,4,gN w.1 c0 b,0)=C.gs (gN w.1 c0 b):=fun b=>by
                show intA (v (4,gN w.1 c0 b,0))=_
                rw [hv0 _ (by show 4 < 5; decide)]; rfl
              have e5:tv v (1,3,w.1,c0)=C.gs (gN w.1 c0 0):=by
                show intA (v (3,w.1,c0))=_
                rw [e3,g1]
              have e6:tv v (2,3,w.1,c0)=C.gs (gN w.1 c0 1):=by
                show lenA (v (3,w.1,c0))=_
                rw [e3,g2]
              have p1:FOk v [.f (.le (1,4,gN w.1 c0 0,0) (1,3,w.1,c0) 0),.f (.le (1,3,w.1,c0) (1,4,gN w.1 c0 0,0) 0)]:=by
                intro f hf
                simp only [List.mem_cons,List.not_mem_nil,or_false] at hf
                rcases hf with rfl | rfl
                · show tv v _ + 0 ≤ tv v _; rw [e4,e5]; omega
                · show tv v _ + 0 ≤ tv v _; rw [e4,e5]; omega
              have p2:FOk v [.f (.le (1,4,gN w.1 c0 1,0) (2,3,w.1,c0) 0),.f (.le (2,3,w.1,c0) (1,4,gN w.1 c0 1,0) 0)]:=by
                intro f hf
                simp only [List.mem_cons,List.not_mem_nil,or_false] at hf
                rcases hf with rfl | rfl
                · show tv v _ + 0 ≤ tv v _; rw [e4,e6]; omega
                · show tv v _ + 0 ≤ tv v _; rw [e4,e6]; omega
              split
              · exact p1
              all_goals first | exact p2 | (intro f hf; cases hf)
            · intro f hf; cases hf
        exact key ts 0 f hf
      · cases hf
  · intro id _ _
    show h id=C.h0 id
    rw [hh]
  · obtain ⟨h1,ver,cs,h2,h3⟩:=had p hp
    exact mem_reachA (hal p.1 h1) h2 h3
theorem lst_res {C:Cx} (hC:C.Ok) {h:Id→O} {t:TV} {e:Ty} {a:A} (hx:TV.ok C h t a) (hl:lstOk C.E t e=true) (k:Bool):∃ xs ids,(∀ x ∈ xs,ShT C.R e x)∧Me (.d (.lst xs)) a∧(∀ i ∈ ids,i.1=C.d) ∧
    fzVal h a=some (.lst xs,ids) ∧ ∃ r ids',resR k C.d h [a]=some (r,ids')∧(r = .val (.lst xs) ∨ r = .fresh (e.sz C.E) xs) ∧ ∀ i ∈ ids',i.1=C.d:=by
  have noid:∀ i ∈ ([]:List Id),i.1=C.d:=fun i hi=>by cases hi
  have clip:∀ xs,a = .clip xs→(∀ x ∈ xs,ShT C.R e x)→∃ xs ids,(∀ x ∈ xs,ShT C.R e x)∧Me (.d (.lst xs)) a∧(∀ i ∈ ids,i.1=C.d)∧fzVal h a=some (.lst xs,ids) ∧ ∃ r ids',resR k C.d h [a]=some (r,ids')∧(r = .val (.lst xs) ∨ r = .fresh (e.sz C.E) xs) ∧ ∀ i ∈ ids',i.1=C.d:=by
    rintro xs rfl h1
    exact ⟨xs,[],h1,me_lst1 xs,noid,rfl,_,[],rfl,Or.inl rfl,noid⟩
  have sl:∀ p ver n xs fz,p.1=true→a = .sl (C.at p) ver 0 xs.length→h (C.at p) = .vec ver n xs fz→n=e.sz C.E→(∀ x ∈ xs,ShT C.R e x)→∃ xs ids,(∀ x ∈ xs,ShT C.R e x)∧Me (.d (.lst xs)) a∧(∀ i ∈ ids,i.1=C.d)∧fzVal h a=some (.lst xs,ids) ∧ ∃ r ids',resR k C.d h [a]=some (r,ids')∧(r = .val (.lst xs) ∨ r = .fresh (e.sz C.E) xs) ∧ ∀ i ∈ ids',i.1=C.d:=by
    rintro ⟨b,j⟩ ver n xs fz hb rfl hv rfl h1
    have hb:b=true:=hb
    subst hb
    have hat:(C.at (true,j)).1=C.d:=rfl
    have hone:∀ i ∈ [C.at (true,j)],i.1=C.d:=fun i hi=>by
      simp only [List.mem_singleton] at hi; subst hi; rfl
    refine ⟨xs,[C.at (true,j)],h1,me_lst2 xs _ _,hone,?_,?_⟩
    · simp only [fzVal,fzCell,hv]
      rw [if_pos ⟨trivial,by omega⟩]
      simp
    · cases fz with
      | false =>
        refine ⟨.fresh (e.sz C.E) xs,[],?_,Or.inr rfl,noid⟩
        simp only [resR,hat,Nat.lt_irrefl,if_false,hv]
        rw [if_pos ⟨trivial,by omega⟩,if_pos ⟨trivial,trivial,trivial⟩]
      | true =>
        refine ⟨.val (.lst xs),[C.at (true,j)],?_,Or.inl rfl,hone⟩
        simp only [resR,hat,Nat.lt_irrefl,if_false,hv]
        rw [if_pos ⟨trivial,by omega⟩,if_neg (by simp)]
        simp
  unfold lstOk at hl
  split at hl
  · simp only [TV.ok] at hx
    exact clip [] hx (fun x hx=>by cases hx)
  · rw [Bool.and_eq_true,Bool.and_eq_true] at hl
    have hsz:_=_:=eq_of_beq hl.2
    simp only [TV.ok] at hx
    rcases hx with ⟨xs,h1,h2⟩ | ⟨ver,n,xs,fz,h1,h2,h3,h4⟩
    · exact clip xs h1 fun x hx=>subE_ok hC.rel hl.1.2 (h2 x hx)
    · exact sl _ ver n xs fz hl.1.1 h1 h2 (by rw [h3,hsz]) fun x hx=>subE_ok hC.rel hl.1.2 (h4 x hx)
  · rw [Bool.and_eq_true,Bool.and_eq_true] at hl
    have hsz:_=_:=eq_of_beq hl.2
    simp only [TV.ok] at hx
    rcases hx with (⟨xs,h1,h2⟩ | ⟨ver,n,xs,fz,h1,h2,h3,h4⟩) | ⟨xs,h1,h2⟩
    · exact clip xs h1 fun x hx=>subE_ok hC.rel hl.1.2 (h2 x hx)
    · exact sl _ ver n xs fz hl.1.1 h1 h2 (by rw [h3,hsz]) fun x hx=>subE_ok hC.rel hl.1.2 (h4 x hx)
    · subst h1
      exact ⟨xs,[],fun x hx=>subE_ok hC.rel hl.1.2 (h2 x hx),Me.refl _,noid,rfl,_,[],rfl,Or.inl rfl,noid⟩
  · simp only [TV.ok,ShT] at hx
    obtain ⟨_,rfl,xs,rfl,_,h2⟩:=hx
    exact ⟨xs,[],fun x hx=>subE_ok hC.rel hl (h2 x hx),Me.refl _,noid,rfl,_,[],rfl,Or.inl rfl,noid⟩
  · cases hl
theorem tup_res {C:Cx} (hC:C.Ok) {σ:SS} {st:St} (g:Ga C σ st) {pl:Bool} (hpl:pl=true→C.d=0):∀ {rs:List Nat} {ts:List Ty},tupB C.E pl σ rs ts=true→(∀ r ∈ rs,r < st.n) ∧ ∃ ds ids,keepAs C.d st.h (rs.map st.t)=some (ds.map .d,ids)∧(∀ i ∈ ids,i.1=C.d)∧ShL C.R ts ds∧rs.length=ds.length ∧ ∀ (i:Nat) (r:Nat) (x:D),rs[i]? = some r→ds[i]? = some x→Me (.d x) (st.t r)
  | [],ts,h=>by
    cases ts <;> simp only [tupB,Bool.false_eq_true] at h
    exact ⟨fun r hr=>(by cases hr),[],[],rfl,fun i hi=>(by cases hi),(by simp [ShL]),rfl,fun i r x hr=>(by simp at hr)⟩
  | r :: rs,ts,h=>by
    cases ts <;> simp only [tupB,Bool.false_eq_true] at h
    rename_i t ts
    rw [Bool.and_eq_true,Bool.and_eq_true] at h
    obtain ⟨⟨h1,h2⟩,h3⟩:=h
    have h1:=of_decide_eq_true h1
    obtain ⟨i1,ds,ids,i2,i3,i4,i5,i6⟩:=tup_res hC g hpl h3
    have hok:=opTV_ok g (.tmp r)
    rw [ev_tmp g h1] at hok
    have head:∃ x id1,keepA C.d st.h (st.t r)=some (.d x,id1)∧(∀ i ∈ id1,i.1=C.d)∧ShT C.R t x∧Me (.d x) (st.t r):=by
      rw [Bool.or_eq_true] at h2
      rcases h2 with h2 | h2
      · have:=TV.sub_ok hC _ _ h2 hok
        simp only [TV.ok] at this
        obtain ⟨x,e1,e2⟩:=this
        refine ⟨x,[],?_,fun i hi=>(by cases hi),e2,by rw [e1]; exact Me.refl _⟩
        rw [e1]
        unfold keepA
        split
        · rfl
        · rfl
      · rw [Bool.and_eq_true] at h2
        obtain ⟨h4,h5⟩:=h2
        rw [Bool.or_eq_true] at h5
        rcases h5 with h5 | h5
        rotate_left
        · obtain ⟨_,x,id1,k1,k2,k3,k4⟩:=agOk_ok hC g h1 h5
          refine ⟨x,id1,?_,k2,k3,k4⟩
          unfold keepA
          rw [if_neg (by rw [hpl h4]; simp),k1]
          rfl
        split at h5
        · rename_i e b
          rw [Bool.and_eq_true] at h5
          obtain ⟨xs,id1,k1,k2,k3,k4,_⟩:=lst_res hC hok h5.1 false
          refine ⟨.lst xs,id1,?_,k3,?_,k2⟩
          · unfold keepA
            rw [if_neg (by rw [hpl h4]; simp),k4]
            rfl
          · simp only [ShT]
            refine ⟨xs,rfl,?_,k1⟩
            have hb:=leI_ok g.nows h5.2
            have z0:tv (apv C st) zT=0:=rfl
            simp only [z0] at hb
            have hl:tv (apv C st) (2,0,r,0)=lenA (st.t r):=rfl
            have hm:=k2.w.l
            have hm:(xs.length:Int)=lenA (st.t r):=hm
            omega
        · cases h5
    obtain ⟨x,id1,k1,k2,k3,k4⟩:=head
    refine ⟨fun s hs=>?_,x :: ds,id1 ++ ids,?_,?_,?_,by simp [i5],?_⟩
    · rcases List.mem_cons.1 hs with rfl | hs
      · rw [g.n]; exact h1
      · exact i1 s hs
    · simp only [List.map_cons]
      unfold keepAs
      rw [k1,i2]
    · intro i hi
      rcases List.mem_append.1 hi with hi | hi
      · exact k2 i hi
      · exact i3 i hi
    · simp only [ShL]; exact ⟨x,ds,rfl,k3,i4⟩
    · intro i s y hs hy
      cases i with
      | zero=>simp at hs hy; subst hs hy; exact k4
      | succ i=>exact i6 i s y (by simpa using hs) (by simpa using hy)
end
end
end Go.Proofs.YtenoggjjhamdaaaGreatDoor
