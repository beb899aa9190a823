/-
  WHAT IS PROVED HERE: parts of the proof: SxE SxK SxL.
-/
import Derived.Test.YtenoggjjhamdaaaGreatDoorM11
set_option linter.all false
namespace Go.Proofs.YtenoggjjhamdaaaGreatDoor
open Go Go.RowKit
section
noncomputable section
def trTV (σ:SS) (pls ks:List PL):TV→TV
  | .c t=>.c t
  | .nilv=>.nilv
  | .own (false,n) e=>(match trP pls n with | some p=>.own p e | none=>.any)
  | .rl (false,n) e=>(match trP pls n with | some p=>.rl p e | none=>.any)
  | .was k c=>(match pls[k]? with
    | some p=>(match σ.hp.find? fun q=>q.1 == p with
      | some q=>(match q.2[c]? with | some t=>killT ks t | none=>.any)
      | none=>.any)
    | none=>.any)
  | _=>.any
theorem trTV_ok {C C':Cx} (hC:C.Ok) {σ:SS} {st:St} (g:Ga C σ st) {pls ks:List PL} {hF:Id→O} (hR:C'.R=C.R) (hE:C'.E=C.E) (h10:pls.length ≤ 10) (hπ:∀ n p,trP pls n=some p→C'.π n=C.at p) (h0:∀ q ∈ pls,Fz (st.h (C.at q)) (C'.h0 (C.at q))) (hk:∀ q,q ∉ ks→Kp (st.h (C.at q)) (hF (C.at q))):∀ {t:TV} {a:A},TV.ok C' hF t a→TV.ok C hF (trTV σ pls ks t) a:=by
  intro t a hx
  unfold trTV
  split
  · simp only [TV.ok] at hx ⊢
    rw [← hR]; exact hx
  · simpa only [TV.ok] using hx
  · split
    · rename_i n e _ p hp
      simp only [TV.ok] at hx ⊢
      have e1:C'.at (false,n)=C.at p:=hπ n p hp
      rw [e1,hR,hE] at hx
      exact hx
    · simp only [TV.ok]
  · split
    · rename_i n e _ p hp
      simp only [TV.ok] at hx ⊢
      have e1:C'.at (false,n)=C.at p:=hπ n p hp
      rw [e1,hR,hE] at hx
      exact hx
    · simp only [TV.ok]
  · rename_i k c
    split
    · rename_i p hp
      split
      · rename_i q hq
        split
        · rename_i t ht
          simp only [TV.ok] at hx
          have hq1:=g.hp q (List.mem_of_find?_eq_some hq)
          have hq2:q.1=p:=by simpa using List.find?_some hq
          rw [hq2] at hq1
          obtain ⟨ver,cs,hb,hcs⟩:=hq1
          obtain ⟨b,hb1,hb2⟩:=oks_get hcs ht
          have e1:C'.π k=C.at p:=hπ k p (trP_box h10 hp)
          have e2:C'.h0 (C.at p) = .box ver cs:=by
            rcases h0 p (List.mem_of_getElem? hp) with h | ⟨v,n,xs,fz,h4,h5⟩
            · rw [h,hb]
            · rw [hb] at h4; cases h4
          have e3:a=b:=by
            rw [hx,e1,e2]
            show cs.getD c .any=b
            rw [List.getD_eq_getElem?_getD,hb1]; rfl
          rw [e3]
          exact killT_kp hk hb2
        · simp only [TV.ok]
      · simp only [TV.ok]
    · simp only [TV.ok]
  · simp only [TV.ok]
def wasL (fs:List Fact) (p:PL) (i k:Nat):Nat→List TV→List TV→List (AP × AP) × List Fact
  | _,_,[]=>([],[])
  | c,old,t :: l =>
    let r:=wasL fs p i k (c + 1) (old.drop 1) l
    match t with
    | .was k' c'=>if Nat.beq k k' && Nat.beq c c' then
        let m:=linkC fs (fun c=>apB p c) (fun c=>(7,c,i)) c (old.take 1)
        (m.1 ++ r.1,m.2 ++ r.2) else r
    | _=>r
theorem wasL_ok {v:AP→A} {fs:List Fact} {p:PL} {i k:Nat}:∀ {l:List TV} {c:Nat} {old:List TV},(∀ j,l[j]? = some (.was k (c + j))→v (apB p (c + j))=v (7,c + j,i))→(∀ q ∈ (wasL fs p i k c old l).1,v q.1=v q.2)∧FOk v (wasL fs p i k c old l).2
  | [],c,old,h=>⟨fun q hq=>(by cases hq),fun f hf=>(by cases hf)⟩
  | t :: l,c,old,h=>by
    have ih:=wasL_ok (v:=v) (fs:=fs) (p:=p) (i:=i) (k:=k) (l:=l) (c:=c + 1) (old:=old.drop 1) fun j hj=>by
      have:=h (j + 1) (by simpa [show c + (j + 1)=c + 1 + j by omega] using hj)
      rw [show c + (j + 1)=c + 1 + j by omega] at this; exact this
    have h0:=h 0
    unfold wasL
    simp only
    split
    · rename_i k' c'
      split
      · rename_i hc
        rw [Bool.and_eq_true] at hc
        have e1:k=k':=Nat.eq_of_beq_eq_true hc.1
        have e2:c=c':=Nat.eq_of_beq_eq_true hc.2
        subst e1 e2
        have h1:v (apB p c)=v (7,c,i):=h0 (by simp)
        have hm:=linkC_ok (v:=v) (fs:=fs) (f:=fun c=>apB p c) (g:=fun c=>(7,c,i)) (l:=old.take 1) (k:=c) fun d hd1 hd2=>by
          have:(old.take 1).length ≤ 1:=by simp; omega
          have:d=c:=by omega
          subst this; exact h1
        refine ⟨fun q hq=>?_,fun f hf=>?_⟩
        · rcases List.mem_append.1 hq with hq | hq
          · exact hm.1 q hq
          · exact ih.1 q hq
        · rcases List.mem_append.1 hf with hf | hf
          · exact hm.2 f hf
          · exact ih.2 f hf
      · exact ih
    · exact ih
def oldTV (σ:SS) (p:PL):List TV:=match σ.hp.find? fun q=>q.1 == p with | some q=>q.2 | none=>[]
def wasA (σ:SS) (pls:List PL):Nat→List (Nat × List TV)→List (AP × AP) × List Fact
  | _,[]=>([],[])
  | i,w :: l =>
    let r:=wasA σ pls (i + 1) l
    match pls[w.1]? with
    | some p=>let m:=wasL σ.fs p i w.1 0 (oldTV σ p) w.2; (m.1 ++ r.1,m.2 ++ r.2)
    | none=>r
theorem wasA_ok {v:AP→A} {σ:SS} {pls:List PL}:∀ {l:List (Nat × List TV)} {i:Nat},(∀ (j:Nat) (w:Nat × List TV) (p:PL),l[j]? = some w→pls[w.1]? = some p→∀ c,w.2[c]? = some (.was w.1 c)→v (apB p c)=v (7,c,i + j))→(∀ q ∈ (wasA σ pls i l).1,v q.1=v q.2)∧FOk v (wasA σ pls i l).2
  | [],i,h=>⟨fun q hq=>(by cases hq),fun f hf=>(by cases hf)⟩
  | w :: l,i,h=>by
    have ih:=wasA_ok (v:=v) (σ:=σ) (pls:=pls) (l:=l) (i:=i + 1) fun j w p hw hp c hc=>by
      have:=h (j + 1) w p (by simpa using hw) hp c hc
      rw [show i + (j + 1)=i + 1 + j by omega] at this; exact this
    unfold wasA
    simp only
    split
    · rename_i p hp
      have hm:=wasL_ok (v:=v) (fs:=σ.fs) (p:=p) (i:=i) (k:=w.1) (l:=w.2) (c:=0) (old:=oldTV σ p) fun j hj=>by
        rw [Nat.zero_add] at hj ⊢
        exact h 0 w p (by simp) hp j hj
      refine ⟨fun q hq=>?_,fun f hf=>?_⟩
      · rcases List.mem_append.1 hq with hq | hq
        · exact hm.1 q hq
        · exact ih.1 q hq
      · rcases List.mem_append.1 hf with hf | hf
        · exact hm.2 f hf
        · exact ih.2 f hf
    · exact ih
def bxA (σ:SS) (pls ks kj:List PL) (ws:List (Nat × List TV)):List (PL × List TV):=ws.filterMap fun w=>(pls[w.1]?).map fun p=>(p,w.2.map fun t=>killT kj (trTV σ pls ks t))
def postFs (σ:SS) (pls:List PL) (srcs:List Src) (c:Ctr):List Fact :=
  let l:=instFs (tauC σ pls srcs c.ws) (rhoC σ pls srcs c.ws) c.post
  sat1 (l ++ σ.fs) (isbs (l ++ σ.fs)) l ++ l
theorem postFs_ok {v:AP→A} {σ:SS} {pls:List PL} {srcs:List Src} {c:Ctr} (hf:FOk v σ.fs) (h:FOk v (instFs (tauC σ pls srcs c.ws) (rhoC σ pls srcs c.ws) c.post)):FOk v (postFs σ pls srcs c) :=
  FOkA (sat1_ok (FOkA h hf) (isbs_ok (FOkA h hf)) h) h
def callOut (E:Nat→Option (List Ty)) (σ:SS) (dst:Option Nat) (c:Ctr) (pls:List PL) (srcs:List Src):Option Out :=
  let own:=(ownPls σ srcs).map sN
  let new:=postFs σ pls srcs c
  let pl:=c.args.all plainArg
  let rd:=(dst.getD σ.n + 1) :: (own ++ (if pl then [] else (reachPls σ pls).map sN))
  let wr:=own ++ (if pl then [] else (reachPls σ pls).map sN)
  if c.ws.isEmpty && c.ads.isEmpty then
    match c.res with
    | .val t=>some { act:=.wr (.c t) [] (new ++ tyN E t),rd:=rd,wr:=wr,ra:=false }
    | .tup ts=>some { act:=.wr (.tup (ts.map .c)) [] (new ++ tyBs (fun c=>(6,c,0)) 0 ts),rd:=rd,wr:=wr,ra:=false }
    | .map el s=>match dst with
      | some j=>some { act:=.mk (.mp (true,j) el s) [] none [] [],rd:=rd,wr:=(j + 1) :: wr,ra:=false }
      | none=>none
    | .tupF e b ts=>match dst with
      | some j=>some { act:=.mk (.tup (.own (true,j) e :: ts.map .c)) [] none [] (new ++ (tyB (6,0,0) (.lst e b) ++ tyBs (fun c=>(6,c,0)) 1 ts)),rd:=rd,wr:=(j + 1) :: wr,ra:=false }
      | none=>none
    | .lst e b=>match dst with
      | some j=>some { act:=.mk (.rl (true,j) e) [] none [] (new ++ tyB (5,0,0) (.lst e b)),rd:=rd,wr:=(j + 1) :: wr,ra:=false }
      | none=>none
  else
    let ks:=adPls pls c.ads
    let w:=wasA σ pls 0 c.ws
    match c.res with
    | .val t=>some { act:=.gen (.c t) ks (bxA σ pls ks [] c.ws) w.1 (w.2 ++ (new ++ tyN E t)),rd:=rd,wr:=wr,ra:=false }
    | .tup ts=>some { act:=.gen (.tup (ts.map .c)) ks (bxA σ pls ks [] c.ws) w.1 (w.2 ++ (new ++ tyBs (fun c=>(6,c,0)) 0 ts)),rd:=rd,wr:=wr,ra:=false }
    | .map _ _ | .tupF ..=>none
    | .lst e b=>match dst with
      | some j=>if pls.contains (true,j) then none else some { act:=.gen (.rl (true,j) e) ((true,j) :: ks) (bxA σ pls ks [(true,j)] c.ws) w.1 (w.2 ++ (new ++ tyB (5,0,0) (.lst e b))),rd:=rd,wr:=(j + 1) :: wr,ra:=false }
      | none=>none
def sCall (E:Nat→Option (List Ty)) (np:Nat) (wl:List Nat) (ads:List (Nat × Nat)) (DB:List Ctr) (σ:SS) (dst:Option Nat) (f:FuncId) (srcs:List Src):Option Out :=
  let pls:=plsL (srcs.map (Src.t σ))
  match DB.find? fun c=>Nat.beq c.f f && callFits E np wl ads σ c pls srcs with
  | some c=>callOut E σ dst c pls srcs
  | none=>none
theorem bxA_get {σ:SS} {pls ks kj:List PL}:∀ {ws:List (Nat × List TV)},(∀ w ∈ ws,∃ p,pls[w.1]? = some p)→∀ {i:Nat} {w:Nat × List TV},ws[i]? = some w→∃ p,pls[w.1]? = some p∧(bxA σ pls ks kj ws)[i]? = some (p,w.2.map fun t=>killT kj (trTV σ pls ks t))
  | [],_,i,w,h=>by simp at h
  | x :: ws,hall,i,w,h=>by
    obtain ⟨p,hp⟩:=hall x List.mem_cons_self
    have e:bxA σ pls ks kj (x :: ws)=(p,x.2.map fun t=>killT kj (trTV σ pls ks t)) :: bxA σ pls ks kj ws:=by
      unfold bxA
      rw [List.filterMap_cons,hp]; rfl
    cases i with
    | zero =>
      simp only [List.getElem?_cons_zero,Option.some.injEq] at h
      subst h
      exact ⟨p,hp,by rw [e]; rfl⟩
    | succ i =>
      obtain ⟨q,h1,h2⟩:=bxA_get (fun w hw=>hall w (List.mem_cons_of_mem _ hw)) (i:=i) (by simpa using h)
      exact ⟨q,h1,by rw [e]; simpa using h2⟩
theorem bxA_mem {σ:SS} {pls ks kj:List PL} {ws:List (Nat × List TV)} {b:PL × List TV} (h:b ∈ bxA σ pls ks kj ws):∃ w ∈ ws,pls[w.1]? = some b.1∧b.2=w.2.map fun t=>killT kj (trTV σ pls ks t):=by
  unfold bxA at h
  obtain ⟨w,hw,h1⟩:=List.mem_filterMap.1 h
  obtain ⟨p,hp,rfl⟩:=Option.map_eq_some_iff.1 h1
  exact ⟨w,hw,hp,rfl⟩
def boxCs:O→List A
  | .box _ cs=>cs
  | _=>[]
theorem boxCs_ok (o:O) (c:Nat):boxCell o c=(boxCs o).getD c .any:=by
  cases o <;> rfl
theorem call_gen {C C':Cx} (hC:C.Ok) {X:Orc} {σ:SS} {st:St} (g:Ga C σ st) {c:Ctr} {pls:List PL} {srcs:List Src} {zs:List A} {id:Id} {ids:List Id} {r:R} {a:A} {e:Eff} {hF:Id→O} (h:CallR C C' X σ st c pls srcs zs id ids r a e hF)
    {dst:Option Nat} {t:TV} {kj:List PL} {new:List Fact} (hnb:∀ q ∈ pls,q ∉ kj) (hback:∀ q,q ∉ kj→e.out st.h (C.at q)=hF (C.at q)) (hlow:∀ i:Id,i.1 < C.d→e.out st.h i=hF i) (ht:dst ≠ none→TV.ok C (e.out st.h) t e.v) {b:A} (hb:e.v=b) (hab:Me1 a b) (hac:∀ c,Me1 (a.parts.getD c .any) (b.parts.getD c .any))
    (hnew:∀ v:AP→A,Now C st v→v (5,0,0)=b→(∀ c,v (6,c,0)=b.parts.getD c .any)→FOk v new) :
    Ga C (σ.gen dst t (kj ++ adPls pls c.ads) (bxA σ pls (adPls pls c.ads) kj c.ws) (wasA σ pls 0 c.ws).1 ((wasA σ pls 0 c.ws).2 ++ (postFs σ pls srcs c ++ new))) (st.put dst e):=by
  have hall:∀ w ∈ c.ws,∃ p,pls[w.1]? = some p:=fun w hw=>by obtain ⟨q,hq,_⟩:=h.wo.w w hw; exact ⟨q,hq⟩
  have hπ0:∀ k p,pls[k]? = some p→C'.π k=C.at p:=fun k p hp=>h.hπ k p (trP_box h.po.n10 hp)
  have hbxk:∀ w ∈ c.ws,∀ p,pls[w.1]? = some p→p ∈ (bxA σ pls (adPls pls c.ads) kj c.ws).map (·.1):=fun w hw p hp=>by
    refine List.mem_map.2 ⟨(p,w.2.map fun t=>killT kj (trTV σ pls (adPls pls c.ads) t)),?_,rfl⟩
    unfold bxA
    exact List.mem_filterMap.2 ⟨w,hw,by rw [hp]; rfl⟩
  have stay:∀ q,q ∉ adPls pls c.ads→q ∉ (bxA σ pls (adPls pls c.ads) kj c.ws).map (·.1)→Fz (st.h (C.at q)) (hF (C.at q)):=by
    intro q hq1 hq2
    rw [h.same _ ?_]
    · exact frz_out ids st.h (fun _=>Fz_refl _) _
    · rintro (⟨k,hk,e1⟩ | ⟨p,hp,e1⟩)
      · rw [h.wlq] at hk
        obtain ⟨w,hw,rfl⟩:=List.mem_map.1 hk
        obtain ⟨p,hp⟩:=hall w hw
        rw [hπ0 _ _ hp] at e1
        have:=at_inj2 hC e1
        subst this
        exact hq2 (hbxk w hw q hp)
      · rw [h.adq] at hp
        obtain ⟨ho,r,hr,_⟩:=h.wo.a p hp
        rw [hπ0 _ _ hr,← adP_at hC (h.po.pk2 (List.mem_of_getElem? hr)) ho] at e1
        have:=at_inj2 hC e1
        subst this
        exact hq1 (by unfold adPls; exact List.mem_filterMap.2 ⟨p,hp,by rw [hr]; rfl⟩)
  have hkp:∀ q,q ∉ adPls pls c.ads→Kp (st.h (C.at q)) (hF (C.at q)):=by
    intro q hq
    by_cases hm:q ∈ (bxA σ pls (adPls pls c.ads) kj c.ws).map (·.1)
    · obtain ⟨b,hb,rfl⟩:=List.mem_map.1 hm
      obtain ⟨w,hw,hp,_⟩:=bxA_mem hb
      obtain ⟨q',ver,cs,cs',e1,e2,e3,_⟩:=h.ws w hw
      rw [hp] at e1
      cases e1
      exact Or.inr ⟨ver,cs,cs',e2,e3⟩
    · exact Or.inl (stay q hq hm)
  have hkj:∀ q,q ∉ kj→Kp (hF (C.at q)) (e.out st.h (C.at q)):=fun q hq=>by rw [hback q hq]; exact Or.inl (Fz_refl _)
  have bxn:∀ b ∈ bxA σ pls (adPls pls c.ads) kj c.ws,b.1 ∉ kj∧b.1 ∈ pls:=fun b hb=>by
    obtain ⟨w,hw,hp,_⟩:=bxA_mem hb
    have:=List.mem_of_getElem? hp
    exact ⟨hnb _ this,this⟩
  let bcs:List (List A):=((bxA σ pls (adPls pls c.ads) kj c.ws).map (·.1) ++ (kj ++ adPls pls c.ads)).map fun p=>boxCs (e.out st.h (C.at p))
  have hbcs:∀ i p,((bxA σ pls (adPls pls c.ads) kj c.ws).map (·.1) ++ (kj ++ adPls pls c.ads))[i]? = some p→∀ d,boxCell (e.out st.h (C.at p)) d=(bcs.getD i []).getD d .any:=by
    intro i p hi d
    rw [boxCs_ok]
    congr 1
    show _=(List.map _ _).getD i []
    rw [List.getD_eq_getElem?_getD,List.getElem?_map,hi]; rfl
  have hws7:∀ (v:AP→A),NewG C st e.v bcs v→∀ (i:Nat) (w:Nat × List TV) (p:PL),c.ws[i]? = some w→pls[w.1]? = some p→∀ d,boxCell (hF (C.at p)) d=v (7,d,i):=by
    intro v hv i w p hw hp d
    obtain ⟨p',hp',hbx⟩:=bxA_get (σ:=σ) (ks:=adPls pls c.ads) (kj:=kj) hall hw
    rw [hp] at hp'
    cases hp'
    have h1:((bxA σ pls (adPls pls c.ads) kj c.ws).map (·.1) ++ (kj ++ adPls pls c.ads))[i]? = some p:=by
      have hlt:i < ((bxA σ pls (adPls pls c.ads) kj c.ws).map (·.1)).length:=by
        rw [List.length_map]; exact (List.getElem?_eq_some_iff.1 hbx).1
      rw [List.getElem?_append_left hlt,List.getElem?_map,hbx]; rfl
    rw [hv.nb,← hbcs i p h1 d,hback p (bxn _ (List.mem_of_getElem? hbx)).1]
  refine gen_ok hC g (bcs:=bcs) (fun q hk hn=>?_) (fun q hk _=>?_) (fun i hi hw=>?_) ht (fun b hb=>?_) (fun b hb=>?_) hbcs (fun q hn hk d=>?_) (fun v hv=>?_) (fun v hv=>?_)
  · simp only [List.mem_append,not_or] at hk
    rw [hback q hk.1]; exact stay q hk.2 hn
  · simp only [List.mem_append,not_or] at hk
    rw [hback q hk.1]; exact hkp q hk.2
  · rw [hlow i hi]; exact h.low i hi hw
  · obtain ⟨w,hw,hp,hts⟩:=bxA_mem hb
    obtain ⟨q,ver,cs,cs',e1,e2,e3,e4⟩:=h.ws w hw
    rw [hp] at e1
    cases e1
    refine ⟨ver,cs',by rw [hback _ (bxn b hb).1]; exact e3,?_⟩
    rw [hts]
    have key:∀ {ts:List TV} {zs:List A},TV.oks C' hF ts zs→TV.oks C (e.out st.h) (ts.map fun t=>killT kj (trTV σ pls (adPls pls c.ads) t)) zs:=by
      intro ts
      induction ts with
      | nil=>intro zs hz; simpa only [TV.oks,List.map_nil] using hz
      | cons t ts ih =>
        intro zs hz
        simp only [TV.oks,List.map_cons] at hz ⊢
        obtain ⟨x,l,h1,h2,h3⟩:=hz
        exact ⟨x,l,h1,killT_kp hkj (trTV_ok hC g h.hR h.hE h.po.n10 h.hπ h.h0 hkp h2),ih h3⟩
    exact key e4
  · exact h.po.pk2 (bxn b hb).2
  · simp only [List.mem_append,not_or] at hk
    rw [hback q hk.1]
    exact boxCell_fz (stay q hk.2 hn) d
  · refine (wasA_ok (fun i w p hw hp d hd=>?_)).1
    rw [Nat.zero_add,← hws7 v hv i w p hw hp d]
    obtain ⟨q,ver,cs,cs',e1,e2,e3,e4⟩:=h.ws w (List.mem_of_getElem? hw)
    rw [hp] at e1
    cases e1
    obtain ⟨x,hx1,hx2⟩:=oks_get e4 hd
    simp only [TV.ok] at hx2
    have e5:C'.h0 (C.at p) = .box ver cs:=by
      rcases h.h0 p (List.mem_of_getElem? hp) with h | ⟨v,n,xs,fz,h4,h5⟩
      · rw [h,e2]
      · rw [e2] at h4; cases h4
    rw [hπ0 _ _ hp,e5] at hx2
    rw [hv.now _ (apB_lt _ _),apB_apv,e2,e3]
    show cs.getD d .any=cs'.getD d .any
    rw [List.getD_eq_getElem?_getD (l:=cs'),hx1]
    exact hx2.symm
  · refine FOkA (wasA_ok (fun i w p hw hp d hd=>?_)).2 (FOkA ?_ (hnew v hv.now (by rw [hv.nv,hb]) (fun i=>by rw [hv.nc,hb])))
    · rw [Nat.zero_add,← hws7 v hv i w p hw hp d]
      obtain ⟨q,ver,cs,cs',e1,e2,e3,e4⟩:=h.ws w (List.mem_of_getElem? hw)
      rw [hp] at e1
      cases e1
      obtain ⟨x,hx1,hx2⟩:=oks_get e4 hd
      simp only [TV.ok] at hx2
      have e5:C'.h0 (C.at p) = .box ver cs:=by
        rcases h.h0 p (List.mem_of_getElem? hp) with h | ⟨v,n,xs,fz,h4,h5⟩
        · rw [h,e2]
        · rw [e2] at h4; cases h4
      rw [hπ0 _ _ hp,e5] at hx2
      rw [hv.now _ (apB_lt _ _),apB_apv,e2,e3]
      show cs.getD d .any=cs'.getD d .any
      rw [List.getD_eq_getElem?_getD (l:=cs'),hx1]
      exact hx2.symm
    · refine postFs_ok (g.fs v hv.now) (h.fs b v hab hac hv.now (by rw [hv.nv,hb]) (fun i=>by rw [hv.nc,hb]) fun k i hk d=>?_)
      obtain ⟨w,hw,rfl⟩:=wsIx_ok hk
      obtain ⟨p,hp⟩:=hall w (List.mem_of_getElem? hw)
      rw [hπ0 _ _ hp]
      exact hws7 v hv i w p hw hp d
theorem sCall_core {C:Cx} (hC:C.Ok) {X:Orc} {σ:SS} {st:St} (g:Ga C σ st) {o:Oper} {c:Ctr} (hc:c.Ok C X) {pls:List PL} {srcs:List Src} {zs:List A} (hz:TV.oks C st.h (srcs.map (Src.t σ)) zs) (hzo:∀ (i:Nat) (x:Operand),srcs[i]? = some (Src.op x)→zs[i]? = some (st.ev x))
    (hpq:pls=plsL (srcs.map (Src.t σ))) (hf:callFits C.E C.np C.wl C.ads σ c pls srcs=true) (hop:opE C.P X st.d st.ev st.h (st.d,o.dst.getD st.n) o=callE X st.d st.h (st.d,o.dst.getD st.n) c.f zs) {out:Out} (h:callOut C.E σ o.dst c pls srcs=some out):OpOk C X σ st o out:=by
  obtain ⟨C',ids,r,a,e,hF,H⟩:=call_core hC g hc hz hzo hpq hf (C.d,o.dst.getD st.n)
  have hids:∀ i ∈ ids,slotC C i ∈ (ownPls σ srcs).map sN:=fun i hi=>by
    obtain ⟨p,hp,_,rfl⟩:=H.idso i hi
    rw [sN_at hC]
    exact List.mem_map_of_mem hp
  have hn:=g.n
  have hw:okW st.d st.al e.wr=true:=by
    rw [g.d]
    rcases H.perm with h6 | h6
    · exact okW_of2 h6
    · exact absurd rfl h6
  have hrd:∀ x ∈ (sigE (slotC C) e).1,x ∈ (o.dst.getD σ.n + 1) :: ((ownPls σ srcs).map sN ++ (if c.args.all plainArg then [] else (reachPls σ pls).map sN)):=by
    intro x hx
    obtain ⟨i,hi,rfl⟩:=List.mem_map.1 hx
    rcases H.rdq i hi with rfl | hi | ⟨hp1,q,hq,rfl⟩
    · rw [slotC_own,hn]; exact List.mem_cons_self
    · exact List.mem_cons_of_mem _ (List.mem_append_left _ (hids i hi))
    · refine List.mem_cons_of_mem _ (List.mem_append_right _ ?_)
      rw [if_neg (by rw [hp1]; simp),sN_at hC]
      exact List.mem_map_of_mem hq
  have hwr:∀ x ∈ (sigE (slotC C) e).2.1,x ∈ (ownPls σ srcs).map sN ++ (if c.args.all plainArg then [] else (reachPls σ pls).map sN) ∨ ∃ p ∈ (backE (hF (C.d,o.dst.getD st.n)).ver (C.d,o.dst.getD st.n) r).2,x=slotC C p.1:=by
    intro x hx
    obtain ⟨p,hp,rfl⟩:=List.mem_map.1 hx
    rcases H.wrq p hp with hp | ⟨hp1,q,hq,hp⟩ | hp
    · exact Or.inl (List.mem_append_left _ (hids _ hp))
    · left
      refine List.mem_append_right _ ?_
      rw [if_neg (by rw [hp1]; simp),hp,sN_at hC]
      exact List.mem_map_of_mem hq
    · exact Or.inr ⟨p,hp,rfl⟩
  have hra:(sigE (slotC C) e).2.2=true→false=true:=fun h=>by
    have h:e.ra=true:=h
    rw [H.raq] at h; exact h
  have he:opE C.P X st.d st.ev st.h (st.d,o.dst.getD st.n) o=some e:=by rw [hop,g.d]; exact H.call
  have h3:=H.rs
  have h4:=H.val
  have h5:=H.outq
  have hR:=H.hR
  have hE:=H.hE
  have mem_at:∀ q j,C.at q=(C.d,j)→q=(true,j):=fun q j h=>at_inj hC h
  unfold callOut at h
  simp only at h
  split at h
  ·
    rename_i hno
    rw [Bool.and_eq_true] at hno
    have hws0:c.ws=[]:=by simpa using hno.1
    have had0:c.ads=[]:=by simpa using hno.2
    have hsame:∀ i,hF i=upds st.h (frz st.h ids) i:=fun i=>H.same i (by
      rintro (⟨k,hk,_⟩ | ⟨p,hp,_⟩)
      · rw [H.wlq,hws0] at hk; cases hk
      · rw [H.adq,had0] at hp; cases hp)
    have hfzall:∀ i,Fz (st.h i) (hF i):=fun i=>by rw [hsame]; exact frz_out ids st.h (fun _=>Fz_refl _) i
    have hlow:∀ i:Id,i.1 ≠ C.d→hF i=st.h i:=fun i hi=>by rw [hsame]; exact frz_low hC H.idso i hi
    have hfs:∀ b bc v,Me1 a b→(∀ c,Me1 (a.parts.getD c .any) (b.parts.getD c .any))→New C st b bc v→FOk v (postFs σ pls srcs c):=fun b bc v h1 h2 hv =>
      postFs_ok (g.fs v hv.now) (H.fs b v h1 h2 hv.now (hv.nv 0 0) (fun i=>hv.nc i 0) fun k i hk=>by rw [hws0] at hk; cases hk)
    split at h
    · rename_i t ht
      cases h
      rw [ht] at h3
      obtain ⟨x,rfl,rfl,hx⟩:=h3
      intro σ' hσ
      cases hσ
      have hout:e.out st.h=hF:=h5
      refine ⟨e,he,hw,⟨hrd,fun y hy=>?_,hra⟩,?_⟩
      · rcases hwr y hy with h | ⟨p,hp,_⟩
        · exact h
        · cases hp
      · have h4:e.v = .d x:=h4
        refine wr_ok g (fun i=>by rw [hout]; exact hfzall i) (fun i hi=>by rw [hout]; exact hlow i (by omega)) (fun _=>?_) (fun v _ p hp=>by cases hp) fun v hv=>?_
        · rw [h4]; simp only [TV.ok]; exact ⟨x,rfl,by rw [← hR]; exact hx⟩
        · rw [h4] at hv
          refine FOkA (hfs _ [] v (Me1.refl _) (fun _=>Me1.refl _) hv) (tyN_ok hC (by rw [← hR]; exact hx) hv)
    · rename_i ts ht
      cases h
      rw [ht] at h3
      obtain ⟨ds,rfl,rfl,hx⟩:=h3
      intro σ' hσ
      cases hσ
      have hout:e.out st.h=hF:=h5
      refine ⟨e,he,hw,⟨hrd,fun y hy=>?_,hra⟩,?_⟩
      · rcases hwr y hy with h | ⟨p,hp,_⟩
        · exact h
        · cases hp
      · have h4:e.v = .tup (ds.map .d):=h4
        rw [hR] at hx
        refine wr_ok g (fun i=>by rw [hout]; exact hfzall i) (fun i hi=>by rw [hout]; exact hlow i (by omega)) (fun _=>?_) (fun v _ p hp=>by cases hp) fun v hv=>?_
        · rw [h4]; simp only [TV.ok]; exact ⟨_,rfl,oks_map_c hx⟩
        · rw [h4] at hv
          refine FOkA (hfs _ [] v (Me1.refl _) (fun _=>Me1.refl _) hv) (tyBs_ok (gbOf hC hv.now) hx fun k y hy=>?_)
          show v (6,0 + k,0)=_
          rw [hv.nc,Nat.zero_add]
          show (ds.map A.d).getD k .any=_
          rw [List.getD_eq_getElem?_getD,List.getElem?_map,hy]; rfl
    · rename_i el s ht
      split at h
      · rename_i j hj
        cases h
        rw [ht] at h3
        obtain ⟨t,mc,rfl,rfl,hko,hx⟩:=h3
        rw [hR] at hx
        intro σ' hσ
        rw [hj] at hσ
        cases hσ
        rw [hj] at hrd hwr h4 h5
        simp only [Option.getD_some] at hrd hwr h4 h5
        have hout:∀ i,e.out st.h i=upd hF (C.d,j) (.map ((hF (C.d,j)).ver + 1) t mc) i:=fun i=>by rw [h5]; rfl
        have hoth:∀ i,i ≠ (C.d,j)→e.out st.h i=hF i:=fun i hi=>by
          rw [hout,upd_at,if_neg hi]
        have h4:e.v = .mp (C.d,j) ((hF (C.d,j)).ver + 1):=h4
        rw [hj]
        refine ⟨e,by rw [hj] at he; exact he,hw,⟨hrd,fun y hy=>?_,hra⟩,?_⟩
        · rcases hwr y hy with h | ⟨p,hp,rfl⟩
          · exact List.mem_cons_of_mem _ h
          · simp only [backE,List.mem_singleton] at hp
            rw [hp,slotC_own]; exact List.mem_cons_self
        · refine mk_ok hC g (bc:=[]) (fun q hq=>?_) (fun i hi=>?_) (fun i c hi=>?_) (fun c=>?_) (fun k c=>?_) ?_ (fun ts h=>by cases h) (fun u h=>by cases h) (fun v _ p hp=>by cases hp) fun v hv=>fun f hf=>by cases hf
          · rw [hoth _ (fun h=>hq (by rw [at_inj hC h]; simp))]
            exact hfzall _
          · rw [hoth _ (by rintro rfl; exact Nat.lt_irrefl _ hi)]
            exact hlow i (by omega)
          · rw [hoth _ (fun h=>hi (Prod.mk.inj h).2)]
            exact boxCell_fz (hfzall _) c
          · rw [hout,upd_at,if_pos rfl]; rfl
          · rw [hoth _ (fun h=>hC.dis k (congrArg Prod.fst h))]
            exact boxCell_fz (hfzall _) c
          · simp only [TV.ok]
            refine ⟨_,t,mc,h4,?_,hko,hx⟩
            rw [show C.at (true,j)=(C.d,j) from rfl,hout,upd_at,if_pos rfl]
      · cases h
    · rename_i el b ts ht
      split at h
      · rename_i j hj
        cases h
        rw [ht] at h3
        obtain ⟨xs,ds,hr,rfl,hlen,hx,hds⟩:=h3
        rw [hR] at hx hds
        rw [hE] at hr
        intro σ' hσ
        rw [hj] at hσ
        cases hσ
        rw [hj] at hrd hwr h4 h5
        simp only [Option.getD_some] at hrd hwr h4 h5
        have hoth:∀ i,i ≠ (C.d,j)→e.out st.h i=hF i:=fun i hi=>by
          rw [h5]
          rcases hr with rfl | rfl
          · show upd _ (C.d,j) _ i=_
            rw [upd_at,if_neg hi]
          · rfl
        have htv:TV.ok C (e.out st.h) (.tup (.own (true,j) el :: ts.map .c)) e.v:=by
          rw [h4,h5]
          simp only [TV.ok]
          rcases hr with rfl | rfl
          · refine ⟨_,rfl,?_⟩
            simp only [TV.oks,TV.ok]
            refine ⟨_,_,rfl,Or.inr ⟨_,_,xs,false,rfl,?_,rfl,hx⟩,oks_map_c hds⟩
            show upd _ (C.d,j) _ (C.d,j)=_
            rw [upd_at,if_pos rfl]
          · refine ⟨_,rfl,?_⟩
            simp only [TV.oks,TV.ok]
            exact ⟨_,_,rfl,Or.inl ⟨xs,rfl,hx⟩,oks_map_c hds⟩
        obtain ⟨a0,hv0,ha0⟩:∃ a0,e.v = .tup (a0 :: ds.map .d)∧Me (.d (.lst xs)) a0:=by
          rw [h4]
          rcases hr with rfl | rfl
          · exact ⟨_,rfl,me_lst2 xs _ _⟩
          · exact ⟨_,rfl,me_lst1 xs⟩
        have hme:Me1 (.tup (.d (.lst xs) :: ds.map .d)) e.v ∧ ∀ c,Me1 ((A.tup (.d (.lst xs) :: ds.map .d)).parts.getD c .any) (e.v.parts.getD c .any):=by
          rw [hv0]
          refine ⟨⟨rfl,rfl,rfl⟩,fun c=>?_⟩
          cases c with
          | zero=>exact ha0.w
          | succ c=>exact Me1.refl _
        rw [hj]
        refine ⟨e,by rw [hj] at he; exact he,hw,⟨hrd,fun y hy=>?_,hra⟩,?_⟩
        · rcases hwr y hy with h | ⟨p,hp,rfl⟩
          · exact List.mem_cons_of_mem _ h
          · have hp1:p.1=(C.d,j):=by
              rcases hr with rfl | rfl
              · simp only [backE,List.mem_singleton] at hp
                rw [hp]
              · cases hp
            rw [hp1,slotC_own]; exact List.mem_cons_self
        · let bc:List A:=boxCs (e.out st.h (C.d,j))
          refine mk_ok hC g (bc:=bc) (fun q hq=>?_) (fun i hi=>?_) (fun i c hi=>?_) (fun c=>boxCs_ok _ _) (fun k c=>?_) htv (fun ts h=>by cases h) (fun u h=>by cases h) (fun v _ p hp=>by cases hp) fun v hv=>?_
          · rw [hoth _ (fun h=>hq (by rw [at_inj hC h]; simp))]
            exact hfzall _
          · rw [hoth _ (by rintro rfl; exact Nat.lt_irrefl _ hi)]
            exact hlow i (by omega)
          · rw [hoth _ (fun h=>hi (Prod.mk.inj h).2)]
            exact boxCell_fz (hfzall _) c
          · rw [hoth _ (fun h=>hC.dis k (congrArg Prod.fst h))]
            exact boxCell_fz (hfzall _) c
          · refine FOkA (hfs _ bc v hme.1 hme.2 hv) (FOkA ?_ (tyBs_ok (gbOf hC hv.now) hds fun c y hy=>?_))
            · intro f hf
              simp only [tyB,List.mem_singleton] at hf
              subst hf
              show lenA (v (6,0,0)) + _ ≤ 0
              rw [hv.nc,hv0]
              show lenA a0 + _ ≤ 0
              rw [← ha0.w.l]
              show (xs.length:Int) + _ ≤ 0
              omega
            · show v (6,1 + c,0)=_
              rw [hv.nc,hv0]
              show (a0 :: ds.map A.d).getD (1 + c) .any=_
              rw [Nat.add_comm,List.getD_cons_succ,List.getD_eq_getElem?_getD,List.getElem?_map,hy]; rfl
      · cases h
    · rename_i el b ht
      split at h
      · rename_i j hj
        cases h
        rw [ht] at h3
        obtain ⟨xs,hr,rfl,hlen,hx⟩:=h3
        rw [hR] at hx
        rw [hE] at hr
        intro σ' hσ
        rw [hj] at hσ
        cases hσ
        rw [hj] at hrd hwr h4 h5
        simp only [Option.getD_some] at hrd hwr h4 h5
        have hoth:∀ i,i ≠ (C.d,j)→e.out st.h i=hF i:=fun i hi=>by
          rw [h5]
          rcases hr with rfl | rfl
          · rfl
          · show upd _ (C.d,j) _ i=_
            rw [upd_at,if_neg hi]
        have htv:TV.ok C (e.out st.h) (.rl (true,j) el) e.v:=by
          rw [h4,h5]
          simp only [TV.ok]
          rcases hr with rfl | rfl
          · exact Or.inr ⟨xs,rfl,hx⟩
          · refine Or.inl (Or.inr ⟨_,_,xs,false,rfl,?_,rfl,hx⟩)
            show upd _ (C.d,j) _ (C.d,j)=_
            rw [upd_at,if_pos rfl]
        have hme:Me1 (.d (.lst xs)) e.v ∧ ∀ c,Me1 ((A.d (.lst xs)).parts.getD c .any) (e.v.parts.getD c .any):=by
          rw [h4]
          rcases hr with rfl | rfl
          · exact ⟨Me1.refl _,fun _=>Me1.refl _⟩
          · exact ⟨(me_lst2 xs _ _).w,(me_lst2 xs _ _).c⟩
        rw [hj]
        refine ⟨e,by rw [hj] at he; exact he,hw,⟨hrd,fun y hy=>?_,hra⟩,?_⟩
        · rcases hwr y hy with h | ⟨p,hp,rfl⟩
          · exact List.mem_cons_of_mem _ h
          · have hp1:p.1=(C.d,j):=by
              rcases hr with rfl | rfl
              · cases hp
              · simp only [backE,List.mem_singleton] at hp
                rw [hp]
            rw [hp1,slotC_own]; exact List.mem_cons_self
        · let bc:List A:=boxCs (e.out st.h (C.d,j))
          refine mk_ok hC g (bc:=bc) (fun q hq=>?_) (fun i hi=>?_) (fun i c hi=>?_) (fun c=>boxCs_ok _ _) (fun k c=>?_) htv (fun ts h=>by cases h) (fun u h=>by cases h) (fun v _ p hp=>by cases hp) fun v hv=>?_
          · rw [hoth _ (fun h=>hq (by rw [at_inj hC h]; simp))]
            exact hfzall _
          · rw [hoth _ (by rintro rfl; exact Nat.lt_irrefl _ hi)]
            exact hlow i (by omega)
          · rw [hoth _ (fun h=>hi (Prod.mk.inj h).2)]
            exact boxCell_fz (hfzall _) c
          · rw [hoth _ (fun h=>hC.dis k (congrArg Prod.fst h))]
            exact boxCell_fz (hfzall _) c
          · refine FOkA (hfs _ bc v hme.1 hme.2 hv) ?_
            intro f hf
            simp only [tyB,List.mem_singleton] at hf
            subst hf
            show lenA (v (5,0,0)) + _ ≤ 0
            rw [hv.nv,← hme.1.l]
            show (xs.length:Int) + _ ≤ 0
            omega
      · cases h
  ·
    split at h
    · rename_i t ht
      cases h
      rw [ht] at h3
      obtain ⟨x,rfl,rfl,hx⟩:=h3
      rw [hR] at hx
      intro σ' hσ
      cases hσ
      have hout:e.out st.h=hF:=h5
      have h4:e.v = .d x:=h4
      refine ⟨e,he,hw,⟨hrd,fun y hy=>?_,hra⟩,?_⟩
      · rcases hwr y hy with h | ⟨p,hp,_⟩
        · exact h
        · cases hp
      · have:=call_gen hC g H (dst:=o.dst) (t:=.c t) (kj:=[]) (new:=tyN C.E t) (fun q _ h=>by cases h) (fun q _=>by rw [hout]) (fun i _=>by rw [hout]) (fun _=>by rw [h4]; simp only [TV.ok]; exact ⟨x,rfl,hx⟩) h4 (Me1.refl _) (fun _=>Me1.refl _) (fun v h0 h1 h2=>tyN_ok3 hC (gbOf hC h0) (bdOf hC h0) hx h1 h2)
        exact this
    · rename_i ts ht
      cases h
      rw [ht] at h3
      obtain ⟨ds,rfl,rfl,hx⟩:=h3
      rw [hR] at hx
      intro σ' hσ
      cases hσ
      have hout:e.out st.h=hF:=h5
      have h4:e.v = .tup (ds.map .d):=h4
      refine ⟨e,he,hw,⟨hrd,fun y hy=>?_,hra⟩,?_⟩
      · rcases hwr y hy with h | ⟨p,hp,_⟩
        · exact h
        · cases hp
      · have:=call_gen hC g H (dst:=o.dst) (t:=.tup (ts.map .c)) (kj:=[]) (new:=tyBs (fun c=>(6,c,0)) 0 ts) (fun q _ h=>by cases h) (fun q _=>by rw [hout]) (fun i _=>by rw [hout]) (fun _=>by rw [h4]; simp only [TV.ok]; exact ⟨_,rfl,oks_map_c hx⟩) h4 (Me1.refl _) (fun _=>Me1.refl _) (fun v h0 h1 h2=>tyBs_ok (gbOf hC h0) hx fun k y hy=>by
          show v (6,0 + k,0)=_
          rw [h2,Nat.zero_add]
          show (ds.map A.d).getD k .any=_
          rw [List.getD_eq_getElem?_getD,List.getElem?_map,hy]; rfl)
        exact this
    · cases h
    · cases h
    · rename_i el b ht
      split at h
      · rename_i j hj
        split at h
        · cases h
        rename_i hpj
        cases h
        have hpj:(true,j) ∉ pls:=by simpa using hpj
        rw [ht] at h3
        obtain ⟨xs,hr,rfl,hlen,hx⟩:=h3
        rw [hR] at hx
        rw [hE] at hr
        intro σ' hσ
        rw [hj] at hσ
        cases hσ
        rw [hj] at hrd hwr h4 h5
        simp only [Option.getD_some] at hrd hwr h4 h5
        have hoth:∀ i,i ≠ (C.d,j)→e.out st.h i=hF i:=fun i hi=>by
          rw [h5]
          rcases hr with rfl | rfl
          · rfl
          · show upd _ (C.d,j) _ i=_
            rw [upd_at,if_neg hi]
        have htv:TV.ok C (e.out st.h) (.rl (true,j) el) e.v:=by
          rw [h4,h5]
          simp only [TV.ok]
          rcases hr with rfl | rfl
          · exact Or.inr ⟨xs,rfl,hx⟩
          · refine Or.inl (Or.inr ⟨_,_,xs,false,rfl,?_,rfl,hx⟩)
            show upd _ (C.d,j) _ (C.d,j)=_
            rw [upd_at,if_pos rfl]
        have hme:Me1 (.d (.lst xs)) e.v ∧ ∀ c,Me1 ((A.d (.lst xs)).parts.getD c .any) (e.v.parts.getD c .any):=by
          rw [h4]
          rcases hr with rfl | rfl
          · exact ⟨Me1.refl _,fun _=>Me1.refl _⟩
          · exact ⟨(me_lst2 xs _ _).w,(me_lst2 xs _ _).c⟩
        rw [hj]
        refine ⟨e,by rw [hj] at he; exact he,hw,⟨hrd,fun y hy=>?_,hra⟩,?_⟩
        · rcases hwr y hy with h | ⟨p,hp,rfl⟩
          · exact List.mem_cons_of_mem _ h
          · have hp1:p.1=(C.d,j):=by
              rcases hr with rfl | rfl
              · cases hp
              · simp only [backE,List.mem_singleton] at hp
                rw [hp]
            rw [hp1,slotC_own]; exact List.mem_cons_self
        · have H':CallR C C' X σ st c pls srcs zs (C.d,j) ids r (.d (.lst xs)) e hF:=by rw [hj] at H; exact H
          have:=call_gen hC g H' (dst:=some j) (t:=.rl (true,j) el) (kj:=[(true,j)]) (new:=tyB (5,0,0) (.lst el b)) (fun q hq h=>by
            simp only [List.mem_singleton] at h
            subst h; exact hpj hq) (fun q hq=>hoth _ fun h=>hq (by rw [at_inj hC h]; simp)) (fun i hi=>hoth _ (by rintro rfl; exact Nat.lt_irrefl _ hi)) (fun _=>htv) rfl hme.1 hme.2 (fun v _ h1 h2=>by
            intro f hf
            simp only [tyB,List.mem_singleton] at hf
            subst hf
            show lenA (v (5,0,0)) + _ ≤ 0
            rw [h1,← hme.1.l]
            show (xs.length:Int) + _ ≤ 0
            omega)
          exact this
      · cases h
def Ctrs (C:Cx) (X:Orc) (DB:List Ctr):Prop:=∀ c ∈ DB,c.Ok C X
theorem sCall_ok {C:Cx} (hC:C.Ok) {X:Orc} {DB:List Ctr} (hDB:Ctrs C X DB) {σ:SS} {st:St} (g:Ga C σ st) {o:Oper} {f:FuncId} {srcs:List Src} {zs:List A} (hz:TV.oks C st.h (srcs.map (Src.t σ)) zs) (hzo:∀ (i:Nat) (x:Operand),srcs[i]? = some (Src.op x)→zs[i]? = some (st.ev x))
    (hop:opE C.P X st.d st.ev st.h (st.d,o.dst.getD st.n) o=callE X st.d st.h (st.d,o.dst.getD st.n) f zs) {out:Out} (h:sCall C.E C.np C.wl C.ads DB σ o.dst f srcs=some out):OpOk C X σ st o out:=by
  unfold sCall at h
  simp only at h
  split at h
  · rename_i c hc
    have h1:=List.find?_some hc
    simp only [Bool.and_eq_true] at h1
    have hcf:c.f=f:=Nat.eq_of_beq_eq_true h1.1
    subst hcf
    exact sCall_core hC g (hDB c (List.mem_of_find?_eq_some hc)) hz hzo rfl h1.2 hop h
  · cases h
theorem oks_srcs {C:Cx} {σ:SS} {st:St} (g:Ga C σ st) {caps:List TV} {cs:List A} (hc:TV.oks C st.h caps cs):∀ l:List Operand,TV.oks C st.h ((l.map Src.op ++ caps.map Src.tv).map (Src.t σ)) (l.map st.ev ++ cs)
  | []=>by
    simp only [List.map_nil,List.nil_append,List.map_map]
    have:(caps.map (Src.t σ ∘ Src.tv))=caps:=by
      rw [show (Src.t σ ∘ Src.tv)=id from rfl]; simp
    rw [this]; exact hc
  | o :: l=>by
    simp only [List.map_cons,List.cons_append,TV.oks]
    exact ⟨_,_,rfl,opTV_ok g o,oks_srcs g hc l⟩
theorem srcs_ev {st:St} {caps:List TV} {cs:List A} (l:List Operand):∀ (i:Nat) (x:Operand),(l.map Src.op ++ caps.map Src.tv)[i]? = some (Src.op x)→(l.map st.ev ++ cs)[i]? = some (st.ev x):=by
  intro i x hx
  by_cases hi:i < l.length
  · rw [List.getElem?_append_left (by simpa using hi),List.getElem?_map] at hx ⊢
    · cases hl:l[i]? with
      | none=>rw [hl] at hx; cases hx
      | some y=>rw [hl] at hx; cases hx; rfl
  · rw [List.getElem?_append_right (by simpa using hi),List.getElem?_map] at hx
    cases hl:caps[i - (l.map Src.op).length]? with
    | none=>rw [hl] at hx; cases hx
    | some y=>rw [hl] at hx; cases hx
def sCallOp (E:Nat→Option (List Ty)) (np:Nat) (wl:List Nat) (ads:List (Nat × Nat)) (DB:List Ctr) (σ:SS) (dst:Option Nat) (x:Operand) (args:List Operand):Option Out :=
  match x with
  | .func f=>sCall E np wl ads DB σ dst f (args.map Src.op)
  | x=>match opTV σ x with
    | .clo f caps=>sCall E np wl ads DB σ dst f (args.map Src.op ++ caps.map Src.tv)
    | _=>none
theorem sCallOp_ok {C:Cx} (hC:C.Ok) {X:Orc} {DB:List Ctr} (hDB:Ctrs C X DB) {σ:SS} {st:St} (g:Ga C σ st) {o:Oper} {x:Operand} {args:Array Operand} {ts:Array TypeId} (ho:o.op = .call ⟨.value x,args,ts⟩) {out:Out} (h:sCallOp C.E C.np C.wl C.ads DB σ o.dst x args.toList=some out):OpOk C X σ st o out:=by
  unfold sCallOp at h
  split at h
  · rename_i f
    refine sCall_ok hC hDB g (zs:=args.toList.map st.ev) ?_ ?_ ?_ h
    · have:=oks_srcs g (caps:=[]) (cs:=[]) (by simp [TV.oks]) args.toList
      simpa using this
    · intro i y hy
      have:=srcs_ev (st:=st) (caps:=[]) (cs:=[]) args.toList i y (by simpa using hy)
      simpa using this
    · obtain ⟨dst,op,ty,pos,af,gd⟩:=o
      simp only at ho
      subst ho; rfl
  · rename_i hnf
    split at h
    · rename_i f caps hx
      have hok:=opTV_ok g x
      rw [hx] at hok
      simp only [TV.ok] at hok
      obtain ⟨cs,hxv,hcs⟩:=hok
      refine sCall_ok hC hDB g (zs:=args.toList.map st.ev ++ cs) (oks_srcs g hcs _) (srcs_ev _) ?_ h
      obtain ⟨dst,op,ty,pos,af,gd⟩:=o
      simp only at ho
      subst ho
      have key:∀ y:Operand,(∀ f',y ≠ .func f')→opE C.P X st.d st.ev st.h (st.d,dst.getD st.n) ⟨dst,.call ⟨.value y,args,ts⟩,ty,pos,af,gd⟩=(match st.ev y with | .clo f caps=>callE X st.d st.h (st.d,dst.getD st.n) f (args.toList.map st.ev ++ caps) | _=>none):=by
        intro y hy
        cases y <;> first | rfl | exact absurd rfl (hy _)
      refine (key x fun f' e=>hnf f' e).trans ?_
      rw [hxv]
    · cases h
end
end
section
noncomputable section
theorem Ga.nows {C:Cx} {σ:SS} {st:St} (g:Ga C σ st):FOk (apv C st) σ.fs:=g.fs _ (fun _ _=>rfl)
theorem cells_any {C:Cx} (hC:C.Ok) {h:Id→O} {t:TV} {a:A} {l:List TV} (hx:TV.ok C h t a) (hl:cellsTV C.E t=some l):a.isAny=false:=by
  cases a with
  | any =>
    obtain ⟨_,h1,_⟩:=cellsTV_ok hC hx hl
    simp [A.cells,A.one] at h1
  | _=>rfl
structure Fill where
  cells:List TV
  cp:List (AP × AP)
  fs:List Fact
def inR (off n:Nat) (a:AP):Bool:=a.1 == 6 && decide (off ≤ a.2.1) && decide (a.2.1 < off + n)
def refT (E:Nat→Option (List Ty)) (T:Operand→Option TV) (x:Operand) (l:List TV):List TV:=match T x with
  | some t=>(match cellsTV E t with | some l'=>if l'.length == l.length then l' else l | none=>l)
  | none=>l
def fillS (E:Nat→Option (List Ty)) (σ:SS) (T:Operand→Option TV) (place:Nat→Option (Nat × Nat)):Fill→List (Nat × Operand)→Option Fill
  | f,[]=>some f
  | f,(i,x) :: rest =>
    match place i,cellsTV E (opTV σ x) with
    | some (off,size),some l =>
      if l.length == size && decide (off + l.length ≤ f.cells.length) then
        let c:=cellF E σ x (fun c=>(6,off + c,0)) l
        fillS E σ T place { cells:=putL f.cells off (refT E T x l),cp:=c.1 ++ f.cp.filter fun p=>!(inR off l.length p.1 || inR off l.length p.2),fs:=c.2 ++ f.fs.filter fun g=>!g.men (inR off l.length) } rest
      else none
    | _,_=>none
def FillOk (C:Cx) (st:St) (f:Fill) (zs:List A):Prop :=
  TV.oks C st.h f.cells zs ∧ ∀ v,Now C st v→(∀ c y,v (6,c,y)=zs.getD c .any)→(∀ p ∈ f.cp,v p.1=v p.2)∧FOk v f.fs
theorem put_in {l:List A} {off:Nat} {xs:List A} (h:off + xs.length ≤ l.length) {c:Nat} (hc:c < xs.length):(put l off xs).getD (off + c) .any=xs.getD c .any:=by
  unfold put
  have htl:(l.take off).length=off:=by simp; omega
  have:=getD_app2 (l:=l.take off) (m:=xs ++ l.drop (off + xs.length)) (i:=c) (d:=A.any)
  rw [htl] at this
  rw [List.append_assoc,this,getD_app1 hc]
theorem put_out {l:List A} {off:Nat} {xs:List A} (h:off + xs.length ≤ l.length) {c:Nat} (hc:c < off ∨ off + xs.length ≤ c):(put l off xs).getD c .any=l.getD c .any:=by
  unfold put
  have htl:(l.take off).length=off:=by simp; omega
  rcases hc with hc | hc
  · rw [List.append_assoc,getD_app1 (by omega),getD_take hc]
  · have e1:(l.take off ++ xs).length=off + xs.length:=by rw [List.length_append,htl]
    have e2:=getD_app2 (l:=l.take off ++ xs) (m:=l.drop (off + xs.length)) (i:=c - (off + xs.length)) (d:=A.any)
    rw [e1,show off + xs.length + (c - (off + xs.length))=c by omega,getD_drop,show off + xs.length + (c - (off + xs.length))=c by omega] at e2
    exact e2
theorem refT_ok {C:Cx} (hC:C.Ok) {st:St} {T:Operand→Option TV} (hT:∀ x t,T x=some t→TV.ok C st.h t (st.ev x)) {x:Operand} {l:List TV} (h:TV.oks C st.h l (st.ev x).cells):TV.oks C st.h (refT C.E T x l) (st.ev x).cells∧(refT C.E T x l).length=l.length:=by
  unfold refT
  split
  · rename_i t ht
    split
    · rename_i l' hl
      split
      · rename_i he
        exact ⟨(cellsTV_ok hC (hT x t ht) hl).1,eq_of_beq he⟩
      · exact ⟨h,rfl⟩
    · exact ⟨h,rfl⟩
  · exact ⟨h,rfl⟩
theorem fillS_ok {C:Cx} (hC:C.Ok) {σ:SS} {st:St} (g:Ga C σ st) {T:Operand→Option TV} (hT:∀ x t,T x=some t→TV.ok C st.h t (st.ev x)) {place:Nat→Option (Nat × Nat)}:∀ {parts:List (Nat × Operand)} {f f':Fill} {zs:List A},fillS C.E σ T place f parts=some f'→FillOk C st f zs→∃ zs',fillA place zs (parts.map fun p=>(p.1,st.ev p.2))=some zs' ∧ FillOk C st f' zs'
  | [],f,f',zs,h,hf=>by
    simp only [fillS,Option.some.injEq] at h
    subst h
    exact ⟨zs,rfl,hf⟩
  | (i,x) :: rest,f,f',zs,h,hf=>by
    unfold fillS at h
    split at h
    · rename_i off size l hpl hl
      split at h
      · rename_i hc
        rw [Bool.and_eq_true] at hc
        have hc1:l.length=size:=eq_of_beq hc.1
        have hc2:=of_decide_eq_true hc.2
        have hok:=opTV_ok g x
        obtain ⟨x1,x2,x3,x4⟩:=cellsTV_ok hC hok hl
        have hlen:=oks_len hf.1
        have hfit:off + (st.ev x).cells.length ≤ zs.length:=by omega
        have hrt:=refT_ok hC hT x1
        have step:FillOk C st { cells:=putL f.cells off (refT C.E T x l),cp:=(cellF C.E σ x (fun c=>(6,off + c,0)) l).1 ++ f.cp.filter fun p=>!(inR off l.length p.1 || inR off l.length p.2),fs:=(cellF C.E σ x (fun c=>(6,off + c,0)) l).2 ++ f.fs.filter fun g=>!g.men (inR off l.length) } (put zs off (st.ev x).cells):=by
          refine ⟨?_,fun v hv hv6=>?_⟩
          · show TV.oks C st.h (putL f.cells off (refT C.E T x l)) _
            unfold put putL
            rw [x3,hrt.2]
            exact oks_app (oks_app (oks_take off hf.1) hrt.1) (oks_drop _ hf.1)
          · have hc:=cellF_ok hC g (f:=fun c=>(6,off + c,0)) hl hv fun c hc=>by
              rw [hv6,put_in hfit (by omega)]
            let w:AP→A:=fun a=>if inR off l.length a=true then zs.getD a.2.1 .any else v a
            have hwv:∀ a,inR off l.length a=false→w a=v a:=fun a ha=>by
              show (if _ then _ else _)=_
              rw [if_neg (by rw [ha]; simp)]
            have hw:Now C st w:=fun a ha=>by
              rw [hwv a ?_,hv a ha]
              unfold inR
              have:(a.1 == 6)=false:=by simp; omega
              rw [this]; rfl
            have hw6:∀ c y,w (6,c,y)=zs.getD c .any:=fun c y=>by
              by_cases hin:inR off l.length (6,c,y)=true
              · show (if _ then _ else _)=_
                rw [if_pos hin]
              · have hin:inR off l.length (6,c,y)=false:=by simpa using hin
                rw [hwv _ hin,hv6,put_out hfit ?_]
                simp [inR] at hin
                omega
            have hold:=hf.2 w hw hw6
            refine ⟨fun p hp=>?_,FOkA hc.2 fun q hq=>?_⟩
            · rcases List.mem_append.1 hp with hp | hp
              · exact hc.1 p hp
              · obtain ⟨hp,hn⟩:=List.mem_filter.1 hp
                have hn:inR off l.length p.1=false∧inR off l.length p.2=false:=by simpa using hn
                rw [← hwv _ hn.1,← hwv _ hn.2]
                exact hold.1 p hp
            · obtain ⟨hq,hn⟩:=List.mem_filter.1 hq
              exact Fact.ok_agree hwv (by simpa using hn) (hold.2 q hq)
        obtain ⟨zs',h1,h2⟩:=fillS_ok hC g hT h step
        refine ⟨zs',?_,h2⟩
        simp only [List.map_cons,fillA,hpl]
        rw [if_neg ?_]
        · exact h1
        · rintro (h | h | h)
          · exact h (by rw [x3,hc1])
          · omega
          · rw [cells_any hC hok hl] at h; cases h
      · cases h
    · cases h
def zeroFs6:Nat→List Value→List Fact
  | _,[]=>[]
  | k,v :: l=>cstFs (6,k,0) v ++ zeroFs6 (k + 1) l
theorem zeroFs6_ok {v:AP→A}:∀ {l:List Value} {k:Nat},(∀ c,c < l.length→∀ x,l[c]? = some x→v (6,k + c,0)=ofCell x)→FOk v (zeroFs6 k l)
  | [],k,h=>fun f hf=>by cases hf
  | x :: l,k,h=>fun f hf=>by
    rcases List.mem_append.1 hf with hf | hf
    · exact cstFs_ok (h 0 (by simp) x (by simp)) f hf
    · exact zeroFs6_ok (l:=l) (k:=k + 1) (fun c hc y hy=>by
        have:=h (c + 1) (by simp; omega) y (by simpa using hy)
        rw [show k + 1 + c=k + (c + 1) by omega]; exact this) f hf
def fill0 (z:Value):Fill:={ cells:=z.cells.toList.map valTV,cp:=[],fs:=zeroFs6 0 z.cells.toList }
theorem fill0_ok (C:Cx) (st:St) (z:Value):FillOk C st (fill0 z) (z.cells.toList.map ofCell):=by
  refine ⟨oks_vals C st.h _,fun v hv hv6=>⟨fun p hp=>(by cases hp),zeroFs6_ok fun c _ x hx=>?_⟩⟩
  rw [Nat.zero_add,hv6,List.getD_eq_getElem?_getD,List.getElem?_map,hx]; rfl
def sBuild (P:Program) (E:Nat→Option (List Ty)) (σ:SS) (t:TypeId) (parts:List (Nat × Operand)):Option Out :=
  match tzero P t,P.underlying t with
  | some z,some (.struct fs) =>
    match places P fs.toList with
    | some pl=>(fillS E σ (fun _=>none) (fun i=>pl[i]?) (fill0 z) parts).map fun f=>{ act:=.wr (mkTV f.cells) f.cp f.fs }
    | none=>none
  | _,_=>none
theorem sBuild_ok {C:Cx} (hC:C.Ok) {X:Orc} {σ:SS} {st:St} (g:Ga C σ st) {o:Oper} {t:TypeId} {parts:Array (Nat × Operand)} (ho:o.op = .build t parts) {out:Out} (h:sBuild C.P C.E σ t parts.toList=some out):OpOk C X σ st o out:=by
  have hop:opE C.P X st.d st.ev st.h (st.d,o.dst.getD st.n) o=plainE (buildE C.P t (parts.toList.map fun p=>(p.1,st.ev p.2))):=by
    obtain ⟨dst,op,ty,pos,af,gd⟩:=o
    simp only at ho
    subst ho; rfl
  unfold sBuild at h
  split at h
  · rename_i z fs hz hu
    split at h
    · rename_i pl hpl
      cases hfl:fillS C.E σ (fun _=>none) (fun i=>pl[i]?) (fill0 z) parts.toList with
      | none=>rw [hfl] at h; cases h
      | some f =>
        rw [hfl] at h
        cases h
        obtain ⟨zs,h1,h2,h3⟩:=fillS_ok hC g (fun x t h=>by cases h) hfl (fill0_ok C st z)
        refine out_val hC g (a:=A.mk zs) (rd:=[]) ?_ (mkTV_ok h2) (fun _ hi=>by cases hi) fun v hv=>h3 v hv.now fun c y=>by rw [hv.nc,(mk_cells zs).2.2]
        rw [hop]
        unfold buildE
        rw [hz,hu]
        simp only [hpl,h1]
        rfl
    · cases h
  · cases h
end
end
section
noncomputable section
def bestLe (fs:List Fact) (a b:Term):Option Int:=best b (closure fs 14 [(a,0)])
theorem bestLe_ok {v:AP→A} {fs:List Fact} (hf:FOk v fs) {a b:Term} {c:Int} (h:bestLe fs a b=some c):tv v a + c ≤ tv v b:=by
  have h0:BOk v a [(a,0)]:=fun p hp=>by
    simp only [List.mem_singleton] at hp; subst hp; simp
  obtain ⟨p,hp,h2,rfl⟩:=best_ok h
  have h1:=closure_ok hf 14 h0 p hp
  rw [h2] at h1
  exact h1
def loI (fs:List Fact) (L:Term × Int):Int:=if L.1 == zT then L.2 else match bestLe fs zT L.1 with | some c=>if 0 ≤ c then c + L.2 else L.2 | none=>L.2
def hiI (fs:List Fact) (L:Term × Int):Option Int:=if L.1 == zT then some L.2 else (bestLe fs L.1 zT).map fun c=>L.2 - c
theorem loI_ok {v:AP→A} {fs:List Fact} (hf:FOk v fs) {L:Term × Int} (hn:0 ≤ tv v L.1):loI fs L ≤ tv v L.1 + L.2:=by
  unfold loI
  have z0:tv v zT=0:=rfl
  split
  · omega
  · split
    · rename_i c hc
      have:=bestLe_ok hf hc
      split <;> omega
    · omega
theorem hiI_ok {v:AP→A} {fs:List Fact} (hf:FOk v fs) {L:Term × Int} {c:Int} (h:hiI fs L=some c):tv v L.1 + L.2 ≤ c:=by
  unfold hiI at h
  have z0:tv v zT=0:=rfl
  split at h
  · rename_i e
    have e:=eq_of_beq e
    cases h
    rw [e,z0]; omega
  · cases hb:bestLe fs L.1 zT with
    | none=>rw [hb] at h; cases h
    | some d =>
      rw [hb] at h
      cases h
      have:=bestLe_ok hf hb
      show tv v L.1 + L.2 ≤ L.2 - d
      omega
def srcT (t:TV):Option (Ty × List PL) :=
  match t with
  | .c (.lst e _)=>some (e,[])
  | .own p e | .rl p e=>some (e,[p])
  | _=>none
theorem srcT_ok {C:Cx} {h:Id→O} {t:TV} {a:A} {e:Ty} {ps:List PL} (hx:TV.ok C h t a) (hs:srcT t=some (e,ps)):∃ xs rd,elemsOf h a=some (xs,rd)∧(xs.length:Int)=lenA a∧(∀ x ∈ xs,ShT C.R e x) ∧ ∀ i ∈ rd,∃ p ∈ ps,i=C.at p:=by
  have no:∀ i ∈ ([]:List Id),∃ p ∈ ps,i=C.at p:=fun i hi=>by cases hi
  have sl:∀ p ver n (xs:List D) fz,a = .sl (C.at p) ver 0 xs.length→h (C.at p) = .vec ver n xs fz→(∀ x ∈ xs,ShT C.R e x)→p ∈ ps→∃ xs rd,elemsOf h a=some (xs,rd)∧(xs.length:Int)=lenA a∧(∀ x ∈ xs,ShT C.R e x) ∧ ∀ i ∈ rd,∃ p ∈ ps,i=C.at p:=by
    rintro p ver n xs fz rfl hv h1 hp
    refine ⟨xs,[C.at p],?_,rfl,h1,fun i hi=>⟨p,hp,by simpa using hi⟩⟩
    simp only [elemsOf,hv]
    rw [if_pos ⟨trivial,by omega⟩]
    simp
  unfold srcT at hs
  split at hs
  · cases hs
    simp only [TV.ok,ShT] at hx
    obtain ⟨_,rfl,xs,rfl,_,h1⟩:=hx
    exact ⟨xs,[],rfl,rfl,h1,no⟩
  · cases hs
    simp only [TV.ok] at hx
    rcases hx with ⟨xs,rfl,h1⟩ | ⟨ver,n,xs,fz,h1,h2,_,h3⟩
    · exact ⟨xs,[],rfl,rfl,h1,no⟩
    · exact sl _ ver n xs fz h1 h2 h3 (by simp)
  · cases hs
    simp only [TV.ok] at hx
    rcases hx with (⟨xs,rfl,h1⟩ | ⟨ver,n,xs,fz,h1,h2,_,h3⟩) | ⟨xs,rfl,h1⟩
    · exact ⟨xs,[],rfl,rfl,h1,no⟩
    · exact sl _ ver n xs fz h1 h2 h3 (by simp)
    · exact ⟨xs,[],rfl,rfl,h1,no⟩
  · cases hs
theorem headOk_of {C:Cx} (hC:C.Ok) {e:Ty} {sz:Nat} (hsz:sz=e.sz C.E) {xs:List D} (h:∀ x ∈ xs,ShT C.R e x):headOk sz xs=true:=by
  cases xs with
  | nil=>rfl
  | cons x l =>
    show (x.cells.length == sz)=true
    rw [(h x List.mem_cons_self).sz hC.rel,hsz]
    simp
def appFs (fs:List Fact) (S L:Term × Int):List Fact :=
  [.f (leF S ((2,5,0,0),0) (loI fs L))] ++ (match hiI fs L with | some c=>[.f (leF ((2,5,0,0),0) S (-c))] | none=>[])
theorem adopt_lt {i:Id} {k d:Nat} (h:i.1 < d):(adoptId i k).1 < d:=h
def adIn (ads:List (Nat × Nat)) (n:Nat):Bool:=decide (1000 ≤ n) && ads.contains ((n - 1000) / 64,(n - 1000) % 64)
def sAppend (P:Program) (E:Nat→Option (List Ty)) (ads:List (Nat × Nat)) (σ:SS) (dst:Option Nat) (t t':TypeId) (s x:Operand):Option Out :=
  match dst,telem P t,opL σ s,opL σ x,srcT (opTV σ x) with
  | some j,some e,some S,some L,some (ex,ps) =>
    match tsize P e,tzero P e,hiI σ.fs S,hiI σ.fs L with
    | some sz,some z,some cs,some cx =>
      if okSrc P t' && decide (0 < sz) && z.cells.size == sz && sz == ex.sz E && decide ((cs + cx) * (P.bytesOf e + 1) ≤ 70368744177664) && decide (0 ≤ cs) && decide (0 ≤ cx) then
        match opTV σ s with
        | .nilv=>some { act:=.mk (.own (true,j) ex) [] none [] (appFs σ.fs S L),rd:=(j + 1) :: ps.map sN,wr:=[j + 1] }
        | .own (true,pj) el=>if Ty.subE E ex el && sz == el.sz E then some { act:=.mk (.own (true,j) el) [(true,pj)] none [] (appFs σ.fs S L),rd:=(j + 1) :: sN (true,pj) :: ps.map sN,wr:=[sN (true,pj),j + 1] } else none
        | .own (false,n) el=>if adIn ads n && (Ty.subE E ex el && sz == el.sz E) then some { act:=.gen (.own (true,j) el) [(true,j),(false,n)] [] [] (appFs σ.fs S L),rd:=(j + 1) :: sN (false,n) :: ps.map sN,wr:=[sN (false,n),j + 1] } else none
        | _=>none
      else none
    | _,_,_,_=>none
  | _,_,_,_,_=>none
theorem appFs_ok {v:AP→A} {fs:List Fact} (hf:FOk v fs) {S L:Term × Int} {a b n:Int} (h5:lenA (v (5,0,0))=n) (hn:n=a + b) (ha:a=tv v S.1 + S.2) (hb:b=tv v L.1 + L.2) (hL:0 ≤ tv v L.1):FOk v (appFs fs S L):=by
  have h6:tv v (2,5,0,0)=n:=h5
  refine FOkA ?_ ?_
  · intro f hm
    simp only [List.mem_singleton] at hm
    subst hm
    have:=loI_ok hf hL
    exact leF_ok.2 (by simp only [h6]; omega)
  · split
    · rename_i c hc
      intro f hm
      simp only [List.mem_singleton] at hm
      subst hm
      have:=hiI_ok hf hc
      exact leF_ok.2 (by simp only [h6]; omega)
    · intro f hm; cases hm
theorem opL_nn {σ:SS} {o:Operand} {T:Term} {z:Int} (h:opL σ o=some (T,z)) (v:AP→A):0 ≤ tv v T:=by
  unfold opL at h
  split at h
  · split at h
    · cases h; exact lenA_nonneg _
    · cases h
  · cases h; exact Int.le_refl _
  · cases h; exact Int.le_refl _
  · cases h
theorem appendE_own {P:Program} {h:Id→O} {id i:Id} {t e:TypeId} {x:A} {sz ver n:Nat} {z:Value} {xs ys:List D} {rx:List Id} {fz:Bool} (h1:telem P t=some e) (h2:tsize P e=some sz) (h3:tzero P e=some z) (h4:elemsOf h x=some (ys,rx)) (h5:0 < sz) (h6:headOk sz ys=true) (h7:z.cells.size=sz) (h8:h i = .vec ver n xs fz) (h9:n=sz) (h10:(xs.length + ys.length) * (P.bytesOf e + 1) ≤ 70368744177664) :
    appendE P h id t (.sl i ver 0 xs.length) x=some { v:=.sl id ((h id).ver + 1) 0 (xs.length + ys.length),rd:=id :: i :: rx,wr:=[(i,.no ver),(id,.vec ((h id).ver + 1) sz (xs ++ ys) fz)] }:=by
  unfold appendE
  simp only [h1,h2,h3,h4,h8]
  rw [if_pos ⟨h5,h6,h7⟩,if_pos ⟨trivial,by omega,h9,h10⟩]
  simp
theorem appendE_clip {P:Program} {h:Id→O} {id:Id} {t e:TypeId} {x:A} {sz:Nat} {z:Value} {xs ys:List D} {rx:List Id} (h1:telem P t=some e) (h2:tsize P e=some sz) (h3:tzero P e=some z) (h4:elemsOf h x=some (ys,rx)) (h5:0 < sz) (h6:headOk sz ys=true) (h7:z.cells.size=sz) (h8:headOk sz xs=true) (h10:(xs.length + ys.length) * (P.bytesOf e + 1) ≤ 70368744177664) :
    appendE P h id t (.clip xs) x=if ys.isEmpty && !xs.isEmpty then some { v:=.clip xs,rd:=rx } else some { v:=.sl id ((h id).ver + 1) 0 (xs.length + ys.length),rd:=id :: rx,wr:=[(id,.vec ((h id).ver + 1) sz (xs ++ ys) false)] }:=by
  unfold appendE
  simp only [h1,h2,h3,h4]
  rw [if_pos ⟨h5,h6,h7⟩,if_pos ⟨h8,h10⟩]
theorem adIn_ok {C:Cx} (hC:C.Ok) {n:Nat} (h:adIn C.ads n=true):C.wid (C.π n)∧(C.π n).1 < C.d ∧ ∃ p ∈ C.ads,C.π n=adoptId (C.π p.1) p.2:=by
  unfold adIn at h
  rw [Bool.and_eq_true] at h
  have h1:=of_decide_eq_true h.1
  have h2:((n - 1000) / 64,(n - 1000) % 64) ∈ C.ads:=by simpa using h.2
  have h3:=hC.adk _ h2
  have h4:=hC.ad _ _ h3.1 h3.2
  rw [show 1000 + 64 * ((n - 1000) / 64) + (n - 1000) % 64=n by omega] at h4
  refine ⟨Or.inr ⟨_,h2,h4⟩,?_,_,h2,h4⟩
  rw [h4]
  exact adopt_lt (hC.low _ h3.1)
theorem sAppend_ok {C:Cx} (hC:C.Ok) {X:Orc} {σ:SS} {st:St} (g:Ga C σ st) {o:Oper} {t t':TypeId} {s x:Operand} (ho:o.op = .call ⟨.builtin .append,#[s,x],#[t,t']⟩) {out:Out} (h:sAppend C.P C.E C.ads σ o.dst t t' s x=some out):OpOk C X σ st o out:=by
  unfold sAppend at h
  split at h
  · rename_i j e S L ex ps hdst he hS hL hsrc
    split at h
    · rename_i sz z cs cx hsz hz hcs hcx
      split at h
      · rename_i hc
        simp only [Bool.and_eq_true] at hc
        obtain ⟨⟨⟨⟨⟨⟨c1,c2⟩,c3⟩,c4⟩,c5⟩,c6⟩,c7⟩:=hc
        have c2:=of_decide_eq_true c2
        have c3:z.cells.size=sz:=eq_of_beq c3
        have c4:sz=ex.sz C.E:=eq_of_beq c4
        have c5:=of_decide_eq_true c5
        have hd:(st.d,o.dst.getD st.n)=(C.d,j):=by rw [hdst,g.d]; rfl
        have hop:opE C.P X st.d st.ev st.h (st.d,o.dst.getD st.n) o=appendE C.P st.h (C.d,j) t (st.ev s) (st.ev x):=by
          rw [hd]
          obtain ⟨dst,op,ty,pos,af,gd⟩:=o
          simp only at ho
          subst ho
          show (if okSrc C.P t' then _ else _)=_
          rw [if_pos c1]
        obtain ⟨ys,rx,y1,y2,y3,y4⟩:=srcT_ok (opTV_ok g x) hsrc
        have lS:=opL_ok g hS (nows C st)
        have lL:=opL_ok g hL (nows C st)
        have bS:=hiI_ok g.nows hcs
        have bL:=hiI_ok g.nows hcx
        have hky:=headOk_of hC c4 y3
        have size:∀ n:Nat,(n:Int)=lenA (st.ev s)→(n + ys.length) * (C.P.bytesOf e + 1) ≤ 70368744177664:=by
          intro n hn
          have h1:((n + ys.length:Nat):Int) ≤ cs + cx:=by omega
          have h2:((n + ys.length:Nat):Int) * ((C.P.bytesOf e + 1:Nat):Int) ≤ (cs + cx) * ((C.P.bytesOf e + 1:Nat):Int):=Int.mul_le_mul_of_nonneg_right h1 (by omega)
          have h3:(cs + cx) * ((C.P.bytesOf e + 1:Nat):Int) ≤ 70368744177664:=by
            have:((C.P.bytesOf e + 1:Nat):Int)=(C.P.bytesOf e:Int) + 1:=by omega
            rw [this]; exact c5
          have h4:(((n + ys.length) * (C.P.bytesOf e + 1):Nat):Int) ≤ 70368744177664:=by
            rw [Int.natCast_mul]; omega
          omega
        have fsok2:∀ (n:Nat),(n:Int)=lenA (st.ev s)→∀ (a:A) v,Now C st v→v (5,0,0)=a→lenA a=((n + ys.length:Nat):Int)→FOk v (appFs σ.fs S L):=by
          intro n hn a v hv h5 ha
          exact appFs_ok (g.fs v hv) (a:=n) (b:=ys.length) (n:=((n + ys.length:Nat):Int)) (by rw [h5]; exact ha) (by omega) (by rw [hn]; exact opL_ok g hS hv) (by rw [y2]; exact opL_ok g hL hv) (opL_nn hL v)
        have fsok:∀ (n:Nat),(n:Int)=lenA (st.ev s)→∀ a bc v,New C st a bc v→lenA a=((n + ys.length:Nat):Int)→FOk v (appFs σ.fs S L):=fun n hn a bc v hv ha=>fsok2 n hn a v hv.now (hv.nv 0 0) ha
        have hrx:∀ i ∈ rx,slotC C i ∈ ps.map sN:=fun i hi=>by
          obtain ⟨p,hp,rfl⟩:=y4 i hi
          rw [sN_at hC]; exact List.mem_map_of_mem hp
        have fresh:∀ (el:Ty) (ks:List PL) (xs:List D) (rds wrs:List Nat),appendE C.P st.h (C.d,j) t (st.ev s) (st.ev x)=some { v:=.sl (C.d,j) ((st.h (C.d,j)).ver + 1) 0 (xs.length + ys.length),rd:=(C.d,j) :: rx,wr:=[((C.d,j),.vec ((st.h (C.d,j)).ver + 1) sz (xs ++ ys) false)] } →
            (xs.length:Int)=lenA (st.ev s)→sz=el.sz C.E→(∀ x ∈ xs,ShT C.R el x)→(∀ x ∈ ys,ShT C.R el x)→(∀ x ∈ (j + 1) :: ps.map sN,x ∈ rds)→j + 1 ∈ wrs →
            OpOk C X σ st o { act:=.mk (.own (true,j) el) ks none [] (appFs σ.fs S L),rd:=rds,wr:=wrs }:=by
          intro el ks xs rds wrs hap hlen hel h1 h2 h3 h4
          intro σ' hσ
          rw [hdst] at hσ
          cases hσ
          refine ⟨_,by rw [hop]; exact hap,?_,⟨?_,?_,?_⟩,?_⟩
          · show ((C.d == st.d || _) && okW st.d st.al [])=true
            rw [g.d]; simp [okW]
          · intro y hy
            obtain ⟨i,hi,rfl⟩:=List.mem_map.1 hy
            rcases List.mem_cons.1 hi with rfl | hi
            · rw [slotC_own]; exact h3 _ List.mem_cons_self
            · exact h3 _ (List.mem_cons_of_mem _ (hrx i hi))
          · intro y hy
            simp only [sigE,List.map_cons,List.map_nil,List.mem_singleton] at hy
            subst hy; rw [slotC_own]; exact h4
          · intro hy; cases hy
          · rw [hdst]
            have hout:∀ i,({ v:=A.sl (C.d,j) ((st.h (C.d,j)).ver + 1) 0 (xs.length + ys.length),rd:=(C.d,j) :: rx,wr:=[((C.d,j),O.vec ((st.h (C.d,j)).ver + 1) sz (xs ++ ys) false)] }:Eff).out st.h i=upd st.h (C.d,j) (.vec ((st.h (C.d,j)).ver + 1) sz (xs ++ ys) false) i:=fun _=>rfl
            refine mk_ok hC g (bc:=[]) (fun q hq=>?_) (fun i hi=>?_) (fun i c hi=>?_) (fun c=>?_) (fun k c=>?_) ?_ (fun ts h=>by cases h) (fun u h=>by cases h) (fun v _ p hp=>by cases hp) fun v hv=>fsok _ hlen _ _ v hv rfl
            · rw [hout,upd_at,if_neg (fun h=>hq (by rw [at_inj hC h]; simp))]
              exact Fz_refl _
            · rw [hout,upd_at,if_neg (by rintro rfl; exact Nat.lt_irrefl _ hi)]
            · rw [hout,upd_at,if_neg (fun h=>hi (Prod.mk.inj h).2)]
            · rw [hout,upd_at,if_pos rfl]; rfl
            · rw [hout,upd_at,if_neg (fun h=>hC.dis k (congrArg Prod.fst h))]
            · simp only [TV.ok]
              refine Or.inr ⟨_,sz,xs ++ ys,false,by rw [List.length_append]; rfl,?_,hel,fun y hy=>?_⟩
              · exact (hout (C.d,j)).trans (by rw [upd_at,if_pos rfl])
              · rcases List.mem_append.1 hy with hy | hy
                · exact h1 y hy
                · exact h2 y hy
        split at h
        · rename_i hts
          cases h
          have hs:=opTV_ok g s
          rw [hts] at hs
          simp only [TV.ok] at hs
          refine fresh ex [] [] _ _ ?_ (by rw [hs]; rfl) c4 (fun y hy=>by cases hy) y3 (fun _ h=>h) (by simp)
          rw [hs,appendE_clip (xs:=[]) he hsz hz y1 c2 hky c3 rfl (size 0 (by rw [hs]; rfl))]
          simp
        · rename_i pj el hts
          split at h
          · rename_i hcp
            rw [Bool.and_eq_true] at hcp
            cases h
            have hel:sz=el.sz C.E:=eq_of_beq hcp.2
            have hys:∀ y ∈ ys,ShT C.R el y:=fun y hy=>subE_ok hC.rel hcp.1 (y3 y hy)
            have hs:=opTV_ok g s
            rw [hts] at hs
            simp only [TV.ok] at hs
            rcases hs with ⟨xs,hs,h1⟩ | ⟨ver,n,xs,fz,hs,hv,hn,h1⟩
            ·
              have hap:=appendE_clip (id:=(C.d,j)) he hsz hz y1 c2 hky c3 (headOk_of hC hel h1) (size xs.length (by rw [hs]; rfl))
              by_cases hem:(ys.isEmpty && !xs.isEmpty)=true
              · rw [if_pos hem] at hap
                rw [Bool.and_eq_true] at hem
                have hys0:ys=[]:=by simpa using hem.1
                intro σ' hσ
                rw [hdst] at hσ
                cases hσ
                refine ⟨_,by rw [hop,hs]; exact hap,rfl,⟨?_,?_,?_⟩,?_⟩
                · intro y hy
                  obtain ⟨i,hi,rfl⟩:=List.mem_map.1 hy
                  exact List.mem_cons_of_mem _ (List.mem_cons_of_mem _ (hrx i hi))
                · intro y hy; cases hy
                · intro hy; cases hy
                · rw [hdst]
                  refine mk_ok hC g (bc:=match st.h (C.d,j) with | .box _ cs=>cs | _=>[]) (fun q hq=>Fz_refl _) (fun i hi=>rfl) (fun i c hi=>rfl) (fun c=>?_) (fun k c=>rfl) ?_ (fun ts h=>by cases h) (fun u h=>by cases h) (fun v _ p hp=>by cases hp) fun v hv=>fsok xs.length (by rw [hs]; rfl) _ _ v hv (by rw [hys0]; rfl)
                  · show boxCell (st.h (C.d,j)) c=_
                    cases st.h (C.d,j) <;> rfl
                  · simp only [TV.ok]; exact Or.inl ⟨xs,rfl,h1⟩
              · rw [if_neg hem] at hap
                exact fresh el _ xs _ _ (by rw [hs]; exact hap) (by rw [hs]; rfl) hel h1 hys (fun y hy=>by
                  rcases List.mem_cons.1 hy with rfl | hy
                  · exact List.mem_cons_self
                  · exact List.mem_cons_of_mem _ (List.mem_cons_of_mem _ hy)) (by simp)
            · have hap:=appendE_own (id:=(C.d,j)) he hsz hz y1 c2 hky c3 hv (by rw [hn,hel]) (size xs.length (by rw [hs]; rfl))
              have hat:C.at (true,pj)=(C.d,pj):=rfl
              rw [hat] at hap hs hv
              intro σ' hσ
              rw [hdst] at hσ
              cases hσ
              refine ⟨_,by rw [hop,hs]; exact hap,?_,⟨?_,?_,?_⟩,?_⟩
              · show ((C.d == st.d || _) && ((C.d == st.d || _) && okW st.d st.al []))=true
                rw [g.d]; simp [okW]
              · intro y hy
                obtain ⟨i,hi,rfl⟩:=List.mem_map.1 hy
                rcases List.mem_cons.1 hi with rfl | hi
                · rw [slotC_own]; exact List.mem_cons_self
                · rcases List.mem_cons.1 hi with rfl | hi
                  · rw [slotC_own]; exact List.mem_cons_of_mem _ List.mem_cons_self
                  · exact List.mem_cons_of_mem _ (List.mem_cons_of_mem _ (hrx i hi))
              · intro y hy
                simp only [sigE,List.map_cons,List.map_nil,List.mem_cons,List.not_mem_nil,or_false] at hy
                rcases hy with rfl | rfl
                · rw [slotC_own]; exact List.mem_cons_self
                · rw [slotC_own]; exact List.mem_cons_of_mem _ List.mem_cons_self
              · intro hy; cases hy
              · rw [hdst]
                have hout:∀ i,({ v:=A.sl (C.d,j) ((st.h (C.d,j)).ver + 1) 0 (xs.length + ys.length),rd:=(C.d,j) :: (C.d,pj) :: rx,wr:=[((C.d,pj),O.no ver),((C.d,j),O.vec ((st.h (C.d,j)).ver + 1) sz (xs ++ ys) fz)] }:Eff).out st.h i=upd (upd st.h (C.d,pj) (.no ver)) (C.d,j) (.vec ((st.h (C.d,j)).ver + 1) sz (xs ++ ys) fz) i:=fun _=>rfl
                refine mk_ok hC g (bc:=[]) (fun q hq=>?_) (fun i hi=>?_) (fun i c hi=>?_) (fun c=>?_) (fun k c=>?_) ?_ (fun ts h=>by cases h) (fun u h=>by cases h) (fun v _ p hp=>by cases hp) fun v hv=>fsok xs.length (by rw [hs]; rfl) _ _ v hv rfl
                · rw [hout,upd_at,if_neg (fun h=>hq (by rw [at_inj hC h]; simp)),upd_at,if_neg (fun h=>hq (by rw [at_inj hC h]; simp))]
                  exact Fz_refl _
                · rw [hout,upd_at,if_neg (by rintro rfl; exact Nat.lt_irrefl _ hi),upd_at,if_neg (by rintro rfl; exact Nat.lt_irrefl _ hi)]
                · rw [hout,upd_at,if_neg (fun h=>hi (Prod.mk.inj h).2),upd_at]
                  split
                  · rename_i e
                    rw [e,hv]; rfl
                  · rfl
                · rw [hout,upd_at,if_pos rfl]; rfl
                · rw [hout,upd_at,if_neg (fun h=>hC.dis k (congrArg Prod.fst h)),upd_at,if_neg (fun h=>hC.dis k (congrArg Prod.fst h))]
                · simp only [TV.ok]
                  refine Or.inr ⟨_,sz,xs ++ ys,fz,by rw [List.length_append]; rfl,?_,hel,fun y hy=>?_⟩
                  · exact (hout (C.d,j)).trans (by rw [upd_at,if_pos rfl])
                  · rcases List.mem_append.1 hy with hy | hy
                    · exact h1 y hy
                    · exact hys y hy
          · cases h
        · rename_i n el hts
          split at h
          · rename_i hcp
            rw [Bool.and_eq_true,Bool.and_eq_true] at hcp
            cases h
            obtain ⟨hwid,hlow,pa,hpa,hpe⟩:=adIn_ok hC hcp.1
            have hal:C.π n ∈ st.al:=by rw [hpe]; exact g.al.2 _ hpa
            have hel:sz=el.sz C.E:=eq_of_beq hcp.2.2
            have hys:∀ y ∈ ys,ShT C.R el y:=fun y hy=>subE_ok hC.rel hcp.2.1 (y3 y hy)
            have hs:=opTV_ok g s
            rw [hts] at hs
            simp only [TV.ok] at hs
            have hne:∀ i:Nat,(C.d,i) ≠ C.π n:=fun i e=>by
              have:C.d=(C.π n).1:=congrArg Prod.fst e
              omega
            have sπ:slotC C (C.π n)=sN (false,n):=sN_at hC (false,n)
            have key:∀ (e0:Eff),appendE C.P st.h (C.d,j) t (st.ev s) (st.ev x)=some e0→e0.ra=false→(∀ i ∈ e0.rd,i=(C.d,j) ∨ i=C.π n ∨ i ∈ rx)→(∀ p ∈ e0.wr,p.1=(C.d,j) ∨ p.1=C.π n)→(∀ i,i ≠ (C.d,j)→i ≠ C.π n→e0.out st.h i=st.h i) →
                TV.ok C (e0.out st.h) (.own (true,j) el) e0.v→(∃ m:Nat,(m:Int)=lenA (st.ev s)∧lenA e0.v=((m + ys.length:Nat):Int)) →
                OpOk C X σ st o { act:=.gen (.own (true,j) el) [(true,j),(false,n)] [] [] (appFs σ.fs S L),rd:=(j + 1) :: sN (false,n) :: ps.map sN,wr:=[sN (false,n),j + 1] }:=by
              rintro e0 k1 k2 k3 k4 k5 k6 ⟨m,k7,k8⟩
              have other:∀ q:PL,q ∉ [(true,j),(false,n)]→e0.out st.h (C.at q)=st.h (C.at q):=fun q hq=>by
                simp only [List.mem_cons,List.not_mem_nil,or_false,not_or] at hq
                exact k5 _ (fun h=>hq.1 (at_inj hC h)) (fun h=>hq.2 (at_inj2 hC (q:=(false,n)) h))
              intro σ' hσ
              rw [hdst] at hσ
              cases hσ
              refine ⟨e0,by rw [hop]; exact k1,?_,⟨?_,?_,?_⟩,?_⟩
              · refine okW_ofQ fun p hp=>?_
                rcases k4 p hp with h | h
                · exact Or.inl (by rw [h]; exact g.d.symm)
                · exact Or.inr (by rw [h]; exact hal)
              · intro y hy
                obtain ⟨i,hi,rfl⟩:=List.mem_map.1 hy
                rcases k3 i hi with rfl | rfl | hi
                · rw [slotC_own]; exact List.mem_cons_self
                · rw [sπ]; exact List.mem_cons_of_mem _ List.mem_cons_self
                · exact List.mem_cons_of_mem _ (List.mem_cons_of_mem _ (hrx i hi))
              · intro y hy
                obtain ⟨p,hp,rfl⟩:=List.mem_map.1 hy
                rcases k4 p hp with h | h
                · rw [h,slotC_own]; simp
                · rw [h,sπ]; simp
              · intro y
                have y:e0.ra=true:=y
                rw [k2] at y; cases y
              · rw [hdst]
                refine gen_ok hC g (bcs:=[(match e0.out st.h (C.d,j) with | .box _ cs=>cs | _=>[]),(match e0.out st.h (C.π n) with | .box _ cs=>cs | _=>[])]) (fun p hk _=>?_) (fun p hk hb=>(by cases hb)) (fun id hid hw=>?_) (fun _=>k6) (fun p hp=>(by cases hp)) (fun p hp=>(by cases hp)) (fun b p hp c=>?_) (fun p _ hk c=>?_) (fun v hv p hp=>(by cases hp)) (fun v hv=>fsok2 m k7 e0.v v hv.now (hv.nv 0 0) k8)
                · rw [other p hk]; exact Fz_refl _
                · exact k5 id (by rintro rfl; exact Nat.lt_irrefl _ hid) (by rintro rfl; exact hw hwid)
                · match b,hp with
                  | 0,hp =>
                    have hp:(true,j)=p:=by simpa using hp
                    subst hp
                    show boxCell (e0.out st.h (C.d,j)) c=_
                    cases e0.out st.h (C.d,j) <;> rfl
                  | 1,hp =>
                    have hp:(false,n)=p:=by simpa using hp
                    subst hp
                    show boxCell (e0.out st.h (C.π n)) c=_
                    cases e0.out st.h (C.π n) <;> rfl
                  | b + 2,hp=>simp at hp
                · rw [other p hk]
            rcases hs with ⟨xs,hs,h1⟩ | ⟨ver,n',xs,fz,hs,hv,hn,h1⟩
            · have hap:=appendE_clip (id:=(C.d,j)) he hsz hz y1 c2 hky c3 (headOk_of hC hel h1) (size xs.length (by rw [hs]; rfl))
              by_cases hem:(ys.isEmpty && !xs.isEmpty)=true
              · rw [if_pos hem] at hap
                rw [Bool.and_eq_true] at hem
                have hys0:ys=[]:=by simpa using hem.1
                refine key _ (by rw [hs]; exact hap) rfl (fun i hi=>Or.inr (Or.inr hi)) (fun p hp=>by cases hp) (fun i _ _=>rfl) ?_ ⟨xs.length,by rw [hs]; rfl,by rw [hys0]; rfl⟩
                simp only [TV.ok]; exact Or.inl ⟨xs,rfl,h1⟩
              · rw [if_neg hem] at hap
                refine key _ (by rw [hs]; exact hap) rfl (fun i hi=>?_) (fun p hp=>?_) (fun i hi _=>?_) ?_ ⟨xs.length,by rw [hs]; rfl,rfl⟩
                · rcases List.mem_cons.1 hi with rfl | hi
                  · exact Or.inl rfl
                  · exact Or.inr (Or.inr hi)
                · simp only [List.mem_singleton] at hp
                  subst hp; exact Or.inl rfl
                · show upd st.h (C.d,j) _ i=_
                  rw [upd_at,if_neg hi]
                · simp only [TV.ok]
                  refine Or.inr ⟨_,sz,xs ++ ys,false,by rw [List.length_append]; rfl,?_,hel,fun y hy=>?_⟩
                  · show upd st.h (C.d,j) _ (C.d,j)=_
                    rw [upd_at,if_pos rfl]
                  · rcases List.mem_append.1 hy with hy | hy
                    · exact h1 y hy
                    · exact hys y hy
            · have hap:=appendE_own (id:=(C.d,j)) he hsz hz y1 c2 hky c3 hv (by rw [hn,hel]) (size xs.length (by rw [hs]; rfl))
              have hat:C.at (false,n)=C.π n:=rfl
              rw [hat] at hap hs hv
              refine key _ (by rw [hs]; exact hap) rfl (fun i hi=>?_) (fun p hp=>?_) (fun i hi hi2=>?_) ?_ ⟨xs.length,by rw [hs]; rfl,rfl⟩
              · rcases List.mem_cons.1 hi with rfl | hi
                · exact Or.inl rfl
                · rcases List.mem_cons.1 hi with rfl | hi
                  · exact Or.inr (Or.inl rfl)
                  · exact Or.inr (Or.inr hi)
              · simp only [List.mem_cons,List.not_mem_nil,or_false] at hp
                rcases hp with rfl | rfl
                · exact Or.inr rfl
                · exact Or.inl rfl
              · show upd (upd st.h (C.π n) _) (C.d,j) _ i=_
                rw [upd_at,if_neg hi,upd_at,if_neg hi2]
              · simp only [TV.ok]
                refine Or.inr ⟨_,sz,xs ++ ys,fz,by rw [List.length_append]; rfl,?_,hel,fun y hy=>?_⟩
                · show upd (upd st.h (C.π n) _) (C.d,j) _ (C.d,j)=_
                  rw [upd_at,if_pos rfl]
                · rcases List.mem_append.1 hy with hy | hy
                  · exact h1 y hy
                  · exact hys y hy
          · cases h
        · cases h
      · cases h
    · cases h
  · cases h
def cellTy:TV→Option Ty
  | .c t=>if t.flat then some t else none
  | .nilv=>some (.lst .any 0)
  | _=>none
def cellTys:List TV→Option (List Ty)
  | []=>some []
  | t :: l=>match cellTy t,cellTys l with | some u,some us=>some (u :: us) | _,_=>none
theorem cellTys_ok {C:Cx} {h:Id→O}:∀ {ts:List TV} {us:List Ty} {zs:List A},cellTys ts=some us→TV.oks C h ts zs→∃ ds,fzCells h zs=some (ds,[])∧ShL C.R us ds∧zs.all A.one=true
  | [],us,zs,hu,hx=>by
    simp only [cellTys,Option.some.injEq] at hu
    simp only [TV.oks] at hx
    subst hu hx
    exact ⟨[],rfl,by simp [ShL],rfl⟩
  | t :: ts,us,zs,hu,hx=>by
    simp only [TV.oks] at hx
    obtain ⟨a,l,rfl,h2,h3⟩:=hx
    unfold cellTys at hu
    split at hu
    · rename_i u us' h4 h5
      cases hu
      obtain ⟨ds,e1,e2,e3⟩:=cellTys_ok h5 h3
      have key:∃ x,fzCell h a=some (x,[])∧x.flat=true∧ShT C.R u x∧A.one a=true:=by
        unfold cellTy at h4
        split at h4
        · split at h4
          · rename_i hf
            cases h4
            simp only [TV.ok] at h2
            obtain ⟨x,rfl,h2⟩:=h2
            obtain ⟨k1,k2,k3⟩:=flat_ok h2 hf
            refine ⟨x,rfl,?_,h2,k1⟩
            cases x with
            | agg ds'=>exact absurd rfl (k3 ds')
            | _=>rfl
          · cases h4
        · cases h4
          simp only [TV.ok] at h2
          subst h2
          refine ⟨.lst [],rfl,rfl,?_,rfl⟩
          simp only [ShT]
          exact ⟨[],rfl,Nat.le_refl _,fun y hy=>by cases hy⟩
        · cases h4
      obtain ⟨x,k1,k2,k3,k4⟩:=key
      refine ⟨x :: ds,?_,?_,?_⟩
      · unfold fzCells
        rw [k1,e1]
        simp only
        rw [if_pos k2]; rfl
      · simp only [ShL]; exact ⟨x,ds,rfl,k3,e2⟩
      · simp only [List.all_cons,k4,e3]; rfl
    · cases hu
def chunkTy (ag:Bool) (sz:Nat):Nat→List Ty→List Ty
  | 0,_=>[]
  | n + 1,l=>(if ag then .st (l.take sz) else (l.head?).getD .any) :: chunkTy ag sz n (l.drop sz)
theorem chunk_ok {C:Cx} (hC:C.Ok) {ag:Bool} {sz:Nat} (hsz:0 < sz) {el:Ty}:∀ {n:Nat} {ts:List Ty} {ds:List D},ShL C.R ts ds→n * sz ≤ ds.length→(chunkTy ag sz n ts).all (fun t=>Ty.sub t el)=true→(∀ x ∈ chunk ag sz n ds,ShT C.R el x)∧(chunk ag sz n ds).length=n
  | 0,ts,ds,_,_,_=>⟨fun x hx=>(by cases hx),rfl⟩
  | n + 1,ts,ds,h1,h2,h3=>by
    unfold chunkTy at h3
    rw [List.all_cons,Bool.and_eq_true] at h3
    have e:(n + 1) * sz=n * sz + sz:=Nat.succ_mul n sz
    obtain ⟨i1,i2⟩:=chunk_ok (n:=n) hC hsz (ShL_drop sz h1) (by rw [List.length_drop]; omega) h3.2
    unfold chunk
    refine ⟨fun x hx=>?_,by simp [i2]⟩
    rcases List.mem_cons.1 hx with rfl | hx
    · refine sub_ok hC.rel _ _ _ h3.1 ?_
      cases ag with
      | true=>simp only [if_true,ShT]; exact ⟨_,rfl,ShL_take sz h1⟩
      | false =>
        simp only [Bool.false_eq_true,if_false]
        cases ts with
        | nil=>simp only [ShL] at h1; subst h1; simp at h2; omega
        | cons t ts =>
          simp only [ShL] at h1
          obtain ⟨x,l,rfl,h4,_⟩:=h1
          exact h4
    · exact i1 x hx
def joinT (t u:Ty):Ty:=if Ty.sub t u then u else t
def ixT (ixs:List Nat) (σ:SS) (x:Operand):Option TV :=
  match opTV σ x,opI σ x with
  | .c (.int .i64),some I=>(ixs.find? fun m=>decide (m < 500) && leI σ.fs (zT,0) I 0 && leI σ.fs I ((1,4,3000 + m,0),0) 1).map fun m=>.c (.ix m)
  | _,_=>none
theorem ixT_ok {C:Cx} (hC:C.Ok) {σ:SS} {st:St} (g:Ga C σ st) {ixs:List Nat}:∀ x t,ixT ixs σ x=some t→TV.ok C st.h t (st.ev x):=by
  intro x t h
  unfold ixT at h
  split at h
  · rename_i I hx hI
    obtain ⟨m,hm,rfl⟩:=Option.map_eq_some_iff.1 h
    have h1:=List.find?_some hm
    rw [Bool.and_eq_true,Bool.and_eq_true] at h1
    obtain ⟨⟨hm5,h1⟩,h2⟩:=h1
    have hm5:=of_decide_eq_true hm5
    have h1:=And.intro h1 h2
    have hok:=opTV_ok g x
    rw [hx] at hok
    simp only [TV.ok,ShT] at hok
    obtain ⟨_,e,n,rfl⟩:=hok
    have c1:=opI_ok g hI (nows C st)
    rw [e] at c1
    have c1:n=_:=c1
    have b1:=leI_ok g.nows h1.1
    have b2:=leI_ok g.nows h1.2
    have z0:tv (apv C st) zT=0:=rfl
    have zg:tv (apv C st) (1,4,3000 + m,0)=C.bd m:=hC.gb m
    simp only [z0,zg] at b1 b2
    simp only [TV.ok,ShT]
    exact ⟨_,e,n,rfl,(hC.ix m n hm5).2 ⟨by omega,by omega⟩⟩
  · cases h
theorem flat_len {α:Type} (l:List α):∀ n,(List.replicate n l).flatten.length=n * l.length
  | 0=>by simp
  | n + 1=>by rw [List.replicate_succ,List.flatten_cons,List.length_append,flat_len l n,Nat.succ_mul]; omega
def nmPart (σ:SS) (ag:Bool) (len:Nat) (parts:List (Nat × Operand)):Option Nat :=
  match ag,len,parts with
  | true,1,[(0,x)]=>(match opTV σ x with | .c (.nm i)=>some i | _=>none)
  | _,_,_=>none
theorem fz_ds (h:Id→O):∀ {l m:List D} {is:List Id},fzCells h (l.map A.d)=some (m,is)→m=l
  | [],m,is,hm=>by
    simp only [List.map_nil,fzCells,Option.some.injEq,Prod.mk.injEq] at hm
    exact hm.1.symm
  | x :: l,m,is,hm=>by
    simp only [List.map_cons] at hm
    unfold fzCells at hm
    split at hm
    · rename_i x' i xs j h1 h2
      split at hm
      · simp only [Option.some.injEq,Prod.mk.injEq] at hm
        have:=fz_ds h h2
        unfold fzCell at h1
        simp only [Option.some.injEq,Prod.mk.injEq] at h1
        rw [← hm.1,← h1.1,this]
      · cases hm
    · cases hm
theorem nmPart_ok {C:Cx} (hC:C.Ok) {σ:SS} {st:St} (g:Ga C σ st) {ag:Bool} {len sz i:Nat} {parts:List (Nat × Operand)} (h:nmPart σ ag len parts=some i) {cells zs:List A} (hl:cells.length=len * sz)
    (hf:fillA (fun i=>some (i * sz,sz)) cells (parts.map fun p=>(p.1,st.ev p.2))=some zs) {hh:Id→O} {ds:List D} (hz:fzCells hh zs=some (ds,[])):(∀ x ∈ chunk ag sz len ds,ShT C.R (.nm i) x)∧(chunk ag sz len ds).length=len:=by
  unfold nmPart at h
  split at h
  · rename_i x
    split at h
    · rename_i i' hx
      cases h
      have hok:=opTV_ok g x
      rw [hx] at hok
      simp only [TV.ok,ShT] at hok
      obtain ⟨y,e,hy⟩:=hok
      obtain ⟨ts,ds0,_,rfl,_⟩:=hC.rel.unf _ _ hy
      simp only [List.map_cons,List.map_nil,e] at hf
      unfold fillA at hf
      simp only [Nat.zero_mul,Nat.zero_add] at hf
      split at hf
      · cases hf
      · rename_i hn
        have hn1:ds0.length=sz:=by
          refine Classical.byContradiction fun hc=>hn (Or.inl ?_)
          intro h'
          apply hc
          rw [← h']
          show _=(ds0.map A.d).length
          simp
        have hcl:cells.length=sz:=by omega
        unfold fillA at hf
        have hp:put cells 0 (A.cells (.d (.agg ds0)))=ds0.map A.d:=by
          show cells.take 0 ++ ds0.map A.d ++ cells.drop (0 + (ds0.map A.d).length)=_
          rw [List.drop_eq_nil_of_le (by simp; omega)]
          simp
        rw [hp] at hf
        cases hf
        have:=fz_ds hh hz
        subst this
        constructor
        · intro x hx
          simp only [chunk,if_true,List.mem_singleton] at hx
          subst hx
          rw [List.take_of_length_le (by omega)]
          simp only [ShT]; exact hy
        · rfl
    · cases h
  · cases h
def elT (σ:SS) (ag:Bool) (len:Nat) (parts:List (Nat × Operand)) (l:List Ty):Ty:=match nmPart σ ag len parts with | some i=>Ty.nm i | none=>l.foldl joinT ((l.head?).getD .any)
def sBuildS (P:Program) (E:Nat→Option (List Ty)) (ixs:List Nat) (σ:SS) (dst:Option Nat) (t:TypeId) (len:Nat) (parts:List (Nat × Operand)):Option Out :=
  match dst,telem P t with
  | some j,some e =>
    match tsize P e,tagg P e,tzero P e with
    | some sz,some ag,some z =>
      if decide (len * sz ≤ 16777216) && (ag || sz == 1) && decide (0 < sz) && z.cells.size == sz then
        match fillS E σ (ixT ixs σ) (fun i=>some (i * sz,sz)) { cells:=(List.replicate len (z.cells.toList.map valTV)).flatten,cp:=[],fs:=[] } parts with
        | some f =>
          match cellTys f.cells with
          | some us =>
            let l:=chunkTy ag sz len us
            let el:=elT σ ag len parts l
            if decide (len * sz ≤ us.length) && ((nmPart σ ag len parts).isSome || l.all (fun t=>Ty.sub t el)) && sz == el.sz E then
              some { act:=.mk (.own (true,j) el) [] none [] [.f (.le (2,5,0,0) zT (-len)),.f (.le zT (2,5,0,0) len)],rd:=[j + 1],wr:=[j + 1] }
            else none
          | none=>none
        | none=>none
      else none
    | _,_,_=>none
  | _,_=>none
theorem oks_flat {C:Cx} {h:Id→O} {ts:List TV} {zs:List A} (hx:TV.oks C h ts zs):∀ n,TV.oks C h (List.replicate n ts).flatten (List.replicate n zs).flatten
  | 0=>by simp [TV.oks]
  | n + 1=>by
    simp only [List.replicate_succ,List.flatten_cons]
    exact oks_app hx (oks_flat hx n)
theorem sBuildS_ok {C:Cx} (hC:C.Ok) {X:Orc} {σ:SS} {st:St} (g:Ga C σ st) {o:Oper} {t:TypeId} {len:Nat} {parts:Array (Nat × Operand)} {ixs:List Nat} (ho:o.op = .buildSlice t len parts) {out:Out} (h:sBuildS C.P C.E ixs σ o.dst t len parts.toList=some out):OpOk C X σ st o out:=by
  unfold sBuildS at h
  split at h
  · rename_i j e hdst he
    have hd:(st.d,o.dst.getD st.n)=(C.d,j):=by rw [hdst,g.d]; rfl
    have hop:opE C.P X st.d st.ev st.h (st.d,o.dst.getD st.n) o=buildSliceE C.P st.h (C.d,j) t len (parts.toList.map fun p=>(p.1,st.ev p.2)):=by
      rw [hd]
      obtain ⟨dst,op,ty,pos,af,gd⟩:=o
      simp only at ho
      subst ho; rfl
    split at h
    · rename_i sz ag z hsz hag hz
      split at h
      · rename_i hc
        simp only [Bool.and_eq_true] at hc
        obtain ⟨⟨⟨c1,c2⟩,c3⟩,c4⟩:=hc
        have c1:=of_decide_eq_true c1
        have c3:=of_decide_eq_true c3
        have c4:z.cells.size=sz:=eq_of_beq c4
        split at h
        · rename_i f hf
          split at h
          · rename_i us hus
            simp only at h
            split at h
            · rename_i hc2
              simp only [Bool.and_eq_true] at hc2
              obtain ⟨⟨d1,d2⟩,d3⟩:=hc2
              have d1:=of_decide_eq_true d1
              have d3:=eq_of_beq d3
              cases h
              generalize hel:elT σ ag len parts.toList (chunkTy ag sz len us)=el at *
              unfold elT at hel
              obtain ⟨zs,h1,h2,h3⟩:=fillS_ok hC g (ixT_ok hC g) hf (zs:=(List.replicate len (z.cells.toList.map ofCell)).flatten) ⟨oks_flat (oks_vals C st.h _) len,fun v _ _=>nofs v⟩
              obtain ⟨ds,k1,k2,k3⟩:=cellTys_ok hus h2
              have hq:(∀ x ∈ chunk ag sz len ds,ShT C.R el x)∧(chunk ag sz len ds).length=len:=by
                cases hnm:nmPart σ ag len parts.toList with
                | none =>
                  rw [hnm] at d2
                  exact chunk_ok hC c3 k2 (by rw [ShL_len k2]; exact d1) (by simpa using d2)
                | some i =>
                  rw [hnm] at hel
                  simp only at hel
                  subst hel
                  exact nmPart_ok hC g hnm (by rw [flat_len,List.length_map,← c4]; rfl) h1 k1
              obtain ⟨q1,q2⟩:=hq
              have hap:buildSliceE C.P st.h (C.d,j) t len (parts.toList.map fun p=>(p.1,st.ev p.2))=some { v:=.sl (C.d,j) ((st.h (C.d,j)).ver + 1) 0 len,rd:=[(C.d,j)],wr:=[((C.d,j),.vec ((st.h (C.d,j)).ver + 1) sz (chunk ag sz len ds) false)] }:=by
                unfold buildSliceE
                simp only [he,hsz,hag,hz]
                rw [if_pos ⟨c1,by rw [c2],c3,c4⟩,h1]
                simp only
                rw [if_neg (by rw [k3]; simp),k1]
                rfl
              refine out_mk1 hC g hdst (a:=.sl (C.d,j) ((st.h (C.d,j)).ver + 1) 0 len) (rd:=[(C.d,j)]) (bx:=none) (w:=none) (ob:=.vec ((st.h (C.d,j)).ver + 1) sz (chunk ag sz len ds) false) (bc:=[]) (by rw [hop]; exact hap) ?_ ?_ (fun c=>rfl) (fun ts h=>by cases h) (fun u h=>by cases h) ?_
              · simp only [TV.ok]
                refine Or.inr ⟨_,sz,chunk ag sz len ds,false,by rw [q2]; rfl,?_,d3,q1⟩
                rw [show C.at (true,j)=(C.d,j) from rfl,upd_at,if_pos rfl]
              · intro i hi
                simp only [List.mem_singleton] at hi
                subst hi
                simp [slotC_own]
              · intro v hv
                refine ⟨fun p hp=>(by cases hp),?_⟩
                have h6:tv v (2,5,0,0)=len:=by
                  show lenA (v (5,0,0))=_
                  rw [hv.nv]; rfl
                have z0:tv v zT=0:=rfl
                intro f hf
                simp only [List.mem_cons,List.not_mem_nil,or_false] at hf
                rcases hf with rfl | rfl <;> simp only [Fact.ok,LF.ok,h6,z0] <;> omega
            · cases h
          · cases h
        · cases h
      · cases h
    · cases h
  · cases h
end
end
end Go.Proofs.YtenoggjjhamdaaaGreatDoor
