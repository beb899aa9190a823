/-
  WHAT IS PROVED HERE: parts of the proof: Ma26 Cq26 Tp26.
-/
import Derived.Test.YtenoggjjhamdaaaGreatDoorB16
set_option linter.all false
namespace Go.Proofs.YtenoggjjhamdaaaGreatDoor
open Go Go.RowKit
section
noncomputable abbrev cx0 (bd:BD) (k:Nat) (c:Ctr):Cx:=c.cx ((fam26 bd).lv k) 0 E0 (fun j=>(1,j))
theorem cx0_gb (bd:BD) (k:Nat) (c:Ctr) (m:Nat):(cx0 bd k c).gs (3000 + m)=(cx0 bd k c).bd m:=gsb (F:=fam26 bd) (c:=c) k m
theorem cx0_ok (bd:BD) (k:Nat) (c:Ctr) (hpars:c.pars=[]) (hws:c.ws=[]) (hads:c.ads=[]):(cx0 bd k c).Ok:=by
 refine { rel:=(fam26 bd).rel k,low:=fun i hi=>?_,dis:=fun i=>?_,inj:=fun a b h=>(Prod.mk.inj h).2,ad:=fun i off hi _=>?_,wlk:=fun i hi=>?_,adk:=fun p hp=>?_,ix:=(fam26 bd).ixl k,gx:=(fam26 bd).gxl k,gb:=cx0_gb bd k c,nf:=(fam26 bd).nf k,aik:=(fam26 bd).aik k,aif:=(fam26 bd).aif k,eqs:=(fam26 bd).eqs k }
 ·have:i < c.pars.length:=hi
  rw [hpars] at this
  exact absurd this (Nat.not_lt_zero _)
 ·show (1:Nat) ≠ 0
  decide
 ·have:i < c.pars.length:=hi
  rw [hpars] at this
  exact absurd this (Nat.not_lt_zero _)
 ·have:i ∈ c.ws.map (·.1):=hi
  rw [hws] at this; cases this
 ·have:p ∈ c.ads:=hp
  rw [hads] at this; cases this
theorem val_of {bd:BD} {k:Nat} {c:Ctr} (h:Ok26 bd k c) (hpars:c.pars=[]) (hws:c.ws=[]) (hads:c.ads=[]) {zs:List A} (hz:TV.oks (cx0 bd k c) E0 c.args zs) (hpre:∀ v,Now (cx0 bd k c) (st0 0 E0 zs) v→FOk v c.pre) :
  ∃ r a,ev26 c.f 0 E0 zs=some (r,E0)∧RS.ok (cx0 bd k c) c.res r a ∧ ∀ v,NewC (cx0 bd k c) (st0 0 E0 zs) a E0 v→FOk v c.post:=by
 obtain ⟨r,a,h',e1,e2,e3,_,_,e6⟩:=h 0 E0 (fun j=>(1,j)) zs (cx0_ok bd k c hpars hws hads) (fun _=>⟨rfl,rfl⟩) hz (fun i ts hi=>by rw [hpars] at hi; simp at hi) hpre
 have:h' = E0:=by
  funext i
  refine e3 i ?_
  rintro (⟨j,hj,_⟩ | ⟨p,hp,_⟩)
  ·have:j ∈ c.ws.map (·.1):=hj
   rw [hws] at this; cases this
  ·have:p ∈ c.ads:=hp
   rw [hads] at this; cases this
 subst this
 exact ⟨r,a,e1,e2,e6⟩
theorem nil_pre {bd:BD} {k:Nat} {c:Ctr} {zs:List A} (h:c.pre=[]):∀ v,Now (cx0 bd k c) (st0 0 E0 zs) v→FOk v c.pre:=fun v _ f hf=>by rw [h] at hf; cases hf
theorem ShA_D:∀ {m:Nat} {x:D},ShA m x→ShD m x
 | 0,x,h=>h.elim
 | m + 1,x,h=>by
  obtain ⟨ds,h1,h2⟩:=h
  simp only [ShL,ShT] at h2
  obtain ⟨a0,_,rfl,h0,a1,_,rfl,h3,a2,_,rfl,h4,a3,_,rfl,h5,a4,_,rfl,h6,a5,_,rfl,⟨xs,rfl,h7,h8⟩,rfl⟩:=h2
  refine ⟨_,h1,?_⟩
  simp only [ShL,ShT]
  exact ⟨a0,_,rfl,h0,a1,_,rfl,h3,a2,_,rfl,h4,a3,_,rfl,h5,a4,_,rfl,h6,_,_,rfl,⟨xs,rfl,h7,fun y hy=>⟨trivial,ShA_D (h8 y hy).2⟩⟩,rfl⟩
theorem ShD_A:∀ {m:Nat} {x:D},ShD m x→ShA m x
 | 0,x,h=>h.elim
 | m + 1,x,h=>by
  obtain ⟨ds,h1,h2⟩:=h
  simp only [ShL,ShT] at h2
  obtain ⟨a0,_,rfl,h0,a1,_,rfl,h3,a2,_,rfl,h4,a3,_,rfl,h5,a4,_,rfl,h6,a5,_,rfl,⟨xs,rfl,h7,h8⟩,rfl⟩:=h2
  refine ⟨_,h1,?_⟩
  simp only [ShL,ShT]
  exact ⟨a0,_,rfl,h0,a1,_,rfl,h3,a2,_,rfl,h4,a3,_,rfl,h5,a4,_,rfl,h6,_,_,rfl,⟨xs,rfl,h7,fun y hy=>⟨trivial,ShD_A (h8 y hy).2⟩⟩,rfl⟩
theorem ShA_cells {m:Nat} {x:D} (h:ShA (m + 1) x):∃ (a b c d:Int) (w:ByteArray) (xs:List D),x = .agg [.s (.int .i64 a),.s (.int .i64 b),.s (.int .i64 c),.s (.int .i64 d),.s (.string w),.lst xs]∧w.size ≤ bS∧xs.length ≤ bL ∧ ∀ y ∈ xs,ShA m y:=by
 obtain ⟨ds,rfl,h2⟩:=h
 simp only [ShL,ShT] at h2
 obtain ⟨_,_,rfl,⟨a,rfl⟩,_,_,rfl,⟨b,rfl⟩,_,_,rfl,⟨c,rfl⟩,_,_,rfl,⟨d,rfl⟩,_,_,rfl,⟨w,rfl,hw⟩,_,_,rfl,⟨xs,rfl,h7,h8⟩,rfl⟩:=h2
 exact ⟨a,b,c,d,w,xs,rfl,hw,h7,fun y hy=>(h8 y hy).2⟩
theorem nm_one {C:Cx} {h:Id→O} {i:Nat} {x:D} (hx:C.R i x):TV.ok C h (.c (.nm i)) (.d x):=by
 simp only [TV.ok,ShT]
 exact ⟨x,rfl,hx⟩
theorem int_one {C:Cx} {h:Id→O} (n:Int):TV.ok C h (.c tI) (.d (.s (.int .i64 n))):=by
 simp only [TV.ok,ShT]
 exact ⟨_,rfl,_,rfl⟩
theorem oks1 {C:Cx} {h:Id→O} {t:TV} {a:A} (h1:TV.ok C h t a):TV.oks C h [t] [a]:=by
 simp only [TV.oks]
 exact ⟨_,_,rfl,h1,rfl⟩
theorem oks2 {C:Cx} {h:Id→O} {t u:TV} {a b:A} (h1:TV.ok C h t a) (h2:TV.ok C h u b):TV.oks C h [t,u] [a,b]:=by
 simp only [TV.oks]
 exact ⟨_,_,rfl,h1,_,_,rfl,h2,rfl⟩
theorem bool_res {C:Cx} {r:R} {a:A} (h:RS.ok C (.val .bool) r a):∃ b,r = .val (.s (.bool b))∧a = .d (.s (.bool b)):=by
 obtain ⟨x,rfl,rfl,h⟩:=h
 simp only [ShT] at h
 obtain ⟨b,rfl⟩:=h
 exact ⟨b,rfl,rfl⟩
theorem formed_tot {x:D} (h:∃ m,ShA m x):ev26 95 0 E0 [.d x]=some (.val (.s (.bool (formedV x))),E0):=by
 obtain ⟨m,h⟩:=h
 obtain ⟨r,a,e1,e2,_⟩:=val_of (bd:=.n fun _=>0) (k:=m) (c:=cFormed) (okFormed _ m) rfl rfl rfl (oks1 (nm_one ((R26_0 (bd:=.n fun _=>0) (k:=m)).2 (ShD_succ (ShA_D h))))) (nil_pre rfl)
 obtain ⟨b,rfl,_⟩:=bool_res e2
 have e1:ev26 95 0 E0 [.d x]=some (.val (.s (.bool b)),E0):=e1
 have:formedV x=b:=by unfold formedV; rw [e1]; rfl
 rw [this]; exact e1
theorem there_tot {x:D} (h:∃ m,ShA m x) (n:Int):ev26 68 0 E0 [.d x,.d (.s (.int .i64 n))]=some (.val (.s (.bool (thereV x n))),E0):=by
 obtain ⟨m,h⟩:=h
 obtain ⟨r,a,e1,e2,_⟩:=val_of (bd:=.n fun _=>0) (k:=m) (c:=cThere) (okThere _ m) rfl rfl rfl (oks2 (nm_one ((R26_0 (bd:=.n fun _=>0) (k:=m)).2 (ShD_succ (ShA_D h)))) (int_one n)) (nil_pre rfl)
 obtain ⟨b,rfl,_⟩:=bool_res e2
 have e1:ev26 68 0 E0 [.d x,.d (.s (.int .i64 n))]=some (.val (.s (.bool b)),E0):=e1
 have:thereV x n=b:=by unfold thereV; rw [e1]; rfl
 rw [this]; exact e1
theorem ok_same {C:Cx} {c:Ctr} (hws:c.ws=[]) {π:Nat→Id}:∀ p ∈ c.ws,∃ ver cs cs',E0 (π p.1) = .box ver cs∧E0 (π p.1) = .box ver cs' ∧ TV.oks C E0 p.2 cs':=fun p hp=>by rw [hws] at hp; cases hp
theorem okFormA (bd:BD) (k:Nat):Ok26 bd k cFormA:=by
 intro d h π zs hC hpl hz hp hpre
 obtain ⟨rfl,rfl⟩:=hpl rfl
 obtain ⟨a,rfl,h1⟩:=oks_one hz
 simp only [TV.ok,ShT] at h1
 obtain ⟨x,rfl,h2⟩:=h1
 have h3:=formed_tot ((R26_500 (bd:=bdK bd k) (k:=k)).1 h2)
 exact ⟨_,.d (.s (.bool (formedV x))),E0,h3,⟨_,rfl,rfl,_,rfl⟩,fun _ _=>rfl,fun _ _=>rfl,ok_same rfl,fun v hv f hf=>by cases hf⟩
theorem okFormY (bd:BD) (k:Nat):Ok26 bd k cFormY:=by
 intro d h π zs hC hpl hz hp hpre
 obtain ⟨rfl,rfl⟩:=hpl rfl
 obtain ⟨a,rfl,h1⟩:=oks_one hz
 simp only [TV.ok,ShT] at h1
 obtain ⟨x,rfl,h2⟩:=h1
 obtain ⟨h2,h4⟩:=(R26_561 (bd:=bdK bd k) (k:=k)).1 h2
 have h3:=formed_tot h2
 rw [h4] at h3
 refine ⟨_,.d (.s (.bool false)),E0,h3,⟨_,rfl,rfl,_,rfl⟩,fun _ _=>rfl,fun _ _=>rfl,ok_same rfl,fun v hv f hf=>?_⟩
 simp only [cFormY,List.mem_singleton] at hf
 subst hf
 show boolA (v (5,0,0))=false
 rw [hv.nv]; rfl
theorem okThereA (bd:BD) (k:Nat):Ok26 bd k cThereA:=by
 intro d h π zs hC hpl hz hp hpre
 obtain ⟨rfl,rfl⟩:=hpl rfl
 have hz:TV.oks _ E0 [.c (.nm 500),.c tI] zs:=hz
 simp only [TV.oks,TV.ok,ShT] at hz
 obtain ⟨_,_,rfl,⟨x,rfl,h2⟩,_,_,rfl,⟨_,rfl,n,rfl⟩,rfl⟩:=hz
 have h3:=there_tot ((R26_500 (bd:=bdK bd k) (k:=k)).1 h2) n
 exact ⟨_,.d (.s (.bool (thereV x n))),E0,h3,⟨_,rfl,rfl,_,rfl⟩,fun _ _=>rfl,fun _ _=>rfl,ok_same rfl,fun v hv f hf=>by cases hf⟩
theorem okThereY (bd:BD) (k:Nat):Ok26 bd k cThereY:=by
 intro d h π zs hC hpl hz hp hpre
 obtain ⟨rfl,rfl⟩:=hpl rfl
 have hz:TV.oks _ E0 [.c (.nm 563),.c tI] zs:=hz
 simp only [TV.oks,TV.ok,ShT] at hz
 obtain ⟨_,_,rfl,⟨x,rfl,h2⟩,_,_,rfl,⟨_,rfl,n,rfl⟩,rfl⟩:=hz
 obtain ⟨h2,h4⟩:=(R26_563 (bd:=bdK bd k) (k:=k)).1 h2
 have b:=hpre (apv (cThereY.cx ((fam26 bd).lv k) 0 E0 π) (st0 0 E0 [.d x,.d (.s (.int .i64 n))])) (fun _ _=>rfl)
 have b1:=b _ (List.mem_cons_self)
 have b2:=b _ (List.mem_cons_of_mem _ List.mem_cons_self)
 have b1:n + 0 ≤ (cThereY.cx ((fam26 bd).lv k) 0 E0 π).gs 3001:=b1
 have b2:(cThereY.cx ((fam26 bd).lv k) 0 E0 π).gs 3001 + 0 ≤ n:=b2
 have e:(cThereY.cx ((fam26 bd).lv k) 0 E0 π).gs 3001=bdK bd k 1:=gsb (F:=fam26 bd) (c:=cThereY) k 1
 rw [e] at b1 b2
 have hn:n=bdK bd k 1:=by omega
 subst hn
 have h3:=there_tot h2 (bdK bd k 1)
 rw [h4] at h3
 refine ⟨_,.d (.s (.bool false)),E0,h3,⟨_,rfl,rfl,_,rfl⟩,fun _ _=>rfl,fun _ _=>rfl,ok_same rfl,fun v hv f hf=>?_⟩
 simp only [cThereY,List.mem_singleton] at hf
 subst hf
 show boolA (v (5,0,0))=false
 rw [hv.nv]; rfl
theorem okKinds1 (bd:BD) (k:Nat):Ok26 bd k cKinds1:=by
 intro d h π zs hC hpl hz hp hpre
 have hz:TV.oks _ h [.c tI,.bp (false,0) 0] zs:=hz
 simp only [TV.oks,TV.ok,ShT] at hz
 obtain ⟨_,_,rfl,⟨_,rfl,n,rfl⟩,_,_,rfl,⟨ver,cs,rfl,hb⟩,rfl⟩:=hz
 obtain ⟨ver',cs',hb',hcs⟩:=hp 0 _ rfl
 have hb:h (π 0) = .box ver cs:=hb
 rw [hb] at hb'
 cases hb'
 simp only [TV.oks,TV.ok] at hcs
 obtain ⟨_,_,rfl,⟨_,rfl,h1⟩,rfl⟩:=hcs
 simp only [ShT] at h1
 obtain ⟨tabs,rfl,hl,ht⟩:=h1
 have hS:∀ (s:ByteArray) (a b:Int) (c:Bool),s.size ≤ bS→∃ n:Int,ev26 66 0 E0 [.d (.agg [.s (.string s),.s (.int .i64 a),.s (.int .i64 b),.s (.bool c)])]=some (.val (.s (.int .i64 n)),E0):=fun s a b c hs=>by
  obtain ⟨r,a',e1,⟨y,rfl,_,e2⟩,_⟩:=val_of (bd:=.n fun _=>0) (k:=0) (c:=cShown) (okShown _ 0) rfl rfl rfl (zs:=[.d (.agg [.s (.string s),.s (.int .i64 a),.s (.int .i64 b),.s (.bool c)])]) (oks1 (by
   simp only [TV.ok,ShT,ShL]
   exact ⟨_,rfl,_,rfl,_,_,rfl,⟨_,rfl,hs⟩,_,_,rfl,⟨_,rfl⟩,_,_,rfl,⟨_,rfl⟩,_,_,rfl,⟨_,rfl⟩,rfl⟩)) (nil_pre rfl)
  simp only [ShT] at e2
  obtain ⟨m,rfl⟩:=e2
  exact ⟨m,e1⟩
 obtain ⟨r,h',e1,rfl,e2⟩:=kinds1_ex _ hS (hC.low 0 (by show 0 < 1; decide)) tabs hl ht n h hb
 have sh:(∃ b,r = .tup [.clip [],.d (.s (.bool b))]) ∨ ∃ xs b,r = .freshT 1 xs [.d (.s (.bool b))]∧allI xs∧xs.length ≤ bL:=by
  unfold isKs at e2
  split at e2
  ·exact Or.inl ⟨_,rfl⟩
  ·exact Or.inr ⟨_,_,rfl,e2⟩
  ·exact e2.elim
 rcases sh with ⟨b,rfl⟩ | ⟨xs,b,rfl,ha,hx⟩
 ·refine ⟨_,.tup (.d (.lst []) :: [D.s (.bool b)].map .d),h',e1,⟨[],[.s (.bool b)],Or.inr rfl,rfl,Nat.zero_le _,fun x hx=>(by cases hx),?_⟩,fun _ _=>rfl,fun _ _=>rfl,fun p hp=>(by cases hp),fun v hv f hf=>by cases hf⟩
  simp only [ShL,ShT]; exact ⟨_,_,rfl,⟨_,rfl⟩,rfl⟩
 ·refine ⟨_,.tup (.d (.lst xs) :: [D.s (.bool b)].map .d),h',e1,⟨xs,[.s (.bool b)],Or.inl rfl,rfl,hx,fun x hx=>?_,?_⟩,fun _ _=>rfl,fun _ _=>rfl,fun p hp=>(by cases hp),fun v hv f hf=>by cases hf⟩
  ·simp only [ShT]; exact ha x hx
  ·simp only [ShL,ShT]; exact ⟨_,_,rfl,⟨_,rfl⟩,rfl⟩
end
section
theorem okFormB (bd:BD) (k:Nat):Ok26 bd k cFormB:=checks_ok (base26 (ixs:=[]) (ctrs_cons (okEKinds bd k) (ctrs_cons (okERight bd k) (ctrs_cons (okFormY bd k) (ctrs_cons (okFormA bd k) (ctrs_nil _ _)))))) (las:=lFormB) (fn:=Tryz.f95) (fuel:=2000) rfl Tryz.func95 (by decide) (by kernel_rfl)
theorem okFormN (bd:BD) (k:Nat):Ok26 bd k cFormN:=checks_ok (base26 (ixs:=[]) (ctrs_cons (okEKinds bd k) (ctrs_cons (okERight bd k) (ctrs_cons (okFormA bd k) (ctrs_nil _ _))))) (las:=lFormN) (fn:=Tryz.f95) (fuel:=2000) rfl Tryz.func95 (by decide) (by kernel_rfl)
theorem okThereB (bd:BD) (k:Nat):Ok26 bd k cThereB:=checks_ok (base26 (ixs:=[]) (ctrs_cons (okThereY bd k) (ctrs_cons (okThereA bd k) (ctrs_nil _ _)))) (las:=lThereB) (fn:=Tryz.f68) (fuel:=2000) rfl Tryz.func68 (by decide) (by kernel_rfl)
theorem okThereN (bd:BD) (k:Nat):Ok26 bd k cThereN:=checks_ok (base26 (ixs:=[]) (ctrs_cons (okThereA bd k) (ctrs_nil _ _))) (las:=lThereN) (fn:=Tryz.f68) (fuel:=2000) rfl Tryz.func68 (by decide) (by kernel_rfl)
theorem okTyped (bd:BD):∀ k:Nat,Ok26 bd k cTyped
 | 0=>checks_ok (base26 (ixs:=[]) (ctrs_cons (okEKinds bd 0) (ctrs_cons (okTogether bd 0) (ctrs_cons (ok_upZ (c:=cTyped) (Or.inr rfl) rfl) (ctrs_nil _ _))))) (las:=lTyped) (fn:=Tryz.f69) (fuel:=2000) rfl Tryz.func69 (by decide) (by kernel_rfl)
 | k + 1=>checks_ok (base26 (ixs:=[]) (ctrs_cons (okEKinds bd (k + 1)) (ctrs_cons (okTogether bd (k + 1)) (ctrs_cons (ok_up (F:=fam26 bd) (okTyped bd k) (by decide)) (ctrs_nil _ _))))) (las:=lTyped) (fn:=Tryz.f69) (fuel:=2000) rfl Tryz.func69 (by decide) (by kernel_rfl)
end
section
attribute [local congr] ite_congr
theorem false_of {C:Cx} {x:D} {c:Ctr} {r:R} {a:A} {b:Bool} (hr:r = .val (.s (.bool b))) (h2:RS.ok C (.val .bool) r a) (hp:c.post=[.f (.isb (5,0,0) false)]) {st:St} (h3:∀ v,NewC C st a E0 v→FOk v c.post):b=false:=by
 obtain ⟨b',e1,rfl⟩:=bool_res h2
 rw [hr] at e1
 cases e1
 let v:AP→A:=fun y=>match y.1 with
  | 5=>.d (.s (.bool b))
  | 6=>(A.d (.s (.bool b))).parts.getD y.2.1 .any
  | 7=>boxCell (E0 (C.π y.2.2)) y.2.1
  | _=>apv C st y
 have h4:=h3 v ⟨fun y hy=>by
  obtain ⟨i,j,k⟩:=y
  have hy:i < 5:=hy
  show (match i with | 5=>_ | 6=>_ | 7=>_ | _=>_)=_
  split
  ·omega
  ·omega
  ·omega
  ·rfl,fun _ _=>rfl,fun _ _=>rfl,fun _ _=>rfl⟩
 rw [hp] at h4
 exact h4 _ List.mem_cons_self
theorem formed_part {m:Nat} {x:D} (h:ShA (m + 1) x) {xs:List D} {a b c d:Int} {w:ByteArray} (hx:x = .agg [.s (.int .i64 a),.s (.int .i64 b),.s (.int .i64 c),.s (.int .i64 d),.s (.string w),.lst xs]) (hw:w.size ≤ bS) (hl:xs.length ≤ bL) (hs:∀ y ∈ xs,ShA m y) (hf:formedV x=true):∀ y ∈ xs,formedV y=true:=by
 intro y hy
 cases hy':formedV y with
 | true=>rfl
 | false =>
  obtain ⟨n,hn,rfl⟩:=List.getElem_of_mem hy
  obtain ⟨r,a',e1,e2,e3⟩:=val_of (bd:=.n fun _=>(n:Int)) (k:=0) (c:=cFormB) (okFormB _ 0) rfl rfl rfl (oks1 (nm_one (x:=x) ((R26_560 (bd:=.n fun _=>(n:Int)) (k:=0)).2 ⟨a,b,c,d,w,xs,hx,hw,hl,fun y hy=>⟨m,hs y hy⟩,n,rfl,_,List.getElem?_eq_getElem hn,hy'⟩))) (nil_pre rfl)
  have e4:=formed_tot ⟨_,h⟩
  have e1:ev26 95 0 E0 [.d x]=some (r,E0):=e1
  rw [e1] at e4
  have:=false_of (x:=x) (Prod.mk.inj (Option.some.inj e4)).1 e2 rfl e3
  rw [hf] at this; cases this
theorem there_part {m:Nat} {M:Int} {x:D} (h:ShA (m + 1) x) {xs:List D} {a b c d:Int} {w:ByteArray} (hx:x = .agg [.s (.int .i64 a),.s (.int .i64 b),.s (.int .i64 c),.s (.int .i64 d),.s (.string w),.lst xs]) (hw:w.size ≤ bS) (hl:xs.length ≤ bL) (hs:∀ y ∈ xs,ShA m y) (hf:thereV x M=true):∀ y ∈ xs,thereV y M=true:=by
 intro y hy
 cases hy':thereV y M with
 | true=>rfl
 | false =>
  obtain ⟨n,hn,rfl⟩:=List.getElem_of_mem hy
  let bd:BD:=.n fun i=>if i=1 then M else (n:Int)
  obtain ⟨r,a',e1,e2,e3⟩:=val_of (bd:=bd) (k:=0) (c:=cThereB) (okThereB _ 0) rfl rfl rfl (oks2 (nm_one (x:=x) ((R26_562 (bd:=bdK bd 0) (k:=0)).2 ⟨a,b,c,d,w,xs,hx,hw,hl,fun y hy=>⟨m,hs y hy⟩,n,rfl,_,List.getElem?_eq_getElem hn,hy'⟩)) (int_one M)) (fun v hv f hf=>by
   have e0:tv v (1,0,1,0)=M:=by show intA (v (0,1,0))=M; rw [hv _ (by show 0 < 5; decide)]; rfl
   have eg:tv v (1,4,3001,0)=M:=by
    show intA (v (4,3001,0))=M
    rw [hv _ (by show 4 < 5; decide)]
    exact cx0_gb bd 0 cThereB 1
   simp only [cThereB,List.mem_cons,List.not_mem_nil,or_false] at hf
   rcases hf with rfl | rfl
   ·show tv v (1,0,1,0) + 0 ≤ tv v (1,4,3001,0); omega
   ·show tv v (1,4,3001,0) + 0 ≤ tv v (1,0,1,0); omega)
  have e4:=there_tot ⟨_,h⟩ M
  have e1:ev26 68 0 E0 [.d x,.d (.s (.int .i64 M))]=some (r,E0):=e1
  rw [e1] at e4
  have:=false_of (x:=x) (Prod.mk.inj (Option.some.inj e4)).1 e2 rfl e3
  rw [hf] at this; cases this
theorem formed_col {m:Nat} {x:D} (h:ShA (m + 1) x) {xs:List D} {a b c d:Int} {w:ByteArray} (hx:x = .agg [.s (.int .i64 a),.s (.int .i64 b),.s (.int .i64 c),.s (.int .i64 d),.s (.string w),.lst xs]) (hf:formedV x=true) (ha:a=0):0 ≤ b:=by
 rcases Int.lt_or_le b 0 with hb | hb
 ·exfalso
  obtain ⟨r,a',e1,e2,e3⟩:=val_of (bd:=.n fun _=>0) (k:=0) (c:=cFormN) (okFormN _ 0) rfl rfl rfl (oks1 (nm_one ((R26_500 (bd:=.n fun _=>0) (k:=0)).2 ⟨_,h⟩))) (fun v hv f hf=>by
   have e0:tv v (1,1,0,0)=a:=by show intA (v (1,0,0))=a; rw [hv _ (by show 1 < 5; decide),hx]; rfl
   have e1:tv v (1,1,0,1)=b:=by show intA (v (1,0,1))=b; rw [hv _ (by show 1 < 5; decide),hx]; rfl
   have z0:tv v zT=0:=rfl
   simp only [cFormN,List.mem_cons,List.not_mem_nil,or_false] at hf
   rcases hf with rfl | rfl | rfl
   ·show tv v (1,1,0,0) + 0 ≤ tv v zT; omega
   ·show tv v zT + 0 ≤ tv v (1,1,0,0); omega
   ·show tv v (1,1,0,1) + 1 ≤ tv v zT; omega)
  have e4:=formed_tot ⟨_,h⟩
  have e1:ev26 95 0 E0 [.d x]=some (r,E0):=e1
  rw [e1] at e4
  have:=false_of (x:=x) (Prod.mk.inj (Option.some.inj e4)).1 e2 rfl e3
  rw [hf] at this; cases this
 ·exact hb
theorem there_col {m:Nat} {M:Int} {x:D} (h:ShA (m + 1) x) {xs:List D} {a b c d:Int} {w:ByteArray} (hx:x = .agg [.s (.int .i64 a),.s (.int .i64 b),.s (.int .i64 c),.s (.int .i64 d),.s (.string w),.lst xs]) (hf:thereV x M=true) (ha:a=0):b < M:=by
 rcases Int.lt_or_le b M with hb | hb
 ·exact hb
 ·exfalso
  obtain ⟨r,a',e1,e2,e3⟩:=val_of (bd:=.n fun _=>0) (k:=0) (c:=cThereN) (okThereN _ 0) rfl rfl rfl (oks2 (nm_one ((R26_500 (bd:=.n fun _=>0) (k:=0)).2 ⟨_,h⟩)) (int_one M)) (fun v hv f hf=>by
   have e0:tv v (1,1,0,0)=a:=by show intA (v (1,0,0))=a; rw [hv _ (by show 1 < 5; decide),hx]; rfl
   have e1:tv v (1,1,0,1)=b:=by show intA (v (1,0,1))=b; rw [hv _ (by show 1 < 5; decide),hx]; rfl
   have e2:tv v (1,0,1,0)=M:=by show intA (v (0,1,0))=M; rw [hv _ (by show 0 < 5; decide)]; rfl
   have z0:tv v zT=0:=rfl
   simp only [cThereN,List.mem_cons,List.not_mem_nil,or_false] at hf
   rcases hf with rfl | rfl | rfl
   ·show tv v (1,1,0,0) + 0 ≤ tv v zT; omega
   ·show tv v zT + 0 ≤ tv v (1,1,0,0); omega
   ·show tv v (1,0,1,0) + 0 ≤ tv v (1,1,0,1); omega)
  have e4:=there_tot ⟨_,h⟩ M
  have e1:ev26 68 0 E0 [.d x,.d (.s (.int .i64 M))]=some (r,E0):=e1
  rw [e1] at e4
  have:=false_of (x:=x) (Prod.mk.inj (Option.some.inj e4)).1 e2 rfl e3
  rw [hf] at this; cases this
theorem good_of {M:Int}:∀ {m:Nat} {x:D},ShA m x→formedV x=true→thereV x M=true→ShG M m x
 | 0,x,h,_,_=>h.elim
 | m + 1,x,h,hf,ht=>by
  obtain ⟨a,b,c,d,w,xs,hx,hw,hl,hs⟩:=ShA_cells h
  have p1:=formed_part h hx hw hl hs hf
  have p2:=there_part h hx hw hl hs ht
  refine ⟨_,hx,?_,a,b,_,rfl,fun ha=>⟨formed_col h hx hf ha,there_col h hx ht ha⟩⟩
  simp only [ShL,ShT]
  exact ⟨_,_,rfl,⟨_,rfl⟩,_,_,rfl,⟨_,rfl⟩,_,_,rfl,⟨_,rfl⟩,_,_,rfl,⟨_,rfl⟩,_,_,rfl,⟨_,rfl,hw⟩,_,_,rfl,⟨_,rfl,hl,fun y hy=>⟨trivial,good_of (hs y hy) (p1 y hy) (p2 y hy)⟩⟩,rfl⟩
theorem may_at {m:Nat} {x:D} (h:ShA (m + 1) x):∃ n:Int,ev26 67 0 E0 [.d x]=some (.val (.s (.int .i64 n)),E0)∧(n=0→formedV x=true):=by
 obtain ⟨r,a,e1,e2,_⟩:=val_of (bd:=.n fun _=>0) (k:=m) (c:=cDeep) (okDeep _ m) rfl rfl rfl (oks2 (nm_one ((R26_0 (bd:=.n fun _=>0) (k:=m)).2 (ShA_D h))) (int_one 20)) (nil_pre rfl)
 obtain ⟨b,rfl,_⟩:=bool_res e2
 have h1:ev26 94 0 E0 [.d x,.d (.s (.int .i64 20))]=some (.val (.s (.bool b)),E0):=e1
 have h2:=formed_tot ⟨_,h⟩
 obtain ⟨a1,a2,a3,a4,a5,a6,rfl,_⟩:=ShA_cells h
 have key:∃ r,ev26 67 0 E0 [.d (.agg [.s (.int .i64 a1),.s (.int .i64 a2),.s (.int .i64 a3),.s (.int .i64 a4),.s (.string a5),.lst a6])]=some (r,E0) ∧ ∃ n:Int,r = .val (.s (.int .i64 n))∧(n=0→formedV (.agg [.s (.int .i64 a1),.s (.int .i64 a2),.s (.int .i64 a3),.s (.int .i64 a4),.s (.string a5),.lst a6])=true):=by
  refine evr_val (n:=5) rfl (fn:=Tryz.f67) Tryz.func67 rfl (by simp [Tryz.ntmps67]) (by decide) ?_
  generalize formedV _=c at h2 ⊢
  cases b <;> cases c <;> simp [Tryz.ntmps67,Tryz.results67,h1,h2]
 obtain ⟨_,e,n,rfl,hn⟩:=key
 exact ⟨n,e,hn⟩
theorem okType (bd:BD) (k:Nat):Ok26 bd k cType:=by
 intro d h π zs hC hpl hz hp hpre
 obtain ⟨rfl,rfl⟩:=hpl rfl
 have hz:TV.oks _ E0 [.c (.nm 0),.c (.lst tI bK)] zs:=hz
 simp only [TV.oks,TV.ok,ShT] at hz
 obtain ⟨_,_,rfl,⟨x,rfl,h2⟩,_,_,rfl,⟨_,rfl,l,rfl,hl,hln⟩,rfl⟩:=hz
 have h2:ShA (k + 1) x:=ShD_A ((R26_0 (bd:=bdK bd k) (k:=k)).1 h2)
 obtain ⟨n,hm,hmf⟩:=may_at h2
 have ht:=there_tot ⟨_,h2⟩ (l.length:Int)
 have hty:formedV x=true→thereV x (l.length:Int)=true→∃ p q:Int,ev26 69 0 E0 [.d x,.d (.lst l)]=some (.tup [.d (.s (.int .i64 p)),.d (.s (.int .i64 q))],E0):=fun hf ht=>by
  obtain ⟨r,a,e1,⟨ds,rfl,_,e2⟩,_⟩:=val_of (bd:=.n fun _=>(l.length:Int)) (k:=k) (c:=cTyped) (okTyped _ k) rfl rfl rfl (zs:=[.d x,.d (.lst l)]) (oks2 (nm_one ((R26_2 (bd:=bdK (.n fun _=>(l.length:Int)) k) (k:=k)).2 (good_of h2 hf ht))) (by
   simp only [TV.ok,ShT]
   exact ⟨_,rfl,_,rfl,hl,hln⟩)) (fun v hv f hf=>by
   have e0:tv v (2,0,1,0)=l.length:=by show lenA (v (0,1,0))=_; rw [hv _ (by show 0 < 5; decide)]; rfl
   have eg:tv v (1,4,3001,0)=l.length:=by
    show intA (v (4,3001,0))=_
    rw [hv _ (by show 4 < 5; decide)]
    exact cx0_gb (.n fun _=>(l.length:Int)) k cTyped 1
   simp only [cTyped,List.mem_cons,List.not_mem_nil,or_false] at hf
   subst hf
   show tv v (1,4,3001,0) + 0 ≤ tv v (2,0,1,0); omega)
  simp only [ShL,ShT] at e2
  obtain ⟨_,_,rfl,⟨p,rfl⟩,_,_,rfl,⟨q,rfl⟩,rfl⟩:=e2
  exact ⟨p,q,e1⟩
 obtain ⟨a1,a2,a3,a4,a5,a6,rfl,_⟩:=ShA_cells h2
 have key:∃ r,ev26 28 0 E0 [.d (.agg [.s (.int .i64 a1),.s (.int .i64 a2),.s (.int .i64 a3),.s (.int .i64 a4),.s (.string a5),.lst a6]),.d (.lst l)]=some (r,E0) ∧ ∃ p q:Int,r = .tup [.d (.s (.int .i64 p)),.d (.s (.int .i64 q))]:=by
  refine evr_val (n:=5) rfl (fn:=Tryz.f28) Tryz.func28 rfl (by simp [Tryz.ntmps28]) (by decide) ?_
  generalize formedV _=c at *
  generalize thereV _ _=b at *
  by_cases hn:n=0
  ·have hc:=hmf hn
   subst hc
   cases b with
   | false=>simp [Tryz.ntmps28,Tryz.results28,(show keepT Tryz.f28.name=false from rfl),hm,ht,hn]
   | true =>
    obtain ⟨p,q,ht2⟩:=hty rfl rfl
    simp [Tryz.ntmps28,Tryz.results28,(show keepT Tryz.f28.name=false from rfl),hm,ht,hn,ht2]
  ·simp [Tryz.ntmps28,Tryz.results28,(show keepT Tryz.f28.name=false from rfl),hm,hn]
 obtain ⟨_,e,p,q,rfl⟩:=key
 refine ⟨_,.tup ([D.s (.int .i64 p),.s (.int .i64 q)].map .d),E0,e,⟨_,rfl,rfl,?_⟩,fun _ _=>rfl,fun _ _=>rfl,ok_same rfl,fun v hv f hf=>by cases hf⟩
 simp only [ShL,ShT]
 exact ⟨_,_,rfl,⟨_,rfl⟩,_,_,rfl,⟨_,rfl⟩,rfl⟩
end
end Go.Proofs.YtenoggjjhamdaaaGreatDoor
