/-
  WHAT IS PROVED HERE: parts of the proof: SxI SxJ SxU SxT.
-/
import Derived.Test.YtenoggjjhamdaaaGreatDoorB13
set_option linter.all false
namespace Go.Proofs.YtenoggjjhamdaaaGreatDoor
open Go Go.RowKit
section
noncomputable section
def lstOk (E:Nat→Option (List Ty)) (t:TV) (e:Ty):Bool :=
 match t with
 | .nilv=>true
 | .own p e' | .rl p e'=>p.1 && Ty.subE E e' e && e'.sz E == e.sz E
 | .c (.lst e' _)=>Ty.subE E e' e
 | _=>false
abbrev gN (k c b:Nat):Nat:=2000 + (128 * k + 2 * c + b)
theorem gN_0 (h:Id→O) (π:Nat→Id) {k c:Nat} (hc:c < 64):iniG h π (128 * k + 2 * c + 0)=intA (boxCell (h (π k)) c):=by
 unfold iniG
 rw [if_pos (by omega),show (128 * k + 2 * c + 0) / 128=k by omega,show (128 * k + 2 * c + 0) % 128 / 2=c by omega]
theorem gN_1 (h:Id→O) (π:Nat→Id) {k c:Nat} (hc:c < 64):iniG h π (128 * k + 2 * c + 1)=lenA (boxCell (h (π k)) c):=by
 unfold iniG
 rw [if_neg (by omega),show (128 * k + 2 * c + 1) / 128=k by omega,show (128 * k + 2 * c + 1) % 128 / 2=c by omega]
def rhoF (na np:Nat) (wl:List Nat) (r:Option Nat) (g:Nat→Option Nat) (a:AP):AP :=
 match a.1 with
 | 0=>if a.2.1 < na then (0,a.2.1,0) else (8,0,0)
 | 1=>if a.2.1 < na then (1,a.2.1,a.2.2) else (8,0,0)
 | 3=>if a.2.1 < np && !wl.contains a.2.1 then (3,a.2.1,a.2.2) else (8,0,0)
 | 4=>if 3000 ≤ a.2.1 then (4,a.2.1,0) else (8,0,0)
 | 5=>(match r with | some r=>(0,r,0) | none=>(8,0,0))
 | 6=>(match r with | some r=>(1,r,a.2.1) | none=>(match g a.2.1 with | some s=>(0,s,0) | none=>(8,0,0)))
 | 7=>if a.2.2 < np then (3,a.2.2,a.2.1) else (8,0,0)
 | _=>(8,0,0)
def wasN (wl:List Nat) (a:AP):Bool:=Nat.beq a.1 3 && (wl.contains a.2.1 && (decide (a.2.1 ≤ 6) && decide (a.2.2 < 64)))
def tauF (wl:List Nat) (ρ:AP→AP) (t:Term):Term × Int :=
 match t with
 | (0,_)=>(zT,0)
 | (1,a)=>if wasN wl a then ((1,4,gN a.2.1 a.2.2 0,0),0) else ((1,ρ a),0)
 | (3,_)=>((3,8,0,0),0)
 | (_,a)=>if wasN wl a then ((1,4,gN a.2.1 a.2.2 1,0),0) else ((2,ρ a),0)
def postB (wl:List Nat) (ρ:AP→AP) (fs post:List Fact):Bool:=post.all fun f=>!(f.inst (tauF wl ρ) ρ).men isBad && has fs (f.inst (tauF wl ρ) ρ)
theorem postB_ok {wl:List Nat} {ρ:AP→AP} {vc v:AP→A} (hk:∀ a,isBad (ρ a)=false→Me1 (vc a) (v (ρ a))) (hw:∀ k c,k ≤ 6→c < 64→intA (vc (3,k,c))=intA (v (4,gN k c 0,0))∧lenA (vc (3,k,c))=intA (v (4,gN k c 1,0))) {fs post:List Fact} (hf:FOk v fs) (h:postB wl ρ fs post=true):FOk vc post:=by
 have hw':∀ a,wasN wl a=true→intA (vc a)=intA (v (4,gN a.2.1 a.2.2 0,0))∧lenA (vc a)=intA (v (4,gN a.2.1 a.2.2 1,0)):=by
  rintro ⟨k,i,c⟩ ha
  unfold wasN at ha
  simp only [Bool.and_eq_true,decide_eq_true_eq] at ha
  obtain ⟨h1,_,h2,h3⟩:=ha
  have:k=3:=Nat.eq_of_beq_eq_true h1
  subst this
  exact hw i c h2 h3
 have two:∀ (k:Nat) (a:AP),tauF wl ρ (k,a)=(if wasN wl a then ((1,4,gN a.2.1 a.2.2 1,0),0) else ((2,ρ a),0))→tv vc (k,a)=lenA (vc a)→Term.men isBad (tauF wl ρ (k,a)).1=false→tv vc (k,a)=tv v (tauF wl ρ (k,a)).1 + (tauF wl ρ (k,a)).2:=by
  intro k a he hv hb
  rw [he] at hb ⊢
  rw [hv]
  split at hb
  ·rename_i hn
   rw [if_pos hn,(hw' a hn).2]
   show _=intA (v (4,gN a.2.1 a.2.2 1,0)) + 0
   omega
  ·rename_i hn
   rw [if_neg hn]
   have:=(hk a hb).l
   show lenA (vc a)=lenA (v (ρ a)) + 0
   omega
 have told:Told (tauF wl ρ) ρ vc v:=by
  refine ⟨?_,fun a ha=>⟨(hk a ha).b,(hk a ha).i⟩⟩
  rintro ⟨k,a⟩ hb
  match k with
  | 0=>rfl
  | 1 =>
   simp only [tauF] at hb ⊢
   split at hb
   ·rename_i hn
    rw [if_pos hn]
    show intA (vc a)=intA (v (4,gN a.2.1 a.2.2 0,0)) + 0
    rw [(hw' a hn).1]; omega
   ·rename_i hn
    rw [if_neg hn]
    have:=(hk a hb).i
    show intA (vc a)=intA (v (ρ a)) + 0
    omega
  | 2=>exact two 2 a rfl rfl hb
  | 3=>simp [tauF,Term.men,isBad] at hb
  | k + 4=>exact two (k + 4) a rfl rfl hb
 intro f hm
 have:=List.all_eq_true.1 h f hm
 rw [Bool.and_eq_true] at this
 exact (Fact.inst_ok told (by simpa using this.1)).1 (has_ok hf this.2)
def agOk (E:Nat→Option (List Ty)) (σ:SS) (r:Nat) (t:Ty):Bool:=match opTV σ (.tmp r),agTy E t with | .ag l,some us=>(l.flatMap ownPl1).all (fun p=>p.1) && agFit E σ.fs r 0 l us | _,_=>false
theorem agOk_ok {C:Cx} (hC:C.Ok) {σ:SS} {st:St} (g:Ga C σ st) {r:Nat} {t:Ty} (hr:r < σ.n) (h:agOk C.E σ r t=true):(st.t r).isAgg=true ∧ ∃ x ids,fzVal st.h (st.t r)=some (x,ids)∧(∀ i ∈ ids,i.1=C.d)∧ShT C.R t x∧Me (.d x) (st.t r):=by
 unfold agOk at h
 split at h
 ·rename_i l us hl hu
  rw [Bool.and_eq_true] at h
  have ha:=opTV_ok g (.tmp r)
  rw [hl,ev_tmp g hr] at ha
  have hag:(st.t r).isAgg=true:=by simp only [TV.ok] at ha; exact ha.1
  obtain ⟨x,ids,k1,_,k3,k4,k5,k6⟩:=agVal_ok hC g.nows' (r:=r) ha (fun c=>by
   show (st.t r).parts.getD c .any=_
   cases hst:st.t r with
   | d y=>rfl
   | agg cs=>rfl
   | _=>rw [hst] at hag; cases hag) hu h.2
  refine ⟨hag,x,ids,k1,fun i hi=>?_,k4,⟨k5,k6⟩⟩
  obtain ⟨p,hp,hp1,rfl⟩:=k3 i hi
  obtain ⟨b,j⟩:=p
  have hb:b=true:=hp1
  subst hb; rfl
 ·cases h
theorem resR_agg {k:Bool} {d:Nat} {h:Id→O} {a:A} (ha:a.isAgg=true):resR k d h [a]=(fzVal h a).map fun p=>(.val p.1,p.2):=by
 cases a <;> first | rfl | cases ha
def tupB (E:Nat→Option (List Ty)) (pl:Bool) (σ:SS):List Nat→List Ty→Bool
 | [],[]=>true
 | r :: l,t :: ts=>decide (r < σ.n) && (TV.sub E (opTV σ (.tmp r)) (.c t) || (pl && ((match t with | .lst e b=>lstOk E (opTV σ (.tmp r)) e && leI σ.fs ((2,0,r,0),0) (zT,b) 0 | _=>false) || agOk E σ r t))) && tupB E pl σ l ts
 | _,_=>false
mutual
def parsT:TV→List Nat
 | .bp p _=>if p.1 then [] else [p.2]
 | .clo _ l=>parsTs l
 | _=>[]
def parsTs:List TV→List Nat
 | []=>[]
 | t :: l=>parsT t ++ parsTs l
end
def wsT (np:Nat):TV→Bool
 | .c _ | .nilv | .any | .was _ _=>true
 | .own p _ | .rl p _=>!p.1 && lowP np p
 | _=>false
def wsB (E:Nat→Option (List Ty)) (c:Ctr) (σ:SS):Bool:=c.ws.all fun w =>
 (match σ.hp.find? fun q=>q.1 == (false,w.1) with | some q=>TV.subs E q.2 w.2 | none=>false) && (w.2.all (wsT c.pars.length) && ((List.range c.args.length).any fun i=>match c.args[i]? with | some t=>(parsT t).contains w.1 && (decide (i < σ.n) && TV.sub E (opTV σ (.tmp i)) t) | none=>false))
def cellsS (P:Program) (E:Nat→Option (List Ty)) (n0:Nat):List ResultVar→Nat→SS→Option (SS × List Nat)
 | [],_,σ=>some (σ,[])
 | .tmp t :: l,k,σ=>if t < n0 then (cellsS P E n0 l k σ).map fun p=>(p.1,t :: p.2) else none
 | .cell a t :: l,k,σ=>if a < n0 then (match sLoad P E σ t (.tmp a) with
  | some o=>(match o.act with
   | .wr u cp new=>(cellsS P E n0 l (k + 1) (σ.wr (some k) u cp new)).map fun p=>(p.1,k :: p.2)
   | _=>none)
  | none=>none) else none
theorem resA_congr {P:Program} {st st':St} (hn:st'.n=st.n) (hh:st'.h=st.h) (ht:∀ i,i < st.n→st'.t i=st.t i) (r:ResultVar):resA P st' r=resA P st r:=by
 cases r with
 | tmp t =>
  simp only [resA,hn]
  split
  ·rename_i h; rw [ht t h]
  ·rfl
 | cell a t =>
  simp only [resA,hn,hh]
  split
  ·rename_i h; rw [ht a h]
  ·rfl
theorem resAs_congr {P:Program} {st st':St} (hn:st'.n=st.n) (hh:st'.h=st.h) (ht:∀ i,i < st.n→st'.t i=st.t i):∀ l:List ResultVar,resAs P st' l=resAs P st l
 | []=>rfl
 | r :: l=>by simp only [resAs,resA_congr hn hh ht r,resAs_congr hn hh ht l]
theorem cellsS_ok {C:Cx} (hC:C.Ok) {n0:Nat}:∀ {rs:List ResultVar} {k:Nat} {σ σ':SS} {ts:List Nat} {st:St},cellsS C.P C.E n0 rs k σ=some (σ',ts)→n0 ≤ k→k + rs.length ≤ σ.n→Ga C σ st →
  ∃ st',Ga C σ' st' ∧ st'.h=st.h∧st'.d=st.d∧st'.al=st.al∧(∀ i,i < k→st'.t i=st.t i)∧resAs C.P { st with n:=n0 } rs=some (ts.map st'.t)
 | [],k,σ,σ',ts,st,h,_,_,g=>by
  simp only [cellsS,Option.some.injEq,Prod.mk.injEq] at h
  obtain ⟨rfl,rfl⟩:=h
  exact ⟨st,g,rfl,rfl,rfl,fun _ _=>rfl,rfl⟩
 | .tmp t :: l,k,σ,σ',ts,st,h,hk,hn,g=>by
  unfold cellsS at h
  split at h
  ·rename_i ht
   obtain ⟨⟨σ2,ts2⟩,h1,h2⟩:=Option.map_eq_some_iff.1 h
   cases h2
   rw [List.length_cons] at hn
   obtain ⟨st',g',e1,e2,e3,e4,e5⟩:=cellsS_ok hC h1 hk (by omega) g
   refine ⟨st',g',e1,e2,e3,e4,?_⟩
   unfold resAs
   rw [e5]
   have:resA C.P { st with n:=n0 } (.tmp t)=some (st.t t):=by
    show (if t < n0 then _ else _)=_
    rw [if_pos ht]
   rw [this,List.map_cons,e4 t (Nat.lt_of_lt_of_le ht hk)]
  ·cases h
 | .cell a t :: l,k,σ,σ',ts,st,h,hk,hn,g=>by
  unfold cellsS at h
  rw [List.length_cons] at hn
  split at h
  ·rename_i ha
   split at h
   ·rename_i o ho
    split at h
    ·rename_i u cp new hact
     obtain ⟨⟨σ2,ts2⟩,h1,h2⟩:=Option.map_eq_some_iff.1 h
     cases h2
     have hok:=sLoad_ok (X:=fun _ _ _ _=>none) hC g (o:=⟨some k,.load t (.tmp a),t, "", #[],none⟩) rfl ho
     obtain ⟨e,q1,_,_,q4⟩:=hok (σ.wr (some k) u cp new) (by rw [hact]; rfl)
     have q1:loadE C.P st.h t (st.ev (.tmp a))=some e:=q1
     have hw:e.wr=[]:=by
      have key:∀ x:A,loadE C.P st.h t x=some e→e.wr=[]:=by
       intro x hx
       cases x <;> simp only [loadE] at hx <;> try cases hx
       ·split at hx
        ·split at hx
         ·obtain ⟨y,_,rfl⟩:=Option.map_eq_some_iff.1 hx; rfl
         ·cases hx
        ·cases hx
       ·split at hx
        ·split at hx
         ·obtain ⟨z,_,hz⟩:=Option.bind_eq_some_iff.1 hx
          obtain ⟨y,_,rfl⟩:=Option.map_eq_some_iff.1 hz; rfl
         ·cases hx
        ·cases hx
       ·obtain ⟨z,_,hz⟩:=Option.bind_eq_some_iff.1 hx
        obtain ⟨y,_,rfl⟩:=Option.map_eq_some_iff.1 hz; rfl
      exact key _ q1
     have hev:st.ev (.tmp a)=st.t a:=by
      show (if a < st.n then _ else _)=_
      rw [if_pos (Nat.lt_of_lt_of_le ha (by have:=g.n; omega))]
     rw [hev] at q1
     have hh:(st.put (some k) e).h=st.h:=by
      show e.out st.h=st.h
      unfold Eff.out
      rw [hw]; rfl
     have htk:(st.put (some k) e).t k=e.v:=by
      show upd st.t k e.v k=_
      rw [upd_at,if_pos rfl]
     have hto:∀ i,i ≠ k→(st.put (some k) e).t i=st.t i:=fun i hi=>by
      show upd st.t k e.v i=_
      rw [upd_at,if_neg hi]
     obtain ⟨st',g',e1,e2,e3,e4,e5⟩:=cellsS_ok hC h1 (by omega) (by show k + 1 + l.length ≤ σ.n; omega) q4
     refine ⟨st',g',by rw [e1,hh],by rw [e2]; rfl,by rw [e3]; rfl,fun i hi=>by rw [e4 i (by omega),hto i (by omega)],?_⟩
     unfold resAs
     have h6:resAs C.P { st with n:=n0 } l=resAs C.P { st.put (some k) e with n:=n0 } l:=(resAs_congr (st:={ st with n:=n0 }) (st':={ st.put (some k) e with n:=n0 }) rfl hh (fun i hi=>hto i (by have:i < n0:=hi; omega)) l).symm
     rw [h6,e5]
     have:resA C.P { st with n:=n0 } (.cell a t)=some e.v:=by
      show (if a < n0 then (loadE C.P st.h t (st.t a)).map (·.v) else none)=_
      rw [if_pos ha,q1]; rfl
     rw [this,List.map_cons,e4 k (by omega),htk]
    ·cases h
   ·cases h
  ·cases h
def finR (K:SK) (nm:String) (c:Ctr) (ts:List Nat) (σ:SS):Bool :=
 match c.res,ts with
 | .val t,[r]=>decide (r < σ.n) && (TV.sub K.E (opTV σ (.tmp r)) (.c t) || agOk K.E σ r t) && postB K.wl (rhoF c.args.length c.pars.length K.wl (some r) fun _=>none) σ.fs c.post
 | .lst e b,[r]=>decide (r < σ.n) && lstOk K.E (opTV σ (.tmp r)) e && leI σ.fs ((2,0,r,0),0) (zT,b) 0 && postB K.wl (rhoF c.args.length c.pars.length K.wl (some r) fun _=>none) σ.fs c.post
 | .tup ts,r :: s :: l=>!keepT nm && tupB K.E (c.args.all plainArg) σ (r :: s :: l) ts && postB K.wl (rhoF c.args.length c.pars.length K.wl none fun i=>(r :: s :: l)[i]?) σ.fs c.post
 | .tup ts,[]=>ts.isEmpty && postB K.wl (rhoF c.args.length c.pars.length K.wl none fun _=>none) σ.fs c.post
 | _,_=>false
def finB (K:SK) (fn:Func) (c:Ctr) (σ:SS):Bool :=
 match cellsS K.P K.E σ.n fn.results.toList σ.n { σ with n:=σ.n + fn.results.toList.length } with
 | some (σ',ts)=>decide (c.args.length ≤ σ.n) && (finR K fn.name c ts σ' && wsB K.E c σ')
 | none=>false
theorem Ga.more {C:Cx} {σ:SS} {st:St} (g:Ga C σ st) (m:Nat):Ga C { σ with n:=σ.n + m } { st with n:=st.n + m } :=
 ⟨g.d,by show st.n + m=σ.n + m; rw [g.n],g.sl,g.hp,fun v hv=>g.fs v fun x hx=>by
  rw [hv x hx]
  obtain ⟨k,i,c⟩:=x
  match k with
  | 0=>rfl
  | 1=>rfl
  | 2=>rfl
  | 3=>rfl
  | 4=>rfl
  | k + 5=>rfl,g.low,g.al,g.pk,g.wh⟩
def startFs (E:Nat→Option (List Ty)):Nat→List TV→List Fact
 | _,[]=>[]
 | i,t :: l=>(match t with
  | .c (.st ts)=>tyBs (fun c=>(1,i,c)) 0 ts
  | .c (.nm j)=>nfG (fun c=>(1,i,c)) j ++ (match E j with | some ts=>tyBs (fun c=>(1,i,c)) 0 ts | none=>[])
  | .c t=>tyB (0,i,0) t
  | _=>[]) ++ startFs E (i + 1) l
def parF1 (k:Nat):Nat→List TV→List Fact
 | _,[]=>[]
 | c,t :: l=>(match t with | .c u=>tyB (3,k,c) u | _=>[]) ++ parF1 k (c + 1) l
def parFs:Nat→List (List TV)→List Fact
 | _,[]=>[]
 | k,ts :: l=>parF1 k 0 ts ++ parFs (k + 1) l
def iniF1 (k:Nat):Nat→List TV→List Fact
 | _,[]=>[]
 | c,t :: l=>(if decide (k ≤ 6) && decide (c < 64) then (match t with
  | .c (.int _)=>[.f (.le (1,4,gN k c 0,0) (1,3,k,c) 0),.f (.le (1,3,k,c) (1,4,gN k c 0,0) 0)]
  | .c (.lst _ _) | .c (.str _) | .nilv | .own _ _ | .rl _ _=>[.f (.le (1,4,gN k c 1,0) (2,3,k,c) 0),.f (.le (2,3,k,c) (1,4,gN k c 1,0) 0)]
  | _=>[]) else []) ++ iniF1 k (c + 1) l
def iniFs (c:Ctr):List Fact:=c.ws.flatMap fun w=>match c.pars[w.1]? with | some ts=>iniF1 w.1 0 ts | none=>[]
def idx {α:Type}:Nat→List α→List (Nat × α)
 | _,[]=>[]
 | i,x :: l=>(i,x) :: idx (i + 1) l
def start (E:Nat→Option (List Ty)) (fn:Func) (c:Ctr):SS :=
 { n:=fn.ntmps,sl:=idx 0 c.args,hp:=(idx 0 c.pars).map fun p=>((false,p.1),p.2),fs:=startFs E 0 c.args ++ (parFs 0 c.pars ++ (iniFs c ++ c.pre)) }
theorem idx_mem {α:Type}:∀ {l:List α} {k i:Nat} {x:α},(i,x) ∈ idx k l→k ≤ i∧l[i - k]? = some x
 | [],k,i,x,h=>by cases h
 | y :: l,k,i,x,h=>by
  rcases List.mem_cons.1 h with h | h
  ·cases h; simp
  ·obtain ⟨h1,h2⟩:=idx_mem h
   refine ⟨by omega,?_⟩
   rw [show i - k=(i - (k + 1)) + 1 by omega]
   simpa using h2
theorem mem_reachS {h:Id→O}:∀ (n:Nat) {l:List Id} {x:Id},x ∈ l→x ∈ reachIds h n l
 | n,[],x,hx=>by cases hx
 | 0,a :: l,x,hx=>hx
 | n + 1,a :: l,x,hx=>List.mem_append_left _ (List.mem_append_left _ hx)
mutual
theorem parsT_ok {C:Cx} {h:Id→O}:∀ {t:TV} {a:A},TV.ok C h t a→∀ k ∈ parsT t,C.π k ∈ idsA a
 | .bp p off,a,hx,k,hk=>by
  simp only [TV.ok] at hx
  obtain ⟨ver,cs,rfl,_⟩:=hx
  obtain ⟨b,j⟩:=p
  cases b with
  | true=>simp [parsT] at hk
  | false =>
   have:k=j:=by simpa [parsT] using hk
   subst this
   simp [idsA,Cx.at]
 | .clo f l,a,hx,k,hk=>by
  simp only [TV.ok] at hx
  obtain ⟨zs,rfl,hx⟩:=hx
  simp only [idsA]
  exact parsTs_ok hx k (by simpa [parsT] using hk)
 | .any,a,hx,k,hk=>by simp [parsT] at hk
 | .und,a,hx,k,hk=>by simp [parsT] at hk
 | .mp _ _ _,a,hx,k,hk=>by simp [parsT] at hk
 | .was _ _,a,hx,k,hk=>by simp [parsT] at hk
 | .dead,a,hx,k,hk=>by simp [parsT] at hk
 | .c _,a,hx,k,hk=>by simp [parsT] at hk
 | .nilv,a,hx,k,hk=>by simp [parsT] at hk
 | .own _ _,a,hx,k,hk=>by simp [parsT] at hk
 | .rl _ _,a,hx,k,hk=>by simp [parsT] at hk
 | .tup _,a,hx,k,hk=>by simp [parsT] at hk
 | .ep _ _,a,hx,k,hk=>by simp [parsT] at hk
 | .ag _,a,hx,k,hk=>by simp [parsT] at hk
 | .el _ _ _,a,hx,k,hk=>by simp [parsT] at hk
theorem parsTs_ok {C:Cx} {h:Id→O}:∀ {ts:List TV} {zs:List A},TV.oks C h ts zs→∀ k ∈ parsTs ts,C.π k ∈ idsL zs
 | [],zs,hx,k,hk=>by simp [parsTs] at hk
 | t :: ts,zs,hx,k,hk=>by
  simp only [TV.oks] at hx
  obtain ⟨a,l,rfl,h2,h3⟩:=hx
  simp only [parsTs,List.mem_append] at hk
  simp only [idsL,List.mem_append]
  rcases hk with hk | hk
  ·exact Or.inl (parsT_ok h2 k hk)
  ·exact Or.inr (parsTs_ok h3 k hk)
end
theorem mem_adLI {i:Id}:∀ {cs:List A} {k off:Nat},adoptable cs[off]? = true→adoptId i (k + off) ∈ adL i k cs
 | [],k,off,h=>by simp [adoptable] at h
 | c :: cs,k,0,h=>by
  simp only [List.getElem?_cons_zero] at h
  unfold adL
  rw [if_pos h]
  exact List.mem_cons_self
 | c :: cs,k,off + 1,h=>by
  have:=mem_adLI (i:=i) (cs:=cs) (k:=k + 1) (off:=off) (by simpa using h)
  rw [show k + 1 + off=k + (off + 1) by omega] at this
  unfold adL
  split
  ·exact List.mem_cons_of_mem _ this
  ·exact this
theorem mem_reachA {h:Id→O} {l:List Id} {i:Id} (hi:i ∈ l) {ver:Nat} {cs:List A} {off:Nat} (hb:h i = .box ver cs) (ha:adoptable cs[off]? = true):adoptId i off ∈ reachIds h 3 l:=by
 have key:∀ (m:List Id),i ∈ m→adoptId i off ∈ adH h m:=by
  intro m
  induction m with
  | nil=>intro h; cases h
  | cons j m ih =>
   intro hm
   show _ ∈ adIds j (h j) ++ adH h m
   rcases List.mem_cons.1 hm with rfl | hm
   ·refine List.mem_append_left _ ?_
    rw [hb]
    have:=mem_adLI (i:=i) (k:=0) ha
    rw [Nat.zero_add] at this
    exact this
   ·exact List.mem_append_right _ (ih hm)
 cases l with
 | nil=>cases hi
 | cons a l=>exact List.mem_append_left _ (List.mem_append_right _ (key _ hi))
theorem start_ok {C:Cx} (hC:C.Ok) {fn:Func} {c:Ctr} {d:Nat} {h:Id→O} {zs:List A} (hd:C.d=d) (hh:C.h0=h) (ha:TV.oks C h c.args zs) (hp:∀ k ts,c.pars[k]? = some ts→∃ ver cs,h (C.π k) = .box ver cs∧TV.oks C h ts cs)
  (hpre:∀ v,Now C (st0 d h zs) v→FOk v c.pre) (hnp:C.np=c.pars.length) (hal:∀ k,k < C.np→C.π k ∈ idsL zs) (hwl:C.wl=c.ws.map (·.1)) (had:∀ p ∈ C.ads,p.1 < C.np ∧ ∃ ver cs,h (C.π p.1) = .box ver cs∧adoptable cs[p.2]? = true) (hgn:∀ k c,k ≤ 6→c < 64→C.gs (gN k c 0)=intA (boxCell (h (C.π k)) c)∧C.gs (gN k c 1)=lenA (boxCell (h (C.π k)) c)):Ga C (start C.E fn c) (initSt fn d h zs):=by
 have hget:∀ i t,c.args[i]? = some t→TV.ok C h t (zs.getD i (.d (.s undef))):=fun i t ht=>by
  obtain ⟨a,h1,h2⟩:=oks_get ha ht
  rw [List.getD_eq_getElem?_getD,h1]; exact h2
 have hpk:∀ p ∈ (start C.E fn c).hp,p.1.1=true ∨ p.1.2 < C.np:=by
  intro p hm
  obtain ⟨⟨k,ts⟩,hm2,rfl⟩:=List.mem_map.1 hm
  obtain ⟨_,h2⟩:=idx_mem hm2
  right
  rw [hnp]
  have:k < c.pars.length:=(List.getElem?_eq_some_iff.1 (by simpa using h2)).1
  exact this
 refine ⟨hd.symm,rfl,?_,?_,?_,?_,⟨fun k hk=>mem_reachS 3 (hal k hk),fun p hp=>?_⟩,hpk,fun p hp=>by cases hp⟩
 ·rintro ⟨i,t⟩ hm
  obtain ⟨_,h2⟩:=idx_mem hm
  exact hget i t (by simpa using h2)
 ·intro p hm
  obtain ⟨⟨k,ts⟩,hm2,rfl⟩:=List.mem_map.1 hm
  obtain ⟨_,h2⟩:=idx_mem hm2
  exact hp k ts (by simpa using h2)
 ·intro v hv
  have hv0:Now C (st0 d h zs) v:=fun a ha=>by
   rw [hv a ha]
   obtain ⟨k,i,c⟩:=a
   match k with
   | 0=>rfl
   | 1=>rfl
   | 2=>rfl
   | 3=>rfl
   | 4=>rfl
   | k + 5=>exact absurd ha (by simp)
  refine FOkA ?_ (FOkA ?_ (FOkA ?_ (hpre v hv0)))
  ·have key:∀ (l:List TV) (i:Nat),(∀ j t,l[j]? = some t→TV.ok C h t (zs.getD (i + j) (.d (.s undef))))→FOk v (startFs C.E i l):=by
    intro l
    induction l with
    | nil=>intro i _ f hf; cases hf
    | cons t l ih =>
     intro i hl
     refine FOkA ?_ (ih (i + 1) fun j u hu=>by
      have:=hl (j + 1) u (by simpa using hu)
      rw [show i + 1 + j=i + (j + 1) by omega]; exact this)
     have h0:=hl 0 t (by simp)
     rw [Nat.add_zero] at h0
     have v0:v (0,i,0)=zs.getD i (.d (.s undef)):=by rw [hv0 _ (by show 0 < 5; decide)]; rfl
     have v1:∀ c,v (1,i,c)=(zs.getD i (.d (.s undef))).parts.getD c .any:=fun c=>by rw [hv0 _ (by show 1 < 5; decide)]; rfl
     have agg:∀ ts ds,ShL C.R ts ds→zs.getD i (.d (.s undef)) = .d (.agg ds)→FOk v (tyBs (fun c=>(1,i,c)) 0 ts):=by
      intro ts ds h1 h2
      refine tyBs_ok (gbOf hC hv0) h1 fun c y hy=>?_
      show v (1,i,0 + c)=_
      rw [v1,h2,Nat.zero_add,List.getD_eq_getElem?_getD]
      show ((ds.map A.d)[c]?).getD _=_
      rw [List.getElem?_map,hy]; rfl
     cases t with
     | c t =>
      simp only [TV.ok] at h0
      obtain ⟨x,h2,h3⟩:=h0
      cases t with
      | st ts =>
       simp only [ShT] at h3
       obtain ⟨ds,rfl,h3⟩:=h3
       exact agg _ ds h3 h2
      | nm j =>
       simp only [ShT] at h3
       obtain ⟨ts,ds,e1,rfl,h4⟩:=hC.rel.unf _ _ h3
       intro f hf
       rcases List.mem_append.1 hf with hf | hf
       ·refine nfG_ok hC (bdOf hC hv0) h3 (g:=fun c=>(1,i,c)) (fun c=>?_) f hf
        show v (1,i,c)=_
        rw [v1,h2]; rfl
       ·simp only [e1] at hf
        exact agg ts ds h4 h2 f hf
      | _=>exact tyB_ok (gbOf hC hv0) h3 (by rw [v0,h2])
     | _=>intro f hf; cases hf
   exact key _ 0 fun j t ht=>by rw [Nat.zero_add]; exact hget j t ht
  ·have key:∀ (l:List (List TV)) (i:Nat),(∀ j ts,l[j]? = some ts→∃ ver cs,h (C.π (i + j)) = .box ver cs∧TV.oks C h ts cs)→FOk v (parFs i l):=by
    intro l
    induction l with
    | nil=>intro i _ f hf; cases hf
    | cons ts l ih =>
     intro i hl
     refine FOkA ?_ (ih (i + 1) fun j u hu=>by
      have:=hl (j + 1) u (by simpa using hu)
      rw [show i + 1 + j=i + (j + 1) by omega]; exact this)
     obtain ⟨ver,cs,h1,h2⟩:=hl 0 ts (by simp)
     rw [Nat.add_zero] at h1
     have one:∀ (ts:List TV) (cs2:List A) (c0:Nat),TV.oks C h ts cs2→(∀ j,cs.getD (c0 + j) .any=cs2.getD j .any)→FOk v (parF1 i c0 ts):=by
      intro ts
      induction ts with
      | nil=>intro _ _ _ _ f hf; cases hf
      | cons t ts ih2 =>
       intro cs2 c0 hx hc
       simp only [TV.oks] at hx
       obtain ⟨a,l2,rfl,h4,h5⟩:=hx
       refine FOkA ?_ (ih2 l2 (c0 + 1) h5 fun j=>by
        have:=hc (j + 1)
        rw [show c0 + 1 + j=c0 + (j + 1) by omega,this]; rfl)
       have e0:v (3,i,c0)=a:=by
        rw [hv0 _ (by show 3 < 5; decide)]
        show boxCell (h (C.π i)) c0=a
        rw [h1]
        exact hc 0
       split
       ·rename_i u
        simp only [TV.ok] at h4
        obtain ⟨x,rfl,h6⟩:=h4
        exact tyB_ok (gbOf hC hv0) h6 e0
       ·intro f hf; cases hf
     exact one ts cs 0 h2 fun j=>by rw [Nat.zero_add]
   exact key _ 0 fun j ts hts=>by rw [Nat.zero_add]; exact hp j ts hts
  ·intro f hf
   unfold iniFs at hf
   obtain ⟨w,hw,hf⟩:=List.mem_flatMap.1 hf
   split at hf
   ·rename_i ts hts
    have key:∀ (ts:List TV) (c0:Nat),FOk v (iniF1 w.1 c0 ts):=by
     intro ts
     induction ts with
     | nil=>intro _ f hf; cases hf
     | cons t ts ih =>
      intro c0
      refine FOkA ?_ (ih (c0 + 1))
      split
      ·rename_i hc
       simp only [Bool.and_eq_true,decide_eq_true_eq] at hc
       obtain ⟨g1,g2⟩:=hgn w.1 c0 hc.1 hc.2
       have e3:v (3,w.1,c0)=boxCell (h (C.π w.1)) c0:=hv0 _ (by show 3 < 5; decide)
       have e4:∀ b,tv v (1,4,gN w.1 c0 b,0)=C.gs (gN w.1 c0 b):=fun b=>by
        show intA (v (4,gN w.1 c0 b,0))=_
        rw [hv0 _ (by show 4 < 5; decide)]; rfl
       have e5:tv v (1,3,w.1,c0)=C.gs (gN w.1 c0 0):=by
        show intA (v (3,w.1,c0))=_
        rw [e3,g1]
       have e6:tv v (2,3,w.1,c0)=C.gs (gN w.1 c0 1):=by
        show lenA (v (3,w.1,c0))=_
        rw [e3,g2]
       have p1:FOk v [.f (.le (1,4,gN w.1 c0 0,0) (1,3,w.1,c0) 0),.f (.le (1,3,w.1,c0) (1,4,gN w.1 c0 0,0) 0)]:=by
        intro f hf
        simp only [List.mem_cons,List.not_mem_nil,or_false] at hf
        rcases hf with rfl | rfl
        ·show tv v _ + 0 ≤ tv v _; rw [e4,e5]; omega
        ·show tv v _ + 0 ≤ tv v _; rw [e4,e5]; omega
       have p2:FOk v [.f (.le (1,4,gN w.1 c0 1,0) (2,3,w.1,c0) 0),.f (.le (2,3,w.1,c0) (1,4,gN w.1 c0 1,0) 0)]:=by
        intro f hf
        simp only [List.mem_cons,List.not_mem_nil,or_false] at hf
        rcases hf with rfl | rfl
        ·show tv v _ + 0 ≤ tv v _; rw [e4,e6]; omega
        ·show tv v _ + 0 ≤ tv v _; rw [e4,e6]; omega
       split
       ·exact p1
       all_goals first | exact p2 | (intro f hf; cases hf)
      ·intro f hf; cases hf
    exact key ts 0 f hf
   ·cases hf
 ·intro id _ _
  show h id=C.h0 id
  rw [hh]
 ·obtain ⟨h1,ver,cs,h2,h3⟩:=had p hp
  exact mem_reachA (hal p.1 h1) h2 h3
theorem lst_res {C:Cx} (hC:C.Ok) {h:Id→O} {t:TV} {e:Ty} {a:A} (hx:TV.ok C h t a) (hl:lstOk C.E t e=true) (k:Bool):∃ xs ids,(∀ x ∈ xs,ShT C.R e x)∧Me (.d (.lst xs)) a∧(∀ i ∈ ids,i.1=C.d) ∧
  fzVal h a=some (.lst xs,ids) ∧ ∃ r ids',resR k C.d h [a]=some (r,ids')∧(r = .val (.lst xs) ∨ r = .fresh (e.sz C.E) xs) ∧ ∀ i ∈ ids',i.1=C.d:=by
 have noid:∀ i ∈ ([]:List Id),i.1=C.d:=fun i hi=>by cases hi
 have clip:∀ xs,a = .clip xs→(∀ x ∈ xs,ShT C.R e x)→∃ xs ids,(∀ x ∈ xs,ShT C.R e x)∧Me (.d (.lst xs)) a∧(∀ i ∈ ids,i.1=C.d)∧fzVal h a=some (.lst xs,ids) ∧ ∃ r ids',resR k C.d h [a]=some (r,ids')∧(r = .val (.lst xs) ∨ r = .fresh (e.sz C.E) xs) ∧ ∀ i ∈ ids',i.1=C.d:=by
  rintro xs rfl h1
  exact ⟨xs,[],h1,me_lst1 xs,noid,rfl,_,[],rfl,Or.inl rfl,noid⟩
 have sl:∀ p ver n xs fz,p.1=true→a = .sl (C.at p) ver 0 xs.length→h (C.at p) = .vec ver n xs fz→n=e.sz C.E→(∀ x ∈ xs,ShT C.R e x)→∃ xs ids,(∀ x ∈ xs,ShT C.R e x)∧Me (.d (.lst xs)) a∧(∀ i ∈ ids,i.1=C.d)∧fzVal h a=some (.lst xs,ids) ∧ ∃ r ids',resR k C.d h [a]=some (r,ids')∧(r = .val (.lst xs) ∨ r = .fresh (e.sz C.E) xs) ∧ ∀ i ∈ ids',i.1=C.d:=by
  rintro ⟨b,j⟩ ver n xs fz hb rfl hv rfl h1
  have hb:b=true:=hb
  subst hb
  have hat:(C.at (true,j)).1=C.d:=rfl
  have hone:∀ i ∈ [C.at (true,j)],i.1=C.d:=fun i hi=>by
   simp only [List.mem_singleton] at hi; subst hi; rfl
  refine ⟨xs,[C.at (true,j)],h1,me_lst2 xs _ _,hone,?_,?_⟩
  ·simp only [fzVal,fzCell,hv]
   rw [if_pos ⟨trivial,by omega⟩]
   simp
  ·cases fz with
   | false =>
    refine ⟨.fresh (e.sz C.E) xs,[],?_,Or.inr rfl,noid⟩
    simp only [resR,hat,Nat.lt_irrefl,if_false,hv]
    rw [if_pos ⟨trivial,by omega⟩,if_pos ⟨trivial,trivial,trivial⟩]
   | true =>
    refine ⟨.val (.lst xs),[C.at (true,j)],?_,Or.inl rfl,hone⟩
    simp only [resR,hat,Nat.lt_irrefl,if_false,hv]
    rw [if_pos ⟨trivial,by omega⟩,if_neg (by simp)]
    simp
 unfold lstOk at hl
 split at hl
 ·simp only [TV.ok] at hx
  exact clip [] hx (fun x hx=>by cases hx)
 ·rw [Bool.and_eq_true,Bool.and_eq_true] at hl
  have hsz:_=_:=eq_of_beq hl.2
  simp only [TV.ok] at hx
  rcases hx with ⟨xs,h1,h2⟩ | ⟨ver,n,xs,fz,h1,h2,h3,h4⟩
  ·exact clip xs h1 fun x hx=>subE_ok hC.rel hl.1.2 (h2 x hx)
  ·exact sl _ ver n xs fz hl.1.1 h1 h2 (by rw [h3,hsz]) fun x hx=>subE_ok hC.rel hl.1.2 (h4 x hx)
 ·rw [Bool.and_eq_true,Bool.and_eq_true] at hl
  have hsz:_=_:=eq_of_beq hl.2
  simp only [TV.ok] at hx
  rcases hx with (⟨xs,h1,h2⟩ | ⟨ver,n,xs,fz,h1,h2,h3,h4⟩) | ⟨xs,h1,h2⟩
  ·exact clip xs h1 fun x hx=>subE_ok hC.rel hl.1.2 (h2 x hx)
  ·exact sl _ ver n xs fz hl.1.1 h1 h2 (by rw [h3,hsz]) fun x hx=>subE_ok hC.rel hl.1.2 (h4 x hx)
  ·subst h1
   exact ⟨xs,[],fun x hx=>subE_ok hC.rel hl.1.2 (h2 x hx),Me.refl _,noid,rfl,_,[],rfl,Or.inl rfl,noid⟩
 ·simp only [TV.ok,ShT] at hx
  obtain ⟨_,rfl,xs,rfl,_,h2⟩:=hx
  exact ⟨xs,[],fun x hx=>subE_ok hC.rel hl (h2 x hx),Me.refl _,noid,rfl,_,[],rfl,Or.inl rfl,noid⟩
 ·cases hl
theorem tup_res {C:Cx} (hC:C.Ok) {σ:SS} {st:St} (g:Ga C σ st) {pl:Bool} (hpl:pl=true→C.d=0):∀ {rs:List Nat} {ts:List Ty},tupB C.E pl σ rs ts=true→(∀ r ∈ rs,r < st.n) ∧ ∃ ds ids,keepAs C.d st.h (rs.map st.t)=some (ds.map .d,ids)∧(∀ i ∈ ids,i.1=C.d)∧ShL C.R ts ds∧rs.length=ds.length ∧ ∀ (i:Nat) (r:Nat) (x:D),rs[i]? = some r→ds[i]? = some x→Me (.d x) (st.t r)
 | [],ts,h=>by
  cases ts <;> simp only [tupB,Bool.false_eq_true] at h
  exact ⟨fun r hr=>(by cases hr),[],[],rfl,fun i hi=>(by cases hi),(by simp [ShL]),rfl,fun i r x hr=>(by simp at hr)⟩
 | r :: rs,ts,h=>by
  cases ts <;> simp only [tupB,Bool.false_eq_true] at h
  rename_i t ts
  rw [Bool.and_eq_true,Bool.and_eq_true] at h
  obtain ⟨⟨h1,h2⟩,h3⟩:=h
  have h1:=of_decide_eq_true h1
  obtain ⟨i1,ds,ids,i2,i3,i4,i5,i6⟩:=tup_res hC g hpl h3
  have hok:=opTV_ok g (.tmp r)
  rw [ev_tmp g h1] at hok
  have head:∃ x id1,keepA C.d st.h (st.t r)=some (.d x,id1)∧(∀ i ∈ id1,i.1=C.d)∧ShT C.R t x∧Me (.d x) (st.t r):=by
   rw [Bool.or_eq_true] at h2
   rcases h2 with h2 | h2
   ·have:=TV.sub_ok hC _ _ h2 hok
    simp only [TV.ok] at this
    obtain ⟨x,e1,e2⟩:=this
    refine ⟨x,[],?_,fun i hi=>(by cases hi),e2,by rw [e1]; exact Me.refl _⟩
    rw [e1]
    unfold keepA
    split
    ·rfl
    ·rfl
   ·rw [Bool.and_eq_true] at h2
    obtain ⟨h4,h5⟩:=h2
    rw [Bool.or_eq_true] at h5
    rcases h5 with h5 | h5
    rotate_left
    ·obtain ⟨_,x,id1,k1,k2,k3,k4⟩:=agOk_ok hC g h1 h5
     refine ⟨x,id1,?_,k2,k3,k4⟩
     unfold keepA
     rw [if_neg (by rw [hpl h4]; simp),k1]
     rfl
    split at h5
    ·rename_i e b
     rw [Bool.and_eq_true] at h5
     obtain ⟨xs,id1,k1,k2,k3,k4,_⟩:=lst_res hC hok h5.1 false
     refine ⟨.lst xs,id1,?_,k3,?_,k2⟩
     ·unfold keepA
      rw [if_neg (by rw [hpl h4]; simp),k4]
      rfl
     ·simp only [ShT]
      refine ⟨xs,rfl,?_,k1⟩
      have hb:=leI_ok g.nows h5.2
      have z0:tv (apv C st) zT=0:=rfl
      simp only [z0] at hb
      have hl:tv (apv C st) (2,0,r,0)=lenA (st.t r):=rfl
      have hm:=k2.w.l
      have hm:(xs.length:Int)=lenA (st.t r):=hm
      omega
    ·cases h5
  obtain ⟨x,id1,k1,k2,k3,k4⟩:=head
  refine ⟨fun s hs=>?_,x :: ds,id1 ++ ids,?_,?_,?_,by simp [i5],?_⟩
  ·rcases List.mem_cons.1 hs with rfl | hs
   ·rw [g.n]; exact h1
   ·exact i1 s hs
  ·simp only [List.map_cons]
   unfold keepAs
   rw [k1,i2]
  ·intro i hi
   rcases List.mem_append.1 hi with hi | hi
   ·exact k2 i hi
   ·exact i3 i hi
  ·simp only [ShL]; exact ⟨x,ds,rfl,k3,i4⟩
  ·intro i s y hs hy
   cases i with
   | zero=>simp at hs hy; subst hs hy; exact k4
   | succ i=>exact i6 i s y (by simpa using hs) (by simpa using hy)
end
end
section
noncomputable section
theorem frz_okW {C:Cx} {st:St} {ids:List Id} (hd:st.d=C.d) (h:∀ i ∈ ids,i.1=C.d):okW st.d st.al (frz st.h ids)=true:=by
 rw [hd]
 exact okW_of fun p hp=>h _ (frz_mem hp)
abbrev leftE (d:Nat) (h:Id→O) (st:St) (ids:List Id):Id→O:=Go.Proofs.YtenoggjjhamdaaaGreatDoor.cut d h (upds st.h (frz st.h ids))
theorem left_low {C:Cx} {st:St} {d:Nat} {h:Id→O} (hd:C.d=d) {ids:List Id} (hi:∀ i ∈ ids,i.1=C.d) {i:Id} (hl:i.1 < d):leftE d h st ids i=st.h i:=by
 show (if i.1 < d then _ else _)=_
 rw [if_pos hl,frz_not _ _ _ (fun hm=>by have:=hi i hm; omega)]
theorem left_same {C:Cx} {σ:SS} {st:St} (g:Ga C σ st) {d:Nat} {h:Id→O} (hd:C.d=d) (hh:C.h0=h) {ids:List Id} (hi:∀ i ∈ ids,i.1=C.d) {i:Id} (hw:¬ C.wid i):leftE d h st ids i=h i:=by
 by_cases hl:i.1 < d
 ·rw [left_low hd hi hl,g.low i (by omega) hw,hh]
 ·show (if i.1 < d then _ else _)=_
  rw [if_neg hl]
theorem low_lt {C:Cx} (hC:C.Ok) {p:PL} (h:(!p.1)=true∧lowP C.np p=true):(C.at p).1 < C.d:=by
 obtain ⟨b,k⟩:=p
 have hb:b=false:=by simpa using h.1
 subst hb
 have h2:=h.2
 unfold lowP at h2
 simp only [Bool.false_or,Bool.or_eq_true,Bool.and_eq_true,decide_eq_true_eq] at h2
 show (C.π k).1 < C.d
 rcases h2 with h | h
 ·exact hC.low k h
 ·have key:∃ a b,a < C.np∧b < 64∧k=1000 + 64 * a + b:=⟨(k - 1000) / 64,(k - 1000) % 64,by omega,by omega,by omega⟩
  obtain ⟨a,b,h1,h2,rfl⟩:=key
  rw [hC.ad a b h1 h2]
  exact hC.low a h1
theorem wsT_ok {C:Cx} (hC:C.Ok) {h h':Id→O} (hh:∀ i:Id,i.1 < C.d→h' i=h i) {t:TV} {a:A} (hw:wsT C.np t=true) (hx:TV.ok C h t a):TV.ok C h' t a:=by
 refine TV.ok_keep (fun q hq=>?_) hx
 have e:h' (C.at q)=h (C.at q):=by
  refine hh _ ?_
  cases t <;> simp only [wsT,Bool.false_eq_true,Bool.and_eq_true] at hw <;> simp only [TV.men,Bool.false_eq_true] at hq
  ·rename_i p e
   have:p=q:=eq_of_beq hq
   subst this
   exact low_lt hC hw
  ·rename_i p e
   have:p=q:=eq_of_beq hq
   subst this
   exact low_lt hC hw
 rw [e]; exact Fz_refl _
mutual
theorem parsT_ver {C:Cx} {h h2:Id→O}:∀ {t:TV} {a:A},TV.ok C h t a→TV.ok C h2 t a→∀ k ∈ parsT t,∃ ver cs cs2,h (C.π k) = .box ver cs∧h2 (C.π k) = .box ver cs2
 | .bp p off,a,hx,hy,k,hk=>by
  simp only [TV.ok] at hx hy
  obtain ⟨ver,cs,rfl,e1⟩:=hx
  obtain ⟨ver2,cs2,e2,e3⟩:=hy
  cases e2
  obtain ⟨b,j⟩:=p
  cases b with
  | true=>simp [parsT] at hk
  | false =>
   have:k=j:=by simpa [parsT] using hk
   subst this
   exact ⟨_,cs,cs2,e1,e3⟩
 | .clo f l,a,hx,hy,k,hk=>by
  simp only [TV.ok] at hx hy
  obtain ⟨zs,rfl,hx⟩:=hx
  obtain ⟨zs2,e2,hy⟩:=hy
  cases e2
  exact parsTs_ver hx hy k (by simpa [parsT] using hk)
 | .any,a,hx,_,k,hk=>by simp [parsT] at hk
 | .und,a,hx,_,k,hk=>by simp [parsT] at hk
 | .mp _ _ _,a,hx,_,k,hk=>by simp [parsT] at hk
 | .was _ _,a,hx,_,k,hk=>by simp [parsT] at hk
 | .dead,a,hx,_,k,hk=>by simp [parsT] at hk
 | .c _,a,hx,_,k,hk=>by simp [parsT] at hk
 | .nilv,a,hx,_,k,hk=>by simp [parsT] at hk
 | .own _ _,a,hx,_,k,hk=>by simp [parsT] at hk
 | .rl _ _,a,hx,_,k,hk=>by simp [parsT] at hk
 | .tup _,a,hx,_,k,hk=>by simp [parsT] at hk
 | .ep _ _,a,hx,_,k,hk=>by simp [parsT] at hk
 | .ag _,a,hx,_,k,hk=>by simp [parsT] at hk
 | .el _ _ _,a,hx,_,k,hk=>by simp [parsT] at hk
theorem parsTs_ver {C:Cx} {h h2:Id→O}:∀ {ts:List TV} {zs:List A},TV.oks C h ts zs→TV.oks C h2 ts zs→∀ k ∈ parsTs ts,∃ ver cs cs2,h (C.π k) = .box ver cs∧h2 (C.π k) = .box ver cs2
 | [],zs,hx,_,k,hk=>by simp [parsTs] at hk
 | t :: ts,zs,hx,hy,k,hk=>by
  simp only [TV.oks] at hx hy
  obtain ⟨a,l,rfl,h3,h4⟩:=hx
  obtain ⟨a2,l2,e,h5,h6⟩:=hy
  cases e
  simp only [parsTs,List.mem_append] at hk
  rcases hk with hk | hk
  ·exact parsT_ver h3 h5 k hk
  ·exact parsTs_ver h4 h6 k hk
end
theorem wsB_ok {C:Cx} (hC:C.Ok) {c:Ctr} {d:Nat} {h:Id→O} {zs:List A} (hd:C.d=d) (hnp:C.np=c.pars.length) {σ:SS} {st:St} (g:Ga C σ st) (ha:Args c.args.length (fun i=>zs.getD i (.d (.s undef))) st) (hz:TV.oks C h c.args zs) (hwlk:∀ p ∈ c.ws,p.1 < C.np) {ids:List Id} (hi:∀ i ∈ ids,i.1=C.d) (hf:wsB C.E c σ=true) :
  ∀ p ∈ c.ws,∃ ver cs cs',h (C.π p.1) = .box ver cs∧leftE d h st ids (C.π p.1) = .box ver cs' ∧ TV.oks C (leftE d h st ids) p.2 cs':=by
 intro p hp
 have h0:=List.all_eq_true.1 hf p hp
 simp only [Bool.and_eq_true] at h0
 obtain ⟨h1,h2,h3⟩:=h0
 have hlow:(C.π p.1).1 < d:=by have:=hC.low p.1 (hwlk p hp); omega
 obtain ⟨i,hi1,h3⟩:=List.any_eq_true.1 h3
 split at h3
 ·rename_i t ht
  simp only [Bool.and_eq_true,decide_eq_true_eq] at h3
  obtain ⟨h4,h5,h6⟩:=h3
  have hlt:i < c.args.length:=(List.getElem?_eq_some_iff.1 ht).1
  obtain ⟨a,ha1,ha2⟩:=oks_get hz ht
  have e1:st.t i=a:=by
   rw [ha i hlt]
   show zs.getD i _=a
   rw [List.getD_eq_getElem?_getD,ha1]; rfl
  have h7:=opTV_ok g (.tmp i)
  rw [ev_tmp g h5,e1] at h7
  obtain ⟨ver,cs,cs2,e2,e3⟩:=parsT_ver ha2 (TV.sub_ok hC _ _ h6 h7) p.1 (by simpa using h4)
  split at h1
  ·rename_i q hq
   have hq1:=g.hp q (List.mem_of_find?_eq_some hq)
   have hq2:q.1=(false,p.1):=by simpa using List.find?_some hq
   rw [hq2] at hq1
   obtain ⟨ver',cs',e4,e5⟩:=hq1
   have e4:st.h (C.π p.1) = .box ver' cs':=e4
   rw [e3] at e4
   cases e4
   refine ⟨ver,cs,cs2,e2,by rw [left_low hd hi hlow]; exact e3,?_⟩
   have e6:=TV.subs_ok hC _ _ h1 e5
   have key:∀ {ts:List TV} {zs:List A},ts.all (wsT c.pars.length)=true→TV.oks C st.h ts zs→TV.oks C (leftE d h st ids) ts zs:=by
    intro ts
    induction ts with
    | nil=>intro zs _ hz; simpa only [TV.oks] using hz
    | cons t ts ih =>
     intro zs hw hz
     rw [List.all_cons,Bool.and_eq_true] at hw
     simp only [TV.oks] at hz ⊢
     obtain ⟨x,l,k1,k2,k3⟩:=hz
     exact ⟨x,l,k1,wsT_ok hC (fun i hi'=>left_low hd hi (by omega)) (by rw [hnp]; exact hw.1) k2,ih hw.2 k3⟩
   exact key h2 e6
  ·cases h1
 ·cases h3
theorem end_told {C:Cx} {st:St} {d:Nat} {h h':Id→O} {zs:List A} {na np:Nat} {wl:List Nat} (ha:Args na (fun i=>zs.getD i (.d (.s undef))) st) (hpar:∀ k,k < np→k ∉ wl→st.h (C.π k)=h (C.π k)) (hend:∀ k,k < np→h' (C.π k)=st.h (C.π k)) {r:Option Nat} {gt:Nat→Option Nat} {a:A} {v:AP→A} {gs:Nat→Int} (hgs:∀ i,2000 ≤ i→gs i=C.gs i) (hv:NewC (C.g gs) (st0 d h zs) a h' v)
  (hr:∀ i,r=some i→Me a (st.t i)) (hg:r=none→∀ c i,gt c=some i→Me1 (a.parts.getD c .any) (st.t i)):∀ x,isBad (rhoF na np wl r gt x)=false→Me1 (v x) (apv C st (rhoF na np wl r gt x)):=by
 rintro ⟨k,i,c⟩ hb
 match k with
 | 0 =>
  simp only [rhoF] at hb ⊢
  split at hb
  ·rename_i hlt
   rw [if_pos hlt,hv.now _ (by show 0 < 5; decide)]
   show Me1 (zs.getD i _) (st.t i)
   rw [ha i hlt]; exact Me1.refl _
  ·simp [isBad] at hb
 | 1 =>
  simp only [rhoF] at hb ⊢
  split at hb
  ·rename_i hlt
   rw [if_pos hlt,hv.now _ (by show 1 < 5; decide)]
   show Me1 ((zs.getD i _).parts.getD c .any) ((st.t i).parts.getD c .any)
   rw [ha i hlt]; exact Me1.refl _
  ·simp [isBad] at hb
 | 2=>simp [rhoF,isBad] at hb
 | 3 =>
  simp only [rhoF] at hb ⊢
  split at hb
  ·rename_i hlt
   rw [if_pos hlt,hv.now _ (by show 3 < 5; decide)]
   rw [Bool.and_eq_true] at hlt
   show Me1 (boxCell (h (C.π i)) c) (boxCell (st.h (C.π i)) c)
   rw [hpar i (of_decide_eq_true hlt.1) (by simpa using hlt.2)]; exact Me1.refl _
  ·simp [isBad] at hb
 | 4 =>
  simp only [rhoF] at hb ⊢
  split at hb
  ·rename_i hlt
   rw [if_pos hlt,hv.now _ (by show 4 < 5; decide)]
   show Me1 (.d (.s (.int .i64 (gs i)))) (.d (.s (.int .i64 (C.gs i))))
   rw [hgs i (by omega)]; exact Me1.refl _
  ·simp [isBad] at hb
 | 5 =>
  simp only [rhoF] at hb ⊢
  split at hb
  ·rename_i j
   rw [hv.nv]
   exact (hr j rfl).w
  ·simp [isBad] at hb
 | 6 =>
  simp only [rhoF] at hb ⊢
  split at hb
  ·rename_i j
   rw [hv.nc]
   exact (hr j rfl).c i
  ·split at hb
   ·rename_i s hs
    rw [hv.nc]
    exact hg rfl i s hs
   ·simp [isBad] at hb
 | 7 =>
  simp only [rhoF] at hb ⊢
  split at hb
  ·rename_i hlt
   rw [if_pos hlt,hv.nb]
   show Me1 (boxCell (h' (C.π c)) i) (boxCell (st.h (C.π c)) i)
   rw [hend c hlt]; exact Me1.refl _
  ·simp [isBad] at hb
 | k + 8=>simp [rhoF,isBad] at hb
theorem resR_many (d:Nat) (h:Id→O) (a b:A) (l:List A):resR false d h (a :: b :: l)=(keepAs d h (a :: b :: l)).map fun p=>(.tup p.1,p.2):=by
 cases a <;> rfl
theorem fin_ok {K:SK} {C:Cx} (hC:C.Ok) (hP:C.P=K.P) (hE:C.E=K.E) {fn:Func} {c:Ctr} {d:Nat} {h:Id→O} {zs:List A} (hd:C.d=d) (hh:C.h0=h) (hnp:C.np=c.pars.length) (hnp10:c.pars.length ≤ 1000) (hwl:C.wl=c.ws.map (·.1)) (hKw:K.wl=c.ws.map (·.1)) (hz:TV.oks C h c.args zs) (hpl:c.args.all plainArg=true→d=0)
  (hgn:∀ k c,k ≤ 6→c < 64→C.gs (gN k c 0)=intA (boxCell (h (C.π k)) c)∧C.gs (gN k c 1)=lenA (boxCell (h (C.π k)) c)) {σ:SS} {st:St} (g:Ga C σ st)
  (ha:Args c.args.length (fun i=>zs.getD i (.d (.s undef))) st) (hf:finB K fn c σ=true):∃ r a h',bodyR C.P fn d h st=some (r,h')∧RS.ok C c.res r a∧(∀ i,¬ C.wid i→h' i=h i) ∧
   (∀ p ∈ c.ws,∃ ver cs cs',h (C.π p.1) = .box ver cs∧h' (C.π p.1) = .box ver cs' ∧ TV.oks C h' p.2 cs') ∧ ∀ gs v,(∀ i,2000 ≤ i→gs i=C.gs i)→NewC (C.g gs) (st0 d h zs) a h' v→FOk v c.post:=by
 have hpar:∀ k,k < c.pars.length→k ∉ K.wl→st.h (C.π k)=h (C.π k):=fun k hk hn=>by
  rw [g.low _ (hC.low k (by rw [hnp]; exact hk)) ?_,hh]
  rintro (⟨k',hk',e⟩ | ⟨p,hp,e⟩)
  ·have:=hC.inj _ _ e
   subst this
   exact hn (by rw [hKw,← hwl]; exact hk')
  ·have h1:=hC.adk p hp
   rw [← hC.ad p.1 p.2 h1.1 h1.2] at e
   have:=hC.inj _ _ e
   omega
 unfold finB at hf
 split at hf
 rotate_left
 ·cases hf
 rename_i σ1 ts1 hcs
 rw [Bool.and_eq_true,Bool.and_eq_true] at hf
 obtain ⟨hna,hf,hwb⟩:=hf
 have hna:=of_decide_eq_true hna
 rw [← hP,← hE] at hcs
 obtain ⟨st1,g1,sh,sd,sal,stt,sres0⟩:=cellsS_ok hC hcs (Nat.le_refl _) (Nat.le_refl _) (g.more _)
 have sh:st1.h=st.h:=sh
 have sd:st1.d=st.d:=sd
 have sal:st1.al=st.al:=sal
 have stt:∀ i,i < σ.n→st1.t i=st.t i:=stt
 have sres:resAs C.P st fn.results.toList=some (ts1.map st1.t):=by
  rw [← sres0]
  have:({ ({ st with n:=st.n + fn.results.toList.length }:St) with n:=σ.n }:St)=st:=by
   obtain ⟨n,d,t,h,al⟩:=st
   have:n=σ.n:=g.n
   subst this; rfl
  rw [this]
 clear sres0 hcs
 have ha1:Args c.args.length (fun i=>zs.getD i (.d (.s undef))) st1:=fun i hi=>by rw [stt i (by omega)]; exact ha i hi
 have fin:∀ (r:R) (a:A) (ids:List Id),resR (keepT fn.name) C.d st1.h (ts1.map st1.t)=some (r,ids)→(∀ i ∈ ids,i.1=C.d)→RS.ok C c.res r a →
   (∀ gs v,(∀ i,2000 ≤ i→gs i=C.gs i)→NewC (C.g gs) (st0 d h zs) a (leftE d h st1 ids) v→FOk v c.post)→∃ r a h',bodyR C.P fn d h st=some (r,h')∧RS.ok C c.res r a∧(∀ i,¬ C.wid i→h' i=h i) ∧
   (∀ p ∈ c.ws,∃ ver cs cs',h (C.π p.1) = .box ver cs∧h' (C.π p.1) = .box ver cs' ∧ TV.oks C h' p.2 cs') ∧ ∀ gs v,(∀ i,2000 ≤ i→gs i=C.gs i)→NewC (C.g gs) (st0 d h zs) a h' v→FOk v c.post:=by
  intro r a ids h3 h4 h5 h6
  refine ⟨r,a,leftE d h st1 ids,?_,h5,fun i hw=>left_same g1 hd hh h4 hw,wsB_ok hC hd hnp g1 ha1 hz (fun p hp=>hC.wlk _ (by rw [hwl]; exact List.mem_map_of_mem hp)) h4 (by rw [hE]; exact hwb),h6⟩
  unfold bodyR
  rw [sres,← hd,← sh]
  simp only [Option.bind_some,h3]
  rw [← sd,← sal,if_pos (frz_okW g1.d h4)]
 have hpar:∀ k,k < c.pars.length→k ∉ K.wl→st1.h (C.π k)=h (C.π k):=fun k hk hn=>by rw [sh]; exact hpar k hk hn
 have hend:∀ ids,(∀ i ∈ ids,i.1=C.d)→∀ k,k < c.pars.length→leftE d h st1 ids (C.π k)=st1.h (C.π k):=fun ids hi k hk=>left_low hd hi (by have:=hC.low k (by omega); omega)
 have hwas:∀ a h' gs v,NewC (C.g gs) (st0 d h zs) a h' v→∀ k c,k ≤ 6→c < 64→intA (v (3,k,c))=intA (apv C st1 (4,gN k c 0,0))∧lenA (v (3,k,c))=intA (apv C st1 (4,gN k c 1,0)):=fun a h' gs v hv k c h1 h2=>by
  obtain ⟨g1,g2⟩:=hgn k c h1 h2
  rw [hv.now _ (by show 3 < 5; decide)]
  exact ⟨g1.symm,g2.symm⟩
 unfold finR at hf
 split at hf
 ·rename_i t r ht
  rw [Bool.and_eq_true,Bool.and_eq_true] at hf
  obtain ⟨⟨h1,h2⟩,h3⟩:=hf
  have h1:=of_decide_eq_true h1
  rw [Bool.or_eq_true] at h2
  rcases h2 with h2 | h2
  ·have hok:=opTV_ok g1 (.tmp r)
   rw [ev_tmp g1 h1] at hok
   have hok:=TV.sub_ok hC _ _ (by rw [hE]; exact h2) hok
   simp only [TV.ok] at hok
   obtain ⟨x,e1,e2⟩:=hok
   have noid:∀ i ∈ ([]:List Id),i.1=C.d:=fun i hi=>by cases hi
   refine fin (.val x) (.d x) [] ?_ noid ?_ fun gs v hgs hv=>?_
   ·show resR _ _ _ [st1.t r]=_
    rw [e1]; rfl
   ·rw [ht]; exact ⟨x,rfl,rfl,e2⟩
   ·refine postB_ok (end_told ha1 hpar (hend [] noid) hgs hv (fun i hi=>?_) (fun h=>by cases h)) (hwas _ _ gs v hv) g1.nows h3
    cases hi
    rw [e1]; exact Me.refl _
  ·rw [← hE] at h2
   obtain ⟨hag,x,ids,k1,k2,k3,k4⟩:=agOk_ok hC g1 h1 h2
   refine fin (.val x) (.d x) ids ?_ k2 ?_ fun gs v hgs hv=>?_
   ·show resR _ _ _ [st1.t r]=_
    rw [resR_agg hag,k1]; rfl
   ·rw [ht]; exact ⟨x,rfl,rfl,k3⟩
   ·refine postB_ok (end_told ha1 hpar (hend ids k2) hgs hv (fun i hi=>?_) (fun h=>by cases h)) (hwas _ _ gs v hv) g1.nows h3
    cases hi
    exact k4
 ·rename_i e b r ht
  rw [Bool.and_eq_true,Bool.and_eq_true,Bool.and_eq_true] at hf
  obtain ⟨⟨⟨h1,h2⟩,h4⟩,h3⟩:=hf
  have h1:=of_decide_eq_true h1
  have hok:=opTV_ok g1 (.tmp r)
  rw [ev_tmp g1 h1] at hok
  obtain ⟨xs,id1,k1,k2,k3,k4,rr,ids,k5,k6,k7⟩:=lst_res hC hok (by rw [hE]; exact h2) (keepT fn.name)
  have hb:=leI_ok g1.nows h4
  have z0:tv (apv C st1) zT=0:=rfl
  simp only [z0] at hb
  have hl:tv (apv C st1) (2,0,r,0)=lenA (st1.t r):=rfl
  have hm:(xs.length:Int)=lenA (st1.t r):=k2.w.l
  refine fin rr (.d (.lst xs)) ids k5 k7 ?_ fun gs v hgs hv=>?_
  ·rw [ht]; exact ⟨xs,k6,rfl,by omega,k1⟩
  ·refine postB_ok (end_told ha1 hpar (hend ids k7) hgs hv (fun i hi=>?_) (fun h=>by cases h)) (hwas _ _ gs v hv) g1.nows h3
   cases hi
   exact k2
 ·rename_i ts r s l ht
  rw [Bool.and_eq_true,Bool.and_eq_true] at hf
  obtain ⟨⟨h1,h2⟩,h3⟩:=hf
  obtain ⟨i1,ds,ids,i2,i3,i4,i5,i6⟩:=tup_res hC g1 (fun h=>by rw [hd]; exact hpl h) (by rw [hE]; exact h2)
  have hk:keepT fn.name=false:=by simpa using h1
  refine fin (.tup (ds.map .d)) (.tup (ds.map .d)) ids ?_ i3 ?_ fun gs v hgs hv=>?_
  ·have e:resR (keepT fn.name) C.d st1.h ((r :: s :: l).map st1.t)=(keepAs C.d st1.h ((r :: s :: l).map st1.t)).map fun p=>(.tup p.1,p.2):=by
    rw [hk]
    exact resR_many _ _ _ _ _
   rw [e,i2]; rfl
  ·rw [ht]; exact ⟨ds,rfl,rfl,i4⟩
  ·refine postB_ok (end_told ha1 hpar (hend ids i3) hgs hv (fun i hi=>by cases hi) (fun _ c i hi=>?_)) (hwas _ _ gs v hv) g1.nows h3
   obtain ⟨x,hx⟩:∃ x,ds[c]? = some x:=by
    have:c < (r :: s :: l).length:=(List.getElem?_eq_some_iff.1 hi).1
    exact ⟨_,List.getElem?_eq_getElem (by rw [← i5]; exact this)⟩
   have:=i6 c i x hi hx
   show Me1 ((ds.map A.d).getD c .any) _
   rw [List.getD_eq_getElem?_getD,List.getElem?_map,hx]
   exact this.w
 ·rename_i ts ht
  rw [Bool.and_eq_true] at hf
  have noid:∀ i ∈ ([]:List Id),i.1=C.d:=fun i hi=>by cases hi
  refine fin (.tup []) (.tup []) [] rfl noid ?_ fun gs v hgs hv=>?_
  ·rw [ht]
   have:ts=[]:=by simpa using hf.1
   subst this
   exact ⟨[],rfl,rfl,by simp [ShL]⟩
  ·exact postB_ok (end_told ha1 hpar (hend [] noid) hgs hv (fun i hi=>by cases hi) (fun _ c i hi=>by cases hi)) (hwas _ _ gs v hv) g1.nows hf.2
 ·cases hf
def ways (K:SK) (las:List LA) (fn:Func) (c:Ctr):Ways:={ K:={ K with np:=c.pars.length,wl:=c.ws.map (·.1),ads:=c.ads },na:=c.args.length,las:=las,fin:=finB { K with np:=c.pars.length,wl:=c.ws.map (·.1),ads:=c.ads } fn c,dd:=c.dd }
def adsB (c:Ctr):Bool:=c.ads.all fun p=>match c.pars[p.1]? with | some ts=>adoptT ts[p.2]? | none=>false
def checks (K:SK) (las:List LA) (fn:Func) (c:Ctr) (fuel:Nat):Bool :=
 match fn.body with
 | some code=>decide (c.args.length ≤ fn.ntmps) && (decide (c.pars.length ≤ 1000) && adsB c) && ((List.range c.pars.length).all fun k=>(parsTs c.args).contains k) && run (ways K las fn c) fuel [.code code] .fn (start K.E fn c)
 | none=>false
structure SK.Base (K:SK) (C:Cx) (X:Orc):Prop where
 p:C.P=K.P
 e:C.E=K.E
 eqs:C.eqs=K.eqs
 ai:C.ai=K.ai
 db:Ctrs C X K.DB
theorem checks_ok {K:SK} {C:Cx} {ext:Exts} (hK:K.Base C (evr K.P ext)) {las:List LA} {fn:Func} {c:Ctr} {fuel:Nat} (hx:ext c.f=none) (hf:K.P.funcs[c.f]? = some fn) (hn:fn.name ≠ "runtime.NumGoroutine") (h:checks K las fn c fuel=true):c.Ok C (evr K.P ext):=by
 intro d h0 π zs hC hpl hz hp hpre
 unfold checks at h
 split at h
 ·rename_i code hbody
  simp only [Bool.and_eq_true] at h
  obtain ⟨⟨⟨h1,h2,h3⟩,hall⟩,hrun⟩:=h
  have hlen:=of_decide_eq_true h1
  have hnp10:=of_decide_eq_true h2
  let C':Cx:=c.cx C d h0 π
  have hgn:∀ k c,k ≤ 6→c < 64→C'.gs (gN k c 0)=intA (boxCell (h0 (C'.π k)) c)∧C'.gs (gN k c 1)=lenA (boxCell (h0 (C'.π k)) c):=fun k c h1 h2=>by
   constructor
   ·show (if 3000 ≤ gN k c 0 then _ else if 2000 ≤ gN k c 0 then iniG h0 π (gN k c 0 - 2000) else 0)=_
    have eg:gN k c 0=2000 + (128 * k + 2 * c + 0):=rfl
    rw [if_neg (by omega),if_pos (by omega),show gN k c 0 - 2000=128 * k + 2 * c + 0 by omega]
    exact gN_0 h0 π h2
   ·show (if 3000 ≤ gN k c 1 then _ else if 2000 ≤ gN k c 1 then iniG h0 π (gN k c 1 - 2000) else 0)=_
    have eg:gN k c 1=2000 + (128 * k + 2 * c + 1):=rfl
    rw [if_neg (by omega),if_pos (by omega),show gN k c 1 - 2000=128 * k + 2 * c + 1 by omega]
    exact gN_1 h0 π h2
  have hCg:∀ gs,GsB C' gs→(C'.g gs).Ok:=fun gs hgs=>{ rel:=hC.rel,low:=hC.low,dis:=hC.dis,inj:=hC.inj,ad:=hC.ad,wlk:=hC.wlk,adk:=hC.adk,ix:=hC.ix,gx:=hC.gx,nf:=hC.nf,aik:=hC.aik,aif:=hC.aif,eqs:=hC.eqs,gb:=fun m=>(hgs (3000 + m) (by omega)).trans (hC.gb m) }
  have hKof:∀ gs,GsB C' gs→(ways K las fn c).K.Of (C'.g gs) (evr K.P ext):=fun gs hgs=>{ ok:=hCg gs hgs,p:=hK.p,e:=hK.e,np:=rfl,eqs:=hK.eqs,wl:=rfl,ads:=rfl,ai:=hK.ai,db:=hK.db }
  have g0:Ga C' (start C'.E fn c) (initSt fn d h0 zs):=start_ok hC rfl rfl hz hp hpre rfl (fun k hk=>parsTs_ok hz k (by
   have:=List.all_eq_true.1 hall k (List.mem_range.2 hk)
   simpa using this)) rfl (fun p hp'=>by
    have h4:=List.all_eq_true.1 h3 p hp'
    refine ⟨(hC.adk p hp').1,?_⟩
    split at h4
    ·rename_i ts hts
     obtain ⟨ver,cs,e1,e2⟩:=hp p.1 ts hts
     exact ⟨ver,cs,e1,adoptT_ok e2 h4⟩
    ·cases h4) hgn
  have hz1:=oks_len hz
  have hCE:C'.E=K.E:=hK.e
  rw [hCE] at g0
  have hw:=(run_ok (N:=2000000000000000) (C:=C') (zs:=fun i=>zs.getD i (.d (.s undef))) (by decide) hKof fuel).1 _ _ _ C'.gs _ _
   (bodyE C'.P fn d h0 fun r h'=>∃ a,RS.ok C' c.res r a∧(∀ i,¬ C'.wid i→h' i=h0 i)∧(∀ p ∈ c.ws,∃ ver cs cs',h0 (C'.π p.1) = .box ver cs∧h' (C'.π p.1) = .box ver cs' ∧ TV.oks C' h' p.2 cs') ∧ ∀ v,NewC C' (st0 d h0 zs) a h' v→FOk v c.post) (fun _ _=>rfl) hrun (.cons (.code code) .nil) g0 (fun i _=>rfl) (fun σ gs st hgs hfin g ha=>by
    obtain ⟨r,a,h',e1,e2,e3,e4,e5⟩:=fin_ok (K:={ K with np:=c.pars.length,wl:=c.ws.map (·.1),ads:=c.ads }) (C:=C'.g gs) (hCg gs hgs) hK.p hCE rfl rfl rfl hnp10 rfl rfl (TV.oks_g (C:=C') (a:=C'.gs) hz) (fun h=>(hpl h).1) (fun k c h1 h2=>by
     obtain ⟨g1,g2⟩:=hgn k c h1 h2
     constructor
     ·show gs (gN k c 0)=_
      rw [hgs _ (by show 2000 ≤ 2000 + _; omega)]; exact g1
     ·show gs (gN k c 1)=_
      rw [hgs _ (by show 2000 ≤ 2000 + _; omega)]; exact g2) g ha hfin
    have e2:RS.ok C' c.res r a:=e2
    have e4:∀ p ∈ c.ws,∃ ver cs cs',h0 (C'.π p.1) = .box ver cs∧h' (C'.π p.1) = .box ver cs' ∧ TV.oks C' h' p.2 cs':=fun p hp=>by
     obtain ⟨ver,cs,cs',k1,k2,k3⟩:=e4 p hp
     exact ⟨ver,cs,cs',k1,k2,TV.oks_g (C:=C') (b:=C'.gs) k3⟩
    have e5:∀ v,NewC C' (st0 d h0 zs) a h' v→FOk v c.post:=fun v hv=>e5 C'.gs v (fun i hi=>(hgs i hi).symm) hv
    constructor
    ·rw [bodyE_normal]; exact ⟨r,h',e1,a,e2,e3,e4,e5⟩
    ·rw [bodyE_ret]; exact ⟨r,h',e1,a,e2,e3,e4,e5⟩)
  have hP:C'.P=K.P:=hK.p
  rw [hP] at hw
  obtain ⟨r,h',hb,a,e2,e3,e4,e5⟩:=bx_bodyE hf hbody (by rw [hz1]; exact hlen) hn hw
  exact ⟨r,a,h',evr_body hx hb,e2,e3,bx_frame hb,e4,e5⟩
 ·cases h
end
end
section
noncomputable section
def bdk (bd:Nat→Int) (k m:Nat):Int:=if m=2 then k else bd m
structure Fam where
 base:Cx
 R:Nat→Nat→D→Prop
 rel:∀ k,RelOk base.E (R k)
 up1:∀ k i x,i < 500→(R (k + 1) (1000 + i) x ↔ R k i x)
 up2:∀ k i t y,i < 100→(R (k + 1) (9600 + i) (.agg [.ifc t y]) ↔ R k (9500 + i) (.agg [.ifc t y]))
 ixl:∀ k m n,m < 500→(R k (9000 + m) (.agg [.s (.int .i64 n)]) ↔ 0 ≤ n∧n < bdk base.bd k m)
 gxl:∀ k m n,m < 500→(R k (8000 + m) (.agg [.s (.int .i64 n)]) ↔ n=bdk base.bd k m)
 up0:∀ k i x,500 ≤ i→i < 1000→(R (k + 1) i x ↔ R k i x)
 szE:∀ i,i < 500→((base.E (1000 + i)).map List.length).getD 0=((base.E i).map List.length).getD 0
 nf:∀ k i ds,R k i (.agg ds)→∀ v:AP→A,(∀ c,v (8,c,0)=(ds.map A.d).getD c .any)→(∀ m,intA (v (4,3000 + m,0))=bdk base.bd k m)→FOk v (nfTab i)
 aif:∀ k i (t:TypeId) y u,i < 100→base.ai i t=some u→ShT (R k) u y→R k (9500 + i) (.agg [.ifc t y])
 aik:∀ k i (t:TypeId) y u,base.ai i t=some u→R k (9500 + i) (.agg [.ifc t y])→ShT (R k) u y
 eqs:∀ k,∀ p ∈ base.eqs,∀ xs ys:List D,ShL (R k) p.2 xs→ShL (R k) p.2 ys→∀ x y,∃ q,exBin base.P .eql p.1 x y (.d (.agg xs)) (.d (.agg ys))=some { v:=.d (.s (.bool q)) } ∧ exBin base.P .neq p.1 x y (.d (.agg xs)) (.d (.agg ys))=some { v:=.d (.s (.bool !q)) }
abbrev Fam.lv (F:Fam) (k:Nat):Cx:={ F.base with R:=F.R k,bd:=bdk F.base.bd k }
mutual
def Ty.up:Ty→Ty
 | .nm i=>if i < 500 then .nm (1000 + i) else .nm i
 | .opq i=>.opq (100 + i)
 | .lst e b=>.lst (Ty.up e) b
 | .lsj e f b m=>.lsj (Ty.up e) (Ty.up f) b m
 | .st ts=>.st (Ty.ups ts)
 | t=>t
def Ty.ups:List Ty→List Ty
 | []=>[]
 | t :: l=>Ty.up t :: Ty.ups l
end
mutual
def Ty.z:Ty→Bool
 | .nm i=>decide (i < 1000)
 | .opq i=>decide (i < 100)
 | .ix m=>decide (m < 500) && !Nat.beq m 2
 | .lst e _=>Ty.z e
 | .lsj e f _ m=>!Nat.beq m 2 && (Ty.z e && Ty.z f)
 | .st ts=>Ty.zs ts
 | _=>true
def Ty.zs:List Ty→Bool
 | []=>true
 | t :: l=>Ty.z t && Ty.zs l
end
mutual
theorem up_iff (F:Fam) {k:Nat}:∀ {t:Ty} {x:D},t.z=true→(ShT (F.R (k + 1)) t.up x ↔ ShT (F.R k) t x)
 | .int _,x,_=>by simp only [ShT,Ty.up]
 | .bool,x,_=>by simp only [ShT,Ty.up]
 | .str _,x,_=>by simp only [ShT,Ty.up]
 | .any,x,_=>by simp only [ShT,Ty.up]
 | .ix m,x,hz=>by
  have hm:m < 500∧m ≠ 2:=by
   simp only [Ty.z,Bool.and_eq_true,decide_eq_true_eq,Bool.not_eq_true'] at hz
   exact ⟨hz.1,fun h=>by rw [h] at hz; exact absurd hz.2 (by decide)⟩
  have hb:∀ j,bdk F.base.bd j m=F.base.bd m:=fun j=>if_neg hm.2
  have h1:=fun n=>F.ixl k m n hm.1
  have h2:=fun n=>F.ixl (k + 1) m n hm.1
  rw [hb] at h1 h2
  simp only [ShT,Ty.up]
  constructor
  ·rintro ⟨n,rfl,h⟩; exact ⟨n,rfl,(h1 n).2 ((h2 n).1 h)⟩
  ·rintro ⟨n,rfl,h⟩; exact ⟨n,rfl,(h2 n).2 ((h1 n).1 h)⟩
 | .lit _,x,_=>by simp only [ShT,Ty.up]
 | .opq i,x,hz=>by
  have hi:i < 100:=by simpa [Ty.z] using hz
  simp only [ShT,Ty.up]
  rw [show 9500 + (100 + i)=9600 + i by omega]
  constructor
  ·rintro (⟨hn,h⟩ | ⟨⟨t,y,rfl⟩,h⟩)
   ·exact Or.inl ⟨by rw [← hn]; unfold nilable; congr 1; omega,h⟩
   ·exact Or.inr ⟨⟨t,y,rfl⟩,(F.up2 k i t y hi).1 h⟩
  ·rintro (⟨hn,h⟩ | ⟨⟨t,y,rfl⟩,h⟩)
   ·exact Or.inl ⟨by rw [← hn]; unfold nilable; congr 1; omega,h⟩
   ·exact Or.inr ⟨⟨t,y,rfl⟩,(F.up2 k i t y hi).2 h⟩
 | .nm i,x,hz=>by
  have hi:i < 1000:=by simpa [Ty.z] using hz
  simp only [Ty.up]
  split
  ·rename_i h5
   simp only [ShT]
   exact F.up1 k i x h5
  ·rename_i h5
   simp only [ShT]
   exact F.up0 k i x (by omega) hi
 | .lsj e f b m,x,hz=>by
  simp only [Ty.z,Bool.and_eq_true,Bool.not_eq_true'] at hz
  obtain ⟨z1,z2,z3⟩:=hz
  have hm:m ≠ 2:=fun h=>by rw [h] at z1; exact absurd z1 (by decide)
  have hb:∀ j,bdk F.base.bd j m=F.base.bd m:=fun j=>if_neg hm
  have hg:m < 500→∀ n:Int,F.R (k + 1) (8000 + m) (.agg [.s (.int .i64 n)]) ↔ F.R k (8000 + m) (.agg [.s (.int .i64 n)]):=fun h n=>by
   rw [F.gxl (k + 1) m n h,F.gxl k m n h,hb,hb]
  simp only [ShT,Ty.up]
  constructor
  ·rintro ⟨xs,h1,h2,h3,h4,n,y,h5,h6,h7⟩
   exact ⟨xs,h1,h2,fun y hy=>(up_iff F z2).1 (h3 y hy),h4,n,y,(hg h4 n).1 h5,h6,(up_iff F z3).1 h7⟩
  ·rintro ⟨xs,h1,h2,h3,h4,n,y,h5,h6,h7⟩
   exact ⟨xs,h1,h2,fun y hy=>(up_iff F z2).2 (h3 y hy),h4,n,y,(hg h4 n).2 h5,h6,(up_iff F z3).2 h7⟩
 | .lst e b,x,hz=>by
  simp only [ShT,Ty.up]
  constructor
  ·rintro ⟨xs,h1,h2,h3⟩; exact ⟨xs,h1,h2,fun y hy=>(up_iff F (by simpa [Ty.z] using hz)).1 (h3 y hy)⟩
  ·rintro ⟨xs,h1,h2,h3⟩; exact ⟨xs,h1,h2,fun y hy=>(up_iff F (by simpa [Ty.z] using hz)).2 (h3 y hy)⟩
 | .st ts,x,hz=>by
  simp only [ShT,Ty.up]
  constructor
  ·rintro ⟨ds,h1,h2⟩; exact ⟨ds,h1,(ups_iff F (by simpa [Ty.z] using hz)).1 h2⟩
  ·rintro ⟨ds,h1,h2⟩; exact ⟨ds,h1,(ups_iff F (by simpa [Ty.z] using hz)).2 h2⟩
theorem ups_iff (F:Fam) {k:Nat}:∀ {ts:List Ty} {ds:List D},Ty.zs ts=true→(ShL (F.R (k + 1)) (Ty.ups ts) ds ↔ ShL (F.R k) ts ds)
 | [],ds,_=>by simp only [ShL,Ty.ups]
 | t :: ts,ds,hz=>by
  simp only [Ty.zs,Bool.and_eq_true] at hz
  simp only [ShL,Ty.ups]
  constructor
  ·rintro ⟨x,l,h1,h2,h3⟩; exact ⟨x,l,h1,(up_iff F hz.1).1 h2,(ups_iff F hz.2).1 h3⟩
  ·rintro ⟨x,l,h1,h2,h3⟩; exact ⟨x,l,h1,(up_iff F hz.1).2 h2,(ups_iff F hz.2).2 h3⟩
end
theorem ups_len:∀ ts:List Ty,(Ty.ups ts).length=ts.length
 | []=>rfl
 | t :: l=>by simp [Ty.ups,ups_len l]
theorem sz_up (F:Fam) {t:Ty} (hz:t.z=true):t.up.sz F.base.E=t.sz F.base.E:=by
 cases t with
 | nm i =>
  simp only [Ty.up]
  split
  ·rename_i h5; exact F.szE i h5
  ·rfl
 | st ts=>exact ups_len ts
 | _=>rfl
mutual
def TV.up:TV→TV
 | .c t=>.c t.up
 | .own p e=>.own p e.up
 | .rl p e=>.rl p e.up
 | .tup l=>.tup (TV.ups l)
 | .ep t off=>.ep t.up off
 | .clo f l=>.clo f (TV.ups l)
 | .ag l=>.ag (TV.ups l)
 | .el p e off=>.el p e.up off
 | .mp p e s=>.mp p e.up s
 | t=>t
def TV.ups:List TV→List TV
 | []=>[]
 | t :: l=>TV.up t :: TV.ups l
end
mutual
def TV.z:TV→Bool
 | .c t | .own _ t | .rl _ t | .ep t _ | .el _ t _ | .mp _ t _=>t.z
 | .tup l | .clo _ l | .ag l=>TV.zs l
 | _=>true
def TV.zs:List TV→Bool
 | []=>true
 | t :: l=>TV.z t && TV.zs l
end
structure UpC (F:Fam) (k:Nat) (C C':Cx):Prop where
 r:C.R=F.R k
 r':C'.R=F.R (k + 1)
 d:C'.d=C.d
 π:C'.π=C.π
 h0:C'.h0=C.h0
 e:C.E=F.base.E
 e':C'.E=F.base.E
theorem UpC.at {F:Fam} {k:Nat} {C C':Cx} (h:UpC F k C C') (p:PL):C'.at p=C.at p:=by
 obtain ⟨b,i⟩:=p
 cases b with
 | true=>show (C'.d,i)=(C.d,i); rw [h.d]
 | false=>show C'.π i=C.π i; rw [h.π]
theorem fa_iff {α:Type} {xs:List α} {P Q:α→Prop} (h:∀ x,P x ↔ Q x):(∀ x ∈ xs,P x) ↔ ∀ x ∈ xs,Q x:=⟨fun g x hx=>(h x).1 (g x hx),fun g x hx=>(h x).2 (g x hx)⟩
mutual
theorem tv_up {F:Fam} {k:Nat} {C C':Cx} (hu:UpC F k C C') {h:Id→O}:∀ {t:TV} {a:A},t.z=true→(TV.ok C' h t.up a ↔ TV.ok C h t a)
 | .any,a,_=>by simp only [TV.up,TV.ok]
 | .und,a,_=>by simp only [TV.up,TV.ok]
 | .dead,a,_=>by simp only [TV.up,TV.ok]
 | .nilv,a,_=>by simp only [TV.up,TV.ok]
 | .was i c,a,_=>by simp only [TV.up,TV.ok,hu.h0,hu.π]
 | .c t,a,hz=>by
  have hz:t.z=true:=hz
  simp only [TV.up,TV.ok,hu.r,hu.r']
  constructor
  ·rintro ⟨x,h1,h2⟩; exact ⟨x,h1,(up_iff F hz).1 h2⟩
  ·rintro ⟨x,h1,h2⟩; exact ⟨x,h1,(up_iff F hz).2 h2⟩
 | .own p e,a,hz=>by
  have hz:e.z=true:=hz
  have hl:∀ xs:List D,(∀ x ∈ xs,ShT (F.R (k + 1)) e.up x) ↔ ∀ x ∈ xs,ShT (F.R k) e x:=fun xs=>fa_iff fun x=>up_iff F hz
  simp only [TV.up,TV.ok,hu.r,hu.r',hu.at,hu.e,hu.e',sz_up F hz,hl]
 | .rl p e,a,hz=>by
  have hz:e.z=true:=hz
  have hl:∀ xs:List D,(∀ x ∈ xs,ShT (F.R (k + 1)) e.up x) ↔ ∀ x ∈ xs,ShT (F.R k) e x:=fun xs=>fa_iff fun x=>up_iff F hz
  simp only [TV.up,TV.ok,hu.r,hu.r',hu.at,hu.e,hu.e',sz_up F hz,hl]
 | .mp p e s,a,hz=>by
  have hz:e.z=true:=hz
  have hl:∀ es:List (Nat × Value × A),(∀ q ∈ es,∃ x,q.2.2 = .d x∧ShT (F.R (k + 1)) e.up x) ↔ ∀ q ∈ es,∃ x,q.2.2 = .d x∧ShT (F.R k) e x:=fun es=>fa_iff fun q=>by
   constructor
   ·rintro ⟨x,h1,h2⟩; exact ⟨x,h1,(up_iff F hz).1 h2⟩
   ·rintro ⟨x,h1,h2⟩; exact ⟨x,h1,(up_iff F hz).2 h2⟩
  simp only [TV.up,TV.ok,hu.r,hu.r',hu.at,hl]
 | .tup l,a,hz=>by
  have hz:TV.zs l=true:=hz
  simp only [TV.up,TV.ok,tvs_up hu hz]
 | .clo f l,a,hz=>by
  have hz:TV.zs l=true:=hz
  simp only [TV.up,TV.ok,tvs_up hu hz]
 | .ag l,a,hz=>by
  have hz:TV.zs l=true:=hz
  simp only [TV.up,TV.ok,tvs_up hu hz]
 | .bp p off,a,_=>by simp only [TV.up,TV.ok,hu.at]
 | .ep t off,a,hz=>by
  have hz:t.z=true:=hz
  simp only [TV.up,TV.ok,hu.r,hu.r',up_iff F hz]
 | .el p e off,a,hz=>by
  have hz:e.z=true:=hz
  simp only [TV.up,TV.ok,hu.r,hu.r',hu.at,up_iff F hz]
theorem tvs_up {F:Fam} {k:Nat} {C C':Cx} (hu:UpC F k C C') {h:Id→O}:∀ {ts:List TV} {zs:List A},TV.zs ts=true→(TV.oks C' h (TV.ups ts) zs ↔ TV.oks C h ts zs)
 | [],zs,_=>by simp only [TV.ups,TV.oks]
 | t :: ts,zs,hz=>by
  simp only [TV.zs,Bool.and_eq_true] at hz
  simp only [TV.ups,TV.oks,tv_up hu hz.1,tvs_up hu hz.2]
end
def RS.up:RS→RS
 | .val t=>.val t.up
 | .lst e b=>.lst e.up b
 | .tup ts=>.tup (Ty.ups ts)
 | .map e s=>.map e.up s
 | .tupF e b ts=>.tupF e.up b (Ty.ups ts)
def RS.z:RS→Bool
 | .val t | .lst t _ | .map t _=>t.z
 | .tup ts=>Ty.zs ts
 | .tupF e _ ts=>e.z && Ty.zs ts
def isG2 (t:Term):Bool:=Nat.beq t.1 1 && (Nat.beq t.2.1 4 && Nat.beq t.2.2.1 3002)
def LF.dn:LF→LF
 | .le a b c=>.le a b (c - (if isG2 a then 1 else 0) + (if isG2 b then 1 else 0))
 | x=>x
def Fact.dn:Fact→Fact
 | .f x=>.f x.dn
 | .imp a b x=>.imp a b x.dn
 | .impi a z x=>.impi a z x.dn
 | .impl x y=>.impl x.dn y.dn
def Fact.z2:Fact→Bool
 | .impi a _ _=>!(Nat.beq a.1 4 && Nat.beq a.2.1 3002)
 | _=>true
structure Dn (v w:AP→A) (k:Int):Prop where
 fv:∀ y,v (4,3002,y) = .d (.s (.int .i64 (k + 1)))
 fw:∀ y,w (4,3002,y) = .d (.s (.int .i64 k))
 fo:∀ a:AP,¬ (a.1=4∧a.2.1=3002)→w a=v a
theorem Dn.tm {v w:AP→A} {k:Int} (h:Dn v w k) (t:Term):tv w t=tv v t - (if isG2 t then 1 else 0):=by
 obtain ⟨n,i,j,y⟩:=t
 by_cases ha:i=4∧j=3002
 ·obtain ⟨rfl,rfl⟩:=ha
  match n with
  | 0=>rfl
  | 1 =>
   show intA (w (4,3002,y))=intA (v (4,3002,y)) - 1
   rw [h.fv,h.fw]
   show k=k + 1 - 1
   omega
  | 2 =>
   show lenA (w (4,3002,y))=lenA (v (4,3002,y)) - 0
   rw [h.fv,h.fw]; rfl
  | 3 =>
   show -lenA (w (4,3002,y)) = -lenA (v (4,3002,y)) - 0
   rw [h.fv,h.fw]; rfl
  | n + 4 =>
   show lenA (w (4,3002,y))=lenA (v (4,3002,y)) - 0
   rw [h.fv,h.fw]; rfl
 ·have e:isG2 (n,i,j,y)=false:=by
   unfold isG2
   cases hi:Nat.beq i 4 with
   | false=>simp
   | true =>
    have hi:=Nat.eq_of_beq_eq_true hi
    cases hj:Nat.beq j 3002 with
    | false=>simp
    | true=>exact absurd ⟨hi,Nat.eq_of_beq_eq_true hj⟩ ha
  have h1:=h.fo (i,j,y) ha
  rw [e]
  match n with
  | 0=>rfl
  | 1=>show intA (w (i,j,y))=intA (v (i,j,y)) - 0; rw [h1]; omega
  | 2=>show lenA (w (i,j,y))=lenA (v (i,j,y)) - 0; rw [h1]; omega
  | 3=>show -lenA (w (i,j,y)) = -lenA (v (i,j,y)) - 0; rw [h1]; omega
  | n + 4=>show lenA (w (i,j,y))=lenA (v (i,j,y)) - 0; rw [h1]; omega
theorem Dn.bl {v w:AP→A} {k:Int} (h:Dn v w k) (a:AP):boolA (w a)=boolA (v a):=by
 by_cases ha:a.1=4∧a.2.1=3002
 ·obtain ⟨i,j,y⟩:=a
  obtain ⟨rfl,rfl⟩:i=4∧j=3002:=ha
  rw [h.fv,h.fw]; rfl
 ·rw [h.fo a ha]
theorem Dn.lf {v w:AP→A} {k:Int} (h:Dn v w k) (x:LF):x.dn.ok v ↔ x.ok w:=by
 cases x with
 | le a b c =>
  show tv v a + (c - (if isG2 a then 1 else 0) + (if isG2 b then 1 else 0)) ≤ tv v b ↔ tv w a + c ≤ tv w b
  rw [h.tm a,h.tm b]
  split <;> split <;> omega
 | isb a b =>
  show boolA (v a)=b ↔ boolA (w a)=b
  rw [h.bl]
theorem Dn.fact {v w:AP→A} {k:Int} (h:Dn v w k) {f:Fact} (hz:f.z2=true):f.dn.ok v ↔ f.ok w:=by
 cases f with
 | f x=>exact h.lf x
 | imp a b x =>
  show (boolA (v a)=b→x.dn.ok v) ↔ (boolA (w a)=b→x.ok w)
  rw [h.bl,h.lf]
 | impi a z x =>
  show (intA (v a)=z→x.dn.ok v) ↔ (intA (w a)=z→x.ok w)
  rw [h.fo a (by
   rintro ⟨h1,h2⟩
   simp [Fact.z2,h1,h2] at hz),h.lf]
 | impl x y =>
  show (x.dn.ok v→y.dn.ok v) ↔ (x.ok w→y.ok w)
  rw [h.lf,h.lf]
theorem Dn.facts {v w:AP→A} {k:Int} (h:Dn v w k) {l:List Fact} (hz:l.all Fact.z2=true):FOk v (l.map Fact.dn) ↔ FOk w l:=by
 constructor
 ·intro hf f hm
  exact (h.fact (List.all_eq_true.1 hz f hm)).1 (hf _ (List.mem_map_of_mem hm))
 ·intro hf f hm
  obtain ⟨g,hg,rfl⟩:=List.mem_map.1 hm
  exact (h.fact (List.all_eq_true.1 hz g hg)).2 (hf g hg)
def Ctr.up (c:Ctr):Ctr:={ f:=c.f,args:=TV.ups c.args,pars:=c.pars.map TV.ups,pre:=c.pre.map Fact.dn,res:=c.res.up,post:=c.post.map Fact.dn,ws:=c.ws.map fun p=>(p.1,TV.ups p.2),ads:=c.ads,dd:=c.dd }
def Ctr.z (c:Ctr):Bool:=(c.pre.all Fact.z2 && c.post.all Fact.z2) && (TV.zs c.args && (c.pars.all TV.zs && (c.res.z && c.ws.all fun p=>TV.zs p.2)))
theorem rs_up {F:Fam} {k:Nat} {C C':Cx} (hu:UpC F k C C') {s:RS} (hz:s.z=true) {r:R} {a:A} (h:RS.ok C s r a):RS.ok C' s.up r a:=by
 cases s with
 | val t =>
  obtain ⟨x,h1,h2,h3⟩:=h
  exact ⟨x,h1,h2,by rw [hu.r']; rw [hu.r] at h3; exact (up_iff F hz).2 h3⟩
 | lst e b =>
  obtain ⟨xs,h1,h2,h3,h4⟩:=h
  rw [hu.r] at h4
  rw [hu.e] at h1
  refine ⟨xs,?_,h2,h3,fun x hx=>?_⟩
  ·rw [hu.e',sz_up F hz]; exact h1
  ·rw [hu.r']; exact (up_iff F hz).2 (h4 x hx)
 | map e s =>
  obtain ⟨es,c,h1,h2,h3,h4⟩:=h
  rw [hu.r] at h4
  refine ⟨es,c,h1,h2,h3,fun q hq=>?_⟩
  obtain ⟨x,h5,h6⟩:=h4 q hq
  exact ⟨x,h5,by rw [hu.r']; exact (up_iff F hz).2 h6⟩
 | tup ts =>
  obtain ⟨ds,h1,h2,h3⟩:=h
  rw [hu.r] at h3
  exact ⟨ds,h1,h2,by rw [hu.r']; exact (ups_iff F hz).2 h3⟩
 | tupF e b ts =>
  obtain ⟨xs,ds,h1,h2,h3,h4,h5⟩:=h
  have hz:(e.z && Ty.zs ts)=true:=hz
  rw [Bool.and_eq_true] at hz
  rw [hu.r] at h4 h5
  rw [hu.e] at h1
  refine ⟨xs,ds,?_,h2,h3,fun x hx=>?_,?_⟩
  ·rw [hu.e',sz_up F hz.1]; exact h1
  ·rw [hu.r']; exact (up_iff F hz.1).2 (h4 x hx)
  ·rw [hu.r']; exact (ups_iff F hz.2).2 h5
theorem plains_up:∀ l:List TV,(TV.ups l).all plainArg=l.all plainArg
 | []=>rfl
 | t :: l=>by
  simp only [TV.ups,List.all_cons,plains_up l]
  congr 1
  cases t with
  | clo f m=>cases m <;> rfl
  | _=>rfl
theorem gsb {F:Fam} {c:Ctr} {d:Nat} {h0:Id→O} {π:Nat→Id} (k m:Nat):(c.cx (F.lv k) d h0 π).gs (3000 + m)=(c.cx (F.lv k) d h0 π).bd m:=by
 have g:∀ i:Nat,3000 ≤ i→(c.cx (F.lv k) d h0 π).gs i=(c.cx (F.lv k) d h0 π).bd (i - 3000):=fun i hi=>by
  simp only [Ctr.cx,Cx.call,Fam.lv,if_pos hi]
 rw [g _ (by omega),show 3000 + m - 3000=m by omega]
theorem dn_of {F:Fam} {c c':Ctr} {d:Nat} {h0:Id→O} {π:Nat→Id} {k:Nat} {st:St} {v w:AP→A} (hv:∀ i y,v (4,i,y)=apv (c'.cx (F.lv (k + 1)) d h0 π) st (4,i,y)) (hw:∀ i y,w (4,i,y)=apv (c.cx (F.lv k) d h0 π) st (4,i,y)) (ho:∀ a:AP,a.1 ≠ 4→w a=v a):Dn v w k:=by
 have g:∀ (c:Ctr) (j i:Nat),(c.cx (F.lv j) d h0 π).gs i=if 3000 ≤ i then bdk F.base.bd j (i - 3000) else if 2000 ≤ i then iniG h0 π (i - 2000) else 0:=fun c j i=>by simp only [Ctr.cx,Cx.call,Fam.lv]
 refine ⟨fun y=>?_,fun y=>?_,fun a ha=>?_⟩
 ·rw [hv]
  show A.d (.s (.int .i64 ((c'.cx (F.lv (k + 1)) d h0 π).gs 3002)))=_
  rw [g]; rfl
 ·rw [hw]
  show A.d (.s (.int .i64 ((c.cx (F.lv k) d h0 π).gs 3002)))=_
  rw [g]; rfl
 ·by_cases h4:a.1=4
  ·obtain ⟨n,i,y⟩:=a
   obtain rfl:n=4:=h4
   have hi:i ≠ 3002:=fun h=>ha ⟨rfl,h⟩
   rw [hv,hw]
   show A.d (.s (.int .i64 ((c.cx (F.lv k) d h0 π).gs i)))=A.d (.s (.int .i64 ((c'.cx (F.lv (k + 1)) d h0 π).gs i)))
   rw [g,g]
   by_cases h3:3000 ≤ i
   ·rw [if_pos h3,if_pos h3]
    unfold bdk
    rw [if_neg (by omega),if_neg (by omega)]
   ·rw [if_neg h3,if_neg h3]
  ·exact ho a h4
theorem apv_oth {F:Fam} {c c':Ctr} {d:Nat} {h0:Id→O} {π:Nat→Id} {j k:Nat} {st:St} {a:AP} (ha:a.1 ≠ 4):apv (c.cx (F.lv j) d h0 π) st a=apv (c'.cx (F.lv k) d h0 π) st a:=by
 obtain ⟨n,i,y⟩:=a
 match n,ha with
 | 0,_=>rfl
 | 1,_=>rfl
 | 2,_=>rfl
 | 3,_=>rfl
 | 4,h=>exact absurd rfl h
 | n + 5,_=>rfl
theorem ok_up {F:Fam} {X:Orc} {k:Nat} {c:Ctr} (h:c.Ok (F.lv k) X) (hz:c.z=true):c.up.Ok (F.lv (k + 1)) X:=by
 intro d h0 π zs hC hpl hzs hpar hpre
 unfold Ctr.z at hz
 simp only [Bool.and_eq_true] at hz
 obtain ⟨⟨z5,z6⟩,z1,z2,z3,z4⟩:=hz
 have hlen:c.up.pars.length=c.pars.length:=List.length_map ..
 have hwl:c.up.ws.map (·.1)=c.ws.map (·.1):=by
  show (c.ws.map _).map _=_
  rw [List.map_map]; rfl
 have hu:UpC F k (c.cx (F.lv k) d h0 π) (c.up.cx (F.lv (k + 1)) d h0 π):=⟨rfl,rfl,rfl,rfl,rfl,rfl,rfl⟩
 have hCk:(c.cx (F.lv k) d h0 π).Ok:=by
  refine { rel:=F.rel k,low:=fun i hi=>hC.low i ?_,dis:=hC.dis,inj:=hC.inj,ad:=fun i off hi ho=>hC.ad i off ?_ ho,wlk:=fun i hi=>?_,adk:=fun p hp=>?_,ix:=F.ixl k,gx:=F.gxl k,gb:=fun m=>gsb (c:=c) (F:=F) k m,nf:=F.nf k,aik:=F.aik k,aif:=F.aif k,eqs:=F.eqs k }
  ·show i < c.up.pars.length
   rw [hlen]; exact hi
  ·show i < c.up.pars.length
   rw [hlen]; exact hi
  ·have:=hC.wlk i (by show i ∈ c.up.ws.map (·.1); rw [hwl]; exact hi)
   show i < c.pars.length
   rw [← hlen]; exact this
  ·have:=hC.adk p hp
   refine ⟨?_,this.2⟩
   show p.1 < c.pars.length
   rw [← hlen]; exact this.1
 have wid:∀ i,(c.up.cx (F.lv (k + 1)) d h0 π).wid i ↔ (c.cx (F.lv k) d h0 π).wid i:=fun i=>by
  show (∃ j ∈ c.up.ws.map (·.1),i=π j) ∨ _ ↔ (∃ j ∈ c.ws.map (·.1),i=π j) ∨ _
  rw [hwl]
  exact Iff.rfl
 obtain ⟨r,a,h',e1,e2,e3,e4,e5,e6⟩:=h d h0 π zs hCk (fun hall=>hpl (by
  show (TV.ups c.args).all plainArg=true
  rw [plains_up]; exact hall)) ((tvs_up hu z1).1 hzs) (fun i ts hi=>by
   obtain ⟨ver,cs,g1,g2⟩:=hpar i (TV.ups ts) (by show (c.pars.map TV.ups)[i]? = _; rw [List.getElem?_map,hi]; rfl)
   exact ⟨ver,cs,g1,(tvs_up hu (List.all_eq_true.1 z2 ts (List.mem_of_getElem? hi))).1 g2⟩) (fun v hv=>by
   have hn:Now (c.up.cx (F.lv (k + 1)) d h0 π) (st0 d h0 zs) fun a=>if a.1=4 then apv (c.up.cx (F.lv (k + 1)) d h0 π) (st0 d h0 zs) a else v a:=fun a ha=>by
    show (if a.1=4 then _ else _)=_
    split
    ·rfl
    ·rename_i h4
     rw [hv a ha]; exact apv_oth h4
   exact ((dn_of (fun i y=>by show (if 4=4 then _ else _)=_; rw [if_pos rfl]) (fun i y=>hv _ (by show 4 < 5; decide)) (fun a ha=>by show _=(if a.1=4 then _ else _); rw [if_neg ha])).facts z5).1 (hpre _ hn))
 refine ⟨r,a,h',e1,rs_up hu z3 e2,fun i hi=>e3 i fun hw=>hi ((wid i).2 hw),e4,fun p hp=>?_,fun v hv=>?_⟩
 rotate_left
 ·have hn:NewC (c.cx (F.lv k) d h0 π) (st0 d h0 zs) a h' fun x=>if x.1=4 then apv (c.cx (F.lv k) d h0 π) (st0 d h0 zs) x else v x:=by
   refine ⟨fun x hx=>?_,fun x y=>?_,fun i y=>?_,fun i j=>?_⟩
   ·show (if x.1=4 then _ else _)=_
    split
    ·rfl
    ·rename_i h4
     rw [hv.now x hx]; exact apv_oth h4
   ·show (if 5=4 then _ else _)=_
    rw [if_neg (by decide)]; exact hv.nv x y
   ·show (if 6=4 then _ else _)=_
    rw [if_neg (by decide)]; exact hv.nc i y
   ·show (if 7=4 then _ else _)=_
    rw [if_neg (by decide)]; exact hv.nb i j
  exact ((dn_of (fun i y=>hv.now _ (by show 4 < 5; decide)) (fun i y=>by show (if 4=4 then _ else _)=_; rw [if_pos rfl]) (fun a ha=>by show (if a.1=4 then _ else _)=_; rw [if_neg ha])).facts z6).2 (e6 _ hn)
 obtain ⟨q,hq,rfl⟩:=List.mem_map.1 hp
 obtain ⟨ver,cs,cs',g1,g2,g3⟩:=e5 q hq
 exact ⟨ver,cs,cs',g1,g2,(tvs_up hu (List.all_eq_true.1 z4 q hq)).2 g3⟩
end
end
section
noncomputable section
theorem execK_app {P:Program} {X:Orc} {N:Nat} (c:Code):∀ (l:List Code) (st:St),execK P X N (l.map Itm.code ++ [.code c]) st=(match execK P X N (l.map Itm.code) st with | some (.normal,s)=>execK P X N [.code c] s | o=>o)
 | [],st=>by
  simp only [List.map_nil,List.nil_append]
  rw [execK.eq_1]
 | a :: l,st=>by
  have un:∀ (x:Ex) (m:List Code) (s:St),unwK P X N x (m.map Itm.code) s=some (x,s):=by
   intro x m
   induction m with
   | nil=>intro s; rw [List.map_nil,unwK]
   | cons a m ih=>intro s; rw [List.map_cons,unwK,ih]
  have un2:∀ (x:Ex) (m:List Code) (s:St),unwK P X N x (m.map Itm.code ++ [.code c]) s=some (x,s):=by
   intro x m s
   have:=un x (m ++ [c]) s
   rwa [List.map_append] at this
  rw [List.map_cons,List.cons_append,execK,execK]
  cases h:exec P X N a st with
  | none=>rfl
  | some p =>
   obtain ⟨x,s⟩:=p
   cases x with
   | normal=>exact execK_app c l s
   | exit i=>simp only [un,un2]
   | goto i=>simp only [un,un2]
   | ret=>simp only [un,un2]
theorem Wk_app {P:Program} {X:Orc} {N:Nat} {c:Code} {l:List Code} {st:St} {Q Q1:Ex→St→Prop} (h:Wk P X N (l.map Itm.code) st Q1) (h1:∀ s,Q1 .normal s→Wk P X N [.code c] s Q) (h2:∀ x s,x ≠ .normal→Q1 x s→Q x s):Wk P X N (l.map Itm.code ++ [.code c]) st Q:=by
 obtain ⟨x,s,e,hq⟩:=h
 by_cases hx:x = .normal
 ·subst hx
  obtain ⟨y,s2,e2,hq2⟩:=h1 s hq
  refine ⟨y,s2,?_,hq2⟩
  rw [execK_app,e]; exact e2
 ·refine ⟨x,s,?_,h2 x s hx hq⟩
  rw [execK_app,e]
  cases x with
  | normal=>exact absurd rfl hx
  | _=>rfl
def cutC:Nat→Code→List Code × Code
 | n + 1,.seq a b=>(a :: (cutC n b).1,(cutC n b).2)
 | _,c=>([],c)
theorem Wk_cut {P:Program} {X:Orc} {N:Nat} {Q:Ex→St→Prop}:∀ (n:Nat) (c:Code) (k:List Code) (st:St),Wk P X N ((k ++ (cutC n c).1).map Itm.code ++ [.code (cutC n c).2]) st Q→Wk P X N (k.map Itm.code ++ [.code c]) st Q
 | 0,c,k,st,h=>by
  simpa [cutC] using h
 | n + 1,c,k,st,h=>by
  cases c with
  | seq a b =>
   have h:Wk P X N ((k ++ (a :: (cutC n b).1)).map Itm.code ++ [.code (cutC n b).2]) st Q:=h
   have h':=Wk_cut n b (k ++ [a]) st (by simpa using h)
   obtain ⟨x,s,e,hq⟩:=h'
   have un:∀ (x:Ex) (m:List Code) (s:St),unwK P X N x (m.map Itm.code) s=some (x,s):=by
    intro x m
    induction m with
    | nil=>intro s; rw [List.map_nil,unwK]
    | cons a m ih=>intro s; rw [List.map_cons,unwK,ih]
   refine ⟨x,s,?_,hq⟩
   rw [← e,List.map_append]
   have key:∀ (k:List Code) (st:St),execK P X N (k.map Itm.code ++ [.code (.seq a b)]) st=execK P X N (k.map Itm.code ++ ([a].map Itm.code ++ [.code b])) st:=by
    intro k
    induction k with
    | nil =>
     intro st
     have:=Wk_seq P X N [] st (Q:=fun y t=>execK P X N [.code (.seq a b)] st=some (y,t)) (a:=a) (b:=b)
     show execK P X N [.code (.seq a b)] st=execK P X N [.code a,.code b] st
     rw [execK,execK,exec]
     cases h1:exec P X N a st with
     | none=>rfl
     | some p =>
      obtain ⟨x,s⟩:=p
      cases x with
      | normal =>
       simp only
       rw [execK]
      | _=>simp [unwK]
    | cons a' k ih =>
     intro st
     rw [List.map_cons,List.cons_append,List.cons_append,execK,execK]
     cases h1:exec P X N a' st with
     | none=>rfl
     | some p =>
      obtain ⟨x,s⟩:=p
      cases x with
      | normal=>exact ih s
      | exit i =>
       have e1:=un (.exit i) (k ++ [.seq a b]) s
       have e2:=un (.exit i) (k ++ [a,b]) s
       simp only [List.map_append,List.map_cons,List.map_nil] at e1 e2 ⊢
       exact e1.trans e2.symm
      | goto i =>
       have e1:=un (.goto i) (k ++ [.seq a b]) s
       have e2:=un (.goto i) (k ++ [a,b]) s
       simp only [List.map_append,List.map_cons,List.map_nil] at e1 e2 ⊢
       exact e1.trans e2.symm
      | ret =>
       have e1:=un .ret (k ++ [.seq a b]) s
       have e2:=un .ret (k ++ [a,b]) s
       simp only [List.map_append,List.map_cons,List.map_nil] at e1 e2 ⊢
       exact e1.trans e2.symm
   rw [key]
   simp
  | _=>simpa [cutC] using h
def hkG (σ:SS):SS:={ σ with fs:=[.f (.le zT (1,4,1,0) 0),.f (.le (1,4,0,0) zT 1)] ++ σ.fs }
def cleanS (σ:SS):Bool:=σ.fs.all fun f=>!f.men (ghosts 0)
abbrev zP:Term × Int:=(zT,0)
def seg (W:Ways) (fuel m:Nat) (c:Code) (σ hk:SS):Bool:=cleanS σ && cleanS hk && run W fuel ((cutC m c).1.map SI.code) (.lp [hk] zP zP [] .fn) (hkG σ)
def RunQ (W:Ways) (C:Cx) (X:Orc) (N:Nat) (zs:Nat→A) (c:Code) (σ:SS) (Q:Ex→St→Prop):Prop:=∀ gs st,GsB C gs→Ga (C.g gs) σ st→Args W.na zs st→Wk C.P X N [.code c] st Q
theorem Ga_g {C:Cx} {σ:SS} {st:St} {a b:Nat→Int} (hab:GsEq 0 a b) (hc:cleanS σ=true) (g:Ga (C.g a) σ st):Ga (C.g b) σ st:=by
 refine ⟨g.d,g.n,fun p hp=>TV.ok_g (g.sl p hp),fun p hp=>?_,fun v hv f hf=>?_,g.low,g.al,g.pk,g.wh⟩
 ·obtain ⟨ver,cs,q1,q2⟩:=g.hp p hp
  exact ⟨ver,cs,q1,TV.oks_g q2⟩
 ·have hm:=List.all_eq_true.1 hc f hf
  have h3:∀ w,Now (C.g a) st w→Fact.ok w f:=fun w hw=>g.fs w hw f hf
  let w:AP→A:=fun x=>if ghosts 0 x=true∧x.1 < 5 then apv (C.g a) st x else v x
  have hw:Now (C.g a) st w:=fun x hx=>by
   show (if _ then _ else _)=_
   split
   ·rfl
   ·rename_i hn
    have hgf:ghosts 0 x=false:=by
     cases h:ghosts 0 x with
     | false=>rfl
     | true=>exact absurd ⟨h,hx⟩ hn
    rw [hv x hx]
    exact (apv_g hab x hgf).symm
  refine Fact.ok_agree (K:=ghosts 0) (fun x hx=>?_) (by simpa using hm) (h3 w hw)
  show (if _ then _ else _)=_
  rw [if_neg (by rw [hx]; simp)]
section
variable {W:Ways} {C:Cx} {X:Orc} {N:Nat} {zs:Nat→A} {Q:Ex→St→Prop} {c:Code} {σ:SS}
theorem SRs_codes {φ:Id→Nat}:∀ l:List Code,SRs φ (l.map SI.code) (l.map Itm.code)
 | []=>.nil
 | a :: l=>.cons (.code a) (SRs_codes l)
theorem rq_seg (hN:1000000000000000 < N) (hK:∀ gs,GsB C gs→W.K.Of (C.g gs) X) (hb:BR C X N W.na zs W.fin .fn C.gs Q) {n m:Nat} {hk:SS} (h:seg W n m c σ hk=true) (hr:RunQ W C X N zs (cutC m c).2 hk Q):RunQ W C X N zs c σ Q:=by
 intro gs st hgs g ha
 unfold seg at h
 rw [Bool.and_eq_true,Bool.and_eq_true] at h
 obtain ⟨⟨c1,c2⟩,hrun⟩:=h
 let g1:Nat→Int:=fun i=>if i=0 then -1 else if i=1 then 0 else gs i
 have e1:GsEq 0 gs g1:=fun i hi=>by
  show gs i=if i=0 then -1 else if i=1 then 0 else gs i
  rw [if_neg (by omega),if_neg (by omega)]
 have hg1:GsB C g1:=e1.bot hgs
 have gg:Ga (C.g g1) (hkG σ) st:=by
  have g':=Ga_g e1 c1 g
  refine ⟨g'.d,g'.n,g'.sl,g'.hp,fun v hv=>FOkA ?_ (g'.fs v hv),g'.low,g'.al,g'.pk,g'.wh⟩
  have z0:tv v zT=0:=rfl
  have b0:tv v (1,4,0,0) = -1:=by
   show intA (v (4,0,0))=_
   rw [hv _ (by show 4 < 5; decide)]; rfl
  have b1:tv v (1,4,1,0)=0:=by
   show intA (v (4,1,0))=_
   rw [hv _ (by show 4 < 5; decide)]; rfl
  intro f hf
  simp only [List.mem_cons,List.not_mem_nil,or_false] at hf
  rcases hf with rfl | rfl
  ·show tv v _ + _ ≤ tv v _; rw [z0,b1]; omega
  ·show tv v _ + _ ≤ tv v _; rw [z0,b0]; omega
 have hw:=(run_ok hN hK n).1 ((cutC m c).1.map SI.code) (.lp [hk] zP zP [] .fn) (hkG σ) g1 st ((cutC m c).1.map Itm.code)
  (fun x s=>match x with
   | .normal=>∃ g2,GsB C g2∧Ga (C.g g2) hk s∧Args W.na zs s
   | x=>Q x s) hg1 hrun (SRs_codes _) gg ha ⟨Q,[],hb,.nil,fun gs s _=>by unfold vI; omega,?_,?_⟩
 ·have:=Wk_app (c:=(cutC m c).2) (Q:=Q) hw (fun s ⟨g2,h1,h2,h3⟩=>hr g2 s h1 h2 h3) (fun x s hx hq=>by
   cases x with
   | normal=>exact absurd rfl hx
   | _=>exact hq)
  exact Wk_cut m c [] st (by simpa using this)
 ·rintro s ⟨i,_,g2,h1,⟨⟨inv,hi,h2⟩,h3⟩,_⟩
  simp only [List.mem_singleton] at hi
  subst hi
  exact ⟨g2,h1.bot hg1,h2,h3⟩
 ·intro x s hx h
  rw [Wu_nil] at h
  cases x with
  | normal=>exact absurd rfl hx
  | _=>exact h
end
def checks0 (K:SK) (fn:Func) (c:Ctr):Bool:=decide (c.args.length ≤ fn.ntmps) && (decide (c.pars.length ≤ 1000) && adsB c) && ((List.range c.pars.length).all fun k=>(parsTs c.args).contains k)
def EndOk (C':Cx) (c:Ctr) (d:Nat) (h0:Id→O) (zs:List A) (r:R) (h':Id→O):Prop:=∃ a,RS.ok C' c.res r a∧(∀ i,¬ C'.wid i→h' i=h0 i)∧(∀ p ∈ c.ws,∃ ver cs cs',h0 (C'.π p.1) = .box ver cs∧h' (C'.π p.1) = .box ver cs' ∧ TV.oks C' h' p.2 cs') ∧ ∀ v,NewC C' (st0 d h0 zs) a h' v→FOk v c.post
theorem partsG_wk {K:SK} {C:Cx} {ext:Exts} (hK:K.Base C (evr K.P ext)) {las:List LA} {fn:Func} {c:Ctr} {code:Code} (h:checks0 K fn c=true)
  {d:Nat} {h0:Id→O} {π:Nat→Id} {zs:List A} (hC:(c.cx C d h0 π).Ok) (hpl:c.args.all plainArg=true→d=0∧h0=E0) (hz:TV.oks (c.cx C d h0 π) h0 c.args zs) (hp:∀ i ts,c.pars[i]? = some ts→∃ ver cs,h0 (π i) = .box ver cs∧TV.oks (c.cx C d h0 π) h0 ts cs) (hpre:∀ v,Now (c.cx C d h0 π) (st0 d h0 zs) v→FOk v c.pre)
  (G:R→(Id→O)→Prop) (hG:∀ r h',EndOk (c.cx C d h0 π) c d h0 zs r h'→G r h')
  (hrun:(∀ gs,GsB (c.cx C d h0 π) gs→(ways K las fn c).K.Of ((c.cx C d h0 π).g gs) (evr K.P ext))→BR (c.cx C d h0 π) (evr K.P ext) 2000000000000000 (ways K las fn c).na (fun i=>zs.getD i (.d (.s undef))) (ways K las fn c).fin .fn (c.cx C d h0 π).gs (bodyE (c.cx C d h0 π).P fn d h0 G) →
   RunQ (ways K las fn c) (c.cx C d h0 π) (evr K.P ext) 2000000000000000 (fun i=>zs.getD i (.d (.s undef))) code (start K.E fn c) (bodyE (c.cx C d h0 π).P fn d h0 G)) :
  Wk K.P (evr K.P ext) 2000000000000000 [.code code] (initSt fn d h0 zs) (bodyE K.P fn d h0 G):=by
 unfold checks0 at h
 simp only [Bool.and_eq_true] at h
 obtain ⟨⟨h1,h2,h3⟩,hall⟩:=h
 have hlen:=of_decide_eq_true h1
 have hnp10:=of_decide_eq_true h2
 let C':Cx:=c.cx C d h0 π
 have hgn:∀ k c,k ≤ 6→c < 64→C'.gs (gN k c 0)=intA (boxCell (h0 (C'.π k)) c)∧C'.gs (gN k c 1)=lenA (boxCell (h0 (C'.π k)) c):=fun k c h1 h2=>by
  constructor
  ·show (if 3000 ≤ gN k c 0 then _ else if 2000 ≤ gN k c 0 then iniG h0 π (gN k c 0 - 2000) else 0)=_
   have eg:gN k c 0=2000 + (128 * k + 2 * c + 0):=rfl
   rw [if_neg (by omega),if_pos (by omega),show gN k c 0 - 2000=128 * k + 2 * c + 0 by omega]
   exact gN_0 h0 π h2
  ·show (if 3000 ≤ gN k c 1 then _ else if 2000 ≤ gN k c 1 then iniG h0 π (gN k c 1 - 2000) else 0)=_
   have eg:gN k c 1=2000 + (128 * k + 2 * c + 1):=rfl
   rw [if_neg (by omega),if_pos (by omega),show gN k c 1 - 2000=128 * k + 2 * c + 1 by omega]
   exact gN_1 h0 π h2
 have hCg:∀ gs,GsB C' gs→(C'.g gs).Ok:=fun gs hgs=>{ rel:=hC.rel,low:=hC.low,dis:=hC.dis,inj:=hC.inj,ad:=hC.ad,wlk:=hC.wlk,adk:=hC.adk,ix:=hC.ix,gx:=hC.gx,nf:=hC.nf,aik:=hC.aik,aif:=hC.aif,eqs:=hC.eqs,gb:=fun m=>(hgs (3000 + m) (by omega)).trans (hC.gb m) }
 have hKof:∀ gs,GsB C' gs→(ways K las fn c).K.Of (C'.g gs) (evr K.P ext):=fun gs hgs=>{ ok:=hCg gs hgs,p:=hK.p,e:=hK.e,np:=rfl,eqs:=hK.eqs,wl:=rfl,ads:=rfl,ai:=hK.ai,db:=hK.db }
 have g0:Ga C' (start C'.E fn c) (initSt fn d h0 zs):=start_ok hC rfl rfl hz hp hpre rfl (fun k hk=>parsTs_ok hz k (by
  have:=List.all_eq_true.1 hall k (List.mem_range.2 hk)
  simpa using this)) rfl (fun p hp'=>by
   have h4:=List.all_eq_true.1 h3 p hp'
   refine ⟨(hC.adk p hp').1,?_⟩
   split at h4
   ·rename_i ts hts
    obtain ⟨ver,cs,e1,e2⟩:=hp p.1 ts hts
    exact ⟨ver,cs,e1,adoptT_ok e2 h4⟩
   ·cases h4) hgn
 have hz1:=oks_len hz
 have hCE:C'.E=K.E:=hK.e
 rw [hCE] at g0
 have hbr:BR C' (evr K.P ext) 2000000000000000 (ways K las fn c).na (fun i=>zs.getD i (.d (.s undef))) (ways K las fn c).fin .fn C'.gs (bodyE C'.P fn d h0 G):=fun σ gs st hgs hfin g ha=>by
  obtain ⟨r,a,h',e1,e2,e3,e4,e5⟩:=fin_ok (K:={ K with np:=c.pars.length,wl:=c.ws.map (·.1),ads:=c.ads }) (C:=C'.g gs) (hCg gs hgs) hK.p hCE rfl rfl rfl hnp10 rfl rfl (TV.oks_g (C:=C') (a:=C'.gs) hz) (fun h=>(hpl h).1) (fun k c h1 h2=>by
   obtain ⟨g1,g2⟩:=hgn k c h1 h2
   constructor
   ·show gs (gN k c 0)=_
    rw [hgs _ (by show 2000 ≤ 2000 + _; omega)]; exact g1
   ·show gs (gN k c 1)=_
    rw [hgs _ (by show 2000 ≤ 2000 + _; omega)]; exact g2) g ha hfin
  have e2:RS.ok C' c.res r a:=e2
  have e4:∀ p ∈ c.ws,∃ ver cs cs',h0 (C'.π p.1) = .box ver cs∧h' (C'.π p.1) = .box ver cs' ∧ TV.oks C' h' p.2 cs':=fun p hp=>by
   obtain ⟨ver,cs,cs',k1,k2,k3⟩:=e4 p hp
   exact ⟨ver,cs,cs',k1,k2,TV.oks_g (C:=C') (b:=C'.gs) k3⟩
  have e5:∀ v,NewC C' (st0 d h0 zs) a h' v→FOk v c.post:=fun v hv=>e5 C'.gs v (fun i hi=>(hgs i hi).symm) hv
  have hg:=hG r h' ⟨a,e2,e3,e4,e5⟩
  constructor
  ·rw [bodyE_normal]; exact ⟨r,h',e1,hg⟩
  ·rw [bodyE_ret]; exact ⟨r,h',e1,hg⟩
 have hw:=hrun hKof hbr C'.gs (initSt fn d h0 zs) (fun _ _=>rfl) g0 (fun i _=>rfl)
 have hP:C'.P=K.P:=hK.p
 have hw:Wk C'.P (evr K.P ext) 2000000000000000 [.code code] (initSt fn d h0 zs) (bodyE C'.P fn d h0 G):=hw
 rwa [hP] at hw
end
end
end Go.Proofs.YtenoggjjhamdaaaGreatDoor
