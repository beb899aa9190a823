/-
  WHAT IS PROVED HERE: parts of the proof: SxM SxN SxO SxR SxS SxV SxX SxF.
-/
import Derived.Test.YtenoggjjhamdaaaGreatDoorM12
set_option linter.all false
namespace Go.Proofs.YtenoggjjhamdaaaGreatDoor
open Go Go.RowKit
section
noncomputable section
theorem find_idxT {α:Type} (p:α→Bool):∀ t:List α,t.find? p=(t.findIdx? p).bind fun i=>t[i]?
  | []=>rfl
  | a :: t=>by
    rw [List.find?_cons,List.findIdx?_cons]
    cases p a with
    | true=>rfl
    | false =>
      simp only [find_idxT p t,Bool.false_eq_true,if_false]
      cases t.findIdx? p <;> rfl
theorem findNow_int (s:Int):∀ (t:TabI) (i:Nat),Instr.findNow (.int .i64) (.int .i64 s) ((tabW t).map fun e=>({ key:=e.2.1,val:=undef,born:=e.1 }:MapEntry)) i=some ((t.findIdx? fun e=>s == e.2.1).map fun j=>(i + j,undef))
  | [],i=>rfl
  | e :: t,i=>by
    simp only [tabW,List.map_cons]
    unfold Instr.findNow
    simp only [Instr.sameNow]
    rw [List.findIdx?_cons]
    cases h:(s == e.2.1) with
    | true=>simp
    | false =>
      simp only [Bool.false_eq_true,if_false]
      have:=findNow_int s t (i + 1)
      simp only [tabW] at this
      rw [this]
      cases t.findIdx? fun e=>s == e.2.1 with
      | none=>rfl
      | some j=>simp; omega
theorem findE_int {P:Program} {kt:TypeId} (hu:P.underlying kt=some (.int .i64)) (s:Int) (t:TabI):findE P kt (.int .i64 s) (tabW t)=some (t.findIdx? fun e=>s == e.2.1):=by
  have hp:pureRun P (underlying kt)=some (.int .i64):=pure_under hu
  unfold findE Instr.findKey
  simp only [pureRun_bind,hp,Option.bind_some,findNow_int s t 0]
  simp only [pureRun_pure,Option.map_some,Nat.zero_add]
  cases t.findIdx? fun e=>s == e.2.1 <;> rfl
theorem checkKey_int {P:Program} {kt:TypeId} (hu:P.underlying kt=some (.int .i64)) (b:Bool) (s:Int):pureRun P (Instr.checkKey b 10000 kt (.int .i64 s))=some ():=by
  have hp:pureRun P (underlying kt)=some (.int .i64):=pure_under hu
  show pureRun P (Instr.checkKey b (9999 + 1) kt (.int .i64 s))=_
  unfold Instr.checkKey
  simp only [pureRun_bind,hp,Option.bind_some]
  rfl
def tabAtI (t:TabI) (s:Int):Option A:=(t.find? fun e=>s == e.2.1).map (·.2.2)
theorem look_int {P:Program} {tt kt el:TypeId} {z:Value} (ht:P.underlying tt=some (.map kt el)) (hu:P.underlying kt=some (.int .i64)) (hz:tzero P el=some z) {h:Id→O} {id:Id} {ver c:Nat} {t:TabI} (ho:h id = .map ver (tabW t) c) (s:Int) (ok:Bool) :
    lookupE P h tt (.mp id ver) (.d (.s (.int .i64 s))) ok=some { v:=if ok then .tup [(tabAtI t s).getD (ofV z),.d (.s (.bool (tabAtI t s).isSome))] else (tabAtI t s).getD (ofV z),rd:=[id] }:=by
  unfold lookupE
  simp only [ht,A.exact,ho,if_true,checkKey_int hu,findE_int hu,hz]
  unfold tabAtI
  rw [find_idxT]
  cases hf:t.findIdx? fun e=>s == e.2.1 with
  | none=>rfl
  | some i =>
    have hi:i < t.length:=(List.findIdx?_eq_some_iff_getElem.1 hf).1
    simp [tabW,List.getElem?_eq_getElem hi]
def zeroTV (z:Value):TV :=
  match z with
  | .agg cs=>mkTV (cs.toList.map valTV)
  | v=>valTV v
theorem zeroTV_ok (C:Cx) (h:Id→O) (z:Value):TV.ok C h (zeroTV z) (ofV z):=by
  unfold zeroTV
  split
  · rename_i cs
    exact mkTV_ok (oks_vals C h cs.toList)
  · exact valTV_okV C h _
def lookTV (j:Nat) (el:Ty) (z:Value):Option (TV × List Fact) :=
  match el,zeroTV z with
  | .lst e b,.nilv=>some (.rl (true,j) e,[.f (.le (2,5,0,0) zT (-b))])
  | el,.c u=>if Ty.sub u el then some (.c el,[]) else none
  | _,_=>none
theorem lookTV_ok {C:Cx} (hC:C.Ok) {h:Id→O} {j:Nat} {el:Ty} {z:Value} {tv':TV} {fs:List Fact} (hl:lookTV j el z=some (tv',fs)) {a:A} (ha:a=ofV z ∨ ∃ x,a = .d x∧ShT C.R el x) :
    TV.ok C h tv' a ∧ ∀ st bc v,New C st a bc v→FOk v fs:=by
  have no:∀ st bc v,New C st a bc v→FOk v []:=fun _ _ _ _ f hf=>by cases hf
  unfold lookTV at hl
  split at hl
  · rename_i hz
    cases hl
    have hzv:=zeroTV_ok C h z
    rw [hz] at hzv
    simp only [TV.ok] at hzv
    rcases ha with rfl | ⟨x,rfl,hx⟩
    · rw [hzv]
      refine ⟨by simp only [TV.ok]; exact Or.inl (Or.inl ⟨[],rfl,fun y hy=>by cases hy⟩),fun st bc v hv f hf=>?_⟩
      simp only [List.mem_singleton] at hf
      subst hf
      show lenA (v (5,0,0)) + _ ≤ 0
      rw [hv.nv]
      show (0:Int) + _ ≤ 0
      omega
    · simp only [ShT] at hx
      obtain ⟨xs,rfl,h1,h2⟩:=hx
      refine ⟨by simp only [TV.ok]; exact Or.inr ⟨xs,rfl,h2⟩,fun st bc v hv f hf=>?_⟩
      simp only [List.mem_singleton] at hf
      subst hf
      show lenA (v (5,0,0)) + _ ≤ 0
      rw [hv.nv]
      show (xs.length:Int) + _ ≤ 0
      omega
  · rename_i hz
    split at hl
    · rename_i hsub
      cases hl
      refine ⟨?_,no⟩
      rcases ha with rfl | ⟨x,rfl,hx⟩
      · have hzv:=zeroTV_ok C h z
        rw [hz] at hzv
        simp only [TV.ok] at hzv ⊢
        obtain ⟨x,h1,h2⟩:=hzv
        exact ⟨x,h1,sub_ok hC.rel _ _ _ hsub h2⟩
      · simp only [TV.ok]; exact ⟨x,rfl,hx⟩
    · cases hl
  · cases hl
theorem look_strB {P:Program} {tt kt el:TypeId} {z:Value} (ht:P.underlying tt=some (.map kt el)) (hu:P.underlying kt=some .string) (hz:tzero P el=some z) {h:Id→O} {id:Id} {ver c:Nat} {t:Tab} (ho:h id = .map ver (tabV t) c) (s:ByteArray) (ok:Bool) :
    lookupE P h tt (.mp id ver) (.d (.s (.string s))) ok=some { v:=if ok then .tup [(tabAt t s).getD (ofV z),.d (.s (.bool (tabAt t s).isSome))] else (tabAt t s).getD (ofV z),rd:=[id] }:=by
  unfold lookupE
  simp only [ht,A.exact,ho,if_true,checkKey_str hu,findE_str hu,hz]
  unfold tabAt
  rw [find_idx]
  cases hf:t.findIdx? fun e=>s == e.2.1 with
  | none=>rfl
  | some i =>
    have hi:i < t.length:=(List.findIdx?_eq_some_iff_getElem.1 hf).1
    simp [tabV,List.getElem?_eq_getElem hi]
def keyT (P:Program) (s:Bool) (kt:TypeId):TV→Bool
  | .c (.int .i64)=>!s && (match P.underlying kt with | some (.int .i64)=>true | _=>false)
  | .c (.str _)=>s && (match P.underlying kt with | some .string=>true | _=>false)
  | _=>false
theorem key_look {C:Cx} {h:Id→O} {s:Bool} {kt el:TypeId} {tk:TV} {k:A} (hk:TV.ok C h tk k) (hkt:keyT C.P s kt tk=true) {tt:TypeId} {z:Value} (ht:C.P.underlying tt=some (.map kt el)) (hz:tzero C.P el=some z) {h':Id→O} {id:Id} {ver c:Nat} {es:List (Nat × Value × A)} (ho:h' id = .map ver es c) (hes:KeyOk s es) {ey:Ty} (hall:∀ e ∈ es,∃ x,e.2.2 = .d x∧ShT C.R ey x) (ok:Bool) :
    ∃ a b,(a=ofV z ∨ ∃ x,a = .d x∧ShT C.R ey x)∧lookupE C.P h' tt (.mp id ver) k ok=some { v:=if ok then .tup [a,.d (.s (.bool b))] else a,rd:=[id] }:=by
  unfold keyT at hkt
  split at hkt
  · rw [Bool.and_eq_true] at hkt
    have hs:s=false:=by simpa using hkt.1
    subst hs
    have hu:C.P.underlying kt=some (.int .i64):=by
      have:=hkt.2
      split at this
      · assumption
      · cases this
    simp only [TV.ok,ShT] at hk
    obtain ⟨_,rfl,n,rfl⟩:=hk
    simp only [KeyOk,Bool.false_eq_true,if_false] at hes
    obtain ⟨t,rfl⟩:=hes
    refine ⟨_,_,?_,look_int ht hu hz ho n ok⟩
    unfold tabAtI
    cases hf:t.find? (fun e=>n == e.2.1) with
    | none=>exact Or.inl rfl
    | some en =>
      obtain ⟨y,h1,h2⟩:=hall (en.1,.int .i64 en.2.1,en.2.2) (List.mem_map.2 ⟨en,List.mem_of_find?_eq_some hf,rfl⟩)
      exact Or.inr ⟨y,h1,h2⟩
  · rw [Bool.and_eq_true] at hkt
    have hs:s=true:=hkt.1
    subst hs
    have hu:C.P.underlying kt=some .string:=by
      have:=hkt.2
      split at this
      · assumption
      · cases this
    simp only [TV.ok,ShT] at hk
    obtain ⟨_,rfl,n,rfl,_⟩:=hk
    simp only [KeyOk,if_true] at hes
    obtain ⟨t,rfl⟩:=hes
    refine ⟨_,_,?_,look_strB ht hu hz ho n ok⟩
    unfold tabAt
    cases hf:t.find? (fun e=>n == e.2.1) with
    | none=>exact Or.inl rfl
    | some en =>
      obtain ⟨y,h1,h2⟩:=hall (en.1,.string en.2.1,en.2.2) (List.mem_map.2 ⟨en,List.mem_of_find?_eq_some hf,rfl⟩)
      exact Or.inr ⟨y,h1,h2⟩
  · cases hkt
def sLookup (P:Program) (σ:SS) (dst:Option Nat) (t:TypeId) (x k:Operand) (ok:Bool):Option Out :=
  match dst,opTV σ x,P.underlying t with
  | some j,.mp p el s,some (.map kt elt) =>
    if keyT P s kt (opTV σ k) then
      match tzero P elt with
      | some z =>
        match lookTV j el z with
        | some (u,fs)=>if ok then some { act:=.wr (.tup [u,.c .bool]) [] [],rd:=[sN p] } else some { act:=.wr u [] fs,rd:=[sN p] }
        | none=>none
      | none=>none
    else none
  | _,_,_=>none
theorem sLookup_ok {C:Cx} (hC:C.Ok) {X:Orc} {σ:SS} {st:St} (g:Ga C σ st) {o:Oper} {t:TypeId} {x k:Operand} {ok:Bool} (ho:o.op = .lookup t x k ok) {out:Out} (h:sLookup C.P σ o.dst t x k ok=some out):OpOk C X σ st o out:=by
  unfold sLookup at h
  split at h
  · rename_i j p el s kt elt hdst hx hu
    split at h
    · rename_i hkt
      split at h
      · rename_i z hz
        split at h
        · rename_i u fs hl
          have hxo:=opTV_ok g x
          have hko:=opTV_ok g k
          rw [hx] at hxo
          simp only [TV.ok] at hxo
          obtain ⟨ver,tab,c,e1,e2,e3,e5⟩:=hxo
          have hop:opE C.P X st.d st.ev st.h (st.d,o.dst.getD st.n) o=lookupE C.P st.h t (st.ev x) (st.ev k) ok:=by
            obtain ⟨dst,op,ty,pos,af,gd⟩:=o
            simp only at ho
            subst ho
            show (match st.ev x with | .mp _ _=>lookupE C.P st.h t (st.ev x) (st.ev k) ok | _=>_)=_
            rw [e1]
          obtain ⟨a,b,hval,hlk⟩:=key_look hko hkt hu hz e2 e3 e5 ok
          obtain ⟨k1,k2⟩:=lookTV_ok hC (h:=st.h) hl hval
          have hrd:∀ i ∈ [C.at p],slotC C i ∈ [sN p]:=fun i hi=>by
            simp only [List.mem_singleton] at hi
            subst hi
            rw [sN_at hC]; simp
          cases ok with
          | true =>
            simp only [if_true] at h hlk
            cases h
            refine out_val hC g (a:=.tup [a,.d (.s (.bool b))]) (rd:=[C.at p]) (by rw [hop,e1]; exact hlk) ?_ hrd fun v hv=>nofs v
            simp only [TV.ok,TV.oks]
            exact ⟨_,rfl,_,_,rfl,k1,_,_,rfl,⟨_,rfl,_,rfl⟩,rfl⟩
          | false =>
            simp only [Bool.false_eq_true,if_false] at h hlk
            cases h
            exact out_val hC g (a:=a) (rd:=[C.at p]) (by rw [hop,e1]; exact hlk) k1 hrd fun v hv=>⟨fun p hp=>(by cases hp),k2 st [] v hv⟩
        · cases h
      · cases h
    · cases h
  · cases h
end
end
section
noncomputable section
theorem exactE_mx (P:Program) (ev:Operand→A) (dst:Option Tmp) (x y:Operand) (ts:Array TypeId) (ty:TypeId) (pos:String) (af:Array Edge) (g:Option (Nat × Bool)) (k:IntKind) (a b:Int) (hx:ev x = .d (.s (.int k a))) (hy:ev y = .d (.s (.int k b))) :
    exactE P ev ⟨dst,.call ⟨.builtin .max,#[x,y],ts⟩,ty,pos,af,g⟩=some { v:=.d (.s (.int k (if a < b then b else a))) }:=by
  unfold exactE exactOp
  simp only [Op.operands,Call.operands]
  simp only [execOp,resolve,invoke,builtin,hx,hy,A.exact,D.exact,Option.getD_some,pureRun_bind,pureRun_pure]
  simp [hx,hy,pureRun_bind,pureRun_pure,pureRun_map]
  exact ⟨_,rfl,rfl⟩
theorem exactE_mn (P:Program) (ev:Operand→A) (dst:Option Tmp) (x y:Operand) (ts:Array TypeId) (ty:TypeId) (pos:String) (af:Array Edge) (g:Option (Nat × Bool)) (k:IntKind) (a b:Int) (hx:ev x = .d (.s (.int k a))) (hy:ev y = .d (.s (.int k b))) :
    exactE P ev ⟨dst,.call ⟨.builtin .min,#[x,y],ts⟩,ty,pos,af,g⟩=some { v:=.d (.s (.int k (if b < a then b else a))) }:=by
  unfold exactE exactOp
  simp only [Op.operands,Call.operands]
  simp only [execOp,resolve,invoke,builtin,hx,hy,A.exact,D.exact,Option.getD_some,pureRun_bind,pureRun_pure]
  simp [hx,hy,pureRun_bind,pureRun_pure,pureRun_map]
  exact ⟨_,rfl,rfl⟩
theorem exactE_mx4 (P:Program) (ev:Operand→A) (dst:Option Tmp) (x y z w:Operand) (ts:Array TypeId) (ty:TypeId) (pos:String) (af:Array Edge) (g:Option (Nat × Bool)) (k:IntKind) (a b c d:Int) (hx:ev x = .d (.s (.int k a))) (hy:ev y = .d (.s (.int k b))) (hz:ev z = .d (.s (.int k c))) (hw:ev w = .d (.s (.int k d))) :
    ∃ n,exactE P ev ⟨dst,.call ⟨.builtin .max,#[x,y,z,w],ts⟩,ty,pos,af,g⟩=some { v:=.d (.s (.int k n)) }:=by
  unfold exactE exactOp
  simp only [Op.operands,Call.operands]
  simp only [execOp,resolve,invoke,builtin,hx,hy,hz,hw,A.exact,D.exact,Option.getD_some,pureRun_bind,pureRun_pure]
  simp [hx,hy,hz,hw,pureRun_bind,pureRun_pure,pureRun_map]
  exact ⟨_,_,rfl,rfl⟩
def mxOf (o:Oper):Option (Bool × Operand × Operand) :=
  match o.op with
  | .call ⟨.builtin .max,args,_⟩=>match args.toList with | [x,y]=>some (true,x,y) | _=>none
  | .call ⟨.builtin .min,args,_⟩=>match args.toList with | [x,y]=>some (false,x,y) | _=>none
  | _=>none
def mxOut (k:IntKind) (S:Term × Int) (L U:Term × Int) (n:Int):Out:={ act:=.wr (.c (.int k)) [] (eqI S ++ [.f (leF L U n)]) }
def sMx (σ:SS) (o:Oper):Option (Out × Out) :=
  match mxOf o with
  | some (m,x,y) =>
    match opTV σ x,opTV σ y,opC σ x,opC σ y with
    | .c (.int k),.c (.int k'),some X,some Y=>if kindEq k k' then some (if m then (mxOut k X Y X 0,mxOut k Y X Y 1) else (mxOut k X X Y 0,mxOut k Y Y X 1)) else none
    | _,_,_,_=>none
  | none=>none
theorem sMx_ok {C:Cx} (hC:C.Ok) {X:Orc} {σ:SS} {st:St} (g:Ga C σ st) {o:Oper} {o1 o2:Out} (h:sMx σ o=some (o1,o2)):OpOk C X σ st o o1 ∨ OpOk C X σ st o o2:=by
  unfold sMx at h
  split at h
  · rename_i m x y hm
    split at h
    · rename_i k k' X' Y' tx ty hX hY
      split at h
      · rename_i hk
        obtain rfl:k=k':=by simpa [kindEq] using hk
        have hx:=opTV_ok g x
        have hy:=opTV_ok g y
        rw [tx] at hx
        rw [ty] at hy
        simp only [TV.ok,ShT] at hx hy
        obtain ⟨_,ex,a,rfl⟩:=hx
        obtain ⟨_,ey,b,rfl⟩:=hy
        have e1:∀ v,Now C st v→a=tv v X'.1 + X'.2:=fun v hv=>by have:=opC_ok g hX hv; rw [ex] at this; exact this
        have e2:∀ v,Now C st v→b=tv v Y'.1 + Y'.2:=fun v hv=>by have:=opC_ok g hY hv; rw [ey] at this; exact this
        have fin:∀ (n:Int) (S L U:Term × Int) (q:Int),opE C.P X st.d st.ev st.h (st.d,o.dst.getD st.n) o=some { v:=.d (.s (.int k n)) }→(∀ v,Now C st v→n=tv v S.1 + S.2)→(∀ v,Now C st v→tv v L.1 + L.2 + q ≤ tv v U.1 + U.2)→OpOk C X σ st o (mxOut k S L U q):=by
          intro n S L U q he h1 h2
          refine out_val hC g (a:=.d (.s (.int k n))) (rd:=[]) he ?_ (fun _ hi=>by cases hi) fun v hv=>⟨fun p hp=>(by cases hp),FOkA (eqI_ok (by rw [hv.nv]; rfl) (h1 v hv.now)) fun f hf=>?_⟩
          · simp only [TV.ok,ShT]; exact ⟨_,rfl,_,rfl⟩
          · simp only [List.mem_singleton] at hf
            subst hf
            exact leF_ok.2 (by have:=h2 v hv.now; omega)
        cases m with
        | true =>
          cases h
          have he:opE C.P X st.d st.ev st.h (st.d,o.dst.getD st.n) o=some { v:=.d (.s (.int k (if a < b then b else a))) }:=by
            obtain ⟨dst,op,ty',pos,af,gd⟩:=o
            unfold mxOf at hm
            simp only at hm
            split at hm
            · rename_i args ts
              split at hm
              · rename_i x' y' hargs
                cases hm
                obtain ⟨args⟩:=args
                have hargs:args=[x,y]:=hargs
                subst hargs
                exact exactE_mx _ _ _ _ _ _ _ _ _ _ _ _ _ ex ey
              · cases hm
            · split at hm
              · cases hm
              · cases hm
            · cases hm
          by_cases hab:a < b
          · rw [if_pos hab] at he
            exact Or.inr (fin b Y' X' Y' 1 he e2 fun v hv=>by have:=e1 v hv; have:=e2 v hv; omega)
          · rw [if_neg hab] at he
            exact Or.inl (fin a X' Y' X' 0 he e1 fun v hv=>by have:=e1 v hv; have:=e2 v hv; omega)
        | false =>
          cases h
          have he:opE C.P X st.d st.ev st.h (st.d,o.dst.getD st.n) o=some { v:=.d (.s (.int k (if b < a then b else a))) }:=by
            obtain ⟨dst,op,ty',pos,af,gd⟩:=o
            unfold mxOf at hm
            simp only at hm
            split at hm
            · split at hm
              · cases hm
              · cases hm
            · rename_i args ts
              split at hm
              · rename_i x' y' hargs
                cases hm
                obtain ⟨args⟩:=args
                have hargs:args=[x,y]:=hargs
                subst hargs
                exact exactE_mn _ _ _ _ _ _ _ _ _ _ _ _ _ ex ey
              · cases hm
            · cases hm
          by_cases hab:b < a
          · rw [if_pos hab] at he
            exact Or.inr (fin b Y' Y' X' 1 he e2 fun v hv=>by have:=e1 v hv; have:=e2 v hv; omega)
          · rw [if_neg hab] at he
            exact Or.inl (fin a X' X' Y' 0 he e1 fun v hv=>by have:=e1 v hv; have:=e2 v hv; omega)
      · cases h
    · cases h
  · cases h
def sMx4 (σ:SS) (x y z w:Operand):Option Out :=
  match opTV σ x,opTV σ y,opTV σ z,opTV σ w with
  | .c (.int .i64),.c (.int .i64),.c (.int .i64),.c (.int .i64)=>some { act:=.wr (.c (.int .i64)) [] [] }
  | _,_,_,_=>none
theorem sMx4_ok {C:Cx} (hC:C.Ok) {X:Orc} {σ:SS} {st:St} (g:Ga C σ st) {o:Oper} {x y z w:Operand} {ts:Array TypeId} (ho:o.op = .call ⟨.builtin .max,#[x,y,z,w],ts⟩) {out:Out} (h:sMx4 σ x y z w=some out):OpOk C X σ st o out:=by
  unfold sMx4 at h
  split at h
  · rename_i tx ty tz tw
    cases h
    have hx:=opTV_ok g x
    have hy:=opTV_ok g y
    have hz:=opTV_ok g z
    have hw:=opTV_ok g w
    rw [tx] at hx
    rw [ty] at hy
    rw [tz] at hz
    rw [tw] at hw
    simp only [TV.ok,ShT] at hx hy hz hw
    obtain ⟨_,ex,a,rfl⟩:=hx
    obtain ⟨_,ey,b,rfl⟩:=hy
    obtain ⟨_,ez,c,rfl⟩:=hz
    obtain ⟨_,ew,d,rfl⟩:=hw
    obtain ⟨dst,op,ty',pos,af,gd⟩:=o
    simp only at ho
    subst ho
    obtain ⟨n,hn⟩:=exactE_mx4 C.P st.ev dst x y z w ts ty' pos af gd .i64 a b c d ex ey ez ew
    refine out_val hC g (a:=.d (.s (.int .i64 n))) (rd:=[]) hn ?_ (fun _ hi=>by cases hi) fun v hv=>nofs v
    simp only [TV.ok,ShT]; exact ⟨_,rfl,_,rfl⟩
  · cases h
end
end
section
noncomputable section
def sConv (P:Program) (σ:SS) (src dst:TypeId) (x:Operand):Option Out :=
  match P.underlying src,P.underlying dst,opTV σ x with
  | some _,some (.int k'),.c (.int k) =>
    match opC σ x with
    | some S=>some { act:=.wr (.c (.int k')) [] (if kindEq k' .i64 && inI64 σ.fs S then eqI S else []) }
    | none=>none
  | some _,some .string,.c (.str b)=>some { act:=.wr (.c (.str b)) [] (tyB (5,0,0) (.str b)) }
  | _,_,_=>none
theorem sConv_ok {C:Cx} (hC:C.Ok) {X:Orc} {σ:SS} {st:St} (g:Ga C σ st) {o:Oper} {src dst:TypeId} {x:Operand} (ho:o.op = .convert src dst x) {out:Out} (h:sConv C.P σ src dst x=some out):OpOk C X σ st o out:=by
  have hx:=opTV_ok g x
  have hop:∀ e,(match (st.ev x).exact with | some u=>(pureRun C.P (convert src dst u)).map fun v=>({ v:=ofV v }:Eff) | none=>none)=some e→opE C.P X st.d st.ev st.h (st.d,o.dst.getD st.n) o=some e:=by
    intro e he
    obtain ⟨d,op,ty,pos,af,gd⟩:=o
    simp only at ho
    subst ho
    have h1:exactE C.P st.ev ⟨d,.convert src dst x,ty,pos,af,gd⟩=some e:=(exactE_conv ..).trans he
    show (match exactE C.P st.ev ⟨d,.convert src dst x,ty,pos,af,gd⟩ with | some e=>some e | none=>_)=_
    rw [h1]
  unfold sConv at h
  split at h
  · rename_i t0 k' k hs hd tx
    rw [tx] at hx
    simp only [TV.ok,ShT] at hx
    obtain ⟨_,ex,n,rfl⟩:=hx
    split at h
    · rename_i S hS
      cases h
      refine out_val hC g (a:=.d (.s (.int k' (k'.wrap n)))) (rd:=[]) (hop _ ?_) ?_ (fun _ hi=>by cases hi) fun v hv=>⟨fun p hp=>(by cases hp),?_⟩
      · rw [ex]
        simp only [A.exact,conv_int k n hs hd,Option.map_some]
        rfl
      · simp only [TV.ok,ShT]; exact ⟨_,rfl,_,rfl⟩
      · split
        · rename_i hk
          rw [Bool.and_eq_true] at hk
          obtain rfl:k' = .i64:=by simpa [kindEq] using hk.1
          have e1:n=tv v S.1 + S.2:=by have:=opC_ok g hS hv.now; rw [ex] at this; exact this
          refine eqI_ok (n:=IntKind.i64.wrap n) (congrArg intA (hv.nv 0 0)) ?_
          rw [e1]
          exact inI64_ok (g.fs v hv.now) hk.2
        · intro f hf; cases hf
    · cases h
  · rename_i t0 b hs hd tx
    cases h
    rw [tx] at hx
    simp only [TV.ok,ShT] at hx
    obtain ⟨_,ex,s,rfl,hb⟩:=hx
    refine out_val hC g (a:=.d (.s (.string s))) (rd:=[]) (hop _ ?_) ?_ (fun _ hi=>by cases hi) fun v hv=>⟨fun p hp=>(by cases hp),?_⟩
    · rw [ex]
      simp only [A.exact,conv_str s hs hd,Option.map_some]
      rfl
    · simp only [TV.ok,ShT]; exact ⟨_,rfl,_,rfl,hb⟩
    · exact tyB_ok (R:=C.R) (gbOf hC hv.now) (x:=.s (.string s)) (by simp only [ShT]; exact ⟨_,rfl,hb⟩) (hv.nv 0 0)
  · cases h
def sIdx (P:Program) (σ:SS) (t:TypeId) (x i:Operand):Option Out :=
  match P.underlying t,opTV σ x,opTV σ i,opI σ i,opL σ x with
  | some .string,.c (.str _),.c (.int _),some I,some L=>if leI σ.fs (zT,0) I 0 && leI σ.fs I L 1 then some { act:=.wr (.c (.int .u8)) [] [] } else none
  | _,_,_,_,_=>none
theorem sIdx_ok {C:Cx} (hC:C.Ok) {X:Orc} {σ:SS} {st:St} (g:Ga C σ st) {o:Oper} {t:TypeId} {x i:Operand} (ho:o.op = .index t x i) {out:Out} (h:sIdx C.P σ t x i=some out):OpOk C X σ st o out:=by
  have hx:=opTV_ok g x
  have hi:=opTV_ok g i
  unfold sIdx at h
  split at h
  · rename_i b k I L hu tx ti hI hL
    rw [tx] at hx
    rw [ti] at hi
    simp only [TV.ok,ShT] at hx hi
    obtain ⟨_,ex,s,rfl,_⟩:=hx
    obtain ⟨_,ei,n,rfl⟩:=hi
    split at h
    · rename_i hb
      cases h
      rw [Bool.and_eq_true] at hb
      have b1:=leI_ok g.nows hb.1
      have b2:=leI_ok g.nows hb.2
      have c1:=opI_ok g hI (nows C st)
      have c2:=opL_ok g hL (nows C st)
      rw [ei] at c1
      rw [ex] at c2
      have c1:n=_:=c1
      have c2:(s.size:Int)=_:=c2
      have z0:tv (apv C st) zT=0:=rfl
      simp only [z0] at b1
      have hix:=idx_str (P:=C.P) s k n hu (by omega) (by omega)
      refine out_val hC g (a:=.d (.s (.int .u8 ((s.data.toList.getD n.toNat 0).toNat)))) (rd:=[]) ?_ ?_ (fun _ hi=>by cases hi) fun v hv=>nofs v
      · obtain ⟨d,op,ty,pos,af,gd⟩:=o
        simp only at ho
        subst ho
        show (match (st.ev x).exact with | some _=>exactE _ _ _ | none=>_)=_
        rw [ex]
        show exactE _ _ _=_
        rw [exactE_idx,ex,ei]
        simp only [A.exact,hix,Option.map_some]
        rfl
      · simp only [TV.ok,ShT]; exact ⟨_,rfl,_,rfl⟩
    · cases h
  · cases h
def optI (σ:SS) (d:Term × Int):Option Operand→Option (Term × Int)
  | none=>some d
  | some o=>match opTV σ o with | .c (.int _)=>opI σ o | _=>none
def sSlice (P:Program) (E:Nat→Option (List Ty)) (σ:SS) (t:TypeId) (x:Operand) (lo hi mx:Option Operand):Option Out :=
  match telem P t,opTV σ x,opL σ x,mx with
  | some e,.c (.lst el b),some L,none =>
    match tsize P e,optI σ (zT,0) lo,optI σ L hi with
    | some sz,some A,some B =>
      if sz == el.sz E && leI σ.fs (zT,0) A 0 && leI σ.fs A B 0 && leI σ.fs B L 0 then
        some { act:=.wr (.c (.lst el b)) [] (([.f (leF ((2,5,0,0),0) L 0)] ++ (if A.1 == zT then [.f (leF ((2,5,0,0),A.2) B 0),.f (leF B ((2,5,0,0),A.2) 0)] else [])) ++ tyB (5,0,0) (.lst el b)) }
      else none
    | _,_,_=>none
  | _,_,_,_=>none
theorem optI_ok {C:Cx} {σ:SS} {st:St} (g:Ga C σ st) {d I:Term × Int} {o:Option Operand} (h:optI σ d o=some I):(o=none∧I=d) ∨ ∃ (n:Int),(o.map st.ev).bind intOfA=some n∧o.isSome=true ∧ ∀ v,Now C st v→n=tv v I.1 + I.2:=by
  unfold optI at h
  split at h
  · cases h; exact Or.inl ⟨rfl,rfl⟩
  · rename_i o
    split at h
    · rename_i k ht
      have hx:=opTV_ok g o
      rw [ht] at hx
      simp only [TV.ok,ShT] at hx
      obtain ⟨_,ex,n,rfl⟩:=hx
      refine Or.inr ⟨n,?_,rfl,fun v hv=>?_⟩
      · simp only [Option.map_some,Option.bind_some,ex,intOfA]
      · have:=opI_ok g h hv; rw [ex] at this; exact this
    · cases h
theorem bound_of {lo hi:Option A} {len:Nat} {a u:Int} (ha:(lo=none∧a=0) ∨ ∃ x,lo=some x∧intOfA x=some a) (hu:(hi=none∧u=len) ∨ ∃ x,hi=some x∧intOfA x=some u) (h1:0 ≤ a) (h2:a ≤ u) (h3:u ≤ len):boundE lo hi len=some (a.toNat,u.toNat):=by
  unfold boundE
  rcases ha with ⟨rfl,rfl⟩ | ⟨x,rfl,hx⟩ <;> rcases hu with ⟨rfl,rfl⟩ | ⟨y,rfl,hy⟩
  · simp only; rw [if_pos ⟨h1,h2,h3⟩]
  · simp only [hy]; rw [if_pos ⟨h1,h2,h3⟩]
  · simp only [hx]; rw [if_pos ⟨h1,h2,h3⟩]
  · simp only [hx,hy]; rw [if_pos ⟨h1,h2,h3⟩]
theorem sSlice_ok {C:Cx} (hC:C.Ok) {X:Orc} {σ:SS} {st:St} (g:Ga C σ st) {o:Oper} {t:TypeId} {x:Operand} {lo hi mx:Option Operand} (ho:o.op = .slice t x lo hi mx) {out:Out} (h:sSlice C.P C.E σ t x lo hi mx=some out):OpOk C X σ st o out:=by
  have hx:=opTV_ok g x
  unfold sSlice at h
  split at h
  · rename_i e el b L he tx hL
    rw [tx] at hx
    simp only [TV.ok,ShT] at hx
    obtain ⟨_,ex,xs,rfl,hbl,hxs⟩:=hx
    split at h
    · rename_i sz A' B' hsz hA hB
      split at h
      · rename_i hc
        cases h
        rw [Bool.and_eq_true,Bool.and_eq_true,Bool.and_eq_true] at hc
        obtain ⟨⟨⟨d1,d2⟩,d3⟩,d4⟩:=hc
        have d1:sz=el.sz C.E:=eq_of_beq d1
        have z0:∀ v:AP→A,tv v zT=0:=fun _=>rfl
        have hLv:∀ v,Now C st v→(xs.length:Int)=tv v L.1 + L.2:=fun v hv=>by have:=opL_ok g hL hv; rw [ex] at this; exact this
        have hav:∃ a:Int,((lo.map st.ev=none∧a=0) ∨ ∃ x,lo.map st.ev=some x∧intOfA x=some a) ∧ ∀ v,Now C st v→a=tv v A'.1 + A'.2:=by
          rcases optI_ok g hA with ⟨rfl,rfl⟩ | ⟨n,h1,h2,h3⟩
          · exact ⟨0,Or.inl ⟨rfl,rfl⟩,fun v _=>by rw [z0 v]; rfl⟩
          · cases lo with
            | none=>cases h2
            | some l=>exact ⟨n,Or.inr ⟨_,rfl,h1⟩,h3⟩
        have hbv:∃ b:Int,((hi.map st.ev=none∧b=xs.length) ∨ ∃ x,hi.map st.ev=some x∧intOfA x=some b) ∧ ∀ v,Now C st v→b=tv v B'.1 + B'.2:=by
          rcases optI_ok g hB with ⟨rfl,rfl⟩ | ⟨n,h1,h2,h3⟩
          · exact ⟨xs.length,Or.inl ⟨rfl,rfl⟩,fun v hv=>hLv v hv⟩
          · cases hi with
            | none=>cases h2
            | some l=>exact ⟨n,Or.inr ⟨_,rfl,h1⟩,h3⟩
        obtain ⟨a,a1,a2⟩:=hav
        obtain ⟨u,u1,u2⟩:=hbv
        have q1:=leI_ok g.nows d2
        have q2:=leI_ok g.nows d3
        have q3:=leI_ok g.nows d4
        have r1:=a2 _ (nows C st)
        have r2:=u2 _ (nows C st)
        have r3:=hLv _ (nows C st)
        rw [z0] at q1
        have hbd:boundE (lo.map st.ev) (hi.map st.ev) xs.length=some (a.toNat,u.toNat):=by
          exact bound_of a1 u1 (by omega) (by omega) (by omega)
        have hlen:((xs.take u.toNat).drop a.toNat).length=u.toNat - a.toNat:=by simp; omega
        refine out_val hC g (a:=.d (.lst ((xs.take u.toNat).drop a.toNat))) (rd:=[]) ?_ ?_ (fun _ hi=>by cases hi) fun v hv=>⟨fun p hp=>(by cases hp),?_⟩
        · obtain ⟨d,op,ty,pos,af,gd⟩:=o
          simp only at ho
          subst ho
          show (match (st.ev x).exact with | some _=>_ | none=>sliceE C.P st.h t (st.ev x) (lo.map st.ev) (hi.map st.ev) none)=_
          rw [ex]
          show sliceE C.P st.h t (.d (.lst xs)) (lo.map st.ev) (hi.map st.ev) none=_
          unfold sliceE
          simp only [he,hsz,hbd]
          rw [if_pos ⟨rfl,headOk_of hC d1 hxs⟩]
          rfl
        · simp only [TV.ok,ShT]
          refine ⟨_,rfl,_,rfl,by omega,fun y hy=>hxs y (List.mem_of_mem_take (List.mem_of_mem_drop hy))⟩
        · have h6:tv v (2,5,0,0)=((u.toNat - a.toNat:Nat):Int):=by
            show lenA (v (5,0,0))=_
            rw [hv.nv]
            show (((xs.take u.toNat).drop a.toNat).length:Int)=_
            rw [hlen]
          have s1:=a2 v hv.now
          have s2:=u2 v hv.now
          have s3:=hLv v hv.now
          refine FOkA (FOkA ?_ ?_) ?_
          · intro f hf
            simp only [List.mem_singleton] at hf
            subst hf
            exact leF_ok.2 (by simp only [h6]; omega)
          · split
            · rename_i hz
              have hz:=eq_of_beq hz
              rw [hz,z0] at s1
              intro f hf
              simp only [List.mem_cons,List.not_mem_nil,or_false] at hf
              rcases hf with rfl | rfl
              · exact leF_ok.2 (by simp only [h6]; omega)
              · exact leF_ok.2 (by simp only [h6]; omega)
            · intro f hf; cases hf
          · intro f hf
            simp only [tyB,List.mem_singleton] at hf
            subst hf
            show tv v (2,5,0,0) + _ ≤ 0
            rw [h6]
            omega
      · cases h
    · cases h
  · cases h
end
end
section
noncomputable section
def sAssert (P:Program) (E:Nat→Option (List Ty)) (ai:Nat→TypeId→Option Ty) (σ:SS) (x:Operand) (t:TypeId) (ok:Bool):Option Out :=
  match opTV σ x,ok,isIfaceT P t,tzero P t with
  | .c (.opq i),true,some false,some z =>
    if nilable i then none else
    match ai i t,(match zeroTV z with | .ag l=>(cellTys l).map Ty.st | .c u=>some u | _=>none) with
    | some u,some u0=>if Ty.subE E u0 u then some { act:=.wr (.tup [.c u,.c .bool]) [] [] } else none
    | _,_=>none
  | _,_,_,_=>none
theorem fz0_kind {C:Cx} (hC:C.Ok) {h:Id→O} {z:Value} {u0:Ty} (hu:(match zeroTV z with | .ag l=>(cellTys l).map Ty.st | .c u=>some u | _=>none)=some u0):∃ x,fz0 h (ofV z) = .d x∧ShT C.R u0 x:=by
  have hz:=zeroTV_ok C h z
  split at hu
  · rename_i l hl
    rw [hl] at hz
    simp only [TV.ok] at hz
    obtain ⟨us,hus,rfl⟩:=Option.map_eq_some_iff.1 hu
    obtain ⟨ds,h1,h2,_⟩:=cellTys_ok hus hz.2
    refine ⟨.agg ds,?_,by simp only [ShT]; exact ⟨ds,rfl,h2⟩⟩
    cases hv:ofV z with
    | agg cs =>
      rw [hv] at h1
      have h1:fzCells h cs=some (ds,[]):=h1
      unfold fz0
      simp only [fzVal,h1,Option.map_some]
    | d x =>
      rw [hv] at h1 hz
      cases x with
      | agg ds' =>
        have h1:fzCells h (ds'.map A.d)=some (ds,[]):=h1
        have key:∀ (l m:List D) (is:List Id),fzCells h (l.map A.d)=some (m,is)→m=l:=by
          intro l
          induction l with
          | nil=>intro m is hm; simp only [List.map_nil,fzCells,Option.some.injEq,Prod.mk.injEq] at hm; exact hm.1.symm
          | cons y l ih =>
            intro m is hm
            simp only [List.map_cons] at hm
            unfold fzCells at hm
            simp only [fzCell] at hm
            split at hm
            · rename_i x i xs j g1 g2
              have:=ih _ _ g2
              subst this
              cases g1
              split at hm
              · cases hm; rfl
              · cases hm
            · cases hm
        have:=key _ _ _ h1
        subst this
        rfl
      | _=>have:=hz.1; simp [A.isAgg] at this
    | _=>rw [hv] at hz; have:=hz.1; simp [A.isAgg] at this
  · rename_i u hl
    cases hu
    rw [hl] at hz
    simp only [TV.ok] at hz
    obtain ⟨x,h1,h2⟩:=hz
    refine ⟨x,?_,h2⟩
    rw [h1]
    rfl
  · cases hu
theorem sAssert_ok {C:Cx} (hC:C.Ok) {X:Orc} {σ:SS} {st:St} (g:Ga C σ st) {o:Oper} {x:Operand} {xt t:TypeId} {ok:Bool} (ho:o.op = .typeAssert x xt t ok) {out:Out} (h:sAssert C.P C.E C.ai σ x t ok=some out):OpOk C X σ st o out:=by
  unfold sAssert at h
  split at h
  · rename_i i z hx hi hz
    split at h
    · cases h
    rename_i hnil
    split at h
    · rename_i u u0 hu hu0
      split at h
      · rename_i hs
        cases h
        have hok:=opTV_ok g x
        rw [hx] at hok
        simp only [TV.ok,ShT] at hok
        obtain ⟨_,e1,hok⟩:=hok
        have hok:=hok.resolve_left fun h=>hnil h.1
        obtain ⟨⟨ty,y,rfl⟩,hR⟩:=hok
        have hop:∀ e,assertE C.P st.h ty y t true=some e→opE C.P X st.d st.ev st.h (st.d,o.dst.getD st.n) o=some e:=by
          intro e he
          obtain ⟨d,op,ty',pos,af,gd⟩:=o
          simp only at ho
          subst ho
          show (match st.ev x with | .d (.ifc ty y)=>(match assertE C.P st.h ty y t true with | some e=>some e | none=>_) | _=>_)=_
          rw [e1]
          simp only [he]
        have fin:∀ (y':D) (b:Bool),assertE C.P st.h ty y t true=some { v:=.tup [.d y',.d (.s (.bool b))] }→ShT C.R u y'→OpOk C X σ st o { act:=.wr (.tup [.c u,.c .bool]) [] [] }:=fun y' b h1 h2=>by
          refine out_val hC g (a:=.tup [.d y',.d (.s (.bool b))]) (rd:=[]) (hop _ h1) ?_ (fun _ hi=>by cases hi) fun v hv=>nofs v
          simp only [TV.ok,TV.oks,ShT]
          exact ⟨_,rfl,_,_,rfl,⟨_,rfl,h2⟩,_,_,rfl,⟨_,rfl,_,rfl⟩,rfl⟩
        by_cases hty:ty=t
        · subst hty
          refine fin y true ?_ (hC.aik i ty y u hu hR)
          unfold assertE
          rw [if_pos hi,if_pos rfl]
          rfl
        · obtain ⟨x0,k1,k2⟩:=fz0_kind hC (h:=st.h) hu0
          refine fin x0 false ?_ (subE_ok hC.rel hs k2)
          unfold assertE
          rw [if_pos hi,if_neg hty,if_pos rfl,hz,Option.map_some,k1]
      · cases h
    · cases h
  · cases h
end
end
section
noncomputable section
def ifcIx (ai:Nat→TypeId→Option Ty) (t:TypeId) (p:Ty→Bool):Option Nat:=[0,1,2,3].find? fun i=>match ai i t with | some u=>p u | none=>false
theorem ifcIx_ok {ai:Nat→TypeId→Option Ty} {t:TypeId} {p:Ty→Bool} {i:Nat} (h:ifcIx ai t p=some i):i < 100 ∧ ∃ u,ai i t=some u∧p u=true:=by
  unfold ifcIx at h
  have h1:=List.find?_some h
  have h2:=List.mem_of_find?_eq_some h
  refine ⟨by simp at h2; omega,?_⟩
  split at h1
  · rename_i u hu; exact ⟨u,hu,h1⟩
  · cases h1
def sMkIfc (P:Program) (E:Nat→Option (List Ty)) (ai:Nat→TypeId→Option Ty) (σ:SS) (t:TypeId) (x:Operand):Option Out :=
  match isIfaceT P t with
  | some false =>
    match opTV σ x with
    | .c u=>match ifcIx ai t fun u'=>Ty.subE E u u' with
      | some i=>some { act:=.wr (.c (.opq i)) [] [] }
      | none=>none
    | .ag l=>match x with
      | .tmp r=>if r < σ.n then (match ifcIx ai t fun u'=>match agTy E u' with | some us=>agFit E σ.fs r 0 l us | none=>false with
        | some i=>some { act:=.wr (.c (.opq i)) [] [],rd:=(l.flatMap ownPl1).map sN,wr:=(l.flatMap ownPl1).map sN }
        | none=>none) else none
      | _=>none
    | _=>none
  | _=>none
theorem sMkIfc_ok {C:Cx} (hC:C.Ok) {X:Orc} {σ:SS} {st:St} (g:Ga C σ st) {o:Oper} {t:TypeId} {x:Operand} (ho:o.op = .makeInterface t x) {out:Out} (h:sMkIfc C.P C.E C.ai σ t x=some out):OpOk C X σ st o out:=by
  have hop:∀ e,mkIfcE C.P st.h t (st.ev x)=some e→opE C.P X st.d st.ev st.h (st.d,o.dst.getD st.n) o=some e:=by
    intro e he
    obtain ⟨d,op,ty,pos,af,gd⟩:=o
    simp only at ho
    subst ho
    exact he
  have hx:=opTV_ok g x
  unfold sMkIfc at h
  split at h
  · rename_i hi
    split at h
    · rename_i u tx
      rw [tx] at hx
      simp only [TV.ok] at hx
      obtain ⟨y,ey,hy⟩:=hx
      split at h
      · rename_i i hix
        cases h
        obtain ⟨hi1,u',hu,hs⟩:=ifcIx_ok hix
        refine out_val hC g (a:=.d (.ifc t y)) (rd:=[]) (hop _ ?_) ?_ (fun _ hi=>by cases hi) fun v hv=>nofs v
        · unfold mkIfcE
          rw [if_pos hi,ey]; rfl
        · simp only [TV.ok,ShT]
          exact ⟨_,rfl,Or.inr ⟨⟨_,_,rfl⟩,hC.aif i t y u' hi1 hu (subE_ok hC.rel hs hy)⟩⟩
      · cases h
    · rename_i l tx
      split at h
      · rename_i r
        split at h
        · rename_i hr
          split at h
          · rename_i i hix
            cases h
            obtain ⟨hi1,u',hu,hs⟩:=ifcIx_ok hix
            split at hs
            · rename_i us hus
              rw [tx] at hx
              have ev:st.ev (.tmp r)=st.t r:=by show (if r < st.n then _ else _)=_; rw [g.n,if_pos hr]
              rw [ev] at hx
              obtain ⟨y,ids,k1,k2,k3,k4,k5,k6⟩:=agVal_ok hC g.nows hx (r:=r) (fun c=>by
                show (st.t r).parts.getD c .any=_
                have:=hx
                simp only [TV.ok] at this
                cases hv:st.t r <;> rw [hv] at this <;> first | rfl | (have:=this.1; simp [A.isAgg] at this)) hus hs
              intro σ' hσ
              cases hσ
              have hids:∀ i ∈ ids,∃ p ∈ l.flatMap ownPl1,i=C.at p∧i.1=C.d:=fun i hi=>by
                obtain ⟨p,hp,hb,e⟩:=k3 i hi
                obtain ⟨b,k⟩:=p
                have hb:b=true:=hb
                subst hb
                exact ⟨_,hp,e,by rw [e]; rfl⟩
              refine ⟨{ v:=.d (.ifc t y),rd:=ids,wr:=frz st.h ids },hop _ ?_,?_,⟨?_,?_,fun h=>(by cases h)⟩,?_⟩
              · unfold mkIfcE
                rw [if_pos hi,ev,k1]; rfl
              · rw [g.d]
                exact okW_of fun p hp=>by
                  obtain ⟨q,_,_,e⟩:=hids _ (frz_mem hp)
                  exact e
              · intro z hz
                obtain ⟨j,hj,rfl⟩:=List.mem_map.1 hz
                obtain ⟨q,hq,e,_⟩:=hids j hj
                rw [e,sN_at hC]
                exact List.mem_map_of_mem hq
              · intro z hz
                obtain ⟨p,hp,rfl⟩:=List.mem_map.1 hz
                obtain ⟨q,hq,e,_⟩:=hids _ (frz_mem hp)
                rw [e,sN_at hC]
                exact List.mem_map_of_mem hq
              · refine wr_ok g (fun i=>frz_out ids st.h (fun _=>Fz_refl _) i) (fun i hi=>?_) (fun _=>?_) (fun v _ p hp=>by cases hp) fun v hv f hf=>by cases hf
                · show upds st.h (frz st.h ids) i=_
                  refine frz_not ids _ _ fun hm=>?_
                  obtain ⟨q,_,_,e⟩:=hids i hm
                  omega
                · simp only [TV.ok,ShT]
                  exact ⟨_,rfl,Or.inr ⟨⟨_,_,rfl⟩,hC.aif i t y u' hi1 hu k4⟩⟩
            · cases hs
          · cases h
        · cases h
      · cases h
    · cases h
  · cases h
end
end
section
noncomputable section
def sNilQ (P:Program) (σ:SS) (op:BinOp) (t:TypeId) (x y:Operand):Option Out :=
  match y,opTV σ x,isIfaceT P t with
  | .const .nilIface,.c (.opq _),some true=>if isEq op then some { act:=.wr (.c .bool) [] [] } else none
  | _,_,_=>none
theorem sNilQ_ok {C:Cx} (hC:C.Ok) {X:Orc} {σ:SS} {st:St} (g:Ga C σ st) {o:Oper} {op:BinOp} {t t':TypeId} {x y:Operand} (ho:o.op = .binOp op t x y t') {out:Out} (h:sNilQ C.P σ op t x y=some out):OpOk C X σ st o out:=by
  unfold sNilQ at h
  split at h
  · rename_i i tx hi
    split at h
    · rename_i hop
      cases h
      have hx:=opTV_ok g x
      rw [tx] at hx
      simp only [TV.ok,ShT] at hx
      obtain ⟨_,ex,hx⟩:=hx
      have fin:∀ b,opE C.P X st.d st.ev st.h (st.d,o.dst.getD st.n) o=some { v:=.d (.s (.bool b)) }→OpOk C X σ st o { act:=.wr (.c .bool) [] [] }:=fun b he=>by
        refine out_val hC g (a:=.d (.s (.bool b))) (rd:=[]) he ?_ (fun _ hi=>by cases hi) fun v hv=>nofs v
        simp only [TV.ok,ShT]; exact ⟨_,rfl,_,rfl⟩
      obtain ⟨d,op',ty,pos,af,gd⟩:=o
      simp only at ho
      subst ho
      have he:opE C.P X st.d st.ev st.h (st.d,d.getD st.n) ⟨d,.binOp op t x (.const .nilIface) t',ty,pos,af,gd⟩=if (st.ev x).isIfc then (match ifcNilE C.P op t (st.ev (.const .nilIface)) with | some e=>some e | none=>exactE C.P st.ev ⟨d,.binOp op t x (.const .nilIface) t',ty,pos,af,gd⟩) else exactE C.P st.ev ⟨d,.binOp op t x (.const .nilIface) t',ty,pos,af,gd⟩:=rfl
      have hb:op = .eql ∨ op = .neq:=by cases op <;> simp [isEq] at hop <;> simp
      rcases hx with ⟨_,rfl⟩ | ⟨⟨ty',y,rfl⟩,_⟩
      · rcases hb with rfl | rfl
        · refine fin true ?_
          rw [he,if_neg (by rw [ex]; simp [A.isIfc]),exactE_bin,ex]
          exact nil_eql hi
        · refine fin false ?_
          rw [he,if_neg (by rw [ex]; simp [A.isIfc]),exactE_bin,ex]
          exact nil_neq hi
      · have hn:(st.ev (.const .nilIface)).isNil=true:=rfl
        rcases hb with rfl | rfl
        · refine fin false ?_
          rw [he,if_pos (by rw [ex]; rfl)]
          unfold ifcNilE
          rw [if_pos ⟨hi,hn⟩]
        · refine fin true ?_
          rw [he,if_pos (by rw [ex]; rfl)]
          unfold ifcNilE
          rw [if_pos ⟨hi,hn⟩]
    · cases h
  · cases h
def agCells (E:Nat→Option (List Ty)):TV→Option (List TV)
  | .ag l=>some l
  | .c (.st ts)=>if ts.all Ty.flat then some (ts.map .c) else none
  | .c (.nm i)=>match E i with | some ts=>if ts.all Ty.flat then some (ts.map .c) else none | none=>none
  | _=>none
theorem agCells_ok {C:Cx} (hC:C.Ok) {h:Id→O} {t:TV} {a:A} {l:List TV} (hx:TV.ok C h t a) (hl:agCells C.E t=some l):a.isAgg=true∧TV.oks C h l a.cells∧a.parts=a.cells:=by
  have pl:∀ a:A,a.isAgg=true→a.parts=a.cells:=by
    intro a h
    cases a <;> first | rfl | (simp [A.isAgg] at h)
  unfold agCells at hl
  split at hl
  · cases hl
    simp only [TV.ok] at hx
    exact ⟨hx.1,hx.2,pl _ hx.1⟩
  · split at hl
    · cases hl
      simp only [TV.ok,ShT] at hx
      obtain ⟨_,rfl,ds,rfl,h2⟩:=hx
      exact ⟨rfl,oks_map_c h2,rfl⟩
    · cases hl
  · split at hl
    · rename_i i ts hE
      split at hl
      · cases hl
        simp only [TV.ok,ShT] at hx
        obtain ⟨_,rfl,h2⟩:=hx
        obtain ⟨ts',ds,e1,rfl,h3⟩:=hC.rel.unf _ _ h2
        rw [hE] at e1
        cases e1
        exact ⟨rfl,oks_map_c h3,rfl⟩
      · cases hl
    · cases hl
  · cases hl
def sFieldV (P:Program) (E:Nat→Option (List Ty)) (σ:SS) (s:TypeId) (x:Operand) (f:Nat):Option Out :=
  match P.underlying s,x with
  | some (.struct fs),.tmp r =>
    match (fs[f]?:Option Field),decide (r < σ.n),agCells E (opTV σ (.tmp r)) with
    | some fd,true,some l =>
      match tagg P fd.type with
      | some true =>
        match tsize P fd.type with
        | some n=>if fd.offset + n ≤ l.length then
            let m:=linkC σ.fs (fun c=>(1,r,fd.offset + c)) (fun c=>(6,c,0)) 0 ((l.drop fd.offset).take n)
            some { act:=.wr (mkTV ((l.drop fd.offset).take n)) m.1 m.2 } else none
        | none=>none
      | some false =>
        match l[fd.offset]?,tsize P fd.type with
        | some u,some _=>some { act:=.wr u [((1,r,fd.offset),(5,0,0))] (eqNew (1,r,fd.offset) (5,0,0) u) }
        | _,_=>none
      | none=>none
    | _,_,_=>none
  | _,_=>none
theorem sFieldV_ok {C:Cx} (hC:C.Ok) {X:Orc} {σ:SS} {st:St} (g:Ga C σ st) {o:Oper} {s:TypeId} {x:Operand} {f:Nat} (ho:o.op = .field s x f) {out:Out} (h:sFieldV C.P C.E σ s x f=some out):OpOk C X σ st o out:=by
  have hop:∀ a,fieldE C.P s (st.ev x) f=some a→opE C.P X st.d st.ev st.h (st.d,o.dst.getD st.n) o=some { v:=a }:=by
    intro a ha
    obtain ⟨dst,op,ty,pos,af,gd⟩:=o
    simp only at ho
    subst ho
    show plainE (fieldE C.P s (st.ev x) f)=_
    rw [ha]; rfl
  unfold sFieldV at h
  split at h
  · rename_i fs r hu
    split at h
    · rename_i fd l hfd hr hl
      have hr:r < σ.n:=of_decide_eq_true hr
      have hx:=opTV_ok g (.tmp r)
      obtain ⟨h1,h2,h3⟩:=agCells_ok hC hx hl
      have ev:st.ev (.tmp r)=st.t r:=ev_tmp g hr
      rw [ev] at h1 h2 h3
      have hlen:=oks_len h2
      have hpart:∀ a,partE C.P fd.type (st.t r).cells fd.offset=some a→fieldE C.P s (st.ev (.tmp r)) f=some a:=fun a ha=>by
        unfold fieldE
        rw [hu]
        simp only [hfd,ev]
        rw [if_pos h1,ha]
      have hv1:∀ v:AP→A,Now C st v→∀ c,v (1,r,c)=(st.t r).cells.getD c .any:=fun v hv c=>by
        rw [hv _ (by show 1 < 5; decide)]
        show (st.t r).parts.getD c .any=_
        rw [h3]
      split at h
      · rename_i hag
        split at h
        · rename_i n hn
          split at h
          · rename_i hb
            cases h
            refine out_val hC g (a:=A.mk (((st.t r).cells.drop fd.offset).take n)) (rd:=[]) (hop _ (hpart _ ?_)) (mkTV_ok (oks_take n (oks_drop fd.offset h2))) (fun _ hi=>by cases hi) fun v hv=>?_
            · unfold partE
              rw [hag,hn]
              simp only
              rw [if_pos (by omega)]
            · refine linkC_ok fun c _ hc=>?_
              simp only [List.length_take,List.length_drop,Nat.zero_add] at hc
              rw [hv1 v hv.now,hv.nc,(mk_cells _).2.2]
              rw [List.getD_eq_getElem?_getD,List.getD_eq_getElem?_getD,List.getElem?_take,if_pos (by omega),List.getElem?_drop]
          · cases h
        · cases h
      · rename_i hag
        split at h
        · rename_i u n hu2 hn
          cases h
          obtain ⟨a,ha,hok⟩:=oks_get h2 hu2
          refine out_val hC g (a:=a) (rd:=[]) (hop _ (hpart _ ?_)) hok (fun _ hi=>by cases hi) fun v hv=>?_
          · unfold partE
            rw [hag,hn]
            exact ha
          · have e:v (1,r,fd.offset)=v (5,0,0):=by
              rw [hv1 v hv.now,hv.nv,List.getD_eq_getElem?_getD,ha]; rfl
            refine ⟨fun p hp=>?_,eqNew_ok e _⟩
            simp only [List.mem_singleton] at hp
            subst hp; exact e
        · cases h
      · cases h
    · cases h
  · cases h
def sSliceS (P:Program) (σ:SS) (t:TypeId) (x:Operand) (lo hi mx:Option Operand):Option Out :=
  match P.underlying t,opTV σ x,opL σ x,mx with
  | some .string,.c (.str b),some L,none =>
    match lo,hi with
    | some l,some u =>
      match opTV σ l,opTV σ u,opI σ l,opI σ u with
      | .c (.int .i64),.c (.int .i64),some A,some B =>
        if leI σ.fs (zT,0) A 0 && leI σ.fs A B 0 && leI σ.fs B L 0 then some { act:=.wr (.c (.str b)) [] (tyB (5,0,0) (.str b)) } else none
      | _,_,_,_=>none
    | _,_=>none
  | _,_,_,_=>none
theorem sSliceS_ok {C:Cx} (hC:C.Ok) {X:Orc} {σ:SS} {st:St} (g:Ga C σ st) {o:Oper} {t:TypeId} {x:Operand} {lo hi mx:Option Operand} (ho:o.op = .slice t x lo hi mx) {out:Out} (h:sSliceS C.P σ t x lo hi mx=some out):OpOk C X σ st o out:=by
  have hx:=opTV_ok g x
  unfold sSliceS at h
  split at h
  · rename_i b L hu tx hL
    rw [tx] at hx
    simp only [TV.ok,ShT] at hx
    obtain ⟨_,ex,s,rfl,hbs⟩:=hx
    split at h
    · rename_i l u
      split at h
      · rename_i A' B' tl tu hA hB
        split at h
        · rename_i hc
          cases h
          rw [Bool.and_eq_true,Bool.and_eq_true] at hc
          obtain ⟨⟨d2,d3⟩,d4⟩:=hc
          have hl:=opTV_ok g l
          have hu':=opTV_ok g u
          rw [tl] at hl
          rw [tu] at hu'
          simp only [TV.ok,ShT] at hl hu'
          obtain ⟨_,el,a,rfl⟩:=hl
          obtain ⟨_,eu,z,rfl⟩:=hu'
          have q1:=leI_ok g.nows d2
          have q2:=leI_ok g.nows d3
          have q3:=leI_ok g.nows d4
          have c1:=opI_ok g hA (nows C st)
          have c2:=opI_ok g hB (nows C st)
          have c3:=opL_ok g hL (nows C st)
          rw [el] at c1
          rw [eu] at c2
          rw [ex] at c3
          have c1:a=_:=c1
          have c2:z=_:=c2
          have c3:(s.size:Int)=_:=c3
          have z0:tv (apv C st) zT=0:=rfl
          simp only [z0] at q1
          have hsl:=sliceAt_str (P:=C.P) s a z hu (by omega) (by omega) (by omega)
          have hsz:(s.extract a.toNat z.toNat).size ≤ b:=by rw [ByteArray.size_extract]; omega
          refine out_val hC g (a:=.d (.s (.string (s.extract a.toNat z.toNat)))) (rd:=[]) ?_ ?_ (fun _ hi=>by cases hi) fun v hv=>⟨fun p hp=>(by cases hp),?_⟩
          · obtain ⟨d,op,ty,pos,af,gd⟩:=o
            simp only at ho
            subst ho
            show (match (st.ev x).exact with | some _=>exactE C.P st.ev ⟨d,.slice t x (some l) (some u) none,ty,pos,af,gd⟩ | none=>_)=_
            rw [ex]
            show exactE _ _ _=_
            rw [exactE_slice,ex,el,eu]
            simp only [A.exact,hsl,Option.map_some]
            rfl
          · simp only [TV.ok,ShT]; exact ⟨_,rfl,_,rfl,hsz⟩
          · exact tyB_ok (R:=C.R) (gbOf hC hv.now) (x:=.s (.string (s.extract a.toNat z.toNat))) (by simp only [ShT]; exact ⟨_,rfl,hsz⟩) (hv.nv 0 0)
        · cases h
      · cases h
    · cases h
  · cases h
def sIxJ (P:Program) (E:Nat→Option (List Ty)) (σ:SS) (o:Oper):Option (Out × Out) :=
  match o.op with
  | .indexAddr t x i =>
    match P.underlying t,opI σ i,opL σ x,opTV σ i,opTV σ x with
    | some (.slice e),some I,some L,.c (.int _),.c (.lsj el ej _ m) =>
      let G:Term × Int:=((1,4,3000 + m,0),0)
      if leI σ.fs (zT,0) I 0 && (leI σ.fs I L 1 && (tsize P e == some (el.sz E) && (decide (m < 500) && el.sz E == ej.sz E))) then
        some ({ act:=.wr (.ep ej 0) [] [.f (leF I G 0),.f (leF G I 0)] },{ act:=.wr (.ep el 0) [] (if leI σ.fs I G 0 then [.f (leF I G 1)] else []) })
      else none
    | _,_,_,_,_=>none
  | _=>none
theorem sIxJ_ok {C:Cx} (hC:C.Ok) {X:Orc} {σ:SS} {st:St} (g:Ga C σ st) {o:Oper} {o1 o2:Out} (h:sIxJ C.P C.E σ o=some (o1,o2)):OpOk C X σ st o o1 ∨ OpOk C X σ st o o2:=by
  unfold sIxJ at h
  split at h
  · rename_i t x i ho
    have hop:opE C.P X st.d st.ev st.h (st.d,o.dst.getD st.n) o=indexAddrE C.P st.h t (st.ev x) (st.ev i):=by
      obtain ⟨dst,op,ty,pos,af,gd⟩:=o
      simp only at ho
      subst ho; rfl
    split at h
    · rename_i e I L k el ej b m hu hI hL hti hx
      split at h
      · rename_i hb
        simp only [Bool.and_eq_true] at hb
        obtain ⟨b1,b2,b3,b4,b5⟩:=hb
        cases h
        have hok:=opTV_ok g x
        have hik:=opTV_ok g i
        rw [hti] at hik
        simp only [TV.ok,ShT] at hik
        obtain ⟨_,hiv,n,rfl⟩:=hik
        rw [hx] at hok
        simp only [TV.ok,ShT] at hok
        obtain ⟨_,hxv,xs,rfl,_,hs,hm,n',y',hn',hy',hj⟩:=hok
        have c1:=fun v hv=>opI_ok g hI (v:=v) hv
        have c2:=opL_ok g hL (nows C st)
        have b1:=leI_ok g.nows b1
        have b2:=leI_ok g.nows b2
        have d1:=c1 _ (nows C st)
        rw [hiv] at d1
        rw [hxv] at c2
        have d1:n=_:=d1
        have c2:(xs.length:Int)=_:=c2
        have z0:tv (apv C st) zT=0:=rfl
        simp only [z0] at b1
        have n0:0 ≤ n:=by omega
        have n1:n < xs.length:=by omega
        have hG:(n':Int)=C.bd m:=(hC.gx m n' hm).1 hn'
        have gv:∀ v,Now C st v→tv v (1,4,3000 + m,0)=(n':Int):=fun v hv=>by rw [hG]; exact bdOf hC hv m
        have iv:∀ v,Now C st v→n=tv v I.1 + I.2:=fun v hv=>by
          have:=c1 v hv
          rw [hiv] at this
          exact this
        have b3:=eq_of_beq b3
        obtain ⟨y,h1,h2,h3⟩:=idxT_ok hC hs rfl n0 n1
        by_cases hn:n.toNat=n'
        · left
          refine out_val hC g (a:=.ep xs n.toNat 0) (rd:=[]) ?_ ?_ (fun _ hi=>by cases hi) fun v hv=>⟨fun p hp=>(by cases hp),?_⟩
          · rw [hop,hxv,hiv]
            simp only [indexAddrE,intOfA,hu,b3,h3]
          · simp only [TV.ok]; exact ⟨xs,_,y',rfl,by rw [hn]; exact hy',hj⟩
          · have e1:=gv v hv.now
            have e2:=iv v hv.now
            intro f hf
            simp only [List.mem_cons,List.not_mem_nil,or_false] at hf
            rcases hf with rfl | rfl
            · exact leF_ok.2 (by simp only [e1]; omega)
            · exact leF_ok.2 (by simp only [e1]; omega)
        · right
          refine out_val hC g (a:=.ep xs n.toNat 0) (rd:=[]) ?_ ?_ (fun _ hi=>by cases hi) fun v hv=>⟨fun p hp=>(by cases hp),?_⟩
          · rw [hop,hxv,hiv]
            simp only [indexAddrE,intOfA,hu,b3,h3]
          · simp only [TV.ok]; exact ⟨xs,_,y,rfl,h1,h2⟩
          · have e1:=gv v hv.now
            have e2:=iv v hv.now
            split
            · rename_i hle
              have e3:=leI_ok (g.fs v hv.now) hle
              intro f hf
              simp only [List.mem_cons,List.not_mem_nil,or_false] at hf
              subst hf
              simp only [e1] at e3
              exact leF_ok.2 (by simp only [e1]; omega)
            · intro f hf; cases hf
      · cases h
    · cases h
  · cases h
end
end
section
noncomputable section
section
variable {β:Type}
def fB (b:Bool) (k:Bool→β):β:=match b with
  | true=>k true
  | false=>k false
def fP (p:Bool × Nat) (k:Bool × Nat→β):β:=match p with
  | (a,b)=>fB a fun a=>fN b fun b=>k (a,b)
def fLF (x:LF) (k:LF→β):β:=match x with
  | .le a b c=>fTm a fun a=>fTm b fun b=>fZ c fun c=>k (.le a b c)
  | .isb a b=>fAP a fun a=>fB b fun b=>k (.isb a b)
def fF (x:Fact) (k:Fact→β):β:=match x with
  | .f x=>fLF x fun x=>k (.f x)
  | .imp a b x=>fAP a fun a=>fB b fun b=>fLF x fun x=>k (.imp a b x)
  | .impi a z x=>fAP a fun a=>fZ z fun z=>fLF x fun x=>k (.impi a z x)
  | .impl x y=>fLF x fun x=>fLF y fun y=>k (.impl x y)
def fTy (t:Ty) (k:Ty→β):β:=match t with
  | .int i=>k (.int i)
  | .bool=>k .bool
  | .str b=>k (.str b)
  | .lst e b=>k (.lst e b)
  | .st ts=>k (.st ts)
  | .nm i=>k (.nm i)
  | .any=>k .any
  | .ix m=>k (.ix m)
  | .opq i=>k (.opq i)
  | .lit l=>k (.lit l)
  | .lsj e f b m=>k (.lsj e f b m)
def fT (t:TV) (k:TV→β):β:=match t with
  | .any=>k .any
  | .c t=>fTy t fun t=>k (.c t)
  | .nilv=>k .nilv
  | .own p e=>fP p fun p=>fTy e fun e=>k (.own p e)
  | .rl p e=>fP p fun p=>fTy e fun e=>k (.rl p e)
  | .tup l=>k (.tup l)
  | .bp p off=>fP p fun p=>fN off fun off=>k (.bp p off)
  | .ep t off=>fTy t fun t=>fN off fun off=>k (.ep t off)
  | .clo f caps=>k (.clo f caps)
  | .ag l=>k (.ag l)
  | .el p e off=>fP p fun p=>fTy e fun e=>fN off fun off=>k (.el p e off)
  | .und=>k .und
  | .mp p el s=>fP p fun p=>fTy el fun el=>k (.mp p el s)
  | .was a b=>k (.was a b)
  | .dead=>k .dead
def fSl (p:Nat × TV) (k:Nat × TV→β):β:=match p with
  | (i,t)=>fN i fun i=>fT t fun t=>k (i,t)
def fHp (p:PL × List TV) (k:PL × List TV→β):β:=match p with
  | (p,l)=>fP p fun p=>fL fT l fun l=>k (p,l)
def fWh (p:PL × Ty) (k:PL × Ty→β):β:=match p with
  | (p,t)=>fP p fun p=>fTy t fun t=>k (p,t)
def fSS (σ:SS) (k:SS→β):β:=match σ with
  | ⟨n,wh,sl,hp,fs⟩=>fN n fun n=>fL fWh wh fun wh=>fL fSl sl fun sl=>fL fHp hp fun hp=>fL fF fs fun fs=>k ⟨n,wh,sl,hp,fs⟩
theorem fB_eq (n:Bool) (k:Bool→β):fB n k=k n:=by cases n <;> rfl
theorem fP_eq (n:Bool × Nat) (k:Bool × Nat→β):fP n k=k n:=by obtain ⟨a,b⟩:=n; simp only [fP,fB_eq,fN_eq]
theorem fLF_eq (n:LF) (k:LF→β):fLF n k=k n:=by cases n <;> simp only [fLF,fTm_eq,fZ_eq,fB_eq,fAP_eq]
theorem fF_eq (n:Fact) (k:Fact→β):fF n k=k n:=by cases n <;> simp only [fF,fLF_eq,fZ_eq,fB_eq,fAP_eq]
theorem fTy_eq (n:Ty) (k:Ty→β):fTy n k=k n:=by cases n <;> rfl
theorem fT_eq (n:TV) (k:TV→β):fT n k=k n:=by cases n <;> simp only [fT,fTy_eq,fP_eq,fN_eq]
theorem fSl_eq (n:Nat × TV) (k:Nat × TV→β):fSl n k=k n:=by obtain ⟨a,b⟩:=n; simp only [fSl,fN_eq,fT_eq]
theorem fHp_eq (n:PL × List TV) (k:PL × List TV→β):fHp n k=k n:=by obtain ⟨a,b⟩:=n; simp only [fHp,fP_eq,fL_eq fT_eq]
theorem fWh_eq (n:PL × Ty) (k:PL × Ty→β):fWh n k=k n:=by obtain ⟨a,b⟩:=n; simp only [fWh,fP_eq,fTy_eq]
theorem fSS_eq (σ:SS) (k:SS→β):fSS σ k=k σ:=by
  obtain ⟨n,wh,sl,hp,fs⟩:=σ
  simp only [fSS,fN_eq,fL_eq fWh_eq,fL_eq fSl_eq,fL_eq fHp_eq,fL_eq fF_eq]
end
def isT (t:Nat) (a:AP):Bool:=Bool.rec false (Nat.ble a.1 1) (Nat.beq a.2.1 t)
def isO (j:Nat) (a:AP):Bool:=Bool.rec false (Nat.beq a.1 2) (Nat.beq a.2.1 j)
def reLE (K:AP→Bool) (fs:List Fact) (x y:Term) (c:Int):List LF :=
  if Term.men K x then (if Term.men K y then [] else fs.filterMap fun g=>match g with
    | .f (.le z x' e)=>if tmQ x' x && !Term.men K z then some (.le z y (e + c)) else none
    | _=>none)
  else fs.filterMap fun g=>match g with
    | .f (.le y' z e)=>if tmQ y' y && !Term.men K z then some (.le x z (c + e)) else none
    | _=>none
theorem reLE_ok {v:AP→A} {K:AP→Bool} {fs:List Fact} (hf:FOk v fs) {x y:Term} {c:Int} {z:LF} (hz:z ∈ reLE K fs x y c) (h:LF.ok v (.le x y c)):z.ok v:=by
  have h:tv v x + c ≤ tv v y:=h
  unfold reLE at hz
  split at hz
  · split at hz
    · cases hz
    · obtain ⟨g,hg,hm⟩:=List.mem_filterMap.1 hz
      clear hz
      split at hm
      · rename_i a b e
        split at hm
        · rename_i hc
          rw [Bool.and_eq_true] at hc
          cases hm
          have h2:tv v a + e ≤ tv v b:=hf _ hg
          rw [tmQ_eq hc.1] at h2
          show tv v a + (e + c) ≤ tv v y
          omega
        · cases hm
      · cases hm
  · obtain ⟨g,hg,hm⟩:=List.mem_filterMap.1 hz
    clear hz
    split at hm
    · rename_i a b e
      split at hm
      · rename_i hc
        rw [Bool.and_eq_true] at hc
        cases hm
        have h2:tv v a + e ≤ tv v b:=hf _ hg
        rw [tmQ_eq hc.1] at h2
        show tv v x + (c + e) ≤ tv v b
        omega
      · cases hm
    · cases hm
def prLE (K:AP→Bool) (fs:List Fact) (x y:Term) (c:Int):List LF :=
  if Term.men K x then (if Term.men K y then [] else fs.filterMap fun g=>match g with
    | .f (.le x' z e)=>if tmQ x' x && !Term.men K z then some (.le z y (c - e)) else none
    | _=>none)
  else if Term.men K y then fs.filterMap fun g=>match g with
    | .f (.le z y' e)=>if tmQ y' y && !Term.men K z then some (.le x z (c - e)) else none
    | _=>none
  else [.le x y c]
theorem prLE_ok {v:AP→A} {K:AP→Bool} {fs:List Fact} (hf:FOk v fs) {x y:Term} {c:Int} {z:LF} (hz:z ∈ prLE K fs x y c) (h:z.ok v):LF.ok v (.le x y c):=by
  unfold prLE at hz
  split at hz
  · split at hz
    · cases hz
    · obtain ⟨g,hg,hm⟩:=List.mem_filterMap.1 hz
      clear hz
      split at hm
      · rename_i a b e
        split at hm
        · rename_i hc
          rw [Bool.and_eq_true] at hc
          cases hm
          have h2:tv v a + e ≤ tv v b:=hf _ hg
          have h:tv v b + (c - e) ≤ tv v y:=h
          rw [tmQ_eq hc.1] at h2
          show tv v x + c ≤ tv v y
          omega
        · cases hm
      · cases hm
  · split at hz
    · obtain ⟨g,hg,hm⟩:=List.mem_filterMap.1 hz
      clear hz
      split at hm
      · rename_i a b e
        split at hm
        · rename_i hc
          rw [Bool.and_eq_true] at hc
          cases hm
          have h2:tv v a + e ≤ tv v b:=hf _ hg
          have h:tv v x + (c - e) ≤ tv v a:=h
          rw [tmQ_eq hc.1] at h2
          show tv v x + c ≤ tv v y
          omega
        · cases hm
      · cases hm
    · simp only [List.mem_singleton] at hz
      subst hz; exact h
def coLF (K:AP→Bool) (fs:List Fact) (y:LF):List LF :=
  if y.men K then (match y with | .le a b c=>reLE K fs a b c | .isb _ _=>[]) else [y]
theorem coLF_ok {v:AP→A} {K:AP→Bool} {fs:List Fact} (hf:FOk v fs) {y z:LF} (hz:z ∈ coLF K fs y) (h:y.ok v):z.ok v:=by
  unfold coLF at hz
  split at hz
  · split at hz
    · exact reLE_ok hf hz h
    · cases hz
  · simp only [List.mem_singleton] at hz
    subst hz; exact h
def elimC (K:AP→Bool) (fs:List Fact):List Fact :=
  fs.flatMap fun f=>if !f.men K then [] else match f with
    | .imp p q (.isb a b)=>if K a && !K p then fs.filterMap fun g=>(match g with
        | .imp a' b' x=>if apQ a' a && (bQ b' b && !x.men K) then some (.imp p q x) else none
        | _=>none) else []
    | .impi a z x=>if K a then (fs.flatMap fun g=>match g with
        | .f (.le t u c)=>if tmQ t (1,a) && (Nat.beq u.1 1 && (!K u.2 && (zQ c 0 && fs.any fun g2=>(match g2 with | .f (.le u' t' c')=>tmQ u' u && (tmQ t' t && zQ c' 0) | _=>false)))) then (coLF K fs x).map (.impi u.2 z) else []
        | _=>[]) else (coLF K fs x).map (.impi a z)
    | .impl (.le a b c) y=>(prLE K fs a b c).flatMap fun p=>(coLF K fs y).map (.impl p)
    | _=>[]
theorem elimC_ok {v:AP→A} {K:AP→Bool} {fs:List Fact} (hf:FOk v fs):FOk v (elimC K fs):=by
  intro h hm
  unfold elimC at hm
  obtain ⟨f,hfm,hm⟩:=List.mem_flatMap.1 hm
  split at hm
  · cases hm
  · split at hm
    · rename_i p q a b hnm
      split at hm
      · obtain ⟨g,hg,hm⟩:=List.mem_filterMap.1 hm
        split at hm
        · rename_i a' b' x
          split at hm
          · rename_i hc
            rw [Bool.and_eq_true,Bool.and_eq_true] at hc
            cases hm
            intro hp
            have h1:boolA (v a)=b:=hf _ hfm hp
            refine (hf _ hg) ?_
            rw [apQ_eq hc.1,bQ_eq hc.2.1]; exact h1
          · cases hm
        · cases hm
      · cases hm
    · rename_i a z x hnm
      split at hm
      · obtain ⟨g,hg,hm⟩:=List.mem_flatMap.1 hm
        split at hm
        · rename_i t u c
          split at hm
          · rename_i hc
            simp only [Bool.and_eq_true] at hc
            obtain ⟨h1,h2,_,h3,h4⟩:=hc
            obtain ⟨g2,hg2,h4⟩:=List.any_eq_true.1 h4
            split at h4
            · rename_i u' t' c'
              simp only [Bool.and_eq_true] at h4
              obtain ⟨y,hy,rfl⟩:=List.mem_map.1 hm
              have e1:tv v t + c ≤ tv v u:=hf _ hg
              have e2:tv v u' + c' ≤ tv v t':=hf _ hg2
              rw [tmQ_eq h4.1,tmQ_eq h4.2.1,zQ_eq h4.2.2] at e2
              rw [zQ_eq h3] at e1
              rw [tmQ_eq h1] at e1 e2
              obtain ⟨ku,u⟩:=u
              obtain rfl:ku=1:=Nat.eq_of_beq_eq_true h2
              have e3:tv v (1,a)=intA (v a):=rfl
              have e4:tv v (1,u)=intA (v u):=rfl
              intro hz
              have hz:intA (v u)=z:=hz
              exact coLF_ok hf hy (hf _ hfm (by omega))
            · cases h4
          · cases hm
        · cases hm
      · obtain ⟨y,hy,rfl⟩:=List.mem_map.1 hm
        intro hz
        exact coLF_ok hf hy (hf _ hfm hz)
    · rename_i a b c y hnm
      obtain ⟨p,hp,hm⟩:=List.mem_flatMap.1 hm
      obtain ⟨z,hz,rfl⟩:=List.mem_map.1 hm
      intro h1
      exact coLF_ok hf hz (hf _ hfm (prLE_ok hf hp h1))
    · cases hm
def dropK (K:AP→Bool) (fs:List Fact):List Fact :=
  if fs.any (Fact.men K) then addU (elimN K fs ++ elimC K fs) (fs.filter fun f=>!f.men K && !f.triv) else fs
theorem dropK_ok {v:AP→A} {K:AP→Bool} {fs:List Fact} (hf:FOk v fs):FOk v (dropK K fs):=by
  unfold dropK
  split
  · intro f hm
    rcases addU_mem hm with hm | hm
    · rcases List.mem_append.1 hm with hm | hm
      · exact elimN_ok2 hf f hm
      · exact elimC_ok hf f hm
    · exact hf f (List.mem_filter.1 hm).1
  · exact hf
def dropKs {α:Type} (K:α→AP→Bool):List α→List Fact→List Fact
  | [],fs=>fs
  | t :: l,fs=>dropKs K l (dropK (K t) fs)
theorem dropKs_ok {α:Type} {v:AP→A} {K:α→AP→Bool}:∀ (l:List α) {fs:List Fact},FOk v fs→FOk v (dropKs K l fs)
  | [],fs,h=>h
  | t :: l,fs,h=>dropKs_ok l (dropK_ok h)
def memN (l:List Nat) (i:Nat):Bool:=List.rec false (fun j _ ih=>Bool.rec ih true (Nat.beq i j)) l
def slim (d b:List Nat) (σ:SS):SS :=
  match d,b with
  | [],[]=>σ
  | d,b =>
    { n:=σ.n
      wh:=σ.wh.filter fun p=>!(p.1.1 && memN b p.1.2)
      sl:=σ.sl.filter fun p=>!memN d p.1
      hp:=σ.hp.filter fun p=>!(p.1.1 && memN b p.1.2)
      fs:=dropKs isO b (dropKs isT d σ.fs) }
theorem slim_ok {C:Cx} {σ:SS} {st:St} (g:Ga C σ st) (d b:List Nat):Ga C (slim d b σ) st:=by
  unfold slim
  split
  · exact g
  · exact ⟨g.d,g.n,fun p hp=>g.sl p (List.mem_filter.1 hp).1,fun p hp=>g.hp p (List.mem_filter.1 hp).1,fun v hv=>dropKs_ok _ (dropKs_ok _ (g.fs v hv)),g.low,g.al,fun p hp=>g.pk p (List.mem_filter.1 hp).1,fun p hp=>g.wh p (List.mem_filter.1 hp).1⟩
abbrev DD:=List (Nat × List Nat × List Nat × List (List Nat))
def ddF (dd:DD) (i:Nat):Option (Nat × List Nat × List Nat × List (List Nat)):=dd.find? fun p=>Nat.beq p.1 i
def ddE (dd:DD) (i:Nat) (σ:SS):SS:=match ddF dd i with
  | some p=>slim p.2.1 p.2.2.1 σ
  | none=>σ
def ddO (dd:DD) (i:Nat):List (List Nat):=match ddF dd i with
  | some p=>p.2.2.2
  | none=>[]
theorem ddE_ok {C:Cx} {σ:SS} {st:St} (g:Ga C σ st) (dd:DD) (i:Nat):Ga C (ddE dd i σ) st:=by
  unfold ddE
  split
  · exact slim_ok g _ _
  · exact g
end
end
section
noncomputable section
structure SK where
  P:Program
  E:Nat→Option (List Ty)
  np:Nat
  eqs:List (TypeId × List Ty)
  DB:List Ctr
  wl:List Nat:=[]
  ads:List (Nat × Nat):=[]
  ai:Nat→TypeId→Option Ty:=fun _ _=>none
  ixs:List Nat:=[]
structure SK.Of (K:SK) (C:Cx) (X:Orc):Prop where
  ok:C.Ok
  p:C.P=K.P
  e:C.E=K.E
  np:C.np=K.np
  eqs:C.eqs=K.eqs
  wl:C.wl=K.wl
  ads:C.ads=K.ads
  ai:C.ai=K.ai
  db:Ctrs C X K.DB
def opS (K:SK) (σ:SS) (o:Oper):Option Out :=
  match o.op with
  | .move x | .assign x=>some (sMove K.E σ x)
  | .pick c a b=>sPick K.E σ c a b
  | .alloc t=>sAlloc K.P o.dst t
  | .box t x=>sBox K.P K.E σ o.dst t x
  | .load t a=>sLoad K.P K.E σ t a
  | .store t a x=>(match sStore K.P K.E K.np σ t a x with | some out=>some out | none=>sStoreG K.P K.E K.wl K.ads σ t a x)
  | .fieldAddr s x f=>sField K.P σ s x f
  | .indexAddr t x i=>sIndexA K.P K.E σ t x i
  | .extract x i=>sExtract K.E σ x i
  | .nilCheck x=>sNil K.E σ x
  | .makeFunc fn a b=>sFunc σ fn a b
  | .binOp op t x y _=>(match sBin K.P K.eqs σ op t x y with | some out=>some out | none=>sNilQ K.P σ op t x y)
  | .unOp op _ x=>sUn σ op x
  | .convert src dst x=>sConv K.P σ src dst x
  | .index t x i=>sIdx K.P σ t x i
  | .slice t x lo hi mx=>(match sSlice K.P K.E σ t x lo hi mx with | some out=>some out | none=>sSliceS K.P σ t x lo hi mx)
  | .field s x f=>sFieldV K.P K.E σ s x f
  | .typeAssert x _ t ok=>sAssert K.P K.E K.ai σ x t ok
  | .lookup t x k ok=>sLookup K.P σ o.dst t x k ok
  | .makeInterface t x=>sMkIfc K.P K.E K.ai σ t x
  | .build t parts=>sBuild K.P K.E σ t parts.toList
  | .buildSlice t len parts=>sBuildS K.P K.E K.ixs σ o.dst t len parts.toList
  | .call ⟨.builtin .max,args,_⟩=>match args.toList with | [x,y,z,w]=>sMx4 σ x y z w | _=>none
  | .call ⟨.builtin .append,args,ts⟩=>match args.toList,ts.toList with | [s,x],[t,t']=>sAppend K.P K.E K.ads σ o.dst t t' s x | _,_=>none
  | .call ⟨.builtin .len,args,ts⟩=>match args.toList,ts.toList with | [x],[t]=>sLen K.P σ t x | _,_=>none
  | .call ⟨.value x,args,_⟩=>sCallOp K.E K.np K.wl K.ads K.DB σ o.dst x args.toList
  | _=>none
theorem opS_ok {K:SK} {C:Cx} {X:Orc} (hK:K.Of C X) {σ:SS} {st:St} (g:Ga C σ st) {o:Oper} {out:Out} (h:opS K σ o=some out):OpOk C X σ st o out:=by
  have hC:=hK.ok
  obtain ⟨P,E,np,eqs,DB,wl,ads,ai,ixs⟩:=K
  obtain ⟨_,h1,h2,h3,h4,h5,h6,h7,hdb⟩:=hK
  simp only at h1 h2 h3 h4 h5 h6 h7 hdb
  subst h1 h2 h3 h4 h5 h6 h7
  unfold opS at h
  split at h
  · rename_i x ho; cases h; exact sMove_ok hC g (Or.inl ho)
  · rename_i x ho; cases h; exact sMove_ok hC g (Or.inr ho)
  · rename_i ho; exact sPick_ok hC g ho h
  · rename_i ho; exact sAlloc_ok hC g ho h
  · rename_i ho; exact sBox_ok hC g ho h
  · rename_i ho; exact sLoad_ok hC g ho h
  · rename_i ho
    split at h
    · rename_i hs; cases h; exact sStore_ok hC g ho hs
    · exact sStoreG_ok hC g ho h
  · rename_i ho; exact sField_ok hC g ho h
  · rename_i ho; exact sIndexA_ok hC g ho h
  · rename_i ho; exact sExtract_ok hC g ho h
  · rename_i ho; exact sNil_ok hC g ho h
  · rename_i ho; exact sFunc_ok hC g ho h
  · rename_i ho
    split at h
    · rename_i hs; cases h; exact sBin_ok hC g ho hs
    · exact sNilQ_ok hC g ho h
  · rename_i ho; exact sUn_ok hC g ho h
  · rename_i ho; exact sConv_ok hC g ho h
  · rename_i ho; exact sIdx_ok hC g ho h
  · rename_i ho
    split at h
    · rename_i hs; cases h; exact sSlice_ok hC g ho hs
    · exact sSliceS_ok hC g ho h
  · rename_i ho; exact sFieldV_ok hC g ho h
  · rename_i ho; exact sAssert_ok hC g ho h
  · rename_i ho; exact sLookup_ok hC g ho h
  · rename_i ho; exact sMkIfc_ok hC g ho h
  · rename_i ho; exact sBuild_ok hC g ho h
  · rename_i ho; exact sBuildS_ok hC g ho h
  · rename_i args ts ho
    split at h
    · rename_i x y z w hx
      obtain ⟨args⟩:=args
      simp only at hx
      subst hx
      exact sMx4_ok hC g ho h
    · cases h
  · rename_i args ts ho
    split at h
    · rename_i s x t t' hx ht
      obtain ⟨args⟩:=args
      obtain ⟨ts⟩:=ts
      simp only at hx ht
      subst hx ht
      exact sAppend_ok hC g ho h
    · cases h
  · rename_i args ts ho
    split at h
    · rename_i x t hx ht
      obtain ⟨args⟩:=args
      obtain ⟨ts⟩:=ts
      simp only at hx ht
      subst hx ht
      exact sLen_ok hC g ho h
    · cases h
  · rename_i ho; exact sCallOp_ok hC hdb g ho h
  · cases h
def two (K:SK) (σ:SS) (o:Oper):Option (Out × Out):=match sMx σ o with | some p=>some p | none=>sIxJ K.P K.E σ o
theorem two_ok {K:SK} {C:Cx} {X:Orc} (hK:K.Of C X) {σ:SS} {st:St} (g:Ga C σ st) {o:Oper} {o1 o2:Out} (h:two K σ o=some (o1,o2)):OpOk C X σ st o o1 ∨ OpOk C X σ st o o2:=by
  unfold two at h
  split at h
  · rename_i p hp; cases h; exact sMx_ok hK.ok g hp
  · rw [← hK.p,← hK.e] at h; exact sIxJ_ok hK.ok g h
def dstB (n:Nat):Option Nat→Bool
  | some d=>decide (d < n)
  | none=>true
def doB (K:SK) (o:Oper) (σ:SS) (f:SS→Out→Bool):Bool :=
  match two K σ o with
  | some (o1,o2)=>(match o1.act.ap σ o.dst,o2.act.ap σ o.dst with | some σ1,some σ2=>f σ1 o1 && f σ2 o2 | _,_=>false)
  | none =>
  match opS K σ o with
  | some out=>match out.act.ap σ o.dst with | some σ'=>f σ' out | none=>false
  | none=>false
def skipB (o:Oper) (σ:SS) (f:SS→Out→Bool):Bool:=f (σ.wr o.dst .und [] [.f (.isb (5,0,0) false)]) { act:=.wr .und [] [.f (.isb (5,0,0) false)] }
def SS.learn (σ:SS) (a:AP) (b:Bool):SS:={ σ with fs:=Go.Proofs.YtenoggjjhamdaaaGreatDoor.learn σ.fs a b }
def SS.no (σ:SS):Bool:=contra σ.fs
theorem no_ok {C:Cx} {σ:SS} {st:St} (g:Ga C σ st) (h:σ.no=true):False:=contra_ok g.nows h
def stepB (K:SK) (O:Array Oper) (o:Oper) (σ:SS) (f:SS→Out→Bool):Bool :=
  dstB σ.n o.dst && match o.guard with
    | none=>doB K o σ f
    | some (j,want) =>
      match (O[j]?).bind (·.dst) with
      | some d =>
        if d < σ.n then
          match opTV σ (.tmp d) with
          | .und=>skipB o σ f
          | .c .bool =>
            match opB σ (.tmp d) with
            | some b=>if b == want then doB K o σ f else skipB o σ f
            | none=>((σ.learn (0,d,0) want).no || doB K o (σ.learn (0,d,0) want) f) && ((σ.learn (0,d,0) (!want)).no || skipB o (σ.learn (0,d,0) (!want)) f)
          | _=>false
        else false
      | none=>false
theorem learn_Ga {C:Cx} {σ:SS} {st:St} (g:Ga C σ st) {d:Nat} {b:Bool} (hd:d < σ.n) (h:boolA (st.t d)=b):Ga C (σ.learn (0,d,0) b) st :=
  ⟨g.d,g.n,g.sl,g.hp,fun v hv=>learn_ok (g.fs v hv) (by rw [hv _ (by show 0 < 5; decide)]; exact h),g.low,g.al,g.pk,g.wh⟩
theorem doB_ok {K:SK} {C:Cx} {X:Orc} (hK:K.Of C X) {σ:SS} {st:St} (g:Ga C σ st) {o:Oper} {f:SS→Out→Bool} (h:doB K o σ f=true) :
    ∃ σ' out e,f σ' out=true∧chkE st (opE K.P X st.d st.ev st.h (st.d,o.dst.getD st.n) o)=some e∧SubSig (sigE (slotC C) e) out∧Ga C σ' (st.put o.dst e):=by
  have one:∀ (σ':SS) (out:Out),f σ' out=true→out.act.ap σ o.dst=some σ'→OpOk C X σ st o out→∃ σ' out e,f σ' out=true∧chkE st (opE K.P X st.d st.ev st.h (st.d,o.dst.getD st.n) o)=some e∧SubSig (sigE (slotC C) e) out∧Ga C σ' (st.put o.dst e):=by
    intro σ' out hf hσ hok
    obtain ⟨e,h1,h2,h3,h4⟩:=hok σ' hσ
    refine ⟨σ',out,e,hf,?_,h3,h4⟩
    rw [← hK.p,h1]
    show (if okW st.d st.al e.wr then some e else none)=_
    rw [if_pos h2]
  unfold doB at h
  split at h
  · rename_i o1 o2 hm
    split at h
    · rename_i σ1 σ2 h1 h2
      rw [Bool.and_eq_true] at h
      rcases two_ok (X:=X) hK g hm with hok | hok
      · exact one σ1 o1 h.1 h1 hok
      · exact one σ2 o2 h.2 h2 hok
    · cases h
  · split at h
    · rename_i out hout
      split at h
      · rename_i σ' hσ
        exact one σ' out h hσ (opS_ok hK g hout)
      · cases h
    · cases h
theorem skipB_ok {C:Cx} {σ:SS} {st:St} (g:Ga C σ st) {o:Oper} {f:SS→Out→Bool} (h:skipB o σ f=true) :
    ∃ σ' out,f σ' out=true∧SubSig (sigE (slotC C) { v:=.d (.s undef) }) out∧Ga C σ' (st.put o.dst { v:=.d (.s undef) }):=by
  refine ⟨_,_,h,⟨fun x hx=>(by cases hx),fun x hx=>(by cases hx),fun hx=>(by cases hx)⟩,?_⟩
  exact wr_ok g (fun _=>Fz_refl _) (fun _ _=>rfl) (fun _=>by simp only [TV.ok]) (fun v _ p hp=>by cases hp) (fun v hv f hf=>by
    simp only [List.mem_singleton] at hf
    subst hf
    show boolA (v (5,0,0))=false
    rw [hv.nv]; rfl)
theorem stepB_ok {K:SK} {C:Cx} {X:Orc} (hK:K.Of C X) {σ:SS} {st:St} (g:Ga C σ st) {O:Array Oper} {o:Oper} {f:SS→Out→Bool} (h:stepB K O o σ f=true) :
    ∃ σ' out e,f σ' out=true∧stepE K.P X O o st=some e∧SubSig (sigE (slotC C) e) out∧Ga C σ' (st.put o.dst e):=by
  unfold stepB at h
  rw [Bool.and_eq_true] at h
  obtain ⟨hd,h⟩:=h
  have hd:dstOk st.n o.dst=true:=by
    rw [g.n]
    cases ho:o.dst with
    | none=>rfl
    | some d=>rw [ho] at hd; exact hd
  unfold stepE
  rw [if_pos hd]
  split at h
  · rename_i hg
    have hw:wantedA O st o=some true:=by unfold wantedA; rw [hg]
    obtain ⟨σ',out,e,h1,h2,h3,h4⟩:=doB_ok hK g h
    exact ⟨σ',out,e,h1,by rw [hw]; exact h2,h3,h4⟩
  · rename_i j want hg
    split at h
    · rename_i d hj
      split at h
      · rename_i hdn
        have hw:wantedA O st o=(match st.t d with | .d (.s (.bool b))=>some (b == want) | .d (.s (.tuple _))=>some false | _=>none):=by
          unfold wantedA
          rw [hg]
          simp only [hj,g.n,hdn,if_true]
          rfl
        have hok:=opTV_ok g (.tmp d)
        rw [ev_tmp g hdn] at hok
        split at h
        · rename_i ht
          rw [ht] at hok
          simp only [TV.ok] at hok
          obtain ⟨σ',out,h1,h2,h3⟩:=skipB_ok g h
          exact ⟨σ',out,_,h1,by rw [hw,hok]; rfl,h2,h3⟩
        · rename_i ht
          rw [ht] at hok
          simp only [TV.ok,ShT] at hok
          obtain ⟨_,hv,b,rfl⟩:=hok
          rw [hv] at hw
          have hw:wantedA O st o=some (b == want):=hw
          have hb:boolA (st.t d)=b:=by rw [hv]; rfl
          have go:∀ σ1,Ga C σ1 st→b=want→doB K o σ1 f=true→∃ σ' out e,f σ' out=true∧(match wantedA O st o with | some true=>chkE st (opE K.P X st.d st.ev st.h (st.d,o.dst.getD st.n) o) | some false=>some { v:=.d (.s undef) } | none=>none)=some e∧SubSig (sigE (slotC C) e) out∧Ga C σ' (st.put o.dst e):=by
            intro σ1 g1 hbw h1
            obtain ⟨σ',out,e,h2,h3,h4,h5⟩:=doB_ok hK g1 h1
            refine ⟨σ',out,e,h2,?_,h4,h5⟩
            rw [hw,hbw,beq_self_eq_true]
            exact h3
          have no:∀ σ1,Ga C σ1 st→b ≠ want→skipB o σ1 f=true→∃ σ' out e,f σ' out=true∧(match wantedA O st o with | some true=>chkE st (opE K.P X st.d st.ev st.h (st.d,o.dst.getD st.n) o) | some false=>some { v:=.d (.s undef) } | none=>none)=some e∧SubSig (sigE (slotC C) e) out∧Ga C σ' (st.put o.dst e):=by
            intro σ1 g1 hbw h1
            obtain ⟨σ',out,h2,h3,h4⟩:=skipB_ok g1 h1
            refine ⟨σ',out,_,h2,?_,h3,h4⟩
            rw [hw,show (b == want)=false by simpa using hbw]
          split at h
          · rename_i b' hb'
            have e1:=opB_ok g hb'
            rw [ev_tmp g hdn,hb] at e1
            split at h
            · rename_i hbw
              exact go σ g (by rw [e1]; exact eq_of_beq hbw) h
            · rename_i hbw
              exact no σ g (by rw [e1]; simpa using hbw) h
          · rw [Bool.and_eq_true,Bool.or_eq_true,Bool.or_eq_true] at h
            by_cases hbw:b=want
            · have gl:=learn_Ga g hdn (b:=want) (by rw [hb,hbw])
              exact go _ gl hbw (h.1.resolve_left fun hno=>no_ok gl hno)
            · have gl:=learn_Ga g hdn (b:=!want) (by rw [hb]; cases b <;> cases want <;> first | rfl | exact absurd rfl hbw)
              exact no _ gl hbw (h.2.resolve_left fun hno=>no_ok gl hno)
        · cases h
      · cases h
    · cases h
def SubL:List Out→List Eff→(Id→Nat)→Prop
  | [],[],_=>True
  | o :: l,e :: m,φ=>SubSig (sigE φ e) o∧SubL l m φ
  | _,_,_=>False
theorem SubL_app {φ:Id→Nat}:∀ {l:List Out} {m:List Eff} {o:Out} {e:Eff},SubL l m φ→SubSig (sigE φ e) o→SubL (l ++ [o]) (m ++ [e]) φ
  | [],[],o,e,_,h=>⟨h,trivial⟩
  | _ :: l,_ :: m,o,e,h,h2=>⟨h.1,SubL_app h.2 h2⟩
theorem SubL_get {φ:Id→Nat}:∀ {l:List Out} {m:List Eff},SubL l m φ→∀ (i:Nat),(l[i]? = none∧m[i]? = none) ∨ ∃ o e,l[i]? = some o∧m[i]? = some e∧SubSig (sigE φ e) o
  | [],[],_,i=>Or.inl ⟨by simp,by simp⟩
  | o :: l,e :: m,h,i=>by
    cases i with
    | zero=>exact Or.inr ⟨o,e,by simp,by simp,h.1⟩
    | succ i=>simpa using SubL_get h.2 i
def raceS (O:Array Oper) (l:List Out):Bool:=raceN O (l.map fun o=>(o.rd,o.wr,o.ra))
theorem confN_mono {a b a' b':SigN} (h1:(∀ x ∈ a.1,x ∈ a'.1)∧(∀ x ∈ a.2.1,x ∈ a'.2.1)∧(a.2.2=true→a'.2.2=true)) (h2:(∀ x ∈ b.1,x ∈ b'.1)∧(∀ x ∈ b.2.1,x ∈ b'.2.1)∧(b.2.2=true→b'.2.2=true)) (h:confN a b=true):confN a' b' = true:=by
  unfold confN at h ⊢
  simp only [Bool.or_eq_true,Bool.and_eq_true,List.any_eq_true,List.contains_iff_mem] at h ⊢
  have ne:∀ {l m:List Nat},(∀ x ∈ l,x ∈ m)→(!l.isEmpty)=true→(!m.isEmpty)=true:=by
    intro l m hs hl
    cases l with
    | nil=>cases hl
    | cons x l=>cases m with
      | nil=>exact absurd (hs x List.mem_cons_self) (by simp)
      | cons y m=>rfl
  rcases h with ((⟨e1,e2⟩ | ⟨e1,e2⟩) | ⟨p,hp,e⟩) | ⟨p,hp,e⟩
  · exact Or.inl (Or.inl (Or.inl ⟨h1.2.2 e1,ne h2.2.1 e2⟩))
  · exact Or.inl (Or.inl (Or.inr ⟨h2.2.2 e1,ne h1.2.1 e2⟩))
  · exact Or.inl (Or.inr ⟨p,h1.2.1 p hp,e.imp (h2.1 p) (h2.2.1 p)⟩)
  · exact Or.inr ⟨p,h2.2.1 p hp,h1.1 p e⟩
theorem raceS_ok {O:Array Oper} {l:List Out} {es:List Eff} {φ:Id→Nat} (hs:SubL l es φ) (h:raceS O l=true):raceFree O es=true:=by
  refine raceFree_of φ ?_
  unfold raceS at h
  unfold raceN at h ⊢
  rw [List.all_eq_true] at h ⊢
  intro j hj
  have h1:=h j hj
  rw [Bool.and_eq_true] at h1 ⊢
  refine ⟨h1.1,?_⟩
  rw [List.all_eq_true]
  intro i hi
  have h2:=List.all_eq_true.1 h1.2 i hi
  simp only [List.getElem?_map] at h2 ⊢
  rcases SubL_get hs i with ⟨a1,a2⟩ | ⟨oa,ea,a1,a2,a3⟩
  · rw [a1] at h2; cases hx:O[i]? <;> cases hy:O[j]? <;> rw [hx,hy] at h2 <;> simp at h2
  · rcases SubL_get hs j with ⟨b1,b2⟩ | ⟨ob,eb,b1,b2,b3⟩
    · rw [b1] at h2; cases hx:O[i]? <;> cases hy:O[j]? <;> rw [hx,hy,a1] at h2 <;> simp at h2
    · rw [a1,b1] at h2
      rw [a2,b2]
      cases hx:O[i]? with
      | none=>rw [hx] at h2; cases h2
      | some x =>
        cases hy:O[j]? with
        | none=>rw [hx,hy] at h2; cases h2
        | some y =>
          rw [hx,hy] at h2
          simp only [Option.map_some,Bool.or_eq_true,Bool.and_eq_true] at h2 ⊢
          rcases h2 with ⟨g1,g2⟩ | g
          · refine Or.inl ⟨g1,?_⟩
            cases hc:confN (sigE φ ea) (sigE φ eb) with
            | false=>rfl
            | true=>rw [confN_mono (a':=(oa.rd,oa.wr,oa.ra)) (b':=(ob.rd,ob.wr,ob.ra)) a3 b3 hc] at g2; cases g2
          · exact Or.inr g
theorem Wk_step {P:Program} {X:Orc} {N:Nat} {k:List Itm} {st:St} {Q:Ex→St→Prop} {O:Array Oper} {o:Oper} {l:List Oper} {e:Eff} (h:stepE P X O o st=some e) (hk:Wk P X N (.ops O l :: k) (st.put o.dst e) Q):Wk P X N (.ops O (o :: l) :: k) st Q:=by
  unfold Wk at hk ⊢
  rw [execK] at hk ⊢
  have:runOps P X O (o :: l) st=runOps P X O l (st.put o.dst e):=by
    rw [runOps,stepSt,h]; rfl
  rw [this]; exact hk
theorem Wk_stepT {P:Program} {X:Orc} {N:Nat} {k:List Itm} {st:St} {Q:Ex→St→Prop} {O:Array Oper} {o:Oper} {l:List Oper} {es:List Eff} {e:Eff} (h:stepE P X O o st=some e) (hk:Wk P X N (.tr O l (es ++ [e]) :: k) (st.put o.dst e) Q):Wk P X N (.tr O (o :: l) es :: k) st Q:=by
  unfold Wk at hk ⊢
  rw [execK] at hk ⊢
  rw [runTr,h]
  simp only
  cases hr:runTr P X O l (st.put o.dst e) with
  | none=>rw [hr] at hk; simp at hk
  | some p =>
    obtain ⟨s,es'⟩:=p
    rw [hr] at hk
    simpa using hk
def naB (na:Nat):Option Nat→Bool
  | some d=>decide (na ≤ d)
  | none=>true
def doL (K:SK) (o:Oper) (σ:SS):Option (List (SS × Out)) :=
  match two K σ o with
  | some (o1,o2)=>(match o1.act.ap σ o.dst,o2.act.ap σ o.dst with | some σ1,some σ2=>some [(σ1,o1),(σ2,o2)] | _,_=>none)
  | none =>
  match opS K σ o with
  | some out=>match out.act.ap σ o.dst with | some σ'=>some [(σ',out)] | none=>none
  | none=>none
def skipL (o:Oper) (σ:SS):List (SS × Out):=[(σ.wr o.dst .und [] [.f (.isb (5,0,0) false)],{ act:=.wr .und [] [.f (.isb (5,0,0) false)] })]
def stepL (K:SK) (O:Array Oper) (o:Oper) (σ:SS):Option (List (SS × Out)) :=
  if !dstB σ.n o.dst then none else
  match o.guard with
  | none=>doL K o σ
  | some (j,want) =>
    match (O[j]?).bind (·.dst) with
    | some d =>
      if d < σ.n then
        match opTV σ (.tmp d) with
        | .und=>some (skipL o σ)
        | .c .bool =>
          match opB σ (.tmp d) with
          | some b=>if b == want then doL K o σ else some (skipL o σ)
          | none=>match (if (σ.learn (0,d,0) want).no then some [] else doL K o (σ.learn (0,d,0) want)) with | some l=>some (l ++ if (σ.learn (0,d,0) (!want)).no then [] else skipL o (σ.learn (0,d,0) (!want))) | none=>none
        | _=>none
      else none
    | none=>none
theorem doL_ok {K:SK} {o:Oper} {σ:SS} {l:List (SS × Out)} (h:doL K o σ=some l) (f:SS→Out→Bool) (hf:∀ p ∈ l,f p.1 p.2=true):doB K o σ f=true:=by
  unfold doL at h
  unfold doB
  split at h
  · rename_i o1 o2 hm
    split at h
    · rename_i σ1 σ2 h1 h2
      cases h
      rw [Bool.and_eq_true]
      exact ⟨hf _ List.mem_cons_self,hf _ (List.mem_cons_of_mem _ List.mem_cons_self)⟩
    · cases h
  · split at h
    · rename_i out hout
      split at h
      · rename_i σ' hσ
        cases h
        exact hf _ List.mem_cons_self
      · cases h
    · cases h
theorem stepL_ok {K:SK} {O:Array Oper} {o:Oper} {σ:SS} {l:List (SS × Out)} (h:stepL K O o σ=some l) (f:SS→Out→Bool) (hf:∀ p ∈ l,f p.1 p.2=true):stepB K O o σ f=true:=by
  unfold stepL at h
  unfold stepB
  split at h
  · cases h
  · rename_i hd
    have hd:dstB σ.n o.dst=true:=by simpa using hd
    rw [hd,Bool.true_and]
    split at h
    · rename_i hg
      exact doL_ok h f hf
    · rename_i j want hg
      split at h
      · rename_i d hj
        split at h
        · rename_i hdn
          rw [if_pos hdn]
          split at h
          · cases h; exact hf _ List.mem_cons_self
          · split at h
            · rename_i b hb
              split at h
              · rename_i hbw
                rw [if_pos hbw]; exact doL_ok h f hf
              · rename_i hbw
                rw [if_neg hbw]; cases h; exact hf _ List.mem_cons_self
            · rename_i hb
              split at h
              · rename_i l' hl'
                cases h
                rw [Bool.and_eq_true,Bool.or_eq_true,Bool.or_eq_true]
                refine ⟨?_,?_⟩
                · split at hl'
                  · rename_i hno; exact Or.inl hno
                  · exact Or.inr (doL_ok hl' f fun p hp=>hf p (List.mem_append_left _ hp))
                · cases hno:(σ.learn (0,d,0) (!want)).no with
                  | true=>exact Or.inl rfl
                  | false =>
                    refine Or.inr ?_
                    show f ((σ.learn (0,d,0) (!want)).wr o.dst .und [] [.f (.isb (5,0,0) false)]) { act:=.wr .und [] [.f (.isb (5,0,0) false)] } = true
                    exact hf (_,_) (List.mem_append_right _ (by rw [hno]; exact List.mem_cons_self))
              · cases h
          · cases h
        · cases h
      · cases h
open Classical in
theorem stepL_get {K:SK} {C:Cx} {X:Orc} (hK:K.Of C X) {σ:SS} {st:St} (g:Ga C σ st) {O:Array Oper} {o:Oper} {ps:List (SS × Out)} (h:stepL K O o σ=some ps) :
    ∃ p ∈ ps,∃ e,stepE K.P X O o st=some e∧SubSig (sigE (slotC C) e) p.2∧Ga C p.1 (st.put o.dst e):=by
  obtain ⟨σ',out,e,h1,h2,h3,h4⟩:=stepB_ok hK g (stepL_ok h (fun σ' out=>decide ((σ',out) ∈ ps)) fun p hp=>decide_eq_true hp)
  exact ⟨(σ',out),of_decide_eq_true h1,e,h2,h3,h4⟩
def contL {α:Type} (f:α→Option (List SS)):List α→Option (List SS)
  | []=>some []
  | x :: l=>match f x,contL f l with | some a,some b=>some (a ++ b) | _,_=>none
theorem contL_mem {α:Type} {f:α→Option (List SS)}:∀ {l:List α} {r:List SS},contL f l=some r→∀ x ∈ l,∃ a,f x=some a ∧ ∀ y ∈ a,y ∈ r
  | [],r,h,x,hx=>by cases hx
  | z :: l,r,h,x,hx=>by
    unfold contL at h
    split at h
    · rename_i a b h1 h2
      cases h
      rcases List.mem_cons.1 hx with rfl | hx
      · exact ⟨a,h1,fun y hy=>List.mem_append_left _ hy⟩
      · obtain ⟨c,h3,h4⟩:=contL_mem h2 x hx
        exact ⟨c,h3,fun y hy=>List.mem_append_right _ (h4 y hy)⟩
    · cases h
def opsS (K:SK) (na:Nat) (O:Array Oper):List Oper→List (List Nat)→SS→Option (List SS)
  | [],_,σ=>some [σ]
  | o :: l,ds,σ=>if naB na o.dst then (match stepL K O o σ with | some ps=>contL (fun p=>opsS K na O l ds.tail (slim (ds.headD []) [] p.1)) ps | none=>none) else none
def trS (K:SK) (na:Nat) (O:Array Oper):List Oper→List (List Nat)→List Out→SS→Option (List SS)
  | [],_,outs,σ=>if raceS O outs then some [σ] else none
  | o :: l,ds,outs,σ=>if naB na o.dst then (match stepL K O o σ with | some ps=>contL (fun p=>trS K na O l ds.tail (outs ++ [p.2]) (slim (ds.headD []) [] p.1)) ps | none=>none) else none
end
end
end Go.Proofs.YtenoggjjhamdaaaGreatDoor
