/-
  WHAT IS PROVED HERE: parts of the proof: In12M In12N In12P In12Q In13 In14.
-/
import Derived.MapKept
import Derived.Maps.RangeRun
import Derived.Test.YtenoggjjhamdaaaGreatDoorB03
set_option linter.all false
namespace Go.Proofs.YtenoggjjhamdaaaGreatDoor
open Go Go.RowKit
section
theorem RelH.reobj {E:Env} {ι:Ix} {S:Sb} {h:Id→O} {w w':World} (hr:RelH E ι S h w) (id:Id) (o':O) (L:Loc) (hl:(h id).live=true) (hL:ι id (h id).ver=some L) (hv:o'.ver=(h id).ver) (hs:∀ o,¬ S L.b o)
  (hb:Below E.base E.w0 w') (hz:w'.heap.size=w.heap.size) (ho:∀ b,b ≠ L.b→w'.heap[b]? = w.heap[b]?) (hobj:Mono ι S w ι S w'→ORel ι S E.base w' id o'):Mono ι S w ι S w' ∧ RelH E ι S (upd h id o') w':=by
 have hm:Mono ι S w ι S w':=⟨fun _ _ _ h=>h,fun _ _ h=>h,fun b o hso=>(cell_block (ho b (by rintro rfl; exact hs o hso)) o).1⟩
 refine ⟨hm,hb,by rw [hz]; exact hr.size,fun i=>?_,fun i i' L1 L2 hne hl1 hl2 h1 h2=>?_,fun i ver hlt=>?_,hr.sub,hr.new,fun b o hso=>by rw [hz]; exact hr.inw b o hso,hr.old,hr.deep,fun b o hso=>(hm.cell b o (hr.sub b o hso)).trans (hr.hold b o hso),fun b hp=>?_,hr.z,fun i hi=>⟨by
  have:=(hr.low i hi).1
  unfold upd
  split
  ·rename_i e; subst e; rw [hv]; exact this
  ·exact this,(hr.low i hi).2⟩⟩
 rotate_right 1
 ·obtain ⟨p1,p2,p3,p4⟩:=hr.prot b hp
  have hne:=p4 id L hl hL
  refine ⟨by rw [hz]; exact p1,(ho b fun e=>hne e.symm).trans p2,p3,fun i L' hl1 h1=>?_⟩
  unfold upd at hl1 h1
  by_cases e:i=id
  ·subst e
   rw [if_pos rfl] at h1
   rw [hv] at h1
   exact p4 i L' hl h1
  ·rw [if_neg e] at hl1 h1
   exact p4 i L' hl1 h1
 ·unfold upd
  split
  ·rename_i e; subst e; exact hobj hm
  ·rename_i e
   exact (hr.objs i).keep hm rfl (by rw [hz]; exact Nat.le_refl _) fun hl2 L2 hL2=>⟨fun _ h=>h,ho _ (fun e'=>absurd e' (hr.apart i id L2 L e hl2 hl hL2 hL))⟩
 ·have hv2:∀ k,(upd h id o' k).ver=(h k).ver:=fun k=>by
   unfold upd
   split
   ·rename_i e; subst e; exact hv
   ·rfl
  have hl3:∀ k,(upd h id o' k).live=true→(h k).live=true:=fun k hk=>by
   unfold upd at hk
   split at hk
   ·rename_i e; subst e; exact hl
   ·exact hk
  rw [hv2] at h1 h2
  exact hr.apart i i' L1 L2 hne (hl3 i hl1) (hl3 i' hl2) h1 h2
 ·refine hr.vers i ver ?_
  unfold upd at hlt
  split at hlt
  ·rename_i e; subst e; rw [← hv]; exact hlt
  ·exact hlt
def setB (w:World) (r:Nat) (o:Obj):World:={ w with heap:=w.heap.setIfInBounds r o }
theorem setB_below {base:Nat} {w0 w:World} {r:Nat} {o:Obj} (hb:Below base w0 w) (hr:base ≤ r):Below base w0 (setB w r o):=by
 refine ⟨hb.os,hb.tape,hb.output,by simpa [setB] using hb.size,fun b hlt=>?_⟩
 rw [← hb.block b hlt]
 show (w.heap.setIfInBounds r o)[b]? = _
 rw [Array.getElem?_setIfInBounds_ne (by omega)]
theorem setB_other {w:World} {r:Nat} {o:Obj} (b:Nat) (hb:b ≠ r):(setB w r o).heap[b]? = w.heap[b]?:=by
 show (w.heap.setIfInBounds r o)[b]? = _
 rw [Array.getElem?_setIfInBounds_ne (by omega)]
theorem setB_same {w:World} {r:Nat} {o:Obj} (hr:r < w.heap.size):(setB w r o).heap[r]? = some o:=by
 show (w.heap.setIfInBounds r o)[r]? = _
 simp [hr]
theorem setB_size {w:World} {r:Nat} {o:Obj}:(setB w r o).heap.size=w.heap.size:=by simp [setB]
theorem run_get_str {P:Program} {w:World} {r:Nat} {s:ByteArray} {p:Nat} (hb:w.heap[r]? = some (.stringIter s p)):(getObj r).run P w = .ok (.stringIter s p) w:=by simp [getObj,Sem.run,hb]
theorem run_set_str {P:Program} {w:World} {r:Nat} {s:ByteArray} {p:Nat} (o:Obj) (hb:w.heap[r]? = some (.stringIter s p)):(setObj r o).run P w = .ok () (setB w r o):=by simp [setObj,Sem.run,hb,setB]
theorem run_get_it {P:Program} {w:World} {r:Nat} {m:Option Nat} {s:Nat} {seen:Array Nat} {c:Nat} (hb:w.heap[r]? = some (.mapIter m s seen c)):(getObj r).run P w = .ok (.mapIter m s seen c) w:=by simp [getObj,Sem.run,hb]
theorem run_get_map {P:Program} {w:World} {r:Nat} {es:Array MapEntry} {c:Nat} (hb:w.heap[r]? = some (.map es c)):(getObj r).run P w = .ok (.map es c) w:=by simp [getObj,Sem.run,hb]
theorem run_set_map {P:Program} {w:World} {r:Nat} {es:Array MapEntry} {c:Nat} (o:Obj) (hb:w.heap[r]? = some (.map es c)):(setObj r o).run P w = .ok () (setB w r o):=by simp [setObj,Sem.run,hb,setB]
theorem pureRun_bind0 {P:Program} {α β:Type} (e:Sem α) (f:α→Sem β):pureRun P (e >>= f)=(pureRun P e).bind fun a=>pureRun P (f a):=by
 show pureRun P (e.bind f)=_
 induction e with
 | pure a=>rfl
 | program k ih=>exact ih P
 | _=>rfl
def SameKeys:List MapEntry→List MapEntry→Prop
 | [],ms=>ms=[]
 | e :: es,ms=>∃ m ms',ms=m :: ms' ∧ m.key=e.key∧SameKeys es ms'
theorem findNow_keys {kd:TypeDesc} {k:Value}:∀ {es ms:List MapEntry} {i:Nat},SameKeys es ms→(Instr.findNow kd k ms i).map (fun r=>r.map (·.1))=(Instr.findNow kd k es i).map (fun r=>r.map (·.1)) ∧ ∀ j v,Instr.findNow kd k ms i=some (some (j,v))→∃ m,i ≤ j∧ms[j - i]? = some m∧v=m.val
 | [],ms,i,h=>by
  unfold SameKeys at h
  subst h
  exact ⟨rfl,fun j v e=>by simp [Instr.findNow] at e⟩
 | e :: es,ms,i,h=>by
  unfold SameKeys at h
  obtain ⟨m,ms',rfl,hk,h'⟩:=h
  obtain ⟨ih1,ih2⟩:=findNow_keys (kd:=kd) (k:=k) (i:=i + 1) h'
  unfold Instr.findNow
  rw [hk]
  cases Instr.sameNow kd k e.key with
  | none=>exact ⟨rfl,fun j v e=>by cases e⟩
  | some b =>
   cases b with
   | true =>
    refine ⟨rfl,fun j v e=>?_⟩
    simp only [Option.some.injEq,Prod.mk.injEq] at e
    obtain ⟨rfl,rfl⟩:=e
    exact ⟨m,Nat.le_refl _,by simp,rfl⟩
   | false =>
    refine ⟨ih1,fun j v e=>?_⟩
    obtain ⟨m2,g1,g2,g3⟩:=ih2 j v e
    exact ⟨m2,by omega,by rw [show j - i=(j - (i + 1)) + 1 by omega]; simpa using g2,g3⟩
theorem findAsking_keys {P:Program} {kt:TypeId} {k:Value}:∀ {es ms:List MapEntry} {i:Nat},SameKeys es ms→(pureRun P (Instr.findAsking kt k ms i)).map (fun r=>r.map (·.1))=(pureRun P (Instr.findAsking kt k es i)).map (fun r=>r.map (·.1)) ∧ ∀ j v,pureRun P (Instr.findAsking kt k ms i)=some (some (j,v))→∃ m,i ≤ j∧ms[j - i]? = some m∧v=m.val
 | [],ms,i,h=>by
  unfold SameKeys at h
  subst h
  exact ⟨rfl,fun j v e=>by (have e':(some none:Option (Option (Nat × Value)))=some (some (j,v)):=e); simp at e'⟩
 | e :: es,ms,i,h=>by
  unfold SameKeys at h
  obtain ⟨m,ms',rfl,hk,h'⟩:=h
  obtain ⟨ih1,ih2⟩:=findAsking_keys (P:=P) (kt:=kt) (k:=k) (i:=i + 1) h'
  unfold Instr.findAsking
  rw [hk]
  simp only [pureRun_bind0]
  cases pureRun P (Op.equal kt k e.key) with
  | none=>exact ⟨rfl,fun j v e=>by cases e⟩
  | some b =>
   cases b with
   | true =>
    refine ⟨rfl,fun j v e=>?_⟩
    simp only [Option.bind_some,if_true] at e
    have e':(some (some (i,m.val)):Option (Option (Nat × Value)))=some (some (j,v)):=e
    simp only [Option.some.injEq,Prod.mk.injEq] at e'
    obtain ⟨rfl,rfl⟩:=e'
    exact ⟨m,Nat.le_refl _,by simp,rfl⟩
   | false =>
    simp only [Option.bind_some,Bool.false_eq_true,if_false]
    refine ⟨ih1,fun j v e=>?_⟩
    obtain ⟨m2,g1,g2,g3⟩:=ih2 j v e
    exact ⟨m2,by omega,by rw [show j - i=(j - (i + 1)) + 1 by omega]; simpa using g2,g3⟩
theorem findKey_keys {P:Program} {kt:TypeId} {k:Value} {es ms:List MapEntry} (h:SameKeys es ms) {r:Option Nat} (hr:(pureRun P (Instr.findKey kt k es)).map (fun r=>r.map (·.1))=some r) :
  ∃ r',pureRun P (Instr.findKey kt k ms)=some r' ∧ r'.map (·.1)=r ∧ ∀ j v,r' = some (j,v)→∃ m,ms[j]? = some m∧v=m.val:=by
 unfold Instr.findKey at hr ⊢
 simp only [pureRun_bind0] at hr ⊢
 cases hu:pureRun P (underlying kt) with
 | none=>rw [hu] at hr; simp at hr
 | some kd =>
  rw [hu] at hr
  simp only [Option.bind_some] at hr ⊢
  obtain ⟨g1,g2⟩:=findNow_keys (kd:=kd) (k:=k) (i:=0) h
  cases h1:Instr.findNow kd k es 0 with
  | some q =>
   rw [h1] at hr g1
   have hr':(some (q.map (·.1)):Option (Option Nat))=some r:=hr
   simp only [Option.some.injEq] at hr'
   cases h2:Instr.findNow kd k ms 0 with
   | none=>rw [h2] at g1; simp at g1
   | some q' =>
    rw [h2] at g1
    simp only [Option.map_some,Option.some.injEq] at g1
    refine ⟨q',rfl,by rw [g1]; exact hr',fun j v e=>?_⟩
    subst e
    obtain ⟨m,k1,k2,k3⟩:=g2 j v h2
    exact ⟨m,by simpa using k2,k3⟩
  | none =>
   rw [h1] at hr g1
   cases h2:Instr.findNow kd k ms 0 with
   | some q'=>rw [h2] at g1; simp at g1
   | none =>
    simp only at hr ⊢
    obtain ⟨k1,k2⟩:=findAsking_keys (P:=P) (kt:=kt) (k:=k) (i:=0) h
    rw [← k1] at hr
    cases h3:pureRun P (Instr.findAsking kt k ms 0) with
    | none=>rw [h3] at hr; simp at hr
    | some q' =>
     rw [h3] at hr
     simp only [Option.map_some,Option.some.injEq] at hr
     refine ⟨q',rfl,hr,fun j v e=>?_⟩
     subst e
     obtain ⟨m,g1,g2,g3⟩:=k2 j v h3
     exact ⟨m,by simpa using g2,g3⟩
theorem MapRel_keys {ι:Ix} {S:Sb} {w:World}:∀ {es:List (Nat × Value × A)} {ms:List MapEntry},MapRel ι S w es ms→SameKeys (es.map fun e=>({ key:=e.2.1,val:=undef,born:=e.1 }:MapEntry)) ms
 | [],ms,h=>h
 | e :: es,ms,h=>by
  obtain ⟨m,ms',rfl,h1,h2,h3,h4⟩:=h
  exact ⟨m,ms',rfl,h2,MapRel_keys h4⟩
theorem MapRel_len {ι:Ix} {S:Sb} {w:World}:∀ {es:List (Nat × Value × A)} {ms:List MapEntry},MapRel ι S w es ms→ms.length=es.length
 | [],ms,h=>by unfold MapRel at h; subst h; rfl
 | e :: es,ms,h=>by
  obtain ⟨m,ms',rfl,h1,h2,h3,h4⟩:=h
  simp [MapRel_len h4]
theorem MapRel_get {ι:Ix} {S:Sb} {w:World}:∀ {es:List (Nat × Value × A)} {ms:List MapEntry},MapRel ι S w es ms→∀ {i:Nat} {m:MapEntry},ms[i]? = some m→∃ e,es[i]? = some e∧m.born=e.1∧m.key=e.2.1∧VA ι S w e.2.2 m.val
 | [],ms,h,i,m,hm=>by unfold MapRel at h; subst h; simp at hm
 | e :: es,ms,h,i,m,hm=>by
  obtain ⟨m',ms',rfl,h1,h2,h3,h4⟩:=h
  cases i with
  | zero=>simp only [List.getElem?_cons_zero,Option.some.injEq] at hm ⊢; subst hm; exact ⟨e,rfl,h1,h2,h3⟩
  | succ i=>simp only [List.getElem?_cons_succ] at hm ⊢; exact MapRel_get h4 hm
theorem MapRel_set {ι:Ix} {S:Sb} {w:World}:∀ {es:List (Nat × Value × A)} {ms:List MapEntry},MapRel ι S w es ms→∀ (i:Nat) (e:Nat × Value × A) (m:MapEntry),m.born=e.1→m.key=e.2.1→VA ι S w e.2.2 m.val→MapRel ι S w (es.set i e) (ms.set i m)
 | [],ms,h,i,e,m,h1,h2,h3=>by unfold MapRel at h; subst h; simp; unfold MapRel; rfl
 | e0 :: es,ms,h,i,e,m,h1,h2,h3=>by
  obtain ⟨m',ms',rfl,g1,g2,g3,g4⟩:=h
  cases i with
  | zero=>exact ⟨m,ms',rfl,h1,h2,h3,g4⟩
  | succ i=>exact ⟨m',_,rfl,g1,g2,g3,MapRel_set g4 i e m h1 h2 h3⟩
theorem MapRel_snoc {ι:Ix} {S:Sb} {w:World}:∀ {es:List (Nat × Value × A)} {ms:List MapEntry},MapRel ι S w es ms→∀ (e:Nat × Value × A) (m:MapEntry),m.born=e.1→m.key=e.2.1→VA ι S w e.2.2 m.val→MapRel ι S w (es ++ [e]) (ms ++ [m])
 | [],ms,h,e,m,h1,h2,h3=>by unfold MapRel at h; subst h; exact ⟨m,[],rfl,h1,h2,h3,rfl⟩
 | e0 :: es,ms,h,e,m,h1,h2,h3=>by
  obtain ⟨m',ms',rfl,g1,g2,g3,g4⟩:=h
  exact ⟨m',_,rfl,g1,g2,g3,MapRel_snoc g4 e m h1 h2 h3⟩
end
section
theorem map_of {E:Env} {ι:Ix} {S:Sb} {h:Id→O} {w:World} (hr:RelH E ι S h w) {id:Id} {ver:Nat} {es:List (Nat × Value × A)} {clock:Nat} (ho:h id = .map ver es clock) {u:Value} (hv:VA ι S w (.mp id ver) u) :
  ∃ L ens,ι id ver=some L∧u = .map (some L.b)∧E.base ≤ L.b∧L.b < w.heap.size∧(∀ o,¬ S L.b o)∧w.heap[L.b]? = some (.map ens clock)∧MapRel (upto id.1 ι) S w es ens.toList∧(∀ e ∈ es,e.1 < clock)∧es.Pairwise (fun a b=>a.1 ≠ b.1):=by
 unfold VA at hv
 obtain ⟨L,hL,rfl⟩:=hv
 have hob:=hr.objs id
 rw [ho] at hob
 obtain ⟨L',h1,h3,h4,h5,ens,h6,h7,h8,h9⟩:=hob
 rw [hL] at h1
 cases h1
 exact ⟨L,ens,hL,rfl,h3,h4,h5,h6,h7,h8,h9⟩
theorem upto_less (k:Nat) (ι:Ix) (S:Sb) (w:World):Mono (upto k ι) S w ι S w:=⟨fun id ver L h=>(by unfold upto at h; split at h <;> first | exact h | (cases h)),fun _ _ h=>h,fun _ _ _=>rfl⟩
theorem lookup_ok {P:Program} {E:Env} {ι:Ix} {S:Sb} {h:Id→O} {w:World} (hr:RelH E ι S h w) {t:TypeId} {x k:A} {vx vk:Value} {ok:Bool} (hx:VA ι S w x vx) (hk:VA ι S w k vk) {e:Eff} (he:lookupE P h t x k ok=some e) :
  ∃ u,(Instr.lookup t vx vk ok).run P w = .ok u w∧Steps E ι S h w e u w:=by
 unfold lookupE at he
 split at he
 ·rename_i kt el id ver kv hu hkv
  split at he
  ·rename_i v es clock ho
   split at he
   ·rename_i e0; subst e0
    have e1:=exact_spec hk hkv
    subst e1
    obtain ⟨L,ens,hL,rfl,h3,h4,h5,h6,h7,h8⟩:=map_of hr ho hx
    have hsz:ens.isEmpty=es.isEmpty:=by
     have:=MapRel_len h7
     simp only [Array.length_toList] at this
     cases es <;> cases h:ens.toList <;> simp_all [Array.isEmpty]
    have go:∀ r:Option (Nat × Value),pureRun P (Instr.checkKey es.isEmpty 10000 kt vk) ≠ none→pureRun P (Instr.findKey kt vk ens.toList)=some r→(Instr.lookup t (.map (some L.b)) vk ok).run P w=(match r with | some (_,v)=>(pure (if ok then .tuple #[v,.bool true] else v):Sem Value).run P w | none=>(do let z ← zeroValue el; pure (if ok then .tuple #[z,.bool false] else z):Sem Value).run P w):=by
     intro r hc hf
     obtain ⟨un,hc'⟩:=Option.ne_none_iff_exists'.1 hc
     rw [← hsz] at hc'
     unfold Instr.lookup
     simp only [Sem.run_bind,run_under hu,Result.andThen,run_get_map h6,Sem.run_pure,pureRun_run hc',pureRun_run hf]
     cases r with
     | none=>simp only [Sem.run_bind]; cases (zeroValue el).run P w <;> simp [Result.andThen]
     | some p=>obtain ⟨i,v⟩:=p; simp [Result.andThen]
    split at he
    ·rename_i un i hc hf
     obtain ⟨en,hen,rfl⟩:=Option.map_eq_some_iff.1 he
     obtain ⟨r',g1,g2,g3⟩:=findKey_keys (MapRel_keys h7) hf
     cases r' with
     | none=>cases g2
     | some p =>
      obtain ⟨j,vv⟩:=p
      simp only [Option.map_some,Option.some.injEq] at g2
      subst g2
      obtain ⟨m,k1,rfl⟩:=g3 j vv rfl
      obtain ⟨en',k2,k3,k4,k5⟩:=MapRel_get h7 k1
      rw [hen] at k2
      cases k2
      have k6:=VA_mono (upto_less id.1 ι S w) _ _ k5
      refine ⟨if ok then .tuple #[m.val,.bool true] else m.val,?_,Steps.still hr rfl ?_⟩
      ·rw [go _ (by rw [hc]; simp) g1]
       cases ok <;> rfl
      ·cases ok with
       | true =>
        show VA ι S w (.tup [en.2.2,.d (.s (.bool true))]) (.tuple #[m.val,.bool true])
        unfold VA
        refine ⟨#[m.val,.bool true],rfl,?_⟩
        unfold VL
        refine ⟨m.val,[.bool true],rfl,k6,?_⟩
        unfold VL
        refine ⟨.bool true,[],rfl,?_,by unfold VL; rfl⟩
        unfold VA ValD CellsD; exact ⟨rfl,rfl⟩
       | false=>exact k6
    ·rename_i un z hc hf hz
     simp only [Option.some.injEq] at he
     subst he
     obtain ⟨r',g1,g2,g3⟩:=findKey_keys (MapRel_keys h7) hf
     cases r' with
     | some p=>cases g2
     | none =>
      refine ⟨if ok then .tuple #[z,.bool false] else z,?_,Steps.still hr rfl ?_⟩
      ·rw [go _ (by rw [hc]; simp) g1]
       simp only [Sem.run_bind,run_zero hz,Result.andThen]
       cases ok <;> rfl
      ·cases ok with
       | true =>
        show VA ι S w (.tup [ofV z,.d (.s (.bool false))]) (.tuple #[z,.bool false])
        unfold VA
        refine ⟨#[z,.bool false],rfl,?_⟩
        unfold VL
        refine ⟨z,[.bool false],rfl,VA_ofV _ _ _ _,?_⟩
        unfold VL
        refine ⟨.bool false,[],rfl,?_,by unfold VL; rfl⟩
        unfold VA ValD CellsD; exact ⟨rfl,rfl⟩
       | false=>exact VA_ofV _ _ _ _
    ·cases he
   ·cases he
  ·cases he
 ·cases he
theorem lenMap_ok {P:Program} {E:Env} {ι:Ix} {S:Sb} {h:Id→O} {w:World} (hr:RelH E ι S h w) {t ty:TypeId} {x:A} {vx:Value} (hx:VA ι S w x vx) {e:Eff} (he:lenMapE P h t x=some e) :
  ∃ u,(Builtin.len_ #[t] ty #[vx]).run P w = .ok u w∧Steps E ι S h w e u w:=by
 unfold lenMapE at he
 split at he
 ·rename_i kt el id ver hu
  split at he
  ·rename_i v es clock ho
   split at he
   ·rename_i e0; subst e0
    simp only [Option.some.injEq] at he
    subst he
    obtain ⟨L,ens,hL,rfl,h3,h4,h5,h6,h7,h8⟩:=map_of hr ho hx
    refine ⟨.int .i64 (es.length:Nat),?_,Steps.still hr rfl ?_⟩
    ·have hs:ens.size=es.length:=by rw [← MapRel_len h7]; simp
     simp [Builtin.len_,Sem.run_bind,run_under hu,Result.andThen,run_get_map h6,goInt,hs]
    ·show VA ι S w (.d (.s (.int .i64 (es.length:Int)))) _
     unfold VA ValD CellsD; exact ⟨rfl,rfl⟩
   ·cases he
  ·cases he
 ·cases he
theorem iface_of {P:Program} {t:TypeId} {b:Bool} (h:isIfaceT P t=some b):∃ d,P.underlying t=some d∧(b=true→∃ ms,d = .interface ms)∧(b=false→∀ ms,d ≠ .interface ms):=by
 unfold isIfaceT at h
 split at h
 ·rename_i ms hu
  simp only [Option.some.injEq] at h
  subst h
  exact ⟨_,hu,fun _=>⟨ms,rfl⟩,fun e=>by cases e⟩
 ·rename_i d hne hu
  simp only [Option.some.injEq] at h
  subst h
  exact ⟨_,hu,fun e=>(by cases e),fun _ ms e=>hne ms e⟩
 ·cases h
theorem wrap_of {S:Sb} {w:World} {x:D} {u:Value} (h:ValD S w x u):∃ vs,CellsD S w x vs∧wrapV x vs=u:=by
 cases x with
 | agg ys =>
  obtain ⟨us,rfl,h2⟩:=h
  exact ⟨us.toList,by unfold CellsD; exact h2,by show Value.agg us.toList.toArray=_; rw [Array.toArray_toList]⟩
 | s v=>exact ⟨[u],h,rfl⟩
 | lst zs=>exact ⟨[u],h,rfl⟩
 | ifc t y=>exact ⟨[u],h,rfl⟩
 | any=>exact ⟨[u],h,rfl⟩
theorem of_wrap {S:Sb} {w:World} {x:D} {vs:List Value} (h:CellsD S w x vs):ValD S w x (wrapV x vs):=by
 cases x with
 | agg ys=>exact ⟨vs.toArray,rfl,by unfold CellsD at h; simpa using h⟩
 | s v=>have h':=h; unfold CellsD at h'; obtain ⟨rfl,_⟩:=h'; exact h
 | lst zs=>have h':=h; unfold CellsD at h'; obtain ⟨_,_,rfl,_⟩:=h'; exact h
 | ifc t y=>have h':=h; unfold CellsD at h'; obtain ⟨_,_,rfl⟩:=h'; exact h
 | any=>have h':=h; unfold CellsD at h'; obtain ⟨_,_,rfl⟩:=h'; exact h
theorem mkIfc_ok {P:Program} {E:Env} {ι:Ix} {S:Sb} {h:Id→O} {w:World} (hr:RelH E ι S h w) {t:TypeId} {x:A} {vx:Value} (hx:VA ι S w x vx) {e:Eff} (he:mkIfcE P h t x=some e) :
  ∃ u,(Instr.makeInterface t vx).run P w = .ok u w∧Steps E ι S h w e u w:=by
 unfold mkIfcE at he
 split at he
 ·rename_i hi
  obtain ⟨⟨y,ids⟩,hfz,rfl⟩:=Option.map_eq_some_iff.1 he
  obtain ⟨d,hu,_,hni⟩:=iface_of hi
  obtain ⟨S1,m1,r1,f1,f2⟩:=RelH.freezeL (h0:=h) ids (fun _=>Or.inl rfl) hr
  have hy:=fzVal_ok hr m1 hx hfz f1
  obtain ⟨vs,g1,g2⟩:=wrap_of hy
  refine ⟨.iface t vx,?_,ι,S1,m1,?_,r1⟩
  ·have hni':=hni rfl
   unfold Instr.makeInterface
   simp only [Sem.run_bind,run_under hu,Result.andThen]
   try (cases d <;> first | rfl | exact absurd rfl (hni' _))
  ·show VA ι S1 w (.d (.ifc t y)) _
   unfold VA ValD CellsD
   exact ⟨vs,g1,by rw [g2]⟩
 ·cases he
theorem assert_ok {P:Program} {E:Env} {ι:Ix} {S:Sb} {h:Id→O} {w:World} (hr:RelH E ι S h w) {t xt asserted:TypeId} {y:D} {vx:Value} {ok:Bool} (hx:VA ι S w (.d (.ifc t y)) vx) {e:Eff} (he:assertE P h t y asserted ok=some e) :
  ∃ u,(Instr.typeAssert vx xt asserted ok).run P w = .ok u w∧Steps E ι S h w e u w:=by
 unfold assertE at he
 split at he
 ·rename_i hi
  obtain ⟨d,hu,_,hni⟩:=iface_of hi
  have hni':=hni rfl
  unfold VA ValD CellsD at hx
  obtain ⟨vs,h1,h2⟩:=hx
  simp only [List.cons.injEq,and_true] at h2
  subst h2
  have hy:=of_wrap h1
  split at he
  ·rename_i e0; subst e0
   simp only [Option.some.injEq] at he
   subst he
   refine ⟨if ok then .tuple #[wrapV y vs,.bool true] else wrapV y vs,?_,Steps.still hr rfl ?_⟩
   ·unfold Instr.typeAssert
    simp only [Sem.run_bind,run_under hu,Result.andThen]
    cases d <;> first | exact absurd rfl (hni' _) | (cases ok <;> simp)
   ·cases ok with
    | true =>
     show VA ι S w (.tup [.d y,.d (.s (.bool true))]) (.tuple #[wrapV y vs,.bool true])
     unfold VA
     refine ⟨#[wrapV y vs,.bool true],rfl,?_⟩
     unfold VL
     refine ⟨_,[.bool true],rfl,(by unfold VA; exact hy),?_⟩
     unfold VL
     refine ⟨.bool true,[],rfl,?_,by unfold VL; rfl⟩
     unfold VA ValD CellsD; exact ⟨rfl,rfl⟩
    | false=>(show VA ι S w (.d y) _); unfold VA; exact hy
  ·rename_i hne
   split at he
   ·rename_i hok
    obtain ⟨z,hz,rfl⟩:=Option.map_eq_some_iff.1 he
    refine ⟨.tuple #[z,.bool false],?_,Steps.still hr rfl ?_⟩
    ·subst hok
     unfold Instr.typeAssert
     simp only [Sem.run_bind,run_under hu,Result.andThen]
     cases d <;> first | exact absurd rfl (hni' _) | (simp [hne,Sem.run_bind,run_zero hz,Result.andThen])
    ·have hz0:VA ι S w (fz0 h (ofV z)) z:=by
      unfold fz0
      split
      ·rename_i x hfz
       have:=fzVal_ok hr (Mono.refl _ _ _) (VA_ofV ι S w z) hfz (fun i hi=>by cases hi)
       unfold VA; exact this
      ·exact VA_ofV _ _ _ _
     show VA ι S w (.tup [fz0 h (ofV z),.d (.s (.bool false))]) (.tuple #[z,.bool false])
     unfold VA
     refine ⟨#[z,.bool false],rfl,?_⟩
     unfold VL
     refine ⟨z,[.bool false],rfl,hz0,?_⟩
     unfold VL
     refine ⟨.bool false,[],rfl,?_,by unfold VL; rfl⟩
     unfold VA ValD CellsD; exact ⟨rfl,rfl⟩
   ·cases he
 ·cases he
theorem ifcNil_ok {P:Program} {E:Env} {ι:Ix} {S:Sb} {h:Id→O} {w:World} (hr:RelH E ι S h w) {op:BinOp} {t:TypeId} {ox oy:Operand} {x y:A} {vx vy:Value} (hxi:x.isIfc=true) (hx:VA ι S w x vx) (hy:VA ι S w y vy) {e:Eff} (he:ifcNilE P op t y=some e) :
  ∃ u,(eqGuard op t ox oy vx vy).run P w = .ok () w∧(binOp op t vx vy).run P w = .ok u w∧Steps E ι S h w e u w:=by
 unfold ifcNilE at he
 split at he
 ·rename_i hc
  obtain ⟨hi,hn⟩:=hc
  obtain ⟨d,hu,hms,_⟩:=iface_of hi
  obtain ⟨ms,rfl⟩:=hms rfl
  have hvy:vy = .nilIface:=by
   unfold A.isNil at hn
   split at hn
   ·unfold VA ValD CellsD at hy
    simp only [List.cons.injEq,and_true] at hy
    exact hy.1
   ·cases hn
  have hvx:∃ t' v',vx = .iface t' v':=by
   unfold A.isIfc at hxi
   split at hxi
   ·unfold VA ValD CellsD at hx
    obtain ⟨vs,_,h2⟩:=hx
    simp only [List.cons.injEq,and_true] at h2
    exact ⟨_,_,h2⟩
   ·cases hxi
  obtain ⟨t',v',rfl⟩:=hvx
  subst hvy
  have hequal:(Op.equal t (.iface t' v') .nilIface).run P w = .ok false w:=by
   show (Op.equalIn (9999 + 1) t (.iface t' v') .nilIface).run P w=_
   unfold Op.equalIn
   simp only [Sem.run_bind,run_under hu,Result.andThen]
   rfl
  split at he
  ·simp only [Option.some.injEq] at he
   subst he
   refine ⟨.bool false,by simp [eqGuard],?_,Steps.still hr rfl ?_⟩
   ·simp [binOp,Sem.run_bind,hequal,Result.andThen]
   ·(show VA ι S w (.d (.s (.bool false))) _); unfold VA ValD CellsD; exact ⟨rfl,rfl⟩
  ·simp only [Option.some.injEq] at he
   subst he
   refine ⟨.bool true,by simp [eqGuard],?_,Steps.still hr rfl ?_⟩
   ·simp [binOp,Sem.run_bind,hequal,Result.andThen]
   ·(show VA ι S w (.d (.s (.bool true))) _); unfold VA ValD CellsD; exact ⟨rfl,rfl⟩
  ·cases he
 ·cases he
end
section
theorem VA_it {ι:Ix} {S:Sb} {w:World} {id:Id} {ver:Nat} {L:Loc} (h:ι id ver=some L):VA ι S w (.it id ver) (.pointer (some ⟨L.b,0,none⟩)):=by
 unfold VA; exact ⟨L,h,rfl⟩
theorem VA_bool (ι:Ix) (S:Sb) (w:World) (b:Bool):VA ι S w (.d (.s (.bool b))) (.bool b):=by unfold VA ValD CellsD; exact ⟨rfl,rfl⟩
theorem VA_int (ι:Ix) (S:Sb) (w:World) (k:IntKind) (b:Int):VA ι S w (.d (.s (.int k b))) (.int k b):=by unfold VA ValD CellsD; exact ⟨rfl,rfl⟩
theorem VA_tup1 {ι:Ix} {S:Sb} {w:World} {x:A} {u:Value} (h:VA ι S w x u):VA ι S w (.tup [x]) (.tuple #[u]):=by
 unfold VA; exact ⟨#[u],rfl,by unfold VL; exact ⟨u,[],rfl,h,by unfold VL; rfl⟩⟩
theorem VA_tup2 {ι:Ix} {S:Sb} {w:World} {x y:A} {u v:Value} (h:VA ι S w x u) (k:VA ι S w y v):VA ι S w (.tup [x,y]) (.tuple #[u,v]):=by
 unfold VA; exact ⟨#[u,v],rfl,by unfold VL; exact ⟨u,[v],rfl,h,by unfold VL; exact ⟨v,[],rfl,k,by unfold VL; rfl⟩⟩⟩
theorem VA_tup3 {ι:Ix} {S:Sb} {w:World} {x y z:A} {u v t:Value} (h:VA ι S w x u) (k:VA ι S w y v) (l:VA ι S w z t):VA ι S w (.tup [x,y,z]) (.tuple #[u,v,t]):=by
 unfold VA; exact ⟨#[u,v,t],rfl,by unfold VL; exact ⟨u,[v,t],rfl,h,by unfold VL; exact ⟨v,[t],rfl,k,by unfold VL; exact ⟨t,[],rfl,l,by unfold VL; rfl⟩⟩⟩⟩
theorem range_ok {P:Program} {E:Env} {ι:Ix} {S:Sb} {h:Id→O} {w:World} (hr:RelH E ι S h w) {id:Id} (hid:id.1=E.d) {t:TypeId} {x:A} {vx:Value} (hx:VA ι S w x vx) {e:Eff} (he:rangeE P h id t x=some e) :
  ∃ u w',(Instr.range t vx).run P w = .ok u w' ∧ Steps E ι S h w e u w':=by
 have fresh:∀ (o:O) (ob:Obj),o.ver=(h id).ver + 1→(∀ L:Loc,L.b=w.heap.size→ORel (ixNew ι id o.ver L) S E.base (w.alloc ob) id o)→∃ ι' S',Mono ι S w ι' S' (w.alloc ob)∧VA ι' S' (w.alloc ob) (.it id o.ver) (.pointer (some ⟨w.heap.size,0,none⟩))∧RelH E ι' S' (upd h id o) (w.alloc ob):=by
  intro o ob hv hob
  have hb:Below w.heap.size w (w.alloc ob):=(Below.refl _ _).alloc (Nat.le_refl _) _
  obtain ⟨m,k⟩:=hr.newObj id hid o ⟨w.heap.size,0,0,0⟩ hv rfl (by simp) hb (hob _ rfl)
  exact ⟨_,_,m,VA_it (ixNew_same _ _ _ _),k⟩
 have hnew:∀ ob:Obj,(w.alloc ob).heap[w.heap.size]? = some ob:=fun ob=>by (show (w.heap.push _)[w.heap.size]? = _); simp
 have hS:∀ o,¬ S w.heap.size o:=fun o ho=>absurd (hr.inw _ _ ho) (Nat.lt_irrefl _)
 unfold rangeE at he
 split at he
 ·rename_i s hu
  simp only [Option.some.injEq] at he
  subst he
  have hv:vx = .string s:=by unfold VA ValD CellsD at hx; simpa using hx.1
  subst hv
  obtain ⟨ι',S',m,k1,k2⟩:=fresh (.sit ((h id).ver + 1) s 0) (.stringIter s 0) rfl (fun L hL=>⟨L,ixNew_same _ _ _ _,by rw [hL]; exact hr.size,by rw [hL]; simp,by rw [hL]; exact hS,by rw [hL]; exact hnew _⟩)
  exact ⟨_,_,by simp [Instr.range,Sem.run_bind,run_under hu,Result.andThen],ι',S',m,k1,k2⟩
 ·rename_i kt el i ver hu
  split at he
  ·rename_i v es clock ho
   split at he
   ·rename_i hc
    obtain ⟨rfl,hlow,hne⟩:=hc
    simp only [Option.some.injEq] at he
    subst he
    obtain ⟨L0,ens,hL0,rfl,h3,h4,h5,h6,h7,h8⟩:=map_of hr ho hx
    obtain ⟨ι',S',m,k1,k2⟩:=fresh (.mit ((h id).ver + 1) (some (i,v)) clock ([],none) clock) (.mapIter (some L0.b) clock #[] clock) rfl (fun L hL=>⟨L,ixNew_same _ _ _ _,by rw [hL]; exact hr.size,by rw [hL]; simp,by rw [hL]; exact hS,some L0.b,⟨[],SameSeen.nil,by rw [hL]; exact hnew _⟩,L0,by
     unfold upto
     rw [if_pos hlow,ixNew_other (by rintro ⟨rfl,_⟩; exact hne rfl)]
     exact hL0,rfl⟩)
    exact ⟨_,_,by simp [Instr.range,Sem.run_bind,run_under hu,Result.andThen,run_get_map h6],ι',S',m,k1,k2⟩
   ·cases he
  ·cases he
 ·cases he
theorem str_of {E:Env} {ι:Ix} {S:Sb} {h:Id→O} {w:World} (hr:RelH E ι S h w) {id:Id} {ver:Nat} {s:ByteArray} {pos:Nat} (ho:h id = .sit ver s pos) {u:Value} (hv:VA ι S w (.it id ver) u) :
  ∃ L,ι id ver=some L∧u = .pointer (some ⟨L.b,0,none⟩)∧E.base ≤ L.b∧L.b < w.heap.size∧(∀ o,¬ S L.b o)∧w.heap[L.b]? = some (.stringIter s pos):=by
 unfold VA at hv
 obtain ⟨L,hL,rfl⟩:=hv
 have hob:=hr.objs id
 rw [ho] at hob
 obtain ⟨L',h1,h3,h4,h5,h6⟩:=hob
 rw [hL] at h1
 cases h1
 exact ⟨L,hL,rfl,h3,h4,h5,h6⟩
theorem mit_of {E:Env} {ι:Ix} {S:Sb} {h:Id→O} {w:World} (hr:RelH E ι S h w) {id m:Id} {ver mv since last clock:Nat} {seen:List Nat × Option Nat} {es:List (Nat × Value × A)} (ho:h id = .mit ver (some (m,mv)) since seen last) (hm:h m = .map mv es clock) {u:Value} (hv:VA ι S w (.it id ver) u) :
  ∃ L Lm ens,∃ sn:List Nat,ι id ver=some L∧u = .pointer (some ⟨L.b,0,none⟩)∧E.base ≤ L.b∧L.b < w.heap.size∧(∀ o,¬ S L.b o)∧w.heap[L.b]? = some (.mapIter (some Lm.b) since sn.toArray last)∧ι m mv=some Lm∧upto id.1 ι m mv=some Lm∧w.heap[Lm.b]? = some (.map ens clock)∧MapRel (upto m.1 ι) S w es ens.toList∧SameSeen seen sn:=by
 unfold VA at hv
 obtain ⟨L,hL,rfl⟩:=hv
 have hob:=hr.objs id
 rw [ho] at hob
 obtain ⟨L',h1,h3,h4,h5,mb,⟨sn,hsn,h6⟩,Lm,h7,h8⟩:=hob
 rw [hL] at h1
 cases h1
 subst h8
 have h7':ι m mv=some Lm:=(upto_less id.1 ι S w).ix _ _ _ h7
 obtain ⟨Lm',ens,g1,g2,g3,g4,g5,g6,g7,g8⟩:=map_of hr hm (u:=.map (some Lm.b)) (by unfold VA; exact ⟨Lm,h7',rfl⟩)
 rw [h7'] at g1
 cases g1
 exact ⟨L,Lm,ens,sn,hL,rfl,h3,h4,h5,h6,h7',h7,g6,g7,hsn⟩
theorem next_ok {P:Program} {E:Env} {ι:Ix} {S:Sb} {h:Id→O} {w:World} (hr:RelH E ι S h w) {x:A} {vx:Value} {str:Bool} {ty:TypeId} (hx:VA ι S w x vx) {e:Eff} (he:nextE h x str=some e) :
  ∃ u w',(Instr.next vx str ty).run P w = .ok u w' ∧ Steps E ι S h w e u w':=by
 unfold nextE at he
 split at he
 ·rename_i id ver
  split at he
  ·rename_i v s pos ho
   split at he
   ·rename_i hc
    obtain ⟨rfl,rfl⟩:=hc
    obtain ⟨L,hL,rfl,h3,h4,h5,h6⟩:=str_of hr ho hx
    split at he
    ·rename_i hlt
     simp only [Option.some.injEq] at he
     subst he
     obtain ⟨m,k⟩:=hr.reobj (w':=setB w L.b (.stringIter s (pos + (Utf8.decode s pos).2))) id (.sit v s (pos + (Utf8.decode s pos).2)) L (by rw [ho]; rfl) (by rw [ho]; exact hL) (by rw [ho]; rfl) h5 (setB_below hr.below h3) setB_size (fun b hb=>setB_other b hb) (fun _=>⟨L,hL,h3,by rw [setB_size]; exact h4,h5,setB_same h4⟩)
     refine ⟨.tuple #[.bool true,.int .i64 (pos:Nat),.int .i32 (Utf8.decode s pos).1],setB w L.b (.stringIter s (pos + (Utf8.decode s pos).2)),?_,ι,S,m,VA_tup3 (VA_bool _ _ _ _) (VA_int _ _ _ _ _) (VA_int _ _ _ _ _),k⟩
     simp [Instr.next,Sem.run_bind,run_get_str h6,Result.andThen,hlt,run_set_str _ h6,goInt]
    ·rename_i hlt
     simp only [Option.some.injEq] at he
     subst he
     refine ⟨.tuple #[.bool false],w,?_,Steps.still hr rfl (VA_tup1 (VA_bool _ _ _ _))⟩
     simp [Instr.next,Sem.run_bind,run_get_str h6,Result.andThen,hlt]
   ·cases he
  ·cases he
 ·cases he
theorem find_rel {ι:Ix} {S:Sb} {w:World} (b:Nat):∀ {es:List (Nat × Value × A)} {ms:List MapEntry},MapRel ι S w es ms→∀ {e:Nat × Value × A},es.find? (fun e=>e.1 == b)=some e→∃ m,ms.find? (fun m=>m.born == b)=some m∧m.key=e.2.1∧VA ι S w e.2.2 m.val
 | [],ms,h,e,he=>by simp at he
 | e0 :: es,ms,h,e,he=>by
  obtain ⟨m',ms',rfl,g1,g2,g3,g4⟩:=h
  simp only [List.find?_cons] at he ⊢
  rw [g1]
  cases hb:(e0.1 == b) with
  | true=>rw [hb] at he; simp only [Option.some.injEq] at he; subst he; exact ⟨m',rfl,g2,g3⟩
  | false=>rw [hb] at he; exact find_rel b g4 he
theorem entry_ok {P:Program} {E:Env} {ι:Ix} {S:Sb} {h:Id→O} {w:World} (hr:RelH E ι S h w) {x:A} {vx:Value} (hx:VA ι S w x vx) {e:Eff} (he:entryE h x=some e) :
  ∃ u,(Instr.entry vx).run P w = .ok u w∧Steps E ι S h w e u w:=by
 unfold entryE at he
 split at he
 ·rename_i id ver
  split at he
  ·rename_i v m mv since seen last ho
   split at he
   ·rename_i v' es clock hm
    split at he
    ·rename_i hc
     obtain ⟨rfl,rfl,rfl⟩:=hc
     split at he
     ·rename_i b hb
      obtain ⟨en,hf,rfl⟩:=Option.map_eq_some_iff.1 he
      obtain ⟨L,Lm,ens,sn,hL,rfl,h3,h4,h5,h6,h7,h7',h8,h9,hsn⟩:=mit_of hr ho hm hx
      obtain ⟨me,k1,k2,k3⟩:=find_rel b h9 hf
      obtain ⟨m2,r2⟩:=hr.reobj (w':=w) id (.mit v (some (m,mv)) since (seen.1,none) clock) L (by rw [ho]; rfl) (by rw [ho]; exact hL) (by rw [ho]; rfl) h5 hr.below rfl (fun _ _=>rfl) (fun mm=>⟨L,hL,h3,h4,h5,some Lm.b,⟨sn,hsn.less,h6⟩,Lm,h7',rfl⟩)
      refine ⟨.tuple #[me.key,me.val],?_,ι,S,m2,VA_tup2 (by rw [k2]; exact VA_ofV _ _ _ _) (VA_mono (upto_less _ _ _ _) _ _ k3),r2⟩
      have hb':sn.toArray.back? = some b:=by
       have:=hsn.2 b hb
       rw [← this]; simp [Array.back?,List.getLast?_eq_getElem?]
      have k1':ens.find? (fun m=>m.born == b)=some me:=by rw [← Array.find?_toList]; exact k1
      simp [Instr.entry,Sem.run_bind,run_get_it h6,Result.andThen,run_get_map h8,hb',k1']
     ·cases he
    ·cases he
   ·cases he
  ·cases he
 ·cases he
end
section
theorem lowA_ok {E:Env} {ι:Ix} {S S':Sb} {h:Id→O} {w:World} (hr:RelH E ι S h w) (m:Mono ι S w ι S' w) {k:Nat} {a a':A} {u:Value} {ids:List Id} (hv:VA ι S w a u) (hx:lowA h k a=some (a',ids)) (hf:FzAll ι S' h ids):VA (upto k ι) S' w a' u:=by
 unfold lowA at hx
 split at hx
 ·rename_i hlow
  simp only [Option.some.injEq,Prod.mk.injEq] at hx
  obtain ⟨rfl,rfl⟩:=hx
  exact VA_mono m.upto _ _ (VA_low a u hlow hv)
 ·obtain ⟨⟨x,i⟩,h1,h2⟩:=Option.map_eq_some_iff.1 hx
  simp only [Prod.mk.injEq] at h2
  obtain ⟨rfl,rfl⟩:=h2
  unfold VA
  exact fzVal_ok hr m hv h1 hf
theorem upds_frz_map {h:Id→O} {ids:List Id} {id:Id} {v clock:Nat} {es:List (Nat × Value × A)} (f:upds h (frz h ids) id=h id ∨ upds h (frz h ids) id=(h id).freeze) (ho:h id = .map v es clock):upds h (frz h ids) id = .map v es clock:=by
 rcases f with f | f
 ·rw [f,ho]
 ·rw [f,ho]; rfl
theorem run_stays {P:Program} {w:World} {old new:Value} (h:Instr.sameBits 10000 old new=true):(Instr.keyThatStays old new).run P w = .ok new w:=by
 unfold Instr.keyThatStays; rw [if_pos h]; rfl
theorem pair_snoc {es:List (Nat × Value × A)} {clock:Nat} {kv:Value} {a:A} (h1:∀ e ∈ es,e.1 < clock) (h2:es.Pairwise (fun a b=>a.1 ≠ b.1)):(es ++ [(clock,kv,a)]).Pairwise (fun a b=>a.1 ≠ b.1):=by
 rw [List.pairwise_append]
 exact ⟨h2,List.pairwise_singleton _ _,fun x hx y hy=>by rw [List.mem_singleton] at hy; subst hy; exact Nat.ne_of_lt (h1 x hx)⟩
theorem pair_set {es:List (Nat × Value × A)} {i:Nat} {e:Nat × Value × A} (he:es[i]? = some e) {kv:Value} {a:A} (h2:es.Pairwise (fun a b=>a.1 ≠ b.1)):(es.set i (e.1,kv,a)).Pairwise (fun a b=>a.1 ≠ b.1):=by
 have:(es.set i (e.1,kv,a)).map (·.1)=es.map (·.1):=by
  apply List.ext_getElem?
  intro j
  rw [List.getElem?_map,List.getElem?_set,List.getElem?_map]
  by_cases hij:i=j
  ·subst hij
   rw [he]
   have:=(List.getElem?_eq_some_iff.1 he).1
   simp [this]
  ·simp [hij]
 have h3:(es.map (·.1)).Pairwise (· ≠ ·):=List.pairwise_map.2 h2
 rw [← this] at h3
 exact List.pairwise_map.1 h3
theorem mapPut_ok {P:Program} {E:Env} {ι:Ix} {S:Sb} {h:Id→O} {w:World} (hr:RelH E ι S h w) {t:TypeId} {m k x:A} {vm vk vx:Value} (hm:VA ι S w m vm) (hk:VA ι S w k vk) (hx:VA ι S w x vx) {e:Eff} (he:mapPutE P h t m k x=some e) :
  ∃ w',(Instr.mapUpdate t vm vk vx).run P w = .ok () w' ∧ Steps E ι S h w e undef w':=by
 unfold mapPutE at he
 split at he
 ·rename_i kt el id ver kv hu hkv
  split at he
  ·rename_i v es clock a ids ho hlow
   split at he
   ·rename_i e0; subst e0
    have e1:=exact_spec hk hkv
    subst e1
    obtain ⟨S1,m1,r1,f1,f2⟩:=RelH.freezeL (h0:=h) ids (fun _=>Or.inl rfl) hr
    have ha:=lowA_ok hr m1 hx hlow f1
    have ho1:=upds_frz_map (f2 id) ho
    obtain ⟨L,ens,hL,rfl,h3,h4,h5,h6,h7,h8,h9⟩:=map_of r1 ho1 (VA_mono m1 _ _ hm)
    have und:∀ (ι':Ix) (S':Sb) (w':World),VA ι' S' w' (.d (.s undef)) undef:=fun _ _ _=>by unfold VA ValD CellsD; exact ⟨rfl,rfl⟩
    split at he
    ·rename_i un i hc hf
     split at he
     ·rename_i en hen
      split at he
      ·rename_i hsame
       simp only [Option.some.injEq] at he
       subst he
       obtain ⟨r',g1,g2,g3⟩:=findKey_keys (MapRel_keys h7) hf
       cases r' with
       | none=>cases g2
       | some p =>
        obtain ⟨j,vv⟩:=p
        simp only [Option.map_some,Option.some.injEq] at g2
        subst g2
        obtain ⟨me,k1,rfl⟩:=g3 j vv rfl
        obtain ⟨en',k2,k3,k4,k5⟩:=MapRel_get h7 k1
        rw [hen] at k2
        cases k2
        have k1':ens[j]? = some me:=by rw [← Array.getElem?_toList]; exact k1
        have hms:(ens.modify j fun e=>{ e with key:=vk,val:=vx }).toList=ens.toList.set j { me with key:=vk,val:=vx }:=by
         rw [Array.toList_modify,ChangeMaps.modify_eq_set _ _ _ _ k1]
        obtain ⟨m2,r2⟩:=r1.reobj (w':=setB w L.b (.map (ens.modify j fun e=>{ e with key:=vk,val:=vx }) clock)) id (.map v (es.set j (en.1,vk,a)) clock) L (by rw [ho1]; rfl) (by rw [ho1]; exact hL) (by rw [ho1]; rfl) h5 (setB_below r1.below h3) setB_size (fun b hb=>setB_other b hb)
         (fun mm=>⟨L,hL,h3,by rw [setB_size]; exact h4,h5,_,setB_same h4,by rw [hms]; exact MapRel_set (MapRel_mono mm.upto h7) j _ _ k3 rfl (VA_mono mm.upto _ _ ha),fun e' he'=>by
          rcases List.mem_or_eq_of_mem_set he' with h' | h'
          ·exact h8 e' h'
          ·rw [h']; exact h8 en (List.mem_of_getElem? hen),pair_set hen h9⟩)
        refine ⟨setB w L.b (.map (ens.modify j fun e=>{ e with key:=vk,val:=vx }) clock),?_,ι,S1,m1.trans m2,und _ _ _,by show RelH E ι S1 (upds h _) _; rw [upds_append]; exact r2⟩
        unfold Instr.mapUpdate
        simp only [Sem.run_bind,run_under hu,Result.andThen,run_get_map h6,pureRun_run hc,pureRun_run g1,k1',Option.map_some,Option.getD_some]
        rw [k4,run_stays hsame]
        simp only [Result.andThen,run_set_map _ h6]
      ·cases he
     ·cases he
    ·rename_i un hc hf
     simp only [Option.some.injEq] at he
     subst he
     obtain ⟨r',g1,g2,g3⟩:=findKey_keys (MapRel_keys h7) hf
     cases r' with
     | some p=>cases g2
     | none =>
      obtain ⟨m2,r2⟩:=r1.reobj (w':=setB w L.b (.map (ens.push { key:=vk,val:=vx,born:=clock }) (clock + 1))) id (.map v (es ++ [(clock,vk,a)]) (clock + 1)) L (by rw [ho1]; rfl) (by rw [ho1]; exact hL) (by rw [ho1]; rfl) h5 (setB_below r1.below h3) setB_size (fun b hb=>setB_other b hb)
       (fun mm=>⟨L,hL,h3,by rw [setB_size]; exact h4,h5,_,setB_same h4,by rw [Array.toList_push]; exact MapRel_snoc (MapRel_mono mm.upto h7) _ _ rfl rfl (VA_mono mm.upto _ _ ha),fun e' he'=>by
        rcases List.mem_append.1 he' with h' | h'
        ·exact Nat.lt_succ_of_lt (h8 e' h')
        ·rw [List.mem_singleton] at h'; subst h'; exact Nat.lt_succ_self _,pair_snoc h8 h9⟩)
      refine ⟨setB w L.b (.map (ens.push { key:=vk,val:=vx,born:=clock }) (clock + 1)),?_,ι,S1,m1.trans m2,und _ _ _,by show RelH E ι S1 (upds h _) _; rw [upds_append]; exact r2⟩
      unfold Instr.mapUpdate
      simp only [Sem.run_bind,run_under hu,Result.andThen,run_get_map h6,pureRun_run hc,pureRun_run g1,run_set_map _ h6]
    ·cases he
   ·cases he
  ·cases he
 ·cases he
theorem RelH.drew {E:Env} {ι:Ix} {S:Sb} {h:Id→O} {w:World} (hr:RelH E ι S h w):Mono ι S w ι S w.drew∧RelH E ι S h w.drew :=
 hr.grow (w':=w.drew) ⟨rfl,rfl,rfl,Nat.le_refl _,fun _ _=>rfl⟩ (fun _ _ h=>h) (fun b o h=>⟨Or.inl h,hr.inw b o h⟩)
theorem filter_rel {ι:Ix} {S:Sb} {w:World} (p:Nat→Bool):∀ {es:List (Nat × Value × A)} {ms:List MapEntry},MapRel ι S w es ms→MapRel ι S w (es.filter fun e=>p e.1) (ms.filter fun m=>p m.born)
 | [],ms,h=>by unfold MapRel at h; subst h; simp; unfold MapRel; rfl
 | e :: es,ms,h=>by
  obtain ⟨m',ms',rfl,g1,g2,g3,g4⟩:=h
  simp only [List.filter_cons]
  rw [g1]
  cases p e.1 with
  | true=>exact ⟨m',_,rfl,g1,g2,g3,filter_rel p g4⟩
  | false=>exact filter_rel p g4
theorem nexts_ok {P:Program} {E:Env} {ι:Ix} {S:Sb} {h:Id→O} {w:World} (hr:RelH E ι S h w) {x:A} {vx:Value} {ty:TypeId} (hx:VA ι S w x vx) {l:List Eff} (he:nextsE h x=some l) :
  ∃ e ∈ l,∃ u w',(Instr.next vx false ty).run P w = .ok u w' ∧ Steps E ι S h w e u w':=by
 unfold nextsE at he
 split at he
 ·rename_i id ver
  split at he
  ·rename_i v m mv since seen last ho
   split at he
   ·rename_i v' es clock hm
    split at he
    ·rename_i hc
     obtain ⟨rfl,rfl,hall,hsl⟩:=hc
     simp only [Option.some.injEq] at he
     subst he
     obtain ⟨L,Lm,ens,sn,hL,rfl,h3,h4,h5,h6,h7,h7',h8,h9,hsn⟩:=mit_of hr ho hm hx
     have hold:∀ me ∈ ens.toList,me.born < since:=fun me hme=>by
      obtain ⟨i,hi,rfl⟩:=List.getElem_of_mem hme
      obtain ⟨en,k2,k3,k4,k5⟩:=MapRel_get h9 (List.getElem?_eq_getElem hi)
      rw [k3]
      simpa using List.all_eq_true.1 hall en (List.mem_of_getElem? k2)
     have hleft:(leftOf ens sn.toArray).toList=ens.toList.filter fun e=>!seen.1.contains e.born:=by
      unfold leftOf
      rw [Array.toList_filter]
      congr 1
      funext e
      rw [hsn.1]
      simp
     have hrel:MapRel (upto m.1 ι) S w (es.filter fun e=>!seen.1.contains e.1) (ens.toList.filter fun e=>!seen.1.contains e.born):=filter_rel (fun b=>!seen.1.contains b) h9
     rcases run_next_at (P:=P) w ty L.b Lm.b since last sn.toArray ens clock h6 h8 hold hsl with ⟨g1,g2⟩ | ⟨me,g1,w1,g2,g3⟩
     ·have hnil:es.filter (fun e=>!seen.1.contains e.1)=[]:=by
       have:=MapRel_len hrel
       rw [← hleft] at this
       simp only [Array.length_toList] at this
       rw [g1] at this
       exact List.length_eq_zero_iff.1 this.symm
      refine ⟨{ v:=.tup [.d (.s (.bool false))],rd:=[id,m] },?_,.tuple #[.bool false],w,g2,Steps.still hr rfl (VA_tup1 (VA_bool _ _ _ _))⟩
      rw [hnil]; simp
     ·rw [hleft] at g1
      obtain ⟨i,hi,he'⟩:=List.getElem_of_mem g1
      obtain ⟨en,k2,k3,k4,k5⟩:=MapRel_get hrel (List.getElem?_eq_getElem hi)
      rw [he'] at k3 k4 k5
      have hmem:en ∈ es.filter fun e=>!seen.1.contains e.1:=List.mem_of_getElem? k2
      have hne:(es.filter fun e=>!seen.1.contains e.1).isEmpty=false:=by
       cases hq:es.filter fun e=>!seen.1.contains e.1 with
       | nil=>rw [hq] at hmem; cases hmem
       | cons a b=>rfl
      have key:Mono ι S w ι S w1∧RelH E ι S h w1:=by
       rcases g2 with rfl | rfl
       ·exact ⟨Mono.refl _ _ _,hr⟩
       ·exact hr.drew
      have hheap:w1.heap=w.heap:=by rcases g2 with rfl | rfl <;> rfl
      obtain ⟨m2,r2⟩:=key.2.reobj (w':=setB w1 L.b (.mapIter (some Lm.b) since (sn.toArray.push me.born) clock)) id (.mit v (some (m,mv)) since (sIns en.1 seen.1,some en.1) clock) L (by rw [ho]; rfl) (by rw [ho]; exact hL) (by rw [ho]; rfl) h5 (setB_below key.2.below h3) setB_size (fun b hb=>setB_other b hb)
       (fun mm=>⟨L,hL,h3,by rw [setB_size,hheap]; exact h4,h5,some Lm.b,⟨sn ++ [en.1],hsn.push _,by rw [setB_same (by rw [hheap]; exact h4),k3]; simp⟩,Lm,h7',rfl⟩)
      refine ⟨{ v:=.tup [.d (.s (.bool true)),ofV en.2.1,en.2.2],rd:=[id,m],wr:=[(id,.mit v (some (m,mv)) since (sIns en.1 seen.1,some en.1) clock)] },?_,_,_,g3,ι,S,key.1.trans m2,?_,r2⟩
      ·rw [hne]
       simp only [Bool.false_eq_true,if_false]
       exact List.mem_map.2 ⟨en,hmem,rfl⟩
      ·exact VA_tup3 (VA_bool _ _ _ _) (by rw [k4]; exact VA_ofV _ _ _ _) (VA_mono ((upto_less m.1 ι S w).trans (key.1.trans m2)) _ _ k5)
    ·cases he
   ·cases he
  ·cases he
 ·cases he
end
section
theorem bool_of {ι:Ix} {S:Sb} {w:World} {x:A} {u:Value} {b:Bool} (h:VA ι S w x u) (hx:x.bool? = some b):u = .bool b:=by
 unfold A.bool? at hx
 split at hx
 ·simp only [Option.some.injEq] at hx
  subst hx
  unfold VA ValD CellsD at h
  simp only [List.cons.injEq,and_true] at h
  exact h.1
 ·cases hx
theorem VL_app {ι:Ix} {S:Sb} {w:World}:∀ {xs ys:List A} {us vs:List Value},VL ι S w xs us→VL ι S w ys vs→VL ι S w (xs ++ ys) (us ++ vs)
 | [],ys,us,vs,h,k=>by
  unfold VL at h
  subst h
  exact k
 | x :: xs,ys,us,vs,h,k=>by
  unfold VL at h
  obtain ⟨u,us',rfl,h1,h2⟩:=h
  simp only [List.cons_append]
  unfold VL
  exact ⟨u,us' ++ vs,rfl,h1,VL_app h2 k⟩
theorem newMap_ok {E:Env} {ι:Ix} {S:Sb} {h:Id→O} {w:World} (hr:RelH E ι S h w) {id:Id} (hid:id.1=E.d) :
  Steps E ι S h w { v:=.mp id ((h id).ver + 1),rd:=[id],wr:=[(id,.map ((h id).ver + 1) [] 0)] } (.map (some w.heap.size)) (w.alloc (.map #[] 0)):=by
 have hb:Below w.heap.size w (w.alloc (.map #[] 0)):=(Below.refl _ _).alloc (Nat.le_refl _) _
 obtain ⟨m,k⟩:=hr.newObj id hid (.map ((h id).ver + 1) [] 0) ⟨w.heap.size,0,0,0⟩ rfl rfl (by simp) hb (by
  refine ⟨_,ixNew_same _ _ _ _,hr.size,by simp,fun o ho=>absurd (hr.inw _ _ ho) (Nat.lt_irrefl _),#[],(by show (w.heap.push _)[w.heap.size]? = _; simp),rfl,(fun e he=>by cases he),List.Pairwise.nil⟩)
 refine ⟨_,_,m,?_,k⟩
 show VA _ _ _ (.mp id ((h id).ver + 1)) _
 unfold VA
 exact ⟨_,ixNew_same _ _ _ _,rfl⟩
theorem run_new {P:Program} {w:World} (t:TypeId) (c:Array Value):(newRow t c).run P w = .ok ⟨w.heap.size,0,none⟩ (w.alloc (.cells c t)):=by simp [newRow]
set_option maxHeartbeats 1000000 in
theorem op_wp {P:Program} {I:World→Prop} {X:Orc} (hX:Sound P I X) {E:Env} (hE:EnvOk I E) {ι:Ix} {S:Sb} {w:World} {st:St} {a:Act} {o:Oper} {e:Eff} (ht:RelT E ι S w st a) (hr:RelH E ι S st.h w) (hd:dstOk st.n o.dst=true) {id:Id} (hid:id.1=E.d)
  (he:opE P X st.d st.ev st.h id o=some e) {K:Act→World→Prop} {Q:Exit→Act→World→Prop}
  (hK:∀ ι' S' w' a',RelT E ι' S' w' (st.put o.dst e) a'→RelH E ι' S' (st.put o.dst e).h w'→K a' w'):o.wp P a w K Q:=by
 have exact_case:exactE P st.ev o=some e→(∀ cs b,o.op ≠ .select cs b)→o.wp P a w K Q:=fun h hs=>by
  obtain ⟨u,h1,h2⟩:=exactE_ok ht hr hs h
  exact wp_value ht hd h1 h2 hK
 unfold opE at he
 split at he
 ·rename_i x hop
  simp only [Option.some.injEq] at he
  subst he
  exact wp_value ht hd (u:=a.eval x) (by simp [execOp,hop]) (Steps.still hr rfl (ev_VA ht x)) hK
 ·rename_i x hop
  simp only [Option.some.injEq] at he
  subst he
  exact wp_value ht hd (u:=a.eval x) (by simp [execOp,hop]) (Steps.still hr rfl (ev_VA ht x)) hK
 ·rename_i c x y hop
  split at he
  ·rename_i h1
   have hb:=bool_of (ev_VA ht c) h1
   simp only [Option.some.injEq] at he
   subst he
   exact wp_value ht hd (u:=a.eval x) (by simp [execOp,hop,hb,asBool]) (Steps.still hr rfl (ev_VA ht x)) hK
  ·split at he
   ·rename_i h1
    have hb:=bool_of (ev_VA ht c) h1
    simp only [Option.some.injEq] at he
    subst he
    exact wp_value ht hd (u:=a.eval y) (by simp [execOp,hop,hb,asBool]) (Steps.still hr rfl (ev_VA ht y)) hK
   ·cases he
 ·rename_i t hop
  obtain ⟨z,h1,rfl⟩:=Option.map_eq_some_iff.1 he
  have:=box_ok hr id hid (z.cells.toList.map ofCell) z.cells.toList t (VL_ofCell _ _ _ _)
  refine wp_value ht hd ?_ this hK
  simp [execOp,hop,Instr.alloc,run_zero h1,newVar,run_new]
 ·rename_i t x hop
  split at he
  ·rename_i hc
   simp only [Option.some.injEq] at he
   subst he
   have hvl:=VA_cells (ev_VA ht x) (all_one_ne_any hc.2)
   have:=box_ok hr id hid (st.ev x).cells (a.eval x).cells.toList t hvl
   refine wp_value ht hd ?_ this hK
   simp [execOp,hop,Instr.box,newVar,run_new]
  ·cases he
 ·rename_i t parts hop
  obtain ⟨y,h1,rfl⟩:=Option.map_eq_some_iff.1 he
  obtain ⟨u,h2,h3⟩:=build_ok (P:=P) (vparts:=parts.map fun p=>(p.1,a.eval p.2)) (by simpa using VP_map ht parts.toList) h1
  exact wp_value ht hd (u:=u) (by simp [execOp,hop,h2]) (Steps.still hr rfl h3) hK
 ·rename_i t len parts hop
  obtain ⟨u,w',h2,h3⟩:=buildSlice_ok (P:=P) (vparts:=parts.map fun p=>(p.1,a.eval p.2)) hr hid (by simpa using VP_map ht parts.toList) he
  exact wp_value ht hd (u:=u) (by simp [execOp,hop,h2]) h3 hK
 ·rename_i t x hop
  obtain ⟨u,h2,h3⟩:=load_ok (P:=P) hr (ev_VA ht x) he
  exact wp_value ht hd (u:=u) (by simp [execOp,hop,h2]) h3 hK
 ·rename_i t x y hop
  obtain ⟨w',h2,h3⟩:=store_ok (P:=P) hr (ev_VA ht x) (ev_VA ht y) he
  exact wp_skip' ht hd (by simp [execOp,hop,h2]) h3 hK
 ·rename_i s x f hop
  obtain ⟨u,h2,h3⟩:=fieldAddr_ok (P:=P) hr (ev_VA ht x) he
  exact wp_value ht hd (u:=u) (by simp [execOp,hop,h2]) h3 hK
 ·rename_i t x i hop
  obtain ⟨u,h2,h3⟩:=indexAddr_ok (P:=P) hr (ev_VA ht x) (ev_VA ht i) he
  exact wp_value ht hd (u:=u) (by simp [execOp,hop,h2]) h3 hK
 ·rename_i s x f hop
  obtain ⟨y,h1,rfl⟩:=Option.map_eq_some_iff.1 he
  obtain ⟨u,h2,h3⟩:=field_ok (P:=P) (ev_VA ht x) h1
  exact wp_value ht hd (u:=u) (by simp [execOp,hop,h2]) (Steps.still hr rfl h3) hK
 ·rename_i t x i hop
  split at he
  ·exact exact_case he (by rw [hop]; intros; simp)
  ·obtain ⟨y,h1,rfl⟩:=Option.map_eq_some_iff.1 he
   obtain ⟨u,h2,h3⟩:=index_ok (P:=P) (ev_VA ht x) (ev_VA ht i) h1
   exact wp_value ht hd (u:=u) (by simp [execOp,hop,h2]) (Steps.still hr rfl h3) hK
 ·rename_i t x lo hi mx hop
  split at he
  ·exact exact_case he (by rw [hop]; intros; simp)
  ·obtain ⟨u,h2,h3⟩:=slice_ok (P:=P) hr (ev_VA ht x) (OVA_map ht lo) (OVA_map ht hi) (OVA_map ht mx) he
   exact wp_value ht hd (u:=u) (by simp [execOp,hop,h2]) h3 hK
 ·rename_i src dst x hop
  split at he
  ·rename_i e' hex
   simp only [Option.some.injEq] at he
   subst he
   exact exact_case hex (by rw [hop]; intros; simp)
  ·obtain ⟨u,w',h2,h3⟩:=convert_ok (P:=P) hr hid (ev_VA ht x) he
   exact wp_value ht hd (u:=u) (by simp [execOp,hop,h2]) h3 hK
 ·rename_i t i hop
  split at he
  ·rename_i xs hx
   obtain ⟨y,h1,rfl⟩:=Option.map_eq_some_iff.1 he
   have hv:=ev_VA ht t
   rw [hx] at hv
   unfold VA at hv
   obtain ⟨us,hu,hvl⟩:=hv
   obtain ⟨l1,l2⟩:=VL_get.1 hvl
   simp only [Array.length_toList] at l1
   have hi:i < us.size:=by rw [← l1]; exact (List.getElem?_eq_some_iff.1 h1).1
   have hg:us[i]? = some us[i]:=Array.getElem?_eq_getElem hi
   exact wp_value ht hd (u:=us[i]) (by simp [execOp,hop,hu,Instr.extract,hg]) (Steps.still hr rfl (l2 i y us[i] h1 (by simp [hi]))) hK
  ·cases he
 ·rename_i x hop
  split at he
  ·rename_i hx
   simp only [Option.some.injEq] at he
   subst he
   have hv:=ev_VA ht x
   refine wp_value ht hd (u:=a.eval x) ?_ (Steps.still hr rfl hv) hK
   cases hex:st.ev x <;> rw [hex] at hx hv <;> first | (cases hx; done) | skip
   ·unfold VA at hv; obtain ⟨L,_,_,hu⟩:=hv; simp [execOp,hop,hu]
   ·unfold VA at hv; obtain ⟨L,_,hu⟩:=hv; simp [execOp,hop,hu]
   ·unfold VA at hv; obtain ⟨b,o,n,hu,_⟩:=hv; simp [execOp,hop,hu]
   ·unfold VA at hv; obtain ⟨us,hu,_⟩:=hv; simp [execOp,hop,hu]
   ·unfold VA at hv; obtain ⟨L,_,hu⟩:=hv; simp [execOp,hop,hu]
  ·exact exact_case he (by rw [hop]; intros; simp)
 ·rename_i fn first captured hop
  split at he
  ·rename_i f
   split at he
   ·rename_i hfe
    simp only [Option.some.injEq] at he
    subst he
    have hf0:first = #[]:=by simpa using hfe
    subst hf0
    refine wp_value ht hd (u:=.func (.func f) #[] (captured.map a.eval)) (by simp [execOp,hop,Instr.makeFunc]) (Steps.still hr rfl ?_) hK
    show VA _ _ _ (.clo _ _) _
    unfold VA
    exact ⟨_,rfl,by simpa using VL_map ht captured.toList⟩
   ·cases he
  ·cases he
 ·rename_i t r hop
  split at he
  ·rename_i hrn
   simp only [Option.some.injEq] at he
   subst he
   have hr0:r=none:=by cases r <;> simp_all
   subst hr0
   exact wp_value ht hd (u:=.map (some w.heap.size)) (w':=w.alloc (.map #[] 0)) (by simp [execOp,hop,Instr.makeMap]) (newMap_ok hr hid) hK
  ·cases he
 ·rename_i t x k ok hop
  split at he
  ·rename_i i v hm
   obtain ⟨u,h2,h3⟩:=lookup_ok (P:=P) hr (ev_VA ht x) (ev_VA ht k) he
   exact wp_value ht hd (u:=u) (by simp [execOp,hop,h2]) h3 hK
  ·exact exact_case he (by rw [hop]; intros; simp)
 ·rename_i t m k x hop
  obtain ⟨w',h2,h3⟩:=mapPut_ok (P:=P) hr (ev_VA ht m) (ev_VA ht k) (ev_VA ht x) he
  exact wp_skip' ht hd (by simp [execOp,hop,h2]) h3 hK
 ·rename_i t m k x hop
  obtain ⟨w',h2,h3⟩:=mapPut_ok (P:=P) hr (ev_VA ht m) (ev_VA ht k) (ev_VA ht x) he
  exact wp_skip' ht hd (by simp [execOp,hop,h2]) h3 hK
 ·rename_i t x hop
  obtain ⟨u,h2,h3⟩:=mkIfc_ok (P:=P) hr (ev_VA ht x) he
  exact wp_value ht hd (u:=u) (by simp [execOp,hop,h2]) h3 hK
 ·rename_i x xt t ok hop
  split at he
  ·rename_i ty y hm
   split at he
   ·rename_i e' hae
    simp only [Option.some.injEq] at he
    subst he
    have hv:=ev_VA ht x
    rw [hm] at hv
    obtain ⟨u,h2,h3⟩:=assert_ok (P:=P) (xt:=xt) hr hv hae
    exact wp_value ht hd (u:=u) (by simp [execOp,hop,h2]) h3 hK
   ·exact exact_case he (by rw [hop]; intros; simp)
  ·exact exact_case he (by rw [hop]; intros; simp)
 ·rename_i op t x y t' hop
  split at he
  ·rename_i hxi
   split at he
   ·rename_i e' hae
    simp only [Option.some.injEq] at he
    subst he
    obtain ⟨u,h1,h2,h3⟩:=ifcNil_ok (P:=P) (ox:=x) (oy:=y) hr hxi (ev_VA ht x) (ev_VA ht y) hae
    exact wp_value ht hd (u:=u) (by simp [execOp,hop,h1,h2,Result.andThen]) h3 hK
   ·exact exact_case he (by rw [hop]; intros; simp)
  ·exact exact_case he (by rw [hop]; intros; simp)
 ·rename_i t x hop
  obtain ⟨u,w',h2,h3⟩:=range_ok (P:=P) hr hid (ev_VA ht x) he
  exact wp_value ht hd (u:=u) (by simp [execOp,hop,h2]) h3 hK
 ·rename_i x str hop
  obtain ⟨u,w',h2,h3⟩:=next_ok (P:=P) (ty:=o.type) hr (ev_VA ht x) he
  exact wp_value ht hd (u:=u) (by simp [execOp,hop,h2]) h3 hK
 ·rename_i x hop
  obtain ⟨u,h2,h3⟩:=entry_ok (P:=P) hr (ev_VA ht x) he
  exact wp_value ht hd (u:=u) (by simp [execOp,hop,h2]) h3 hK
 ·rename_i c hop
  split at he
  ·rename_i hc
   split at he
   ·rename_i s x t t' hargs htys
    split at he
    ·rename_i hcond
     have hargs':c.args = #[s,x]:=by apply Array.ext'; exact hargs
     have htys':c.argTypes = #[t,t']:=by apply Array.ext'; exact htys
     obtain ⟨d',hd1,hd2⟩:∃ d',P.underlying t' = some d' ∧ slOrStr d' = true:=by
      unfold okSrc at hcond
      split at hcond
      ·rename_i d h'; exact ⟨d,h',hcond⟩
      ·cases hcond
     obtain ⟨u,w',h2,h3⟩:=append_ok (P:=P) (ty:=o.type) hr hid hd1 hd2 (ev_VA ht s) (ev_VA ht x) he
     refine wp_value ht hd (u:=u) ?_ h3 hK
     simp [execOp,hop,resolve,hc,invoke,builtin,hargs',htys',h2]
    ·cases he
   ·cases he
  ·rename_i hc
   split at he
   ·rename_i x t hargs htys
    split at he
    ·exact exact_case he (by rw [hop]; intros; simp)
    ·split at he
     ·rename_i htel
      obtain ⟨el,hel⟩:=Option.isSome_iff_exists.1 htel
      obtain ⟨n,h1,rfl⟩:=Option.map_eq_some_iff.1 he
      have hargs':c.args = #[x]:=by apply Array.ext'; exact hargs
      have htys':c.argTypes = #[t]:=by apply Array.ext'; exact htys
      obtain ⟨ad,cap,hv⟩:=len_ok (P:=P) (ev_VA ht x) h1
      refine wp_value ht hd (u:=.int .i64 n) ?_ (Steps.still hr rfl ?_) hK
      ·simp [execOp,hop,resolve,hc,invoke,builtin,hargs',htys',Builtin.len_,run_under (telem_under hel),hv,goInt]
      ·show VA _ _ _ (.d (.s _)) _
       unfold VA ValD CellsD
       exact ⟨rfl,rfl⟩
     ·have hargs':c.args = #[x]:=by apply Array.ext'; exact hargs
      have htys':c.argTypes = #[t]:=by apply Array.ext'; exact htys
      obtain ⟨u,h2,h3⟩:=lenMap_ok (P:=P) (ty:=o.type) hr (ev_VA ht x) he
      exact wp_value ht hd (u:=u) (by simp [execOp,hop,resolve,hc,invoke,builtin,hargs',htys',h2]) h3 hK
   ·cases he
  ·exact exact_case he (by rw [hop]; intros; simp)
  ·rename_i f hc
   refine call_wp hX hE ht hr hd (vs:=c.args.map a.eval) (fun hf=>?_) (by simpa using VL_map ht c.args.toList) hid he hK
   have:=hf (c.args.map a.eval) w
   simp [execOp,hop,resolve,hc,Act.eval,Deferred.ofValue,invoke,this]
  ·rename_i x hnf hc
   split at he
   ·rename_i f caps hx
    have hv:=ev_VA ht x
    rw [hx] at hv
    unfold VA at hv
    obtain ⟨us,hu,hcs⟩:=hv
    refine call_wp hX hE ht hr hd (vs:=c.args.map a.eval ++ us) (fun hf=>?_) ?_ hid he hK
    ·have:=hf (c.args.map a.eval ++ us) w
     simp [execOp,hop,resolve,hc,hu,Deferred.ofValue,invoke,this]
    ·simpa using VL_app (VL_map ht c.args.toList) hcs
   ·cases he
  ·cases he
 ·cases he
 ·rename_i hsel
  exact exact_case he (fun cs b h=>by simp_all)
end
section
theorem fzCell_loc {h h':Id→O} {a:A} {x:D} {ids:List Id} (hx:fzCell h a=some (x,ids)) (he:∀ i ∈ ids,h' i=h i):fzCell h' a=some (x,ids):=by
 cases a with
 | sl id ver off len =>
  have hid:id ∈ ids:=by
   unfold fzCell at hx
   simp only at hx
   split at hx
   ·split at hx
    ·simp only [Option.some.injEq,Prod.mk.injEq] at hx; rw [← hx.2]; simp
    ·cases hx
   ·cases hx
  unfold fzCell at *
  simp only at *
  rw [he id hid]; exact hx
 | _=>exact hx
theorem fzCells_loc {h h':Id→O}:∀ {l:List A} {xs:List D} {ids:List Id},fzCells h l=some (xs,ids)→(∀ i ∈ ids,h' i=h i)→fzCells h' l=some (xs,ids)
 | [],xs,ids,hx,_=>hx
 | a :: l,xs,ids,hx,he=>by
  unfold fzCells at hx
  split at hx
  ·rename_i x i ys j h1 h2
   split at hx
   ·rename_i hf
    simp only [Option.some.injEq,Prod.mk.injEq] at hx
    obtain ⟨rfl,rfl⟩:=hx
    unfold fzCells
    rw [fzCell_loc h1 (fun k hk=>he k (List.mem_append.2 (Or.inl hk))),fzCells_loc h2 (fun k hk=>he k (List.mem_append.2 (Or.inr hk)))]
    simp only [hf,if_true]
   ·cases hx
  ·cases hx
theorem fzVal_loc {h h':Id→O} {a:A} {x:D} {ids:List Id} (hx:fzVal h a=some (x,ids)) (he:∀ i ∈ ids,h' i=h i):fzVal h' a=some (x,ids):=by
 cases a with
 | agg cs =>
  simp only [fzVal] at hx ⊢
  obtain ⟨⟨xs,i⟩,h1,h2⟩:=Option.map_eq_some_iff.1 hx
  simp only [Prod.mk.injEq] at h2
  obtain ⟨rfl,rfl⟩:=h2
  rw [fzCells_loc h1 he]; rfl
 | _=>(simp only [fzVal] at hx ⊢; exact fzCell_loc hx he)
theorem frz_loc {h h':Id→O}:∀ {ids:List Id},(∀ i ∈ ids,h' i=h i)→frz h' ids=frz h ids
 | [],_=>rfl
 | i :: l,he=>by
  unfold frz
  rw [he i (by simp),frz_loc fun k hk=>he k (by simp [hk])]
theorem elems_loc {h h':Id→O} {a:A} {xs:List D} {ids:List Id} (hx:elemsOf h a=some (xs,ids)) (he:∀ i ∈ ids,h' i=h i):elemsOf h' a=some (xs,ids):=by
 cases a with
 | sl id ver off len =>
  have hid:id ∈ ids:=by
   unfold elemsOf at hx
   simp only at hx
   split at hx
   ·split at hx
    ·simp only [Option.some.injEq,Prod.mk.injEq] at hx; rw [← hx.2]; simp
    ·cases hx
   ·cases hx
  unfold elemsOf at *
  simp only at *
  rw [he id hid]; exact hx
 | d x =>
  cases x with
  | s v=>cases v <;> exact hx
  | _=>exact hx
 | _=>exact hx
theorem loadE_loc {P:Program} {h h':Id→O} {t:TypeId} {a:A} {e:Eff} (hx:loadE P h t a=some e) (he:∀ i ∈ e.rd,h' i=h i):loadE P h' t a=some e:=by
 cases a with
 | bp id ver off =>
  have hid:id ∈ e.rd:=by
   unfold loadE at hx
   simp only at hx
   split at hx
   ·split at hx
    ·obtain ⟨y,_,rfl⟩:=Option.map_eq_some_iff.1 hx; simp
    ·cases hx
   ·cases hx
  unfold loadE at *
  simp only at *
  rw [he id hid]; exact hx
 | op id ver i off =>
  have hid:id ∈ e.rd:=by
   unfold loadE at hx
   simp only at hx
   split at hx
   ·split at hx
    ·obtain ⟨x,_,hx⟩:=Option.bind_eq_some_iff.1 hx
     obtain ⟨y,_,rfl⟩:=Option.map_eq_some_iff.1 hx; simp
    ·cases hx
   ·cases hx
  unfold loadE at *
  simp only at *
  rw [he id hid]; exact hx
 | _=>exact hx
theorem lowCells_loc {h h':Id→O} {k:Nat}:∀ {l l':List A} {ids:List Id},lowCells h k l=some (l',ids)→(∀ i ∈ ids,h' i=h i)→lowCells h' k l=some (l',ids)
 | [],l',ids,hx,_=>hx
 | a :: l,l',ids,hx,he=>by
  unfold lowCells at hx
  split at hx
  ·cases hx
  ·rename_i l2 ids2 hl
   split at hx
   ·rename_i hlow
    simp only [Option.some.injEq,Prod.mk.injEq] at hx
    obtain ⟨rfl,rfl⟩:=hx
    unfold lowCells
    rw [lowCells_loc hl he]
    simp only [hlow,if_true]
   ·rename_i hlow
    split at hx
    ·rename_i x i hx1
     split at hx
     ·rename_i hf
      simp only [Option.some.injEq,Prod.mk.injEq] at hx
      obtain ⟨rfl,rfl⟩:=hx
      unfold lowCells
      rw [lowCells_loc hl (fun q hq=>he q (List.mem_append.2 (Or.inr hq)))]
      dsimp only
      rw [if_neg hlow,fzCell_loc hx1 (fun q hq=>he q (List.mem_append.2 (Or.inl hq)))]
      dsimp only
      rw [if_pos hf]
     ·cases hx
    ·cases hx
theorem adoptE_loc {P:Program} {h h':Id→O} {t:TypeId} {id:Id} {ver off:Nat} {x:A} {e:Eff} (hx:adoptE P h t id ver off x=some e) (he:∀ i ∈ e.rd,h' i=h i):adoptE P h' t id ver off x=some e:=by
 unfold adoptE at hx
 split at hx
 ·rename_i vid v len
  split at hx
  ·cases hx
  ·rename_i hlow
   split at hx
   ·rename_i bv cs v' n xs fz ho hov
    split at hx
    ·rename_i hc
     simp only [Option.some.injEq] at hx
     subst hx
     unfold adoptE
     simp only
     rw [if_neg hlow,he id (by simp),ho,he vid (by simp),hov]
     simp only
     rw [if_pos hc,he (adoptId id off) (by simp)]
    ·cases hx
   ·cases hx
 ·cases hx
theorem adoptE_none {P:Program} {h h':Id→O} {t:TypeId} {id:Id} {ver off:Nat} {x:A} (hx:adoptE P h t id ver off x=none) {l:List A} {ids:List Id} (hl:lowCells h id.1 x.cells=some (l,ids)) (h1:h' id=h id) (he:∀ i ∈ ids,h' i=h i):adoptE P h' t id ver off x=none:=by
 cases x with
 | sl vid v o len =>
  cases o with
  | succ o=>rfl
  | zero =>
   unfold adoptE at hx ⊢
   simp only at hx ⊢
   by_cases hlow:vid.1 ≤ id.1
   ·rw [if_pos hlow]
   ·rw [if_neg hlow] at hx ⊢
    have hvid:vid ∈ ids:=by
     simp only [A.cells,lowCells,A.low,hlow,decide_false,Bool.false_eq_true,if_false] at hl
     unfold fzCell at hl
     simp only at hl
     split at hl
     ·rename_i x i hf
      split at hf
      ·split at hf
       ·simp only [Option.some.injEq,Prod.mk.injEq] at hf
        split at hl
        ·simp only [Option.some.injEq,Prod.mk.injEq] at hl
         rw [← hl.2,← hf.2]; simp
        ·cases hl
       ·cases hf
      ·cases hf
     ·cases hl
    rw [h1,he vid hvid]
    split
    ·rename_i bv cs v' n xs fz ho hov
     rw [ho,hov] at hx
     simp only at hx
     split
     ·rename_i hc; rw [if_pos hc] at hx; cases hx
     ·rfl
    ·rfl
 | _=>rfl
theorem storeE_loc {P:Program} {h h':Id→O} {t:TypeId} {a x:A} {e:Eff} (hx:storeE P h t a x=some e) (he:∀ i ∈ e.rd,h' i=h i):storeE P h' t a x=some e:=by
 unfold storeE at *
 split at hx
 ·rename_i id ver off
  split at hx
  ·rename_i e' hae
   simp only [Option.some.injEq] at hx
   subst hx
   rw [adoptE_loc hae he]
  rename_i hno
  split at hx
  ·rename_i v cs n l ids ho hn hl
   split at hx
   ·rename_i hc
    simp only [Option.some.injEq] at hx
    subst hx
    have he':∀ i ∈ ids,h' i=h i:=fun i hi=>he i (by simp [hi])
    rw [adoptE_none hno hl (he id (by simp)) he',he id (by simp),ho,hn,lowCells_loc hl he']
    (try dsimp only)
    rw [if_pos hc,frz_loc he']
   ·cases hx
  ·cases hx
 ·cases hx
theorem argA_loc {h h':Id→O} {a x:A} {ids:List Id} (hx:argA h a=some (x,ids)) (he:∀ i ∈ ids,h' i=h i):argA h' a=some (x,ids):=by
 unfold argA at *
 split at hx
 ·exact hx
 ·exact hx
 ·obtain ⟨⟨y,i⟩,h1,h2⟩:=Option.map_eq_some_iff.1 hx
  simp only [Prod.mk.injEq] at h2
  obtain ⟨rfl,rfl⟩:=h2
  rw [fzCell_loc h1 he]; rfl
 ·obtain ⟨⟨y,i⟩,h1,h2⟩:=Option.map_eq_some_iff.1 hx
  simp only [Prod.mk.injEq] at h2
  obtain ⟨rfl,rfl⟩:=h2
  rw [fzCells_loc h1 he]; rfl
 ·exact hx
 ·exact hx
 ·exact hx
 ·cases hx
theorem argAs_loc {h h':Id→O}:∀ {l xs:List A} {ids:List Id},argAs h l=some (xs,ids)→(∀ i ∈ ids,h' i=h i)→argAs h' l=some (xs,ids)
 | [],xs,ids,hx,_=>hx
 | a :: l,xs,ids,hx,he=>by
  unfold argAs at hx
  split at hx
  ·rename_i x i ys j h1 h2
   simp only [Option.some.injEq,Prod.mk.injEq] at hx
   obtain ⟨rfl,rfl⟩:=hx
   unfold argAs
   rw [argA_loc h1 (fun k hk=>he k (List.mem_append.2 (Or.inl hk))),argAs_loc h2 (fun k hk=>he k (List.mem_append.2 (Or.inr hk)))]
  ·cases hx
theorem indexAddrE_loc {P:Program} {h h':Id→O} {t:TypeId} {a x:A} {e:Eff} (hx:indexAddrE P h t a x=some e) (he:∀ i ∈ e.rd,h' i=h i):indexAddrE P h' t a x=some e:=by
 unfold indexAddrE at *
 split at hx
 ·rename_i i el h1 h2
  split at hx
  ·exact hx
  ·exact hx
  ·split at hx
   ·rename_i v n xs fz ho
    split at hx
    ·rename_i hc
     simp only [Option.some.injEq] at hx
     subst hx
     simp only [he _ (List.mem_singleton.2 rfl),ho]
     rw [if_pos hc]
    ·cases hx
   ·cases hx
  ·cases hx
 ·exact hx
 ·cases hx
theorem sliceE_loc {P:Program} {h h':Id→O} {t:TypeId} {a:A} {lo hi mx:Option A} {e:Eff} (hx:sliceE P h t a lo hi mx=some e) (he:∀ i ∈ e.rd,h' i=h i):sliceE P h' t a lo hi mx=some e:=by
 unfold sliceE at *
 split at hx
 ·cases hx
 ·rename_i el h1
  split at hx
  ·cases hx
  ·rename_i sz h2
   split at hx
   ·exact hx
   ·exact hx
   ·split at hx
    ·rename_i v n xs fz l u ho hb
     split at hx
     ·rename_i hc
      simp only [Option.some.injEq] at hx
      subst hx
      simp only [he _ (List.mem_singleton.2 rfl),ho,hb]
      rw [if_pos hc]
     ·cases hx
    ·cases hx
   ·cases hx
theorem convertE_loc {P:Program} {h h':Id→O} {id:Id} {s d:TypeId} {a:A} {e:Eff} (hx:convertE P h id s d a=some e) (he:∀ i ∈ e.rd,h' i=h i):convertE P h' id s d a=some e:=by
 unfold convertE at *
 split at hx
 ·rename_i el h1 h2
  split at hx
  ·cases hx
  ·rename_i xs rd hel hne hxs
   obtain ⟨l,h3,rfl⟩:=Option.map_eq_some_iff.1 hx
   have:=elems_loc hxs he
   simp only [hel,this,h3]
   rfl
  ·cases hx
 ·rename_i el h1 h2
  split at hx
  ·simp only [Option.some.injEq] at hx
   subst hx
   simp only [he id (List.mem_singleton.2 rfl)]
  ·cases hx
 ·cases hx
theorem upds_at_same {α:Type} {g g':Id→α}:∀ (l:List (Id × α)) {i:Id},g' i=g i→upds g' l i=upds g l i
 | [],i,h=>h
 | (k,v) :: l,i,h=>by
  show upds (upd g' k v) l i=upds (upd g k v) l i
  refine upds_at_same l ?_
  unfold upd
  split
  ·rfl
  ·exact h
theorem refs_same {h h':Id→O}:∀ (n:Nat) {l:List Id},(∀ i ∈ refIds h n l,h' i=h i)→refIds h' n l=refIds h n l
 | n,[],_=>by cases n <;> rfl
 | 0,a :: l,_=>rfl
 | n + 1,a :: l,he=>by
  have h1:=idsH_same (h:=h) (h':=h') (l:=a :: l) fun i hi=>he i (List.mem_append_left _ hi)
  show (a :: l) ++ refIds h' n (idsH h' (a :: l))=_
  rw [h1.1,refs_same n fun i hi=>he i (List.mem_append_right _ hi)]
  rfl
theorem all_same {α:Type} {p q:α→Bool}:∀ {l:List α},(∀ x ∈ l,p x=q x)→l.all p=l.all q
 | [],_=>rfl
 | a :: l,h=>by rw [List.all_cons,List.all_cons,h a List.mem_cons_self,all_same fun x hx=>h x (List.mem_cons_of_mem _ hx)]
theorem graph_same {h h':Id→O}:∀ {l:List Id},(∀ i ∈ l,h' i=h i)→graphOf h' l=graphOf h l
 | [],_=>rfl
 | a :: l,he=>by
  unfold graphOf
  rw [he a List.mem_cons_self,graph_same fun i hi=>he i (List.mem_cons_of_mem _ hi)]
theorem callE_loc {X:Orc} {d:Nat} {h h':Id→O} {id:Id} {f:FuncId} {l:List A} {e:Eff} (hx:callE X d h id f l=some e) (he:∀ i ∈ e.rd,h' i=h i) (hn:e.ra=true→h' = h):callE X d h' id f l=some e:=by
 unfold callE at *
 split at hx
 ·cases hx
 ·rename_i az ids hfz
  split at hx
  ·rename_i hp
   split at hx
   ·rename_i r h2 heq
    simp only [Option.some.injEq] at hx
    subst hx
    have he':∀ i ∈ ids,h' i=h i:=fun i hi=>he i (by simp [hi])
    rw [argAs_loc hfz he']
    dsimp only
    rw [if_pos hp,heq]
    dsimp only
    rw [frz_loc he',he id (by simp)]
   ·cases hx
  ·rename_i hp
   split at hx
   ·rename_i hcl
    split at hx
    ·rename_i r h2 heq
     simp only [Option.some.injEq] at hx
     subst hx
     have he:∀ i ∈ id :: (ids ++ reachIds (upds h (frz h ids)) 3 (idsL az)),h' i=h i:=he
     have he':∀ i ∈ ids,h' i=h i:=fun i hi=>he i (by simp [hi])
     have hR:∀ i ∈ reachIds (upds h (frz h ids)) 3 (idsL az),upds h' (frz h ids) i=upds h (frz h ids) i:=fun i hi=>upds_at_same _ (he i (List.mem_cons_of_mem _ (List.mem_append_right _ hi)))
     have hF:∀ i ∈ refIds (upds h (frz h ids)) 3 (idsL az),upds h' (frz h ids) i=upds h (frz h ids) i:=fun i hi=>hR i (refIds_sub _ 3 _ i hi)
     have hcan:canE (upds h' (frz h ids)) (refIds (upds h (frz h ids)) 3 (idsL az)) (reachIds (upds h (frz h ids)) 3 (idsL az))=canE (upds h (frz h ids)) (refIds (upds h (frz h ids)) 3 (idsL az)) (reachIds (upds h (frz h ids)) 3 (idsL az)):=by
      funext i
      unfold canE
      split
      ·rename_i hi; exact hF i (by simpa using hi)
      ·split
       ·rename_i hi; rw [hR i (by simpa using hi)]
       ·rfl
     rw [argAs_loc hfz he']
     dsimp only
     rw [if_neg hp,frz_loc he',refs_same 3 hF,reach_same 3 hF]
     have hcl':closedIn (upds h' (frz h ids)) (refIds (upds h (frz h ids)) 3 (idsL az))=true:=by
      rw [← hcl]
      unfold closedIn
      exact all_same fun i hi=>by rw [hF i hi]
     rw [if_pos hcl',hcan,heq]
     dsimp only
     generalize reachIds (upds h (frz h ids)) 3 (idsL az)=Rs at *
     generalize refIds (upds h (frz h ids)) 3 (idsL az)=F at *
     have hU:∀ i ∈ Rs,unmaskH (upds h' (frz h ids)) h2 F Rs i=unmaskH (upds h (frz h ids)) h2 F Rs i:=fun i hi=>by
      unfold unmaskH
      rw [hR i hi]
     have hv:verG h' (unmaskH (upds h' (frz h ids)) h2 F Rs) Rs id=verG h (unmaskH (upds h (frz h ids)) h2 F Rs) Rs id:=by
      unfold verG
      split
      ·rename_i hi; rw [hU id (by simpa using hi)]
      ·rw [he id List.mem_cons_self]
     unfold backG
     rw [hv,graph_same hU]
    ·cases hx
   ·cases hx
theorem buildSliceE_loc {P:Program} {h h':Id→O} {id:Id} {t:TypeId} {len:Nat} {parts:List (Nat × A)} {e:Eff} (hx:buildSliceE P h id t len parts=some e) (he:∀ i ∈ e.rd,h' i=h i):buildSliceE P h' id t len parts=some e:=by
 unfold buildSliceE at *
 split at hx
 ·cases hx
 ·split at hx
  ·split at hx
   ·rename_i hc
    split at hx
    ·cases hx
    ·rename_i cs hfill
     split at hx
     ·cases hx
     ·rename_i hone
      split at hx
      ·cases hx
      ·rename_i ds ids hfz
       simp only [Option.some.injEq] at hx
       subst hx
       have he':∀ i ∈ ids,h' i=h i:=fun i hi=>he i (by simp [hi])
       rw [if_pos hc]
       (try simp only [hfill])
       rw [if_neg hone,fzCells_loc hfz he']
       simp only [frz_loc he',he id (by simp)]
   ·cases hx
  ·cases hx
theorem appendE_loc {P:Program} {h h':Id→O} {id:Id} {t:TypeId} {s x:A} {e:Eff} (hx:appendE P h id t s x=some e) (he:∀ i ∈ e.rd,h' i=h i):appendE P h' id t s x=some e:=by
 unfold appendE at *
 split at hx
 ·cases hx
 ·rename_i el h1
  split at hx
  ·rename_i sz z ys rx hs hz hel
   split at hx
   ·rename_i hc
    split at hx
    ·rename_i xs
     split at hx
     ·rename_i hc1
      split at hx
      ·rename_i hc2
       simp only [Option.some.injEq] at hx
       subst hx
       rw [elems_loc hel he]
       simp only [hs,hz]
       rw [if_pos hc,if_pos hc1,if_pos hc2]
      ·rename_i hc2
       simp only [Option.some.injEq] at hx
       subst hx
       rw [elems_loc hel (fun i hi=>he i (by simp [hi]))]
       simp only [hs,hz]
       rw [if_pos hc,if_pos hc1,if_neg hc2,he id (by simp)]
     ·cases hx
    ·rename_i i ver off len
     split at hx
     ·rename_i v n xs fz ho
      split at hx
      ·rename_i hc1
       simp only [Option.some.injEq] at hx
       subst hx
       rw [elems_loc hel (fun i hi=>he i (by simp [hi]))]
       simp only [hs,hz]
       rw [if_pos hc,he i (by simp),ho]
       (try dsimp only)
       rw [if_pos hc1,he id (by simp)]
      ·cases hx
     ·cases hx
    ·cases hx
   ·cases hx
  ·cases hx
set_option maxHeartbeats 1000000 in
theorem nextE_loc {h h':Id→O} {x:A} {str:Bool} {e:Eff} (hx:nextE h x str=some e) (he:∀ i ∈ e.rd,h' i=h i):nextE h' x str=some e:=by
 cases x with
 | it id ver =>
  have hid:id ∈ e.rd:=by
   unfold nextE at hx
   simp only at hx
   split at hx
   ·split at hx
    ·split at hx <;> (simp only [Option.some.injEq] at hx; subst hx; simp)
    ·cases hx
   ·cases hx
  unfold nextE at *
  simp only at *
  rw [he id hid]; exact hx
 | _=>cases hx
theorem entryE_loc {h h':Id→O} {x:A} {e:Eff} (hx:entryE h x=some e) (he:∀ i ∈ e.rd,h' i=h i):entryE h' x=some e:=by
 unfold entryE at hx
 split at hx
 ·rename_i id ver
  split at hx
  ·rename_i v m mv since seen last ho
   split at hx
   ·rename_i v' es clock hm
    split at hx
    ·rename_i hc
     split at hx
     ·rename_i b hb
      obtain ⟨en,hf,rfl⟩:=Option.map_eq_some_iff.1 hx
      unfold entryE
      simp only
      rw [he id (by simp),ho]
      simp only
      rw [he m (by simp),hm]
      simp only
      rw [if_pos hc,hb]
      simp only
      rw [hf]; rfl
     ·cases hx
    ·cases hx
   ·cases hx
  ·cases hx
 ·cases hx
theorem lenMapE_loc {P:Program} {h h':Id→O} {t:TypeId} {x:A} {e:Eff} (hx:lenMapE P h t x=some e) (he:∀ i ∈ e.rd,h' i=h i):lenMapE P h' t x=some e:=by
 unfold lenMapE at hx
 split at hx
 ·rename_i kt el id ver hu
  split at hx
  ·rename_i v es clock ho
   split at hx
   ·rename_i hc
    simp only [Option.some.injEq] at hx
    subst hx
    unfold lenMapE
    rw [hu]
    simp only
    rw [he id (by simp),ho]
    simp only
    rw [if_pos hc]
   ·cases hx
  ·cases hx
 ·cases hx
theorem lookupE_loc {P:Program} {h h':Id→O} {t:TypeId} {x k:A} {ok:Bool} {e:Eff} (hx:lookupE P h t x k ok=some e) (he:∀ i ∈ e.rd,h' i=h i):lookupE P h' t x k ok=some e:=by
 unfold lookupE at hx
 split at hx
 ·rename_i kt el id ver kv hu hkv
  split at hx
  ·rename_i v es clock ho
   split at hx
   ·rename_i hc
    split at hx
    ·rename_i un i hck hf
     obtain ⟨en,hen,rfl⟩:=Option.map_eq_some_iff.1 hx
     unfold lookupE
     rw [hu,hkv]
     simp only
     rw [he id (by simp),ho]
     simp only
     rw [if_pos hc,hck,hf]
     simp only
     rw [hen]; rfl
    ·rename_i un z hck hf hz
     simp only [Option.some.injEq] at hx
     subst hx
     unfold lookupE
     rw [hu,hkv]
     simp only
     rw [he id (by simp),ho]
     simp only
     rw [if_pos hc,hck,hf,hz]
    ·cases hx
   ·cases hx
  ·cases hx
 ·cases hx
theorem lowA_loc {h h':Id→O} {k:Nat} {a a':A} {ids:List Id} (hx:lowA h k a=some (a',ids)) (he:∀ i ∈ ids,h' i=h i):lowA h' k a=some (a',ids):=by
 unfold lowA at *
 split at hx
 ·rename_i hl; rw [if_pos hl]; exact hx
 ·rename_i hl
  rw [if_neg hl]
  obtain ⟨⟨y,i⟩,h1,h2⟩:=Option.map_eq_some_iff.1 hx
  simp only [Prod.mk.injEq] at h2
  obtain ⟨rfl,rfl⟩:=h2
  rw [fzVal_loc h1 he]; rfl
theorem mapPutE_loc {P:Program} {h h':Id→O} {t:TypeId} {m k x:A} {e:Eff} (hx:mapPutE P h t m k x=some e) (he:∀ i ∈ e.rd,h' i=h i):mapPutE P h' t m k x=some e:=by
 unfold mapPutE at hx
 split at hx
 ·rename_i kt el id ver kv hu hkv
  split at hx
  ·rename_i v es clock a ids ho hlow
   split at hx
   ·rename_i hc
    split at hx
    ·rename_i un i hck hf
     split at hx
     ·rename_i en hen
      split at hx
      ·rename_i hsame
       simp only [Option.some.injEq] at hx
       subst hx
       unfold mapPutE
       rw [hu,hkv]
       simp only
       rw [he id (by simp),ho,lowA_loc hlow (fun i hi=>he i (by simp [hi]))]
       simp only
       rw [if_pos hc,hck,hf]
       simp only
       rw [hen]
       simp only
       rw [if_pos hsame,frz_loc (fun i hi=>he i (by simp [hi]))]
      ·cases hx
     ·cases hx
    ·rename_i un hck hf
     simp only [Option.some.injEq] at hx
     subst hx
     unfold mapPutE
     rw [hu,hkv]
     simp only
     rw [he id (by simp),ho,lowA_loc hlow (fun i hi=>he i (by simp [hi]))]
     simp only
     rw [if_pos hc,hck,hf]
     simp only
     rw [frz_loc (fun i hi=>he i (by simp [hi]))]
    ·cases hx
   ·cases hx
  ·cases hx
 ·cases hx
theorem mkIfcE_loc {P:Program} {h h':Id→O} {t:TypeId} {x:A} {e:Eff} (hx:mkIfcE P h t x=some e) (he:∀ i ∈ e.rd,h' i=h i):mkIfcE P h' t x=some e:=by
 unfold mkIfcE at *
 split at hx
 ·rename_i hi
  rw [if_pos hi]
  obtain ⟨⟨y,ids⟩,hfz,rfl⟩:=Option.map_eq_some_iff.1 hx
  rw [fzVal_loc hfz he]
  simp only [Option.map_some]
  rw [frz_loc he]
 ·cases hx
theorem rangeE_loc {P:Program} {h h':Id→O} {id:Id} {t:TypeId} {x:A} {e:Eff} (hx:rangeE P h id t x=some e) (he:∀ i ∈ e.rd,h' i=h i):rangeE P h' id t x=some e:=by
 unfold rangeE at hx
 split at hx
 ·rename_i s hu
  simp only [Option.some.injEq] at hx
  subst hx
  unfold rangeE
  rw [hu]
  simp only
  rw [he id (by simp)]
 ·rename_i kt el i ver hu
  split at hx
  ·rename_i v es clock ho
   split at hx
   ·rename_i hc
    simp only [Option.some.injEq] at hx
    subst hx
    unfold rangeE
    rw [hu]
    simp only
    rw [he i (by simp),ho]
    simp only
    rw [if_pos hc,he id (by simp)]
   ·cases hx
  ·cases hx
 ·cases hx
theorem fz0_loc (h h':Id→O) (a:A):fz0 h' a=fz0 h a:=by
 unfold fz0
 have none':∀ i ∈ ([]:List Id),h' i=h i:=fun i hi=>by cases hi
 have none'':∀ i ∈ ([]:List Id),h i=h' i:=fun i hi=>by cases hi
 cases e1:fzVal h a with
 | some p =>
  obtain ⟨x,ids⟩:=p
  cases ids with
  | nil=>rw [fzVal_loc e1 none']
  | cons i l =>
   cases e2:fzVal h' a with
   | none=>rfl
   | some q =>
    obtain ⟨y,ids'⟩:=q
    cases ids' with
    | nil=>rw [fzVal_loc e2 none''] at e1; cases e1
    | cons j m=>rfl
 | none =>
  cases e2:fzVal h' a with
  | none=>rfl
  | some q =>
   obtain ⟨y,ids'⟩:=q
   cases ids' with
   | nil=>rw [fzVal_loc e2 none''] at e1; cases e1
   | cons j m=>rfl
theorem assertE_loc (P:Program) (h h':Id→O) (t:TypeId) (y:D) (asserted:TypeId) (ok:Bool):assertE P h' t y asserted ok=assertE P h t y asserted ok:=by
 unfold assertE
 split
 ·split
  ·rfl
  ·split
   ·cases tzero P asserted with
    | none=>rfl
    | some z=>simp only [Option.map_some,fz0_loc h h' (ofV z)]
   ·rfl
 ·rfl
theorem opE_loc {P:Program} {X:Orc} {d:Nat} {ev ev':Operand→A} {h h':Id→O} {id:Id} {o:Oper} {e:Eff} (hx:opE P X d ev h id o=some e) (hev:∀ x ∈ o.op.operands,ev' x=ev x) (he:∀ i ∈ e.rd,h' i=h i) (hn:e.ra=true→h' = h):opE P X d ev' h' id o=some e:=by
 have hex:exactE P ev' o=exactE P ev o ∨ (∃ cs b,o.op = .select cs b):=by
  by_cases hs:∃ cs b,o.op = .select cs b
  ·exact Or.inr hs
  ·left
   unfold exactE exactOp
   have h1:(o.op.operands.all fun x=>(ev' x).exact.isSome)=(o.op.operands.all fun x=>(ev x).exact.isSome):=by
    rw [Bool.eq_iff_iff,Array.all_eq_true_iff_forall_mem,Array.all_eq_true_iff_forall_mem]
    constructor
    ·intro h x hx; rw [← hev x hx]; exact h x hx
    ·intro h x hx; rw [hev x hx]; exact h x hx
   have h2:execOp (fun x=>((ev' x).exact).getD undef) o=execOp (fun x=>((ev x).exact).getD undef) o:=execOp_congr o (fun cs b e=>hs ⟨cs,b,e⟩) fun x hx=>by simp only [hev x hx]
   rw [h1,h2]
 unfold opE at hx ⊢
 split at hx
 ·rename_i x hop; rw [hev x (by simp [hop,Op.operands])]; exact hx
 ·rename_i x hop; rw [hev x (by simp [hop,Op.operands])]; exact hx
 ·rename_i c x y hop
  rw [hev c (by simp [hop,Op.operands]),hev x (by simp [hop,Op.operands]),hev y (by simp [hop,Op.operands])]; exact hx
 ·rename_i t hop
  obtain ⟨z,h1,rfl⟩:=Option.map_eq_some_iff.1 hx
  rw [h1,Option.map_some,he id (by simp)]
 ·rename_i t x hop
  rw [hev x (by simp [hop,Op.operands])]
  split at hx
  ·rename_i hc
   simp only [Option.some.injEq] at hx
   subst hx
   rw [if_pos hc,he id (by simp)]
  ·cases hx
 ·rename_i t parts hop
  have:(parts.toList.map fun p=>(p.1,ev' p.2))=parts.toList.map fun p=>(p.1,ev p.2):=List.map_congr_left fun p hp=>by rw [hev p.2 (by simp [hop,Op.operands]; exact ⟨p.1,by simpa using hp⟩)]
  rw [this]; exact hx
 ·rename_i t len parts hop
  have:(parts.toList.map fun p=>(p.1,ev' p.2))=parts.toList.map fun p=>(p.1,ev p.2):=List.map_congr_left fun p hp=>by rw [hev p.2 (by simp [hop,Op.operands]; exact ⟨p.1,by simpa using hp⟩)]
  rw [this]; exact buildSliceE_loc hx he
 ·rename_i t x hop
  rw [hev x (by simp [hop,Op.operands])]; exact loadE_loc hx he
 ·rename_i t x y hop
  rw [hev x (by simp [hop,Op.operands]),hev y (by simp [hop,Op.operands])]; exact storeE_loc hx he
 ·rename_i s x f hop
  rw [hev x (by simp [hop,Op.operands])]; exact hx
 ·rename_i t x i hop
  rw [hev x (by simp [hop,Op.operands]),hev i (by simp [hop,Op.operands])]; exact indexAddrE_loc hx he
 ·rename_i s x f hop
  rw [hev x (by simp [hop,Op.operands])]; exact hx
 ·rename_i t x i hop
  have hex':exactE P ev' o=exactE P ev o:=by rcases hex with h | ⟨cs,b,h⟩; exact h; rw [hop] at h; cases h
  rw [hev x (by simp [hop,Op.operands]),hev i (by simp [hop,Op.operands]),hex']; exact hx
 ·rename_i t x lo hi mx hop
  have hex':exactE P ev' o=exactE P ev o:=by rcases hex with h | ⟨cs,b,h⟩; exact h; rw [hop] at h; cases h
  have h1:lo.map ev' = lo.map ev:=by cases lo with | none=>rfl | some y=>simp only [Option.map_some]; rw [hev y (by simp [hop,Op.operands])]
  have h2:hi.map ev' = hi.map ev:=by cases hi with | none=>rfl | some y=>simp only [Option.map_some]; rw [hev y (by simp [hop,Op.operands])]
  have h3:mx.map ev' = mx.map ev:=by cases mx with | none=>rfl | some y=>simp only [Option.map_some]; rw [hev y (by simp [hop,Op.operands])]
  rw [hev x (by simp [hop,Op.operands]),hex',h1,h2,h3]
  split at hx
  ·exact hx
  ·exact sliceE_loc hx he
 ·rename_i src dst x hop
  have hex':exactE P ev' o=exactE P ev o:=by rcases hex with h | ⟨cs,b,h⟩; exact h; rw [hop] at h; cases h
  rw [hev x (by simp [hop,Op.operands]),hex']
  split at hx
  ·exact hx
  ·exact convertE_loc hx he
 ·rename_i t i hop
  rw [hev t (by simp [hop,Op.operands])]; exact hx
 ·rename_i x hop
  have hex':exactE P ev' o=exactE P ev o:=by rcases hex with h | ⟨cs,b,h⟩; exact h; rw [hop] at h; cases h
  rw [hev x (by simp [hop,Op.operands]),hex']; exact hx
 ·rename_i fn first captured hop
  have:captured.toList.map ev' = captured.toList.map ev:=List.map_congr_left fun x hx=>hev x (by simp [hop,Op.operands]; exact Or.inr (by simpa using hx))
  rw [this]; exact hx
 ·rename_i t r hop
  split at hx
  ·rename_i hrn
   simp only [Option.some.injEq] at hx
   subst hx
   rw [if_pos hrn,he id (by simp)]
  ·cases hx
 ·rename_i t x k ok hop
  have hex':exactE P ev' o=exactE P ev o:=by rcases hex with h | ⟨cs,b,h⟩; exact h; rw [hop] at h; cases h
  rw [hev x (by simp [hop,Op.operands]),hev k (by simp [hop,Op.operands]),hex']
  split at hx
  ·rename_i i v hm
   rw [hm] at hx ⊢
   exact lookupE_loc hx he
  ·exact hx
 ·rename_i t m k x hop
  rw [hev m (by simp [hop,Op.operands]),hev k (by simp [hop,Op.operands]),hev x (by simp [hop,Op.operands])]; exact mapPutE_loc hx he
 ·rename_i t m k x hop
  rw [hev m (by simp [hop,Op.operands]),hev k (by simp [hop,Op.operands]),hev x (by simp [hop,Op.operands])]; exact mapPutE_loc hx he
 ·rename_i t x hop
  rw [hev x (by simp [hop,Op.operands])]; exact mkIfcE_loc hx he
 ·rename_i x xt t ok hop
  have hex':exactE P ev' o=exactE P ev o:=by rcases hex with h | ⟨cs,b,h⟩; exact h; rw [hop] at h; cases h
  rw [hev x (by simp [hop,Op.operands]),hex']
  simp only [assertE_loc P h h']
  exact hx
 ·rename_i op t x y t' hop
  have hex':exactE P ev' o=exactE P ev o:=by rcases hex with h | ⟨cs,b,h⟩; exact h; rw [hop] at h; cases h
  rw [hev x (by simp [hop,Op.operands]),hev y (by simp [hop,Op.operands]),hex']; exact hx
 ·rename_i t x hop
  rw [hev x (by simp [hop,Op.operands])]; exact rangeE_loc hx he
 ·rename_i x str hop
  rw [hev x (by simp [hop,Op.operands])]; exact nextE_loc hx he
 ·rename_i x hop
  rw [hev x (by simp [hop,Op.operands])]; exact entryE_loc hx he
 ·rename_i c hop
  have hex':exactE P ev' o=exactE P ev o:=by rcases hex with h | ⟨cs,b,h⟩; exact h; rw [hop] at h; cases h
  have harg:∀ x ∈ c.args,ev' x=ev x:=fun x hx=>hev x (by simp [hop,Op.operands,Call.operands,hx])
  split at hx
  ·rename_i hc
   split at hx
   ·rename_i s x t t' hargs htys
    have h1:s ∈ c.args:=by rw [← Array.mem_toList_iff,hargs]; simp
    have h2:x ∈ c.args:=by rw [← Array.mem_toList_iff,hargs]; simp
    rw [harg s h1,harg x h2]
    split at hx
    ·rename_i hc2
     rw [if_pos hc2]
     exact appendE_loc hx he
    ·cases hx
   ·cases hx
  ·rename_i hc
   split at hx
   ·rename_i x t hargs htys
    have h1:x ∈ c.args:=by rw [← Array.mem_toList_iff,hargs]; simp
    rw [harg x h1,hex']
    split at hx
    ·exact hx
    ·split at hx
     ·rename_i hsl; rw [if_pos hsl]; exact hx
     ·rename_i hsl; rw [if_neg hsl]; exact lenMapE_loc hx he
   ·cases hx
  ·rw [hex']; exact hx
  ·rename_i f hc
   have:c.args.toList.map ev' = c.args.toList.map ev:=List.map_congr_left fun x hx=>harg x (by simpa using hx)
   rw [this]; exact callE_loc hx he hn
  ·rename_i x hnf hc
   have:c.args.toList.map ev' = c.args.toList.map ev:=List.map_congr_left fun x hx=>harg x (by simpa using hx)
   rw [this,hev x (by simp [hop,Op.operands,Call.operands,hc])]
   split at hx
   ·rename_i f caps hxe
    exact callE_loc hx he hn
   ·cases hx
  ·cases hx
 ·cases hx
 ·rename_i hsel
  have hex':exactE P ev' o=exactE P ev o:=by rcases hex with h | ⟨cs,b,h⟩; exact h; simp_all
  rw [hex']; exact hx
end
end Go.Proofs.YtenoggjjhamdaaaGreatDoor
