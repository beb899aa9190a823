/-
  WHAT IS PROVED HERE: parts of the proof: In15 In16 In16R In16S In17.
-/
import Derived.Orders
import Derived.WalkKit
import Derived.LoopN
import Derived.Scope
import Derived.Test.YtenoggjjhamdaaaGreatDoorB04
set_option linter.all false
namespace Go.Proofs.YtenoggjjhamdaaaGreatDoor
open Go Go.RowKit
section
theorem wanted_of {E:Env} {ι:Ix} {S:Sb} {w:World} {ops:Array Oper} {st:St} {a:Act} (ht:RelT E ι S w st a) {o:Oper} {b:Bool} (h:wantedA ops st o=some b):Region.wanted o (yielded ops a.tmps)=b:=by
 unfold wantedA at h
 unfold Region.wanted
 split at h
 ·rename_i hg
  simp only [Option.some.injEq] at h
  rw [hg]; exact h
 ·rename_i j want hg
  rw [hg]
  simp only
  split at h
  ·rename_i d hd
   split at h
   ·rename_i hlt
    have hv:=ht.vals d hlt
    have hget:a.tmps[d]? = some (a.tmps.getD d undef):=by
     rw [Array.getD_eq_getD_getElem?,Array.getElem?_eq_getElem (by rw [ht.size]; exact hlt)]; rfl
    split at h
    ·rename_i c hc
     rw [hc] at hv
     unfold VA ValD CellsD at hv
     simp only [List.cons.injEq,and_true] at hv
     simp only [Option.some.injEq] at h
     unfold yielded
     rw [hd]
     simp only [Option.bind_some,hget,hv.1]
     rw [← h]
     cases c <;> cases want <;> rfl
    ·rename_i vs hc
     rw [hc] at hv
     unfold VA ValD CellsD at hv
     simp only [List.cons.injEq,and_true] at hv
     simp only [Option.some.injEq] at h
     unfold yielded
     rw [hd]
     simp only [Option.bind_some,hget,hv.1]
     rw [← h]
     cases want <;> rfl
    ·cases h
   ·cases h
  ·cases h
theorem step_wp {P:Program} {I:World→Prop} {X:Orc} (hX:Sound P I X) {E:Env} (hE:EnvOk I E) {ι:Ix} {S:Sb} {w:World} {st:St} {a:Act} {ops:Array Oper} {i:Nat} {o:Oper} (ho:ops[i]? = some o) {e:Eff} (ht:RelT E ι S w st a) (hr:RelH E ι S st.h w)
  (he:stepE P X ops o st=some e) {K:Act→World→Prop} {Q:Exit→Act→World→Prop}
  (hK:∀ ι' S' w' a',RelT E ι' S' w' (st.put o.dst e) a'→RelH E ι' S' (st.put o.dst e).h w'→K a' w'):wpOp P ops Q i K a w:=by
 unfold stepE at he
 split at he
 ·rename_i hd
  unfold wpOp
  rw [ho]
  simp only
  split at he
  ·rename_i hw
   rw [if_pos (wanted_of ht hw)]
   unfold chkE at he
   split at he
   ·rename_i e1 hop
    split at he
    ·simp only [Option.some.injEq] at he
     subst he
     exact Or.inl (op_wp hX hE ht hr hd (show (st.d,o.dst.getD st.n).1=E.d from ht.depth) hop hK)
    ·cases he
   ·cases he
  ·rename_i hw
   rw [if_neg (by rw [wanted_of ht hw]; simp)]
   simp only [Option.some.injEq] at he
   subst he
   refine hK ι S w _ (RelT_put ht (Mono.refl _ _ _) hd ?_) hr
   show VA _ _ _ (.d (.s undef)) undef
   unfold VA ValD CellsD
   exact ⟨rfl,rfl⟩
  ·cases he
 ·cases he
def effD:Eff:={ v:=.any }
def putK (ops:Array Oper) (es:List Eff) (k:Nat) (st:St):St:=st.put ((ops[k]?).bind (·.dst)) (es.getD k effD)
def acc (ops:Array Oper) (es:List Eff) (st:St) (Y:Nat→Bool):Nat→St
 | 0=>st
 | k + 1=>if Y k then putK ops es k (acc ops es st Y k) else acc ops es st Y k
theorem acc_congr {ops:Array Oper} {es:List Eff} {st:St} {Y Z:Nat→Bool}:∀ {n:Nat},(∀ k,k < n→Y k=Z k)→acc ops es st Y n=acc ops es st Z n
 | 0,_=>rfl
 | n + 1,h=>by
  unfold acc
  rw [acc_congr fun k hk=>h k (by omega),h n (by omega)]
theorem acc_n {ops:Array Oper} {es:List Eff} {st:St} {Y:Nat→Bool}:∀ n,(acc ops es st Y n).n=st.n∧(acc ops es st Y n).d=st.d∧(acc ops es st Y n).al=st.al
 | 0=>⟨rfl,rfl,rfl⟩
 | n + 1=>by
  unfold acc
  split
  ·exact acc_n n
  ·exact acc_n n
theorem upds_key {α:Type}:∀ (l:List (Id × α)) (T U:Id→α) (i:Id),(l.any fun p=>p.1 == i)=true→upds T l i=upds U l i
 | [],T,U,i,h=>by simp at h
 | (j,v) :: l,T,U,i,h=>by
  show upds (upd T j v) l i=upds (upd U j v) l i
  by_cases hl:(l.any fun p=>p.1 == i)=true
  ·exact upds_key l _ _ i hl
  ·have hj:j=i:=by
    simp only [List.any_cons,Bool.or_eq_true,beq_iff_eq] at h
    rcases h with h | h
    ·exact h
    ·exact absurd h hl
   subst hj
   have off:∀ (l:List (Id × α)) (T:Id→α),¬ (l.any fun p=>p.1 == j)=true→upds T l j=T j:=by
    intro l
    induction l with
    | nil=>intros; rfl
    | cons p l ih =>
     intro T hp
     obtain ⟨k,u⟩:=p
     simp only [List.any_cons,Bool.or_eq_true,beq_iff_eq,not_or] at hp
     show upds (upd T k u) l j=T j
     rw [ih _ hp.2]
     unfold upd
     rw [if_neg (fun e=>hp.1 e.symm)]
   rw [off l _ hl,off l _ hl]
   simp [upd]
theorem upds_off {α:Type}:∀ (l:List (Id × α)) (T:Id→α) (i:Id),(l.any fun p=>p.1 == i)=false→upds T l i=T i
 | [],T,i,h=>rfl
 | (j,v) :: l,T,i,h=>by
  simp only [List.any_cons,Bool.or_eq_false_iff,beq_eq_false_iff_ne,ne_eq] at h
  show upds (upd T j v) l i=T i
  rw [upds_off l _ i h.2]
  unfold upd
  rw [if_neg (fun e=>h.1 e.symm)]
def wrT (ops:Array Oper) (k t:Nat):Bool:=(ops[k]?).bind (·.dst) == some t
def wrE (e:Eff) (i:Id):Bool:=e.wr.any fun p=>p.1 == i
def wrH (es:List Eff) (k:Nat) (i:Id):Bool:=wrE (es.getD k effD) i
theorem out_key {e:Eff} {i:Id} {h h':Id→O} (hw:wrE e i=true ∨ h i=h' i):e.out h i=e.out h' i:=by
 unfold Eff.out
 by_cases hk:(e.wr.any fun p=>p.1 == i)=true
 ·exact upds_key _ _ _ _ hk
 ·have hk':(e.wr.any fun p=>p.1 == i)=false:=by rw [← Bool.not_eq_true]; exact hk
  rw [upds_off _ _ _ hk',upds_off _ _ _ hk']
  rcases hw with hw | hw
  ·unfold wrE at hw
   rw [hk'] at hw
   cases hw
  ·exact hw
theorem out_off {e:Eff} {i:Id} {h:Id→O} (hw:wrE e i=false):e.out h i=h i:=upds_off _ _ _ hw
theorem wr_loud {e:Eff} {i:Id} (h:wrE e i=true):e.wr.isEmpty=false:=by
 unfold wrE at h
 cases hx:e.wr with
 | nil=>rw [hx] at h; cases h
 | cons a l=>rfl
theorem conf_rd {a b:Eff} {i:Id} (h:wrE a i=true) (k:i ∈ b.rd ∨ b.ra=true):objConf a b=true:=by
 unfold objConf
 rcases k with k | k
 ·unfold wrE at h
  obtain ⟨p,hp,hpe⟩:=List.any_eq_true.1 h
  simp only [beq_iff_eq] at hpe
  have:(a.wr.any fun p=>b.rd.contains p.1 || b.wr.any fun q=>q.1 == p.1)=true:=List.any_eq_true.2 ⟨p,hp,by rw [hpe]; simp [k]⟩
  rw [this]; simp
 ·rw [k,wr_loud h]; simp
theorem conf_wr {a b:Eff} {i:Id} (h:wrE a i=true) (k:wrE b i=true):objConf a b=true:=by
 unfold wrE at h k
 obtain ⟨p,hp,hpe⟩:=List.any_eq_true.1 h
 obtain ⟨q,hq,hqe⟩:=List.any_eq_true.1 k
 simp only [beq_iff_eq] at hpe hqe
 have:(a.wr.any fun p=>b.rd.contains p.1 || b.wr.any fun q=>q.1 == p.1)=true:=List.any_eq_true.2 ⟨p,hp,by
  rw [Bool.or_eq_true]
  exact Or.inr (List.any_eq_true.2 ⟨q,hq,by rw [hpe,hqe]; simp⟩)⟩
 unfold objConf
 rw [this]; simp
theorem conf_symm (a b:Eff):objConf a b=objConf b a:=by
 rw [Bool.eq_iff_iff]
 unfold objConf
 simp only [Bool.or_eq_true,List.any_eq_true,List.contains_iff_mem,beq_iff_eq]
 constructor
 ·rintro (((h | h) | ⟨p,hp,h | ⟨q,hq,h⟩⟩) | ⟨p,hp,h⟩)
  ·exact Or.inl (Or.inl (Or.inr h))
  ·exact Or.inl (Or.inl (Or.inl h))
  ·exact Or.inr ⟨p,hp,h⟩
  ·exact Or.inl (Or.inr ⟨q,hq,Or.inr ⟨p,hp,h.symm⟩⟩)
  ·exact Or.inl (Or.inr ⟨p,hp,Or.inl h⟩)
 ·rintro (((h | h) | ⟨p,hp,h | ⟨q,hq,h⟩⟩) | ⟨p,hp,h⟩)
  ·exact Or.inl (Or.inl (Or.inr h))
  ·exact Or.inl (Or.inl (Or.inl h))
  ·exact Or.inr ⟨p,hp,h⟩
  ·exact Or.inl (Or.inr ⟨q,hq,Or.inr ⟨p,hp,h.symm⟩⟩)
  ·exact Or.inl (Or.inr ⟨p,hp,Or.inl h⟩)
theorem putK_t {ops:Array Oper} {es:List Eff} {k t:Nat} {s s':St} (h:wrT ops k t=true ∨ s.t t=s'.t t):(putK ops es k s).t t=(putK ops es k s').t t:=by
 unfold putK St.put wrT at *
 cases hd:(ops[k]?).bind (·.dst) with
 | none =>
  rw [hd] at h
  simp only
  rcases h with h | h
  ·cases h
  ·exact h
 | some d =>
  rw [hd] at h
  simp only
  unfold upd
  split
  ·rfl
  ·rename_i hne
   rcases h with h | h
   ·simp at h; exact absurd h.symm hne
   ·exact h
theorem putK_t_off {ops:Array Oper} {es:List Eff} {k t:Nat} {s:St} (h:wrT ops k t=false):(putK ops es k s).t t=s.t t:=by
 unfold putK St.put wrT at *
 cases hd:(ops[k]?).bind (·.dst) with
 | none=>rfl
 | some d =>
  rw [hd] at h
  simp only [beq_eq_false_iff_ne,ne_eq,Option.some.injEq] at h
  simp only
  unfold upd
  rw [if_neg (fun e=>h e.symm)]
theorem putK_h {ops:Array Oper} {es:List Eff} {k:Nat} {i:Id} {s s':St} (h:wrH es k i=true ∨ s.h i=s'.h i):(putK ops es k s).h i=(putK ops es k s').h i:=out_key h
theorem putK_h_off {ops:Array Oper} {es:List Eff} {k:Nat} {i:Id} {s:St} (h:wrH es k i=false):(putK ops es k s).h i=s.h i:=out_off h
theorem acc_t {ops:Array Oper} {es:List Eff} {st:St} {Y Z:Nat→Bool} {t:Nat}:∀ n,(∀ k,k < n→wrT ops k t=true→Y k=Z k)→(acc ops es st Y n).t t=(acc ops es st Z n).t t
 | 0,_=>rfl
 | n + 1,h=>by
  have ih:=acc_t (ops:=ops) (es:=es) (st:=st) n fun k hk=>h k (by omega)
  unfold acc
  by_cases hw:wrT ops n t=true
  ·rw [h n (by omega) hw]
   split
   ·exact putK_t (Or.inl hw)
   ·exact ih
  ·have hw':wrT ops n t=false:=by simpa using hw
   split <;> split <;> simp only [putK_t_off hw',ih]
theorem acc_h {ops:Array Oper} {es:List Eff} {st:St} {Y Z:Nat→Bool} {i:Id}:∀ n,(∀ k,k < n→wrH es k i=true→Y k=Z k)→(acc ops es st Y n).h i=(acc ops es st Z n).h i
 | 0,_=>rfl
 | n + 1,h=>by
  have ih:=acc_h (ops:=ops) (es:=es) (st:=st) n fun k hk=>h k (by omega)
  unfold acc
  by_cases hw:wrH es n i=true
  ·rw [h n (by omega) hw]
   split
   ·exact putK_h (Or.inl hw)
   ·exact ih
  ·have hw':wrH es n i=false:=by simpa using hw
   split <;> split <;> simp only [putK_h_off hw',ih]
theorem acc_stop {ops:Array Oper} {es:List Eff} {st:St} {k:Nat}:∀ n,k ≤ n→acc ops es st (fun j=>decide (j < k)) n=acc ops es st (fun _=>true) k
 | 0,h=>by
  have:k=0:=by omega
  subst this; rfl
 | n + 1,h=>by
  by_cases hk:k=n + 1
  ·subst hk
   exact acc_congr fun j hj=>by simp [hj]
  ·rw [acc,if_neg (by simp; omega)]
   exact acc_stop n (by omega)
theorem runTr_acc {P:Program} {X:Orc} {ops:Array Oper} {st:St}:∀ (m k:Nat) (pre es':List Eff) (s st':St),pre.length=k→ops.size - k=m→k ≤ ops.size→acc ops (pre ++ es') st (fun _=>true) k=s→runTr P X ops (ops.toList.drop k) s=some (st',es') →
  (pre ++ es').length=ops.size∧(∀ j,k ≤ j→∀ o,ops[j]? = some o→stepE P X ops o (acc ops (pre ++ es') st (fun _=>true) j)=some ((pre ++ es').getD j effD))∧st' = acc ops (pre ++ es') st (fun _=>true) ops.size
 | 0,k,pre,es',s,st',hp,hm,hle,hs,h=>by
  have hk:k=ops.size:=by omega
  rw [List.drop_eq_nil_of_le (by simp; omega)] at h
  simp only [runTr,Option.some.injEq,Prod.mk.injEq] at h
  obtain ⟨rfl,rfl⟩:=h
  refine ⟨by simp; omega,fun j hj o ho=>?_,by rw [← hk]; exact hs.symm⟩
  rw [Array.getElem?_eq_none (by omega)] at ho
  cases ho
 | m + 1,k,pre,es',s,st',hp,hm,hle,hs,h=>by
  have hk:k < ops.size:=by omega
  have e2:ops.toList.drop k=ops[k] :: ops.toList.drop (k + 1):=by
   rw [List.drop_eq_getElem_cons (by simpa using hk)]; simp
  rw [e2] at h
  unfold runTr at h
  split at h
  ·cases h
  ·rename_i e he
   split at h
   ·cases h
   ·rename_i st2 es2 h2
    simp only [Option.some.injEq,Prod.mk.injEq] at h
    obtain ⟨rfl,rfl⟩:=h
    have ea:pre ++ e :: es2=(pre ++ [e]) ++ es2:=by simp
    have hget:(pre ++ e :: es2).getD k effD=e:=by simp [List.getD,← hp]
    have hacc:acc ops ((pre ++ [e]) ++ es2) st (fun _=>true) (k + 1)=s.put ops[k].dst e:=by
     rw [← ea,acc,if_pos rfl,hs]
     unfold putK
     rw [hget,Array.getElem?_eq_getElem hk]; rfl
    obtain ⟨g1,g2,g3⟩:=runTr_acc m (k + 1) (pre ++ [e]) es2 _ st2 (by simp [hp]) (by omega) (by omega) hacc h2
    rw [← ea] at g1 g2 g3
    refine ⟨g1,fun j hj o ho=>?_,g3⟩
    by_cases hjk:j=k
    ·subst hjk
     rw [Array.getElem?_eq_getElem hk,Option.some.injEq] at ho
     subst ho
     rw [hs,hget]; exact he
    ·exact g2 j (by omega) o ho
theorem stepE_loc {P:Program} {X:Orc} {ops:Array Oper} {o:Oper} {s s':St} {e:Eff} (h:stepE P X ops o s=some e) (hn:s'.n=s.n) (hf:s'.d=s.d) (ht:∀ t ∈ o.looksAt ops,s'.t t=s.t t) (he:∀ i ∈ e.rd,s'.h i=s.h i) (hal:s'.al=s.al) (hh:e.ra=true→s'.h=s.h):stepE P X ops o s' = some e:=by
 unfold stepE at h ⊢
 rw [hn]
 split at h
 ·rename_i hd
  rw [if_pos hd]
  have hw:wantedA ops s' o=wantedA ops s o:=by
   unfold wantedA
   split
   ·rfl
   ·rename_i j want hg
    cases hdj:(ops[j]?).bind (·.dst) with
    | none=>rfl
    | some d =>
     simp only [hn]
     rw [ht d (List.mem_append_right _ (by simp [hg,hdj]))]
  rw [hw]
  split at h
  ·rename_i hw'
   rw [hf]
   unfold chkE at h
   split at h
   ·rename_i e1 hop
    split at h
    ·rename_i hok
     simp only [Option.some.injEq] at h
     subst h
     have key:opE P X s.d s'.ev s'.h (s.d,o.dst.getD s.n) o=some e1:=by
      refine opE_loc hop (fun x hx=>?_) he hh
      cases x with
      | tmp t =>
       show (if t < s'.n then s'.t t else _)=if t < s.n then s.t t else _
       rw [hn,ht t (List.mem_append_left _ (List.mem_filterMap.2 ⟨.tmp t,by simpa using hx,rfl⟩))]
      | const v=>rfl
      | global g=>rfl
      | func f=>rfl
     rw [key]
     show (if okW s'.d s'.al e1.wr then some e1 else none)=some e1
     rw [hf,hal,if_pos hok]
    ·cases h
   ·cases h
  ·exact h
  ·cases h
 ·cases h
def Closed (ops:Array Oper) (Y:Nat→Bool):Prop:=∀ (j:Nat) (o:Oper),Y j=true→ops[j]? = some o→∀ e ∈ o.after,Region.binds .any e=true→Y e.on=true
theorem reach_closed {ops:Array Oper} {Y:Nat→Bool} (hc:Closed ops Y):∀ (n i j:Nat),reach ops n i j=true→(∀ o,ops[j]? = some o→∀ e ∈ o.after,Region.binds .any e=true→Y e.on=true)→Y i=true
 | 0,i,j,h,_=>by simp [reach] at h
 | n + 1,i,j,h,hj=>by
  unfold reach at h
  split at h
  ·cases h
  ·rename_i o ho
   simp only [Bool.or_eq_true] at h
   rcases h with h | h
   ·obtain ⟨e,he,h'⟩:=Array.any_eq_true'.1 h
    simp only [Bool.and_eq_true,beq_iff_eq] at h'
    have hy:=hj o ho e he h'.1
    rw [← h'.2]; exact hy
   ·obtain ⟨e,he,h'⟩:=Array.any_eq_true'.1 h
    simp only [Bool.and_eq_true] at h'
    have hy:=hj o ho e he h'.1
    exact reach_closed hc n i e.on h'.2.2 (fun o' ho' e' he' hb'=>hc e.on o' hy ho' e' he' hb')
theorem apart_symm {ops:Array Oper} {x y:Oper} (h:Oper.apart ops x y=true):(∀ d,x.dst=some d→d ∉ y.looksAt ops)∧(∀ d,y.dst=some d→d ∉ x.looksAt ops)∧(∀ d,x.dst=some d→y.dst ≠ some d) :=
 ⟨(Oper.apart_spec h).1,(Oper.apart_spec h).2.2,(Oper.apart_spec h).2.1⟩
theorem race_pair {ops:Array Oper} {es:List Eff} (hrf:raceFree ops es=true) {i j:Nat} (hij:i < j) {x y:Oper} (hx:ops[i]? = some x) (hy:ops[j]? = some y) (hl:es.length=ops.size):(Oper.apart ops x y=true∧objConf (es.getD i effD) (es.getD j effD)=false) ∨ reach ops ops.size i j=true:=by
 have hj:j < ops.size:=(Array.getElem?_eq_some_iff.1 hy).1
 have h1:=List.all_eq_true.1 hrf j (by simpa using hj)
 simp only [Bool.and_eq_true] at h1
 have h2:=List.all_eq_true.1 h1.2 i (by simpa using hij)
 have e1:es[i]? = some (es.getD i effD):=by rw [List.getD_eq_getElem?_getD,List.getElem?_eq_getElem (by omega)]; rfl
 have e2:es[j]? = some (es.getD j effD):=by rw [List.getD_eq_getElem?_getD,List.getElem?_eq_getElem (by omega)]; rfl
 rw [hx,hy,e1,e2] at h2
 simp only [Bool.or_eq_true,Bool.and_eq_true,Bool.not_eq_true'] at h2
 exact h2
theorem race_edge {ops:Array Oper} {es:List Eff} (hrf:raceFree ops es=true) {j:Nat} {y:Oper} (hy:ops[j]? = some y):∀ e ∈ y.after,Region.binds .any e=true→e.on < j:=by
 have hj:j < ops.size:=(Array.getElem?_eq_some_iff.1 hy).1
 have h1:=List.all_eq_true.1 hrf j (by simpa using hj)
 simp only [Bool.and_eq_true,hy] at h1
 intro e he hb
 have:=Array.all_eq_true_iff_forall_mem.1 h1.1 e he
 simp only [hb,Bool.not_true,Bool.false_or,decide_eq_true_eq] at this
 exact this
theorem race_order {ops:Array Oper} {es:List Eff} (hrf:raceFree ops es=true) (hl:es.length=ops.size) {Y:Nat→Bool} (hc:Closed ops Y) {i:Nat} {x:Oper} (hx:ops[i]? = some x) (hYi:Y i=false) (hready:∀ e ∈ x.after,Region.binds .any e=true→Y e.on=true)
  {k:Nat} {y:Oper} (hy:ops[k]? = some y) (hne:k ≠ i) (hconf:Oper.apart ops x y=false ∨ Oper.apart ops y x=false ∨ objConf (es.getD i effD) (es.getD k effD)=true ∨ objConf (es.getD k effD) (es.getD i effD)=true):Y k=decide (k < i):=by
 have apc:Oper.apart ops x y=Oper.apart ops y x:=by
  unfold Oper.apart
  cases hdx:x.dst with
  | none=>cases hdy:y.dst <;> simp
  | some d=>cases hdy:y.dst with
   | none=>simp
   | some d'=>simp only [Bool.and_comm,Bool.and_assoc,Bool.and_left_comm]; by_cases e:d=d' <;> simp [e,Ne.symm,Bool.and_comm,bne_comm]
 have obc:objConf (es.getD i effD) (es.getD k effD)=objConf (es.getD k effD) (es.getD i effD):=conf_symm _ _
 have hconf':¬ (Oper.apart ops x y=true∧objConf (es.getD i effD) (es.getD k effD)=false):=by
  rintro ⟨h1,h2⟩
  rcases hconf with h | h | h | h
  ·rw [h1] at h; cases h
  ·rw [← apc,h1] at h; cases h
  ·rw [h2] at h; cases h
  ·rw [← obc,h2] at h; cases h
 rcases Nat.lt_or_gt_of_ne hne with hlt | hgt
 ·rw [decide_eq_true hlt]
  rcases race_pair hrf hlt hy hx hl with h | h
  ·rw [← apc,← obc] at h; exact absurd h hconf'
  ·exact reach_closed hc _ k i h (fun o ho e he hb=>by rw [hx] at ho; cases ho; exact hready e he hb)
 ·have hd:decide (k < i)=false:=by simp; omega
  rw [hd]
  rcases race_pair hrf hgt hx hy hl with h | h
  ·exact absurd h hconf'
  ·cases hk:Y k with
   | false=>rfl
   | true =>
    have:=reach_closed hc _ i k h (fun o ho e he hb=>hc k o hk ho e he hb)
    rw [hYi] at this; cases this
theorem looks_wr {ops:Array Oper} {k:Nat} {y:Oper} (hy:ops[k]? = some y) {t:Nat} (h:wrT ops k t=true):y.dst=some t:=by
 unfold wrT at h
 rw [hy] at h
 simpa using h
theorem draw_step {P:Program} {X:Orc} {ops:Array Oper} {es:List Eff} {st:St} (hl:es.length=ops.size) (hrf:raceFree ops es=true) (hstep:∀ j o,ops[j]? = some o→stepE P X ops o (acc ops es st (fun _=>true) j)=some (es.getD j effD))
  {Y:Nat→Bool} (hc:Closed ops Y) {i:Nat} {x:Oper} (hx:ops[i]? = some x) (hYi:Y i=false) (hready:∀ e ∈ x.after,Region.binds .any e=true→Y e.on=true) :
  stepE P X ops x (acc ops es st Y ops.size)=some (es.getD i effD)∧(acc ops es st Y ops.size).put x.dst (es.getD i effD)=acc ops es st (fun k=>if k=i then true else Y k) ops.size:=by
 have hi:i < ops.size:=(Array.getElem?_eq_some_iff.1 hx).1
 have hpre:=acc_stop (ops:=ops) (es:=es) (st:=st) (k:=i) ops.size (by omega)
 have ord:∀ k y,ops[k]? = some y→k ≠ i→(Oper.apart ops x y=false ∨ Oper.apart ops y x=false ∨ objConf (es.getD i effD) (es.getD k effD)=true ∨ objConf (es.getD k effD) (es.getD i effD)=true)→Y k=decide (k < i):=fun k y hy hne hcf=>race_order hrf hl hc hx hYi hready hy hne hcf
 have hk:∀ k,k < ops.size→∃ y,ops[k]? = some y:=fun k hk=>⟨ops[k],Array.getElem?_eq_getElem hk⟩
 constructor
 ·have reads:∀ j,(j ∈ (es.getD i effD).rd ∨ (es.getD i effD).ra=true)→(acc ops es st Y ops.size).h j=(acc ops es st (fun _=>true) i).h j:=fun j hj=>by
   rw [← hpre]
   refine acc_h _ fun k hk' hw=>?_
   obtain ⟨y,hy⟩:=hk k hk'
   by_cases hne:k=i
   ·subst hne; rw [hYi]; simp
   ·exact ord k y hy hne (Or.inr (Or.inr (Or.inr (conf_rd hw hj))))
  refine stepE_loc (hstep i x hx) ?_ ?_ (fun t ht=>?_) (fun j hj=>reads j (Or.inl hj)) (by rw [(acc_n _).2.2,(acc_n _).2.2]) (fun hn=>funext fun j=>reads j (Or.inr hn))
  ·rw [(acc_n _).1,(acc_n _).1]
  ·rw [(acc_n _).2.1,(acc_n _).2.1]
  ·rw [← hpre]
   refine acc_t _ fun k hk' hw=>?_
   obtain ⟨y,hy⟩:=hk k hk'
   have hdy:=looks_wr hy hw
   by_cases hne:k=i
   ·subst hne; rw [hYi]; simp
   ·refine ord k y hy hne (Or.inr (Or.inl ?_))
    cases hap:Oper.apart ops y x with
    | false=>rfl
    | true=>exact absurd ht ((apart_symm hap).1 t hdy)
 ·have hput:(acc ops es st Y ops.size).put x.dst (es.getD i effD)=putK ops es i (acc ops es st Y ops.size):=by
   unfold putK; rw [hx]; rfl
  rw [hput]
  have hsucc:acc ops es st (fun j=>decide (j < i + 1)) ops.size=putK ops es i (acc ops es st (fun _=>true) i):=by
   rw [acc_stop (k:=i + 1) ops.size (by omega)]; rfl
  have e_t:∀ t,(putK ops es i (acc ops es st Y ops.size)).t t=(acc ops es st (fun k=>if k=i then true else Y k) ops.size).t t:=fun t=>by
   by_cases hw:wrT ops i t=true
   ·have h1:(acc ops es st (fun k=>if k=i then true else Y k) ops.size).t t=(acc ops es st (fun j=>decide (j < i + 1)) ops.size).t t:=acc_t _ fun k hk' hwk=>by
     obtain ⟨y,hy⟩:=hk k hk'
     by_cases hne:k=i
     ·subst hne; simp
     ·rw [if_neg hne,ord k y hy hne (Or.inl ?_)]
      ·by_cases hlt:k < i
       ·simp [hlt]; omega
       ·simp [hlt]; omega
      ·cases hap:Oper.apart ops x y with
       | false=>rfl
       | true=>exact absurd (looks_wr hy hwk) ((apart_symm hap).2.2 t (looks_wr hx hw))
    rw [h1,hsucc]
    exact putK_t (Or.inl hw)
   ·have hw':wrT ops i t=false:=by simpa using hw
    rw [putK_t_off hw']
    exact acc_t _ fun k _ hwk=>by
     by_cases hne:k=i
     ·subst hne; rw [hw'] at hwk; cases hwk
     ·rw [if_neg hne]
  have e_h:∀ t,(putK ops es i (acc ops es st Y ops.size)).h t=(acc ops es st (fun k=>if k=i then true else Y k) ops.size).h t:=fun t=>by
   by_cases hw:wrH es i t=true
   ·have h1:(acc ops es st (fun k=>if k=i then true else Y k) ops.size).h t=(acc ops es st (fun j=>decide (j < i + 1)) ops.size).h t:=acc_h _ fun k hk' hwk=>by
     obtain ⟨y,hy⟩:=hk k hk'
     by_cases hne:k=i
     ·subst hne; simp
     ·rw [if_neg hne,ord k y hy hne (Or.inr (Or.inr (Or.inl (conf_wr hw hwk))))]
      ·by_cases hlt:k < i
       ·simp [hlt]; omega
       ·simp [hlt]; omega
    rw [h1,hsucc]
    exact putK_h (Or.inl hw)
   ·have hw':wrH es i t=false:=by simpa using hw
    rw [putK_h_off hw']
    exact acc_h _ fun k _ hwk=>by
     by_cases hne:k=i
     ·subst hne; rw [hw'] at hwk; cases hwk
     ·rw [if_neg hne]
  have en:(putK ops es i (acc ops es st Y ops.size)).n=(acc ops es st (fun k=>if k=i then true else Y k) ops.size).n:=by
   show (acc ops es st Y ops.size).n=_
   rw [(acc_n _).1,(acc_n _).1]
  have ef:(putK ops es i (acc ops es st Y ops.size)).d=(acc ops es st (fun k=>if k=i then true else Y k) ops.size).d:=by
   show (acc ops es st Y ops.size).d=_
   rw [(acc_n _).2.1,(acc_n _).2.1]
  have ea:(putK ops es i (acc ops es st Y ops.size)).al=(acc ops es st (fun k=>if k=i then true else Y k) ops.size).al:=by
   show (acc ops es st Y ops.size).al=_
   rw [(acc_n _).2.2,(acc_n _).2.2]
  cases h1:putK ops es i (acc ops es st Y ops.size) with
  | mk n1 f1 t1 h1' a1 =>
   cases h2:acc ops es st (fun k=>if k=i then true else Y k) ops.size with
   | mk n2 f2 t2 h2' a2 =>
    rw [h1,h2] at en ef ea e_t e_h
    simp only at en ef ea e_t e_h
    rw [en,ef,ea,funext e_t,funext e_h]
theorem draw_wp {P:Program} {I:World→Prop} {X:Orc} (hX:Sound P I X) {E:Env} (hE:EnvOk I E) {ops:Array Oper} {es:List Eff} {st st':St} (hl:es.length=ops.size) (hrf:raceFree ops es=true) (hstep:∀ j o,ops[j]? = some o→stepE P X ops o (acc ops es st (fun _=>true) j)=some (es.getD j effD))
  (hst':st' = acc ops es st (fun _=>true) ops.size) {Q:Exit→Act→World→Prop} (hQ:∀ ι' S' w' a',RelT E ι' S' w' st' a'→RelH E ι' S' st'.h w'→Q .normal a' w') :
  ∀ (fuel:Nat) (listed:Array Bool) (ι:Ix) (S:Sb) (w:World) (a:Act),listed.size=ops.size→((List.range ops.size).filter fun k=>!listed.getD k false).length=fuel→Closed ops (fun k=>listed.getD k false) →
   RelT E ι S w (acc ops es st (fun k=>listed.getD k false) ops.size) a→RelH E ι S (acc ops es st (fun k=>listed.getD k false) ops.size).h w→wpAny P .any ops Q fuel listed a w:=by
 intro fuel
 have done:∀ (listed:Array Bool) (ι:Ix) (S:Sb) (w:World) (a:Act),listed.size=ops.size→Region.ready .any ops listed=[]→RelT E ι S w (acc ops es st (fun k=>listed.getD k false) ops.size) a→RelH E ι S (acc ops es st (fun k=>listed.getD k false) ops.size).h w→Q .normal a w:=by
  intro listed ι S w a hsz hrd ht hr
  have all:∀ k,k < ops.size→listed.getD k false=true:=by
   intro k
   induction k using Nat.strongRecOn with
   | _ k ih =>
    intro hk
    cases hv:listed.getD k false with
    | true=>rfl
    | false =>
     have:k ∈ Region.ready .any ops listed:=mem_ready.2 ⟨by
      rw [Array.getD_eq_getD_getElem?] at hv ⊢
      rw [Array.getElem?_eq_getElem (by omega)] at hv ⊢
      exact hv,ops[k],Array.getElem?_eq_getElem hk,fun e he hb=>ih e.on (race_edge hrf (Array.getElem?_eq_getElem hk) e he hb) (by have:=race_edge hrf (Array.getElem?_eq_getElem hk) e he hb; omega)⟩
     rw [hrd] at this
     simp at this
  have e:acc ops es st (fun k=>listed.getD k false) ops.size=st':=by
   rw [hst']
   exact acc_congr fun k hk=>all k hk
  rw [e] at ht hr
  exact hQ ι S w a ht hr
 induction fuel with
 | zero =>
  intro listed ι S w a hsz hcnt hc ht hr
  have hrd:Region.ready .any ops listed=[]:=by
   apply List.eq_nil_iff_forall_not_mem.2
   intro j hj
   obtain ⟨h1,o,ho,_⟩:=mem_ready.1 hj
   have hj':j < ops.size:=(Array.getElem?_eq_some_iff.1 ho).1
   have:j ∈ (List.range ops.size).filter fun k=>!listed.getD k false:=by
    rw [List.mem_filter]
    refine ⟨by simpa using hj',?_⟩
    rw [Array.getD_eq_getD_getElem?] at h1 ⊢
    rw [Array.getElem?_eq_getElem (by omega)] at h1 ⊢
    simpa using h1
   rw [List.length_eq_zero_iff.1 hcnt] at this
   simp at this
  exact ⟨hrd,done listed ι S w a hsz hrd ht hr⟩
 | succ fuel ih =>
  intro listed ι S w a hsz hcnt hc ht hr
  refine ⟨fun hrd=>done listed ι S w a hsz hrd ht hr,fun i hi=>?_⟩
  obtain ⟨h1,x,hx,hready⟩:=mem_ready.1 hi
  have hi':i < ops.size:=(Array.getElem?_eq_some_iff.1 hx).1
  have hYi:listed.getD i false=false:=by
   rw [Array.getD_eq_getD_getElem?] at h1 ⊢
   rw [Array.getElem?_eq_getElem (by omega)] at h1 ⊢
   exact h1
  obtain ⟨hs,hp⟩:=draw_step hl hrf hstep hc hx hYi hready
  refine step_wp hX hE hx ht hr hs fun ι' S' w' a' ht' hr'=>?_
  rw [hp] at ht' hr'
  have hset:∀ k,(listed.setIfInBounds i true).getD k false=if k=i then true else listed.getD k false:=fun k=>by
   rw [Array.getD_eq_getD_getElem?,Array.getElem?_setIfInBounds]
   by_cases e:i=k
   ·subst e; rw [if_pos rfl,if_pos (by omega),if_pos rfl]; rfl
   ·rw [if_neg e,if_neg (fun h=>e h.symm),← Array.getD_eq_getD_getElem?]
  have hfun:(fun k=>(listed.setIfInBounds i true).getD k false)=fun k=>if k=i then true else listed.getD k false:=funext hset
  refine ih (listed.setIfInBounds i true) ι' S' w' a' (by simpa using hsz) ?_ ?_ (by rw [hfun]; exact ht') (by rw [hfun]; exact hr')
  ·have:((List.range ops.size).filter fun k=>!(listed.setIfInBounds i true).getD k false)=((List.range ops.size).filter fun k=>!listed.getD k false).erase i:=by
    rw [List.Nodup.erase_eq_filter (List.Pairwise.filter _ List.nodup_range),List.filter_filter]
    apply List.filter_congr
    intro k _
    rw [hset]
    by_cases e:k=i
    ·simp [e]
    ·simp [e,bne_iff_ne]
   rw [this,List.length_erase_of_mem,hcnt]
   ·omega
   ·rw [List.mem_filter]; exact ⟨by simpa using hi',by rw [hYi]; rfl⟩
  ·intro j o hj ho e he hb
   have hj2:(if j=i then true else listed.getD j false)=true:=by rw [← hset]; exact hj
   show (listed.setIfInBounds i true).getD e.on false=true
   rw [hset]
   by_cases e1:e.on=i
   ·rw [if_pos e1]
   ·rw [if_neg e1]
    by_cases e2:j=i
    ·subst e2
     rw [hx] at ho
     cases ho
     exact hready e he hb
    ·rw [if_neg e2] at hj2
     exact hc j o hj2 ho e he hb
end
section
def Ex.exit':Ex→Exit
 | .normal=>.normal
 | .exit i=>.exit i
 | .goto l=>.goto l
 | .ret=>.ret
def WOps (P:Program) (X:Orc) (ops:Array Oper):List Oper→St→(St→Prop)→Prop
 | [],st,K=>K st
 | o :: l,st,K=>(∃ e,stepE P X ops o st=some e∧WOps P X ops l (st.put o.dst e) K) ∨
   ∃ x es,o.op = .next x false∧dstOk st.n o.dst=true∧wantedA ops st o=some true∧nextsE st.h (st.ev x)=some es∧(∀ e ∈ es,okW st.d st.al e.wr=true) ∧ ∀ e ∈ es,WOps P X ops l (st.put o.dst e) K
def Wit (f:St→(Ex→St→Prop)→Prop):Nat→St→(Ex→St→Prop)→Prop
 | 0,_,_=>False
 | n + 1,st,K=>f st fun x s=>match x with | .normal=>Wit f n s K | x=>K x s
def Wx (P:Program) (X:Orc) (n:Nat):Code→St→(Ex→St→Prop)→Prop
 | .skip,st,K | .label _,st,K=>K .normal st
 | .region _ ops false,st,K=>WOps P X ops ops.toList st (K .normal)
 | .region _ ops true,st,K=>∃ st' es,runTr P X ops ops.toList st=some (st',es)∧raceFree ops es=true∧K .normal st'
 | .seq a b,st,K=>Wx P X n a st fun x s=>match x with | .normal=>Wx P X n b s K | x=>K x s
 | .cond c a b,st,K =>
  match (st.ev c).bool? with
  | some true=>Wx P X n a st K
  | some false=>Wx P X n b st K
  | none=>False
 | .block id c,st,K=>Wx P X n c st fun x s=>match x with | .exit j=>if j=id then K .normal s else K (.exit j) s | x=>K x s
 | .loop c,st,K=>Wit (Wx P X n c) n st K
 | .exit id,st,K=>K (.exit id) st
 | .scope c,st,K=>Wx P X n c st fun x s=>match x with | .goto _=>False | x=>K x s
 | .goto l,st,K=>K (.goto l) st
 | .ret,st,K=>K .ret st
 | _,_,_=>False
theorem nexts_wp {P:Program} {E:Env} {ι:Ix} {S:Sb} {w:World} {st:St} {a:Act} {o:Oper} {x:Operand} {es:List Eff} (ht:RelT E ι S w st a) (hr:RelH E ι S st.h w) (hd:dstOk st.n o.dst=true) (hop:o.op = .next x false) (he:nextsE st.h (st.ev x)=some es) {K:Act→World→Prop} {Q:Exit→Act→World→Prop}
  (hK:∀ e ∈ es,∀ ι' S' w' a',RelT E ι' S' w' (st.put o.dst e) a'→RelH E ι' S' (st.put o.dst e).h w'→K a' w'):o.wp P a w K Q:=by
 obtain ⟨e,hm,u,w',h1,h2⟩:=nexts_ok (P:=P) (ty:=o.type) hr (ev_VA ht x) he
 exact wp_value ht hd (u:=u) (by simp [execOp,hop,h1]) h2 (hK e hm)
theorem wops_wp {P:Program} {I:World→Prop} {X:Orc} (hX:Sound P I X) {E:Env} (hE:EnvOk I E) (ops:Array Oper) {K:St→Prop} {Q:Exit→Act→World→Prop} (hQ:∀ st',K st'→∀ ι' S' w' a',RelT E ι' S' w' st' a'→RelH E ι' S' st'.h w'→Q .normal a' w') :
  ∀ (m k:Nat) (st:St) (ι:Ix) (S:Sb) (w:World) (a:Act),ops.size - k=m→RelT E ι S w st a→RelH E ι S st.h w→WOps P X ops (ops.toList.drop k) st K→wpOps P ops Q ((List.range ops.size).drop k) a w
 | 0,k,st,ι,S,w,a,hm,ht,hr,h=>by
  rw [List.drop_eq_nil_of_le (by simp; omega)] at h ⊢
  exact hQ st h ι S w a ht hr
 | m + 1,k,st,ι,S,w,a,hm,ht,hr,h=>by
  have hk:k < ops.size:=by omega
  have hk':k < ops.toList.length:=by simpa using hk
  rw [List.drop_eq_getElem_cons hk'] at h
  rw [List.drop_eq_getElem_cons (by simpa using hk)]
  rw [List.getElem_range]
  have hok:ops[k]? = some ops.toList[k]:=by rw [← Array.getElem?_toList]; exact List.getElem?_eq_getElem hk'
  unfold WOps at h
  rcases h with ⟨e,h1,h2⟩ | ⟨x,es,hop,hd,hw,hes,_,hall⟩
  ·exact step_wp hX hE hok ht hr h1 fun ι' S' w' a' ht' hr'=>wops_wp hX hE ops hQ m (k + 1) _ ι' S' w' a' (by omega) ht' hr' h2
  ·show wpOp P ops Q k _ a w
   unfold wpOp
   rw [hok]
   simp only
   rw [if_pos (wanted_of ht hw)]
   exact Or.inl (nexts_wp ht hr hd hop hes fun e hm ι' S' w' a' ht' hr'=>wops_wp hX hE ops hQ m (k + 1) _ ι' S' w' a' (by omega) ht' hr' (hall e hm))
theorem wx_wp {P:Program} {I:World→Prop} {X:Orc} (hX:Sound P I X) (hP:P.follows .mixedOrders=true) {E:Env} (hE:EnvOk I E) (n:Nat):∀ (c:Code) (st:St) (ι:Ix) (S:Sb) (w:World) (a:Act) (K:Ex→St→Prop) (Q:Exit→Act→World→Prop),RelT E ι S w st a→RelH E ι S st.h w→Wx P X n c st K →
  (∀ x st',K x st'→∀ ι' S' w' a',RelT E ι' S' w' st' a'→RelH E ι' S' st'.h w'→Q x.exit' a' w')→c.wp P Q a w
 | .skip,st,ι,S,w,a,K,Q,ht,hr,h,hQ=>wp_skip (hQ _ _ h ι S w a ht hr)
 | .label l,st,ι,S,w,a,K,Q,ht,hr,h,hQ=>wp_label (hQ _ _ h ι S w a ht hr)
 | .exit id,st,ι,S,w,a,K,Q,ht,hr,h,hQ=>wp_exit (hQ _ _ h ι S w a ht hr)
 | .goto l,st,ι,S,w,a,K,Q,ht,hr,h,hQ=>wp_goto (hQ _ _ h ι S w a ht hr)
 | .ret,st,ι,S,w,a,K,Q,ht,hr,h,hQ=>wp_ret (hQ _ _ h ι S w a ht hr)
 | .region id ops false,st,ι,S,w,a,K,Q,ht,hr,h,hQ=>by
  refine wp_region ?_
  have:=wops_wp hX hE ops (K:=K .normal) (Q:=Q) (fun st' k=>hQ .normal st' k) ops.size 0 st ι S w a (Nat.sub_zero _) ht hr (by rw [List.drop_zero]; exact h)
  simpa using this
 | .region id ops true,st,ι,S,w,a,K,Q,ht,hr,h,hQ=>by
  obtain ⟨st1,es,h1,hrf,hk⟩:=h
  refine wp_region_any hP ?_
  obtain ⟨g1,g2,g3⟩:=runTr_acc (st:=st) ops.size 0 [] es st st1 rfl (Nat.sub_zero _) (Nat.zero_le _) rfl (by simpa using h1)
  simp only [List.nil_append] at g1 g2 g3
  have hnone:∀ k,(Array.replicate ops.size false).getD k false=false:=fun k=>by
   rw [Array.getD_eq_getD_getElem?,Array.getElem?_replicate]
   split <;> rfl
  have e0:acc ops es st (fun k=>(Array.replicate ops.size false).getD k false) ops.size=st:=by
   have:∀ m,acc ops es st (fun k=>(Array.replicate ops.size false).getD k false) m=st:=by
    intro m
    induction m with
    | zero=>rfl
    | succ m ih=>rw [acc,if_neg (by rw [hnone]; simp),ih]
   exact this _
  refine draw_wp hX hE g1 hrf (fun j o ho=>g2 j (Nat.zero_le _) o ho) g3 (hQ .normal st1 hk) ops.size _ ι S { w with drawn:=w.drawn + 1 } a (by simp) ?_ ?_ ?_ ?_
  ·rw [List.filter_eq_self.2 (fun k _=>by rw [hnone]; rfl)]; simp
  ·intro j o hj
   have hj':(Array.replicate ops.size false).getD j false=true:=hj
   rw [hnone] at hj'; cases hj'
  ·rw [e0]
   exact ⟨ht.depth.trans rfl,ht.size,ht.defers,fun i hi=>VA_mono (w:=w) (w':={ w with drawn:=w.drawn + 1 }) ⟨fun _ _ _ h=>h,fun _ _ h=>h,fun _ _ _=>rfl⟩ _ _ (ht.vals i hi)⟩
  ·rw [e0]
   exact (hr.grow (w':={ w with drawn:=w.drawn + 1 }) ⟨rfl,rfl,rfl,Nat.le_refl _,fun _ _=>rfl⟩ (fun _ _ h=>h) (fun b o h=>⟨Or.inl h,hr.inw b o h⟩)).2
 | .seq c d,st,ι,S,w,a,K,Q,ht,hr,h,hQ=>by
  refine wp_seq (wx_wp hX hP hE n c st ι S w a _ _ ht hr h fun x st1 hk ι' S' w' a' ht' hr'=>?_)
  cases x with
  | normal=>exact wx_wp hX hP hE n d st1 ι' S' w' a' K Q ht' hr' hk hQ
  | exit i=>exact hQ _ _ hk ι' S' w' a' ht' hr'
  | goto l=>exact hQ _ _ hk ι' S' w' a' ht' hr'
  | ret=>exact hQ _ _ hk ι' S' w' a' ht' hr'
 | .cond b c d,st,ι,S,w,a,K,Q,ht,hr,h,hQ=>by
  unfold Wx at h
  split at h
  ·rename_i hb
   exact wp_cond_true (bool_of (ev_VA ht b) hb) (wx_wp hX hP hE n c st ι S w a K Q ht hr h hQ)
  ·rename_i hb
   exact wp_cond_false (bool_of (ev_VA ht b) hb) (wx_wp hX hP hE n d st ι S w a K Q ht hr h hQ)
  ·exact absurd h id
 | .block id c,st,ι,S,w,a,K,Q,ht,hr,h,hQ=>by
  refine wp_block (wx_wp hX hP hE n c st ι S w a _ _ ht hr h fun x st1 hk ι' S' w' a' ht' hr'=>?_)
  cases x with
  | normal=>exact hQ _ _ hk ι' S' w' a' ht' hr'
  | exit j =>
   show Exit.inBlock id Q (.exit j) a' w'
   unfold Exit.inBlock
   simp only
   by_cases e:j=id
   ·rw [if_pos e]
    have hk':K .normal st1:=by simpa [e] using hk
    exact hQ _ _ hk' ι' S' w' a' ht' hr'
   ·rw [if_neg e]
    have hk':K (.exit j) st1:=by simpa [e] using hk
    exact hQ _ _ hk' ι' S' w' a' ht' hr'
  | goto l=>exact hQ _ _ hk ι' S' w' a' ht' hr'
  | ret=>exact hQ _ _ hk ι' S' w' a' ht' hr'
 | .loop c,st,ι,S,w,a,K,Q,ht,hr,h,hQ=>by
  have key:∀ (m:Nat) (st:St) (ι:Ix) (S:Sb) (w:World) (a:Act),RelT E ι S w st a→RelH E ι S st.h w→Wit (Wx P X n c) m st K→Code.rounds P c Q m a w:=by
   intro m
   induction m with
   | zero=>intro st ι S w a ht hr h; exact absurd h id
   | succ m ih =>
    intro st ι S w a ht hr h
    rw [rounds_succ]
    unfold Wit at h
    refine wx_wp hX hP hE n c st ι S w a _ _ ht hr h fun x st1 hk ι' S' w' a' ht' hr'=>?_
    cases x with
    | normal=>exact ih st1 ι' S' w' a' ht' hr' hk
    | exit i=>exact hQ _ _ hk ι' S' w' a' ht' hr'
    | goto l=>exact hQ _ _ hk ι' S' w' a' ht' hr'
    | ret=>exact hQ _ _ hk ι' S' w' a' ht' hr'
  exact wp_loop_rounds n (key n st ι S w a ht hr h)
 | .scope c,st,ι,S,w,a,K,Q,ht,hr,h,hQ=>by
  refine wp_scope_straight (wx_wp hX hP hE n c st ι S w a _ _ ht hr h fun x st1 hk ι' S' w' a' ht' hr'=>?_)
  cases x with
  | normal=>exact hQ _ _ hk ι' S' w' a' ht' hr'
  | exit i=>exact hQ _ _ hk ι' S' w' a' ht' hr'
  | goto l=>exact absurd hk id
  | ret=>exact hQ _ _ hk ι' S' w' a' ht' hr'
 | .rangeFunc f ps c d,st,ι,S,w,a,K,Q,ht,hr,h,hQ=>absurd h id
 | .refuse y,st,ι,S,w,a,K,Q,ht,hr,h,hQ=>absurd h id
theorem wops_of {P:Program} {X:Orc} {ops:Array Oper} {K:St→Prop}:∀ {l:List Oper} {st s:St},runOps P X ops l st=some s→K s→WOps P X ops l st K
 | [],st,s,h,k=>by
  simp only [runOps,Option.some.injEq] at h
  subst h; exact k
 | o :: l,st,s,h,k=>by
  unfold runOps stepSt at h
  obtain ⟨t1,g1,g2⟩:=Option.bind_eq_some_iff.1 h
  obtain ⟨e,k1,rfl⟩:=Option.map_eq_some_iff.1 g1
  exact Or.inl ⟨e,k1,wops_of g2 k⟩
theorem wit_of {f:St→(Ex→St→Prop)→Prop} {g:St→Option (Ex × St)} (hfg:∀ st x s (K:Ex→St→Prop),g st=some (x,s)→K x s→f st K) {K:Ex→St→Prop}:∀ {n:Nat} {st:St} {x:Ex} {s:St},iter g n st=some (x,s)→K x s→Wit f n st K
 | 0,st,x,s,h,k=>by simp [iter] at h
 | n + 1,st,x,s,h,k=>by
  unfold iter at h
  unfold Wit
  split at h
  ·rename_i s1 h1
   exact hfg st .normal s1 _ h1 (wit_of hfg h k)
  ·rename_i hne
   refine hfg st x s _ h ?_
   cases x with
   | normal=>exact absurd h (by intro h'; exact hne _ h')
   | _=>exact k
theorem wx_of {P:Program} {X:Orc} {n:Nat}:∀ (c:Code) {st:St} {x:Ex} {s:St} (K:Ex→St→Prop),exec P X n c st=some (x,s)→K x s→Wx P X n c st K
 | .skip,st,x,s,K,h,k=>by simp only [exec,Option.some.injEq,Prod.mk.injEq] at h; obtain ⟨rfl,rfl⟩:=h; exact k
 | .label l,st,x,s,K,h,k=>by simp only [exec,Option.some.injEq,Prod.mk.injEq] at h; obtain ⟨rfl,rfl⟩:=h; exact k
 | .exit l,st,x,s,K,h,k=>by simp only [exec,Option.some.injEq,Prod.mk.injEq] at h; obtain ⟨rfl,rfl⟩:=h; exact k
 | .goto l,st,x,s,K,h,k=>by simp only [exec,Option.some.injEq,Prod.mk.injEq] at h; obtain ⟨rfl,rfl⟩:=h; exact k
 | .ret,st,x,s,K,h,k=>by simp only [exec,Option.some.injEq,Prod.mk.injEq] at h; obtain ⟨rfl,rfl⟩:=h; exact k
 | .region id ops false,st,x,s,K,h,k=>by
  simp only [exec] at h
  obtain ⟨st1,h1,h2⟩:=Option.map_eq_some_iff.1 h
  simp only [Prod.mk.injEq] at h2
  obtain ⟨rfl,rfl⟩:=h2
  exact wops_of h1 k
 | .region id ops true,st,x,s,K,h,k=>by
  simp only [exec] at h
  split at h
  ·rename_i st1 es h1
   split at h
   ·rename_i hrf
    simp only [Option.some.injEq,Prod.mk.injEq] at h
    obtain ⟨rfl,rfl⟩:=h
    exact ⟨_,_,h1,hrf,k⟩
   ·cases h
  ·cases h
 | .seq a b,st,x,s,K,h,k=>by
  simp only [exec] at h
  unfold Wx
  split at h
  ·rename_i s1 h1
   exact wx_of a _ h1 (wx_of b _ h k)
  ·rename_i hne
   refine wx_of a _ h ?_
   cases x with
   | normal=>exact absurd h (by intro h'; exact hne _ h')
   | _=>exact k
 | .cond c a b,st,x,s,K,h,k=>by
  simp only [exec] at h
  unfold Wx
  split at h
  ·rename_i hb; rw [hb]; exact wx_of a _ h k
  ·rename_i hb; rw [hb]; exact wx_of b _ h k
  ·cases h
 | .block id c,st,x,s,K,h,k=>by
  simp only [exec] at h
  unfold Wx
  split at h
  ·rename_i j s1 h1
   refine wx_of c _ h1 ?_
   split at h
   ·rename_i e
    simp only [Option.some.injEq,Prod.mk.injEq] at h
    obtain ⟨rfl,rfl⟩:=h
    simp only [e,if_true]; exact k
   ·rename_i e
    simp only [Option.some.injEq,Prod.mk.injEq] at h
    obtain ⟨rfl,rfl⟩:=h
    simp only [e,if_false]; exact k
  ·rename_i hne
   refine wx_of c _ h ?_
   cases x with
   | exit i=>exact absurd h (by intro h'; exact hne _ _ h')
   | _=>exact k
 | .loop c,st,x,s,K,h,k=>by
  simp only [exec] at h
  exact wit_of (g:=exec P X n c) (fun st x s K g1 g2=>wx_of c K g1 g2) h k
 | .scope c,st,x,s,K,h,k=>by
  simp only [exec] at h
  unfold Wx
  split at h
  ·cases h
  ·rename_i hne
   refine wx_of c _ h ?_
   cases x with
   | goto l=>exact absurd h (by intro h'; exact hne _ _ h')
   | _=>exact k
 | .rangeFunc ..,st,x,s,K,h,k=>by simp [exec] at h
 | .refuse _,st,x,s,K,h,k=>by simp [exec] at h
theorem res_ok {P:Program} {E:Env} {ι:Ix} {S:Sb} {w:World} {st:St} {a:Act} (ht:RelT E ι S w st a) (hr:RelH E ι S st.h w) {r:ResultVar} {x:A} (h:resA P st r=some x) :
  ∃ u,(match r with | .tmp t=>(pure (a.tmps.getD t undef):Sem Value) | .cell ad t=>do loadVar t (← asAddr (a.tmps.getD ad undef))).run P w = .ok u w∧VA ι S w x u:=by
 unfold resA at h
 split at h
 ·rename_i t
  split at h
  ·rename_i hlt
   simp only [Option.some.injEq] at h
   subst h
   exact ⟨_,rfl,ht.vals t hlt⟩
  ·cases h
 ·rename_i ad t
  split at h
  ·rename_i hlt
   obtain ⟨e,h1,rfl⟩:=Option.map_eq_some_iff.1 h
   obtain ⟨u,h2,ι',S',m,h3,h4⟩:=load_ok (P:=P) hr (ht.vals ad hlt) h1
   have hptr:∃ p,a.tmps.getD ad undef = .pointer (some p):=by
    have hv:=ht.vals ad hlt
    cases hx:st.t ad <;> rw [hx] at h1 hv <;> simp only [loadE] at h1 <;> try (cases h1; done)
    ·unfold VA at hv; obtain ⟨_,_,_,h⟩:=hv; exact ⟨_,h⟩
    ·unfold VA at hv; obtain ⟨_,_,h⟩:=hv; exact ⟨_,h⟩
    ·unfold VA at hv; obtain ⟨_,_,_,h,_⟩:=hv; exact ⟨_,h⟩
   obtain ⟨p,hp⟩:=hptr
   rw [hp] at h2
   have e0:Steps E ι S st.h w e u w:=⟨ι',S',m,h3,h4⟩
   refine ⟨u,?_,?_⟩
   ·simp only [hp,asAddr,Sem.run_bind,Sem.run_pure,Result.andThen]
    simpa [Instr.loadAt,Instr.sureAddr] using h2
   ·obtain ⟨u',h2',h3'⟩:∃ u',(Instr.loadAt t (.pointer (some p))).run P w = .ok u' w∧VA ι S w e.v u':=by
     have hv:=ht.vals ad hlt
     rw [hp] at hv
     exact load_val hr hv h1
    rw [h2'] at h2
    cases h2
    exact h3'
  ·cases h
theorem ress_ok {P:Program} {E:Env} {ι:Ix} {S:Sb} {w:World} {st:St} {a:Act} (ht:RelT E ι S w st a) (hr:RelH E ι S st.h w):∀ {l:List ResultVar} {xs:List A},resAs P st l=some xs →
  ∃ us:List Value,(l.mapM fun (r:ResultVar)=>(match r with | .tmp t=>pure (a.tmps.getD t undef) | .cell ad t=>do loadVar t (← asAddr (a.tmps.getD ad undef)):Sem Value)).run P w = .ok us w∧VL ι S w xs us
 | [],xs,h=>by
  simp only [resAs,Option.some.injEq] at h
  subst h
  exact ⟨[],by simp,by unfold VL; rfl⟩
 | r :: l,xs,h=>by
  unfold resAs at h
  split at h
  ·rename_i x ys h1 h2
   simp only [Option.some.injEq] at h
   subst h
   obtain ⟨u,g1,g2⟩:=res_ok (P:=P) ht hr h1
   obtain ⟨us,g3,g4⟩:=ress_ok ht hr h2
   refine ⟨u :: us,?_,by unfold VL; exact ⟨u,us,rfl,g2,g4⟩⟩
   simp only [List.mapM_cons,Sem.run_bind,g1,Result.andThen,g3,Sem.run_pure]
  ·cases h
theorem results_ok {P:Program} {E:Env} {ι:Ix} {S:Sb} {w:World} {st:St} {a:Act} (ht:RelT E ι S w st a) (hr:RelH E ι S st.h w) {fn:Func} {xs:List A} (h:resAs P st fn.results.toList=some xs) :
  ∃ us:List Value,(results fn a.tmps).run P w = .ok (if h:us.toArray.size=1 then us.toArray[0] else .tuple us.toArray) w∧VL ι S w xs us:=by
 obtain ⟨us,h1,h2⟩:=ress_ok (P:=P) ht hr h
 refine ⟨us,?_,h2⟩
 have e:results fn a.tmps=(fn.results.mapM fun (r:ResultVar)=>(match r with | .tmp t=>pure (a.tmps.getD t undef) | .cell ad t=>do loadVar t (← asAddr (a.tmps.getD ad undef)):Sem Value)) >>= fun vs=>pure (if h:vs.size=1 then vs[0] else .tuple vs):=rfl
 rw [e,Array.mapM_eq_mapM_toList]
 simp only [map_eq_pure_bind,Sem.run_bind,h1,Result.andThen,Sem.run_pure]
end
section
theorem low_VA {E:Env} {ι ιc:Ix} {S:Sb} {w:World} (hlow:∀ i v,i.1 < E.d→ιc i v=ι i v) (hpos:0 < E.d) {a:A} {u:Value} (hl:a.low (E.d - 1)=true) (h:VA ι S w a u):VA ιc S w a u :=
 VA_mono ⟨fun i v L e=>by rw [hlow i v (by have:=(upto_some e).1; omega)]; exact (upto_some e).2,fun _ _ h=>h,fun _ _ _=>rfl⟩ a u (VA_low a u hl h)
theorem keepA_ok {E:Env} {ι ιc:Ix} {S S':Sb} {h:Id→O} {w:World} (hr:RelH E ι S h w) (m:Mono ι S w ι S' w) (hlow:∀ i v,i.1 < E.d→ιc i v=ι i v) {a:A} {u:Value} (hv:VA ι S w a u) {x:A} {ids:List Id} (hx:keepA E.d h a=some (x,ids)) (hf:FzAll ι S' h ids):VA ιc S' w x u:=by
 unfold keepA at hx
 split at hx
 ·rename_i hc
  simp only [Bool.and_eq_true,decide_eq_true_eq] at hc
  simp only [Option.some.injEq,Prod.mk.injEq] at hx
  obtain ⟨rfl,rfl⟩:=hx
  exact low_VA hlow hc.1 hc.2 (VA_mono m _ _ hv)
 ·obtain ⟨⟨y,i⟩,h1,h2⟩:=Option.map_eq_some_iff.1 hx
  simp only [Prod.mk.injEq] at h2
  obtain ⟨rfl,rfl⟩:=h2
  unfold VA
  exact fzVal_ok hr m hv h1 hf
theorem keepAs_ok {E:Env} {ι ιc:Ix} {S S':Sb} {h:Id→O} {w:World} (hr:RelH E ι S h w) (m:Mono ι S w ι S' w) (hlow:∀ i v,i.1 < E.d→ιc i v=ι i v):∀ {l:List A} {us:List Value} {xs:List A} {ids:List Id},VL ι S w l us→keepAs E.d h l=some (xs,ids)→FzAll ι S' h ids→VL ιc S' w xs us
 | [],us,ds,ids,hv,hx,hf=>by
  simp only [keepAs,Option.some.injEq,Prod.mk.injEq] at hx
  obtain ⟨rfl,rfl⟩:=hx
  unfold VL at *
  exact hv
 | a :: l,us,ds,ids,hv,hx,hf=>by
  unfold VL at hv
  obtain ⟨u,us',rfl,h1,h2⟩:=hv
  unfold keepAs at hx
  split at hx
  ·rename_i x i xs j hx1 hx2
   simp only [Option.some.injEq,Prod.mk.injEq] at hx
   obtain ⟨rfl,rfl⟩:=hx
   unfold VL
   exact ⟨u,us',rfl,keepA_ok hr m hlow h1 hx1 hf.left,keepAs_ok hr m hlow h2 hx2 hf.right⟩
  ·cases hx
theorem live_of_freeze {a b:O} (h:a=b ∨ a=b.freeze):a.live=b.live:=by
 rcases h with h | h
 ·rw [h]
 ·rw [h]; cases b <;> rfl
theorem frz_other {h:Id→O} {id:Id}:∀ {ids:List Id} {g:Id→O},id ∉ ids→upds g (frz h ids) id=g id
 | [],g,_=>rfl
 | i :: l,g,hn=>by
  simp only [List.mem_cons,not_or] at hn
  unfold frz
  split
  ·exact frz_other hn.2
  ·unfold upds
   rw [frz_other hn.2]; unfold upd; rw [if_neg hn.1]
theorem fzEnts_low {h:Id→O}:∀ {es xs:List (Nat × Value × A)} {ids:List Id},fzEnts h es=some (xs,ids)→xs.map (·.1)=es.map (·.1)
 | [],xs,ids,hx=>by
  simp only [fzEnts,Option.some.injEq,Prod.mk.injEq] at hx
  rw [← hx.1]
 | e :: l,xs,ids,hx=>by
  unfold fzEnts at hx
  split at hx
  ·rename_i x i ys j h1 h2
   simp only [Option.some.injEq,Prod.mk.injEq] at hx
   rw [← hx.1]
   simp [fzEnts_low h2]
  ·cases hx
theorem fzEnts_ok {E:Env} {ι ι1 ι':Ix} {S S':Sb} {h:Id→O} {w:World} (hr:RelH E ι S h w) (m:Mono ι S w ι S' w) (hi:∀ i v L,ι1 i v=some L→ι i v=some L):∀ {es xs:List (Nat × Value × A)} {ms:List MapEntry} {ids:List Id},MapRel ι1 S w es ms→fzEnts h es=some (xs,ids)→FzAll ι S' h ids→MapRel ι' S' w xs ms
 | [],xs,ms,ids,hv,hx,hf=>by
  simp only [fzEnts,Option.some.injEq,Prod.mk.injEq] at hx
  rw [← hx.1]
  exact hv
 | e :: l,xs,ms,ids,hv,hx,hf=>by
  obtain ⟨u,ms',h1,h2,h3,h4,h5⟩:=hv
  unfold fzEnts at hx
  split at hx
  ·rename_i x i ys j hx1 hx2
   simp only [Option.some.injEq,Prod.mk.injEq] at hx
   obtain ⟨rfl,rfl⟩:=hx
   refine ⟨u,ms',h1,h2,h3,?_,fzEnts_ok hr m hi h5 hx2 hf.right⟩
   have h4':VA ι S w e.2.2 u.val:=VA_mono ⟨hi,fun _ _ h=>h,fun _ _ _=>rfl⟩ _ _ h4
   unfold fzEnt at hx1
   split at hx1
   ·rename_i hpl
    simp only [Option.some.injEq,Prod.mk.injEq] at hx1
    rw [← hx1.1]
    exact plain_VA hpl (VA_mono m _ _ h4')
   ·obtain ⟨⟨y,k⟩,g1,g2⟩:=Option.map_eq_some_iff.1 hx1
    simp only [Prod.mk.injEq] at g2
    obtain ⟨rfl,rfl⟩:=g2
    unfold VA
    exact fzVal_ok hr m h4' g1 hf.left
  ·cases hx
theorem pl1 {ι:Ix} {S:Sb} {w:World} {a:A} {us:List Value} (hv:VL ι S w [a] us):∃ u,us=[u]∧VA ι S w a u:=by
 unfold VL at hv
 obtain ⟨u,us',rfl,h1,h2⟩:=hv
 unfold VL at h2
 subst h2
 exact ⟨u,rfl,h1⟩
theorem ORel.same {ι ι':Ix} {S:Sb} {base:Nat} {w:World} {id:Id} {o:O} (h:ORel ι S base w id o) (e1:∀ v,ι' id v=ι id v) (e2:upto id.1 ι' = upto id.1 ι):ORel ι' S base w id o:=by
 cases o with
 | no v=>trivial
 | box v cs =>
  obtain ⟨L,h1,h2⟩:=h
  exact ⟨L,(e1 _).trans h1,by rw [e2]; exact h2⟩
 | vec v n xs fz =>
  rcases h with ⟨h1,h2⟩ | ⟨L,h1,h2⟩
  ·exact Or.inl ⟨h1,(e1 _).trans h2⟩
  ·exact Or.inr ⟨L,(e1 _).trans h1,h2⟩
 | map v es c =>
  obtain ⟨L,h1,h2⟩:=h
  exact ⟨L,(e1 _).trans h1,by rw [e2]; exact h2⟩
 | sit v s p =>
  obtain ⟨L,h1,h2⟩:=h
  exact ⟨L,(e1 _).trans h1,h2⟩
 | mit v mm a b c =>
  obtain ⟨L,h1,h2⟩:=h
  exact ⟨L,(e1 _).trans h1,by rw [e2]; exact h2⟩
theorem RelH.cut {E:Env} {ι ιc ιz:Ix} {S S0:Sb} {h h0:Id→O} {w w0:World} (hr:RelH E ι S h w) (hlow:∀ i v,i.1 < E.d→ιc i v=ι i v) (hhigh:∀ i v,E.d ≤ i.1→ιc i v=none) (hz0:∀ i v,E.d ≤ i.1→ιz i v=none) (hr0:RelH E ιz S0 h0 w0):RelH E ιc S (Go.Proofs.YtenoggjjhamdaaaGreatDoor.cut E.d h0 h) w:=by
 have live:∀ i L,(Go.Proofs.YtenoggjjhamdaaaGreatDoor.cut E.d h0 h i).live=true→ιc i (Go.Proofs.YtenoggjjhamdaaaGreatDoor.cut E.d h0 h i).ver=some L→(h i).live=true∧ι i (h i).ver=some L:=fun i L h1 h2=>by
  unfold Go.Proofs.YtenoggjjhamdaaaGreatDoor.cut at h1 h2
  by_cases hi:i.1 < E.d
  ·rw [if_pos hi] at h1 h2
   rw [hlow i _ hi] at h2
   exact ⟨h1,h2⟩
  ·rw [hhigh i _ (by omega)] at h2
   cases h2
 refine ⟨hr.below,hr.size,fun i=>?_,fun i i' L1 L2 hne hl hl' h1 h2=>hr.apart i i' L1 L2 hne (live i L1 hl h1).1 (live i' L2 hl' h2).1 (live i L1 hl h1).2 (live i' L2 hl' h2).2,fun i v hlt=>?_,hr.sub,hr.new,hr.inw,fun i v L hi hL=>(hlow i v hi).trans (hr.old i v L hi hL),fun i v hi=>hhigh i v (by omega),hr.hold,fun b hp=>⟨(hr.prot b hp).1,(hr.prot b hp).2.1,(hr.prot b hp).2.2.1,fun i L hl hL=>(hr.prot b hp).2.2.2 i L (live i L hl hL).1 (live i L hl hL).2⟩,fun i=>?_,fun i hi=>⟨by unfold Go.Proofs.YtenoggjjhamdaaaGreatDoor.cut; rw [if_pos hi]; exact (hr.low i hi).1,fun v hv=>(hlow i v hi).trans ((hr.low i hi).2 v hv)⟩⟩
 rotate_right 1
 ·by_cases hi:i.1 < E.d
  ·rw [hlow i 0 hi]; exact hr.z i
  ·exact hhigh i 0 (by omega)
 ·unfold Go.Proofs.YtenoggjjhamdaaaGreatDoor.cut
  by_cases hi:i.1 < E.d
  ·rw [if_pos hi]
   have hob:=hr.objs i
   have e1:∀ v,ιc i v=ι i v:=fun v=>hlow i v hi
   have e2:upto i.1 ιc=upto i.1 ι:=by
    funext j v
    unfold upto
    split
    ·exact hlow j v (by omega)
    ·rfl
   exact hob.same e1 e2
  ·rw [if_neg hi]
   have hob:=hr0.objs i
   have e1:∀ v L,ιz i v=some L→False:=fun v L e=>by rw [hz0 i v (by omega)] at e; cases e
   cases ho:h0 i with
   | no v=>trivial
   | box v cs=>rw [ho] at hob; obtain ⟨L,h1,_⟩:=hob; exact (e1 _ _ h1).elim
   | vec v n xs fz =>
    rw [ho] at hob
    rcases hob with hob | ⟨L,h1,_⟩
    ·exact Or.inl ⟨hob.1,hhigh i v (by omega)⟩
    ·exact (e1 _ _ h1).elim
   | map v es c=>rw [ho] at hob; obtain ⟨L,h1,_⟩:=hob; exact (e1 _ _ h1).elim
   | sit v s p=>rw [ho] at hob; obtain ⟨L,h1,_⟩:=hob; exact (e1 _ _ h1).elim
   | mit v mm a b c=>rw [ho] at hob; obtain ⟨L,h1,_⟩:=hob; exact (e1 _ _ h1).elim
 ·unfold Go.Proofs.YtenoggjjhamdaaaGreatDoor.cut at hlt
  by_cases hi:i.1 < E.d
  ·rw [if_pos hi] at hlt
   rw [hlow i v hi]
   exact hr.vers i v hlt
  ·exact hhigh i v (by omega)
theorem resR_ok {E:Env} {ι ιc ιz:Ix} {S S0:Sb} {h h0:Id→O} {w w0:World} (hr:RelH E ι S h w) (hlow:∀ i v,i.1 < E.d→ιc i v=ι i v) (hhigh:∀ i v,E.d ≤ i.1→ιc i v=none) (hz0:∀ i v,E.d ≤ i.1→ιz i v=none) (hr0:RelH E ιz S0 h0 w0) {xs:List A} {us:List Value} (hv:VL ι S w xs us) {r:R} {ids:List Id} {k:Bool} (hx:resR k E.d h xs=some (r,ids)) :
  ∃ S',(∀ b o,S b o→S' b o)∧RelH E ιc S' (cut E.d h0 (upds h (frz h ids))) w∧RepR E.base E.prot ιc S' (cut E.d h0 (upds h (frz h ids))) w r (if h:us.toArray.size=1 then us.toArray[0] else .tuple us.toArray):=by
 obtain ⟨S',m,r',f1,f2⟩:=RelH.freezeL (h0:=h) ids (fun _=>Or.inl rfl) hr
 refine ⟨S',m.sb,r'.cut hlow hhigh hz0 hr0,?_⟩
 have one:∀ a,xs=[a]→((fzVal h a).map fun p=>(R.val p.1,p.2))=some (r,ids)→RepR E.base E.prot ιc S' (cut E.d h0 (upds h (frz h ids))) w r (if h:us.toArray.size=1 then us.toArray[0] else .tuple us.toArray):=fun a e hxo=>by
  subst e
  obtain ⟨u,rfl,hu⟩:=pl1 hv
  obtain ⟨⟨x,i⟩,h1,h2⟩:=Option.map_eq_some_iff.1 hxo
  simp only [Prod.mk.injEq] at h2
  obtain ⟨rfl,rfl⟩:=h2
  exact fzVal_ok hr m hu h1 f1
 have refd:∀ a u,us=[u]→0 < E.d→a.low (E.d - 1)=true→VA ι S w a u→RepR E.base E.prot ιc S' (cut E.d h0 (upds h (frz h ids))) w (.ref a) (if h:us.toArray.size=1 then us.toArray[0] else .tuple us.toArray):=fun a u e hp hl hu=>by
  subst e
  exact low_VA hlow hp hl (VA_mono m _ _ hu)
 have aparts:∀ id,E.d ≤ id.1→(h id).live=true→∀ L,ι id (h id).ver=some L→∀ i Li,(cut E.d h0 (upds h (frz h ids)) i).live=true→ιc i (cut E.d h0 (upds h (frz h ids)) i).ver=some Li→Li.b ≠ L.b:=fun id hid hl L hL i Li hli hLi=>by
  unfold cut at hli hLi
  by_cases hi:i.1 < E.d
  ·rw [if_pos hi] at hli hLi
   rw [hlow i _ hi,ver_of_freeze (f2 i)] at hLi
   rw [live_of_freeze (f2 i)] at hli
   exact hr.apart i id Li L (fun e=>by subst e; omega) hli hl hLi hL
  ·rw [hhigh i _ (by omega)] at hLi
   cases hLi
 unfold resR at hx
 split at hx
 ·rename_i id ver off len
  obtain ⟨u,rfl,hu⟩:=pl1 hv
  split at hx
  ·rename_i hlt
   simp only [Option.some.injEq,Prod.mk.injEq] at hx
   obtain ⟨rfl,rfl⟩:=hx
   exact refd _ u rfl (by omega) (by show decide (id.1 ≤ E.d - 1)=true; simp; omega) hu
  ·rename_i hge
   split at hx
   ·rename_i v n ys fz ho
    split at hx
    ·rename_i hc
     obtain ⟨rfl,hl⟩:=hc
     split at hx
     ·rename_i hc2
      obtain ⟨rfl,rfl,rfl⟩:=hc2
      simp only [Option.some.injEq,Prod.mk.injEq] at hx
      obtain ⟨rfl,rfl⟩:=hx
      have hu':=VA_mono m _ _ hu
      unfold VA at hu'
      obtain ⟨a,cap,rfl,h1,h2⟩:=hu'
      refine ⟨a,cap,rfl,h1,?_⟩
      rcases h2 with rfl | ⟨L,hL,rfl,h3⟩
      ·left; exact ⟨List.length_eq_zero_iff.1 (by omega),rfl⟩
      ·have hob:=r'.objs id
       have ho':upds h (frz h []) id = .vec v n ys false:=ho
       rw [ho'] at hob
       rcases hob with ⟨_,g⟩ | ⟨L',g1,g2,g3,g4,g5,g6,g7,g8,g9,g10⟩
       ·rw [hL] at g; cases g
       ·rw [hL] at g1
        cases g1
        exact Or.inr ⟨L,by simp,g2,g3,g4,g5,by omega,g6,g7,g9 rfl,aparts id (by omega) (by rw [ho]; rfl) L (by rw [ho]; exact hL),fun b hb=>(hr.prot b hb).2.2.2 id L (by rw [ho]; rfl) (by rw [ho]; exact hL)⟩
     ·simp only [Option.some.injEq,Prod.mk.injEq] at hx
      obtain ⟨rfl,rfl⟩:=hx
      exact fz_lst hr m ho hl f1 hu
    ·cases hx
   ·cases hx
 ·rename_i id ver
  obtain ⟨u,rfl,hu⟩:=pl1 hv
  split at hx
  ·rename_i hlt
   simp only [Option.some.injEq,Prod.mk.injEq] at hx
   obtain ⟨rfl,rfl⟩:=hx
   exact refd _ u rfl (by omega) (by show decide (id.1 ≤ E.d - 1)=true; simp; omega) hu
  ·rename_i hge
   split at hx
   ·rename_i v es clock ho
    split at hx
    ·rename_i hc
     subst hc
     obtain ⟨⟨xs,i⟩,k1,k2⟩:=Option.map_eq_some_iff.1 hx
     simp only [Prod.mk.injEq] at k2
     obtain ⟨rfl,rfl⟩:=k2
     unfold VA at hu
     obtain ⟨L,hL,rfl⟩:=hu
     have hob:=r'.objs id
     have ho':upds h (frz h i) id = .map v es clock:=by
      rcases f2 id with e | e
      ·rw [e,ho]
      ·rw [e,ho]; rfl
     rw [ho'] at hob
     obtain ⟨L',g1,g2,g3,g4,ens,g5,g6,g7,g8⟩:=hob
     rw [hL] at g1
     cases g1
     have hob2:=hr.objs id
     rw [ho] at hob2
     obtain ⟨L',q1,q2,q3,q4,ens',q5,q6,q7,q8⟩:=hob2
     rw [hL] at q1
     cases q1
     rw [g5] at q5
     cases q5
     have hfst:=fzEnts_low k1
     refine ⟨L.b,rfl,g2,g3,g4,⟨ens,g5,fzEnts_ok hr m (fun a b c e=>(upto_some e).2) q6 k1 f1,fun e he=>?_,?_⟩,aparts id (by omega) (by rw [ho]; rfl) L (by rw [ho]; exact hL),fun b hb=>(hr.prot b hb).2.2.2 id L (by rw [ho]; rfl) (by rw [ho]; exact hL)⟩
     ·have:e.1 ∈ es.map (·.1):=by rw [← hfst]; exact List.mem_map_of_mem he
      obtain ⟨e',he',heq⟩:=List.mem_map.1 this
      rw [← heq]; exact g7 e' he'
     ·have h9:(es.map (·.1)).Pairwise (· ≠ ·):=List.pairwise_map.2 g8
      rw [← hfst] at h9
      exact List.pairwise_map.1 h9
    ·cases hx
   ·cases hx
 ·rename_i id ver off
  obtain ⟨u,rfl,hu⟩:=pl1 hv
  split at hx
  ·rename_i hlt
   simp only [Option.some.injEq,Prod.mk.injEq] at hx
   obtain ⟨rfl,rfl⟩:=hx
   exact refd _ u rfl (by omega) (by show decide (id.1 ≤ E.d - 1)=true; simp; omega) hu
  ·cases hx
 ·rename_i f caps
  obtain ⟨u,rfl,hu⟩:=pl1 hv
  split at hx
  ·rename_i hc
   simp only [Option.some.injEq,Prod.mk.injEq] at hx
   obtain ⟨rfl,rfl⟩:=hx
   simp only [Bool.or_eq_true,Bool.and_eq_true,decide_eq_true_eq] at hc
   rcases hc with hc | hc
   ·exact plain_VA (show A.plain (.clo f caps)=true from hc) (VA_mono m _ _ hu)
   ·exact refd _ u rfl hc.1 hc.2 hu
  ·simp only [Option.some.injEq,Prod.mk.injEq] at hx
   obtain ⟨rfl,rfl⟩:=hx
   unfold VA at hu
   obtain ⟨vs,rfl,_⟩:=hu
   exact ⟨_,rfl,rfl⟩
 ·rename_i a _ _ _ _
  exact one a rfl hx
 ·simp only [Option.some.injEq,Prod.mk.injEq] at hx
  obtain ⟨rfl,rfl⟩:=hx
  unfold VL at hv
  subst hv
  refine ⟨#[],rfl,?_⟩
  show VL _ _ _ [] []
  unfold VL; rfl
 ·rename_i h1 h2 h3 h4 h5 h6
  have hne:¬ us.toArray.size=1:=fun e=>by
   have hl:=(VL_get.1 hv).1
   simp only [List.size_toArray] at e
   cases xs with
   | nil=>simp at hl; omega
   | cons x xs =>
    cases xs with
    | nil=>exact h5 x rfl
    | cons y ys=>simp at hl; omega
  rw [dif_neg hne]
  split at hx
  ·unfold resT at hx
   split at hx
   ·rename_i id ver off len rest
    split at hx
    ·cases hx
    ·rename_i hge
     split at hx
     ·rename_i v n ys fz ho
      split at hx
      ·rename_i hc
       obtain ⟨rfl,rfl,rfl,rfl⟩:=hc
       split at hx
       ·rename_i l ids' hk
        split at hx
        ·cases hx
        ·rename_i hnot
         simp only [Option.some.injEq,Prod.mk.injEq] at hx
         obtain ⟨rfl,rfl⟩:=hx
         unfold VL at hv
         obtain ⟨u,us',rfl,hu,hvs⟩:=hv
         refine ⟨u,_,us',rfl,rfl,?_,keepAs_ok hr m hlow hvs hk f1⟩
         have hu':=VA_mono m _ _ hu
         unfold VA at hu'
         obtain ⟨a,cap,rfl,h1,h2⟩:=hu'
         refine ⟨a,cap,rfl,h1,?_⟩
         rcases h2 with rfl | ⟨L,hL,rfl,h3⟩
         ·left; exact ⟨List.length_eq_zero_iff.1 (by omega),rfl⟩
         ·have hob:=r'.objs id
          have hni:id ∉ ids':=by simpa using hnot
          have ho':upds h (frz h ids') id = .vec v n ys false:=by rw [frz_other hni,ho]
          rw [ho'] at hob
          rcases hob with ⟨_,g⟩ | ⟨L',g1,g2,g3,g4,g5,g6,g7,g8,g9,g10⟩
          ·rw [hL] at g; cases g
          ·rw [hL] at g1
           cases g1
           exact Or.inr ⟨L,by simp,g2,g3,g4,g5,by omega,g6,g7,g9 rfl,aparts id (by omega) (by rw [ho]; rfl) L (by rw [ho]; exact hL),fun b hb=>(hr.prot b hb).2.2.2 id L (by rw [ho]; rfl) (by rw [ho]; exact hL)⟩
       ·cases hx
      ·cases hx
     ·cases hx
   ·rename_i ys rest
    obtain ⟨⟨l,i⟩,g3,g4⟩:=Option.map_eq_some_iff.1 hx
    simp only [Prod.mk.injEq] at g4
    obtain ⟨rfl,rfl⟩:=g4
    unfold VL at hv
    obtain ⟨u,us',rfl,hu,hvs⟩:=hv
    refine ⟨_,rfl,?_⟩
    show VL _ _ _ _ (u :: us')
    unfold VL
    refine ⟨u,us',rfl,?_,keepAs_ok hr m hlow hvs g3 f1⟩
    have hu':=VA_mono m _ _ hu
    unfold VA at hu' ⊢
    exact hu'
   ·cases hx
  ·obtain ⟨⟨ds,i⟩,g3,g4⟩:=Option.map_eq_some_iff.1 hx
   simp only [Prod.mk.injEq] at g4
   obtain ⟨rfl,rfl⟩:=g4
   exact ⟨us.toArray,rfl,by simpa using keepAs_ok hr m hlow hv g3 f1⟩
end
section
def Bx (P:Program) (X:Orc) (n:Nat) (f:FuncId) (d:Nat) (h:Id→O) (az:List A) (r:R × (Id→O)):Prop :=
 ∃ fn c,P.funcs[f]? = some fn∧fn.body=some c∧az.length ≤ fn.ntmps∧fn.name ≠ "runtime.NumGoroutine" ∧
  Wx P X n c (initSt fn d h az) fun x st=>(x = .normal ∨ x = .ret)∧bodyR P fn d h st=some r
theorem bx_of {P:Program} {X:Orc} {n:Nat} {f:FuncId} {d:Nat} {h:Id→O} {az:List A} {r:R × (Id→O)} (hb:body P X n f d h az=some r):Bx P X n f d h az r:=by
 unfold body at hb
 split at hb
 ·cases hb
 ·rename_i fn hf
  split at hb
  ·cases hb
  ·rename_i c hbody
   split at hb
   ·rename_i hc
    refine ⟨fn,c,hf,hbody,hc.1,hc.2,?_⟩
    split at hb
    ·rename_i st hex; exact wx_of c _ hex ⟨Or.inl rfl,hb⟩
    ·rename_i st hex; exact wx_of c _ hex ⟨Or.inr rfl,hb⟩
    ·cases hb
   ·cases hb
theorem body_ret {P:Program} {I:World→Prop} {X:Orc} (hX:Sound P I X) (hP:P.follows .mixedOrders=true) {n:Nat} {f:FuncId} {d:Nat} {h:Id→O} {az:List A} {r:R} {h':Id→O} (hb:Bx P X n f d h az (r,h')):Ret P I f d h az r h':=by
    obtain ⟨fn,c,hf,hbody,hlen,hname,hwx⟩:=hb
    refine ⟨enters_of hf (by simpa using hname) (by rw [hbody]; rfl),fun E ι S w vs hE hd hι hS hw hhigh hr0 hvs=>?_⟩
    subst hd
    obtain ⟨l1,l2⟩:=VL_get.1 hvs
    simp only [Array.length_toList] at l1
    refine calls_of_wp hf hbody ?_
    have ht0:RelT E ι S w (initSt fn E.d h az) { tmps:=vs ++ Array.replicate (fn.ntmps - vs.size) undef,defers:=[] }:=by
     refine ⟨rfl,by simp [initSt]; omega,rfl,fun i hi=>?_⟩
     show VA _ _ _ (az.getD i (.d (.s undef))) ((vs ++ Array.replicate (fn.ntmps - vs.size) undef).getD i undef)
     rw [Array.getD_eq_getD_getElem?,List.getD_eq_getElem?_getD]
     by_cases hi':i < vs.size
     ·rw [Array.getElem?_append_left hi',Array.getElem?_eq_getElem hi',List.getElem?_eq_getElem (by omega)]
      exact l2 i _ _ (List.getElem?_eq_getElem (by omega)) (by simp [hi'])
     ·rw [Array.getElem?_append_right (by omega),List.getElem?_eq_none (by omega),Array.getElem?_replicate]
      have:(if i - vs.size < fn.ntmps - vs.size then some undef else none).getD undef=undef:=by split <;> rfl
      rw [this]
      show VA _ _ _ (.d (.s undef)) undef
      unfold VA ValD CellsD
      exact ⟨rfl,rfl⟩
    refine wx_wp hX hP hE n c (initSt fn E.d h az) _ S w _ _ _ ht0 hr0 hwx fun x st hk ι' S' w' a' ht' hr'=>?_
    obtain ⟨hx,hres⟩:=hk
    unfold bodyR at hres
    obtain ⟨⟨r1,ids⟩,hres1,hres2⟩:=Option.bind_eq_some_iff.1 hres
    split at hres2
    case isFalse=>cases hres2
    simp only [Option.some.injEq,Prod.mk.injEq] at hres2
    obtain ⟨rfl,rfl⟩:=hres2
    obtain ⟨as',h1,h2⟩:=Option.bind_eq_some_iff.1 hres1
    obtain ⟨us,g1,g2⟩:=results_ok (P:=P) ht' hr' h1
    have hlow:∀ (i:Id) v,i.1 < E.d→(fun (i:Id) v=>if i.1 < E.d then ι' i v else none:Ix) i v=ι' i v:=fun i v hi=>by simp only [hi,if_true]
    have hhi:∀ (i:Id) v,E.d ≤ i.1→(fun (i:Id) v=>if i.1 < E.d then ι' i v else none:Ix) i v=none:=fun i v hi=>by simp only [Nat.not_lt.2 hi,if_false]
    have hext:∀ id ver L,ι id ver=some L→(fun (i:Id) v=>if i.1 < E.d then ι' i v else none:Ix) id ver=some L:=fun id ver L hL=>by
     by_cases hi:id.1 < E.d
     ·simp only [hi,if_true]; exact hr'.old id ver L hi (by rw [hι]; exact hL)
     ·rw [hhigh id ver (by omega)] at hL; cases hL
    obtain ⟨S2,k1,k2,k3⟩:=resR_ok hr' hlow hhi hhigh hr0 g2 h2
    have post:a'.defers=[] ∧ ∃ v,(results fn a'.tmps).run P w' = .ok v w' ∧ ∃ v' ι9 S',Ending.returned v = .returned v' ∧ Mono ι S w ι9 S' w' ∧ (∀ i v,E.d ≤ i.1→ι9 i v=none)∧RelH E ι9 S' (cut E.d h (upds st.h (frz st.h ids))) w' ∧ RepR E.base E.prot ι9 S' (cut E.d h (upds st.h (frz st.h ids))) w' r1 v' :=
     ⟨ht'.defers,_,g1,_,_,S2,rfl,⟨hext,fun b o hs=>k1 b o (hr'.sub b o (by rw [hS]; exact hs)),fun b o hs=>by have:=hr'.hold b o (by rw [hS]; exact hs); rw [hw] at this; exact this⟩,hhi,k2,k3⟩
    rcases hx with rfl | rfl
    ·exact post
    ·exact post
theorem WOps_mono {P:Program} {X:Orc} {O:Array Oper} {K L:St→Prop} (hk:∀ s,K s→L s):∀ {l:List Oper} {st:St},WOps P X O l st K→WOps P X O l st L
 | [],st,h=>hk _ h
 | o :: l,st,h=>by
  unfold WOps at *
  rcases h with ⟨e,g1,g2⟩ | ⟨x,es,h1,h2,h3,h4,h0,h5⟩
  ·exact Or.inl ⟨e,g1,WOps_mono hk g2⟩
  ·exact Or.inr ⟨x,es,h1,h2,h3,h4,h0,fun e he=>WOps_mono hk (h5 e he)⟩
theorem Wit_mono {f:St→(Ex→St→Prop)→Prop} (hf:∀ st K L,(∀ x s,K x s→L x s)→f st K→f st L) {K L:Ex→St→Prop} (hk:∀ x s,K x s→L x s):∀ {n:Nat} {st:St},Wit f n st K→Wit f n st L
 | 0,st,h=>h
 | n + 1,st,h=>by
  unfold Wit at *
  refine hf st _ _ (fun x s h=>?_) h
  cases x with
  | normal=>exact Wit_mono hf hk h
  | _=>exact hk _ _ h
theorem Wx_mono {P:Program} {X:Orc} {N:Nat}:∀ (c:Code) {st:St} {K L:Ex→St→Prop},(∀ x s,K x s→L x s)→Wx P X N c st K→Wx P X N c st L
 | .skip,st,K,L,hk,h=>hk _ _ h
 | .label _,st,K,L,hk,h=>hk _ _ h
 | .exit _,st,K,L,hk,h=>hk _ _ h
 | .goto _,st,K,L,hk,h=>hk _ _ h
 | .ret,st,K,L,hk,h=>hk _ _ h
 | .region _ ops false,st,K,L,hk,h=>WOps_mono (K:=K .normal) (L:=L .normal) (fun s=>hk _ s) h
 | .region _ ops true,st,K,L,hk,h=>by
  obtain ⟨s,es,h1,h2,h3⟩:=h
  exact ⟨s,es,h1,h2,hk _ _ h3⟩
 | .seq a b,st,K,L,hk,h=>by
  unfold Wx at *
  refine Wx_mono a (fun x s h=>?_) h
  cases x with
  | normal=>exact Wx_mono b hk h
  | _=>exact hk _ _ h
 | .cond c a b,st,K,L,hk,h=>by
  unfold Wx at *
  cases hb:(st.ev c).bool? with
  | none=>rw [hb] at h; exact h
  | some t =>
   rw [hb] at h
   cases t with
   | true=>exact Wx_mono a hk h
   | false=>exact Wx_mono b hk h
 | .block id a,st,K,L,hk,h=>by
  unfold Wx at *
  refine Wx_mono a (fun x s h=>?_) h
  cases x with
  | exit i =>
   by_cases e:i=id
   ·simp only [e,if_true] at h ⊢; exact hk _ _ h
   ·simp only [e,if_false] at h ⊢; exact hk _ _ h
  | _=>exact hk _ _ h
 | .loop a,st,K,L,hk,h=>Wit_mono (f:=Wx P X N a) (fun st K L g=>Wx_mono a g) hk h
 | .scope a,st,K,L,hk,h=>by
  unfold Wx at *
  refine Wx_mono a (fun x s h=>?_) h
  cases x with
  | goto i=>exact h
  | _=>exact hk _ _ h
 | .rangeFunc ..,st,K,L,hk,h=>h
 | .refuse _,st,K,L,hk,h=>h
theorem nexts_ne {h:Id→O} {x:A} {es:List Eff} (he:nextsE h x=some es):∃ e,e ∈ es:=by
 unfold nextsE at he
 split at he
 ·split at he
  ·split at he
   ·split at he
    ·simp only [Option.some.injEq] at he
     subst he
     split
     ·exact ⟨_,List.mem_singleton.2 rfl⟩
     ·rename_i hne
      obtain ⟨a,ha⟩:∃ a,a ∈ List.filter _ _:=List.exists_mem_of_ne_nil _ (fun e=>hne (by rw [e]; rfl))
      exact ⟨_,List.mem_map.2 ⟨a,ha,rfl⟩⟩
    ·cases he
   ·cases he
  ·cases he
 ·cases he
def FR (st s:St):Prop:=s.d=st.d∧s.al=st.al ∧ ∀ i:Id,i.1 ≠ st.d→i ∉ st.al→s.h i=st.h i
theorem FR.refl (st:St):FR st st:=⟨rfl,rfl,fun _ _ _=>rfl⟩
theorem FR.trans {a b c:St} (h:FR a b) (k:FR b c):FR a c :=
 ⟨k.1.trans h.1,k.2.1.trans h.2.1,fun i h1 h2=>(k.2.2 i (by rw [h.1]; exact h1) (by rw [h.2.1]; exact h2)).trans (h.2.2 i h1 h2)⟩
theorem upds_okW {d:Nat} {al:List Id} {i:Id} (h1:i.1 ≠ d) (h2:i ∉ al):∀ (l:List (Id × O)) (T:Id→O),okW d al l=true→upds T l i=T i
 | [],T,_=>rfl
 | (j,v) :: l,T,h=>by
  simp only [okW,Bool.and_eq_true,Bool.or_eq_true,beq_iff_eq] at h
  show upds (upd T j v) l i=T i
  rw [upds_okW h1 h2 l _ h.2]
  unfold upd
  rw [if_neg]
  rintro rfl
  rcases h.1 with h | h
  ·exact h1 h
  ·exact h2 (by simpa using h)
theorem FR.put {st:St} {dst:Option Tmp} {e:Eff} (h:okW st.d st.al e.wr=true):FR st (st.put dst e) :=
 ⟨rfl,rfl,fun i h1 h2=>upds_okW h1 h2 _ _ h⟩
theorem step_okW {P:Program} {X:Orc} {ops:Array Oper} {o:Oper} {st:St} {e:Eff} (h:stepE P X ops o st=some e):okW st.d st.al e.wr=true:=by
 unfold stepE at h
 split at h
 ·split at h
  ·unfold chkE at h
   split at h
   ·split at h
    ·rename_i hok
     simp only [Option.some.injEq] at h
     subst h; exact hok
    ·cases h
   ·cases h
  ·simp only [Option.some.injEq] at h
   subst h; rfl
  ·cases h
 ·cases h
theorem WOps_frame {P:Program} {X:Orc} {O:Array Oper} {K:St→Prop}:∀ {l:List Oper} {st:St},WOps P X O l st K→WOps P X O l st fun s=>K s∧FR st s
 | [],st,h=>⟨h,FR.refl _⟩
 | o :: l,st,h=>by
  unfold WOps at *
  rcases h with ⟨e,g1,g2⟩ | ⟨x,es,h1,h2,h3,h4,h5,h6⟩
  ·exact Or.inl ⟨e,g1,WOps_mono (fun s k=>⟨k.1,(FR.put (step_okW g1)).trans k.2⟩) (WOps_frame g2)⟩
  ·exact Or.inr ⟨x,es,h1,h2,h3,h4,h5,fun e he=>WOps_mono (fun s k=>⟨k.1,(FR.put (h5 e he)).trans k.2⟩) (WOps_frame (h6 e he))⟩
theorem runTr_frame {P:Program} {X:Orc} {O:Array Oper}:∀ {l:List Oper} {st s:St} {es:List Eff},runTr P X O l st=some (s,es)→FR st s
 | [],st,s,es,h=>by
  simp only [runTr,Option.some.injEq,Prod.mk.injEq] at h
  rw [← h.1]; exact FR.refl _
 | o :: l,st,s,es,h=>by
  unfold runTr at h
  split at h
  ·cases h
  ·rename_i e he
   split at h
   ·cases h
   ·rename_i s2 es2 h2
    simp only [Option.some.injEq,Prod.mk.injEq] at h
    rw [← h.1]
    exact (FR.put (step_okW he)).trans (runTr_frame h2)
theorem Wit_frame {f:St→(Ex→St→Prop)→Prop} (hm:∀ st K L,(∀ x s,K x s→L x s)→f st K→f st L) (hf:∀ st K,f st K→f st fun x s=>K x s∧FR st s) {K:Ex→St→Prop}:∀ {n:Nat} {st:St},Wit f n st K→Wit f n st fun x s=>K x s∧FR st s
 | 0,st,h=>h
 | n + 1,st,h=>by
  unfold Wit at *
  refine hm st _ _ (fun x s k=>?_) (hf st _ h)
  obtain ⟨k,fr⟩:=k
  cases x with
  | normal=>exact Wit_mono hm (fun x s k=>⟨k.1,fr.trans k.2⟩) (Wit_frame hm hf k)
  | exit i=>exact ⟨k,fr⟩
  | goto i=>exact ⟨k,fr⟩
  | ret=>exact ⟨k,fr⟩
theorem Wx_frame {P:Program} {X:Orc} {N:Nat}:∀ (c:Code) {st:St} {K:Ex→St→Prop},Wx P X N c st K→Wx P X N c st fun x s=>K x s∧FR st s
 | .skip,st,K,h=>⟨h,FR.refl _⟩
 | .label _,st,K,h=>⟨h,FR.refl _⟩
 | .exit _,st,K,h=>⟨h,FR.refl _⟩
 | .goto _,st,K,h=>⟨h,FR.refl _⟩
 | .ret,st,K,h=>⟨h,FR.refl _⟩
 | .region _ ops false,st,K,h=>WOps_frame (K:=K .normal) h
 | .region _ ops true,st,K,h=>by
  obtain ⟨s,es,h1,h2,h3⟩:=h
  exact ⟨s,es,h1,h2,h3,runTr_frame h1⟩
 | .seq a b,st,K,h=>by
  unfold Wx at *
  refine Wx_mono a (fun x s k=>?_) (Wx_frame a h)
  obtain ⟨k,fr⟩:=k
  cases x with
  | normal=>exact Wx_mono b (fun x s k=>⟨k.1,fr.trans k.2⟩) (Wx_frame b k)
  | exit i=>exact ⟨k,fr⟩
  | goto i=>exact ⟨k,fr⟩
  | ret=>exact ⟨k,fr⟩
 | .cond c a b,st,K,h=>by
  unfold Wx at *
  cases hb:(st.ev c).bool? with
  | none=>rw [hb] at h; exact absurd h id
  | some t =>
   rw [hb] at h
   cases t with
   | true=>exact Wx_frame a h
   | false=>exact Wx_frame b h
 | .block id a,st,K,h=>by
  unfold Wx at *
  refine Wx_mono a (fun x s k=>?_) (Wx_frame a h)
  obtain ⟨k,fr⟩:=k
  cases x with
  | exit i =>
   by_cases e:i=id
   ·simp only [e,if_true] at k ⊢; exact ⟨k,fr⟩
   ·simp only [e,if_false] at k ⊢; exact ⟨k,fr⟩
  | normal=>exact ⟨k,fr⟩
  | goto i=>exact ⟨k,fr⟩
  | ret=>exact ⟨k,fr⟩
 | .loop a,st,K,h=>Wit_frame (f:=Wx P X N a) (fun st K L g=>Wx_mono a g) (fun st K g=>Wx_frame a g) h
 | .scope a,st,K,h=>by
  unfold Wx at *
  refine Wx_mono a (fun x s k=>?_) (Wx_frame a h)
  obtain ⟨k,fr⟩:=k
  cases x with
  | goto i=>exact absurd k id
  | normal=>exact ⟨k,fr⟩
  | exit i=>exact ⟨k,fr⟩
  | ret=>exact ⟨k,fr⟩
 | .rangeFunc ..,st,K,h=>h
 | .refuse _,st,K,h=>h
theorem WOps_ex {P:Program} {X:Orc} {O:Array Oper} {K:St→Prop}:∀ {l:List Oper} {st:St},WOps P X O l st K→∃ s,K s
 | [],st,h=>⟨st,h⟩
 | o :: l,st,h=>by
  unfold WOps at h
  rcases h with ⟨e,g1,g2⟩ | ⟨x,es,h1,h2,h3,h4,h5,h6⟩
  ·exact WOps_ex g2
  ·obtain ⟨e,he⟩:=nexts_ne h4
   exact WOps_ex (h6 e he)
theorem Wit_ex {f:St→(Ex→St→Prop)→Prop} (hf:∀ st K,f st K→∃ x s,K x s) {K:Ex→St→Prop}:∀ {n:Nat} {st:St},Wit f n st K→∃ x s,K x s
 | 0,st,h=>absurd h id
 | n + 1,st,h=>by
  unfold Wit at h
  obtain ⟨x,s,k⟩:=hf st _ h
  cases x with
  | normal=>exact Wit_ex hf k
  | exit i=>exact ⟨_,_,k⟩
  | goto i=>exact ⟨_,_,k⟩
  | ret=>exact ⟨_,_,k⟩
theorem Wx_ex {P:Program} {X:Orc} {N:Nat}:∀ (c:Code) {st:St} {K:Ex→St→Prop},Wx P X N c st K→∃ x s,K x s
 | .skip,st,K,h=>⟨_,_,h⟩
 | .label _,st,K,h=>⟨_,_,h⟩
 | .exit _,st,K,h=>⟨_,_,h⟩
 | .goto _,st,K,h=>⟨_,_,h⟩
 | .ret,st,K,h=>⟨_,_,h⟩
 | .region _ ops false,st,K,h=>by
  obtain ⟨s,k⟩:=WOps_ex (K:=K .normal) h
  exact ⟨_,s,k⟩
 | .region _ ops true,st,K,h=>by
  obtain ⟨s,es,h1,h2,h3⟩:=h
  exact ⟨_,s,h3⟩
 | .seq a b,st,K,h=>by
  unfold Wx at h
  obtain ⟨x,s,k⟩:=Wx_ex a h
  cases x with
  | normal=>exact Wx_ex b k
  | exit i=>exact ⟨_,_,k⟩
  | goto i=>exact ⟨_,_,k⟩
  | ret=>exact ⟨_,_,k⟩
 | .cond c a b,st,K,h=>by
  unfold Wx at h
  split at h
  ·exact Wx_ex a h
  ·exact Wx_ex b h
  ·exact absurd h id
 | .block id a,st,K,h=>by
  unfold Wx at h
  obtain ⟨x,s,k⟩:=Wx_ex a h
  cases x with
  | exit i =>
   by_cases e:i=id
   ·simp only [e,if_true] at k; exact ⟨_,_,k⟩
   ·simp only [e,if_false] at k; exact ⟨_,_,k⟩
  | normal=>exact ⟨_,_,k⟩
  | goto i=>exact ⟨_,_,k⟩
  | ret=>exact ⟨_,_,k⟩
 | .loop a,st,K,h=>Wit_ex (f:=Wx P X N a) (fun st K g=>Wx_ex a g) h
 | .scope a,st,K,h=>by
  unfold Wx at h
  obtain ⟨x,s,k⟩:=Wx_ex a h
  cases x with
  | goto i=>exact absurd k id
  | normal=>exact ⟨_,_,k⟩
  | exit i=>exact ⟨_,_,k⟩
  | ret=>exact ⟨_,_,k⟩
 | .rangeFunc ..,st,K,h=>absurd h id
 | .refuse _,st,K,h=>absurd h id
theorem bx_frame {P:Program} {X:Orc} {n:Nat} {f:FuncId} {d:Nat} {h:Id→O} {az:List A} {r:R} {h':Id→O} (hb:Bx P X n f d h az (r,h')):∀ i,i ∉ reachIds h 3 (idsL az)→h' i=h i:=by
 obtain ⟨fn,c,hf,hc,hl,hn,hw⟩:=hb
 obtain ⟨x,s,⟨_,hr⟩,fr⟩:=Wx_ex c (Wx_frame c hw)
 intro i hi
 unfold bodyR at hr
 obtain ⟨⟨r1,ids⟩,h1,h2⟩:=Option.bind_eq_some_iff.1 hr
 split at h2
 ·rename_i hok
  simp only [Option.some.injEq,Prod.mk.injEq] at h2
  rw [← h2.2]
  unfold cut
  split
  ·rename_i hid
   have hd:s.d=d:=fr.1
   have hne:i.1 ≠ d:=by omega
   have hal:s.al=reachIds h 3 (idsL az):=fr.2.1
   rw [upds_okW (by rw [hd]; exact hne) (by rw [hal]; exact hi) _ _ hok]
   exact fr.2.2 i hne hi
  ·rfl
 ·cases h2
structure ExtOk (P:Program) (I:World→Prop) (ext:Exts):Prop where
 orders:P.follows .mixedOrders=true
 keep:∀ w w',I w→Below w.heap.size w w'→I w'
 frame:∀ f g d h az r h',ext f=some g→g d h az=some (r,h')→∀ i,i ∉ reachIds h 3 (idsL az)→h' i=h i
 ext:∀ f g d h az r h',ext f=some g→g d h az=some (r,h')→Ret P I f d h az r h'
end
section
def Compat (X Y:Orc):Prop:=∀ f d h az a b,X f d h az=some a→Y f d h az=some b→a=b
theorem callE_compat {X Y:Orc} (hc:Compat X Y) {d:Nat} {h:Id→O} {id:Id} {f:FuncId} {l:List A} {e e':Eff} (h1:callE X d h id f l=some e) (h2:callE Y d h id f l=some e'):e=e':=by
 unfold callE at h1 h2
 split at h1
 ·cases h1
 ·rename_i az ids hfz
  rw [hfz] at h2
  simp only at h2
  split at h1
  ·rename_i hp
   rw [if_pos hp] at h2
   split at h1
   ·rename_i r k hx
    split at h2
    ·rename_i r' k' hy
     cases hc _ _ _ _ _ _ hx hy
     rw [h1] at h2; cases h2; rfl
    ·cases h2
   ·cases h1
  ·rename_i hp
   rw [if_neg hp] at h2
   split at h1
   ·rename_i hcl
    rw [if_pos hcl] at h2
    split at h1
    ·rename_i r k hx
     split at h2
     ·rename_i r' k' hy
      cases hc _ _ _ _ _ _ hx hy
      rw [h1] at h2; cases h2; rfl
     ·cases h2
    ·cases h1
   ·cases h1
theorem opE_compat {P:Program} {X Y:Orc} (hc:Compat X Y) {d:Nat} {ev:Operand→A} {h:Id→O} {id:Id} {o:Oper} {e e':Eff} (h1:opE P X d ev h id o=some e) (h2:opE P Y d ev h id o=some e'):e=e':=by
 by_cases hcall:∃ c x,o.op = .call c∧c.callee = .value x
 ·obtain ⟨c,x,hop,hcl⟩:=hcall
  unfold opE at h1 h2
  rw [hop] at h1 h2
  cases x with
  | func f =>
   simp only [hcl] at h1 h2
   exact callE_compat hc h1 h2
  | tmp t =>
   simp only [hcl] at h1 h2
   split at h1
   ·rename_i f caps hx
    rw [hx] at h2
    exact callE_compat hc h1 h2
   ·cases h1
  | const v =>
   simp only [hcl] at h1 h2
   split at h1
   ·rename_i f caps hx
    rw [hx] at h2
    exact callE_compat hc h1 h2
   ·cases h1
  | global g =>
   simp only [hcl] at h1 h2
   split at h1
   ·rename_i f caps hx
    rw [hx] at h2
    exact callE_compat hc h1 h2
   ·cases h1
 ·have e0:opE P X d ev h id o=opE P Y d ev h id o:=by
   unfold opE
   split <;> try rfl
   rename_i c hop
   split <;> try rfl
   ·rename_i f hcl
    exact absurd ⟨c,_,hop,hcl⟩ hcall
   ·rename_i x hnf hcl
    exact absurd ⟨c,_,hop,hcl⟩ hcall
  rw [e0,h2] at h1
  cases h1
  rfl
theorem stepE_compat {P:Program} {X Y:Orc} (hc:Compat X Y) {ops:Array Oper} {o:Oper} {st:St} {e e':Eff} (h1:stepE P X ops o st=some e) (h2:stepE P Y ops o st=some e'):e=e':=by
 unfold stepE at h1 h2
 by_cases hd:dstOk st.n o.dst=true
 ·rw [if_pos hd] at h1 h2
  cases hw:wantedA ops st o with
  | none=>rw [hw] at h1; cases h1
  | some b =>
   rw [hw] at h1 h2
   cases b with
   | true =>
    simp only at h1 h2
    unfold chkE at h1 h2
    split at h1
    ·rename_i e1 hop1
     split at h2
     ·rename_i e2 hop2
      have:=opE_compat hc hop1 hop2
      subst this
      split at h1
      ·rename_i hok
       rw [if_pos hok] at h2
       rw [h1] at h2
       simpa using h2
      ·cases h1
     ·cases h2
    ·cases h1
   | false =>
    simp only [Option.some.injEq] at h1 h2
    rw [← h1,← h2]
 ·rw [if_neg hd] at h1; cases h1
theorem runTr_compat {P:Program} {X Y:Orc} (hc:Compat X Y) {ops:Array Oper}:∀ {l:List Oper} {st:St} {p p':St × List Eff},runTr P X ops l st=some p→runTr P Y ops l st=some p'→p=p'
 | [],st,p,p',h1,h2=>by
  simp only [runTr,Option.some.injEq] at h1 h2
  rw [← h1,← h2]
 | o :: l,st,p,p',h1,h2=>by
  unfold runTr at h1 h2
  split at h1
  ·cases h1
  ·rename_i e1 k1
   split at h2
   ·cases h2
   ·rename_i e2 k2
    have:=stepE_compat hc k1 k2
    subst this
    split at h1
    ·cases h1
    ·rename_i s1 es1 g1
     split at h2
     ·cases h2
     ·rename_i s2 es2 g2
      have:=runTr_compat hc g1 g2
      cases this
      rw [h1] at h2
      cases h2
      rfl
theorem next_none {P:Program} {X:Orc} {ops:Array Oper} {o:Oper} {st:St} {x:Operand} (hop:o.op = .next x false) (hw:wantedA ops st o=some true) {e:Eff} (he:stepE P X ops o st=some e):False:=by
 unfold stepE at he
 split at he
 ·rw [hw] at he
  have h0:opE P X st.d st.ev st.h (st.d,o.dst.getD st.n) o=none:=by
   simp only [opE,hop,nextE]
   split
   ·split
    ·simp
    ·rfl
   ·rfl
  simp only [h0] at he
  cases he
 ·cases he
theorem wops_det {P:Program} {X Y:Orc} (hc:Compat X Y) {ops:Array Oper}:∀ {l:List Oper} {st:St} {K L:St→Prop},WOps P X ops l st K→WOps P Y ops l st L→∃ s,K s∧L s
 | [],st,K,L,h1,h2=>⟨st,h1,h2⟩
 | o :: l,st,K,L,h1,h2=>by
  unfold WOps at h1 h2
  rcases h1 with ⟨e,g1,g2⟩ | ⟨x,es,hop,hd,hw,hes,_,hall⟩
  ·rcases h2 with ⟨e',g1',g2'⟩ | ⟨x',es',hop',hd',hw',hes',_,hall'⟩
   ·have:=stepE_compat hc g1 g1'
    subst this
    exact wops_det hc g2 g2'
   ·exact (next_none hop' hw' g1).elim
  ·rcases h2 with ⟨e',g1',g2'⟩ | ⟨x',es',hop',hd',hw',hes',_,hall'⟩
   ·exact (next_none hop hw g1').elim
   ·rw [hop] at hop'
    cases hop'
    rw [hes] at hes'
    cases hes'
    obtain ⟨e,he⟩:=nexts_ne hes
    exact wops_det hc (hall e he) (hall' e he)
theorem wit_det {f g:St→(Ex→St→Prop)→Prop} (hfg:∀ st K L,f st K→g st L→∃ x s,K x s∧L x s):∀ {n m:Nat} {st:St} {K L:Ex→St→Prop},Wit f n st K→Wit g m st L→∃ x s,K x s∧L x s
 | 0,_,_,_,_,h1,_=>absurd h1 id
 | _ + 1,0,_,_,_,_,h2=>absurd h2 id
 | n + 1,m + 1,st,K,L,h1,h2=>by
  unfold Wit at h1 h2
  obtain ⟨x,s,k,l⟩:=hfg st _ _ h1 h2
  cases x with
  | normal=>exact wit_det hfg k l
  | exit i=>exact ⟨_,_,k,l⟩
  | goto i=>exact ⟨_,_,k,l⟩
  | ret=>exact ⟨_,_,k,l⟩
theorem wx_det {P:Program} {X Y:Orc} (hc:Compat X Y) {n m:Nat}:∀ (c:Code) {st:St} {K L:Ex→St→Prop},Wx P X n c st K→Wx P Y m c st L→∃ x s,K x s∧L x s
 | .skip,st,K,L,h1,h2=>⟨_,_,h1,h2⟩
 | .label _,st,K,L,h1,h2=>⟨_,_,h1,h2⟩
 | .exit _,st,K,L,h1,h2=>⟨_,_,h1,h2⟩
 | .goto _,st,K,L,h1,h2=>⟨_,_,h1,h2⟩
 | .ret,st,K,L,h1,h2=>⟨_,_,h1,h2⟩
 | .region _ ops false,st,K,L,h1,h2=>by
  obtain ⟨s,k,l⟩:=wops_det (K:=K .normal) (L:=L .normal) hc h1 h2
  exact ⟨_,s,k,l⟩
 | .region _ ops true,st,K,L,h1,h2=>by
  obtain ⟨s1,es1,g1,_,k⟩:=h1
  obtain ⟨s2,es2,g2,_,l⟩:=h2
  cases runTr_compat hc g1 g2
  exact ⟨_,_,k,l⟩
 | .seq a b,st,K,L,h1,h2=>by
  unfold Wx at h1 h2
  obtain ⟨x,s,k,l⟩:=wx_det hc a h1 h2
  cases x with
  | normal=>exact wx_det hc b k l
  | exit i=>exact ⟨_,_,k,l⟩
  | goto i=>exact ⟨_,_,k,l⟩
  | ret=>exact ⟨_,_,k,l⟩
 | .cond c a b,st,K,L,h1,h2=>by
  unfold Wx at h1 h2
  cases hb:(st.ev c).bool? with
  | none=>rw [hb] at h1; exact absurd h1 id
  | some t =>
   rw [hb] at h1 h2
   cases t with
   | true=>exact wx_det hc a h1 h2
   | false=>exact wx_det hc b h1 h2
 | .block id a,st,K,L,h1,h2=>by
  unfold Wx at h1 h2
  obtain ⟨x,s,k,l⟩:=wx_det hc a h1 h2
  cases x with
  | normal=>exact ⟨_,_,k,l⟩
  | exit i =>
   by_cases e:i=id
   ·simp only [e,if_true] at k l; exact ⟨_,_,k,l⟩
   ·simp only [e,if_false] at k l; exact ⟨_,_,k,l⟩
  | goto i=>exact ⟨_,_,k,l⟩
  | ret=>exact ⟨_,_,k,l⟩
 | .loop a,st,K,L,h1,h2=>wit_det (f:=Wx P X n a) (g:=Wx P Y m a) (fun s K L g1 g2=>wx_det hc a g1 g2) h1 h2
 | .scope a,st,K,L,h1,h2=>by
  unfold Wx at h1 h2
  obtain ⟨x,s,k,l⟩:=wx_det hc a h1 h2
  cases x with
  | normal=>exact ⟨_,_,k,l⟩
  | exit i=>exact ⟨_,_,k,l⟩
  | goto i=>exact absurd k id
  | ret=>exact ⟨_,_,k,l⟩
 | .rangeFunc ..,st,K,L,h1,h2=>absurd h1 id
 | .refuse _,st,K,L,h1,h2=>absurd h1 id
theorem bx_compat {P:Program} {X Y:Orc} (hc:Compat X Y) {n m:Nat} {f:FuncId} {d:Nat} {h:Id→O} {az:List A} {r r':R × (Id→O)} (h1:Bx P X n f d h az r) (h2:Bx P Y m f d h az r'):r=r':=by
 obtain ⟨fn,c,g1,g2,g3,g4,g5⟩:=h1
 obtain ⟨fn',c',k1,k2,k3,k4,k5⟩:=h2
 rw [g1] at k1
 cases k1
 rw [g2] at k2
 cases k2
 obtain ⟨x,s,⟨_,l1⟩,⟨_,l2⟩⟩:=wx_det hc c g5 k5
 rw [l1] at l2
 cases l2; rfl
inductive Ev (P:Program) (ext:Exts):FuncId→Nat→(Id→O)→List A→R × (Id→O)→Prop
 | ext (f:FuncId) (d:Nat) (h:Id→O) (az:List A) (r:R × (Id→O)) (g:Nat→(Id→O)→List A→Option (R × (Id→O))) (hg:ext f=some g) (hr:g d h az=some r):Ev P ext f d h az r
 | body (f:FuncId) (d:Nat) (h:Id→O) (az:List A) (r:R × (Id→O)) (X:Orc) (n:Nat) (hx:ext f=none) (hX:∀ f' d' h' as' r',X f' d' h' as' = some r'→Ev P ext f' d' h' as' r') (hr:Bx P X n f d h az r):Ev P ext f d h az r
theorem Ev.det {P:Program} {ext:Exts} {f:FuncId} {d:Nat} {h:Id→O} {az:List A} {r:R × (Id→O)} (he:Ev P ext f d h az r):∀ {r':R × (Id→O)},Ev P ext f d h az r'→r=r':=by
 induction he with
 | ext f d h az r g hg hr =>
  intro r' h'
  cases h' with
  | ext _ _ _ _ _ g' hg' k=>rw [hg] at hg'; cases hg'; rw [hr] at k; cases k; rfl
  | body _ _ _ _ _ X n hx hX k=>rw [hg] at hx; cases hx
 | body f d h az r X n hx hX hr ih =>
  intro r' h'
  cases h' with
  | ext _ _ _ _ _ g' hg' k=>rw [hx] at hg'; cases hg'
  | body _ _ _ _ _ Y m hy hY k=>exact bx_compat (fun f' d' h' as' a b ha hb=>ih f' d' h' as' a ha (hY f' d' h' as' b hb)) hr k
theorem Ev.frame {P:Program} {I:World→Prop} {ext:Exts} (hk:ExtOk P I ext) {f:FuncId} {d:Nat} {h:Id→O} {az:List A} {r:R × (Id→O)} (he:Ev P ext f d h az r):∀ i,i ∉ reachIds h 3 (idsL az)→r.2 i=h i:=by
 cases he with
 | ext f d h az r g hg hr=>exact hk.frame f g d h az r.1 r.2 hg hr
 | body f d h az r X n hx hX hr=>exact bx_frame (r:=r.1) (h':=r.2) hr
theorem Ev.ret {P:Program} {I:World→Prop} {ext:Exts} (hk:ExtOk P I ext) {f:FuncId} {d:Nat} {h:Id→O} {az:List A} {r:R × (Id→O)} (he:Ev P ext f d h az r):Ret P I f d h az r.1 r.2:=by
 induction he with
 | ext f d h az r g hg hr=>exact hk.ext f g d h az r.1 r.2 hg hr
 | body f d h az r X n hx hX hr ih=>exact body_ret ⟨fun f d h az r h' e=>ih f d h az (r,h') e,hk.keep,fun f d h az r h' e=>(hX f d h az (r,h') e).frame hk⟩ hk.orders hr
theorem Ev.of_eval {P:Program} {ext:Exts}:∀ {n:Nat} {f:FuncId} {d:Nat} {h:Id→O} {az:List A} {r:R × (Id→O)},eval P ext n f d h az=some r→Ev P ext f d h az r
 | 0,f,d,h,az,r,e=>by simp [eval] at e
 | n + 1,f,d,h,az,r,e=>by
  unfold eval at e
  split at e
  ·rename_i g hg; exact .ext f d h az r g hg e
  ·rename_i hx; exact .body f d h az r (eval P ext n) (n + 1) hx (fun f' d' h' as' r' e'=>Ev.of_eval e') (bx_of e)
open Classical in
noncomputable def evr (P:Program) (ext:Exts):Orc:=fun f d h az=>if e:∃ r,Ev P ext f d h az r then some e.choose else none
theorem evr_iff {P:Program} {ext:Exts} {f:FuncId} {d:Nat} {h:Id→O} {az:List A} {r:R × (Id→O)}:evr P ext f d h az=some r ↔ Ev P ext f d h az r:=by
 unfold evr
 split
 ·rename_i h
  constructor
  ·intro e; cases e; exact h.choose_spec
  ·intro e; rw [h.choose_spec.det e]
 ·rename_i h
  constructor
  ·intro e; cases e
  ·intro e; exact absurd ⟨r,e⟩ h
theorem evr_body {P:Program} {ext:Exts} {f:FuncId} {d:Nat} {h:Id→O} {az:List A} {r:R × (Id→O)} {n:Nat} (hx:ext f=none) (hb:Bx P (evr P ext) n f d h az r):evr P ext f d h az=some r :=
 evr_iff.2 (.body f d h az r _ n hx (fun _ _ _ _ _ h'=>evr_iff.1 h') hb)
theorem evr_ext {P:Program} {ext:Exts} {f:FuncId} {d:Nat} {h:Id→O} {az:List A} {r:R × (Id→O)} {g:Nat→(Id→O)→List A→Option (R × (Id→O))} (hg:ext f=some g) (hr:g d h az=some r):evr P ext f d h az=some r:=evr_iff.2 (.ext f d h az r g hg hr)
theorem evr_eval {P:Program} {ext:Exts} {n:Nat} {f:FuncId} {d:Nat} {h:Id→O} {az:List A} {r:R × (Id→O)} (he:eval P ext n f d h az=some r):evr P ext f d h az=some r:=evr_iff.2 (.of_eval he)
theorem evr_ret {P:Program} {I:World→Prop} {ext:Exts} (hk:ExtOk P I ext) {f:FuncId} {d:Nat} {h:Id→O} {az:List A} {r:R} {h':Id→O} (he:evr P ext f d h az=some (r,h')):Ret P I f d h az r h':=(evr_iff.1 he).ret hk
end
end Go.Proofs.YtenoggjjhamdaaaGreatDoor
