/-
  WHAT IS PROVED HERE: parts of the proof: In4 In5 In6 In7 In8 In9.
-/
import Derived.Laws.Slices
import Derived.Laws.BytesString
import Derived.Laws.IdiomStrings
import Derived.Laws.Append
import Derived.Laws.AppendOwn
import Derived.Test.YtenoggjjhamdaaaGreatDoorB01
set_option linter.all false
namespace Go.Proofs.YtenoggjjhamdaaaGreatDoor
open Go Go.RowKit
section
theorem cell_block {w w':World} {b:Nat} (h:w'.heap[b]? = w.heap[b]?) (p:Nat):w'.cell? ⟨b,p,none⟩=w.cell? ⟨b,p,none⟩∧w'.frozen? ⟨b,p,none⟩=w.frozen? ⟨b,p,none⟩ :=
 ⟨World.cell?_of_block (a:=⟨b,p,none⟩) h,World.frozen?_of_block (a:=⟨b,p,none⟩) h⟩
theorem ORel.keep {ι ι':Ix} {S S':Sb} {base:Nat} {w w':World} {id:Id} {o:O} (h:ORel ι S base w id o) (m:Mono ι S w ι' S' w') (hn:ι' id o.ver=ι id o.ver) (hz:w.heap.size ≤ w'.heap.size)
  (hk:o.live=true→∀ L,ι id o.ver=some L→(∀ p,S' L.b p→S L.b p)∧w'.heap[L.b]? = w.heap[L.b]?):ORel ι' S' base w' id o:=by
 cases o with
 | no v=>trivial
 | box ver cs =>
  obtain ⟨L,h1,h2,h3,h4,h5,h6⟩:=h
  obtain ⟨k1,k2⟩:=hk rfl L h1
  refine ⟨L,m.ix _ _ _ h1,h2,h3,by omega,fun o ho=>h5 o (k1 o ho),fun j a hj=>?_⟩
  obtain ⟨u,g1,g2,g3⟩:=h6 j a hj
  exact ⟨u,by rw [(cell_block k2 j).1]; exact g1,by rw [(cell_block k2 j).2]; exact g2,VA_mono m.upto _ _ g3⟩
 | vec ver n xs fz =>
  rcases h with ⟨h1,h2⟩ | ⟨L,h1,h2,h3,h4,h5,h6,h7,h8,h9,h10⟩
  ·exact Or.inl ⟨h1,by have:=hn; simp only [O.ver] at this; rw [this]; exact h2⟩
  ·obtain ⟨k1,k2⟩:=hk rfl L h1
   refine Or.inr ⟨L,m.ix _ _ _ h1,h2,h3,by omega,h5,fun o ho ho'=>?_,h7.mono m.sb m.cell (fun p _ _=>(cell_block k2 p).1),fun o ho hs=>h8 o ho (k1 o hs),fun hf o ho hs=>h9 hf o ho (k1 o hs),fun hf o ho ho'=>m.sb _ _ (h10 hf o ho ho')⟩
   rw [(cell_block k2 o).1,(cell_block k2 o).2]
   exact h6 o ho ho'
 | map ver es clock =>
  obtain ⟨L,h1,h3,h4,h5,ens,h6,h7,h8⟩:=h
  obtain ⟨k1,k2⟩:=hk rfl L h1
  exact ⟨L,m.ix _ _ _ h1,h3,by omega,fun o ho=>h5 o (k1 o ho),ens,by rw [k2]; exact h6,MapRel_mono m.upto h7,h8⟩
 | sit ver s pos =>
  obtain ⟨L,h1,h3,h4,h5,h6⟩:=h
  obtain ⟨k1,k2⟩:=hk rfl L h1
  exact ⟨L,m.ix _ _ _ h1,h3,by omega,fun o ho=>h5 o (k1 o ho),by rw [k2]; exact h6⟩
 | mit ver mm since seen last =>
  obtain ⟨L,h1,h3,h4,h5,mb,h6,h7⟩:=h
  obtain ⟨k1,k2⟩:=hk rfl L h1
  refine ⟨L,m.ix _ _ _ h1,h3,by omega,fun o ho=>h5 o (k1 o ho),mb,by rw [k2]; exact h6,?_⟩
  cases mm with
  | none=>exact h7
  | some iv =>
   obtain ⟨Lm,g1,g2⟩:=h7
   exact ⟨Lm,m.upto.ix _ _ _ g1,g2⟩
theorem ORel.keep2 {ι ι':Ix} {S S':Sb} {base:Nat} {w w':World} {id:Id} {o:O} (h:ORel ι S base w id o) (m:Mono ι S w ι' S' w') (hn:ι' id o.ver=ι id o.ver)
  (hk:o.live=true→∀ L,ι id o.ver=some L→(∀ p,S' L.b p→S L.b p)∧w'.heap[L.b]? = w.heap[L.b]? ∧ L.b < w'.heap.size):ORel ι' S' base w' id o:=by
 cases o with
 | no v=>trivial
 | box ver cs =>
  obtain ⟨L,h1,h2,h3,h4,h5,h6⟩:=h
  obtain ⟨k1,k2,k0⟩:=hk rfl L h1
  refine ⟨L,m.ix _ _ _ h1,h2,h3,k0,fun o ho=>h5 o (k1 o ho),fun j a hj=>?_⟩
  obtain ⟨u,g1,g2,g3⟩:=h6 j a hj
  exact ⟨u,by rw [(cell_block k2 j).1]; exact g1,by rw [(cell_block k2 j).2]; exact g2,VA_mono m.upto _ _ g3⟩
 | vec ver n xs fz =>
  rcases h with ⟨h1,h2⟩ | ⟨L,h1,h2,h3,h4,h5,h6,h7,h8,h9,h10⟩
  ·exact Or.inl ⟨h1,by have:=hn; simp only [O.ver] at this; rw [this]; exact h2⟩
  ·obtain ⟨k1,k2,k0⟩:=hk rfl L h1
   refine Or.inr ⟨L,m.ix _ _ _ h1,h2,h3,k0,h5,fun o ho ho'=>?_,h7.mono m.sb m.cell (fun p _ _=>(cell_block k2 p).1),fun o ho hs=>h8 o ho (k1 o hs),fun hf o ho hs=>h9 hf o ho (k1 o hs),fun hf o ho ho'=>m.sb _ _ (h10 hf o ho ho')⟩
   rw [(cell_block k2 o).1,(cell_block k2 o).2]
   exact h6 o ho ho'
 | map ver es clock =>
  obtain ⟨L,h1,h3,h4,h5,ens,h6,h7,h8⟩:=h
  obtain ⟨k1,k2,k0⟩:=hk rfl L h1
  exact ⟨L,m.ix _ _ _ h1,h3,k0,fun o ho=>h5 o (k1 o ho),ens,by rw [k2]; exact h6,MapRel_mono m.upto h7,h8⟩
 | sit ver s pos =>
  obtain ⟨L,h1,h3,h4,h5,h6⟩:=h
  obtain ⟨k1,k2,k0⟩:=hk rfl L h1
  exact ⟨L,m.ix _ _ _ h1,h3,k0,fun o ho=>h5 o (k1 o ho),by rw [k2]; exact h6⟩
 | mit ver mm since seen last =>
  obtain ⟨L,h1,h3,h4,h5,mb,h6,h7⟩:=h
  obtain ⟨k1,k2,k0⟩:=hk rfl L h1
  refine ⟨L,m.ix _ _ _ h1,h3,k0,fun o ho=>h5 o (k1 o ho),mb,by rw [k2]; exact h6,?_⟩
  cases mm with
  | none=>exact h7
  | some iv =>
   obtain ⟨Lm,g1,g2⟩:=h7
   exact ⟨Lm,m.upto.ix _ _ _ g1,g2⟩
theorem ORel.lt {ι:Ix} {S:Sb} {base:Nat} {w:World} {id:Id} {o:O} (h:ORel ι S base w id o) (hl:o.live=true) {L:Loc} (hL:ι id o.ver=some L):base ≤ L.b∧L.b < w.heap.size:=by
 cases o with
 | no v=>cases hl
 | box ver cs =>
  obtain ⟨L',h1,h2,h3,h4,_⟩:=h
  have:some L=some L':=hL.symm.trans h1
  cases this
  exact ⟨h3,h4⟩
 | map ver es clock =>
  obtain ⟨L',h1,h3,h4,_⟩:=h
  have:some L=some L':=hL.symm.trans h1
  cases this
  exact ⟨h3,h4⟩
 | sit ver s pos =>
  obtain ⟨L',h1,h3,h4,_⟩:=h
  have:some L=some L':=hL.symm.trans h1
  cases this
  exact ⟨h3,h4⟩
 | mit ver mm since seen last =>
  obtain ⟨L',h1,h3,h4,_⟩:=h
  have:some L=some L':=hL.symm.trans h1
  cases this
  exact ⟨h3,h4⟩
 | vec ver n xs fz =>
  rcases h with ⟨_,h2⟩ | ⟨L',h1,h2,h3,h4,_⟩
  ·have:some L=none:=hL.symm.trans h2
   cases this
  ·have:some L=some L':=hL.symm.trans h1
   cases this
   exact ⟨h3,h4⟩
def ixNew (ι:Ix) (id:Id) (ver:Nat) (L:Loc):Ix:=fun i v=>if i=id∧v=ver then some L else ι i v
theorem ixNew_same (ι:Ix) (id:Id) (ver:Nat) (L:Loc):ixNew ι id ver L id ver=some L:=by simp [ixNew]
theorem ixNew_other {ι:Ix} {id:Id} {ver:Nat} {L:Loc} {i:Id} {v:Nat} (h:¬ (i=id∧v=ver)):ixNew ι id ver L i v=ι i v:=by simp [ixNew,h]
theorem upto_all {E:Env} {ι:Ix} {S:Sb} {h:Id→O} {w:World} (hr:RelH E ι S h w):upto E.d ι=ι:=by
 funext i v
 unfold upto
 split
 ·rfl
 ·rename_i hk; exact (hr.deep i v (by omega)).symm
theorem upto_new {k:Nat} {ι:Ix} {id:Id} {ver:Nat} {L:Loc} (hk:id.1 ≤ k) (h:upto k ι=ι):upto k (ixNew ι id ver L)=ixNew ι id ver L:=by
 funext i v
 unfold upto
 split
 ·rfl
 ·rename_i hi
  have:=congrFun (congrFun h i) v
  unfold upto at this
  rw [if_neg hi] at this
  rw [ixNew_other (by rintro ⟨rfl,_⟩; exact hi hk)]
  exact this
theorem Mono.newBlock {ι:Ix} {S:Sb} {w w':World} {id:Id} {ver:Nat} {L:Loc} (hv:ι id ver=none) (hi:∀ b o,S b o→b < w.heap.size) (hc:∀ p:Addr,p.block < w.heap.size→w'.cell? p=w.cell? p) :
  Mono ι S w (ixNew ι id ver L) S w' :=
 ⟨fun i v L' h=>(ixNew_other (by rintro ⟨rfl,rfl⟩; rw [hv] at h; cases h)).trans h,fun _ _ h=>h,fun b o h=>hc ⟨b,o,none⟩ (hi b o h)⟩
theorem RelH.newObj {E:Env} {ι:Ix} {S:Sb} {h:Id→O} {w w':World} (hr:RelH E ι S h w) (id:Id) (hid:id.1=E.d) (o:O) (L:Loc) (ho:o.ver=(h id).ver + 1) (hL:L.b=w.heap.size)
  (hz:w.heap.size < w'.heap.size) (hb:Below w.heap.size w w') (hobj:ORel (ixNew ι id o.ver L) S E.base w' id o):Mono ι S w (ixNew ι id o.ver L) S w' ∧ RelH E (ixNew ι id o.ver L) S (upd h id o) w':=by
 have hv:ι id o.ver=none:=hr.vers id _ (by omega)
 have m:Mono ι S w (ixNew ι id o.ver L) S w':=Mono.newBlock hv hr.inw (fun p hp=>hb.cell hp)
 refine ⟨m,hr.below.trans (hb.mono hr.size),Nat.le_trans hr.size (by omega),fun i=>?_,?_,?_,hr.sub,hr.new,fun b o h=>Nat.lt_trans (hr.inw b o h) hz,fun i v Lo hi hLo=>?_,fun i v hi=>?_,fun b o hs=>(m.cell b o (hr.sub b o hs)).trans (hr.hold b o hs),fun b hp=>?_,fun i=>?_,fun i hi=>?_⟩
 rotate_right 3
 ·obtain ⟨p1,p2,p3,p4⟩:=hr.prot b hp
  refine ⟨by omega,(hb.block b p1).trans p2,p3,fun i L' hl hL'=>?_⟩
  unfold upd at hl hL'
  by_cases e:i=id
  ·subst e
   rw [if_pos rfl,ixNew_same] at hL'
   cases hL'
   omega
  ·rw [if_neg e] at hl hL'
   rw [ixNew_other (by rintro ⟨rfl,_⟩; exact e rfl)] at hL'
   exact p4 i L' hl hL'
 ·rw [ixNew_other (by rintro ⟨_,h0⟩; omega)]
  exact hr.z i
 ·have hne:i ≠ id:=by rintro rfl; omega
  obtain ⟨l1,l2⟩:=hr.low i hi
  refine ⟨by unfold upd; rw [if_neg hne]; exact l1,fun v hv'=>?_⟩
  rw [ixNew_other (by rintro ⟨rfl,_⟩; exact hne rfl)]
  exact l2 v hv'
 ·unfold upd
  split
  ·rename_i e; subst e; exact hobj
  ·rename_i e
   refine (hr.objs i).keep m (ixNew_other (by rintro ⟨rfl,_⟩; exact e rfl)) (by omega) fun hl L' hL'=>⟨fun _ h=>h,hb.block _ ((hr.objs i).lt hl hL').2⟩
 ·intro i i' L1 L2 hne hl hl' h1 h2
  unfold upd at hl hl' h1 h2
  by_cases e:i=id
  ·subst e
   rw [if_pos rfl] at hl h1
   rw [if_neg (fun e=>hne e.symm)] at hl' h2
   rw [ixNew_same] at h1
   cases h1
   rw [ixNew_other (by rintro ⟨rfl,_⟩; exact hne rfl)] at h2
   have:=((hr.objs i').lt hl' h2).2
   omega
  ·rw [if_neg e] at hl h1
   rw [ixNew_other (by rintro ⟨rfl,_⟩; exact e rfl)] at h1
   by_cases e':i' = id
   ·subst e'
    rw [if_pos rfl] at h2
    rw [ixNew_same] at h2
    cases h2
    have:=((hr.objs i).lt hl h1).2
    omega
   ·rw [if_neg e'] at hl' h2
    rw [ixNew_other (by rintro ⟨rfl,_⟩; exact e' rfl)] at h2
    exact hr.apart i i' L1 L2 hne hl hl' h1 h2
 ·intro i ver hlt
  unfold upd at hlt
  by_cases e:i=id
  ·subst e
   rw [if_pos rfl] at hlt
   rw [ixNew_other (by rintro ⟨_,rfl⟩; omega)]
   exact hr.vers _ _ (by omega)
  ·rw [if_neg e] at hlt
   rw [ixNew_other (by rintro ⟨rfl,_⟩; exact e rfl)]
   exact hr.vers _ _ hlt
 ·have h1:=hr.old i v Lo hi hLo
  rw [ixNew_other (by rintro ⟨rfl,rfl⟩; rw [hr.vers _ _ (by omega)] at h1; cases h1)]
  exact h1
 ·rw [ixNew_other (by rintro ⟨rfl,_⟩; omega)]
  exact hr.deep i v hi
theorem box_ok {E:Env} {ι:Ix} {S:Sb} {h:Id→O} {w:World} (hr:RelH E ι S h w) (id:Id) (hid:id.1=E.d) (cs:List A) (us:List Value) (t:TypeId) (hv:VL ι S w cs us) :
  Steps E ι S h w { v:=.bp id ((h id).ver + 1) 0,rd:=[id],wr:=[(id,.box ((h id).ver + 1) cs)] } (.pointer (some ⟨w.heap.size,0,none⟩)) (w.alloc (.cells us.toArray t)):=by
 have hb:Below w.heap.size w (w.alloc (.cells us.toArray t)):=(Below.refl _ _).alloc (Nat.le_refl _) _
 have hnone:ι id ((h id).ver + 1)=none:=hr.vers id _ (by omega)
 have hm:Mono ι S w (ixNew ι id ((h id).ver + 1) ⟨w.heap.size,0,0,0⟩) S (w.alloc (.cells us.toArray t)):=Mono.newBlock hnone hr.inw (fun p hp=>hb.cell hp)
 obtain ⟨m,k⟩:=hr.newObj id hid (.box ((h id).ver + 1) cs) ⟨w.heap.size,0,0,0⟩ rfl rfl (by simp) hb (by
  refine ⟨_,ixNew_same _ _ _ _,rfl,hr.size,by simp,fun o ho=>?_,fun j a hj=>?_⟩
  ·exact absurd (hr.inw _ _ ho) (Nat.lt_irrefl _)
  ·obtain ⟨h1,h2⟩:=VL_get.1 hv
   have hj':j < us.length:=by rw [← h1]; exact (List.getElem?_eq_some_iff.1 hj).1
   refine ⟨us[j],?_,?_,?_⟩
   rotate_left 2
   ·rw [hid,upto_new (by omega) (upto_all hr)]
    exact VA_mono hm _ _ (h2 j a us[j] hj (List.getElem?_eq_getElem hj'))
   ·simp [World.cell?_alloc_new,hj']
   ·simp)
 refine ⟨_,_,m,?_,k⟩
 show VA _ _ _ (.bp id ((h id).ver + 1) 0) _
 unfold VA
 exact ⟨_,ixNew_same _ _ _ _,rfl,rfl⟩
def CellsFrom (ι:Ix) (S:Sb) (w:World) (b o:Nat) (l:List A):Prop:=∀ (j:Nat) a,l[j]? = some a→∃ u,w.cell? ⟨b,o + j,none⟩=some u∧VA ι S w a u
theorem add_at (b o j:Nat):(⟨b,o,none⟩:Addr).add j=⟨b,o + j,none⟩:=by
 unfold Addr.add
 split
 ·rename_i h; subst h; rfl
 ·rfl
theorem list_of {ι:Ix} {S:Sb} {w:World} {b:Nat}:∀ (l:List A) (o:Nat),CellsFrom ι S w b o l→∃ us:List Value,VL ι S w l us ∧ ∀ (j:Nat) u,us[j]? = some u→w.cell? ⟨b,o + j,none⟩=some u
 | [],o,_=>⟨[],by unfold VL; rfl,fun j u h=>by simp at h⟩
 | a :: l,o,h=>by
  obtain ⟨u,h1,h2⟩:=h 0 a rfl
  obtain ⟨us,h3,h4⟩:=list_of l (o + 1) fun j b hj=>by
   obtain ⟨u,g1,g2⟩:=h (j + 1) b (by simpa using hj)
   exact ⟨u,by rw [show o + 1 + j=o + (j + 1) by omega]; exact g1,g2⟩
  refine ⟨u :: us,by unfold VL; exact ⟨u,us,rfl,h2,h3⟩,fun j v hj=>?_⟩
  cases j with
  | zero=>simp at hj; subst hj; simpa using h1
  | succ j=>rw [show o + (j + 1)=o + 1 + j by omega]; exact h4 j v (by simpa using hj)
theorem load_run {P:Program} {ι:Ix} {S:Sb} {w:World} {b o:Nat} {l:List A} {t:TypeId} {y:A} (h:CellsFrom ι S w b o l) (ht:takeVal P t l=some y) :
  ∃ u,(Instr.loadAt t (.pointer (some ⟨b,o,none⟩))).run P w = .ok u w∧VA ι S w y u:=by
 unfold takeVal at ht
 split at ht
 ·rename_i n ha hs
  split at ht
  ·rename_i hn
   simp only [Option.some.injEq] at ht
   subst ht
   obtain ⟨us,h1,h2⟩:=list_of (l.take n) o fun j a hj=>h j a (by
    rw [List.getElem?_take] at hj
    split at hj
    ·exact hj
    ·cases hj)
   have hl:us.length=n:=by have:=(VL_get.1 h1).1; rw [List.length_take] at this; omega
   refine ⟨.agg us.toArray,?_,VA_mk h1⟩
   have:=run_loadCells_list (P:=P) w ⟨b,o,none⟩ us (fun j v hj=>by rw [add_at]; exact h2 j v hj)
   rw [hl] at this
   simp only [Instr.loadAt,Instr.sureAddr,loadVar,Sem.run_bind,Sem.run_pure,Result.andThen,run_agg ha,run_size hs,this,if_true]
  ·cases ht
 ·rename_i ha hs
  cases l with
  | nil=>simp at ht
  | cons a l =>
   simp only [List.head?_cons,Option.some.injEq] at ht
   subst ht
   obtain ⟨u,h1,h2⟩:=h 0 a rfl
   refine ⟨u,?_,h2⟩
   simp only [Nat.add_zero] at h1
   simp [Instr.loadAt,Instr.sureAddr,loadVar,Sem.run_bind,Result.andThen,run_agg ha,run_load,h1]
 ·cases ht
theorem row_cells {ι:Ix} {S:Sb} {w:World} {b o:Nat} {x:D} {us:List Value} (hc:CellsD S w x us) (hm:∀ (j:Nat) u,us[j]? = some u→w.cell? ⟨b,o + j,none⟩=some u):CellsFrom ι S w b o (x.cells.map .d):=by
 have key:VL ι S w (x.cells.map .d) us:=by
  cases x with
  | agg ys=>unfold CellsD at hc; exact VL_mapd hc
  | s v =>
   have h':=hc
   unfold CellsD at h'
   obtain ⟨rfl,_⟩:=h'
   show VL ι S w [.d (.s v)] [v]
   unfold VL
   exact ⟨v,[],rfl,by unfold VA ValD; exact hc,by unfold VL; rfl⟩
  | lst zs =>
   have h':=hc
   unfold CellsD at h'
   obtain ⟨a,cap,rfl,_⟩:=h'
   show VL ι S w [.d (.lst zs)] [_]
   unfold VL
   exact ⟨_,[],rfl,by unfold VA ValD; exact hc,by unfold VL; rfl⟩
  | ifc t y =>
   have h':=hc
   unfold CellsD at h'
   obtain ⟨vs,_,rfl⟩:=h'
   show VL ι S w [.d (.ifc t y)] [_]
   unfold VL
   exact ⟨_,[],rfl,by unfold VA ValD; exact hc,by unfold VL; rfl⟩
  | any =>
   have h':=hc
   unfold CellsD at h'
   obtain ⟨u,_,rfl⟩:=h'
   show VL ι S w [.d .any] [_]
   unfold VL
   exact ⟨_,[],rfl,by unfold VA ValD; exact hc,by unfold VL; rfl⟩
 obtain ⟨h1,h2⟩:=VL_get.1 key
 intro j a hj
 have hj':j < us.length:=by rw [← h1]; exact (List.getElem?_eq_some_iff.1 hj).1
 exact ⟨us[j],hm j _ (List.getElem?_eq_getElem hj'),h2 j a _ hj (List.getElem?_eq_getElem hj')⟩
theorem CellsFrom.drop {ι:Ix} {S:Sb} {w:World} {b o:Nat} {l:List A} (h:CellsFrom ι S w b o l) (k:Nat):CellsFrom ι S w b (o + k) (l.drop k):=fun j a hj=>by
 rw [List.getElem?_drop] at hj
 obtain ⟨u,h1,h2⟩:=h (k + j) a hj
 exact ⟨u,by rw [Nat.add_assoc]; exact h1,h2⟩
theorem box_cells {ι:Ix} {S:Sb} {base:Nat} {w:World} {id:Id} {ver:Nat} {cs:List A} (h:ORel ι S base w id (.box ver cs)) {L:Loc} (hL:ι id ver=some L):CellsFrom ι S w L.b 0 cs:=fun j a hj=>by
 obtain ⟨L',h1,h2,h3,h4,h5,h6⟩:=h
 rw [hL] at h1
 cases h1
 obtain ⟨u,g1,_,g3⟩:=h6 j a hj
 exact ⟨u,by rw [Nat.zero_add]; exact g1,VA_mono (Mono.less (Mono.refl ι S w)) _ _ g3⟩
theorem load_ok {P:Program} {E:Env} {ι:Ix} {S:Sb} {h:Id→O} {w:World} (hr:RelH E ι S h w) {t:TypeId} {x:A} {v:Value} (hv:VA ι S w x v) {e:Eff} (he:loadE P h t x=some e) :
  ∃ u,(Instr.loadAt t v).run P w = .ok u w∧Steps E ι S h w e u w:=by
 unfold loadE at he
 split at he
 ·rename_i id ver off
  split at he
  ·rename_i v' cs ho
   split at he
   ·rename_i hve
    subst hve
    obtain ⟨y,h1,rfl⟩:=Option.map_eq_some_iff.1 he
    unfold VA at hv
    obtain ⟨L,h2,h3,rfl⟩:=hv
    have hc:=(box_cells (by have:=hr.objs id; rw [ho] at this; exact this) h2).drop off
    rw [Nat.zero_add] at hc
    obtain ⟨u,h5,h6⟩:=load_run hc h1
    exact ⟨u,h5,Steps.still hr rfl h6⟩
   ·cases he
  ·cases he
 ·rename_i id ver i off
  split at he
  ·rename_i v' n xs fz ho
   split at he
   ·rename_i hve
    subst hve
    obtain ⟨x,h0,h0'⟩:=Option.bind_eq_some_iff.1 he
    obtain ⟨y,h1,rfl⟩:=Option.map_eq_some_iff.1 h0'
    unfold VA at hv
    obtain ⟨L,h2,rfl⟩:=hv
    have hob:=hr.objs id
    rw [ho] at hob
    rcases hob with ⟨g1,_⟩ | ⟨L',g1,g2,g3,g4,g5,g6,g7,_⟩
    ·rw [g1] at h0; simp at h0
    ·rw [h2] at g1
     cases g1
     subst g2
     obtain ⟨us,k1,k2,k3,k4⟩:=g7 i x h0
     obtain ⟨u,h5,h6⟩:=load_run ((row_cells (ι:=ι) k3 (fun j u hj=>(k4 j u hj).2)).drop off) h1
     exact ⟨u,h5,Steps.still hr rfl h6⟩
   ·cases he
  ·cases he
 ·rename_i xs i off
  obtain ⟨x,h0,h0'⟩:=Option.bind_eq_some_iff.1 he
  obtain ⟨y,h1,rfl⟩:=Option.map_eq_some_iff.1 h0'
  unfold VA at hv
  obtain ⟨b,o,n,rfl,h2⟩:=hv
  obtain ⟨us,k1,k2,k3,k4⟩:=RowD_get.1 h2 i x h0
  obtain ⟨u,h5,h6⟩:=load_run ((row_cells (ι:=ι) k3 (fun j u hj=>(k4 j u hj).2.2)).drop off) h1
  exact ⟨u,h5,Steps.still hr rfl h6⟩
 ·cases he
theorem load_val {P:Program} {E:Env} {ι:Ix} {S:Sb} {h:Id→O} {w:World} (hr:RelH E ι S h w) {t:TypeId} {x:A} {v:Value} (hv:VA ι S w x v) {e:Eff} (he:loadE P h t x=some e) :
  ∃ u,(Instr.loadAt t v).run P w = .ok u w∧VA ι S w e.v u:=by
 unfold loadE at he
 split at he
 ·rename_i id ver off
  split at he
  ·rename_i v' cs ho
   split at he
   ·rename_i hve
    subst hve
    obtain ⟨y,h1,rfl⟩:=Option.map_eq_some_iff.1 he
    unfold VA at hv
    obtain ⟨L,h2,h3,rfl⟩:=hv
    have hc:=(box_cells (by have:=hr.objs id; rw [ho] at this; exact this) h2).drop off
    rw [Nat.zero_add] at hc
    obtain ⟨u,h5,h6⟩:=load_run hc h1
    exact ⟨u,h5,h6⟩
   ·cases he
  ·cases he
 ·rename_i id ver i off
  split at he
  ·rename_i v' n xs fz ho
   split at he
   ·rename_i hve
    subst hve
    obtain ⟨x,h0,h0'⟩:=Option.bind_eq_some_iff.1 he
    obtain ⟨y,h1,rfl⟩:=Option.map_eq_some_iff.1 h0'
    unfold VA at hv
    obtain ⟨L,h2,rfl⟩:=hv
    have hob:=hr.objs id
    rw [ho] at hob
    rcases hob with ⟨g1,_⟩ | ⟨L',g1,g2,g3,g4,g5,g6,g7,_⟩
    ·rw [g1] at h0; simp at h0
    ·rw [h2] at g1
     cases g1
     subst g2
     obtain ⟨us,k1,k2,k3,k4⟩:=g7 i x h0
     obtain ⟨u,h5,h6⟩:=load_run ((row_cells (ι:=ι) k3 (fun j u hj=>(k4 j u hj).2)).drop off) h1
     exact ⟨u,h5,h6⟩
   ·cases he
  ·cases he
 ·rename_i xs i off
  obtain ⟨x,h0,h0'⟩:=Option.bind_eq_some_iff.1 he
  obtain ⟨y,h1,rfl⟩:=Option.map_eq_some_iff.1 h0'
  unfold VA at hv
  obtain ⟨b,o,n,rfl,h2⟩:=hv
  obtain ⟨us,k1,k2,k3,k4⟩:=RowD_get.1 h2 i x h0
  obtain ⟨u,h5,h6⟩:=load_run ((row_cells (ι:=ι) k3 (fun j u hj=>(k4 j u hj).2.2)).drop off) h1
  exact ⟨u,h5,h6⟩
 ·cases he
end
section
theorem put_get {α:Type} {l xs:List α} {off:Nat} (h:off + xs.length ≤ l.length) (j:Nat):(put l off xs)[j]? = if j < off then l[j]? else if j < off + xs.length then xs[j - off]? else l[j]?:=by
 unfold put
 have hl:(l.take off).length=off:=by rw [List.length_take]; omega
 by_cases h1:j < off
 ·rw [if_pos h1,List.append_assoc,List.getElem?_append_left (by omega),List.getElem?_take,if_pos h1]
 ·rw [if_neg h1]
  by_cases h2:j < off + xs.length
  ·rw [if_pos h2,List.getElem?_append_left (by rw [List.length_append]; omega),List.getElem?_append_right (by omega),hl]
  ·rw [if_neg h2,List.getElem?_append_right (by rw [List.length_append]; omega),List.length_append,hl,List.getElem?_drop]
   congr 1; omega
theorem put_length {α:Type} {l xs:List α} {off:Nat} (h:off + xs.length ≤ l.length):(put l off xs).length=l.length:=by
 unfold put
 simp only [List.length_append,List.length_take,List.length_drop]; omega
theorem below_setCells {B:Nat} {a:World} (b:Nat) (hb:B ≤ b):∀ (vs:List Value) (o:Nat) (w:World),Below B a w→Below B a (w.setCells b o vs)
 | [],_,_,h=>h
 | v :: r,o,w,h=>below_setCells b hb r (o + 1) _ (h.setCell (p:=⟨b,o,none⟩) hb v)
theorem size_setCells (b:Nat):∀ (vs:List Value) (o:Nat) (w:World),(w.setCells b o vs).heap.size=w.heap.size
 | [],_,_=>rfl
 | v :: r,o,w=>by rw [World.setCells,size_setCells b r]; simp
theorem block_setCells (b k:Nat):∀ (vs:List Value) (o:Nat) (w:World),k ≠ b→(w.setCells b o vs).heap[k]? = w.heap[k]?
 | [],_,_,_=>rfl
 | v :: r,o,w,h=>by rw [World.setCells,block_setCells b k r (o + 1) _ h]; exact Below.heap_setCell _ _ _ _ h
theorem all_one_ne_any {x:A} (h:x.cells.all A.one=true):x ≠ .any:=by
 rintro rfl
 simp [A.cells,A.one] at h
theorem store_core {P:Program} {E:Env} {ι:Ix} {S:Sb} {h:Id→O} {w:World} (hr:RelH E ι S h w) {t:TypeId} {id:Id} {v off n:Nat} {cs l:List A} {va vx:Value} (ho:h id = .box v cs) (hva:VA ι S w (.bp id v off) va) (hn:tsize P t=some n)
  (hvl:VL (upto id.1 ι) S w l vx.cells.toList) (hlen:l.length=n) (hoff:off + n ≤ cs.length) (hone:∀ u ∈ vx.cells.toList,u.oneCell' = true) :
  ∃ w',(Instr.storeAt t va vx).run P w = .ok () w' ∧ Mono ι S w ι S w' ∧ RelH E ι S (upd h id (.box v (put cs off l))) w':=by
 unfold VA at hva
 obtain ⟨L,hL,hst,rfl⟩:=hva
 have hob:=hr.objs id
 rw [ho] at hob
 have hob':=hob
 obtain ⟨L',g1,g2,g3,g4,g5,g6⟩:=hob'
 rw [hL] at g1
 cases g1
 obtain ⟨hl1,hl2⟩:=VL_get.1 hvl
 have hus:vx.cells.toList.length=n:=by rw [← hl1]; exact hlen
 have hcell:∀ j,j < vx.cells.toList.length→(w.cell? ⟨L.b,off + 0 + j,none⟩).isSome=true∧w.frozen? ⟨L.b,off + 0 + j,none⟩=false:=fun j hj=>by
  obtain ⟨u,k1,k2,_⟩:=g6 (off + j) cs[off + j] (List.getElem?_eq_getElem (by omega))
  rw [Nat.add_zero]
  exact ⟨by rw [k1]; rfl,k2⟩
 have hrun:=run_storeCells_cells (P:=P) L.b off vx.cells.toList 0 w (fun j hj=>(hcell j hj).1) (fun j hj=>(hcell j hj).2) hone
 rw [Nat.add_zero] at hrun
 have hm:Mono ι S w ι S (w.setCells L.b off vx.cells.toList):=⟨fun _ _ _ h=>h,fun _ _ h=>h,fun b o hs=>World.cell?_setCells_out _ _ _ _ _ (fun e _=>by
  have e':b=L.b:=e
  subst e'; exact absurd hs (g5 o))⟩
 refine ⟨w.setCells L.b off vx.cells.toList,?_,hm,?_⟩
 ·have hz:vx.cells.size=n:=by rw [← hus]; simp
  simp [Instr.storeAt,Instr.sureAddr,storeVar,Sem.run_bind,Result.andThen,run_size hn,hz,hrun]
 ·refine ⟨below_setCells _ g3 _ _ _ hr.below,by rw [size_setCells]; exact hr.size,fun i=>?_,?_,?_,hr.sub,hr.new,fun b o hs=>by rw [size_setCells]; exact hr.inw b o hs,hr.old,hr.deep,fun b o hs=>(hm.cell b o (hr.sub b o hs)).trans (hr.hold b o hs),fun b hp=>?_,hr.z,fun i hi=>⟨by
   have:=(hr.low i hi).1
   unfold upd
   split
   ·rename_i e; subst e; rw [ho] at this; exact this
   ·exact this,(hr.low i hi).2⟩⟩
  rotate_right 1
  ·obtain ⟨p1,p2,p3,p4⟩:=hr.prot b hp
   have hne:b ≠ L.b:=fun e=>p4 id L (by rw [ho]; rfl) (by rw [ho]; exact hL) e.symm
   refine ⟨by rw [size_setCells]; exact p1,by rw [block_setCells _ _ _ _ _ hne]; exact p2,p3,fun i L' hl hL'=>?_⟩
   unfold upd at hl hL'
   by_cases e:i=id
   ·subst e
    rw [if_pos rfl] at hL'
    exact p4 i L' (by rw [ho]; rfl) (by rw [ho]; exact hL')
   ·rw [if_neg e] at hl hL'
    exact p4 i L' hl hL'
  ·show ORel _ _ _ _ i (upd h id (.box v (put cs off l)) i)
   unfold upd
   split
   ·rename_i e; subst e
    refine ⟨L,hL,g2,g3,by rw [size_setCells]; exact g4,g5,fun j a hj=>?_⟩
    rw [put_get (by omega)] at hj
    by_cases h1:j < off
    ·rw [if_pos h1] at hj
     obtain ⟨u,k1,k2,k3⟩:=g6 j a hj
     exact ⟨u,by rw [World.cell?_setCells_out _ _ _ _ _ (fun _ _=>Or.inl h1)]; exact k1,by rw [World.frozen?_setCells]; exact k2,VA_mono hm.upto _ _ k3⟩
    ·rw [if_neg h1] at hj
     by_cases h2:j < off + l.length
     ·rw [if_pos h2] at hj
      have hj':j - off < vx.cells.toList.length:=by omega
      refine ⟨vx.cells.toList[j - off],?_,?_,VA_mono hm.upto _ _ (hl2 _ _ _ hj (List.getElem?_eq_getElem hj'))⟩
      ·have:=World.cell?_setCells_in L.b vx.cells.toList off w (fun i hi=>by have:=(hcell i hi).1; rwa [Nat.add_zero] at this) (j - off) hj'
       rw [show off + (j - off)=j by omega] at this
       exact this
      ·rw [World.frozen?_setCells]
       have:=(hcell (j - off) hj').2
       rw [show off + 0 + (j - off)=j by omega] at this
       exact this
     ·rw [if_neg h2] at hj
      obtain ⟨u,k1,k2,k3⟩:=g6 j a hj
      exact ⟨u,by rw [World.cell?_setCells_out _ _ _ _ _ (fun _ _=>Or.inr (by show off + vx.cells.toList.length ≤ j; omega))]; exact k1,by rw [World.frozen?_setCells]; exact k2,VA_mono hm.upto _ _ k3⟩
   ·rename_i e
    refine (hr.objs i).keep hm rfl (by rw [size_setCells]; exact Nat.le_refl _) fun hl L2 hL2=>⟨fun _ h=>h,block_setCells _ _ _ _ _ fun e'=>?_⟩
    exact absurd e' (hr.apart i id L2 L e hl (by rw [ho]; rfl) hL2 (by rw [ho]; exact hL))
  ·intro i i' L1 L2 hne hl hl' h1 h2
   have hv:∀ k,(upd h id (.box v (put cs off l)) k).ver=(h k).ver∧((upd h id (.box v (put cs off l)) k).live=(h k).live):=fun k=>by
    unfold upd
    split
    ·rename_i e; subst e; rw [ho]; exact ⟨rfl,rfl⟩
    ·exact ⟨rfl,rfl⟩
   rw [(hv i).2] at hl
   rw [(hv i').2] at hl'
   rw [(hv i).1] at h1
   rw [(hv i').1] at h2
   exact hr.apart i i' L1 L2 hne hl hl' h1 h2
  ·intro i ver hlt
   refine hr.vers i ver ?_
   unfold upd at hlt
   split at hlt
   ·rename_i e; subst e; rw [ho]; exact hlt
   ·exact hlt
theorem fieldAddr_ok {P:Program} {E:Env} {ι:Ix} {S:Sb} {h:Id→O} {w:World} (hr:RelH E ι S h w) {s:TypeId} {x:A} {v:Value} (hv:VA ι S w x v) {f:Nat} {e:Eff} (he:fieldAddrE P s x f=some e) :
  ∃ u,(Instr.fieldAt s v f).run P w = .ok u w∧Steps E ι S h w e u w:=by
 unfold fieldAddrE at he
 split at he
 ·rename_i fs hu
  split at he
  ·rename_i fd hf
   split at he
   ·rename_i n hn
    have hp:∀ a:Addr,(fieldPlace a fd).run P w = .ok (a.add fd.offset) w:=fun a=>by
     simp [fieldPlace,Sem.run_bind,Result.andThen,run_size hn]
    have go:∀ a:Addr,(Instr.fieldAt s (.pointer (some a)) f).run P w = .ok (.pointer (some (a.add fd.offset))) w:=fun a=>by
     simp [Instr.fieldAt,Instr.sureAddr,Sem.run_bind,Result.andThen,run_under hu,hf,hp]
    split at he
    ·simp only [Option.some.injEq] at he
     subst he
     unfold VA at hv
     obtain ⟨L,h1,h2,rfl⟩:=hv
     refine ⟨_,go _,Steps.still hr rfl ?_⟩
     rw [add_at]
     show VA _ _ _ (.bp _ _ _) _
     unfold VA
     exact ⟨L,h1,h2,rfl⟩
    ·simp only [Option.some.injEq] at he
     subst he
     unfold VA at hv
     obtain ⟨L,h1,rfl⟩:=hv
     refine ⟨_,go _,Steps.still hr rfl ?_⟩
     rw [add_at]
     show VA _ _ _ (.op _ _ _ _) _
     unfold VA
     exact ⟨L,h1,by rw [Nat.add_assoc]⟩
    ·simp only [Option.some.injEq] at he
     subst he
     unfold VA at hv
     obtain ⟨b,o,n,rfl,h2⟩:=hv
     refine ⟨_,go _,Steps.still hr rfl ?_⟩
     rw [add_at]
     show VA _ _ _ (.ep _ _ _) _
     unfold VA
     exact ⟨b,o,n,by rw [Nat.add_assoc],h2⟩
    ·cases he
   ·cases he
  ·cases he
 ·cases he
end
section
theorem int_of {ι:Ix} {S:Sb} {w:World} {x:A} {u:Value} {i:Int} (h:VA ι S w x u) (hx:intOfA x=some i):∃ k,u = .int k i:=by
 unfold intOfA at hx
 split at hx
 ·simp only [Option.some.injEq] at hx
  subst hx
  unfold VA ValD CellsD at h
  simp only [List.cons.injEq,and_true] at h
  exact ⟨_,h.1⟩
 ·cases hx
theorem VA_lst {ι:Ix} {S:Sb} {w:World} {xs:List D} {u:Value}:VA ι S w (.d (.lst xs)) u ↔ ∃ a cap,u = .slice a xs.length cap∧xs.length ≤ cap∧(xs=[] ∨ ∃ b o n,a=some ⟨b,o,none⟩∧RowD S w b n o xs):=by
 unfold VA ValD CellsD
 simp only [List.cons.injEq,and_true]
theorem row_n {S:Sb} {w:World} {b n o sz:Nat} {xs:List D} (h:RowD S w b n o xs) (hne:xs ≠ []) (hh:headOk sz xs=true):n=sz:=by
 cases xs with
 | nil=>exact absurd rfl hne
 | cons x xs =>
  obtain ⟨us,_,h2,_⟩:=RowD_get.1 h 0 x rfl
  simp only [headOk,beq_iff_eq] at hh
  omega
theorem idx_run {P:Program} {w:World} {t e:TypeId} (ht:P.underlying t=some (.slice e)) {sz:Nat} (hs:tsize P e=some sz) (b o len cap:Nat) (k:IntKind) (i:Int) (h0:0 ≤ i) (h1:i < len) :
  (Instr.indexAt t (.slice (some ⟨b,o,none⟩) len cap) (.int k i)).run P w = .ok (.pointer (some ⟨b,o + i.toNat * sz,none⟩)) w:=by
 simp [Instr.indexAt,asIntOf,Sem.run_bind,Result.andThen,run_under ht,run_size hs,h0,h1,add_at]
theorem idxE_ok {P:Program} {E:Env} {ι:Ix} {S:Sb} {h:Id→O} {w:World} (hr:RelH E ι S h w) {t e:TypeId} (ht:P.underlying t=some (.slice e)) {sz:Nat} (hs:tsize P e=some sz) {xs:List D} {a:Option Addr} {cap:Nat} (hx:xs=[] ∨ ∃ b o n,a=some ⟨b,o,none⟩∧RowD S w b n o xs) {k:IntKind} {i:Int} {ef:Eff} (he:idxE xs sz i=some ef) :
  ∃ u,(Instr.indexAt t (.slice a xs.length cap) (.int k i)).run P w = .ok u w∧Steps E ι S h w ef u w:=by
 unfold idxE at he
 split at he
 ·rename_i hc
  obtain ⟨h0,h1,h2⟩:=hc
  simp only [Option.some.injEq] at he
  subst he
  obtain ⟨x,hx',hxs⟩:=Option.map_eq_some_iff.1 h2
  rcases hx with rfl | ⟨b,o,n,rfl,hrow⟩
  ·simp at hx'
  ·obtain ⟨us,_,h4,_⟩:=RowD_get.1 hrow _ x hx'
   refine ⟨_,idx_run ht hs b o xs.length cap k i h0 h1,Steps.still hr rfl ?_⟩
   show VA _ _ _ (.ep xs i.toNat 0) _
   unfold VA
   exact ⟨b,o,n,by rw [Nat.add_zero,← hxs,h4],hrow⟩
 ·cases he
theorem indexAddr_ok {P:Program} {E:Env} {ι:Ix} {S:Sb} {h:Id→O} {w:World} (hr:RelH E ι S h w) {t:TypeId} {x ix:A} {v vi:Value} (hv:VA ι S w x v) (hi:VA ι S w ix vi) {e:Eff} (he:indexAddrE P h t x ix=some e) :
  ∃ u,(Instr.indexAt t v vi).run P w = .ok u w∧Steps E ι S h w e u w:=by
 unfold indexAddrE at he
 split at he
 ·rename_i i el hii ht
  obtain ⟨k,rfl⟩:=int_of hi hii
  split at he
  ·rename_i sz xs hs
   obtain ⟨a,cap,rfl,_,hx⟩:=VA_lst.1 hv
   exact idxE_ok hr ht hs hx he
  ·rename_i sz xs hs
   unfold VA at hv
   obtain ⟨a,rfl,hx⟩:=hv
   exact idxE_ok hr ht hs hx he
  ·rename_i sz id ver off len hs
   split at he
   ·rename_i v' n xs fz ho
    split at he
    ·rename_i hc
     obtain ⟨rfl,rfl,h0,h1⟩:=hc
     simp only [Option.some.injEq] at he
     subst he
     unfold VA at hv
     obtain ⟨a,cap,rfl,hlc,hx⟩:=hv
     rcases hx with rfl | ⟨L,hL,rfl,hcap⟩
     ·omega
     ·have hob:=hr.objs id
      rw [ho] at hob
      have hn:L.n=n:=by
       rcases hob with ⟨_,g⟩ | ⟨L',g1,g2,_⟩
       ·rw [hL] at g; cases g
       ·rw [hL] at g1; cases g1; exact g2
      refine ⟨_,idx_run ht hs _ _ len cap k i h0 h1,Steps.still hr rfl ?_⟩
      show VA _ _ _ (.op id v' (off + i.toNat) 0) _
      unfold VA
      refine ⟨L,hL,?_⟩
      rw [hn,Nat.add_mul,Nat.add_zero,Nat.add_assoc]
    ·cases he
   ·cases he
  ·cases he
 ·rename_i i len el hii ht
  obtain ⟨k,rfl⟩:=int_of hi hii
  split at he
  ·rename_i sz id ver off hs
   split at he
   ·rename_i hc
    obtain ⟨h0,h1⟩:=hc
    simp only [Option.some.injEq] at he
    subst he
    unfold VA at hv
    obtain ⟨L,hL,hst,rfl⟩:=hv
    refine ⟨.pointer (some ⟨L.b,off + i.toNat * sz,none⟩),?_,Steps.still hr rfl ?_⟩
    ·simp [Instr.indexAt,Instr.sureAddr,asIntOf,Sem.run_bind,Result.andThen,run_under ht,run_size hs,h0,h1,add_at]
    ·show VA _ _ _ (.bp _ _ _) _
     unfold VA
     exact ⟨L,hL,hst,rfl⟩
   ·cases he
  ·cases he
 ·cases he
theorem VL_take {ι:Ix} {S:Sb} {w:World} {xs:List A} {us:List Value} (h:VL ι S w xs us) (k n:Nat):VL ι S w ((xs.drop k).take n) ((us.drop k).take n):=by
 obtain ⟨h1,h2⟩:=VL_get.1 h
 refine VL_get.2 ⟨by simp [h1],fun i x u hx hu=>?_⟩
 rw [List.getElem?_take] at hx hu
 split at hx
 ·rename_i hi
  rw [if_pos hi] at hu
  rw [List.getElem?_drop] at hx hu
  exact h2 _ x u hx hu
 ·cases hx
theorem part_ok {P:Program} {ι:Ix} {S:Sb} {w:World} {t:TypeId} {cs:List A} {us:Array Value} (hv:VL ι S w cs us.toList) {off:Nat} {y:A} (h:partE P t cs off=some y):∃ u,(part t us off).run P w = .ok u w∧VA ι S w y u:=by
 obtain ⟨h1,h2⟩:=VL_get.1 hv
 unfold partE at h
 split at h
 ·rename_i n ha hs
  split at h
  ·rename_i hn
   simp only [Option.some.injEq] at h
   subst h
   refine ⟨.agg (us.extract off (off + n)),?_,?_⟩
   ·simp [part,Sem.run_bind,Result.andThen,run_agg ha,run_size hs]
   ·have e:us.extract off (off + n)=((us.toList.drop off).take n).toArray:=by
     apply Array.ext'
     simp [Array.toList_extract,List.extract]
    rw [e]
    exact VA_mk (VL_take hv off n)
  ·cases h
 ·rename_i ha hs
  have hoff:off < us.size:=by have:=(List.getElem?_eq_some_iff.1 h).1; simp at h1; omega
  refine ⟨us[off],?_,h2 off y us[off] h (by simp [hoff])⟩
  simp [part,Sem.run_bind,Result.andThen,run_agg ha,Array.getElem?_eq_getElem hoff]
 ·cases h
theorem agg_of {ι:Ix} {S:Sb} {w:World} {x:A} {u:Value} (h:VA ι S w x u) (hx:x.isAgg=true):∃ us,u = .agg us∧VL ι S w x.cells us.toList:=by
 have hne:x ≠ .any:=by rintro rfl; cases hx
 have hc:=VA_cells h hne
 unfold A.isAgg at hx
 split at hx
 ·unfold VA ValD at h
  obtain ⟨us,rfl,_⟩:=h
  exact ⟨us,rfl,hc⟩
 ·unfold VA at h
  obtain ⟨us,rfl,_⟩:=h
  exact ⟨us,rfl,hc⟩
 ·cases hx
theorem field_ok {P:Program} {ι:Ix} {S:Sb} {w:World} {s:TypeId} {x:A} {v:Value} (hv:VA ι S w x v) {f:Nat} {y:A} (h:fieldE P s x f=some y):∃ u,(Instr.field s v f).run P w = .ok u w∧VA ι S w y u:=by
 unfold fieldE at h
 split at h
 ·rename_i fs hu
  split at h
  ·rename_i fd hf
   split at h
   ·rename_i hg
    obtain ⟨us,rfl,hc⟩:=agg_of hv hg
    obtain ⟨u,h1,h2⟩:=part_ok hc h
    exact ⟨u,by simp [Instr.field,asAgg,Sem.run_bind,Result.andThen,run_under hu,hf,h1],h2⟩
   ·cases h
  ·cases h
 ·cases h
theorem index_ok {P:Program} {ι:Ix} {S:Sb} {w:World} {t:TypeId} {x ix:A} {v vi:Value} (hv:VA ι S w x v) (hi:VA ι S w ix vi) {y:A} (h:indexE P t x ix=some y):∃ u,(Instr.index t v vi).run P w = .ok u w∧VA ι S w y u:=by
 unfold indexE at h
 split at h
 ·rename_i i len el hii ht
  obtain ⟨k,rfl⟩:=int_of hi hii
  split at h
  ·rename_i sz hs
   split at h
   ·rename_i hc
    obtain ⟨hg,h0,h1⟩:=hc
    obtain ⟨us,rfl,hc⟩:=agg_of hv hg
    obtain ⟨u,g1,g2⟩:=part_ok hc h
    exact ⟨u,by simp [Instr.index,asIntOf,Sem.run_bind,Result.andThen,run_under ht,run_size hs,h0,h1,g1],g2⟩
   ·cases h
  ·cases h
 ·cases h
end
section
def OVA (ι:Ix) (S:Sb) (w:World):Option A→Option Value→Prop
 | none,none=>True
 | some a,some v=>VA ι S w a v
 | _,_=>False
theorem run_bound1 {P:Program} {w:World} {ι:Ix} {S:Sb} {a:A} {v:Value} (h:VA ι S w a v) {i:Int} (hi:intOfA a=some i) {y:Nat} (h0:0 ≤ i) (h1:i ≤ y) (code:BoundsCode):(Instr.sliceBound v y code).run P w = .ok i.toNat w:=by
 obtain ⟨k,rfl⟩:=int_of h hi
 exact run_sliceBound w k i y code h0 h1
theorem run_bounds {P:Program} {w:World} {ι:Ix} {S:Sb} {lo hi mx:Option A} {lo' hi' mx':Option Value} (hlo:OVA ι S w lo lo') (hhi:OVA ι S w hi hi') (hmx:OVA ι S w mx mx') {len cap l u:Nat} (h:boundE lo hi len=some (l,u)) (hc:len ≤ cap) (hm:maxOk mx hi u=true) :
  (Instr.sliceBounds true len cap lo' hi' mx').run P w = .ok (l,u,if mx.isSome then u else cap) w∧l ≤ u∧u ≤ len:=by
 unfold boundE at h
 split at h
 ·cases h
 ·rename_i hh hhe
  split at h
  ·cases h
  ·rename_i ll hle
   split at h
   ·rename_i hcond
    obtain ⟨c1,c2,c3⟩:=hcond
    simp only [Option.some.injEq,Prod.mk.injEq] at h
    obtain ⟨rfl,rfl⟩:=h
    have e1:((hh.toNat:Nat):Int)=hh:=by omega
    refine ⟨?_,by omega,by omega⟩
    cases mx with
    | none =>
     cases mx' with
     | some _=>exact hmx.elim
     | none =>
      cases hi with
      | none =>
       cases hi' with
       | some _=>exact hhi.elim
       | none =>
        simp only [Option.some.injEq] at hhe
        subst hhe
        cases lo with
        | none =>
         cases lo' with
         | some _=>exact hlo.elim
         | none =>
          simp only [Option.some.injEq] at hle
          subst hle
          simp [Instr.sliceBounds,Sem.run_bind,Result.andThen]
        | some al =>
         cases lo' with
         | none=>exact hlo.elim
         | some vl =>
          have:=run_bound1 (P:=P) hlo hle (y:=len) c1 (by omega) .sliceB
          simp [Instr.sliceBounds,Sem.run_bind,Result.andThen,this]
      | some ah =>
       cases hi' with
       | none=>exact hhi.elim
       | some vh =>
        have h1:=run_bound1 (P:=P) hhi hhe (y:=cap) (by omega) (by omega) .sliceAcap
        cases lo with
        | none =>
         cases lo' with
         | some _=>exact hlo.elim
         | none =>
          simp only [Option.some.injEq] at hle
          subst hle
          simp [Instr.sliceBounds,Sem.run_bind,Result.andThen,h1]
        | some al =>
         cases lo' with
         | none=>exact hlo.elim
         | some vl =>
          have h2:=run_bound1 (P:=P) hlo hle (y:=hh.toNat) c1 (by omega) .sliceB
          simp [Instr.sliceBounds,Sem.run_bind,Result.andThen,h1,h2]
    | some am =>
     cases mx' with
     | none=>exact hmx.elim
     | some vm =>
      simp only [maxOk,Bool.and_eq_true,beq_iff_eq] at hm
      cases hi with
      | none=>simp at hm
      | some ah =>
       cases hi' with
       | none=>exact hhi.elim
       | some vh =>
        have h0:=run_bound1 (P:=P) hmx hm.2 (y:=cap) (by omega) (by omega) .slice3Acap
        have h1:=run_bound1 (P:=P) hhi hhe (y:=hh.toNat) (by omega) (by omega) .slice3B
        rw [show ((hh.toNat:Nat):Int).toNat=hh.toNat by omega] at h0
        cases lo with
        | none =>
         cases lo' with
         | some _=>exact hlo.elim
         | none =>
          simp only [Option.some.injEq] at hle
          subst hle
          simp [Instr.sliceBounds,Sem.run_bind,Result.andThen,h0,h1]
        | some al =>
         cases lo' with
         | none=>exact hlo.elim
         | some vl =>
          have h2:=run_bound1 (P:=P) hlo hle (y:=hh.toNat) c1 (by omega) .slice3C
          simp [Instr.sliceBounds,Sem.run_bind,Result.andThen,h0,h1,h2]
   ·cases h
theorem run_sliceAt {P:Program} {w:World} {t e:TypeId} (ht:P.underlying t=some (.slice e)) {sz:Nat} (hs:tsize P e=some sz) {a:Option Addr} {len cap l u m:Nat} {lo hi mx:Option Value}
  (h:(Instr.sliceBounds true len cap lo hi mx).run P w = .ok (l,u,m) w):(Instr.sliceAt t (.slice a len cap) lo hi mx).run P w = .ok (.slice (if m=l then a else a.map (·.add (l * sz))) (u - l) (m - l)) w:=by
 simp [Instr.sliceAt,Instr.slice,Sem.run_bind,Result.andThen,run_under ht,run_size hs,h]
theorem sub_row {S:Sb} {w:World} {xs:List D} {a:Option Addr} {sz l u m:Nat} (hx:xs=[] ∨ ∃ b o n,a=some ⟨b,o,none⟩∧RowD S w b n o xs) (hh:headOk sz xs=true) (hl:l ≤ u) (hu:u ≤ xs.length) (hm:u ≤ m) :
  (xs.take u).drop l=[] ∨ ∃ b o n,(if m=l then a else a.map (·.add (l * sz)))=some ⟨b,o,none⟩∧RowD S w b n o ((xs.take u).drop l):=by
 by_cases e:l=u
 ·left
  subst e
  simp
 ·rcases hx with rfl | ⟨b,o,n,rfl,hrow⟩
  ·simp at hu; omega
  ·right
   have hn:n=sz:=row_n hrow (by rintro rfl; simp at hu; omega) hh
   refine ⟨b,o + l * n,n,?_,(hrow.take u).drop l⟩
   rw [if_neg (by omega),hn]
   simp [add_at]
theorem sub_len {xs:List D} {l u:Nat} (hu:u ≤ xs.length):((xs.take u).drop l).length=u - l:=by
 simp only [List.length_drop,List.length_take]; omega
theorem slice_ok {P:Program} {E:Env} {ι:Ix} {S:Sb} {h:Id→O} {w:World} (hr:RelH E ι S h w) {t:TypeId} {x:A} {v:Value} (hv:VA ι S w x v) {lo hi mx:Option A} {lo' hi' mx':Option Value} (hlo:OVA ι S w lo lo') (hhi:OVA ι S w hi hi') (hmx:OVA ι S w mx mx')
  {ef:Eff} (he:sliceE P h t x lo hi mx=some ef):∃ u,(Instr.sliceAt t v lo' hi' mx').run P w = .ok u w∧Steps E ι S h w ef u w:=by
 unfold sliceE at he
 split at he
 ·cases he
 ·rename_i e hte
  have ht:P.underlying t=some (.slice e):=by
   unfold telem at hte
   split at hte
   ·rename_i e' h'; cases hte; exact h'
   ·cases hte
  split at he
  ·cases he
  ·rename_i sz hs
   split at he
   ·rename_i xs
    split at he
    ·rename_i l u hb
     split at he
     ·rename_i hc
      obtain ⟨hm,hh⟩:=hc
      obtain ⟨a,cap,rfl,hcap,hx⟩:=VA_lst.1 hv
      obtain ⟨hrun,h1,h2⟩:=run_bounds (P:=P) hlo hhi hmx hb hcap hm
      have hrun':=run_sliceAt ht hs (a:=a) hrun
      simp only [Option.some.injEq] at he
      subst he
      refine ⟨_,hrun',Steps.still hr rfl ?_⟩
      cases mx with
      | none =>
       simp only [Option.isSome_none,Bool.false_eq_true,if_false]
       refine VA_lst.2 ⟨_,_,by rw [sub_len h2],by rw [sub_len h2]; omega,sub_row hx hh h1 h2 (by omega)⟩
      | some am =>
       simp only [Option.isSome_some,if_true]
       show VA _ _ _ (.clip _) _
       unfold VA
       exact ⟨_,by rw [sub_len h2],sub_row hx hh h1 h2 (by omega)⟩
     ·cases he
    ·cases he
   ·rename_i xs
    split at he
    ·rename_i l u hb
     split at he
     ·rename_i hc
      obtain ⟨hm,hh⟩:=hc
      unfold VA at hv
      obtain ⟨a,rfl,hx⟩:=hv
      obtain ⟨hrun,h1,h2⟩:=run_bounds (P:=P) hlo hhi hmx hb (Nat.le_refl _) hm
      have hrun':=run_sliceAt ht hs (a:=a) hrun
      simp only [Option.some.injEq] at he
      subst he
      refine ⟨_,hrun',Steps.still hr rfl ?_⟩
      cases mx with
      | none =>
       simp only [Option.isSome_none,Bool.false_eq_true,if_false,false_or]
       split
       ·rename_i eu
        unfold VA
        subst eu
        exact ⟨_,by rw [sub_len (Nat.le_refl _)],sub_row hx hh h1 h2 (by omega)⟩
       ·exact VA_lst.2 ⟨_,_,by rw [sub_len h2],by rw [sub_len h2]; omega,sub_row hx hh h1 h2 (by omega)⟩
      | some am =>
       simp only [Option.isSome_some,if_true,true_or]
       unfold VA
       exact ⟨_,by rw [sub_len h2],sub_row hx hh h1 h2 (by omega)⟩
     ·cases he
    ·cases he
   ·rename_i id ver off len
    split at he
    ·rename_i v' n xs fz l u ho hb
     split at he
     ·rename_i hc
      obtain ⟨rfl,h3,h4,h5⟩:=hc
      cases mx with
      | some _=>cases h5
      | none =>
       unfold VA at hv
       obtain ⟨a,cap,rfl,hlc,hx⟩:=hv
       obtain ⟨hrun,h1,h2⟩:=run_bounds (P:=P) hlo hhi hmx hb hlc rfl
       have hrun':=run_sliceAt ht hs (a:=a) hrun
       simp only [Option.isSome_none,Bool.false_eq_true,if_false] at hrun'
       simp only [Option.some.injEq] at he
       subst he
       refine ⟨_,hrun',Steps.still hr rfl ?_⟩
       show VA _ _ _ (.sl id v' (off + l) (u - l)) _
       unfold VA
       refine ⟨_,_,rfl,by omega,?_⟩
       by_cases hz:cap - l=0
       ·exact Or.inl hz
       ·rcases hx with rfl | ⟨L,hL,rfl,hlim⟩
        ·omega
        ·refine Or.inr ⟨L,hL,?_,by omega⟩
         rw [if_neg (by omega)]
         have hob:=hr.objs id
         rw [ho] at hob
         have hn:L.n=n:=by
          rcases hob with ⟨_,g⟩ | ⟨L',g1,g2,_⟩
          ·rw [hL] at g; cases g
          ·rw [hL] at g1; cases g1; exact g2
         have:l * sz=l * L.n:=by
          simp only [Bool.or_eq_true,List.isEmpty_iff,beq_iff_eq] at h4
          rcases h4 with rfl | rfl
          ·simp at h3
           have:l=0:=by omega
           simp [this]
          ·rw [hn]
         simp [add_at,this,Nat.add_mul,Nat.add_assoc]
     ·cases he
    ·cases he
   ·cases he
theorem len_ok {P:Program} {ι:Ix} {S:Sb} {w:World} {x:A} {v:Value} (hv:VA ι S w x v) {n:Nat} (h:lenE x=some n):∃ a cap,v = .slice a n cap:=by
 unfold lenE at h
 split at h
 ·simp only [Option.some.injEq] at h
  obtain ⟨a,cap,rfl,_⟩:=VA_lst.1 hv
  exact ⟨a,cap,by rw [h]⟩
 ·simp only [Option.some.injEq] at h
  unfold VA at hv
  obtain ⟨a,rfl,_⟩:=hv
  exact ⟨a,_,by rw [h]⟩
 ·simp only [Option.some.injEq] at h
  unfold VA at hv
  obtain ⟨a,cap,rfl,_⟩:=hv
  exact ⟨a,cap,by rw [h]⟩
 ·cases h
end
section
theorem foldl_set (off:Nat):∀ (vs:List Value) (k:Nat) (cells:Array Value),off + k + vs.length ≤ cells.size →
  ((vs.zipIdx k).foldl (fun (cs:Array Value) (p:Value × Nat)=>cs.setIfInBounds (off + p.2) p.1) cells).toList=put cells.toList (off + k) vs
 | [],k,cells,h=>by
  simp only [List.zipIdx_nil,List.foldl_nil]
  unfold put
  simp
 | v :: vs,k,cells,h=>by
  simp only [List.zipIdx_cons,List.foldl_cons]
  simp only [List.length_cons] at h
  rw [foldl_set off vs (k + 1) _ (by simp; omega)]
  apply List.ext_getElem?
  intro j
  have hl:off + k + (v :: vs).length ≤ cells.toList.length:=by simp; omega
  rw [put_get (by simp; omega),put_get hl]
  simp only [Array.toList_setIfInBounds,List.length_cons]
  by_cases h1:j < off + k
  ·rw [if_pos (by omega),if_pos h1,List.getElem?_set,if_neg (by omega)]
  ·rw [if_neg h1]
   by_cases h2:j=off + k
   ·subst h2
    rw [if_pos (by omega),if_pos (by omega),List.getElem?_set,if_pos rfl]
    simp; omega
   ·rw [if_neg (by omega)]
    by_cases h3:j < off + k + (vs.length + 1)
    ·rw [if_pos (by omega),if_pos h3]
     have:j - (off + k)=(j - (off + (k + 1))) + 1:=by omega
     rw [this]
     simp
    ·rw [if_neg (by omega),if_neg h3,List.getElem?_set,if_neg (by omega)]
theorem VL_put {ι:Ix} {S:Sb} {w:World} {cs xs:List A} {us vs:List Value} {off:Nat} (h:VL ι S w cs us) (k:VL ι S w xs vs) (hl:off + xs.length ≤ cs.length):VL ι S w (put cs off xs) (put us off vs):=by
 obtain ⟨h1,h2⟩:=VL_get.1 h
 obtain ⟨k1,k2⟩:=VL_get.1 k
 have hl':off + vs.length ≤ us.length:=by omega
 refine VL_get.2 ⟨by rw [put_length hl,put_length hl',h1],fun i x u hx hu=>?_⟩
 rw [put_get hl] at hx
 rw [put_get hl'] at hu
 by_cases c1:i < off
 ·rw [if_pos c1] at hx hu; exact h2 i x u hx hu
 ·rw [if_neg c1] at hx hu
  by_cases c2:i < off + xs.length
  ·rw [if_pos c2] at hx; rw [if_pos (by omega)] at hu; exact k2 _ x u hx hu
  ·rw [if_neg c2] at hx; rw [if_neg (by omega)] at hu; exact h2 i x u hx hu
def VP (ι:Ix) (S:Sb) (w:World):List (Nat × A)→List (Nat × Value)→Prop
 | [],vs=>vs=[]
 | (i,x) :: l,vs=>∃ v vs',vs=(i,v) :: vs' ∧ VA ι S w x v∧VP ι S w l vs'
theorem fill_ok {ι:Ix} {S:Sb} {w:World} (place:Nat→Option (Nat × Nat)):∀ (parts:List (Nat × A)) (vparts:List (Nat × Value)) (cs r:List A) (us:Array Value),VP ι S w parts vparts→VL ι S w cs us.toList→fillA place cs parts=some r →
  ∃ us',Instr.fill place us vparts=some us' ∧ VL ι S w r us'.toList
 | [],vparts,cs,r,us,hp,hv,h=>by
  unfold VP at hp
  subst hp
  simp only [fillA,Option.some.injEq] at h
  subst h
  exact ⟨us,rfl,hv⟩
 | (i,x) :: parts,vparts,cs,r,us,hp,hv,h=>by
  unfold VP at hp
  obtain ⟨v,vs',rfl,h1,h2⟩:=hp
  unfold fillA at h
  cases hpl:place i with
  | none=>rw [hpl] at h; cases h
  | some p =>
   obtain ⟨off,size⟩:=p
   rw [hpl] at h
   simp only at h
   split at h
   ·cases h
   ·rename_i hc
    have hvc:=VA_cells h1 (by rintro rfl; exact hc (Or.inr (Or.inr rfl)))
    have hlen:=(VL_get.1 hvc).1
    have hlen2:=(VL_get.1 hv).1
    simp only [Array.length_toList] at hlen hlen2
    have c1:v.cells.size=size:=by
     have:¬ (x.cells.length ≠ size):=fun e=>hc (Or.inl e)
     omega
    have c2:¬ (cs.length < off + x.cells.length):=fun e=>hc (Or.inr (Or.inl e))
    have hf:=foldl_set off v.cells.toList 0 us (by simp; omega)
    obtain ⟨us',h5,h6⟩:=fill_ok place parts vs' (put cs off x.cells) r (v.cells.zipIdx.foldl (fun cs (c,j)=>cs.setIfInBounds (off + j) c) us) h2 (by
     rw [← Array.foldl_toList]
     simp only [Array.toList_zipIdx]
     have e:(v.cells.toList.zipIdx 0).foldl (fun (cs:Array Value) (x:Value × Nat)=>match x with | (c,j)=>cs.setIfInBounds (off + j) c) us=(v.cells.toList.zipIdx 0).foldl (fun (cs:Array Value) (p:Value × Nat)=>cs.setIfInBounds (off + p.2) p.1) us:=rfl
     rw [e,hf]
     exact VL_put hv hvc (by omega)) h
    refine ⟨us',?_,h6⟩
    unfold Instr.fill
    rw [hpl]
    simp only
    rw [if_neg]
    ·exact h5
    ·simp only [Bool.or_eq_true,decide_eq_true_eq,ne_eq,not_or,Decidable.not_not]
     exact ⟨c1,by omega⟩
theorem places_get {P:Program} {w:World}:∀ {fs:List Field} {pl:List (Nat × Nat)},places P fs=some pl→(fs.mapM (fun (f:Field)=>(do pure (f.offset,← sizeOf f.type):Sem (Nat × Nat)))).run P w = .ok pl w
 | [],pl,h=>by
  simp only [places,Option.some.injEq] at h
  subst h
  simp
 | f :: fs,pl,h=>by
  unfold places at h
  split at h
  ·rename_i n r hn hr
   simp only [Option.some.injEq] at h
   subst h
   have ih:=places_get (w:=w) hr
   simp only [List.mapM_cons,Sem.run_bind,run_size hn,Result.andThen,ih,Sem.run_pure]
  ·cases h
theorem build_ok {P:Program} {ι:Ix} {S:Sb} {w:World} {t:TypeId} {parts:List (Nat × A)} {vparts:Array (Nat × Value)} (hp:VP ι S w parts vparts.toList) {y:A} (h:buildE P t parts=some y):∃ u,(Instr.build t vparts).run P w = .ok u w∧VA ι S w y u:=by
 unfold buildE at h
 split at h
 ·rename_i z fs hz hu
  split at h
  ·rename_i pl hpl
   obtain ⟨r,h1,rfl⟩:=Option.map_eq_some_iff.1 h
   obtain ⟨us',h2,h3⟩:=fill_ok (fun i=>pl[i]?) parts vparts.toList _ r z.cells hp (VL_ofCell _ _ _ _) h1
   refine ⟨.agg us',?_,by simpa using VA_mk h3⟩
   have hm:=places_get (w:=w) hpl
   have hm':(fs.mapM (fun (f:Field)=>(do pure (f.offset,← sizeOf f.type):Sem (Nat × Nat)))).run P w = .ok pl.toArray w:=by
    rw [Array.mapM_eq_mapM_toList]
    simp only [map_eq_pure_bind,Sem.run_bind,hm,Result.andThen,Sem.run_pure]
   have h2':Instr.fill (fun x=>pl.toArray[x]?) z.cells vparts.toList=some us':=by simpa using h2
   simp only [Instr.build,Sem.run_bind,run_zero hz,run_under hu,Result.andThen,hm',h2',Sem.run_pure]
  ·cases h
 ·rename_i z len e hz hu
  split at h
  ·rename_i sz hs
   obtain ⟨r,h1,rfl⟩:=Option.map_eq_some_iff.1 h
   obtain ⟨us',h2,h3⟩:=fill_ok (fun i=>some (i * sz,sz)) parts vparts.toList _ r z.cells hp (VL_ofCell _ _ _ _) h1
   refine ⟨.agg us',?_,by simpa using VA_mk h3⟩
   simp only [Instr.build,Sem.run_bind,run_zero hz,run_under hu,Result.andThen,run_size hs,h2,Sem.run_pure]
  ·cases h
 ·cases h
def Flat (S:Sb) (w:World) (sz:Nat) (ys:List D) (news:List Value):Prop :=
 news.length=ys.length * sz∧(∀ u ∈ news,u.oneCell' = true) ∧ ∀ (i:Nat) y,ys[i]? = some y→∃ us:List Value,us.length=sz∧y.cells.length=sz∧CellsD S w y us ∧ ∀ (j:Nat) u,us[j]? = some u→news[i * sz + j]? = some u
theorem Flat.nil (S:Sb) (w:World) (sz:Nat):Flat S w sz [] []:=⟨by simp,by simp,fun i y h=>by simp at h⟩
theorem Flat.cons {S:Sb} {w:World} {sz:Nat} {y:D} {ys:List D} {us news:List Value} (h1:us.length=sz) (h2:y.cells.length=sz) (h3:CellsD S w y us) (h4:∀ u ∈ us,u.oneCell' = true) (h:Flat S w sz ys news):Flat S w sz (y :: ys) (us ++ news):=by
 obtain ⟨g1,g2,g3⟩:=h
 refine ⟨by rw [List.length_append,List.length_cons,Nat.succ_mul,h1,g1]; omega,fun u hu=>?_,fun i x hx=>?_⟩
 ·rcases List.mem_append.1 hu with hu | hu
  ·exact h4 u hu
  ·exact g2 u hu
 ·cases i with
  | zero =>
   simp only [List.getElem?_cons_zero,Option.some.injEq] at hx
   subst hx
   refine ⟨us,h1,h2,h3,fun j u hj=>?_⟩
   have hj':j < us.length:=(List.getElem?_eq_some_iff.1 hj).1
   rw [Nat.zero_mul,Nat.zero_add,List.getElem?_append_left hj']
   exact hj
  | succ i =>
   obtain ⟨us',k1,k2,k3,k4⟩:=g3 i x (by simpa using hx)
   refine ⟨us',k1,k2,k3,fun j u hj=>?_⟩
   rw [List.getElem?_append_right (by rw [Nat.succ_mul]; omega),h1,show (i + 1) * sz + j - sz=i * sz + j by rw [Nat.succ_mul]; omega]
   exact k4 j u hj
theorem Flat.append {S:Sb} {w:World} {sz:Nat} {xs ys:List D} {a b:List Value} (h:Flat S w sz xs a) (k:Flat S w sz ys b):Flat S w sz (xs ++ ys) (a ++ b):=by
 obtain ⟨g1,g2,g3⟩:=h
 obtain ⟨k1,k2,k3⟩:=k
 refine ⟨by rw [List.length_append,List.length_append,Nat.add_mul,g1,k1],fun u hu=>?_,fun i x hx=>?_⟩
 ·rcases List.mem_append.1 hu with hu | hu
  ·exact g2 u hu
  ·exact k2 u hu
 ·by_cases hi:i < xs.length
  ·rw [List.getElem?_append_left hi] at hx
   obtain ⟨us,m1,m2,m3,m4⟩:=g3 i x hx
   refine ⟨us,m1,m2,m3,fun j u hj=>?_⟩
   have:=m4 j u hj
   rw [List.getElem?_append_left (List.getElem?_eq_some_iff.1 this).1]
   exact this
  ·rw [List.getElem?_append_right (by omega)] at hx
   obtain ⟨us,m1,m2,m3,m4⟩:=k3 _ x hx
   refine ⟨us,m1,m2,m3,fun j u hj=>?_⟩
   have e:i * sz=xs.length * sz + (i - xs.length) * sz:=by rw [← Nat.add_mul]; congr 1; omega
   rw [List.getElem?_append_right (by omega),g1,show i * sz + j - xs.length * sz=(i - xs.length) * sz + j by omega]
   exact m4 j u hj
theorem Flat.mono {S S':Sb} {w w':World} {sz:Nat} {ys:List D} {news:List Value} (h:Flat S w sz ys news) (hs:∀ b o,S b o→S' b o) (hc:∀ b o,S b o→w'.cell? ⟨b,o,none⟩=w.cell? ⟨b,o,none⟩):Flat S' w' sz ys news :=
 ⟨h.1,h.2.1,fun i y hy=>by
  obtain ⟨us,m1,m2,m3,m4⟩:=h.2.2 i y hy
  exact ⟨us,m1,m2,CellsD_mono hs hc _ _ m3,m4⟩⟩
theorem Flat.vec {S:Sb} {w:World} {sz:Nat} {ys:List D} {news:List Value} (h:Flat S w sz ys news) {b o:Nat} (hc:∀ (j:Nat) u,news[j]? = some u→w.cell? ⟨b,o + j,none⟩=some u):VecRow S w b sz o ys:=fun i y hy=>by
 obtain ⟨us,m1,m2,m3,m4⟩:=h.2.2 i y hy
 refine ⟨us,m1,m2,m3,fun j u hj=>⟨?_,?_⟩⟩
 ·exact h.2.1 u (List.mem_of_getElem? (m4 j u hj))
 ·rw [Nat.add_assoc]; exact hc _ _ (m4 j u hj)
theorem VecRow.flat {S:Sb} {w:World} {b n:Nat}:∀ {xs:List D} {o:Nat},VecRow S w b n o xs→∃ news,Flat S w n xs news ∧ ∀ (j:Nat) u,news[j]? = some u→w.cell? ⟨b,o + j,none⟩=some u
 | [],o,_=>⟨[],Flat.nil _ _ _,fun j u h=>by simp at h⟩
 | x :: xs,o,h=>by
  obtain ⟨us,h1,h2,h3,h4⟩:=h 0 x rfl
  obtain ⟨news,h5,h6⟩:=VecRow.flat (xs:=xs) (o:=o + n) (by have:=h.drop 1; simpa using this)
  refine ⟨us ++ news,Flat.cons h1 h2 h3 (fun u hu=>?_) h5,fun j u hj=>?_⟩
  ·obtain ⟨j,hj,rfl⟩:=List.getElem_of_mem hu
   exact (h4 j _ (List.getElem?_eq_getElem hj)).1
  ·by_cases hj':j < us.length
   ·rw [List.getElem?_append_left hj'] at hj
    have:=(h4 j u hj).2
    simpa using this
   ·rw [List.getElem?_append_right (by omega)] at hj
    have:=h6 _ u hj
    rw [show o + n + (j - us.length)=o + j by omega] at this
    exact this
end
section
def addS (S:Sb) (b lo hi:Nat):Sb:=fun b' o=>S b' o ∨ (b' = b∧lo ≤ o∧o < hi)
theorem freeze_ver (o:O):o.freeze.ver=o.ver:=by cases o <;> rfl
theorem freeze_freeze (o:O):o.freeze.freeze=o.freeze:=by cases o <;> rfl
def FzAll (ι:Ix) (S:Sb) (h:Id→O) (ids:List Id):Prop:=∀ id ∈ ids,∀ ver n xs fz L,h id = .vec ver n xs fz→ι id ver=some L→∀ o,L.st ≤ o→o < L.st + xs.length * n→S L.b o
theorem RelH.congr {E:Env} {ι:Ix} {S:Sb} {h h':Id→O} {w:World} (hr:RelH E ι S h w) (e:∀ i,h' i=h i):RelH E ι S h' w:=by
 have:h' = h:=funext e
 rw [this]; exact hr
theorem RelH.freeze1 {E:Env} {ι:Ix} {S:Sb} {h:Id→O} {w:World} (hr:RelH E ι S h w) (id:Id) :
  ∃ S',Mono ι S w ι S' w∧RelH E ι S' (upd h id (h id).freeze) w∧FzAll ι S' h [id]:=by
 cases ho:h id with
 | no v=>exact ⟨S,Mono.refl _ _ _,hr.congr fun i=>by unfold upd; split <;> simp_all [O.freeze],fun i hi ver n xs fz L e=>by simp at hi; subst hi; rw [ho] at e; cases e⟩
 | box v cs=>exact ⟨S,Mono.refl _ _ _,hr.congr fun i=>by unfold upd; split <;> simp_all [O.freeze],fun i hi ver n xs fz L e=>by simp at hi; subst hi; rw [ho] at e; cases e⟩
 | map v es clock=>exact ⟨S,Mono.refl _ _ _,hr.congr fun i=>by unfold upd; split <;> simp_all [O.freeze],fun i hi ver n xs fz L e=>by simp at hi; subst hi; rw [ho] at e; cases e⟩
 | sit v s pos=>exact ⟨S,Mono.refl _ _ _,hr.congr fun i=>by unfold upd; split <;> simp_all [O.freeze],fun i hi ver n xs fz L e=>by simp at hi; subst hi; rw [ho] at e; cases e⟩
 | mit v mm since seen last=>exact ⟨S,Mono.refl _ _ _,hr.congr fun i=>by unfold upd; split <;> simp_all [O.freeze],fun i hi ver n xs fz L e=>by simp at hi; subst hi; rw [ho] at e; cases e⟩
 | vec v n xs fz =>
  have hob:=hr.objs id
  rw [ho] at hob
  have vl:∀ i,(upd h id (O.vec v n xs fz).freeze i).ver=(h i).ver∧(upd h id (O.vec v n xs fz).freeze i).live=(h i).live:=fun i=>by
   unfold upd
   split
   ·rename_i e; subst e; rw [ho]; exact ⟨rfl,rfl⟩
   ·exact ⟨rfl,rfl⟩
  rcases hob with ⟨g1,g2⟩ | ⟨L,g1,g2,g3,g4,g5,g6,g7,g8,g9,g10⟩
  ·refine ⟨S,Mono.refl _ _ _,⟨hr.below,hr.size,fun i=>?_,fun i i' L1 L2 hne hl hl' h1 h2=>?_,fun i ver hlt=>?_,hr.sub,hr.new,hr.inw,hr.old,hr.deep,hr.hold,fun b hp=>⟨(hr.prot b hp).1,(hr.prot b hp).2.1,(hr.prot b hp).2.2.1,fun i L' hl hL'=>(hr.prot b hp).2.2.2 i L' (by rw [(vl i).2] at hl; exact hl) (by rw [(vl i).1] at hL'; exact hL')⟩,hr.z,fun i hi=>⟨by rw [(vl i).1]; exact (hr.low i hi).1,(hr.low i hi).2⟩⟩,fun i hi ver n' xs' fz' L e hL=>?_⟩
   ·unfold upd
    split
    ·rename_i e; subst e; exact Or.inl ⟨g1,g2⟩
    ·exact hr.objs i
   ·rw [(vl i).2] at hl; rw [(vl i').2] at hl'; rw [(vl i).1] at h1; rw [(vl i').1] at h2
    exact hr.apart i i' L1 L2 hne hl hl' h1 h2
   ·rw [(vl i).1] at hlt; exact hr.vers i ver hlt
   ·simp at hi; subst hi; rw [ho] at e; cases e; rw [g2] at hL; cases hL
  ·have m:Mono ι S w ι (addS S L.b L.st (L.st + xs.length * n)) w:=⟨fun _ _ _ h=>h,fun _ _ h=>Or.inl h,fun _ _ _=>rfl⟩
   refine ⟨addS S L.b L.st (L.st + xs.length * n),m,⟨hr.below,hr.size,fun i=>?_,fun i i' L1 L2 hne hl hl' h1 h2=>?_,fun i ver hlt=>?_,fun b o hs=>Or.inl (hr.sub b o hs),fun b o hs=>?_,fun b o hs=>?_,hr.old,hr.deep,hr.hold,fun b hp=>⟨(hr.prot b hp).1,(hr.prot b hp).2.1,fun o hs=>?_,fun i L' hl hL'=>(hr.prot b hp).2.2.2 i L' (by rw [(vl i).2] at hl; exact hl) (by rw [(vl i).1] at hL'; exact hL')⟩,hr.z,fun i hi=>⟨by rw [(vl i).1]; exact (hr.low i hi).1,(hr.low i hi).2⟩⟩,fun i hi ver n' xs' fz' L' e hL o h1 h2=>?_⟩
   ·unfold upd
    split
    ·rename_i e; subst e
     refine Or.inr ⟨L,g1,g2,g3,g4,g5,g6,g7.mono m.sb m.cell (fun _ _ _=>rfl),fun o ho hs=>?_,(fun hf=>by cases hf),fun _ o h1 h2=>Or.inr ⟨rfl,h1,h2⟩⟩
     rcases hs with hs | ⟨_,_,hs⟩
     ·exact g8 o ho hs
     ·omega
    ·rename_i e
     refine (hr.objs i).keep m rfl (Nat.le_refl _) fun hl L2 hL2=>⟨fun p hs=>?_,rfl⟩
     rcases hs with hs | ⟨e',_,_⟩
     ·exact hs
     ·exact absurd e' (hr.apart i id L2 L e hl (by rw [ho]; rfl) hL2 (by rw [ho]; exact g1))
   ·rw [(vl i).2] at hl; rw [(vl i').2] at hl'; rw [(vl i).1] at h1; rw [(vl i').1] at h2
    exact hr.apart i i' L1 L2 hne hl hl' h1 h2
   ·rw [(vl i).1] at hlt; exact hr.vers i ver hlt
   ·rcases hs with hs | ⟨rfl,_,_⟩
    ·exact hr.new b o hs
    ·exact Or.inr g3
   ·rcases hs with hs | ⟨rfl,_,_⟩
    ·exact hr.inw b o hs
    ·exact g4
   ·rcases hs with hs | ⟨rfl,_,_⟩
    ·exact (hr.prot b hp).2.2.1 o hs
    ·exact absurd rfl ((hr.prot _ hp).2.2.2 id L (by rw [ho]; rfl) (by rw [ho]; exact g1))
   ·simp at hi; subst hi; rw [ho] at e; cases e; rw [g1] at hL; cases hL
    exact Or.inr ⟨rfl,h1,h2⟩
theorem RelH.freezeL {E:Env} {ι:Ix} {h0:Id→O} {w:World}:∀ (ids:List Id) {S:Sb} {h:Id→O},(∀ j,h j=h0 j ∨ h j=(h0 j).freeze)→RelH E ι S h w→∃ S',Mono ι S w ι S' w∧RelH E ι S' (upds h (frz h0 ids)) w∧FzAll ι S' h0 ids ∧ ∀ j,upds h (frz h0 ids) j=h0 j ∨ upds h (frz h0 ids) j=(h0 j).freeze
 | [],S,h,he,hr=>⟨S,Mono.refl _ _ _,hr,fun i hi=>by simp at hi,he⟩
 | id :: ids,S,h,he,hr=>by
  by_cases hfz:(h0 id).fz=true
  ·have e0:frz h0 (id :: ids)=frz h0 ids:=by simp [frz,hfz]
   rw [e0]
   obtain ⟨S2,m2,r2,f2,f3⟩:=RelH.freezeL ids he hr
   refine ⟨S2,m2,r2,fun i hi ver n xs fz L e hL o h1 h2=>?_,f3⟩
   rcases List.mem_cons.1 hi with rfl | hi
   ·rw [e] at hfz
    simp only [O.fz] at hfz
    subst hfz
    have hi':h i = .vec ver n xs true:=by
     rcases he i with h' | h'
     ·rw [h',e]
     ·rw [h',e]; rfl
    have hob:=hr.objs i
    rw [hi'] at hob
    rcases hob with ⟨g,_⟩ | ⟨L',g1,g2,g3,g4,g5,g6,g7,g8,g9,g10⟩
    ·subst g; simp at h2; omega
    ·rw [hL] at g1
     cases g1
     exact m2.sb _ _ (g10 rfl o h1 h2)
   ·exact f2 i hi ver n xs fz L e hL o h1 h2
  have e0:frz h0 (id :: ids)=(id,(h0 id).freeze) :: frz h0 ids:=by simp [frz,hfz]
  rw [e0]
  obtain ⟨S1,m1,r1,f1⟩:=hr.freeze1 id
  have hid:(h id).freeze=(h0 id).freeze:=by
   rcases he id with h' | h'
   ·rw [h']
   ·rw [h',freeze_freeze]
  rw [hid] at r1
  have he':∀ j,upd h id (h0 id).freeze j=h0 j ∨ upd h id (h0 id).freeze j=(h0 j).freeze:=fun j=>by
   unfold upd
   split
   ·rename_i e; subst e; exact Or.inr rfl
   ·exact he j
  obtain ⟨S2,m2,r2,f2,f3⟩:=RelH.freezeL ids he' r1
  refine ⟨S2,m1.trans m2,r2,fun i hi ver n xs fz L e hL o h1 h2=>?_,f3⟩
  rcases List.mem_cons.1 hi with rfl | hi
  ·have:∃ fz',h i = .vec ver n xs fz':=by
    rcases he i with h' | h'
    ·exact ⟨fz,by rw [h',e]⟩
    ·exact ⟨true,by rw [h',e]; rfl⟩
   obtain ⟨fz',hh⟩:=this
   exact m2.sb _ _ (f1 i (by simp) ver n xs fz' L hh hL o h1 h2)
  ·exact f2 i hi ver n xs fz L e hL o h1 h2
theorem FzAll.left {ι:Ix} {S:Sb} {h:Id→O} {a b:List Id} (k:FzAll ι S h (a ++ b)):FzAll ι S h a:=fun i hi=>k i (List.mem_append.2 (Or.inl hi))
theorem FzAll.right {ι:Ix} {S:Sb} {h:Id→O} {a b:List Id} (k:FzAll ι S h (a ++ b)):FzAll ι S h b:=fun i hi=>k i (List.mem_append.2 (Or.inr hi))
theorem view_row {E:Env} {ι:Ix} {S:Sb} {h:Id→O} {w:World} (hr:RelH E ι S h w) {id:Id} {ver off len n:Nat} {xs:List D} {fz:Bool} (ho:h id = .vec ver n xs fz) (hl:off + len ≤ xs.length) {u:Value} (hv:VA ι S w (.sl id ver off len) u) :
  ∃ a cap,u = .slice a len cap∧len ≤ cap∧(len=0 ∨ ∃ L,ι id ver=some L∧L.n=n∧a=some ⟨L.b,L.st + off * n,none⟩∧VecRow S w L.b n (L.st + off * n) ((xs.drop off).take len)):=by
 unfold VA at hv
 obtain ⟨a,cap,rfl,h1,h2⟩:=hv
 refine ⟨a,cap,rfl,h1,?_⟩
 rcases h2 with rfl | ⟨L,hL,rfl,h3⟩
 ·exact Or.inl (by omega)
 ·have hob:=hr.objs id
  rw [ho] at hob
  rcases hob with ⟨_,g⟩ | ⟨L',g1,g2,g3,g4,g5,g6,g7,_⟩
  ·rw [hL] at g; cases g
  ·rw [hL] at g1
   cases g1
   exact Or.inr ⟨L,hL,g2,by rw [g2],(g7.drop off).take len⟩
theorem fz_lst {E:Env} {ι:Ix} {S S':Sb} {h:Id→O} {w:World} (hr:RelH E ι S h w) (m:Mono ι S w ι S' w) {id:Id} {ver off len n:Nat} {xs:List D} {fz:Bool} (ho:h id = .vec ver n xs fz) (hl:off + len ≤ xs.length) (hf:FzAll ι S' h [id]) {u:Value} (hv:VA ι S w (.sl id ver off len) u) :
  CellsD S' w (.lst ((xs.drop off).take len)) [u]:=by
 obtain ⟨a,cap,rfl,h1,h2⟩:=view_row hr ho hl hv
 have hlen:((xs.drop off).take len).length=len:=by simp only [List.length_take,List.length_drop]; omega
 unfold CellsD
 refine ⟨a,cap,by rw [hlen],by rw [hlen]; exact h1,?_⟩
 rcases h2 with rfl | ⟨L,hL,hn,rfl,hrow⟩
 ·exact Or.inl (by simp)
 ·refine Or.inr ⟨_,_,n,rfl,(hrow.mono m.sb m.cell (fun _ _ _=>rfl)).row fun p hp1 hp2=>hf id (by simp) ver n xs fz L ho hL p (by omega) ?_⟩
  rw [hlen] at hp2
  have:(off + len) * n ≤ xs.length * n:=Nat.mul_le_mul_right _ hl
  rw [Nat.add_mul] at this
  omega
theorem fzCell_ok {E:Env} {ι:Ix} {S S':Sb} {h:Id→O} {w:World} (hr:RelH E ι S h w) (m:Mono ι S w ι S' w) {a:A} {u:Value} (hv:VA ι S w a u) {x:D} {ids:List Id} (hx:fzCell h a=some (x,ids)) (hf:FzAll ι S' h ids):ValD S' w x u:=by
 unfold fzCell at hx
 split at hx
 ·simp only [Option.some.injEq,Prod.mk.injEq] at hx
  obtain ⟨rfl,rfl⟩:=hx
  unfold VA at hv
  exact ValD_mono m.sb m.cell _ _ hv
 ·simp only [Option.some.injEq,Prod.mk.injEq] at hx
  obtain ⟨rfl,rfl⟩:=hx
  unfold VA at hv
  obtain ⟨b,rfl,h2⟩:=hv
  show CellsD S' w (.lst _) [_]
  unfold CellsD
  refine ⟨b,_,rfl,Nat.le_refl _,?_⟩
  rcases h2 with h2 | ⟨b',o,n,h2,h3⟩
  ·exact Or.inl h2
  ·exact Or.inr ⟨b',o,n,h2,RowD_mono m.sb m.cell _ _ _ _ h3⟩
 ·split at hx
  ·rename_i id ver off len v n xs fz ho
   split at hx
   ·rename_i hc
    obtain ⟨rfl,hl⟩:=hc
    simp only [Option.some.injEq,Prod.mk.injEq] at hx
    obtain ⟨rfl,rfl⟩:=hx
    exact fz_lst hr m ho hl hf hv
   ·cases hx
  ·cases hx
 ·simp only [Option.some.injEq,Prod.mk.injEq] at hx
  obtain ⟨rfl,rfl⟩:=hx
  unfold VA at hv
  obtain ⟨us,rfl,_⟩:=hv
  exact ⟨_,rfl,rfl⟩
 ·cases hx
theorem fzCells_ok {E:Env} {ι:Ix} {S S':Sb} {h:Id→O} {w:World} (hr:RelH E ι S h w) (m:Mono ι S w ι S' w):∀ {l:List A} {us:List Value} {ds:List D} {ids:List Id},VL ι S w l us→fzCells h l=some (ds,ids)→FzAll ι S' h ids→CellsL S' w ds us
 | [],us,ds,ids,hv,hx,hf=>by
  simp only [fzCells,Option.some.injEq,Prod.mk.injEq] at hx
  obtain ⟨rfl,rfl⟩:=hx
  unfold VL at hv
  unfold CellsL; exact hv
 | a :: l,us,ds,ids,hv,hx,hf=>by
  unfold VL at hv
  obtain ⟨u,us',rfl,h1,h2⟩:=hv
  unfold fzCells at hx
  split at hx
  ·rename_i x i xs j hx1 hx2
   split at hx
   ·rename_i hfl
    simp only [Option.some.injEq,Prod.mk.injEq] at hx
    obtain ⟨rfl,rfl⟩:=hx
    unfold CellsL
    refine ⟨u,us',rfl,⟨hfl,?_⟩,fzCells_ok hr m h2 hx2 hf.right⟩
    have:=fzCell_ok hr m h1 hx1 hf.left
    cases x with
    | agg ys=>cases hfl
    | s v=>exact this
    | lst zs=>exact this
    | ifc t y=>exact this
    | any=>exact this
   ·cases hx
  ·cases hx
theorem fzVal_ok {E:Env} {ι:Ix} {S S':Sb} {h:Id→O} {w:World} (hr:RelH E ι S h w) (m:Mono ι S w ι S' w) {a:A} {u:Value} (hv:VA ι S w a u) {x:D} {ids:List Id} (hx:fzVal h a=some (x,ids)) (hf:FzAll ι S' h ids):ValD S' w x u:=by
 unfold fzVal at hx
 split at hx
 ·obtain ⟨⟨xs,i⟩,h1,h2⟩:=Option.map_eq_some_iff.1 hx
  simp only [Prod.mk.injEq] at h2
  obtain ⟨rfl,rfl⟩:=h2
  unfold VA at hv
  obtain ⟨us,rfl,h3⟩:=hv
  exact ⟨us,rfl,fzCells_ok hr m h3 h1 hf⟩
 ·exact fzCell_ok hr m hv hx hf
theorem RelH.lay {E:Env} {ι:Ix} {S S':Sb} {h:Id→O} {w w':World} (hr:RelH E ι S h w) (id:Id) (hid:id.1 ≤ E.d) (o:O) (L:Loc) (ho:o.ver=(h id).ver + 1) (m:Mono ι S w (ixNew ι id o.ver L) S' w') (hz:w.heap.size ≤ w'.heap.size) (hb:Below E.base E.w0 w')
  (hobj:ORel (ixNew ι id o.ver L) S' E.base w' id o) (hkeep:∀ i Li,i ≠ id→(h i).live=true→ι i (h i).ver=some Li→Li.b ≠ L.b∧(∀ p,S' Li.b p→S Li.b p)∧w'.heap[Li.b]? = w.heap[Li.b]?)
  (hnew:∀ b p,S' b p→S b p ∨ (E.base ≤ b∧b < w'.heap.size)) (hpr:∀ b,E.prot b→L.b ≠ b∧(∀ p,S' b p→S b p)∧w'.heap[b]? = w.heap[b]?):RelH E (ixNew ι id o.ver L) S' (upd h id o) w':=by
 refine ⟨hb,Nat.le_trans hr.size hz,fun i=>?_,?_,?_,fun b p hs=>m.sb _ _ (hr.sub b p hs),fun b p hs=>?_,fun b p hs=>?_,fun i v Lo hi hLo=>?_,fun i v hi=>?_,fun b p hs=>(m.cell b p (hr.sub b p hs)).trans (hr.hold b p hs),fun b hp=>?_,fun i=>?_,fun i hi=>?_⟩
 rotate_right 3
 ·obtain ⟨p1,p2,p3,p4⟩:=hr.prot b hp
  obtain ⟨q1,q2,q3⟩:=hpr b hp
  refine ⟨by omega,q3.trans p2,fun p hs=>p3 p (q2 p hs),fun i L' hl hL'=>?_⟩
  unfold upd at hl hL'
  by_cases e:i=id
  ·subst e
   rw [if_pos rfl,ixNew_same] at hL'
   cases hL'
   exact q1
  ·rw [if_neg e] at hl hL'
   rw [ixNew_other (by rintro ⟨rfl,_⟩; exact e rfl)] at hL'
   exact p4 i L' hl hL'
 ·rw [ixNew_other (by rintro ⟨_,h0⟩; omega)]
  exact hr.z i
 ·obtain ⟨l1,l2⟩:=hr.low i hi
  by_cases e:i=id
  ·subst e
   refine ⟨by unfold upd; rw [if_pos rfl]; omega,fun v hv'=>?_⟩
   rw [ixNew_other (by rintro ⟨_,h0⟩; omega)]
   exact l2 v hv'
  ·refine ⟨by unfold upd; rw [if_neg e]; exact l1,fun v hv'=>?_⟩
   rw [ixNew_other (by rintro ⟨rfl,_⟩; exact e rfl)]
   exact l2 v hv'
 ·unfold upd
  split
  ·rename_i e; subst e; exact hobj
  ·rename_i e
   exact (hr.objs i).keep m (ixNew_other (by rintro ⟨rfl,_⟩; exact e rfl)) hz fun hl L' hL'=>(hkeep i L' e hl hL').2
 ·intro i i' L1 L2 hne hl hl' h1 h2
  unfold upd at hl hl' h1 h2
  by_cases e:i=id
  ·subst e
   rw [if_pos rfl] at hl h1
   rw [if_neg (fun e=>hne e.symm)] at hl' h2
   rw [ixNew_same] at h1
   cases h1
   rw [ixNew_other (by rintro ⟨rfl,_⟩; exact hne rfl)] at h2
   exact fun e=>(hkeep i' L2 (fun e=>hne e.symm) hl' h2).1 e.symm
  ·rw [if_neg e] at hl h1
   rw [ixNew_other (by rintro ⟨rfl,_⟩; exact e rfl)] at h1
   by_cases e':i' = id
   ·subst e'
    rw [if_pos rfl] at h2
    rw [ixNew_same] at h2
    cases h2
    exact (hkeep i L1 e hl h1).1
   ·rw [if_neg e'] at hl' h2
    rw [ixNew_other (by rintro ⟨rfl,_⟩; exact e' rfl)] at h2
    exact hr.apart i i' L1 L2 hne hl hl' h1 h2
 ·intro i ver hlt
  unfold upd at hlt
  by_cases e:i=id
  ·subst e
   rw [if_pos rfl] at hlt
   rw [ixNew_other (by rintro ⟨_,rfl⟩; omega)]
   exact hr.vers _ _ (by omega)
  ·rw [if_neg e] at hlt
   rw [ixNew_other (by rintro ⟨rfl,_⟩; exact e rfl)]
   exact hr.vers _ _ hlt
 ·rcases hnew b p hs with hs | hs
  ·exact hr.new b p hs
  ·exact Or.inr hs.1
 ·rcases hnew b p hs with hs | hs
  ·exact Nat.lt_of_lt_of_le (hr.inw b p hs) hz
  ·exact hs.2
 ·have h1:=hr.old i v Lo hi hLo
  rw [ixNew_other (by rintro ⟨rfl,rfl⟩; rw [hr.vers _ _ (by omega)] at h1; cases h1)]
  exact h1
 ·rw [ixNew_other (by rintro ⟨rfl,_⟩; omega)]
  exact hr.deep i v hi
theorem RelH.kill {E:Env} {ι:Ix} {S:Sb} {h:Id→O} {w:World} (hr:RelH E ι S h w) (id:Id):RelH E ι S (upd h id (.no (h id).ver)) w:=by
 refine ⟨hr.below,hr.size,fun i=>?_,fun i i' L1 L2 hne hl hl' h1 h2=>?_,fun i ver hlt=>?_,hr.sub,hr.new,hr.inw,hr.old,hr.deep,hr.hold,fun b hp=>⟨(hr.prot b hp).1,(hr.prot b hp).2.1,(hr.prot b hp).2.2.1,fun i L' hl hL'=>?_⟩,hr.z,fun i hi=>⟨by
  have:=(hr.low i hi).1
  unfold upd
  split
  ·rename_i e; subst e; exact this
  ·exact this,(hr.low i hi).2⟩⟩
 rotate_right 1
 ·unfold upd at hl hL'
  by_cases e:i=id
  ·rw [if_pos e] at hl; cases hl
  ·rw [if_neg e] at hl hL'; exact (hr.prot b hp).2.2.2 i L' hl hL'
 ·unfold upd
  split
  ·trivial
  ·exact hr.objs i
 ·unfold upd at hl hl' h1 h2
  split at hl
  ·cases hl
  ·split at hl'
   ·cases hl'
   ·rename_i e e'
    rw [if_neg e] at h1
    rw [if_neg e'] at h2
    exact hr.apart i i' L1 L2 hne hl hl' h1 h2
 ·unfold upd at hlt
  split at hlt
  ·rename_i e; subst e; exact hr.vers _ _ hlt
  ·exact hr.vers _ _ hlt
theorem RelH.empty {E:Env} {ι:Ix} {S:Sb} {h:Id→O} {w:World} (hr:RelH E ι S h w) (id:Id) (n:Nat) (fz:Bool):RelH E ι S (upd h id (.vec ((h id).ver + 1) n [] fz)) w:=by
 refine ⟨hr.below,hr.size,fun i=>?_,fun i i' L1 L2 hne hl hl' h1 h2=>?_,fun i ver hlt=>?_,hr.sub,hr.new,hr.inw,hr.old,hr.deep,hr.hold,fun b hp=>⟨(hr.prot b hp).1,(hr.prot b hp).2.1,(hr.prot b hp).2.2.1,fun i L' hl hL'=>?_⟩,hr.z,fun i hi=>⟨by
  have:=(hr.low i hi).1
  unfold upd
  split
  ·rename_i e; subst e; exact Nat.le_succ_of_le this
  ·exact this,(hr.low i hi).2⟩⟩
 rotate_right 1
 ·unfold upd at hl hL'
  by_cases e:i=id
  ·subst e
   rw [if_pos rfl] at hL'
   have hL':ι i ((h i).ver + 1)=some L':=hL'
   rw [hr.vers i _ (by omega)] at hL'; cases hL'
  ·rw [if_neg e] at hl hL'; exact (hr.prot b hp).2.2.2 i L' hl hL'
 ·unfold upd
  split
  ·rename_i e; subst e; exact Or.inl ⟨rfl,hr.vers _ _ (by omega)⟩
  ·exact hr.objs i
 ·have none':∀ L,ι id ((h id).ver + 1) ≠ some L:=fun L e=>by rw [hr.vers id _ (by omega)] at e; cases e
  unfold upd at hl hl' h1 h2
  by_cases e:i=id
  ·subst e; rw [if_pos rfl] at h1; exact absurd h1 (none' _)
  ·by_cases e':i' = id
   ·subst e'; rw [if_pos rfl] at h2; exact absurd h2 (none' _)
   ·rw [if_neg e] at hl h1; rw [if_neg e'] at hl' h2
    exact hr.apart i i' L1 L2 hne hl hl' h1 h2
 ·unfold upd at hlt
  split at hlt
  ·rename_i e; subst e; exact hr.vers _ _ (by have:(h i).ver + 1 < ver:=hlt; omega)
  ·exact hr.vers _ _ hlt
end
end Go.Proofs.YtenoggjjhamdaaaGreatDoor
