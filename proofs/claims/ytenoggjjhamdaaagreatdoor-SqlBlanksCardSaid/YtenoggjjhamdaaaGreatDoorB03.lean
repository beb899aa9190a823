/-
  WHAT IS PROVED HERE: parts of the proof: In10 In11 In12.
-/
import Derived.Test.YtenoggjjhamdaaaGreatDoorB02
set_option linter.all false
namespace Go.Proofs.YtenoggjjhamdaaaGreatDoor
open Go Go.RowKit
section
theorem upds_append {κ α:Type} [DecidableEq κ]:∀ (l l':List (κ × α)) (T:κ→α),upds T (l ++ l')=upds (upds T l) l'
 | [],_,_=>rfl
 | (i,v) :: l,l',T=>by
  show upds (upd T i v) (l ++ l')=_
  rw [upds_append l l']; rfl
theorem ver_of_freeze {a b:O} (h:a=b ∨ a=b.freeze):a.ver=b.ver:=by
 rcases h with h | h
 ·rw [h]
 ·rw [h,freeze_ver]
theorem lowCells_ok {E:Env} {ι:Ix} {S S':Sb} {h:Id→O} {w:World} (hr:RelH E ι S h w) (m:Mono ι S w ι S' w) {k:Nat}:∀ {l l':List A} {us:List Value} {ids:List Id},VL ι S w l us→lowCells h k l=some (l',ids)→FzAll ι S' h ids→VL (upto k ι) S' w l' us
 | [],l',us,ids,hv,hx,hf=>by
  simp only [lowCells,Option.some.injEq,Prod.mk.injEq] at hx
  obtain ⟨rfl,rfl⟩:=hx
  unfold VL at *; exact hv
 | a :: l,l',us,ids,hv,hx,hf=>by
  unfold VL at hv
  obtain ⟨u,us',rfl,h1,h2⟩:=hv
  unfold lowCells at hx
  split at hx
  ·cases hx
  ·rename_i l2 ids2 hl
   split at hx
   ·rename_i hlow
    simp only [Option.some.injEq,Prod.mk.injEq] at hx
    obtain ⟨rfl,rfl⟩:=hx
    unfold VL
    exact ⟨u,us',rfl,VA_mono m.upto _ _ (VA_low a u hlow h1),lowCells_ok hr m h2 hl hf⟩
   ·split at hx
    ·rename_i x i hx1
     split at hx
     ·simp only [Option.some.injEq,Prod.mk.injEq] at hx
      obtain ⟨rfl,rfl⟩:=hx
      unfold VL
      refine ⟨u,us',rfl,?_,lowCells_ok hr m h2 hl hf.right⟩
      unfold VA
      exact fzCell_ok hr m h1 hx1 hf.left
     ·cases hx
    ·cases hx
theorem upds_frz_box {h:Id→O} {ids:List Id} {id:Id} {v:Nat} {cs:List A} (f:upds h (frz h ids) id=h id ∨ upds h (frz h ids) id=(h id).freeze) (ho:h id = .box v cs):upds h (frz h ids) id = .box v cs:=by
 rcases f with f | f
 ·rw [f,ho]
 ·rw [f,ho]; rfl
theorem RelH.adopt {E:Env} {ι:Ix} {S:Sb} {h:Id→O} {w:World} (hr:RelH E ι S h w) {vid aid:Id} (hne:aid ≠ vid) (hle:aid.1 ≤ E.d) {v n:Nat} {xs:List D} {fz:Bool} (ho:h vid = .vec v n xs fz) {L:Loc} (hL:ι vid v=some L) :
  Mono ι S w (ixNew ι aid ((h aid).ver + 1) L) S w∧RelH E (ixNew ι aid ((h aid).ver + 1) L) S (upd (upd h vid (.no v)) aid (.vec ((h aid).ver + 1) n xs fz)) w:=by
 have hob:=hr.objs vid
 rw [ho] at hob
 have hv:ι aid ((h aid).ver + 1)=none:=hr.vers aid _ (by omega)
 have hk:=hr.kill vid
 rw [ho] at hk
 simp only [O.ver] at hk
 have hver:(upd h vid (.no v) aid).ver=(h aid).ver:=by simp [upd,hne]
 have m:Mono ι S w (ixNew ι aid ((h aid).ver + 1) L) S w:=⟨fun i u L' h=>(ixNew_other (by rintro ⟨rfl,rfl⟩; rw [hv] at h; cases h)).trans h,fun _ _ h=>h,fun _ _ _=>rfl⟩
 refine ⟨m,hk.lay aid hle (.vec ((h aid).ver + 1) n xs fz) L (by rw [hver]; rfl) m (Nat.le_refl _) hr.below ?_ (fun i Li hi hl hLi=>?_) (fun b p hs=>Or.inl hs) (fun b hp=>⟨(hr.prot b hp).2.2.2 vid L (by rw [ho]; rfl) (by rw [ho]; exact hL),fun _ h=>h,rfl⟩)⟩
 ·rcases hob with ⟨_,g⟩ | ⟨L',g1,g2,g3,g4,g5,g6,g7,g8,g9,g10⟩
  ·rw [hL] at g; cases g
  ·rw [hL] at g1
   cases g1
   exact Or.inr ⟨L,ixNew_same _ _ _ _,g2,g3,g4,g5,g6,g7,g8,g9,g10⟩
 ·have hiv:i ≠ vid:=by rintro rfl; simp [upd] at hl; cases hl
  have e:upd h vid (.no v) i=h i:=by simp [upd,hiv]
  have hl':(h i).live=true:=by rw [← e]; exact hl
  have hLi':ι i (h i).ver=some Li:=by rw [← e]; exact hLi
  exact ⟨hr.apart i vid Li L hiv hl' (by rw [ho]; rfl) hLi' (by rw [ho]; exact hL),fun _ h=>h,rfl⟩
theorem adopt_ok {P:Program} {E:Env} {ι:Ix} {S:Sb} {h:Id→O} {w:World} (hr:RelH E ι S h w) {t:TypeId} {id:Id} {ver off:Nat} {y:A} {va vx:Value} (hva:VA ι S w (.bp id ver off) va) (hvx:VA ι S w y vx) {e:Eff} (he:adoptE P h t id ver off y=some e) :
  ∃ w',(Instr.storeAt t va vx).run P w = .ok () w' ∧ Steps E ι S h w e undef w':=by
 unfold adoptE at he
 split at he
 ·rename_i vid v len
  split at he
  ·cases he
  ·rename_i hlow
   split at he
   ·rename_i bv cs v' n xs fz ho hov
    split at he
    ·rename_i hc
     obtain ⟨rfl,rfl,rfl,hxs,h64,hoff,hsz,_⟩:=hc
     simp only [Option.some.injEq] at he
     subst he
     have hob:=hr.objs vid
     rw [hov] at hob
     rcases hob with ⟨g,_⟩ | ⟨L,hL,g2,g3,g4,g5,g6,g7,g8,g9,g10⟩
     ·rw [g] at hxs; cases hxs
     have hva':=hva
     unfold VA at hva'
     obtain ⟨Lb,hLb,_,_⟩:=hva'
     have hidE:id.1 ≤ E.d:=by
      apply Nat.le_of_not_lt
      intro hlt
      rw [hr.deep id _ hlt] at hLb; cases hLb
     have hne:adoptId id off ≠ vid:=by
      intro e
      have:(adoptId id off).1=vid.1:=by rw [e]
      have h1:(adoptId id off).1=id.1:=rfl
      omega
     have hne2:adoptId id off ≠ id:=by
      intro e
      have h2:(adoptId id off).2=id.2:=by rw [e]
      have h3:(adoptId id off).2=1000000 + 64 * id.2 + off:=rfl
      omega
     have hne3:id ≠ vid:=by rintro rfl; omega
     obtain ⟨m1,r1⟩:=hr.adopt hne (show (adoptId id off).1 ≤ E.d from hidE) hov hL
     have hvx':=hvx
     unfold VA at hvx'
     obtain ⟨a,cap,hu,hlc,hcap⟩:=hvx'
     have hcells:vx.cells.toList=[vx]:=by rw [hu]; rfl
     have hvl:VL (upto id.1 (ixNew ι (adoptId id off) ((h (adoptId id off)).ver + 1) L)) S w [.sl (adoptId id off) ((h (adoptId id off)).ver + 1) 0 xs.length] vx.cells.toList:=by
      rw [hcells]
      unfold VL
      refine ⟨vx,[],rfl,?_,by unfold VL; rfl⟩
      unfold VA
      refine ⟨a,cap,hu,hlc,?_⟩
      rcases hcap with hcap | ⟨L',k1,k2,k3⟩
      ·exact Or.inl hcap
      ·rw [hL] at k1
       cases k1
       refine Or.inr ⟨L,?_,k2,k3⟩
       unfold upto
       rw [if_pos (show (adoptId id off).1 ≤ id.1 from Nat.le_refl _)]
       exact ixNew_same _ _ _ _
     have ho':upd (upd h vid (.no v)) (adoptId id off) (.vec ((h (adoptId id off)).ver + 1) n xs fz) id = .box bv cs:=by
      simp [upd,hne3,Ne.symm hne2,ho]
     obtain ⟨w',k1,m2,r2⟩:=store_core (P:=P) (l:=[.sl (adoptId id off) ((h (adoptId id off)).ver + 1) 0 xs.length]) r1 ho' (VA_mono m1 _ _ hva) hsz hvl rfl (by omega) (by rw [hcells]; intro u hu'; rw [List.mem_singleton] at hu'; subst hu'; rw [hu]; rfl)
     refine ⟨w',k1,_,S,m1.trans m2,?_,r2⟩
     show VA _ _ _ (.d (.s undef)) undef
     unfold VA ValD CellsD; exact ⟨rfl,rfl⟩
    ·cases he
   ·cases he
 ·cases he
theorem store_ok {P:Program} {E:Env} {ι:Ix} {S:Sb} {h:Id→O} {w:World} (hr:RelH E ι S h w) {t:TypeId} {x y:A} {va vx:Value} (hva:VA ι S w x va) (hvx:VA ι S w y vx) {e:Eff} (he:storeE P h t x y=some e) :
  ∃ w',(Instr.storeAt t va vx).run P w = .ok () w' ∧ Steps E ι S h w e undef w':=by
 unfold storeE at he
 split at he
 ·rename_i id ver off
  split at he
  ·rename_i e' hae
   simp only [Option.some.injEq] at he
   subst he
   exact adopt_ok hr hva hvx hae
  split at he
  ·rename_i v cs n l ids ho hn hlow
   split at he
   ·rename_i hcond
    obtain ⟨rfl,hlen,hoff,hone⟩:=hcond
    simp only [Option.some.injEq] at he
    subst he
    have hvl:=VA_cells hvx (all_one_ne_any hone)
    obtain ⟨S1,m1,r1,f1,f2⟩:=RelH.freezeL (h0:=h) ids (fun _=>Or.inl rfl) hr
    have hvl':=lowCells_ok hr m1 hvl hlow f1
    have hll:l.length=n:=by rw [(VL_get.1 hvl').1,← (VL_get.1 hvl).1]; exact hlen
    obtain ⟨w',h1,m2,r2⟩:=store_core (P:=P) (l:=l) r1 (upds_frz_box (f2 id) ho) (VA_mono m1 _ _ hva) hn hvl' hll hoff (ones_of hvl hone)
    refine ⟨w',h1,ι,S1,m1.trans m2,?_,by show RelH E ι S1 (upds h _) w'; rw [upds_append]; exact r2⟩
    show VA _ _ _ (.d (.s undef)) undef
    unfold VA ValD CellsD; exact ⟨rfl,rfl⟩
   ·cases he
  ·cases he
 ·cases he
theorem newVec_ok {E:Env} {ι:Ix} {S:Sb} {h:Id→O} {w w':World} (hr:RelH E ι S h w) (id:Id) (hid:id.1=E.d) (sz:Nat) (ys:List D) (news:List Value) (fz:Bool) (c:Array Value) (cap:Nat) (hflat:Flat S w sz ys news) (hc:∀ (j:Nat) u,news[j]? = some u→c[j]? = some u) (hcap:c.size=cap * sz) (hlen:ys.length ≤ cap)
  (hb:Below w.heap.size w w') (hz:w'.heap.size=w.heap.size + 1) (hcell:∀ o,w'.cell? ⟨w.heap.size,o,none⟩=c[o]?) (hfr:∀ o,o < c.size→w'.frozen? ⟨w.heap.size,o,none⟩=false) :
  ∃ ι' S',Mono ι S w ι' S' w' ∧ VA ι' S' w' (.sl id ((h id).ver + 1) 0 ys.length) (.slice (some ⟨w.heap.size,0,none⟩) ys.length cap)∧RelH E ι' S' (upd h id (.vec ((h id).ver + 1) sz ys fz)) w':=by
 have hnone:ι id ((h id).ver + 1)=none:=hr.vers id _ (by omega)
 let L:Loc:=⟨w.heap.size,0,sz,cap⟩
 let S':Sb:=if fz then addS S w.heap.size 0 (ys.length * sz) else S
 have hsub:∀ b o,S b o→S' b o:=fun b o hs=>by
  show (if fz then addS S w.heap.size 0 (ys.length * sz) else S) b o
  cases fz
  ·exact hs
  ·exact Or.inl hs
 have hback:∀ b o,S' b o→S b o ∨ (fz=true∧b=w.heap.size∧o < ys.length * sz):=fun b o hs=>by
  change (if fz then addS S w.heap.size 0 (ys.length * sz) else S) b o at hs
  cases fz
  ·exact Or.inl hs
  ·rcases hs with hs | ⟨h1,h2,h3⟩
   ·exact Or.inl hs
   ·exact Or.inr ⟨rfl,h1,by omega⟩
 have m:Mono ι S w (ixNew ι id ((h id).ver + 1) L) S' w':=by
  have:=Mono.newBlock (w':=w') (L:=L) hnone hr.inw (fun p hp=>hb.cell hp)
  exact ⟨this.ix,hsub,this.cell⟩
 refine ⟨ixNew ι id ((h id).ver + 1) L,S',m,?_,?_⟩
 ·unfold VA
  refine ⟨_,cap,rfl,hlen,?_⟩
  by_cases h0:cap=0
  ·exact Or.inl h0
  ·exact Or.inr ⟨L,ixNew_same _ _ _ _,by simp [L],by simp [L]⟩
 ·refine hr.lay id (Nat.le_of_eq hid) (.vec ((h id).ver + 1) sz ys fz) L rfl m (by omega) (hr.below.trans (hb.mono hr.size)) ?_ (fun i Li e hl hL=>?_) (fun b p hs=>?_) (fun b hp=>?_)
  rotate_right 1
  ·have hlt:=(hr.prot b hp).1
   refine ⟨fun e=>by have:w.heap.size=b:=e; omega,fun p hs=>?_,hb.block _ hlt⟩
   rcases hback _ _ hs with hs | ⟨_,e,_⟩
   ·exact hs
   ·omega
  ·refine Or.inr ⟨L,ixNew_same _ _ _ _,rfl,hr.size,by show w.heap.size < _; omega,hlen,fun o h1 h2=>?_,?_,fun o ho hs=>?_,fun hf o ho hs=>?_,fun hf o h1 h2=>?_⟩
   ·have:o < c.size:=by rw [hcap]; simpa [L] using h2
    exact ⟨by show (w'.cell? ⟨w.heap.size,o,none⟩).isSome=true; rw [hcell]; simp [this],hfr o this⟩
   ·refine (hflat.mono m.sb m.cell).vec fun j u hj=>?_
    show w'.cell? ⟨w.heap.size,0 + j,none⟩=some u
    rw [Nat.zero_add,hcell]; exact hc j u hj
   ·rcases hback _ _ hs with hs | ⟨_,_,hs⟩
    ·exact Nat.lt_irrefl _ (hr.inw _ _ hs)
    ·have:0 + ys.length * sz ≤ o:=ho
     omega
   ·rcases hback _ _ hs with hs | ⟨hs,_⟩
    ·exact Nat.lt_irrefl _ (hr.inw _ _ hs)
    ·rw [hf] at hs; cases hs
   ·show (if fz then addS S w.heap.size 0 (ys.length * sz) else S) _ _
    rw [hf]
    exact Or.inr ⟨rfl,Nat.zero_le _,by have:o < 0 + ys.length * sz:=h2; omega⟩
  ·have hlt:=((hr.objs i).lt hl hL).2
   refine ⟨fun e=>by have:Li.b=w.heap.size:=e; omega,fun p hs=>?_,hb.block _ hlt⟩
   rcases hback _ _ hs with hs | ⟨_,e,_⟩
   ·exact hs
   ·omega
  ·rcases hback _ _ hs with hs | ⟨_,rfl,_⟩
   ·exact Or.inl hs
   ·exact Or.inr ⟨hr.size,by omega⟩
theorem flatten_get {α:Type} (zs:List α):∀ (len i:Nat),i < len * zs.length→((List.replicate len zs).flatten)[i]? = zs[i % zs.length]?
 | 0,i,h=>by simp at h
 | len + 1,i,h=>by
  rw [List.replicate_succ,List.flatten_cons]
  by_cases h1:i < zs.length
  ·rw [List.getElem?_append_left h1,Nat.mod_eq_of_lt h1]
  ·rw [List.getElem?_append_right (by omega),flatten_get zs len (i - zs.length) (by rw [Nat.succ_mul] at h; omega),← Nat.mod_eq_sub_mod (by omega)]
theorem zeros_eq (len sz:Nat) (zs:Array Value) (hs:zs.size=sz) (h0:0 < sz):((Array.range (len * sz)).map (fun i=>zs[i % zs.size]!)).toList=(List.replicate len zs.toList).flatten:=by
 subst hs
 apply List.ext_getElem?
 intro i
 by_cases hi:i < len * zs.size
 ·rw [flatten_get _ _ _ (by simpa using hi)]
  have hm:i % zs.size < zs.size:=Nat.mod_lt _ h0
  simp [hi,hm]
 ·rw [List.getElem?_eq_none (by simp; omega),List.getElem?_eq_none (by simp [List.length_flatten]; omega)]
theorem chunk_flat {S:Sb} {w:World} {ag:Bool} {sz:Nat} (h1:(ag || sz == 1)=true):∀ (len:Nat) (ds:List D) (us:List Value),CellsL S w ds us→ds.length=len * sz→(∀ u ∈ us,u.oneCell' = true)→Flat S w sz (chunk ag sz len ds) us
 | 0,ds,us,h,hl,_=>by
  have:=(CellsL_get.1 h).1
  have hu:us=[]:=List.length_eq_zero_iff.1 (by omega)
  subst hu
  exact Flat.nil _ _ _
 | len + 1,ds,us,h,hl,h2=>by
  obtain ⟨g1,g2⟩:=CellsL_get.1 h
  have hl':ds.length=len * sz + sz:=by rw [hl,Nat.succ_mul]
  have e:us=us.take sz ++ us.drop sz:=(List.take_append_drop sz us).symm
  have hd:CellsL S w (ds.drop sz) (us.drop sz):=CellsL_get.2 ⟨by simp [g1],fun i x u hx hu=>g2 (sz + i) x u (by rw [List.getElem?_drop] at hx; exact hx) (by rw [List.getElem?_drop] at hu; exact hu)⟩
  have ht:CellsL S w (ds.take sz) (us.take sz):=CellsL_get.2 ⟨by simp [g1],fun i x u hx hu=>by
   rw [List.getElem?_take] at hx hu
   split at hx
   ·rename_i hi; rw [if_pos hi] at hu; exact g2 i x u hx hu
   ·cases hx⟩
  have ih:=chunk_flat h1 len (ds.drop sz) (us.drop sz) hd (by simp; omega) (fun u hu=>h2 u (List.mem_of_mem_drop hu))
  rw [e]
  unfold chunk
  cases ag with
  | true =>
   simp only [if_true]
   exact Flat.cons (by simp; omega) (by show (ds.take sz).length=sz; simp; omega) (by unfold CellsD; exact ht) (fun u hu=>h2 u (List.mem_of_mem_take hu)) ih
  | false =>
   simp only [Bool.false_or,beq_iff_eq] at h1
   subst h1
   simp only [Bool.false_eq_true,if_false]
   cases ds with
   | nil=>simp at hl'
   | cons x ds =>
    cases us with
    | nil=>simp at g1
    | cons u us =>
     simp only [List.head?_cons,Option.getD_some]
     obtain ⟨f1,f2⟩:=g2 0 x u rfl rfl
     refine Flat.cons (by simp) ?_ (by simpa using f2) (fun v hv=>h2 v (List.mem_of_mem_take hv)) ih
     cases x with
     | agg ys=>cases f1
     | s v=>rfl
     | lst zs=>rfl
     | ifc t y=>rfl
     | any=>rfl
theorem telem_under {P:Program} {t e:TypeId} (h:telem P t=some e):P.underlying t=some (.slice e):=by
 unfold telem at h
 split at h
 ·rename_i e' h'; cases h; exact h'
 ·cases h
theorem fillA_length (place:Nat→Option (Nat × Nat)):∀ (parts:List (Nat × A)) (cs r:List A),fillA place cs parts=some r→r.length=cs.length
 | [],cs,r,h=>by simp only [fillA,Option.some.injEq] at h; rw [h]
 | (i,x) :: parts,cs,r,h=>by
  unfold fillA at h
  split at h
  ·cases h
  ·split at h
   ·cases h
   ·rename_i hc
    rw [fillA_length place parts _ r h,put_length]
    have:¬ (cs.length < _ + x.cells.length):=fun e=>hc (Or.inr (Or.inl e))
    omega
theorem buildSlice_ok {P:Program} {E:Env} {ι:Ix} {S:Sb} {h:Id→O} {w:World} (hr:RelH E ι S h w) {id:Id} (hid:id.1=E.d) {t:TypeId} {len:Nat} {parts:List (Nat × A)} {vparts:Array (Nat × Value)} (hp:VP ι S w parts vparts.toList) {e:Eff} (he:buildSliceE P h id t len parts=some e) :
  ∃ u w',(Instr.buildSlice t len vparts).run P w = .ok u w' ∧ Steps E ι S h w e u w':=by
 unfold buildSliceE at he
 split at he
 ·cases he
 ·rename_i el hte
  have ht:=telem_under hte
  split at he
  ·rename_i sz ag z hs ha hz
   split at he
   ·rename_i hc
    obtain ⟨c1,c2,c3,c4⟩:=hc
    split at he
    ·cases he
    ·rename_i cs hfill
     split at he
     ·cases he
     ·rename_i hone
      simp only [Bool.not_eq_true',Bool.not_eq_false] at hone
      split at he
      ·cases he
      ·rename_i ds ids hfz
       simp only [Option.some.injEq] at he
       subst he
       have hz0:VL ι S w ((List.replicate len (z.cells.toList.map ofCell)).flatten) ((Array.range (len * sz)).map (fun i=>z.cells[i % z.cells.size]!)).toList:=by
        rw [zeros_eq len sz z.cells c4 c3]
        have:=VL_ofCell ι S w (List.replicate len z.cells.toList).flatten
        rwa [List.map_flatten,List.map_replicate] at this
       obtain ⟨us,h2,h3⟩:=fill_ok (fun i=>some (i * sz,sz)) parts vparts.toList _ cs _ hp hz0 hfill
       have hlen:us.size=len * sz:=by
        have h4:=fillA_length _ _ _ _ hfill
        have h5:=(VL_get.1 h3).1
        simp only [Array.length_toList] at h5
        have h6:=(VL_get.1 hz0).1
        simp only [Array.length_toList,Array.size_map,Array.size_range] at h6
        omega
       have hcl:=(VL_get.1 h3).1
       simp only [Array.length_toList] at hcl
       obtain ⟨S1,m1,r1,f1,f2⟩:=RelH.freezeL (h0:=h) ids (fun _=>Or.inl rfl) hr
       have hcells:=fzCells_ok hr m1 h3 hfz f1
       have hdl:ds.length=len * sz:=by have:=(CellsL_get.1 hcells).1; simp only [Array.length_toList] at this; omega
       have hflat:=chunk_flat (S:=S1) (w:=w) c2 len ds us.toList hcells hdl (ones_of h3 hone)
       have hchunk:(chunk ag sz len ds).length=len:=by
        have:=hflat.1
        rw [Array.length_toList,hlen] at this
        exact (Nat.eq_of_mul_eq_mul_right c3 this).symm
       have hver:=ver_of_freeze (f2 id)
       have hb:Below w.heap.size w (w.alloc (.cells us el)):=(Below.refl _ _).alloc (Nat.le_refl _) _
       obtain ⟨ι2,S2,m2,v2,r2⟩:=newVec_ok r1 id hid sz (chunk ag sz len ds) us.toList false us len hflat (fun j u hj=>by simpa using hj) hlen (by omega) hb (by simp) (fun o=>by simp) (fun o _=>by simp)
       rw [hver,hchunk] at v2
       rw [hver] at r2
       refine ⟨_,_,?_,ι2,S2,m1.trans m2,v2,by show RelH E ι2 S2 (upds h _) _; rw [upds_append]; exact r2⟩
       have hle:¬ (16777216 < len * sz):=by omega
       by_cases h0:len=0
       ·subst h0
        have h2':Instr.fill (fun i=>some (i * sz,sz)) #[] vparts.toList=some us:=by
         have:((Array.range (0 * sz)).map (fun i=>z.cells[i % z.cells.size]!)) = #[]:=by simp
         rw [this] at h2; exact h2
        have e0:Array.map (fun (_:Nat)=>(default:Value)) (Array.range 0) = #[]:=by simp
        simp [Instr.buildSlice,Sem.run_bind,Result.andThen,run_under ht,run_size hs,e0,h2',newRow]
       ·have hne:¬ (len * sz=0):=Nat.mul_ne_zero h0 (by omega)
        simp only [Instr.buildSlice,Sem.run_bind,Result.andThen,run_under ht,run_size hs]
        rw [if_neg (by simpa using hle),if_neg hne]
        simp [Sem.run_bind,Result.andThen,run_zero hz,h2,newRow]
   ·cases he
  ·cases he
theorem lenOf_slice {P:Program} {w:World} (a:Option Addr) (n c:Nat):(Builtin.lenOf (.slice a n c)).run P w = .ok n w:=rfl
theorem elems_ok {P:Program} {E:Env} {ι:Ix} {S:Sb} {h:Id→O} {w:World} (hr:RelH E ι S h w) {x:A} {vx:Value} (hv:VA ι S w x vx) {ys:List D} {rx:List Id} (hx:elemsOf h x=some (ys,rx)) {sz:Nat} (hh:headOk sz ys=true) (h0:0 < sz) :
  ∃ news,Flat S w sz ys news ∧ ∀ w',(∀ p:Addr,w'.cell? p=w.cell? p)→(Builtin.lenOf vx).run P w' = .ok ys.length w' ∧ (Builtin.firstCells sz ys.length vx).run P w' = .ok news.toArray w':=by
 have fromRow:∀ (a:Option Addr) (cap:Nat) (zs:List D) (b o n:Nat),a=some ⟨b,o,none⟩→zs ≠ []→headOk sz zs=true→VecRow S w b n o zs→∃ news,Flat S w sz zs news ∧ ∀ w',(∀ p:Addr,w'.cell? p=w.cell? p)→(Builtin.lenOf (.slice a zs.length cap)).run P w' = .ok zs.length w' ∧ (Builtin.firstCells sz zs.length (.slice a zs.length cap)).run P w' = .ok news.toArray w':=by
  intro a cap zs b o n ha hne hh hrow
  subst ha
  have hn:n=sz:=by
   cases zs with
   | nil=>exact absurd rfl hne
   | cons z zs =>
    obtain ⟨us,_,k2,_⟩:=hrow 0 z rfl
    simp only [headOk,beq_iff_eq] at hh
    omega
  subst hn
  obtain ⟨news,k1,k2⟩:=hrow.flat
  refine ⟨news,k1,fun w' hw=>⟨lenOf_slice _ _ _,run_firstCells_some (P:=P) w' n zs.length ⟨b,o,none⟩ zs.length cap news k1.1 fun j v hj=>?_⟩⟩
  rw [add_at,hw]
  exact k2 j v hj
 have empty:∀ (a:Option Addr) (cap:Nat),∃ news,Flat S w sz [] news ∧ ∀ w',(∀ p:Addr,w'.cell? p=w.cell? p)→(Builtin.lenOf (.slice a 0 cap)).run P w' = .ok 0 w' ∧ (Builtin.firstCells sz 0 (.slice a 0 cap)).run P w' = .ok news.toArray w':=fun a cap=>by
  refine ⟨[],Flat.nil _ _ _,fun w' _=>⟨rfl,?_⟩⟩
  cases a with
  | none=>exact run_firstCells_none (P:=P) w' _ _ _ _
  | some a=>exact run_firstCells_some (P:=P) w' sz 0 a 0 cap [] (by simp) (by simp)
 unfold elemsOf at hx
 split at hx
 ·rename_i zs
  simp only [Option.some.injEq,Prod.mk.injEq] at hx
  obtain ⟨rfl,rfl⟩:=hx
  obtain ⟨a,cap,rfl,_,h2⟩:=VA_lst.1 hv
  rcases h2 with rfl | ⟨b,o,n,h2,h3⟩
  ·exact empty a cap
  ·by_cases hne:zs=[]
   ·subst hne; exact empty a cap
   ·exact fromRow a cap zs b o n h2 hne hh h3.vec
 ·rename_i zs
  simp only [Option.some.injEq,Prod.mk.injEq] at hx
  obtain ⟨rfl,rfl⟩:=hx
  unfold VA at hv
  obtain ⟨a,rfl,h2⟩:=hv
  rcases h2 with rfl | ⟨b,o,n,h2,h3⟩
  ·exact empty a _
  ·by_cases hne:zs=[]
   ·subst hne; exact empty a _
   ·exact fromRow a _ zs b o n h2 hne hh h3.vec
 ·rename_i id ver off len
  split at hx
  ·rename_i v n xs fz ho
   split at hx
   ·rename_i hc
    obtain ⟨rfl,hl⟩:=hc
    simp only [Option.some.injEq,Prod.mk.injEq] at hx
    obtain ⟨rfl,rfl⟩:=hx
    obtain ⟨a,cap,rfl,h1,h2⟩:=view_row hr ho hl hv
    have hlen:((xs.drop off).take len).length=len:=by simp only [List.length_take,List.length_drop]; omega
    rcases h2 with rfl | ⟨L,hL,hn,ha,hrow⟩
    ·simp only [List.take_zero]
     exact empty a cap
    ·by_cases hne:len=0
     ·subst hne
      simp only [List.take_zero]
      exact empty a cap
     ·have:=fromRow a cap ((xs.drop off).take len) _ _ n ha (fun e=>by rw [e] at hlen; simp at hlen; omega) hh hrow
      rw [hlen] at this
      rw [hlen]
      exact this
   ·cases hx
  ·cases hx
 ·rename_i s
  simp only [Option.some.injEq,Prod.mk.injEq] at hx
  obtain ⟨rfl,rfl⟩:=hx
  unfold VA ValD CellsD at hv
  simp only [List.cons.injEq,and_true] at hv
  obtain ⟨rfl,_⟩:=hv
  refine ⟨s.data.toList.map fun b=>.int .u8 b.toNat,?_,fun w' _=>⟨?_,?_⟩⟩
  ·refine ⟨?_,fun u hu=>?_,fun i y hy=>?_⟩
   ·cases hs:s.data.toList with
    | nil=>simp
    | cons b l =>
     rw [hs] at hh
     simp only [List.map_cons,headOk,D.cells,List.length_cons,List.length_nil,beq_iff_eq] at hh
     simp [← hh]
   ·obtain ⟨b,_,rfl⟩:=List.mem_map.1 hu; rfl
   ·rw [List.getElem?_map] at hy
    obtain ⟨b,hb,rfl⟩:=Option.map_eq_some_iff.1 hy
    have hsz:sz=1:=by
     cases hs:s.data.toList with
     | nil=>rw [hs] at hb; simp at hb
     | cons b l =>
      rw [hs] at hh
      simp only [List.map_cons,headOk,D.cells,List.length_cons,List.length_nil,beq_iff_eq] at hh
      omega
    subst hsz
    refine ⟨[.int .u8 b.toNat],rfl,rfl,by unfold CellsD; exact ⟨rfl,rfl⟩,fun j u hj=>?_⟩
    cases j with
    | zero =>
     simp only [List.getElem?_cons_zero,Option.some.injEq] at hj
     subst hj
     rw [Nat.mul_one,Nat.add_zero,List.getElem?_map,hb]; rfl
    | succ j=>simp at hj
  ·rw [List.length_map,Array.length_toList]; rfl
  ·simp only [Builtin.firstCells,Sem.run_pure]
   congr 1
   apply Array.ext'
   have:(s.extract 0 s.size)=s:=by
    apply ByteArray.ext
    simp
   simp only [List.length_map,Array.length_toList]
   rw [show s.data.size=s.size from rfl,this]
   simp
 ·cases hx
end
section
section
variable {P:Program} {w:World} {t t' ty e:TypeId} {d':TypeDesc} {sz m sLen sCap:Nat} {z vx:Value}
theorem info_of (hs:tsize P e=some sz) (hz:tzero P e=some z):∃ i,P.info? e=some i∧i.size=sz∧i.zero=some z∧i.bytes=P.bytesOf e:=by
 obtain ⟨i,hi,h1⟩:=Option.map_eq_some_iff.1 hs
 refine ⟨i,hi,h1,?_,?_⟩
 ·unfold tzero at hz; rw [hi] at hz; exact hz
 ·unfold Program.bytesOf; rw [hi]; rfl
theorem run_app_room (ht:P.underlying t=some (.slice e)) (hu:P.underlying t' = some d') (hd:slOrStr d' = true) (hs:tsize P e=some sz) (a:Option Addr) (news:List Value)
  (hlen:(Builtin.lenOf vx).run P w = .ok m w) (hnews:(Builtin.firstCells sz m vx).run P w = .ok news.toArray w) (hroom:sLen + m ≤ sCap) {w':World} (hst:∀ ad,a=some ad→(storeCells (ad.add (sLen * sz)) news).run P w = .ok () w') (hno:a=none→w' = w) :
  (Builtin.append_ #[t,t'] ty #[.slice a sLen sCap,vx]).run P w = .ok (.slice a (sLen + m) sCap) w':=by
 cases a with
 | none =>
  have:=hno rfl
  subst this
  cases d' <;> first | (simp [slOrStr] at hd; done) | simp [Builtin.append_,run_under ht,run_under hu,run_size hs,Sem.run_bind,Result.andThen,hlen,hnews,hroom]
 | some ad =>
  have:=hst ad rfl
  cases d' <;> first | (simp [slOrStr] at hd; done) | simp [Builtin.append_,run_under ht,run_under hu,run_size hs,Sem.run_bind,Result.andThen,hlen,hnews,hroom,this]
theorem run_app_grow (ht:P.underlying t=some (.slice e)) (hu:P.underlying t' = some d') (hd:slOrStr d' = true) (hs:tsize P e=some sz) (hz:tzero P e=some z) (a:Option Addr) (olds news:List Value)
  (hlen:(Builtin.lenOf vx).run P w = .ok m w) (hnews:(Builtin.firstCells sz m vx).run P w.drew = .ok news.toArray w.drew) (holds:(Builtin.firstCells sz sLen (.slice a sLen sCap)).run P w.drew = .ok olds.toArray w.drew)
  (hg:sCap < sLen + m) (hb:(sLen + m) * (P.bytesOf e + 1) ≤ 70368744177664) :
  (Builtin.append_ #[t,t'] ty #[.slice a sLen sCap,vx]).run P w = .ok (.slice (some ⟨w.heap.size,0,none⟩) (sLen + m) (grownCap w (sLen + m) sCap e)) (w.drew.alloc (.cells (olds.toArray ++ news.toArray ++ Builtin.zeroCells z.cells (grownCap w (sLen + m) sCap e - (sLen + m))) e)):=by
 obtain ⟨i,hi,h1,h2,h3⟩:=info_of hs hz
 have hn:¬ (sLen + m ≤ sCap):=by omega
 rw [Nat.mul_add,Nat.mul_one] at hb
 have h63':¬ (9223372036854775807 < ((sLen:Int) + (m:Int))):=by omega
 have h48':¬ (281474976710656 < Builtin.nextslicecap (sLen + m) sCap * i.bytes):=by
  have:=growslice_fits (need:=sLen + m) (old:=sCap) (bytes:=i.bytes) hg (by rw [h3]; omega)
  omega
 have hti:∀ w:World,(typeInfo e).run P w = .ok i w:=fun w=>run_info hi
 have hze:∀ w:World,(zeroValue e).run P w = .ok z w:=fun w=>run_zero hz
 cases d' <;> first | (simp [slOrStr] at hd; done) | (simp [Builtin.append_,run_under ht,run_under hu,run_size hs,hti,hze,hlen,hn,h63',h48',Question.forced,hnews,holds,newRow,grownCap]; congr 2; apply Array.ext'; simp)
end
theorem zeroCells_size (zs:Array Value) (n:Nat):(Builtin.zeroCells zs n).size=n * zs.size:=by simp [Builtin.zeroCells]
theorem vec_headOk {E:Env} {ι:Ix} {S:Sb} {h:Id→O} {w:World} (hr:RelH E ι S h w) {id:Id} {ver n:Nat} {xs:List D} {fz:Bool} (ho:h id = .vec ver n xs fz) (off:Nat):headOk n (xs.drop off)=true:=by
 cases hd:xs.drop off with
 | nil=>rfl
 | cons x l =>
  have hob:=hr.objs id
  rw [ho] at hob
  rcases hob with ⟨g,_⟩ | ⟨L,_,_,_,_,_,_,g7,_⟩
  ·subst g; simp at hd
  ·obtain ⟨us,_,h2,_⟩:=(g7.drop off) 0 x (by rw [hd]; rfl)
   simp [headOk,h2]
theorem grow_ok {P:Program} {E:Env} {ι:Ix} {S:Sb} {h:Id→O} {w:World} (hr:RelH E ι S h w) {id:Id} (hid:id.1=E.d) {t t' ty e:TypeId} {d':TypeDesc} {sz sCap:Nat} {z vx:Value} (ht:P.underlying t=some (.slice e)) (hu:P.underlying t' = some d') (hd:slOrStr d' = true) (hs:tsize P e=some sz) (hz:tzero P e=some z) (hz2:z.cells.size=sz)
  {xs ys:List D} {olds news:List Value} (ho:Flat S w sz xs olds) (hn:Flat S w sz ys news) {a:Option Addr} (fz:Bool)
  (hlen:(Builtin.lenOf vx).run P w = .ok ys.length w) (hnews:(Builtin.firstCells sz ys.length vx).run P w.drew = .ok news.toArray w.drew) (holds:(Builtin.firstCells sz xs.length (.slice a xs.length sCap)).run P w.drew = .ok olds.toArray w.drew)
  (hg:sCap < xs.length + ys.length) (hb:(xs.length + ys.length) * (P.bytesOf e + 1) ≤ 70368744177664) :
  ∃ u w' ι' S',(Builtin.append_ #[t,t'] ty #[.slice a xs.length sCap,vx]).run P w = .ok u w' ∧ Mono ι S w ι' S' w' ∧ VA ι' S' w' (.sl id ((h id).ver + 1) 0 (xs.length + ys.length)) u∧RelH E ι' S' (upd h id (.vec ((h id).ver + 1) sz (xs ++ ys) fz)) w':=by
 have hrun:=run_app_grow (ty:=ty) ht hu hd hs hz a olds news hlen hnews holds hg hb
 have hge:=grownCap_ge w (xs.length + ys.length) sCap e
 have hflat:=ho.append hn
 have hsize:(olds.toArray ++ news.toArray ++ Builtin.zeroCells z.cells (grownCap w (xs.length + ys.length) sCap e - (xs.length + ys.length))).size=grownCap w (xs.length + ys.length) sCap e * sz:=by
  rw [Array.size_append,Array.size_append,zeroCells_size,hz2]
  simp only [List.size_toArray]
  rw [ho.1,hn.1,← Nat.add_mul,← Nat.add_mul]
  congr 1; omega
 obtain ⟨ι',S',m,v,r⟩:=newVec_ok hr id hid sz (xs ++ ys) (olds ++ news) fz _ _ hflat (fun j u hj=>by
  have hj':j < (olds ++ news).length:=(List.getElem?_eq_some_iff.1 hj).1
  have e1:(olds.toArray ++ news.toArray)=(olds ++ news).toArray:=by simp
  rw [e1,Array.getElem?_append_left (by simpa using hj')]
  simpa using hj) hsize (by rw [List.length_append]; exact hge) (w':=w.drew.alloc (.cells (olds.toArray ++ news.toArray ++ Builtin.zeroCells z.cells (grownCap w (xs.length + ys.length) sCap e - (xs.length + ys.length))) e)) ((Below.refl _ _).drew.alloc (Nat.le_refl _) _) (by simp) (fun o=>World.cell?_alloc_new w.drew _ _ _) (fun o _=>World.frozen?_alloc_new w.drew _ _ _)
 rw [List.length_append] at v
 exact ⟨_,_,ι',S',hrun,m,v,r⟩
theorem append_ok {P:Program} {E:Env} {ι:Ix} {S:Sb} {h:Id→O} {w:World} (hr:RelH E ι S h w) {id:Id} (hid:id.1=E.d) {t t' ty:TypeId} {d':TypeDesc} (hu:P.underlying t' = some d') (hd:slOrStr d' = true) {s x:A} {vs vx:Value} (hvs:VA ι S w s vs) (hvx:VA ι S w x vx) {ef:Eff} (he:appendE P h id t s x=some ef) :
  ∃ u w',(Builtin.append_ #[t,t'] ty #[vs,vx]).run P w = .ok u w' ∧ Steps E ι S h w ef u w':=by
 unfold appendE at he
 split at he
 ·cases he
 ·rename_i e hte
  have ht:=telem_under hte
  split at he
  ·rename_i sz z ys rx hs hz hel
   split at he
   ·rename_i hc0
    obtain ⟨h0,hhy,hzc⟩:=hc0
    obtain ⟨news,hflat,hnews⟩:=elems_ok (P:=P) hr hvx hel hhy h0
    split at he
    ·rename_i xs
     split at he
     ·rename_i hc1
      obtain ⟨hhx,hbytes⟩:=hc1
      obtain ⟨olds,hflato,holds⟩:=elems_ok (P:=P) hr hvs (show elemsOf h (.clip xs)=some (xs,[]) from rfl) hhx h0
      have hvs':=hvs
      unfold VA at hvs'
      obtain ⟨a,rfl,hrow⟩:=hvs'
      by_cases hy:ys=[]
      ·subst hy
       have hne:news=[]:=List.length_eq_zero_iff.1 (by rw [hflat.1]; simp)
       subst hne
       have hrun:(Builtin.append_ #[t,t'] ty #[.slice a xs.length xs.length,vx]).run P w = .ok (.slice a (xs.length + 0) xs.length) w :=
        run_app_room ht hu hd hs a [] (hnews w fun _=>rfl).1 (hnews w fun _=>rfl).2 (by simp) (fun ad _=>rfl) (fun _=>rfl)
       split at he
       ·simp only [Option.some.injEq] at he
        subst he
        exact ⟨_,w,hrun,Steps.still hr rfl hvs⟩
       ·rename_i hb
        simp only [Option.some.injEq] at he
        subst he
        have hxe:xs=[]:=by simpa using hb
        subst hxe
        refine ⟨_,w,hrun,ι,S,Mono.refl _ _ _,?_,hr.empty id sz false⟩
        show VA _ _ _ (.sl _ _ _ _) _
        unfold VA
        exact ⟨a,0,rfl,by simp,Or.inl rfl⟩
      ·have hyb:(ys.isEmpty && !xs.isEmpty)=false:=by cases ys <;> simp_all
       rw [hyb] at he
       simp only [Bool.false_eq_true,if_false,Option.some.injEq] at he
       subst he
       have hpos:0 < ys.length:=List.length_pos_iff.2 hy
       obtain ⟨u,w',ι',S',h1,h2,h3,h4⟩:=grow_ok (id:=id) (ty:=ty) hr hid ht hu hd hs hz hzc hflato hflat false (hnews w fun _=>rfl).1 (hnews w.drew fun _=>rfl).2 (holds w.drew fun _=>rfl).2 (by omega) hbytes
       exact ⟨u,w',h1,ι',S',h2,h3,h4⟩
     ·cases he
    ·rename_i i ver off len
     split at he
     ·rename_i v n xs fz ho
      split at he
      ·rename_i hc1
       obtain ⟨rfl,hmark,rfl,hbytes⟩:=hc1
       simp only [Option.some.injEq] at he
       subst he
       have hk:RelH E ι S (upd h i (.no v)) w:=by have:=hr.kill i; rw [ho] at this; exact this
       have hver:(upd h i (.no v) id).ver=(h id).ver:=by
        unfold upd
        split
        ·rename_i e; subst e; rw [ho]; rfl
        ·rfl
       have htl:(xs.drop off).length=len:=by rw [List.length_drop]; omega
       have hsel:elemsOf h (.sl i v off len)=some (xs.drop off,[i]):=by
        simp only [elemsOf,ho]
        rw [if_pos ⟨trivial,by omega⟩,List.take_of_length_le (by omega)]
       obtain ⟨olds,hflato,holds⟩:=elems_ok (P:=P) hr hvs hsel (vec_headOk hr ho off) h0
       have hvs':=hvs
       unfold VA at hvs'
       obtain ⟨a,cap,rfl,hlc,hloc⟩:=hvs'
       by_cases hroom:len + ys.length ≤ cap
       ·by_cases hcap:cap=0
        ·subst hcap
         have hy:ys=[]:=List.length_eq_zero_iff.1 (by omega)
         have hl0:len=0:=by omega
         subst hy hl0
         have hne:news=[]:=List.length_eq_zero_iff.1 (by rw [hflat.1]; simp)
         subst hne
         have hxe:xs.drop off=[]:=List.length_eq_zero_iff.1 htl
         have hrun:(Builtin.append_ #[t,t'] ty #[.slice a 0 0,vx]).run P w = .ok (.slice a (0 + 0) 0) w :=
          run_app_room ht hu hd hs a [] (hnews w fun _=>rfl).1 (hnews w fun _=>rfl).2 (by simp) (fun ad _=>rfl) (fun _=>rfl)
         refine ⟨_,w,hrun,ι,S,Mono.refl _ _ _,?_,?_⟩
         ·show VA _ _ _ (.sl _ _ _ _) _
          unfold VA
          exact ⟨a,0,rfl,by simp,Or.inl rfl⟩
         ·show RelH E ι S (upd (upd h i (.no v)) id (.vec ((h id).ver + 1) n (xs.drop off ++ []) fz)) w
          rw [hxe,← hver]
          exact hk.empty id n fz
        ·rcases hloc with hloc | ⟨L,hL,rfl,hlim⟩
         ·exact absurd hloc hcap
         ·have hob:=hr.objs i
          rw [ho] at hob
          rcases hob with ⟨_,g⟩ | ⟨L',g1,g2,g3,g4,g5,g6,g7,g8,g9,g10⟩
          ·rw [hL] at g; cases g
          ·rw [hL] at g1
           cases g1
           subst g2
           have e0:L.st + off * L.n + len * L.n=L.st + xs.length * L.n:=by rw [← hmark,Nat.add_mul]; omega
           have hnl:news.length=ys.length * L.n:=hflat.1
           have hfit:xs.length * L.n + ys.length * L.n ≤ L.lim * L.n:=by
            rw [← Nat.add_mul]; exact Nat.mul_le_mul_right _ (by omega)
           have hcell:∀ j,j < news.length→(w.cell? ⟨L.b,L.st + xs.length * L.n + j,none⟩).isSome=true∧w.frozen? ⟨L.b,L.st + xs.length * L.n + j,none⟩=false:=fun j hj=>g6 _ (by omega) (by omega)
           have hst:(storeCells ((⟨L.b,L.st + off * L.n,none⟩:Addr).add (len * L.n)) news).run P w = .ok () (w.setCells L.b (L.st + xs.length * L.n) news):=by
            rw [add_at,e0]
            have:=run_storeCells_cells (P:=P) L.b (L.st + xs.length * L.n) news 0 w (fun j hj=>by rw [Nat.add_zero]; exact (hcell j hj).1) (fun j hj=>by rw [Nat.add_zero]; exact (hcell j hj).2) hflat.2.1
            rw [Nat.add_zero] at this
            exact this
           have hrun:=run_app_room (ty:=ty) ht hu hd hs (some ⟨L.b,L.st + off * L.n,none⟩) news (hnews w fun _=>rfl).1 (hnews w fun _=>rfl).2 hroom (fun ad e=>by cases e; exact hst) (fun e=>by cases e)
           have hin:∀ j,j < news.length→(w.setCells L.b (L.st + xs.length * L.n) news).cell? ⟨L.b,L.st + xs.length * L.n + j,none⟩=news[j]?:=fun j hj=>by
            rw [World.cell?_setCells_in L.b news _ w (fun k hk=>(hcell k hk).1) j hj,List.getElem?_eq_getElem hj]
           have hout:∀ b o,(b=L.b→o < L.st + xs.length * L.n ∨ L.st + xs.length * L.n + news.length ≤ o)→(w.setCells L.b (L.st + xs.length * L.n) news).cell? ⟨b,o,none⟩=w.cell? ⟨b,o,none⟩:=fun b o hbo=>World.cell?_setCells_out _ _ _ _ _ (fun e _=>hbo e)
           let S':Sb:=if fz then addS S L.b (L.st + xs.length * L.n) (L.st + xs.length * L.n + news.length) else S
           have hsub:∀ b o,S b o→S' b o:=fun b o hs=>by
            show (if fz then addS S _ _ _ else S) b o
            cases fz
            ·exact hs
            ·exact Or.inl hs
           have hback:∀ b o,S' b o→S b o ∨ (fz=true∧b=L.b∧L.st + xs.length * L.n ≤ o∧o < L.st + xs.length * L.n + news.length):=fun b o hs=>by
            change (if fz then addS S L.b (L.st + xs.length * L.n) (L.st + xs.length * L.n + news.length) else S) b o at hs
            cases fz
            ·exact Or.inl hs
            ·rcases hs with hs | ⟨h1,h2,h3⟩
             ·exact Or.inl hs
             ·exact Or.inr ⟨rfl,h1,h2,h3⟩
           have hnoS:∀ b o,S b o→b=L.b→o < L.st + xs.length * L.n ∨ L.st + xs.length * L.n + news.length ≤ o:=fun b o hs e=>by
            subst e
            rcases Nat.lt_or_ge o (L.st + xs.length * L.n) with h | h
            ·exact Or.inl h
            ·exact absurd hs (g8 o h)
           have hnone:ι id ((h id).ver + 1)=none:=hr.vers id _ (by omega)
           let L2:Loc:=⟨L.b,L.st + off * L.n,L.n,L.lim - off⟩
           have m:Mono ι S w (ixNew ι id ((h id).ver + 1) L2) S' (w.setCells L.b (L.st + xs.length * L.n) news) :=
            ⟨fun a b L' hL'=>(ixNew_other (by rintro ⟨rfl,rfl⟩; rw [hnone] at hL'; cases hL')).trans hL',hsub,fun b o hs=>hout b o (hnoS b o hs)⟩
           obtain ⟨olds2,q1,q2⟩:=(g7.drop off).flat
           have hol:olds2.length=len * L.n:=by rw [q1.1,htl]
           have hlay:=hk.lay id (Nat.le_of_eq hid) (.vec ((h id).ver + 1) L.n (xs.drop off ++ ys) fz) L2 (by rw [hver]; rfl) (S':=S') (w':=w.setCells L.b (L.st + xs.length * L.n) news) m (by rw [size_setCells]; exact Nat.le_refl _) (below_setCells _ g3 _ _ _ hr.below) (by
            refine Or.inr ⟨L2,ixNew_same _ _ _ _,rfl,g3,by rw [size_setCells]; exact g4,?_,fun o h1 h2=>?_,?_,fun o h1 hs=>?_,fun hf o h1 hs=>?_,fun hf o h1 h2=>?_⟩
            ·show (xs.drop off ++ ys).length ≤ L.lim - off
             rw [List.length_append,htl]; omega
            ·have h1':L.st + off * L.n ≤ o:=h1
             have h2':o < L.st + off * L.n + (L.lim - off) * L.n:=h2
             have e3:off * L.n + (L.lim - off) * L.n=L.lim * L.n:=by rw [← Nat.add_mul]; congr 1; omega
             have hg:=g6 o (by omega) (by omega)
             refine ⟨?_,by rw [World.frozen?_setCells]; exact hg.2⟩
             show ((w.setCells L.b (L.st + xs.length * L.n) news).cell? ⟨L.b,o,none⟩).isSome=true
             by_cases hr1:L.st + xs.length * L.n ≤ o∧o < L.st + xs.length * L.n + news.length
             ·have:=hin (o - (L.st + xs.length * L.n)) (by omega)
              rw [show L.st + xs.length * L.n + (o - (L.st + xs.length * L.n))=o by omega] at this
              rw [this,List.getElem?_eq_getElem (by omega)]; rfl
             ·rw [hout _ _ (fun _=>by omega)]; exact hg.1
            ·refine ((q1.append hflat).mono m.sb m.cell).vec fun j u hj=>?_
             show (w.setCells L.b (L.st + xs.length * L.n) news).cell? ⟨L.b,L.st + off * L.n + j,none⟩=some u
             by_cases hj':j < olds2.length
             ·rw [List.getElem?_append_left hj'] at hj
              rw [hout _ _ (fun _=>by omega)]
              exact q2 j u hj
             ·have hjl:=(List.getElem?_eq_some_iff.1 hj).1
              rw [List.length_append] at hjl
              rw [List.getElem?_append_right (by omega)] at hj
              have:=hin (j - olds2.length) (by omega)
              rw [show L.st + xs.length * L.n + (j - olds2.length)=L.st + off * L.n + j by omega] at this
              rw [this]; exact hj
            ·have h1':L.st + off * L.n + (xs.drop off ++ ys).length * L.n ≤ o:=h1
             rw [List.length_append,htl,Nat.add_mul] at h1'
             rcases hback _ _ hs with hs | ⟨_,_,_,hs⟩
             ·exact g8 o (by omega) hs
             ·omega
            ·have h1':L.st + off * L.n ≤ o:=h1
             rcases hback _ _ hs with hs | ⟨hs,_⟩
             ·exact g9 hf o (by omega) hs
             ·rw [hf] at hs; cases hs
            ·have h1':L.st + off * L.n ≤ o:=h1
             have h2':o < L.st + off * L.n + (xs.drop off ++ ys).length * L.n:=h2
             rw [List.length_append,htl,Nat.add_mul] at h2'
             show (if fz then addS S L.b (L.st + xs.length * L.n) (L.st + xs.length * L.n + news.length) else S) L.b o
             rw [hf]
             by_cases hlt:o < L.st + xs.length * L.n
             ·exact Or.inl (g10 hf o (by omega) hlt)
             ·exact Or.inr ⟨rfl,by omega,by omega⟩) (fun j Lj hji hl hLj=>by
            have hj:j ≠ i:=by
             rintro rfl
             unfold upd at hl
             rw [if_pos rfl] at hl
             cases hl
            have hjh:upd h i (.no v) j=h j:=by unfold upd; rw [if_neg hj]
            rw [hjh] at hl hLj
            have hne:=hr.apart j i Lj L hj hl (by rw [ho]; rfl) hLj (by rw [ho]; exact hL)
            refine ⟨hne,fun p hs=>?_,block_setCells _ _ _ _ _ hne⟩
            rcases hback _ _ hs with hs | ⟨_,e,_⟩
            ·exact hs
            ·exact absurd e hne) (fun b p hs=>by
            rcases hback _ _ hs with hs | ⟨_,rfl,_⟩
            ·exact Or.inl hs
            ·exact Or.inr ⟨g3,by rw [size_setCells]; exact g4⟩) (fun b hp=>by
            have hne:=(hr.prot b hp).2.2.2 i L (by rw [ho]; rfl) (by rw [ho]; exact hL)
            refine ⟨hne,fun p hs=>?_,block_setCells _ _ _ _ _ (fun e=>hne e.symm)⟩
            rcases hback _ _ hs with hs | ⟨_,e,_⟩
            ·exact hs
            ·exact absurd e.symm hne)
           refine ⟨_,_,hrun,_,_,m,?_,hlay⟩
           show VA _ _ _ (.sl _ _ _ _) _
           unfold VA
           exact ⟨_,cap,rfl,hroom,Or.inr ⟨L2,ixNew_same _ _ _ _,by simp [L2],by show 0 + cap ≤ L.lim - off; omega⟩⟩
       ·have hho:=holds w.drew (fun _=>rfl)
        rw [htl] at hho
        obtain ⟨u,w',ι',S',h1,h2,h3,h4⟩:=grow_ok (id:=id) (ty:=ty) (a:=a) (sCap:=cap) hk hid ht hu hd hs hz hzc hflato hflat fz (hnews w fun _=>rfl).1 (hnews w.drew fun _=>rfl).2 (by rw [htl]; exact hho.2) (by rw [htl]; omega) (by rw [htl]; exact hbytes)
        rw [htl] at h1 h3
        rw [hver] at h3 h4
        exact ⟨u,w',h1,ι',S',h2,h3,h4⟩
      ·cases he
     ·cases he
    ·cases he
   ·cases he
  ·cases he
theorem bytesOfD_ns:∀ {xs:List D} {l:List UInt8},bytesOfD xs=some l→∃ ns:List Int,xs=ns.map (fun n=>D.s (.int .u8 n))∧l=ns.map fun n=>UInt8.ofNat n.toNat
 | [],l,h=>by
  simp only [bytesOfD,Option.some.injEq] at h
  exact ⟨[],rfl,h.symm⟩
 | x :: xs,l,h=>by
  unfold bytesOfD at h
  split at h
  ·rename_i e; cases e
  ·rename_i n xs' e
   cases e
   obtain ⟨l',h1,rfl⟩:=Option.map_eq_some_iff.1 h
   obtain ⟨ns,rfl,rfl⟩:=bytesOfD_ns h1
   exact ⟨n :: ns,rfl,rfl⟩
  ·cases h
theorem foldl_push (ns:List Int):∀ r:ByteArray,ns.foldl (fun r n=>r.push (UInt8.ofNat n.toNat)) r=⟨r.data ++ (ns.map fun n=>UInt8.ofNat n.toNat).toArray⟩:=by
 induction ns with
 | nil=>intro r; simp
 | cons n ns ih =>
  intro r
  rw [List.foldl_cons,ih]
  simp [ByteArray.push]
theorem flat_bytes {S:Sb} {w:World} {ns:List Int} {news:List Value} (h:Flat S w 1 (ns.map (fun n=>D.s (.int .u8 n))) news):news=ns.map (Value.int .u8):=by
 obtain ⟨h1,_,h3⟩:=h
 simp only [List.length_map,Nat.mul_one] at h1
 apply List.ext_getElem?
 intro i
 by_cases hi:i < ns.length
 ·obtain ⟨us,k1,k2,k3,k4⟩:=h3 i (.s (.int .u8 ns[i])) (by simp [hi])
  unfold CellsD at k3
  obtain ⟨rfl,_⟩:=k3
  have:=k4 0 _ rfl
  rw [Nat.mul_one,Nat.add_zero] at this
  rw [this]
  simp [hi]
 ·rw [List.getElem?_eq_none (by omega),List.getElem?_eq_none (by simp; omega)]
theorem convert_ok {P:Program} {E:Env} {ι:Ix} {S:Sb} {h:Id→O} {w:World} (hr:RelH E ι S h w) {id:Id} (hid:id.1=E.d) {src dst:TypeId} {x:A} {v:Value} (hv:VA ι S w x v) {e:Eff} (he:convertE P h id src dst x=some e) :
  ∃ u w',(convert src dst v).run P w = .ok u w' ∧ Steps E ι S h w e u w':=by
 unfold convertE at he
 split at he
 ·rename_i el hsrc hdst
  split at he
  ·cases he
  ·rename_i xs rd hel hne hxs
   obtain ⟨l,h1,rfl⟩:=Option.map_eq_some_iff.1 he
   obtain ⟨ns,rfl,rfl⟩:=bytesOfD_ns h1
   have hh:headOk 1 (ns.map (fun n=>D.s (.int .u8 n)))=true:=by cases ns <;> rfl
   obtain ⟨news,hflat,hnews⟩:=elems_ok (P:=P) hr hv hxs hh (by decide)
   have hn:=flat_bytes hflat
   subst hn
   have hfc:=(hnews w fun _=>rfl).2
   have hlo:=(hnews w fun _=>rfl).1
   simp only [List.length_map] at hfc hlo
   have hsl:∃ a cap,v = .slice a ns.length cap:=by
    unfold elemsOf at hxs
    split at hxs
    ·simp only [Option.some.injEq,Prod.mk.injEq] at hxs
     obtain ⟨a,cap,rfl,_⟩:=VA_lst.1 hv
     exact ⟨a,cap,by rw [hxs.1]; simp⟩
    ·simp only [Option.some.injEq,Prod.mk.injEq] at hxs
     unfold VA at hv
     obtain ⟨a,rfl,_⟩:=hv
     exact ⟨a,ns.length,by rw [hxs.1]; simp⟩
    ·unfold VA at hv
     obtain ⟨a,cap,rfl,_⟩:=hv
     rw [lenOf_slice] at hlo
     simp only [Result.ok.injEq,and_true] at hlo
     exact ⟨a,cap,by rw [hlo]⟩
    ·rename_i s
     exact absurd rfl (hne _)
    ·cases hxs
   obtain ⟨a,cap,rfl⟩:=hsl
   refine ⟨.string ⟨(ns.map fun n=>UInt8.ofNat n.toNat).toArray⟩,w,?_,Steps.still hr rfl ?_⟩
   ·rw [run_convert_bytes_string w src dst el a ns.length cap hsrc hel hdst]
    cases a with
    | none =>
     have:ns=[]:=by
      simp only [Builtin.firstCells,Sem.run_pure,Result.ok.injEq,and_true] at hfc
      have:=congrArg Array.size hfc
      simp at this
      exact List.length_eq_zero_iff.1 this.symm
     subst this
     rfl
    | some ad =>
     have hl:(loadCells ad ns.length).run P w = .ok (ns.map (Value.int .u8)).toArray w:=by
      simpa [Builtin.firstCells] using hfc
     rw [run_bytesToString w ad ns.length cap ns hl,foldl_push]
     simp [ByteArray.empty,ByteArray.emptyWithCapacity]
     rfl
   ·show VA _ _ _ (.d (.s _)) _
    unfold VA ValD CellsD
    exact ⟨rfl,rfl⟩
  ·cases he
 ·rename_i el hsrc hdst
  split at he
  ·rename_i s hel
   simp only [Option.some.injEq] at he
   subst he
   unfold VA ValD CellsD at hv
   simp only [List.cons.injEq,and_true] at hv
   obtain ⟨rfl,_⟩:=hv
   have hrun:=run_bytes_of_string (P:=P) w src dst el s hsrc hdst hel
   have hge:=grownCap_ge w s.size 0 el
   have hsz:(bytesRow s (grownCap w s.size 0 el)).size=grownCap w s.size 0 el * 1:=by
    simp [bytesRow]; show s.data.size + _=_; rw [show s.data.size=s.size from rfl]; omega
   have hflat:Flat S w 1 (s.data.toList.map fun b=>D.s (.int .u8 b.toNat)) (s.data.toList.map fun b=>.int .u8 b.toNat):=by
    refine ⟨by simp,fun u hu=>?_,fun i y hy=>?_⟩
    ·obtain ⟨b,_,rfl⟩:=List.mem_map.1 hu; rfl
    ·rw [List.getElem?_map] at hy
     obtain ⟨b,hb,rfl⟩:=Option.map_eq_some_iff.1 hy
     refine ⟨[.int .u8 b.toNat],rfl,rfl,by unfold CellsD; exact ⟨rfl,rfl⟩,fun j u hj=>?_⟩
     cases j with
     | zero =>
      simp only [List.getElem?_cons_zero,Option.some.injEq] at hj
      subst hj
      rw [Nat.mul_one,Nat.add_zero,List.getElem?_map,hb]; rfl
     | succ j=>simp at hj
   obtain ⟨ι',S',m,v,r⟩:=newVec_ok hr id hid 1 _ _ false (bytesRow s (grownCap w s.size 0 el)) (grownCap w s.size 0 el) hflat (fun j u hj=>by
    have hj':j < (s.data.toList.map fun b=>Value.int .u8 (b.toNat:Int)).length:=(List.getElem?_eq_some_iff.1 hj).1
    simp only [List.length_map,Array.length_toList] at hj'
    unfold bytesRow
    rw [Array.getElem?_append_left (by simpa using hj')]
    simpa using hj) hsz (by simp; exact hge) (w':=w.drew.alloc (.cells (bytesRow s (grownCap w s.size 0 el)) el ((bytesRow s (grownCap w s.size 0 el)).size,(bytesRow s (grownCap w s.size 0 el)).size + 1)))
    ((Below.refl _ _).drew.alloc (Nat.le_refl _) _) (by simp) (fun o=>World.cell?_alloc_mark w.drew _ _ _ _) (fun o ho=>by rw [show w.heap.size=w.drew.heap.size from rfl,World.frozen?_alloc_mark]; simp; omega)
   have hl:(s.data.toList.map fun b=>D.s (.int .u8 b.toNat)).length=s.size:=by simp
   rw [hl] at v
   exact ⟨_,_,hrun,ι',S',m,v,r⟩
  ·cases he
 ·cases he
end
section
def FreshRep (base:Nat) (prot:Nat→Prop) (ι:Ix) (S:Sb) (h:Id→O) (w:World) (n:Nat) (xs:List D) (v:Value):Prop :=
 ∃ a cap,v = .slice a xs.length cap∧xs.length ≤ cap∧((xs=[]∧cap=0) ∨ ∃ L:Loc,a=some ⟨L.b,L.st,none⟩∧L.n=n∧base ≤ L.b∧L.b < w.heap.size∧xs.length ≤ L.lim∧cap ≤ L.lim ∧
   (∀ o,L.st ≤ o→o < L.st + L.lim * n→(w.cell? ⟨L.b,o,none⟩).isSome=true∧w.frozen? ⟨L.b,o,none⟩=false)∧VecRow S w L.b n L.st xs∧(∀ o,L.st ≤ o→¬ S L.b o) ∧
   (∀ i Li,(h i).live=true→ι i (h i).ver=some Li→Li.b ≠ L.b) ∧ ∀ b,prot b→L.b ≠ b)
def RepR (base:Nat) (prot:Nat→Prop) (ι:Ix) (S:Sb) (h:Id→O) (w:World):R→Value→Prop
 | .val x,v=>ValD S w x v
 | .tup xs,v=>∃ us,v = .tuple us∧VL ι S w xs us.toList
 | .ref a,v=>VA ι S w a v
 | .fresh n xs,v=>FreshRep base prot ι S h w n xs v
 | .freshT n xs rest,v=>∃ u us us',v = .tuple us∧us.toList=u :: us' ∧ FreshRep base prot ι S h w n xs u∧VL ι S w rest us'
 | .mapf es clock,v=>∃ b:Nat,v = .map (some b)∧base ≤ b∧b < w.heap.size∧(∀ o,¬ S b o)∧(∃ ens:Array MapEntry,w.heap[b]? = some (.map ens clock)∧MapRel ι S w es ens.toList∧(∀ e ∈ es,e.1 < clock)∧es.Pairwise (fun a b=>a.1 ≠ b.1)) ∧
   (∀ i Li,(h i).live=true→ι i (h i).ver=some Li→Li.b ≠ b) ∧ ∀ c,prot c→b ≠ c
structure EnvOk (I:World→Prop) (E:Env):Prop where
 base:E.base=E.w0.heap.size
 inv:I E.w0
structure Ret (P:Program) (I:World→Prop) (f:FuncId) (d:Nat) (h:Id→O) (az:List A) (r:R) (h':Id→O):Prop where
 enters:Enters P f
 calls:∀ (E:Env) (ι:Ix) (S:Sb) (w:World) (vs:Array Value),EnvOk I E→E.d=d→E.ι0=ι→E.S0=S→E.w1=w→(∀ i v,d ≤ i.1→ι i v=none)→RelH E ι S h w→VL ι S w az vs.toList →
  Calls P f vs w fun e w'=>∃ v ι' S',e = .returned v∧Mono ι S w ι' S' w' ∧ (∀ i v,d ≤ i.1→ι' i v=none)∧RelH E ι' S' h' w' ∧ RepR E.base E.prot ι' S' h' w' r v
theorem RelH.grow {E:Env} {ι:Ix} {S S':Sb} {h:Id→O} {w w':World} (hr:RelH E ι S h w) (hb:Below w.heap.size w w') (h1:∀ b o,S b o→S' b o) (h2:∀ b o,S' b o→(S b o ∨ w.heap.size ≤ b)∧b < w'.heap.size):Mono ι S w ι S' w' ∧ RelH E ι S' h w':=by
 have m:Mono ι S w ι S' w':=⟨fun _ _ _ h=>h,h1,fun b o hs=>hb.cell (p:=⟨b,o,none⟩) (hr.inw b o hs)⟩
 refine ⟨m,hr.below.trans (hb.mono hr.size),Nat.le_trans hr.size hb.size,fun i=>?_,hr.apart,hr.vers,fun b o hs=>h1 b o (hr.sub b o hs),fun b o hs=>?_,fun b o hs=>(h2 b o hs).2,hr.old,hr.deep,fun b o hs=>(m.cell b o (hr.sub b o hs)).trans (hr.hold b o hs),fun b hp=>?_,hr.z,hr.low⟩
 rotate_right 1
 ·obtain ⟨p1,p2,p3,p4⟩:=hr.prot b hp
  refine ⟨Nat.lt_of_lt_of_le p1 hb.size,(hb.block b p1).trans p2,fun o hs=>?_,p4⟩
  rcases (h2 b o hs).1 with hs | hs
  ·exact p3 o hs
  ·omega
 ·refine (hr.objs i).keep m rfl hb.size fun hl L hL=>?_
  have hlt:=((hr.objs i).lt hl hL).2
  refine ⟨fun p hs=>?_,hb.block _ hlt⟩
  rcases (h2 _ _ hs).1 with hs | hs
  ·exact hs
  ·omega
 ·rcases (h2 b o hs).1 with hs | hs
  ·exact hr.new b o hs
  ·exact Or.inr (Nat.le_trans hr.size hs)
theorem ValDs_VL {ι:Ix} {S:Sb} {w:World}:∀ {xs:List D} {us:List Value},ValDs S w xs us→VL ι S w (xs.map .d) us
 | [],us,h=>by
  simp only [ValDs] at h
  simp only [List.map_nil]
  unfold VL; exact h
 | x :: xs,us,h=>by
  obtain ⟨u,us',rfl,h1,h2⟩:=h
  simp only [List.map_cons]
  unfold VL
  exact ⟨u,us',rfl,by unfold VA; exact h1,ValDs_VL h2⟩
theorem VL_map {ι:Ix} {S:Sb} {w:World} {E:Env} {st:St} {a:Act} (h:RelT E ι S w st a):∀ l:List Operand,VL ι S w (l.map st.ev) (l.map a.eval)
 | []=>by simp only [List.map_nil]; unfold VL; rfl
 | x :: l=>by
  simp only [List.map_cons]
  unfold VL
  exact ⟨_,_,rfl,ev_VA h x,VL_map h l⟩
theorem VP_map {ι:Ix} {S:Sb} {w:World} {E:Env} {st:St} {a:Act} (h:RelT E ι S w st a):∀ l:List (Nat × Operand),VP ι S w (l.map fun p=>(p.1,st.ev p.2)) (l.map fun p=>(p.1,a.eval p.2))
 | []=>by simp only [List.map_nil]; unfold VP; rfl
 | x :: l=>by
  simp only [List.map_cons]
  unfold VP
  exact ⟨_,_,rfl,ev_VA h x.2,VP_map h l⟩
theorem OVA_map {ι:Ix} {S:Sb} {w:World} {E:Env} {st:St} {a:Act} (h:RelT E ι S w st a) (x:Option Operand):OVA ι S w (x.map st.ev) (x.map a.eval):=by
 cases x with
 | none=>trivial
 | some x=>exact ev_VA h x
theorem RelT_put {ι ι':Ix} {S S':Sb} {w w':World} {E:Env} {st:St} {a:Act} (h:RelT E ι S w st a) (m:Mono ι S w ι' S' w') {dst:Option Tmp} (hd:dstOk st.n dst=true) {e:Eff} {u:Value} (hv:VA ι' S' w' e.v u):RelT E ι' S' w' (st.put dst e) (a.put dst u):=by
 cases dst with
 | none=>exact ⟨h.depth,h.size,h.defers,fun i hi=>VA_mono m _ _ (h.vals i hi)⟩
 | some d =>
  have hd':d < st.n:=by simpa [dstOk] using hd
  refine ⟨h.depth,by simp [Act.put,h.size,St.put],h.defers,fun i hi=>?_⟩
  show VA ι' S' w' (upd st.t d e.v i) ((a.tmps.setIfInBounds d u).getD i undef)
  unfold upd
  rw [Array.getD_eq_getD_getElem?,Array.getElem?_setIfInBounds]
  by_cases hi':i=d
  ·subst hi'
   rw [if_pos rfl,if_pos rfl,if_pos (by rw [h.size]; exact hd')]
   exact hv
  ·rw [if_neg hi',if_neg (fun e=>hi' e.symm),← Array.getD_eq_getD_getElem?]
   exact VA_mono m _ _ (h.vals i hi)
theorem wp_value {P:Program} {E:Env} {ι:Ix} {S:Sb} {w w':World} {st:St} {a:Act} {o:Oper} {e:Eff} {u:Value} (ht:RelT E ι S w st a) (hd:dstOk st.n o.dst=true) (hrun:(execOp a.eval o).run P w = .ok (.value u) w') (hs:Steps E ι S st.h w e u w') {K:Act→World→Prop} {Q:Exit→Act→World→Prop}
  (hK:∀ ι' S' w' a',RelT E ι' S' w' (st.put o.dst e) a'→RelH E ι' S' (st.put o.dst e).h w'→K a' w'):o.wp P a w K Q:=by
 obtain ⟨ι',S',m,hv,hr⟩:=hs
 unfold Oper.wp
 rw [hrun]
 exact hK ι' S' w' _ (RelT_put ht m hd hv) hr
theorem wp_skip' {P:Program} {E:Env} {ι:Ix} {S:Sb} {w w':World} {st:St} {a:Act} {o:Oper} {e:Eff} (ht:RelT E ι S w st a) (hd:dstOk st.n o.dst=true) (hrun:(execOp a.eval o).run P w = .ok .skip w') (hs:Steps E ι S st.h w e undef w') {K:Act→World→Prop} {Q:Exit→Act→World→Prop}
  (hK:∀ ι' S' w' a',RelT E ι' S' w' (st.put o.dst e) a'→RelH E ι' S' (st.put o.dst e).h w'→K a' w'):o.wp P a w K Q:=by
 obtain ⟨ι',S',m,hv,hr⟩:=hs
 unfold Oper.wp
 rw [hrun]
 exact hK ι' S' w' _ (RelT_put ht m hd hv) hr
structure Sound (P:Program) (I:World→Prop) (X:Orc):Prop where
 orc:∀ f d h az r h',X f d h az=some (r,h')→Ret P I f d h az r h'
 keep:∀ w w',I w→Below w.heap.size w w'→I w'
 frame:∀ f d h az r h',X f d h az=some (r,h')→∀ i,i ∉ reachIds h 3 (idsL az)→h' i=h i
theorem upds_graph:∀ (l:List Id) (g T:Id→O) (i:Id),upds T (graphOf g l) i=if i ∈ l then g i else T i
 | [],g,T,i=>by simp [graphOf,upds]
 | j :: l,g,T,i=>by
  show upds (upd T j (g j)) (graphOf g l) i=_
  rw [upds_graph l]
  unfold upd
  by_cases h1:i ∈ l
  ·simp [h1]
  ·by_cases h2:i=j
   ·subst h2; simp
   ·simp [h1,h2]
theorem argA_ok {E:Env} {ι:Ix} {S S':Sb} {h:Id→O} {w:World} (hr:RelH E ι S h w) (m:Mono ι S w ι S' w) {a:A} {u:Value} (hv:VA ι S w a u) {x:A} {ids:List Id} (hx:argA h a=some (x,ids)) (hf:FzAll ι S' h ids):VA ι S' w x u:=by
 unfold argA at hx
 split at hx
 ·simp only [Option.some.injEq,Prod.mk.injEq] at hx
  obtain ⟨rfl,rfl⟩:=hx
  exact VA_mono m _ _ hv
 ·simp only [Option.some.injEq,Prod.mk.injEq] at hx
  obtain ⟨rfl,rfl⟩:=hx
  have:=fzCell_ok hr m hv (show fzCell h (.clip _)=some (.lst _,[]) from rfl) (fun i hi=>by simp at hi)
  unfold VA; exact this
 ·obtain ⟨p,h1,h2⟩:=Option.map_eq_some_iff.1 hx
  obtain ⟨y,i⟩:=p
  simp only [Prod.mk.injEq] at h2
  obtain ⟨rfl,rfl⟩:=h2
  unfold VA
  exact fzCell_ok hr m hv h1 hf
 ·obtain ⟨p,h1,h2⟩:=Option.map_eq_some_iff.1 hx
  obtain ⟨ys,i⟩:=p
  simp only [Prod.mk.injEq] at h2
  obtain ⟨rfl,rfl⟩:=h2
  unfold VA at hv
  obtain ⟨us,rfl,h3⟩:=hv
  unfold VA
  exact ⟨us,rfl,fzCells_ok hr m h3 h1 hf⟩
 ·simp only [Option.some.injEq,Prod.mk.injEq] at hx
  obtain ⟨rfl,rfl⟩:=hx
  exact VA_mono m _ _ hv
 ·simp only [Option.some.injEq,Prod.mk.injEq] at hx
  obtain ⟨rfl,rfl⟩:=hx
  exact VA_mono m _ _ hv
 ·simp only [Option.some.injEq,Prod.mk.injEq] at hx
  obtain ⟨rfl,rfl⟩:=hx
  exact VA_mono m _ _ hv
 ·cases hx
theorem argAs_ok {E:Env} {ι:Ix} {S S':Sb} {h:Id→O} {w:World} (hr:RelH E ι S h w) (m:Mono ι S w ι S' w):∀ {l:List A} {us:List Value} {xs:List A} {ids:List Id},VL ι S w l us→argAs h l=some (xs,ids)→FzAll ι S' h ids→VL ι S' w xs us
 | [],us,ds,ids,hv,hx,hf=>by
  simp only [argAs,Option.some.injEq,Prod.mk.injEq] at hx
  obtain ⟨rfl,rfl⟩:=hx
  unfold VL at *
  exact hv
 | a :: l,us,ds,ids,hv,hx,hf=>by
  unfold VL at hv
  obtain ⟨u,us',rfl,h1,h2⟩:=hv
  unfold argAs at hx
  split at hx
  ·rename_i x i xs j hx1 hx2
   simp only [Option.some.injEq,Prod.mk.injEq] at hx
   obtain ⟨rfl,rfl⟩:=hx
   unfold VL
   exact ⟨u,us',rfl,argA_ok hr m h1 hx1 hf.left,argAs_ok hr m h2 hx2 hf.right⟩
  ·cases hx
theorem plain_VA {ι ι':Ix} {S:Sb} {w:World} {a:A} {u:Value} (hp:a.plain=true) (h:VA ι S w a u):VA ι' S w a u:=by
 unfold A.plain at hp
 split at hp
 ·unfold VA at *; exact h
 ·rename_i f caps
  have:caps=[]:=List.isEmpty_iff.1 hp
  subst this
  unfold VA at *
  obtain ⟨us,h1,h2⟩:=h
  exact ⟨us,h1,by unfold VL at *; exact h2⟩
 ·cases hp
theorem plain_VL {ι ι':Ix} {S:Sb} {w:World}:∀ {l:List A} {us:List Value},l.all A.plain=true→VL ι S w l us→VL ι' S w l us
 | [],us,_,h=>by unfold VL at *; exact h
 | a :: l,us,hp,h=>by
  simp only [List.all_cons,Bool.and_eq_true] at hp
  unfold VL at *
  obtain ⟨u,us',h1,h2,h3⟩:=h
  exact ⟨u,us',h1,plain_VA hp.1 h2,plain_VL hp.2 h3⟩
def noIx:Ix:=fun _ _=>none
theorem noIx_less (ι:Ix) (S:Sb) (w:World):Mono noIx S w ι S w:=⟨fun _ _ _ h=>(by cases h),fun _ _ h=>h,fun _ _ _=>rfl⟩
theorem fresh_ok {E:Env} {ι:Ix} {S:Sb} {h:Id→O} {w:World} (hr:RelH E ι S h w) {id:Id} (hid:id.1=E.d) {n:Nat} {xs:List D} {v:Value} (hv:FreshRep E.base E.prot ι S h w n xs v) :
  ∃ ι',Mono ι S w ι' S w∧VA ι' S w (.sl id ((h id).ver + 1) 0 xs.length) v∧RelH E ι' S (upds h [(id,.vec ((h id).ver + 1) n xs false)]) w:=by
 have hnone:ι id ((h id).ver + 1)=none:=hr.vers id _ (by omega)
 have hm:∀ L:Loc,Mono ι S w (ixNew ι id ((h id).ver + 1) L) S w:=fun L=>⟨fun a b L' hL'=>(ixNew_other (by rintro ⟨rfl,rfl⟩; rw [hnone] at hL'; cases hL')).trans hL',fun _ _ h=>h,fun _ _ _=>rfl⟩
 obtain ⟨ad,cap,rfl,hlc,hrep⟩:=hv
 rcases hrep with ⟨rfl,rfl⟩ | ⟨L,rfl,g1,g2,g3,g4,g5,g6,g7,g8,g9,gp⟩
 ·refine ⟨ι,Mono.refl _ _ _,?_,hr.empty id n false⟩
  show VA _ _ _ (.sl _ _ _ _) _
  unfold VA
  exact ⟨ad,0,rfl,by simp,Or.inl rfl⟩
 ·refine ⟨_,hm L,?_,hr.lay id (Nat.le_of_eq hid) (.vec ((h id).ver + 1) n xs false) L rfl (hm L) (Nat.le_refl _) hr.below ?_ (fun i Li hi hl hL=>⟨g9 i Li hl hL,fun _ h=>h,rfl⟩) (fun b p hs=>Or.inl hs) (fun b hp=>⟨gp b hp,fun _ h=>h,rfl⟩)⟩
  ·show VA _ _ _ (.sl _ _ _ _) _
   unfold VA
   exact ⟨_,cap,rfl,hlc,Or.inr ⟨L,ixNew_same _ _ _ _,by simp,by omega⟩⟩
  ·exact Or.inr ⟨L,ixNew_same _ _ _ _,g1,g2,g3,g4,g6,g7,fun o ho=>g8 o (by omega),fun _=>g8,fun hf=>by cases hf⟩
theorem back_ok {E:Env} {ι:Ix} {S:Sb} {h:Id→O} {w:World} (hr:RelH E ι S h w) {id:Id} (hid:id.1=E.d) {r:R} {v:Value} (hv:RepR E.base E.prot ι S h w r v) :
  ∃ ι',Mono ι S w ι' S w∧VA ι' S w (backE (h id).ver id r).1 v∧RelH E ι' S (upds h (backE (h id).ver id r).2) w:=by
 have hnone:ι id ((h id).ver + 1)=none:=hr.vers id _ (by omega)
 have hm:∀ L:Loc,Mono ι S w (ixNew ι id ((h id).ver + 1) L) S w:=fun L=>⟨fun a b L' hL'=>(ixNew_other (by rintro ⟨rfl,rfl⟩; rw [hnone] at hL'; cases hL')).trans hL',fun _ _ h=>h,fun _ _ _=>rfl⟩
 cases r with
 | val x=>exact ⟨ι,Mono.refl _ _ _,by show VA _ _ _ (.d x) v; unfold VA; exact hv,hr⟩
 | tup xs =>
  obtain ⟨us,rfl,h3⟩:=hv
  exact ⟨ι,Mono.refl _ _ _,by show VA _ _ _ (.tup xs) _; unfold VA; exact ⟨us,rfl,h3⟩,hr⟩
 | ref a=>exact ⟨ι,Mono.refl _ _ _,hv,hr⟩
 | fresh n xs=>exact fresh_ok hr hid hv
 | freshT n xs rest =>
  obtain ⟨u,us,us',rfl,he,hf,hv'⟩:=hv
  obtain ⟨ι',h1,h2,h3⟩:=fresh_ok hr hid hf
  refine ⟨ι',h1,?_,h3⟩
  show VA _ _ _ (.tup (.sl id ((h id).ver + 1) 0 xs.length :: rest)) _
  unfold VA
  refine ⟨us,rfl,?_⟩
  rw [he]
  unfold VL
  exact ⟨u,us',rfl,h2,VL_mono h1 _ _ hv'⟩
 | mapf es clock =>
  obtain ⟨b,rfl,g1,g2,g3,⟨ens,g4,g5,g6⟩,g7,gp⟩:=hv
  refine ⟨_,hm ⟨b,0,0,0⟩,?_,hr.lay id (Nat.le_of_eq hid) (.map ((h id).ver + 1) es clock) ⟨b,0,0,0⟩ rfl (hm _) (Nat.le_refl _) hr.below ?_ (fun i Li hi hl hL=>⟨g7 i Li hl hL,fun _ h=>h,rfl⟩) (fun b p hs=>Or.inl hs) (fun c hp=>⟨gp c hp,fun _ h=>h,rfl⟩)⟩
  ·show VA _ _ _ (.mp _ _) _
   unfold VA
   exact ⟨_,ixNew_same _ _ _ _,rfl⟩
  ·refine ⟨_,ixNew_same _ _ _ _,g1,g2,g3,ens,g4,?_,g6⟩
   rw [hid,upto_new (by omega) (upto_all hr)]
   exact MapRel_mono (hm _) g5
theorem refIds_sub (h:Id→O):∀ (n:Nat) (l:List Id),∀ i ∈ refIds h n l,i ∈ reachIds h n l
 | n,[],i,hi=>by cases n <;> simp [refIds] at hi
 | 0,a :: l,i,hi=>hi
 | n + 1,a :: l,i,hi=>by
  rcases List.mem_append.1 hi with hi | hi
  ·exact List.mem_append_left _ (List.mem_append_left _ hi)
  ·exact List.mem_append_right _ (refIds_sub h n _ i hi)
theorem mem_refs (h:Id→O):∀ (n:Nat) {l:List Id} {i:Id},i ∈ l→i ∈ refIds h n l
 | n,[],i,hi=>by cases hi
 | 0,a :: l,i,hi=>hi
 | n + 1,a :: l,i,hi=>List.mem_append_left _ hi
theorem idsH_same {h h':Id→O}:∀ {l:List Id},(∀ i ∈ l,h' i=h i)→idsH h' l=idsH h l∧adH h' l=adH h l
 | [],_=>⟨rfl,rfl⟩
 | i :: l,he=>by
  have h1:=he i List.mem_cons_self
  have h2:=idsH_same (l:=l) fun j hj=>he j (List.mem_cons_of_mem _ hj)
  exact ⟨by show idsO (h' i) ++ idsH h' l=_; rw [h1,h2.1]; rfl,by show adIds i (h' i) ++ adH h' l=_; rw [h1,h2.2]; rfl⟩
theorem reach_same {h h':Id→O}:∀ (n:Nat) {l:List Id},(∀ i ∈ refIds h n l,h' i=h i)→reachIds h' n l=reachIds h n l
 | n,[],_=>by cases n <;> rfl
 | 0,a :: l,_=>rfl
 | n + 1,a :: l,he=>by
  have h1:=idsH_same (h:=h) (h':=h') (l:=a :: l) fun i hi=>he i (List.mem_append_left _ hi)
  show (a :: l) ++ adH h' (a :: l) ++ reachIds h' n (idsH h' (a :: l))=_
  rw [h1.1,h1.2,reach_same n fun i hi=>he i (List.mem_append_right _ hi)]
  rfl
def maskIx (ι:Ix) (Rs:List Id):Ix:=fun i v=>if Rs.contains i then ι i v else none
def maskEnv (E:Env) (S:Sb) (d:Nat) (ι:Ix) (h:Id→O) (F Rs:List Id) (w:World):Env :=
 ⟨E.base,E.w0,S,d,maskIx ι Rs,w,fun b=>E.prot b ∨ ∃ i L,F.contains i=false∧(h i).live=true∧ι i (h i).ver=some L∧L.b=b,fun i=>(canE h F Rs i).ver⟩
mutual
theorem VA_mask {ι ι':Ix} {S:Sb} {w:World}:∀ (a:A) (u:Value),(∀ i ∈ idsA a,∀ v,ι' i v=ι i v)→VA ι S w a u→VA ι' S w a u
 | .any,u,_,h=>by unfold VA; trivial
 | .d x,u,_,h=>by unfold VA at *; exact h
 | .clip xs,u,_,h=>by unfold VA at *; exact h
 | .agg xs,u,hi,h=>by
  unfold VA at *
  obtain ⟨us,h1,h2⟩:=h
  exact ⟨us,h1,VL_mask xs _ (by simpa only [idsA] using hi) h2⟩
 | .tup xs,u,hi,h=>by
  unfold VA at *
  obtain ⟨us,h1,h2⟩:=h
  exact ⟨us,h1,VL_mask xs _ (by simpa only [idsA] using hi) h2⟩
 | .bp id ver off,u,hi,h=>by
  unfold VA at *
  obtain ⟨L,h1,h2⟩:=h
  exact ⟨L,by rw [hi id (by simp [idsA])]; exact h1,h2⟩
 | .sl id ver off len,u,hi,h=>by
  unfold VA at *
  obtain ⟨a,cap,h1,h2,h3⟩:=h
  refine ⟨a,cap,h1,h2,h3.imp (fun h=>h) ?_⟩
  rintro ⟨L,h4,h5⟩
  exact ⟨L,by rw [hi id (by simp [idsA])]; exact h4,h5⟩
 | .op id ver i off,u,hi,h=>by
  unfold VA at *
  obtain ⟨L,h1,h2⟩:=h
  exact ⟨L,by rw [hi id (by simp [idsA])]; exact h1,h2⟩
 | .ep xs i off,u,_,h=>by unfold VA at *; exact h
 | .clo f caps,u,hi,h=>by
  unfold VA at *
  obtain ⟨us,h1,h2⟩:=h
  exact ⟨us,h1,VL_mask caps _ (by simpa only [idsA] using hi) h2⟩
 | .mp id ver,u,hi,h=>by
  unfold VA at *
  obtain ⟨L,h1,h2⟩:=h
  exact ⟨L,by rw [hi id (by simp [idsA])]; exact h1,h2⟩
 | .it id ver,u,hi,h=>by
  unfold VA at *
  obtain ⟨L,h1,h2⟩:=h
  exact ⟨L,by rw [hi id (by simp [idsA])]; exact h1,h2⟩
theorem VL_mask {ι ι':Ix} {S:Sb} {w:World}:∀ (l:List A) (us:List Value),(∀ i ∈ idsL l,∀ v,ι' i v=ι i v)→VL ι S w l us→VL ι' S w l us
 | [],us,_,h=>by unfold VL at *; exact h
 | a :: l,us,hi,h=>by
  unfold VL at *
  obtain ⟨u,us',h1,h2,h3⟩:=h
  exact ⟨u,us',h1,VA_mask a u (fun i h'=>hi i (by simp only [idsL,List.mem_append]; exact Or.inl h')) h2,VL_mask l us' (fun i h'=>hi i (by simp only [idsL,List.mem_append]; exact Or.inr h')) h3⟩
end
theorem idsL_get {i:Id}:∀ {cs:List A} {j:Nat} {a:A},cs[j]? = some a→i ∈ idsA a→i ∈ idsL cs
 | [],j,a,h,_=>by simp at h
 | c :: cs,0,a,h,hi=>by
  simp at h
  subst h
  simp only [idsL,List.mem_append]; exact Or.inl hi
 | c :: cs,j + 1,a,h,hi=>by
  simp only [idsL,List.mem_append]
  exact Or.inr (idsL_get (cs:=cs) (j:=j) (by simpa using h) hi)
theorem MapRel_mask {ι ι':Ix} {S:Sb} {w:World}:∀ {es:List (Nat × Value × A)} {ms:List MapEntry},(∀ i ∈ idsE es,∀ v,ι' i v=ι i v)→MapRel ι S w es ms→MapRel ι' S w es ms
 | [],ms,_,h=>h
 | e :: es,ms,hi,h=>by
  obtain ⟨m,ms',h1,h2,h3,h4,h5⟩:=h
  exact ⟨m,ms',h1,h2,h3,VA_mask _ _ (fun i h'=>hi i (List.mem_append_left _ h')) h4,MapRel_mask (fun i h'=>hi i (List.mem_append_right _ h')) h5⟩
theorem upto_same {ι ι':Ix} {k:Nat} {i:Id} (h:∀ v,ι' i v=ι i v) (v:Nat):upto k ι' i v=upto k ι i v:=by
 unfold upto
 split
 ·exact h v
 ·rfl
theorem ORel.mask {ι ι':Ix} {S:Sb} {base:Nat} {w:World} {id:Id} {o:O} (h:ORel ι S base w id o) (hi:∀ v,ι' id v=ι id v) (hc:∀ j ∈ idsO o,∀ v,ι' j v=ι j v):ORel ι' S base w id o:=by
 cases o with
 | no v=>trivial
 | box v cs =>
  obtain ⟨L,h1,h2,h3,h4,h5,h6⟩:=h
  refine ⟨L,by rw [hi]; exact h1,h2,h3,h4,h5,fun j a hj=>?_⟩
  obtain ⟨u,k1,k2,k3⟩:=h6 j a hj
  exact ⟨u,k1,k2,VA_mask _ _ (fun i h'=>upto_same (hc i (idsL_get hj h'))) k3⟩
 | vec v n xs fz =>
  rcases h with ⟨h1,h2⟩ | ⟨L,h1,h2⟩
  ·exact Or.inl ⟨h1,by rw [hi]; exact h2⟩
  ·exact Or.inr ⟨L,by rw [hi]; exact h1,h2⟩
 | map v es c =>
  obtain ⟨L,h1,h2,h3,h4,ens,h5,h6,h7⟩:=h
  exact ⟨L,by rw [hi]; exact h1,h2,h3,h4,ens,h5,MapRel_mask (fun i h'=>upto_same (hc i h')) h6,h7⟩
 | sit v s p =>
  obtain ⟨L,h1,h2⟩:=h
  exact ⟨L,by rw [hi]; exact h1,h2⟩
 | mit v mm a b c =>
  obtain ⟨L,h1,h3,h4,h5,mb,h6,h7⟩:=h
  refine ⟨L,by rw [hi]; exact h1,h3,h4,h5,mb,h6,?_⟩
  cases mm with
  | none=>exact h7
  | some p =>
   obtain ⟨Lm,g1,g2⟩:=h7
   exact ⟨Lm,by rw [upto_same (hc p.1 (by simp [idsO]))]; exact g1,g2⟩
theorem RelH.masked {E:Env} {ι:Ix} {S:Sb} {h:Id→O} {w:World} (hr:RelH E ι S h w) {F Rs:List Id} {az:List A} {vs:List Value} (hFR:∀ i ∈ F,i ∈ Rs) (hlF:∀ i ∈ idsL az,i ∈ F) (hcl:closedIn h F=true) {d:Nat} (hd:d=E.d + 1) (hv:VL ι S w az vs) :
  RelH (maskEnv E S d ι h F Rs w) (maskIx ι Rs) S (canE h F Rs) w∧VL (maskIx ι Rs) S w az vs:=by
 have hin:∀ i,i ∈ Rs→∀ v,maskIx ι Rs i v=ι i v:=fun i hi v=>if_pos (by simpa using hi)
 have hno:∀ i,i ∉ Rs→∀ v,maskIx ι Rs i v=none:=fun i hi v=>if_neg (by simpa using hi)
 have cF:∀ i,i ∈ F→canE h F Rs i=h i:=fun i hi=>if_pos (by simpa using hi)
 have cR:∀ i,i ∉ F→i ∈ Rs→canE h F Rs i = .no (h i).ver:=fun i h1 h2=>by
  show (if F.contains i then _ else if Rs.contains i then _ else _)=_
  rw [if_neg (by simpa using h1),if_pos (by simpa using h2)]
 have cN:∀ i,i ∉ Rs→canE h F Rs i = .no 0:=fun i h1=>by
  show (if F.contains i then _ else if Rs.contains i then _ else _)=_
  rw [if_neg (by simp; exact fun h=>h1 (hFR i h)),if_neg (by simpa using h1)]
 have live:∀ i L,(canE h F Rs i).live=true→maskIx ι Rs i (canE h F Rs i).ver=some L→i ∈ F∧(h i).live=true∧ι i (h i).ver=some L:=fun i L h1 h2=>by
  by_cases hi:i ∈ F
  ·rw [cF i hi] at h1 h2
   rw [hin i (hFR i hi)] at h2
   exact ⟨hi,h1,h2⟩
  ·by_cases hR:i ∈ Rs
   ·rw [cR i hi hR] at h1; cases h1
   ·rw [cN i hR] at h1; cases h1
 refine ⟨⟨hr.below,hr.size,fun i=>?_,fun i i' L L' hne hl hl' h1 h2=>?_,fun i ver hlt=>?_,fun _ _ hs=>hs,fun _ _ hs=>Or.inl hs,hr.inw,fun _ _ _ _ h=>h,fun i v hi=>?_,fun _ _ _=>rfl,fun b hp=>?_,fun i=>?_,fun i _=>⟨Nat.le_refl _,fun _ _=>rfl⟩⟩,VL_mask az vs (fun i hi v=>hin i (hFR i (hlF i hi)) v) hv⟩
 ·by_cases hi:i ∈ F
  ·rw [cF i hi]
   refine (hr.objs i).mask (hin i (hFR i hi)) fun j hj v=>hin j (hFR j ?_) v
   have h1:=List.all_eq_true.1 hcl i hi
   have h2:=List.all_eq_true.1 h1 j hj
   simpa using h2
  ·by_cases hR:i ∈ Rs
   ·rw [cR i hi hR]; trivial
   ·rw [cN i hR]; trivial
 ·obtain ⟨_,a1,a2⟩:=live i L hl h1
  obtain ⟨_,b1,b2⟩:=live i' L' hl' h2
  exact hr.apart i i' L L' hne a1 b1 a2 b2
 ·by_cases hR:i ∈ Rs
  ·rw [hin i hR]
   refine hr.vers i ver ?_
   by_cases hi:i ∈ F
   ·rw [cF i hi] at hlt; exact hlt
   ·rw [cR i hi hR] at hlt; exact hlt
  ·exact hno i hR ver
 ·by_cases hR:i ∈ Rs
  ·rw [hin i hR]; exact hr.deep i v (by have:d < i.1:=hi; omega)
  ·exact hno i hR v
 ·rcases hp with hp | ⟨i,L,q1,q2,q3,rfl⟩
  ·obtain ⟨p1,p2,p3,p4⟩:=hr.prot b hp
   refine ⟨p1,rfl,fun _ hs=>hs,fun j L hl hL=>?_⟩
   obtain ⟨_,a1,a2⟩:=live j L hl hL
   exact p4 j L a1 a2
  ·refine ⟨((hr.objs i).lt q2 q3).2,rfl,fun _ hs=>hs,fun j L' hl hL=>?_⟩
   obtain ⟨a0,a1,a2⟩:=live j L' hl hL
   refine hr.apart j i L' L (fun e=>?_) a1 q2 a2 q3
   subst e
   have:j ∉ F:=by simpa using q1
   exact this a0
 ·by_cases hR:i ∈ Rs
  ·rw [hin i hR]; exact hr.z i
  ·exact hno i hR 0
theorem RelH.unmask {E:Env} {ι:Ix} {S:Sb} {h:Id→O} {w:World} (hr:RelH E ι S h w) {d:Nat} {F Rs:List Id} (hFR:∀ i ∈ F,i ∈ Rs) {h':Id→O} {ι9:Ix} {S':Sb} {w':World} {r:R} {v:Value} (hd:d=E.d + 1) (hnn:∀ i v,d ≤ i.1→ι9 i v=none) (mm:Mono (maskIx ι Rs) S w ι9 S' w') (hfr:∀ i,i ∉ Rs→h' i = .no 0)
  (rr:RelH (maskEnv E S d ι h F Rs w) ι9 S' h' w') (hrep:RepR E.base (maskEnv E S d ι h F Rs w).prot ι9 S' h' w' r v) :
  ∃ ιf,Mono ι S w ιf S' w' ∧ RelH E ιf S' (unmaskH h h' F Rs) w' ∧ RepR E.base E.prot ιf S' (unmaskH h h' F Rs) w' r v:=by
 have n9:∀ i,i ∉ Rs→∀ v,ι9 i v=none:=fun i hi v=>by
  cases v with
  | zero=>exact rr.z i
  | succ v=>exact rr.vers i (v + 1) (by rw [hfr i hi]; exact Nat.succ_pos v)
 let ιf:Ix:=fun i v=>if Rs.contains i then ι9 i v else ι i v
 have fin:∀ i,i ∈ Rs→∀ v,ιf i v=ι9 i v:=fun i hi v=>if_pos (by simpa using hi)
 have fno:∀ i,i ∉ Rs→∀ v,ιf i v=ι i v:=fun i hi v=>if_neg (by simpa using hi)
 have uno:∀ i,i ∉ Rs→unmaskH h h' F Rs i=h i:=fun i hi=>by
  unfold unmaskH
  rw [if_neg (by simp; exact fun h=>hi (hFR i h)),if_neg (by simpa using hi)]
 have ix1:∀ i v L,ι i v=some L→ιf i v=some L:=fun i v L hL=>by
  by_cases hi:i ∈ Rs
  ·rw [fin i hi]
   refine mm.ix i v L ?_
   show (if Rs.contains i then _ else _)=_
   rw [if_pos (by simpa using hi)]; exact hL
  ·rw [fno i hi]; exact hL
 have m1:Mono ι S w ιf S' w':=⟨ix1,mm.sb,mm.cell⟩
 have ix9:∀ i v L,ι9 i v=some L→ιf i v=some L:=fun i v L hL=>by
  by_cases hi:i ∈ Rs
  ·rw [fin i hi]; exact hL
  ·rw [n9 i hi] at hL; cases hL
 have m9:Mono ι9 S' w' ιf S' w':=⟨ix9,fun _ _ hs=>hs,fun _ _ _=>rfl⟩
 have canR:∀ i,i ∈ Rs→(canE h F Rs i).ver=(h i).ver:=fun i hi=>by
  unfold canE
  split
  ·rfl
  ·rw [if_pos (by simpa using hi)]; rfl
 have hdeep:∀ i,i ∈ Rs→d ≤ i.1→∀ v,ι i v=none:=fun i _ hi v=>hr.deep i v (by omega)
 have same:∀ i,i ∈ Rs→∀ v,v ≤ (h i).ver→ι9 i v=ι i v:=fun i hi v hv=>by
  by_cases hlt:i.1 < d
  ·have:=(rr.low i hlt).2 v (by show v ≤ (canE h F Rs i).ver; rw [canR i hi]; exact hv)
   rw [this]
   show (if Rs.contains i then _ else _)=_
   rw [if_pos (by simpa using hi)]
  ·rw [hnn i v (by omega),hdeep i hi (by omega) v]
 have verle:∀ i,i ∈ Rs→i.1 < d→(h i).ver ≤ (h' i).ver:=fun i hi hlt=>by
  have:=(rr.low i hlt).1
  rw [← canR i hi]; exact this
 have pm:∀ i L,i ∉ F→(h i).live=true→ι i (h i).ver=some L→(maskEnv E S d ι h F Rs w).prot L.b:=fun i L hi hl hL=>Or.inr ⟨i,L,by simpa using hi,hl,hL,rfl⟩
 have two:∀ i,(unmaskH h h' F Rs i=h' i∧i ∈ Rs) ∨ (unmaskH h h' F Rs i=h i∧i ∉ F ∧ ∀ v,v ≤ (h i).ver→ιf i v=ι i v)∧(i ∉ Rs ∨ (i ∈ Rs∧(h' i).ver=(h i).ver)):=fun i=>by
  by_cases hF:i ∈ F
  ·left
   unfold unmaskH
   rw [if_pos (by simpa using hF)]
   exact ⟨rfl,hFR i hF⟩
  ·by_cases hR:i ∈ Rs
   ·unfold unmaskH
    rw [if_neg (by simpa using hF),if_pos (by simpa using hR)]
    split
    ·rename_i hc
     rw [Bool.and_eq_true] at hc
     exact Or.inr ⟨⟨rfl,hF,fun v hv=>by rw [fin i hR]; exact same i hR v hv⟩,Or.inr ⟨hR,eq_of_beq hc.2⟩⟩
    ·exact Or.inl ⟨rfl,hR⟩
   ·exact Or.inr ⟨⟨uno i hR,hF,fun v _=>fno i hR v⟩,Or.inl hR⟩
 have hlive:∀ i L,(unmaskH h h' F Rs i).live=true→ιf i (unmaskH h h' F Rs i).ver=some L→(i ∈ Rs∧(h' i).live=true∧ι9 i (h' i).ver=some L) ∨ (i ∉ F∧(h i).live=true∧ι i (h i).ver=some L):=fun i L h1 h2=>by
  rcases two i with ⟨e,hi⟩ | ⟨⟨e,hi,hs⟩,_⟩
  ·rw [e] at h1 h2; rw [fin i hi] at h2; exact Or.inl ⟨hi,h1,h2⟩
  ·rw [e] at h1 h2; rw [hs _ (Nat.le_refl _)] at h2; exact Or.inr ⟨hi,h1,h2⟩
 have r2:RelH E ιf S' (unmaskH h h' F Rs) w':=by
  refine ⟨rr.below,rr.size,fun i=>?_,fun i i' L L' hne hl hl' h1 h2=>?_,fun i ver hlt=>?_,fun b o hs=>rr.sub b o (hr.sub b o hs),fun b o hs=>(rr.new b o hs).elim (hr.new b o) Or.inr,rr.inw,fun i v L hi hL=>m1.ix _ _ _ (hr.old i v L hi hL),fun i v hi=>?_,fun b o hs=>(rr.hold b o (hr.sub b o hs)).trans (hr.hold b o hs),fun b hp=>?_,fun i=>?_,fun i hi=>?_⟩
  ·rcases two i with ⟨e,hi⟩ | ⟨⟨e,hi,hs⟩,_⟩
   ·rw [e]
    exact (rr.objs i).keep m9 (fin i hi _) (Nat.le_refl _) fun _ _ _=>⟨fun _ hs=>hs,rfl⟩
   ·rw [e]
    refine (hr.objs i).keep2 m1 (hs _ (Nat.le_refl _)) fun hl L hL=>?_
    obtain ⟨p1,p2,p3,_⟩:=rr.prot L.b (pm i L hi hl hL)
    exact ⟨p3,p2,p1⟩
  ·rcases hlive i L hl h1 with ⟨a0,a1,a2⟩ | ⟨a0,a1,a2⟩ <;> rcases hlive i' L' hl' h2 with ⟨b0,b1,b2⟩ | ⟨b0,b1,b2⟩
   ·exact rr.apart i i' L L' hne a1 b1 a2 b2
   ·exact (rr.prot L'.b (pm i' L' b0 b1 b2)).2.2.2 i L a1 a2
   ·exact fun e=>(rr.prot L.b (pm i L a0 a1 a2)).2.2.2 i' L' b1 b2 e.symm
   ·exact hr.apart i i' L L' hne a1 b1 a2 b2
  ·rcases two i with ⟨e,hi⟩ | ⟨⟨e,hi,hs⟩,hR | ⟨hR,hv⟩⟩
   ·rw [fin i hi]; rw [e] at hlt; exact rr.vers i ver hlt
   ·rw [fno i hR]; rw [e] at hlt; exact hr.vers i ver hlt
   ·rw [fin i hR]; rw [e] at hlt; exact rr.vers i ver (by rw [hv]; exact hlt)
  ·by_cases h0:i ∈ Rs
   ·rw [fin i h0]; exact hnn i v (by omega)
   ·rw [fno i h0]; exact hr.deep i v hi
  ·obtain ⟨p1,p2,p3,p4⟩:=hr.prot b hp
   obtain ⟨q1,q2,q3,q4⟩:=rr.prot b (Or.inl hp)
   refine ⟨q1,q2.trans p2,fun o hs=>p3 o (q3 o hs),fun i L hl hL=>?_⟩
   rcases hlive i L hl hL with ⟨_,a1,a2⟩ | ⟨_,a1,a2⟩
   ·exact q4 i L a1 a2
   ·exact p4 i L a1 a2
  ·by_cases hi:i ∈ Rs
   ·rw [fin i hi]; exact rr.z i
   ·rw [fno i hi]; exact hr.z i
  ·obtain ⟨l1,l2⟩:=hr.low i hi
   rcases two i with ⟨e,hR⟩ | ⟨⟨e,_,hs⟩,_⟩
   ·refine ⟨by rw [e]; exact Nat.le_trans l1 (verle i hR (by omega)),fun v hv=>?_⟩
    rw [fin i hR,same i hR v (by omega)]
    exact l2 v hv
   ·refine ⟨by rw [e]; exact l1,fun v hv=>?_⟩
    rw [hs v (by omega)]
    exact l2 v hv
 refine ⟨ιf,m1,r2,?_⟩
 have hap:∀ b,(∀ i Li,(h' i).live=true→ι9 i (h' i).ver=some Li→Li.b ≠ b)→(∀ c,(maskEnv E S d ι h F Rs w).prot c→b ≠ c)→∀ i Li,(unmaskH h h' F Rs i).live=true→ιf i (unmaskH h h' F Rs i).ver=some Li→Li.b ≠ b:=fun b h1 h2 i Li hl hL=>by
  rcases hlive i Li hl hL with ⟨_,a1,a2⟩ | ⟨a0,a1,a2⟩
  ·exact h1 i Li a1 a2
  ·exact fun e=>h2 _ (pm i Li a0 a1 a2) e.symm
 have hfresh:∀ n xs v,FreshRep E.base (maskEnv E S d ι h F Rs w).prot ι9 S' h' w' n xs v→FreshRep E.base E.prot ιf S' (unmaskH h h' F Rs) w' n xs v:=fun n xs v hrep=>by
  obtain ⟨ad,cap,h0,hlc,hrep⟩:=hrep
  refine ⟨ad,cap,h0,hlc,?_⟩
  rcases hrep with hrep | ⟨L,g0,g1,g2,g3,g4,g5,g6,g7,g8,g9,gp⟩
  ·exact Or.inl hrep
  ·exact Or.inr ⟨L,g0,g1,g2,g3,g4,g5,g6,g7,g8,hap _ g9 gp,fun b hb=>gp b (Or.inl hb)⟩
 cases r with
 | val x=>exact hrep
 | tup xs =>
  obtain ⟨us,rfl,h3⟩:=hrep
  exact ⟨us,rfl,VL_mono m9 _ _ h3⟩
 | ref x=>exact VA_mono m9 x v hrep
 | fresh n xs=>exact hfresh n xs v hrep
 | freshT n xs rest =>
  obtain ⟨u,us,us',h0,he,hf,hv'⟩:=hrep
  exact ⟨u,us,us',h0,he,hfresh n xs u hf,VL_mono m9 _ _ hv'⟩
 | mapf es clock =>
  obtain ⟨b,h0,g1,g2,g3,⟨ens,g4,g5,g6⟩,g7,gp⟩:=hrep
  exact ⟨b,h0,g1,g2,g3,⟨ens,g4,MapRel_mono m9 g5,g6⟩,hap _ g7 gp,fun c hc=>gp c (Or.inl hc)⟩
theorem call_wp {P:Program} {I:World→Prop} {X:Orc} (hX:Sound P I X) {E:Env} (hE:EnvOk I E) {ι:Ix} {S:Sb} {w:World} {st:St} {a:Act} {o:Oper} {e:Eff} (ht:RelT E ι S w st a) (hr:RelH E ι S st.h w) (hd:dstOk st.n o.dst=true) {f:FuncId} {az:List A} {vs:Array Value} (henter:Enters P f→(execOp a.eval o).run P w = .ok (.enter f vs) w) (hvs:VL ι S w az vs.toList) {id:Id} (hid:id.1=E.d)
  (he:callE X st.d st.h id f az=some e) {K:Act→World→Prop} {Q:Exit→Act→World→Prop}
  (hK:∀ ι' S' w' a',RelT E ι' S' w' (st.put o.dst e) a'→RelH E ι' S' (st.put o.dst e).h w'→K a' w'):o.wp P a w K Q:=by
 unfold callE at he
 split at he
 ·cases he
 ·rename_i as2 ids hfz
  have hI:I w:=hX.keep _ _ hE.inv (by have:=hr.below; rw [hE.base] at this; exact this)
  obtain ⟨S1,m1,r1,f1,f2⟩:=RelH.freezeL (h0:=st.h) ids (fun _=>Or.inl rfl) hr
  have hvals:=argAs_ok hr m1 hvs hfz f1
  split at he
  ·rename_i hpl
   split at he
   ·rename_i r h'0 heq
    simp only [Option.some.injEq] at he
    subst he
    have hret:=hX.orc f _ _ as2 r _ heq
    unfold Oper.wp
    rw [henter hret.enters]
    have hE2:EnvOk I ⟨w.heap.size,w,S1,0,noIx,w,fun _=>False,fun _=>0⟩:=⟨rfl,hI⟩
    have hr2:RelH ⟨w.heap.size,w,S1,0,noIx,w,fun _=>False,fun _=>0⟩ noIx S1 (fun _=>.no 0) w :=
     ⟨Below.refl _ _,Nat.le_refl _,fun id=>trivial,fun id id' L L' _ hl=>(by cases hl),fun _ _ _=>rfl,fun _ _ h=>h,fun _ _ h=>Or.inl h,r1.inw,fun _ _ _ _ h=>h,fun _ _ _=>rfl,fun _ _ _=>rfl,fun _ h=>h.elim,fun _=>rfl,fun i hi=>absurd hi (Nat.not_lt_zero _)⟩
    refine (hret.calls _ noIx S1 w vs hE2 rfl rfl rfl rfl (fun _ _ _=>rfl) hr2 (plain_VL hpl hvals)).mono ?_
    rintro ev w' ⟨v,ι9,S',rfl,mm,hnn,rr,hrep⟩
    obtain rfl:ι9=noIx:=by funext i v; exact hnn i v (Nat.zero_le _)
    have hb:Below w.heap.size w w':=rr.below
    obtain ⟨m2,r2⟩:=r1.grow hb mm.sb (fun b o hs=>⟨rr.new b o hs,rr.inw b o hs⟩)
    have hrep':RepR E.base E.prot ι S' (upds st.h (frz st.h ids)) w' r v:=by
     have hap:∀ b,w.heap.size ≤ b→∀ i Li,(upds st.h (frz st.h ids) i).live=true→ι i (upds st.h (frz st.h ids) i).ver=some Li→Li.b ≠ b:=fun b hb i Li hl hL=>by
      have:=((r1.objs i).lt hl hL).2
      omega
     have hpr:∀ b,w.heap.size ≤ b→∀ c,E.prot c→b ≠ c:=fun b hb c hp e=>by
      have:=(hr.prot c hp).1
      omega
     have hfresh:∀ n xs v,FreshRep w.heap.size (fun _=>False) noIx S' h'0 w' n xs v→FreshRep E.base E.prot ι S' (upds st.h (frz st.h ids)) w' n xs v:=fun n xs v hrep=>by
      obtain ⟨ad,cap,h0,hlc,hrep⟩:=hrep
      refine ⟨ad,cap,h0,hlc,?_⟩
      rcases hrep with hrep | ⟨L,g0,g1,g2,g3,g4,g5,g6,g7,g8,g9,_⟩
      ·exact Or.inl hrep
      ·exact Or.inr ⟨L,g0,g1,Nat.le_trans hr.size g2,g3,g4,g5,g6,g7,g8,hap _ g2,hpr _ g2⟩
     cases r with
     | val x=>exact hrep
     | tup xs =>
      obtain ⟨us,rfl,h3⟩:=hrep
      exact ⟨us,rfl,VL_mono (noIx_less _ _ _) _ _ h3⟩
     | ref x=>exact VA_mono (noIx_less _ _ _) x v hrep
     | fresh n xs=>exact hfresh n xs v hrep
     | freshT n xs rest =>
      obtain ⟨u,us,us',h0,he,hf,hv'⟩:=hrep
      exact ⟨u,us,us',h0,he,hfresh n xs u hf,VL_mono (noIx_less _ _ _) _ _ hv'⟩
     | mapf es clock =>
      obtain ⟨b,h0,g1,g2,g3,⟨ens,g4,g5,g6⟩,g7,_⟩:=hrep
      exact ⟨b,h0,Nat.le_trans hr.size g1,g2,g3,⟨ens,g4,MapRel_mono (noIx_less _ _ _) g5,g6⟩,hap _ g1,hpr _ g1⟩
    obtain ⟨ι3,m3,v3,r3⟩:=back_ok r2 hid hrep'
    have hver:=ver_of_freeze (f2 id)
    rw [hver] at v3 r3
    exact hK ι3 S' w' _ (RelT_put ht ((m1.trans m2).trans m3) hd v3) (by show RelH E ι3 S' (upds st.h (_ ++ _)) w'; rw [upds_append]; exact r3)
   ·cases he
  ·split at he
   ·rename_i hcl
    split at he
    ·rename_i r h' heq
     simp only [Option.some.injEq] at he
     subst he
     have hret:=hX.orc f _ _ as2 r _ heq
     unfold Oper.wp
     rw [henter hret.enters]
     have hdd:=ht.depth
     generalize hF:refIds (upds st.h (frz st.h ids)) 3 (idsL as2)=F at *
     generalize hR:reachIds (upds st.h (frz st.h ids)) 3 (idsL as2)=Rs at *
     generalize hh1:upds st.h (frz st.h ids)=h1 at *
     have hFR:∀ i ∈ F,i ∈ Rs:=by rw [← hF,← hR]; exact refIds_sub h1 3 (idsL as2)
     have hlF:∀ i ∈ idsL as2,i ∈ F:=fun i hi=>by rw [← hF]; exact mem_refs h1 3 hi
     have hcan:reachIds (canE h1 F Rs) 3 (idsL as2)=Rs:=by
      rw [← hR]
      refine reach_same 3 (fun i hi=>?_)
      rw [hF] at hi
      show (if F.contains i then _ else _)=_
      rw [if_pos (by simpa using hi)]
     obtain ⟨hr2,hvals2⟩:=r1.masked hFR hlF hcl (d:=st.d + 1) (by omega) hvals
     refine (hret.calls (maskEnv E S1 (st.d + 1) ι h1 F Rs w) (maskIx ι Rs) S1 w vs ⟨hE.base,hE.inv⟩ rfl rfl rfl rfl (fun i v hi=>?_) hr2 hvals2).mono ?_
     ·show (if Rs.contains i then ι i v else none)=none
      split
      ·exact r1.deep i v (by omega)
      ·rfl
     rintro ev w' ⟨v,ι9,S',rfl,mm,hnn,rr,hrep⟩
     have hfr:∀ i,i ∉ Rs→h' i = .no 0:=fun i hi=>by
      rw [hX.frame _ _ _ _ _ _ heq i (by rw [hcan]; exact hi)]
      show (if F.contains i then _ else _)=_
      rw [if_neg (by simp; exact fun h=>hi (hFR i h)),if_neg (by simpa using hi)]
     obtain ⟨ιf,mf,r2,hrep2⟩:=RelH.unmask r1 hFR (by omega) (fun i v hi=>hnn i v (by omega)) mm hfr rr hrep
     obtain ⟨ι3,m3,v3,r3⟩:=back_ok r2 hid hrep2
     have hst:upds h1 (graphOf (unmaskH h1 h' F Rs) Rs)=unmaskH h1 h' F Rs:=by
      funext i
      rw [upds_graph]
      by_cases hi:i ∈ Rs
      ·rw [if_pos hi]
      ·rw [if_neg hi]
       unfold unmaskH
       rw [if_neg (by simp; exact fun h=>hi (hFR i h)),if_neg (by simpa using hi)]
     have hver:(unmaskH h1 h' F Rs id).ver=verG st.h (unmaskH h1 h' F Rs) Rs id:=by
      unfold verG
      split
      ·rfl
      ·rename_i hi
       have hi:id ∉ Rs:=by simpa using hi
       unfold unmaskH
       rw [if_neg (by simp; exact fun h=>hi (hFR id h)),if_neg (by simpa using hi)]
       exact ver_of_freeze (f2 id)
     rw [hver] at v3 r3
     exact hK ι3 S' w' _ (RelT_put ht ((m1.trans mf).trans m3) hd v3) (by show RelH E ι3 S' (upds st.h (_ ++ _ ++ _)) w'; rw [upds_append,upds_append,hh1,hst]; exact r3)
    ·cases he
   ·cases he
end
end Go.Proofs.YtenoggjjhamdaaaGreatDoor
