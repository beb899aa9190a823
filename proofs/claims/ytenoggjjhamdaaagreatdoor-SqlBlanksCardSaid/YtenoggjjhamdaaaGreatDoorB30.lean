/-
  WHAT IS PROVED HERE: parts of the proof: SbCard.
-/
import Derived.Test.YtenoggjjhamdaaaGreatDoorCards
import Derived.Test.YtenoggjjhamdaaaGreatDoorTie
import Derived.Test.YtenoggjjhamdaaaGreatDoorB23
import Derived.Test.YtenoggjjhamdaaaGreatDoorB24
set_option linter.all false
namespace Go.Proofs.YtenoggjjhamdaaaGreatDoor.sqlBlanks
open Go.ChangeShapes Go.WideShapes Go.ChangeAt Go.RowKit
open Go.ChangeMaps (open_string shut_string)
theorem valD_bool (S:Sb) (w:World) (b:Bool):ValD S w (.s (.bool b)) (.bool b):=by
 show CellsD S w (.s (.bool b)) [.bool b]
 unfold CellsD
 exact ⟨rfl,rfl⟩
set_option maxRecDepth 100000 in
theorem contract (H:Type) (enc:TypeId × Value→H) (W:World) (base:Nat) (args:Array Value) (ds gs:List (DataW H)) (before:List MemPlace)
  (hval:∀ (j:Nat) t v,Tryz.f4.params[j]? = some t→args[j]? = some v→Value.okWide Tryz.prog W .any base t v)
  (hW:DataW.Whole enc Tryz.prog Tryz.f4.params.toList Rows.sqlBlanksSpec.vars false W args.toList ds gs before)
  (hsz:(DataW.weightsEach Tryz.prog (Tryz.f4.params.toList ++ (OpenSpec.ofChange Rows.sqlBlanksSpec).bare.plain.varTypes Tryz.prog) (ds ++ gs)).all (· ≤ reachBytes)=true)
  (hw2:W2 W) (aw:ev26 5 0 E0 []=some (.val (.s (.bool true)),E0)):Calls Tryz.prog 4 args W fun e W'=>∃ v,e = .returned v∧Rows.sqlBlanksSpec.post enc Tryz.prog Tryz.f4 false true false false W args v W':=by
 have hW':=hW
 obtain ⟨p,q,hA,hV,rfl,hfz,hnd⟩:=hW
 rw [Tryz.params4] at hA hval
 obtain ⟨v0,vs0,d0,ds0,p0,q0,hargs,rfl,rfl,h0,r0⟩:=trodAll_cons hA
 obtain ⟨v1,vs1,d1,ds1,p1,q1,rfl,rfl,rfl,h1,r1⟩:=trodAll_cons r0
 obtain ⟨v2,vs2,d2,ds2,p2,q2,rfl,rfl,rfl,h2,r2⟩:=trodAll_cons r1
 obtain ⟨rfl,rfl,rfl⟩:=trodAll_nil r2
 obtain rfl:args = #[v0,v1,v2]:=by cases args; simp_all
 obtain ⟨rfl,rfl⟩:=trodVars_none hV
 obtain ⟨x0,hB0,hs0⟩:=opens_schema.arg h0 (reach_arg (j:=0) hsz rfl rfl)
 obtain ⟨cs0,rfl,_⟩:=okWide_struct Tryz.underlying24 (hval 0 24 v0 rfl rfl)
 rw [show (Value.cells (.agg cs0)).toList.toArray=cs0 by simp [Value.cells]] at hs0
 obtain ⟨s1,g1,z1⟩:=(opens_string Tryz.underlying9 (by kernel_rfl):Opens Tryz.prog 9 1 stringOk).arg h1 (reach_arg (j:=1) hsz rfl rfl)
 obtain ⟨r10,rfl,_⟩:=open_string Tryz.underlying9 (hval 1 9 v1 rfl rfl) h1
 obtain rfl:r10=s1:=by simpa [Value.cells] using g1
 obtain ⟨b2,rfl,_⟩:=open_bool Tryz.underlying4 (hval 2 4 v2 rfl rfl) h2
 obtain ⟨_,he,rfl⟩:=sqlblanks_at hB0 (t:=r10) (Nat.le_trans z1 (by decide)) b2 aw
 refine (ret_true (ds:=[_,_,_]) (evr_ret ext26_ok he) hw2 (valDs_cons (hs0) (valDs_cons (valD_str _ _ r10) (valDs_cons (valD_bool _ _ b2) (valDs_nil _ _))))).mono fun e W' ⟨he,hg⟩=>?_
 subst he
 refine post_law laidOut Tryz.underlying4 rfl (by kernel_rfl) hW' ?_ ⟨rfl,rfl,rfl⟩ hg
 rw [Tryz.params4]
 intro t ht
 simp only [List.mem_cons,List.not_mem_nil,or_false] at ht
 rcases ht with rfl | rfl | rfl
 all_goals exact ⟨by kernel_rfl,of_decide_eq_true (by kernel_rfl)⟩
set_option maxRecDepth 100000 in
theorem laid_met (os:Os):laidMet Tryz.prog Rows.sqlBlanksRow.laid ((laidWorld2 os).forCall (fun _ _=>0) ⟨#[],#[.agg #[.slice none 0 0],.string ByteArray.empty,.bool false],[]⟩).memory :=
 laidMet_of_run' 8 (by kernel_rfl) (by kernel_rfl)
theorem reads (os:Os) {H:Type} (enc:TypeId × Value→H):∃ places,DataW.whole enc Tryz.prog ((laidWorld2 os).forCall (fun _ _=>0) ⟨#[],#[.agg #[.slice none 0 0],.string ByteArray.empty,.bool false],[]⟩).memory Tryz.f4.params.toList Rows.sqlBlanksSpec.vars false (#[.agg #[.slice none 0 0],.string ByteArray.empty,.bool false]:Array Value).toList 8=some ([.agg [.nil],.lit (.string []),.lit (.bool false)],[],places) :=
 ⟨[],by kernel_rfl⟩
set_option maxRecDepth 100000 in
theorem lifted (aw:ev26 5 0 E0 []=some (.val (.s (.bool true)),E0)) (os:Os) (started:os.Started) (H:Type) (enc:TypeId × Value→H) (F:Stop.Interp) :
  ReturnsInHanded {} Tryz.checked os 4 .any ((OpenSpec.ofChange Rows.sqlBlanksSpec).preRow enc Tryz.prog Tryz.f4 Rows.sqlBlanksRow.domain false Rows.sqlBlanksRow.laid) (((OpenSpec.ofChange Rows.sqlBlanksSpec).at F).post enc Tryz.prog Tryz.f4 false true false false):=by
 obtain ⟨places,hx⟩:=reads os enc
 refine returnsInHanded_of_row (C:=Tryz.checked) (s:=OpenSpec.ofChange Rows.sqlBlanksSpec) own started (by kernel_rfl) Tryz.func4
  (witness_row_at (enc:=enc) (C:=Tryz.checked) false (laidWorld2 os) #[.agg #[.slice none 0 0],.string ByteArray.empty,.bool false] rfl (by kernel_rfl) (by kernel_rfl) (by kernel_rfl)
   (OpenSpec.preRow_of_cond 8 hx (by kernel_rfl) (fun k hk=>by cases hk) (by kernel_rfl) (laid_met os))) ?_
 intro W base args ds gs before hval hW _ _ hsz hlaid hshape _
 exact contract H enc W base args ds gs before hval hW hsz (w2_of hlaid hshape) aw
theorem said (aw:ev26 5 0 E0 []=some (.val (.s (.bool true)),E0)):Rows.SqlBlanksSaid :=
 OpenClaim.holds_of_cond 4 Tryz.f4 rfl rfl rfl rfl rfl rfl rfl ⟨rfl,rfl,rfl,rfl,rfl⟩ rfl rfl rfl rfl rfl (by kernel_rfl) Tryz.func4 (by kernel_rfl)
  (of_decide_eq_true (by kernel_rfl)) (by unfold Func.isWrapper; first | (rw [if_pos (by decide +kernel)]; kernel_rfl) | (rw [if_neg (by decide +kernel)]; exact ⟨rfl,rfl⟩))
  (fun os started H enc _ F=>by rw [OpenClaim.pre_eq_preRow]; exact lifted aw os started H enc F)
theorem plain (f:FuncId) (fn:Func) (hf:Tryz.pinned.checked.prog.funcNamed Rows.sqlBlanksRow.func=some f) (hfn:Tryz.pinned.checked.prog.funcs[f]? = some fn) :
  true=Tryz.pinned.checked.prog.looks [] ∧ ∀ (j:Nat) t,fn.params[j]? = some t→Tryz.pinned.checked.prog.wantsStandIn t=false:=by
 obtain rfl:f=4:=Option.some.inj ((show Tryz.prog.funcNamed Rows.sqlBlanksRow.func=some 4 by kernel_rfl).symm.trans hf) |>.symm
 obtain rfl:fn=Tryz.f4:=(Option.some.inj (Tryz.func4.symm.trans hfn)).symm
 refine ⟨by kernel_rfl,fun j t ht=>?_⟩
 rw [Tryz.params4] at ht
 have hm:=Array.mem_of_getElem? ht
 simp only [List.mem_toArray,List.mem_cons,List.not_mem_nil,or_false] at hm
 rcases hm with rfl | rfl | rfl
 ·exact (show Tryz.prog.wantsStandIn 24=false by kernel_rfl)
 ·exact (show Tryz.prog.wantsStandIn 9=false by kernel_rfl)
 ·exact (show Tryz.prog.wantsStandIn 4=false by kernel_rfl)
theorem card (aw:ev26 5 0 E0 []=some (.val (.s (.bool true)),E0)):Rows.SqlBlanksCardSaid :=
 Claim7.holds_tied_plain_at .later [] _ _ _ _ (said aw) (fun _ h=>by cases h) (by kernel_rfl) (fun _ h=>by cases h) sqlBlanks_row_tie rfl ⟨rfl,rfl⟩ (by kernel_rfl) rfl plain (by kernel_rfl)
end Go.Proofs.YtenoggjjhamdaaaGreatDoor.sqlBlanks
