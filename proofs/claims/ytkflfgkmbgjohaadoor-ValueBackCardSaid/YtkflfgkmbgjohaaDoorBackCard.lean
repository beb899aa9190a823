/-
  WHAT IS PROVED HERE: ValueBack: for every input the law returns true, and its arguments read as they did. No condition.
-/
import Derived.Test.YtkflfgkmbgjohaaDoorVm02
import Derived.Test.YtkflfgkmbgjohaaDoorOpen02
import Derived.Test.YtkflfgkmbgjohaaDoorCards
import Derived.Test.YtkflfgkmbgjohaaDoorTie
import Derived.Test.YtkflfgkmbgjohaaDoorLift02
set_option linter.unusedVariables false
set_option linter.unusedSimpArgs false
namespace Go.Proofs.YtkflfgkmbgjohaaDoor.valueBack
open Go.ChangeShapes Go.WideShapes Go.ChangeAt Go.RowKit
open Go.ChangeMaps (open_string shut_string)

set_option maxRecDepth 100000 in
/-- For every argument and every world. -/
theorem contract (H : Type) (enc : TypeId × Value → H) (W : World) (base : Nat) (args : Array Value) (ds gs : List (DataW H)) (before : List MemPlace)
    (hval : ∀ (j : Nat) t v, Tryd.f7.params[j]? = some t → args[j]? = some v → Value.okWide Tryd.prog W .any base t v)
    (hW : DataW.Whole enc Tryd.prog Tryd.f7.params.toList Rows.valueBackSpec.vars false W args.toList ds gs before)
    (hsz : (DataW.weightsEach Tryd.prog (Tryd.f7.params.toList ++ (OpenSpec.ofChange Rows.valueBackSpec).bare.plain.varTypes Tryd.prog) (ds ++ gs)).all (· ≤ reachBytes) = true)
    (hw2 : W2 W) : Calls Tryd.prog 7 args W fun e W' => ∃ v, e = .returned v ∧ Rows.valueBackSpec.post enc Tryd.prog Tryd.f7 false true false false W args v W' := by
  have hW' := hW
  obtain ⟨p, q, hA, hV, rfl, hfz, hnd⟩ := hW
  rw [Tryd.params7] at hA hval
  obtain ⟨v0, vs0, d0, ds0, p0, q0, hargs, rfl, rfl, h0, r0⟩ := trodAll_cons hA
  obtain ⟨v1, vs1, d1, ds1, p1, q1, rfl, rfl, rfl, h1, r1⟩ := trodAll_cons r0
  obtain ⟨v2, vs2, d2, ds2, p2, q2, rfl, rfl, rfl, h2, r2⟩ := trodAll_cons r1
  obtain ⟨rfl, rfl, rfl⟩ := trodAll_nil r2
  obtain rfl : args = #[v0, v1, v2] := by cases args; simp_all
  obtain ⟨rfl, rfl⟩ := trodVars_none hV
  obtain ⟨x0, hs0⟩ := opVal.arg h0 (reach_arg (j := 0) hsz rfl rfl)
  obtain ⟨l0, hv0, hs0⟩ : ∃ l, v0 = .agg l.toArray ∧ valOk W x0 l := by
    obtain ⟨cs, rfl, hsz'⟩ := okWide_struct Tryd.underlying23 (hval 0 23 v0 rfl rfl)
    exact ⟨cs.toList, by simp, by simpa [Value.cells] using hs0⟩
  subst hv0
  obtain ⟨x1, hs1⟩ := opVal.arg h1 (reach_arg (j := 1) hsz rfl rfl)
  obtain ⟨l1, hv1, hs1⟩ : ∃ l, v1 = .agg l.toArray ∧ valOk W x1 l := by
    obtain ⟨cs, rfl, hsz'⟩ := okWide_struct Tryd.underlying23 (hval 1 23 v1 rfl rfl)
    exact ⟨cs.toList, by simp, by simpa [Value.cells] using hs1⟩
  subst hv1
  obtain ⟨xs2, w2, hc2, hs2, _⟩ := opBytes.arg h2 (reach_arg (j := 2) hsz rfl rfl)
  obtain ⟨a2, m2, c2, rfl⟩ := okWide_slice Tryd.underlying32 (hval 2 32 v2 rfl rfl)
  obtain rfl : w2 = .slice a2 m2 c2 := (by simpa [Value.cells] using hc2 : .slice a2 m2 c2 = w2).symm
  obtain ⟨b2, hb2⟩ := valD_bytes hs2
  refine (ret_true (evr_ret ext2_ok (Back_ev x0.kind x0.n x0.s x1.kind x1.n x1.s b2 )) hw2 (valDs_cons (valD_val hs0) (valDs_cons (valD_val hs1) (valDs_cons (hb2) (valDs_nil _ _))))).mono fun e W' ⟨he, hg⟩ => ?_
  subst he
  refine post_law laidOut Tryd.underlying4 rfl (by kernel_rfl) hW' ?_ ⟨rfl, rfl, rfl⟩ hg
  rw [Tryd.params7]
  intro t ht
  simp only [List.mem_cons, List.not_mem_nil, or_false] at ht
  rcases ht with rfl | rfl | rfl
  all_goals exact ⟨by kernel_rfl, of_decide_eq_true (by kernel_rfl)⟩

set_option maxRecDepth 100000 in
theorem laid_met (os : Os) : laidMet Tryd.prog Rows.valueBackRow.laid ((laidWorld2 os).forCall (fun _ _ => 0) ⟨#[], #[.agg #[.int .i64 0, .int .i64 0, .string ByteArray.empty], .agg #[.int .i64 0, .int .i64 0, .string ByteArray.empty], .slice none 0 0], []⟩).memory :=
  laidMet_of_run' 8 (by kernel_rfl) (by kernel_rfl)
theorem reads (os : Os) {H : Type} (enc : TypeId × Value → H) : ∃ places, DataW.whole enc Tryd.prog ((laidWorld2 os).forCall (fun _ _ => 0) ⟨#[], #[.agg #[.int .i64 0, .int .i64 0, .string ByteArray.empty], .agg #[.int .i64 0, .int .i64 0, .string ByteArray.empty], .slice none 0 0], []⟩).memory Tryd.f7.params.toList Rows.valueBackSpec.vars false (#[.agg #[.int .i64 0, .int .i64 0, .string ByteArray.empty], .agg #[.int .i64 0, .int .i64 0, .string ByteArray.empty], .slice none 0 0] : Array Value).toList 8 = some ([.agg [.lit (.int .i64 0), .lit (.int .i64 0), .lit (.string [])], .agg [.lit (.int .i64 0), .lit (.int .i64 0), .lit (.string [])], .nil], [], places) :=
  ⟨[], by kernel_rfl⟩

set_option maxRecDepth 100000 in
theorem lifted (os : Os) (started : os.Started) (H : Type) (enc : TypeId × Value → H) (F : Stop.Interp) :
    ReturnsInHanded {} Tryd.checked os 7 .any ((OpenSpec.ofChange Rows.valueBackSpec).preRow enc Tryd.prog Tryd.f7 Rows.valueBackRow.domain false Rows.valueBackRow.laid) (((OpenSpec.ofChange Rows.valueBackSpec).at F).post enc Tryd.prog Tryd.f7 false true false false) := by
  obtain ⟨places, hx⟩ := reads os enc
  refine returnsInHanded_of_row (C := Tryd.checked) (s := OpenSpec.ofChange Rows.valueBackSpec) own started (by kernel_rfl) Tryd.func7
    (witness_row_at (enc := enc) (C := Tryd.checked) false (laidWorld2 os) #[.agg #[.int .i64 0, .int .i64 0, .string ByteArray.empty], .agg #[.int .i64 0, .int .i64 0, .string ByteArray.empty], .slice none 0 0] rfl (by kernel_rfl) (by kernel_rfl) (by kernel_rfl)
      (OpenSpec.preRow_of_cond 8 hx (by kernel_rfl) (fun k hk => by cases hk) (by kernel_rfl) (laid_met os))) ?_
  intro W base args ds gs before hval hW _ _ hsz hlaid hshape _
  exact contract H enc W base args ds gs before hval hW hsz (w2_of hlaid hshape)

theorem said : Rows.ValueBackSaid :=
  OpenClaim.holds_of_cond 7 Tryd.f7 rfl rfl rfl rfl rfl rfl rfl ⟨rfl, rfl, rfl, rfl, rfl⟩ rfl rfl rfl rfl rfl (by kernel_rfl) Tryd.func7 (by kernel_rfl)
    (of_decide_eq_true (by kernel_rfl)) (by unfold Func.isWrapper; first | (rw [if_pos (by decide +kernel)]; kernel_rfl) | (rw [if_neg (by decide +kernel)]; exact ⟨rfl, rfl⟩))
    (fun os started H enc _ F => by rw [OpenClaim.pre_eq_preRow]; exact lifted os started H enc F)

theorem plain (f : FuncId) (fn : Func) (hf : Tryd.pinned.checked.prog.funcNamed Rows.valueBackRow.func = some f) (hfn : Tryd.pinned.checked.prog.funcs[f]? = some fn) :
    true = Tryd.pinned.checked.prog.looks [] ∧ ∀ (j : Nat) t, fn.params[j]? = some t → Tryd.pinned.checked.prog.wantsStandIn t = false := by
  obtain rfl : f = 7 := Option.some.inj ((show Tryd.prog.funcNamed Rows.valueBackRow.func = some 7 by kernel_rfl).symm.trans hf) |>.symm
  obtain rfl : fn = Tryd.f7 := (Option.some.inj (Tryd.func7.symm.trans hfn)).symm
  refine ⟨by kernel_rfl, fun j t ht => ?_⟩
  rw [Tryd.params7] at ht
  have hm := Array.mem_of_getElem? ht
  simp only [List.mem_toArray, List.mem_cons, List.not_mem_nil, or_false] at hm
  rcases hm with rfl | rfl | rfl
  · exact (show Tryd.prog.wantsStandIn 23 = false by kernel_rfl)
  · exact (show Tryd.prog.wantsStandIn 23 = false by kernel_rfl)
  · exact (show Tryd.prog.wantsStandIn 32 = false by kernel_rfl)

theorem card : Rows.ValueBackCardSaid :=
  Claim7.holds_tied_plain_at .later [] _ _ _ _ said (fun _ h => by cases h) (by kernel_rfl) (fun _ h => by cases h) valueBack_row_tie rfl ⟨rfl, rfl⟩ (by kernel_rfl) rfl plain (by kernel_rfl)
end Go.Proofs.YtkflfgkmbgjohaaDoor.valueBack
