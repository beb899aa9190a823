/-
  WHAT IS PROVED HERE: the rules, handed to simp.
-/
import Derived.Test.YtkflfgkmbgjohaaDoorFacts
set_option linter.unusedVariables false
set_option linter.unusedSimpArgs false
namespace Go.Proofs.YtkflfgkmbgjohaaDoor
open Go Go.RowKit
theorem ver_no (v : Nat) : (O.no v).ver = v := rfl
theorem ver_box (v : Nat) (cs : List A) : (O.box v cs).ver = v := rfl
theorem ver_vec (v n : Nat) (xs : List D) (fz : Bool) : (O.vec v n xs fz).ver = v := rfl
theorem headOk_nil (sz : Nat) : headOk sz [] = true := rfl
theorem headOk_cons (sz : Nat) (x : D) (l : List D) : headOk sz (x :: l) = (x.cells.length == sz) := rfl
theorem headOk_one {α : Type} (f : α → Value) (l : List α) : headOk 1 (l.map fun x => .s (f x)) = true := by cases l <;> rfl
attribute [simp] ver_no ver_box ver_vec headOk_nil headOk_cons headOk_one Wk_nil Wu_nil Wk_blk Wu_blk Wu_ret Wu_code Wu_ops Wk_seq Wk_skip Wk_label Wk_exit Wk_ret Wk_block Wk_scp Wu_scp Wu_scpr Wk_scope Wk_cond Wk_region Wk_draw Wk_ops_nil Wk_tr_nil Wv_some Wt_some Wv_none Wv_ite Wt_none Wt_ite Wk_op Wk_opg Wk_tr Wk_trg upd_at upds dstOk wantedA opE St.put St.ev exactE_bin ex_add ex_sub ex_mul ex_eql ex_neq ex_lss ex_leq ex_gtr ex_geq exs_eql exs_neq exs_lss exs_leq exs_gtr exs_geq exs_add exactE_un un_not un_neg faddr loadE storeE takeVal A.cells D.cells A.mk A.allD A.one ofV ofCell A.bool? put Go.Value.oneCell' initSt resAs resA resR fzVal fzVals fzCell fzCells D.flat A.exact D.exacts callE frz exactE_len len_str exactE_conv conv_int conv_str exactE_idx fillA A.isAny plainE lenE intOfA
end Go.Proofs.YtkflfgkmbgjohaaDoor
