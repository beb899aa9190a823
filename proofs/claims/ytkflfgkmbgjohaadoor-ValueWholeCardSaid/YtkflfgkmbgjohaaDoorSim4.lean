/-
  WHAT IS PROVED HERE: loops, and slices that a loop builds, as rules for the interpreter's run.
-/
import Derived.Test.YtkflfgkmbgjohaaDoorSim3
import Derived.Laws.Bits64
import Derived.Lib.EndianBits
set_option linter.unusedVariables false
set_option linter.unusedSimpArgs false
namespace Go.Proofs.YtkflfgkmbgjohaaDoor
open Go Go.RowKit

theorem exec_of_Wk {P : Program} {X : Orc} {N : Nat} {c : Code} {st : St} {Q : Ex → St → Prop} (h : Wk P X N [.code c] st Q) : ∃ x s, exec P X N c st = some (x, s) ∧ Q x s := by
  obtain ⟨x, s, h1, h2⟩ := h
  refine ⟨x, s, ?_, h2⟩
  unfold execK at h1
  cases he : exec P X N c st with
  | none => rw [he] at h1; cases h1
  | some p =>
    obtain ⟨y, s'⟩ := p
    rw [he] at h1
    cases y <;> simp only [execK, unwK] at h1 <;> exact h1
/-- What holds behind a round. -/
def Round (P : Program) (X : Orc) (N : Nat) (k : List Itm) (Q : Ex → St → Prop) (I : Nat → St → Prop) (m j : Nat) : Ex → St → Prop
  | .normal, s => j < m ∧ I (j + 1) s
  | x, s => Wu P X N x k s Q
theorem Round_normal (P : Program) (X : Orc) (N : Nat) (k : List Itm) (Q : Ex → St → Prop) (I : Nat → St → Prop) (m j : Nat) (s : St) : Round P X N k Q I m j .normal s = (j < m ∧ I (j + 1) s) := rfl
theorem Round_exit (P : Program) (X : Orc) (N : Nat) (k : List Itm) (Q : Ex → St → Prop) (I : Nat → St → Prop) (m j i : Nat) (s : St) : Round P X N k Q I m j (.exit i) s = Wu P X N (.exit i) k s Q := rfl
theorem Round_ret (P : Program) (X : Orc) (N : Nat) (k : List Itm) (Q : Ex → St → Prop) (I : Nat → St → Prop) (m j : Nat) (s : St) : Round P X N k Q I m j .ret s = Wu P X N .ret k s Q := rfl
theorem Wk_loop {P : Program} {X : Orc} {N : Nat} {k : List Itm} {c : Code} {st : St} {Q : Ex → St → Prop} (I : Nat → St → Prop) (m : Nat) (hm : m < N) (h0 : I 0 st) (round : ∀ j s, j ≤ m → I j s → Wk P X N [.code c] s (Round P X N k Q I m j)) : Wk P X N (.code (.loop c) :: k) st Q := by
  have key : ∀ fuel j s, m - j < fuel → j ≤ m → I j s → ∃ x s', iter (exec P X N c) fuel s = some (x, s') ∧ x ≠ .normal ∧ Wu P X N x k s' Q := by
    intro fuel
    induction fuel with
    | zero => intro j s h; omega
    | succ fuel ih =>
      intro j s hlt hj hI
      obtain ⟨x, s', he, hq⟩ := exec_of_Wk (round j s hj hI)
      unfold iter
      rw [he]
      cases x with
      | normal => exact ih (j + 1) s' (by have := hq.1; omega) hq.1 hq.2
      | exit i => exact ⟨_, _, rfl, by simp, hq⟩
      | goto l => exact ⟨_, _, rfl, by simp, hq⟩
      | ret => exact ⟨_, _, rfl, by simp, hq⟩
  obtain ⟨x, s', h1, h2, y, s2, h3, h4⟩ := key N 0 st (by omega) (by omega) h0
  refine ⟨y, s2, ?_, h4⟩
  rw [execK, exec, h1]
  cases x with
  | normal => exact absurd rfl h2
  | _ => exact h3
attribute [simp] Round_normal Round_exit Round_ret
theorem ex_quo (P : Program) (t : TypeId) (x y : Operand) (k : IntKind) (a b : Int) : exBin P .quo t x y (.d (.s (.int k a))) (.d (.s (.int k b))) = if b = 0 then none else some { v := .d (.s (.int k (k.wrap (a.tdiv b)))) } := by
  by_cases h : b = 0
  · subst h; cases k <;> rfl
  · rw [if_neg h]
    simp only [exBin, A.exact, eqGuard, binOp, Op.intDiv, if_neg h]
    cases k <;> rfl
theorem ex_rem (P : Program) (t : TypeId) (x y : Operand) (k : IntKind) (a b : Int) : exBin P .rem t x y (.d (.s (.int k a))) (.d (.s (.int k b))) = if b = 0 then none else some { v := .d (.s (.int k (a.tmod b))) } := by
  by_cases h : b = 0
  · subst h; cases k <;> rfl
  · rw [if_neg h]
    simp only [exBin, A.exact, eqGuard, binOp, Op.intDiv, if_neg h]
    cases k <;> rfl
theorem ex_and (P : Program) (t : TypeId) (x y : Operand) (k : IntKind) (a b : Int) : exBin P .and t x y (.d (.s (.int k a))) (.d (.s (.int k b))) = some { v := .d (.s (.int k (bits .and k a b))) } := by cases k <;> rfl
theorem ex_or (P : Program) (t : TypeId) (x y : Operand) (k : IntKind) (a b : Int) : exBin P .or t x y (.d (.s (.int k a))) (.d (.s (.int k b))) = some { v := .d (.s (.int k (bits .or k a b))) } := by cases k <;> rfl
theorem ex_xor (P : Program) (t : TypeId) (x y : Operand) (k : IntKind) (a b : Int) : exBin P .xor t x y (.d (.s (.int k a))) (.d (.s (.int k b))) = some { v := .d (.s (.int k (bits .xor k a b))) } := by cases k <;> rfl
theorem ex_andNot (P : Program) (t : TypeId) (x y : Operand) (k : IntKind) (a b : Int) : exBin P .andNot t x y (.d (.s (.int k a))) (.d (.s (.int k b))) = some { v := .d (.s (.int k (bits .andNot k a b))) } := by cases k <;> rfl
theorem ex_shl (P : Program) (t : TypeId) (x y : Operand) (k ky : IntKind) (a b : Int) : exBin P .shl t x y (.d (.s (.int k a))) (.d (.s (.int ky b))) = if b < 0 then none else some { v := .d (.s (.int k (k.wrap (a * 2 ^ (min b.toNat k.bits))))) } := by
  by_cases h : b < 0
  · rw [if_pos h]; simp only [exBin, A.exact, eqGuard, binOp, Op.shift, if_pos h]; cases k <;> rfl
  · rw [if_neg h]; simp only [exBin, A.exact, eqGuard, binOp, Op.shift, if_neg h]; cases k <;> rfl
theorem ex_shr (P : Program) (t : TypeId) (x y : Operand) (k ky : IntKind) (a b : Int) : exBin P .shr t x y (.d (.s (.int k a))) (.d (.s (.int ky b))) = if b < 0 then none else some { v := .d (.s (.int k (a.fdiv (2 ^ (min b.toNat k.bits))))) } := by
  by_cases h : b < 0
  · rw [if_pos h]; simp only [exBin, A.exact, eqGuard, binOp, Op.shift, if_pos h]; cases k <;> rfl
  · rw [if_neg h]; simp only [exBin, A.exact, eqGuard, binOp, Op.shift, if_neg h]; cases k <;> rfl
attribute [simp] ex_and ex_or ex_xor ex_andNot ex_shl ex_shr Go.IntKind.bits ex_quo ex_rem appendE elemsOf buildSliceE chunk okSrc slOrStr O.fz O.freeze Go.Value.cells
theorem wrap_u64 {x : Int} (h0 : 0 ≤ x) (h1 : x < 18446744073709551616) : IntKind.u64.wrap x = x := by
  simp [IntKind.wrap, IntKind.bits, IntKind.signed]; omega
theorem wrap_u8 {x : Int} (h0 : 0 ≤ x) (h1 : x < 256) : IntKind.u8.wrap x = x := by
  simp [IntKind.wrap, IntKind.bits, IntKind.signed]; omega
theorem wrap_i64 {x : Int} (h0 : -9223372036854775808 ≤ x) (h1 : x ≤ 9223372036854775807) : IntKind.i64.wrap x = x := by
  simp [IntKind.wrap, IntKind.bits, IntKind.signed]; omega
end Go.Proofs.YtkflfgkmbgjohaaDoor
