/-
  WHAT IS PROVED HERE: a byte of a text, and a part of one, as rules for the interpreter's run.
-/
import Derived.Test.YtkflfgkmbgjohaaDoorSim4
set_option linter.unusedVariables false
set_option linter.unusedSimpArgs false
namespace Go.Proofs.YtkflfgkmbgjohaaDoor
open Go Go.RowKit

theorem pure_under {P : Program} {t : TypeId} {d : TypeDesc} (h : P.underlying t = some d) : pureRun P (underlying t) = some d := by
  simp only [underlying, pureRun_bind, program, pureRun, Option.bind_some, h]; rfl
theorem slice_str {P : Program} {t : TypeId} (ht : P.underlying t = some .string) (s : ByteArray) (l h : Int) (hl : 0 ≤ l) (hlh : l ≤ h) (hh : h ≤ s.size) : pureRun P (Instr.slice t (.string s) (some (.int .i64 l)) (some (.int .i64 h)) none) = some (.string (s.extract l.toNat h.toNat)) := by
  have h1 : 0 ≤ h ∧ h ≤ (s.size : Int) := ⟨by omega, hh⟩
  have h2 : 0 ≤ l ∧ l ≤ (h.toNat : Int) := ⟨hl, by omega⟩
  simp only [Instr.slice, pureRun_bind, pure_under ht, Option.bind_some, Instr.sliceBounds, Instr.sliceBound, asIntOf, pureRun_pure, Option.isSome_none, Bool.false_eq_true, if_false, pureRun_ite]
  rw [if_pos h1]
  simp only [Option.bind_some]
  rw [if_pos h2]
  rfl
theorem sliceAt_str {P : Program} {t : TypeId} (s : ByteArray) (l h : Int) (ht : P.underlying t = some .string) (hl : 0 ≤ l) (hlh : l ≤ h) (hh : h ≤ s.size) : pureRun P (Instr.sliceAt t (.string s) (some (.int .i64 l)) (some (.int .i64 h)) none) = some (.string (s.extract l.toNat h.toNat)) := by
  simp only [Instr.sliceAt, pureRun_bind, pure_under ht, Option.bind_some]
  exact slice_str ht s l h hl hlh hh
theorem exactE_slice (P : Program) (ev : Operand → A) (dst : Option Tmp) (t : TypeId) (x l h : Operand) (ty : TypeId) (pos : String) (af : Array Edge) (g : Option (Nat × Bool)) : exactE P ev ⟨dst, .slice t x (some l) (some h) none, ty, pos, af, g⟩ =
    (match (ev x).exact, (ev l).exact, (ev h).exact with | some u, some a, some b => (pureRun P (Instr.sliceAt t u (some a) (some b) none)).map fun v => { v := ofV v } | _, _, _ => none) := by
  unfold exactE exactOp
  simp only [Op.operands]
  cases hx : (ev x).exact with
  | none => simp [hx, -A.exact]
  | some u =>
    cases hl : (ev l).exact with
    | none => simp [hx, hl, -A.exact]
    | some a =>
      cases hh : (ev h).exact with
      | none => simp [hx, hl, hh, -A.exact]
      | some b =>
        simp only [execOp, hx, hl, hh, Option.getD_some, Option.map_some, pureRun_bind, pureRun_pure]
        simp [hx, hl, hh, -A.exact]
        cases pureRun P (Instr.sliceAt t u (some a) (some b) none) with
        | none => rfl
        | some _ => rfl
attribute [simp] exactE_slice
theorem Wk_mono {P : Program} {X : Orc} {N : Nat} {k : List Itm} {st : St} {Q Q' : Ex → St → Prop} (h : Wk P X N k st Q) (hq : ∀ x s, Q x s → Q' x s) : Wk P X N k st Q' := by
  obtain ⟨x, s, h1, h2⟩ := h
  exact ⟨x, s, h1, hq x s h2⟩
/-- What holds behind a round, where the loop's own end is told apart. -/
def RoundX (P : Program) (X : Orc) (N : Nat) (k : List Itm) (Q : Ex → St → Prop) (I : Nat → St → Prop) (J : St → Prop) (e m j : Nat) : Ex → St → Prop
  | .normal, s => j < m ∧ I (j + 1) s
  | .exit i, s => if i = e then J s else Wu P X N (.exit i) k s Q
  | x, s => Wu P X N x k s Q
theorem RoundX_normal (P : Program) (X : Orc) (N : Nat) (k : List Itm) (Q : Ex → St → Prop) (I : Nat → St → Prop) (J : St → Prop) (e m j : Nat) (s : St) : RoundX P X N k Q I J e m j .normal s = (j < m ∧ I (j + 1) s) := rfl
theorem RoundX_exit (P : Program) (X : Orc) (N : Nat) (k : List Itm) (Q : Ex → St → Prop) (I : Nat → St → Prop) (J : St → Prop) (e m j i : Nat) (s : St) : RoundX P X N k Q I J e m j (.exit i) s = if i = e then J s else Wu P X N (.exit i) k s Q := rfl
theorem RoundX_ret (P : Program) (X : Orc) (N : Nat) (k : List Itm) (Q : Ex → St → Prop) (I : Nat → St → Prop) (J : St → Prop) (e m j : Nat) (s : St) : RoundX P X N k Q I J e m j .ret s = Wu P X N .ret k s Q := rfl
theorem Wk_loopx {P : Program} {X : Orc} {N : Nat} {k : List Itm} {c : Code} {st : St} {Q : Ex → St → Prop} (I : Nat → St → Prop) (m : Nat) (e : Nat) (J : St → Prop) (hm : m < N) (h0 : I 0 st) (round : ∀ j s, j ≤ m → I j s → Wk P X N [.code c] s (RoundX P X N k Q I J e m j)) (after : ∀ s, J s → Wu P X N (.exit e) k s Q) : Wk P X N (.code (.loop c) :: k) st Q := by
  refine Wk_loop I m hm h0 fun j s hj hI => Wk_mono (round j s hj hI) fun x s' h => ?_
  cases x with
  | normal => exact h
  | exit i =>
    rw [RoundX_exit] at h
    show Wu P X N (.exit i) k s' Q
    split at h
    · rename_i e'; subst e'; exact after s' h
    · exact h
  | goto l => exact h
  | ret => exact h
attribute [simp] RoundX_normal RoundX_exit RoundX_ret
end Go.Proofs.YtkflfgkmbgjohaaDoor
