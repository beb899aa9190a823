/-
  WHAT IS PROVED HERE: the laws of values, in the interpreter: each answers true.
-/
import Derived.Test.YtkflfgkmbgjohaaDoorVi02
set_option linter.unusedVariables false
set_option linter.unusedSimpArgs false
namespace Go.Proofs.YtkflfgkmbgjohaaDoor
open Go Go.RowKit

attribute [local simp] bd23 ts23 ta23 fa23_0 fa23_1 fa23_2 tz23 eq23 ne23 ta3 ta9 ts3 ts9 ta4 ts4
attribute [local simp] ts5 ta5 tz5 te32 ts48 tb5 headOk_encB indexAddrE idxE te49
theorem equal_bool {P : Program} {t : TypeId} (ht : P.underlying t = some .bool) (a b : Bool) : pureRun P (Op.equal t (.bool a) (.bool b)) = some (a == b) := by
  have key : ∀ d, pureRun P (Op.equalIn (d + 1) t (.bool a) (.bool b)) = some (a == b) := fun d => by
    simp only [Op.equalIn, pureRun_bind, pure_under ht, Option.bind_some, pureRun_pure]
  exact key 9999
theorem exb_eql {P : Program} {t : TypeId} (x y : Operand) (a b : Bool) (ht : P.underlying t = some .bool) : exBin P .eql t x y (.d (.s (.bool a))) (.d (.s (.bool b))) = some { v := .d (.s (.bool (a == b))) } ∧ exBin P .neq t x y (.d (.s (.bool a))) (.d (.s (.bool b))) = some { v := .d (.s (.bool !(a == b))) } := by
  constructor
  · unfold exBin
    simp only [A.exact, pureRun_bind, binOp, equal_bool ht, Option.bind_some, pureRun_pure]
    rfl
  · unfold exBin
    simp only [A.exact, pureRun_bind, binOp, equal_bool ht, Option.bind_some, pureRun_pure]
    rfl
theorem exb_eq (x y : Operand) (a b : Bool) : exBin Tryd.prog .eql 4 x y (.d (.s (.bool a))) (.d (.s (.bool b))) = some { v := .d (.s (.bool (a == b))) } := (exb_eql x y a b Tryd.underlying4).1
attribute [local simp] exb_eq bs_beq
set_option maxHeartbeats 2000000 in
theorem Tells_ev (k n : Int) (s : ByteArray) (k2 n2 : Int) (s2 : ByteArray) (h0 : -9223372036854775808 ≤ n) (h1 : n ≤ 9223372036854775807) : evr Tryd.prog ext2 3 [.agg [.s (.int .i64 k), .s (.int .i64 n), .s (.string s)], .agg [.s (.int .i64 k2), .s (.int .i64 n2), .s (.string s2)]] = some (.val (.s (.bool true))) := by
  refine evr_body (n := 5) rfl (body_of _ _ _ _ Tryd.f3 _ _ _ Tryd.func3 rfl (by simp [Tryd.ntmps3]) (by decide) ?_)
  have haw := awake_ev
  by_cases b1 : 300 < s.size
  · have b1' : (300 : Int) < (s.size : Int) := by omega
    simp [Tryd.ntmps3, Tryd.results3, haw, b1']
  · have b1' : ¬ (300 : Int) < (s.size : Int) := by omega
    by_cases b2 : 300 < s2.size
    · have b2' : (300 : Int) < (s2.size : Int) := by omega
      simp [Tryd.ntmps3, Tryd.results3, haw, b1', b2']
    · have b2' : ¬ (300 : Int) < (s2.size : Int) := by omega
      have e1 := Right_ev ext2 rfl k n s
      have e2 := RefRight_ev ext2 rfl k n s
      have e3 := Less_ev ext2 rfl k n s k2 n2 s2
      have e4 := RefLess_ev ext2 rfl k n s k2 n2 s2
      have e5 := Same_ev k n s k2 n2 s2
      have e6 := RefSame2_ev k n s k2 n2 s2
      have e7 := Show_ev k n s (by omega) h0 h1
      have e8 := RefShow_ev k n s (by omega) h0 h1
      generalize rightV ⟨k, n, s⟩ = r at *
      generalize lessV ⟨k, n, s⟩ ⟨k2, n2, s2⟩ = l at *
      generalize sameV ⟨k, n, s⟩ ⟨k2, n2, s2⟩ = m at *
      generalize showV ⟨k, n, s⟩ = t at *
      simp (maxSteps := 2000000) [Tryd.ntmps3, Tryd.results3, haw, b1', b2', e1, e2, e3, e4, e5, e6, e7, e8]
      show raceFree _ _ = true
      kernel_rfl
def zeroV : D := .agg [.s (.int .i64 0), .s (.int .i64 0), .s (.string ⟨#[]⟩)]
theorem Reads_ev (hrd : ∀ s : ByteArray, s.size ≤ 300 → readV s = refReadV s) (s : ByteArray) : evr Tryd.prog ext2 4 [.s (.string s)] = some (.val (.s (.bool true))) := by
  refine evr_body (n := 5) rfl (body_of _ _ _ _ Tryd.f4 _ _ _ Tryd.func4 rfl (by simp [Tryd.ntmps4]) (by decide) ?_)
  have haw := awake_ev
  by_cases b1 : 300 < s.size
  · have b1' : (300 : Int) < (s.size : Int) := by omega
    simp [Tryd.ntmps4, Tryd.results4, haw, b1']
  · have b1' : ¬ (300 : Int) < (s.size : Int) := by omega
    have e1 := Read_ev s (by omega)
    have e2 := RefRead_ev s (by omega)
    rw [← hrd s (by omega)] at e2
    cases hr : readV s with
    | none =>
      rw [hr] at e1 e2
      simp only [readR, encV] at e1 e2
      simp [Tryd.ntmps4, Tryd.results4, haw, b1', e1, e2]
    | some x =>
      rw [hr] at e1 e2
      simp only [readR, encV] at e1 e2
      simp [Tryd.ntmps4, Tryd.results4, haw, b1', e1, e2]
theorem bs_of (l : List UInt8) : (⟨l.toArray⟩ : ByteArray).toList = l := by rw [ByteArray.toList_eq]
set_option maxHeartbeats 2000000 in
theorem BytesLaw_ev (k n : Int) (s : ByteArray) (b : List UInt8) (h0 : -9223372036854775808 ≤ n) (h1 : n ≤ 9223372036854775807) : evr Tryd.prog ext2 5 [.agg [.s (.int .i64 k), .s (.int .i64 n), .s (.string s)], .lst (b.map encB)] = some (.val (.s (.bool true))) := by
  refine evr_body (n := 5) rfl (body_of _ _ _ _ Tryd.f5 _ _ _ Tryd.func5 rfl (by simp [Tryd.ntmps5]) (by decide) ?_)
  have haw := awake_ev
  by_cases b1 : 300 < s.size
  · have b1' : (300 : Int) < (s.size : Int) := by omega
    simp [Tryd.ntmps5, Tryd.results5, haw, b1']
  · have b1' : ¬ (300 : Int) < (s.size : Int) := by omega
    by_cases b2 : 300 < b.length
    · have b2' : (300 : Int) < (b.length : Int) := by omega
      simp [Tryd.ntmps5, Tryd.results5, haw, b1', b2']
    · have b2' : ¬ (300 : Int) < (b.length : Int) := by omega
      have e1 := Bytes_ev k n s (by omega) h0 h1
      have e2 := RefBytes_ev k n s (by omega) h0 h1
      have e3 := GetV_ev b (by omega)
      have e4 := RefGetV_ev b (by omega)
      generalize bytesV ⟨k, n, s⟩ = by1 at *
      unfold getVR at e3 e4
      cases hr : getV b with
      | none =>
        rw [hr] at e3 e4
        simp only [encV] at e3 e4
        simp (maxSteps := 2000000) [Tryd.ntmps5, Tryd.results5, haw, b1', b2', e1, e2, e3, e4, convertE, take_encB, bytesOfD_encB]
        show raceFree _ _ = true
        kernel_rfl
      | some p =>
        obtain ⟨x, m⟩ := p
        rw [hr] at e3 e4
        simp only [encV] at e3 e4
        simp (maxSteps := 2000000) [Tryd.ntmps5, Tryd.results5, haw, b1', b2', e1, e2, e3, e4, convertE, take_encB, bytesOfD_encB]
        show raceFree _ _ = true
        kernel_rfl
end Go.Proofs.YtkflfgkmbgjohaaDoor
