/-
  WHAT IS PROVED HERE: the laws of values that speak of no other answer, in the interpreter: each answers true.
-/
import Derived.Test.YtkflfgkmbgjohaaDoorVj02
set_option linter.unusedVariables false
set_option linter.unusedSimpArgs false
namespace Go.Proofs.YtkflfgkmbgjohaaDoor
open Go Go.RowKit

attribute [local simp] bd23 ts23 ta23 fa23_0 fa23_1 fa23_2 tz23 eq23 ne23 ta3 ta9 ts3 ts9 ta4 ts4
attribute [local simp] ts5 ta5 tz5 te32 ts48 tb5 headOk_encB indexAddrE idxE te49
attribute [local simp] exb_eq bs_beq
theorem eqV (x y : Operand) (k n : Int) (s : ByteArray) (k2 n2 : Int) (s2 : ByteArray) : exBin Tryd.prog .eql 23 x y (.d (.agg [.s (.int .i64 k), .s (.int .i64 n), .s (.string s)])) (.d (.agg [.s (.int .i64 k2), .s (.int .i64 n2), .s (.string s2)])) = some { v := .d (.s (.bool (sameV ⟨k, n, s⟩ ⟨k2, n2, s2⟩))) } := by
  rw [eq23]
  simp only [sameV, bs_beq]
  rw [show (k == k2) = decide (k = k2) from by rw [Bool.eq_iff_iff]; simp, show (n == n2) = decide (n = n2) from by rw [Bool.eq_iff_iff]; simp]
  simp
theorem neV (x y : Operand) (k n : Int) (s : ByteArray) (k2 n2 : Int) (s2 : ByteArray) : exBin Tryd.prog .neq 23 x y (.d (.agg [.s (.int .i64 k), .s (.int .i64 n), .s (.string s)])) (.d (.agg [.s (.int .i64 k2), .s (.int .i64 n2), .s (.string s2)])) = some { v := .d (.s (.bool (!sameV ⟨k, n, s⟩ ⟨k2, n2, s2⟩))) } := by
  rw [ne23]
  simp only [sameV, bs_beq]
  rw [show (k == k2) = decide (k = k2) from by rw [Bool.eq_iff_iff]; simp, show (n == n2) = decide (n = n2) from by rw [Bool.eq_iff_iff]; simp]
  simp
theorem total_facts (a b : Val) : (lessV a b = true → lessV b a = false ∧ sameV a b = false) ∧ (lessV a b = false → lessV b a = true → sameV a b = false) ∧ (lessV a b = false → lessV b a = false → sameV a b = true) := by
  have h := sameV_less a b
  refine ⟨fun h1 => ⟨lessV_asymm a b h1, by rw [h, h1]; rfl⟩, fun h1 h2 => by rw [h, h1, h2]; rfl, fun h1 h2 => by rw [h, h1, h2]; rfl⟩
theorem less_kind (a b : Val) (h : a.kind < b.kind) : lessV a b = true := (lessV_iff a b).2 (Or.inl h)
set_option maxHeartbeats 4000000 in
theorem Total_ev (k n : Int) (s : ByteArray) (k2 n2 : Int) (s2 : ByteArray) (k3 n3 : Int) (s3 : ByteArray) : evr Tryd.prog ext2 6 [.agg [.s (.int .i64 k), .s (.int .i64 n), .s (.string s)], .agg [.s (.int .i64 k2), .s (.int .i64 n2), .s (.string s2)], .agg [.s (.int .i64 k3), .s (.int .i64 n3), .s (.string s3)]] = some (.val (.s (.bool true))) := by
  refine evr_body (n := 5) rfl (body_of _ _ _ _ Tryd.f6 _ _ _ Tryd.func6 rfl (by simp [Tryd.ntmps6]) (by decide) ?_)
  have haw := awake_ev
  by_cases b1 : 300 < s.size
  · have b1' : (300 : Int) < (s.size : Int) := by omega
    simp [Tryd.ntmps6, Tryd.results6, haw, b1']
  · have b1' : ¬ (300 : Int) < (s.size : Int) := by omega
    by_cases b2 : 300 < s2.size
    · have b2' : (300 : Int) < (s2.size : Int) := by omega
      simp [Tryd.ntmps6, Tryd.results6, haw, b1', b2']
    · have b2' : ¬ (300 : Int) < (s2.size : Int) := by omega
      by_cases b3 : 300 < s3.size
      · have b3' : (300 : Int) < (s3.size : Int) := by omega
        simp [Tryd.ntmps6, Tryd.results6, haw, b1', b2', b3']
      · have b3' : ¬ (300 : Int) < (s3.size : Int) := by omega
        have e1 := Less_ev ext2 rfl k n s k2 n2 s2
        have e2 := Less_ev ext2 rfl k2 n2 s2 k n s
        have e3 := Less_ev ext2 rfl k2 n2 s2 k3 n3 s3
        have e4 := Less_ev ext2 rfl k n s k3 n3 s3
        have e5 := Less_ev ext2 rfl k n s k n s
        have e6 := Same_ev k n s k2 n2 s2
        have q1 := fun x y => eqV x y k n s k2 n2 s2
        have q2 := fun x y => neV x y k n s k2 n2 s2
        obtain ⟨t1, t2, t3⟩ := total_facts ⟨k, n, s⟩ ⟨k2, n2, s2⟩
        have tk := less_kind ⟨k, n, s⟩ ⟨k2, n2, s2⟩
        have tr := lessV_trans ⟨k, n, s⟩ ⟨k2, n2, s2⟩ ⟨k3, n3, s3⟩
        rw [lessV_irrefl] at e5
        generalize lessV ⟨k, n, s⟩ ⟨k2, n2, s2⟩ = l1 at *
        generalize lessV ⟨k2, n2, s2⟩ ⟨k, n, s⟩ = l2 at *
        generalize lessV ⟨k2, n2, s2⟩ ⟨k3, n3, s3⟩ = l3 at *
        generalize lessV ⟨k, n, s⟩ ⟨k3, n3, s3⟩ = l4 at *
        generalize sameV ⟨k, n, s⟩ ⟨k2, n2, s2⟩ = m at *
        dsimp only at tk
        cases l1 with
        | true =>
          obtain ⟨rfl, rfl⟩ := t1 rfl
          by_cases hk : k < k2
          · cases l3 with
            | true =>
              obtain rfl := tr rfl rfl
              simp (maxSteps := 2000000) [Tryd.ntmps6, Tryd.results6, -eq23, -ne23, haw, b1', b2', b3', q1, q2, e1, e2, e6, e5, e3, e4, hk]
              show raceFree _ _ = true
              kernel_rfl
            | false =>
              simp (maxSteps := 2000000) [Tryd.ntmps6, Tryd.results6, -eq23, -ne23, haw, b1', b2', b3', q1, q2, e1, e2, e6, e5, e3, hk]
              show raceFree _ _ = true
              kernel_rfl
          · cases l3 with
            | true =>
              obtain rfl := tr rfl rfl
              simp (maxSteps := 2000000) [Tryd.ntmps6, Tryd.results6, -eq23, -ne23, haw, b1', b2', b3', q1, q2, e1, e2, e6, e5, e3, e4, hk]
              show raceFree _ _ = true
              kernel_rfl
            | false =>
              simp (maxSteps := 2000000) [Tryd.ntmps6, Tryd.results6, -eq23, -ne23, haw, b1', b2', b3', q1, q2, e1, e2, e6, e5, e3, hk]
              show raceFree _ _ = true
              kernel_rfl
        | false =>
          have hk : ¬ k < k2 := fun h => by have := tk h; cases this
          cases l2 with
          | true =>
            obtain rfl := t2 rfl rfl
            simp (maxSteps := 2000000) [Tryd.ntmps6, Tryd.results6, -eq23, -ne23, haw, b1', b2', b3', q1, q2, e1, e2, e6, e5, hk]
            show raceFree _ _ = true
            kernel_rfl
          | false =>
            obtain rfl := t3 rfl rfl
            simp (maxSteps := 2000000) [Tryd.ntmps6, Tryd.results6, -eq23, -ne23, haw, b1', b2', b3', q1, q2, e1, e2, e6, e5, hk]
            show raceFree _ _ = true
            kernel_rfl
end Go.Proofs.YtkflfgkmbgjohaaDoor
