/-
  WHAT IS PROVED HERE: the document's bytes of a number, and of a text.
-/
import Derived.Test.YtkflfgkmbgjohaaDoorSim4
import Derived.Test.YtkflfgkmbgjohaaDoorPlain02
set_option linter.unusedVariables false
set_option linter.unusedSimpArgs false
namespace Go.Proofs.YtkflfgkmbgjohaaDoor
open Go Go.RowKit

attribute [local simp] ts5 ta5 tz5 te32 ts48 tb5
def encB (b : UInt8) : D := .s (.int .u8 b.toNat)
theorem headOk_encB (l : List UInt8) : headOk 1 (l.map encB) = true := by cases l <;> rfl
attribute [local simp] headOk_encB
theorem turned_ev (ext : Exts) (hx : ext 47 = none) (n : Int) (h0 : -9223372036854775808 ≤ n) (h1 : n ≤ 9223372036854775807) : evr Tryd.prog ext 47 [.s (.int .i64 n)] = some (.val (.s (.int .u64 (Lib.zigzag n)))) := by
  refine evr_body (n := 5) hx (body_of _ _ _ _ Tryd.f47 _ _ _ Tryd.func47 rfl (by simp [Tryd.ntmps47]) (by decide) ?_)
  unfold Lib.zigzag
  by_cases hn : 0 ≤ n
  · simp [Tryd.ntmps47, Tryd.results47, hn]
    rw [wrap_u64 hn (by omega), wrap_u64 (by omega) (by omega)]
    omega
  · simp [Tryd.ntmps47, Tryd.results47, hn]
    rw [wrap_i64 (x := n + 1) (by omega) (by omega), wrap_i64 (x := -(n + 1)) (by omega) (by omega), wrap_u64 (x := -(n + 1)) (by omega) (by omega), wrap_u64 (x := 2 * -(n + 1)) (by omega) (by omega), wrap_u64 (by omega) (by omega)]
    omega
theorem zig_lt (n : Int) (h0 : -9223372036854775808 ≤ n) (h1 : n ≤ 9223372036854775807) : Lib.zigzag n < 18446744073709551616 := by
  unfold Lib.zigzag; split <;> omega
/-- A slice that is being built: nil, or its own. -/
def Own (n id : Nat) (a : A) (o : O) (xs : List D) : Prop := (xs = [] ∧ a = .clip []) ∨ ∃ v, a = .sl id v 0 xs.length ∧ o = .vec v n xs false
def RefPutI (n : Int) (j : Nat) (s : St) : Prop := ∃ T H u xs, s = ⟨23, 0, T, H⟩ ∧ T 3 = .d (.s (.int .u64 (u : Nat))) ∧ u < 2 ^ (64 - 7 * j) ∧ xs.length = j ∧ putL n = xs ++ Lib.uvarint u ∧ Own 1 15 (T 4) (H 15) (xs.map encB)
theorem group_next {u j : Nat} (hu : u < 2 ^ (64 - 7 * j)) (hj : j ≤ 9) (hb : 128 ≤ u) : j < 9 ∧ u / 128 < 2 ^ (64 - 7 * (j + 1)) ∧ u < 18446744073709551616 := by
  have h64 : 2 ^ (64 - 7 * j) ≤ 2 ^ 64 := Nat.pow_le_pow_right (by decide) (by omega)
  have hj9 : j < 9 := by
    by_cases e : j = 9
    · subst e; simp at hu; omega
    · omega
  refine ⟨hj9, ?_, by simp at h64; omega⟩
  have e : 64 - 7 * j = (64 - 7 * (j + 1)) + 7 := by omega
  rw [e, Nat.pow_add] at hu
  rw [Nat.div_lt_iff_lt_mul (by decide)]
  exact hu
theorem group_byte {u : Nat} (h : u < 18446744073709551616) : IntKind.u8.wrap (IntKind.u64.wrap ((u : Int).tmod 128 + 128)) = ((u % 128 + 128 : Nat) : Int) ∧ IntKind.u64.wrap ((u : Int).tdiv 128) = ((u / 128 : Nat) : Int) := by
  have e1 : (u : Int).tmod 128 = ((u % 128 : Nat) : Int) := by rw [Int.tmod_eq_emod_of_nonneg (by omega)]; omega
  have e2 : (u : Int).tdiv 128 = ((u / 128 : Nat) : Int) := by rw [Int.tdiv_eq_ediv_of_nonneg (by omega)]; omega
  rw [e1, e2, wrap_u64 (by omega) (by omega), wrap_u8 (by omega) (by omega), wrap_u64 (by omega) (by omega)]
  exact ⟨by omega, rfl⟩
theorem RefPut_ev (ext : Exts) (hx : ext 39 = none) (hx1 : ext 47 = none) (n : Int) (h0 : -9223372036854775808 ≤ n) (h1 : n ≤ 9223372036854775807) : evr Tryd.prog ext 39 [.s (.int .i64 n)] = some (.fresh 1 ((putL n).map encB)) := by
  refine evr_body (n := 20) hx (body_of _ _ _ _ Tryd.f39 _ _ _ Tryd.func39 rfl (by simp [Tryd.ntmps39]) (by decide) ?_)
  have hz := zig_lt n h0 h1
  simp [Tryd.ntmps39, Tryd.results39, turned_ev ext hx1 n h0 h1]
  refine Wk_loop (RefPutI n) 9 (by decide) ?_ ?_
  · exact ⟨_, _, Lib.zigzag n, [], rfl, by simp, by simpa using hz, rfl, rfl, Or.inl ⟨rfl, by simp⟩⟩
  · rintro j s hj ⟨T, H, u, xs, rfl, hT3, hu, hl, hp, hown⟩
    have hlen : (xs.length + 1) * 2 ≤ 70368744177664 := by omega
    by_cases hlt : u < 128
    · have hc : ¬ (128 : Int) ≤ (u : Int) := by omega
      have hw : IntKind.u8.wrap (u : Int) = u := wrap_u8 (by omega) (by omega)
      rcases hown with ⟨hxs, hT4⟩ | ⟨v, hT4, hH⟩
      · have hx0 : xs = [] := by simpa using hxs
        subst hx0
        simp [hT3, hT4, hc, hw, hp, Lib.uvarint_small hlt, encB, u8_of_nat (show u < 256 by omega)]
      · simp [hT3, hT4, hH, hc, hw, hp, Lib.uvarint_small hlt, encB, u8_of_nat (show u < 256 by omega), hlen]
    · have hc : (128 : Int) ≤ (u : Int) := by omega
      obtain ⟨hj9, hu2, hu64⟩ := group_next hu hj (by omega)
      obtain ⟨hw, hd⟩ := group_byte hu64
      have hd' : IntKind.u64.wrap ((u : Int) / 128) = (u : Int) / 128 := wrap_u64 (by omega) (by omega)
      have hv : Lib.uvarint u = (u % 128 + 128).toUInt8 :: Lib.uvarint (u / 128) := Lib.uvarint_big (by omega)
      have hb8 : encB (u % 128 + 128).toUInt8 = .s (.int .u8 ((u : Int) % 128 + 128)) := by unfold encB; rw [u8_of_nat (by omega)]; congr 2
      have hnext : ∀ (T : Nat → A) (H : Nat → O), T 3 = .d (.s (.int .u64 ((u : Int) / 128))) → Own 1 15 (T 4) (H 15) (xs.map encB ++ [.s (.int .u8 ((u : Int) % 128 + 128))]) → RefPutI n (j + 1) ⟨23, 0, T, H⟩ := fun T H h1 h2 =>
        ⟨T, H, u / 128, xs ++ [(u % 128 + 128).toUInt8], rfl, by rw [h1]; rfl, hu2, by simp [hl], by rw [hp, hv]; simp, by rw [List.map_append, List.map_cons, hb8]; exact h2⟩
      rcases hown with ⟨hxs, hT4⟩ | ⟨v, hT4, hH⟩
      · have hx0 : xs = [] := by simpa using hxs
        subst hx0
        simp [hT3, hT4, hc, hw, hd', hj9]
        exact hnext _ _ (by simp) (Or.inr ⟨(H 15).ver + 1, by simp, by simp⟩)
      · simp [hT3, hT4, hH, hc, hw, hd', hj9, hlen]
        exact hnext _ _ (by simp) (Or.inr ⟨v + 1, by simp, by simp⟩)
theorem RefText_ev (ext : Exts) (hx : ext 40 = none) (hx1 : ext 39 = none) (hx2 : ext 47 = none) (s : ByteArray) (hs : s.size ≤ 1000000) : evr Tryd.prog ext 40 [.s (.string s)] = some (.fresh 1 ((textL s.data.toList).map encB)) := by
  refine evr_body (n := 5) hx (body_of _ _ _ _ Tryd.f40 _ _ _ Tryd.func40 rfl (by simp [Tryd.ntmps40]) (by decide) ?_)
  have hput := RefPut_ev ext hx1 hx2 (s.size : Int) (by omega) (by omega)
  have hl : (putL (s.size : Int)).length ≤ 10 := Lib.uvarint_length64 (zig_lt _ (by omega) (by omega))
  have hb : ((putL (s.size : Int)).length + s.size) * 2 ≤ 70368744177664 := by omega
  simp [Tryd.ntmps40, Tryd.results40, hput, hb, textL, encB]
end Go.Proofs.YtkflfgkmbgjohaaDoor
