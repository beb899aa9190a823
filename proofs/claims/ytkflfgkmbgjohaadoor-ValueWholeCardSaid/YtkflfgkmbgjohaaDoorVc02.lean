/-
  WHAT IS PROVED HERE: the program's bytes of a number, and of a text.
-/
import Derived.Test.YtkflfgkmbgjohaaDoorVb02
set_option linter.unusedVariables false
set_option linter.unusedSimpArgs false
namespace Go.Proofs.YtkflfgkmbgjohaaDoor
open Go Go.RowKit

attribute [local simp] ts5 ta5 tz5 te32 ts48 tb5 headOk_encB
theorem put_zig (n : Int) (h0 : -9223372036854775808 ≤ n) (h1 : n ≤ 9223372036854775807) : bits .xor .u64 (IntKind.u64.wrap (IntKind.u64.wrap n * 2)) (IntKind.u64.wrap (n.fdiv 9223372036854775808)) = ((Lib.zigzag n : Nat) : Int) := by
  by_cases hn : 0 ≤ n
  · have e1 : n.fdiv 9223372036854775808 = 0 := by rw [Int.fdiv_eq_ediv_of_nonneg _ (by omega)]; omega
    rw [e1, wrap_u64 hn (by omega), wrap_u64 (x := n * 2) (by omega) (by omega), wrap_u64 (x := 0) (by omega) (by omega), Lib.zigzag_nonneg hn]
    have e2 : n * 2 = ((n.toNat * 2 : Nat) : Int) := by omega
    have := bits_xor_u64_nat (n.toNat * 2) 0 (by omega) (by omega)
    rw [e2]
    simpa using this
  · have e1 : n.fdiv 9223372036854775808 = -1 := by rw [Int.fdiv_eq_ediv_of_nonneg _ (by omega)]; omega
    have e2 : IntKind.u64.wrap (-1) = IntKind.u64.max := by decide
    rw [e1, e2, ← Lib.zigzag_neg h0 (by omega)]
    have comm : ∀ a b : Int, bits .xor .u64 a b = bits .xor .u64 b a := fun a b => by
      unfold bits
      simp only [BitVec.xor_comm]
    exact comm _ _
set_option maxRecDepth 100000 in
theorem or128 (x : Fin 256) : (x.val ||| 128) = x.val % 128 + 128 := by revert x; decide
def PutI (n : Int) (j : Nat) (s : St) : Prop := ∃ T H u xs, s = ⟨28, 0, T, H⟩ ∧ T 3 = .d (.s (.int .u64 (u : Nat))) ∧ u < 2 ^ (64 - 7 * j) ∧ xs.length = j ∧ putL n = xs ++ Lib.uvarint u ∧ Own 1 24 (T 4) (H 24) (xs.map encB)
theorem Put_ev (ext : Exts) (hx : ext 37 = none) (n : Int) (h0 : -9223372036854775808 ≤ n) (h1 : n ≤ 9223372036854775807) : evr Tryd.prog ext 37 [.s (.int .i64 n)] = some (.fresh 1 ((putL n).map encB)) := by
  refine evr_body (n := 20) hx (body_of _ _ _ _ Tryd.f37 _ _ _ Tryd.func37 rfl (by simp [Tryd.ntmps37]) (by decide) ?_)
  have hz := zig_lt n h0 h1
  have hzz := put_zig n h0 h1
  simp [Tryd.ntmps37, Tryd.results37, hzz]
  refine Wk_loop (PutI n) 9 (by decide) ?_ ?_
  · exact ⟨_, _, Lib.zigzag n, [], rfl, by simp, by simpa using hz, rfl, rfl, Or.inl ⟨rfl, by simp⟩⟩
  · rintro j s hj ⟨T, H, u, xs, rfl, hT3, hu, hl, hp, hown⟩
    have hlen : (xs.length + 1) * 2 ≤ 70368744177664 := by omega
    by_cases hlt : u < 128
    · have hc : (u : Int) < 128 := by omega
      have hw : IntKind.u8.wrap (u : Int) = u := wrap_u8 (by omega) (by omega)
      rcases hown with ⟨hxs, hT4⟩ | ⟨v, hT4, hH⟩
      · have hx0 : xs = [] := by simpa using hxs
        subst hx0
        simp [hT3, hT4, hc, hw, hp, Lib.uvarint_small hlt, encB, u8_of_nat (show u < 256 by omega)]
      · simp [hT3, hT4, hH, hc, hw, hp, Lib.uvarint_small hlt, encB, u8_of_nat (show u < 256 by omega), hlen]
    · have hc : ¬ (u : Int) < 128 := by omega
      obtain ⟨hj9, hu2, hu64⟩ := group_next hu hj (by omega)
      have hw : bits .or .u8 (IntKind.u8.wrap (u : Int)) 128 = (u : Int) % 128 + 128 := by
        have e : IntKind.u8.wrap (u : Int) = ((u % 256 : Nat) : Int) := by simp [IntKind.wrap, IntKind.bits, IntKind.signed]
        have h2 := u8_or_nat (u % 256) 128 (by omega) (by omega)
        rw [e]
        have h3 := or128 ⟨u % 256, by omega⟩
        simp only at h3
        rw [h3] at h2
        refine h2.trans ?_
        omega
      have hd : (u : Int).fdiv 128 = (u : Int) / 128 := Int.fdiv_eq_ediv_of_nonneg _ (by omega)
      have hv : Lib.uvarint u = (u % 128 + 128).toUInt8 :: Lib.uvarint (u / 128) := Lib.uvarint_big (by omega)
      have hb8 : encB (u % 128 + 128).toUInt8 = .s (.int .u8 ((u : Int) % 128 + 128)) := by unfold encB; rw [u8_of_nat (by omega)]; congr 2
      have hnext : ∀ (T : Nat → A) (H : Nat → O), T 3 = .d (.s (.int .u64 ((u : Int) / 128))) → Own 1 24 (T 4) (H 24) (xs.map encB ++ [.s (.int .u8 ((u : Int) % 128 + 128))]) → PutI n (j + 1) ⟨28, 0, T, H⟩ := fun T H h1 h2 =>
        ⟨T, H, u / 128, xs ++ [(u % 128 + 128).toUInt8], rfl, by rw [h1]; rfl, hu2, by simp [hl], by rw [hp, hv]; simp, by rw [List.map_append, List.map_cons, hb8]; exact h2⟩
      rcases hown with ⟨hxs, hT4⟩ | ⟨v, hT4, hH⟩
      · have hx0 : xs = [] := by simpa using hxs
        subst hx0
        simp [hT3, hT4, hc, hw, hd, hj9]
        exact hnext _ _ (by simp) (Or.inr ⟨(H 24).ver + 1, by simp, by simp⟩)
      · simp [hT3, hT4, hH, hc, hw, hd, hj9, hlen]
        exact hnext _ _ (by simp) (Or.inr ⟨v + 1, by simp, by simp⟩)
theorem Text_ev (ext : Exts) (hx : ext 38 = none) (hx1 : ext 37 = none) (s : ByteArray) (hs : s.size ≤ 1000000) : evr Tryd.prog ext 38 [.s (.string s)] = some (.fresh 1 ((textL s.data.toList).map encB)) := by
  refine evr_body (n := 5) hx (body_of _ _ _ _ Tryd.f38 _ _ _ Tryd.func38 rfl (by simp [Tryd.ntmps38]) (by decide) ?_)
  have hput := Put_ev ext hx1 (s.size : Int) (by omega) (by omega)
  have hl : (putL (s.size : Int)).length ≤ 10 := Lib.uvarint_length64 (zig_lt _ (by omega) (by omega))
  have hb : ((putL (s.size : Int)).length + s.size) * 2 ≤ 70368744177664 := by omega
  simp [Tryd.ntmps38, Tryd.results38, hput, hb, textL, encB]
end Go.Proofs.YtkflfgkmbgjohaaDoor
