/-
  WHAT IS PROVED HERE: the program's number with which bytes begin.
-/
import Derived.Test.YtkflfgkmbgjohaaDoorVc02
set_option linter.unusedVariables false
set_option linter.unusedSimpArgs false
namespace Go.Proofs.YtkflfgkmbgjohaaDoor
open Go Go.RowKit

attribute [local simp] ts5 ta5 te32 ts48 tb5 headOk_encB indexAddrE idxE
/-- What Get answers. -/
def getR (l : List UInt8) : List D :=
  match getL l with
  | some (u, k) => [.s (.int .i64 (Lib.unzigzag u)), .s (.int .i64 (k : Nat)), .s (.int .i64 0)]
  | none => [.s (.int .i64 0), .s (.int .i64 0), .s (.int .i64 3)]
set_option maxRecDepth 100000 in
theorem andNot128' (x : Fin 256) : bits .andNot .u8 (x.val : Int) 128 = ((x.val % 128 : Nat) : Int) := by revert x; decide
theorem andNot128 (x : UInt8) : bits .andNot .u8 (x.toNat : Int) 128 = ((x.toNat % 128 : Nat) : Int) := andNot128' ⟨x.toNat, x.toNat_lt⟩
theorem xor_comm' (k : IntKind) (a b : Int) : bits .xor k a b = bits .xor k b a := by
  unfold bits
  simp only [BitVec.xor_comm]
theorem xor_zero (x : Nat) (hx : x < 9223372036854775808) : bits .xor .i64 (x : Int) 0 = x := by
  show IntKind.i64.wrap ((BitVec.ofInt 64 (x : Int) ^^^ BitVec.ofInt 64 0).toNat : Int) = _
  have h2 : (BitVec.ofInt 64 (x : Int)).toNat = x := by
    rw [BitVec.ofInt_natCast, BitVec.toNat_ofNat]; exact Nat.mod_eq_of_lt (by omega)
  rw [BitVec.toNat_xor, h2]
  simp
  exact wrap_i64 (by omega) (by omega)
theorem unzig_bits (u : Nat) (hu : u < 18446744073709551616) : bits .xor .i64 (IntKind.i64.wrap ((u : Int).fdiv 2)) (IntKind.i64.wrap (-IntKind.i64.wrap (bits .and .u64 (u : Int) 1))) = Lib.unzigzag u := by
  have e1 : (u : Int).fdiv 2 = ((u / 2 : Nat) : Int) := by rw [Int.fdiv_eq_ediv_of_nonneg _ (by omega)]; omega
  rw [e1, Lib.u64_and1 _ (by omega) (by omega), wrap_i64 (x := ((u / 2 : Nat) : Int)) (by omega) (by omega), wrap_i64 (x := (u : Int) % 2) (by omega) (by omega), wrap_i64 (by omega) (by omega)]
  unfold Lib.unzigzag
  by_cases h : u % 2 = 0
  · have e2 : -((u : Int) % 2) = 0 := by omega
    rw [e2, xor_zero _ (by omega)]
    split <;> omega
  · have e2 : -((u : Int) % 2) = -1 := by omega
    rw [e2, xor_comm', Lib.i64_not _ (by omega)]
    split <;> omega
theorem or_group (acc j y : Nat) (ha : acc < 2 ^ (7 * j)) (hj : j ≤ 9) (hy : y < 128) (h9 : j = 9 → y ≤ 1) : bits .or .u64 (acc : Int) (IntKind.u64.wrap (((y : Nat) : Int) * 2 ^ (7 * j))) = ((acc + y * 2 ^ (7 * j) : Nat) : Int) ∧ acc + y * 2 ^ (7 * j) < 2 ^ (7 * (j + 1)) ∧ acc + y * 2 ^ (7 * j) < 18446744073709551616 := by
  have hp : (2 : Nat) ^ (7 * (j + 1)) = 128 * 2 ^ (7 * j) := by rw [show (128 : Nat) = 2 ^ 7 from rfl, ← Nat.pow_add]; congr 1; omega
  have hb1 : acc + y * 2 ^ (7 * j) < 2 ^ (7 * (j + 1)) := by
    rw [hp]
    have : y * 2 ^ (7 * j) ≤ 127 * 2 ^ (7 * j) := Nat.mul_le_mul_right _ (by omega)
    omega
  have hb2 : acc + y * 2 ^ (7 * j) < 18446744073709551616 := by
    by_cases e : j = 9
    · subst e
      have := h9 rfl
      have e2 : (2 : Nat) ^ (7 * 9) = 9223372036854775808 := by decide
      rw [e2] at ha ⊢
      have : y * 9223372036854775808 ≤ 1 * 9223372036854775808 := Nat.mul_le_mul_right _ this
      omega
    · have : (2 : Nat) ^ (7 * (j + 1)) ≤ 2 ^ 63 := Nat.pow_le_pow_right (by decide) (by omega)
      simp at this
      omega
  refine ⟨?_, hb1, hb2⟩
  have e1 : IntKind.u64.wrap (((y : Nat) : Int) * 2 ^ (7 * j)) = ((y * 2 ^ (7 * j) : Nat) : Int) := by
    rw [show ((y : Nat) : Int) * 2 ^ (7 * j) = ((y * 2 ^ (7 * j) : Nat) : Int) by simp]
    exact wrap_u64 (by omega) (by omega)
  rw [e1]
  have h2 : bits .or .u64 (acc : Int) ((y * 2 ^ (7 * j) : Nat) : Int) = ((acc ||| (y * 2 ^ (7 * j)) : Nat) : Int) := by
    show IntKind.u64.wrap ((BitVec.ofInt 64 (acc : Int) ||| BitVec.ofInt 64 ((y * 2 ^ (7 * j) : Nat) : Int)).toNat : Int) = _
    rw [BitVec.toNat_or, BitVec.ofInt_natCast, BitVec.ofInt_natCast, BitVec.toNat_ofNat, BitVec.toNat_ofNat, Nat.mod_eq_of_lt (by omega), Nat.mod_eq_of_lt (by omega)]
    have : acc ||| (y * 2 ^ (7 * j)) = acc + y * 2 ^ (7 * j) := by
      have := Nat.shiftLeft_add_eq_or_of_lt ha y
      rw [Nat.shiftLeft_eq] at this
      rw [Nat.or_comm, ← this, Nat.add_comm]
    rw [this]
    exact wrap_u64 (by omega) (by omega)
  rw [h2]
  have := Nat.shiftLeft_add_eq_or_of_lt ha y
  rw [Nat.shiftLeft_eq] at this
  rw [Nat.or_comm, ← this, Nat.add_comm]
def GetI (l : List UInt8) (j : Nat) (s : St) : Prop := ∃ T H acc, s = ⟨52, 0, T, H⟩ ∧ T 8 = .d (.lst (l.map encB)) ∧ T 9 = .d (.s (.int .i64 l.length)) ∧ T 10 = .d (.s (.int .i64 j)) ∧ T 5 = .d (.s (.int .u64 (acc : Nat))) ∧ acc < 2 ^ (7 * j) ∧ j ≤ l.length ∧ getL l = getFrom j acc (l.drop j)
theorem Get_ev (ext : Exts) (hx : ext 33 = none) (l : List UInt8) (hl : l.length ≤ 9223372036854775807) : evr Tryd.prog ext 33 [.lst (l.map encB)] = some (.tup (getR l)) := by
  refine evr_body (n := 20) hx (body_of _ _ _ _ Tryd.f33 _ _ _ Tryd.func33 rfl (by simp [Tryd.ntmps33]) (by decide) ?_)
  simp [Tryd.ntmps33, Tryd.results33]
  refine Wk_loop (GetI l) 10 (by decide) ?_ ?_
  · exact ⟨_, _, 0, rfl, by simp, by simp, by simp, by simp, by simp, by simp, rfl⟩
  · rintro j s hj ⟨T, H, acc, rfl, hT8, hT9, hT10, hT5, hacc, hjl, hg⟩
    by_cases hlt : j < l.length
    · generalize hx : l[j] = x
      have hxb := x.toNat_lt
      have hd : l.drop j = x :: l.drop (j + 1) := by rw [List.drop_eq_getElem_cons hlt, hx]
      rw [hd, getFrom] at hg
      by_cases c1 : (j = 9 ∧ 1 < x.toNat) ∨ 9 < j
      · rw [if_pos c1] at hg
        by_cases g9 : 9 < j
        · have n9 : ¬ (j : Int) = 9 := by omega
          have g9' : (9 : Int) < (j : Int) := by omega
          simp [hT8, hT9, hT10, hT5, hlt, hx, encB, n9, g9', getR, hg]
        · obtain rfl : j = 9 := by omega
          have hl9 : (9 : Int) < (l.length : Int) := by omega
          have x1 : ¬ (x.toNat : Int) ≤ 1 := by omega
          have x2 : (1 : Int) < (x.toNat : Int) := by omega
          simp [hT8, hT9, hT10, hT5, hlt, hl9, hx, encB, x1, x2, getR, hg]
      · rw [if_neg c1] at hg
        have n9 : ¬ (9 : Int) < (j : Int) := by omega
        have hj64 : (7 * (j : Int)).toNat = 7 * j := by omega
        have hm : min (7 * j) 64 = 7 * j := by omega
        have hw7 : IntKind.i64.wrap (7 * (j : Int)) = 7 * (j : Int) := wrap_i64 (by omega) (by omega)
        have hnn : ¬ 7 * (j : Int) < 0 := by omega
        obtain ⟨ho, hacc2, hacc64⟩ := or_group acc j (x.toNat % 128) hacc (by omega) (by omega) (by omega)
        have hwy : IntKind.u64.wrap (((x.toNat % 128 : Nat) : Int)) = ((x.toNat % 128 : Nat) : Int) := wrap_u64 (by omega) (by omega)
        have han := andNot128 x
        have hk1 : IntKind.i64.wrap ((j : Int) + 1) = (j : Int) + 1 := wrap_i64 (by omega) (by omega)
        simp only [Int.natCast_emod, Int.cast_ofNat_Int] at ho hwy han
        generalize hA : acc + x.toNat % 128 * 2 ^ (7 * j) = acc2 at *
        have hnext : ∀ (T : Nat → A) (H : Nat → O), T 8 = .d (.lst (l.map encB)) → T 9 = .d (.s (.int .i64 l.length)) → T 10 = .d (.s (.int .i64 ((j : Int) + 1))) → T 5 = .d (.s (.int .u64 (acc2 : Nat))) → getL l = getFrom (j + 1) acc2 (l.drop (j + 1)) → GetI l (j + 1) ⟨52, 0, T, H⟩ := fun T H h1 h2 h3 h4 h5 =>
          ⟨T, H, acc2, rfl, h1, h2, by rw [h3]; rfl, h4, hacc2, by omega, h5⟩
        have hz := unzig_bits acc2 hacc64
        by_cases e9 : (j : Int) = 9
        · obtain rfl : j = 9 := by omega
          have hl9 : (9 : Int) < (l.length : Int) := by omega
          have x1 : ¬ (1 : Int) < (x.toNat : Int) := by omega
          have x2 : (x.toNat : Int) < 128 := by omega
          have h63 : IntKind.i64.wrap 63 = 63 := by decide
          rw [if_pos (by omega)] at hg
          have h10 : IntKind.i64.wrap 10 = 10 := by decide
          have ho63 : bits .or .u64 (acc : Int) (IntKind.u64.wrap ((x.toNat : Int) % 128 * 9223372036854775808)) = (acc2 : Nat) := ho
          by_cases c3 : x.toNat = 0
          · rw [if_pos ⟨c3, by omega⟩] at hg
            simp [hT8, hT9, hT10, hT5, hlt, hl9, hx, encB, x1, x2, getR, hg, han, hwy, h63, c3]
          · rw [if_neg (by omega)] at hg
            simp [hT8, hT9, hT10, hT5, hlt, hl9, hx, encB, x1, x2, getR, hg, han, hwy, h63, ho63, c3, hz, h10]
        · by_cases c2 : x.toNat < 128
          · have c2' : (x.toNat : Int) < 128 := by omega
            rw [if_pos c2] at hg
            by_cases c3 : x.toNat = 0 ∧ 0 < j
            · rw [if_pos c3] at hg
              have c3' : (0 : Int) < (j : Int) := by omega
              simp [hT8, hT9, hT10, hT5, hlt, hx, encB, n9, e9, getR, hg, han, hwy, hw7, hnn, hj64, hm, ho, c2', c3.1, c3', c3.2]
            · rw [if_neg c3] at hg
              by_cases c0 : x.toNat = 0
              · obtain rfl : j = 0 := by omega
                have h00 : bits .andNot .u8 0 128 = 0 := by decide
                have hw0 : IntKind.u64.wrap 0 = 0 := by decide
                have hi0 : IntKind.i64.wrap 0 = 0 := by decide
                have hi1 : IntKind.i64.wrap 1 = 1 := by decide
                have ho0 : bits .or .u64 (acc : Int) 0 = (acc2 : Nat) := by
                  rw [← ho, c0]; simp [hw0]
                have hlt0 : (0 : Int) < (l.length : Int) := by omega
                simp [hT8, hT9, hT10, hT5, hlt, hlt0, hx, encB, getR, hg, h00, hw0, hi0, hi1, ho0, c0, hz]
              · simp [hT8, hT9, hT10, hT5, hlt, hx, encB, n9, e9, getR, hg, han, hwy, hw7, hnn, hj64, hm, ho, c2', c0, hz, hk1]
          · have c2' : ¬ (x.toNat : Int) < 128 := by omega
            rw [if_neg c2] at hg
            simp [hT8, hT9, hT10, hT5, hlt, hx, encB, n9, e9, han, hwy, hw7, hnn, hj64, hm, ho, c2', hk1]
            exact ⟨by omega, hnext _ _ (by simp [hT8]) (by simp [hT9]) (by simp) (by simp) hg⟩
    · have e : j = l.length := by omega
      rw [List.drop_eq_nil_of_le (by omega), getFrom] at hg
      simp [hT8, hT9, hT10, hT5, hlt, getR, hg]
end Go.Proofs.YtkflfgkmbgjohaaDoor
