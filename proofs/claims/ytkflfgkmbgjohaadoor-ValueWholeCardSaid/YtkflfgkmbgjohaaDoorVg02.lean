/-
  WHAT IS PROVED HERE: what the document's digits and Show answer.
-/
import Derived.Test.YtkflfgkmbgjohaaDoorVf02
import Derived.Test.YtkflfgkmbgjohaaDoorSim5
set_option linter.unusedVariables false
set_option linter.unusedSimpArgs false
namespace Go.Proofs.YtkflfgkmbgjohaaDoor
open Go Go.RowKit

attribute [local simp] bd23 ts23 ta23 fa23_0 fa23_1 fa23_2 tz23 eq23 ne23 ta3 ta9 ts3 ts9 ta4 ts4
attribute [local simp] ts5 ta5 tz5 te32 ts48 tb5 headOk_encB indexAddrE idxE
theorem bs_append (a b : List UInt8) : (⟨a.toArray⟩ : ByteArray) ++ ⟨b.toArray⟩ = ⟨(a ++ b).toArray⟩ := by
  apply ByteArray.ext
  rw [ByteArray.data_append]
  simp
theorem decDigits_len (u : Nat) (h : u < 18446744073709551616) : (Lib.decDigits u).length ≤ 20 := by
  rw [Lib.decDigits_length]; exact nDigits_le 19 u (by omega)
theorem digits_ev (u : Nat) : ∀ (hu : u < 18446744073709551616), evr Tryd.prog ext2 31 [.s (.int .u64 (u : Nat))] = some (.val (.s (.string ⟨(Lib.decDigits u).toArray⟩))) := by
  induction u using Nat.strongRecOn with
  | _ u ih =>
    intro hu
    refine evr_body (n := 5) rfl (body_of _ _ _ _ Tryd.f31 _ _ _ Tryd.func31 rfl (by simp [Tryd.ntmps31]) (by decide) ?_)
    have hm : (u : Int).tmod 10 = ((u % 10 : Nat) : Int) := by rw [Int.tmod_eq_emod_of_nonneg (by omega)]; omega
    have hq : (u : Int).tdiv 10 = ((u / 10 : Nat) : Int) := by rw [Int.tdiv_eq_ediv_of_nonneg (by omega)]; omega
    have hw1 : IntKind.u64.wrap (48 + ((u % 10 : Nat) : Int)) = 48 + ((u % 10 : Nat) : Int) := wrap_u64 (by omega) (by omega)
    have hw2 : IntKind.u8.wrap (48 + ((u % 10 : Nat) : Int)) = 48 + ((u % 10 : Nat) : Int) := wrap_u8 (by omega) (by omega)
    have hw3 : IntKind.u64.wrap ((u / 10 : Nat) : Int) = ((u / 10 : Nat) : Int) := wrap_u64 (by omega) (by omega)
    have hd : (48 + ((u % 10 : Nat) : Int)).toNat = 48 + u % 10 := by omega
    rw [Lib.decDigits]
    by_cases h : u < 10
    · have h' : (u : Int) < 10 := by omega
      have hlt : u % 10 = u := by omega
      rw [dif_pos h]
      rw [hlt] at hm hw1 hw2 hd
      simp [Tryd.ntmps31, Tryd.results31, -Int.natCast_emod, -Int.natCast_ediv, hm, hw1, hw2, hd, h', convertE, bytesOfD]
    · have h' : ¬ (u : Int) < 10 := by omega
      have hrec := ih (u / 10) (by omega) (by omega)
      have hl := decDigits_len (u / 10) (by omega)
      have hsz : (⟨(Lib.decDigits (u / 10)).toArray⟩ : ByteArray).size + 1 ≤ 9223372036854775807 := by
        show (Lib.decDigits (u / 10)).toArray.size + 1 ≤ _
        rw [List.size_toArray]; omega
      rw [dif_neg h, ← bs_append]
      simp [Tryd.ntmps31, Tryd.results31, -Int.natCast_emod, -Int.natCast_ediv, hm, hq, hw1, hw2, hw3, hd, h', convertE, bytesOfD, hrec]
      exact hsz
theorem bs_size (l : List UInt8) : (⟨l.toArray⟩ : ByteArray).size = l.length := by show l.toArray.size = _; rw [List.size_toArray]
theorem bs_extract (s : ByteArray) (i : Nat) (h : i < s.size) : s.extract i (i + 1) = ⟨[s.data.toList.getD i 0].toArray⟩ := by
  apply ByteArray.ext
  rw [ByteArray.data_extract]
  apply Array.ext'
  have hi : i < s.data.size := h
  rw [Array.toList_extract, List.extract_eq_take_drop, List.getD_eq_getElem?_getD, List.getElem?_eq_getElem (by simpa using hi)]
  have e : i + 1 - i = 1 := by omega
  rw [e, List.drop_eq_getElem_cons (by simpa using hi)]
  rfl
theorem quoteL_snoc (l : List UInt8) (i : Nat) (h : i < l.length) : quoteL (l.take (i + 1)) = quoteL (l.take i) ++ (if l.getD i 0 = 39 then [39, 39] else [l.getD i 0]) := by
  rw [List.take_succ_eq_append_getElem h]
  unfold quoteL
  rw [List.flatMap_append, List.getD_eq_getElem?_getD, List.getElem?_eq_getElem h]
  simp
def RefShowI (k n : Int) (s : ByteArray) (j : Nat) (st : St) : Prop := ∃ T H v, st = ⟨50, 0, T, H⟩ ∧ T 1 = .bp 1 v 0 ∧ H 1 = .box v [.d (.s (.int .i64 k)), .d (.s (.int .i64 n)), .d (.s (.string s))] ∧ T 3 = .d (.s (.string ⟨(39 :: quoteL (s.data.toList.take j)).toArray⟩)) ∧ T 4 = .d (.s (.int .i64 (j : Nat))) ∧ j ≤ s.size
theorem RefShow_ev (k n : Int) (s : ByteArray) (hs : s.size ≤ 1000) (h0 : -9223372036854775808 ≤ n) (h1 : n ≤ 9223372036854775807) : evr Tryd.prog ext2 17 [.agg [.s (.int .i64 k), .s (.int .i64 n), .s (.string s)]] = some (.val (.s (.string (showV ⟨k, n, s⟩)))) := by
  refine evr_body (n := s.size + 5) rfl (body_of _ _ _ _ Tryd.f17 _ _ _ Tryd.func17 rfl (by simp [Tryd.ntmps17]) (by decide) ?_)
  unfold showV showL
  dsimp only
  by_cases k0 : k = 0
  · subst k0
    simp [Tryd.ntmps17, Tryd.results17]
  · by_cases k1 : k = 1
    · subst k1
      by_cases hn : n < 0
      · have hw : IntKind.u64.wrap (0 - IntKind.u64.wrap n) = ((n.natAbs : Nat) : Int) := by rw [IntKind.wrap_u64, IntKind.wrap_u64]; omega
        have hd := digits_ev n.natAbs (by omega)
        have hl := decDigits_len n.natAbs (by omega)
        have e : Lib.itoa n = [45] ++ Lib.decDigits n.natAbs := by unfold Lib.itoa; rw [if_pos hn]; rfl
        have hz : (⟨#[45]⟩ : ByteArray).size + (⟨(Lib.decDigits n.natAbs).toArray⟩ : ByteArray).size ≤ 9223372036854775807 := by rw [bs_size, bs_size]; simp; omega
        rw [if_neg (by decide), if_pos rfl, e, ← bs_append]
        clear e hl
        generalize n.natAbs = m at *
        simp [Tryd.ntmps17, Tryd.results17, hn, hw, hd, hz, -Int.zero_sub]
      · obtain ⟨m, rfl⟩ : ∃ m : Nat, n = (m : Int) := ⟨n.toNat, by omega⟩
        have hw : IntKind.u64.wrap (m : Int) = (m : Int) := wrap_u64 (by omega) (by omega)
        have hd := digits_ev m (by omega)
        have e : Lib.itoa (m : Int) = Lib.decDigits m := Lib.itoa_nonneg m
        rw [if_neg (by decide), if_pos rfl, e]
        simp [Tryd.ntmps17, Tryd.results17, hn, hw, hd]
    · by_cases k2 : k = 2
      · subst k2
        rw [if_neg k0, if_neg k1, if_pos rfl]
        have hout : (⟨(39 :: (quoteL s.data.toList ++ [39])).toArray⟩ : ByteArray) = ⟨(39 :: (quoteL s.data.toList ++ [39])).toArray⟩ := rfl
        generalize hO : (⟨(39 :: (quoteL s.data.toList ++ [39])).toArray⟩ : ByteArray) = out at *
        simp [Tryd.ntmps17, Tryd.results17]
        have hsz : s.data.toList.length = s.size := Array.length_toList
        refine Wk_loop (RefShowI 2 n s) s.size (by omega) ?_ ?_
        · exact ⟨_, _, 1, rfl, by simp, by simp, by simp [quoteL], by simp, by omega⟩
        · rintro j st hj ⟨T, H, v, rfl, hT1, hH1, hT3, hT4, hjs⟩
          have hql := quoteL_len (s.data.toList.take j)
          have htk : (s.data.toList.take j).length ≤ s.size := by rw [List.length_take]; omega
          by_cases hlt : j < s.size
          · have hlt' : (j : Int) < (s.size : Int) := by omega
            have hj0 : (0 : Int) ≤ (j : Int) := by omega
            have hk1 : IntKind.i64.wrap ((j : Int) + 1) = (j : Int) + 1 := wrap_i64 (by omega) (by omega)
            have hle1 : (j : Int) ≤ (j : Int) + 1 := by omega
            have hle2 : (j : Int) + 1 ≤ (s.size : Int) := by omega
            have htn : ((j : Int) + 1).toNat = j + 1 := by omega
            have hex := bs_extract s j hlt
            have hqs := quoteL_snoc s.data.toList j (by omega)
            have hnext : ∀ (T : Nat → A) (H : Nat → O) (v : Nat), T 1 = .bp 1 v 0 → H 1 = .box v [.d (.s (.int .i64 2)), .d (.s (.int .i64 n)), .d (.s (.string s))] → T 3 = .d (.s (.string ⟨(39 :: quoteL (s.data.toList.take (j + 1))).toArray⟩)) → T 4 = .d (.s (.int .i64 ((j : Int) + 1))) → RefShowI 2 n s (j + 1) ⟨50, 0, T, H⟩ := fun T H v a1 a2 a3 a4 => ⟨T, H, v, rfl, a1, a2, a3, by rw [a4]; rfl, by omega⟩
            have hxd : s.data.toList.getD j 0 = s.data[j]'hlt := by rw [List.getD_eq_getElem?_getD, List.getElem?_eq_getElem (by rw [hsz]; exact hlt)]; simp
            rw [hxd] at hex hqs
            have hbl := (s.data[j]'hlt).toNat_lt
            have hz1 : (⟨(39 :: quoteL (s.data.toList.take j)).toArray⟩ : ByteArray).size + 1 ≤ 9223372036854775807 := by rw [bs_size, List.length_cons]; omega
            have h1s : (⟨#[39]⟩ : ByteArray).size = 1 := rfl
            by_cases hc : s.data[j]'hlt = 39
            · have hcn : (((s.data[j]'hlt).toNat : Nat) : Int) = 39 := by rw [hc]; rfl
              rw [hc] at hex hqs
              have hz2 : ((⟨(39 :: quoteL (s.data.toList.take j)).toArray⟩ : ByteArray) ++ ⟨#[39]⟩).size + 1 ≤ 9223372036854775807 := by rw [ByteArray.size_append, bs_size, List.length_cons]; show _ + 1 + 1 ≤ _; omega
              have he : ((⟨(39 :: quoteL (s.data.toList.take j)).toArray⟩ : ByteArray) ++ ⟨#[39]⟩) ++ ⟨#[39]⟩ = ⟨(39 :: quoteL (s.data.toList.take (j + 1))).toArray⟩ := by
                rw [hqs, if_pos rfl]
                have := bs_append (39 :: quoteL (s.data.toList.take j)) [39]
                rw [show (⟨#[39]⟩ : ByteArray) = ⟨[(39 : UInt8)].toArray⟩ from rfl, this, bs_append]
                simp
              rw [← he] at hnext
              clear hqs
              generalize hA : (⟨(39 :: quoteL (s.data.toList.take j)).toArray⟩ : ByteArray) = acc at *
              have hex' : s.extract j (j + 1) = ⟨#[39]⟩ := hex
              simp [Tryd.ntmps17, Tryd.results17, hT1, hH1, hT3, hT4, hlt, hlt', hj0, hk1, hle1, hle2, htn, hex', hc, hcn, idx_str, sliceAt_str, hz1, hz2, h1s]
              first | exact hnext _ _ v (by simp [hT1]) (by simp [hH1]) (by simp) (by simp) | exact ⟨by rw [ByteArray.size_append, h1s] at hz2; omega, hnext _ _ v (by simp [hT1]) (by simp [hH1]) (by simp) (by simp)⟩
            · have hcn : ¬ (((s.data[j]'hlt).toNat : Nat) : Int) = 39 := fun h => hc (UInt8.toNat_inj.1 (by rw [show (39 : UInt8).toNat = 39 from rfl]; omega))
              rw [if_neg hc] at hqs
              have he : (⟨(39 :: quoteL (s.data.toList.take j)).toArray⟩ : ByteArray) ++ ⟨#[s.data[j]'hlt]⟩ = ⟨(39 :: quoteL (s.data.toList.take (j + 1))).toArray⟩ := by
                rw [hqs]
                have := bs_append (39 :: quoteL (s.data.toList.take j)) [s.data[j]'hlt]
                rw [show (⟨#[s.data[j]'hlt]⟩ : ByteArray) = ⟨[s.data[j]'hlt].toArray⟩ from rfl, this]
                simp
              have h1x : (⟨#[s.data[j]'hlt]⟩ : ByteArray).size = 1 := rfl
              rw [← he] at hnext
              clear hqs
              generalize hA : (⟨(39 :: quoteL (s.data.toList.take j)).toArray⟩ : ByteArray) = acc at *
              have hex' : s.extract j (j + 1) = ⟨#[s.data[j]'hlt]⟩ := hex
              simp [Tryd.ntmps17, Tryd.results17, hT1, hH1, hT3, hT4, hlt, hlt', hj0, hk1, hle1, hle2, htn, hex', hcn, idx_str, sliceAt_str, hz1, h1s, h1x]
              first | exact hnext _ _ v (by simp [hT1]) (by simp [hH1]) (by simp) (by simp) | exact ⟨by omega, hnext _ _ v (by simp [hT1]) (by simp [hH1]) (by simp) (by simp)⟩
          · obtain rfl : j = s.size := by omega
            have hz1 : (⟨(39 :: quoteL (s.data.toList.take s.size)).toArray⟩ : ByteArray).size + 1 ≤ 9223372036854775807 := by rw [bs_size, List.length_cons]; omega
            have h1s : (⟨#[39]⟩ : ByteArray).size = 1 := rfl
            have he : (⟨(39 :: quoteL (s.data.toList.take s.size)).toArray⟩ : ByteArray) ++ ⟨#[39]⟩ = ⟨(39 :: (quoteL s.data.toList ++ [39])).toArray⟩ := by
              rw [List.take_of_length_le (by omega)]
              have := bs_append (39 :: quoteL s.data.toList) [39]
              rw [show (⟨#[39]⟩ : ByteArray) = ⟨[(39 : UInt8)].toArray⟩ from rfl, this]
              simp
            rw [hO] at he
            subst he
            clear hO hout
            generalize hA : (⟨(39 :: quoteL (s.data.toList.take s.size)).toArray⟩ : ByteArray) = acc at *
            simp [Tryd.ntmps17, Tryd.results17, hT1, hH1, hT3, hT4, hz1, h1s]
      · rw [if_neg k0, if_neg k1, if_neg k2]
        simp [Tryd.ntmps17, Tryd.results17, k0, k1, k2]
end Go.Proofs.YtkflfgkmbgjohaaDoor
