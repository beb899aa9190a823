/-
  WHAT IS PROVED HERE: what is shown is read back, and bytes are got back; nothing else is read; both ways of reading are one. Plain Lean, no program in sight.
-/
import Derived.Test.YtkflfgkmbgjohaaDoorVh02
set_option linter.unusedVariables false
set_option linter.unusedSimpArgs false
namespace Go.Proofs.YtkflfgkmbgjohaaDoor
open Go Go.RowKit

theorem str_nil {s : ByteArray} (h : s.toList = []) : s = ⟨#[]⟩ := toList_inj (by rw [h, ByteArray.toList_eq])
theorem right_cases {x : Val} (h : rightV x = true) : x = ⟨0, 0, ⟨#[]⟩⟩ ∨ (∃ n : Int, x = ⟨1, n, ⟨#[]⟩⟩ ∧ -1099511627776 ≤ n ∧ n ≤ 1099511627776) ∨ ∃ t : ByteArray, x = ⟨2, 0, t⟩ ∧ t.size ≤ 200 := by
  obtain ⟨k, n, s⟩ := x
  unfold rightV at h
  dsimp only at h
  by_cases k0 : k = 0
  · rw [if_pos k0] at h
    simp only [Bool.and_eq_true, decide_eq_true_eq] at h
    left
    rw [k0, h.1, str_nil h.2]
  · rw [if_neg k0] at h
    by_cases k1 : k = 1
    · rw [if_pos k1] at h
      simp only [Bool.and_eq_true, decide_eq_true_eq] at h
      right; left
      exact ⟨n, by rw [k1, str_nil h.1], h.2⟩
    · rw [if_neg k1] at h
      simp only [Bool.and_eq_true, decide_eq_true_eq] at h
      right; right
      exact ⟨s, by rw [h.1, h.2.1], h.2.2⟩
theorem right_size {x : Val} (h : rightV x = true) : x.s.size ≤ 200 := by
  rcases right_cases h with rfl | ⟨n, rfl, _⟩ | ⟨t, rfl, ht⟩
  · show (0 : Nat) ≤ 200; omega
  · show (0 : Nat) ≤ 200; omega
  · exact ht
theorem right_n {x : Val} (h : rightV x = true) : -1099511627776 ≤ x.n ∧ x.n ≤ 1099511627776 := by
  rcases right_cases h with rfl | ⟨n, rfl, h1⟩ | ⟨t, rfl, ht⟩
  · show (-1099511627776 : Int) ≤ 0 ∧ (0 : Int) ≤ _; omega
  · exact h1
  · show (-1099511627776 : Int) ≤ 0 ∧ (0 : Int) ≤ _; omega
theorem bs_list (l : List UInt8) : (⟨l.toArray⟩ : ByteArray).toList = l := by rw [ByteArray.toList_eq]
theorem bs_data (l : List UInt8) : (⟨l.toArray⟩ : ByteArray).data.toList = l := rfl
theorem bs_eta (s : ByteArray) : (⟨s.data.toList.toArray⟩ : ByteArray) = s := by apply ByteArray.ext; simp
theorem itoa_head (n : Int) : ∃ c r, Lib.itoa n = c :: r ∧ c.toNat ≤ 57 ∧ c.toNat ≠ 39 := by
  unfold Lib.itoa
  split
  · exact ⟨45, _, rfl, by decide, by decide⟩
  · obtain ⟨d, r, hd, e⟩ := decDigits_head n.toNat
    exact ⟨_, r, e, by rw [digit_nat hd]; omega, by rw [digit_nat hd]; omega⟩
theorem trim_back (l : List UInt8) : Lib.trimSuffix (l ++ [39]) [39] = l := by
  unfold Lib.trimSuffix Lib.hasSuffix
  rw [if_pos (by simp [List.isSuffixOf])]
  simp
theorem guess_show {x : Val} (h : rightV x = true) : guessV (showV x) = x := by
  rcases right_cases h with rfl | ⟨n, rfl, h1, h2⟩ | ⟨t, rfl, ht⟩
  · have e : showV ⟨0, 0, ⟨#[]⟩⟩ = ⟨#[110, 117, 108, 108]⟩ := rfl
    rw [e]
    unfold guessV
    rw [if_pos (by rw [ByteArray.toList_eq])]
  · have e : showV ⟨1, n, ⟨#[]⟩⟩ = ⟨(Lib.itoa n).toArray⟩ := rfl
    rw [e]
    unfold guessV
    obtain ⟨c, r, hc, h57, h39⟩ := itoa_head n
    have ha := atoi_itoa n (by omega) (by omega)
    rw [bs_list, bs_data]
    rw [if_neg (by rw [hc]; intro hh; simp only [List.cons.injEq] at hh; rw [hh.1] at h57; exact absurd h57 (by decide)), if_neg (by rw [hc]; unfold Lib.hasPrefix; simp only [List.isPrefixOf, Bool.and_true, beq_iff_eq]; intro hh; rw [← hh] at h39; exact h39 rfl), ha]
  · have e : showV ⟨2, 0, t⟩ = ⟨(39 :: (quoteL t.data.toList ++ [39])).toArray⟩ := rfl
    rw [e]
    unfold guessV
    rw [bs_list, bs_data, if_neg (by intro hh; simp only [List.cons.injEq] at hh; exact absurd hh.1 (by decide)), if_pos (by unfold Lib.hasPrefix; simp [List.isPrefixOf])]
    have e1 : Lib.trimPrefix (39 :: (quoteL t.data.toList ++ [39])) [39] = quoteL t.data.toList ++ [39] := by
      unfold Lib.trimPrefix Lib.hasPrefix
      rw [if_pos (by simp [List.isPrefixOf])]; rfl
    rw [e1, trim_back, replace_back, bs_eta]
theorem read_ok {s : ByteArray} {x : Val} (h : okV s x = true) : readV s = some x := by
  unfold okV at h
  simp only [Bool.and_eq_true, decide_eq_true_eq] at h
  obtain ⟨h1, rfl⟩ := h
  unfold readV
  rw [guess_show h1, if_pos ⟨h1, rfl⟩]
theorem read_some {s : ByteArray} {x : Val} (h : readV s = some x) : rightV x = true ∧ showV x = s := by
  unfold readV at h
  split at h
  · rename_i hc
    simp only [Option.some.injEq] at h
    subst h
    exact hc
  · cases h
theorem read_back {x : Val} (h : rightV x = true) : readV (showV x) = some x := read_ok (by unfold okV; rw [h]; simp)
theorem show_inj {x y : Val} (h : rightV x = true) (k : rightV y = true) (e : showV x = showV y) : x = y := by rw [← guess_show h, e, guess_show k]
theorem show_size {x : Val} (h : rightV x = true) : (showV x).size ≤ 1000 := by
  rcases right_cases h with rfl | ⟨n, rfl, h1, h2⟩ | ⟨t, rfl, ht⟩
  · show (4 : Nat) ≤ 1000; omega
  · show (Lib.itoa n).toArray.size ≤ 1000
    rw [List.size_toArray]
    unfold Lib.itoa
    split
    · have := decDigits_len n.natAbs (by omega)
      rw [List.length_cons]; omega
    · have := decDigits_len n.toNat (by omega)
      omega
  · show (39 :: (quoteL t.data.toList ++ [39])).toArray.size ≤ 1000
    rw [List.size_toArray]
    have := quoteL_len t.data.toList
    have h4 : t.data.toList.length = t.size := Array.length_toList
    simp only [List.length_cons, List.length_append, List.length_nil]; omega
theorem inner_quote (t : List UInt8) : innerL (39 :: (quoteL t ++ [39])) = quoteL t := by
  unfold innerL
  simp
/-- Both ways of reading are one. -/
theorem read_same (s : ByteArray) : readV s = refReadV s := by
  unfold refReadV
  by_cases hnull : s.toList = [110, 117, 108, 108]
  · rw [if_pos hnull]
    have hs : s = showV ⟨0, 0, ⟨#[]⟩⟩ := toList_inj (by rw [hnull]; show _ = (⟨#[110, 117, 108, 108]⟩ : ByteArray).toList; rw [ByteArray.toList_eq])
    rw [hs]
    exact read_back (by simp [rightV, ByteArray.toList_eq])
  · rw [if_neg hnull]
    cases hf : (refCands s).find? (okV s) with
    | some x => exact read_ok (List.find?_some hf)
    | none =>
      have hnone : ∀ x ∈ refCands s, okV s x = false := fun x hx => by
        have := List.find?_eq_none.1 hf x hx
        simpa using this
      cases hr : readV s with
      | none => rfl
      | some x =>
        exfalso
        obtain ⟨h1, h2⟩ := read_some hr
        have hok : okV s x = true := by unfold okV; rw [h1, h2]; simp
        rcases right_cases h1 with rfl | ⟨n, rfl, hn1, hn2⟩ | ⟨t, rfl, ht⟩
        · apply hnull
          rw [← h2]
          show (⟨#[110, 117, 108, 108]⟩ : ByteArray).toList = _
          rw [ByteArray.toList_eq]
        · have hn : numL s.data.toList = n.natAbs := by
            rw [← h2]
            exact numL_itoa n (by omega) (by omega)
          by_cases hneg : n < 0
          · have hm : (⟨1, n, ⟨#[]⟩⟩ : Val) ∈ refCands s := by
              unfold refCands
              rw [hn]
              have : -(n.natAbs : Int) = n := by omega
              rw [this]; simp
            rw [hnone _ hm] at hok; cases hok
          · have hm : (⟨1, n, ⟨#[]⟩⟩ : Val) ∈ refCands s := by
              unfold refCands
              rw [hn]
              have : ((n.natAbs : Nat) : Int) = n := by omega
              rw [this]; simp
            rw [hnone _ hm] at hok; cases hok
        · have hi : unqL (innerL s.data.toList) = t.data.toList := by
            rw [← h2]
            show unqL (innerL (39 :: (quoteL t.data.toList ++ [39]))) = _
            rw [inner_quote, unqL_quote]
          have hm : (⟨2, 0, t⟩ : Val) ∈ refCands s := by
            unfold refCands
            rw [hi, bs_eta]; simp
          rw [hnone _ hm] at hok; cases hok

/-! ### bytes -/
theorem u8_small (k : Nat) (h : k < 256) : UInt8.ofNat (IntKind.u8.wrap (k : Int)).toNat = UInt8.ofNat k := by
  rw [wrap_u8 (by omega) (by omega)]; rfl
theorem bytes_0 : bytesV ⟨0, 0, ⟨#[]⟩⟩ = [0] := by
  unfold bytesV
  dsimp only
  rw [if_neg (by decide), if_neg (by decide)]
  rfl
theorem bytes_1 (n : Int) (s : ByteArray) : bytesV ⟨1, n, s⟩ = 1 :: putL n := by
  unfold bytesV
  dsimp only
  rw [if_pos rfl]
  rfl
theorem bytes_2 (n : Int) (s : ByteArray) : bytesV ⟨2, n, s⟩ = 2 :: textL s.data.toList := by
  unfold bytesV
  dsimp only
  rw [if_neg (by decide), if_pos rfl]
  rfl
theorem get_bytes {x : Val} (h : rightV x = true) (more : List UInt8) : getV (bytesV x ++ more) = some (x, (bytesV x).length) := by
  have h' := h
  rcases right_cases h with rfl | ⟨n, rfl, h1, h2⟩ | ⟨t, rfl, ht⟩
  · rw [bytes_0]
    unfold getV
    show (if (0 : UInt8).toNat = 1 then _ else if (0 : UInt8).toNat = 2 then _ else if rightV ⟨((0 : UInt8).toNat : Int), 0, ⟨#[]⟩⟩ = true then some ((⟨((0 : UInt8).toNat : Int), 0, ⟨#[]⟩⟩ : Val), 1) else none) = _
    rw [if_neg (by decide), if_neg (by decide), if_pos (show rightV ⟨((0 : UInt8).toNat : Int), 0, ⟨#[]⟩⟩ = true from h')]
    rfl
  · rw [bytes_1]
    unfold getV
    show (if (1 : UInt8).toNat = 1 then (match getL (putL n ++ more) with | some (u, k) => if rightV ⟨1, Lib.unzigzag u, ⟨#[]⟩⟩ = true then some ((⟨1, Lib.unzigzag u, ⟨#[]⟩⟩ : Val), k + 1) else none | none => none) else _) = _
    have hg : getL (putL n ++ more) = some (Lib.zigzag n, (putL n).length) := getL_put _ (zig_lt n (by omega) (by omega)) more
    rw [if_pos (show UInt8.toNat 1 = 1 from rfl), hg]
    dsimp only
    rw [unzigzag_zigzag, if_pos h']
    simp
  · rw [bytes_2]
    unfold getV
    show (if (2 : UInt8).toNat = 1 then _ else if (2 : UInt8).toNat = 2 then (match getTextL (textL t.data.toList ++ more) with | some (u, k) => if rightV ⟨2, 0, ⟨u.toArray⟩⟩ = true then some ((⟨2, 0, ⟨u.toArray⟩⟩ : Val), k + 1) else none | none => none) else _) = _
    have h4 : t.data.toList.length = t.size := Array.length_toList
    have hg := getTextL_put t.data.toList more (by omega)
    rw [if_neg (by decide), if_pos (show UInt8.toNat 2 = 2 from rfl), hg]
    dsimp only
    rw [bs_eta, if_pos h']
    simp
theorem get_some {b : List UInt8} {x : Val} {n : Nat} (h : getV b = some (x, n)) : rightV x = true ∧ n = (bytesV x).length ∧ ∃ r, b = bytesV x ++ r := by
  unfold getV at h
  cases b with
  | nil => cases h
  | cons c r =>
    dsimp only at h
    by_cases c1 : c.toNat = 1
    · rw [if_pos c1] at h
      have hc : c = 1 := UInt8.toNat_inj.1 c1
      cases hg : getL r with
      | none => rw [hg] at h; cases h
      | some p =>
        obtain ⟨u, k⟩ := p
        rw [hg] at h
        dsimp only at h
        split at h
        · rename_i hr
          simp only [Option.some.injEq, Prod.mk.injEq] at h
          obtain ⟨rfl, rfl⟩ := h
          obtain ⟨hu, rfl, r', rfl⟩ := getL_some hg
          have e : putL (Lib.unzigzag u) = Lib.uvarint u := by unfold putL; rw [zigzag_unzigzag]
          rw [bytes_1, e, hc]
          exact ⟨hr, rfl, r', rfl⟩
        · cases h
    · rw [if_neg c1] at h
      by_cases c2 : c.toNat = 2
      · rw [if_pos c2] at h
        have hc : c = 2 := UInt8.toNat_inj.1 c2
        cases hg : getTextL r with
        | none => rw [hg] at h; cases h
        | some p =>
          obtain ⟨t, k⟩ := p
          rw [hg] at h
          dsimp only at h
          split at h
          · rename_i hr
            simp only [Option.some.injEq, Prod.mk.injEq] at h
            obtain ⟨rfl, rfl⟩ := h
            obtain ⟨rfl, r', rfl⟩ := getTextL_some hg
            rw [bytes_2, hc]
            exact ⟨hr, rfl, r', rfl⟩
          · cases h
      · rw [if_neg c2] at h
        split at h
        · rename_i hr
          simp only [Option.some.injEq, Prod.mk.injEq] at h
          obtain ⟨rfl, rfl⟩ := h
          have hc : c = 0 := by
            rcases right_cases hr with e | ⟨n, e, _⟩ | ⟨t, e, _⟩
            · have := congrArg Val.kind e
              dsimp only at this
              exact UInt8.toNat_inj.1 (by show c.toNat = 0; omega)
            · have := congrArg Val.kind e
              dsimp only at this
              omega
            · have := congrArg Val.kind e
              dsimp only at this
              omega
          subst hc
          refine ⟨hr, ?_, r, ?_⟩
          · show 1 = (bytesV ⟨0, 0, ⟨#[]⟩⟩).length
            rw [bytes_0]; rfl
          · show 0 :: r = bytesV ⟨0, 0, ⟨#[]⟩⟩ ++ r
            rw [bytes_0]; rfl
        · cases h
theorem bytes_prefix {x y : Val} (h : rightV x = true) (k : rightV y = true) (r : List UInt8) (e : bytesV y = bytesV x ++ r) : x = y := by
  have h1 := get_bytes k []
  rw [List.append_nil, e, get_bytes h] at h1
  simp only [Option.some.injEq, Prod.mk.injEq] at h1
  exact h1.1
theorem bytes_take {x y : Val} (h : rightV x = true) (k : rightV y = true) (e : (bytesV x).take (min (bytesV x).length (bytesV y).length) = (bytesV y).take (min (bytesV x).length (bytesV y).length)) : x = y := by
  rcases Nat.le_total (bytesV x).length (bytesV y).length with hl | hl
  · rw [Nat.min_eq_left hl, List.take_length] at e
    exact bytes_prefix h k _ (by rw [e]; exact (List.take_append_drop _ _).symm)
  · rw [Nat.min_eq_right hl, List.take_length] at e
    exact (bytes_prefix k h _ (by rw [← e]; exact (List.take_append_drop _ _).symm)).symm
theorem bytes_len {x : Val} (h : rightV x = true) : (bytesV x).length ≤ 1000 := by
  rcases right_cases h with rfl | ⟨n, rfl, h1, h2⟩ | ⟨t, rfl, ht⟩
  · rw [bytes_0]; decide
  · rw [bytes_1]
    have hl : (putL n).length ≤ 10 := Lib.uvarint_length64 (zig_lt _ (by omega) (by omega))
    rw [List.length_cons]; omega
  · rw [bytes_2]
    have h4 : t.data.toList.length = t.size := Array.length_toList
    have hl : (putL (t.data.toList.length : Int)).length ≤ 10 := Lib.uvarint_length64 (zig_lt _ (by omega) (by omega))
    unfold textL
    rw [List.length_cons, List.length_append]; omega
end Go.Proofs.YtkflfgkmbgjohaaDoor
