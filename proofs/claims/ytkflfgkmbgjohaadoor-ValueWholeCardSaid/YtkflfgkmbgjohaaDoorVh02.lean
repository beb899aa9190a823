/-
  WHAT IS PROVED HERE: what Read answers, in the program and in the document.
-/
import Derived.Test.YtkflfgkmbgjohaaDoorVg02
set_option linter.unusedVariables false
set_option linter.unusedSimpArgs false
namespace Go.Proofs.YtkflfgkmbgjohaaDoor
open Go Go.RowKit

attribute [local simp] bd23 ts23 ta23 fa23_0 fa23_1 fa23_2 tz23 eq23 ne23 ta3 ta9 ts3 ts9 ta4 ts4
attribute [local simp] ts5 ta5 tz5 te32 ts48 tb5 headOk_encB indexAddrE idxE te49
/-- The program's way: a guess, that has to be right, and to show as it was. -/
def readV (s : ByteArray) : Option Val := if rightV (guessV s) = true ∧ showV (guessV s) = s then some (guessV s) else none
def readR (r : Option Val) : List D :=
  match r with
  | some x => [encV x, .s (.int .i64 0)]
  | none => [encV ⟨0, 0, ⟨#[]⟩⟩, .s (.int .i64 3)]
theorem guess_small (s : ByteArray) (hs : s.size ≤ 1000) : (guessV s).s.size ≤ 1000 := by
  unfold guessV
  split
  · show 0 ≤ 1000; omega
  · split
    · show (Lib.replaceAll (Lib.trimSuffix (Lib.trimPrefix s.data.toList [39]) [39]) [39, 39] [39]).toArray.size ≤ 1000
      rw [List.size_toArray]
      have h1 := replaceAll_len (Lib.trimSuffix (Lib.trimPrefix s.data.toList [39]) [39])
      have h2 := trimP_len s.data.toList [39]
      have h3 := trim_len (Lib.trimPrefix s.data.toList [39]) [39]
      have h4 : s.data.toList.length = s.size := Array.length_toList
      omega
    · split
      · show 0 ≤ 1000; omega
      · show 0 ≤ 1000; omega
theorem guess_n (s : ByteArray) : -9223372036854775808 ≤ (guessV s).n ∧ (guessV s).n ≤ 9223372036854775807 := by
  unfold guessV
  split
  · exact ⟨by show _ ≤ (0 : Int); omega, by show (0 : Int) ≤ _; omega⟩
  · split
    · exact ⟨by show _ ≤ (0 : Int); omega, by show (0 : Int) ≤ _; omega⟩
    · split
      · rename_i v hv; exact atoi_range hv
      · exact ⟨by show _ ≤ (0 : Int); omega, by show (0 : Int) ≤ _; omega⟩
theorem Read_ev (s : ByteArray) (hs : s.size ≤ 1000) : evr Tryd.prog ext2 18 [.s (.string s)] = some (.tup (readR (readV s))) := by
  refine evr_body (n := 5) rfl (body_of _ _ _ _ Tryd.f18 _ _ _ Tryd.func18 rfl (by simp [Tryd.ntmps18]) (by decide) ?_)
  have hg := guess_ev s hs
  have hsm := guess_small s hs
  have hn := guess_n s
  unfold readV
  generalize guessV s = g at *
  obtain ⟨k, n, t⟩ := g
  unfold encV at hg
  have hr := Right_ev ext2 rfl k n t
  have hsh := Show_ev k n t hsm hn.1 hn.2
  have hb : (showV ⟨k, n, t⟩ == s) = decide (showV ⟨k, n, t⟩ = s) := by
    rw [bs_beq, Bool.eq_iff_iff]
    simp only [decide_eq_true_eq]
    exact ⟨toList_inj, fun h => by rw [h]⟩
  cases hv : rightV ⟨k, n, t⟩ with
  | false =>
    rw [hv] at hr
    rw [if_neg (by simp)]
    simp [Tryd.ntmps18, Tryd.results18, hg, hr, readR, encV]
  | true =>
    rw [hv] at hr
    by_cases he : showV ⟨k, n, t⟩ = s
    · have he' : (showV ⟨k, n, t⟩).toList = s.toList := by rw [he]
      rw [if_pos ⟨rfl, he⟩]
      simp [Tryd.ntmps18, Tryd.results18, hg, hr, hsh, he', readR, encV]
    · have he' : ¬ (showV ⟨k, n, t⟩).toList = s.toList := fun h => he (toList_inj h)
      rw [if_neg (fun h => he h.2)]
      simp [Tryd.ntmps18, Tryd.results18, hg, hr, hsh, he', readR, encV]
/-- The document's candidates. -/
def innerL (l : List UInt8) : List UInt8 := (l.drop 1).take (l.length - 2)
def numAt (l : List UInt8) (j : Nat) : Nat := (l.take j).foldl numStep 0
theorem numAt_lt (l : List UInt8) (j : Nat) : numAt l j < 1000000000000000000 := by
  unfold numAt
  generalize l.take j = m
  have : ∀ (m : List UInt8) (a : Nat), a < 1000000000000000000 → m.foldl numStep a < 1000000000000000000 := by
    intro m
    induction m with
    | nil => intro a h; exact h
    | cons c m ih => intro a h; exact ih _ (numStep_lt a c h)
  exact this m 0 (by omega)
theorem numAt_succ (l : List UInt8) (j : Nat) (h : j < l.length) : numAt l (j + 1) = numStep (numAt l j) l[j] := by
  unfold numAt
  rw [List.take_succ_eq_append_getElem h, List.foldl_append]; rfl
def refCands (s : ByteArray) : List Val := [⟨1, numL s.data.toList, ⟨#[]⟩⟩, ⟨1, -(numL s.data.toList : Int), ⟨#[]⟩⟩, ⟨2, 0, ⟨(unqL (innerL s.data.toList)).toArray⟩⟩]
def okV (s : ByteArray) (x : Val) : Bool := rightV x && decide (showV x = s)
def refReadV (s : ByteArray) : Option Val := if s.toList = [110, 117, 108, 108] then some ⟨0, 0, ⟨#[]⟩⟩ else (refCands s).find? (okV s)
def zeroC : List A := [.d (.s (.int .i64 0)), .d (.s (.int .i64 0)), .d (.s (.string ⟨#[]⟩))]
def ReadI1 (s : ByteArray) (j : Nat) (st : St) : Prop := ∃ T H v, st = ⟨100, 0, T, H⟩ ∧ T 0 = .d (.s (.string s)) ∧ T 2 = .bp 2 v 0 ∧ H 2 = .box v zeroC ∧ T 4 = .d (.s (.int .i64 (numAt s.data.toList j : Nat))) ∧ T 5 = .d (.s (.int .i64 (j : Nat))) ∧ j ≤ s.size ∧ j ≤ 20
def ReadI2 (s : ByteArray) (num : Nat) (j : Nat) (st : St) : Prop := ∃ T H v acc i, st = ⟨100, 0, T, H⟩ ∧ T 0 = .d (.s (.string s)) ∧ T 2 = .bp 2 v 0 ∧ H 2 = .box v zeroC ∧ T 4 = .d (.s (.int .i64 (num : Nat))) ∧ T 6 = .d (.s (.string ⟨(acc : List UInt8).toArray⟩)) ∧ T 7 = .d (.s (.int .i64 (i : Nat))) ∧ acc ++ unqL ((innerL s.data.toList).drop (i - 1)) = unqL (innerL s.data.toList) ∧ j + 1 ≤ i ∧ acc.length ≤ j ∧ i ≤ s.size + 2
def ReadI3 (s : ByteArray) (c0 c1 c2 : Val) (j : Nat) (st : St) : Prop := ∃ T H v v2, st = ⟨100, 0, T, H⟩ ∧ T 0 = .d (.s (.string s)) ∧ T 2 = .bp 2 v 0 ∧ H 2 = .box v zeroC ∧ T 8 = .sl 73 v2 0 3 ∧ H 73 = .vec v2 3 [encV c0, encV c1, encV c2] false ∧ T 9 = .d (.s (.int .i64 (j : Nat))) ∧ j ≤ 3 ∧ (0 < j → okV s c0 = false) ∧ (1 < j → okV s c1 = false) ∧ (2 < j → okV s c2 = false)
def ReadJ1 (s : ByteArray) (st : St) : Prop := ∃ T H v, st = ⟨100, 0, T, H⟩ ∧ T 0 = .d (.s (.string s)) ∧ T 2 = .bp 2 v 0 ∧ H 2 = .box v zeroC ∧ T 4 = .d (.s (.int .i64 (numL s.data.toList : Nat)))
def ReadJ2 (s : ByteArray) (num : Nat) (st : St) : Prop := ∃ T H v, st = ⟨100, 0, T, H⟩ ∧ T 0 = .d (.s (.string s)) ∧ T 2 = .bp 2 v 0 ∧ H 2 = .box v zeroC ∧ T 4 = .d (.s (.int .i64 (num : Nat))) ∧ T 6 = .d (.s (.string ⟨(unqL (innerL s.data.toList)).toArray⟩))
def ReadJ3 (s : ByteArray) (c0 c1 c2 : Val) (st : St) : Prop := ∃ T H v, st = ⟨100, 0, T, H⟩ ∧ T 2 = .bp 2 v 0 ∧ H 2 = .box v zeroC ∧ okV s c0 = false ∧ okV s c1 = false ∧ okV s c2 = false
theorem unqL_len : ∀ (n : Nat) (l : List UInt8), l.length ≤ n → (unqL l).length ≤ l.length := by
  intro n
  induction n with
  | zero => intro l h; have : l = [] := List.length_eq_zero_iff.1 (by omega); subst this; rw [unqL]; exact Nat.le_refl _
  | succ n ih =>
    intro l h
    cases l with
    | nil => rw [unqL]; exact Nat.le_refl _
    | cons c r =>
      simp only [List.length_cons] at h
      rw [unqL]
      split
      · have := ih (r.drop 1) (by rw [List.length_drop]; omega)
        rw [List.length_drop] at this
        simp only [List.length_cons]; omega
      · have := ih r (by omega)
        simp only [List.length_cons]; omega
theorem innerL_get {l : List UInt8} {i : Nat} (h1 : 1 ≤ i) (h2 : i < l.length - 1) : ∃ h : i < l.length, (innerL l).drop (i - 1) = l[i] :: (innerL l).drop i := by
  refine ⟨by omega, ?_⟩
  unfold innerL
  have hl : ((l.drop 1).take (l.length - 2)).length = l.length - 2 := by rw [List.length_take, List.length_drop]; omega
  have h3 : i - 1 < ((l.drop 1).take (l.length - 2)).length := by omega
  rw [List.drop_eq_getElem_cons h3, List.getElem_take, List.getElem_drop]
  congr 1
  · congr 1; omega
  · congr 1; omega
theorem innerL_end {l : List UInt8} {i : Nat} (h2 : l.length - 1 ≤ i) : (innerL l).drop (i - 1) = [] := by
  apply List.drop_eq_nil_of_le
  unfold innerL
  rw [List.length_take, List.length_drop]; omega
set_option maxHeartbeats 1000000 in
theorem RefRead_ev (s : ByteArray) (hs : s.size ≤ 1000) : evr Tryd.prog ext2 19 [.s (.string s)] = some (.tup (readR (refReadV s))) := by
  refine evr_body (n := s.size + 50) rfl (body_of _ _ _ _ Tryd.f19 _ _ _ Tryd.func19 rfl (by simp [Tryd.ntmps19]) (by decide) ?_)
  have hsz : s.data.toList.length = s.size := Array.length_toList
  unfold refReadV
  by_cases hnull : s.toList = [110, 117, 108, 108]
  · rw [if_pos hnull]
    simp [Tryd.ntmps19, Tryd.results19, hnull, readR, encV]
  · rw [if_neg hnull]
    simp [Tryd.ntmps19, Tryd.results19, hnull]
    refine Wk_loopx (ReadI1 s) 20 0 (ReadJ1 s) (by omega) ?_ ?_ ?_
    · exact ⟨_, _, 1, rfl, by simp, by simp, by simp [zeroC], by simp [numAt], by simp, by omega, by omega⟩
    · rintro j st hj ⟨T, H, v, rfl, hT0, hT2, hH2, hT4, hT5, hjs, hj20⟩
      have hnl := numAt_lt s.data.toList j
      by_cases hlt : j < s.size
      · by_cases h20 : j < 20
        · have hlt' : (j : Int) < (s.size : Int) := by omega
          have h20' : (j : Int) < 20 := by omega
          have hj0 : (0 : Int) ≤ (j : Int) := by omega
          have hk1 : IntKind.i64.wrap ((j : Int) + 1) = (j : Int) + 1 := wrap_i64 (by omega) (by omega)
          have hsuc := numAt_succ s.data.toList j (by omega)
          have hxe : s.data.toList[j]'(by omega) = s.data[j]'hlt := by simp
          rw [hxe] at hsuc
          have hbl := (s.data[j]'hlt).toNat_lt
          have hnext : ∀ (T : Nat → A) (H : Nat → O), T 0 = .d (.s (.string s)) → T 2 = .bp 2 v 0 → H 2 = .box v zeroC → T 4 = .d (.s (.int .i64 (numStep (numAt s.data.toList j) (s.data[j]'hlt) : Nat))) → T 5 = .d (.s (.int .i64 ((j : Int) + 1))) → ReadI1 s (j + 1) ⟨100, 0, T, H⟩ := fun T H a0 a1 a2 a3 a4 => ⟨T, H, v, rfl, a0, a1, a2, by rw [a3, hsuc], by rw [a4]; rfl, by omega, by omega⟩
          generalize numAt s.data.toList j = m at *
          by_cases c1 : 48 ≤ (s.data[j]'hlt).toNat
          · have c1' : (48 : Int) ≤ ((s.data[j]'hlt).toNat : Int) := by omega
            by_cases c2 : (s.data[j]'hlt).toNat ≤ 57
            · have c2' : ((s.data[j]'hlt).toNat : Int) ≤ 57 := by omega
              by_cases c3 : m < 100000000000000000
              · have c3' : (m : Int) < 100000000000000000 := by omega
                have hns : numStep m (s.data[j]'hlt) = 10 * m + ((s.data[j]'hlt).toNat - 48) := by unfold numStep; rw [if_pos ⟨c1, c2, c3⟩]
                have hw1 : IntKind.i64.wrap (10 * (m : Int)) = 10 * (m : Int) := wrap_i64 (by omega) (by omega)
                have hw2 : IntKind.i64.wrap (((s.data[j]'hlt).toNat : Int)) = ((s.data[j]'hlt).toNat : Int) := wrap_i64 (by omega) (by omega)
                have hw3 : IntKind.i64.wrap (10 * (m : Int) + ((s.data[j]'hlt).toNat : Int)) = 10 * (m : Int) + ((s.data[j]'hlt).toNat : Int) := wrap_i64 (by omega) (by omega)
                have hw4 : IntKind.i64.wrap (10 * (m : Int) + ((s.data[j]'hlt).toNat : Int) - 48) = ((numStep m (s.data[j]'hlt) : Nat) : Int) := by rw [wrap_i64 (by omega) (by omega), hns]; omega
                simp [Tryd.ntmps19, Tryd.results19, hT0, hT2, hH2, hT4, hT5, hlt, hlt', h20', hj0, hk1, c1', c2', c3', idx_str, hw1, hw2, hw3, hw4]
                exact ⟨h20, hnext _ _ (by simp [hT0]) (by simp [hT2]) (by simp [hH2]) (by simp) (by simp)⟩
              · have c3' : ¬ (m : Int) < 100000000000000000 := by omega
                have hns : numStep m (s.data[j]'hlt) = m := by unfold numStep; rw [if_neg (fun h => c3 h.2.2)]
                rw [hns] at hnext
                simp [Tryd.ntmps19, Tryd.results19, hT0, hT2, hH2, hT4, hT5, hlt, hlt', h20', hj0, hk1, c1', c2', c3', idx_str]
                exact ⟨h20, hnext _ _ (by simp [hT0]) (by simp [hT2]) (by simp [hH2]) (by simp [hT4]) (by simp)⟩
            · have c2' : ¬ ((s.data[j]'hlt).toNat : Int) ≤ 57 := by omega
              have hns : numStep m (s.data[j]'hlt) = m := by unfold numStep; rw [if_neg (fun h => c2 h.2.1)]
              rw [hns] at hnext
              simp [Tryd.ntmps19, Tryd.results19, hT0, hT2, hH2, hT4, hT5, hlt, hlt', h20', hj0, hk1, c1', c2', idx_str]
              exact ⟨h20, hnext _ _ (by simp [hT0]) (by simp [hT2]) (by simp [hH2]) (by simp [hT4]) (by simp)⟩
          · have c1' : ¬ (48 : Int) ≤ ((s.data[j]'hlt).toNat : Int) := by omega
            have hns : numStep m (s.data[j]'hlt) = m := by unfold numStep; rw [if_neg (fun h => c1 h.1)]
            rw [hns] at hnext
            simp [Tryd.ntmps19, Tryd.results19, hT0, hT2, hH2, hT4, hT5, hlt, hlt', h20', hj0, hk1, c1', idx_str]
            exact ⟨h20, hnext _ _ (by simp [hT0]) (by simp [hT2]) (by simp [hH2]) (by simp [hT4]) (by simp)⟩
        · have e20 : j = 20 := by omega
          have hlt' : (j : Int) < (s.size : Int) := by omega
          have h20' : ¬ (j : Int) < 20 := by omega
          have hnum : numAt s.data.toList j = numL s.data.toList := by rw [e20]; rfl
          rw [hnum] at hT4 hnl
          simp [Tryd.ntmps19, Tryd.results19, hT0, hT2, hH2, hT4, hT5, hlt, hlt', h20']
          exact ⟨_, _, v, rfl, by simp [hT0], by simp [hT2], by simp [hH2], by simp [hT4]⟩
      · have e20 : j = s.size := by omega
        have hlt' : ¬ (j : Int) < (s.size : Int) := by omega
        have hnum : numAt s.data.toList j = numL s.data.toList := by
          unfold numAt numL
          rw [List.take_of_length_le (by omega), List.take_of_length_le (by omega)]
        rw [hnum] at hT4 hnl
        simp [Tryd.ntmps19, Tryd.results19, hT0, hT2, hH2, hT4, hT5, hlt, hlt']
        exact ⟨_, _, v, rfl, by simp [hT0], by simp [hT2], by simp [hH2], by simp [hT4]⟩
    · rintro st ⟨T, H, v, rfl, hT0, hT2, hH2, hT4⟩
      have hnl : numL s.data.toList < 1000000000000000000 := numAt_lt s.data.toList 20
      have hil := unqL_len (innerL s.data.toList).length (innerL s.data.toList) (Nat.le_refl _)
      have hil2 : (innerL s.data.toList).length ≤ s.size := by unfold innerL; rw [List.length_take, List.length_drop]; omega
      unfold refCands
      generalize numL s.data.toList = num at *
      simp [Tryd.ntmps19, Tryd.results19]
      refine Wk_loopx (ReadI2 s num) (s.size + 1) 2 (ReadJ2 s num) (by omega) ?_ ?_ ?_
      · exact ⟨_, _, v, [], 1, rfl, by simp [hT0], by simp [hT2], by simp [hH2], by simp [hT4], by simp, by simp, by simp, by omega, by simp, by omega⟩
      · clear T H hT0 hT2 hH2 hT4
        rintro j st hj ⟨T, H, v, acc, i, rfl, hT0, hT2, hH2, hT4, hT6, hT7, hun, hji, hal, hil3⟩
        have hi0 : (0 : Int) ≤ (i : Int) := by omega
        have hs1 : IntKind.i64.wrap ((s.size : Int) - 1) = (s.size : Int) - 1 := wrap_i64 (by omega) (by omega)
        by_cases hlt : i < s.size - 1
        · have hlt' : (i : Int) < (s.size : Int) - 1 := by omega
          have hlt2 : i < s.size := by omega
          have hlt3 : (i : Int) < (s.size : Int) := by omega
          have hk1 : IntKind.i64.wrap ((i : Int) + 1) = (i : Int) + 1 := wrap_i64 (by omega) (by omega)
          have hk2 : IntKind.i64.wrap ((i : Int) + 1 + 1) = (i : Int) + 2 := by rw [wrap_i64 (by omega) (by omega)]; omega
          have hle1 : (i : Int) ≤ (i : Int) + 1 := by omega
          have hle2 : (i : Int) + 1 ≤ (s.size : Int) := by omega
          have htn : ((i : Int) + 1).toNat = i + 1 := by omega
          have hex := bs_extract s i hlt2
          have hxd : s.data.toList.getD i 0 = s.data[i]'hlt2 := by rw [List.getD_eq_getElem?_getD, List.getElem?_eq_getElem (by rw [hsz]; exact hlt2)]; simp
          rw [hxd] at hex
          obtain ⟨hget1, hget2⟩ := innerL_get (l := s.data.toList) (i := i) (by omega) (by omega)
          have hxe : s.data.toList[i]'hget1 = s.data[i]'hlt2 := by simp
          rw [hxe] at hget2
          rw [hget2, unqL] at hun
          have hbl := (s.data[i]'hlt2).toNat_lt
          have hz1 : (⟨acc.toArray⟩ : ByteArray).size + 1 ≤ 9223372036854775807 := by rw [bs_size]; omega
          have h1x : (⟨#[s.data[i]'hlt2]⟩ : ByteArray).size = 1 := rfl
          have he : (⟨acc.toArray⟩ : ByteArray) ++ ⟨#[s.data[i]'hlt2]⟩ = ⟨(acc ++ [s.data[i]'hlt2]).toArray⟩ := bs_append acc [s.data[i]'hlt2]
          have hex' : s.extract i (i + 1) = ⟨#[s.data[i]'hlt2]⟩ := hex
          have hnext : ∀ (T : Nat → A) (H : Nat → O) (i' : Nat), T 0 = .d (.s (.string s)) → T 2 = .bp 2 v 0 → H 2 = .box v zeroC → T 4 = .d (.s (.int .i64 (num : Nat))) → T 6 = .d (.s (.string ((⟨acc.toArray⟩ : ByteArray) ++ ⟨#[s.data[i]'hlt2]⟩))) → T 7 = .d (.s (.int .i64 (i' : Nat))) → i + 1 ≤ i' → i' ≤ i + 2 → (acc ++ [s.data[i]'hlt2]) ++ unqL ((innerL s.data.toList).drop (i' - 1)) = unqL (innerL s.data.toList) → ReadI2 s num (j + 1) ⟨100, 0, T, H⟩ := fun T H i' a0 a1 a2 a3 a4 a5 a6 a7 a8 => ⟨T, H, v, acc ++ [s.data[i]'hlt2], i', rfl, a0, a1, a2, a3, by rw [a4, he], a5, a8, by omega, by simp; omega, by omega⟩
          have hj1 : j < s.size + 1 := by omega
          by_cases hc : s.data[i]'hlt2 = 39
          · have hcn : (((s.data[i]'hlt2).toNat : Nat) : Int) = 39 := by rw [hc]; rfl
            rw [if_pos hc, List.drop_drop] at hun
            have hfin : ReadI2 s num (j + 1) = ReadI2 s num (j + 1) := rfl
            generalize hA : (⟨acc.toArray⟩ : ByteArray) = ac at *
            simp [Tryd.ntmps19, Tryd.results19, hT0, hT2, hH2, hT4, hT6, hT7, hs1, hi0, hlt', hlt2, hlt3, hk1, hk2, hle1, hle2, htn, hex', hcn, idx_str, sliceAt_str, hz1, h1x, hj1]
            exact hnext _ _ (i + 2) (by simp [hT0]) (by simp [hT2]) (by simp [hH2]) (by simp [hT4]) (by simp) (by simp) (by omega) (by omega) (by rw [List.append_assoc]; exact hun)
          · have hcn : ¬ (((s.data[i]'hlt2).toNat : Nat) : Int) = 39 := fun h => hc (UInt8.toNat_inj.1 (by rw [show (39 : UInt8).toNat = 39 from rfl]; omega))
            rw [if_neg hc] at hun
            generalize hA : (⟨acc.toArray⟩ : ByteArray) = ac at *
            simp [Tryd.ntmps19, Tryd.results19, hT0, hT2, hH2, hT4, hT6, hT7, hs1, hi0, hlt', hlt2, hlt3, hk1, hk2, hle1, hle2, htn, hex', hcn, idx_str, sliceAt_str, hz1, h1x, hj1]
            exact hnext _ _ (i + 1) (by simp [hT0]) (by simp [hT2]) (by simp [hH2]) (by simp [hT4]) (by simp) (by simp) (by omega) (by omega) (by rw [List.append_assoc]; exact hun)
        · have hlt' : ¬ (i : Int) < (s.size : Int) - 1 := by omega
          rw [innerL_end (by omega), unqL, List.append_nil] at hun
          subst hun
          simp [Tryd.ntmps19, Tryd.results19, hT0, hT2, hH2, hT4, hT6, hT7, hs1, hlt']
          exact ⟨_, _, v, rfl, by simp [hT0], by simp [hT2], by simp [hH2], by simp [hT4], by simp [hT6]⟩
      · clear T H hT0 hT2 hH2 hT4
        rintro st ⟨T, H, v, rfl, hT0, hT2, hH2, hT4, hT6⟩
        have hneg : IntKind.i64.wrap (-(num : Int)) = -(num : Int) := wrap_i64 (by omega) (by omega)
        have htl : (⟨(unqL (innerL s.data.toList)).toArray⟩ : ByteArray).size ≤ 1000 := by rw [bs_size]; omega
        generalize (⟨(unqL (innerL s.data.toList)).toArray⟩ : ByteArray) = tx at *
        simp [Tryd.ntmps19, Tryd.results19, hT0, hT2, hH2, hT4, hT6, hneg]
        refine Wk_loopx (ReadI3 s ⟨1, num, ⟨#[]⟩⟩ ⟨1, -(num : Int), ⟨#[]⟩⟩ ⟨2, 0, tx⟩) 3 4 (ReadJ3 s ⟨1, num, ⟨#[]⟩⟩ ⟨1, -(num : Int), ⟨#[]⟩⟩ ⟨2, 0, tx⟩) (by omega) ?_ ?_ ?_
        · exact ⟨_, _, v, _, rfl, by simp [hT0], by simp [hT2], by simp [hH2], by simp; rfl, by simp [encV], by simp, by omega, by omega, by omega, by omega⟩
        · clear T H hT0 hT2 hH2 hT4 hT6
          rintro j st hj ⟨T, H, v, v2, rfl, hT0, hT2, hH2, hT8, hH73, hT9, hj3, hf0, hf1, hf2⟩
          have hw0 : IntKind.i64.wrap 1 = 1 := by decide
          have hw1 : IntKind.i64.wrap 2 = 2 := by decide
          have hw2 : IntKind.i64.wrap 3 = 3 := by decide
          have hnb : -9223372036854775808 ≤ (num : Int) ∧ (num : Int) ≤ 9223372036854775807 := by omega
          have hnext : ∀ (T : Nat → A) (H : Nat → O) (j' : Nat), T 0 = .d (.s (.string s)) → T 2 = .bp 2 v 0 → H 2 = .box v zeroC → T 8 = .sl 73 v2 0 3 → H 73 = .vec v2 3 [encV ⟨1, num, ⟨#[]⟩⟩, encV ⟨1, -(num : Int), ⟨#[]⟩⟩, encV ⟨2, 0, tx⟩] false → T 9 = .d (.s (.int .i64 (j' : Nat))) → j' ≤ 3 → (0 < j' → okV s ⟨1, num, ⟨#[]⟩⟩ = false) → (1 < j' → okV s ⟨1, -(num : Int), ⟨#[]⟩⟩ = false) → (2 < j' → okV s ⟨2, 0, tx⟩ = false) → ReadI3 s ⟨1, num, ⟨#[]⟩⟩ ⟨1, -(num : Int), ⟨#[]⟩⟩ ⟨2, 0, tx⟩ j' ⟨100, 0, T, H⟩ := fun T H j' a0 a1 a2 a3 a4 a5 a6 a7 a8 a9 => ⟨T, H, v, v2, rfl, a0, a1, a2, a3, a4, a5, a6, a7, a8, a9⟩
          obtain rfl | rfl | rfl | rfl : j = 0 ∨ j = 1 ∨ j = 2 ∨ j = 3 := by omega
          · have hr := RefRight_ev ext2 rfl 1 (num : Int) ⟨#[]⟩
            have hsh := RefShow_ev 1 (num : Int) ⟨#[]⟩ (by show (0 : Nat) ≤ 1000; omega) (by omega) (by omega)
            cases hv : rightV (⟨1, (num : Int), ⟨#[]⟩⟩ : Val) with
            | false =>
              rw [hv] at hr
              have hbad : okV s (⟨1, (num : Int), ⟨#[]⟩⟩ : Val) = false := by unfold okV; rw [hv]; rfl
              simp [Tryd.ntmps19, Tryd.results19, hT0, hT2, hH2, hT8, hH73, hT9, encV, hr, hw0]
              exact hnext _ _ 1 (by simp [hT0]) (by simp [hT2]) (by simp [hH2]) (by simp [hT8]) (by simp [hH73, encV]) (by simp [hw0]) (by omega) (fun _ => hbad) (fun h => by omega) (fun h => by omega)
            | true =>
              rw [hv] at hr
              by_cases he : showV (⟨1, (num : Int), ⟨#[]⟩⟩ : Val) = s
              · have he' : (showV (⟨1, (num : Int), ⟨#[]⟩⟩ : Val)).toList = s.toList := by rw [he]
                have hgood : okV s (⟨1, (num : Int), ⟨#[]⟩⟩ : Val) = true := by unfold okV; rw [hv, he]; simp
                simp [Tryd.ntmps19, Tryd.results19, hT0, hT2, hH2, hT8, hH73, hT9, encV, hr, hsh, he', hw0, List.find?, hgood, readR, zeroC]
              · have he' : ¬ (showV (⟨1, (num : Int), ⟨#[]⟩⟩ : Val)).toList = s.toList := fun h => he (toList_inj h)
                have hbad : okV s (⟨1, (num : Int), ⟨#[]⟩⟩ : Val) = false := by unfold okV; rw [hv]; simp [he]
                simp [Tryd.ntmps19, Tryd.results19, hT0, hT2, hH2, hT8, hH73, hT9, encV, hr, hsh, he', hw0]
                exact hnext _ _ 1 (by simp [hT0]) (by simp [hT2]) (by simp [hH2]) (by simp [hT8]) (by simp [hH73, encV]) (by simp [hw0]) (by omega) (fun _ => hbad) (fun h => by omega) (fun h => by omega)
          · have hr := RefRight_ev ext2 rfl 1 (-(num : Int)) ⟨#[]⟩
            have hsh := RefShow_ev 1 (-(num : Int)) ⟨#[]⟩ (by show (0 : Nat) ≤ 1000; omega) (by omega) (by omega)
            have g0 := hf0 (by omega)
            cases hv : rightV (⟨1, (-(num : Int)), ⟨#[]⟩⟩ : Val) with
            | false =>
              rw [hv] at hr
              have hbad : okV s (⟨1, (-(num : Int)), ⟨#[]⟩⟩ : Val) = false := by unfold okV; rw [hv]; rfl
              simp [Tryd.ntmps19, Tryd.results19, hT0, hT2, hH2, hT8, hH73, hT9, encV, hr, hw1]
              exact hnext _ _ 2 (by simp [hT0]) (by simp [hT2]) (by simp [hH2]) (by simp [hT8]) (by simp [hH73, encV]) (by simp [hw1]) (by omega) (fun _ => g0) (fun _ => hbad) (fun h => by omega)
            | true =>
              rw [hv] at hr
              by_cases he : showV (⟨1, (-(num : Int)), ⟨#[]⟩⟩ : Val) = s
              · have he' : (showV (⟨1, (-(num : Int)), ⟨#[]⟩⟩ : Val)).toList = s.toList := by rw [he]
                have hgood : okV s (⟨1, (-(num : Int)), ⟨#[]⟩⟩ : Val) = true := by unfold okV; rw [hv, he]; simp
                simp [Tryd.ntmps19, Tryd.results19, hT0, hT2, hH2, hT8, hH73, hT9, encV, hr, hsh, he', hw1, List.find?, g0, hgood, readR, zeroC]
              · have he' : ¬ (showV (⟨1, (-(num : Int)), ⟨#[]⟩⟩ : Val)).toList = s.toList := fun h => he (toList_inj h)
                have hbad : okV s (⟨1, (-(num : Int)), ⟨#[]⟩⟩ : Val) = false := by unfold okV; rw [hv]; simp [he]
                simp [Tryd.ntmps19, Tryd.results19, hT0, hT2, hH2, hT8, hH73, hT9, encV, hr, hsh, he', hw1]
                exact hnext _ _ 2 (by simp [hT0]) (by simp [hT2]) (by simp [hH2]) (by simp [hT8]) (by simp [hH73, encV]) (by simp [hw1]) (by omega) (fun _ => g0) (fun _ => hbad) (fun h => by omega)
          · have hr := RefRight_ev ext2 rfl 2 0 tx
            have hsh := RefShow_ev 2 0 tx (htl) (by omega) (by omega)
            have g0 := hf0 (by omega)
            have g1 := hf1 (by omega)
            cases hv : rightV (⟨2, 0, tx⟩ : Val) with
            | false =>
              rw [hv] at hr
              have hbad : okV s (⟨2, 0, tx⟩ : Val) = false := by unfold okV; rw [hv]; rfl
              simp [Tryd.ntmps19, Tryd.results19, hT0, hT2, hH2, hT8, hH73, hT9, encV, hr, hw2]
              exact hnext _ _ 3 (by simp [hT0]) (by simp [hT2]) (by simp [hH2]) (by simp [hT8]) (by simp [hH73, encV]) (by simp [hw2]) (by omega) (fun _ => g0) (fun _ => g1) (fun _ => hbad)
            | true =>
              rw [hv] at hr
              by_cases he : showV (⟨2, 0, tx⟩ : Val) = s
              · have he' : (showV (⟨2, 0, tx⟩ : Val)).toList = s.toList := by rw [he]
                have hgood : okV s (⟨2, 0, tx⟩ : Val) = true := by unfold okV; rw [hv, he]; simp
                simp [Tryd.ntmps19, Tryd.results19, hT0, hT2, hH2, hT8, hH73, hT9, encV, hr, hsh, he', hw2, List.find?, g0, g1, hgood, readR, zeroC]
              · have he' : ¬ (showV (⟨2, 0, tx⟩ : Val)).toList = s.toList := fun h => he (toList_inj h)
                have hbad : okV s (⟨2, 0, tx⟩ : Val) = false := by unfold okV; rw [hv]; simp [he]
                simp [Tryd.ntmps19, Tryd.results19, hT0, hT2, hH2, hT8, hH73, hT9, encV, hr, hsh, he', hw2]
                exact hnext _ _ 3 (by simp [hT0]) (by simp [hT2]) (by simp [hH2]) (by simp [hT8]) (by simp [hH73, encV]) (by simp [hw2]) (by omega) (fun _ => g0) (fun _ => g1) (fun _ => hbad)
          · simp [Tryd.ntmps19, Tryd.results19, hT0, hT2, hH2, hT8, hH73, hT9]
            exact ⟨_, _, v, rfl, by simp [hT2], by simp [hH2], hf0 (by omega), hf1 (by omega), hf2 (by omega)⟩
        · clear T H hT0 hT2 hH2 hT4 hT6
          rintro st ⟨T, H, v, rfl, hT2, hH2, g0, g1, g2⟩
          simp [Tryd.ntmps19, Tryd.results19, hT2, hH2, List.find?, g0, g1, g2, readR, encV, zeroC]
end Go.Proofs.YtkflfgkmbgjohaaDoor
