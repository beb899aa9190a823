/-
  WHAT IS PROVED HERE: the document's number with which bytes begin.
-/
import Derived.Test.YtkflfgkmbgjohaaDoorVd02
set_option linter.unusedVariables false
set_option linter.unusedSimpArgs false
namespace Go.Proofs.YtkflfgkmbgjohaaDoor
open Go Go.RowKit

attribute [local simp] ts5 ta5 te32 ts48 tb5 headOk_encB indexAddrE idxE
def SameI (a b : List UInt8) (j : Nat) (s : St) : Prop := ∃ T H, s = ⟨26, 0, T, H⟩ ∧ T 0 = .d (.lst (a.map encB)) ∧ T 1 = .d (.lst (b.map encB)) ∧ T 5 = .d (.s (.int .i64 j)) ∧ j ≤ a.length ∧ a.take j = b.take j
theorem RefSame_ev (ext : Exts) (hx : ext 46 = none) (a b : List UInt8) (hl : a.length ≤ 1000000) : evr Tryd.prog ext 46 [.lst (a.map encB), .lst (b.map encB)] = some (.val (.s (.bool (decide (a = b))))) := by
  refine evr_body (n := a.length + 5) hx (body_of _ _ _ _ Tryd.f46 _ _ _ Tryd.func46 rfl (by simp [Tryd.ntmps46]) (by decide) ?_)
  by_cases hne : a.length = b.length
  · simp [Tryd.ntmps46, Tryd.results46, show (a.length : Int) = (b.length : Int) by omega]
    refine Wk_loop (SameI a b) a.length (by omega) ?_ ?_
    · exact ⟨_, _, rfl, by simp, by simp, by simp, by simp, by simp⟩
    · rintro j s hj ⟨T, H, rfl, hT0, hT1, hT5, hjl, hp⟩
      by_cases hlt : j < a.length
      · have hltb : j < b.length := by omega
        have hk1 : IntKind.i64.wrap ((j : Int) + 1) = (j : Int) + 1 := wrap_i64 (by omega) (by omega)
        generalize hxa : a[j] = x
        generalize hxb : b[j] = y
        have ta : a.take (j + 1) = a.take j ++ [x] := by rw [List.take_succ_eq_append_getElem hlt, hxa]
        have tb : b.take (j + 1) = b.take j ++ [y] := by rw [List.take_succ_eq_append_getElem hltb, hxb]
        by_cases hxy : x = y
        · subst hxy
          have hnext : ∀ (T : Nat → A) (H : Nat → O), T 0 = .d (.lst (a.map encB)) → T 1 = .d (.lst (b.map encB)) → T 5 = .d (.s (.int .i64 ((j : Int) + 1))) → SameI a b (j + 1) ⟨26, 0, T, H⟩ := fun T H h1 h2 h3 => ⟨T, H, rfl, h1, h2, by rw [h3]; rfl, by omega, by rw [ta, tb, hp]⟩
          simp [hT0, hT1, hT5, hlt, hltb, hxa, hxb, encB, hk1]
          exact ⟨by kernel_rfl, hnext _ _ (by simp [hT0]) (by simp [hT1]) (by simp)⟩
        · have hn : ¬ (x.toNat : Int) = (y.toNat : Int) := fun e => hxy (UInt8.toNat_inj.1 (by omega))
          have hab : ¬ a = b := by
            intro e
            subst e
            rw [hxa] at hxb; exact hxy hxb
          simp [hT0, hT1, hT5, hlt, hltb, hxa, hxb, encB, hn, hab]
          show raceFree _ _ = true
          kernel_rfl
      · have e : a = b := by
          have e1 : j = a.length := by omega
          rw [List.take_of_length_le (by omega), List.take_of_length_le (by omega)] at hp
          exact hp
        have hlt' : ¬ (j : Int) < (a.length : Int) := by omega
        simp [hT0, hT1, hT5, hlt]
        exact e
  · have hab : ¬ a = b := fun e => hne (by rw [e])
    have hne' : ¬ (a.length : Int) = (b.length : Int) := by omega
    simp [Tryd.ntmps46, Tryd.results46, hne', hab]

def HeadI (l : List UInt8) (j : Nat) (s : St) : Prop := ∃ T H, s = ⟨68, 0, T, H⟩ ∧ T 0 = .d (.lst (l.map encB)) ∧ T 5 = .d (.s (.int .u64 0)) ∧ T 6 = .d (.s (.int .i64 j)) ∧ j ≤ l.length ∧ headK 10 l = j + headK (10 - j) (l.drop j)
def SumI (l : List UInt8) (k r : Nat) (s : St) : Prop := ∃ T H, s = ⟨68, 0, T, H⟩ ∧ T 0 = .d (.lst (l.map encB)) ∧ T 6 = .d (.s (.int .i64 k)) ∧ T 7 = .d (.s (.int .i64 ((k : Int) - r))) ∧ T 5 = .d (.s (.int .u64 (sumL ((l.take (k + 1)).drop (k + 1 - r)) : Nat))) ∧ r ≤ k + 1
theorem headK_stop {l : List UInt8} {j : Nat} (hj : j ≤ 10) (hl : j ≤ l.length) (h : headK 10 l = j + headK (10 - j) (l.drop j)) (hs : j = l.length ∨ j = 10 ∨ ∃ x, l[j]? = some x ∧ x.toNat < 128) : headK 10 l = j := by
  rw [h]
  rcases hs with e | e | ⟨x, e1, e2⟩
  · rw [List.drop_eq_nil_of_le (by omega)]
    cases 10 - j <;> simp [headK]
  · subst e; simp [headK]
  · have hlt : j < l.length := (List.getElem?_eq_some_iff.1 e1).1
    rw [List.drop_eq_getElem_cons hlt]
    rw [List.getElem?_eq_getElem hlt, Option.some.injEq] at e1
    rw [e1]
    cases hm : 10 - j with
    | zero => simp [headK]
    | succ m => simp only [headK]; rw [if_neg (by omega)]; rfl
theorem headK_next {l : List UInt8} {j : Nat} (hj : j < 10) (hlt : j < l.length) (h : headK 10 l = j + headK (10 - j) (l.drop j)) (hx : 128 ≤ l[j].toNat) : headK 10 l = (j + 1) + headK (10 - (j + 1)) (l.drop (j + 1)) := by
  rw [h, List.drop_eq_getElem_cons hlt]
  obtain ⟨m, hm⟩ : ∃ m, 10 - j = m + 1 := ⟨9 - j, by omega⟩
  rw [hm, headK, if_pos hx, show 10 - (j + 1) = m by omega]
  omega
theorem headOk_bytes (l : List UInt8) : headOk 1 (l.map encB) = true := by cases l <;> rfl
theorem take_encB (l : List UInt8) : (l.map encB).take l.length = l.map encB := List.take_of_length_le (by rw [List.length_map]; exact Nat.le_refl _)
theorem RefGet_ev (ext : Exts) (hx : ext 35 = none) (hx1 : ext 39 = none) (hx2 : ext 47 = none) (hx3 : ext 46 = none) (l : List UInt8) (hl : l.length ≤ 1000000) : evr Tryd.prog ext 35 [.lst (l.map encB)] = some (.tup (getR l)) := by
  refine evr_body (n := 30) hx (body_of _ _ _ _ Tryd.f35 _ _ _ Tryd.func35 rfl (by simp [Tryd.ntmps35]) (by decide) ?_)
  simp [Tryd.ntmps35, Tryd.results35]
  refine Wk_loop (HeadI l) 10 (by decide) ?_ ?_
  · exact ⟨_, _, rfl, by simp, by simp, by simp, by simp, by simp⟩
  · rintro j s hj ⟨T, H, rfl, hT0, hT5, hT6, hjl, hh⟩
    have hrest : ∀ (T : Nat → A) (H : Nat → O), True := fun _ _ => trivial
    by_cases hlt : j < l.length
    · by_cases h10 : j < 10
      · have h10' : (j : Int) < 10 := by omega
        by_cases hx : 128 ≤ l[j].toNat
        · have hx' : (128 : Int) ≤ (l[j].toNat : Int) := by omega
          have hk1 : IntKind.i64.wrap ((j : Int) + 1) = (j : Int) + 1 := wrap_i64 (by omega) (by omega)
          have hnext : ∀ (T : Nat → A) (H : Nat → O), T 0 = .d (.lst (l.map encB)) → T 5 = .d (.s (.int .u64 0)) → T 6 = .d (.s (.int .i64 ((j : Int) + 1))) → HeadI l (j + 1) ⟨68, 0, T, H⟩ := fun T H h1 h2 h3 => ⟨T, H, rfl, h1, h2, by rw [h3]; rfl, by omega, headK_next h10 hlt hh hx⟩
          simp [hT0, hT5, hT6, hlt, h10', hx', encB, hk1]
          exact ⟨h10, hnext _ _ (by simp [hT0]) (by simp [hT5]) (by simp)⟩
        · have hx' : ¬ (128 : Int) ≤ (l[j].toNat : Int) := by omega
          have hne : ¬ (j : Int) = (l.length : Int) := by omega
          have hne10 : ¬ (j : Int) = 10 := by omega
          have hK : headK 10 l = j := headK_stop hj hjl hh (Or.inr (Or.inr ⟨l[j], List.getElem?_eq_getElem hlt, by omega⟩))
          simp [hT0, hT5, hT6, hlt, h10', hx', encB, hne, hne10]
          refine Wk_loop (SumI l j) (j + 1) (by omega) ?_ ?_
          · exact ⟨_, _, rfl, by simp [hT0], by simp [hT6], by simp, by simp [hT5, sumL], by omega⟩
          · clear T H hT0 hT5 hT6
            rintro r s hr ⟨T, H, rfl, hT0, hT6, hT7, hT5, hrk⟩
            by_cases hrj : r ≤ j
            · have hge : (0 : Int) ≤ (j : Int) - (r : Int) := by omega
              have hge' : (r : Int) ≤ (j : Int) := by omega
              have hilt : (j : Int) - (r : Int) < (l.length : Int) := by omega
              have htn : ((j : Int) - (r : Int)).toNat = j - r := by omega
              have hlt2 : j - r < l.length := by omega
              have hsub : IntKind.i64.wrap ((j : Int) - (r : Int) - 1) = (j : Int) - ((r + 1 : Nat) : Int) := by rw [wrap_i64 (by omega) (by omega)]; omega
              have hseg : (l.take (j + 1)).drop (j + 1 - (r + 1)) = l[j - r] :: (l.take (j + 1)).drop (j + 1 - r) := by
                have h1 : j + 1 - (r + 1) < (l.take (j + 1)).length := by rw [List.length_take]; omega
                rw [List.drop_eq_getElem_cons h1]
                congr 1
                · rw [List.getElem_take]; congr 1; omega
                · congr 1; omega
              have hu := sumL_lt ((l.take (j + 1)).drop (j + 1 - r))
              have hsum : sumL ((l.take (j + 1)).drop (j + 1 - (r + 1))) = (128 * sumL ((l.take (j + 1)).drop (j + 1 - r)) + l[j - r].toNat % 128) % 18446744073709551616 := by rw [hseg, sumL]
              generalize sumL ((l.take (j + 1)).drop (j + 1 - r)) = u at *
              generalize hy : l[j - r] = y at *
              have hyb := y.toNat_lt
              have hmul : IntKind.u64.wrap (IntKind.u64.wrap (128 * (u : Int)) + IntKind.u64.wrap ((y.toNat : Int).tmod 128)) = ((128 * u + y.toNat % 128) % 18446744073709551616 : Nat) := by
                rw [Int.tmod_eq_emod_of_nonneg (by omega), wrap_u64 (x := (y.toNat : Int) % 128) (by omega) (by omega), IntKind.wrap_u64, IntKind.wrap_u64]
                omega
              have hnext : ∀ (T : Nat → A) (H : Nat → O), T 0 = .d (.lst (l.map encB)) → T 6 = .d (.s (.int .i64 j)) → T 7 = .d (.s (.int .i64 ((j : Int) - ((r + 1 : Nat) : Int)))) → T 5 = .d (.s (.int .u64 ((128 * u + y.toNat % 128) % 18446744073709551616 : Nat))) → SumI l j (r + 1) ⟨68, 0, T, H⟩ := fun T H h1 h2 h3 h4 => ⟨T, H, rfl, h1, h2, h3, by rw [h4, hsum], by omega⟩
              simp [hT0, hT5, hT6, hT7, hge, hge', hrj, hilt, htn, hlt2, hy, encB]
              refine ⟨by omega, hnext _ _ (by simp [hT0]) (by simp [hT6]) ?_ ?_⟩
              · rw [upd_at, if_pos rfl, hsub]
              · simp only [upd_at, if_pos]
                simp only [Nat.reduceEqDiff, if_false, if_true]
                rw [hmul]
            · obtain rfl : r = j + 1 := by omega
              have hT7' : T 7 = .d (.s (.int .i64 (-1))) := by rw [hT7]; congr 3; omega
              clear hT7
              simp only [Nat.sub_self, List.drop_zero] at hT5
              have hu := sumL_lt (l.take (j + 1))
              have hget : getL l = if Lib.uvarint (sumL (l.take (j + 1))) = l.take (j + 1) then some (sumL (l.take (j + 1)), j + 1) else none := by
                rw [← refGetL_eq]
                unfold refGetL
                simp only [hK]
                rw [if_neg (by omega)]
              generalize hU : sumL (l.take (j + 1)) = u at *
              have hq : IntKind.i64.wrap (IntKind.u64.wrap ((u : Int) / 2)) = ((u / 2 : Nat) : Int) := by
                rw [wrap_u64 (by omega) (by omega), wrap_i64 (by omega) (by omega)]; omega
              have hm : (u : Int).tmod 2 = (u : Int) % 2 := Int.tmod_eq_emod_of_nonneg (by omega)
              have hj1 : IntKind.i64.wrap ((j : Int) + 1) = (j : Int) + 1 := wrap_i64 (by omega) (by omega)
              have hz : Lib.unzigzag u = if u % 2 = 1 then -((u / 2 : Nat) : Int) - 1 else ((u / 2 : Nat) : Int) := by
                unfold Lib.unzigzag; split <;> split <;> omega
              have hzb : -9223372036854775808 ≤ Lib.unzigzag u ∧ Lib.unzigzag u ≤ 9223372036854775807 := by rw [hz]; split <;> omega
              have hput := RefPut_ev ext hx1 hx2 (Lib.unzigzag u) hzb.1 hzb.2
              have hpl : putL (Lib.unzigzag u) = Lib.uvarint u := by unfold putL; rw [zigzag_unzigzag]
              rw [hpl] at hput
              have hsm := RefSame_ev ext hx3 (Lib.uvarint u) (l.take (j + 1)) (by have := Lib.uvarint_length64 hu; omega)
              rw [List.map_take] at hsm
              have s1 : (0 : Int) ≤ (j : Int) + 1 := by omega
              have s2 : (j : Int) + 1 ≤ (l.length : Int) := by omega
              have s3 : ((j : Int) + 1).toNat = j + 1 := by omega
              by_cases hodd : u % 2 = 1
              · rw [if_pos hodd] at hz
                rw [hz] at hput
                have ho : (u : Int) % 2 = 1 := by omega
                have hn1 : IntKind.i64.wrap (-((u / 2 : Nat) : Int)) = -((u / 2 : Nat) : Int) := wrap_i64 (by omega) (by omega)
                have hn2 : IntKind.i64.wrap (-((u / 2 : Nat) : Int) - 1) = -((u / 2 : Nat) : Int) - 1 := wrap_i64 (by omega) (by omega)
                generalize ((u / 2 : Nat) : Int) = q at *
                by_cases hd : Lib.uvarint u = l.take (j + 1)
                · rw [if_pos hd] at hget
                  have hdd : decide (Lib.uvarint u = l.take (j + 1)) = true := decide_eq_true hd
                  rw [hdd] at hsm
                  generalize Lib.uvarint u = pu at *
                  simp [hT0, hT5, hT6, hT7', hq, hm, ho, hn1, hn2, hput, hj1, sliceE, boundE, maxOk, headOk_bytes, take_encB, s1, s2, s3, hsm, getR, hget, hz]
                  show raceFree _ _ = true
                  kernel_rfl
                · rw [if_neg hd] at hget
                  have hdd : decide (Lib.uvarint u = l.take (j + 1)) = false := decide_eq_false hd
                  rw [hdd] at hsm
                  generalize Lib.uvarint u = pu at *
                  simp [hT0, hT5, hT6, hT7', hq, hm, ho, hn1, hn2, hput, hj1, sliceE, boundE, maxOk, headOk_bytes, take_encB, s1, s2, s3, hsm, getR, hget, hz]
                  show raceFree _ _ = true
                  kernel_rfl
              · rw [if_neg hodd] at hz
                rw [hz] at hput
                have ho : (u : Int) % 2 = 0 := by omega
                generalize ((u / 2 : Nat) : Int) = q at *
                by_cases hd : Lib.uvarint u = l.take (j + 1)
                · rw [if_pos hd] at hget
                  have hdd : decide (Lib.uvarint u = l.take (j + 1)) = true := decide_eq_true hd
                  rw [hdd] at hsm
                  generalize Lib.uvarint u = pu at *
                  simp [hT0, hT5, hT6, hT7', hq, hm, ho, hput, hj1, sliceE, boundE, maxOk, headOk_bytes, take_encB, s1, s2, s3, hsm, getR, hget, hz]
                  show raceFree _ _ = true
                  kernel_rfl
                · rw [if_neg hd] at hget
                  have hdd : decide (Lib.uvarint u = l.take (j + 1)) = false := decide_eq_false hd
                  rw [hdd] at hsm
                  generalize Lib.uvarint u = pu at *
                  simp [hT0, hT5, hT6, hT7', hq, hm, ho, hput, hj1, sliceE, boundE, maxOk, headOk_bytes, take_encB, s1, s2, s3, hsm, getR, hget, hz]
                  show raceFree _ _ = true
                  kernel_rfl
      · have e10 : j = 10 := by omega
        have hK : headK 10 l = j := headK_stop hj hjl hh (Or.inr (Or.inl e10))
        have h10' : ¬ (j : Int) < 10 := by omega
        have hgn : getL l = none := by rw [← refGetL_eq]; unfold refGetL; simp only [hK]; rw [if_pos (Or.inr e10)]
        subst e10
        have hl10 : (10 : Int) < (l.length : Int) := by omega
        have hnl : ¬ (10 : Int) = (l.length : Int) := by omega
        simp [hT0, hT5, hT6, hlt, hl10, hnl, getR, hgn]
    · have e : j = l.length := by omega
      have hK : headK 10 l = j := headK_stop hj hjl hh (Or.inl e)
      have hgn : getL l = none := by rw [← refGetL_eq]; unfold refGetL; simp only [hK]; rw [if_pos (Or.inl e)]
      have hlt' : ¬ (j : Int) < (l.length : Int) := by omega
      subst e
      simp [hT0, hT5, hT6, getR, hgn]
end Go.Proofs.YtkflfgkmbgjohaaDoor
