/-
  WHAT IS PROVED HERE: slices of slices, lengths, texts out of bytes: the interpreter says what the model does.
-/
import Derived.Test.YtkflfgkmbgjohaaDoorAbs6
set_option linter.unusedVariables false
set_option linter.unusedSimpArgs false
namespace Go.Proofs.YtkflfgkmbgjohaaDoor
open Go Go.RowKit

def OVA (ι : Ix) (S : Sb) (w : World) : Option A → Option Value → Prop
  | none, none => True
  | some a, some v => VA ι S w a v
  | _, _ => False
theorem run_bound1 {P : Program} {w : World} {ι : Ix} {S : Sb} {a : A} {v : Value} (h : VA ι S w a v) {i : Int} (hi : intOfA a = some i) {y : Nat} (h0 : 0 ≤ i) (h1 : i ≤ y) (code : BoundsCode) : (Instr.sliceBound v y code).run P w = .ok i.toNat w := by
  obtain ⟨k, rfl⟩ := int_of h hi
  exact run_sliceBound w k i y code h0 h1
theorem run_bounds {P : Program} {w : World} {ι : Ix} {S : Sb} {lo hi mx : Option A} {lo' hi' mx' : Option Value} (hlo : OVA ι S w lo lo') (hhi : OVA ι S w hi hi') (hmx : OVA ι S w mx mx') {len cap l u : Nat} (h : boundE lo hi len = some (l, u)) (hc : len ≤ cap) (hm : maxOk mx hi u = true) :
    (Instr.sliceBounds true len cap lo' hi' mx').run P w = .ok (l, u, if mx.isSome then u else cap) w ∧ l ≤ u ∧ u ≤ len := by
  unfold boundE at h
  split at h
  · cases h
  · rename_i hh hhe
    split at h
    · cases h
    · rename_i ll hle
      split at h
      · rename_i hcond
        obtain ⟨c1, c2, c3⟩ := hcond
        simp only [Option.some.injEq, Prod.mk.injEq] at h
        obtain ⟨rfl, rfl⟩ := h
        have e1 : ((hh.toNat : Nat) : Int) = hh := by omega
        refine ⟨?_, by omega, by omega⟩
        cases mx with
        | none =>
          cases mx' with
          | some _ => exact hmx.elim
          | none =>
            cases hi with
            | none =>
              cases hi' with
              | some _ => exact hhi.elim
              | none =>
                simp only [Option.some.injEq] at hhe
                subst hhe
                cases lo with
                | none =>
                  cases lo' with
                  | some _ => exact hlo.elim
                  | none =>
                    simp only [Option.some.injEq] at hle
                    subst hle
                    simp [Instr.sliceBounds, Sem.run_bind, Result.andThen]
                | some al =>
                  cases lo' with
                  | none => exact hlo.elim
                  | some vl =>
                    have := run_bound1 (P := P) hlo hle (y := len) c1 (by omega) .sliceB
                    simp [Instr.sliceBounds, Sem.run_bind, Result.andThen, this]
            | some ah =>
              cases hi' with
              | none => exact hhi.elim
              | some vh =>
                have h1 := run_bound1 (P := P) hhi hhe (y := cap) (by omega) (by omega) .sliceAcap
                cases lo with
                | none =>
                  cases lo' with
                  | some _ => exact hlo.elim
                  | none =>
                    simp only [Option.some.injEq] at hle
                    subst hle
                    simp [Instr.sliceBounds, Sem.run_bind, Result.andThen, h1]
                | some al =>
                  cases lo' with
                  | none => exact hlo.elim
                  | some vl =>
                    have h2 := run_bound1 (P := P) hlo hle (y := hh.toNat) c1 (by omega) .sliceB
                    simp [Instr.sliceBounds, Sem.run_bind, Result.andThen, h1, h2]
        | some am =>
          cases mx' with
          | none => exact hmx.elim
          | some vm =>
            simp only [maxOk, Bool.and_eq_true, beq_iff_eq] at hm
            cases hi with
            | none => simp at hm
            | some ah =>
              cases hi' with
              | none => exact hhi.elim
              | some vh =>
                have h0 := run_bound1 (P := P) hmx hm.2 (y := cap) (by omega) (by omega) .slice3Acap
                have h1 := run_bound1 (P := P) hhi hhe (y := hh.toNat) (by omega) (by omega) .slice3B
                rw [show ((hh.toNat : Nat) : Int).toNat = hh.toNat by omega] at h0
                cases lo with
                | none =>
                  cases lo' with
                  | some _ => exact hlo.elim
                  | none =>
                    simp only [Option.some.injEq] at hle
                    subst hle
                    simp [Instr.sliceBounds, Sem.run_bind, Result.andThen, h0, h1]
                | some al =>
                  cases lo' with
                  | none => exact hlo.elim
                  | some vl =>
                    have h2 := run_bound1 (P := P) hlo hle (y := hh.toNat) c1 (by omega) .slice3C
                    simp [Instr.sliceBounds, Sem.run_bind, Result.andThen, h0, h1, h2]
      · cases h
theorem run_sliceAt {P : Program} {w : World} {t e : TypeId} (ht : P.underlying t = some (.slice e)) {sz : Nat} (hs : tsize P e = some sz) {a : Option Addr} {len cap l u m : Nat} {lo hi mx : Option Value}
    (h : (Instr.sliceBounds true len cap lo hi mx).run P w = .ok (l, u, m) w) : (Instr.sliceAt t (.slice a len cap) lo hi mx).run P w = .ok (.slice (if m = l then a else a.map (·.add (l * sz))) (u - l) (m - l)) w := by
  simp [Instr.sliceAt, Instr.slice, Sem.run_bind, Result.andThen, run_under ht, run_size hs, h]
/-- The elements from l up to u, as they lie. -/
theorem sub_row {S : Sb} {w : World} {xs : List D} {a : Option Addr} {sz l u m : Nat} (hx : xs = [] ∨ ∃ b o n, a = some ⟨b, o, none⟩ ∧ RowD S w b n o xs) (hh : headOk sz xs = true) (hl : l ≤ u) (hu : u ≤ xs.length) (hm : u ≤ m) :
    (xs.take u).drop l = [] ∨ ∃ b o n, (if m = l then a else a.map (·.add (l * sz))) = some ⟨b, o, none⟩ ∧ RowD S w b n o ((xs.take u).drop l) := by
  by_cases e : l = u
  · left
    subst e
    simp
  · rcases hx with rfl | ⟨b, o, n, rfl, hrow⟩
    · simp at hu; omega
    · right
      have hn : n = sz := row_n hrow (by rintro rfl; simp at hu; omega) hh
      refine ⟨b, o + l * n, n, ?_, (hrow.take u).drop l⟩
      rw [if_neg (by omega), hn]
      simp [add_at]
theorem sub_len {xs : List D} {l u : Nat} (hu : u ≤ xs.length) : ((xs.take u).drop l).length = u - l := by
  simp only [List.length_drop, List.length_take]; omega
theorem slice_ok {P : Program} {E : Env} {ι : Ix} {S : Sb} {h : Nat → O} {w : World} (hr : RelH E ι S h w) {t : TypeId} {x : A} {v : Value} (hv : VA ι S w x v) {lo hi mx : Option A} {lo' hi' mx' : Option Value} (hlo : OVA ι S w lo lo') (hhi : OVA ι S w hi hi') (hmx : OVA ι S w mx mx')
    {ef : Eff} (he : sliceE P h t x lo hi mx = some ef) : ∃ u, (Instr.sliceAt t v lo' hi' mx').run P w = .ok u w ∧ Steps E ι S h w ef u w := by
  unfold sliceE at he
  split at he
  · cases he
  · rename_i e hte
    have ht : P.underlying t = some (.slice e) := by
      unfold telem at hte
      split at hte
      · rename_i e' h'; cases hte; exact h'
      · cases hte
    split at he
    · cases he
    · rename_i sz hs
      split at he
      · rename_i xs
        split at he
        · rename_i l u hb
          split at he
          · rename_i hc
            obtain ⟨hm, hh⟩ := hc
            obtain ⟨a, cap, rfl, hcap, hx⟩ := VA_lst.1 hv
            obtain ⟨hrun, h1, h2⟩ := run_bounds (P := P) hlo hhi hmx hb hcap hm
            have hrun' := run_sliceAt ht hs (a := a) hrun
            simp only [Option.some.injEq] at he
            subst he
            refine ⟨_, hrun', Steps.still hr rfl ?_⟩
            cases mx with
            | none =>
              simp only [Option.isSome_none, Bool.false_eq_true, if_false]
              refine VA_lst.2 ⟨_, _, by rw [sub_len h2], by rw [sub_len h2]; omega, sub_row hx hh h1 h2 (by omega)⟩
            | some am =>
              simp only [Option.isSome_some, if_true]
              show VA _ _ _ (.clip _) _
              unfold VA
              exact ⟨_, by rw [sub_len h2], sub_row hx hh h1 h2 (by omega)⟩
          · cases he
        · cases he
      · rename_i xs
        split at he
        · rename_i l u hb
          split at he
          · rename_i hc
            obtain ⟨hm, hh⟩ := hc
            unfold VA at hv
            obtain ⟨a, rfl, hx⟩ := hv
            obtain ⟨hrun, h1, h2⟩ := run_bounds (P := P) hlo hhi hmx hb (Nat.le_refl _) hm
            have hrun' := run_sliceAt ht hs (a := a) hrun
            simp only [Option.some.injEq] at he
            subst he
            refine ⟨_, hrun', Steps.still hr rfl ?_⟩
            cases mx with
            | none =>
              simp only [Option.isSome_none, Bool.false_eq_true, if_false, false_or]
              split
              · rename_i eu
                unfold VA
                subst eu
                exact ⟨_, by rw [sub_len (Nat.le_refl _)], sub_row hx hh h1 h2 (by omega)⟩
              · exact VA_lst.2 ⟨_, _, by rw [sub_len h2], by rw [sub_len h2]; omega, sub_row hx hh h1 h2 (by omega)⟩
            | some am =>
              simp only [Option.isSome_some, if_true, true_or]
              unfold VA
              exact ⟨_, by rw [sub_len h2], sub_row hx hh h1 h2 (by omega)⟩
          · cases he
        · cases he
      · rename_i id ver off len
        split at he
        · rename_i v' n xs fz l u ho hb
          split at he
          · rename_i hc
            obtain ⟨rfl, h3, h4, h5⟩ := hc
            cases mx with
            | some _ => cases h5
            | none =>
              unfold VA at hv
              obtain ⟨a, cap, rfl, hlc, hx⟩ := hv
              obtain ⟨hrun, h1, h2⟩ := run_bounds (P := P) hlo hhi hmx hb hlc rfl
              have hrun' := run_sliceAt ht hs (a := a) hrun
              simp only [Option.isSome_none, Bool.false_eq_true, if_false] at hrun'
              simp only [Option.some.injEq] at he
              subst he
              refine ⟨_, hrun', Steps.still hr rfl ?_⟩
              show VA _ _ _ (.sl id v' (off + l) (u - l)) _
              unfold VA
              refine ⟨_, _, rfl, by omega, ?_⟩
              by_cases hz : cap - l = 0
              · exact Or.inl hz
              · rcases hx with rfl | ⟨L, hL, rfl, hlim⟩
                · omega
                · refine Or.inr ⟨L, hL, ?_, by omega⟩
                  rw [if_neg (by omega)]
                  have hob := hr.objs id
                  rw [ho] at hob
                  have hn : L.n = n := by
                    rcases hob with ⟨_, g⟩ | ⟨L', g1, g2, _⟩
                    · rw [hL] at g; cases g
                    · rw [hL] at g1; cases g1; exact g2
                  have : l * sz = l * L.n := by
                    simp only [Bool.or_eq_true, List.isEmpty_iff, beq_iff_eq] at h4
                    rcases h4 with rfl | rfl
                    · simp at h3
                      have : l = 0 := by omega
                      simp [this]
                    · rw [hn]
                  simp [add_at, this, Nat.add_mul, Nat.add_assoc]
          · cases he
        · cases he
      · cases he
theorem len_ok {P : Program} {ι : Ix} {S : Sb} {w : World} {x : A} {v : Value} (hv : VA ι S w x v) {n : Nat} (h : lenE x = some n) : ∃ a cap, v = .slice a n cap := by
  unfold lenE at h
  split at h
  · simp only [Option.some.injEq] at h
    obtain ⟨a, cap, rfl, _⟩ := VA_lst.1 hv
    exact ⟨a, cap, by rw [h]⟩
  · simp only [Option.some.injEq] at h
    unfold VA at hv
    obtain ⟨a, rfl, _⟩ := hv
    exact ⟨a, _, by rw [h]⟩
  · simp only [Option.some.injEq] at h
    unfold VA at hv
    obtain ⟨a, cap, rfl, _⟩ := hv
    exact ⟨a, cap, by rw [h]⟩
  · cases h
end Go.Proofs.YtkflfgkmbgjohaaDoor
