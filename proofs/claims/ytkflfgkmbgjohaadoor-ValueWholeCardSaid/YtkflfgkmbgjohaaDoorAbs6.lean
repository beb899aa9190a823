/-
  WHAT IS PROVED HERE: elements, parts of structs, slices of slices, lengths, texts out of bytes: the interpreter says what the model does.
-/
import Derived.Test.YtkflfgkmbgjohaaDoorAbs5
import Derived.Laws.Slices
import Derived.Laws.BytesString
import Derived.Laws.IdiomStrings
set_option linter.unusedVariables false
set_option linter.unusedSimpArgs false
namespace Go.Proofs.YtkflfgkmbgjohaaDoor
open Go Go.RowKit

theorem int_of {ι : Ix} {S : Sb} {w : World} {x : A} {u : Value} {i : Int} (h : VA ι S w x u) (hx : intOfA x = some i) : ∃ k, u = .int k i := by
  unfold intOfA at hx
  split at hx
  · simp only [Option.some.injEq] at hx
    subst hx
    unfold VA ValD CellsD at h
    simp only [List.cons.injEq, and_true] at h
    exact ⟨_, h.1⟩
  · cases hx
theorem VA_lst {ι : Ix} {S : Sb} {w : World} {xs : List D} {u : Value} : VA ι S w (.d (.lst xs)) u ↔ ∃ a cap, u = .slice a xs.length cap ∧ xs.length ≤ cap ∧ (xs = [] ∨ ∃ b o n, a = some ⟨b, o, none⟩ ∧ RowD S w b n o xs) := by
  unfold VA ValD CellsD
  simp only [List.cons.injEq, and_true]
theorem row_n {S : Sb} {w : World} {b n o sz : Nat} {xs : List D} (h : RowD S w b n o xs) (hne : xs ≠ []) (hh : headOk sz xs = true) : n = sz := by
  cases xs with
  | nil => exact absurd rfl hne
  | cons x xs =>
    obtain ⟨us, _, h2, _⟩ := RowD_get.1 h 0 x rfl
    simp only [headOk, beq_iff_eq] at hh
    omega

theorem idx_run {P : Program} {w : World} {t e : TypeId} (ht : P.underlying t = some (.slice e)) {sz : Nat} (hs : tsize P e = some sz) (b o len cap : Nat) (k : IntKind) (i : Int) (h0 : 0 ≤ i) (h1 : i < len) :
    (Instr.indexAt t (.slice (some ⟨b, o, none⟩) len cap) (.int k i)).run P w = .ok (.pointer (some ⟨b, o + i.toNat * sz, none⟩)) w := by
  simp [Instr.indexAt, asIntOf, Sem.run_bind, Result.andThen, run_under ht, run_size hs, h0, h1, add_at]
theorem idxE_ok {P : Program} {E : Env} {ι : Ix} {S : Sb} {h : Nat → O} {w : World} (hr : RelH E ι S h w) {t e : TypeId} (ht : P.underlying t = some (.slice e)) {sz : Nat} (hs : tsize P e = some sz) {xs : List D} {a : Option Addr} {cap : Nat} (hx : xs = [] ∨ ∃ b o n, a = some ⟨b, o, none⟩ ∧ RowD S w b n o xs) {k : IntKind} {i : Int} {ef : Eff} (he : idxE xs sz i = some ef) :
    ∃ u, (Instr.indexAt t (.slice a xs.length cap) (.int k i)).run P w = .ok u w ∧ Steps E ι S h w ef u w := by
  unfold idxE at he
  split at he
  · rename_i hc
    obtain ⟨h0, h1, h2⟩ := hc
    simp only [Option.some.injEq] at he
    subst he
    obtain ⟨x, hx', hxs⟩ := Option.map_eq_some_iff.1 h2
    rcases hx with rfl | ⟨b, o, n, rfl, hrow⟩
    · simp at hx'
    · obtain ⟨us, _, h4, _⟩ := RowD_get.1 hrow _ x hx'
      refine ⟨_, idx_run ht hs b o xs.length cap k i h0 h1, Steps.still hr rfl ?_⟩
      show VA _ _ _ (.ep xs i.toNat 0) _
      unfold VA
      exact ⟨b, o, n, by rw [Nat.add_zero, ← hxs, h4], hrow⟩
  · cases he
theorem indexAddr_ok {P : Program} {E : Env} {ι : Ix} {S : Sb} {h : Nat → O} {w : World} (hr : RelH E ι S h w) {t : TypeId} {x ix : A} {v vi : Value} (hv : VA ι S w x v) (hi : VA ι S w ix vi) {e : Eff} (he : indexAddrE P h t x ix = some e) :
    ∃ u, (Instr.indexAt t v vi).run P w = .ok u w ∧ Steps E ι S h w e u w := by
  unfold indexAddrE at he
  split at he
  · rename_i i el hii ht
    obtain ⟨k, rfl⟩ := int_of hi hii
    split at he
    · rename_i sz xs hs
      obtain ⟨a, cap, rfl, _, hx⟩ := VA_lst.1 hv
      exact idxE_ok hr ht hs hx he
    · rename_i sz xs hs
      unfold VA at hv
      obtain ⟨a, rfl, hx⟩ := hv
      exact idxE_ok hr ht hs hx he
    · rename_i sz id ver off len hs
      split at he
      · rename_i v' n xs fz ho
        split at he
        · rename_i hc
          obtain ⟨rfl, rfl, h0, h1⟩ := hc
          simp only [Option.some.injEq] at he
          subst he
          unfold VA at hv
          obtain ⟨a, cap, rfl, hlc, hx⟩ := hv
          rcases hx with rfl | ⟨L, hL, rfl, hcap⟩
          · omega
          · have hob := hr.objs id
            rw [ho] at hob
            have hn : L.n = n := by
              rcases hob with ⟨_, g⟩ | ⟨L', g1, g2, _⟩
              · rw [hL] at g; cases g
              · rw [hL] at g1; cases g1; exact g2
            refine ⟨_, idx_run ht hs _ _ len cap k i h0 h1, Steps.still hr rfl ?_⟩
            show VA _ _ _ (.op id v' (off + i.toNat) 0) _
            unfold VA
            refine ⟨L, hL, ?_⟩
            rw [hn, Nat.add_mul, Nat.add_zero, Nat.add_assoc]
        · cases he
      · cases he
    · cases he
  · rename_i i len el hii ht
    obtain ⟨k, rfl⟩ := int_of hi hii
    split at he
    · rename_i sz id ver off hs
      split at he
      · rename_i hc
        obtain ⟨h0, h1⟩ := hc
        simp only [Option.some.injEq] at he
        subst he
        unfold VA at hv
        obtain ⟨L, hL, hst, rfl⟩ := hv
        refine ⟨.pointer (some ⟨L.b, off + i.toNat * sz, none⟩), ?_, Steps.still hr rfl ?_⟩
        · simp [Instr.indexAt, Instr.sureAddr, asIntOf, Sem.run_bind, Result.andThen, run_under ht, run_size hs, h0, h1, add_at]
        · show VA _ _ _ (.bp _ _ _) _
          unfold VA
          exact ⟨L, hL, hst, rfl⟩
      · cases he
    · cases he
  · cases he

theorem VL_take {ι : Ix} {S : Sb} {w : World} {xs : List A} {us : List Value} (h : VL ι S w xs us) (k n : Nat) : VL ι S w ((xs.drop k).take n) ((us.drop k).take n) := by
  obtain ⟨h1, h2⟩ := VL_get.1 h
  refine VL_get.2 ⟨by simp [h1], fun i x u hx hu => ?_⟩
  rw [List.getElem?_take] at hx hu
  split at hx
  · rename_i hi
    rw [if_pos hi] at hu
    rw [List.getElem?_drop] at hx hu
    exact h2 _ x u hx hu
  · cases hx
theorem part_ok {P : Program} {ι : Ix} {S : Sb} {w : World} {t : TypeId} {cs : List A} {us : Array Value} (hv : VL ι S w cs us.toList) {off : Nat} {y : A} (h : partE P t cs off = some y) : ∃ u, (part t us off).run P w = .ok u w ∧ VA ι S w y u := by
  obtain ⟨h1, h2⟩ := VL_get.1 hv
  unfold partE at h
  split at h
  · rename_i n ha hs
    split at h
    · rename_i hn
      simp only [Option.some.injEq] at h
      subst h
      refine ⟨.agg (us.extract off (off + n)), ?_, ?_⟩
      · simp [part, Sem.run_bind, Result.andThen, run_agg ha, run_size hs]
      · have e : us.extract off (off + n) = ((us.toList.drop off).take n).toArray := by
          apply Array.ext'
          simp [Array.toList_extract, List.extract]
        rw [e]
        exact VA_mk (VL_take hv off n)
    · cases h
  · rename_i ha hs
    have hoff : off < us.size := by have := (List.getElem?_eq_some_iff.1 h).1; simp at h1; omega
    refine ⟨us[off], ?_, h2 off y us[off] h (by simp [hoff])⟩
    simp [part, Sem.run_bind, Result.andThen, run_agg ha, Array.getElem?_eq_getElem hoff]
  · cases h
theorem agg_of {ι : Ix} {S : Sb} {w : World} {x : A} {u : Value} (h : VA ι S w x u) (hx : x.isAgg = true) : ∃ us, u = .agg us ∧ VL ι S w x.cells us.toList := by
  have hne : x ≠ .any := by rintro rfl; cases hx
  have hc := VA_cells h hne
  unfold A.isAgg at hx
  split at hx
  · unfold VA ValD at h
    obtain ⟨us, rfl, _⟩ := h
    exact ⟨us, rfl, hc⟩
  · unfold VA at h
    obtain ⟨us, rfl, _⟩ := h
    exact ⟨us, rfl, hc⟩
  · cases hx
theorem field_ok {P : Program} {ι : Ix} {S : Sb} {w : World} {s : TypeId} {x : A} {v : Value} (hv : VA ι S w x v) {f : Nat} {y : A} (h : fieldE P s x f = some y) : ∃ u, (Instr.field s v f).run P w = .ok u w ∧ VA ι S w y u := by
  unfold fieldE at h
  split at h
  · rename_i fs hu
    split at h
    · rename_i fd hf
      split at h
      · rename_i hg
        obtain ⟨us, rfl, hc⟩ := agg_of hv hg
        obtain ⟨u, h1, h2⟩ := part_ok hc h
        exact ⟨u, by simp [Instr.field, asAgg, Sem.run_bind, Result.andThen, run_under hu, hf, h1], h2⟩
      · cases h
    · cases h
  · cases h
theorem index_ok {P : Program} {ι : Ix} {S : Sb} {w : World} {t : TypeId} {x ix : A} {v vi : Value} (hv : VA ι S w x v) (hi : VA ι S w ix vi) {y : A} (h : indexE P t x ix = some y) : ∃ u, (Instr.index t v vi).run P w = .ok u w ∧ VA ι S w y u := by
  unfold indexE at h
  split at h
  · rename_i i len el hii ht
    obtain ⟨k, rfl⟩ := int_of hi hii
    split at h
    · rename_i sz hs
      split at h
      · rename_i hc
        obtain ⟨hg, h0, h1⟩ := hc
        obtain ⟨us, rfl, hc⟩ := agg_of hv hg
        obtain ⟨u, g1, g2⟩ := part_ok hc h
        exact ⟨u, by simp [Instr.index, asIntOf, Sem.run_bind, Result.andThen, run_under ht, run_size hs, h0, h1, g1], g2⟩
      · cases h
    · cases h
  · cases h
end Go.Proofs.YtkflfgkmbgjohaaDoor
