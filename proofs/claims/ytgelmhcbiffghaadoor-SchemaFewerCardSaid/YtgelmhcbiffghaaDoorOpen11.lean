/-
  WHAT IS PROVED HERE: an argument of type api.Schema, or api.Table, lies in memory as the walks ask.
-/
import Derived.Test.YtgelmhcbiffghaaDoorOpen
import Derived.Test.YtgelmhcbiffghaaDoorData11
import Derived.Test.YtgelmhcbiffghaaDoorRows
namespace Go.Proofs.YtgelmhcbiffghaaDoor
open Go.RowKit

theorem i64_of {n : Int} (h : (Lit.int .i64 n).wf = true) : i64 n := by
  simp [Lit.wf, IntKind.min, IntKind.max, IntKind.signed, IntKind.bits] at h
  unfold i64
  omega
theorem maxLen_of {n : Nat} (h : n ≤ reachBytes) : n ≤ maxLen := Nat.le_trans h (by decide)

theorem opStr : Opens Tryd.prog 9 1 stringOk := opens_string Tryd.underlying9 (by kernel_rfl)
theorem opInt : Opens Tryd.prog 3 1 (intIs .i64) := opens_int Tryd.underlying3 (by kernel_rfl)
theorem opBool : Opens Tryd.prog 4 1 boolOk := opens_bool Tryd.underlying4 (by kernel_rfl)

theorem SliceOf.mono {α : Type} {n : Nat} {R R' : World → α → List Value → Prop} {w : World} {v : Value} {xs : List α} (h : SliceOf n R w v xs) (hR : ∀ x l, R w x l → R' w x l) : SliceOf n R' w v xs := by
  obtain ⟨a, cap, h1, h2, h3, h4, h5⟩ := h.out
  exact ⟨a, cap, h1, h2, h3, h4, fun i hi => by
    obtain ⟨b, off, h6, l, h7, h8, h9⟩ := h5 i hi
    exact ⟨b, off, h6, l, h7, hR _ _ h8, h9⟩⟩
theorem SliceOf.each {α : Type} {n : Nat} {R : World → α → List Value → Prop} {w : World} {v : Value} {xs : List α} (h : SliceOf n R w v xs) : ∀ x ∈ xs, ∃ l, R w x l := by
  intro x hx
  obtain ⟨i, hi, rfl⟩ := List.mem_iff_getElem.1 hx
  obtain ⟨a, cap, h1, h2, h3, h4, h5⟩ := h.out
  obtain ⟨b, off, h6, l, h7, h8, h9⟩ := h5 i hi
  exact ⟨l, h8⟩

theorem one_eq {a b : Value} (h : [a] = [b]) : a = b := by simpa using h
theorem opCol : Opens Tryd.prog 40 4 colOk := by
  refine ⟨by kernel_rfl, fun enc w spare held fuel cs x h hw => ?_⟩
  obtain ⟨hl, hf⟩ := opens_fields Tryd.underlying40 h hw
  rw [show Tryd.prog.cellsOf 40 = 4 by kernel_rfl] at hl
  match cs, hl with
  | [c0, c1, c2, c3], _ =>
  obtain ⟨y0, h0, g0⟩ := hf 0 _ rfl 1 _ opStr
  obtain ⟨y1, h1, g1⟩ := hf 1 _ rfl 1 _ opInt
  obtain ⟨y2, h2, g2⟩ := hf 2 _ rfl 1 _ opInt
  obtain ⟨y3, h3⟩ := hf 3 _ rfl 1 _ opBool
  obtain rfl := one_eq h0
  obtain rfl := one_eq h1
  obtain rfl := one_eq h2
  obtain rfl := one_eq h3
  exact ⟨⟨y0, y1, y2, y3⟩, rfl, maxLen_of g0, i64_of g1, i64_of g2⟩
theorem opFrn : Opens Tryd.prog 43 3 frnOk := by
  refine ⟨by kernel_rfl, fun enc w spare held fuel cs x h hw => ?_⟩
  obtain ⟨hl, hf⟩ := opens_fields Tryd.underlying43 h hw
  rw [show Tryd.prog.cellsOf 43 = 3 by kernel_rfl] at hl
  match cs, hl with
  | [c0, c1, c2], _ =>
  obtain ⟨y0, h0, g0⟩ := hf 0 _ rfl 1 _ opInt
  obtain ⟨y1, h1, g1⟩ := hf 1 _ rfl 1 _ opInt
  obtain ⟨y2, h2, g2⟩ := hf 2 _ rfl 1 _ opInt
  obtain rfl := one_eq h0
  obtain rfl := one_eq h1
  obtain rfl := one_eq h2
  exact ⟨⟨y0, y1, y2⟩, rfl, i64_of g0, i64_of g1, i64_of g2⟩
theorem opSm : Opens Tryd.prog 64 3 smOk := by
  refine ⟨by kernel_rfl, fun enc w spare held fuel cs x h hw => ?_⟩
  obtain ⟨hl, hf⟩ := opens_fields Tryd.underlying64 h hw
  rw [show Tryd.prog.cellsOf 64 = 3 by kernel_rfl] at hl
  match cs, hl with
  | [c0, c1, c2], _ =>
  obtain ⟨y0, h0, g0⟩ := hf 0 _ rfl 1 _ opInt
  obtain ⟨y1, h1, g1⟩ := hf 1 _ rfl 1 _ opInt
  obtain ⟨y2, h2, g2⟩ := hf 2 _ rfl 1 _ opInt
  obtain rfl := one_eq h0
  obtain rfl := one_eq h1
  obtain rfl := one_eq h2
  exact ⟨⟨y0, y1, y2⟩, rfl, i64_of g0, i64_of g1, i64_of g2⟩
theorem opInt1 : Opens Tryd.prog 3 1 intOk :=
  ⟨opInt.1, fun enc w spare held fuel cs x h hw => by
    obtain ⟨y, h1, h2⟩ := opInt.2 enc w spare held fuel cs x h hw
    exact ⟨y, h1, i64_of h2⟩⟩

def lenLim : Nat := 140737488355328
/-- All of a table's lists are of a length that a memory can hold. -/
def TblLim (t : Tbl) : Prop := t.cols.length ≤ lenLim ∧ t.uniq.length ≤ lenLim ∧ t.checks ≤ lenLim ∧ t.frn.length ≤ lenLim ∧ t.sums.length ≤ lenLim
def tblOkL (w : World) (t : Tbl) (l : List Value) : Prop := tblOk w t l ∧ TblLim t
theorem lim_of {n k : Nat} (hk : 0 < k) (h : n * k ≤ reachBytes) : n ≤ lenLim := by
  have : n * 1 ≤ n * k := Nat.mul_le_mul_left n hk
  have h2 : reachBytes ≤ lenLim := by decide
  omega
theorem opTbl : Opens Tryd.prog 36 6 tblOkL := by
  refine ⟨by kernel_rfl, fun enc w spare held fuel cs x h hw => ?_⟩
  obtain ⟨hl, hf⟩ := opens_fields Tryd.underlying36 h hw
  rw [show Tryd.prog.cellsOf 36 = 6 by kernel_rfl] at hl
  match cs, hl with
  | [c0, c1, c2, c3, c4, c5], _ =>
  obtain ⟨y0, h0, g0⟩ := hf 0 _ rfl 1 _ opStr
  obtain ⟨y1, v1, h1, g1, q1⟩ := hf 1 _ rfl 1 _ (opens_slice Tryd.underlying30 (by kernel_rfl) (by decide) rfl opCol)
  obtain ⟨y2, v2, h2, g2, q2⟩ := hf 2 _ rfl 1 _ (opens_slice Tryd.underlying31 (by kernel_rfl) (by decide) rfl opInt1)
  obtain ⟨y3, a3, p3, h3, r3, g3, q3⟩ := hf 3 _ rfl 1 _ (opens_len Tryd.underlying32 (by kernel_rfl) rfl)
  obtain ⟨y4, v4, h4, g4, q4⟩ := hf 4 _ rfl 1 _ (opens_slice Tryd.underlying33 (by kernel_rfl) (by decide) rfl opFrn)
  obtain ⟨y5, v5, h5, g5, q5⟩ := hf 5 _ rfl 1 _ (opens_slice Tryd.underlying34 (by kernel_rfl) (by decide) rfl opSm)
  obtain rfl := one_eq h0
  obtain rfl := one_eq h1
  obtain rfl := one_eq h2
  obtain rfl := one_eq h3
  obtain rfl := one_eq h4
  obtain rfl := one_eq h5
  have l1 := lim_of (show 0 < Tryd.prog.bytesOf 40 from of_decide_eq_true (by kernel_rfl)) q1
  have l2 := lim_of (show 0 < Tryd.prog.bytesOf 3 from of_decide_eq_true (by kernel_rfl)) q2
  have l3 := lim_of (show 0 < Tryd.prog.bytesOf 120 from of_decide_eq_true (by kernel_rfl)) q3
  have l4 := lim_of (show 0 < Tryd.prog.bytesOf 43 from of_decide_eq_true (by kernel_rfl)) q4
  have l5 := lim_of (show 0 < Tryd.prog.bytesOf 64 from of_decide_eq_true (by kernel_rfl)) q5
  exact ⟨⟨y0, y1, y2, y3, y4, y5⟩, ⟨_, _, _, _, _, _, rfl, maxLen_of g0, Nat.le_trans r3 g3, g1, g2, g4, g5⟩, l1, l2, l3, l4, l5⟩

/-- A schema as one cell. -/
def schOk (w : World) (s : List Tbl) (l : List Value) : Prop := ∃ v, l = [v] ∧ SliceOf 6 tblOk w v s ∧ s.length ≤ lenLim ∧ ∀ t ∈ s, TblLim t
theorem opSch : Opens Tryd.prog 26 1 schOk := by
  refine ⟨by kernel_rfl, fun enc w spare held fuel cs x h hw => ?_⟩
  obtain ⟨hl, hf⟩ := opens_fields Tryd.underlying26 h hw
  rw [show Tryd.prog.cellsOf 26 = 1 by kernel_rfl] at hl
  match cs, hl with
  | [c0], _ =>
  obtain ⟨y, v, h0, g, q⟩ := hf 0 _ rfl 1 _ (opens_slice Tryd.underlying24 (by kernel_rfl) (by decide) rfl opTbl)
  obtain rfl := one_eq h0
  refine ⟨y, c0, rfl, g.mono (fun _ _ h => h.1), lim_of (show 0 < Tryd.prog.bytesOf 36 from of_decide_eq_true (by kernel_rfl)) q, fun t ht => ?_⟩
  obtain ⟨l, hl⟩ := g.each t ht
  exact hl.2

theorem agg_one {P : Program} {w : World} {b : Nat} {r : Reach} {t : TypeId} {f0 : Field} {v : Value} {c : Value} (hs : P.underlying t = some (.struct #[f0])) (hv : Value.okWide P w r b t v) (h : v.cells.toList = [c]) : v = .agg #[c] := by
  obtain ⟨cs, rfl, hsz⟩ := Go.WideShapes.okWide_struct hs hv
  simp only [Value.cells] at h
  obtain ⟨l⟩ := cs
  simp at h
  rw [h]
end Go.Proofs.YtgelmhcbiffghaaDoor
