/-
  WHAT IS PROVED HERE: an argument that is a value, a text, or bytes, as the interpreter's data.
-/
import Derived.Test.YtkflfgkmbgjohaaDoorLift02
import Derived.Test.YtkflfgkmbgjohaaDoorVb02
set_option linter.unusedVariables false
set_option linter.unusedSimpArgs false
namespace Go.Proofs.YtkflfgkmbgjohaaDoor
open Go Go.RowKit

abbrev AllS (w : World) : Sb := fun b _ => b < w.heap.size
theorem opStr : Opens Tryd.prog 9 1 stringOk := opens_string Tryd.underlying9 (by kernel_rfl)
theorem opInt : Opens Tryd.prog 3 1 (intIs .i64) := opens_int Tryd.underlying3 (by kernel_rfl)
theorem opU8 : Opens Tryd.prog 5 1 (intIs .u8) := opens_int Tryd.underlying5 (by kernel_rfl)
theorem opBytes : Opens Tryd.prog 32 1 (sliceOk 1 1 (intIs .u8)) := opens_slice Tryd.underlying32 (by kernel_rfl) (by decide) (by kernel_rfl) opU8
theorem one_eq {a b : Value} (h : [a] = [b]) : a = b := by simpa using h
def valOk (_ : World) (x : Val) (l : List Value) : Prop := l = [.int .i64 x.kind, .int .i64 x.n, .string x.s] ∧ -9223372036854775808 ≤ x.n ∧ x.n ≤ 9223372036854775807
theorem i64_wf {n : Int} (h : (Lit.int .i64 n).wf = true) : -9223372036854775808 ≤ n ∧ n ≤ 9223372036854775807 := by
  simp [Lit.wf, IntKind.min, IntKind.max, IntKind.signed, IntKind.bits] at h
  omega
theorem u8_wf {n : Int} (h : (Lit.int .u8 n).wf = true) : 0 ≤ n ∧ n < 256 := by
  simp [Lit.wf, IntKind.min, IntKind.max, IntKind.signed, IntKind.bits] at h
  omega
theorem opVal : Opens Tryd.prog 23 3 valOk := by
  refine ⟨by kernel_rfl, fun enc w spare held fuel cs x h hw => ?_⟩
  obtain ⟨hl, hf⟩ := opens_fields Tryd.underlying23 h hw
  rw [show Tryd.prog.cellsOf 23 = 3 by kernel_rfl] at hl
  match cs, hl with
  | [c0, c1, c2], _ =>
  obtain ⟨y0, h0, g0⟩ := hf 0 _ rfl 1 _ opInt
  obtain ⟨y1, h1, g1⟩ := hf 1 _ rfl 1 _ opInt
  obtain ⟨y2, h2, g2⟩ := hf 2 _ rfl 1 _ opStr
  obtain rfl := one_eq h0
  obtain rfl := one_eq h1
  obtain rfl := one_eq h2
  exact ⟨⟨y0, y1, y2⟩, rfl, i64_wf g1⟩
theorem valD_str (S : Sb) (w : World) (s : ByteArray) : ValD S w (.s (.string s)) (.string s) := cells_str (S := S) (w := w) s
theorem valD_val {S : Sb} {w : World} {x : Val} {l : List Value} (h : valOk w x l) : ValD S w (.agg [.s (.int .i64 x.kind), .s (.int .i64 x.n), .s (.string x.s)]) (.agg l.toArray) := by
  refine ⟨l.toArray, rfl, ?_⟩
  rw [h.1]
  unfold CellsL CellsL CellsL CellsL
  exact ⟨_, _, rfl, ⟨rfl, by unfold CellsD; exact ⟨rfl, rfl⟩⟩, _, _, rfl, ⟨rfl, by unfold CellsD; exact ⟨rfl, rfl⟩⟩, _, _, rfl, ⟨rfl, by unfold CellsD; exact ⟨rfl, rfl⟩⟩, rfl⟩
theorem encB_of {n : Int} (h0 : 0 ≤ n) (h1 : n < 256) : encB (UInt8.ofNat n.toNat) = .s (.int .u8 n) := by
  unfold encB
  rw [UInt8.toNat_ofNat_of_lt' (by simp [UInt8.size]; omega), Int.toNat_of_nonneg h0]
theorem valD_bytes {w : World} {v : Value} {xs : List Int} (h : SliceOf 1 (intIs .u8) w v xs) : ∃ l : List UInt8, ValD (AllS w) w (.lst (l.map encB)) v := by
  obtain ⟨a, cap, rfl, h2, h3, h4, h5⟩ := h.out
  refine ⟨xs.map fun n => UInt8.ofNat n.toNat, ?_⟩
  show CellsD _ _ _ _
  unfold CellsD
  refine ⟨a, cap, by simp, by simpa using h2, ?_⟩
  by_cases h0 : xs = []
  · left; rw [h0]; rfl
  · right
    have hpos : 0 < xs.length := List.length_pos_iff.2 h0
    obtain ⟨b, off, ha, _⟩ := h5 0 hpos
    refine ⟨b, off, 1, ha, RowD_get.2 fun i x hx => ?_⟩
    rw [List.map_map, List.getElem?_map] at hx
    obtain ⟨n, hn, rfl⟩ := Option.map_eq_some_iff.1 hx
    have hi : i < xs.length := (List.getElem?_eq_some_iff.1 hn).1
    obtain ⟨b', off', ha', l, hl, hR, hc⟩ := h5 i hi
    rw [ha] at ha'
    simp only [Option.some.injEq, Addr.mk.injEq] at ha'
    obtain ⟨rfl, rfl, _⟩ := ha'
    have hxi : xs[i] = n := (List.getElem?_eq_some_iff.1 hn).2
    rw [hxi] at hR
    obtain ⟨rfl, hwf⟩ := hR
    have hb := u8_wf hwf
    refine ⟨[.int .u8 n], rfl, rfl, ?_, fun j u hj => ?_⟩
    · show CellsD _ _ (encB (UInt8.ofNat n.toNat)) _
      rw [encB_of hb.1 hb.2]
      unfold CellsD
      exact ⟨rfl, rfl⟩
    · cases j with
      | zero =>
        simp only [List.getElem?_cons_zero, Option.some.injEq] at hj
        subst hj
        have h6 := hc 0 (by simp)
        refine ⟨rfl, lt_of_cell h6, ?_⟩
        simpa using h6
      | succ j => simp at hj
theorem valDs_nil (S : Sb) (w : World) : ValDs S w [] [] := by simp only [ValDs]
theorem valDs_cons {S : Sb} {w : World} {x : D} {v : Value} {xs : List D} {vs : List Value} (h : ValD S w x v) (k : ValDs S w xs vs) : ValDs S w (x :: xs) (v :: vs) := Exists.intro v (Exists.intro vs (And.intro rfl (And.intro h k)))
end Go.Proofs.YtkflfgkmbgjohaaDoor
