/-
  WHAT IS PROVED HERE: what the row's listed variables give the laws of values (W2); a world in which they are laid; what the interpreter says, as a call in the model.
-/
import Derived.Test.YtkflfgkmbgjohaaDoorLift
import Derived.Test.YtkflfgkmbgjohaaDoorOpen
import Derived.Test.YtkflfgkmbgjohaaDoorExt02
import Derived.Stop.LaidErr
import Derived.Shelf.Vars
set_option linter.unusedVariables false
set_option linter.unusedSimpArgs false
namespace Go.Proofs.YtkflfgkmbgjohaaDoor
open Go Go.RowKit

theorem gES : Tryd.prog.globalNamed "strconv.ErrSyntax" = some 4 := by kernel_rfl
theorem gER : Tryd.prog.globalNamed "strconv.ErrRange" = some 5 := by kernel_rfl
theorem gEST : (Tryd.prog.globals[4]?).map (·.type) = some 61 := by kernel_rfl
theorem gERT : (Tryd.prog.globals[5]?).map (·.type) = some 61 := by kernel_rfl
theorem cellsES : Tryd.prog.cellsOf 116 = 1 := by kernel_rfl
theorem cellsS : Tryd.prog.cellsOf 9 = 1 := by kernel_rfl
def esName : String := (match (Rows.laid_strconv_ErrSyntax : DataW Unit) with | .iface n _ => n | _ => default)
theorem starES (s : String) (h : s.toList = [Char.ofNat 42]) : s ++ "errors.errorString" = esName := by
  apply String.toList_inj.1
  rw [String.toList_append, h]
  decide
theorem rowES (u : TypeId) (h : Tryd.prog.typeName? 3 u = some esName) : u = 114 :=
  typeName_ptr_named (nm := "errors.errorString") (by rw [starES _ (by decide)]; kernel_rfl) (by kernel_rfl) (by decide) u (by rw [starES _ (by decide)]; exact h)
theorem u64_prog : Tryd.prog.underlying 48 = some (.int .u64) := Tryd.underlying48
/-- WHAT THE LISTED VARIABLES GIVE. -/
theorem w2_of {w : World} (h : laidMet Tryd.prog Rows.valueTellsRow.laid w) (hsh : w.ShapedOpen Tryd.prog) : W2 w := by
  have h3 := h.tail.tail
  have h5 := h3.tail.tail
  have h6 := h5.tail
  obtain ⟨a0, s0, hv0, hc0, -, -⟩ := laid_sentinel h6 gES gEST Tryd.underlying61 rowES Tryd.underlying114 Tryd.underlying116 rfl rfl Tryd.underlying9 cellsES cellsS
  obtain ⟨a1, s1, hv1, hc1, -, -⟩ := laid_sentinel h5 gER gERT Tryd.underlying61 rowES Tryd.underlying114 Tryd.underlying116 rfl rfl Tryd.underlying9 cellsES cellsS
  have hm := cell_of_shapedOpen_int (g := 1) (t := 3) (zero := #[.int .i64 0]) hsh (of_decide_eq_true (by kernel_rfl)) (by kernel_rfl) rfl (by kernel_rfl) (by kernel_rfl) Tryd.underlying3
  refine ⟨?_, hm, ⟨_, _, hv0⟩, ⟨_, _, hv1⟩, ?_⟩
  · exact Lib.tabIs_of_head (g := 0) (by kernel_rfl) (by kernel_rfl) Tryd.underlying93 u64_prog (by kernel_rfl) (by kernel_rfl) (by exact h3)
  · exact ⟨lt_of_cell (World.var?_cell gES hv0 0), lt_of_cell (World.var?_cell gER hv1 0)⟩
/-- A world for the witness: the settled one, with the listed variables laid. -/
noncomputable def dataCells (d : DataW Unit) : Array Value := (match d with | .agg ps => ps.map cellOf | _ => []).toArray
def layCells (cs : Array Value) : Obj → Obj
  | .cells _ t frozen => .cells cs t frozen
  | o => o
def textOf (l : List UInt8) : Value := .string ⟨l.toArray⟩
noncomputable def holdHeap (os : Os) : Array Obj := (World.holding Tryd.prog os ⟨#[], #[], []⟩).heap
noncomputable def laidWorld2 (os : Os) : World :=
  { World.holding Tryd.prog os ⟨#[], #[], []⟩ with heap :=
    ((((((((holdHeap os).modify 2 layFirst).modify 3 layAccept).modify 6 (layCells (dataCells Rows.laid_math_bits_deBruijn32tab))).modify 7 (layCells (dataCells Rows.laid_math_bits_deBruijn64tab))).modify 0 (layCells (dataCells Rows.laid_internal_strconv_uint64pow10))).modify
      4 (layCells #[.iface 114 (.pointer (some ⟨(holdHeap os).size, 0, none⟩))])).modify 5 (layCells #[.iface 114 (.pointer (some ⟨(holdHeap os).size + 1, 0, none⟩))])) ++
      #[.cells #[textOf [105, 110, 118, 97, 108, 105, 100, 32, 115, 121, 110, 116, 97, 120]] 116, .cells #[textOf [118, 97, 108, 117, 101, 32, 111, 117, 116, 32, 111, 102, 32, 114, 97, 110, 103, 101]] 116] }
/-- What the interpreter says of a law, as a call. -/
theorem ret_true {P : Program} {I : World → Prop} {f : FuncId} {ds : List D} (h : Ret P I f ds (.val (.s (.bool true)))) {w : World} (hI : I w) {vs : Array Value} (hv : ValDs (fun b _ => b < w.heap.size) w ds vs.toList) : Calls P f vs w fun e w' => e = .returned (.bool true) ∧ Ext w w' := by
  refine (h.calls (fun b _ => b < w.heap.size) w vs hI (fun _ _ h => h) hv).mono ?_
  rintro e w' ⟨v, S', rfl, hb, _, _, hr⟩
  have hr' : ValD S' w' (.s (.bool true)) v := hr
  unfold ValD CellsD at hr'
  simp only [List.cons.injEq, and_true] at hr'
  rw [hr'.1]
  exact ⟨rfl, hb⟩
end Go.Proofs.YtkflfgkmbgjohaaDoor
