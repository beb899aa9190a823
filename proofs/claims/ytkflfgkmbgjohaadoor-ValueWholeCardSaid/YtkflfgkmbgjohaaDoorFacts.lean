/-
  WHAT IS PROVED HERE: closed facts of the program's types: sizes, fields, zero values. (Written by a program of ours.)
-/
import Derived.Test.YtkflfgkmbgjohaaDoorSim2
import Derived.Test.YtkflfgkmbgjohaaDoorProg
import Derived.KernelRfl
set_option linter.unusedVariables false
set_option linter.unusedSimpArgs false
namespace Go.Proofs.YtkflfgkmbgjohaaDoor
open Go Go.RowKit
theorem ts0 : tsize Tryd.prog 0 = some 1 := by kernel_rfl
theorem tb0 : Tryd.prog.bytesOf 0 = 0 := by kernel_rfl
theorem ta0 : tagg Tryd.prog 0 = some false := by kernel_rfl
theorem tz0 : tzero Tryd.prog 0 = some (.tuple #[]) := by kernel_rfl
theorem ts1 : tsize Tryd.prog 1 = some 1 := by kernel_rfl
theorem tb1 : Tryd.prog.bytesOf 1 = 8 := by kernel_rfl
theorem ta1 : tagg Tryd.prog 1 = some false := by kernel_rfl
theorem tz1 : tzero Tryd.prog 1 = some (.nilFunc) := by kernel_rfl
theorem ts2 : tsize Tryd.prog 2 = some 1 := by kernel_rfl
theorem tb2 : Tryd.prog.bytesOf 2 = 8 := by kernel_rfl
theorem ta2 : tagg Tryd.prog 2 = some false := by kernel_rfl
theorem tz2 : tzero Tryd.prog 2 = some (.int .i64 (0)) := by kernel_rfl
theorem ts3 : tsize Tryd.prog 3 = some 1 := by kernel_rfl
theorem tb3 : Tryd.prog.bytesOf 3 = 8 := by kernel_rfl
theorem ta3 : tagg Tryd.prog 3 = some false := by kernel_rfl
theorem tz3 : tzero Tryd.prog 3 = some (.int .i64 (0)) := by kernel_rfl
theorem ts4 : tsize Tryd.prog 4 = some 1 := by kernel_rfl
theorem tb4 : Tryd.prog.bytesOf 4 = 1 := by kernel_rfl
theorem ta4 : tagg Tryd.prog 4 = some false := by kernel_rfl
theorem tz4 : tzero Tryd.prog 4 = some (.bool false) := by kernel_rfl
theorem ts5 : tsize Tryd.prog 5 = some 1 := by kernel_rfl
theorem tb5 : Tryd.prog.bytesOf 5 = 1 := by kernel_rfl
theorem ta5 : tagg Tryd.prog 5 = some false := by kernel_rfl
theorem tz5 : tzero Tryd.prog 5 = some (.int .u8 (0)) := by kernel_rfl
theorem ts6 : tsize Tryd.prog 6 = some 1 := by kernel_rfl
theorem tb6 : Tryd.prog.bytesOf 6 = 1 := by kernel_rfl
theorem ta6 : tagg Tryd.prog 6 = some false := by kernel_rfl
theorem tz6 : tzero Tryd.prog 6 = some (.int .u8 (0)) := by kernel_rfl
theorem ts7 : tsize Tryd.prog 7 = some 4 := by kernel_rfl
theorem tb7 : Tryd.prog.bytesOf 7 = 24 := by kernel_rfl
theorem ta7 : tagg Tryd.prog 7 = some true := by kernel_rfl
theorem bd7 (parts : List (Nat × A)) : buildE Tryd.prog 7 parts = (fillA (fun j => [(0, 1), (1, 1), (2, 1), (3, 1)][j]?) [.d (.s (.int .i64 (0))), .d (.s (.int .i64 (0))), .d (.s (.bool false)), .d (.s (.int .u8 (0)))] parts).map A.mk := by kernel_rfl
theorem eq7 (x y : Operand) (a0 b0 : Int) (a1 b1 : Int) (a2 b2 : Bool) (a3 b3 : Int) : exBin Tryd.prog .eql 7 x y (.d (.agg [.s (.int .i64 a0), .s (.int .i64 a1), .s (.bool a2), .s (.int .u8 a3)])) (.d (.agg [.s (.int .i64 b0), .s (.int .i64 b1), .s (.bool b2), .s (.int .u8 b3)])) = some { v := .d (.s (.bool ((a0 == b0 && (a1 == b1 && (a2 == b2 && (a3 == b3 && true))))))) } := (ex_agg_eql rfl rfl Tryd.underlying7 (by kernel_rfl) (by kernel_rfl) (by kernel_rfl)).1
theorem ne7 (x y : Operand) (a0 b0 : Int) (a1 b1 : Int) (a2 b2 : Bool) (a3 b3 : Int) : exBin Tryd.prog .neq 7 x y (.d (.agg [.s (.int .i64 a0), .s (.int .i64 a1), .s (.bool a2), .s (.int .u8 a3)])) (.d (.agg [.s (.int .i64 b0), .s (.int .i64 b1), .s (.bool b2), .s (.int .u8 b3)])) = some { v := .d (.s (.bool (!((a0 == b0 && (a1 == b1 && (a2 == b2 && (a3 == b3 && true)))))))) } := (ex_agg_eql rfl rfl Tryd.underlying7 (by kernel_rfl) (by kernel_rfl) (by kernel_rfl)).2
theorem fa7_0 (x : A) : fieldAddrE Tryd.prog 7 x 0 = faddr x 0 := by cases x <;> kernel_rfl
theorem fa7_1 (x : A) : fieldAddrE Tryd.prog 7 x 1 = faddr x 1 := by cases x <;> kernel_rfl
theorem fa7_2 (x : A) : fieldAddrE Tryd.prog 7 x 2 = faddr x 2 := by cases x <;> kernel_rfl
theorem fa7_3 (x : A) : fieldAddrE Tryd.prog 7 x 3 = faddr x 3 := by cases x <;> kernel_rfl
theorem tz7 : tzero Tryd.prog 7 = some (.agg #[.int .i64 (0), .int .i64 (0), .bool false, .int .u8 (0)]) := by kernel_rfl
theorem ts8 : tsize Tryd.prog 8 = some 4 := by kernel_rfl
theorem tb8 : Tryd.prog.bytesOf 8 = 24 := by kernel_rfl
theorem ta8 : tagg Tryd.prog 8 = some true := by kernel_rfl
theorem bd8 (parts : List (Nat × A)) : buildE Tryd.prog 8 parts = (fillA (fun j => [(0, 1), (1, 1), (2, 1), (3, 1)][j]?) [.d (.s (.int .i64 (0))), .d (.s (.int .i64 (0))), .d (.s (.bool false)), .d (.s (.int .u8 (0)))] parts).map A.mk := by kernel_rfl
theorem eq8 (x y : Operand) (a0 b0 : Int) (a1 b1 : Int) (a2 b2 : Bool) (a3 b3 : Int) : exBin Tryd.prog .eql 8 x y (.d (.agg [.s (.int .i64 a0), .s (.int .i64 a1), .s (.bool a2), .s (.int .u8 a3)])) (.d (.agg [.s (.int .i64 b0), .s (.int .i64 b1), .s (.bool b2), .s (.int .u8 b3)])) = some { v := .d (.s (.bool ((a0 == b0 && (a1 == b1 && (a2 == b2 && (a3 == b3 && true))))))) } := (ex_agg_eql rfl rfl Tryd.underlying8 (by kernel_rfl) (by kernel_rfl) (by kernel_rfl)).1
theorem ne8 (x y : Operand) (a0 b0 : Int) (a1 b1 : Int) (a2 b2 : Bool) (a3 b3 : Int) : exBin Tryd.prog .neq 8 x y (.d (.agg [.s (.int .i64 a0), .s (.int .i64 a1), .s (.bool a2), .s (.int .u8 a3)])) (.d (.agg [.s (.int .i64 b0), .s (.int .i64 b1), .s (.bool b2), .s (.int .u8 b3)])) = some { v := .d (.s (.bool (!((a0 == b0 && (a1 == b1 && (a2 == b2 && (a3 == b3 && true)))))))) } := (ex_agg_eql rfl rfl Tryd.underlying8 (by kernel_rfl) (by kernel_rfl) (by kernel_rfl)).2
theorem fa8_0 (x : A) : fieldAddrE Tryd.prog 8 x 0 = faddr x 0 := by cases x <;> kernel_rfl
theorem fa8_1 (x : A) : fieldAddrE Tryd.prog 8 x 1 = faddr x 1 := by cases x <;> kernel_rfl
theorem fa8_2 (x : A) : fieldAddrE Tryd.prog 8 x 2 = faddr x 2 := by cases x <;> kernel_rfl
theorem fa8_3 (x : A) : fieldAddrE Tryd.prog 8 x 3 = faddr x 3 := by cases x <;> kernel_rfl
theorem tz8 : tzero Tryd.prog 8 = some (.agg #[.int .i64 (0), .int .i64 (0), .bool false, .int .u8 (0)]) := by kernel_rfl
theorem ts9 : tsize Tryd.prog 9 = some 1 := by kernel_rfl
theorem tb9 : Tryd.prog.bytesOf 9 = 16 := by kernel_rfl
theorem ta9 : tagg Tryd.prog 9 = some false := by kernel_rfl
theorem tz9 : tzero Tryd.prog 9 = some (.string ⟨#[]⟩) := by kernel_rfl
theorem ts10 : tsize Tryd.prog 10 = some 1 := by kernel_rfl
theorem tb10 : Tryd.prog.bytesOf 10 = 16 := by kernel_rfl
theorem ta10 : tagg Tryd.prog 10 = some false := by kernel_rfl
theorem tz10 : tzero Tryd.prog 10 = some (.string ⟨#[]⟩) := by kernel_rfl
theorem ts11 : tsize Tryd.prog 11 = some 1 := by kernel_rfl
theorem tb11 : Tryd.prog.bytesOf 11 = 16 := by kernel_rfl
theorem ta11 : tagg Tryd.prog 11 = some false := by kernel_rfl
theorem tz11 : tzero Tryd.prog 11 = some (.string ⟨#[]⟩) := by kernel_rfl
theorem ts12 : tsize Tryd.prog 12 = some 1 := by kernel_rfl
theorem tb12 : Tryd.prog.bytesOf 12 = 8 := by kernel_rfl
theorem ta12 : tagg Tryd.prog 12 = some false := by kernel_rfl
theorem tz12 : tzero Tryd.prog 12 = some (.int .u64 (0)) := by kernel_rfl
theorem ts13 : tsize Tryd.prog 13 = some 2 := by kernel_rfl
theorem tb13 : Tryd.prog.bytesOf 13 = 24 := by kernel_rfl
theorem ta13 : tagg Tryd.prog 13 = some true := by kernel_rfl
theorem bd13 (parts : List (Nat × A)) : buildE Tryd.prog 13 parts = (fillA (fun j => [(0, 1), (1, 1)][j]?) [.d (.s (.string ⟨#[]⟩)), .d (.s (.int .u64 (0)))] parts).map A.mk := by kernel_rfl
theorem fa13_0 (x : A) : fieldAddrE Tryd.prog 13 x 0 = faddr x 0 := by cases x <;> kernel_rfl
theorem fa13_1 (x : A) : fieldAddrE Tryd.prog 13 x 1 = faddr x 1 := by cases x <;> kernel_rfl
theorem tz13 : tzero Tryd.prog 13 = some (.agg #[.string ⟨#[]⟩, .int .u64 (0)]) := by kernel_rfl
theorem ts14 : tsize Tryd.prog 14 = some 2 := by kernel_rfl
theorem tb14 : Tryd.prog.bytesOf 14 = 24 := by kernel_rfl
theorem ta14 : tagg Tryd.prog 14 = some true := by kernel_rfl
theorem bd14 (parts : List (Nat × A)) : buildE Tryd.prog 14 parts = (fillA (fun j => [(0, 1), (1, 1)][j]?) [.d (.s (.string ⟨#[]⟩)), .d (.s (.int .u64 (0)))] parts).map A.mk := by kernel_rfl
theorem fa14_0 (x : A) : fieldAddrE Tryd.prog 14 x 0 = faddr x 0 := by cases x <;> kernel_rfl
theorem fa14_1 (x : A) : fieldAddrE Tryd.prog 14 x 1 = faddr x 1 := by cases x <;> kernel_rfl
theorem tz14 : tzero Tryd.prog 14 = some (.agg #[.string ⟨#[]⟩, .int .u64 (0)]) := by kernel_rfl
theorem ts15 : tsize Tryd.prog 15 = some 1 := by kernel_rfl
theorem tb15 : Tryd.prog.bytesOf 15 = 8 := by kernel_rfl
theorem ta15 : tagg Tryd.prog 15 = some false := by kernel_rfl
theorem tz15 : tzero Tryd.prog 15 = some (.pointer none) := by kernel_rfl
theorem ts16 : tsize Tryd.prog 16 = some 1 := by kernel_rfl
theorem tb16 : Tryd.prog.bytesOf 16 = 8 := by kernel_rfl
theorem ta16 : tagg Tryd.prog 16 = some false := by kernel_rfl
theorem tz16 : tzero Tryd.prog 16 = some (.pointer none) := by kernel_rfl
theorem ts17 : tsize Tryd.prog 17 = some 1 := by kernel_rfl
theorem tb17 : Tryd.prog.bytesOf 17 = 8 := by kernel_rfl
theorem ta17 : tagg Tryd.prog 17 = some false := by kernel_rfl
theorem tz17 : tzero Tryd.prog 17 = some (.pointer none) := by kernel_rfl
theorem ts18 : tsize Tryd.prog 18 = some 1 := by kernel_rfl
theorem tb18 : Tryd.prog.bytesOf 18 = 8 := by kernel_rfl
theorem ta18 : tagg Tryd.prog 18 = some true := by kernel_rfl
theorem bd18 (parts : List (Nat × A)) : buildE Tryd.prog 18 parts = (fillA (fun j => [(0, 1)][j]?) [.d (.s (.pointer none))] parts).map A.mk := by kernel_rfl
theorem fa18_0 (x : A) : fieldAddrE Tryd.prog 18 x 0 = faddr x 0 := by cases x <;> kernel_rfl
theorem tz18 : tzero Tryd.prog 18 = some (.agg #[.pointer none]) := by kernel_rfl
theorem ts19 : tsize Tryd.prog 19 = some 1 := by kernel_rfl
theorem tb19 : Tryd.prog.bytesOf 19 = 8 := by kernel_rfl
theorem ta19 : tagg Tryd.prog 19 = some true := by kernel_rfl
theorem bd19 (parts : List (Nat × A)) : buildE Tryd.prog 19 parts = (fillA (fun j => [(0, 1)][j]?) [.d (.s (.pointer none))] parts).map A.mk := by kernel_rfl
theorem fa19_0 (x : A) : fieldAddrE Tryd.prog 19 x 0 = faddr x 0 := by cases x <;> kernel_rfl
theorem tz19 : tzero Tryd.prog 19 = some (.agg #[.pointer none]) := by kernel_rfl
theorem ts20 : tsize Tryd.prog 20 = some 1 := by kernel_rfl
theorem tb20 : Tryd.prog.bytesOf 20 = 16 := by kernel_rfl
theorem ta20 : tagg Tryd.prog 20 = some false := by kernel_rfl
theorem tz20 : tzero Tryd.prog 20 = some (.nilIface) := by kernel_rfl
theorem ts21 : tsize Tryd.prog 21 = some 1 := by kernel_rfl
theorem tb21 : Tryd.prog.bytesOf 21 = 4 := by kernel_rfl
theorem ta21 : tagg Tryd.prog 21 = some false := by kernel_rfl
theorem tz21 : tzero Tryd.prog 21 = some (.int .i32 (0)) := by kernel_rfl
theorem ts22 : tsize Tryd.prog 22 = some 3 := by kernel_rfl
theorem tb22 : Tryd.prog.bytesOf 22 = 32 := by kernel_rfl
theorem ta22 : tagg Tryd.prog 22 = some true := by kernel_rfl
theorem bd22 (parts : List (Nat × A)) : buildE Tryd.prog 22 parts = (fillA (fun j => [(0, 1), (1, 1), (2, 1)][j]?) [.d (.s (.int .i64 (0))), .d (.s (.int .i64 (0))), .d (.s (.string ⟨#[]⟩))] parts).map A.mk := by kernel_rfl
theorem eq22 (x y : Operand) (a0 b0 : Int) (a1 b1 : Int) (a2 b2 : ByteArray) : exBin Tryd.prog .eql 22 x y (.d (.agg [.s (.int .i64 a0), .s (.int .i64 a1), .s (.string a2)])) (.d (.agg [.s (.int .i64 b0), .s (.int .i64 b1), .s (.string b2)])) = some { v := .d (.s (.bool ((a0 == b0 && (a1 == b1 && (a2 == b2 && true)))))) } := (ex_agg_eql rfl rfl Tryd.underlying22 (by kernel_rfl) (by kernel_rfl) (by kernel_rfl)).1
theorem ne22 (x y : Operand) (a0 b0 : Int) (a1 b1 : Int) (a2 b2 : ByteArray) : exBin Tryd.prog .neq 22 x y (.d (.agg [.s (.int .i64 a0), .s (.int .i64 a1), .s (.string a2)])) (.d (.agg [.s (.int .i64 b0), .s (.int .i64 b1), .s (.string b2)])) = some { v := .d (.s (.bool (!((a0 == b0 && (a1 == b1 && (a2 == b2 && true))))))) } := (ex_agg_eql rfl rfl Tryd.underlying22 (by kernel_rfl) (by kernel_rfl) (by kernel_rfl)).2
theorem fa22_0 (x : A) : fieldAddrE Tryd.prog 22 x 0 = faddr x 0 := by cases x <;> kernel_rfl
theorem fa22_1 (x : A) : fieldAddrE Tryd.prog 22 x 1 = faddr x 1 := by cases x <;> kernel_rfl
theorem fa22_2 (x : A) : fieldAddrE Tryd.prog 22 x 2 = faddr x 2 := by cases x <;> kernel_rfl
theorem tz22 : tzero Tryd.prog 22 = some (.agg #[.int .i64 (0), .int .i64 (0), .string ⟨#[]⟩]) := by kernel_rfl
theorem ts23 : tsize Tryd.prog 23 = some 3 := by kernel_rfl
theorem tb23 : Tryd.prog.bytesOf 23 = 32 := by kernel_rfl
theorem ta23 : tagg Tryd.prog 23 = some true := by kernel_rfl
theorem bd23 (parts : List (Nat × A)) : buildE Tryd.prog 23 parts = (fillA (fun j => [(0, 1), (1, 1), (2, 1)][j]?) [.d (.s (.int .i64 (0))), .d (.s (.int .i64 (0))), .d (.s (.string ⟨#[]⟩))] parts).map A.mk := by kernel_rfl
theorem eq23 (x y : Operand) (a0 b0 : Int) (a1 b1 : Int) (a2 b2 : ByteArray) : exBin Tryd.prog .eql 23 x y (.d (.agg [.s (.int .i64 a0), .s (.int .i64 a1), .s (.string a2)])) (.d (.agg [.s (.int .i64 b0), .s (.int .i64 b1), .s (.string b2)])) = some { v := .d (.s (.bool ((a0 == b0 && (a1 == b1 && (a2 == b2 && true)))))) } := (ex_agg_eql rfl rfl Tryd.underlying23 (by kernel_rfl) (by kernel_rfl) (by kernel_rfl)).1
theorem ne23 (x y : Operand) (a0 b0 : Int) (a1 b1 : Int) (a2 b2 : ByteArray) : exBin Tryd.prog .neq 23 x y (.d (.agg [.s (.int .i64 a0), .s (.int .i64 a1), .s (.string a2)])) (.d (.agg [.s (.int .i64 b0), .s (.int .i64 b1), .s (.string b2)])) = some { v := .d (.s (.bool (!((a0 == b0 && (a1 == b1 && (a2 == b2 && true))))))) } := (ex_agg_eql rfl rfl Tryd.underlying23 (by kernel_rfl) (by kernel_rfl) (by kernel_rfl)).2
theorem fa23_0 (x : A) : fieldAddrE Tryd.prog 23 x 0 = faddr x 0 := by cases x <;> kernel_rfl
theorem fa23_1 (x : A) : fieldAddrE Tryd.prog 23 x 1 = faddr x 1 := by cases x <;> kernel_rfl
theorem fa23_2 (x : A) : fieldAddrE Tryd.prog 23 x 2 = faddr x 2 := by cases x <;> kernel_rfl
theorem tz23 : tzero Tryd.prog 23 = some (.agg #[.int .i64 (0), .int .i64 (0), .string ⟨#[]⟩]) := by kernel_rfl
theorem ts24 : tsize Tryd.prog 24 = some 1 := by kernel_rfl
theorem tb24 : Tryd.prog.bytesOf 24 = 8 := by kernel_rfl
theorem ta24 : tagg Tryd.prog 24 = some false := by kernel_rfl
theorem tz24 : tzero Tryd.prog 24 = some (.nilFunc) := by kernel_rfl
theorem ts25 : tsize Tryd.prog 25 = some 1 := by kernel_rfl
theorem tb25 : Tryd.prog.bytesOf 25 = 8 := by kernel_rfl
theorem ta25 : tagg Tryd.prog 25 = some false := by kernel_rfl
theorem tz25 : tzero Tryd.prog 25 = some (.nilFunc) := by kernel_rfl
theorem ts26 : tsize Tryd.prog 26 = some 1 := by kernel_rfl
theorem tb26 : Tryd.prog.bytesOf 26 = 8 := by kernel_rfl
theorem ta26 : tagg Tryd.prog 26 = some false := by kernel_rfl
theorem tz26 : tzero Tryd.prog 26 = some (.nilFunc) := by kernel_rfl
theorem ts27 : tsize Tryd.prog 27 = some 1 := by kernel_rfl
theorem tb27 : Tryd.prog.bytesOf 27 = 8 := by kernel_rfl
theorem ta27 : tagg Tryd.prog 27 = some false := by kernel_rfl
theorem tz27 : tzero Tryd.prog 27 = some (.nilFunc) := by kernel_rfl
theorem ts28 : tsize Tryd.prog 28 = some 1 := by kernel_rfl
theorem tb28 : Tryd.prog.bytesOf 28 = 8 := by kernel_rfl
theorem ta28 : tagg Tryd.prog 28 = some false := by kernel_rfl
theorem tz28 : tzero Tryd.prog 28 = some (.int .i64 (0)) := by kernel_rfl
theorem ts29 : tsize Tryd.prog 29 = some 1 := by kernel_rfl
theorem tb29 : Tryd.prog.bytesOf 29 = 0 := by kernel_rfl
theorem ta29 : tagg Tryd.prog 29 = some false := by kernel_rfl
theorem tz29 : tzero Tryd.prog 29 = some (.tuple #[.agg #[.int .i64 (0), .int .i64 (0), .string ⟨#[]⟩], .int .i64 (0)]) := by kernel_rfl
theorem ts30 : tsize Tryd.prog 30 = some 1 := by kernel_rfl
theorem tb30 : Tryd.prog.bytesOf 30 = 8 := by kernel_rfl
theorem ta30 : tagg Tryd.prog 30 = some false := by kernel_rfl
theorem tz30 : tzero Tryd.prog 30 = some (.nilFunc) := by kernel_rfl
theorem ts31 : tsize Tryd.prog 31 = some 1 := by kernel_rfl
theorem tb31 : Tryd.prog.bytesOf 31 = 8 := by kernel_rfl
theorem ta31 : tagg Tryd.prog 31 = some false := by kernel_rfl
theorem tz31 : tzero Tryd.prog 31 = some (.nilFunc) := by kernel_rfl
theorem ts32 : tsize Tryd.prog 32 = some 1 := by kernel_rfl
theorem tb32 : Tryd.prog.bytesOf 32 = 24 := by kernel_rfl
theorem ta32 : tagg Tryd.prog 32 = some false := by kernel_rfl
theorem te32 : telem Tryd.prog 32 = some 5 := by kernel_rfl
theorem tz32 : tzero Tryd.prog 32 = some (.slice none 0 0) := by kernel_rfl
theorem ts33 : tsize Tryd.prog 33 = some 1 := by kernel_rfl
theorem tb33 : Tryd.prog.bytesOf 33 = 0 := by kernel_rfl
theorem ta33 : tagg Tryd.prog 33 = some false := by kernel_rfl
theorem tz33 : tzero Tryd.prog 33 = some (.tuple #[.agg #[.int .i64 (0), .int .i64 (0), .string ⟨#[]⟩], .int .i64 (0), .int .i64 (0)]) := by kernel_rfl
theorem ts34 : tsize Tryd.prog 34 = some 1 := by kernel_rfl
theorem tb34 : Tryd.prog.bytesOf 34 = 8 := by kernel_rfl
theorem ta34 : tagg Tryd.prog 34 = some false := by kernel_rfl
theorem tz34 : tzero Tryd.prog 34 = some (.nilFunc) := by kernel_rfl
theorem ts35 : tsize Tryd.prog 35 = some 1 := by kernel_rfl
theorem tb35 : Tryd.prog.bytesOf 35 = 8 := by kernel_rfl
theorem ta35 : tagg Tryd.prog 35 = some false := by kernel_rfl
theorem tz35 : tzero Tryd.prog 35 = some (.nilFunc) := by kernel_rfl
theorem ts36 : tsize Tryd.prog 36 = some 1 := by kernel_rfl
theorem tb36 : Tryd.prog.bytesOf 36 = 8 := by kernel_rfl
theorem ta36 : tagg Tryd.prog 36 = some false := by kernel_rfl
theorem tz36 : tzero Tryd.prog 36 = some (.nilFunc) := by kernel_rfl
theorem ts37 : tsize Tryd.prog 37 = some 1 := by kernel_rfl
theorem tb37 : Tryd.prog.bytesOf 37 = 8 := by kernel_rfl
theorem ta37 : tagg Tryd.prog 37 = some false := by kernel_rfl
theorem tz37 : tzero Tryd.prog 37 = some (.nilFunc) := by kernel_rfl
theorem ts38 : tsize Tryd.prog 38 = some 1 := by kernel_rfl
theorem tb38 : Tryd.prog.bytesOf 38 = 8 := by kernel_rfl
theorem ta38 : tagg Tryd.prog 38 = some false := by kernel_rfl
theorem tz38 : tzero Tryd.prog 38 = some (.nilFunc) := by kernel_rfl
theorem ts39 : tsize Tryd.prog 39 = some 1 := by kernel_rfl
theorem tb39 : Tryd.prog.bytesOf 39 = 8 := by kernel_rfl
theorem ta39 : tagg Tryd.prog 39 = some false := by kernel_rfl
theorem tz39 : tzero Tryd.prog 39 = some (.nilFunc) := by kernel_rfl
theorem ts40 : tsize Tryd.prog 40 = some 1 := by kernel_rfl
theorem tb40 : Tryd.prog.bytesOf 40 = 8 := by kernel_rfl
theorem ta40 : tagg Tryd.prog 40 = some false := by kernel_rfl
theorem tz40 : tzero Tryd.prog 40 = some (.nilFunc) := by kernel_rfl
theorem ts41 : tsize Tryd.prog 41 = some 1 := by kernel_rfl
theorem tb41 : Tryd.prog.bytesOf 41 = 8 := by kernel_rfl
theorem ta41 : tagg Tryd.prog 41 = some false := by kernel_rfl
theorem tz41 : tzero Tryd.prog 41 = some (.nilFunc) := by kernel_rfl
theorem ts42 : tsize Tryd.prog 42 = some 1 := by kernel_rfl
theorem tb42 : Tryd.prog.bytesOf 42 = 8 := by kernel_rfl
theorem ta42 : tagg Tryd.prog 42 = some false := by kernel_rfl
theorem tz42 : tzero Tryd.prog 42 = some (.nilFunc) := by kernel_rfl
theorem ts43 : tsize Tryd.prog 43 = some 1 := by kernel_rfl
theorem tb43 : Tryd.prog.bytesOf 43 = 8 := by kernel_rfl
theorem ta43 : tagg Tryd.prog 43 = some false := by kernel_rfl
theorem tz43 : tzero Tryd.prog 43 = some (.nilFunc) := by kernel_rfl
theorem ts44 : tsize Tryd.prog 44 = some 1 := by kernel_rfl
theorem tb44 : Tryd.prog.bytesOf 44 = 8 := by kernel_rfl
theorem ta44 : tagg Tryd.prog 44 = some false := by kernel_rfl
theorem tz44 : tzero Tryd.prog 44 = some (.nilFunc) := by kernel_rfl
theorem ts45 : tsize Tryd.prog 45 = some 1 := by kernel_rfl
theorem tb45 : Tryd.prog.bytesOf 45 = 8 := by kernel_rfl
theorem ta45 : tagg Tryd.prog 45 = some false := by kernel_rfl
theorem tz45 : tzero Tryd.prog 45 = some (.map none) := by kernel_rfl
theorem ts46 : tsize Tryd.prog 46 = some 1 := by kernel_rfl
theorem tb46 : Tryd.prog.bytesOf 46 = 0 := by kernel_rfl
theorem ta46 : tagg Tryd.prog 46 = some false := by kernel_rfl
theorem tz46 : tzero Tryd.prog 46 = some (.tuple #[.nilFunc, .bool false]) := by kernel_rfl
theorem ts47 : tsize Tryd.prog 47 = some 1 := by kernel_rfl
theorem tb47 : Tryd.prog.bytesOf 47 = 8 := by kernel_rfl
theorem ta47 : tagg Tryd.prog 47 = some false := by kernel_rfl
theorem tz47 : tzero Tryd.prog 47 = some (.nilFunc) := by kernel_rfl
theorem ts48 : tsize Tryd.prog 48 = some 1 := by kernel_rfl
theorem tb48 : Tryd.prog.bytesOf 48 = 8 := by kernel_rfl
theorem ta48 : tagg Tryd.prog 48 = some false := by kernel_rfl
theorem tz48 : tzero Tryd.prog 48 = some (.int .u64 (0)) := by kernel_rfl
theorem ts49 : tsize Tryd.prog 49 = some 1 := by kernel_rfl
theorem tb49 : Tryd.prog.bytesOf 49 = 24 := by kernel_rfl
theorem ta49 : tagg Tryd.prog 49 = some false := by kernel_rfl
theorem te49 : telem Tryd.prog 49 = some 23 := by kernel_rfl
theorem tz49 : tzero Tryd.prog 49 = some (.slice none 0 0) := by kernel_rfl
theorem ts50 : tsize Tryd.prog 50 = some 1 := by kernel_rfl
theorem tb50 : Tryd.prog.bytesOf 50 = 0 := by kernel_rfl
theorem ta50 : tagg Tryd.prog 50 = some false := by kernel_rfl
theorem tz50 : tzero Tryd.prog 50 = some (.tuple #[.int .i64 (0), .int .i64 (0), .int .i64 (0)]) := by kernel_rfl
theorem ts51 : tsize Tryd.prog 51 = some 1 := by kernel_rfl
theorem tb51 : Tryd.prog.bytesOf 51 = 8 := by kernel_rfl
theorem ta51 : tagg Tryd.prog 51 = some false := by kernel_rfl
theorem tz51 : tzero Tryd.prog 51 = some (.nilFunc) := by kernel_rfl
theorem ts52 : tsize Tryd.prog 52 = some 1 := by kernel_rfl
theorem tb52 : Tryd.prog.bytesOf 52 = 0 := by kernel_rfl
theorem ta52 : tagg Tryd.prog 52 = some false := by kernel_rfl
theorem tz52 : tzero Tryd.prog 52 = some (.tuple #[.string ⟨#[]⟩, .int .i64 (0), .int .i64 (0)]) := by kernel_rfl
theorem ts53 : tsize Tryd.prog 53 = some 1 := by kernel_rfl
theorem tb53 : Tryd.prog.bytesOf 53 = 8 := by kernel_rfl
theorem ta53 : tagg Tryd.prog 53 = some false := by kernel_rfl
theorem tz53 : tzero Tryd.prog 53 = some (.nilFunc) := by kernel_rfl
theorem ts54 : tsize Tryd.prog 54 = some 1 := by kernel_rfl
theorem tb54 : Tryd.prog.bytesOf 54 = 8 := by kernel_rfl
theorem ta54 : tagg Tryd.prog 54 = some false := by kernel_rfl
theorem tz54 : tzero Tryd.prog 54 = some (.nilFunc) := by kernel_rfl
theorem ts55 : tsize Tryd.prog 55 = some 1 := by kernel_rfl
theorem tb55 : Tryd.prog.bytesOf 55 = 8 := by kernel_rfl
theorem ta55 : tagg Tryd.prog 55 = some false := by kernel_rfl
theorem tz55 : tzero Tryd.prog 55 = some (.nilFunc) := by kernel_rfl
theorem ts56 : tsize Tryd.prog 56 = some 1 := by kernel_rfl
theorem tb56 : Tryd.prog.bytesOf 56 = 8 := by kernel_rfl
theorem ta56 : tagg Tryd.prog 56 = some false := by kernel_rfl
theorem tz56 : tzero Tryd.prog 56 = some (.nilFunc) := by kernel_rfl
theorem ts57 : tsize Tryd.prog 57 = some 1 := by kernel_rfl
theorem tb57 : Tryd.prog.bytesOf 57 = 0 := by kernel_rfl
theorem ta57 : tagg Tryd.prog 57 = some false := by kernel_rfl
theorem tz57 : tzero Tryd.prog 57 = some (.tuple #[.string ⟨#[]⟩, .bool false]) := by kernel_rfl
theorem ts58 : tsize Tryd.prog 58 = some 1 := by kernel_rfl
theorem tb58 : Tryd.prog.bytesOf 58 = 8 := by kernel_rfl
theorem ta58 : tagg Tryd.prog 58 = some false := by kernel_rfl
theorem tz58 : tzero Tryd.prog 58 = some (.nilFunc) := by kernel_rfl
theorem ts59 : tsize Tryd.prog 59 = some 1 := by kernel_rfl
theorem tb59 : Tryd.prog.bytesOf 59 = 8 := by kernel_rfl
theorem ta59 : tagg Tryd.prog 59 = some false := by kernel_rfl
theorem tz59 : tzero Tryd.prog 59 = some (.nilFunc) := by kernel_rfl
theorem ts60 : tsize Tryd.prog 60 = some 1 := by kernel_rfl
theorem tb60 : Tryd.prog.bytesOf 60 = 16 := by kernel_rfl
theorem ta60 : tagg Tryd.prog 60 = some false := by kernel_rfl
theorem tz60 : tzero Tryd.prog 60 = some (.nilIface) := by kernel_rfl
theorem ts61 : tsize Tryd.prog 61 = some 1 := by kernel_rfl
theorem tb61 : Tryd.prog.bytesOf 61 = 16 := by kernel_rfl
theorem ta61 : tagg Tryd.prog 61 = some false := by kernel_rfl
theorem tz61 : tzero Tryd.prog 61 = some (.nilIface) := by kernel_rfl
theorem ts62 : tsize Tryd.prog 62 = some 1 := by kernel_rfl
theorem tb62 : Tryd.prog.bytesOf 62 = 0 := by kernel_rfl
theorem ta62 : tagg Tryd.prog 62 = some false := by kernel_rfl
theorem tz62 : tzero Tryd.prog 62 = some (.tuple #[.int .i64 (0), .nilIface]) := by kernel_rfl
theorem ts63 : tsize Tryd.prog 63 = some 1 := by kernel_rfl
theorem tb63 : Tryd.prog.bytesOf 63 = 8 := by kernel_rfl
theorem ta63 : tagg Tryd.prog 63 = some false := by kernel_rfl
theorem tz63 : tzero Tryd.prog 63 = some (.nilFunc) := by kernel_rfl
theorem ts64 : tsize Tryd.prog 64 = some 1 := by kernel_rfl
theorem tb64 : Tryd.prog.bytesOf 64 = 8 := by kernel_rfl
theorem ta64 : tagg Tryd.prog 64 = some false := by kernel_rfl
theorem tz64 : tzero Tryd.prog 64 = some (.int .u64 (0)) := by kernel_rfl
theorem ts65 : tsize Tryd.prog 65 = some 1 := by kernel_rfl
theorem tb65 : Tryd.prog.bytesOf 65 = 8 := by kernel_rfl
theorem ta65 : tagg Tryd.prog 65 = some false := by kernel_rfl
theorem tz65 : tzero Tryd.prog 65 = some (.nilFunc) := by kernel_rfl
theorem ts66 : tsize Tryd.prog 66 = some 1 := by kernel_rfl
theorem tb66 : Tryd.prog.bytesOf 66 = 8 := by kernel_rfl
theorem ta66 : tagg Tryd.prog 66 = some false := by kernel_rfl
theorem tz66 : tzero Tryd.prog 66 = some (.nilFunc) := by kernel_rfl
theorem ts67 : tsize Tryd.prog 67 = some 1 := by kernel_rfl
theorem tb67 : Tryd.prog.bytesOf 67 = 8 := by kernel_rfl
theorem ta67 : tagg Tryd.prog 67 = some false := by kernel_rfl
theorem tz67 : tzero Tryd.prog 67 = some (.nilFunc) := by kernel_rfl
theorem ts68 : tsize Tryd.prog 68 = some 1 := by kernel_rfl
theorem tb68 : Tryd.prog.bytesOf 68 = 8 := by kernel_rfl
theorem ta68 : tagg Tryd.prog 68 = some false := by kernel_rfl
theorem tz68 : tzero Tryd.prog 68 = some (.nilFunc) := by kernel_rfl
theorem ts69 : tsize Tryd.prog 69 = some 1 := by kernel_rfl
theorem tb69 : Tryd.prog.bytesOf 69 = 8 := by kernel_rfl
theorem ta69 : tagg Tryd.prog 69 = some false := by kernel_rfl
theorem tz69 : tzero Tryd.prog 69 = some (.pointer none) := by kernel_rfl
theorem ts70 : tsize Tryd.prog 70 = some 2 := by kernel_rfl
theorem tb70 : Tryd.prog.bytesOf 70 = 32 := by kernel_rfl
theorem ta70 : tagg Tryd.prog 70 = some true := by kernel_rfl
theorem bd70 (parts : List (Nat × A)) : buildE Tryd.prog 70 parts = (fillA (fun j => [(0, 1), (1, 1)][j]?) [.d (.s (.pointer none)), .clip []] parts).map A.mk := by kernel_rfl
theorem fa70_0 (x : A) : fieldAddrE Tryd.prog 70 x 0 = faddr x 0 := by cases x <;> kernel_rfl
theorem fa70_1 (x : A) : fieldAddrE Tryd.prog 70 x 1 = faddr x 1 := by cases x <;> kernel_rfl
theorem tz70 : tzero Tryd.prog 70 = some (.agg #[.pointer none, .slice none 0 0]) := by kernel_rfl
theorem ts71 : tsize Tryd.prog 71 = some 2 := by kernel_rfl
theorem tb71 : Tryd.prog.bytesOf 71 = 32 := by kernel_rfl
theorem ta71 : tagg Tryd.prog 71 = some true := by kernel_rfl
theorem bd71 (parts : List (Nat × A)) : buildE Tryd.prog 71 parts = (fillA (fun j => [(0, 1), (1, 1)][j]?) [.d (.s (.pointer none)), .clip []] parts).map A.mk := by kernel_rfl
theorem fa71_0 (x : A) : fieldAddrE Tryd.prog 71 x 0 = faddr x 0 := by cases x <;> kernel_rfl
theorem fa71_1 (x : A) : fieldAddrE Tryd.prog 71 x 1 = faddr x 1 := by cases x <;> kernel_rfl
theorem tz71 : tzero Tryd.prog 71 = some (.agg #[.pointer none, .slice none 0 0]) := by kernel_rfl
theorem ts72 : tsize Tryd.prog 72 = some 1 := by kernel_rfl
theorem tb72 : Tryd.prog.bytesOf 72 = 8 := by kernel_rfl
theorem ta72 : tagg Tryd.prog 72 = some false := by kernel_rfl
theorem tz72 : tzero Tryd.prog 72 = some (.nilFunc) := by kernel_rfl
theorem ts73 : tsize Tryd.prog 73 = some 1 := by kernel_rfl
theorem tb73 : Tryd.prog.bytesOf 73 = 0 := by kernel_rfl
theorem ta73 : tagg Tryd.prog 73 = some false := by kernel_rfl
theorem tz73 : tzero Tryd.prog 73 = some (.tuple #[.int .i32 (0), .int .i64 (0)]) := by kernel_rfl
theorem ts74 : tsize Tryd.prog 74 = some 1 := by kernel_rfl
theorem tb74 : Tryd.prog.bytesOf 74 = 8 := by kernel_rfl
theorem ta74 : tagg Tryd.prog 74 = some false := by kernel_rfl
theorem tz74 : tzero Tryd.prog 74 = some (.nilFunc) := by kernel_rfl
theorem ts75 : tsize Tryd.prog 75 = some 1 := by kernel_rfl
theorem tb75 : Tryd.prog.bytesOf 75 = 8 := by kernel_rfl
theorem ta75 : tagg Tryd.prog 75 = some false := by kernel_rfl
theorem tz75 : tzero Tryd.prog 75 = some (.nilFunc) := by kernel_rfl
theorem ts76 : tsize Tryd.prog 76 = some 24 := by kernel_rfl
theorem tb76 : Tryd.prog.bytesOf 76 = 24 := by kernel_rfl
theorem ta76 : tagg Tryd.prog 76 = some true := by kernel_rfl
theorem tz76 : tzero Tryd.prog 76 = some (.agg #[.int .u8 (0), .int .u8 (0), .int .u8 (0), .int .u8 (0), .int .u8 (0), .int .u8 (0), .int .u8 (0), .int .u8 (0), .int .u8 (0), .int .u8 (0), .int .u8 (0), .int .u8 (0), .int .u8 (0), .int .u8 (0), .int .u8 (0), .int .u8 (0), .int .u8 (0), .int .u8 (0), .int .u8 (0), .int .u8 (0), .int .u8 (0), .int .u8 (0), .int .u8 (0), .int .u8 (0)]) := by kernel_rfl
theorem ts77 : tsize Tryd.prog 77 = some 1 := by kernel_rfl
theorem tb77 : Tryd.prog.bytesOf 77 = 8 := by kernel_rfl
theorem ta77 : tagg Tryd.prog 77 = some false := by kernel_rfl
theorem tz77 : tzero Tryd.prog 77 = some (.nilFunc) := by kernel_rfl
theorem ts78 : tsize Tryd.prog 78 = some 1 := by kernel_rfl
theorem tb78 : Tryd.prog.bytesOf 78 = 8 := by kernel_rfl
theorem ta78 : tagg Tryd.prog 78 = some false := by kernel_rfl
theorem tz78 : tzero Tryd.prog 78 = some (.nilFunc) := by kernel_rfl
theorem ts79 : tsize Tryd.prog 79 = some 1 := by kernel_rfl
theorem tb79 : Tryd.prog.bytesOf 79 = 0 := by kernel_rfl
theorem ta79 : tagg Tryd.prog 79 = some false := by kernel_rfl
theorem tz79 : tzero Tryd.prog 79 = some (.tuple #[.slice none 0 0, .string ⟨#[]⟩]) := by kernel_rfl
theorem ts80 : tsize Tryd.prog 80 = some 1 := by kernel_rfl
theorem tb80 : Tryd.prog.bytesOf 80 = 8 := by kernel_rfl
theorem ta80 : tagg Tryd.prog 80 = some false := by kernel_rfl
theorem tz80 : tzero Tryd.prog 80 = some (.nilFunc) := by kernel_rfl
theorem ts81 : tsize Tryd.prog 81 = some 1 := by kernel_rfl
theorem tb81 : Tryd.prog.bytesOf 81 = 8 := by kernel_rfl
theorem ta81 : tagg Tryd.prog 81 = some false := by kernel_rfl
theorem tz81 : tzero Tryd.prog 81 = some (.nilFunc) := by kernel_rfl
theorem ts82 : tsize Tryd.prog 82 = some 1 := by kernel_rfl
theorem tb82 : Tryd.prog.bytesOf 82 = 8 := by kernel_rfl
theorem ta82 : tagg Tryd.prog 82 = some false := by kernel_rfl
theorem tz82 : tzero Tryd.prog 82 = some (.nilFunc) := by kernel_rfl
theorem ts83 : tsize Tryd.prog 83 = some 1 := by kernel_rfl
theorem tb83 : Tryd.prog.bytesOf 83 = 8 := by kernel_rfl
theorem ta83 : tagg Tryd.prog 83 = some false := by kernel_rfl
theorem tz83 : tzero Tryd.prog 83 = some (.pointer none) := by kernel_rfl
theorem ts84 : tsize Tryd.prog 84 = some 1 := by kernel_rfl
theorem tb84 : Tryd.prog.bytesOf 84 = 8 := by kernel_rfl
theorem ta84 : tagg Tryd.prog 84 = some false := by kernel_rfl
theorem tz84 : tzero Tryd.prog 84 = some (.nilFunc) := by kernel_rfl
theorem ts85 : tsize Tryd.prog 85 = some 1 := by kernel_rfl
theorem tb85 : Tryd.prog.bytesOf 85 = 8 := by kernel_rfl
theorem ta85 : tagg Tryd.prog 85 = some false := by kernel_rfl
theorem tz85 : tzero Tryd.prog 85 = some (.int .i64 (0)) := by kernel_rfl
theorem ts86 : tsize Tryd.prog 86 = some 1 := by kernel_rfl
theorem tb86 : Tryd.prog.bytesOf 86 = 0 := by kernel_rfl
theorem ta86 : tagg Tryd.prog 86 = some false := by kernel_rfl
theorem tz86 : tzero Tryd.prog 86 = some (.tuple #[.int .i64 (0), .nilIface]) := by kernel_rfl
theorem ts87 : tsize Tryd.prog 87 = some 1 := by kernel_rfl
theorem tb87 : Tryd.prog.bytesOf 87 = 8 := by kernel_rfl
theorem ta87 : tagg Tryd.prog 87 = some false := by kernel_rfl
theorem tz87 : tzero Tryd.prog 87 = some (.nilFunc) := by kernel_rfl
theorem ts88 : tsize Tryd.prog 88 = some 1 := by kernel_rfl
theorem tb88 : Tryd.prog.bytesOf 88 = 8 := by kernel_rfl
theorem ta88 : tagg Tryd.prog 88 = some false := by kernel_rfl
theorem tz88 : tzero Tryd.prog 88 = some (.pointer none) := by kernel_rfl
theorem ts89 : tsize Tryd.prog 89 = some 1 := by kernel_rfl
theorem tb89 : Tryd.prog.bytesOf 89 = 8 := by kernel_rfl
theorem ta89 : tagg Tryd.prog 89 = some false := by kernel_rfl
theorem tz89 : tzero Tryd.prog 89 = some (.nilFunc) := by kernel_rfl
theorem ts90 : tsize Tryd.prog 90 = some 1 := by kernel_rfl
theorem tb90 : Tryd.prog.bytesOf 90 = 8 := by kernel_rfl
theorem ta90 : tagg Tryd.prog 90 = some false := by kernel_rfl
theorem tz90 : tzero Tryd.prog 90 = some (.nilFunc) := by kernel_rfl
theorem ts91 : tsize Tryd.prog 91 = some 1 := by kernel_rfl
theorem tb91 : Tryd.prog.bytesOf 91 = 8 := by kernel_rfl
theorem ta91 : tagg Tryd.prog 91 = some false := by kernel_rfl
theorem tz91 : tzero Tryd.prog 91 = some (.nilFunc) := by kernel_rfl
theorem ts92 : tsize Tryd.prog 92 = some 1 := by kernel_rfl
theorem tb92 : Tryd.prog.bytesOf 92 = 8 := by kernel_rfl
theorem ta92 : tagg Tryd.prog 92 = some false := by kernel_rfl
theorem tz92 : tzero Tryd.prog 92 = some (.nilFunc) := by kernel_rfl
theorem ts93 : tsize Tryd.prog 93 = some 20 := by kernel_rfl
theorem tb93 : Tryd.prog.bytesOf 93 = 160 := by kernel_rfl
theorem ta93 : tagg Tryd.prog 93 = some true := by kernel_rfl
theorem tz93 : tzero Tryd.prog 93 = some (.agg #[.int .u64 (0), .int .u64 (0), .int .u64 (0), .int .u64 (0), .int .u64 (0), .int .u64 (0), .int .u64 (0), .int .u64 (0), .int .u64 (0), .int .u64 (0), .int .u64 (0), .int .u64 (0), .int .u64 (0), .int .u64 (0), .int .u64 (0), .int .u64 (0), .int .u64 (0), .int .u64 (0), .int .u64 (0), .int .u64 (0)]) := by kernel_rfl
theorem ts94 : tsize Tryd.prog 94 = some 1 := by kernel_rfl
theorem tb94 : Tryd.prog.bytesOf 94 = 4 := by kernel_rfl
theorem ta94 : tagg Tryd.prog 94 = some false := by kernel_rfl
theorem tz94 : tzero Tryd.prog 94 = some (.int .u32 (0)) := by kernel_rfl
theorem ts95 : tsize Tryd.prog 95 = some 65 := by kernel_rfl
theorem tb95 : Tryd.prog.bytesOf 95 = 65 := by kernel_rfl
theorem ta95 : tagg Tryd.prog 95 = some true := by kernel_rfl
theorem ts96 : tsize Tryd.prog 96 = some 1 := by kernel_rfl
theorem tb96 : Tryd.prog.bytesOf 96 = 8 := by kernel_rfl
theorem ta96 : tagg Tryd.prog 96 = some false := by kernel_rfl
theorem tz96 : tzero Tryd.prog 96 = some (.nilFunc) := by kernel_rfl
theorem ts97 : tsize Tryd.prog 97 = some 1 := by kernel_rfl
theorem tb97 : Tryd.prog.bytesOf 97 = 8 := by kernel_rfl
theorem ta97 : tagg Tryd.prog 97 = some false := by kernel_rfl
theorem tz97 : tzero Tryd.prog 97 = some (.nilFunc) := by kernel_rfl
theorem ts98 : tsize Tryd.prog 98 = some 1 := by kernel_rfl
theorem tb98 : Tryd.prog.bytesOf 98 = 8 := by kernel_rfl
theorem ta98 : tagg Tryd.prog 98 = some false := by kernel_rfl
theorem tz98 : tzero Tryd.prog 98 = some (.pointer none) := by kernel_rfl
theorem ts99 : tsize Tryd.prog 99 = some 1 := by kernel_rfl
theorem tb99 : Tryd.prog.bytesOf 99 = 8 := by kernel_rfl
theorem ta99 : tagg Tryd.prog 99 = some false := by kernel_rfl
theorem tz99 : tzero Tryd.prog 99 = some (.nilFunc) := by kernel_rfl
theorem ts100 : tsize Tryd.prog 100 = some 256 := by kernel_rfl
theorem tb100 : Tryd.prog.bytesOf 100 = 256 := by kernel_rfl
theorem ta100 : tagg Tryd.prog 100 = some true := by kernel_rfl
theorem ts101 : tsize Tryd.prog 101 = some 2 := by kernel_rfl
theorem tb101 : Tryd.prog.bytesOf 101 = 2 := by kernel_rfl
theorem ta101 : tagg Tryd.prog 101 = some true := by kernel_rfl
theorem bd101 (parts : List (Nat × A)) : buildE Tryd.prog 101 parts = (fillA (fun j => [(0, 1), (1, 1)][j]?) [.d (.s (.int .u8 (0))), .d (.s (.int .u8 (0)))] parts).map A.mk := by kernel_rfl
theorem eq101 (x y : Operand) (a0 b0 : Int) (a1 b1 : Int) : exBin Tryd.prog .eql 101 x y (.d (.agg [.s (.int .u8 a0), .s (.int .u8 a1)])) (.d (.agg [.s (.int .u8 b0), .s (.int .u8 b1)])) = some { v := .d (.s (.bool ((a0 == b0 && (a1 == b1 && true))))) } := (ex_agg_eql rfl rfl Tryd.underlying101 (by kernel_rfl) (by kernel_rfl) (by kernel_rfl)).1
theorem ne101 (x y : Operand) (a0 b0 : Int) (a1 b1 : Int) : exBin Tryd.prog .neq 101 x y (.d (.agg [.s (.int .u8 a0), .s (.int .u8 a1)])) (.d (.agg [.s (.int .u8 b0), .s (.int .u8 b1)])) = some { v := .d (.s (.bool (!((a0 == b0 && (a1 == b1 && true)))))) } := (ex_agg_eql rfl rfl Tryd.underlying101 (by kernel_rfl) (by kernel_rfl) (by kernel_rfl)).2
theorem fa101_0 (x : A) : fieldAddrE Tryd.prog 101 x 0 = faddr x 0 := by cases x <;> kernel_rfl
theorem fa101_1 (x : A) : fieldAddrE Tryd.prog 101 x 1 = faddr x 1 := by cases x <;> kernel_rfl
theorem tz101 : tzero Tryd.prog 101 = some (.agg #[.int .u8 (0), .int .u8 (0)]) := by kernel_rfl
theorem ts102 : tsize Tryd.prog 102 = some 2 := by kernel_rfl
theorem tb102 : Tryd.prog.bytesOf 102 = 2 := by kernel_rfl
theorem ta102 : tagg Tryd.prog 102 = some true := by kernel_rfl
theorem bd102 (parts : List (Nat × A)) : buildE Tryd.prog 102 parts = (fillA (fun j => [(0, 1), (1, 1)][j]?) [.d (.s (.int .u8 (0))), .d (.s (.int .u8 (0)))] parts).map A.mk := by kernel_rfl
theorem eq102 (x y : Operand) (a0 b0 : Int) (a1 b1 : Int) : exBin Tryd.prog .eql 102 x y (.d (.agg [.s (.int .u8 a0), .s (.int .u8 a1)])) (.d (.agg [.s (.int .u8 b0), .s (.int .u8 b1)])) = some { v := .d (.s (.bool ((a0 == b0 && (a1 == b1 && true))))) } := (ex_agg_eql rfl rfl Tryd.underlying102 (by kernel_rfl) (by kernel_rfl) (by kernel_rfl)).1
theorem ne102 (x y : Operand) (a0 b0 : Int) (a1 b1 : Int) : exBin Tryd.prog .neq 102 x y (.d (.agg [.s (.int .u8 a0), .s (.int .u8 a1)])) (.d (.agg [.s (.int .u8 b0), .s (.int .u8 b1)])) = some { v := .d (.s (.bool (!((a0 == b0 && (a1 == b1 && true)))))) } := (ex_agg_eql rfl rfl Tryd.underlying102 (by kernel_rfl) (by kernel_rfl) (by kernel_rfl)).2
theorem fa102_0 (x : A) : fieldAddrE Tryd.prog 102 x 0 = faddr x 0 := by cases x <;> kernel_rfl
theorem fa102_1 (x : A) : fieldAddrE Tryd.prog 102 x 1 = faddr x 1 := by cases x <;> kernel_rfl
theorem tz102 : tzero Tryd.prog 102 = some (.agg #[.int .u8 (0), .int .u8 (0)]) := by kernel_rfl
theorem ts103 : tsize Tryd.prog 103 = some 32 := by kernel_rfl
theorem tb103 : Tryd.prog.bytesOf 103 = 32 := by kernel_rfl
theorem ta103 : tagg Tryd.prog 103 = some true := by kernel_rfl
theorem tz103 : tzero Tryd.prog 103 = some (.agg #[.int .u8 (0), .int .u8 (0), .int .u8 (0), .int .u8 (0), .int .u8 (0), .int .u8 (0), .int .u8 (0), .int .u8 (0), .int .u8 (0), .int .u8 (0), .int .u8 (0), .int .u8 (0), .int .u8 (0), .int .u8 (0), .int .u8 (0), .int .u8 (0), .int .u8 (0), .int .u8 (0), .int .u8 (0), .int .u8 (0), .int .u8 (0), .int .u8 (0), .int .u8 (0), .int .u8 (0), .int .u8 (0), .int .u8 (0), .int .u8 (0), .int .u8 (0), .int .u8 (0), .int .u8 (0), .int .u8 (0), .int .u8 (0)]) := by kernel_rfl
theorem ts104 : tsize Tryd.prog 104 = some 1 := by kernel_rfl
theorem tb104 : Tryd.prog.bytesOf 104 = 0 := by kernel_rfl
theorem ta104 : tagg Tryd.prog 104 = some false := by kernel_rfl
theorem tz104 : tzero Tryd.prog 104 = some (.tuple #[.int .u64 (0), .nilIface]) := by kernel_rfl
theorem ts105 : tsize Tryd.prog 105 = some 1 := by kernel_rfl
theorem tb105 : Tryd.prog.bytesOf 105 = 8 := by kernel_rfl
theorem ta105 : tagg Tryd.prog 105 = some false := by kernel_rfl
theorem tz105 : tzero Tryd.prog 105 = some (.nilFunc) := by kernel_rfl
theorem ts106 : tsize Tryd.prog 106 = some 1 := by kernel_rfl
theorem tb106 : Tryd.prog.bytesOf 106 = 8 := by kernel_rfl
theorem ta106 : tagg Tryd.prog 106 = some false := by kernel_rfl
theorem tz106 : tzero Tryd.prog 106 = some (.nilFunc) := by kernel_rfl
theorem ts107 : tsize Tryd.prog 107 = some 3 := by kernel_rfl
theorem tb107 : Tryd.prog.bytesOf 107 = 48 := by kernel_rfl
theorem ta107 : tagg Tryd.prog 107 = some true := by kernel_rfl
theorem bd107 (parts : List (Nat × A)) : buildE Tryd.prog 107 parts = (fillA (fun j => [(0, 1), (1, 1), (2, 1)][j]?) [.d (.s (.string ⟨#[]⟩)), .d (.s (.string ⟨#[]⟩)), .d (.s (.nilIface))] parts).map A.mk := by kernel_rfl
theorem fa107_0 (x : A) : fieldAddrE Tryd.prog 107 x 0 = faddr x 0 := by cases x <;> kernel_rfl
theorem fa107_1 (x : A) : fieldAddrE Tryd.prog 107 x 1 = faddr x 1 := by cases x <;> kernel_rfl
theorem fa107_2 (x : A) : fieldAddrE Tryd.prog 107 x 2 = faddr x 2 := by cases x <;> kernel_rfl
theorem tz107 : tzero Tryd.prog 107 = some (.agg #[.string ⟨#[]⟩, .string ⟨#[]⟩, .nilIface]) := by kernel_rfl
theorem ts108 : tsize Tryd.prog 108 = some 3 := by kernel_rfl
theorem tb108 : Tryd.prog.bytesOf 108 = 48 := by kernel_rfl
theorem ta108 : tagg Tryd.prog 108 = some true := by kernel_rfl
theorem bd108 (parts : List (Nat × A)) : buildE Tryd.prog 108 parts = (fillA (fun j => [(0, 1), (1, 1), (2, 1)][j]?) [.d (.s (.string ⟨#[]⟩)), .d (.s (.string ⟨#[]⟩)), .d (.s (.nilIface))] parts).map A.mk := by kernel_rfl
theorem fa108_0 (x : A) : fieldAddrE Tryd.prog 108 x 0 = faddr x 0 := by cases x <;> kernel_rfl
theorem fa108_1 (x : A) : fieldAddrE Tryd.prog 108 x 1 = faddr x 1 := by cases x <;> kernel_rfl
theorem fa108_2 (x : A) : fieldAddrE Tryd.prog 108 x 2 = faddr x 2 := by cases x <;> kernel_rfl
theorem tz108 : tzero Tryd.prog 108 = some (.agg #[.string ⟨#[]⟩, .string ⟨#[]⟩, .nilIface]) := by kernel_rfl
theorem ts109 : tsize Tryd.prog 109 = some 1 := by kernel_rfl
theorem tb109 : Tryd.prog.bytesOf 109 = 8 := by kernel_rfl
theorem ta109 : tagg Tryd.prog 109 = some false := by kernel_rfl
theorem tz109 : tzero Tryd.prog 109 = some (.nilFunc) := by kernel_rfl
theorem ts110 : tsize Tryd.prog 110 = some 1 := by kernel_rfl
theorem tb110 : Tryd.prog.bytesOf 110 = 8 := by kernel_rfl
theorem ta110 : tagg Tryd.prog 110 = some false := by kernel_rfl
theorem tz110 : tzero Tryd.prog 110 = some (.nilFunc) := by kernel_rfl
theorem ts111 : tsize Tryd.prog 111 = some 1 := by kernel_rfl
theorem tb111 : Tryd.prog.bytesOf 111 = 0 := by kernel_rfl
theorem ta111 : tagg Tryd.prog 111 = some false := by kernel_rfl
theorem tz111 : tzero Tryd.prog 111 = some (.tuple #[.int .u32 (0), .int .u32 (0)]) := by kernel_rfl
theorem ts112 : tsize Tryd.prog 112 = some 1 := by kernel_rfl
theorem tb112 : Tryd.prog.bytesOf 112 = 8 := by kernel_rfl
theorem ta112 : tagg Tryd.prog 112 = some false := by kernel_rfl
theorem tz112 : tzero Tryd.prog 112 = some (.nilFunc) := by kernel_rfl
theorem ts113 : tsize Tryd.prog 113 = some 1 := by kernel_rfl
theorem tb113 : Tryd.prog.bytesOf 113 = 8 := by kernel_rfl
theorem ta113 : tagg Tryd.prog 113 = some false := by kernel_rfl
theorem tz113 : tzero Tryd.prog 113 = some (.nilFunc) := by kernel_rfl
theorem ts114 : tsize Tryd.prog 114 = some 1 := by kernel_rfl
theorem tb114 : Tryd.prog.bytesOf 114 = 8 := by kernel_rfl
theorem ta114 : tagg Tryd.prog 114 = some false := by kernel_rfl
theorem tz114 : tzero Tryd.prog 114 = some (.pointer none) := by kernel_rfl
theorem ts115 : tsize Tryd.prog 115 = some 1 := by kernel_rfl
theorem tb115 : Tryd.prog.bytesOf 115 = 16 := by kernel_rfl
theorem ta115 : tagg Tryd.prog 115 = some true := by kernel_rfl
theorem bd115 (parts : List (Nat × A)) : buildE Tryd.prog 115 parts = (fillA (fun j => [(0, 1)][j]?) [.d (.s (.string ⟨#[]⟩))] parts).map A.mk := by kernel_rfl
theorem eq115 (x y : Operand) (a0 b0 : ByteArray) : exBin Tryd.prog .eql 115 x y (.d (.agg [.s (.string a0)])) (.d (.agg [.s (.string b0)])) = some { v := .d (.s (.bool ((a0 == b0 && true)))) } := (ex_agg_eql rfl rfl Tryd.underlying115 (by kernel_rfl) (by kernel_rfl) (by kernel_rfl)).1
theorem ne115 (x y : Operand) (a0 b0 : ByteArray) : exBin Tryd.prog .neq 115 x y (.d (.agg [.s (.string a0)])) (.d (.agg [.s (.string b0)])) = some { v := .d (.s (.bool (!((a0 == b0 && true))))) } := (ex_agg_eql rfl rfl Tryd.underlying115 (by kernel_rfl) (by kernel_rfl) (by kernel_rfl)).2
theorem fa115_0 (x : A) : fieldAddrE Tryd.prog 115 x 0 = faddr x 0 := by cases x <;> kernel_rfl
theorem tz115 : tzero Tryd.prog 115 = some (.agg #[.string ⟨#[]⟩]) := by kernel_rfl
theorem ts116 : tsize Tryd.prog 116 = some 1 := by kernel_rfl
theorem tb116 : Tryd.prog.bytesOf 116 = 16 := by kernel_rfl
theorem ta116 : tagg Tryd.prog 116 = some true := by kernel_rfl
theorem bd116 (parts : List (Nat × A)) : buildE Tryd.prog 116 parts = (fillA (fun j => [(0, 1)][j]?) [.d (.s (.string ⟨#[]⟩))] parts).map A.mk := by kernel_rfl
theorem eq116 (x y : Operand) (a0 b0 : ByteArray) : exBin Tryd.prog .eql 116 x y (.d (.agg [.s (.string a0)])) (.d (.agg [.s (.string b0)])) = some { v := .d (.s (.bool ((a0 == b0 && true)))) } := (ex_agg_eql rfl rfl Tryd.underlying116 (by kernel_rfl) (by kernel_rfl) (by kernel_rfl)).1
theorem ne116 (x y : Operand) (a0 b0 : ByteArray) : exBin Tryd.prog .neq 116 x y (.d (.agg [.s (.string a0)])) (.d (.agg [.s (.string b0)])) = some { v := .d (.s (.bool (!((a0 == b0 && true))))) } := (ex_agg_eql rfl rfl Tryd.underlying116 (by kernel_rfl) (by kernel_rfl) (by kernel_rfl)).2
theorem fa116_0 (x : A) : fieldAddrE Tryd.prog 116 x 0 = faddr x 0 := by cases x <;> kernel_rfl
theorem tz116 : tzero Tryd.prog 116 = some (.agg #[.string ⟨#[]⟩]) := by kernel_rfl
theorem ts117 : tsize Tryd.prog 117 = some 32 := by kernel_rfl
theorem tb117 : Tryd.prog.bytesOf 117 = 32 := by kernel_rfl
theorem ta117 : tagg Tryd.prog 117 = some true := by kernel_rfl
theorem tz117 : tzero Tryd.prog 117 = some (.agg #[.int .u8 (0), .int .u8 (0), .int .u8 (0), .int .u8 (0), .int .u8 (0), .int .u8 (0), .int .u8 (0), .int .u8 (0), .int .u8 (0), .int .u8 (0), .int .u8 (0), .int .u8 (0), .int .u8 (0), .int .u8 (0), .int .u8 (0), .int .u8 (0), .int .u8 (0), .int .u8 (0), .int .u8 (0), .int .u8 (0), .int .u8 (0), .int .u8 (0), .int .u8 (0), .int .u8 (0), .int .u8 (0), .int .u8 (0), .int .u8 (0), .int .u8 (0), .int .u8 (0), .int .u8 (0), .int .u8 (0), .int .u8 (0)]) := by kernel_rfl
theorem ts118 : tsize Tryd.prog 118 = some 64 := by kernel_rfl
theorem tb118 : Tryd.prog.bytesOf 118 = 64 := by kernel_rfl
theorem ta118 : tagg Tryd.prog 118 = some true := by kernel_rfl
theorem tz118 : tzero Tryd.prog 118 = some (.agg #[.int .u8 (0), .int .u8 (0), .int .u8 (0), .int .u8 (0), .int .u8 (0), .int .u8 (0), .int .u8 (0), .int .u8 (0), .int .u8 (0), .int .u8 (0), .int .u8 (0), .int .u8 (0), .int .u8 (0), .int .u8 (0), .int .u8 (0), .int .u8 (0), .int .u8 (0), .int .u8 (0), .int .u8 (0), .int .u8 (0), .int .u8 (0), .int .u8 (0), .int .u8 (0), .int .u8 (0), .int .u8 (0), .int .u8 (0), .int .u8 (0), .int .u8 (0), .int .u8 (0), .int .u8 (0), .int .u8 (0), .int .u8 (0), .int .u8 (0), .int .u8 (0), .int .u8 (0), .int .u8 (0), .int .u8 (0), .int .u8 (0), .int .u8 (0), .int .u8 (0), .int .u8 (0), .int .u8 (0), .int .u8 (0), .int .u8 (0), .int .u8 (0), .int .u8 (0), .int .u8 (0), .int .u8 (0), .int .u8 (0), .int .u8 (0), .int .u8 (0), .int .u8 (0), .int .u8 (0), .int .u8 (0), .int .u8 (0), .int .u8 (0), .int .u8 (0), .int .u8 (0), .int .u8 (0), .int .u8 (0), .int .u8 (0), .int .u8 (0), .int .u8 (0), .int .u8 (0)]) := by kernel_rfl
theorem ts119 : tsize Tryd.prog 119 = some 4 := by kernel_rfl
theorem tb119 : Tryd.prog.bytesOf 119 = 40 := by kernel_rfl
theorem ta119 : tagg Tryd.prog 119 = some true := by kernel_rfl
theorem bd119 (parts : List (Nat × A)) : buildE Tryd.prog 119 parts = (fillA (fun j => [(0, 1), (1, 1), (2, 1), (3, 1)][j]?) [.d (.s (.pointer none)), .d (.s (.pointer none)), .d (.s (.pointer none)), .d (.s (.string ⟨#[]⟩))] parts).map A.mk := by kernel_rfl
theorem fa119_0 (x : A) : fieldAddrE Tryd.prog 119 x 0 = faddr x 0 := by cases x <;> kernel_rfl
theorem fa119_1 (x : A) : fieldAddrE Tryd.prog 119 x 1 = faddr x 1 := by cases x <;> kernel_rfl
theorem fa119_2 (x : A) : fieldAddrE Tryd.prog 119 x 2 = faddr x 2 := by cases x <;> kernel_rfl
theorem fa119_3 (x : A) : fieldAddrE Tryd.prog 119 x 3 = faddr x 3 := by cases x <;> kernel_rfl
theorem tz119 : tzero Tryd.prog 119 = some (.agg #[.pointer none, .pointer none, .pointer none, .string ⟨#[]⟩]) := by kernel_rfl
theorem ts120 : tsize Tryd.prog 120 = some 4 := by kernel_rfl
theorem tb120 : Tryd.prog.bytesOf 120 = 40 := by kernel_rfl
theorem ta120 : tagg Tryd.prog 120 = some true := by kernel_rfl
theorem bd120 (parts : List (Nat × A)) : buildE Tryd.prog 120 parts = (fillA (fun j => [(0, 1), (1, 1), (2, 1), (3, 1)][j]?) [.d (.s (.pointer none)), .d (.s (.pointer none)), .d (.s (.pointer none)), .d (.s (.string ⟨#[]⟩))] parts).map A.mk := by kernel_rfl
theorem fa120_0 (x : A) : fieldAddrE Tryd.prog 120 x 0 = faddr x 0 := by cases x <;> kernel_rfl
theorem fa120_1 (x : A) : fieldAddrE Tryd.prog 120 x 1 = faddr x 1 := by cases x <;> kernel_rfl
theorem fa120_2 (x : A) : fieldAddrE Tryd.prog 120 x 2 = faddr x 2 := by cases x <;> kernel_rfl
theorem fa120_3 (x : A) : fieldAddrE Tryd.prog 120 x 3 = faddr x 3 := by cases x <;> kernel_rfl
theorem tz120 : tzero Tryd.prog 120 = some (.agg #[.pointer none, .pointer none, .pointer none, .string ⟨#[]⟩]) := by kernel_rfl
theorem ts121 : tsize Tryd.prog 121 = some 0 := by kernel_rfl
theorem tb121 : Tryd.prog.bytesOf 121 = 0 := by kernel_rfl
theorem ta121 : tagg Tryd.prog 121 = some true := by kernel_rfl
theorem tz121 : tzero Tryd.prog 121 = some (.agg #[]) := by kernel_rfl
theorem ts122 : tsize Tryd.prog 122 = some 0 := by kernel_rfl
theorem tb122 : Tryd.prog.bytesOf 122 = 0 := by kernel_rfl
theorem ta122 : tagg Tryd.prog 122 = some true := by kernel_rfl
theorem bd122 (parts : List (Nat × A)) : buildE Tryd.prog 122 parts = (fillA (fun j => [(0, 0)][j]?) [] parts).map A.mk := by kernel_rfl
theorem tz122 : tzero Tryd.prog 122 = some (.agg #[]) := by kernel_rfl
theorem ts123 : tsize Tryd.prog 123 = some 0 := by kernel_rfl
theorem tb123 : Tryd.prog.bytesOf 123 = 0 := by kernel_rfl
theorem ta123 : tagg Tryd.prog 123 = some true := by kernel_rfl
theorem bd123 (parts : List (Nat × A)) : buildE Tryd.prog 123 parts = (fillA (fun j => [(0, 0)][j]?) [] parts).map A.mk := by kernel_rfl
theorem tz123 : tzero Tryd.prog 123 = some (.agg #[]) := by kernel_rfl
theorem ts124 : tsize Tryd.prog 124 = some 1 := by kernel_rfl
theorem tb124 : Tryd.prog.bytesOf 124 = 8 := by kernel_rfl
theorem ta124 : tagg Tryd.prog 124 = some false := by kernel_rfl
theorem tz124 : tzero Tryd.prog 124 = some (.nilFunc) := by kernel_rfl
theorem ts125 : tsize Tryd.prog 125 = some 1 := by kernel_rfl
theorem tb125 : Tryd.prog.bytesOf 125 = 1 := by kernel_rfl
theorem ta125 : tagg Tryd.prog 125 = some false := by kernel_rfl
theorem tz125 : tzero Tryd.prog 125 = some (.int .u8 (0)) := by kernel_rfl
theorem ts126 : tsize Tryd.prog 126 = some 1 := by kernel_rfl
theorem tb126 : Tryd.prog.bytesOf 126 = 1 := by kernel_rfl
theorem ta126 : tagg Tryd.prog 126 = some false := by kernel_rfl
theorem tz126 : tzero Tryd.prog 126 = some (.int .u8 (0)) := by kernel_rfl
theorem ts127 : tsize Tryd.prog 127 = some 1 := by kernel_rfl
theorem tb127 : Tryd.prog.bytesOf 127 = 8 := by kernel_rfl
theorem ta127 : tagg Tryd.prog 127 = some false := by kernel_rfl
theorem tz127 : tzero Tryd.prog 127 = some (.nilFunc) := by kernel_rfl
theorem ts128 : tsize Tryd.prog 128 = some 1 := by kernel_rfl
theorem tb128 : Tryd.prog.bytesOf 128 = 4 := by kernel_rfl
theorem ta128 : tagg Tryd.prog 128 = some false := by kernel_rfl
theorem tz128 : tzero Tryd.prog 128 = some (.int .i32 (0)) := by kernel_rfl
theorem ts129 : tsize Tryd.prog 129 = some 1 := by kernel_rfl
theorem tb129 : Tryd.prog.bytesOf 129 = 4 := by kernel_rfl
theorem ta129 : tagg Tryd.prog 129 = some false := by kernel_rfl
theorem tz129 : tzero Tryd.prog 129 = some (.int .i32 (0)) := by kernel_rfl
theorem ts130 : tsize Tryd.prog 130 = some 11 := by kernel_rfl
theorem tb130 : Tryd.prog.bytesOf 130 = 48 := by kernel_rfl
theorem ta130 : tagg Tryd.prog 130 = some true := by kernel_rfl
theorem bd130 (parts : List (Nat × A)) : buildE Tryd.prog 130 parts = (fillA (fun j => [(0, 1), (1, 1), (2, 1), (3, 1), (4, 1), (5, 1), (6, 1), (7, 1), (8, 1), (9, 1), (10, 1)][j]?) [.d (.s (.int .u64 (0))), .d (.s (.int .u64 (0))), .d (.s (.int .u32 (0))), .d (.s (.int .u8 (0))), .d (.s (.int .u8 (0))), .d (.s (.int .u8 (0))), .d (.s (.int .u8 (0))), .d (.s (.nilFunc)), .d (.s (.pointer none)), .d (.s (.int .i32 (0))), .d (.s (.int .i32 (0)))] parts).map A.mk := by kernel_rfl
theorem fa130_0 (x : A) : fieldAddrE Tryd.prog 130 x 0 = faddr x 0 := by cases x <;> kernel_rfl
theorem fa130_1 (x : A) : fieldAddrE Tryd.prog 130 x 1 = faddr x 1 := by cases x <;> kernel_rfl
theorem fa130_2 (x : A) : fieldAddrE Tryd.prog 130 x 2 = faddr x 2 := by cases x <;> kernel_rfl
theorem fa130_3 (x : A) : fieldAddrE Tryd.prog 130 x 3 = faddr x 3 := by cases x <;> kernel_rfl
theorem fa130_4 (x : A) : fieldAddrE Tryd.prog 130 x 4 = faddr x 4 := by cases x <;> kernel_rfl
theorem fa130_5 (x : A) : fieldAddrE Tryd.prog 130 x 5 = faddr x 5 := by cases x <;> kernel_rfl
theorem fa130_6 (x : A) : fieldAddrE Tryd.prog 130 x 6 = faddr x 6 := by cases x <;> kernel_rfl
theorem fa130_7 (x : A) : fieldAddrE Tryd.prog 130 x 7 = faddr x 7 := by cases x <;> kernel_rfl
theorem fa130_8 (x : A) : fieldAddrE Tryd.prog 130 x 8 = faddr x 8 := by cases x <;> kernel_rfl
theorem fa130_9 (x : A) : fieldAddrE Tryd.prog 130 x 9 = faddr x 9 := by cases x <;> kernel_rfl
theorem fa130_10 (x : A) : fieldAddrE Tryd.prog 130 x 10 = faddr x 10 := by cases x <;> kernel_rfl
theorem tz130 : tzero Tryd.prog 130 = some (.agg #[.int .u64 (0), .int .u64 (0), .int .u32 (0), .int .u8 (0), .int .u8 (0), .int .u8 (0), .int .u8 (0), .nilFunc, .pointer none, .int .i32 (0), .int .i32 (0)]) := by kernel_rfl
theorem ts131 : tsize Tryd.prog 131 = some 11 := by kernel_rfl
theorem tb131 : Tryd.prog.bytesOf 131 = 48 := by kernel_rfl
theorem ta131 : tagg Tryd.prog 131 = some true := by kernel_rfl
theorem bd131 (parts : List (Nat × A)) : buildE Tryd.prog 131 parts = (fillA (fun j => [(0, 1), (1, 1), (2, 1), (3, 1), (4, 1), (5, 1), (6, 1), (7, 1), (8, 1), (9, 1), (10, 1)][j]?) [.d (.s (.int .u64 (0))), .d (.s (.int .u64 (0))), .d (.s (.int .u32 (0))), .d (.s (.int .u8 (0))), .d (.s (.int .u8 (0))), .d (.s (.int .u8 (0))), .d (.s (.int .u8 (0))), .d (.s (.nilFunc)), .d (.s (.pointer none)), .d (.s (.int .i32 (0))), .d (.s (.int .i32 (0)))] parts).map A.mk := by kernel_rfl
theorem fa131_0 (x : A) : fieldAddrE Tryd.prog 131 x 0 = faddr x 0 := by cases x <;> kernel_rfl
theorem fa131_1 (x : A) : fieldAddrE Tryd.prog 131 x 1 = faddr x 1 := by cases x <;> kernel_rfl
theorem fa131_2 (x : A) : fieldAddrE Tryd.prog 131 x 2 = faddr x 2 := by cases x <;> kernel_rfl
theorem fa131_3 (x : A) : fieldAddrE Tryd.prog 131 x 3 = faddr x 3 := by cases x <;> kernel_rfl
theorem fa131_4 (x : A) : fieldAddrE Tryd.prog 131 x 4 = faddr x 4 := by cases x <;> kernel_rfl
theorem fa131_5 (x : A) : fieldAddrE Tryd.prog 131 x 5 = faddr x 5 := by cases x <;> kernel_rfl
theorem fa131_6 (x : A) : fieldAddrE Tryd.prog 131 x 6 = faddr x 6 := by cases x <;> kernel_rfl
theorem fa131_7 (x : A) : fieldAddrE Tryd.prog 131 x 7 = faddr x 7 := by cases x <;> kernel_rfl
theorem fa131_8 (x : A) : fieldAddrE Tryd.prog 131 x 8 = faddr x 8 := by cases x <;> kernel_rfl
theorem fa131_9 (x : A) : fieldAddrE Tryd.prog 131 x 9 = faddr x 9 := by cases x <;> kernel_rfl
theorem fa131_10 (x : A) : fieldAddrE Tryd.prog 131 x 10 = faddr x 10 := by cases x <;> kernel_rfl
theorem tz131 : tzero Tryd.prog 131 = some (.agg #[.int .u64 (0), .int .u64 (0), .int .u32 (0), .int .u8 (0), .int .u8 (0), .int .u8 (0), .int .u8 (0), .nilFunc, .pointer none, .int .i32 (0), .int .i32 (0)]) := by kernel_rfl
end Go.Proofs.YtkflfgkmbgjohaaDoor
