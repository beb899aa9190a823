/-
  WHAT IS PROVED HERE: parts of the proof: AwU26.
-/
import Derived.Test.YtenoggjjhamdaaaGreatDoorB27
set_option linter.all false
namespace Go.Proofs.YtenoggjjhamdaaaGreatDoor
open Go Go.RowKit
set_option maxRecDepth 100000
theorem aw_opst:oneD (Dm.evalA Tryz.prog ext26 dl26 60 18 0 E0 [.d plainD,.d opsD])=some doneD:=by kernel_rfl
end Go.Proofs.YtenoggjjhamdaaaGreatDoor
