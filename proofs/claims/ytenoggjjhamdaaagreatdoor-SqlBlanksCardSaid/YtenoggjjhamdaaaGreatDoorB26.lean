/-
  WHAT IS PROVED HERE: parts of the proof: AwO26.
-/
import Derived.Test.YtenoggjjhamdaaaGreatDoorB24
set_option linter.all false
namespace Go.Proofs.YtenoggjjhamdaaaGreatDoor
open Go Go.RowKit
set_option maxRecDepth 100000
theorem aw_do:twoQ (eval Tryz.prog ext26 60 8 0 E0 [.d plainD,.d doD])=some (opsD,nD 0):=by kernel_rfl
end Go.Proofs.YtenoggjjhamdaaaGreatDoor
