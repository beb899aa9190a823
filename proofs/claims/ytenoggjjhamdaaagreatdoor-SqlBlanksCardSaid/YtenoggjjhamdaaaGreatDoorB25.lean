/-
  WHAT IS PROVED HERE: parts of the proof: AwP26.
-/
import Derived.Test.YtenoggjjhamdaaaGreatDoorB24
set_option linter.all false
namespace Go.Proofs.YtenoggjjhamdaaaGreatDoor
open Go Go.RowKit
set_option maxRecDepth 100000
theorem aw_ask:twoQ (eval Tryz.prog ext26 60 7 0 E0 [.d plainD,.d askD])=some (wantD,nD 0):=by kernel_rfl
end Go.Proofs.YtenoggjjhamdaaaGreatDoor
