/-
  WHAT IS PROVED HERE: parts of the proof: SrFin.
-/
import Derived.Test.YtenoggjjhamdaaaGreatDoorM28
import Derived.Test.YtenoggjjhamdaaaGreatDoorM29
set_option linter.all false
namespace Go.Proofs.YtenoggjjhamdaaaGreatDoor.sqlRight
open Go Go.RowKit
theorem fin:Rows.SqlRightCardSaid:=card awake26
#print axioms fin
end Go.Proofs.YtenoggjjhamdaaaGreatDoor.sqlRight
