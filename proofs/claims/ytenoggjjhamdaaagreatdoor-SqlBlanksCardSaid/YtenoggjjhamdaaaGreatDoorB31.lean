/-
  WHAT IS PROVED HERE: parts of the proof: SbFin.
-/
import Derived.Test.YtenoggjjhamdaaaGreatDoorB29
import Derived.Test.YtenoggjjhamdaaaGreatDoorB30
set_option linter.all false
namespace Go.Proofs.YtenoggjjhamdaaaGreatDoor.sqlBlanks
open Go Go.RowKit
theorem fin:Rows.SqlBlanksCardSaid:=card awake26
#print axioms fin
end Go.Proofs.YtenoggjjhamdaaaGreatDoor.sqlBlanks
