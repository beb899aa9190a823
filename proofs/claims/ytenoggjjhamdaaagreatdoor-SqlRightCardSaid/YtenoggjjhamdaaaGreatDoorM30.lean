/-
  WHAT IS PROVED HERE: the statement SqlRight of law 26, for every schema and every text: what is read may be asked, and done. No condition.
-/
import Derived.Test.YtenoggjjhamdaaaGreatDoorM28
import Derived.Test.YtenoggjjhamdaaaGreatDoorM29
set_option linter.all false
namespace Go.Proofs.YtenoggjjhamdaaaGreatDoor.sqlRight
open Go Go.RowKit
theorem fin:Rows.SqlRightCardSaid:=card awake26
#print axioms fin
end Go.Proofs.YtenoggjjhamdaaaGreatDoor.sqlRight
