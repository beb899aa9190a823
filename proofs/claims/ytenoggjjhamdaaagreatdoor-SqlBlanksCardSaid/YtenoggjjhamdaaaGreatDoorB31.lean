/-
  WHAT IS PROVED HERE: the statement SqlBlanks of law 26, for every schema, every text and either way to write the words again: blanks play no part, but between words that they part. No condition.
-/
import Derived.Test.YtenoggjjhamdaaaGreatDoorB29
import Derived.Test.YtenoggjjhamdaaaGreatDoorB30
set_option linter.all false
namespace Go.Proofs.YtenoggjjhamdaaaGreatDoor.sqlBlanks
open Go Go.RowKit
theorem fin:Rows.SqlBlanksCardSaid:=card awake26
#print axioms fin
end Go.Proofs.YtenoggjjhamdaaaGreatDoor.sqlBlanks
