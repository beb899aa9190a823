/-
  WHAT IS PROVED HERE: parts of the proof: AwT26.
-/
import Derived.Test.YtenoggjjhamdaaaGreatDoorB06
import Derived.Test.YtenoggjjhamdaaaGreatDoorB24
set_option linter.all false
namespace Go.Proofs.YtenoggjjhamdaaaGreatDoor
open Go Go.RowKit
set_option maxRecDepth 100000
def dl26:Dm.Dl:=fun f r=>if f=38∧r=9 then [10,11,35,36,37,38,39,40,41,42,43,44,45,46,47] else if f=44∧r=2 then [6,7,13,14,15,16,17,18,19,20,21,22,23,24,25] else if f=80∧r=5 then [8,9,25,26,27,28,29,30,31,32,33,34,35,36,37] else []
theorem aw_text:oneD (Dm.evalA Tryz.prog ext26 dl26 60 17 0 E0 [.d plainD,.d wantD])=some askedD:=by kernel_rfl
end Go.Proofs.YtenoggjjhamdaaaGreatDoor
