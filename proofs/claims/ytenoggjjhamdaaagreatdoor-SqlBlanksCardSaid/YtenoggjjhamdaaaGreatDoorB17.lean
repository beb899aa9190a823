/-
  WHAT IS PROVED HERE: parts of the proof: Cpe26.
-/
import Derived.Test.YtenoggjjhamdaaaGreatDoorB16
set_option linter.all false
namespace Go.Proofs.YtenoggjjhamdaaaGreatDoor
open Go Go.RowKit
theorem okWFind (bd:BD) (k:Nat):Ok26 bd k cWFind:=checks_ok (base26 (ixs:=[0]) (ctrs_cons (okWTable bd k) (ctrs_cons (okWAt bd k) (ctrs_cons (okWExprs bd k) (ctrs_cons (okWExpr bd k) (ctrs_cons (okSCol bd k) (ctrs_nil _ _))))))) (las:=lWFind) (fn:=Tryz.f23) (fuel:=2000) rfl Tryz.func23 (by decide) (by kernel_rfl)
end Go.Proofs.YtenoggjjhamdaaaGreatDoor
