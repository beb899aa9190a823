/-
  WHAT IS PROVED HERE: parts of the proof: Cpf26.
-/
import Derived.Test.YtenoggjjhamdaaaGreatDoorB16
set_option linter.all false
namespace Go.Proofs.YtenoggjjhamdaaaGreatDoor
open Go Go.RowKit
theorem okPQuery (bd:BD) (k:Nat):Ok26 bd k cPQuery:=checks_ok (base26 (ixs:=[]) (ctrs_cons (okPNeed bd k) (ctrs_cons (okPOut bd k) (ctrs_cons (okPTake bd k) (ctrs_cons (okPName bd k) (ctrs_cons (okPCol bd k) (ctrs_cons (okPExprs bd k) (ctrs_cons (okPOrd bd k) (ctrs_cons (okPNum bd k) (ctrs_nil _ _)))))))))) (las:=lPQuery) (fn:=Tryz.f21) (fuel:=2000) rfl Tryz.func21 (by decide) (by kernel_rfl)
end Go.Proofs.YtenoggjjhamdaaaGreatDoor
