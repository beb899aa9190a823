/-
  WHAT IS PROVED HERE: parts of the proof: Cpg26.
-/
import Derived.Test.YtenoggjjhamdaaaGreatDoorB16
set_option linter.all false
namespace Go.Proofs.YtenoggjjhamdaaaGreatDoor
open Go Go.RowKit
theorem okPBehind (bd:BD) (k:Nat):Ok26 bd k cPBehind:=checks_ok (base26 (ixs:=[]) (ctrs_cons (okPNum bd k) (ctrs_nil _ _))) (las:=lPBehind) (fn:=Tryz.f61) (fuel:=2000) rfl Tryz.func61 (by decide) (by kernel_rfl)
theorem okPDeed (bd:BD) (k:Nat):Ok26 bd k cPDeed:=checks_ok (base26 (ixs:=[]) (ctrs_cons (okVerbs bd k) (ctrs_cons (okPName bd k) (ctrs_cons (okPNeed bd k) (ctrs_cons (okPLit bd k) (ctrs_cons (okPTake bd k) (ctrs_cons (okPNum bd k) (ctrs_cons (okPText bd k) (ctrs_cons (okPBehind bd k) (ctrs_nil _ _)))))))))) (las:=lPDeed) (fn:=Tryz.f24) (fuel:=2000) rfl Tryz.func24 (by decide) (by kernel_rfl)
theorem okDPlace (bd:BD) (k:Nat):Ok26 bd k cDPlace:=checks_ok (base26 (ixs:=[]) (ctrs_cons (okSTab bd k) (ctrs_cons (okSCol bd k) (ctrs_nil _ _)))) (las:=lDPlace) (fn:=Tryz.f26) (fuel:=2000) rfl Tryz.func26 (by decide) (by kernel_rfl)
end Go.Proofs.YtenoggjjhamdaaaGreatDoor
