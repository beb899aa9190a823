/-
  WHAT IS PROVED HERE: parts of the proof: Cr26.
-/
import Derived.Test.YtenoggjjhamdaaaGreatDoorB20
set_option linter.all false
namespace Go.Proofs.YtenoggjjhamdaaaGreatDoor
open Go Go.RowKit
theorem okKinds (bd:BD) (k:Nat):Ok26 bd k cKinds:=checks_ok (base26 (ixs:=[]) (ctrs_cons (okKinds1 bd k) (ctrs_nil _ _))) (las:=lKinds) (fn:=Tryz.f27) (fuel:=2000) rfl Tryz.func27 (by decide) (by kernel_rfl)
theorem okQOut (bd:BD) (k:Nat):Ok26 bd k cQOut:=checks_ok (base26 (ixs:=[]) (ctrs_cons (okType bd k) (ctrs_cons (okGrouped bd k) (ctrs_cons (okCoX bd k) (ctrs_nil _ _))))) (las:=lQOut) (fn:=Tryz.f29) (fuel:=2000) rfl Tryz.func29 (by decide) (by kernel_rfl)
theorem okQRight (bd:BD) (k:Nat):Ok26 bd k cQRight:=checks_ok (base26 (ixs:=[]) (ctrs_cons (okKinds bd k) (ctrs_cons (okType bd k) (ctrs_cons (okQOut bd k) (ctrs_nil _ _))))) (las:=lQRight) (fn:=Tryz.f9) (fuel:=2000) rfl Tryz.func9 (by decide) (by kernel_rfl)
end Go.Proofs.YtenoggjjhamdaaaGreatDoor
