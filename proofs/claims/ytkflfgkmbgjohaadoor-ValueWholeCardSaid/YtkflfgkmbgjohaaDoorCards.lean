/-
  DERIVED. GIVEN WITH THE SEED: THE CARDS: each row of YtkflfgkmbgjohaaDoorRows.lean that lists a variable, with what it lists TIED to the program's text (the seventh form; the later family's looks); each row that meets fmt, with fmt's text TOLD by the authors' own Lean function (tested against real Go, not proved from fmt's source: count such statements apart). THE CARD IS WHAT COUNTS. Prove the row's statement (the work); the ties are given (YtkflfgkmbgjohaaDoorTie.lean); close each card by the builder's one call (the guide's Derived/Test/ToyasCard.lean, 'card_holds'). Laid BY PROGRAM, IN A SANDBOX (cutbox-door.mjs). By AI agents, Wed Nov 11 2026. No macro, syntax, notation, axiom, sorry.
-/
import Derived.Test.YtkflfgkmbgjohaaDoorRows
import GoSem.ClaimSeven
namespace Go.Proofs.YtkflfgkmbgjohaaDoor
namespace Rows

/-- THE TIED CARD OF 'homesteadlaw02.ValueTells'. -/
def valueTellsCard : Claim7 := { stood := { row := valueTellsRow, standIns := [], harness := (true, "d62459ce5101b751848c6613fa5025dc2ec4eb6d1f4305fb91b4a7d9777dcbb8"), looks := true }, kinds := [], alts := [], laidByText := true, laidKinds := [.data, .data, .data, .data, .sentinel, .sentinel, .pinned], laidTests := true, laidLooks := .later }
def ValueTellsCardSaid : Prop := Claim7.holds Tryd.pinned (.plain (OpenSpec.ofChange valueTellsSpec)) valueTellsCard

/-- THE TIED CARD OF 'homesteadlaw02.ValueReads'. -/
def valueReadsCard : Claim7 := { stood := { row := valueReadsRow, standIns := [], harness := (true, "d62459ce5101b751848c6613fa5025dc2ec4eb6d1f4305fb91b4a7d9777dcbb8"), looks := true }, kinds := [], alts := [], laidByText := true, laidKinds := [.data, .data, .data, .data, .sentinel, .sentinel, .pinned], laidTests := true, laidLooks := .later }
def ValueReadsCardSaid : Prop := Claim7.holds Tryd.pinned (.plain (OpenSpec.ofChange valueReadsSpec)) valueReadsCard

/-- THE TIED CARD OF 'homesteadlaw02.ValueBytes'. -/
def valueBytesCard : Claim7 := { stood := { row := valueBytesRow, standIns := [], harness := (true, "d62459ce5101b751848c6613fa5025dc2ec4eb6d1f4305fb91b4a7d9777dcbb8"), looks := true }, kinds := [], alts := [], laidByText := true, laidKinds := [.data, .data, .data, .data, .sentinel, .sentinel, .pinned], laidTests := true, laidLooks := .later }
def ValueBytesCardSaid : Prop := Claim7.holds Tryd.pinned (.plain (OpenSpec.ofChange valueBytesSpec)) valueBytesCard

/-- THE TIED CARD OF 'homesteadlaw02.ValueTotal'. -/
def valueTotalCard : Claim7 := { stood := { row := valueTotalRow, standIns := [], harness := (true, "d62459ce5101b751848c6613fa5025dc2ec4eb6d1f4305fb91b4a7d9777dcbb8"), looks := true }, kinds := [], alts := [], laidByText := true, laidKinds := [.data, .data, .data, .data, .sentinel, .sentinel, .pinned], laidTests := true, laidLooks := .later }
def ValueTotalCardSaid : Prop := Claim7.holds Tryd.pinned (.plain (OpenSpec.ofChange valueTotalSpec)) valueTotalCard

/-- THE TIED CARD OF 'homesteadlaw02.ValueBack'. -/
def valueBackCard : Claim7 := { stood := { row := valueBackRow, standIns := [], harness := (true, "d62459ce5101b751848c6613fa5025dc2ec4eb6d1f4305fb91b4a7d9777dcbb8"), looks := true }, kinds := [], alts := [], laidByText := true, laidKinds := [.data, .data, .data, .data, .sentinel, .sentinel, .pinned], laidTests := true, laidLooks := .later }
def ValueBackCardSaid : Prop := Claim7.holds Tryd.pinned (.plain (OpenSpec.ofChange valueBackSpec)) valueBackCard

/-- THE TIED CARD OF 'homesteadlaw02.ValueWhole'. -/
def valueWholeCard : Claim7 := { stood := { row := valueWholeRow, standIns := [], harness := (true, "d62459ce5101b751848c6613fa5025dc2ec4eb6d1f4305fb91b4a7d9777dcbb8"), looks := true }, kinds := [], alts := [], laidByText := true, laidKinds := [.data, .data, .data, .data, .sentinel, .sentinel, .pinned], laidTests := true, laidLooks := .later }
def ValueWholeCardSaid : Prop := Claim7.holds Tryd.pinned (.plain (OpenSpec.ofChange valueWholeSpec)) valueWholeCard

/-- THE SECOND FORM's CARD OF 'homesteadlaw02.ValueTells'. -/
def valueTellsUptoCard : Claim7 := { stood := { row := valueTellsUptoRow, standIns := [], harness := (true, "d62459ce5101b751848c6613fa5025dc2ec4eb6d1f4305fb91b4a7d9777dcbb8"), looks := true }, kinds := [], alts := [], laidByText := true, laidKinds := [.data, .data, .data, .data, .sentinel, .sentinel, .pinned], laidTests := true, laidLooks := .later }
def ValueTellsUptoCardSaid : Prop := Claim7.holds Tryd.pinned (.plain (OpenSpec.upto valueTellsSpec)) valueTellsUptoCard

/-- THE SECOND FORM's CARD OF 'homesteadlaw02.ValueReads'. -/
def valueReadsUptoCard : Claim7 := { stood := { row := valueReadsUptoRow, standIns := [], harness := (true, "d62459ce5101b751848c6613fa5025dc2ec4eb6d1f4305fb91b4a7d9777dcbb8"), looks := true }, kinds := [], alts := [], laidByText := true, laidKinds := [.data, .data, .data, .data, .sentinel, .sentinel, .pinned], laidTests := true, laidLooks := .later }
def ValueReadsUptoCardSaid : Prop := Claim7.holds Tryd.pinned (.plain (OpenSpec.upto valueReadsSpec)) valueReadsUptoCard

/-- THE SECOND FORM's CARD OF 'homesteadlaw02.ValueBytes'. -/
def valueBytesUptoCard : Claim7 := { stood := { row := valueBytesUptoRow, standIns := [], harness := (true, "d62459ce5101b751848c6613fa5025dc2ec4eb6d1f4305fb91b4a7d9777dcbb8"), looks := true }, kinds := [], alts := [], laidByText := true, laidKinds := [.data, .data, .data, .data, .sentinel, .sentinel, .pinned], laidTests := true, laidLooks := .later }
def ValueBytesUptoCardSaid : Prop := Claim7.holds Tryd.pinned (.plain (OpenSpec.upto valueBytesSpec)) valueBytesUptoCard

/-- THE SECOND FORM's CARD OF 'homesteadlaw02.ValueTotal'. -/
def valueTotalUptoCard : Claim7 := { stood := { row := valueTotalUptoRow, standIns := [], harness := (true, "d62459ce5101b751848c6613fa5025dc2ec4eb6d1f4305fb91b4a7d9777dcbb8"), looks := true }, kinds := [], alts := [], laidByText := true, laidKinds := [.data, .data, .data, .data, .sentinel, .sentinel, .pinned], laidTests := true, laidLooks := .later }
def ValueTotalUptoCardSaid : Prop := Claim7.holds Tryd.pinned (.plain (OpenSpec.upto valueTotalSpec)) valueTotalUptoCard

/-- THE SECOND FORM's CARD OF 'homesteadlaw02.ValueBack'. -/
def valueBackUptoCard : Claim7 := { stood := { row := valueBackUptoRow, standIns := [], harness := (true, "d62459ce5101b751848c6613fa5025dc2ec4eb6d1f4305fb91b4a7d9777dcbb8"), looks := true }, kinds := [], alts := [], laidByText := true, laidKinds := [.data, .data, .data, .data, .sentinel, .sentinel, .pinned], laidTests := true, laidLooks := .later }
def ValueBackUptoCardSaid : Prop := Claim7.holds Tryd.pinned (.plain (OpenSpec.upto valueBackSpec)) valueBackUptoCard

/-- THE SECOND FORM's CARD OF 'homesteadlaw02.ValueWhole'. -/
def valueWholeUptoCard : Claim7 := { stood := { row := valueWholeUptoRow, standIns := [], harness := (true, "d62459ce5101b751848c6613fa5025dc2ec4eb6d1f4305fb91b4a7d9777dcbb8"), looks := true }, kinds := [], alts := [], laidByText := true, laidKinds := [.data, .data, .data, .data, .sentinel, .sentinel, .pinned], laidTests := true, laidLooks := .later }
def ValueWholeUptoCardSaid : Prop := Claim7.holds Tryd.pinned (.plain (OpenSpec.upto valueWholeSpec)) valueWholeUptoCard
end Rows
end Go.Proofs.YtkflfgkmbgjohaaDoor
