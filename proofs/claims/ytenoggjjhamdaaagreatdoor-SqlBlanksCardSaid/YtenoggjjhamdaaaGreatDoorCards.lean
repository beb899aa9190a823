/-
  DERIVED. GIVEN WITH THE SEED: THE CARDS: each row of YtenoggjjhamdaaaGreatDoorRows.lean that lists a variable, with what it lists TIED to the program's text (the seventh form; the later family's looks); each row that meets fmt, with fmt's text TOLD by the authors' own Lean function (tested against real Go, not proved from fmt's source: count such statements apart). THE CARD IS WHAT COUNTS. Prove the row's statement (the work); the ties are given (YtenoggjjhamdaaaGreatDoorTie.lean); close each card by the builder's one call (the guide's Derived/Test/ToyasCard.lean, 'card_holds'). Laid BY PROGRAM, IN A SANDBOX (cutbox-door.mjs). By AI agents, Wed Nov 11 2026. No macro, syntax, notation, axiom, sorry.
-/
import Derived.Test.YtenoggjjhamdaaaGreatDoorRows
import GoSem.ClaimSeven
namespace Go.Proofs.YtenoggjjhamdaaaGreatDoor
namespace Rows

/-- THE TIED CARD OF 'homesteadlaw26.SqlRight'. -/
def sqlRightCard : Claim7 := { stood := { row := sqlRightRow, standIns := [], harness := (true, "c53241ccbd6ee6bb0f570f70106852ed0f0cacc9c31da16aee430a671da79c18"), looks := true }, kinds := [], alts := [], laidByText := true, laidKinds := [.data, .data, .data, .data, .sentinel, .sentinel, .pinned], laidTests := true, laidLooks := .later }
def SqlRightCardSaid : Prop := Claim7.holds Tryz.pinned (.plain (OpenSpec.ofChange sqlRightSpec)) sqlRightCard

/-- THE TIED CARD OF 'homesteadlaw26.SqlBlanks'. -/
def sqlBlanksCard : Claim7 := { stood := { row := sqlBlanksRow, standIns := [], harness := (true, "c53241ccbd6ee6bb0f570f70106852ed0f0cacc9c31da16aee430a671da79c18"), looks := true }, kinds := [], alts := [], laidByText := true, laidKinds := [.data, .data, .data, .data, .sentinel, .sentinel, .pinned], laidTests := true, laidLooks := .later }
def SqlBlanksCardSaid : Prop := Claim7.holds Tryz.pinned (.plain (OpenSpec.ofChange sqlBlanksSpec)) sqlBlanksCard

/-- THE SECOND FORM's CARD OF 'homesteadlaw26.SqlRight'. -/
def sqlRightUptoCard : Claim7 := { stood := { row := sqlRightUptoRow, standIns := [], harness := (true, "c53241ccbd6ee6bb0f570f70106852ed0f0cacc9c31da16aee430a671da79c18"), looks := true }, kinds := [], alts := [], laidByText := true, laidKinds := [.data, .data, .data, .data, .sentinel, .sentinel, .pinned], laidTests := true, laidLooks := .later }
def SqlRightUptoCardSaid : Prop := Claim7.holds Tryz.pinned (.plain (OpenSpec.upto sqlRightSpec)) sqlRightUptoCard

/-- THE SECOND FORM's CARD OF 'homesteadlaw26.SqlBlanks'. -/
def sqlBlanksUptoCard : Claim7 := { stood := { row := sqlBlanksUptoRow, standIns := [], harness := (true, "c53241ccbd6ee6bb0f570f70106852ed0f0cacc9c31da16aee430a671da79c18"), looks := true }, kinds := [], alts := [], laidByText := true, laidKinds := [.data, .data, .data, .data, .sentinel, .sentinel, .pinned], laidTests := true, laidLooks := .later }
def SqlBlanksUptoCardSaid : Prop := Claim7.holds Tryz.pinned (.plain (OpenSpec.upto sqlBlanksSpec)) sqlBlanksUptoCard
end Rows
end Go.Proofs.YtenoggjjhamdaaaGreatDoor
