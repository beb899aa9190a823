/-
  DERIVED. GIVEN WITH THE SEED: THE CARDS: each row of YtgelmhcbiffghaaDoorRows.lean that lists a variable, with what it lists TIED to the program's text (the seventh form; the later family's looks); each row that meets fmt, with fmt's text TOLD by the authors' own Lean function (tested against real Go, not proved from fmt's source: count such statements apart). THE CARD IS WHAT COUNTS. Prove the row's statement (the work); the ties are given (YtgelmhcbiffghaaDoorTie.lean); close each card by the builder's one call (the guide's Derived/Test/ToyasCard.lean, 'card_holds'). Laid BY PROGRAM, IN A SANDBOX (cutbox-door.mjs). By AI agents, Wed Nov 11 2026. No macro, syntax, notation, axiom, sorry.
-/
import Derived.Test.YtgelmhcbiffghaaDoorRows
import GoSem.ClaimSeven
namespace Go.Proofs.YtgelmhcbiffghaaDoor
namespace Rows

/-- THE TIED CARD OF 'homesteadlaw11.SchemaNames'. -/
def schemaNamesCard : Claim7 := { stood := { row := schemaNamesRow, standIns := [], harness := (true, "d109bbb9181819adc992712413d716090c6821dfaad8a7b41a9689c49777308d"), looks := false }, kinds := [], alts := [], laidByText := true, laidKinds := [.data, .pinned], laidTests := true, laidLooks := .later }
def SchemaNamesCardSaid : Prop := Claim7.holds Tryd.pinned (.plain (OpenSpec.ofChange schemaNamesSpec)) schemaNamesCard

/-- THE TIED CARD OF 'homesteadlaw11.SchemaRight'. -/
def schemaRightCard : Claim7 := { stood := { row := schemaRightRow, standIns := [], harness := (true, "d109bbb9181819adc992712413d716090c6821dfaad8a7b41a9689c49777308d"), looks := false }, kinds := [], alts := [], laidByText := true, laidKinds := [.data, .pinned], laidTests := true, laidLooks := .later }
def SchemaRightCardSaid : Prop := Claim7.holds Tryd.pinned (.plain (OpenSpec.ofChange schemaRightSpec)) schemaRightCard

/-- THE TIED CARD OF 'homesteadlaw11.SchemaEach'. -/
def schemaEachCard : Claim7 := { stood := { row := schemaEachRow, standIns := [], harness := (true, "d109bbb9181819adc992712413d716090c6821dfaad8a7b41a9689c49777308d"), looks := false }, kinds := [], alts := [], laidByText := true, laidKinds := [.data, .pinned], laidTests := true, laidLooks := .later }
def SchemaEachCardSaid : Prop := Claim7.holds Tryd.pinned (.plain (OpenSpec.ofChange schemaEachSpec)) schemaEachCard

/-- THE TIED CARD OF 'homesteadlaw11.SchemaKids'. -/
def schemaKidsCard : Claim7 := { stood := { row := schemaKidsRow, standIns := [], harness := (true, "d109bbb9181819adc992712413d716090c6821dfaad8a7b41a9689c49777308d"), looks := false }, kinds := [], alts := [], laidByText := true, laidKinds := [.data, .pinned], laidTests := true, laidLooks := .later }
def SchemaKidsCardSaid : Prop := Claim7.holds Tryd.pinned (.plain (OpenSpec.ofChange schemaKidsSpec)) schemaKidsCard

/-- THE TIED CARD OF 'homesteadlaw11.SchemaFewer'. -/
def schemaFewerCard : Claim7 := { stood := { row := schemaFewerRow, standIns := [], harness := (true, "d109bbb9181819adc992712413d716090c6821dfaad8a7b41a9689c49777308d"), looks := false }, kinds := [], alts := [], laidByText := true, laidKinds := [.data, .pinned], laidTests := true, laidLooks := .later }
def SchemaFewerCardSaid : Prop := Claim7.holds Tryd.pinned (.plain (OpenSpec.ofChange schemaFewerSpec)) schemaFewerCard

/-- THE TIED CARD OF 'homesteadlaw11.SchemaAhead'. -/
def schemaAheadCard : Claim7 := { stood := { row := schemaAheadRow, standIns := [], harness := (true, "d109bbb9181819adc992712413d716090c6821dfaad8a7b41a9689c49777308d"), looks := false }, kinds := [], alts := [], laidByText := true, laidKinds := [.data, .pinned], laidTests := true, laidLooks := .later }
def SchemaAheadCardSaid : Prop := Claim7.holds Tryd.pinned (.plain (OpenSpec.ofChange schemaAheadSpec)) schemaAheadCard

/-- THE SECOND FORM's CARD OF 'homesteadlaw11.SchemaNames'. -/
def schemaNamesUptoCard : Claim7 := { stood := { row := schemaNamesUptoRow, standIns := [], harness := (true, "d109bbb9181819adc992712413d716090c6821dfaad8a7b41a9689c49777308d"), looks := false }, kinds := [], alts := [], laidByText := true, laidKinds := [.data, .pinned], laidTests := true, laidLooks := .later }
def SchemaNamesUptoCardSaid : Prop := Claim7.holds Tryd.pinned (.plain (OpenSpec.upto schemaNamesSpec)) schemaNamesUptoCard

/-- THE SECOND FORM's CARD OF 'homesteadlaw11.SchemaRight'. -/
def schemaRightUptoCard : Claim7 := { stood := { row := schemaRightUptoRow, standIns := [], harness := (true, "d109bbb9181819adc992712413d716090c6821dfaad8a7b41a9689c49777308d"), looks := false }, kinds := [], alts := [], laidByText := true, laidKinds := [.data, .pinned], laidTests := true, laidLooks := .later }
def SchemaRightUptoCardSaid : Prop := Claim7.holds Tryd.pinned (.plain (OpenSpec.upto schemaRightSpec)) schemaRightUptoCard

/-- THE SECOND FORM's CARD OF 'homesteadlaw11.SchemaEach'. -/
def schemaEachUptoCard : Claim7 := { stood := { row := schemaEachUptoRow, standIns := [], harness := (true, "d109bbb9181819adc992712413d716090c6821dfaad8a7b41a9689c49777308d"), looks := false }, kinds := [], alts := [], laidByText := true, laidKinds := [.data, .pinned], laidTests := true, laidLooks := .later }
def SchemaEachUptoCardSaid : Prop := Claim7.holds Tryd.pinned (.plain (OpenSpec.upto schemaEachSpec)) schemaEachUptoCard

/-- THE SECOND FORM's CARD OF 'homesteadlaw11.SchemaKids'. -/
def schemaKidsUptoCard : Claim7 := { stood := { row := schemaKidsUptoRow, standIns := [], harness := (true, "d109bbb9181819adc992712413d716090c6821dfaad8a7b41a9689c49777308d"), looks := false }, kinds := [], alts := [], laidByText := true, laidKinds := [.data, .pinned], laidTests := true, laidLooks := .later }
def SchemaKidsUptoCardSaid : Prop := Claim7.holds Tryd.pinned (.plain (OpenSpec.upto schemaKidsSpec)) schemaKidsUptoCard

/-- THE SECOND FORM's CARD OF 'homesteadlaw11.SchemaFewer'. -/
def schemaFewerUptoCard : Claim7 := { stood := { row := schemaFewerUptoRow, standIns := [], harness := (true, "d109bbb9181819adc992712413d716090c6821dfaad8a7b41a9689c49777308d"), looks := false }, kinds := [], alts := [], laidByText := true, laidKinds := [.data, .pinned], laidTests := true, laidLooks := .later }
def SchemaFewerUptoCardSaid : Prop := Claim7.holds Tryd.pinned (.plain (OpenSpec.upto schemaFewerSpec)) schemaFewerUptoCard

/-- THE SECOND FORM's CARD OF 'homesteadlaw11.SchemaAhead'. -/
def schemaAheadUptoCard : Claim7 := { stood := { row := schemaAheadUptoRow, standIns := [], harness := (true, "d109bbb9181819adc992712413d716090c6821dfaad8a7b41a9689c49777308d"), looks := false }, kinds := [], alts := [], laidByText := true, laidKinds := [.data, .pinned], laidTests := true, laidLooks := .later }
def SchemaAheadUptoCardSaid : Prop := Claim7.holds Tryd.pinned (.plain (OpenSpec.upto schemaAheadSpec)) schemaAheadUptoCard
end Rows
end Go.Proofs.YtgelmhcbiffghaaDoor
