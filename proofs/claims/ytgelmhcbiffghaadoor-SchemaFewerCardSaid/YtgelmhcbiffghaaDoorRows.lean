/-
  NARROWER THAN 'FOR EVERY INPUT', by the rows' own cells (each row's printed sentence says how): SchemaNames: laid · SchemaRight: loops, laid · SchemaEach: loops, laid · SchemaKids: loops, laid · SchemaFewer: loops, laid · SchemaAhead: loops, laid.
  DERIVED. THE GIVEN ROWS OF THIS SEAT. 6 by the template 'for every input the law returns true; each argument reads behind the call as it read before'; 0 by the template 'total and deterministic' (their statements: YtgelmhcbiffghaaDoorTotals.lean).
  GIVEN WITH THE SEED: the statements are not yours to turn. If you find one false, say at which input.
  Laid BY PROGRAM, IN A SANDBOX (cutbox-rows.mjs): the forced cells as the released guide's own fill.sh prints them over the translation 9ab6921a7624cfcc… (all of the seat's roots in one cut). By AI agents, Wed Nov 11 2026. No macro, syntax, notation, axiom, sorry.
-/
import Derived.Test.YtgelmhcbiffghaaDoorChecked
import GoSem.PinnedTables
import GoSem.Claim
import GoSem.ClaimJoined
import GoSem.ClaimMapViews
import Derived.JoinedTies
import Derived.KernelRfl
namespace Go.Proofs.YtgelmhcbiffghaaDoor
/- THE CELL 'sum', in the pinned program and in every row, IS THE sha256 OF THE DUMP (.gsa) THAT YtgelmhcbiffghaaDoorProg.lean LOADS. Nothing in Lean hashes anything: it is a label: what it is worth is what the hold of that sum in a sandbox is worth. -/
noncomputable def Tryd.pinned : Pinned := { name := "ytgelmhcbiffghaadoor", sum := "9ab6921a7624cfcc63b22537bed83f7f5752a8c4eb002a6e11fc8adb1c90b892", checked := Tryd.checked }
namespace Rows
def none {H : Type} : Left H := { results := [], args := [] }

/- WHAT THE LISTED PACKAGE-LEVEL VARIABLES READ AS WHEN THE CALL BEGINS. Each datum BY PROGRAM (the guide's laid-datum.mjs) off the statement by which the dump's own 'gosem.cut.vars' lays the variable. In a bare row this is a premise. The card (YtgelmhcbiffghaaDoorCards.lean) ties it to the program's text. -/
def laid_unicode_utf8_acceptRanges {H : Type} : DataW H := .agg [.agg [.lit (.int .u8 128), .lit (.int .u8 191)], .agg [.lit (.int .u8 160), .lit (.int .u8 191)], .agg [.lit (.int .u8 128), .lit (.int .u8 159)], .agg [.lit (.int .u8 144), .lit (.int .u8 191)], .agg [.lit (.int .u8 128), .lit (.int .u8 143)], .agg [.lit (.int .u8 0), .lit (.int .u8 0)], .agg [.lit (.int .u8 0), .lit (.int .u8 0)], .agg [.lit (.int .u8 0), .lit (.int .u8 0)], .agg [.lit (.int .u8 0), .lit (.int .u8 0)], .agg [.lit (.int .u8 0), .lit (.int .u8 0)], .agg [.lit (.int .u8 0), .lit (.int .u8 0)], .agg [.lit (.int .u8 0), .lit (.int .u8 0)], .agg [.lit (.int .u8 0), .lit (.int .u8 0)], .agg [.lit (.int .u8 0), .lit (.int .u8 0)], .agg [.lit (.int .u8 0), .lit (.int .u8 0)], .agg [.lit (.int .u8 0), .lit (.int .u8 0)]]
/-- One of Go's own tables, pinned by name: the form's constant. -/
def laid_unicode_utf8_first : DataW Unit := Go.Pinned.utf8First

/-- 'homesteadlaw11.SchemaNames': WHATEVER THE INPUT: true; the input reads as it did. -/
def schemaNamesSpec : ChangeSpec := { name := "schemaNames", fn := fun _ => fun
  | [d] => { results := [.lit (.bool true)], args := [d] }
  | _ => none }
def schemaNamesRow : OpenClaim := { program := "ytgelmhcbiffghaadoor", sum := "9ab6921a7624cfcc63b22537bed83f7f5752a8c4eb002a6e11fc8adb1c90b892", func := "homestead/homesteadlaw11.SchemaNames", spec := "schemaNames", inPlace := ["internal/bytealg.IndexByteString", "internal/bytealg.IndexString"], unfollowed := true, recurses := true, named := ["unicode/utf8.first", "unicode/utf8.acceptRanges", "internal/bytealg.MaxLen"], apart := false, laid := [("unicode/utf8.acceptRanges", laid_unicode_utf8_acceptRanges), ("unicode/utf8.first", laid_unicode_utf8_first)] }
def SchemaNamesSaid : Prop := schemaNamesRow.holds Tryd.pinned (OpenSpec.ofChange schemaNamesSpec)

/-- ITS FALSE NEIGHBOUR: 'it returns false'. Refute it at one input. -/
def schemaNamesWrong : ChangeSpec := { name := "schemaNames", fn := fun _ => fun
  | [d] => { results := [.lit (.bool false)], args := [d] }
  | _ => none }
def SchemaNamesWrongFalsely : Prop := schemaNamesRow.holds Tryd.pinned (OpenSpec.ofChange schemaNamesWrong)

/-- 'homesteadlaw11.SchemaRight': WHATEVER THE INPUT: true; the input reads as it did. -/
def schemaRightSpec : ChangeSpec := { name := "schemaRight", fn := fun _ => fun
  | [d] => { results := [.lit (.bool true)], args := [d] }
  | _ => none }
def schemaRightRow : OpenClaim := { program := "ytgelmhcbiffghaadoor", sum := "9ab6921a7624cfcc63b22537bed83f7f5752a8c4eb002a6e11fc8adb1c90b892", func := "homestead/homesteadlaw11.SchemaRight", spec := "schemaRight", inPlace := ["internal/bytealg.IndexByteString", "internal/bytealg.IndexString"], unfollowed := true, recurses := true, named := ["unicode/utf8.first", "unicode/utf8.acceptRanges", "internal/bytealg.MaxLen"], loops := true, apart := false, laid := [("unicode/utf8.acceptRanges", laid_unicode_utf8_acceptRanges), ("unicode/utf8.first", laid_unicode_utf8_first)] }
def SchemaRightSaid : Prop := schemaRightRow.holds Tryd.pinned (OpenSpec.ofChange schemaRightSpec)

/-- ITS FALSE NEIGHBOUR: 'it returns false'. Refute it at one input. -/
def schemaRightWrong : ChangeSpec := { name := "schemaRight", fn := fun _ => fun
  | [d] => { results := [.lit (.bool false)], args := [d] }
  | _ => none }
def SchemaRightWrongFalsely : Prop := schemaRightRow.holds Tryd.pinned (OpenSpec.ofChange schemaRightWrong)

/-- 'homesteadlaw11.SchemaEach': WHATEVER THE INPUT: true; the input reads as it did. -/
def schemaEachSpec : ChangeSpec := { name := "schemaEach", fn := fun _ => fun
  | [d] => { results := [.lit (.bool true)], args := [d] }
  | _ => none }
def schemaEachRow : OpenClaim := { program := "ytgelmhcbiffghaadoor", sum := "9ab6921a7624cfcc63b22537bed83f7f5752a8c4eb002a6e11fc8adb1c90b892", func := "homestead/homesteadlaw11.SchemaEach", spec := "schemaEach", inPlace := ["internal/bytealg.IndexByteString", "internal/bytealg.IndexString"], unfollowed := true, recurses := true, named := ["unicode/utf8.first", "unicode/utf8.acceptRanges", "internal/bytealg.MaxLen"], loops := true, apart := false, laid := [("unicode/utf8.acceptRanges", laid_unicode_utf8_acceptRanges), ("unicode/utf8.first", laid_unicode_utf8_first)] }
def SchemaEachSaid : Prop := schemaEachRow.holds Tryd.pinned (OpenSpec.ofChange schemaEachSpec)

/-- ITS FALSE NEIGHBOUR: 'it returns false'. Refute it at one input. -/
def schemaEachWrong : ChangeSpec := { name := "schemaEach", fn := fun _ => fun
  | [d] => { results := [.lit (.bool false)], args := [d] }
  | _ => none }
def SchemaEachWrongFalsely : Prop := schemaEachRow.holds Tryd.pinned (OpenSpec.ofChange schemaEachWrong)

/-- 'homesteadlaw11.SchemaKids': WHATEVER THE INPUT: true; the input reads as it did. -/
def schemaKidsSpec : ChangeSpec := { name := "schemaKids", fn := fun _ => fun
  | [d] => { results := [.lit (.bool true)], args := [d] }
  | _ => none }
def schemaKidsRow : OpenClaim := { program := "ytgelmhcbiffghaadoor", sum := "9ab6921a7624cfcc63b22537bed83f7f5752a8c4eb002a6e11fc8adb1c90b892", func := "homestead/homesteadlaw11.SchemaKids", spec := "schemaKids", inPlace := ["internal/bytealg.IndexByteString", "internal/bytealg.IndexString"], unfollowed := true, recurses := true, named := ["unicode/utf8.first", "unicode/utf8.acceptRanges", "internal/bytealg.MaxLen"], loops := true, apart := false, laid := [("unicode/utf8.acceptRanges", laid_unicode_utf8_acceptRanges), ("unicode/utf8.first", laid_unicode_utf8_first)] }
def SchemaKidsSaid : Prop := schemaKidsRow.holds Tryd.pinned (OpenSpec.ofChange schemaKidsSpec)

/-- ITS FALSE NEIGHBOUR: 'it returns false'. Refute it at one input. -/
def schemaKidsWrong : ChangeSpec := { name := "schemaKids", fn := fun _ => fun
  | [d] => { results := [.lit (.bool false)], args := [d] }
  | _ => none }
def SchemaKidsWrongFalsely : Prop := schemaKidsRow.holds Tryd.pinned (OpenSpec.ofChange schemaKidsWrong)

/-- 'homesteadlaw11.SchemaFewer': WHATEVER THE INPUT: true; the input reads as it did. -/
def schemaFewerSpec : ChangeSpec := { name := "schemaFewer", fn := fun _ => fun
  | [d1, d2] => { results := [.lit (.bool true)], args := [d1, d2] }
  | _ => none }
def schemaFewerRow : OpenClaim := { program := "ytgelmhcbiffghaadoor", sum := "9ab6921a7624cfcc63b22537bed83f7f5752a8c4eb002a6e11fc8adb1c90b892", func := "homestead/homesteadlaw11.SchemaFewer", spec := "schemaFewer", inPlace := ["internal/bytealg.IndexByteString", "internal/bytealg.IndexString"], unfollowed := true, recurses := true, named := ["unicode/utf8.first", "unicode/utf8.acceptRanges", "internal/bytealg.MaxLen"], loops := true, apart := false, laid := [("unicode/utf8.acceptRanges", laid_unicode_utf8_acceptRanges), ("unicode/utf8.first", laid_unicode_utf8_first)] }
def SchemaFewerSaid : Prop := schemaFewerRow.holds Tryd.pinned (OpenSpec.ofChange schemaFewerSpec)

/-- ITS FALSE NEIGHBOUR: 'it returns false'. Refute it at one input. -/
def schemaFewerWrong : ChangeSpec := { name := "schemaFewer", fn := fun _ => fun
  | [d1, d2] => { results := [.lit (.bool false)], args := [d1, d2] }
  | _ => none }
def SchemaFewerWrongFalsely : Prop := schemaFewerRow.holds Tryd.pinned (OpenSpec.ofChange schemaFewerWrong)

/-- 'homesteadlaw11.SchemaAhead': WHATEVER THE INPUT: true; the input reads as it did. -/
def schemaAheadSpec : ChangeSpec := { name := "schemaAhead", fn := fun _ => fun
  | [d1, d2] => { results := [.lit (.bool true)], args := [d1, d2] }
  | _ => none }
def schemaAheadRow : OpenClaim := { program := "ytgelmhcbiffghaadoor", sum := "9ab6921a7624cfcc63b22537bed83f7f5752a8c4eb002a6e11fc8adb1c90b892", func := "homestead/homesteadlaw11.SchemaAhead", spec := "schemaAhead", inPlace := ["internal/bytealg.IndexByteString", "internal/bytealg.IndexString"], unfollowed := true, recurses := true, named := ["unicode/utf8.first", "unicode/utf8.acceptRanges", "internal/bytealg.MaxLen"], loops := true, apart := false, laid := [("unicode/utf8.acceptRanges", laid_unicode_utf8_acceptRanges), ("unicode/utf8.first", laid_unicode_utf8_first)] }
def SchemaAheadSaid : Prop := schemaAheadRow.holds Tryd.pinned (OpenSpec.ofChange schemaAheadSpec)

/-- ITS FALSE NEIGHBOUR: 'it returns false'. Refute it at one input. -/
def schemaAheadWrong : ChangeSpec := { name := "schemaAhead", fn := fun _ => fun
  | [d1, d2] => { results := [.lit (.bool false)], args := [d1, d2] }
  | _ => none }
def SchemaAheadWrongFalsely : Prop := schemaAheadRow.holds Tryd.pinned (OpenSpec.ofChange schemaAheadWrong)

/- THE SECOND FORM. 'bulk': how many values and letters a reading holds, each counted each time it is reached (what is shared counts as often as it is met; a slice's spare places count too). A statement '..UptoSaid' is the law's where the arguments, and the package variables that the reading takes, are together of bulk at most 1048576: NARROWER than '..Said'. Prove '..Said' where nothing that the law and all that it calls make is longer than what came in: it says more and counts as full. Else prove '..UptoSaid'. A law counts once. -/
mutual
def uptoBulk {H : Type} : DataW H → Nat
  | .lit (.string bytes) => bytes.length + 1
  | .lit _ => 1
  | .nil => 1
  | .ptr d => uptoBulk d + 1
  | .slice elems spare => uptoBulkAll elems + uptoBulkAll spare + 1
  | .agg parts => uptoBulkAll parts + 1
  | .iface _ d => uptoBulk d + 1
  | .map entries => uptoBulkEntries entries + 1
  | .held _ => 1
def uptoBulkAll {H : Type} : List (DataW H) → Nat
  | [] => 0
  | d :: r => uptoBulk d + uptoBulkAll r
def uptoBulkEntries {H : Type} : List (Lit × DataW H) → Nat
  | [] => 0
  | x :: r => uptoBulkEntry x + uptoBulkEntries r
def uptoBulkEntry {H : Type} : Lit × DataW H → Nat
  | (.string bytes, d) => bytes.length + uptoBulk d + 1
  | (_, d) => uptoBulk d + 1
 end
def uptoSmall : (H : Type) → List (DataW H) → Bool := fun _ ds => decide (uptoBulkAll ds ≤ 1048576)
def OpenSpec.upto (s : _root_.Go.ChangeSpec) : _root_.Go.OpenSpec := { _root_.Go.OpenSpec.ofChange s with cond := some uptoSmall }

/-- 'homesteadlaw11.SchemaNames', WHERE WHAT IT READS IS OF BULK AT MOST 1048576: true; the input reads as it did. -/
def schemaNamesUptoRow : OpenClaim := { program := "ytgelmhcbiffghaadoor", sum := "9ab6921a7624cfcc63b22537bed83f7f5752a8c4eb002a6e11fc8adb1c90b892", func := "homestead/homesteadlaw11.SchemaNames", spec := "schemaNames", inPlace := ["internal/bytealg.IndexByteString", "internal/bytealg.IndexString"], unfollowed := true, recurses := true, named := ["unicode/utf8.first", "unicode/utf8.acceptRanges", "internal/bytealg.MaxLen"], apart := false, laid := [("unicode/utf8.acceptRanges", laid_unicode_utf8_acceptRanges), ("unicode/utf8.first", laid_unicode_utf8_first)], narrowed := true }
def SchemaNamesUptoSaid : Prop := schemaNamesUptoRow.holds Tryd.pinned (OpenSpec.upto schemaNamesSpec)

/-- 'homesteadlaw11.SchemaRight', WHERE WHAT IT READS IS OF BULK AT MOST 1048576: true; the input reads as it did. -/
def schemaRightUptoRow : OpenClaim := { program := "ytgelmhcbiffghaadoor", sum := "9ab6921a7624cfcc63b22537bed83f7f5752a8c4eb002a6e11fc8adb1c90b892", func := "homestead/homesteadlaw11.SchemaRight", spec := "schemaRight", inPlace := ["internal/bytealg.IndexByteString", "internal/bytealg.IndexString"], unfollowed := true, recurses := true, named := ["unicode/utf8.first", "unicode/utf8.acceptRanges", "internal/bytealg.MaxLen"], loops := true, apart := false, laid := [("unicode/utf8.acceptRanges", laid_unicode_utf8_acceptRanges), ("unicode/utf8.first", laid_unicode_utf8_first)], narrowed := true }
def SchemaRightUptoSaid : Prop := schemaRightUptoRow.holds Tryd.pinned (OpenSpec.upto schemaRightSpec)

/-- 'homesteadlaw11.SchemaEach', WHERE WHAT IT READS IS OF BULK AT MOST 1048576: true; the input reads as it did. -/
def schemaEachUptoRow : OpenClaim := { program := "ytgelmhcbiffghaadoor", sum := "9ab6921a7624cfcc63b22537bed83f7f5752a8c4eb002a6e11fc8adb1c90b892", func := "homestead/homesteadlaw11.SchemaEach", spec := "schemaEach", inPlace := ["internal/bytealg.IndexByteString", "internal/bytealg.IndexString"], unfollowed := true, recurses := true, named := ["unicode/utf8.first", "unicode/utf8.acceptRanges", "internal/bytealg.MaxLen"], loops := true, apart := false, laid := [("unicode/utf8.acceptRanges", laid_unicode_utf8_acceptRanges), ("unicode/utf8.first", laid_unicode_utf8_first)], narrowed := true }
def SchemaEachUptoSaid : Prop := schemaEachUptoRow.holds Tryd.pinned (OpenSpec.upto schemaEachSpec)

/-- 'homesteadlaw11.SchemaKids', WHERE WHAT IT READS IS OF BULK AT MOST 1048576: true; the input reads as it did. -/
def schemaKidsUptoRow : OpenClaim := { program := "ytgelmhcbiffghaadoor", sum := "9ab6921a7624cfcc63b22537bed83f7f5752a8c4eb002a6e11fc8adb1c90b892", func := "homestead/homesteadlaw11.SchemaKids", spec := "schemaKids", inPlace := ["internal/bytealg.IndexByteString", "internal/bytealg.IndexString"], unfollowed := true, recurses := true, named := ["unicode/utf8.first", "unicode/utf8.acceptRanges", "internal/bytealg.MaxLen"], loops := true, apart := false, laid := [("unicode/utf8.acceptRanges", laid_unicode_utf8_acceptRanges), ("unicode/utf8.first", laid_unicode_utf8_first)], narrowed := true }
def SchemaKidsUptoSaid : Prop := schemaKidsUptoRow.holds Tryd.pinned (OpenSpec.upto schemaKidsSpec)

/-- 'homesteadlaw11.SchemaFewer', WHERE WHAT IT READS IS OF BULK AT MOST 1048576: true; the input reads as it did. -/
def schemaFewerUptoRow : OpenClaim := { program := "ytgelmhcbiffghaadoor", sum := "9ab6921a7624cfcc63b22537bed83f7f5752a8c4eb002a6e11fc8adb1c90b892", func := "homestead/homesteadlaw11.SchemaFewer", spec := "schemaFewer", inPlace := ["internal/bytealg.IndexByteString", "internal/bytealg.IndexString"], unfollowed := true, recurses := true, named := ["unicode/utf8.first", "unicode/utf8.acceptRanges", "internal/bytealg.MaxLen"], loops := true, apart := false, laid := [("unicode/utf8.acceptRanges", laid_unicode_utf8_acceptRanges), ("unicode/utf8.first", laid_unicode_utf8_first)], narrowed := true }
def SchemaFewerUptoSaid : Prop := schemaFewerUptoRow.holds Tryd.pinned (OpenSpec.upto schemaFewerSpec)

/-- 'homesteadlaw11.SchemaAhead', WHERE WHAT IT READS IS OF BULK AT MOST 1048576: true; the input reads as it did. -/
def schemaAheadUptoRow : OpenClaim := { program := "ytgelmhcbiffghaadoor", sum := "9ab6921a7624cfcc63b22537bed83f7f5752a8c4eb002a6e11fc8adb1c90b892", func := "homestead/homesteadlaw11.SchemaAhead", spec := "schemaAhead", inPlace := ["internal/bytealg.IndexByteString", "internal/bytealg.IndexString"], unfollowed := true, recurses := true, named := ["unicode/utf8.first", "unicode/utf8.acceptRanges", "internal/bytealg.MaxLen"], loops := true, apart := false, laid := [("unicode/utf8.acceptRanges", laid_unicode_utf8_acceptRanges), ("unicode/utf8.first", laid_unicode_utf8_first)], narrowed := true }
def SchemaAheadUptoSaid : Prop := schemaAheadUptoRow.holds Tryd.pinned (OpenSpec.upto schemaAheadSpec)

end Rows
end Go.Proofs.YtgelmhcbiffghaaDoor
