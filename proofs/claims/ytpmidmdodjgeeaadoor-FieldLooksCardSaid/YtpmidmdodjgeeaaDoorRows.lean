/-
  NARROWER THAN 'FOR EVERY INPUT', by the rows' own cells (each row's printed sentence says how): FieldParses: laid · FieldJoins: laid · FieldLooks: laid · FieldBounds: laid · FieldPrints: laid · DateParses: laid · DateFollows: laid · DateBounds: laid · DatePrints: laid · DateApart: laid.
  DERIVED. THE GIVEN ROWS OF THIS SEAT. 10 by the template 'for every input the law returns true; each argument reads behind the call as it read before'; 0 by the template 'total and deterministic' (their statements: YtpmidmdodjgeeaaDoorTotals.lean).
  GIVEN WITH THE SEED: the statements are not yours to turn. If you find one false, say at which input.
  Laid BY PROGRAM, IN A SANDBOX (cutbox-rows.mjs): the forced cells as the released guide's own fill.sh prints them over the translation ec3226fb1318be62… (all of the seat's roots in one cut). By AI agents, Wed Nov 11 2026. No macro, syntax, notation, axiom, sorry.
-/
import Derived.Test.YtpmidmdodjgeeaaDoorChecked
import GoSem.PinnedTables
import GoSem.Claim
import GoSem.ClaimJoined
import GoSem.ClaimMapViews
import Derived.JoinedTies
import Derived.KernelRfl
namespace Go.Proofs.YtpmidmdodjgeeaaDoor
/- THE CELL 'sum', in the pinned program and in every row, IS THE sha256 OF THE DUMP (.gsa) THAT YtpmidmdodjgeeaaDoorProg.lean LOADS. Nothing in Lean hashes anything: it is a label: what it is worth is what the hold of that sum in a sandbox is worth. -/
noncomputable def Tryd.pinned : Pinned := { name := "ytpmidmdodjgeeaadoor", sum := "ec3226fb1318be62d234c13e8663783366ae842b1a0c7ee7e6e4dc54cf2e7780", checked := Tryd.checked }
namespace Rows
def none {H : Type} : Left H := { results := [], args := [] }

/- WHAT THE LISTED PACKAGE-LEVEL VARIABLES READ AS WHEN THE CALL BEGINS. Each datum BY PROGRAM (the guide's laid-datum.mjs) off the statement by which the dump's own 'gosem.cut.vars' lays the variable. In a bare row this is a premise. The card (YtpmidmdodjgeeaaDoorCards.lean) ties it to the program's text. -/
def laid_unicode_utf8_acceptRanges {H : Type} : DataW H := .agg [.agg [.lit (.int .u8 128), .lit (.int .u8 191)], .agg [.lit (.int .u8 160), .lit (.int .u8 191)], .agg [.lit (.int .u8 128), .lit (.int .u8 159)], .agg [.lit (.int .u8 144), .lit (.int .u8 191)], .agg [.lit (.int .u8 128), .lit (.int .u8 143)], .agg [.lit (.int .u8 0), .lit (.int .u8 0)], .agg [.lit (.int .u8 0), .lit (.int .u8 0)], .agg [.lit (.int .u8 0), .lit (.int .u8 0)], .agg [.lit (.int .u8 0), .lit (.int .u8 0)], .agg [.lit (.int .u8 0), .lit (.int .u8 0)], .agg [.lit (.int .u8 0), .lit (.int .u8 0)], .agg [.lit (.int .u8 0), .lit (.int .u8 0)], .agg [.lit (.int .u8 0), .lit (.int .u8 0)], .agg [.lit (.int .u8 0), .lit (.int .u8 0)], .agg [.lit (.int .u8 0), .lit (.int .u8 0)], .agg [.lit (.int .u8 0), .lit (.int .u8 0)]]
/-- One of Go's own tables, pinned by name: the form's constant. -/
def laid_unicode_utf8_first : DataW Unit := Go.Pinned.utf8First

/-- 'icehouselaw03.FieldParses': WHATEVER THE INPUT: true; the input reads as it did. -/
def fieldParsesSpec : ChangeSpec := { name := "fieldParses", fn := fun _ => fun
  | [d] => { results := [.lit (.bool true)], args := [d] }
  | _ => none }
def fieldParsesRow : OpenClaim := { program := "ytpmidmdodjgeeaadoor", sum := "ec3226fb1318be62d234c13e8663783366ae842b1a0c7ee7e6e4dc54cf2e7780", func := "icehouse/icehouselaw03.FieldParses", spec := "fieldParses", inPlace := ["internal/bytealg.IndexByte", "internal/bytealg.Index", "internal/bytealg.IndexByteString", "internal/bytealg.IndexString"], unfollowed := true, recurses := true, named := ["internal/bytealg.MaxLen", "unicode/utf8.first", "unicode/utf8.acceptRanges"], apart := false, laid := [("unicode/utf8.acceptRanges", laid_unicode_utf8_acceptRanges), ("unicode/utf8.first", laid_unicode_utf8_first)] }
def FieldParsesSaid : Prop := fieldParsesRow.holds Tryd.pinned (OpenSpec.ofChange fieldParsesSpec)

/-- ITS FALSE NEIGHBOUR: 'it returns false'. Refute it at one input. -/
def fieldParsesWrong : ChangeSpec := { name := "fieldParses", fn := fun _ => fun
  | [d] => { results := [.lit (.bool false)], args := [d] }
  | _ => none }
def FieldParsesWrongFalsely : Prop := fieldParsesRow.holds Tryd.pinned (OpenSpec.ofChange fieldParsesWrong)

/-- 'icehouselaw03.FieldJoins': WHATEVER THE INPUT: true; the input reads as it did. -/
def fieldJoinsSpec : ChangeSpec := { name := "fieldJoins", fn := fun _ => fun
  | [d1, d2, d3] => { results := [.lit (.bool true)], args := [d1, d2, d3] }
  | _ => none }
def fieldJoinsRow : OpenClaim := { program := "ytpmidmdodjgeeaadoor", sum := "ec3226fb1318be62d234c13e8663783366ae842b1a0c7ee7e6e4dc54cf2e7780", func := "icehouse/icehouselaw03.FieldJoins", spec := "fieldJoins", inPlace := ["internal/bytealg.IndexByte", "internal/bytealg.Index", "internal/bytealg.IndexByteString", "internal/bytealg.IndexString"], unfollowed := true, recurses := true, named := ["internal/bytealg.MaxLen", "unicode/utf8.first", "unicode/utf8.acceptRanges"], apart := false, laid := [("unicode/utf8.acceptRanges", laid_unicode_utf8_acceptRanges), ("unicode/utf8.first", laid_unicode_utf8_first)] }
def FieldJoinsSaid : Prop := fieldJoinsRow.holds Tryd.pinned (OpenSpec.ofChange fieldJoinsSpec)

/-- ITS FALSE NEIGHBOUR: 'it returns false'. Refute it at one input. -/
def fieldJoinsWrong : ChangeSpec := { name := "fieldJoins", fn := fun _ => fun
  | [d1, d2, d3] => { results := [.lit (.bool false)], args := [d1, d2, d3] }
  | _ => none }
def FieldJoinsWrongFalsely : Prop := fieldJoinsRow.holds Tryd.pinned (OpenSpec.ofChange fieldJoinsWrong)

/-- 'icehouselaw03.FieldLooks': WHATEVER THE INPUT: true; the input reads as it did. -/
def fieldLooksSpec : ChangeSpec := { name := "fieldLooks", fn := fun _ => fun
  | [d1, d2, d3] => { results := [.lit (.bool true)], args := [d1, d2, d3] }
  | _ => none }
def fieldLooksRow : OpenClaim := { program := "ytpmidmdodjgeeaadoor", sum := "ec3226fb1318be62d234c13e8663783366ae842b1a0c7ee7e6e4dc54cf2e7780", func := "icehouse/icehouselaw03.FieldLooks", spec := "fieldLooks", inPlace := ["internal/bytealg.IndexByte", "internal/bytealg.Index", "internal/bytealg.IndexByteString", "internal/bytealg.IndexString"], unfollowed := true, recurses := true, named := ["internal/bytealg.MaxLen", "unicode/utf8.first", "unicode/utf8.acceptRanges"], apart := false, laid := [("unicode/utf8.acceptRanges", laid_unicode_utf8_acceptRanges), ("unicode/utf8.first", laid_unicode_utf8_first)] }
def FieldLooksSaid : Prop := fieldLooksRow.holds Tryd.pinned (OpenSpec.ofChange fieldLooksSpec)

/-- ITS FALSE NEIGHBOUR: 'it returns false'. Refute it at one input. -/
def fieldLooksWrong : ChangeSpec := { name := "fieldLooks", fn := fun _ => fun
  | [d1, d2, d3] => { results := [.lit (.bool false)], args := [d1, d2, d3] }
  | _ => none }
def FieldLooksWrongFalsely : Prop := fieldLooksRow.holds Tryd.pinned (OpenSpec.ofChange fieldLooksWrong)

/-- 'icehouselaw03.FieldBounds': WHATEVER THE INPUT: true; the input reads as it did. -/
def fieldBoundsSpec : ChangeSpec := { name := "fieldBounds", fn := fun _ => fun
  | [d1, d2] => { results := [.lit (.bool true)], args := [d1, d2] }
  | _ => none }
def fieldBoundsRow : OpenClaim := { program := "ytpmidmdodjgeeaadoor", sum := "ec3226fb1318be62d234c13e8663783366ae842b1a0c7ee7e6e4dc54cf2e7780", func := "icehouse/icehouselaw03.FieldBounds", spec := "fieldBounds", inPlace := ["internal/bytealg.IndexByte", "internal/bytealg.Index", "internal/bytealg.IndexByteString", "internal/bytealg.IndexString"], unfollowed := true, recurses := true, named := ["internal/bytealg.MaxLen", "unicode/utf8.first", "unicode/utf8.acceptRanges"], apart := false, laid := [("unicode/utf8.acceptRanges", laid_unicode_utf8_acceptRanges), ("unicode/utf8.first", laid_unicode_utf8_first)] }
def FieldBoundsSaid : Prop := fieldBoundsRow.holds Tryd.pinned (OpenSpec.ofChange fieldBoundsSpec)

/-- ITS FALSE NEIGHBOUR: 'it returns false'. Refute it at one input. -/
def fieldBoundsWrong : ChangeSpec := { name := "fieldBounds", fn := fun _ => fun
  | [d1, d2] => { results := [.lit (.bool false)], args := [d1, d2] }
  | _ => none }
def FieldBoundsWrongFalsely : Prop := fieldBoundsRow.holds Tryd.pinned (OpenSpec.ofChange fieldBoundsWrong)

/-- 'icehouselaw03.FieldPrints': WHATEVER THE INPUT: true; the input reads as it did. -/
def fieldPrintsSpec : ChangeSpec := { name := "fieldPrints", fn := fun _ => fun
  | [d1, d2] => { results := [.lit (.bool true)], args := [d1, d2] }
  | _ => none }
def fieldPrintsRow : OpenClaim := { program := "ytpmidmdodjgeeaadoor", sum := "ec3226fb1318be62d234c13e8663783366ae842b1a0c7ee7e6e4dc54cf2e7780", func := "icehouse/icehouselaw03.FieldPrints", spec := "fieldPrints", inPlace := ["internal/bytealg.IndexByte", "internal/bytealg.Index", "internal/bytealg.IndexByteString", "internal/bytealg.IndexString"], unfollowed := true, recurses := true, named := ["internal/bytealg.MaxLen", "unicode/utf8.first", "unicode/utf8.acceptRanges"], apart := false, laid := [("unicode/utf8.acceptRanges", laid_unicode_utf8_acceptRanges), ("unicode/utf8.first", laid_unicode_utf8_first)] }
def FieldPrintsSaid : Prop := fieldPrintsRow.holds Tryd.pinned (OpenSpec.ofChange fieldPrintsSpec)

/-- ITS FALSE NEIGHBOUR: 'it returns false'. Refute it at one input. -/
def fieldPrintsWrong : ChangeSpec := { name := "fieldPrints", fn := fun _ => fun
  | [d1, d2] => { results := [.lit (.bool false)], args := [d1, d2] }
  | _ => none }
def FieldPrintsWrongFalsely : Prop := fieldPrintsRow.holds Tryd.pinned (OpenSpec.ofChange fieldPrintsWrong)

/-- 'icehouselaw02.DateParses': WHATEVER THE INPUT: true; the input reads as it did. -/
def dateParsesSpec : ChangeSpec := { name := "dateParses", fn := fun _ => fun
  | [d] => { results := [.lit (.bool true)], args := [d] }
  | _ => none }
def dateParsesRow : OpenClaim := { program := "ytpmidmdodjgeeaadoor", sum := "ec3226fb1318be62d234c13e8663783366ae842b1a0c7ee7e6e4dc54cf2e7780", func := "icehouse/icehouselaw02.DateParses", spec := "dateParses", inPlace := ["internal/abi.NoEscape", "internal/bytealg.MakeNoZero", "internal/bytealg.CountString", "internal/bytealg.IndexByteString", "internal/bytealg.IndexString"], named := ["unicode/utf8.first", "unicode/utf8.acceptRanges", "internal/bytealg.MaxLen"], apart := false, laid := [("unicode/utf8.acceptRanges", laid_unicode_utf8_acceptRanges), ("unicode/utf8.first", laid_unicode_utf8_first)] }
def DateParsesSaid : Prop := dateParsesRow.holds Tryd.pinned (OpenSpec.ofChange dateParsesSpec)

/-- ITS FALSE NEIGHBOUR: 'it returns false'. Refute it at one input. -/
def dateParsesWrong : ChangeSpec := { name := "dateParses", fn := fun _ => fun
  | [d] => { results := [.lit (.bool false)], args := [d] }
  | _ => none }
def DateParsesWrongFalsely : Prop := dateParsesRow.holds Tryd.pinned (OpenSpec.ofChange dateParsesWrong)

/-- 'icehouselaw02.DateFollows': WHATEVER THE INPUT: true; the input reads as it did. -/
def dateFollowsSpec : ChangeSpec := { name := "dateFollows", fn := fun _ => fun
  | [d] => { results := [.lit (.bool true)], args := [d] }
  | _ => none }
def dateFollowsRow : OpenClaim := { program := "ytpmidmdodjgeeaadoor", sum := "ec3226fb1318be62d234c13e8663783366ae842b1a0c7ee7e6e4dc54cf2e7780", func := "icehouse/icehouselaw02.DateFollows", spec := "dateFollows", inPlace := ["internal/abi.NoEscape", "internal/bytealg.MakeNoZero", "internal/bytealg.CountString", "internal/bytealg.IndexByteString", "internal/bytealg.IndexString"], named := ["unicode/utf8.first", "unicode/utf8.acceptRanges", "internal/bytealg.MaxLen"], apart := false, laid := [("unicode/utf8.acceptRanges", laid_unicode_utf8_acceptRanges), ("unicode/utf8.first", laid_unicode_utf8_first)] }
def DateFollowsSaid : Prop := dateFollowsRow.holds Tryd.pinned (OpenSpec.ofChange dateFollowsSpec)

/-- ITS FALSE NEIGHBOUR: 'it returns false'. Refute it at one input. -/
def dateFollowsWrong : ChangeSpec := { name := "dateFollows", fn := fun _ => fun
  | [d] => { results := [.lit (.bool false)], args := [d] }
  | _ => none }
def DateFollowsWrongFalsely : Prop := dateFollowsRow.holds Tryd.pinned (OpenSpec.ofChange dateFollowsWrong)

/-- 'icehouselaw02.DateBounds': WHATEVER THE INPUT: true; the input reads as it did. -/
def dateBoundsSpec : ChangeSpec := { name := "dateBounds", fn := fun _ => fun
  | [d] => { results := [.lit (.bool true)], args := [d] }
  | _ => none }
def dateBoundsRow : OpenClaim := { program := "ytpmidmdodjgeeaadoor", sum := "ec3226fb1318be62d234c13e8663783366ae842b1a0c7ee7e6e4dc54cf2e7780", func := "icehouse/icehouselaw02.DateBounds", spec := "dateBounds", inPlace := ["internal/abi.NoEscape", "internal/bytealg.MakeNoZero", "internal/bytealg.CountString", "internal/bytealg.IndexByteString", "internal/bytealg.IndexString"], named := ["unicode/utf8.first", "unicode/utf8.acceptRanges", "internal/bytealg.MaxLen"], apart := false, laid := [("unicode/utf8.acceptRanges", laid_unicode_utf8_acceptRanges), ("unicode/utf8.first", laid_unicode_utf8_first)] }
def DateBoundsSaid : Prop := dateBoundsRow.holds Tryd.pinned (OpenSpec.ofChange dateBoundsSpec)

/-- ITS FALSE NEIGHBOUR: 'it returns false'. Refute it at one input. -/
def dateBoundsWrong : ChangeSpec := { name := "dateBounds", fn := fun _ => fun
  | [d] => { results := [.lit (.bool false)], args := [d] }
  | _ => none }
def DateBoundsWrongFalsely : Prop := dateBoundsRow.holds Tryd.pinned (OpenSpec.ofChange dateBoundsWrong)

/-- 'icehouselaw02.DatePrints': WHATEVER THE INPUT: true; the input reads as it did. -/
def datePrintsSpec : ChangeSpec := { name := "datePrints", fn := fun _ => fun
  | [d] => { results := [.lit (.bool true)], args := [d] }
  | _ => none }
def datePrintsRow : OpenClaim := { program := "ytpmidmdodjgeeaadoor", sum := "ec3226fb1318be62d234c13e8663783366ae842b1a0c7ee7e6e4dc54cf2e7780", func := "icehouse/icehouselaw02.DatePrints", spec := "datePrints", inPlace := ["internal/abi.NoEscape", "internal/bytealg.MakeNoZero", "internal/bytealg.CountString", "internal/bytealg.IndexByteString", "internal/bytealg.IndexString"], named := ["unicode/utf8.first", "unicode/utf8.acceptRanges", "internal/bytealg.MaxLen"], apart := false, laid := [("unicode/utf8.acceptRanges", laid_unicode_utf8_acceptRanges), ("unicode/utf8.first", laid_unicode_utf8_first)] }
def DatePrintsSaid : Prop := datePrintsRow.holds Tryd.pinned (OpenSpec.ofChange datePrintsSpec)

/-- ITS FALSE NEIGHBOUR: 'it returns false'. Refute it at one input. -/
def datePrintsWrong : ChangeSpec := { name := "datePrints", fn := fun _ => fun
  | [d] => { results := [.lit (.bool false)], args := [d] }
  | _ => none }
def DatePrintsWrongFalsely : Prop := datePrintsRow.holds Tryd.pinned (OpenSpec.ofChange datePrintsWrong)

/-- 'icehouselaw02.DateApart': WHATEVER THE INPUT: true; the input reads as it did. -/
def dateApartSpec : ChangeSpec := { name := "dateApart", fn := fun _ => fun
  | [d1, d2, d3] => { results := [.lit (.bool true)], args := [d1, d2, d3] }
  | _ => none }
def dateApartRow : OpenClaim := { program := "ytpmidmdodjgeeaadoor", sum := "ec3226fb1318be62d234c13e8663783366ae842b1a0c7ee7e6e4dc54cf2e7780", func := "icehouse/icehouselaw02.DateApart", spec := "dateApart", inPlace := ["internal/abi.NoEscape", "internal/bytealg.MakeNoZero", "internal/bytealg.CountString", "internal/bytealg.IndexByteString", "internal/bytealg.IndexString"], named := ["unicode/utf8.first", "unicode/utf8.acceptRanges", "internal/bytealg.MaxLen"], apart := false, laid := [("unicode/utf8.acceptRanges", laid_unicode_utf8_acceptRanges), ("unicode/utf8.first", laid_unicode_utf8_first)] }
def DateApartSaid : Prop := dateApartRow.holds Tryd.pinned (OpenSpec.ofChange dateApartSpec)

/-- ITS FALSE NEIGHBOUR: 'it returns false'. Refute it at one input. -/
def dateApartWrong : ChangeSpec := { name := "dateApart", fn := fun _ => fun
  | [d1, d2, d3] => { results := [.lit (.bool false)], args := [d1, d2, d3] }
  | _ => none }
def DateApartWrongFalsely : Prop := dateApartRow.holds Tryd.pinned (OpenSpec.ofChange dateApartWrong)

/- THE SECOND FORM. 'bulk': how many values and letters a reading holds, each counted each time it is reached (what is shared counts as often as it is met; a slice's spare places count too). A statement '..UptoSaid' is the law's where the arguments, and the package variables that the reading takes, are together of bulk at most 1048576: NARROWER than '..Said'. Prove '..Said' where nothing that the law and all that it calls make is longer than what came in: it says more and counts as full. Else prove '..UptoSaid'. A law counts once. -/
mutual
def uptoBulk {H : Type} : DataW H → Nat
  | .lit (.string bytes) => bytes.length + 1
  | .lit _ => 1
  | .nil => 1
  | .ptr d => uptoBulk d + 1
  | .slice elems spare => uptoBulkAll elems + uptoBulkAll spare + 1
  | .agg parts => uptoBulkAll parts + 1
  | .iface _ d => uptoBulk d + 1
  | .map entries => uptoBulkEntries entries + 1
  | .held _ => 1
def uptoBulkAll {H : Type} : List (DataW H) → Nat
  | [] => 0
  | d :: r => uptoBulk d + uptoBulkAll r
def uptoBulkEntries {H : Type} : List (Lit × DataW H) → Nat
  | [] => 0
  | x :: r => uptoBulkEntry x + uptoBulkEntries r
def uptoBulkEntry {H : Type} : Lit × DataW H → Nat
  | (.string bytes, d) => bytes.length + uptoBulk d + 1
  | (_, d) => uptoBulk d + 1
 end
def uptoSmall : (H : Type) → List (DataW H) → Bool := fun _ ds => decide (uptoBulkAll ds ≤ 1048576)
def OpenSpec.upto (s : _root_.Go.ChangeSpec) : _root_.Go.OpenSpec := { _root_.Go.OpenSpec.ofChange s with cond := some uptoSmall }

/-- 'icehouselaw03.FieldParses', WHERE WHAT IT READS IS OF BULK AT MOST 1048576: true; the input reads as it did. -/
def fieldParsesUptoRow : OpenClaim := { program := "ytpmidmdodjgeeaadoor", sum := "ec3226fb1318be62d234c13e8663783366ae842b1a0c7ee7e6e4dc54cf2e7780", func := "icehouse/icehouselaw03.FieldParses", spec := "fieldParses", inPlace := ["internal/bytealg.IndexByte", "internal/bytealg.Index", "internal/bytealg.IndexByteString", "internal/bytealg.IndexString"], unfollowed := true, recurses := true, named := ["internal/bytealg.MaxLen", "unicode/utf8.first", "unicode/utf8.acceptRanges"], apart := false, laid := [("unicode/utf8.acceptRanges", laid_unicode_utf8_acceptRanges), ("unicode/utf8.first", laid_unicode_utf8_first)], narrowed := true }
def FieldParsesUptoSaid : Prop := fieldParsesUptoRow.holds Tryd.pinned (OpenSpec.upto fieldParsesSpec)

/-- 'icehouselaw03.FieldJoins', WHERE WHAT IT READS IS OF BULK AT MOST 1048576: true; the input reads as it did. -/
def fieldJoinsUptoRow : OpenClaim := { program := "ytpmidmdodjgeeaadoor", sum := "ec3226fb1318be62d234c13e8663783366ae842b1a0c7ee7e6e4dc54cf2e7780", func := "icehouse/icehouselaw03.FieldJoins", spec := "fieldJoins", inPlace := ["internal/bytealg.IndexByte", "internal/bytealg.Index", "internal/bytealg.IndexByteString", "internal/bytealg.IndexString"], unfollowed := true, recurses := true, named := ["internal/bytealg.MaxLen", "unicode/utf8.first", "unicode/utf8.acceptRanges"], apart := false, laid := [("unicode/utf8.acceptRanges", laid_unicode_utf8_acceptRanges), ("unicode/utf8.first", laid_unicode_utf8_first)], narrowed := true }
def FieldJoinsUptoSaid : Prop := fieldJoinsUptoRow.holds Tryd.pinned (OpenSpec.upto fieldJoinsSpec)

/-- 'icehouselaw03.FieldLooks', WHERE WHAT IT READS IS OF BULK AT MOST 1048576: true; the input reads as it did. -/
def fieldLooksUptoRow : OpenClaim := { program := "ytpmidmdodjgeeaadoor", sum := "ec3226fb1318be62d234c13e8663783366ae842b1a0c7ee7e6e4dc54cf2e7780", func := "icehouse/icehouselaw03.FieldLooks", spec := "fieldLooks", inPlace := ["internal/bytealg.IndexByte", "internal/bytealg.Index", "internal/bytealg.IndexByteString", "internal/bytealg.IndexString"], unfollowed := true, recurses := true, named := ["internal/bytealg.MaxLen", "unicode/utf8.first", "unicode/utf8.acceptRanges"], apart := false, laid := [("unicode/utf8.acceptRanges", laid_unicode_utf8_acceptRanges), ("unicode/utf8.first", laid_unicode_utf8_first)], narrowed := true }
def FieldLooksUptoSaid : Prop := fieldLooksUptoRow.holds Tryd.pinned (OpenSpec.upto fieldLooksSpec)

/-- 'icehouselaw03.FieldBounds', WHERE WHAT IT READS IS OF BULK AT MOST 1048576: true; the input reads as it did. -/
def fieldBoundsUptoRow : OpenClaim := { program := "ytpmidmdodjgeeaadoor", sum := "ec3226fb1318be62d234c13e8663783366ae842b1a0c7ee7e6e4dc54cf2e7780", func := "icehouse/icehouselaw03.FieldBounds", spec := "fieldBounds", inPlace := ["internal/bytealg.IndexByte", "internal/bytealg.Index", "internal/bytealg.IndexByteString", "internal/bytealg.IndexString"], unfollowed := true, recurses := true, named := ["internal/bytealg.MaxLen", "unicode/utf8.first", "unicode/utf8.acceptRanges"], apart := false, laid := [("unicode/utf8.acceptRanges", laid_unicode_utf8_acceptRanges), ("unicode/utf8.first", laid_unicode_utf8_first)], narrowed := true }
def FieldBoundsUptoSaid : Prop := fieldBoundsUptoRow.holds Tryd.pinned (OpenSpec.upto fieldBoundsSpec)

/-- 'icehouselaw03.FieldPrints', WHERE WHAT IT READS IS OF BULK AT MOST 1048576: true; the input reads as it did. -/
def fieldPrintsUptoRow : OpenClaim := { program := "ytpmidmdodjgeeaadoor", sum := "ec3226fb1318be62d234c13e8663783366ae842b1a0c7ee7e6e4dc54cf2e7780", func := "icehouse/icehouselaw03.FieldPrints", spec := "fieldPrints", inPlace := ["internal/bytealg.IndexByte", "internal/bytealg.Index", "internal/bytealg.IndexByteString", "internal/bytealg.IndexString"], unfollowed := true, recurses := true, named := ["internal/bytealg.MaxLen", "unicode/utf8.first", "unicode/utf8.acceptRanges"], apart := false, laid := [("unicode/utf8.acceptRanges", laid_unicode_utf8_acceptRanges), ("unicode/utf8.first", laid_unicode_utf8_first)], narrowed := true }
def FieldPrintsUptoSaid : Prop := fieldPrintsUptoRow.holds Tryd.pinned (OpenSpec.upto fieldPrintsSpec)

/-- 'icehouselaw02.DateParses', WHERE WHAT IT READS IS OF BULK AT MOST 1048576: true; the input reads as it did. -/
def dateParsesUptoRow : OpenClaim := { program := "ytpmidmdodjgeeaadoor", sum := "ec3226fb1318be62d234c13e8663783366ae842b1a0c7ee7e6e4dc54cf2e7780", func := "icehouse/icehouselaw02.DateParses", spec := "dateParses", inPlace := ["internal/abi.NoEscape", "internal/bytealg.MakeNoZero", "internal/bytealg.CountString", "internal/bytealg.IndexByteString", "internal/bytealg.IndexString"], named := ["unicode/utf8.first", "unicode/utf8.acceptRanges", "internal/bytealg.MaxLen"], apart := false, laid := [("unicode/utf8.acceptRanges", laid_unicode_utf8_acceptRanges), ("unicode/utf8.first", laid_unicode_utf8_first)], narrowed := true }
def DateParsesUptoSaid : Prop := dateParsesUptoRow.holds Tryd.pinned (OpenSpec.upto dateParsesSpec)

/-- 'icehouselaw02.DateFollows', WHERE WHAT IT READS IS OF BULK AT MOST 1048576: true; the input reads as it did. -/
def dateFollowsUptoRow : OpenClaim := { program := "ytpmidmdodjgeeaadoor", sum := "ec3226fb1318be62d234c13e8663783366ae842b1a0c7ee7e6e4dc54cf2e7780", func := "icehouse/icehouselaw02.DateFollows", spec := "dateFollows", inPlace := ["internal/abi.NoEscape", "internal/bytealg.MakeNoZero", "internal/bytealg.CountString", "internal/bytealg.IndexByteString", "internal/bytealg.IndexString"], named := ["unicode/utf8.first", "unicode/utf8.acceptRanges", "internal/bytealg.MaxLen"], apart := false, laid := [("unicode/utf8.acceptRanges", laid_unicode_utf8_acceptRanges), ("unicode/utf8.first", laid_unicode_utf8_first)], narrowed := true }
def DateFollowsUptoSaid : Prop := dateFollowsUptoRow.holds Tryd.pinned (OpenSpec.upto dateFollowsSpec)

/-- 'icehouselaw02.DateBounds', WHERE WHAT IT READS IS OF BULK AT MOST 1048576: true; the input reads as it did. -/
def dateBoundsUptoRow : OpenClaim := { program := "ytpmidmdodjgeeaadoor", sum := "ec3226fb1318be62d234c13e8663783366ae842b1a0c7ee7e6e4dc54cf2e7780", func := "icehouse/icehouselaw02.DateBounds", spec := "dateBounds", inPlace := ["internal/abi.NoEscape", "internal/bytealg.MakeNoZero", "internal/bytealg.CountString", "internal/bytealg.IndexByteString", "internal/bytealg.IndexString"], named := ["unicode/utf8.first", "unicode/utf8.acceptRanges", "internal/bytealg.MaxLen"], apart := false, laid := [("unicode/utf8.acceptRanges", laid_unicode_utf8_acceptRanges), ("unicode/utf8.first", laid_unicode_utf8_first)], narrowed := true }
def DateBoundsUptoSaid : Prop := dateBoundsUptoRow.holds Tryd.pinned (OpenSpec.upto dateBoundsSpec)

/-- 'icehouselaw02.DatePrints', WHERE WHAT IT READS IS OF BULK AT MOST 1048576: true; the input reads as it did. -/
def datePrintsUptoRow : OpenClaim := { program := "ytpmidmdodjgeeaadoor", sum := "ec3226fb1318be62d234c13e8663783366ae842b1a0c7ee7e6e4dc54cf2e7780", func := "icehouse/icehouselaw02.DatePrints", spec := "datePrints", inPlace := ["internal/abi.NoEscape", "internal/bytealg.MakeNoZero", "internal/bytealg.CountString", "internal/bytealg.IndexByteString", "internal/bytealg.IndexString"], named := ["unicode/utf8.first", "unicode/utf8.acceptRanges", "internal/bytealg.MaxLen"], apart := false, laid := [("unicode/utf8.acceptRanges", laid_unicode_utf8_acceptRanges), ("unicode/utf8.first", laid_unicode_utf8_first)], narrowed := true }
def DatePrintsUptoSaid : Prop := datePrintsUptoRow.holds Tryd.pinned (OpenSpec.upto datePrintsSpec)

/-- 'icehouselaw02.DateApart', WHERE WHAT IT READS IS OF BULK AT MOST 1048576: true; the input reads as it did. -/
def dateApartUptoRow : OpenClaim := { program := "ytpmidmdodjgeeaadoor", sum := "ec3226fb1318be62d234c13e8663783366ae842b1a0c7ee7e6e4dc54cf2e7780", func := "icehouse/icehouselaw02.DateApart", spec := "dateApart", inPlace := ["internal/abi.NoEscape", "internal/bytealg.MakeNoZero", "internal/bytealg.CountString", "internal/bytealg.IndexByteString", "internal/bytealg.IndexString"], named := ["unicode/utf8.first", "unicode/utf8.acceptRanges", "internal/bytealg.MaxLen"], apart := false, laid := [("unicode/utf8.acceptRanges", laid_unicode_utf8_acceptRanges), ("unicode/utf8.first", laid_unicode_utf8_first)], narrowed := true }
def DateApartUptoSaid : Prop := dateApartUptoRow.holds Tryd.pinned (OpenSpec.upto dateApartSpec)

end Rows
end Go.Proofs.YtpmidmdodjgeeaaDoor
