/-
  NARROWER THAN 'FOR EVERY INPUT', by the rows' own cells (each row's printed sentence says how): EntryUnpacks: laid · EntrySames: laid · AccessPrints: laid · AccessParses: laid · AccessBounds: laid · EntryPacks: laid · TargetParses: laid · TargetResolves: laid · TargetOwn: laid · TargetOf: laid · TargetBack: laid · TargetDots: laid.
  DERIVED. THE GIVEN ROWS OF THIS SEAT. 12 by the template 'for every input the law returns true; each argument reads behind the call as it read before'; 0 by the template 'total and deterministic' (their statements: YtaddefjkjlkjnaaDoorTotals.lean).
  GIVEN WITH THE SEED: the statements are not yours to turn. If you find one false, say at which input.
  Laid BY PROGRAM, IN A SANDBOX (cutbox-rows.mjs): the forced cells as the released guide's own fill.sh prints them over the translation a34b994a5efa19c6… (all of the seat's roots in one cut). By AI agents, Wed Nov 11 2026. No macro, syntax, notation, axiom, sorry.
-/
import Derived.Test.YtaddefjkjlkjnaaDoorChecked
import GoSem.PinnedTables
import GoSem.Claim
import GoSem.ClaimJoined
import GoSem.ClaimMapViews
import Derived.JoinedTies
import Derived.KernelRfl
namespace Go.Proofs.YtaddefjkjlkjnaaDoor
/- THE CELL 'sum', in the pinned program and in every row, IS THE sha256 OF THE DUMP (.gsa) THAT YtaddefjkjlkjnaaDoorProg.lean LOADS. Nothing in Lean hashes anything: it is a label: what it is worth is what the hold of that sum in a sandbox is worth. -/
noncomputable def Tryd.pinned : Pinned := { name := "ytaddefjkjlkjnaadoor", sum := "a34b994a5efa19c6e7db08916d264af15f1eeb4e413ac202aeb2ba5139ba5605", checked := Tryd.checked }
namespace Rows
def none {H : Type} : Left H := { results := [], args := [] }

/- WHAT THE LISTED PACKAGE-LEVEL VARIABLES READ AS WHEN THE CALL BEGINS. Each datum BY PROGRAM (the guide's laid-datum.mjs) off the statement by which the dump's own 'gosem.cut.vars' lays the variable. In a bare row this is a premise. The card (YtaddefjkjlkjnaaDoorCards.lean) ties it to the program's text. -/
def laid_unicode_utf8_acceptRanges {H : Type} : DataW H := .agg [.agg [.lit (.int .u8 128), .lit (.int .u8 191)], .agg [.lit (.int .u8 160), .lit (.int .u8 191)], .agg [.lit (.int .u8 128), .lit (.int .u8 159)], .agg [.lit (.int .u8 144), .lit (.int .u8 191)], .agg [.lit (.int .u8 128), .lit (.int .u8 143)], .agg [.lit (.int .u8 0), .lit (.int .u8 0)], .agg [.lit (.int .u8 0), .lit (.int .u8 0)], .agg [.lit (.int .u8 0), .lit (.int .u8 0)], .agg [.lit (.int .u8 0), .lit (.int .u8 0)], .agg [.lit (.int .u8 0), .lit (.int .u8 0)], .agg [.lit (.int .u8 0), .lit (.int .u8 0)], .agg [.lit (.int .u8 0), .lit (.int .u8 0)], .agg [.lit (.int .u8 0), .lit (.int .u8 0)], .agg [.lit (.int .u8 0), .lit (.int .u8 0)], .agg [.lit (.int .u8 0), .lit (.int .u8 0)], .agg [.lit (.int .u8 0), .lit (.int .u8 0)]]
/-- One of Go's own tables, pinned by name: the form's constant. -/
def laid_unicode_utf8_first : DataW Unit := Go.Pinned.utf8First

/-- 'icehouselaw19.EntryUnpacks': WHATEVER THE INPUT: true; the input reads as it did. -/
def entryUnpacksSpec : ChangeSpec := { name := "entryUnpacks", fn := fun _ => fun
  | [d] => { results := [.lit (.bool true)], args := [d] }
  | _ => none }
def entryUnpacksRow : OpenClaim := { program := "ytaddefjkjlkjnaadoor", sum := "a34b994a5efa19c6e7db08916d264af15f1eeb4e413ac202aeb2ba5139ba5605", func := "icehouse/icehouselaw19.EntryUnpacks", spec := "entryUnpacks", inPlace := ["internal/bytealg.IndexByteString", "internal/bytealg.IndexString"], unfollowed := true, recurses := true, named := ["internal/bytealg.MaxLen", "unicode/utf8.first", "unicode/utf8.acceptRanges"], apart := false, laid := [("unicode/utf8.acceptRanges", laid_unicode_utf8_acceptRanges), ("unicode/utf8.first", laid_unicode_utf8_first)] }
def EntryUnpacksSaid : Prop := entryUnpacksRow.holds Tryd.pinned (OpenSpec.ofChange entryUnpacksSpec)

/-- ITS FALSE NEIGHBOUR: 'it returns false'. Refute it at one input. -/
def entryUnpacksWrong : ChangeSpec := { name := "entryUnpacks", fn := fun _ => fun
  | [d] => { results := [.lit (.bool false)], args := [d] }
  | _ => none }
def EntryUnpacksWrongFalsely : Prop := entryUnpacksRow.holds Tryd.pinned (OpenSpec.ofChange entryUnpacksWrong)

/-- 'icehouselaw19.EntrySames': WHATEVER THE INPUT: true; the input reads as it did. -/
def entrySamesSpec : ChangeSpec := { name := "entrySames", fn := fun _ => fun
  | [d1, d2] => { results := [.lit (.bool true)], args := [d1, d2] }
  | _ => none }
def entrySamesRow : OpenClaim := { program := "ytaddefjkjlkjnaadoor", sum := "a34b994a5efa19c6e7db08916d264af15f1eeb4e413ac202aeb2ba5139ba5605", func := "icehouse/icehouselaw19.EntrySames", spec := "entrySames", inPlace := ["internal/bytealg.IndexByteString", "internal/bytealg.IndexString"], unfollowed := true, recurses := true, named := ["internal/bytealg.MaxLen", "unicode/utf8.first", "unicode/utf8.acceptRanges"], apart := false, laid := [("unicode/utf8.acceptRanges", laid_unicode_utf8_acceptRanges), ("unicode/utf8.first", laid_unicode_utf8_first)] }
def EntrySamesSaid : Prop := entrySamesRow.holds Tryd.pinned (OpenSpec.ofChange entrySamesSpec)

/-- ITS FALSE NEIGHBOUR: 'it returns false'. Refute it at one input. -/
def entrySamesWrong : ChangeSpec := { name := "entrySames", fn := fun _ => fun
  | [d1, d2] => { results := [.lit (.bool false)], args := [d1, d2] }
  | _ => none }
def EntrySamesWrongFalsely : Prop := entrySamesRow.holds Tryd.pinned (OpenSpec.ofChange entrySamesWrong)

/-- 'icehouselaw28.AccessPrints': WHATEVER THE INPUT: true; the input reads as it did. -/
def accessPrintsSpec : ChangeSpec := { name := "accessPrints", fn := fun _ => fun
  | [d] => { results := [.lit (.bool true)], args := [d] }
  | _ => none }
def accessPrintsRow : OpenClaim := { program := "ytaddefjkjlkjnaadoor", sum := "a34b994a5efa19c6e7db08916d264af15f1eeb4e413ac202aeb2ba5139ba5605", func := "icehouse/icehouselaw28.AccessPrints", spec := "accessPrints", inPlace := ["internal/bytealg.IndexByteString", "internal/abi.NoEscape", "internal/bytealg.MakeNoZero", "internal/bytealg.IndexString", "internal/bytealg.CountString"], unfollowed := true, recurses := true, named := ["internal/bytealg.MaxLen", "unicode/utf8.first", "unicode/utf8.acceptRanges"], apart := false, laid := [("unicode/utf8.acceptRanges", laid_unicode_utf8_acceptRanges), ("unicode/utf8.first", laid_unicode_utf8_first)] }
def AccessPrintsSaid : Prop := accessPrintsRow.holds Tryd.pinned (OpenSpec.ofChange accessPrintsSpec)

/-- ITS FALSE NEIGHBOUR: 'it returns false'. Refute it at one input. -/
def accessPrintsWrong : ChangeSpec := { name := "accessPrints", fn := fun _ => fun
  | [d] => { results := [.lit (.bool false)], args := [d] }
  | _ => none }
def AccessPrintsWrongFalsely : Prop := accessPrintsRow.holds Tryd.pinned (OpenSpec.ofChange accessPrintsWrong)

/-- 'icehouselaw28.AccessParses': WHATEVER THE INPUT: true; the input reads as it did. -/
def accessParsesSpec : ChangeSpec := { name := "accessParses", fn := fun _ => fun
  | [d] => { results := [.lit (.bool true)], args := [d] }
  | _ => none }
def accessParsesRow : OpenClaim := { program := "ytaddefjkjlkjnaadoor", sum := "a34b994a5efa19c6e7db08916d264af15f1eeb4e413ac202aeb2ba5139ba5605", func := "icehouse/icehouselaw28.AccessParses", spec := "accessParses", inPlace := ["internal/bytealg.IndexByteString", "internal/abi.NoEscape", "internal/bytealg.MakeNoZero", "internal/bytealg.IndexString", "internal/bytealg.CountString"], unfollowed := true, recurses := true, named := ["internal/bytealg.MaxLen", "unicode/utf8.first", "unicode/utf8.acceptRanges"], apart := false, laid := [("unicode/utf8.acceptRanges", laid_unicode_utf8_acceptRanges), ("unicode/utf8.first", laid_unicode_utf8_first)] }
def AccessParsesSaid : Prop := accessParsesRow.holds Tryd.pinned (OpenSpec.ofChange accessParsesSpec)

/-- ITS FALSE NEIGHBOUR: 'it returns false'. Refute it at one input. -/
def accessParsesWrong : ChangeSpec := { name := "accessParses", fn := fun _ => fun
  | [d] => { results := [.lit (.bool false)], args := [d] }
  | _ => none }
def AccessParsesWrongFalsely : Prop := accessParsesRow.holds Tryd.pinned (OpenSpec.ofChange accessParsesWrong)

/-- 'icehouselaw28.AccessBounds': WHATEVER THE INPUT: true; the input reads as it did. -/
def accessBoundsSpec : ChangeSpec := { name := "accessBounds", fn := fun _ => fun
  | [d] => { results := [.lit (.bool true)], args := [d] }
  | _ => none }
def accessBoundsRow : OpenClaim := { program := "ytaddefjkjlkjnaadoor", sum := "a34b994a5efa19c6e7db08916d264af15f1eeb4e413ac202aeb2ba5139ba5605", func := "icehouse/icehouselaw28.AccessBounds", spec := "accessBounds", inPlace := ["internal/bytealg.IndexByteString", "internal/abi.NoEscape", "internal/bytealg.MakeNoZero", "internal/bytealg.IndexString", "internal/bytealg.CountString"], unfollowed := true, recurses := true, named := ["internal/bytealg.MaxLen", "unicode/utf8.first", "unicode/utf8.acceptRanges"], apart := false, laid := [("unicode/utf8.acceptRanges", laid_unicode_utf8_acceptRanges), ("unicode/utf8.first", laid_unicode_utf8_first)] }
def AccessBoundsSaid : Prop := accessBoundsRow.holds Tryd.pinned (OpenSpec.ofChange accessBoundsSpec)

/-- ITS FALSE NEIGHBOUR: 'it returns false'. Refute it at one input. -/
def accessBoundsWrong : ChangeSpec := { name := "accessBounds", fn := fun _ => fun
  | [d] => { results := [.lit (.bool false)], args := [d] }
  | _ => none }
def AccessBoundsWrongFalsely : Prop := accessBoundsRow.holds Tryd.pinned (OpenSpec.ofChange accessBoundsWrong)

/-- 'icehouselaw19.EntryPacks': WHATEVER THE INPUT: true; the input reads as it did. -/
def entryPacksSpec : ChangeSpec := { name := "entryPacks", fn := fun _ => fun
  | [d] => { results := [.lit (.bool true)], args := [d] }
  | _ => none }
def entryPacksRow : OpenClaim := { program := "ytaddefjkjlkjnaadoor", sum := "a34b994a5efa19c6e7db08916d264af15f1eeb4e413ac202aeb2ba5139ba5605", func := "icehouse/icehouselaw19.EntryPacks", spec := "entryPacks", inPlace := ["internal/bytealg.IndexByteString", "internal/bytealg.IndexString"], unfollowed := true, recurses := true, named := ["internal/bytealg.MaxLen", "unicode/utf8.first", "unicode/utf8.acceptRanges"], apart := false, laid := [("unicode/utf8.acceptRanges", laid_unicode_utf8_acceptRanges), ("unicode/utf8.first", laid_unicode_utf8_first)] }
def EntryPacksSaid : Prop := entryPacksRow.holds Tryd.pinned (OpenSpec.ofChange entryPacksSpec)

/-- ITS FALSE NEIGHBOUR: 'it returns false'. Refute it at one input. -/
def entryPacksWrong : ChangeSpec := { name := "entryPacks", fn := fun _ => fun
  | [d] => { results := [.lit (.bool false)], args := [d] }
  | _ => none }
def EntryPacksWrongFalsely : Prop := entryPacksRow.holds Tryd.pinned (OpenSpec.ofChange entryPacksWrong)

/-- 'icehouselaw05.TargetParses': WHATEVER THE INPUT: true; the input reads as it did. -/
def targetParsesSpec : ChangeSpec := { name := "targetParses", fn := fun _ => fun
  | [d] => { results := [.lit (.bool true)], args := [d] }
  | _ => none }
def targetParsesRow : OpenClaim := { program := "ytaddefjkjlkjnaadoor", sum := "a34b994a5efa19c6e7db08916d264af15f1eeb4e413ac202aeb2ba5139ba5605", func := "icehouse/icehouselaw05.TargetParses", spec := "targetParses", inPlace := ["internal/bytealg.IndexByteString", "internal/bytealg.IndexString", "internal/abi.NoEscape", "internal/bytealg.CountString", "internal/bytealg.MakeNoZero"], named := ["internal/bytealg.MaxLen", "unicode/utf8.first", "unicode/utf8.acceptRanges"], apart := false, laid := [("unicode/utf8.acceptRanges", laid_unicode_utf8_acceptRanges), ("unicode/utf8.first", laid_unicode_utf8_first)] }
def TargetParsesSaid : Prop := targetParsesRow.holds Tryd.pinned (OpenSpec.ofChange targetParsesSpec)

/-- ITS FALSE NEIGHBOUR: 'it returns false'. Refute it at one input. -/
def targetParsesWrong : ChangeSpec := { name := "targetParses", fn := fun _ => fun
  | [d] => { results := [.lit (.bool false)], args := [d] }
  | _ => none }
def TargetParsesWrongFalsely : Prop := targetParsesRow.holds Tryd.pinned (OpenSpec.ofChange targetParsesWrong)

/-- 'icehouselaw05.TargetResolves': WHATEVER THE INPUT: true; the input reads as it did. -/
def targetResolvesSpec : ChangeSpec := { name := "targetResolves", fn := fun _ => fun
  | [d1, d2] => { results := [.lit (.bool true)], args := [d1, d2] }
  | _ => none }
def targetResolvesRow : OpenClaim := { program := "ytaddefjkjlkjnaadoor", sum := "a34b994a5efa19c6e7db08916d264af15f1eeb4e413ac202aeb2ba5139ba5605", func := "icehouse/icehouselaw05.TargetResolves", spec := "targetResolves", inPlace := ["internal/bytealg.IndexByteString", "internal/bytealg.IndexString", "internal/abi.NoEscape", "internal/bytealg.CountString", "internal/bytealg.MakeNoZero"], named := ["internal/bytealg.MaxLen", "unicode/utf8.first", "unicode/utf8.acceptRanges"], apart := false, laid := [("unicode/utf8.acceptRanges", laid_unicode_utf8_acceptRanges), ("unicode/utf8.first", laid_unicode_utf8_first)] }
def TargetResolvesSaid : Prop := targetResolvesRow.holds Tryd.pinned (OpenSpec.ofChange targetResolvesSpec)

/-- ITS FALSE NEIGHBOUR: 'it returns false'. Refute it at one input. -/
def targetResolvesWrong : ChangeSpec := { name := "targetResolves", fn := fun _ => fun
  | [d1, d2] => { results := [.lit (.bool false)], args := [d1, d2] }
  | _ => none }
def TargetResolvesWrongFalsely : Prop := targetResolvesRow.holds Tryd.pinned (OpenSpec.ofChange targetResolvesWrong)

/-- 'icehouselaw05.TargetOwn': WHATEVER THE INPUT: true; the input reads as it did. -/
def targetOwnSpec : ChangeSpec := { name := "targetOwn", fn := fun _ => fun
  | [d1, d2] => { results := [.lit (.bool true)], args := [d1, d2] }
  | _ => none }
def targetOwnRow : OpenClaim := { program := "ytaddefjkjlkjnaadoor", sum := "a34b994a5efa19c6e7db08916d264af15f1eeb4e413ac202aeb2ba5139ba5605", func := "icehouse/icehouselaw05.TargetOwn", spec := "targetOwn", inPlace := ["internal/bytealg.IndexByteString", "internal/bytealg.IndexString", "internal/abi.NoEscape", "internal/bytealg.CountString", "internal/bytealg.MakeNoZero"], named := ["internal/bytealg.MaxLen", "unicode/utf8.first", "unicode/utf8.acceptRanges"], apart := false, laid := [("unicode/utf8.acceptRanges", laid_unicode_utf8_acceptRanges), ("unicode/utf8.first", laid_unicode_utf8_first)] }
def TargetOwnSaid : Prop := targetOwnRow.holds Tryd.pinned (OpenSpec.ofChange targetOwnSpec)

/-- ITS FALSE NEIGHBOUR: 'it returns false'. Refute it at one input. -/
def targetOwnWrong : ChangeSpec := { name := "targetOwn", fn := fun _ => fun
  | [d1, d2] => { results := [.lit (.bool false)], args := [d1, d2] }
  | _ => none }
def TargetOwnWrongFalsely : Prop := targetOwnRow.holds Tryd.pinned (OpenSpec.ofChange targetOwnWrong)

/-- 'icehouselaw05.TargetOf': WHATEVER THE INPUT: true; the input reads as it did. -/
def targetOfSpec : ChangeSpec := { name := "targetOf", fn := fun _ => fun
  | [d1, d2, d3] => { results := [.lit (.bool true)], args := [d1, d2, d3] }
  | _ => none }
def targetOfRow : OpenClaim := { program := "ytaddefjkjlkjnaadoor", sum := "a34b994a5efa19c6e7db08916d264af15f1eeb4e413ac202aeb2ba5139ba5605", func := "icehouse/icehouselaw05.TargetOf", spec := "targetOf", inPlace := ["internal/bytealg.IndexByteString", "internal/bytealg.IndexString", "internal/abi.NoEscape", "internal/bytealg.CountString", "internal/bytealg.MakeNoZero"], named := ["internal/bytealg.MaxLen", "unicode/utf8.first", "unicode/utf8.acceptRanges"], apart := false, laid := [("unicode/utf8.acceptRanges", laid_unicode_utf8_acceptRanges), ("unicode/utf8.first", laid_unicode_utf8_first)] }
def TargetOfSaid : Prop := targetOfRow.holds Tryd.pinned (OpenSpec.ofChange targetOfSpec)

/-- ITS FALSE NEIGHBOUR: 'it returns false'. Refute it at one input. -/
def targetOfWrong : ChangeSpec := { name := "targetOf", fn := fun _ => fun
  | [d1, d2, d3] => { results := [.lit (.bool false)], args := [d1, d2, d3] }
  | _ => none }
def TargetOfWrongFalsely : Prop := targetOfRow.holds Tryd.pinned (OpenSpec.ofChange targetOfWrong)

/-- 'icehouselaw05.TargetBack': WHATEVER THE INPUT: true; the input reads as it did. -/
def targetBackSpec : ChangeSpec := { name := "targetBack", fn := fun _ => fun
  | [d1, d2] => { results := [.lit (.bool true)], args := [d1, d2] }
  | _ => none }
def targetBackRow : OpenClaim := { program := "ytaddefjkjlkjnaadoor", sum := "a34b994a5efa19c6e7db08916d264af15f1eeb4e413ac202aeb2ba5139ba5605", func := "icehouse/icehouselaw05.TargetBack", spec := "targetBack", inPlace := ["internal/bytealg.IndexByteString", "internal/bytealg.IndexString", "internal/abi.NoEscape", "internal/bytealg.CountString", "internal/bytealg.MakeNoZero"], named := ["internal/bytealg.MaxLen", "unicode/utf8.first", "unicode/utf8.acceptRanges"], apart := false, laid := [("unicode/utf8.acceptRanges", laid_unicode_utf8_acceptRanges), ("unicode/utf8.first", laid_unicode_utf8_first)] }
def TargetBackSaid : Prop := targetBackRow.holds Tryd.pinned (OpenSpec.ofChange targetBackSpec)

/-- ITS FALSE NEIGHBOUR: 'it returns false'. Refute it at one input. -/
def targetBackWrong : ChangeSpec := { name := "targetBack", fn := fun _ => fun
  | [d1, d2] => { results := [.lit (.bool false)], args := [d1, d2] }
  | _ => none }
def TargetBackWrongFalsely : Prop := targetBackRow.holds Tryd.pinned (OpenSpec.ofChange targetBackWrong)

/-- 'icehouselaw05.TargetDots': WHATEVER THE INPUT: true; the input reads as it did. -/
def targetDotsSpec : ChangeSpec := { name := "targetDots", fn := fun _ => fun
  | [d] => { results := [.lit (.bool true)], args := [d] }
  | _ => none }
def targetDotsRow : OpenClaim := { program := "ytaddefjkjlkjnaadoor", sum := "a34b994a5efa19c6e7db08916d264af15f1eeb4e413ac202aeb2ba5139ba5605", func := "icehouse/icehouselaw05.TargetDots", spec := "targetDots", inPlace := ["internal/bytealg.IndexByteString", "internal/bytealg.IndexString", "internal/abi.NoEscape", "internal/bytealg.CountString", "internal/bytealg.MakeNoZero"], named := ["internal/bytealg.MaxLen", "unicode/utf8.first", "unicode/utf8.acceptRanges"], apart := false, laid := [("unicode/utf8.acceptRanges", laid_unicode_utf8_acceptRanges), ("unicode/utf8.first", laid_unicode_utf8_first)] }
def TargetDotsSaid : Prop := targetDotsRow.holds Tryd.pinned (OpenSpec.ofChange targetDotsSpec)

/-- ITS FALSE NEIGHBOUR: 'it returns false'. Refute it at one input. -/
def targetDotsWrong : ChangeSpec := { name := "targetDots", fn := fun _ => fun
  | [d] => { results := [.lit (.bool false)], args := [d] }
  | _ => none }
def TargetDotsWrongFalsely : Prop := targetDotsRow.holds Tryd.pinned (OpenSpec.ofChange targetDotsWrong)

/- THE SECOND FORM. 'bulk': how many values and letters a reading holds, each counted each time it is reached (what is shared counts as often as it is met; a slice's spare places count too). A statement '..UptoSaid' is the law's where the arguments, and the package variables that the reading takes, are together of bulk at most 1048576: NARROWER than '..Said'. Prove '..Said' where nothing that the law and all that it calls make is longer than what came in: it says more and counts as full. Else prove '..UptoSaid'. A law counts once. -/
mutual
def uptoBulk {H : Type} : DataW H → Nat
  | .lit (.string bytes) => bytes.length + 1
  | .lit _ => 1
  | .nil => 1
  | .ptr d => uptoBulk d + 1
  | .slice elems spare => uptoBulkAll elems + uptoBulkAll spare + 1
  | .agg parts => uptoBulkAll parts + 1
  | .iface _ d => uptoBulk d + 1
  | .map entries => uptoBulkEntries entries + 1
  | .held _ => 1
def uptoBulkAll {H : Type} : List (DataW H) → Nat
  | [] => 0
  | d :: r => uptoBulk d + uptoBulkAll r
def uptoBulkEntries {H : Type} : List (Lit × DataW H) → Nat
  | [] => 0
  | x :: r => uptoBulkEntry x + uptoBulkEntries r
def uptoBulkEntry {H : Type} : Lit × DataW H → Nat
  | (.string bytes, d) => bytes.length + uptoBulk d + 1
  | (_, d) => uptoBulk d + 1
 end
def uptoSmall : (H : Type) → List (DataW H) → Bool := fun _ ds => decide (uptoBulkAll ds ≤ 1048576)
def OpenSpec.upto (s : _root_.Go.ChangeSpec) : _root_.Go.OpenSpec := { _root_.Go.OpenSpec.ofChange s with cond := some uptoSmall }

/-- 'icehouselaw19.EntryUnpacks', WHERE WHAT IT READS IS OF BULK AT MOST 1048576: true; the input reads as it did. -/
def entryUnpacksUptoRow : OpenClaim := { program := "ytaddefjkjlkjnaadoor", sum := "a34b994a5efa19c6e7db08916d264af15f1eeb4e413ac202aeb2ba5139ba5605", func := "icehouse/icehouselaw19.EntryUnpacks", spec := "entryUnpacks", inPlace := ["internal/bytealg.IndexByteString", "internal/bytealg.IndexString"], unfollowed := true, recurses := true, named := ["internal/bytealg.MaxLen", "unicode/utf8.first", "unicode/utf8.acceptRanges"], apart := false, laid := [("unicode/utf8.acceptRanges", laid_unicode_utf8_acceptRanges), ("unicode/utf8.first", laid_unicode_utf8_first)], narrowed := true }
def EntryUnpacksUptoSaid : Prop := entryUnpacksUptoRow.holds Tryd.pinned (OpenSpec.upto entryUnpacksSpec)

/-- 'icehouselaw19.EntrySames', WHERE WHAT IT READS IS OF BULK AT MOST 1048576: true; the input reads as it did. -/
def entrySamesUptoRow : OpenClaim := { program := "ytaddefjkjlkjnaadoor", sum := "a34b994a5efa19c6e7db08916d264af15f1eeb4e413ac202aeb2ba5139ba5605", func := "icehouse/icehouselaw19.EntrySames", spec := "entrySames", inPlace := ["internal/bytealg.IndexByteString", "internal/bytealg.IndexString"], unfollowed := true, recurses := true, named := ["internal/bytealg.MaxLen", "unicode/utf8.first", "unicode/utf8.acceptRanges"], apart := false, laid := [("unicode/utf8.acceptRanges", laid_unicode_utf8_acceptRanges), ("unicode/utf8.first", laid_unicode_utf8_first)], narrowed := true }
def EntrySamesUptoSaid : Prop := entrySamesUptoRow.holds Tryd.pinned (OpenSpec.upto entrySamesSpec)

/-- 'icehouselaw28.AccessPrints', WHERE WHAT IT READS IS OF BULK AT MOST 1048576: true; the input reads as it did. -/
def accessPrintsUptoRow : OpenClaim := { program := "ytaddefjkjlkjnaadoor", sum := "a34b994a5efa19c6e7db08916d264af15f1eeb4e413ac202aeb2ba5139ba5605", func := "icehouse/icehouselaw28.AccessPrints", spec := "accessPrints", inPlace := ["internal/bytealg.IndexByteString", "internal/abi.NoEscape", "internal/bytealg.MakeNoZero", "internal/bytealg.IndexString", "internal/bytealg.CountString"], unfollowed := true, recurses := true, named := ["internal/bytealg.MaxLen", "unicode/utf8.first", "unicode/utf8.acceptRanges"], apart := false, laid := [("unicode/utf8.acceptRanges", laid_unicode_utf8_acceptRanges), ("unicode/utf8.first", laid_unicode_utf8_first)], narrowed := true }
def AccessPrintsUptoSaid : Prop := accessPrintsUptoRow.holds Tryd.pinned (OpenSpec.upto accessPrintsSpec)

/-- 'icehouselaw28.AccessParses', WHERE WHAT IT READS IS OF BULK AT MOST 1048576: true; the input reads as it did. -/
def accessParsesUptoRow : OpenClaim := { program := "ytaddefjkjlkjnaadoor", sum := "a34b994a5efa19c6e7db08916d264af15f1eeb4e413ac202aeb2ba5139ba5605", func := "icehouse/icehouselaw28.AccessParses", spec := "accessParses", inPlace := ["internal/bytealg.IndexByteString", "internal/abi.NoEscape", "internal/bytealg.MakeNoZero", "internal/bytealg.IndexString", "internal/bytealg.CountString"], unfollowed := true, recurses := true, named := ["internal/bytealg.MaxLen", "unicode/utf8.first", "unicode/utf8.acceptRanges"], apart := false, laid := [("unicode/utf8.acceptRanges", laid_unicode_utf8_acceptRanges), ("unicode/utf8.first", laid_unicode_utf8_first)], narrowed := true }
def AccessParsesUptoSaid : Prop := accessParsesUptoRow.holds Tryd.pinned (OpenSpec.upto accessParsesSpec)

/-- 'icehouselaw28.AccessBounds', WHERE WHAT IT READS IS OF BULK AT MOST 1048576: true; the input reads as it did. -/
def accessBoundsUptoRow : OpenClaim := { program := "ytaddefjkjlkjnaadoor", sum := "a34b994a5efa19c6e7db08916d264af15f1eeb4e413ac202aeb2ba5139ba5605", func := "icehouse/icehouselaw28.AccessBounds", spec := "accessBounds", inPlace := ["internal/bytealg.IndexByteString", "internal/abi.NoEscape", "internal/bytealg.MakeNoZero", "internal/bytealg.IndexString", "internal/bytealg.CountString"], unfollowed := true, recurses := true, named := ["internal/bytealg.MaxLen", "unicode/utf8.first", "unicode/utf8.acceptRanges"], apart := false, laid := [("unicode/utf8.acceptRanges", laid_unicode_utf8_acceptRanges), ("unicode/utf8.first", laid_unicode_utf8_first)], narrowed := true }
def AccessBoundsUptoSaid : Prop := accessBoundsUptoRow.holds Tryd.pinned (OpenSpec.upto accessBoundsSpec)

/-- 'icehouselaw19.EntryPacks', WHERE WHAT IT READS IS OF BULK AT MOST 1048576: true; the input reads as it did. -/
def entryPacksUptoRow : OpenClaim := { program := "ytaddefjkjlkjnaadoor", sum := "a34b994a5efa19c6e7db08916d264af15f1eeb4e413ac202aeb2ba5139ba5605", func := "icehouse/icehouselaw19.EntryPacks", spec := "entryPacks", inPlace := ["internal/bytealg.IndexByteString", "internal/bytealg.IndexString"], unfollowed := true, recurses := true, named := ["internal/bytealg.MaxLen", "unicode/utf8.first", "unicode/utf8.acceptRanges"], apart := false, laid := [("unicode/utf8.acceptRanges", laid_unicode_utf8_acceptRanges), ("unicode/utf8.first", laid_unicode_utf8_first)], narrowed := true }
def EntryPacksUptoSaid : Prop := entryPacksUptoRow.holds Tryd.pinned (OpenSpec.upto entryPacksSpec)

/-- 'icehouselaw05.TargetParses', WHERE WHAT IT READS IS OF BULK AT MOST 1048576: true; the input reads as it did. -/
def targetParsesUptoRow : OpenClaim := { program := "ytaddefjkjlkjnaadoor", sum := "a34b994a5efa19c6e7db08916d264af15f1eeb4e413ac202aeb2ba5139ba5605", func := "icehouse/icehouselaw05.TargetParses", spec := "targetParses", inPlace := ["internal/bytealg.IndexByteString", "internal/bytealg.IndexString", "internal/abi.NoEscape", "internal/bytealg.CountString", "internal/bytealg.MakeNoZero"], named := ["internal/bytealg.MaxLen", "unicode/utf8.first", "unicode/utf8.acceptRanges"], apart := false, laid := [("unicode/utf8.acceptRanges", laid_unicode_utf8_acceptRanges), ("unicode/utf8.first", laid_unicode_utf8_first)], narrowed := true }
def TargetParsesUptoSaid : Prop := targetParsesUptoRow.holds Tryd.pinned (OpenSpec.upto targetParsesSpec)

/-- 'icehouselaw05.TargetResolves', WHERE WHAT IT READS IS OF BULK AT MOST 1048576: true; the input reads as it did. -/
def targetResolvesUptoRow : OpenClaim := { program := "ytaddefjkjlkjnaadoor", sum := "a34b994a5efa19c6e7db08916d264af15f1eeb4e413ac202aeb2ba5139ba5605", func := "icehouse/icehouselaw05.TargetResolves", spec := "targetResolves", inPlace := ["internal/bytealg.IndexByteString", "internal/bytealg.IndexString", "internal/abi.NoEscape", "internal/bytealg.CountString", "internal/bytealg.MakeNoZero"], named := ["internal/bytealg.MaxLen", "unicode/utf8.first", "unicode/utf8.acceptRanges"], apart := false, laid := [("unicode/utf8.acceptRanges", laid_unicode_utf8_acceptRanges), ("unicode/utf8.first", laid_unicode_utf8_first)], narrowed := true }
def TargetResolvesUptoSaid : Prop := targetResolvesUptoRow.holds Tryd.pinned (OpenSpec.upto targetResolvesSpec)

/-- 'icehouselaw05.TargetOwn', WHERE WHAT IT READS IS OF BULK AT MOST 1048576: true; the input reads as it did. -/
def targetOwnUptoRow : OpenClaim := { program := "ytaddefjkjlkjnaadoor", sum := "a34b994a5efa19c6e7db08916d264af15f1eeb4e413ac202aeb2ba5139ba5605", func := "icehouse/icehouselaw05.TargetOwn", spec := "targetOwn", inPlace := ["internal/bytealg.IndexByteString", "internal/bytealg.IndexString", "internal/abi.NoEscape", "internal/bytealg.CountString", "internal/bytealg.MakeNoZero"], named := ["internal/bytealg.MaxLen", "unicode/utf8.first", "unicode/utf8.acceptRanges"], apart := false, laid := [("unicode/utf8.acceptRanges", laid_unicode_utf8_acceptRanges), ("unicode/utf8.first", laid_unicode_utf8_first)], narrowed := true }
def TargetOwnUptoSaid : Prop := targetOwnUptoRow.holds Tryd.pinned (OpenSpec.upto targetOwnSpec)

/-- 'icehouselaw05.TargetOf', WHERE WHAT IT READS IS OF BULK AT MOST 1048576: true; the input reads as it did. -/
def targetOfUptoRow : OpenClaim := { program := "ytaddefjkjlkjnaadoor", sum := "a34b994a5efa19c6e7db08916d264af15f1eeb4e413ac202aeb2ba5139ba5605", func := "icehouse/icehouselaw05.TargetOf", spec := "targetOf", inPlace := ["internal/bytealg.IndexByteString", "internal/bytealg.IndexString", "internal/abi.NoEscape", "internal/bytealg.CountString", "internal/bytealg.MakeNoZero"], named := ["internal/bytealg.MaxLen", "unicode/utf8.first", "unicode/utf8.acceptRanges"], apart := false, laid := [("unicode/utf8.acceptRanges", laid_unicode_utf8_acceptRanges), ("unicode/utf8.first", laid_unicode_utf8_first)], narrowed := true }
def TargetOfUptoSaid : Prop := targetOfUptoRow.holds Tryd.pinned (OpenSpec.upto targetOfSpec)

/-- 'icehouselaw05.TargetBack', WHERE WHAT IT READS IS OF BULK AT MOST 1048576: true; the input reads as it did. -/
def targetBackUptoRow : OpenClaim := { program := "ytaddefjkjlkjnaadoor", sum := "a34b994a5efa19c6e7db08916d264af15f1eeb4e413ac202aeb2ba5139ba5605", func := "icehouse/icehouselaw05.TargetBack", spec := "targetBack", inPlace := ["internal/bytealg.IndexByteString", "internal/bytealg.IndexString", "internal/abi.NoEscape", "internal/bytealg.CountString", "internal/bytealg.MakeNoZero"], named := ["internal/bytealg.MaxLen", "unicode/utf8.first", "unicode/utf8.acceptRanges"], apart := false, laid := [("unicode/utf8.acceptRanges", laid_unicode_utf8_acceptRanges), ("unicode/utf8.first", laid_unicode_utf8_first)], narrowed := true }
def TargetBackUptoSaid : Prop := targetBackUptoRow.holds Tryd.pinned (OpenSpec.upto targetBackSpec)

/-- 'icehouselaw05.TargetDots', WHERE WHAT IT READS IS OF BULK AT MOST 1048576: true; the input reads as it did. -/
def targetDotsUptoRow : OpenClaim := { program := "ytaddefjkjlkjnaadoor", sum := "a34b994a5efa19c6e7db08916d264af15f1eeb4e413ac202aeb2ba5139ba5605", func := "icehouse/icehouselaw05.TargetDots", spec := "targetDots", inPlace := ["internal/bytealg.IndexByteString", "internal/bytealg.IndexString", "internal/abi.NoEscape", "internal/bytealg.CountString", "internal/bytealg.MakeNoZero"], named := ["internal/bytealg.MaxLen", "unicode/utf8.first", "unicode/utf8.acceptRanges"], apart := false, laid := [("unicode/utf8.acceptRanges", laid_unicode_utf8_acceptRanges), ("unicode/utf8.first", laid_unicode_utf8_first)], narrowed := true }
def TargetDotsUptoSaid : Prop := targetDotsUptoRow.holds Tryd.pinned (OpenSpec.upto targetDotsSpec)

end Rows
end Go.Proofs.YtaddefjkjlkjnaaDoor
