/-
  No cell of these rows narrows 'for every input' (looked for: loops, veiled, ifaces, maps, wideKeys, modest, calm, conditions, laid).
  DERIVED. THE GIVEN ROWS OF THIS SEAT. 7 by the template 'for every input the law returns true; each argument reads behind the call as it read before'; 0 by the template 'total and deterministic' (their statements: YtmcioedmjcbfbaaTotals.lean).
  GIVEN WITH THE SEED: the statements are not yours to turn. If you find one false, say at which input.
  Laid BY PROGRAM, IN A SANDBOX (cutbox-rows.mjs): the forced cells as the released guide's own fill.sh prints them over the translation 95230593d2b3bf33… (all of the seat's roots in one cut). By AI agents, Wed Nov 11 2026. No macro, syntax, notation, axiom, sorry.
-/
import Derived.Test.YtmcioedmjcbfbaaChecked
import GoSem.Claim
import GoSem.ClaimJoined
import GoSem.ClaimMapViews
import Derived.JoinedTies
import Derived.KernelRfl
namespace Go.Proofs.Ytmcioedmjcbfbaa
/- THE CELL 'sum', in the pinned program and in every row, IS THE sha256 OF THE DUMP (.gsa) THAT YtmcioedmjcbfbaaProg.lean LOADS. Nothing in Lean hashes anything: it is a label: what it is worth is what the hold of that sum in a sandbox is worth. -/
noncomputable def Try.pinned : Pinned := { name := "ytmcioedmjcbfbaa", sum := "95230593d2b3bf3308144f42985a61180c1e8f74e4955a35f0e1d2f074247309", checked := Try.checked }
namespace Rows
def none {H : Type} : Left H := { results := [], args := [] }

/-- 'icehouselaw19.EntryKeys': WHATEVER THE INPUT: true; the input reads as it did. -/
def entryKeysSpec : ChangeSpec := { name := "entryKeys", fn := fun _ => fun
  | [d1, d2, d3] => { results := [.lit (.bool true)], args := [d1, d2, d3] }
  | _ => none }
def entryKeysRow : OpenClaim := { program := "ytmcioedmjcbfbaa", sum := "95230593d2b3bf3308144f42985a61180c1e8f74e4955a35f0e1d2f074247309", func := "icehouse/icehouselaw19.EntryKeys", spec := "entryKeys", inPlace := ["internal/bytealg.IndexByteString", "internal/bytealg.IndexString"], named := ["internal/bytealg.MaxLen"], apart := false }
def EntryKeysSaid : Prop := entryKeysRow.holds Try.pinned (OpenSpec.ofChange entryKeysSpec)

/-- ITS FALSE NEIGHBOUR: 'it returns false'. Refute it at one input. -/
def entryKeysWrong : ChangeSpec := { name := "entryKeys", fn := fun _ => fun
  | [d1, d2, d3] => { results := [.lit (.bool false)], args := [d1, d2, d3] }
  | _ => none }
def EntryKeysWrongFalsely : Prop := entryKeysRow.holds Try.pinned (OpenSpec.ofChange entryKeysWrong)

/-- 'icehouselaw28.AccessCounts': WHATEVER THE INPUT: true; the input reads as it did. -/
def accessCountsSpec : ChangeSpec := { name := "accessCounts", fn := fun _ => fun
  | [d1, d2, d3] => { results := [.lit (.bool true)], args := [d1, d2, d3] }
  | _ => none }
def accessCountsRow : OpenClaim := { program := "ytmcioedmjcbfbaa", sum := "95230593d2b3bf3308144f42985a61180c1e8f74e4955a35f0e1d2f074247309", func := "icehouse/icehouselaw28.AccessCounts", spec := "accessCounts", inPlace := ["internal/bytealg.IndexByteString", "internal/abi.NoEscape", "internal/bytealg.MakeNoZero"], unfollowed := true, recurses := true, apart := false }
def AccessCountsSaid : Prop := accessCountsRow.holds Try.pinned (OpenSpec.ofChange accessCountsSpec)

/-- ITS FALSE NEIGHBOUR: 'it returns false'. Refute it at one input. -/
def accessCountsWrong : ChangeSpec := { name := "accessCounts", fn := fun _ => fun
  | [d1, d2, d3] => { results := [.lit (.bool false)], args := [d1, d2, d3] }
  | _ => none }
def AccessCountsWrongFalsely : Prop := accessCountsRow.holds Try.pinned (OpenSpec.ofChange accessCountsWrong)

/-- 'icehouselaw27.ScriptParses': WHATEVER THE INPUT: true; the input reads as it did. -/
def scriptParsesSpec : ChangeSpec := { name := "scriptParses", fn := fun _ => fun
  | [d] => { results := [.lit (.bool true)], args := [d] }
  | _ => none }
def scriptParsesRow : OpenClaim := { program := "ytmcioedmjcbfbaa", sum := "95230593d2b3bf3308144f42985a61180c1e8f74e4955a35f0e1d2f074247309", func := "icehouse/icehouselaw27.ScriptParses", spec := "scriptParses", inPlace := ["internal/bytealg.IndexByteString", "internal/bytealg.IndexString"], unfollowed := true, recurses := true, named := ["internal/bytealg.MaxLen"], apart := false }
def ScriptParsesSaid : Prop := scriptParsesRow.holds Try.pinned (OpenSpec.ofChange scriptParsesSpec)

/-- ITS FALSE NEIGHBOUR: 'it returns false'. Refute it at one input. -/
def scriptParsesWrong : ChangeSpec := { name := "scriptParses", fn := fun _ => fun
  | [d] => { results := [.lit (.bool false)], args := [d] }
  | _ => none }
def ScriptParsesWrongFalsely : Prop := scriptParsesRow.holds Try.pinned (OpenSpec.ofChange scriptParsesWrong)

/-- 'icehouselaw27.ScriptQuiet': WHATEVER THE INPUT: true; the input reads as it did. -/
def scriptQuietSpec : ChangeSpec := { name := "scriptQuiet", fn := fun _ => fun
  | [d1, d2] => { results := [.lit (.bool true)], args := [d1, d2] }
  | _ => none }
def scriptQuietRow : OpenClaim := { program := "ytmcioedmjcbfbaa", sum := "95230593d2b3bf3308144f42985a61180c1e8f74e4955a35f0e1d2f074247309", func := "icehouse/icehouselaw27.ScriptQuiet", spec := "scriptQuiet", inPlace := ["internal/bytealg.IndexByteString", "internal/bytealg.IndexString"], unfollowed := true, recurses := true, named := ["internal/bytealg.MaxLen"], apart := false }
def ScriptQuietSaid : Prop := scriptQuietRow.holds Try.pinned (OpenSpec.ofChange scriptQuietSpec)

/-- ITS FALSE NEIGHBOUR: 'it returns false'. Refute it at one input. -/
def scriptQuietWrong : ChangeSpec := { name := "scriptQuiet", fn := fun _ => fun
  | [d1, d2] => { results := [.lit (.bool false)], args := [d1, d2] }
  | _ => none }
def ScriptQuietWrongFalsely : Prop := scriptQuietRow.holds Try.pinned (OpenSpec.ofChange scriptQuietWrong)

/-- 'icehouselaw27.ScriptQuotes': WHATEVER THE INPUT: true; the input reads as it did. -/
def scriptQuotesSpec : ChangeSpec := { name := "scriptQuotes", fn := fun _ => fun
  | [d1, d2] => { results := [.lit (.bool true)], args := [d1, d2] }
  | _ => none }
def scriptQuotesRow : OpenClaim := { program := "ytmcioedmjcbfbaa", sum := "95230593d2b3bf3308144f42985a61180c1e8f74e4955a35f0e1d2f074247309", func := "icehouse/icehouselaw27.ScriptQuotes", spec := "scriptQuotes", inPlace := ["internal/bytealg.IndexByteString", "internal/bytealg.IndexString", "internal/abi.NoEscape"], unfollowed := true, recurses := true, named := ["internal/bytealg.MaxLen"], apart := false }
def ScriptQuotesSaid : Prop := scriptQuotesRow.holds Try.pinned (OpenSpec.ofChange scriptQuotesSpec)

/-- ITS FALSE NEIGHBOUR: 'it returns false'. Refute it at one input. -/
def scriptQuotesWrong : ChangeSpec := { name := "scriptQuotes", fn := fun _ => fun
  | [d1, d2] => { results := [.lit (.bool false)], args := [d1, d2] }
  | _ => none }
def ScriptQuotesWrongFalsely : Prop := scriptQuotesRow.holds Try.pinned (OpenSpec.ofChange scriptQuotesWrong)

/-- 'icehouselaw27.ScriptPrints': WHATEVER THE INPUT: true; the input reads as it did. -/
def scriptPrintsSpec : ChangeSpec := { name := "scriptPrints", fn := fun _ => fun
  | [d] => { results := [.lit (.bool true)], args := [d] }
  | _ => none }
def scriptPrintsRow : OpenClaim := { program := "ytmcioedmjcbfbaa", sum := "95230593d2b3bf3308144f42985a61180c1e8f74e4955a35f0e1d2f074247309", func := "icehouse/icehouselaw27.ScriptPrints", spec := "scriptPrints", inPlace := ["internal/bytealg.IndexByteString", "internal/bytealg.IndexString", "internal/abi.NoEscape", "internal/bytealg.MakeNoZero"], unfollowed := true, recurses := true, named := ["internal/bytealg.MaxLen"], apart := false }
def ScriptPrintsSaid : Prop := scriptPrintsRow.holds Try.pinned (OpenSpec.ofChange scriptPrintsSpec)

/-- ITS FALSE NEIGHBOUR: 'it returns false'. Refute it at one input. -/
def scriptPrintsWrong : ChangeSpec := { name := "scriptPrints", fn := fun _ => fun
  | [d] => { results := [.lit (.bool false)], args := [d] }
  | _ => none }
def ScriptPrintsWrongFalsely : Prop := scriptPrintsRow.holds Try.pinned (OpenSpec.ofChange scriptPrintsWrong)

/-- 'icehouselaw27.ScriptBounds': WHATEVER THE INPUT: true; the input reads as it did. -/
def scriptBoundsSpec : ChangeSpec := { name := "scriptBounds", fn := fun _ => fun
  | [d] => { results := [.lit (.bool true)], args := [d] }
  | _ => none }
def scriptBoundsRow : OpenClaim := { program := "ytmcioedmjcbfbaa", sum := "95230593d2b3bf3308144f42985a61180c1e8f74e4955a35f0e1d2f074247309", func := "icehouse/icehouselaw27.ScriptBounds", spec := "scriptBounds", inPlace := ["internal/bytealg.IndexByteString", "internal/bytealg.IndexString", "internal/abi.NoEscape", "internal/bytealg.MakeNoZero"], unfollowed := true, recurses := true, named := ["internal/bytealg.MaxLen"], apart := false }
def ScriptBoundsSaid : Prop := scriptBoundsRow.holds Try.pinned (OpenSpec.ofChange scriptBoundsSpec)

/-- ITS FALSE NEIGHBOUR: 'it returns false'. Refute it at one input. -/
def scriptBoundsWrong : ChangeSpec := { name := "scriptBounds", fn := fun _ => fun
  | [d] => { results := [.lit (.bool false)], args := [d] }
  | _ => none }
def ScriptBoundsWrongFalsely : Prop := scriptBoundsRow.holds Try.pinned (OpenSpec.ofChange scriptBoundsWrong)

/- THE SECOND FORM. 'bulk': how many values and letters a reading holds, each counted each time it is reached (what is shared counts as often as it is met; a slice's spare places count too). A statement '..UptoSaid' is the law's where the arguments, and the package variables that the reading takes, are together of bulk at most 1048576: NARROWER than '..Said'. Prove '..Said' where nothing that the law and all that it calls make is longer than what came in: it says more and counts as full. Else prove '..UptoSaid'. A law counts once. -/
mutual
def uptoBulk {H : Type} : DataW H → Nat
  | .lit (.string bytes) => bytes.length + 1
  | .lit _ => 1
  | .nil => 1
  | .ptr d => uptoBulk d + 1
  | .slice elems spare => uptoBulkAll elems + uptoBulkAll spare + 1
  | .agg parts => uptoBulkAll parts + 1
  | .iface _ d => uptoBulk d + 1
  | .map entries => uptoBulkEntries entries + 1
  | .held _ => 1
def uptoBulkAll {H : Type} : List (DataW H) → Nat
  | [] => 0
  | d :: r => uptoBulk d + uptoBulkAll r
def uptoBulkEntries {H : Type} : List (Lit × DataW H) → Nat
  | [] => 0
  | x :: r => uptoBulkEntry x + uptoBulkEntries r
def uptoBulkEntry {H : Type} : Lit × DataW H → Nat
  | (.string bytes, d) => bytes.length + uptoBulk d + 1
  | (_, d) => uptoBulk d + 1
 end
def uptoSmall : (H : Type) → List (DataW H) → Bool := fun _ ds => decide (uptoBulkAll ds ≤ 1048576)
def OpenSpec.upto (s : _root_.Go.ChangeSpec) : _root_.Go.OpenSpec := { _root_.Go.OpenSpec.ofChange s with cond := some uptoSmall }

/-- 'icehouselaw19.EntryKeys', WHERE WHAT IT READS IS OF BULK AT MOST 1048576: true; the input reads as it did. -/
def entryKeysUptoRow : OpenClaim := { program := "ytmcioedmjcbfbaa", sum := "95230593d2b3bf3308144f42985a61180c1e8f74e4955a35f0e1d2f074247309", func := "icehouse/icehouselaw19.EntryKeys", spec := "entryKeys", inPlace := ["internal/bytealg.IndexByteString", "internal/bytealg.IndexString"], named := ["internal/bytealg.MaxLen"], apart := false, narrowed := true }
def EntryKeysUptoSaid : Prop := entryKeysUptoRow.holds Try.pinned (OpenSpec.upto entryKeysSpec)

/-- 'icehouselaw28.AccessCounts', WHERE WHAT IT READS IS OF BULK AT MOST 1048576: true; the input reads as it did. -/
def accessCountsUptoRow : OpenClaim := { program := "ytmcioedmjcbfbaa", sum := "95230593d2b3bf3308144f42985a61180c1e8f74e4955a35f0e1d2f074247309", func := "icehouse/icehouselaw28.AccessCounts", spec := "accessCounts", inPlace := ["internal/bytealg.IndexByteString", "internal/abi.NoEscape", "internal/bytealg.MakeNoZero"], unfollowed := true, recurses := true, apart := false, narrowed := true }
def AccessCountsUptoSaid : Prop := accessCountsUptoRow.holds Try.pinned (OpenSpec.upto accessCountsSpec)

/-- 'icehouselaw27.ScriptParses', WHERE WHAT IT READS IS OF BULK AT MOST 1048576: true; the input reads as it did. -/
def scriptParsesUptoRow : OpenClaim := { program := "ytmcioedmjcbfbaa", sum := "95230593d2b3bf3308144f42985a61180c1e8f74e4955a35f0e1d2f074247309", func := "icehouse/icehouselaw27.ScriptParses", spec := "scriptParses", inPlace := ["internal/bytealg.IndexByteString", "internal/bytealg.IndexString"], unfollowed := true, recurses := true, named := ["internal/bytealg.MaxLen"], apart := false, narrowed := true }
def ScriptParsesUptoSaid : Prop := scriptParsesUptoRow.holds Try.pinned (OpenSpec.upto scriptParsesSpec)

/-- 'icehouselaw27.ScriptQuiet', WHERE WHAT IT READS IS OF BULK AT MOST 1048576: true; the input reads as it did. -/
def scriptQuietUptoRow : OpenClaim := { program := "ytmcioedmjcbfbaa", sum := "95230593d2b3bf3308144f42985a61180c1e8f74e4955a35f0e1d2f074247309", func := "icehouse/icehouselaw27.ScriptQuiet", spec := "scriptQuiet", inPlace := ["internal/bytealg.IndexByteString", "internal/bytealg.IndexString"], unfollowed := true, recurses := true, named := ["internal/bytealg.MaxLen"], apart := false, narrowed := true }
def ScriptQuietUptoSaid : Prop := scriptQuietUptoRow.holds Try.pinned (OpenSpec.upto scriptQuietSpec)

/-- 'icehouselaw27.ScriptQuotes', WHERE WHAT IT READS IS OF BULK AT MOST 1048576: true; the input reads as it did. -/
def scriptQuotesUptoRow : OpenClaim := { program := "ytmcioedmjcbfbaa", sum := "95230593d2b3bf3308144f42985a61180c1e8f74e4955a35f0e1d2f074247309", func := "icehouse/icehouselaw27.ScriptQuotes", spec := "scriptQuotes", inPlace := ["internal/bytealg.IndexByteString", "internal/bytealg.IndexString", "internal/abi.NoEscape"], unfollowed := true, recurses := true, named := ["internal/bytealg.MaxLen"], apart := false, narrowed := true }
def ScriptQuotesUptoSaid : Prop := scriptQuotesUptoRow.holds Try.pinned (OpenSpec.upto scriptQuotesSpec)

/-- 'icehouselaw27.ScriptPrints', WHERE WHAT IT READS IS OF BULK AT MOST 1048576: true; the input reads as it did. -/
def scriptPrintsUptoRow : OpenClaim := { program := "ytmcioedmjcbfbaa", sum := "95230593d2b3bf3308144f42985a61180c1e8f74e4955a35f0e1d2f074247309", func := "icehouse/icehouselaw27.ScriptPrints", spec := "scriptPrints", inPlace := ["internal/bytealg.IndexByteString", "internal/bytealg.IndexString", "internal/abi.NoEscape", "internal/bytealg.MakeNoZero"], unfollowed := true, recurses := true, named := ["internal/bytealg.MaxLen"], apart := false, narrowed := true }
def ScriptPrintsUptoSaid : Prop := scriptPrintsUptoRow.holds Try.pinned (OpenSpec.upto scriptPrintsSpec)

/-- 'icehouselaw27.ScriptBounds', WHERE WHAT IT READS IS OF BULK AT MOST 1048576: true; the input reads as it did. -/
def scriptBoundsUptoRow : OpenClaim := { program := "ytmcioedmjcbfbaa", sum := "95230593d2b3bf3308144f42985a61180c1e8f74e4955a35f0e1d2f074247309", func := "icehouse/icehouselaw27.ScriptBounds", spec := "scriptBounds", inPlace := ["internal/bytealg.IndexByteString", "internal/bytealg.IndexString", "internal/abi.NoEscape", "internal/bytealg.MakeNoZero"], unfollowed := true, recurses := true, named := ["internal/bytealg.MaxLen"], apart := false, narrowed := true }
def ScriptBoundsUptoSaid : Prop := scriptBoundsUptoRow.holds Try.pinned (OpenSpec.upto scriptBoundsSpec)

end Rows
end Go.Proofs.Ytmcioedmjcbfbaa
