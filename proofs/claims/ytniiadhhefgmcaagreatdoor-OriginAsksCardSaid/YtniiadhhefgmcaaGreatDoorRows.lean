/-
  NARROWER THAN 'FOR EVERY INPUT', by the rows' own cells (each row's printed sentence says how): OriginSends: laid · OriginTakes: laid · OriginAsks: laid · OriginAnswers: laid · OriginRound: laid.
  DERIVED. THE GIVEN ROWS OF THIS SEAT. 5 by the template 'for every input the law returns true; each argument reads behind the call as it read before'; 0 by the template 'total and deterministic' (their statements: YtniiadhhefgmcaaGreatDoorTotals.lean).
  GIVEN WITH THE SEED: the statements are not yours to turn. If you find one false, say at which input.
  Laid BY PROGRAM, IN A SANDBOX (cutbox-rows.mjs): the forced cells as the released guide's own fill.sh prints them over the translation 57a8ff5861e1847e… (all of the seat's roots in one cut). By AI agents, Wed Nov 11 2026. No macro, syntax, notation, axiom, sorry.
-/
import Derived.Test.YtniiadhhefgmcaaGreatDoorChecked
import GoSem.PinnedTables
import GoSem.Claim
import GoSem.ClaimJoined
import GoSem.ClaimMapViews
import Derived.JoinedTies
import Derived.KernelRfl
namespace Go.Proofs.YtniiadhhefgmcaaGreatDoor
/- THE CELL 'sum', in the pinned program and in every row, IS THE sha256 OF THE DUMP (.gsa) THAT YtniiadhhefgmcaaGreatDoorProg.lean LOADS. Nothing in Lean hashes anything: it is a label: what it is worth is what the hold of that sum in a sandbox is worth. -/
noncomputable def Tryz.pinned : Pinned := { name := "ytniiadhhefgmcaagreatdoor", sum := "57a8ff5861e1847e02bbd1571b9f87e7c61f0c2932058cfdf631bbe87410f4a1", checked := Tryz.checked }
namespace Rows
def none {H : Type} : Left H := { results := [], args := [] }

/- WHAT THE LISTED PACKAGE-LEVEL VARIABLES READ AS WHEN THE CALL BEGINS. Each datum BY PROGRAM (the guide's laid-datum.mjs) off the statement by which the dump's own 'gosem.cut.vars' lays the variable. In a bare row this is a premise. The card (YtniiadhhefgmcaaGreatDoorCards.lean) ties it to the program's text. -/
def laid_unicode_utf8_acceptRanges {H : Type} : DataW H := .agg [.agg [.lit (.int .u8 128), .lit (.int .u8 191)], .agg [.lit (.int .u8 160), .lit (.int .u8 191)], .agg [.lit (.int .u8 128), .lit (.int .u8 159)], .agg [.lit (.int .u8 144), .lit (.int .u8 191)], .agg [.lit (.int .u8 128), .lit (.int .u8 143)], .agg [.lit (.int .u8 0), .lit (.int .u8 0)], .agg [.lit (.int .u8 0), .lit (.int .u8 0)], .agg [.lit (.int .u8 0), .lit (.int .u8 0)], .agg [.lit (.int .u8 0), .lit (.int .u8 0)], .agg [.lit (.int .u8 0), .lit (.int .u8 0)], .agg [.lit (.int .u8 0), .lit (.int .u8 0)], .agg [.lit (.int .u8 0), .lit (.int .u8 0)], .agg [.lit (.int .u8 0), .lit (.int .u8 0)], .agg [.lit (.int .u8 0), .lit (.int .u8 0)], .agg [.lit (.int .u8 0), .lit (.int .u8 0)], .agg [.lit (.int .u8 0), .lit (.int .u8 0)]]
/-- One of Go's own tables, pinned by name: the form's constant. -/
def laid_unicode_utf8_first : DataW Unit := Go.Pinned.utf8First

/-- 'icehouselaw23.OriginSends': WHATEVER THE INPUT: true; the input reads as it did. -/
def originSendsSpec : ChangeSpec := { name := "originSends", fn := fun _ => fun
  | [d1, d2] => { results := [.lit (.bool true)], args := [d1, d2] }
  | _ => none }
def originSendsRow : OpenClaim := { program := "ytniiadhhefgmcaagreatdoor", sum := "57a8ff5861e1847e02bbd1571b9f87e7c61f0c2932058cfdf631bbe87410f4a1", func := "icehouse/icehouselaw23.OriginSends", spec := "originSends", inPlace := ["internal/bytealg.IndexByteString", "internal/bytealg.IndexString", "internal/abi.NoEscape", "internal/bytealg.MakeNoZero", "internal/bytealg.IndexByte", "internal/bytealg.CountString", "internal/bytealg.Index"], unfollowed := true, recurses := true, named := ["unicode/utf8.first", "unicode/utf8.acceptRanges", "internal/bytealg.MaxLen"], apart := false, laid := [("unicode/utf8.acceptRanges", laid_unicode_utf8_acceptRanges), ("unicode/utf8.first", laid_unicode_utf8_first)] }
def OriginSendsSaid : Prop := originSendsRow.holds Tryz.pinned (OpenSpec.ofChange originSendsSpec)

/-- ITS FALSE NEIGHBOUR: 'it returns false'. Refute it at one input. -/
def originSendsWrong : ChangeSpec := { name := "originSends", fn := fun _ => fun
  | [d1, d2] => { results := [.lit (.bool false)], args := [d1, d2] }
  | _ => none }
def OriginSendsWrongFalsely : Prop := originSendsRow.holds Tryz.pinned (OpenSpec.ofChange originSendsWrong)

/-- 'icehouselaw23.OriginTakes': WHATEVER THE INPUT: true; the input reads as it did. -/
def originTakesSpec : ChangeSpec := { name := "originTakes", fn := fun _ => fun
  | [d1, d2] => { results := [.lit (.bool true)], args := [d1, d2] }
  | _ => none }
def originTakesRow : OpenClaim := { program := "ytniiadhhefgmcaagreatdoor", sum := "57a8ff5861e1847e02bbd1571b9f87e7c61f0c2932058cfdf631bbe87410f4a1", func := "icehouse/icehouselaw23.OriginTakes", spec := "originTakes", inPlace := ["internal/bytealg.IndexByteString", "internal/bytealg.IndexString", "internal/abi.NoEscape", "internal/bytealg.MakeNoZero", "internal/bytealg.IndexByte", "internal/bytealg.CountString", "internal/bytealg.Index"], unfollowed := true, recurses := true, named := ["unicode/utf8.first", "unicode/utf8.acceptRanges", "internal/bytealg.MaxLen"], apart := false, laid := [("unicode/utf8.acceptRanges", laid_unicode_utf8_acceptRanges), ("unicode/utf8.first", laid_unicode_utf8_first)] }
def OriginTakesSaid : Prop := originTakesRow.holds Tryz.pinned (OpenSpec.ofChange originTakesSpec)

/-- ITS FALSE NEIGHBOUR: 'it returns false'. Refute it at one input. -/
def originTakesWrong : ChangeSpec := { name := "originTakes", fn := fun _ => fun
  | [d1, d2] => { results := [.lit (.bool false)], args := [d1, d2] }
  | _ => none }
def OriginTakesWrongFalsely : Prop := originTakesRow.holds Tryz.pinned (OpenSpec.ofChange originTakesWrong)

/-- 'icehouselaw23.OriginAsks': WHATEVER THE INPUT: true; the input reads as it did. -/
def originAsksSpec : ChangeSpec := { name := "originAsks", fn := fun _ => fun
  | [d1, d2, d3] => { results := [.lit (.bool true)], args := [d1, d2, d3] }
  | _ => none }
def originAsksRow : OpenClaim := { program := "ytniiadhhefgmcaagreatdoor", sum := "57a8ff5861e1847e02bbd1571b9f87e7c61f0c2932058cfdf631bbe87410f4a1", func := "icehouse/icehouselaw23.OriginAsks", spec := "originAsks", inPlace := ["internal/bytealg.IndexByteString", "internal/bytealg.IndexString", "internal/abi.NoEscape", "internal/bytealg.MakeNoZero", "internal/bytealg.IndexByte", "internal/bytealg.CountString", "internal/bytealg.Index"], unfollowed := true, recurses := true, named := ["unicode/utf8.first", "unicode/utf8.acceptRanges", "internal/bytealg.MaxLen"], apart := false, laid := [("unicode/utf8.acceptRanges", laid_unicode_utf8_acceptRanges), ("unicode/utf8.first", laid_unicode_utf8_first)] }
def OriginAsksSaid : Prop := originAsksRow.holds Tryz.pinned (OpenSpec.ofChange originAsksSpec)

/-- ITS FALSE NEIGHBOUR: 'it returns false'. Refute it at one input. -/
def originAsksWrong : ChangeSpec := { name := "originAsks", fn := fun _ => fun
  | [d1, d2, d3] => { results := [.lit (.bool false)], args := [d1, d2, d3] }
  | _ => none }
def OriginAsksWrongFalsely : Prop := originAsksRow.holds Tryz.pinned (OpenSpec.ofChange originAsksWrong)

/-- 'icehouselaw23.OriginAnswers': WHATEVER THE INPUT: true; the input reads as it did. -/
def originAnswersSpec : ChangeSpec := { name := "originAnswers", fn := fun _ => fun
  | [d1, d2, d3] => { results := [.lit (.bool true)], args := [d1, d2, d3] }
  | _ => none }
def originAnswersRow : OpenClaim := { program := "ytniiadhhefgmcaagreatdoor", sum := "57a8ff5861e1847e02bbd1571b9f87e7c61f0c2932058cfdf631bbe87410f4a1", func := "icehouse/icehouselaw23.OriginAnswers", spec := "originAnswers", inPlace := ["internal/bytealg.IndexByteString", "internal/bytealg.IndexString", "internal/abi.NoEscape", "internal/bytealg.MakeNoZero", "internal/bytealg.IndexByte", "internal/bytealg.CountString", "internal/bytealg.Index"], unfollowed := true, recurses := true, named := ["unicode/utf8.first", "unicode/utf8.acceptRanges", "internal/bytealg.MaxLen"], apart := false, laid := [("unicode/utf8.acceptRanges", laid_unicode_utf8_acceptRanges), ("unicode/utf8.first", laid_unicode_utf8_first)] }
def OriginAnswersSaid : Prop := originAnswersRow.holds Tryz.pinned (OpenSpec.ofChange originAnswersSpec)

/-- ITS FALSE NEIGHBOUR: 'it returns false'. Refute it at one input. -/
def originAnswersWrong : ChangeSpec := { name := "originAnswers", fn := fun _ => fun
  | [d1, d2, d3] => { results := [.lit (.bool false)], args := [d1, d2, d3] }
  | _ => none }
def OriginAnswersWrongFalsely : Prop := originAnswersRow.holds Tryz.pinned (OpenSpec.ofChange originAnswersWrong)

/-- 'icehouselaw23.OriginRound': WHATEVER THE INPUT: true; the input reads as it did. -/
def originRoundSpec : ChangeSpec := { name := "originRound", fn := fun _ => fun
  | [d1, d2, d3] => { results := [.lit (.bool true)], args := [d1, d2, d3] }
  | _ => none }
def originRoundRow : OpenClaim := { program := "ytniiadhhefgmcaagreatdoor", sum := "57a8ff5861e1847e02bbd1571b9f87e7c61f0c2932058cfdf631bbe87410f4a1", func := "icehouse/icehouselaw23.OriginRound", spec := "originRound", inPlace := ["internal/bytealg.IndexByteString", "internal/bytealg.IndexString", "internal/abi.NoEscape", "internal/bytealg.MakeNoZero", "internal/bytealg.IndexByte", "internal/bytealg.CountString", "internal/bytealg.Index"], unfollowed := true, recurses := true, named := ["unicode/utf8.first", "unicode/utf8.acceptRanges", "internal/bytealg.MaxLen"], apart := false, laid := [("unicode/utf8.acceptRanges", laid_unicode_utf8_acceptRanges), ("unicode/utf8.first", laid_unicode_utf8_first)] }
def OriginRoundSaid : Prop := originRoundRow.holds Tryz.pinned (OpenSpec.ofChange originRoundSpec)

/-- ITS FALSE NEIGHBOUR: 'it returns false'. Refute it at one input. -/
def originRoundWrong : ChangeSpec := { name := "originRound", fn := fun _ => fun
  | [d1, d2, d3] => { results := [.lit (.bool false)], args := [d1, d2, d3] }
  | _ => none }
def OriginRoundWrongFalsely : Prop := originRoundRow.holds Tryz.pinned (OpenSpec.ofChange originRoundWrong)

/- THE SECOND FORM. 'bulk': how many values and letters a reading holds, each counted each time it is reached (what is shared counts as often as it is met; a slice's spare places count too). A statement '..UptoSaid' is the law's where the arguments, and the package variables that the reading takes, are together of bulk at most 1048576: NARROWER than '..Said'. Prove '..Said' where nothing that the law and all that it calls make is longer than what came in: it says more and counts as full. Else prove '..UptoSaid'. A law counts once. -/
mutual
def uptoBulk {H : Type} : DataW H → Nat
  | .lit (.string bytes) => bytes.length + 1
  | .lit _ => 1
  | .nil => 1
  | .ptr d => uptoBulk d + 1
  | .slice elems spare => uptoBulkAll elems + uptoBulkAll spare + 1
  | .agg parts => uptoBulkAll parts + 1
  | .iface _ d => uptoBulk d + 1
  | .map entries => uptoBulkEntries entries + 1
  | .held _ => 1
def uptoBulkAll {H : Type} : List (DataW H) → Nat
  | [] => 0
  | d :: r => uptoBulk d + uptoBulkAll r
def uptoBulkEntries {H : Type} : List (Lit × DataW H) → Nat
  | [] => 0
  | x :: r => uptoBulkEntry x + uptoBulkEntries r
def uptoBulkEntry {H : Type} : Lit × DataW H → Nat
  | (.string bytes, d) => bytes.length + uptoBulk d + 1
  | (_, d) => uptoBulk d + 1
 end
def uptoSmall : (H : Type) → List (DataW H) → Bool := fun _ ds => decide (uptoBulkAll ds ≤ 1048576)
def OpenSpec.upto (s : _root_.Go.ChangeSpec) : _root_.Go.OpenSpec := { _root_.Go.OpenSpec.ofChange s with cond := some uptoSmall }

/-- 'icehouselaw23.OriginSends', WHERE WHAT IT READS IS OF BULK AT MOST 1048576: true; the input reads as it did. -/
def originSendsUptoRow : OpenClaim := { program := "ytniiadhhefgmcaagreatdoor", sum := "57a8ff5861e1847e02bbd1571b9f87e7c61f0c2932058cfdf631bbe87410f4a1", func := "icehouse/icehouselaw23.OriginSends", spec := "originSends", inPlace := ["internal/bytealg.IndexByteString", "internal/bytealg.IndexString", "internal/abi.NoEscape", "internal/bytealg.MakeNoZero", "internal/bytealg.IndexByte", "internal/bytealg.CountString", "internal/bytealg.Index"], unfollowed := true, recurses := true, named := ["unicode/utf8.first", "unicode/utf8.acceptRanges", "internal/bytealg.MaxLen"], apart := false, laid := [("unicode/utf8.acceptRanges", laid_unicode_utf8_acceptRanges), ("unicode/utf8.first", laid_unicode_utf8_first)], narrowed := true }
def OriginSendsUptoSaid : Prop := originSendsUptoRow.holds Tryz.pinned (OpenSpec.upto originSendsSpec)

/-- 'icehouselaw23.OriginTakes', WHERE WHAT IT READS IS OF BULK AT MOST 1048576: true; the input reads as it did. -/
def originTakesUptoRow : OpenClaim := { program := "ytniiadhhefgmcaagreatdoor", sum := "57a8ff5861e1847e02bbd1571b9f87e7c61f0c2932058cfdf631bbe87410f4a1", func := "icehouse/icehouselaw23.OriginTakes", spec := "originTakes", inPlace := ["internal/bytealg.IndexByteString", "internal/bytealg.IndexString", "internal/abi.NoEscape", "internal/bytealg.MakeNoZero", "internal/bytealg.IndexByte", "internal/bytealg.CountString", "internal/bytealg.Index"], unfollowed := true, recurses := true, named := ["unicode/utf8.first", "unicode/utf8.acceptRanges", "internal/bytealg.MaxLen"], apart := false, laid := [("unicode/utf8.acceptRanges", laid_unicode_utf8_acceptRanges), ("unicode/utf8.first", laid_unicode_utf8_first)], narrowed := true }
def OriginTakesUptoSaid : Prop := originTakesUptoRow.holds Tryz.pinned (OpenSpec.upto originTakesSpec)

/-- 'icehouselaw23.OriginAsks', WHERE WHAT IT READS IS OF BULK AT MOST 1048576: true; the input reads as it did. -/
def originAsksUptoRow : OpenClaim := { program := "ytniiadhhefgmcaagreatdoor", sum := "57a8ff5861e1847e02bbd1571b9f87e7c61f0c2932058cfdf631bbe87410f4a1", func := "icehouse/icehouselaw23.OriginAsks", spec := "originAsks", inPlace := ["internal/bytealg.IndexByteString", "internal/bytealg.IndexString", "internal/abi.NoEscape", "internal/bytealg.MakeNoZero", "internal/bytealg.IndexByte", "internal/bytealg.CountString", "internal/bytealg.Index"], unfollowed := true, recurses := true, named := ["unicode/utf8.first", "unicode/utf8.acceptRanges", "internal/bytealg.MaxLen"], apart := false, laid := [("unicode/utf8.acceptRanges", laid_unicode_utf8_acceptRanges), ("unicode/utf8.first", laid_unicode_utf8_first)], narrowed := true }
def OriginAsksUptoSaid : Prop := originAsksUptoRow.holds Tryz.pinned (OpenSpec.upto originAsksSpec)

/-- 'icehouselaw23.OriginAnswers', WHERE WHAT IT READS IS OF BULK AT MOST 1048576: true; the input reads as it did. -/
def originAnswersUptoRow : OpenClaim := { program := "ytniiadhhefgmcaagreatdoor", sum := "57a8ff5861e1847e02bbd1571b9f87e7c61f0c2932058cfdf631bbe87410f4a1", func := "icehouse/icehouselaw23.OriginAnswers", spec := "originAnswers", inPlace := ["internal/bytealg.IndexByteString", "internal/bytealg.IndexString", "internal/abi.NoEscape", "internal/bytealg.MakeNoZero", "internal/bytealg.IndexByte", "internal/bytealg.CountString", "internal/bytealg.Index"], unfollowed := true, recurses := true, named := ["unicode/utf8.first", "unicode/utf8.acceptRanges", "internal/bytealg.MaxLen"], apart := false, laid := [("unicode/utf8.acceptRanges", laid_unicode_utf8_acceptRanges), ("unicode/utf8.first", laid_unicode_utf8_first)], narrowed := true }
def OriginAnswersUptoSaid : Prop := originAnswersUptoRow.holds Tryz.pinned (OpenSpec.upto originAnswersSpec)

/-- 'icehouselaw23.OriginRound', WHERE WHAT IT READS IS OF BULK AT MOST 1048576: true; the input reads as it did. -/
def originRoundUptoRow : OpenClaim := { program := "ytniiadhhefgmcaagreatdoor", sum := "57a8ff5861e1847e02bbd1571b9f87e7c61f0c2932058cfdf631bbe87410f4a1", func := "icehouse/icehouselaw23.OriginRound", spec := "originRound", inPlace := ["internal/bytealg.IndexByteString", "internal/bytealg.IndexString", "internal/abi.NoEscape", "internal/bytealg.MakeNoZero", "internal/bytealg.IndexByte", "internal/bytealg.CountString", "internal/bytealg.Index"], unfollowed := true, recurses := true, named := ["unicode/utf8.first", "unicode/utf8.acceptRanges", "internal/bytealg.MaxLen"], apart := false, laid := [("unicode/utf8.acceptRanges", laid_unicode_utf8_acceptRanges), ("unicode/utf8.first", laid_unicode_utf8_first)], narrowed := true }
def OriginRoundUptoSaid : Prop := originRoundUptoRow.holds Tryz.pinned (OpenSpec.upto originRoundSpec)

end Rows
end Go.Proofs.YtniiadhhefgmcaaGreatDoor
