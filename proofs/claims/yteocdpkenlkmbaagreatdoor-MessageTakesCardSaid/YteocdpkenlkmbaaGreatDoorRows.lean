/-
  NARROWER THAN 'FOR EVERY INPUT', by the rows' own cells (each row's printed sentence says how): OctetQuotes: laid · OctetJoins: laid · MessageTakes: laid · MessageTwo: laid · MessageChunks: laid · MessageBare: laid · AuditReads: laid · AuditPairs: laid · AuditLogs: laid · MessagePrints: laid.
  DERIVED. THE GIVEN ROWS OF THIS SEAT. 10 by the template 'for every input the law returns true; each argument reads behind the call as it read before'; 0 by the template 'total and deterministic' (their statements: YteocdpkenlkmbaaGreatDoorTotals.lean).
  GIVEN WITH THE SEED: the statements are not yours to turn. If you find one false, say at which input.
  Laid BY PROGRAM, IN A SANDBOX (cutbox-rows.mjs): the forced cells as the released guide's own fill.sh prints them over the translation f551a448c7fdabee… (all of the seat's roots in one cut). By AI agents, Wed Nov 11 2026. No macro, syntax, notation, axiom, sorry.
-/
import Derived.Test.YteocdpkenlkmbaaGreatDoorChecked
import GoSem.PinnedTables
import GoSem.Claim
import GoSem.ClaimJoined
import GoSem.ClaimMapViews
import Derived.JoinedTies
import Derived.KernelRfl
namespace Go.Proofs.YteocdpkenlkmbaaGreatDoor
/- THE CELL 'sum', in the pinned program and in every row, IS THE sha256 OF THE DUMP (.gsa) THAT YteocdpkenlkmbaaGreatDoorProg.lean LOADS. Nothing in Lean hashes anything: it is a label: what it is worth is what the hold of that sum in a sandbox is worth. -/
noncomputable def Tryz.pinned : Pinned := { name := "yteocdpkenlkmbaagreatdoor", sum := "f551a448c7fdabee54f4ddaf4b45adcc92d1bf7ecd63fb1b5a307fd273903d30", checked := Tryz.checked }
namespace Rows
def none {H : Type} : Left H := { results := [], args := [] }

/- WHAT THE LISTED PACKAGE-LEVEL VARIABLES READ AS WHEN THE CALL BEGINS. Each datum BY PROGRAM (the guide's laid-datum.mjs) off the statement by which the dump's own 'gosem.cut.vars' lays the variable. In a bare row this is a premise. The card (YteocdpkenlkmbaaGreatDoorCards.lean) ties it to the program's text. -/
def laid_unicode_utf8_acceptRanges {H : Type} : DataW H := .agg [.agg [.lit (.int .u8 128), .lit (.int .u8 191)], .agg [.lit (.int .u8 160), .lit (.int .u8 191)], .agg [.lit (.int .u8 128), .lit (.int .u8 159)], .agg [.lit (.int .u8 144), .lit (.int .u8 191)], .agg [.lit (.int .u8 128), .lit (.int .u8 143)], .agg [.lit (.int .u8 0), .lit (.int .u8 0)], .agg [.lit (.int .u8 0), .lit (.int .u8 0)], .agg [.lit (.int .u8 0), .lit (.int .u8 0)], .agg [.lit (.int .u8 0), .lit (.int .u8 0)], .agg [.lit (.int .u8 0), .lit (.int .u8 0)], .agg [.lit (.int .u8 0), .lit (.int .u8 0)], .agg [.lit (.int .u8 0), .lit (.int .u8 0)], .agg [.lit (.int .u8 0), .lit (.int .u8 0)], .agg [.lit (.int .u8 0), .lit (.int .u8 0)], .agg [.lit (.int .u8 0), .lit (.int .u8 0)], .agg [.lit (.int .u8 0), .lit (.int .u8 0)]]
/-- One of Go's own tables, pinned by name: the form's constant. -/
def laid_unicode_utf8_first : DataW Unit := Go.Pinned.utf8First

/-- 'icehouselaw01.OctetQuotes': WHATEVER THE INPUT: true; the input reads as it did. -/
def octetQuotesSpec : ChangeSpec := { name := "octetQuotes", fn := fun _ => fun
  | [d1, d2] => { results := [.lit (.bool true)], args := [d1, d2] }
  | _ => none }
def octetQuotesRow : OpenClaim := { program := "yteocdpkenlkmbaagreatdoor", sum := "f551a448c7fdabee54f4ddaf4b45adcc92d1bf7ecd63fb1b5a307fd273903d30", func := "icehouse/icehouselaw01.OctetQuotes", spec := "octetQuotes", inPlace := ["internal/bytealg.IndexByteString", "internal/bytealg.IndexString", "internal/abi.NoEscape", "sync/atomic.LoadUint32", "(*internal/sync.Mutex).Lock", "internal/race.Disable", "sync/atomic.CompareAndSwapInt32", "internal/race.Enable", "internal/race.Acquire", "(*internal/sync.Mutex).lockSlow", "internal/sync.runtime_canSpin", "internal/sync.runtime_doSpin", "internal/sync.throw", "internal/sync.runtime_nanotime", "internal/sync.runtime_SemacquireMutex", "sync/atomic.AddInt32", "(*internal/sync.Mutex).Unlock", "internal/race.ReleaseMerge", "(*internal/sync.Mutex).unlockSlow", "internal/sync.fatal", "internal/sync.runtime_Semrelease", "sync/atomic.StoreUint32"], unfollowed := true, recurses := true, named := ["unicode/utf8.first", "unicode/utf8.acceptRanges", "internal/bytealg.MaxLen"], apart := false, laid := [("unicode/utf8.acceptRanges", laid_unicode_utf8_acceptRanges), ("unicode/utf8.first", laid_unicode_utf8_first)] }
def OctetQuotesSaid : Prop := octetQuotesRow.holds Tryz.pinned (OpenSpec.ofChange octetQuotesSpec)

/-- ITS FALSE NEIGHBOUR: 'it returns false'. Refute it at one input. -/
def octetQuotesWrong : ChangeSpec := { name := "octetQuotes", fn := fun _ => fun
  | [d1, d2] => { results := [.lit (.bool false)], args := [d1, d2] }
  | _ => none }
def OctetQuotesWrongFalsely : Prop := octetQuotesRow.holds Tryz.pinned (OpenSpec.ofChange octetQuotesWrong)

/-- 'icehouselaw01.OctetJoins': WHATEVER THE INPUT: true; the input reads as it did. -/
def octetJoinsSpec : ChangeSpec := { name := "octetJoins", fn := fun _ => fun
  | [d1, d2] => { results := [.lit (.bool true)], args := [d1, d2] }
  | _ => none }
def octetJoinsRow : OpenClaim := { program := "yteocdpkenlkmbaagreatdoor", sum := "f551a448c7fdabee54f4ddaf4b45adcc92d1bf7ecd63fb1b5a307fd273903d30", func := "icehouse/icehouselaw01.OctetJoins", spec := "octetJoins", inPlace := ["internal/bytealg.IndexByteString", "internal/bytealg.IndexString", "internal/abi.NoEscape", "sync/atomic.LoadUint32", "(*internal/sync.Mutex).Lock", "internal/race.Disable", "sync/atomic.CompareAndSwapInt32", "internal/race.Enable", "internal/race.Acquire", "(*internal/sync.Mutex).lockSlow", "internal/sync.runtime_canSpin", "internal/sync.runtime_doSpin", "internal/sync.throw", "internal/sync.runtime_nanotime", "internal/sync.runtime_SemacquireMutex", "sync/atomic.AddInt32", "(*internal/sync.Mutex).Unlock", "internal/race.ReleaseMerge", "(*internal/sync.Mutex).unlockSlow", "internal/sync.fatal", "internal/sync.runtime_Semrelease", "sync/atomic.StoreUint32"], unfollowed := true, recurses := true, named := ["unicode/utf8.first", "unicode/utf8.acceptRanges", "internal/bytealg.MaxLen"], apart := false, laid := [("unicode/utf8.acceptRanges", laid_unicode_utf8_acceptRanges), ("unicode/utf8.first", laid_unicode_utf8_first)] }
def OctetJoinsSaid : Prop := octetJoinsRow.holds Tryz.pinned (OpenSpec.ofChange octetJoinsSpec)

/-- ITS FALSE NEIGHBOUR: 'it returns false'. Refute it at one input. -/
def octetJoinsWrong : ChangeSpec := { name := "octetJoins", fn := fun _ => fun
  | [d1, d2] => { results := [.lit (.bool false)], args := [d1, d2] }
  | _ => none }
def OctetJoinsWrongFalsely : Prop := octetJoinsRow.holds Tryz.pinned (OpenSpec.ofChange octetJoinsWrong)

/-- 'icehouselaw08.MessageTakes': WHATEVER THE INPUT: true; the input reads as it did. -/
def messageTakesSpec : ChangeSpec := { name := "messageTakes", fn := fun _ => fun
  | [d1, d2] => { results := [.lit (.bool true)], args := [d1, d2] }
  | _ => none }
def messageTakesRow : OpenClaim := { program := "yteocdpkenlkmbaagreatdoor", sum := "f551a448c7fdabee54f4ddaf4b45adcc92d1bf7ecd63fb1b5a307fd273903d30", func := "icehouse/icehouselaw08.MessageTakes", spec := "messageTakes", inPlace := ["internal/bytealg.IndexByte", "internal/bytealg.CountString", "internal/bytealg.IndexByteString", "internal/bytealg.IndexString", "internal/bytealg.Index"], unfollowed := true, recurses := true, named := ["unicode/utf8.first", "unicode/utf8.acceptRanges", "internal/bytealg.MaxLen"], apart := false, laid := [("unicode/utf8.acceptRanges", laid_unicode_utf8_acceptRanges), ("unicode/utf8.first", laid_unicode_utf8_first)] }
def MessageTakesSaid : Prop := messageTakesRow.holds Tryz.pinned (OpenSpec.ofChange messageTakesSpec)

/-- ITS FALSE NEIGHBOUR: 'it returns false'. Refute it at one input. -/
def messageTakesWrong : ChangeSpec := { name := "messageTakes", fn := fun _ => fun
  | [d1, d2] => { results := [.lit (.bool false)], args := [d1, d2] }
  | _ => none }
def MessageTakesWrongFalsely : Prop := messageTakesRow.holds Tryz.pinned (OpenSpec.ofChange messageTakesWrong)

/-- 'icehouselaw08.MessageTwo': WHATEVER THE INPUT: true; the input reads as it did. -/
def messageTwoSpec : ChangeSpec := { name := "messageTwo", fn := fun _ => fun
  | [d1, d2, d3] => { results := [.lit (.bool true)], args := [d1, d2, d3] }
  | _ => none }
def messageTwoRow : OpenClaim := { program := "yteocdpkenlkmbaagreatdoor", sum := "f551a448c7fdabee54f4ddaf4b45adcc92d1bf7ecd63fb1b5a307fd273903d30", func := "icehouse/icehouselaw08.MessageTwo", spec := "messageTwo", inPlace := ["internal/bytealg.IndexByte", "internal/bytealg.CountString", "internal/bytealg.IndexByteString", "internal/bytealg.IndexString", "internal/bytealg.Index"], unfollowed := true, recurses := true, named := ["unicode/utf8.first", "unicode/utf8.acceptRanges", "internal/bytealg.MaxLen"], apart := false, laid := [("unicode/utf8.acceptRanges", laid_unicode_utf8_acceptRanges), ("unicode/utf8.first", laid_unicode_utf8_first)] }
def MessageTwoSaid : Prop := messageTwoRow.holds Tryz.pinned (OpenSpec.ofChange messageTwoSpec)

/-- ITS FALSE NEIGHBOUR: 'it returns false'. Refute it at one input. -/
def messageTwoWrong : ChangeSpec := { name := "messageTwo", fn := fun _ => fun
  | [d1, d2, d3] => { results := [.lit (.bool false)], args := [d1, d2, d3] }
  | _ => none }
def MessageTwoWrongFalsely : Prop := messageTwoRow.holds Tryz.pinned (OpenSpec.ofChange messageTwoWrong)

/-- 'icehouselaw08.MessageChunks': WHATEVER THE INPUT: true; the input reads as it did. -/
def messageChunksSpec : ChangeSpec := { name := "messageChunks", fn := fun _ => fun
  | [d1, d2] => { results := [.lit (.bool true)], args := [d1, d2] }
  | _ => none }
def messageChunksRow : OpenClaim := { program := "yteocdpkenlkmbaagreatdoor", sum := "f551a448c7fdabee54f4ddaf4b45adcc92d1bf7ecd63fb1b5a307fd273903d30", func := "icehouse/icehouselaw08.MessageChunks", spec := "messageChunks", inPlace := ["internal/bytealg.IndexByte", "internal/bytealg.CountString", "internal/bytealg.IndexByteString", "internal/bytealg.IndexString", "internal/bytealg.Index"], unfollowed := true, recurses := true, named := ["unicode/utf8.first", "unicode/utf8.acceptRanges", "internal/bytealg.MaxLen"], apart := false, laid := [("unicode/utf8.acceptRanges", laid_unicode_utf8_acceptRanges), ("unicode/utf8.first", laid_unicode_utf8_first)] }
def MessageChunksSaid : Prop := messageChunksRow.holds Tryz.pinned (OpenSpec.ofChange messageChunksSpec)

/-- ITS FALSE NEIGHBOUR: 'it returns false'. Refute it at one input. -/
def messageChunksWrong : ChangeSpec := { name := "messageChunks", fn := fun _ => fun
  | [d1, d2] => { results := [.lit (.bool false)], args := [d1, d2] }
  | _ => none }
def MessageChunksWrongFalsely : Prop := messageChunksRow.holds Tryz.pinned (OpenSpec.ofChange messageChunksWrong)

/-- 'icehouselaw08.MessageBare': WHATEVER THE INPUT: true; the input reads as it did. -/
def messageBareSpec : ChangeSpec := { name := "messageBare", fn := fun _ => fun
  | [d1, d2] => { results := [.lit (.bool true)], args := [d1, d2] }
  | _ => none }
def messageBareRow : OpenClaim := { program := "yteocdpkenlkmbaagreatdoor", sum := "f551a448c7fdabee54f4ddaf4b45adcc92d1bf7ecd63fb1b5a307fd273903d30", func := "icehouse/icehouselaw08.MessageBare", spec := "messageBare", inPlace := ["internal/bytealg.IndexByte", "internal/bytealg.CountString", "internal/bytealg.IndexByteString", "internal/bytealg.IndexString", "internal/bytealg.Index"], unfollowed := true, recurses := true, named := ["unicode/utf8.first", "unicode/utf8.acceptRanges", "internal/bytealg.MaxLen"], apart := false, laid := [("unicode/utf8.acceptRanges", laid_unicode_utf8_acceptRanges), ("unicode/utf8.first", laid_unicode_utf8_first)] }
def MessageBareSaid : Prop := messageBareRow.holds Tryz.pinned (OpenSpec.ofChange messageBareSpec)

/-- ITS FALSE NEIGHBOUR: 'it returns false'. Refute it at one input. -/
def messageBareWrong : ChangeSpec := { name := "messageBare", fn := fun _ => fun
  | [d1, d2] => { results := [.lit (.bool false)], args := [d1, d2] }
  | _ => none }
def MessageBareWrongFalsely : Prop := messageBareRow.holds Tryz.pinned (OpenSpec.ofChange messageBareWrong)

/-- 'icehouselaw26.AuditReads': WHATEVER THE INPUT: true; the input reads as it did. -/
def auditReadsSpec : ChangeSpec := { name := "auditReads", fn := fun _ => fun
  | [d1, d2] => { results := [.lit (.bool true)], args := [d1, d2] }
  | _ => none }
def auditReadsRow : OpenClaim := { program := "yteocdpkenlkmbaagreatdoor", sum := "f551a448c7fdabee54f4ddaf4b45adcc92d1bf7ecd63fb1b5a307fd273903d30", func := "icehouse/icehouselaw26.AuditReads", spec := "auditReads", inPlace := ["internal/bytealg.IndexByte", "internal/bytealg.CountString", "internal/bytealg.IndexByteString", "internal/bytealg.IndexString", "internal/bytealg.Index"], unfollowed := true, recurses := true, named := ["unicode/utf8.first", "unicode/utf8.acceptRanges", "internal/bytealg.MaxLen"], apart := false, laid := [("unicode/utf8.acceptRanges", laid_unicode_utf8_acceptRanges), ("unicode/utf8.first", laid_unicode_utf8_first)] }
def AuditReadsSaid : Prop := auditReadsRow.holds Tryz.pinned (OpenSpec.ofChange auditReadsSpec)

/-- ITS FALSE NEIGHBOUR: 'it returns false'. Refute it at one input. -/
def auditReadsWrong : ChangeSpec := { name := "auditReads", fn := fun _ => fun
  | [d1, d2] => { results := [.lit (.bool false)], args := [d1, d2] }
  | _ => none }
def AuditReadsWrongFalsely : Prop := auditReadsRow.holds Tryz.pinned (OpenSpec.ofChange auditReadsWrong)

/-- 'icehouselaw26.AuditPairs': WHATEVER THE INPUT: true; the input reads as it did. -/
def auditPairsSpec : ChangeSpec := { name := "auditPairs", fn := fun _ => fun
  | [d] => { results := [.lit (.bool true)], args := [d] }
  | _ => none }
def auditPairsRow : OpenClaim := { program := "yteocdpkenlkmbaagreatdoor", sum := "f551a448c7fdabee54f4ddaf4b45adcc92d1bf7ecd63fb1b5a307fd273903d30", func := "icehouse/icehouselaw26.AuditPairs", spec := "auditPairs", inPlace := ["internal/bytealg.IndexByte", "internal/bytealg.CountString", "internal/bytealg.IndexByteString", "internal/bytealg.IndexString", "internal/bytealg.Index"], unfollowed := true, recurses := true, named := ["unicode/utf8.first", "unicode/utf8.acceptRanges", "internal/bytealg.MaxLen"], apart := false, laid := [("unicode/utf8.acceptRanges", laid_unicode_utf8_acceptRanges), ("unicode/utf8.first", laid_unicode_utf8_first)] }
def AuditPairsSaid : Prop := auditPairsRow.holds Tryz.pinned (OpenSpec.ofChange auditPairsSpec)

/-- ITS FALSE NEIGHBOUR: 'it returns false'. Refute it at one input. -/
def auditPairsWrong : ChangeSpec := { name := "auditPairs", fn := fun _ => fun
  | [d] => { results := [.lit (.bool false)], args := [d] }
  | _ => none }
def AuditPairsWrongFalsely : Prop := auditPairsRow.holds Tryz.pinned (OpenSpec.ofChange auditPairsWrong)

/-- 'icehouselaw26.AuditLogs': WHATEVER THE INPUT: true; the input reads as it did. -/
def auditLogsSpec : ChangeSpec := { name := "auditLogs", fn := fun _ => fun
  | [d] => { results := [.lit (.bool true)], args := [d] }
  | _ => none }
def auditLogsRow : OpenClaim := { program := "yteocdpkenlkmbaagreatdoor", sum := "f551a448c7fdabee54f4ddaf4b45adcc92d1bf7ecd63fb1b5a307fd273903d30", func := "icehouse/icehouselaw26.AuditLogs", spec := "auditLogs", inPlace := ["internal/bytealg.IndexByte", "internal/bytealg.CountString", "internal/bytealg.IndexByteString", "internal/bytealg.IndexString", "internal/bytealg.Index", "slices.overlaps[string]"], unfollowed := true, recurses := true, named := ["unicode/utf8.first", "unicode/utf8.acceptRanges", "internal/bytealg.MaxLen"], apart := false, laid := [("unicode/utf8.acceptRanges", laid_unicode_utf8_acceptRanges), ("unicode/utf8.first", laid_unicode_utf8_first)] }
def AuditLogsSaid : Prop := auditLogsRow.holds Tryz.pinned (OpenSpec.ofChange auditLogsSpec)

/-- ITS FALSE NEIGHBOUR: 'it returns false'. Refute it at one input. -/
def auditLogsWrong : ChangeSpec := { name := "auditLogs", fn := fun _ => fun
  | [d] => { results := [.lit (.bool false)], args := [d] }
  | _ => none }
def AuditLogsWrongFalsely : Prop := auditLogsRow.holds Tryz.pinned (OpenSpec.ofChange auditLogsWrong)

/-- 'icehouselaw08.MessagePrints': WHATEVER THE INPUT: true; the input reads as it did. -/
def messagePrintsSpec : ChangeSpec := { name := "messagePrints", fn := fun _ => fun
  | [d1, d2, d3] => { results := [.lit (.bool true)], args := [d1, d2, d3] }
  | _ => none }
def messagePrintsRow : OpenClaim := { program := "yteocdpkenlkmbaagreatdoor", sum := "f551a448c7fdabee54f4ddaf4b45adcc92d1bf7ecd63fb1b5a307fd273903d30", func := "icehouse/icehouselaw08.MessagePrints", spec := "messagePrints", inPlace := ["internal/bytealg.IndexByte", "internal/bytealg.CountString", "internal/bytealg.IndexByteString", "internal/bytealg.IndexString", "internal/bytealg.Index", "internal/abi.NoEscape", "internal/bytealg.MakeNoZero"], unfollowed := true, recurses := true, named := ["unicode/utf8.first", "unicode/utf8.acceptRanges", "internal/bytealg.MaxLen"], apart := false, laid := [("unicode/utf8.acceptRanges", laid_unicode_utf8_acceptRanges), ("unicode/utf8.first", laid_unicode_utf8_first)] }
def MessagePrintsSaid : Prop := messagePrintsRow.holds Tryz.pinned (OpenSpec.ofChange messagePrintsSpec)

/-- ITS FALSE NEIGHBOUR: 'it returns false'. Refute it at one input. -/
def messagePrintsWrong : ChangeSpec := { name := "messagePrints", fn := fun _ => fun
  | [d1, d2, d3] => { results := [.lit (.bool false)], args := [d1, d2, d3] }
  | _ => none }
def MessagePrintsWrongFalsely : Prop := messagePrintsRow.holds Tryz.pinned (OpenSpec.ofChange messagePrintsWrong)

/- THE SECOND FORM. 'bulk': how many values and letters a reading holds, each counted each time it is reached (what is shared counts as often as it is met; a slice's spare places count too). A statement '..UptoSaid' is the law's where the arguments, and the package variables that the reading takes, are together of bulk at most 1048576: NARROWER than '..Said'. Prove '..Said' where nothing that the law and all that it calls make is longer than what came in: it says more and counts as full. Else prove '..UptoSaid'. A law counts once. -/
mutual
def uptoBulk {H : Type} : DataW H → Nat
  | .lit (.string bytes) => bytes.length + 1
  | .lit _ => 1
  | .nil => 1
  | .ptr d => uptoBulk d + 1
  | .slice elems spare => uptoBulkAll elems + uptoBulkAll spare + 1
  | .agg parts => uptoBulkAll parts + 1
  | .iface _ d => uptoBulk d + 1
  | .map entries => uptoBulkEntries entries + 1
  | .held _ => 1
def uptoBulkAll {H : Type} : List (DataW H) → Nat
  | [] => 0
  | d :: r => uptoBulk d + uptoBulkAll r
def uptoBulkEntries {H : Type} : List (Lit × DataW H) → Nat
  | [] => 0
  | x :: r => uptoBulkEntry x + uptoBulkEntries r
def uptoBulkEntry {H : Type} : Lit × DataW H → Nat
  | (.string bytes, d) => bytes.length + uptoBulk d + 1
  | (_, d) => uptoBulk d + 1
 end
def uptoSmall : (H : Type) → List (DataW H) → Bool := fun _ ds => decide (uptoBulkAll ds ≤ 1048576)
def OpenSpec.upto (s : _root_.Go.ChangeSpec) : _root_.Go.OpenSpec := { _root_.Go.OpenSpec.ofChange s with cond := some uptoSmall }

/-- 'icehouselaw01.OctetQuotes', WHERE WHAT IT READS IS OF BULK AT MOST 1048576: true; the input reads as it did. -/
def octetQuotesUptoRow : OpenClaim := { program := "yteocdpkenlkmbaagreatdoor", sum := "f551a448c7fdabee54f4ddaf4b45adcc92d1bf7ecd63fb1b5a307fd273903d30", func := "icehouse/icehouselaw01.OctetQuotes", spec := "octetQuotes", inPlace := ["internal/bytealg.IndexByteString", "internal/bytealg.IndexString", "internal/abi.NoEscape", "sync/atomic.LoadUint32", "(*internal/sync.Mutex).Lock", "internal/race.Disable", "sync/atomic.CompareAndSwapInt32", "internal/race.Enable", "internal/race.Acquire", "(*internal/sync.Mutex).lockSlow", "internal/sync.runtime_canSpin", "internal/sync.runtime_doSpin", "internal/sync.throw", "internal/sync.runtime_nanotime", "internal/sync.runtime_SemacquireMutex", "sync/atomic.AddInt32", "(*internal/sync.Mutex).Unlock", "internal/race.ReleaseMerge", "(*internal/sync.Mutex).unlockSlow", "internal/sync.fatal", "internal/sync.runtime_Semrelease", "sync/atomic.StoreUint32"], unfollowed := true, recurses := true, named := ["unicode/utf8.first", "unicode/utf8.acceptRanges", "internal/bytealg.MaxLen"], apart := false, laid := [("unicode/utf8.acceptRanges", laid_unicode_utf8_acceptRanges), ("unicode/utf8.first", laid_unicode_utf8_first)], narrowed := true }
def OctetQuotesUptoSaid : Prop := octetQuotesUptoRow.holds Tryz.pinned (OpenSpec.upto octetQuotesSpec)

/-- 'icehouselaw01.OctetJoins', WHERE WHAT IT READS IS OF BULK AT MOST 1048576: true; the input reads as it did. -/
def octetJoinsUptoRow : OpenClaim := { program := "yteocdpkenlkmbaagreatdoor", sum := "f551a448c7fdabee54f4ddaf4b45adcc92d1bf7ecd63fb1b5a307fd273903d30", func := "icehouse/icehouselaw01.OctetJoins", spec := "octetJoins", inPlace := ["internal/bytealg.IndexByteString", "internal/bytealg.IndexString", "internal/abi.NoEscape", "sync/atomic.LoadUint32", "(*internal/sync.Mutex).Lock", "internal/race.Disable", "sync/atomic.CompareAndSwapInt32", "internal/race.Enable", "internal/race.Acquire", "(*internal/sync.Mutex).lockSlow", "internal/sync.runtime_canSpin", "internal/sync.runtime_doSpin", "internal/sync.throw", "internal/sync.runtime_nanotime", "internal/sync.runtime_SemacquireMutex", "sync/atomic.AddInt32", "(*internal/sync.Mutex).Unlock", "internal/race.ReleaseMerge", "(*internal/sync.Mutex).unlockSlow", "internal/sync.fatal", "internal/sync.runtime_Semrelease", "sync/atomic.StoreUint32"], unfollowed := true, recurses := true, named := ["unicode/utf8.first", "unicode/utf8.acceptRanges", "internal/bytealg.MaxLen"], apart := false, laid := [("unicode/utf8.acceptRanges", laid_unicode_utf8_acceptRanges), ("unicode/utf8.first", laid_unicode_utf8_first)], narrowed := true }
def OctetJoinsUptoSaid : Prop := octetJoinsUptoRow.holds Tryz.pinned (OpenSpec.upto octetJoinsSpec)

/-- 'icehouselaw08.MessageTakes', WHERE WHAT IT READS IS OF BULK AT MOST 1048576: true; the input reads as it did. -/
def messageTakesUptoRow : OpenClaim := { program := "yteocdpkenlkmbaagreatdoor", sum := "f551a448c7fdabee54f4ddaf4b45adcc92d1bf7ecd63fb1b5a307fd273903d30", func := "icehouse/icehouselaw08.MessageTakes", spec := "messageTakes", inPlace := ["internal/bytealg.IndexByte", "internal/bytealg.CountString", "internal/bytealg.IndexByteString", "internal/bytealg.IndexString", "internal/bytealg.Index"], unfollowed := true, recurses := true, named := ["unicode/utf8.first", "unicode/utf8.acceptRanges", "internal/bytealg.MaxLen"], apart := false, laid := [("unicode/utf8.acceptRanges", laid_unicode_utf8_acceptRanges), ("unicode/utf8.first", laid_unicode_utf8_first)], narrowed := true }
def MessageTakesUptoSaid : Prop := messageTakesUptoRow.holds Tryz.pinned (OpenSpec.upto messageTakesSpec)

/-- 'icehouselaw08.MessageTwo', WHERE WHAT IT READS IS OF BULK AT MOST 1048576: true; the input reads as it did. -/
def messageTwoUptoRow : OpenClaim := { program := "yteocdpkenlkmbaagreatdoor", sum := "f551a448c7fdabee54f4ddaf4b45adcc92d1bf7ecd63fb1b5a307fd273903d30", func := "icehouse/icehouselaw08.MessageTwo", spec := "messageTwo", inPlace := ["internal/bytealg.IndexByte", "internal/bytealg.CountString", "internal/bytealg.IndexByteString", "internal/bytealg.IndexString", "internal/bytealg.Index"], unfollowed := true, recurses := true, named := ["unicode/utf8.first", "unicode/utf8.acceptRanges", "internal/bytealg.MaxLen"], apart := false, laid := [("unicode/utf8.acceptRanges", laid_unicode_utf8_acceptRanges), ("unicode/utf8.first", laid_unicode_utf8_first)], narrowed := true }
def MessageTwoUptoSaid : Prop := messageTwoUptoRow.holds Tryz.pinned (OpenSpec.upto messageTwoSpec)

/-- 'icehouselaw08.MessageChunks', WHERE WHAT IT READS IS OF BULK AT MOST 1048576: true; the input reads as it did. -/
def messageChunksUptoRow : OpenClaim := { program := "yteocdpkenlkmbaagreatdoor", sum := "f551a448c7fdabee54f4ddaf4b45adcc92d1bf7ecd63fb1b5a307fd273903d30", func := "icehouse/icehouselaw08.MessageChunks", spec := "messageChunks", inPlace := ["internal/bytealg.IndexByte", "internal/bytealg.CountString", "internal/bytealg.IndexByteString", "internal/bytealg.IndexString", "internal/bytealg.Index"], unfollowed := true, recurses := true, named := ["unicode/utf8.first", "unicode/utf8.acceptRanges", "internal/bytealg.MaxLen"], apart := false, laid := [("unicode/utf8.acceptRanges", laid_unicode_utf8_acceptRanges), ("unicode/utf8.first", laid_unicode_utf8_first)], narrowed := true }
def MessageChunksUptoSaid : Prop := messageChunksUptoRow.holds Tryz.pinned (OpenSpec.upto messageChunksSpec)

/-- 'icehouselaw08.MessageBare', WHERE WHAT IT READS IS OF BULK AT MOST 1048576: true; the input reads as it did. -/
def messageBareUptoRow : OpenClaim := { program := "yteocdpkenlkmbaagreatdoor", sum := "f551a448c7fdabee54f4ddaf4b45adcc92d1bf7ecd63fb1b5a307fd273903d30", func := "icehouse/icehouselaw08.MessageBare", spec := "messageBare", inPlace := ["internal/bytealg.IndexByte", "internal/bytealg.CountString", "internal/bytealg.IndexByteString", "internal/bytealg.IndexString", "internal/bytealg.Index"], unfollowed := true, recurses := true, named := ["unicode/utf8.first", "unicode/utf8.acceptRanges", "internal/bytealg.MaxLen"], apart := false, laid := [("unicode/utf8.acceptRanges", laid_unicode_utf8_acceptRanges), ("unicode/utf8.first", laid_unicode_utf8_first)], narrowed := true }
def MessageBareUptoSaid : Prop := messageBareUptoRow.holds Tryz.pinned (OpenSpec.upto messageBareSpec)

/-- 'icehouselaw26.AuditReads', WHERE WHAT IT READS IS OF BULK AT MOST 1048576: true; the input reads as it did. -/
def auditReadsUptoRow : OpenClaim := { program := "yteocdpkenlkmbaagreatdoor", sum := "f551a448c7fdabee54f4ddaf4b45adcc92d1bf7ecd63fb1b5a307fd273903d30", func := "icehouse/icehouselaw26.AuditReads", spec := "auditReads", inPlace := ["internal/bytealg.IndexByte", "internal/bytealg.CountString", "internal/bytealg.IndexByteString", "internal/bytealg.IndexString", "internal/bytealg.Index"], unfollowed := true, recurses := true, named := ["unicode/utf8.first", "unicode/utf8.acceptRanges", "internal/bytealg.MaxLen"], apart := false, laid := [("unicode/utf8.acceptRanges", laid_unicode_utf8_acceptRanges), ("unicode/utf8.first", laid_unicode_utf8_first)], narrowed := true }
def AuditReadsUptoSaid : Prop := auditReadsUptoRow.holds Tryz.pinned (OpenSpec.upto auditReadsSpec)

/-- 'icehouselaw26.AuditPairs', WHERE WHAT IT READS IS OF BULK AT MOST 1048576: true; the input reads as it did. -/
def auditPairsUptoRow : OpenClaim := { program := "yteocdpkenlkmbaagreatdoor", sum := "f551a448c7fdabee54f4ddaf4b45adcc92d1bf7ecd63fb1b5a307fd273903d30", func := "icehouse/icehouselaw26.AuditPairs", spec := "auditPairs", inPlace := ["internal/bytealg.IndexByte", "internal/bytealg.CountString", "internal/bytealg.IndexByteString", "internal/bytealg.IndexString", "internal/bytealg.Index"], unfollowed := true, recurses := true, named := ["unicode/utf8.first", "unicode/utf8.acceptRanges", "internal/bytealg.MaxLen"], apart := false, laid := [("unicode/utf8.acceptRanges", laid_unicode_utf8_acceptRanges), ("unicode/utf8.first", laid_unicode_utf8_first)], narrowed := true }
def AuditPairsUptoSaid : Prop := auditPairsUptoRow.holds Tryz.pinned (OpenSpec.upto auditPairsSpec)

/-- 'icehouselaw26.AuditLogs', WHERE WHAT IT READS IS OF BULK AT MOST 1048576: true; the input reads as it did. -/
def auditLogsUptoRow : OpenClaim := { program := "yteocdpkenlkmbaagreatdoor", sum := "f551a448c7fdabee54f4ddaf4b45adcc92d1bf7ecd63fb1b5a307fd273903d30", func := "icehouse/icehouselaw26.AuditLogs", spec := "auditLogs", inPlace := ["internal/bytealg.IndexByte", "internal/bytealg.CountString", "internal/bytealg.IndexByteString", "internal/bytealg.IndexString", "internal/bytealg.Index", "slices.overlaps[string]"], unfollowed := true, recurses := true, named := ["unicode/utf8.first", "unicode/utf8.acceptRanges", "internal/bytealg.MaxLen"], apart := false, laid := [("unicode/utf8.acceptRanges", laid_unicode_utf8_acceptRanges), ("unicode/utf8.first", laid_unicode_utf8_first)], narrowed := true }
def AuditLogsUptoSaid : Prop := auditLogsUptoRow.holds Tryz.pinned (OpenSpec.upto auditLogsSpec)

/-- 'icehouselaw08.MessagePrints', WHERE WHAT IT READS IS OF BULK AT MOST 1048576: true; the input reads as it did. -/
def messagePrintsUptoRow : OpenClaim := { program := "yteocdpkenlkmbaagreatdoor", sum := "f551a448c7fdabee54f4ddaf4b45adcc92d1bf7ecd63fb1b5a307fd273903d30", func := "icehouse/icehouselaw08.MessagePrints", spec := "messagePrints", inPlace := ["internal/bytealg.IndexByte", "internal/bytealg.CountString", "internal/bytealg.IndexByteString", "internal/bytealg.IndexString", "internal/bytealg.Index", "internal/abi.NoEscape", "internal/bytealg.MakeNoZero"], unfollowed := true, recurses := true, named := ["unicode/utf8.first", "unicode/utf8.acceptRanges", "internal/bytealg.MaxLen"], apart := false, laid := [("unicode/utf8.acceptRanges", laid_unicode_utf8_acceptRanges), ("unicode/utf8.first", laid_unicode_utf8_first)], narrowed := true }
def MessagePrintsUptoSaid : Prop := messagePrintsUptoRow.holds Tryz.pinned (OpenSpec.upto messagePrintsSpec)

end Rows
end Go.Proofs.YteocdpkenlkmbaaGreatDoor
