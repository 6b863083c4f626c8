/-
  No cell of these rows narrows 'for every input' (looked for: loops, veiled, ifaces, maps, wideKeys, modest, calm, conditions, laid).
  DERIVED. THE GIVEN ROWS OF THIS SEAT. 13 by the template 'for every input the law returns true; each argument reads behind the call as it read before'; 0 by the template 'total and deterministic' (their statements: YtcjfmildalappaaGreatTotals.lean).
  GIVEN WITH THE SEED: the statements are not yours to turn. If you find one false, say at which input.
  Laid BY PROGRAM, IN A SANDBOX (cutbox-rows.mjs): the forced cells as the released guide's own fill.sh prints them over the translation a2d07ad61b836416… (all of the seat's roots in one cut). By AI agents, Wed Nov 11 2026. No macro, syntax, notation, axiom, sorry.
-/
import Derived.Test.YtcjfmildalappaaGreatChecked
import GoSem.Claim
import GoSem.ClaimJoined
import GoSem.ClaimMapViews
import Derived.JoinedTies
import Derived.KernelRfl
namespace Go.Proofs.YtcjfmildalappaaGreat
/- THE CELL 'sum', in the pinned program and in every row, IS THE sha256 OF THE DUMP (.gsa) THAT YtcjfmildalappaaGreatProg.lean LOADS. Nothing in Lean hashes anything: it is a label: what it is worth is what the hold of that sum in a sandbox is worth. -/
noncomputable def Tryz.pinned : Pinned := { name := "ytcjfmildalappaagreat", sum := "a2d07ad61b836416359011b02e6d367d26a2e042d65fde167857f363144897f6", checked := Tryz.checked }
namespace Rows
def none {H : Type} : Left H := { results := [], args := [] }

/-- 'kiosklaw19.AggTicks': WHATEVER THE INPUT: true; the input reads as it did. -/
def aggTicksSpec : ChangeSpec := { name := "aggTicks", fn := fun _ => fun
  | [d] => { results := [.lit (.bool true)], args := [d] }
  | _ => none }
def aggTicksRow : OpenClaim := { program := "ytcjfmildalappaagreat", sum := "a2d07ad61b836416359011b02e6d367d26a2e042d65fde167857f363144897f6", func := "kiosk/kiosklaw19.AggTicks", spec := "aggTicks", inPlace := ["internal/bytealg.IndexByteString", "internal/abi.NoEscape", "internal/bytealg.MakeNoZero"], unfollowed := true, recurses := true, apart := false }
def AggTicksSaid : Prop := aggTicksRow.holds Tryz.pinned (OpenSpec.ofChange aggTicksSpec)

/-- ITS FALSE NEIGHBOUR: 'it returns false'. Refute it at one input. -/
def aggTicksWrong : ChangeSpec := { name := "aggTicks", fn := fun _ => fun
  | [d] => { results := [.lit (.bool false)], args := [d] }
  | _ => none }
def AggTicksWrongFalsely : Prop := aggTicksRow.holds Tryz.pinned (OpenSpec.ofChange aggTicksWrong)

/-- 'kiosklaw19.AggLists': WHATEVER THE INPUT: true; the input reads as it did. -/
def aggListsSpec : ChangeSpec := { name := "aggLists", fn := fun _ => fun
  | [d1, d2, d3] => { results := [.lit (.bool true)], args := [d1, d2, d3] }
  | _ => none }
def aggListsRow : OpenClaim := { program := "ytcjfmildalappaagreat", sum := "a2d07ad61b836416359011b02e6d367d26a2e042d65fde167857f363144897f6", func := "kiosk/kiosklaw19.AggLists", spec := "aggLists", inPlace := ["internal/bytealg.IndexByteString", "internal/abi.NoEscape", "internal/bytealg.MakeNoZero"], unfollowed := true, recurses := true, apart := false }
def AggListsSaid : Prop := aggListsRow.holds Tryz.pinned (OpenSpec.ofChange aggListsSpec)

/-- ITS FALSE NEIGHBOUR: 'it returns false'. Refute it at one input. -/
def aggListsWrong : ChangeSpec := { name := "aggLists", fn := fun _ => fun
  | [d1, d2, d3] => { results := [.lit (.bool false)], args := [d1, d2, d3] }
  | _ => none }
def AggListsWrongFalsely : Prop := aggListsRow.holds Tryz.pinned (OpenSpec.ofChange aggListsWrong)

/-- 'kiosklaw19.AggOnce': WHATEVER THE INPUT: true; the input reads as it did. -/
def aggOnceSpec : ChangeSpec := { name := "aggOnce", fn := fun _ => fun
  | [d1, d2, d3] => { results := [.lit (.bool true)], args := [d1, d2, d3] }
  | _ => none }
def aggOnceRow : OpenClaim := { program := "ytcjfmildalappaagreat", sum := "a2d07ad61b836416359011b02e6d367d26a2e042d65fde167857f363144897f6", func := "kiosk/kiosklaw19.AggOnce", spec := "aggOnce", inPlace := ["internal/bytealg.IndexByteString", "internal/abi.NoEscape", "internal/bytealg.MakeNoZero"], unfollowed := true, recurses := true, apart := false }
def AggOnceSaid : Prop := aggOnceRow.holds Tryz.pinned (OpenSpec.ofChange aggOnceSpec)

/-- ITS FALSE NEIGHBOUR: 'it returns false'. Refute it at one input. -/
def aggOnceWrong : ChangeSpec := { name := "aggOnce", fn := fun _ => fun
  | [d1, d2, d3] => { results := [.lit (.bool false)], args := [d1, d2, d3] }
  | _ => none }
def AggOnceWrongFalsely : Prop := aggOnceRow.holds Tryz.pinned (OpenSpec.ofChange aggOnceWrong)

/-- 'kiosklaw19.AggFences': WHATEVER THE INPUT: true; the input reads as it did. -/
def aggFencesSpec : ChangeSpec := { name := "aggFences", fn := fun _ => fun
  | [d1, d2] => { results := [.lit (.bool true)], args := [d1, d2] }
  | _ => none }
def aggFencesRow : OpenClaim := { program := "ytcjfmildalappaagreat", sum := "a2d07ad61b836416359011b02e6d367d26a2e042d65fde167857f363144897f6", func := "kiosk/kiosklaw19.AggFences", spec := "aggFences", inPlace := ["internal/bytealg.IndexByteString", "internal/abi.NoEscape", "internal/bytealg.MakeNoZero"], unfollowed := true, recurses := true, apart := false }
def AggFencesSaid : Prop := aggFencesRow.holds Tryz.pinned (OpenSpec.ofChange aggFencesSpec)

/-- ITS FALSE NEIGHBOUR: 'it returns false'. Refute it at one input. -/
def aggFencesWrong : ChangeSpec := { name := "aggFences", fn := fun _ => fun
  | [d1, d2] => { results := [.lit (.bool false)], args := [d1, d2] }
  | _ => none }
def AggFencesWrongFalsely : Prop := aggFencesRow.holds Tryz.pinned (OpenSpec.ofChange aggFencesWrong)

/-- 'kiosklaw19.AggPlays': WHATEVER THE INPUT: true; the input reads as it did. -/
def aggPlaysSpec : ChangeSpec := { name := "aggPlays", fn := fun _ => fun
  | [d1, d2, d3, d4] => { results := [.lit (.bool true)], args := [d1, d2, d3, d4] }
  | _ => none }
def aggPlaysRow : OpenClaim := { program := "ytcjfmildalappaagreat", sum := "a2d07ad61b836416359011b02e6d367d26a2e042d65fde167857f363144897f6", func := "kiosk/kiosklaw19.AggPlays", spec := "aggPlays", inPlace := ["internal/bytealg.IndexByteString", "internal/abi.NoEscape", "internal/bytealg.MakeNoZero"], unfollowed := true, recurses := true, apart := false }
def AggPlaysSaid : Prop := aggPlaysRow.holds Tryz.pinned (OpenSpec.ofChange aggPlaysSpec)

/-- ITS FALSE NEIGHBOUR: 'it returns false'. Refute it at one input. -/
def aggPlaysWrong : ChangeSpec := { name := "aggPlays", fn := fun _ => fun
  | [d1, d2, d3, d4] => { results := [.lit (.bool false)], args := [d1, d2, d3, d4] }
  | _ => none }
def AggPlaysWrongFalsely : Prop := aggPlaysRow.holds Tryz.pinned (OpenSpec.ofChange aggPlaysWrong)

/-- 'kiosklaw19.AggReads': WHATEVER THE INPUT: true; the input reads as it did. -/
def aggReadsSpec : ChangeSpec := { name := "aggReads", fn := fun _ => fun
  | [d1, d2, d3, d4] => { results := [.lit (.bool true)], args := [d1, d2, d3, d4] }
  | _ => none }
def aggReadsRow : OpenClaim := { program := "ytcjfmildalappaagreat", sum := "a2d07ad61b836416359011b02e6d367d26a2e042d65fde167857f363144897f6", func := "kiosk/kiosklaw19.AggReads", spec := "aggReads", inPlace := ["internal/bytealg.IndexByteString", "internal/abi.NoEscape", "internal/bytealg.MakeNoZero"], unfollowed := true, recurses := true, apart := false }
def AggReadsSaid : Prop := aggReadsRow.holds Tryz.pinned (OpenSpec.ofChange aggReadsSpec)

/-- ITS FALSE NEIGHBOUR: 'it returns false'. Refute it at one input. -/
def aggReadsWrong : ChangeSpec := { name := "aggReads", fn := fun _ => fun
  | [d1, d2, d3, d4] => { results := [.lit (.bool false)], args := [d1, d2, d3, d4] }
  | _ => none }
def AggReadsWrongFalsely : Prop := aggReadsRow.holds Tryz.pinned (OpenSpec.ofChange aggReadsWrong)

/-- 'kiosklaw19.AggKeeps': WHATEVER THE INPUT: true; the input reads as it did. -/
def aggKeepsSpec : ChangeSpec := { name := "aggKeeps", fn := fun _ => fun
  | [d1, d2] => { results := [.lit (.bool true)], args := [d1, d2] }
  | _ => none }
def aggKeepsRow : OpenClaim := { program := "ytcjfmildalappaagreat", sum := "a2d07ad61b836416359011b02e6d367d26a2e042d65fde167857f363144897f6", func := "kiosk/kiosklaw19.AggKeeps", spec := "aggKeeps", inPlace := ["internal/bytealg.IndexByteString", "internal/abi.NoEscape", "internal/bytealg.MakeNoZero"], unfollowed := true, recurses := true, apart := false }
def AggKeepsSaid : Prop := aggKeepsRow.holds Tryz.pinned (OpenSpec.ofChange aggKeepsSpec)

/-- ITS FALSE NEIGHBOUR: 'it returns false'. Refute it at one input. -/
def aggKeepsWrong : ChangeSpec := { name := "aggKeeps", fn := fun _ => fun
  | [d1, d2] => { results := [.lit (.bool false)], args := [d1, d2] }
  | _ => none }
def AggKeepsWrongFalsely : Prop := aggKeepsRow.holds Tryz.pinned (OpenSpec.ofChange aggKeepsWrong)

/-- 'kiosklaw23.HistoryGrows': WHATEVER THE INPUT: true; the input reads as it did. -/
def historyGrowsSpec : ChangeSpec := { name := "historyGrows", fn := fun _ => fun
  | [d1, d2] => { results := [.lit (.bool true)], args := [d1, d2] }
  | _ => none }
def historyGrowsRow : OpenClaim := { program := "ytcjfmildalappaagreat", sum := "a2d07ad61b836416359011b02e6d367d26a2e042d65fde167857f363144897f6", func := "kiosk/kiosklaw23.HistoryGrows", spec := "historyGrows", inPlace := ["internal/bytealg.IndexByteString", "internal/abi.NoEscape", "internal/bytealg.MakeNoZero"], unfollowed := true, recurses := true, apart := false }
def HistoryGrowsSaid : Prop := historyGrowsRow.holds Tryz.pinned (OpenSpec.ofChange historyGrowsSpec)

/-- ITS FALSE NEIGHBOUR: 'it returns false'. Refute it at one input. -/
def historyGrowsWrong : ChangeSpec := { name := "historyGrows", fn := fun _ => fun
  | [d1, d2] => { results := [.lit (.bool false)], args := [d1, d2] }
  | _ => none }
def HistoryGrowsWrongFalsely : Prop := historyGrowsRow.holds Tryz.pinned (OpenSpec.ofChange historyGrowsWrong)

/-- 'kiosklaw23.HistoryTwice': WHATEVER THE INPUT: true; the input reads as it did. -/
def historyTwiceSpec : ChangeSpec := { name := "historyTwice", fn := fun _ => fun
  | [d1, d2] => { results := [.lit (.bool true)], args := [d1, d2] }
  | _ => none }
def historyTwiceRow : OpenClaim := { program := "ytcjfmildalappaagreat", sum := "a2d07ad61b836416359011b02e6d367d26a2e042d65fde167857f363144897f6", func := "kiosk/kiosklaw23.HistoryTwice", spec := "historyTwice", inPlace := ["internal/bytealg.IndexByteString", "internal/abi.NoEscape", "internal/bytealg.MakeNoZero"], unfollowed := true, recurses := true, apart := false }
def HistoryTwiceSaid : Prop := historyTwiceRow.holds Tryz.pinned (OpenSpec.ofChange historyTwiceSpec)

/-- ITS FALSE NEIGHBOUR: 'it returns false'. Refute it at one input. -/
def historyTwiceWrong : ChangeSpec := { name := "historyTwice", fn := fun _ => fun
  | [d1, d2] => { results := [.lit (.bool false)], args := [d1, d2] }
  | _ => none }
def HistoryTwiceWrongFalsely : Prop := historyTwiceRow.holds Tryz.pinned (OpenSpec.ofChange historyTwiceWrong)

/-- 'kiosklaw23.HistoryFits': WHATEVER THE INPUT: true; the input reads as it did. -/
def historyFitsSpec : ChangeSpec := { name := "historyFits", fn := fun _ => fun
  | [d1, d2] => { results := [.lit (.bool true)], args := [d1, d2] }
  | _ => none }
def historyFitsRow : OpenClaim := { program := "ytcjfmildalappaagreat", sum := "a2d07ad61b836416359011b02e6d367d26a2e042d65fde167857f363144897f6", func := "kiosk/kiosklaw23.HistoryFits", spec := "historyFits", inPlace := ["internal/bytealg.IndexByteString", "internal/abi.NoEscape", "internal/bytealg.MakeNoZero"], unfollowed := true, recurses := true, apart := false }
def HistoryFitsSaid : Prop := historyFitsRow.holds Tryz.pinned (OpenSpec.ofChange historyFitsSpec)

/-- ITS FALSE NEIGHBOUR: 'it returns false'. Refute it at one input. -/
def historyFitsWrong : ChangeSpec := { name := "historyFits", fn := fun _ => fun
  | [d1, d2] => { results := [.lit (.bool false)], args := [d1, d2] }
  | _ => none }
def HistoryFitsWrongFalsely : Prop := historyFitsRow.holds Tryz.pinned (OpenSpec.ofChange historyFitsWrong)

/-- 'kiosklaw23.HistoryRuns': WHATEVER THE INPUT: true; the input reads as it did. -/
def historyRunsSpec : ChangeSpec := { name := "historyRuns", fn := fun _ => fun
  | [d] => { results := [.lit (.bool true)], args := [d] }
  | _ => none }
def historyRunsRow : OpenClaim := { program := "ytcjfmildalappaagreat", sum := "a2d07ad61b836416359011b02e6d367d26a2e042d65fde167857f363144897f6", func := "kiosk/kiosklaw23.HistoryRuns", spec := "historyRuns", inPlace := ["internal/bytealg.IndexByteString", "internal/abi.NoEscape", "internal/bytealg.MakeNoZero"], unfollowed := true, recurses := true, apart := false }
def HistoryRunsSaid : Prop := historyRunsRow.holds Tryz.pinned (OpenSpec.ofChange historyRunsSpec)

/-- ITS FALSE NEIGHBOUR: 'it returns false'. Refute it at one input. -/
def historyRunsWrong : ChangeSpec := { name := "historyRuns", fn := fun _ => fun
  | [d] => { results := [.lit (.bool false)], args := [d] }
  | _ => none }
def HistoryRunsWrongFalsely : Prop := historyRunsRow.holds Tryz.pinned (OpenSpec.ofChange historyRunsWrong)

/-- 'kiosklaw23.HistorySerial': WHATEVER THE INPUT: true; the input reads as it did. -/
def historySerialSpec : ChangeSpec := { name := "historySerial", fn := fun _ => fun
  | [d1, d2, d3, d4] => { results := [.lit (.bool true)], args := [d1, d2, d3, d4] }
  | _ => none }
def historySerialRow : OpenClaim := { program := "ytcjfmildalappaagreat", sum := "a2d07ad61b836416359011b02e6d367d26a2e042d65fde167857f363144897f6", func := "kiosk/kiosklaw23.HistorySerial", spec := "historySerial", inPlace := ["internal/bytealg.IndexByteString", "internal/abi.NoEscape", "internal/bytealg.MakeNoZero"], unfollowed := true, recurses := true, apart := false }
def HistorySerialSaid : Prop := historySerialRow.holds Tryz.pinned (OpenSpec.ofChange historySerialSpec)

/-- ITS FALSE NEIGHBOUR: 'it returns false'. Refute it at one input. -/
def historySerialWrong : ChangeSpec := { name := "historySerial", fn := fun _ => fun
  | [d1, d2, d3, d4] => { results := [.lit (.bool false)], args := [d1, d2, d3, d4] }
  | _ => none }
def HistorySerialWrongFalsely : Prop := historySerialRow.holds Tryz.pinned (OpenSpec.ofChange historySerialWrong)

/-- 'kiosklaw23.HistoryWaits': WHATEVER THE INPUT: true; the input reads as it did. -/
def historyWaitsSpec : ChangeSpec := { name := "historyWaits", fn := fun _ => fun
  | [d1, d2, d3, d4] => { results := [.lit (.bool true)], args := [d1, d2, d3, d4] }
  | _ => none }
def historyWaitsRow : OpenClaim := { program := "ytcjfmildalappaagreat", sum := "a2d07ad61b836416359011b02e6d367d26a2e042d65fde167857f363144897f6", func := "kiosk/kiosklaw23.HistoryWaits", spec := "historyWaits", inPlace := ["internal/bytealg.IndexByteString", "internal/abi.NoEscape", "internal/bytealg.MakeNoZero"], unfollowed := true, recurses := true, apart := false }
def HistoryWaitsSaid : Prop := historyWaitsRow.holds Tryz.pinned (OpenSpec.ofChange historyWaitsSpec)

/-- ITS FALSE NEIGHBOUR: 'it returns false'. Refute it at one input. -/
def historyWaitsWrong : ChangeSpec := { name := "historyWaits", fn := fun _ => fun
  | [d1, d2, d3, d4] => { results := [.lit (.bool false)], args := [d1, d2, d3, d4] }
  | _ => none }
def HistoryWaitsWrongFalsely : Prop := historyWaitsRow.holds Tryz.pinned (OpenSpec.ofChange historyWaitsWrong)

/- THE SECOND FORM. 'bulk': how many values and letters a reading holds, each counted each time it is reached (what is shared counts as often as it is met; a slice's spare places count too). A statement '..UptoSaid' is the law's where the arguments, and the package variables that the reading takes, are together of bulk at most 1048576: NARROWER than '..Said'. Prove '..Said' where nothing that the law and all that it calls make is longer than what came in: it says more and counts as full. Else prove '..UptoSaid'. A law counts once. -/
mutual
def uptoBulk {H : Type} : DataW H → Nat
  | .lit (.string bytes) => bytes.length + 1
  | .lit _ => 1
  | .nil => 1
  | .ptr d => uptoBulk d + 1
  | .slice elems spare => uptoBulkAll elems + uptoBulkAll spare + 1
  | .agg parts => uptoBulkAll parts + 1
  | .iface _ d => uptoBulk d + 1
  | .map entries => uptoBulkEntries entries + 1
  | .held _ => 1
def uptoBulkAll {H : Type} : List (DataW H) → Nat
  | [] => 0
  | d :: r => uptoBulk d + uptoBulkAll r
def uptoBulkEntries {H : Type} : List (Lit × DataW H) → Nat
  | [] => 0
  | x :: r => uptoBulkEntry x + uptoBulkEntries r
def uptoBulkEntry {H : Type} : Lit × DataW H → Nat
  | (.string bytes, d) => bytes.length + uptoBulk d + 1
  | (_, d) => uptoBulk d + 1
 end
def uptoSmall : (H : Type) → List (DataW H) → Bool := fun _ ds => decide (uptoBulkAll ds ≤ 1048576)
def OpenSpec.upto (s : _root_.Go.ChangeSpec) : _root_.Go.OpenSpec := { _root_.Go.OpenSpec.ofChange s with cond := some uptoSmall }

/-- 'kiosklaw19.AggTicks', WHERE WHAT IT READS IS OF BULK AT MOST 1048576: true; the input reads as it did. -/
def aggTicksUptoRow : OpenClaim := { program := "ytcjfmildalappaagreat", sum := "a2d07ad61b836416359011b02e6d367d26a2e042d65fde167857f363144897f6", func := "kiosk/kiosklaw19.AggTicks", spec := "aggTicks", inPlace := ["internal/bytealg.IndexByteString", "internal/abi.NoEscape", "internal/bytealg.MakeNoZero"], unfollowed := true, recurses := true, apart := false, narrowed := true }
def AggTicksUptoSaid : Prop := aggTicksUptoRow.holds Tryz.pinned (OpenSpec.upto aggTicksSpec)

/-- 'kiosklaw19.AggLists', WHERE WHAT IT READS IS OF BULK AT MOST 1048576: true; the input reads as it did. -/
def aggListsUptoRow : OpenClaim := { program := "ytcjfmildalappaagreat", sum := "a2d07ad61b836416359011b02e6d367d26a2e042d65fde167857f363144897f6", func := "kiosk/kiosklaw19.AggLists", spec := "aggLists", inPlace := ["internal/bytealg.IndexByteString", "internal/abi.NoEscape", "internal/bytealg.MakeNoZero"], unfollowed := true, recurses := true, apart := false, narrowed := true }
def AggListsUptoSaid : Prop := aggListsUptoRow.holds Tryz.pinned (OpenSpec.upto aggListsSpec)

/-- 'kiosklaw19.AggOnce', WHERE WHAT IT READS IS OF BULK AT MOST 1048576: true; the input reads as it did. -/
def aggOnceUptoRow : OpenClaim := { program := "ytcjfmildalappaagreat", sum := "a2d07ad61b836416359011b02e6d367d26a2e042d65fde167857f363144897f6", func := "kiosk/kiosklaw19.AggOnce", spec := "aggOnce", inPlace := ["internal/bytealg.IndexByteString", "internal/abi.NoEscape", "internal/bytealg.MakeNoZero"], unfollowed := true, recurses := true, apart := false, narrowed := true }
def AggOnceUptoSaid : Prop := aggOnceUptoRow.holds Tryz.pinned (OpenSpec.upto aggOnceSpec)

/-- 'kiosklaw19.AggFences', WHERE WHAT IT READS IS OF BULK AT MOST 1048576: true; the input reads as it did. -/
def aggFencesUptoRow : OpenClaim := { program := "ytcjfmildalappaagreat", sum := "a2d07ad61b836416359011b02e6d367d26a2e042d65fde167857f363144897f6", func := "kiosk/kiosklaw19.AggFences", spec := "aggFences", inPlace := ["internal/bytealg.IndexByteString", "internal/abi.NoEscape", "internal/bytealg.MakeNoZero"], unfollowed := true, recurses := true, apart := false, narrowed := true }
def AggFencesUptoSaid : Prop := aggFencesUptoRow.holds Tryz.pinned (OpenSpec.upto aggFencesSpec)

/-- 'kiosklaw19.AggPlays', WHERE WHAT IT READS IS OF BULK AT MOST 1048576: true; the input reads as it did. -/
def aggPlaysUptoRow : OpenClaim := { program := "ytcjfmildalappaagreat", sum := "a2d07ad61b836416359011b02e6d367d26a2e042d65fde167857f363144897f6", func := "kiosk/kiosklaw19.AggPlays", spec := "aggPlays", inPlace := ["internal/bytealg.IndexByteString", "internal/abi.NoEscape", "internal/bytealg.MakeNoZero"], unfollowed := true, recurses := true, apart := false, narrowed := true }
def AggPlaysUptoSaid : Prop := aggPlaysUptoRow.holds Tryz.pinned (OpenSpec.upto aggPlaysSpec)

/-- 'kiosklaw19.AggReads', WHERE WHAT IT READS IS OF BULK AT MOST 1048576: true; the input reads as it did. -/
def aggReadsUptoRow : OpenClaim := { program := "ytcjfmildalappaagreat", sum := "a2d07ad61b836416359011b02e6d367d26a2e042d65fde167857f363144897f6", func := "kiosk/kiosklaw19.AggReads", spec := "aggReads", inPlace := ["internal/bytealg.IndexByteString", "internal/abi.NoEscape", "internal/bytealg.MakeNoZero"], unfollowed := true, recurses := true, apart := false, narrowed := true }
def AggReadsUptoSaid : Prop := aggReadsUptoRow.holds Tryz.pinned (OpenSpec.upto aggReadsSpec)

/-- 'kiosklaw19.AggKeeps', WHERE WHAT IT READS IS OF BULK AT MOST 1048576: true; the input reads as it did. -/
def aggKeepsUptoRow : OpenClaim := { program := "ytcjfmildalappaagreat", sum := "a2d07ad61b836416359011b02e6d367d26a2e042d65fde167857f363144897f6", func := "kiosk/kiosklaw19.AggKeeps", spec := "aggKeeps", inPlace := ["internal/bytealg.IndexByteString", "internal/abi.NoEscape", "internal/bytealg.MakeNoZero"], unfollowed := true, recurses := true, apart := false, narrowed := true }
def AggKeepsUptoSaid : Prop := aggKeepsUptoRow.holds Tryz.pinned (OpenSpec.upto aggKeepsSpec)

/-- 'kiosklaw23.HistoryGrows', WHERE WHAT IT READS IS OF BULK AT MOST 1048576: true; the input reads as it did. -/
def historyGrowsUptoRow : OpenClaim := { program := "ytcjfmildalappaagreat", sum := "a2d07ad61b836416359011b02e6d367d26a2e042d65fde167857f363144897f6", func := "kiosk/kiosklaw23.HistoryGrows", spec := "historyGrows", inPlace := ["internal/bytealg.IndexByteString", "internal/abi.NoEscape", "internal/bytealg.MakeNoZero"], unfollowed := true, recurses := true, apart := false, narrowed := true }
def HistoryGrowsUptoSaid : Prop := historyGrowsUptoRow.holds Tryz.pinned (OpenSpec.upto historyGrowsSpec)

/-- 'kiosklaw23.HistoryTwice', WHERE WHAT IT READS IS OF BULK AT MOST 1048576: true; the input reads as it did. -/
def historyTwiceUptoRow : OpenClaim := { program := "ytcjfmildalappaagreat", sum := "a2d07ad61b836416359011b02e6d367d26a2e042d65fde167857f363144897f6", func := "kiosk/kiosklaw23.HistoryTwice", spec := "historyTwice", inPlace := ["internal/bytealg.IndexByteString", "internal/abi.NoEscape", "internal/bytealg.MakeNoZero"], unfollowed := true, recurses := true, apart := false, narrowed := true }
def HistoryTwiceUptoSaid : Prop := historyTwiceUptoRow.holds Tryz.pinned (OpenSpec.upto historyTwiceSpec)

/-- 'kiosklaw23.HistoryFits', WHERE WHAT IT READS IS OF BULK AT MOST 1048576: true; the input reads as it did. -/
def historyFitsUptoRow : OpenClaim := { program := "ytcjfmildalappaagreat", sum := "a2d07ad61b836416359011b02e6d367d26a2e042d65fde167857f363144897f6", func := "kiosk/kiosklaw23.HistoryFits", spec := "historyFits", inPlace := ["internal/bytealg.IndexByteString", "internal/abi.NoEscape", "internal/bytealg.MakeNoZero"], unfollowed := true, recurses := true, apart := false, narrowed := true }
def HistoryFitsUptoSaid : Prop := historyFitsUptoRow.holds Tryz.pinned (OpenSpec.upto historyFitsSpec)

/-- 'kiosklaw23.HistoryRuns', WHERE WHAT IT READS IS OF BULK AT MOST 1048576: true; the input reads as it did. -/
def historyRunsUptoRow : OpenClaim := { program := "ytcjfmildalappaagreat", sum := "a2d07ad61b836416359011b02e6d367d26a2e042d65fde167857f363144897f6", func := "kiosk/kiosklaw23.HistoryRuns", spec := "historyRuns", inPlace := ["internal/bytealg.IndexByteString", "internal/abi.NoEscape", "internal/bytealg.MakeNoZero"], unfollowed := true, recurses := true, apart := false, narrowed := true }
def HistoryRunsUptoSaid : Prop := historyRunsUptoRow.holds Tryz.pinned (OpenSpec.upto historyRunsSpec)

/-- 'kiosklaw23.HistorySerial', WHERE WHAT IT READS IS OF BULK AT MOST 1048576: true; the input reads as it did. -/
def historySerialUptoRow : OpenClaim := { program := "ytcjfmildalappaagreat", sum := "a2d07ad61b836416359011b02e6d367d26a2e042d65fde167857f363144897f6", func := "kiosk/kiosklaw23.HistorySerial", spec := "historySerial", inPlace := ["internal/bytealg.IndexByteString", "internal/abi.NoEscape", "internal/bytealg.MakeNoZero"], unfollowed := true, recurses := true, apart := false, narrowed := true }
def HistorySerialUptoSaid : Prop := historySerialUptoRow.holds Tryz.pinned (OpenSpec.upto historySerialSpec)

/-- 'kiosklaw23.HistoryWaits', WHERE WHAT IT READS IS OF BULK AT MOST 1048576: true; the input reads as it did. -/
def historyWaitsUptoRow : OpenClaim := { program := "ytcjfmildalappaagreat", sum := "a2d07ad61b836416359011b02e6d367d26a2e042d65fde167857f363144897f6", func := "kiosk/kiosklaw23.HistoryWaits", spec := "historyWaits", inPlace := ["internal/bytealg.IndexByteString", "internal/abi.NoEscape", "internal/bytealg.MakeNoZero"], unfollowed := true, recurses := true, apart := false, narrowed := true }
def HistoryWaitsUptoSaid : Prop := historyWaitsUptoRow.holds Tryz.pinned (OpenSpec.upto historyWaitsSpec)

end Rows
end Go.Proofs.YtcjfmildalappaaGreat
