/-
  No cell of these rows narrows 'for every input' (looked for: loops, veiled, ifaces, maps, wideKeys, modest, calm, conditions, laid).
  DERIVED. THE GIVEN ROWS OF THIS SEAT. 20 by the template 'for every input the law returns true; each argument reads behind the call as it read before'; 0 by the template 'total and deterministic' (their statements: YtojhbhdlbbmghaaTotals.lean).
  GIVEN WITH THE SEED: the statements are not yours to turn. If you find one false, say at which input.
  Laid BY PROGRAM, IN A SANDBOX (cutbox-rows.mjs): the forced cells as the released guide's own fill.sh prints them over the translation 42ac9080638663df… (all of the seat's roots in one cut). By AI agents, Wed Nov 11 2026. No macro, syntax, notation, axiom, sorry.
-/
import Derived.Test.YtojhbhdlbbmghaaChecked
import GoSem.Claim
import GoSem.ClaimJoined
import GoSem.ClaimMapViews
import Derived.JoinedTies
import Derived.KernelRfl
namespace Go.Proofs.Ytojhbhdlbbmghaa
/- THE CELL 'sum', in the pinned program and in every row, IS THE sha256 OF THE DUMP (.gsa) THAT YtojhbhdlbbmghaaProg.lean LOADS. Nothing in Lean hashes anything: it is a label: what it is worth is what the hold of that sum in a sandbox is worth. -/
noncomputable def Try.pinned : Pinned := { name := "ytojhbhdlbbmghaa", sum := "42ac9080638663dfcfae161d7aea5c2d0f31c2b9fa774609f9376635ae9cd8be", checked := Try.checked }
namespace Rows
def none {H : Type} : Left H := { results := [], args := [] }

/-- 'kiosklaw1.CodecNumbers': WHATEVER THE INPUT: true; the input reads as it did. -/
def codecNumbersSpec : ChangeSpec := { name := "codecNumbers", fn := fun _ => fun
  | [d1, d2, d3] => { results := [.lit (.bool true)], args := [d1, d2, d3] }
  | _ => none }
def codecNumbersRow : OpenClaim := { program := "ytojhbhdlbbmghaa", sum := "42ac9080638663dfcfae161d7aea5c2d0f31c2b9fa774609f9376635ae9cd8be", func := "kiosk/kiosklaw1.CodecNumbers", spec := "codecNumbers", inPlace := ["internal/abi.NoEscape"], unfollowed := true, recurses := true, apart := false }
def CodecNumbersSaid : Prop := codecNumbersRow.holds Try.pinned (OpenSpec.ofChange codecNumbersSpec)

/-- ITS FALSE NEIGHBOUR: 'it returns false'. Refute it at one input. -/
def codecNumbersWrong : ChangeSpec := { name := "codecNumbers", fn := fun _ => fun
  | [d1, d2, d3] => { results := [.lit (.bool false)], args := [d1, d2, d3] }
  | _ => none }
def CodecNumbersWrongFalsely : Prop := codecNumbersRow.holds Try.pinned (OpenSpec.ofChange codecNumbersWrong)

/-- 'kiosklaw1.CodecFrames': WHATEVER THE INPUT: true; the input reads as it did. -/
def codecFramesSpec : ChangeSpec := { name := "codecFrames", fn := fun _ => fun
  | [d1, d2] => { results := [.lit (.bool true)], args := [d1, d2] }
  | _ => none }
def codecFramesRow : OpenClaim := { program := "ytojhbhdlbbmghaa", sum := "42ac9080638663dfcfae161d7aea5c2d0f31c2b9fa774609f9376635ae9cd8be", func := "kiosk/kiosklaw1.CodecFrames", spec := "codecFrames", inPlace := ["internal/abi.NoEscape"], unfollowed := true, recurses := true, apart := false }
def CodecFramesSaid : Prop := codecFramesRow.holds Try.pinned (OpenSpec.ofChange codecFramesSpec)

/-- ITS FALSE NEIGHBOUR: 'it returns false'. Refute it at one input. -/
def codecFramesWrong : ChangeSpec := { name := "codecFrames", fn := fun _ => fun
  | [d1, d2] => { results := [.lit (.bool false)], args := [d1, d2] }
  | _ => none }
def CodecFramesWrongFalsely : Prop := codecFramesRow.holds Try.pinned (OpenSpec.ofChange codecFramesWrong)

/-- 'kiosklaw1.CodecCuts': WHATEVER THE INPUT: true; the input reads as it did. -/
def codecCutsSpec : ChangeSpec := { name := "codecCuts", fn := fun _ => fun
  | [d1, d2, d3] => { results := [.lit (.bool true)], args := [d1, d2, d3] }
  | _ => none }
def codecCutsRow : OpenClaim := { program := "ytojhbhdlbbmghaa", sum := "42ac9080638663dfcfae161d7aea5c2d0f31c2b9fa774609f9376635ae9cd8be", func := "kiosk/kiosklaw1.CodecCuts", spec := "codecCuts", inPlace := ["internal/abi.NoEscape"], unfollowed := true, recurses := true, apart := false }
def CodecCutsSaid : Prop := codecCutsRow.holds Try.pinned (OpenSpec.ofChange codecCutsSpec)

/-- ITS FALSE NEIGHBOUR: 'it returns false'. Refute it at one input. -/
def codecCutsWrong : ChangeSpec := { name := "codecCuts", fn := fun _ => fun
  | [d1, d2, d3] => { results := [.lit (.bool false)], args := [d1, d2, d3] }
  | _ => none }
def CodecCutsWrongFalsely : Prop := codecCutsRow.holds Try.pinned (OpenSpec.ofChange codecCutsWrong)

/-- 'kiosklaw1.CodecRows': WHATEVER THE INPUT: true; the input reads as it did. -/
def codecRowsSpec : ChangeSpec := { name := "codecRows", fn := fun _ => fun
  | [d] => { results := [.lit (.bool true)], args := [d] }
  | _ => none }
def codecRowsRow : OpenClaim := { program := "ytojhbhdlbbmghaa", sum := "42ac9080638663dfcfae161d7aea5c2d0f31c2b9fa774609f9376635ae9cd8be", func := "kiosk/kiosklaw1.CodecRows", spec := "codecRows", inPlace := ["internal/abi.NoEscape"], unfollowed := true, recurses := true, apart := false }
def CodecRowsSaid : Prop := codecRowsRow.holds Try.pinned (OpenSpec.ofChange codecRowsSpec)

/-- ITS FALSE NEIGHBOUR: 'it returns false'. Refute it at one input. -/
def codecRowsWrong : ChangeSpec := { name := "codecRows", fn := fun _ => fun
  | [d] => { results := [.lit (.bool false)], args := [d] }
  | _ => none }
def CodecRowsWrongFalsely : Prop := codecRowsRow.holds Try.pinned (OpenSpec.ofChange codecRowsWrong)

/-- 'kiosklaw1.CodecSums': WHATEVER THE INPUT: true; the input reads as it did. -/
def codecSumsSpec : ChangeSpec := { name := "codecSums", fn := fun _ => fun
  | [d1, d2, d3] => { results := [.lit (.bool true)], args := [d1, d2, d3] }
  | _ => none }
def codecSumsRow : OpenClaim := { program := "ytojhbhdlbbmghaa", sum := "42ac9080638663dfcfae161d7aea5c2d0f31c2b9fa774609f9376635ae9cd8be", func := "kiosk/kiosklaw1.CodecSums", spec := "codecSums", inPlace := ["internal/abi.NoEscape"], unfollowed := true, recurses := true, apart := false }
def CodecSumsSaid : Prop := codecSumsRow.holds Try.pinned (OpenSpec.ofChange codecSumsSpec)

/-- ITS FALSE NEIGHBOUR: 'it returns false'. Refute it at one input. -/
def codecSumsWrong : ChangeSpec := { name := "codecSums", fn := fun _ => fun
  | [d1, d2, d3] => { results := [.lit (.bool false)], args := [d1, d2, d3] }
  | _ => none }
def CodecSumsWrongFalsely : Prop := codecSumsRow.holds Try.pinned (OpenSpec.ofChange codecSumsWrong)

/-- 'kiosklaw1.CodecFramed': WHATEVER THE INPUT: true; the input reads as it did. -/
def codecFramedSpec : ChangeSpec := { name := "codecFramed", fn := fun _ => fun
  | [d] => { results := [.lit (.bool true)], args := [d] }
  | _ => none }
def codecFramedRow : OpenClaim := { program := "ytojhbhdlbbmghaa", sum := "42ac9080638663dfcfae161d7aea5c2d0f31c2b9fa774609f9376635ae9cd8be", func := "kiosk/kiosklaw1.CodecFramed", spec := "codecFramed", inPlace := ["internal/abi.NoEscape"], unfollowed := true, recurses := true, apart := false }
def CodecFramedSaid : Prop := codecFramedRow.holds Try.pinned (OpenSpec.ofChange codecFramedSpec)

/-- ITS FALSE NEIGHBOUR: 'it returns false'. Refute it at one input. -/
def codecFramedWrong : ChangeSpec := { name := "codecFramed", fn := fun _ => fun
  | [d] => { results := [.lit (.bool false)], args := [d] }
  | _ => none }
def CodecFramedWrongFalsely : Prop := codecFramedRow.holds Try.pinned (OpenSpec.ofChange codecFramedWrong)

/-- 'kiosklaw1.CodecTexts': WHATEVER THE INPUT: true; the input reads as it did. -/
def codecTextsSpec : ChangeSpec := { name := "codecTexts", fn := fun _ => fun
  | [d1, d2, d3, d4] => { results := [.lit (.bool true)], args := [d1, d2, d3, d4] }
  | _ => none }
def codecTextsRow : OpenClaim := { program := "ytojhbhdlbbmghaa", sum := "42ac9080638663dfcfae161d7aea5c2d0f31c2b9fa774609f9376635ae9cd8be", func := "kiosk/kiosklaw1.CodecTexts", spec := "codecTexts", inPlace := ["internal/abi.NoEscape"], unfollowed := true, recurses := true, apart := false }
def CodecTextsSaid : Prop := codecTextsRow.holds Try.pinned (OpenSpec.ofChange codecTextsSpec)

/-- ITS FALSE NEIGHBOUR: 'it returns false'. Refute it at one input. -/
def codecTextsWrong : ChangeSpec := { name := "codecTexts", fn := fun _ => fun
  | [d1, d2, d3, d4] => { results := [.lit (.bool false)], args := [d1, d2, d3, d4] }
  | _ => none }
def CodecTextsWrongFalsely : Prop := codecTextsRow.holds Try.pinned (OpenSpec.ofChange codecTextsWrong)

/-- 'kiosklaw1.CodecBack': WHATEVER THE INPUT: true; the input reads as it did. -/
def codecBackSpec : ChangeSpec := { name := "codecBack", fn := fun _ => fun
  | [d1, d2, d3] => { results := [.lit (.bool true)], args := [d1, d2, d3] }
  | _ => none }
def codecBackRow : OpenClaim := { program := "ytojhbhdlbbmghaa", sum := "42ac9080638663dfcfae161d7aea5c2d0f31c2b9fa774609f9376635ae9cd8be", func := "kiosk/kiosklaw1.CodecBack", spec := "codecBack", inPlace := ["internal/abi.NoEscape"], unfollowed := true, recurses := true, apart := false }
def CodecBackSaid : Prop := codecBackRow.holds Try.pinned (OpenSpec.ofChange codecBackSpec)

/-- ITS FALSE NEIGHBOUR: 'it returns false'. Refute it at one input. -/
def codecBackWrong : ChangeSpec := { name := "codecBack", fn := fun _ => fun
  | [d1, d2, d3] => { results := [.lit (.bool false)], args := [d1, d2, d3] }
  | _ => none }
def CodecBackWrongFalsely : Prop := codecBackRow.holds Try.pinned (OpenSpec.ofChange codecBackWrong)

/-- 'kiosklaw15.SessionOnce': WHATEVER THE INPUT: true; the input reads as it did. -/
def sessionOnceSpec : ChangeSpec := { name := "sessionOnce", fn := fun _ => fun
  | [d1, d2, d3, d4] => { results := [.lit (.bool true)], args := [d1, d2, d3, d4] }
  | _ => none }
def sessionOnceRow : OpenClaim := { program := "ytojhbhdlbbmghaa", sum := "42ac9080638663dfcfae161d7aea5c2d0f31c2b9fa774609f9376635ae9cd8be", func := "kiosk/kiosklaw15.SessionOnce", spec := "sessionOnce", unfollowed := true, recurses := true, apart := false }
def SessionOnceSaid : Prop := sessionOnceRow.holds Try.pinned (OpenSpec.ofChange sessionOnceSpec)

/-- ITS FALSE NEIGHBOUR: 'it returns false'. Refute it at one input. -/
def sessionOnceWrong : ChangeSpec := { name := "sessionOnce", fn := fun _ => fun
  | [d1, d2, d3, d4] => { results := [.lit (.bool false)], args := [d1, d2, d3, d4] }
  | _ => none }
def SessionOnceWrongFalsely : Prop := sessionOnceRow.holds Try.pinned (OpenSpec.ofChange sessionOnceWrong)

/-- 'kiosklaw15.SessionStays': WHATEVER THE INPUT: true; the input reads as it did. -/
def sessionStaysSpec : ChangeSpec := { name := "sessionStays", fn := fun _ => fun
  | [d1, d2] => { results := [.lit (.bool true)], args := [d1, d2] }
  | _ => none }
def sessionStaysRow : OpenClaim := { program := "ytojhbhdlbbmghaa", sum := "42ac9080638663dfcfae161d7aea5c2d0f31c2b9fa774609f9376635ae9cd8be", func := "kiosk/kiosklaw15.SessionStays", spec := "sessionStays", unfollowed := true, recurses := true, apart := false }
def SessionStaysSaid : Prop := sessionStaysRow.holds Try.pinned (OpenSpec.ofChange sessionStaysSpec)

/-- ITS FALSE NEIGHBOUR: 'it returns false'. Refute it at one input. -/
def sessionStaysWrong : ChangeSpec := { name := "sessionStays", fn := fun _ => fun
  | [d1, d2] => { results := [.lit (.bool false)], args := [d1, d2] }
  | _ => none }
def SessionStaysWrongFalsely : Prop := sessionStaysRow.holds Try.pinned (OpenSpec.ofChange sessionStaysWrong)

/-- 'kiosklaw15.SessionNumbers': WHATEVER THE INPUT: true; the input reads as it did. -/
def sessionNumbersSpec : ChangeSpec := { name := "sessionNumbers", fn := fun _ => fun
  | [d] => { results := [.lit (.bool true)], args := [d] }
  | _ => none }
def sessionNumbersRow : OpenClaim := { program := "ytojhbhdlbbmghaa", sum := "42ac9080638663dfcfae161d7aea5c2d0f31c2b9fa774609f9376635ae9cd8be", func := "kiosk/kiosklaw15.SessionNumbers", spec := "sessionNumbers", unfollowed := true, recurses := true, apart := false }
def SessionNumbersSaid : Prop := sessionNumbersRow.holds Try.pinned (OpenSpec.ofChange sessionNumbersSpec)

/-- ITS FALSE NEIGHBOUR: 'it returns false'. Refute it at one input. -/
def sessionNumbersWrong : ChangeSpec := { name := "sessionNumbers", fn := fun _ => fun
  | [d] => { results := [.lit (.bool false)], args := [d] }
  | _ => none }
def SessionNumbersWrongFalsely : Prop := sessionNumbersRow.holds Try.pinned (OpenSpec.ofChange sessionNumbersWrong)

/-- 'kiosklaw15.SessionPlays': WHATEVER THE INPUT: true; the input reads as it did. -/
def sessionPlaysSpec : ChangeSpec := { name := "sessionPlays", fn := fun _ => fun
  | [d1, d2, d3] => { results := [.lit (.bool true)], args := [d1, d2, d3] }
  | _ => none }
def sessionPlaysRow : OpenClaim := { program := "ytojhbhdlbbmghaa", sum := "42ac9080638663dfcfae161d7aea5c2d0f31c2b9fa774609f9376635ae9cd8be", func := "kiosk/kiosklaw15.SessionPlays", spec := "sessionPlays", inPlace := ["internal/abi.NoEscape"], unfollowed := true, recurses := true, apart := false }
def SessionPlaysSaid : Prop := sessionPlaysRow.holds Try.pinned (OpenSpec.ofChange sessionPlaysSpec)

/-- ITS FALSE NEIGHBOUR: 'it returns false'. Refute it at one input. -/
def sessionPlaysWrong : ChangeSpec := { name := "sessionPlays", fn := fun _ => fun
  | [d1, d2, d3] => { results := [.lit (.bool false)], args := [d1, d2, d3] }
  | _ => none }
def SessionPlaysWrongFalsely : Prop := sessionPlaysRow.holds Try.pinned (OpenSpec.ofChange sessionPlaysWrong)

/-- 'kiosklaw15.SessionAsks': WHATEVER THE INPUT: true; the input reads as it did. -/
def sessionAsksSpec : ChangeSpec := { name := "sessionAsks", fn := fun _ => fun
  | [d1, d2, d3] => { results := [.lit (.bool true)], args := [d1, d2, d3] }
  | _ => none }
def sessionAsksRow : OpenClaim := { program := "ytojhbhdlbbmghaa", sum := "42ac9080638663dfcfae161d7aea5c2d0f31c2b9fa774609f9376635ae9cd8be", func := "kiosk/kiosklaw15.SessionAsks", spec := "sessionAsks", inPlace := ["internal/abi.NoEscape"], unfollowed := true, recurses := true, apart := false }
def SessionAsksSaid : Prop := sessionAsksRow.holds Try.pinned (OpenSpec.ofChange sessionAsksSpec)

/-- ITS FALSE NEIGHBOUR: 'it returns false'. Refute it at one input. -/
def sessionAsksWrong : ChangeSpec := { name := "sessionAsks", fn := fun _ => fun
  | [d1, d2, d3] => { results := [.lit (.bool false)], args := [d1, d2, d3] }
  | _ => none }
def SessionAsksWrongFalsely : Prop := sessionAsksRow.holds Try.pinned (OpenSpec.ofChange sessionAsksWrong)

/-- 'kiosklaw15.SessionReads': WHATEVER THE INPUT: true; the input reads as it did. -/
def sessionReadsSpec : ChangeSpec := { name := "sessionReads", fn := fun _ => fun
  | [d] => { results := [.lit (.bool true)], args := [d] }
  | _ => none }
def sessionReadsRow : OpenClaim := { program := "ytojhbhdlbbmghaa", sum := "42ac9080638663dfcfae161d7aea5c2d0f31c2b9fa774609f9376635ae9cd8be", func := "kiosk/kiosklaw15.SessionReads", spec := "sessionReads", inPlace := ["internal/abi.NoEscape"], unfollowed := true, recurses := true, apart := false }
def SessionReadsSaid : Prop := sessionReadsRow.holds Try.pinned (OpenSpec.ofChange sessionReadsSpec)

/-- ITS FALSE NEIGHBOUR: 'it returns false'. Refute it at one input. -/
def sessionReadsWrong : ChangeSpec := { name := "sessionReads", fn := fun _ => fun
  | [d] => { results := [.lit (.bool false)], args := [d] }
  | _ => none }
def SessionReadsWrongFalsely : Prop := sessionReadsRow.holds Try.pinned (OpenSpec.ofChange sessionReadsWrong)

/-- 'kiosklaw15.SessionKeeps': WHATEVER THE INPUT: true; the input reads as it did. -/
def sessionKeepsSpec : ChangeSpec := { name := "sessionKeeps", fn := fun _ => fun
  | [d1, d2] => { results := [.lit (.bool true)], args := [d1, d2] }
  | _ => none }
def sessionKeepsRow : OpenClaim := { program := "ytojhbhdlbbmghaa", sum := "42ac9080638663dfcfae161d7aea5c2d0f31c2b9fa774609f9376635ae9cd8be", func := "kiosk/kiosklaw15.SessionKeeps", spec := "sessionKeeps", inPlace := ["internal/abi.NoEscape"], unfollowed := true, recurses := true, apart := false }
def SessionKeepsSaid : Prop := sessionKeepsRow.holds Try.pinned (OpenSpec.ofChange sessionKeepsSpec)

/-- ITS FALSE NEIGHBOUR: 'it returns false'. Refute it at one input. -/
def sessionKeepsWrong : ChangeSpec := { name := "sessionKeeps", fn := fun _ => fun
  | [d1, d2] => { results := [.lit (.bool false)], args := [d1, d2] }
  | _ => none }
def SessionKeepsWrongFalsely : Prop := sessionKeepsRow.holds Try.pinned (OpenSpec.ofChange sessionKeepsWrong)

/-- 'kiosklaw6.NetPlays': WHATEVER THE INPUT: true; the input reads as it did. -/
def netPlaysSpec : ChangeSpec := { name := "netPlays", fn := fun _ => fun
  | [d1, d2, d3, d4] => { results := [.lit (.bool true)], args := [d1, d2, d3, d4] }
  | _ => none }
def netPlaysRow : OpenClaim := { program := "ytojhbhdlbbmghaa", sum := "42ac9080638663dfcfae161d7aea5c2d0f31c2b9fa774609f9376635ae9cd8be", func := "kiosk/kiosklaw6.NetPlays", spec := "netPlays", unfollowed := true, recurses := true, apart := false }
def NetPlaysSaid : Prop := netPlaysRow.holds Try.pinned (OpenSpec.ofChange netPlaysSpec)

/-- ITS FALSE NEIGHBOUR: 'it returns false'. Refute it at one input. -/
def netPlaysWrong : ChangeSpec := { name := "netPlays", fn := fun _ => fun
  | [d1, d2, d3, d4] => { results := [.lit (.bool false)], args := [d1, d2, d3, d4] }
  | _ => none }
def NetPlaysWrongFalsely : Prop := netPlaysRow.holds Try.pinned (OpenSpec.ofChange netPlaysWrong)

/-- 'kiosklaw6.NetCounts': WHATEVER THE INPUT: true; the input reads as it did. -/
def netCountsSpec : ChangeSpec := { name := "netCounts", fn := fun _ => fun
  | [d] => { results := [.lit (.bool true)], args := [d] }
  | _ => none }
def netCountsRow : OpenClaim := { program := "ytojhbhdlbbmghaa", sum := "42ac9080638663dfcfae161d7aea5c2d0f31c2b9fa774609f9376635ae9cd8be", func := "kiosk/kiosklaw6.NetCounts", spec := "netCounts", unfollowed := true, recurses := true, apart := false }
def NetCountsSaid : Prop := netCountsRow.holds Try.pinned (OpenSpec.ofChange netCountsSpec)

/-- ITS FALSE NEIGHBOUR: 'it returns false'. Refute it at one input. -/
def netCountsWrong : ChangeSpec := { name := "netCounts", fn := fun _ => fun
  | [d] => { results := [.lit (.bool false)], args := [d] }
  | _ => none }
def NetCountsWrongFalsely : Prop := netCountsRow.holds Try.pinned (OpenSpec.ofChange netCountsWrong)

/-- 'kiosklaw6.NetSplits': WHATEVER THE INPUT: true; the input reads as it did. -/
def netSplitsSpec : ChangeSpec := { name := "netSplits", fn := fun _ => fun
  | [d1, d2, d3, d4, d5] => { results := [.lit (.bool true)], args := [d1, d2, d3, d4, d5] }
  | _ => none }
def netSplitsRow : OpenClaim := { program := "ytojhbhdlbbmghaa", sum := "42ac9080638663dfcfae161d7aea5c2d0f31c2b9fa774609f9376635ae9cd8be", func := "kiosk/kiosklaw6.NetSplits", spec := "netSplits", unfollowed := true, recurses := true, apart := false }
def NetSplitsSaid : Prop := netSplitsRow.holds Try.pinned (OpenSpec.ofChange netSplitsSpec)

/-- ITS FALSE NEIGHBOUR: 'it returns false'. Refute it at one input. -/
def netSplitsWrong : ChangeSpec := { name := "netSplits", fn := fun _ => fun
  | [d1, d2, d3, d4, d5] => { results := [.lit (.bool false)], args := [d1, d2, d3, d4, d5] }
  | _ => none }
def NetSplitsWrongFalsely : Prop := netSplitsRow.holds Try.pinned (OpenSpec.ofChange netSplitsWrong)

/-- 'kiosklaw6.NetOrder': WHATEVER THE INPUT: true; the input reads as it did. -/
def netOrderSpec : ChangeSpec := { name := "netOrder", fn := fun _ => fun
  | [d1, d2, d3] => { results := [.lit (.bool true)], args := [d1, d2, d3] }
  | _ => none }
def netOrderRow : OpenClaim := { program := "ytojhbhdlbbmghaa", sum := "42ac9080638663dfcfae161d7aea5c2d0f31c2b9fa774609f9376635ae9cd8be", func := "kiosk/kiosklaw6.NetOrder", spec := "netOrder", unfollowed := true, recurses := true, apart := false }
def NetOrderSaid : Prop := netOrderRow.holds Try.pinned (OpenSpec.ofChange netOrderSpec)

/-- ITS FALSE NEIGHBOUR: 'it returns false'. Refute it at one input. -/
def netOrderWrong : ChangeSpec := { name := "netOrder", fn := fun _ => fun
  | [d1, d2, d3] => { results := [.lit (.bool false)], args := [d1, d2, d3] }
  | _ => none }
def NetOrderWrongFalsely : Prop := netOrderRow.holds Try.pinned (OpenSpec.ofChange netOrderWrong)

/-- 'kiosklaw6.NetFull': WHATEVER THE INPUT: true; the input reads as it did. -/
def netFullSpec : ChangeSpec := { name := "netFull", fn := fun _ => fun
  | [d] => { results := [.lit (.bool true)], args := [d] }
  | _ => none }
def netFullRow : OpenClaim := { program := "ytojhbhdlbbmghaa", sum := "42ac9080638663dfcfae161d7aea5c2d0f31c2b9fa774609f9376635ae9cd8be", func := "kiosk/kiosklaw6.NetFull", spec := "netFull", unfollowed := true, recurses := true, apart := false }
def NetFullSaid : Prop := netFullRow.holds Try.pinned (OpenSpec.ofChange netFullSpec)

/-- ITS FALSE NEIGHBOUR: 'it returns false'. Refute it at one input. -/
def netFullWrong : ChangeSpec := { name := "netFull", fn := fun _ => fun
  | [d] => { results := [.lit (.bool false)], args := [d] }
  | _ => none }
def NetFullWrongFalsely : Prop := netFullRow.holds Try.pinned (OpenSpec.ofChange netFullWrong)

/- THE SECOND FORM. 'bulk': how many values and letters a reading holds, each counted each time it is reached (what is shared counts as often as it is met; a slice's spare places count too). A statement '..UptoSaid' is the law's where the arguments, and the package variables that the reading takes, are together of bulk at most 1048576: NARROWER than '..Said'. Prove '..Said' where nothing that the law and all that it calls make is longer than what came in: it says more and counts as full. Else prove '..UptoSaid'. A law counts once. -/
mutual
def uptoBulk {H : Type} : DataW H → Nat
  | .lit (.string bytes) => bytes.length + 1
  | .lit _ => 1
  | .nil => 1
  | .ptr d => uptoBulk d + 1
  | .slice elems spare => uptoBulkAll elems + uptoBulkAll spare + 1
  | .agg parts => uptoBulkAll parts + 1
  | .iface _ d => uptoBulk d + 1
  | .map entries => uptoBulkEntries entries + 1
  | .held _ => 1
def uptoBulkAll {H : Type} : List (DataW H) → Nat
  | [] => 0
  | d :: r => uptoBulk d + uptoBulkAll r
def uptoBulkEntries {H : Type} : List (Lit × DataW H) → Nat
  | [] => 0
  | x :: r => uptoBulkEntry x + uptoBulkEntries r
def uptoBulkEntry {H : Type} : Lit × DataW H → Nat
  | (.string bytes, d) => bytes.length + uptoBulk d + 1
  | (_, d) => uptoBulk d + 1
 end
def uptoSmall : (H : Type) → List (DataW H) → Bool := fun _ ds => decide (uptoBulkAll ds ≤ 1048576)
def OpenSpec.upto (s : _root_.Go.ChangeSpec) : _root_.Go.OpenSpec := { _root_.Go.OpenSpec.ofChange s with cond := some uptoSmall }

/-- 'kiosklaw1.CodecNumbers', WHERE WHAT IT READS IS OF BULK AT MOST 1048576: true; the input reads as it did. -/
def codecNumbersUptoRow : OpenClaim := { program := "ytojhbhdlbbmghaa", sum := "42ac9080638663dfcfae161d7aea5c2d0f31c2b9fa774609f9376635ae9cd8be", func := "kiosk/kiosklaw1.CodecNumbers", spec := "codecNumbers", inPlace := ["internal/abi.NoEscape"], unfollowed := true, recurses := true, apart := false, narrowed := true }
def CodecNumbersUptoSaid : Prop := codecNumbersUptoRow.holds Try.pinned (OpenSpec.upto codecNumbersSpec)

/-- 'kiosklaw1.CodecFrames', WHERE WHAT IT READS IS OF BULK AT MOST 1048576: true; the input reads as it did. -/
def codecFramesUptoRow : OpenClaim := { program := "ytojhbhdlbbmghaa", sum := "42ac9080638663dfcfae161d7aea5c2d0f31c2b9fa774609f9376635ae9cd8be", func := "kiosk/kiosklaw1.CodecFrames", spec := "codecFrames", inPlace := ["internal/abi.NoEscape"], unfollowed := true, recurses := true, apart := false, narrowed := true }
def CodecFramesUptoSaid : Prop := codecFramesUptoRow.holds Try.pinned (OpenSpec.upto codecFramesSpec)

/-- 'kiosklaw1.CodecCuts', WHERE WHAT IT READS IS OF BULK AT MOST 1048576: true; the input reads as it did. -/
def codecCutsUptoRow : OpenClaim := { program := "ytojhbhdlbbmghaa", sum := "42ac9080638663dfcfae161d7aea5c2d0f31c2b9fa774609f9376635ae9cd8be", func := "kiosk/kiosklaw1.CodecCuts", spec := "codecCuts", inPlace := ["internal/abi.NoEscape"], unfollowed := true, recurses := true, apart := false, narrowed := true }
def CodecCutsUptoSaid : Prop := codecCutsUptoRow.holds Try.pinned (OpenSpec.upto codecCutsSpec)

/-- 'kiosklaw1.CodecRows', WHERE WHAT IT READS IS OF BULK AT MOST 1048576: true; the input reads as it did. -/
def codecRowsUptoRow : OpenClaim := { program := "ytojhbhdlbbmghaa", sum := "42ac9080638663dfcfae161d7aea5c2d0f31c2b9fa774609f9376635ae9cd8be", func := "kiosk/kiosklaw1.CodecRows", spec := "codecRows", inPlace := ["internal/abi.NoEscape"], unfollowed := true, recurses := true, apart := false, narrowed := true }
def CodecRowsUptoSaid : Prop := codecRowsUptoRow.holds Try.pinned (OpenSpec.upto codecRowsSpec)

/-- 'kiosklaw1.CodecSums', WHERE WHAT IT READS IS OF BULK AT MOST 1048576: true; the input reads as it did. -/
def codecSumsUptoRow : OpenClaim := { program := "ytojhbhdlbbmghaa", sum := "42ac9080638663dfcfae161d7aea5c2d0f31c2b9fa774609f9376635ae9cd8be", func := "kiosk/kiosklaw1.CodecSums", spec := "codecSums", inPlace := ["internal/abi.NoEscape"], unfollowed := true, recurses := true, apart := false, narrowed := true }
def CodecSumsUptoSaid : Prop := codecSumsUptoRow.holds Try.pinned (OpenSpec.upto codecSumsSpec)

/-- 'kiosklaw1.CodecFramed', WHERE WHAT IT READS IS OF BULK AT MOST 1048576: true; the input reads as it did. -/
def codecFramedUptoRow : OpenClaim := { program := "ytojhbhdlbbmghaa", sum := "42ac9080638663dfcfae161d7aea5c2d0f31c2b9fa774609f9376635ae9cd8be", func := "kiosk/kiosklaw1.CodecFramed", spec := "codecFramed", inPlace := ["internal/abi.NoEscape"], unfollowed := true, recurses := true, apart := false, narrowed := true }
def CodecFramedUptoSaid : Prop := codecFramedUptoRow.holds Try.pinned (OpenSpec.upto codecFramedSpec)

/-- 'kiosklaw1.CodecTexts', WHERE WHAT IT READS IS OF BULK AT MOST 1048576: true; the input reads as it did. -/
def codecTextsUptoRow : OpenClaim := { program := "ytojhbhdlbbmghaa", sum := "42ac9080638663dfcfae161d7aea5c2d0f31c2b9fa774609f9376635ae9cd8be", func := "kiosk/kiosklaw1.CodecTexts", spec := "codecTexts", inPlace := ["internal/abi.NoEscape"], unfollowed := true, recurses := true, apart := false, narrowed := true }
def CodecTextsUptoSaid : Prop := codecTextsUptoRow.holds Try.pinned (OpenSpec.upto codecTextsSpec)

/-- 'kiosklaw1.CodecBack', WHERE WHAT IT READS IS OF BULK AT MOST 1048576: true; the input reads as it did. -/
def codecBackUptoRow : OpenClaim := { program := "ytojhbhdlbbmghaa", sum := "42ac9080638663dfcfae161d7aea5c2d0f31c2b9fa774609f9376635ae9cd8be", func := "kiosk/kiosklaw1.CodecBack", spec := "codecBack", inPlace := ["internal/abi.NoEscape"], unfollowed := true, recurses := true, apart := false, narrowed := true }
def CodecBackUptoSaid : Prop := codecBackUptoRow.holds Try.pinned (OpenSpec.upto codecBackSpec)

/-- 'kiosklaw15.SessionOnce', WHERE WHAT IT READS IS OF BULK AT MOST 1048576: true; the input reads as it did. -/
def sessionOnceUptoRow : OpenClaim := { program := "ytojhbhdlbbmghaa", sum := "42ac9080638663dfcfae161d7aea5c2d0f31c2b9fa774609f9376635ae9cd8be", func := "kiosk/kiosklaw15.SessionOnce", spec := "sessionOnce", unfollowed := true, recurses := true, apart := false, narrowed := true }
def SessionOnceUptoSaid : Prop := sessionOnceUptoRow.holds Try.pinned (OpenSpec.upto sessionOnceSpec)

/-- 'kiosklaw15.SessionStays', WHERE WHAT IT READS IS OF BULK AT MOST 1048576: true; the input reads as it did. -/
def sessionStaysUptoRow : OpenClaim := { program := "ytojhbhdlbbmghaa", sum := "42ac9080638663dfcfae161d7aea5c2d0f31c2b9fa774609f9376635ae9cd8be", func := "kiosk/kiosklaw15.SessionStays", spec := "sessionStays", unfollowed := true, recurses := true, apart := false, narrowed := true }
def SessionStaysUptoSaid : Prop := sessionStaysUptoRow.holds Try.pinned (OpenSpec.upto sessionStaysSpec)

/-- 'kiosklaw15.SessionNumbers', WHERE WHAT IT READS IS OF BULK AT MOST 1048576: true; the input reads as it did. -/
def sessionNumbersUptoRow : OpenClaim := { program := "ytojhbhdlbbmghaa", sum := "42ac9080638663dfcfae161d7aea5c2d0f31c2b9fa774609f9376635ae9cd8be", func := "kiosk/kiosklaw15.SessionNumbers", spec := "sessionNumbers", unfollowed := true, recurses := true, apart := false, narrowed := true }
def SessionNumbersUptoSaid : Prop := sessionNumbersUptoRow.holds Try.pinned (OpenSpec.upto sessionNumbersSpec)

/-- 'kiosklaw15.SessionPlays', WHERE WHAT IT READS IS OF BULK AT MOST 1048576: true; the input reads as it did. -/
def sessionPlaysUptoRow : OpenClaim := { program := "ytojhbhdlbbmghaa", sum := "42ac9080638663dfcfae161d7aea5c2d0f31c2b9fa774609f9376635ae9cd8be", func := "kiosk/kiosklaw15.SessionPlays", spec := "sessionPlays", inPlace := ["internal/abi.NoEscape"], unfollowed := true, recurses := true, apart := false, narrowed := true }
def SessionPlaysUptoSaid : Prop := sessionPlaysUptoRow.holds Try.pinned (OpenSpec.upto sessionPlaysSpec)

/-- 'kiosklaw15.SessionAsks', WHERE WHAT IT READS IS OF BULK AT MOST 1048576: true; the input reads as it did. -/
def sessionAsksUptoRow : OpenClaim := { program := "ytojhbhdlbbmghaa", sum := "42ac9080638663dfcfae161d7aea5c2d0f31c2b9fa774609f9376635ae9cd8be", func := "kiosk/kiosklaw15.SessionAsks", spec := "sessionAsks", inPlace := ["internal/abi.NoEscape"], unfollowed := true, recurses := true, apart := false, narrowed := true }
def SessionAsksUptoSaid : Prop := sessionAsksUptoRow.holds Try.pinned (OpenSpec.upto sessionAsksSpec)

/-- 'kiosklaw15.SessionReads', WHERE WHAT IT READS IS OF BULK AT MOST 1048576: true; the input reads as it did. -/
def sessionReadsUptoRow : OpenClaim := { program := "ytojhbhdlbbmghaa", sum := "42ac9080638663dfcfae161d7aea5c2d0f31c2b9fa774609f9376635ae9cd8be", func := "kiosk/kiosklaw15.SessionReads", spec := "sessionReads", inPlace := ["internal/abi.NoEscape"], unfollowed := true, recurses := true, apart := false, narrowed := true }
def SessionReadsUptoSaid : Prop := sessionReadsUptoRow.holds Try.pinned (OpenSpec.upto sessionReadsSpec)

/-- 'kiosklaw15.SessionKeeps', WHERE WHAT IT READS IS OF BULK AT MOST 1048576: true; the input reads as it did. -/
def sessionKeepsUptoRow : OpenClaim := { program := "ytojhbhdlbbmghaa", sum := "42ac9080638663dfcfae161d7aea5c2d0f31c2b9fa774609f9376635ae9cd8be", func := "kiosk/kiosklaw15.SessionKeeps", spec := "sessionKeeps", inPlace := ["internal/abi.NoEscape"], unfollowed := true, recurses := true, apart := false, narrowed := true }
def SessionKeepsUptoSaid : Prop := sessionKeepsUptoRow.holds Try.pinned (OpenSpec.upto sessionKeepsSpec)

/-- 'kiosklaw6.NetPlays', WHERE WHAT IT READS IS OF BULK AT MOST 1048576: true; the input reads as it did. -/
def netPlaysUptoRow : OpenClaim := { program := "ytojhbhdlbbmghaa", sum := "42ac9080638663dfcfae161d7aea5c2d0f31c2b9fa774609f9376635ae9cd8be", func := "kiosk/kiosklaw6.NetPlays", spec := "netPlays", unfollowed := true, recurses := true, apart := false, narrowed := true }
def NetPlaysUptoSaid : Prop := netPlaysUptoRow.holds Try.pinned (OpenSpec.upto netPlaysSpec)

/-- 'kiosklaw6.NetCounts', WHERE WHAT IT READS IS OF BULK AT MOST 1048576: true; the input reads as it did. -/
def netCountsUptoRow : OpenClaim := { program := "ytojhbhdlbbmghaa", sum := "42ac9080638663dfcfae161d7aea5c2d0f31c2b9fa774609f9376635ae9cd8be", func := "kiosk/kiosklaw6.NetCounts", spec := "netCounts", unfollowed := true, recurses := true, apart := false, narrowed := true }
def NetCountsUptoSaid : Prop := netCountsUptoRow.holds Try.pinned (OpenSpec.upto netCountsSpec)

/-- 'kiosklaw6.NetSplits', WHERE WHAT IT READS IS OF BULK AT MOST 1048576: true; the input reads as it did. -/
def netSplitsUptoRow : OpenClaim := { program := "ytojhbhdlbbmghaa", sum := "42ac9080638663dfcfae161d7aea5c2d0f31c2b9fa774609f9376635ae9cd8be", func := "kiosk/kiosklaw6.NetSplits", spec := "netSplits", unfollowed := true, recurses := true, apart := false, narrowed := true }
def NetSplitsUptoSaid : Prop := netSplitsUptoRow.holds Try.pinned (OpenSpec.upto netSplitsSpec)

/-- 'kiosklaw6.NetOrder', WHERE WHAT IT READS IS OF BULK AT MOST 1048576: true; the input reads as it did. -/
def netOrderUptoRow : OpenClaim := { program := "ytojhbhdlbbmghaa", sum := "42ac9080638663dfcfae161d7aea5c2d0f31c2b9fa774609f9376635ae9cd8be", func := "kiosk/kiosklaw6.NetOrder", spec := "netOrder", unfollowed := true, recurses := true, apart := false, narrowed := true }
def NetOrderUptoSaid : Prop := netOrderUptoRow.holds Try.pinned (OpenSpec.upto netOrderSpec)

/-- 'kiosklaw6.NetFull', WHERE WHAT IT READS IS OF BULK AT MOST 1048576: true; the input reads as it did. -/
def netFullUptoRow : OpenClaim := { program := "ytojhbhdlbbmghaa", sum := "42ac9080638663dfcfae161d7aea5c2d0f31c2b9fa774609f9376635ae9cd8be", func := "kiosk/kiosklaw6.NetFull", spec := "netFull", unfollowed := true, recurses := true, apart := false, narrowed := true }
def NetFullUptoSaid : Prop := netFullUptoRow.holds Try.pinned (OpenSpec.upto netFullSpec)

end Rows
end Go.Proofs.Ytojhbhdlbbmghaa
