/-
  No cell of these rows narrows 'for every input' (looked for: loops, veiled, ifaces, maps, wideKeys, modest, calm, conditions, laid).
  DERIVED. THE GIVEN ROWS OF THIS SEAT. 12 by the template 'for every input the law returns true; each argument reads behind the call as it read before'; 0 by the template 'total and deterministic' (their statements: YtjfnkjpnjiobjaaTotals.lean).
  GIVEN WITH THE SEED: the statements are not yours to turn. If you find one false, say at which input.
  Laid BY PROGRAM, IN A SANDBOX (cutbox-rows.mjs): the forced cells as the released guide's own fill.sh prints them over the translation 2786b588ff23c328… (all of the seat's roots in one cut). By AI agents, Wed Nov 11 2026. No macro, syntax, notation, axiom, sorry.
-/
import Derived.Test.YtjfnkjpnjiobjaaChecked
import GoSem.Claim
import GoSem.ClaimJoined
import GoSem.ClaimMapViews
import Derived.JoinedTies
import Derived.KernelRfl
namespace Go.Proofs.Ytjfnkjpnjiobjaa
/- THE CELL 'sum', in the pinned program and in every row, IS THE sha256 OF THE DUMP (.gsa) THAT YtjfnkjpnjiobjaaProg.lean LOADS. Nothing in Lean hashes anything: it is a label: what it is worth is what the hold of that sum in a sandbox is worth. -/
noncomputable def Try.pinned : Pinned := { name := "ytjfnkjpnjiobjaa", sum := "2786b588ff23c3288bceb87aa7872ab214f1e04e4a34c0d68558a653845ac79a", checked := Try.checked }
namespace Rows
def none {H : Type} : Left H := { results := [], args := [] }

/-- 'kiosklaw17.StoreOnce': WHATEVER THE INPUT: true; the input reads as it did. -/
def storeOnceSpec : ChangeSpec := { name := "storeOnce", fn := fun _ => fun
  | [d1, d2, d3] => { results := [.lit (.bool true)], args := [d1, d2, d3] }
  | _ => none }
def storeOnceRow : OpenClaim := { program := "ytjfnkjpnjiobjaa", sum := "2786b588ff23c3288bceb87aa7872ab214f1e04e4a34c0d68558a653845ac79a", func := "kiosk/kiosklaw17.StoreOnce", spec := "storeOnce", inPlace := ["internal/bytealg.IndexByteString", "internal/abi.NoEscape", "internal/bytealg.MakeNoZero"], unfollowed := true, recurses := true, apart := false }
def StoreOnceSaid : Prop := storeOnceRow.holds Try.pinned (OpenSpec.ofChange storeOnceSpec)

/-- ITS FALSE NEIGHBOUR: 'it returns false'. Refute it at one input. -/
def storeOnceWrong : ChangeSpec := { name := "storeOnce", fn := fun _ => fun
  | [d1, d2, d3] => { results := [.lit (.bool false)], args := [d1, d2, d3] }
  | _ => none }
def StoreOnceWrongFalsely : Prop := storeOnceRow.holds Try.pinned (OpenSpec.ofChange storeOnceWrong)

/-- 'kiosklaw17.StoreAgain': WHATEVER THE INPUT: true; the input reads as it did. -/
def storeAgainSpec : ChangeSpec := { name := "storeAgain", fn := fun _ => fun
  | [d1, d2, d3] => { results := [.lit (.bool true)], args := [d1, d2, d3] }
  | _ => none }
def storeAgainRow : OpenClaim := { program := "ytjfnkjpnjiobjaa", sum := "2786b588ff23c3288bceb87aa7872ab214f1e04e4a34c0d68558a653845ac79a", func := "kiosk/kiosklaw17.StoreAgain", spec := "storeAgain", inPlace := ["internal/bytealg.IndexByteString", "internal/abi.NoEscape", "internal/bytealg.MakeNoZero"], unfollowed := true, recurses := true, apart := false }
def StoreAgainSaid : Prop := storeAgainRow.holds Try.pinned (OpenSpec.ofChange storeAgainSpec)

/-- ITS FALSE NEIGHBOUR: 'it returns false'. Refute it at one input. -/
def storeAgainWrong : ChangeSpec := { name := "storeAgain", fn := fun _ => fun
  | [d1, d2, d3] => { results := [.lit (.bool false)], args := [d1, d2, d3] }
  | _ => none }
def StoreAgainWrongFalsely : Prop := storeAgainRow.holds Try.pinned (OpenSpec.ofChange storeAgainWrong)

/-- 'kiosklaw17.StoreOthers': WHATEVER THE INPUT: true; the input reads as it did. -/
def storeOthersSpec : ChangeSpec := { name := "storeOthers", fn := fun _ => fun
  | [d1, d2, d3] => { results := [.lit (.bool true)], args := [d1, d2, d3] }
  | _ => none }
def storeOthersRow : OpenClaim := { program := "ytjfnkjpnjiobjaa", sum := "2786b588ff23c3288bceb87aa7872ab214f1e04e4a34c0d68558a653845ac79a", func := "kiosk/kiosklaw17.StoreOthers", spec := "storeOthers", inPlace := ["internal/bytealg.IndexByteString", "internal/abi.NoEscape", "internal/bytealg.MakeNoZero"], unfollowed := true, recurses := true, apart := false }
def StoreOthersSaid : Prop := storeOthersRow.holds Try.pinned (OpenSpec.ofChange storeOthersSpec)

/-- ITS FALSE NEIGHBOUR: 'it returns false'. Refute it at one input. -/
def storeOthersWrong : ChangeSpec := { name := "storeOthers", fn := fun _ => fun
  | [d1, d2, d3] => { results := [.lit (.bool false)], args := [d1, d2, d3] }
  | _ => none }
def StoreOthersWrongFalsely : Prop := storeOthersRow.holds Try.pinned (OpenSpec.ofChange storeOthersWrong)

/-- 'kiosklaw17.StorePages': WHATEVER THE INPUT: true; the input reads as it did. -/
def storePagesSpec : ChangeSpec := { name := "storePages", fn := fun _ => fun
  | [d1, d2, d3] => { results := [.lit (.bool true)], args := [d1, d2, d3] }
  | _ => none }
def storePagesRow : OpenClaim := { program := "ytjfnkjpnjiobjaa", sum := "2786b588ff23c3288bceb87aa7872ab214f1e04e4a34c0d68558a653845ac79a", func := "kiosk/kiosklaw17.StorePages", spec := "storePages", inPlace := ["internal/bytealg.IndexByteString", "internal/abi.NoEscape", "internal/bytealg.MakeNoZero"], unfollowed := true, recurses := true, apart := false }
def StorePagesSaid : Prop := storePagesRow.holds Try.pinned (OpenSpec.ofChange storePagesSpec)

/-- ITS FALSE NEIGHBOUR: 'it returns false'. Refute it at one input. -/
def storePagesWrong : ChangeSpec := { name := "storePages", fn := fun _ => fun
  | [d1, d2, d3] => { results := [.lit (.bool false)], args := [d1, d2, d3] }
  | _ => none }
def StorePagesWrongFalsely : Prop := storePagesRow.holds Try.pinned (OpenSpec.ofChange storePagesWrong)

/-- 'kiosklaw17.StoreMarks': WHATEVER THE INPUT: true; the input reads as it did. -/
def storeMarksSpec : ChangeSpec := { name := "storeMarks", fn := fun _ => fun
  | [d1, d2, d3] => { results := [.lit (.bool true)], args := [d1, d2, d3] }
  | _ => none }
def storeMarksRow : OpenClaim := { program := "ytjfnkjpnjiobjaa", sum := "2786b588ff23c3288bceb87aa7872ab214f1e04e4a34c0d68558a653845ac79a", func := "kiosk/kiosklaw17.StoreMarks", spec := "storeMarks", inPlace := ["internal/bytealg.IndexByteString", "internal/abi.NoEscape", "internal/bytealg.MakeNoZero"], unfollowed := true, recurses := true, apart := false }
def StoreMarksSaid : Prop := storeMarksRow.holds Try.pinned (OpenSpec.ofChange storeMarksSpec)

/-- ITS FALSE NEIGHBOUR: 'it returns false'. Refute it at one input. -/
def storeMarksWrong : ChangeSpec := { name := "storeMarks", fn := fun _ => fun
  | [d1, d2, d3] => { results := [.lit (.bool false)], args := [d1, d2, d3] }
  | _ => none }
def StoreMarksWrongFalsely : Prop := storeMarksRow.holds Try.pinned (OpenSpec.ofChange storeMarksWrong)

/-- 'kiosklaw17.StorePlays': WHATEVER THE INPUT: true; the input reads as it did. -/
def storePlaysSpec : ChangeSpec := { name := "storePlays", fn := fun _ => fun
  | [d1, d2] => { results := [.lit (.bool true)], args := [d1, d2] }
  | _ => none }
def storePlaysRow : OpenClaim := { program := "ytjfnkjpnjiobjaa", sum := "2786b588ff23c3288bceb87aa7872ab214f1e04e4a34c0d68558a653845ac79a", func := "kiosk/kiosklaw17.StorePlays", spec := "storePlays", inPlace := ["internal/bytealg.IndexByteString", "internal/abi.NoEscape", "internal/bytealg.MakeNoZero"], unfollowed := true, recurses := true, apart := false }
def StorePlaysSaid : Prop := storePlaysRow.holds Try.pinned (OpenSpec.ofChange storePlaysSpec)

/-- ITS FALSE NEIGHBOUR: 'it returns false'. Refute it at one input. -/
def storePlaysWrong : ChangeSpec := { name := "storePlays", fn := fun _ => fun
  | [d1, d2] => { results := [.lit (.bool false)], args := [d1, d2] }
  | _ => none }
def StorePlaysWrongFalsely : Prop := storePlaysRow.holds Try.pinned (OpenSpec.ofChange storePlaysWrong)

/-- 'kiosklaw18.CommandPacks': WHATEVER THE INPUT: true; the input reads as it did. -/
def commandPacksSpec : ChangeSpec := { name := "commandPacks", fn := fun _ => fun
  | [d1, d2] => { results := [.lit (.bool true)], args := [d1, d2] }
  | _ => none }
def commandPacksRow : OpenClaim := { program := "ytjfnkjpnjiobjaa", sum := "2786b588ff23c3288bceb87aa7872ab214f1e04e4a34c0d68558a653845ac79a", func := "kiosk/kiosklaw18.CommandPacks", spec := "commandPacks", inPlace := ["internal/bytealg.IndexByteString", "internal/abi.NoEscape", "internal/bytealg.MakeNoZero"], unfollowed := true, recurses := true, apart := false }
def CommandPacksSaid : Prop := commandPacksRow.holds Try.pinned (OpenSpec.ofChange commandPacksSpec)

/-- ITS FALSE NEIGHBOUR: 'it returns false'. Refute it at one input. -/
def commandPacksWrong : ChangeSpec := { name := "commandPacks", fn := fun _ => fun
  | [d1, d2] => { results := [.lit (.bool false)], args := [d1, d2] }
  | _ => none }
def CommandPacksWrongFalsely : Prop := commandPacksRow.holds Try.pinned (OpenSpec.ofChange commandPacksWrong)

/-- 'kiosklaw18.CommandBare': WHATEVER THE INPUT: true; the input reads as it did. -/
def commandBareSpec : ChangeSpec := { name := "commandBare", fn := fun _ => fun
  | [d1, d2] => { results := [.lit (.bool true)], args := [d1, d2] }
  | _ => none }
def commandBareRow : OpenClaim := { program := "ytjfnkjpnjiobjaa", sum := "2786b588ff23c3288bceb87aa7872ab214f1e04e4a34c0d68558a653845ac79a", func := "kiosk/kiosklaw18.CommandBare", spec := "commandBare", inPlace := ["internal/bytealg.IndexByteString", "internal/abi.NoEscape", "internal/bytealg.MakeNoZero"], unfollowed := true, recurses := true, apart := false }
def CommandBareSaid : Prop := commandBareRow.holds Try.pinned (OpenSpec.ofChange commandBareSpec)

/-- ITS FALSE NEIGHBOUR: 'it returns false'. Refute it at one input. -/
def commandBareWrong : ChangeSpec := { name := "commandBare", fn := fun _ => fun
  | [d1, d2] => { results := [.lit (.bool false)], args := [d1, d2] }
  | _ => none }
def CommandBareWrongFalsely : Prop := commandBareRow.holds Try.pinned (OpenSpec.ofChange commandBareWrong)

/-- 'kiosklaw18.CommandItems': WHATEVER THE INPUT: true; the input reads as it did. -/
def commandItemsSpec : ChangeSpec := { name := "commandItems", fn := fun _ => fun
  | [d1, d2] => { results := [.lit (.bool true)], args := [d1, d2] }
  | _ => none }
def commandItemsRow : OpenClaim := { program := "ytjfnkjpnjiobjaa", sum := "2786b588ff23c3288bceb87aa7872ab214f1e04e4a34c0d68558a653845ac79a", func := "kiosk/kiosklaw18.CommandItems", spec := "commandItems", inPlace := ["internal/bytealg.IndexByteString", "internal/abi.NoEscape", "internal/bytealg.MakeNoZero"], unfollowed := true, recurses := true, apart := false }
def CommandItemsSaid : Prop := commandItemsRow.holds Try.pinned (OpenSpec.ofChange commandItemsSpec)

/-- ITS FALSE NEIGHBOUR: 'it returns false'. Refute it at one input. -/
def commandItemsWrong : ChangeSpec := { name := "commandItems", fn := fun _ => fun
  | [d1, d2] => { results := [.lit (.bool false)], args := [d1, d2] }
  | _ => none }
def CommandItemsWrongFalsely : Prop := commandItemsRow.holds Try.pinned (OpenSpec.ofChange commandItemsWrong)

/-- 'kiosklaw18.CommandReads': WHATEVER THE INPUT: true; the input reads as it did. -/
def commandReadsSpec : ChangeSpec := { name := "commandReads", fn := fun _ => fun
  | [d1, d2, d3, d4, d5] => { results := [.lit (.bool true)], args := [d1, d2, d3, d4, d5] }
  | _ => none }
def commandReadsRow : OpenClaim := { program := "ytjfnkjpnjiobjaa", sum := "2786b588ff23c3288bceb87aa7872ab214f1e04e4a34c0d68558a653845ac79a", func := "kiosk/kiosklaw18.CommandReads", spec := "commandReads", inPlace := ["internal/bytealg.IndexByteString", "internal/abi.NoEscape", "internal/bytealg.MakeNoZero"], unfollowed := true, recurses := true, apart := false }
def CommandReadsSaid : Prop := commandReadsRow.holds Try.pinned (OpenSpec.ofChange commandReadsSpec)

/-- ITS FALSE NEIGHBOUR: 'it returns false'. Refute it at one input. -/
def commandReadsWrong : ChangeSpec := { name := "commandReads", fn := fun _ => fun
  | [d1, d2, d3, d4, d5] => { results := [.lit (.bool false)], args := [d1, d2, d3, d4, d5] }
  | _ => none }
def CommandReadsWrongFalsely : Prop := commandReadsRow.holds Try.pinned (OpenSpec.ofChange commandReadsWrong)

/-- 'kiosklaw18.CommandBack': WHATEVER THE INPUT: true; the input reads as it did. -/
def commandBackSpec : ChangeSpec := { name := "commandBack", fn := fun _ => fun
  | [d1, d2, d3] => { results := [.lit (.bool true)], args := [d1, d2, d3] }
  | _ => none }
def commandBackRow : OpenClaim := { program := "ytjfnkjpnjiobjaa", sum := "2786b588ff23c3288bceb87aa7872ab214f1e04e4a34c0d68558a653845ac79a", func := "kiosk/kiosklaw18.CommandBack", spec := "commandBack", inPlace := ["internal/bytealg.IndexByteString", "internal/abi.NoEscape", "internal/bytealg.MakeNoZero"], unfollowed := true, recurses := true, apart := false }
def CommandBackSaid : Prop := commandBackRow.holds Try.pinned (OpenSpec.ofChange commandBackSpec)

/-- ITS FALSE NEIGHBOUR: 'it returns false'. Refute it at one input. -/
def commandBackWrong : ChangeSpec := { name := "commandBack", fn := fun _ => fun
  | [d1, d2, d3] => { results := [.lit (.bool false)], args := [d1, d2, d3] }
  | _ => none }
def CommandBackWrongFalsely : Prop := commandBackRow.holds Try.pinned (OpenSpec.ofChange commandBackWrong)

/-- 'kiosklaw18.CommandCuts': WHATEVER THE INPUT: true; the input reads as it did. -/
def commandCutsSpec : ChangeSpec := { name := "commandCuts", fn := fun _ => fun
  | [d1, d2, d3] => { results := [.lit (.bool true)], args := [d1, d2, d3] }
  | _ => none }
def commandCutsRow : OpenClaim := { program := "ytjfnkjpnjiobjaa", sum := "2786b588ff23c3288bceb87aa7872ab214f1e04e4a34c0d68558a653845ac79a", func := "kiosk/kiosklaw18.CommandCuts", spec := "commandCuts", inPlace := ["internal/bytealg.IndexByteString", "internal/abi.NoEscape", "internal/bytealg.MakeNoZero"], unfollowed := true, recurses := true, apart := false }
def CommandCutsSaid : Prop := commandCutsRow.holds Try.pinned (OpenSpec.ofChange commandCutsSpec)

/-- ITS FALSE NEIGHBOUR: 'it returns false'. Refute it at one input. -/
def commandCutsWrong : ChangeSpec := { name := "commandCuts", fn := fun _ => fun
  | [d1, d2, d3] => { results := [.lit (.bool false)], args := [d1, d2, d3] }
  | _ => none }
def CommandCutsWrongFalsely : Prop := commandCutsRow.holds Try.pinned (OpenSpec.ofChange commandCutsWrong)

/- THE SECOND FORM. 'bulk': how many values and letters a reading holds, each counted each time it is reached (what is shared counts as often as it is met; a slice's spare places count too). A statement '..UptoSaid' is the law's where the arguments, and the package variables that the reading takes, are together of bulk at most 1048576: NARROWER than '..Said'. Prove '..Said' where nothing that the law and all that it calls make is longer than what came in: it says more and counts as full. Else prove '..UptoSaid'. A law counts once. -/
mutual
def uptoBulk {H : Type} : DataW H → Nat
  | .lit (.string bytes) => bytes.length + 1
  | .lit _ => 1
  | .nil => 1
  | .ptr d => uptoBulk d + 1
  | .slice elems spare => uptoBulkAll elems + uptoBulkAll spare + 1
  | .agg parts => uptoBulkAll parts + 1
  | .iface _ d => uptoBulk d + 1
  | .map entries => uptoBulkEntries entries + 1
  | .held _ => 1
def uptoBulkAll {H : Type} : List (DataW H) → Nat
  | [] => 0
  | d :: r => uptoBulk d + uptoBulkAll r
def uptoBulkEntries {H : Type} : List (Lit × DataW H) → Nat
  | [] => 0
  | x :: r => uptoBulkEntry x + uptoBulkEntries r
def uptoBulkEntry {H : Type} : Lit × DataW H → Nat
  | (.string bytes, d) => bytes.length + uptoBulk d + 1
  | (_, d) => uptoBulk d + 1
 end
def uptoSmall : (H : Type) → List (DataW H) → Bool := fun _ ds => decide (uptoBulkAll ds ≤ 1048576)
def OpenSpec.upto (s : _root_.Go.ChangeSpec) : _root_.Go.OpenSpec := { _root_.Go.OpenSpec.ofChange s with cond := some uptoSmall }

/-- 'kiosklaw17.StoreOnce', WHERE WHAT IT READS IS OF BULK AT MOST 1048576: true; the input reads as it did. -/
def storeOnceUptoRow : OpenClaim := { program := "ytjfnkjpnjiobjaa", sum := "2786b588ff23c3288bceb87aa7872ab214f1e04e4a34c0d68558a653845ac79a", func := "kiosk/kiosklaw17.StoreOnce", spec := "storeOnce", inPlace := ["internal/bytealg.IndexByteString", "internal/abi.NoEscape", "internal/bytealg.MakeNoZero"], unfollowed := true, recurses := true, apart := false, narrowed := true }
def StoreOnceUptoSaid : Prop := storeOnceUptoRow.holds Try.pinned (OpenSpec.upto storeOnceSpec)

/-- 'kiosklaw17.StoreAgain', WHERE WHAT IT READS IS OF BULK AT MOST 1048576: true; the input reads as it did. -/
def storeAgainUptoRow : OpenClaim := { program := "ytjfnkjpnjiobjaa", sum := "2786b588ff23c3288bceb87aa7872ab214f1e04e4a34c0d68558a653845ac79a", func := "kiosk/kiosklaw17.StoreAgain", spec := "storeAgain", inPlace := ["internal/bytealg.IndexByteString", "internal/abi.NoEscape", "internal/bytealg.MakeNoZero"], unfollowed := true, recurses := true, apart := false, narrowed := true }
def StoreAgainUptoSaid : Prop := storeAgainUptoRow.holds Try.pinned (OpenSpec.upto storeAgainSpec)

/-- 'kiosklaw17.StoreOthers', WHERE WHAT IT READS IS OF BULK AT MOST 1048576: true; the input reads as it did. -/
def storeOthersUptoRow : OpenClaim := { program := "ytjfnkjpnjiobjaa", sum := "2786b588ff23c3288bceb87aa7872ab214f1e04e4a34c0d68558a653845ac79a", func := "kiosk/kiosklaw17.StoreOthers", spec := "storeOthers", inPlace := ["internal/bytealg.IndexByteString", "internal/abi.NoEscape", "internal/bytealg.MakeNoZero"], unfollowed := true, recurses := true, apart := false, narrowed := true }
def StoreOthersUptoSaid : Prop := storeOthersUptoRow.holds Try.pinned (OpenSpec.upto storeOthersSpec)

/-- 'kiosklaw17.StorePages', WHERE WHAT IT READS IS OF BULK AT MOST 1048576: true; the input reads as it did. -/
def storePagesUptoRow : OpenClaim := { program := "ytjfnkjpnjiobjaa", sum := "2786b588ff23c3288bceb87aa7872ab214f1e04e4a34c0d68558a653845ac79a", func := "kiosk/kiosklaw17.StorePages", spec := "storePages", inPlace := ["internal/bytealg.IndexByteString", "internal/abi.NoEscape", "internal/bytealg.MakeNoZero"], unfollowed := true, recurses := true, apart := false, narrowed := true }
def StorePagesUptoSaid : Prop := storePagesUptoRow.holds Try.pinned (OpenSpec.upto storePagesSpec)

/-- 'kiosklaw17.StoreMarks', WHERE WHAT IT READS IS OF BULK AT MOST 1048576: true; the input reads as it did. -/
def storeMarksUptoRow : OpenClaim := { program := "ytjfnkjpnjiobjaa", sum := "2786b588ff23c3288bceb87aa7872ab214f1e04e4a34c0d68558a653845ac79a", func := "kiosk/kiosklaw17.StoreMarks", spec := "storeMarks", inPlace := ["internal/bytealg.IndexByteString", "internal/abi.NoEscape", "internal/bytealg.MakeNoZero"], unfollowed := true, recurses := true, apart := false, narrowed := true }
def StoreMarksUptoSaid : Prop := storeMarksUptoRow.holds Try.pinned (OpenSpec.upto storeMarksSpec)

/-- 'kiosklaw17.StorePlays', WHERE WHAT IT READS IS OF BULK AT MOST 1048576: true; the input reads as it did. -/
def storePlaysUptoRow : OpenClaim := { program := "ytjfnkjpnjiobjaa", sum := "2786b588ff23c3288bceb87aa7872ab214f1e04e4a34c0d68558a653845ac79a", func := "kiosk/kiosklaw17.StorePlays", spec := "storePlays", inPlace := ["internal/bytealg.IndexByteString", "internal/abi.NoEscape", "internal/bytealg.MakeNoZero"], unfollowed := true, recurses := true, apart := false, narrowed := true }
def StorePlaysUptoSaid : Prop := storePlaysUptoRow.holds Try.pinned (OpenSpec.upto storePlaysSpec)

/-- 'kiosklaw18.CommandPacks', WHERE WHAT IT READS IS OF BULK AT MOST 1048576: true; the input reads as it did. -/
def commandPacksUptoRow : OpenClaim := { program := "ytjfnkjpnjiobjaa", sum := "2786b588ff23c3288bceb87aa7872ab214f1e04e4a34c0d68558a653845ac79a", func := "kiosk/kiosklaw18.CommandPacks", spec := "commandPacks", inPlace := ["internal/bytealg.IndexByteString", "internal/abi.NoEscape", "internal/bytealg.MakeNoZero"], unfollowed := true, recurses := true, apart := false, narrowed := true }
def CommandPacksUptoSaid : Prop := commandPacksUptoRow.holds Try.pinned (OpenSpec.upto commandPacksSpec)

/-- 'kiosklaw18.CommandBare', WHERE WHAT IT READS IS OF BULK AT MOST 1048576: true; the input reads as it did. -/
def commandBareUptoRow : OpenClaim := { program := "ytjfnkjpnjiobjaa", sum := "2786b588ff23c3288bceb87aa7872ab214f1e04e4a34c0d68558a653845ac79a", func := "kiosk/kiosklaw18.CommandBare", spec := "commandBare", inPlace := ["internal/bytealg.IndexByteString", "internal/abi.NoEscape", "internal/bytealg.MakeNoZero"], unfollowed := true, recurses := true, apart := false, narrowed := true }
def CommandBareUptoSaid : Prop := commandBareUptoRow.holds Try.pinned (OpenSpec.upto commandBareSpec)

/-- 'kiosklaw18.CommandItems', WHERE WHAT IT READS IS OF BULK AT MOST 1048576: true; the input reads as it did. -/
def commandItemsUptoRow : OpenClaim := { program := "ytjfnkjpnjiobjaa", sum := "2786b588ff23c3288bceb87aa7872ab214f1e04e4a34c0d68558a653845ac79a", func := "kiosk/kiosklaw18.CommandItems", spec := "commandItems", inPlace := ["internal/bytealg.IndexByteString", "internal/abi.NoEscape", "internal/bytealg.MakeNoZero"], unfollowed := true, recurses := true, apart := false, narrowed := true }
def CommandItemsUptoSaid : Prop := commandItemsUptoRow.holds Try.pinned (OpenSpec.upto commandItemsSpec)

/-- 'kiosklaw18.CommandReads', WHERE WHAT IT READS IS OF BULK AT MOST 1048576: true; the input reads as it did. -/
def commandReadsUptoRow : OpenClaim := { program := "ytjfnkjpnjiobjaa", sum := "2786b588ff23c3288bceb87aa7872ab214f1e04e4a34c0d68558a653845ac79a", func := "kiosk/kiosklaw18.CommandReads", spec := "commandReads", inPlace := ["internal/bytealg.IndexByteString", "internal/abi.NoEscape", "internal/bytealg.MakeNoZero"], unfollowed := true, recurses := true, apart := false, narrowed := true }
def CommandReadsUptoSaid : Prop := commandReadsUptoRow.holds Try.pinned (OpenSpec.upto commandReadsSpec)

/-- 'kiosklaw18.CommandBack', WHERE WHAT IT READS IS OF BULK AT MOST 1048576: true; the input reads as it did. -/
def commandBackUptoRow : OpenClaim := { program := "ytjfnkjpnjiobjaa", sum := "2786b588ff23c3288bceb87aa7872ab214f1e04e4a34c0d68558a653845ac79a", func := "kiosk/kiosklaw18.CommandBack", spec := "commandBack", inPlace := ["internal/bytealg.IndexByteString", "internal/abi.NoEscape", "internal/bytealg.MakeNoZero"], unfollowed := true, recurses := true, apart := false, narrowed := true }
def CommandBackUptoSaid : Prop := commandBackUptoRow.holds Try.pinned (OpenSpec.upto commandBackSpec)

/-- 'kiosklaw18.CommandCuts', WHERE WHAT IT READS IS OF BULK AT MOST 1048576: true; the input reads as it did. -/
def commandCutsUptoRow : OpenClaim := { program := "ytjfnkjpnjiobjaa", sum := "2786b588ff23c3288bceb87aa7872ab214f1e04e4a34c0d68558a653845ac79a", func := "kiosk/kiosklaw18.CommandCuts", spec := "commandCuts", inPlace := ["internal/bytealg.IndexByteString", "internal/abi.NoEscape", "internal/bytealg.MakeNoZero"], unfollowed := true, recurses := true, apart := false, narrowed := true }
def CommandCutsUptoSaid : Prop := commandCutsUptoRow.holds Try.pinned (OpenSpec.upto commandCutsSpec)

end Rows
end Go.Proofs.Ytjfnkjpnjiobjaa
