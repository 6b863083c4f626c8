/-
  HistorySerial: what is told of the functions that the law reaches, computed.
-/
import Derived.Test.YtcjfmildalappaaGreatRows
import Derived.WalkKit
import Derived.ProofKit
set_option maxRecDepth 100000
namespace Go.Proofs.YtcjfmildalappaaGreat.historySerial
open Go Go.RowKit
theorem jf_recurses : (Rows.historySerialRow.recurses == Tryz.prog.recurses 14) = true := by kernel_rfl
theorem jf_named : (Rows.historySerialRow.named == Tryz.prog.varsNamed 14) = true := by kernel_rfl
end Go.Proofs.YtcjfmildalappaaGreat.historySerial
