/-
  HistoryTwice: what is told of the functions that the law reaches, computed.
-/
import Derived.Test.YtcjfmildalappaaGreatRows
import Derived.WalkKit
import Derived.ProofKit
set_option maxRecDepth 100000
namespace Go.Proofs.YtcjfmildalappaaGreat.historyTwice
open Go Go.RowKit
theorem jf_recurses : (Rows.historyTwiceRow.recurses == Tryz.prog.recurses 11) = true := by kernel_rfl
theorem jf_named : (Rows.historyTwiceRow.named == Tryz.prog.varsNamed 11) = true := by kernel_rfl
end Go.Proofs.YtcjfmildalappaaGreat.historyTwice
