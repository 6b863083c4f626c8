/-
  HistoryTwice: what is told of the functions that the law reaches, computed.
-/
import Derived.Test.YtcjfmildalappaaGreatRows
import Derived.WalkKit
import Derived.ProofKit
set_option maxRecDepth 100000
namespace Go.Proofs.YtcjfmildalappaaGreat.historyTwice
open Go Go.RowKit
theorem jf_inPlace : (Rows.historyTwiceRow.inPlace == Tryz.prog.inPlace 11) = true := by kernel_rfl
theorem jf_unfollowed : (Rows.historyTwiceRow.unfollowed == Tryz.prog.unfollowed 11) = true := by kernel_rfl
end Go.Proofs.YtcjfmildalappaaGreat.historyTwice
