/-
  HistoryGrows: what is told of the functions that the law reaches, computed.
-/
import Derived.Test.YtcjfmildalappaaGreatRows
import Derived.WalkKit
import Derived.ProofKit
set_option maxRecDepth 100000
namespace Go.Proofs.YtcjfmildalappaaGreat.historyGrows
open Go Go.RowKit
theorem jf_inPlace : (Rows.historyGrowsRow.inPlace == Tryz.prog.inPlace 10) = true := by kernel_rfl
theorem jf_unfollowed : (Rows.historyGrowsRow.unfollowed == Tryz.prog.unfollowed 10) = true := by kernel_rfl
end Go.Proofs.YtcjfmildalappaaGreat.historyGrows
