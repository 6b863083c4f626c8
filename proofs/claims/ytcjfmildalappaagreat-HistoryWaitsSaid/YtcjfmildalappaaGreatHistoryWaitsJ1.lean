/-
  HistoryWaits: what is told of the functions that the law reaches, computed.
-/
import Derived.Test.YtcjfmildalappaaGreatRows
import Derived.WalkKit
import Derived.ProofKit
set_option maxRecDepth 100000
namespace Go.Proofs.YtcjfmildalappaaGreat.historyWaits
open Go Go.RowKit
theorem jf_inPlace : (Rows.historyWaitsRow.inPlace == Tryz.prog.inPlace 15) = true := by kernel_rfl
theorem jf_unfollowed : (Rows.historyWaitsRow.unfollowed == Tryz.prog.unfollowed 15) = true := by kernel_rfl
end Go.Proofs.YtcjfmildalappaaGreat.historyWaits
