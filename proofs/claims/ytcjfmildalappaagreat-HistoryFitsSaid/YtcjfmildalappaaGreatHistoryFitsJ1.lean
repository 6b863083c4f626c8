/-
  HistoryFits: what is told of the functions that the law reaches, computed.
-/
import Derived.Test.YtcjfmildalappaaGreatRows
import Derived.WalkKit
import Derived.ProofKit
set_option maxRecDepth 100000
namespace Go.Proofs.YtcjfmildalappaaGreat.historyFits
open Go Go.RowKit
theorem jf_inPlace : (Rows.historyFitsRow.inPlace == Tryz.prog.inPlace 12) = true := by kernel_rfl
theorem jf_unfollowed : (Rows.historyFitsRow.unfollowed == Tryz.prog.unfollowed 12) = true := by kernel_rfl
end Go.Proofs.YtcjfmildalappaaGreat.historyFits
