/-
  AggLists: what is told of the functions that the law reaches, computed.
-/
import Derived.Test.YtcjfmildalappaaGreatRows
import Derived.WalkKit
import Derived.ProofKit
set_option maxRecDepth 100000
namespace Go.Proofs.YtcjfmildalappaaGreat.aggLists
open Go Go.RowKit
theorem jf_inPlace : (Rows.aggListsRow.inPlace == Tryz.prog.inPlace 4) = true := by kernel_rfl
theorem jf_unfollowed : (Rows.aggListsRow.unfollowed == Tryz.prog.unfollowed 4) = true := by kernel_rfl
end Go.Proofs.YtcjfmildalappaaGreat.aggLists
