/-
  AggFences: what is told of the functions that the law reaches, computed.
-/
import Derived.Test.YtcjfmildalappaaGreatRows
import Derived.WalkKit
import Derived.ProofKit
set_option maxRecDepth 100000
namespace Go.Proofs.YtcjfmildalappaaGreat.aggFences
open Go Go.RowKit
theorem jf_inPlace : (Rows.aggFencesRow.inPlace == Tryz.prog.inPlace 6) = true := by kernel_rfl
theorem jf_unfollowed : (Rows.aggFencesRow.unfollowed == Tryz.prog.unfollowed 6) = true := by kernel_rfl
end Go.Proofs.YtcjfmildalappaaGreat.aggFences
