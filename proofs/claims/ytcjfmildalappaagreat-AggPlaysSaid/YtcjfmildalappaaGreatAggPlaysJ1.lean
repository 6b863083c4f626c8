/-
  AggPlays: what is told of the functions that the law reaches, computed.
-/
import Derived.Test.YtcjfmildalappaaGreatRows
import Derived.WalkKit
import Derived.ProofKit
set_option maxRecDepth 100000
namespace Go.Proofs.YtcjfmildalappaaGreat.aggPlays
open Go Go.RowKit
theorem jf_inPlace : (Rows.aggPlaysRow.inPlace == Tryz.prog.inPlace 7) = true := by kernel_rfl
theorem jf_unfollowed : (Rows.aggPlaysRow.unfollowed == Tryz.prog.unfollowed 7) = true := by kernel_rfl
end Go.Proofs.YtcjfmildalappaaGreat.aggPlays
