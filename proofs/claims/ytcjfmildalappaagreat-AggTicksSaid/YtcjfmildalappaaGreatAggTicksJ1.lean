/-
  AggTicks: what is told of the functions that the law reaches, computed.
-/
import Derived.Test.YtcjfmildalappaaGreatRows
import Derived.WalkKit
import Derived.ProofKit
set_option maxRecDepth 100000
namespace Go.Proofs.YtcjfmildalappaaGreat.aggTicks
open Go Go.RowKit
theorem jf_inPlace : (Rows.aggTicksRow.inPlace == Tryz.prog.inPlace 3) = true := by kernel_rfl
theorem jf_unfollowed : (Rows.aggTicksRow.unfollowed == Tryz.prog.unfollowed 3) = true := by kernel_rfl
end Go.Proofs.YtcjfmildalappaaGreat.aggTicks
