/-
  AggReads: what is told of the functions that the law reaches, computed.
-/
import Derived.Test.YtcjfmildalappaaGreatRows
import Derived.WalkKit
import Derived.ProofKit
set_option maxRecDepth 100000
namespace Go.Proofs.YtcjfmildalappaaGreat.aggReads
open Go Go.RowKit
theorem jf_inPlace : (Rows.aggReadsRow.inPlace == Tryz.prog.inPlace 8) = true := by kernel_rfl
theorem jf_unfollowed : (Rows.aggReadsRow.unfollowed == Tryz.prog.unfollowed 8) = true := by kernel_rfl
end Go.Proofs.YtcjfmildalappaaGreat.aggReads
