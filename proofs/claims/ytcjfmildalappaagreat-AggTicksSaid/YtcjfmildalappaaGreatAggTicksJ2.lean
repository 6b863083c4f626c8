/-
  AggTicks: what is told of the functions that the law reaches, computed.
-/
import Derived.Test.YtcjfmildalappaaGreatRows
import Derived.WalkKit
import Derived.ProofKit
set_option maxRecDepth 100000
namespace Go.Proofs.YtcjfmildalappaaGreat.aggTicks
open Go Go.RowKit
theorem jf_recurses : (Rows.aggTicksRow.recurses == Tryz.prog.recurses 3) = true := by kernel_rfl
theorem jf_named : (Rows.aggTicksRow.named == Tryz.prog.varsNamed 3) = true := by kernel_rfl
end Go.Proofs.YtcjfmildalappaaGreat.aggTicks
