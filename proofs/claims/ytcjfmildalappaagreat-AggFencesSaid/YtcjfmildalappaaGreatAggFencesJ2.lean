/-
  AggFences: what is told of the functions that the law reaches, computed.
-/
import Derived.Test.YtcjfmildalappaaGreatRows
import Derived.WalkKit
import Derived.ProofKit
set_option maxRecDepth 100000
namespace Go.Proofs.YtcjfmildalappaaGreat.aggFences
open Go Go.RowKit
theorem jf_recurses : (Rows.aggFencesRow.recurses == Tryz.prog.recurses 6) = true := by kernel_rfl
theorem jf_named : (Rows.aggFencesRow.named == Tryz.prog.varsNamed 6) = true := by kernel_rfl
end Go.Proofs.YtcjfmildalappaaGreat.aggFences
