/-
  AggKeeps: what is told of the functions that the law reaches, computed.
-/
import Derived.Test.YtcjfmildalappaaGreatRows
import Derived.WalkKit
import Derived.ProofKit
set_option maxRecDepth 100000
namespace Go.Proofs.YtcjfmildalappaaGreat.aggKeeps
open Go Go.RowKit
theorem jf_recurses : (Rows.aggKeepsRow.recurses == Tryz.prog.recurses 9) = true := by kernel_rfl
theorem jf_named : (Rows.aggKeepsRow.named == Tryz.prog.varsNamed 9) = true := by kernel_rfl
end Go.Proofs.YtcjfmildalappaaGreat.aggKeeps
