/-
  AggPlays: what is told of the functions that the law reaches, computed.
-/
import Derived.Test.YtcjfmildalappaaGreatRows
import Derived.WalkKit
import Derived.ProofKit
set_option maxRecDepth 100000
namespace Go.Proofs.YtcjfmildalappaaGreat.aggPlays
open Go Go.RowKit
theorem jf_recurses : (Rows.aggPlaysRow.recurses == Tryz.prog.recurses 7) = true := by kernel_rfl
theorem jf_named : (Rows.aggPlaysRow.named == Tryz.prog.varsNamed 7) = true := by kernel_rfl
end Go.Proofs.YtcjfmildalappaaGreat.aggPlays
