/-
  AggLists: what is told of the functions that the law reaches, computed.
-/
import Derived.Test.YtcjfmildalappaaGreatRows
import Derived.WalkKit
import Derived.ProofKit
set_option maxRecDepth 100000
namespace Go.Proofs.YtcjfmildalappaaGreat.aggLists
open Go Go.RowKit
theorem jf_recurses : (Rows.aggListsRow.recurses == Tryz.prog.recurses 4) = true := by kernel_rfl
theorem jf_named : (Rows.aggListsRow.named == Tryz.prog.varsNamed 4) = true := by kernel_rfl
end Go.Proofs.YtcjfmildalappaaGreat.aggLists
