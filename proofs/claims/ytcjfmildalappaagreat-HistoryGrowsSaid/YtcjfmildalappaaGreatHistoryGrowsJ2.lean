/-
  HistoryGrows: what is told of the functions that the law reaches, computed.
-/
import Derived.Test.YtcjfmildalappaaGreatRows
import Derived.WalkKit
import Derived.ProofKit
set_option maxRecDepth 100000
namespace Go.Proofs.YtcjfmildalappaaGreat.historyGrows
open Go Go.RowKit
theorem jf_recurses : (Rows.historyGrowsRow.recurses == Tryz.prog.recurses 10) = true := by kernel_rfl
theorem jf_named : (Rows.historyGrowsRow.named == Tryz.prog.varsNamed 10) = true := by kernel_rfl
end Go.Proofs.YtcjfmildalappaaGreat.historyGrows
