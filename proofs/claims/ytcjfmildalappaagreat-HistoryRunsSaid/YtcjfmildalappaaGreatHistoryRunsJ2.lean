/-
  HistoryRuns: what is told of the functions that the law reaches, computed.
-/
import Derived.Test.YtcjfmildalappaaGreatRows
import Derived.WalkKit
import Derived.ProofKit
set_option maxRecDepth 100000
namespace Go.Proofs.YtcjfmildalappaaGreat.historyRuns
open Go Go.RowKit
theorem jf_recurses : (Rows.historyRunsRow.recurses == Tryz.prog.recurses 13) = true := by kernel_rfl
theorem jf_named : (Rows.historyRunsRow.named == Tryz.prog.varsNamed 13) = true := by kernel_rfl
end Go.Proofs.YtcjfmildalappaaGreat.historyRuns
