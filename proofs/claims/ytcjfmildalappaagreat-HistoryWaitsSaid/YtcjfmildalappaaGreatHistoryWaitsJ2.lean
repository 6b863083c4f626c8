/-
  HistoryWaits: what is told of the functions that the law reaches, computed.
-/
import Derived.Test.YtcjfmildalappaaGreatRows
import Derived.WalkKit
import Derived.ProofKit
set_option maxRecDepth 100000
namespace Go.Proofs.YtcjfmildalappaaGreat.historyWaits
open Go Go.RowKit
theorem jf_recurses : (Rows.historyWaitsRow.recurses == Tryz.prog.recurses 15) = true := by kernel_rfl
theorem jf_named : (Rows.historyWaitsRow.named == Tryz.prog.varsNamed 15) = true := by kernel_rfl
end Go.Proofs.YtcjfmildalappaaGreat.historyWaits
