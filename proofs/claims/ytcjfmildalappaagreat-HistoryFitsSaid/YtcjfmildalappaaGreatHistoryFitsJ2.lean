/-
  HistoryFits: what is told of the functions that the law reaches, computed.
-/
import Derived.Test.YtcjfmildalappaaGreatRows
import Derived.WalkKit
import Derived.ProofKit
set_option maxRecDepth 100000
namespace Go.Proofs.YtcjfmildalappaaGreat.historyFits
open Go Go.RowKit
theorem jf_recurses : (Rows.historyFitsRow.recurses == Tryz.prog.recurses 12) = true := by kernel_rfl
theorem jf_named : (Rows.historyFitsRow.named == Tryz.prog.varsNamed 12) = true := by kernel_rfl
end Go.Proofs.YtcjfmildalappaaGreat.historyFits
