/-
  AggOnce: what is told of the functions that the law reaches, computed.
-/
import Derived.Test.YtcjfmildalappaaGreatRows
import Derived.WalkKit
import Derived.ProofKit
set_option maxRecDepth 100000
namespace Go.Proofs.YtcjfmildalappaaGreat.aggOnce
open Go Go.RowKit
theorem jf_recurses : (Rows.aggOnceRow.recurses == Tryz.prog.recurses 5) = true := by kernel_rfl
theorem jf_named : (Rows.aggOnceRow.named == Tryz.prog.varsNamed 5) = true := by kernel_rfl
end Go.Proofs.YtcjfmildalappaaGreat.aggOnce
