/-
  AggReads: what is told of the functions that the law reaches, computed.
-/
import Derived.Test.YtcjfmildalappaaGreatRows
import Derived.WalkKit
import Derived.ProofKit
set_option maxRecDepth 100000
namespace Go.Proofs.YtcjfmildalappaaGreat.aggReads
open Go Go.RowKit
theorem jf_recurses : (Rows.aggReadsRow.recurses == Tryz.prog.recurses 8) = true := by kernel_rfl
theorem jf_named : (Rows.aggReadsRow.named == Tryz.prog.varsNamed 8) = true := by kernel_rfl
end Go.Proofs.YtcjfmildalappaaGreat.aggReads
