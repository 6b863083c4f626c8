/-
  AggPlays: whatever the arguments, the law answers true, and each argument reads as it did.
-/
import Derived.Test.YtcjfmildalappaaGreatAggPlaysL
import Derived.Test.YtcjfmildalappaaGreatAggPlaysJ1
import Derived.Test.YtcjfmildalappaaGreatAggPlaysJ2
import Derived.WalkKit
import Derived.ProofKit
import Derived.OpenShut
import Derived.ShutString
import Derived.ChangeOld
import Derived.Below
set_option linter.all false
namespace Go.Proofs.YtcjfmildalappaaGreat.aggPlays
open Go.ChangeShapes Go.WideShapes Go.ChangeAt Go.RowKit
open Go.ChangeMaps (open_string shut_string)
theorem closed : joinedFacts Tryz.prog 7 Tryz.f7 Rows.aggPlaysSpec Rows.aggPlaysRow = true := by
  unfold joinedFacts
  rw [jf_inPlace, jf_unfollowed, jf_recurses, jf_named]
  kernel_rfl
/-- The statement. -/
theorem proved : Rows.AggPlaysSaid :=
  OpenClaim.holds_of_wide 7 Tryz.f7 rfl rfl rfl rfl rfl rfl rfl ⟨rfl, rfl, rfl, rfl, rfl⟩ rfl rfl rfl rfl rfl (by kernel_rfl) Tryz.func7 closed
    (of_decide_eq_true (by kernel_rfl)) (by unfold Func.isWrapper; first | (rw [if_pos (by decide +kernel)]; kernel_rfl) | (rw [if_neg (by decide +kernel)]; exact ⟨rfl, rfl⟩))
    (fun os started H enc _ => lifted os started H enc)
#print axioms proved
end Go.Proofs.YtcjfmildalappaaGreat.aggPlays
