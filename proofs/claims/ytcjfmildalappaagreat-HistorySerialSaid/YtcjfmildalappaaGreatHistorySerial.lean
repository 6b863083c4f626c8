/-
  HistorySerial: whatever the arguments, the law answers true, and each argument reads as it did.
-/
import Derived.Test.YtcjfmildalappaaGreatHistorySerialL
import Derived.Test.YtcjfmildalappaaGreatHistorySerialJ1
import Derived.Test.YtcjfmildalappaaGreatHistorySerialJ2
import Derived.WalkKit
import Derived.ProofKit
import Derived.OpenShut
import Derived.ShutString
import Derived.ChangeOld
import Derived.Below
set_option linter.all false
namespace Go.Proofs.YtcjfmildalappaaGreat.historySerial
open Go.ChangeShapes Go.WideShapes Go.ChangeAt Go.RowKit
open Go.ChangeMaps (open_string shut_string)
theorem closed : joinedFacts Tryz.prog 14 Tryz.f14 Rows.historySerialSpec Rows.historySerialRow = true := by
  unfold joinedFacts
  rw [jf_inPlace, jf_unfollowed, jf_recurses, jf_named]
  kernel_rfl
/-- The statement. -/
theorem proved : Rows.HistorySerialSaid :=
  OpenClaim.holds_of_wide 14 Tryz.f14 rfl rfl rfl rfl rfl rfl rfl ⟨rfl, rfl, rfl, rfl, rfl⟩ rfl rfl rfl rfl rfl (by kernel_rfl) Tryz.func14 closed
    (of_decide_eq_true (by kernel_rfl)) (by unfold Func.isWrapper; first | (rw [if_pos (by decide +kernel)]; kernel_rfl) | (rw [if_neg (by decide +kernel)]; exact ⟨rfl, rfl⟩))
    (fun os started H enc _ => lifted os started H enc)
#print axioms proved
end Go.Proofs.YtcjfmildalappaaGreat.historySerial
