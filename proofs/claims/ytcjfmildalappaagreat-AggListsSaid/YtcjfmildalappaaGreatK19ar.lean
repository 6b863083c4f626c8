/-
  What the laws of the chapters 19 and 23 lean on, part K19ar: contracts of the functions that they reach, and plain facts; each theorem bears its own conditions.
-/
import Derived.Test.YtcjfmildalappaaGreatK19ad
import Derived.Test.YtcjfmildalappaaGreatK19ao
set_option linter.unusedVariables false
set_option linter.unusedSimpArgs false
namespace Go.Proofs.YtcjfmildalappaaGreat
open Go.RowKit
/-- What a feed is, whatever was done; never polled, it has nothing. -/
structure FdJ (f : Fd) : Prop where
  i : FdI f
  z : f.pol = -1 → f.fai = 0 ∧ f.ps = []
structure SvJ (S : Sv) : Prop where
  all : ∀ x ∈ S, FdJ x.2 ∧ nmL x.1 = true
  srt : S.Pairwise (fun a b => a.1 < b.1)
  n : S.length ≤ 20
end Go.Proofs.YtcjfmildalappaaGreat
