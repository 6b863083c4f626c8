/-
  Contracts; each theorem bears its own conditions.
-/
import Derived.Test.YtcjfmildalappaaGreatK26ad
import Derived.Test.YtcjfmildalappaaGreatK26aq
set_option linter.all false
set_option maxRecDepth 100000
set_option maxHeartbeats 8000000
namespace Go.Proofs.YtcjfmildalappaaGreat
open Go.RowKit
structure FdJ (f:Fd):Prop where
 i:FdI f
 z:f.pol = -1 → f.fai = 0 ∧ f.ps = []
structure SvJ (S:Sv):Prop where
 all:∀ x ∈ S,FdJ x.2 ∧ nmL x.1 = true
 srt:S.Pairwise (fun a b => a.1 < b.1)
 n:S.length ≤ 20
end Go.Proofs.YtcjfmildalappaaGreat
