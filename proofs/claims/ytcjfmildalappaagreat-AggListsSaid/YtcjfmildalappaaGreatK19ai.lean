/-
  What the laws of the chapters 19 and 23 lean on, part K19ai: contracts of the functions that they reach, and plain facts; each theorem bears its own conditions.
-/
import Derived.Test.YtcjfmildalappaaGreatK19ad
set_option linter.unusedVariables false
set_option linter.unusedSimpArgs false
namespace Go.Proofs.YtcjfmildalappaaGreat
open Go.RowKit
def TrAt (w : World) (z : Nat) (r : Rd) : Prop := Cells w z 283 [.string ⟨r.s.toArray⟩, .bool (!r.bad)] ∧ r.s.length ≤ 1000000000000
theorem TrAt.only {w w' : World} {z : Nat} {r : Rd} {S : List Nat} (h : TrAt w z r) (ho : Only S w w') (hz : z ∉ S) : TrAt w' z r := ⟨h.1.only ho hz, h.2⟩
theorem TrAt.lt {w : World} {z : Nat} {r : Rd} (h : TrAt w z r) : z < w.heap.size := h.1.lt
end Go.Proofs.YtcjfmildalappaaGreat
namespace Go.Proofs.YtcjfmildalappaaGreat
open Go.RowKit
def SrAt (w : World) (z : Nat) (r : Rd) : Prop := Cells w z 253 [.string ⟨r.s.toArray⟩, .bool r.bad] ∧ r.s.length ≤ 1000000000000
theorem SrAt.only {w w' : World} {z : Nat} {r : Rd} {S : List Nat} (h : SrAt w z r) (ho : Only S w w') (hz : z ∉ S) : SrAt w' z r := ⟨h.1.only ho hz, h.2⟩
theorem SrAt.lt {w : World} {z : Nat} {r : Rd} (h : SrAt w z r) : z < w.heap.size := h.1.lt
end Go.Proofs.YtcjfmildalappaaGreat
