/-
  A []int that comes in.
-/
import Derived.Test.YtagklgodcbmcaaaS7b
namespace Go.Proofs.Ytagklgodcbmcaaa
open Go.RowKit Go.ChangeShapes Go.WideShapes Go.Deep
set_option maxRecDepth 100000 in
theorem open_ints7 {H : Type} {enc : TypeId × Value → H} {w : World} {base : Nat} {spare : Nat → Bool} {held : Bool} {r : Reach} {b0 : Nat} {v : Value} {d : DataW H} {p : List MemPlace}
    (hv : Value.okWide Try.prog w r b0 25 v) (h : DataW.Trod enc Try.prog w base spare held 25 v d p) :
    ∃ l : List Int, SlAt w w.heap.size v 1 l.length (gvs l) ∧ ∀ x ∈ l, Wide64 x := by
  obtain ⟨l, hs, hl⟩ := open_intlist Try.underlying25 Try.underlying3 (by kernel_rfl) hv h
  exact ⟨l, hs, fun x hx => wide64_of_wf (hl x hx)⟩
end Go.Proofs.Ytagklgodcbmcaaa
