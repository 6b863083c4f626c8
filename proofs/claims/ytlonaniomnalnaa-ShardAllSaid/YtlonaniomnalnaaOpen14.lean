/-
  Chapter 14: a row of texts that comes in.
-/
import Derived.Test.YtlonaniomnalnaaShown14
namespace Go.Proofs.Ytlonaniomnalnaa
open Go.RowKit Go.ChangeShapes Go.WideShapes Go.Deep
set_option maxRecDepth 100000 in
theorem open_txs {H : Type} {enc : TypeId × Value → H} {w : World} {base : Nat} {spare : Nat → Bool} {held : Bool} {r : Reach} {b0 : Nat} {v : Value} {d : DataW H} {p : List MemPlace}
    (hv : Value.okWide Try.prog w r b0 29 v) (h : DataW.Trod enc Try.prog w base spare held 29 v d p) :
    ∃ l : List Tx, Strs w.heap.size w v l ∧ l.length ≤ maxLen := by
  obtain ⟨l, hs, hl⟩ := open_strlist Try.underlying29 Try.underlying9 (by kernel_rfl) hv h
  have hl' : ∀ b ∈ l, b.data.toList.length ≤ 9223372036854775807 := fun b hb => by have := hl b hb; simpa [maxLen] using this
  refine ⟨l.pmap (fun b hb => ⟨b.data.toList, hb⟩) hl', ?_, ?_⟩
  · refine Strs.of_sl ?_
    have e : strs (l.pmap (fun b hb => (⟨b.data.toList, hb⟩ : Tx)) hl') = l.map Value.string := by
      unfold strs
      rw [List.map_pmap]
      simp
    rw [e, List.length_pmap]
    exact hs
  · rw [List.length_pmap]
    obtain ⟨_, A, c, _, hn, hc, _⟩ := hs
    omega
end Go.Proofs.Ytlonaniomnalnaa
