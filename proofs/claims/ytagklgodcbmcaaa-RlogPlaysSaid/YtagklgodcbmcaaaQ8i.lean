/-
  Chapter 8: two logs side by side; what an act makes of them.
-/
import Derived.Test.YtagklgodcbmcaaaQ8h
namespace Go.Proofs.Ytagklgodcbmcaaa
open Go.RowKit
/-- A log and the document's, made since W, apart from one another, that hold the same. -/
def Two (W w : World) (b r : Nat) (g : LG) : Prop := ∃ K KR, LogAt W w K b g ∧ RlK w KR r g ∧ (∀ q, q ∈ KR → W.heap.size ≤ q) ∧ (∀ q, q ∈ K → q ∉ KR) ∧ IxOk g
theorem Two.only {W w w' : World} {b r : Nat} {g : LG} (h : Two W w b r g) (ho : Only [] w w') : Two W w' b r g := by
  obtain ⟨K, KR, h1, h2, h3, h4, h5⟩ := h
  exact ⟨K, KR, h1.to ho, h2.only ho, h3, h4, h5⟩
theorem Two.W {W w : World} {b r : Nat} {g : LG} (h : Two W w b r g) : Only [] W w := by
  obtain ⟨K, KR, h1, h2, h3, h4, h5⟩ := h
  exact h1.only
/-- Both have done the same. -/
theorem Two.step {W w w1 w2 : World} {K KR K' : List Nat} {b r : Nat} {g g' : LG} (h1 : LogAt W w K b g) (h3 : ∀ q, q ∈ KR → W.heap.size ≤ q) (h4 : ∀ q, q ∈ K → q ∉ KR) (hb : ∀ q, q ∈ KR → q < w.heap.size) (h6 : LogAt W w1 K' b g') (h7 : Grew w w1 K K') (h8 : RDoes w1 w2 KR r g') (h5 : IxOk g') : Two W w2 b r g' := by
  obtain ⟨KR', k1, k2⟩ := h8
  have hap : ∀ q, q ∈ K' → q ∉ KR := fun q hq hm => (h7.blocks q hq).elim (fun h => h4 q h hm) fun h => by have := hb q hm; omega
  have hoW : Only [] W w2 := h6.only.trans k2.only fun q hq => .inr (h3 q hq)
  refine ⟨K', KR', h6.keep k2.only (fun q hq hm => hap q hm hq) hoW, k1, fun q hq => (k2.blocks q hq).elim (h3 q) fun h => Nat.le_trans h6.only.size h, fun q hq hm => (k2.blocks q hm).elim (hap q hq) fun h => by have := h6.k.below q hq; omega, h5⟩
theorem IxOk.snoc {g : LG} (h : IxOk g) (y : En) (hy : y.ix = g.last + 1) : IxOk ⟨g.b, g.l ++ [y]⟩ := by
  intro j z hz
  by_cases hj : j < g.l.length
  · rw [List.getElem?_append_left hj] at hz; exact h j z hz
  · rw [List.getElem?_append_right (by omega)] at hz
    have hj2 := (List.getElem?_eq_some_iff.1 hz).1
    simp at hj2
    have : j = g.l.length := by omega
    subst this
    simp at hz
    subst hz
    rw [hy]; unfold LG.last; dsimp only; omega
theorem IxOk.takeL {g : LG} (h : IxOk g) (l : List En) : IxOk (takeL g l) := by
  induction l generalizing g with
  | nil => exact h
  | cons e r ih =>
    rw [takeL_cons]
    split
    · exact h
    · split
      · rename_i he
        exact ih (h.snoc e he)
      · exact ih h
theorem IxOk.cut {g : LG} (h : IxOk g) (p : Nat) : IxOk ⟨g.b, g.l.take p⟩ := by
  intro j z hz
  have hj : j < p := by have := (List.getElem?_eq_some_iff.1 hz).1; simp at this; omega
  rw [List.getElem?_take_of_lt hj] at hz
  exact h j z hz
theorem IxOk.addAll {g : LG} (h : IxOk g) (l : List En) : IxOk (g.addAll l) := by
  induction l generalizing g with
  | nil => exact h
  | cons e r ih => rw [addAll_cons]; exact ih (h.snoc _ rfl)
theorem IxOk.matchGo {g : LG} (h : IxOk g) (index fixed : Int) (l : List En) (k : Nat) : IxOk (g.matchGo index fixed k l).1 := by
  induction l generalizing k with
  | nil => exact h
  | cons e r ih =>
    rw [matchGo_cons]
    split
    · exact ih _
    · exact (h.cut _).addAll _
theorem IxOk.matchR {g : LG} (h : IxOk g) (index term fixed : Int) (l : List En) : IxOk (g.matchR index term fixed l).g := by
  unfold LG.matchR
  split
  · exact h
  · split
    · exact h
    · exact h.matchGo _ _ _ _
theorem IxOk.compact {g : LG} (h : IxOk g) (i : Int) (d : ByteArray) : IxOk (g.compact i d).1 := by
  unfold LG.compact
  split
  · exact h
  · rename_i hc
    intro j z hz
    dsimp only at hz ⊢
    rw [List.getElem?_drop] at hz
    have := h _ z hz
    omega
theorem IxOk.restore {g : LG} (h : IxOk g) (x : Bas) : IxOk (g.restore x).1 := by
  unfold LG.restore
  split
  · rename_i hc
    have ht := LG.term_ok hc.1
    intro j z hz
    dsimp only at hz ⊢
    rw [List.getElem?_drop] at hz
    have := h _ z hz
    omega
  · intro j z hz; simp at hz
/-- How far a log may have come. -/
theorem addAll_last (g : LG) (l : List En) : (g.addAll l).last = g.last + (l.length : Int) := by
  induction l generalizing g with
  | nil => simp [LG.addAll]
  | cons e r ih => rw [addAll_cons, ih]; unfold LG.last; simp; omega
theorem matchGo_last (g : LG) (index fixed : Int) (l : List En) (k : Nat) : (g.matchGo index fixed k l).1.last ≤ g.last + (l.length : Int) := by
  induction l generalizing k with
  | nil => unfold LG.matchGo; simp
  | cons e r ih =>
    rw [matchGo_cons]
    split
    · have := ih (k + 1); simp; omega
    · rw [addAll_last]
      unfold LG.last
      dsimp only
      rw [List.length_take]
      omega
theorem matchR_last (g : LG) (index term fixed : Int) (l : List En) : (g.matchR index term fixed l).g.last ≤ g.last + (l.length : Int) := by
  unfold LG.matchR
  split
  · dsimp only; omega
  · split
    · dsimp only; omega
    · exact matchGo_last g _ _ _ _
theorem restore_last (g : LG) (x : Bas) : (g.restore x).1.last ≤ max x.ix g.last := by
  unfold LG.restore
  split
  · rename_i hc
    have ht := LG.term_ok hc.1
    unfold LG.last at ht ⊢
    dsimp only
    rw [List.length_drop]
    omega
  · unfold LG.last; dsimp only; simp; omega
theorem compact_last (g : LG) (i : Int) (d : ByteArray) : (g.compact i d).1.last = g.last := by
  unfold LG.compact
  split
  · rfl
  · rename_i hc
    unfold LG.last at hc ⊢
    dsimp only
    rw [List.length_drop]
    omega
theorem takeL_last (g : LG) (l : List En) : (takeL g l).last ≤ g.last + (l.length : Int) := by
  induction l generalizing g with
  | nil => unfold takeL; simp
  | cons e r ih =>
    rw [takeL_cons]
    split
    · simp
      omega
    · split
      · have := ih ⟨g.b, g.l ++ [e]⟩
        unfold LG.last at this ⊢
        simp at this ⊢
        omega
      · have := ih g
        simp
        omega
end Go.Proofs.Ytagklgodcbmcaaa
