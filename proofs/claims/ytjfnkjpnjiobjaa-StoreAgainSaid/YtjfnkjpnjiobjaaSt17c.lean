/-
  Chapter 17: New, Subscribe, Unsubscribe, Fail, Mark.
-/
import Derived.Test.YtjfnkjpnjiobjaaLst17
namespace Go.Proofs.Ytjfnkjpnjiobjaa
open Go.RowKit
theorem nm_one {T : List Pl} (hs : T.Pairwise (fun a b => a.nm < b.nm)) {a b : Pl} (ha : a ∈ T) (hb : b ∈ T) (h : a.nm = b.nm) : a = b := by
  induction T with
  | nil => cases ha
  | cons c r ih =>
    have h1 := List.pairwise_cons.1 hs
    rcases List.mem_cons.1 ha with rfl | ha'
    · rcases List.mem_cons.1 hb with rfl | hb'
      · rfl
      · have := h1.1 b hb'; rw [h] at this; exact absurd this (List.lt_irrefl _)
    · rcases List.mem_cons.1 hb with rfl | hb'
      · have := h1.1 a ha'; rw [h] at this; exact absurd this (List.lt_irrefl _)
      · exact ih h1.2 ha' hb'
theorem StX.bm {w : World} {b mb : Nat} {T : List Pl} (h : StX w b mb T) : b ≠ mb := by
  intro e
  obtain ⟨D, ⟨es, clock, hh, _⟩, _⟩ := h.map.ex
  have := h.cells
  unfold Cells at this
  rw [e, hh] at this
  cases this
/-- What an operation on a store does to the world. -/
structure Op17 (w w' : World) (b mb : Nat) (T T' : List Pl) : Prop where
  st : StX w' b mb T'
  ho : Only (allX b mb T) w w'
  new : ∀ x ∈ allX b mb T', x ∈ allX b mb T ∨ w.heap.size ≤ x
theorem Op17.same {w w' : World} {b mb : Nat} {T : List Pl} (h : StX w b mb T) (ho : Only [] w w') : Op17 w w' b mb T T :=
  ⟨h.keep ho (by simp), ho.of0, fun x hx => .inl hx⟩
theorem mem_putBy {k : List UInt8} {t' a : Pl} {T : List Pl} (h : a ∈ putBy Pl.nm k t' T) : a = t' ∨ (a ∈ T ∧ a.nm ≠ k) := by
  unfold putBy at h
  obtain ⟨c, hc, rfl⟩ := List.mem_map.1 h
  by_cases hk : c.nm = k
  · left; rw [if_pos (by simpa using hk)]
  · right; rw [if_neg (by simpa using hk)]; exact ⟨hc, hk⟩
theorem StX.put {w w' : World} {b mb : Nat} {T : List Pl} {k : List UInt8} {t t' : Pl} (h : StX w b mb T) (hf : fT T k = some t) (hnm : t'.nm = t.nm) (hp : t'.p = t.p) (hm : t'.m = t.m) (hfd : FdAt w' t'.p t'.m t'.v t'.fd) (ho : Only t.own w w') (hnew : NewOf w t.v t'.v) :
    Op17 w w' b mb T (putBy Pl.nm k t' T) := by
  obtain ⟨ht, hk⟩ := fT_mem hf
  have hpo : ∀ x ∈ t'.own, x ∈ t.own ∨ w.heap.size ≤ x := by
    intro x hx
    simp only [Pl.own, List.cons_append, List.nil_append, List.mem_cons] at hx ⊢
    rcases hx with rfl | rfl | hx
    · left; left; exact hp
    · left; right; left; exact hm
    · rcases hnew x (by simpa [rb] using hx) with h | h
      · left; right; right; simpa [rb] using h
      · right; exact h
  have hlts := h.lts
  have hkeep : ∀ a ∈ T, a.nm ≠ k → ∀ x ∈ a.own, x ∉ t.own := fun a ha hne => h.dis a ha t ht (by rw [hk]; exact hne)
  have hlt' : ∀ a ∈ T, ∀ x ∈ a.own, x < w.heap.size := fun a ha x hx => hlts x (own_mem ha hx)
  refine ⟨⟨h.cells.only ho (h.dib t ht).1, ?_, ?_, ?_, ?_, ?_, ?_, ?_⟩, ?_, ?_⟩
  · have : ptT (putBy Pl.nm k t' T) = ptT T := by
      funext k'
      unfold ptT fT
      rw [putBy_find Pl.nm k t' T (by rw [hnm, hk])]
      by_cases he : k' = k
      · subst he
        rw [if_pos rfl]
        unfold fT at hf
        rw [hf]
        show some (Value.pointer (some ⟨t'.p, 0, none⟩)) = some (Value.pointer (some ⟨t.p, 0, none⟩))
        rw [hp]
      · rw [if_neg he]
    rw [this, show (putBy Pl.nm k t' T).length = T.length from by unfold putBy; simp]
    exact h.map.only ho (h.dib t ht).2
  · intro a ha
    rcases mem_putBy ha with rfl | ⟨ha, hne⟩
    · exact hfd
    · exact (h.fds a ha).keep ho (hkeep a ha hne)
  · rw [sorted_keys Pl.nm, putBy_keys Pl.nm k t' T (by rw [hnm, hk]), ← sorted_keys]; exact h.srt
  · intro a ha c hc hne x hx
    rcases mem_putBy ha with rfl | ⟨ha2, hna⟩
    · rcases mem_putBy hc with rfl | ⟨hc2, hnc⟩
      · exact absurd rfl hne
      · intro hxc
        rcases hpo x hx with h1 | h1
        · exact hkeep c hc2 hnc x hxc h1
        · have := hlt' c hc2 x hxc; omega
    · rcases mem_putBy hc with rfl | ⟨hc2, hnc⟩
      · intro hxc
        rcases hpo x hxc with h1 | h1
        · exact hkeep a ha2 hna x hx h1
        · have := hlt' a ha2 x hx; omega
      · exact h.dis a ha2 c hc2 hne x hx
  · intro a ha
    rcases mem_putBy ha with rfl | ⟨ha, _⟩
    · have hd := h.dib t ht
      have hb1 := h.cells.lt
      have hb2 := h.map.lt
      refine ⟨fun hx => ?_, fun hx => ?_⟩
      · rcases hpo _ hx with h1 | h1
        · exact hd.1 h1
        · omega
      · rcases hpo _ hx with h1 | h1
        · exact hd.2 h1
        · omega
    · exact h.dib a ha
  · unfold putBy; rw [List.length_map]; exact h.cap
  · intro a ha
    rcases mem_putBy ha with rfl | ⟨ha, _⟩
    · rw [hnm]; exact h.nml t ht
    · exact h.nml a ha
  · exact ho.mono fun x hx => .inl (own_mem ht hx)
  · intro x hx
    unfold allX at hx
    simp only [List.mem_cons] at hx
    rcases hx with rfl | rfl | hx
    · left; simp [allX]
    · left; simp [allX]
    · obtain ⟨a, ha, hxa⟩ := List.mem_flatMap.1 hx
      rcases mem_putBy ha with rfl | ⟨ha2, _⟩
      · exact (hpo x hxa).imp (own_mem ht) id
      · exact .inl (own_mem ha2 hxa)
set_option maxRecDepth 100000 in
theorem store_fresh (w : World) : Calls Try.prog 88 #[] w fun e w' => e = .returned (.pointer (some ⟨w.heap.size + 1, 0, none⟩)) ∧ w' = (w.alloc (.map #[] 0)).alloc (.cells #[.int .i64 (-1), .int .i64 0, .slice none 0 0, .map (some w.heap.size)] 99) := by
  have hmm := @run_makeMap Try.prog
  go_enter Try.func88, Try.ntmps88
  go_wp2_with fail
  go_ret
  exact ⟨by simp, rfl⟩
theorem fresh_at (w : World) : FdAt ((w.alloc (.map #[] 0)).alloc (.cells #[.int .i64 (-1), .int .i64 0, .slice none 0 0, .map (some w.heap.size)] 99)) (w.heap.size + 1) w.heap.size (.slice none 0 0) ⟨-1, 0, []⟩ := by
  refine ⟨?_, World.ownsRow_nil _ _ _ _, ?_, by simp, by simp⟩
  · have := Cells.new (w.alloc (.map #[] 0)) 99 [.int .i64 (-1), .int .i64 0, .slice none 0 0, .map (some w.heap.size)]
    rw [World.size_alloc] at this
    exact this
  · exact (MapF.made w).only ((Only.refl [] _).alloc _) (by simp)
set_option maxRecDepth 100000 in
theorem store_new (w : World) : Calls Try.prog 17 #[] w fun e w' => e = .returned (.pointer (some ⟨w.heap.size + 1, 0, none⟩)) ∧ StX w' (w.heap.size + 1) w.heap.size [] ∧ Only [] w w' := by
  have hmm := @run_makeMap Try.prog
  have hs : StX ((w.alloc (.map #[] 0)).alloc (.cells #[.map (some w.heap.size)] 91)) (w.heap.size + 1) w.heap.size [] := by
    refine ⟨?_, ?_, by simp, List.Pairwise.nil, by simp, by simp, by simp, by simp⟩
    · have := Cells.new (w.alloc (.map #[] 0)) 91 [.map (some w.heap.size)]
      rw [World.size_alloc] at this
      exact this
    · exact (MapF.made w).only ((Only.refl [] _).alloc _) (by simp)
  have HS := Lib.hid hs
  clear hs
  go_enter Try.func17, Try.ntmps17
  go_wp2_with fail
  go_ret
  exact ⟨by simp, HS.out, ((Only.refl [] w).alloc _).alloc _⟩
end Go.Proofs.Ytjfnkjpnjiobjaa
