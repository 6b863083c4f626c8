/-
  Chapter 14: shard.Part.
-/
import Derived.Test.YtlonaniomnalnaaPart14
namespace Go.Proofs.Ytlonaniomnalnaa
open Go.RowKit Go.Shelf
attribute [local go_sem] Oper.semAt_some

theorem own_lower {w : World} {b b' : Nat} {e : TypeId} {sz n : Nat} {v : Value} {xs : List Value} (h : w.ownsRow b e sz v n xs) (hb : b' ≤ b) : w.ownsRow b' e sz v n xs :=
  ⟨h.1, h.2.imp id fun ⟨g, cap, cur, hv, hg, r⟩ => ⟨g, cap, cur, hv, Nat.le_trans hb hg, r⟩⟩
theorem info_string : (Try.prog.info? 9).map (fun i => (i.zero, i.size, i.bytes)) = some (some (.string ⟨#[]⟩), 1, 16) := by kernel_rfl

set_option maxRecDepth 100000 in
set_option maxHeartbeats 4000000 in
theorem shard_part (a : Option Addr) (cap : Nat) (m : Int) (zs : List Tx) (hreach : zs.length ≤ 1000000000) (w : World) (hI : Strs w.heap.size w (.slice a zs.length cap) zs) :
    Calls Try.prog 24 #[.slice a zs.length cap, .int .i64 m] w fun e W' => ∃ v, e = .returned v ∧
      W'.ownsRow w.heap.size 9 1 v (inShard m zs).length (strs (inShard m zs)) ∧ (v = .slice none 0 0 ↔ inShard m zs = []) ∧ Only [] w W' := by
  refine (callsIn_wide (n := 9)).1 ?_
  obtain ⟨i0, hi, hz0, hz1, hz2⟩ := info_parts info_string
  refine callsIn_of_wp_marks Try.func24 rfl trivial ?_ rfl
  simp only [Try.ntmps24, List.size_toArray, List.length_cons, List.length_nil, Nat.reduceAdd, Nat.reduceSub, Array.replicate_succ, Array.replicate_zero, List.push_toArray, List.append_toArray, List.nil_append, List.cons_append]
  gi_wp2_with (refine ⟨trivial, ?_⟩; gi_at_call 47; refine (callsIn_wide.2 (within _ _ _ _ _)).mono ?_; rintro e w' ⟨rfl, rfl⟩)
  have bO := ((Boxed.new w 29 (.slice none 0 0)).alloc (.cells #[.slice a zs.length cap] 29)).alloc (.cells #[.int .i64 m] 3)
  have bS := (Boxed.new (w.alloc (.cells #[.slice none 0 0] 29)) 29 (.slice a zs.length cap)).alloc (.cells #[.int .i64 m] 3)
  have bN := Boxed.new ((w.alloc (.cells #[.slice none 0 0] 29)).alloc (.cells #[.slice a zs.length cap] 29)) 3 (.int .i64 m)
  have hB0 : Below w.heap.size w (((w.alloc (.cells #[.slice none 0 0] 29)).alloc (.cells #[.slice a zs.length cap] 29)).alloc (.cells #[.int .i64 m] 3)) := (((Below.refl _ w).alloc (Nat.le_refl _) _).alloc (by simp) _).alloc (by simp; omega) _
  obtain ⟨W0, hW0⟩ : ∃ W0, (((w.alloc (.cells #[.slice none 0 0] 29)).alloc (.cells #[.slice a zs.length cap] 29)).alloc (.cells #[.int .i64 m] 3)) = W0 := ⟨_, rfl⟩
  have hs0 : W0.heap.size = w.heap.size + 3 := by rw [← hW0]; simp
  simp only [World.size_alloc] at bS bN
  rw [hW0] at bO bS bN hB0 ⊢
  refine wpIn_range_it (n := 5) (α := Tx) (gf := 59) (lb := #[.pointer (some ⟨w.heap.size + 1, 0, none⟩), .pointer (some ⟨w.heap.size + 2, 0, none⟩)]) rfl (enters_of Try.func59 (by kernel_rfl) rfl)
    (encs := fun x => #[sv x]) (fun _ => rfl) w.heap.size (w.heap.size + 2) (by omega) (by omega) (inShard m zs) zs.length
    (fun X W hW hs hX h0 hY => within1 _ _ _ _ w.heap.size _ m zs hreach W ((hW.block _ (by omega)).trans bS) ((hW.block _ (by omega)).trans bN) (by omega) (hI.below (hB0.trans (hW.mono (by omega)))) X hX h0
      (fun H pre x W1 hH hx hl => (hY H pre x W1 hH hx hl).mono fun e W' h => ⟨h.1, h.2.1, h.2.2.1, h.2.2.2.bel, h.2.2.2.num, h.2.2.2.mid⟩))
    (fun H pre W => (∃ v, Boxed W w.heap.size 29 v ∧ W.ownsRow H 9 1 v pre.length (strs pre) ∧ (v = .slice none 0 0 ↔ pre = [])) ∧ (Below w.heap.size w W ∧ H ≤ W.heap.size))
    (fun H => OwnFrom.and (Own.from (holdsRow_own H w.heap.size 29 9 1 (fun pre : List Tx => pre.length) (fun pre => strs pre) (fun pre v => v = .slice none 0 0 ↔ pre = [])) _) (OwnFrom.and (ownFrom_below (Nat.le_refl _) (by omega)) (fun s A B row hs hg hr => Nat.le_trans hs hg.size)))
    (fun W' hW' => ⟨⟨_, (hW'.block _ (by omega)).trans bO, World.ownsRow_nil _ _ _ _, by simp⟩, hB0.trans (hW'.mono (by omega)), Nat.le_refl _⟩)
    (fun x => { tmps := #[.slice a zs.length cap, .int .i64 m, undef, undef, .slice none 0 0, .pointer (some ⟨w.heap.size, 0, none⟩), sv x, .slice a zs.length cap, .int .i64 m, .func (.func 59) #[] #[.pointer (some ⟨w.heap.size + 1, 0, none⟩), .pointer (some ⟨w.heap.size + 2, 0, none⟩)], sv x, undef, undef, undef, undef, undef], defers := [] }) ?assign ?body ?done
  case assign =>
    intro l x W K hK
    gi_wp2
    exact hK
  case body =>
    rintro l H pre x W hH ⟨⟨v, hv, hrow, hnil⟩, hB, hHW⟩ hlen
    have hc := hv.cell
    have hne := hv.not_row (by decide) hrow
    gi_wp2_with (gi_at_builtin; refine wpListIn_append_own _ rfl _ _ 29 rfl H 9 i0 (.string ⟨#[]⟩) 1 16 Try.underlying29 hi hz0 hz1 hz2 rfl (by decide) _ _ _ rfl (hrow.alloc _) ⟨W.heap.size, 0, none⟩ 1 1 [sv x] rfl rfl (cell_one_new _ _ _) (by simp [Value.oneCell']) (by simp [maxLen]; omega) (by omega) (by simp; omega) ?_; intro v' w1 hown' hgrow _; obtain ⟨g', cap', rfl⟩ := ownsRow_succ hown'; have hv1 := (hv.alloc (.cells #[sv x] 9)).kept hgrow hne; have hc1 := hv1.cell; have hf1 := hv1.frozen)
    have hne1 := hv1.not_row (by decide) hown'
    have hlt := hrow.lt
    have hkeep : ∀ k, k < W.heap.size → k ≠ w.heap.size → some k ≠ v.ownBlock → (w1.setCell ⟨w.heap.size, 0, none⟩ (.slice (some ⟨g', 0, none⟩) (pre.length + 1) cap')).heap[k]? = W.heap[k]? := fun k h1 h2 h3 =>
      (Below.heap_setCell _ _ _ k h2).trans ((hgrow.block k (by simp; omega) h3).trans (Below.heap_alloc W _ k h1))
    have hB2 : Below w.heap.size W (w1.setCell ⟨w.heap.size, 0, none⟩ (.slice (some ⟨g', 0, none⟩) (pre.length + 1) cap')) :=
      (((Below.refl w.heap.size W).alloc (by omega) _).grown hgrow (by simp; omega) (fun j ej => by have := (hlt j ej).1; omega)).setCell (p := ⟨w.heap.size, 0, none⟩) (Nat.le_refl _) _
    refine ⟨⟨hB2.size, fun k o hk h ho => ?_⟩, ⟨hB2, ?_, fun k h1 h2 => ?_⟩, ⟨_, hv1.set _, ?_, by simp⟩, hB.trans hB2, Nat.le_trans hHW hB2.size⟩
    · refine (hkeep k (Array.getElem?_eq_some_iff.1 h).1 (by omega) (fun e => ?_)).trans h
      rcases hrow.2 with ⟨rfl, _⟩ | ⟨g, cap, cur, rfl, _, hgb, _⟩
      · simp [Value.ownBlock] at e
      · obtain rfl : k = g := by simpa [Value.ownBlock] using e
        rw [hgb] at h; cases h; cases ho
    · exact hkeep _ (by omega) (by omega) (fun e => by have := (hlt _ e.symm).1; omega)
    · exact hkeep _ (by omega) (by omega) (fun e => by have := (hlt _ e.symm).1; omega)
    · have := hown'.kept (grownBy_setCell' w1 w.heap.size (.slice (some ⟨g', 0, none⟩) (pre.length + 1) cap')) (.inr hne1.symm)
      simpa using this
  case done =>
    rintro D H W4 hD hH ⟨⟨v, hv, hrow, hnil⟩, hB, hHW⟩ hK
    have hc := hv.cell
    gi_wp2
    refine ⟨by simp, .inl ⟨_, _, rfl, run_takeDeferred hK, ?_⟩⟩
    exact ⟨_, results_tmp rfl _ _ _, v, rfl, own_lower (ownsRow_putObj hrow _ hK rfl) (by omega), hnil, Only.of_below (hB.trans (belowK_b (w := w) (Nat.le_refl _) W4 D _ _ (by omega) hK rfl rfl))⟩
end Go.Proofs.Ytlonaniomnalnaa
