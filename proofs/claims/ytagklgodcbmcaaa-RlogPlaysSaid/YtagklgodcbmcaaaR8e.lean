/-
  Chapter 8: New.
-/
import Derived.Test.YtagklgodcbmcaaaR8d
namespace Go.Proofs.Ytagklgodcbmcaaa
open Go.RowKit
set_option maxRecDepth 100000 in
set_option maxHeartbeats 1000000 in
theorem log_new (x : Bas) (vv lv : Value) (l : List En) (w : World) (hs : SlAt w w.heap.size vv 1 x.vs.length (gvs x.vs)) (hl : w.ownsRow 0 40 4 lv l.length (enL l)) (h0 : 0 ≤ x.ix) (h1 : x.ix + l.length ≤ 1000000) (h2 : x.vs.length ≤ 1000) :
    Calls Try.prog 18 #[x.val vv, lv] w fun e w' => ∃ b K, e = .returned (.pointer (some ⟨b, 0, none⟩)) ∧ LogK w' K b (takeL ⟨x, []⟩ l) ∧ Only [] w w' ∧ ∀ q, q ∈ K → w.heap.size ≤ q := by
  obtain ⟨A, c, rfl⟩ := hs.shape
  have hA : Only [] w (w.alloc (.cells #[.int .i64 x.ix, .int .i64 x.tm, .slice A x.vs.length c, .string x.d] 27)) := (Only.refl _ w).alloc _
  have CO := Lib.hid (log_own x (.slice A x.vs.length c) w.heap.size _ (by simp) (by omega) (hs.only hA (Nat.le_refl _) (by simp)))
  unfold Bas.val at CO ⊢
  have HL := Lib.hid hl
  clear hs hl
  go_enter Try.func18, Try.ntmps18
  go_wp2_with fail
  refine CO.out.mono ?_
  rintro e w1 ⟨v', rfl, hown, ho1⟩
  have hoB := hA.tr ho1
  have hown := own_low hown (B' := w.heap.size) hA.size
  have HO := Lib.hid hown
  obtain ⟨A', c', rfl⟩ := (SlAt.of_own hown).shape
  clear hA CO ho1 hown
  go_wp2_with fail
  have hoC := hoB.alloc (.cells #[.int .i64 x.ix, .int .i64 x.tm, .slice A' x.vs.length c', .string x.d, .slice none 0 0] 86)
  have hLV : LogV (w1.alloc (.cells #[.int .i64 x.ix, .int .i64 x.tm, .slice A' x.vs.length c', .string x.d, .slice none 0 0] 86)) w1.heap.size (.slice A' x.vs.length c') (.slice none 0 0) ⟨x, []⟩ :=
    ⟨Cells.new _ _ _, World.ownsRow_nil _ _ _ _, own_low (HO.out.alloc _) (Nat.zero_le _), h0, by simp; omega, h2⟩
  have hKge : ∀ q, q ∈ lk w1.heap.size (.slice A' x.vs.length c') (.slice none 0 0) → w.heap.size ≤ q := by
    intro q hq
    simp only [lk, List.mem_cons, List.mem_append, mem_rb] at hq
    rcases hq with rfl | hq | hq
    · exact hoB.size
    · simp [Value.ownBlock] at hq
    · exact (HO.out.lt q hq).1
  have hER : EnR (w1.alloc (.cells #[.int .i64 x.ix, .int .i64 x.tm, .slice A' x.vs.length c', .string x.d, .slice none 0 0] 86)) (lk w1.heap.size (.slice A' x.vs.length c') (.slice none 0 0)) lv l :=
    ⟨own_keep HL.out hoC (by simp), fun q hq hm => by have := hKge q hm; have := (HL.out.lt q hq).2; omega⟩
  have HKge := Lib.hid hKge
  refine (log_take _ _ lv l ⟨x, []⟩ _ hLV.toK hER (by unfold LG.last; simp; omega)).mono ?_
  clear hLV hER hKge
  rintro e w2 ⟨rfl, K', hK', hG⟩
  have HK' := Lib.hid hK'
  have hF : Only [] w w2 := hoC.trans hG.only (fun q hq => .inr (HKge.out q hq))
  have hB : ∀ q, q ∈ K' → w.heap.size ≤ q := fun q hq => (hG.blocks q hq).elim (HKge.out q) fun h => Nat.le_trans hoC.size h
  have HB := Lib.hid hB
  clear hK' hG hB
  go_wp2_with fail
  go_ret
  exact ⟨_, K', rfl, HK'.out, hF, HB.out⟩
end Go.Proofs.Ytagklgodcbmcaaa
