/-
  The walks over session's Table.
-/
import Derived.Test.YtojhbhdlbbmghaaDelS
import Derived.Test.YtojhbhdlbbmghaaStr
import Derived.Deep.RegionLaw
import Derived.Deep.RegionHeld3
namespace Go.Proofs.Ytojhbhdlbbmghaa
open Go.RowKit
theorem spare3 {W : World} {g : Nat} {T : TypeId} {cs : List Value} {cap m : Nat} {a b c : Value} (hC : Cells W g T cs) (hl : cs.length = cap * 3) (hm : m + 1 ≤ cap) :
    ∀ j, j < [a, b, c].length → (W.cell? ⟨g, 0 + m * 3 + j, none⟩).isSome = true ∧ W.frozen? ⟨g, 0 + m * 3 + j, none⟩ = false := by
  intro j hj
  have hj3 : j < 3 := hj
  exact ⟨by rw [hC.cell (List.getElem?_eq_getElem (by omega))]; rfl, hC.frozen _⟩
theorem lit3 {W : World} {b : Nat} {T : TypeId} {cs : List Value} (hC : Cells W b T cs) : ∀ j u, cs[j]? = some u → W.cell? (Addr.add ⟨b, 0, none⟩ j) = some u := by
  intro j u hu
  have := hC.cell hu
  unfold Addr.add
  by_cases h : j = 0
  · subst h; simpa using this
  · simp only [h, if_false, Nat.zero_add]; exact this
set_option maxRecDepth 100000 in
set_option maxHeartbeats 2000000 in
theorem last_ses (g cap n i : Nat) (cs : List Value) (x0 x1 : Int) (x2 : ByteArray) (w : World) (hC : Cells w g 128 cs) (hl : cs.length = cap * 3) (hn : n ≤ cap) (hcm : cap ≤ maxLen) (hi : i < n) (h1 : ∀ u ∈ cs.take (n * 3), u.oneCell' = true) :
    Calls Try.prog 87 #[.slice (some ⟨g, 0, none⟩) n cap, .int .i64 i, .agg #[.int .i64 x0, .int .i64 x1, .string x2]] w fun e w' =>
      e = .returned (.slice (some ⟨g, 0, none⟩) n cap) ∧ ∃ cs', Cells w' g 128 cs' ∧ cs'.length = cap * 3 ∧ cs'.take (n * 3) = cs.take (i * 3) ++ (cs.take (n * 3)).drop ((i + 1) * 3) ++ [.int .i64 x0, .int .i64 x1, .string x2] ∧ Only [g] w w' := by
  obtain ⟨i0, hi0, hz0, hz1, hz2⟩ := info_parts info_ses
  have hlt := hC.lt
  have HC := Lib.hid hC
  have HD := fun W hW => delete_ses g cap n i (i + 1) cs W hW hl hn hcm (by omega) hi h1
  rw [show n - (i + 1 - i) = n - 1 from by omega] at HD
  have HDD := Lib.hid HD
  have hcm2 : cap ≤ 9223372036854775807 := by unfold maxLen at hcm; omega
  have hiw : IntKind.i64.wrap ((i : Int) + 1) = (i : Int) + 1 := by rw [IntKind.wrap_i64]; omega
  clear hC HD
  go_enter Try.func87, Try.ntmps87
  go_wp2_with fail
  have r0 : (w.alloc (.cells #[.int .i64 x0, .int .i64 x1, .string x2] 128)).cell? ⟨w.heap.size, 0, none⟩ = some (.int .i64 x0) := by simp
  have r1 : (w.alloc (.cells #[.int .i64 x0, .int .i64 x1, .string x2] 128)).cell? ⟨w.heap.size, 1, none⟩ = some (.int .i64 x1) := by simp
  have r2 : (w.alloc (.cells #[.int .i64 x0, .int .i64 x1, .string x2] 128)).cell? ⟨w.heap.size, 2, none⟩ = some (.string x2) := by simp
  have HC0 := Lib.hid (HC.out.alloc (.cells #[.int .i64 x0, .int .i64 x1, .string x2] 128))
  obtain ⟨b0, hb0⟩ : ∃ b0, w.heap.size = b0 := ⟨_, rfl⟩
  have ho0 : Only [g] w (w.alloc (.cells #[.int .i64 x0, .int .i64 x1, .string x2] 128)) := (Only.refl _ _).alloc _
  have hb1 : b0 < (w.alloc (.cells #[.int .i64 x0, .int .i64 x1, .string x2] 128)).heap.size := by simp; omega
  rw [hb0] at r0 r1 r2 hlt ⊢
  obtain ⟨W0, hW0⟩ : ∃ W0, w.alloc (.cells #[.int .i64 x0, .int .i64 x1, .string x2] 128) = W0 := ⟨_, rfl⟩
  rw [hW0] at r0 r1 r2 HC0 ho0 hb1 ⊢
  clear hW0 hb0 HC
  have hne : b0 ≠ g := by omega
  go_region_held3 (fun w' => w'.cell? ⟨b0, 0, none⟩ = some (.int .i64 x0) ∧ w'.cell? ⟨b0, 1, none⟩ = some (.int .i64 x1) ∧ w'.cell? ⟨b0, 2, none⟩ = some (.string x2))
    (first
      | (go_split_ands
         refine ⟨?_, ?_, ?_⟩ <;> (rw [hod.cell (by first | exact hb1 | (simp; omega)) (by simp; omega)]; assumption))
      | (refine ⟨(World.cell?_setCells_out g _ _ _ _ (fun h => absurd h hne)).trans ?_, (World.cell?_setCells_out g _ _ _ _ (fun h => absurd h hne)).trans ?_, (World.cell?_setCells_out g _ _ _ _ (fun h => absurd h hne)).trans ?_⟩
         · first | exact Lib.cell?_alloc_some _ ((hod.cell (p := ⟨b0, 0, none⟩) hb1 (by simp; omega)).trans r0) | exact (hod.cell (p := ⟨b0, 0, none⟩) (by simp; omega) (by simp; omega)).trans (Lib.cell?_alloc_some _ r0)
         · first | exact Lib.cell?_alloc_some _ ((hod.cell (p := ⟨b0, 1, none⟩) hb1 (by simp; omega)).trans r1) | exact (hod.cell (p := ⟨b0, 1, none⟩) (by simp; omega) (by simp; omega)).trans (Lib.cell?_alloc_some _ r1)
         · first | exact Lib.cell?_alloc_some _ ((hod.cell (p := ⟨b0, 2, none⟩) hb1 (by simp; omega)).trans r2) | exact (hod.cell (p := ⟨b0, 2, none⟩) (by simp; omega) (by simp; omega)).trans (Lib.cell?_alloc_some _ r2))
      | go_keep)
    (first
      | (go_at_call 109; refine (HDD.out _ (by first | exact HC0.out | exact HC0.out.drew | exact HC0.out.alloc _ | exact (HC0.out.alloc _).drew)).mono ?_; rintro e w1 ⟨rfl, cs', hC', hl', ht', hod⟩)
      | (refine step_append_room (by rfl) _ _ 123 (by rfl) 128 i0 3 Try.underlying123 hi0 hz1 g 0 (n - 1) cap (by rfl) _ 1 1 [.int .i64 x0, .int .i64 x1, .string x2] (by rfl) (by rfl) (by first | exact lit3 (Cells.new _ _ _) | exact lit3 (Cells.only (S := [g]) (Cells.new W0 128 [.int .i64 x0, .int .i64 x1, .string x2]).drew hod (by simp; omega))) (by simp [Value.oneCell']) (by omega) (by first | exact spare3 hC' hl' (by omega) | exact spare3 (hC'.alloc _) hl' (by omega) | exact spare3 (hC'.drew.alloc _) hl' (by omega)) ?_))
  all_goals
    have hn1 : n - 1 + 1 = n := by omega
    rw [hn1]
    have hfin : ∀ W, Cells W g 128 cs' → Only [g] w W → ∃ cs'', Cells (W.setCells g (0 + (n - 1) * 3) [.int .i64 x0, .int .i64 x1, .string x2]) g 128 cs'' ∧ cs''.length = cap * 3 ∧ cs''.take (n * 3) = cs.take (i * 3) ++ (cs.take (n * 3)).drop ((i + 1) * 3) ++ [.int .i64 x0, .int .i64 x1, .string x2] ∧ Only [g] w (W.setCells g (0 + (n - 1) * 3) [.int .i64 x0, .int .i64 x1, .string x2]) := by
      intro W hW hoW
      have hp := putL_eq [.int .i64 x0, .int .i64 x1, .string x2] (0 + (n - 1) * 3) cs' (by simp only [List.length_cons, List.length_nil]; omega)
      refine ⟨_, hW.setMany _ _, by rw [putL_length]; exact hl', ?_, hoW.setCells (.inl (by simp)) _ _⟩
      · rw [hp, Nat.zero_add, ht', List.take_append_of_le_length (by simp; omega), List.take_of_length_le (by simp; omega)]
    go_wp2
    go_ret
    exact ⟨rfl, hfin _ (by first | exact hC'.alloc _ | exact hC') (by first | exact (ho0.drew.tr hod).alloc _ | exact ((ho0.alloc _).drew).tr hod)⟩
end Go.Proofs.Ytojhbhdlbbmghaa
