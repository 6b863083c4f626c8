/-
  Chapter 6: the document's net: Send, Lose, Twice, Late, Take. (Printed by gen_rn6b.py.)
-/
import Derived.Test.YtllapfpakoobcaaRn6a
namespace Go.Proofs.Ytllapfpakoobcaa
open Go.RowKit
theorem RnV.push {w w5 : World} {G B b n c5 : Nat} {v gv : Value} {s : NS} {A5 : Option Addr} (h : RnV w G B b v gv s) (x : Lt) (ho : Only [] w w5) (hown : w5.ownsRow w.heap.size 36 3 (.slice A5 n c5) n (ltL s.l ++ x.cells)) (hl : s.l.length + 1 ≤ 300) (hn : n = s.l.length + 1 := by rfl) :
    RnV (w5.setCell ⟨b, 0, none⟩ (.slice A5 n c5)) G B b (.slice A5 n c5) gv ⟨s.l ++ [x], s.grp, s.lost⟩ := by
  have h5 := h.only ho
  have hoB : Only [b] w5 (w5.setCell ⟨b, 0, none⟩ (.slice A5 n c5)) := (Only.refl _ _).setCell (.inl (by simp)) _
  refine ⟨h.ge, h.gle, h5.cells.set 0 _, ?_, h5.grp.only hoB (Nat.le_trans h.gle h5.lt) (fun y hy => by simp at hy; subst hy; exact Nat.le_trans h.gle h.ge), by show (s.l ++ [x]).length ≤ 300; rw [List.length_append]; simp; omega, h.glen⟩
  show World.ownsRow _ _ _ _ _ (s.l ++ [x]).length (ltL (s.l ++ [x]))
  rw [List.length_append, ltL_append, show [x].length = 1 from rfl, ← hn, show ltL [x] = x.cells from by simp [ltL]]
  exact own_low (own_keep hown hoB (fun y hy => by simp at hy; subst hy; exact own_ne_block hown h5.cells (by decide))) h.lt
theorem RnV.off {w w' : World} {G B b z : Nat} {v gv : Value} {s : NS} {cs : List Value} (h : RnV w G B b v gv s) (hz : Cells w z 36 cs) (hv : v.ownBlock ≠ some z) (hG : G ≤ z) (ho : Only [z] w w') : RnV w' G B b v gv s :=
  ⟨h.ge, h.gle, h.cells.only ho (by simpa using h.cells.ne hz (by decide)), own_keep h.own ho (fun x hx => by simp at hx; subst hx; exact hv), h.grp.only ho (Nat.le_trans h.gle h.lt) (fun y hy => by simp at hy; subst hy; exact hG), h.len, h.glen⟩
theorem RnV.lose {w : World} {G B b : Nat} {v gv : Value} {s : NS} (h : RnV w G B b v gv s) (m : Int) : RnV (w.setCell ⟨b, 2, none⟩ (.int .i64 m)) G B b v gv ⟨s.l, s.grp, m⟩ := by
  have hoB : Only [b] w (w.setCell ⟨b, 2, none⟩ (.int .i64 m)) := (Only.refl _ _).setCell (.inl (by simp)) _
  exact ⟨h.ge, h.gle, h.cells.set 2 _, own_keep h.own hoB (fun y hy => by simp at hy; subst hy; exact own_ne_block h.own h.cells (by decide)), h.grp.only hoB (Nat.le_trans h.gle h.lt) (fun y hy => by simp at hy; subst hy; exact Nat.le_trans h.gle h.ge), h.len, h.glen⟩
theorem rn_let {w : World} {G B b k : Nat} {v gv : Value} {s : NS} {x : Lt} (h : RnV w G B b v gv s) (hx : s.l[k]? = some x) : ∃ g cap, v = .slice (some ⟨g, 0, none⟩) s.l.length cap ∧ w.cell? ⟨b, 0, none⟩ = some (.slice (some ⟨g, 0, none⟩) s.l.length cap) ∧ w.cell? ⟨g, k * 3, none⟩ = some (.int .i64 x.fr) ∧ w.cell? ⟨g, k * 3 + 1, none⟩ = some (.int .i64 x.to) ∧ w.cell? ⟨g, k * 3 + 2, none⟩ = some (.string x.d) ∧ g < w.heap.size := by
  have hk : k < s.l.length := (List.getElem?_eq_some_iff.1 hx).1
  obtain ⟨g, cap, cs, rfl, hg, hC, hn, hcm, hcl, htk⟩ := own_block h.own (by omega)
  have hxc : ∀ j u, j < 3 → x.cells[j]? = some u → w.cell? ⟨g, k * 3 + j, none⟩ = some u := fun j u hj hu => hC.cell (by
    have := ltL_get s.l k j x hx hj
    rw [← htk, List.getElem?_take_of_lt (by omega)] at this
    rw [this]; exact hu)
  exact ⟨g, cap, rfl, h.cells.cell (k := 0) rfl, hxc 0 _ (by omega) rfl, hxc 1 _ (by omega) rfl, hxc 2 _ (by omega) rfl, hC.lt⟩
set_option maxRecDepth 100000 in
set_option maxHeartbeats 2000000 in
theorem rn_send (G B b : Nat) (v gv : Value) (s : NS) (x : Lt) (w : World) (h : RnV w G B b v gv s) (hlo : s.lo) :
    Calls Try.prog 13 #[.pointer (some ⟨b, 0, none⟩), .agg #[.int .i64 x.fr, .int .i64 x.to, .string x.d]] w fun e w' => e = .returned (.tuple #[]) ∧ ∃ v', RnV w' G B b v' gv (s.send x) ∧ Only [b] w w' ∧ NewOf w v v' := by
  obtain ⟨i0, hi0, hz0, hz1, hz2⟩ := info_parts info_rlt
  have hlo0 := hlo.1
  have hlo1 := hlo.2
  have hoA : Only [] w (w.alloc (.cells #[.int .i64 x.fr, .int .i64 x.to, .string x.d] 36)) := (Only.refl _ _).alloc _
  have hXA := Cells.new w 36 [.int .i64 x.fr, .int .i64 x.to, .string x.d]
  have hRA := h.only hoA
  have hbz : b ≠ w.heap.size := Nat.ne_of_lt h.cells.lt
  have hl300 := h.len
  obtain ⟨A, c, hv⟩ := h.shape
  subst hv
  have c0 := hRA.cells.cell (k := 0) rfl
  clear h
  by_cases h3 : s.l.length = 300
  · have hd : decide ((300 : Int) ≤ (s.l.length : Int)) = true := by simp; omega
    have HS : Hid (s.send x = ⟨s.l.eraseIdx 0 ++ [x], s.grp, s.lost + 1⟩) := by show _ = _; unfold NS.send; rw [if_pos h3]
    have hlenE : (s.l.eraseIdx 0).length = 299 := by rw [List.length_eraseIdx, if_pos (by omega), h3]
    have HL := Lib.hid hlenE
    have CO := Lib.hid (rn_out G B b 0 _ gv s _ hRA (by omega))
    clear hlenE
    go_enter Try.func13, Try.ntmps13
    go_wp2_with fail
    refine CO.out.mono ?_
    rintro e w2 ⟨rfl, v2, h2, ho2, hn2⟩
    have c2 : w2.cell? ⟨b, 2, none⟩ = some (.int .i64 s.lost) := h2.cells.cell (k := 2) rfl
    have f2 := h2.cells.frozen 2
    have HR2 := Lib.hid (h2.lose (s.lost + 1))
    have HX2 := Lib.hid ((hXA.only ho2 (by simpa using Ne.symm hbz)).far (p := ⟨b, 2, none⟩) (Ne.symm hbz) (.int .i64 (s.lost + 1)))
    have hoB : Only [b] w (w2.setCell ⟨b, 2, none⟩ (.int .i64 (s.lost + 1))) := (hoA.of0.tr ho2).setCell (.inl (by simp)) _
    clear h2 hXA hRA c0 CO
    go_wp2_with fail
    obtain ⟨w3, hw3⟩ : ∃ w3, w2.setCell ⟨b, 2, none⟩ (.int .i64 (s.lost + 1)) = w3 := ⟨_, rfl⟩
    rw [hw3] at HR2 HX2 hoB ⊢
    clear hw3 c2 f2
    have HX := HX2
    obtain ⟨A3, c3, hv3⟩ := HR2.out.shape
    rw [show (NS.mk (s.out 0).l (s.out 0).grp (s.lost + 1)).l.length = 299 from HL.out] at hv3
    subst hv3
    have HR : Hid (RnV w3 G B b (.slice A3 299 c3) gv ⟨s.l.eraseIdx 0, s.grp, s.lost + 1⟩) := HR2
    have hl299 : (NS.mk (s.l.eraseIdx 0) s.grp (s.lost + 1)).l.length = 299 := HL.out
    have hown299 : w3.ownsRow B 36 3 (.slice A3 299 c3) 299 (ltL (s.l.eraseIdx 0)) := by have := HR.out.own; rw [hl299] at this; exact this
    have hsrc : SrcA w3 _ 3 299 (ltL (s.l.eraseIdx 0)) := SrcA.own hown299 (ltL_one _)
    have HSrc := Lib.hid hsrc
    have t0 := fun u : Since w3 => u.cell (HR.out.cells.cell (k := 0) rfl)
    have x0 := fun u : Since w3 => u.cell (HX.out.cell (k := 0) rfl)
    have x1 := fun u : Since w3 => u.cell (HX.out.cell (k := 1) rfl)
    have x2 := fun u : Since w3 => u.cell (HX.out.cell (k := 2) rfl)
    clear hsrc
    refine wp_region_pendN w3 (Only.refl _ _) [(20, OwW w3.heap.size 36 3 0 []), (25, OwW w3.heap.size 36 3 299 (ltL (s.l.eraseIdx 0))), (27, OwW w3.heap.size 36 3 1 x.cells), (28, OwW w3.heap.size 36 3 (299 + 1) (ltL (s.l.eraseIdx 0) ++ x.cells))] [(25, 20), (28, 25)] 12 (by intro p hp; simp at hp; rcases hp with rfl | rfl | rfl | rfl <;> exact OwW.lasts _ _ _ _ _) (by kernel_rfl) (by kernel_rfl) (by decide) (fun val => ?_)
    simp only [List.take_succ_cons, List.take_zero, List.drop_succ_cons, List.drop_zero]
    refine fit_segN 1 (by kernel_rfl) ?_
    simp only [List.take_succ_cons, List.take_zero, List.drop_succ_cons, List.drop_zero]
    repeat (go_big_quiet_step (fail))
    refine wpQuiet_nil ?_
    refine fit_litO 20 36 3 [] 0 rfl rfl (by simp) (by simp) rfl (by decide) (fun w5 => by go_simp) rfl ?_
    simp only [Act.put, List.setIfInBounds_toArray, List.set_cons_zero, List.set_cons_succ]
    refine fit_segN 4 (by kernel_rfl) ?_
    simp only [List.take_succ_cons, List.take_zero, List.drop_succ_cons, List.drop_zero]
    repeat (go_big_quiet_step (fail))
    refine wpQuiet_nil ?_
    refine fit_append 25 20 (.tmp 24) 28 36 i0 (.agg #[.int .i64 0, .int .i64 0, .string .empty]) 3 32 Try.underlying28 hi0 hz0 hz1 hz2 rfl (by decide) 0 299 299 [] (ltL (s.l.eraseIdx 0)) (ltL (s.l.eraseIdx 0)) (by omega) rfl rfl rfl rfl (by simp) (by simp) (by simp) (by decide) rfl rfl (fun w5 hw5 => HSrc.out.only hw5.1) (by unfold maxLen; omega) (by omega) rfl ?_
    simp only [Act.put, List.setIfInBounds_toArray, List.set_cons_zero, List.set_cons_succ]
    refine fit_segN 1 (by kernel_rfl) ?_
    simp only [List.take_succ_cons, List.take_zero, List.drop_succ_cons, List.drop_zero]
    repeat (go_big_quiet_step (fail))
    refine wpQuiet_nil ?_
    refine fit_litO 27 36 3 x.cells 1 rfl rfl (by simp) (by simp) rfl (by decide) (fun w5 => by unfold Lt.cells; go_simp) rfl ?_
    simp only [Act.put, List.setIfInBounds_toArray, List.set_cons_zero, List.set_cons_succ]
    refine fit_append 28 25 (.tmp 27) 28 36 i0 (.agg #[.int .i64 0, .int .i64 0, .string .empty]) 3 32 Try.underlying28 hi0 hz0 hz1 hz2 rfl (by decide) 299 1 (299 + 1) (ltL (s.l.eraseIdx 0)) x.cells (ltL (s.l.eraseIdx 0) ++ x.cells) (by omega) rfl rfl rfl rfl (by simp) (by simp) (by simp) (by decide) rfl rfl (fun w5 hw5 => SrcA.own (hw5.2 (27, OwW w3.heap.size 36 3 1 x.cells) (by simp) (by show 27 ∈ Oper.looksAt _ _; decide)) (by simp [Lt.cells, Value.oneCell'])) (by unfold maxLen; omega) (by omega) rfl ?_
    simp only [Act.put, List.setIfInBounds_toArray, List.set_cons_zero, List.set_cons_succ]
    refine fit_segN 2 (by kernel_rfl) ?_
    simp only [List.take_succ_cons, List.take_zero, List.drop_succ_cons, List.drop_zero]
    repeat (go_big_quiet_step (fail))
    refine wpQuiet_nil ?_
    intro w5 ho5 hV5
    have hown5 : w5.ownsRow w3.heap.size 36 3 (val 28) (299 + 1) (ltL (s.l.eraseIdx 0) ++ x.cells) := hV5 (by decide) (28, OwW w3.heap.size 36 3 (299 + 1) (ltL (s.l.eraseIdx 0) ++ x.cells)) (by simp) (by simp)
    obtain ⟨u, hu⟩ : ∃ u, val 28 = u := ⟨_, rfl⟩
    rw [hu] at hown5 ⊢
    obtain ⟨A5, c5, rfl⟩ := (SlAt.of_own hown5).shape
    have hR5 := HR.out.only ho5
    have d0 := hR5.cells.cell (k := 0) rfl
    have f0 := hR5.cells.frozen 0
    have hb5 := hR5.cells.lt
    have HPush := Lib.hid (HR.out.push x ho5 hown5 (by rw [hl299]; omega) (by rw [hl299]))
    have HO5 := Lib.hid ho5
    have HNew5 := Lib.hid (fun g hg => (hown5.lt g hg).1)
    clear hR5 hown5 hV5 t0 x0 x1 x2 hu
    go_wp2_with fail
    go_end0
    have hNw : ∀ v0, NewOf w v0 (.slice A5 (299 + 1) c5) := fun v0 => fun g hg => .inr (Nat.le_trans hoB.size (HNew5.out g hg))
    have hFin := (hoB.tr0 HO5.out).setCell (p := ⟨b, 0, none⟩) (.inl (by simp)) (.slice A5 (299 + 1) c5)
    first
      | exact ⟨rfl, _, by rw [HS.out]; exact HPush.out, hFin, by first | exact hNw | exact hNw _⟩
  · have hd : decide ((300 : Int) ≤ (s.l.length : Int)) = false := by simp; omega
    have HS : Hid (s.send x = ⟨s.l ++ [x], s.grp, s.lost⟩) := by show _ = _; unfold NS.send; rw [if_neg h3]
    have HX := Lib.hid hXA
    have HR := Lib.hid hRA
    have HoA := Lib.hid hoA
    clear hXA hRA
    go_enter Try.func13, Try.ntmps13
    go_wp2_with fail
    obtain ⟨w3, hw3⟩ : ∃ w3, w.alloc (.cells #[.int .i64 x.fr, .int .i64 x.to, .string x.d] 36) = w3 := ⟨_, rfl⟩
    rw [hw3] at HR HX HoA c0 ⊢
    clear hw3 c0 hoA
    have hsrc : SrcA w3 _ 3 s.l.length (ltL s.l) := SrcA.own HR.out.own (ltL_one _)
    have HSrc := Lib.hid hsrc
    have t0 := fun u : Since w3 => u.cell (HR.out.cells.cell (k := 0) rfl)
    have x0 := fun u : Since w3 => u.cell (HX.out.cell (k := 0) rfl)
    have x1 := fun u : Since w3 => u.cell (HX.out.cell (k := 1) rfl)
    have x2 := fun u : Since w3 => u.cell (HX.out.cell (k := 2) rfl)
    clear hsrc
    refine wp_region_pendN w3 (Only.refl _ _) [(20, OwW w3.heap.size 36 3 0 []), (25, OwW w3.heap.size 36 3 s.l.length (ltL s.l)), (27, OwW w3.heap.size 36 3 1 x.cells), (28, OwW w3.heap.size 36 3 (s.l.length + 1) (ltL s.l ++ x.cells))] [(25, 20), (28, 25)] 12 (by intro p hp; simp at hp; rcases hp with rfl | rfl | rfl | rfl <;> exact OwW.lasts _ _ _ _ _) (by kernel_rfl) (by kernel_rfl) (by decide) (fun val => ?_)
    simp only [List.take_succ_cons, List.take_zero, List.drop_succ_cons, List.drop_zero]
    refine fit_segN 1 (by kernel_rfl) ?_
    simp only [List.take_succ_cons, List.take_zero, List.drop_succ_cons, List.drop_zero]
    repeat (go_big_quiet_step (fail))
    refine wpQuiet_nil ?_
    refine fit_litO 20 36 3 [] 0 rfl rfl (by simp) (by simp) rfl (by decide) (fun w5 => by go_simp) rfl ?_
    simp only [Act.put, List.setIfInBounds_toArray, List.set_cons_zero, List.set_cons_succ]
    refine fit_segN 4 (by kernel_rfl) ?_
    simp only [List.take_succ_cons, List.take_zero, List.drop_succ_cons, List.drop_zero]
    repeat (go_big_quiet_step (fail))
    refine wpQuiet_nil ?_
    refine fit_append 25 20 (.tmp 24) 28 36 i0 (.agg #[.int .i64 0, .int .i64 0, .string .empty]) 3 32 Try.underlying28 hi0 hz0 hz1 hz2 rfl (by decide) 0 s.l.length s.l.length [] (ltL s.l) (ltL s.l) (by omega) rfl rfl rfl rfl (by simp) (by simp) (by simp) (by decide) rfl rfl (fun w5 hw5 => HSrc.out.only hw5.1) (by unfold maxLen; omega) (by omega) rfl ?_
    simp only [Act.put, List.setIfInBounds_toArray, List.set_cons_zero, List.set_cons_succ]
    refine fit_segN 1 (by kernel_rfl) ?_
    simp only [List.take_succ_cons, List.take_zero, List.drop_succ_cons, List.drop_zero]
    repeat (go_big_quiet_step (fail))
    refine wpQuiet_nil ?_
    refine fit_litO 27 36 3 x.cells 1 rfl rfl (by simp) (by simp) rfl (by decide) (fun w5 => by unfold Lt.cells; go_simp) rfl ?_
    simp only [Act.put, List.setIfInBounds_toArray, List.set_cons_zero, List.set_cons_succ]
    refine fit_append 28 25 (.tmp 27) 28 36 i0 (.agg #[.int .i64 0, .int .i64 0, .string .empty]) 3 32 Try.underlying28 hi0 hz0 hz1 hz2 rfl (by decide) s.l.length 1 (s.l.length + 1) (ltL s.l) x.cells (ltL s.l ++ x.cells) (by omega) rfl rfl rfl rfl (by simp) (by simp) (by simp) (by decide) rfl rfl (fun w5 hw5 => SrcA.own (hw5.2 (27, OwW w3.heap.size 36 3 1 x.cells) (by simp) (by show 27 ∈ Oper.looksAt _ _; decide)) (by simp [Lt.cells, Value.oneCell'])) (by unfold maxLen; omega) (by omega) rfl ?_
    simp only [Act.put, List.setIfInBounds_toArray, List.set_cons_zero, List.set_cons_succ]
    refine fit_segN 2 (by kernel_rfl) ?_
    simp only [List.take_succ_cons, List.take_zero, List.drop_succ_cons, List.drop_zero]
    repeat (go_big_quiet_step (fail))
    refine wpQuiet_nil ?_
    intro w5 ho5 hV5
    have hown5 : w5.ownsRow w3.heap.size 36 3 (val 28) (s.l.length + 1) (ltL s.l ++ x.cells) := hV5 (by decide) (28, OwW w3.heap.size 36 3 (s.l.length + 1) (ltL s.l ++ x.cells)) (by simp) (by simp)
    obtain ⟨u, hu⟩ : ∃ u, val 28 = u := ⟨_, rfl⟩
    rw [hu] at hown5 ⊢
    obtain ⟨A5, c5, rfl⟩ := (SlAt.of_own hown5).shape
    have hR5 := HR.out.only ho5
    have d0 := hR5.cells.cell (k := 0) rfl
    have f0 := hR5.cells.frozen 0
    have hb5 := hR5.cells.lt
    have HPush := Lib.hid (HR.out.push x ho5 hown5 (by omega))
    have HO5 := Lib.hid ho5
    have HNew5 := Lib.hid (fun g hg => (hown5.lt g hg).1)
    clear hR5 hown5 hV5 t0 x0 x1 x2 hu
    go_wp2_with fail
    go_end0
    have hNw : NewOf w (.slice A s.l.length c) (.slice A5 (s.l.length + 1) c5) := fun g hg => .inr (Nat.le_trans HoA.out.size (HNew5.out g hg))
    have hFin := ((HoA.out.of0 (S := [b])).tr0 HO5.out).setCell (p := ⟨b, 0, none⟩) (.inl (by simp)) (.slice A5 (s.l.length + 1) c5)
    first
      | exact ⟨rfl, _, by rw [HS.out]; exact HPush.out, hFin, by first | exact hNw | exact hNw _⟩
set_option maxRecDepth 100000 in
set_option maxHeartbeats 2000000 in
theorem rn_late_in (G B b k : Nat) (v gv : Value) (s : NS) (x : Lt) (w : World) (h : RnV w G B b v gv s) (hk : k < s.l.length) (hx : s.l[k]? = some x) :
    Calls Try.prog 31 #[.pointer (some ⟨b, 0, none⟩), .int .i64 k] w fun e w' => e = .returned (.bool true) ∧ ∃ v', RnV w' G B b v' gv ⟨s.l.eraseIdx k ++ [x], s.grp, s.lost⟩ ∧ Only [b] w w' ∧ NewOf w v v' := by
  obtain ⟨i0, hi0, hz0, hz1, hz2⟩ := info_parts info_rlt
  have CI := Lib.hid (rn_is_in G B b k v gv s w h hk)
  have hl300 := h.len
  have hk' : (k : Int) < s.l.length := by omega
  obtain ⟨g, cap, hv, c0, q0, q1, q2, hgl⟩ := rn_let h hx
  have hoA : Only [] w (w.alloc (.cells #[.int .i64 x.fr, .int .i64 x.to, .string x.d] 36)) := (Only.refl _ _).alloc _
  have hXA := Cells.new w 36 [.int .i64 x.fr, .int .i64 x.to, .string x.d]
  have hRA := h.only hoA
  have hbz : b ≠ w.heap.size := Nat.ne_of_lt h.cells.lt
  have CO := Lib.hid (rn_out G B b k _ gv s _ hRA hk)
  have hlenE : (s.l.eraseIdx k).length = s.l.length - 1 := by rw [List.length_eraseIdx, if_pos hk]
  have HL := Lib.hid hlenE
  clear h hRA hlenE
  go_enter Try.func31, Try.ntmps31
  go_wp2_with fail
  refine CI.out.mono ?_
  rintro e w1 ⟨rfl, rfl⟩
  go_wp2_with fail
  refine CO.out.mono ?_
  rintro e w3 ⟨rfl, v2, h2, ho2, -⟩
  have HX : Hid (Cells w3 w.heap.size 36 [.int .i64 x.fr, .int .i64 x.to, .string x.d]) := hXA.only ho2 (by simpa using Ne.symm hbz)
  have hoB : Only [b] w w3 := hoA.of0.tr ho2
  obtain ⟨A3, c3, hv3⟩ := h2.shape
  rw [show (s.out k).l.length = s.l.length - 1 from HL.out] at hv3
  subst hv3
  have HR := Lib.hid h2
  have hl299 : (s.out k).l.length = s.l.length - 1 := HL.out
  have hown299 : w3.ownsRow B 36 3 (.slice A3 (s.l.length - 1) c3) (s.l.length - 1) (ltL (s.l.eraseIdx k)) := by have := HR.out.own; rw [hl299] at this; exact this
  clear h2 c0 q0 q1 q2 CO hXA
  go_wp2_with fail
  have hsrc : SrcA w3 _ 3 (s.l.length - 1) (ltL (s.l.eraseIdx k)) := SrcA.own hown299 (ltL_one _)
  have HSrc := Lib.hid hsrc
  have t0 := fun u : Since w3 => u.cell (HR.out.cells.cell (k := 0) rfl)
  have x0 := fun u : Since w3 => u.cell (HX.out.cell (k := 0) rfl)
  have x1 := fun u : Since w3 => u.cell (HX.out.cell (k := 1) rfl)
  have x2 := fun u : Since w3 => u.cell (HX.out.cell (k := 2) rfl)
  clear hsrc
  refine wp_region_pendN w3 (Only.refl _ _) [(22, OwW w3.heap.size 36 3 0 []), (27, OwW w3.heap.size 36 3 (s.l.length - 1) (ltL (s.l.eraseIdx k))), (29, OwW w3.heap.size 36 3 1 x.cells), (30, OwW w3.heap.size 36 3 ((s.l.length - 1) + 1) (ltL (s.l.eraseIdx k) ++ x.cells))] [(27, 22), (30, 27)] 12 (by intro p hp; simp at hp; rcases hp with rfl | rfl | rfl | rfl <;> exact OwW.lasts _ _ _ _ _) (by kernel_rfl) (by kernel_rfl) (by decide) (fun val => ?_)
  simp only [List.take_succ_cons, List.take_zero, List.drop_succ_cons, List.drop_zero]
  refine fit_segN 1 (by kernel_rfl) ?_
  simp only [List.take_succ_cons, List.take_zero, List.drop_succ_cons, List.drop_zero]
  repeat (go_big_quiet_step (fail))
  refine wpQuiet_nil ?_
  refine fit_litO 22 36 3 [] 0 rfl rfl (by simp) (by simp) rfl (by decide) (fun w5 => by go_simp) rfl ?_
  simp only [Act.put, List.setIfInBounds_toArray, List.set_cons_zero, List.set_cons_succ]
  refine fit_segN 4 (by kernel_rfl) ?_
  simp only [List.take_succ_cons, List.take_zero, List.drop_succ_cons, List.drop_zero]
  repeat (go_big_quiet_step (fail))
  refine wpQuiet_nil ?_
  refine fit_append 27 22 (.tmp 26) 28 36 i0 (.agg #[.int .i64 0, .int .i64 0, .string .empty]) 3 32 Try.underlying28 hi0 hz0 hz1 hz2 rfl (by decide) 0 (s.l.length - 1) (s.l.length - 1) [] (ltL (s.l.eraseIdx k)) (ltL (s.l.eraseIdx k)) (by omega) rfl rfl rfl rfl (by simp) (by simp) (by simp) (by decide) rfl rfl (fun w5 hw5 => HSrc.out.only hw5.1) (by unfold maxLen; omega) (by omega) rfl ?_
  simp only [Act.put, List.setIfInBounds_toArray, List.set_cons_zero, List.set_cons_succ]
  refine fit_segN 1 (by kernel_rfl) ?_
  simp only [List.take_succ_cons, List.take_zero, List.drop_succ_cons, List.drop_zero]
  repeat (go_big_quiet_step (fail))
  refine wpQuiet_nil ?_
  refine fit_litO 29 36 3 x.cells 1 rfl rfl (by simp) (by simp) rfl (by decide) (fun w5 => by unfold Lt.cells; go_simp) rfl ?_
  simp only [Act.put, List.setIfInBounds_toArray, List.set_cons_zero, List.set_cons_succ]
  refine fit_append 30 27 (.tmp 29) 28 36 i0 (.agg #[.int .i64 0, .int .i64 0, .string .empty]) 3 32 Try.underlying28 hi0 hz0 hz1 hz2 rfl (by decide) (s.l.length - 1) 1 ((s.l.length - 1) + 1) (ltL (s.l.eraseIdx k)) x.cells (ltL (s.l.eraseIdx k) ++ x.cells) (by omega) rfl rfl rfl rfl (by simp) (by simp) (by simp) (by decide) rfl rfl (fun w5 hw5 => SrcA.own (hw5.2 (29, OwW w3.heap.size 36 3 1 x.cells) (by simp) (by show 29 ∈ Oper.looksAt _ _; decide)) (by simp [Lt.cells, Value.oneCell'])) (by unfold maxLen; omega) (by omega) rfl ?_
  simp only [Act.put, List.setIfInBounds_toArray, List.set_cons_zero, List.set_cons_succ]
  refine fit_segN 2 (by kernel_rfl) ?_
  simp only [List.take_succ_cons, List.take_zero, List.drop_succ_cons, List.drop_zero]
  repeat (go_big_quiet_step (fail))
  refine wpQuiet_nil ?_
  intro w5 ho5 hV5
  have hown5 : w5.ownsRow w3.heap.size 36 3 (val 30) ((s.l.length - 1) + 1) (ltL (s.l.eraseIdx k) ++ x.cells) := hV5 (by decide) (30, OwW w3.heap.size 36 3 ((s.l.length - 1) + 1) (ltL (s.l.eraseIdx k) ++ x.cells)) (by simp) (by simp)
  obtain ⟨u, hu⟩ : ∃ u, val 30 = u := ⟨_, rfl⟩
  rw [hu] at hown5 ⊢
  obtain ⟨A5, c5, rfl⟩ := (SlAt.of_own hown5).shape
  have hR5 := HR.out.only ho5
  have d0 := hR5.cells.cell (k := 0) rfl
  have f0 := hR5.cells.frozen 0
  have hb5 := hR5.cells.lt
  have HPush := Lib.hid (HR.out.push x ho5 hown5 (by rw [hl299]; omega) (by rw [hl299]))
  have HO5 := Lib.hid ho5
  have HNew5 := Lib.hid (fun g hg => (hown5.lt g hg).1)
  clear hR5 hown5 hV5 t0 x0 x1 x2 hu
  go_wp2_with fail
  go_ret
  exact ⟨rfl, _, HPush.out, (hoB.tr0 HO5.out).setCell (.inl (by simp)) _, fun g hg => .inr (Nat.le_trans hoB.size (HNew5.out g hg))⟩
set_option maxRecDepth 100000 in
theorem rn_late_out (G B b : Nat) (k : Int) (v gv : Value) (s : NS) (w : World) (h : RnV w G B b v gv s) (hk : k < 0 ∨ (s.l.length : Int) ≤ k) :
    Calls Try.prog 31 #[.pointer (some ⟨b, 0, none⟩), .int .i64 k] w fun e w' => e = .returned (.bool false) ∧ w = w' := by
  have CI := Lib.hid (rn_is_out G B b k v gv s w h hk)
  clear h hk
  go_enter Try.func31, Try.ntmps31
  go_wp2_with fail
  refine CI.out.mono ?_
  rintro e w1 ⟨rfl, rfl⟩
  go_wp2_with fail
  go_ret
  exact ⟨rfl, rfl⟩
theorem rn_late (G B b : Nat) (k : Int) (v gv : Value) (s : NS) (w : World) (h : RnV w G B b v gv s) :
    Calls Try.prog 31 #[.pointer (some ⟨b, 0, none⟩), .int .i64 k] w fun e w' => e = .returned (.bool (s.late k).2) ∧ ∃ v', RnV w' G B b v' gv (s.late k).1 ∧ Only [b] w w' ∧ NewOf w v v' := by
  cases hx : s.at k with
  | none =>
    rw [show s.late k = (s, false) from by unfold NS.late; rw [hx]]
    exact (rn_late_out G B b k v gv s w h (NS.at_out hx)).mono fun e w' ⟨h1, h2⟩ => by subst h2; exact ⟨h1, v, h, Only.refl _ _, NewOf.refl _ _⟩
  | some x =>
    obtain ⟨j, rfl, hj, hx'⟩ := NS.at_in hx
    rw [show s.late j = (⟨s.l.eraseIdx j ++ [x], s.grp, s.lost⟩, true) from by unfold NS.late; rw [hx]; first | done | rfl]
    exact rn_late_in G B b j v gv s x w h hj hx'
set_option maxRecDepth 100000 in
theorem rn_twice_out (G B b : Nat) (k : Int) (v gv : Value) (s : NS) (w : World) (h : RnV w G B b v gv s) (hk : k < 0 ∨ (s.l.length : Int) ≤ k) :
    Calls Try.prog 29 #[.pointer (some ⟨b, 0, none⟩), .int .i64 k] w fun e w' => e = .returned (.bool false) ∧ w = w' := by
  have CI := Lib.hid (rn_is_out G B b k v gv s w h hk)
  clear h hk
  go_enter Try.func29, Try.ntmps29
  go_wp2_with fail
  refine CI.out.mono ?_
  rintro e w1 ⟨rfl, rfl⟩
  go_wp2_with fail
  go_ret
  exact ⟨rfl, rfl⟩
set_option maxRecDepth 100000 in
theorem rn_twice_in (G B b k : Nat) (v gv : Value) (s : NS) (x : Lt) (w : World) (h : RnV w G B b v gv s) (hk : k < s.l.length) (hx : s.l[k]? = some x) (hlo : s.lo) :
    Calls Try.prog 29 #[.pointer (some ⟨b, 0, none⟩), .int .i64 k] w fun e w' => e = .returned (.bool true) ∧ ∃ v', RnV w' G B b v' gv (s.send x) ∧ Only [b] w w' ∧ NewOf w v v' := by
  have CI := Lib.hid (rn_is_in G B b k v gv s w h hk)
  have CS := Lib.hid (rn_send G B b v gv s x w h hlo)
  have hk' : (k : Int) < s.l.length := by omega
  obtain ⟨g, cap, hv, c0, q0, q1, q2, hg⟩ := rn_let h hx
  have hl300 := h.len
  clear h
  go_enter Try.func29, Try.ntmps29
  go_wp2_with fail
  refine CI.out.mono ?_
  rintro e w1 ⟨rfl, rfl⟩
  go_wp2_with fail
  refine CS.out.mono ?_
  rintro e w2 ⟨rfl, v2, h2, ho2, hn2⟩
  go_wp2_with fail
  go_ret
  exact ⟨rfl, v2, h2, ho2, hn2⟩
theorem rn_twice (G B b : Nat) (k : Int) (v gv : Value) (s : NS) (w : World) (h : RnV w G B b v gv s) (hlo : s.lo) :
    Calls Try.prog 29 #[.pointer (some ⟨b, 0, none⟩), .int .i64 k] w fun e w' => e = .returned (.bool (s.twice k).2) ∧ ∃ v', RnV w' G B b v' gv (s.twice k).1 ∧ Only [b] w w' ∧ NewOf w v v' := by
  cases hx : s.at k with
  | none =>
    rw [show s.twice k = (s, false) from by unfold NS.twice; rw [hx]]
    exact (rn_twice_out G B b k v gv s w h (NS.at_out hx)).mono fun e w' ⟨h1, h2⟩ => by subst h2; exact ⟨h1, v, h, Only.refl _ _, NewOf.refl _ _⟩
  | some x =>
    obtain ⟨j, rfl, hj, hx'⟩ := NS.at_in hx
    rw [show s.twice j = (s.send x, true) from by unfold NS.twice; rw [hx]; first | done | rfl]
    exact rn_twice_in G B b j v gv s x w h hj hx' hlo
set_option maxRecDepth 100000 in
theorem rn_lose_out (G B b : Nat) (k : Int) (v gv : Value) (s : NS) (w : World) (h : RnV w G B b v gv s) (hk : k < 0 ∨ (s.l.length : Int) ≤ k) :
    Calls Try.prog 30 #[.pointer (some ⟨b, 0, none⟩), .int .i64 k] w fun e w' => e = .returned (.bool false) ∧ w = w' := by
  have CI := Lib.hid (rn_is_out G B b k v gv s w h hk)
  clear h hk
  go_enter Try.func30, Try.ntmps30
  go_wp2_with fail
  refine CI.out.mono ?_
  rintro e w1 ⟨rfl, rfl⟩
  go_wp2_with fail
  go_ret
  exact ⟨rfl, rfl⟩
set_option maxRecDepth 100000 in
theorem rn_lose_in (G B b k : Nat) (v gv : Value) (s : NS) (x : Lt) (w : World) (h : RnV w G B b v gv s) (hk : k < s.l.length) (hx : s.l[k]? = some x) (hlo : s.lo) :
    Calls Try.prog 30 #[.pointer (some ⟨b, 0, none⟩), .int .i64 k] w fun e w' => e = .returned (.bool true) ∧ ∃ v', RnV w' G B b v' gv ⟨s.l.eraseIdx k, s.grp, s.lost + 1⟩ ∧ Only [b] w w' ∧ NewOf w v v' := by
  have CI := Lib.hid (rn_is_in G B b k v gv s w h hk)
  have CO := Lib.hid (rn_out G B b k v gv s w h hk)
  have hlo0 := hlo.1
  have hlo1 := hlo.2
  clear h
  go_enter Try.func30, Try.ntmps30
  go_wp2_with fail
  refine CI.out.mono ?_
  rintro e w1 ⟨rfl, rfl⟩
  go_wp2_with fail
  refine CO.out.mono ?_
  rintro e w2 ⟨rfl, v2, h2, ho2, hn2⟩
  have c2 : w2.cell? ⟨b, 2, none⟩ = some (.int .i64 s.lost) := h2.cells.cell (k := 2) rfl
  have f2 := h2.cells.frozen 2
  have HR2 := Lib.hid (h2.lose (s.lost + 1))
  clear h2
  go_wp2_with fail
  go_ret
  exact ⟨rfl, v2, HR2.out, ho2.setCell (.inl (by simp)) _, hn2⟩
theorem rn_lose (G B b : Nat) (k : Int) (v gv : Value) (s : NS) (w : World) (h : RnV w G B b v gv s) (hlo : s.lo) :
    Calls Try.prog 30 #[.pointer (some ⟨b, 0, none⟩), .int .i64 k] w fun e w' => e = .returned (.bool (s.lose k).2) ∧ ∃ v', RnV w' G B b v' gv (s.lose k).1 ∧ Only [b] w w' ∧ NewOf w v v' := by
  cases hx : s.at k with
  | none =>
    rw [show s.lose k = (s, false) from by unfold NS.lose; rw [hx]]
    exact (rn_lose_out G B b k v gv s w h (NS.at_out hx)).mono fun e w' ⟨h1, h2⟩ => by subst h2; exact ⟨h1, v, h, Only.refl _ _, NewOf.refl _ _⟩
  | some x =>
    obtain ⟨j, rfl, hj, hx'⟩ := NS.at_in hx
    rw [show s.lose j = (⟨s.l.eraseIdx j, s.grp, s.lost + 1⟩, true) from by unfold NS.lose; rw [hx]; first | done | rfl]
    exact rn_lose_in G B b j v gv s x w h hj hx' hlo
set_option maxRecDepth 100000 in
set_option maxHeartbeats 1000000 in
theorem rn_take_out (G B b : Nat) (k : Int) (v gv : Value) (s : NS) (w : World) (h : RnV w G B b v gv s) (hk : k < 0 ∨ (s.l.length : Int) ≤ k) :
    Calls Try.prog 28 #[.pointer (some ⟨b, 0, none⟩), .int .i64 k] w fun e w' => e = .returned (Lt.zero.res false) ∧ Only [] w w' := by
  have hoA : Only [] w (w.alloc (.cells #[.int .i64 0, .int .i64 0, .string ⟨#[]⟩] 36)) := (Only.refl _ _).alloc _
  have CI := Lib.hid (rn_is_out G B b k v gv s _ (h.only hoA) hk)
  have hX := Cells.new w 36 [.int .i64 0, .int .i64 0, .string ⟨#[]⟩]
  have x0 := hX.cell (k := 0) rfl
  clear h hk
  go_enter Try.func28, Try.ntmps28
  go_wp2_with fail
  refine CI.out.mono ?_
  rintro e w1 ⟨rfl, rfl⟩
  go_wp2_with fail
  exact bodyPost_ret (v := Lt.zero.res false) (by simp [results, Try.results28, go_sem, Lt.res, Lt.zero, *]) rfl ⟨rfl, hoA⟩
set_option maxRecDepth 100000 in
set_option maxHeartbeats 2000000 in
theorem rn_take_apart (G B b k : Nat) (v gv : Value) (s : NS) (x : Lt) (w : World) (h : RnV w G B b v gv s) (hk : k < s.l.length) (hx : s.l[k]? = some x) (ha : s.apart x.fr x.to = true) :
    Calls Try.prog 28 #[.pointer (some ⟨b, 0, none⟩), .int .i64 k] w fun e w' => e = .returned (Lt.zero.res false) ∧ Only [] w w' := by
  have hoA : Only [] w (w.alloc (.cells #[.int .i64 0, .int .i64 0, .string ⟨#[]⟩] 36)) := (Only.refl _ _).alloc _
  have hoB : Only [] w ((w.alloc (.cells #[.int .i64 0, .int .i64 0, .string ⟨#[]⟩] 36)).alloc (.cells #[.int .i64 x.fr, .int .i64 x.to, .string x.d] 36)) := hoA.alloc _
  have CI := Lib.hid (rn_is_in G B b k v gv s _ (h.only hoA) hk)
  have CA := rn_apart G B b v gv s x.fr x.to _ (h.only hoB)
  rw [ha] at CA
  have HCA := Lib.hid CA
  obtain ⟨g, cap, hv, c0, q0, q1, q2, hgl⟩ := rn_let h hx
  have hbl := h.cells.lt
  have hl300 := h.len
  have hk' : (k : Int) < s.l.length := by omega
  clear h hx ha CA
  go_enter Try.func28, Try.ntmps28
  go_wp2_with fail
  refine CI.out.mono ?_
  rintro e w1 ⟨rfl, rfl⟩
  go_wp2_with fail
  refine HCA.out.mono ?_
  rintro e w2 ⟨rfl, rfl⟩
  go_wp2_with fail
  exact bodyPost_ret (v := Lt.zero.res false) (by simp [results, Try.results28, go_sem, Lt.res, Lt.zero, *]) rfl ⟨rfl, hoB⟩
set_option maxRecDepth 100000 in
set_option maxHeartbeats 2000000 in
theorem rn_take_in (G B b k : Nat) (v gv : Value) (s : NS) (x : Lt) (w : World) (h : RnV w G B b v gv s) (hk : k < s.l.length) (hx : s.l[k]? = some x) (ha : s.apart x.fr x.to = false) :
    Calls Try.prog 28 #[.pointer (some ⟨b, 0, none⟩), .int .i64 k] w fun e w' => e = .returned (x.res true) ∧ ∃ v', RnV w' G B b v' gv (s.out k) ∧ Only [b] w w' ∧ NewOf w v v' := by
  have hoA : Only [] w (w.alloc (.cells #[.int .i64 0, .int .i64 0, .string ⟨#[]⟩] 36)) := (Only.refl _ _).alloc _
  have hoB : Only [] w ((w.alloc (.cells #[.int .i64 0, .int .i64 0, .string ⟨#[]⟩] 36)).alloc (.cells #[.int .i64 x.fr, .int .i64 x.to, .string x.d] 36)) := hoA.alloc _
  have CI := Lib.hid (rn_is_in G B b k v gv s _ (h.only hoA) hk)
  have CA := rn_apart G B b v gv s x.fr x.to _ (h.only hoB)
  rw [ha] at CA
  have HCA := Lib.hid CA
  have CO := Lib.hid (rn_out G B b k v gv s _ (h.only hoB) hk)
  obtain ⟨g, cap, hv, c0, q0, q1, q2, hgl⟩ := rn_let h hx
  have hbl := h.cells.lt
  have hvlt : ∀ y, v.ownBlock = some y → y < w.heap.size := fun y hy => (h.own.lt y hy).2
  have hBG : G ≤ w.heap.size := Nat.le_trans h.gle h.lt
  have hl300 := h.len
  have hk' : (k : Int) < s.l.length := by omega
  have hX0 : Cells ((w.alloc (.cells #[.int .i64 0, .int .i64 0, .string ⟨#[]⟩] 36)).alloc (.cells #[.int .i64 x.fr, .int .i64 x.to, .string x.d] 36)) w.heap.size 36 [.int .i64 0, .int .i64 0, .string ⟨#[]⟩] := (Cells.new _ _ _).alloc _
  have hX1 : Cells ((w.alloc (.cells #[.int .i64 0, .int .i64 0, .string ⟨#[]⟩] 36)).alloc (.cells #[.int .i64 x.fr, .int .i64 x.to, .string x.d] 36)) (w.heap.size + 1) 36 [.int .i64 x.fr, .int .i64 x.to, .string x.d] := by
    have := Cells.new (w.alloc (.cells #[.int .i64 0, .int .i64 0, .string ⟨#[]⟩] 36)) 36 [.int .i64 x.fr, .int .i64 x.to, .string x.d]
    simpa using this
  have hbz : b ≠ w.heap.size := Nat.ne_of_lt hbl
  have hbz1 : b ≠ w.heap.size + 1 := by omega
  have hs2 : ((w.alloc (.cells #[.int .i64 0, .int .i64 0, .string ⟨#[]⟩] 36)).alloc (.cells #[.int .i64 x.fr, .int .i64 x.to, .string x.d] 36)).heap.size = w.heap.size + 2 := by simp
  clear h hx ha CA
  go_enter Try.func28, Try.ntmps28
  go_wp2_with fail
  refine CI.out.mono ?_
  rintro e w1 ⟨rfl, rfl⟩
  go_wp2_with fail
  refine HCA.out.mono ?_
  rintro e w2 ⟨rfl, rfl⟩
  go_wp2_with fail
  refine CO.out.mono ?_
  rintro e w3 ⟨rfl, v3, h3, ho3, hn3⟩
  have hY0 := hX0.only ho3 (by simpa using Ne.symm hbz)
  have hY1 := hX1.only ho3 (by simpa using Ne.symm hbz1)
  have x0 := hY1.cell (k := 0) rfl
  have x1 := hY1.cell (k := 1) rfl
  have x2 := hY1.cell (k := 2) rfl
  have y0 := hY0.cell (k := 0) rfl
  have y1 := hY0.cell (k := 1) rfl
  have y2 := hY0.cell (k := 2) rfl
  have g0 := hY0.frozen 0
  have g1 := hY0.frozen 1
  have g2 := hY0.frozen 2
  have zl := hY0.lt
  have H3 := Lib.hid h3
  have HY0 := Lib.hid hY0
  have HOB : Hid (Only [b] w w3) := hoB.of0.tr ho3
  have HNew : Hid (NewOf w v v3) := fun g hg => (hn3 g hg).imp_right fun h => by omega
  have hnv : v3.ownBlock ≠ some w.heap.size := fun hh => by
    rcases hn3 _ hh with h4 | h4
    · have := hvlt _ h4; omega
    · omega
  have HNV := Lib.hid hnv
  clear h3 hY0 hY1 hX0 hX1 CO CI HCA hoA hoB ho3 c0 q0 q1 q2 hnv hs2
  go_wp2_with fail
  have hoZ : Only [w.heap.size] w3 (((w3.setCell ⟨w.heap.size, 0, none⟩ (.int .i64 x.fr)).setCell ⟨w.heap.size, 1, none⟩ (.int .i64 x.to)).setCell ⟨w.heap.size, 2, none⟩ (.string x.d)) :=
    (((Only.refl _ _).setCell (.inl (by simp)) _).setCell (.inl (by simp)) _).setCell (.inl (by simp)) _
  have hF := H3.out.off HY0.out HNV.out hBG hoZ
  have hOF := HOB.out.trans hoZ (fun y hy => .inr (by simp at hy; omega))
  exact bodyPost_ret (v := x.res true) (by simp [results, Try.results28, go_sem, Lt.res, *]) rfl ⟨rfl, v3, hF, hOF, HNew.out⟩
theorem rn_take (G B b : Nat) (k : Int) (v gv : Value) (s : NS) (w : World) (h : RnV w G B b v gv s) :
    Calls Try.prog 28 #[.pointer (some ⟨b, 0, none⟩), .int .i64 k] w fun e w' => e = .returned ((s.take k).2.1.res (s.take k).2.2) ∧ ∃ v', RnV w' G B b v' gv (s.take k).1 ∧ Only [b] w w' ∧ NewOf w v v' := by
  cases hx : s.at k with
  | none =>
    rw [show s.take k = (s, Lt.zero, false) from by unfold NS.take; rw [hx]]
    exact (rn_take_out G B b k v gv s w h (NS.at_out hx)).mono fun e w' ⟨h1, h2⟩ => ⟨h1, v, h.only h2, h2.of0, NewOf.refl _ _⟩
  | some x =>
    obtain ⟨j, rfl, hj, hx'⟩ := NS.at_in hx
    cases ha : s.apart x.fr x.to with
    | true =>
      rw [show s.take j = (s, Lt.zero, false) from by unfold NS.take; rw [hx]; dsimp only; rw [ha]; rfl]
      exact (rn_take_apart G B b j v gv s x w h hj hx' ha).mono fun e w' ⟨h1, h2⟩ => ⟨h1, v, h.only h2, h2.of0, NewOf.refl _ _⟩
    | false =>
      rw [show s.take j = (s.out j, x, true) from by unfold NS.take; rw [hx]; dsimp only; rw [ha]; rfl]
      exact rn_take_in G B b j v gv s x w h hj hx' ha
end Go.Proofs.Ytllapfpakoobcaa
