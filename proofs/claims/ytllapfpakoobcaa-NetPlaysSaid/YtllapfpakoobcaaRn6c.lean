/-
  Chapter 6's laws: model, alike; two nets beside one another. (Printed by gen_rn6c.py from XNet8.)
-/
import Derived.Test.YtllapfpakoobcaaRn6b
namespace Go.Proofs.Ytllapfpakoobcaa
open Go.RowKit
theorem model_end {w W0 w2 : World} {G B b z : Nat} {v v2 gv2 : Value} {s2 : NS} {cs : List Value} (h2 : RnV w2 G B b v2 gv2 s2) (ho2 : Only [b] W0 w2) (hn2 : NewOf W0 v v2) (hX : Cells W0 z 36 cs) (hoW : Only [] w W0) (hz : w.heap.size ≤ z)
    (hb : b < w.heap.size) (hlt : ∀ y, v.ownBlock = some y → y < w.heap.size) (hG : G ≤ w.heap.size) (u0 u1 u2 : Value) :
    Cells w2 z 36 cs ∧ RnV (((w2.setCell ⟨z, 0, none⟩ u0).setCell ⟨z, 1, none⟩ u1).setCell ⟨z, 2, none⟩ u2) G B b v2 gv2 s2 ∧ Only [b] w (((w2.setCell ⟨z, 0, none⟩ u0).setCell ⟨z, 1, none⟩ u1).setCell ⟨z, 2, none⟩ u2) := by
  have hX2 := hX.only ho2 (by simp; omega)
  have hv : v2.ownBlock ≠ some z := fun hh => by
    rcases hn2 z hh with h | h
    · have := hlt z h; omega
    · have := hX.lt; omega
  have hoZ : Only [z] w2 (((w2.setCell ⟨z, 0, none⟩ u0).setCell ⟨z, 1, none⟩ u1).setCell ⟨z, 2, none⟩ u2) := (((Only.refl _ _).setCell (.inl (by simp)) _).setCell (.inl (by simp)) _).setCell (.inl (by simp)) _
  exact ⟨hX2, h2.off hX2 hv (by omega) hoZ, (hoW.of0.tr ho2).trans hoZ (fun y hy => .inr (by simp at hy; omega))⟩
set_option maxRecDepth 100000 in
set_option maxHeartbeats 4000000 in
theorem model6 (G B b : Nat) (v gv : Value) (s : NS) (a : Act) (n : Int) (r : NS × Lt × Bool) (w : World) (h : RnV w G B b v gv s) (hlo : s.lo) (ha : Wide a.op) (hg : SlAt w G a.gv 1 a.grp.length (gvs a.grp)) (hgl : a.grp.length ≤ 1000)
    (hn : pickI a.op 10 = n) (hr : s.does a = r) :
    Calls Try.prog 15 #[.pointer (some ⟨b, 0, none⟩), a.val] w fun e w' => e = .returned (r.2.1.res r.2.2) ∧ ∃ v' gv', RnV w' G B b v' gv' r.1 ∧ Only [b] w w' := by
  have CP : Hid (∀ w, Calls Try.prog 11 #[.int .i64 a.op, .int .i64 10] w fun e w' => e = .returned (.int .i64 n) ∧ w = w') := fun w => by rw [← hn]; exact pick6 a.op 10 w ha (by omega) (by omega)
  have hnb : 0 ≤ n ∧ n < 10 := by have := pickI_lt a.op 10 (by omega); omega
  obtain ⟨A, c, hgv⟩ := hg.shape
  have hs1 : ((w.alloc (.cells #[.int .i64 a.op, .int .i64 a.k, .int .i64 a.fr, .int .i64 a.to, .string a.d, a.gv] 41))).heap.size = w.heap.size + 1 := by simp
  have hoA : Only [] w ((w.alloc (.cells #[.int .i64 a.op, .int .i64 a.k, .int .i64 a.fr, .int .i64 a.to, .string a.d, a.gv] 41)).alloc (.cells #[.int .i64 0, .int .i64 0, .string ⟨#[]⟩] 36)) := ((Only.refl _ _).alloc _).alloc _
  have hX : Cells ((w.alloc (.cells #[.int .i64 a.op, .int .i64 a.k, .int .i64 a.fr, .int .i64 a.to, .string a.d, a.gv] 41)).alloc (.cells #[.int .i64 0, .int .i64 0, .string ⟨#[]⟩] 36)) (w.heap.size + 1) 36 [.int .i64 0, .int .i64 0, .string ⟨#[]⟩] := by
    rw [← hs1]; exact Cells.new _ _ _
  have hA := (Cells.new w 41 [.int .i64 a.op, .int .i64 a.k, .int .i64 a.fr, .int .i64 a.to, .string a.d, a.gv]).alloc (.cells #[.int .i64 0, .int .i64 0, .string ⟨#[]⟩] 36)
  have hN := h.only hoA
  have hne : b < w.heap.size ∧ ∀ y, v.ownBlock = some y → y < w.heap.size := ⟨h.cells.lt, fun y hy => (h.own.lt y hy).2⟩
  have hbz : b ≠ w.heap.size := Nat.ne_of_lt h.cells.lt
  have hBw : G ≤ w.heap.size := Nat.le_trans h.gle h.lt
  have hG := hg.only hoA hBw (by simp)
  have hsz : w.heap.size ≤ ((w.alloc (.cells #[.int .i64 a.op, .int .i64 a.k, .int .i64 a.fr, .int .i64 a.to, .string a.d, a.gv] 41)).alloc (.cells #[.int .i64 0, .int .i64 0, .string ⟨#[]⟩] 36)).heap.size := hoA.size
  have hzl := hX.lt
  unfold Act.val
  rw [hgv] at hoA hX hA hN hG hsz hzl ⊢
  have HN := Lib.hid hN
  have HX := Lib.hid hX
  have HA := Lib.hid hA
  have HNE := Lib.hid hne
  have HG := Lib.hid hG
  have HR := Lib.hid hr
  have Hn := Lib.hid hn
  have HO := Lib.hid hoA
  clear h hg hN hX hA hne hG hn hr ha hgv
  go_enter Try.func15, Try.ntmps15
  obtain ⟨W0, hW0⟩ : ∃ W0, (w.alloc (.cells #[.int .i64 a.op, .int .i64 a.k, .int .i64 a.fr, .int .i64 a.to, .string a.d, .slice A a.grp.length c] 41)).alloc (.cells #[.int .i64 0, .int .i64 0, .string ⟨#[]⟩] 36) = W0 := ⟨_, rfl⟩
  rw [hW0] at HN HX HA HG HO hsz hzl
  have y0 := HA.out.cell (k := 0) rfl
  have y1 := HA.out.cell (k := 1) rfl
  have y2 := HA.out.cell (k := 2) rfl
  have y3 := HA.out.cell (k := 3) rfl
  have y4 := HA.out.cell (k := 4) rfl
  have y5 := HA.out.cell (k := 5) rfl
  by_cases h34 : n = 3 ∨ n = 4
  · have hc : ∃ t, (n == 3) = t ∧ (t = true ∨ (t = false ∧ (n == 4) = true)) := by
      rcases h34 with rfl | rfl
      · exact ⟨true, rfl, .inl rfl⟩
      · exact ⟨false, rfl, .inr ⟨rfl, rfl⟩⟩
    have HT : Hid (s.take a.k = r) := by
      show _ = _
      rw [← HR.out]; unfold NS.does; rw [Hn.out, if_pos h34]
    obtain ⟨t, ht, hc⟩ := hc
    clear h34 HR Hn
    rcases hc with rfl | ⟨rfl, hc⟩
    all_goals
      go_wp2_with (go_at_call 11; refine (CP.out _).mono ?_; rintro e w' ⟨rfl, rfl⟩)
      refine (rn_take G B b a.k v gv s _ HN.out).mono ?_
      rintro e w2 ⟨rfl, v2, h2, ho2, hn2⟩
      rw [HT.out] at h2 ⊢
      obtain ⟨hX2, hF, hOF⟩ := model_end h2 ho2 hn2 HX.out HO.out (Nat.le_succ _) HNE.out.1 HNE.out.2 hBw (.int .i64 r.2.1.fr) (.int .i64 r.2.1.to) (.string r.2.1.d)
      have x0 := hX2.cell (k := 0) rfl
      have x1 := hX2.cell (k := 1) rfl
      have x2 := hX2.cell (k := 2) rfl
      have g0 := hX2.frozen 0
      have g1 := hX2.frozen 1
      have g2 := hX2.frozen 2
      have hzl2 := hX2.lt
      have HF := Lib.hid hF
      have HOF := Lib.hid hOF
      clear hX2 hF hOF h2 ho2 hn2
      unfold Lt.res
      go_wp2_with fail
      exact bodyPost_ret (v := r.2.1.res r.2.2) (by simp [results, Try.results15, go_sem, Lt.res, *]) rfl ⟨rfl, v2, gv, HF.out, HOF.out⟩
  have n3 : (n == 3) = false := by simp; omega
  have n4 : (n == 4) = false := by simp; omega
  by_cases h5 : n = 5
  · have n5 : (n == 5) = true := by simp; omega
    have hr : r = ((s.twice a.k).1, Lt.zero, (s.twice a.k).2) := by rw [← HR.out]; unfold NS.does; rw [Hn.out, if_neg h34, if_pos h5]
    subst hr
    obtain ⟨q, hq⟩ : ∃ q, s.twice a.k = q := ⟨_, rfl⟩
    have CC := rn_twice G B b a.k v gv s _ HN.out hlo
    rw [hq] at CC ⊢
    have HCC := Lib.hid CC
    clear CC hq h5 h34
    go_wp2_with (go_at_call 11; refine (CP.out _).mono ?_; rintro e w' ⟨rfl, rfl⟩)
    refine (HCC.out).mono ?_
    rintro e w2 ⟨rfl, v2, h2, ho2, hn2⟩
    obtain ⟨hX2, hF, hOF⟩ := model_end h2 ho2 hn2 HX.out HO.out (Nat.le_succ _) HNE.out.1 HNE.out.2 hBw (.int .i64 0) (.int .i64 0) (.string ⟨#[]⟩)
    have x0 := hX2.cell (k := 0) rfl
    have x1 := hX2.cell (k := 1) rfl
    have x2 := hX2.cell (k := 2) rfl
    have g0 := hX2.frozen 0
    have g1 := hX2.frozen 1
    have g2 := hX2.frozen 2
    have hzl2 := hX2.lt
    have HF := Lib.hid hF
    have HOF := Lib.hid hOF
    clear hX2 hF hOF h2 ho2 hn2
    go_wp2_with fail
    exact bodyPost_ret (v := Lt.zero.res q.2) (by simp [results, Try.results15, go_sem, Lt.res, Lt.zero, *]) rfl ⟨rfl, ⟨v2, gv, HF.out⟩, HOF.out⟩
  have n5 : (n == 5) = false := by simp; omega
  by_cases h6 : n = 6
  · have n6 : (n == 6) = true := by simp; omega
    have hr : r = ((s.lose a.k).1, Lt.zero, (s.lose a.k).2) := by rw [← HR.out]; unfold NS.does; rw [Hn.out, if_neg h34, if_neg h5, if_pos h6]
    subst hr
    obtain ⟨q, hq⟩ : ∃ q, s.lose a.k = q := ⟨_, rfl⟩
    have CC := rn_lose G B b a.k v gv s _ HN.out hlo
    rw [hq] at CC ⊢
    have HCC := Lib.hid CC
    clear CC hq h6 h34
    go_wp2_with (go_at_call 11; refine (CP.out _).mono ?_; rintro e w' ⟨rfl, rfl⟩)
    refine (HCC.out).mono ?_
    rintro e w2 ⟨rfl, v2, h2, ho2, hn2⟩
    obtain ⟨hX2, hF, hOF⟩ := model_end h2 ho2 hn2 HX.out HO.out (Nat.le_succ _) HNE.out.1 HNE.out.2 hBw (.int .i64 0) (.int .i64 0) (.string ⟨#[]⟩)
    have x0 := hX2.cell (k := 0) rfl
    have x1 := hX2.cell (k := 1) rfl
    have x2 := hX2.cell (k := 2) rfl
    have g0 := hX2.frozen 0
    have g1 := hX2.frozen 1
    have g2 := hX2.frozen 2
    have hzl2 := hX2.lt
    have HF := Lib.hid hF
    have HOF := Lib.hid hOF
    clear hX2 hF hOF h2 ho2 hn2
    go_wp2_with fail
    exact bodyPost_ret (v := Lt.zero.res q.2) (by simp [results, Try.results15, go_sem, Lt.res, Lt.zero, *]) rfl ⟨rfl, ⟨v2, gv, HF.out⟩, HOF.out⟩
  have n6 : (n == 6) = false := by simp; omega
  by_cases h7 : n = 7
  · have n7 : (n == 7) = true := by simp; omega
    have hr : r = ((s.late a.k).1, Lt.zero, (s.late a.k).2) := by rw [← HR.out]; unfold NS.does; rw [Hn.out, if_neg h34, if_neg h5, if_neg h6, if_pos h7]
    subst hr
    obtain ⟨q, hq⟩ : ∃ q, s.late a.k = q := ⟨_, rfl⟩
    have CC := rn_late G B b a.k v gv s _ HN.out
    rw [hq] at CC ⊢
    have HCC := Lib.hid CC
    clear CC hq h7 h34
    go_wp2_with (go_at_call 11; refine (CP.out _).mono ?_; rintro e w' ⟨rfl, rfl⟩)
    refine (HCC.out).mono ?_
    rintro e w2 ⟨rfl, v2, h2, ho2, hn2⟩
    obtain ⟨hX2, hF, hOF⟩ := model_end h2 ho2 hn2 HX.out HO.out (Nat.le_succ _) HNE.out.1 HNE.out.2 hBw (.int .i64 0) (.int .i64 0) (.string ⟨#[]⟩)
    have x0 := hX2.cell (k := 0) rfl
    have x1 := hX2.cell (k := 1) rfl
    have x2 := hX2.cell (k := 2) rfl
    have g0 := hX2.frozen 0
    have g1 := hX2.frozen 1
    have g2 := hX2.frozen 2
    have hzl2 := hX2.lt
    have HF := Lib.hid hF
    have HOF := Lib.hid hOF
    clear hX2 hF hOF h2 ho2 hn2
    go_wp2_with fail
    exact bodyPost_ret (v := Lt.zero.res q.2) (by simp [results, Try.results15, go_sem, Lt.res, Lt.zero, *]) rfl ⟨rfl, ⟨v2, gv, HF.out⟩, HOF.out⟩
  have n7 : (n == 7) = false := by simp; omega
  by_cases h8 : n = 8
  · have n8 : (n == 8) = true := by simp; omega
    have hr : r = (⟨s.l, a.grp, s.lost⟩, Lt.zero, true) := by rw [← HR.out]; unfold NS.does; rw [Hn.out, if_neg h34, if_neg h5, if_neg h6, if_neg h7, if_pos h8]
    subst hr
    clear h8 h34 h5 h6 h7
    have c1 := HN.out.cells.cell (k := 1) rfl
    have cf1 := HN.out.cells.frozen 1
    have cl1 := HN.out.cells.lt
    have hN2 : RnV (W0.setCell ⟨b, 1, none⟩ (.slice A a.grp.length c)) G B b v (.slice A a.grp.length c) ⟨s.l, a.grp, s.lost⟩ := by
      have hoB : Only [b] W0 (W0.setCell ⟨b, 1, none⟩ (.slice A a.grp.length c)) := (Only.refl _ _).setCell (.inl (by simp)) _
      exact ⟨HN.out.ge, HN.out.gle, HN.out.cells.set 1 _, own_keep HN.out.own hoB (fun y hy => by simp at hy; subst hy; exact own_ne_block HN.out.own HN.out.cells (by decide)), HG.out.only hoB (Nat.le_trans HN.out.gle HN.out.lt) (fun y hy => by simp at hy; subst hy; exact Nat.le_trans HN.out.gle HN.out.ge), HN.out.len, hgl⟩
    have ho2 : Only [b] W0 (W0.setCell ⟨b, 1, none⟩ (.slice A a.grp.length c)) := (Only.refl _ _).setCell (.inl (by simp)) _
    obtain ⟨hX2, hF, hOF⟩ := model_end hN2 ho2 (NewOf.refl _ _) HX.out HO.out (Nat.le_succ _) HNE.out.1 HNE.out.2 hBw (.int .i64 0) (.int .i64 0) (.string ⟨#[]⟩)
    have x0 := hX2.cell (k := 0) rfl
    have x1 := hX2.cell (k := 1) rfl
    have x2 := hX2.cell (k := 2) rfl
    have g0 := hX2.frozen 0
    have g1 := hX2.frozen 1
    have g2 := hX2.frozen 2
    have hzl2 := hX2.lt
    have HF := Lib.hid hF
    have HOF := Lib.hid hOF
    clear hX2 hF hOF hN2 ho2
    go_wp2_with (go_at_call 11; refine (CP.out _).mono ?_; rintro e w' ⟨rfl, rfl⟩)
    exact bodyPost_ret (v := Lt.zero.res true) (by simp [results, Try.results15, go_sem, Lt.res, Lt.zero, *]) rfl ⟨rfl, ⟨v, _, HF.out⟩, HOF.out⟩
  have n8 : (n == 8) = false := by simp; omega
  by_cases h9 : n = 9
  · have n9 : (n == 9) = true := by simp; omega
    have hr : r = (⟨s.l, [], s.lost⟩, Lt.zero, true) := by rw [← HR.out]; unfold NS.does; rw [Hn.out, if_neg h34, if_neg h5, if_neg h6, if_neg h7, if_neg h8, if_pos h9]
    subst hr
    clear h9 h34 h5 h6 h7 h8
    have c1 := HN.out.cells.cell (k := 1) rfl
    have cf1 := HN.out.cells.frozen 1
    have cl1 := HN.out.cells.lt
    have hN2 : RnV (W0.setCell ⟨b, 1, none⟩ (.slice none 0 0)) G B b v (.slice none 0 0) ⟨s.l, [], s.lost⟩ := by
      have hoB : Only [b] W0 (W0.setCell ⟨b, 1, none⟩ (.slice none 0 0)) := (Only.refl _ _).setCell (.inl (by simp)) _
      exact ⟨HN.out.ge, HN.out.gle, HN.out.cells.set 1 _, own_keep HN.out.own hoB (fun y hy => by simp at hy; subst hy; exact own_ne_block HN.out.own HN.out.cells (by decide)), ⟨rfl, none, 0, rfl, by simp, by simp [maxLen], fun h => by simp at h⟩, HN.out.len, by simp⟩
    have ho2 : Only [b] W0 (W0.setCell ⟨b, 1, none⟩ (.slice none 0 0)) := (Only.refl _ _).setCell (.inl (by simp)) _
    obtain ⟨hX2, hF, hOF⟩ := model_end hN2 ho2 (NewOf.refl _ _) HX.out HO.out (Nat.le_succ _) HNE.out.1 HNE.out.2 hBw (.int .i64 0) (.int .i64 0) (.string ⟨#[]⟩)
    have x0 := hX2.cell (k := 0) rfl
    have x1 := hX2.cell (k := 1) rfl
    have x2 := hX2.cell (k := 2) rfl
    have g0 := hX2.frozen 0
    have g1 := hX2.frozen 1
    have g2 := hX2.frozen 2
    have hzl2 := hX2.lt
    have HF := Lib.hid hF
    have HOF := Lib.hid hOF
    clear hX2 hF hOF hN2 ho2
    go_wp2_with (go_at_call 11; refine (CP.out _).mono ?_; rintro e w' ⟨rfl, rfl⟩)
    exact bodyPost_ret (v := Lt.zero.res true) (by simp [results, Try.results15, go_sem, Lt.res, Lt.zero, *]) rfl ⟨rfl, ⟨v, _, HF.out⟩, HOF.out⟩
  have n9 : (n == 9) = false := by simp; omega
  have hr : r = (s.send ⟨a.fr, a.to, a.d⟩, Lt.zero, true) := by rw [← HR.out]; unfold NS.does; rw [Hn.out, if_neg h34, if_neg h5, if_neg h6, if_neg h7, if_neg h8, if_neg h9]
  subst hr
  have HCC := Lib.hid (rn_send G B b v gv s ⟨a.fr, a.to, a.d⟩ _ HN.out hlo)
  clear h9 h34 h5 h6 h7 h8
  go_wp2_with (go_at_call 11; refine (CP.out _).mono ?_; rintro e w' ⟨rfl, rfl⟩)
  refine (HCC.out).mono ?_
  rintro e w2 ⟨rfl, v2, h2, ho2, hn2⟩
  obtain ⟨hX2, hF, hOF⟩ := model_end h2 ho2 hn2 HX.out HO.out (Nat.le_succ _) HNE.out.1 HNE.out.2 hBw (.int .i64 0) (.int .i64 0) (.string ⟨#[]⟩)
  have x0 := hX2.cell (k := 0) rfl
  have x1 := hX2.cell (k := 1) rfl
  have x2 := hX2.cell (k := 2) rfl
  have g0 := hX2.frozen 0
  have g1 := hX2.frozen 1
  have g2 := hX2.frozen 2
  have hzl2 := hX2.lt
  have HF := Lib.hid hF
  have HOF := Lib.hid hOF
  clear hX2 hF hOF h2 ho2 hn2
  go_wp2_with fail
  exact bodyPost_ret (v := Lt.zero.res true) (by simp [results, Try.results15, go_sem, Lt.res, Lt.zero, *]) rfl ⟨rfl, ⟨v2, gv, HF.out⟩, HOF.out⟩
/-- A net stays, whatever becomes of the document's. -/
theorem NetV.past {w w' : World} {B b b2 : Nat} {v f : Value} {s : NS} {cs : List Value} (h : NetV w B b v f s) (hc : Cells w b2 31 cs) (ho : Only [b2] w w') : NetV w' B b v f s := by
  refine ⟨h.ge, h.cells.only ho (by simpa using h.cells.ne hc (by decide)), own_keep h.own ho (fun x hx => by simp at hx; subst hx; exact own_ne_block h.own hc (by decide)), ?_, h.len⟩
  rcases h.inf with h | ⟨c, gv, hf, hB, hC, hr, hl⟩
  · exact .inl h
  · exact .inr ⟨c, gv, hf, hB, hC.only ho (by simpa using hC.ne hc (by decide)), own_keep hr ho (fun x hx => by simp at hx; subst hx; exact own_ne_block hr hc (by decide)), hl⟩
theorem RnV.past {w w' : World} {G B b B2 b2 : Nat} {v gv v2 f2 : Value} {s s2 : NS} (h : RnV w G B b v gv s) (hn : NetV w B2 b2 v2 f2 s2) (hG : G ≤ B2) (ho : Only (b2 :: rb v2) w w') : RnV w' G B b v gv s := by
  refine ⟨h.ge, h.gle, h.cells.only ho (fun hm => ?_), own_keep h.own ho (fun x hx => ?_), h.grp.only ho (Nat.le_trans h.gle h.lt) (fun y hy => Nat.le_trans hG (hn.ges y hy)), h.len, h.glen⟩
  · rcases List.mem_cons.1 hm with e | hm
    · exact (h.cells.ne hn.cells (by decide)) e
    · exact own_ne_block hn.own h.cells (by decide) (by simpa [rb] using hm)
  · rcases List.mem_cons.1 hx with rfl | hx
    · exact own_ne_block h.own hn.cells (by decide)
    · exact own_own_ne hn.own h.own (by decide) (by simpa [rb] using hx)
set_option maxRecDepth 100000 in
theorem alike6 (x : Lt) (w : World) : Calls Try.prog 16 #[.agg #[.int .i64 x.fr, .int .i64 x.to, .string x.d], .agg #[.int .i64 x.fr, .int .i64 x.to, .string x.d]] w fun e w' => e = .returned (.bool true) ∧ Only [] w w' := by
  go_enter Try.func16, Try.ntmps16
  go_wp2_with fail
  go_ret
  exact ⟨rfl, ((Only.refl _ _).alloc _).alloc _⟩
end Go.Proofs.Ytllapfpakoobcaa
