/-
  Chapter 6's laws: does, small.
-/
import Derived.Test.YtllapfpakoobcaaOpen6
namespace Go.Proofs.Ytllapfpakoobcaa
open Go.RowKit
def Act.val (a : Act) : Value := .agg #[.int .i64 a.op, .int .i64 a.k, .int .i64 a.fr, .int .i64 a.to, .string a.d, a.gv]
def NS.does (s : NS) (a : Act) : NS × Lt × Bool :=
  if pickI a.op 10 = 3 ∨ pickI a.op 10 = 4 then s.take a.k
  else if pickI a.op 10 = 5 then ((s.twice a.k).1, Lt.zero, (s.twice a.k).2)
  else if pickI a.op 10 = 6 then ((s.lose a.k).1, Lt.zero, (s.lose a.k).2)
  else if pickI a.op 10 = 7 then ((s.late a.k).1, Lt.zero, (s.late a.k).2)
  else if pickI a.op 10 = 8 then (⟨s.l, a.grp, s.lost⟩, Lt.zero, true)
  else if pickI a.op 10 = 9 then (⟨s.l, [], s.lost⟩, Lt.zero, true)
  else (s.send ⟨a.fr, a.to, a.d⟩, Lt.zero, true)
theorem does_end {w W0 w2 : World} {B b z : Nat} {v v2 f2 : Value} {s2 : NS} {cs : List Value} (h2 : NetV w2 B b v2 f2 s2) (ho2 : Only (b :: rb v) W0 w2) (hn2 : NewOf W0 v v2) (hX : Cells W0 z 37 cs) (hoW : Only [] w W0) (hz : w.heap.size ≤ z)
    (hlt : ∀ y, y ∈ b :: rb v → y < w.heap.size) (u0 u1 u2 : Value) :
    Cells w2 z 37 cs ∧ NetV (((w2.setCell ⟨z, 0, none⟩ u0).setCell ⟨z, 1, none⟩ u1).setCell ⟨z, 2, none⟩ u2) B b v2 f2 s2 ∧ Only (b :: rb v) w (((w2.setCell ⟨z, 0, none⟩ u0).setCell ⟨z, 1, none⟩ u1).setCell ⟨z, 2, none⟩ u2) ∧ NewOf w v v2 := by
  have hX2 := hX.only ho2 (fun hm => by have := hlt _ hm; omega)
  have hv : v2.ownBlock ≠ some z := fun hh => by
    rcases hn2 z hh with h | h
    · have := hlt z (by simp [rb, h]); omega
    · have := hX.lt; omega
  have hoZ : Only [z] w2 (((w2.setCell ⟨z, 0, none⟩ u0).setCell ⟨z, 1, none⟩ u1).setCell ⟨z, 2, none⟩ u2) := (((Only.refl _ _).setCell (.inl (by simp)) _).setCell (.inl (by simp)) _).setCell (.inl (by simp)) _
  exact ⟨hX2, h2.off hX2 hv hoZ, (hoW.of0.tr ho2).trans hoZ (fun y hy => .inr (by simp at hy; omega)), fun g hg => (hn2 g hg).imp_right fun h => Nat.le_trans hoW.size h⟩
set_option maxRecDepth 100000 in
set_option maxHeartbeats 4000000 in
theorem does6 (B b B' : Nat) (v f : Value) (s : NS) (a : Act) (n : Int) (r : NS × Lt × Bool) (w : World) (h : NetV w B b v f s) (hlo : s.lo) (ha : Wide a.op) (hB : B' ≤ w.heap.size) (hg : SlAt w B' a.gv 1 a.grp.length (gvs a.grp)) (hgl : a.grp.length ≤ 1000000)
    (hn : pickI a.op 10 = n) (hr : s.does a = r) :
    Calls Try.prog 14 #[.pointer (some ⟨b, 0, none⟩), a.val] w fun e w' => e = .returned (r.2.1.res r.2.2) ∧ ∃ v' f', NetV w' B b v' f' r.1 ∧ Only (b :: rb v) w w' ∧ NewOf w v v' := by
  have CP : Hid (∀ w, Calls Try.prog 11 #[.int .i64 a.op, .int .i64 10] w fun e w' => e = .returned (.int .i64 n) ∧ w = w') := fun w => by rw [← hn]; exact pick6 a.op 10 w ha (by omega) (by omega)
  have hnb : 0 ≤ n ∧ n < 10 := by have := pickI_lt a.op 10 (by omega); omega
  obtain ⟨A, c, hgv⟩ := hg.shape
  have hs1 : ((w.alloc (.cells #[.int .i64 a.op, .int .i64 a.k, .int .i64 a.fr, .int .i64 a.to, .string a.d, a.gv] 41))).heap.size = w.heap.size + 1 := by simp
  have hoA : Only [] w ((w.alloc (.cells #[.int .i64 a.op, .int .i64 a.k, .int .i64 a.fr, .int .i64 a.to, .string a.d, a.gv] 41)).alloc (.cells #[.int .i64 0, .int .i64 0, .string ⟨#[]⟩] 37)) := ((Only.refl _ _).alloc _).alloc _
  have hX : Cells ((w.alloc (.cells #[.int .i64 a.op, .int .i64 a.k, .int .i64 a.fr, .int .i64 a.to, .string a.d, a.gv] 41)).alloc (.cells #[.int .i64 0, .int .i64 0, .string ⟨#[]⟩] 37)) (w.heap.size + 1) 37 [.int .i64 0, .int .i64 0, .string ⟨#[]⟩] := by
    rw [← hs1]; exact Cells.new _ _ _
  have hA := (Cells.new w 41 [.int .i64 a.op, .int .i64 a.k, .int .i64 a.fr, .int .i64 a.to, .string a.d, a.gv]).alloc (.cells #[.int .i64 0, .int .i64 0, .string ⟨#[]⟩] 37)
  have hN := h.only hoA
  have hne : ∀ y, y ∈ b :: rb v → y < w.heap.size := fun y hy => by
    rcases List.mem_cons.1 hy with rfl | hy
    · exact h.cells.lt
    · exact (h.own.lt y (by simpa [rb] using hy)).2
  have hG := hg.only hoA hB (by simp)
  have hsz : w.heap.size ≤ ((w.alloc (.cells #[.int .i64 a.op, .int .i64 a.k, .int .i64 a.fr, .int .i64 a.to, .string a.d, a.gv] 41)).alloc (.cells #[.int .i64 0, .int .i64 0, .string ⟨#[]⟩] 37)).heap.size := hoA.size
  have hzl := hX.lt
  unfold Act.val
  rw [hgv] at hoA hX hA hN hG hsz hzl ⊢
  have HN := Lib.hid hN
  have HX := Lib.hid hX
  have HA := Lib.hid hA
  have HNE := Lib.hid hne
  have HG := Lib.hid hG
  have HR := Lib.hid hr
  have Hn := Lib.hid hn
  have HO := Lib.hid hoA
  clear h hg hN hX hA hne hG hn hr ha hgv
  go_enter Try.func14, Try.ntmps14
  obtain ⟨W0, hW0⟩ : ∃ W0, (w.alloc (.cells #[.int .i64 a.op, .int .i64 a.k, .int .i64 a.fr, .int .i64 a.to, .string a.d, .slice A a.grp.length c] 41)).alloc (.cells #[.int .i64 0, .int .i64 0, .string ⟨#[]⟩] 37) = W0 := ⟨_, rfl⟩
  rw [hW0] at HN HX HA HG HO hsz hzl
  have y0 := HA.out.cell (k := 0) rfl
  have y1 := HA.out.cell (k := 1) rfl
  have y2 := HA.out.cell (k := 2) rfl
  have y3 := HA.out.cell (k := 3) rfl
  have y4 := HA.out.cell (k := 4) rfl
  have y5 := HA.out.cell (k := 5) rfl
  by_cases h34 : n = 3 ∨ n = 4
  · have hc : ∃ t, (n == 3) = t ∧ (t = true ∨ (t = false ∧ (n == 4) = true)) := by
      rcases h34 with rfl | rfl
      · exact ⟨true, rfl, .inl rfl⟩
      · exact ⟨false, rfl, .inr ⟨rfl, rfl⟩⟩
    have HT : Hid (s.take a.k = r) := by
      show _ = _
      rw [← HR.out]; unfold NS.does; rw [Hn.out, if_pos h34]
    obtain ⟨t, ht, hc⟩ := hc
    clear h34 HR Hn
    rcases hc with rfl | ⟨rfl, hc⟩
    all_goals
      go_wp2_with (go_at_call 11; refine (CP.out _).mono ?_; rintro e w' ⟨rfl, rfl⟩)
      refine (net_take B b a.k v f s _ HN.out).mono ?_
      rintro e w2 ⟨rfl, v2, h2, ho2, hrb⟩
      have hn2 : NewOf W0 v v2 := NewOf.of_rb hrb
      rw [HT.out] at h2 ⊢
      clear hrb
      obtain ⟨hX2, hF, hOF, hNF⟩ := does_end h2 ho2 hn2 HX.out HO.out (Nat.le_succ _) HNE.out (.int .i64 r.2.1.fr) (.int .i64 r.2.1.to) (.string r.2.1.d)
      have x0 := hX2.cell (k := 0) rfl
      have x1 := hX2.cell (k := 1) rfl
      have x2 := hX2.cell (k := 2) rfl
      have g0 := hX2.frozen 0
      have g1 := hX2.frozen 1
      have g2 := hX2.frozen 2
      have hzl2 := hX2.lt
      have HF := Lib.hid hF
      have HOF := Lib.hid hOF
      have HNF := Lib.hid hNF
      clear hX2 hF hOF hNF h2 ho2 hn2
      unfold Lt.res
      go_wp2_with fail
      exact bodyPost_ret (v := r.2.1.res r.2.2) (by simp [results, Try.results14, go_sem, Lt.res, *]) rfl ⟨rfl, v2, f, HF.out, HOF.out, HNF.out⟩
  have n3 : (n == 3) = false := by simp; omega
  have n4 : (n == 4) = false := by simp; omega
  by_cases h5 : n = 5
  · have n5 : (n == 5) = true := by simp; omega
    have hr : r = ((s.twice a.k).1, Lt.zero, (s.twice a.k).2) := by rw [← HR.out]; unfold NS.does; rw [Hn.out, if_neg h34, if_pos h5]
    subst hr
    obtain ⟨q, hq⟩ : ∃ q, s.twice a.k = q := ⟨_, rfl⟩
    have CC := net_twice B b a.k v f s _ HN.out hlo
    rw [hq] at CC ⊢
    have HCC := Lib.hid CC
    clear CC hq h5 h34
    go_wp2_with (go_at_call 11; refine (CP.out _).mono ?_; rintro e w' ⟨rfl, rfl⟩)
    refine (HCC.out).mono ?_
    rintro e w2 ⟨rfl, v2, h2, ho2, hn2⟩
    obtain ⟨hX2, hF, hOF, hNF⟩ := does_end h2 ho2 hn2 HX.out HO.out (Nat.le_succ _) HNE.out (.int .i64 0) (.int .i64 0) (.string ⟨#[]⟩)
    have x0 := hX2.cell (k := 0) rfl
    have x1 := hX2.cell (k := 1) rfl
    have x2 := hX2.cell (k := 2) rfl
    have g0 := hX2.frozen 0
    have g1 := hX2.frozen 1
    have g2 := hX2.frozen 2
    have hzl2 := hX2.lt
    have HF := Lib.hid hF
    have HOF := Lib.hid hOF
    have HNF := Lib.hid hNF
    clear hX2 hF hOF hNF h2 ho2 hn2
    go_wp2_with fail
    exact bodyPost_ret (v := Lt.zero.res q.2) (by simp [results, Try.results14, go_sem, Lt.res, Lt.zero, *]) rfl ⟨rfl, v2, ⟨f, HF.out⟩, HOF.out, HNF.out⟩
  have n5 : (n == 5) = false := by simp; omega
  by_cases h6 : n = 6
  · have n6 : (n == 6) = true := by simp; omega
    have hr : r = ((s.lose a.k).1, Lt.zero, (s.lose a.k).2) := by rw [← HR.out]; unfold NS.does; rw [Hn.out, if_neg h34, if_neg h5, if_pos h6]
    subst hr
    obtain ⟨q, hq⟩ : ∃ q, s.lose a.k = q := ⟨_, rfl⟩
    have CC := net_lose B b a.k v f s _ HN.out hlo
    rw [hq] at CC ⊢
    have HCC := Lib.hid CC
    clear CC hq h6 h34
    go_wp2_with (go_at_call 11; refine (CP.out _).mono ?_; rintro e w' ⟨rfl, rfl⟩)
    refine (HCC.out).mono ?_
    rintro e w2 ⟨rfl, v2, h2, ho2, hn2⟩
    obtain ⟨hX2, hF, hOF, hNF⟩ := does_end h2 ho2 hn2 HX.out HO.out (Nat.le_succ _) HNE.out (.int .i64 0) (.int .i64 0) (.string ⟨#[]⟩)
    have x0 := hX2.cell (k := 0) rfl
    have x1 := hX2.cell (k := 1) rfl
    have x2 := hX2.cell (k := 2) rfl
    have g0 := hX2.frozen 0
    have g1 := hX2.frozen 1
    have g2 := hX2.frozen 2
    have hzl2 := hX2.lt
    have HF := Lib.hid hF
    have HOF := Lib.hid hOF
    have HNF := Lib.hid hNF
    clear hX2 hF hOF hNF h2 ho2 hn2
    go_wp2_with fail
    exact bodyPost_ret (v := Lt.zero.res q.2) (by simp [results, Try.results14, go_sem, Lt.res, Lt.zero, *]) rfl ⟨rfl, v2, ⟨f, HF.out⟩, HOF.out, HNF.out⟩
  have n6 : (n == 6) = false := by simp; omega
  by_cases h7 : n = 7
  · have n7 : (n == 7) = true := by simp; omega
    have hr : r = ((s.late a.k).1, Lt.zero, (s.late a.k).2) := by rw [← HR.out]; unfold NS.does; rw [Hn.out, if_neg h34, if_neg h5, if_neg h6, if_pos h7]
    subst hr
    obtain ⟨q, hq⟩ : ∃ q, s.late a.k = q := ⟨_, rfl⟩
    have CC := net_late B b a.k v f s _ HN.out
    rw [hq] at CC ⊢
    have HCC := Lib.hid CC
    clear CC hq h7 h34
    go_wp2_with (go_at_call 11; refine (CP.out _).mono ?_; rintro e w' ⟨rfl, rfl⟩)
    refine (HCC.out).mono ?_
    rintro e w2 ⟨rfl, v2, h2, ho2, hn2⟩
    obtain ⟨hX2, hF, hOF, hNF⟩ := does_end h2 ho2 hn2 HX.out HO.out (Nat.le_succ _) HNE.out (.int .i64 0) (.int .i64 0) (.string ⟨#[]⟩)
    have x0 := hX2.cell (k := 0) rfl
    have x1 := hX2.cell (k := 1) rfl
    have x2 := hX2.cell (k := 2) rfl
    have g0 := hX2.frozen 0
    have g1 := hX2.frozen 1
    have g2 := hX2.frozen 2
    have hzl2 := hX2.lt
    have HF := Lib.hid hF
    have HOF := Lib.hid hOF
    have HNF := Lib.hid hNF
    clear hX2 hF hOF hNF h2 ho2 hn2
    go_wp2_with fail
    exact bodyPost_ret (v := Lt.zero.res q.2) (by simp [results, Try.results14, go_sem, Lt.res, Lt.zero, *]) rfl ⟨rfl, v2, ⟨f, HF.out⟩, HOF.out, HNF.out⟩
  have n7 : (n == 7) = false := by simp; omega
  by_cases h8 : n = 8
  · have n8 : (n == 8) = true := by simp; omega
    have hr : r = (⟨s.l, a.grp, s.lost⟩, Lt.zero, true) := by rw [← HR.out]; unfold NS.does; rw [Hn.out, if_neg h34, if_neg h5, if_neg h6, if_neg h7, if_pos h8]
    subst hr
    have HCC := Lib.hid (net_split B b B' v f (.slice A a.grp.length c) a.grp s _ HN.out (by omega) HG.out hgl)
    clear h8 h34 h5 h6 h7
    go_wp2_with (go_at_call 11; refine (CP.out _).mono ?_; rintro e w' ⟨rfl, rfl⟩)
    refine (HCC.out).mono ?_
    rintro e w2 ⟨rfl, f2, h2, ho2⟩
    have v2 := v
    have hn2 : NewOf W0 v v := NewOf.refl _ _
    obtain ⟨hX2, hF, hOF, hNF⟩ := does_end h2 ho2 hn2 HX.out HO.out (Nat.le_succ _) HNE.out (.int .i64 0) (.int .i64 0) (.string ⟨#[]⟩)
    have x0 := hX2.cell (k := 0) rfl
    have x1 := hX2.cell (k := 1) rfl
    have x2 := hX2.cell (k := 2) rfl
    have g0 := hX2.frozen 0
    have g1 := hX2.frozen 1
    have g2 := hX2.frozen 2
    have hzl2 := hX2.lt
    have HF := Lib.hid hF
    have HOF := Lib.hid hOF
    have HNF := Lib.hid hNF
    clear hX2 hF hOF hNF h2 ho2 hn2
    go_wp2_with fail
    exact bodyPost_ret (v := Lt.zero.res true) (by simp [results, Try.results14, go_sem, Lt.res, Lt.zero, *]) rfl ⟨rfl, v, ⟨f2, HF.out⟩, HOF.out, HNF.out⟩
  have n8 : (n == 8) = false := by simp; omega
  by_cases h9 : n = 9
  · have n9 : (n == 9) = true := by simp; omega
    have hr : r = (⟨s.l, [], s.lost⟩, Lt.zero, true) := by rw [← HR.out]; unfold NS.does; rw [Hn.out, if_neg h34, if_neg h5, if_neg h6, if_neg h7, if_neg h8, if_pos h9]
    subst hr
    have HCC := Lib.hid (net_whole B b v f s _ HN.out)
    clear h9 h34 h5 h6 h7 h8
    go_wp2_with (go_at_call 11; refine (CP.out _).mono ?_; rintro e w' ⟨rfl, rfl⟩)
    refine (HCC.out).mono ?_
    rintro e w2 ⟨rfl, f2, h2, ho2⟩
    have v2 := v
    have hn2 : NewOf W0 v v := NewOf.refl _ _
    obtain ⟨hX2, hF, hOF, hNF⟩ := does_end h2 ho2 hn2 HX.out HO.out (Nat.le_succ _) HNE.out (.int .i64 0) (.int .i64 0) (.string ⟨#[]⟩)
    have x0 := hX2.cell (k := 0) rfl
    have x1 := hX2.cell (k := 1) rfl
    have x2 := hX2.cell (k := 2) rfl
    have g0 := hX2.frozen 0
    have g1 := hX2.frozen 1
    have g2 := hX2.frozen 2
    have hzl2 := hX2.lt
    have HF := Lib.hid hF
    have HOF := Lib.hid hOF
    have HNF := Lib.hid hNF
    clear hX2 hF hOF hNF h2 ho2 hn2
    go_wp2_with fail
    exact bodyPost_ret (v := Lt.zero.res true) (by simp [results, Try.results14, go_sem, Lt.res, Lt.zero, *]) rfl ⟨rfl, v, ⟨f2, HF.out⟩, HOF.out, HNF.out⟩
  have n9 : (n == 9) = false := by simp; omega
  have hr : r = (s.send ⟨a.fr, a.to, a.d⟩, Lt.zero, true) := by rw [← HR.out]; unfold NS.does; rw [Hn.out, if_neg h34, if_neg h5, if_neg h6, if_neg h7, if_neg h8, if_neg h9]
  subst hr
  have HCC := Lib.hid (net_send B b v f s ⟨a.fr, a.to, a.d⟩ _ HN.out hlo)
  clear h9 h34 h5 h6 h7 h8
  go_wp2_with (go_at_call 11; refine (CP.out _).mono ?_; rintro e w' ⟨rfl, rfl⟩)
  refine (HCC.out).mono ?_
  rintro e w2 ⟨rfl, v2, h2, ho2, hn2⟩
  obtain ⟨hX2, hF, hOF, hNF⟩ := does_end h2 ho2 hn2 HX.out HO.out (Nat.le_succ _) HNE.out (.int .i64 0) (.int .i64 0) (.string ⟨#[]⟩)
  have x0 := hX2.cell (k := 0) rfl
  have x1 := hX2.cell (k := 1) rfl
  have x2 := hX2.cell (k := 2) rfl
  have g0 := hX2.frozen 0
  have g1 := hX2.frozen 1
  have g2 := hX2.frozen 2
  have hzl2 := hX2.lt
  have HF := Lib.hid hF
  have HOF := Lib.hid hOF
  have HNF := Lib.hid hNF
  clear hX2 hF hOF hNF h2 ho2 hn2
  go_wp2_with fail
  exact bodyPost_ret (v := Lt.zero.res true) (by simp [results, Try.results14, go_sem, Lt.res, Lt.zero, *]) rfl ⟨rfl, v2, ⟨f, HF.out⟩, HOF.out, HNF.out⟩
end Go.Proofs.Ytllapfpakoobcaa
