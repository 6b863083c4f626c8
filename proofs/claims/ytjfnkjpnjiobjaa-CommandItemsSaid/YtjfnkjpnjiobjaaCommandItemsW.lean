/-
  The walk over CommandItems. (Printed by gen_items18.py.)
-/
import Derived.Test.YtjfnkjpnjiobjaaC18ag
import Derived.Test.YtjfnkjpnjiobjaaPend
import Derived.Test.YtjfnkjpnjiobjaaApp
namespace Go.Proofs.Ytjfnkjpnjiobjaa
open Go.RowKit
set_option maxRecDepth 100000 in
set_option maxHeartbeats 8000000 in
theorem commandItems_walk (W : World) (v0 : Value) (c : Cm) (s0 : ∃ iv, v0 = c.val iv ∧ CmAt W iv c ∧ ∀ n k, iv = .slice none n k → n = 0 ∧ k = 0) (_ : True) (v1 : Value) (x : It) (s1 : v1 = .agg #[.string ⟨x.id.toArray⟩, .string ⟨x.ti.toArray⟩, .string ⟨x.li.toArray⟩] ∧ x.Len) (_ : True) :
    Calls Try.prog 11 #[v0, v1] W fun e W' => e = .returned (.bool true) ∧ Only [] W W' := by
  obtain ⟨iv, rfl, h, hnil⟩ := s0
  obtain ⟨rfl, hxl⟩ := s1
  obtain ⟨IA, ic, rfl⟩ := h.its.shape
  obtain ⟨w1, hw1⟩ : ∃ w1, W.alloc (.cells #[.int .i64 c.kd, .int .i64 c.ss, .int .i64 c.sq, .int .i64 c.sh, .int .i64 c.nd, .int .i64 c.ep, .int .i64 c.n, .string ⟨c.fd.toArray⟩, .string ⟨c.id.toArray⟩, .slice IA c.its.length ic, .bool c.fl] 65) = w1 := ⟨_, rfl⟩
  obtain ⟨w2, hw2⟩ : ∃ w1', w1.alloc (.cells #[.string ⟨x.id.toArray⟩, .string ⟨x.ti.toArray⟩, .string ⟨x.li.toArray⟩] 36) = w1' := ⟨_, rfl⟩
  obtain ⟨z1, hz1⟩ : ∃ z, W.heap.size = z := ⟨_, rfl⟩
  obtain ⟨z2, hz2⟩ : ∃ z, w1.heap.size = z := ⟨_, rfl⟩
  have O1 : Only [] W w1 := hw1 ▸ (Only.refl _ _).alloc _
  have O2 : Only [] w1 w2 := hw2 ▸ (Only.refl _ _).alloc _
  have a1 : Cells w1 z1 65 (c.cells (.slice IA c.its.length ic)) := hw1 ▸ hz1 ▸ Cells.new W _ _
  have a2 : Cells w2 z2 36 [.string ⟨x.id.toArray⟩, .string ⟨x.ti.toArray⟩, .string ⟨x.li.toArray⟩] := hw2 ▸ hz2 ▸ Cells.new w1 _ _
  have hz12 : z1 < z2 := by have := a1.lt; omega
  have HZ1 := Lib.hid (a1.only O2 (by simp))
  have HX1 := Lib.hid a2
  have HO := Lib.hid (O1.tr O2)
  have hWz : W.heap.size = z1 := hz1
  have H := Lib.hid h
  have HXL := Lib.hid hxl
  have HNIL := Lib.hid hnil
  have C0 := Lib.hid (shown18 w2)
  have CS := Lib.hid (fun w' (ho : Only [] W w') => small18 _ _ c Rp.zero w' (h.only ho) (rpIn_zero w'))
  have HVC : Hid (c.val (.slice IA c.its.length ic) = .agg #[.int .i64 c.kd, .int .i64 c.ss, .int .i64 c.sq, .int .i64 c.sh, .int .i64 c.nd, .int .i64 c.ep, .int .i64 c.n, .string ⟨c.fd.toArray⟩, .string ⟨c.id.toArray⟩, .slice IA c.its.length ic, .bool c.fl]) := Lib.hid rfl
  have HVR : Hid (Rp.zero.val (.slice none 0 0) = .agg #[.int .i64 0, .int .i64 0, .slice none 0 0]) := Lib.hid rfl
  rw [HVC.out, HVR.out] at CS
  rw [HVC.out]
  clear h a1 a2 O1 O2 hxl hnil
  go_enter Try.func11, Try.ntmps11
  go_wp2_with fail
  clear hw1 hz1 hw2 hz2
  refine C0.out.mono ?_
  rintro e w3 ⟨rfl, ho3⟩
  dsimp only
  have HZ3 := Lib.hid (HZ1.out.only ho3 (by simp))
  have HX3 := Lib.hid (HX1.out.only ho3 (by simp))
  have HO3 := Lib.hid (HO.out.tr ho3)
  clear C0 HO HZ1 HX1 ho3
  obtain ⟨c0, c1, c2, c3, c4, c5, c6, c7, c8, c9, c10⟩ := cm_cells HZ3.out
  have CS3 := Lib.hid (CS.out w3 HO3.out)
  clear CS
  go_wp2_with fail
  refine CS3.out.mono ?_
  rintro e w4 ⟨ok, rfl, hok, ho4⟩
  dsimp only
  have HZ4 := Lib.hid (HZ3.out.only ho4 (by simp))
  have HX4 := Lib.hid (HX3.out.only ho4 (by simp))
  have HO4 := Lib.hid (HO3.out.tr ho4)
  have HOK := Lib.hid hok
  clear CS3 HO3 HZ3 HX3 ho4 hok c0 c1 c2 c3 c4 c5 c6 c7 c8 c9 c10
  have x0 := HX4.out.cell (k := 0) rfl
  have x1 := HX4.out.cell (k := 1) rfl
  have x2 := HX4.out.cell (k := 2) rfl
  -- small of a command with that item alone
  obtain ⟨w5, hw5⟩ : ∃ u, w4.alloc (.cells #[.string ⟨x.id.toArray⟩, .string ⟨x.ti.toArray⟩, .string ⟨x.li.toArray⟩] 36) = u := ⟨_, rfl⟩
  obtain ⟨y5, hy5⟩ : ∃ u, w4.heap.size = u := ⟨_, rfl⟩
  have o5 : Only [] w4 w5 := hw5 ▸ (Only.refl _ _).alloc _
  have hC5 : Cells w5 y5 36 (itL [x]) := hw5 ▸ hy5 ▸ Cells.new w4 _ _
  have hs5 : SlAt w5 w5.heap.size (.slice (some ⟨y5, 0, none⟩) 1 1) 3 1 (itL [x]) := SlAt.cells (n := 1) (sz := 3) hC5 rfl (by unfold maxLen; omega)
  have CS5 := Lib.hid (small18 (.slice (some ⟨y5, 0, none⟩) 1 1) (.slice none 0 0) ⟨0, 0, 0, 0, 0, 0, 0, [], [], [x], false⟩ Rp.zero w5 ⟨hs5, by simpa using HXL.out, by unfold maxLen; simp, by unfold maxLen; simp, small_wide (by rfl)⟩ (rpIn_zero w5))
  rw [HVR.out] at CS5
  unfold Cm.val at CS5
  dsimp only at CS5
  have HZ5 := Lib.hid (HZ4.out.only o5 (by simp))
  have HX5 := Lib.hid (HX4.out.only o5 (by simp))
  have HO5 := Lib.hid (HO4.out.tr o5)
  clear o5 hC5 hs5 HZ4 HX4 HO4
  go_wp2_with fail
  refine CS5.out.mono ?_
  rintro e w6 ⟨on, rfl, hon, ho6⟩
  dsimp only
  have HZ6 := Lib.hid (HZ5.out.only ho6 (by simp))
  have HX6 := Lib.hid (HX5.out.only ho6 (by simp))
  have HO6 := Lib.hid (HO5.out.tr ho6)
  have HON := Lib.hid hon
  clear CS5 HO5 HZ5 HX5 ho6 hon x0 x1 x2 hw5 hy5
  cases ok with
  | false =>
    go_wp2_with fail
    go_ret
    exact ⟨rfl, HO6.out⟩
  | true =>
  cases on with
  | false =>
    go_wp2_with fail
    go_ret
    exact ⟨rfl, HO6.out⟩
  | true =>
  have HSM := Lib.hid (HOK.out rfl)
  have HTO := Lib.hid ((HON.out rfl).its x (by simp))
  clear HOK HON
  obtain ⟨w7, hw7⟩ : ∃ u, (w6.setCell ⟨z1, 0, none⟩ (.int .i64 8)).setCell ⟨z1, 10, none⟩ (.bool false) = u := ⟨_, rfl⟩
  have ow : Only [z1] w6 w7 := hw7 ▸ ((Only.refl _ _).setCell (.inl (by simp)) _).setCell (.inl (by simp)) _
  have hz7 : Cells w7 z1 65 [.int .i64 8, .int .i64 c.ss, .int .i64 c.sq, .int .i64 c.sh, .int .i64 c.nd, .int .i64 c.ep, .int .i64 c.n, .string ⟨c.fd.toArray⟩, .string ⟨c.id.toArray⟩, .slice IA c.its.length ic, .bool false] := hw7 ▸ (HZ6.out.set 0 _).set 10 _
  have hx7 := HX6.out.only ow (by simp; omega)
  have ho7 : Only [] W w7 := HO6.out.trans ow (by intro q hq; simp at hq; exact .inr (by omega))
  have f0 := HZ6.out.frozen 0
  have f10 := HZ6.out.frozen 10
  obtain ⟨c0, c1, c2, c3, c4, c5, c6, c7, c8, c9, c10⟩ := cm_cells HZ6.out
  have zl := HZ6.out.lt
  have hri : rightB c.ing = rightB c.ing := rfl
  have hat : ∀ w', Only [] W w' → CmAt w' (.slice IA c.its.length ic) c.ing := fun w' ho => (H.out.only ho).of' rfl H.out.fd H.out.id (by
    intro y hy
    have hn := H.out.nums
    simp only [Cm.ing, List.mem_cons, List.not_mem_nil, or_false] at hy hn
    rcases hy with rfl | hy
    · exact ⟨by omega, by omega⟩
    · exact hn y (.inr hy))
  have HAT := Lib.hid hat
  have CR := Lib.hid (cmd_right c.ing (.slice IA c.its.length ic) w7 (hat w7 ho7))
  have HZ7 := Lib.hid hz7
  have HX7 := Lib.hid hx7
  have HO7 := Lib.hid ho7
  unfold Cm.val Cm.ing at CR
  dsimp only at CR
  obtain ⟨rb, hrb⟩ : ∃ b, rightB c.ing = b := ⟨_, rfl⟩
  have HRB := Lib.hid hrb
  have hrb2 : rightB ⟨8, c.ss, c.sq, c.sh, c.nd, c.ep, c.n, c.fd, c.id, c.its, false⟩ = rb := hrb
  rw [hrb2] at CR
  have g0 := HZ7.out.cell (k := 0) rfl
  have g1 := HZ7.out.cell (k := 1) rfl
  have g2 := HZ7.out.cell (k := 2) rfl
  have g3 := HZ7.out.cell (k := 3) rfl
  have g4 := HZ7.out.cell (k := 4) rfl
  have g5 := HZ7.out.cell (k := 5) rfl
  have g6 := HZ7.out.cell (k := 6) rfl
  have g7 := HZ7.out.cell (k := 7) rfl
  have g8 := HZ7.out.cell (k := 8) rfl
  have g9 := HZ7.out.cell (k := 9) rfl
  have g10 := HZ7.out.cell (k := 10) rfl
  clear hat hrb hrb2 hri hz7 hx7 ho7 ow HZ6 HX6 HO6
  go_wp2_with fail
  refine CR.out.mono ?_
  rintro e w8 ⟨rfl, ho8⟩
  dsimp only
  have HZ8 := Lib.hid (HZ7.out.only ho8 (by simp))
  have HX8 := Lib.hid (HX7.out.only ho8 (by simp))
  have HO8 := Lib.hid (HO7.out.tr ho8)
  clear CR HZ7 HX7 HO7 ho8 hw7 f0 f10 zl c0 c1 c2 c3 c4 c5 c6 c7 c8 c9 c10 g0 g1 g2 g3 g4 g5 g6 g7 g8 g9 g10
  cases rb with
  | false =>
    go_wp2_with fail
    go_ret
    exact ⟨rfl, HO8.out⟩
  | true =>
  have g0 := HZ8.out.cell (k := 0) rfl
  have g1 := HZ8.out.cell (k := 1) rfl
  have g2 := HZ8.out.cell (k := 2) rfl
  have g3 := HZ8.out.cell (k := 3) rfl
  have g4 := HZ8.out.cell (k := 4) rfl
  have g5 := HZ8.out.cell (k := 5) rfl
  have g6 := HZ8.out.cell (k := 6) rfl
  have g7 := HZ8.out.cell (k := 7) rfl
  have g8 := HZ8.out.cell (k := 8) rfl
  have g9 := HZ8.out.cell (k := 9) rfl
  have g10 := HZ8.out.cell (k := 10) rfl
  have zl := HZ8.out.lt
  go_upto_region 12 with fail
  obtain ⟨w9, hw9⟩ : ∃ u, w8.alloc (.cells #[.int .i64 8, .int .i64 c.ss, .int .i64 c.sq, .int .i64 c.sh, .int .i64 c.nd, .int .i64 c.ep, .int .i64 c.n, .string ⟨c.fd.toArray⟩, .string ⟨c.id.toArray⟩, .slice IA c.its.length ic, .bool false] 65) = u := ⟨_, rfl⟩
  obtain ⟨y9, hy9⟩ : ∃ u, w8.heap.size = u := ⟨_, rfl⟩
  have o9 : Only [] w8 w9 := hw9 ▸ (Only.refl _ _).alloc _
  have hM9 : Cells w9 y9 65 [.int .i64 8, .int .i64 c.ss, .int .i64 c.sq, .int .i64 c.sh, .int .i64 c.nd, .int .i64 c.ep, .int .i64 c.n, .string ⟨c.fd.toArray⟩, .string ⟨c.id.toArray⟩, .slice IA c.its.length ic, .bool false] := hw9 ▸ hy9 ▸ Cells.new w8 _ _
  have HM9 := Lib.hid hM9
  have hzy : z2 < y9 := by have := HX8.out.lt; omega
  have hWy : W.heap.size ≤ y9 := by have := HO8.out.size; omega
  have HZ9 := Lib.hid (HZ8.out.only o9 (by simp))
  have HX9 := Lib.hid (HX8.out.only o9 (by simp))
  have HO9 := Lib.hid (HO8.out.tr o9)
  rw [hw9, hy9]
  clear o9 hM9 hw9 hy9 HZ8 HX8 HO8 g0 g1 g2 g3 g4 g5 g6 g7 g8 g9 g10 zl
  obtain ⟨i0, hi0, hi1, hi2, hi3⟩ := info_parts info_item
  obtain ⟨N, hN⟩ : ∃ N, c.its.length = N := ⟨_, rfl⟩
  have HN := Lib.hid hN
  have HNB : Hid (N ≤ 120) := Lib.hid (by rw [← hN]; exact HSM.out.n)
  have hz2w := HX9.out.lt
  have HSrc := Lib.hid (src_items (H.out.only HO9.out).its HNIL.out)
  rw [HN.out] at HSrc HNIL
  rw [hN] at HM9 HZ9 HAT ⊢
  have t0 := fun u : Since w9 => u.cell (HZ9.out.cell (k := 9) rfl)
  have x0 := fun u : Since w9 => u.cell (HX9.out.cell (k := 0) rfl)
  have x1 := fun u : Since w9 => u.cell (HX9.out.cell (k := 1) rfl)
  have x2 := fun u : Since w9 => u.cell (HX9.out.cell (k := 2) rfl)
  clear hN
  refine wp_region_pendN w9 (Only.refl _ _) [(39, OwW w9.heap.size 36 3 0 []), (42, OwW w9.heap.size 36 3 N (itL c.its)), (44, OwW w9.heap.size 36 3 1 x.cells), (45, OwW w9.heap.size 36 3 (N + 1) (itL c.its ++ x.cells))] [(42, 39), (45, 42)] 8 (by intro p hp; simp at hp; rcases hp with rfl | rfl | rfl | rfl <;> exact OwW.lasts _ _ _ _ _) (by kernel_rfl) (by kernel_rfl) (by decide) (fun val => ?_)
  simp only [List.take_succ_cons, List.take_zero, List.drop_succ_cons, List.drop_zero]
  refine fit_litO 39 36 3 [] 0 rfl rfl (by simp) (by simp) rfl (by decide) (fun w5 => by go_simp) rfl ?_
  simp only [Act.put, List.setIfInBounds_toArray, List.set_cons_zero, List.set_cons_succ]
  refine fit_segN 2 (by kernel_rfl) ?_
  simp only [List.take_succ_cons, List.take_zero, List.drop_succ_cons, List.drop_zero]
  repeat (go_big_quiet_step (fail))
  refine wpQuiet_nil ?_
  refine fit_append 42 39 (.tmp 41) 31 36 i0 (.agg #[.string ⟨#[]⟩, .string ⟨#[]⟩, .string ⟨#[]⟩]) 3 48 Try.underlying31 hi0 hi1 hi2 hi3 rfl (by decide) 0 N N [] (itL c.its) (itL c.its) (by omega) rfl rfl rfl rfl (by simp) (by simp) (by simp) (by decide) rfl rfl (fun w5 hw5 => HSrc.out.only hw5.1) (by have := HNB.out; unfold maxLen; omega) (by have := HNB.out; omega) rfl ?_
  simp only [Act.put, List.setIfInBounds_toArray, List.set_cons_zero, List.set_cons_succ]
  refine fit_segN 1 (by kernel_rfl) ?_
  simp only [List.take_succ_cons, List.take_zero, List.drop_succ_cons, List.drop_zero]
  repeat (go_big_quiet_step (fail))
  refine wpQuiet_nil ?_
  refine fit_litO 44 36 3 x.cells 1 rfl rfl (by simp) (by simp) rfl (by decide) (fun w5 => by unfold It.cells; go_simp) rfl ?_
  simp only [Act.put, List.setIfInBounds_toArray, List.set_cons_zero, List.set_cons_succ]
  refine fit_append 45 42 (.tmp 44) 31 36 i0 (.agg #[.string ⟨#[]⟩, .string ⟨#[]⟩, .string ⟨#[]⟩]) 3 48 Try.underlying31 hi0 hi1 hi2 hi3 rfl (by decide) N 1 (N + 1) (itL c.its) x.cells (itL c.its ++ x.cells) (by omega) rfl rfl rfl rfl (by simp) (by simp) (by simp) (by decide) rfl rfl (fun w5 hw5 => SrcA.own (hw5.2 (44, OwW w9.heap.size 36 3 1 x.cells) (by simp) (by show 44 ∈ Oper.looksAt _ _; decide)) (by simp [It.cells, Value.oneCell'])) (by have := HNB.out; unfold maxLen; omega) (by have := HNB.out; omega) rfl ?_
  simp only [Act.put, List.setIfInBounds_toArray, List.set_cons_zero, List.set_cons_succ]
  refine fit_segN 1 (by kernel_rfl) ?_
  simp only [List.take_succ_cons, List.take_zero, List.drop_succ_cons, List.drop_zero]
  repeat (go_big_quiet_step (fail))
  refine wpQuiet_nil ?_
  intro w10 ho10 hV10
  have hown := hV10 (by decide) (45, OwW w9.heap.size 36 3 (N + 1) (itL c.its ++ x.cells)) (by simp) (by simp)
  obtain ⟨u, hu⟩ : ∃ u, val 45 = u := ⟨_, rfl⟩
  have hown : w10.ownsRow w9.heap.size 36 3 u (N + 1) (itL c.its ++ x.cells) := hu ▸ hown
  rw [hu]
  obtain ⟨A5, c5, rfl⟩ := (SlAt.of_own hown).shape
  have HM9lt := Lib.hid HM9.out.lt
  have hM10 := HM9.out.only ho10 (by simp)
  have HZ10 := Lib.hid (HZ9.out.only ho10 (by simp))
  have HX10 := Lib.hid (HX9.out.only ho10 (by simp))
  have HO10 := Lib.hid (HO9.out.tr ho10)
  have HOWN := Lib.hid hown
  have m0 := hM10.frozen 9
  have m1 := hM10.cell (k := 9) rfl
  have ml := hM10.lt
  have HM10 := Lib.hid hM10
  clear t0 x0 x1 x2 HM9 HZ9 HX9 HO9 HSrc hV10 hown hu hM10
  go_upto_region 13 with fail
  obtain ⟨w11, hw11⟩ : ∃ u, w10.setCell ⟨y9, 9, none⟩ (.slice A5 (N + 1) c5) = u := ⟨_, rfl⟩
  have ow : Only [y9] w10 w11 := hw11 ▸ (Only.refl _ _).setCell (.inl (by simp)) _
  have hMb : Cells w11 y9 65 [.int .i64 8, .int .i64 c.ss, .int .i64 c.sq, .int .i64 c.sh, .int .i64 c.nd, .int .i64 c.ep, .int .i64 c.n, .string ⟨c.fd.toArray⟩, .string ⟨c.id.toArray⟩, .slice A5 (N + 1) c5, .bool false] := hw11 ▸ HM10.out.set 9 _
  have HM11 := Lib.hid hMb
  have HZ11 := Lib.hid (HZ10.out.only ow (by simp; omega))
  have hX11 := HX10.out.only ow (by simp; omega)
  have HX11 := Lib.hid hX11
  have HO11 := Lib.hid (HO10.out.trans ow (by intro q hq; simp at hq; exact .inr (by omega)))
  have HOWN11 := Lib.hid (SlAt.of_own (own_keep HOWN.out ow (by intro q hq e; simp at hq; subst hq; have h1 := (HOWN.out.lt _ e).1; have h2 := HM9lt.out; omega)))
  have x0 := hX11.cell (k := 0) rfl
  have x1 := hX11.cell (k := 1) rfl
  have x2 := hX11.cell (k := 2) rfl
  rw [hw11]
  clear HM10 HZ10 HX10 HO10 HOWN ow hMb hX11 m0 m1 ml hw11
  obtain ⟨w12, hw12⟩ : ∃ u, w11.alloc (.cells #[.string ⟨x.id.toArray⟩, .string ⟨x.ti.toArray⟩, .string ⟨x.li.toArray⟩] 36) = u := ⟨_, rfl⟩
  obtain ⟨y12, hy12⟩ : ∃ u, w11.heap.size = u := ⟨_, rfl⟩
  have o12 : Only [] w11 w12 := hw12 ▸ (Only.refl _ _).alloc _
  have hI12 : Cells w12 y12 36 (itL [x]) := hw12 ▸ hy12 ▸ Cells.new w11 _ _
  have HO12 := Lib.hid o12
  have HI12 := Lib.hid hI12
  clear o12 hI12
  go_upto_region 14 with fail
  obtain ⟨w13, hw13⟩ : ∃ u, w12.alloc (.cells #[.int .i64 8, .int .i64 0, .int .i64 0, .int .i64 0, .int .i64 0, .int .i64 0, .int .i64 0, .string ⟨#[]⟩, .string ⟨#[]⟩, .slice (some ⟨y12, 0, none⟩) 1 1, .bool false] 65) = u := ⟨_, rfl⟩
  obtain ⟨y13, hy13⟩ : ∃ u, w12.heap.size = u := ⟨_, rfl⟩
  have o12 := HO12.out
  have hI12 := HI12.out
  have o13 : Only [] w12 w13 := hw13 ▸ (Only.refl _ _).alloc _
  have hN13 : Cells w13 y13 65 [.int .i64 8, .int .i64 0, .int .i64 0, .int .i64 0, .int .i64 0, .int .i64 0, .int .i64 0, .string ⟨#[]⟩, .string ⟨#[]⟩, .slice (some ⟨y12, 0, none⟩) 1 1, .bool false] := hw13 ▸ hy13 ▸ Cells.new w12 _ _
  have HS13 : Hid (SlAt w13 w13.heap.size (.slice (some ⟨y12, 0, none⟩) 1 1) 3 1 (itL [x])) := Lib.hid (SlAt.cells (n := 1) (sz := 3) (hI12.only o13 (by simp)) rfl (by unfold maxLen; omega))
  have HN13 := Lib.hid hN13
  have HZ13 := Lib.hid ((HZ11.out.only o12 (by simp)).only o13 (by simp))
  have HM13 := Lib.hid ((HM11.out.only o12 (by simp)).only o13 (by simp))
  have HO13 := Lib.hid ((HO11.out.tr o12).tr o13)
  have HW13 := Lib.hid (((HOWN11.out.only o12 (Nat.le_refl _) (by simp)).only o13 o12.size (by simp)).more (Nat.le_trans o12.size o13.size))
  rw [hw13, hy13]
  clear o12 o13 hI12 hN13 HM11 HZ11 HX11 HO11 HOWN11 HO12 HI12 hw13 hy13
  clear x0 x1 x2 hw12 hy12 ho10 hown HM9lt
  have hlM : Hid (∀ y ∈ c.its ++ [x], y.Len) := Lib.hid (by
    intro y hy
    rcases List.mem_append.1 hy with hy | hy
    · exact H.out.len y hy
    · obtain rfl := List.mem_singleton.1 hy; exact HXL.out)
  have hnums : Hid (∀ y ∈ [(8 : Int), c.ss, c.sq, c.sh, c.nd, c.ep, c.n], Wide64 y) := Lib.hid (HAT.out w13 HO13.out).nums
  have D1 : Hid (∀ u : Since w13, Calls Try.prog 33 #[.agg #[.int .i64 8, .int .i64 c.ss, .int .i64 c.sq, .int .i64 c.sh, .int .i64 c.nd, .int .i64 c.ep, .int .i64 c.n, .string ⟨c.fd.toArray⟩, .string ⟨c.id.toArray⟩, .slice A5 (N + 1) c5, .bool false]] u.w fun e w' => e = .returned (.bool (itR x && decide (c.its.length < 100))) ∧ Only [] u.w w') := Lib.hid (fun u => by
    have hc : CmAt u.w (.slice A5 (N + 1) c5) (c.more x) := ⟨by
      have e1 : (c.more x).its.length = N + 1 := by simp [Cm.more, HN.out]
      have e2 : itL (c.more x).its = itL c.its ++ x.cells := by show itL (c.its ++ [x]) = _; unfold itL; rw [List.flatMap_append]; simp
      rw [e1, e2]
      exact (HW13.out.only u.h (Nat.le_refl _) (by simp)).more u.h.size, hlM.out, H.out.fd, H.out.id, hnums.out⟩
    have := cmd_right (c.more x) (.slice A5 (N + 1) c5) u.w hc
    rw [right_more c x HRB.out] at this
    exact this)
  have D2 : Hid (∀ u : Since w13, Calls Try.prog 33 #[.agg #[.int .i64 8, .int .i64 0, .int .i64 0, .int .i64 0, .int .i64 0, .int .i64 0, .int .i64 0, .string ⟨#[]⟩, .string ⟨#[]⟩, .slice (some ⟨y12, 0, none⟩) 1 1, .bool false]] u.w fun e w' => e = .returned (.bool (itR x)) ∧ Only [] u.w w') := Lib.hid (fun u => by
    have hc : CmAt u.w (.slice (some ⟨y12, 0, none⟩) 1 1) (Cm.one x) := ⟨(HS13.out.only u.h (Nat.le_refl _) (by simp)).more u.h.size, by intro y hy; obtain rfl := List.mem_singleton.1 hy; exact HXL.out, by unfold maxLen; simp [Cm.one], by unfold maxLen; simp [Cm.one], small_wide (by rfl)⟩
    have := cmd_right (Cm.one x) (.slice (some ⟨y12, 0, none⟩) 1 1) u.w hc
    rw [right_one x] at this
    exact this)
  have t0 := fun u : Since w13 => u.cell (HM13.out.cell (k := 0) rfl)
  have t1 := fun u : Since w13 => u.cell (HM13.out.cell (k := 1) rfl)
  have t2 := fun u : Since w13 => u.cell (HM13.out.cell (k := 2) rfl)
  have t3 := fun u : Since w13 => u.cell (HM13.out.cell (k := 3) rfl)
  have t4 := fun u : Since w13 => u.cell (HM13.out.cell (k := 4) rfl)
  have t5 := fun u : Since w13 => u.cell (HM13.out.cell (k := 5) rfl)
  have t6 := fun u : Since w13 => u.cell (HM13.out.cell (k := 6) rfl)
  have t7 := fun u : Since w13 => u.cell (HM13.out.cell (k := 7) rfl)
  have t8 := fun u : Since w13 => u.cell (HM13.out.cell (k := 8) rfl)
  have t9 := fun u : Since w13 => u.cell (HM13.out.cell (k := 9) rfl)
  have t10 := fun u : Since w13 => u.cell (HM13.out.cell (k := 10) rfl)
  have s0 := fun u : Since w13 => u.cell (HN13.out.cell (k := 0) rfl)
  have s1 := fun u : Since w13 => u.cell (HN13.out.cell (k := 1) rfl)
  have s2 := fun u : Since w13 => u.cell (HN13.out.cell (k := 2) rfl)
  have s3 := fun u : Since w13 => u.cell (HN13.out.cell (k := 3) rfl)
  have s4 := fun u : Since w13 => u.cell (HN13.out.cell (k := 4) rfl)
  have s5 := fun u : Since w13 => u.cell (HN13.out.cell (k := 5) rfl)
  have s6 := fun u : Since w13 => u.cell (HN13.out.cell (k := 6) rfl)
  have s7 := fun u : Since w13 => u.cell (HN13.out.cell (k := 7) rfl)
  have s8 := fun u : Since w13 => u.cell (HN13.out.cell (k := 8) rfl)
  have s9 := fun u : Since w13 => u.cell (HN13.out.cell (k := 9) rfl)
  have s10 := fun u : Since w13 => u.cell (HN13.out.cell (k := 10) rfl)
  have k9 := fun u : Since w13 => u.cell (HZ13.out.cell (k := 9) rfl)
  rw [HN.out] at D1
  have hd : decide ((N : Int) < 100) = decide (N < 100) := by
    by_cases h : N < 100
    · rw [decide_eq_true h, decide_eq_true (by omega : (N : Int) < 100)]
    · rw [decide_eq_false h, decide_eq_false (by omega : ¬ (N : Int) < 100)]
  obtain ⟨bx, hbx⟩ : ∃ b, itR x = b := ⟨_, rfl⟩
  obtain ⟨bn, hbn⟩ : ∃ b, decide (N < 100) = b := ⟨_, rfl⟩
  rw [hbx, hbn] at D1
  rw [hbx] at D2
  rw [hbn] at hd
  clear hbx hbn
  have fin : Hid (∀ w14, Only [] w13 w14 → True) := Lib.hid (fun _ _ => trivial)
  cases bx
  all_goals
    simp only [Bool.true_and, Bool.false_and] at D1
    refine wp_region_only w13 (Only.refl _ _) (by kernel_rfl) (by kernel_rfl) ?_
    repeat (go_big_quiet_step (first
      | (go_at_call 33; with_reducible refine Calls.only (D1.out _))
      | (go_at_call 33; with_reducible refine Calls.only (D2.out _))))
    refine wpQuiet_nil ?_
    rintro ⟨w14, ho14⟩
    dsimp only
    have HZ14 := Lib.hid (HZ13.out.only ho14 (by simp))
    have HO14 := Lib.hid (HO13.out.tr ho14)
    clear t0 t1 t2 t3 t4 t5 t6 t7 t8 t9 t10 s0 s1 s2 s3 s4 s5 s6 s7 s8 s9 s10 k9 D1 D2 HZ13 HM13 HN13 HS13 HW13 HO13 ho14
    by_cases hN0 : N = 0
    · have e0 : ((N : Int) == 0) = true := by simp [hN0]
      have k9 := HZ14.out.cell (k := 9) rfl
      go_wp2_with fail
      go_ret
      exact ⟨rfl, HO14.out⟩
    · have e0 : ((N : Int) == 0) = false := by simp [hN0]
      have c0 := HZ14.out.cell (k := 0) rfl
      have c1 := HZ14.out.cell (k := 1) rfl
      have c2 := HZ14.out.cell (k := 2) rfl
      have c3 := HZ14.out.cell (k := 3) rfl
      have c4 := HZ14.out.cell (k := 4) rfl
      have c5 := HZ14.out.cell (k := 5) rfl
      have c6 := HZ14.out.cell (k := 6) rfl
      have c7 := HZ14.out.cell (k := 7) rfl
      have c8 := HZ14.out.cell (k := 8) rfl
      have c9 := HZ14.out.cell (k := 9) rfl
      have c10 := HZ14.out.cell (k := 10) rfl
      have hNp : 1 ≤ N := by omega
      have hNc : N ≤ ic ∧ ic ≤ maxLen := by
        obtain ⟨_, A', cc, hv', hnc, hcm, _⟩ := H.out.its
        injection hv' with _ _ e3
        have := HN.out
        omega
      obtain ⟨hNc, hcm⟩ := hNc
      obtain ⟨ib, io, ic', hv, hib, hcs⟩ := H.out.its.at_ (by have := HN.out; omega)
      injection hv with e1 e2 e3
      subst e1
      subst e3
      have HCS := Lib.hid hcs
      clear e2 hcs
      go_upto_region 19 with fail
      obtain ⟨w15, hw15⟩ : ∃ u, w14.alloc (.cells #[.int .i64 8, .int .i64 c.ss, .int .i64 c.sq, .int .i64 c.sh, .int .i64 c.nd, .int .i64 c.ep, .int .i64 c.n, .string ⟨c.fd.toArray⟩, .string ⟨c.id.toArray⟩, .slice (some ⟨ib, io, none⟩) N ic, .bool false] 65) = u := ⟨_, rfl⟩
      obtain ⟨y15, hy15⟩ : ∃ u, w14.heap.size = u := ⟨_, rfl⟩
      have o15 : Only [] w14 w15 := hw15 ▸ (Only.refl _ _).alloc _
      have hN15 : Cells w15 y15 65 [.int .i64 8, .int .i64 c.ss, .int .i64 c.sq, .int .i64 c.sh, .int .i64 c.nd, .int .i64 c.ep, .int .i64 c.n, .string ⟨c.fd.toArray⟩, .string ⟨c.id.toArray⟩, .slice (some ⟨ib, io, none⟩) N ic, .bool false] := hw15 ▸ hy15 ▸ Cells.new w14 _ _
      have HZ15 := Lib.hid (HZ14.out.only o15 (by simp))
      have HO15 := Lib.hid (HO14.out.tr o15)
      rw [hw15, hy15]
      have k9 := HZ15.out.cell (k := 9) rfl
      have q9 := hN15.cell (k := 9) rfl
      have f9 := hN15.frozen 9
      have ql := hN15.lt
      have hWy15 : W.heap.size ≤ y15 := by have := HO14.out.size; omega
      have HN15 := Lib.hid hN15
      clear c0 c1 c2 c3 c4 c5 c6 c7 c8 c9 c10 hN15 o15 hw15 hy15 HZ14 HO14
      go_upto_region 20 with fail
      obtain ⟨A9, hA9⟩ : ∃ a, (if ic = 1 then some (⟨ib, io, none⟩ : Addr) else some ⟨ib, io + 3, none⟩) = a := ⟨_, rfl⟩
      rw [hA9]
      obtain ⟨w16, hw16⟩ : ∃ u, w15.setCell ⟨y15, 9, none⟩ (.slice A9 (N - 1) (ic - 1)) = u := ⟨_, rfl⟩
      have ow : Only [y15] w15 w16 := hw16 ▸ (Only.refl _ _).setCell (.inl (by simp)) _
      have hL : Cells w16 y15 65 [.int .i64 8, .int .i64 c.ss, .int .i64 c.sq, .int .i64 c.sh, .int .i64 c.nd, .int .i64 c.ep, .int .i64 c.n, .string ⟨c.fd.toArray⟩, .string ⟨c.id.toArray⟩, .slice A9 (N - 1) (ic - 1), .bool false] := hw16 ▸ HN15.out.set 9 _
      have ho16 : Only [] W w16 := HO15.out.trans ow (by intro q hq; simp at hq; exact .inr (by omega))
      have hl9 : itL (c.its.drop 1) = (itL c.its).drop 3 := by
        cases hc : c.its with
        | nil => rfl
        | cons a r => rfl
      have hsl : SlAt W W.heap.size (.slice A9 (N - 1) (ic - 1)) 3 (N - 1) (itL (c.its.drop 1)) := by
        refine ⟨?_, A9, ic - 1, rfl, by omega, by omega, fun hp => ⟨ib, io + 3, ?_, hib, fun k u hu => ?_⟩⟩
        · have := flat_length It.cells 3 (fun _ => rfl) (c.its.drop 1)
          rw [List.length_drop, HN.out] at this
          exact this
        · rw [← hA9, if_neg (by omega)]
        · rw [hl9, List.getElem?_drop] at hu
          have := HCS.out (3 + k) u hu
          rw [← Nat.add_assoc] at this
          exact this
      have CL := cmd_right c.less (.slice A9 (N - 1) (ic - 1)) w16 ⟨by
        have e1 : c.less.its.length = N - 1 := by simp [Cm.less, HN.out]
        rw [e1]
        exact (hsl.only ho16 (Nat.le_refl _) (by simp)).more ho16.size, fun y hy => H.out.len y (List.mem_of_mem_drop hy), H.out.fd, H.out.id, hnums.out⟩
      rw [right_less c HRB.out] at CL
      have CL : Calls Try.prog 33 #[.agg #[.int .i64 8, .int .i64 c.ss, .int .i64 c.sq, .int .i64 c.sh, .int .i64 c.nd, .int .i64 c.ep, .int .i64 c.n, .string ⟨c.fd.toArray⟩, .string ⟨c.id.toArray⟩, .slice A9 (N - 1) (ic - 1), .bool false]] w16 fun e w' => e = .returned (.bool true) ∧ Only [] w16 w' := CL
      have CL := Lib.hid CL
      have HO16 := Lib.hid ho16
      rw [hw16]
      have q0 := hL.cell (k := 0) rfl
      have q1 := hL.cell (k := 1) rfl
      have q2 := hL.cell (k := 2) rfl
      have q3 := hL.cell (k := 3) rfl
      have q4 := hL.cell (k := 4) rfl
      have q5 := hL.cell (k := 5) rfl
      have q6 := hL.cell (k := 6) rfl
      have q7 := hL.cell (k := 7) rfl
      have q8 := hL.cell (k := 8) rfl
      have q9' := hL.cell (k := 9) rfl
      have q10 := hL.cell (k := 10) rfl
      clear hw16 ow hL ho16 hsl HN15 HZ15 HO15 k9 q9 f9 ql hA9
      go_wp2_with fail
      refine CL.out.mono ?_
      rintro e w17 ⟨rfl, ho17⟩
      have HOF := Lib.hid (HO16.out.tr ho17)
      clear q0 q1 q2 q3 q4 q5 q6 q7 q8 q9' q10 ho17 HO16 CL
      go_wp2_with fail
      go_ret
      exact ⟨rfl, HOF.out⟩
end Go.Proofs.Ytjfnkjpnjiobjaa
