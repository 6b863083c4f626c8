/-
  The walk over CommandBare. (Printed by gen_bare18.py.)
-/
import Derived.Test.YtjfnkjpnjiobjaaC18ad
namespace Go.Proofs.Ytjfnkjpnjiobjaa
open Go.RowKit
theorem CmAt.of {w : World} {iv : Value} {c d : Cm} (h : CmAt w iv c) (hi : d.its = c.its) (hf : d.fd.length ≤ maxLen) (hd : d.id.length ≤ maxLen) (hn : ∀ x ∈ [d.kd, d.ss, d.sq, d.sh, d.nd, d.ep, d.n], Wide64 x) : CmAt w iv d := ⟨hi ▸ h.its, hi ▸ h.len, hf, hd, hn⟩
set_option maxRecDepth 100000 in
set_option maxHeartbeats 8000000 in
theorem commandBare_walk (W : World) (v0 : Value) (c : Cm) (s0 : ∃ iv, v0 = c.val iv ∧ CmAt W iv c) (_ : True) (n_ : Int) (wn : (Lit.int .i64 n_).wf = true) :
    Calls Try.prog 10 #[v0, .int .i64 n_] W fun e W' => e = .returned (.bool true) ∧ Only [] W W' := by
  have wn := wide64_of_wf wn
  obtain ⟨iv, rfl, h⟩ := s0
  obtain ⟨IA, ic, rfl⟩ := h.its.shape
  obtain ⟨w1, hw1⟩ : ∃ w1, W.alloc (.cells #[.int .i64 c.kd, .int .i64 c.ss, .int .i64 c.sq, .int .i64 c.sh, .int .i64 c.nd, .int .i64 c.ep, .int .i64 c.n, .string ⟨c.fd.toArray⟩, .string ⟨c.id.toArray⟩, .slice IA c.its.length ic, .bool c.fl] 65) = w1 := ⟨_, rfl⟩
  obtain ⟨z1, hz1⟩ : ∃ z, W.heap.size = z := ⟨_, rfl⟩
  have O1 : Only [] W w1 := hw1 ▸ (Only.refl _ _).alloc _
  have a1 : Cells w1 z1 65 (c.cells (.slice IA c.its.length ic)) := hw1 ▸ hz1 ▸ Cells.new W _ _
  have HZ1 := Lib.hid a1
  have HO := Lib.hid O1
  have H := Lib.hid h
  have C0 := Lib.hid (shown18 w1)
  have CS := Lib.hid (fun w' (ho : Only [] W w') => small18 _ _ c Rp.zero w' (h.only ho) (rpIn_zero w'))
  have CR := Lib.hid (fun w' (ho : Only [] W w') => cmd_right c _ w' (h.only ho))
  have CC := Lib.hid (fun w' => client_call c (.slice IA c.its.length ic) w')
  have CK := Lib.hid (fun w' => pick18 n_ 7 w' wn (by omega) (by omega))
  obtain ⟨p0, p1⟩ := pkI_lt n_ 7 (by omega)
  obtain ⟨p, hp⟩ : ∃ p, pkI n_ 7 = p := ⟨_, rfl⟩
  rw [hp] at CK p0 p1
  have HVC : Hid (c.val (.slice IA c.its.length ic) = .agg #[.int .i64 c.kd, .int .i64 c.ss, .int .i64 c.sq, .int .i64 c.sh, .int .i64 c.nd, .int .i64 c.ep, .int .i64 c.n, .string ⟨c.fd.toArray⟩, .string ⟨c.id.toArray⟩, .slice IA c.its.length ic, .bool c.fl]) := Lib.hid rfl
  have HVR : Hid (Rp.zero.val (.slice none 0 0) = .agg #[.int .i64 0, .int .i64 0, .slice none 0 0]) := Lib.hid rfl
  rw [HVC.out, HVR.out] at CS
  rw [HVC.out] at CR CC ⊢
  obtain ⟨rb, hrb⟩ : ∃ b, rightB c = b := ⟨_, rfl⟩
  rw [hrb] at CR
  have HRB := Lib.hid hrb
  clear h a1 O1 wn hp hrb
  go_enter Try.func10, Try.ntmps10
  go_wp2_with fail
  clear hw1 hz1
  refine C0.out.mono ?_
  rintro e w3 ⟨rfl, ho3⟩
  dsimp only
  have HZ3 := Lib.hid (HZ1.out.only ho3 (by simp))
  have HO3 := Lib.hid (HO.out.tr ho3)
  clear C0 HO HZ1 ho3
  obtain ⟨c0, c1, c2, c3, c4, c5, c6, c7, c8, c9, c10⟩ := cm_cells HZ3.out
  have CS3 := Lib.hid (CS.out w3 HO3.out)
  clear CS
  go_wp2_with fail
  refine CS3.out.mono ?_
  rintro e w4 ⟨ok, rfl, hok, ho4⟩
  dsimp only
  have HZ4 := Lib.hid (HZ3.out.only ho4 (by simp))
  have HO4 := Lib.hid (HO3.out.tr ho4)
  have CR4 := Lib.hid (CR.out w4 HO4.out)
  clear CS3 HO3 HZ3 ho4 hok c0 c1 c2 c3 c4 c5 c6 c7 c8 c9 c10 CR
  obtain ⟨c0, c1, c2, c3, c4, c5, c6, c7, c8, c9, c10⟩ := cm_cells HZ4.out
  go_wp2_with fail
  refine CR4.out.mono ?_
  rintro e w5 ⟨rfl, ho5⟩
  dsimp only
  have HZ5 := Lib.hid (HZ4.out.only ho5 (by simp))
  have HO5 := Lib.hid (HO4.out.tr ho5)
  clear CR4 HO4 HZ4 ho5 c0 c1 c2 c3 c4 c5 c6 c7 c8 c9 c10
  cases ok with
  | false =>
    go_wp2_with fail
    go_ret
    exact ⟨rfl, HO5.out⟩
  | true =>
  cases rb with
  | false =>
    go_wp2_with fail
    go_ret
    exact ⟨rfl, HO5.out⟩
  | true =>
  go_wp2_with fail
  refine (CK.out _).mono ?_
  rintro e w6 ⟨rfl, rfl⟩
  dsimp only
  obtain ⟨k, hk⟩ : ∃ k, 1 + p = k := ⟨_, rfl⟩
  have hk0 : 1 ≤ k ∧ k ≤ 7 := by omega
  obtain ⟨c0, c1, c2, c3, c4, c5, c6, c7, c8, c9, c10⟩ := cm_cells HZ5.out
  have hzl := HZ5.out.lt
  have hwk : IntKind.i64.wrap (1 + p) = k := by rw [IntKind.wrap_i64]; omega
  clear CK
  go_wp2_with fail
  refine (CC.out _).mono ?_
  rintro e w7 ⟨rfl, ho7⟩
  dsimp only
  have HZ7 := Lib.hid (HZ5.out.only ho7 (by simp))
  have HO7 := Lib.hid (HO5.out.tr ho7)
  clear CC HZ5 HO5 ho7 c0 c1 c2 c3 c4 c5 c6 c7 c8 c9 c10
  obtain ⟨c0, c1, c2, c3, c4, c5, c6, c7, c8, c9, c10⟩ := cm_cells HZ7.out
  have hzl7 := HZ7.out.lt
  go_upto_region 10 with fail
  clear c0 c1 c2 c3 c4 c5 c6 c7 c8 c9 c10
  obtain ⟨u0, hw0⟩ : ∃ u, w7.alloc (.cells #[.int .i64 c.kd, .int .i64 k, .int .i64 c.sq, .int .i64 c.sh, .int .i64 c.nd, .int .i64 c.ep, .int .i64 c.n, .string ⟨c.fd.toArray⟩, .string ⟨c.id.toArray⟩, .slice IA c.its.length ic, .bool c.fl] 65) = u := ⟨_, rfl⟩
  obtain ⟨b0, hb0⟩ : ∃ b, w7.heap.size = b := ⟨_, rfl⟩
  have oa : Only [] w7 u0 := hw0 ▸ (Only.refl _ _).alloc _
  have hB : Cells u0 b0 65 [.int .i64 c.kd, .int .i64 k, .int .i64 c.sq, .int .i64 c.sh, .int .i64 c.nd, .int .i64 c.ep, .int .i64 c.n, .string ⟨c.fd.toArray⟩, .string ⟨c.id.toArray⟩, .slice IA c.its.length ic, .bool c.fl] := hw0 ▸ hb0 ▸ Cells.new w7 _ _
  have HBX0 := Lib.hid hB
  have HZ8_0 := Lib.hid (HZ7.out.only oa (by simp))
  have HO8_0 := Lib.hid (HO7.out.tr oa)
  rw [hw0, hb0]
  clear oa hB hw0 hb0 HZ7 HO7
  obtain ⟨c0, c1, c2, c3, c4, c5, c6, c7, c8, c9, c10⟩ := cm_cells HZ8_0.out
  have hzl8_0 := HZ8_0.out.lt
  go_upto_region 12 with fail
  clear c0 c1 c2 c3 c4 c5 c6 c7 c8 c9 c10
  obtain ⟨u1, hw1⟩ : ∃ u, u0.alloc (.cells #[.int .i64 c.kd, .int .i64 c.ss, .int .i64 c.sq, .int .i64 c.sh, .int .i64 c.nd, .int .i64 k, .int .i64 c.n, .string ⟨c.fd.toArray⟩, .string ⟨c.id.toArray⟩, .slice IA c.its.length ic, .bool c.fl] 65) = u := ⟨_, rfl⟩
  obtain ⟨b1, hb1⟩ : ∃ b, u0.heap.size = b := ⟨_, rfl⟩
  have oa : Only [] u0 u1 := hw1 ▸ (Only.refl _ _).alloc _
  have hB : Cells u1 b1 65 [.int .i64 c.kd, .int .i64 c.ss, .int .i64 c.sq, .int .i64 c.sh, .int .i64 c.nd, .int .i64 k, .int .i64 c.n, .string ⟨c.fd.toArray⟩, .string ⟨c.id.toArray⟩, .slice IA c.its.length ic, .bool c.fl] := hw1 ▸ hb1 ▸ Cells.new u0 _ _
  have HBX1 := Lib.hid hB
  replace HBX0 := Lib.hid (HBX0.out.only oa (by simp))
  have HZ8_1 := Lib.hid (HZ8_0.out.only oa (by simp))
  have HO8_1 := Lib.hid (HO8_0.out.tr oa)
  rw [hw1, hb1]
  clear oa hB hw1 hb1 HZ8_0 HO8_0
  obtain ⟨c0, c1, c2, c3, c4, c5, c6, c7, c8, c9, c10⟩ := cm_cells HZ8_1.out
  have hzl8_1 := HZ8_1.out.lt
  go_upto_region 14 with fail
  clear c0 c1 c2 c3 c4 c5 c6 c7 c8 c9 c10
  obtain ⟨u2, hw2⟩ : ∃ u, u1.alloc (.cells #[.int .i64 c.kd, .int .i64 c.ss, .int .i64 c.sq, .int .i64 c.sh, .int .i64 c.nd, .int .i64 c.ep, .int .i64 c.n, .string ⟨c.fd.toArray⟩, .string ⟨c.id.toArray⟩, .slice IA c.its.length ic, .bool true] 65) = u := ⟨_, rfl⟩
  obtain ⟨b2, hb2⟩ : ∃ b, u1.heap.size = b := ⟨_, rfl⟩
  have oa : Only [] u1 u2 := hw2 ▸ (Only.refl _ _).alloc _
  have hB : Cells u2 b2 65 [.int .i64 c.kd, .int .i64 c.ss, .int .i64 c.sq, .int .i64 c.sh, .int .i64 c.nd, .int .i64 c.ep, .int .i64 c.n, .string ⟨c.fd.toArray⟩, .string ⟨c.id.toArray⟩, .slice IA c.its.length ic, .bool true] := hw2 ▸ hb2 ▸ Cells.new u1 _ _
  have HBX2 := Lib.hid hB
  replace HBX0 := Lib.hid (HBX0.out.only oa (by simp))
  replace HBX1 := Lib.hid (HBX1.out.only oa (by simp))
  have HZ8_2 := Lib.hid (HZ8_1.out.only oa (by simp))
  have HO8_2 := Lib.hid (HO8_1.out.tr oa)
  rw [hw2, hb2]
  clear oa hB hw2 hb2 HZ8_1 HO8_1
  obtain ⟨c0, c1, c2, c3, c4, c5, c6, c7, c8, c9, c10⟩ := cm_cells HZ8_2.out
  have hzl8_2 := HZ8_2.out.lt
  go_upto_region 16 with fail
  clear c0 c1 c2 c3 c4 c5 c6 c7 c8 c9 c10
  obtain ⟨u3, hw3⟩ : ∃ u, u2.alloc (.cells #[.int .i64 c.kd, .int .i64 c.ss, .int .i64 c.sq, .int .i64 c.sh, .int .i64 c.nd, .int .i64 c.ep, .int .i64 c.n, .string ⟨c.fd.toArray⟩, .string ⟨#[120]⟩, .slice IA c.its.length ic, .bool c.fl] 65) = u := ⟨_, rfl⟩
  obtain ⟨b3, hb3⟩ : ∃ b, u2.heap.size = b := ⟨_, rfl⟩
  have oa : Only [] u2 u3 := hw3 ▸ (Only.refl _ _).alloc _
  have hB : Cells u3 b3 65 [.int .i64 c.kd, .int .i64 c.ss, .int .i64 c.sq, .int .i64 c.sh, .int .i64 c.nd, .int .i64 c.ep, .int .i64 c.n, .string ⟨c.fd.toArray⟩, .string ⟨#[120]⟩, .slice IA c.its.length ic, .bool c.fl] := hw3 ▸ hb3 ▸ Cells.new u2 _ _
  have HBX3 := Lib.hid hB
  replace HBX0 := Lib.hid (HBX0.out.only oa (by simp))
  replace HBX1 := Lib.hid (HBX1.out.only oa (by simp))
  replace HBX2 := Lib.hid (HBX2.out.only oa (by simp))
  have HZ8_3 := Lib.hid (HZ8_2.out.only oa (by simp))
  have HO8_3 := Lib.hid (HO8_2.out.tr oa)
  rw [hw3, hb3]
  clear oa hB hw3 hb3 HZ8_2 HO8_2
  obtain ⟨c0, c1, c2, c3, c4, c5, c6, c7, c8, c9, c10⟩ := cm_cells HZ8_3.out
  have hzl8_3 := HZ8_3.out.lt
  go_upto_region 18 with fail
  clear c0 c1 c2 c3 c4 c5 c6 c7 c8 c9 c10
  obtain ⟨u4, hw4⟩ : ∃ u, u3.alloc (.cells #[.int .i64 c.kd, .int .i64 c.ss, .int .i64 c.sq, .int .i64 c.sh, .int .i64 c.nd, .int .i64 c.ep, .int .i64 k, .string ⟨c.fd.toArray⟩, .string ⟨c.id.toArray⟩, .slice IA c.its.length ic, .bool c.fl] 65) = u := ⟨_, rfl⟩
  obtain ⟨b4, hb4⟩ : ∃ b, u3.heap.size = b := ⟨_, rfl⟩
  have oa : Only [] u3 u4 := hw4 ▸ (Only.refl _ _).alloc _
  have hB : Cells u4 b4 65 [.int .i64 c.kd, .int .i64 c.ss, .int .i64 c.sq, .int .i64 c.sh, .int .i64 c.nd, .int .i64 c.ep, .int .i64 k, .string ⟨c.fd.toArray⟩, .string ⟨c.id.toArray⟩, .slice IA c.its.length ic, .bool c.fl] := hw4 ▸ hb4 ▸ Cells.new u3 _ _
  have HBX4 := Lib.hid hB
  replace HBX0 := Lib.hid (HBX0.out.only oa (by simp))
  replace HBX1 := Lib.hid (HBX1.out.only oa (by simp))
  replace HBX2 := Lib.hid (HBX2.out.only oa (by simp))
  replace HBX3 := Lib.hid (HBX3.out.only oa (by simp))
  have HZ8_4 := Lib.hid (HZ8_3.out.only oa (by simp))
  have HO8_4 := Lib.hid (HO8_3.out.tr oa)
  rw [hw4, hb4]
  clear oa hB hw4 hb4 HZ8_3 HO8_3
  obtain ⟨c0, c1, c2, c3, c4, c5, c6, c7, c8, c9, c10⟩ := cm_cells HZ8_4.out
  have hzl8_4 := HZ8_4.out.lt
  go_upto_region 20 with fail
  clear c0 c1 c2 c3 c4 c5 c6 c7 c8 c9 c10
  obtain ⟨u5, hw5⟩ : ∃ u, u4.alloc (.cells #[.int .i64 c.kd, .int .i64 c.ss, .int .i64 c.sq, .int .i64 k, .int .i64 c.nd, .int .i64 c.ep, .int .i64 c.n, .string ⟨c.fd.toArray⟩, .string ⟨c.id.toArray⟩, .slice IA c.its.length ic, .bool c.fl] 65) = u := ⟨_, rfl⟩
  obtain ⟨b5, hb5⟩ : ∃ b, u4.heap.size = b := ⟨_, rfl⟩
  have oa : Only [] u4 u5 := hw5 ▸ (Only.refl _ _).alloc _
  have hB : Cells u5 b5 65 [.int .i64 c.kd, .int .i64 c.ss, .int .i64 c.sq, .int .i64 k, .int .i64 c.nd, .int .i64 c.ep, .int .i64 c.n, .string ⟨c.fd.toArray⟩, .string ⟨c.id.toArray⟩, .slice IA c.its.length ic, .bool c.fl] := hw5 ▸ hb5 ▸ Cells.new u4 _ _
  have HBX5 := Lib.hid hB
  replace HBX0 := Lib.hid (HBX0.out.only oa (by simp))
  replace HBX1 := Lib.hid (HBX1.out.only oa (by simp))
  replace HBX2 := Lib.hid (HBX2.out.only oa (by simp))
  replace HBX3 := Lib.hid (HBX3.out.only oa (by simp))
  replace HBX4 := Lib.hid (HBX4.out.only oa (by simp))
  have HZ8_5 := Lib.hid (HZ8_4.out.only oa (by simp))
  have HO8_5 := Lib.hid (HO8_4.out.tr oa)
  rw [hw5, hb5]
  clear oa hB hw5 hb5 HZ8_4 HO8_4
  obtain ⟨c0, c1, c2, c3, c4, c5, c6, c7, c8, c9, c10⟩ := cm_cells HZ8_5.out
  have hzl8_5 := HZ8_5.out.lt
  clear c0 c1 c2 c3 c4 c5 c6 c7 c8 c9 c10
  have hRP := right_parts HRB.out
  obtain ⟨q1, q2, q3, q4, q5, q6⟩ := bare_set c hRP k hk0
  have hfd := H.out.fd
  have hid := H.out.id
  have hnw := H.out.nums
  simp only [List.mem_cons, List.not_mem_nil, or_false, forall_eq_or_imp, forall_eq] at hnw
  obtain ⟨x0, x1, x2, x3, x4, x5, x6⟩ := hnw
  have kw : Wide64 k := ⟨by omega, by omega⟩
  have e0 : rightB (c.setSs k) = bareB (c.setSs k) := right_of hRP.kd (by show 0 ≤ k ∧ k ≤ 1099511627776; omega) hRP.sq hRP.ep hRP.n hRP.sh hRP.nd hRP.len hRP.its
  have D0 := Lib.hid (fun u : Since u5 => cmd_right (c.setSs k) (.slice IA c.its.length ic) u.w ((H.out.only (HO8_5.out.tr u.h)).of rfl hfd hid (by intro x hx; simp only [Cm.setSs, List.mem_cons, List.not_mem_nil, or_false] at hx; rcases hx with rfl | rfl | rfl | rfl | rfl | rfl | rfl; exact x0; exact kw; exact x2; exact x3; exact x4; exact x5; exact x6)))
  rw [e0, q1] at D0
  unfold Cm.val Cm.setSs at D0
  dsimp only at D0
  have e1 : rightB (c.setEp k) = bareB (c.setEp k) := right_of hRP.kd hRP.ss hRP.sq (by show 0 ≤ k ∧ k ≤ 1099511627776; omega) hRP.n hRP.sh hRP.nd hRP.len hRP.its
  have D1 := Lib.hid (fun u : Since u5 => cmd_right (c.setEp k) (.slice IA c.its.length ic) u.w ((H.out.only (HO8_5.out.tr u.h)).of rfl hfd hid (by intro x hx; simp only [Cm.setEp, List.mem_cons, List.not_mem_nil, or_false] at hx; rcases hx with rfl | rfl | rfl | rfl | rfl | rfl | rfl; exact x0; exact x1; exact x2; exact x3; exact x4; exact kw; exact x6)))
  rw [e1, q2] at D1
  unfold Cm.val Cm.setEp at D1
  dsimp only at D1
  have e2 : rightB (c.setFl true) = bareB (c.setFl true) := right_of hRP.kd hRP.ss hRP.sq hRP.ep hRP.n hRP.sh hRP.nd hRP.len hRP.its
  have D2 := Lib.hid (fun u : Since u5 => cmd_right (c.setFl true) (.slice IA c.its.length ic) u.w ((H.out.only (HO8_5.out.tr u.h)).of rfl hfd hid (by intro x hx; simp only [Cm.setFl, List.mem_cons, List.not_mem_nil, or_false] at hx; rcases hx with rfl | rfl | rfl | rfl | rfl | rfl | rfl; exact x0; exact x1; exact x2; exact x3; exact x4; exact x5; exact x6)))
  rw [e2, q3] at D2
  unfold Cm.val Cm.setFl at D2
  dsimp only at D2
  have e3 : rightB (c.setId [120]) = bareB (c.setId [120]) := right_of hRP.kd hRP.ss hRP.sq hRP.ep hRP.n hRP.sh hRP.nd (by have := lenB_iff.1 hRP.len; exact lenB_iff.2 ⟨this.1, by simp [Cm.setId], this.2.2⟩) hRP.its
  have D3 := Lib.hid (fun u : Since u5 => cmd_right (c.setId [120]) (.slice IA c.its.length ic) u.w ((H.out.only (HO8_5.out.tr u.h)).of rfl hfd (by unfold maxLen; simp [Cm.setId]) (by intro x hx; simp only [Cm.setId, List.mem_cons, List.not_mem_nil, or_false] at hx; rcases hx with rfl | rfl | rfl | rfl | rfl | rfl | rfl; exact x0; exact x1; exact x2; exact x3; exact x4; exact x5; exact x6)))
  rw [e3, q4] at D3
  unfold Cm.val Cm.setId at D3
  dsimp only at D3
  have e4 : rightB (c.setN k) = bareB (c.setN k) := right_of hRP.kd hRP.ss hRP.sq hRP.ep (by show 0 ≤ k ∧ k ≤ 1099511627776; omega) hRP.sh hRP.nd hRP.len hRP.its
  have D4 := Lib.hid (fun u : Since u5 => cmd_right (c.setN k) (.slice IA c.its.length ic) u.w ((H.out.only (HO8_5.out.tr u.h)).of rfl hfd hid (by intro x hx; simp only [Cm.setN, List.mem_cons, List.not_mem_nil, or_false] at hx; rcases hx with rfl | rfl | rfl | rfl | rfl | rfl | rfl; exact x0; exact x1; exact x2; exact x3; exact x4; exact x5; exact kw)))
  rw [e4, q5] at D4
  unfold Cm.val Cm.setN at D4
  dsimp only at D4
  have e5 : rightB (c.setSh k) = bareB (c.setSh k) := right_of hRP.kd hRP.ss hRP.sq hRP.ep hRP.n (by show 0 ≤ k ∧ k ≤ 7; omega) hRP.nd hRP.len hRP.its
  have D5 := Lib.hid (fun u : Since u5 => cmd_right (c.setSh k) (.slice IA c.its.length ic) u.w ((H.out.only (HO8_5.out.tr u.h)).of rfl hfd hid (by intro x hx; simp only [Cm.setSh, List.mem_cons, List.not_mem_nil, or_false] at hx; rcases hx with rfl | rfl | rfl | rfl | rfl | rfl | rfl; exact x0; exact x1; exact x2; exact kw; exact x4; exact x5; exact x6)))
  rw [e5, q6] at D5
  unfold Cm.val Cm.setSh at D5
  dsimp only at D5
  have hz := HZ8_5.out
  obtain ⟨c0, c1, c2, c3, c4, c5, c6, c7, c8, c9, c10⟩ := cm_cells hz
  have tz0 := fun u : Since u5 => u.cell c0
  have tz9 := fun u : Since u5 => u.cell c9
  have t0_0 := fun u : Since u5 => u.cell (HBX0.out.cell (k := 0) rfl)
  have t0_1 := fun u : Since u5 => u.cell (HBX0.out.cell (k := 1) rfl)
  have t0_2 := fun u : Since u5 => u.cell (HBX0.out.cell (k := 2) rfl)
  have t0_3 := fun u : Since u5 => u.cell (HBX0.out.cell (k := 3) rfl)
  have t0_4 := fun u : Since u5 => u.cell (HBX0.out.cell (k := 4) rfl)
  have t0_5 := fun u : Since u5 => u.cell (HBX0.out.cell (k := 5) rfl)
  have t0_6 := fun u : Since u5 => u.cell (HBX0.out.cell (k := 6) rfl)
  have t0_7 := fun u : Since u5 => u.cell (HBX0.out.cell (k := 7) rfl)
  have t0_8 := fun u : Since u5 => u.cell (HBX0.out.cell (k := 8) rfl)
  have t0_9 := fun u : Since u5 => u.cell (HBX0.out.cell (k := 9) rfl)
  have t0_10 := fun u : Since u5 => u.cell (HBX0.out.cell (k := 10) rfl)
  have t1_0 := fun u : Since u5 => u.cell (HBX1.out.cell (k := 0) rfl)
  have t1_1 := fun u : Since u5 => u.cell (HBX1.out.cell (k := 1) rfl)
  have t1_2 := fun u : Since u5 => u.cell (HBX1.out.cell (k := 2) rfl)
  have t1_3 := fun u : Since u5 => u.cell (HBX1.out.cell (k := 3) rfl)
  have t1_4 := fun u : Since u5 => u.cell (HBX1.out.cell (k := 4) rfl)
  have t1_5 := fun u : Since u5 => u.cell (HBX1.out.cell (k := 5) rfl)
  have t1_6 := fun u : Since u5 => u.cell (HBX1.out.cell (k := 6) rfl)
  have t1_7 := fun u : Since u5 => u.cell (HBX1.out.cell (k := 7) rfl)
  have t1_8 := fun u : Since u5 => u.cell (HBX1.out.cell (k := 8) rfl)
  have t1_9 := fun u : Since u5 => u.cell (HBX1.out.cell (k := 9) rfl)
  have t1_10 := fun u : Since u5 => u.cell (HBX1.out.cell (k := 10) rfl)
  have t2_0 := fun u : Since u5 => u.cell (HBX2.out.cell (k := 0) rfl)
  have t2_1 := fun u : Since u5 => u.cell (HBX2.out.cell (k := 1) rfl)
  have t2_2 := fun u : Since u5 => u.cell (HBX2.out.cell (k := 2) rfl)
  have t2_3 := fun u : Since u5 => u.cell (HBX2.out.cell (k := 3) rfl)
  have t2_4 := fun u : Since u5 => u.cell (HBX2.out.cell (k := 4) rfl)
  have t2_5 := fun u : Since u5 => u.cell (HBX2.out.cell (k := 5) rfl)
  have t2_6 := fun u : Since u5 => u.cell (HBX2.out.cell (k := 6) rfl)
  have t2_7 := fun u : Since u5 => u.cell (HBX2.out.cell (k := 7) rfl)
  have t2_8 := fun u : Since u5 => u.cell (HBX2.out.cell (k := 8) rfl)
  have t2_9 := fun u : Since u5 => u.cell (HBX2.out.cell (k := 9) rfl)
  have t2_10 := fun u : Since u5 => u.cell (HBX2.out.cell (k := 10) rfl)
  have t3_0 := fun u : Since u5 => u.cell (HBX3.out.cell (k := 0) rfl)
  have t3_1 := fun u : Since u5 => u.cell (HBX3.out.cell (k := 1) rfl)
  have t3_2 := fun u : Since u5 => u.cell (HBX3.out.cell (k := 2) rfl)
  have t3_3 := fun u : Since u5 => u.cell (HBX3.out.cell (k := 3) rfl)
  have t3_4 := fun u : Since u5 => u.cell (HBX3.out.cell (k := 4) rfl)
  have t3_5 := fun u : Since u5 => u.cell (HBX3.out.cell (k := 5) rfl)
  have t3_6 := fun u : Since u5 => u.cell (HBX3.out.cell (k := 6) rfl)
  have t3_7 := fun u : Since u5 => u.cell (HBX3.out.cell (k := 7) rfl)
  have t3_8 := fun u : Since u5 => u.cell (HBX3.out.cell (k := 8) rfl)
  have t3_9 := fun u : Since u5 => u.cell (HBX3.out.cell (k := 9) rfl)
  have t3_10 := fun u : Since u5 => u.cell (HBX3.out.cell (k := 10) rfl)
  have t4_0 := fun u : Since u5 => u.cell (HBX4.out.cell (k := 0) rfl)
  have t4_1 := fun u : Since u5 => u.cell (HBX4.out.cell (k := 1) rfl)
  have t4_2 := fun u : Since u5 => u.cell (HBX4.out.cell (k := 2) rfl)
  have t4_3 := fun u : Since u5 => u.cell (HBX4.out.cell (k := 3) rfl)
  have t4_4 := fun u : Since u5 => u.cell (HBX4.out.cell (k := 4) rfl)
  have t4_5 := fun u : Since u5 => u.cell (HBX4.out.cell (k := 5) rfl)
  have t4_6 := fun u : Since u5 => u.cell (HBX4.out.cell (k := 6) rfl)
  have t4_7 := fun u : Since u5 => u.cell (HBX4.out.cell (k := 7) rfl)
  have t4_8 := fun u : Since u5 => u.cell (HBX4.out.cell (k := 8) rfl)
  have t4_9 := fun u : Since u5 => u.cell (HBX4.out.cell (k := 9) rfl)
  have t4_10 := fun u : Since u5 => u.cell (HBX4.out.cell (k := 10) rfl)
  have t5_0 := fun u : Since u5 => u.cell (HBX5.out.cell (k := 0) rfl)
  have t5_1 := fun u : Since u5 => u.cell (HBX5.out.cell (k := 1) rfl)
  have t5_2 := fun u : Since u5 => u.cell (HBX5.out.cell (k := 2) rfl)
  have t5_3 := fun u : Since u5 => u.cell (HBX5.out.cell (k := 3) rfl)
  have t5_4 := fun u : Since u5 => u.cell (HBX5.out.cell (k := 4) rfl)
  have t5_5 := fun u : Since u5 => u.cell (HBX5.out.cell (k := 5) rfl)
  have t5_6 := fun u : Since u5 => u.cell (HBX5.out.cell (k := 6) rfl)
  have t5_7 := fun u : Since u5 => u.cell (HBX5.out.cell (k := 7) rfl)
  have t5_8 := fun u : Since u5 => u.cell (HBX5.out.cell (k := 8) rfl)
  have t5_9 := fun u : Since u5 => u.cell (HBX5.out.cell (k := 9) rfl)
  have t5_10 := fun u : Since u5 => u.cell (HBX5.out.cell (k := 10) rfl)
  have HKB := Lib.hid hRP.kd
  have hlw : (c.its.length : Int) ≤ 9223372036854775807 := by have := (lenB_iff.1 hRP.len).2.2; omega
  have hl0 : decide (c.its.length = 0) = ((c.its.length : Int) == 0) := by
    by_cases h : c.its.length = 0
    · simp [h]
    · have : ¬ ((c.its.length : Int) = 0) := by omega
      simp [h, this]
  have hge : decide (7 ≤ c.kd) = decide (c.kd ≥ 7) := rfl
  rw [hl0] at D2
  clear hRP q1 q2 q3 q4 q5 q6 hfd hid x0 x1 x2 x3 x4 x5 x6 e0 e1 e2 e3 e4 e5 hz c0 c1 c2 c3 c4 c5 c6 c7 c8 c9 c10 hl0 hge
  refine wp_region_only_tail u5 (Only.refl _ _) 40 (by kernel_rfl) (by kernel_rfl) ?_
  simp only [List.take_succ_cons, List.take_zero, List.drop_succ_cons, List.drop_zero]
  cases hk8 : (c.kd == 8)
  all_goals
    rw [hk8] at D1 D2
    repeat (go_big_quiet_step (first
      | (go_at_call 33; with_reducible refine Calls.only (D0.out _))
      | (go_at_call 33; with_reducible refine Calls.only (D1.out _))
      | (go_at_call 33; with_reducible refine Calls.only (D2.out _))
      | (go_at_call 33; with_reducible refine Calls.only (D3.out _))
      | (go_at_call 33; with_reducible refine Calls.only (D4.out _))
      | (go_at_call 33; with_reducible refine Calls.only (D5.out _))))
    refine wpQuiet_nil ?_
    rintro ⟨w8, ho8⟩
    dsimp only
    have HO9 := Lib.hid (HO8_5.out.tr ho8)
    clear ho8 D0 D1 D2 D3 D4 D5
    clear t0_0 t0_1 t0_2 t0_3 t0_4 t0_5 t0_6 t0_7 t0_8 t0_9 t0_10 t1_0 t1_1 t1_2 t1_3 t1_4 t1_5 t1_6 t1_7 t1_8 t1_9 t1_10 t2_0 t2_1 t2_2 t2_3 t2_4 t2_5 t2_6 t2_7 t2_8 t2_9 t2_10 t3_0 t3_1 t3_2 t3_3 t3_4 t3_5 t3_6 t3_7 t3_8 t3_9 t3_10 t4_0 t4_1 t4_2 t4_3 t4_4 t4_5 t4_6 t4_7 t4_8 t4_9 t4_10 t5_0 t5_1 t5_2 t5_3 t5_4 t5_5 t5_6 t5_7 t5_8 t5_9 t5_10 tz0 tz9
    clear HZ8_5 HBX0 HBX1 HBX2 HBX3 HBX4 HBX5
    go_wp2_with fail
    obtain ⟨wd, hwd⟩ : ∃ u, w8.alloc (.cells #[.bool true, .bool true, .bool true, .bool true, .bool true, .bool true] 4) = u := ⟨_, rfl⟩
    obtain ⟨bd, hbd⟩ : ∃ b, w8.heap.size = b := ⟨_, rfl⟩
    have hD : Hid (Cells wd bd 4 (List.replicate 6 (.bool true))) := Lib.hid (hwd ▸ hbd ▸ Cells.new w8 _ _)
    have HOd : Hid (Only [] W wd) := Lib.hid (hwd ▸ HO9.out.alloc _)
    rw [hwd, hbd]
    clear hwd hbd HO9
    go_loopw [17] (fun i wr => ∃ j : Nat, j ≤ 6 ∧ i = .int .i64 j ∧ Hid (Cells wr bd 4 (List.replicate 6 (.bool true))) ∧ Hid (Only [] W wr)) (fun i _ => 6 - (intOf i).toNat)
    case atStart => exact ⟨0, by omega, rfl, hD, HOd⟩
    case round =>
      obtain ⟨j, hj, rfl, hd, ho⟩ := hrel
      by_cases hlt : j < 6
      · have hlt' : (j : Int) < 6 := by omega
        have q0 := hd.out.cell (k := j) (v := .bool true) (by rw [List.getElem?_replicate]; simp [hlt])
        go_wp2_with fail
        go_roundw
        case rel => exact ⟨j + 1, by omega, by go_num, hd, ho⟩
        case measure => simp [intOf]; omega
      · obtain rfl : j = 6 := by omega
        go_wp2_with fail
        go_ret
        exact ⟨rfl, ho.out⟩
end Go.Proofs.Ytjfnkjpnjiobjaa
