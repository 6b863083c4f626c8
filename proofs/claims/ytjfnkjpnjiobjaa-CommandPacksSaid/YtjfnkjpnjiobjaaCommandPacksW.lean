/-
  The walk over CommandPacks.
-/
import Derived.Test.YtjfnkjpnjiobjaaC18aa
import Derived.Test.YtjfnkjpnjiobjaaC18v
import Derived.Test.YtjfnkjpnjiobjaaC18y
import Derived.Test.YtjfnkjpnjiobjaaC18z
namespace Go.Proofs.Ytjfnkjpnjiobjaa
open Go.RowKit
theorem rp_cells {w : World} {z : Nat} {pv : Value} {r : Rp} (h : Cells w z 67 [.int .i64 r.er, .int .i64 r.n, pv]) : w.cell? ⟨z, 0, none⟩ = some (.int .i64 r.er) ∧ w.cell? ⟨z, 1, none⟩ = some (.int .i64 r.n) ∧ w.cell? ⟨z, 2, none⟩ = some pv := ⟨h.cell (k := 0) rfl, h.cell (k := 1) rfl, h.cell (k := 2) rfl⟩
set_option maxRecDepth 100000 in
set_option maxHeartbeats 4000000 in
theorem commandPacks_walk (W : World) (v0 : Value) (c : Cm) (s0 : ∃ iv, v0 = c.val iv ∧ CmAt W iv c) (_ : True) (v1 : Value) (r : Rp) (s1 : ∃ pv, v1 = r.val pv ∧ RpIn W pv r) (_ : True) :
    Calls Try.prog 9 #[v0, v1] W fun e W' => e = .returned (.bool true) ∧ Only [] W W' := by
  obtain ⟨iv, rfl, h⟩ := s0
  obtain ⟨pv, rfl, h'⟩ := s1
  obtain ⟨IA, ic, rfl⟩ := h.its.shape
  obtain ⟨JA, jc, rfl⟩ := h'.ps.shape
  obtain ⟨w1, hw1⟩ : ∃ w1, W.alloc (.cells #[.int .i64 c.kd, .int .i64 c.ss, .int .i64 c.sq, .int .i64 c.sh, .int .i64 c.nd, .int .i64 c.ep, .int .i64 c.n, .string ⟨c.fd.toArray⟩, .string ⟨c.id.toArray⟩, .slice IA c.its.length ic, .bool c.fl] 65) = w1 := ⟨_, rfl⟩
  obtain ⟨w2, hw2⟩ : ∃ w2, w1.alloc (.cells #[.int .i64 r.er, .int .i64 r.n, .slice JA r.ps.length jc] 67) = w2 := ⟨_, rfl⟩
  obtain ⟨z1, hz1⟩ : ∃ z, W.heap.size = z := ⟨_, rfl⟩
  obtain ⟨z2, hz2⟩ : ∃ z, w1.heap.size = z := ⟨_, rfl⟩
  have O1 : Only [] W w1 := hw1 ▸ (Only.refl _ _).alloc _
  have O2 : Only [] w1 w2 := hw2 ▸ (Only.refl _ _).alloc _
  have a1 : Cells w1 z1 65 (c.cells (.slice IA c.its.length ic)) := hw1 ▸ hz1 ▸ Cells.new W _ _
  have a2 : Cells w2 z2 67 [.int .i64 r.er, .int .i64 r.n, .slice JA r.ps.length jc] := hw2 ▸ hz2 ▸ Cells.new w1 _ _
  have HZ1 := Lib.hid (a1.only O2 (by simp))
  have HZ2 := Lib.hid a2
  have HO := Lib.hid (O1.tr O2)
  have C0 := Lib.hid (shown18 w2)
  have CS := Lib.hid (fun w' (ho : Only [] W w') => small18 _ _ c r w' (h.only ho) (h'.only ho))
  have H := Lib.hid h
  have H' := Lib.hid h'
  have HVC : Hid (c.val (.slice IA c.its.length ic) = .agg #[.int .i64 c.kd, .int .i64 c.ss, .int .i64 c.sq, .int .i64 c.sh, .int .i64 c.nd, .int .i64 c.ep, .int .i64 c.n, .string ⟨c.fd.toArray⟩, .string ⟨c.id.toArray⟩, .slice IA c.its.length ic, .bool c.fl]) := Lib.hid rfl
  have HVR : Hid (r.val (.slice JA r.ps.length jc) = .agg #[.int .i64 r.er, .int .i64 r.n, .slice JA r.ps.length jc]) := Lib.hid rfl
  rw [HVC.out, HVR.out] at CS ⊢
  clear h h' a1 a2 O1 O2
  go_enter Try.func9, Try.ntmps9
  go_wp2_with fail
  clear hw1 hw2 hz1 hz2
  refine C0.out.mono ?_
  rintro e w3 ⟨rfl, ho3⟩
  dsimp only
  have HZ3 := Lib.hid (HZ1.out.only ho3 (by simp))
  have HY3 := Lib.hid (HZ2.out.only ho3 (by simp))
  have HO3 := Lib.hid (HO.out.tr ho3)
  clear C0 HO HZ1 HZ2 ho3
  obtain ⟨c0, c1, c2, c3, c4, c5, c6, c7, c8, c9, c10⟩ := cm_cells HZ3.out
  obtain ⟨d0, d1, d2⟩ := rp_cells HY3.out
  have CS3 := Lib.hid (CS.out w3 HO3.out)
  clear CS
  go_wp2_with fail
  refine CS3.out.mono ?_
  rintro e w4 ⟨ok, rfl, hok, ho4⟩
  dsimp only
  have HOK := Lib.hid hok
  have HZ4 := Lib.hid (HZ3.out.only ho4 (by simp))
  have HY4 := Lib.hid (HY3.out.only ho4 (by simp))
  have HO4 := Lib.hid (HO3.out.tr ho4)
  clear CS3 HO3 HZ3 HY3 ho4 hok c0 c1 c2 c3 c4 c5 c6 c7 c8 c9 c10 d0 d1 d2
  cases ok with
  | false =>
    go_wp2_with fail
    go_ret
    exact ⟨rfl, HO4.out⟩
  | true =>
  have hsm := HOK.out rfl
  have HSM := Lib.hid hsm.sm
  have HRP := Lib.hid (hsm.rp H'.out)
  have CP := Lib.hid (cmd_pack c _ w4 (H.out.only HO4.out))
  have CQ := Lib.hid (fun w' (ho : Only [] W w') => ref18_pack c _ w' (H.out.only ho) HSM.out)
  have CR := Lib.hid (fun w' (ho : Only [] W w') => cmd_right c _ w' (H.out.only ho))
  have CR' := Lib.hid (fun w' (ho : Only [] W w') => ref18_right c _ w' (H.out.only ho) HSM.out)
  have CC := Lib.hid (fun w' => client_call c (.slice IA c.its.length ic) w')
  have CC' := Lib.hid (fun w' => ref18_client c (.slice IA c.its.length ic) w')
  have CA := Lib.hid (fun w' (ho : Only [] W w') => cmd_answer r _ w' (HRP.out.only ho))
  have CA' := Lib.hid (fun w' (ho : Only [] W w') => ref18_answer r _ w' (HRP.out.only ho))
  rw [HVC.out] at CP CQ CR CR' CC CC'
  rw [HVR.out] at CA CA'
  obtain ⟨P, hP⟩ : ∃ P, pkS c = P := ⟨_, rfl⟩
  obtain ⟨E, hE⟩ : ∃ P, pkE c = P := ⟨_, rfl⟩
  obtain ⟨rb, hrb⟩ : ∃ P, rightB c = P := ⟨_, rfl⟩
  obtain ⟨cb, hcb⟩ : ∃ P, clB c.kd = P := ⟨_, rfl⟩
  obtain ⟨ab, hab⟩ : ∃ P, rpb r = P := ⟨_, rfl⟩
  rw [hP, hE] at CP CQ
  rw [hrb] at CR CR'
  rw [hcb] at CC CC'
  rw [hab] at CA CA'
  clear hP hE hrb hcb hab hsm HSM HRP HOK
  obtain ⟨c0, c1, c2, c3, c4, c5, c6, c7, c8, c9, c10⟩ := cm_cells HZ4.out
  go_wp2_with fail
  refine CP.out.mono ?_
  rintro e w5 ⟨rfl, ho5⟩
  dsimp only
  have HZ5 := Lib.hid (HZ4.out.only ho5 (by simp))
  have HY5 := Lib.hid (HY4.out.only ho5 (by simp))
  have HO5 := Lib.hid (HO4.out.tr ho5)
  clear CP HO4 HZ4 HY4 ho5 c0 c1 c2 c3 c4 c5 c6 c7 c8 c9 c10
  obtain ⟨c0, c1, c2, c3, c4, c5, c6, c7, c8, c9, c10⟩ := cm_cells HZ5.out
  have CQ5 := Lib.hid (CQ.out w5 HO5.out)
  clear CQ
  go_wp2_with fail
  refine CQ5.out.mono ?_
  rintro e w6 ⟨rfl, ho6⟩
  dsimp only
  have HZ6 := Lib.hid (HZ5.out.only ho6 (by simp))
  have HY6 := Lib.hid (HY5.out.only ho6 (by simp))
  have HO6 := Lib.hid (HO5.out.tr ho6)
  clear CQ5 HO5 HZ5 HY5 ho6 c0 c1 c2 c3 c4 c5 c6 c7 c8 c9 c10
  obtain ⟨c0, c1, c2, c3, c4, c5, c6, c7, c8, c9, c10⟩ := cm_cells HZ6.out
  obtain ⟨d0, d1, d2⟩ := rp_cells HY6.out
  have D1 := Lib.hid (fun u : Since w6 => CR.out u.w (HO6.out.tr u.h))
  have D2 := Lib.hid (fun u : Since w6 => CR'.out u.w (HO6.out.tr u.h))
  have D3 := Lib.hid (fun u : Since w6 => CC.out u.w)
  have D4 := Lib.hid (fun u : Since w6 => CC'.out u.w)
  have D5 := Lib.hid (fun u : Since w6 => CA.out u.w (HO6.out.tr u.h))
  have D6 := Lib.hid (fun u : Since w6 => CA'.out u.w (HO6.out.tr u.h))
  clear CR CR' CC CC' CA CA'
  have t0 := fun u : Since w6 => u.cell c0
  have t1 := fun u : Since w6 => u.cell c1
  have t2 := fun u : Since w6 => u.cell c2
  have t3 := fun u : Since w6 => u.cell c3
  have t4 := fun u : Since w6 => u.cell c4
  have t5 := fun u : Since w6 => u.cell c5
  have t6 := fun u : Since w6 => u.cell c6
  have t7 := fun u : Since w6 => u.cell c7
  have t8 := fun u : Since w6 => u.cell c8
  have t9 := fun u : Since w6 => u.cell c9
  have t10 := fun u : Since w6 => u.cell c10
  have s0 := fun u : Since w6 => u.cell d0
  have s1 := fun u : Since w6 => u.cell d1
  have s2 := fun u : Since w6 => u.cell d2
  go_wp2_with fail
  clear c0 c1 c2 c3 c4 c5 c6 c7 c8 c9 c10 d0 d1 d2
  refine wp_region_only w6 (Only.refl _ _) (by kernel_rfl) (by kernel_rfl) ?_
  repeat (go_big_quiet_step (first
    | (go_at_call 33; refine Calls.only (D1.out _))
    | (go_at_call 34; refine Calls.only (D2.out _))
    | (go_at_call 35; refine Calls.only (D3.out _))
    | (go_at_call 36; refine Calls.only (D4.out _))
    | (go_at_call 37; refine Calls.only (D5.out _))
    | (go_at_call 38; refine Calls.only (D6.out _))))
  refine wpQuiet_nil ?_
  rintro ⟨w8, ho8⟩
  dsimp only
  go_wp2_with fail
  go_ret
  exact ⟨by simp, HO6.out.tr ho8⟩
end Go.Proofs.Ytjfnkjpnjiobjaa
