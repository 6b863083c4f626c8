/-
  The walk over CommandReads.
-/
import Derived.Test.YtjfnkjpnjiobjaaC18aa
import Derived.Test.YtjfnkjpnjiobjaaC18v
import Derived.Test.YtjfnkjpnjiobjaaC18ab
namespace Go.Proofs.Ytjfnkjpnjiobjaa
open Go.RowKit
set_option maxRecDepth 100000 in
set_option maxHeartbeats 4000000 in
theorem commandReads_walk (W : World) (S0 : ByteArray) (hS0 : S0.size ≤ maxLen) (v0 : Value) (c : Cm) (s0 : ∃ iv, v0 = c.val iv ∧ CmAt W iv c) (_ : True) (v1 : Value) (r : Rp) (s1 : ∃ pv, v1 = r.val pv ∧ RpIn W pv r) (_ : True) (at_ : Int) (wat : (Lit.int .i64 at_).wf = true) (to_ : Int) (wto : (Lit.int .i64 to_).wf = true) :
    Calls Try.prog 12 #[.string S0, v0, v1, .int .i64 at_, .int .i64 to_] W fun e W' => e = .returned (.bool true) ∧ Only [] W W' := by
  obtain ⟨s, rfl, hsl⟩ := str_of S0
  rw [hsl] at hS0
  unfold maxLen at hS0
  clear hsl
  have wat := wide64_of_wf wat
  obtain ⟨iv, rfl, h⟩ := s0
  obtain ⟨pv, rfl, h'⟩ := s1
  obtain ⟨IA, ic, rfl⟩ := h.its.shape
  obtain ⟨JA, jc, rfl⟩ := h'.ps.shape
  obtain ⟨w1, hw1⟩ : ∃ w1, W.alloc (.cells #[.int .i64 c.kd, .int .i64 c.ss, .int .i64 c.sq, .int .i64 c.sh, .int .i64 c.nd, .int .i64 c.ep, .int .i64 c.n, .string ⟨c.fd.toArray⟩, .string ⟨c.id.toArray⟩, .slice IA c.its.length ic, .bool c.fl] 65) = w1 := ⟨_, rfl⟩
  obtain ⟨w2, hw2⟩ : ∃ w2, w1.alloc (.cells #[.int .i64 r.er, .int .i64 r.n, .slice JA r.ps.length jc] 67) = w2 := ⟨_, rfl⟩
  obtain ⟨z1, hz1⟩ : ∃ z, W.heap.size = z := ⟨_, rfl⟩
  obtain ⟨z2, hz2⟩ : ∃ z, w1.heap.size = z := ⟨_, rfl⟩
  have O1 : Only [] W w1 := hw1 ▸ (Only.refl _ _).alloc _
  have O2 : Only [] w1 w2 := hw2 ▸ (Only.refl _ _).alloc _
  have a1 : Cells w1 z1 65 (c.cells (.slice IA c.its.length ic)) := hw1 ▸ hz1 ▸ Cells.new W _ _
  have a2 : Cells w2 z2 67 [.int .i64 r.er, .int .i64 r.n, .slice JA r.ps.length jc] := hw2 ▸ hz2 ▸ Cells.new w1 _ _
  have HZ1 := Lib.hid (a1.only O2 (by simp))
  have HZ2 := Lib.hid a2
  have HO := Lib.hid (O1.tr O2)
  have C0 := Lib.hid (shown18 w2)
  have CS := Lib.hid (fun w' (ho : Only [] W w') => small18 _ _ c r w' (h.only ho) (h'.only ho))
  have H := Lib.hid h
  have H' := Lib.hid h'
  have HVC : Hid (c.val (.slice IA c.its.length ic) = .agg #[.int .i64 c.kd, .int .i64 c.ss, .int .i64 c.sq, .int .i64 c.sh, .int .i64 c.nd, .int .i64 c.ep, .int .i64 c.n, .string ⟨c.fd.toArray⟩, .string ⟨c.id.toArray⟩, .slice IA c.its.length ic, .bool c.fl]) := Lib.hid rfl
  have HVR : Hid (r.val (.slice JA r.ps.length jc) = .agg #[.int .i64 r.er, .int .i64 r.n, .slice JA r.ps.length jc]) := Lib.hid rfl
  rw [HVC.out, HVR.out] at CS ⊢
  clear h h' a1 a2 O1 O2
  go_enter Try.func12, Try.ntmps12
  go_wp2_with fail
  clear hw1 hw2 hz1 hz2
  refine C0.out.mono ?_
  rintro e w3 ⟨rfl, ho3⟩
  dsimp only
  have HZ3 := Lib.hid (HZ1.out.only ho3 (by simp))
  have HY3 := Lib.hid (HZ2.out.only ho3 (by simp))
  have HO3 := Lib.hid (HO.out.tr ho3)
  clear C0 HO HZ1 HZ2 ho3
  obtain ⟨c0, c1, c2, c3, c4, c5, c6, c7, c8, c9, c10⟩ := cm_cells HZ3.out
  obtain ⟨d0, d1, d2⟩ := rp_cells HY3.out
  have CS3 := Lib.hid (CS.out w3 HO3.out)
  clear CS
  go_wp2_with fail
  refine CS3.out.mono ?_
  rintro e w4 ⟨ok, rfl, hok, ho4⟩
  dsimp only
  have HOK := Lib.hid hok
  have HZ4 := Lib.hid (HZ3.out.only ho4 (by simp))
  have HY4 := Lib.hid (HY3.out.only ho4 (by simp))
  have HO4 := Lib.hid (HO3.out.tr ho4)
  clear CS3 HO3 HZ3 HY3 ho4 hok c0 c1 c2 c3 c4 c5 c6 c7 c8 c9 c10 d0 d1 d2
  cases ok with
  | false =>
    go_wp2_with fail
    go_ret
    exact ⟨rfl, HO4.out⟩
  | true =>
  by_cases hs3 : 3000 < s.length
  · have d1 : decide ((3000 : Int) < (s.length : Int)) = true := by simp; omega
    go_wp2_with fail
    go_ret
    exact ⟨rfl, HO4.out⟩
  have d1 : decide ((3000 : Int) < (s.length : Int)) = false := by simp; omega
  have hsm := HOK.out rfl
  have HSM := Lib.hid hsm.sm
  have HRP := Lib.hid (hsm.rp H'.out)
  have CQ := Lib.hid (fun w' (ho : Only [] W w') => ref18_pack c _ w' (H.out.only ho) HSM.out)
  have CA' := Lib.hid (fun w' (ho : Only [] W w') => ref18_answer r _ w' (HRP.out.only ho))
  have hPl := pkS_le c hsm
  have hAl := rpb_le r hsm HRP.out.er HRP.out.n (fun x hx => (HRP.out.sm x hx).sq)
  rw [HVC.out] at CQ
  rw [HVR.out] at CA'
  obtain ⟨P, hP⟩ : ∃ P, pkS c = P := ⟨_, rfl⟩
  obtain ⟨E, hE⟩ : ∃ P, pkE c = P := ⟨_, rfl⟩
  obtain ⟨ab, hab⟩ : ∃ P, rpb r = P := ⟨_, rfl⟩
  rw [hP, hE] at CQ
  rw [hab] at CA' hAl
  rw [hP] at hPl
  have CR1 := Lib.hid (fun w' => reads18 s w' (by omega))
  have CT1 := Lib.hid (fun w' => turned_any P at_ to_ w' (by omega) wat)
  have CT2 := Lib.hid (fun w' => turned_any ab at_ to_ w' (by omega) wat)
  have CQ4 := Lib.hid (CQ.out w4 HO4.out)
  clear hP hE hab hsm HSM HRP HOK CQ wat
  obtain ⟨c0, c1, c2, c3, c4, c5, c6, c7, c8, c9, c10⟩ := cm_cells HZ4.out
  go_wp2_with fail
  refine CQ4.out.mono ?_
  rintro e w5 ⟨rfl, ho5⟩
  dsimp only
  have HY5 := Lib.hid (HY4.out.only ho5 (by simp))
  have HO5 := Lib.hid (HO4.out.tr ho5)
  clear CQ4 HO4 HZ4 HY4 ho5 c0 c1 c2 c3 c4 c5 c6 c7 c8 c9 c10
  go_wp2_with fail
  refine (CR1.out _).mono ?_
  rintro e w6 ⟨rfl, ho6⟩
  dsimp only
  have HY6 := Lib.hid (HY5.out.only ho6 (by simp))
  have HO6 := Lib.hid (HO5.out.tr ho6)
  clear HO5 HY5 ho6 CR1
  go_wp2_with fail
  refine (CT1.out _).mono ?_
  rintro e w7 ⟨X, rfl, hX, ho7⟩
  dsimp only
  have HY7 := Lib.hid (HY6.out.only ho7 (by simp))
  have HO7 := Lib.hid (HO6.out.tr ho7)
  have CR2 := Lib.hid (reads18 X w7 (by omega))
  clear HO6 HY6 ho7 CT1 hX
  go_wp2_with fail
  refine CR2.out.mono ?_
  rintro e w8 ⟨rfl, ho8⟩
  dsimp only
  have HY8 := Lib.hid (HY7.out.only ho8 (by simp))
  have HO8 := Lib.hid (HO7.out.tr ho8)
  have CA8 := Lib.hid (CA'.out w8 HO8.out)
  clear HO7 HY7 ho8 CR2 CA'
  obtain ⟨d0, d1', d2⟩ := rp_cells HY8.out
  go_wp2_with fail
  refine CA8.out.mono ?_
  rintro e w9 ⟨rfl, ho9⟩
  dsimp only
  have HO9 := Lib.hid (HO8.out.tr ho9)
  clear HO8 HY8 ho9 CA8 d0 d1' d2
  go_wp2_with fail
  refine (CT2.out _).mono ?_
  rintro e w10 ⟨Y, rfl, hY, ho10⟩
  dsimp only
  have HO10 := Lib.hid (HO9.out.tr ho10)
  have CR3 := Lib.hid (reads18 Y w10 (by omega))
  clear HO9 ho10 CT2 hY
  go_wp2_with fail
  refine CR3.out.mono ?_
  rintro e w11 ⟨rfl, ho11⟩
  dsimp only
  have HO11 := Lib.hid (HO10.out.tr ho11)
  clear HO10 ho11 CR3
  go_wp2_with fail
  go_ret
  exact ⟨rfl, HO11.out⟩
end Go.Proofs.Ytjfnkjpnjiobjaa
