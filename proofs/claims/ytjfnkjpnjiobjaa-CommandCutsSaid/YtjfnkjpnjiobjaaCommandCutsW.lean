/-
  The walk over CommandCuts.
-/
import Derived.Test.YtjfnkjpnjiobjaaC18ac
namespace Go.Proofs.Ytjfnkjpnjiobjaa
open Go.RowKit
set_option maxRecDepth 100000 in
set_option maxHeartbeats 4000000 in
theorem commandCuts_walk (W : World) (v0 : Value) (c : Cm) (s0 : ∃ iv, v0 = c.val iv ∧ CmAt W iv c) (_ : True) (v1 : Value) (r : Rp) (s1 : ∃ pv, v1 = r.val pv ∧ RpIn W pv r) (_ : True) (at_ : Int) (wat : (Lit.int .i64 at_).wf = true) :
    Calls Try.prog 14 #[v0, v1, .int .i64 at_] W fun e W' => e = .returned (.bool true) ∧ Only [] W W' := by
  have wat := wide64_of_wf wat
  obtain ⟨iv, rfl, h⟩ := s0
  obtain ⟨pv, rfl, h'⟩ := s1
  obtain ⟨IA, ic, rfl⟩ := h.its.shape
  obtain ⟨JA, jc, rfl⟩ := h'.ps.shape
  obtain ⟨w1, hw1⟩ : ∃ w1, W.alloc (.cells #[.int .i64 c.kd, .int .i64 c.ss, .int .i64 c.sq, .int .i64 c.sh, .int .i64 c.nd, .int .i64 c.ep, .int .i64 c.n, .string ⟨c.fd.toArray⟩, .string ⟨c.id.toArray⟩, .slice IA c.its.length ic, .bool c.fl] 65) = w1 := ⟨_, rfl⟩
  obtain ⟨w2, hw2⟩ : ∃ w2, w1.alloc (.cells #[.int .i64 r.er, .int .i64 r.n, .slice JA r.ps.length jc] 67) = w2 := ⟨_, rfl⟩
  obtain ⟨z1, hz1⟩ : ∃ z, W.heap.size = z := ⟨_, rfl⟩
  obtain ⟨z2, hz2⟩ : ∃ z, w1.heap.size = z := ⟨_, rfl⟩
  have O1 : Only [] W w1 := hw1 ▸ (Only.refl _ _).alloc _
  have O2 : Only [] w1 w2 := hw2 ▸ (Only.refl _ _).alloc _
  have a1 : Cells w1 z1 65 (c.cells (.slice IA c.its.length ic)) := hw1 ▸ hz1 ▸ Cells.new W _ _
  have a2 : Cells w2 z2 67 [.int .i64 r.er, .int .i64 r.n, .slice JA r.ps.length jc] := hw2 ▸ hz2 ▸ Cells.new w1 _ _
  have HZ1 := Lib.hid (a1.only O2 (by simp))
  have HZ2 := Lib.hid a2
  have HO := Lib.hid (O1.tr O2)
  have C0 := Lib.hid (shown18 w2)
  have CS := Lib.hid (fun w' (ho : Only [] W w') => small18 _ _ c r w' (h.only ho) (h'.only ho))
  have H := Lib.hid h
  have H' := Lib.hid h'
  have HVC : Hid (c.val (.slice IA c.its.length ic) = .agg #[.int .i64 c.kd, .int .i64 c.ss, .int .i64 c.sq, .int .i64 c.sh, .int .i64 c.nd, .int .i64 c.ep, .int .i64 c.n, .string ⟨c.fd.toArray⟩, .string ⟨c.id.toArray⟩, .slice IA c.its.length ic, .bool c.fl]) := Lib.hid rfl
  have HVR : Hid (r.val (.slice JA r.ps.length jc) = .agg #[.int .i64 r.er, .int .i64 r.n, .slice JA r.ps.length jc]) := Lib.hid rfl
  rw [HVC.out, HVR.out] at CS ⊢
  clear h h' a1 a2 O1 O2
  go_enter Try.func14, Try.ntmps14
  go_wp2_with fail
  clear hw1 hw2 hz1 hz2
  refine C0.out.mono ?_
  rintro e w3 ⟨rfl, ho3⟩
  dsimp only
  have HZ3 := Lib.hid (HZ1.out.only ho3 (by simp))
  have HY3 := Lib.hid (HZ2.out.only ho3 (by simp))
  have HO3 := Lib.hid (HO.out.tr ho3)
  clear C0 HO HZ1 HZ2 ho3
  obtain ⟨c0, c1, c2, c3, c4, c5, c6, c7, c8, c9, c10⟩ := cm_cells HZ3.out
  obtain ⟨d0, d1, d2⟩ := rp_cells HY3.out
  have CS3 := Lib.hid (CS.out w3 HO3.out)
  clear CS
  go_wp2_with fail
  refine CS3.out.mono ?_
  rintro e w4 ⟨ok, rfl, hok, ho4⟩
  dsimp only
  have HOK := Lib.hid hok
  have HZ4 := Lib.hid (HZ3.out.only ho4 (by simp))
  have HY4 := Lib.hid (HY3.out.only ho4 (by simp))
  have HO4 := Lib.hid (HO3.out.tr ho4)
  clear CS3 HO3 HZ3 HY3 ho4 hok c0 c1 c2 c3 c4 c5 c6 c7 c8 c9 c10 d0 d1 d2
  cases ok with
  | false =>
    go_wp2_with fail
    go_ret
    exact ⟨rfl, HO4.out⟩
  | true =>
  have hsm := HOK.out rfl
  have HSM := Lib.hid hsm.sm
  have HRP := Lib.hid (hsm.rp H'.out)
  have CP := Lib.hid (fun w' (ho : Only [] W w') => cmd_pack c _ w' (H.out.only ho))
  have CA := Lib.hid (cmd_answer r _ w4 (HRP.out.only HO4.out))
  have hPl := pkS_le c hsm
  have hAl := rpb_le r hsm HRP.out.er HRP.out.n (fun x hx => (HRP.out.sm x hx).sq)
  have K1 := fun p (hp : p < (rpb r).length) => rp_cut r HRP.out.er HRP.out.n (by have := HRP.out.len; omega) (fun x hx => (HRP.out.sm x hx).ok) (by omega) p hp
  have hCB : rightB c = true → (cmdb c).length ≤ 900000 := fun hr => by
    have := hPl
    unfold pkS at this
    rwa [if_pos hr] at this
  have K2 : Hid (rightB c = true → ∀ p, p < (cmdb c).length → unC ((cmdb c).take p) = none) := Lib.hid (fun hr p hp => cm_cut c (right_ok hr) (by have := hCB hr; omega) p hp)
  have hA0 : 0 < (rpb r).length := by unfold rpb rpH; have := (ib_length r.er HRP.out.er).1; simp only [List.length_append]; omega
  rw [HVC.out] at CP
  rw [HVR.out] at CA
  have HPK : Hid (∀ b, rightB c = b → pkS c = (if b = true then cmdb c else []) ∧ pkE c = if b = true then 0 else 1) := Lib.hid (fun b hb => by unfold pkS pkE; rw [hb]; exact ⟨rfl, rfl⟩)
  obtain ⟨rb, hrb⟩ : ∃ P, rightB c = P := ⟨_, rfl⟩
  obtain ⟨e1, e2⟩ := HPK.out rb hrb
  rw [hrb] at K2
  rw [e1, e2] at CP
  rw [e1] at hPl
  obtain ⟨ab, hab⟩ : ∃ P, rpb r = P := ⟨_, rfl⟩
  rw [hab] at CA hAl K1 hA0
  obtain ⟨k0, k1⟩ := pkI_lt at_ ab.length (by omega)
  obtain ⟨p, hp⟩ : ∃ p : Nat, pkI at_ ab.length = p := ⟨(pkI at_ ab.length).toNat, by omega⟩
  have CK := Lib.hid (fun w' => pick18 at_ ab.length w' wat (by omega) (by omega))
  have CK2 := Lib.hid (fun (n : Nat) (h1 : 1 ≤ n) (h2 : n ≤ 900000) w' => pick18 at_ n w' wat (by omega) (by omega))
  rw [hp] at CK k0 k1
  have hpl : p < ab.length := by omega
  have KP := K1 p hpl
  have CT := Lib.hid (fun w' => cmd_toAnswer (ab.take p) w' (by rw [List.length_take]; omega))
  unfold UnAW at CT
  rw [KP] at CT
  have CP4 := Lib.hid (fun w' (ho : Only [] w4 w') => CP.out w' (HO4.out.tr ho))
  clear hCB hp hrb e1 e2 hab hsm HSM HRP HOK CP K1 KP HPK
  obtain ⟨d0, d1, d2⟩ := rp_cells HY4.out
  go_wp2_with fail
  refine CA.out.mono ?_
  rintro e w5 ⟨rfl, ho5⟩
  dsimp only
  have HZ5 := Lib.hid (HZ4.out.only ho5 (by simp))
  have HO5 := Lib.hid ho5
  clear CA HZ4 HY4 ho5 d0 d1 d2
  go_wp2_with fail
  refine (CK.out _).mono ?_
  rintro e w6 ⟨rfl, rfl⟩
  dsimp only
  go_wp2_with fail
  rw [str_from_start]
  refine (CT.out _).mono ?_
  rintro e w7 ⟨pv, rfl, hr7, ho7⟩
  obtain ⟨PA, pc, rfl⟩ := hr7.ps.shape
  dsimp only [Option.getD, Option.isSome, Rp.val, Rp.zero, List.length_nil]
  have HZ7 := Lib.hid ((HZ5.out.only ho7 (by simp)).alloc (.cells #[.int .i64 0, .int .i64 0, .slice PA 0 pc] 67))
  have HO7 := Lib.hid ((HO5.out.tr ho7).alloc (.cells #[.int .i64 0, .int .i64 0, .slice PA 0 pc] 67))
  obtain ⟨c0, c1, c2, c3, c4, c5, c6, c7, c8, c9, c10⟩ := cm_cells (HZ5.out.only ho7 (by simp))
  have hzl := (HZ5.out.only ho7 (by simp)).lt
  clear hr7 ho7 CT CK
  have CP7 := Lib.hid (CP4.out _ HO7.out)
  go_wp2_with fail
  refine CP7.out.mono ?_
  rintro e w8 ⟨rfl, ho8⟩
  dsimp only
  have HO8 := Lib.hid (HO4.out.tr (HO7.out.tr ho8))
  clear ho8 CP7 CP4 c0 c1 c2 c3 c4 c5 c6 c7 c8 c9 c10
  cases rb with
  | false =>
    go_wp2_with fail
    go_ret
    exact ⟨rfl, HO8.out⟩
  | true =>
    simp only [if_true] at hPl ⊢
    have hCl : 0 < (cmdb c).length := List.length_pos_iff.2 (cmdb_ne c)
    obtain ⟨q0, q1⟩ := pkI_lt at_ (cmdb c).length (by omega)
    obtain ⟨q, hq⟩ : ∃ p : Nat, pkI at_ (cmdb c).length = p := ⟨(pkI at_ (cmdb c).length).toNat, by omega⟩
    have CK := Lib.hid (CK2.out (cmdb c).length (by omega) hPl w8)
    rw [hq] at CK q0 q1
    have hql : q < (cmdb c).length := by omega
    have KQ := K2.out rfl q hql
    have CU := Lib.hid (cmd_unpack ((cmdb c).take q) w8 (by rw [List.length_take]; omega))
    unfold UnCW at CU
    rw [KQ] at CU
    obtain ⟨B, hB⟩ : ∃ B, cmdb c = B := ⟨_, rfl⟩
    rw [hB] at hPl hCl hql q1 CK CU ⊢
    clear hq KQ hB K2 CK2
    go_wp2_with fail
    refine CK.out.mono ?_
    rintro e w9 ⟨rfl, rfl⟩
    dsimp only
    go_wp2_with fail
    rw [str_from_start]
    refine CU.out.mono ?_
    rintro e w10 ⟨iv, rfl, hc10, ho10⟩
    obtain ⟨IA2, ic2, rfl⟩ := hc10.its.shape
    dsimp only [Option.getD, Option.isSome, Cm.val, Cm.zero, List.length_nil]
    have HO10 := Lib.hid ((HO8.out.tr ho10).alloc (.cells #[.int .i64 0, .int .i64 0, .int .i64 0, .int .i64 0, .int .i64 0, .int .i64 0, .int .i64 0, .string ⟨#[]⟩, .string ⟨#[]⟩, .slice IA2 0 ic2, .bool false] 65))
    clear hc10 ho10 CU CK
    go_wp2_with fail
    go_ret
    exact ⟨rfl, HO10.out⟩
end Go.Proofs.Ytjfnkjpnjiobjaa
