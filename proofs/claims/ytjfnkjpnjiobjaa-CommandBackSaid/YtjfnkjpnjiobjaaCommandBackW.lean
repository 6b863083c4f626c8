/-
  The walk over CommandBack. (Printed by gen_back18.py.)
-/
import Derived.Test.YtjfnkjpnjiobjaaC18ac
namespace Go.Proofs.Ytjfnkjpnjiobjaa
open Go.RowKit
set_option maxRecDepth 100000 in
set_option maxHeartbeats 16000000 in
theorem commandBack_walk (W : World) (v0 : Value) (c : Cm) (s0 : ∃ iv, v0 = c.val iv ∧ CmAt W iv c) (_ : True) (v1 : Value) (r : Rp) (s1 : ∃ pv, v1 = r.val pv ∧ RpIn W pv r) (_ : True) (S0 : ByteArray) (hS0 : S0.size ≤ maxLen) :
    Calls Try.prog 13 #[v0, v1, .string S0] W fun e W' => e = .returned (.bool true) ∧ Only [] W W' := by
  obtain ⟨s, rfl, hsl⟩ := str_of S0
  rw [hsl] at hS0
  unfold maxLen at hS0
  clear hsl
  obtain ⟨iv, rfl, h⟩ := s0
  obtain ⟨pv, rfl, h'⟩ := s1
  obtain ⟨IA, ic, rfl⟩ := h.its.shape
  obtain ⟨JA, jc, rfl⟩ := h'.ps.shape
  obtain ⟨w1, hw1⟩ : ∃ w1, W.alloc (.cells #[.int .i64 c.kd, .int .i64 c.ss, .int .i64 c.sq, .int .i64 c.sh, .int .i64 c.nd, .int .i64 c.ep, .int .i64 c.n, .string ⟨c.fd.toArray⟩, .string ⟨c.id.toArray⟩, .slice IA c.its.length ic, .bool c.fl] 65) = w1 := ⟨_, rfl⟩
  obtain ⟨w2, hw2⟩ : ∃ w2, w1.alloc (.cells #[.int .i64 r.er, .int .i64 r.n, .slice JA r.ps.length jc] 67) = w2 := ⟨_, rfl⟩
  obtain ⟨z1, hz1⟩ : ∃ z, W.heap.size = z := ⟨_, rfl⟩
  obtain ⟨z2, hz2⟩ : ∃ z, w1.heap.size = z := ⟨_, rfl⟩
  have O1 : Only [] W w1 := hw1 ▸ (Only.refl _ _).alloc _
  have O2 : Only [] w1 w2 := hw2 ▸ (Only.refl _ _).alloc _
  have a1 : Cells w1 z1 65 (c.cells (.slice IA c.its.length ic)) := hw1 ▸ hz1 ▸ Cells.new W _ _
  have a2 : Cells w2 z2 67 [.int .i64 r.er, .int .i64 r.n, .slice JA r.ps.length jc] := hw2 ▸ hz2 ▸ Cells.new w1 _ _
  have HZ1 := Lib.hid (a1.only O2 (by simp))
  have HZ2 := Lib.hid a2
  have HO := Lib.hid (O1.tr O2)
  have C0 := Lib.hid (shown18 w2)
  have CS := Lib.hid (fun w' (ho : Only [] W w') => small18 _ _ c r w' (h.only ho) (h'.only ho))
  have H := Lib.hid h
  have H' := Lib.hid h'
  have HVC : Hid (c.val (.slice IA c.its.length ic) = .agg #[.int .i64 c.kd, .int .i64 c.ss, .int .i64 c.sq, .int .i64 c.sh, .int .i64 c.nd, .int .i64 c.ep, .int .i64 c.n, .string ⟨c.fd.toArray⟩, .string ⟨c.id.toArray⟩, .slice IA c.its.length ic, .bool c.fl]) := Lib.hid rfl
  have HVR : Hid (r.val (.slice JA r.ps.length jc) = .agg #[.int .i64 r.er, .int .i64 r.n, .slice JA r.ps.length jc]) := Lib.hid rfl
  rw [HVC.out, HVR.out] at CS ⊢
  clear h h' a1 a2 O1 O2
  go_enter Try.func13, Try.ntmps13
  go_wp2_with fail
  clear hw1 hw2 hz1 hz2
  refine C0.out.mono ?_
  rintro e w3 ⟨rfl, ho3⟩
  dsimp only
  have HZ3 := Lib.hid (HZ1.out.only ho3 (by simp))
  have HY3 := Lib.hid (HZ2.out.only ho3 (by simp))
  have HO3 := Lib.hid (HO.out.tr ho3)
  clear C0 HO HZ1 HZ2 ho3
  obtain ⟨c0, c1, c2, c3, c4, c5, c6, c7, c8, c9, c10⟩ := cm_cells HZ3.out
  obtain ⟨d0, d1, d2⟩ := rp_cells HY3.out
  have CS3 := Lib.hid (CS.out w3 HO3.out)
  clear CS
  go_wp2_with fail
  refine CS3.out.mono ?_
  rintro e w4 ⟨ok, rfl, hok, ho4⟩
  dsimp only
  have HOK := Lib.hid hok
  have HZ4 := Lib.hid (HZ3.out.only ho4 (by simp))
  have HY4 := Lib.hid (HY3.out.only ho4 (by simp))
  have HO4 := Lib.hid (HO3.out.tr ho4)
  clear CS3 HO3 HZ3 HY3 ho4 hok c0 c1 c2 c3 c4 c5 c6 c7 c8 c9 c10 d0 d1 d2
  cases ok with
  | false =>
    go_wp2_with fail
    go_ret
    exact ⟨rfl, HO4.out⟩
  | true =>
  by_cases hs3 : 3000 < s.length
  · have d1 : decide ((3000 : Int) < (s.length : Int)) = true := by simp; omega
    go_wp2_with fail
    go_ret
    exact ⟨rfl, HO4.out⟩
  have d1 : decide ((3000 : Int) < (s.length : Int)) = false := by simp; omega
  have hsm := HOK.out rfl
  have HSM := Lib.hid hsm.sm
  have HRP := Lib.hid (hsm.rp H'.out)
  have CP := Lib.hid (cmd_pack c _ w4 (H.out.only HO4.out))
  have hPl := pkS_le c hsm
  have hAl := rpb_le r hsm HRP.out.er HRP.out.n (fun x hx => (HRP.out.sm x hx).sq)
  have CB1 := Lib.hid (fun w' (ho : Only [] W w') => cmd_answer r _ w' (HRP.out.only ho))
  have hCB : rightB c = true → (cmdb c).length ≤ 900000 := fun hr => by
    have := hPl
    unfold pkS at this
    rwa [if_pos hr] at this
  have CB2 : Hid ((0 ≤ r.er ∧ r.er ≤ 19) ∧ r.ps.length ≤ 100 → ∀ w', Calls Try.prog 44 #[.string ⟨(rpb r).toArray⟩] w' fun e w'' => ∃ pv, e = .returned (.tuple #[r.val pv, .int .i64 0]) ∧ RpAt w'' pv r ∧ Only [] w' w'') := Lib.hid (fun hh w' => by
    have hu : unA (rpb r) = some r := (unA_iff _ (by omega) r).2 ⟨⟨hh.1, HRP.out.n, hh.2, fun x hx => (HRP.out.sm x hx).ok⟩, rfl⟩
    have := cmd_toAnswer (rpb r) w' (by omega)
    unfold UnAW at this
    rw [hu] at this
    exact this)
  have CU1 : Hid (rightB c = true → ∀ w', Calls Try.prog 42 #[.string ⟨(cmdb c).toArray⟩] w' fun e w'' => ∃ iv, e = .returned (.tuple #[c.val iv, .int .i64 0]) ∧ CmAt w'' iv c ∧ Only [] w' w'') := Lib.hid (fun hh w' => by
    have hl := hCB hh
    have hu : unC (cmdb c) = some c := (unC_iff _ (by omega) c).2 ⟨hh, rfl⟩
    have := cmd_unpack (cmdb c) w' (by omega)
    unfold UnCW at this
    rw [hu] at this
    exact this)
  have CU2 : Hid (rightB c = true → ∀ w', Calls Try.prog 42 #[.string ⟨(cmdb c ++ [0]).toArray⟩] w' fun e w'' => ∃ iv, e = .returned (.tuple #[Cm.zero.val iv, .int .i64 8]) ∧ CmAt w'' iv Cm.zero ∧ Only [] w' w'') := Lib.hid (fun hh w' => by
    have hl := hCB hh
    have hl2 : (cmdb c ++ [0]).length ≤ 1000000000000 := by rw [List.length_append]; simp only [List.length_cons, List.length_nil]; omega
    have hu : unC (cmdb c ++ [0]) = none := cm_more c (right_ok hh) [0] (by simp) hl2
    have := cmd_unpack (cmdb c ++ [0]) w' hl2
    unfold UnCW at this
    rw [hu] at this
    exact this)
  have hn120 := hsm.n
  rw [HVC.out] at CP
  rw [HVR.out] at CB1
  have HPK : Hid (∀ b, rightB c = b → pkS c = (if b = true then cmdb c else []) ∧ pkE c = if b = true then 0 else 1) := Lib.hid (fun b hb => by unfold pkS pkE; rw [hb]; exact ⟨rfl, rfl⟩)
  obtain ⟨rb, hrb⟩ : ∃ P, rightB c = P := ⟨_, rfl⟩
  obtain ⟨e1, e2⟩ := HPK.out rb hrb
  rw [hrb] at CU1 CU2 hCB
  rw [e1, e2] at CP
  have HCB := Lib.hid hCB
  clear hrb e1 e2 hPl HPK hCB hsm HSM HRP HOK
  obtain ⟨ab, hab⟩ : ∃ P, rpb r = P := ⟨_, rfl⟩
  rw [hab] at CB1 CB2 hAl
  clear hab
  obtain ⟨c0, c1, c2, c3, c4, c5, c6, c7, c8, c9, c10⟩ := cm_cells HZ4.out
  go_wp2_with fail
  refine CP.out.mono ?_
  rintro e w5 ⟨rfl, ho5⟩
  dsimp only
  have HO5 := Lib.hid (HO4.out.tr ho5)
  have HZ5 := Lib.hid (HZ4.out.only ho5 (by simp))
  have HY5 := Lib.hid (HY4.out.only ho5 (by simp))
  clear ho5 CP c0 c1 c2 c3 c4 c5 c6 c7 c8 c9 c10 HO4 HZ4 HY4
  cases rb with
  | false =>
    clear CU1 CU2
    obtain ⟨y0, y1, y2⟩ := rp_cells HY5.out
    have yl := HY5.out.lt
    by_cases f1 : r.er < 0
    · have f1' : ¬ (0 ≤ r.er) := by omega
      clear CB1 CB2
      cases hv : unC s with
      | none =>
        have CV := Lib.hid (fun w' => cmd_unpack s w' (by omega))
        unfold UnCW at CV
        rw [hv] at CV
        clear hv
        go_wp2_with fail
        refine (CV.out _).mono ?_
        rintro e w4 ⟨iv, rfl, hc4, ho4⟩
        obtain ⟨DA, dc, rfl⟩ := hc4.its.shape
        dsimp only [Option.getD, Option.isSome, Cm.val, Cm.zero, List.length_nil]
        have HK4 := Lib.hid ((HO5.out.tr ho4).alloc (.cells #[.int .i64 0, .int .i64 0, .int .i64 0, .int .i64 0, .int .i64 0, .int .i64 0, .int .i64 0, .string ⟨#[]⟩, .string ⟨#[]⟩, .slice DA 0 dc, .bool false] 65))
        clear hc4 ho4 CV
        cases hu : unA s with
        | none =>
          have CT := Lib.hid (fun w' => cmd_toAnswer s w' (by omega))
          unfold UnAW at CT
          rw [hu] at CT
          clear hu
          go_wp2_with fail
          refine (CT.out _).mono ?_
          rintro e w6 ⟨pv, rfl, hr6, ho6⟩
          obtain ⟨PA, pc, rfl⟩ := hr6.ps.shape
          dsimp only [Option.getD, Option.isSome, Rp.val, Rp.zero, List.length_nil]
          have HF := Lib.hid ((HK4.out.tr ho6).alloc (.cells #[.int .i64 0, .int .i64 0, .slice PA 0 pc] 67))
          clear hr6 ho6 CT
          go_wp2_with fail
          go_ret
          exact ⟨rfl, HF.out⟩
        | some q =>
          obtain ⟨_, hq2⟩ := (unA_iff s (by omega) q).1 hu
          have CT := Lib.hid (fun w' => cmd_toAnswer s w' (by omega))
          unfold UnAW at CT
          rw [hu] at CT
          have CQ := Lib.hid (fun pv w' (ha : RpAt w' pv q) => cmd_answer q pv w' ha)
          rw [hq2] at CQ
          clear hu hq2
          go_wp2_with fail
          refine (CT.out _).mono ?_
          rintro e w6 ⟨pv, rfl, hr6, ho6⟩
          replace hr6 : RpAt w6 pv q := hr6
          obtain ⟨PA, pc, rfl⟩ := hr6.ps.shape
          dsimp only [Option.getD, Option.isSome, Rp.val]
          have HF := Lib.hid ((HK4.out.tr ho6).alloc (.cells #[.int .i64 q.er, .int .i64 q.n, .slice PA q.ps.length pc] 67))
          have CQ2 := Lib.hid (CQ.out _ _ (hr6.only ((Only.refl _ _).alloc (.cells #[.int .i64 q.er, .int .i64 q.n, .slice PA q.ps.length pc] 67))))
          unfold Rp.val at CQ2
          clear hr6 ho6 CT CQ
          go_wp2_with fail
          refine CQ2.out.mono ?_
          rintro e w7 ⟨rfl, ho7⟩
          dsimp only
          have HG := Lib.hid (HF.out.tr ho7)
          clear ho7 CQ2
          go_wp2_with fail
          go_ret
          exact ⟨by simp, HG.out⟩
      | some d =>
        obtain ⟨hd1, hd2⟩ := (unC_iff s (by omega) d).1 hv
        have CV := Lib.hid (fun w' => cmd_unpack s w' (by omega))
        unfold UnCW at CV
        rw [hv] at CV
        have CQ := Lib.hid (fun iv w' (ha : CmAt w' iv d) => cmd_pack d iv w' ha)
        have e1 : pkS d = s := by unfold pkS; rw [if_pos hd1, hd2]
        have e2 : pkE d = 0 := by unfold pkE; rw [if_pos hd1]
        rw [e1, e2] at CQ
        clear hv hd1 hd2 e1 e2
        go_wp2_with fail
        refine (CV.out _).mono ?_
        rintro e w4 ⟨iv, rfl, hc4, ho4⟩
        replace hc4 : CmAt w4 iv d := hc4
        obtain ⟨DA, dc, rfl⟩ := hc4.its.shape
        dsimp only [Option.getD, Option.isSome, Cm.val]
        have HK4 := Lib.hid ((HO5.out.tr ho4).alloc (.cells #[.int .i64 d.kd, .int .i64 d.ss, .int .i64 d.sq, .int .i64 d.sh, .int .i64 d.nd, .int .i64 d.ep, .int .i64 d.n, .string ⟨d.fd.toArray⟩, .string ⟨d.id.toArray⟩, .slice DA d.its.length dc, .bool d.fl] 65))
        have CQ2 := Lib.hid (CQ.out _ _ (hc4.only ((Only.refl _ _).alloc (.cells #[.int .i64 d.kd, .int .i64 d.ss, .int .i64 d.sq, .int .i64 d.sh, .int .i64 d.nd, .int .i64 d.ep, .int .i64 d.n, .string ⟨d.fd.toArray⟩, .string ⟨d.id.toArray⟩, .slice DA d.its.length dc, .bool d.fl] 65))))
        unfold Cm.val at CQ2
        clear hc4 ho4 CV CQ
        go_wp2_with fail
        refine CQ2.out.mono ?_
        rintro e w5 ⟨rfl, ho5⟩
        dsimp only
        have HK5 := Lib.hid (HK4.out.tr ho5)
        clear ho5 CQ2 HK4
        cases hu : unA s with
        | none =>
          have CT := Lib.hid (fun w' => cmd_toAnswer s w' (by omega))
          unfold UnAW at CT
          rw [hu] at CT
          clear hu
          go_wp2_with fail
          refine (CT.out _).mono ?_
          rintro e w8 ⟨pv, rfl, hr8, ho8⟩
          obtain ⟨PA, pc, rfl⟩ := hr8.ps.shape
          dsimp only [Option.getD, Option.isSome, Rp.val, Rp.zero, List.length_nil]
          have HF := Lib.hid ((HK5.out.tr ho8).alloc (.cells #[.int .i64 0, .int .i64 0, .slice PA 0 pc] 67))
          clear hr8 ho8 CT
          go_wp2_with fail
          go_ret
          exact ⟨rfl, HF.out⟩
        | some q =>
          obtain ⟨_, hq2⟩ := (unA_iff s (by omega) q).1 hu
          have CT := Lib.hid (fun w' => cmd_toAnswer s w' (by omega))
          unfold UnAW at CT
          rw [hu] at CT
          have CQ := Lib.hid (fun pv w' (ha : RpAt w' pv q) => cmd_answer q pv w' ha)
          rw [hq2] at CQ
          clear hu hq2
          go_wp2_with fail
          refine (CT.out _).mono ?_
          rintro e w8 ⟨pv, rfl, hr8, ho8⟩
          replace hr8 : RpAt w8 pv q := hr8
          obtain ⟨PA, pc, rfl⟩ := hr8.ps.shape
          dsimp only [Option.getD, Option.isSome, Rp.val]
          have HF := Lib.hid ((HK5.out.tr ho8).alloc (.cells #[.int .i64 q.er, .int .i64 q.n, .slice PA q.ps.length pc] 67))
          have CQ2 := Lib.hid (CQ.out _ _ (hr8.only ((Only.refl _ _).alloc (.cells #[.int .i64 q.er, .int .i64 q.n, .slice PA q.ps.length pc] 67))))
          unfold Rp.val at CQ2
          clear hr8 ho8 CT CQ
          go_wp2_with fail
          refine CQ2.out.mono ?_
          rintro e w9 ⟨rfl, ho9⟩
          dsimp only
          have HG := Lib.hid (HF.out.tr ho9)
          clear ho9 CQ2
          go_wp2_with fail
          go_ret
          exact ⟨by simp, HG.out⟩
    by_cases f2 : 19 < r.er
    · have f1' : 0 ≤ r.er := by omega
      have f2' : ¬ (r.er ≤ 19) := by omega
      clear CB1 CB2
      cases hv : unC s with
      | none =>
        have CV := Lib.hid (fun w' => cmd_unpack s w' (by omega))
        unfold UnCW at CV
        rw [hv] at CV
        clear hv
        go_wp2_with fail
        refine (CV.out _).mono ?_
        rintro e w10 ⟨iv, rfl, hc10, ho10⟩
        obtain ⟨DA, dc, rfl⟩ := hc10.its.shape
        dsimp only [Option.getD, Option.isSome, Cm.val, Cm.zero, List.length_nil]
        have HK10 := Lib.hid ((HO5.out.tr ho10).alloc (.cells #[.int .i64 0, .int .i64 0, .int .i64 0, .int .i64 0, .int .i64 0, .int .i64 0, .int .i64 0, .string ⟨#[]⟩, .string ⟨#[]⟩, .slice DA 0 dc, .bool false] 65))
        clear hc10 ho10 CV
        cases hu : unA s with
        | none =>
          have CT := Lib.hid (fun w' => cmd_toAnswer s w' (by omega))
          unfold UnAW at CT
          rw [hu] at CT
          clear hu
          go_wp2_with fail
          refine (CT.out _).mono ?_
          rintro e w12 ⟨pv, rfl, hr12, ho12⟩
          obtain ⟨PA, pc, rfl⟩ := hr12.ps.shape
          dsimp only [Option.getD, Option.isSome, Rp.val, Rp.zero, List.length_nil]
          have HF := Lib.hid ((HK10.out.tr ho12).alloc (.cells #[.int .i64 0, .int .i64 0, .slice PA 0 pc] 67))
          clear hr12 ho12 CT
          go_wp2_with fail
          go_ret
          exact ⟨rfl, HF.out⟩
        | some q =>
          obtain ⟨_, hq2⟩ := (unA_iff s (by omega) q).1 hu
          have CT := Lib.hid (fun w' => cmd_toAnswer s w' (by omega))
          unfold UnAW at CT
          rw [hu] at CT
          have CQ := Lib.hid (fun pv w' (ha : RpAt w' pv q) => cmd_answer q pv w' ha)
          rw [hq2] at CQ
          clear hu hq2
          go_wp2_with fail
          refine (CT.out _).mono ?_
          rintro e w12 ⟨pv, rfl, hr12, ho12⟩
          replace hr12 : RpAt w12 pv q := hr12
          obtain ⟨PA, pc, rfl⟩ := hr12.ps.shape
          dsimp only [Option.getD, Option.isSome, Rp.val]
          have HF := Lib.hid ((HK10.out.tr ho12).alloc (.cells #[.int .i64 q.er, .int .i64 q.n, .slice PA q.ps.length pc] 67))
          have CQ2 := Lib.hid (CQ.out _ _ (hr12.only ((Only.refl _ _).alloc (.cells #[.int .i64 q.er, .int .i64 q.n, .slice PA q.ps.length pc] 67))))
          unfold Rp.val at CQ2
          clear hr12 ho12 CT CQ
          go_wp2_with fail
          refine CQ2.out.mono ?_
          rintro e w13 ⟨rfl, ho13⟩
          dsimp only
          have HG := Lib.hid (HF.out.tr ho13)
          clear ho13 CQ2
          go_wp2_with fail
          go_ret
          exact ⟨by simp, HG.out⟩
      | some d =>
        obtain ⟨hd1, hd2⟩ := (unC_iff s (by omega) d).1 hv
        have CV := Lib.hid (fun w' => cmd_unpack s w' (by omega))
        unfold UnCW at CV
        rw [hv] at CV
        have CQ := Lib.hid (fun iv w' (ha : CmAt w' iv d) => cmd_pack d iv w' ha)
        have e1 : pkS d = s := by unfold pkS; rw [if_pos hd1, hd2]
        have e2 : pkE d = 0 := by unfold pkE; rw [if_pos hd1]
        rw [e1, e2] at CQ
        clear hv hd1 hd2 e1 e2
        go_wp2_with fail
        refine (CV.out _).mono ?_
        rintro e w10 ⟨iv, rfl, hc10, ho10⟩
        replace hc10 : CmAt w10 iv d := hc10
        obtain ⟨DA, dc, rfl⟩ := hc10.its.shape
        dsimp only [Option.getD, Option.isSome, Cm.val]
        have HK10 := Lib.hid ((HO5.out.tr ho10).alloc (.cells #[.int .i64 d.kd, .int .i64 d.ss, .int .i64 d.sq, .int .i64 d.sh, .int .i64 d.nd, .int .i64 d.ep, .int .i64 d.n, .string ⟨d.fd.toArray⟩, .string ⟨d.id.toArray⟩, .slice DA d.its.length dc, .bool d.fl] 65))
        have CQ2 := Lib.hid (CQ.out _ _ (hc10.only ((Only.refl _ _).alloc (.cells #[.int .i64 d.kd, .int .i64 d.ss, .int .i64 d.sq, .int .i64 d.sh, .int .i64 d.nd, .int .i64 d.ep, .int .i64 d.n, .string ⟨d.fd.toArray⟩, .string ⟨d.id.toArray⟩, .slice DA d.its.length dc, .bool d.fl] 65))))
        unfold Cm.val at CQ2
        clear hc10 ho10 CV CQ
        go_wp2_with fail
        refine CQ2.out.mono ?_
        rintro e w11 ⟨rfl, ho11⟩
        dsimp only
        have HK11 := Lib.hid (HK10.out.tr ho11)
        clear ho11 CQ2 HK10
        cases hu : unA s with
        | none =>
          have CT := Lib.hid (fun w' => cmd_toAnswer s w' (by omega))
          unfold UnAW at CT
          rw [hu] at CT
          clear hu
          go_wp2_with fail
          refine (CT.out _).mono ?_
          rintro e w14 ⟨pv, rfl, hr14, ho14⟩
          obtain ⟨PA, pc, rfl⟩ := hr14.ps.shape
          dsimp only [Option.getD, Option.isSome, Rp.val, Rp.zero, List.length_nil]
          have HF := Lib.hid ((HK11.out.tr ho14).alloc (.cells #[.int .i64 0, .int .i64 0, .slice PA 0 pc] 67))
          clear hr14 ho14 CT
          go_wp2_with fail
          go_ret
          exact ⟨rfl, HF.out⟩
        | some q =>
          obtain ⟨_, hq2⟩ := (unA_iff s (by omega) q).1 hu
          have CT := Lib.hid (fun w' => cmd_toAnswer s w' (by omega))
          unfold UnAW at CT
          rw [hu] at CT
          have CQ := Lib.hid (fun pv w' (ha : RpAt w' pv q) => cmd_answer q pv w' ha)
          rw [hq2] at CQ
          clear hu hq2
          go_wp2_with fail
          refine (CT.out _).mono ?_
          rintro e w14 ⟨pv, rfl, hr14, ho14⟩
          replace hr14 : RpAt w14 pv q := hr14
          obtain ⟨PA, pc, rfl⟩ := hr14.ps.shape
          dsimp only [Option.getD, Option.isSome, Rp.val]
          have HF := Lib.hid ((HK11.out.tr ho14).alloc (.cells #[.int .i64 q.er, .int .i64 q.n, .slice PA q.ps.length pc] 67))
          have CQ2 := Lib.hid (CQ.out _ _ (hr14.only ((Only.refl _ _).alloc (.cells #[.int .i64 q.er, .int .i64 q.n, .slice PA q.ps.length pc] 67))))
          unfold Rp.val at CQ2
          clear hr14 ho14 CT CQ
          go_wp2_with fail
          refine CQ2.out.mono ?_
          rintro e w15 ⟨rfl, ho15⟩
          dsimp only
          have HG := Lib.hid (HF.out.tr ho15)
          clear ho15 CQ2
          go_wp2_with fail
          go_ret
          exact ⟨by simp, HG.out⟩
    by_cases f3 : 100 < r.ps.length
    · have f1' : 0 ≤ r.er := by omega
      have f2' : r.er ≤ 19 := by omega
      have f3' : ¬ ((r.ps.length : Int) ≤ 100) := by omega
      clear CB1 CB2
      cases hv : unC s with
      | none =>
        have CV := Lib.hid (fun w' => cmd_unpack s w' (by omega))
        unfold UnCW at CV
        rw [hv] at CV
        clear hv
        go_wp2_with fail
        refine (CV.out _).mono ?_
        rintro e w16 ⟨iv, rfl, hc16, ho16⟩
        obtain ⟨DA, dc, rfl⟩ := hc16.its.shape
        dsimp only [Option.getD, Option.isSome, Cm.val, Cm.zero, List.length_nil]
        have HK16 := Lib.hid ((HO5.out.tr ho16).alloc (.cells #[.int .i64 0, .int .i64 0, .int .i64 0, .int .i64 0, .int .i64 0, .int .i64 0, .int .i64 0, .string ⟨#[]⟩, .string ⟨#[]⟩, .slice DA 0 dc, .bool false] 65))
        clear hc16 ho16 CV
        cases hu : unA s with
        | none =>
          have CT := Lib.hid (fun w' => cmd_toAnswer s w' (by omega))
          unfold UnAW at CT
          rw [hu] at CT
          clear hu
          go_wp2_with fail
          refine (CT.out _).mono ?_
          rintro e w18 ⟨pv, rfl, hr18, ho18⟩
          obtain ⟨PA, pc, rfl⟩ := hr18.ps.shape
          dsimp only [Option.getD, Option.isSome, Rp.val, Rp.zero, List.length_nil]
          have HF := Lib.hid ((HK16.out.tr ho18).alloc (.cells #[.int .i64 0, .int .i64 0, .slice PA 0 pc] 67))
          clear hr18 ho18 CT
          go_wp2_with fail
          go_ret
          exact ⟨rfl, HF.out⟩
        | some q =>
          obtain ⟨_, hq2⟩ := (unA_iff s (by omega) q).1 hu
          have CT := Lib.hid (fun w' => cmd_toAnswer s w' (by omega))
          unfold UnAW at CT
          rw [hu] at CT
          have CQ := Lib.hid (fun pv w' (ha : RpAt w' pv q) => cmd_answer q pv w' ha)
          rw [hq2] at CQ
          clear hu hq2
          go_wp2_with fail
          refine (CT.out _).mono ?_
          rintro e w18 ⟨pv, rfl, hr18, ho18⟩
          replace hr18 : RpAt w18 pv q := hr18
          obtain ⟨PA, pc, rfl⟩ := hr18.ps.shape
          dsimp only [Option.getD, Option.isSome, Rp.val]
          have HF := Lib.hid ((HK16.out.tr ho18).alloc (.cells #[.int .i64 q.er, .int .i64 q.n, .slice PA q.ps.length pc] 67))
          have CQ2 := Lib.hid (CQ.out _ _ (hr18.only ((Only.refl _ _).alloc (.cells #[.int .i64 q.er, .int .i64 q.n, .slice PA q.ps.length pc] 67))))
          unfold Rp.val at CQ2
          clear hr18 ho18 CT CQ
          go_wp2_with fail
          refine CQ2.out.mono ?_
          rintro e w19 ⟨rfl, ho19⟩
          dsimp only
          have HG := Lib.hid (HF.out.tr ho19)
          clear ho19 CQ2
          go_wp2_with fail
          go_ret
          exact ⟨by simp, HG.out⟩
      | some d =>
        obtain ⟨hd1, hd2⟩ := (unC_iff s (by omega) d).1 hv
        have CV := Lib.hid (fun w' => cmd_unpack s w' (by omega))
        unfold UnCW at CV
        rw [hv] at CV
        have CQ := Lib.hid (fun iv w' (ha : CmAt w' iv d) => cmd_pack d iv w' ha)
        have e1 : pkS d = s := by unfold pkS; rw [if_pos hd1, hd2]
        have e2 : pkE d = 0 := by unfold pkE; rw [if_pos hd1]
        rw [e1, e2] at CQ
        clear hv hd1 hd2 e1 e2
        go_wp2_with fail
        refine (CV.out _).mono ?_
        rintro e w16 ⟨iv, rfl, hc16, ho16⟩
        replace hc16 : CmAt w16 iv d := hc16
        obtain ⟨DA, dc, rfl⟩ := hc16.its.shape
        dsimp only [Option.getD, Option.isSome, Cm.val]
        have HK16 := Lib.hid ((HO5.out.tr ho16).alloc (.cells #[.int .i64 d.kd, .int .i64 d.ss, .int .i64 d.sq, .int .i64 d.sh, .int .i64 d.nd, .int .i64 d.ep, .int .i64 d.n, .string ⟨d.fd.toArray⟩, .string ⟨d.id.toArray⟩, .slice DA d.its.length dc, .bool d.fl] 65))
        have CQ2 := Lib.hid (CQ.out _ _ (hc16.only ((Only.refl _ _).alloc (.cells #[.int .i64 d.kd, .int .i64 d.ss, .int .i64 d.sq, .int .i64 d.sh, .int .i64 d.nd, .int .i64 d.ep, .int .i64 d.n, .string ⟨d.fd.toArray⟩, .string ⟨d.id.toArray⟩, .slice DA d.its.length dc, .bool d.fl] 65))))
        unfold Cm.val at CQ2
        clear hc16 ho16 CV CQ
        go_wp2_with fail
        refine CQ2.out.mono ?_
        rintro e w17 ⟨rfl, ho17⟩
        dsimp only
        have HK17 := Lib.hid (HK16.out.tr ho17)
        clear ho17 CQ2 HK16
        cases hu : unA s with
        | none =>
          have CT := Lib.hid (fun w' => cmd_toAnswer s w' (by omega))
          unfold UnAW at CT
          rw [hu] at CT
          clear hu
          go_wp2_with fail
          refine (CT.out _).mono ?_
          rintro e w20 ⟨pv, rfl, hr20, ho20⟩
          obtain ⟨PA, pc, rfl⟩ := hr20.ps.shape
          dsimp only [Option.getD, Option.isSome, Rp.val, Rp.zero, List.length_nil]
          have HF := Lib.hid ((HK17.out.tr ho20).alloc (.cells #[.int .i64 0, .int .i64 0, .slice PA 0 pc] 67))
          clear hr20 ho20 CT
          go_wp2_with fail
          go_ret
          exact ⟨rfl, HF.out⟩
        | some q =>
          obtain ⟨_, hq2⟩ := (unA_iff s (by omega) q).1 hu
          have CT := Lib.hid (fun w' => cmd_toAnswer s w' (by omega))
          unfold UnAW at CT
          rw [hu] at CT
          have CQ := Lib.hid (fun pv w' (ha : RpAt w' pv q) => cmd_answer q pv w' ha)
          rw [hq2] at CQ
          clear hu hq2
          go_wp2_with fail
          refine (CT.out _).mono ?_
          rintro e w20 ⟨pv, rfl, hr20, ho20⟩
          replace hr20 : RpAt w20 pv q := hr20
          obtain ⟨PA, pc, rfl⟩ := hr20.ps.shape
          dsimp only [Option.getD, Option.isSome, Rp.val]
          have HF := Lib.hid ((HK17.out.tr ho20).alloc (.cells #[.int .i64 q.er, .int .i64 q.n, .slice PA q.ps.length pc] 67))
          have CQ2 := Lib.hid (CQ.out _ _ (hr20.only ((Only.refl _ _).alloc (.cells #[.int .i64 q.er, .int .i64 q.n, .slice PA q.ps.length pc] 67))))
          unfold Rp.val at CQ2
          clear hr20 ho20 CT CQ
          go_wp2_with fail
          refine CQ2.out.mono ?_
          rintro e w21 ⟨rfl, ho21⟩
          dsimp only
          have HG := Lib.hid (HF.out.tr ho21)
          clear ho21 CQ2
          go_wp2_with fail
          go_ret
          exact ⟨by simp, HG.out⟩
    have f1' : 0 ≤ r.er := by omega
    have f2' : r.er ≤ 19 := by omega
    have f3' : (r.ps.length : Int) ≤ 100 := by omega
    have D2 := Lib.hid (CB2.out ⟨⟨f1', f2'⟩, by omega⟩)
    have D1 := Lib.hid (CB1.out _ HO5.out)
    clear CB1 CB2
    go_wp2_with fail
    refine D1.out.mono ?_
    rintro e w1 ⟨rfl, ho1⟩
    dsimp only
    have HK1 := Lib.hid (HO5.out.tr ho1)
    have HY1 := Lib.hid (HY5.out.only ho1 (by simp))
    clear ho1 D1 y0 y1 y2 yl
    go_wp2_with fail
    refine (D2.out _).mono ?_
    rintro e w2 ⟨pv, rfl, hr2, ho2⟩
    obtain ⟨PA, pc, rfl⟩ := hr2.ps.shape
    dsimp only
    have HK2 := Lib.hid ((HK1.out.tr ho2).alloc (.cells #[.int .i64 r.er, .int .i64 r.n, .slice PA r.ps.length pc] 67))
    have hy2 := HY1.out.only ho2 (by simp)
    have HY2 := Lib.hid (hy2.alloc (.cells #[.int .i64 r.er, .int .i64 r.n, .slice PA r.ps.length pc] 67))
    obtain ⟨y0, y1, y2⟩ := rp_cells hy2
    have yl := hy2.lt
    have CSR := Lib.hid (sameRp18 _ _ r _ (hr2.only ((Only.refl _ _).alloc (.cells #[.int .i64 r.er, .int .i64 r.n, .slice PA r.ps.length pc] 67))).ps (H'.out.only HK2.out).ps (by omega))
    unfold Rp.val at CSR ⊢
    clear hr2 ho2 D2 hy2 HK1 HY1
    go_wp2_with fail
    refine CSR.out.mono ?_
    rintro e w3 ⟨rfl, ho3⟩
    dsimp only
    have HK3 := Lib.hid (HK2.out.tr ho3)
    clear ho3 CSR y0 y1 y2 yl f1 f2 f3 HK2 HY2
    cases hv : unC s with
    | none =>
      have CV := Lib.hid (fun w' => cmd_unpack s w' (by omega))
      unfold UnCW at CV
      rw [hv] at CV
      clear hv
      go_wp2_with fail
      refine (CV.out _).mono ?_
      rintro e w22 ⟨iv, rfl, hc22, ho22⟩
      obtain ⟨DA, dc, rfl⟩ := hc22.its.shape
      dsimp only [Option.getD, Option.isSome, Cm.val, Cm.zero, List.length_nil]
      have HK22 := Lib.hid ((HK3.out.tr ho22).alloc (.cells #[.int .i64 0, .int .i64 0, .int .i64 0, .int .i64 0, .int .i64 0, .int .i64 0, .int .i64 0, .string ⟨#[]⟩, .string ⟨#[]⟩, .slice DA 0 dc, .bool false] 65))
      clear hc22 ho22 CV
      cases hu : unA s with
      | none =>
        have CT := Lib.hid (fun w' => cmd_toAnswer s w' (by omega))
        unfold UnAW at CT
        rw [hu] at CT
        clear hu
        go_wp2_with fail
        refine (CT.out _).mono ?_
        rintro e w24 ⟨pv, rfl, hr24, ho24⟩
        obtain ⟨PA, pc, rfl⟩ := hr24.ps.shape
        dsimp only [Option.getD, Option.isSome, Rp.val, Rp.zero, List.length_nil]
        have HF := Lib.hid ((HK22.out.tr ho24).alloc (.cells #[.int .i64 0, .int .i64 0, .slice PA 0 pc] 67))
        clear hr24 ho24 CT
        go_wp2_with fail
        go_ret
        exact ⟨rfl, HF.out⟩
      | some q =>
        obtain ⟨_, hq2⟩ := (unA_iff s (by omega) q).1 hu
        have CT := Lib.hid (fun w' => cmd_toAnswer s w' (by omega))
        unfold UnAW at CT
        rw [hu] at CT
        have CQ := Lib.hid (fun pv w' (ha : RpAt w' pv q) => cmd_answer q pv w' ha)
        rw [hq2] at CQ
        clear hu hq2
        go_wp2_with fail
        refine (CT.out _).mono ?_
        rintro e w24 ⟨pv, rfl, hr24, ho24⟩
        replace hr24 : RpAt w24 pv q := hr24
        obtain ⟨PA, pc, rfl⟩ := hr24.ps.shape
        dsimp only [Option.getD, Option.isSome, Rp.val]
        have HF := Lib.hid ((HK22.out.tr ho24).alloc (.cells #[.int .i64 q.er, .int .i64 q.n, .slice PA q.ps.length pc] 67))
        have CQ2 := Lib.hid (CQ.out _ _ (hr24.only ((Only.refl _ _).alloc (.cells #[.int .i64 q.er, .int .i64 q.n, .slice PA q.ps.length pc] 67))))
        unfold Rp.val at CQ2
        clear hr24 ho24 CT CQ
        go_wp2_with fail
        refine CQ2.out.mono ?_
        rintro e w25 ⟨rfl, ho25⟩
        dsimp only
        have HG := Lib.hid (HF.out.tr ho25)
        clear ho25 CQ2
        go_wp2_with fail
        go_ret
        exact ⟨by simp, HG.out⟩
    | some d =>
      obtain ⟨hd1, hd2⟩ := (unC_iff s (by omega) d).1 hv
      have CV := Lib.hid (fun w' => cmd_unpack s w' (by omega))
      unfold UnCW at CV
      rw [hv] at CV
      have CQ := Lib.hid (fun iv w' (ha : CmAt w' iv d) => cmd_pack d iv w' ha)
      have e1 : pkS d = s := by unfold pkS; rw [if_pos hd1, hd2]
      have e2 : pkE d = 0 := by unfold pkE; rw [if_pos hd1]
      rw [e1, e2] at CQ
      clear hv hd1 hd2 e1 e2
      go_wp2_with fail
      refine (CV.out _).mono ?_
      rintro e w22 ⟨iv, rfl, hc22, ho22⟩
      replace hc22 : CmAt w22 iv d := hc22
      obtain ⟨DA, dc, rfl⟩ := hc22.its.shape
      dsimp only [Option.getD, Option.isSome, Cm.val]
      have HK22 := Lib.hid ((HK3.out.tr ho22).alloc (.cells #[.int .i64 d.kd, .int .i64 d.ss, .int .i64 d.sq, .int .i64 d.sh, .int .i64 d.nd, .int .i64 d.ep, .int .i64 d.n, .string ⟨d.fd.toArray⟩, .string ⟨d.id.toArray⟩, .slice DA d.its.length dc, .bool d.fl] 65))
      have CQ2 := Lib.hid (CQ.out _ _ (hc22.only ((Only.refl _ _).alloc (.cells #[.int .i64 d.kd, .int .i64 d.ss, .int .i64 d.sq, .int .i64 d.sh, .int .i64 d.nd, .int .i64 d.ep, .int .i64 d.n, .string ⟨d.fd.toArray⟩, .string ⟨d.id.toArray⟩, .slice DA d.its.length dc, .bool d.fl] 65))))
      unfold Cm.val at CQ2
      clear hc22 ho22 CV CQ
      go_wp2_with fail
      refine CQ2.out.mono ?_
      rintro e w23 ⟨rfl, ho23⟩
      dsimp only
      have HK23 := Lib.hid (HK22.out.tr ho23)
      clear ho23 CQ2 HK22
      cases hu : unA s with
      | none =>
        have CT := Lib.hid (fun w' => cmd_toAnswer s w' (by omega))
        unfold UnAW at CT
        rw [hu] at CT
        clear hu
        go_wp2_with fail
        refine (CT.out _).mono ?_
        rintro e w26 ⟨pv, rfl, hr26, ho26⟩
        obtain ⟨PA, pc, rfl⟩ := hr26.ps.shape
        dsimp only [Option.getD, Option.isSome, Rp.val, Rp.zero, List.length_nil]
        have HF := Lib.hid ((HK23.out.tr ho26).alloc (.cells #[.int .i64 0, .int .i64 0, .slice PA 0 pc] 67))
        clear hr26 ho26 CT
        go_wp2_with fail
        go_ret
        exact ⟨rfl, HF.out⟩
      | some q =>
        obtain ⟨_, hq2⟩ := (unA_iff s (by omega) q).1 hu
        have CT := Lib.hid (fun w' => cmd_toAnswer s w' (by omega))
        unfold UnAW at CT
        rw [hu] at CT
        have CQ := Lib.hid (fun pv w' (ha : RpAt w' pv q) => cmd_answer q pv w' ha)
        rw [hq2] at CQ
        clear hu hq2
        go_wp2_with fail
        refine (CT.out _).mono ?_
        rintro e w26 ⟨pv, rfl, hr26, ho26⟩
        replace hr26 : RpAt w26 pv q := hr26
        obtain ⟨PA, pc, rfl⟩ := hr26.ps.shape
        dsimp only [Option.getD, Option.isSome, Rp.val]
        have HF := Lib.hid ((HK23.out.tr ho26).alloc (.cells #[.int .i64 q.er, .int .i64 q.n, .slice PA q.ps.length pc] 67))
        have CQ2 := Lib.hid (CQ.out _ _ (hr26.only ((Only.refl _ _).alloc (.cells #[.int .i64 q.er, .int .i64 q.n, .slice PA q.ps.length pc] 67))))
        unfold Rp.val at CQ2
        clear hr26 ho26 CT CQ
        go_wp2_with fail
        refine CQ2.out.mono ?_
        rintro e w27 ⟨rfl, ho27⟩
        dsimp only
        have HG := Lib.hid (HF.out.tr ho27)
        clear ho27 CQ2
        go_wp2_with fail
        go_ret
        exact ⟨by simp, HG.out⟩
  | true =>
    have hBl := HCB.out rfl
    have D1 := Lib.hid (CU1.out rfl)
    have D2 := Lib.hid (CU2.out rfl)
    clear CU1 CU2 HCB
    simp only [if_true]
    obtain ⟨B, hB⟩ : ∃ B, cmdb c = B := ⟨_, rfl⟩
    rw [hB] at hBl D1 D2 ⊢
    clear hB
    have hcat : (⟨B.toArray⟩ ++ ⟨#[0]⟩ : ByteArray) = ⟨(B ++ [0]).toArray⟩ := ba_append B [0]
    go_wp2_with fail
    refine (D1.out _).mono ?_
    rintro e w6 ⟨iv, rfl, hc6, ho6⟩
    obtain ⟨DA, dc, rfl⟩ := hc6.its.shape
    dsimp only
    unfold Cm.val
    go_wp2_with fail
    obtain ⟨w7, hw7⟩ : ∃ w7, w6.alloc (.cells #[.int .i64 c.kd, .int .i64 c.ss, .int .i64 c.sq, .int .i64 c.sh, .int .i64 c.nd, .int .i64 c.ep, .int .i64 c.n, .string ⟨c.fd.toArray⟩, .string ⟨c.id.toArray⟩, .slice DA c.its.length dc, .bool c.fl] 65) = w7 := ⟨_, rfl⟩
    obtain ⟨za, hza⟩ : ∃ z, w6.heap.size = z := ⟨_, rfl⟩
    have oa : Only [] w6 w7 := hw7 ▸ (Only.refl _ _).alloc _
    have ha : Cells w7 za 65 (c.cells (.slice DA c.its.length dc)) := hw7 ▸ hza ▸ Cells.new w6 _ _
    have HA := Lib.hid ha
    have HO7 := Lib.hid ((HO5.out.tr ho6).tr oa)
    have HZ7 := Lib.hid ((HZ5.out.only ho6 (by simp)).only oa (by simp))
    have HY7 := Lib.hid ((HY5.out.only ho6 (by simp)).only oa (by simp))
    have HC7 := Lib.hid (hc6.only oa)
    rw [hw7, hza]
    clear oa ha ho6 hc6 D1 HO5 HZ5 HY5 hw7 hza hcat
    refine (D2.out _).mono ?_
    rintro e w8 ⟨iv2, rfl, hc8, ho8⟩
    obtain ⟨EA, ec, rfl⟩ := hc8.its.shape
    dsimp only [Cm.val, Cm.zero, List.length_nil]
    have HA8 := Lib.hid (HA.out.only ho8 (by simp))
    have HZ8 := Lib.hid (HZ7.out.only ho8 (by simp))
    have HY8 := Lib.hid ((HY7.out.only ho8 (by simp)).alloc (.cells #[.int .i64 0, .int .i64 0, .int .i64 0, .int .i64 0, .int .i64 0, .int .i64 0, .int .i64 0, .string ⟨#[]⟩, .string ⟨#[]⟩, .slice EA 0 ec, .bool false] 65))
    have HO8 := Lib.hid ((HO7.out.tr ho8).alloc (.cells #[.int .i64 0, .int .i64 0, .int .i64 0, .int .i64 0, .int .i64 0, .int .i64 0, .int .i64 0, .string ⟨#[]⟩, .string ⟨#[]⟩, .slice EA 0 ec, .bool false] 65))
    have HC8 := Lib.hid ((HC7.out.only ho8).only ((Only.refl _ _).alloc (.cells #[.int .i64 0, .int .i64 0, .int .i64 0, .int .i64 0, .int .i64 0, .int .i64 0, .int .i64 0, .string ⟨#[]⟩, .string ⟨#[]⟩, .slice EA 0 ec, .bool false] 65)))
    have CSC := Lib.hid (same18 _ _ c _ HC8.out (H.out.only HO8.out) (by omega))
    unfold Cm.val at CSC
    obtain ⟨g0, g1, g2, g3, g4, g5, g6, g7, g8, g9, g10⟩ := cm_cells HA8.out
    obtain ⟨c0, c1, c2, c3, c4, c5, c6, c7, c8, c9, c10⟩ := cm_cells HZ8.out
    have gl := HA8.out.lt
    have cl := HZ8.out.lt
    clear hc8 ho8 D2 HC7 HZ7 HY7 HO7 HA HC8
    go_wp2_with fail
    refine CSC.out.mono ?_
    rintro e w9 ⟨rfl, ho9⟩
    dsimp only
    have HO9 := Lib.hid (HO8.out.tr ho9)
    have HY9 := Lib.hid (HY8.out.only ho9 (by simp))
    clear ho9 CSC g0 g1 g2 g3 g4 g5 g6 g7 g8 g9 g10 c0 c1 c2 c3 c4 c5 c6 c7 c8 c9 c10 gl cl HA8 HZ8 HO8 HY8 hBl
    obtain ⟨y0, y1, y2⟩ := rp_cells HY9.out
    have yl := HY9.out.lt
    by_cases f1 : r.er < 0
    · have f1' : ¬ (0 ≤ r.er) := by omega
      clear CB1 CB2
      cases hv : unC s with
      | none =>
        have CV := Lib.hid (fun w' => cmd_unpack s w' (by omega))
        unfold UnCW at CV
        rw [hv] at CV
        clear hv
        go_wp2_with fail
        refine (CV.out _).mono ?_
        rintro e w31 ⟨iv, rfl, hc31, ho31⟩
        obtain ⟨DA, dc, rfl⟩ := hc31.its.shape
        dsimp only [Option.getD, Option.isSome, Cm.val, Cm.zero, List.length_nil]
        have HK31 := Lib.hid ((HO9.out.tr ho31).alloc (.cells #[.int .i64 0, .int .i64 0, .int .i64 0, .int .i64 0, .int .i64 0, .int .i64 0, .int .i64 0, .string ⟨#[]⟩, .string ⟨#[]⟩, .slice DA 0 dc, .bool false] 65))
        clear hc31 ho31 CV
        cases hu : unA s with
        | none =>
          have CT := Lib.hid (fun w' => cmd_toAnswer s w' (by omega))
          unfold UnAW at CT
          rw [hu] at CT
          clear hu
          go_wp2_with fail
          refine (CT.out _).mono ?_
          rintro e w33 ⟨pv, rfl, hr33, ho33⟩
          obtain ⟨PA, pc, rfl⟩ := hr33.ps.shape
          dsimp only [Option.getD, Option.isSome, Rp.val, Rp.zero, List.length_nil]
          have HF := Lib.hid ((HK31.out.tr ho33).alloc (.cells #[.int .i64 0, .int .i64 0, .slice PA 0 pc] 67))
          clear hr33 ho33 CT
          go_wp2_with fail
          go_ret
          exact ⟨rfl, HF.out⟩
        | some q =>
          obtain ⟨_, hq2⟩ := (unA_iff s (by omega) q).1 hu
          have CT := Lib.hid (fun w' => cmd_toAnswer s w' (by omega))
          unfold UnAW at CT
          rw [hu] at CT
          have CQ := Lib.hid (fun pv w' (ha : RpAt w' pv q) => cmd_answer q pv w' ha)
          rw [hq2] at CQ
          clear hu hq2
          go_wp2_with fail
          refine (CT.out _).mono ?_
          rintro e w33 ⟨pv, rfl, hr33, ho33⟩
          replace hr33 : RpAt w33 pv q := hr33
          obtain ⟨PA, pc, rfl⟩ := hr33.ps.shape
          dsimp only [Option.getD, Option.isSome, Rp.val]
          have HF := Lib.hid ((HK31.out.tr ho33).alloc (.cells #[.int .i64 q.er, .int .i64 q.n, .slice PA q.ps.length pc] 67))
          have CQ2 := Lib.hid (CQ.out _ _ (hr33.only ((Only.refl _ _).alloc (.cells #[.int .i64 q.er, .int .i64 q.n, .slice PA q.ps.length pc] 67))))
          unfold Rp.val at CQ2
          clear hr33 ho33 CT CQ
          go_wp2_with fail
          refine CQ2.out.mono ?_
          rintro e w34 ⟨rfl, ho34⟩
          dsimp only
          have HG := Lib.hid (HF.out.tr ho34)
          clear ho34 CQ2
          go_wp2_with fail
          go_ret
          exact ⟨by simp, HG.out⟩
      | some d =>
        obtain ⟨hd1, hd2⟩ := (unC_iff s (by omega) d).1 hv
        have CV := Lib.hid (fun w' => cmd_unpack s w' (by omega))
        unfold UnCW at CV
        rw [hv] at CV
        have CQ := Lib.hid (fun iv w' (ha : CmAt w' iv d) => cmd_pack d iv w' ha)
        have e1 : pkS d = s := by unfold pkS; rw [if_pos hd1, hd2]
        have e2 : pkE d = 0 := by unfold pkE; rw [if_pos hd1]
        rw [e1, e2] at CQ
        clear hv hd1 hd2 e1 e2
        go_wp2_with fail
        refine (CV.out _).mono ?_
        rintro e w31 ⟨iv, rfl, hc31, ho31⟩
        replace hc31 : CmAt w31 iv d := hc31
        obtain ⟨DA, dc, rfl⟩ := hc31.its.shape
        dsimp only [Option.getD, Option.isSome, Cm.val]
        have HK31 := Lib.hid ((HO9.out.tr ho31).alloc (.cells #[.int .i64 d.kd, .int .i64 d.ss, .int .i64 d.sq, .int .i64 d.sh, .int .i64 d.nd, .int .i64 d.ep, .int .i64 d.n, .string ⟨d.fd.toArray⟩, .string ⟨d.id.toArray⟩, .slice DA d.its.length dc, .bool d.fl] 65))
        have CQ2 := Lib.hid (CQ.out _ _ (hc31.only ((Only.refl _ _).alloc (.cells #[.int .i64 d.kd, .int .i64 d.ss, .int .i64 d.sq, .int .i64 d.sh, .int .i64 d.nd, .int .i64 d.ep, .int .i64 d.n, .string ⟨d.fd.toArray⟩, .string ⟨d.id.toArray⟩, .slice DA d.its.length dc, .bool d.fl] 65))))
        unfold Cm.val at CQ2
        clear hc31 ho31 CV CQ
        go_wp2_with fail
        refine CQ2.out.mono ?_
        rintro e w32 ⟨rfl, ho32⟩
        dsimp only
        have HK32 := Lib.hid (HK31.out.tr ho32)
        clear ho32 CQ2 HK31
        cases hu : unA s with
        | none =>
          have CT := Lib.hid (fun w' => cmd_toAnswer s w' (by omega))
          unfold UnAW at CT
          rw [hu] at CT
          clear hu
          go_wp2_with fail
          refine (CT.out _).mono ?_
          rintro e w35 ⟨pv, rfl, hr35, ho35⟩
          obtain ⟨PA, pc, rfl⟩ := hr35.ps.shape
          dsimp only [Option.getD, Option.isSome, Rp.val, Rp.zero, List.length_nil]
          have HF := Lib.hid ((HK32.out.tr ho35).alloc (.cells #[.int .i64 0, .int .i64 0, .slice PA 0 pc] 67))
          clear hr35 ho35 CT
          go_wp2_with fail
          go_ret
          exact ⟨rfl, HF.out⟩
        | some q =>
          obtain ⟨_, hq2⟩ := (unA_iff s (by omega) q).1 hu
          have CT := Lib.hid (fun w' => cmd_toAnswer s w' (by omega))
          unfold UnAW at CT
          rw [hu] at CT
          have CQ := Lib.hid (fun pv w' (ha : RpAt w' pv q) => cmd_answer q pv w' ha)
          rw [hq2] at CQ
          clear hu hq2
          go_wp2_with fail
          refine (CT.out _).mono ?_
          rintro e w35 ⟨pv, rfl, hr35, ho35⟩
          replace hr35 : RpAt w35 pv q := hr35
          obtain ⟨PA, pc, rfl⟩ := hr35.ps.shape
          dsimp only [Option.getD, Option.isSome, Rp.val]
          have HF := Lib.hid ((HK32.out.tr ho35).alloc (.cells #[.int .i64 q.er, .int .i64 q.n, .slice PA q.ps.length pc] 67))
          have CQ2 := Lib.hid (CQ.out _ _ (hr35.only ((Only.refl _ _).alloc (.cells #[.int .i64 q.er, .int .i64 q.n, .slice PA q.ps.length pc] 67))))
          unfold Rp.val at CQ2
          clear hr35 ho35 CT CQ
          go_wp2_with fail
          refine CQ2.out.mono ?_
          rintro e w36 ⟨rfl, ho36⟩
          dsimp only
          have HG := Lib.hid (HF.out.tr ho36)
          clear ho36 CQ2
          go_wp2_with fail
          go_ret
          exact ⟨by simp, HG.out⟩
    by_cases f2 : 19 < r.er
    · have f1' : 0 ≤ r.er := by omega
      have f2' : ¬ (r.er ≤ 19) := by omega
      clear CB1 CB2
      cases hv : unC s with
      | none =>
        have CV := Lib.hid (fun w' => cmd_unpack s w' (by omega))
        unfold UnCW at CV
        rw [hv] at CV
        clear hv
        go_wp2_with fail
        refine (CV.out _).mono ?_
        rintro e w37 ⟨iv, rfl, hc37, ho37⟩
        obtain ⟨DA, dc, rfl⟩ := hc37.its.shape
        dsimp only [Option.getD, Option.isSome, Cm.val, Cm.zero, List.length_nil]
        have HK37 := Lib.hid ((HO9.out.tr ho37).alloc (.cells #[.int .i64 0, .int .i64 0, .int .i64 0, .int .i64 0, .int .i64 0, .int .i64 0, .int .i64 0, .string ⟨#[]⟩, .string ⟨#[]⟩, .slice DA 0 dc, .bool false] 65))
        clear hc37 ho37 CV
        cases hu : unA s with
        | none =>
          have CT := Lib.hid (fun w' => cmd_toAnswer s w' (by omega))
          unfold UnAW at CT
          rw [hu] at CT
          clear hu
          go_wp2_with fail
          refine (CT.out _).mono ?_
          rintro e w39 ⟨pv, rfl, hr39, ho39⟩
          obtain ⟨PA, pc, rfl⟩ := hr39.ps.shape
          dsimp only [Option.getD, Option.isSome, Rp.val, Rp.zero, List.length_nil]
          have HF := Lib.hid ((HK37.out.tr ho39).alloc (.cells #[.int .i64 0, .int .i64 0, .slice PA 0 pc] 67))
          clear hr39 ho39 CT
          go_wp2_with fail
          go_ret
          exact ⟨rfl, HF.out⟩
        | some q =>
          obtain ⟨_, hq2⟩ := (unA_iff s (by omega) q).1 hu
          have CT := Lib.hid (fun w' => cmd_toAnswer s w' (by omega))
          unfold UnAW at CT
          rw [hu] at CT
          have CQ := Lib.hid (fun pv w' (ha : RpAt w' pv q) => cmd_answer q pv w' ha)
          rw [hq2] at CQ
          clear hu hq2
          go_wp2_with fail
          refine (CT.out _).mono ?_
          rintro e w39 ⟨pv, rfl, hr39, ho39⟩
          replace hr39 : RpAt w39 pv q := hr39
          obtain ⟨PA, pc, rfl⟩ := hr39.ps.shape
          dsimp only [Option.getD, Option.isSome, Rp.val]
          have HF := Lib.hid ((HK37.out.tr ho39).alloc (.cells #[.int .i64 q.er, .int .i64 q.n, .slice PA q.ps.length pc] 67))
          have CQ2 := Lib.hid (CQ.out _ _ (hr39.only ((Only.refl _ _).alloc (.cells #[.int .i64 q.er, .int .i64 q.n, .slice PA q.ps.length pc] 67))))
          unfold Rp.val at CQ2
          clear hr39 ho39 CT CQ
          go_wp2_with fail
          refine CQ2.out.mono ?_
          rintro e w40 ⟨rfl, ho40⟩
          dsimp only
          have HG := Lib.hid (HF.out.tr ho40)
          clear ho40 CQ2
          go_wp2_with fail
          go_ret
          exact ⟨by simp, HG.out⟩
      | some d =>
        obtain ⟨hd1, hd2⟩ := (unC_iff s (by omega) d).1 hv
        have CV := Lib.hid (fun w' => cmd_unpack s w' (by omega))
        unfold UnCW at CV
        rw [hv] at CV
        have CQ := Lib.hid (fun iv w' (ha : CmAt w' iv d) => cmd_pack d iv w' ha)
        have e1 : pkS d = s := by unfold pkS; rw [if_pos hd1, hd2]
        have e2 : pkE d = 0 := by unfold pkE; rw [if_pos hd1]
        rw [e1, e2] at CQ
        clear hv hd1 hd2 e1 e2
        go_wp2_with fail
        refine (CV.out _).mono ?_
        rintro e w37 ⟨iv, rfl, hc37, ho37⟩
        replace hc37 : CmAt w37 iv d := hc37
        obtain ⟨DA, dc, rfl⟩ := hc37.its.shape
        dsimp only [Option.getD, Option.isSome, Cm.val]
        have HK37 := Lib.hid ((HO9.out.tr ho37).alloc (.cells #[.int .i64 d.kd, .int .i64 d.ss, .int .i64 d.sq, .int .i64 d.sh, .int .i64 d.nd, .int .i64 d.ep, .int .i64 d.n, .string ⟨d.fd.toArray⟩, .string ⟨d.id.toArray⟩, .slice DA d.its.length dc, .bool d.fl] 65))
        have CQ2 := Lib.hid (CQ.out _ _ (hc37.only ((Only.refl _ _).alloc (.cells #[.int .i64 d.kd, .int .i64 d.ss, .int .i64 d.sq, .int .i64 d.sh, .int .i64 d.nd, .int .i64 d.ep, .int .i64 d.n, .string ⟨d.fd.toArray⟩, .string ⟨d.id.toArray⟩, .slice DA d.its.length dc, .bool d.fl] 65))))
        unfold Cm.val at CQ2
        clear hc37 ho37 CV CQ
        go_wp2_with fail
        refine CQ2.out.mono ?_
        rintro e w38 ⟨rfl, ho38⟩
        dsimp only
        have HK38 := Lib.hid (HK37.out.tr ho38)
        clear ho38 CQ2 HK37
        cases hu : unA s with
        | none =>
          have CT := Lib.hid (fun w' => cmd_toAnswer s w' (by omega))
          unfold UnAW at CT
          rw [hu] at CT
          clear hu
          go_wp2_with fail
          refine (CT.out _).mono ?_
          rintro e w41 ⟨pv, rfl, hr41, ho41⟩
          obtain ⟨PA, pc, rfl⟩ := hr41.ps.shape
          dsimp only [Option.getD, Option.isSome, Rp.val, Rp.zero, List.length_nil]
          have HF := Lib.hid ((HK38.out.tr ho41).alloc (.cells #[.int .i64 0, .int .i64 0, .slice PA 0 pc] 67))
          clear hr41 ho41 CT
          go_wp2_with fail
          go_ret
          exact ⟨rfl, HF.out⟩
        | some q =>
          obtain ⟨_, hq2⟩ := (unA_iff s (by omega) q).1 hu
          have CT := Lib.hid (fun w' => cmd_toAnswer s w' (by omega))
          unfold UnAW at CT
          rw [hu] at CT
          have CQ := Lib.hid (fun pv w' (ha : RpAt w' pv q) => cmd_answer q pv w' ha)
          rw [hq2] at CQ
          clear hu hq2
          go_wp2_with fail
          refine (CT.out _).mono ?_
          rintro e w41 ⟨pv, rfl, hr41, ho41⟩
          replace hr41 : RpAt w41 pv q := hr41
          obtain ⟨PA, pc, rfl⟩ := hr41.ps.shape
          dsimp only [Option.getD, Option.isSome, Rp.val]
          have HF := Lib.hid ((HK38.out.tr ho41).alloc (.cells #[.int .i64 q.er, .int .i64 q.n, .slice PA q.ps.length pc] 67))
          have CQ2 := Lib.hid (CQ.out _ _ (hr41.only ((Only.refl _ _).alloc (.cells #[.int .i64 q.er, .int .i64 q.n, .slice PA q.ps.length pc] 67))))
          unfold Rp.val at CQ2
          clear hr41 ho41 CT CQ
          go_wp2_with fail
          refine CQ2.out.mono ?_
          rintro e w42 ⟨rfl, ho42⟩
          dsimp only
          have HG := Lib.hid (HF.out.tr ho42)
          clear ho42 CQ2
          go_wp2_with fail
          go_ret
          exact ⟨by simp, HG.out⟩
    by_cases f3 : 100 < r.ps.length
    · have f1' : 0 ≤ r.er := by omega
      have f2' : r.er ≤ 19 := by omega
      have f3' : ¬ ((r.ps.length : Int) ≤ 100) := by omega
      clear CB1 CB2
      cases hv : unC s with
      | none =>
        have CV := Lib.hid (fun w' => cmd_unpack s w' (by omega))
        unfold UnCW at CV
        rw [hv] at CV
        clear hv
        go_wp2_with fail
        refine (CV.out _).mono ?_
        rintro e w43 ⟨iv, rfl, hc43, ho43⟩
        obtain ⟨DA, dc, rfl⟩ := hc43.its.shape
        dsimp only [Option.getD, Option.isSome, Cm.val, Cm.zero, List.length_nil]
        have HK43 := Lib.hid ((HO9.out.tr ho43).alloc (.cells #[.int .i64 0, .int .i64 0, .int .i64 0, .int .i64 0, .int .i64 0, .int .i64 0, .int .i64 0, .string ⟨#[]⟩, .string ⟨#[]⟩, .slice DA 0 dc, .bool false] 65))
        clear hc43 ho43 CV
        cases hu : unA s with
        | none =>
          have CT := Lib.hid (fun w' => cmd_toAnswer s w' (by omega))
          unfold UnAW at CT
          rw [hu] at CT
          clear hu
          go_wp2_with fail
          refine (CT.out _).mono ?_
          rintro e w45 ⟨pv, rfl, hr45, ho45⟩
          obtain ⟨PA, pc, rfl⟩ := hr45.ps.shape
          dsimp only [Option.getD, Option.isSome, Rp.val, Rp.zero, List.length_nil]
          have HF := Lib.hid ((HK43.out.tr ho45).alloc (.cells #[.int .i64 0, .int .i64 0, .slice PA 0 pc] 67))
          clear hr45 ho45 CT
          go_wp2_with fail
          go_ret
          exact ⟨rfl, HF.out⟩
        | some q =>
          obtain ⟨_, hq2⟩ := (unA_iff s (by omega) q).1 hu
          have CT := Lib.hid (fun w' => cmd_toAnswer s w' (by omega))
          unfold UnAW at CT
          rw [hu] at CT
          have CQ := Lib.hid (fun pv w' (ha : RpAt w' pv q) => cmd_answer q pv w' ha)
          rw [hq2] at CQ
          clear hu hq2
          go_wp2_with fail
          refine (CT.out _).mono ?_
          rintro e w45 ⟨pv, rfl, hr45, ho45⟩
          replace hr45 : RpAt w45 pv q := hr45
          obtain ⟨PA, pc, rfl⟩ := hr45.ps.shape
          dsimp only [Option.getD, Option.isSome, Rp.val]
          have HF := Lib.hid ((HK43.out.tr ho45).alloc (.cells #[.int .i64 q.er, .int .i64 q.n, .slice PA q.ps.length pc] 67))
          have CQ2 := Lib.hid (CQ.out _ _ (hr45.only ((Only.refl _ _).alloc (.cells #[.int .i64 q.er, .int .i64 q.n, .slice PA q.ps.length pc] 67))))
          unfold Rp.val at CQ2
          clear hr45 ho45 CT CQ
          go_wp2_with fail
          refine CQ2.out.mono ?_
          rintro e w46 ⟨rfl, ho46⟩
          dsimp only
          have HG := Lib.hid (HF.out.tr ho46)
          clear ho46 CQ2
          go_wp2_with fail
          go_ret
          exact ⟨by simp, HG.out⟩
      | some d =>
        obtain ⟨hd1, hd2⟩ := (unC_iff s (by omega) d).1 hv
        have CV := Lib.hid (fun w' => cmd_unpack s w' (by omega))
        unfold UnCW at CV
        rw [hv] at CV
        have CQ := Lib.hid (fun iv w' (ha : CmAt w' iv d) => cmd_pack d iv w' ha)
        have e1 : pkS d = s := by unfold pkS; rw [if_pos hd1, hd2]
        have e2 : pkE d = 0 := by unfold pkE; rw [if_pos hd1]
        rw [e1, e2] at CQ
        clear hv hd1 hd2 e1 e2
        go_wp2_with fail
        refine (CV.out _).mono ?_
        rintro e w43 ⟨iv, rfl, hc43, ho43⟩
        replace hc43 : CmAt w43 iv d := hc43
        obtain ⟨DA, dc, rfl⟩ := hc43.its.shape
        dsimp only [Option.getD, Option.isSome, Cm.val]
        have HK43 := Lib.hid ((HO9.out.tr ho43).alloc (.cells #[.int .i64 d.kd, .int .i64 d.ss, .int .i64 d.sq, .int .i64 d.sh, .int .i64 d.nd, .int .i64 d.ep, .int .i64 d.n, .string ⟨d.fd.toArray⟩, .string ⟨d.id.toArray⟩, .slice DA d.its.length dc, .bool d.fl] 65))
        have CQ2 := Lib.hid (CQ.out _ _ (hc43.only ((Only.refl _ _).alloc (.cells #[.int .i64 d.kd, .int .i64 d.ss, .int .i64 d.sq, .int .i64 d.sh, .int .i64 d.nd, .int .i64 d.ep, .int .i64 d.n, .string ⟨d.fd.toArray⟩, .string ⟨d.id.toArray⟩, .slice DA d.its.length dc, .bool d.fl] 65))))
        unfold Cm.val at CQ2
        clear hc43 ho43 CV CQ
        go_wp2_with fail
        refine CQ2.out.mono ?_
        rintro e w44 ⟨rfl, ho44⟩
        dsimp only
        have HK44 := Lib.hid (HK43.out.tr ho44)
        clear ho44 CQ2 HK43
        cases hu : unA s with
        | none =>
          have CT := Lib.hid (fun w' => cmd_toAnswer s w' (by omega))
          unfold UnAW at CT
          rw [hu] at CT
          clear hu
          go_wp2_with fail
          refine (CT.out _).mono ?_
          rintro e w47 ⟨pv, rfl, hr47, ho47⟩
          obtain ⟨PA, pc, rfl⟩ := hr47.ps.shape
          dsimp only [Option.getD, Option.isSome, Rp.val, Rp.zero, List.length_nil]
          have HF := Lib.hid ((HK44.out.tr ho47).alloc (.cells #[.int .i64 0, .int .i64 0, .slice PA 0 pc] 67))
          clear hr47 ho47 CT
          go_wp2_with fail
          go_ret
          exact ⟨rfl, HF.out⟩
        | some q =>
          obtain ⟨_, hq2⟩ := (unA_iff s (by omega) q).1 hu
          have CT := Lib.hid (fun w' => cmd_toAnswer s w' (by omega))
          unfold UnAW at CT
          rw [hu] at CT
          have CQ := Lib.hid (fun pv w' (ha : RpAt w' pv q) => cmd_answer q pv w' ha)
          rw [hq2] at CQ
          clear hu hq2
          go_wp2_with fail
          refine (CT.out _).mono ?_
          rintro e w47 ⟨pv, rfl, hr47, ho47⟩
          replace hr47 : RpAt w47 pv q := hr47
          obtain ⟨PA, pc, rfl⟩ := hr47.ps.shape
          dsimp only [Option.getD, Option.isSome, Rp.val]
          have HF := Lib.hid ((HK44.out.tr ho47).alloc (.cells #[.int .i64 q.er, .int .i64 q.n, .slice PA q.ps.length pc] 67))
          have CQ2 := Lib.hid (CQ.out _ _ (hr47.only ((Only.refl _ _).alloc (.cells #[.int .i64 q.er, .int .i64 q.n, .slice PA q.ps.length pc] 67))))
          unfold Rp.val at CQ2
          clear hr47 ho47 CT CQ
          go_wp2_with fail
          refine CQ2.out.mono ?_
          rintro e w48 ⟨rfl, ho48⟩
          dsimp only
          have HG := Lib.hid (HF.out.tr ho48)
          clear ho48 CQ2
          go_wp2_with fail
          go_ret
          exact ⟨by simp, HG.out⟩
    have f1' : 0 ≤ r.er := by omega
    have f2' : r.er ≤ 19 := by omega
    have f3' : (r.ps.length : Int) ≤ 100 := by omega
    have D2 := Lib.hid (CB2.out ⟨⟨f1', f2'⟩, by omega⟩)
    have D1 := Lib.hid (CB1.out _ HO9.out)
    clear CB1 CB2
    go_wp2_with fail
    refine D1.out.mono ?_
    rintro e w28 ⟨rfl, ho28⟩
    dsimp only
    have HK28 := Lib.hid (HO9.out.tr ho28)
    have HY28 := Lib.hid (HY9.out.only ho28 (by simp))
    clear ho28 D1 y0 y1 y2 yl
    go_wp2_with fail
    refine (D2.out _).mono ?_
    rintro e w29 ⟨pv, rfl, hr29, ho29⟩
    obtain ⟨PA, pc, rfl⟩ := hr29.ps.shape
    dsimp only
    have HK29 := Lib.hid ((HK28.out.tr ho29).alloc (.cells #[.int .i64 r.er, .int .i64 r.n, .slice PA r.ps.length pc] 67))
    have hy29 := HY28.out.only ho29 (by simp)
    have HY29 := Lib.hid (hy29.alloc (.cells #[.int .i64 r.er, .int .i64 r.n, .slice PA r.ps.length pc] 67))
    obtain ⟨y0, y1, y2⟩ := rp_cells hy29
    have yl := hy29.lt
    have CSR := Lib.hid (sameRp18 _ _ r _ (hr29.only ((Only.refl _ _).alloc (.cells #[.int .i64 r.er, .int .i64 r.n, .slice PA r.ps.length pc] 67))).ps (H'.out.only HK29.out).ps (by omega))
    unfold Rp.val at CSR ⊢
    clear hr29 ho29 D2 hy29 HK28 HY28
    go_wp2_with fail
    refine CSR.out.mono ?_
    rintro e w30 ⟨rfl, ho30⟩
    dsimp only
    have HK30 := Lib.hid (HK29.out.tr ho30)
    clear ho30 CSR y0 y1 y2 yl f1 f2 f3 HK29 HY29
    cases hv : unC s with
    | none =>
      have CV := Lib.hid (fun w' => cmd_unpack s w' (by omega))
      unfold UnCW at CV
      rw [hv] at CV
      clear hv
      go_wp2_with fail
      refine (CV.out _).mono ?_
      rintro e w49 ⟨iv, rfl, hc49, ho49⟩
      obtain ⟨DA, dc, rfl⟩ := hc49.its.shape
      dsimp only [Option.getD, Option.isSome, Cm.val, Cm.zero, List.length_nil]
      have HK49 := Lib.hid ((HK30.out.tr ho49).alloc (.cells #[.int .i64 0, .int .i64 0, .int .i64 0, .int .i64 0, .int .i64 0, .int .i64 0, .int .i64 0, .string ⟨#[]⟩, .string ⟨#[]⟩, .slice DA 0 dc, .bool false] 65))
      clear hc49 ho49 CV
      cases hu : unA s with
      | none =>
        have CT := Lib.hid (fun w' => cmd_toAnswer s w' (by omega))
        unfold UnAW at CT
        rw [hu] at CT
        clear hu
        go_wp2_with fail
        refine (CT.out _).mono ?_
        rintro e w51 ⟨pv, rfl, hr51, ho51⟩
        obtain ⟨PA, pc, rfl⟩ := hr51.ps.shape
        dsimp only [Option.getD, Option.isSome, Rp.val, Rp.zero, List.length_nil]
        have HF := Lib.hid ((HK49.out.tr ho51).alloc (.cells #[.int .i64 0, .int .i64 0, .slice PA 0 pc] 67))
        clear hr51 ho51 CT
        go_wp2_with fail
        go_ret
        exact ⟨rfl, HF.out⟩
      | some q =>
        obtain ⟨_, hq2⟩ := (unA_iff s (by omega) q).1 hu
        have CT := Lib.hid (fun w' => cmd_toAnswer s w' (by omega))
        unfold UnAW at CT
        rw [hu] at CT
        have CQ := Lib.hid (fun pv w' (ha : RpAt w' pv q) => cmd_answer q pv w' ha)
        rw [hq2] at CQ
        clear hu hq2
        go_wp2_with fail
        refine (CT.out _).mono ?_
        rintro e w51 ⟨pv, rfl, hr51, ho51⟩
        replace hr51 : RpAt w51 pv q := hr51
        obtain ⟨PA, pc, rfl⟩ := hr51.ps.shape
        dsimp only [Option.getD, Option.isSome, Rp.val]
        have HF := Lib.hid ((HK49.out.tr ho51).alloc (.cells #[.int .i64 q.er, .int .i64 q.n, .slice PA q.ps.length pc] 67))
        have CQ2 := Lib.hid (CQ.out _ _ (hr51.only ((Only.refl _ _).alloc (.cells #[.int .i64 q.er, .int .i64 q.n, .slice PA q.ps.length pc] 67))))
        unfold Rp.val at CQ2
        clear hr51 ho51 CT CQ
        go_wp2_with fail
        refine CQ2.out.mono ?_
        rintro e w52 ⟨rfl, ho52⟩
        dsimp only
        have HG := Lib.hid (HF.out.tr ho52)
        clear ho52 CQ2
        go_wp2_with fail
        go_ret
        exact ⟨by simp, HG.out⟩
    | some d =>
      obtain ⟨hd1, hd2⟩ := (unC_iff s (by omega) d).1 hv
      have CV := Lib.hid (fun w' => cmd_unpack s w' (by omega))
      unfold UnCW at CV
      rw [hv] at CV
      have CQ := Lib.hid (fun iv w' (ha : CmAt w' iv d) => cmd_pack d iv w' ha)
      have e1 : pkS d = s := by unfold pkS; rw [if_pos hd1, hd2]
      have e2 : pkE d = 0 := by unfold pkE; rw [if_pos hd1]
      rw [e1, e2] at CQ
      clear hv hd1 hd2 e1 e2
      go_wp2_with fail
      refine (CV.out _).mono ?_
      rintro e w49 ⟨iv, rfl, hc49, ho49⟩
      replace hc49 : CmAt w49 iv d := hc49
      obtain ⟨DA, dc, rfl⟩ := hc49.its.shape
      dsimp only [Option.getD, Option.isSome, Cm.val]
      have HK49 := Lib.hid ((HK30.out.tr ho49).alloc (.cells #[.int .i64 d.kd, .int .i64 d.ss, .int .i64 d.sq, .int .i64 d.sh, .int .i64 d.nd, .int .i64 d.ep, .int .i64 d.n, .string ⟨d.fd.toArray⟩, .string ⟨d.id.toArray⟩, .slice DA d.its.length dc, .bool d.fl] 65))
      have CQ2 := Lib.hid (CQ.out _ _ (hc49.only ((Only.refl _ _).alloc (.cells #[.int .i64 d.kd, .int .i64 d.ss, .int .i64 d.sq, .int .i64 d.sh, .int .i64 d.nd, .int .i64 d.ep, .int .i64 d.n, .string ⟨d.fd.toArray⟩, .string ⟨d.id.toArray⟩, .slice DA d.its.length dc, .bool d.fl] 65))))
      unfold Cm.val at CQ2
      clear hc49 ho49 CV CQ
      go_wp2_with fail
      refine CQ2.out.mono ?_
      rintro e w50 ⟨rfl, ho50⟩
      dsimp only
      have HK50 := Lib.hid (HK49.out.tr ho50)
      clear ho50 CQ2 HK49
      cases hu : unA s with
      | none =>
        have CT := Lib.hid (fun w' => cmd_toAnswer s w' (by omega))
        unfold UnAW at CT
        rw [hu] at CT
        clear hu
        go_wp2_with fail
        refine (CT.out _).mono ?_
        rintro e w53 ⟨pv, rfl, hr53, ho53⟩
        obtain ⟨PA, pc, rfl⟩ := hr53.ps.shape
        dsimp only [Option.getD, Option.isSome, Rp.val, Rp.zero, List.length_nil]
        have HF := Lib.hid ((HK50.out.tr ho53).alloc (.cells #[.int .i64 0, .int .i64 0, .slice PA 0 pc] 67))
        clear hr53 ho53 CT
        go_wp2_with fail
        go_ret
        exact ⟨rfl, HF.out⟩
      | some q =>
        obtain ⟨_, hq2⟩ := (unA_iff s (by omega) q).1 hu
        have CT := Lib.hid (fun w' => cmd_toAnswer s w' (by omega))
        unfold UnAW at CT
        rw [hu] at CT
        have CQ := Lib.hid (fun pv w' (ha : RpAt w' pv q) => cmd_answer q pv w' ha)
        rw [hq2] at CQ
        clear hu hq2
        go_wp2_with fail
        refine (CT.out _).mono ?_
        rintro e w53 ⟨pv, rfl, hr53, ho53⟩
        replace hr53 : RpAt w53 pv q := hr53
        obtain ⟨PA, pc, rfl⟩ := hr53.ps.shape
        dsimp only [Option.getD, Option.isSome, Rp.val]
        have HF := Lib.hid ((HK50.out.tr ho53).alloc (.cells #[.int .i64 q.er, .int .i64 q.n, .slice PA q.ps.length pc] 67))
        have CQ2 := Lib.hid (CQ.out _ _ (hr53.only ((Only.refl _ _).alloc (.cells #[.int .i64 q.er, .int .i64 q.n, .slice PA q.ps.length pc] 67))))
        unfold Rp.val at CQ2
        clear hr53 ho53 CT CQ
        go_wp2_with fail
        refine CQ2.out.mono ?_
        rintro e w54 ⟨rfl, ho54⟩
        dsimp only
        have HG := Lib.hid (HF.out.tr ho54)
        clear ho54 CQ2
        go_wp2_with fail
        go_ret
        exact ⟨by simp, HG.out⟩
end Go.Proofs.Ytjfnkjpnjiobjaa
