/-
  The walk over AggOnce: a client's command that is asked again is answered the same, or its session is gone, or it is old; and it changes nothing.
-/
import Derived.Test.YtcjfmildalappaaGreatK19au
set_option linter.unusedVariables false
set_option linter.unusedSimpArgs false
namespace Go.Proofs.YtcjfmildalappaaGreat
open Go.RowKit
set_option maxRecDepth 100000 in
set_option maxHeartbeats 8000000 in
theorem aggOnce_walk (W : World) (v0 : Value) (l : List C19) (s0 : SlAt W W.heap.size v0 11 l.length (cmL l)) (g0 : ∀ a ∈ l, CmAt W a.iv a.c) (v1 : Value) (c : Cm) (s1 : ∃ iv, v1 = c.val iv ∧ CmAt W iv c) (g1 : True) (v2 : Value) (m : List C19) (s2 : SlAt W W.heap.size v2 11 m.length (cmL m)) (g2 : ∀ a ∈ m, CmAt W a.iv a.c) :
    Calls Tryz.prog 5 #[v0, v1, v2] W fun e W' => e = .returned (.bool true) ∧ Only [] W W' := by
  obtain ⟨LA1, lc1, rfl⟩ := s0.shape
  have HS1 := Lib.hid s0
  have HG1 := Lib.hid g0
  have CS1 := Lib.hid (fun w' (ho : Only [] W w') => small19 (.slice LA1 l.length lc1) l w' ((s0.only ho (Nat.le_refl _) (by simp)).more ho.size) (fun a ha => (g0 a ha).only ho))
  have hll1 := sl_len s0
  unfold maxLen at hll1
  clear s0 g0
  obtain ⟨LA2, lc2, rfl⟩ := s2.shape
  have HS2 := Lib.hid s2
  have HG2 := Lib.hid g2
  have CS2 := Lib.hid (fun w' (ho : Only [] W w') => small19 (.slice LA2 m.length lc2) m w' ((s2.only ho (Nat.le_refl _) (by simp)).more ho.size) (fun a ha => (g2 a ha).only ho))
  have hll2 := sl_len s2
  unfold maxLen at hll2
  clear s2 g2
  obtain ⟨iv, rfl, hcm⟩ := s1
  have HCM := Lib.hid hcm
  obtain ⟨IA, ic, rfl⟩ := hcm.its.shape
  clear hcm g1
  obtain ⟨iv, hiv⟩ : ∃ iv, Value.slice IA c.its.length ic = iv := ⟨_, rfl⟩
  rw [hiv] at HCM ⊢
  have HIV := Lib.hid hiv
  clear hiv
  unfold Cm.val
  have C0 := Lib.hid (fun w' => shown19 w')
  go_enter Tryz.func5, Tryz.ntmps5
  go_upto_region 1 with fail
  obtain ⟨w0, hw0⟩ : ∃ u, W.alloc (.cells #[.int .i64 c.kd, .int .i64 c.ss, .int .i64 c.sq, .int .i64 c.sh, .int .i64 c.nd, .int .i64 c.ep, .int .i64 c.n, .string ⟨c.fd.toArray⟩, .string ⟨c.id.toArray⟩, iv, .bool c.fl] 38) = u := ⟨_, rfl⟩
  obtain ⟨z, hz⟩ : ∃ z, W.heap.size = z := ⟨_, rfl⟩
  have HO0 : Hid (Only [] W w0) := Lib.hid (hw0 ▸ (Only.refl _ _).alloc _)
  have HZ0 : Hid (Cells w0 z 38 (c.cells iv)) := Lib.hid (hw0 ▸ hz ▸ Cells.new W _ _)
  rw [hw0, hz]
  have HWZ := Lib.hid hz
  clear hw0 hz
  go_wp2_with fail
  refine (C0.out _).mono ?_
  rintro e w1 ⟨rfl, ho1⟩
  have HO1 := Lib.hid (HO0.out.tr ho1)
  have HZ1 := Lib.hid (HZ0.out.only ho1 (by simp))
  clear ho1 C0 HZ0 HO0
  go_wp2_with fail
  refine (CS1.out _ HO1.out).mono ?_
  rintro e w2 ⟨ok1, rfl, hok, how⟩
  have HO2 := Lib.hid (HO1.out.tr how)
  have HZ2 := Lib.hid (HZ1.out.only how (by simp))
  have HMo1 := Lib.hid hok
  clear how hok HO1 HZ1
  go_wp2_with fail
  refine (CS2.out _ HO2.out).mono ?_
  rintro e w3 ⟨ok2, rfl, hok, how⟩
  have HO3 := Lib.hid (HO2.out.tr how)
  have HZ3 := Lib.hid (HZ2.out.only how (by simp))
  have HMo2 := Lib.hid hok
  clear how hok HO2 HZ2
  obtain ⟨c0, c1, c2, c3, c4, c5, c6, c7, c8, c9, c10⟩ := cm_cells HZ3.out
  have CS3 : Hid (Calls Tryz.prog 17 #[.slice (some ⟨w3.heap.size, 0, none⟩) 1 1] (w3.alloc (.cells #[.int .i64 c.kd, .int .i64 c.ss, .int .i64 c.sq, .int .i64 c.sh, .int .i64 c.nd, .int .i64 c.ep, .int .i64 c.n, .string ⟨c.fd.toArray⟩, .string ⟨c.id.toArray⟩, iv, .bool c.fl] 38)) (SmR [⟨c, iv⟩] (w3.alloc (.cells #[.int .i64 c.kd, .int .i64 c.ss, .int .i64 c.sq, .int .i64 c.sh, .int .i64 c.nd, .int .i64 c.ep, .int .i64 c.n, .string ⟨c.fd.toArray⟩, .string ⟨c.id.toArray⟩, iv, .bool c.fl] 38)))) := Lib.hid (small19 _ [⟨c, iv⟩] _ (slat_one w3 ⟨c, iv⟩) (fun a ha => by
    simp at ha
    subst ha
    exact (HCM.out.only HO3.out).only ((Only.refl _ _).alloc _)))
  go_wp2_with fail
  refine CS3.out.mono ?_
  rintro e w4 ⟨ok3, rfl, hok, how⟩
  have how4 : Only [] w3 w4 := ((Only.refl _ _).alloc _).tr0 how
  have HO4 := Lib.hid (HO3.out.tr how4)
  have HZ4 := Lib.hid (HZ3.out.only how4 (by simp))
  have HMo3 := Lib.hid hok
  clear how how4 hok HO3 HZ3 CS3 c0 c1 c2 c3 c4 c5 c6 c7 c8 c9 c10
  cases ok1 with
  | false =>
    go_wp2_with fail
    go_ret
    exact ⟨rfl, HO4.out⟩
  | true =>
  cases ok2 with
  | false =>
    go_wp2_with fail
    go_ret
    exact ⟨rfl, HO4.out⟩
  | true =>
  cases ok3 with
  | false =>
    go_wp2_with fail
    go_ret
    exact ⟨rfl, HO4.out⟩
  | true =>
  have HM1 := Lib.hid (HMo1.out rfl)
  have HM2 := Lib.hid (HMo2.out rfl)
  have HM3 : Hid (c.its.length ≤ 1000000) := Lib.hid (by have := ((HMo3.out rfl).al _ (List.mem_singleton.2 rfl)).n; dsimp only at this; omega)
  clear HMo1 HMo2 HMo3
  have CCL := Lib.hid (fun w' => client_call c iv w')
  have CRT := Lib.hid (fun w' (ho : Only [] W w') => cmd_right c iv w' (HCM.out.only ho))
  unfold Cm.val at CCL CRT
  obtain ⟨c0, c1, c2, c3, c4, c5, c6, c7, c8, c9, c10⟩ := cm_cells HZ4.out
  go_wp2_with fail
  refine (CCL.out _).mono ?_
  rintro e w5 ⟨rfl, ho5⟩
  have HO5 := Lib.hid (HO4.out.tr ho5)
  have HZ5 := Lib.hid (HZ4.out.only ho5 (by simp))
  clear ho5 HO4 HZ4 c0 c1 c2 c3 c4 c5 c6 c7 c8 c9 c10 CCL
  obtain ⟨c0, c1, c2, c3, c4, c5, c6, c7, c8, c9, c10⟩ := cm_cells HZ5.out
  go_wp2_with fail
  refine (CRT.out _ HO5.out).mono ?_
  rintro e w6 ⟨rfl, ho6⟩
  have HO6 := Lib.hid (HO5.out.tr ho6)
  have HZ6 := Lib.hid (HZ5.out.only ho6 (by simp))
  clear ho6 HO5 HZ5 c0 c1 c2 c3 c4 c5 c6 c7 c8 c9 c10 CRT
  cases hcl : clB c.kd with
  | false =>
    go_wp2_with fail
    go_ret
    exact ⟨rfl, HO6.out⟩
  | true =>
  cases hrt : rightB c with
  | false =>
    go_wp2_with fail
    go_ret
    exact ⟨rfl, HO6.out⟩
  | true =>
  have HCL := Lib.hid hcl
  have HRT := Lib.hid hrt
  clear hcl hrt
  go_wp2_with fail
  refine (agw_new W _ HO6.out).mono ?_
  rintro e wn ⟨p, K0, rfl, hA0, hl0, ho0⟩
  have H0 : Hid (AgW W wn p K0 0 (runB AgS.new (l.take 0))) := Lib.hid hA0
  have HB0 : Hid (Bx wn K0 z 38 (c.cells iv)) := Lib.hid ⟨HZ6.out.only ho0 (by simp), fun hm => by have := hl0 z hm; have := HZ6.out.lt; omega⟩
  clear hA0 hl0 ho0 HZ6
  go_wp2_with fail
  go_loopw [14] (fun i wr => ∃ (k : Nat) (K : List Nat), k ≤ l.length ∧ i = .int .i64 k ∧ Hid (AgW W wr p K (k) (runB AgS.new (l.take k))) ∧ Hid (Bx wr K z 38 (c.cells iv))) (fun i _ => l.length - (intOf i).toNat)
  case atStart => exact ⟨0, _, by omega, rfl, H0, HB0⟩
  case round =>
    obtain ⟨k, K, hk, rfl, H, HB⟩ := hrel
    obtain ⟨wq, rfl⟩ : ∃ wq, wq = wr := ⟨_, rfl⟩
    by_cases hlt : k < l.length
    · have hlt' : (k : Int) < (l.length : Int) := by omega
      obtain ⟨a, ha⟩ : ∃ a, l[k]? = some a := ⟨_, List.getElem?_eq_getElem hlt⟩
      have ham := List.mem_of_getElem? ha
      have CM := Lib.hid ((HG1.out a ham).only H.out.ho)
      have IK := Lib.hid (itk_base (HG1.out a ham) H.out)
      have hil : a.c.its.length ≤ 1000000 := by have := (HM1.out.al a ham).n; omega
      obtain ⟨ab, ao, ac, hv, q0, q1, q2, q3, q4, q5, q6, q7, q8, q9, q10⟩ := cmL_at (HS1.out.only H.out.ho (Nat.le_refl _) (by simp)) ha
      injection hv with e1 e2 e3
      subst e1; subst e3

      have hn80 := HM1.out.n
      have CD := Lib.hid (agw_do p K _ _ (by omega) a.c a.iv W wq H.out CM.out hil IK.out)
      have HT : Hid (runB AgS.new (l.take (k + 1)) = (doA (runB AgS.new (l.take k)) a.c).2) := Lib.hid (runB_step _ l k a ha)
      unfold Cm.val at CD
      clear hn80 ha ham e2 hil CM IK
      go_wp2_with fail
      refine CD.out.mono ?_
      intro e w5 hd5
      obtain ⟨pv, K2, rfl, hp5, hA5, ho5, hN5, hk5, PA, pc, rfl⟩ := hd5.of
      have H5 : Hid (AgW W w5 p K2 ((k + 1)) (runB AgS.new (l.take (k + 1)))) := Lib.hid (by rw [HT.out]; exact hA5)
      have HBn := Lib.hid (HB.out.does ho5 hN5)
      clear HB
      clear q0 q1 q2 q3 q4 q5 q6 q7 q8 q9 q10 hp5 hA5 ho5 hN5 hk5 CD HT H hd5
      go_wp2_with fail
      go_roundw
      case rel => exact ⟨k + 1, K2, by omega, by go_num, H5, HBn⟩
      case measure => simp [intOf]; omega
    · have hdd : decide ((k : Int) < (l.length : Int)) = false := by simp; omega
      obtain rfl : k = l.length := by omega
      rw [List.take_length] at H
      obtain ⟨a0, ha0⟩ : ∃ a0, runB AgS.new l = a0 := ⟨_, rfl⟩
      rw [ha0] at H
      clear ha0
      have hn801 := HM1.out.n
      have IK := Lib.hid (itk_base HCM.out H.out)
      have CD := Lib.hid (agw_do p K _ _ (by omega) c iv W wq H.out (HCM.out.only H.out.ho) HM3.out IK.out)
      obtain ⟨r1, hr1⟩ : ∃ r, (doA a0 c).1 = r := ⟨_, rfl⟩
      obtain ⟨a1, ha1⟩ : ∃ r, (doA a0 c).2 = r := ⟨_, rfl⟩
      have HD0 : Hid (r1.er ≠ 17 → r1.er ≠ 18 → S15.Did c.ss c.sq ⟨(rpb r1).toArray⟩ a1.t) := Lib.hid (fun h1 h2 => by
        have := once19 H.out.i c HRT.out HCL.out (by rw [hr1]; exact h1) (by rw [hr1]; exact h2)
        rw [hr1, ha1] at this
        exact this.2)
      rw [hr1, ha1] at CD
      unfold Cm.val at CD
      obtain ⟨c0, c1, c2, c3, c4, c5, c6, c7, c8, c9, c10⟩ := cm_cells HB.out.1
      clear hr1 ha1 hn801
      go_wp2_with fail
      refine CD.out.mono ?_
      intro e w5 hd5
      obtain ⟨pv, K5, rfl, hp5, hA5, ho5, hN5, hk5, PA5, pc5, rfl⟩ := hd5.of
      have HK1 := Lib.hid hk5
      have HA5 := Lib.hid hA5
      have HP5 := Lib.hid hp5
      have HB5 := Lib.hid (HB.out.does ho5 hN5)
      clear c0 c1 c2 c3 c4 c5 c6 c7 c8 c9 c10 hd5 hp5 hA5 ho5 hN5 hk5 CD IK HB H
      obtain ⟨b1, b2, b3⟩ := box_row w5 34 [.int .i64 0, .int .i64 0, .slice none 0 0] [.int .i64 r1.er, .int .i64 r1.n, .slice PA5 r1.ps.length pc5]
      have hone : (#[.int .i64 r1.er, .int .i64 r1.n, .slice PA5 r1.ps.length pc5] : Array Value).all (·.oneCell') = true := by simp [Value.oneCell']
      have hnew : w5.heap.size ∉ K5 := fun hm => by have := HA5.out.at_.bw _ hm; omega
      unfold Rp.val
      go_upto_region 17 with (refine wpList_store_row rfl 34 _ _ rfl w5.heap.size #[.int .i64 r1.er, .int .i64 r1.n, .slice PA5 r1.ps.length pc5] rfl rfl 34 _ b2 (by kernel_rfl) rfl hone ?_)
      (try simp only [Act.put])
      obtain ⟨v5, hv⟩ : ∃ u, (w5.alloc (.cells #[.int .i64 0, .int .i64 0, .slice none 0 0] 34)).setRow w5.heap.size #[.int .i64 r1.er, .int .i64 r1.n, .slice PA5 r1.ps.length pc5] = u := ⟨_, rfl⟩
      rw [hv]
      have b1 : Only [] w5 v5 := hv ▸ b1
      have b3 : Cells v5 w5.heap.size 34 [.int .i64 r1.er, .int .i64 r1.n, .slice PA5 r1.ps.length pc5] := hv ▸ b3
      obtain ⟨z5, hz⟩ : ∃ z, w5.heap.size = z := ⟨_, rfl⟩
      rw [hz] at b3 hnew ⊢
      have BZ5 : Hid (Bx v5 K5 z5 34 [.int .i64 r1.er, .int .i64 r1.n, .slice PA5 r1.ps.length pc5]) := Lib.hid ⟨b3, hnew⟩
      have H5 : Hid (AgW W v5 p K5 (l.length + 1 + 0) (runB a1 (m.take 0))) := Lib.hid (HA5.out.read b1)
      have HP5b := Lib.hid (HP5.out.read b1)
      have HB5b := Lib.hid (HB5.out.read b1)
      clear b1 b2 b3 hone hnew hv hz
      clear HA5 HP5 HB5
      go_wp2_with fail
      go_loopw [16] (fun i wr => ∃ (k : Nat) (K : List Nat), k ≤ m.length ∧ i = .int .i64 k ∧ Hid (AgW W wr p K (l.length + 1 + k) (runB a1 (m.take k))) ∧ Hid (Bx wr K z 38 (c.cells iv)) ∧ Hid (Bx wr K z5 34 [.int .i64 r1.er, .int .i64 r1.n, .slice PA5 r1.ps.length pc5]) ∧ Hid (Pv wr K (.slice PA5 r1.ps.length pc5) r1) ∧ Hid (r1.er ≠ 17 → r1.er ≠ 18 → S15.Did c.ss c.sq ⟨(rpb r1).toArray⟩ (runB a1 (m.take k)).t)) (fun i _ => m.length - (intOf i).toNat)
      case atStart => exact ⟨0, _, by omega, rfl, H5, HB5b, BZ5, HP5b, HD0⟩
      case round =>
        obtain ⟨k, K, hk, rfl, H, HB, HR, HP, HD⟩ := hrel
        obtain ⟨wq, rfl⟩ : ∃ wq, wq = wr := ⟨_, rfl⟩
        by_cases hlt : k < m.length
        · have hlt' : (k : Int) < (m.length : Int) := by omega
          obtain ⟨a, ha⟩ : ∃ a, m[k]? = some a := ⟨_, List.getElem?_eq_getElem hlt⟩
          have ham := List.mem_of_getElem? ha
          have CM := Lib.hid ((HG2.out a ham).only H.out.ho)
          have IK := Lib.hid (itk_base (HG2.out a ham) H.out)
          have hil : a.c.its.length ≤ 1000000 := by have := (HM2.out.al a ham).n; omega
          obtain ⟨ab, ao, ac, hv, q0, q1, q2, q3, q4, q5, q6, q7, q8, q9, q10⟩ := cmL_at (HS2.out.only H.out.ho (Nat.le_refl _) (by simp)) ha
          injection hv with e1 e2 e3
          subst e1; subst e3

          have hn80 := HM2.out.n
          have CD := Lib.hid (agw_do p K _ _ (by have := HM1.out.n; omega) a.c a.iv W wq H.out CM.out hil IK.out)
          have HT : Hid (runB a1 (m.take (k + 1)) = (doA (runB a1 (m.take k)) a.c).2) := Lib.hid (runB_step _ m k a ha)
          unfold Cm.val at CD
          clear hn80 ha ham e2 hil CM IK
          go_wp2_with fail
          refine CD.out.mono ?_
          intro e w5 hd5
          obtain ⟨pv, K2, rfl, hp5, hA5, ho5, hN5, hk5, PA, pc, rfl⟩ := hd5.of
          have H5 : Hid (AgW W w5 p K2 (l.length + 1 + (k + 1)) (runB a1 (m.take (k + 1)))) := Lib.hid (by rw [HT.out]; exact hA5)
          have HBn := Lib.hid (HB.out.does ho5 hN5)
          have HRn := Lib.hid (HR.out.does ho5 hN5)
          have HPn := Lib.hid (HP.out.does ho5 hN5)
          have HDn : Hid (r1.er ≠ 17 → r1.er ≠ 18 → S15.Did c.ss c.sq ⟨(rpb r1).toArray⟩ (runB a1 (m.take (k + 1))).t) := Lib.hid (fun h1 h2 => by rw [HT.out]; exact doA_did (HD.out h1 h2) a.c)
          clear HB HR HP HD
          clear q0 q1 q2 q3 q4 q5 q6 q7 q8 q9 q10 hp5 hA5 ho5 hN5 hk5 CD HT H hd5
          go_wp2_with fail
          go_roundw
          case rel => exact ⟨k + 1, K2, by omega, by go_num, H5, HBn, HRn, HPn, HDn⟩
          case measure => simp [intOf]; omega
        · have hdd : decide ((k : Int) < (m.length : Int)) = false := by simp; omega
          obtain rfl : k = m.length := by omega
          rw [List.take_length] at H HD
          obtain ⟨a2, ha2⟩ : ∃ a2, runB a1 m = a2 := ⟨_, rfl⟩
          rw [ha2] at H HD
          clear ha2
          have hn802 := HM2.out.n
          have CV := Lib.hid (agw_save (by have := HM1.out.n; omega) H.out)
          go_wp2_with fail
          refine CV.out.mono ?_
          rintro e w6 ⟨rfl, ho6⟩
          have H6 := Lib.hid (H.out.read ho6)
          have HB6 := Lib.hid (HB.out.read ho6)
          have HR6 := Lib.hid (HR.out.read ho6)
          have HP6 := Lib.hid (HP.out.read ho6)
          clear ho6 CV HB HR HP H
          have IK := Lib.hid (itk_base HCM.out H6.out)
          have CD := Lib.hid (agw_do p K _ _ (by have := HM1.out.n; omega) c iv W w6 H6.out (HCM.out.only H6.out.ho) HM3.out IK.out)
          obtain ⟨r2, hr2⟩ : ∃ r, (doA a2 c).1 = r := ⟨_, rfl⟩
          obtain ⟨a3, ha3⟩ : ∃ r, (doA a2 c).2 = r := ⟨_, rfl⟩
          have HAG : Hid (r1.er ≠ 17 → r1.er ≠ 18 → a3 = a2 ∧ (r2 = r1 ∨ r2 = errR 18 ∨ r2 = errR 17)) := Lib.hid (fun h1 h2 => by
            have := again19 (a := a2) c HRT.out HCL.out HK1.out (HD.out h1 h2)
            rw [hr2, ha3] at this
            exact this)
          rw [hr2, ha3] at CD
          unfold Cm.val at CD
          obtain ⟨c0, c1, c2, c3, c4, c5, c6, c7, c8, c9, c10⟩ := cm_cells HB6.out.1
          clear hr2 ha3 hn802
          go_wp2_with fail
          refine CD.out.mono ?_
          intro e w7 hd7
          obtain ⟨pv, K7, rfl, hp7, hA7, ho7, hN7, hk7, PA7, pc7, rfl⟩ := hd7.of
          have HA7 := Lib.hid hA7
          have HP7 := Lib.hid hp7
          have HR7 := Lib.hid (HR6.out.does ho7 hN7)
          have HQ7 := Lib.hid (HP6.out.does ho7 hN7)
          clear c0 c1 c2 c3 c4 c5 c6 c7 c8 c9 c10 hd7 hp7 hA7 ho7 hN7 hk7 CD IK HB6 H6 HR6 HP6
          obtain ⟨b1, b2, b3⟩ := box_row w7 34 [.int .i64 0, .int .i64 0, .slice none 0 0] [.int .i64 r2.er, .int .i64 r2.n, .slice PA7 r2.ps.length pc7]
          have hone : (#[.int .i64 r2.er, .int .i64 r2.n, .slice PA7 r2.ps.length pc7] : Array Value).all (·.oneCell') = true := by simp [Value.oneCell']
          have hnew : w7.heap.size ∉ K7 := fun hm => by have := HA7.out.at_.bw _ hm; omega
          unfold Rp.val
          go_upto_region 23 with (refine wpList_store_row rfl 34 _ _ rfl w7.heap.size #[.int .i64 r2.er, .int .i64 r2.n, .slice PA7 r2.ps.length pc7] rfl rfl 34 _ b2 (by kernel_rfl) rfl hone ?_)
          (try simp only [Act.put])
          obtain ⟨v7, hv⟩ : ∃ u, (w7.alloc (.cells #[.int .i64 0, .int .i64 0, .slice none 0 0] 34)).setRow w7.heap.size #[.int .i64 r2.er, .int .i64 r2.n, .slice PA7 r2.ps.length pc7] = u := ⟨_, rfl⟩
          rw [hv]
          have b1 : Only [] w7 v7 := hv ▸ b1
          have b3 : Cells v7 w7.heap.size 34 [.int .i64 r2.er, .int .i64 r2.n, .slice PA7 r2.ps.length pc7] := hv ▸ b3
          obtain ⟨z7, hz⟩ : ∃ z, w7.heap.size = z := ⟨_, rfl⟩
          rw [hz] at b3 hnew ⊢
          have BZ7 : Hid (Bx v7 K7 z7 34 [.int .i64 r2.er, .int .i64 r2.n, .slice PA7 r2.ps.length pc7]) := Lib.hid ⟨b3, hnew⟩
          have H8 := Lib.hid (HA7.out.read b1)
          have HP8 := Lib.hid (HP7.out.read b1)
          have HR8 := Lib.hid (HR7.out.read b1)
          have HQ8 := Lib.hid (HQ7.out.read b1)
          clear b1 b2 b3 hone hnew hv hz
          have x0 := BZ7.out.1.cell (k := 0) rfl
          have x1 := BZ7.out.1.cell (k := 1) rfl
          have x2 := BZ7.out.1.cell (k := 2) rfl
          have y0 := HR8.out.1.cell (k := 0) rfl
          have y1 := HR8.out.1.cell (k := 1) rfl
          have y2 := HR8.out.1.cell (k := 2) rfl
          have hz7 := BZ7.out.1.lt
          have hz5 := HR8.out.1.lt
          clear HA7 HP7 HR7 HQ7
          cases h17 : (r1.er == 17) with
          | true =>
            go_wp2_with fail
            go_ret
            exact ⟨rfl, H8.out.ho⟩
          | false =>
          cases h18 : (r1.er == 18) with
          | true =>
            go_wp2_with fail
            go_ret
            exact ⟨rfl, H8.out.ho⟩
          | false =>
          obtain ⟨e3, hcase⟩ := HAG.out (by simpa using h17) (by simpa using h18)
          subst e3
          clear HAG
          have CV := Lib.hid (agw_save (by have := HM1.out.n; have := HM2.out.n; omega) H8.out)
          have hself : (agB a3 == agB a3) = true := by simp
          go_upto_region 25 with fail
          rcases hcase with rfl | rfl | rfl
          · have CE := Lib.hid (fun w' (ho : Only [] v7 w') => same19_eq (.slice PA7 r2.ps.length pc7) (.slice PA5 r2.ps.length pc5) r2 w' (HP8.out.1.only ho) (HQ8.out.1.only ho))
            unfold Rp.val at CE
            go_wp2_with fail
            refine CV.out.mono ?_
            rintro e w8 ⟨rfl, ho8⟩
            have HO8 := Lib.hid ho8
            have CE2 := Lib.hid (CE.out _ ho8)
            have x0 := (BZ7.out.read ho8).1.cell (k := 0) rfl
            have x1 := (BZ7.out.read ho8).1.cell (k := 1) rfl
            have x2 := (BZ7.out.read ho8).1.cell (k := 2) rfl
            have y0 := (HR8.out.read ho8).1.cell (k := 0) rfl
            have y1 := (HR8.out.read ho8).1.cell (k := 1) rfl
            have y2 := (HR8.out.read ho8).1.cell (k := 2) rfl
            clear ho8 CE CV
            go_wp2_with fail
            refine CE2.out.mono ?_
            rintro e w9 ⟨rfl, ho9⟩
            have HF := Lib.hid (H8.out.ho.tr (HO8.out.tr ho9))
            clear ho9 CE2
            go_wp2_with fail
            go_ret
            exact ⟨rfl, HF.out⟩
          · have CE := Lib.hid (fun w' => same19_ne (.slice PA7 (errR 18).ps.length pc7) (.slice PA5 r1.ps.length pc5) (errR 18) r1 w' (by show (((18 : Int)) == r1.er) = false; simp at h17 h18 ⊢; omega))
            unfold Rp.val at CE
            go_wp2_with fail
            refine CV.out.mono ?_
            rintro e w8 ⟨rfl, ho8⟩
            have HO8 := Lib.hid ho8
            have CE2 := Lib.hid (CE.out w8)
            have x0 := (BZ7.out.read ho8).1.cell (k := 0) rfl
            have x1 := (BZ7.out.read ho8).1.cell (k := 1) rfl
            have x2 := (BZ7.out.read ho8).1.cell (k := 2) rfl
            have y0 := (HR8.out.read ho8).1.cell (k := 0) rfl
            have y1 := (HR8.out.read ho8).1.cell (k := 1) rfl
            have y2 := (HR8.out.read ho8).1.cell (k := 2) rfl
            clear ho8 CE CV
            go_wp2_with fail
            refine CE2.out.mono ?_
            rintro e w9 ⟨rfl, ho9⟩
            have x0 := ((BZ7.out.read HO8.out).read ho9).1.cell (k := 0) rfl
            have hzz := ((BZ7.out.read HO8.out).read ho9).1.lt
            have HF := Lib.hid (H8.out.ho.tr (HO8.out.tr ho9))
            clear ho9 CE2
            go_wp2_with fail
            go_ret
            exact ⟨rfl, HF.out⟩
          · have CE := Lib.hid (fun w' => same19_ne (.slice PA7 (errR 17).ps.length pc7) (.slice PA5 r1.ps.length pc5) (errR 17) r1 w' (by show (((17 : Int)) == r1.er) = false; simp at h17 h18 ⊢; omega))
            unfold Rp.val at CE
            go_wp2_with fail
            refine CV.out.mono ?_
            rintro e w8 ⟨rfl, ho8⟩
            have HO8 := Lib.hid ho8
            have CE2 := Lib.hid (CE.out w8)
            have x0 := (BZ7.out.read ho8).1.cell (k := 0) rfl
            have x1 := (BZ7.out.read ho8).1.cell (k := 1) rfl
            have x2 := (BZ7.out.read ho8).1.cell (k := 2) rfl
            have y0 := (HR8.out.read ho8).1.cell (k := 0) rfl
            have y1 := (HR8.out.read ho8).1.cell (k := 1) rfl
            have y2 := (HR8.out.read ho8).1.cell (k := 2) rfl
            clear ho8 CE CV
            go_wp2_with fail
            refine CE2.out.mono ?_
            rintro e w9 ⟨rfl, ho9⟩
            have x0 := ((BZ7.out.read HO8.out).read ho9).1.cell (k := 0) rfl
            have hzz := ((BZ7.out.read HO8.out).read ho9).1.lt
            have HF := Lib.hid (H8.out.ho.tr (HO8.out.tr ho9))
            clear ho9 CE2
            go_wp2_with fail
            go_ret
            exact ⟨rfl, HF.out⟩


end Go.Proofs.YtcjfmildalappaaGreat
