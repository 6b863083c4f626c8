/-
  The walk over AggFences: an ingest changes the store just where its node has the shard, with that epoch, now, and the feed belongs to it; else nothing at all.
-/
import Derived.Test.YtcjfmildalappaaGreatK19au
set_option linter.unusedVariables false
set_option linter.unusedSimpArgs false
namespace Go.Proofs.YtcjfmildalappaaGreat
open Go.RowKit
theorem may_eq (a : AgS) (c : Cm) (gn ge gt now : Int) (sv : Nat) (hg : a.d.get c.sh = ⟨gn, ge, gt⟩) (hn : a.d.now = now) (hs : shardL c.fd = sv) : mayA a c = ((gn == c.nd) && ((ge == c.ep) && (decide (now < gt) && ((sv : Int) == c.sh)))) := by
  unfold mayA
  rw [hg, hn, hs]
  rfl
set_option maxRecDepth 100000 in
set_option maxHeartbeats 8000000 in
theorem aggFences_walk (W : World) (v0 : Value) (l : List C19) (s0 : SlAt W W.heap.size v0 11 l.length (cmL l)) (g0 : ∀ a ∈ l, CmAt W a.iv a.c) (v1 : Value) (c : Cm) (s1 : ∃ iv, v1 = c.val iv ∧ CmAt W iv c) (g1 : True) :
    Calls Tryz.prog 6 #[v0, v1] W fun e W' => e = .returned (.bool true) ∧ Only [] W W' := by
  obtain ⟨LA1, lc1, rfl⟩ := s0.shape
  have HS1 := Lib.hid s0
  have HG1 := Lib.hid g0
  have CS1 := Lib.hid (fun w' (ho : Only [] W w') => small19 (.slice LA1 l.length lc1) l w' ((s0.only ho (Nat.le_refl _) (by simp)).more ho.size) (fun a ha => (g0 a ha).only ho))
  have hll1 := sl_len s0
  unfold maxLen at hll1
  clear s0 g0
  obtain ⟨iv, rfl, hcm⟩ := s1
  have HCM := Lib.hid hcm
  have hfdm := hcm.fd
  obtain ⟨IA, ic, rfl⟩ := hcm.its.shape
  clear hcm g1
  obtain ⟨iv, hiv⟩ : ∃ iv, Value.slice IA c.its.length ic = iv := ⟨_, rfl⟩
  rw [hiv] at HCM ⊢
  have HIV := Lib.hid hiv
  clear hiv
  have HCM8 : Hid (CmAt W iv ⟨8, c.ss, c.sq, c.sh, c.nd, c.ep, c.n, c.fd, c.id, c.its, c.fl⟩) := Lib.hid ⟨HCM.out.its, HCM.out.len, HCM.out.fd, HCM.out.id, fun x hx => by
    rcases List.mem_cons.1 hx with rfl | hx
    · exact ⟨by show -9223372036854775808 ≤ (8 : Int); omega, by show (8 : Int) ≤ 9223372036854775807; omega⟩
    · exact HCM.out.nums x (List.mem_cons_of_mem _ hx)⟩
  unfold Cm.val
  have C0 := Lib.hid (fun w' => shown19 w')
  go_enter Tryz.func6, Tryz.ntmps6
  go_upto_region 1 with fail
  obtain ⟨w0, hw0⟩ : ∃ u, W.alloc (.cells #[.int .i64 c.kd, .int .i64 c.ss, .int .i64 c.sq, .int .i64 c.sh, .int .i64 c.nd, .int .i64 c.ep, .int .i64 c.n, .string ⟨c.fd.toArray⟩, .string ⟨c.id.toArray⟩, iv, .bool c.fl] 38) = u := ⟨_, rfl⟩
  obtain ⟨z, hz⟩ : ∃ z, W.heap.size = z := ⟨_, rfl⟩
  have HO0 : Hid (Only [] W w0) := Lib.hid (hw0 ▸ (Only.refl _ _).alloc _)
  have HZ0 : Hid (Cells w0 z 38 (c.cells iv)) := Lib.hid (hw0 ▸ hz ▸ Cells.new W _ _)
  rw [hw0, hz]
  have HWZ := Lib.hid hz
  clear hw0 hz
  go_wp2_with fail
  refine (C0.out _).mono ?_
  rintro e w1 ⟨rfl, ho1⟩
  have HO1 := Lib.hid (HO0.out.tr ho1)
  have HZ1 := Lib.hid (HZ0.out.only ho1 (by simp))
  clear ho1 C0 HZ0 HO0
  go_wp2_with fail
  refine (CS1.out _ HO1.out).mono ?_
  rintro e w3 ⟨ok1, rfl, hok, how⟩
  have HO3 := Lib.hid (HO1.out.tr how)
  have HZ3 := Lib.hid (HZ1.out.only how (by simp))
  have HMo1 := Lib.hid hok
  clear how hok HO1 HZ1
  obtain ⟨c0, c1, c2, c3, c4, c5, c6, c7, c8, c9, c10⟩ := cm_cells HZ3.out
  have CS3 : Hid (Calls Tryz.prog 17 #[.slice (some ⟨w3.heap.size, 0, none⟩) 1 1] (w3.alloc (.cells #[.int .i64 c.kd, .int .i64 c.ss, .int .i64 c.sq, .int .i64 c.sh, .int .i64 c.nd, .int .i64 c.ep, .int .i64 c.n, .string ⟨c.fd.toArray⟩, .string ⟨c.id.toArray⟩, iv, .bool c.fl] 38)) (SmR [⟨c, iv⟩] (w3.alloc (.cells #[.int .i64 c.kd, .int .i64 c.ss, .int .i64 c.sq, .int .i64 c.sh, .int .i64 c.nd, .int .i64 c.ep, .int .i64 c.n, .string ⟨c.fd.toArray⟩, .string ⟨c.id.toArray⟩, iv, .bool c.fl] 38)))) := Lib.hid (small19 _ [⟨c, iv⟩] _ (slat_one w3 ⟨c, iv⟩) (fun a ha => by
    simp at ha
    subst ha
    exact (HCM.out.only HO3.out).only ((Only.refl _ _).alloc _)))
  go_wp2_with fail
  refine CS3.out.mono ?_
  rintro e w4 ⟨ok3, rfl, hok, how⟩
  have how4 : Only [] w3 w4 := ((Only.refl _ _).alloc _).tr0 how
  have HO4 := Lib.hid (HO3.out.tr how4)
  have HZ4 := Lib.hid (HZ3.out.only how4 (by simp))
  have HMo3 := Lib.hid hok
  clear how how4 hok HO3 HZ3 CS3 c0 c1 c2 c3 c4 c5 c6 c7 c8 c9 c10
  cases ok1 with
  | false =>
    go_wp2_with fail
    go_ret
    exact ⟨rfl, HO4.out⟩
  | true =>
  cases ok3 with
  | false =>
    go_wp2_with fail
    go_ret
    exact ⟨rfl, HO4.out⟩
  | true =>
  have HM1 := Lib.hid (HMo1.out rfl)
  have HM3 : Hid (c.its.length ≤ 1000000) := Lib.hid (by have := ((HMo3.out rfl).al _ (List.mem_singleton.2 rfl)).n; dsimp only at this; omega)
  clear HMo1 HMo3
  have k0 := HZ4.out.cell (k := 0) rfl
  have kf := HZ4.out.frozen 0
  have kl := HZ4.out.lt
  go_upto_region 7 with fail
  obtain ⟨w5, hw5⟩ : ∃ u, w4.setCell ⟨z, 0, none⟩ (.int .i64 8) = u := ⟨_, rfl⟩
  rw [hw5]
  have HZ5 : Hid (Cells w5 z 38 [.int .i64 8, .int .i64 c.ss, .int .i64 c.sq, .int .i64 c.sh, .int .i64 c.nd, .int .i64 c.ep, .int .i64 c.n, .string ⟨c.fd.toArray⟩, .string ⟨c.id.toArray⟩, iv, .bool c.fl]) := Lib.hid (hw5 ▸ HZ4.out.set 0 _)
  have HO5 : Hid (Only [] W w5) := Lib.hid (HO4.out.trans (hw5 ▸ (Only.refl [z] _).setCell (.inl (by simp)) _) (fun x hx => by simp at hx; subst hx; exact .inr (Nat.le_of_eq HWZ.out)))
  clear hw5 k0 kf kl HZ4 HO4
  have CRT := Lib.hid (fun w' (ho : Only [] W w') => cmd_right ⟨8, c.ss, c.sq, c.sh, c.nd, c.ep, c.n, c.fd, c.id, c.its, c.fl⟩ iv w' (HCM8.out.only ho))
  unfold Cm.val at CRT
  have HZ5b : Hid (Cells w5 z 38 ((⟨8, c.ss, c.sq, c.sh, c.nd, c.ep, c.n, c.fd, c.id, c.its, c.fl⟩ : Cm).cells iv)) := HZ5
  obtain ⟨c0, c1, c2, c3, c4, c5, c6, c7, c8, c9, c10⟩ := cm_cells HZ5b.out
  go_wp2_with fail
  refine (CRT.out _ HO5.out).mono ?_
  rintro e w6 ⟨rfl, ho6⟩
  have HO6 := Lib.hid (HO5.out.tr ho6)
  have HZ6 := Lib.hid (HZ5b.out.only ho6 (by simp))
  clear ho6 HO5 HZ5 HZ5b c0 c1 c2 c3 c4 c5 c6 c7 c8 c9 c10 CRT
  cases hrt : rightB ⟨8, c.ss, c.sq, c.sh, c.nd, c.ep, c.n, c.fd, c.id, c.its, c.fl⟩ with
  | false =>
    go_wp2_with fail
    go_ret
    exact ⟨rfl, HO6.out⟩
  | true =>
  have HRT := Lib.hid hrt
  have HIT : Hid (c.its.all itR = true) := Lib.hid (by
    have := hrt
    unfold rightB at this
    simp only [Bool.and_eq_true] at this
    exact this.2)
  have HSH : Hid (0 ≤ c.sh ∧ c.sh ≤ 7) := Lib.hid (by
    have := hrt
    unfold rightB numB at this
    simp only [Bool.and_eq_true] at this
    exact inB_iff.1 this.1.1.1.1.2)
  clear hrt
  go_wp2_with fail
  refine (agw_new W _ HO6.out).mono ?_
  rintro e wn ⟨p, K0, rfl, hA0, hl0, ho0⟩
  have H0 : Hid (AgW W wn p K0 0 (runB AgS.new (l.take 0))) := Lib.hid hA0
  have HB0 : Hid (Bx wn K0 z 38 ((⟨8, c.ss, c.sq, c.sh, c.nd, c.ep, c.n, c.fd, c.id, c.its, c.fl⟩ : Cm).cells iv)) := Lib.hid ⟨HZ6.out.only ho0 (by simp), fun hm => by have := hl0 z hm; have := HZ6.out.lt; omega⟩
  clear hA0 hl0 ho0 HZ6
  go_wp2_with fail
  go_loopw [10] (fun i wr => ∃ (k : Nat) (K : List Nat), k ≤ l.length ∧ i = .int .i64 k ∧ Hid (AgW W wr p K (k) (runB AgS.new (l.take k))) ∧ Hid (Bx wr K z 38 ((⟨8, c.ss, c.sq, c.sh, c.nd, c.ep, c.n, c.fd, c.id, c.its, c.fl⟩ : Cm).cells iv))) (fun i _ => l.length - (intOf i).toNat)
  case atStart => exact ⟨0, _, by omega, rfl, H0, HB0⟩
  case round =>
    obtain ⟨k, K, hk, rfl, H, HB⟩ := hrel
    obtain ⟨wq, rfl⟩ : ∃ wq, wq = wr := ⟨_, rfl⟩
    by_cases hlt : k < l.length
    · have hlt' : (k : Int) < (l.length : Int) := by omega
      obtain ⟨a, ha⟩ : ∃ a, l[k]? = some a := ⟨_, List.getElem?_eq_getElem hlt⟩
      have ham := List.mem_of_getElem? ha
      have CM := Lib.hid ((HG1.out a ham).only H.out.ho)
      have IK := Lib.hid (itk_base (HG1.out a ham) H.out)
      have hil : a.c.its.length ≤ 1000000 := by have := (HM1.out.al a ham).n; omega
      obtain ⟨ab, ao, ac, hv, q0, q1, q2, q3, q4, q5, q6, q7, q8, q9, q10⟩ := cmL_at (HS1.out.only H.out.ho (Nat.le_refl _) (by simp)) ha
      injection hv with e1 e2 e3
      subst e1; subst e3

      have hn80 := HM1.out.n
      have CD := Lib.hid (agw_do p K _ _ (by omega) a.c a.iv W wq H.out CM.out hil IK.out)
      have HT : Hid (runB AgS.new (l.take (k + 1)) = (doA (runB AgS.new (l.take k)) a.c).2) := Lib.hid (runB_step _ l k a ha)
      unfold Cm.val at CD
      clear hn80 ha ham e2 hil CM IK
      go_wp2_with fail
      refine CD.out.mono ?_
      intro e w5 hd5
      obtain ⟨pv, K2, rfl, hp5, hA5, ho5, hN5, hk5, PA, pc, rfl⟩ := hd5.of
      have H5 : Hid (AgW W w5 p K2 ((k + 1)) (runB AgS.new (l.take (k + 1)))) := Lib.hid (by rw [HT.out]; exact hA5)
      have HBn := Lib.hid (HB.out.does ho5 hN5)
      clear HB
      clear q0 q1 q2 q3 q4 q5 q6 q7 q8 q9 q10 hp5 hA5 ho5 hN5 hk5 CD HT H hd5
      go_wp2_with fail
      go_roundw
      case rel => exact ⟨k + 1, K2, by omega, by go_num, H5, HBn⟩
      case measure => simp [intOf]; omega
    · have hdd : decide ((k : Int) < (l.length : Int)) = false := by simp; omega
      obtain rfl : k = l.length := by omega
      rw [List.take_length] at H
      obtain ⟨a0, ha0⟩ : ∃ a0, runB AgS.new l = a0 := ⟨_, rfl⟩
      rw [ha0] at H
      clear ha0
      have CV := Lib.hid (agw_save (by have := HM1.out.n; omega) H.out)
      go_wp2_with fail
      refine CV.out.mono ?_
      rintro e w5 ⟨rfl, ho5⟩
      have H5 := Lib.hid (H.out.read ho5)
      have HB5 := Lib.hid (HB.out.read ho5)
      clear ho5 CV HB H
      have CG := Lib.hid (ag_get p K a0 c.sh w5 H5.out.at_ H5.out.i.d.up.len)
      obtain ⟨⟨gn, ge, gt⟩, hg⟩ : ∃ g, a0.d.get c.sh = g := ⟨_, rfl⟩
      have HG0 := Lib.hid hg
      rw [hg] at CG
      unfold L16.Ls.val at CG
      dsimp only at CG
      obtain ⟨c0, c1, c2, c3, c4, c5, c6, c7, c8, c9, c10⟩ := cm_cells HB5.out.1
      clear hg
      go_wp2_with fail
      refine CG.out.mono ?_
      rintro e w6 ⟨rfl, ho6⟩
      obtain ⟨b1, b2, b3⟩ := box_row w6 29 [.int .i64 0, .int .i64 0, .int .i64 0] [.int .i64 gn, .int .i64 ge, .int .i64 gt]
      have hone : (#[.int .i64 gn, .int .i64 ge, .int .i64 gt] : Array Value).all (·.oneCell') = true := by simp [Value.oneCell']
      go_upto_region 17 with (refine wpList_store_row rfl 29 _ _ rfl w6.heap.size #[.int .i64 gn, .int .i64 ge, .int .i64 gt] rfl rfl 29 _ b2 (by kernel_rfl) rfl hone ?_)
      (try simp only [Act.put])
      obtain ⟨v6, hv⟩ : ∃ u, (w6.alloc (.cells #[.int .i64 0, .int .i64 0, .int .i64 0] 29)).setRow w6.heap.size #[.int .i64 gn, .int .i64 ge, .int .i64 gt] = u := ⟨_, rfl⟩
      rw [hv]
      have b1 : Only [] w6 v6 := hv ▸ b1
      have b3 : Cells v6 w6.heap.size 29 [.int .i64 gn, .int .i64 ge, .int .i64 gt] := hv ▸ b3
      obtain ⟨zl, hz⟩ : ∃ z, w6.heap.size = z := ⟨_, rfl⟩
      rw [hz] at b3 ⊢
      have b1 := Only.tr ho6 b1
      have H6 := Lib.hid (H5.out.read b1)
      have HB6 := Lib.hid (HB5.out.read b1)
      clear c0 c1 c2 c3 c4 c5 c6 c7 c8 c9 c10 ho6 hone b1 b2 hv hz H5 HB5 CG
      obtain ⟨c0, c1, c2, c3, c4, c5, c6, c7, c8, c9, c10⟩ := cm_cells HB6.out.1
      obtain ⟨nw, hnw⟩ : ∃ x, a0.d.now = x := ⟨_, rfl⟩
      have CN := Lib.hid (fun u : Since v6 => ag_now p K a0 u.w (H6.out.read u.2).at_)
      rw [hnw] at CN
      obtain ⟨sv, hsv⟩ : ∃ x, shardL c.fd = x := ⟨_, rfl⟩
      have CO := Lib.hid (fun u : Since v6 => ref_of14 c.fd u.w (by unfold maxLen at hfdm; omega))
      rw [hsv] at CO
      have HMAY := Lib.hid (may_eq a0 ⟨8, c.ss, c.sq, c.sh, c.nd, c.ep, c.n, c.fd, c.id, c.its, c.fl⟩ gn ge gt nw sv HG0.out hnw hsv)
      have m0 := b3.cell (k := 0) rfl
      have m1 := b3.cell (k := 1) rfl
      have m2 := b3.cell (k := 2) rfl
      have ml := b3.lt
      have l0 := fun u : Since v6 => u.cell m0
      have l1 := fun u : Since v6 => u.cell m1
      have l2 := fun u : Since v6 => u.cell m2
      have u3 := fun u : Since v6 => u.cell c3
      have u4 := fun u : Since v6 => u.cell c4
      have u5 := fun u : Since v6 => u.cell c5
      have u7 := fun u : Since v6 => u.cell c7
      clear hnw hsv b3 m0 m1 m2 c0 c1 c2 c3 c4 c5 c6 c7 c8 c9 c10
      go_cut [13] (fun x wx => x = .bool ((gn == c.nd) && ((ge == c.ep) && (decide (nw < gt) && ((sv : Int) == c.sh)))) ∧ Hid (Only [] v6 wx))
      case first =>
        cases d1 : (gn == c.nd) with
        | false =>

          refine wp_region_only v6 (Only.refl _ _) (by kernel_rfl) (by kernel_rfl) ?_
          repeat (go_big_quiet_step (first | (go_at_call 21; refine Calls.only_same (CN.out _)) | (go_at_call 30; refine Calls.only_same (CO.out _))))
          refine wpQuiet_nil ?_
          rintro ⟨w7, ho7⟩
          dsimp only
          have HO7 := Lib.hid ho7
          clear ho7
          go_wp2_with fail
          go_meet
          exact ⟨by simp [d1], HO7⟩
        | true =>
        cases d2 : (ge == c.ep) with
        | false =>

          refine wp_region_only v6 (Only.refl _ _) (by kernel_rfl) (by kernel_rfl) ?_
          repeat (go_big_quiet_step (first | (go_at_call 21; refine Calls.only_same (CN.out _)) | (go_at_call 30; refine Calls.only_same (CO.out _))))
          refine wpQuiet_nil ?_
          rintro ⟨w7, ho7⟩
          dsimp only
          have HO7 := Lib.hid ho7
          clear ho7
          go_wp2_with fail
          go_meet
          exact ⟨by simp [d1, d2], HO7⟩
        | true =>
        cases d3 : decide (nw < gt) with
        | false =>

          refine wp_region_only v6 (Only.refl _ _) (by kernel_rfl) (by kernel_rfl) ?_
          repeat (go_big_quiet_step (first | (go_at_call 21; refine Calls.only_same (CN.out _)) | (go_at_call 30; refine Calls.only_same (CO.out _))))
          refine wpQuiet_nil ?_
          rintro ⟨w7, ho7⟩
          dsimp only
          have HO7 := Lib.hid ho7
          clear ho7
          go_wp2_with fail
          go_meet
          exact ⟨by simp [d1, d2, d3], HO7⟩
        | true =>

          refine wp_region_only v6 (Only.refl _ _) (by kernel_rfl) (by kernel_rfl) ?_
          repeat (go_big_quiet_step (first | (go_at_call 21; refine Calls.only_same (CN.out _)) | (go_at_call 30; refine Calls.only_same (CO.out _))))
          refine wpQuiet_nil ?_
          rintro ⟨w7, ho7⟩
          dsimp only
          have HO7 := Lib.hid ho7
          clear ho7
          go_wp2_with fail
          go_meet
          exact ⟨by simp [d1, d2, d3], HO7⟩
      case rest =>
      obtain ⟨rfl, HW7⟩ := hcut
      rw [← HMAY.out]
      clear l0 l1 l2 u3 u4 u5 u7 CN CO HMAY HG0 ml
      have CP := Lib.hid (ag_polled p K a0 c.fd hfdm wc (H6.out.read HW7.out).at_)
      have H7 := Lib.hid (H6.out.read HW7.out)
      have HB7 := Lib.hid (HB6.out.read HW7.out)
      obtain ⟨wa, hwa⟩ : ∃ u, u = wc := ⟨wc, rfl⟩
      subst hwa
      have FE := fence19 H7.out.i (by have := HM1.out.n; omega) (⟨8, c.ss, c.sq, c.sh, c.nd, c.ep, c.n, c.fd, c.id, c.its, c.fl⟩ : Cm) HRT.out rfl HSH.out HIT.out
      have IK := Lib.hid (itk_base HCM8.out H7.out)
      have CD0 := Lib.hid (fun w' (ho : Only [] wa w') => agw_do p K _ _ (by have := HM1.out.n; omega) (⟨8, c.ss, c.sq, c.sh, c.nd, c.ep, c.n, c.fd, c.id, c.its, c.fl⟩ : Cm) iv W w' (H7.out.read ho) ((HCM8.out.only H7.out.ho).only ho) HM3.out (itk_base HCM8.out (H7.out.read ho)))
      obtain ⟨r, hr⟩ : ∃ r, (doA a0 (⟨8, c.ss, c.sq, c.sh, c.nd, c.ep, c.n, c.fd, c.id, c.its, c.fl⟩ : Cm)).1 = r := ⟨_, rfl⟩
      obtain ⟨a1, ha1⟩ : ∃ r, (doA a0 (⟨8, c.ss, c.sq, c.sh, c.nd, c.ep, c.n, c.fd, c.id, c.its, c.fl⟩ : Cm)).2 = r := ⟨_, rfl⟩
      rw [hr, ha1] at FE CD0
      have FE1 : mayA a0 ⟨8, c.ss, c.sq, c.sh, c.nd, c.ep, c.n, c.fd, c.id, c.its, c.fl⟩ = false → r = errR 15 ∧ a1 = a0 := fun h => by
        have := FE.1 h
        exact ⟨hr.symm.trans (congrArg Prod.fst this), ha1.symm.trans (congrArg Prod.snd this)⟩
      have FEH := Lib.hid FE.2
      have FE1H := Lib.hid FE1
      unfold Cm.val at CD0
      obtain ⟨c0, c1, c2, c3, c4, c5, c6, c7, c8, c9, c10⟩ := cm_cells HB7.out.1
      obtain ⟨pl, hpl⟩ : ∃ x, (fnd a0.s c.fd).elim 0 (·.pol) = x := ⟨_, rfl⟩
      obtain ⟨fa, hfa⟩ : ∃ x, (fnd a0.s c.fd).elim 0 (·.fai) = x := ⟨_, rfl⟩
      obtain ⟨is, his⟩ : ∃ x, (fnd a0.s c.fd).isSome = x := ⟨_, rfl⟩
      rw [hpl, hfa, his] at CP
      have HIS := Lib.hid his
      clear FE FE1 hr ha1 hpl hfa his HW7
      go_wp2_with fail
      refine CP.out.mono ?_
      rintro e w8 ⟨rfl, ho8⟩
      have HO8 := Lib.hid ho8
      have HB8 := Lib.hid (HB7.out.read ho8)
      have CD := Lib.hid (CD0.out w8 ho8)
      clear c0 c1 c2 c3 c4 c5 c6 c7 c8 c9 c10 ho8 HB7 CP CD0
      obtain ⟨c0, c1, c2, c3, c4, c5, c6, c7, c8, c9, c10⟩ := cm_cells HB8.out.1
      go_wp2_with fail
      refine CD.out.mono ?_
      intro e w9 hd9
      obtain ⟨pv, K9, rfl, hp9, hA9, ho9, hN9, hk9, PA9, pc9, rfl⟩ := hd9.of
      have HA9 := Lib.hid hA9
      have HP9 := Lib.hid hp9
      have HB9 := Lib.hid (HB8.out.does ho9 hN9)
      clear c0 c1 c2 c3 c4 c5 c6 c7 c8 c9 c10 hd9 hp9 hA9 ho9 hN9 hk9 CD IK HB8 H7 H6 HB6
      obtain ⟨b1, b2, b3⟩ := box_row w9 34 [.int .i64 0, .int .i64 0, .slice none 0 0] [.int .i64 r.er, .int .i64 r.n, .slice PA9 r.ps.length pc9]
      have hone : (#[.int .i64 r.er, .int .i64 r.n, .slice PA9 r.ps.length pc9] : Array Value).all (·.oneCell') = true := by simp [Value.oneCell']
      have hnew : w9.heap.size ∉ K9 := fun hm => by have := HA9.out.at_.bw _ hm; omega
      unfold Rp.val
      go_upto_region 20 with (refine wpList_store_row rfl 34 _ _ rfl w9.heap.size #[.int .i64 r.er, .int .i64 r.n, .slice PA9 r.ps.length pc9] rfl rfl 34 _ b2 (by kernel_rfl) rfl hone ?_)
      (try simp only [Act.put])
      obtain ⟨v9, hv⟩ : ∃ u, (w9.alloc (.cells #[.int .i64 0, .int .i64 0, .slice none 0 0] 34)).setRow w9.heap.size #[.int .i64 r.er, .int .i64 r.n, .slice PA9 r.ps.length pc9] = u := ⟨_, rfl⟩
      rw [hv]
      have b1 : Only [] w9 v9 := hv ▸ b1
      have b3 : Cells v9 w9.heap.size 34 [.int .i64 r.er, .int .i64 r.n, .slice PA9 r.ps.length pc9] := hv ▸ b3
      obtain ⟨z9, hz⟩ : ∃ z, w9.heap.size = z := ⟨_, rfl⟩
      rw [hz] at b3 hnew ⊢
      have BZ9 : Hid (Bx v9 K9 z9 34 [.int .i64 r.er, .int .i64 r.n, .slice PA9 r.ps.length pc9]) := Lib.hid ⟨b3, hnew⟩
      have HA10 := Lib.hid (HA9.out.read b1)
      have HB10 := Lib.hid (HB9.out.read b1)
      clear b1 b2 b3 hone hnew hv hz
      have x0 := BZ9.out.1.cell (k := 0) rfl
      have x1 := BZ9.out.1.cell (k := 1) rfl
      have hz9 := BZ9.out.1.lt
      clear HA9 HB9 HP9
      have CV := Lib.hid (fun w' (ho : Only [] v9 w') => agw_save (by have := HM1.out.n; omega) (HA10.out.read ho))
      cases hmay : mayA a0 ⟨8, c.ss, c.sq, c.sh, c.nd, c.ep, c.n, c.fd, c.id, c.its, c.fl⟩ with
      | false =>
        obtain ⟨rfl, rfl⟩ := FE1H.out hmay
        have CV0 := Lib.hid (CV.out v9 (Only.refl _ _))
        have hself : (agB a1 == agB a1) = true := by simp
        have x0 : v9.cell? ⟨z9, 0, none⟩ = some (.int .i64 15) := x0
        have x1 : v9.cell? ⟨z9, 1, none⟩ = some (.int .i64 0) := x1
        clear hmay FEH FE1H CV
        go_wp2_with fail
        refine CV0.out.mono ?_
        rintro e w11 ⟨rfl, ho11⟩
        have HF := Lib.hid (HA10.out.ho.tr ho11)
        clear ho11
        go_wp2_with fail
        go_ret
        exact ⟨rfl, HF.out⟩
      | true =>
      cases is with
      | false =>
        obtain ⟨h1, h2⟩ := FEH.out.1 hmay (by simpa using HIS.out)
        subst h2
        have CV0 := Lib.hid (CV.out v9 (Only.refl _ _))
        have hself : (agB a1 == agB a1) = true := by simp
        have y0 : v9.cell? ⟨z9, 0, none⟩ = some (.int .i64 4) := by rw [← h1]; exact x0
        clear hmay FEH FE1H CV h1 x0 x1
        go_wp2_with fail
        refine CV0.out.mono ?_
        rintro e w11 ⟨rfl, ho11⟩
        have HF := Lib.hid (HA10.out.ho.tr ho11)
        clear ho11
        go_wp2_with fail
        go_ret
        exact ⟨rfl, HF.out⟩
      | true =>
      obtain ⟨f, hf⟩ := Option.isSome_iff_exists.1 HIS.out
      obtain ⟨h1, h2, h3, g, hg, h4, h5⟩ := FEH.out.2 hmay f hf
      have CP := Lib.hid (ag_polled p K9 a1 c.fd hfdm v9 HA10.out.at_)
      have hg : fnd a1.s c.fd = some g := hg
      rw [hg] at CP
      have CP2 : Hid (Calls Tryz.prog 31 #[.pointer (some ⟨p, 0, none⟩), .string ⟨c.fd.toArray⟩] v9 fun e w' => e = .returned (.tuple #[.int .i64 g.pol, .int .i64 g.fai, .bool true]) ∧ Only [] v9 w') := Lib.hid CP.out
      have CN2 := Lib.hid (fun u : Since v9 => ag_now p K9 a1 u.w (HA10.out.read u.2).at_)
      have y0 : v9.cell? ⟨z9, 0, none⟩ = some (.int .i64 0) := by rw [← h1]; exact x0
      have hnw : a1.d.now = g.pol := by rw [h2, h4]
      rw [hnw] at CN2
      obtain ⟨gp, hgp⟩ : ∃ x, g.pol = x := ⟨_, rfl⟩
      obtain ⟨gf, hgf⟩ : ∃ x, g.fai = x := ⟨_, rfl⟩
      rw [hgp] at CN2 CP2
      rw [hgf] at CP2 h5
      have h3' : r.n ≤ (c.its.length : Int) := h3
      obtain ⟨rn, hrn⟩ : ∃ x, r.n = x := ⟨_, rfl⟩
      rw [hrn] at x1 h3'
      obtain ⟨c0, c1, c2, c3, c4, c5, c6, c7, c8, c9, c10⟩ := cm_cells HB10.out.1
      have HIL := HIV.out
      subst HIL
      have hr1 := h1
      clear hmay FEH FE1H CV CP hg h1 h2 h3 h4 hnw hgp hgf hf x0
      go_wp2_with fail
      refine CP2.out.mono ?_
      rintro e w11 ⟨rfl, ho11⟩
      have HX11 := Lib.hid (BZ9.out.read ho11)
      have HB11 := Lib.hid (HB10.out.read ho11)
      have y0' := HX11.out.1.cell (k := 0) rfl
      rw [hr1] at y0'
      have y1' := HX11.out.1.cell (k := 1) rfl
      rw [hrn] at y1'
      have hz11 := HX11.out.1.lt
      have CN3 : Hid (Calls Tryz.prog 21 #[.pointer (some ⟨p, 0, none⟩)] w11 fun e w' => e = .returned (.int .i64 gp) ∧ w11 = w') := Lib.hid (CN2.out ⟨w11, ho11⟩)
      have HF := Lib.hid (HA10.out.ho.tr ho11)
      have g3 : decide (rn ≤ (c.its.length : Int)) = true := by simpa using h3'
      clear c0 c1 c2 c3 c4 c5 c6 c7 c8 c9 c10
      obtain ⟨c0, c1, c2, c3, c4, c5, c6, c7, c8, c9, c10⟩ := cm_cells HB11.out.1
      cases hfl : c.fl with
      | true =>
        rw [hfl] at h5 c10
        clear h3' x1 y0 ho11 CN2 CP2 HX11 HB11 hfl hr1 hrn
        go_wp2_with fail
        refine CN3.out.mono ?_
        rintro e w12 ⟨rfl, rfl⟩
        go_wp2_with fail
        go_ret
        exact ⟨rfl, HF.out⟩
      | false =>
        rw [hfl] at h5 c10
        clear h3' x1 y0 ho11 CN2 CP2 HX11 HB11 hfl hr1 hrn
        go_wp2_with fail
        refine CN3.out.mono ?_
        rintro e w12 ⟨rfl, rfl⟩
        go_wp2_with fail
        go_ret
        exact ⟨rfl, HF.out⟩

end Go.Proofs.YtcjfmildalappaaGreat
