/-
  The walk over HistoryWaits: an op that waits changes nothing of whether others fit; one of no entry of the row does not. (Printed by gen_hi23waits.py.)
-/
import Derived.Test.YtcjfmildalappaaGreatK26ae
import Derived.Test.YtcjfmildalappaaGreatK26az
import Derived.Test.YtcjfmildalappaaGreatK26ba
set_option linter.all false
namespace Go.Proofs.YtcjfmildalappaaGreat
open Go.RowKit
set_option maxRecDepth 100000 in
set_option maxHeartbeats 16000000 in
theorem historyWaits_walk (W : World) (v0 : Value) (l : List C19) (s0 : SlAt W W.heap.size v0 11 l.length (cmL l)) (g0 : ∀ a ∈ l, CmAt W a.iv a.c) (v1 : Value) (l1 : List Aq) (s1 : SlAt W W.heap.size v1 5 l1.length (aqL l1)) (g1 : ∀ a ∈ l1, a.Ok) (S2 : ByteArray) (hS2 : S2.size ≤ maxLen) (st : Int) (_ : (Lit.int .i64 st).wf = true) :
    Calls Tryz.prog 15 #[v0, v1, .string S2, .int .i64 st] W fun e W' => e = .returned (.bool true) ∧ Only [] W W' := by
  obtain ⟨i0, hi0, hz0, hz1, hz2⟩ := info_parts info_cop23
  obtain ⟨d, rfl, hdl⟩ := str_of S2
  clear hS2 hdl
  obtain ⟨LA1, lc1, rfl⟩ := s0.shape
  have HS1 := Lib.hid s0
  have HG1 := Lib.hid g0
  have CS1 := Lib.hid (fun w' (ho : Only [] W w') => small23 (.slice LA1 l.length lc1) l w' ((s0.only ho (Nat.le_refl _) (by simp)).more ho.size) (fun a ha => (g0 a ha).only ho))
  have hll1 := sl_len s0
  unfold maxLen at hll1
  have CROW := Lib.hid (fun w' (ho : Only [] W w') (hm : Sm19 l) => row23 (.slice LA1 l.length lc1) l w' ((s0.only ho (Nat.le_refl _) (by simp)).more ho.size) (fun a ha => (g0 a ha).only ho) (fun a ha => (hm.al a ha).sm) (by have := hm.n; omega))
  clear s0 g0
  have C0 := Lib.hid (shown23 W)
  have hel := rowE_length l
  have HEK : Hid (l.length ≤ 80 → EyOk (rowE l)) := Lib.hid (fun h => rowE_ok (by omega))
  obtain ⟨QA1, qc1, rfl⟩ := s1.shape
  have HS2 := Lib.hid s1
  have HG2 := Lib.hid g1
  have hll2 := sl_len s1
  unfold maxLen at hll2
  clear s1 g1
  go_enter Tryz.func15, Tryz.ntmps15
  go_wp2_with fail
  refine C0.out.mono ?_
  rintro e w1 ⟨rfl, ho1⟩
  have HO1 := Lib.hid ho1
  clear ho1 C0
  go_wp2_with fail
  refine (CS1.out _ HO1.out).mono ?_
  rintro e w2 ⟨ok1, rfl, hok, how⟩
  have HO := Lib.hid (HO1.out.tr how)
  have HMo1 := Lib.hid hok
  clear how hok
  cases ok1 with
  | false =>
    go_wp2_with fail
    go_ret
    exact ⟨rfl, HO.out⟩
  | true =>
  have HM1 := Lib.hid (HMo1.out rfl)
  have hn80 := HM1.out.n
  by_cases h40 : l1.length ≤ 40
  case neg =>
    have h41 : (40 : Int) < (l1.length : Int) := by omega
    clear h40
    go_wp2_with fail
    go_ret
    exact ⟨rfl, HO.out⟩
  have h41 : decide ((40 : Int) < (l1.length : Int)) = false := decide_eq_false (by omega)
  by_cases hd3 : d.length ≤ 300
  case neg =>
    have hd4 : (300 : Int) < (d.length : Int) := by omega
    clear hd3
    go_wp2_with fail
    go_ret
    exact ⟨rfl, HO.out⟩
  have hd4 : decide ((300 : Int) < (d.length : Int)) = false := decide_eq_false (by omega)
  have HDL : Hid (d.length ≤ 1000000) := Lib.hid (by omega)
  clear hd3
  go_wp2_with fail
  go_loopw [11] (fun i wr => ∃ k : Nat, k ≤ l1.length ∧ i = .int .i64 k ∧ wr = w2 ∧ Hid (∀ a ∈ l1.take k, a.d.length ≤ 300)) (fun i _ => l1.length - (intOf i).toNat)
  case atStart => exact ⟨0, by omega, rfl, rfl, Lib.hid (fun a ha => by cases ha)⟩
  case round =>
    obtain ⟨k, hk, rfl, rfl, HD⟩ := hrel
    by_cases hlt : k < l1.length
    · have hlt' : (k : Int) < (l1.length : Int) := by omega
      obtain ⟨x, hx⟩ : ∃ x, l1[k]? = some x := ⟨_, List.getElem?_eq_getElem hlt⟩
      obtain ⟨ab, ao, ac, hv, _, _, _, _, q4⟩ := aqL_at (HS2.out.only HO.out (Nat.le_refl _) (by simp)) hx
      injection hv with e1 e2 e3
      subst e1; subst e3
      clear e2
      have HX := Lib.hid hx
      clear hx
      by_cases hx3 : x.d.length ≤ 300
      · have hx4 : decide ((300 : Int) < (x.d.length : Int)) = false := decide_eq_false (by omega)
        have HD2 : Hid (∀ a ∈ l1.take (k + 1), a.d.length ≤ 300) := Lib.hid (fun a ha => by
          rw [List.take_add_one, HX.out, List.mem_append] at ha
          rcases ha with ha | ha
          · exact HD.out a ha
          · simp at ha
            rw [ha]
            exact hx3)
        go_wp2_with fail
        go_roundw
        case rel => exact ⟨k + 1, by omega, by go_num, by first | rfl | trivial, HD2⟩
        case measure => simp [intOf]; omega
      · have hx4 : (300 : Int) < (x.d.length : Int) := by omega
        clear hx3
        go_wp2_with fail
        go_ret
        exact ⟨rfl, HO.out⟩
    · have hdd : decide ((k : Int) < (l1.length : Int)) = false := decide_eq_false (by omega)
      obtain rfl : k = l1.length := by omega
      rw [List.take_length] at HD
      have HE := Lib.hid (HEK.out hn80)
      obtain ⟨E, hE⟩ : ∃ E, rowE l = E := ⟨_, rfl⟩
      rw [hE] at CROW HE hel
      clear hE HEK HMo1 hlt hk hdd
      go_wp2_with fail
      refine (CROW.out _ HO.out HM1.out).mono ?_
      rintro e w3 ⟨rv, rfl, hrv, ho3⟩
      have HRV : Hid (SlAt w3 w3.heap.size rv 4 E.length (eyL E)) := Lib.hid (by rw [hel]; exact SlAt.of_own hrv)
      obtain ⟨RA, rc, rfl⟩ := HRV.out.shape
      have HO3 := Lib.hid (HO.out.tr ho3)
      have hE8 : E.length ≤ 80 := by omega
      clear hrv ho3 CROW HO hel
      have hrl := repE_length E AgS.new
      have CRD := Lib.hid (rd_run _ E w3 HRV.out HE.out)
      have HRSB := Lib.hid (repE_le (l := E) (by omega))
      obtain ⟨X, hX⟩ : ∃ X, agB (runE AgS.new E) = X := ⟨_, rfl⟩
      obtain ⟨rs, hrs⟩ : ∃ r, repE AgS.new E = r := ⟨_, rfl⟩
      have HRS := Lib.hid hrs
      rw [hX, hrs] at CRD
      rw [hrs] at hrl HRSB
      have HRL := Lib.hid hrl
      clear hX hrs hrl
      go_wp2_with fail
      refine CRD.out.mono ?_
      rintro e w4 ⟨qv, rfl, hqv, ho4⟩
      have HQV : Hid (SlAt w4 w4.heap.size qv 1 E.length (svs rs)) := Lib.hid (SlAt.of_own hqv)
      obtain ⟨QA, qc, rfl⟩ := HQV.out.shape
      have HO4 := Lib.hid (HO3.out.tr ho4)
      have HRV4 := Lib.hid ((HRV.out.only ho4 (Nat.le_refl _) (by simp)).more ho4.size)
      have COPS := Lib.hid (ops23 _ _ (.slice QA1 l1.length qc1) E rs l1 w4 HRV4.out HQV.out ((HS2.out.only HO4.out (Nat.le_refl _) (by simp)).more HO4.out.size) HE.out HRL.out (fun y hy => by have := HRSB.out y hy; omega) HG2.out HD.out (by omega))
      clear hqv ho4 CRD HRV HO3
      go_wp2_with fail
      refine COPS.out.mono ?_
      rintro e w5 ⟨ov, os, rfl, hol, hov, ho5⟩
      have hos : os.length ≤ 40 := by omega
      have HOV : Hid (SlAt w5 w5.heap.size ov 5 os.length (oqL os)) := Lib.hid (by rw [hol]; exact SlAt.of_own hov)
      obtain ⟨OA, oc, rfl⟩ := HOV.out.shape
      have HO5 := Lib.hid (HO4.out.tr ho5)
      have HRV5 := Lib.hid ((HRV4.out.only ho5 (Nat.le_refl _) (by simp)).more ho5.size)
      have HQV5 := Lib.hid ((HQV.out.only ho5 (Nat.le_refl _) (by simp)).more ho5.size)
      have CAS := Lib.hid (as23 _ os w5 HOV.out (by omega))
      clear hov ho5 COPS hol HO4 HRV4 HQV
      go_wp2_with fail
      refine CAS.out.mono ?_
      rintro e w6 ⟨xv, rfl, hxv, ho6⟩
      have HXS := Lib.hid (SrcA.own hxv (oqL_one os))
      have HXV : Hid (SlAt w6 w6.heap.size xv 5 os.length (oqL os)) := Lib.hid (SlAt.of_own hxv)
      obtain ⟨XA, xc, rfl⟩ := HXV.out.shape
      have HO6 := Lib.hid (HO5.out.tr ho6)
      have HRV6 := Lib.hid ((HRV5.out.only ho6 (Nat.le_refl _) (by simp)).more ho6.size)
      have HQV6 := Lib.hid ((HQV5.out.only ho6 (Nat.le_refl _) (by simp)).more ho6.size)
      have HOV6 := Lib.hid ((HOV.out.only ho6 (Nat.le_refl _) (by simp)).more ho6.size)
      clear hxv ho6 CAS HO5 HRV5 HQV5 HOV
      obtain ⟨ow, how⟩ : ∃ o : Oq, o = ⟨0, d, [], st, -1, HDL.out, by simp⟩ := ⟨_, rfl⟩
      have HCW : Hid (oqL (os ++ [ow]) = oqL os ++ [.int .i64 0, .string ⟨d.toArray⟩, .string ⟨([] : List UInt8).toArray⟩, .int .i64 st, .int .i64 (-1)]) := Lib.hid (by rw [oqL_snoc, how]; rfl)
      have HFW : Hid (fitP E (repE AgS.new E) (os ++ [ow]) = fitP E (repE AgS.new E) os) := Lib.hid (fit_wait _ _ _ _ (by rw [how]; show (-1 : Int) < 0; decide))
      have HLN : Hid ((os ++ [ow]).length = os.length + 1) := Lib.hid (by simp)
      obtain ⟨om, hom⟩ : ∃ x, os ++ [ow] = x := ⟨_, rfl⟩
      rw [hom] at HCW HFW HLN
      have HSO : Hid (SortOk (2 * (os.filter cntO).length)) := Lib.hid (hi_sort _ (by have := List.length_filter_le cntO os; omega))
      have HSM : Hid (SortOk (2 * (om.filter cntO).length)) := Lib.hid (hi_sort _ (by have := List.length_filter_le cntO om; have := HLN.out; omega))
      clear how hom
      have CHF := Lib.hid (fun (w' : World) (ho : Only [] w6 w') (v : Value) (xs : List Oq) (hx : SlAt w' w'.heap.size v 5 xs.length (oqL xs)) (hn : xs.length ≤ 80) (hs : SortOk (2 * (xs.filter cntO).length)) => hi_fits (.slice RA E.length rc) v E xs w' ((HRV6.out.only ho (Nat.le_refl _) (by simp)).more ho.size) HE.out hx hn hs)
      have HL : Hid ((w6.alloc (.cells #[] 88)).ownsRow w6.heap.size 88 5 (.slice (some ⟨w6.heap.size, 0, none⟩) 0 0) 0 []) := Lib.hid (World.ownsRow_lit w6 #[] 0 (Nat.le_refl _) (by unfold maxLen; omega) rfl)
      have HA6 : Hid (Only [] w6 (w6.alloc (.cells #[] 88))) := Lib.hid ((Only.refl _ _).alloc _)
      have HSRC : Hid (SrcA (w6.alloc (.cells #[] 88)) (.slice XA os.length xc) 5 os.length (oqL os)) := Lib.hid (by
        have := HXS.out.only HA6.out
        exact this)
      go_upto_region 13 with fail
      go_upto_region 14 with (first
        | (at_builtin; refine wpList_appS rfl (.tmp 63) (.tmp 64) 84 rfl w6.heap.size 88 i0 (.agg #[.int .i64 0, .string ⟨#[]⟩, .string ⟨#[]⟩, .int .i64 0, .int .i64 0]) 5 56 Tryz.underlying84 hi0 hz0 hz1 hz2 rfl (by decide) (w6.alloc (.cells #[] 88)) (.slice (some ⟨w6.heap.size, 0, none⟩) 0 0) 0 [] rfl HL.out os.length os.length (oqL os) (oqL os) (by omega) rfl HSRC.out (by unfold maxLen; omega) (by omega) (by rw [World.size_alloc]; omega) ?_; intro va wa howna hoa hnewa)
        | (at_builtin; refine wpList_appA rfl _ _ 84 rfl w6.heap.size 88 i0 (.agg #[.int .i64 0, .string ⟨#[]⟩, .string ⟨#[]⟩, .int .i64 0, .int .i64 0]) 5 56 Tryz.underlying84 hi0 hz0 hz1 hz2 rfl (by decide) wa va os.length (oqL os) rfl howna 1 1 [.int .i64 0, .string ⟨d.toArray⟩, .string ⟨([] : List UInt8).toArray⟩, .int .i64 st, .int .i64 (-1)] rfl rfl (by simp [Value.oneCell']) (by unfold maxLen; omega) (by omega) (by have := hoa.size; rw [World.size_alloc] at this; omega) ?_; intro vb wb hownb hgrb hnewb))
      have HOA : Hid (Only [] w6 wa) := Lib.hid (HA6.out.trans hoa (fun x hx => .inr (by simp [Value.ownBlock] at hx; omega)))
      have HOB := Lib.hid (Only.own HOA.out howna hgrb (Nat.le_refl _))
      have HMB : Hid (SlAt wb wb.heap.size vb 5 om.length (oqL om)) := Lib.hid (by rw [HLN.out, HCW.out]; exact SlAt.of_own hownb)
      obtain ⟨MA, mc, rfl⟩ := HMB.out.shape
      have CF1 := Lib.hid (CHF.out wb HOB.out (.slice XA os.length xc) os ((HXV.out.only HOB.out (Nat.le_refl _) (by simp)).more HOB.out.size) (by omega) HSO.out)
      have CF2 := Lib.hid (fun w' (ho : Only [] wb w') => CHF.out w' (HOB.out.tr ho) (.slice MA om.length mc) om ((HMB.out.only ho (Nat.le_refl _) (by simp)).more ho.size) (by have := HLN.out; omega) HSM.out)
      rw [HFW.out] at CF2
      have hml := HLN.out
      rw [hml] at CF2 ⊢
      obtain ⟨B, hB⟩ : ∃ b, fitP E (repE AgS.new E) os = b := ⟨_, rfl⟩
      rw [hB] at CF1 CF2
      have hbb : (B != B) = false := by simp
      clear hml hB howna hoa hnewa hownb hgrb hnewb HL HSRC HSO HSM HFW HCW HA6 HOA
      go_wp2_with fail
      refine CF1.out.mono ?_
      rintro e w7 ⟨rfl, ho7⟩
      have HP7 := Lib.hid ho7
      clear ho7 CF1
      go_wp2_with fail
      refine (CF2.out _ HP7.out).mono ?_
      rintro e w8 ⟨rfl, ho8⟩
      have HP8 := Lib.hid (HOB.out.tr (HP7.out.tr ho8))
      clear ho8 CF2 HP7
      go_wp2_with fail
      go_loopw [17] (fun i wr => ∃ k : Nat, k ≤ E.length ∧ i = .int .i64 k ∧ wr = w8 ∧ Hid (∀ y ∈ E.take k, y.d ≠ d)) (fun i _ => E.length - (intOf i).toNat)
      case atStart => exact ⟨0, by omega, rfl, rfl, Lib.hid (fun a ha => by cases ha)⟩
      case round =>
        obtain ⟨k, hk, rfl, rfl, HN⟩ := hrel
        by_cases hlt : k < E.length
        · have hlt' : (k : Int) < (E.length : Int) := by omega
          obtain ⟨y, hy⟩ : ∃ y, E[k]? = some y := ⟨_, List.getElem?_eq_getElem hlt⟩
          obtain ⟨ab, ao, ac, hv, _, _, _, q3⟩ := eyL_at (HRV6.out.only HP8.out (Nat.le_refl _) (by simp)) hy
          injection hv with e1 e2 e3
          subst e1
          clear e2 e3
          have HY := Lib.hid hy
          clear hy
          cases hyd : (y.d == d) with
          | true =>
            go_wp2_with fail
            go_ret
            exact ⟨rfl, HO6.out.tr HP8.out⟩
          | false =>
            have HN2 : Hid (∀ a ∈ E.take (k + 1), a.d ≠ d) := Lib.hid (fun a ha => by
              rw [List.take_add_one, HY.out, List.mem_append] at ha
              rcases ha with ha | ha
              · exact HN.out a ha
              · simp at ha
                rw [ha]
                simpa using hyd)
            go_wp2_with fail
            go_roundw
            case rel => exact ⟨k + 1, by omega, by go_num, by first | rfl | trivial, HN2⟩
            case measure => simp [intOf]; omega
        · have hdd : decide ((k : Int) < (E.length : Int)) = false := decide_eq_false (by omega)
          obtain rfl : k = E.length := by omega
          rw [List.take_length] at HN
          have CA := Lib.hid (ref18_answer Rp.zero (.slice none 0 0) wr (rp_zero_at wr))
          have HZL := Lib.hid rpb_zero_le
          have HFN := Lib.hid (fun (o : Oq) (h1 : o.d = d) (h2 : o.en = 2) (h3 : o.r = rpb Rp.zero) => fit_no E (repE AgS.new E) o (by rw [h1]; exact HN.out) (by omega) h3)
          obtain ⟨z, hz⟩ : ∃ z, rpb Rp.zero = z := ⟨_, rfl⟩
          rw [hz] at CA HZL HFN
          unfold Rp.val Rp.zero at CA
          clear hz hdd
          go_wp2_with fail
          refine CA.out.mono ?_
          rintro e w9 ⟨rfl, ho9⟩
          have HP9 := Lib.hid (HP8.out.tr ho9)
          have HO9 := Lib.hid (HO6.out.tr HP9.out)
          clear ho9 CA
          have CF3 : Hid (Calls Tryz.prog 54 #[.slice RA E.length rc, .slice (some ⟨w9.heap.size, 0, none⟩) 1 1] (w9.alloc (.cells #[.int .i64 0, .string ⟨d.toArray⟩, .string ⟨z.toArray⟩, .int .i64 1, .int .i64 2] 88)) fun e w2 => e = .returned (.bool false) ∧ Only [] (w9.alloc (.cells #[.int .i64 0, .string ⟨d.toArray⟩, .string ⟨z.toArray⟩, .int .i64 1, .int .i64 2] 88)) w2) := Lib.hid (by
            have hz := HZL.out
            have := CHF.out (w9.alloc (.cells #[.int .i64 0, .string ⟨d.toArray⟩, .string ⟨z.toArray⟩, .int .i64 1, .int .i64 2] 88)) (HP9.out.alloc _) (.slice (some ⟨w9.heap.size, 0, none⟩) 1 1) [⟨0, d, z, 1, 2, HDL.out, hz⟩] (slat_op w9 ⟨0, d, z, 1, 2, HDL.out, hz⟩) (by simp) (hi_sort _ (by have := List.length_filter_le cntO [(⟨0, d, z, 1, 2, HDL.out, hz⟩ : Oq)]; simp at this; omega))
            rw [HFN.out _ rfl rfl rfl] at this
            exact this)
          go_wp2_with fail
          refine CF3.out.mono ?_
          rintro e w10 ⟨rfl, ho10⟩
          have HF := Lib.hid ((HO9.out.alloc (.cells #[.int .i64 0, .string ⟨d.toArray⟩, .string ⟨z.toArray⟩, .int .i64 1, .int .i64 2] 88)).tr ho10)
          clear ho10 CF3
          go_wp2_with fail
          go_ret
          exact ⟨rfl, HF.out⟩
end Go.Proofs.YtcjfmildalappaaGreat
