/-
  The walk over HistoryFits: whether ops fit a row, and where they stand. (Printed by gen_hi23fits.py.)
-/
import Derived.Test.YtcjfmildalappaaGreatK25ae
import Derived.Test.YtcjfmildalappaaGreatK25az
import Derived.Test.YtcjfmildalappaaGreatK25ba
set_option linter.all false
namespace Go.Proofs.YtcjfmildalappaaGreat
open Go.RowKit
set_option maxRecDepth 100000 in
set_option maxHeartbeats 16000000 in
theorem historyFits_walk (W : World) (v0 : Value) (l : List C19) (s0 : SlAt W W.heap.size v0 11 l.length (cmL l)) (g0 : ∀ a ∈ l, CmAt W a.iv a.c) (v1 : Value) (l1 : List Aq) (s1 : SlAt W W.heap.size v1 5 l1.length (aqL l1)) (g1 : ∀ a ∈ l1, a.Ok) :
    Calls Tryz.prog 12 #[v0, v1] W fun e W' => e = .returned (.bool true) ∧ Only [] W W' := by
  obtain ⟨LA1, lc1, rfl⟩ := s0.shape
  have HS1 := Lib.hid s0
  have HG1 := Lib.hid g0
  have CS1 := Lib.hid (fun w' (ho : Only [] W w') => small23 (.slice LA1 l.length lc1) l w' ((s0.only ho (Nat.le_refl _) (by simp)).more ho.size) (fun a ha => (g0 a ha).only ho))
  have hll1 := sl_len s0
  unfold maxLen at hll1
  have CROW := Lib.hid (fun w' (ho : Only [] W w') (hm : Sm19 l) => row23 (.slice LA1 l.length lc1) l w' ((s0.only ho (Nat.le_refl _) (by simp)).more ho.size) (fun a ha => (g0 a ha).only ho) (fun a ha => (hm.al a ha).sm) (by have := hm.n; omega))
  clear s0 g0
  have C0 := Lib.hid (shown23 W)
  have hel := rowE_length l
  have HEK : Hid (l.length ≤ 80 → EyOk (rowE l)) := Lib.hid (fun h => rowE_ok (by omega))
  obtain ⟨QA1, qc1, rfl⟩ := s1.shape
  have HS2 := Lib.hid s1
  have HG2 := Lib.hid g1
  have hll2 := sl_len s1
  unfold maxLen at hll2
  clear s1 g1
  go_enter Tryz.func12, Tryz.ntmps12
  go_wp2_with fail
  refine C0.out.mono ?_
  rintro e w1 ⟨rfl, ho1⟩
  have HO1 := Lib.hid ho1
  clear ho1 C0
  go_wp2_with fail
  refine (CS1.out _ HO1.out).mono ?_
  rintro e w2 ⟨ok1, rfl, hok, how⟩
  have HO := Lib.hid (HO1.out.tr how)
  have HMo1 := Lib.hid hok
  clear how hok
  cases ok1 with
  | false =>
    go_wp2_with fail
    go_ret
    exact ⟨rfl, HO.out⟩
  | true =>
  have HM1 := Lib.hid (HMo1.out rfl)
  have hn80 := HM1.out.n
  by_cases h40 : l1.length ≤ 40
  case neg =>
    have h41 : (40 : Int) < (l1.length : Int) := by omega
    clear h40
    go_wp2_with fail
    go_ret
    exact ⟨rfl, HO.out⟩
  have h41 : decide ((40 : Int) < (l1.length : Int)) = false := decide_eq_false (by omega)
  go_wp2_with fail
  go_loopw [7] (fun i wr => ∃ k : Nat, k ≤ l1.length ∧ i = .int .i64 k ∧ wr = w2 ∧ Hid (∀ a ∈ l1.take k, a.d.length ≤ 300)) (fun i _ => l1.length - (intOf i).toNat)
  case atStart => exact ⟨0, by omega, rfl, rfl, Lib.hid (fun a ha => by cases ha)⟩
  case round =>
    obtain ⟨k, hk, rfl, rfl, HD⟩ := hrel
    by_cases hlt : k < l1.length
    · have hlt' : (k : Int) < (l1.length : Int) := by omega
      obtain ⟨x, hx⟩ : ∃ x, l1[k]? = some x := ⟨_, List.getElem?_eq_getElem hlt⟩
      obtain ⟨ab, ao, ac, hv, _, _, _, _, q4⟩ := aqL_at (HS2.out.only HO.out (Nat.le_refl _) (by simp)) hx
      injection hv with e1 e2 e3
      subst e1; subst e3
      clear e2
      have HX := Lib.hid hx
      clear hx
      by_cases hx3 : x.d.length ≤ 300
      · have hx4 : decide ((300 : Int) < (x.d.length : Int)) = false := decide_eq_false (by omega)
        have HD2 : Hid (∀ a ∈ l1.take (k + 1), a.d.length ≤ 300) := Lib.hid (fun a ha => by
          rw [List.take_add_one, HX.out, List.mem_append] at ha
          rcases ha with ha | ha
          · exact HD.out a ha
          · simp at ha
            rw [ha]
            exact hx3)
        go_wp2_with fail
        go_roundw
        case rel => exact ⟨k + 1, by omega, by go_num, by first | rfl | trivial, HD2⟩
        case measure => simp [intOf]; omega
      · have hx4 : (300 : Int) < (x.d.length : Int) := by omega
        clear hx3
        go_wp2_with fail
        go_ret
        exact ⟨rfl, HO.out⟩
    · have hdd : decide ((k : Int) < (l1.length : Int)) = false := decide_eq_false (by omega)
      obtain rfl : k = l1.length := by omega
      rw [List.take_length] at HD
      have HE := Lib.hid (HEK.out hn80)
      obtain ⟨E, hE⟩ : ∃ E, rowE l = E := ⟨_, rfl⟩
      rw [hE] at CROW HE hel
      clear hE HEK HMo1 hlt hk hdd
      go_wp2_with fail
      refine (CROW.out _ HO.out HM1.out).mono ?_
      rintro e w3 ⟨rv, rfl, hrv, ho3⟩
      have HRV : Hid (SlAt w3 w3.heap.size rv 4 E.length (eyL E)) := Lib.hid (by rw [hel]; exact SlAt.of_own hrv)
      obtain ⟨RA, rc, rfl⟩ := HRV.out.shape
      have HO3 := Lib.hid (HO.out.tr ho3)
      have hE8 : E.length ≤ 80 := by omega
      clear hrv ho3 CROW HO hel
      have hrl := repE_length E AgS.new
      have CRD := Lib.hid (rd_run _ E w3 HRV.out HE.out)
      have HRSB := Lib.hid (repE_le (l := E) (by omega))
      obtain ⟨X, hX⟩ : ∃ X, agB (runE AgS.new E) = X := ⟨_, rfl⟩
      obtain ⟨rs, hrs⟩ : ∃ r, repE AgS.new E = r := ⟨_, rfl⟩
      have HRS := Lib.hid hrs
      rw [hX, hrs] at CRD
      rw [hrs] at hrl HRSB
      have HRL := Lib.hid hrl
      clear hX hrs hrl
      go_wp2_with fail
      refine CRD.out.mono ?_
      rintro e w4 ⟨qv, rfl, hqv, ho4⟩
      have HQV : Hid (SlAt w4 w4.heap.size qv 1 E.length (svs rs)) := Lib.hid (SlAt.of_own hqv)
      obtain ⟨QA, qc, rfl⟩ := HQV.out.shape
      have HO4 := Lib.hid (HO3.out.tr ho4)
      have HRV4 := Lib.hid ((HRV.out.only ho4 (Nat.le_refl _) (by simp)).more ho4.size)
      have COPS := Lib.hid (ops23 _ _ (.slice QA1 l1.length qc1) E rs l1 w4 HRV4.out HQV.out ((HS2.out.only HO4.out (Nat.le_refl _) (by simp)).more HO4.out.size) HE.out HRL.out (fun y hy => by have := HRSB.out y hy; omega) HG2.out HD.out (by omega))
      clear hqv ho4 CRD HRV HO3
      go_wp2_with fail
      refine COPS.out.mono ?_
      rintro e w5 ⟨ov, os, rfl, hol, hov, ho5⟩
      have hos : os.length ≤ 40 := by omega
      have HOV : Hid (SlAt w5 w5.heap.size ov 5 os.length (oqL os)) := Lib.hid (by rw [hol]; exact SlAt.of_own hov)
      obtain ⟨OA, oc, rfl⟩ := HOV.out.shape
      have HO5 := Lib.hid (HO4.out.tr ho5)
      have HRV5 := Lib.hid ((HRV4.out.only ho5 (Nat.le_refl _) (by simp)).more ho5.size)
      have HQV5 := Lib.hid ((HQV.out.only ho5 (Nat.le_refl _) (by simp)).more ho5.size)
      have CAS := Lib.hid (as23 _ os w5 HOV.out (by omega))
      clear hov ho5 COPS hol HO4 HRV4 HQV
      go_wp2_with fail
      refine CAS.out.mono ?_
      rintro e w6 ⟨xv, rfl, hxv, ho6⟩
      have HXV : Hid (SlAt w6 w6.heap.size xv 5 os.length (oqL os)) := Lib.hid (SlAt.of_own hxv)
      obtain ⟨XA, xc, rfl⟩ := HXV.out.shape
      have HO6 := Lib.hid (HO5.out.tr ho6)
      have HRV6 := Lib.hid ((HRV5.out.only ho6 (Nat.le_refl _) (by simp)).more ho6.size)
      have HQV6 := Lib.hid ((HQV5.out.only ho6 (Nat.le_refl _) (by simp)).more ho6.size)
      have HOV6 := Lib.hid ((HOV.out.only ho6 (Nat.le_refl _) (by simp)).more ho6.size)
      clear hxv ho6 CAS HO5 HRV5 HQV5 HOV
      have HSO : Hid (SortOk (2 * (os.filter cntO).length)) := Lib.hid (hi_sort _ (by have := List.length_filter_le cntO os; omega))
      have CHF := Lib.hid (fun w' (ho : Only [] w6 w') => hi_fits (.slice RA E.length rc) (.slice XA os.length xc) E os w' ((HRV6.out.only ho (Nat.le_refl _) (by simp)).more ho.size) HE.out ((HXV.out.only ho (Nat.le_refl _) (by simp)).more ho.size) (by omega) HSO.out)
      have CRF := Lib.hid (fun w' (ho : Only [] w6 w') => rd_fits (.slice RA E.length rc) (.slice OA os.length oc) E os w' ((HRV6.out.only ho (Nat.le_refl _) (by simp)).more ho.size) HE.out ((HOV6.out.only ho (Nat.le_refl _) (by simp)).more ho.size) (by omega))
      obtain ⟨B, hB⟩ : ∃ b, fitP E (repE AgS.new E) os = b := ⟨_, rfl⟩
      rw [hB] at CHF CRF
      have hbb : (B == B) = true := by simp
      clear hB
      go_wp2_with fail
      go_loopw [13] (fun i wr => ∃ k : Nat, k ≤ os.length ∧ i = .int .i64 k ∧ Hid (Only [] w6 wr)) (fun i _ => os.length - (intOf i).toNat)
      case atStart => exact ⟨0, by omega, rfl, Lib.hid (Only.refl _ _)⟩
      case round =>
        obtain ⟨k, hk, rfl, HP⟩ := hrel
        obtain ⟨wq, rfl⟩ : ∃ wq, wq = wr := ⟨_, rfl⟩
        by_cases hlt : k < os.length
        · have hlt' : (k : Int) < (os.length : Int) := by omega
          obtain ⟨x, hx⟩ : ∃ x, os[k]? = some x := ⟨_, List.getElem?_eq_getElem hlt⟩
          obtain ⟨xb, xo, xc', hv, _, q0, q1, q2, q3, q4⟩ := oqL_at (HXV.out.only HP.out (Nat.le_refl _) (by simp)) hx
          injection hv with e1 e2 e3
          subst e1
          clear e2 e3
          obtain ⟨ob, oo, oc', hv, _, r0, r1, r2, r3, r4⟩ := oqL_at (HOV6.out.only HP.out (Nat.le_refl _) (by simp)) hx
          injection hv with e1 e2 e3
          subst e1
          clear e2 e3 hx
          have hxd := x.hd
          have CF1 : Hid (∀ v : Since wq, Calls Tryz.prog 52 #[.slice RA E.length rc, .slice QA E.length qc, (.agg #[.int .i64 x.cl, .string ⟨x.d.toArray⟩, .string ⟨x.r.toArray⟩, .int .i64 x.st, .int .i64 x.en])] v.w fun e w2 => e = .returned (.int .i64 (fndQ x.d x.r E rs 0)) ∧ Only [] v.w w2) := Lib.hid (fun v => by
            have := hi_find (.slice RA E.length rc) (.slice QA E.length qc) E rs x v.w ((HRV6.out.only (HP.out.tr v.h) (Nat.le_refl _) (by simp)).more (HP.out.tr v.h).size) (HRL.out ▸ ((HQV6.out.only (HP.out.tr v.h) (Nat.le_refl _) (by simp)).more (HP.out.tr v.h).size)) HRL.out (by omega) hxd
            exact this)
          have CF2 : Hid (∀ v : Since wq, Calls Tryz.prog 53 #[.slice RA E.length rc, .slice QA E.length qc, (.agg #[.int .i64 x.cl, .string ⟨x.d.toArray⟩, .string ⟨x.r.toArray⟩, .int .i64 x.st, .int .i64 x.en])] v.w fun e w2 => e = .returned (.int .i64 (fndQ x.d x.r E rs 0)) ∧ Only [] v.w w2) := Lib.hid (fun v => by
            have := rd_find (.slice RA E.length rc) (.slice QA E.length qc) E rs x v.w ((HRV6.out.only (HP.out.tr v.h) (Nat.le_refl _) (by simp)).more (HP.out.tr v.h).size) (HRL.out ▸ ((HQV6.out.only (HP.out.tr v.h) (Nat.le_refl _) (by simp)).more (HP.out.tr v.h).size)) HRL.out (by omega) hxd
            exact this)
          obtain ⟨F, hF⟩ : ∃ f, fndQ x.d x.r E rs 0 = f := ⟨_, rfl⟩
          rw [hF] at CF1 CF2
          have hff : (F != F) = false := by simp
          have t0 := fun u : Since wq => u.cell q0
          have t1 := fun u : Since wq => u.cell q1
          have t2 := fun u : Since wq => u.cell q2
          have t3 := fun u : Since wq => u.cell q3
          have t4 := fun u : Since wq => u.cell q4
          have s0 := fun u : Since wq => u.cell r0
          have s1 := fun u : Since wq => u.cell r1
          have s2 := fun u : Since wq => u.cell r2
          have s3 := fun u : Since wq => u.cell r3
          have s4 := fun u : Since wq => u.cell r4
          clear hF q0 q1 q2 q3 q4 r0 r1 r2 r3 r4
          go_upto_region 17 with fail
          refine wp_region_only wq (Only.refl _ _) (by kernel_rfl) (by kernel_rfl) ?_
          repeat (go_big_quiet_step (first
            | (go_at_call 52; refine Calls.only (CF1.out _))
            | (go_at_call 53; refine Calls.only (CF2.out _))))
          refine wpQuiet_nil ?_
          rintro ⟨w7, ho7⟩
          dsimp only
          have HP7 := Lib.hid (HP.out.tr ho7)
          clear t0 t1 t2 t3 t4 s0 s1 s2 s3 s4 ho7 CF1 CF2
          go_wp2_with fail
          go_roundw
          case rel => exact ⟨k + 1, by omega, by go_num, HP7⟩
          case measure => simp [intOf]; omega
        · have hdd : decide ((k : Int) < (os.length : Int)) = false := decide_eq_false (by omega)
          obtain rfl : k = os.length := by omega
          go_wp2_with fail
          refine (CHF.out _ HP.out).mono ?_
          rintro e w7 ⟨rfl, ho7⟩
          have HP7 := Lib.hid (HP.out.tr ho7)
          clear ho7 CHF
          go_wp2_with fail
          refine (CRF.out _ HP7.out).mono ?_
          rintro e w8 ⟨rfl, ho8⟩
          have HF := Lib.hid (HO6.out.tr (HP7.out.tr ho8))
          clear ho8 CRF
          go_wp2_with fail
          go_ret
          exact ⟨rfl, HF.out⟩
end Go.Proofs.YtcjfmildalappaaGreat
