/-
  The walk over HistoryGrows: the replies of a row are those of any beginning of it, and more; entries of other kinds between change none. (Printed by gen_hi23grows.py.)
-/
import Derived.Test.YtcjfmildalappaaGreatK24aq
import Derived.Test.YtcjfmildalappaaGreatK24av
set_option linter.all false
namespace Go.Proofs.YtcjfmildalappaaGreat
open Go.RowKit
theorem eyL_take (T : List Ey) (i : Nat) : eyL (T.take i) = (eyL T).take (i * 4) := by
  induction T generalizing i with
  | nil => simp [eyL]
  | cons t r ih =>
    cases i with
    | zero => simp [eyL]
    | succ i =>
      have h := ih i
      unfold eyL at h ⊢
      rw [List.take_succ_cons, List.flatMap_cons, List.flatMap_cons, h, Nat.succ_mul, Nat.add_comm]
      show _ = (([_, _, _, _] : List Value) ++ _).take (4 + i * 4)
      rw [Nat.add_comm, show i * 4 + 4 = i * 4 + 1 + 1 + 1 + 1 from rfl]
      rfl
theorem eyL_drop (T : List Ey) (i : Nat) : eyL (T.drop i) = (eyL T).drop (i * 4) := by
  induction T generalizing i with
  | nil => simp [eyL]
  | cons t r ih =>
    cases i with
    | zero => simp [eyL]
    | succ i =>
      have h := ih i
      unfold eyL at h ⊢
      rw [List.drop_succ_cons, List.flatMap_cons, h, Nat.succ_mul]
      rfl
theorem eyL_one (l : List Ey) : ∀ u ∈ eyL l, u.oneCell' = true := by
  intro u hu
  unfold eyL at hu
  obtain ⟨x, _, hu⟩ := List.mem_flatMap.1 hu
  unfold Ey.cells at hu
  simp only [List.mem_cons, List.not_mem_nil, or_false] at hu
  rcases hu with rfl | rfl | rfl | rfl <;> rfl
theorem svs_one (l : List (List UInt8)) : ∀ u ∈ svs l, u.oneCell' = true := by
  intro u hu
  unfold svs at hu
  obtain ⟨x, _, rfl⟩ := List.mem_map.1 hu
  rfl
theorem svs_take (l : List (List UInt8)) (k : Nat) : svs (l.take k) = (svs l).take (k * 1) := by unfold svs; rw [Nat.mul_one, List.map_take]
theorem svs_drop (l : List (List UInt8)) (k : Nat) : svs (l.drop k) = (svs l).drop (k * 1) := by unfold svs; rw [Nat.mul_one, List.map_drop]
def eyX : Ey := ⟨0, 0, 1, [120]⟩
def moreE (E : List Ey) (k : Nat) : List Ey := (E.take k ++ [eyX]) ++ E.drop k
theorem rep_split (E : List Ey) (k : Nat) (hk : k ≤ E.length) (a : AgS) : repE a E = repE a (E.take k) ++ repE (runE a (E.take k)) (E.drop k) ∧ (repE a (E.take k)).length = k :=
  ⟨by rw [← repE_append, List.take_append_drop], by rw [repE_length, List.length_take]; omega⟩
theorem rep_take (E : List Ey) (k : Nat) (hk : k ≤ E.length) (a : AgS) : repE a (E.take k) = (repE a E).take k := by
  obtain ⟨e1, hl⟩ := rep_split E k hk a
  exact ((congrArg (List.take k) e1).trans (List.take_left' hl)).symm
theorem rep_more (E : List Ey) (k : Nat) (hk : k ≤ E.length) (a : AgS) : repE a (moreE E k) = ((repE a E).take k ++ [[]]) ++ (repE a E).drop k := by
  obtain ⟨e1, hl⟩ := rep_split E k hk a
  unfold moreE
  rw [repE_append, repE_append, runE_append]
  have e2 : runE (runE a (E.take k)) [eyX] = runE a (E.take k) := rfl
  have e3 : repE (runE a (E.take k)) [eyX] = [[]] := rfl
  rw [e2, e3, ← rep_take E k hk]
  congr 1
  exact ((congrArg (List.drop k) e1).trans (List.drop_left' hl)).symm
theorem run_more (E : List Ey) (k : Nat) (a : AgS) : runE a (moreE E k) = runE a E := by
  unfold moreE
  rw [runE_append, runE_append]
  have e2 : runE (runE a (E.take k)) [eyX] = runE a (E.take k) := rfl
  rw [e2, ← runE_append, List.take_append_drop]
set_option maxRecDepth 100000 in
set_option maxHeartbeats 16000000 in
theorem historyGrows_walk (W : World) (v0 : Value) (l : List C19) (s0 : SlAt W W.heap.size v0 11 l.length (cmL l)) (g0 : ∀ a ∈ l, CmAt W a.iv a.c) (at_ : Int) (wat : (Lit.int .i64 at_).wf = true) :
    Calls Tryz.prog 10 #[v0, .int .i64 at_] W fun e W' => e = .returned (.bool true) ∧ Only [] W W' := by
  obtain ⟨i0, hi0, hz0, hz1, hz2⟩ := info_parts info_entry23
  obtain ⟨LA1, lc1, rfl⟩ := s0.shape
  have HS1 := Lib.hid s0
  have HG1 := Lib.hid g0
  have CS1 := Lib.hid (fun w' (ho : Only [] W w') => small23 (.slice LA1 l.length lc1) l w' ((s0.only ho (Nat.le_refl _) (by simp)).more ho.size) (fun a ha => (g0 a ha).only ho))
  have hll1 := sl_len s0
  unfold maxLen at hll1
  have CROW := Lib.hid (fun w' (ho : Only [] W w') (hm : Sm19 l) => row23 (.slice LA1 l.length lc1) l w' ((s0.only ho (Nat.le_refl _) (by simp)).more ho.size) (fun a ha => (g0 a ha).only ho) (fun a ha => (hm.al a ha).sm) (by have := hm.n; omega))
  clear s0 g0
  have C0 := Lib.hid (shown23 W)
  have hel := rowE_length l
  have HEK : Hid (l.length ≤ 80 → EyOk (rowE l)) := Lib.hid (fun h => rowE_ok (by omega))
  have CREP : Hid (∀ (w' : World) (F : List Ey) (v : Value) (m : Nat), F.length = m → EyOk F → SlAt w' w'.heap.size v 4 m (eyL F) → Calls Tryz.prog 45 #[v] w' fun e w2 => ∃ rv, e = .returned rv ∧ w2.ownsRow w'.heap.size 9 1 rv m (svs (repE AgS.new F)) ∧ Only [] w' w2) := Lib.hid (fun w' F v m hm hk hs => by subst hm; exact hi_replies v F w' hs hk)
  have CSTA : Hid (∀ (w' : World) (F : List Ey) (v : Value) (m : Nat), F.length = m → EyOk F → SlAt w' w'.heap.size v 4 m (eyL F) → Calls Tryz.prog 47 #[v] w' fun e w2 => e = .returned (.string ⟨(agB (runE AgS.new F)).toArray⟩) ∧ Only [] w' w2) := Lib.hid (fun w' F v m hm hk hs => by subst hm; exact hi_state v F w' hs hk)
  have CTX : Hid (∀ (w' : World) (L : List (List UInt8)) (v1 v2 : Value) (m : Nat), L.length = m → m ≤ 1000000 → SlAt w' w'.heap.size v1 1 m (svs L) → SlAt w' w'.heap.size v2 1 m (svs L) → Calls Tryz.prog 46 #[v1, v2] w' fun e w2 => e = .returned (.bool true) ∧ Only [] w' w2) := Lib.hid (fun w' L v1 v2 m hm hk h1 h2 => by subst hm; exact texts23 v1 v2 L w' h1 h2 hk)
  go_enter Tryz.func10, Tryz.ntmps10
  go_wp2_with fail
  refine C0.out.mono ?_
  rintro e w1 ⟨rfl, ho1⟩
  have HO1 := Lib.hid ho1
  clear ho1 C0
  go_wp2_with fail
  refine (CS1.out _ HO1.out).mono ?_
  rintro e w2 ⟨ok1, rfl, hok, how⟩
  have HO := Lib.hid (HO1.out.tr how)
  have HMo1 := Lib.hid hok
  clear how hok
  cases ok1 with
  | false =>
    go_wp2_with fail
    go_ret
    exact ⟨rfl, HO.out⟩
  | true =>
  have HM1 := Lib.hid (HMo1.out rfl)
  have hn80 := HM1.out.n
  have HE := Lib.hid (HEK.out hn80)
  obtain ⟨E, hE⟩ : ∃ E, rowE l = E := ⟨_, rfl⟩
  rw [hE] at CROW HE hel
  obtain ⟨n, hn⟩ : ∃ n, l.length = n := ⟨_, rfl⟩
  rw [hn] at hel hn80
  have HEL := Lib.hid hel
  have HN := Lib.hid hn
  clear hE HEK HMo1 hel hn hll1
  go_wp2_with fail
  refine (CROW.out _ HO.out HM1.out).mono ?_
  rintro e w3 ⟨rv, rfl, hrv, ho3⟩
  rw [HN.out] at hrv
  have HRF := Lib.hid (RfS.of_own hrv (eyL_one E))
  obtain ⟨RA, rc, hrve, hrc, hrm⟩ := HRF.out.shape
  subst hrve
  have HO3 := Lib.hid (HO.out.tr ho3)
  clear hrv ho3 CROW HO
  obtain ⟨hp0, hp1⟩ := pkI_lt at_ ((n : Int) + 1) (by omega)
  have CPI := Lib.hid (fun w' => pick23 at_ ((n : Int) + 1) w' (wide64_of_wf wat) (by omega) (by omega))
  obtain ⟨k, hk⟩ : ∃ k : Nat, pkI at_ ((n : Int) + 1) = k := ⟨(pkI at_ ((n : Int) + 1)).toNat, by omega⟩
  rw [hk] at CPI hp1
  have hkn : k ≤ n := by omega
  clear hp0 hp1 hk
  go_wp2_with fail
  refine (CPI.out _).mono ?_
  rintro e w3' ⟨rfl, rfl⟩
  have CR := CREP.out w3 E _ n HEL.out HE.out HRF.out.sl
  go_wp2_with fail
  refine CR.mono ?_
  rintro e w5 ⟨pv, rfl, hpv, ho5⟩
  obtain ⟨rs, hrs⟩ : ∃ r, repE AgS.new E = r := ⟨_, rfl⟩
  have HRS := Lib.hid hrs
  rw [hrs] at hpv
  have HPF := Lib.hid (RfS.of_own hpv (svs_one rs))
  obtain ⟨PA, pc, hpve, hpc, hpm⟩ := HPF.out.shape
  subst hpve
  have HO5 := Lib.hid (HO3.out.tr ho5)
  have HRF5 := Lib.hid (HRF.out.only ho5)
  have HRSL : Hid (rs.length = n) := Lib.hid (by rw [← hrs, repE_length]; exact HEL.out)
  clear hpv ho5 CR CPI HRF HO3 hrs
  have HK : Hid (k ≤ n) := Lib.hid hkn
  have HOKT : Hid (EyOk (E.take k)) := Lib.hid ⟨Nat.le_trans (by rw [List.length_take]; omega) HE.out.n, fun x hx => HE.out.d x (List.mem_of_mem_take hx)⟩
  have HRT : Hid (RfS w5 (.slice RA k rc) 4 k (eyL (E.take k))) := Lib.hid (by rw [eyL_take]; exact HRF5.out.take HK.out)
  have HPT : Hid (RfS w5 (.slice PA k pc) 1 k (svs (rs.take k))) := Lib.hid (by rw [svs_take]; exact HPF.out.take HK.out)
  have hkn' : (k : Int) ≤ (n : Int) := by omega
  have hkrc : (k : Int) ≤ (rc : Int) := by omega
  have hkpc : (k : Int) ≤ (pc : Int) := by omega
  have hadd : ∀ x : Addr, x.add 0 = x := fun x => by unfold Addr.add; simp
  have hmapR : Option.map (fun x : Addr => x) RA = RA := by cases RA <;> rfl
  have hmapP : Option.map (fun x : Addr => x) PA = PA := by cases PA <;> rfl
  have hnn : ((n : Int) != (n : Int)) = false := by simp
  have CRT := Lib.hid (fun w' (ho : Only [] w5 w') => CREP.out w' (E.take k) (.slice RA k rc) k (by rw [List.length_take, HEL.out]; have := HK.out; omega) HOKT.out (HRT.out.only ho).sl)
  have HRTK : Hid (repE AgS.new (E.take k) = rs.take k) := Lib.hid (by rw [rep_take E k (by rw [HEL.out]; exact HK.out), HRS.out])
  have HLTK : Hid ((rs.take k).length = k) := Lib.hid (by rw [List.length_take, HRSL.out]; have := HK.out; omega)
  have hk6 : k ≤ 1000000 := by omega
  rw [HRTK.out] at CRT
  go_wp2_with fail
  (try simp only [List.append_eq, List.cons_append, List.nil_append])
  go_region_held3 (fun w' : World => Only [] w5 w')
    (repeat (first | exact Only.refl _ _ | refine Only.drew ?_ | refine Only.tr ?_ (by assumption)))
    (first
      | (go_at_call 45; refine (CRT.out _ (Only.refl _ _).drew).mono ?_; rintro e w6 ⟨qv, rfl, hqv, p6⟩; have s6 := Lib.hid (SlAt.of_own hqv); obtain ⟨QA, qc, rfl⟩ := s6.out.shape; have q6 := Lib.hid ((Only.refl [] w5).drew.tr p6))
      | (go_at_call 46; refine (CTX.out w6 (rs.take k) _ _ k HLTK.out hk6 s6.out (HPT.out.only q6.out).sl).mono ?_; rintro e w7 ⟨rfl, p7⟩))
  have O7 : Only [] w5 w7 := q6.out.tr p7
  have HO7 := Lib.hid (HO5.out.tr O7)
  have HRF7 := Lib.hid (HRF5.out.only O7)
  have HPF7 := Lib.hid (HPF.out.only O7)
  have HS1 := Lib.hid ((HRT.out.only O7).src (by decide))
  have HS2 := Lib.hid ((HRF7.out.drop HK.out).src (by decide))
  obtain ⟨P1, hP1⟩ : ∃ x, eyL (E.take k) = x := ⟨_, rfl⟩
  obtain ⟨P2, hP2⟩ : ∃ x, (eyL E).drop (k * 4) = x := ⟨_, rfl⟩
  rw [hP1] at HS1
  rw [hP2] at HS2
  have HMORE : Hid (eyL (moreE E k) = ((P1 ++ [.int .i64 0, .int .i64 0, .int .i64 1, .string ⟨#[120]⟩]) ++ P2)) := Lib.hid (by
    unfold moreE
    rw [eyL_append, eyL_append, hP1, eyL_drop, hP2]
    rfl)
  clear hP1 hP2 O7 p7 p6 q6 s6 CRT HRT HPT HRTK HO5 HRF5 HPF
  go_upto_region 10 with fail
  refine wp_region_pendN w7 (Only.refl _ _) [(47, OwW w7.heap.size 72 4 0 []), (51, OwW w7.heap.size 72 4 k P1), (53, OwW w7.heap.size 72 4 1 [.int .i64 0, .int .i64 0, .int .i64 1, .string ⟨#[120]⟩]), (54, OwW w7.heap.size 72 4 (k + 1) (P1 ++ [.int .i64 0, .int .i64 0, .int .i64 1, .string ⟨#[120]⟩])), (58, OwW w7.heap.size 72 4 (n + 1) ((P1 ++ [.int .i64 0, .int .i64 0, .int .i64 1, .string ⟨#[120]⟩]) ++ P2))] [(51, 47), (54, 51), (58, 54)] 12 (by intro p hp; simp at hp; rcases hp with rfl | rfl | rfl | rfl | rfl <;> exact OwW.lasts _ _ _ _ _) (by kernel_rfl) (by kernel_rfl) (by decide) (fun val => ?_)
  simp only [List.take_succ_cons, List.take_zero, List.drop_succ_cons, List.drop_zero]
  refine fit_litO 47 72 4 [] 0 rfl rfl (by simp) (by simp) rfl (by decide) (fun ww => by go_simp) rfl ?_
  simp only [Act.put, List.setIfInBounds_toArray, List.set_cons_zero, List.set_cons_succ]
  refine fit_segN 3 (by kernel_rfl) ?_
  simp only [List.take_succ_cons, List.take_zero, List.drop_succ_cons, List.drop_zero]
  repeat (go_big_quiet_step (fail))
  refine wpQuiet_nil ?_
  refine fit_append 51 47 (.tmp 50) 67 72 i0 (.agg #[.int .i64 0, .int .i64 0, .int .i64 0, .string ⟨#[]⟩]) 4 40 Tryz.underlying67 hi0 hz0 hz1 hz2 rfl (by decide) 0 k k [] P1 P1 (by omega) rfl rfl rfl rfl (by simp) (by simp) (by simp) (by decide) rfl rfl (fun ww hww => HS1.out.only hww.1) (by unfold maxLen; omega) (by omega) rfl ?_
  simp only [Act.put, List.setIfInBounds_toArray, List.set_cons_zero, List.set_cons_succ]
  refine fit_segN 1 (by kernel_rfl) ?_
  simp only [List.take_succ_cons, List.take_zero, List.drop_succ_cons, List.drop_zero]
  repeat (go_big_quiet_step (fail))
  refine wpQuiet_nil ?_
  refine fit_litO 53 72 4 [.int .i64 0, .int .i64 0, .int .i64 1, .string ⟨#[120]⟩] 1 rfl rfl (by simp) (by simp) rfl (by decide) (fun ww => by go_simp) rfl ?_
  simp only [Act.put, List.setIfInBounds_toArray, List.set_cons_zero, List.set_cons_succ]
  refine fit_append 54 51 (.tmp 53) 67 72 i0 (.agg #[.int .i64 0, .int .i64 0, .int .i64 0, .string ⟨#[]⟩]) 4 40 Tryz.underlying67 hi0 hz0 hz1 hz2 rfl (by decide) k 1 (k + 1) P1 [.int .i64 0, .int .i64 0, .int .i64 1, .string ⟨#[120]⟩] (P1 ++ [.int .i64 0, .int .i64 0, .int .i64 1, .string ⟨#[120]⟩]) (by omega) rfl rfl rfl rfl (by simp) (by simp) (by simp) (by decide) rfl rfl (fun ww hww => SrcA.own (hww.2 (53, OwW w7.heap.size 72 4 1 [.int .i64 0, .int .i64 0, .int .i64 1, .string ⟨#[120]⟩]) (by simp) (by show 53 ∈ Oper.looksAt _ _; decide)) (by simp [Value.oneCell'])) (by unfold maxLen; omega) (by omega) rfl ?_
  simp only [Act.put, List.setIfInBounds_toArray, List.set_cons_zero, List.set_cons_succ]
  refine fit_segN 3 (by kernel_rfl) ?_
  simp only [List.take_succ_cons, List.take_zero, List.drop_succ_cons, List.drop_zero]
  repeat (go_big_quiet_step (fail))
  refine wpQuiet_nil ?_
  refine fit_append 58 54 (.tmp 57) 67 72 i0 (.agg #[.int .i64 0, .int .i64 0, .int .i64 0, .string ⟨#[]⟩]) 4 40 Tryz.underlying67 hi0 hz0 hz1 hz2 rfl (by decide) (k + 1) (n - k) (n + 1) (P1 ++ [.int .i64 0, .int .i64 0, .int .i64 1, .string ⟨#[120]⟩]) P2 ((P1 ++ [.int .i64 0, .int .i64 0, .int .i64 1, .string ⟨#[120]⟩]) ++ P2) (by omega) rfl rfl rfl rfl (by simp) (by simp) (by simp) (by decide) rfl rfl (fun ww hww => HS2.out.only hww.1) (by unfold maxLen; omega) (by omega) rfl ?_
  simp only [Act.put, List.setIfInBounds_toArray, List.set_cons_zero, List.set_cons_succ]
  intro w8 ho5 hV5
  have hown8 := hV5 (by decide) (58, OwW w7.heap.size 72 4 (n + 1) ((P1 ++ [.int .i64 0, .int .i64 0, .int .i64 1, .string ⟨#[120]⟩]) ++ P2)) (by simp) (by simp)
  obtain ⟨u, hu⟩ : ∃ u, val 58 = u := ⟨_, rfl⟩
  have hown8 : w8.ownsRow w7.heap.size 72 4 u (n + 1) ((P1 ++ [.int .i64 0, .int .i64 0, .int .i64 1, .string ⟨#[120]⟩]) ++ P2) := hu ▸ hown8
  rw [hu]
  obtain ⟨RD, hRD⟩ : ∃ x, (if rc = k then RA else Option.map (fun x : Addr => x.add (k * 4)) RA) = x := ⟨_, rfl⟩
  rw [hRD]
  clear hRD
  have HO8 := Lib.hid (HO7.out.tr ho5)
  have HM8 : Hid (SlAt w8 w8.heap.size u 4 (n + 1) (eyL (moreE E k))) := Lib.hid (by rw [HMORE.out]; exact SlAt.of_own hown8)
  have HRF8 := Lib.hid (HRF7.out.only ho5)
  have HPF8 := Lib.hid (HPF7.out.only ho5)
  have HLM : Hid ((moreE E k).length = n + 1) := Lib.hid (by
    unfold moreE
    have := HK.out
    rw [List.length_append, List.length_append, List.length_take, List.length_drop, HEL.out]
    simp
    omega)
  have HOKM : Hid (EyOk (moreE E k)) := Lib.hid ⟨by rw [HLM.out]; omega, fun x hx => by
    unfold moreE at hx
    rcases List.mem_append.1 hx with hx | hx
    · rcases List.mem_append.1 hx with hx | hx
      · exact HE.out.d x (List.mem_of_mem_take hx)
      · simp at hx
        subst hx
        decide
    · exact HE.out.d x (List.mem_of_mem_drop hx)⟩
  have HRM : Hid (repE AgS.new (moreE E k) = (rs.take k ++ [[]]) ++ rs.drop k) := Lib.hid (by rw [rep_more E k (by rw [HEL.out]; exact HK.out), HRS.out])
  have HSM : Hid (runE AgS.new (moreE E k) = runE AgS.new E) := Lib.hid (run_more E k AgS.new)
  have CB := CREP.out w8 (moreE E k) u (n + 1) HLM.out HOKM.out HM8.out
  rw [HRM.out] at CB
  obtain ⟨RB, hRB⟩ : ∃ x, (rs.take k ++ [[]]) ++ rs.drop k = x := ⟨_, rfl⟩
  rw [hRB] at CB
  have HTK : Hid (RB.take k = rs.take k) := Lib.hid (by rw [← hRB, List.append_assoc]; exact List.take_left' HLTK.out)
  have HDK : Hid (RB.drop (k + 1) = rs.drop k) := Lib.hid (by rw [← hRB]; exact List.drop_left' (by rw [List.length_append, HLTK.out]; rfl))
  have HAK : Hid (RB[k]? = some []) := Lib.hid (by
    rw [← hRB, List.append_assoc, List.getElem?_append_right (by rw [HLTK.out]; exact Nat.le_refl _), HLTK.out, Nat.sub_self]
    rfl)
  clear hRB hown8 ho5 hV5 hu HRF7 HPF7 HS1 HS2 HMORE
  go_wp2_with fail
  refine CB.mono ?_
  rintro e w9 ⟨bv, rfl, hbv, ho9⟩
  have HBF := Lib.hid (RfS.of_own hbv (svs_one RB))
  obtain ⟨BA, bc, hbve, hbc, hbm⟩ := HBF.out.shape
  subst hbve
  have HO9 := Lib.hid (HO8.out.tr ho9)
  have HRF9 := Lib.hid (HRF8.out.only ho9)
  have HPF9 := Lib.hid (HPF8.out.only ho9)
  have HM9 := Lib.hid ((HM8.out.only ho9 (Nat.le_refl _) (by simp)).more ho9.size)
  obtain ⟨X, hX⟩ : ∃ X, agB (runE AgS.new E) = X := ⟨_, rfl⟩
  have CS2 : Hid (∀ v : Since w9, Calls Tryz.prog 47 #[u] v.w fun e w2 => e = .returned (.string ⟨X.toArray⟩) ∧ Only [] v.w w2) := Lib.hid (fun v => by
    have := CSTA.out v.w (moreE E k) u (n + 1) HLM.out HOKM.out ((HM9.out.only v.h (Nat.le_refl _) (by simp)).more v.h.size)
    rw [HSM.out, hX] at this
    exact this)
  have CS1' : Hid (∀ v : Since w9, Calls Tryz.prog 47 #[.slice RA n rc] v.w fun e w2 => e = .returned (.string ⟨X.toArray⟩) ∧ Only [] v.w w2) := Lib.hid (fun v => by
    have := CSTA.out v.w E (.slice RA n rc) n HEL.out HE.out (HRF9.out.only v.h).sl
    rw [hX] at this
    exact this)
  have CT1 : Hid (∀ v : Since w9, Calls Tryz.prog 46 #[.slice BA k bc, .slice PA k pc] v.w fun e w2 => e = .returned (.bool true) ∧ Only [] v.w w2) := Lib.hid (fun v =>
    CTX.out v.w (rs.take k) _ _ k HLTK.out hk6
      (by have := ((HBF.out.only v.h).take (m := k) (by have := HK.out; omega)).sl; rw [← svs_take, HTK.out] at this; exact this)
      (by have := ((HPF9.out.only v.h).take HK.out).sl; rw [← svs_take] at this; exact this))
  have CT2 : Hid (∀ v : Since w9, Calls Tryz.prog 46 #[.slice (if bc = k + 1 then BA else Option.map (fun x => x.add (k + 1)) BA) (n - k) (bc - (k + 1)), .slice (if pc = k then PA else Option.map (fun x => x.add k) PA) (n - k) (pc - k)] v.w fun e w2 => e = .returned (.bool true) ∧ Only [] v.w w2) := Lib.hid (fun v =>
    CTX.out v.w (rs.drop k) _ _ (n - k) (by rw [List.length_drop, HRSL.out]) (by omega)
      (by
        have := ((HBF.out.only v.h).drop (j := k + 1) (by have := HK.out; omega)).sl
        rw [← svs_drop, HDK.out, Nat.mul_one, show n + 1 - (k + 1) = n - k from by omega] at this
        exact this)
      (by
        have := ((HPF9.out.only v.h).drop HK.out).sl
        rw [← svs_drop, Nat.mul_one] at this
        exact this))
  obtain ⟨kb, ko, kc, hv, s0⟩ := svs_at23 (l := RB) (by
    have := HBF.out.sl
    have hl : RB.length = n + 1 := by
      have := HBF.out.sl.1
      unfold svs at this
      simpa using this
    rw [← hl] at this
    exact this) HAK.out
  injection hv with e1 e2 e3
  subst e1
  have CT2 : Hid (∀ v : Since w9, Calls Tryz.prog 46 #[.slice (if bc = k + 1 then some ⟨kb, ko, none⟩ else some ⟨kb, ko + (k + 1), none⟩) (n - k) (bc - (k + 1)), .slice (if pc = k then PA else Option.map (fun x => x.add k) PA) (n - k) (pc - k)] v.w fun e w2 => e = .returned (.bool true) ∧ Only [] v.w w2) := Lib.hid (fun v => by
    have := CT2.out v
    simp only [Option.map_some, Addr.add_lit] at this
    exact this)
  have s0' := fun v : Since w9 => v.cell s0
  have hk1 : (k : Int) < (n : Int) + 1 := by omega
  have hkbc : (k : Int) ≤ (bc : Int) := by omega
  have hkbc1 : (k : Int) + 1 ≤ (bc : Int) := by omega
  have hkn1 : (k : Int) ≤ (n : Int) + 1 := by omega
  have hkn2 : (k : Int) + 1 ≤ (n : Int) + 1 := by omega
  have hw1 : IntKind.i64.wrap ((n : Int) + 1) = (n : Int) + 1 := by rw [IntKind.wrap_i64]; omega
  have hw2 : IntKind.i64.wrap ((k : Int) + 1) = (k : Int) + 1 := by rw [IntKind.wrap_i64]; omega
  have hxx : (X == X) = true := by simp
  clear e2 e3 hX ho9 hbv CB s0
  go_wp2_with fail
  refine wp_region_only w9 (Only.refl _ _) (by kernel_rfl) (by kernel_rfl) ?_
  repeat (go_big_quiet_step (first
    | (go_at_call 46; first | with_reducible refine Calls.only (CT1.out _) | with_reducible refine Calls.only (CT2.out _))
    | (go_at_call 47; first | with_reducible refine Calls.only (CS2.out _) | with_reducible refine Calls.only (CS1'.out _))))
  refine wpQuiet_nil ?_
  rintro ⟨w10, ho10⟩
  dsimp only
  have HF := Lib.hid (HO9.out.tr ho10)
  clear ho10
  go_wp2_with fail
  all_goals
    go_ret
    exact ⟨rfl, HF.out⟩
end Go.Proofs.YtcjfmildalappaaGreat
