/-
  The walk over HistoryRuns: replies, and what the automaton is behind a row, are those of the document.
-/
import Derived.Test.YtcjfmildalappaaGreatK22az
set_option linter.all false
namespace Go.Proofs.YtcjfmildalappaaGreat
open Go.RowKit
set_option maxRecDepth 100000 in
set_option maxHeartbeats 8000000 in
theorem historyRuns_walk (W : World) (v0 : Value) (l : List C19) (s0 : SlAt W W.heap.size v0 11 l.length (cmL l)) (g0 : ∀ a ∈ l, CmAt W a.iv a.c) :
    Calls Tryz.prog 13 #[v0] W fun e W' => e = .returned (.bool true) ∧ Only [] W W' := by
  obtain ⟨LA1, lc1, rfl⟩ := s0.shape
  have HS1 := Lib.hid s0
  have HG1 := Lib.hid g0
  have CS1 := Lib.hid (fun w' (ho : Only [] W w') => small23 (.slice LA1 l.length lc1) l w' ((s0.only ho (Nat.le_refl _) (by simp)).more ho.size) (fun a ha => (g0 a ha).only ho))
  have hll1 := sl_len s0
  unfold maxLen at hll1
  have CROW := Lib.hid (fun w' (ho : Only [] W w') (hm : Sm19 l) => row23 (.slice LA1 l.length lc1) l w' ((s0.only ho (Nat.le_refl _) (by simp)).more ho.size) (fun a ha => (g0 a ha).only ho) (fun a ha => (hm.al a ha).sm) (by have := hm.n; omega))
  clear s0 g0
  have C0 := Lib.hid (shown23 W)
  have hel := rowE_length l
  have HEK : Hid (l.length ≤ 80 → EyOk (rowE l)) := Lib.hid (fun h => rowE_ok (by omega))
  go_enter Tryz.func13, Tryz.ntmps13
  go_wp2_with fail
  refine C0.out.mono ?_
  rintro e w1 ⟨rfl, ho1⟩
  have HO1 := Lib.hid ho1
  clear ho1 C0
  go_wp2_with fail
  refine (CS1.out _ HO1.out).mono ?_
  rintro e w2 ⟨ok1, rfl, hok, how⟩
  have HO := Lib.hid (HO1.out.tr how)
  have HMo1 := Lib.hid hok
  clear how hok
  cases ok1 with
  | false =>
    go_wp2_with fail
    go_ret
    exact ⟨rfl, HO.out⟩
  | true =>
  have HM1 := Lib.hid (HMo1.out rfl)
  have hn80 := HM1.out.n
  have HE := Lib.hid (HEK.out hn80)
  obtain ⟨E, hE⟩ : ∃ E, rowE l = E := ⟨_, rfl⟩
  rw [hE] at CROW HE hel
  clear hE HEK HMo1
  go_wp2_with fail
  refine (CROW.out _ HO.out HM1.out).mono ?_
  rintro e w3 ⟨rv, rfl, hrv, ho3⟩
  have HRV : Hid (SlAt w3 w3.heap.size rv 4 E.length (eyL E)) := Lib.hid (by rw [hel]; exact SlAt.of_own hrv)
  obtain ⟨RA, rc, rfl⟩ := HRV.out.shape
  have HO3 := Lib.hid (HO.out.tr ho3)
  have hE8 : E.length ≤ 80 := by omega
  clear hrv ho3 CROW HO hel
  have hrl := repE_length E AgS.new
  have CRD := Lib.hid (rd_run _ E w3 HRV.out HE.out)
  have CR := Lib.hid (fun w' (ho : Only [] w3 w') => hi_replies (.slice RA E.length rc) E w' ((HRV.out.only ho (Nat.le_refl _) (by simp)).more ho.size) HE.out)
  have CST := Lib.hid (fun w' (ho : Only [] w3 w') => hi_state (.slice RA E.length rc) E w' ((HRV.out.only ho (Nat.le_refl _) (by simp)).more ho.size) HE.out)
  obtain ⟨X, hX⟩ : ∃ X, agB (runE AgS.new E) = X := ⟨_, rfl⟩
  rw [hX] at CST CRD
  obtain ⟨rs, hrs⟩ : ∃ r, repE AgS.new E = r := ⟨_, rfl⟩
  rw [hrs] at CR CRD hrl
  have hrl6 : rs.length ≤ 1000000 := by omega
  have HRL := Lib.hid hrl
  clear hX hrs hrl
  go_wp2_with fail
  refine CRD.out.mono ?_
  rintro e w4 ⟨qv, rfl, hqv, ho4⟩
  have HQV : Hid (SlAt w4 w4.heap.size qv 1 rs.length (svs rs)) := Lib.hid (by rw [HRL.out]; exact SlAt.of_own hqv)
  obtain ⟨QA, qc, rfl⟩ := HQV.out.shape
  have HP4 := Lib.hid ho4
  clear hqv ho4 CRD
  have hxx : (X == X) = true := by simp
  go_wp2_with fail
  refine (CR.out _ HP4.out).mono ?_
  rintro e w5 ⟨pv, rfl, hpv, ho5⟩
  have HPV : Hid (SlAt w5 w5.heap.size pv 1 rs.length (svs rs)) := Lib.hid (by rw [HRL.out]; exact SlAt.of_own hpv)
  obtain ⟨PA, pc, rfl⟩ := HPV.out.shape
  have HP5 := Lib.hid (HP4.out.tr ho5)
  have HQ5 := Lib.hid ((HQV.out.only ho5 (Nat.le_refl _) (by simp)).more ho5.size)
  clear hpv ho5 CR HQV HP4
  go_wp2_with fail
  refine (texts23 _ _ rs w5 HPV.out HQ5.out hrl6).mono ?_
  rintro e w6 ⟨rfl, ho6⟩
  have HP6 := Lib.hid (HP5.out.tr ho6)
  clear ho6 HP5 HQ5 HPV
  go_wp2_with fail
  refine (CST.out _ HP6.out).mono ?_
  rintro e w7 ⟨rfl, ho7⟩
  have HF := Lib.hid (HO3.out.tr (HP6.out.tr ho7))
  clear ho7 CST
  go_wp2_with fail
  go_ret
  exact ⟨rfl, HF.out⟩
end Go.Proofs.YtcjfmildalappaaGreat
