/-
  The walk over HistoryTwice: a command that stands in a row, put behind it once more, changes no state. (Printed by gen_hi23twice.py.)
-/
import Derived.Test.YtcjfmildalappaaGreatK24ab
import Derived.Test.YtcjfmildalappaaGreatK24al
import Derived.Test.YtcjfmildalappaaGreatK24av
set_option linter.all false
namespace Go.Proofs.YtcjfmildalappaaGreat
open Go.RowKit
theorem info_cmd23 : (Tryz.prog.info? 38).map (fun i => (i.zero, i.size, i.bytes)) = some (some (.agg #[.int .i64 0, .int .i64 0, .int .i64 0, .int .i64 0, .int .i64 0, .int .i64 0, .int .i64 0, .string ⟨#[]⟩, .string ⟨#[]⟩, .slice none 0 0, .bool false]), 11, 120) := by kernel_rfl
theorem cmL_one {w : World} {l : List C19} (h : ∀ a ∈ l, CmAt w a.iv a.c) : ∀ u ∈ cmL l, u.oneCell' = true := by
  intro u hu
  unfold cmL at hu
  obtain ⟨a, ha, hu⟩ := List.mem_flatMap.1 hu
  obtain ⟨IA, ic, e⟩ := (h a ha).its.shape
  unfold Cm.cells at hu
  rw [e] at hu
  simp only [List.mem_cons, List.not_mem_nil, or_false] at hu
  rcases hu with rfl | rfl | rfl | rfl | rfl | rfl | rfl | rfl | rfl | rfl | rfl <;> rfl
theorem srcA_sl {w : World} {B sz n : Nat} {v : Value} {xs : List Value} (h : SlAt w B v sz n xs) (hn : 0 < n) (hs : 0 < sz) (h1 : ∀ u ∈ xs, u.oneCell' = true) : SrcA w v sz n xs := by
  obtain ⟨b, o, c, hv, _, hc⟩ := h.at_ (Nat.mul_pos hn hs)
  exact ⟨h.1, h1, .inr ⟨⟨b, o, none⟩, c, hv, fun j u hu => by rw [Addr.add_lit]; exact hc j u hu⟩⟩
set_option maxRecDepth 100000 in
set_option maxHeartbeats 16000000 in
theorem historyTwice_walk (W : World) (v0 : Value) (l : List C19) (s0 : SlAt W W.heap.size v0 11 l.length (cmL l)) (g0 : ∀ a ∈ l, CmAt W a.iv a.c) (at_ : Int) (wat : (Lit.int .i64 at_).wf = true) :
    Calls Tryz.prog 11 #[v0, .int .i64 at_] W fun e W' => e = .returned (.bool true) ∧ Only [] W W' := by
  obtain ⟨i0, hi0, hz0, hz1, hz2⟩ := info_parts info_cmd23
  obtain ⟨LA1, lc1, rfl⟩ := s0.shape
  have HS1 := Lib.hid s0
  have HG1 := Lib.hid g0
  have CS1 := Lib.hid (fun w' (ho : Only [] W w') => small23 (.slice LA1 l.length lc1) l w' ((s0.only ho (Nat.le_refl _) (by simp)).more ho.size) (fun a ha => (g0 a ha).only ho))
  have hll1 := sl_len s0
  unfold maxLen at hll1
  have CROW := Lib.hid (fun w' (ho : Only [] W w') (hm : Sm19 l) => row23 (.slice LA1 l.length lc1) l w' ((s0.only ho (Nat.le_refl _) (by simp)).more ho.size) (fun a ha => (g0 a ha).only ho) (fun a ha => (hm.al a ha).sm) (by have := hm.n; omega))
  clear s0 g0
  have C0 := Lib.hid (shown23 W)
  have hel := rowE_length l
  have HEK : Hid (l.length ≤ 80 → EyOk (rowE l)) := Lib.hid (fun h => rowE_ok (by omega))
  go_enter Tryz.func11, Tryz.ntmps11
  go_wp2_with fail
  refine C0.out.mono ?_
  rintro e w1 ⟨rfl, ho1⟩
  have HO1 := Lib.hid ho1
  clear ho1 C0
  go_wp2_with fail
  refine (CS1.out _ HO1.out).mono ?_
  rintro e w2 ⟨ok1, rfl, hok, how⟩
  have HO := Lib.hid (HO1.out.tr how)
  have HMo1 := Lib.hid hok
  clear how hok
  cases ok1 with
  | false =>
    go_wp2_with fail
    go_ret
    exact ⟨rfl, HO.out⟩
  | true =>
  have HM1 := Lib.hid (HMo1.out rfl)
  have hn80 := HM1.out.n
  by_cases hl0 : l.length = 0
  · have hb : ((l.length : Int) == 0) = true := by rw [hl0]; rfl
    go_wp2_with fail
    go_ret
    exact ⟨rfl, HO.out⟩
  have hb : ((l.length : Int) == 0) = false := beq_eq_false_iff_ne.2 (by omega)
  have HE := Lib.hid (HEK.out hn80)
  obtain ⟨hp0, hp1⟩ := pkI_lt at_ l.length (by omega)
  have CPI := Lib.hid (fun w' => pick23 at_ l.length w' (wide64_of_wf wat) (by omega) (by omega))
  obtain ⟨k, hk⟩ : ∃ k : Nat, pkI at_ l.length = k := ⟨(pkI at_ l.length).toNat, by omega⟩
  rw [hk] at CPI hp1
  clear hp0 hk
  have hkl : k < l.length := by omega
  have hki : (k : Int) < (l.length : Int) := by omega
  obtain ⟨a, ha⟩ : ∃ a, l[k]? = some a := ⟨_, List.getElem?_eq_getElem hkl⟩
  have ham := List.mem_of_getElem? ha
  have HSM1 := Lib.hid (HM1.out.al a ham).sm
  have HG := Lib.hid (HG1.out a ham)
  have HLA := Lib.hid ha
  obtain ⟨IA, ic, hiv⟩ := (HG1.out a ham).its.shape
  have HIV := Lib.hid hiv
  have HEL := Lib.hid hel
  clear hel HMo1 hp1
  go_wp2_with fail
  refine (CPI.out _).mono ?_
  rintro e w2' ⟨rfl, rfl⟩
  obtain ⟨ab, ao, ac, hv, q0, q1, q2, q3, q4, q5, q6, q7, q8, q9, q10⟩ := cmL_at (HS1.out.only HO.out (Nat.le_refl _) (by simp)) ha
  injection hv with e1 e2 e3
  subst e1; subst e3
  rw [hiv] at q9
  clear e2 ha ham hiv CPI
  by_cases k2 : a.c.kd < 2
  · go_wp2_with fail
    go_ret
    exact ⟨rfl, HO.out.alloc _⟩
  have k2' : decide (a.c.kd < 2) = false := by simpa using k2
  by_cases k5 : 5 < a.c.kd
  · go_wp2_with fail
    go_ret
    exact ⟨rfl, HO.out.alloc _⟩
  have k5' : decide (5 < a.c.kd) = false := by simpa using k5
  have HCL : Hid (clB a.c.kd = true) := Lib.hid (by
    have : a.c.kd = 2 ∨ a.c.kd = 3 ∨ a.c.kd = 4 ∨ a.c.kd = 5 := by omega
    rcases this with e | e | e | e <;> rw [e] <;> rfl)
  go_wp2_with fail
  have O3 : Only [] W (w2.alloc (.cells #[.int .i64 a.c.kd, .int .i64 a.c.ss, .int .i64 a.c.sq, .int .i64 a.c.sh, .int .i64 a.c.nd, .int .i64 a.c.ep, .int .i64 a.c.n, .string ⟨a.c.fd.toArray⟩, .string ⟨a.c.id.toArray⟩, .slice IA a.c.its.length ic, .bool a.c.fl] 38)) := HO.out.alloc _
  have HB3 : Hid (Cells (w2.alloc (.cells #[.int .i64 a.c.kd, .int .i64 a.c.ss, .int .i64 a.c.sq, .int .i64 a.c.sh, .int .i64 a.c.nd, .int .i64 a.c.ep, .int .i64 a.c.n, .string ⟨a.c.fd.toArray⟩, .string ⟨a.c.id.toArray⟩, .slice IA a.c.its.length ic, .bool a.c.fl] 38)) w2.heap.size 38 [.int .i64 a.c.kd, .int .i64 a.c.ss, .int .i64 a.c.sq, .int .i64 a.c.sh, .int .i64 a.c.nd, .int .i64 a.c.ep, .int .i64 a.c.n, .string ⟨a.c.fd.toArray⟩, .string ⟨a.c.id.toArray⟩, .slice IA a.c.its.length ic, .bool a.c.fl]) := Lib.hid (Cells.new w2 _ [_, _, _, _, _, _, _, _, _, _, _])
  obtain ⟨z, hz⟩ : ∃ z, w2.heap.size = z := ⟨_, rfl⟩
  obtain ⟨w3, hw3⟩ : ∃ u, w2.alloc (.cells #[.int .i64 a.c.kd, .int .i64 a.c.ss, .int .i64 a.c.sq, .int .i64 a.c.sh, .int .i64 a.c.nd, .int .i64 a.c.ep, .int .i64 a.c.n, .string ⟨a.c.fd.toArray⟩, .string ⟨a.c.id.toArray⟩, .slice IA a.c.its.length ic, .bool a.c.fl] 38) = u := ⟨_, rfl⟩
  rw [hw3] at HB3 O3 ⊢
  rw [hz] at HB3 ⊢
  have HO3 := Lib.hid O3
  clear hw3 hz O3 HO q0 q1 q2 q3 q4 q5 q6 q7 q8 q9 q10 k2 k2' k5 k5'
  refine (CROW.out _ HO3.out HM1.out).mono ?_
  rintro e w4 ⟨rv, rfl, hrv, ho4⟩
  have HRV : Hid (SlAt w4 w4.heap.size rv 4 (rowE l).length (eyL (rowE l))) := Lib.hid (by rw [HEL.out]; exact SlAt.of_own hrv)
  obtain ⟨E, hE⟩ : ∃ E, rowE l = E := ⟨_, rfl⟩
  have HEE := Lib.hid hE
  rw [hE] at HE HEL HRV
  obtain ⟨RA, rc, rfl⟩ := HRV.out.shape
  have HO4 := Lib.hid (HO3.out.tr ho4)
  have HB4 := Lib.hid (HB3.out.only ho4 (by simp))
  clear hrv ho4 CROW hE HB3 HO3
  have hE8 : E.length ≤ 80 := by have := HEL.out; omega
  have hkE : (k : Int) < (E.length : Int) := by have := HEL.out; omega
  have CR := Lib.hid (hi_replies (.slice RA E.length rc) E w4 HRV.out HE.out)
  have HRL := Lib.hid (repE_length E AgS.new)
  obtain ⟨rs, hrs⟩ : ∃ r, repE AgS.new E = r := ⟨_, rfl⟩
  rw [hrs] at CR HRL
  have HRS := Lib.hid hrs
  clear hrs
  go_wp2_with fail
  refine CR.out.mono ?_
  rintro e w5 ⟨pv, rfl, hpv, ho5⟩
  have HPV : Hid (SlAt w5 w5.heap.size pv 1 rs.length (svs rs)) := Lib.hid (by rw [HRL.out]; exact SlAt.of_own hpv)
  have hpv2 := SlAt.of_own hpv
  obtain ⟨PA, pc, rfl⟩ := hpv2.shape
  have HO5 := Lib.hid (HO4.out.tr ho5)
  have HB5 := Lib.hid (HB4.out.only ho5 (by simp))
  have HRV5 := Lib.hid ((HRV.out.only ho5 (Nat.le_refl _) (by simp)).more ho5.size)
  obtain ⟨y, hy⟩ : ∃ y, rs[k]? = some y := ⟨_, List.getElem?_eq_getElem (by have := HRL.out; have := HEL.out; omega)⟩
  obtain ⟨yb, yo, yc, hv, y0⟩ := svs_at23 HPV.out hy
  injection hv with e1 e2 e3
  subst e1
  have HY := Lib.hid hy
  have hyl : y.length ≤ 1000000 := by
    have := repE_le (l := E) (by omega) y (by rw [HRS.out]; exact List.mem_of_getElem? hy)
    omega
  have CTA := Lib.hid (ref18_toAnswer y w5 hyl)
  clear e2 e3 hy hpv hpv2 ho5 CR HPV HB4 HO4 HRV hyl
  have hnn : ((E.length : Int) != (E.length : Int)) = false := by simp
  go_wp2_with fail
  refine CTA.out.mono ?_
  rintro e w6 ⟨tv, rfl, htv, ho6, _⟩
  obtain ⟨TA, tc, rfl⟩ := htv.ps.shape
  obtain ⟨r, hr⟩ : ∃ r, (unA y).getD Rp.zero = r := ⟨_, rfl⟩
  obtain ⟨ec, hec⟩ : ∃ ec : Int, (if (unA y).isSome = true then 0 else 8) = ec := ⟨_, rfl⟩
  have HR := Lib.hid hr
  rw [hr, hec]
  unfold Rp.val
  have HO6 := Lib.hid (HO5.out.tr ho6)
  have HB6 := Lib.hid (HB5.out.only ho6 (by simp))
  have HRV6 := Lib.hid ((HRV5.out.only ho6 (Nat.le_refl _) (by simp)).more ho6.size)
  clear htv ho6 hr hec CTA y0 HO5 HB5 HRV5 hnn
  by_cases h17 : r.er = 17
  · have hb17 : (r.er == 17) = true := by simp [h17]
    go_wp2_with fail
    go_ret
    exact ⟨rfl, HO6.out.alloc _⟩
  have hb17 : (r.er == 17) = false := by simpa using h17
  go_upto_region 16 with fail
  have O7 : Only [] w6 (w6.alloc (.cells #[.int .i64 r.er, .int .i64 r.n, .slice TA r.ps.length tc] 34)) := (Only.refl _ _).alloc _
  obtain ⟨w7, hw7⟩ : ∃ u, w6.alloc (.cells #[.int .i64 r.er, .int .i64 r.n, .slice TA r.ps.length tc] 34) = u := ⟨_, rfl⟩
  rw [hw7] at O7 ⊢
  have HO7 := Lib.hid (HO6.out.tr O7)
  have HB7 := Lib.hid (HB6.out.only O7 (by simp))
  have HRV7 := Lib.hid ((HRV6.out.only O7 (Nat.le_refl _) (by simp)).more O7.size)
  clear hw7 O7 HO6 HB6 HRV6
  have HSRC := Lib.hid (srcA_sl (HS1.out.only HO7.out (Nat.le_refl _) (by simp)) (by omega) (by decide) (cmL_one (fun a ha => HG1.out a ha)))
  obtain ⟨LC, hLC⟩ : ∃ x, cmL l = x := ⟨_, rfl⟩
  obtain ⟨N, hN⟩ : ∃ n, l.length = n := ⟨_, rfl⟩
  have HLC := Lib.hid hLC
  have HN := Lib.hid hN
  rw [hLC, hN] at HSRC
  have hN80 : N ≤ 80 := by omega
  rw [hN]
  have c0 := fun u : Since w7 => u.cell (HB7.out.cell (k := 0) rfl)
  have c1 := fun u : Since w7 => u.cell (HB7.out.cell (k := 1) rfl)
  have c2 := fun u : Since w7 => u.cell (HB7.out.cell (k := 2) rfl)
  have c3 := fun u : Since w7 => u.cell (HB7.out.cell (k := 3) rfl)
  have c4 := fun u : Since w7 => u.cell (HB7.out.cell (k := 4) rfl)
  have c5 := fun u : Since w7 => u.cell (HB7.out.cell (k := 5) rfl)
  have c6 := fun u : Since w7 => u.cell (HB7.out.cell (k := 6) rfl)
  have c7 := fun u : Since w7 => u.cell (HB7.out.cell (k := 7) rfl)
  have c8 := fun u : Since w7 => u.cell (HB7.out.cell (k := 8) rfl)
  have c9 := fun u : Since w7 => u.cell (HB7.out.cell (k := 9) rfl)
  have c10 := fun u : Since w7 => u.cell (HB7.out.cell (k := 10) rfl)
  clear hLC hN
  refine wp_region_pendN w7 (Only.refl _ _) [(65, OwW w7.heap.size 38 11 0 []), (67, OwW w7.heap.size 38 11 N LC), (69, OwW w7.heap.size 38 11 1 [.int .i64 a.c.kd, .int .i64 a.c.ss, .int .i64 a.c.sq, .int .i64 a.c.sh, .int .i64 a.c.nd, .int .i64 a.c.ep, .int .i64 a.c.n, .string ⟨a.c.fd.toArray⟩, .string ⟨a.c.id.toArray⟩, .slice IA a.c.its.length ic, .bool a.c.fl]), (70, OwW w7.heap.size 38 11 (N + 1) (LC ++ [.int .i64 a.c.kd, .int .i64 a.c.ss, .int .i64 a.c.sq, .int .i64 a.c.sh, .int .i64 a.c.nd, .int .i64 a.c.ep, .int .i64 a.c.n, .string ⟨a.c.fd.toArray⟩, .string ⟨a.c.id.toArray⟩, .slice IA a.c.its.length ic, .bool a.c.fl]))] [(67, 65), (70, 67)] 6 (by intro p hp; simp at hp; rcases hp with rfl | rfl | rfl | rfl <;> exact OwW.lasts _ _ _ _ _) (by kernel_rfl) (by kernel_rfl) (by decide) (fun val => ?_)
  simp only [List.take_succ_cons, List.take_zero, List.drop_succ_cons, List.drop_zero]
  refine fit_litO 65 38 11 [] 0 rfl rfl (by simp) (by simp) rfl (by decide) (fun ww => by go_simp) rfl ?_
  simp only [Act.put, List.setIfInBounds_toArray, List.set_cons_zero, List.set_cons_succ]
  refine fit_segN 1 (by kernel_rfl) ?_
  simp only [List.take_succ_cons, List.take_zero, List.drop_succ_cons, List.drop_zero]
  repeat (go_big_quiet_step (fail))
  refine wpQuiet_nil ?_
  refine fit_append 67 65 (.tmp 66) 22 38 i0 (.agg #[.int .i64 0, .int .i64 0, .int .i64 0, .int .i64 0, .int .i64 0, .int .i64 0, .int .i64 0, .string ⟨#[]⟩, .string ⟨#[]⟩, .slice none 0 0, .bool false]) 11 120 Tryz.underlying22 hi0 hz0 hz1 hz2 rfl (by decide) 0 N N [] LC LC (by omega) rfl rfl rfl rfl (by simp) (by simp) (by simp) (by decide) rfl rfl (fun ww hww => HSRC.out.only hww.1) (by unfold maxLen; omega) (by omega) rfl ?_
  simp only [Act.put, List.setIfInBounds_toArray, List.set_cons_zero, List.set_cons_succ]
  refine fit_segN 1 (by kernel_rfl) ?_
  simp only [List.take_succ_cons, List.take_zero, List.drop_succ_cons, List.drop_zero]
  repeat (go_big_quiet_step (fail))
  refine wpQuiet_nil ?_
  refine fit_litO 69 38 11 [.int .i64 a.c.kd, .int .i64 a.c.ss, .int .i64 a.c.sq, .int .i64 a.c.sh, .int .i64 a.c.nd, .int .i64 a.c.ep, .int .i64 a.c.n, .string ⟨a.c.fd.toArray⟩, .string ⟨a.c.id.toArray⟩, .slice IA a.c.its.length ic, .bool a.c.fl] 1 rfl rfl (by simp) (by simp) rfl (by decide) (fun ww => by go_simp) rfl ?_
  simp only [Act.put, List.setIfInBounds_toArray, List.set_cons_zero, List.set_cons_succ]
  refine fit_append 70 67 (.tmp 69) 22 38 i0 (.agg #[.int .i64 0, .int .i64 0, .int .i64 0, .int .i64 0, .int .i64 0, .int .i64 0, .int .i64 0, .string ⟨#[]⟩, .string ⟨#[]⟩, .slice none 0 0, .bool false]) 11 120 Tryz.underlying22 hi0 hz0 hz1 hz2 rfl (by decide) N 1 (N + 1) LC [.int .i64 a.c.kd, .int .i64 a.c.ss, .int .i64 a.c.sq, .int .i64 a.c.sh, .int .i64 a.c.nd, .int .i64 a.c.ep, .int .i64 a.c.n, .string ⟨a.c.fd.toArray⟩, .string ⟨a.c.id.toArray⟩, .slice IA a.c.its.length ic, .bool a.c.fl] (LC ++ [.int .i64 a.c.kd, .int .i64 a.c.ss, .int .i64 a.c.sq, .int .i64 a.c.sh, .int .i64 a.c.nd, .int .i64 a.c.ep, .int .i64 a.c.n, .string ⟨a.c.fd.toArray⟩, .string ⟨a.c.id.toArray⟩, .slice IA a.c.its.length ic, .bool a.c.fl]) (by omega) rfl rfl rfl rfl (by simp) (by simp) (by simp) (by decide) rfl rfl (fun ww hww => SrcA.own (hww.2 (69, OwW w7.heap.size 38 11 1 [.int .i64 a.c.kd, .int .i64 a.c.ss, .int .i64 a.c.sq, .int .i64 a.c.sh, .int .i64 a.c.nd, .int .i64 a.c.ep, .int .i64 a.c.n, .string ⟨a.c.fd.toArray⟩, .string ⟨a.c.id.toArray⟩, .slice IA a.c.its.length ic, .bool a.c.fl]) (by simp) (by show 69 ∈ Oper.looksAt _ _; decide)) (by simp [Value.oneCell'])) (by unfold maxLen; omega) (by omega) rfl ?_
  simp only [Act.put, List.setIfInBounds_toArray, List.set_cons_zero, List.set_cons_succ]
  intro w8 ho5 hV5
  have hown8 := hV5 (by decide) (70, OwW w7.heap.size 38 11 (N + 1) (LC ++ [.int .i64 a.c.kd, .int .i64 a.c.ss, .int .i64 a.c.sq, .int .i64 a.c.sh, .int .i64 a.c.nd, .int .i64 a.c.ep, .int .i64 a.c.n, .string ⟨a.c.fd.toArray⟩, .string ⟨a.c.id.toArray⟩, .slice IA a.c.its.length ic, .bool a.c.fl])) (by simp) (by simp)
  obtain ⟨u, hu⟩ : ∃ u, val 70 = u := ⟨_, rfl⟩
  have hown8 : w8.ownsRow w7.heap.size 38 11 u (N + 1) (LC ++ [.int .i64 a.c.kd, .int .i64 a.c.ss, .int .i64 a.c.sq, .int .i64 a.c.sh, .int .i64 a.c.nd, .int .i64 a.c.ep, .int .i64 a.c.n, .string ⟨a.c.fd.toArray⟩, .string ⟨a.c.id.toArray⟩, .slice IA a.c.its.length ic, .bool a.c.fl]) := hu ▸ hown8
  rw [hu]
  clear c0 c1 c2 c3 c4 c5 c6 c7 c8 c9 c10 hV5
  have HO8 := Lib.hid (HO7.out.tr ho5)
  have HRV8 := Lib.hid ((HRV7.out.only ho5 (Nat.le_refl _) (by simp)).more ho5.size)
  obtain ⟨l2, hl2⟩ : ∃ x, l ++ [a] = x := ⟨_, rfl⟩
  have HL2 : Hid (l2.length = N + 1) := Lib.hid (by rw [← hl2, List.length_append, HN.out]; rfl)
  have HROW2 : Hid (SlAt w8 w8.heap.size u 11 l2.length (cmL l2)) := Lib.hid (by
    have e1 : cmL l2 = LC ++ [.int .i64 a.c.kd, .int .i64 a.c.ss, .int .i64 a.c.sq, .int .i64 a.c.sh, .int .i64 a.c.nd, .int .i64 a.c.ep, .int .i64 a.c.n, .string ⟨a.c.fd.toArray⟩, .string ⟨a.c.id.toArray⟩, .slice IA a.c.its.length ic, .bool a.c.fl] := by
      rw [← hl2, ← HLC.out]
      unfold cmL
      rw [List.flatMap_append]
      unfold Cm.cells
      simp [HIV.out]
    rw [e1, HL2.out]
    exact SlAt.of_own hown8)
  have CROW2 := Lib.hid (row23 u l2 w8 HROW2.out (fun b hb => by
    rw [← hl2] at hb
    rcases List.mem_append.1 hb with hb | hb
    · exact (HG1.out b hb).only HO8.out
    · simp at hb
      subst hb
      exact HG.out.only HO8.out) (fun b hb => by
    rw [← hl2] at hb
    rcases List.mem_append.1 hb with hb | hb
    · exact (HM1.out.al b hb).sm
    · simp at hb
      subst hb
      exact HSM1.out) (by have := HL2.out; omega))
  have HE2 : Hid (EyOk (rowE l2)) := Lib.hid (rowE_ok (by have := HL2.out; omega))
  have HEL2 : Hid ((rowE l2).length = N + 1) := Lib.hid (by rw [rowE_length]; exact HL2.out)
  have HG2 : Hid ((rowE l2)[N]? = some (rowF N a.c)) := Lib.hid (rowE_get l2 N a (by rw [← hl2, ← HN.out]; exact List.getElem?_concat_length))
  have HRUN : Hid (rightB a.c = true → runE AgS.new (rowE l2) = runE AgS.new E) := Lib.hid (fun hr => by
    rw [← hl2, ← HEE.out]
    exact twice23 l k a HLA.out (by rw [HN.out]; omega) hr HCL.out y (by rw [HEE.out, HRS.out]; exact HY.out) (by rw [HR.out]; exact h17))
  obtain ⟨E2, hE2⟩ : ∃ x, rowE l2 = x := ⟨_, rfl⟩
  rw [hE2] at CROW2 HE2 HEL2 HG2 HRUN
  clear hl2 hE2 hown8 ho5 HB7 HROW2 hu
  obtain ⟨M, hM⟩ : ∃ m, l2.length = m := ⟨_, rfl⟩
  rw [hM] at CROW2 HL2
  clear hM
  go_wp2_with fail
  refine CROW2.out.mono ?_
  rintro e w9 ⟨sv, rfl, hsv, ho9⟩
  have HSV : Hid (SlAt w9 w9.heap.size sv 4 E2.length (eyL E2)) := Lib.hid (by
    rw [HEL2.out, ← HL2.out]
    exact SlAt.of_own hsv)
  obtain ⟨SA, sc, rfl⟩ := HSV.out.shape
  obtain ⟨sb, so, sc', hv, s0, s1, s2, s3⟩ := eyL_at HSV.out HG2.out
  injection hv with e1 e2 e3
  subst e1
  have HO9 := Lib.hid (HO8.out.tr ho9)
  have HRV9 := Lib.hid ((HRV8.out.only ho9 (Nat.le_refl _) (by simp)).more ho9.size)
  have hNE : (N : Int) < (E2.length : Int) := by have := HEL2.out; omega
  have HKD : Hid ((rowF N a.c).kd = if rightB a.c = true then 2 else 1) := Lib.hid rfl
  obtain ⟨kd, hkd⟩ : ∃ x, (rowF N a.c).kd = x := ⟨_, rfl⟩
  rw [hkd] at s2 HKD
  clear hsv ho9 e2 e3 hkd CROW2 s0 s1 s3
  by_cases hr : rightB a.c = true
  · have hk2 : kd = 2 := by rw [HKD.out, if_pos hr]
    have hk2' : (kd != 2) = false := by simp [hk2]
    have CS2 := Lib.hid (hi_state _ E2 w9 HSV.out HE2.out)
    have CS1' := Lib.hid (fun w' (ho : Only [] w9 w') => hi_state (.slice RA E.length rc) E w' ((HRV9.out.only ho (Nat.le_refl _) (by simp)).more ho.size) HE.out)
    rw [HRUN.out hr] at CS2
    obtain ⟨X, hX⟩ : ∃ X, agB (runE AgS.new E) = X := ⟨_, rfl⟩
    rw [hX] at CS2 CS1'
    have hxx : (X == X) = true := by simp
    clear hX hk2 hr
    go_wp2_with fail
    refine CS2.out.mono ?_
    rintro e w10 ⟨rfl, ho10⟩
    have HO10 := Lib.hid ho10
    clear ho10
    go_wp2_with fail
    refine (CS1'.out _ HO10.out).mono ?_
    rintro e w11 ⟨rfl, ho11⟩
    have HF := Lib.hid (HO9.out.tr (HO10.out.tr ho11))
    clear ho11
    go_wp2_with fail
    go_ret
    exact ⟨rfl, HF.out⟩
  · have hk2 : kd = 1 := by rw [HKD.out, if_neg hr]
    have hk2' : (kd != 2) = true := by simp [hk2]
    clear hk2
    go_wp2_with fail
    go_ret
    exact ⟨rfl, HO9.out⟩
end Go.Proofs.YtcjfmildalappaaGreat
