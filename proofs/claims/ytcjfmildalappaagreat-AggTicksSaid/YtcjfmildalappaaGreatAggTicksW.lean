/-
  The walk over AggTicks: the time is how many ticks were done; epochs never go down.
-/
import Derived.Test.YtcjfmildalappaaGreatK19au
set_option linter.unusedVariables false
set_option linter.unusedSimpArgs false
namespace Go.Proofs.YtcjfmildalappaaGreat
open Go.RowKit
def epv (a : AgS) (j : Nat) : List Value := (List.range j).map fun i : Nat => Value.int .i64 (a.d.get i).epoch
theorem epv_succ (a : AgS) (j : Nat) : epv a (j + 1) = epv a j ++ [Value.int .i64 (a.d.get j).epoch] := by unfold epv; rw [List.range_succ, List.map_append]; rfl
theorem epv_get (a : AgS) (j k : Nat) (h : k < j) : (epv a j)[k]? = some (Value.int .i64 (a.d.get k).epoch) := by
  unfold epv
  rw [List.getElem?_map, List.getElem?_range h]; rfl
theorem epv_one (a : AgS) (j : Nat) : ∀ u ∈ epv a j, u.oneCell' = true := fun u hu => by
  obtain ⟨i, _, rfl⟩ := List.mem_map.1 hu
  rfl
theorem epv_len (a : AgS) (j : Nat) : (epv a j).length = j := by unfold epv; simp
set_option maxRecDepth 100000 in
set_option maxHeartbeats 8000000 in
theorem aggTicks_walk (W : World) (v : Value) (l : List C19) (s0 : SlAt W W.heap.size v 11 l.length (cmL l)) (g0 : ∀ a ∈ l, CmAt W a.iv a.c) :
    Calls Tryz.prog 3 #[v] W fun e W' => e = .returned (.bool true) ∧ Only [] W W' := by
  obtain ⟨LA1, lc1, rfl⟩ := s0.shape
  have HS1 := Lib.hid s0
  have HG1 := Lib.hid g0
  have CS1 := Lib.hid (fun w' (ho : Only [] W w') => small19 (.slice LA1 l.length lc1) l w' ((s0.only ho (Nat.le_refl _) (by simp)).more ho.size) (fun a ha => (g0 a ha).only ho))
  have hll1 := sl_len s0
  unfold maxLen at hll1
  clear s0 g0
  obtain ⟨i0, hi0, hz0, hz1, hz2⟩ := info_parts info_int
  have C0 := Lib.hid (shown19 W)
  go_enter Tryz.func3, Tryz.ntmps3
  go_wp2_with fail
  refine C0.out.mono ?_
  rintro e w1 ⟨rfl, ho1⟩
  have HO1 := Lib.hid ho1
  clear ho1 C0
  go_wp2_with fail
  refine (CS1.out _ HO1.out).mono ?_
  rintro e w2 ⟨ok1, rfl, hok, how⟩
  have HO := Lib.hid (HO1.out.tr how)
  have HMo1 := Lib.hid hok
  clear how hok
  cases ok1 with
  | false =>
    go_wp2_with fail
    go_ret
    exact ⟨rfl, HO.out⟩
  | true =>
  have HM1 := Lib.hid (HMo1.out rfl)
  clear HMo1
  go_wp2_with fail
  refine (agw_new W _ HO.out).mono ?_
  rintro e wn ⟨p, K0, rfl, hA0, _, _⟩
  have H0 : Hid (AgW W wn p K0 0 (runA (l.take 0))) := Lib.hid hA0
  clear hA0
  go_wp2_with fail
  go_loopw [6, 7] (fun t i wr => ∃ (k : Nat) (K : List Nat), k ≤ l.length ∧ t = .int .i64 (runA (l.take k)).d.now ∧ i = .int .i64 k ∧ Hid (AgW W wr p K k (runA (l.take k)))) (fun _ i _ => l.length - (intOf i).toNat)
  case atStart => exact ⟨0, _, by omega, rfl, rfl, H0⟩
  case round =>
    obtain ⟨k, K, hk, rfl, rfl, H⟩ := hrel
    obtain ⟨wo, rfl⟩ : ∃ wo, wo = wr := ⟨_, rfl⟩
    have hn80 := HM1.out.n
    by_cases hlt : k < l.length
    · have hlt' : (k : Int) < (l.length : Int) := by omega
      obtain ⟨st, hst⟩ : ∃ st, runA (l.take k) = st := ⟨_, rfl⟩
      have HT : Hid (∀ x, l[k]? = some x → runA (l.take (k + 1)) = (doA st x.c).2) := Lib.hid (fun x hx => hst ▸ runA_step l k x hx)
      rw [hst] at H ⊢
      clear hst
      have hlen8 : Hid (st.d.l.length = 8) := Lib.hid H.out.i.d.up.len
      have HB : Hid (∀ x ∈ K, x < wo.heap.size) := Lib.hid H.out.at_.bw
      go_wp2_with fail
      go_loopw [8, 9] (fun wv j wx => ∃ (n : Nat) (vv : Value), n ≤ 8 ∧ vv = wv ∧ j = .int .i64 n ∧ Hid (wx.ownsRow wo.heap.size 3 1 vv n (epv st n)) ∧ Hid (AgW W wx p K k st) ∧ Hid (wo.heap.size ≤ wx.heap.size)) (fun _ j _ => 8 - (intOf j).toNat)
      case atStart => exact ⟨0, _, by omega, rfl, rfl, Lib.hid (World.ownsRow_nil _ _ _ _), H, Lib.hid (Nat.le_refl _)⟩
      case round =>
        obtain ⟨n, vv, hn, rfl, rfl, HW, H2, HZ⟩ := hrel
        obtain ⟨wq, rfl⟩ : ∃ wq, wq = wr := ⟨_, rfl⟩
        by_cases hn8 : n < 8
        · have hn8' : (n : Int) < 8 := by omega
          have CG := Lib.hid (ag_get p K st n wq H2.out.at_ hlen8.out)
          obtain ⟨⟨gn, ge, gt⟩, hg⟩ : ∃ g, st.d.get n = g := ⟨_, rfl⟩
          rw [hg] at CG
          have HGE : Hid ((st.d.get n).epoch = ge) := Lib.hid (by rw [hg])
          unfold L16.Ls.val at CG
          dsimp only at CG
          have hfd := fun w' => L16.field_lease1 gn ge gt w'
          clear hg
          go_wp2_with fail
          refine CG.out.mono ?_
          rintro e w5 ⟨rfl, ho5⟩
          have HW5 := Lib.hid (own_keep HW.out ho5 (by simp))
          have H5 := Lib.hid (H2.out.read ho5)
          have hsz := Nat.le_trans HZ.out ho5.size
          clear HW H2 HZ ho5 CG
          go_wp2_with (at_builtin; go_loud (refine wpList_app rfl _ _ 27 rfl wo.heap.size 3 i0 _ 1 8 Tryz.underlying27 hi0 hz0 hz1 hz2 rfl (by decide) w5 vv n (epv st n) rfl HW5.out 1 1 [.int .i64 ge] rfl rfl (by simp [Value.oneCell']) (by unfold maxLen; omega) (by omega) hsz ?_; intro v' w6 hown6 hgr6 hf6))
          have HW6 : Hid (w6.ownsRow wo.heap.size 3 1 v' (n + 1) (epv st (n + 1))) := Lib.hid (by rw [epv_succ, HGE.out]; exact hown6)
          have ho6 : Only (rb vv) w5 w6 := (Only.refl _ w5).grown hgr6 (fun g e => .inl (by simp [rb, e]))
          have H6 := Lib.hid (H5.out.far ho6 (fun x hx => by
            have hx2 := (HW5.out.lt x (by simpa [rb] using hx)).1
            refine ⟨fun hm => ?_, ?_⟩
            · have := HB.out x hm; omega
            · have := H.out.ho.size; omega))
          have HZ6 := Lib.hid (Nat.le_trans hsz ho6.size)
          clear hown6 hgr6 hf6 ho6 HW5 H5 hfd
          go_wp2_with fail
          go_roundw
          case rel => exact ⟨n + 1, _, by omega, rfl, by go_num, HW6, H6, HZ6⟩
          case measure => simp [intOf]; omega
        · have hn8' : decide ((n : Int) < 8) = false := by simp; omega
          obtain rfl : n = 8 := by omega
          obtain ⟨a, ha⟩ : ∃ a, l[k]? = some a := ⟨_, List.getElem?_eq_getElem hlt⟩
          have ham := List.mem_of_getElem? ha
          have CM := Lib.hid ((HG1.out a ham).only H2.out.ho)
          have IK := Lib.hid (itk_base (HG1.out a ham) H2.out)
          have hil : a.c.its.length ≤ 1000000 := by have := (HM1.out.al a ham).n; omega
          obtain ⟨ab, ao, ac, hv, q0, q1, q2, q3, q4, q5, q6, q7, q8, q9, q10⟩ := cmL_at (HS1.out.only H2.out.ho (Nat.le_refl _) (by simp)) ha
          injection hv with e1 e2 e3
          subst e1; subst e3
          have CD := Lib.hid (agw_do p K st k (by omega) a.c a.iv W wq H2.out CM.out hil IK.out)
          have HT2 := Lib.hid (HT.out a ha)
          have HE := Lib.hid (fun j : Int => doA_epoch hlen8.out a.c j)
          have hNW := doA_now st a.c
          obtain ⟨s2, hs2⟩ : ∃ s2, (doA st a.c).2 = s2 := ⟨_, rfl⟩
          obtain ⟨r, hr⟩ : ∃ r, (doA st a.c).1 = r := ⟨_, rfl⟩
          rw [hs2] at HT2 HE hNW CD
          rw [hr] at hNW CD
          have HNW := Lib.hid hNW
          have HA := Lib.hid ha
          unfold Cm.val at CD
          clear hs2 hr hNW e2 ha HT H hil CM IK hn8'
          go_wp2_with fail
          refine CD.out.mono ?_
          rintro e w5 ⟨pv, K2, rfl, hp5, hg5, hA5, ho5, hN5, hk5⟩
          obtain ⟨PA, pc, rfl⟩ := hp5.ps.shape
          obtain ⟨b1, b2, b3⟩ := box_row w5 34 [.int .i64 0, .int .i64 0, .slice none 0 0] [.int .i64 r.er, .int .i64 r.n, .slice PA r.ps.length pc]
          have hone : (#[.int .i64 r.er, .int .i64 r.n, .slice PA r.ps.length pc] : Array Value).all (·.oneCell') = true := by simp [Value.oneCell']
          have HW5 := Lib.hid (own_keep HW.out ho5 (fun b hb e => by have h1 := HB.out b hb; have h2 := (HW.out.lt b e).1; omega))
          have HA5 := Lib.hid hA5
          unfold Rp.val
          clear q0 q1 q2 q3 q4 q5 q6 q7 q8 q9 q10 hp5 hg5 ho5 hN5 hk5 hA5 CD HW
          go_upto_region 16 with (refine wpList_store_row rfl 34 _ _ rfl w5.heap.size #[.int .i64 r.er, .int .i64 r.n, .slice PA r.ps.length pc] rfl rfl 34 _ b2 (by kernel_rfl) rfl hone ?_)
          (try simp only [Act.put])
          obtain ⟨v5, hv5⟩ : ∃ u, (w5.alloc (.cells #[.int .i64 0, .int .i64 0, .slice none 0 0] 34)).setRow w5.heap.size #[.int .i64 r.er, .int .i64 r.n, .slice PA r.ps.length pc] = u := ⟨_, rfl⟩
          rw [hv5]
          have b1 : Only [] w5 v5 := hv5 ▸ b1
          have b3 : Cells v5 w5.heap.size 34 [.int .i64 r.er, .int .i64 r.n, .slice PA r.ps.length pc] := hv5 ▸ b3
          obtain ⟨zr, hzr⟩ : ∃ z, w5.heap.size = z := ⟨_, rfl⟩
          rw [hzr] at b3 ⊢
          have H6 := Lib.hid (HA5.out.read b1)
          have HW6 := Lib.hid (own_keep HW5.out b1 (by simp))
          have r0 := b3.cell (k := 0) rfl
          have r1 := b3.cell (k := 1) rfl
          have hrl := b3.lt
          obtain ⟨ab, ao, ac, hv, q0, q1, q2, q3, q4, q5, q6, q7, q8, q9, q10⟩ := cmL_at (HS1.out.only H6.out.ho (Nat.le_refl _) (by simp)) HA.out
          injection hv with e1 e2 e3
          injection e1 with e1
          injection e1 with d1 d2 d3
          subst d1; subst d2
          have HLC : Hid (ac = lc1) := Lib.hid e3.symm
          clear b1 b2 b3 hone hv5 hzr HA5 HW5 e2 e3 d3 q1 q2 q3 q4 q5 q6 q7 q8 q9 q10
          obtain ⟨kd, hkd⟩ : ∃ x, a.c.kd = x := ⟨_, rfl⟩
          obtain ⟨er, her⟩ : ∃ x, r.er = x := ⟨_, rfl⟩
          obtain ⟨nn, hnn⟩ : ∃ x, s2.d.now = x := ⟨_, rfl⟩
          obtain ⟨n0, hn0⟩ : ∃ x, st.d.now = x := ⟨_, rfl⟩
          obtain ⟨rn, hrn⟩ : ∃ x, r.n = x := ⟨_, rfl⟩
          rw [hkd] at q0 HNW HE
          rw [her] at r0 HNW
          rw [hrn] at r1 HNW
          rw [hnn, hn0] at HNW
          rw [hn0]
          have hnb : 0 ≤ n0 ∧ n0 ≤ 1000 := by
            have := H2.out.i.d.up.n0
            have := H2.out.i.d.up.n1
            omega
          have HNN := Lib.hid hnn
          have HKD := Lib.hid hkd
          clear hkd her hnn hn0 hrn H2 hll1
          go_cut [57] (fun x wx => x = .bool (kd == 6 && er == 0) ∧ v5 = wx)
          case first =>
            cases t6 : (kd == 6) with
            | true =>
              go_wp2_with fail
              go_meet
              exact ⟨by simp [t6], rfl⟩
            | false =>
              go_wp2_with fail
              go_meet
              exact ⟨by simp [t6], rfl⟩
          case rest =>
          obtain ⟨rfl, rfl⟩ := hcut
          go_upto_if 57 with fail
          go_cut [6] (fun x wx => x = .int .i64 nn ∧ v5 = wx)
          case first =>
            have hN := HNW.out
            by_cases h6 : kd = 6 ∧ er = 0
            · obtain ⟨rfl, rfl⟩ := h6
              rw [if_pos ⟨rfl, rfl⟩] at hN
              obtain ⟨hN1, hN2⟩ := hN
              obtain rfl : rn = n0 + 1 := hN2 rfl rfl
              clear hN2 HNW HE
              have HN1 := Lib.hid hN1
              clear hN1
              go_wp2_with fail
              go_meet
              exact ⟨by rw [HN1.out], rfl⟩
            · rw [if_neg h6] at hN
              have HN1 : Hid (nn = n0) := Lib.hid (by omega)
              have tb : (kd == 6 && er == 0) = false := by
                cases hb : (kd == 6 && er == 0) with
                | false => rfl
                | true => simp at hb; exact absurd hb h6
              rw [tb]
              clear hN h6 tb HNW HE
              go_wp2_with fail
              go_meet
              exact ⟨by rw [HN1.out], rfl⟩
          case rest =>
          obtain ⟨rfl, rfl⟩ := hcut
          have CN := Lib.hid (ag_now p K2 s2 v5 H6.out.at_)
          rw [HNN.out] at CN
          have hlen2 : Hid (s2.d.l.length = 8) := Lib.hid H6.out.i.d.up.len
          clear r0 r1 hrl q0
          go_wp2_with fail
          refine CN.out.mono ?_
          rintro e w6 ⟨rfl, rfl⟩
          go_wp2_with fail
          go_loopw [11] (fun j wx => ∃ q : Nat, q ≤ 8 ∧ j = .int .i64 q ∧ Hid (Only [] v5 wx)) (fun j _ => 8 - (intOf j).toNat)
          case atStart => exact ⟨0, by omega, rfl, Lib.hid (Only.refl _ _)⟩
          case round =>
            obtain ⟨q, hq, rfl, ho⟩ := hrel
            obtain ⟨wq, rfl⟩ : ∃ wq, wq = wr := ⟨_, rfl⟩
            have H7 := Lib.hid (H6.out.read ho.out)
            by_cases hq8 : q < 8
            · have hq8' : (q : Int) < 8 := by omega
              have CG := Lib.hid (fun w' (hh : Only [] wq w') => ag_get p K2 s2 q w' (H7.out.read hh).at_ hlen2.out)
              have hep := HE.out q
              obtain ⟨⟨gn, ge, gt⟩, hg⟩ : ∃ g, s2.d.get q = g := ⟨_, rfl⟩
              rw [hg] at CG hep
              obtain ⟨gz, hgz⟩ : ∃ g, (st.d.get q).epoch = g := ⟨_, rfl⟩
              rw [hgz] at hep
              unfold L16.Ls.val at CG
              dsimp only at CG hep
              have HGZ := Lib.hid hgz
              have HEP := Lib.hid hep
              have hfd := fun w' => L16.field_lease1 gn ge gt w'
              have CG0 := Lib.hid (CG.out wq (Only.refl _ _))
              clear hg hgz hep CG
              go_wp2_with fail
              refine CG0.out.mono ?_
              rintro e w7 ⟨rfl, ho7⟩
              have HO7 := Lib.hid (ho.out.tr ho7)
              have HW7 := own_keep HW6.out HO7.out (by simp)
              obtain ⟨wb, wo2, wc2, ev, hwb, hwc⟩ := (SlAt.of_own HW7).at_ (by omega)
              have hwas : w7.cell? ⟨wb, wo2 + q, none⟩ = some (.int .i64 gz) := by
                rw [← HGZ.out]
                exact hwc q _ (epv_get st 8 q hq8)
              subst ev
              obtain ⟨ab, ao, ac, hv, q0, q1, q2, q3, q4, q5, q6, q7, q8, q9, q10⟩ := cmL_at (HS1.out.only (H6.out.read HO7.out).ho (Nat.le_refl _) (by simp)) HA.out
              injection hv with e1 e2 e3
              injection e1 with e1
              injection e1 with d1 d2 d3
              subst d1; subst d2
              rw [HKD.out] at q0
              have g1 : decide (ge < gz) = false := by have := HEP.out.1; simp; omega
              clear HW7 hwc e2 e3 d3 q1 q2 q3 q4 q5 q6 q7 q8 q9 q10 ho7 CG0
              cases g2 : decide (gz < ge) with
              | false =>
                go_wp2_with fail
                go_roundw
                case rel => exact ⟨q + 1, by omega, by go_num, HO7⟩
                case measure => simp [intOf]; omega
              | true =>
                have g3 : (kd != 7) = false := by
                  by_cases h7 : kd = 7
                  · simp [h7]
                  · have := HEP.out.2 h7
                    simp at g2
                    omega
                go_wp2_with fail
                go_roundw
                case rel => exact ⟨q + 1, by omega, by go_num, HO7⟩
                case measure => simp [intOf]; omega
            · have hq8' : decide ((q : Int) < 8) = false := by simp; omega
              have HRL : Hid ((runA (l.take (k + 1))).d.now = nn) := Lib.hid (by rw [HT2.out]; exact HNN.out)
              have H8 : Hid (AgW W wq p K2 (k + 1) (runA (l.take (k + 1)))) := Lib.hid (by rw [HT2.out]; exact H7.out)
              go_wp2_with fail
              go_roundw
              case rel => exact ⟨k + 1, K2, by omega, by rw [HRL.out], by go_num, H8⟩
              case measure => simp [intOf]; omega
    · have hd : decide ((k : Int) < (l.length : Int)) = false := by simp; omega
      go_wp2_with fail
      go_ret
      exact ⟨rfl, H.out.ho⟩
end Go.Proofs.YtcjfmildalappaaGreat
