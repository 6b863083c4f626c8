/-
  The walk over AggKeeps: two automata that did the same, and one that was saved and loaded between, answer the same and are the same.
-/
import Derived.Test.YtcjfmildalappaaGreatK20av
set_option linter.unusedVariables false
set_option linter.unusedSimpArgs false
namespace Go.Proofs.YtcjfmildalappaaGreat
open Go.RowKit
set_option maxRecDepth 100000 in
set_option maxHeartbeats 8000000 in
theorem aggKeeps_walk (W : World) (v0 : Value) (l : List C19) (s0 : SlAt W W.heap.size v0 11 l.length (cmL l)) (g0 : ∀ a ∈ l, CmAt W a.iv a.c) (v2 : Value) (m : List C19) (s2 : SlAt W W.heap.size v2 11 m.length (cmL m)) (g2 : ∀ a ∈ m, CmAt W a.iv a.c) :
    Calls Tryz.prog 9 #[v0, v2] W fun e W' => e = .returned (.bool true) ∧ Only [] W W' := by
  obtain ⟨LA1, lc1, rfl⟩ := s0.shape
  have HS1 := Lib.hid s0
  have HG1 := Lib.hid g0
  have CS1 := Lib.hid (fun w' (ho : Only [] W w') => small19 (.slice LA1 l.length lc1) l w' ((s0.only ho (Nat.le_refl _) (by simp)).more ho.size) (fun a ha => (g0 a ha).only ho))
  have hll1 := sl_len s0
  unfold maxLen at hll1
  clear s0 g0
  obtain ⟨LA2, lc2, rfl⟩ := s2.shape
  have HS2 := Lib.hid s2
  have HG2 := Lib.hid g2
  have CS2 := Lib.hid (fun w' (ho : Only [] W w') => small19 (.slice LA2 m.length lc2) m w' ((s2.only ho (Nat.le_refl _) (by simp)).more ho.size) (fun a ha => (g2 a ha).only ho))
  have hll2 := sl_len s2
  unfold maxLen at hll2
  clear s2 g2
  have C0 := Lib.hid (shown19 W)
  go_enter Tryz.func9, Tryz.ntmps9
  go_wp2_with fail
  refine C0.out.mono ?_
  rintro e w1 ⟨rfl, ho1⟩
  have HO1 := Lib.hid ho1
  clear ho1 C0
  go_wp2_with fail
  refine (CS1.out _ HO1.out).mono ?_
  rintro e w2 ⟨ok1, rfl, hok, how⟩
  have HO2 := Lib.hid (HO1.out.tr how)
  have HMo1 := Lib.hid hok
  clear how hok
  go_wp2_with fail
  refine (CS2.out _ HO2.out).mono ?_
  rintro e w3 ⟨ok2, rfl, hok, how⟩
  have HO := Lib.hid (HO2.out.tr how)
  have HMo2 := Lib.hid hok
  clear how hok
  cases ok1 with
  | false =>
    go_wp2_with fail
    go_ret
    exact ⟨rfl, HO.out⟩
  | true =>
  cases ok2 with
  | false =>
    go_wp2_with fail
    go_ret
    exact ⟨rfl, HO.out⟩
  | true =>
  have HM1 := Lib.hid (HMo1.out rfl)
  have HM2 := Lib.hid (HMo2.out rfl)
  clear HMo1 HMo2
  go_wp2_with fail
  refine (agw_new W _ HO.out).mono ?_
  rintro e wn ⟨pa, Ka0, rfl, hA0, _, ho0⟩
  have HA0 := Lib.hid hA0
  have HOn := Lib.hid (HO.out.tr ho0)
  clear hA0 ho0
  go_wp2_with fail
  refine (agw_new W _ HOn.out).mono ?_
  rintro e wm ⟨pb, Kb0, rfl, hB0, hl0, ho0⟩
  have HA1 : Hid (AgW W wm pa Ka0 (0 + 0) (runB AgS.new (l.take 0))) := Lib.hid (HA0.out.read ho0)
  have HB1 : Hid (AgW W wm pb Kb0 (0 + 0) (runB AgS.new (l.take 0))) := Lib.hid hB0
  have HD1 : Hid (∀ x ∈ Ka0, x ∉ Kb0) := Lib.hid (fun x hx hm => by have := HA0.out.at_.bw x hx; have := hl0 x hm; omega)
  clear hB0 ho0 hl0 HA0
  go_wp2_with fail
  go_loopw [10] (fun i wr => ∃ (k : Nat) (Ka Kb : List Nat), k ≤ l.length ∧ i = .int .i64 k ∧ Hid (AgW W wr pa Ka (0 + k) (runB AgS.new (l.take k))) ∧ Hid (AgW W wr pb Kb (0 + k) (runB AgS.new (l.take k))) ∧ Hid (∀ x ∈ Ka, x ∉ Kb)) (fun i _ => l.length - (intOf i).toNat)
  case atStart => exact ⟨0, _, _, by omega, rfl, HA1, HB1, HD1⟩
  case round =>
    obtain ⟨k, Ka, Kb, hk, rfl, HA, HB, HD⟩ := hrel
    obtain ⟨wq, rfl⟩ : ∃ wq, wq = wr := ⟨_, rfl⟩
    by_cases hlt : k < l.length
    · have hlt' : (k : Int) < (l.length : Int) := by omega
      obtain ⟨a, ha⟩ : ∃ a, l[k]? = some a := ⟨_, List.getElem?_eq_getElem hlt⟩
      have ham := List.mem_of_getElem? ha
      have hil : a.c.its.length ≤ 1000000 := by have := (HM1.out.al a ham).n; omega
      have hn80 := HM1.out.n
      have HT : Hid (runB AgS.new (l.take (k + 1)) = (doA (runB AgS.new (l.take k)) a.c).2) := Lib.hid (runB_step _ l k a ha)
      obtain ⟨st, hst⟩ : ∃ st, runB AgS.new (l.take k) = st := ⟨_, rfl⟩
      rw [hst] at HA HB HT
      obtain ⟨st2, hst2⟩ : ∃ st2, (doA st a.c).2 = st2 := ⟨_, rfl⟩
      obtain ⟨r, hr⟩ : ∃ r, (doA st a.c).1 = r := ⟨_, rfl⟩
      rw [hst2] at HT
      have HG := Lib.hid (HG1.out a ham)
      have CD : Hid (∀ (w' : World) (p : Nat) (K : List Nat), AgW W w' p K (0 + k) st → Calls Tryz.prog 20 #[.pointer (some ⟨p, 0, none⟩), .agg #[.int .i64 a.c.kd, .int .i64 a.c.ss, .int .i64 a.c.sq, .int .i64 a.c.sh, .int .i64 a.c.nd, .int .i64 a.c.ep, .int .i64 a.c.n, .string ⟨a.c.fd.toArray⟩, .string ⟨a.c.id.toArray⟩, a.iv, .bool a.c.fl]] w' fun e w2 => DoW W w' w2 p K (0 + k + 1) st2 r e) := Lib.hid (fun w' p K h => by
        have := agw_do p K st _ (by omega) a.c a.iv W w' h (HG.out.only h.ho) hil (itk_base HG.out h)
        rw [hst2, hr] at this
        exact this)
      obtain ⟨ab, ao, ac, hv, q0, q1, q2, q3, q4, q5, q6, q7, q8, q9, q10⟩ := cmL_at (HS1.out.only HA.out.ho (Nat.le_refl _) (by simp)) ha
      injection hv with e1 e2 e3
      subst e1; subst e3
      have HROW : Hid (∀ w', Only [] W w' → w'.cell? ⟨ab, ao + k * 11, none⟩ = some (.int .i64 a.c.kd) ∧ w'.cell? ⟨ab, ao + k * 11 + 1, none⟩ = some (.int .i64 a.c.ss) ∧ w'.cell? ⟨ab, ao + k * 11 + 2, none⟩ = some (.int .i64 a.c.sq) ∧ w'.cell? ⟨ab, ao + k * 11 + 3, none⟩ = some (.int .i64 a.c.sh) ∧ w'.cell? ⟨ab, ao + k * 11 + 4, none⟩ = some (.int .i64 a.c.nd) ∧ w'.cell? ⟨ab, ao + k * 11 + 5, none⟩ = some (.int .i64 a.c.ep) ∧ w'.cell? ⟨ab, ao + k * 11 + 6, none⟩ = some (.int .i64 a.c.n) ∧ w'.cell? ⟨ab, ao + k * 11 + 7, none⟩ = some (.string ⟨a.c.fd.toArray⟩) ∧ w'.cell? ⟨ab, ao + k * 11 + 8, none⟩ = some (.string ⟨a.c.id.toArray⟩) ∧ w'.cell? ⟨ab, ao + k * 11 + 9, none⟩ = some (a.iv) ∧ w'.cell? ⟨ab, ao + k * 11 + 10, none⟩ = some (.bool a.c.fl)) := Lib.hid (fun w' ho => by
        obtain ⟨ab', ao', ac', hv', d0, d1, d2, d3, d4, d5, d6, d7, d8, d9, d10⟩ := cmL_at (HS1.out.only ho (Nat.le_refl _) (by simp)) ha
        injection hv' with e1 e2 e3
        injection e1 with e1
        injection e1 with e4 e5
        subst e4; subst e5
        exact ⟨d0, d1, d2, d3, d4, d5, d6, d7, d8, d9, d10⟩)
      have hAd := HA.out.read ((Only.refl [] wq).drew)
      have hBd := HB.out.read ((Only.refl [] wq).drew)
      have oWd : Only [] W wq.drew := hAd.ho
      have HAd := Lib.hid hAd
      have HBd := Lib.hid hBd
      clear q0 q1 q2 q3 q4 q5 q6 q7 q8 q9 q10 hn80 ha ham hil hst hst2 hr e2 hAd hBd HG
      go_wp2_with fail
      go_region_held3 (fun w' : World => w'.cell? ⟨ab, ao + k * 11, none⟩ = some (.int .i64 a.c.kd) ∧ w'.cell? ⟨ab, ao + k * 11 + 1, none⟩ = some (.int .i64 a.c.ss) ∧ w'.cell? ⟨ab, ao + k * 11 + 2, none⟩ = some (.int .i64 a.c.sq) ∧ w'.cell? ⟨ab, ao + k * 11 + 3, none⟩ = some (.int .i64 a.c.sh) ∧ w'.cell? ⟨ab, ao + k * 11 + 4, none⟩ = some (.int .i64 a.c.nd) ∧ w'.cell? ⟨ab, ao + k * 11 + 5, none⟩ = some (.int .i64 a.c.ep) ∧ w'.cell? ⟨ab, ao + k * 11 + 6, none⟩ = some (.int .i64 a.c.n) ∧ w'.cell? ⟨ab, ao + k * 11 + 7, none⟩ = some (.string ⟨a.c.fd.toArray⟩) ∧ w'.cell? ⟨ab, ao + k * 11 + 8, none⟩ = some (.string ⟨a.c.id.toArray⟩) ∧ w'.cell? ⟨ab, ao + k * 11 + 9, none⟩ = some (a.iv) ∧ w'.cell? ⟨ab, ao + k * 11 + 10, none⟩ = some (.bool a.c.fl))
        (exact HROW.out _ (by assumption))
        (first
          | (go_at_call 29; refine (HSM.out).mono ?_; rintro e w7 ⟨rfl, ho7⟩; have oW7 : Only [] W w7 := oW6.tr ho7)
          | (go_at_call 20; refine (CD.out w5 pb Kb HB5.out).mono ?_; intro e w6 hd6; obtain ⟨pv6, K6, he6, hp6, hA6, ho6, hN6, hk6, PA6, pc6, rfl⟩ := hd6.of; have he6 : e = .returned (.agg #[.int .i64 r.er, .int .i64 r.n, .slice PA6 r.ps.length pc6]) := he6; subst he6; have oW6 : Only [] W w6 := hA6.ho; have HB6 := Lib.hid hA6; have HD6 : Hid (∀ x ∈ K5, x ∉ K6) := Lib.hid (fun x hx hm => (hN6 x hm).elim (HD5.out x hx) (fun e => by have := HA5.out.at_.bw x hx; omega)); have HA6 : Hid (AgW W w6 pa K5 (0 + k + 1) st2) := Lib.hid (HA5.out.far ho6 (fun x hx => ⟨fun hm => HD5.out x hm hx, HB5.out.lo x hx⟩)); have HSM : Hid (Calls Tryz.prog 29 #[.agg #[.int .i64 r.er, .int .i64 r.n, .slice PA5 r.ps.length pc5], .agg #[.int .i64 r.er, .int .i64 r.n, .slice PA6 r.ps.length pc6]] w6 fun e w' => e = .returned (.bool true) ∧ Only [] w6 w') := Lib.hid (same19_eq _ _ r w6 (HP5.out.1.past' ho6 HP5.out.2) hp6.1); clear hd6 hp6 ho6 hN6 hk6 hA6)
          | (go_at_call 20; refine (CD.out wq.drew pa Ka HAd.out).mono ?_; intro e w5 hd5; obtain ⟨pv5, K5, he5, hp5, hg5, hA5, ho5, hN5, hk5⟩ := hd5; obtain ⟨PA5, pc5, rfl⟩ := hp5.ps.shape; have he5 : e = .returned (.agg #[.int .i64 r.er, .int .i64 r.n, .slice PA5 r.ps.length pc5]) := he5; subst he5; have oW5 : Only [] W w5 := hA5.ho; have HA5 := Lib.hid hA5; have HB5 : Hid (AgW W w5 pb Kb (0 + k) st) := Lib.hid (HBd.out.far ho5 (fun x hx => ⟨fun hm => HD.out x hx hm, HAd.out.lo x hx⟩)); have HD5 : Hid (∀ x ∈ K5, x ∉ Kb) := Lib.hid (fun x hx hm => (hN5 x hx).elim (fun e => HD.out x e hm) (fun e => by have := HBd.out.at_.bw x hm; omega)); have HP5 : Hid (RpAt w5 (.slice PA5 r.ps.length pc5) r ∧ (0 < r.ps.length → ∀ g, (Value.slice PA5 r.ps.length pc5).ownBlock = some g → g ∉ Kb)) := Lib.hid ⟨hp5, fun h0 g hg hm => by have := (hg5 h0 g hg).1; have := HBd.out.at_.bw g hm; omega⟩; clear hp5 hg5 ho5 hN5 hk5 hA5))
      all_goals
        have HA7 : Hid (AgW W w7 pa K5 (0 + (k + 1)) (runB AgS.new (l.take (k + 1)))) := Lib.hid (by rw [HT.out]; exact HA6.out.read ho7)
        have HB7 : Hid (AgW W w7 pb K6 (0 + (k + 1)) (runB AgS.new (l.take (k + 1)))) := Lib.hid (by rw [HT.out]; exact HB6.out.read ho7)
        clear ho7 oW7 oW6 oW5 oWd HSM CD HROW
      all_goals
        go_wp2_with fail
        go_roundw
        case rel => exact ⟨k + 1, K5, K6, by omega, by go_num, HA7, HB7, HD6⟩
        case measure => simp [intOf]; omega
    · have hdd : decide ((k : Int) < (l.length : Int)) = false := by simp; omega
      obtain rfl : k = l.length := by omega
      rw [List.take_length] at HA HB
      obtain ⟨a0, ha0⟩ : ∃ a0, runB AgS.new l = a0 := ⟨_, rfl⟩
      rw [ha0] at HA HB
      clear ha0
      have hn801 := HM1.out.n
      have hsj := HA.out.at_.sj HA.out.i
      have hun := unAg_of HA.out.i (by omega) hsj
      have hle := agB_le HA.out.i (by omega) hsj
      have CL := Lib.hid (fun w' => ag_load (agB a0) w' (by omega))
      have CA := Lib.hid (fun w' (ho : Only [] wq w') => agw_save (by omega) (HA.out.read ho))
      have CB := Lib.hid (fun w' (ho : Only [] wq w') => agw_save (by omega) (HB.out.read ho))
      have HUN := Lib.hid hun
      obtain ⟨X, hX⟩ : ∃ X, agB a0 = X := ⟨_, rfl⟩
      have HXE := Lib.hid hX
      rw [hX] at CA CB CL HUN
      clear hX hn801 hsj hun hle
      go_wp2_with fail
      refine (CA.out wq (Only.refl _ _)).mono ?_
      rintro e w5 ⟨rfl, ho5⟩
      have HO5 := Lib.hid ho5
      clear ho5
      go_wp2_with fail
      refine (CL.out _).mono ?_
      rintro e w6 ⟨ho6, hu6⟩
      rw [HUN.out] at hu6
      obtain ⟨pc, Kc, rfl, hC6, hl6⟩ := hu6
      have HO6 := Lib.hid (HO5.out.tr ho6)
      have HC6 : Hid (AgW W w6 pc Kc (0 + l.length) a0) := Lib.hid ⟨hC6, HA.out.ho.tr HO6.out, fun x hx => by have := hl6 x hx; have := HO5.out.size; have := HA.out.ho.size; omega, HA.out.i⟩
      have HDC : Hid (∀ x ∈ Ka, x ∉ Kc) := Lib.hid (fun x hx hm => by have := HA.out.at_.bw x hx; have := hl6 x hm; have := HO5.out.size; omega)
      have CC := Lib.hid (fun w' (ho : Only [] w6 w') => agw_save (by have := HM1.out.n; omega) (HC6.out.read ho))
      rw [HXE.out] at CC
      clear hC6 hl6 ho6 CL
      have hnx : (X != X) = false := by simp
      go_wp2_with fail
      refine (CA.out _ HO6.out).mono ?_
      rintro e w7 ⟨rfl, ho7⟩
      have HO7 := Lib.hid (HO6.out.tr ho7)
      have HP7 := Lib.hid ho7
      clear ho7
      go_wp2_with fail
      refine (CB.out _ HO7.out).mono ?_
      rintro e w8 ⟨rfl, ho8⟩
      have HO8 := Lib.hid (HO7.out.tr ho8)
      have HP8 := Lib.hid (HP7.out.tr ho8)
      clear ho8
      go_wp2_with fail
      refine (CC.out _ HP8.out).mono ?_
      rintro e w9 ⟨rfl, ho9⟩
      have HO9 := Lib.hid (HO8.out.tr ho9)
      have HP9 := Lib.hid (HP8.out.tr ho9)
      clear ho9
      go_wp2_with fail
      refine (CA.out _ HO9.out).mono ?_
      rintro e w10 ⟨rfl, ho10⟩
      have HA10 : Hid (AgW W w10 pa Ka (0 + l.length + 0) (runB a0 (m.take 0))) := Lib.hid (HA.out.read (HO9.out.tr ho10))
      have HC10 : Hid (AgW W w10 pc Kc (0 + l.length + 0) (runB a0 (m.take 0))) := Lib.hid (HC6.out.read (HP9.out.tr ho10))
      clear ho10 CA CB CC HA HB HD HO5 HO6 HO7 HO8 HO9 HP7 HP8 HP9 HC6 HXE HUN
      go_wp2_with fail
      go_loopw [14] (fun i wr => ∃ (k : Nat) (Ka Kb : List Nat), k ≤ m.length ∧ i = .int .i64 k ∧ Hid (AgW W wr pa Ka (0 + l.length + k) (runB a0 (m.take k))) ∧ Hid (AgW W wr pc Kb (0 + l.length + k) (runB a0 (m.take k))) ∧ Hid (∀ x ∈ Ka, x ∉ Kb)) (fun i _ => m.length - (intOf i).toNat)
      case atStart => exact ⟨0, _, _, by omega, rfl, HA10, HC10, HDC⟩
      case round =>
        obtain ⟨k, Ka, Kb, hk, rfl, HA, HB, HD⟩ := hrel
        obtain ⟨wq, rfl⟩ : ∃ wq, wq = wr := ⟨_, rfl⟩
        by_cases hlt : k < m.length
        · have hlt' : (k : Int) < (m.length : Int) := by omega
          obtain ⟨a, ha⟩ : ∃ a, m[k]? = some a := ⟨_, List.getElem?_eq_getElem hlt⟩
          have ham := List.mem_of_getElem? ha
          have hil : a.c.its.length ≤ 1000000 := by have := (HM2.out.al a ham).n; omega
          have hn80 := HM2.out.n
          have HT : Hid (runB a0 (m.take (k + 1)) = (doA (runB a0 (m.take k)) a.c).2) := Lib.hid (runB_step _ m k a ha)
          obtain ⟨st, hst⟩ : ∃ st, runB a0 (m.take k) = st := ⟨_, rfl⟩
          rw [hst] at HA HB HT
          obtain ⟨st2, hst2⟩ : ∃ st2, (doA st a.c).2 = st2 := ⟨_, rfl⟩
          obtain ⟨r, hr⟩ : ∃ r, (doA st a.c).1 = r := ⟨_, rfl⟩
          rw [hst2] at HT
          have HG := Lib.hid (HG2.out a ham)
          have CD : Hid (∀ (w' : World) (p : Nat) (K : List Nat), AgW W w' p K (0 + l.length + k) st → Calls Tryz.prog 20 #[.pointer (some ⟨p, 0, none⟩), .agg #[.int .i64 a.c.kd, .int .i64 a.c.ss, .int .i64 a.c.sq, .int .i64 a.c.sh, .int .i64 a.c.nd, .int .i64 a.c.ep, .int .i64 a.c.n, .string ⟨a.c.fd.toArray⟩, .string ⟨a.c.id.toArray⟩, a.iv, .bool a.c.fl]] w' fun e w2 => DoW W w' w2 p K (0 + l.length + k + 1) st2 r e) := Lib.hid (fun w' p K h => by
            have := agw_do p K st _ (by have := HM1.out.n; omega) a.c a.iv W w' h (HG.out.only h.ho) hil (itk_base HG.out h)
            rw [hst2, hr] at this
            exact this)
          obtain ⟨ab, ao, ac, hv, q0, q1, q2, q3, q4, q5, q6, q7, q8, q9, q10⟩ := cmL_at (HS2.out.only HA.out.ho (Nat.le_refl _) (by simp)) ha
          injection hv with e1 e2 e3
          subst e1; subst e3
          have HROW : Hid (∀ w', Only [] W w' → w'.cell? ⟨ab, ao + k * 11, none⟩ = some (.int .i64 a.c.kd) ∧ w'.cell? ⟨ab, ao + k * 11 + 1, none⟩ = some (.int .i64 a.c.ss) ∧ w'.cell? ⟨ab, ao + k * 11 + 2, none⟩ = some (.int .i64 a.c.sq) ∧ w'.cell? ⟨ab, ao + k * 11 + 3, none⟩ = some (.int .i64 a.c.sh) ∧ w'.cell? ⟨ab, ao + k * 11 + 4, none⟩ = some (.int .i64 a.c.nd) ∧ w'.cell? ⟨ab, ao + k * 11 + 5, none⟩ = some (.int .i64 a.c.ep) ∧ w'.cell? ⟨ab, ao + k * 11 + 6, none⟩ = some (.int .i64 a.c.n) ∧ w'.cell? ⟨ab, ao + k * 11 + 7, none⟩ = some (.string ⟨a.c.fd.toArray⟩) ∧ w'.cell? ⟨ab, ao + k * 11 + 8, none⟩ = some (.string ⟨a.c.id.toArray⟩) ∧ w'.cell? ⟨ab, ao + k * 11 + 9, none⟩ = some (a.iv) ∧ w'.cell? ⟨ab, ao + k * 11 + 10, none⟩ = some (.bool a.c.fl)) := Lib.hid (fun w' ho => by
            obtain ⟨ab', ao', ac', hv', d0, d1, d2, d3, d4, d5, d6, d7, d8, d9, d10⟩ := cmL_at (HS2.out.only ho (Nat.le_refl _) (by simp)) ha
            injection hv' with e1 e2 e3
            injection e1 with e1
            injection e1 with e4 e5
            subst e4; subst e5
            exact ⟨d0, d1, d2, d3, d4, d5, d6, d7, d8, d9, d10⟩)
          have hAd := HA.out.read ((Only.refl [] wq).drew)
          have hBd := HB.out.read ((Only.refl [] wq).drew)
          have oWd : Only [] W wq.drew := hAd.ho
          have HAd := Lib.hid hAd
          have HBd := Lib.hid hBd
          clear q0 q1 q2 q3 q4 q5 q6 q7 q8 q9 q10 hn80 ha ham hil hst hst2 hr e2 hAd hBd HG
          go_wp2_with fail
          go_region_held3 (fun w' : World => w'.cell? ⟨ab, ao + k * 11, none⟩ = some (.int .i64 a.c.kd) ∧ w'.cell? ⟨ab, ao + k * 11 + 1, none⟩ = some (.int .i64 a.c.ss) ∧ w'.cell? ⟨ab, ao + k * 11 + 2, none⟩ = some (.int .i64 a.c.sq) ∧ w'.cell? ⟨ab, ao + k * 11 + 3, none⟩ = some (.int .i64 a.c.sh) ∧ w'.cell? ⟨ab, ao + k * 11 + 4, none⟩ = some (.int .i64 a.c.nd) ∧ w'.cell? ⟨ab, ao + k * 11 + 5, none⟩ = some (.int .i64 a.c.ep) ∧ w'.cell? ⟨ab, ao + k * 11 + 6, none⟩ = some (.int .i64 a.c.n) ∧ w'.cell? ⟨ab, ao + k * 11 + 7, none⟩ = some (.string ⟨a.c.fd.toArray⟩) ∧ w'.cell? ⟨ab, ao + k * 11 + 8, none⟩ = some (.string ⟨a.c.id.toArray⟩) ∧ w'.cell? ⟨ab, ao + k * 11 + 9, none⟩ = some (a.iv) ∧ w'.cell? ⟨ab, ao + k * 11 + 10, none⟩ = some (.bool a.c.fl))
            (exact HROW.out _ (by assumption))
            (first
              | (go_at_call 29; refine (HSM.out).mono ?_; rintro e w7 ⟨rfl, ho7⟩; have oW7 : Only [] W w7 := oW6.tr ho7)
              | (go_at_call 20; refine (CD.out w5 pc Kb HB5.out).mono ?_; intro e w6 hd6; obtain ⟨pv6, K6, he6, hp6, hA6, ho6, hN6, hk6, PA6, pc6, rfl⟩ := hd6.of; have he6 : e = .returned (.agg #[.int .i64 r.er, .int .i64 r.n, .slice PA6 r.ps.length pc6]) := he6; subst he6; have oW6 : Only [] W w6 := hA6.ho; have HB6 := Lib.hid hA6; have HD6 : Hid (∀ x ∈ K5, x ∉ K6) := Lib.hid (fun x hx hm => (hN6 x hm).elim (HD5.out x hx) (fun e => by have := HA5.out.at_.bw x hx; omega)); have HA6 : Hid (AgW W w6 pa K5 (0 + l.length + k + 1) st2) := Lib.hid (HA5.out.far ho6 (fun x hx => ⟨fun hm => HD5.out x hm hx, HB5.out.lo x hx⟩)); have HSM : Hid (Calls Tryz.prog 29 #[.agg #[.int .i64 r.er, .int .i64 r.n, .slice PA5 r.ps.length pc5], .agg #[.int .i64 r.er, .int .i64 r.n, .slice PA6 r.ps.length pc6]] w6 fun e w' => e = .returned (.bool true) ∧ Only [] w6 w') := Lib.hid (same19_eq _ _ r w6 (HP5.out.1.past' ho6 HP5.out.2) hp6.1); clear hd6 hp6 ho6 hN6 hk6 hA6)
              | (go_at_call 20; refine (CD.out wq.drew pa Ka HAd.out).mono ?_; intro e w5 hd5; obtain ⟨pv5, K5, he5, hp5, hg5, hA5, ho5, hN5, hk5⟩ := hd5; obtain ⟨PA5, pc5, rfl⟩ := hp5.ps.shape; have he5 : e = .returned (.agg #[.int .i64 r.er, .int .i64 r.n, .slice PA5 r.ps.length pc5]) := he5; subst he5; have oW5 : Only [] W w5 := hA5.ho; have HA5 := Lib.hid hA5; have HB5 : Hid (AgW W w5 pc Kb (0 + l.length + k) st) := Lib.hid (HBd.out.far ho5 (fun x hx => ⟨fun hm => HD.out x hx hm, HAd.out.lo x hx⟩)); have HD5 : Hid (∀ x ∈ K5, x ∉ Kb) := Lib.hid (fun x hx hm => (hN5 x hx).elim (fun e => HD.out x e hm) (fun e => by have := HBd.out.at_.bw x hm; omega)); have HP5 : Hid (RpAt w5 (.slice PA5 r.ps.length pc5) r ∧ (0 < r.ps.length → ∀ g, (Value.slice PA5 r.ps.length pc5).ownBlock = some g → g ∉ Kb)) := Lib.hid ⟨hp5, fun h0 g hg hm => by have := (hg5 h0 g hg).1; have := HBd.out.at_.bw g hm; omega⟩; clear hp5 hg5 ho5 hN5 hk5 hA5))
          all_goals
            have HA7 : Hid (AgW W w7 pa K5 (0 + l.length + (k + 1)) (runB a0 (m.take (k + 1)))) := Lib.hid (by rw [HT.out]; exact HA6.out.read ho7)
            have HB7 : Hid (AgW W w7 pc K6 (0 + l.length + (k + 1)) (runB a0 (m.take (k + 1)))) := Lib.hid (by rw [HT.out]; exact HB6.out.read ho7)
            clear ho7 oW7 oW6 oW5 oWd HSM CD HROW
          all_goals
            go_wp2_with fail
            go_roundw
            case rel => exact ⟨k + 1, K5, K6, by omega, by go_num, HA7, HB7, HD6⟩
            case measure => simp [intOf]; omega
        · have hdd : decide ((k : Int) < (m.length : Int)) = false := by simp; omega
          obtain rfl : k = m.length := by omega
          rw [List.take_length] at HA HB
          have hn801 := HM1.out.n
          have hn802 := HM2.out.n
          have CA := Lib.hid (agw_save (by omega) HA.out)
          have CC := Lib.hid (fun w' (ho : Only [] wq w') => agw_save (by omega) (HB.out.read ho))
          obtain ⟨X, hX⟩ : ∃ X, agB (runB a0 m) = X := ⟨_, rfl⟩
          rw [hX] at CA CC
          clear hX hn801 hn802
          go_wp2_with fail
          refine CA.out.mono ?_
          rintro e w8 ⟨rfl, ho8⟩
          have HO8 := Lib.hid ho8
          go_wp2_with fail
          refine (CC.out _ HO8.out).mono ?_
          rintro e w9 ⟨rfl, ho9⟩
          have HF := Lib.hid (HA.out.ho.tr (HO8.out.tr ho9))
          clear ho8 ho9
          go_wp2_with fail
          go_ret
          exact ⟨by simp, HF.out⟩

end Go.Proofs.YtcjfmildalappaaGreat
