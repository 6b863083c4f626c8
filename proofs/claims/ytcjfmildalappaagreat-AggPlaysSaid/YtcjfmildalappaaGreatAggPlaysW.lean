/-
  The walk over AggPlays: the automaton and the document's answer the same and are alike. (Printed by gen_agplays.py.)
-/
import Derived.Test.YtcjfmildalappaaGreatK23aa
import Derived.Test.YtcjfmildalappaaGreatK23al
import Derived.Test.YtcjfmildalappaaGreatK23av
import Derived.Test.YtcjfmildalappaaGreatK23ax
set_option linter.all false
namespace Go.Proofs.YtcjfmildalappaaGreat
open Go.RowKit
theorem unC_pk {c : Cm} (h : rightB c = true) : unC (pkS c) = some c := by
  have e : pkS c = cmdb c := by unfold pkS; rw [if_pos h]
  rw [e]
  exact (unC_iff _ (by have := right_short h; omega) c).2 ⟨h, rfl⟩
theorem apA_right {c : Cm} {a : AgS} (h : rightB c = true) : apA (pkS c) a = (rpb (doA a c).1, (doA a c).2) := by
  unfold apA
  rw [unC_pk h]
set_option maxRecDepth 100000 in
set_option maxHeartbeats 16000000 in
theorem aggPlays_walk (W : World) (v0 : Value) (l : List C19) (s0 : SlAt W W.heap.size v0 11 l.length (cmL l)) (g0 : ∀ a ∈ l, CmAt W a.iv a.c) (B1 : ByteArray) (hB1 : B1.size ≤ maxLen) (B2 : ByteArray) (hB2 : B2.size ≤ maxLen) (n3 : Int) (wn3 : (Lit.int .i64 n3).wf = true) :
    Calls Tryz.prog 7 #[v0, .string B1, .string B2, .int .i64 n3] W fun e W' => e = .returned (.bool true) ∧ Only [] W W' := by
  obtain ⟨S1, rfl, h1'⟩ := str_of B1
  obtain ⟨S2, rfl, h2'⟩ := str_of B2
  obtain ⟨LA1, lc1, rfl⟩ := s0.shape
  have HS1 := Lib.hid s0
  have HG1 := Lib.hid g0
  have CS1 := Lib.hid (fun w' (ho : Only [] W w') => small19 (.slice LA1 l.length lc1) l w' ((s0.only ho (Nat.le_refl _) (by simp)).more ho.size) (fun a ha => (g0 a ha).only ho))
  have hll1 := sl_len s0
  unfold maxLen at hll1
  clear s0 g0
  have C0 := Lib.hid (shown19 W)
  go_enter Tryz.func7, Tryz.ntmps7
  go_wp2_with fail
  refine C0.out.mono ?_
  rintro e w1 ⟨rfl, ho1⟩
  have HO1 := Lib.hid ho1
  clear ho1 C0
  go_wp2_with fail
  refine (CS1.out _ HO1.out).mono ?_
  rintro e w2 ⟨ok1, rfl, hok, how⟩
  have HO := Lib.hid (HO1.out.tr how)
  have HMo1 := Lib.hid hok
  clear how hok
  cases ok1 with
  | false =>
    go_wp2_with fail
    go_ret
    exact ⟨rfl, HO.out⟩
  | true =>
  by_cases hS1 : 3000 < S1.length
  · have hd : decide ((3000 : Int) < (S1.length : Int)) = true := by simp; omega
    go_wp2_with fail
    go_ret
    exact ⟨rfl, HO.out⟩
  have hd1 : decide ((3000 : Int) < (S1.length : Int)) = false := by simp; omega
  by_cases hS2 : 300 < S2.length
  · have hd : decide ((300 : Int) < (S2.length : Int)) = true := by simp; omega
    go_wp2_with fail
    go_ret
    exact ⟨rfl, HO.out⟩
  have hd2 : decide ((300 : Int) < (S2.length : Int)) = false := by simp; omega
  have HM1 := Lib.hid (HMo1.out rfl)
  have hn80' := HM1.out.n
  clear HMo1
  go_wp2_with fail
  refine (agw_new W _ HO.out).mono ?_
  rintro e wn ⟨pa, Ka0, rfl, hA0, _, ho0⟩
  have HA0 := Lib.hid hA0
  have HOn := Lib.hid (HO.out.tr ho0)
  clear hA0 ho0
  go_wp2_with fail
  refine (rgw_new W _ HOn.out).mono ?_
  rintro e wm ⟨pb, Kb0, rfl, hB0, hl0, ho0⟩
  have HA1 : Hid (AgW W wm pa Ka0 (0 + 0) (runB AgS.new (l.take 0))) := Lib.hid (HA0.out.read ho0)
  have HB1 : Hid (RgW W wm pb Kb0 (0 + 0) (runB AgS.new (l.take 0))) := Lib.hid hB0
  have HD1 : Hid (∀ x ∈ Ka0, x ∉ Kb0) := Lib.hid (fun x hx hm => by have := HA0.out.at_.bw x hx; have := hl0 x hm; omega)
  clear hB0 ho0 hl0 HA0
  go_wp2_with fail
  go_loopw [13] (fun i wr => ∃ (k : Nat) (Ka Kb : List Nat), k ≤ l.length ∧ i = .int .i64 k ∧ Hid (AgW W wr pa Ka (0 + k) (runB AgS.new (l.take k))) ∧ Hid (RgW W wr pb Kb (0 + k) (runB AgS.new (l.take k))) ∧ Hid (∀ x ∈ Ka, x ∉ Kb)) (fun i _ => l.length - (intOf i).toNat)
  case atStart => exact ⟨0, _, _, by omega, rfl, HA1, HB1, HD1⟩
  case round =>
    obtain ⟨k, Ka, Kb, hk, rfl, HA, HB, HD⟩ := hrel
    obtain ⟨wq, rfl⟩ : ∃ wq, wq = wr := ⟨_, rfl⟩
    by_cases hlt : k < l.length
    · have hlt' : (k : Int) < (l.length : Int) := by omega
      obtain ⟨a, ha⟩ : ∃ a, l[k]? = some a := ⟨_, List.getElem?_eq_getElem hlt⟩
      have ham := List.mem_of_getElem? ha
      have HSM1 := Lib.hid (HM1.out.al a ham).sm
      have hil : a.c.its.length ≤ 1000000 := by have := (HM1.out.al a ham).n; omega
      have hn80 := HM1.out.n
      have HT : Hid (runB AgS.new (l.take (k + 1)) = (doA (runB AgS.new (l.take k)) a.c).2) := Lib.hid (runB_step _ l k a ha)
      obtain ⟨st, hst⟩ : ∃ st, runB AgS.new (l.take k) = st := ⟨_, rfl⟩
      rw [hst] at HA HB HT
      obtain ⟨st2, hst2⟩ : ∃ st2, (doA st a.c).2 = st2 := ⟨_, rfl⟩
      obtain ⟨r, hr⟩ : ∃ r, (doA st a.c).1 = r := ⟨_, rfl⟩
      rw [hst2] at HT
      have HG := Lib.hid (HG1.out a ham)
      have CD : Hid (∀ (w' : World) (p : Nat) (K : List Nat), AgW W w' p K (0 + k) st → Calls Tryz.prog 20 #[.pointer (some ⟨p, 0, none⟩), .agg #[.int .i64 a.c.kd, .int .i64 a.c.ss, .int .i64 a.c.sq, .int .i64 a.c.sh, .int .i64 a.c.nd, .int .i64 a.c.ep, .int .i64 a.c.n, .string ⟨a.c.fd.toArray⟩, .string ⟨a.c.id.toArray⟩, a.iv, .bool a.c.fl]] w' fun e w2 => DoW W w' w2 p K (0 + k + 1) st2 r e) := Lib.hid (fun w' p K h => by
        have := agw_do p K st _ (by omega) a.c a.iv W w' h (HG.out.only h.ho) hil (itk_base HG.out h)
        rw [hst2, hr] at this
        exact this)
      have CG : Hid (∀ (w' : World) (p : Nat) (K : List Nat), RgW W w' p K (0 + k) st → Calls Tryz.prog 36 #[.pointer (some ⟨p, 0, none⟩), .agg #[.int .i64 a.c.kd, .int .i64 a.c.ss, .int .i64 a.c.sq, .int .i64 a.c.sh, .int .i64 a.c.nd, .int .i64 a.c.ep, .int .i64 a.c.n, .string ⟨a.c.fd.toArray⟩, .string ⟨a.c.id.toArray⟩, a.iv, .bool a.c.fl]] w' fun e w2 => DgW W w' w2 p K (0 + k + 1) st2 r e) := Lib.hid (fun w' p K h => by
        have := rgw_do p K st _ (by omega) a.c a.iv W w' h (HG.out.only h.ho) HSM1.out (itk_baseG HG.out h)
        rw [hst2, hr] at this
        exact this)
      have CPK : Hid (∀ w', Only [] W w' → Calls Tryz.prog 33 #[.agg #[.int .i64 a.c.kd, .int .i64 a.c.ss, .int .i64 a.c.sq, .int .i64 a.c.sh, .int .i64 a.c.nd, .int .i64 a.c.ep, .int .i64 a.c.n, .string ⟨a.c.fd.toArray⟩, .string ⟨a.c.id.toArray⟩, a.iv, .bool a.c.fl]] w' fun e w2 => e = .returned (.tuple #[.string ⟨(pkS a.c).toArray⟩, .int .i64 (pkE a.c)]) ∧ Only [] w' w2) := Lib.hid (fun w' ho => ref18_pack a.c a.iv w' (HG.out.only ho) HSM1.out)
      have CAP : Hid (∀ (w' : World) (p : Nat) (K : List Nat), rightB a.c = true → AgW W w' p K (0 + k) st → Calls Tryz.prog 34 #[.pointer (some ⟨p, 0, none⟩), .string ⟨(pkS a.c).toArray⟩] w' fun e w2 => ApW W w' w2 p K (0 + k + 1) (rpb r, st2) e) := Lib.hid (fun w' p K hrt h => by
        have := agw_apply p K st _ (by omega) (pkS a.c) (pkS_short a.c) W w' h
        rw [apA_right hrt, hst2, hr] at this
        exact this)
      have CGP : Hid (∀ (w' : World) (p : Nat) (K : List Nat), rightB a.c = true → RgW W w' p K (0 + k) st → Calls Tryz.prog 35 #[.pointer (some ⟨p, 0, none⟩), .string ⟨(pkS a.c).toArray⟩] w' fun e w2 => ApG W w' w2 p K (0 + k + 1) (rpb r, st2) e) := Lib.hid (fun w' p K hrt h => by
        have := rgw_apply p K st _ (by omega) (pkS a.c) (pkS_short a.c) W w' h
        rw [apA_right hrt, hst2, hr] at this
        exact this)
      obtain ⟨ab, ao, ac, hv, q0, q1, q2, q3, q4, q5, q6, q7, q8, q9, q10⟩ := cmL_at (HS1.out.only HA.out.ho (Nat.le_refl _) (by simp)) ha
      injection hv with e1 e2 e3
      subst e1; subst e3
      have HROW : Hid (∀ w', Only [] W w' → w'.cell? ⟨ab, ao + k * 11, none⟩ = some (.int .i64 a.c.kd) ∧ w'.cell? ⟨ab, ao + k * 11 + 1, none⟩ = some (.int .i64 a.c.ss) ∧ w'.cell? ⟨ab, ao + k * 11 + 2, none⟩ = some (.int .i64 a.c.sq) ∧ w'.cell? ⟨ab, ao + k * 11 + 3, none⟩ = some (.int .i64 a.c.sh) ∧ w'.cell? ⟨ab, ao + k * 11 + 4, none⟩ = some (.int .i64 a.c.nd) ∧ w'.cell? ⟨ab, ao + k * 11 + 5, none⟩ = some (.int .i64 a.c.ep) ∧ w'.cell? ⟨ab, ao + k * 11 + 6, none⟩ = some (.int .i64 a.c.n) ∧ w'.cell? ⟨ab, ao + k * 11 + 7, none⟩ = some (.string ⟨a.c.fd.toArray⟩) ∧ w'.cell? ⟨ab, ao + k * 11 + 8, none⟩ = some (.string ⟨a.c.id.toArray⟩) ∧ w'.cell? ⟨ab, ao + k * 11 + 9, none⟩ = some (a.iv) ∧ w'.cell? ⟨ab, ao + k * 11 + 10, none⟩ = some (.bool a.c.fl)) := Lib.hid (fun w' ho => by
        obtain ⟨ab', ao', ac', hv', d0, d1, d2, d3, d4, d5, d6, d7, d8, d9, d10⟩ := cmL_at (HS1.out.only ho (Nat.le_refl _) (by simp)) ha
        injection hv' with e1 e2 e3
        injection e1 with e1
        injection e1 with e4 e5
        subst e4; subst e5
        exact ⟨d0, d1, d2, d3, d4, d5, d6, d7, d8, d9, d10⟩)
      clear ha ham hil hst hst2 hr e2 HG HSM1
      go_wp2_with fail
      refine (CPK.out wq HA.out.ho).mono ?_
      rintro e w5 ⟨rfl, ho5⟩
      clear q0 q1 q2 q3 q4 q5 q6 q7 q8 q9 q10 CPK
      have HA5 := Lib.hid (HA.out.read ho5)
      have HB5 := Lib.hid (HB.out.read ho5)
      clear ho5 HA HB
      obtain ⟨ps, hps⟩ : ∃ s, pkS a.c = s := ⟨_, rfl⟩
      rw [hps] at CAP CGP ⊢
      clear hps
      by_cases hrt : rightB a.c = true
      · have hee : pkE a.c = 0 := by unfold pkE; rw [if_pos hrt]
        rw [hee]
        have CAP := Lib.hid (fun w' p K => CAP.out w' p K hrt)
        have CGP := Lib.hid (fun w' p K => CGP.out w' p K hrt)
        clear hee hrt
        by_cases hev : (k : Int) % 2 = 0
        · have hev2 : ((k : Int) % 2 == 0) = true := by simp [hev]
          have hxx : (rpb r != rpb r) = false := by simp
          go_wp2_with fail
          refine (CAP.out w5 pa Ka HA5.out).mono ?_
          rintro e w6 ⟨K5, rfl, hA6, ho6, hN6⟩
          have HA6 := Lib.hid hA6
          have HB6 := Lib.hid (HB5.out.far ho6 (fun x hx => ⟨fun hm => HD.out x hx hm, HA5.out.lo x hx⟩))
          have HD6 : Hid (∀ x ∈ K5, x ∉ Kb) := Lib.hid (fun x hx hm => (hN6 x hx).elim (fun e => HD.out x e hm) (fun e => by have := HB5.out.at_.bw x hm; omega))
          clear hA6 ho6 hN6 CAP
          go_wp2_with fail
          refine (CGP.out w6 pb Kb HB6.out).mono ?_
          rintro e w7 ⟨K6, rfl, hB7, ho7, hN7⟩
          have HB7 : Hid (RgW W w7 pb K6 (0 + (k + 1)) (runB AgS.new (l.take (k + 1)))) := Lib.hid (by rw [HT.out]; exact hB7)
          have HA7 : Hid (AgW W w7 pa K5 (0 + (k + 1)) (runB AgS.new (l.take (k + 1)))) := Lib.hid (by rw [HT.out]; exact HA6.out.far ho7 (fun x hx => ⟨fun hm => HD6.out x hm hx, HB6.out.lo x hx⟩))
          have HD7 : Hid (∀ x ∈ K5, x ∉ K6) := Lib.hid (fun x hx hm => (hN7 x hm).elim (HD6.out x hx) (fun e => by have := HA6.out.at_.bw x hx; omega))
          clear hB7 ho7 hN7 CGP HA5 HB5 HA6 HB6 HD6 HD CD CG HROW HT
          go_wp2_with fail
          go_roundw
          case rel => exact ⟨k + 1, K5, K6, by omega, by go_num, HA7, HB7, HD7⟩
          case measure => simp [intOf]; omega
        · have hev2 : ((k : Int) % 2 == 0) = false := by simpa using hev
          (try rw [hee])
          have hAd := HA5.out.read ((Only.refl [] w5).drew)
          have hBd := HB5.out.read ((Only.refl [] w5).drew)
          have oWd : Only [] W w5.drew := hAd.ho
          have HAd := Lib.hid hAd
          have HBd := Lib.hid hBd
          clear hAd hBd CAP CGP
          obtain ⟨q0, q1, q2, q3, q4, q5, q6, q7, q8, q9, q10⟩ := HROW.out w5 HA5.out.ho
          clear q0 q1 q2 q3 q4 q5 q6 q7 q8 q9 q10
          go_wp2_with fail
          go_region_held3 (fun w' : World => w'.cell? ⟨ab, ao + k * 11, none⟩ = some (.int .i64 a.c.kd) ∧ w'.cell? ⟨ab, ao + k * 11 + 1, none⟩ = some (.int .i64 a.c.ss) ∧ w'.cell? ⟨ab, ao + k * 11 + 2, none⟩ = some (.int .i64 a.c.sq) ∧ w'.cell? ⟨ab, ao + k * 11 + 3, none⟩ = some (.int .i64 a.c.sh) ∧ w'.cell? ⟨ab, ao + k * 11 + 4, none⟩ = some (.int .i64 a.c.nd) ∧ w'.cell? ⟨ab, ao + k * 11 + 5, none⟩ = some (.int .i64 a.c.ep) ∧ w'.cell? ⟨ab, ao + k * 11 + 6, none⟩ = some (.int .i64 a.c.n) ∧ w'.cell? ⟨ab, ao + k * 11 + 7, none⟩ = some (.string ⟨a.c.fd.toArray⟩) ∧ w'.cell? ⟨ab, ao + k * 11 + 8, none⟩ = some (.string ⟨a.c.id.toArray⟩) ∧ w'.cell? ⟨ab, ao + k * 11 + 9, none⟩ = some (a.iv) ∧ w'.cell? ⟨ab, ao + k * 11 + 10, none⟩ = some (.bool a.c.fl))
            (exact HROW.out _ (by assumption))
            (first
              | (go_at_call 29; refine (HSM.out).mono ?_; rintro e u7 ⟨rfl, ho7⟩; have oW7 : Only [] W u7 := oW6.tr ho7)
              | (go_at_call 36; refine (CG.out u5 pb Kb HB5x.out).mono ?_; intro e u6 hd6; obtain ⟨pv6, K6, he6, hp6, hg6, hA6, ho6, hN6, hk6⟩ := hd6; obtain ⟨PA6, pc6, rfl⟩ := hp6.ps.shape; have he6 : e = .returned (.agg #[.int .i64 r.er, .int .i64 r.n, .slice PA6 r.ps.length pc6]) := he6; subst he6; have oW6 : Only [] W u6 := hA6.ho; have HB6 := Lib.hid hA6; have HD6 : Hid (∀ x ∈ K5, x ∉ K6) := Lib.hid (fun x hx hm => (hN6 x hm).elim (HD5.out x hx) (fun e => by have := HA5x.out.at_.bw x hx; omega)); have HA6 : Hid (AgW W u6 pa K5 (0 + k + 1) st2) := Lib.hid (HA5x.out.far ho6 (fun x hx => ⟨fun hm => HD5.out x hm hx, HB5x.out.lo x hx⟩)); have HSM : Hid (Calls Tryz.prog 29 #[.agg #[.int .i64 r.er, .int .i64 r.n, .slice PA5 r.ps.length pc5], .agg #[.int .i64 r.er, .int .i64 r.n, .slice PA6 r.ps.length pc6]] u6 fun e w' => e = .returned (.bool true) ∧ Only [] u6 w') := Lib.hid (same19_eq _ _ r u6 (HP5.out.1.past' ho6 HP5.out.2) hp6); clear hg6 hp6 ho6 hN6 hk6 hA6)
              | (go_at_call 20; refine (CD.out w5.drew pa Ka HAd.out).mono ?_; intro e u5 hd5; obtain ⟨pv5, K5, he5, hp5, hg5, hA5, ho5, hN5, hk5⟩ := hd5; obtain ⟨PA5, pc5, rfl⟩ := hp5.ps.shape; have he5 : e = .returned (.agg #[.int .i64 r.er, .int .i64 r.n, .slice PA5 r.ps.length pc5]) := he5; subst he5; have oW5 : Only [] W u5 := hA5.ho; have HA5x := Lib.hid hA5; have HB5x : Hid (RgW W u5 pb Kb (0 + k) st) := Lib.hid (HBd.out.far ho5 (fun x hx => ⟨fun hm => HD.out x hx hm, HAd.out.lo x hx⟩)); have HD5 : Hid (∀ x ∈ K5, x ∉ Kb) := Lib.hid (fun x hx hm => (hN5 x hx).elim (fun e => HD.out x e hm) (fun e => by have := HBd.out.at_.bw x hm; omega)); have HP5 : Hid (RpAt u5 (.slice PA5 r.ps.length pc5) r ∧ (0 < r.ps.length → ∀ g, (Value.slice PA5 r.ps.length pc5).ownBlock = some g → g ∉ Kb)) := Lib.hid ⟨hp5, fun h0 g hg hm => by have := (hg5 h0 g hg).1; have := HBd.out.at_.bw g hm; omega⟩; clear hp5 hg5 ho5 hN5 hk5 hA5))
          all_goals
            have HA7 : Hid (AgW W u7 pa K5 (0 + (k + 1)) (runB AgS.new (l.take (k + 1)))) := Lib.hid (by rw [HT.out]; exact HA6.out.read ho7)
            have HB7 : Hid (RgW W u7 pb K6 (0 + (k + 1)) (runB AgS.new (l.take (k + 1)))) := Lib.hid (by rw [HT.out]; exact HB6.out.read ho7)
            clear ho7 oW7 oW6 oW5 oWd HSM CD CG HROW
          all_goals
            go_wp2_with fail
            go_roundw
            case rel => exact ⟨k + 1, K5, K6, by omega, by go_num, HA7, HB7, HD6⟩
            case measure => simp [intOf]; omega
      · have hee : pkE a.c = 1 := by unfold pkE; rw [if_neg hrt]
        rw [hee]
        clear hee
        by_cases hev : (k : Int) % 2 = 0
        · have hev2 : ((k : Int) % 2 == 0) = true := by simp [hev]
          (try rw [hee])
          have hAd := HA5.out.read ((Only.refl [] w5).drew)
          have hBd := HB5.out.read ((Only.refl [] w5).drew)
          have oWd : Only [] W w5.drew := hAd.ho
          have HAd := Lib.hid hAd
          have HBd := Lib.hid hBd
          clear hAd hBd CAP CGP
          obtain ⟨q0, q1, q2, q3, q4, q5, q6, q7, q8, q9, q10⟩ := HROW.out w5 HA5.out.ho
          clear q0 q1 q2 q3 q4 q5 q6 q7 q8 q9 q10
          go_wp2_with fail
          go_region_held3 (fun w' : World => w'.cell? ⟨ab, ao + k * 11, none⟩ = some (.int .i64 a.c.kd) ∧ w'.cell? ⟨ab, ao + k * 11 + 1, none⟩ = some (.int .i64 a.c.ss) ∧ w'.cell? ⟨ab, ao + k * 11 + 2, none⟩ = some (.int .i64 a.c.sq) ∧ w'.cell? ⟨ab, ao + k * 11 + 3, none⟩ = some (.int .i64 a.c.sh) ∧ w'.cell? ⟨ab, ao + k * 11 + 4, none⟩ = some (.int .i64 a.c.nd) ∧ w'.cell? ⟨ab, ao + k * 11 + 5, none⟩ = some (.int .i64 a.c.ep) ∧ w'.cell? ⟨ab, ao + k * 11 + 6, none⟩ = some (.int .i64 a.c.n) ∧ w'.cell? ⟨ab, ao + k * 11 + 7, none⟩ = some (.string ⟨a.c.fd.toArray⟩) ∧ w'.cell? ⟨ab, ao + k * 11 + 8, none⟩ = some (.string ⟨a.c.id.toArray⟩) ∧ w'.cell? ⟨ab, ao + k * 11 + 9, none⟩ = some (a.iv) ∧ w'.cell? ⟨ab, ao + k * 11 + 10, none⟩ = some (.bool a.c.fl))
            (exact HROW.out _ (by assumption))
            (first
              | (go_at_call 29; refine (HSM.out).mono ?_; rintro e u7 ⟨rfl, ho7⟩; have oW7 : Only [] W u7 := oW6.tr ho7)
              | (go_at_call 36; refine (CG.out u5 pb Kb HB5x.out).mono ?_; intro e u6 hd6; obtain ⟨pv6, K6, he6, hp6, hg6, hA6, ho6, hN6, hk6⟩ := hd6; obtain ⟨PA6, pc6, rfl⟩ := hp6.ps.shape; have he6 : e = .returned (.agg #[.int .i64 r.er, .int .i64 r.n, .slice PA6 r.ps.length pc6]) := he6; subst he6; have oW6 : Only [] W u6 := hA6.ho; have HB6 := Lib.hid hA6; have HD6 : Hid (∀ x ∈ K5, x ∉ K6) := Lib.hid (fun x hx hm => (hN6 x hm).elim (HD5.out x hx) (fun e => by have := HA5x.out.at_.bw x hx; omega)); have HA6 : Hid (AgW W u6 pa K5 (0 + k + 1) st2) := Lib.hid (HA5x.out.far ho6 (fun x hx => ⟨fun hm => HD5.out x hm hx, HB5x.out.lo x hx⟩)); have HSM : Hid (Calls Tryz.prog 29 #[.agg #[.int .i64 r.er, .int .i64 r.n, .slice PA5 r.ps.length pc5], .agg #[.int .i64 r.er, .int .i64 r.n, .slice PA6 r.ps.length pc6]] u6 fun e w' => e = .returned (.bool true) ∧ Only [] u6 w') := Lib.hid (same19_eq _ _ r u6 (HP5.out.1.past' ho6 HP5.out.2) hp6); clear hg6 hp6 ho6 hN6 hk6 hA6)
              | (go_at_call 20; refine (CD.out w5.drew pa Ka HAd.out).mono ?_; intro e u5 hd5; obtain ⟨pv5, K5, he5, hp5, hg5, hA5, ho5, hN5, hk5⟩ := hd5; obtain ⟨PA5, pc5, rfl⟩ := hp5.ps.shape; have he5 : e = .returned (.agg #[.int .i64 r.er, .int .i64 r.n, .slice PA5 r.ps.length pc5]) := he5; subst he5; have oW5 : Only [] W u5 := hA5.ho; have HA5x := Lib.hid hA5; have HB5x : Hid (RgW W u5 pb Kb (0 + k) st) := Lib.hid (HBd.out.far ho5 (fun x hx => ⟨fun hm => HD.out x hx hm, HAd.out.lo x hx⟩)); have HD5 : Hid (∀ x ∈ K5, x ∉ Kb) := Lib.hid (fun x hx hm => (hN5 x hx).elim (fun e => HD.out x e hm) (fun e => by have := HBd.out.at_.bw x hm; omega)); have HP5 : Hid (RpAt u5 (.slice PA5 r.ps.length pc5) r ∧ (0 < r.ps.length → ∀ g, (Value.slice PA5 r.ps.length pc5).ownBlock = some g → g ∉ Kb)) := Lib.hid ⟨hp5, fun h0 g hg hm => by have := (hg5 h0 g hg).1; have := HBd.out.at_.bw g hm; omega⟩; clear hp5 hg5 ho5 hN5 hk5 hA5))
          all_goals
            have HA7 : Hid (AgW W u7 pa K5 (0 + (k + 1)) (runB AgS.new (l.take (k + 1)))) := Lib.hid (by rw [HT.out]; exact HA6.out.read ho7)
            have HB7 : Hid (RgW W u7 pb K6 (0 + (k + 1)) (runB AgS.new (l.take (k + 1)))) := Lib.hid (by rw [HT.out]; exact HB6.out.read ho7)
            clear ho7 oW7 oW6 oW5 oWd HSM CD CG HROW
          all_goals
            go_wp2_with fail
            go_roundw
            case rel => exact ⟨k + 1, K5, K6, by omega, by go_num, HA7, HB7, HD6⟩
            case measure => simp [intOf]; omega
        · have hev2 : ((k : Int) % 2 == 0) = false := by simpa using hev
          (try rw [hee])
          have hAd := HA5.out.read ((Only.refl [] w5).drew)
          have hBd := HB5.out.read ((Only.refl [] w5).drew)
          have oWd : Only [] W w5.drew := hAd.ho
          have HAd := Lib.hid hAd
          have HBd := Lib.hid hBd
          clear hAd hBd CAP CGP
          obtain ⟨q0, q1, q2, q3, q4, q5, q6, q7, q8, q9, q10⟩ := HROW.out w5 HA5.out.ho
          clear q0 q1 q2 q3 q4 q5 q6 q7 q8 q9 q10
          go_wp2_with fail
          go_region_held3 (fun w' : World => w'.cell? ⟨ab, ao + k * 11, none⟩ = some (.int .i64 a.c.kd) ∧ w'.cell? ⟨ab, ao + k * 11 + 1, none⟩ = some (.int .i64 a.c.ss) ∧ w'.cell? ⟨ab, ao + k * 11 + 2, none⟩ = some (.int .i64 a.c.sq) ∧ w'.cell? ⟨ab, ao + k * 11 + 3, none⟩ = some (.int .i64 a.c.sh) ∧ w'.cell? ⟨ab, ao + k * 11 + 4, none⟩ = some (.int .i64 a.c.nd) ∧ w'.cell? ⟨ab, ao + k * 11 + 5, none⟩ = some (.int .i64 a.c.ep) ∧ w'.cell? ⟨ab, ao + k * 11 + 6, none⟩ = some (.int .i64 a.c.n) ∧ w'.cell? ⟨ab, ao + k * 11 + 7, none⟩ = some (.string ⟨a.c.fd.toArray⟩) ∧ w'.cell? ⟨ab, ao + k * 11 + 8, none⟩ = some (.string ⟨a.c.id.toArray⟩) ∧ w'.cell? ⟨ab, ao + k * 11 + 9, none⟩ = some (a.iv) ∧ w'.cell? ⟨ab, ao + k * 11 + 10, none⟩ = some (.bool a.c.fl))
            (exact HROW.out _ (by assumption))
            (first
              | (go_at_call 29; refine (HSM.out).mono ?_; rintro e u7 ⟨rfl, ho7⟩; have oW7 : Only [] W u7 := oW6.tr ho7)
              | (go_at_call 36; refine (CG.out u5 pb Kb HB5x.out).mono ?_; intro e u6 hd6; obtain ⟨pv6, K6, he6, hp6, hg6, hA6, ho6, hN6, hk6⟩ := hd6; obtain ⟨PA6, pc6, rfl⟩ := hp6.ps.shape; have he6 : e = .returned (.agg #[.int .i64 r.er, .int .i64 r.n, .slice PA6 r.ps.length pc6]) := he6; subst he6; have oW6 : Only [] W u6 := hA6.ho; have HB6 := Lib.hid hA6; have HD6 : Hid (∀ x ∈ K5, x ∉ K6) := Lib.hid (fun x hx hm => (hN6 x hm).elim (HD5.out x hx) (fun e => by have := HA5x.out.at_.bw x hx; omega)); have HA6 : Hid (AgW W u6 pa K5 (0 + k + 1) st2) := Lib.hid (HA5x.out.far ho6 (fun x hx => ⟨fun hm => HD5.out x hm hx, HB5x.out.lo x hx⟩)); have HSM : Hid (Calls Tryz.prog 29 #[.agg #[.int .i64 r.er, .int .i64 r.n, .slice PA5 r.ps.length pc5], .agg #[.int .i64 r.er, .int .i64 r.n, .slice PA6 r.ps.length pc6]] u6 fun e w' => e = .returned (.bool true) ∧ Only [] u6 w') := Lib.hid (same19_eq _ _ r u6 (HP5.out.1.past' ho6 HP5.out.2) hp6); clear hg6 hp6 ho6 hN6 hk6 hA6)
              | (go_at_call 20; refine (CD.out w5.drew pa Ka HAd.out).mono ?_; intro e u5 hd5; obtain ⟨pv5, K5, he5, hp5, hg5, hA5, ho5, hN5, hk5⟩ := hd5; obtain ⟨PA5, pc5, rfl⟩ := hp5.ps.shape; have he5 : e = .returned (.agg #[.int .i64 r.er, .int .i64 r.n, .slice PA5 r.ps.length pc5]) := he5; subst he5; have oW5 : Only [] W u5 := hA5.ho; have HA5x := Lib.hid hA5; have HB5x : Hid (RgW W u5 pb Kb (0 + k) st) := Lib.hid (HBd.out.far ho5 (fun x hx => ⟨fun hm => HD.out x hx hm, HAd.out.lo x hx⟩)); have HD5 : Hid (∀ x ∈ K5, x ∉ Kb) := Lib.hid (fun x hx hm => (hN5 x hx).elim (fun e => HD.out x e hm) (fun e => by have := HBd.out.at_.bw x hm; omega)); have HP5 : Hid (RpAt u5 (.slice PA5 r.ps.length pc5) r ∧ (0 < r.ps.length → ∀ g, (Value.slice PA5 r.ps.length pc5).ownBlock = some g → g ∉ Kb)) := Lib.hid ⟨hp5, fun h0 g hg hm => by have := (hg5 h0 g hg).1; have := HBd.out.at_.bw g hm; omega⟩; clear hp5 hg5 ho5 hN5 hk5 hA5))
          all_goals
            have HA7 : Hid (AgW W u7 pa K5 (0 + (k + 1)) (runB AgS.new (l.take (k + 1)))) := Lib.hid (by rw [HT.out]; exact HA6.out.read ho7)
            have HB7 : Hid (RgW W u7 pb K6 (0 + (k + 1)) (runB AgS.new (l.take (k + 1)))) := Lib.hid (by rw [HT.out]; exact HB6.out.read ho7)
            clear ho7 oW7 oW6 oW5 oWd HSM CD CG HROW
          all_goals
            go_wp2_with fail
            go_roundw
            case rel => exact ⟨k + 1, K5, K6, by omega, by go_num, HA7, HB7, HD6⟩
            case measure => simp [intOf]; omega
    · have hdd : decide ((k : Int) < (l.length : Int)) = false := by simp; omega
      obtain rfl : k = l.length := by omega
      rw [List.take_length] at HA HB
      obtain ⟨a0, ha0⟩ : ∃ a0, runB AgS.new l = a0 := ⟨_, rfl⟩
      rw [ha0] at HA HB
      have CA := Lib.hid (agw_apply pa Ka a0 (0 + l.length) (by omega) S1 (by omega) W wq HA.out)
      have CB := Lib.hid (fun w' h => rgw_apply pb Kb a0 (0 + l.length) (by omega) S1 (by omega) W w' h)
      obtain ⟨ap, hap⟩ : ∃ q, apA S1 a0 = q := ⟨_, rfl⟩
      rw [hap] at CA CB
      clear ha0 hap
      have hxx : (ap.1 == ap.1) = true := by simp
      go_wp2_with fail
      refine CA.out.mono ?_
      rintro e w6 ⟨K5, rfl, hA6, ho6, hN6⟩
      have HA6 := Lib.hid hA6
      have HB6 := Lib.hid (HB.out.far ho6 (fun x hx => ⟨fun hm => HD.out x hx hm, HA.out.lo x hx⟩))
      have HD6 : Hid (∀ x ∈ K5, x ∉ Kb) := Lib.hid (fun x hx hm => (hN6 x hx).elim (fun e => HD.out x e hm) (fun e => by have := HB.out.at_.bw x hm; omega))
      clear hA6 ho6 hN6 CA
      go_wp2_with fail
      refine (CB.out w6 HB6.out).mono ?_
      rintro e w7 ⟨K6, rfl, hB7, ho7, hN7⟩
      have HB7 := Lib.hid hB7
      have HA7 := Lib.hid (HA6.out.far ho7 (fun x hx => ⟨fun hm => HD6.out x hm hx, HB6.out.lo x hx⟩))
      have HF7 := Lib.hid hB7.ho
      have CL := Lib.hid (alike19 pa pb K5 K6 ap.2 (0 + l.length + 1) (by omega) S2 (by unfold maxLen; omega) n3 W w7 HA7.out HB7.out)
      clear hB7 ho7 hN7 CB
      go_wp2_with fail
      refine CL.out.mono ?_
      rintro e w8 ⟨rfl, ho8⟩
      have HF := Lib.hid (HF7.out.tr ho8)
      clear ho8 CL
      go_wp2_with fail
      go_ret
      exact ⟨rfl, HF.out⟩
end Go.Proofs.YtcjfmildalappaaGreat
