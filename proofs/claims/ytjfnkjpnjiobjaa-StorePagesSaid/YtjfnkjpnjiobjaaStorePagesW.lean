/-
  The walk over StorePages: pages of a feed's posts, each behind the last one's number, are all its posts, by rising numbers.
-/
import Derived.Test.YtjfnkjpnjiobjaaS17e
namespace Go.Proofs.Ytjfnkjpnjiobjaa
open Go.RowKit
theorem listS_pg (S : Sv) (k : List UInt8) (after : Int) : (listS S k after).1 = pgF (allS S k) after := by
  unfold listS allS
  cases fnd S k with
  | none => simp [pgF]
  | some f => rfl
theorem pg_nat (Q : List Po) (a : Nat) (h : a ≤ Q.length) : pgF Q (a : Int) = (Q.drop a).take 50 := by
  unfold pgF
  rw [show (max (a : Int) 0).toNat = a from by omega, Nat.min_eq_left h]
theorem pg_step (Q : List Po) (a : Nat) (h : a ≤ Q.length) : Q.take a ++ pgF Q (a : Int) = Q.take (min (a + 50) Q.length) ∧ (pgF Q (a : Int)).length = min (a + 50) Q.length - a := by
  rw [pg_nat Q a h]
  constructor
  · rw [← List.take_add]
    by_cases h1 : a + 50 ≤ Q.length
    · rw [Nat.min_eq_left h1]
    · rw [Nat.min_eq_right (by omega), List.take_of_length_le (by omega), List.take_of_length_le (by omega)]
  · rw [List.length_take, List.length_drop]; omega
theorem pg_get {Q : List Po} (h : PsOk Q) (after : Int) (i : Nat) (x : Po) (hx : (pgF Q after)[i]? = some x) : after < x.sq ∧ x.sq = ((min (max after 0).toNat Q.length : Nat) : Int) + (i : Int) + 1 ∧ x.sq ≤ 200 := by
  unfold pgF at hx
  rw [List.getElem?_take] at hx
  split at hx
  · rw [List.getElem?_drop] at hx
    have h1 := h.sq _ x hx
    have h2 := (List.getElem?_eq_some_iff.1 hx).1
    have h3 := h.n
    generalize hd : min (max after 0).toNat Q.length = d at h1 h2 ⊢
    omega
  · cases hx
theorem pg_len (Q : List Po) (after : Int) : (pgF Q after).length ≤ 50 := by
  unfold pgF
  rw [List.length_take]; omega
set_option maxRecDepth 100000 in
set_option maxHeartbeats 8000000 in
theorem storePages_walk (W : World) (v0 : Value) (l : List A17) (s0 : SlAt W W.heap.size v0 5 l.length (acL l)) (g0 : ∀ a ∈ l, a.Ok W) (feed : ByteArray) (hf0 : feed.size ≤ maxLen) (after : Int) (waf : (Lit.int .i64 after).wf = true) :
    Calls Try.prog 6 #[v0, .string feed, .int .i64 after] W fun e W' => e = .returned (.bool true) ∧ Only [] W W' := by
  obtain ⟨LA, lc, rfl⟩ := s0.shape
  obtain ⟨fd, rfl, efd⟩ := str_of feed
  rw [efd] at hf0
  clear efd
  have hf1 := hf0
  have waf := wide64_of_wf waf
  obtain ⟨wa0, wa1⟩ := waf
  unfold maxLen at hf0
  obtain ⟨i0, hi0, hz0, hz1, hz2⟩ := info_parts info_post
  have HS := Lib.hid s0
  have HG := Lib.hid g0
  have C0 := Lib.hid (shown17 W)
  have CS := Lib.hid (fun w' (ho : Only [] W w') => small17 (.slice LA l.length lc) l w' ((s0.only ho (Nat.le_refl _) (by simp)).more ho.size) (fun a ha => (g0 a ha).only ho))
  have hll := sl_len s0
  unfold maxLen at hll
  clear s0 g0
  go_enter Try.func6, Try.ntmps6
  go_wp2_with fail
  refine C0.out.mono ?_
  rintro e w1 ⟨rfl, ho1⟩
  have HO1 := Lib.hid ho1
  clear ho1 C0
  go_wp2_with fail
  refine (CS.out _ HO1.out).mono ?_
  rintro e w2 ⟨okw2, rfl, hokw2, how2⟩
  have HO := Lib.hid (HO1.out.tr how2)
  have HM := Lib.hid hokw2
  clear how2 hokw2
  cases okw2 with
  | false =>
    go_wp2_with fail
    go_ret
    exact ⟨rfl, HO.out⟩
  | true =>
  have HM1 := Lib.hid (HM.out rfl)
  clear HM
  by_cases t1 : 200 < fd.length
  · have dt1 : decide ((200 : Int) < (fd.length : Int)) = true := by simp; omega
    go_wp2_with fail
    go_ret
    exact ⟨rfl, HO.out⟩
  have dt1 : decide ((200 : Int) < (fd.length : Int)) = false := by simp; omega
  go_wp2_with fail
  refine (st_new _).mono ?_
  rintro e wn ⟨b, O, rfl, h1, h2, h3⟩
  have H : Hid (StW W wn b O (run17 [] (l.take 0))) := Lib.hid ⟨h1, HO.out.tr h3, fun x hx => Nat.le_trans HO.out.size (h2 x hx)⟩
  clear h1 h2 h3
  go_wp2_with fail
  go_loopw [10] (fun i wr => ∃ (k : Nat) (O : List Nat), k ≤ l.length ∧ i = .int .i64 k ∧ Hid (StW W wr b O (run17 [] (l.take k)))) (fun i _ => l.length - (intOf i).toNat)
  case atStart => exact ⟨0, _, by omega, rfl, H⟩
  case round =>
    obtain ⟨k, O, hk, rfl, H⟩ := hrel
    by_cases hlt : k < l.length
    · have hlt' : (k : Int) < (l.length : Int) := by omega
      obtain ⟨a, ha⟩ : ∃ a, l[k]? = some a := ⟨_, List.getElem?_eq_getElem hlt⟩
      have HA := Lib.hid (HG.out a (List.mem_of_getElem? ha))
      obtain ⟨ab, ao, ac, hv, q0, q1, q2, q3, q4⟩ := acL_at (HS.out.only H.out.ho (Nat.le_refl _) (by simp)) ha
      injection hv with e1 e2 e3
      subst e1; subst e3
      obtain ⟨IA, ic, hiv⟩ := HA.out.its.shape
      have C := Lib.hid (does17' a HA.out (HM1.out.al a (List.mem_of_getElem? ha)).n H.out)
      rw [hiv] at q4 C
      have HT : Hid (run17 [] (l.take (k + 1)) = (D17 (run17 [] (l.take k)) a).2.2.2) := Lib.hid (run17_step [] l k a ha)
      clear e2 ha
      go_wp2_with fail
      clear q0 q1 q2 q3 q4
      refine C.out.mono ?_
      rintro e w3 ⟨v', O', rfl, hown, hdis, h1, h2, h3⟩
      have H' := Lib.hid (H.out.step h1 h2 h3)
      rw [← HT.out] at H'
      clear hown hdis h1 h2 h3 H C HT
      go_wp2_with fail
      go_roundw
      case rel => exact ⟨k + 1, O', by omega, by go_num, H'⟩
      case measure => simp [intOf]; omega
    · have hd : decide ((k : Int) < (l.length : Int)) = false := by simp; omega
      obtain rfl : k = l.length := by omega
      rw [List.take_length] at H
      have SK : Hid (SvOk (run17 [] l)) := Lib.hid (run17_ok l _ SvOk.nil)
      obtain ⟨S, hS⟩ : ∃ S, run17 [] l = S := ⟨_, rfl⟩
      rw [hS] at H SK
      clear hS
      have n1 := (allS_ok SK.out fd).n
      have HP := Lib.hid (allS_ok SK.out fd)
      have CA := Lib.hid (st_all b O S fd hf1 wr H.out.st)
      have CL := Lib.hid (fun (af : Int) w' (ho : Only [] wr w') => st_list b O S fd hf1 af w' (H.out.read ho).st)
      obtain ⟨er, her⟩ : ∃ er : Int, (listS S fd 0).2 = er := ⟨_, rfl⟩
      have her' : ∀ af, (listS S fd af).2 = er := fun af => by rw [← her]; unfold listS; cases fnd S fd <;> rfl
      simp only [listS_pg, her'] at CL
      obtain ⟨Q, hQ⟩ : ∃ Q, allS S fd = Q := ⟨_, rfl⟩
      rw [hQ] at n1 HP CA
      simp only [hQ] at CL
      clear her her' hQ
      go_wp2_with fail
      refine CA.out.mono ?_
      rintro e w4 ⟨v1, rfl, hw1, ho4⟩
      obtain ⟨A1, c1, rfl⟩ := (SlAt.of_own hw1).shape
      have HW1 := Lib.hid (SlAt.of_own hw1)
      have H4 := Lib.hid (H.out.ho.tr ho4)
      have CL := Lib.hid (fun (af : Int) w' (ho : Only [] w4 w') => CL.out af w' (ho4.tr ho))
      clear hw1 ho4 CA
      go_wp2_with fail
      go_loopw [12, 13, 14, 15, 16] (fun got last i p e wr => ∃ (j a : Nat), j ≤ 10 ∧ a = min (50 * j) Q.length ∧ i = .int .i64 j ∧ last = .int .i64 a ∧ Hid (wr.ownsRow w4.heap.size 38 5 got a (poL (Q.take a))) ∧ Hid (Only [] w4 wr)) (fun _ _ i _ _ _ => 10 - (intOf i).toNat)
      case atStart => exact ⟨0, 0, by omega, by omega, rfl, rfl, Lib.hid (World.ownsRow_nil _ _ _ _), Lib.hid (Only.refl _ _)⟩
      case round =>
        obtain ⟨j, a, hj, ha, rfl, rfl, hown, ho⟩ := hrel
        by_cases hlt : j < 10
        · have d1 : decide ((j : Int) < 10) = true := by simp; omega
          have C := Lib.hid (CL.out (a : Int) wr ho.out)
          obtain ⟨q1, q2⟩ := pg_step Q a (by omega)
          obtain ⟨P, hP⟩ : ∃ P, pgF Q (a : Int) = P := ⟨_, rfl⟩
          rw [hP] at C q1 q2
          have hal : a ≤ 200 := by omega
          have HQ1 := Lib.hid q1
          have HQ2 := Lib.hid q2
          have HA := Lib.hid ha
          have HP5 : P.length ≤ 50 := hP ▸ pg_len Q _
          have HPE := Lib.hid hP
          clear q1 q2 ha hP
          go_wp2_with fail
          refine C.out.mono ?_
          rintro e w5 ⟨v2, rfl, hown2, ho2⟩
          obtain ⟨A2, c2, rfl⟩ := (SlAt.of_own hown2).shape
          obtain ⟨VA, vc, rfl⟩ := (SlAt.of_own hown.out).shape
          by_cases hp0 : P.length = 0
          · have d2 : ((P.length : Int) == 0) = true := by simp; exact List.eq_nil_of_length_eq_zero hp0
            obtain rfl : a = Q.length := by
              have := HQ2.out
              have := HA.out
              omega
            have HV := Lib.hid (SlAt.of_own (own_keep hown.out ho2 (by simp)))
            rw [List.take_length] at HV
            have HOT := Lib.hid (ho.out.tr ho2)
            clear HQ1 HQ2 HA HP5 HPE hown hown2 ho2 C ho
            go_wp2_with fail
            have C := Lib.hid (CL.out after w5 HOT.out)
            have HG2 := Lib.hid (fun i x hx => pg_get HP.out after i x hx)
            have hl50 := pg_len Q after
            obtain ⟨P2, hP2⟩ : ∃ P2, pgF Q after = P2 := ⟨_, rfl⟩
            rw [hP2] at C HG2 hl50
            refine C.out.mono ?_
            rintro e w6 ⟨v6, rfl, hown6, ho6⟩
            obtain ⟨A6, c6, rfl⟩ := (SlAt.of_own hown6).shape
            have HS6 := Lib.hid (SlAt.of_own hown6)
            have HV := Lib.hid (HV.out.only ho6 (Nat.le_refl _) (by simp) |>.more ho6.size)
            have HOT := Lib.hid (HOT.out.tr ho6)
            clear hown6 ho6 C hP2
            go_wp2_with fail
            go_loopw [19] (fun i wr => ∃ k : Nat, k ≤ P2.length ∧ i = .int .i64 k ∧ Hid (Only [] w6 wr)) (fun i _ => P2.length - (intOf i).toNat)
            case atStart => exact ⟨0, by omega, rfl, Lib.hid (Only.refl _ _)⟩
            case round =>
              obtain ⟨k, hk, rfl, ho⟩ := hrel
              by_cases hlt : k < P2.length
              · have hlt' : (k : Int) < (P2.length : Int) := by omega
                obtain ⟨x, hx⟩ : ∃ x, P2[k]? = some x := ⟨_, List.getElem?_eq_getElem hlt⟩
                obtain ⟨x1, x2, x3⟩ := HG2.out k x hx
                obtain ⟨b1, o1, c1', g1, p0, _, _, _, _⟩ := poL_at (HS6.out.only ho.out (Nat.le_refl _) (by simp)) rfl hx
                injection g1 with i1 i2 i3
                subst i1; subst i3
                have e1 : decide (x.sq ≤ after) = false := by simp; omega
                have e2 : decide (50 < (P2.length : Int)) = false := by simp; omega
                have u0 := fun u : Since wr => u.cell p0
                have u0' := fun u : Since wr => u.cell (show wr.cell? ⟨b1, o1 + k * 5 + 0, none⟩ = _ from p0)
                by_cases hk0 : k = 0
                · have e3 : decide (0 < k) = false := by simp; omega
                  clear x1 x2 x3 hx p0 i2 hk0
                  go_wp2_with fail
                  refine wp_region_only wr (Only.refl _ _) (by kernel_rfl) (by kernel_rfl) ?_
                  repeat (go_big_quiet_step (fail))
                  refine wpQuiet_nil ?_
                  rintro ⟨w3, ho3⟩
                  dsimp only
                  have HO3 := Lib.hid (ho.out.tr ho3)
                  clear u0 u0'
                  go_wp2_with fail
                  go_roundw
                  case rel => exact ⟨k + 1, by omega, by go_num, HO3⟩
                  case measure => simp [intOf]; omega
                · obtain ⟨q, hq⟩ : ∃ q, k = q + 1 := ⟨k - 1, by omega⟩
                  have hql : q < P2.length := by omega
                  have hql' : (q : Int) < (P2.length : Int) := by omega
                  have e3 : decide (0 < k) = true := by simp; omega
                  obtain ⟨y, hy⟩ : ∃ y, P2[q]? = some y := ⟨_, List.getElem?_eq_getElem hql⟩
                  obtain ⟨y1, y2, y3⟩ := HG2.out q y hy
                  obtain ⟨b2, o2, c2', g2, r0, _, _, _, _⟩ := poL_at (HS6.out.only ho.out (Nat.le_refl _) (by simp)) rfl hy
                  injection g2 with j1 j2 j3
                  injection j1 with j1
                  injection j1 with j4 j5 j6
                  subst j4; subst j5
                  have e4 : IntKind.i64.wrap ((k : Int) - 1) = (q : Int) := by rw [IntKind.wrap_i64]; omega
                  have e5 : IntKind.i64.wrap (y.sq + 1) = x.sq := by rw [IntKind.wrap_i64]; omega
                  have u1 := fun u : Since wr => u.cell r0
                  have u1' := fun u : Since wr => u.cell (show wr.cell? ⟨b1, o1 + q * 5 + 0, none⟩ = _ from r0)
                  clear x1 x2 x3 y1 y2 y3 hx hy p0 r0 i2 j2 j3 j6 hq
                  go_wp2_with fail
                  refine wp_region_only wr (Only.refl _ _) (by kernel_rfl) (by kernel_rfl) ?_
                  repeat (go_big_quiet_step (fail))
                  refine wpQuiet_nil ?_
                  rintro ⟨w3, ho3⟩
                  dsimp only
                  have HO3 := Lib.hid (ho.out.tr ho3)
                  clear u0 u1 u0' u1'
                  go_wp2_with fail
                  go_roundw
                  case rel => exact ⟨k + 1, by omega, by go_num, HO3⟩
                  case measure => simp [intOf]; omega
              · have hd : decide ((k : Int) < (P2.length : Int)) = false := by simp; omega
                have CP := Lib.hid (posts17 (.slice VA Q.length vc) (.slice A1 Q.length c1) Q wr ((HV.out.only ho.out (Nat.le_refl _) (by simp)).more ho.out.size) ((HW1.out.only (HOT.out.tr ho.out) (Nat.le_refl _) (by simp)).more (HOT.out.tr ho.out).size) (by omega))
                have HF := Lib.hid (H4.out.tr (HOT.out.tr ho.out))
                clear ho
                go_wp2_with fail
                refine CP.out.mono ?_
                rintro e w7 ⟨rfl, ho7⟩
                have HF := Lib.hid (HF.out.tr ho7)
                clear ho7 CP
                go_wp2_with fail
                go_ret
                exact ⟨rfl, HF.out⟩
          · have d2 : ((P.length : Int) == 0) = false := by simp; intro e; subst e; exact hp0 rfl
            have hl1 : (Q.take a).length = a := by rw [List.length_take]; have := HA.out; omega
            have HOK := Lib.hid (own_keep hown.out ho2 (by simp))
            have HS2 := Lib.hid (SlAt.of_own hown2)
            have HO2 := Lib.hid (ho.out.tr ho2)
            obtain ⟨m, hm⟩ : ∃ m, P.length = m + 1 := ⟨P.length - 1, by omega⟩
            obtain ⟨y, hy⟩ : ∃ y, P[m]? = some y := ⟨_, List.getElem?_eq_getElem (by omega)⟩
            have hsq := (pg_get HP.out (a : Int) m y (by rw [HPE.out]; exact hy)).2.1
            have hsz : w4.heap.size ≤ w5.heap.size := HO2.out.size
            have HYQ : Hid (y.sq = ((min (50 * (j + 1)) Q.length : Nat) : Int)) := Lib.hid (by have := HA.out; have := HQ2.out; omega)
            have hwm : IntKind.i64.wrap ((P.length : Int) - 1) = (m : Int) := by rw [IntKind.wrap_i64]; omega
            have HY := Lib.hid hy
            have hml : m < P.length := by omega
            have hml2 : (m : Int) < (P.length : Int) := by omega
            have HM2 := Lib.hid hm
            have HW2 := Lib.hid hown2
            have HDJ : Hid (∀ g ∈ rb (.slice VA a vc), (Value.slice A2 P.length c2).ownBlock ≠ some g) := Lib.hid (fun g hg e => by
              have h1 := (hown.out.lt g (by simpa [rb] using hg)).2
              have h2 := (hown2.lt g e).1
              omega)
            clear hown hown2 ho2 C ho hsq hy hm
            go_wp2_with (at_builtin; go_loud (refine wpList_appG rfl _ _ 27 rfl w4.heap.size 38 i0 _ 5 64 Try.underlying27 hi0 hz0 hz1 hz2 rfl (by decide) w5 (.slice VA a vc) a (poL (Q.take a)) rfl HOK.out w5.heap.size P.length (poL P) A2 c2 rfl HS2.out (poL_one P) (by unfold maxLen; omega) (by omega) hsz ?_; intro v3 w3 hown3 hgrow3; have HW3 := Lib.hid hown3; have HO3 := Lib.hid (HO2.out.own HOK.out hgrow3 (Nat.le_refl _)); have HO35 : Hid (Only (rb (.slice VA a vc)) w5 w3) := Lib.hid ((Only.refl _ w5).grown hgrow3 (fun g e => .inl (by simp [rb, e]))); obtain ⟨b1, o1, c1', g1, p0, _, _, _, _⟩ := poL_at (SlAt.of_own (own_keep HW2.out HO35.out HDJ.out)) rfl HY.out; injection g1 with i1 i2 i3; subst i1; subst i3; have p0' : w3.cell? ⟨b1, o1 + m * 5 + 0, none⟩ = _ := p0; clear hown3 hgrow3 i2))
            go_roundw
            case rel => exact ⟨j + 1, min (50 * (j + 1)) Q.length, by omega, rfl, by go_num, by rw [HYQ.out], by
              have h1 := HW3.out
              rw [← poL_append, HQ1.out] at h1
              have h2 : a + P.length = min (50 * (j + 1)) Q.length := by have := HQ2.out; have := HA.out; omega
              have h3 : min (a + 50) Q.length = min (50 * (j + 1)) Q.length := by have := HA.out; omega
              rw [h3, h2] at h1
              exact Lib.hid h1, HO3⟩
            case measure => simp [intOf]; omega
        · have d1 : decide ((j : Int) < 10) = false := by simp; omega
          obtain rfl : a = Q.length := by omega
          rw [List.take_length] at hown
          obtain ⟨VA, vc, rfl⟩ := (SlAt.of_own hown.out).shape
          have HV := Lib.hid (SlAt.of_own hown.out)
          have HOT := Lib.hid ho.out
          clear hown ho ha
          go_wp2_with fail
          have C := Lib.hid (CL.out after wr HOT.out)
          have HG2 := Lib.hid (fun i x hx => pg_get HP.out after i x hx)
          have hl50 := pg_len Q after
          obtain ⟨P2, hP2⟩ : ∃ P2, pgF Q after = P2 := ⟨_, rfl⟩
          rw [hP2] at C HG2 hl50
          refine C.out.mono ?_
          rintro e w6 ⟨v6, rfl, hown6, ho6⟩
          obtain ⟨A6, c6, rfl⟩ := (SlAt.of_own hown6).shape
          have HS6 := Lib.hid (SlAt.of_own hown6)
          have HV := Lib.hid (HV.out.only ho6 (Nat.le_refl _) (by simp) |>.more ho6.size)
          have HOT := Lib.hid (HOT.out.tr ho6)
          clear hown6 ho6 C hP2
          go_wp2_with fail
          go_loopw [19] (fun i wr => ∃ k : Nat, k ≤ P2.length ∧ i = .int .i64 k ∧ Hid (Only [] w6 wr)) (fun i _ => P2.length - (intOf i).toNat)
          case atStart => exact ⟨0, by omega, rfl, Lib.hid (Only.refl _ _)⟩
          case round =>
            obtain ⟨k, hk, rfl, ho⟩ := hrel
            by_cases hlt : k < P2.length
            · have hlt' : (k : Int) < (P2.length : Int) := by omega
              obtain ⟨x, hx⟩ : ∃ x, P2[k]? = some x := ⟨_, List.getElem?_eq_getElem hlt⟩
              obtain ⟨x1, x2, x3⟩ := HG2.out k x hx
              obtain ⟨b1, o1, c1', g1, p0, _, _, _, _⟩ := poL_at (HS6.out.only ho.out (Nat.le_refl _) (by simp)) rfl hx
              injection g1 with i1 i2 i3
              subst i1; subst i3
              have e1 : decide (x.sq ≤ after) = false := by simp; omega
              have e2 : decide (50 < (P2.length : Int)) = false := by simp; omega
              have u0 := fun u : Since wr => u.cell p0
              have u0' := fun u : Since wr => u.cell (show wr.cell? ⟨b1, o1 + k * 5 + 0, none⟩ = _ from p0)
              by_cases hk0 : k = 0
              · have e3 : decide (0 < k) = false := by simp; omega
                clear x1 x2 x3 hx p0 i2 hk0
                go_wp2_with fail
                refine wp_region_only wr (Only.refl _ _) (by kernel_rfl) (by kernel_rfl) ?_
                repeat (go_big_quiet_step (fail))
                refine wpQuiet_nil ?_
                rintro ⟨w3, ho3⟩
                dsimp only
                have HO3 := Lib.hid (ho.out.tr ho3)
                clear u0 u0'
                go_wp2_with fail
                go_roundw
                case rel => exact ⟨k + 1, by omega, by go_num, HO3⟩
                case measure => simp [intOf]; omega
              · obtain ⟨q, hq⟩ : ∃ q, k = q + 1 := ⟨k - 1, by omega⟩
                have hql : q < P2.length := by omega
                have hql' : (q : Int) < (P2.length : Int) := by omega
                have e3 : decide (0 < k) = true := by simp; omega
                obtain ⟨y, hy⟩ : ∃ y, P2[q]? = some y := ⟨_, List.getElem?_eq_getElem hql⟩
                obtain ⟨y1, y2, y3⟩ := HG2.out q y hy
                obtain ⟨b2, o2, c2', g2, r0, _, _, _, _⟩ := poL_at (HS6.out.only ho.out (Nat.le_refl _) (by simp)) rfl hy
                injection g2 with j1 j2 j3
                injection j1 with j1
                injection j1 with j4 j5 j6
                subst j4; subst j5
                have e4 : IntKind.i64.wrap ((k : Int) - 1) = (q : Int) := by rw [IntKind.wrap_i64]; omega
                have e5 : IntKind.i64.wrap (y.sq + 1) = x.sq := by rw [IntKind.wrap_i64]; omega
                have u1 := fun u : Since wr => u.cell r0
                have u1' := fun u : Since wr => u.cell (show wr.cell? ⟨b1, o1 + q * 5 + 0, none⟩ = _ from r0)
                clear x1 x2 x3 y1 y2 y3 hx hy p0 r0 i2 j2 j3 j6 hq
                go_wp2_with fail
                refine wp_region_only wr (Only.refl _ _) (by kernel_rfl) (by kernel_rfl) ?_
                repeat (go_big_quiet_step (fail))
                refine wpQuiet_nil ?_
                rintro ⟨w3, ho3⟩
                dsimp only
                have HO3 := Lib.hid (ho.out.tr ho3)
                clear u0 u1 u0' u1'
                go_wp2_with fail
                go_roundw
                case rel => exact ⟨k + 1, by omega, by go_num, HO3⟩
                case measure => simp [intOf]; omega
            · have hd : decide ((k : Int) < (P2.length : Int)) = false := by simp; omega
              have CP := Lib.hid (posts17 (.slice VA Q.length vc) (.slice A1 Q.length c1) Q wr ((HV.out.only ho.out (Nat.le_refl _) (by simp)).more ho.out.size) ((HW1.out.only (HOT.out.tr ho.out) (Nat.le_refl _) (by simp)).more (HOT.out.tr ho.out).size) (by omega))
              have HF := Lib.hid (H4.out.tr (HOT.out.tr ho.out))
              clear ho
              go_wp2_with fail
              refine CP.out.mono ?_
              rintro e w7 ⟨rfl, ho7⟩
              have HF := Lib.hid (HF.out.tr ho7)
              clear ho7 CP
              go_wp2_with fail
              go_ret
              exact ⟨rfl, HF.out⟩
end Go.Proofs.Ytjfnkjpnjiobjaa
