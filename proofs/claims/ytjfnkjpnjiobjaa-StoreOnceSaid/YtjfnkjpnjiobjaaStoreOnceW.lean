/-
  The walk over StoreOnce: a feed has at most one post of an ID; numbers rise by one; a post keeps its number and its item, whatever is ingested since.
-/
import Derived.Test.YtjfnkjpnjiobjaaS17e
namespace Go.Proofs.Ytjfnkjpnjiobjaa
open Go.RowKit
theorem pre_len {P Q : List Po} (h : Pre P Q) : P.length ≤ Q.length := by
  rcases Nat.eq_zero_or_pos P.length with h0 | h0
  · omega
  · obtain ⟨x', h1, _⟩ := h (P.length - 1) _ (List.getElem?_eq_getElem (by omega))
    have := (List.getElem?_eq_some_iff.1 h1).1
    omega
theorem ids_ne {P : List Po} (h : PsOk P) {i k : Nat} {x y : Po} (hx : P[i]? = some x) (hy : P[k]? = some y) (hk : k < i) : (y.it.id == x.it.id) = false := by
  have : y.it.id ≠ x.it.id := fun e => by
    have hl := (List.getElem?_eq_some_iff.1 hx).1
    have := (List.getElem?_inj (i := k) (j := i) (by rw [List.length_map]; omega) h.ids).1 (by rw [List.getElem?_map, List.getElem?_map, hx, hy]; simp [e])
    omega
  simpa using this
set_option maxRecDepth 100000 in
set_option maxHeartbeats 8000000 in
theorem storeOnce_walk (W : World) (v0 : Value) (l : List A17) (s0 : SlAt W W.heap.size v0 5 l.length (acL l)) (g0 : ∀ a ∈ l, a.Ok W) (feed : ByteArray) (hf0 : feed.size ≤ maxLen) (v2 : Value) (l2 : List A17) (s2 : SlAt W W.heap.size v2 5 l2.length (acL l2)) (g2 : ∀ a ∈ l2, a.Ok W) :
    Calls Try.prog 3 #[v0, .string feed, v2] W fun e W' => e = .returned (.bool true) ∧ Only [] W W' := by
  obtain ⟨LA, lc, rfl⟩ := s0.shape
  obtain ⟨fd, rfl, efd⟩ := str_of feed
  rw [efd] at hf0
  clear efd
  have hf1 := hf0
  unfold maxLen at hf0
  obtain ⟨LB, ld, rfl⟩ := s2.shape
  have HS2 := Lib.hid s2
  have HG2 := Lib.hid g2
  have CS2 := Lib.hid (fun w' (ho : Only [] W w') => small17 (.slice LB l2.length ld) l2 w' ((s2.only ho (Nat.le_refl _) (by simp)).more ho.size) (fun a ha => (g2 a ha).only ho))
  have hll2 := sl_len s2
  unfold maxLen at hll2
  clear s2 g2
  have HS := Lib.hid s0
  have HG := Lib.hid g0
  have C0 := Lib.hid (shown17 W)
  have CS := Lib.hid (fun w' (ho : Only [] W w') => small17 (.slice LA l.length lc) l w' ((s0.only ho (Nat.le_refl _) (by simp)).more ho.size) (fun a ha => (g0 a ha).only ho))
  have hll := sl_len s0
  unfold maxLen at hll
  clear s0 g0
  go_enter Try.func3, Try.ntmps3
  go_wp2_with fail
  refine C0.out.mono ?_
  rintro e w1 ⟨rfl, ho1⟩
  have HO1 := Lib.hid ho1
  clear ho1 C0
  go_wp2_with fail
  refine (CS.out _ HO1.out).mono ?_
  rintro e w2 ⟨okw2, rfl, hokw2, how2⟩
  have HO2 := Lib.hid (HO1.out.tr how2)
  have HM := Lib.hid hokw2
  clear how2 hokw2
  go_wp2_with fail
  refine (CS2.out _ HO2.out).mono ?_
  rintro e w3 ⟨okw3, rfl, hokw3, how3⟩
  have HO := Lib.hid (HO2.out.tr how3)
  have HN := Lib.hid hokw3
  clear how3 hokw3
  cases okw2 with
  | false =>
    cases okw3 <;> (
      go_wp2_with fail
      go_ret
      exact ⟨rfl, HO.out⟩)
  | true =>
  have HM1 := Lib.hid (HM.out rfl)
  clear HM
  cases okw3 with
  | false =>
    go_wp2_with fail
    go_ret
    exact ⟨rfl, HO.out⟩
  | true =>
  have HN1 := Lib.hid (HN.out rfl)
  clear HN
  by_cases t1 : 200 < fd.length
  · have dt1 : decide ((200 : Int) < (fd.length : Int)) = true := by simp; omega
    go_wp2_with fail
    go_ret
    exact ⟨rfl, HO.out⟩
  have dt1 : decide ((200 : Int) < (fd.length : Int)) = false := by simp; omega
  go_wp2_with fail
  refine (st_new _).mono ?_
  rintro e wn ⟨b, O, rfl, h1, h2, h3⟩
  have H : Hid (StW W wn b O (run17 [] (l.take 0))) := Lib.hid ⟨h1, HO.out.tr h3, fun x hx => Nat.le_trans HO.out.size (h2 x hx)⟩
  clear h1 h2 h3
  go_wp2_with fail
  go_loopw [11] (fun i wr => ∃ (k : Nat) (O : List Nat), k ≤ l.length ∧ i = .int .i64 k ∧ Hid (StW W wr b O (run17 [] (l.take k)))) (fun i _ => l.length - (intOf i).toNat)
  case atStart => exact ⟨0, _, by omega, rfl, H⟩
  case round =>
    obtain ⟨k, O, hk, rfl, H⟩ := hrel
    by_cases hlt : k < l.length
    · have hlt' : (k : Int) < (l.length : Int) := by omega
      obtain ⟨a, ha⟩ : ∃ a, l[k]? = some a := ⟨_, List.getElem?_eq_getElem hlt⟩
      have HA := Lib.hid (HG.out a (List.mem_of_getElem? ha))
      obtain ⟨ab, ao, ac, hv, q0, q1, q2, q3, q4⟩ := acL_at (HS.out.only H.out.ho (Nat.le_refl _) (by simp)) ha
      injection hv with e1 e2 e3
      subst e1; subst e3
      obtain ⟨IA, ic, hiv⟩ := HA.out.its.shape
      have C := Lib.hid (does17' a HA.out (HM1.out.al a (List.mem_of_getElem? ha)).n H.out)
      rw [hiv] at q4 C
      have HT : Hid (run17 [] (l.take (k + 1)) = (D17 (run17 [] (l.take k)) a).2.2.2) := Lib.hid (run17_step [] l k a ha)
      clear e2 ha
      go_wp2_with fail
      clear q0 q1 q2 q3 q4
      refine C.out.mono ?_
      rintro e w3 ⟨v', O', rfl, hown, hdis, h1, h2, h3⟩
      have H' := Lib.hid (H.out.step h1 h2 h3)
      rw [← HT.out] at H'
      clear hown hdis h1 h2 h3 H C HT
      go_wp2_with fail
      go_roundw
      case rel => exact ⟨k + 1, O', by omega, by go_num, H'⟩
      case measure => simp [intOf]; omega
    · have hd : decide ((k : Int) < (l.length : Int)) = false := by simp; omega
      obtain rfl : k = l.length := by omega
      rw [List.take_length] at H
      have SK : Hid (SvOk (run17 [] l)) := Lib.hid (run17_ok l _ SvOk.nil)
      obtain ⟨S, hS⟩ : ∃ S, run17 [] l = S := ⟨_, rfl⟩
      rw [hS] at H SK
      clear hS
      have n1 := (allS_ok SK.out fd).n
      have HP := Lib.hid (allS_ok SK.out fd)
      have CA := Lib.hid (st_all b O S fd hf1 wr H.out.st)
      obtain ⟨P, hP⟩ : ∃ P, allS S fd = P := ⟨_, rfl⟩
      have HPE := Lib.hid hP
      rw [hP] at n1 HP CA
      clear hP
      go_wp2_with fail
      refine CA.out.mono ?_
      rintro e w4 ⟨v1, rfl, hw1, ho4⟩
      have H1 := Lib.hid (H.out.read ho4)
      have hlow : ∀ x ∈ O, v1.ownBlock ≠ some x := fun x hx e => by
        have h1 := H.out.st.bw x hx
        have h2 := (hw1.lt x e).1
        omega
      obtain ⟨A1, c1, rfl⟩ := (SlAt.of_own hw1).shape
      have HW1 := Lib.hid (own_low hw1 (Nat.zero_le _))
      have HL1 := Lib.hid hlow
      have HS1 := Lib.hid (SlAt.of_own hw1)
      clear hw1 hlow ho4 CA
      go_wp2_with fail
      go_loopw [13, 14] (fun i kk wr => ∃ k : Nat, k ≤ P.length ∧ i = .int .i64 k ∧ Hid (Only [] w4 wr)) (fun i _ _ => P.length - (intOf i).toNat)
      case atStart => exact ⟨0, by omega, rfl, Lib.hid (Only.refl _ _)⟩
      case round =>
        obtain ⟨k, hk, rfl, ho⟩ := hrel
        obtain ⟨wo, rfl⟩ : ∃ wo, wo = wr := ⟨_, rfl⟩
        by_cases hlt : k < P.length
        · have hlt' : (k : Int) < (P.length : Int) := by omega
          obtain ⟨x, hx⟩ : ∃ x, P[k]? = some x := ⟨_, List.getElem?_eq_getElem hlt⟩
          obtain ⟨b1, o1, c1', g1, p0, _, _, _, _⟩ := poL_at (HS1.out.only ho.out (Nat.le_refl _) (by simp)) rfl hx
          have hsq := HP.out.sq k x hx
          injection g1 with i1 i2 i3
          subst i1; subst i3
          have hwk : IntKind.i64.wrap ((k : Int) + 1) = x.sq := by rw [IntKind.wrap_i64]; omega
          have HSL : Hid (SlAt wo w4.heap.size (.slice (some ⟨b1, o1, none⟩) P.length c1) 5 P.length (poL P)) := Lib.hid (HS1.out.only ho.out (Nat.le_refl _) (by simp))
          have HX := Lib.hid hx
          have p0' : wo.cell? ⟨b1, o1 + k * 5 + 0, none⟩ = some (.int .i64 x.sq) := p0
          clear hx i2 hsq
          go_wp2_with fail
          clear p0 p0' hwk
          go_loopw [14] (fun j wr => ∃ q : Nat, q ≤ k ∧ j = .int .i64 q ∧ Hid (Only [] wo wr)) (fun j _ => k - (intOf j).toNat)
          case atStart => exact ⟨0, by omega, rfl, Lib.hid (Only.refl _ _)⟩
          case round =>
            obtain ⟨q, hq, rfl, hoq⟩ := hrel
            by_cases hqk : q < k
            · have hq' : decide ((q : Int) < (k : Int)) = true := by simp; omega
              have hql : q < P.length := by omega
              have hql' : (q : Int) < (P.length : Int) := by omega
              obtain ⟨y, hy⟩ : ∃ y, P[q]? = some y := ⟨_, List.getElem?_eq_getElem hql⟩
              obtain ⟨b2, o2, c2', g2, _, p1, _, _, _⟩ := poL_at (HSL.out.only hoq.out ho.out.size (by simp)) rfl HX.out
              obtain ⟨b3, o3, c3', g3, _, r1, _, _, _⟩ := poL_at (HSL.out.only hoq.out ho.out.size (by simp)) rfl hy
              injection g2 with g2 ga gb
              injection g2 with g2
              injection g2 with j1 j2 j3
              injection g3 with g3 gc gd
              injection g3 with g3
              injection g3 with l1 l2 l3
              subst j1; subst j2; subst l1; subst l2
              have hne := ids_ne HP.out HX.out hy hqk
              have u1 := fun u : Since wr => u.cell p1
              have u2 := fun u : Since wr => u.cell r1
              clear hy p1 r1 j3 l3 ga gb gc gd
              go_wp2_with fail
              refine wp_region_only wr (Only.refl _ _) (by kernel_rfl) (by kernel_rfl) ?_
              repeat (go_big_quiet_step (fail))
              refine wpQuiet_nil ?_
              rintro ⟨w3, ho3⟩
              dsimp only
              have HO3 := Lib.hid (hoq.out.tr ho3)
              clear u1 u2 hne
              go_wp2_with fail
              go_roundw
              case rel => exact ⟨q + 1, by omega, by go_num, HO3⟩
              case measure => simp [intOf]; omega
            · have hq' : decide ((q : Int) < (k : Int)) = false := by simp; omega
              have HO3 := Lib.hid (ho.out.tr hoq.out)
              go_wp2_with fail
              go_roundw
              case rel => exact ⟨k + 1, by omega, by go_num, HO3⟩
              case measure => simp [intOf]; omega
        · have hd : decide ((k : Int) < (P.length : Int)) = false := by simp; omega
          have H2 : Hid (StW W wo b O S) := Lib.hid (H1.out.read ho.out)
          have HW2 := Lib.hid (own_keep HW1.out ho.out (by simp))
          have HPR : Hid (Pre P (allS S fd)) := Lib.hid (by rw [HPE.out]; exact Pre.refl _)
          clear ho
          go_wp2_with fail
          go_loopw [15] (fun i wr => ∃ (k : Nat) (O : List Nat) (S : Sv), k ≤ l2.length ∧ i = .int .i64 k ∧ Hid (StW W wr b O S) ∧ Hid (SvOk S) ∧ Hid (Pre P (allS S fd)) ∧ Hid (wr.ownsRow 0 38 5 (.slice A1 P.length c1) P.length (poL P)) ∧ Hid (∀ x ∈ O, (Value.slice A1 P.length c1).ownBlock ≠ some x)) (fun i _ => l2.length - (intOf i).toNat)
          case atStart => exact ⟨0, O, S, by omega, rfl, H2, SK, HPR, HW2, HL1⟩
          case round =>
            obtain ⟨j, O2, S2, hj, rfl, H, SK, HPR, HW, HL⟩ := hrel
            by_cases hjl : j < l2.length
            · have hjl' : (j : Int) < (l2.length : Int) := by omega
              obtain ⟨a, ha⟩ : ∃ a, l2[j]? = some a := ⟨_, List.getElem?_eq_getElem hjl⟩
              have HA := Lib.hid (HG2.out a (List.mem_of_getElem? ha))
              obtain ⟨ab, ao, ac, hv, q0, q1, q2, q3, q4⟩ := acL_at (HS2.out.only H.out.ho (Nat.le_refl _) (by simp)) ha
              injection hv with e1 e2 e3
              subst e1; subst e3
              obtain ⟨IA, ic, hiv⟩ := HA.out.its.shape
              have CK := Lib.hid (fun w' => pick17 a.op 10 w' HA.out.op (by omega) (by omega))
              have C := Lib.hid (does17' a HA.out (HN1.out.al a (List.mem_of_getElem? ha)).n H.out)
              rw [hiv] at q4 C
              have q0' : wr.cell? ⟨ab, ao + j * 5 + 0, none⟩ = some (.int .i64 a.op) := q0
              clear e2 ha
              by_cases h2 : pkI a.op 10 = 2
              · rw [h2] at CK
                clear h2 C
                go_wp2_with fail
                refine (CK.out _).mono ?_
                rintro e w5 ⟨rfl, rfl⟩
                clear q0 q1 q2 q3 q4 q0'
                go_wp2_with fail
                go_roundw
                case rel => exact ⟨j + 1, O2, S2, by omega, by go_num, H, SK, HPR, HW, HL⟩
                case measure => simp [intOf]; omega
              · have d2 : (pkI a.op 10 == 2) = false := by simpa using h2
                have HH2 := Lib.hid h2
                clear h2
                go_wp2_with fail
                refine (CK.out _).mono ?_
                rintro e w5 ⟨rfl, rfl⟩
                go_wp2_with fail
                clear q0 q1 q2 q3 q4 q0'
                refine C.out.mono ?_
                rintro e w6 ⟨v', O', rfl, hown, hdis, h1, h2, h3⟩
                have H' := Lib.hid (H.out.step h1 h2 h3)
                have SK' := Lib.hid (D17_ok a SK.out)
                have HPR' := Lib.hid (HPR.out.trans (D17_pre a SK.out HH2.out fd))
                have HW' := Lib.hid (own_keep HW.out h2 HL.out)
                have HL' : Hid (∀ x ∈ O', (Value.slice A1 P.length c1).ownBlock ≠ some x) := Lib.hid (fun x hx e => by
                  rcases h3 x hx with h | h
                  · exact HL.out x h e
                  · have := (HW.out.lt x e).2
                    omega)
                clear hown hdis h1 h2 h3 H C SK HPR HW HL
                go_wp2_with fail
                go_roundw
                case rel => exact ⟨j + 1, O', _, by omega, by go_num, H', SK', HPR', HW', HL'⟩
                case measure => simp [intOf]; omega
            · have hd : decide ((j : Int) < (l2.length : Int)) = false := by simp; omega
              have n2 := (allS_ok SK.out fd).n
              have CB := Lib.hid (st_all b O2 S2 fd hf1 wr H.out.st)
              obtain ⟨Q, hQ⟩ : ∃ Q, allS S2 fd = Q := ⟨_, rfl⟩
              rw [hQ] at CB HPR n2
              clear hQ
              go_wp2_with fail
              refine CB.out.mono ?_
              rintro e w7 ⟨v3, rfl, hw3, ho7⟩
              obtain ⟨A3, c3, rfl⟩ := (SlAt.of_own hw3).shape
              have HS3 := Lib.hid (SlAt.of_own hw3)
              have HS4 := Lib.hid (SlAt.of_own (own_keep HW.out ho7 (by simp)))
              have HF := Lib.hid (H.out.ho.tr ho7)
              have hpq := pre_len HPR.out
              clear hw3 ho7 CB H HW HL
              go_wp2_with fail
              go_loopw [17] (fun i wr => ∃ k : Nat, k ≤ P.length ∧ i = .int .i64 k ∧ Hid (Only [] w7 wr)) (fun i _ => P.length - (intOf i).toNat)
              case atStart => exact ⟨0, by omega, rfl, Lib.hid (Only.refl _ _)⟩
              case round =>
                obtain ⟨k, hk, rfl, ho⟩ := hrel
                by_cases hlt : k < P.length
                · have hlt' : (k : Int) < (P.length : Int) := by omega
                  have hge : decide (Q.length ≤ k) = false := by simp; omega
                  have hkq : k < Q.length := by omega
                  have hkq' : (k : Int) < (Q.length : Int) := by omega
                  obtain ⟨x, hx⟩ : ∃ x, P[k]? = some x := ⟨_, List.getElem?_eq_getElem hlt⟩
                  obtain ⟨y, hy, y1, y2, y3⟩ := HPR.out k x hx
                  obtain ⟨xs, xi, xr⟩ := x
                  obtain ⟨ys, yi, yr⟩ := y
                  dsimp only at y1 y2 y3
                  subst y1
                  subst y2
                  obtain ⟨b1, o1, c1', g1, p0, p1, p2, p3, p4⟩ := poL_at (HS4.out.only ho.out (Nat.le_refl _) (by simp)) rfl hx
                  obtain ⟨b2, o2, c2', g2, s0, s1, s2, s3, s4⟩ := poL_at (HS3.out.only ho.out (Nat.le_refl _) (by simp)) rfl hy
                  injection g1 with i1 i2 i3
                  injection g2 with j1 j2 j3
                  subst i1; subst i3; subst j1; subst j3
                  dsimp only at p0 p1 p2 p3 p4 s0 s1 s2 s3 s4
                  have hss : (ys == ys) = true := by simp
                  have u0 := fun u : Since wr => u.cell p0
                  have u1 := fun u : Since wr => u.cell p1
                  have u2 := fun u : Since wr => u.cell p2
                  have u3 := fun u : Since wr => u.cell p3
                  have u4 := fun u : Since wr => u.cell p4
                  have t0 := fun u : Since wr => u.cell s0
                  have t1 := fun u : Since wr => u.cell s1
                  have t2 := fun u : Since wr => u.cell s2
                  have t3 := fun u : Since wr => u.cell s3
                  have t4 := fun u : Since wr => u.cell s4
                  clear p0 p1 p2 p3 p4 s0 s1 s2 s3 s4 hx hy i2 j2 hpq
                  cases xr with
                  | false =>
                    clear y3
                    go_wp2_with fail
                    refine wp_region_only wr (Only.refl _ _) (by kernel_rfl) (by kernel_rfl) ?_
                    repeat (go_big_quiet_step (fail))
                    refine wpQuiet_nil ?_
                    rintro ⟨w3, ho3⟩
                    dsimp only
                    have HO3 := Lib.hid (ho.out.tr ho3)
                    clear u0 u1 u2 u3 u4 t0 t1 t2 t3 t4
                    go_wp2_with fail
                    go_roundw
                    case rel => exact ⟨k + 1, by omega, by go_num, HO3⟩
                    case measure => simp [intOf]; omega
                  | true =>
                    obtain rfl := y3 rfl
                    clear y3
                    go_wp2_with fail
                    refine wp_region_only wr (Only.refl _ _) (by kernel_rfl) (by kernel_rfl) ?_
                    repeat (go_big_quiet_step (fail))
                    refine wpQuiet_nil ?_
                    rintro ⟨w3, ho3⟩
                    dsimp only
                    have HO3 := Lib.hid (ho.out.tr ho3)
                    clear u0 u1 u2 u3 u4 t0 t1 t2 t3 t4
                    go_wp2_with fail
                    go_roundw
                    case rel => exact ⟨k + 1, by omega, by go_num, HO3⟩
                    case measure => simp [intOf]; omega
                · have hd : decide ((k : Int) < (P.length : Int)) = false := by simp; omega
                  have hd2 : decide ((Q.length : Int) ≤ 200) = true := by simp; omega
                  have HFF := Lib.hid (HF.out.tr ho.out)
                  clear ho
                  go_wp2_with fail
                  go_ret
                  exact ⟨rfl, HFF.out⟩
end Go.Proofs.Ytjfnkjpnjiobjaa
