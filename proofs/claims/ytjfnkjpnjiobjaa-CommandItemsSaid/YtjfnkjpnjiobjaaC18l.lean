/-
  Chapter 18: the document's Right.
-/
import Derived.Test.YtjfnkjpnjiobjaaC18k
namespace Go.Proofs.Ytjfnkjpnjiobjaa
open Go.RowKit
theorem in_call (n top : Int) (w : World) : Calls Try.prog 73 #[.int .i64 n, .int .i64 top] w fun e w' => e = .returned (.bool (inB n top)) ∧ w = w' := by
  by_cases h : 0 ≤ n
  · have d : decide (0 ≤ n) = true := by simpa using h
    have HR : Hid (inB n top = decide (n ≤ top)) := Lib.hid (by unfold inB; rw [d]; rfl)
    rw [HR.out]
    clear HR
    go_enter Try.func73, Try.ntmps73
    go_wp2_with fail
    go_ret
    exact ⟨rfl, rfl⟩
  · have d : decide (0 ≤ n) = false := by simpa using h
    have HR : Hid (inB n top = false) := Lib.hid (by unfold inB; rw [d]; rfl)
    rw [HR.out]
    clear HR
    go_enter Try.func73, Try.ntmps73
    go_wp2_with fail
    go_ret
    exact ⟨rfl, rfl⟩
theorem slnil_it (w : World) : SlAt w w.heap.size (.slice none 0 0) 3 0 (itL []) := SlAt.of_own (World.ownsRow_nil w 0 36 3)
theorem bare_at {w : World} {iv : Value} {c : Cm} (h : CmAt w iv c) (w' : World) : CmAt w' (.slice none 0 0) c.bare := ⟨slnil_it w', by simp [Cm.bare], h.fd, h.id, h.nums⟩
theorem only_at {w : World} {iv : Value} {c : Cm} (h : CmAt w iv c) (w' : World) : CmAt w' (.slice none 0 0) (onlyC c) := by
  refine ⟨slnil_it w', by simp [onlyC], ?_, ?_, ?_⟩
  · have := h.fd; unfold onlyC; dsimp only; split <;> simp [*]
  · have := h.id; unfold onlyC; dsimp only; split <;> simp [*]
  · have hn := h.nums
    have w0 : Wide64 0 := ⟨by omega, by omega⟩
    simp only [List.mem_cons, List.not_mem_nil, or_false, forall_eq_or_imp, forall_eq] at hn ⊢
    obtain ⟨a0, a1, a2, a3, a4, a5, a6⟩ := hn
    unfold onlyC
    dsimp only
    refine ⟨a0, ?_, ?_, ?_, ?_, ?_, ?_⟩
    all_goals split <;> assumption
theorem bare_sm {c : Cm} (h : c.Sm) : c.bare.Sm := ⟨h.fd, h.id, by simp [Cm.bare], by simp [Cm.bare]⟩
theorem only_sm {c : Cm} (h : c.Sm) : (onlyC c).Sm := by
  refine ⟨?_, ?_, by simp [onlyC], by simp [onlyC]⟩
  · have := h.fd; unfold onlyC; dsimp only; split <;> simp [*]
  · have := h.id; unfold onlyC; dsimp only; split <;> simp [*]
theorem sm_ok {c : Cm} {w : World} {iv : Value} (h : CmAt w iv c) (hs : c.Sm) : c.Ok := by
  have := hs.fd; have := hs.id; have := hs.n
  exact ⟨h.nums, by omega, by omega, by omega, fun x hx => (hs.its x hx).ok⟩
theorem only_bytes {w : World} {iv : Value} {c : Cm} (h : CmAt w iv c) (hs : c.Sm) : cmdb (onlyC c) = cmdb c.bare ↔ onlyC c = c.bare :=
  ⟨fun he => cmdb_inj (sm_ok (only_at h w) (only_sm hs)) (sm_ok (bare_at h w) (bare_sm hs)) he, fun he => by rw [he]⟩
set_option maxRecDepth 100000 in
set_option maxHeartbeats 4000000 in
theorem ref18_right (c : Cm) (iv : Value) (w : World) (h : CmAt w iv c) (hs : c.Sm) :
    Calls Try.prog 34 #[c.val iv] w fun e w' => e = .returned (.bool (rightB c)) ∧ Only [] w w' := by
  obtain ⟨IA, ic, rfl⟩ := h.its.shape
  have hil := sl_len h.its
  have hfl := h.fd
  have hdl := h.id
  have H := Lib.hid h
  have HSM := Lib.hid hs
  obtain ⟨m, hm'⟩ : ∃ m, c.its.length = m := ⟨_, rfl⟩
  have hm := hm'
  rw [hm] at hil
  unfold Cm.val
  rw [hm]
  obtain ⟨w1, hw1⟩ : ∃ w1, w.alloc (.cells #[.int .i64 c.kd, .int .i64 c.ss, .int .i64 c.sq, .int .i64 c.sh, .int .i64 c.nd, .int .i64 c.ep, .int .i64 c.n, .string ⟨c.fd.toArray⟩, .string ⟨c.id.toArray⟩, .slice IA m ic, .bool c.fl] 65) = w1 := ⟨_, rfl⟩
  obtain ⟨z, hz⟩ : ∃ z, w.heap.size = z := ⟨_, rfl⟩
  have HZ : Cells w1 z 65 [.int .i64 c.kd, .int .i64 c.ss, .int .i64 c.sq, .int .i64 c.sh, .int .i64 c.nd, .int .i64 c.ep, .int .i64 c.n, .string ⟨c.fd.toArray⟩, .string ⟨c.id.toArray⟩, .slice IA m ic, .bool c.fl] := hw1 ▸ hz ▸ Cells.new w _ _
  have HO : Hid (Only [] w w1) := Lib.hid (hw1 ▸ (Only.refl _ _).alloc _)
  have HM := Lib.hid hm
  have c0 := HZ.cell (k := 0) rfl
  have c1 := HZ.cell (k := 1) rfl
  have c2 := HZ.cell (k := 2) rfl
  have c3 := HZ.cell (k := 3) rfl
  have c4 := HZ.cell (k := 4) rfl
  have c5 := HZ.cell (k := 5) rfl
  have c6 := HZ.cell (k := 6) rfl
  have c7 := HZ.cell (k := 7) rfl
  have c8 := HZ.cell (k := 8) rfl
  have c9 := HZ.cell (k := 9) rfl
  have c10 := HZ.cell (k := 10) rfl
  clear h hs
  unfold maxLen at hfl hdl hil
  go_enter Try.func34, Try.ntmps34
  cases iss : inB c.ss 1099511627776 with
  | false =>
    have HR : Hid (rightB c = false) := Lib.hid (by unfold rightB numB; rw [iss]; simp)
    go_wp2_with fail
    repeat (refine (in_call _ _ _).mono ?_; rintro e w2 ⟨rfl, rfl⟩; go_wp2_with fail)
    go_ret
    exact ⟨by rw [HR.out]; rfl, HO.out⟩
  | true =>
  cases isq : inB c.sq 1099511627776 with
  | false =>
    have HR : Hid (rightB c = false) := Lib.hid (by unfold rightB numB; rw [isq]; simp)
    go_wp2_with fail
    repeat (refine (in_call _ _ _).mono ?_; rintro e w2 ⟨rfl, rfl⟩; go_wp2_with fail)
    go_ret
    exact ⟨by rw [HR.out]; rfl, HO.out⟩
  | true =>
  cases iep : inB c.ep 1099511627776 with
  | false =>
    have HR : Hid (rightB c = false) := Lib.hid (by unfold rightB numB; rw [iep]; simp)
    go_wp2_with fail
    repeat (refine (in_call _ _ _).mono ?_; rintro e w2 ⟨rfl, rfl⟩; go_wp2_with fail)
    go_ret
    exact ⟨by rw [HR.out]; rfl, HO.out⟩
  | true =>
  cases inn : inB c.n 1099511627776 with
  | false =>
    have HR : Hid (rightB c = false) := Lib.hid (by unfold rightB numB; rw [inn]; simp)
    go_wp2_with fail
    repeat (refine (in_call _ _ _).mono ?_; rintro e w2 ⟨rfl, rfl⟩; go_wp2_with fail)
    go_ret
    exact ⟨by rw [HR.out]; rfl, HO.out⟩
  | true =>
  cases ish : inB c.sh 7 with
  | false =>
    have HR : Hid (rightB c = false) := Lib.hid (by unfold rightB numB; rw [ish]; simp)
    go_wp2_with fail
    repeat (refine (in_call _ _ _).mono ?_; rintro e w2 ⟨rfl, rfl⟩; go_wp2_with fail)
    go_ret
    exact ⟨by rw [HR.out]; rfl, HO.out⟩
  | true =>
  cases ind : inB c.nd 9 with
  | false =>
    have HR : Hid (rightB c = false) := Lib.hid (by unfold rightB numB; rw [ind]; simp)
    go_wp2_with fail
    repeat (refine (in_call _ _ _).mono ?_; rintro e w2 ⟨rfl, rfl⟩; go_wp2_with fail)
    go_ret
    exact ⟨by rw [HR.out]; rfl, HO.out⟩
  | true =>
  by_cases k1 : c.kd < 1
  · have dk1 : decide (c.kd < 1) = true := by simp; omega
    have HR : Hid (rightB c = false) := Lib.hid (by unfold rightB numB; rw [show decide (1 ≤ c.kd) = false from by simp; omega]; rfl)
    go_wp2_with fail
    repeat (refine (in_call _ _ _).mono ?_; rintro e w2 ⟨rfl, rfl⟩; go_wp2_with fail)
    go_ret
    exact ⟨by rw [HR.out]; rfl, HO.out⟩
  have dk1 : decide (c.kd < 1) = false := by simp; omega
  by_cases k2 : 9 < c.kd
  · have dk2 : decide (9 < c.kd) = true := by simp; omega
    have HR : Hid (rightB c = false) := Lib.hid (by unfold rightB numB; rw [show decide (c.kd ≤ 9) = false from by simp; omega]; simp)
    go_wp2_with fail
    repeat (refine (in_call _ _ _).mono ?_; rintro e w2 ⟨rfl, rfl⟩; go_wp2_with fail)
    go_ret
    exact ⟨by rw [HR.out]; rfl, HO.out⟩
  have dk2 : decide (9 < c.kd) = false := by simp; omega
  by_cases k3 : 200 < c.fd.length
  · have dk3 : decide ((200 : Int) < (c.fd.length : Int)) = true := by simp; omega
    have HR : Hid (rightB c = false) := Lib.hid (by unfold rightB lenB; rw [show decide (c.fd.length ≤ 200) = false from by simp; omega]; simp)
    go_wp2_with fail
    repeat (refine (in_call _ _ _).mono ?_; rintro e w2 ⟨rfl, rfl⟩; go_wp2_with fail)
    go_ret
    exact ⟨by rw [HR.out]; rfl, HO.out⟩
  have dk3 : decide ((200 : Int) < (c.fd.length : Int)) = false := by simp; omega
  by_cases k4 : 200 < c.id.length
  · have dk4 : decide ((200 : Int) < (c.id.length : Int)) = true := by simp; omega
    have HR : Hid (rightB c = false) := Lib.hid (by unfold rightB lenB; rw [show decide (c.id.length ≤ 200) = false from by simp; omega]; simp)
    go_wp2_with fail
    repeat (refine (in_call _ _ _).mono ?_; rintro e w2 ⟨rfl, rfl⟩; go_wp2_with fail)
    go_ret
    exact ⟨by rw [HR.out]; rfl, HO.out⟩
  have dk4 : decide ((200 : Int) < (c.id.length : Int)) = false := by simp; omega
  by_cases k5 : 100 < m
  · have dk5 : decide ((100 : Int) < (m : Int)) = true := by simp; omega
    have HR : Hid (rightB c = false) := Lib.hid (by unfold rightB lenB; rw [show decide (c.its.length ≤ 100) = false from by simp; omega]; simp)
    go_wp2_with fail
    repeat (refine (in_call _ _ _).mono ?_; rintro e w2 ⟨rfl, rfl⟩; go_wp2_with fail)
    go_ret
    exact ⟨by rw [HR.out]; rfl, HO.out⟩
  have dk5 : decide ((100 : Int) < (m : Int)) = false := by simp; omega
  have hnb : numB c = true := numB_iff.2 ⟨⟨by omega, by omega⟩, iss, isq, iep, inn, ish, ind⟩
  have HR : Hid (rightB c = (bareB c && c.its.all itR)) := Lib.hid (by
    have a1 : lenB c = true := lenB_iff.2 ⟨by omega, by omega, by omega⟩
    unfold rightB
    rw [a1, hnb]; rfl)
  have HBI : Hid (bareB c = true ↔ cmdb (onlyC c) = cmdb c.bare ∧ ¬ (0 < c.its.length ∧ (c.kd ≠ 8 ∨ c.fl = true))) := Lib.hid (by rw [only_bytes H.out HSM.out]; exact only_iff c hnb)
  have HK : Hid (1 ≤ c.kd ∧ c.kd ≤ 9) := Lib.hid ⟨by omega, by omega⟩
  go_wp2_with fail
  repeat (refine (in_call _ _ _).mono ?_; rintro e w2 ⟨rfl, rfl⟩; go_wp2_with fail)
  clear iss isq iep inn ish ind hfl hdl hnb dk1 dk2 dk3 dk4 dk5 hw1 hz
  go_loopw [4] (fun i wr => ∃ k : Nat, k ≤ m ∧ i = .int .i64 k ∧ Hid ((c.its.take k).all itR = true) ∧ Hid (Cells wr z 65 [.int .i64 c.kd, .int .i64 c.ss, .int .i64 c.sq, .int .i64 c.sh, .int .i64 c.nd, .int .i64 c.ep, .int .i64 c.n, .string ⟨c.fd.toArray⟩, .string ⟨c.id.toArray⟩, .slice IA m ic, .bool c.fl]) ∧ Hid (Only [] w wr)) (fun i _ => m - (intOf i).toNat)
  case atStart => exact ⟨0, by omega, rfl, Lib.hid rfl, Lib.hid HZ, HO⟩
  case round =>
    obtain ⟨k, hk, rfl, hall, hZ, ho⟩ := hrel
    clear c0 c1 c2 c3 c4 c5 c6 c7 c8 c9 c10
    have c0 := hZ.out.cell (k := 0) rfl
    have c9 := hZ.out.cell (k := 9) rfl
    have c10 := hZ.out.cell (k := 10) rfl
    by_cases hlt : k < m
    · have hlt' : (k : Int) < (m : Int) := by omega
      have dlt : decide ((k : Int) < (m : Int)) = true := by simpa using hlt
      obtain ⟨x, hx⟩ : ∃ x, c.its[k]? = some x := ⟨_, List.getElem?_eq_getElem (by rw [hm']; exact hlt)⟩
      obtain ⟨b1, o1, c1', e1, q0, q1, q2⟩ := itL_at (H.out.only ho.out).its hx
      have hxl := H.out.len x (List.mem_of_getElem? hx)
      have HT : Hid ((c.its.take (k + 1)).all itR = itR x) := Lib.hid (by rw [List.take_add_one, hx, List.all_append, hall.out]; simp)
      have HA : Hid (itR x = false → c.its.all itR = false) := Lib.hid (fun h => by
        by_cases h2 : c.its.all itR = true
        · have := List.all_eq_true.1 h2 x (List.mem_of_getElem? hx)
          rw [h] at this; cases this
        · simpa using h2)
      have F := Lib.hid (ref13_right x hxl wr)
      injection e1 with i1 i2 i3
      subst i1
      subst i3
      clear i2 hx hall hxl
      obtain ⟨r, hr⟩ : ∃ r, itR x = r := ⟨_, rfl⟩
      rw [hr] at F HT HA
      clear hr
      go_wp2_with fail
      refine F.out.mono ?_
      rintro e w3 ⟨rfl, ho3⟩
      have HZ3 := Lib.hid (hZ.out.only ho3 (by simp))
      have HO3 := Lib.hid (ho.out.tr ho3)
      clear ho3 F c0 c9 c10 q0 q1 q2 hZ ho
      cases r with
      | false =>
        have HF : Hid (c.its.all itR = false) := Lib.hid (HA.out rfl)
        clear HA
        go_wp2_with fail
        go_ret
        exact ⟨by rw [HR.out, HF.out, Bool.and_false]; rfl, HO3.out⟩
      | true =>
        go_wp2_with fail
        go_roundw
        case rel => exact ⟨k + 1, by omega, by go_num, HT, HZ3, HO3⟩
        case measure => simp [intOf]; omega
    · obtain rfl : k = m := by omega
      have dlt : decide ((k : Int) < (k : Int)) = false := by simp
      have HA : Hid (c.its.all itR = true) := Lib.hid (by have := hall.out; rwa [List.take_of_length_le (by omega)] at this)
      clear hall
      by_cases hbad : 0 < k ∧ (c.kd ≠ 8 ∨ c.fl = true)
      · have HB : Hid (bareB c = false) := Lib.hid (by
          cases hb : bareB c with
          | false => rfl
          | true => exact absurd (by rw [HM.out]; exact hbad) (HBI.out.1 hb).2)
        obtain ⟨hb1, hb2⟩ := hbad
        have db1 : decide ((0 : Int) < (k : Int)) = true := by simpa using hb1
        by_cases hk8 : c.kd = 8
        · have db2 : (!(c.kd == 8)) = false := by simp [hk8]
          have hfl1 : c.fl = true := hb2.resolve_left (fun h => h hk8)
          go_wp2_with fail
          go_ret
          exact ⟨by rw [HR.out, HB.out]; rfl, ho.out⟩
        · have db2 : (c.kd == 8) = false := by simpa using hk8
          go_wp2_with fail
          go_ret
          exact ⟨by rw [HR.out, HB.out]; rfl, ho.out⟩
      · have HB : Hid (bareB c = (cmdb (onlyC c) == cmdb c.bare)) := Lib.hid (by
          rw [Bool.eq_iff_iff, HBI.out, HM.out, beq_iff_eq]
          exact and_iff_left hbad)
        have HCO := Lib.hid (fun w' => only_call c (.slice IA k ic) w' HK.out)
        have HCW := Lib.hid (fun w' => without_call c (.slice IA k ic) w')
        have HCB1 := Lib.hid (fun w' => ref18_bytes (onlyC c) (.slice none 0 0) w' (only_at H.out w') (only_sm HSM.out))
        have HCB2 := Lib.hid (fun w' => ref18_bytes c.bare (.slice none 0 0) w' (bare_at H.out w') (bare_sm HSM.out))
        have HV : Hid (c.val (.slice IA k ic) = .agg #[.int .i64 c.kd, .int .i64 c.ss, .int .i64 c.sq, .int .i64 c.sh, .int .i64 c.nd, .int .i64 c.ep, .int .i64 c.n, .string ⟨c.fd.toArray⟩, .string ⟨c.id.toArray⟩, .slice IA k ic, .bool c.fl]) := Lib.hid rfl
        rw [HV.out] at HCO HCW
        clear HK HBI HSM HV
        have c1 := hZ.out.cell (k := 1) rfl
        have c2 := hZ.out.cell (k := 2) rfl
        have c3 := hZ.out.cell (k := 3) rfl
        have c4 := hZ.out.cell (k := 4) rfl
        have c5 := hZ.out.cell (k := 5) rfl
        have c6 := hZ.out.cell (k := 6) rfl
        have c7 := hZ.out.cell (k := 7) rfl
        have c8 := hZ.out.cell (k := 8) rfl
        have t0 := fun u : Since wr => u.cell c0
        have t1 := fun u : Since wr => u.cell c1
        have t2 := fun u : Since wr => u.cell c2
        have t3 := fun u : Since wr => u.cell c3
        have t4 := fun u : Since wr => u.cell c4
        have t5 := fun u : Since wr => u.cell c5
        have t6 := fun u : Since wr => u.cell c6
        have t7 := fun u : Since wr => u.cell c7
        have t8 := fun u : Since wr => u.cell c8
        have t9 := fun u : Since wr => u.cell c9
        have t10 := fun u : Since wr => u.cell c10
        obtain ⟨V1, hV1⟩ : ∃ V, (onlyC c).val (.slice none 0 0) = V := ⟨_, rfl⟩
        obtain ⟨V2, hV2⟩ : ∃ V, c.bare.val (.slice none 0 0) = V := ⟨_, rfl⟩
        obtain ⟨B1, hB1⟩ : ∃ V, cmdb (onlyC c) = V := ⟨_, rfl⟩
        obtain ⟨B2, hB2⟩ : ∃ V, cmdb c.bare = V := ⟨_, rfl⟩
        rw [hV1] at HCO HCB1
        rw [hV2] at HCW HCB2
        rw [hB1] at HB HCB1
        rw [hB2] at HB HCB2
        clear hV1 hV2 hB1 hB2 H
        have hk0 : 0 < k → c.kd = 8 ∧ c.fl = false := fun h => by
          refine ⟨?_, ?_⟩
          · by_cases h8 : c.kd = 8
            · exact h8
            · exact absurd ⟨h, .inl h8⟩ hbad
          · by_cases h8 : c.fl = true
            · exact absurd ⟨h, .inr h8⟩ hbad
            · simpa using h8
        clear hbad HZ hlt hk hm hm' HM
        by_cases g9 : 0 < k
        · obtain ⟨g1, g2⟩ := hk0 g9
          have g3 : (0 : Int) < (k : Int) := by omega
          simp only [g1, g2] at HCO HCW hZ t0 t10 c0 c10 ⊢
          clear g1 g2 hk0
          go_wp2_with fail
          clear c0 c1 c2 c3 c4 c5 c6 c7 c8 c9 c10
          refine wp_region_only wr (Only.refl _ _) (by kernel_rfl) (by kernel_rfl) ?_
          repeat (go_big_quiet_step (first
            | (go_at_call 75; refine Calls.only (HCO.out _))
            | (go_at_call 76; refine Calls.only (HCW.out _))
            | (go_at_call 69; with_reducible refine Calls.only (HCB1.out _))
            | (go_at_call 69; refine Calls.only (HCB2.out _))))
          refine wpQuiet_nil ?_
          rintro ⟨w8, ho8⟩
          dsimp only
          go_wp2_with fail
          go_ret
          exact ⟨by rw [HR.out, HB.out, HA.out, Bool.and_true]; simp, ho.out.tr ho8⟩
        · obtain rfl : k = 0 := by omega
          clear hk0
          go_wp2_with fail
          clear c0 c1 c2 c3 c4 c5 c6 c7 c8 c9 c10
          refine wp_region_only wr (Only.refl _ _) (by kernel_rfl) (by kernel_rfl) ?_
          repeat (go_big_quiet_step (first
            | (go_at_call 75; refine Calls.only (HCO.out _))
            | (go_at_call 76; refine Calls.only (HCW.out _))
            | (go_at_call 69; with_reducible refine Calls.only (HCB1.out _))
            | (go_at_call 69; refine Calls.only (HCB2.out _))))
          refine wpQuiet_nil ?_
          rintro ⟨w8, ho8⟩
          dsimp only
          go_wp2_with fail
          go_ret
          exact ⟨by rw [HR.out, HB.out, HA.out, Bool.and_true]; simp, ho.out.tr ho8⟩
end Go.Proofs.Ytjfnkjpnjiobjaa
