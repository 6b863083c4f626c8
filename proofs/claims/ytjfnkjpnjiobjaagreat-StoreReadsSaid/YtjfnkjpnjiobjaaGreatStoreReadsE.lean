/-
  What StoreReads leans on, part 5: contracts of the functions that it reaches, and plain facts; each theorem bears its own conditions.
-/
import Derived.Test.YtjfnkjpnjiobjaaGreatStoreReadsD
namespace Go.Proofs.YtjfnkjpnjiobjaaGreat
open Go.RowKit
theorem hd_int (r r1 r2 r3 r4 : Rd) (hb : r.bad = false) (h1 : r1 = r.text.2) (h2 : r2 = r1.int.2) (h3 : r3 = r2.int.2) (h4 : r4 = r3.int.2) :
    rdHd r.s = if r4.bad = false ∧ okHd r.text.1 r1.int.1 r2.int.1 r3.int.1 = true then some ((r.text.1, r1.int.1, r2.int.1, r3.int.1), r4.s) else none := by
  cases hb4 : r4.bad with
  | false =>
    rw [h4] at hb4
    obtain ⟨k3, e3⟩ := get_in hb4
    rw [h3] at k3
    obtain ⟨k2, e2⟩ := get_in k3
    rw [h2] at k2
    obtain ⟨k1, e1⟩ := get_in k2
    rw [h1] at k1
    obtain ⟨_, e0⟩ := get_in k1
    have e0' : rdT r.s = some (r.text.1, r1.s) := h1 ▸ e0
    have e1' : rdI r1.s = some (r1.int.1, r2.s) := h2 ▸ e1
    have e2' : rdI r2.s = some (r2.int.1, r3.s) := h3 ▸ e2
    have e3' : rdI r3.s = some (r3.int.1, r4.s) := h4 ▸ e3
    unfold rdHd
    rw [e0']; dsimp only
    rw [e1']; dsimp only
    rw [e2']; dsimp only
    rw [e3']; dsimp only
    simp
  | true =>
    rw [if_neg (by simp)]
    cases hx : rdHd r.s with
    | none => rfl
    | some x =>
      exfalso
      unfold rdHd at hx
      obtain ⟨s, b⟩ := r
      dsimp only at hb hx
      subst hb
      split at hx
      · cases hx
      · rename_i nm s1 g1
        have f1 : Rd.text ⟨s, false⟩ = (nm, ⟨s1, false⟩) := get_out g1
        rw [f1] at h1
        subst h1
        split at hx
        · cases hx
        · rename_i p s2 g2
          have f2 : Rd.int ⟨s1, false⟩ = (p, ⟨s2, false⟩) := get_out g2
          dsimp only at h2
          rw [f2] at h2
          subst h2
          split at hx
          · cases hx
          · rename_i f s3 g3
            have f3 : Rd.int ⟨s2, false⟩ = (f, ⟨s3, false⟩) := get_out g3
            dsimp only at h3
            rw [f3] at h3
            subst h3
            split at hx
            · cases hx
            · rename_i n s4 g4
              have f4 : Rd.int ⟨s3, false⟩ = (n, ⟨s4, false⟩) := get_out g4
              dsimp only at h4
              rw [f4] at h4
              subst h4
              cases hb4
theorem own_cells {w : World} {base : Nat} {e : TypeId} {sz n : Nat} {v : Value} {xs : List Value} (h : w.ownsRow base e sz v n xs) {g : Nat} (hg : v.ownBlock = some g) : ∃ cs, Cells w g e cs := by
  obtain ⟨_, ⟨rfl, _⟩ | ⟨b, cap, cur, rfl, _, hh, _⟩⟩ := h
  · cases hg
  · injection hg with hg
    subst hg
    exact ⟨cur.toList, hh⟩
def TrF (w w' : World) (z : Nat) (r : Rd) (e : Ending) : Prop := ∃ r' nm pol fai A m c ok, e = .returned (.tuple #[.agg #[.string ⟨nm.toArray⟩, .int .i64 pol, .int .i64 fai, .slice A m c], .bool ok]) ∧ TrAt w' z r' ∧ Only [z] w w' ∧ nm.length ≤ maxLen ∧ match rdFd r.s with
  | none => ok = false
  | some (x, t) => ok = true ∧ r' = ⟨t, false⟩ ∧ nm = x.1 ∧ pol = x.2.pol ∧ fai = x.2.fai ∧ RfS w' (.slice A m c) 5 x.2.ps.length (poL x.2.ps) ∧ ∀ g, (Value.slice A m c).ownBlock = some g → w.heap.size ≤ g ∧ g < w'.heap.size ∧ ∃ cs, Cells w' g 52 cs
set_option maxRecDepth 100000 in
set_option maxHeartbeats 4000000 in
theorem tr_feed (z : Nat) (r : Rd) (w : World) (h : TrAt w z r) (hb : r.bad = false) :
    Calls Tryz.prog 48 #[.pointer (some ⟨z, 0, none⟩)] w fun e w' => TrF w w' z r e := by
  have hl := h.2
  have hzw := h.1.lt
  obtain ⟨r1, h1⟩ : ∃ q, r.text.2 = q := ⟨_, rfl⟩
  obtain ⟨r2, h2⟩ : ∃ q, r1.int.2 = q := ⟨_, rfl⟩
  obtain ⟨r3, h3⟩ : ∃ q, r2.int.2 = q := ⟨_, rfl⟩
  obtain ⟨r4, h4⟩ : ∃ q, r3.int.2 = q := ⟨_, rfl⟩
  have HCH := Lib.hid (hd_int r r1 r2 r3 r4 hb h1.symm h2.symm h3.symm h4.symm)
  have hnl := Rd.len_text hl
  have C1 := Lib.hid (fun w' hh => tr_text z r w' hh)
  rw [h1] at C1
  have C2 := Lib.hid (fun w' hh => tr_int z r1 w' hh)
  have C3 := Lib.hid (fun w' hh => tr_int z r2 w' hh)
  have C4 := Lib.hid (fun w' hh => tr_int z r3 w' hh)
  rw [h2] at C2
  rw [h3] at C3
  rw [h4] at C4
  obtain ⟨nm, ha⟩ : ∃ q, r.text.1 = q := ⟨_, rfl⟩
  obtain ⟨pol, hb'⟩ : ∃ q, r1.int.1 = q := ⟨_, rfl⟩
  obtain ⟨fai, hc⟩ : ∃ q, r2.int.1 = q := ⟨_, rfl⟩
  obtain ⟨n, hd⟩ : ∃ q, r3.int.1 = q := ⟨_, rfl⟩
  rw [ha] at C1 HCH hnl
  rw [hb'] at C2 HCH
  rw [hc] at C3 HCH
  rw [hd] at C4 HCH
  have HS := Lib.hid h
  have CN := Lib.hid (fun w' => ref_name14 nm w' (by unfold maxLen at hnl; omega))
  clear h h1 h2 h3 h4 ha hb' hc hd
  go_enter Tryz.func48, Tryz.ntmps48
  go_wp2_with fail
  obtain ⟨w1, hw1⟩ : ∃ u, w.alloc (.cells #[.string ⟨#[]⟩, .int .i64 0, .int .i64 0, .slice none 0 0] 59) = u := ⟨_, rfl⟩
  obtain ⟨R, hR⟩ : ∃ R, w.heap.size = R := ⟨_, rfl⟩
  have o1 : Only [] w w1 := hw1 ▸ (Only.refl _ _).alloc _
  have hR1 : Cells w1 R 59 [.string ⟨#[]⟩, .int .i64 0, .int .i64 0, .slice none 0 0] := hw1 ▸ hR ▸ Cells.new w _ _
  rw [hw1, hR]
  have HT1 := Lib.hid (HS.out.only o1 (by simp))
  have HO1 : Hid (Only [z] w w1) := Lib.hid o1.of0
  have HR1 := Lib.hid hR1
  have hzR : z < R := by omega
  have HRW := Lib.hid hR
  clear hw1 hR o1 hR1
  refine (C1.out _ HT1.out).mono ?_
  rintro e w2 ⟨rfl, hA, ho⟩
  have HT2 := Lib.hid hA
  have HO2 := Lib.hid (HO1.out.tr ho)
  have HR2 := Lib.hid (HR1.out.only ho (by simp; omega))
  clear hA ho C1 HT1 HO1 HR1
  go_upto_region 2 with fail
  obtain ⟨w3, hw3⟩ : ∃ u, w2.alloc (.cells #[.string ⟨nm.toArray⟩, .int .i64 0, .int .i64 0, .slice none 0 0] 59) = u := ⟨_, rfl⟩
  obtain ⟨y, hy⟩ : ∃ y, w2.heap.size = y := ⟨_, rfl⟩
  have o3 : Only [] w2 w3 := hw3 ▸ (Only.refl _ _).alloc _
  have hY3 : Cells w3 y 59 [.string ⟨nm.toArray⟩, .int .i64 0, .int .i64 0, .slice none 0 0] := hw3 ▸ hy ▸ Cells.new w2 _ _
  rw [hw3, hy]
  have HT3 := Lib.hid (HT2.out.only o3 (by simp))
  have HO3 := Lib.hid (HO2.out.tr0 o3)
  have HR3 := Lib.hid (HR2.out.only o3 (by simp))
  have HY3 := Lib.hid hY3
  have hRy : R < y := by have := HR2.out.lt; omega
  clear hw3 hy o3 hY3 HT2 HO2 HR2
  go_wp2_with fail
  refine (C2.out _ HT3.out).mono ?_
  rintro e w4 ⟨rfl, hA, ho⟩
  have HT4 := Lib.hid hA
  have HO4 := Lib.hid (HO3.out.tr ho)
  have HR4 := Lib.hid (HR3.out.only ho (by simp; omega))
  have HY4 := Lib.hid (HY3.out.only ho (by simp; omega))
  have hyl := HY4.out.lt
  have y1 := HY4.out.cell (k := 1) rfl
  have fz1 := HY4.out.frozen 1
  clear hA ho C2 HT3 HO3 HR3 HY3
  go_upto_region 3 with fail
  obtain ⟨w5, hw5⟩ : ∃ u, w4.setCell ⟨y, 1, none⟩ (.int .i64 pol) = u := ⟨_, rfl⟩
  have hwy : w.heap.size ≤ y := by have := HRW.out; omega
  have o5 : Only [y] w4 w5 := hw5 ▸ (Only.refl _ _).setCell (.inl (by simp)) _
  rw [hw5]
  have HT5 := Lib.hid (HT4.out.only o5 (by simp; omega))
  have HO5 := Lib.hid (HO4.out.trans o5 (fun x hx => by simp at hx; subst hx; exact .inr hwy))
  have HR5 := Lib.hid (HR4.out.only o5 (by simp; omega))
  have HY5 : Hid (Cells w5 y 59 [.string ⟨nm.toArray⟩, .int .i64 pol, .int .i64 0, .slice none 0 0]) := Lib.hid (hw5 ▸ HY4.out.set 1 _)
  clear hw5 o5 HT4 HO4 HR4 HY4 y1 fz1 hyl
  go_wp2_with fail
  refine (C3.out _ HT5.out).mono ?_
  rintro e w6 ⟨rfl, hA, ho⟩
  have HT6 := Lib.hid hA
  have HO6 := Lib.hid (HO5.out.tr ho)
  have HR6 := Lib.hid (HR5.out.only ho (by simp; omega))
  have HY6 := Lib.hid (HY5.out.only ho (by simp; omega))
  have hyl := HY6.out.lt
  have y2 := HY6.out.cell (k := 2) rfl
  have fz2 := HY6.out.frozen 2
  clear hA ho C3 HT5 HO5 HR5 HY5
  go_upto_region 4 with fail
  obtain ⟨w7, hw7⟩ : ∃ u, w6.setCell ⟨y, 2, none⟩ (.int .i64 fai) = u := ⟨_, rfl⟩
  have o7 : Only [y] w6 w7 := hw7 ▸ (Only.refl _ _).setCell (.inl (by simp)) _
  rw [hw7]
  have HT7 := Lib.hid (HT6.out.only o7 (by simp; omega))
  have HO7 := Lib.hid (HO6.out.trans o7 (fun x hx => by simp at hx; subst hx; exact .inr hwy))
  have HR7 := Lib.hid (HR6.out.only o7 (by simp; omega))
  have HY7 : Hid (Cells w7 y 59 [.string ⟨nm.toArray⟩, .int .i64 pol, .int .i64 fai, .slice none 0 0]) := Lib.hid (hw7 ▸ HY6.out.set 2 _)
  clear hw7 o7 HT6 HO6 HR6 HY6 y2 fz2 hyl
  go_wp2_with fail
  refine (C4.out _ HT7.out).mono ?_
  rintro e w8 ⟨rfl, hA, ho⟩
  have HT8 := Lib.hid hA
  have HO8 := Lib.hid (HO7.out.tr ho)
  have HR8 := Lib.hid (HR7.out.only ho (by simp; omega))
  have HY8 := Lib.hid (HY7.out.only ho (by simp; omega))
  have y0 := HY8.out.cell (k := 0) rfl
  have y1 := HY8.out.cell (k := 1) rfl
  have y2 := HY8.out.cell (k := 2) rfl
  have z1 := hA.1.cell (k := 1) rfl
  clear hA ho C4 HT7 HO7 HR7 HY7
  go_wp2_with fail
  refine (CN.out _).mono ?_
  rintro e w9 ⟨rfl, rfl⟩
  obtain ⟨ok, hok⟩ : ∃ b, nmL nm = b := ⟨_, rfl⟩
  have HNM := Lib.hid hok
  rw [hok]
  clear hok CN
  obtain ⟨s4, b4⟩ := r4
  dsimp only at z1
  obtain ⟨q, hq⟩ : ∃ q, (b4 || !okHd nm pol fai n) = q := ⟨_, rfl⟩
  have HQ := Lib.hid hq
  clear hq
  go_upto_region 6 with fail
  go_cut [79] from 29 (fun v wx => v = .bool q ∧ wx = w8)
  case first =>
    cases b4 with
    | true =>
      have e : Hid (true = q) := Lib.hid (by rw [← HQ.out]; rfl)
      go_wp2_with fail
      go_meet
      exact ⟨by rw [← e.out], rfl⟩
    | false =>
    cases ok with
    | false =>
      have e : Hid (true = q) := Lib.hid (by rw [← HQ.out]; cases hk : okHd nm pol fai n with | false => simp | true => (exfalso; have := (okHd_iff _ _ _ _).1 hk; rw [HNM.out] at this; exact absurd this.1 (by simp)))
      go_wp2_with fail
      go_meet
      exact ⟨by rw [← e.out], rfl⟩
    | true =>
    by_cases t0 : pol < -1
    · have e : Hid (true = q) := Lib.hid (by rw [← HQ.out]; cases hk : okHd nm pol fai n with | false => simp | true => (exfalso; have := (okHd_iff _ _ _ _).1 hk; omega))
      have d0 : decide (pol < -1) = true := decide_eq_true t0
      go_wp2_with fail
      go_meet
      exact ⟨by rw [← e.out], rfl⟩
    have d0 : decide (pol < -1) = false := decide_eq_false t0
    by_cases t1 : 1099511627776 < pol
    · have e : Hid (true = q) := Lib.hid (by rw [← HQ.out]; cases hk : okHd nm pol fai n with | false => simp | true => (exfalso; have := (okHd_iff _ _ _ _).1 hk; omega))
      have d1 : decide (1099511627776 < pol) = true := decide_eq_true t1
      go_wp2_with fail
      go_meet
      exact ⟨by rw [← e.out], rfl⟩
    have d1 : decide (1099511627776 < pol) = false := decide_eq_false t1
    by_cases t2 : fai < 0
    · have e : Hid (true = q) := Lib.hid (by rw [← HQ.out]; cases hk : okHd nm pol fai n with | false => simp | true => (exfalso; have := (okHd_iff _ _ _ _).1 hk; omega))
      have d2 : decide (fai < 0) = true := decide_eq_true t2
      go_wp2_with fail
      go_meet
      exact ⟨by rw [← e.out], rfl⟩
    have d2 : decide (fai < 0) = false := decide_eq_false t2
    by_cases t3 : 1000 < fai
    · have e : Hid (true = q) := Lib.hid (by rw [← HQ.out]; cases hk : okHd nm pol fai n with | false => simp | true => (exfalso; have := (okHd_iff _ _ _ _).1 hk; omega))
      have d3 : decide (1000 < fai) = true := decide_eq_true t3
      go_wp2_with fail
      go_meet
      exact ⟨by rw [← e.out], rfl⟩
    have d3 : decide (1000 < fai) = false := decide_eq_false t3
    by_cases t4 : n < 0
    · have e : Hid (true = q) := Lib.hid (by rw [← HQ.out]; cases hk : okHd nm pol fai n with | false => simp | true => (exfalso; have := (okHd_iff _ _ _ _).1 hk; omega))
      have d4 : decide (n < 0) = true := decide_eq_true t4
      go_wp2_with fail
      go_meet
      exact ⟨by rw [← e.out], rfl⟩
    have d4 : decide (n < 0) = false := decide_eq_false t4
    by_cases t5 : 200 < n
    · have e : Hid (true = q) := Lib.hid (by rw [← HQ.out]; cases hk : okHd nm pol fai n with | false => simp | true => (exfalso; have := (okHd_iff _ _ _ _).1 hk; omega))
      have d5 : decide (200 < n) = true := decide_eq_true t5
      go_wp2_with fail
      go_meet
      exact ⟨by rw [← e.out], rfl⟩
    have d5 : decide (200 < n) = false := decide_eq_false t5
    by_cases t6 : pol < 0
    · have d6 : decide (pol < 0) = true := decide_eq_true t6
      by_cases t7 : 0 < fai
      · have e : Hid (true = q) := Lib.hid (by rw [← HQ.out]; cases hk : okHd nm pol fai n with | false => simp | true => (exfalso; have := (okHd_iff _ _ _ _).1 hk; omega))
        have d7 : decide (0 < fai) = true := decide_eq_true t7
        go_wp2_with fail
        go_meet
        exact ⟨by rw [← e.out], rfl⟩
      · have d7 : decide (0 < fai) = false := decide_eq_false t7
        by_cases t8 : 0 < n
        · have e : Hid (true = q) := Lib.hid (by rw [← HQ.out]; cases hk : okHd nm pol fai n with | false => simp | true => (exfalso; have := (okHd_iff _ _ _ _).1 hk; omega))
          have d8 : decide (0 < n) = true := decide_eq_true t8
          go_wp2_with fail
          go_meet
          exact ⟨by rw [← e.out], rfl⟩
        · have e : Hid (false = q) := Lib.hid (by rw [← HQ.out, (okHd_iff nm pol fai n).2 ⟨HNM.out, by omega, by omega, by omega, by omega, by omega, by omega, by omega⟩]; rfl)
          have d8 : decide (0 < n) = false := decide_eq_false t8
          go_wp2_with fail
          go_meet
          exact ⟨by rw [← e.out], rfl⟩
    · have d6 : decide (pol < 0) = false := decide_eq_false t6
      have e : Hid (false = q) := Lib.hid (by rw [← HQ.out, (okHd_iff nm pol fai n).2 ⟨HNM.out, by omega, by omega, by omega, by omega, by omega, by omega, by omega⟩]; rfl)
      go_wp2_with fail
      go_meet
      exact ⟨by rw [← e.out], rfl⟩
  case rest =>
  obtain ⟨rfl, rfl⟩ := hcut
  have hsetR : ∀ (w' : World) (row : Array Value), Only [R] w' (w'.setRow R row) := fun w' row => (Only.refl _ _).setRow (.inl (by simp)) _
  cases q with
  | true =>
    have hR : rdFd r.s = none := by
      have := HCH.out
      rw [if_neg (by
        rintro ⟨k1, k2⟩
        have hq := HQ.out
        replace k1 : b4 = false := k1
        rw [k1, k2] at hq
        cases hq)] at this
      unfold rdFd
      rw [this]
    have HFIN : Hid (∀ row, TrF w (wc.setRow R row) z r (.returned (.tuple #[.agg #[.string ⟨nm.toArray⟩, .int .i64 pol, .int .i64 fai, .slice none 0 0], .bool false]))) := Lib.hid (fun row => ⟨⟨s4, b4⟩, nm, pol, fai, none, 0, 0, false, rfl, HT8.out.only (hsetR _ _) (by simp; omega), HO8.out.trans (hsetR _ _) (fun x hx => by simp at hx; subst hx; exact .inr (by have := HRW.out; omega)), hnl, by rw [hR]⟩)
    clear hsetR hR
    have g0 := HY8.out.cell (k := 0) rfl
    have g1 := HY8.out.cell (k := 1) rfl
    have g2 := HY8.out.cell (k := 2) rfl
    have g3 := HY8.out.cell (k := 3) rfl
    have hst := HR8.out
    have hone : (#[.string ⟨nm.toArray⟩, .int .i64 pol, .int .i64 fai, .slice none 0 0] : Array Value).all (·.oneCell') = true := by simp [Value.oneCell']
    go_wp2_with (refine wpList_store_row rfl 59 _ _ rfl R #[.string ⟨nm.toArray⟩, .int .i64 pol, .int .i64 fai, .slice none 0 0] rfl rfl 59 _ hst (by kernel_rfl) rfl hone ?_)
    (try simp only [Exit.inBlock, Exit.then])
    refine bodyPost_ret (v := .tuple #[.agg #[.string ⟨nm.toArray⟩, .int .i64 pol, .int .i64 fai, .slice none 0 0], .bool false]) ?_ rfl (HFIN.out _)
    exact results_row_tmp Tryz.results48 _ _ R 59 [.string ⟨nm.toArray⟩, .int .i64 pol, .int .i64 fai, .slice none 0 0] _ rfl (Cells.setRow HR8.out [.string ⟨nm.toArray⟩, .int .i64 pol, .int .i64 fai, .slice none 0 0]) Tryz.underlying59 rfl (by kernel_rfl)
  | false =>
  -- THE LOOP
  obtain ⟨b0, hok⟩ : b4 = false ∧ okHd nm pol fai n = true := by
    have := HQ.out
    simp only [Bool.or_eq_false_iff, Bool.not_eq_false'] at this
    exact this
  obtain ⟨hnm, n0, n1, n2, n3, n4, n5, _⟩ := (okHd_iff _ _ _ _).1 hok
  have hH : rdHd r.s = some ((nm, pol, fai, n), s4) := by
    have := HCH.out
    rw [if_pos ⟨b0, hok⟩] at this
    exact this
  obtain ⟨N, hN⟩ : ∃ N : Nat, n.toNat = N := ⟨_, rfl⟩
  have hn : n = (N : Int) := by omega
  have hN2 : N ≤ 200 := by omega
  have HR : Hid (rdFd r.s = match rdPs N [] s4 with | none => none | some (ps, u) => some ((nm, ⟨pol, fai, ps⟩), u)) := Lib.hid (by
    unfold rdFd; rw [hH]; dsimp only; rw [hN]
    all_goals (cases rdPs N [] s4 with | none => rfl | some x => (cases x; rfl)))
  obtain ⟨i0, hi0, hz0, hz1, hz2⟩ := info_parts info_post
  subst hn
  subst b0
  have hRW := HRW.out
  clear hH hok HNM HCH HQ hN hb hwy HRW HS y0 y1 y2 z1 hsetR
  go_wp2_with fail
  go_loopw [7] (fun i wr => ∃ (k : Nat) (t : List UInt8) (pv : Value) (ps : List Po), k ≤ N ∧ i = .int .i64 k ∧ Hid (TrAt wr z ⟨t, false⟩) ∧ Hid (Only [z] w wr) ∧ Hid (Cells wr R 59 [.string ⟨#[]⟩, .int .i64 0, .int .i64 0, .slice none 0 0]) ∧ Hid (Cells wr y 59 [.string ⟨nm.toArray⟩, .int .i64 pol, .int .i64 fai, pv]) ∧ Hid (wr.ownsRow R 52 5 pv k (poL ps)) ∧ ps.length = k ∧ Hid (rdPs N [] s4 = rdPs (N - k) ps t)) (fun i _ => N - (intOf i).toNat)
  case atStart => exact ⟨0, s4, .slice none 0 0, [], by omega, rfl, HT8, HO8, HR8, HY8, Lib.hid (World.ownsRow_nil _ _ _ _), rfl, Lib.hid rfl⟩
  case round =>
    obtain ⟨k, t, pv, ps, hk, rfl, HT, HO, HRR, HY, HOW, hpl, HN⟩ := hrel
    obtain ⟨A, cap, rfl⟩ := (SlAt.of_own HOW.out).shape
    have hne : (Value.slice A k cap).ownBlock ≠ some z := own_ne_block HOW.out HT.out.1 (by decide)
    have hne2 : (Value.slice A k cap).ownBlock ≠ some y := own_ne_block HOW.out HY.out (by decide)
    have hne3 : (Value.slice A k cap).ownBlock ≠ some R := own_ne_block HOW.out HRR.out (by decide)
    by_cases hlt : k < N
    · have hlt' : (k : Int) < (N : Int) := by omega
      have hl0 := HT.out.2
      obtain ⟨p1, e1⟩ : ∃ q, (⟨t, false⟩ : Rd).text.2 = q := ⟨_, rfl⟩
      obtain ⟨p2, e2⟩ : ∃ q, p1.text.2 = q := ⟨_, rfl⟩
      obtain ⟨p3, e3⟩ : ∃ q, p2.text.2 = q := ⟨_, rfl⟩
      have hl1 : p1.s.length ≤ 1000000000000 := e1 ▸ text_len hl0
      have hl2 : p2.s.length ≤ 1000000000000 := e2 ▸ text_len hl1
      have hl3 : p3.s.length ≤ 1000000000000 := e3 ▸ text_len hl2
      have HCH := Lib.hid (po_chain ⟨t, false⟩ p1 p2 p3 p3.bool.2 ps rfl e1.symm e2.symm e3.symm rfl)
      have HL : Hid (It.Len ⟨(⟨t, false⟩ : Rd).text.1, p1.text.1, p2.text.1⟩) := Lib.hid ⟨Rd.len_text hl0, Rd.len_text hl1, Rd.len_text hl2⟩
      have D1 := Lib.hid (tr_text z ⟨t, false⟩ wr HT.out)
      rw [e1] at D1
      have D2 := Lib.hid (fun w' hh => tr_text z p1 w' hh)
      have D3 := Lib.hid (fun w' hh => tr_text z p2 w' hh)
      rw [e2] at D2
      rw [e3] at D3
      have D4 := Lib.hid (fun w' => ref_toBool p3.s w' hl3)
      obtain ⟨a, ha⟩ : ∃ q, (⟨t, false⟩ : Rd).text.1 = q := ⟨_, rfl⟩
      obtain ⟨b, hb'⟩ : ∃ q, p1.text.1 = q := ⟨_, rfl⟩
      obtain ⟨c, hc⟩ : ∃ q, p2.text.1 = q := ⟨_, rfl⟩
      rw [ha] at D1 HCH HL
      rw [hb'] at D2 HCH HL
      rw [hc] at D3 HCH HL
      have CR := Lib.hid (ref13_right ⟨a, b, c⟩ HL.out)
      obtain ⟨ir, hir⟩ : ∃ q, itR ⟨a, b, c⟩ = q := ⟨_, rfl⟩
      rw [hir] at CR HCH
      clear e1 e2 e3 ha hb' hc hir
      go_wp2_with fail
      refine D1.out.mono ?_
      rintro e wa ⟨rfl, hA, ho⟩
      have HTa := Lib.hid hA
      have HOa := Lib.hid (HO.out.tr ho)
      have HRa := Lib.hid (HRR.out.only ho (by simp; omega))
      have HYa := Lib.hid (HY.out.only ho (by simp; omega))
      have HWa := Lib.hid (own_keep HOW.out ho (by simpa using hne))
      clear hA ho D1 HT HO HRR HY HOW
      go_wp2_with fail
      refine (D2.out _ HTa.out).mono ?_
      rintro e wb ⟨rfl, hA, ho⟩
      have HTb := Lib.hid hA
      have HOb := Lib.hid (HOa.out.tr ho)
      have HRb := Lib.hid (HRa.out.only ho (by simp; omega))
      have HYb := Lib.hid (HYa.out.only ho (by simp; omega))
      have HWb := Lib.hid (own_keep HWa.out ho (by simpa using hne))
      clear hA ho D2 HTa HOa HRa HYa HWa
      go_wp2_with fail
      refine (D3.out _ HTb.out).mono ?_
      rintro e wc ⟨rfl, hA, ho⟩
      have HTc := Lib.hid hA
      have HOc := Lib.hid (HOb.out.tr ho)
      have HRc := Lib.hid (HRb.out.only ho (by simp; omega))
      have HYc := Lib.hid (HYb.out.only ho (by simp; omega))
      have HWc := Lib.hid (own_keep HWb.out ho (by simpa using hne))
      clear hA ho D3 HTb HOb HRb HYb HWb
      obtain ⟨wd, hwd⟩ : ∃ u, wc.alloc (.cells #[.string ⟨a.toArray⟩, .string ⟨b.toArray⟩, .string ⟨c.toArray⟩] 45) = u := ⟨_, rfl⟩
      obtain ⟨v, hv⟩ : ∃ y, wc.heap.size = y := ⟨_, rfl⟩
      have od : Only [] wc wd := hwd ▸ (Only.refl _ _).alloc _
      have HVd : Hid (Cells wd v 45 [.string ⟨a.toArray⟩, .string ⟨b.toArray⟩, .string ⟨c.toArray⟩]) := Lib.hid (hwd ▸ hv ▸ Cells.new wc _ _)
      have HTd := Lib.hid (HTc.out.only od (by simp))
      have HOd := Lib.hid (HOc.out.tr0 od)
      have HRd := Lib.hid (HRc.out.only od (by simp))
      have HYd := Lib.hid (HYc.out.only od (by simp))
      have HWd := Lib.hid (own_keep HWc.out od (by simp))
      have hyv : y < v := by have := HYc.out.lt; omega
      have t0 := HTd.out.1.cell (k := 0) rfl
      have hztl := HTd.out.lt
      clear od HTc HOc HRc HYc HWc
      go_wp2_with fail
      clear hwd hv
      obtain ⟨s3, b3⟩ := p3
      obtain ⟨d, rest, is, hrd, hrl, hpo⟩ : ∃ (d : Bool) (rest : List UInt8) (is : Bool), rdBV (rdB s3) = .tuple #[.bool d, .string ⟨rest.toArray⟩, .bool is] ∧ rest.length ≤ 1000000000000 ∧ rdPo ps t = if (b3 = false ∧ is = true) ∧ ir = true ∧ idx ps a = none then some (ps ++ [⟨(ps.length : Int) + 1, ⟨a, b, c⟩, d⟩], rest) else none := by
        have hp := HCH.out
        dsimp only at hl3 hp
        cases hB : rdB s3 with
        | none =>
          have e : (⟨s3, b3⟩ : Rd).bool = (false, ⟨[], true⟩) := by unfold Rd.bool Rd.get; simp only [hB]
          rw [e] at hp
          exact ⟨false, [], false, rfl, by simp, by rw [hp]; simp⟩
        | some x =>
          obtain ⟨d, u⟩ := x
          have e : (⟨s3, b3⟩ : Rd).bool = (d, ⟨u, b3⟩) := by unfold Rd.bool Rd.get; simp only [hB]
          rw [e] at hp
          have hu := rdB_len hB
          refine ⟨d, u, true, rfl, by omega, ?_⟩
          rw [hp]
          cases b3 <;> simp
      have HPO := Lib.hid hpo
      dsimp only at D4
      rw [hrd] at D4
      clear hrd hpo HCH
      refine (D4.out _).mono ?_
      rintro e we ⟨rfl, ho⟩
      have HTe := Lib.hid (HTd.out.only ho (by simp))
      have HOe := Lib.hid (HOd.out.tr0 ho)
      have HRe := Lib.hid (HRd.out.only ho (by simp))
      have HYe := Lib.hid (HYd.out.only ho (by simp))
      have HWe := Lib.hid (own_keep HWd.out ho (by simp))
      have HVe := Lib.hid (HVd.out.only ho (by simp))
      have t0 := HTe.out.1.cell (k := 0) rfl
      have tz0 := HTe.out.1.frozen 0
      have hztl := HTe.out.lt
      clear ho D4 HTd HOd HRd HYd HWd HVd
      go_upto_region 16 with fail
      obtain ⟨wf, hwf⟩ : ∃ u, we.setCell ⟨z, 0, none⟩ (.string ⟨rest.toArray⟩) = u := ⟨_, rfl⟩
      have of' : Only [z] we wf := hwf ▸ (Only.refl _ _).setCell (.inl (by simp)) _
      rw [hwf]
      have HTf : Hid (TrAt wf z ⟨rest, b3⟩) := Lib.hid ⟨hwf ▸ HTe.out.1.set 0 _, hrl⟩
      have HOf := Lib.hid (HOe.out.tr of')
      have HRf := Lib.hid (HRe.out.only of' (by simp; omega))
      have HYf := Lib.hid (HYe.out.only of' (by simp; omega))
      have HWf := Lib.hid (own_keep HWe.out of' (by simpa using hne))
      have HVf := Lib.hid (HVe.out.only of' (by simp; omega))
      clear hwf of' HTe HOe HRe HYe HWe HVe t0 tz0 hztl
      have v0 := HVf.out.cell (k := 0) rfl
      have v1 := HVf.out.cell (k := 1) rfl
      have v2 := HVf.out.cell (k := 2) rfl
      go_wp2_with fail
      refine (CR.out _).mono ?_
      rintro e wg ⟨rfl, ho⟩
      have HTg := Lib.hid (HTf.out.only ho (by simp))
      have HOg := Lib.hid (HOf.out.tr0 ho)
      have HRg := Lib.hid (HRf.out.only ho (by simp))
      have HYg := Lib.hid (HYf.out.only ho (by simp))
      have HWg := Lib.hid (own_keep HWf.out ho (by simp))
      have HVg := Lib.hid (HVf.out.only ho (by simp))
      have t1 := HTg.out.1.cell (k := 1) rfl
      clear ho CR HTf HOf HRf HYf HWf HVf v0 v1 v2
      subst hpl
      have hrfs := RfS.of_own HWg.out (poL_one ps)
      have CP := Lib.hid (ref17_post nm pol fai _ ps a wg hrfs (by omega))
      have g0 := HYg.out.cell (k := 0) rfl
      have g1 := HYg.out.cell (k := 1) rfl
      have g2 := HYg.out.cell (k := 2) rfl
      have g3 := HYg.out.cell (k := 3) rfl
      dsimp only at t1
      obtain ⟨q, hq⟩ : ∃ q, (b3 || !is || !ir || (idx ps a).isSome) = q := ⟨_, rfl⟩
      have HQ := Lib.hid hq
      have HI : Hid (decide (0 ≤ idxI ps a) = (idx ps a).isSome) := Lib.hid (by unfold idxI; cases idx ps a <;> simp)
      clear hq hrfs
      go_upto_region 17 with fail
      go_cut [128] from 81 to 139 (fun u wx => u = .bool q ∧ Hid (Only [] wg wx))
      case first =>
        cases b3 with
        | true =>
          have e : Hid (true = q) := Lib.hid (by rw [← HQ.out]; rfl)
          go_wp2_with fail
          go_meet
          exact ⟨by rw [← e.out], Lib.hid (Only.refl _ _)⟩
        | false =>
        cases is with
        | false =>
          have e : Hid (true = q) := Lib.hid (by rw [← HQ.out]; rfl)
          go_wp2_with fail
          go_meet
          exact ⟨by rw [← e.out], Lib.hid (Only.refl _ _)⟩
        | true =>
        cases ir with
        | false =>
          have e : Hid (true = q) := Lib.hid (by rw [← HQ.out]; rfl)
          go_wp2_with fail
          go_meet
          exact ⟨by rw [← e.out], Lib.hid (Only.refl _ _)⟩
        | true =>
        obtain ⟨j, hj⟩ : ∃ j, idxI ps a = j := ⟨_, rfl⟩
        have e : Hid (decide (0 ≤ j) = q) := Lib.hid (by rw [← hj, HI.out, ← HQ.out]; rfl)
        rw [hj] at CP
        clear hj
        go_wp2_with fail
        refine CP.out.mono ?_
        rintro e2 wh ⟨rfl, ho⟩
        have HO2 := Lib.hid ho
        clear ho
        go_wp2_with fail
        go_meet
        exact ⟨by rw [← e.out], HO2⟩
      case rest =>
      obtain ⟨rfl, HX⟩ := hcut
      have HTh := Lib.hid (HTg.out.only HX.out (by simp))
      have HOh := Lib.hid (HOg.out.tr0 HX.out)
      have HRh := Lib.hid (HRg.out.only HX.out (by simp))
      have HYh := Lib.hid (HYg.out.only HX.out (by simp))
      have HWh := Lib.hid (own_keep HWg.out HX.out (by simp))
      have HVh := Lib.hid (HVg.out.only HX.out (by simp))
      have hsetR : ∀ (w' : World) (row : Array Value), Only [R] w' (w'.setRow R row) := fun w' row => (Only.refl _ _).setRow (.inl (by simp)) _
      clear HTg HOg HRg HYg HWg HVg HX g0 g1 g2 g3 t1 CP
      have hnext : rdPs N [] s4 = match rdPo ps t with | none => none | some (qs, u) => rdPs (N - (ps.length + 1)) qs u := by
        rw [HN.out, show N - ps.length = (N - (ps.length + 1)) + 1 from by omega]
        rfl
      cases q with
      | true =>
        have hno : rdPo ps t = none := by
          rw [HPO.out, if_neg]
          rintro ⟨⟨k1, k2⟩, k3, k4⟩
          have := HQ.out
          rw [k1, k2, k3, k4] at this
          cases this
        have hRn : rdFd r.s = none := by rw [HR.out, hnext, hno]
        have HFIN : Hid (∀ row, TrF w (wc.setRow R row) z r (.returned (.tuple #[.agg #[.string ⟨nm.toArray⟩, .int .i64 pol, .int .i64 fai, .slice A ps.length cap], .bool false]))) := Lib.hid (fun row => ⟨⟨rest, b3⟩, nm, pol, fai, A, ps.length, cap, false, rfl, HTh.out.only (hsetR _ _) (by simp; omega), HOh.out.trans (hsetR _ _) (fun x hx => by simp at hx; subst hx; exact .inr (by omega)), hnl, by rw [hRn]⟩)
        clear hsetR hno hRn hnext HR HN HPO HQ
        have g0 := HYh.out.cell (k := 0) rfl
        have g1 := HYh.out.cell (k := 1) rfl
        have g2 := HYh.out.cell (k := 2) rfl
        have g3 := HYh.out.cell (k := 3) rfl
        have hst := HRh.out
        have hone : (#[.string ⟨nm.toArray⟩, .int .i64 pol, .int .i64 fai, .slice A ps.length cap] : Array Value).all (·.oneCell') = true := by simp [Value.oneCell']
        go_wp2_with (refine wpList_store_row rfl 59 _ _ rfl R #[.string ⟨nm.toArray⟩, .int .i64 pol, .int .i64 fai, .slice A ps.length cap] rfl rfl 59 _ hst (by kernel_rfl) rfl hone ?_)
        (try simp only [Exit.inBlock, Exit.then])
        refine bodyPost_ret (v := .tuple #[.agg #[.string ⟨nm.toArray⟩, .int .i64 pol, .int .i64 fai, .slice A ps.length cap], .bool false]) ?_ rfl (HFIN.out _)
        exact results_row_tmp Tryz.results48 _ _ R 59 [.string ⟨nm.toArray⟩, .int .i64 pol, .int .i64 fai, .slice A ps.length cap] _ rfl (Cells.setRow HRh.out [.string ⟨nm.toArray⟩, .int .i64 pol, .int .i64 fai, .slice A ps.length cap]) Tryz.underlying59 rfl (by kernel_rfl)
      | false =>
      obtain ⟨⟨⟨rfl, rfl⟩, rfl⟩, hix⟩ : ((b3 = false ∧ is = true) ∧ ir = true) ∧ idx ps a = none := by
        have := HQ.out
        simp only [Bool.or_eq_false_iff, Bool.not_eq_false', Option.isSome_eq_false_iff, Option.isNone_iff_eq_none] at this
        exact this
      have hpo : rdPo ps t = some (ps ++ [⟨(ps.length : Int) + 1, ⟨a, b, c⟩, d⟩], rest) := by
        rw [HPO.out, if_pos ⟨⟨rfl, rfl⟩, rfl, hix⟩]
      rw [hpo] at hnext
      dsimp only at hnext
      have HNX := Lib.hid hnext
      have v0 := HVh.out.cell (k := 0) rfl
      have v1 := HVh.out.cell (k := 1) rfl
      have v2 := HVh.out.cell (k := 2) rfl
      have y3 := HYh.out.cell (k := 3) rfl
      have hwrap : IntKind.i64.wrap ((ps.length : Int) + 1) = (ps.length : Int) + 1 := by rw [IntKind.wrap_i64]; omega
      have hown := HWh.out
      have hRw : R ≤ wc.heap.size := Nat.le_of_lt HRh.out.lt
      clear hix hpo hnext HPO HN HQ HI hsetR
      go_wp2_with (at_builtin; go_loud (refine wpList_appA rfl _ _ 29 rfl R 52 i0 _ 5 64 Tryz.underlying29 hi0 hz0 hz1 hz2 rfl (by decide) wc (.slice A ps.length cap) ps.length _ rfl hown 1 1 [.int .i64 ((ps.length : Int) + 1), .string ⟨a.toArray⟩, .string ⟨b.toArray⟩, .string ⟨c.toArray⟩, .bool d] rfl rfl (by simp [Value.oneCell']) (by simp only [maxLen]; omega) (by omega) hRw ?_); intro v' w14 hown14 hgrow hnew; have hz14 := HYh.out.grown hgrow hne2; have y14 := hz14.cell (k := 3) rfl; have f14 := hz14.frozen 3; have l14 := hz14.lt; obtain ⟨A', cap', rfl⟩ := (SlAt.of_own hown14).shape)
      have hg9 : (Value.slice A' (ps.length + 1) cap').ownBlock ≠ some y := own_ne_block hown14 hz14 (by decide)
      have hoW : Only [y] w14 (w14.setCell ⟨y, 3, none⟩ (.slice A' (ps.length + 1) cap')) := (Only.refl _ _).setCell (.inl (by simp)) _
      have hown15 := own_keep hown14 hoW (by simpa using hg9)
      have hpo : poL (ps ++ [⟨(ps.length : Int) + 1, ⟨a, b, c⟩, d⟩]) = poL ps ++ [.int .i64 ((ps.length : Int) + 1), .string ⟨a.toArray⟩, .string ⟨b.toArray⟩, .string ⟨c.toArray⟩, .bool d] := by unfold poL; rw [List.flatMap_append]; rfl
      rw [← hpo] at hown15
      have HOWN := Lib.hid hown15
      have hr14 : TrAt w14 z ⟨rest, false⟩ := ⟨HTh.out.1.grown hgrow hne, HTh.out.2⟩
      have HT15 := Lib.hid (hr14.only hoW (by simp; omega))
      have HR15 := Lib.hid ((HRh.out.grown hgrow hne3).only hoW (by simp; omega))
      have HY15 := Lib.hid (hz14.set 3 (.slice A' (ps.length + 1) cap'))
      have HO15 := Lib.hid ((HOh.out.own hown hgrow (by omega)).trans hoW (by intro q hq; simp at hq; exact .inr (by omega)))
      have hl15 : (ps ++ [(⟨(ps.length : Int) + 1, ⟨a, b, c⟩, d⟩ : Po)]).length = ps.length + 1 := by simp
      clear hown14 hgrow hnew hz14 hr14 hown15 hoW HTh HRh HYh HOh hown hpo v0 v1 v2 y3
      go_wp2_with fail
      go_roundw
      case rel => exact ⟨ps.length + 1, rest, .slice A' (ps.length + 1) cap', _, by omega, by go_num, HT15, HO15, HR15, HY15, HOWN, hl15, HNX⟩
      case measure => simp [intOf]; omega
    · have hlt' : ¬ (k : Int) < (N : Int) := by omega
      have hkN : k = N := by omega
      subst hkN
      have hsetR : ∀ (w' : World) (row : Array Value), Only [R] w' (w'.setRow R row) := fun w' row => (Only.refl _ _).setRow (.inl (by simp)) _
      have hRS : rdFd r.s = some ((nm, ⟨pol, fai, ps⟩), t) := by
        rw [HR.out, HN.out, Nat.sub_self]
        rfl
      have hlts := HOW.out.lt
      have HFIN : Hid (∀ row, TrF w (wr.setRow R row) z r (.returned (.tuple #[.agg #[.string ⟨nm.toArray⟩, .int .i64 pol, .int .i64 fai, .slice A k cap], .bool true]))) := Lib.hid (fun row => by
        refine ⟨⟨t, false⟩, nm, pol, fai, A, k, cap, true, rfl, HT.out.only (hsetR _ _) (by simp; omega), HO.out.trans (hsetR _ _) (fun x hx => by simp at hx; subst hx; exact .inr (by omega)), hnl, ?_⟩
        rw [hRS]
        refine ⟨rfl, rfl, rfl, rfl, rfl, ?_, ?_⟩
        · show RfS _ (.slice A k cap) 5 ps.length (poL ps)
          rw [hpl]
          exact (RfS.of_own HOW.out (poL_one ps)).keep (hsetR _ _) (fun x hx => by simp at hx; subst hx; exact hne3)
        · intro g hg
          have := hlts g hg
          obtain ⟨cs, hcs⟩ := own_cells HOW.out hg
          exact ⟨by omega, Nat.lt_of_lt_of_le this.2 (hsetR wr row).size, cs, hcs.only (hsetR _ _) (by simp; rintro rfl; exact hne3 hg)⟩)
      clear hsetR hRS HR HN hlts
      have g0 := HY.out.cell (k := 0) rfl
      have g1 := HY.out.cell (k := 1) rfl
      have g2 := HY.out.cell (k := 2) rfl
      have g3 := HY.out.cell (k := 3) rfl
      have hst := HRR.out
      have hone : (#[.string ⟨nm.toArray⟩, .int .i64 pol, .int .i64 fai, .slice A k cap] : Array Value).all (·.oneCell') = true := by simp [Value.oneCell']
      go_wp2_with (refine wpList_store_row rfl 59 _ _ rfl R #[.string ⟨nm.toArray⟩, .int .i64 pol, .int .i64 fai, .slice A k cap] rfl rfl 59 _ hst (by kernel_rfl) rfl hone ?_)
      (try simp only [Exit.inBlock, Exit.then])
      refine bodyPost_ret (v := .tuple #[.agg #[.string ⟨nm.toArray⟩, .int .i64 pol, .int .i64 fai, .slice A k cap], .bool true]) ?_ rfl (HFIN.out _)
      exact results_row_tmp Tryz.results48 _ _ R 59 [.string ⟨nm.toArray⟩, .int .i64 pol, .int .i64 fai, .slice A k cap] _ rfl (Cells.setRow HRR.out [.string ⟨nm.toArray⟩, .int .i64 pol, .int .i64 fai, .slice A k cap]) Tryz.underlying59 rfl (by kernel_rfl)
end Go.Proofs.YtjfnkjpnjiobjaaGreat
namespace Go.Proofs.YtjfnkjpnjiobjaaGreat
open Go.RowKit
theorem unSt_num (s : List UInt8) : unSt s = if ((⟨s, false⟩ : Rd).num 0 20).bad = true then none else match rdFs (⟨s, false⟩ : Rd).int.1.toNat [] ((⟨s, false⟩ : Rd).num 0 20).s with | none => none | some (S, u) => if u = [] then some S else none := by
  unfold unSt
  cases h : rdI s with
  | none =>
    have : (⟨s, false⟩ : Rd).int = (0, ⟨[], true⟩) := by unfold Rd.int Rd.get; simp only [h]
    unfold Rd.num
    rw [this]
    rfl
  | some p =>
    obtain ⟨n, t⟩ := p
    have : (⟨s, false⟩ : Rd).int = (n, ⟨t, false⟩) := get_out h
    unfold Rd.num
    rw [this]
    dsimp only
    by_cases hn : 0 ≤ n ∧ n ≤ 20
    · rw [if_pos hn, if_neg (by simp; omega)]
      all_goals (cases rdFs n.toNat [] t with | none => rfl | some x => (cases x; rfl))
    · rw [if_neg hn, if_pos (by simp; omega)]
theorem insBy_end {α : Type} (key : α → List UInt8) (x : α) : ∀ (l : List α), (∀ a ∈ l, key a < key x) → insBy key x l = l ++ [x]
  | [], _ => rfl
  | a :: l, h => by
    have h1 := h a (by simp)
    have h2 := insBy_end key x l (fun b hb => h b (by simp [hb]))
    unfold insBy
    rw [if_pos h1, h2]
    rfl
theorem last_lt {S : Sv} (hs : S.Pairwise (fun a b => a.1 < b.1)) {k : List UInt8} (h : lastN S < k) : ∀ a ∈ S, a.1 < k := by
  intro a ha
  obtain ⟨y, hy⟩ : ∃ y, S.getLast? = some y := by
    cases hq : S.getLast? with
    | none => rw [List.getLast?_eq_none_iff] at hq; subst hq; cases ha
    | some y => exact ⟨y, rfl⟩
  have hl : y.1 < k := by
    unfold lastN at h
    rw [hy] at h
    exact h
  obtain ⟨ys, rfl⟩ := List.getLast?_eq_some_iff.1 hy
  rcases List.mem_append.1 ha with ha | ha
  · exact List.lt_trans ((List.pairwise_append.1 hs).2.2 a ha y (by simp)) hl
  · obtain rfl := List.mem_singleton.1 ha; exact hl
theorem StX.insN {w2 w' : World} {b mb : Nat} {T : List Pl} {t : Pl} (k2 : StX w2 b mb T) (hn : fT T t.nm = none) (hnm : nmL t.nm = true) (hcap : T.length < 20) (hfd : FdAt w2 t.p t.m t.v t.fd) (hnew : ∀ x ∈ t.own, x ∉ allX b mb T) (ho : Only [mb] w2 w') (hm : MapF w' mb (T.length + 1) (fun k' => if k' = t.nm then some (.pointer (some ⟨t.p, 0, none⟩)) else ptT T k')) :
    StX w' b mb (insBy Pl.nm t T) := by
  have hbm := k2.bm
  have hne : ∀ a ∈ T, a.nm ≠ t.nm := fun a ha e => by
    have := List.find?_eq_none.1 hn a ha
    simp [e] at this
  have hmem : ∀ a, a ∈ insBy Pl.nm t T ↔ a = t ∨ a ∈ T := fun a => by rw [(insBy_perm Pl.nm t T).mem_iff, List.mem_cons]
  refine ⟨k2.cells.only ho (by simpa using hbm), ?_, ?_, insBy_sorted Pl.nm t T k2.srt hne, ?_, ?_, ?_, ?_⟩
  · rw [insBy_length, ptT_ins hn]; exact hm
  · intro a ha
    rcases (hmem a).1 ha with rfl | ha
    · exact hfd.keep ho (fun x hx => by
        simp only [List.mem_cons, List.not_mem_nil, or_false]
        intro e; subst e; exact hnew _ hx (by simp [allX]))
    · exact (k2.fds a ha).keep ho (fun x hx => by
        have := (k2.dib a ha).2
        simp only [List.mem_cons, List.not_mem_nil, or_false]
        intro e; subst e; exact this hx)
  · intro a ha c hc hac x hx
    rcases (hmem a).1 ha with rfl | ha2
    · rcases (hmem c).1 hc with rfl | hc2
      · exact absurd rfl hac
      · intro hxc
        exact hnew x hx (own_mem hc2 hxc)
    · rcases (hmem c).1 hc with rfl | hc2
      · intro hxc
        exact hnew x hxc (own_mem ha2 hx)
      · exact k2.dis a ha2 c hc2 hac x hx
  · intro a ha
    rcases (hmem a).1 ha with rfl | ha2
    · exact ⟨fun hx => hnew _ hx (by simp [allX]), fun hx => hnew _ hx (by simp [allX])⟩
    · exact k2.dib a ha2
  · rw [insBy_length]; omega
  · intro a ha
    rcases (hmem a).1 ha with rfl | ha2
    · exact hnm
    · exact k2.nml a ha2
def UnV (w w' : World) (s : List UInt8) (e : Ending) : Prop := Only [] w w' ∧ match unSt s with
  | none => e = .returned (.tuple #[.pointer none, .bool false])
  | some S => ∃ b O, e = .returned (.tuple #[.pointer (some ⟨b, 0, none⟩), .bool true]) ∧ St w' b O S ∧ ∀ x ∈ O, w.heap.size ≤ x
set_option maxRecDepth 100000 in
set_option maxHeartbeats 4000000 in
theorem store_unpack (s : List UInt8) (hs : s.length ≤ 1000000000000) (w : World) :
    Calls Tryz.prog 27 #[.string ⟨s.toArray⟩] w fun e w' => UnV w w' s e := by
  obtain ⟨w1, hw1⟩ : ∃ u, w.alloc (.cells #[.string ⟨s.toArray⟩, .bool false] 88) = u := ⟨_, rfl⟩
  obtain ⟨z, hz⟩ : ∃ z, w.heap.size = z := ⟨_, rfl⟩
  have HA1 : Hid (SrAt w1 z ⟨s, false⟩) := Lib.hid ⟨hw1 ▸ hz ▸ Cells.new w _ _, hs⟩
  have HO1 : Hid (Only [] w w1) := Lib.hid (hw1 ▸ (Only.refl _ _).alloc _)
  have HZ := Lib.hid hz
  have HU := Lib.hid (unSt_num s)
  have HIW := Lib.hid (fun (h : ((⟨s, false⟩ : Rd).num 0 20).bad = false) => num_ok h)
  obtain ⟨r1, hr1⟩ : ∃ q, (⟨s, false⟩ : Rd).num 0 20 = q := ⟨_, rfl⟩
  obtain ⟨n, hn⟩ : ∃ q, (⟨s, false⟩ : Rd).int.1 = q := ⟨_, rfl⟩
  have C1 := Lib.hid (fun w' hh => sr_number z ⟨s, false⟩ 0 20 w' hh)
  rw [hr1] at C1 HU HIW
  rw [hn] at C1 HU HIW
  have CN := Lib.hid (fun w' => store_new w')
  clear hr1 hn
  go_enter Tryz.func27, Tryz.ntmps27
  go_upto_region 2 with fail
  clear hw1 hz
  go_wp2_with fail
  refine (CN.out _).mono ?_
  rintro e w2 ⟨rfl, hX, ho⟩
  obtain ⟨b, hb⟩ : ∃ b, w1.heap.size + 1 = b := ⟨_, rfl⟩
  obtain ⟨mb, hmb⟩ : ∃ b, w1.heap.size = b := ⟨_, rfl⟩
  rw [hb, hmb] at hX
  rw [hb]
  have hzb : z < mb ∧ mb < b := by have := HA1.out.lt; omega
  have hwz : w.heap.size ≤ z := by have := HZ.out; omega
  have HA2 := Lib.hid (HA1.out.only ho (by simp))
  have HO2 := Lib.hid (HO1.out.tr0 ho)
  have HX2 := Lib.hid hX
  clear hX ho CN HA1 HO1 HZ hb hmb
  go_wp2_with fail
  refine (C1.out _ HA2.out).mono ?_
  rintro e w3 ⟨rfl, hA, ho⟩
  have HA3 := Lib.hid hA
  have HO3 : Hid (Only [] w w3) := Lib.hid (HO2.out.trans ho (fun x hx => by simp at hx; subst hx; exact .inr hwz))
  have HX3 := Lib.hid (HX2.out.keep ho (by intro k hk; simp [allX] at hk ⊢; omega))
  have s1 := hA.1.cell (k := 1) rfl
  clear hA ho C1 HA2 HO2 HX2
  obtain ⟨t0, b0⟩ := r1
  dsimp only at s1
  cases b0 with
  | true =>
    have HFIN : Hid (UnV w w3 s (.returned (.tuple #[.pointer none, .bool false]))) := Lib.hid ⟨HO3.out, by rw [HU.out]; exact rfl⟩
    clear HU
    go_wp2_with fail
    go_ret2
    exact HFIN.out
  | false =>
  obtain ⟨_, n0, n1⟩ := HIW.out rfl
  obtain ⟨N, hN⟩ : ∃ N : Nat, n.toNat = N := ⟨_, rfl⟩
  have hn : n = (N : Int) := by omega
  have hN2 : N ≤ 20 := by omega
  have HR : Hid (unSt s = match rdFs N [] t0 with | none => none | some (S, u) => if u = [] then some S else none) := Lib.hid (by rw [HU.out, if_neg (by simp), hN])
  subst hn
  clear HU HIW hN
  go_wp2_with fail
  go_loopw [6, 21] (fun l i wr => ∃ (k : Nat) (t : List UInt8) (T : List Pl), k ≤ N ∧ i = .int .i64 k ∧ l = .string ⟨(lastN (prT T)).toArray⟩ ∧ T.length = k ∧ Hid (SrAt wr z ⟨t, false⟩) ∧ Hid (Only [] w wr) ∧ Hid (StX wr b mb T) ∧ Hid (∀ x ∈ allX b mb T, z < x) ∧ Hid (rdFs N [] t0 = rdFs (N - k) (prT T) t)) (fun _ i _ => N - (intOf i).toNat)
  case atStart => exact ⟨0, t0, [], by omega, rfl, rfl, rfl, HA3, HO3, HX3, Lib.hid (by intro x hx; simp [allX] at hx; omega), Lib.hid rfl⟩
  case round =>
    obtain ⟨k, t, T, hk, rfl, rfl, hT, HA, HO, HX, HV, HN⟩ := hrel
    by_cases hlt : k < N
    · have hlt' : (k : Int) < (N : Int) := by omega
      have CS := Lib.hid (sr_source z ⟨t, false⟩ wr HA.out rfl)
      have hnext : rdFs N [] t0 = match rdFd t with | none => none | some (x, u) => if lastN (prT T) < x.1 then rdFs (N - (k + 1)) (prT T ++ [x]) u else none := by
        rw [HN.out, show N - k = (N - (k + 1)) + 1 from by omega]
        rfl
      have HNX := Lib.hid hnext
      clear hnext HN
      go_wp2_with fail
      refine CS.out.mono ?_
      rintro e w4 ⟨⟨t4, bad⟩, nm, p, rfl, hA, ho, hnl, hm⟩
      have hO4 : Only [] w w4 := HO.out.trans ho (fun x hx => by simp at hx; subst hx; exact .inr hwz)
      have hX4 := HX.out.keep ho (by intro x hx hz; simp at hz; subst hz; exact absurd (HV.out x hx) (Nat.lt_irrefl _))
      have s1 := hA.1.cell (k := 1) rfl
      have HA4 := Lib.hid hA
      have HO4 := Lib.hid hO4
      have HX4 := Lib.hid hX4
      have b0 := hX4.cells.cell (k := 0) rfl
      dsimp only at s1 hm
      clear hA ho hO4 hX4 CS HA HO
      cases hrd : rdFd t with
      | none =>
        rw [hrd] at hm
        dsimp only at hm
        subst hm
        have HFIN : Hid (UnV w w4 s (.returned (.tuple #[.pointer none, .bool false]))) := Lib.hid ⟨HO4.out, by rw [HR.out, HNX.out, hrd]⟩
        clear HR HNX hrd
        go_wp2_with fail
        go_ret2
        exact HFIN.out
      | some x =>
      obtain ⟨⟨nm', fd⟩, u⟩ := x
      rw [hrd] at hm
      obtain ⟨hr', rfl, hnm, m, v, hfd, hnew⟩ := hm
      injection hr' with e1 e2
      subst e1; subst e2
      dsimp only at hfd hnm hnl
      by_cases hls : lastN (prT T) < nm
      case neg =>
        have HFIN : Hid (UnV w w4 s (.returned (.tuple #[.pointer none, .bool false]))) := Lib.hid ⟨HO4.out, by rw [HR.out, HNX.out, hrd]; dsimp only; rw [if_neg hls]⟩
        by_cases hlt2 : nm < lastN (prT T)
        · have hless : Op.bytesLess nm (lastN (prT T)) = true := by rw [bytesLess_eq]; simpa using hlt2
          clear HR HNX hrd
          go_wp2_with fail
          go_ret2
          exact HFIN.out
        · have hless : Op.bytesLess nm (lastN (prT T)) = false := by rw [bytesLess_eq]; simpa using hlt2
          have heq : (nm == lastN (prT T)) = true := by simpa using List.le_antisymm (List.not_lt.1 hls) (List.not_lt.1 hlt2)
          clear HR HNX hrd
          go_wp2_with fail
          go_ret2
          exact HFIN.out
      have hless : Op.bytesLess nm (lastN (prT T)) = false := by rw [bytesLess_eq]; simpa using List.not_lt.2 (List.le_of_lt hls)
      have heq : (nm == lastN (prT T)) = false := by simpa using fun e => List.lt_irrefl _ (e ▸ hls)
      have hall : ∀ a ∈ T, a.nm < nm := fun a ha => last_lt (S := prT T) (by unfold prT; rw [List.pairwise_map]; exact HX4.out.srt) hls (a.nm, a.fd) (List.mem_map_of_mem (f := fun t : Pl => (t.nm, t.fd)) ha)
      have hfn : fT T nm = none := by
        unfold fT
        refine List.find?_eq_none.2 fun a ha h => ?_
        have := hall a ha
        rw [show a.nm = nm from by simpa using h] at this
        exact List.lt_irrefl _ this
      have hcap : T.length < 20 := by omega
      have hnl60 := (nmL_len hnm).2
      obtain ⟨v0, st, w5, w6, hE1, hE2, hm6, ht6⟩ := MapF.entry (t := 67) (e := 70) HX4.out.map Tryz.underlying67 (Tryz.zeroValue70) (by unfold maxLen; omega) nm hnl (.pointer (some ⟨p, 0, none⟩))
      rw [show (ptT T nm).isSome = false from by unfold ptT; rw [hfn]; rfl] at hm6
      have hX4 := HX4.out
      have hltw : ∀ x ∈ allX b mb T, x < wr.heap.size := HX.out.lts
      have hdis : ∀ x ∈ (⟨nm, fd, p, m, v⟩ : Pl).own, x ∉ allX b mb T := fun x hx hm => by have h1 := hnew x hx; have h2 := hltw x hm; omega
      have hF := StX.insN (t := ⟨nm, fd, p, m, v⟩) hX4 hfn hnm hcap hfd hdis (mapTurned_only ht6) hm6
      rw [insBy_end Pl.nm ⟨nm, fd, p, m, v⟩ T hall] at hF
      have HF6 := Lib.hid hF
      have HA6 := Lib.hid (HA4.out.only (mapTurned_only ht6) (by simp; omega))
      have HO6 : Hid (Only [] w w6) := Lib.hid (HO4.out.trans (mapTurned_only ht6) (fun x hx => by simp at hx; subst hx; exact .inr (by omega)))
      have HV6 : Hid (∀ x ∈ allX b mb (T ++ [(⟨nm, fd, p, m, v⟩ : Pl)]), z < x) := Lib.hid (fun x hx => by
        unfold allX at hx
        rw [List.flatMap_append] at hx
        simp only [List.mem_cons, List.mem_append] at hx
        rcases hx with rfl | rfl | hx | hx
        · omega
        · omega
        · exact HV.out x (by simp [allX, hx])
        · have h1 := hnew x (by simpa [Pl.own] using hx)
          have h2 := hltw b (by simp [allX])
          omega)
      have hpr : prT (T ++ [(⟨nm, fd, p, m, v⟩ : Pl)]) = prT T ++ [(nm, fd)] := by unfold prT; rw [List.map_append]; rfl
      have HN6 : Hid (rdFs N [] t0 = rdFs (N - (k + 1)) (prT (T ++ [(⟨nm, fd, p, m, v⟩ : Pl)])) t4) := Lib.hid (by rw [HNX.out, hrd, hpr]; dsimp only; rw [if_pos hls])
      have HL6 : Hid (lastN (prT (T ++ [(⟨nm, fd, p, m, v⟩ : Pl)])) = nm) := Lib.hid (by rw [hpr]; unfold lastN; simp)
      have HT : Hid ((T ++ [(⟨nm, fd, p, m, v⟩ : Pl)]).length = k + 1) := Lib.hid (by simp [hT])
      clear hF ht6 hm6 hX4 hfd hnew hltw hdis hpr hall hfn HA4 HO4 HX4 HNX hrd HV HX hls
      have hw : IntKind.i64.wrap ((k : Int) + 1) = ((k + 1 : Nat) : Int) := by rw [IntKind.wrap_i64]; omega
      go_wp2_with fail
      go_roundw
      case rel => exact ⟨k + 1, t4, T ++ [(⟨nm, fd, p, m, v⟩ : Pl)], by omega, by go_num, by rw [HL6.out], HT.out, HA6, HO6, HF6, HV6, HN6⟩
      case measure => simp [intOf]; omega
    · have hlt' : ¬ (k : Int) < (N : Int) := by omega
      have hkN : k = N := by omega
      have hend : unSt s = if t = [] then some (prT T) else none := by
        rw [HR.out, HN.out, hkN, Nat.sub_self]
        rfl
      have s0 := HA.out.1.cell (k := 0) rfl
      have s1 := HA.out.1.cell (k := 1) rfl
      dsimp only at s0 s1
      by_cases ht : t = []
      · have HFIN : Hid (UnV w wr s (.returned (.tuple #[.pointer (some ⟨b, 0, none⟩), .bool true]))) := Lib.hid (by
          refine ⟨HO.out, ?_⟩
          rw [hend, if_pos ht]
          exact ⟨b, allX b mb T, rfl, ⟨mb, T, HX.out, rfl, rfl⟩, fun x hx => by have := HV.out x hx; omega⟩)
        subst ht
        clear hend HR HN
        go_wp2_with fail
        go_ret2
        exact HFIN.out
      · have HFIN : Hid (UnV w wr s (.returned (.tuple #[.pointer none, .bool false]))) := Lib.hid ⟨HO.out, by rw [hend, if_neg ht]⟩
        have hte : t.isEmpty = false := by cases t with | nil => exact absurd rfl ht | cons => rfl
        clear hend HR HN
        go_wp2_with fail
        go_ret2
        exact HFIN.out
end Go.Proofs.YtjfnkjpnjiobjaaGreat
namespace Go.Proofs.YtjfnkjpnjiobjaaGreat
open Go.RowKit
theorem RsX.fz {w : World} {b g c : Nat} {T : List Rf} (h : RsX w b (.slice (some ⟨g, 0, none⟩) T.length c) T) (j : Nat) : w.frozen? ⟨g, j, none⟩ = false := h.row.frozenAt _
set_option maxRecDepth 100000 in
set_option maxHeartbeats 2000000 in
theorem rs_fail (b : Nat) (v : Value) (T : List Rf) (k : List UInt8) (hk : k.length ≤ maxLen) (now : Int) (w : World) (h : RsX w b v T) :
    Calls Tryz.prog 20 #[.pointer (some ⟨b, 0, none⟩), .string ⟨k.toArray⟩, .int .i64 now] w fun e w' => e = .returned (.int .i64 (failS (pR T) k now).1) ∧ ∃ v' T', OpX w w' b v v' T T' ∧ pR T' = (failS (pR T) k now).2 := by
  have H := Lib.hid h
  have CF := Lib.hid (rs_find b _ T k hk w h)
  have CT := Lib.hid (fun w' => ref17_time now w')
  have hcap := h.cap
  cases hf : rT T k with
  | none =>
    have hE : Hid (failS (pR T) k now = (4, pR T)) := Lib.hid (by unfold failS; rw [fnd_rT, hf]; rfl)
    rw [hf] at CF
    clear h
    go_enter Tryz.func20, Tryz.ntmps20
    go_wp2_with fail
    refine CF.out.mono ?_
    rintro e w1 ⟨rfl, ho1⟩
    have HO1 := Lib.hid ho1
    clear ho1 CF
    go_wp2_with fail
    go_ret
    exact ⟨by rw [hE.out]; rfl, _, T, OpX.same H.out HO1.out, by rw [hE.out]⟩
  | some t =>
  obtain ⟨hat, htk⟩ := rT_at h.srt hf
  rw [hf] at CF
  cases hn : okT now with
  | false =>
    have hE : Hid (failS (pR T) k now = (1, pR T)) := Lib.hid (by unfold failS; rw [fnd_rT, hf]; show (if okT now = true then _ else _) = _; rw [hn]; rfl)
    simp only [hn] at CT
    clear h
    go_enter Tryz.func20, Tryz.ntmps20
    go_wp2_with fail
    refine CF.out.mono ?_
    rintro e w1 ⟨rfl, ho1⟩
    have HO1 := Lib.hid ho1
    clear ho1 CF
    go_wp2_with fail
    refine (CT.out _).mono ?_
    rintro e w2 ⟨rfl, rfl⟩
    go_wp2_with fail
    go_ret
    exact ⟨by rw [hE.out]; rfl, _, T, OpX.same H.out HO1.out, by rw [hE.out]⟩
  | true =>
  have hE : Hid (failS (pR T) k now = (0, putBy Prod.fst k (k, failF t.fd now) (pR T))) := Lib.hid (by unfold failS; rw [fnd_rT, hf]; show (if okT now = true then _ else _) = _; rw [hn]; rfl)
  simp only [hn] at CT
  obtain ⟨g, c, rfl, hgl, _, _, _, _⟩ := h.at_ hat
  obtain ⟨i, hi⟩ : ∃ i, ixR T k = i := ⟨_, rfl⟩
  have HAT := Lib.hid hat
  have HF := Lib.hid hf
  have HI := Lib.hid hi
  have hil : i < T.length := hi ▸ (List.getElem?_eq_some_iff.1 hat).1
  rw [hi] at CF
  have hfg := (h.fg t (List.mem_of_getElem? hat)).nb
  obtain ⟨hn0, hn1⟩ := okT_iff.1 hn
  have hbg : b ≠ g := fun e => h.vb (by rw [e]; rfl)
  clear h hat hf hi
  go_enter Tryz.func20, Tryz.ntmps20
  go_wp2_with fail
  refine CF.out.mono ?_
  rintro e w1 ⟨rfl, ho1⟩
  have HO1 := Lib.hid ho1
  clear ho1 CF
  go_wp2_with fail
  refine (CT.out _).mono ?_
  rintro e w2 ⟨rfl, rfl⟩
  clear CT
  have hX1 := H.out.only HO1.out
  obtain ⟨g', c', hv', hg1, q0, q1, q2, q3⟩ := hX1.at_ (by have := HAT.out; rw [HI.out] at this; exact this)
  injection hv' with e1 _ e3
  injection e1 with e1
  injection e1 with e1
  subst e1; subst e3
  have c0 := hX1.cells.cell (k := 0) rfl
  have z1 := hX1.fz (i * 4 + 1)
  obtain ⟨w3, hw3⟩ : ∃ u, w1.setCell ⟨g, i * 4 + 1, none⟩ (.int .i64 now) = u := ⟨_, rfl⟩
  have o3 : Only [g] w1 w3 := hw3 ▸ (Only.refl _ _).setCell (.inl (by simp)) _
  have hrow3 : w3.ownsRow 0 59 4 (.slice (some ⟨g, 0, none⟩) T.length c) T.length (rfL (T.set i (t.with ⟨now, t.fd.fai, t.fd.ps⟩ t.v))) := hw3 ▸ row_f1 hX1.row (by have := HAT.out; rw [HI.out] at this; exact this) now
  have hC3 : Cells w3 b 28 [.slice (some ⟨g, 0, none⟩) T.length c] := hX1.cells.only o3 (by simpa using hbg)
  have d0 := hC3.cell (k := 0) rfl
  have u0 := fun u : Since w3 => u.cell d0
  have q2' : w3.cell? ⟨g, i * 4 + 2, none⟩ = some (.int .i64 t.fd.fai) := by
    obtain ⟨g', _, hv', _, _, hc⟩ := own_cell hrow3 (rfL_get _ i 2 (t.with ⟨now, t.fd.fai, t.fd.ps⟩ t.v) (by simp [hil]) (by omega))
    injection hv' with e1
    injection e1 with e1
    injection e1 with e1
    rw [e1]; exact hc
  have u2 := fun u : Since w3 => u.cell q2'
  have HROW3 := Lib.hid hrow3
  have HO3 := Lib.hid (HO1.out.of0.tr o3)
  have HC3 := Lib.hid hC3
  have hwr : IntKind.i64.wrap (t.fd.fai + 1) = t.fd.fai + 1 := by rw [IntKind.wrap_i64]; omega
  have hil' : (i : Int) < (T.length : Int) := by omega
  clear hX1 o3 hrow3 hC3
  go_upto_region 7 with fail
  clear hw3
  refine wp_region_only_tail w3 (Only.refl _ _) 17 (by kernel_rfl) (by kernel_rfl) ?_
  simp only [List.take_succ_cons, List.take_zero, List.drop_succ_cons, List.drop_zero]
  repeat (go_big_quiet_step (fail))
  refine wpQuiet_nil ?_
  rintro ⟨w4, ho4⟩
  dsimp only
  have hrow4 := own_keep HROW3.out ho4 (by simp)
  have z2 : w4.frozen? ⟨g, i * 4 + 2, none⟩ = false := hrow4.frozenAt _
  have q4 := (ho4.cell (p := ⟨g, i * 4 + 2, none⟩) (World.block_lt_of_cell? w3 _ q2') (by simp)).trans q2'
  have hg4 : g < w4.heap.size := World.block_lt_of_cell? w4 _ q4
  have hrow5 := row_f2 (i := i) hrow4 (t := t.with ⟨now, t.fd.fai, t.fd.ps⟩ t.v) (by simp [hil]) (min (t.fd.fai + 1) 1000)
  rw [List.set_set] at hrow5
  have o5 : Only [g] w4 (w4.setCell ⟨g, i * 4 + 2, none⟩ (.int .i64 (min (t.fd.fai + 1) 1000))) := (Only.refl _ _).setCell (.inl (by simp)) _
  have hO5 : Only [g] w _ := (HO3.out.tr0 ho4).tr o5
  have hP := H.out.put (f := failF t.fd now) (pv := t.v) HF.out hO5 (by rw [HI.out]; exact hrow5) ((H.out.ps t (List.mem_of_getElem? HAT.out)).keep hO5 (fun x hx e => by simp at hx; subst hx; exact (H.out.pb t (List.mem_of_getElem? HAT.out) x e).2.2 rfl)) (fun q hq => .inl hq) ⟨(H.out.fg t (List.mem_of_getElem? HAT.out)).cap, by unfold failF; exact ⟨by show -1 ≤ now; omega, hn1, by show 0 ≤ min (t.fd.fai + 1) 1000; omega, by show min (t.fd.fai + 1) 1000 ≤ 1000; omega⟩⟩
  have HP := Lib.hid hP
  clear hrow4 hrow5 o5 hO5 hP u0 u2 ho4 d0 q2' HROW3 HO3 HC3
  go_wp2_with fail
  go_ret
  exact ⟨by rw [hE.out]; rfl, _, _, HP.out.1, by rw [hE.out]; exact HP.out.2⟩
theorem info_post5 : (Tryz.prog.info? 52).map (fun i => (i.zero, i.size, i.bytes)) = some (some (.agg #[.int .i64 0, .string .empty, .string .empty, .string .empty, .bool false]), 5, 64) := by kernel_rfl
theorem poL_one' (l : List Po) : ∀ u ∈ poL l, u.oneCell' = true := by
  intro u hu
  obtain ⟨t, _, hm⟩ := List.mem_flatMap.1 hu
  simp only [Po.cells, List.mem_cons, List.not_mem_nil, or_false] at hm
  rcases hm with rfl | rfl | rfl | rfl | rfl <;> rfl
set_option maxRecDepth 100000 in
set_option maxHeartbeats 2000000 in
theorem rs_mark (b : Nat) (v : Value) (T : List Rf) (k : List UInt8) (hk : k.length ≤ maxLen) (id : List UInt8) (w : World) (h : RsX w b v T) :
    Calls Tryz.prog 21 #[.pointer (some ⟨b, 0, none⟩), .string ⟨k.toArray⟩, .string ⟨id.toArray⟩] w fun e w' => e = .returned (.int .i64 (markS (pR T) k id).1) ∧ ∃ v' T', OpX w w' b v v' T T' ∧ pR T' = (markS (pR T) k id).2 := by
  obtain ⟨i0, hi0, hz0, hz1, hz2⟩ := info_parts info_post5
  have H := Lib.hid h
  have CF := Lib.hid (rs_find b _ T k hk w h)
  have hcap := h.cap
  cases hf : rT T k with
  | none =>
    have hE : Hid (markS (pR T) k id = (4, pR T)) := Lib.hid (by unfold markS; rw [fnd_rT, hf]; rfl)
    rw [hf] at CF
    clear h
    go_enter Tryz.func21, Tryz.ntmps21
    go_wp2_with fail
    refine CF.out.mono ?_
    rintro e w1 ⟨rfl, ho1⟩
    have HO1 := Lib.hid ho1
    clear ho1 CF
    go_wp2_with fail
    go_ret
    exact ⟨by rw [hE.out]; rfl, _, T, OpX.same H.out HO1.out, by rw [hE.out]⟩
  | some t =>
  obtain ⟨hat, htk⟩ := rT_at h.srt hf
  rw [hf] at CF
  have htm := List.mem_of_getElem? hat
  obtain ⟨g, c, rfl, hgl, _, _, _, _⟩ := h.at_ hat
  obtain ⟨i, hi⟩ : ∃ i, ixR T k = i := ⟨_, rfl⟩
  have HAT := Lib.hid hat
  have HF := Lib.hid hf
  have HI := Lib.hid hi
  have HTM := Lib.hid htm
  have hil : i < T.length := hi ▸ (List.getElem?_eq_some_iff.1 hat).1
  have hil' : (i : Int) < (T.length : Int) := by omega
  rw [hi] at CF
  have hfc := (h.fg t htm).cap
  have hbg : b ≠ g := fun e => h.vb (by rw [e]; rfl)
  have CP := Lib.hid (fun w' (ho : Only [] w w') => ref17_post t.nm t.fd.pol t.fd.fai t.v t.fd.ps id w' ((h.ps t htm).only ho) (by omega))
  obtain ⟨A2, c2, hv2, _, _⟩ := (h.ps t htm).shape
  have HV2 := Lib.hid hv2
  rw [hv2] at CP
  have hME : ∀ o, idx t.fd.ps id = o → markS (pR T) k id = match o with
      | none => (4, pR T)
      | some i => (0, putBy Prod.fst k (k, markF t.fd i) (pR T)) := fun o ho => by unfold markS; rw [fnd_rT, hf]; simp only [Option.map_some]; cases o <;> simp only [ho]
  have HME := Lib.hid hME
  have hIE : ∀ o, idx t.fd.ps id = o → idxI t.fd.ps id = match o with
      | none => -1
      | some i => (i : Int) := fun o ho => by unfold idxI; cases o <;> simp only [ho]
  have HIE := Lib.hid hIE
  obtain ⟨oi, hoi⟩ : ∃ o, idx t.fd.ps id = o := ⟨_, rfl⟩
  clear h hat hf hi htm hME hIE hv2 htk
  go_enter Tryz.func21, Tryz.ntmps21
  go_wp2_with fail
  refine CF.out.mono ?_
  rintro e w1 ⟨rfl, ho1⟩
  have HO1 := Lib.hid ho1
  clear ho1 CF
  have hX1 := H.out.only HO1.out
  obtain ⟨g', c', hv', hg1, q0, q1, q2, q3⟩ := hX1.at_ (by have := HAT.out; rw [HI.out] at this; exact this)
  injection hv' with e1 _ e3
  injection e1 with e1
  injection e1 with e1
  subst e1; subst e3
  rw [HV2.out] at q3
  have c0 := hX1.cells.cell (k := 0) rfl
  have hI := HIE.out oi hoi
  have CP1 := Lib.hid (CP.out w1 HO1.out)
  rw [hI] at CP1
  have HM := Lib.hid (HME.out oi hoi)
  clear HIE HME CP hI
  cases oi with
  | none =>
    clear hX1
    go_wp2_with fail
    refine CP1.out.mono ?_
    rintro e w2 ⟨rfl, ho2⟩
    have HO2 := Lib.hid (HO1.out.tr ho2)
    clear ho2 c0 q0 q1 q2 q3
    go_wp2_with fail
    go_ret
    exact ⟨by rw [HM.out]; rfl, _, T, OpX.same H.out HO2.out, by rw [HM.out]⟩
  | some j =>
  have hjl : j < t.fd.ps.length := idx_lt hoi
  obtain ⟨x, hx⟩ : ∃ x, t.fd.ps[j]? = some x := ⟨_, List.getElem?_eq_getElem hjl⟩
  have HX := Lib.hid hx
  clear hX1 hx hoi
  go_wp2_with fail
  refine CP1.out.mono ?_
  rintro e w2 ⟨rfl, ho2⟩
  have HO2 := Lib.hid (HO1.out.tr ho2)
  clear ho2 c0 q0 q1 q2 q3 CP1
  obtain ⟨w3, hw3⟩ : ∃ w3, w2.alloc (.cells #[] 52) = w3 := ⟨_, rfl⟩
  obtain ⟨z, hz⟩ : ∃ z, w2.heap.size = z := ⟨_, rfl⟩
  have o3 : Only [] w2 w3 := hw3 ▸ (Only.refl _ _).alloc _
  have hX3 := H.out.only (HO2.out.tr o3)
  obtain ⟨g', c', hv', hg1, q0, q1, q2, q3⟩ := hX3.at_ (by have := HAT.out; rw [HI.out] at this; exact this)
  injection hv' with e1 _ e3
  injection e1 with e1
  injection e1 with e1
  subst e1; subst e3
  rw [HV2.out] at q3
  have c0 := hX3.cells.cell (k := 0) rfl
  have hlit : w3.ownsRow z 52 5 (.slice (some ⟨z, 0, none⟩) 0 0) 0 [] := by
    have := World.ownsRow_lit (base := z) (e := 52) (size := 5) w2 #[] 0 (by omega) (by unfold maxLen; omega) rfl
    rw [hw3, hz] at this
    simpa using this
  have hsrc := (hX3.ps t HTM.out).src (by decide)
  rw [HV2.out] at hsrc
  obtain ⟨v4, w4, hr4, hown4, ho4, hn4⟩ := run_app (P := Tryz.prog) w3 z 29 29 52 i0 (.agg #[.int .i64 0, .string .empty, .string .empty, .string .empty, .bool false]) 5 64 Tryz.underlying29 hi0 hz0 hz1 hz2 rfl (by decide) (.slice (some ⟨z, 0, none⟩) 0 0) 0 [] hlit (.slice A2 t.fd.ps.length c2) t.fd.ps.length (poL t.fd.ps) hsrc (by unfold maxLen; omega) (by omega) (by have := o3.size; omega)
  rw [Nat.zero_add, List.nil_append] at hown4
  obtain ⟨g4, c4, rfl⟩ := own_formX hown4 (by omega)
  have ho4' : Only [] w2 w4 := o3.trans ho4 (fun y hy => by simp [Value.ownBlock] at hy; right; omega)
  have hg4 := (hown4.lt g4 rfl)
  have hj' : (j : Int) < (t.fd.ps.length : Int) := by omega
  have HO4 := Lib.hid (HO2.out.tr ho4')
  have HOWN4 := Lib.hid hown4
  have p4 : ∃ u, w4.cell? ⟨g4, j * 5 + 4, none⟩ = some u := by
    obtain ⟨g', _, hv', _, _, hc⟩ := own_cell hown4 (poL_get t.fd.ps j 4 x HX.out (by omega))
    injection hv' with e1
    injection e1 with e1
    injection e1 with e1
    rw [e1]; exact ⟨_, hc⟩
  obtain ⟨p4v, p4⟩ := p4
  have z4 : w4.frozen? ⟨g4, j * 5 + 4, none⟩ = false := hown4.frozenAt _
  obtain ⟨w5, hw5⟩ : ∃ w5, w4.setCell ⟨g4, j * 5 + 4, none⟩ (.bool true) = w5 := ⟨_, rfl⟩
  have o5 : Only [g4] w4 w5 := hw5 ▸ (Only.refl _ _).setCell (.inl (by simp)) _
  have hown5 : w5.ownsRow z 52 5 (.slice (some ⟨g4, 0, none⟩) t.fd.ps.length c4) t.fd.ps.length (poL (t.fd.ps.set j x.mark)) := by
    have h1 := (hown4.stored (j * 5 + 4) (.bool true)).1
    unfold poL at h1 ⊢
    rw [flat_set Po.cells 5 (fun _ => rfl) t.fd.ps j 4 x x.mark (.bool true) HX.out (by omega) rfl] at h1
    exact hw5 ▸ h1
  have hW2 := HO2.out.size
  have hgz : g < z := by have := World.block_lt_of_cell? w1; have := hgl; omega
  have hbz : b < z := by have := H.out.cells.lt; omega
  have HO5 : Hid (Only [] w w5) := Lib.hid (HO4.out.trans o5 (fun y hy => by simp at hy; right; omega))
  have hX5 := H.out.only HO5.out
  have d0 := hX5.cells.cell (k := 0) rfl
  obtain ⟨g', c', hv', hg5, q50, q51, q52, q53⟩ := hX5.at_ (by have := HAT.out; rw [HI.out] at this; exact this)
  injection hv' with e1 _ e3
  injection e1 with e1
  injection e1 with e1
  subst e1; subst e3
  have z5 := hX5.fz (i * 4 + 3)
  have hrow6 := row_f3 hX5.row (i := i) (by have := HAT.out; rw [HI.out] at this; exact this) (t.fd.ps.set j x.mark) (.slice (some ⟨g4, 0, none⟩) t.fd.ps.length c4)
  have o6 : Only [g] w5 (w5.setCell ⟨g, i * 4 + 3, none⟩ (.slice (some ⟨g4, 0, none⟩) t.fd.ps.length c4)) := (Only.refl _ _).setCell (.inl (by simp)) _
  have hmk : markF t.fd j = ⟨t.fd.pol, t.fd.fai, t.fd.ps.set j x.mark⟩ := by unfold markF; rw [markAt_some HX.out]
  have hown6 := own_keep hown5 o6 (by intro y hy e; simp at hy; subst hy; simp [Value.ownBlock] at e; omega)
  have hP := H.out.put (f := markF t.fd j) (pv := .slice (some ⟨g4, 0, none⟩) t.fd.ps.length c4) HF.out (HO5.out.of0.tr o6) (by rw [HI.out, hmk]; exact hrow6) (by
    rw [hmk]
    show RfS _ _ 5 (t.fd.ps.set j x.mark).length (poL (t.fd.ps.set j x.mark))
    rw [List.length_set]
    exact RfS.of_own hown6 (poL_one' _)) (fun q hq => by
    simp only [Value.ownBlock, Option.some.injEq] at hq
    subst hq
    right
    have := o5.size
    have := o6.size
    omega) (by rw [hmk]; exact ⟨by show (t.fd.ps.set j x.mark).length ≤ 200; rw [List.length_set]; omega, (H.out.fg t HTM.out).nb⟩)
  have HP := Lib.hid hP
  have hg45 : g4 < w5.heap.size := by have := o5.size; omega
  have hgw5 : g < w5.heap.size := by have := o5.size; omega
  clear hX3 hX5 o3 hlit hsrc hown4 ho4 hn4 ho4' o5 hown5 hrow6 o6 hmk hown6 hP q50 q51 q52
  go_wp2_with (at_builtin; refine wpList_runapp rfl _ _ 29 rfl rfl rfl hr4 ?_)
  go_ret
  exact ⟨by rw [HM.out]; rfl, _, _, HP.out.1, by rw [HM.out]; exact HP.out.2⟩
/-- Posts behind a number, at most fifty. -/
def lsR (ps : List Po) (after : Int) : List Po := (ps.filter fun p => decide (after < p.sq)).take 50
def lsD (S : Sv) (k : List UInt8) (after : Int) : List Po × Int := match fnd S k with
  | none => ([], 4)
  | some f => (lsR f.ps after, 0)
set_option maxRecDepth 100000 in
set_option maxHeartbeats 2000000 in
theorem rs_list (b : Nat) (v : Value) (T : List Rf) (k : List UInt8) (hk : k.length ≤ maxLen) (after : Int) (w : World) (h : RsX w b v T) :
    Calls Tryz.prog 22 #[.pointer (some ⟨b, 0, none⟩), .string ⟨k.toArray⟩, .int .i64 after] w fun e w' => ∃ v', e = .returned (.tuple #[v', .int .i64 (lsD (pR T) k after).2]) ∧ w'.ownsRow w.heap.size 52 5 v' (lsD (pR T) k after).1.length (poL (lsD (pR T) k after).1) ∧ Only [] w w' := by
  obtain ⟨i0, hi0, hz0, hz1, hz2⟩ := info_parts info_post5
  have H := Lib.hid h
  have CF := Lib.hid (rs_find b _ T k hk w h)
  cases hf : rT T k with
  | none =>
    have hE : Hid (lsD (pR T) k after = ([], 4)) := Lib.hid (by unfold lsD; rw [fnd_rT, hf]; rfl)
    rw [hf] at CF
    clear h
    go_enter Tryz.func22, Tryz.ntmps22
    go_wp2_with fail
    refine CF.out.mono ?_
    rintro e w1 ⟨rfl, ho1⟩
    have HO1 := Lib.hid ho1
    clear ho1 CF
    go_wp2_with fail
    go_ret2
    exact ⟨.slice none 0 0, by rw [hE.out]; rfl, by rw [hE.out]; exact World.ownsRow_nil _ _ _ _, HO1.out⟩
  | some t =>
  have hE : Hid (lsD (pR T) k after = (lsR t.fd.ps after, 0)) := Lib.hid (by unfold lsD; rw [fnd_rT, hf]; rfl)
  obtain ⟨hat, htk⟩ := rT_at h.srt hf
  rw [hf] at CF
  have htm := List.mem_of_getElem? hat
  obtain ⟨g, c, rfl, hgl, _, _, _, _⟩ := h.at_ hat
  obtain ⟨i, hi⟩ : ∃ i, ixR T k = i := ⟨_, rfl⟩
  rw [hi] at hat
  have HAT := Lib.hid hat
  have HTM := Lib.hid htm
  have hil : i < T.length := (List.getElem?_eq_some_iff.1 hat).1
  have hil' : (i : Int) < (T.length : Int) := by omega
  rw [hi] at CF
  have hfc := (h.fg t htm).cap
  obtain ⟨A2, c2, hv2, _, _⟩ := (h.ps t htm).shape
  have HV2 := Lib.hid hv2
  obtain ⟨ps, hps⟩ : ∃ ps, t.fd.ps = ps := ⟨_, rfl⟩
  have HPS := Lib.hid (h.ps t htm)
  rw [hv2] at HPS
  rw [hps] at HPS HV2 hE hfc
  clear h hat hf hi htm hv2
  go_enter Tryz.func22, Tryz.ntmps22
  go_wp2_with fail
  refine CF.out.mono ?_
  rintro e w1 ⟨rfl, ho1⟩
  have HO1 := Lib.hid ho1
  clear ho1 CF
  go_wp2_with fail
  go_loopw [10, 11] (fun u i wr => ∃ (j : Nat) (l : List Po), j ≤ ps.length ∧ i = .int .i64 j ∧ Hid (l = (ps.take j).filter fun p => decide (after < p.sq)) ∧ l.length ≤ 50 ∧ Hid (wr.ownsRow w.heap.size 52 5 u l.length (poL l)) ∧ Hid (Only [] w wr)) (fun _ i _ => ps.length - (intOf i).toNat)
  case atStart => exact ⟨0, [], by omega, rfl, Lib.hid rfl, by simp, Lib.hid (World.ownsRow_nil _ _ _ _), HO1⟩
  case round =>
    obtain ⟨j, l, hj, rfl, hl, hl50, hown, ho⟩ := hrel
    have hX := H.out.only ho.out
    have c0 := hX.cells.cell (k := 0) rfl
    obtain ⟨g', c', hv', hg1, q0, q1, q2, q3⟩ := hX.at_ HAT.out
    injection hv' with e1 _ e3
    injection e1 with e1
    injection e1 with e1
    subst e1; subst e3
    rw [HV2.out] at q3
    by_cases hjl : j < ps.length
    · have hjl' : (j : Int) < (ps.length : Int) := by omega
      by_cases h50 : l.length < 50
      · have h50' : decide ((l.length : Int) < 50) = true := by simp; omega
        obtain ⟨x, hx⟩ : ∃ x, ps[j]? = some x := ⟨_, List.getElem?_eq_getElem hjl⟩
        obtain ⟨b1, o1, c1, g1, p0, p1, p2, p3, p4⟩ := poL_at (HPS.out.only ho.out).sl rfl hx
        injection g1 with i1 _ i3
        subst i1; subst i3
        obtain ⟨UA, uc, rfl⟩ := (SlAt.of_own hown.out).shape
        have hwr : IntKind.i64.wrap ((j : Int) + 1) = (j : Int) + 1 := by rw [IntKind.wrap_i64]; omega
        by_cases ha : after < x.sq
        · have ha' : decide (after < x.sq) = true := by simpa using ha
          have HL : Hid (l ++ [x] = (ps.take (j + 1)).filter fun p => decide (after < p.sq)) := Lib.hid (by rw [List.take_add_one, hx, List.filter_append, ← hl.out]; simp [ha])
          obtain ⟨w2, hw2⟩ : ∃ w2, wr.alloc (.cells #[.int .i64 x.sq, .string ⟨x.it.id.toArray⟩, .string ⟨x.it.ti.toArray⟩, .string ⟨x.it.li.toArray⟩, .bool x.rd] 52) = w2 := ⟨_, rfl⟩
          obtain ⟨z, hz⟩ : ∃ z, wr.heap.size = z := ⟨_, rfl⟩
          have o2 : Only [] wr w2 := hw2 ▸ (Only.refl _ _).alloc _
          have hC2 : Cells w2 z 52 x.cells := hw2 ▸ hz ▸ Cells.new wr _ _
          have hWw := ho.out.size
          obtain ⟨v3, w3, hr3, hown3, ho3, hn3⟩ := run_app (P := Tryz.prog) w2 w.heap.size 29 29 52 i0 (.agg #[.int .i64 0, .string .empty, .string .empty, .string .empty, .bool false]) 5 64 Tryz.underlying29 hi0 hz0 hz1 hz2 rfl (by decide) (.slice UA l.length uc) l.length (poL l) (own_keep hown.out o2 (by simp)) (.slice (some ⟨z, 0, none⟩) 1 1) 1 x.cells (SrcA.piece hC2 rfl (by simp [Po.cells, Value.oneCell']) (fun j u h => by simpa using h)) (by unfold maxLen; omega) (by omega) (by have := o2.size; omega)
          have HOWN3 : Hid (w3.ownsRow w.heap.size 52 5 v3 (l ++ [x]).length (poL (l ++ [x]))) := Lib.hid (by
            rw [List.length_append]
            have e1 : poL (l ++ [x]) = poL l ++ x.cells := by unfold poL; rw [List.flatMap_append]; simp
            rw [e1]
            exact hown3)
          have HO3 : Hid (Only [] w w3) := Lib.hid ((ho.out.tr o2).trans ho3 (fun y hy => .inr (hown.out.lt y (by simpa using hy)).1))
          have hl3 : (l ++ [x]).length = l.length + 1 := by simp
          have hsh3 := (SlAt.of_own HOWN3.out).shape
          rw [hl3] at hsh3
          obtain ⟨A3, c3, rfl⟩ := hsh3
          clear hX hx hown3 ho3 hn3 o2 hC2 hown ho hl ha
          go_wp2_with (at_builtin; refine wpList_runapp rfl _ _ 29 rfl rfl rfl hr3 ?_)
          go_roundw
          case rel => exact ⟨j + 1, l ++ [x], by omega, by go_num, HL, by rw [hl3]; omega, HOWN3, HO3⟩
          case measure => simp [intOf]; omega
        · have ha' : decide (after < x.sq) = false := by simpa using ha
          have HL : Hid (l = (ps.take (j + 1)).filter fun p => decide (after < p.sq)) := Lib.hid (by rw [List.take_add_one, hx, List.filter_append, ← hl.out]; simp [ha])
          clear hX hx hl ha
          go_wp2_with fail
          go_roundw
          case rel => exact ⟨j + 1, l, by omega, by go_num, HL, hl50, hown, ho⟩
          case measure => simp [intOf]; omega
      · have h50' : decide ((l.length : Int) < 50) = false := by simp; omega
        have hR : Hid (lsR ps after = l) := Lib.hid (by
          unfold lsR
          have e1 : ps.filter (fun p => decide (after < p.sq)) = l ++ (ps.drop j).filter (fun p => decide (after < p.sq)) := by
            rw [hl.out, ← List.filter_append, List.take_append_drop]
          rw [e1, List.take_append_of_le_length (by omega), List.take_of_length_le (by omega)])
        obtain ⟨UA, uc, rfl⟩ := (SlAt.of_own hown.out).shape
        clear hX
        go_wp2_with fail
        go_ret2
        exact ⟨_, by rw [hE.out]; rfl, by rw [hE.out]; show World.ownsRow _ _ _ 5 _ (lsR ps after).length (poL (lsR ps after)); rw [hR.out]; exact hown.out, ho.out⟩
    · obtain rfl : j = ps.length := by omega
      have hd : decide ((ps.length : Int) < (ps.length : Int)) = false := by simp
      have hR : Hid (lsR ps after = l) := Lib.hid (by
        unfold lsR
        rw [← List.take_length (l := ps), ← hl.out, List.take_of_length_le hl50])
      obtain ⟨UA, uc, rfl⟩ := (SlAt.of_own hown.out).shape
      clear hX
      go_wp2_with fail
      go_ret2
      exact ⟨_, by rw [hE.out]; rfl, by rw [hE.out]; show World.ownsRow _ _ _ 5 _ (lsR ps after).length (poL (lsR ps after)); rw [hR.out]; exact hown.out, ho.out⟩
end Go.Proofs.YtjfnkjpnjiobjaaGreat
namespace Go.Proofs.YtjfnkjpnjiobjaaGreat
open Go.RowKit
theorem idxI_neg (ps : List Po) (k : List UInt8) : decide (idxI ps k < 0) = (idx ps k).isNone := by
  unfold idxI
  cases idx ps k with
  | none => rfl
  | some i => simp
theorem addB_le {f : Fd} (x : It) (h : f.ps.length ≤ 200) : addB f x = ((idx f.ps x.id).isNone && decide ((f.ps.length : Int) < 200)) := by
  have e : (!(f.ps.length == 200)) = decide ((f.ps.length : Int) < 200) := by
    by_cases h2 : f.ps.length = 200
    · rw [h2]; decide
    · rw [show (f.ps.length == 200) = false from by simpa using h2, decide_eq_true (by omega : (f.ps.length : Int) < 200)]
      rfl
  unfold addB
  rw [e]
theorem one_app {a b : List Value} (h : ∀ u ∈ a, u.oneCell' = true) (h' : ∀ u ∈ b, u.oneCell' = true) : ∀ u ∈ a ++ b, u.oneCell' = true := fun u hu => by
  rcases List.mem_append.1 hu with hu | hu
  · exact h u hu
  · exact h' u hu
theorem addF_cap {f : Fd} (x : It) (h : f.ps.length ≤ 200) : (addF f x).ps.length ≤ 200 := by
  unfold addF
  split
  · rename_i hb
    rw [addB_le x h] at hb
    simp only [Bool.and_eq_true, decide_eq_true_eq] at hb
    simp only [List.length_append, List.length_singleton]
    omega
  · exact h
theorem addF_same {f : Fd} (x : It) : (addF f x).pol = f.pol ∧ (addF f x).fai = f.fai := by
  unfold addF
  split <;> exact ⟨rfl, rfl⟩
set_option maxRecDepth 100000 in
set_option maxHeartbeats 4000000 in
theorem rs_ingest (b : Nat) (v : Value) (T : List Rf) (k : List UInt8) (hk : k.length ≤ maxLen) (iv : Value) (l : List It) (now : Int) (w : World) (h : RsX w b v T) (hs : ∀ w', Only (b :: rb v) w w' → SlAt w' w'.heap.size iv 3 l.length (itL l)) (hl : l.length ≤ 1000000) (hx : ∀ x ∈ l, x.Len) :
    Calls Tryz.prog 23 #[.pointer (some ⟨b, 0, none⟩), .string ⟨k.toArray⟩, iv, .int .i64 now] w fun e w' => e = .returned (.tuple #[.int .i64 (ingR (pR T) k l now).1, .int .i64 (ingR (pR T) k l now).2.1]) ∧ ∃ v' T', OpX w w' b v v' T T' ∧ pR T' = (ingR (pR T) k l now).2.2 := by
  obtain ⟨i0, hi0, hz0, hz1, hz2⟩ := info_parts info_post5
  have H := Lib.hid h
  have HS := Lib.hid hs
  have HXL := Lib.hid hx
  have CF := Lib.hid (rs_find b _ T k hk w h)
  have CT := Lib.hid (fun w' => ref17_time now w')
  have hcap := h.cap
  obtain ⟨IA, ic, rfl⟩ := (hs w (Only.refl _ _)).shape
  cases hf : rT T k with
  | none =>
    have hE : Hid (ingR (pR T) k l now = (0, 4, pR T)) := Lib.hid (by unfold ingR; rw [fnd_rT, hf]; rfl)
    rw [hf] at CF
    clear h hs hx
    go_enter Tryz.func23, Tryz.ntmps23
    go_wp2_with fail
    refine CF.out.mono ?_
    rintro e w1 ⟨rfl, ho1⟩
    have HO1 := Lib.hid ho1
    clear ho1 CF
    go_wp2_with fail
    go_ret2
    exact ⟨by rw [hE.out]; rfl, _, T, OpX.same H.out HO1.out, by rw [hE.out]⟩
  | some t =>
  obtain ⟨hat, htk⟩ := rT_at h.srt hf
  rw [hf] at CF
  have hIn : ingR (pR T) k l now = if okT now then (if l.all itR then (((ingF t.fd l).2 : Int), (0 : Int), putBy Prod.fst k (k, ⟨now, 0, (ingF t.fd l).1.ps⟩) (pR T)) else (0, 1, pR T)) else (0, 1, pR T) := by unfold ingR; rw [fnd_rT, hf]; rfl
  cases hn : okT now with
  | false =>
    have hE : Hid (ingR (pR T) k l now = (0, 1, pR T)) := Lib.hid (by rw [hIn, hn]; rfl)
    simp only [hn] at CT
    clear h hs hx hIn
    go_enter Tryz.func23, Tryz.ntmps23
    go_wp2_with fail
    refine CF.out.mono ?_
    rintro e w1 ⟨rfl, ho1⟩
    have HO1 := Lib.hid ho1
    clear ho1 CF
    go_wp2_with fail
    refine (CT.out _).mono ?_
    rintro e w2 ⟨rfl, rfl⟩
    go_wp2_with fail
    go_ret2
    exact ⟨by rw [hE.out]; rfl, _, T, OpX.same H.out HO1.out, by rw [hE.out]⟩
  | true =>
  have hE : Hid (∀ q, l.all itR = q → ingR (pR T) k l now = if q then (((ingF t.fd l).2 : Int), (0 : Int), putBy Prod.fst k (k, ⟨now, 0, (ingF t.fd l).1.ps⟩) (pR T)) else (0, 1, pR T)) := Lib.hid (fun q hq => by rw [hIn, hn, hq]; rfl)
  simp only [hn] at CT
  have htm := List.mem_of_getElem? hat
  obtain ⟨g, c, rfl, hgl, _, _, _, _⟩ := h.at_ hat
  obtain ⟨i, hi⟩ : ∃ i, ixR T k = i := ⟨_, rfl⟩
  rw [hi] at hat
  have HAT := Lib.hid hat
  have HF := Lib.hid hf
  have HI := Lib.hid hi
  have HTM := Lib.hid htm
  have HTK := Lib.hid htk
  have hil : i < T.length := (List.getElem?_eq_some_iff.1 hat).1
  have hil' : (i : Int) < (T.length : Int) := by omega
  rw [hi] at CF
  have hfc := (h.fg t htm).cap
  obtain ⟨hn0, hn1⟩ := okT_iff.1 hn
  have hbg : b ≠ g := fun e => h.vb (by rw [e]; rfl)
  have hgw := hgl
  have hbw := h.cells.lt
  clear h hs hx hat hf hi htm htk hIn
  go_enter Tryz.func23, Tryz.ntmps23
  go_wp2_with fail
  refine CF.out.mono ?_
  rintro e w1 ⟨rfl, ho1⟩
  have HO1 := Lib.hid ho1
  clear ho1 CF
  go_wp2_with fail
  refine (CT.out _).mono ?_
  rintro e w2 ⟨rfl, rfl⟩
  clear CT
  go_wp2_with fail
  -- are all items right?
  go_loopw [12, 13] (fun i _ wr => ∃ j : Nat, j ≤ l.length ∧ i = .int .i64 j ∧ Hid ((l.take j).all itR = true) ∧ Hid (Only [] w wr)) (fun i _ _ => l.length - (intOf i).toNat)
  case atStart => exact ⟨0, by omega, rfl, Lib.hid rfl, HO1⟩
  case round =>
    obtain ⟨j, hj, rfl, hall, ho⟩ := hrel
    by_cases hlt : j < l.length
    · have hlt' : (j : Int) < (l.length : Int) := by omega
      obtain ⟨x, hxj⟩ : ∃ x, l[j]? = some x := ⟨_, List.getElem?_eq_getElem hlt⟩
      obtain ⟨b1, o1, c1, e1, q0, q1, q2⟩ := itL_at (HS.out wr ho.out.of0) hxj
      injection e1 with i1 _ i3
      subst i1; subst i3
      have CR := Lib.hid (ref13_right x (HXL.out x (List.mem_of_getElem? hxj)) wr)
      obtain ⟨q, hq⟩ : ∃ q, itR x = q := ⟨_, rfl⟩
      rw [hq] at CR
      have HA : Hid ((l.take (j + 1)).all itR = q) := Lib.hid (by rw [List.take_add_one, hxj, List.all_append, hall.out]; simp [hq])
      have HB : Hid (q = false → l.all itR = false) := Lib.hid (fun h => by
        cases hc : l.all itR with
        | false => rfl
        | true => rw [List.all_eq_true] at hc; rw [← hc x (List.mem_of_getElem? hxj), hq]; exact h.symm ▸ rfl)
      have hwr : IntKind.i64.wrap ((j : Int) + 1) = (j : Int) + 1 := by rw [IntKind.wrap_i64]; omega
      clear hxj hall hq
      go_wp2_with fail
      refine CR.out.mono ?_
      rintro e w3 ⟨rfl, ho3⟩
      have HO3 := Lib.hid (ho.out.tr ho3)
      clear ho3 CR q0 q1 q2
      cases q with
      | true =>
        go_wp2_with fail
        go_roundw
        case rel => exact ⟨j + 1, by omega, by go_num, HA, HO3⟩
        case measure => simp [intOf]; omega
      | false =>
        have hE2 := Lib.hid (hE.out false (HB.out rfl))
        go_wp2_with fail
        go_ret2
        exact ⟨by rw [hE2.out]; rfl, _, T, OpX.same H.out HO3.out, by rw [hE2.out]; rfl⟩
    · obtain rfl : j = l.length := by omega
      have hd : decide ((l.length : Int) < (l.length : Int)) = false := by simp
      have hE2 := Lib.hid (hE.out true (by have := hall.out; rwa [List.take_length] at this))
      obtain ⟨wo, rfl⟩ : ∃ wo, wo = wr := ⟨_, rfl⟩
      have hX := H.out.only ho.out
      have c0 := hX.cells.cell (k := 0) rfl
      obtain ⟨g', c', hv', hg1, q0, q1, q2, q3⟩ := hX.at_ HAT.out
      injection hv' with e1 _ e3
      injection e1 with e1
      injection e1 with e1
      subst e1; subst e3
      obtain ⟨A2, c2, hv2, _, _⟩ := (hX.ps t HTM.out).shape
      have HP0 := Lib.hid (hX.ps t HTM.out)
      have HV2 := Lib.hid hv2
      rw [hv2] at q3
      obtain ⟨w4, hw4⟩ : ∃ w4, wo.alloc (.cells #[.string ⟨t.nm.toArray⟩, .int .i64 t.fd.pol, .int .i64 t.fd.fai, .slice A2 t.fd.ps.length c2] 59) = w4 := ⟨_, rfl⟩
      obtain ⟨z, hz⟩ : ∃ z, wo.heap.size = z := ⟨_, rfl⟩
      have o4 : Only [] wo w4 := hw4 ▸ (Only.refl _ _).alloc _
      have hC4 : Cells w4 z 59 [.string ⟨t.nm.toArray⟩, .int .i64 t.fd.pol, .int .i64 t.fd.fai, .slice A2 t.fd.ps.length c2] := hw4 ▸ hz ▸ Cells.new wo _ _
      have HC4 := Lib.hid hC4
      have HO4 := Lib.hid (ho.out.tr o4)
      have HP4 : Hid (RfS w4 (.slice A2 t.fd.ps.length c2) 5 t.fd.ps.length (poL t.fd.ps)) := Lib.hid (hv2 ▸ (HP0.out.only o4))
      have hwz : w.heap.size ≤ z := by have := ho.out.size; omega
      have hOL : ∀ q, (Value.slice A2 t.fd.ps.length c2).ownBlock = some q → t.v.ownBlock = some q ∨ w.heap.size ≤ q := fun q hq => .inl (by rw [hv2]; exact hq)
      have HOL := Lib.hid hOL
      have HZP : Hid (∀ q, (Value.slice A2 t.fd.ps.length c2).ownBlock = some q → q < w4.heap.size ∧ q ≠ z) := Lib.hid (fun q hq => by
        have h1 := (H.out.pb t HTM.out q (by rw [hv2]; exact hq)).1
        have := HO4.out.size
        omega)
      clear hX o4 hC4 hv2 hall HP0 hOL ho
      go_upto_region 15 with fail
      clear hw4 hz c0 q0 q1 q2 q3
      go_loopw [15, 16] (fun n i wr => ∃ (j : Nat) (pv : Value) (s : Fd × Nat), j ≤ l.length ∧ i = .int .i64 j ∧ n = .int .i64 s.2 ∧ Hid (ingF t.fd (l.take j) = s) ∧ s.2 ≤ j ∧ s.1.ps.length ≤ 200 ∧ s.1.pol = t.fd.pol ∧ s.1.fai = t.fd.fai ∧ Hid (Cells wr z 59 [.string ⟨t.nm.toArray⟩, .int .i64 t.fd.pol, .int .i64 t.fd.fai, pv]) ∧ Hid (RfS wr pv 5 s.1.ps.length (poL s.1.ps)) ∧ Hid (∀ q, pv.ownBlock = some q → t.v.ownBlock = some q ∨ w.heap.size ≤ q) ∧ Hid (∀ q, pv.ownBlock = some q → q < wr.heap.size ∧ q ≠ z) ∧ Hid (Only [] w wr)) (fun _ i _ => l.length - (intOf i).toNat)
      case atStart => exact ⟨0, _, (t.fd, 0), by omega, rfl, rfl, Lib.hid rfl, by simp, hfc, rfl, rfl, HC4, HP4, HOL, HZP, HO4⟩
      case round =>
        obtain ⟨j, pv, ⟨f, na⟩, hj, rfl, rfl, hst, hna, hf200, hpol, hfai, hC, hP, hOl, hZp, ho⟩ := hrel
        obtain ⟨wq, rfl⟩ : ∃ wq, wq = wr := ⟨_, rfl⟩
        dsimp only at hst hna hf200 hpol hfai hP
        obtain ⟨A3, c3, rfl, _, _⟩ := hP.out.shape
        obtain ⟨P, hPn⟩ : ∃ P, f.ps.length = P := ⟨_, rfl⟩
        by_cases hlt : j < l.length
        · have hlt' : (j : Int) < (l.length : Int) := by omega
          obtain ⟨x, hxj⟩ : ∃ x, l[j]? = some x := ⟨_, List.getElem?_eq_getElem hlt⟩
          have HXJ := Lib.hid hxj
          obtain ⟨b1, o1, c1, e1, q0, q1, q2⟩ := itL_at (HS.out wq ho.out.of0) hxj
          injection e1 with i1 _ i3
          subst i1; subst i3
          have HT : Hid (ingF t.fd (l.take (j + 1)) = ingS (f, na) x) := Lib.hid (by rw [ingF_step t.fd l j x hxj, hst.out])
          have CP := Lib.hid (fun (u : Since wq) => ref17_post t.nm t.fd.pol t.fd.fai _ f.ps x.id u.w (hP.out.only u.h) (by omega))
          have hng := idxI_neg f.ps x.id
          have hab := addB_le x hf200
          rw [← hng] at hab
          obtain ⟨N, hN⟩ : ∃ N, idxI f.ps x.id = N := ⟨_, rfl⟩
          rw [hN] at CP hab
          have HAB := Lib.hid hab
          rw [hPn] at CP hP hC hOl hZp hab hf200
          have z0 := fun u : Since wq => u.cell (hC.out.cell (k := 0) rfl)
          have z1 := fun u : Since wq => u.cell (hC.out.cell (k := 1) rfl)
          have z2 := fun u : Since wq => u.cell (hC.out.cell (k := 2) rfl)
          have z3 := fun u : Since wq => u.cell (hC.out.cell (k := 3) rfl)
          have u0 := fun u : Since wq => u.cell q0
          have u1 := fun u : Since wq => u.cell q1
          have u2 := fun u : Since wq => u.cell q2
          have hwr : IntKind.i64.wrap ((j : Int) + 1) = (j : Int) + 1 := by rw [IntKind.wrap_i64]; omega
          clear hxj hst hng hab hN
          by_cases hA : N < 0 ∧ P < 200
          · have dN : decide (N < 0) = true := by simpa using hA.1
            have dP : decide ((P : Int) < 200) = true := by have := hA.2; simp; omega
            have hB : addB f x = true := by rw [HAB.out, hPn, dN, dP]; rfl
            have HT2 : Hid (ingF t.fd (l.take (j + 1)) = (⟨f.pol, f.fai, f.ps ++ [⟨(P : Int) + 1, x, false⟩]⟩, na + 1)) := Lib.hid (by rw [HT.out]; unfold ingS addF; dsimp only; rw [hB, hPn]; rfl)
            have hP200 := hA.2
            clear hA hB HT HAB
            go_wp2_with fail
            refine wp_region_only wq (Only.refl _ _) (by kernel_rfl) (by kernel_rfl) ?_
            repeat (go_big_quiet_step ((go_at_call 42; refine Calls.only (CP.out _))))
            refine wpQuiet_nil ?_
            rintro ⟨w5, ho5⟩
            dsimp only
            have HO5 := Lib.hid (ho.out.tr ho5)
            have HC5 := Lib.hid (hC.out.only ho5 (by simp))
            have HP5 := Lib.hid (hP.out.only ho5)
            have HS5 := Lib.hid (hP.out.only ho5).src
            have y0 := fun v : Since w5 => v.cell (HC5.out.cell (k := 0) rfl)
            have y3 := fun v : Since w5 => v.cell (HC5.out.cell (k := 3) rfl)
            have k0 := fun v : Since w5 => v.cell (u0 ⟨w5, ho5⟩)
            have k1 := fun v : Since w5 => v.cell (u1 ⟨w5, ho5⟩)
            have k2 := fun v : Since w5 => v.cell (u2 ⟨w5, ho5⟩)
            have hwp : IntKind.i64.wrap ((P : Int) + 1) = (P : Int) + 1 := by rw [IntKind.wrap_i64]; omega
            have hzP := fun q hq => Nat.lt_of_lt_of_le (hZp.out q hq).1 ho5.size
            have HzP : Hid (∀ q, (Value.slice A3 P c3).ownBlock = some q → q < w5.heap.size) := Lib.hid hzP
            clear z0 z1 z2 z3 u0 u1 u2 q0 q1 q2 CP ho5 hC hP ho hzP
            go_upto_region 18 with fail
            clear hwr
            refine wp_region_pendN w5 (Only.refl _ _) [(68, OwW w5.heap.size 52 5 0 []), (71, OwW w5.heap.size 52 5 P (poL f.ps)), (81, OwW w5.heap.size 52 5 1 [.int .i64 ((P : Int) + 1), .string ⟨x.id.toArray⟩, .string ⟨x.ti.toArray⟩, .string ⟨x.li.toArray⟩, .bool false]), (82, OwW w5.heap.size 52 5 (P + 1) (poL f.ps ++ [.int .i64 ((P : Int) + 1), .string ⟨x.id.toArray⟩, .string ⟨x.ti.toArray⟩, .string ⟨x.li.toArray⟩, .bool false]))] [(71, 68), (82, 71)] 16 (by intro p hp; simp at hp; rcases hp with rfl | rfl | rfl | rfl <;> exact OwW.lasts _ _ _ _ _) (by kernel_rfl) (by kernel_rfl) (by decide) (fun val => ?_)
            simp only [List.take_succ_cons, List.take_zero, List.drop_succ_cons, List.drop_zero]
            refine fit_litO 68 52 5 [] 0 rfl rfl (by simp) (by simp) rfl (by decide) (fun ww => by go_simp) rfl ?_
            simp only [Act.put, List.setIfInBounds_toArray, List.set_cons_zero, List.set_cons_succ]
            refine fit_segN 2 (by kernel_rfl) ?_
            simp only [List.take_succ_cons, List.take_zero, List.drop_succ_cons, List.drop_zero]
            repeat (go_big_quiet_step (fail))
            refine wpQuiet_nil ?_
            refine fit_append 71 68 (.tmp 70) 29 52 i0 (.agg #[.int .i64 0, .string ⟨#[]⟩, .string ⟨#[]⟩, .string ⟨#[]⟩, .bool false]) 5 64 Tryz.underlying29 hi0 hz0 hz1 hz2 rfl (by decide) 0 P P [] (poL f.ps) (poL f.ps) (by omega) rfl rfl rfl rfl (by simp) (by simp) (by simp) (by decide) rfl rfl (fun ww hww => (HS5.out (by decide)).only hww.1) (by unfold maxLen; omega) (by omega) rfl ?_
            simp only [Act.put, List.setIfInBounds_toArray, List.set_cons_zero, List.set_cons_succ]
            refine fit_segN 9 (by kernel_rfl) ?_
            simp only [List.take_succ_cons, List.take_zero, List.drop_succ_cons, List.drop_zero]
            repeat (go_big_quiet_step (fail))
            refine wpQuiet_nil ?_
            refine fit_litO 81 52 5 [.int .i64 ((P : Int) + 1), .string ⟨x.id.toArray⟩, .string ⟨x.ti.toArray⟩, .string ⟨x.li.toArray⟩, .bool false] 1 rfl rfl (by simp) (by simp) rfl (by decide) (fun ww => by go_simp) rfl ?_
            simp only [Act.put, List.setIfInBounds_toArray, List.set_cons_zero, List.set_cons_succ]
            refine fit_append 82 71 (.tmp 81) 29 52 i0 (.agg #[.int .i64 0, .string ⟨#[]⟩, .string ⟨#[]⟩, .string ⟨#[]⟩, .bool false]) 5 64 Tryz.underlying29 hi0 hz0 hz1 hz2 rfl (by decide) P 1 (P + 1) (poL f.ps) [.int .i64 ((P : Int) + 1), .string ⟨x.id.toArray⟩, .string ⟨x.ti.toArray⟩, .string ⟨x.li.toArray⟩, .bool false] (poL f.ps ++ [.int .i64 ((P : Int) + 1), .string ⟨x.id.toArray⟩, .string ⟨x.ti.toArray⟩, .string ⟨x.li.toArray⟩, .bool false]) (by omega) rfl rfl rfl rfl (by simp) (by simp) (by simp) (by decide) rfl rfl (fun ww hww => SrcA.own (hww.2 (81, OwW w5.heap.size 52 5 1 [.int .i64 ((P : Int) + 1), .string ⟨x.id.toArray⟩, .string ⟨x.ti.toArray⟩, .string ⟨x.li.toArray⟩, .bool false]) (by simp) (by show 81 ∈ Oper.looksAt _ _; decide)) (by simp [Value.oneCell'])) (by unfold maxLen; omega) (by omega) rfl ?_
            simp only [Act.put, List.setIfInBounds_toArray, List.set_cons_zero, List.set_cons_succ]
            refine fit_segN 1 (by kernel_rfl) ?_
            simp only [List.take_succ_cons, List.take_zero, List.drop_succ_cons, List.drop_zero]
            repeat (go_big_quiet_step (fail))
            refine wpQuiet_nil ?_
            intro w6 ho5 hV5
            have hown5 := hV5 (by decide) (82, OwW w5.heap.size 52 5 (P + 1) (poL f.ps ++ [.int .i64 ((P : Int) + 1), .string ⟨x.id.toArray⟩, .string ⟨x.ti.toArray⟩, .string ⟨x.li.toArray⟩, .bool false])) (by simp) (by simp)
            obtain ⟨u, hu⟩ : ∃ u, val 82 = u := ⟨_, rfl⟩
            have hown5 : w6.ownsRow w5.heap.size 52 5 u (P + 1) (poL f.ps ++ [.int .i64 ((P : Int) + 1), .string ⟨x.id.toArray⟩, .string ⟨x.ti.toArray⟩, .string ⟨x.li.toArray⟩, .bool false]) := hu ▸ hown5
            rw [hu]
            have hz5 := HC5.out.only ho5 (by simp)
            have HZ := Lib.hid (hz5.set 3 u)
            have r3 := hz5.cell (k := 3) rfl
            have rf := hz5.frozen 3
            have rl := hz5.lt
            have o6 : Only [z] w6 (w6.setCell ⟨z, 3, none⟩ u) := (Only.refl _ _).setCell (.inl (by simp)) _
            have hz6 : w.heap.size ≤ z := hwz
            have hnz : u.ownBlock ≠ some z := fun e => by have := (hown5.lt z e).1; have := HC5.out.lt; omega
            have HROW := Lib.hid (RfS.of_own (own_keep hown5 o6 (by simpa using hnz)) (one_app (poL_one' _) (by simp [Value.oneCell'])))
            have HO6 : Hid (Only [] w (w6.setCell ⟨z, 3, none⟩ u)) := Lib.hid ((HO5.out.tr ho5).trans o6 (fun y hy => .inr (by simp at hy; omega)))
            have HLT : Hid (∀ q, u.ownBlock = some q → w5.heap.size ≤ q ∧ q < w6.heap.size) := Lib.hid (fun q hq => hown5.lt q hq)
            obtain ⟨A6, c6, rfl⟩ := (SlAt.of_own hown5).shape
            have HW5 : Hid (w.heap.size ≤ w5.heap.size) := Lib.hid HO5.out.size
            have HZW : Hid (z < w5.heap.size) := Lib.hid HC5.out.lt
            clear hown5 hV5 hu ho5 hz5 o6 hnz y0 y3 k0 k1 k2 HS5
            have hpo : poL (f.ps ++ [(⟨(P : Int) + 1, x, false⟩ : Po)]) = poL f.ps ++ [.int .i64 ((P : Int) + 1), .string ⟨x.id.toArray⟩, .string ⟨x.ti.toArray⟩, .string ⟨x.li.toArray⟩, .bool false] := by unfold poL; rw [List.flatMap_append]; rfl
            have hpl : (f.ps ++ [(⟨(P : Int) + 1, x, false⟩ : Po)]).length = P + 1 := by rw [List.length_append, hPn]; rfl
            have HROW2 : Hid (RfS (w6.setCell ⟨z, 3, none⟩ (.slice A6 (P + 1) c6)) (.slice A6 (P + 1) c6) 5 (f.ps ++ [(⟨(P : Int) + 1, x, false⟩ : Po)]).length (poL (f.ps ++ [(⟨(P : Int) + 1, x, false⟩ : Po)]))) := Lib.hid (by rw [hpo, hpl]; exact HROW.out)
            have HOL2 : Hid (∀ q, (Value.slice A6 (P + 1) c6).ownBlock = some q → t.v.ownBlock = some q ∨ w.heap.size ≤ q) := Lib.hid (fun q hq => .inr (Nat.le_trans HW5.out (HLT.out q hq).1))
            have HZP2 : Hid (∀ q, (Value.slice A6 (P + 1) c6).ownBlock = some q → q < (w6.setCell ⟨z, 3, none⟩ (.slice A6 (P + 1) c6)).heap.size ∧ q ≠ z) := Lib.hid (fun q hq => by
              have h1 := HLT.out q hq
              have h2 := HZW.out
              refine ⟨by simpa [World.setCell] using h1.2, by omega⟩)
            go_wp2_with fail
            go_roundw
            case rel => exact ⟨j + 1, _, (⟨f.pol, f.fai, f.ps ++ [⟨(P : Int) + 1, x, false⟩]⟩, na + 1), by omega, by go_num, by show _ = Value.int .i64 ((na + 1 : Nat) : Int); go_num, HT2, by show na + 1 ≤ _; omega, by show (f.ps ++ _).length ≤ 200; rw [hpl]; omega, hpol, hfai, HZ, HROW2, HOL2, HZP2, HO6⟩
            case measure => simp [intOf]; omega
          · have hB : addB f x = false := by
              rw [HAB.out, hPn]
              by_cases h1 : N < 0
              · have h2 : ¬ P < 200 := fun h => hA ⟨h1, h⟩
                rw [decide_eq_false (p := (P : Int) < 200) (by omega)]; simp
              · rw [decide_eq_false h1]; rfl
            have HT2 : Hid (ingF t.fd (l.take (j + 1)) = (f, na)) := Lib.hid (by rw [HT.out]; unfold ingS addF; dsimp only; rw [hB]; rfl)
            have hP2 : Hid (RfS wq (.slice A3 P c3) 5 f.ps.length (poL f.ps)) := Lib.hid (by rw [hPn]; exact hP.out)
            have hcase : (decide (N < 0) = false) ∨ (decide (N < 0) = true ∧ decide ((P : Int) < 200) = false) := by
              by_cases h1 : N < 0
              · right
                exact ⟨by simpa using h1, decide_eq_false (by have := fun h => hA ⟨h1, h⟩; omega)⟩
              · left; simpa using h1
            clear hA hB HT HAB
            rcases hcase with dN | ⟨dN, dP⟩
            all_goals
              go_wp2_with fail
              refine wp_region_only wq (Only.refl _ _) (by kernel_rfl) (by kernel_rfl) ?_
              repeat (go_big_quiet_step ((go_at_call 42; refine Calls.only (CP.out _))))
              refine wpQuiet_nil ?_
              rintro ⟨w5, ho5⟩
              dsimp only
              have HO5 := Lib.hid (ho.out.tr ho5)
              have HC5 := Lib.hid (hC.out.only ho5 (by simp))
              have HP5 := Lib.hid (hP2.out.only ho5)
              have HZ5 : Hid (∀ q, (Value.slice A3 P c3).ownBlock = some q → q < w5.heap.size ∧ q ≠ z) := Lib.hid (fun q hq => ⟨Nat.lt_of_lt_of_le (hZp.out q hq).1 ho5.size, (hZp.out q hq).2⟩)
              clear z0 z1 z2 z3 u0 u1 u2 q0 q1 q2 CP ho5 hC hP ho hP2
              go_wp2_with fail
              go_roundw
              case rel => exact ⟨j + 1, _, (f, na), by omega, by go_num, rfl, HT2, by show na ≤ _; omega, by show f.ps.length ≤ 200; omega, hpol, hfai, HC5, HP5, hOl, HZ5, HO5⟩
              case measure => simp [intOf]; omega
        · obtain rfl : j = l.length := by omega
          have hd : decide ((l.length : Int) < (l.length : Int)) = false := by simp
          have hst2 : Hid (ingF t.fd l = (f, na)) := Lib.hid (by have := hst.out; rwa [List.take_length] at this)
          rw [hPn] at hC hOl hZp
          obtain ⟨w5, hw5⟩ : ∃ w5, wq.setCell ⟨z, 1, none⟩ (.int .i64 now) = w5 := ⟨_, rfl⟩
          obtain ⟨w6, hw6⟩ : ∃ w6, w5.setCell ⟨z, 2, none⟩ (.int .i64 0) = w6 := ⟨_, rfl⟩
          have hC5 : Cells w5 z 59 [.string ⟨t.nm.toArray⟩, .int .i64 now, .int .i64 t.fd.fai, .slice A3 P c3] := hw5 ▸ hC.out.set 1 (.int .i64 now)
          have hC6 : Cells w6 z 59 [.string ⟨t.nm.toArray⟩, .int .i64 now, .int .i64 0, .slice A3 P c3] := hw6 ▸ hC5.set 2 (.int .i64 0)
          have o56 : Only [z] wq w6 := hw6 ▸ hw5 ▸ ((Only.refl _ _).setCell (p := ⟨z, 1, none⟩) (.inl (by simp)) _).setCell (p := ⟨z, 2, none⟩) (.inl (by simp)) _
          have HO6 : Hid (Only [] w w6) := Lib.hid (ho.out.trans o56 (fun y hy => .inr (by simp at hy; omega)))
          have hP' : RfS wq (.slice A3 P c3) 5 f.ps.length (poL f.ps) := by have := hP.out; rw [hPn] at this ⊢; exact this
          have HP6 := Lib.hid (hP'.keep o56 (fun y hy e => by simp at hy; subst hy; exact (hZp.out y e).2 rfl))
          have m1 := hC.out.cell (k := 1) rfl
          have m1f := hC.out.frozen 1
          have m1l := hC.out.lt
          have m2 := hC5.cell (k := 2) rfl
          have m2f := hC5.frozen 2
          have m2l := hC5.lt
          have HC6 := Lib.hid hC6
          have hZ6 : Hid (∀ q, (Value.slice A3 P c3).ownBlock = some q → q < w6.heap.size) := Lib.hid (fun q hq => Nat.lt_of_lt_of_le (hZp.out q hq).1 o56.size)
          clear hst hC5 hC6 o56 hP hP' hC ho
          go_upto_region 22 with fail
          clear m1 m1f m1l m2 m2f m2l hw5 hw6
          have hX6 := H.out.only HO6.out
          have s0 := fun v : Since w6 => v.cell (HC6.out.cell (k := 0) rfl)
          have s1 := fun v : Since w6 => v.cell (HC6.out.cell (k := 1) rfl)
          have s2 := fun v : Since w6 => v.cell (HC6.out.cell (k := 2) rfl)
          have s3 := fun v : Since w6 => v.cell (HC6.out.cell (k := 3) rfl)
          have d0 := fun v : Since w6 => v.cell (hX6.cells.cell (k := 0) rfl)
          refine wp_region_only_tail w6 (Only.refl _ _) 7 (by kernel_rfl) (by kernel_rfl) ?_
          simp only [List.take_succ_cons, List.take_zero, List.drop_succ_cons, List.drop_zero]
          repeat (go_big_quiet_step (fail))
          refine wpQuiet_nil ?_
          rintro ⟨w7, ho7⟩
          dsimp only
          have hX7 := hX6.only ho7
          have HO7 := Lib.hid (HO6.out.tr ho7)
          obtain ⟨g', c', hv', hg7, r0, r1, r2, r3⟩ := hX7.at_ HAT.out
          injection hv' with e1 _ e3
          injection e1 with e1
          injection e1 with e1
          subst e1; subst e3
          have y0 := hX7.fz (i * 4)
          have y1 := hX7.fz (i * 4 + 1)
          have y2 := hX7.fz (i * 4 + 2)
          have y3 := hX7.fz (i * 4 + 3)
          have hrow := row_f0 hX7.row HAT.out
          have hrow := row_f1 hrow HAT.out now
          have hrow := row_f2 (i := i) hrow (t := t.with ⟨now, t.fd.fai, t.fd.ps⟩ t.v) (by simp [hil]) 0
          have hrow := row_f3 (i := i) hrow (t := t.with ⟨now, 0, t.fd.ps⟩ t.v) (by simp [hil, Rf.with]) f.ps (.slice A3 P c3)
          rw [List.set_set, List.set_set] at hrow
          have o8 : Only [g] w7 ((((w7.setCell ⟨g, i * 4, none⟩ (.string ⟨t.nm.toArray⟩)).setCell ⟨g, i * 4 + 1, none⟩ (.int .i64 now)).setCell ⟨g, i * 4 + 2, none⟩ (.int .i64 0)).setCell ⟨g, i * 4 + 3, none⟩ (.slice A3 P c3)) := ((((Only.refl _ _).setCell (.inl (by simp)) _).setCell (.inl (by simp)) _).setCell (.inl (by simp)) _).setCell (.inl (by simp)) _
          have hPut := H.out.put (f := ⟨now, 0, f.ps⟩) (pv := .slice A3 P c3) HF.out (HO7.out.of0.tr o8) (by rw [HI.out]; exact hrow) ((HP6.out.only ho7).keep o8 (fun y hy e => by
            simp at hy
            subst hy
            rcases hOl.out y e with h1 | h1
            · exact (H.out.pb t HTM.out y h1).2.2 rfl
            · omega)) (fun q hq => by
            rcases hOl.out q hq with h1 | h1
            · exact .inl h1
            · right
              have := hZ6.out q hq
              have := ho7.size
              have := o8.size
              omega) ⟨hf200, ⟨by show -1 ≤ now; omega, hn1, by simp, by simp⟩⟩
          have HPUT := Lib.hid hPut
          clear hX6 hX7 s0 s1 s2 s3 d0 hrow o8 hPut ho7 HC6
          go_wp2_with fail
          go_ret2
          refine ⟨?_, _, _, HPUT.out.1, ?_⟩
          · rw [hE2.out, hst2.out]; rfl
          · rw [hE2.out, hst2.out]; exact HPUT.out.2
end Go.Proofs.YtjfnkjpnjiobjaaGreat
namespace Go.Proofs.YtjfnkjpnjiobjaaGreat
open Go.RowKit
theorem ref_text_n (s : List UInt8) (w : World) (hl : s.length ≤ 1000000) : Calls Tryz.prog 25 #[.string ⟨s.toArray⟩] w fun e w' => e = .returned (.string ⟨(tb s).toArray⟩) ∧ Only [] w w' := ref_text s w (by omega)
set_option maxRecDepth 100000 in
set_option maxHeartbeats 4000000 in
theorem rs_pack (b : Nat) (v : Value) (T : List Rf) (w : World) (h : RsX w b v T) (hsh : ∀ t ∈ T, t.fd.Sh) :
    Calls Tryz.prog 7 #[.pointer (some ⟨b, 0, none⟩)] w fun e w' => e = .returned (.string ⟨(stB (pR T)).toArray⟩) ∧ Only [] w w' := by
  obtain ⟨A, c, rfl⟩ := (SlAt.of_own h.row).shape
  have H := Lib.hid h
  have HSH := Lib.hid hsh
  have hcap := h.cap
  have hln := (ib_length (T.length : Int) ⟨by omega, by omega⟩).2
  have C0 := Lib.hid (ref_int (T.length : Int) w ⟨by omega, by omega⟩)
  obtain ⟨L0, hL0⟩ : ∃ L, ib T.length = L := ⟨_, rfl⟩
  have HL0 := Lib.hid hL0
  rw [hL0] at hln C0
  have c0 := h.cells.cell (k := 0) rfl
  clear h hsh hL0
  go_enter Tryz.func7, Tryz.ntmps7
  go_wp2_with fail
  refine C0.out.mono ?_
  rintro e w1 ⟨rfl, ho1⟩
  have HO1 := Lib.hid ho1
  clear C0 ho1 c0
  go_wp2_with fail
  have HL1 : Hid (L0 = L0 ++ fsB (pR (T.take 0))) := Lib.hid (by simp [fsB, pR])
  go_loopw [3, 4] (fun s i wr => ∃ (k : Nat) (M : List UInt8), k ≤ T.length ∧ i = .int .i64 k ∧ s = .string ⟨M.toArray⟩ ∧ Hid (M = L0 ++ fsB (pR (T.take k))) ∧ Hid (Only [] w wr)) (fun _ i _ => T.length - (intOf i).toNat)
  case atStart => exact ⟨0, L0, by omega, rfl, rfl, HL1, HO1⟩
  case round =>
    obtain ⟨k, M, hk, rfl, rfl, hM, ho⟩ := hrel
    obtain ⟨wo, rfl⟩ : ∃ wo, wo = wr := ⟨_, rfl⟩
    have hX := H.out.only ho.out
    have c0 := hX.cells.cell (k := 0) rfl
    by_cases hlt : k < T.length
    · have hlt' : (k : Int) < (T.length : Int) := by omega
      obtain ⟨t, ht⟩ : ∃ t, T[k]? = some t := ⟨_, List.getElem?_eq_getElem hlt⟩
      have htm := List.mem_of_getElem? ht
      obtain ⟨g, c', hv, hg, q0, q1, q2, q3⟩ := hX.at_ ht
      injection hv with e1 _ e3
      subst e1; subst e3
      obtain ⟨A2, c2, hv2, _, _⟩ := (H.out.ps t htm).shape
      have HRow : Hid (RfS w (.slice A2 t.fd.ps.length c2) 5 t.fd.ps.length (poL t.fd.ps)) := Lib.hid (hv2 ▸ H.out.ps t htm)
      rw [hv2] at q3
      have hsh := HSH.out t htm
      have hnm := (nmL_len (H.out.nml t htm)).2
      have hpl := psB_le t.fd.ps hsh.cap hsh.its
      have hps := fun j => psB_le (t.fd.ps.take j) (by rw [List.length_take]; have := hsh.cap; omega) (fun p hp => hsh.its p (List.mem_of_mem_take hp))
      have hns := hsh.cap
      have hfs := fsB_le (pR (T.take k)) (by rw [pR_len, List.length_take]; omega) (by
        intro x hx
        obtain ⟨t', ht', rfl⟩ := List.mem_map.1 hx
        have hm := List.mem_of_mem_take ht'
        have := (nmL_len (H.out.nml t' hm)).2
        exact ⟨by show t'.nm.length ≤ 1000; omega, HSH.out t' hm⟩)
      have hMl : M.length ≤ 13000000000 := by rw [hM.out, List.length_append]; omega
      have HSM : Hid (L0 ++ fsB (pR (T.take (k + 1))) = M ++ (fdH (t.nm, t.fd) ++ psB t.fd.ps)) := Lib.hid (by
        unfold fsB pR
        rw [List.take_add_one, ht, List.map_append, List.flatMap_append, ← List.append_assoc]
        rw [show L0 ++ ((T.take k).map fun t => (t.nm, t.fd)).flatMap fdB = M from hM.out.symm]
        simp [fdB])
      have HWS := Lib.hid hsh.ws
      have C1 := Lib.hid (fun (wx : World) => ref_text_n t.nm wx (by omega))
      have hw1 := hsh.ws t.fd.pol (by simp)
      have hw2 := hsh.ws t.fd.fai (by simp)
      have hw3 := hsh.ws (t.fd.ps.length : Int) (by simp)
      have C2 := fun (wx : World) => ref_int t.fd.pol wx hw1
      have C3 := fun (wx : World) => ref_int t.fd.fai wx hw2
      have C4 := fun (wx : World) => ref_int (t.fd.ps.length : Int) wx hw3
      have l1 := tb_top t.nm 1000 (by omega) (by omega)
      have l2 := (ib_length _ hw1).2
      have l3 := (ib_length _ hw2).2
      have l4 := (ib_length _ hw3).2
      have HFH : Hid (fdH (t.nm, t.fd) = tb t.nm ++ ib t.fd.pol ++ ib t.fd.fai ++ ib (t.fd.ps.length : Int)) := Lib.hid (by unfold fdH isb; simp)
      obtain ⟨t1, h1⟩ : ∃ x, tb t.nm = x := ⟨_, rfl⟩
      obtain ⟨t2, h2⟩ : ∃ x, ib t.fd.pol = x := ⟨_, rfl⟩
      obtain ⟨t3, h3⟩ : ∃ x, ib t.fd.fai = x := ⟨_, rfl⟩
      obtain ⟨t4, h4⟩ : ∃ x, ib (t.fd.ps.length : Int) = x := ⟨_, rfl⟩
      rw [h1] at C1 l1
      rw [h2] at C2 l2
      rw [h3] at C3 l3
      rw [h4] at C4 l4
      rw [h1, h2, h3, h4] at HFH
      have C2 := Lib.hid C2
      have C3 := Lib.hid C3
      have C4 := Lib.hid C4
      obtain ⟨wx, hwx⟩ : ∃ wx, wo.alloc (.cells #[.string ⟨t.nm.toArray⟩, .int .i64 t.fd.pol, .int .i64 t.fd.fai, .slice A2 t.fd.ps.length c2] 59) = wx := ⟨_, rfl⟩
      obtain ⟨bx, hbx⟩ : ∃ b, wo.heap.size = b := ⟨_, rfl⟩
      have OX : Only [] wo wx := hwx ▸ (Only.refl _ _).alloc _
      have hCX : Cells wx bx 59 [.string ⟨t.nm.toArray⟩, .int .i64 t.fd.pol, .int .i64 t.fd.fai, .slice A2 t.fd.ps.length c2] := hwx ▸ hbx ▸ Cells.new wo _ _
      have HOX := Lib.hid (ho.out.tr OX)
      have HCX := Lib.hid hCX
      have HITS := Lib.hid hsh.its
      have hT : Hid (T[k]? = some t) := Lib.hid ht
      clear hX ht htm hv2 hsh hfs h1 h2 h3 h4 OX hCX ho hw1 hw2 hw3 hM
      go_upto_region 6 with fail
      clear hwx hbx c0 q0 q1 q2 q3
      have z0 := fun u : Since wx => u.cell (HCX.out.cell (k := 0) rfl)
      have z1 := fun u : Since wx => u.cell (HCX.out.cell (k := 1) rfl)
      have z2 := fun u : Since wx => u.cell (HCX.out.cell (k := 2) rfl)
      have z3 := fun u : Since wx => u.cell (HCX.out.cell (k := 3) rfl)
      refine wp_region_only wx (Only.refl _ _) (by kernel_rfl) (by kernel_rfl) ?_
      repeat (go_big_quiet_step (first
        | (go_at_call 25; refine Calls.only (C1.out _))
        | (go_at_call 24; with_reducible refine Calls.only (C2.out _))
        | (go_at_call 24; with_reducible refine Calls.only (C3.out _))
        | (go_at_call 24; with_reducible refine Calls.only (C4.out _))))
      refine wpQuiet_nil ?_
      rintro ⟨w4, ho4⟩
      dsimp only
      have HO4 := Lib.hid (HOX.out.tr ho4)
      have HC4 := Lib.hid (HCX.out.only ho4 (by simp))
      have HM4 : Hid (M ++ t1 ++ t2 ++ t3 ++ t4 = M ++ (fdH (t.nm, t.fd) ++ psB (t.fd.ps.take 0))) := Lib.hid (by rw [HFH.out]; simp [psB])
      clear z0 z1 z2 z3 C1 C2 C3 C4 ho4 HOX HCX
      have z3 := HC4.out.cell (k := 3) rfl
      go_upto_region 8 with fail
      clear z3
      go_loopw [3, 6] (fun s i wr => ∃ (j : Nat) (N : List UInt8), j ≤ t.fd.ps.length ∧ i = .int .i64 j ∧ s = .string ⟨N.toArray⟩ ∧ Hid (N = M ++ (fdH (t.nm, t.fd) ++ psB (t.fd.ps.take j))) ∧ Hid (Cells wr bx 59 [.string ⟨t.nm.toArray⟩, .int .i64 t.fd.pol, .int .i64 t.fd.fai, .slice A2 t.fd.ps.length c2]) ∧ Hid (Only [] w wr)) (fun _ i _ => t.fd.ps.length - (intOf i).toNat)
      case atStart => exact ⟨0, _, by omega, rfl, rfl, HM4, HC4, HO4⟩
      case round =>
        obtain ⟨j, N, hj, rfl, rfl, hN, hC, ho⟩ := hrel
        obtain ⟨wq, rfl⟩ : ∃ wq, wq = wr := ⟨_, rfl⟩
        have z3 := hC.out.cell (k := 3) rfl
        by_cases hjl : j < t.fd.ps.length
        · have hjl' : (j : Int) < (t.fd.ps.length : Int) := by omega
          obtain ⟨x, hx⟩ : ∃ x, t.fd.ps[j]? = some x := ⟨_, List.getElem?_eq_getElem hjl⟩
          have hrw := HRow.out.only ho.out
          obtain ⟨b1, o1, c1', g1, p0, p1, p2, p3, p4⟩ := poL_at hrw.sl rfl hx
          injection g1 with i1 i2 i3
          subst i1; subst i3
          have hxs := HITS.out x (List.mem_of_getElem? hx)
          have l1' := tb_top x.it.id _ hxs.id (by omega)
          have l2' := tb_top x.it.ti _ hxs.ti (by omega)
          have l3' := tb_top x.it.li _ hxs.li (by omega)
          have hpj := hps j
          have hNl : N.length ≤ 14000000000 := by
            rw [hN.out, HFH.out]
            simp only [List.length_append]
            omega
          have C1 := fun (wx : World) => ref_text_n x.it.id wx hxs.id
          have C2 := fun (wx : World) => ref_text_n x.it.ti wx hxs.ti
          have C3 := fun (wx : World) => ref_text_n x.it.li wx hxs.li
          have C4 := fun (wx : World) => ref_bool x.rd wx
          have HSJ : Hid (M ++ (fdH (t.nm, t.fd) ++ psB (t.fd.ps.take (j + 1))) = N ++ (tb x.it.id ++ (tb x.it.ti ++ tb x.it.li)) ++ bb x.rd) := Lib.hid (by
            have : psB (t.fd.ps.take (j + 1)) = psB (t.fd.ps.take j) ++ spB x := flat_snoc spB t.fd.ps j x hx
            rw [this, hN.out]
            unfold spB itT
            simp only [List.append_assoc])
          obtain ⟨x1, h1⟩ : ∃ y, tb x.it.id = y := ⟨_, rfl⟩
          obtain ⟨x2, h2⟩ : ∃ y, tb x.it.ti = y := ⟨_, rfl⟩
          obtain ⟨x3, h3⟩ : ∃ y, tb x.it.li = y := ⟨_, rfl⟩
          obtain ⟨x4, h4⟩ : ∃ y, bb x.rd = y := ⟨_, rfl⟩
          have l4' : x4.length = 1 := by rw [← h4]; rfl
          rw [h1] at C1 l1'
          rw [h2] at C2 l2'
          rw [h3] at C3 l3'
          rw [h4] at C4
          rw [h1, h2, h3, h4] at HSJ
          have C1 := Lib.hid C1
          have C2 := Lib.hid C2
          have C3 := Lib.hid C3
          have C4 := Lib.hid C4
          obtain ⟨wy, hwy⟩ : ∃ wy, wq.alloc (.cells #[.string ⟨x.it.id.toArray⟩, .string ⟨x.it.ti.toArray⟩, .string ⟨x.it.li.toArray⟩] 45) = wy := ⟨_, rfl⟩
          obtain ⟨bz, hbz⟩ : ∃ b, wq.heap.size = b := ⟨_, rfl⟩
          have OY : Only [] wq wy := hwy ▸ (Only.refl _ _).alloc _
          have hCY : Cells wy bz 45 [.string ⟨x.it.id.toArray⟩, .string ⟨x.it.ti.toArray⟩, .string ⟨x.it.li.toArray⟩] := hwy ▸ hbz ▸ Cells.new wq _ _
          have HOY := Lib.hid (ho.out.tr OY)
          have HCY := Lib.hid hCY
          have HCZ := Lib.hid (hC.out.only OY (by simp))
          have p4y := (OY.cell (p := ⟨b1, o1 + j * 5 + 4, none⟩) (World.block_lt_of_cell? wq _ p4) (by simp)).trans p4
          have hwr : IntKind.i64.wrap ((j : Int) + 1) = (j : Int) + 1 := by rw [IntKind.wrap_i64]; omega
          clear h1 h2 h3 h4 hx hxs hpj OY hCY hC ho hrw hN
          go_upto_region 11 with fail
          clear hwy hbz z3 p0 p1 p2 p3 p4
          have y0 := fun u : Since wy => u.cell (HCY.out.cell (k := 0) rfl)
          have y1 := fun u : Since wy => u.cell (HCY.out.cell (k := 1) rfl)
          have y2 := fun u : Since wy => u.cell (HCY.out.cell (k := 2) rfl)
          have k3 := fun u : Since wy => u.cell (HCZ.out.cell (k := 3) rfl)
          have k4 := fun u : Since wy => u.cell p4y
          refine wp_region_only wy (Only.refl _ _) (by kernel_rfl) (by kernel_rfl) ?_
          repeat (go_big_quiet_step (first
            | (go_at_call 25; with_reducible refine Calls.only (C1.out _))
            | (go_at_call 25; with_reducible refine Calls.only (C2.out _))
            | (go_at_call 25; with_reducible refine Calls.only (C3.out _))
            | (go_at_call 26; refine Calls.only_same (C4.out _))))
          refine wpQuiet_nil ?_
          rintro ⟨w7, ho7⟩
          dsimp only
          have HO7 := Lib.hid (HOY.out.tr ho7)
          have HC7 := Lib.hid (HCZ.out.only ho7 (by simp))
          have HM7 : Hid (N ++ x1 ++ x2 ++ x3 ++ x4 = M ++ (fdH (t.nm, t.fd) ++ psB (t.fd.ps.take (j + 1)))) := Lib.hid (by rw [HSJ.out]; simp only [List.append_assoc])
          clear y0 y1 y2 k3 k4 p4y C1 C2 C3 C4 ho7 HOY HCY HCZ
          go_wp2_with fail
          go_roundw
          case rel => exact ⟨j + 1, _, by omega, by go_num, rfl, HM7, HC7, HO7⟩
          case measure => simp [intOf]; omega
        · have hd0 : decide ((j : Int) < (t.fd.ps.length : Int)) = false := by simp; omega
          obtain rfl : j = t.fd.ps.length := by omega
          have HMK : Hid (N = L0 ++ fsB (pR (T.take (k + 1)))) := Lib.hid (by rw [HSM.out, hN.out, List.take_length])
          have hwr : IntKind.i64.wrap ((k : Int) + 1) = (k : Int) + 1 := by rw [IntKind.wrap_i64]; omega
          clear hN
          go_wp2_with fail
          go_roundw
          case rel => exact ⟨k + 1, N, by omega, by go_num, rfl, HMK, ho⟩
          case measure => simp [intOf]; omega
    · have hd0 : decide ((k : Int) < (T.length : Int)) = false := by simp; omega
      obtain rfl : k = T.length := by omega
      have HF : Hid (M = stB (pR T)) := Lib.hid (by rw [hM.out, List.take_length]; unfold stB; rw [pR_len, HL0.out])
      clear hX hM
      go_wp2_with fail
      go_ret
      exact ⟨by rw [← HF.out]; rfl, ho.out⟩
end Go.Proofs.YtjfnkjpnjiobjaaGreat
namespace Go.Proofs.YtjfnkjpnjiobjaaGreat
open Go.RowKit
def Rs (w : World) (b : Nat) (K : List Nat) (S : Sv) : Prop := ∃ v T, RsX w b v T ∧ K = allR b v T ∧ S = pR T
def OpR (w w' : World) (b : Nat) (K : List Nat) (S : Sv) : Prop := ∃ K', Rs w' b K' S ∧ Only K w w' ∧ ∀ x ∈ K', x ∈ K ∨ w.heap.size ≤ x
theorem Rs.keep {X : List Nat} {w w' : World} {b : Nat} {K : List Nat} {S : Sv} (h : Rs w b K S) (ho : Only X w w') (hX : ∀ k ∈ K, k ∉ X) : Rs w' b K S := by
  obtain ⟨v, T, h1, rfl, rfl⟩ := h
  exact ⟨v, T, h1.keep ho hX, rfl, rfl⟩
theorem Rs.bw {w : World} {b : Nat} {K : List Nat} {S : Sv} (h : Rs w b K S) : ∀ x ∈ K, x < w.heap.size := by
  obtain ⟨v, T, h, rfl, rfl⟩ := h
  exact h.lts
theorem OpX.opr {w w' : World} {b : Nat} {v v' : Value} {T T' : List Rf} {S : Sv} (h : OpX w w' b v v' T T') (hS : pR T' = S) : OpR w w' b (allR b v T) S := ⟨_, ⟨v', T', h.st, rfl, hS.symm⟩, h.ho, h.new⟩
theorem OpR.pre {w0 w w' : World} {b : Nat} {K : List Nat} {S : Sv} (h : OpR w w' b K S) (h0 : Only [] w0 w) : OpR w0 w' b K S := by
  obtain ⟨K', h1, h2, h3⟩ := h
  exact ⟨K', h1, (h0.of0).trans h2 (fun x hx => .inl hx), fun x hx => (h3 x hx).imp id (fun h => Nat.le_trans h0.size h)⟩
theorem Rs.sorted {w : World} {b : Nat} {K : List Nat} {S : Sv} (h : Rs w b K S) : S.Pairwise (fun a b => a.1 < b.1) ∧ S.length ≤ 20 ∧ ∀ x ∈ S, nmL x.1 = true := by
  obtain ⟨v, T, h, rfl, rfl⟩ := h
  refine ⟨List.pairwise_map.2 h.srt, by rw [pR_len]; exact h.cap, fun x hx => ?_⟩
  obtain ⟨t, ht, rfl⟩ := List.mem_map.1 hx
  exact h.nml t ht
theorem rs_empty (w : World) : Rs (w.alloc (.cells #[.slice none 0 0] 28)) w.heap.size [w.heap.size] [] :=
  ⟨.slice none 0 0, [], ⟨Cells.new w _ _, World.ownsRow_nil _ _ _ _, by simp, by simp, List.Pairwise.nil, by simp, by simp, by simp⟩, by simp [allR, rb, Value.ownBlock], rfl⟩
theorem rr_sub (b : Nat) (K : List Nat) (S : Sv) (k : List UInt8) (hk : k.length ≤ maxLen) (w : World) (h : Rs w b K S) :
    Calls Tryz.prog 18 #[.pointer (some ⟨b, 0, none⟩), .string ⟨k.toArray⟩] w fun e w' => e = .returned (.int .i64 (subS S k).1) ∧ OpR w w' b K (subS S k).2 := by
  obtain ⟨v, T, h, rfl, rfl⟩ := h
  exact (rs_sub b v T k hk w h).mono fun e w' ⟨h1, v', T', h2, h3⟩ => ⟨h1, h2.opr h3⟩
theorem rr_un (b : Nat) (K : List Nat) (S : Sv) (k : List UInt8) (hk : k.length ≤ maxLen) (w : World) (h : Rs w b K S) :
    Calls Tryz.prog 19 #[.pointer (some ⟨b, 0, none⟩), .string ⟨k.toArray⟩] w fun e w' => e = .returned (.int .i64 (unS S k).1) ∧ OpR w w' b K (unS S k).2 := by
  obtain ⟨v, T, h, rfl, rfl⟩ := h
  exact (rs_unsub b v T k hk w h).mono fun e w' ⟨h1, v', T', h2, h3⟩ => ⟨h1, h2.opr h3⟩
theorem rr_fail (b : Nat) (K : List Nat) (S : Sv) (k : List UInt8) (hk : k.length ≤ maxLen) (now : Int) (w : World) (h : Rs w b K S) :
    Calls Tryz.prog 20 #[.pointer (some ⟨b, 0, none⟩), .string ⟨k.toArray⟩, .int .i64 now] w fun e w' => e = .returned (.int .i64 (failS S k now).1) ∧ OpR w w' b K (failS S k now).2 := by
  obtain ⟨v, T, h, rfl, rfl⟩ := h
  exact (rs_fail b v T k hk now w h).mono fun e w' ⟨h1, v', T', h2, h3⟩ => ⟨h1, h2.opr h3⟩
theorem rr_mark (b : Nat) (K : List Nat) (S : Sv) (k : List UInt8) (hk : k.length ≤ maxLen) (id : List UInt8) (w : World) (h : Rs w b K S) :
    Calls Tryz.prog 21 #[.pointer (some ⟨b, 0, none⟩), .string ⟨k.toArray⟩, .string ⟨id.toArray⟩] w fun e w' => e = .returned (.int .i64 (markS S k id).1) ∧ OpR w w' b K (markS S k id).2 := by
  obtain ⟨v, T, h, rfl, rfl⟩ := h
  exact (rs_mark b v T k hk id w h).mono fun e w' ⟨h1, v', T', h2, h3⟩ => ⟨h1, h2.opr h3⟩
theorem rr_ingest (b : Nat) (K : List Nat) (S : Sv) (k : List UInt8) (hk : k.length ≤ maxLen) (iv : Value) (l : List It) (now : Int) (w : World) (h : Rs w b K S) (hs : ∀ w', Only K w w' → SlAt w' w'.heap.size iv 3 l.length (itL l)) (hl : l.length ≤ 1000000) (hx : ∀ x ∈ l, x.Len) :
    Calls Tryz.prog 23 #[.pointer (some ⟨b, 0, none⟩), .string ⟨k.toArray⟩, iv, .int .i64 now] w fun e w' => e = .returned (.tuple #[.int .i64 (ingR S k l now).1, .int .i64 (ingR S k l now).2.1]) ∧ OpR w w' b K (ingR S k l now).2.2 := by
  obtain ⟨v, T, h, rfl, rfl⟩ := h
  exact (rs_ingest b v T k hk iv l now w h (fun w' ho => hs w' (ho.mono fun x hx => .inl (by
    unfold allR
    rcases List.mem_cons.1 hx with rfl | hx
    · simp
    · exact List.mem_cons_of_mem _ (List.mem_append_left _ hx)))) hl hx).mono fun e w' ⟨h1, v', T', h2, h3⟩ => ⟨h1, h2.opr h3⟩
theorem lsD_eq {S : Sv} (hI : SvI S) (k : List UInt8) (after : Int) : lsD S k after = listS S k after := by
  unfold lsD listS
  cases hf : fnd S k with
  | none => rfl
  | some f =>
    unfold lsR
    have := lsR_pg (hI _ (fnd_mem hf)).ps after
    dsimp only at this ⊢
    rw [this]
theorem rr_list (b : Nat) (K : List Nat) (S : Sv) (k : List UInt8) (hk : k.length ≤ maxLen) (after : Int) (w : World) (h : Rs w b K S) (hI : SvI S) :
    Calls Tryz.prog 22 #[.pointer (some ⟨b, 0, none⟩), .string ⟨k.toArray⟩, .int .i64 after] w fun e w' => ∃ v', e = .returned (.tuple #[v', .int .i64 (listS S k after).2]) ∧ w'.ownsRow w.heap.size 52 5 v' (listS S k after).1.length (poL (listS S k after).1) ∧ Only [] w w' := by
  rw [← lsD_eq hI]
  obtain ⟨v, T, h, rfl, rfl⟩ := h
  exact rs_list b v T k hk after w h
theorem rr_pack (b : Nat) (K : List Nat) (S : Sv) (w : World) (h : Rs w b K S) (hI : SvI S) :
    Calls Tryz.prog 7 #[.pointer (some ⟨b, 0, none⟩)] w fun e w' => e = .returned (.string ⟨(stB S).toArray⟩) ∧ Only [] w w' := by
  obtain ⟨v, T, h, rfl, rfl⟩ := h
  exact rs_pack b v T w h (fun t ht => hI.sh (t.nm, t.fd) (List.mem_map.2 ⟨t, ht, rfl⟩))
/-- Where a feed's cells lie. -/
structure At17 (w : World) (b : Nat) (n k : Nat) (x : List UInt8 × Fd) : Prop where
  ex : ∃ g c, w.cell? ⟨b, 0, none⟩ = some (.slice (some ⟨g, 0, none⟩) n c) ∧ w.cell? ⟨g, k * 4, none⟩ = some (.string ⟨x.1.toArray⟩) ∧ w.cell? ⟨g, k * 4 + 1, none⟩ = some (.int .i64 x.2.pol) ∧ w.cell? ⟨g, k * 4 + 2, none⟩ = some (.int .i64 x.2.fai)
theorem Rs.head {w : World} {b : Nat} {K : List Nat} {S : Sv} (h : Rs w b K S) : ∃ A c, w.cell? ⟨b, 0, none⟩ = some (.slice A S.length c) := by
  obtain ⟨v, T, h, rfl, rfl⟩ := h
  obtain ⟨A, c, rfl⟩ := (SlAt.of_own h.row).shape
  exact ⟨A, c, by rw [pR_len]; exact h.cells.cell (k := 0) rfl⟩
theorem Rs.at_ {w : World} {b : Nat} {K : List Nat} {S : Sv} (h : Rs w b K S) {k : Nat} {x : List UInt8 × Fd} (hx : S[k]? = some x) : At17 w b S.length k x := by
  obtain ⟨v, T, h, rfl, rfl⟩ := h
  unfold pR at hx
  rw [List.getElem?_map] at hx
  cases ht : T[k]? with
  | none => rw [ht] at hx; cases hx
  | some t =>
    rw [ht] at hx
    simp only [Option.map_some, Option.some.injEq] at hx
    subst hx
    obtain ⟨g, c, rfl, _, h0, h1, h2, _⟩ := h.at_ ht
    exact ⟨g, c, by rw [pR_len]; exact h.cells.cell (k := 0) rfl, h0, h1, h2⟩
def ixS (S : Sv) (k : List UInt8) : Nat := ixB Prod.fst k S
theorem ixS_pR (T : List Rf) (k : List UInt8) : ixS (pR T) k = ixR T k := by
  unfold ixS ixR ixB pR
  rw [List.takeWhile_map, List.length_map]
  rfl
theorem rr_find (b : Nat) (K : List Nat) (S : Sv) (k : List UInt8) (hk : k.length ≤ maxLen) (w : World) (h : Rs w b K S) :
    Calls Tryz.prog 40 #[.pointer (some ⟨b, 0, none⟩), .string ⟨k.toArray⟩] w fun e w' => e = .returned (.tuple #[.int .i64 (ixS S k), .bool (fnd S k).isSome]) ∧ Only [] w w' := by
  obtain ⟨v, T, h, rfl, rfl⟩ := h
  rw [ixS_pR, fnd_rT']
  exact rs_find b v T k hk w h
theorem ixS_at {w : World} {b : Nat} {K : List Nat} {S : Sv} (h : Rs w b K S) {k : List UInt8} {f : Fd} (hf : fnd S k = some f) : S[ixS S k]? = some (k, f) := by
  obtain ⟨v, T, h, rfl, rfl⟩ := h
  rw [fnd_rT] at hf
  cases ht : rT T k with
  | none => rw [ht] at hf; cases hf
  | some t =>
    rw [ht] at hf
    simp only [Option.map_some, Option.some.injEq] at hf
    subst hf
    obtain ⟨h1, h2⟩ := rT_at h.srt ht
    rw [ixS_pR]
    unfold pR
    rw [List.getElem?_map, h1, ← h2]
    rfl
end Go.Proofs.YtjfnkjpnjiobjaaGreat
namespace Go.Proofs.YtjfnkjpnjiobjaaGreat
open Go.RowKit
theorem unSt_int (s : List UInt8) : unSt s = if (⟨s, false⟩ : Rd).int.2.bad = false ∧ 0 ≤ (⟨s, false⟩ : Rd).int.1 ∧ (⟨s, false⟩ : Rd).int.1 ≤ 20 then (match rdFs (⟨s, false⟩ : Rd).int.1.toNat [] (⟨s, false⟩ : Rd).int.2.s with | none => none | some (S, u) => if u = [] then some S else none) else none := by
  unfold unSt
  cases h : rdI s with
  | none =>
    have : (⟨s, false⟩ : Rd).int = (0, ⟨[], true⟩) := by unfold Rd.int Rd.get; simp only [h]
    rw [this]
    rfl
  | some p =>
    obtain ⟨n, t⟩ := p
    have : (⟨s, false⟩ : Rd).int = (n, ⟨t, false⟩) := get_out h
    rw [this]
    dsimp only
    by_cases hn : 0 ≤ n ∧ n ≤ 20
    · rw [if_pos hn, if_pos ⟨rfl, hn⟩]
      all_goals (cases rdFs n.toNat [] t with | none => rfl | some x => (cases x; rfl))
    · rw [if_neg hn, if_neg (fun h => hn h.2)]
theorem own_up {w : World} {base B : Nat} {e : TypeId} {sz n : Nat} {v : Value} {xs : List Value} (h : w.ownsRow base e sz v n xs) (hg : ∀ g, v.ownBlock = some g → B ≤ g) : w.ownsRow B e sz v n xs := by
  obtain ⟨h0, h1 | ⟨b, cap, cur, rfl, _, hh⟩⟩ := h
  · exact ⟨h0, .inl h1⟩
  · exact ⟨h0, .inr ⟨b, cap, cur, rfl, hg b rfl, hh⟩⟩
def UnR (w w' : World) (s : List UInt8) (e : Ending) : Prop := Only [] w w' ∧ match unSt s with
  | none => e = .returned (.tuple #[.pointer none, .bool false])
  | some S => ∃ b K, e = .returned (.tuple #[.pointer (some ⟨b, 0, none⟩), .bool true]) ∧ Rs w' b K S ∧ ∀ x ∈ K, w.heap.size ≤ x
set_option maxRecDepth 100000 in
set_option maxHeartbeats 4000000 in
theorem rs_unpack (s : List UInt8) (hs : s.length ≤ 1000000000000) (w : World) :
    Calls Tryz.prog 28 #[.string ⟨s.toArray⟩] w fun e w' => UnR w w' s e := by
  obtain ⟨w1, hw1⟩ : ∃ u, w.alloc (.cells #[.string ⟨s.toArray⟩, .bool true] 93) = u := ⟨_, rfl⟩
  obtain ⟨z, hz⟩ : ∃ z, w.heap.size = z := ⟨_, rfl⟩
  have HA1 : Hid (TrAt w1 z ⟨s, false⟩) := Lib.hid ⟨hw1 ▸ hz ▸ Cells.new w _ _, hs⟩
  have HO1 : Hid (Only [] w w1) := Lib.hid (hw1 ▸ (Only.refl _ _).alloc _)
  have HZ := Lib.hid hz
  have HU := Lib.hid (unSt_int s)
  obtain ⟨r1, hr1⟩ : ∃ q, (⟨s, false⟩ : Rd).int.2 = q := ⟨_, rfl⟩
  obtain ⟨n, hn⟩ : ∃ q, (⟨s, false⟩ : Rd).int.1 = q := ⟨_, rfl⟩
  have C1 := Lib.hid (tr_int z ⟨s, false⟩ w1 HA1.out)
  rw [hr1] at C1 HU
  rw [hn] at C1 HU
  clear hr1 hn
  go_enter Tryz.func28, Tryz.ntmps28
  go_wp2_with fail
  clear hw1 hz
  refine C1.out.mono ?_
  rintro e w3 ⟨rfl, hA, ho⟩
  have hwz : w.heap.size ≤ z := by have := HZ.out; omega
  have HA3 := Lib.hid hA
  have HO3 : Hid (Only [] w w3) := Lib.hid (HO1.out.trans ho (fun x hx => by simp at hx; subst hx; exact .inr hwz))
  have s1 := hA.1.cell (k := 1) rfl
  clear hA ho C1 HA1 HO1 HZ
  obtain ⟨t0, b0⟩ := r1
  dsimp only at s1
  have HBAD : Hid (unSt s = none → UnR w w3 s (.returned (.tuple #[.pointer none, .bool false]))) := Lib.hid (fun h => ⟨HO3.out, by rw [h]⟩)
  cases b0 with
  | true =>
    have hu : unSt s = none := by rw [HU.out, if_neg (by simp)]
    have HFIN := Lib.hid (HBAD.out hu)
    clear HU hu HBAD
    go_wp2_with fail
    go_ret2
    exact HFIN.out
  | false =>
  by_cases n0 : n < 0
  · have hu : unSt s = none := by rw [HU.out, if_neg (fun h => by have := h.2.1; omega)]
    have HFIN := Lib.hid (HBAD.out hu)
    have d0 : decide (n < 0) = true := decide_eq_true n0
    clear HU hu HBAD
    go_wp2_with fail
    go_ret2
    exact HFIN.out
  have d0 : decide (n < 0) = false := decide_eq_false n0
  by_cases n1 : 20 < n
  · have hu : unSt s = none := by rw [HU.out, if_neg (fun h => by have := h.2.2; omega)]
    have HFIN := Lib.hid (HBAD.out hu)
    have d1 : decide (20 < n) = true := decide_eq_true n1
    clear HU hu HBAD
    go_wp2_with fail
    go_ret2
    exact HFIN.out
  have d1 : decide (20 < n) = false := decide_eq_false n1
  obtain ⟨N, hN⟩ : ∃ N : Nat, n.toNat = N := ⟨_, rfl⟩
  have hn : n = (N : Int) := by omega
  have hN2 : N ≤ 20 := by omega
  have HR : Hid (unSt s = match rdFs N [] t0 with | none => none | some (S, u) => if u = [] then some S else none) := Lib.hid (by rw [HU.out, if_pos ⟨rfl, by omega, by omega⟩, hN])
  subst hn
  clear HU HBAD hN
  go_upto_region 7 with fail
  obtain ⟨w5, hw5⟩ : ∃ u, w3.alloc (.cells #[.slice none 0 0] 28) = u := ⟨_, rfl⟩
  obtain ⟨o, ho⟩ : ∃ o, w3.heap.size = o := ⟨_, rfl⟩
  have o5 : Only [] w3 w5 := hw5 ▸ (Only.refl _ _).alloc _
  have hX5 : RsX w5 o (.slice none 0 0) [] := hw5 ▸ ho ▸ ⟨Cells.new w3 _ _, World.ownsRow_nil _ _ _ _, by simp, by simp, List.Pairwise.nil, by simp, by simp, by simp⟩
  rw [hw5, ho]
  have HA5 := Lib.hid (HA3.out.only o5 (by simp))
  have HO5 := Lib.hid (HO3.out.tr0 o5)
  have HX5 := Lib.hid hX5
  have hzo : z < o := by have := HA3.out.lt; omega
  clear hw5 ho o5 hX5 HA3 HO3 s1 d0 d1
  obtain ⟨i0, hi0, hz0, hz1, hz2⟩ := info_parts info_rfeed
  go_loopw [7] (fun i wr => ∃ (k : Nat) (t : List UInt8) (lv : Value) (T : List Rf), k ≤ N ∧ i = .int .i64 k ∧ T.length = k ∧ Hid (TrAt wr z ⟨t, false⟩) ∧ Hid (Only [] w wr) ∧ Hid (RsX wr o lv T) ∧ Hid (∀ t ∈ T, ∀ g, t.v.ownBlock = some g → ∃ cs, Cells wr g 52 cs) ∧ Hid (∀ x ∈ allR o lv T, z < x) ∧ Hid (rdFs N [] t0 = rdFs (N - k) (pR T) t)) (fun i _ => N - (intOf i).toNat)
  case atStart => exact ⟨0, t0, .slice none 0 0, [], by omega, rfl, rfl, HA5, HO5, HX5, Lib.hid (by simp), Lib.hid (by intro x hx; simp [allR, rb, Value.ownBlock] at hx; omega), Lib.hid rfl⟩
  case round =>
    obtain ⟨k, t, lv, T, hk, rfl, hT, HA, HO, HX, HP, HV, HN⟩ := hrel
    by_cases hlt : k < N
    · have hlt' : (k : Int) < (N : Int) := by omega
      have CS := Lib.hid (tr_feed z ⟨t, false⟩ wr HA.out rfl)
      have htl := HA.out.2
      have hnext : rdFs N [] t0 = match rdFd t with | none => none | some (x, u) => if lastN (pR T) < x.1 then rdFs (N - (k + 1)) (pR T ++ [x]) u else none := by
        rw [HN.out, show N - k = (N - (k + 1)) + 1 from by omega]
        rfl
      have HNX := Lib.hid hnext
      clear hnext HN
      go_wp2_with fail
      refine CS.out.mono ?_
      rintro e w4 ⟨⟨t4, bad⟩, nm, pol, fai, PA, pm, pc, ok, rfl, hA, ho, hnl, hm⟩
      obtain ⟨w6, hw6⟩ : ∃ u, w4.alloc (.cells #[.string ⟨nm.toArray⟩, .int .i64 pol, .int .i64 fai, .slice PA pm pc] 59) = u := ⟨_, rfl⟩
      obtain ⟨y, hy⟩ : ∃ y, w4.heap.size = y := ⟨_, rfl⟩
      have o6 : Only [] w4 w6 := hw6 ▸ (Only.refl _ _).alloc _
      have hY : Cells w6 y 59 [.string ⟨nm.toArray⟩, .int .i64 pol, .int .i64 fai, .slice PA pm pc] := hw6 ▸ hy ▸ Cells.new w4 _ _
      have HO6 := Lib.hid ((HO.out.trans ho (fun x hx => by simp at hx; subst hx; exact .inr hwz)).tr0 o6)
      have HA6 := Lib.hid (hA.only o6 (by simp))
      have HX6 := Lib.hid ((HX.out.keep ho (by intro x hx hz; simp at hz; subst hz; exact absurd (HV.out x hx) (Nat.lt_irrefl _))).only o6)
      have HY6 := Lib.hid hY
      have HYL : Hid (∀ x ∈ allR o lv T, x < y) := Lib.hid (fun x hx => by have := HX.out.lts x hx; have := ho.size; omega)
      have HXL : Hid (∀ x ∈ allR o lv T, x < wr.heap.size) := Lib.hid HX.out.lts
      have HP6 : Hid (∀ t ∈ T, ∀ g, t.v.ownBlock = some g → ∃ cs, Cells w6 g 52 cs) := Lib.hid (fun t ht g hg => by
        obtain ⟨cs, h1⟩ := HP.out t ht g hg
        exact ⟨cs, (h1.only ho (by have := HV.out g (mem_allR ht hg); simp; omega)).only o6 (by simp)⟩)
      have HWS : Hid (wr.heap.size ≤ y) := Lib.hid (by have := ho.size; omega)
      have hyl : y < w6.heap.size := hY.lt
      dsimp only at hm
      have HM : Hid (match rdFd t with | none => ok = false | some (x, t') => ok = true ∧ (⟨t4, bad⟩ : Rd) = ⟨t', false⟩ ∧ nm = x.1 ∧ pol = x.2.pol ∧ fai = x.2.fai ∧ RfS w6 (.slice PA pm pc) 5 x.2.ps.length (poL x.2.ps) ∧ ∀ g, (Value.slice PA pm pc).ownBlock = some g → wr.heap.size ≤ g ∧ g < y ∧ ∃ cs, Cells w6 g 52 cs) := Lib.hid (by
        cases hrd : rdFd t with
        | none => rw [hrd] at hm; exact hm
        | some x =>
          rw [hrd] at hm
          obtain ⟨a1, a2, a3, a4, a5, a6, a7⟩ := hm
          exact ⟨a1, a2, a3, a4, a5, a6.only o6, fun g hg => by
            obtain ⟨b1, b2, cs, b3⟩ := a7 g hg
            exact ⟨b1, by rw [← hy]; exact b2, cs, b3.only o6 (by simp)⟩⟩)
      clear hm hA ho o6 hY CS HA HO HX HP
      go_upto_region 10 with fail
      clear hw6 hy
      cases hrd : rdFd t with
      | none =>
        have hM := HM.out
        rw [hrd] at hM
        dsimp only at hM
        subst hM
        have hu : unSt s = none := by rw [HR.out, HNX.out, hrd]
        have HFIN : Hid (∀ w', Only [] w6 w' → UnR w w' s (.returned (.tuple #[.pointer none, .bool false]))) := Lib.hid (fun w' ho => ⟨HO6.out.tr0 ho, by rw [hu]⟩)
        clear hu HR HNX HM hrd
        refine wp_region_only w6 (Only.refl _ _) (by kernel_rfl) (by kernel_rfl) ?_
        repeat (go_big_quiet_step (fail))
        refine wpQuiet_nil ?_
        rintro ⟨w7, ho7⟩
        dsimp only
        go_wp2_with fail
        go_ret2
        exact HFIN.out _ ho7
      | some x =>
      obtain ⟨⟨nm', fd⟩, u⟩ := x
      have hM := HM.out
      rw [hrd] at hM
      obtain ⟨rfl, hr', rfl, rfl, rfl, hrf, hfl⟩ := hM
      injection hr' with e1 e2
      subst e1; subst e2
      dsimp only at hrf hfl hnl HY6
      have hfd := (rdFd_iff t _ _ htl).1 hrd
      have hnm : nmL nm = true := hfd.2.1
      obtain ⟨q, hq⟩ : ∃ q, (!decide (lastN (pR T) < nm)) = q := ⟨_, rfl⟩
      have HQ := Lib.hid hq
      have HRD := Lib.hid hrd
      have HFJ := Lib.hid hfd.1
      have HRF := Lib.hid hrf
      have HFL := Lib.hid hfl
      clear hq hrd hfd hrf hfl HM
      go_cut [59] from 30 to 69 (fun v wx => v = .bool q ∧ Hid (Only [] w6 wx))
      case first =>
        have y0 := fun u : Since w6 => u.cell (HY6.out.cell (k := 0) rfl)
        have x0 := fun u : Since w6 => u.cell (HX6.out.cells.cell (k := 0) rfl)
        by_cases hk0 : k = 0
        · have dk : decide (0 < k) = false := by simp; omega
          have e : Hid (false = q) := Lib.hid (by
            rw [← HQ.out]
            have hT0 : T = [] := List.length_eq_zero_iff.1 (by omega)
            rw [hT0]
            have : ([] : List UInt8) < nm := by
              have h1 := (nmL_len hnm).1
              cases nm with
              | nil => simp at h1
              | cons a b => exact List.nil_lt_cons a b
            unfold lastN pR
            simp [this])
          clear hk0
          refine wp_region_only w6 (Only.refl _ _) (by kernel_rfl) (by kernel_rfl) ?_
          repeat (go_big_quiet_step (fail))
          refine wpQuiet_nil ?_
          rintro ⟨w7, ho7⟩
          dsimp only
          go_wp2_with fail
          go_meet
          exact ⟨by rw [← e.out], Lib.hid ho7⟩
        · have dk : decide (0 < k) = true := by simp; omega
          obtain ⟨tl, htl⟩ : ∃ t, T[k - 1]? = some t := ⟨_, List.getElem?_eq_getElem (by omega)⟩
          obtain ⟨g, c', rfl, hg, q0, _⟩ := HX6.out.at_ htl
          have hks : (k : Int) - 1 = ((k - 1 : Nat) : Int) := by omega
          have hwr : IntKind.i64.wrap ((k : Int) - 1) = ((k - 1 : Nat) : Int) := by rw [IntKind.wrap_i64]; omega
          have u1 := fun u : Since w6 => u.cell q0
          have hlast : lastN (pR T) = tl.nm := by
            unfold lastN pR
            rw [List.getLast?_map, List.getLast?_eq_getElem?, hT, htl]
            rfl
          have hk1 : ((k - 1 : Nat) : Int) < (k : Int) := by omega
          rw [hT] at x0
          by_cases hls : lastN (pR T) < nm
          · have e : Hid (false = q) := Lib.hid (by rw [← HQ.out]; simp [hls])
            rw [hlast] at hls
            have hless : Op.bytesLess nm tl.nm = false := by rw [bytesLess_eq]; simpa using List.not_lt.2 (List.le_of_lt hls)
            have heq : (nm == tl.nm) = false := by simpa using fun e => List.lt_irrefl _ (e ▸ hls)
            clear hlast hls hks
            refine wp_region_only w6 (Only.refl _ _) (by kernel_rfl) (by kernel_rfl) ?_
            repeat (go_big_quiet_step (fail))
            refine wpQuiet_nil ?_
            rintro ⟨w7, ho7⟩
            dsimp only
            go_wp2_with fail
            go_meet
            exact ⟨by rw [← e.out], Lib.hid ho7⟩
          · have e : Hid (true = q) := Lib.hid (by rw [← HQ.out]; simp [hls])
            rw [hlast] at hls
            by_cases hlt2 : nm < tl.nm
            · have hless : Op.bytesLess nm tl.nm = true := by rw [bytesLess_eq]; simpa using hlt2
              clear hlast hls hks
              refine wp_region_only w6 (Only.refl _ _) (by kernel_rfl) (by kernel_rfl) ?_
              repeat (go_big_quiet_step (fail))
              refine wpQuiet_nil ?_
              rintro ⟨w7, ho7⟩
              dsimp only
              go_wp2_with fail
              go_meet
              exact ⟨by rw [← e.out], Lib.hid ho7⟩
            · have hless : Op.bytesLess nm tl.nm = false := by rw [bytesLess_eq]; simpa using hlt2
              have heq : (nm == tl.nm) = true := by simpa using List.le_antisymm (List.not_lt.1 hls) (List.not_lt.1 hlt2)
              clear hlast hls hks
              refine wp_region_only w6 (Only.refl _ _) (by kernel_rfl) (by kernel_rfl) ?_
              repeat (go_big_quiet_step (fail))
              refine wpQuiet_nil ?_
              rintro ⟨w7, ho7⟩
              dsimp only
              go_wp2_with fail
              go_meet
              exact ⟨by rw [← e.out], Lib.hid ho7⟩
      case rest =>
      obtain ⟨rfl, HWC⟩ := hcut
      have HO7 := Lib.hid (HO6.out.tr0 HWC.out)
      have HA7 := Lib.hid (HA6.out.only HWC.out (by simp))
      have HX7 := Lib.hid (HX6.out.only HWC.out)
      have HY7 := Lib.hid (HY6.out.only HWC.out (by simp))
      have HRF7 := Lib.hid (HRF.out.only HWC.out)
      have hyl7 : y < wc.heap.size := HY7.out.lt
      have HP7 : Hid (∀ t ∈ T, ∀ g, t.v.ownBlock = some g → ∃ cs, Cells wc g 52 cs) := Lib.hid (fun t ht g hg => by
        obtain ⟨cs, h1⟩ := HP6.out t ht g hg
        exact ⟨cs, h1.only HWC.out (by simp)⟩)
      have HFL7 : Hid (∀ g, (Value.slice PA pm pc).ownBlock = some g → wr.heap.size ≤ g ∧ g < y ∧ ∃ cs, Cells wc g 52 cs) := Lib.hid (fun g hg => by
        obtain ⟨b1, b2, cs, b3⟩ := HFL.out g hg
        exact ⟨b1, b2, cs, b3.only HWC.out (by simp)⟩)
      clear HO6 HA6 HX6 HY6 HRF HWC hyl HP6 HFL
      cases q with
      | true =>
        have hls : ¬ lastN (pR T) < nm := by simpa using HQ.out
        have hu : unSt s = none := by rw [HR.out, HNX.out, HRD.out]; dsimp only; rw [if_neg hls]
        have HFIN : Hid (UnR w wc s (.returned (.tuple #[.pointer none, .bool false]))) := Lib.hid ⟨HO7.out, by rw [hu]⟩
        clear hls hu HR HNX HRD HQ
        go_wp2_with fail
        go_ret2
        exact HFIN.out
      | false =>
      have hls : lastN (pR T) < nm := by simpa using HQ.out
      have hHN : rdFs N [] t0 = rdFs (N - (k + 1)) (pR T ++ [(nm, fd)]) t4 := by rw [HNX.out, HRD.out]; dsimp only; rw [if_pos hls]
      have HN8 := Lib.hid hHN
      have HLS := Lib.hid hls
      have HNM := Lib.hid hnm
      clear hls hHN HNX HRD HQ hnm
      go_upto_region 12 with fail
      have hX7 := HX7.out
      have HROW := Lib.hid (own_up (B := z + 1) hX7.row (fun g hg => HV.out g (by unfold allR; exact List.mem_cons_of_mem _ (List.mem_append_left _ (mem_rb'.2 hg)))))
      have hlv : lv.ownBlock ≠ some y := fun e => by have := HYL.out y (by unfold allR; exact List.mem_cons_of_mem _ (List.mem_append_left _ (mem_rb'.2 e))); omega
      have hoy : o ≠ y := fun e => by have := HYL.out o (by simp [allR]); omega
      have hvb := hX7.vb
      have HVB := Lib.hid hvb
      have hb7 : ∀ y, y ∈ bsOf [rowOwn 7 lv, cellOwn 10 o 28 [lv] 0 67] [7] → y ∈ rb lv := fun y hy => by simpa [bsOf, rowOwn, cellOwn, rb] using hy
      have hon : o ∉ rb lv := fun hm => hvb (mem_rb'.1 hm)
      have hyn : y ∉ rb lv := fun hm => hlv (mem_rb'.1 hm)
      have s0 : ∀ u : SinceS (bsOf [rowOwn 7 lv, cellOwn 10 o 28 [lv] 0 67] [7]) wc, u.w.cell? ⟨o, 0, none⟩ = some lv := fun u => u.cell (hX7.cells.cell (k := 0) rfl) (fun h => hon (hb7 _ h))
      have q0 : ∀ u : SinceS (bsOf [rowOwn 7 lv, cellOwn 10 o 28 [lv] 0 67] [7]) wc, u.w.cell? ⟨y, 0, none⟩ = some (.string ⟨nm.toArray⟩) := fun u => u.cell (HY7.out.cell (k := 0) rfl) (fun h => hyn (hb7 _ h))
      have q1 : ∀ u : SinceS (bsOf [rowOwn 7 lv, cellOwn 10 o 28 [lv] 0 67] [7]) wc, u.w.cell? ⟨y, 1, none⟩ = some (.int .i64 fd.pol) := fun u => u.cell (HY7.out.cell (k := 1) rfl) (fun h => hyn (hb7 _ h))
      have q2 : ∀ u : SinceS (bsOf [rowOwn 7 lv, cellOwn 10 o 28 [lv] 0 67] [7]) wc, u.w.cell? ⟨y, 2, none⟩ = some (.int .i64 fd.fai) := fun u => u.cell (HY7.out.cell (k := 2) rfl) (fun h => hyn (hb7 _ h))
      have q3 : ∀ u : SinceS (bsOf [rowOwn 7 lv, cellOwn 10 o 28 [lv] 0 67] [7]) wc, u.w.cell? ⟨y, 3, none⟩ = some (.slice PA pm pc) := fun u => u.cell (HY7.out.cell (k := 3) rfl) (fun h => hyn (hb7 _ h))
      have HCT := Lib.hid hX7.cells
      have how : o < wc.heap.size := hX7.cells.lt
      have HZN := Lib.hid hon
      clear hon hyn hX7 hb7
      refine wp_region_pendM wc (Only.refl _ _) [(66, OwW wc.heap.size 59 4 1 [.string ⟨nm.toArray⟩, .int .i64 fd.pol, .int .i64 fd.fai, .slice PA pm pc]), (67, OwW (z + 1) 59 4 (k + 1) (rfL T ++ [.string ⟨nm.toArray⟩, .int .i64 fd.pol, .int .i64 fd.fai, .slice PA pm pc]))] [] [rowOwn 7 lv, cellOwn 10 o 28 [lv] 0 67] 11 (by intro p hp; simp at hp; rcases hp with rfl | rfl <;> exact OwW.lasts _ _ _ _ _) (by intro y hy; simp at hy; rcases hy with rfl | rfl; exact rowOwn_ok HROW.out; exact cellOwn_ok how) (by intro y y' hy hy' hne b hb hb'; simp at hy hy'; rcases hy with rfl | rfl <;> rcases hy' with rfl | rfl <;> simp [rowOwn, cellOwn] at hne hb hb' <;> (first | exact HZN.out (by simpa [rb, hb'] using hb) | exact HZN.out (by simpa [rb, hb] using hb'))) (by kernel_rfl) (by kernel_rfl) (by decide) (fun val => ?_)
      simp only [List.take_succ_cons, List.take_zero, List.drop_succ_cons, List.drop_zero]
      refine fit_segM 6 [7] (by kernel_rfl) ?_
      simp only [List.take_succ_cons, List.take_zero, List.drop_succ_cons, List.drop_zero]
      repeat (go_big_quiet_step (fail))
      refine wpQuiet_nil ?_
      refine fit_litO 66 59 4 [.string ⟨nm.toArray⟩, .int .i64 fd.pol, .int .i64 fd.fai, .slice PA pm pc] 1 rfl rfl (by simp) (by simp) rfl (by decide) (fun w7 => by go_simp) rfl ?_
      simp only [Act.put, List.setIfInBounds_toArray, List.set_cons_zero, List.set_cons_succ]
      refine fit_appendM 67 (.tmp 64) (.tmp 66) 26 59 i0 (.agg #[.string .empty, .int .i64 0, .int .i64 0, .slice none 0 0]) 4 56 Tryz.underlying26 hi0 hz0 hz1 hz2 rfl (by decide) (z + 1) lv k 1 (k + 1) (rfL T) [.string ⟨nm.toArray⟩, .int .i64 fd.pol, .int .i64 fd.fai, .slice PA pm pc] (rfL T ++ [.string ⟨nm.toArray⟩, .int .i64 fd.pol, .int .i64 fd.fai, .slice PA pm pc]) rfl rfl rfl rfl rfl (by simp) (by simp) rfl (by have := HROW.out; rw [hT] at this; exact this) (by simp [rows, rowOwn, cellOwn]) (by intro y hy hyi; simp at hy; rcases hy with rfl | rfl; rfl; exact absurd hyi (by simp [rowOwn, cellOwn])) [] (by kernel_rfl) (by intro b hb; simp [bsOf] at hb) (by omega) (fun w7 hw7 => SrcA.own (hw7.2 (66, OwW wc.heap.size 59 4 1 [.string ⟨nm.toArray⟩, .int .i64 fd.pol, .int .i64 fd.fai, .slice PA pm pc]) (by simp) (by show 66 ∈ Oper.looksAt _ _; decide)) (by simp [Value.oneCell'])) (by unfold maxLen; omega) (by omega) ?_
      simp only [Act.put, List.setIfInBounds_toArray, List.set_cons_zero, List.set_cons_succ]
      refine fit_segM 2 [7, 10] (by kernel_rfl) ?_
      simp only [List.take_succ_cons, List.take_zero, List.drop_succ_cons, List.drop_zero]
      repeat (go_big_quiet_step (fail))
      refine wpQuiet_nil ?_
      refine fit_storeW o 28 [lv] 0 67 (z + 1) 59 4 (k + 1) (rfL T ++ [.string ⟨nm.toArray⟩, .int .i64 fd.pol, .int .i64 fd.fai, .slice PA pm pc]) rfl rfl (by simp) (by show 67 ∈ Oper.looksAt _ _; decide) HCT.out [7] (by kernel_rfl) (fun h => HZN.out (by simpa [bsOf, rowOwn, cellOwn, rb] using h)) (by simp [mine, rowOwn, cellOwn]) (by intro y hy hyi; simp at hy; rcases hy with rfl | rfl; exact absurd hyi (by simp [rowOwn, cellOwn]); rfl) (fun w7 A m c hA hC7 => by have d0 := hC7.cell (k := 0) rfl; have f0 := hC7.frozen 0; rw [hA]; go_simp) ?_
      simp only [Act.put, List.setIfInBounds_toArray, List.set_cons_zero, List.set_cons_succ]
      intro w8 ho8 hV8 hF8
      have hown8 := hV8 (67, OwW (z + 1) 59 4 (k + 1) (rfL T ++ [.string ⟨nm.toArray⟩, .int .i64 fd.pol, .int .i64 fd.fai, .slice PA pm pc])) (by simp) (by simp)
      have hown8 : w8.ownsRow (z + 1) 59 4 (val 67) (k + 1) (rfL T ++ [.string ⟨nm.toArray⟩, .int .i64 fd.pol, .int .i64 fd.fai, .slice PA pm pc]) := hown8
      have hC8 : Cells w8 o 28 [val 67] := hF8 (cellOwn 10 o 28 [lv] 0 67) (by simp) rfl
      obtain ⟨lv', hlv'⟩ : ∃ u, val 67 = u := ⟨_, rfl⟩
      rw [hlv'] at hown8 hC8
      clear hV8 hF8 hlv' s0 q0 q1 q2 q3
      have hmem : ∀ x, x ∈ allM [rowOwn 7 lv, cellOwn 10 o 28 [lv] 0 67] → lv.ownBlock = some x ∨ x = o := fun x hx => by
        simp [allM, rowOwn, cellOwn] at hx
        exact hx
      have hX7 := HX7.out
      have hTne : ∀ t ∈ T, ∀ g, t.v.ownBlock = some g → g ∉ allM [rowOwn 7 lv, cellOwn 10 o 28 [lv] 0 67] := fun t ht g hg hm => by
        have := hX7.pb t ht g hg
        rcases hmem g hm with h | h
        · exact this.2.2 h
        · exact this.2.1 h
      have hPne : ∀ g, (Value.slice PA pm pc).ownBlock = some g → g ∉ allM [rowOwn 7 lv, cellOwn 10 o 28 [lv] 0 67] := fun g hg hm => by
        have h1 := (HFL7.out g hg).1
        rcases hmem g hm with h | h
        · have := HXL.out g (by unfold allR; exact List.mem_cons_of_mem _ (List.mem_append_left _ (mem_rb'.2 h))); omega
        · have := HXL.out g (by rw [h]; simp [allR]); omega
      have hPT : ∀ t ∈ T ++ [(⟨nm, fd, .slice PA pm pc⟩ : Rf)], ∀ g, t.v.ownBlock = some g → ∃ cs, Cells w8 g 52 cs := fun t ht g hg => by
        rcases List.mem_append.1 ht with ht | ht
        · obtain ⟨cs, h1⟩ := HP7.out t ht g hg
          exact ⟨cs, h1.only ho8 (hTne t ht g hg)⟩
        · obtain rfl := List.mem_singleton.1 ht
          obtain ⟨_, _, cs, h1⟩ := HFL7.out g hg
          exact ⟨cs, h1.only ho8 (hPne g hg)⟩
      have hall : ∀ a ∈ T, a.nm < nm := fun a ha => last_lt (S := pR T) (by unfold pR; rw [List.pairwise_map]; exact hX7.srt) HLS.out (a.nm, a.fd) (List.mem_map_of_mem (f := fun t : Rf => (t.nm, t.fd)) ha)
      have hX8 : RsX w8 o lv' (T ++ [⟨nm, fd, .slice PA pm pc⟩]) := by
        refine ⟨hC8, ?_, ?_, ?_, ?_, ?_, ?_, ?_⟩
        · have : rfL (T ++ [(⟨nm, fd, .slice PA pm pc⟩ : Rf)]) = rfL T ++ [.string ⟨nm.toArray⟩, .int .i64 fd.pol, .int .i64 fd.fai, .slice PA pm pc] := by unfold rfL; rw [List.flatMap_append]; rfl
          rw [this, List.length_append, hT]
          exact own_low hown8 (Nat.zero_le _)
        · intro t ht
          rcases List.mem_append.1 ht with ht | ht
          · exact (hX7.ps t ht).keep ho8 (fun x hx e => hTne t ht x e hx)
          · obtain rfl := List.mem_singleton.1 ht
            exact HRF7.out.keep ho8 (fun x hx e => hPne x e hx)
        · intro t ht g hg
          obtain ⟨cs, h1⟩ := hPT t ht g hg
          refine ⟨h1.lt, ?_, own_ne_block hown8 h1 (by decide)⟩
          rintro rfl
          have := h1.symm.trans hC8
          injection this with this
          injection this with _ h2
          exact absurd h2 (by decide)
        · refine List.pairwise_append.2 ⟨hX7.srt, List.pairwise_singleton _ _, fun a ha b hb => ?_⟩
          obtain rfl := List.mem_singleton.1 hb
          exact hall a ha
        · rw [List.length_append, hT]; show k + 1 ≤ 20; omega
        · intro t ht
          rcases List.mem_append.1 ht with ht | ht
          · exact hX7.nml t ht
          · obtain rfl := List.mem_singleton.1 ht
            exact HNM.out
        · intro t ht
          rcases List.mem_append.1 ht with ht | ht
          · exact hX7.fg t ht
          · obtain rfl := List.mem_singleton.1 ht
            exact ⟨HFJ.out.i.ps.n, HFJ.out.i.nb⟩
      have hoz : z ∉ allM [rowOwn 7 lv, cellOwn 10 o 28 [lv] 0 67] := fun hm => by
        rcases hmem z hm with h | h
        · exact absurd (HV.out z (by unfold allR; exact List.mem_cons_of_mem _ (List.mem_append_left _ (mem_rb'.2 h)))) (Nat.lt_irrefl _)
        · omega
      have HX8 := Lib.hid hX8
      have HP8 := Lib.hid hPT
      have HA8 := Lib.hid (HA7.out.only ho8 hoz)
      have HO8 : Hid (Only [] w w8) := Lib.hid (HO7.out.trans ho8 (fun x hx => by
        rcases hmem x hx with h | h
        · have := HV.out x (by unfold allR; exact List.mem_cons_of_mem _ (List.mem_append_left _ (mem_rb'.2 h))); exact .inr (by omega)
        · exact .inr (by omega)))
      have hl8 : (T ++ [(⟨nm, fd, .slice PA pm pc⟩ : Rf)]).length = k + 1 := by simp [hT]
      have HV8 : Hid (∀ x ∈ allR o lv' (T ++ [(⟨nm, fd, .slice PA pm pc⟩ : Rf)]), z < x) := Lib.hid (fun x hx => by
        unfold allR at hx
        rw [List.flatMap_append] at hx
        simp only [List.mem_cons, List.mem_append] at hx
        rcases hx with rfl | hx | hx | hx
        · omega
        · exact (hown8.lt x (mem_rb'.1 hx)).1
        · exact HV.out x (by unfold allR; exact List.mem_cons_of_mem _ (List.mem_append_right _ hx))
        · have h1 := (HFL7.out x (mem_rb'.1 (by simpa using hx))).1
          have h2 := HXL.out o (by simp [allR])
          omega)
      have HN9 : Hid (rdFs N [] t0 = rdFs (N - (k + 1)) (pR (T ++ [(⟨nm, fd, .slice PA pm pc⟩ : Rf)])) t4) := Lib.hid (by rw [HN8.out]; unfold pR; rw [List.map_append]; rfl)
      clear hown8 hC8 hmem hX7 hTne hPne hPT hall hX8 hoz ho8
      go_wp2_with fail
      go_roundw
      case rel => exact ⟨k + 1, t4, lv', _, by omega, by go_num, hl8, HA8, HO8, HX8, HP8, HV8, HN9⟩
      case measure => simp [intOf]; omega
    · have hlt' : ¬ (k : Int) < (N : Int) := by omega
      have hkN : k = N := by omega
      have hend : unSt s = if t = [] then some (pR T) else none := by
        rw [HR.out, HN.out, hkN, Nat.sub_self]
        rfl
      have s0 := HA.out.1.cell (k := 0) rfl
      dsimp only at s0
      by_cases ht : t = []
      · have HFIN : Hid (UnR w wr s (.returned (.tuple #[.pointer (some ⟨o, 0, none⟩), .bool true]))) := Lib.hid (by
          refine ⟨HO.out, ?_⟩
          rw [hend, if_pos ht]
          exact ⟨o, allR o lv T, rfl, ⟨lv, T, HX.out, rfl, rfl⟩, fun x hx => by have := HV.out x hx; omega⟩)
        subst ht
        clear hend HR HN
        go_wp2_with fail
        go_ret2
        exact HFIN.out
      · have HFIN : Hid (UnR w wr s (.returned (.tuple #[.pointer none, .bool false]))) := Lib.hid ⟨HO.out, by rw [hend, if_neg ht]⟩
        have hte : t.isEmpty = false := by cases t with | nil => exact absurd rfl ht | cons => rfl
        clear hend HR HN
        go_wp2_with fail
        go_ret2
        exact HFIN.out
end Go.Proofs.YtjfnkjpnjiobjaaGreat
