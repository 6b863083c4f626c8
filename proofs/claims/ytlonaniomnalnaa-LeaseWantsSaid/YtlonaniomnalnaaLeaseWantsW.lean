/-
  LeaseWants: the walk.
-/
import Derived.Test.YtlonaniomnalnaaLaw16c
namespace Go.Proofs.Ytlonaniomnalnaa
open Go.RowKit
attribute [local go_sem] field_lease0 field_lease1 field_lease2

/-- What stands at the place up to which a filter has come. -/
theorem filter_at (p : Nat → Bool) (i : Nat) (hi : i < 8) (h : p i = true) : ((List.range 8).filter p)[((List.range i).filter p).length]? = some i := by
  have : (List.range 8).filter p = (List.range i).filter p ++ ((List.range 8).drop i).filter p := by
    rw [← List.filter_append]
    congr 1
    conv => lhs; rw [← List.take_append_drop i (List.range 8)]
    rw [List.take_range]; congr 2; omega
  rw [this, List.getElem?_append_right (Nat.le_refl _), Nat.sub_self]
  rw [List.drop_eq_getElem_cons (by simpa using hi), List.filter_cons]
  simp [h]
theorem filter_not_at (p : Nat → Bool) (i : Nat) (hi : i < 8) (h : p i = false) (j : Nat) (hj : ((List.range 8).filter p)[((List.range i).filter p).length]? = some j) : j ≠ i := by
  rintro rfl
  have := List.mem_of_getElem? hj
  simp [h] at this

structure WInv (t0 : Tb) (n : Int) (i : Nat) (t : Tb) : Prop where
  now : t.now = t0.now
  rest : ∀ j : Nat, i ≤ j → t.get j = t0.get j
  done : ∀ j : Nat, j < i → (t.get j).wanted t.now n = false
theorem WInv.zero (t0 : Tb) (n : Int) : WInv t0 n 0 t0 := ⟨rfl, fun _ _ => rfl, fun _ h => by omega⟩
theorem WInv.no {t0 t : Tb} {n : Int} {i : Nat} (h : WInv t0 n i t) (hw : (t0.get i).wanted t0.now n = false) : WInv t0 n (i + 1) t :=
  ⟨h.now, fun j hj => h.rest j (by omega), fun j hj => by
    by_cases e : j = i
    · subst e; rw [h.rest j (Nat.le_refl _), h.now]; exact hw
    · exact h.done j (by omega)⟩
theorem WInv.yes {t0 t t' : Tb} {n ep : Int} {i : Nat} (h : WInv t0 n i t) (hnow : t'.now = t.now) (hget : ∀ j : Int, t'.get j = if j = (i : Int) then ⟨n, ep, t.now + 6⟩ else t.get j) : WInv t0 n (i + 1) t' :=
  ⟨hnow.trans h.now, fun j hj => by rw [hget, if_neg (by omega)]; exact h.rest j (by omega), fun j hj => by
    rw [hget, hnow]
    by_cases e : j = i
    · subst e
      rw [if_pos rfl]
      unfold Ls.wanted
      simp
      omega
    · rw [if_neg (by omega)]; exact h.done j (by omega)⟩
theorem WInv.end_ {t0 t : Tb} {n : Int} (h : WInv t0 n 8 t) : (t.wants n 8).length = 0 := by
  unfold Tb.wants
  rw [List.length_eq_zero_iff, List.filter_eq_nil_iff]
  intro k hk
  rw [h.done k (by simpa using hk)]
  simp

theorem tb_wants' {w0 w : World} {b : Nat} {t : Tb} (h : Hid (TbAt w0 w b t)) (node m : Int) (ht : t.upto m) (hm : m ≤ 4611686018427387904) (n : Nat) (hn : (t.wants node 8).length = n) :
    Calls Try.prog 35 #[.pointer (some ⟨b, 0, none⟩), .int .i64 node] w fun e w' => ∃ A c, e = .returned (.slice A n c) ∧ Hid (w'.ownsRow w.heap.size 3 1 (.slice A n c) n (ints (t.wants node 8))) ∧ Hid (TbAt w0 w' b t) ∧ Only [] w w' :=
  (lease_wants b t node w h.1 (ht.small hm)).mono fun _ _ ⟨v, h1, h2, h3⟩ => by
    subst hn
    obtain ⟨_, A, c, hv, _⟩ := SlAt.of_own h2
    subst hv
    exact ⟨A, c, h1, h2, h.out.only h3, h3⟩

set_option maxRecDepth 100000 in
set_option maxHeartbeats 1600000 in
theorem leaseWants_walk (W : World) (v : Value) (l : List Act) (hs : SlAt W W.heap.size v 3 l.length (l.flatMap Act.cells)) (hg : ∀ a ∈ l, a.wide) (node : Int) (h1 : (Lit.int .i64 node).wf = true) :
    Calls Try.prog 10 #[v, .int .i64 node] W fun e W' => e = .returned (.bool true) ∧ Only [] W W' := by
  obtain ⟨A, c, rfl⟩ := hs.shape
  have HS := Lib.hid hs
  have HG := Lib.hid hg
  replace h1 := Lib.hid (wide_of_wf h1)
  clear hs hg
  by_cases hl : 150 < l.length
  · have hl' : (150 : Int) < (l.length : Int) := by omega
    go_enter Try.func10, Try.ntmps10
    go_wp2_with (go_at_call 27; refine (shown16 _).mono ?_; rintro e w1 ⟨rfl, ho⟩)
    go_ret
    exact ⟨rfl, ho⟩
  · have hl' : decide ((150 : Int) < (l.length : Int)) = false := by simp; omega
    go_enter Try.func10, Try.ntmps10
    go_wp2_with fail
    refine (shown16 _).mono ?_
    rintro e w1 ⟨rfl, ho⟩
    go_wp2_with fail
    refine (tb_new W _ ho).mono ?_
    rintro e w2 ⟨tb, rfl, ht⟩
    go_wp2_with fail
    go_loopw [7] (fun i wr => ∃ k : Nat, k ≤ l.length ∧ i = .int .i64 k ∧ Hid (TbAt W wr tb (Tb.after l k))) (fun i _ => l.length - (intOf i).toNat)
    case atStart => exact ⟨0, by omega, rfl, ht⟩
    case round =>
      obtain ⟨k, hk, rfl, hr⟩ := hrel
      by_cases hlt : k < l.length
      · have hlt' : (k : Int) < (l.length : Int) := by omega
        have hk1 := List.getElem?_eq_getElem hlt
        obtain ⟨x, hx⟩ : ∃ x, l[k] = x := ⟨_, rfl⟩
        rw [hx] at hk1
        obtain ⟨ab, ao, ac, hv, q0, q1, q2, hb⟩ := act_at HS.out hr.out.2.1 hk1
        have hw := Lib.hid (HG.out x (List.mem_of_getElem? hk1))
        have HS1 := Lib.hid (Tb.after_succ l k x hk1)
        have hu := Lib.hid (Tb.after_upto l k hk)
        clear hx hk1
        injection hv with e1 e2 e3
        subst e1; subst e3
        clear e2
        go_wp2_with (go_at_call 34; refine (tb_does hr x hw.out k hu.out (by omega)).mono ?_; rintro e w4 ⟨rfl, h4⟩)
        go_roundw
        case rel => exact ⟨k + 1, by omega, by go_num, by rw [HS1.out]; exact h4⟩
        case measure => simp [intOf]; omega
      · have hd0 : decide ((k : Int) < (l.length : Int)) = false := by simp; omega
        have hu := Lib.hid (Tb.after_upto l k hk)
        obtain ⟨t0, ht0⟩ : ∃ t, Tb.after l k = t := ⟨_, rfl⟩
        rw [ht0] at hu hr
        clear ht0 HS HG
        have hk150 : (k : Int) ≤ 150 := by omega
        obtain ⟨n, hn⟩ : ∃ n, 1 + pickI node 9 = n := ⟨_, rfl⟩
        have p1 := pickI_lt node 9 (by omega)
        have n1 : 1 ≤ n := by omega
        have n9 : n ≤ 9 := by omega
        have P1 : Hid (∀ w, Calls Try.prog 29 #[.int .i64 node, .int .i64 9] w fun e w' => e = .returned (.int .i64 (n - 1)) ∧ w = w') := fun w => by rw [← hn, show (1 + pickI node 9 - 1) = pickI node 9 from by omega]; exact pick16 _ _ w h1 (by omega) (by omega)
        clear hn p1
        have en : 1 + (n - 1) = n := by omega
        obtain ⟨w0, rfl⟩ : ∃ w0 : World, w0 = wr := ⟨_, rfl⟩
        go_wp2_with fail
        refine (P1.out _).mono ?_
        rintro e w3 ⟨rfl, rfl⟩
        obtain ⟨N, hN⟩ : ∃ N, (t0.wants n 8).length = N := ⟨_, rfl⟩
        have HN := Lib.hid hN
        have hN8 : N ≤ 8 := by have := t0.wants_le n 8; omega
        clear hN
        have EN := Lib.hid en
        go_wp2_with fail
        refine (tb_wants' hr n k hu.out (by omega) N HN.out).mono ?_
        rintro e w4 ⟨A4, c4, rfl, hown4, hr4, ho4⟩
        have hgt : tb < w0.heap.size := hr.1.lt
        go_wp2_with fail
        go_loopw [10, 11] (fun q i wr => ∃ (j : Nat) (t : Tb), j ≤ 8 ∧ i = .int .i64 j ∧ q = .int .i64 ((t0.wants n j).length : Int) ∧ Hid (WInv t0 n j t) ∧ Hid (t.upto (k + j)) ∧ Hid (wr.ownsRow w0.heap.size 3 1 (.slice A4 N c4) N (ints (t0.wants n 8))) ∧ Hid (TbAt W wr tb t)) (fun _ i _ => 8 - (intOf i).toNat)
        case atStart => exact ⟨0, t0, by omega, rfl, rfl, WInv.zero _ _, by simpa using hu, hown4, hr4⟩
        case round =>
          obtain ⟨j, t, hj, rfl, rfl, hI, hu2, hown, hrj⟩ := hrel
          by_cases hj8 : j < 8
          · have hj8' : (j : Int) < 8 := by omega
            obtain ⟨x, hx⟩ : ∃ x, t.get j = x := ⟨_, rfl⟩
            have hx0 : t0.get j = x := by rw [← hx]; exact (hI.out.rest j (Nat.le_refl _)).symm
            have hS := t0.wants_succ n j
            have hwl := t0.wants_le n j
            have HX := Lib.hid hx
            have hb0 : 0 ≤ t.now := hu2.out.n0
            have hb1 : t.now ≤ 200 := by have := hu2.out.n1; omega
            by_cases hw : (t0.get j).wanted t0.now n = true
            · rw [if_pos hw] at hS
              have hat : (t0.wants n 8)[(t0.wants n j).length]? = some j := filter_at (fun k : Nat => (t0.get k).wanted t0.now n) j hj8 hw
              have hkl : (t0.wants n j).length < N := by rw [← HN.out]; exact (List.getElem?_eq_some_iff.1 hat).1
              obtain ⟨g, cap, hv, hg1, hg2, hc⟩ := own_cell (u := .int .i64 (j : Int)) hown.out (by unfold ints; rw [List.getElem?_map, hat]; rfl)
              obtain ⟨q, hq⟩ : ∃ q, (t0.wants n j).length = q := ⟨_, rfl⟩
              have hS' : (t0.wants n (j + 1)).length = q + 1 := by rw [hS, List.length_append, hq]; rfl
              rw [hq] at hkl hc hwl
              have hgr : ∃ t' ep, t.grant j n = (t', ep, 0) ∧ t'.now = t.now ∧ t'.l.length = 8 ∧ (∀ i, t'.get i = if i = (j : Int) then ⟨n, ep, t.now + 6⟩ else t.get i) := by
                rcases Tb.grant_cases t hu2.out.len j n ⟨by omega, hj8'⟩ ⟨n1, n9⟩ with ⟨t', ep, h1, h2, h3, h4, _⟩ | ⟨_, h2, h3⟩
                · exact ⟨t', ep, h1, h2, h3, h4⟩
                · exfalso
                  rw [hx] at h2 h3
                  rw [hx0, ← hI.out.now] at hw
                  unfold Ls.wanted at hw
                  simp [h2, h3] at hw
              obtain ⟨t', ep, hgr1, hgr2, hgr3, hgr4⟩ := hgr
              have hI' := hI.out.yes hgr2 hgr4
              have hck : t'.check j n ep = 0 := by
                unfold Tb.check
                rw [hgr4, if_pos rfl, hgr2, if_pos ⟨by omega, hj8', by show t.now < t.now + 6; omega, rfl, rfl⟩]
              have hgt' : t'.get j = ⟨n, ep, t.now + 6⟩ := by rw [hgr4, if_pos rfl]
              have hup' : t'.upto (k + j + 1) := by have := hu2.out.grant j n; rwa [hgr1] at this
              have HG1 := Lib.hid hgr1
              have HG2 := Lib.hid hgr2
              have HI' := Lib.hid hI'
              have HCK := Lib.hid hck
              have HGT := Lib.hid hgt'
              have HUP := Lib.hid hup'
              have HQ := Lib.hid hq
              have HSS := Lib.hid hS'
              injection hv with e1 e2 e3
              subst e1; subst e3
              have hkl' : (q : Int) < (N : Int) := by omega
              have hq' : (q : Int) ≤ 8 := by omega
              clear e2 hx hx0 hS hw hat hgr1 hgr2 hgr4 hI' hck hgt' hup' hS'
              rw [hq]
              clear hq
              go_wp2_with fail
              refine (tb_get hrj j hu2.out.len x HX.out).mono ?_
              rintro e w5 ⟨rfl, hr5, ho5⟩
              have hc5 := (ho5.cell (p := ⟨g, q, none⟩) hg2 (by simp)).trans hc
              have hg5 := Nat.lt_of_lt_of_le hg2 ho5.size
              have HO5 := Lib.hid (own_only hown.out ho5 (by simp))
              go_wp2_with fail
              refine (tb_grant' (TbAt.alloc hr5 _) j n (k + j) hu2.out (by omega) (ep, 0) (by rw [HG1.out]) t' (by rw [HG1.out])).mono ?_
              rintro e w6 ⟨rfl, hr6, ho6⟩
              have HO6 := Lib.hid (own_only (own_only HO5.out ((Only.refl [] w5).alloc _) (by simp)) ho6 (by simpa using hgt))
              clear hc hc5 hg2
              go_wp2_with fail
              refine (tb_check hr6 j n ep hgr3 _ HCK.out).mono ?_
              rintro e w7 ⟨rfl, hr7, ho7⟩
              go_wp2_with fail
              refine (tb_get hr7 j hgr3 _ HGT.out).mono ?_
              rintro e w8 ⟨rfl, hr8, ho8⟩
              go_wp2_with fail
              refine (tb_now hr8).mono ?_
              rintro e w9 ⟨rfl, rfl⟩
              rw [HG2.out]
              go_wp2_with fail
              go_roundw
              case rel => exact ⟨j + 1, t', by omega, by go_num, by rw [HSS.out]; go_num, HI', by have := HUP.out; rw [show ((k : Int) + ((j + 1 : Nat) : Int)) = k + j + 1 from by omega]; exact this, own_only (own_only HO6.out ho7 (by simp)) ho8 (by simp), hr8⟩
              case measure => simp [intOf]; omega
            · rw [if_neg hw] at hS
              have hw' : (t0.get j).wanted t0.now n = false := by simpa using hw
              have hI' := hI.out.no hw'
              have hup' : t.upto (k + j + 1) := hu2.out.mono (by omega)
              have hna : ∀ i, (t0.wants n 8)[(t0.wants n j).length]? = some i → i ≠ j := filter_not_at (fun k : Nat => (t0.get k).wanted t0.now n) j hj8 hw'
              rw [hx0] at hw'
              rw [← hI.out.now] at hw'
              unfold Ls.wanted at hw'
              simp only [Bool.or_eq_false_iff, Bool.not_eq_false', decide_eq_true_eq] at hw'
              obtain ⟨hlv, hnt⟩ := hw'
              have g1 : decide (x.till ≤ t.now) = false := by simpa using hlv
              obtain ⟨d, hd, hdc⟩ : ∃ d, (x.node == n) = d ∧ (d = false ∨ (d = true ∧ decide (x.till ≤ t.now + 2) = false)) := by
                cases hd : (x.node == n)
                · exact ⟨_, rfl, .inl rfl⟩
                · refine ⟨_, rfl, .inr ⟨rfl, ?_⟩⟩
                  have : x.node = n := by simpa using hd
                  simpa [this] using hnt
              have HI' := Lib.hid hI'
              have HUP := Lib.hid hup'
              obtain ⟨q, hq⟩ : ∃ q, (t0.wants n j).length = q := ⟨_, rfl⟩
              have hS' : (t0.wants n (j + 1)).length = q := by rw [hS, hq]
              have HSS := Lib.hid hS'
              have hq' : (q : Int) ≤ 8 := by omega
              rw [hq] at hna hwl
              have hcase : (decide (q < N) = false) ∨ (q < N ∧ ∃ (i' g cap : Nat), A4 = some ⟨g, 0, none⟩ ∧ g < wr.heap.size ∧ wr.cell? ⟨g, q, none⟩ = some (.int .i64 (i' : Int)) ∧ ((i' : Int) == (j : Int)) = false) := by
                by_cases hqN : q < N
                · right
                  refine ⟨hqN, ?_⟩
                  have hql : q < (t0.wants n 8).length := by rw [HN.out]; exact hqN
                  have hat := List.getElem?_eq_getElem hql
                  obtain ⟨g, cap, hv, hg1, hg2, hc⟩ := own_cell (u := .int .i64 (((t0.wants n 8)[q] : Nat) : Int)) hown.out (by unfold ints; rw [List.getElem?_map, hat]; rfl)
                  injection hv with e1 e2 e3
                  refine ⟨_, g, cap, e1, hg2, hc, ?_⟩
                  have := hna _ hat
                  simp; omega
                · left; simp; omega
              rw [hq]
              clear hx hx0 hS hw hI' hup' hna hlv hnt hq hS'
              rcases hcase with hN2 | ⟨hqN, i', g, cap, rfl, hg2, hc, hne⟩
              · rcases hdc with rfl | ⟨rfl, hd2⟩
                all_goals
                  go_wp2_with fail
                  refine (tb_get hrj j hu2.out.len x HX.out).mono ?_
                  rintro e w5 ⟨rfl, hr5, ho5⟩
                  have HO5 := Lib.hid (own_only hown.out ho5 (by simp))
                  go_wp2_with fail
                  have r0 := fun u : Since (w5.alloc (.cells #[.int .i64 x.node, .int .i64 x.epoch, .int .i64 x.till] 44)) => u.cell (p := ⟨w5.heap.size, 0, none⟩) (by simp; rfl)
                  have r1 := fun u : Since (w5.alloc (.cells #[.int .i64 x.node, .int .i64 x.epoch, .int .i64 x.till] 44)) => u.cell (p := ⟨w5.heap.size, 1, none⟩) (by simp; rfl)
                  have r2 := fun u : Since (w5.alloc (.cells #[.int .i64 x.node, .int .i64 x.epoch, .int .i64 x.till] 44)) => u.cell (p := ⟨w5.heap.size, 2, none⟩) (by simp; rfl)
                  refine wp_region_only _ (Only.refl _ _) (by kernel_rfl) (by kernel_rfl) ?_
                  repeat (go_big_quiet_step ((go_at_call 36; refine Calls.only_same (tb_now (w := Since.w _) ((TbAt.alloc hr5 _).out.only (Since.h _))))))
                  refine wpQuiet_nil ?_
                  rintro ⟨w8, ho8⟩
                  dsimp only
                  clear r0 r1 r2
                  go_wp2_with fail
                  go_roundw
                  case rel => exact ⟨j + 1, t, by omega, by go_num, by rw [HSS.out], HI', by have := HUP.out; rw [show ((k : Int) + ((j + 1 : Nat) : Int)) = k + j + 1 from by omega]; exact this, own_only (own_only HO5.out ((Only.refl [] w5).alloc _) (by simp)) ho8 (by simp), (TbAt.alloc hr5 _).out.only ho8⟩
                  case measure => simp [intOf]; omega
              · have hN2 : (q : Int) < (N : Int) := by omega
                rcases hdc with rfl | ⟨rfl, hd2⟩
                all_goals
                  go_wp2_with fail
                  refine (tb_get hrj j hu2.out.len x HX.out).mono ?_
                  rintro e w5 ⟨rfl, hr5, ho5⟩
                  have HO5 := Lib.hid (own_only hown.out ho5 (by simp))
                  have hc5 := (ho5.cell (p := ⟨g, q, none⟩) hg2 (by simp)).trans hc
                  have hg5 := Nat.lt_of_lt_of_le hg2 ho5.size
                  go_wp2_with fail
                  have r0 := fun u : Since (w5.alloc (.cells #[.int .i64 x.node, .int .i64 x.epoch, .int .i64 x.till] 44)) => u.cell (p := ⟨w5.heap.size, 0, none⟩) (by simp; rfl)
                  have r1 := fun u : Since (w5.alloc (.cells #[.int .i64 x.node, .int .i64 x.epoch, .int .i64 x.till] 44)) => u.cell (p := ⟨w5.heap.size, 1, none⟩) (by simp; rfl)
                  have r2 := fun u : Since (w5.alloc (.cells #[.int .i64 x.node, .int .i64 x.epoch, .int .i64 x.till] 44)) => u.cell (p := ⟨w5.heap.size, 2, none⟩) (by simp; rfl)
                  refine wp_region_only _ (Only.refl _ _) (by kernel_rfl) (by kernel_rfl) ?_
                  repeat (go_big_quiet_step ((go_at_call 36; refine Calls.only_same (tb_now (w := Since.w _) ((TbAt.alloc hr5 _).out.only (Since.h _))))))
                  refine wpQuiet_nil ?_
                  rintro ⟨w8, ho8⟩
                  dsimp only
                  clear r0 r1 r2
                  go_wp2_with fail
                  go_roundw
                  case rel => exact ⟨j + 1, t, by omega, by go_num, by rw [HSS.out], HI', by have := HUP.out; rw [show ((k : Int) + ((j + 1 : Nat) : Int)) = k + j + 1 from by omega]; exact this, own_only (own_only HO5.out ((Only.refl [] w5).alloc _) (by simp)) ho8 (by simp), (TbAt.alloc hr5 _).out.only ho8⟩
                  case measure => simp [intOf]; omega
          · obtain rfl : j = 8 := by omega
            have ed : decide ((8 : Int) < 8) = false := by decide
            have HEND := Lib.hid hI.out.end_
            rw [HN.out]
            go_wp2_with fail
            refine (tb_wants hrj n (k + 8) hu2.out (by omega) 0 HEND.out).mono ?_
            rintro e w9 ⟨A9, c9, rfl, _, hr9, _⟩
            go_wp2_with fail
            go_ret
            exact ⟨rfl, hr9.out.2.1⟩
end Go.Proofs.Ytlonaniomnalnaa
