/-
  LeaseEnds: the walk.
-/
import Derived.Test.YtlonaniomnalnaaLaw16b
import Derived.StillTailTactics
namespace Go.Proofs.Ytlonaniomnalnaa
open Go.RowKit

/-- The table behind the first k acts. -/
def Tb.after (l : List Act) (k : Nat) : Tb := (l.take k).foldl Tb.does Tb.empty
theorem Tb.after_succ (l : List Act) (k : Nat) (a : Act) (h : l[k]? = some a) : Tb.after l (k + 1) = (Tb.after l k).does a := by
  unfold Tb.after
  rw [List.take_add_one, h, List.foldl_append]; rfl
theorem Tb.after_upto (l : List Act) (k : Nat) (hk : k ≤ l.length) : (Tb.after l k).upto k := by
  induction k with
  | zero => exact Tb.empty_upto
  | succ k ih =>
    have hk' : k < l.length := by omega
    rw [Tb.after_succ l k _ (List.getElem?_eq_getElem hk')]
    exact (ih (by omega)).does _
theorem act_cells {l : List Act} {k : Nat} {a : Act} (h : l[k]? = some a) : (l.flatMap Act.cells)[k * 3]? = some (.int .i64 a.op) ∧ (l.flatMap Act.cells)[k * 3 + 1]? = some (.int .i64 a.shard) ∧ (l.flatMap Act.cells)[k * 3 + 2]? = some (.int .i64 a.node) :=
  ⟨flat_get Act.cells 3 (fun _ => rfl) l k 0 a h (by omega), flat_get Act.cells 3 (fun _ => rfl) l k 1 a h (by omega), flat_get Act.cells 3 (fun _ => rfl) l k 2 a h (by omega)⟩
/-- The cells of the k-th act. -/
theorem act_at {W w : World} {v : Value} {l : List Act} (hs : SlAt W W.heap.size v 3 l.length (l.flatMap Act.cells)) (ho : Only [] W w) {k : Nat} {a : Act} (h : l[k]? = some a) :
    ∃ b o c, v = .slice (some ⟨b, o, none⟩) l.length c ∧ w.cell? ⟨b, o + k * 3, none⟩ = some (.int .i64 a.op) ∧ w.cell? ⟨b, o + k * 3 + 1, none⟩ = some (.int .i64 a.shard) ∧ w.cell? ⟨b, o + k * 3 + 2, none⟩ = some (.int .i64 a.node) ∧ b < w.heap.size := by
  have hk : k < l.length := (List.getElem?_eq_some_iff.1 h).1
  obtain ⟨b, o, c, hv, hb, hc⟩ := (hs.only ho (Nat.le_refl _) (by simp)).at_ (by omega)
  obtain ⟨h0, h1, h2⟩ := act_cells h
  exact ⟨b, o, c, hv, hc _ _ h0, by rw [Nat.add_assoc]; exact hc _ _ h1, by rw [Nat.add_assoc]; exact hc _ _ h2, Nat.lt_of_lt_of_le hb ho.size⟩

attribute [local go_sem] field_lease0 field_lease1 field_lease2
set_option maxRecDepth 100000 in
set_option maxHeartbeats 800000 in
theorem leaseEnds_walk (W : World) (v : Value) (l : List Act) (hs : SlAt W W.heap.size v 3 l.length (l.flatMap Act.cells)) (hg : ∀ a ∈ l, a.wide) (shard : Int) (h1 : (Lit.int .i64 shard).wf = true) (a : Int) (h2 : (Lit.int .i64 a).wf = true) (b : Int) (h3 : (Lit.int .i64 b).wf = true) (ticks : Int) (h4 : (Lit.int .i64 ticks).wf = true) :
    Calls Try.prog 9 #[v, .int .i64 shard, .int .i64 a, .int .i64 b, .int .i64 ticks] W fun e W' => e = .returned (.bool true) ∧ Only [] W W' := by
  obtain ⟨A, c, rfl⟩ := hs.shape
  have HS := Lib.hid hs
  have HG := Lib.hid hg
  replace h1 := Lib.hid (wide_of_wf h1)
  replace h2 := Lib.hid (wide_of_wf h2)
  replace h3 := Lib.hid (wide_of_wf h3)
  replace h4 := Lib.hid (wide_of_wf h4)
  clear hs hg
  by_cases hl : 150 < l.length
  · have hl' : (150 : Int) < (l.length : Int) := by omega
    go_enter Try.func9, Try.ntmps9
    go_wp2_with (go_at_call 27; refine (shown16 _).mono ?_; rintro e w1 ⟨rfl, ho⟩)
    go_ret
    exact ⟨rfl, ho⟩
  · have hl' : decide ((150 : Int) < (l.length : Int)) = false := by simp; omega
    go_enter Try.func9, Try.ntmps9
    go_wp2_with fail
    refine (shown16 _).mono ?_
    rintro e w1 ⟨rfl, ho⟩
    go_wp2_with fail
    refine (tb_new W _ ho).mono ?_
    rintro e w2 ⟨tb, rfl, ht⟩
    go_wp2_with fail
    go_loopw [13] (fun i wr => ∃ k : Nat, k ≤ l.length ∧ i = .int .i64 k ∧ Hid (TbAt W wr tb (Tb.after l k))) (fun i _ => l.length - (intOf i).toNat)
    case atStart => exact ⟨0, by omega, rfl, ht⟩
    case round =>
      obtain ⟨k, hk, rfl, hr⟩ := hrel
      by_cases hlt : k < l.length
      · have hlt' : (k : Int) < (l.length : Int) := by omega
        have hk1 := List.getElem?_eq_getElem hlt
        obtain ⟨x, hx⟩ : ∃ x, l[k] = x := ⟨_, rfl⟩
        rw [hx] at hk1
        obtain ⟨ab, ao, ac, hv, q0, q1, q2, hb⟩ := act_at HS.out hr.out.2.1 hk1
        have hw := HG.out x (List.mem_of_getElem? hk1)
        have HS1 := Lib.hid (Tb.after_succ l k x hk1)
        have HP : Hid (∀ w, Calls Try.prog 29 #[.int .i64 x.op, .int .i64 5] w fun e w' => e = .returned (.int .i64 (pickI x.op 5)) ∧ w = w') := fun w => pick16 _ _ w hw.1 (by omega) (by omega)
        have hu := Lib.hid (Tb.after_upto l k hk)
        clear hx hk1 hw
        injection hv with e1 e2 e3
        subst e1; subst e3
        clear e2
        by_cases hp : pickI x.op 5 < 2
        · have hd : decide (pickI x.op 5 < 2) = true := by simpa using hp
          have HD : Hid ((Tb.after l k).does x = (Tb.after l k).tick) := by unfold Tb.does; rw [if_pos hp]; rfl
          clear hp
          go_wp2_with (first
            | (go_at_call 29; refine (HP.out _).mono ?_; rintro e w3 ⟨rfl, rfl⟩)
            | (go_at_call 31; refine (tb_tick hr k hu.out (by omega)).mono ?_; rintro e w4 ⟨rfl, h4⟩))
          go_roundw
          case rel => exact ⟨k + 1, by omega, by go_num, by rw [HS1.out, HD.out]; exact h4⟩
          case measure => simp [intOf]; omega
        · have hd : decide (pickI x.op 5 < 2) = false := by simpa using hp
          have HD : Hid ((Tb.after l k).does x = ((Tb.after l k).grant x.shard x.node).1) := by unfold Tb.does; rw [if_neg hp]; rfl
          clear hp
          go_wp2_with (go_at_call 29; refine (HP.out _).mono ?_; rintro e w3 ⟨rfl, rfl⟩)
          go_still_tail 11, (by kernel_rfl)
          change wpList _ _ _ _ _ wr.drew
          go_wp2_with (go_at_call 32; refine (tb_grant (TbAt.drew hr) _ _ k hu.out (by omega) _ rfl).mono ?_; rintro e w4 ⟨rfl, h4⟩)
          go_roundw
          case rel => exact ⟨k + 1, by omega, by go_num, by rw [HS1.out, HD.out]; exact h4⟩
          case measure => simp [intOf]; omega
      · have hd0 : decide ((k : Int) < (l.length : Int)) = false := by simp; omega
        have hu := Lib.hid (Tb.after_upto l k hk)
        obtain ⟨t, ht0⟩ : ∃ t, Tb.after l k = t := ⟨_, rfl⟩
        rw [ht0] at hu hr
        clear ht0 HS HG
        have hk150 : (k : Int) ≤ 150 := by omega
        obtain ⟨kk, hkk⟩ : ∃ kk, pickI shard 8 = kk := ⟨_, rfl⟩
        obtain ⟨m, hm⟩ : ∃ m, 1 + pickI a 9 = m := ⟨_, rfl⟩
        obtain ⟨n, hn⟩ : ∃ n, 1 + pickI b 9 = n := ⟨_, rfl⟩
        have p1 := pickI_lt shard 8 (by omega)
        have p2 := pickI_lt a 9 (by omega)
        have p3 := pickI_lt b 9 (by omega)
        rw [hkk] at p1
        have b2 : 1 ≤ m ∧ m ≤ 9 := by omega
        have b3 : 1 ≤ n ∧ n ≤ 9 := by omega
        have P1 : Hid (∀ w, Calls Try.prog 29 #[.int .i64 shard, .int .i64 8] w fun e w' => e = .returned (.int .i64 kk) ∧ w = w') := fun w => by rw [← hkk]; exact pick16 _ _ w h1 (by omega) (by omega)
        have P2 : Hid (∀ w, Calls Try.prog 29 #[.int .i64 a, .int .i64 9] w fun e w' => e = .returned (.int .i64 (m - 1)) ∧ w = w') := fun w => by rw [← hm, show (1 + pickI a 9 - 1) = pickI a 9 from by omega]; exact pick16 _ _ w h2 (by omega) (by omega)
        have P3 : Hid (∀ w, Calls Try.prog 29 #[.int .i64 b, .int .i64 9] w fun e w' => e = .returned (.int .i64 (n - 1)) ∧ w = w') := fun w => by rw [← hn, show (1 + pickI b 9 - 1) = pickI b 9 from by omega]; exact pick16 _ _ w h3 (by omega) (by omega)
        clear hkk hm hn p2 p3
        have em : 1 + (m - 1) = m := by omega
        have en : 1 + (n - 1) = n := by omega
        obtain ⟨b20, b21⟩ := b2
        obtain ⟨b30, b31⟩ := b3
        obtain ⟨p10, p11⟩ := p1
        go_wp2_with fail
        refine (P1.out _).mono ?_
        rintro e w3 ⟨rfl, rfl⟩
        go_wp2_with fail
        refine (P2.out _).mono ?_
        rintro e w3 ⟨rfl, rfl⟩
        go_wp2_with fail
        refine (P3.out _).mono ?_
        rintro e w3 ⟨rfl, rfl⟩
        clear P1 P2 P3
        have EM := Lib.hid em
        have EN := Lib.hid en
        rcases Tb.grant_cases t hu.out.len kk m ⟨p10, p11⟩ ⟨b20, b21⟩ with ⟨t', ep, hg, hnow, hlen, hget, hep⟩ | ⟨hg, hlv, hne⟩
        · have hu1 : t'.upto (k + 1) := by have := hu.out.grant kk m; rwa [hg] at this
          have HU1 := Lib.hid hu1
          have hep1 := Lib.hid (Tb.get_epoch hu.out (by omega) kk)
          have hgk : t'.get kk = ⟨m, ep, t'.now + 6⟩ := by rw [hget kk, if_pos rfl, hnow]
          have hepn : 0 ≤ ep ∧ ep ≤ k + 1 := by have := hep1.out; omega
          obtain ⟨mm, hmm, hmm10⟩ : ∃ mm : Nat, pickI ticks 10 = mm ∧ mm < 10 := by
            have := pickI_lt ticks 10 (by omega)
            exact ⟨(pickI ticks 10).toNat, by omega, by omega⟩
          have P4 : Hid (∀ w, Calls Try.prog 29 #[.int .i64 ticks, .int .i64 10] w fun e w' => e = .returned (.int .i64 mm) ∧ w = w') := fun w => by rw [← hmm]; exact pick16 _ _ w h4 (by omega) (by omega)
          have HG := Lib.hid hg
          have HGK := Lib.hid hgk
          clear hu1 hep hget hgk hmm hnow
          clear hg
          go_wp2_with fail
          refine (tb_grant hr kk m k hu.out (by omega) (ep, 0) (by rw [HG.out])).mono ?_
          rintro e w4 ⟨rfl, ht4⟩
          rw [HG.out] at ht4
          go_wp2_with fail
          refine (P4.out _).mono ?_
          rintro e w5 ⟨rfl, rfl⟩
          go_wp2_with fail
          go_loopw [20] (fun i wr => ∃ j : Nat, j ≤ mm ∧ i = .int .i64 j ∧ Hid (TbAt W wr tb (t'.ticks j))) (fun i _ => mm - (intOf i).toNat)
          case atStart => exact ⟨0, by omega, rfl, by rw [Tb.ticks_zero]; exact ht4⟩
          case round =>
            obtain ⟨j, hj, rfl, hrj⟩ := hrel
            by_cases hjl : j < mm
            · have hjl' : (j : Int) < (mm : Int) := by omega
              go_wp2_with (go_at_call 31; refine (tb_tick hrj (k + 1 + j) (HU1.out.ticks j) (by omega)).mono ?_; rintro e w6 ⟨rfl, ht6⟩)
              go_roundw
              case rel => exact ⟨j + 1, by omega, by go_num, by rw [← Tb.ticks_succ]; exact ht6⟩
              case measure => simp [intOf]; omega
            · have hjl' : decide ((j : Int) < (mm : Int)) = false := by simp; omega
              obtain rfl : j = mm := by omega
              have c1 : (t'.ticks j).check kk m ep = if j < 6 then 0 else 15 := by
                unfold Tb.check
                rw [Tb.ticks_get, HGK.out]
                by_cases h6 : j < 6
                · rw [if_pos h6, if_pos ⟨p10, p11, by show t'.now + j < t'.now + 6; omega, rfl, rfl⟩]
                · rw [if_neg h6, if_neg (by rintro ⟨_, _, h, _⟩; have : t'.now + j < t'.now + 6 := h; omega)]
              have C1 := Lib.hid c1
              clear c1
              obtain ⟨x, d, hx, hd6, hxd, hdd⟩ : ∃ (x : Int) (d : Bool), (if j < 6 then (0 : Int) else 15) = x ∧ decide ((j : Int) < 6) = d ∧ ((x = 0 ∧ d = true) ∨ (x = 15 ∧ d = false)) ∧ (d = true ↔ j < 6) := by
                by_cases h6 : j < 6
                · exact ⟨0, true, by rw [if_pos h6], by simp; omega, .inl ⟨rfl, rfl⟩, by simp [h6]⟩
                · exact ⟨15, false, by rw [if_neg h6], by simp; omega, .inr ⟨rfl, rfl⟩, by simp [h6]⟩
              rw [hx] at C1
              have HDD := Lib.hid hdd
              clear hx hdd
              rcases hxd with ⟨rfl, rfl⟩ | ⟨rfl, rfl⟩
              all_goals
                go_wp2_with fail
                refine (tb_check hrj kk m ep (HU1.out.ticks j).len _ C1.out).mono ?_
                rintro e w7 ⟨rfl, hr7, _⟩
                have HD6 := Lib.hid hd6
                go_wp2_with fail
                clear hd6
                go_loopw [21] (fun i wr => ∃ q : Nat, j ≤ q ∧ (q ≤ 6 ∨ q = j) ∧ i = .int .i64 q ∧ Hid (TbAt W wr tb (t'.ticks q))) (fun i _ => 6 - (intOf i).toNat)
                case atStart => exact ⟨j, by omega, .inr rfl, rfl, hr7⟩
                case round =>
                  obtain ⟨q, hq, hq6, rfl, hrq⟩ := hrel
                  by_cases hql : q < 6
                  · have hql' : (q : Int) < 6 := by omega
                    go_wp2_with (go_at_call 31; refine (tb_tick hrq (k + 1 + q) (HU1.out.ticks q) (by omega)).mono ?_; rintro e w8 ⟨rfl, ht8⟩)
                    go_roundw
                    case rel => exact ⟨q + 1, by omega, by omega, by go_num, by rw [← Tb.ticks_succ]; exact ht8⟩
                    case measure => simp [intOf]; omega
                  · have hql' : decide ((q : Int) < 6) = false := by simp; omega
                    have hnl : ¬ (t'.ticks q).now < ((t'.ticks q).get kk).till := by
                      rw [Tb.ticks_get, HGK.out]; show ¬ t'.now + q < t'.now + 6; omega
                    rcases Tb.grant_cases (t'.ticks q) (HU1.out.ticks q).len kk n ⟨p10, p11⟩ ⟨b30, b31⟩ with ⟨t2, ep2, hg2, hnow2, hlen2, hget2, hep2⟩ | ⟨_, hlv, _⟩
                    · obtain ⟨_, hep2⟩ := hep2.resolve_left (fun h => hnl h.1)
                      rw [Tb.ticks_get, HGK.out] at hep2
                      have hep2' : ep2 = ep + 1 := hep2
                      have c2 : t2.check kk m ep = 15 := by
                        unfold Tb.check
                        rw [hget2 kk, if_pos rfl, if_neg]
                        rintro ⟨_, _, _, _, h⟩
                        have : ep2 = ep := h
                        omega
                      have c3 : t2.check kk n (ep + 1) = 0 := by
                        unfold Tb.check
                        rw [hget2 kk, if_pos rfl, hnow2, if_pos ⟨p10, p11, by show (t'.ticks q).now < (t'.ticks q).now + 6; omega, rfl, hep2'⟩]
                      subst hep2'
                      have HG2 := Lib.hid hg2
                      have C2 := Lib.hid c2
                      have C3 := Lib.hid c3
                      clear hep2 hget2 hnow2 c2 c3 hnl
                      clear hg2
                      go_wp2_with fail
                      refine (tb_grant hrq kk n (k + 1 + q) (HU1.out.ticks q) (by omega) (ep + 1, 0) (by rw [HG2.out])).mono ?_
                      rintro e w9 ⟨rfl, ht9⟩
                      rw [HG2.out] at ht9
                      go_wp2_with fail
                      refine (tb_check ht9 kk m ep hlen2 _ C2.out).mono ?_
                      rintro e w10 ⟨rfl, ht10, _⟩
                      go_wp2_with fail
                      refine (tb_check ht10 kk n (ep + 1) hlen2 _ C3.out).mono ?_
                      rintro e w11 ⟨rfl, ht11, _⟩
                      go_wp2_with fail
                      go_ret
                      exact ⟨by simp, ht11.out.2.1⟩
                    · exact absurd hlv hnl
        · have HG := Lib.hid hg
          have hne' : ((t.get kk).node == m) = false := by simpa using hne
          have hne2 : ((t.get kk).node != m) = true := by simpa using hne
          clear hg hlv hne
          obtain ⟨x, hx⟩ : ∃ x, t.get kk = x := ⟨_, rfl⟩
          rw [hx] at hne' hne2
          have HX := Lib.hid hx
          clear hx
          go_wp2_with fail
          refine (tb_grant hr kk m k hu.out (by omega) (0, 16) (by rw [HG.out])).mono ?_
          rintro e w4 ⟨rfl, ht4⟩
          rw [HG.out] at ht4
          go_wp2_with fail
          refine (tb_get ht4 kk hu.out.len x HX.out).mono ?_
          rintro e w5 ⟨rfl, ht5, _⟩
          go_wp2_with fail
          go_ret
          exact ⟨by simp, ht5.out.2.1⟩
end Go.Proofs.Ytlonaniomnalnaa
