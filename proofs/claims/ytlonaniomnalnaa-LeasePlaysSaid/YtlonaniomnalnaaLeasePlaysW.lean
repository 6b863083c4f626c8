/-
  LeasePlays: the walk.
-/
import Derived.Test.YtlonaniomnalnaaAlike16
import Derived.StillTailTactics
namespace Go.Proofs.Ytlonaniomnalnaa
open Go.RowKit
theorem RfV.low {w : World} {B B' b : Nat} {v : Value} {t : Tb} (h : RfV w B b v t) (hB : B' ≤ B) : RfV w B' b v t := by
  refine ⟨Nat.le_trans hB h.ge, h.cells, ?_, h.len⟩
  obtain ⟨h1, h2⟩ := h.own
  refine ⟨h1, h2.imp_right ?_⟩
  rintro ⟨g, cap, cur, hv, hb, hr⟩
  exact ⟨g, cap, cur, hv, Nat.le_trans hB hb, hr⟩
theorem tick_two {w0 w : World} {b : Nat} {t : Tb} (h : Hid (TbAt w0 w b t)) (m : Int) (ht : t.upto m) (hm : m ≤ 4611686018427387904) :
    Calls Try.prog 31 #[.pointer (some ⟨b, 0, none⟩)] w fun e w' => e = .returned (.int .i64 (t.now + 1)) ∧ Hid (TbAt w0 w' b t.tick) ∧ Only [b] w w' :=
  (lease_tick b t w h.1 (by have := ht.n0; omega) (by have := ht.n1; omega)).mono fun _ _ ⟨h1, h2, h3⟩ => ⟨h1, h.out.turn h2 h3, h2⟩
theorem grant_two {w0 w : World} {b : Nat} {t : Tb} (h : Hid (TbAt w0 w b t)) (n node : Int) (m : Int) (ht : t.upto m) (hm : m ≤ 4611686018427387904) (x : Int × Int) (hx : (t.grant n node).2 = x) :
    Calls Try.prog 32 #[.pointer (some ⟨b, 0, none⟩), .int .i64 n, .int .i64 node] w fun e w' => e = .returned (.tuple #[.int .i64 x.1, .int .i64 x.2]) ∧ Hid (TbAt w0 w' b (t.grant n node).1) ∧ Only [b] w w' :=
  (lease_grant b t n node w h.1 (ht.small hm)).mono fun _ _ ⟨h1, h2, h3⟩ => ⟨by rw [h1, ← hx], h.out.turn h2 h3, h2⟩
theorem rfgrant_two {w0 w : World} {b b2 : Nat} {v : Value} {t : Tb} (h : Hid (RfV w (b + 1) b2 v t)) (n node : Int) (m : Int) (ht : t.upto m) (hm : m ≤ 4611686018427387904) (x : Int × Int) (hx : (t.grant n node).2 = x) {t' : Tb} (ha : Hid (TbAt w0 w b t')) :
    Calls Try.prog 38 #[.pointer (some ⟨b2, 0, none⟩), .int .i64 n, .int .i64 node] w fun e w' => e = .returned (.tuple #[.int .i64 x.1, .int .i64 x.2]) ∧ Hid (RfV w' (b + 1) b2 v (t.grant n node).1) ∧ Hid (TbAt w0 w' b t') :=
  (rf_grant (b + 1) b2 v t n node w h.out (ht.small hm)).mono fun _ _ ⟨h1, h2, h3⟩ => by
    obtain ⟨g, cap, rfl, hB, _, _, _⟩ := h.out.form
    have e : rbv (.slice (some ⟨g, 0, none⟩) 8 cap) = [g] := rfl
    rw [e] at h2
    refine ⟨by rw [h1, ← hx], h3, ha.out.1.only h2 (by simp; omega), ha.out.2.1.trans h2 (fun y hy => ?_), ha.out.2.2⟩
    simp at hy
    have := ha.out.2.2
    omega
set_option maxRecDepth 100000 in
set_option maxHeartbeats 2000000 in
theorem leasePlays_walk (W : World) (v : Value) (l : List Act) (hs : SlAt W W.heap.size v 3 l.length (l.flatMap Act.cells)) (hg : ∀ a ∈ l, a.wide) (shard : Int) (h1 : (Lit.int .i64 shard).wf = true) (node : Int) (h2 : (Lit.int .i64 node).wf = true) (epoch : Int) (h3 : (Lit.int .i64 epoch).wf = true) :
    Calls Try.prog 12 #[v, .int .i64 shard, .int .i64 node, .int .i64 epoch] W fun e W' => e = .returned (.bool true) ∧ Only [] W W' := by
  obtain ⟨A, c, rfl⟩ := hs.shape
  have HS := Lib.hid hs
  have HG := Lib.hid hg
  clear hs hg
  by_cases hl : 300 < l.length
  · have hl' : (300 : Int) < (l.length : Int) := by omega
    go_enter Try.func12, Try.ntmps12
    go_wp2_with (go_at_call 27; refine (shown16 _).mono ?_; rintro e w1 ⟨rfl, ho⟩)
    go_ret
    exact ⟨rfl, ho⟩
  · have hl' : decide ((300 : Int) < (l.length : Int)) = false := by simp; omega
    go_enter Try.func12, Try.ntmps12
    go_wp2_with fail
    refine (shown16 _).mono ?_
    rintro e w1 ⟨rfl, ho⟩
    go_wp2_with fail
    refine (tb_new W _ ho).mono ?_
    rintro e w2 ⟨tb, rfl, ht⟩
    go_wp2_with fail
    refine (rf_new _).mono ?_
    rintro e w3 ⟨b2, rv, rfl, ho3, hr3⟩
    have ht3 : Hid (TbAt W w3 tb Tb.empty) := ht.out.only ho3
    have hr0 : Hid (RfV w3 (tb + 1) b2 rv Tb.empty) := hr3.low (Nat.succ_le_of_lt ht.out.1.lt)
    clear ht ho hr3 ho3
    go_wp2_with fail
    go_loopw [12] (fun i wr => ∃ k : Nat, k ≤ l.length ∧ i = .int .i64 k ∧ Hid (TbAt W wr tb (Tb.after l k)) ∧ Hid (RfV wr (tb + 1) b2 rv (Tb.after l k))) (fun i _ => l.length - (intOf i).toNat)
    case atStart => exact ⟨0, by omega, rfl, ht3, hr0⟩
    case round =>
      obtain ⟨k, hk, rfl, hr, hq⟩ := hrel
      clear ht3 hr0
      by_cases hlt : k < l.length
      · have hlt' : (k : Int) < (l.length : Int) := by omega
        have hk1 := List.getElem?_eq_getElem hlt
        obtain ⟨x, hx⟩ : ∃ x, l[k] = x := ⟨_, rfl⟩
        rw [hx] at hk1
        obtain ⟨ab, ao, ac, hv, q0, q1, q2, hb⟩ := act_at HS.out hr.out.2.1 hk1
        have hw := HG.out x (List.mem_of_getElem? hk1)
        have HS1 := Lib.hid (Tb.after_succ l k x hk1)
        have HP : Hid (∀ w, Calls Try.prog 29 #[.int .i64 x.op, .int .i64 5] w fun e w' => e = .returned (.int .i64 (pickI x.op 5)) ∧ w = w') := fun w => pick16 _ _ w hw.1 (by omega) (by omega)
        have hu := Lib.hid (Tb.after_upto l k hk)
        have HK := Lib.hid hk1
        clear hx hk1 hw
        injection hv with e1 e2 e3
        subst e1; subst e3
        clear e2
        have hn0 := hu.out.n0
        have hn1 := hu.out.n1
        have hbb : tb ≠ b2 := by have := hq.out.ge; omega
        have hWb : W.heap.size ≤ b2 := by have := hq.out.ge; have := hr.out.2.2; omega
        by_cases hp : pickI x.op 5 < 2
        · have hd : decide (pickI x.op 5 < 2) = true := by simpa using hp
          have HD : Hid ((Tb.after l k).does x = (Tb.after l k).tick) := by unfold Tb.does; rw [if_pos hp]; rfl
          have m0 := hq.out.cells.cell (k := 0) rfl
          have mf := hq.out.cells.frozen 0
          obtain ⟨t, htt⟩ : ∃ t, Tb.after l k = t := ⟨_, rfl⟩
          rw [htt] at hr hq hu HD m0 hn0 hn1 HS1
          clear hp htt
          go_wp2_with (go_at_call 29; refine (HP.out _).mono ?_; rintro e w3 ⟨rfl, rfl⟩)
          have hr5 := TbAt.set hr (p := ⟨b2, 0, none⟩) hbb hWb (.int .i64 (t.now + 1))
          have hq5 := Lib.hid (hq.out.tick)
          obtain ⟨w5, hw5⟩ : ∃ w5, wr.setCell ⟨b2, 0, none⟩ (.int .i64 (t.now + 1)) = w5 := ⟨_, rfl⟩
          rw [hw5] at hr5 hq5 ⊢
          clear hr hq m0 mf q0 q1 q2 hw5
          have m5 : w5.cell? ⟨b2, 0, none⟩ = some (.int .i64 (t.now + 1)) := hq5.out.cells.cell (k := 0) rfl
          have hb5 := hq5.out.cells.lt
          go_region_with ((go_at_call 31; refine (tick_two (by first | exact hr5 | exact TbAt.drew hr5 | exact TbAt.drew (TbAt.drew hr5)) k hu.out (by omega)).mono ?_; rintro e w6 ⟨rfl, hr6, ho6⟩; have m6 := (ho6.cell (p := ⟨b2, 0, none⟩) (by simp; omega) (by simp; omega)).trans m5))
          all_goals
            go_wp2_with fail
            go_roundw
            case rel => exact ⟨k + 1, by omega, by go_num, by rw [HS1.out, HD.out]; exact hr6, by rw [HS1.out, HD.out]; exact (hq5.out.only ((Only.refl _ _).drew)).far ho6 (by simp)⟩
            case measure => simp [intOf]; omega
        · have hd : decide (pickI x.op 5 < 2) = false := by simpa using hp
          have HD : Hid ((Tb.after l k).does x = ((Tb.after l k).grant x.shard x.node).1) := by unfold Tb.does; rw [if_neg hp]; rfl
          obtain ⟨t, htt⟩ : ∃ t, Tb.after l k = t := ⟨_, rfl⟩
          rw [htt] at hr hq hu HD hn0 hn1 HS1
          obtain ⟨y, hy⟩ : ∃ y, (t.grant x.shard x.node).2 = y := ⟨_, rfl⟩
          obtain ⟨y1, y2⟩ := y
          have HY := Lib.hid hy
          clear hp htt hy
          go_wp2_with (go_at_call 29; refine (HP.out _).mono ?_; rintro e w3 ⟨rfl, rfl⟩)
          have hrd := TbAt.drew hr
          have hqd : Hid (RfV wr.drew (tb + 1) b2 rv t) := hq.out.drew
          go_region_with ((go_at_call 32; refine (grant_two (by first | exact hrd | exact hr) _ _ k hu.out (by omega) _ HY.out).mono ?_; rintro e w4 ⟨rfl, hr4, ho4⟩))
          all_goals
            have hq4 : Hid (RfV w4 (tb + 1) b2 rv t) := by first | exact hqd.out.far ho4 (by simp) | exact hq.out.far ho4 (by simp)
            clear q0 q1 q2
            obtain ⟨ab', ao', ac', hv, -, q1, q2, hb4⟩ := act_at HS.out hr4.out.2.1 HK.out
            injection hv with e1 e2 e3
            injection e1 with e1
            injection e1 with e4 e5
            subst e4; subst e5; subst e3
            clear e2 hr hq
            go_wp2_with fail
            have hrd4 := TbAt.drew hr4
            have hqd4 : Hid (RfV w4.drew (tb + 1) b2 rv t) := hq4.out.drew
            go_region_with ((go_at_call 38; refine (rfgrant_two (by first | exact hqd4 | exact hq4) _ _ k hu.out (by omega) _ HY.out (by first | exact hrd4 | exact hr4)).mono ?_; rintro e w6 ⟨rfl, hq6, hr6⟩))
            all_goals
              go_wp2_with fail
              go_roundw
              case rel => exact ⟨k + 1, by omega, by go_num, by rw [HS1.out, HD.out]; exact hr6, by rw [HS1.out, HD.out]; exact hq6⟩
              case measure => simp [intOf]; omega
      · have hd0 : decide ((k : Int) < (l.length : Int)) = false := by simp; omega
        have hu := Lib.hid (Tb.after_good l k hk)
        obtain ⟨t, ht0⟩ : ∃ t, Tb.after l k = t := ⟨_, rfl⟩
        rw [ht0] at hu hr hq
        have hlen := hu.out.up.len
        have HF := Lib.hid (hu.out.fit (by omega))
        have HSM := Lib.hid (hu.out.up.small (by omega))
        clear ht0 HS HG
        obtain ⟨x, hx⟩ : ∃ x, t.get shard = x := ⟨_, rfl⟩
        have HX := Lib.hid hx
        clear hx
        go_wp2_with fail
        refine (tb_get hr shard hlen x HX.out).mono ?_
        rintro e w4 ⟨rfl, hr4, ho4⟩
        have hq4 : Hid (RfV w4 (tb + 1) b2 rv t) := hq.out.only ho4
        clear hr hq
        have hq5 : Hid (RfV (w4.alloc (.cells #[.int .i64 x.node, .int .i64 x.epoch, .int .i64 x.till] 44)) (tb + 1) b2 rv t) := hq4.out.only ((Only.refl _ _).alloc _)
        have hr5 : Hid (TbAt W (w4.alloc (.cells #[.int .i64 x.node, .int .i64 x.epoch, .int .i64 x.till] 44)) tb t) := hr4.out.only ((Only.refl _ _).alloc _)
        have hx5 := Lib.hid (Cells.new w4 44 [.int .i64 x.node, .int .i64 x.epoch, .int .i64 x.till])
        have CG := rf_get (tb + 1) b2 rv t shard _ hq5.out
        rw [HX.out] at CG
        unfold Ls.val at CG
        have HCG := Lib.hid CG
        clear CG
        go_wp2_with fail
        refine HCG.out.mono ?_
        rintro e w6 ⟨rfl, ho6⟩
        have hq7 : Hid (RfV (w6.alloc (.cells #[.int .i64 x.node, .int .i64 x.epoch, .int .i64 x.till] 64)) (tb + 1) b2 rv t) := hq5.out.only (ho6.alloc _)
        have hr7 : Hid (TbAt W (w6.alloc (.cells #[.int .i64 x.node, .int .i64 x.epoch, .int .i64 x.till] 64)) tb t) := hr5.out.only (ho6.alloc _)
        have hx7 : Hid (Cells (w6.alloc (.cells #[.int .i64 x.node, .int .i64 x.epoch, .int .i64 x.till] 64)) w4.heap.size 44 [.int .i64 x.node, .int .i64 x.epoch, .int .i64 x.till]) := hx5.out.only (ho6.alloc _) (by simp)
        have hy7 := Lib.hid (Cells.new w6 64 [.int .i64 x.node, .int .i64 x.epoch, .int .i64 x.till])
        clear hr4 hq4 hr5 hq5 hx5 HCG
        go_wp2_with fail
        refine (alike16 (tb + 1) tb b2 rv t _ hr7.out.1 hq7.out HF.out).mono ?_
        rintro e w8 ⟨rfl, ho8⟩
        have x0 := (hx7.out.only ho8 (by simp)).cell (k := 0) rfl
        have x1 := (hx7.out.only ho8 (by simp)).cell (k := 1) rfl
        have y0 := (hy7.out.only ho8 (by simp)).cell (k := 0) rfl
        have y1 := (hy7.out.only ho8 (by simp)).cell (k := 1) rfl
        have hr8 : Hid (TbAt W w8 tb t) := hr7.out.only ho8
        have hq8 : Hid (RfV w8 (tb + 1) b2 rv t) := hq7.out.only ho8
        clear hr7 hq7 hx7 hy7
        go_wp2_with fail
        refine (tb_check hr8 shard node epoch hlen _ rfl).mono ?_
        rintro e w9 ⟨rfl, hr9, ho9⟩
        have hq9 : Hid (RfV w9 (tb + 1) b2 rv t) := hq8.out.only ho9
        go_wp2_with fail
        refine (rf_check (tb + 1) b2 rv t shard node epoch _ hq9.out).mono ?_
        rintro e w10 ⟨rfl, ho10⟩
        have hr10 : Hid (TbAt W w10 tb t) := hr9.out.only ho10
        have hq10 : Hid (RfV w10 (tb + 1) b2 rv t) := hq9.out.only ho10
        go_wp2_with fail
        refine (lease_wants tb t node _ hr10.out.1 HSM.out).mono ?_
        rintro e w11 ⟨v1, rfl, hv1, ho11⟩
        have hr11 : Hid (TbAt W w11 tb t) := hr10.out.only ho11
        have hq11 : Hid (RfV w11 (tb + 1) b2 rv t) := hq10.out.only ho11
        go_wp2_with fail
        refine (rf_wants (tb + 1) b2 rv t node _ hq11.out (by have := HSM.out.n0; omega) HSM.out.n1).mono ?_
        rintro e w12 ⟨v2, rfl, hv2, ho12⟩
        have hr12 : Hid (TbAt W w12 tb t) := hr11.out.only ho12
        have s1 := SlAt.of_own (own_only hv1 ho12 (by simp))
        have s2 := SlAt.of_own hv2
        have hle := t.wants_le node 8
        go_wp2_with fail
        refine (same16 v1 v2 (t.wants node 8) _ (by omega) s1 s2).mono ?_
        rintro e w13 ⟨rfl, ho13⟩
        go_wp2_with fail
        go_ret
        exact ⟨by simp, hr12.out.2.1.tr ho13⟩
end Go.Proofs.Ytlonaniomnalnaa
