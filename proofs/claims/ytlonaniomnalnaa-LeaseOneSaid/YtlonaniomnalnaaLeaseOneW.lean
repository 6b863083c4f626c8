/-
  LeaseOne: the walk.
-/
import Derived.Test.YtlonaniomnalnaaLaw16c
namespace Go.Proofs.Ytlonaniomnalnaa
open Go.RowKit

/-- No lease lasts longer than six ticks. -/
def Tb.soon (t : Tb) : Prop := ∀ j : Int, (t.get j).till ≤ t.now + 6
theorem Tb.empty_soon : Tb.empty.soon := by
  intro j
  unfold Tb.get
  split
  · rename_i h
    have : Tb.empty.l.getD j.toNat ⟨0, 0, 0⟩ = ⟨0, 0, 0⟩ := by
      rw [List.getD_eq_getElem?_getD]
      unfold Tb.empty
      rw [List.getElem?_replicate]
      split <;> rfl
    rw [this]; decide
  · decide
theorem Tb.soon.tick {t : Tb} (h : t.soon) : t.tick.soon := fun j => by have := h j; show (t.get j).till ≤ t.now + 1 + 6; omega
structure OneStep (t t' : Tb) (k : Int) : Prop where
  soon : t'.soon
  e1 : ¬ (t'.get k).epoch < (t.get k).epoch
  e2 : (t'.get k).epoch = (t.get k).epoch → (t'.get k).node = (t.get k).node
  e3 : ¬ (t'.get k).till < (t.get k).till
  e4 : ¬ (t.get k).epoch + 1 < (t'.get k).epoch
theorem OneStep.tick {t : Tb} (h : t.soon) (k : Int) : OneStep t t.tick k :=
  ⟨h.tick, Int.lt_irrefl _, fun _ => rfl, Int.lt_irrefl _, by show ¬ (t.get k).epoch + 1 < (t.get k).epoch; omega⟩
theorem OneStep.same {t : Tb} (h : t.soon) (k : Int) : OneStep t t k :=
  ⟨h, Int.lt_irrefl _, fun _ => rfl, Int.lt_irrefl _, by omega⟩
theorem OneStep.grant {t : Tb} (h : t.soon) (hl : t.l.length = 8) (k node : Int) (hk : 0 ≤ k ∧ k < 8) : OneStep t (t.grant k node).1 k := by
  by_cases hn : 1 ≤ node ∧ node ≤ 9
  · rcases Tb.grant_cases t hl k node hk hn with ⟨t', ep, hg, hnow, _, hget, hep⟩ | ⟨hg, _, _⟩
    · rw [hg]
      have hk' : t'.get k = ⟨node, ep, t.now + 6⟩ := by rw [hget, if_pos rfl]
      have hs := h k
      refine ⟨fun j => ?_, ?_, ?_, ?_, ?_⟩
      · show (t'.get j).till ≤ t'.now + 6
        rw [hget, hnow]; split
        · exact Int.le_refl _
        · exact h j
      all_goals (show _; simp only [hk']; rcases hep with ⟨a, b, c⟩ | ⟨a, c⟩ <;> simp_all <;> omega)
    · rw [hg]; exact .same h k
  · rw [show t.grant k node = (t, 0, 2) from by unfold Tb.grant; rw [if_neg (by omega)]]
    exact .same h k

/-- How many of the pairs looked at are right: all nodes below n; of node n the epochs below e. -/
def rights (now : Int) (y : Ls) (n e : Int) : Int := if now < y.till ∧ 0 ≤ y.node ∧ (y.node < n ∨ (y.node = n ∧ y.epoch < e)) then 1 else 0
theorem rights_le (now : Int) (y : Ls) (n e : Int) : 0 ≤ rights now y n e ∧ rights now y n e ≤ 1 := by unfold rights; split <;> omega
theorem rights_zero (now : Int) (y : Ls) : rights now y 0 (y.epoch - 2) = 0 := by unfold rights; rw [if_neg]; omega
theorem rights_next (now : Int) (y : Ls) (n : Int) : rights now y (n + 1) (y.epoch - 2) = rights now y n (y.epoch + 3) := by
  unfold rights
  congr 1
  apply propext
  constructor <;> rintro ⟨a, b, c⟩ <;> exact ⟨a, b, by omega⟩
theorem rights_step (t : Tb) (k n e : Int) (hk : 0 ≤ k ∧ k < 8) (hn : 0 ≤ n) : rights t.now (t.get k) n (e + 1) = if t.check k n e = 0 then rights t.now (t.get k) n e + 1 else rights t.now (t.get k) n e := by
  by_cases h : 0 ≤ k ∧ k < 8 ∧ t.now < (t.get k).till ∧ (t.get k).node = n ∧ (t.get k).epoch = e
  · have hc : t.check k n e = 0 := by unfold Tb.check; rw [if_pos h]
    rw [if_pos hc]
    obtain ⟨_, _, h1, h2, h3⟩ := h
    unfold rights
    rw [if_pos ⟨h1, by omega, by omega⟩, if_neg (by omega)]; rfl
  · have hc : t.check k n e = 15 := by unfold Tb.check; rw [if_neg h]
    rw [if_neg (by omega)]
    unfold rights
    congr 1
    apply propext
    constructor
    · rintro ⟨a, b, c⟩
      refine ⟨a, b, ?_⟩
      rcases c with c | ⟨c1, c2⟩
      · exact .inl c
      · by_cases he : (t.get k).epoch = e
        · exact absurd ⟨hk.1, hk.2, a, c1, he⟩ h
        · exact .inr ⟨c1, by omega⟩
    · rintro ⟨a, b, c⟩; exact ⟨a, b, by omega⟩
theorem rights_check (t : Tb) (k : Int) (hk : 0 ≤ k ∧ k < 8) (n e : Int) (h : rights t.now (t.get k) n e = 1) : t.check k (t.get k).node (t.get k).epoch = 0 := by
  unfold rights at h
  split at h
  · rename_i hc
    unfold Tb.check
    rw [if_pos ⟨hk.1, hk.2, hc.1, rfl, rfl⟩]
  · omega
theorem check_or (t : Tb) (k n e : Int) : t.check k n e = 0 ∨ t.check k n e = 15 := by unfold Tb.check; split <;> simp

/-- What an act of LeaseOne does. -/
def Tb.one (t : Tb) (a : Act) : Tb := if pickI a.op 5 < 2 then t.tick else (t.grant (pickI a.shard 8) a.node).1
theorem Tb.one_step {t : Tb} (h : t.soon) (hl : t.l.length = 8) (a : Act) : OneStep t (t.one a) (pickI a.shard 8) := by
  unfold Tb.one
  split
  · exact .tick h _
  · exact .grant h hl _ _ (pickI_lt _ 8 (by omega))
theorem Tb.one_upto {t : Tb} {n : Int} (h : t.upto n) (a : Act) : (t.one a).upto (n + 1) := by
  unfold Tb.one
  split
  · exact h.tick
  · exact h.grant _ _

theorem Tb.ones_succ (l : List Act) (k : Nat) (a : Act) (h : l[k]? = some a) : (l.take (k + 1)).foldl Tb.one Tb.empty = ((l.take k).foldl Tb.one Tb.empty).one a := by
  rw [List.take_add_one, h, List.foldl_append]; rfl
theorem Tb.ones (l : List Act) (k : Nat) (hk : k ≤ l.length) : ((l.take k).foldl Tb.one Tb.empty).soon ∧ ((l.take k).foldl Tb.one Tb.empty).upto k := by
  induction k with
  | zero => exact ⟨Tb.empty_soon, Tb.empty_upto⟩
  | succ k ih =>
    have hk' : k < l.length := by omega
    rw [Tb.ones_succ l k _ (List.getElem?_eq_getElem hk')]
    obtain ⟨h1, h2⟩ := ih (by omega)
    exact ⟨(Tb.one_step h1 h2.len _).soon, Tb.one_upto h2 _⟩

set_option maxRecDepth 100000 in
set_option maxHeartbeats 1600000 in
theorem leaseOne_walk (W : World) (v : Value) (l : List Act) (hs : SlAt W W.heap.size v 3 l.length (l.flatMap Act.cells)) (hg : ∀ a ∈ l, a.wide) :
    Calls Try.prog 8 #[v] W fun e W' => e = .returned (.bool true) ∧ Only [] W W' := by
  obtain ⟨A, c, rfl⟩ := hs.shape
  have HS := Lib.hid hs
  have HG := Lib.hid hg
  clear hs hg
  by_cases hl : 150 < l.length
  · have hl' : (150 : Int) < (l.length : Int) := by omega
    go_enter Try.func8, Try.ntmps8
    go_wp2_with (go_at_call 27; refine (shown16 _).mono ?_; rintro e w1 ⟨rfl, ho⟩)
    go_ret
    exact ⟨rfl, ho⟩
  · have hl' : decide ((150 : Int) < (l.length : Int)) = false := by simp; omega
    go_enter Try.func8, Try.ntmps8
    go_wp2_with fail
    refine (shown16 _).mono ?_
    rintro e w1 ⟨rfl, ho⟩
    go_wp2_with fail
    refine (tb_new W _ ho).mono ?_
    rintro e w2 ⟨tb, rfl, ht⟩
    go_wp2_with fail
    go_loopw [5] (fun i wr => ∃ k : Nat, k ≤ l.length ∧ i = .int .i64 k ∧ Hid (TbAt W wr tb ((l.take k).foldl Tb.one Tb.empty))) (fun i _ => l.length - (intOf i).toNat)
    case atStart => exact ⟨0, by omega, rfl, ht⟩
    case round =>
      obtain ⟨q, hq, rfl, hr⟩ := hrel
      have hones := Tb.ones l q hq
      by_cases hlt : q < l.length
      · have hlt' : (q : Int) < (l.length : Int) := by omega
        have hk1 := List.getElem?_eq_getElem hlt
        obtain ⟨a, ha⟩ : ∃ a, l[q] = a := ⟨_, rfl⟩
        rw [ha] at hk1
        obtain ⟨ab, ao, ac, hv, q0, q1, q2, hb⟩ := act_at HS.out hr.out.2.1 hk1
        have hw := HG.out a (List.mem_of_getElem? hk1)
        have hs1 := Tb.ones_succ l q a hk1
        obtain ⟨t, htt⟩ : ∃ t, (l.take q).foldl Tb.one Tb.empty = t := ⟨_, rfl⟩
        rw [htt] at hs1 hones hr
        obtain ⟨hsoon, hupto⟩ := hones
        have hstep := Tb.one_step hsoon hupto.len a
        have hu1 := Tb.one_upto hupto a
        obtain ⟨kk, hkk⟩ : ∃ kk, pickI a.shard 8 = kk := ⟨_, rfl⟩
        have hk8 := pickI_lt a.shard 8 (by omega)
        rw [hkk] at hstep hk8
        obtain ⟨t', ht'⟩ : ∃ t', t.one a = t' := ⟨_, rfl⟩
        rw [ht'] at hs1 hstep hu1
        obtain ⟨x, hx⟩ : ∃ x, t.get kk = x := ⟨_, rfl⟩
        obtain ⟨y, hy⟩ : ∃ y, t'.get kk = y := ⟨_, rfl⟩
        obtain ⟨_, e1, e2, e3, e4⟩ := hstep
        rw [hx, hy] at e1 e2 e3 e4
        have yb := Tb.get_epoch hu1 (by omega) kk
        rw [hy] at yb
        have xb := Tb.get_epoch hupto (by omega) kk
        rw [hx] at xb
        have P1 : Hid (∀ w, Calls Try.prog 29 #[.int .i64 a.shard, .int .i64 8] w fun e w' => e = .returned (.int .i64 kk) ∧ w = w') := fun w => by rw [← hkk]; exact pick16 _ _ w hw.2.1 (by omega) (by omega)
        obtain ⟨p, hp⟩ : ∃ p, pickI a.op 5 = p := ⟨_, rfl⟩
        have P2 : Hid (∀ w, Calls Try.prog 29 #[.int .i64 a.op, .int .i64 5] w fun e w' => e = .returned (.int .i64 p) ∧ w = w') := fun w => by rw [← hp]; exact pick16 _ _ w hw.1 (by omega) (by omega)
        have HT' : Hid ((p < 2 → t.tick = t') ∧ (¬ p < 2 → (t.grant kk a.node).1 = t')) := by
          unfold Tb.one at ht'
          rw [hp, hkk] at ht'
          exact ⟨fun h => by rw [if_pos h] at ht'; exact ht', fun h => by rw [if_neg h] at ht'; exact ht'⟩
        have HS1 := Lib.hid hs1
        have HX := Lib.hid hx
        have HY := Lib.hid hy
        have HU := Lib.hid hupto
        have HU1 := Lib.hid hu1
        have d1 : decide (y.epoch < x.epoch) = false := by simpa using e1
        have d3 : decide (y.till < x.till) = false := by simpa using e3
        have d4 : decide (x.epoch + 1 < y.epoch) = false := by simpa using e4
        obtain ⟨d, hd, hdc⟩ : ∃ d, (y.epoch == x.epoch) = d ∧ (d = false ∨ (d = true ∧ (y.node != x.node) = false ∧ (y.node == x.node) = true)) := by
          cases hd : (y.epoch == x.epoch)
          · exact ⟨_, rfl, .inl rfl⟩
          · have := e2 (by simpa using hd)
            exact ⟨_, rfl, .inr ⟨rfl, by simpa using this, by simpa using this⟩⟩
        injection hv with f1 f2 f3
        subst f1; subst f3
        have hq150 : (q : Int) ≤ 150 := by omega
        obtain ⟨k0, k8⟩ := hk8
        obtain ⟨yb0, yb1⟩ := yb
        obtain ⟨xb0, xb1⟩ := xb
        clear f2 ha hk1 hw hs1 htt hsoon hupto hu1 hkk ht' hx hy e1 e2 e3 e4 hp
        have HPC : (decide (p < 2) = true ∧ Hid (t.tick = t')) ∨ (decide (p < 2) = false ∧ Hid ((t.grant kk a.node).1 = t')) := by
          by_cases h : p < 2
          · exact .inl ⟨by simpa using h, HT'.out.1 h⟩
          · exact .inr ⟨by simpa using h, HT'.out.2 h⟩
        clear HT'
        rcases hdc with rfl | ⟨rfl, hd5, hd6⟩
        all_goals
          rcases HPC with ⟨hd2, HTT⟩ | ⟨hd2, HTT⟩
        all_goals
          go_wp2_with fail
          refine (P1.out _).mono ?_
          rintro e w3 ⟨rfl, rfl⟩
          go_wp2_with fail
          refine (tb_get hr kk HU.out.len x HX.out).mono ?_
          rintro e w4 ⟨rfl, hr4, ho4⟩
          have q0' := (ho4.cell (p := ⟨ab, ao + q * 3, none⟩) hb (by simp)).trans q0
          have q2' := (ho4.cell (p := ⟨ab, ao + q * 3 + 2, none⟩) hb (by simp)).trans q2
          have hb' := Nat.lt_of_lt_of_le hb ho4.size
          clear q0 q1 q2 hb
          go_wp2_with fail
          refine (P2.out _).mono ?_
          rintro e w5 ⟨rfl, rfl⟩
          go_wp2_with fail
          first
            | (go_at_call 31; refine (tb_tick' (TbAt.alloc hr4 _) q HU.out (by omega)).mono ?_; rintro e w6 ⟨rfl, hr6, ho6⟩; rw [HTT.out] at hr6)
            | (go_at_call 32; refine (tb_grant' (TbAt.alloc hr4 _) kk a.node q HU.out (by omega) _ rfl t' HTT.out).mono ?_; rintro e w6 ⟨rfl, hr6, ho6⟩)
          have hc0 : Cells w6 w4.heap.size 44 [.int .i64 x.node, .int .i64 x.epoch, .int .i64 x.till] := (Cells.new w4 44 [.int .i64 x.node, .int .i64 x.epoch, .int .i64 x.till]).only ho6 (by simp; have := hr4.1.lt; omega)
          have HC0 := Lib.hid hc0
          clear hc0 q0' q2' hb'
          go_wp2_with fail
          refine (tb_get hr6 kk HU1.out.len y HY.out).mono ?_
          rintro e w7 ⟨rfl, hr7, ho7⟩
          have hcw := HC0.out.only ho7 (by simp)
          have HCN : Hid (Cells (w7.alloc (.cells #[.int .i64 y.node, .int .i64 y.epoch, .int .i64 y.till] 44)) w7.heap.size 44 [.int .i64 y.node, .int .i64 y.epoch, .int .i64 y.till]) := Cells.new w7 44 [.int .i64 y.node, .int .i64 y.epoch, .int .i64 y.till]
          have m0 := hcw.cell (k := 0) rfl
          have m1 := hcw.cell (k := 1) rfl
          have m2 := hcw.cell (k := 2) rfl
          have m3 := hcw.lt
          have hr8 := TbAt.alloc hr7 (.cells #[.int .i64 y.node, .int .i64 y.epoch, .int .i64 y.till] 44)
          clear hcw
          go_wp2_with fail
          clear m0 m1 m2 m3
          have RZ := rights_zero t'.now y
          have HRZ := Lib.hid RZ
          clear RZ
          go_loopw [9, 10] (fun r n wr => ∃ n' : Nat, n' ≤ 11 ∧ n = .int .i64 n' ∧ r = .int .i64 (rights t'.now y n' (y.epoch - 2)) ∧ Hid (TbAt W wr tb t') ∧ Hid (Cells wr w7.heap.size 44 [.int .i64 y.node, .int .i64 y.epoch, .int .i64 y.till])) (fun _ n _ => 11 - (intOf n).toNat)
          case atStart => exact ⟨0, by omega, rfl, by rw [show ((0 : Nat) : Int) = 0 from rfl, HRZ.out], hr8, HCN⟩
          case round =>
            obtain ⟨n', hn', rfl, rfl, hrn, hcn⟩ := hrel
            have n0 := hcn.out.cell (k := 0) rfl
            have n1 := hcn.out.cell (k := 1) rfl
            have n2 := hcn.out.cell (k := 2) rfl
            have n3 := hcn.out.lt
            by_cases hn10 : n' ≤ 10
            · have hn10' : (n' : Int) ≤ 10 := by omega
              have HRN := Lib.hid (rights_next t'.now y n')
              obtain ⟨wo, rfl⟩ : ∃ wo : World, wo = wr := ⟨_, rfl⟩
              go_wp2_with fail
              clear n0 n1 n2 n3
              go_loopw [9, 11] (fun r e wr => ∃ e' : Int, y.epoch - 2 ≤ e' ∧ e' ≤ y.epoch + 3 ∧ e = .int .i64 e' ∧ r = .int .i64 (rights t'.now y n' e') ∧ Hid (TbAt W wr tb t') ∧ Hid (Cells wr w7.heap.size 44 [.int .i64 y.node, .int .i64 y.epoch, .int .i64 y.till])) (fun _ e _ => (y.epoch + 3 - intOf e).toNat)
              case atStart => exact ⟨_, Int.le_refl _, by omega, rfl, rfl, hrn, hcn⟩
              case round =>
                obtain ⟨e', he0, he1, rfl, rfl, hre, hce⟩ := hrel
                have n0 := hce.out.cell (k := 0) rfl
                have n1 := hce.out.cell (k := 1) rfl
                have n2 := hce.out.cell (k := 2) rfl
                have n3 := hce.out.lt
                have hrl := rights_le t'.now y n' e'
                by_cases hee : e' ≤ y.epoch + 2
                · have hst := rights_step t' kk n' e' ⟨k0, k8⟩ (by omega)
                  rw [HY.out] at hst
                  obtain ⟨r, hr0⟩ : ∃ r, rights t'.now y n' e' = r := ⟨_, rfl⟩
                  rw [hr0] at hst hrl
                  obtain ⟨hrl0, hrl1⟩ := hrl
                  have hck := check_or t' kk n' e'
                  obtain ⟨ck, hck0⟩ : ∃ ck, t'.check kk n' e' = ck := ⟨_, rfl⟩
                  rw [hck0] at hst hck
                  have HCK := Lib.hid hck0
                  rw [hr0]
                  clear hr0 hck0
                  rcases hck with rfl | rfl
                  all_goals
                    have HST := Lib.hid hst
                    clear hst
                    go_wp2_with fail
                    refine (tb_check hre kk n' e' HU1.out.len _ HCK.out).mono ?_
                    rintro e w9 ⟨rfl, hr9, ho9⟩
                    go_wp2_with fail
                    go_roundw
                    case rel => exact ⟨e' + 1, by omega, by omega, rfl, congrArg (Value.int .i64) HST.out.symm, hr9, hce.out.only ho9 (by simp)⟩
                    case measure => simp [intOf]; omega
                · obtain rfl : e' = y.epoch + 3 := by omega
                  have hde : decide (y.epoch + 3 ≤ y.epoch + 2) = false := by simp
                  go_wp2_with fail
                  go_roundw
                  case rel => exact ⟨n' + 1, by omega, by go_num, by rw [show (((n' + 1 : Nat)) : Int) = (n' : Int) + 1 from by omega, HRN.out], hre, hce⟩
                  case measure => simp [intOf]; omega
            · obtain rfl : n' = 11 := by omega
              have hde : decide ((11 : Int) ≤ 10) = false := by decide
              have hrl := rights_le t'.now y 11 (y.epoch - 2)
              have hrc := rights_check t' kk ⟨k0, k8⟩ 11 (y.epoch - 2)
              rw [HY.out] at hrc
              rw [show ((11 : Nat) : Int) = 11 from rfl]
              obtain ⟨r, hr0⟩ : ∃ r, rights t'.now y 11 (y.epoch - 2) = r := ⟨_, rfl⟩
              rw [hr0] at hrl hrc
              have HRC := Lib.hid hrc
              rw [hr0]
              clear hr0 hrc
              have hr01 : r = 0 ∨ r = 1 := by omega
              clear hrl
              rcases hr01 with rfl | rfl
              · go_wp2_with fail
                go_roundw
                case rel => exact ⟨q + 1, by omega, by go_num, by rw [HS1.out]; exact hrn⟩
                case measure => simp [intOf]; omega
              · go_wp2_with fail
                refine (tb_check hrn kk y.node y.epoch HU1.out.len _ (by first | exact HRC.out trivial | exact HRC.out rfl)).mono ?_
                rintro e w10 ⟨rfl, hr10, ho10⟩
                go_wp2_with fail
                go_roundw
                case rel => exact ⟨q + 1, by omega, by go_num, by rw [HS1.out]; exact hr10⟩
                case measure => simp [intOf]; omega
      · have hd0 : decide ((q : Int) < (l.length : Int)) = false := by simp; omega
        clear hones
        go_wp2_with fail
        go_ret
        exact ⟨rfl, hr.out.2.1⟩
end Go.Proofs.Ytlonaniomnalnaa
