/-
  LeaseKeeps: the walk.
-/
import Derived.Test.YtlonaniomnalnaaLeaseReadsW
namespace Go.Proofs.Ytlonaniomnalnaa
open Go.RowKit
/-- The table t behind the first k acts. -/
def Tb.run (t : Tb) (l : List Act) (k : Nat) : Tb := (l.take k).foldl Tb.does t
theorem Tb.run_succ (t : Tb) (l : List Act) (k : Nat) (a : Act) (h : l[k]? = some a) : t.run l (k + 1) = (t.run l k).does a := by
  unfold Tb.run
  rw [List.take_add_one, h, List.foldl_append]; rfl
theorem Tb.run_good {t : Tb} {n : Int} (ht : t.Good n) (l : List Act) (k : Nat) (hk : k ≤ l.length) : (t.run l k).Good (n + k) := by
  induction k with
  | zero => simpa [Tb.run] using ht
  | succ k ih =>
    have hk' : k < l.length := by omega
    rw [Tb.run_succ t l k _ (List.getElem?_eq_getElem hk')]
    have := (ih (by omega)).does l[k]
    rw [show n + ((k + 1 : Nat) : Int) = n + k + 1 from by omega]
    exact this
theorem does_two {w0 w : World} {b b2 : Nat} {t t2 : Tb} (h : Hid (TbAt w0 w b t)) (h2 : Hid (TbAt w0 w b2 t2)) (hne : b2 ≠ b) (a : Act) (ha : a.wide) (m : Int) (ht : t.upto m) (hm : m ≤ 4611686018427387904) :
    Calls Try.prog 34 #[.pointer (some ⟨b, 0, none⟩), .agg #[.int .i64 a.op, .int .i64 a.shard, .int .i64 a.node]] w fun e w' => e = .returned (.tuple #[]) ∧ Hid (TbAt w0 w' b (t.does a)) ∧ Hid (TbAt w0 w' b2 t2) :=
  (does16 b t a w ha h.1 (ht.small hm)).mono fun _ _ ⟨e1, e2, e3⟩ => ⟨e1, h.out.turn e2 e3, h2.out.1.only e2 (by simpa using hne), h2.out.2.1.trans e2 (fun y hy => by simp at hy; subst hy; exact .inr h.out.2.2), h2.out.2.2⟩
set_option maxRecDepth 100000 in
set_option maxHeartbeats 2000000 in
theorem leaseKeeps_walk (W : World) (v : Value) (l : List Act) (hs : SlAt W W.heap.size v 3 l.length (l.flatMap Act.cells)) (hg : ∀ a ∈ l, a.wide) (v2 : Value) (l2 : List Act) (hs2 : SlAt W W.heap.size v2 3 l2.length (l2.flatMap Act.cells)) (hg2 : ∀ a ∈ l2, a.wide) :
    Calls Try.prog 14 #[v, v2] W fun e W' => e = .returned (.bool true) ∧ Only [] W W' := by
  obtain ⟨A, c, rfl⟩ := hs.shape
  obtain ⟨A2, c2, rfl⟩ := hs2.shape
  have HS := Lib.hid hs
  have HG := Lib.hid hg
  have HS2 := Lib.hid hs2
  have HG2 := Lib.hid hg2
  clear hs hg hs2 hg2
  by_cases hl : 150 < l.length
  · have hl' : decide ((150 : Int) < (l.length : Int)) = true := by simp; omega
    go_enter Try.func14, Try.ntmps14
    go_wp2_with (go_at_call 27; refine (shown16 _).mono ?_; rintro e w1 ⟨rfl, ho⟩)
    go_ret
    exact ⟨rfl, ho⟩
  have hl' : decide ((150 : Int) < (l.length : Int)) = false := by simp; omega
  by_cases hm : 150 < l2.length
  · have hm' : decide ((150 : Int) < (l2.length : Int)) = true := by simp; omega
    go_enter Try.func14, Try.ntmps14
    go_wp2_with (go_at_call 27; refine (shown16 _).mono ?_; rintro e w1 ⟨rfl, ho⟩)
    go_ret
    exact ⟨rfl, ho⟩
  have hm' : decide ((150 : Int) < (l2.length : Int)) = false := by simp; omega
  go_enter Try.func14, Try.ntmps14
  go_wp2_with fail
  refine (shown16 _).mono ?_
  rintro e w1 ⟨rfl, ho⟩
  go_wp2_with fail
  refine (tb_new W _ ho).mono ?_
  rintro e w2 ⟨tb, rfl, ht⟩
  go_wp2_with fail
  go_loopw [7] (fun i wr => ∃ k : Nat, k ≤ l.length ∧ i = .int .i64 k ∧ Hid (TbAt W wr tb (Tb.after l k))) (fun i _ => l.length - (intOf i).toNat)
  case atStart => exact ⟨0, by omega, rfl, ht⟩
  case round =>
    obtain ⟨k, hk, rfl, hr⟩ := hrel
    by_cases hlt : k < l.length
    · have hlt' : (k : Int) < (l.length : Int) := by omega
      have hk1 := List.getElem?_eq_getElem hlt
      obtain ⟨x, hx⟩ : ∃ x, l[k] = x := ⟨_, rfl⟩
      rw [hx] at hk1
      obtain ⟨ab, ao, ac, hv, q0, q1, q2, hb⟩ := act_at HS.out hr.out.2.1 hk1
      have hw := Lib.hid (HG.out x (List.mem_of_getElem? hk1))
      have HS1 := Lib.hid (Tb.after_succ l k x hk1)
      have hu := Lib.hid (Tb.after_upto l k hk)
      clear hx hk1
      injection hv with e1 e2 e3
      subst e1; subst e3
      clear e2
      go_wp2_with (go_at_call 34; refine (tb_does hr x hw.out k hu.out (by omega)).mono ?_; rintro e w4 ⟨rfl, h4⟩)
      go_roundw
      case rel => exact ⟨k + 1, by omega, by go_num, by rw [HS1.out]; exact h4⟩
      case measure => simp [intOf]; omega
    · have hd0 : decide ((k : Int) < (l.length : Int)) = false := by simp; omega
      have hu := Lib.hid (Tb.after_good l k hk)
      obtain ⟨t, ht0⟩ : ∃ t, Tb.after l k = t := ⟨_, rfl⟩
      rw [ht0] at hu hr
      clear ht0 HS HG
      have hk150 : (k : Int) ≤ 150 := by omega
      have HF := Lib.hid (hu.out.fit (by omega))
      have HU := Lib.hid (unT_bytes hu.out.up.len HF.out (hu.out.ok (by omega)))
      have hbl : t.bytes.length ≤ 1000000 := by
        have h1 := (ib_length _ HF.out.now).2
        have h2 := lsB_length HF.out.node HF.out.epoch HF.out.till
        have h3 := hu.out.up.len
        unfold Tb.bytes
        rw [List.length_append]; omega
      have CU := Lib.hid (fun w => lease_unpack t.bytes w hbl)
      clear hbl
      go_wp2_with fail
      refine (lease_pack tb t _ hr.out.1 hu.out.up.len HF.out).mono ?_
      rintro e w4 ⟨rfl, ho4⟩
      have hr4 : Hid (TbAt W w4 tb t) := hr.out.only ho4
      go_wp2_with fail
      refine (unt_some (CU.out _) HU.out).mono ?_
      rintro e w5 ⟨ub, rfl, hT, ho5⟩
      have hr5 : Hid (TbAt W w5 tb t) := hr4.out.only ho5
      have hne : ub ≠ tb := by have := hr4.out.1.lt; have := hT.1; omega
      have hne2 : tb ≠ ub := Ne.symm hne
      have hq5 : Hid (TbAt W w5 ub t) := ⟨hT.2, hr5.out.2.1, Nat.le_trans hr4.out.2.1.size hT.1⟩
      clear hr hr4 hT
      go_wp2_with fail
      go_loopw [10] (fun i wr => ∃ j : Nat, j ≤ l2.length ∧ i = .int .i64 j ∧ Hid (TbAt W wr tb (t.run l2 j)) ∧ Hid (TbAt W wr ub (t.run l2 j))) (fun i _ => l2.length - (intOf i).toNat)
      case atStart => exact ⟨0, by omega, rfl, hr5, hq5⟩
      case round =>
        obtain ⟨j, hj, rfl, hr, hq⟩ := hrel
        clear hr5 hq5
        have hu2 := Lib.hid (Tb.run_good hu.out l2 j hj)
        by_cases hlt2 : j < l2.length
        · have hlt' : (j : Int) < (l2.length : Int) := by omega
          have hk1 := List.getElem?_eq_getElem hlt2
          obtain ⟨x, hx⟩ : ∃ x, l2[j] = x := ⟨_, rfl⟩
          rw [hx] at hk1
          obtain ⟨ab, ao, ac, hv, q0, q1, q2, hb⟩ := act_at HS2.out hr.out.2.1 hk1
          have hw := Lib.hid (HG2.out x (List.mem_of_getElem? hk1))
          have HS1 := Lib.hid (Tb.run_succ t l2 j x hk1)
          have HK := Lib.hid hk1
          clear hx hk1
          injection hv with e1 e2 e3
          subst e1; subst e3
          clear e2
          go_wp2_with fail
          refine (does_two hr hq hne x hw.out _ hu2.out.up (by omega)).mono ?_
          rintro e w6 ⟨rfl, hr6, hq6⟩
          obtain ⟨ab', ao', ac', hv, q3, q4, q5, hb5⟩ := act_at HS2.out hr6.out.2.1 HK.out
          injection hv with e1 e2 e3
          injection e1 with e1
          injection e1 with e4 e5
          subst e4; subst e5; subst e3
          clear e2 q0 q1 q2 hr hq
          go_wp2_with fail
          refine (does_two hq6 hr6 hne2 x hw.out _ hu2.out.up (by omega)).mono ?_
          rintro e w7 ⟨rfl, hq7, hr7⟩
          go_wp2_with fail
          go_roundw
          case rel => exact ⟨j + 1, by omega, by go_num, by rw [HS1.out]; exact hr7, by rw [HS1.out]; exact hq7⟩
          case measure => simp [intOf]; omega
        · have hd1 : decide ((j : Int) < (l2.length : Int)) = false := by simp; omega
          obtain ⟨y, hy⟩ : ∃ y, t.run l2 j = y := ⟨_, rfl⟩
          rw [hy] at hr hq hu2
          have HF2 := Lib.hid (hu2.out.fit (by omega))
          clear hy HS2 HG2
          go_wp2_with fail
          refine (lease_pack tb y _ hr.out.1 hu2.out.up.len HF2.out).mono ?_
          rintro e w8 ⟨rfl, ho8⟩
          have hr8 : Hid (TbAt W w8 tb y) := hr.out.only ho8
          have hq8 : Hid (TbAt W w8 ub y) := hq.out.only ho8
          go_wp2_with fail
          refine (lease_pack ub y _ hq8.out.1 hu2.out.up.len HF2.out).mono ?_
          rintro e w9 ⟨rfl, ho9⟩
          have hr9 : Hid (TbAt W w9 tb y) := hr8.out.only ho9
          have hq9 : Hid (TbAt W w9 ub y) := hq8.out.only ho9
          go_wp2_with fail
          refine (lease_now tb y _ hr9.out.1).mono ?_
          rintro e w10 ⟨rfl, rfl⟩
          go_wp2_with fail
          refine (lease_now ub y _ hq9.out.1).mono ?_
          rintro e w11 ⟨rfl, rfl⟩
          go_wp2_with fail
          go_ret
          exact ⟨by simp, hr9.out.2.1⟩
end Go.Proofs.Ytlonaniomnalnaa
