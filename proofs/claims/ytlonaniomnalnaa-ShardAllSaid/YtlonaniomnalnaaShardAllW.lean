/-
  The walk over ShardAll.
-/
import Derived.Test.YtlonaniomnalnaaOpen14
namespace Go.Proofs.Ytlonaniomnalnaa
open Go.RowKit
/-- The lengths of the first k parts. -/
def sumTo (l : List Tx) : Nat → Nat
  | 0 => 0
  | k + 1 => sumTo l k + (inShard k l).length
theorem sumTo_cons (x : Tx) (l : List Tx) (k : Nat) : sumTo (x :: l) k = sumTo l k + (if shardL x.1 < k then 1 else 0) := by
  induction k with
  | zero => simp [sumTo]
  | succ k ih =>
    have e : (inShard k (x :: l)).length = (inShard k l).length + (if shardL x.1 = k then 1 else 0) := by
      unfold inShard
      by_cases h : shardL x.1 = k
      · simp [h]
      · have : ¬ (shardL x.1 : Int) = k := by omega
        simp [h, this]
    show sumTo (x :: l) k + _ = sumTo l k + _ + _
    rw [ih, e]
    by_cases h1 : shardL x.1 < k
    · rw [if_pos h1, if_neg (by omega), if_pos (by omega)]; omega
    · by_cases h2 : shardL x.1 = k
      · rw [if_neg h1, if_pos h2, if_pos (by omega)]; omega
      · rw [if_neg h1, if_neg h2, if_neg (by omega)]; omega
theorem sumTo_all (l : List Tx) : sumTo l 8 = l.length := by
  induction l with
  | nil => rfl
  | cons x l ih => rw [sumTo_cons, ih, if_pos (shardL_lt _), List.length_cons]
theorem sumTo_le (l : List Tx) (k : Nat) : sumTo l k ≤ k * l.length := by
  induction k with
  | zero => simp [sumTo]
  | succ k ih =>
    have : (inShard k l).length ≤ l.length := List.length_filter_le _ _
    show sumTo l k + _ ≤ _
    rw [Nat.add_mul]; omega
theorem cnt_part (l : List Tx) (s : Tx) (i : Int) : cnt (inShard i l) s = if (shardL s.1 : Int) = i then cnt l s else 0 := by
  unfold cnt inShard
  rw [List.filter_filter]
  by_cases h : (shardL s.1 : Int) = i
  · rw [if_pos h]
    congr 1
    apply List.filter_congr
    intro x _
    by_cases e : x = s
    · subst e; simp [h]
    · simp [e]
  · rw [if_neg h]
    rw [List.length_eq_zero_iff, List.filter_eq_nil_iff]
    intro x _ hx
    simp at hx
    obtain ⟨e, h2⟩ := hx
    subst e
    exact h h2
theorem parts_get {w : World} {base B : Nat} {l : List Tx} {vs : List Value} {Ap : Option Addr} {cp : Nat} (hp : w.ownsRow B 29 1 (.slice Ap 8 cp) 8 vs) (hv : PartsAt w base l vs) :
    ∃ g, Ap = some ⟨g, 0, none⟩ ∧ ∀ k : Nat, k < 8 → ∃ A1 c1, w.cell? ⟨g, k, none⟩ = some (.slice A1 (inShard k l).length c1) ∧ Strs w.heap.size w (.slice A1 (inShard k l).length c1) (inShard k l) := by
  have hvl : vs.length = 8 := by have := hp.1; omega
  obtain ⟨g, cap, hgv, _, _, _⟩ := own_cell hp (List.getElem?_eq_getElem (show 0 < vs.length by omega))
  injection hgv with e1 e2 e3
  subst e1; subst e3
  refine ⟨g, rfl, fun k hk => ?_⟩
  have hk1 := List.getElem?_eq_getElem (show k < vs.length by omega)
  revert hk1
  generalize vs[k]'(show k < vs.length by omega) = u
  intro hk1
  have hu := hv k u hk1
  obtain ⟨A1, c1, rfl⟩ := (SlAt.of_own hu).shape
  obtain ⟨g2, cap2, hgv2, _, _, hgc⟩ := own_cell hp hk1
  injection hgv2 with e1 e2 e3
  injection e1 with e1
  injection e1 with e1
  subst e1
  exact ⟨A1, c1, hgc, Strs.own hu⟩
set_option maxRecDepth 100000 in
set_option maxHeartbeats 8000000 in
theorem shardAll_walk (W : World) (v : Value) (l : List Tx) (hS : Strs W.heap.size W v l) (hG : l.length ≤ maxLen) (s : ByteArray) (hz : s.size ≤ maxLen) :
    Calls Try.prog 7 #[v, .string s] W fun e W' => e = .returned (.bool true) ∧ Only [] W W' := by
  obtain ⟨sl, rfl, hsz⟩ := str_of s
  rw [hsz] at hz
  clear hsz
  unfold maxLen at hz hG
  have HS := Lib.hid hS
  obtain ⟨A, c, rfl, -⟩ := hS
  by_cases hl : l.length ≤ 100
  · have hd : decide ((100 : Int) < l.length) = false := by simp; omega
    by_cases hs3 : sl.length ≤ 300
    · have hd3 : decide ((300 : Int) < sl.length) = false := by simp; omega
      obtain ⟨st, hst⟩ : ∃ st : Tx, st.1 = sl := ⟨⟨sl, by omega⟩, rfl⟩
      subst hst
      go_enter Try.func7, Try.ntmps7
      go_wp2_with fail
      refine (shown14 W).mono ?_
      rintro e w1 ⟨rfl, ho⟩
      have HS1 := Lib.hid (HS.out.only ho (Nat.le_refl _))
      have hsz := ho.size
      go_wp2_with fail
      go_loop [6] (fun i => ∃ k : Nat, k ≤ l.length ∧ i = .int .i64 k) (fun i => l.length - (intOf i).toNat)
      case atStart => exact ⟨0, by omega, rfl⟩
      case round =>
        obtain ⟨k, hk, rfl⟩ := hrel
        by_cases hlt : k < l.length
        · have hlt' : (k : Int) < (l.length : Int) := by omega
          have hk1 := List.getElem?_eq_getElem hlt
          revert hk1
          generalize l[k] = x
          intro hk1
          obtain ⟨b, off, rfl, hb, hc⟩ := HS1.out.cells (by omega)
          have q0 : w1.cell? ⟨b, off + k, none⟩ = some (.string ⟨x.1.toArray⟩) := hc k x hk1
          have hx := x.2
          clear hc hk1
          by_cases hx3 : x.1.length ≤ 300
          · have hq : decide ((300 : Int) < x.1.length) = false := by simp; omega
            go_wp2_with fail
            go_round
            case rel => exact ⟨k + 1, by omega, by go_num⟩
            case measure => simp [intOf]; omega
          · have hq : decide ((300 : Int) < x.1.length) = true := by simp; omega
            go_wp2_with fail
            go_ret
            exact ⟨rfl, ho⟩
        · have hd0 : decide ((k : Int) < (l.length : Int)) = false := by simp; omega
          obtain rfl : k = l.length := by omega
          have C1 := Lib.hid (shard_parts A c l (by omega) w1 (HS1.out.more hsz))
          go_wp2_with fail
          refine C1.out.mono ?_
          rintro e w2 ⟨pv, vs, rfl, hp, hvs, ho2⟩
          obtain ⟨Ap, cp, rfl⟩ := (SlAt.of_own hp).shape
          have hoA := ho.tr ho2
          obtain ⟨g, rfl, hg⟩ := parts_get hp hvs
          have HGT := Lib.hid hg
          have HS2 := Lib.hid (HS.out.only hoA (Nat.le_refl _))
          have CO := Lib.hid (shard_of st.1 w2 (by omega))
          have CN := Lib.hid (count14 _ _ l st w2 (by omega) HS2.out)
          have hcl : cnt l st ≤ l.length := List.length_filter_le _ _
          have hs8 := shardL_lt st.1
          clear hp hvs C1 hg ho2
          go_wp2_with fail
          go_loop [8, 9] (fun a i => ∃ k : Nat, k ≤ 8 ∧ i = .int .i64 k ∧ a = .int .i64 (sumTo l k)) (fun _ i => 8 - (intOf i).toNat)
          case atStart => exact ⟨0, by omega, rfl, rfl⟩
          case round =>
            obtain ⟨k, hk, rfl, rfl⟩ := hrel
            have hsl := sumTo_le l k
            by_cases hlt : k < 8
            · have hlt' : (k : Int) < 8 := by omega
              obtain ⟨A1, c1, q0, hs1⟩ := HGT.out k hlt
              have hfl : (inShard k l).length ≤ 100 := Nat.le_trans (List.length_filter_le _ _) hl
              have hkl : k * l.length ≤ 800 := Nat.le_trans (Nat.mul_le_mul (show k ≤ 8 by omega) hl) (by omega)
              have HT : Hid (sumTo l (k + 1) = sumTo l k + (inShard k l).length) := rfl
              by_cases hks : k = shardL st.1
              · have hq : ((k : Int) != (shardL st.1 : Int)) = false := by simp; omega
                clear hs1 hks
                go_wp2_with (go_at_call 20; refine CO.out.mono ?_; rintro e w' ⟨rfl, rfl⟩)
                go_round
                case rel => exact ⟨k + 1, by omega, by go_num, by rw [HT.out]; go_num⟩
                case measure => simp [intOf]; omega
              · have hq : ((k : Int) != (shardL st.1 : Int)) = true := by simp; omega
                have CC := count14 _ _ (inShard k l) st w2 (by omega) hs1
                rw [cnt_part, if_neg (by omega)] at CC
                have HCC := Lib.hid CC
                clear hs1 CC
                go_wp2_with (first
                  | (go_at_call 20; refine CO.out.mono ?_; rintro e w' ⟨rfl, rfl⟩)
                  | (go_at_call 26; refine HCC.out.mono ?_; rintro e w' ⟨rfl, rfl⟩))
                go_round
                case rel => exact ⟨k + 1, by omega, by go_num, by rw [HT.out]; go_num⟩
                case measure => simp [intOf]; omega
            · have hd0 : decide ((k : Int) < 8) = false := by simp; omega
              obtain rfl : k = 8 := by omega
              rw [sumTo_all]
              obtain ⟨A1, c1, q0, hs1⟩ := HGT.out (shardL st.1) hs8
              have CC := count14 _ _ (inShard (shardL st.1) l) st w2 (by have : (inShard (shardL st.1) l).length ≤ l.length := List.length_filter_le _ _; omega) hs1
              rw [cnt_part, if_pos rfl] at CC
              have HCC := Lib.hid CC
              have q1 : decide (0 ≤ (shardL st.1 : Int)) = true := by simp
              have q2 : decide ((shardL st.1 : Int) < 8) = true := by simp; omega
              have q3 : (shardL st.1 : Int) < 8 := by omega
              clear hs1 CC
              go_wp2_with fail
              refine CO.out.mono ?_
              rintro e w' ⟨rfl, rfl⟩
              go_wp2_with fail
              refine HCC.out.mono ?_
              rintro e w' ⟨rfl, rfl⟩
              go_wp2_with fail
              refine CN.out.mono ?_
              rintro e w' ⟨rfl, rfl⟩
              go_wp2_with fail
              go_ret
              exact ⟨by simp, hoA⟩
    · have hd3 : decide ((300 : Int) < sl.length) = true := by simp; omega
      go_enter Try.func7, Try.ntmps7
      go_wp2_with fail
      refine (shown14 W).mono ?_
      rintro e w1 ⟨rfl, ho⟩
      go_wp2_with fail
      go_ret
      exact ⟨rfl, ho⟩
  · have hd : decide ((100 : Int) < l.length) = true := by simp; omega
    go_enter Try.func7, Try.ntmps7
    go_wp2_with fail
    refine (shown14 W).mono ?_
    rintro e w1 ⟨rfl, ho⟩
    go_wp2_with fail
    go_ret
    exact ⟨rfl, ho⟩
end Go.Proofs.Ytlonaniomnalnaa
