/-
  The walk over ShardParts.
-/
import Derived.Deep.RegionWith
import Derived.Test.YtlonaniomnalnaaOpen14
namespace Go.Proofs.Ytlonaniomnalnaa
open Go.RowKit
theorem same_eq (n₀ n₁ : Nat) (v u : Value) (l : List Tx) (w : World) (hl : l.length ≤ 1000000000) (hv : Strs n₀ w v l) (hu : Strs n₁ w u l) (hn₀ : n₀ ≤ w.heap.size) (hn₁ : n₁ ≤ w.heap.size) :
    Calls Try.prog 23 #[v, u] w fun e w' => e = .returned (.bool true) ∧ Only [] w w' :=
  (same14 n₀ n₁ v u l l w hl hl hv hu hn₀ hn₁).mono fun e w' h => ⟨by rw [h.1]; simp, h.2⟩
set_option maxRecDepth 100000 in
set_option maxHeartbeats 8000000 in
theorem shardParts_walk (W : World) (v : Value) (l : List Tx) (hS : Strs W.heap.size W v l) (hG : l.length ≤ maxLen) (n : Int) (wn : (Lit.int .i64 n).wf = true) :
    Calls Try.prog 6 #[v, .int .i64 n] W fun e W' => e = .returned (.bool true) ∧ Only [] W W' := by
  unfold maxLen at hG
  have HS := Lib.hid hS
  obtain ⟨A, c, rfl, -⟩ := hS
  by_cases hl : l.length ≤ 100
  · have hd : decide ((100 : Int) < l.length) = false := by simp; omega
    go_enter Try.func6, Try.ntmps6
    go_wp2_with fail
    refine (shown14 W).mono ?_
    rintro e w1 ⟨rfl, ho⟩
    have HS1 := Lib.hid (HS.out.only ho (Nat.le_refl _))
    have hsz := ho.size
    go_wp2_with fail
    go_loop [6] (fun i => ∃ k : Nat, k ≤ l.length ∧ i = .int .i64 k) (fun i => l.length - (intOf i).toNat)
    case atStart => exact ⟨0, by omega, rfl⟩
    case round =>
      obtain ⟨k, hk, rfl⟩ := hrel
      by_cases hlt : k < l.length
      · have hlt' : (k : Int) < (l.length : Int) := by omega
        have hk1 := List.getElem?_eq_getElem hlt
        revert hk1
        generalize l[k] = x
        intro hk1
        obtain ⟨b, off, rfl, hb, hc⟩ := HS1.out.cells (by omega)
        have q0 : w1.cell? ⟨b, off + k, none⟩ = some (.string ⟨x.1.toArray⟩) := hc k x hk1
        have hx := x.2
        clear hc hk1
        by_cases hx3 : x.1.length ≤ 300
        · have hq : decide ((300 : Int) < x.1.length) = false := by simp; omega
          go_wp2_with fail
          go_round
          case rel => exact ⟨k + 1, by omega, by go_num⟩
          case measure => simp [intOf]; omega
        · have hq : decide ((300 : Int) < x.1.length) = true := by simp; omega
          go_wp2_with fail
          go_ret
          exact ⟨rfl, ho⟩
      · have hd0 : decide ((k : Int) < (l.length : Int)) = false := by simp; omega
        obtain rfl : k = l.length := by omega
        have C1 := Lib.hid (shard_parts A c l (by omega) w1 (HS1.out.more hsz))
        go_wp2_with fail
        refine C1.out.mono ?_
        rintro e w2 ⟨pv, vs, rfl, hp, hvs, ho2⟩
        have HP := Lib.hid hp
        have HV := Lib.hid hvs
        obtain ⟨Ap, cp, rfl⟩ := (SlAt.of_own hp).shape
        clear hp hvs C1
        have hoA := ho.tr ho2
        have hsz2 := hoA.size
        have C2 := Lib.hid (shard_part A c n l (by omega) w2 ((HS.out.only hoA (Nat.le_refl _)).more hsz2))
        go_wp2_with fail
        refine C2.out.mono ?_
        rintro e w3 ⟨v1, rfl, hv1, -, ho3⟩
        have hoB := hoA.tr ho3
        have HV1 := Lib.hid hv1
        obtain ⟨A1, c1, rfl⟩ := (SlAt.of_own hv1).shape
        have C3 := Lib.hid (ref_part A c n l (by omega) w3 ((HS.out.only hoB (Nat.le_refl _)).more hoB.size))
        clear hv1 C2
        go_wp2_with fail
        refine C3.out.mono ?_
        rintro e w4 ⟨v2, rfl, hv2, ho4⟩
        have hoC := hoB.tr ho4
        have hfl : (inShard n l).length ≤ 100 := Nat.le_trans (List.length_filter_le _ _) hl
        have C4 := Lib.hid (same_eq _ _ _ v2 _ w4 (by omega) ((Strs.own HV1.out).only ho4 (Nat.le_refl _)) (Strs.own hv2) ho4.size (Nat.le_refl _))
        obtain ⟨A2, c2, rfl⟩ := (SlAt.of_own hv2).shape
        clear hv2 C3 HV1
        go_wp2_with fail
        refine C4.out.mono ?_
        rintro e w5 ⟨rfl, ho5⟩
        have hoD := hoC.tr ho5
        have hoE := (ho3.tr ho4).tr ho5
        have HP5 := Lib.hid (own_only HP.out hoE (by simp))
        have HV5 : Hid (PartsAt w5 w1.heap.size l vs) := fun j u h => own_only (HV.out j u h) hoE (by simp)
        clear C4 ho2 ho3 ho4 ho5 hoA hoB hoC hoE HP HV
        go_wp2_with fail
        go_loopw [8] (fun i wr => ∃ k : Nat, k ≤ 8 ∧ i = .int .i64 k ∧ Hid (wr.ownsRow w1.heap.size 29 1 (.slice Ap 8 cp) 8 vs) ∧ Hid (PartsAt wr w1.heap.size l vs) ∧ Only [] W wr) (fun i _ => 8 - (intOf i).toNat)
        case atStart => exact ⟨0, by omega, rfl, HP5, HV5, hoD⟩
        case round =>
          obtain ⟨k, hk, rfl, hp, hvs, ho⟩ := hrel
          by_cases hlt : k < 8
          · have hlt' : (k : Int) < 8 := by omega
            have hvl : vs.length = 8 := by have := hp.out.1; omega
            have hk1 := List.getElem?_eq_getElem (show k < vs.length by omega)
            revert hk1
            generalize vs[k]'(show k < vs.length by omega) = u
            intro hk1
            have hu := hvs.out k u hk1
            obtain ⟨A1, c1, rfl⟩ := (SlAt.of_own hu).shape
            obtain ⟨g, cap, hgv, hgb, hgl, hgc⟩ := own_cell hp.out hk1
            injection hgv with e1 e2 e3
            subst e1; subst e3
            have hsz := ho.size
            have HU := Lib.hid hu
            have hfl : (inShard k l).length ≤ 100 := Nat.le_trans (List.length_filter_le _ _) hl
            have C1 := Lib.hid (ref_part A c k l (by omega) wr.drew (((HS.out.only ho (Nat.le_refl _)).more hsz).only ((Only.refl _ _).drew) (Nat.le_refl _)))
            clear hk1 hvl hu e2
            go_wp2_with fail
            have q0 : wr.drew.cell? ⟨g, k, none⟩ = some (.slice A1 (inShard k l).length c1) := hgc
            have HU2 : Hid (Strs wr.drew.heap.size wr.drew (.slice A1 (inShard k l).length c1) (inShard k l)) := (Strs.own HU.out).only ((Only.refl _ _).drew) (Nat.le_refl _)
            go_region_with (first
              | (go_at_call 25; refine C1.out.mono ?_; rintro e w6 ⟨v2, rfl, hv2, ho6⟩; have q1 : w6.cell? ⟨g, k, none⟩ = some (.slice A1 (inShard k l).length c1) := (ho6.cell (p := ⟨g, k, none⟩) hgl (by simp)).trans q0; have C4 := Lib.hid (same_eq _ _ _ v2 _ w6 (by omega) (HU2.out.only ho6 (Nat.le_refl _)) (Strs.own hv2) ho6.size (Nat.le_refl _)); obtain ⟨A2, c2, rfl⟩ := (SlAt.of_own hv2).shape; have HO6 := Lib.hid ho6; clear hv2 ho6)
              | (go_at_call 23; refine C4.out.mono ?_; rintro e w7 ⟨rfl, ho7⟩))
            all_goals
              have ho8 := (((Only.refl [] wr).drew).tr HO6.out).tr ho7
              have HP8 := Lib.hid (own_only hp.out ho8 (by simp))
              have HV8 : Hid (PartsAt w7 w1.heap.size l vs) := fun j u h => own_only (hvs.out j u h) ho8 (by simp)
              have ho9 := ho.tr ho8
              clear C1 C4 HO6 ho7 ho8 q0 hgc
              go_wp2_with fail
              go_roundw
              case rel => exact ⟨k + 1, by omega, by go_num, HP8, HV8, ho9⟩
              case measure => simp [intOf]; omega
          · have hd0 : decide ((k : Int) < 8) = false := by simp; omega
            obtain rfl : k = 8 := by omega
            go_wp2_with fail
            go_ret
            exact ⟨rfl, ho⟩
  · have hd : decide ((100 : Int) < l.length) = true := by simp; omega
    go_enter Try.func6, Try.ntmps6
    go_wp2_with fail
    refine (shown14 W).mono ?_
    rintro e w1 ⟨rfl, ho⟩
    go_wp2_with fail
    go_ret
    exact ⟨rfl, ho⟩
end Go.Proofs.Ytlonaniomnalnaa
