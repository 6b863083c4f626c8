/-
  Chapter 14: Parts; the examples.
-/
import Derived.Test.YtlonaniomnalnaaShardf
namespace Go.Proofs.Ytlonaniomnalnaa
open Go.RowKit

theorem own_own_ne' {w : World} {B B' : Nat} {e e' : TypeId} {sz sz' n n' : Nat} {v v' : Value} {xs xs' : List Value} (h : w.ownsRow B e sz v n xs) (h' : w.ownsRow B' e' sz' v' n' xs') (hne : e ≠ e') : v.ownBlock = none ∨ v.ownBlock ≠ v'.ownBlock := by
  rcases h.2 with ⟨rfl, _⟩ | ⟨g1, cap, cur, rfl, _, hh, _⟩
  · exact .inl rfl
  · refine .inr fun hg => ?_
    rcases h'.2 with ⟨rfl, _⟩ | ⟨g2, cap2, cur2, rfl, _, hh2, _⟩
    · simp [Value.ownBlock] at hg
    · simp only [Value.ownBlock, Option.some.injEq] at hg
      subst hg
      rw [hh] at hh2
      injection hh2 with h1
      injection h1 with _ h2
      exact hne h2
theorem Strs.more {w : World} {n₀ n₁ : Nat} {v : Value} {l : List Tx} (h : Strs n₀ w v l) (hn : n₀ ≤ n₁) : Strs n₁ w v l := by
  obtain ⟨A, c, e, h⟩ := h
  exact ⟨A, c, e, fun hp => by obtain ⟨b, off, h1, h2, h3⟩ := h hp; exact ⟨b, off, h1, by omega, h3⟩⟩
theorem info_strings : (Try.prog.info? 29).map (fun i => (i.zero, i.size, i.bytes)) = some (some (.slice none 0 0), 1, 24) := by kernel_rfl
/-- The values vs are rows of the parts 0, 1, .. -/
def PartsAt (w : World) (base : Nat) (zs : List Tx) (vs : List Value) : Prop :=
  ∀ (j : Nat) (v : Value), vs[j]? = some v → w.ownsRow base 9 1 v (inShard j zs).length (strs (inShard j zs))
set_option maxRecDepth 100000 in
set_option maxHeartbeats 2000000 in
theorem shard_parts (a : Option Addr) (cap : Nat) (zs : List Tx) (hreach : zs.length ≤ 1000000000) (w : World) (hI : Strs w.heap.size w (.slice a zs.length cap) zs) :
    Calls Try.prog 22 #[.slice a zs.length cap] w fun e W' => ∃ v vs, e = .returned v ∧
      W'.ownsRow w.heap.size 29 1 v 8 vs ∧ PartsAt W' w.heap.size zs vs ∧ Only [] w W' := by
  obtain ⟨i0, hi0, hz0, hz1, hz2⟩ := info_parts info_strings
  have HI := Lib.hid hI
  clear hI
  go_enter Try.func22, Try.ntmps22
  go_wp2_with fail
  go_loopw [3, 5] (fun r i wr => ∃ (k : Nat) (rv : Value) (vs : List Value), k ≤ 8 ∧ i = .int .i64 k ∧ rv = r ∧ Hid (wr.ownsRow w.heap.size 29 1 rv k vs) ∧ Hid (PartsAt wr w.heap.size zs vs) ∧ Only [] w wr) (fun _ i _ => 8 - (intOf i).toNat)
  case atStart => exact ⟨0, _, [], by omega, rfl, rfl, World.ownsRow_nil _ _ _ _, (fun j v h => by simp at h), Only.refl _ _⟩
  case round =>
    obtain ⟨k, rv, vs, hk, rfl, hrv, hr, hp, ho⟩ := hrel
    subst hrv
    by_cases hlt : k < 8
    · have hlt' : (k : Int) < 8 := by omega
      have hsz := ho.size
      have HC := Lib.hid (shard_part a cap k zs hreach wr ((HI.out.only ho (Nat.le_refl _)).more hsz))
      go_wp2_with fail
      refine HC.out.mono ?_
      rintro e w1 ⟨v, rfl, hv, -, ho1⟩
      have HV := Lib.hid (own_lower hv hsz)
      have HR := Lib.hid (own_only hr.out ho1 (by simp))
      have HP : Hid (PartsAt w1 w.heap.size zs vs) := fun j u h => own_only (hp.out j u h) ho1 (by simp)
      have hoB := ho.tr ho1
      obtain ⟨A1, c1, rfl⟩ := (SlAt.of_own hv).shape
      have hsz1 := hoB.size
      clear hv ho1 hr hp HC
      have hvl : vs.length = k := by have := HR.out.1; omega
      go_wp2_with (at_builtin; refine wpList_app rfl _ _ 30 rfl w.heap.size 29 i0 (.slice none 0 0) 1 24 Try.underlying30 hi0 hz0 hz1 hz2 rfl (by decide) w1 rv _ _ rfl HR.out 1 1 [.slice A1 (inShard k zs).length c1] rfl rfl (by simp [Value.oneCell']) (by simp only [maxLen]; omega) (by omega) hsz1 ?_)
      intro v' w2 hown' hgrow _
      have ho2 : Only [] w w2 := hoB.grown hgrow (fun g e => .inr (HR.out.lt g e).1)
      have HO2 := Lib.hid hown'
      have HP2 : Hid (PartsAt w2 w.heap.size zs (vs ++ [.slice A1 (inShard k zs).length c1])) := fun j u h => by
        by_cases hj : j < vs.length
        · rw [List.getElem?_append_left hj] at h
          exact (HP.out j u h).kept hgrow (own_own_ne' (HP.out j u h) HR.out (by decide))
        · rw [List.getElem?_append_right (by omega)] at h
          have hjk : j = k := by
            have := (List.getElem?_eq_some_iff.1 h).1
            simp at this; omega
          subst hjk
          rw [hvl, Nat.sub_self] at h
          obtain rfl : Value.slice A1 (inShard j zs).length c1 = u := by simpa using h
          exact HV.out.kept hgrow (own_own_ne' HV.out HR.out (by decide))
      clear hown' hgrow
      go_wp2_with fail
      go_roundw
      case rel => exact ⟨k + 1, _, _, by omega, by go_num, rfl, HO2, HP2, ho2⟩
      case measure => simp [intOf]; omega
    · have hd0 : decide ((k : Int) < 8) = false := by simp; omega
      obtain rfl : k = 8 := by omega
      go_wp2_with fail
      go_ret
      exact ⟨_, _, rfl, hr.out, hp.out, ho⟩
end Go.Proofs.Ytlonaniomnalnaa
