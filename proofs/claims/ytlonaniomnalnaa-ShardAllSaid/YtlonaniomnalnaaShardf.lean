/-
  Chapter 14: the document's Part; count; Parts.
-/
import Derived.Test.YtlonaniomnalnaaSharde
namespace Go.Proofs.Ytlonaniomnalnaa
open Go.RowKit

theorem strs_len (l : List Tx) : (strs l).length = l.length := by simp [strs]
theorem Strs.own {w : World} {base : Nat} {e : TypeId} {v : Value} {l : List Tx} (h : w.ownsRow base e 1 v l.length (strs l)) : Strs w.heap.size w v l := Strs.of_sl (SlAt.of_own h)
theorem Strs.only {w w' : World} {n₀ : Nat} {v : Value} {l : List Tx} (h : Strs n₀ w v l) (ho : Only [] w w') (hn : n₀ ≤ w.heap.size) : Strs n₀ w' v l := h.below (ho.below.mono hn)
theorem Strs.cells {w : World} {n₀ : Nat} {A : Option Addr} {c : Nat} {l : List Tx} (h : Strs n₀ w (.slice A l.length c) l) (hl : 0 < l.length) :
    ∃ b off, A = some ⟨b, off, none⟩ ∧ b < n₀ ∧ ∀ j x, l[j]? = some x → w.cell? ⟨b, off + j, none⟩ = some (sv x) := by
  obtain ⟨A', c', e, h⟩ := h
  injection e with e1 e2 e3
  subst e1
  exact h hl
set_option maxRecDepth 100000 in
set_option maxHeartbeats 2000000 in
theorem ref_part (a : Option Addr) (cap : Nat) (m : Int) (zs : List Tx) (hreach : zs.length ≤ 1000000000) (w : World) (hI : Strs w.heap.size w (.slice a zs.length cap) zs) :
    Calls Try.prog 25 #[.slice a zs.length cap, .int .i64 m] w fun e W' => ∃ v, e = .returned v ∧
      W'.ownsRow w.heap.size 9 1 v (inShard m zs).length (strs (inShard m zs)) ∧ Only [] w W' := by
  obtain ⟨i0, hi0, hz0, hz1, hz2⟩ := info_parts info_string
  have HI := Lib.hid hI
  clear hI
  go_enter Try.func25, Try.ntmps25
  go_wp2_with fail
  go_loopw [5, 6] (fun r i wr => ∃ (k : Nat) (rv : Value), k ≤ zs.length ∧ i = .int .i64 k ∧ rv = r ∧ Hid (wr.ownsRow w.heap.size 9 1 rv (inShard m (zs.take k)).length (strs (inShard m (zs.take k)))) ∧ Only [] w wr) (fun _ i _ => zs.length - (intOf i).toNat)
  case atStart => exact ⟨0, _, by omega, rfl, rfl, World.ownsRow_nil _ _ _ _, Only.refl _ _⟩
  case round =>
    obtain ⟨k, rv, hk, rfl, hrv, hr, ho⟩ := hrel
    subst hrv
    by_cases hlt : k < zs.length
    · have hlt' : (k : Int) < (zs.length : Int) := by omega
      have hk1 := List.getElem?_eq_getElem hlt
      revert hk1
      generalize zs[k] = x
      intro hk1
      obtain ⟨b, off, rfl, hb, hc⟩ := HI.out.cells (by omega)
      have q0 : wr.cell? ⟨b, off + k, none⟩ = some (.string ⟨x.1.toArray⟩) := (ho.cell (p := ⟨b, off + k, none⟩) hb (by simp)).trans (hc k x hk1)
      have hT : zs.take (k + 1) = zs.take k ++ [x] := by rw [List.take_add_one, hk1]; rfl
      have HC := Lib.hid (ref_of14 x.1 wr x.2)
      have hfl : (inShard m (zs.take k)).length ≤ k := Nat.le_trans (List.length_filter_le _ _) (by rw [List.length_take]; omega)
      have hsz := ho.size
      clear hc hk1
      by_cases hm : (shardL x.1 : Int) = m
      · have HE := Lib.hid (inShard_hit (zs.take k) hm)
        have HTT := Lib.hid hT
        have hq : ((shardL x.1 : Int) == m) = true := by simpa using hm
        clear hT hm
        go_wp2_with (first
          | (go_at_call 21; refine HC.out.mono ?_; rintro e w' ⟨rfl, rfl⟩)
          | (at_builtin; go_loud (refine wpList_app rfl _ _ 29 rfl w.heap.size 9 i0 (.string ⟨#[]⟩) 1 16 Try.underlying29 hi0 hz0 hz1 hz2 rfl (by decide) wr rv _ _ rfl hr.out 1 1 [.string ⟨x.1.toArray⟩] rfl rfl (by simp [Value.oneCell']) (by simp only [maxLen]; omega) (by omega) hsz ?_)))
        intro v' w2 hown' hgrow _
        have ho2 : Only [] w w2 := ho.grown hgrow (fun g e => .inr (hr.out.lt g e).1)
        have HO2 : Hid (w2.ownsRow w.heap.size 9 1 v' (inShard m (zs.take (k + 1))).length (strs (inShard m (zs.take (k + 1))))) := by
          show World.ownsRow _ _ _ _ _ _ _
          rw [HTT.out, HE.out]
          simpa [strs] using hown'
        clear hown' hgrow
        go_wp2_with fail
        go_roundw
        case rel => exact ⟨k + 1, _, by omega, by go_num, rfl, HO2, ho2⟩
        case measure => simp [intOf]; omega
      · have hq : ((shardL x.1 : Int) == m) = false := by simpa using hm
        have HE : Hid (inShard m (zs.take (k + 1)) = inShard m (zs.take k)) := by show _ = _; rw [hT]; exact inShard_miss _ hm
        clear hT hm
        go_wp2_with (go_at_call 21; refine HC.out.mono ?_; rintro e w' ⟨rfl, rfl⟩)
        go_roundw
        case rel => exact ⟨k + 1, _, by omega, by go_num, rfl, by show World.ownsRow _ _ _ _ _ _ _; rw [HE.out]; exact hr.out, ho⟩
        case measure => simp [intOf]; omega
    · have hd0 : decide ((k : Int) < (zs.length : Int)) = false := by simp; omega
      obtain rfl : k = zs.length := by omega
      rw [List.take_length] at hr
      go_wp2_with fail
      go_ret
      exact ⟨_, rfl, hr.out, ho⟩

def cnt (l : List Tx) (s : Tx) : Nat := (l.filter fun x => decide (x = s)).length
theorem cnt_take (l : List Tx) (s x : Tx) (k : Nat) (h : l[k]? = some x) : cnt (l.take (k + 1)) s = cnt (l.take k) s + (if x = s then 1 else 0) := by
  unfold cnt
  rw [List.take_add_one, h, List.filter_append, List.length_append]
  by_cases e : x = s <;> simp [e]
set_option maxRecDepth 100000 in
set_option maxHeartbeats 1000000 in
theorem count14 (n₀ : Nat) (v : Value) (l : List Tx) (s : Tx) (w : World) (hl : l.length ≤ 1000000000) (hv : Strs n₀ w v l) :
    Calls Try.prog 26 #[v, .string ⟨s.1.toArray⟩] w fun e w' => e = .returned (.int .i64 (cnt l s)) ∧ w = w' := by
  have HV := Lib.hid hv
  obtain ⟨A, c, rfl, -⟩ := hv
  go_enter Try.func26, Try.ntmps26
  go_wp2_with fail
  go_loop [5, 6] (fun n i => ∃ k : Nat, k ≤ l.length ∧ i = .int .i64 k ∧ n = .int .i64 (cnt (l.take k) s)) (fun _ i => l.length - (intOf i).toNat)
  case atStart => exact ⟨0, by omega, rfl, rfl⟩
  case round =>
    obtain ⟨k, hk, rfl, rfl⟩ := hrel
    have hcl : cnt (l.take k) s ≤ k := Nat.le_trans (List.length_filter_le _ _) (by rw [List.length_take]; omega)
    by_cases hlt : k < l.length
    · have hlt' : (k : Int) < (l.length : Int) := by omega
      have hk1 := List.getElem?_eq_getElem hlt
      revert hk1
      generalize l[k] = x
      intro hk1
      obtain ⟨b, off, rfl, hb, hc⟩ := HV.out.cells (by omega)
      have q0 : w.cell? ⟨b, off + k, none⟩ = some (.string ⟨x.1.toArray⟩) := hc k x hk1
      have HE := Lib.hid (cnt_take l s x k hk1)
      clear hc hk1
      by_cases hx : x = s
      · subst hx
        rw [if_pos rfl] at HE
        go_wp2_with fail
        go_round
        case rel => exact ⟨k + 1, by omega, by go_num, by rw [HE.out]; go_num⟩
        case measure => simp [intOf]; omega
      · rw [if_neg hx] at HE
        have hne : (x.1 == s.1) = false := by simpa using sv_ne hx
        go_wp2_with fail
        go_round
        case rel => exact ⟨k + 1, by omega, by go_num, by rw [HE.out]; rfl⟩
        case measure => simp [intOf]; omega
    · have hd0 : decide ((k : Int) < (l.length : Int)) = false := by simp; omega
      obtain rfl : k = l.length := by omega
      rw [List.take_length]
      go_wp2_with fail
      go_ret
      exact ⟨rfl, rfl⟩
end Go.Proofs.Ytlonaniomnalnaa
