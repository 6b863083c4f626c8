/-
  Chapter 14: the examples.
-/
import Derived.Test.YtlonaniomnalnaaShardg
namespace Go.Proofs.Ytlonaniomnalnaa
open Go.RowKit

abbrev tA : Tx := ⟨[97], by simp⟩
abbrev tB : Tx := ⟨[98], by simp⟩
theorem Strs.lit {w : World} {e : TypeId} (l : List Tx) : Strs (w.heap.size + 1) (w.alloc (.cells (strs l).toArray e)) (.slice (some ⟨w.heap.size, 0, none⟩) l.length l.length) l :=
  ⟨_, _, rfl, fun _ => ⟨_, _, rfl, by omega, fun j x hx => by
    rw [Nat.zero_add]
    exact (Cells.new w e (strs l)).cell (k := j) (by simp [strs, hx])⟩⟩
theorem ex1 : hashL [] = 2166136261 := by kernel_rfl
theorem ex2 : hashL [97] = 3826002220 := by kernel_rfl
theorem ex3 : shardL [97] = 4 := by kernel_rfl
theorem ex3b : shardL [98] = 5 := by kernel_rfl
theorem ex4 : nameL [97, 32, 98] = false := by kernel_rfl
theorem ex5 : inShard 4 [tA, tB, tA] = [tA, tA] := by
  simp [inShard, ex3, ex3b]
set_option maxRecDepth 100000 in
set_option maxHeartbeats 2000000 in
theorem shown14 (w : World) : Calls Try.prog 15 #[] w fun e w' => e = .returned (.bool true) ∧ Only [] w w' := by
  have C1 := shard_hash [] w (by simp)
  have C2 := shard_hash [97] w (by simp)
  have C3 := shard_of [97] w (by simp)
  have C4 := shard_name [97, 32, 98] w (by simp)
  rw [ex1] at C1; rw [ex2] at C2; rw [ex3] at C3; rw [ex4] at C4
  have L1 := Strs.lit (w := w) (e := 9) [tA, tB, tA]
  have C5 := shard_part (some ⟨w.heap.size, 0, none⟩) 3 4 [tA, tB, tA] (by simp) (w.alloc (.cells (strs [tA, tB, tA]).toArray 9)) (L1.more (by simp))
  rw [ex5] at C5
  have C6 : Hid (∀ w1 v, Only [] (w.alloc (.cells (strs [tA, tB, tA]).toArray 9)) w1 → w1.ownsRow (w.alloc (.cells (strs [tA, tB, tA]).toArray 9)).heap.size 9 1 v [tA, tA].length (strs [tA, tA]) →
      Calls Try.prog 23 #[v, .slice (some ⟨w1.heap.size, 0, none⟩) 2 2] (w1.alloc (.cells (strs [tA, tA]).toArray 9)) fun e w' => e = .returned (.bool true) ∧ Only [] w w') := fun w1 v ho hv => by
    refine (same14 w1.heap.size (w1.heap.size + 1) v _ [tA, tA] [tA, tA] _ (by simp) (by simp) ((Strs.own hv).only ((Only.refl _ _).alloc _) (Nat.le_refl _)) (Strs.lit [tA, tA]) (by simp) (by simp)).mono ?_
    rintro e w' ⟨rfl, h⟩
    exact ⟨by simp, ((((Only.refl [] w).alloc _).tr ho).alloc _).tr h⟩
  have HC1 := Lib.hid C1; have HC2 := Lib.hid C2; have HC3 := Lib.hid C3; have HC4 := Lib.hid C4; have HC5 := Lib.hid C5
  clear C1 C2 C3 C4 C5 L1
  go_enter Try.func15, Try.ntmps15
  go_wp2_with fail
  refine HC1.out.mono ?_
  rintro e w' ⟨rfl, rfl⟩
  go_wp2_with fail
  refine HC2.out.mono ?_
  rintro e w' ⟨rfl, rfl⟩
  go_wp2_with fail
  refine HC3.out.mono ?_
  rintro e w' ⟨rfl, rfl⟩
  go_wp2_with fail
  refine HC4.out.mono ?_
  rintro e w' ⟨rfl, rfl⟩
  go_wp2_with fail
  refine HC5.out.mono ?_
  rintro e w1 ⟨v, rfl, hv, -, ho1⟩
  have HC7 := Lib.hid (C6.out _ v ho1 hv)
  obtain ⟨A, c, rfl⟩ := (SlAt.of_own hv).shape
  clear C6 hv ho1
  go_wp2_with fail
  refine HC7.out.mono ?_
  rintro e w2 ⟨rfl, ho2⟩
  go_wp2_with fail
  go_ret
  exact ⟨rfl, ho2⟩
end Go.Proofs.Ytlonaniomnalnaa
