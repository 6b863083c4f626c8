/-
  The walk over ShardOf.
-/
import Derived.Test.YtlonaniomnalnaaShown14
namespace Go.Proofs.Ytlonaniomnalnaa
open Go.RowKit
set_option maxRecDepth 100000 in
set_option maxHeartbeats 2000000 in
theorem shardOf_walk (W : World) (s : ByteArray) (hz : s.size ≤ maxLen) :
    Calls Try.prog 3 #[.string s] W fun e W' => e = .returned (.bool true) ∧ Only [] W W' := by
  obtain ⟨l, rfl, hsz⟩ := str_of s
  rw [hsz] at hz
  clear hsz
  unfold maxLen at hz
  by_cases hl : l.length ≤ 3000
  · have hd : decide ((3000 : Int) < l.length) = false := by simp; omega
    have C1 := Lib.hid (fun w => shard_name l w (by omega))
    have C2 := Lib.hid (fun w => ref_name14 l w (by omega))
    have C3 := Lib.hid (fun w => shard_hash l w (by omega))
    have C4 := Lib.hid (fun w => ref_hash14 l w (by omega))
    have C5 := Lib.hid (fun w => shard_of l w (by omega))
    have C6 := Lib.hid (fun w => ref_of14 l w (by omega))
    go_enter Try.func3, Try.ntmps3
    go_wp2_with fail
    refine (shown14 W).mono ?_
    rintro e w1 ⟨rfl, ho⟩
    go_wp2_with (first
      | (go_at_call 16; refine (C1.out _).mono ?_; rintro e w' ⟨rfl, rfl⟩)
      | (go_at_call 17; refine (C2.out _).mono ?_; rintro e w' ⟨rfl, rfl⟩)
      | (go_at_call 18; refine (C3.out _).mono ?_; rintro e w' ⟨rfl, rfl⟩)
      | (go_at_call 19; refine (C4.out _).mono ?_; rintro e w' ⟨rfl, rfl⟩)
      | (go_at_call 20; refine (C5.out _).mono ?_; rintro e w' ⟨rfl, rfl⟩)
      | (go_at_call 21; refine (C6.out _).mono ?_; rintro e w' ⟨rfl, rfl⟩))
    go_ret
    exact ⟨rfl, ho⟩
  · have hd : decide ((3000 : Int) < l.length) = true := by simp; omega
    go_enter Try.func3, Try.ntmps3
    go_wp2_with fail
    refine (shown14 W).mono ?_
    rintro e w1 ⟨rfl, ho⟩
    go_wp2_with fail
    go_ret
    exact ⟨rfl, ho⟩
end Go.Proofs.Ytlonaniomnalnaa
