/-
  The walk over CodecFrames.
-/
import Derived.Test.YtojhbhdlbbmghaaShown1
namespace Go.Proofs.Ytojhbhdlbbmghaa
open Go.RowKit
set_option maxRecDepth 100000 in
set_option maxHeartbeats 1000000 in
theorem codecFrames_walk (W : World) (s : ByteArray) (hs : s.size ≤ maxLen) (t : ByteArray) (ht : t.size ≤ maxLen) :
    Calls Try.prog 4 #[.string s, .string t] W fun e W' => e = .returned (.bool true) ∧ Only [] W W' := by
  obtain ⟨ls, rfl, hs'⟩ := str_of s
  obtain ⟨lt, rfl, ht'⟩ := str_of t
  rw [hs'] at hs
  rw [ht'] at ht
  clear hs' ht'
  unfold maxLen at hs ht
  by_cases h1 : ls.length ≤ 70000
  · have hd1 : decide ((70000 : Int) < ls.length) = false := by simp; omega
    by_cases h2 : lt.length ≤ 3000
    · have hd2 : decide ((3000 : Int) < lt.length) = false := by simp; omega
      go_enter Try.func4, Try.ntmps4
      go_wp2_with fail
      refine (shown1 W).mono ?_
      rintro e w1 ⟨rfl, ho1⟩
      go_wp2_with fail
      obtain ⟨a, n, hfr⟩ : ∃ a n, frE ls = (a, n) := ⟨_, _, rfl⟩
      obtain ⟨b, m, k, hun⟩ : ∃ b m k, unE lt = (b, m, k) := ⟨_, _, _, rfl⟩
      refine (codec_Frame' ls _ (by omega) a n hfr).mono ?_
      rintro e w2 ⟨rfl, ho2⟩
      go_wp2_with fail
      refine (ref_Frame ls _ (by omega) a n hfr).mono ?_
      rintro e w3 ⟨rfl, ho3⟩
      go_wp2_with fail
      refine (codec_Unframe' lt _ (by omega) b m k hun).mono ?_
      rintro e w4 ⟨rfl, ho4⟩
      go_wp2_with fail
      refine (ref_Unframe' lt _ (by omega) b m k hun).mono ?_
      rintro e w5 ⟨rfl, ho5⟩
      go_wp2_with fail
      refine (codec_Crc' lt _ (by omega)).mono ?_
      rintro e w6 ⟨rfl, rfl⟩
      go_wp2_with fail
      refine (ref_Crc lt _ (by omega)).mono ?_
      rintro e w6 ⟨rfl, rfl⟩
      go_wp2_with fail
      go_ret
      exact ⟨rfl, (((ho1.tr0 ho2).tr0 ho3).tr0 ho4).tr0 ho5⟩
    · have hd2 : decide ((3000 : Int) < lt.length) = true := by simp; omega
      go_enter Try.func4, Try.ntmps4
      go_wp2_with fail
      refine (shown1 W).mono ?_
      rintro e w1 ⟨rfl, ho1⟩
      go_wp2_with fail
      go_ret
      exact ⟨rfl, ho1⟩
  · have hd1 : decide ((70000 : Int) < ls.length) = true := by simp; omega
    go_enter Try.func4, Try.ntmps4
    go_wp2_with fail
    refine (shown1 W).mono ?_
    rintro e w1 ⟨rfl, ho1⟩
    go_wp2_with fail
    go_ret
    exact ⟨rfl, ho1⟩
end Go.Proofs.Ytojhbhdlbbmghaa
