/-
  The walk over CodecNumbers.
-/
import Derived.Test.YtojhbhdlbbmghaaShown1
import Derived.Test.YtojhbhdlbbmghaaWf
namespace Go.Proofs.Ytojhbhdlbbmghaa
open Go.RowKit
theorem rdV_parts (o : Option (Int × List UInt8)) : ∃ (a : Int) (r : List UInt8) (ok : Bool), rdV o = .tuple #[.int .i64 a, .string ⟨r.toArray⟩, .bool ok] := by
  rcases o with _ | ⟨a, r⟩
  · exact ⟨0, [], false, rfl⟩
  · exact ⟨a, r, true, rfl⟩
set_option maxRecDepth 100000 in
set_option maxHeartbeats 1000000 in
theorem codecNumbers_walk (W : World) (n : Int) (hn' : (Lit.int .i64 n).wf = true) (m : Int) (hm' : (Lit.int .i64 m).wf = true) (s : ByteArray) (hs : s.size ≤ maxLen) :
    Calls Try.prog 3 #[.int .i64 n, .int .i64 m, .string s] W fun e W' => e = .returned (.bool true) ∧ Only [] W W' := by
  have hn := wide64_of_wf hn'
  have hm := wide64_of_wf hm'
  obtain ⟨ls, rfl, hs'⟩ := str_of s
  rw [hs'] at hs
  clear hs'
  unfold maxLen at hs
  by_cases h1 : ls.length ≤ 3000
  · have hd1 : decide ((3000 : Int) < ls.length) = false := by simp; omega
    obtain ⟨a, r, ok, hr⟩ := rdV_parts (rdI ls)
    have c1 := fun w => codec_toInt ls w (by omega)
    have c2 := fun w => ref_toInt ls w (by omega)
    have c3 := fun w : World => codec_int _ [n, m] _ (SlAt.lit w 3 [.int .i64 n, .int .i64 m] 2 1 rfl (by decide)) (by intro x hx; simp at hx; rcases hx with rfl | rfl <;> assumption) (by simp)
    have hI : isb [n, m] = ib n ++ ib m := by unfold isb; simp
    have hl1 := ib_length n hn
    have hl2 := ib_length m hm
    rw [hr] at c1 c2
    rw [hI] at c3
    have c4 := fun w => ref_int n w hn
    have c5 := fun w => ref_int m w hm
    have C1 := Lib.hid c1; have C2 := Lib.hid c2; have C3 := Lib.hid c3; have C4 := Lib.hid c4; have C5 := Lib.hid c5
    obtain ⟨x, hx⟩ : ∃ x, ib n = x := ⟨_, rfl⟩
    obtain ⟨y, hy⟩ : ∃ y, ib m = y := ⟨_, rfl⟩
    rw [hx] at C3 C4 hl1
    rw [hy] at C3 C5 hl2
    clear c1 c2 c3 c4 c5 hI hr hx hy
    go_enter Try.func3, Try.ntmps3
    go_wp2_with fail
    refine (shown1 W).mono ?_
    rintro e w1 ⟨rfl, ho1⟩
    go_wp2_with fail
    refine (C1.out _).mono ?_
    rintro e w2 ⟨rfl, ho2⟩
    go_wp2_with fail
    refine (C2.out _).mono ?_
    rintro e w3 ⟨rfl, ho3⟩
    go_wp2_with fail
    refine (C3.out _).mono ?_
    rintro e w4 ⟨rfl, ho4⟩
    go_wp2_with fail
    refine (C4.out _).mono ?_
    rintro e w5 ⟨rfl, ho5⟩
    go_wp2_with fail
    refine (C5.out _).mono ?_
    rintro e w6 ⟨rfl, ho6⟩
    have hcat := ba_append x y
    have hcl := ba_toList (x ++ y)
    go_wp2_with fail
    go_ret
    exact ⟨rfl, ((((((ho1.tr0 ho2).tr0 ho3).alloc _).tr0 ho4).tr0 ho5).tr0 ho6)⟩
  · have hd1 : decide ((3000 : Int) < ls.length) = true := by simp; omega
    go_enter Try.func3, Try.ntmps3
    go_wp2_with fail
    refine (shown1 W).mono ?_
    rintro e w1 ⟨rfl, ho1⟩
    go_wp2_with fail
    go_ret
    exact ⟨rfl, ho1⟩
end Go.Proofs.Ytojhbhdlbbmghaa
