/-
  The walk over CodecTexts.
-/
import Derived.Test.YtojhbhdlbbmghaaShown1
namespace Go.Proofs.Ytojhbhdlbbmghaa
open Go.RowKit
theorem rdTV_parts (o : Option (List UInt8 × List UInt8)) : ∃ (a r : List UInt8) (ok : Bool), rdTV o = .tuple #[.string ⟨a.toArray⟩, .string ⟨r.toArray⟩, .bool ok] := by
  rcases o with _ | ⟨a, r⟩
  · exact ⟨[], [], false, rfl⟩
  · exact ⟨a, r, true, rfl⟩
theorem rdBV_parts (o : Option (Bool × List UInt8)) : ∃ (a : Bool) (r : List UInt8) (ok : Bool), rdBV o = .tuple #[.bool a, .string ⟨r.toArray⟩, .bool ok] := by
  rcases o with _ | ⟨a, r⟩
  · exact ⟨false, [], false, rfl⟩
  · exact ⟨a, r, true, rfl⟩
set_option maxRecDepth 100000 in
set_option maxHeartbeats 1000000 in
theorem codecTexts_walk (W : World) (a : ByteArray) (ha : a.size ≤ maxLen) (b : ByteArray) (hb : b.size ≤ maxLen) (s : ByteArray) (hs : s.size ≤ maxLen) (c : Bool) :
    Calls Try.prog 9 #[.string a, .string b, .string s, .bool c] W fun e W' => e = .returned (.bool true) ∧ Only [] W W' := by
  obtain ⟨la, rfl, ha'⟩ := str_of a
  obtain ⟨lb, rfl, hb'⟩ := str_of b
  obtain ⟨ls, rfl, hs'⟩ := str_of s
  rw [ha'] at ha
  rw [hb'] at hb
  rw [hs'] at hs
  clear ha' hb' hs'
  unfold maxLen at ha hb hs
  by_cases h0 : la.length ≤ 3000 ∧ lb.length ≤ 3000 ∧ ls.length ≤ 3000
  · obtain ⟨g1, g2, g3⟩ := h0
    have hd1 : decide ((3000 : Int) < la.length) = false := by simp; omega
    have hd2 : decide ((3000 : Int) < lb.length) = false := by simp; omega
    have hd3 : decide ((3000 : Int) < ls.length) = false := by simp; omega
    obtain ⟨p, q, ok, hr⟩ := rdTV_parts (rdT ls)
    obtain ⟨p2, q2, ok2, hr2⟩ := rdBV_parts (rdB ls)
    have c1 := fun w => codec_toText ls w (by omega)
    have c2 := fun w => ref_toText ls w (by omega)
    have c3 := fun w => codec_toBool ls w (by omega)
    have c4 := fun w => ref_toBool ls w (by omega)
    rw [hr] at c1 c2
    rw [hr2] at c3 c4
    have hl1 := tb_length la (by omega)
    have hl2 := tb_length lb (by omega)
    have hI : tsb [la, lb] = tb la ++ tb lb := by unfold tsb; simp
    have c5 := fun w : World => codec_text _ [la, lb] _ (SlAt.lit w 9 [.string ⟨la.toArray⟩, .string ⟨lb.toArray⟩] 2 1 rfl (by decide)) (by simp) (by rw [hI, List.length_append]; omega)
    rw [hI] at c5
    have c6 := fun w => ref_text la w (by omega)
    have c7 := fun w => ref_text lb w (by omega)
    have C1 := Lib.hid c1; have C2 := Lib.hid c2; have C3 := Lib.hid c3; have C4 := Lib.hid c4; have C5 := Lib.hid c5; have C6 := Lib.hid c6; have C7 := Lib.hid c7
    obtain ⟨x, hx⟩ : ∃ x, tb la = x := ⟨_, rfl⟩
    obtain ⟨y, hy⟩ : ∃ y, tb lb = y := ⟨_, rfl⟩
    rw [hx] at C5 C6 hl1
    rw [hy] at C5 C7 hl2
    clear c1 c2 c3 c4 c5 c6 c7 hI hr hr2 hx hy
    go_enter Try.func9, Try.ntmps9
    go_wp2_with fail
    refine (shown1 W).mono ?_
    rintro e w1 ⟨rfl, ho1⟩
    go_wp2_with fail
    refine (C1.out _).mono ?_
    rintro e w2 ⟨rfl, ho2⟩
    go_wp2_with fail
    refine (C2.out _).mono ?_
    rintro e w3 ⟨rfl, ho3⟩
    go_wp2_with fail
    refine (C3.out _).mono ?_
    rintro e w4 ⟨rfl, ho4⟩
    go_wp2_with fail
    refine (C4.out _).mono ?_
    rintro e w5 ⟨rfl, ho5⟩
    go_wp2_with fail
    refine (C5.out _).mono ?_
    rintro e w6 ⟨rfl, ho6⟩
    go_wp2_with fail
    refine (C6.out _).mono ?_
    rintro e w7 ⟨rfl, ho7⟩
    go_wp2_with fail
    refine (C7.out _).mono ?_
    rintro e w8 ⟨rfl, ho8⟩
    have hcat := ba_append x y
    have hcl := ba_toList (x ++ y)
    go_wp2_with fail
    refine (codec_bool c _).mono ?_
    rintro e w9 ⟨rfl, rfl⟩
    go_wp2_with fail
    refine (ref_bool c _).mono ?_
    rintro e w9 ⟨rfl, rfl⟩
    go_wp2_with fail
    go_ret
    exact ⟨rfl, ((((((((ho1.tr0 ho2).tr0 ho3).tr0 ho4).tr0 ho5).alloc _).tr0 ho6).tr0 ho7).tr0 ho8)⟩
  · obtain ⟨x, y, z, hx, hy, hz, hxyz⟩ : ∃ x y z, decide ((3000 : Int) < la.length) = x ∧ decide ((3000 : Int) < lb.length) = y ∧ decide ((3000 : Int) < ls.length) = z ∧ (x = true ∨ (x = false ∧ y = true) ∨ (x = false ∧ y = false ∧ z = true)) := by
      refine ⟨_, _, _, rfl, rfl, rfl, ?_⟩
      simp only [decide_eq_true_eq, decide_eq_false_iff_not]
      omega
    rcases hxyz with rfl | ⟨rfl, rfl⟩ | ⟨rfl, rfl, rfl⟩
    all_goals
      clear h0
      go_enter Try.func9, Try.ntmps9
      go_wp2_with fail
      refine (shown1 W).mono ?_
      rintro e w1 ⟨rfl, ho1⟩
      go_wp2_with fail
      go_ret
      exact ⟨rfl, ho1⟩
end Go.Proofs.Ytojhbhdlbbmghaa
