/-
  The walk over CodecBack.
-/
import Derived.Test.YtojhbhdlbbmghaaShown1
import Derived.Test.YtojhbhdlbbmghaaWf
import Derived.Test.YtojhbhdlbbmghaaFramePlain
namespace Go.Proofs.Ytojhbhdlbbmghaa
open Go.RowKit
set_option maxRecDepth 100000 in
set_option maxHeartbeats 1000000 in
theorem codecBack_walk (W : World) (n : Int) (hn' : (Lit.int .i64 n).wf = true) (t : ByteArray) (ht : t.size ≤ maxLen) (s : ByteArray) (hs : s.size ≤ maxLen) :
    Calls Try.prog 10 #[.int .i64 n, .string t, .string s] W fun e W' => e = .returned (.bool true) ∧ Only [] W W' := by
  have hn := wide64_of_wf hn'
  obtain ⟨lt, rfl, ht'⟩ := str_of t
  obtain ⟨ls, rfl, hs'⟩ := str_of s
  rw [ht'] at ht
  rw [hs'] at hs
  clear ht' hs'
  unfold maxLen at ht hs
  by_cases h0 : lt.length ≤ 3000 ∧ ls.length ≤ 3000
  · obtain ⟨g1, g2⟩ := h0
    have hd1 : decide ((3000 : Int) < lt.length) = false := by simp; omega
    have hd2 : decide ((3000 : Int) < ls.length) = false := by simp; omega
    have hl1 := ib_length n hn
    have hl2 := tb_length lt (by omega)
    have hr1 : rdI (ib n ++ ls) = some (n, ls) := (rdI_iff _ _ _).2 ⟨hn, rfl⟩
    have hr2 : rdT (tb lt ++ ls) = some (lt, ls) := by
      unfold rdT
      rw [show rdI (tb lt ++ ls) = some ((lt.length : Int), lt ++ ls) from (rdI_iff _ _ _).2 ⟨⟨by omega, by omega⟩, by unfold tb; rw [List.append_assoc]⟩]
      simp only
      rw [if_pos ⟨by omega, by rw [List.length_append]; omega⟩]
      simp
    have hr3 : ∀ b, rdB (bb b ++ ls) = some (b, ls) := by intro b; cases b <;> rfl
    have hfr := frE_small lt (by omega)
    have hfl := frameL_length lt
    have hun := unE_frame lt ls (by omega)
    have c1 := fun w : World => codec_int _ [n] _ (SlAt.lit w 3 [.int .i64 n] 1 1 rfl (by decide)) (by intro x hx; simp at hx; subst hx; exact hn) (by simp)
    rw [show isb [n] = ib n from by unfold isb; simp] at c1
    have c2 := fun w => codec_toInt (ib n ++ ls) w (by rw [List.length_append]; omega)
    rw [hr1] at c2
    have c2 : ∀ w, Calls Try.prog 24 #[.string ⟨(ib n ++ ls).toArray⟩] w fun e w' => e = .returned (.tuple #[.int .i64 n, .string ⟨ls.toArray⟩, .bool true]) ∧ Only [] w w' := c2
    have c3 := fun w : World => codec_text _ [lt] _ (SlAt.lit w 9 [.string ⟨lt.toArray⟩] 1 1 rfl (by decide)) (by simp) (by unfold tsb; simp; omega)
    rw [show tsb [lt] = tb lt from by unfold tsb; simp] at c3
    have c4 := fun w => codec_toText (tb lt ++ ls) w (by rw [List.length_append]; omega)
    rw [hr2] at c4
    have c4 : ∀ w, Calls Try.prog 35 #[.string ⟨(tb lt ++ ls).toArray⟩] w fun e w' => e = .returned (.tuple #[.string ⟨lt.toArray⟩, .string ⟨ls.toArray⟩, .bool true]) ∧ Only [] w w' := c4
    obtain ⟨b, hb⟩ : ∃ b, (n.tmod 2 == 0) = b := ⟨_, rfl⟩
    have c5 := fun w => codec_toBool (bb b ++ ls) w (by rw [List.length_append]; unfold bb; simp; omega)
    rw [hr3] at c5
    have c5 : ∀ w, Calls Try.prog 37 #[.string ⟨(bb b ++ ls).toArray⟩] w fun e w' => e = .returned (.tuple #[.bool b, .string ⟨ls.toArray⟩, .bool true]) ∧ Only [] w w' := c5
    have c6 := fun w => codec_Frame' lt w (by omega) _ _ hfr
    have c7 := fun w => codec_Unframe' (frameL lt ++ ls) w (by rw [List.length_append]; omega) _ _ _ hun
    have C1 := Lib.hid c1; have C2 := Lib.hid c2; have C3 := Lib.hid c3; have C4 := Lib.hid c4; have C5 := Lib.hid c5; have C6 := Lib.hid c6; have C7 := Lib.hid c7
    obtain ⟨x, hx⟩ : ∃ x, ib n = x := ⟨_, rfl⟩
    obtain ⟨y, hy⟩ : ∃ y, tb lt = y := ⟨_, rfl⟩
    obtain ⟨z, hz⟩ : ∃ z, bb b = z := ⟨_, rfl⟩
    have hzl : z.length = 1 := by rw [← hz]; rfl
    obtain ⟨f, hf⟩ : ∃ f, frameL lt = f := ⟨_, rfl⟩
    rw [hx] at C1 C2 hl1
    rw [hy] at C3 C4 hl2
    rw [hz] at C5
    rw [hf] at C6 C7 hfl
    have CB : Hid (∀ w, Calls Try.prog 41 #[.bool b] w fun e w' => e = .returned (.string ⟨z.toArray⟩) ∧ w = w') := by show ∀ w, _; rw [← hz]; exact fun w => codec_bool b w
    clear c1 c2 c3 c4 c5 c6 c7 hr1 hr2 hr3 hfr hun hx hy hz hf
    obtain ⟨a, r, ok, hr, hok⟩ : ∃ (a : Int) (r : List UInt8) (ok : Bool), rdV (rdI ls) = .tuple #[.int .i64 a, .string ⟨r.toArray⟩, .bool ok] ∧ Hid (ok = true → Wide64 a ∧ ls = ib a ++ r) := by
      cases h : rdI ls with
      | none => exact ⟨0, [], false, rfl, fun h => by cases h⟩
      | some p => exact ⟨p.1, p.2, true, rfl, fun _ => (rdI_iff _ _ _).1 h⟩
    have c8 := fun w => codec_toInt ls w (by omega)
    rw [hr] at c8
    have C8 := Lib.hid c8
    obtain ⟨y, m, k, hu⟩ : ∃ y m k, unE ls = (y, m, k) := ⟨_, _, _, rfl⟩
    have c10 := fun w => codec_Unframe' ls w (by omega) _ _ _ hu
    have C10 := Lib.hid c10
    have hk : Hid ((k = 0 ∧ m ≤ ls.length ∧ frameL y = ls.take m ∧ y.length ≤ 65536) ∨ (k ≠ 0 ∧ y = [] ∧ m = 0)) := by
      by_cases h : k = 0
      · subst h
        obtain ⟨h1, h2, h3, h4⟩ := unE_ok _ _ _ hu
        exact .inl ⟨rfl, h3, h4, h2⟩
      · exact .inr ⟨h, unE_not _ _ _ _ hu h⟩
    clear c8 hr c10 hu
    go_enter Try.func10, Try.ntmps10
    go_wp2_with fail
    refine (shown1 W).mono ?_
    rintro e w1 ⟨rfl, ho1⟩
    go_wp2_with fail
    refine (C1.out _).mono ?_
    rintro e w2 ⟨rfl, ho2⟩
    go_wp2_with fail
    rw [ba_append]
    refine (C2.out _).mono ?_
    rintro e w3 ⟨rfl, ho3⟩
    go_wp2_with fail
    refine (C3.out _).mono ?_
    rintro e w4 ⟨rfl, ho4⟩
    go_wp2_with fail
    rw [ba_append]
    refine (C4.out _).mono ?_
    rintro e w5 ⟨rfl, ho5⟩
    go_wp2_with fail
    refine (CB.out _).mono ?_
    rintro e w6 ⟨rfl, rfl⟩
    go_wp2_with fail
    rw [ba_append]
    refine (C5.out _).mono ?_
    rintro e w6 ⟨rfl, ho6⟩
    go_wp2_with fail
    refine (C6.out _).mono ?_
    rintro e w7 ⟨rfl, ho7⟩
    go_wp2_with fail
    rw [ba_append]
    refine (C7.out _).mono ?_
    rintro e w8 ⟨rfl, ho8⟩
    have hlen : ((8 + (lt.length : Int)) == (f.length : Int)) = true := by simp; omega
    clear c2 c4 c5
    go_wp2_with fail
    clear hlen hb
    refine (C8.out _).mono ?_
    rintro e w9 ⟨rfl, ho9⟩
    have ho : Only [] W w9 := (((((((((ho1.alloc _).tr0 ho2).tr0 ho3).alloc _).tr0 ho4).tr0 ho5).tr0 ho6).tr0 ho7).tr0 ho8).tr0 ho9
    clear ho1 ho2 ho3 ho4 ho5 ho6 ho7 ho8 ho9
    cases ok with
    | false =>
      go_wp2_with fail
      rcases hk.out with ⟨rfl, hm, hfy, hyl⟩ | ⟨hk0, rfl, rfl⟩
      · refine (C10.out _).mono ?_
        rintro e wa ⟨rfl, hoa⟩
        have C11 := Lib.hid (fun w => codec_Frame' y w (by omega) _ _ (frE_small y hyl))
        have hcmp : (⟨ls.toArray⟩ : ByteArray).extract 0 m = ⟨(frameL y).toArray⟩ := by rw [str_from_start, hfy]
        obtain ⟨fy, hfy2⟩ : ∃ fy, frameL y = fy := ⟨_, rfl⟩
        rw [hfy2] at C11 hcmp
        clear hfy hfy2
        go_wp2_with fail
        refine (C11.out _).mono ?_
        rintro e wb ⟨rfl, hob⟩
        go_wp2_with fail
        go_ret
        exact ⟨rfl, (ho.tr0 hoa).tr0 hob⟩
      · refine (C10.out _).mono ?_
        rintro e wa ⟨rfl, hoa⟩
        have hkn : ((k : Int) == 0) = false := by simp; omega
        go_wp2_with fail
        go_ret
        exact ⟨rfl, ho.tr0 hoa⟩
    | true =>
      obtain ⟨ha, hls⟩ := hok.out rfl
      have c9 := fun w : World => codec_int _ [a] _ (SlAt.lit w 3 [.int .i64 a] 1 1 rfl (by decide)) (by intro x hx; simp at hx; subst hx; exact ha) (by simp)
      rw [show isb [a] = ib a from by unfold isb; simp] at c9
      have C9 := Lib.hid c9
      have hqr : (⟨(ib a).toArray⟩ : ByteArray) ++ ⟨r.toArray⟩ = ⟨ls.toArray⟩ := by rw [ba_append, ← hls]
      have hql := ib_length a ha
      have hrl : r.length ≤ 3000 := by have := congrArg List.length hls; rw [List.length_append] at this; omega
      obtain ⟨q, hq⟩ : ∃ q, ib a = q := ⟨_, rfl⟩
      rw [hq] at C9 hqr hql
      clear hq hls c9
      go_wp2_with fail
      refine (C9.out _).mono ?_
      rintro e w10 ⟨rfl, ho10⟩
      go_wp2_with fail
      have ho' := (ho.alloc _).tr0 ho10
      rcases hk.out with ⟨rfl, hm, hfy, hyl⟩ | ⟨hk0, rfl, rfl⟩
      · refine (C10.out _).mono ?_
        rintro e wa ⟨rfl, hoa⟩
        have C11 := Lib.hid (fun w => codec_Frame' y w (by omega) _ _ (frE_small y hyl))
        have hcmp : (⟨ls.toArray⟩ : ByteArray).extract 0 m = ⟨(frameL y).toArray⟩ := by rw [str_from_start, hfy]
        obtain ⟨fy, hfy2⟩ : ∃ fy, frameL y = fy := ⟨_, rfl⟩
        rw [hfy2] at C11 hcmp
        clear hfy hfy2
        go_wp2_with fail
        refine (C11.out _).mono ?_
        rintro e wb ⟨rfl, hob⟩
        go_wp2_with fail
        go_ret
        exact ⟨rfl, (ho'.tr0 hoa).tr0 hob⟩
      · refine (C10.out _).mono ?_
        rintro e wa ⟨rfl, hoa⟩
        have hkn : ((k : Int) == 0) = false := by simp; omega
        go_wp2_with fail
        go_ret
        exact ⟨rfl, ho'.tr0 hoa⟩
  · obtain ⟨x, y, hx, hy, hxyz⟩ : ∃ x y, decide ((3000 : Int) < lt.length) = x ∧ decide ((3000 : Int) < ls.length) = y ∧ (x = true ∨ (x = false ∧ y = true)) := by
      refine ⟨_, _, rfl, rfl, ?_⟩
      simp only [decide_eq_true_eq, decide_eq_false_iff_not]
      omega
    rcases hxyz with rfl | ⟨rfl, rfl⟩
    all_goals
      clear h0
      go_enter Try.func10, Try.ntmps10
      go_wp2_with fail
      refine (shown1 W).mono ?_
      rintro e w1 ⟨rfl, ho1⟩
      go_wp2_with fail
      go_ret
      exact ⟨rfl, ho1⟩
end Go.Proofs.Ytojhbhdlbbmghaa
