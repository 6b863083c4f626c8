/-
  The walk over SessionReads.
-/
import Derived.Test.YtojhbhdlbbmghaaUnp15b
namespace Go.Proofs.Ytojhbhdlbbmghaa
open Go.RowKit
theorem un_none {T : World → Nat → Nat → Value → List Ses → Int → Prop} {P : Program} {f : FuncId} {s : List UInt8} {w : World} {args : Array Value} (h : Calls P f args w (UnP T w s)) (hu : unS s = none) :
    Calls P f args w fun e w' => e = .returned (.tuple #[.pointer none, .bool false]) ∧ Only [] w w' :=
  h.mono fun e w' ⟨ho, hh⟩ => by
    rcases hh with ⟨_, he⟩ | ⟨t, _, _, ht, _⟩
    · exact ⟨he, ho⟩
    · rw [hu] at ht; cases ht
theorem un_some {T : World → Nat → Nat → Value → List Ses → Int → Prop} {P : Program} {f : FuncId} {s : List UInt8} {w : World} {args : Array Value} {t : TS} (h : Calls P f args w (UnP T w s)) (hu : unS s = some t) :
    Calls P f args w fun e w' => ∃ (b : Nat) (v : Value), e = .returned (.tuple #[.pointer (some ⟨b, 0, none⟩), .bool true]) ∧ T w' w.heap.size b v t.l t.ever ∧ Only [] w w' :=
  h.mono fun e w' ⟨ho, hh⟩ => by
    rcases hh with ⟨hn, _⟩ | ⟨t', b, v, ht, he, hT⟩
    · rw [hu] at hn; cases hn
    · rw [hu] at ht
      injection ht with ht
      subst ht
      exact ⟨b, v, he, hT, ho⟩
set_option maxRecDepth 100000 in
set_option maxHeartbeats 2000000 in
theorem sessionReads_walk (W : World) (s : ByteArray) (hz : s.size ≤ maxLen) :
    Calls Try.prog 16 #[.string s] W fun e W' => e = .returned (.bool true) ∧ Only [] W W' := by
  obtain ⟨l, rfl, hsz⟩ := str_of s
  rw [hsz] at hz
  clear hsz
  unfold maxLen at hz
  by_cases hl : l.length ≤ 3000
  · have hd : decide ((3000 : Int) < l.length) = false := by simp; omega
    have CT := Lib.hid (fun w => ses_unpack l w (by omega))
    have CR := Lib.hid (fun w => ref_unpack l w (by omega))
    cases hu : unS l with
    | none =>
      have HU := Lib.hid hu
      clear hu
      go_enter Try.func16, Try.ntmps16
      go_wp2_with fail
      refine (shown15 W).mono ?_
      rintro e w1 ⟨rfl, ho1⟩
      go_wp2_with fail
      refine (un_none (CT.out _) HU.out).mono ?_
      rintro e w2 ⟨rfl, ho2⟩
      go_wp2_with fail
      refine (un_none (CR.out _) HU.out).mono ?_
      rintro e w3 ⟨rfl, ho3⟩
      go_wp2_with fail
      go_ret
      exact ⟨rfl, (ho1.tr0 ho2).tr0 ho3⟩
    | some t =>
      obtain ⟨hw, hl8, hfit, hpk⟩ := unS_fit (by omega) hu
      have HU := Lib.hid hu
      have HPK := Lib.hid hpk
      clear hu hpk
      go_enter Try.func16, Try.ntmps16
      go_wp2_with fail
      refine (shown15 W).mono ?_
      rintro e w1 ⟨rfl, ho1⟩
      go_wp2_with fail
      refine (un_some (CT.out _) HU.out).mono ?_
      rintro e w2 ⟨b, v, rfl, hT, ho2⟩
      have HT := Lib.hid (TbV.s hT)
      clear hT
      go_wp2_with fail
      refine (un_some (CR.out _) HU.out).mono ?_
      rintro e w3 ⟨b', v', rfl, hR, ho3⟩
      have CA := Lib.hid (alike15 _ b _ b' v' t.l t.ever w3 (HT.out.only ho3) hR (by omega) hw hfit)
      have CP : Hid (∀ w', Only [] w3 w' → Calls Try.prog 56 #[.pointer (some ⟨b, 0, none⟩)] w' fun e w2 => e = .returned (.string ⟨l.toArray⟩) ∧ Only [] w' w2) := fun w' ho' => by
        have := tbs_pack _ b t.l t.ever w' ((HT.out.only ho3).only ho') (by omega) hw hfit
        rw [HPK.out] at this
        exact this
      clear hR
      go_wp2_with fail
      refine CA.out.mono ?_
      rintro e w4 ⟨rfl, ho4⟩
      go_wp2_with fail
      refine (CP.out _ ho4).mono ?_
      rintro e w5 ⟨rfl, ho5⟩
      go_wp2_with fail
      go_ret
      exact ⟨by simp, (((ho1.tr0 ho2).tr0 ho3).tr0 ho4).tr0 ho5⟩
  · have hd : decide ((3000 : Int) < l.length) = true := by simp; omega
    go_enter Try.func16, Try.ntmps16
    go_wp2_with fail
    refine (shown15 W).mono ?_
    rintro e w1 ⟨rfl, ho1⟩
    go_wp2_with fail
    go_ret
    exact ⟨rfl, ho1⟩
end Go.Proofs.Ytojhbhdlbbmghaa
