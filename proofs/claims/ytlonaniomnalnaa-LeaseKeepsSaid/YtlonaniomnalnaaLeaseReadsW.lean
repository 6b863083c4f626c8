/-
  LeaseReads: the walk.
-/
import Derived.Test.YtlonaniomnalnaaUr16
namespace Go.Proofs.Ytlonaniomnalnaa
open Go.RowKit
theorem unt_none {T : World → Nat → Nat → Tb → Prop} {P : Program} {f : FuncId} {s : List UInt8} {w : World} {args : Array Value} (h : Calls P f args w (UnT T w s)) (hu : unT s = none) :
    Calls P f args w fun e w' => e = .returned (.tuple #[.pointer none, .bool false]) ∧ Only [] w w' :=
  h.mono fun e w' ⟨ho, hh⟩ => by
    rcases hh with ⟨_, he⟩ | ⟨t, _, ht, _⟩
    · exact ⟨he, ho⟩
    · rw [hu] at ht; cases ht
theorem unt_some {T : World → Nat → Nat → Tb → Prop} {P : Program} {f : FuncId} {s : List UInt8} {w : World} {args : Array Value} {t : Tb} (h : Calls P f args w (UnT T w s)) (hu : unT s = some t) :
    Calls P f args w fun e w' => ∃ (b : Nat), e = .returned (.tuple #[.pointer (some ⟨b, 0, none⟩), .bool true]) ∧ T w' w.heap.size b t ∧ Only [] w w' :=
  h.mono fun e w' ⟨ho, hh⟩ => by
    rcases hh with ⟨hn, _⟩ | ⟨t', b, ht, he, hT⟩
    · rw [hu] at hn; cases hn
    · rw [hu] at ht
      injection ht with ht
      subst ht
      exact ⟨b, he, hT, ho⟩
set_option maxRecDepth 100000 in
set_option maxHeartbeats 2000000 in
theorem leaseReads_walk (W : World) (s : ByteArray) (hz : s.size ≤ maxLen) :
    Calls Try.prog 13 #[.string s] W fun e W' => e = .returned (.bool true) ∧ Only [] W W' := by
  obtain ⟨l, rfl, hsz⟩ := str_of s
  rw [hsz] at hz
  clear hsz
  unfold maxLen at hz
  by_cases hl : l.length ≤ 1000
  · have hd : decide ((1000 : Int) < l.length) = false := by simp; omega
    have CT := Lib.hid (fun w => lease_unpack l w (by omega))
    have CR := Lib.hid (fun w => ref_unpack l w (by omega))
    cases hu : unT l with
    | none =>
      have HU := Lib.hid hu
      clear hu
      go_enter Try.func13, Try.ntmps13
      go_wp2_with fail
      refine (shown16 W).mono ?_
      rintro e w1 ⟨rfl, ho1⟩
      go_wp2_with fail
      refine (unt_none (CT.out _) HU.out).mono ?_
      rintro e w2 ⟨rfl, ho2⟩
      go_wp2_with fail
      refine (unt_none (CR.out _) HU.out).mono ?_
      rintro e w3 ⟨rfl, ho3⟩
      go_wp2_with fail
      go_ret
      exact ⟨rfl, (ho1.tr0 ho2).tr0 ho3⟩
    | some t =>
      obtain ⟨hbytes, hfit, hlen, -⟩ := unT_some hu
      have HU := Lib.hid hu
      have HPK := Lib.hid hbytes
      clear hu hbytes
      go_enter Try.func13, Try.ntmps13
      go_wp2_with fail
      refine (shown16 W).mono ?_
      rintro e w1 ⟨rfl, ho1⟩
      go_wp2_with fail
      refine (unt_some (CT.out _) HU.out).mono ?_
      rintro e w2 ⟨b, rfl, hT, ho2⟩
      have HT := Lib.hid hT.2
      clear hT
      go_wp2_with fail
      refine (unt_some (CR.out _) HU.out).mono ?_
      rintro e w3 ⟨b', rfl, ⟨v', hR⟩, ho3⟩
      have CA := Lib.hid (alike16 _ b b' v' t w3 (HT.out.only ho3 (by simp)) hR hfit)
      have CP : Hid (∀ w', Only [] w3 w' → Calls Try.prog 46 #[.pointer (some ⟨b, 0, none⟩)] w' fun e w2 => e = .returned (.string ⟨l.toArray⟩) ∧ Only [] w' w2) := fun w' ho' => by
        have := lease_pack b t w' ((HT.out.only ho3 (by simp)).only ho' (by simp)) hlen hfit
        rw [← HPK.out] at this
        exact this
      clear hR
      go_wp2_with fail
      refine CA.out.mono ?_
      rintro e w4 ⟨rfl, ho4⟩
      go_wp2_with fail
      refine (CP.out _ ho4).mono ?_
      rintro e w5 ⟨rfl, ho5⟩
      go_wp2_with fail
      go_ret
      exact ⟨by simp, (((ho1.tr0 ho2).tr0 ho3).tr0 ho4).tr0 ho5⟩
  · have hd : decide ((1000 : Int) < l.length) = true := by simp; omega
    go_enter Try.func13, Try.ntmps13
    go_wp2_with fail
    refine (shown16 W).mono ?_
    rintro e w1 ⟨rfl, ho1⟩
    go_wp2_with fail
    go_ret
    exact ⟨rfl, ho1⟩
end Go.Proofs.Ytlonaniomnalnaa
