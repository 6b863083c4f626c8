/-
  The document's texts and bools, written and read. (Printed by gen_tx.py from XRef1.)
-/
import Derived.Test.YtjfnkjpnjiobjaaTx
namespace Go.Proofs.Ytjfnkjpnjiobjaa
open Go.RowKit
set_option maxRecDepth 100000 in
theorem ref_text (s : List UInt8) (w : World) (hl : s.length ≤ 1000000000000) : Calls Try.prog 102 #[.string ⟨s.toArray⟩] w fun e w' => e = .returned (.string ⟨(tb s).toArray⟩) ∧ Only [] w w' := by
  have HI := Lib.hid (ref_int s.length w ⟨by omega, by omega⟩)
  have HL := Lib.hid (ib_length s.length ⟨by omega, by omega⟩)
  go_enter Try.func102, Try.ntmps102
  go_wp2_with fail
  refine HI.out.mono ?_
  rintro e w1 ⟨rfl, ho⟩
  have HL := HL.out
  go_wp2_with fail
  go_ret
  exact ⟨by unfold tb; rw [← ba_append]; rfl, ho⟩

set_option maxRecDepth 100000 in
theorem ref_toText (s : List UInt8) (w : World) (hl : s.length ≤ 1000000000000) :
    Calls Try.prog 133 #[.string ⟨s.toArray⟩] w fun e w' => e = .returned (rdTV (rdT s)) ∧ Only [] w w' := by
  have HC := Lib.hid (ref_toInt s w hl)
  go_enter Try.func133, Try.ntmps133
  go_wp2_with fail
  refine HC.out.mono ?_
  rintro e w1 ⟨he, ho⟩
  cases hr : rdI s with
  | none =>
    rw [hr] at he
    have he : e = .returned (.tuple #[.int .i64 0, .string ⟨#[]⟩, .bool false]) := he
    subst he
    have HR : Hid (rdT s = none) := by show _ = _; unfold rdT; rw [hr]
    clear hr
    go_wp2_with fail
    go_ret3
    exact ⟨by rw [HR.out]; rfl, ho⟩
  | some nr =>
    obtain ⟨n, r⟩ := nr
    rw [hr] at he
    have he : e = .returned (.tuple #[.int .i64 n, .string ⟨r.toArray⟩, .bool true]) := he
    subst he
    have hrl := rdI_length hr
    by_cases h0 : 0 ≤ n
    · by_cases h1 : n ≤ r.length
      · have HR : Hid (rdT s = some (r.take n.toNat, r.drop n.toNat)) := by show _ = _; unfold rdT; rw [hr]; exact if_pos ⟨h0, h1⟩
        obtain ⟨k, rfl⟩ : ∃ k : Nat, n = k := ⟨n.toNat, by omega⟩
        clear hr
        have hd : decide ((k : Int) < 0) = false := by simp
        have hd1 : decide ((r.length : Int) < k) = false := by simp; omega
        go_wp2_with fail
        go_quiet (fail)
        rw [str_to_end, str_from_start]
        go_wp2_with fail
        go_ret3
        exact ⟨by rw [HR.out]; rfl, ho.drewN _⟩
      · have HR : Hid (rdT s = none) := by show _ = _; unfold rdT; rw [hr]; exact if_neg fun h => h1 h.2
        clear hr
        have hd : decide (n < 0) = false := by simp; omega
        have hd1 : decide ((r.length : Int) < n) = true := by simp; omega
        go_wp2_with fail
        go_ret3
        exact ⟨by rw [HR.out]; rfl, ho⟩
    · have HR : Hid (rdT s = none) := by show _ = _; unfold rdT; rw [hr]; exact if_neg fun h => h0 h.1
      clear hr
      have hd : decide (n < 0) = true := by simp; omega
      go_wp2_with fail
      go_ret3
      exact ⟨by rw [HR.out]; rfl, ho⟩

def bb (b : Bool) : List UInt8 := [if b then 1 else 0]
def rdB : List UInt8 → Option (Bool × List UInt8)
  | [] => none
  | c :: r => if c.toNat ≤ 1 then some (c.toNat == 1, r) else none
def rdBV : Option (Bool × List UInt8) → Value
  | some (a, r) => .tuple #[.bool a, .string ⟨r.toArray⟩, .bool true]
  | none => .tuple #[.bool false, .string ⟨#[]⟩, .bool false]

set_option maxRecDepth 100000 in
theorem ref_bool (b : Bool) (w : World) : Calls Try.prog 79 #[.bool b] w fun e w' => e = .returned (.string ⟨(bb b).toArray⟩) ∧ w = w' := by
  cases b
  all_goals
    go_enter Try.func79, Try.ntmps79
    go_wp2_with fail
    go_ret
    exact ⟨rfl, rfl⟩
set_option maxRecDepth 100000 in
theorem ref_toBool (s : List UInt8) (w : World) (hl : s.length ≤ 1000000000000) :
    Calls Try.prog 134 #[.string ⟨s.toArray⟩] w fun e w' => e = .returned (rdBV (rdB s)) ∧ Only [] w w' := by
  match s, hl with
  | [], hl =>
    go_enter Try.func134, Try.ntmps134
    go_wp2_with fail
    go_ret3
    exact ⟨rfl, Only.refl _ _⟩
  | c :: r, hl =>
    have hix : ∀ h : 0 < (⟨(c :: r).toArray⟩ : ByteArray).size, (⟨(c :: r).toArray⟩ : ByteArray)[0]'h = c := fun _ => rfl
    have hne : ((c :: r) == ([] : List UInt8)) = false := rfl
    have hlen : 1 ≤ (c :: r).length := by simp
    have hdr : (c :: r).drop 1 = r := rfl
    have hc8 := c.toNat_lt
    by_cases h1 : c.toNat ≤ 1
    · have HR : Hid (rdB (c :: r) = some (c.toNat == 1, r)) := by show _ = _; unfold rdB; exact if_pos h1
      have hd : decide ((1 : Int) < c.toNat) = false := by simp; omega
      obtain ⟨s, hs⟩ : ∃ s, c :: r = s := ⟨_, rfl⟩
      rw [hs] at hix hne hlen hdr hl HR ⊢
      clear hs
      go_enter Try.func134, Try.ntmps134
      go_wp2_with fail
      have heq : ((c.toNat : Int) == 1) = (c.toNat == 1) := by
        rw [Bool.eq_iff_iff]; simp; omega
      go_quiet (fail)
      rw [str_to_end, hdr]
      go_wp2_with fail
      go_ret3
      exact ⟨by rw [HR.out]; rfl, (Only.refl _ _).drewN _⟩
    · have HR : Hid (rdB (c :: r) = none) := by show _ = _; unfold rdB; exact if_neg h1
      have hd : decide ((1 : Int) < c.toNat) = true := by simp; omega
      obtain ⟨s, hs⟩ : ∃ s, c :: r = s := ⟨_, rfl⟩
      rw [hs] at hix hne hlen hdr hl HR ⊢
      clear hs
      go_enter Try.func134, Try.ntmps134
      go_wp2_with fail
      go_ret3
      exact ⟨by rw [HR.out]; rfl, Only.refl _ _⟩

set_option maxRecDepth 100000 in
theorem codec_bool (b : Bool) (w : World) : Calls Try.prog 101 #[.bool b] w fun e w' => e = .returned (.string ⟨(bb b).toArray⟩) ∧ w = w' := by
  cases b
  all_goals
    go_enter Try.func101, Try.ntmps101
    go_wp2_with fail
    go_ret
    exact ⟨rfl, rfl⟩
set_option maxRecDepth 100000 in
theorem codec_toBool (s : List UInt8) (w : World) (hl : s.length ≤ 1000000000000) :
    Calls Try.prog 116 #[.string ⟨s.toArray⟩] w fun e w' => e = .returned (rdBV (rdB s)) ∧ Only [] w w' := by
  match s, hl with
  | [], hl =>
    go_enter Try.func116, Try.ntmps116
    go_wp2_with fail
    go_ret3
    exact ⟨rfl, Only.refl _ _⟩
  | c :: r, hl =>
    have hix : ∀ h : 0 < (⟨(c :: r).toArray⟩ : ByteArray).size, (⟨(c :: r).toArray⟩ : ByteArray)[0]'h = c := fun _ => rfl
    have hne : ((c :: r) == ([] : List UInt8)) = false := rfl
    have hlen : 1 ≤ (c :: r).length := by simp
    have hdr : (c :: r).drop 1 = r := rfl
    have hc8 := c.toNat_lt
    by_cases h1 : c.toNat ≤ 1
    · have HR : Hid (rdB (c :: r) = some (c.toNat == 1, r)) := by show _ = _; unfold rdB; exact if_pos h1
      have hd : decide ((1 : Int) < c.toNat) = false := by simp; omega
      obtain ⟨s, hs⟩ : ∃ s, c :: r = s := ⟨_, rfl⟩
      rw [hs] at hix hne hlen hdr hl HR ⊢
      clear hs
      go_enter Try.func116, Try.ntmps116
      go_wp2_with fail
      have heq : ((c.toNat : Int) == 1) = (c.toNat == 1) := by
        rw [Bool.eq_iff_iff]; simp; omega
      go_quiet (fail)
      rw [str_to_end, hdr]
      go_wp2_with fail
      go_ret3
      exact ⟨by rw [HR.out]; rfl, (Only.refl _ _).drewN _⟩
    · have HR : Hid (rdB (c :: r) = none) := by show _ = _; unfold rdB; exact if_neg h1
      have hd : decide ((1 : Int) < c.toNat) = true := by simp; omega
      obtain ⟨s, hs⟩ : ∃ s, c :: r = s := ⟨_, rfl⟩
      rw [hs] at hix hne hlen hdr hl HR ⊢
      clear hs
      go_enter Try.func116, Try.ntmps116
      go_wp2_with fail
      go_ret3
      exact ⟨by rw [HR.out]; rfl, Only.refl _ _⟩

end Go.Proofs.Ytjfnkjpnjiobjaa
