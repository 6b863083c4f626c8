/-
  Names, in both answers. (Printed by gen_name17.py out of XShardc.)
-/
import Derived.Test.YtjfnkjpnjiobjaaOpen
import Derived.Test.YtjfnkjpnjiobjaaStr
import Derived.Test.YtjfnkjpnjiobjaaRows
namespace Go.Proofs.Ytjfnkjpnjiobjaa
open Go.RowKit
def nmL (l : List UInt8) : Bool := l.all (fun b => decide (33 ≤ b.toNat ∧ b.toNat ≤ 126)) && decide (1 ≤ l.length ∧ l.length ≤ 60)
def okN (b : UInt8) : Bool := decide (33 ≤ b.toNat ∧ b.toNat ≤ 126)
theorem nmL_eq (l : List UInt8) : nmL l = (l.all okN && decide (1 ≤ l.length ∧ l.length ≤ 60)) := rfl
theorem nmL_bad (l : List UInt8) (b : UInt8) (hm : b ∈ l) (h : okN b = false) : nmL l = false := by
  rw [nmL_eq]
  have : l.all okN = false := by
    cases hc : l.all okN with
    | false => rfl
    | true => rw [List.all_eq_true] at hc; rw [hc b hm] at h; cases h
  rw [this]; rfl
set_option maxRecDepth 100000 in
set_option maxHeartbeats 1000000 in
theorem shard_name (l : List UInt8) (w : World) (hl : l.length ≤ 9223372036854775807) :
    Calls Try.prog 87 #[.string ⟨l.toArray⟩] w fun e w' => e = .returned (.bool (nmL l)) ∧ w = w' := by
  go_enter Try.func87, Try.ntmps87
  go_wp2_with fail
  go_loop [6] (fun i => ∃ k : Nat, k ≤ l.length ∧ i = .int .i64 k ∧ (l.take k).all okN = true) (fun i => l.length - (intOf i).toNat)
  case atStart => exact ⟨0, by omega, rfl, rfl⟩
  case round =>
    obtain ⟨k, hk, rfl, hall⟩ := hrel
    by_cases hlt : k < l.length
    · have hk1 := List.getElem?_eq_getElem hlt
      obtain ⟨b, hb⟩ : ∃ b, l[k] = b := ⟨_, rfl⟩
      rw [hb] at hk1
      have hix : ∀ h : k < (⟨l.toArray⟩ : ByteArray).size, (⟨l.toArray⟩ : ByteArray)[k]'h = b := fun _ => hb
      have hb8 := b.toNat_lt
      have HA := Lib.hid hall
      have HT : Hid ((l.take (k + 1)).all okN = okN b) := by show _ = _; rw [List.take_add_one, hk1, List.all_append, hall]; simp
      have HF : Hid (okN b = false → nmL l = false) := fun h => nmL_bad l b (List.mem_of_getElem? hk1) h
      clear hb hk1 hall
      by_cases h1 : b.toNat ≤ 32
      · have hbad := HF.out (by simp [okN]; omega)
        have d1 : decide ((b.toNat : Int) ≤ 32) = true := by simp; omega
        go_wp2_with fail
        go_ret
        exact ⟨rfl, rfl⟩
      · have d1 : decide ((b.toNat : Int) ≤ 32) = false := by simp; omega
        by_cases h2 : 126 < b.toNat
        · have hbad := HF.out (by simp [okN]; omega)
          have d2 : decide (126 < (b.toNat : Int)) = true := by simp; omega
          go_wp2_with fail
          go_ret
          exact ⟨rfl, rfl⟩
        · have hgood : okN b = true := by simp [okN]; omega
          have d2 : decide (126 < (b.toNat : Int)) = false := by simp; omega
          go_wp2_with fail
          go_round
          case rel => exact ⟨k + 1, by omega, by go_num, by rw [HT.out]; exact hgood⟩
          case measure => simp [intOf]; omega
    · obtain rfl : k = l.length := by omega
      rw [List.take_length] at hall
      have HN : Hid (nmL l = decide (1 ≤ l.length ∧ l.length ≤ 60)) := by show _ = _; rw [nmL_eq, hall]; simp
      clear hall
      by_cases h0 : l = []
      · subst h0
        have HN' := HN.out
        go_wp2_with fail
        go_ret
        exact ⟨rfl, rfl⟩
      · have he : l.isEmpty = false := by simpa using h0
        have hl0 : 1 ≤ l.length := by
          have := List.length_pos_iff.2 h0; omega
        by_cases h60 : l.length ≤ 60
        · have d : decide ((l.length : Int) ≤ 60) = true := by simp; omega
          go_wp2_with fail
          go_ret
          exact ⟨by rw [HN.out]; simp; omega, rfl⟩
        · have d : decide ((l.length : Int) ≤ 60) = false := by simp; omega
          go_wp2_with fail
          go_ret
          exact ⟨by rw [HN.out]; simp; omega, rfl⟩
set_option maxRecDepth 100000 in
set_option maxHeartbeats 1000000 in
theorem ref_name14 (l : List UInt8) (w : World) (hl : l.length ≤ 9223372036854775807) :
    Calls Try.prog 93 #[.string ⟨l.toArray⟩] w fun e w' => e = .returned (.bool (nmL l)) ∧ w = w' := by
  go_enter Try.func93, Try.ntmps93
  go_wp2_with fail
  go_loop [3] (fun i => ∃ k : Nat, k ≤ l.length ∧ i = .int .i64 k ∧ (l.take k).all okN = true) (fun i => l.length - (intOf i).toNat)
  case atStart => exact ⟨0, by omega, rfl, rfl⟩
  case round =>
    obtain ⟨k, hk, rfl, hall⟩ := hrel
    by_cases hlt : k < l.length
    · have hk1 := List.getElem?_eq_getElem hlt
      obtain ⟨b, hb⟩ : ∃ b, l[k] = b := ⟨_, rfl⟩
      rw [hb] at hk1
      have hix : ∀ h : k < (⟨l.toArray⟩ : ByteArray).size, (⟨l.toArray⟩ : ByteArray)[k]'h = b := fun _ => hb
      have hb8 := b.toNat_lt
      have HA := Lib.hid hall
      have HT : Hid ((l.take (k + 1)).all okN = okN b) := by show _ = _; rw [List.take_add_one, hk1, List.all_append, hall]; simp
      have HF : Hid (okN b = false → nmL l = false) := fun h => nmL_bad l b (List.mem_of_getElem? hk1) h
      clear hb hk1 hall
      by_cases h1 : b.toNat ≤ 32
      · have hbad := HF.out (by simp [okN]; omega)
        have d1 : decide ((b.toNat : Int) < 33) = true := by simp; omega
        go_wp2_with fail
        go_ret
        exact ⟨rfl, rfl⟩
      · have d1 : decide ((b.toNat : Int) < 33) = false := by simp; omega
        by_cases h2 : 126 < b.toNat
        · have hbad := HF.out (by simp [okN]; omega)
          have d2 : decide (126 < (b.toNat : Int)) = true := by simp; omega
          go_wp2_with fail
          go_ret
          exact ⟨rfl, rfl⟩
        · have hgood : okN b = true := by simp [okN]; omega
          have d2 : decide (126 < (b.toNat : Int)) = false := by simp; omega
          go_wp2_with fail
          go_round
          case rel => exact ⟨k + 1, by omega, by go_num, by rw [HT.out]; exact hgood⟩
          case measure => simp [intOf]; omega
    · obtain rfl : k = l.length := by omega
      rw [List.take_length] at hall
      have HN : Hid (nmL l = decide (1 ≤ l.length ∧ l.length ≤ 60)) := by show _ = _; rw [nmL_eq, hall]; simp
      clear hall
      by_cases h1 : 1 ≤ l.length
      · have d1 : decide (1 ≤ (l.length : Int)) = true := by simp; omega
        by_cases h60 : l.length ≤ 60
        · have d : decide ((l.length : Int) ≤ 60) = true := by simp; omega
          go_wp2_with fail
          go_ret
          exact ⟨by rw [HN.out]; simp; omega, rfl⟩
        · have d : decide ((l.length : Int) ≤ 60) = false := by simp; omega
          go_wp2_with fail
          go_ret
          exact ⟨by rw [HN.out]; simp; omega, rfl⟩
      · have d1 : decide (1 ≤ (l.length : Int)) = false := by simp; omega
        go_wp2_with fail
        go_ret
        exact ⟨by rw [HN.out]; simp; omega, rfl⟩
end Go.Proofs.Ytjfnkjpnjiobjaa
