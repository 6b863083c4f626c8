/-
  Chapter 14: names; the document's answers; the small functions of the laws.
-/
import Derived.Test.YtlonaniomnalnaaPart14b
namespace Go.Proofs.Ytlonaniomnalnaa
open Go.RowKit

def okB (b : UInt8) : Bool := decide (33 ≤ b.toNat ∧ b.toNat ≤ 126)
theorem nameL_eq (l : List UInt8) : nameL l = (l.all okB && decide (1 ≤ l.length ∧ l.length ≤ 60)) := rfl
theorem nameL_bad (l : List UInt8) (b : UInt8) (hm : b ∈ l) (h : okB b = false) : nameL l = false := by
  rw [nameL_eq]
  have : l.all okB = false := by
    cases hc : l.all okB with
    | false => rfl
    | true => rw [List.all_eq_true] at hc; rw [hc b hm] at h; cases h
  rw [this]; rfl
set_option maxRecDepth 100000 in
set_option maxHeartbeats 1000000 in
theorem shard_name (l : List UInt8) (w : World) (hl : l.length ≤ 9223372036854775807) :
    Calls Try.prog 16 #[.string ⟨l.toArray⟩] w fun e w' => e = .returned (.bool (nameL l)) ∧ w = w' := by
  go_enter Try.func16, Try.ntmps16
  go_wp2_with fail
  go_loop [6] (fun i => ∃ k : Nat, k ≤ l.length ∧ i = .int .i64 k ∧ (l.take k).all okB = true) (fun i => l.length - (intOf i).toNat)
  case atStart => exact ⟨0, by omega, rfl, rfl⟩
  case round =>
    obtain ⟨k, hk, rfl, hall⟩ := hrel
    by_cases hlt : k < l.length
    · have hk1 := List.getElem?_eq_getElem hlt
      obtain ⟨b, hb⟩ : ∃ b, l[k] = b := ⟨_, rfl⟩
      rw [hb] at hk1
      have hix : ∀ h : k < (⟨l.toArray⟩ : ByteArray).size, (⟨l.toArray⟩ : ByteArray)[k]'h = b := fun _ => hb
      have hb8 := b.toNat_lt
      have HA := Lib.hid hall
      have HT : Hid ((l.take (k + 1)).all okB = okB b) := by show _ = _; rw [List.take_add_one, hk1, List.all_append, hall]; simp
      have HF : Hid (okB b = false → nameL l = false) := fun h => nameL_bad l b (List.mem_of_getElem? hk1) h
      clear hb hk1 hall
      by_cases h1 : b.toNat ≤ 32
      · have hbad := HF.out (by simp [okB]; omega)
        have d1 : decide ((b.toNat : Int) ≤ 32) = true := by simp; omega
        go_wp2_with fail
        go_ret
        exact ⟨rfl, rfl⟩
      · have d1 : decide ((b.toNat : Int) ≤ 32) = false := by simp; omega
        by_cases h2 : 126 < b.toNat
        · have hbad := HF.out (by simp [okB]; omega)
          have d2 : decide (126 < (b.toNat : Int)) = true := by simp; omega
          go_wp2_with fail
          go_ret
          exact ⟨rfl, rfl⟩
        · have hgood : okB b = true := by simp [okB]; omega
          have d2 : decide (126 < (b.toNat : Int)) = false := by simp; omega
          go_wp2_with fail
          go_round
          case rel => exact ⟨k + 1, by omega, by go_num, by rw [HT.out]; exact hgood⟩
          case measure => simp [intOf]; omega
    · obtain rfl : k = l.length := by omega
      rw [List.take_length] at hall
      have HN : Hid (nameL l = decide (1 ≤ l.length ∧ l.length ≤ 60)) := by show _ = _; rw [nameL_eq, hall]; simp
      clear hall
      by_cases h0 : l = []
      · subst h0
        have HN' := HN.out
        go_wp2_with fail
        go_ret
        exact ⟨rfl, rfl⟩
      · have he : l.isEmpty = false := by simpa using h0
        have hl0 : 1 ≤ l.length := by
          have := List.length_pos_iff.2 h0; omega
        by_cases h60 : l.length ≤ 60
        · have d : decide ((l.length : Int) ≤ 60) = true := by simp; omega
          go_wp2_with fail
          go_ret
          exact ⟨by rw [HN.out]; simp; omega, rfl⟩
        · have d : decide ((l.length : Int) ≤ 60) = false := by simp; omega
          go_wp2_with fail
          go_ret
          exact ⟨by rw [HN.out]; simp; omega, rfl⟩
set_option maxRecDepth 100000 in
set_option maxHeartbeats 1000000 in
theorem ref_name14 (l : List UInt8) (w : World) (hl : l.length ≤ 9223372036854775807) :
    Calls Try.prog 17 #[.string ⟨l.toArray⟩] w fun e w' => e = .returned (.bool (nameL l)) ∧ w = w' := by
  go_enter Try.func17, Try.ntmps17
  go_wp2_with fail
  go_loop [3] (fun i => ∃ k : Nat, k ≤ l.length ∧ i = .int .i64 k ∧ (l.take k).all okB = true) (fun i => l.length - (intOf i).toNat)
  case atStart => exact ⟨0, by omega, rfl, rfl⟩
  case round =>
    obtain ⟨k, hk, rfl, hall⟩ := hrel
    by_cases hlt : k < l.length
    · have hk1 := List.getElem?_eq_getElem hlt
      obtain ⟨b, hb⟩ : ∃ b, l[k] = b := ⟨_, rfl⟩
      rw [hb] at hk1
      have hix : ∀ h : k < (⟨l.toArray⟩ : ByteArray).size, (⟨l.toArray⟩ : ByteArray)[k]'h = b := fun _ => hb
      have hb8 := b.toNat_lt
      have HA := Lib.hid hall
      have HT : Hid ((l.take (k + 1)).all okB = okB b) := by show _ = _; rw [List.take_add_one, hk1, List.all_append, hall]; simp
      have HF : Hid (okB b = false → nameL l = false) := fun h => nameL_bad l b (List.mem_of_getElem? hk1) h
      clear hb hk1 hall
      by_cases h1 : b.toNat ≤ 32
      · have hbad := HF.out (by simp [okB]; omega)
        have d1 : decide ((b.toNat : Int) < 33) = true := by simp; omega
        go_wp2_with fail
        go_ret
        exact ⟨rfl, rfl⟩
      · have d1 : decide ((b.toNat : Int) < 33) = false := by simp; omega
        by_cases h2 : 126 < b.toNat
        · have hbad := HF.out (by simp [okB]; omega)
          have d2 : decide (126 < (b.toNat : Int)) = true := by simp; omega
          go_wp2_with fail
          go_ret
          exact ⟨rfl, rfl⟩
        · have hgood : okB b = true := by simp [okB]; omega
          have d2 : decide (126 < (b.toNat : Int)) = false := by simp; omega
          go_wp2_with fail
          go_round
          case rel => exact ⟨k + 1, by omega, by go_num, by rw [HT.out]; exact hgood⟩
          case measure => simp [intOf]; omega
    · obtain rfl : k = l.length := by omega
      rw [List.take_length] at hall
      have HN : Hid (nameL l = decide (1 ≤ l.length ∧ l.length ≤ 60)) := by show _ = _; rw [nameL_eq, hall]; simp
      clear hall
      by_cases h1 : 1 ≤ l.length
      · have d1 : decide (1 ≤ (l.length : Int)) = true := by simp; omega
        by_cases h60 : l.length ≤ 60
        · have d : decide ((l.length : Int) ≤ 60) = true := by simp; omega
          go_wp2_with fail
          go_ret
          exact ⟨by rw [HN.out]; simp; omega, rfl⟩
        · have d : decide ((l.length : Int) ≤ 60) = false := by simp; omega
          go_wp2_with fail
          go_ret
          exact ⟨by rw [HN.out]; simp; omega, rfl⟩
      · have d1 : decide (1 ≤ (l.length : Int)) = false := by simp; omega
        go_wp2_with fail
        go_ret
        exact ⟨by rw [HN.out]; simp; omega, rfl⟩
end Go.Proofs.Ytlonaniomnalnaa
