/-
  Frames in plain terms: what is read of one, of one that is cut short, of other bytes.
-/
import Derived.Test.YtojhbhdlbbmghaaFrame
namespace Go.Proofs.Ytojhbhdlbbmghaa
open Go.RowKit
theorem numB_fourL (v : Nat) (h : v < 4294967296) : numB (fourL v) = v := by
  show 256 * (256 * (256 * (256 * 0 + (UInt8.ofNat (v / 16777216)).toNat) + (UInt8.ofNat (v / 65536)).toNat) + (UInt8.ofNat (v / 256)).toNat) + (UInt8.ofNat v).toNat = v
  simp only [UInt8.toNat_ofNat']
  omega
theorem fourL_inj {v w : Nat} (hv : v < 4294967296) (hw : w < 4294967296) (h : fourL v = fourL w) : v = w := by
  rw [← numB_fourL v hv, ← numB_fourL w hw, h]
theorem fourL_length (v : Nat) : (fourL v).length = 4 := rfl
theorem take4 (a b l : List UInt8) (ha : a.length = 4) (hb : b.length = 4) : (a ++ b ++ l).take 4 = a ∧ ((a ++ b ++ l).drop 4).take 4 = b ∧ (a ++ b ++ l).drop 8 = l := by
  refine ⟨?_, ?_, ?_⟩
  · rw [List.append_assoc, List.take_append_of_le_length (by omega), List.take_of_length_le (by omega)]
  · rw [List.append_assoc, List.drop_append_of_le_length (by omega), List.drop_eq_nil_of_le (by omega), List.nil_append, List.take_append_of_le_length (by omega), List.take_of_length_le (by omega)]
  · rw [show 8 = (a ++ b).length from by rw [List.length_append]; omega, List.drop_left]
/-- What is read of bytes that begin as a frame does. -/
theorem unE_of (n c : Nat) (p : List UInt8) (hn : n < 4294967296) : unE (fourL n ++ fourL c ++ p) =
    if 65536 < n then ([], 0, 10) else if p.length < n then ([], 0, 8) else if fourL c = fourL (sumOf (fourL n ++ p.take n)) then (p.take n, 8 + n, 0) else ([], 0, 9) := by
  obtain ⟨h1, h2, h3⟩ := take4 (fourL n) (fourL c) p rfl rfl
  have hl : (fourL n ++ fourL c ++ p).length = 8 + p.length := by rw [List.length_append, List.length_append]; simp [fourL_length]
  unfold unE
  rw [if_neg (by omega), h1, h2, h3, hl, numB_fourL n hn]
  by_cases hb : 65536 < n
  · rw [if_pos hb, if_pos hb]
  · rw [if_neg hb, if_neg hb]
    by_cases hc : p.length < n
    · rw [if_pos (by omega), if_pos hc]
    · rw [if_neg (by omega), if_neg hc]
theorem unE_frame (t s : List UInt8) (ht : t.length ≤ 65536) : unE (frameL t ++ s) = (t, 8 + t.length, 0) := by
  unfold frameL
  rw [List.append_assoc _ t s, unE_of _ _ _ (by omega), if_neg (by omega), if_neg (by rw [List.length_append]; omega)]
  rw [List.take_append_of_le_length (by omega), List.take_of_length_le (Nat.le_refl _), if_pos rfl]
theorem unE_ok (s y : List UInt8) (m : Nat) (h : unE s = (y, m, 0)) : m = y.length + 8 ∧ y.length ≤ 65536 ∧ m ≤ s.length ∧ frameL y = s.take m := by
  unfold unE at h
  by_cases h4 : s.length < 4
  · rw [if_pos h4] at h; simp at h
  rw [if_neg h4] at h
  by_cases h5 : 65536 < numB (s.take 4)
  · rw [if_pos h5] at h; simp at h
  rw [if_neg h5] at h
  by_cases h6 : s.length < 8 + numB (s.take 4)
  · rw [if_pos h6] at h; simp at h
  rw [if_neg h6] at h
  split at h
  · rename_i h7
    injection h with e1 e2
    injection e2 with e2 _
    have hyl : y.length = numB (s.take 4) := by rw [← e1]; simp; omega
    refine ⟨by omega, by omega, by omega, ?_⟩
    unfold frameL
    rw [hyl, numB_four s (by omega), ← e1, ← h7, ← e2]
    rw [show 8 + numB (s.take 4) = 4 + (4 + numB (s.take 4)) from by omega, List.take_add, List.take_add, List.drop_drop, List.append_assoc]
  · simp at h
theorem unE_not (s y : List UInt8) (m k : Nat) (h : unE s = (y, m, k)) (hk : k ≠ 0) : y = [] ∧ m = 0 := by
  unfold unE at h
  split at h
  · simp at h; exact ⟨h.1, h.2.1.symm⟩
  split at h
  · simp at h; exact ⟨h.1, h.2.1.symm⟩
  split at h
  · simp at h; exact ⟨h.1, h.2.1.symm⟩
  split at h
  · injection h with _ e2
    injection e2 with _ e3
    exact absurd e3.symm hk
  · simp at h; exact ⟨h.1, h.2.1.symm⟩
theorem unE_kind (s y : List UInt8) (m k : Nat) (h : unE s = (y, m, k)) : k ≤ 10 := by
  unfold unE at h
  split at h
  · simp at h; omega
  split at h
  · simp at h; omega
  split at h
  · simp at h; omega
  split at h
  · injection h with _ e2
    injection e2 with _ e3
    omega
  · simp at h; omega
theorem frE_small (t : List UInt8) (h : t.length ≤ 65536) : frE t = (frameL t, 0) := by unfold frE; rw [if_pos h]
end Go.Proofs.Ytojhbhdlbbmghaa
