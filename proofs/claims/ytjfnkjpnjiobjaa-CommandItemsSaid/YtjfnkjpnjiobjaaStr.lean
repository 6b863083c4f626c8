/-
  Strings as lists of bytes: pieces of them; small facts on bits.
-/
import Derived.Test.YtjfnkjpnjiobjaaBase
import Derived.Laws.DeepNot64
import Derived.WalkSmall
namespace Go.Proofs.Ytjfnkjpnjiobjaa
open Go.RowKit

theorem str_extract (l : List UInt8) (a b : Nat) : (⟨l.toArray⟩ : ByteArray).extract a b = ⟨((l.drop a).take (b - a)).toArray⟩ := by
  rw [ByteArray.extract_mk]
  try simp [List.extract_eq_take_drop]
theorem str_to_end (l : List UInt8) (a : Nat) : (⟨l.toArray⟩ : ByteArray).extract a l.length = ⟨(l.drop a).toArray⟩ := by
  rw [str_extract, List.take_of_length_le (by simp)]
theorem str_from_start (l : List UInt8) (b : Nat) : (⟨l.toArray⟩ : ByteArray).extract 0 b = ⟨(l.take b).toArray⟩ := by
  rw [str_extract]; simp
theorem str_of (s : ByteArray) : ∃ l : List UInt8, s = ⟨l.toArray⟩ ∧ s.size = l.length := ⟨s.data.toList, by simp, by simp⟩
theorem str_size (l : List UInt8) : (⟨l.toArray⟩ : ByteArray).size = l.length := rfl
theorem str_inj {l m : List UInt8} (h : (⟨l.toArray⟩ : ByteArray) = ⟨m.toArray⟩) : l = m := by
  have := congrArg (fun b : ByteArray => b.data.toList) h
  simpa using this

theorem bits_xor_comm (k : IntKind) (x y : Int) : bits .xor k x y = bits .xor k y x := by
  show k.wrap ((BitVec.ofInt k.bits x ^^^ BitVec.ofInt k.bits y).toNat : Int) = k.wrap ((BitVec.ofInt k.bits y ^^^ BitVec.ofInt k.bits x).toNat : Int)
  rw [BitVec.xor_comm]
theorem ofInt_i64' (a : Nat) (ha : a < 9223372036854775808) : (BitVec.ofInt 64 (a : Int)).toNat = a := by
  rw [BitVec.ofInt_natCast, BitVec.toNat_ofNat]; exact Nat.mod_eq_of_lt (by omega)
theorem i64_xor_zero (a : Nat) (ha : a < 9223372036854775808) : bits .xor .i64 (a : Int) 0 = (a : Int) := by
  show IntKind.i64.wrap ((BitVec.ofInt 64 (a : Int) ^^^ BitVec.ofInt 64 ((0 : Nat) : Int)).toNat : Int) = _
  rw [BitVec.toNat_xor, ofInt_i64' a ha, ofInt_i64' 0 (by omega), Nat.xor_zero, IntKind.wrap_i64]
  omega
end Go.Proofs.Ytjfnkjpnjiobjaa
