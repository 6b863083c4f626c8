/-
  The walks over the codec's sum: bit by bit, byte by byte.
-/
import Derived.Test.YtojhbhdlbbmghaaRows
import Derived.Test.YtojhbhdlbbmghaaStr
namespace Go.Proofs.Ytojhbhdlbbmghaa
open Go.RowKit

def crcBit (c : Nat) : Nat := if c % 2 = 1 then (c / 2) ^^^ 2197175160 else c / 2
def crcBits : Nat → Nat → Nat
  | 0, c => c
  | n + 1, c => crcBit (crcBits n c)
def crcByte (c : Nat) (b : UInt8) : Nat := crcBits 8 (c ^^^ b.toNat)
def crcL (c : Nat) (l : List UInt8) : Nat := l.foldl crcByte c
theorem crcBit_lt (c : Nat) (h : c < 4294967296) : crcBit c < 4294967296 := by
  unfold crcBit
  split
  · exact Nat.xor_lt_two_pow (n := 32) (by omega) (by omega)
  · omega
theorem crcBits_lt (n c : Nat) (h : c < 4294967296) : crcBits n c < 4294967296 := by
  induction n with
  | zero => exact h
  | succ n ih => exact crcBit_lt _ ih
theorem crcByte_lt (c : Nat) (b : UInt8) (h : c < 4294967296) : crcByte c b < 4294967296 := by
  have := b.toNat_lt
  exact crcBits_lt _ _ (Nat.xor_lt_two_pow (n := 32) (by omega) (by omega))
theorem crcL_lt (l : List UInt8) : ∀ c, c < 4294967296 → crcL c l < 4294967296 := by
  unfold crcL
  induction l with
  | nil => exact fun c h => h
  | cons b l ih => exact fun c h => ih _ (crcByte_lt c b h)
theorem crcL_snoc (c : Nat) (l : List UInt8) (k : Nat) (b : UInt8) (h : l[k]? = some b) : crcL c (l.take (k + 1)) = crcByte (crcL c (l.take k)) b := by
  unfold crcL
  rw [List.take_add_one, h, List.foldl_append]; rfl
theorem crcL_append (c : Nat) (l m : List UInt8) : crcL c (l ++ m) = crcL (crcL c l) m := by unfold crcL; rw [List.foldl_append]

theorem crc_bits (y : Nat) (h : y < 4294967296) : bits BinOp.xor IntKind.u32 ((y : Int) / 2) (bits BinOp.and IntKind.u32 2197175160 (-bits BinOp.and IntKind.u32 (y : Int) 1 % 4294967296)) = ((crcBit y : Nat) : Int) := by
  have e1 : bits BinOp.and IntKind.u32 (y : Int) 1 = ((y % 2 : Nat) : Int) := by
    have := u32_and_nat y 1 h (by omega)
    rw [Nat.and_one_is_mod] at this
    exact this
  rw [e1, show ((y : Int) / 2) = ((y / 2 : Nat) : Int) from by omega]
  unfold crcBit
  by_cases hy : y % 2 = 1
  · rw [if_pos hy, hy, show (-((1 : Nat) : Int)) % 4294967296 = ((4294967295 : Nat) : Int) from by decide]
    rw [show (2197175160 : Int) = ((2197175160 : Nat) : Int) from rfl, u32_and_nat _ _ (by omega) (by omega), show (2197175160 &&& 4294967295 : Nat) = 2197175160 from by decide, u32_xor_nat _ _ (by omega) (by omega)]
  · rw [if_neg hy, show y % 2 = 0 from by omega, show (-((0 : Nat) : Int)) % 4294967296 = ((0 : Nat) : Int) from by decide]
    rw [show (2197175160 : Int) = ((2197175160 : Nat) : Int) from rfl, u32_and_nat _ _ (by omega) (by omega), show (2197175160 &&& 0 : Nat) = 0 from by decide, u32_xor_nat _ _ (by omega) (by omega), Nat.xor_zero]
set_option maxRecDepth 100000 in
set_option maxHeartbeats 1000000 in
theorem codec_sum (c : Nat) (l : List UInt8) (w : World) (hc : c < 4294967296) (hl : l.length ≤ 1000000000000) :
    Calls Try.prog 82 #[.int .u32 c, .string ⟨l.toArray⟩] w fun e w' => e = .returned (.int .u32 (crcL c l)) ∧ w = w' := by
  go_enter Try.func82, Try.ntmps82
  go_wp2_with fail
  go_loop [0, 8] (fun c' i => ∃ k : Nat, k ≤ l.length ∧ i = .int .i64 k ∧ c' = .int .u32 (crcL c (l.take k))) (fun _ i => l.length - (intOf i).toNat)
  case atStart => exact ⟨0, by omega, rfl, rfl⟩
  case round =>
    obtain ⟨k, hk, rfl, rfl⟩ := hrel
    have hlt2 := crcL_lt (l.take k) c hc
    by_cases hlt : k < l.length
    · have hk1 := List.getElem?_eq_getElem hlt
      obtain ⟨b, hb⟩ : ∃ b, l[k] = b := ⟨_, rfl⟩
      rw [hb] at hk1
      have hix : ∀ h : k < (⟨l.toArray⟩ : ByteArray).size, (⟨l.toArray⟩ : ByteArray)[k]'h = b := fun _ => hb
      have hS := crcL_snoc c l k b hk1
      obtain ⟨d, hd⟩ : ∃ d, crcL c (l.take k) = d := ⟨_, rfl⟩
      rw [hd] at hS hlt2 ⊢
      have HS := Lib.hid hS
      have hb8 := b.toNat_lt
      have hx : bits .xor .u32 (d : Int) (b.toNat : Int) = ((d ^^^ b.toNat : Nat) : Int) := u32_xor_nat d b.toNat hlt2 (by omega)
      have hxl : d ^^^ b.toNat < 4294967296 := Nat.xor_lt_two_pow (n := 32) (by omega) (by omega)
      obtain ⟨x, hxx⟩ : ∃ x, d ^^^ b.toNat = x := ⟨_, rfl⟩
      rw [hxx] at hx hxl
      have HS2 : Hid (crcL c (l.take (k + 1)) = crcBits 8 x) := by show _ = _; rw [HS.out, ← hxx]; rfl
      clear hb hk1 hd hS HS hxx
      go_wp2_with fail
      clear hx
      go_loop [0, 17] (fun c' i => ∃ j : Nat, j ≤ 8 ∧ i = .int .i64 j ∧ c' = .int .u32 (crcBits j x)) (fun _ i => 8 - (intOf i).toNat)
      case atStart => exact ⟨0, by omega, rfl, rfl⟩
      case round =>
        obtain ⟨j, hj, rfl, rfl⟩ := hrel
        have hlt3 := crcBits_lt j x hxl
        have hS3 : crcBits (j + 1) x = crcBit (crcBits j x) := rfl
        obtain ⟨y, hy⟩ : ∃ y, crcBits j x = y := ⟨_, rfl⟩
        by_cases hj8 : j < 8
        · rw [hy] at hlt3 hS3 ⊢
          have HS3 := Lib.hid hS3
          clear hy hS3
          have hj8' : (j : Int) < 8 := by omega
          go_wp2_with fail
          go_round
          case rel => exact ⟨j + 1, by omega, by go_num, by rw [crc_bits y hlt3, HS3.out]⟩
          case measure => simp [intOf]; omega
        · obtain rfl : j = 8 := by omega
          have hj8' : decide ((8 : Int) < 8) = false := by decide
          have HY := Lib.hid hy
          rw [hy]
          clear hy hS3
          go_wp2_with fail
          go_round
          case rel => exact ⟨k + 1, by omega, by go_num, by rw [HS2.out, HY.out]⟩
          case measure => simp [intOf]; omega
    · have hd0 : decide ((k : Int) < (l.length : Int)) = false := by simp; omega
      have HT : Hid (l.take k = l) := List.take_of_length_le (by omega)
      go_wp2_with fail
      go_ret
      exact ⟨by rw [HT.out]; rfl, rfl⟩
end Go.Proofs.Ytojhbhdlbbmghaa
