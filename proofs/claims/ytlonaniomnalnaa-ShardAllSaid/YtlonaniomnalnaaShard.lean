/-
  Chapter 14: names, hashes, shards: the walks over shard and kioskref14.
-/
import Derived.Test.YtlonaniomnalnaaOpen
import Derived.Test.YtlonaniomnalnaaStr
import Derived.Test.YtlonaniomnalnaaRows
namespace Go.Proofs.Ytlonaniomnalnaa
open Go.RowKit

def hashB (h : Nat) (b : UInt8) : Nat := (h ^^^ b.toNat) * 16777619 % 4294967296
def hashL (l : List UInt8) : Nat := l.foldl hashB 2166136261
def shardL (l : List UInt8) : Nat := hashL l % 8
def nameL (l : List UInt8) : Bool := l.all (fun b => decide (33 ≤ b.toNat ∧ b.toNat ≤ 126)) && decide (1 ≤ l.length ∧ l.length ≤ 60)
theorem hashB_lt (h : Nat) (b : UInt8) : hashB h b < 4294967296 := Nat.mod_lt _ (by omega)
theorem foldl_snoc' {α β : Type} (f : β → α → β) (a : β) (l : List α) (b : α) : (l ++ [b]).foldl f a = f (l.foldl f a) b := by simp
theorem hashL_snoc (l : List UInt8) (b : UInt8) : hashL (l ++ [b]) = hashB (hashL l) b := foldl_snoc' hashB 2166136261 l b
theorem hashL_fold (l : List UInt8) (h : Nat) (hh : h < 4294967296) : l.foldl hashB h < 4294967296 := by
  induction l generalizing h with
  | nil => exact hh
  | cons b l ih => exact ih _ (hashB_lt _ _)
theorem hashL_lt (l : List UInt8) : hashL l < 4294967296 := by
  have := hashL_fold l 2166136261 (by omega)
  unfold hashL
  exact this
theorem hashL_take (l : List UInt8) (k : Nat) (b : UInt8) (h : l[k]? = some b) : hashL (l.take (k + 1)) = hashB (hashL (l.take k)) b := by
  rw [List.take_add_one, h]; exact hashL_snoc _ _
theorem shardL_lt (l : List UInt8) : shardL l < 8 := Nat.mod_lt _ (by omega)

set_option maxRecDepth 100000 in
set_option maxHeartbeats 1000000 in
theorem shard_hash (l : List UInt8) (w : World) (hl : l.length ≤ 9223372036854775807) :
    Calls Try.prog 18 #[.string ⟨l.toArray⟩] w fun e w' => e = .returned (.int .u32 (hashL l)) ∧ w = w' := by
  go_enter Try.func18, Try.ntmps18
  go_wp2_with fail
  go_loop [3, 7] (fun h i => ∃ k : Nat, k ≤ l.length ∧ i = .int .i64 k ∧ h = .int .u32 (hashL (l.take k))) (fun _ i => l.length - (intOf i).toNat)
  case atStart => exact ⟨0, by omega, rfl, rfl⟩
  case round =>
    obtain ⟨k, hk, rfl, rfl⟩ := hrel
    have hlt2 := hashL_lt (l.take k)
    by_cases hlt : k < l.length
    · have hk1 := List.getElem?_eq_getElem hlt
      obtain ⟨b, hb⟩ : ∃ b, l[k] = b := ⟨_, rfl⟩
      rw [hb] at hk1
      have hix : ∀ h : k < (⟨l.toArray⟩ : ByteArray).size, (⟨l.toArray⟩ : ByteArray)[k]'h = b := fun _ => hb
      have HS := Lib.hid (hashL_take l k b hk1)
      obtain ⟨d, hd⟩ : ∃ d, hashL (l.take k) = d := ⟨_, rfl⟩
      rw [hd] at HS hlt2 ⊢
      have hb8 := b.toNat_lt
      have hx : bits .xor .u32 (d : Int) (b.toNat : Int) = ((d ^^^ b.toNat : Nat) : Int) := u32_xor_nat d b.toNat hlt2 (by omega)
      clear hb hk1 hd
      go_wp2_with fail
      clear hx
      go_round
      case rel => exact ⟨k + 1, by omega, by go_num, by rw [HS.out]; unfold hashB; congr 1⟩
      case measure => simp [intOf]; omega
    · obtain rfl : k = l.length := by omega
      rw [List.take_length]
      go_wp2_with fail
      go_ret
      exact ⟨rfl, rfl⟩
set_option maxRecDepth 100000 in
theorem shard_of (l : List UInt8) (w : World) (hl : l.length ≤ 9223372036854775807) :
    Calls Try.prog 20 #[.string ⟨l.toArray⟩] w fun e w' => e = .returned (.int .i64 (shardL l)) ∧ w = w' := by
  have CH := shard_hash l w hl
  have h1 := hashL_lt l
  go_enter Try.func20, Try.ntmps20
  go_wp2_with (go_at_call 18; refine CH.mono ?_; rintro e w' ⟨rfl, rfl⟩)
  go_ret
  exact ⟨by congr 2, rfl⟩
end Go.Proofs.Ytlonaniomnalnaa
