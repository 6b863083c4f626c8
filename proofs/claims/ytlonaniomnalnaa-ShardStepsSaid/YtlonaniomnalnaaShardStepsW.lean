/-
  The walk over ShardSteps.
-/
import Derived.Test.YtlonaniomnalnaaSnoc14
namespace Go.Proofs.Ytlonaniomnalnaa
open Go.RowKit
set_option maxRecDepth 100000 in
set_option maxHeartbeats 2000000 in
theorem shardSteps_walk (W : World) (s : ByteArray) (hz : s.size ≤ maxLen) (c : Int) (wc : (Lit.int .u8 c).wf = true) :
    Calls Try.prog 4 #[.string s, .int .u8 c] W fun e W' => e = .returned (.bool true) ∧ Only [] W W' := by
  obtain ⟨l, rfl, hsz⟩ := str_of s
  rw [hsz] at hz
  clear hsz
  obtain ⟨b, rfl⟩ := u8_of c wc
  unfold maxLen at hz
  by_cases hl : l.length ≤ 2000
  · have hd : decide ((2000 : Int) < l.length) = false := by simp; omega
    have hb8 := b.toNat_lt
    go_enter Try.func4, Try.ntmps4
    go_wp2_with fail
    refine (shown14 W).mono ?_
    rintro e w1 ⟨rfl, ho⟩
    go_wp2_with fail
    refine (shard_hash l w1 (by omega)).mono ?_
    rintro e w' ⟨rfl, rfl⟩
    obtain ⟨cap, W0, hcap, hrow, hoW, hcv⟩ := conv_bytes l w1
    go_wp2_with (at_builtin; go_loud (refine wpList_snoc rfl _ _ rfl w1 W0 l b cap (by omega) hcap hrow hoW rfl rfl ?_); clear hcv; intro A cap' w2 ho2 hcv)
    have CO := shard_of (l ++ [b]) w2 (by simp; omega)
    have CH := Lib.hid (shard_hash (l ++ [b]) w2 (by simp; omega))
    have hY := hashL_snoc l b
    have hYl := hashL_lt (l ++ [b])
    have hXl := hashL_lt l
    have hx : bits .xor .u32 (hashL l : Int) (b.toNat : Int) = ((hashL l ^^^ b.toNat : Nat) : Int) := u32_xor_nat _ b.toNat hXl (by omega)
    unfold hashB at hY
    have hS : shardL (l ++ [b]) = hashL (l ++ [b]) % 8 := rfl
    obtain ⟨S, hSS⟩ : ∃ S, shardL (l ++ [b]) = S := ⟨_, rfl⟩
    obtain ⟨Y, hYY⟩ : ∃ Y, hashL (l ++ [b]) = Y := ⟨_, rfl⟩
    obtain ⟨X, hXX⟩ : ∃ X, hashL l = X := ⟨_, rfl⟩
    rw [hYY, hXX] at hY
    rw [hSS, hYY] at hS
    rw [hYY] at CH hYl
    rw [hSS] at CO
    rw [hXX] at hXl hx ⊢
    obtain ⟨Z, hZZ⟩ : ∃ Z, X ^^^ b.toNat = Z := ⟨_, rfl⟩
    rw [hZZ] at hY hx
    have q1 : ((Y : Int) == (Z : Int) * 16777619 % 4294967296) = true := by simp; omega
    have q2 : ((S : Int) == (Y : Int) % 8) = true := by simp; omega
    have q3 : decide (0 ≤ (S : Int)) = true := by simp
    have q4 : decide ((S : Int) < 8) = true := by simp; omega
    clear hSS hYY hXX hZZ hY hS hcv hrow hoW
    refine CO.mono ?_
    rintro e w' ⟨rfl, rfl⟩
    go_wp2_with (go_at_call 18; refine CH.out.mono ?_; rintro e w' ⟨rfl, rfl⟩)
    go_ret
    exact ⟨rfl, ho.tr0 ho2⟩
  · have hd : decide ((2000 : Int) < l.length) = true := by simp; omega
    go_enter Try.func4, Try.ntmps4
    go_wp2_with fail
    refine (shown14 W).mono ?_
    rintro e w1 ⟨rfl, ho⟩
    go_wp2_with fail
    go_ret
    exact ⟨rfl, ho⟩
end Go.Proofs.Ytlonaniomnalnaa
