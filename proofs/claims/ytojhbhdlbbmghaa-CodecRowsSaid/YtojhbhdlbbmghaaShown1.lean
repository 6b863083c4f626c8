/-
  Chapter 1's examples; which of n things a raw number speaks of.
-/
import Derived.Test.YtojhbhdlbbmghaaRef1
import Derived.Test.YtojhbhdlbbmghaaOpen
namespace Go.Proofs.Ytojhbhdlbbmghaa
open Go.RowKit
theorem SlAt.lit (w : World) (t : TypeId) (cs : List Value) (n sz : Nat) (hl : cs.length = n * sz) (hn : n ≤ maxLen) : SlAt (w.alloc (.cells cs.toArray t)) (w.alloc (.cells cs.toArray t)).heap.size (.slice (some ⟨w.heap.size, 0, none⟩) n n) sz n cs :=
  SlAt.of_own (World.ownsRow_lit w cs.toArray n (Nat.le_refl _) hn (by simpa using hl))
theorem Only.sz {S : List Nat} {w w' : World} (h : Only S w w') : w.heap.size ≤ w'.heap.size := h.size

set_option maxRecDepth 100000 in
set_option maxHeartbeats 1000000 in
theorem shown1 (w : World) : Calls Try.prog 23 #[] w fun e w' => e = .returned (.bool true) ∧ Only [] w w' := by
  have e1 : rdV (rdI [128, 1]) = .tuple #[.int .i64 0, .string ⟨#[]⟩, .bool false] := by
    rw [show rdI [128, 1] = none from by decide +kernel]; rfl
  have e2 : frV (frE [97]) = .tuple #[.string ⟨#[0, 0, 0, 1, 197, 125, 254, 35, 97]⟩, .int .i64 0] := by
    rw [show frE [97] = ([0, 0, 0, 1, 197, 125, 254, 35, 97], 0) from by decide +kernel]; rfl
  have e3 : isb [0, -1, 1, 64, -300] = [0, 1, 2, 129, 0, 132, 87] := by decide +kernel
  have e4 : tsb [[97, 98]] = [4, 97, 98] := by decide +kernel
  have e5 : crcL 4294967295 [49, 50, 51, 52, 53, 54, 55, 56, 57] ^^^ 4294967295 = 3808858755 := by decide +kernel
  have e6 : unV (unE [0, 0, 0, 1, 197, 125, 254, 35, 97, 122]) = .tuple #[.string ⟨#[97]⟩, .int .i64 9, .int .i64 0] := by
    rw [show unE [0, 0, 0, 1, 197, 125, 254, 35, 97, 122] = ([97], 9, 0) from by decide +kernel]; rfl
  have e7 : unV (unE [0, 0, 0, 1, 197, 125, 254, 35]) = .tuple #[.string ⟨#[]⟩, .int .i64 0, .int .i64 8] := by
    rw [show unE [0, 0, 0, 1, 197, 125, 254, 35] = ([], 0, 8) from by decide +kernel]; rfl
  have e8 : unV (unE [0, 0, 0, 1, 197, 125, 254, 35, 98]) = .tuple #[.string ⟨#[]⟩, .int .i64 0, .int .i64 9] := by
    rw [show unE [0, 0, 0, 1, 197, 125, 254, 35, 98] = ([], 0, 9) from by decide +kernel]; rfl
  have c1 := fun w => codec_toInt [128, 1] w (by decide)
  have c2 := fun w => codec_Frame [97] w (by decide)
  have c3 := fun w : World => codec_int _ [0, -1, 1, 64, -300] _ (SlAt.lit w 3 [.int .i64 0, .int .i64 (-1), .int .i64 1, .int .i64 64, .int .i64 (-300)] 5 1 rfl (by decide)) (by simp [Wide64]) (by decide)
  have c4 := fun w : World => codec_text _ [[97, 98]] _ (SlAt.lit w 9 [.string ⟨#[97, 98]⟩] 1 1 rfl (by decide)) (by decide) (by rw [e4]; decide)
  have c5 := fun w => codec_Crc [49, 50, 51, 52, 53, 54, 55, 56, 57] w (by decide)
  have c6 := fun w => codec_Unframe [0, 0, 0, 1, 197, 125, 254, 35, 97, 122] w (by decide)
  have c7 := fun w => codec_Unframe [0, 0, 0, 1, 197, 125, 254, 35] w (by decide)
  have c8 := fun w => codec_Unframe [0, 0, 0, 1, 197, 125, 254, 35, 98] w (by decide)
  rw [e1] at c1
  rw [e2] at c2
  rw [e3] at c3
  rw [e4] at c4
  rw [e5] at c5
  rw [e6] at c6
  rw [e7] at c7
  rw [e8] at c8
  have C1 := Lib.hid c1; have C2 := Lib.hid c2; have C3 := Lib.hid c3; have C4 := Lib.hid c4
  have C5 := Lib.hid c5; have C6 := Lib.hid c6; have C7 := Lib.hid c7; have C8 := Lib.hid c8
  clear c1 c2 c3 c4 c5 c6 c7 c8 e1 e2 e3 e4 e5 e6 e7 e8
  go_enter Try.func23, Try.ntmps23
  go_wp2_with fail
  refine (C1.out _).mono ?_
  rintro e w1 ⟨rfl, ho1⟩
  go_wp2_with fail
  refine (C2.out _).mono ?_
  rintro e w2 ⟨rfl, ho2⟩
  go_wp2_with fail
  refine (C3.out _).mono ?_
  rintro e w3 ⟨rfl, ho3⟩
  go_wp2_with fail
  refine (C4.out _).mono ?_
  rintro e w4 ⟨rfl, ho4⟩
  go_wp2_with fail
  refine (C5.out _).mono ?_
  rintro e w5 ⟨rfl, rfl⟩
  go_wp2_with fail
  · exfalso
    have h : (!((⟨#[0, 0, 0, 1, 197, 125, 254, 35, 97]⟩ : ByteArray).extract 0 4).toList == [0, 0, 0, 1]) = true := by assumption
    rw [show (⟨#[0, 0, 0, 1, 197, 125, 254, 35, 97]⟩ : ByteArray).extract 0 4 = ⟨#[0, 0, 0, 1]⟩ from str_from_start [0, 0, 0, 1, 197, 125, 254, 35, 97] 4] at h
    simp at h
  rw [show (⟨#[0, 0, 0, 1, 197, 125, 254, 35, 97]⟩ : ByteArray) ++ ⟨#[122]⟩ = ⟨#[0, 0, 0, 1, 197, 125, 254, 35, 97, 122]⟩ from ba_append [0, 0, 0, 1, 197, 125, 254, 35, 97] [122]]
  refine (C6.out _).mono ?_
  rintro e w6 ⟨rfl, ho6⟩
  go_wp2_with fail
  rw [show (⟨#[0, 0, 0, 1, 197, 125, 254, 35, 97]⟩ : ByteArray).extract 0 8 = ⟨#[0, 0, 0, 1, 197, 125, 254, 35]⟩ from str_from_start [0, 0, 0, 1, 197, 125, 254, 35, 97] 8]
  refine (C7.out _).mono ?_
  rintro e w7 ⟨rfl, ho7⟩
  go_wp2_with fail
  rw [show (⟨#[0, 0, 0, 1, 197, 125, 254, 35, 97]⟩ : ByteArray).extract 0 8 = ⟨#[0, 0, 0, 1, 197, 125, 254, 35]⟩ from str_from_start [0, 0, 0, 1, 197, 125, 254, 35, 97] 8]
  rw [show (⟨#[0, 0, 0, 1, 197, 125, 254, 35]⟩ : ByteArray) ++ ⟨#[98]⟩ = ⟨#[0, 0, 0, 1, 197, 125, 254, 35, 98]⟩ from ba_append [0, 0, 0, 1, 197, 125, 254, 35] [98]]
  refine (C8.out _).mono ?_
  rintro e w8 ⟨rfl, ho8⟩
  go_wp2_with fail
  go_ret
  exact ⟨rfl, ((((((ho1.tr0 ho2).alloc _).tr0 ho3).alloc _).tr0 ho4).tr0 ho6).tr0 (ho7.tr0 ho8)⟩

/-- Which of n things the raw number c speaks of. -/
def pickN (c : Int) (n : Nat) : Nat := (if c < 0 then -(c + 1) else c).toNat % n
theorem pickN_lt (c : Int) (n : Nat) (h : 0 < n) : pickN c n < n := Nat.mod_lt _ h
theorem pick1 (c : Int) (n : Nat) (w : World) (hc : Wide64 c) (hn : 0 < n) (hn2 : n ≤ 1000000000000) : Calls Try.prog 34 #[.int .i64 c, .int .i64 n] w fun e w' => e = .returned (.int .i64 (pickN c n : Nat)) ∧ w = w' := by
  obtain ⟨h0, h1⟩ := hc
  by_cases hneg : c < 0
  · have HP : Hid (-((c + 1).tmod (n : Int)) = (pickN c n : Nat)) := by
      show _ = _; unfold pickN; rw [if_pos hneg, ← Int.neg_tmod, Int.tmod_eq_emod_of_nonneg (by omega), Int.natCast_emod, Int.toNat_of_nonneg (by omega)]
    have hn' : (0 : Int) < n := by omega
    go_enter Try.func34, Try.ntmps34
    go_wp2_with fail
    go_ret
    exact ⟨by rw [← HP.out]; rfl, rfl⟩
  · have HP : Hid (c % (n : Int) = (pickN c n : Nat)) := by
      show _ = _; unfold pickN; rw [if_neg hneg, Int.natCast_emod, Int.toNat_of_nonneg (by omega)]
    have hd : decide (c < 0) = false := by simpa using hneg
    go_enter Try.func34, Try.ntmps34
    go_wp2_with fail
    go_ret
    exact ⟨by rw [← HP.out]; rfl, rfl⟩

theorem codec_Crc' (l : List UInt8) (w : World) (hl : l.length ≤ 1000000000000) : Calls Try.prog 32 #[.string ⟨l.toArray⟩] w fun e w' => e = .returned (.int .u32 (sumOf l : Nat)) ∧ w = w' := codec_Crc l w hl
theorem codec_Frame' (l : List UInt8) (w : World) (hl : l.length ≤ 1000000000000) (a : List UInt8) (n : Nat) (h : frE l = (a, n)) : Calls Try.prog 28 #[.string ⟨l.toArray⟩] w fun e w' => e = .returned (.tuple #[.string ⟨a.toArray⟩, .int .i64 n]) ∧ Only [] w w' := by
  have := codec_Frame l w hl
  rw [h] at this
  exact this
theorem codec_Unframe' (l : List UInt8) (w : World) (hl : l.length ≤ 1000000000000) (a : List UInt8) (m n : Nat) (h : unE l = (a, m, n)) : Calls Try.prog 30 #[.string ⟨l.toArray⟩] w fun e w' => e = .returned (.tuple #[.string ⟨a.toArray⟩, .int .i64 m, .int .i64 n]) ∧ Only [] w w' := by
  have := codec_Unframe l w hl
  rw [h] at this
  exact this
theorem ref_Unframe' (l : List UInt8) (w : World) (hl : l.length ≤ 1000000000000) (a : List UInt8) (m n : Nat) (h : unE l = (a, m, n)) : Calls Try.prog 31 #[.string ⟨l.toArray⟩] w fun e w' => e = .returned (.tuple #[.string ⟨a.toArray⟩, .int .i64 m, .int .i64 n]) ∧ Only [] w w' := by
  have := ref_Unframe l w hl
  rw [h] at this
  exact this

set_option maxRecDepth 100000 in
theorem ref_Frame (l : List UInt8) (w : World) (hl : l.length ≤ 1000000000000) (a : List UInt8) (n : Nat) (h : frE l = (a, n)) : Calls Try.prog 29 #[.string ⟨l.toArray⟩] w fun e w' => e = .returned (.tuple #[.string ⟨a.toArray⟩, .int .i64 n]) ∧ Only [] w w' := by
  by_cases hn : l.length ≤ 65536
  · have HE : frE l = (frameL l, 0) := by unfold frE; rw [if_pos hn]
    rw [HE] at h
    injection h with h1 h2
    subst h1; subst h2
    clear HE
    have hd : decide ((65536 : Int) < l.length) = false := by simp; omega
    have h4 : (fourL l.length).length = 4 := rfl
    have hsl := sumOf_lt (fourL l.length ++ l)
    have hu4 : (fourL (sumOf (fourL l.length ++ l))).length = 4 := rfl
    have HV : Hid ((⟨(frameL l).toArray⟩ : ByteArray) = ⟨(fourL l.length).toArray⟩ ++ ⟨(fourL (sumOf (fourL l.length ++ l))).toArray⟩ ++ ⟨l.toArray⟩) := by show _ = _; rw [ba_append, ba_append]; rfl
    have hxl : (fourL l.length ++ l).length ≤ 1000000000000 := by rw [List.length_append]; omega
    obtain ⟨q, hq⟩ : ∃ q, fourL l.length = q := ⟨_, rfl⟩
    have HQ : Hid (fourL l.length = q) := hq
    rw [hq] at hsl hu4 HV hxl h4
    clear hq
    go_enter Try.func29, Try.ntmps29
    go_wp2_with fail
    refine (ref_four l.length _ (by omega)).mono ?_
    rw [HQ.out]
    rintro e w1 ⟨rfl, ho1⟩
    go_wp2_with fail
    rw [ba_append q l]
    refine (ref_Crc (q ++ l) _ hxl).mono ?_
    rintro e w2 ⟨rfl, rfl⟩
    go_wp2_with fail
    refine (ref_four (sumOf (q ++ l)) _ hsl).mono ?_
    rintro e w3 ⟨rfl, ho3⟩
    go_wp2_with fail
    go_ret2
    exact ⟨by rw [HV.out]; rfl, ho1.tr0 ho3⟩
  · have HE : frE l = ([], 10) := by unfold frE; rw [if_neg hn]
    rw [HE] at h
    injection h with h1 h2
    subst h1; subst h2
    clear HE
    have hd : decide ((65536 : Int) < l.length) = true := by simp; omega
    go_enter Try.func29, Try.ntmps29
    go_wp2_with fail
    go_ret2
    exact ⟨rfl, Only.refl _ _⟩
end Go.Proofs.Ytojhbhdlbbmghaa
