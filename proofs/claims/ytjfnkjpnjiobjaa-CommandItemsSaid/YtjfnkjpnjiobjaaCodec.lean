/-
  The walks over package codec: numbers written, numbers read.
-/
import Derived.Test.YtjfnkjpnjiobjaaBuild
import Derived.Test.YtjfnkjpnjiobjaaCodecPlain
import Derived.Test.YtjfnkjpnjiobjaaOpen
import Derived.StillTailTactics
import Derived.Test.YtjfnkjpnjiobjaaStr
namespace Go.Proofs.Ytjfnkjpnjiobjaa
open Go.RowKit

theorem holds_writer : Holds 169 := ⟨by kernel_rfl, by decide⟩

theorem and127 (c : Nat) (h : c < 256) : bits BinOp.and IntKind.u8 (c : Int) 127 = ((c % 128 : Nat) : Int) := by
  have : ∀ c : Fin 256, bits BinOp.and IntKind.u8 (c.val : Int) 127 = ((c.val % 128 : Nat) : Int) := by decide +kernel
  exact this ⟨c, h⟩
theorem or128 (c : Nat) (h : c < 256) : bits BinOp.or IntKind.u8 (c : Int) 128 = ((128 + c % 128 : Nat) : Int) := by
  have : ∀ c : Fin 256, bits BinOp.or IntKind.u8 (c.val : Int) 128 = ((128 + c.val % 128 : Nat) : Int) := by decide +kernel
  exact this ⟨c, h⟩
theorem last_byte (v : Nat) : bits BinOp.and IntKind.u8 ((v : Int) % 256) 127 = ((UInt8.ofNat (v % 128)).toNat : Int) := by
  rw [show ((v : Int) % 256) = ((v % 256 : Nat) : Int) from by omega, and127 _ (by omega), UInt8.toNat_ofNat']
  omega
theorem high_byte (v q : Nat) : bits BinOp.or IntKind.u8 ((v : Int) / 2 ^ (7 * q + 7) % 256) 128 = ((UInt8.ofNat (128 + v / 128 ^ (q + 1) % 128)).toNat : Int) := by
  have e : (2 : Nat) ^ (7 * q + 7) = 128 ^ (q + 1) := by
    rw [show 7 * q + 7 = 7 * (q + 1) from by omega, Nat.pow_mul]
  rw [show ((v : Int) / 2 ^ (7 * q + 7) % 256) = ((v / 2 ^ (7 * q + 7) % 256 : Nat) : Int) from by simp, or128 _ (by omega), UInt8.toNat_ofNat', e]
  omega
theorem wd_stop (f u : Nat) (h : u / 128 = 0) : wd f u = 0 := by cases f <;> simp [wd, h]
theorem wd_next (f u : Nat) (h : u / 128 ≠ 0) : wd (f + 1) u = wd f (u / 128) + 1 := by rw [wd, if_neg h]
set_option maxRecDepth 100000 in
set_option maxHeartbeats 1000000 in
theorem writer_natural (B b v : Nat) (l : List UInt8) (w : World) (hv : v < 18446744073709551616) (h : IsBld 169 B b l w) (hB : B ≤ w.heap.size) (hl : l.length ≤ 70368744177664) :
    Calls Try.prog 141 #[.pointer (some ⟨b, 0, none⟩), .int .u64 v] w fun e w' => e = .returned (.tuple #[]) ∧ Bld 169 B b (.pointer (some ⟨b, 0, none⟩)) (l ++ vb v) w' ∧ Below B w w' := by
  have H := Lib.hid h
  clear h
  go_enter Try.func141, Try.ntmps141
  go_wp2_with fail
  go_loop [4, 5] (fun n k => ∃ j : Nat, j ≤ 9 ∧ n = .int .i64 ((7 * j : Nat) : Int) ∧ k = .int .u64 ((v / 128 ^ j / 128 : Nat) : Int) ∧ wd 9 v = j + wd (9 - j) (v / 128 ^ j)) (fun _ k => (intOf k).toNat)
  case atStart => exact ⟨0, by omega, rfl, by simp, by simp⟩
  case round =>
    obtain ⟨j, hj, rfl, rfl, hw⟩ := hrel
    obtain ⟨u, hu⟩ : ∃ u, v / 128 ^ j = u := ⟨_, rfl⟩
    rw [hu] at hw ⊢
    have hu2 : v / 128 ^ (j + 1) = u / 128 := by rw [Nat.pow_succ, ← Nat.div_div_eq_div_mul, hu]
    have HU := Lib.hid hu
    have HU2 := Lib.hid hu2
    have HW := Lib.hid hw
    clear hu hu2 hw
    by_cases h0 : u / 128 = 0
    · have HJ : Hid (wd 9 v = j) := by have := HW.out; rw [wd_stop _ _ h0] at this; exact this
      rw [h0]
      clear h0 HW
      go_wp2_with fail
      go_loopw [4] (fun n wr => ∃ (q : Nat) (p : List UInt8), q ≤ 9 ∧ n = .int .i64 (7 * (q : Int)) ∧ Hid (p ++ w7 v q = vb v) ∧ Hid (IsBld 169 B b (l ++ p) wr) ∧ Below B w wr) (fun n _ => (intOf n).toNat)
      case atStart => exact ⟨j, [], hj, rfl, by rw [vb_eq_w7 v hv, HJ.out]; rfl, by simpa using H, Below.refl _ _⟩
      case round =>
        obtain ⟨q, p, hq, rfl, hp, hb, hbel⟩ := hrel
        have hpl : (p ++ w7 v q).length ≤ 10 := by rw [hp.out]; exact (vb_length v hv).2
        cases q with
        | zero =>
          have hbs := hbel.size
          go_wp2_with fail
          rw [last_byte]
          refine (writeByte _ holds_writer B b _ _ _ hb.out (by rw [List.length_append]; rw [List.length_append] at hpl; omega) (by omega)).mono ?_
          rintro e w1 ⟨rfl, hb1, hbel1⟩
          have HB1 := Lib.hid hb1
          clear hb1
          go_wp2_with fail
          go_end0
          refine ⟨rfl, ?_, hbel.trans hbel1⟩
          rw [← hp.out]
          have := HB1.out
          rwa [List.append_assoc] at this
        | succ q =>
          have hbs := hbel.size
          have e7 : (7 * ((q + 1 : Nat) : Int)) = 7 * (q : Int) + 7 := by omega
          rw [e7]
          have hpos : (0 : Int) < 7 * (q : Int) + 7 := by omega
          have hpos' : (0 : Int) ≤ 7 * (q : Int) + 7 := by omega
          have hpos3 : 7 * (q : Int) + 7 ≤ 63 := by omega
          clear e7 hpl
          go_wp2_with fail
          go_still_tail 8, (by kernel_rfl)
          change wpList _ _ _ _ _ wr.drew
          go_wp2_with fail
          rw [high_byte]
          refine (writeByte _ holds_writer B b _ _ _ (show IsBld _ B b (l ++ p) wr.drew from hb.out) (by rw [List.length_append]; have := (vb_length v hv).2; rw [← hp.out, List.length_append] at this; omega) (show B ≤ wr.heap.size by omega)).mono ?_
          rintro e w1 ⟨rfl, hb1, hbel1⟩
          have HB1 : Hid (IsBld 169 B b (l ++ (p ++ [UInt8.ofNat (128 + v / 128 ^ (q + 1) % 128)])) w1) := by
            show _
            rw [← List.append_assoc]; exact .inr hb1
          clear hb1
          go_wp2_with fail
          go_roundw
          case rel => exact ⟨q, p ++ [UInt8.ofNat (128 + v / 128 ^ (q + 1) % 128)], by omega, by go_num, by show _ = _; rw [List.append_assoc]; exact hp.out, HB1, hbel.drew.trans hbel1⟩
          case measure => simp [intOf]; omega
    · have hpos : (0 : Int) < ((u / 128 : Nat) : Int) := by omega
      have hj9 : j ≤ 8 := by
        rcases Nat.lt_or_ge j 9 with h | h
        · omega
        · obtain rfl : j = 9 := by omega
          have := HU.out
          have e : (128 : Nat) ^ 9 = 9223372036854775808 := by decide
          rw [e] at this
          omega
      have HW2 : Hid (wd 9 v = (j + 1) + wd (9 - (j + 1)) (v / 128 ^ (j + 1))) := by
        have := HW.out
        rw [show 9 - j = (9 - (j + 1)) + 1 from by omega, wd_next _ _ h0] at this
        show _ = _
        rw [HU2.out]; omega
      clear h0 HW
      go_wp2_with fail
      go_round
      case rel => exact ⟨j + 1, by omega, by go_num, by rw [HU2.out]; go_num, HW2.out⟩
      case measure => simp [intOf]; omega

theorem xor_ones (x : Nat) (h : x < 18446744073709551616) : x ^^^ 18446744073709551615 = 18446744073709551615 - x := by
  apply Nat.eq_of_testBit_eq
  intro i
  rw [Nat.testBit_xor, show (18446744073709551615 : Nat) = 2 ^ 64 - 1 from by decide, Nat.testBit_two_pow_sub_one]
  rw [show 2 ^ 64 - 1 - x = 2 ^ 64 - (x + 1) from by omega, Nat.testBit_two_pow_sub_succ (by simpa using h)]
  by_cases hi : i < 64
  · simp [hi]
  · simp [hi]
    exact Nat.testBit_lt_two_pow (Nat.lt_of_lt_of_le (show x < 2 ^ 64 by simpa using h) (Nat.pow_le_pow_right (by omega) (by omega)))
theorem zig_pos (n : Int) (h0 : 0 ≤ n) (h1 : n ≤ 9223372036854775807) : bits BinOp.xor IntKind.u64 (n * 2) (n / 9223372036854775808) = ((zig n : Nat) : Int) := by
  have e1 : n * 2 = ((2 * n.toNat : Nat) : Int) := by omega
  have e2 : n / 9223372036854775808 = ((0 : Nat) : Int) := by omega
  rw [e1, e2, bits_xor_u64_nat _ _ (by omega) (by omega)]
  unfold zig
  rw [if_pos h0]; simp
theorem zig_neg (n : Int) (h0 : n < 0) (h1 : -9223372036854775808 ≤ n) : bits BinOp.xor IntKind.u64 (IntKind.u64.wrap (IntKind.u64.wrap n * 2)) (IntKind.u64.wrap (n / 9223372036854775808)) = ((zig n : Nat) : Int) := by
  have e1 : IntKind.u64.wrap (IntKind.u64.wrap n * 2) = (((n + 18446744073709551616) * 2 % 18446744073709551616).toNat : Nat) := by
    simp [IntKind.wrap, IntKind.signed, IntKind.bits]
    omega
  have e2 : IntKind.u64.wrap (n / 9223372036854775808) = ((18446744073709551615 : Nat) : Int) := by
    simp [IntKind.wrap, IntKind.signed, IntKind.bits]
    omega
  rw [e1, e2, bits_xor_u64_nat _ _ (by omega) (by omega), xor_ones _ (by omega)]
  unfold zig
  rw [if_neg (by omega)]
  omega
set_option maxRecDepth 100000 in
theorem writer_int (B b : Nat) (n : Int) (l : List UInt8) (w : World) (hn : Wide64 n) (h : IsBld 169 B b l w) (hB : B ≤ w.heap.size) (hl : l.length ≤ 70368744177664) :
    Calls Try.prog 127 #[.pointer (some ⟨b, 0, none⟩), .int .i64 n] w fun e w' => e = .returned (.tuple #[]) ∧ Bld 169 B b (.pointer (some ⟨b, 0, none⟩)) (l ++ ib n) w' ∧ Below B w w' := by
  obtain ⟨n0, n1⟩ := hn
  have HN := Lib.hid (writer_natural B b (zig n) l w (zig_lt n n0 n1) h hB hl)
  clear h
  by_cases h0 : 0 ≤ n
  · have HZ := Lib.hid (zig_pos n h0 n1)
    go_enter Try.func127, Try.ntmps127
    go_wp2_with fail
    rw [HZ.out]
    refine HN.out.mono ?_
    rintro e w1 ⟨rfl, hb, hbel⟩
    have HB := Lib.hid hb
    clear hb
    go_wp2_with fail
    go_end0
    exact ⟨rfl, HB.out, hbel⟩
  · have h0' : n < 0 := by omega
    have HZ := Lib.hid (zig_neg n h0' n0)
    clear h0
    go_enter Try.func127, Try.ntmps127
    go_wp2_with fail
    rw [HZ.out]
    refine HN.out.mono ?_
    rintro e w1 ⟨rfl, hb, hbel⟩
    have HB := Lib.hid hb
    clear hb
    go_wp2_with fail
    go_end0
    exact ⟨rfl, HB.out, hbel⟩
def ivs (l : List Int) : List Value := l.map (Value.int .i64)
theorem SlAt.below {w w' : World} {B sz n : Nat} {v : Value} {xs : List Value} (h : SlAt w B v sz n xs) (hb : Below B w w') : SlAt w' B v sz n xs := by
  obtain ⟨hl, A, c, hv, hnc, hc, h⟩ := h
  refine ⟨hl, A, c, hv, hnc, hc, fun hn => ?_⟩
  obtain ⟨b, o, hA, hbk, hh⟩ := h hn
  exact ⟨b, o, hA, hbk, fun j u hu => (hb.cell (p := ⟨b, o + j, none⟩) hbk).trans (hh j u hu)⟩
theorem isb_snoc (l : List Int) (k : Nat) (x : Int) (h : l[k]? = some x) : isb (l.take (k + 1)) = isb (l.take k) ++ ib x := by
  unfold isb
  rw [List.take_add_one, h, List.flatMap_append]; simp
set_option maxRecDepth 100000 in
set_option maxHeartbeats 1000000 in
theorem each_int (B b : Nat) (v : Value) (xs : List Int) (l : List UInt8) (w : World) (hs : SlAt w B v 1 xs.length (ivs xs)) (hx : ∀ x ∈ xs, Wide64 x) (h : IsBld 169 B b l w) (hB : B ≤ w.heap.size) (hl : l.length + 10 * xs.length ≤ 70368744177664) :
    Calls Try.prog 126 #[v, .func (.func 127) #[.pointer (some ⟨b, 0, none⟩)] #[]] w fun e w' => e = .returned (.tuple #[]) ∧ IsBld 169 B b (l ++ isb xs) w' ∧ Below B w w' := by
  obtain ⟨A, c, rfl⟩ := hs.shape
  have H := Lib.hid h
  have HS := Lib.hid hs
  have HX := Lib.hid hx
  have hxl : xs.length ≤ 70368744177664 := by omega
  clear h hs hx
  go_enter Try.func126, Try.ntmps126
  go_wp2_with fail
  go_loopw [8] (fun i wr => ∃ k : Nat, k ≤ xs.length ∧ i = .int .i64 k ∧ Hid (IsBld 169 B b (l ++ isb (xs.take k)) wr) ∧ Below B w wr) (fun i _ => xs.length - (intOf i).toNat)
  case atStart => exact ⟨0, by omega, rfl, by simpa [isb] using H, Below.refl _ _⟩
  case round =>
    obtain ⟨k, hk, rfl, hb, hbel⟩ := hrel
    by_cases hlt : k < xs.length
    · have hlt' : (k : Int) < (xs.length : Int) := by omega
      have hk1 := List.getElem?_eq_getElem hlt
      obtain ⟨x, hx⟩ : ∃ x, xs[k] = x := ⟨_, rfl⟩
      rw [hx] at hk1
      have hw := HX.out x (List.mem_of_getElem? hk1)
      obtain ⟨ab, ao, ac, hv, hab, hc⟩ := (HS.out.below hbel).at_ (by omega)
      have q0 := hc k (.int .i64 x) (by unfold ivs; rw [List.getElem?_map, hk1]; rfl)
      have hsz := hbel.size
      have hlen := isb_length (xs.take k) fun y hy => HX.out y (List.mem_of_mem_take hy)
      have HW := Lib.hid (writer_int B b x _ wr hw hb.out (by omega) (by rw [List.length_append]; rw [List.length_take] at hlen; omega))
      have HE := Lib.hid (isb_snoc xs k x hk1)
      injection hv with e1 e2 e3
      subst e1; subst e3
      clear e2 hx hk1 hw hc hlen
      go_wp2_with (go_at_call 127; refine HW.out.mono ?_; rintro e w1 ⟨rfl, hb1, hbel1⟩; have HB1 := Lib.hid hb1; clear hb1)
      go_roundw
      case rel => exact ⟨k + 1, by omega, by go_num, by show IsBld _ _ _ _ _; rw [HE.out, ← List.append_assoc]; exact .inr HB1.out, hbel.trans hbel1⟩
      case measure => simp [intOf]; omega
    · have hd0 : decide ((k : Int) < (xs.length : Int)) = false := by simp; omega
      obtain rfl : k = xs.length := by omega
      rw [List.take_length] at hb
      go_wp2_with fail
      go_end0
      exact ⟨rfl, hb.out, hbel⟩

set_option maxRecDepth 100000 in
theorem codec_int (v : Value) (xs : List Int) (w : World) (hs : SlAt w w.heap.size v 1 xs.length (ivs xs)) (hx : ∀ x ∈ xs, Wide64 x) (hl : xs.length ≤ 1000000000) :
    Calls Try.prog 99 #[v] w fun e w' => e = .returned (.string ⟨(isb xs).toArray⟩) ∧ Only [] w w' := by
  obtain ⟨A, c, rfl⟩ := hs.shape
  have hs1 : SlAt (w.alloc (.cells #[.pointer none, .slice none 0 0] 169)) w.heap.size (.slice A xs.length c) 1 xs.length (ivs xs) := hs.below ((Below.refl _ w).alloc (Nat.le_refl _) _)
  have HE := Lib.hid (each_int w.heap.size w.heap.size _ xs [] _ hs1 hx (.inl (Bld.new 169 w)) (by simp) (by simp; omega))
  clear hs hs1 hx
  go_enter Try.func99, Try.ntmps99
  go_wp2_with fail
  refine HE.out.mono ?_
  rintro e w1 ⟨rfl, hb, hbel⟩
  have HS := Lib.hid (builder_string_any _ _ _ _ _ hb)
  clear hb
  go_wp2_with fail
  refine HS.out.mono ?_
  rintro e w2 ⟨rfl, hbel2⟩
  go_wp2_with fail
  go_ret
  exact ⟨by simp, Only.of_below ((((Below.refl _ w).alloc (Nat.le_refl _) _).trans hbel).trans hbel2)⟩
end Go.Proofs.Ytjfnkjpnjiobjaa
