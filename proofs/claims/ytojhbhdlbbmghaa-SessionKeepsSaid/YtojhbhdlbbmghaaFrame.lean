import Derived.Test.YtojhbhdlbbmghaaCrc
import Derived.Test.YtojhbhdlbbmghaaBuild
namespace Go.Proofs.Ytojhbhdlbbmghaa
open Go.RowKit
def fourL (v : Nat) : List UInt8 := [UInt8.ofNat (v / 16777216), UInt8.ofNat (v / 65536), UInt8.ofNat (v / 256), UInt8.ofNat v]
theorem conv_block (w : World) (zs : List Int) (l : List UInt8) (hl : l.map (fun x => (x.toNat : Int)) = zs) (n : Nat) (hn : l.length = n) :
    (convert 37 9 (.slice (some ⟨w.heap.size, 0, none⟩) n n)).run Try.prog (w.alloc (.cells (zs.map (Value.int .u8)).toArray 5)) = .ok (.string ⟨l.toArray⟩) (w.alloc (.cells (zs.map (Value.int .u8)).toArray 5)) := by
  subst hn
  refine run_convert_bytes_back _ _ _ _ _ _ l Try.underlying37 Try.underlying5 Try.underlying9 fun j hj => ?_
  have := (Cells.new w 5 (zs.map (Value.int .u8))).cell (k := j) (v := .int .u8 (l[j].toNat : Int)) (by rw [← hl]; simp [List.getElem?_eq_getElem hj])
  unfold Addr.add
  by_cases h : j = 0
  · subst h; simpa using this
  · simp only [h, if_false, Nat.zero_add]; exact this
theorem fourL_map (v : Nat) (hv : v < 4294967296) : (fourL v).map (fun x => (x.toNat : Int)) = [(v : Int) / 16777216, (v : Int) / 65536 % 256, (v : Int) / 256 % 256, (v : Int) % 256] := by
  unfold fourL
  simp only [List.map_cons, List.map_nil, UInt8.toNat_ofNat']
  simp only [List.cons.injEq, and_true]
  refine ⟨?_, ?_, ?_, ?_⟩ <;> omega
set_option maxRecDepth 100000 in
theorem codec_four (v : Nat) (w : World) (hv : v < 4294967296) : Calls Try.prog 81 #[.int .u32 v] w fun e w' => e = .returned (.string ⟨(fourL v).toArray⟩) ∧ Only [] w w' := by
  have hcv := conv_block w _ _ (fourL_map v hv) 4 rfl
  simp only [List.map_cons, List.map_nil] at hcv
  go_enter Try.func81, Try.ntmps81
  go_wp2_with fail
  go_ret
  exact ⟨rfl, (Only.refl _ _).alloc _⟩
theorem codec_Crc (l : List UInt8) (w : World) (hl : l.length ≤ 1000000000000) : Calls Try.prog 32 #[.string ⟨l.toArray⟩] w fun e w' => e = .returned (.int .u32 (crcL 4294967295 l ^^^ 4294967295 : Nat)) ∧ w = w' := by
  have hlt := crcL_lt l 4294967295 (by omega)
  have hx : bits .xor .u32 IntKind.u32.max (crcL 4294967295 l : Nat) = ((crcL 4294967295 l ^^^ 4294967295 : Nat) : Int) := by
    rw [bits_xor_comm]
    show bits .xor .u32 _ ((4294967295 : Nat) : Int) = _
    exact u32_xor_nat _ _ hlt (by omega)
  have HX := Lib.hid hx
  clear hx
  go_enter Try.func32, Try.ntmps32
  go_wp2_with fail
  refine (codec_sum 4294967295 l _ (by omega) hl).mono ?_
  rintro e w1 ⟨rfl, rfl⟩
  go_wp2_with fail
  go_ret
  exact ⟨by rw [← HX.out]; rfl, rfl⟩
set_option maxRecDepth 100000 in
theorem ref_four (v : Nat) (w : World) (hv : v < 4294967296) : Calls Try.prog 83 #[.int .u32 v] w fun e w' => e = .returned (.string ⟨(fourL v).toArray⟩) ∧ Only [] w w' := by
  have hcv := conv_block w _ _ (fourL_map v hv) 4 rfl
  simp only [List.map_cons, List.map_nil] at hcv
  go_enter Try.func83, Try.ntmps83
  go_wp2_with fail
  go_ret
  exact ⟨rfl, (Only.refl _ _).alloc _⟩

/-- The sum of bytes; a frame. -/
def sumOf (l : List UInt8) : Nat := crcL 4294967295 l ^^^ 4294967295
theorem sumOf_lt (l : List UInt8) : sumOf l < 4294967296 := Nat.xor_lt_two_pow (n := 32) (crcL_lt l _ (by omega)) (by omega)
def frameL (l : List UInt8) : List UInt8 := fourL l.length ++ fourL (sumOf (fourL l.length ++ l)) ++ l
theorem frameL_length (l : List UInt8) : (frameL l).length = l.length + 8 := by unfold frameL fourL; simp

set_option maxRecDepth 100000 in
set_option maxHeartbeats 1000000 in
theorem ref_Crc (l : List UInt8) (w : World) (hl : l.length ≤ 1000000000000) : Calls Try.prog 33 #[.string ⟨l.toArray⟩] w fun e w' => e = .returned (.int .u32 (sumOf l : Nat)) ∧ w = w' := by
  go_enter Try.func33, Try.ntmps33
  go_wp2_with fail
  go_loop [3, 4] (fun c' i => ∃ k : Nat, k ≤ l.length ∧ i = .int .i64 k ∧ c' = .int .u32 (crcL 4294967295 (l.take k))) (fun _ i => l.length - (intOf i).toNat)
  case atStart => exact ⟨0, by omega, rfl, rfl⟩
  case round =>
    obtain ⟨k, hk, rfl, rfl⟩ := hrel
    have hlt2 := crcL_lt (l.take k) 4294967295 (by omega)
    by_cases hlt : k < l.length
    · have hk1 := List.getElem?_eq_getElem hlt
      obtain ⟨b, hb⟩ : ∃ b, l[k] = b := ⟨_, rfl⟩
      rw [hb] at hk1
      have hix : ∀ h : k < (⟨l.toArray⟩ : ByteArray).size, (⟨l.toArray⟩ : ByteArray)[k]'h = b := fun _ => hb
      have hS := crcL_snoc 4294967295 l k b hk1
      obtain ⟨d, hd⟩ : ∃ d, crcL 4294967295 (l.take k) = d := ⟨_, rfl⟩
      rw [hd] at hS hlt2 ⊢
      have HS := Lib.hid hS
      have hb8 := b.toNat_lt
      have hx : bits .xor .u32 (d : Int) (b.toNat : Int) = ((d ^^^ b.toNat : Nat) : Int) := u32_xor_nat d b.toNat hlt2 (by omega)
      have hxl : d ^^^ b.toNat < 4294967296 := Nat.xor_lt_two_pow (n := 32) (by omega) (by omega)
      obtain ⟨x, hxx⟩ : ∃ x, d ^^^ b.toNat = x := ⟨_, rfl⟩
      rw [hxx] at hx hxl
      have HS2 : Hid (crcL 4294967295 (l.take (k + 1)) = crcBits 8 x) := by show _ = _; rw [HS.out, ← hxx]; rfl
      clear hb hk1 hd hS HS hxx
      go_wp2_with fail
      clear hx
      go_loop [3, 5] (fun c' i => ∃ j : Nat, j ≤ 8 ∧ i = .int .i64 j ∧ c' = .int .u32 (crcBits j x)) (fun _ i => 8 - (intOf i).toNat)
      case atStart => exact ⟨0, by omega, rfl, rfl⟩
      case round =>
        obtain ⟨j, hj, rfl, rfl⟩ := hrel
        have hlt3 := crcBits_lt j x hxl
        have hS3 : crcBits (j + 1) x = crcBit (crcBits j x) := rfl
        obtain ⟨y, hy⟩ : ∃ y, crcBits j x = y := ⟨_, rfl⟩
        by_cases hj8 : j < 8
        · rw [hy] at hlt3 hS3 ⊢
          have HS3 := Lib.hid hS3
          clear hy hS3
          have hj8' : (j : Int) < 8 := by omega
          by_cases hy2 : y % 2 = 1
          · have hy3 : ((y : Int) % 2 == 1) = true := by simp; omega
            have hx5 : bits .xor .u32 ((y : Int) / 2) 2197175160 = ((crcBit y : Nat) : Int) := by
              unfold crcBit
              rw [if_pos hy2, show ((y : Int) / 2) = ((y / 2 : Nat) : Int) from by omega, show (2197175160 : Int) = ((2197175160 : Nat) : Int) from rfl, u32_xor_nat _ _ (by omega) (by omega)]
            clear hy2
            go_wp2_with fail
            go_round
            case rel => exact ⟨j + 1, by omega, by go_num, by rw [HS3.out]⟩
            case measure => simp [intOf]; omega
          · have hy3 : ((y : Int) % 2 == 1) = false := by simp; omega
            have hx5 : Hid (((y : Int) / 2) = ((crcBit y : Nat) : Int)) := by
              show _ = _
              unfold crcBit
              rw [if_neg hy2]; omega
            clear hy2
            go_wp2_with fail
            go_round
            case rel => exact ⟨j + 1, by omega, by go_num, by rw [HS3.out, ← hx5.out]⟩
            case measure => simp [intOf]; omega
        · obtain rfl : j = 8 := by omega
          have hj8' : decide ((8 : Int) < 8) = false := by decide
          have HY := Lib.hid hy
          rw [hy]
          clear hy hS3
          go_wp2_with fail
          go_round
          case rel => exact ⟨k + 1, by omega, by go_num, by rw [HS2.out, HY.out]⟩
          case measure => simp [intOf]; omega
    · have hd0 : decide ((k : Int) < (l.length : Int)) = false := by simp; omega
      have HT : Hid (l.take k = l) := List.take_of_length_le (by omega)
      have hx6 : bits .xor .u32 (crcL 4294967295 (l.take k) : Nat) 4294967295 = ((sumOf (l.take k) : Nat) : Int) := u32_xor_nat _ 4294967295 hlt2 (by omega)
      go_wp2_with fail
      go_ret
      exact ⟨by rw [HT.out]; rfl, rfl⟩

theorem ba_toList (l : List UInt8) : (⟨l.toArray⟩ : ByteArray).toList = l := by simp
theorem ba_append (a b : List UInt8) : (⟨a.toArray⟩ : ByteArray) ++ ⟨b.toArray⟩ = ⟨(a ++ b).toArray⟩ := by
  ext1; simp
def frE (l : List UInt8) : List UInt8 × Nat := if l.length ≤ 65536 then (frameL l, 0) else ([], 10)
def frV (r : List UInt8 × Nat) : Value := .tuple #[.string ⟨r.1.toArray⟩, .int .i64 r.2]
set_option maxRecDepth 100000 in
theorem codec_Frame (l : List UInt8) (w : World) (hl : l.length ≤ 1000000000000) : Calls Try.prog 28 #[.string ⟨l.toArray⟩] w fun e w' => e = .returned (frV (frE l)) ∧ Only [] w w' := by
  by_cases hn : l.length ≤ 65536
  · have HE : Hid (frE l = (frameL l, 0)) := by show _ = _; unfold frE; rw [if_pos hn]
    have hd : decide ((65536 : Int) < l.length) = false := by simp; omega
    have h4 : (fourL l.length).length = 4 := rfl
    go_enter Try.func28, Try.ntmps28
    go_wp2_with fail
    refine (codec_four l.length _ (by omega)).mono ?_
    rintro e w1 ⟨rfl, ho1⟩
    go_wp2_with fail
    refine (codec_sum 4294967295 (fourL l.length) _ (by omega) (by omega)).mono ?_
    rintro e w2 ⟨rfl, rfl⟩
    have hc1 := crcL_lt (fourL l.length) 4294967295 (by omega)
    have hcc := crcL_append 4294967295 (fourL l.length) l
    obtain ⟨d, hd'⟩ : ∃ d, crcL 4294967295 (fourL l.length) = d := ⟨_, rfl⟩
    rw [hd'] at hc1 hcc ⊢
    have HCC := Lib.hid hcc
    clear hcc hd'
    go_wp2_with fail
    refine (codec_sum d l _ (by omega) (by omega)).mono ?_
    rintro e w2 ⟨rfl, rfl⟩
    have hsl := sumOf_lt (fourL l.length ++ l)
    have hx : bits .xor .u32 IntKind.u32.max (crcL d l : Nat) = ((sumOf (fourL l.length ++ l) : Nat) : Int) := by
      rw [bits_xor_comm]
      have := u32_xor_nat _ 4294967295 (crcL_lt l d hc1) (by omega)
      unfold sumOf; rw [HCC.out]; exact this
    obtain ⟨u, hu⟩ : ∃ u, sumOf (fourL l.length ++ l) = u := ⟨_, rfl⟩
    have HF : Hid (frameL l = fourL l.length ++ fourL u ++ l) := by show _ = _; unfold frameL; rw [hu]
    have hu4 : (fourL u).length = 4 := rfl
    have HV : Hid (frV (frE l) = .tuple #[.string (⟨(fourL l.length).toArray⟩ ++ ⟨(fourL u).toArray⟩ ++ ⟨l.toArray⟩), .int .i64 0]) := by show _ = _; rw [HE.out, HF.out]; show _ = _; rw [ba_append, ba_append]; rfl
    rw [hu] at hx hsl
    have HX : Hid (bits .xor .u32 IntKind.u32.max (crcL d l : Nat) = (u : Int)) := hx
    clear hu hx HCC
    go_wp2_with fail
    rw [HX.out]
    refine (codec_four u _ (by omega)).mono ?_
    rintro e w3 ⟨rfl, ho3⟩
    go_wp2_with fail
    go_ret2
    exact ⟨by rw [HV.out]; rfl, ho1.tr0 ho3⟩
  · have HE : Hid (frE l = ([], 10)) := by show _ = _; unfold frE; rw [if_neg hn]
    have hd : decide ((65536 : Int) < l.length) = true := by simp; omega
    go_enter Try.func28, Try.ntmps28
    go_wp2_with fail
    go_ret2
    exact ⟨by rw [HE.out]; rfl, Only.refl _ _⟩

/-- What four bytes are as a number; what is read as a frame: the text, its bytes, the error. -/
def numB (l : List UInt8) : Nat := l.foldl (fun n b => 256 * n + b.toNat) 0
theorem numB_snoc (l : List UInt8) (k : Nat) (b : UInt8) (h : l[k]? = some b) : numB (l.take (k + 1)) = 256 * numB (l.take k) + b.toNat := by
  unfold numB
  rw [List.take_add_one, h, List.foldl_append]; rfl
def unE (l : List UInt8) : List UInt8 × Nat × Nat :=
  if l.length < 4 then ([], 0, 8) else
  if 65536 < numB (l.take 4) then ([], 0, 10) else
  if l.length < 8 + numB (l.take 4) then ([], 0, 8) else
  if (l.drop 4).take 4 = fourL (sumOf (l.take 4 ++ (l.drop 8).take (numB (l.take 4)))) then ((l.drop 8).take (numB (l.take 4)), 8 + numB (l.take 4), 0) else ([], 0, 9)
def unV (r : List UInt8 × Nat × Nat) : Value := .tuple #[.string ⟨r.1.toArray⟩, .int .i64 r.2.1, .int .i64 r.2.2]
theorem numB_lt : ∀ (k : Nat) (l : List UInt8), k ≤ 4 → numB (l.take k) < 256 ^ k := by
  intro k l hk
  induction k with
  | zero => simp [numB]
  | succ k ih =>
    have := ih (by omega)
    by_cases h : k < l.length
    · have hb := l[k].toNat_lt
      rw [numB_snoc l k l[k] (List.getElem?_eq_getElem h)]
      have : 256 ^ (k + 1) = 256 ^ k * 256 := Nat.pow_succ ..
      omega
    · rw [List.take_of_length_le (by omega)]
      rw [List.take_of_length_le (by omega)] at this
      have h2 : 256 ^ (k + 1) = 256 ^ k * 256 := Nat.pow_succ ..
      omega
theorem numB_four (l : List UInt8) (h : 4 ≤ l.length) : fourL (numB (l.take 4)) = l.take 4 := by
  match l, h with
  | a :: b :: c :: d :: t, _ =>
    have := a.toNat_lt; have := b.toNat_lt; have := c.toNat_lt; have := d.toNat_lt
    show fourL (256 * (256 * (256 * (256 * 0 + a.toNat) + b.toNat) + c.toNat) + d.toNat) = [a, b, c, d]
    unfold fourL
    simp only [List.cons.injEq, and_true, ← UInt8.toNat_inj, UInt8.toNat_ofNat']
    omega

set_option maxRecDepth 100000 in
set_option maxHeartbeats 1000000 in
theorem ref_Unframe (l : List UInt8) (w : World) (hl : l.length ≤ 1000000000000) : Calls Try.prog 31 #[.string ⟨l.toArray⟩] w fun e w' => e = .returned (unV (unE l)) ∧ Only [] w w' := by
  by_cases h4 : l.length < 4
  · have HE : Hid (unE l = ([], 0, 8)) := by show _ = _; unfold unE; rw [if_pos h4]
    go_enter Try.func31, Try.ntmps31
    go_wp2_with fail
    go_ret3
    exact ⟨by rw [HE.out]; rfl, Only.refl _ _⟩
  have hE1 : unE l = if 65536 < numB (l.take 4) then ([], 0, 10) else if l.length < 8 + numB (l.take 4) then ([], 0, 8) else
    if (l.drop 4).take 4 = fourL (sumOf (l.take 4 ++ (l.drop 8).take (numB (l.take 4)))) then ((l.drop 8).take (numB (l.take 4)), 8 + numB (l.take 4), 0) else ([], 0, 9) := by unfold unE; rw [if_neg h4]
  have HE1 := Lib.hid hE1
  clear hE1
  go_enter Try.func31, Try.ntmps31
  go_wp2_with fail
  go_loop [5, 6] (fun n i => ∃ k : Nat, k ≤ 4 ∧ i = .int .i64 k ∧ n = .int .i64 (numB (l.take k) : Nat)) (fun _ i => 4 - (intOf i).toNat)
  case atStart => exact ⟨0, by omega, rfl, rfl⟩
  case round =>
    obtain ⟨k, hk, rfl, rfl⟩ := hrel
    have hB := numB_lt k l hk
    have hB4 : (256 : Nat) ^ k ≤ 256 ^ 4 := Nat.pow_le_pow_right (by omega) hk
    rw [show (256 : Nat) ^ 4 = 4294967296 from by decide] at hB4
    have hB2 : numB (l.take k) < 4294967296 := by omega
    clear hB hB4
    by_cases hk4 : k < 4
    · have hkl : k < l.length := by omega
      have hk1 := List.getElem?_eq_getElem hkl
      obtain ⟨b, hb⟩ : ∃ b, l[k] = b := ⟨_, rfl⟩
      rw [hb] at hk1
      have hix : ∀ h : k < (⟨l.toArray⟩ : ByteArray).size, (⟨l.toArray⟩ : ByteArray)[k]'h = b := fun _ => hb
      have HS := Lib.hid (numB_snoc l k b hk1)
      have hb8 := b.toNat_lt
      obtain ⟨m, hm⟩ : ∃ m, numB (l.take k) = m := ⟨_, rfl⟩
      rw [hm] at hB2 HS ⊢
      have hk4' : (k : Int) < 4 := by omega
      clear hb hk1 hm
      go_wp2_with fail
      go_round
      case rel => exact ⟨k + 1, by omega, by go_num, by rw [HS.out]; go_num⟩
      case measure => simp [intOf]; omega
    · obtain rfl : k = 4 := by omega
      have hk4' : decide ((4 : Int) < 4) = false := by decide
      obtain ⟨n, hn⟩ : ∃ n, numB (l.take 4) = n := ⟨_, rfl⟩
      rw [hn] at HE1 hB2 ⊢
      clear hn
      by_cases hbig : 65536 < n
      · have HE : Hid (unE l = ([], 0, 10)) := by show _ = _; rw [HE1.out, if_pos hbig]
        have hd : decide ((65536 : Int) < n) = true := by simp; omega
        go_wp2_with fail
        go_ret3
        exact ⟨by rw [HE.out]; rfl, Only.refl _ _⟩
      have hd : decide ((65536 : Int) < n) = false := by simp; omega
      by_cases hsh : l.length < 8 + n
      · have HE : Hid (unE l = ([], 0, 8)) := by show _ = _; rw [HE1.out, if_neg hbig, if_pos hsh]
        have hd2 : decide ((l.length : Int) < 8 + n) = true := by simp; omega
        go_wp2_with fail
        go_ret3
        exact ⟨by rw [HE.out]; rfl, Only.refl _ _⟩
      have hd2 : decide ((l.length : Int) < 8 + n) = false := by simp; omega
      have HE2 := HE1.out
      rw [if_neg hbig, if_neg hsh] at HE2
      have HE2 := Lib.hid HE2
      go_wp2_with fail
      have hA : (l.take 4).length = 4 := by simp; omega
      have hP : ((l.drop 8).take n).length = n := by simp; omega
      have hcat : (⟨l.toArray⟩ : ByteArray).extract 0 4 ++ (⟨l.toArray⟩ : ByteArray).extract 8 (8 + n) = ⟨(l.take 4 ++ (l.drop 8).take n).toArray⟩ := by
        rw [str_from_start, str_extract, ba_append, Nat.add_sub_cancel_left]
      obtain ⟨x, hx⟩ : ∃ x, l.take 4 ++ (l.drop 8).take n = x := ⟨_, rfl⟩
      have hxl : x.length ≤ 65540 := by rw [← hx]; simp; omega
      rw [hx] at hcat
      have HE2 := HE2.out
      rw [hx] at HE2
      have HCAT := Lib.hid hcat
      have hs1 := sumOf_lt x
      clear hcat hx hA hP hd2 hd
      refine wp_region_only w (Only.refl _ _) (by kernel_rfl) (by kernel_rfl) ?_
      repeat (go_big_quiet_step (first | (go_at_call 33; rw [HCAT.out]; refine Calls.only_same (ref_Crc x _ (by omega))) | (go_at_call 83; refine Calls.only (ref_four (sumOf x) _ hs1))))
      refine wpQuiet_nil ?_
      rintro ⟨w8, ho8⟩
      dsimp only
      clear hk hk4 hk4' HE1
      have HE2 := Lib.hid HE2
      go_wp2_with fail
      · rename_i h
        have hq : ¬(l.drop 4).take 4 = fourL (sumOf x) := by rw [str_extract, ba_toList] at h; simpa using h
        go_ret3
        exact ⟨by rw [HE2.out, if_neg hq]; rfl, ho8⟩
      · rename_i h
        have hq : (l.drop 4).take 4 = fourL (sumOf x) := by rw [str_extract, ba_toList] at h; simpa using h
        have HV : Hid (unV (unE l) = .tuple #[.string ((⟨l.toArray⟩ : ByteArray).extract 8 (8 + n)), .int .i64 (8 + n), .int .i64 0]) := by
          show _ = _
          rw [HE2.out, if_pos hq, str_extract, Nat.add_sub_cancel_left]; unfold unV; simp
        go_ret3
        exact ⟨by rw [HV.out]; rfl, ho8⟩

theorem i64_or_nat (a b : Nat) (ha : a < 4294967296) (hb : b < 4294967296) : bits .or .i64 (a : Int) (b : Int) = ((a ||| b : Nat) : Int) := by
  show IntKind.i64.wrap ((BitVec.ofInt 64 (a : Int) ||| BitVec.ofInt 64 (b : Int)).toNat : Int) = _
  have h := Nat.or_lt_two_pow (n := 32) ha hb
  rw [BitVec.toNat_or, ofInt_i64' a (by omega), ofInt_i64' b (by omega), IntKind.wrap_i64]
  omega
theorem wrap64_of_nat (n : Nat) (h : n < 9223372036854775808) : wrap64 (n : Int) = n := by unfold wrap64; omega
theorem or_parts (a b c d : UInt8) : bits .or .i64 (bits .or .i64 (bits .or .i64 (wrap64 (wrap64 (a.toNat : Int) * 16777216)) (wrap64 (wrap64 (b.toNat : Int) * 65536))) (wrap64 (wrap64 (c.toNat : Int) * 256))) (wrap64 (d.toNat : Int)) = ((numB [a, b, c, d] : Nat) : Int) := by
  have := a.toNat_lt; have := b.toNat_lt; have := c.toNat_lt; have := d.toNat_lt
  rw [wrap64_of_nat a.toNat (by omega), wrap64_of_nat b.toNat (by omega), wrap64_of_nat c.toNat (by omega), wrap64_of_nat d.toNat (by omega)]
  rw [show (a.toNat : Int) * 16777216 = ((2 ^ 24 * a.toNat : Nat) : Int) from by omega, show (b.toNat : Int) * 65536 = ((2 ^ 16 * b.toNat : Nat) : Int) from by omega, show (c.toNat : Int) * 256 = ((2 ^ 8 * c.toNat : Nat) : Int) from by omega]
  rw [wrap64_of_nat _ (by omega), wrap64_of_nat _ (by omega), wrap64_of_nat _ (by omega)]
  rw [i64_or_nat _ _ (by omega) (by omega), ← Nat.two_pow_add_eq_or_of_lt (by omega)]
  rw [show 2 ^ 24 * a.toNat + 2 ^ 16 * b.toNat = 2 ^ 16 * (256 * a.toNat + b.toNat) from by omega, i64_or_nat _ _ (by omega) (by omega), ← Nat.two_pow_add_eq_or_of_lt (by omega)]
  rw [show 2 ^ 16 * (256 * a.toNat + b.toNat) + 2 ^ 8 * c.toNat = 2 ^ 8 * (65536 * a.toNat + 256 * b.toNat + c.toNat) from by omega, i64_or_nat _ _ (by omega) (by omega), ← Nat.two_pow_add_eq_or_of_lt (by omega)]
  show _ = ((256 * (256 * (256 * (256 * 0 + a.toNat) + b.toNat) + c.toNat) + d.toNat : Nat) : Int)
  omega

set_option maxRecDepth 100000 in
set_option maxHeartbeats 1000000 in
theorem codec_Unframe (l : List UInt8) (w : World) (hl : l.length ≤ 1000000000000) : Calls Try.prog 30 #[.string ⟨l.toArray⟩] w fun e w' => e = .returned (unV (unE l)) ∧ Only [] w w' := by
  by_cases h4 : l.length < 4
  · have HE : Hid (unE l = ([], 0, 8)) := by show _ = _; unfold unE; rw [if_pos h4]
    go_enter Try.func30, Try.ntmps30
    go_wp2_with fail
    go_ret3
    exact ⟨by rw [HE.out]; rfl, Only.refl _ _⟩
  have hE1 : unE l = if 65536 < numB (l.take 4) then ([], 0, 10) else if l.length < 8 + numB (l.take 4) then ([], 0, 8) else
    if (l.drop 4).take 4 = fourL (sumOf (l.take 4 ++ (l.drop 8).take (numB (l.take 4)))) then ((l.drop 8).take (numB (l.take 4)), 8 + numB (l.take 4), 0) else ([], 0, 9) := by unfold unE; rw [if_neg h4]
  have HE1 := Lib.hid hE1
  clear hE1
  obtain ⟨a, b, c, d, hix0, hix1, hix2, hix3, ht⟩ : ∃ a b c d : UInt8, (∀ h : 0 < (⟨l.toArray⟩ : ByteArray).size, (⟨l.toArray⟩ : ByteArray)[0]'h = a) ∧ (∀ h : 1 < (⟨l.toArray⟩ : ByteArray).size, (⟨l.toArray⟩ : ByteArray)[1]'h = b) ∧ (∀ h : 2 < (⟨l.toArray⟩ : ByteArray).size, (⟨l.toArray⟩ : ByteArray)[2]'h = c) ∧ (∀ h : 3 < (⟨l.toArray⟩ : ByteArray).size, (⟨l.toArray⟩ : ByteArray)[3]'h = d) ∧ l.take 4 = [a, b, c, d] := by
    match l, h4 with
    | a :: b :: c :: d :: t, _ => exact ⟨a, b, c, d, fun _ => rfl, fun _ => rfl, fun _ => rfl, fun _ => rfl, rfl⟩
    | [], h => exact absurd (by simp) h
    | [_], h => exact absurd (by simp) h
    | [_, _], h => exact absurd (by simp) h
    | [_, _, _], h => exact absurd (by simp) h
  have HT := Lib.hid ht
  clear ht
  go_enter Try.func30, Try.ntmps30
  go_wp2_with fail
  go_quiet (fail)
  rw [or_parts, ← HT.out]
  have hB2 := numB_lt 4 l (by omega)
  rw [show (256 : Nat) ^ 4 = 4294967296 from by decide] at hB2
  have H4 := Lib.hid (numB_four l (by omega))
  obtain ⟨n, hn⟩ : ∃ n, numB (l.take 4) = n := ⟨_, rfl⟩
  rw [hn] at HE1 hB2 H4 ⊢
  clear hn hix0 hix1 hix2 hix3
  by_cases hbig : 65536 < n
  · have HE : Hid (unE l = ([], 0, 10)) := by show _ = _; rw [HE1.out, if_pos hbig]
    have hd : decide ((65536 : Int) < n) = true := by simp; omega
    go_wp2_with fail
    go_ret3
    exact ⟨by rw [HE.out]; rfl, (Only.refl _ _).drewN _⟩
  have hd : decide ((65536 : Int) < n) = false := by simp; omega
  by_cases hsh : l.length < 8 + n
  · have HE : Hid (unE l = ([], 0, 8)) := by show _ = _; rw [HE1.out, if_neg hbig, if_pos hsh]
    have hd2 : decide ((l.length : Int) < 8 + n) = true := by simp; omega
    go_wp2_with fail
    go_ret3
    exact ⟨by rw [HE.out]; rfl, (Only.refl _ _).drewN _⟩
  have hd2 : decide ((l.length : Int) < 8 + n) = false := by simp; omega
  have HE2 := HE1.out
  rw [if_neg hbig, if_neg hsh] at HE2
  have hP : ((l.drop 8).take n).length = n := by simp; omega
  have hF : frE ((l.drop 8).take n) = (l.take 4 ++ fourL (sumOf (l.take 4 ++ (l.drop 8).take n)) ++ (l.drop 8).take n, 0) := by
    unfold frE frameL
    rw [if_pos (by omega), hP, H4.out]
  have HF := Lib.hid hF
  have HE2 := Lib.hid HE2
  have HX8 : Hid ((⟨l.toArray⟩ : ByteArray).extract 8 (8 + n) = ⟨((l.drop 8).take n).toArray⟩) := by show _ = _; rw [str_extract, Nat.add_sub_cancel_left]
  have hPl : ((l.drop 8).take n).length ≤ 1000000000000 := by omega
  clear hF hP hd hd2
  go_wp2_with fail
  rw [HX8.out]
  refine (codec_Frame _ _ hPl).mono ?_
  rintro e w1 ⟨he, ho1⟩
  rw [HF.out] at he
  obtain ⟨y, hy⟩ : ∃ y, l.take 4 ++ fourL (sumOf (l.take 4 ++ (l.drop 8).take n)) ++ (l.drop 8).take n = y := ⟨_, rfl⟩
  rw [hy] at he
  have he : e = .returned (.tuple #[.string ⟨y.toArray⟩, .int .i64 0]) := he
  subst he
  have hcmp : y = l.take (8 + n) ↔ (l.drop 4).take 4 = fourL (sumOf (l.take 4 ++ (l.drop 8).take n)) := by
    rw [← hy, show 8 + n = 4 + (4 + n) from by omega, List.take_add, List.take_add, List.drop_drop, List.append_assoc, List.append_right_inj, List.append_left_inj]
    exact ⟨fun h => h.symm, fun h => h.symm⟩
  have HC := Lib.hid hcmp
  clear hcmp hy HF H4 HE1 hPl
  go_wp2_with fail
  · rename_i h
    have hq : ¬y = l.take (8 + n) := by rw [str_from_start, ba_toList] at h; simpa using h
    go_ret3
    exact ⟨by rw [HE2.out, if_neg (fun e => hq (HC.out.2 e))]; rfl, ((Only.refl _ _).drewN _).tr0 ho1⟩
  · rename_i h
    have hq : y = l.take (8 + n) := by rw [str_from_start, ba_toList] at h; simpa using h
    rw [HX8.out]
    go_ret3
    exact ⟨by rw [HE2.out, if_pos (HC.out.1 hq)]; unfold unV; rfl, ((Only.refl _ _).drewN _).tr0 ho1⟩
end Go.Proofs.Ytojhbhdlbbmghaa
