/-
  The walk over CodecSums.
-/
import Derived.Test.YtojhbhdlbbmghaaShown1
namespace Go.Proofs.Ytojhbhdlbbmghaa
open Go.RowKit
theorem crcBit_xor (x y : Nat) : crcBit (x ^^^ y) = crcBit x ^^^ crcBit y := by
  have h1 : (x ^^^ y) / 2 = x / 2 ^^^ y / 2 := Nat.xor_div_two
  have h2 : (x ^^^ y) % 2 = (x + y) % 2 := by
    have h := Nat.xor_mod_two_pow (a := x) (b := y) (n := 1)
    rw [show 2 ^ 1 = 2 from rfl] at h
    rw [h]
    rcases Nat.mod_two_eq_zero_or_one x with hx | hx <;> rcases Nat.mod_two_eq_zero_or_one y with hy | hy <;> rw [hx, hy] <;> simp <;> omega
  unfold crcBit
  rw [h1]
  by_cases hx : x % 2 = 1
  · by_cases hy : y % 2 = 1
    · rw [if_neg (by omega), if_pos hx, if_pos hy]
      rw [Nat.xor_assoc, ← Nat.xor_assoc 2197175160, Nat.xor_comm 2197175160 (y / 2), Nat.xor_assoc, Nat.xor_self, Nat.xor_zero]
    · rw [if_pos (by omega), if_pos hx, if_neg hy]
      rw [Nat.xor_assoc, Nat.xor_assoc, Nat.xor_comm 2197175160]
  · by_cases hy : y % 2 = 1
    · rw [if_pos (by omega), if_neg hx, if_pos hy, Nat.xor_assoc]
    · rw [if_neg (by omega), if_neg hx, if_neg hy]
theorem crcBits_xor (n x y : Nat) : crcBits n (x ^^^ y) = crcBits n x ^^^ crcBits n y := by
  induction n with
  | zero => rfl
  | succ n ih => show crcBit _ = crcBit _ ^^^ crcBit _; rw [ih, crcBit_xor]
def x3 (a b c : UInt8) : UInt8 := a ^^^ b ^^^ c
theorem crcByte_x3 (p q r : Nat) (a b c : UInt8) : crcByte (p ^^^ q ^^^ r) (x3 a b c) = crcByte p a ^^^ crcByte q b ^^^ crcByte r c := by
  unfold crcByte x3
  rw [← crcBits_xor, ← crcBits_xor, UInt8.toNat_xor, UInt8.toNat_xor]
  congr 1
  ac_rfl
theorem x3_toNat (a b c : UInt8) : (x3 a b c).toNat = a.toNat ^^^ b.toNat ^^^ c.toNat := by unfold x3; rw [UInt8.toNat_xor, UInt8.toNat_xor]
theorem x3_bits (a b c : UInt8) : bits .xor .u8 (bits .xor .u8 (a.toNat : Int) (b.toNat : Int)) (c.toNat : Int) = ((x3 a b c).toNat : Int) := by
  have := a.toNat_lt; have := b.toNat_lt; have := c.toNat_lt
  rw [u8_xor_nat _ _ (by omega) (by omega), u8_xor_nat _ _ (Nat.xor_lt_two_pow (n := 8) (by omega) (by omega)) (by omega), x3_toNat]
/-- Three texts, laid over one another. -/
def x3L : List UInt8 → List UInt8 → List UInt8 → List UInt8
  | a :: l, b :: m, c :: n => x3 a b c :: x3L l m n
  | _, _, _ => []
theorem x3L_length : ∀ (l m n : List UInt8), l.length = m.length → l.length = n.length → (x3L l m n).length = l.length
  | [], [], [], _, _ => rfl
  | a :: l, b :: m, c :: n, h, k => by simp only [x3L, List.length_cons]; rw [x3L_length l m n (by simpa using h) (by simpa using k)]
theorem x3L_get : ∀ (l m n : List UInt8) (i : Nat) (a b c : UInt8), l[i]? = some a → m[i]? = some b → n[i]? = some c → (x3L l m n)[i]? = some (x3 a b c)
  | [], _, _, i, _, _, _, h, _, _ => by simp at h
  | _ :: _, [], _, i, _, _, _, _, h, _ => by simp at h
  | _ :: _, _ :: _, [], i, _, _, _, _, _, h => by simp at h
  | a :: l, b :: m, c :: n, 0, _, _, _, h, k, o => by simp at h k o; subst h; subst k; subst o; rfl
  | a :: l, b :: m, c :: n, i + 1, _, _, _, h, k, o => x3L_get l m n i _ _ _ (by simpa using h) (by simpa using k) (by simpa using o)
theorem crcL_x3 : ∀ (l m n : List UInt8) (p q r : Nat), l.length = m.length → l.length = n.length → crcL (p ^^^ q ^^^ r) (x3L l m n) = crcL p l ^^^ crcL q m ^^^ crcL r n
  | [], [], [], _, _, _, _, _ => rfl
  | a :: l, b :: m, c :: n, p, q, r, h, k => by
    show crcL (crcByte (p ^^^ q ^^^ r) (x3 a b c)) (x3L l m n) = crcL (crcByte p a) l ^^^ crcL (crcByte q b) m ^^^ crcL (crcByte r c) n
    rw [crcByte_x3]
    exact crcL_x3 l m n _ _ _ (by simpa using h) (by simpa using k)
theorem sumOf_x3 (l m n : List UInt8) (h : l.length = m.length) (k : l.length = n.length) : sumOf (x3L l m n) = sumOf l ^^^ sumOf m ^^^ sumOf n := by
  unfold sumOf
  have := crcL_x3 l m n 4294967295 4294967295 4294967295 h k
  rw [show (4294967295 ^^^ 4294967295 ^^^ 4294967295 : Nat) = 4294967295 from by decide] at this
  rw [this]
  generalize (4294967295 : Nat) = g
  rw [show crcL g l ^^^ g ^^^ (crcL g m ^^^ g) ^^^ (crcL g n ^^^ g) = crcL g l ^^^ crcL g m ^^^ crcL g n ^^^ g ^^^ (g ^^^ g) from by ac_rfl, Nat.xor_self, Nat.xor_zero]

set_option maxRecDepth 100000 in
set_option maxHeartbeats 1000000 in
theorem codecSums_walk (W : World) (a : ByteArray) (ha : a.size ≤ maxLen) (b : ByteArray) (hb : b.size ≤ maxLen) (c : ByteArray) (hc : c.size ≤ maxLen) :
    Calls Try.prog 7 #[.string a, .string b, .string c] W fun e W' => e = .returned (.bool true) ∧ Only [] W W' := by
  obtain ⟨la, rfl, ha'⟩ := str_of a
  obtain ⟨lb, rfl, hb'⟩ := str_of b
  obtain ⟨lc, rfl, hc'⟩ := str_of c
  rw [ha'] at ha
  rw [hb'] at hb
  rw [hc'] at hc
  clear ha' hb' hc'
  unfold maxLen at ha hb hc
  obtain ⟨n, hn⟩ : ∃ n, min la.length (min lb.length lc.length) = n := ⟨_, rfl⟩
  have hnI : min (la.length : Int) (min (lb.length : Int) lc.length) = n := by omega
  have hna : n ≤ la.length := by omega
  have hnb : n ≤ lb.length := by omega
  have hnc : n ≤ lc.length := by omega
  by_cases h1 : n ≤ 3000
  · have hd1 : decide ((3000 : Int) < n) = false := by simp; omega
    obtain ⟨i0, hi0, hz0, hz1, hz2⟩ := info_parts info_byte
    have hM : ∀ w : World, (Instr.makeSlice 37 (.int .i64 n) (.int .i64 n)).run Try.prog w = .ok (.slice (some ⟨w.heap.size, 0, none⟩) n n) (w.alloc (.cells (List.replicate n (Value.int .u8 0)).toArray 5)) := by
      intro w
      have := run_makeSlice (P := Try.prog) w 37 5 i0 (.int .u8 0) Try.underlying37 hi0 hz0 .i64 .i64 n n (by omega) (by omega) (by rw [hz1]; simp; omega) (by rw [hz2]; omega) (by omega)
      rw [this, hz1]
      simp only [Int.toNat_natCast, Nat.mul_one]
      rw [show madeCells (Value.cells (.int .u8 0)) n = (List.replicate n (Value.int .u8 0)).toArray from by rw [← toList_madeCells_one]; rfl]
    have HM := Lib.hid hM
    obtain ⟨x, hx⟩ : ∃ x, x3L (la.take n) (lb.take n) (lc.take n) = x := ⟨_, rfl⟩
    have hxl : x.length = n := by rw [← hx, x3L_length _ _ _ (by simp; omega) (by simp; omega)]; simp; omega
    have HX := Lib.hid hx
    clear hM hx
    go_enter Try.func7, Try.ntmps7
    go_wp2_with fail
    refine (shown1 W).mono ?_
    rintro e w1 ⟨rfl, ho1⟩
    go_wp2_with fail
    rw [show (Instr.makeSlice 37 (.int .i64 n) (.int .i64 n)).run Try.prog w1 = _ from HM.out w1]
    simp only [Result.andThen]
    rw [Oper.upon_value]
    have hsz := ho1.size
    obtain ⟨g, hg⟩ : ∃ g, w1.heap.size = g := ⟨_, rfl⟩
    have hC0 := Cells.new w1 5 (List.replicate n (Value.int .u8 0))
    have ho0 : Only [] W (w1.alloc (.cells (List.replicate n (Value.int .u8 0)).toArray 5)) := ho1.alloc _
    rw [hg] at hC0 hsz ⊢
    obtain ⟨w2, hw2⟩ : ∃ w2, w1.alloc (.cells (List.replicate n (Value.int .u8 0)).toArray 5) = w2 := ⟨_, rfl⟩
    rw [hw2] at hC0 ho0 ⊢
    clear hw2 hg
    have HC0 := Lib.hid hC0
    clear hC0 ho1
    go_wp2_with fail
    go_loopw [10] (fun i wr => ∃ k : Nat, k ≤ n ∧ i = .int .i64 k ∧ Hid (Cells wr g 5 (bytes (x.take k) ++ List.replicate (n - k) (.int .u8 0))) ∧ Only [] W wr) (fun i _ => n - (intOf i).toNat)
    case atStart => exact ⟨0, by omega, rfl, HC0, ho0⟩
    case round =>
      obtain ⟨k, hk, rfl, hC, ho⟩ := hrel
      by_cases hlt : k < n
      · have hlt' : (k : Int) < n := by omega
        obtain ⟨ca, hca⟩ : ∃ c, la[k]? = some c := ⟨_, List.getElem?_eq_getElem (by omega)⟩
        obtain ⟨cb, hcb⟩ : ∃ c, lb[k]? = some c := ⟨_, List.getElem?_eq_getElem (by omega)⟩
        obtain ⟨cc, hcc⟩ : ∃ c, lc[k]? = some c := ⟨_, List.getElem?_eq_getElem (by omega)⟩
        have i1 : ∀ h : k < (⟨la.toArray⟩ : ByteArray).size, (⟨la.toArray⟩ : ByteArray)[k]'h = ca := fun _ => (List.getElem_eq_iff _).2 hca
        have i2 : ∀ h : k < (⟨lb.toArray⟩ : ByteArray).size, (⟨lb.toArray⟩ : ByteArray)[k]'h = cb := fun _ => (List.getElem_eq_iff _).2 hcb
        have i3 : ∀ h : k < (⟨lc.toArray⟩ : ByteArray).size, (⟨lc.toArray⟩ : ByteArray)[k]'h = cc := fun _ => (List.getElem_eq_iff _).2 hcc
        have hkb : k < lb.length := by omega
        have hkc : k < lc.length := by omega
        have hka : k < la.length := by omega
        have b1 := ca.toNat_lt
        have b2 := cb.toNat_lt
        have b3 := cc.toNat_lt
        have hx : x[k]? = some (x3 ca cb cc) := by rw [← HX.out]; exact x3L_get _ _ _ k _ _ _ (by rw [List.getElem?_take_of_lt hlt]; exact hca) (by rw [List.getElem?_take_of_lt hlt]; exact hcb) (by rw [List.getElem?_take_of_lt hlt]; exact hcc)
        have hset : (bytes (x.take k) ++ List.replicate (n - k) (Value.int .u8 0)).set k (.int .u8 (x3 ca cb cc).toNat) = bytes (x.take (k + 1)) ++ List.replicate (n - (k + 1)) (.int .u8 0) := by
          have hl : (bytes (x.take k)).length = k := by rw [bytes_length, List.length_take, hxl]; omega
          rw [List.set_append_right _ _ (by omega), hl, Nat.sub_self, show n - k = (n - (k + 1)) + 1 from by omega, List.replicate_succ, List.set_cons_zero, List.take_add_one, hx, bytes_append, List.append_assoc]; rfl
        have HS := Lib.hid hset
        have HB := Lib.hid (x3_bits ca cb cc)
        have hc0 := hC.out.cell (k := k) (v := .int .u8 0) (by rw [List.getElem?_append_right (by rw [bytes_length, List.length_take]; omega), bytes_length, List.length_take, hxl, Nat.min_eq_left (by omega), Nat.sub_self, List.getElem?_replicate, if_pos (by omega)])
        have hf := hC.out.frozen k
        have hgl := hC.out.lt
        clear hca hcb hcc hset hx
        go_wp2_with fail
        go_still_tail 14, (by kernel_rfl)
        change wpList _ _ _ _ _ wr.drew
        go_wp2_with fail
        rw [HB.out]
        exact ⟨⟨k + 1, by omega, by go_num, by show Cells _ _ _ _; rw [← HS.out]; exact (hC.out.set k _).drew, (ho.setCell (p := ⟨g, k, none⟩) (.inr hsz) _).drew⟩, by simp [intOf]; omega⟩
      · obtain rfl : k = n := by omega
        have hd5 : decide ((k : Int) < k) = false := by simp
        have hCx : Cells wr g 5 (bytes x) := by have := hC.out; rw [Nat.sub_self, List.replicate_zero, List.append_nil, List.take_of_length_le (by omega)] at this; exact this
        have hcv : ∀ u : Since wr, (convert 37 9 (.slice (some ⟨g, 0, none⟩) k k)).run Try.prog u.w = .ok (.string ⟨x.toArray⟩) u.w := by
          intro u
          rw [← hxl]
          refine run_convert_bytes_back _ _ _ _ _ _ x Try.underlying37 Try.underlying5 Try.underlying9 fun j hj => ?_
          have := u.cell (hCx.cell (k := j) (v := .int .u8 (x[j].toNat : Int)) (by simp [bytes, List.getElem?_eq_getElem hj]))
          unfold Addr.add
          by_cases h : j = 0
          · subst h; simpa using this
          · simp only [h, if_false, Nat.zero_add]; exact this
        have HF : Hid (bits .xor .u32 (bits .xor .u32 ((sumOf (la.take k) : Nat) : Int) ((sumOf (lb.take k) : Nat) : Int)) ((sumOf (lc.take k) : Nat) : Int) = ((sumOf x : Nat) : Int)) := by
          show _ = _
          rw [u32_xor_nat _ _ (sumOf_lt _) (sumOf_lt _), u32_xor_nat _ _ (Nat.xor_lt_two_pow (n := 32) (sumOf_lt _) (sumOf_lt _)) (sumOf_lt _), ← HX.out, sumOf_x3 _ _ _ (by simp; omega) (by simp; omega)]
        have hxl' : x.length ≤ 1000000000000 := by omega
        have k1 : (la.take k).length ≤ 1000000000000 := by simp; omega
        have k2 : (lb.take k).length ≤ 1000000000000 := by simp; omega
        have k3 : (lc.take k).length ≤ 1000000000000 := by simp; omega
        clear hC hCx hn hnI
        go_wp2_with fail
        refine wp_region_only wr (Only.refl _ _) (by kernel_rfl) (by kernel_rfl) ?_
        repeat (go_big_quiet_step ((go_at_call 32; first | refine Calls.only_same (codec_Crc' x _ hxl') | (rw [str_from_start]; first | refine Calls.only_same (codec_Crc' (la.take k) _ k1) | refine Calls.only_same (codec_Crc' (lb.take k) _ k2) | refine Calls.only_same (codec_Crc' (lc.take k) _ k3)))))
        refine wpQuiet_nil ?_
        rintro ⟨w8, ho8⟩
        dsimp only
        go_wp2_with fail
        go_ret
        refine ⟨?_, ho.tr0 ho8⟩
        rw [HF.out]
        simp
  · have hd1 : decide ((3000 : Int) < n) = true := by simp; omega
    go_enter Try.func7, Try.ntmps7
    go_wp2_with fail
    refine (shown1 W).mono ?_
    rintro e w1 ⟨rfl, ho1⟩
    go_wp2_with fail
    go_ret
    exact ⟨rfl, ho1⟩
end Go.Proofs.Ytojhbhdlbbmghaa
