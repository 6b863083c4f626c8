/-
  The walk over CodecCuts.
-/
import Derived.Test.YtojhbhdlbbmghaaShown1
import Derived.Test.YtojhbhdlbbmghaaFramePlain
import Derived.Test.YtojhbhdlbbmghaaWf
import Derived.Laws.IdiomStrings
import Derived.StillTailTactics
namespace Go.Proofs.Ytojhbhdlbbmghaa
open Go.RowKit
/-! ### A bit turned is another sum -/
theorem crcBit_zero {z : Nat} (hz : z < 4294967296) (h : crcBit z = 0) : z = 0 := by
  unfold crcBit at h
  by_cases h1 : z % 2 = 1
  · rw [if_pos h1] at h
    have hb : (z / 2 ^^^ 2197175160).testBit 31 = true := by
      rw [Nat.testBit_xor, Nat.testBit_lt_two_pow (x := z / 2) (i := 31) (by omega)]
      decide
    rw [h] at hb
    simp at hb
  · rw [if_neg h1] at h; omega
theorem crcBit_xor (x y : Nat) : crcBit (x ^^^ y) = crcBit x ^^^ crcBit y := by
  have h1 : (x ^^^ y) / 2 = x / 2 ^^^ y / 2 := Nat.xor_div_two
  have h2 : (x ^^^ y) % 2 = (x + y) % 2 := by
    have h := Nat.xor_mod_two_pow (a := x) (b := y) (n := 1)
    rw [show 2 ^ 1 = 2 from rfl] at h
    rw [h]
    rcases Nat.mod_two_eq_zero_or_one x with hx | hx <;> rcases Nat.mod_two_eq_zero_or_one y with hy | hy <;> rw [hx, hy] <;> simp <;> omega
  unfold crcBit
  rw [h1]
  by_cases hx : x % 2 = 1
  · by_cases hy : y % 2 = 1
    · rw [if_neg (by omega), if_pos hx, if_pos hy]
      rw [Nat.xor_assoc, ← Nat.xor_assoc 2197175160, Nat.xor_comm 2197175160 (y / 2), Nat.xor_assoc, Nat.xor_self, Nat.xor_zero]
    · rw [if_pos (by omega), if_pos hx, if_neg hy]
      rw [Nat.xor_assoc, Nat.xor_assoc, Nat.xor_comm 2197175160]
  · by_cases hy : y % 2 = 1
    · rw [if_pos (by omega), if_neg hx, if_pos hy, Nat.xor_assoc]
    · rw [if_neg (by omega), if_neg hx, if_neg hy]
theorem xor_eq_zero_imp {x y : Nat} (h : x ^^^ y = 0) : x = y := by
  have : x ^^^ y ^^^ y = 0 ^^^ y := by rw [h]
  rwa [Nat.xor_assoc, Nat.xor_self, Nat.xor_zero, Nat.zero_xor] at this
theorem crcBit_inj {x y : Nat} (hx : x < 4294967296) (hy : y < 4294967296) (h : crcBit x = crcBit y) : x = y := by
  apply xor_eq_zero_imp
  apply crcBit_zero (Nat.xor_lt_two_pow (n := 32) hx hy)
  rw [crcBit_xor, h, Nat.xor_self]
theorem crcBits_inj (n : Nat) {x y : Nat} (hx : x < 4294967296) (hy : y < 4294967296) (h : crcBits n x = crcBits n y) : x = y := by
  induction n with
  | zero => exact h
  | succ n ih => exact ih (crcBit_inj (crcBits_lt n x hx) (crcBits_lt n y hy) h)
theorem crcByte_inj {x y : Nat} (b : UInt8) (hx : x < 4294967296) (hy : y < 4294967296) (h : crcByte x b = crcByte y b) : x = y := by
  have hb := b.toNat_lt
  have := crcBits_inj 8 (Nat.xor_lt_two_pow (n := 32) hx (by omega)) (Nat.xor_lt_two_pow (n := 32) hy (by omega)) h
  apply xor_eq_zero_imp
  have e : (x ^^^ b.toNat) ^^^ (y ^^^ b.toNat) = 0 := by rw [this, Nat.xor_self]
  rw [show (x ^^^ b.toNat) ^^^ (y ^^^ b.toNat) = x ^^^ y ^^^ (b.toNat ^^^ b.toNat) from by ac_rfl, Nat.xor_self, Nat.xor_zero] at e
  exact e
theorem crcL_inj (l : List UInt8) : ∀ {x y : Nat}, x < 4294967296 → y < 4294967296 → crcL x l = crcL y l → x = y := by
  induction l with
  | nil => exact fun _ _ h => h
  | cons b l ih => exact fun hx hy h => crcByte_inj b hx hy (ih (crcByte_lt _ b hx) (crcByte_lt _ b hy) h)
theorem crcByte_other {x : Nat} (b c : UInt8) (hx : x < 4294967296) (h : crcByte x b = crcByte x c) : b = c := by
  have hb := b.toNat_lt
  have hc := c.toNat_lt
  have := crcBits_inj 8 (Nat.xor_lt_two_pow (n := 32) hx (by omega)) (Nat.xor_lt_two_pow (n := 32) hx (by omega)) h
  have e : (x ^^^ b.toNat) ^^^ (x ^^^ c.toNat) = 0 := by rw [this, Nat.xor_self]
  rw [show (x ^^^ b.toNat) ^^^ (x ^^^ c.toNat) = b.toNat ^^^ c.toNat ^^^ (x ^^^ x) from by ac_rfl, Nat.xor_self, Nat.xor_zero] at e
  exact UInt8.toNat_inj.1 (xor_eq_zero_imp e)
theorem crcL_set (l : List UInt8) : ∀ (k : Nat) (b c : UInt8) (x : Nat), x < 4294967296 → l[k]? = some b → crcL x (l.set k c) = crcL x l → b = c := by
  induction l with
  | nil => intro k b c x _ h; simp at h
  | cons d l ih =>
    intro k b c x hx h he
    cases k with
    | zero =>
      simp at h; subst h
      exact (crcByte_other c d hx (crcL_inj l (crcByte_lt _ c hx) (crcByte_lt _ d hx) he)).symm
    | succ k => exact ih k b c (crcByte x d) (crcByte_lt x d hx) (by simpa using h) he
theorem sumOf_set (l : List UInt8) (k : Nat) (b c : UInt8) (h : l[k]? = some b) (he : sumOf (l.set k c) = sumOf l) : b = c := by
  unfold sumOf at he
  refine crcL_set l k b c 4294967295 (by omega) h ?_
  have : crcL 4294967295 (l.set k c) ^^^ 4294967295 ^^^ 4294967295 = crcL 4294967295 l ^^^ 4294967295 ^^^ 4294967295 := by rw [he]
  rwa [Nat.xor_assoc, Nat.xor_assoc, Nat.xor_self, Nat.xor_zero, Nat.xor_zero] at this
/-! ### What is read of a frame that is cut short, or of which a byte is another one -/
theorem unE_any (n : Nat) (q p : List UInt8) (hn : n ≤ 65536) (hq : q.length = 4) (hp : p.length = n) : unE (fourL n ++ q ++ p) = if q = fourL (sumOf (fourL n ++ p)) then (p, 8 + n, 0) else ([], 0, 9) := by
  obtain ⟨h1, h2, h3⟩ := take4 (fourL n) q p rfl hq
  have hl : (fourL n ++ q ++ p).length = 8 + p.length := by rw [List.length_append, List.length_append]; simp [fourL_length, hq]
  unfold unE
  rw [if_neg (by omega), h1, h2, h3, hl, numB_fourL n (by omega), if_neg (by omega), if_neg (by omega), List.take_of_length_le (by omega)]
theorem unE_set (t : List UInt8) (ht : t.length ≤ 65536) (k : Nat) (b c : UInt8) (hk : 4 ≤ k) (hb : (frameL t)[k]? = some b) (hne : b ≠ c) : unE ((frameL t).set k c) = ([], 0, 9) := by
  unfold frameL at hb ⊢
  by_cases h8 : k < 8
  · rw [List.append_assoc, List.getElem?_append_right (by rw [fourL_length]; exact hk), fourL_length, List.getElem?_append_left (by rw [fourL_length]; omega)] at hb
    rw [List.append_assoc, List.set_append_right _ _ (by rw [fourL_length]; exact hk), fourL_length, List.set_append_left _ _ (by rw [fourL_length]; omega), ← List.append_assoc]
    rw [unE_any _ _ _ ht (by rw [List.length_set, fourL_length]) rfl, if_neg]
    intro he
    have := congrArg (fun l : List UInt8 => l[k - 4]?) he
    rw [hb, List.getElem?_set_self (by rw [fourL_length]; omega)] at this
    exact hne (Option.some.inj this).symm
  · rw [List.getElem?_append_right (by rw [List.length_append, fourL_length, fourL_length]; omega), List.length_append, fourL_length, fourL_length] at hb
    rw [List.set_append_right _ _ (by rw [List.length_append, fourL_length, fourL_length]; omega), List.length_append, fourL_length, fourL_length]
    rw [unE_any _ _ _ ht rfl (by rw [List.length_set]), if_neg]
    intro he
    have h2 := fourL_inj (sumOf_lt _) (sumOf_lt _) he
    refine hne (sumOf_set (fourL t.length ++ t) (4 + (k - (4 + 4))) b c ?_ ?_)
    · rw [List.getElem?_append_right (by rw [fourL_length]; omega), fourL_length, Nat.add_sub_cancel_left]; exact hb
    · rw [List.set_append_right _ _ (by rw [fourL_length]; omega), fourL_length, Nat.add_sub_cancel_left]; exact h2.symm
theorem unE_cut (t : List UInt8) (ht : t.length ≤ 65536) (p : Nat) (hp : p < (frameL t).length) : unE ((frameL t).take p) = ([], 0, 8) := by
  have hfl := frameL_length t
  unfold unE
  by_cases h4 : p < 4
  · rw [if_pos (by rw [List.length_take]; omega)]
  · rw [if_neg (by rw [List.length_take]; omega)]
    have h1 : ((frameL t).take p).take 4 = fourL t.length := by
      rw [List.take_take, Nat.min_eq_left (by omega)]
      unfold frameL
      exact (take4 _ _ _ rfl rfl).1
    rw [h1, numB_fourL _ (by omega), if_neg (by omega), if_pos (by rw [List.length_take]; omega)]
theorem flip_ne (b : UInt8) (j : Nat) (hj : j < 8) : b ≠ UInt8.ofNat (b.toNat ^^^ 2 ^ j) := by
  intro h
  have hb := b.toNat_lt
  have h2j : 2 ^ j ≤ 2 ^ 7 := Nat.pow_le_pow_right (by omega) (by omega)
  have hx : b.toNat ^^^ 2 ^ j < 256 := Nat.xor_lt_two_pow (n := 8) (by omega) (by omega)
  have h1 : b.toNat = b.toNat ^^^ 2 ^ j := by
    have := congrArg UInt8.toNat h
    rw [toNat_byte _ hx] at this
    exact this
  have h3 : b.toNat ^^^ (b.toNat ^^^ 2 ^ j) = 0 := by rw [← h1, Nat.xor_self]
  rw [← Nat.xor_assoc, Nat.xor_self, Nat.zero_xor] at h3
  have := Nat.two_pow_pos j
  omega

/-- A block known whole, that bears the run-time's mark behind its cells. -/
def CellsZ (w : World) (b : Nat) (t : TypeId) (cs : List Value) : Prop := w.heap[b]? = some (.cells cs.toArray t (cs.length, cs.length + 1))
theorem CellsZ.lt {w : World} {b : Nat} {t : TypeId} {cs : List Value} (h : CellsZ w b t cs) : b < w.heap.size := by
  rcases Nat.lt_or_ge b w.heap.size with hlt | hge
  · exact hlt
  · unfold CellsZ at h; rw [Array.getElem?_eq_none hge] at h; cases h
theorem CellsZ.cell {w : World} {b : Nat} {t : TypeId} {cs : List Value} (h : CellsZ w b t cs) {k : Nat} {v : Value} (hv : cs[k]? = some v) : w.cell? ⟨b, k, none⟩ = some v := by
  have := cell_of_row w b k cs.toArray t _ h
  rw [this]; simpa using hv
theorem CellsZ.frozen {w : World} {b : Nat} {t : TypeId} {cs : List Value} (h : CellsZ w b t cs) (k : Nat) (hk : k < cs.length) : w.frozen? ⟨b, k, none⟩ = false := by
  unfold CellsZ at h
  simp [World.frozen?, h]
  omega
theorem CellsZ.set {w : World} {b : Nat} {t : TypeId} {cs : List Value} (h : CellsZ w b t cs) (i : Nat) (u : Value) : CellsZ (w.setCell ⟨b, i, none⟩ u) b t (cs.set i u) := by
  unfold CellsZ at h ⊢
  simp [World.setCell, Array.getElem?_modify, h]
theorem bytesRow_list (l : List UInt8) (cap : Nat) : bytesRow ⟨l.toArray⟩ cap = (bytes l ++ List.replicate (cap - l.length) (Value.int .u8 0)).toArray := by
  unfold bytesRow bytes
  apply Array.ext'
  simp [str_size]

set_option maxRecDepth 100000 in
set_option maxHeartbeats 1000000 in
theorem codecCuts_walk (W : World) (t : ByteArray) (ht : t.size ≤ maxLen) (pos : Int) (hp' : (Lit.int .i64 pos).wf = true) (bit : Int) (hb' : (Lit.int .i64 bit).wf = true) :
    Calls Try.prog 5 #[.string t, .int .i64 pos, .int .i64 bit] W fun e W' => e = .returned (.bool true) ∧ Only [] W W' := by
  have hp := wide64_of_wf hp'
  have hb := wide64_of_wf hb'
  clear hp' hb'
  obtain ⟨lt, rfl, ht'⟩ := str_of t
  rw [ht'] at ht
  clear ht'
  unfold maxLen at ht
  by_cases g1 : lt.length ≤ 2000
  · have hd1 : decide ((2000 : Int) < lt.length) = false := by simp; omega
    have hfl := frameL_length lt
    have c1 := fun w => codec_Frame' lt w (by omega) _ _ (frE_small lt (by omega))
    have hcut := unE_cut lt (by omega)
    have hset := unE_set lt (by omega)
    obtain ⟨f, hf⟩ : ∃ f, frameL lt = f := ⟨_, rfl⟩
    rw [hf] at c1 hfl hcut hset
    clear hf
    have hfl2 : (f.length : Int) = lt.length + 8 := by omega
    obtain ⟨p, hpp⟩ : ∃ p, pickN pos f.length = p := ⟨_, rfl⟩
    have hpl : p < f.length := by rw [← hpp]; exact pickN_lt _ _ (by omega)
    obtain ⟨q, hq⟩ : ∃ q, pickN pos (lt.length + 4) = q := ⟨_, rfl⟩
    have hql : q < lt.length + 4 := by rw [← hq]; exact pickN_lt _ _ (by omega)
    obtain ⟨j, hj⟩ : ∃ j, pickN bit 8 = j := ⟨_, rfl⟩
    have hjl : j < 8 := by rw [← hj]; exact pickN_lt _ _ (by omega)
    have c2 : ∀ w, Calls Try.prog 34 #[.int .i64 pos, .int .i64 (lt.length + 8)] w fun e w' => e = .returned (.int .i64 p) ∧ w = w' := fun w => by
      rw [← hpp, ← hfl2]; exact pick1 pos f.length w hp (by omega) (by omega)
    have c3 : ∀ w, Calls Try.prog 34 #[.int .i64 pos, .int .i64 (lt.length + 4)] w fun e w' => e = .returned (.int .i64 q) ∧ w = w' := fun w => by
      rw [← hq]; have := pick1 pos (lt.length + 4) w hp (by omega) (by omega); simpa using this
    have c4 : ∀ w, Calls Try.prog 34 #[.int .i64 bit, .int .i64 8] w fun e w' => e = .returned (.int .i64 j) ∧ w' = w := fun w => by
      rw [← hj]; exact (pick1 bit 8 w hb (by omega) (by omega)).mono fun _ _ h => ⟨h.1, h.2.symm⟩
    have c5 := fun w => codec_Unframe' (f.take p) w (by rw [List.length_take]; omega) _ _ _ (hcut p hpl)
    have hcv : ∀ w : World, ∃ cap zs, f.length ≤ cap ∧ (convert 9 37 (.string ⟨f.toArray⟩)).run Try.prog w = .ok (.slice (some ⟨w.heap.size, 0, none⟩) f.length cap) (w.drew.alloc (.cells (bytes f ++ zs).toArray 5 ((bytes f ++ zs).length, (bytes f ++ zs).length + 1))) := fun w => by
      have := run_bytes_of_string (P := Try.prog) w _ _ _ (⟨f.toArray⟩ : ByteArray) Try.underlying9 Try.underlying37 Try.underlying5
      rw [bytesRow_list, List.size_toArray] at this
      exact ⟨_, _, grownCap_ge _ _ _ _, this⟩
    have C1 := Lib.hid c1; have C2 := Lib.hid c2; have C3 := Lib.hid c3; have C4 := Lib.hid c4; have C5 := Lib.hid c5; have HCV := Lib.hid hcv
    clear c1 c2 c3 c4 c5 hcv hcut hp hb hpp hq hj
    have HS := Lib.hid hset
    clear hset
    go_enter Try.func5, Try.ntmps5
    go_wp2_with fail
    refine (shown1 W).mono ?_
    rintro e w1 ⟨rfl, ho1⟩
    go_wp2_with fail
    refine (C1.out _).mono ?_
    rintro e w2 ⟨rfl, ho2⟩
    go_wp2_with fail
    refine (C2.out _).mono ?_
    rintro e w3 ⟨rfl, rfl⟩
    have hpl2 : p < lt.length + 8 := by omega
    go_wp2_with fail
    rw [str_from_start]
    refine (C5.out _).mono ?_
    rintro e w4 ⟨rfl, ho4⟩
    go_wp2_with fail
    obtain ⟨cap, zs, hcap, hcv⟩ := HCV.out w4
    rw [hcv]
    simp only [Result.andThen]
    rw [Oper.upon_value]
    have ho5 : Only [] W (w4.drew.alloc (.cells (bytes f ++ zs).toArray 5 ((bytes f ++ zs).length, (bytes f ++ zs).length + 1))) := (((ho1.tr0 ho2).tr0 ho4).drew).alloc _
    have hC : CellsZ (w4.drew.alloc (.cells (bytes f ++ zs).toArray 5 ((bytes f ++ zs).length, (bytes f ++ zs).length + 1))) w4.heap.size 5 (bytes f ++ zs) := heap_alloc_new w4.drew _
    have hWg : W.heap.size ≤ w4.heap.size := ((ho1.tr0 ho2).tr0 ho4).size
    obtain ⟨g, hg⟩ : ∃ g, w4.heap.size = g := ⟨_, rfl⟩
    rw [hg] at hC hWg ⊢
    obtain ⟨w5, hw5⟩ : ∃ w5, w4.drew.alloc (.cells (bytes f ++ zs).toArray 5 ((bytes f ++ zs).length, (bytes f ++ zs).length + 1)) = w5 := ⟨_, rfl⟩
    rw [hw5] at hC ho5 ⊢
    have HZ := Lib.hid hC
    clear hcv hw5 hg ho1 ho2 ho4 hC
    go_wp2_with fail
    rw [show (lt.length : Int) + 8 - 4 = lt.length + 4 from by omega]
    refine (C3.out _).mono ?_
    rintro e w6 ⟨rfl, rfl⟩
    obtain ⟨k, hk⟩ : ∃ k, 4 + q = k := ⟨_, rfl⟩
    have hkI : (4 : Int) + q = k := by omega
    have hkf : k < f.length := by omega
    have hkf2 : k < lt.length + 8 := by omega
    have hkf3 : (k : Int) < lt.length + 8 := by omega
    have hkb := List.getElem?_eq_getElem hkf
    obtain ⟨b, hb⟩ : ∃ b, f[k] = b := ⟨_, rfl⟩
    rw [hb] at hkb
    have hbk : (bytes f ++ zs)[k]? = some (.int .u8 (b.toNat : Int)) := by
      rw [List.getElem?_append_left (by rw [bytes_length]; exact hkf)]
      unfold bytes
      rw [List.getElem?_map, hkb]; rfl
    have rc := HZ.out.cell hbk
    have rf := HZ.out.frozen k (by rw [List.length_append, bytes_length]; omega)
    have rl := HZ.out.lt
    have hb8 := b.toNat_lt
    have HKB := Lib.hid hkb
    clear hkb hb hbk
    go_wp2_with fail
    refine wp_region_still_tail 12 (by kernel_rfl) (by kernel_rfl) ?_
    simp only [List.take_succ_cons, List.take_zero, List.drop_succ_cons, List.drop_zero]
    repeat still_step
    still_call (C4.out _)
    repeat still_step
    try refine wpStill_nil ?_
    change wpList _ _ _ _ _ w5.drew
    obtain ⟨c, hc⟩ : ∃ c, UInt8.ofNat (b.toNat ^^^ 2 ^ j) = c := ⟨_, rfl⟩
    have h2j : 2 ^ j ≤ 2 ^ 7 := Nat.pow_le_pow_right (by omega) (by omega)
    have hV : bits .xor .u8 (b.toNat : Int) (2 ^ min j 8 % 256) = (c.toNat : Int) := by
      have hx : b.toNat ^^^ 2 ^ j < 256 := Nat.xor_lt_two_pow (n := 8) (by omega) (by omega)
      rw [Nat.min_eq_left (by omega), ← hc, toNat_byte _ hx, show (2 : Int) ^ j % 256 = ((2 ^ j : Nat) : Int) from by rw [Int.natCast_pow]; exact Int.emod_eq_of_lt (Int.pow_nonneg (by omega)) (by rw [show ((2 : Int) ^ j) = ((2 ^ j : Nat) : Int) from by rw [Int.natCast_pow]; rfl]; omega)]
      exact u8_xor_nat _ _ (by omega) (by omega)
    have HV := Lib.hid hV
    have hcs : (bytes f ++ zs).set k (.int .u8 c.toNat) = bytes (f.set k c) ++ zs := by
      rw [List.set_append_left _ _ (by rw [bytes_length]; exact hkf)]
      unfold bytes; rw [List.map_set]
    have hC6 : CellsZ ((w5.setCell ⟨g, k, none⟩ (.int .u8 c.toNat)).drew) g 5 (bytes (f.set k c) ++ zs) := by
      rw [← hcs]; exact HZ.out.set k _
    have ho6 : Only [] W ((w5.setCell ⟨g, k, none⟩ (.int .u8 c.toNat)).drew) := (ho5.setCell (p := ⟨g, k, none⟩) (.inr hWg) _).drew
    have hun := HS.out k b c (by omega) HKB.out (by rw [← hc]; exact flip_ne b j hjl)
    have hxl : (f.set k c).length = lt.length + 8 := by rw [List.length_set]; exact hfl
    obtain ⟨x, hx⟩ : ∃ x, f.set k c = x := ⟨_, rfl⟩
    rw [hx] at hC6 hun hxl
    have c9 := fun w => codec_Unframe' x w (by omega) _ _ _ hun
    have C9 := Lib.hid c9
    clear hc h2j hV hcs hun hx c9
    go_wp2_with fail
    rw [HV.out]
    obtain ⟨w6, hw6⟩ : ∃ w6, (w5.setCell ⟨g, k, none⟩ (.int .u8 c.toNat)).drew = w6 := ⟨_, rfl⟩
    rw [hw6] at hC6 ho6 ⊢
    have hcv : (convert 37 9 (.slice (some ⟨g, 0, none⟩) (lt.length + 8) cap)).run Try.prog w6 = .ok (.string ⟨x.toArray⟩) w6 := by
      rw [← hxl]
      refine run_convert_bytes_back _ _ _ _ _ _ x Try.underlying37 Try.underlying5 Try.underlying9 fun i hi => ?_
      have := hC6.cell (k := i) (v := .int .u8 (x[i].toNat : Int)) (by rw [List.getElem?_append_left (by rw [bytes_length]; exact hi)]; simp [bytes, List.getElem?_eq_getElem hi])
      unfold Addr.add
      by_cases h : i = 0
      · subst h; simpa using this
      · simp only [h, if_false, Nat.zero_add]; exact this
    clear hC6 hw6 HZ rc rf
    go_wp2_with fail
    rw [hcv]
    simp only [Result.andThen]
    rw [Oper.upon_value]
    clear hcv
    go_wp2_with fail
    refine (C9.out _).mono ?_
    rintro e w7 ⟨rfl, ho7⟩
    go_wp2_with fail
    go_ret
    exact ⟨rfl, ho6.tr0 ho7⟩
  · have hd1 : decide ((2000 : Int) < lt.length) = true := by simp; omega
    go_enter Try.func5, Try.ntmps5
    go_wp2_with fail
    refine (shown1 W).mono ?_
    rintro e w1 ⟨rfl, ho1⟩
    go_wp2_with fail
    go_ret
    exact ⟨rfl, ho1⟩
end Go.Proofs.Ytojhbhdlbbmghaa
