/-
  The document's answer to layer 1: numbers alone (for rounds without texts; cut out of XRef1).
-/
import Derived.Test.YtjfnkjpnjiobjaaCodecRd
namespace Go.Proofs.Ytjfnkjpnjiobjaa
open Go.RowKit
theorem ba_toList (l : List UInt8) : (⟨l.toArray⟩ : ByteArray).toList = l := by simp
theorem ba_append (a b : List UInt8) : (⟨a.toArray⟩ : ByteArray) ++ ⟨b.toArray⟩ = ⟨(a ++ b).toArray⟩ := by
  ext1; simp
theorem ref_natural (n : Int) (w : World) (hn : Wide64 n) : Calls Try.prog 106 #[.int .i64 n] w fun e w' => e = .returned (.int .u64 (zig n : Nat)) ∧ w = w' := by
  obtain ⟨n0, n1⟩ := hn
  by_cases h0 : 0 ≤ n
  · have HZ : Hid (2 * n = ((zig n : Nat) : Int)) := by show _ = _; unfold zig; rw [if_pos h0]; omega
    go_enter Try.func106, Try.ntmps106
    go_wp2_with fail
    go_ret
    exact ⟨by rw [← HZ.out]; rfl, rfl⟩
  · have HZ : Hid (2 * (-(n + 1)) + 1 = ((zig n : Nat) : Int)) := by show _ = _; unfold zig; rw [if_neg h0]; omega
    have hd : decide (0 ≤ n) = false := by simpa using h0
    go_enter Try.func106, Try.ntmps106
    go_wp2_with fail
    go_ret
    exact ⟨by rw [← HZ.out]; rfl, rfl⟩

/-- A slice of bytes, as it is read. -/
def Bs (w : World) (v : Value) (l : List UInt8) : Prop :=
  ∃ g cap, v = .slice (some ⟨g, 0, none⟩) l.length cap ∧ g < w.heap.size ∧ ∀ j u, (bytes l)[j]? = some u → w.cell? (Addr.add ⟨g, 0, none⟩ j) = some u

theorem ofNat_byte (x : Nat) (h : x < 256) : ((UInt8.ofNat x).toNat : Int) = x := by
  rw [UInt8.toNat_ofNat']; omega
theorem Bs.new (w : World) (l : List UInt8) (hl : l.length ≤ maxLen) : Bs (w.alloc (.cells (bytes l).toArray 5)) (.slice (some ⟨w.heap.size, 0, none⟩) l.length l.length) l :=
  ⟨_, _, rfl, by simp, fun j u hu => (World.ownsRow_lit (base := w.heap.size) (size := 1) (e := 5) w (bytes l).toArray l.length (Nat.le_refl _) hl (by simp [bytes])).cells (g := w.heap.size) rfl j u hu⟩
theorem Bs.of_own {w : World} {base : Nat} {v : Value} {l : List UInt8} (h : w.ownsRow base 5 1 v l.length (bytes l)) (h0 : l ≠ []) : Bs w v l ∧ ∃ g, v.ownBlock = some g ∧ base ≤ g := by
  have hl : 0 < l.length := List.length_pos_iff.2 h0
  obtain ⟨g, cap, rfl, hb, hlt, _⟩ := own_cell (k := 0) h (List.getElem?_eq_getElem (by rw [bytes_length]; exact hl))
  exact ⟨⟨g, cap, rfl, hlt, fun j u hu => h.cells (g := g) rfl j u hu⟩, g, rfl, hb⟩
set_option maxRecDepth 100000 in
set_option maxHeartbeats 1000000 in
theorem ref_int (n : Int) (w : World) (hn : Wide64 n) : Calls Try.prog 77 #[.int .i64 n] w fun e w' => e = .returned (.string ⟨(ib n).toArray⟩) ∧ Only [] w w' := by
  obtain ⟨i0, hi0, hz0, hz1, hz2⟩ := info_parts info_byte
  have HN := Lib.hid (ref_natural n w hn)
  have hz := zig_lt n hn.1 hn.2
  have hvb : ib n = hi (zig n / 128) ++ [UInt8.ofNat (zig n % 128)] := rfl
  obtain ⟨z, hzz⟩ : ∃ z, zig n = z := ⟨_, rfl⟩
  rw [hzz] at HN hz hvb
  have HV := Lib.hid hvb
  clear hvb hzz
  go_enter Try.func77, Try.ntmps77
  go_wp2_with fail
  refine HN.out.mono ?_
  rintro e w1 ⟨rfl, rfl⟩
  go_wp2_with fail
  have hib := ib_length n hn
  clear hn
  go_loopw [3, 4] (fun v b wr => ∃ (u : Nat) (L : List UInt8), v = .int .u64 u ∧ u < 18446744073709551616 ∧ Hid (ib n = hi u ++ L) ∧ L ≠ [] ∧ Hid (Bs wr b L) ∧ Only [] w wr) (fun v _ _ => (intOf v).toNat)
  case atStart =>
    refine ⟨z / 128, [UInt8.ofNat (z % 128)], by go_num, by omega, HV, by simp, ?_, (Only.refl _ _).alloc _⟩
    have := Bs.new w [UInt8.ofNat (z % 128)] (by unfold maxLen; simp)
    simp only [bytes, List.map_cons, List.map_nil, ofNat_byte (z % 128) (by omega)] at this
    exact this
  case round =>
    obtain ⟨u, L, rfl, hu, hv, hL, hB, ho⟩ := hrel
    have hLl : L.length ≤ 10 := by have := congrArg List.length hv.out; rw [List.length_append] at this; omega
    obtain ⟨g, cap, rfl, hg, hr⟩ := hB.out
    have hsz := ho.size
    by_cases h0 : u = 0
    · subst h0
      have hd : decide ((0 : Int) < (0 : Int)) = false := by decide
      have HV2 : Hid (ib n = L) := by show _ = _; rw [hv.out, hi_zero]; rfl
      have hcv : (convert 106 9 (.slice (some ⟨g, 0, none⟩) L.length cap)).run Try.prog wr = .ok (.string ⟨L.toArray⟩) wr :=
        run_convert_bytes_back _ _ _ _ _ _ L Try.underlying106 Try.underlying5 Try.underlying9 fun j hj => hr j _ (by simp [bytes, List.getElem?_eq_getElem hj])
      clear hv hB hr
      go_wp2_with fail
      go_ret
      exact ⟨by rw [HV2.out]; rfl, ho⟩
    · have hd : decide ((0 : Int) < (u : Int)) = true := by simp; omega
      have HS : Hid (ib n = hi (u / 128) ++ ([UInt8.ofNat (128 + u % 128)] ++ L)) := by
        show _ = _; rw [hv.out, hi_step u h0 hu]; simp
      have HR := Lib.hid hr
      have hbe : bytes ([UInt8.ofNat (128 + u % 128)] ++ L) = .int .u8 (128 + (u : Int) % 128) :: bytes L := by
        rw [bytes_append]; simp only [bytes, List.map_cons, List.map_nil, ofNat_byte (128 + u % 128) (by omega)]; rfl
      have HBE := Lib.hid hbe
      clear hr hv hB hbe
      go_wp2_with (at_builtin; go_loud (refine wpList_append_own (wr.alloc (.cells #[.int .u8 (128 + (u : Int) % 128)] 5)) rfl _ _ 106 rfl w.heap.size 5 i0 (.int .u8 0) 1 1 Try.underlying106 hi0 hz0 hz1 hz2 rfl (by decide) _ 1 [.int .u8 (128 + (u : Int) % 128)] rfl (World.ownsRow_lit wr _ 1 hsz (by unfold maxLen; omega) rfl) ⟨g, 0, none⟩ L.length cap (bytes L) rfl (by rw [bytes_length, Nat.mul_one]) (fun j x hx => (Below.cell (B := wr.heap.size) ((Below.refl _ wr).alloc (Nat.le_refl _) _) (p := Addr.add ⟨g, 0, none⟩ j) (by unfold Addr.add; split <;> exact hg)).trans (HR.out j x hx)) (fun x hx => by simp only [bytes, List.mem_map] at hx; obtain ⟨_, _, rfl⟩ := hx; rfl) (by unfold maxLen; omega) (by omega) (by simp; omega) ?_))
      intro v' w2 hown' hgrow _
      rw [← HBE.out] at hown'
      obtain ⟨hB2, g2, hg2, hgb⟩ := Bs.of_own (by rw [List.length_append]; exact hown') (by simp)
      have HB2 := Lib.hid hB2
      have ho2 : Only [] w w2 := (ho.alloc _).grown hgrow fun g' e => .inr (by simp [Value.ownBlock] at e; subst e; exact hsz)
      clear hown' hgrow hB2
      go_wp2_with fail
      go_roundw
      case rel => exact ⟨u / 128, _, by go_num, by omega, HS, by simp, HB2, ho2⟩
      case measure => simp [intOf]; omega

/-- What bytes are as a number, seven bits each. -/
def val7 (l : List UInt8) : Nat := l.foldl (fun v c => 128 * v + c.toNat % 128) 0
theorem val7_snoc (l : List UInt8) (c : UInt8) : val7 (l ++ [c]) = 128 * val7 l + c.toNat % 128 := by
  unfold val7; rw [List.foldl_append]; rfl
theorem toNat_byte (x : Nat) (h : x < 256) : (UInt8.ofNat x).toNat = x := by
  rw [UInt8.toNat_ofNat']; omega
theorem hi_facts (n : Nat) : ∀ u, u ≤ n → u < 18446744073709551616 → val7 (hi u) = u ∧ ∀ c ∈ hi u, 128 ≤ c.toNat := by
  induction n with
  | zero =>
    intro u h _
    obtain rfl : u = 0 := by omega
    exact ⟨rfl, by simp [hi_zero]⟩
  | succ n ih =>
    intro u h hu
    by_cases h0 : u = 0
    · subst h0; exact ⟨rfl, by simp [hi_zero]⟩
    · obtain ⟨h1, h2⟩ := ih (u / 128) (by omega) (by omega)
      rw [hi_step u h0 hu]
      refine ⟨?_, fun c hc => ?_⟩
      · rw [val7_snoc, h1, toNat_byte _ (by omega)]; omega
      · rcases List.mem_append.1 hc with hc | hc
        · exact h2 c hc
        · rw [List.mem_singleton] at hc
          subst hc
          rw [toNat_byte _ (by omega)]; omega
theorem val7_vb (z : Nat) (h : z < 18446744073709551616) : val7 (vb z) = z := by
  unfold vb
  rw [val7_snoc, (hi_facts (z / 128) (z / 128) (by omega) (by omega)).1, toNat_byte _ (by omega)]; omega
theorem first_low (l r : List UInt8) (x : UInt8) (k : Nat) (c : UInt8) (hl : ∀ c ∈ l, 128 ≤ c.toNat) (hx : x.toNat < 128) (hk : (l ++ x :: r)[k]? = some c) (hc : c.toNat < 128) (hj : ∀ j d, j < k → (l ++ x :: r)[j]? = some d → 128 ≤ d.toNat) : k = l.length := by
  rcases Nat.lt_trichotomy k l.length with h | h | h
  · rw [List.getElem?_append_left h] at hk
    have := hl c (List.mem_of_getElem? hk)
    omega
  · exact h
  · have := hj l.length x h (by rw [List.getElem?_append_right (Nat.le_refl _)]; simp)
    omega
theorem vb_last (z : Nat) (h : z < 18446744073709551616) : ∃ l x, vb z = l ++ [x] ∧ (∀ c ∈ l, 128 ≤ c.toNat) ∧ x.toNat < 128 :=
  ⟨_, _, rfl, (hi_facts (z / 128) (z / 128) (by omega) (by omega)).2, by rw [toNat_byte _ (by omega)]; omega⟩
/-- At the first byte that is below 128: what is read. -/
theorem rdI_at (s : List UInt8) (k : Nat) (c : UInt8) (hk : s[k]? = some c) (hc : c.toNat < 128) (hj : ∀ j d, j < k → s[j]? = some d → 128 ≤ d.toNat) :
    rdI s = if ib (unzig (val7 (s.take (k + 1)) % 18446744073709551616)) = s.take (k + 1) then some (unzig (val7 (s.take (k + 1)) % 18446744073709551616), s.drop (k + 1)) else none := by
  split
  · rename_i h
    exact (rdI_iff _ _ _).2 ⟨unzig_wide _ (by omega), by rw [h, List.take_append_drop]⟩
  · rename_i h
    cases hr : rdI s with
    | none => rfl
    | some nr =>
      exfalso
      obtain ⟨n, r⟩ := nr
      obtain ⟨hw, hs⟩ := (rdI_iff _ _ _).1 hr
      have hz := zig_lt n hw.1 hw.2
      obtain ⟨l, x, hv, hl, hx⟩ := vb_last (zig n) hz
      have hs2 : s = l ++ x :: r := by rw [hs]; unfold ib; rw [hv]; simp
      obtain rfl : k = l.length := first_low l r x k c hl hx (hs2 ▸ hk) hc (fun j d h1 h2 => hj j d h1 (hs2 ▸ h2))
      have ht : s.take (l.length + 1) = vb (zig n) := by rw [hs2, hv, List.take_append]; simp; exact List.take_of_length_le (by omega)
      rw [ht, val7_vb _ hz, Nat.mod_eq_of_lt hz, unzig_zig] at h
      exact h rfl
theorem rdI_end (s : List UInt8) (k : Nat) (hk : k = s.length ∨ 10 ≤ k) (hj : ∀ j d, j < k → s[j]? = some d → 128 ≤ d.toNat) : rdI s = none := by
  cases hr : rdI s with
  | none => rfl
  | some nr =>
    exfalso
    obtain ⟨n, r⟩ := nr
    obtain ⟨hw, hs⟩ := (rdI_iff _ _ _).1 hr
    have hz := zig_lt n hw.1 hw.2
    obtain ⟨l, x, hv, hl, hx⟩ := vb_last (zig n) hz
    have hs2 : s = l ++ x :: r := by rw [hs]; unfold ib; rw [hv]; simp
    have h10 := (vb_length _ hz).2
    rw [hv, List.length_append, List.length_singleton] at h10
    have hsl : s.length = l.length + 1 + r.length := by rw [hs2]; simp; omega
    have := hj l.length x (by omega) (by rw [hs2, List.getElem?_append_right (Nat.le_refl _)]; simp)
    omega
theorem val7_next (s : List UInt8) (k : Nat) (c : UInt8) (hk : s[k]? = some c) : (128 * (val7 (s.take k) % 18446744073709551616) + c.toNat % 128) % 18446744073709551616 = val7 (s.take (k + 1)) % 18446744073709551616 := by
  have := val7_snoc (s.take k) c
  rw [List.take_add_one, hk]
  simp only [Option.toList_some]
  rw [this]
  omega

theorem un_even (x : Nat) (hx : x < 18446744073709551616) (h : ((x : Int).tmod 2 == 1) = false) : wrap64 (IntKind.u64.wrap ((x : Int).tdiv 2)) = unzig x := by
  have e : (x : Int).tdiv 2 = ((x / 2 : Nat) : Int) := by rw [Int.tdiv_eq_ediv_of_nonneg (by omega)]; omega
  have e2 : (x : Int).tmod 2 = ((x % 2 : Nat) : Int) := by rw [Int.tmod_eq_emod_of_nonneg (by omega)]; omega
  rw [e2] at h
  have h' : x % 2 = 0 := by simp at h; omega
  rw [e, IntKind.wrap_u64, unzig, if_pos h']
  unfold wrap64; omega
theorem un_odd (x : Nat) (hx : x < 18446744073709551616) (h : ((x : Int).tmod 2 == 1) = true) : wrap64 (wrap64 (-wrap64 (IntKind.u64.wrap ((x : Int).tdiv 2))) - 1) = unzig x := by
  have e : (x : Int).tdiv 2 = ((x / 2 : Nat) : Int) := by rw [Int.tdiv_eq_ediv_of_nonneg (by omega)]; omega
  have e2 : (x : Int).tmod 2 = ((x % 2 : Nat) : Int) := by rw [Int.tmod_eq_emod_of_nonneg (by omega)]; omega
  rw [e2] at h
  have h' : ¬x % 2 = 0 := by simp at h; omega
  rw [e, IntKind.wrap_u64, unzig, if_neg h']
  unfold wrap64; omega

set_option maxRecDepth 100000 in
set_option maxHeartbeats 1000000 in
theorem ref_toInt (s : List UInt8) (w : World) (hl : s.length ≤ 1000000000000) :
    Calls Try.prog 132 #[.string ⟨s.toArray⟩] w fun e w' => e = .returned (rdV (rdI s)) ∧ Only [] w w' := by
  go_enter Try.func132, Try.ntmps132
  go_wp2_with fail
  go_loop [5, 6] (fun v i => ∃ k : Nat, k ≤ s.length ∧ k ≤ 10 ∧ i = .int .i64 k ∧ v = .int .u64 (val7 (s.take k) % 18446744073709551616 : Nat) ∧ Hid (∀ j d, j < k → s[j]? = some d → 128 ≤ d.toNat)) (fun _ i => 10 - (intOf i).toNat)
  case atStart => exact ⟨0, by omega, by omega, rfl, rfl, fun j d h => by omega⟩
  case round =>
    obtain ⟨k, hk, hk10, rfl, rfl, hj⟩ := hrel
    by_cases hlt : k < s.length ∧ k < 10
    · obtain ⟨hlt, hlt10⟩ := hlt
      have hk1 := List.getElem?_eq_getElem hlt
      obtain ⟨c, hc⟩ : ∃ c, s[k] = c := ⟨_, rfl⟩
      rw [hc] at hk1
      have hix : ∀ h : k < (⟨s.toArray⟩ : ByteArray).size, (⟨s.toArray⟩ : ByteArray)[k]'h = c := fun _ => hc
      have hd0 : decide ((k : Int) < (s.length : Int)) = true := by simp; omega
      have hd1 : decide ((k : Int) < 10) = true := by simp; omega
      have hc8 := c.toNat_lt
      have hN := val7_next s k c hk1
      obtain ⟨u, hu⟩ : ∃ u, val7 (s.take k) % 18446744073709551616 = u := ⟨_, rfl⟩
      have hul : u < 18446744073709551616 := by omega
      rw [hu] at hN ⊢
      have HN := Lib.hid hN
      clear hu hc hN
      by_cases hlow : c.toNat < 128
      · have hdc : decide ((128 : Int) ≤ c.toNat) = false := by simp; omega
        have HA := Lib.hid (rdI_at s k c hk1 hlow hj.out)
        clear hk1 hj
        have hW : IntKind.u64.wrap (IntKind.u64.wrap (128 * (u : Int)) + (c.toNat : Int) % 128) = ((val7 (s.take (k + 1)) % 18446744073709551616 : Nat) : Int) := by
          rw [← HN.out, IntKind.wrap_u64, IntKind.wrap_u64]; omega
        obtain ⟨x, hx⟩ : ∃ x, val7 (s.take (k + 1)) % 18446744073709551616 = x := ⟨_, rfl⟩
        have hxl : x < 18446744073709551616 := by omega
        rw [hx] at hW HA
        have HW := Lib.hid hW
        have hy := unzig_wide x hxl
        have hsk : (⟨s.toArray⟩ : ByteArray).extract 0 (k + 1) = ⟨(s.take (k + 1)).toArray⟩ := str_from_start s (k + 1)
        have HK := Lib.hid hsk
        have hk1' : k + 1 ≤ s.length := hlt
        clear hx HN hW hsk
        go_wp2_with fail
        all_goals
          first
            | rw [HW.out, un_even x hxl (by rw [← HW.out]; assumption)]
            | rw [HW.out, un_odd x hxl (by rw [← HW.out]; assumption)]
          clear HW
          obtain ⟨y, hyy⟩ : ∃ y, unzig x = y := ⟨_, rfl⟩
          rw [hyy] at hy HA ⊢
          clear hyy
          refine wp_region_only w (Only.refl _ _) (by kernel_rfl) (by kernel_rfl) ?_
          repeat (go_big_quiet_step ((go_at_call 77; refine Calls.only (ref_int y _ hy))))
          refine wpQuiet_nil ?_
          rintro ⟨w8, ho8⟩
          dsimp only
          go_wp2_with fail
          · rename_i h
            have hq : ¬ib y = s.take (k + 1) := by rw [HK.out, ba_toList] at h; simpa using h
            go_ret3
            exact ⟨by rw [HA.out, if_neg hq]; rfl, ho8⟩
          · have h : (!ib y == ((⟨s.toArray⟩ : ByteArray).extract 0 (k + 1)).toList) = false := by assumption
            have hq : ib y = s.take (k + 1) := by rw [HK.out, ba_toList] at h; simpa using h
            have HR : Hid (rdI s = some (y, s.drop (k + 1))) := by show _ = _; rw [HA.out, if_pos hq]
            clear h hq HA
            go_quiet (fail)
            rw [str_to_end]
            go_wp2_with fail
            go_ret3
            exact ⟨by rw [HR.out]; rfl, ho8.drewN _⟩
      · have hdc : decide ((128 : Int) ≤ c.toNat) = true := by simp; omega
        have hj2 : Hid (∀ j d, j < k + 1 → s[j]? = some d → 128 ≤ d.toNat) := by
          intro j d h1 h2
          rcases Nat.lt_or_ge j k with h | h
          · exact hj.out j d h h2
          · obtain rfl : j = k := by omega
            rw [hk1] at h2
            injection h2 with h2
            subst h2
            omega
        clear hk1 hj
        go_wp2_with fail
        go_round
        case rel => exact ⟨k + 1, by omega, by omega, by go_num, by rw [← HN.out, IntKind.wrap_u64, IntKind.wrap_u64]; congr 1; omega, hj2⟩
        case measure => simp [intOf]; omega
    · have hR := Lib.hid (rdI_end s k (by omega) hj.out)
      clear hj
      rcases Nat.lt_or_ge k s.length with h | h
      · obtain rfl : k = 10 := by omega
        have hd0 : decide ((10 : Int) < (s.length : Int)) = true := by simp; omega
        have hd1 : decide ((10 : Int) < 10) = false := by decide
        go_wp2_with fail
        go_ret3
        exact ⟨by rw [hR.out]; rfl, Only.refl _ _⟩
      · have hd0 : decide ((k : Int) < (s.length : Int)) = false := by simp; omega
        go_wp2_with fail
        go_ret3
        exact ⟨by rw [hR.out]; rfl, Only.refl _ _⟩

end Go.Proofs.Ytjfnkjpnjiobjaa
