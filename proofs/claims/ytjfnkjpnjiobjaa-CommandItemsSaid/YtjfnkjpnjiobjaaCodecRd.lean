/-
  The walk over codec.ToInt.
-/
import Derived.Test.YtjfnkjpnjiobjaaCodec
namespace Go.Proofs.Ytjfnkjpnjiobjaa
open Go.RowKit
def rdV : Option (Int × List UInt8) → Value
  | some (n, r) => .tuple #[.int .i64 n, .string ⟨r.toArray⟩, .bool true]
  | none => .tuple #[.int .i64 0, .string ⟨#[]⟩, .bool false]
theorem unzig_bits (x : Nat) (hx : x < 18446744073709551616) : bits BinOp.xor IntKind.i64 ((x : Int) / 2) (wrap64 (-wrap64 (bits BinOp.and IntKind.u64 (x : Int) 1))) = unzig x := by
  rw [and_one_u64 _ (by omega) (by omega)]
  unfold unzig
  by_cases h : x % 2 = 0
  · rw [if_pos h, show ((x : Int) % 2) = 0 from by omega]
    rw [show wrap64 (-wrap64 0) = 0 from by decide +kernel, show ((x : Int) / 2) = ((x / 2 : Nat) : Int) from by omega, i64_xor_zero _ (by omega)]
  · rw [if_neg h, show ((x : Int) % 2) = 1 from by omega]
    rw [show wrap64 (-wrap64 1) = -1 from by decide +kernel, show ((x : Int) / 2) = ((x / 2 : Nat) : Int) from by omega, bits_xor_comm, i64_not _ (by omega)]
    omega
theorem go_cons (v : Nat) (c : UInt8) (t : List UInt8) : go v (c :: t) = if (v = 0 ∧ c.toNat = 128) ∨ 144115188075855872 ≤ v then none else if c.toNat < 128 then some (v * 128 + c.toNat, t) else go (v * 128 + c.toNat % 128) t := rfl
theorem or7 (u : Nat) (c : UInt8) (hu : u < 144115188075855872) : bits BinOp.or IntKind.u64 ((u : Int) * 128) (IntKind.u64.wrap (bits BinOp.and IntKind.u8 (c.toNat : Int) 127)) = ((u * 128 + c.toNat % 128 : Nat) : Int) := by
  rw [and127 _ c.toNat_lt]
  rw [show IntKind.u64.wrap ((c.toNat % 128 : Nat) : Int) = ((c.toNat % 128 : Nat) : Int) from by
    simp [IntKind.wrap, IntKind.signed, IntKind.bits]; omega]
  rw [show (u : Int) * 128 = ((u * 128 : Nat) : Int) from by omega, bits_or_u64_nat _ _ (by omega) (by omega)]
  have := Nat.two_pow_add_eq_or_of_lt (i := 7) (b := c.toNat % 128) (by omega) u
  rw [show u * 128 = 2 ^ 7 * u from by omega, ← this]
set_option maxRecDepth 100000 in
set_option maxHeartbeats 1000000 in
theorem codec_toInt (s : List UInt8) (w : World) (hl : s.length ≤ 1000000000000) :
    Calls Try.prog 112 #[.string ⟨s.toArray⟩] w fun e w' => e = .returned (rdV (rdI s)) ∧ Only [] w w' := by
  go_enter Try.func112, Try.ntmps112
  go_wp2_with fail
  go_loopw [5, 11] (fun v i wr => ∃ (k u : Nat), k ≤ s.length ∧ k ≤ 10 ∧ i = .int .i64 k ∧ v = .int .u64 u ∧ u < 18446744073709551616 ∧ Hid (go 0 s = go u (s.drop k)) ∧ (u = 0 ↔ k = 0) ∧ (1 ≤ k → 128 ^ (k - 1) ≤ u) ∧ Only [] w wr) (fun _ i _ => 10 - (intOf i).toNat)
  case atStart => exact ⟨0, 0, by omega, by omega, rfl, rfl, by omega, by rw [List.drop_zero]; rfl, by simp, by omega, Only.refl _ _⟩
  case round =>
    obtain ⟨k, u, hk, hk10, rfl, rfl, hu, hgo, hz, hge, ho⟩ := hrel
    by_cases hlt : k < s.length ∧ k < 10
    · obtain ⟨hlt, hlt10⟩ := hlt
      have hk1 := List.getElem?_eq_getElem hlt
      obtain ⟨c, hc⟩ : ∃ c, s[k] = c := ⟨_, rfl⟩
      have hix : ∀ h : k < (⟨s.toArray⟩ : ByteArray).size, (⟨s.toArray⟩ : ByteArray)[k]'h = c := fun _ => hc
      have hdrop : s.drop k = c :: s.drop (k + 1) := by rw [List.drop_eq_getElem_cons hlt, hc]
      have hgo' := hgo.out
      rw [hdrop] at hgo'
      rw [go_cons] at hgo'
      have hr : rdI s = (go 0 s).map fun (u, r) => (unzig u, r) := rfl
      have hmin : (k : Int) < min (s.length : Int) 10 := by omega
      clear hc hk1 hdrop
      by_cases hbad : (u = 0 ∧ c.toNat = 128) ∨ 144115188075855872 ≤ u
      · rw [if_pos hbad] at hgo'
        have HR : Hid (rdI s = none) := by rw [hr, hgo']; rfl
        clear hgo hgo' hr
        by_cases h0 : k = 0 ∧ c.toNat = 128
        · obtain ⟨h01, h02⟩ := h0
          have d0 : ((k : Int) == 0) = true := by simp [h01]
          have d1 : ((c.toNat : Int) == 128) = true := by simp [h02]
          clear hbad h01 h02 hz hge
          go_wp2_with fail
          go_ret3
          exact ⟨by rw [HR.out]; rfl, ho⟩
        · have hu57 : 144115188075855872 ≤ u := by
            rcases hbad with h | h
            · exact absurd ⟨hz.1 h.1, h.2⟩ h0
            · exact h
          have hk0 : k ≠ 0 := fun h => by have := hz.2 h; omega
          have d0 : ((k : Int) == 0) = false := by simpa using hk0
          have d2 : decide ((0 : Int) < (u : Int) / 144115188075855872) = true := by simp; omega
          clear hbad h0 hu57 hk0 hz hge
          go_wp2_with fail
          go_ret3
          exact ⟨by rw [HR.out]; rfl, ho⟩
      · rw [if_neg hbad] at hgo'
        have hu57 : u < 144115188075855872 := by omega
        have hnc : ¬ (k = 0 ∧ c.toNat = 128) := fun h => hbad (.inl ⟨hz.2 h.1, h.2⟩)
        have d2 : decide ((0 : Int) < (u : Int) / 144115188075855872) = false := by simp; omega
        obtain ⟨b0, d0, hb0⟩ : ∃ b0, ((k : Int) == 0) = b0 ∧ (b0 = false ∨ (b0 = true ∧ ((c.toNat : Int) == 128) = false)) := by
          by_cases h : k = 0
          · refine ⟨true, by simp [h], .inr ⟨rfl, ?_⟩⟩
            have : c.toNat ≠ 128 := fun e => hnc ⟨h, e⟩
            simp; omega
          · exact ⟨false, by simpa using h, .inl rfl⟩
        have HO := Lib.hid (or7 u c hu57)
        have hc8 := c.toNat_lt
        have HZ := Lib.hid hz
        have HGE := Lib.hid hge
        have HB := Lib.hid hbad
        clear hnc hge hbad hz
        by_cases hc : c.toNat < 128
        · rw [if_pos hc] at hgo'
          have dc : decide ((c.toNat : Int) < 128) = true := by simp; omega
          have HR : Hid (rdI s = some (unzig (u * 128 + c.toNat), s.drop (k + 1))) := by rw [hr, hgo']; rfl
          clear hgo hgo' hr
          rcases hb0 with rfl | ⟨rfl, d1⟩
          all_goals
            go_wp2_with fail
            rw [HO.out]
            have hxl : u * 128 + c.toNat % 128 < 18446744073709551616 := by omega
            have HX : Hid (u * 128 + c.toNat % 128 = u * 128 + c.toNat) := by show _ = _; omega
            obtain ⟨x, hx⟩ : ∃ x, u * 128 + c.toNat % 128 = x := ⟨_, rfl⟩
            rw [hx] at hxl HX ⊢
            clear HO hx
            go_quiet (fail)
            rw [unzig_bits x hxl, str_to_end]
            go_wp2_with fail
            go_ret3
            exact ⟨by rw [HR.out, ← HX.out]; rfl, ho.drewN _⟩
        · rw [if_neg hc] at hgo'
          have dc : decide ((c.toNat : Int) < 128) = false := by simp; omega
          have HG := Lib.hid hgo'
          clear hgo hgo' hr
          rcases hb0 with rfl | ⟨rfl, d1⟩
          all_goals
            go_wp2_with fail
            go_roundw
            case rel =>
              refine ⟨k + 1, u * 128 + c.toNat % 128, by omega, by omega, by go_num, by rw [HO.out], by omega, HG.out, ⟨fun h => ?_, fun h => by omega⟩, fun _ => ?_, ho⟩
              · exact absurd (Or.inl ⟨by omega, by omega⟩) HB.out
              · rw [Nat.add_sub_cancel]
                by_cases h0 : k = 0
                · subst h0
                  have : c.toNat ≠ 128 := fun e => HB.out (.inl ⟨HZ.out.2 rfl, e⟩)
                  simp; omega
                · have := HGE.out (by omega)
                  rw [show k = (k - 1) + 1 from by omega, Nat.pow_succ]
                  omega
            case measure => simp [intOf]; omega
    · have hmin : decide ((k : Int) < min (s.length : Int) 10) = false := by simp; omega
      have HR : Hid (rdI s = none) := by
        show (go 0 s).map _ = none
        rw [hgo.out]
        rcases Nat.lt_or_ge k s.length with h | h
        · obtain rfl : k = 10 := by omega
          have := hge (by omega)
          rw [List.drop_eq_getElem_cons h]
          rw [go_cons, if_pos (.inr (by rw [show (128 : Nat) ^ (10 - 1) = 9223372036854775808 from by decide] at this; omega))]; rfl
        · rw [List.drop_eq_nil_of_le h]; rfl
      clear hgo hge hz hlt
      go_wp2_with fail
      go_ret3
      exact ⟨by rw [HR.out]; rfl, ho⟩
end Go.Proofs.Ytjfnkjpnjiobjaa
