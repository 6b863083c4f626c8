/-
  Chapter 14: the document's hash; same, count.
-/
import Derived.Test.YtlonaniomnalnaaShardc
namespace Go.Proofs.Ytlonaniomnalnaa
open Go.RowKit

set_option maxRecDepth 100000 in
set_option maxHeartbeats 1000000 in
theorem ref_hash14 (l : List UInt8) (w : World) (hl : l.length ≤ 9223372036854775807) :
    Calls Try.prog 19 #[.string ⟨l.toArray⟩] w fun e w' => e = .returned (.int .u32 (hashL l)) ∧ w = w' := by
  go_enter Try.func19, Try.ntmps19
  go_wp2_with fail
  go_loop [3, 4] (fun h i => ∃ k : Nat, k ≤ l.length ∧ i = .int .i64 k ∧ h = .int .u64 (hashL (l.take k))) (fun _ i => l.length - (intOf i).toNat)
  case atStart => exact ⟨0, by omega, rfl, rfl⟩
  case round =>
    obtain ⟨k, hk, rfl, rfl⟩ := hrel
    have hlt2 := hashL_lt (l.take k)
    by_cases hlt : k < l.length
    · have hk1 := List.getElem?_eq_getElem hlt
      obtain ⟨b, hb⟩ : ∃ b, l[k] = b := ⟨_, rfl⟩
      rw [hb] at hk1
      have hix : ∀ h : k < (⟨l.toArray⟩ : ByteArray).size, (⟨l.toArray⟩ : ByteArray)[k]'h = b := fun _ => hb
      have HS := Lib.hid (hashL_take l k b hk1)
      obtain ⟨d, hd⟩ : ∃ d, hashL (l.take k) = d := ⟨_, rfl⟩
      rw [hd] at HS hlt2 ⊢
      have hb8 := b.toNat_lt
      have hx : bits .xor .u64 (d : Int) (b.toNat : Int) = ((d ^^^ b.toNat : Nat) : Int) := u64_xor_nat d b.toNat (by omega) (by omega)
      have hxl : d ^^^ b.toNat < 4294967296 := Nat.xor_lt_two_pow (n := 32) (by omega) (by omega)
      have HB : Hid (((hashL (l.take (k + 1)) : Nat) : Int) = ((d ^^^ b.toNat : Nat) : Int) * 16777619 % 4294967296) := by
        show _ = _; rw [HS.out]; unfold hashB; omega
      obtain ⟨y, hy⟩ : ∃ y, d ^^^ b.toNat = y := ⟨_, rfl⟩
      rw [hy] at hx hxl HB
      clear hb hk1 hd hy HS
      go_wp2_with fail
      clear hx
      go_round
      case rel => exact ⟨k + 1, by omega, by go_num, by rw [HB.out]⟩
      case measure => simp [intOf]; omega
    · obtain rfl : k = l.length := by omega
      rw [List.take_length] at hlt2 ⊢
      have h1 : ((hashL l : Nat) : Int) % 4294967296 = (hashL l : Nat) := by omega
      go_wp2_with fail
      go_ret
      exact ⟨rfl, rfl⟩
theorem ref_of14 (l : List UInt8) (w : World) (hl : l.length ≤ 9223372036854775807) :
    Calls Try.prog 21 #[.string ⟨l.toArray⟩] w fun e w' => e = .returned (.int .i64 (shardL l)) ∧ w = w' := by
  have CH := ref_hash14 l w hl
  have h1 := hashL_lt l
  go_enter Try.func21, Try.ntmps21
  go_wp2_with (go_at_call 19; refine CH.mono ?_; rintro e w' ⟨rfl, rfl⟩)
  go_ret
  exact ⟨by congr 2, rfl⟩

theorem sv_ne {x y : Tx} (h : x ≠ y) : x.1 ≠ y.1 := fun e => h (Subtype.ext e)
set_option maxRecDepth 100000 in
set_option maxHeartbeats 1000000 in
theorem same14 (n₀ n₁ : Nat) (v u : Value) (l m : List Tx) (w : World) (hl : l.length ≤ 1000000000) (hm : m.length ≤ 1000000000) (hv : Strs n₀ w v l) (hu : Strs n₁ w u m) (hn₀ : n₀ ≤ w.heap.size) (hn₁ : n₁ ≤ w.heap.size) :
    Calls Try.prog 23 #[v, u] w fun e w' => e = .returned (.bool (decide (l = m))) ∧ Only [] w w' := by
  have HV := Lib.hid hv
  have HU := Lib.hid hu
  obtain ⟨A, c, rfl, -⟩ := hv
  obtain ⟨B, d, rfl, -⟩ := hu
  go_enter Try.func23, Try.ntmps23
  by_cases hlen : l.length = m.length
  · have hq : ((l.length : Int) != m.length) = false := by simp; omega
    have HL := Lib.hid hlen
    clear hlen
    go_wp2_with fail
    go_loopw [5] (fun i wr => ∃ k : Nat, k ≤ l.length ∧ i = .int .i64 k ∧ l.take k = m.take k ∧ Only [] w wr) (fun i _ => l.length - (intOf i).toNat)
    case atStart => exact ⟨0, by omega, rfl, rfl, Only.refl _ _⟩
    case round =>
      obtain ⟨k, hk, rfl, htk, ho⟩ := hrel
      have HT := Lib.hid htk
      clear htk
      by_cases hlt : k < l.length
      · have hlt' : (k : Int) < (l.length : Int) := by omega
        have hkm : (k : Int) < (m.length : Int) := by have := HL.out; omega
        obtain ⟨A1, c1, e1, ha⟩ := HV.out
        injection e1 with i1 i2 i3
        subst i1; subst i3
        obtain ⟨b1, o1, rfl, hb1, ha⟩ := ha (by omega)
        obtain ⟨A2, c2, e2, hb⟩ := HU.out
        injection e2 with j1 j2 j3
        subst j1; subst j3
        obtain ⟨b2, o2, rfl, hb2, hb⟩ := hb (by have := HL.out; omega)
        have k1 := List.getElem?_eq_getElem hlt
        have k2 := List.getElem?_eq_getElem (show k < m.length by have := HL.out; omega)
        revert k1 k2
        generalize l[k] = x
        generalize m[k]'(show k < m.length by have := HL.out; omega) = y
        intro k1 k2
        have q1 : wr.cell? ⟨b1, o1 + k, none⟩ = some (.string ⟨x.1.toArray⟩) := (ho.cell (p := ⟨b1, o1 + k, none⟩) (by show b1 < _; omega) (by simp)).trans (ha k x k1)
        have q2 : wr.cell? ⟨b2, o2 + k, none⟩ = some (.string ⟨y.1.toArray⟩) := (ho.cell (p := ⟨b2, o2 + k, none⟩) (by show b2 < _; omega) (by simp)).trans (hb k y k2)
        have HT2 : Hid (l.take (k + 1) = m.take (k + 1) ↔ x = y) := by
          show _ ↔ _
          rw [List.take_add_one, List.take_add_one, k1, k2, HT.out]; simp
        have HN : Hid (x ≠ y → decide (l = m) = false) := fun h => by
          simp; rintro rfl; rw [k1] at k2; exact h (Option.some.inj k2)
        clear i2 j2 ha hb k1 k2
        have d1 : ∀ u : Since wr, u.w.cell? ⟨b1, o1 + k, none⟩ = some (.string ⟨x.1.toArray⟩) := fun u => u.cell q1
        have d2 : ∀ u : Since wr, u.w.cell? ⟨b2, o2 + k, none⟩ = some (.string ⟨y.1.toArray⟩) := fun u => u.cell q2
        clear q1 q2
        by_cases hxy : x = y
        · subst hxy
          go_wp2_with fail
          refine wp_region_only wr (Only.refl _ _) (by kernel_rfl) (by kernel_rfl) ?_
          repeat (go_big_quiet_step (fail))
          refine wpQuiet_nil ?_
          rintro ⟨w8, ho8⟩
          dsimp only
          clear d1 d2
          go_wp2_with fail
          go_roundw
          case rel => exact ⟨k + 1, by omega, by go_num, HT2.out.2 (by trivial), ho.tr0 ho8⟩
          case measure => simp [intOf]; omega
        · have hne : (x.1 == y.1) = false := by simpa using sv_ne hxy
          have HN2 := Lib.hid (HN.out hxy)
          go_wp2_with fail
          refine wp_region_only wr (Only.refl _ _) (by kernel_rfl) (by kernel_rfl) ?_
          repeat (go_big_quiet_step (fail))
          refine wpQuiet_nil ?_
          rintro ⟨w8, ho8⟩
          dsimp only
          clear d1 d2
          go_wp2_with fail
          go_ret
          rw [HN2.out]
          exact ⟨rfl, ho.tr0 ho8⟩
      · obtain rfl : k = l.length := by omega
        have HE : Hid (l = m) := by have := HT.out; rw [List.take_length, HL.out, List.take_length] at this; exact this
        go_wp2_with fail
        go_ret
        exact ⟨by rw [HE.out]; simp, ho⟩
  · have hq : ((l.length : Int) != m.length) = true := by simp; omega
    have HE : Hid (decide (l = m) = false) := by show _ = _; simp; rintro rfl; exact hlen rfl
    go_wp2_with fail
    go_ret
    rw [HE.out]
    exact ⟨rfl, Only.refl _ _⟩
end Go.Proofs.Ytlonaniomnalnaa
