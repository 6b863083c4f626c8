/-
  The walk over CodecRows.
-/
import Derived.Test.YtojhbhdlbbmghaaShown1
import Derived.Test.YtojhbhdlbbmghaaWf
namespace Go.Proofs.Ytojhbhdlbbmghaa
open Go.RowKit
set_option maxRecDepth 100000 in
theorem open_ints {H : Type} {enc : TypeId × Value → H} {w : World} {base : Nat} {spare : Nat → Bool} {held : Bool} {r : Reach} {b0 : Nat} {v : Value} {d : DataW H} {p : List MemPlace}
    (hv : Value.okWide Try.prog w r b0 40 v) (h : DataW.Trod enc Try.prog w base spare held 40 v d p) :
    ∃ l : List Int, SlAt w w.heap.size v 1 l.length (ivs l) ∧ ∀ x ∈ l, Wide64 x := by
  obtain ⟨l, hs, hl⟩ := open_intlist Try.underlying40 Try.underlying3 (by kernel_rfl) hv h
  exact ⟨l, hs, fun x hx => wide64_of_wf (hl x hx)⟩
theorem isb_drop (l : List Int) (k : Nat) (x : Int) (h : l[k]? = some x) : isb (l.drop k) = ib x ++ isb (l.drop (k + 1)) := by
  obtain ⟨hk, rfl⟩ := List.getElem?_eq_some_iff.1 h
  rw [List.drop_eq_getElem_cons hk]; rfl
def mag (n : Int) : Nat := (if n < 0 then -(n + 1) else n).toNat
theorem ib_hi (n : Int) : (ib n).length = (hi (mag n / 64)).length + 1 := by
  unfold ib vb
  rw [List.length_append, List.length_singleton]
  have : zig n / 128 = mag n / 64 := by
    unfold zig mag
    by_cases h : 0 ≤ n
    · rw [if_pos h, if_neg (by omega)]; omega
    · rw [if_neg h, if_pos (by omega)]; omega
  rw [this]
set_option maxRecDepth 100000 in
set_option maxHeartbeats 1000000 in
theorem codecRows_walk (W : World) (v : Value) (xs : List Int) (hs : SlAt W W.heap.size v 1 xs.length (ivs xs)) (hg : ∀ x ∈ xs, Wide64 x) :
    Calls Try.prog 6 #[v] W fun e W' => e = .returned (.bool true) ∧ Only [] W W' := by
  obtain ⟨A, c, rfl⟩ := hs.shape
  have HS := Lib.hid hs
  have HG := Lib.hid hg
  clear hs hg
  by_cases hn : xs.length ≤ 200
  · have hd1 : decide ((200 : Int) < xs.length) = false := by simp; omega
    go_enter Try.func6, Try.ntmps6
    go_wp2_with fail
    refine (shown1 W).mono ?_
    rintro e w1 ⟨rfl, ho1⟩
    have C0 := Lib.hid (codec_int _ xs w1 (by have := HS.out.only ho1 (Nat.le_refl _) (by simp); obtain ⟨h1, a1, c1, h2, h3, h4, h5⟩ := this; exact ⟨h1, a1, c1, h2, h3, h4, fun h => by obtain ⟨b, o, e1, e2, e3⟩ := h5 h; exact ⟨b, o, e1, Nat.lt_of_lt_of_le e2 ho1.size, e3⟩⟩) HG.out (by omega))
    go_wp2_with fail
    refine C0.out.mono ?_
    rintro e w2 ⟨rfl, ho2⟩
    have hoA := ho1.tr0 ho2
    clear ho1 ho2 C0
    go_wp2_with fail
    go_loopw [4, 5] (fun s i wr => ∃ k : Nat, k ≤ xs.length ∧ i = .int .i64 k ∧ s = .string ⟨(isb (xs.drop k)).toArray⟩ ∧ Only [] W wr) (fun _ i _ => xs.length - (intOf i).toNat)
    case atStart => exact ⟨0, by omega, rfl, rfl, hoA⟩
    case round =>
      obtain ⟨k, hk, rfl, rfl, ho⟩ := hrel
      by_cases hlt : k < xs.length
      · have hlt' : (k : Int) < (xs.length : Int) := by omega
        have hk1 := List.getElem?_eq_getElem hlt
        obtain ⟨x, hx⟩ : ∃ x, xs[k] = x := ⟨_, rfl⟩
        rw [hx] at hk1
        have hw := HG.out x (List.mem_of_getElem? hk1)
        have hE := isb_drop xs k x hk1
        have hL := isb_length (xs.drop (k + 1)) fun y hy => HG.out y (List.mem_of_mem_drop hy)
        rw [List.length_drop] at hL
        obtain ⟨s, hs⟩ : ∃ s, isb (xs.drop (k + 1)) = s := ⟨_, rfl⟩
        rw [hs] at hE hL
        have hib := ib_length x hw
        have hr : rdV (rdI (ib x ++ s)) = .tuple #[.int .i64 x, .string ⟨s.toArray⟩, .bool true] := by rw [(rdI_iff _ _ _).2 ⟨hw, rfl⟩]; rfl
        have c1 := codec_toInt (ib x ++ s) wr (by rw [List.length_append]; omega)
        rw [hr] at c1
        have hfl : (ib x ++ s).length = (ib x).length + s.length := List.length_append
        rw [hE]
        obtain ⟨f, hf⟩ : ∃ f, ib x ++ s = f := ⟨_, rfl⟩
        rw [hf] at c1 hfl ⊢
        have C1 := Lib.hid c1
        have HSD := Lib.hid hs
        have HI := Lib.hid (ib_hi x)
        obtain ⟨u, hu⟩ : ∃ u, (ib x).length = u := ⟨_, rfl⟩
        rw [hu] at hib hfl HI
        have hused : (f.length : Int) - s.length = u := by omega
        clear hf hE hs hr c1 hu
        have hdu1 : decide ((u : Int) < 1) = false := by simp; omega
        have hdu2 : decide ((10 : Int) < u) = false := by simp; omega
        go_wp2_with fail
        refine C1.out.mono ?_
        rintro e w2 ⟨rfl, ho2⟩
        obtain ⟨ab, ao, ac, hv, hab, hc⟩ := (HS.out.only (ho.tr0 ho2) (Nat.le_refl _) (by simp)).at_ (by omega)
        have q0 := hc k (.int .i64 x) (by unfold ivs; rw [List.getElem?_map, hk1]; rfl)
        have hsz := (ho.tr0 ho2).size
        injection hv with e1 e2 e3
        subst e1; subst e3
        clear e2 hx hk1 hc
        obtain ⟨w0, h1⟩ := hw
        obtain ⟨m, hm⟩ : ∃ m, mag x = m := ⟨_, rfl⟩
        rw [hm] at HI
        have hmI : (if x < 0 then -(x + 1) else x) = (m : Int) := by
          rw [← hm]; unfold mag; split <;> omega
        have hml : m ≤ 9223372036854775807 := by split at hmI <;> omega
        obtain ⟨bn, hbn, hbc⟩ : ∃ b, decide (x < 0) = b ∧ ((b = true ∧ -(x + 1) = (m : Int)) ∨ (b = false ∧ x = m)) := by
          refine ⟨_, rfl, ?_⟩
          by_cases h : x < 0
          · rw [if_pos h] at hmI; exact .inl ⟨by simpa using h, hmI⟩
          · rw [if_neg h] at hmI; exact .inr ⟨by simpa using h, hmI⟩
        clear hmI hm
        have hoB := ho.tr0 ho2
        clear ho ho2
        rcases hbc with ⟨rfl, hmI⟩ | ⟨rfl, hmI⟩
        · have hneg : x < 0 := by simpa using hbn
          go_wp2_with fail
          have hm64 : m / 64 < 18446744073709551616 := by omega
          have hst : (m : Int) / 64 = ((m / 64 : Nat) : Int) := by omega
          rw [hst]
          go_loop [10, 11] (fun v l => ∃ y L : Nat, v = .int .i64 y ∧ l = .int .i64 L ∧ y < 9223372036854775808 ∧ L ≤ 10 ∧ Hid (u = (hi y).length + L)) (fun v _ => (intOf v).toNat)
          case atStart => exact ⟨m / 64, 1, rfl, rfl, by omega, by omega, HI⟩
          case round =>
            obtain ⟨y, L, rfl, rfl, hyl, hLl, HL⟩ := hrel
            by_cases hy0 : y = 0
            · subst hy0
              have hLu : u = L := by have := HL.out; rw [hi_zero] at this; simpa using this
              subst hLu
              have hd5 : decide ((0 : Int) < 0) = false := by decide
              go_wp2_with fail
              go_roundw
              case rel => exact ⟨k + 1, by omega, by go_num, by rw [HSD.out], hoB⟩
              case measure => simp [intOf]; omega
            · have hd5 : decide ((0 : Int) < y) = true := by simp; omega
              have HL2 : u = (hi (y / 128)).length + (L + 1) := by
                have := HL.out
                rw [hi_step y hy0 (by omega), List.length_append, List.length_singleton] at this
                omega
              have HL3 := Lib.hid HL2
              have hL10 : L + 1 ≤ 10 := by omega
              clear HL2
              go_wp2_with fail
              go_round
              case rel => exact ⟨y / 128, L + 1, by go_num, by go_num, by omega, hL10, HL3⟩
              case measure => simp [intOf]; omega
        · have hneg : ¬x < 0 := by simpa using hbn
          subst hmI
          go_wp2_with fail
          have hm64 : m / 64 < 18446744073709551616 := by omega
          have hst : (m : Int) / 64 = ((m / 64 : Nat) : Int) := by omega
          rw [hst]
          go_loop [10, 11] (fun v l => ∃ y L : Nat, v = .int .i64 y ∧ l = .int .i64 L ∧ y < 9223372036854775808 ∧ L ≤ 10 ∧ Hid (u = (hi y).length + L)) (fun v _ => (intOf v).toNat)
          case atStart => exact ⟨m / 64, 1, rfl, rfl, by omega, by omega, HI⟩
          case round =>
            obtain ⟨y, L, rfl, rfl, hyl, hLl, HL⟩ := hrel
            by_cases hy0 : y = 0
            · subst hy0
              have hLu : u = L := by have := HL.out; rw [hi_zero] at this; simpa using this
              subst hLu
              have hd5 : decide ((0 : Int) < 0) = false := by decide
              go_wp2_with fail
              go_roundw
              case rel => exact ⟨k + 1, by omega, by go_num, by rw [HSD.out], hoB⟩
              case measure => simp [intOf]; omega
            · have hd5 : decide ((0 : Int) < y) = true := by simp; omega
              have HL2 : u = (hi (y / 128)).length + (L + 1) := by
                have := HL.out
                rw [hi_step y hy0 (by omega), List.length_append, List.length_singleton] at this
                omega
              have HL3 := Lib.hid HL2
              have hL10 : L + 1 ≤ 10 := by omega
              clear HL2
              go_wp2_with fail
              go_round
              case rel => exact ⟨y / 128, L + 1, by go_num, by go_num, by omega, hL10, HL3⟩
              case measure => simp [intOf]; omega
      · have hd0 : decide ((k : Int) < (xs.length : Int)) = false := by simp; omega
        obtain rfl : k = xs.length := by omega
        rw [List.drop_length]
        go_wp2_with fail
        go_ret
        exact ⟨rfl, ho⟩
  · have hd1 : decide ((200 : Int) < xs.length) = true := by simp; omega
    go_enter Try.func6, Try.ntmps6
    go_wp2_with fail
    refine (shown1 W).mono ?_
    rintro e w1 ⟨rfl, ho1⟩
    go_wp2_with fail
    go_ret
    exact ⟨rfl, ho1⟩
end Go.Proofs.Ytojhbhdlbbmghaa
