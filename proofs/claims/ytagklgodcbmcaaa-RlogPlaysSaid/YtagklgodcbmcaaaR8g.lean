/-
  Chapter 8: slices.IsSorted and slices.Compact at []int.
-/
import Derived.Test.YtagklgodcbmcaaaR8a
namespace Go.Proofs.Ytagklgodcbmcaaa
open Go.RowKit
theorem less_int (x y : Int) (w : World) : Calls Try.prog 112 #[.int .i64 x, .int .i64 y] w fun e w' => e = .returned (.bool (decide (x < y))) ∧ w = w' := by
  have CN : ∀ z w, Calls Try.prog 116 #[.int .i64 z] w fun e w' => e = .returned (.bool false) ∧ w = w' := by
    intro z w
    go_enter Try.func116, Try.ntmps116
    go_wp2_with fail
    go_ret
    exact ⟨by simp, rfl⟩
  have HN := Lib.hid CN
  clear CN
  go_enter Try.func112, Try.ntmps112
  go_wp2_with fail
  refine (HN.out _ _).mono ?_
  rintro e w1 ⟨rfl, rfl⟩
  go_wp2_with fail
  go_ret
  exact ⟨by simp, rfl⟩
def srtB : List Int → Bool
  | a :: b :: r => decide (a ≤ b) && srtB (b :: r)
  | _ => true
theorem srtB_iff : ∀ l : List Int, srtB l = true ↔ ∀ j x y, l[j]? = some x → l[j + 1]? = some y → x ≤ y
  | [] => by simp [srtB]
  | [a] => by simp [srtB]
  | a :: b :: r => by
    unfold srtB
    rw [Bool.and_eq_true, srtB_iff (b :: r)]
    constructor
    · rintro ⟨h1, h2⟩ j x y hx hy
      cases j with
      | zero => simp at hx hy; subst hx; subst hy; simpa using h1
      | succ j => exact h2 j x y (by simpa using hx) (by simpa using hy)
    · intro h
      exact ⟨by simpa using h 0 a b (by simp) (by simp), fun j x y hx hy => h (j + 1) x y (by simpa using hx) (by simpa using hy)⟩
set_option maxRecDepth 100000 in
set_option maxHeartbeats 1000000 in
theorem sorted_int (v : Value) (l : List Int) (w : World) (hl : l.length ≤ 1000000000) (hs : SlAt w w.heap.size v 1 l.length (gvs l)) :
    Calls Try.prog 91 #[v] w fun e w' => e = .returned (.bool (srtB l)) ∧ Only [] w w' := by
  obtain ⟨A, c, rfl⟩ := hs.shape
  have HS := Lib.hid hs
  clear hs
  go_enter Try.func91, Try.ntmps91
  go_wp2_with fail
  go_loopw [3] (fun i wr => ∃ k : Int, -1 ≤ k ∧ k < l.length ∧ i = .int .i64 k ∧ Only [] w wr ∧ Hid (∀ (j : Nat) x y, k ≤ j → l[j]? = some x → l[j + 1]? = some y → x ≤ y)) (fun i _ => (intOf i + 1).toNat)
  case atStart => exact ⟨(l.length : Int) - 1, by omega, by omega, rfl, Only.refl _ _, fun j x y hj hx hy => by have := (List.getElem?_eq_some_iff.1 hy).1; omega⟩
  case round =>
    obtain ⟨k, hk0, hk1, rfl, ho, hgo⟩ := hrel
    by_cases hk : 0 < k
    · have hd : decide (0 < k) = true := by simpa using hk
      obtain ⟨m, rfl⟩ : ∃ m : Nat, k = m + 1 := ⟨(k - 1).toNat, by omega⟩
      have hm1 : m < l.length := by omega
      have hm2 : m + 1 < l.length := by omega
      obtain ⟨y, hy⟩ : ∃ y, l[m + 1]? = some y := ⟨_, List.getElem?_eq_getElem hm2⟩
      obtain ⟨x, hx⟩ : ∃ x, l[m]? = some x := ⟨_, List.getElem?_eq_getElem hm1⟩
      have hS := HS.out.only ho (Nat.le_refl _) (by simp)
      obtain ⟨b, o, c', hv, hb, hc⟩ := hS.at_ (by omega)
      injection hv with e1 e2 e3
      subst e1; subst e3
      have c0 := fun u : Since wr => u.cell (hc m (.int .i64 x) (by simp [gvs, hx]))
      have c1 := fun u : Since wr => u.cell (hc (m + 1) (.int .i64 y) (by simp [gvs, hy]))
      have hc1 : ((m : Int) + 1) < (l.length : Int) := by omega
      have hc0 : (m : Int) < (l.length : Int) := by omega
      have hs1 : (m : Int) + 1 - 1 = m := by omega
      have HX := Lib.hid hx
      have HY := Lib.hid hy
      have hn1 : ((m : Int) + 1).toNat = m + 1 := by omega
      clear hS hc hx hy e2
      by_cases hlt : y < x
      · have d1 : decide (y < x) = true := by simpa using hlt
        have hr : Hid (srtB l = false) := by
          show _ = _
          rw [Bool.eq_false_iff]
          intro h
          have := (srtB_iff l).1 h m x y HX.out HY.out
          omega
        go_wp2_with fail
        refine wp_region_only wr (Only.refl _ _) (by kernel_rfl) (by kernel_rfl) ?_
        repeat (go_big_quiet_step ((go_at_call 112; refine Calls.only_same (less_int _ _ _))))
        refine wpQuiet_nil ?_
        rintro ⟨w1, ho1⟩
        dsimp only
        go_wp2_with fail
        go_ret
        exact ⟨by rw [hr.out]; rfl, ho.tr ho1⟩
      · have d1 : decide (y < x) = false := by simpa using hlt
        go_wp2_with fail
        refine wp_region_only wr (Only.refl _ _) (by kernel_rfl) (by kernel_rfl) ?_
        repeat (go_big_quiet_step ((go_at_call 112; refine Calls.only_same (less_int _ _ _))))
        refine wpQuiet_nil ?_
        rintro ⟨w1, ho1⟩
        dsimp only
        go_wp2_with fail
        go_roundw
        case rel => exact ⟨m, by omega, by omega, by go_num, ho.tr ho1, fun j x' y' hj hx' hy' => by
          rcases Nat.lt_or_ge m j with h | h
          · exact hgo.out j x' y' (by omega) hx' hy'
          · obtain rfl : j = m := by omega
            rw [HX.out] at hx'; rw [HY.out] at hy'
            injection hx' with hx'; injection hy' with hy'
            omega⟩
        case measure => simp [intOf]; omega
    · have hd : decide (0 < k) = false := by simpa using hk
      have hr : Hid (srtB l = true) := by
        show _ = _
        rw [srtB_iff]
        exact fun j x y hx hy => hgo.out j x y (by omega) hx hy
      go_wp2_with fail
      go_ret
      exact ⟨by rw [hr.out]; rfl, ho⟩
def dupB : List Int → Bool
  | a :: b :: r => (a == b) || dupB (b :: r)
  | _ => false
theorem dupB_iff : ∀ l : List Int, dupB l = true ↔ ∃ j x, l[j]? = some x ∧ l[j + 1]? = some x
  | [] => by simp [dupB]
  | [a] => by simp [dupB]
  | a :: b :: r => by
    unfold dupB
    rw [Bool.or_eq_true, dupB_iff (b :: r)]
    constructor
    · rintro (h | ⟨j, x, h1, h2⟩)
      · exact ⟨0, a, by simp, by simpa using (by simpa using h : a = b).symm⟩
      · exact ⟨j + 1, x, by simpa using h1, by simpa using h2⟩
    · rintro ⟨j, x, h1, h2⟩
      cases j with
      | zero => simp at h1 h2; left; simp [h1, h2]
      | succ j => exact .inr ⟨j, x, by simpa using h1, by simpa using h2⟩
def Ints (n : Nat) (cs : List Value) : Prop := ∀ j, j < n → ∃ x : Int, cs[j]? = some (.int .i64 x)
theorem Ints.set {n : Nat} {cs : List Value} (h : Ints n cs) (i : Nat) (x : Int) : Ints n (cs.set i (.int .i64 x)) := fun j hj => by
  by_cases hij : i = j
  · subst hij
    obtain ⟨y, hy⟩ := h i hj
    exact ⟨x, by rw [List.getElem?_set_self (List.getElem?_eq_some_iff.1 hy).1]⟩
  · rw [List.getElem?_set_ne hij]; exact h j hj
set_option maxRecDepth 100000 in
set_option maxHeartbeats 4000000 in
/-- Compact shortens a row just if two neighbours are one. -/
theorem compact_int (B : Nat) (v : Value) (l : List Int) (w : World) (hl : l.length ≤ 1000000000) (hs : w.ownsRow B 3 1 v l.length (gvs l)) :
    Calls Try.prog 92 #[v] w fun e w' => ∃ A n c, e = .returned (.slice A n c) ∧ decide (n < l.length) = dupB l ∧ n ≤ l.length ∧ Only (rb v) w w' := by
  obtain ⟨i0, hi0, hz0, hz1, hz2⟩ := info_parts info_int
  by_cases h2 : l.length < 2
  · obtain ⟨A, c, rfl⟩ := (SlAt.of_own hs).shape
    have hd : decide ((l.length : Int) < 2) = true := by simp; omega
    have hr : Hid (dupB l = false) := by
      show _ = _
      rw [Bool.eq_false_iff]
      intro h
      obtain ⟨j, x, h3, h4⟩ := (dupB_iff l).1 h
      have := (List.getElem?_eq_some_iff.1 h4).1
      omega
    clear hs
    go_enter Try.func92, Try.ntmps92
    go_wp2_with fail
    go_ret
    exact ⟨A, l.length, c, rfl, by rw [hr.out]; simp, Nat.le_refl _, Only.refl _ _⟩
  · have hd : decide ((l.length : Int) < 2) = false := by simp; omega
    obtain ⟨g, cap, cs, rfl, _, hC, hnc, hcm, hcl, hct⟩ := own_block hs (by omega)
    rw [Nat.mul_one] at hcl hct
    have hcell : ∀ (j : Nat) (x : Int), l[j]? = some x → cs[j]? = some (Value.int .i64 x) := by
      intro j x hx
      have hj := (List.getElem?_eq_some_iff.1 hx).1
      have h := congrArg (fun q : List Value => q[j]?) hct
      simp only [List.getElem?_take_of_lt hj] at h
      rw [h]
      simp [gvs, hx]
    have hI : Ints l.length cs := fun j hj => ⟨l[j], hcell j _ (List.getElem?_eq_getElem hj)⟩
    have hrb : rb (.slice (some ⟨g, 0, none⟩) l.length cap) = [g] := rfl
    rw [hrb]
    have HC := Lib.hid hC
    have HI := Lib.hid hI
    have HX := Lib.hid hcell
    have hcm2 : cap ≤ 9223372036854775807 := by unfold maxLen at hcm; omega
    clear hs hC hI hcell hct hrb
    go_enter Try.func92, Try.ntmps92
    go_wp2_with fail
    go_loopw [3] (fun i wr => ∃ k : Nat, 1 ≤ k ∧ k ≤ l.length ∧ i = .int .i64 k ∧ Only [] w wr ∧ Hid (∀ (j : Nat) x, j + 1 < k → l[j]? = some x → l[j + 1]? = some x → False)) (fun i _ => l.length - (intOf i).toNat)
    case atStart => exact ⟨1, by omega, by omega, rfl, Only.refl _ _, fun j x hj _ _ => by omega⟩
    case round =>
      obtain ⟨k, hk0, hk1, rfl, ho, hgo⟩ := hrel
      by_cases hk : k < l.length
      · have hd2 : decide ((k : Int) < (l.length : Int)) = true := by simp; omega
        have hd3 : (k : Int) < (l.length : Int) := by omega
        obtain ⟨m, rfl⟩ : ∃ m : Nat, k = m + 1 := ⟨k - 1, by omega⟩
        obtain ⟨y, hy⟩ : ∃ y, l[m + 1]? = some y := ⟨_, List.getElem?_eq_getElem hk⟩
        obtain ⟨x, hx⟩ : ∃ x, l[m]? = some x := ⟨_, List.getElem?_eq_getElem (by omega)⟩
        have hCr := HC.out.only ho (by simp)
        have c0 := fun u : Since wr => u.cell (hCr.cell (HX.out m x hx))
        have c1 := fun u : Since wr => u.cell (hCr.cell (HX.out (m + 1) y hy))
        have LX := Lib.hid hx
        have LY := Lib.hid hy
        have hm1 : (m : Int) < (l.length : Int) := by omega
        have hm2 : (m : Int) + 1 < (l.length : Int) := by omega
        clear hCr hx hy hd3
        by_cases hxy : y = x
        · have d1 : (y == x) = true := by simpa using hxy
          have hr : Hid (dupB l = true) := by
            show _ = _
            rw [dupB_iff]
            exact ⟨m, x, LX.out, by rw [LY.out, hxy]⟩
          clear hxy
          go_wp2_with fail
          refine wp_region_only wr (Only.refl _ _) (by kernel_rfl) (by kernel_rfl) ?_
          repeat (go_big_quiet_step (fail))
          refine wpQuiet_nil ?_
          rintro ⟨w1, ho1⟩
          dsimp only
          go_wp2_with fail
          have hr2 : rb (.slice (some ⟨g, 0, none⟩) l.length cap) = [g] := rfl
          clear c0 c1 d1 hgo LX LY
          obtain ⟨N, hN⟩ : ∃ N, l.length - (m + 1) = N := ⟨_, rfl⟩
          rw [hN]
          have hNl : m + 1 + N = l.length := by omega
          have hN1 : 1 ≤ N := by omega
          go_loopw [3, 5] (fun i i2 wr => ∃ (p q : Nat) (ds : List Value), m + 1 ≤ p ∧ p ≤ m + q ∧ 1 ≤ q ∧ q ≤ N ∧ i = .int .i64 p ∧ i2 = .int .i64 q ∧ Hid (Cells wr g 3 ds) ∧ ds.length = cap ∧ Hid (Ints l.length ds) ∧ Only [g] w wr) (fun i i2 _ => N - (intOf i2).toNat)
          case atStart => exact ⟨m + 1, 1, cs, by omega, by omega, by omega, by omega, by go_num, rfl, Lib.hid (HC.out.only (ho.tr ho1) (by simp)), hcl, HI, (ho.tr ho1).of0⟩
          case round =>
            obtain ⟨p, q, ds, hp1, hp2, hq1, hq2, rfl, rfl, hD, hdl, hDI, hoD⟩ := hrel
            by_cases hq : q < N
            · have hq' : (q : Int) < (N : Int) := by omega
              obtain ⟨r, rfl⟩ : ∃ r : Nat, q = r + 1 := ⟨q - 1, by omega⟩
              obtain ⟨x1, hx1⟩ := hDI.out (m + 1 + (r + 1)) (by omega)
              obtain ⟨x2, hx2⟩ := hDI.out (m + 1 + r) (by omega)
              have c1 := fun u : Since wr => u.cell (hD.out.cell hx1)
              have c2 := fun u : Since wr => u.cell (hD.out.cell hx2)
              have hr1 : (r : Int) < (N : Int) := by omega
              have hr0 : (r : Int) + 1 < (N : Int) := by omega
              clear hq'
              by_cases hxx : x1 = x2
              · have d1 : (x1 == x2) = true := by simpa using hxx
                go_wp2_with fail
                refine wp_region_only wr (Only.refl _ _) (by kernel_rfl) (by kernel_rfl) ?_
                repeat (go_big_quiet_step (fail))
                refine wpQuiet_nil ?_
                rintro ⟨w2, ho2⟩
                dsimp only
                go_wp2_with fail
                go_roundw
                case rel => exact ⟨p, r + 1 + 1, ds, by omega, by omega, by omega, by omega, rfl, by go_num, Lib.hid (hD.out.only ho2 (by simp)), hdl, hDI, hoD.tr ho2.of0⟩
                case measure => simp [intOf]; omega
              · have d1 : (x1 == x2) = false := by simpa using hxx
                go_wp2_with fail
                refine wp_region_only wr (Only.refl _ _) (by kernel_rfl) (by kernel_rfl) ?_
                repeat (go_big_quiet_step (fail))
                refine wpQuiet_nil ?_
                rintro ⟨w2, ho2⟩
                dsimp only
                have hD2 := hD.out.only ho2 (by simp)
                have k1 := hD2.cell hx1
                obtain ⟨x3, hx3⟩ := hDI.out p (by omega)
                have k3 := hD2.cell hx3
                have kf := hD2.frozen p
                have kl := hD2.lt
                have hpl : (p : Int) < (l.length : Int) := by omega
                have HD2 := Lib.hid hD2
                clear hD2 c1 c2 hx1 hx2 hx3
                go_wp2_with fail
                go_roundw
                case rel => exact ⟨p + 1, r + 1 + 1, ds.set p (.int .i64 x1), by omega, by omega, by omega, by omega, by go_num, by go_num, Lib.hid (HD2.out.set p _), by simp [hdl], Lib.hid (hDI.out.set p x1), (hoD.tr ho2.of0).setCell (.inl (by simp)) _⟩
                case measure => simp [intOf]; omega
            · have hqN : q = N := by omega
              have hq' : decide ((q : Int) < (N : Int)) = false := by simp; omega
              have hpl : (p : Int) ≤ (l.length : Int) := by omega
              have hpl2 : p < l.length := by omega
              go_wp2_with fail
              obtain ⟨zs, hzl, hz1c, hcl2⟩ := run_clear_cells wr 25 3 0 (.int .i64 0) 1 Try.underlying25 (fun w => by simp [zeroValue, typeInfo, hi0, hz0]) rfl (by simp [Value.cells, Value.oneCell']) g p (l.length - p) (cap - p) ds hD.out (by omega) (by rw [hdl]; omega)
              rw [hcl2]
              simp only [Result.andThen]
              rw [Oper.upon_value]
              clear hcl2
              have ho2 := hoD.setCells (b := g) (.inl (by simp)) p zs
              go_wp2_with fail
              go_ret
              exact ⟨_, p, cap, rfl, by rw [hr.out]; simpa using hpl2, by omega, ho2⟩
        · have d1 : (y == x) = false := by simpa using hxy
          go_wp2_with fail
          refine wp_region_only wr (Only.refl _ _) (by kernel_rfl) (by kernel_rfl) ?_
          repeat (go_big_quiet_step (fail))
          refine wpQuiet_nil ?_
          rintro ⟨w1, ho1⟩
          dsimp only
          go_wp2_with fail
          go_roundw
          case rel => exact ⟨m + 1 + 1, by omega, by omega, by go_num, ho.tr ho1, fun j x' hj h1 h2 => by
            rcases Nat.lt_or_ge (j + 1) (m + 1) with h | h
            · exact hgo.out j x' h h1 h2
            · obtain rfl : j = m := by omega
              rw [LX.out] at h1; rw [LY.out] at h2
              injection h1 with h1; injection h2 with h2
              exact hxy (by omega)⟩
          case measure => simp [intOf]; omega
      · have hd2 : decide ((k : Int) < (l.length : Int)) = false := by simp; omega
        have hr : Hid (dupB l = false) := by
          show _ = _
          rw [Bool.eq_false_iff]
          intro h
          obtain ⟨j, x, h3, h4⟩ := (dupB_iff l).1 h
          have := (List.getElem?_eq_some_iff.1 h4).1
          exact hgo.out j x (by omega) h3 h4
        go_wp2_with fail
        go_ret
        exact ⟨_, l.length, cap, rfl, by rw [hr.out]; simp, Nat.le_refl _, ho.of0⟩
end Go.Proofs.Ytagklgodcbmcaaa
