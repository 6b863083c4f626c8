/-
  Chapter 8: the law's own helpers: pick, sameInts, same, kioskref7.Voters, entry.
-/
import Derived.Test.YtagklgodcbmcaaaR8l
import Derived.Test.YtagklgodcbmcaaaR8e
import Derived.Test.YtagklgodcbmcaaaWf
import Derived.Laws.StructEq
namespace Go.Proofs.Ytagklgodcbmcaaa
open Go.RowKit
def pickI (c n : Int) : Int := if c < 0 then -(c + 1) % n else c % n
theorem pickI_lt (c n : Int) (hn : 0 < n) : 0 ≤ pickI c n ∧ pickI c n < n := by
  unfold pickI
  split
  · exact ⟨Int.emod_nonneg _ (by omega), Int.emod_lt_of_pos _ hn⟩
  · exact ⟨Int.emod_nonneg _ (by omega), Int.emod_lt_of_pos _ hn⟩
theorem pick8 (c n : Int) (w : World) (hc : Wide64 c) (h0 : 1 ≤ n) (h1 : n ≤ 1000000000) :
    Calls Try.prog 22 #[.int .i64 c, .int .i64 n] w fun e w' => e = .returned (.int .i64 (pickI c n)) ∧ w = w' := by
  obtain ⟨c0, c1⟩ := hc
  have hn : (n == 0) = false := by simp; omega
  by_cases h : c < 0
  · have h2 : 0 ≤ -(c + 1) := by omega
    have h2' : c ≤ -1 := by omega
    go_enter Try.func22, Try.ntmps22
    go_wp2
    go_ret
    exact ⟨by unfold pickI; rw [if_pos (by omega), ← Int.tmod_eq_emod_of_nonneg h2]; first | rfl | simp, rfl⟩
  · have h2 : 0 ≤ c := by omega
    have hd : decide (c < 0) = false := by simpa using h
    go_enter Try.func22, Try.ntmps22
    go_wp2
    go_ret
    exact ⟨by unfold pickI; rw [if_neg (by omega)]; simp, rfl⟩
theorem gvs_inj {a b : List Int} (h : gvs a = gvs b) : a = b := by
  induction a generalizing b with
  | nil => cases b with
    | nil => rfl
    | cons => simp [gvs] at h
  | cons x r ih => cases b with
    | nil => simp [gvs] at h
    | cons y t => simp only [gvs, List.map_cons, List.cons.injEq, Value.int.injEq, true_and] at h; rw [h.1, ih h.2]
theorem gvs_at {w : World} {B n : Nat} {v : Value} {l : List Int} (h : SlAt w B v 1 l.length (gvs l)) {x : Int} (hx : l[n]? = some x) : ∃ b o c, v = .slice (some ⟨b, o, none⟩) l.length c ∧ w.cell? ⟨b, o + n, none⟩ = some (.int .i64 x) := by
  have hn := (List.getElem?_eq_some_iff.1 hx).1
  obtain ⟨b, o, c, hv, hc, _⟩ := gvs_cell h hn
  refine ⟨b, o, c, hv, ?_⟩
  rw [List.getElem?_eq_getElem hn] at hx
  injection hx with hx
  rw [← hx]; exact hc
set_option maxRecDepth 100000 in
set_option maxHeartbeats 1000000 in
theorem ints8 (v1 v2 : Value) (l1 l2 : List Int) (w : World) (hs1 : SlAt w w.heap.size v1 1 l1.length (gvs l1)) (hs2 : SlAt w w.heap.size v2 1 l2.length (gvs l2)) (hl : l1.length ≤ 1000000000) (hl2 : l2.length ≤ 1000000000) :
    Calls Try.prog 28 #[v1, v2] w fun e w' => e = .returned (.bool (decide (l1 = l2))) ∧ Only [] w w' := by
  obtain ⟨A1, c1, rfl⟩ := hs1.shape
  obtain ⟨A2, c2, rfl⟩ := hs2.shape
  by_cases hn : l1.length = l2.length
  case neg =>
    have hne : ((l1.length : Int) == (l2.length : Int)) = false := by rw [beq_eq_false_iff_ne]; omega
    have hr : Hid (decide (l1 = l2) = false) := by show _ = _; rw [decide_eq_false_iff_not]; intro h; exact hn (by rw [h])
    clear hs1 hs2
    go_enter Try.func28, Try.ntmps28
    go_wp2_with fail
    go_ret
    exact ⟨by rw [hr.out]; rfl, Only.refl _ _⟩
  case pos =>
    have HS1 := Lib.hid hs1
    have HS2 := Lib.hid hs2
    have HN := Lib.hid hn
    rw [← hn]
    clear hs1 hs2 hn
    go_enter Try.func28, Try.ntmps28
    go_wp2_with fail
    go_loopw [5] (fun i wr => ∃ k : Nat, k ≤ l1.length ∧ i = .int .i64 k ∧ Only [] w wr ∧ Hid (l1.take k = l2.take k)) (fun i _ => l1.length - (intOf i).toNat)
    case atStart => exact ⟨0, by omega, rfl, Only.refl _ _, Lib.hid (by simp)⟩
    case round =>
      obtain ⟨k, hk, rfl, ho, heq⟩ := hrel
      by_cases hlt : k < l1.length
      · have hlt' : (k : Int) < (l1.length : Int) := by omega
        obtain ⟨x, hx⟩ : ∃ x, l1[k]? = some x := ⟨_, List.getElem?_eq_getElem hlt⟩
        obtain ⟨y, hy⟩ : ∃ y, l2[k]? = some y := ⟨_, List.getElem?_eq_getElem (by rw [← HN.out]; exact hlt)⟩
        obtain ⟨b1, o1, c1', e1, q1⟩ := gvs_at (HS1.out.only ho (Nat.le_refl _) (by simp)) hx
        obtain ⟨b2, o2, c2', e2, q2⟩ := gvs_at (HS2.out.only ho (Nat.le_refl _) (by simp)) hy
        injection e1 with i1 i2 i3
        injection e2 with j1 j2 j3
        subst i1; subst i3; subst j1; subst j3
        have p1 := fun u : Since wr => u.cell q1
        have p2 := fun u : Since wr => u.cell q2
        have HX := Lib.hid hx
        have HY := Lib.hid hy
        clear hx hy q1 q2 i2 j2
        by_cases hxy : x = y
        · have hd : (x == y) = true := by simpa using hxy
          have heq2 : Hid (l1.take (k + 1) = l2.take (k + 1)) := by
            show _ = _
            rw [List.take_add_one, List.take_add_one, heq.out, HX.out, HY.out, hxy]
          clear hxy
          go_wp2_with fail
          refine wp_region_only wr (Only.refl _ _) (by kernel_rfl) (by kernel_rfl) ?_
          repeat (go_big_quiet_step (fail))
          refine wpQuiet_nil ?_
          rintro ⟨w1, ho1⟩
          dsimp only
          go_wp2_with fail
          go_roundw
          case rel => exact ⟨k + 1, by omega, by go_num, ho.tr ho1, heq2⟩
          case measure => simp [intOf]; omega
        · have hd : (x == y) = false := by simpa using hxy
          have hr : Hid (decide (l1 = l2) = false) := by
            show _ = _
            rw [decide_eq_false_iff_not]
            intro h
            have h1 := HX.out
            rw [h, HY.out] at h1
            injection h1 with h1
            exact hxy h1.symm
          go_wp2_with fail
          refine wp_region_only wr (Only.refl _ _) (by kernel_rfl) (by kernel_rfl) ?_
          repeat (go_big_quiet_step (fail))
          refine wpQuiet_nil ?_
          rintro ⟨w1, ho1⟩
          dsimp only
          go_wp2_with fail
          go_ret
          exact ⟨by rw [hr.out]; rfl, ho.tr ho1⟩
      · have hd : decide ((k : Int) < (l1.length : Int)) = false := by simp; omega
        have hr : Hid (decide (l1 = l2) = true) := by
          show _ = _
          rw [decide_eq_true_eq]
          have := heq.out
          rwa [List.take_of_length_le (by omega), List.take_of_length_le (by have := HN.out; omega)] at this
        go_wp2_with fail
        go_ret
        exact ⟨by rw [hr.out]; rfl, ho⟩
theorem toList_inj {a b : ByteArray} (h : a.toList = b.toList) : a = b := by
  rw [ByteArray.toList_eq, ByteArray.toList_eq] at h
  obtain ⟨⟨a⟩⟩ := a
  obtain ⟨⟨b⟩⟩ := b
  simp at h
  rw [h]
theorem en_ne {x y : En} (h : x ≠ y) : (x.ix == y.ix) = false ∨ ((x.ix == y.ix) = true ∧ (x.tm == y.tm) = false) ∨ ((x.ix == y.ix) = true ∧ (x.tm == y.tm) = true ∧ (x.kd == y.kd) = false) ∨ ((x.ix == y.ix) = true ∧ (x.tm == y.tm) = true ∧ (x.kd == y.kd) = true ∧ (x.d.toList == y.d.toList) = false) := by
  cases h1 : (x.ix == y.ix) with
  | false => exact .inl rfl
  | true =>
    cases h2 : (x.tm == y.tm) with
    | false => exact .inr (.inl ⟨rfl, rfl⟩)
    | true =>
      cases h3 : (x.kd == y.kd) with
      | false => exact .inr (.inr (.inl ⟨rfl, rfl, rfl⟩))
      | true =>
        cases h4 : (x.d.toList == y.d.toList) with
        | false => exact .inr (.inr (.inr ⟨rfl, rfl, rfl, rfl⟩))
        | true =>
          refine absurd ?_ h
          obtain ⟨a, b, c, d⟩ := x
          obtain ⟨a', b', c', d'⟩ := y
          simp only [beq_iff_eq] at h1 h2 h3 h4
          rw [h1, h2, h3, toList_inj h4]
theorem enL_at {w : World} {B n : Nat} {v : Value} {l : List En} (h : SlAt w B v 4 l.length (enL l)) {x : En} (hx : l[n]? = some x) :
    ∃ b o c, v = .slice (some ⟨b, o, none⟩) l.length c ∧ w.cell? ⟨b, o + n * 4, none⟩ = some (.int .i64 x.ix) ∧ w.cell? ⟨b, o + n * 4 + 1, none⟩ = some (.int .i64 x.tm) ∧ w.cell? ⟨b, o + n * 4 + 2, none⟩ = some (.int .i64 x.kd) ∧ w.cell? ⟨b, o + n * 4 + 3, none⟩ = some (.string x.d) := by
  have hn := (List.getElem?_eq_some_iff.1 hx).1
  obtain ⟨b, o, c, hv, _, hc⟩ := h.at_ (by omega)
  have key : ∀ j u, j < 4 → x.cells[j]? = some u → w.cell? ⟨b, o + n * 4 + j, none⟩ = some u := by
    intro j u hj hu
    rw [Nat.add_assoc]
    exact hc _ u (by rw [enL_get hx j hj]; exact hu)
  exact ⟨b, o, c, hv, key 0 _ (by omega) rfl, key 1 _ (by omega) rfl, key 2 _ (by omega) rfl, key 3 _ (by omega) rfl⟩
set_option maxRecDepth 100000 in
set_option maxHeartbeats 1000000 in
theorem same8 (v1 v2 : Value) (l1 l2 : List En) (w : World) (hs1 : SlAt w w.heap.size v1 4 l1.length (enL l1)) (hs2 : SlAt w w.heap.size v2 4 l2.length (enL l2)) (hl : l1.length ≤ 1000000000) (hl2 : l2.length ≤ 1000000000) :
    Calls Try.prog 24 #[v1, v2] w fun e w' => e = .returned (.bool (decide (l1 = l2))) ∧ Only [] w w' := by
  obtain ⟨A1, c1, rfl⟩ := hs1.shape
  obtain ⟨A2, c2, rfl⟩ := hs2.shape
  by_cases hn : l1.length = l2.length
  case neg =>
    have hne : ((l1.length : Int) == (l2.length : Int)) = false := by rw [beq_eq_false_iff_ne]; omega
    have hr : Hid (decide (l1 = l2) = false) := by show _ = _; rw [decide_eq_false_iff_not]; intro h; exact hn (by rw [h])
    clear hs1 hs2
    go_enter Try.func24, Try.ntmps24
    go_wp2_with fail
    go_ret
    exact ⟨by rw [hr.out]; rfl, Only.refl _ _⟩
  case pos =>
    have HS1 := Lib.hid hs1
    have HS2 := Lib.hid hs2
    have HN := Lib.hid hn
    rw [← hn]
    clear hs1 hs2 hn
    go_enter Try.func24, Try.ntmps24
    go_wp2_with fail
    go_loopw [5] (fun i wr => ∃ k : Nat, k ≤ l1.length ∧ i = .int .i64 k ∧ Only [] w wr ∧ Hid (l1.take k = l2.take k)) (fun i _ => l1.length - (intOf i).toNat)
    case atStart => exact ⟨0, by omega, rfl, Only.refl _ _, Lib.hid (by simp)⟩
    case round =>
      obtain ⟨k, hk, rfl, ho, heq⟩ := hrel
      by_cases hlt : k < l1.length
      · have hlt' : (k : Int) < (l1.length : Int) := by omega
        obtain ⟨x, hx⟩ : ∃ x, l1[k]? = some x := ⟨_, List.getElem?_eq_getElem hlt⟩
        obtain ⟨y, hy⟩ : ∃ y, l2[k]? = some y := ⟨_, List.getElem?_eq_getElem (by rw [← HN.out]; exact hlt)⟩
        obtain ⟨b1, o1, c1', e1, q0, q1, q2, q3⟩ := enL_at (HS1.out.only ho (Nat.le_refl _) (by simp)) hx
        obtain ⟨b2, o2, c2', e2, s0, s1, s2, s3⟩ := enL_at (HS2.out.only ho (Nat.le_refl _) (by simp)) hy
        injection e1 with i1 i2 i3
        injection e2 with j1 j2 j3
        subst i1; subst i3; subst j1; subst j3
        have p0 := fun u : Since wr => u.cell q0
        have p1 := fun u : Since wr => u.cell q1
        have p2 := fun u : Since wr => u.cell q2
        have p3 := fun u : Since wr => u.cell q3
        have r0 := fun u : Since wr => u.cell s0
        have r1 := fun u : Since wr => u.cell s1
        have r2 := fun u : Since wr => u.cell s2
        have r3 := fun u : Since wr => u.cell s3
        have HX := Lib.hid hx
        have HY := Lib.hid hy
        clear hx hy q0 q1 q2 q3 s0 s1 s2 s3 i2 j2
        by_cases hxy : x = y
        · subst hxy
          have heq2 : Hid (l1.take (k + 1) = l2.take (k + 1)) := by
            show _ = _
            rw [List.take_add_one, List.take_add_one, heq.out, HX.out, HY.out]
          go_wp2_with fail
          refine wp_region_only wr (Only.refl _ _) (by kernel_rfl) (by kernel_rfl) ?_
          repeat (go_big_quiet_step (fail))
          refine wpQuiet_nil ?_
          rintro ⟨w1, ho1⟩
          dsimp only
          go_wp2_with fail
          go_roundw
          case rel => exact ⟨k + 1, by omega, by go_num, ho.tr ho1, heq2⟩
          case measure => simp [intOf]; omega
        · have hr : Hid (decide (l1 = l2) = false) := by
            show _ = _
            rw [decide_eq_false_iff_not]
            intro h
            have h1 := HX.out
            rw [h, HY.out] at h1
            injection h1 with h1
            exact hxy h1.symm
          rcases en_ne hxy with h1 | ⟨h1, h2⟩ | ⟨h1, h2, h3⟩ | ⟨h1, h2, h3, h4⟩
          all_goals
            go_wp2_with fail
            refine wp_region_only wr (Only.refl _ _) (by kernel_rfl) (by kernel_rfl) ?_
            repeat (go_big_quiet_step (fail))
            refine wpQuiet_nil ?_
            rintro ⟨w1, ho1⟩
            dsimp only
            go_wp2_with fail
            go_ret
            exact ⟨by rw [hr.out]; rfl, ho.tr ho1⟩
      · have hd : decide ((k : Int) < (l1.length : Int)) = false := by simp; omega
        have hr : Hid (decide (l1 = l2) = true) := by
          show _ = _
          rw [decide_eq_true_eq]
          have := heq.out
          rwa [List.take_of_length_le (by omega), List.take_of_length_le (by have := HN.out; omega)] at this
        go_wp2_with fail
        go_ret
        exact ⟨by rw [hr.out]; rfl, ho⟩
end Go.Proofs.Ytagklgodcbmcaaa
