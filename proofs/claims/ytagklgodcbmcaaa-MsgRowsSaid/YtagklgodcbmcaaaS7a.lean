/-
  Chapter 7: the law's own helpers: pick, sameInts, same, small. (Printed by gen_s7a.py.)
-/
import Derived.Test.YtagklgodcbmcaaaOpen7
namespace Go.Proofs.Ytagklgodcbmcaaa
open Go.RowKit
theorem pick7 (c n : Int) (w : World) (hc : Wide64 c) (h0 : 1 ≤ n) (h1 : n ≤ 1000000000) :
    Calls Try.prog 48 #[.int .i64 c, .int .i64 n] w fun e w' => e = .returned (.int .i64 (pickI c n)) ∧ w = w' := by
  obtain ⟨c0, c1⟩ := hc
  have hn : (n == 0) = false := by simp; omega
  by_cases h : c < 0
  · have h2 : 0 ≤ -(c + 1) := by omega
    have h2' : c ≤ -1 := by omega
    go_enter Try.func48, Try.ntmps48
    go_wp2
    go_ret
    exact ⟨by unfold pickI; rw [if_pos (by omega), ← Int.tmod_eq_emod_of_nonneg h2]; first | rfl | simp, rfl⟩
  · have h2 : 0 ≤ c := by omega
    have hd : decide (c < 0) = false := by simpa using h
    go_enter Try.func48, Try.ntmps48
    go_wp2
    go_ret
    exact ⟨by unfold pickI; rw [if_neg (by omega)]; simp, rfl⟩
set_option maxRecDepth 100000 in
set_option maxHeartbeats 1000000 in
theorem ints7 (v1 v2 : Value) (l1 l2 : List Int) (w : World) (hs1 : SlAt w w.heap.size v1 1 l1.length (gvs l1)) (hs2 : SlAt w w.heap.size v2 1 l2.length (gvs l2)) (hl : l1.length ≤ 1000000000) (hl2 : l2.length ≤ 1000000000) :
    Calls Try.prog 53 #[v1, v2] w fun e w' => e = .returned (.bool (decide (l1 = l2))) ∧ Only [] w w' := by
  obtain ⟨A1, c1, rfl⟩ := hs1.shape
  obtain ⟨A2, c2, rfl⟩ := hs2.shape
  by_cases hn : l1.length = l2.length
  case neg =>
    have hne : ((l1.length : Int) == (l2.length : Int)) = false := by rw [beq_eq_false_iff_ne]; omega
    have hr : Hid (decide (l1 = l2) = false) := by show _ = _; rw [decide_eq_false_iff_not]; intro h; exact hn (by rw [h])
    clear hs1 hs2
    go_enter Try.func53, Try.ntmps53
    go_wp2_with fail
    go_ret
    exact ⟨by rw [hr.out]; rfl, Only.refl _ _⟩
  case pos =>
    have HS1 := Lib.hid hs1
    have HS2 := Lib.hid hs2
    have HN := Lib.hid hn
    rw [← hn]
    clear hs1 hs2 hn
    go_enter Try.func53, Try.ntmps53
    go_wp2_with fail
    go_loopw [5] (fun i wr => ∃ k : Nat, k ≤ l1.length ∧ i = .int .i64 k ∧ Only [] w wr ∧ Hid (l1.take k = l2.take k)) (fun i _ => l1.length - (intOf i).toNat)
    case atStart => exact ⟨0, by omega, rfl, Only.refl _ _, Lib.hid (by simp)⟩
    case round =>
      obtain ⟨k, hk, rfl, ho, heq⟩ := hrel
      by_cases hlt : k < l1.length
      · have hlt' : (k : Int) < (l1.length : Int) := by omega
        obtain ⟨x, hx⟩ : ∃ x, l1[k]? = some x := ⟨_, List.getElem?_eq_getElem hlt⟩
        obtain ⟨y, hy⟩ : ∃ y, l2[k]? = some y := ⟨_, List.getElem?_eq_getElem (by rw [← HN.out]; exact hlt)⟩
        obtain ⟨b1, o1, c1', e1, q1⟩ := gvs_at (HS1.out.only ho (Nat.le_refl _) (by simp)) hx
        obtain ⟨b2, o2, c2', e2, q2⟩ := gvs_at (HS2.out.only ho (Nat.le_refl _) (by simp)) hy
        injection e1 with i1 i2 i3
        injection e2 with j1 j2 j3
        subst i1; subst i3; subst j1; subst j3
        have p1 := fun u : Since wr => u.cell q1
        have p2 := fun u : Since wr => u.cell q2
        have HX := Lib.hid hx
        have HY := Lib.hid hy
        clear hx hy q1 q2 i2 j2
        by_cases hxy : x = y
        · have hd : (x == y) = true := by simpa using hxy
          have heq2 : Hid (l1.take (k + 1) = l2.take (k + 1)) := by
            show _ = _
            rw [List.take_add_one, List.take_add_one, heq.out, HX.out, HY.out, hxy]
          clear hxy
          go_wp2_with fail
          refine wp_region_only wr (Only.refl _ _) (by kernel_rfl) (by kernel_rfl) ?_
          repeat (go_big_quiet_step (fail))
          refine wpQuiet_nil ?_
          rintro ⟨w1, ho1⟩
          dsimp only
          go_wp2_with fail
          go_roundw
          case rel => exact ⟨k + 1, by omega, by go_num, ho.tr ho1, heq2⟩
          case measure => simp [intOf]; omega
        · have hd : (x == y) = false := by simpa using hxy
          have hr : Hid (decide (l1 = l2) = false) := by
            show _ = _
            rw [decide_eq_false_iff_not]
            intro h
            have h1 := HX.out
            rw [h, HY.out] at h1
            injection h1 with h1
            exact hxy h1.symm
          go_wp2_with fail
          refine wp_region_only wr (Only.refl _ _) (by kernel_rfl) (by kernel_rfl) ?_
          repeat (go_big_quiet_step (fail))
          refine wpQuiet_nil ?_
          rintro ⟨w1, ho1⟩
          dsimp only
          go_wp2_with fail
          go_ret
          exact ⟨by rw [hr.out]; rfl, ho.tr ho1⟩
      · have hd : decide ((k : Int) < (l1.length : Int)) = false := by simp; omega
        have hr : Hid (decide (l1 = l2) = true) := by
          show _ = _
          rw [decide_eq_true_eq]
          have := heq.out
          rwa [List.take_of_length_le (by omega), List.take_of_length_le (by have := HN.out; omega)] at this
        go_wp2_with fail
        go_ret
        exact ⟨by rw [hr.out]; rfl, ho⟩
set_option maxRecDepth 100000 in
set_option maxHeartbeats 4000000 in
theorem same7 (ev vv ev' vv' : Value) (m : Ms) (w : World) (h : MsAt w ev vv m) (h' : MsAt w ev' vv' m) (he : m.es.length ≤ 1000000) (hv : m.b.vs.length ≤ 1000000) :
    Calls Try.prog 51 #[m.val ev vv, m.val ev' vv'] w fun e w' => e = .returned (.bool true) ∧ Only [] w w' := by
  obtain ⟨EA, ec, rfl⟩ := h.ents.shape
  obtain ⟨VA, vc, rfl⟩ := h.vots.shape
  obtain ⟨EA', ec', rfl⟩ := h'.ents.shape
  obtain ⟨VA', vc', rfl⟩ := h'.vots.shape
  have H := Lib.hid h
  have H' := Lib.hid h'
  unfold Ms.val
  obtain ⟨w1, hw1⟩ : ∃ w1, w.alloc (.cells #[.int .i64 m.kd, .int .i64 m.fr, .int .i64 m.to, .int .i64 m.tm, .int .i64 m.ix, .int .i64 m.lt, .int .i64 m.cm, .bool m.ok, .slice EA m.es.length ec, .int .i64 m.b.ix, .int .i64 m.b.tm, .slice VA m.b.vs.length vc, .string m.b.d, .string m.d] 67) = w1 := ⟨_, rfl⟩
  obtain ⟨w2, hw2⟩ : ∃ w2, w1.alloc (.cells #[.int .i64 m.kd, .int .i64 m.fr, .int .i64 m.to, .int .i64 m.tm, .int .i64 m.ix, .int .i64 m.lt, .int .i64 m.cm, .bool m.ok, .slice EA' m.es.length ec', .int .i64 m.b.ix, .int .i64 m.b.tm, .slice VA' m.b.vs.length vc', .string m.b.d, .string m.d] 67) = w2 := ⟨_, rfl⟩
  have s1 : w1.heap.size = w.heap.size + 1 := by rw [← hw1]; simp
  have O1 : Only [] w w1 := hw1 ▸ (Only.refl _ _).alloc _
  have O2 : Only [] w w2 := hw2 ▸ O1.alloc _
  have a1 : Cells w1 w.heap.size 67 (m.cells (.slice EA m.es.length ec) (.slice VA m.b.vs.length vc)) := hw1 ▸ Cells.new w _ _
  have b1 : Cells w2 w.heap.size 67 (m.cells (.slice EA m.es.length ec) (.slice VA m.b.vs.length vc)) := hw2 ▸ a1.alloc _
  have b2 : Cells w2 (w.heap.size + 1) 67 (m.cells (.slice EA' m.es.length ec') (.slice VA' m.b.vs.length vc')) := by
    have := Cells.new w1 67 (m.cells (.slice EA' m.es.length ec') (.slice VA' m.b.vs.length vc'))
    rw [s1] at this
    exact hw2 ▸ this
  obtain ⟨c0, c1, c2, c3, c4, c5, c6, c7, c8, c9, c10, c11, c12, c13⟩ := ms_cells b1
  obtain ⟨d0, d1, d2, d3, d4, d5, d6, d7, d8, d9, d10, d11, d12, d13⟩ := ms_cells b2
  have HO := Lib.hid O2
  have HB1 := Lib.hid b1
  have HB2 := Lib.hid b2
  obtain ⟨z, hz⟩ : ∃ z, w.heap.size = z := ⟨_, rfl⟩
  clear h h' a1 b1 b2 O1 O2
  go_enter Try.func51, Try.ntmps51
  rw [hz] at c0 c1 c2 c3 c4 c5 c6 c7 c8 c9 c10 c11 c12 c13 d0 d1 d2 d3 d4 d5 d6 d7 d8 d9 d10 d11 d12 d13 HB1 HB2
  go_wp2_with fail
  clear hw1 hw2 s1 c0 c1 c2 c3 c4 c5 c6 c7 c8 c9 c10 c11 c12 c13 d0 d1 d2 d3 d4 d5 d6 d7 d8 d9 d10 d11 d12 d13
  go_loopw [5] (fun i wr => ∃ k : Nat, k ≤ m.es.length ∧ i = .int .i64 k ∧ Hid (Only [] w2 wr)) (fun i _ => m.es.length - (intOf i).toNat)
  case atStart => exact ⟨0, by omega, rfl, Lib.hid (Only.refl _ _)⟩
  case round =>
    obtain ⟨k, hk, rfl, ho⟩ := hrel
    obtain ⟨c0, c1, c2, c3, c4, c5, c6, c7, c8, c9, c10, c11, c12, c13⟩ := ms_cells (HB1.out.only ho.out (by simp))
    obtain ⟨d0, d1, d2, d3, d4, d5, d6, d7, d8, d9, d10, d11, d12, d13⟩ := ms_cells (HB2.out.only ho.out (by simp))
    by_cases hlt : k < m.es.length
    · have hlt' : (k : Int) < (m.es.length : Int) := by omega
      obtain ⟨x, hx⟩ : ∃ x, m.es[k]? = some x := ⟨_, List.getElem?_eq_getElem hlt⟩
      obtain ⟨b1, o1, c1', e1, q0, q1, q2, q3⟩ := enL_at ((H.out.only HO.out).only ho.out).ents hx
      obtain ⟨b2, o2, c2', e2, s0, s1, s2, s3⟩ := enL_at ((H'.out.only HO.out).only ho.out).ents hx
      injection e1 with i1 i2 i3
      injection e2 with j1 j2 j3
      subst i1; subst i3; subst j1; subst j3
      have p0 := fun u : Since wr => u.cell q0
      have p1 := fun u : Since wr => u.cell q1
      have p2 := fun u : Since wr => u.cell q2
      have p3 := fun u : Since wr => u.cell q3
      have r0 := fun u : Since wr => u.cell s0
      have r1 := fun u : Since wr => u.cell s1
      have r2 := fun u : Since wr => u.cell s2
      have r3 := fun u : Since wr => u.cell s3
      have t8 := fun u : Since wr => u.cell c8
      have v8 := fun u : Since wr => u.cell d8
      clear hx q0 q1 q2 q3 s0 s1 s2 s3 i2 j2 c0 c1 c2 c3 c4 c5 c6 c7 c9 c10 c11 c12 c13 d0 d1 d2 d3 d4 d5 d6 d7 d9 d10 d11 d12 d13
      go_wp2_with fail
      refine wp_region_only wr (Only.refl _ _) (by kernel_rfl) (by kernel_rfl) ?_
      repeat (go_big_quiet_step (fail))
      refine wpQuiet_nil ?_
      rintro ⟨w3, ho3⟩
      dsimp only
      have HO3 := Lib.hid (ho.out.tr ho3)
      clear p0 p1 p2 p3 r0 r1 r2 r3 t8 v8 c8 d8
      go_wp2_with fail
      go_roundw
      case rel => exact ⟨k + 1, by omega, by go_num, HO3⟩
      case measure => simp [intOf]; omega
    · have hd : decide ((k : Int) < (m.es.length : Int)) = false := by simp; omega
      have CI0 := ints7 _ _ m.b.vs m.b.vs wr ((H.out.only HO.out).only ho.out).vots ((H'.out.only HO.out).only ho.out).vots (by omega) (by omega)
      rw [show decide (m.b.vs = m.b.vs) = true from decide_eq_true rfl] at CI0
      have CI := Lib.hid CI0
      clear CI0 c0 c1 c2 c3 c4 c5 c6 c7 d0 d1 d2 d3 d4 d5 d6 d7
      go_wp2_with fail
      refine CI.out.mono ?_
      rintro e w3 ⟨rfl, ho3⟩
      have HO3 := Lib.hid ((HO.out.tr ho.out).tr ho3)
      go_wp2_with fail
      go_ret
      exact ⟨rfl, HO3.out⟩
/-- May a message be gone through? -/
structure Ms.Small (m : Ms) : Prop where
  es : m.es.length ≤ 20
  vs : m.b.vs.length ≤ 30
  d : m.d.size ≤ 2000
  bd : m.b.d.size ≤ 2000
  ed : ∀ x ∈ m.es, x.d.size ≤ 600
set_option maxRecDepth 100000 in
set_option maxHeartbeats 4000000 in
theorem small7 (ev vv : Value) (m : Ms) (w : World) (h : MsAt w ev vv m) :
    Calls Try.prog 41 #[m.val ev vv] w (OkB m.Small w) := by
  obtain ⟨EA, ec, rfl⟩ := h.ents.shape
  obtain ⟨VA, vc, rfl⟩ := h.vots.shape
  have H := Lib.hid h
  have hel := h.elen
  have hvl : m.b.vs.length ≤ 9223372036854775807 := by obtain ⟨_, _, _, _, _, h2, _⟩ := h.vots; unfold maxLen at h2; omega
  have hdl : m.d.size ≤ 9223372036854775807 := by have := h.wd; unfold maxLen at this; omega
  have hbl : m.b.d.size ≤ 9223372036854775807 := by have := h.wb; unfold maxLen at this; omega
  unfold Ms.val
  obtain ⟨w1, hw1⟩ : ∃ w1, w.alloc (.cells #[.int .i64 m.kd, .int .i64 m.fr, .int .i64 m.to, .int .i64 m.tm, .int .i64 m.ix, .int .i64 m.lt, .int .i64 m.cm, .bool m.ok, .slice EA m.es.length ec, .int .i64 m.b.ix, .int .i64 m.b.tm, .slice VA m.b.vs.length vc, .string m.b.d, .string m.d] 67) = w1 := ⟨_, rfl⟩
  obtain ⟨z, hz⟩ : ∃ z, w.heap.size = z := ⟨_, rfl⟩
  have O1 : Only [] w w1 := hw1 ▸ (Only.refl _ _).alloc _
  have a1 : Cells w1 z 67 (m.cells (.slice EA m.es.length ec) (.slice VA m.b.vs.length vc)) := hw1 ▸ hz ▸ Cells.new w _ _
  obtain ⟨c0, c1, c2, c3, c4, c5, c6, c7, c8, c9, c10, c11, c12, c13⟩ := ms_cells a1
  have HO := Lib.hid O1
  have HB := Lib.hid a1
  clear h a1 O1
  go_enter Try.func41, Try.ntmps41
  by_cases a1 : 20 < m.es.length
  · have da1 : decide ((20 : Int) < (m.es.length : Int)) = true := by simp; omega
    have hno : Hid (¬ m.Small) := Lib.hid fun h => by have := h.es; omega
    go_wp2_with fail
    go_ret
    exact OkB.f hno.out rfl HO.out
  have da1 : decide ((20 : Int) < (m.es.length : Int)) = false := by simp; omega
  by_cases a2 : 30 < m.b.vs.length
  · have da2 : decide ((30 : Int) < (m.b.vs.length : Int)) = true := by simp; omega
    have hno : Hid (¬ m.Small) := Lib.hid fun h => by have := h.vs; omega
    go_wp2_with fail
    go_ret
    exact OkB.f hno.out rfl HO.out
  have da2 : decide ((30 : Int) < (m.b.vs.length : Int)) = false := by simp; omega
  by_cases a3 : 2000 < m.d.size
  · have da3 : decide ((2000 : Int) < (m.d.size : Int)) = true := by simp; omega
    have hno : Hid (¬ m.Small) := Lib.hid fun h => by have := h.d; omega
    go_wp2_with fail
    go_ret
    exact OkB.f hno.out rfl HO.out
  have da3 : decide ((2000 : Int) < (m.d.size : Int)) = false := by simp; omega
  by_cases a4 : 2000 < m.b.d.size
  · have da4 : decide ((2000 : Int) < (m.b.d.size : Int)) = true := by simp; omega
    have hno : Hid (¬ m.Small) := Lib.hid fun h => by have := h.bd; omega
    go_wp2_with fail
    go_ret
    exact OkB.f hno.out rfl HO.out
  have da4 : decide ((2000 : Int) < (m.b.d.size : Int)) = false := by simp; omega
  go_wp2_with fail
  go_loop [3] (fun i => ∃ k : Nat, k ≤ m.es.length ∧ i = .int .i64 k ∧ Hid (∀ j x, j < k → m.es[j]? = some x → x.d.size ≤ 600)) (fun i => m.es.length - (intOf i).toNat)
  case atStart => exact ⟨0, by omega, rfl, Lib.hid fun j x hj => by omega⟩
  case round =>
    obtain ⟨k, hk, rfl, hall⟩ := hrel
    by_cases hlt : k < m.es.length
    · have hlt' : (k : Int) < (m.es.length : Int) := by omega
      obtain ⟨x, hx⟩ : ∃ x, m.es[k]? = some x := ⟨_, List.getElem?_eq_getElem hlt⟩
      obtain ⟨b1, o1, c1', e1, q0, q1, q2, q3⟩ := enL_at (H.out.only HO.out).ents hx
      injection e1 with i1 i2 i3
      subst i1
      subst i3
      have hxw := (H.out.we x (List.mem_of_getElem? hx)).2.2.2
      have hxd : x.d.size ≤ 9223372036854775807 := by unfold maxLen at hxw; omega
      have HX := Lib.hid hx
      clear i2 hx hxw q0 q1 q2
      by_cases h6 : 600 < x.d.size
      · have d6 : decide ((600 : Int) < (x.d.size : Int)) = true := by simp; omega
        have hno : Hid (¬ m.Small) := Lib.hid fun h => by have := h.ed x (List.mem_of_getElem? HX.out); omega
        go_wp2_with fail
        go_ret
        exact OkB.f hno.out rfl HO.out
      · have d6 : decide ((600 : Int) < (x.d.size : Int)) = false := by simp; omega
        have hn : Hid (∀ j y, j < k + 1 → m.es[j]? = some y → y.d.size ≤ 600) := Lib.hid fun j y hj hy => by
          by_cases hjk : j < k
          · exact hall.out j y hjk hy
          · obtain rfl : j = k := by omega
            rw [HX.out] at hy
            injection hy with hy
            subst hy
            omega
        go_wp2_with fail
        go_round
        case rel => exact ⟨k + 1, by omega, by go_num, hn⟩
        case measure => simp [intOf]; omega
    · have hd : decide ((k : Int) < (m.es.length : Int)) = false := by simp; omega
      have hyes : Hid m.Small := Lib.hid ⟨by omega, by omega, by omega, by omega, fun x hx => by
        obtain ⟨j, hj⟩ := List.getElem?_of_mem hx
        exact hall.out j x (by have := (List.getElem?_eq_some_iff.1 hj).1; omega) hj⟩
      go_wp2_with fail
      go_ret
      exact OkB.t hyes.out rfl HO.out
end Go.Proofs.Ytagklgodcbmcaaa
