/-
  Chapter 7: Right.
-/
import Derived.Test.YtagklgodcbmcaaaM7a
namespace Go.Proofs.Ytagklgodcbmcaaa
open Go.RowKit
theorem ms_cells {w : World} {z : Nat} {ev vv : Value} {m : Ms} (h : Cells w z 67 (m.cells ev vv)) : w.cell? ⟨z, 0, none⟩ = some (.int .i64 m.kd) ∧ w.cell? ⟨z, 1, none⟩ = some (.int .i64 m.fr) ∧ w.cell? ⟨z, 2, none⟩ = some (.int .i64 m.to) ∧ w.cell? ⟨z, 3, none⟩ = some (.int .i64 m.tm) ∧ w.cell? ⟨z, 4, none⟩ = some (.int .i64 m.ix) ∧ w.cell? ⟨z, 5, none⟩ = some (.int .i64 m.lt) ∧ w.cell? ⟨z, 6, none⟩ = some (.int .i64 m.cm) ∧ w.cell? ⟨z, 7, none⟩ = some (.bool m.ok) ∧ w.cell? ⟨z, 8, none⟩ = some ev ∧ w.cell? ⟨z, 9, none⟩ = some (.int .i64 m.b.ix) ∧ w.cell? ⟨z, 10, none⟩ = some (.int .i64 m.b.tm) ∧ w.cell? ⟨z, 11, none⟩ = some vv ∧ w.cell? ⟨z, 12, none⟩ = some (.string m.b.d) ∧ w.cell? ⟨z, 13, none⟩ = some (.string m.d) :=
  ⟨h.cell (k := 0) rfl, h.cell (k := 1) rfl, h.cell (k := 2) rfl, h.cell (k := 3) rfl, h.cell (k := 4) rfl, h.cell (k := 5) rfl, h.cell (k := 6) rfl, h.cell (k := 7) rfl, h.cell (k := 8) rfl, h.cell (k := 9) rfl, h.cell (k := 10) rfl, h.cell (k := 11) rfl, h.cell (k := 12) rfl, h.cell (k := 13) rfl⟩
set_option maxRecDepth 100000 in
set_option maxHeartbeats 8000000 in
theorem msg_right (ev vv : Value) (m : Ms) (w : World) (h : MsAt w ev vv m) :
    Calls Try.prog 44 #[m.val ev vv] w (OkB m.Right w) := by
  obtain ⟨EA, ec, rfl⟩ := h.ents.shape
  obtain ⟨VA, vc, rfl⟩ := h.vots.shape
  have H := Lib.hid h
  have hel := h.elen
  have hdl : m.d.size ≤ 9223372036854775807 := by have := h.wd; unfold maxLen at this; omega
  have hbl : m.b.d.size ≤ 9223372036854775807 := by have := h.wb; unfold maxLen at this; omega
  have hoA : Only [] w (w.alloc (.cells (m.cells (.slice EA m.es.length ec) (.slice VA m.b.vs.length vc)).toArray 67)) := (Only.refl _ w).alloc _
  have hZ := Cells.new w 67 (m.cells (.slice EA m.es.length ec) (.slice VA m.b.vs.length vc))
  have HZ := Lib.hid hZ
  have HA := Lib.hid hoA
  unfold Ms.val
  clear h hZ hoA
  go_enter Try.func44, Try.ntmps44
  unfold Ms.cells at HZ HA
  go_wp2_with fail
  obtain ⟨w1, hw1⟩ : ∃ w1, w.alloc (.cells #[.int .i64 m.kd, .int .i64 m.fr, .int .i64 m.to, .int .i64 m.tm, .int .i64 m.ix, .int .i64 m.lt, .int .i64 m.cm, .bool m.ok, .slice EA m.es.length ec, .int .i64 m.b.ix, .int .i64 m.b.tm, .slice VA m.b.vs.length vc, .string m.b.d, .string m.d] 67) = w1 := ⟨_, rfl⟩
  obtain ⟨z, hz⟩ : ∃ z, w.heap.size = z := ⟨_, rfl⟩
  have HZ1 : Hid (Cells w1 z 67 (m.cells (.slice EA m.es.length ec) (.slice VA m.b.vs.length vc))) := Lib.hid (by rw [← hw1, ← hz]; exact HZ.out)
  have HA1 : Hid (Only [] w w1) := Lib.hid (by rw [← hw1]; exact HA.out)
  rw [hw1, hz]
  clear hw1 hz HZ HA
  go_loopw [8] (fun i wr => ∃ k : Nat, k ≤ m.es.length ∧ i = .int .i64 k ∧ Hid (Only [] w wr) ∧ Hid (Cells wr z 67 (m.cells (.slice EA m.es.length ec) (.slice VA m.b.vs.length vc))) ∧ Hid (∀ j x, j < k → m.es[j]? = some x → EnRight x)) (fun i _ => m.es.length - (intOf i).toNat)
  case atStart => exact ⟨0, by omega, rfl, HA1, HZ1, Lib.hid fun j x hj => by omega⟩
  case round =>
    obtain ⟨k, hk, rfl, ho, hZ, hall⟩ := hrel
    by_cases hlt : k < m.es.length
    case pos =>
      have hlt' : (k : Int) < (m.es.length : Int) := by omega
      obtain ⟨x, hx⟩ : ∃ x, m.es[k]? = some x := ⟨_, List.getElem?_eq_getElem hlt⟩
      have hM := H.out.only ho.out
      obtain ⟨b1, o1, c1', e1, q0, q1, q2, q3⟩ := enL_at hM.ents hx
      injection e1 with i1 i2 i3
      subst i1
      subst i3
      have hxw := (H.out.we x (List.mem_of_getElem? hx)).2.2.2
      have hxd : x.d.size ≤ 9223372036854775807 := by unfold maxLen at hxw; omega
      have HX := Lib.hid hx
      clear i2 hx hM hxw
      have hbad : ¬ EnRight x → Hid (¬ m.Right) := fun h => by show ¬ _; intro h1; exact h (h1.es x (List.mem_of_getElem? HX.out))
      have HBAD := Lib.hid hbad
      clear hbad
      go_wp2_with fail
      clear q0 q1 q2 q3
      have hE := (Cells.new wr 40 x.cells).alloc (.cells #[.int .i64 x.ix, .int .i64 x.tm] 3)
      have hoE : Only [] wr ((wr.alloc (.cells #[.int .i64 x.ix, .int .i64 x.tm, .int .i64 x.kd, .string x.d] 40)).alloc (.cells #[.int .i64 x.ix, .int .i64 x.tm] 3)) := ((Only.refl _ wr).alloc _).alloc _
      have CW := Lib.hid (msg_within (.slice (some ⟨wr.heap.size + 1, 0, none⟩) 2 2) [x.ix, x.tm] _ (lit_ints (wr.alloc (.cells #[.int .i64 x.ix, .int .i64 x.tm, .int .i64 x.kd, .string x.d] 40)) [x.ix, x.tm] (wr.heap.size + 1) (World.size_alloc _ _) (by simp)) (by simp))
      have HE := Lib.hid hE
      have HoE := Lib.hid hoE
      clear hE hoE
      refine CW.out.mono ?_
      rintro e w5 ⟨bw, rfl, hbw, ho5⟩
      have HE5 := HE.out.only ho5 (by simp)
      have HO5 := Lib.hid ((ho.out.tr HoE.out).tr ho5)
      have HZ5 := Lib.hid ((hZ.out.only HoE.out (by simp)).only ho5 (by simp))
      have HBW := Lib.hid hbw
      have y2 := HE5.cell (k := 2) rfl
      have y3 := HE5.cell (k := 3) rfl
      clear HE5 CW HE HoE ho5 hbw
      cases bw with
      | false =>
        have hb := HBAD.out (fun h => by
          have := HBW.out.2 (by intro y hy; simp at hy; rcases hy with rfl | rfl; exact h.ix; exact h.tm)
          cases this)
        go_wp2_with fail
        go_ret
        exact OkB.f hb.out rfl HO5.out
      | true =>
        have hin := HBW.out.1 rfl
        have hin1 := Lib.hid (hin x.ix (by simp))
        have hin2 := Lib.hid (hin x.tm (by simp))
        clear hin
        by_cases h1 : x.kd < 1
        · have d1 : decide (x.kd < 1) = true := by simpa using h1
          have hb := HBAD.out (fun h => by have := h.kd; omega)
          go_wp2_with fail
          go_ret
          exact OkB.f hb.out rfl HO5.out
        have d1 : decide (x.kd < 1) = false := by simpa using h1
        by_cases h3 : 3 < x.kd
        · have d2 : decide (3 < x.kd) = true := by simpa using h3
          have hb := HBAD.out (fun h => by have := h.kd; omega)
          go_wp2_with fail
          go_ret
          exact OkB.f hb.out rfl HO5.out
        have d2 : decide (3 < x.kd) = false := by simpa using h3
        by_cases h4 : 4000000 < x.d.size
        · have d3 : decide ((4000000 : Int) < (x.d.size : Int)) = true := by simp; omega
          have hb := HBAD.out (fun h => by have := h.d; omega)
          go_wp2_with fail
          go_ret
          exact OkB.f hb.out rfl HO5.out
        have d3 : decide ((4000000 : Int) < (x.d.size : Int)) = false := by simp; omega
        have hn : Hid (∀ j y, j < k + 1 → m.es[j]? = some y → EnRight y) := Lib.hid fun j y hj hy => by
          by_cases hjk : j < k
          · exact hall.out j y hjk hy
          · obtain rfl : j = k := by omega
            rw [HX.out] at hy
            injection hy with hy
            subst hy
            exact ⟨hin1.out, hin2.out, by omega, by omega⟩
        go_wp2_with fail
        go_roundw
        case rel => exact ⟨k + 1, by omega, by go_num, HO5, HZ5, hn⟩
        case measure => simp [intOf]; omega
    case neg =>
      have hd : decide ((k : Int) < (m.es.length : Int)) = false := by simp; omega
      have hES : Hid (∀ x ∈ m.es, EnRight x) := Lib.hid fun x hx => by
        obtain ⟨j, hj⟩ := List.getElem?_of_mem hx
        exact hall.out j x (by have := (List.getElem?_eq_some_iff.1 hj).1; omega) hj
      obtain ⟨c0, c1, c2, c3, c4, c5, c6, c7, c8, c9, c10, c11, c12, c13⟩ := ms_cells hZ.out
      by_cases h1 : m.kd < 1
      · have d1 : decide (m.kd < 1) = true := by simpa using h1
        have hb : ¬ m.Right := fun h => by have := h.kd; omega
        have HB := Lib.hid hb
        clear hb
        go_wp2_with fail
        go_ret
        exact OkB.f HB.out rfl ho.out
      have d1 : decide (m.kd < 1) = false := by simpa using h1
      by_cases h6 : 6 < m.kd
      · have d2 : decide (6 < m.kd) = true := by simpa using h6
        have HB : Hid (¬ m.Right) := Lib.hid fun h => by have := h.kd; omega
        go_wp2_with fail
        go_ret
        exact OkB.f HB.out rfl ho.out
      have d2 : decide (6 < m.kd) = false := by simpa using h6
      by_cases h8 : 8 < m.es.length
      · have d3 : decide ((8 : Int) < (m.es.length : Int)) = true := by simp; omega
        have HB : Hid (¬ m.Right) := Lib.hid fun h => by have := h.ln; omega
        go_wp2_with fail
        go_ret
        exact OkB.f HB.out rfl ho.out
      have d3 : decide ((8 : Int) < (m.es.length : Int)) = false := by simp; omega
      go_wp2_with fail
      refine (msg_node m.fr wr).mono ?_
      rintro e w2 ⟨b1, rfl, hb1, o1⟩
      have HB1 := Lib.hid hb1
      have O1 := Lib.hid (ho.out.tr o1)
      have hZ2 := Lib.hid (hZ.out.only o1 (by simp))
      clear c0 c1 c2 c3 c4 c5 c6 c7 c8 c9 c10 c11 c12 c13 hZ o1 hb1
      obtain ⟨c0, c1, c2, c3, c4, c5, c6, c7, c8, c9, c10, c11, c12, c13⟩ := ms_cells hZ2.out
      cases b1 with
      | false =>
        have HB : Hid (¬ m.Right) := Lib.hid fun h => by have := HB1.out.2 h.fr; cases this
        go_wp2_with fail
        go_ret
        exact OkB.f HB.out rfl O1.out
      | true =>
      go_wp2_with fail
      refine (msg_node m.to w2).mono ?_
      rintro e w3 ⟨b2, rfl, hb2, o2⟩
      have HB2 := Lib.hid hb2
      have O2 := Lib.hid (O1.out.tr o2)
      have hZ3 := Lib.hid (hZ2.out.only o2 (by simp))
      clear c0 c1 c2 c3 c4 c5 c6 c7 c8 c9 c10 c11 c12 c13 hZ2 o2 hb2
      obtain ⟨c0, c1, c2, c3, c4, c5, c6, c7, c8, c9, c10, c11, c12, c13⟩ := ms_cells hZ3.out
      cases b2 with
      | false =>
        have HB : Hid (¬ m.Right) := Lib.hid fun h => by have := HB2.out.2 h.to; cases this
        go_wp2_with fail
        go_ret
        exact OkB.f HB.out rfl O2.out
      | true =>
      have CV := Lib.hid (msg_rising (.slice VA m.b.vs.length vc) m.b.vs w3 ((H.out.only O2.out).vots) (by
        obtain ⟨_, _, _, _, h1, h2, _⟩ := H.out.vots
        unfold maxLen at h2; omega))
      go_wp2_with fail
      refine CV.out.mono ?_
      rintro e w4 ⟨b3, rfl, hb3, o3⟩
      have HB3 := Lib.hid hb3
      have O3 := Lib.hid (O2.out.tr o3)
      have hZ4 := Lib.hid (hZ3.out.only o3 (by simp))
      clear c0 c1 c2 c3 c4 c5 c6 c7 c8 c9 c10 c11 c12 c13 hZ3 o3 hb3 CV
      obtain ⟨c0, c1, c2, c3, c4, c5, c6, c7, c8, c9, c10, c11, c12, c13⟩ := ms_cells hZ4.out
      cases b3 with
      | false =>
        have HB : Hid (¬ m.Right) := Lib.hid fun h => by have := HB3.out.2 h.vs; cases this
        go_wp2_with fail
        go_ret
        exact OkB.f HB.out rfl O3.out
      | true =>
      have CW := Lib.hid (msg_within (.slice (some ⟨w4.heap.size, 0, none⟩) 6 6) [m.tm, m.ix, m.lt, m.cm, m.b.ix, m.b.tm] _ (lit_ints w4 [m.tm, m.ix, m.lt, m.cm, m.b.ix, m.b.tm] w4.heap.size rfl (by simp)) (by simp))
      have oL : Hid (Only [] w4 (w4.alloc (.cells (gvs [m.tm, m.ix, m.lt, m.cm, m.b.ix, m.b.tm]).toArray 3))) := Lib.hid ((Only.refl _ _).alloc _)
      go_wp2_with fail
      refine CW.out.mono ?_
      rintro e w5 ⟨b4, rfl, hb4, o4⟩
      have HB4 := Lib.hid hb4
      have O4 := Lib.hid ((O3.out.tr oL.out).tr o4)
      have hZ5 := Lib.hid ((hZ4.out.only oL.out (by simp)).only o4 (by simp))
      clear c0 c1 c2 c3 c4 c5 c6 c7 c8 c9 c10 c11 c12 c13 hZ4 o4 hb4 CW oL
      obtain ⟨c0, c1, c2, c3, c4, c5, c6, c7, c8, c9, c10, c11, c12, c13⟩ := ms_cells hZ5.out
      cases b4 with
      | false =>
        have HB : Hid (¬ m.Right) := Lib.hid fun h => by have := HB4.out.2 h.ns; cases this
        go_wp2_with fail
        go_ret
        exact OkB.f HB.out rfl O4.out
      | true =>
      by_cases h4 : m.d.size ≤ 4000000
      case neg =>
        have d4 : decide ((m.d.size : Int) ≤ (4000000 : Int)) = false := by simp; omega
        have HB : Hid (¬ m.Right) := Lib.hid fun h => h4 h.d
        go_wp2_with fail
        go_ret
        exact OkB.f HB.out rfl O4.out
      have d4 : decide ((m.d.size : Int) ≤ (4000000 : Int)) = true := by simp; omega
      by_cases h5 : m.b.d.size ≤ 4000000
      case neg =>
        have d5 : decide ((m.b.d.size : Int) ≤ (4000000 : Int)) = false := by simp; omega
        have HB : Hid (¬ m.Right) := Lib.hid fun h => h5 h.bd
        go_wp2_with fail
        go_ret
        exact OkB.f HB.out rfl O4.out
      have d5 : decide ((m.b.d.size : Int) ≤ (4000000 : Int)) = true := by simp; omega
      have HB : Hid m.Right := Lib.hid ⟨hES.out, by omega, by omega, HB1.out.1 (by simp), HB2.out.1 (by simp), HB3.out.1 (by simp), HB4.out.1 (by simp), h4, h5⟩
      go_wp2_with fail
      go_ret
      exact OkB.t HB.out rfl O4.out
end Go.Proofs.Ytagklgodcbmcaaa
