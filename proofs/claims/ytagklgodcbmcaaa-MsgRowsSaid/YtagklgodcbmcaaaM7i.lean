/-
  Chapter 7: the document's Right. (Printed by gen_m7i.py.)
-/
import Derived.Test.YtagklgodcbmcaaaM7h
import Derived.Deep.Cut
import Derived.Deep.CutRange
namespace Go.Proofs.Ytagklgodcbmcaaa
open Go.RowKit
def in40 (n : Int) : Bool := decide (0 ≤ n ∧ n ≤ 1099511627776)
theorem in40_iff {n : Int} : in40 n = true ↔ In40 n := by unfold in40 In40; simp
set_option maxRecDepth 100000 in
theorem ref7_in (n : Int) (w : World) : Calls Try.prog 79 #[.int .i64 n] w fun e w' => e = .returned (.bool (in40 n)) ∧ w = w' := by
  by_cases h0 : 0 ≤ n
  · have d1 : decide (0 ≤ n) = true := by simpa using h0
    by_cases h9 : n ≤ 1099511627776
    · have d2 : decide (n ≤ 1099511627776) = true := by simpa using h9
      rw [show in40 n = true from by unfold in40; simp [h0, h9]]
      go_enter Try.func79, Try.ntmps79
      go_wp2_with fail
      go_ret
      exact ⟨rfl, rfl⟩
    · have d2 : decide (n ≤ 1099511627776) = false := by simpa using h9
      rw [show in40 n = false from by unfold in40; simp [h9]]
      go_enter Try.func79, Try.ntmps79
      go_wp2_with fail
      go_ret
      exact ⟨rfl, rfl⟩
  · have d1 : decide (0 ≤ n) = false := by simpa using h0
    rw [show in40 n = false from by unfold in40; simp [h0]]
    go_enter Try.func79, Try.ntmps79
    go_wp2_with fail
    go_ret
    exact ⟨rfl, rfl⟩
set_option maxRecDepth 100000 in
set_option maxHeartbeats 8000000 in
theorem ref7_right (ev vv : Value) (m : Ms) (w : World) (h : MsAt w ev vv m) (hvl : m.b.vs.length ≤ 1000000) :
    Calls Try.prog 45 #[m.val ev vv] w (OkB m.Right w) := by
  obtain ⟨EA, ec, rfl⟩ := h.ents.shape
  obtain ⟨VA, vc, rfl⟩ := h.vots.shape
  have H := Lib.hid h
  have hel := h.elen
  have hdl : m.d.size ≤ 9223372036854775807 := by have := h.wd; unfold maxLen at this; omega
  have hbl : m.b.d.size ≤ 9223372036854775807 := by have := h.wb; unfold maxLen at this; omega
  have hoA : Only [] w (w.alloc (.cells (m.cells (.slice EA m.es.length ec) (.slice VA m.b.vs.length vc)).toArray 67)) := (Only.refl _ w).alloc _
  have hZ := Cells.new w 67 (m.cells (.slice EA m.es.length ec) (.slice VA m.b.vs.length vc))
  have HZ := Lib.hid hZ
  have HA := Lib.hid hoA
  have CI := Lib.hid (fun (n : Int) (W : World) => ref7_in n W)
  unfold Ms.val
  clear h hZ hoA
  go_enter Try.func45, Try.ntmps45
  unfold Ms.cells at HZ HA
  go_wp2_with fail
  obtain ⟨w1, hw1⟩ : ∃ w1, w.alloc (.cells #[.int .i64 m.kd, .int .i64 m.fr, .int .i64 m.to, .int .i64 m.tm, .int .i64 m.ix, .int .i64 m.lt, .int .i64 m.cm, .bool m.ok, .slice EA m.es.length ec, .int .i64 m.b.ix, .int .i64 m.b.tm, .slice VA m.b.vs.length vc, .string m.b.d, .string m.d] 67) = w1 := ⟨_, rfl⟩
  obtain ⟨z, hz⟩ : ∃ z, w.heap.size = z := ⟨_, rfl⟩
  have HZ1 : Hid (Cells w1 z 67 (m.cells (.slice EA m.es.length ec) (.slice VA m.b.vs.length vc))) := Lib.hid (by rw [← hw1, ← hz]; exact HZ.out)
  have HA1 : Hid (Only [] w w1) := Lib.hid (by rw [← hw1]; exact HA.out)
  rw [hw1, hz]
  clear hw1 hz HZ HA
  go_loopw [3] (fun i wr => ∃ k : Nat, k ≤ m.es.length ∧ i = .int .i64 k ∧ Hid (Only [] w wr) ∧ Hid (Cells wr z 67 (m.cells (.slice EA m.es.length ec) (.slice VA m.b.vs.length vc))) ∧ Hid (∀ j x, j < k → m.es[j]? = some x → EnRight x)) (fun i _ => m.es.length - (intOf i).toNat)
  case atStart => exact ⟨0, by omega, rfl, HA1, HZ1, Lib.hid fun j x hj => by omega⟩
  case round =>
    obtain ⟨k, hk, rfl, ho, hZ, hall⟩ := hrel
    obtain ⟨c0, c1, c2, c3, c4, c5, c6, c7, c8, c9, c10, c11, c12, c13⟩ := ms_cells hZ.out
    by_cases hlt : k < m.es.length
    case pos =>
      have hlt' : (k : Int) < (m.es.length : Int) := by omega
      obtain ⟨x, hx⟩ : ∃ x, m.es[k]? = some x := ⟨_, List.getElem?_eq_getElem hlt⟩
      have hM := H.out.only ho.out
      obtain ⟨b1, o1, c1', e1, q0, q1, q2, q3⟩ := enL_at hM.ents hx
      injection e1 with i1 i2 i3
      subst i1
      subst i3
      have hxw := (H.out.we x (List.mem_of_getElem? hx)).2.2.2
      have hxd : x.d.size ≤ 9223372036854775807 := by unfold maxLen at hxw; omega
      have HX := Lib.hid hx
      clear i2 hx hM hxw
      have hbad : ¬ EnRight x → Hid (¬ m.Right) := fun h => by show ¬ _; intro h1; exact h (h1.es x (List.mem_of_getElem? HX.out))
      have HBAD := Lib.hid hbad
      clear hbad
      have hE := Cells.new wr 40 x.cells
      have hoE : Only [] wr (wr.alloc (.cells #[.int .i64 x.ix, .int .i64 x.tm, .int .i64 x.kd, .string x.d] 40)) := (Only.refl _ wr).alloc _
      have HO5 := Lib.hid (ho.out.tr hoE)
      have HZ5 := Lib.hid (hZ.out.only hoE (by simp))
      have HE := Lib.hid hE
      clear hE hoE
      go_wp2_with fail
      refine (CI.out x.ix _).mono ?_
      rintro e w5 ⟨rfl, rfl⟩
      cases hi1 : in40 x.ix with
      | false =>
        have hb := HBAD.out (fun h => by have := in40_iff.2 h.ix; rw [hi1] at this; cases this)
        go_wp2_with fail
        go_ret
        exact OkB.f hb.out rfl HO5.out
      | true =>
      go_wp2_with fail
      refine (CI.out x.tm _).mono ?_
      rintro e w5 ⟨rfl, rfl⟩
      cases hi2 : in40 x.tm with
      | false =>
        have hb := HBAD.out (fun h => by have := in40_iff.2 h.tm; rw [hi2] at this; cases this)
        go_wp2_with fail
        go_ret
        exact OkB.f hb.out rfl HO5.out
      | true =>
      by_cases h1 : x.kd < 1
      · have d1 : decide (x.kd < 1) = true := by simpa using h1
        have hb := HBAD.out (fun h => by have := h.kd; omega)
        go_wp2_with fail
        go_ret
        exact OkB.f hb.out rfl HO5.out
      have d1 : decide (x.kd < 1) = false := by simpa using h1
      by_cases h3 : 3 < x.kd
      · have d2 : decide (3 < x.kd) = true := by simpa using h3
        have hb := HBAD.out (fun h => by have := h.kd; omega)
        go_wp2_with fail
        go_ret
        exact OkB.f hb.out rfl HO5.out
      have d2 : decide (3 < x.kd) = false := by simpa using h3
      by_cases h4 : 4000000 < x.d.size
      · have d3 : decide ((4000000 : Int) < (x.d.size : Int)) = true := by simp; omega
        have hb := HBAD.out (fun h => by have := h.d; omega)
        go_wp2_with fail
        go_ret
        exact OkB.f hb.out rfl HO5.out
      have d3 : decide ((4000000 : Int) < (x.d.size : Int)) = false := by simp; omega
      have hn : Hid (∀ j y, j < k + 1 → m.es[j]? = some y → EnRight y) := Lib.hid fun j y hj hy => by
        by_cases hjk : j < k
        · exact hall.out j y hjk hy
        · obtain rfl : j = k := by omega
          rw [HX.out] at hy
          injection hy with hy
          subst hy
          exact ⟨in40_iff.1 hi1, in40_iff.1 hi2, by omega, by omega⟩
      go_wp2_with fail
      go_roundw
      case rel => exact ⟨k + 1, by omega, by go_num, HO5, HZ5, hn⟩
      case measure => simp [intOf]; omega
    case neg =>
      have hd : decide ((k : Int) < (m.es.length : Int)) = false := by simp; omega
      have hES : Hid (∀ x ∈ m.es, EnRight x) := Lib.hid fun x hx => by
        obtain ⟨j, hj⟩ := List.getElem?_of_mem hx
        exact hall.out j x (by have := (List.getElem?_eq_some_iff.1 hj).1; omega) hj
      have hd2 : decide (k < m.es.length) = false := by simpa using hlt
      clear hall
      go_upto_region 7 with fail

      go_cut [5] from 46 to 63 (fun c wx => c = .bool (decide (((1 ≤ m.fr ∧ m.fr ≤ 9) ∧ 1 ≤ m.to) ∧ m.to ≤ 9)) ∧ wx = wr)
      case first =>
        by_cases e1 : 1 ≤ m.fr
        case neg =>
          have de1 : decide (1 ≤ m.fr) = false := by simpa using e1
          go_wp2_with fail
          go_meet
          exact ⟨congrArg Value.bool (decide_eq_false (p := ((1 ≤ m.fr ∧ m.fr ≤ 9) ∧ 1 ≤ m.to) ∧ m.to ≤ 9) (by omega)).symm, rfl⟩
        have de1 : decide (1 ≤ m.fr) = true := by simpa using e1
        by_cases e2 : m.fr ≤ 9
        case neg =>
          have de2 : decide (m.fr ≤ 9) = false := by simpa using e2
          go_wp2_with fail
          go_meet
          exact ⟨congrArg Value.bool (decide_eq_false (p := ((1 ≤ m.fr ∧ m.fr ≤ 9) ∧ 1 ≤ m.to) ∧ m.to ≤ 9) (by omega)).symm, rfl⟩
        have de2 : decide (m.fr ≤ 9) = true := by simpa using e2
        by_cases e3 : 1 ≤ m.to
        case neg =>
          have de3 : decide (1 ≤ m.to) = false := by simpa using e3
          go_wp2_with fail
          go_meet
          exact ⟨congrArg Value.bool (decide_eq_false (p := ((1 ≤ m.fr ∧ m.fr ≤ 9) ∧ 1 ≤ m.to) ∧ m.to ≤ 9) (by omega)).symm, rfl⟩
        have de3 : decide (1 ≤ m.to) = true := by simpa using e3
        by_cases e4 : m.to ≤ 9
        case neg =>
          have de4 : decide (m.to ≤ 9) = false := by simpa using e4
          go_wp2_with fail
          go_meet
          exact ⟨congrArg Value.bool (decide_eq_false (p := ((1 ≤ m.fr ∧ m.fr ≤ 9) ∧ 1 ≤ m.to) ∧ m.to ≤ 9) (by omega)).symm, rfl⟩
        have de4 : decide (m.to ≤ 9) = true := by simpa using e4
        go_wp2_with fail
        go_meet
        exact ⟨congrArg Value.bool (decide_eq_true (p := ((1 ≤ m.fr ∧ m.fr ≤ 9) ∧ 1 ≤ m.to) ∧ m.to ≤ 9) (by omega)).symm, rfl⟩
      case rest =>
        obtain ⟨rfl, rfl⟩ := hcut
        obtain ⟨b1, hb1⟩ : ∃ b1, decide (((1 ≤ m.fr ∧ m.fr ≤ 9) ∧ 1 ≤ m.to) ∧ m.to ≤ 9) = b1 := ⟨_, rfl⟩
        have HB1 : Hid (b1 = true ↔ Node m.fr ∧ Node m.to) := Lib.hid (by rw [← hb1]; unfold Node; simp only [decide_eq_true_eq]; omega)
        rw [hb1]
        clear hb1
        go_upto_region 8 with fail
        go_cut [6] from 64 to 93 (fun c wx => c = .bool (in40 m.tm && in40 m.ix && in40 m.lt && in40 m.cm && in40 m.b.ix && in40 m.b.tm) ∧ wx = wc)
        case first =>
          go_wp2_with fail
          refine (CI.out m.tm _).mono ?_
          rintro e w5 ⟨rfl, rfl⟩
          cases k0 : in40 m.tm with
          | false =>
            go_wp2_with fail
            go_meet
            exact ⟨by simp [k0], rfl⟩
          | true =>
          go_wp2_with fail
          refine (CI.out m.ix _).mono ?_
          rintro e w5 ⟨rfl, rfl⟩
          cases k1 : in40 m.ix with
          | false =>
            go_wp2_with fail
            go_meet
            exact ⟨by simp [k0, k1], rfl⟩
          | true =>
          go_wp2_with fail
          refine (CI.out m.lt _).mono ?_
          rintro e w5 ⟨rfl, rfl⟩
          cases k2 : in40 m.lt with
          | false =>
            go_wp2_with fail
            go_meet
            exact ⟨by simp [k0, k1, k2], rfl⟩
          | true =>
          go_wp2_with fail
          refine (CI.out m.cm _).mono ?_
          rintro e w5 ⟨rfl, rfl⟩
          cases k3 : in40 m.cm with
          | false =>
            go_wp2_with fail
            go_meet
            exact ⟨by simp [k0, k1, k2, k3], rfl⟩
          | true =>
          go_wp2_with fail
          refine (CI.out m.b.ix _).mono ?_
          rintro e w5 ⟨rfl, rfl⟩
          cases k4 : in40 m.b.ix with
          | false =>
            go_wp2_with fail
            go_meet
            exact ⟨by simp [k0, k1, k2, k3, k4], rfl⟩
          | true =>
          go_wp2_with fail
          refine (CI.out m.b.tm _).mono ?_
          rintro e w5 ⟨rfl, rfl⟩
          cases k5 : in40 m.b.tm with
          | false =>
            go_wp2_with fail
            go_meet
            exact ⟨by simp [k0, k1, k2, k3, k4, k5], rfl⟩
          | true =>
          go_wp2_with fail
          go_meet
          exact ⟨by simp [k0, k1, k2, k3, k4, k5], rfl⟩
        case rest =>
          obtain ⟨rfl, rfl⟩ := hcut
          obtain ⟨b2, hb2⟩ : ∃ b2, (in40 m.tm && in40 m.ix && in40 m.lt && in40 m.cm && in40 m.b.ix && in40 m.b.tm) = b2 := ⟨_, rfl⟩
          have HB2 : Hid (b2 = true ↔ ∀ x ∈ [m.tm, m.ix, m.lt, m.cm, m.b.ix, m.b.tm], In40 x) := Lib.hid (by
            rw [← hb2]
            simp only [Bool.and_eq_true, in40_iff, List.mem_cons, List.not_mem_nil, or_false, forall_eq_or_imp, forall_eq]
            constructor
            · rintro ⟨⟨⟨⟨⟨a, b⟩, c⟩, d⟩, e⟩, f⟩; exact ⟨a, b, c, d, e, f⟩
            · rintro ⟨a, b, c, d, e, f⟩; exact ⟨⟨⟨⟨⟨a, b⟩, c⟩, d⟩, e⟩, f⟩)
          rw [hb2]
          have CRi := Lib.hid (ref7_rising _ _ wc (H.out.only ho.out).vots hvl)
          clear hb2
          go_wp2_with fail
          refine CRi.out.mono ?_
          rintro e w9 ⟨b3, rfl, hb3, ho9⟩
          have HB3 := Lib.hid hb3
          have HO9 := Lib.hid (ho.out.tr ho9)
          have hZ9 := hZ.out.only ho9 (by simp)
          clear c0 c1 c2 c3 c4 c5 c6 c7 c8 c9 c10 c11 c12 c13
          obtain ⟨c0, c1, c2, c3, c4, c5, c6, c7, c8, c9, c10, c11, c12, c13⟩ := ms_cells hZ9
          clear CRi hb3 ho9 hZ hZ9 CI ho
          by_cases a1 : 1 ≤ m.kd
          case neg =>
            have da1 : decide (1 ≤ m.kd) = false := by simpa using a1
            have hno : ¬ m.Right := fun h => by have := h.kd; omega
            go_wp2_with fail
            go_ret
            exact OkB.f hno rfl HO9.out
          have da1 : decide (1 ≤ m.kd) = true := by simpa using a1
          by_cases a2 : m.kd ≤ 6
          case neg =>
            have da2 : decide (m.kd ≤ 6) = false := by simpa using a2
            have hno : ¬ m.Right := fun h => by have := h.kd; omega
            go_wp2_with fail
            go_ret
            exact OkB.f hno rfl HO9.out
          have da2 : decide (m.kd ≤ 6) = true := by simpa using a2
          cases b1 with
          | false =>
            have hno : ¬ m.Right := fun h => by have := HB1.out.2 ⟨h.fr, h.to⟩; cases this
            go_wp2_with fail
            go_ret
            exact OkB.f hno rfl HO9.out
          | true =>
          cases b2 with
          | false =>
            have hno : ¬ m.Right := fun h => by have := HB2.out.2 h.ns; cases this
            go_wp2_with fail
            go_ret
            exact OkB.f hno rfl HO9.out
          | true =>
          cases b3 with
          | false =>
            have hno : ¬ m.Right := fun h => by have := HB3.out.2 ⟨h.vs, rise_len h.vs⟩; cases this
            go_wp2_with fail
            go_ret
            exact OkB.f hno rfl HO9.out
          | true =>
          by_cases a3 : m.es.length ≤ 8
          case neg =>
            have da3 : decide ((m.es.length : Int) ≤ 8) = false := by simp; omega
            have hno : ¬ m.Right := fun h => by have := h.ln; omega
            go_wp2_with fail
            go_ret
            exact OkB.f hno rfl HO9.out
          have da3 : decide ((m.es.length : Int) ≤ 8) = true := by simp; omega
          by_cases a4 : m.d.size ≤ 4000000
          case neg =>
            have da4 : decide ((m.d.size : Int) ≤ 4000000) = false := by simp; omega
            have hno : ¬ m.Right := fun h => by have := h.d; omega
            go_wp2_with fail
            go_ret
            exact OkB.f hno rfl HO9.out
          have da4 : decide ((m.d.size : Int) ≤ 4000000) = true := by simp; omega
          by_cases a5 : m.b.d.size ≤ 4000000
          case neg =>
            have da5 : decide ((m.b.d.size : Int) ≤ 4000000) = false := by simp; omega
            have hno : ¬ m.Right := fun h => by have := h.bd; omega
            go_wp2_with fail
            go_ret
            exact OkB.f hno rfl HO9.out
          have da5 : decide ((m.b.d.size : Int) ≤ 4000000) = true := by simp; omega
          have hyes : m.Right := ⟨hES.out, ⟨a1, a2⟩, a3, (HB1.out.1 rfl).1, (HB1.out.1 rfl).2, (HB3.out.1 rfl).1, HB2.out.1 rfl, a4, a5⟩
          go_wp2_with fail
          go_ret
          exact OkB.t hyes rfl HO9.out
end Go.Proofs.Ytagklgodcbmcaaa
