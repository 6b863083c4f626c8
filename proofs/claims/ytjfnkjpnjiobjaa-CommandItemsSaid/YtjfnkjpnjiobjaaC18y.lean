/-
  Chapter 18: small.
-/
import Derived.Test.YtjfnkjpnjiobjaaC18x
namespace Go.Proofs.Ytjfnkjpnjiobjaa
open Go.RowKit
def It.To (n : Nat) (x : It) : Prop := x.id.length ≤ n ∧ x.ti.length ≤ n ∧ x.li.length ≤ n
structure Sm18 (c : Cm) (r : Rp) : Prop where
  fd : c.fd.length ≤ 500
  id : c.id.length ≤ 500
  n : c.its.length ≤ 120
  m : r.ps.length ≤ 120
  its : ∀ x ∈ c.its, x.To 800
  ps : ∀ x ∈ r.ps, x.it.To 300
theorem Sm18.sm {c : Cm} {r : Rp} (h : Sm18 c r) : c.Sm := by
  have := h.fd; have := h.id; have := h.n
  refine ⟨by omega, by omega, by omega, fun x hx => ?_⟩
  obtain ⟨a1, a2, a3⟩ := h.its x hx
  exact ⟨by omega, by omega, by omega⟩
theorem Sm18.rp {w : World} {pv : Value} {c : Cm} {r : Rp} (h : Sm18 c r) (hr : RpIn w pv r) : RpAt w pv r := by
  have := h.m
  refine ⟨hr.ps, hr.er, hr.n, fun x hx => ⟨(hr.all x hx).sq, ?_⟩, by omega⟩
  obtain ⟨a1, a2, a3⟩ := h.ps x hx
  exact ⟨by omega, by omega, by omega⟩
theorem RpIn.only {w w' : World} {pv : Value} {r : Rp} (h : RpIn w pv r) (ho : Only [] w w') : RpIn w' pv r := ⟨(h.ps.only ho (Nat.le_refl _) (by simp)).more ho.size, h.er, h.n, h.all⟩
theorem rpIn_zero (w : World) : RpIn w (.slice none 0 0) Rp.zero := ⟨SlAt.of_own (World.ownsRow_nil w 0 38 5), ⟨by decide, by decide⟩, ⟨by decide, by decide⟩, by simp [Rp.zero]⟩
def SmW (c : Cm) (r : Rp) (w : World) (e : Ending) (w' : World) : Prop := ∃ bo, e = .returned (.bool bo) ∧ (bo = true → Sm18 c r) ∧ Only [] w w'
theorem SmW.f {c : Cm} {r : Rp} {w w' : World} {e : Ending} (he : e = .returned (.bool false)) (ho : Only [] w w') : SmW c r w e w' := ⟨false, he, fun h => (by cases h), ho⟩
theorem SmW.t {c : Cm} {r : Rp} {w w' : World} {e : Ending} (he : e = .returned (.bool true)) (hs : Sm18 c r) (ho : Only [] w w') : SmW c r w e w' := ⟨true, he, fun _ => hs, ho⟩
set_option maxRecDepth 100000 in
set_option maxHeartbeats 4000000 in
theorem small18 (iv pv : Value) (c : Cm) (r : Rp) (w : World) (h : CmAt w iv c) (h' : RpIn w pv r) :
    Calls Try.prog 30 #[c.val iv, r.val pv] w (SmW c r w) := by
  obtain ⟨IA, ic, rfl⟩ := h.its.shape
  obtain ⟨JA, jc, rfl⟩ := h'.ps.shape
  have H1 := Lib.hid h.its
  have H2 := Lib.hid h'.ps
  have HL1 := Lib.hid h.len
  have HL2 := Lib.hid (fun x hx => (h'.all x hx).it)
  have hil := sl_len h.its
  have hjl := sl_len h'.ps
  have hfl := h.fd
  have hdl := h.id
  unfold maxLen at hil hjl hfl hdl
  obtain ⟨w1, hw1⟩ : ∃ w1, w.alloc (.cells #[.int .i64 c.kd, .int .i64 c.ss, .int .i64 c.sq, .int .i64 c.sh, .int .i64 c.nd, .int .i64 c.ep, .int .i64 c.n, .string ⟨c.fd.toArray⟩, .string ⟨c.id.toArray⟩, .slice IA c.its.length ic, .bool c.fl] 65) = w1 := ⟨_, rfl⟩
  obtain ⟨w2, hw2⟩ : ∃ w2, w1.alloc (.cells #[.int .i64 r.er, .int .i64 r.n, .slice JA r.ps.length jc] 67) = w2 := ⟨_, rfl⟩
  obtain ⟨z1, hz1⟩ : ∃ z, w.heap.size = z := ⟨_, rfl⟩
  obtain ⟨z2, hz2⟩ : ∃ z, w1.heap.size = z := ⟨_, rfl⟩
  have O1 : Only [] w w1 := hw1 ▸ (Only.refl _ _).alloc _
  have O2 : Only [] w1 w2 := hw2 ▸ (Only.refl _ _).alloc _
  have a1 : Cells w1 z1 65 (c.cells (.slice IA c.its.length ic)) := hw1 ▸ hz1 ▸ Cells.new w _ _
  have a2 : Cells w2 z2 67 [.int .i64 r.er, .int .i64 r.n, .slice JA r.ps.length jc] := hw2 ▸ hz2 ▸ Cells.new w1 _ _
  have a1 := a1.only O2 (by simp)
  have HO := Lib.hid (O1.tr O2)
  have HZ2 := Lib.hid a2
  obtain ⟨c0, c1, c2, c3, c4, c5, c6, c7, c8, c9, c10⟩ := cm_cells a1
  have d2 := a2.cell (k := 2) rfl
  unfold Cm.val Rp.val
  clear h h' a1 a2 O1 O2 c0 c1 c2 c3 c4 c5 c6 c10
  go_enter Try.func30, Try.ntmps30
  by_cases a1 : 500 < c.fd.length
  · have da1 : decide ((500 : Int) < (c.fd.length : Int)) = true := by simp; omega
    go_wp2_with fail
    go_ret
    exact SmW.f rfl HO.out
  have da1 : decide ((500 : Int) < (c.fd.length : Int)) = false := by simp; omega
  by_cases a2 : 500 < c.id.length
  · have da2 : decide ((500 : Int) < (c.id.length : Int)) = true := by simp; omega
    go_wp2_with fail
    go_ret
    exact SmW.f rfl HO.out
  have da2 : decide ((500 : Int) < (c.id.length : Int)) = false := by simp; omega
  by_cases a3 : 120 < c.its.length
  · have da3 : decide ((120 : Int) < (c.its.length : Int)) = true := by simp; omega
    go_wp2_with fail
    go_ret
    exact SmW.f rfl HO.out
  have da3 : decide ((120 : Int) < (c.its.length : Int)) = false := by simp; omega
  by_cases a4 : 120 < r.ps.length
  · have da4 : decide ((120 : Int) < (r.ps.length : Int)) = true := by simp; omega
    go_wp2_with fail
    go_ret
    exact SmW.f rfl HO.out
  have da4 : decide ((120 : Int) < (r.ps.length : Int)) = false := by simp; omega
  go_wp2_with fail
  (try clear hw1 hw2 hz1 hz2)
  go_loop [5] (fun i => ∃ k : Nat, k ≤ c.its.length ∧ i = .int .i64 k ∧ Hid (∀ j x, j < k → c.its[j]? = some x → x.To 800)) (fun i => c.its.length - (intOf i).toNat)
  case atStart => exact ⟨0, by omega, rfl, Lib.hid fun j x hj => by omega⟩
  case round =>
    obtain ⟨k, hk, rfl, hall⟩ := hrel
    by_cases hlt : k < c.its.length
    · have hlt' : (k : Int) < (c.its.length : Int) := by omega
      obtain ⟨x, hx⟩ : ∃ x, c.its[k]? = some x := ⟨_, List.getElem?_eq_getElem hlt⟩
      obtain ⟨b1, o1, c1', e1, q0, q1, q2⟩ := itL_at (H1.out.only HO.out (Nat.le_refl _) (by simp)) hx
      injection e1 with i1 i2 i3
      subst i1
      subst i3
      have hxl := HL1.out x (List.mem_of_getElem? hx)
      have x1 := hxl.id
      have x2 := hxl.ti
      have x3 := hxl.li
      unfold maxLen at x1 x2 x3
      have HX := Lib.hid hx
      clear i2 hx hxl
      by_cases b1' : 800 < x.id.length
      · have e1' : decide ((800 : Int) < (x.id.length : Int)) = true := by simp; omega
        go_wp2_with fail
        go_ret
        exact SmW.f rfl HO.out
      have e1' : decide ((800 : Int) < (x.id.length : Int)) = false := by simp; omega
      by_cases b2' : 800 < x.ti.length
      · have e2' : decide ((800 : Int) < (x.ti.length : Int)) = true := by simp; omega
        go_wp2_with fail
        go_ret
        exact SmW.f rfl HO.out
      have e2' : decide ((800 : Int) < (x.ti.length : Int)) = false := by simp; omega
      by_cases b3' : 800 < x.li.length
      · have e3' : decide ((800 : Int) < (x.li.length : Int)) = true := by simp; omega
        go_wp2_with fail
        go_ret
        exact SmW.f rfl HO.out
      have e3' : decide ((800 : Int) < (x.li.length : Int)) = false := by simp; omega
      have hn : Hid (∀ j y, j < k + 1 → c.its[j]? = some y → y.To 800) := Lib.hid fun j y hj hy => by
        by_cases hjk : j < k
        · exact hall.out j y hjk hy
        · obtain rfl : j = k := by omega
          rw [HX.out] at hy
          injection hy with hy
          subst hy
          exact ⟨by omega, by omega, by omega⟩
      go_wp2_with fail
      go_round
      case rel => exact ⟨k + 1, by omega, by go_num, hn⟩
      case measure => simp [intOf]; omega
    · have hd : decide ((k : Int) < (c.its.length : Int)) = false := by simp; omega
      obtain rfl : k = c.its.length := by omega
      have HALL : Hid (∀ x ∈ c.its, x.To 800) := Lib.hid (fun x hx => by
        obtain ⟨j, hj⟩ := List.getElem?_of_mem hx
        exact hall.out j x (by have := (List.getElem?_eq_some_iff.1 hj).1; omega) hj)
      clear hall hlt
      go_wp2_with fail
      (try clear hw1 hw2 hz1 hz2)
      go_loopw [6, 7] (fun i _ wr => ∃ k : Nat, k ≤ r.ps.length ∧ i = .int .i64 k ∧ Hid (∀ j x, j < k → r.ps[j]? = some x → x.it.To 300) ∧ Hid (Cells wr z2 67 [.int .i64 r.er, .int .i64 r.n, .slice JA r.ps.length jc]) ∧ Hid (Only [] w wr)) (fun i _ _ => r.ps.length - (intOf i).toNat)
      case atStart => exact ⟨0, by omega, rfl, Lib.hid (fun j x hj => by omega), HZ2, HO⟩
      case round =>
        obtain ⟨k, hk, rfl, hall, hz2, ho⟩ := hrel
        have d2 := hz2.out.cell (k := 2) rfl
        by_cases hlt : k < r.ps.length
        · have hlt' : (k : Int) < (r.ps.length : Int) := by omega
          obtain ⟨x, hx⟩ : ∃ x, r.ps[k]? = some x := ⟨_, List.getElem?_eq_getElem hlt⟩
          obtain ⟨b1, o1, c1', e1, q0, q1, q2, q3, q4⟩ := poL_at (H2.out.only ho.out (Nat.le_refl _) (by simp)) rfl hx
          injection e1 with i1 i2 i3
          subst i1
          subst i3
          have hxl := HL2.out x (List.mem_of_getElem? hx)
          have x1 := hxl.id
          have x2 := hxl.ti
          have x3 := hxl.li
          unfold maxLen at x1 x2 x3
          have HX := Lib.hid hx
          clear i2 hx hxl
          by_cases b1' : 300 < x.it.id.length
          · have e1' : decide ((300 : Int) < (x.it.id.length : Int)) = true := by simp; omega
            go_wp2_with fail
            go_ret
            exact SmW.f rfl (ho.out.alloc _)
          have e1' : decide ((300 : Int) < (x.it.id.length : Int)) = false := by simp; omega
          by_cases b2' : 300 < x.it.ti.length
          · have e2' : decide ((300 : Int) < (x.it.ti.length : Int)) = true := by simp; omega
            go_wp2_with fail
            go_ret
            exact SmW.f rfl (ho.out.alloc _)
          have e2' : decide ((300 : Int) < (x.it.ti.length : Int)) = false := by simp; omega
          by_cases b3' : 300 < x.it.li.length
          · have e3' : decide ((300 : Int) < (x.it.li.length : Int)) = true := by simp; omega
            go_wp2_with fail
            go_ret
            exact SmW.f rfl (ho.out.alloc _)
          have e3' : decide ((300 : Int) < (x.it.li.length : Int)) = false := by simp; omega
          have hn : Hid (∀ j y, j < k + 1 → r.ps[j]? = some y → y.it.To 300) := Lib.hid fun j y hj hy => by
            by_cases hjk : j < k
            · exact hall.out j y hjk hy
            · obtain rfl : j = k := by omega
              rw [HX.out] at hy
              injection hy with hy
              subst hy
              exact ⟨by omega, by omega, by omega⟩
          have hz2' := Lib.hid (hz2.out.alloc (.cells #[.string ⟨x.it.id.toArray⟩, .string ⟨x.it.ti.toArray⟩, .string ⟨x.it.li.toArray⟩] 36))
          have ho' := Lib.hid (ho.out.alloc (.cells #[.string ⟨x.it.id.toArray⟩, .string ⟨x.it.ti.toArray⟩, .string ⟨x.it.li.toArray⟩] 36))
          go_wp2_with fail
          go_roundw
          case rel => exact ⟨k + 1, by omega, by go_num, hn, hz2', ho'⟩
          case measure => simp [intOf]; omega
        · have hd : decide ((k : Int) < (r.ps.length : Int)) = false := by simp; omega
          have hyes : Hid (Sm18 c r) := Lib.hid ⟨by omega, by omega, by omega, by omega, HALL.out, fun x hx => by
            obtain ⟨j, hj⟩ := List.getElem?_of_mem hx
            exact hall.out j x (by have := (List.getElem?_eq_some_iff.1 hj).1; omega) hj⟩
          go_wp2_with fail
          go_ret
          exact SmW.t rfl hyes.out ho.out
end Go.Proofs.Ytjfnkjpnjiobjaa
