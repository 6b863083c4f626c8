/-
  Chapter 16: the document's table: Grant.
-/
import Derived.Test.YtlonaniomnalnaaRf16
import Derived.Test.YtlonaniomnalnaaQTail
namespace Go.Proofs.Ytlonaniomnalnaa
open Go.RowKit
def rbv (v : Value) : List Nat := v.ownBlock.toList
theorem row_set (w : World) (base g cap n k : Nat) (e : TypeId) (ls : List Ls) (x : Ls) (h : w.ownsRow base e 3 (.slice (some ⟨g, 0, none⟩) n cap) n (ls.flatMap Ls.cells)) (hk : ls[k]? = some x) (y : Ls) :
    (((w.setCell ⟨g, k * 3, none⟩ (.int .i64 y.node)).setCell ⟨g, k * 3 + 1, none⟩ (.int .i64 y.epoch)).setCell ⟨g, k * 3 + 2, none⟩ (.int .i64 y.till)).ownsRow base e 3 (.slice (some ⟨g, 0, none⟩) n cap) n ((ls.set k y).flatMap Ls.cells) := by
  have hkl : k < ls.length := (List.getElem?_eq_some_iff.1 hk).1
  have h1 := (h.stored (k * 3) (.int .i64 y.node)).1
  rw [show k * 3 = k * 3 + 0 from rfl, flat_set Ls.cells 3 Ls.cells_length ls k 0 x ⟨y.node, x.epoch, x.till⟩ _ hk (by omega) rfl] at h1
  have h2 := (h1.stored (k * 3 + 1) (.int .i64 y.epoch)).1
  rw [flat_set Ls.cells 3 Ls.cells_length _ k 1 ⟨y.node, x.epoch, x.till⟩ ⟨y.node, y.epoch, x.till⟩ _ (by simp [hkl]) (by omega) rfl] at h2
  have h3 := (h2.stored (k * 3 + 2) (.int .i64 y.till)).1
  rw [flat_set Ls.cells 3 Ls.cells_length _ k 2 ⟨y.node, y.epoch, x.till⟩ ⟨y.node, y.epoch, y.till⟩ _ (by simp [hkl]) (by omega) rfl] at h3
  simpa using h3
/-- The table's row with one lease set. -/
theorem RfV.put {w : World} {B b g cap k : Nat} {t : Tb} {x : Ls} (h : RfV w B b (.slice (some ⟨g, 0, none⟩) 8 cap) t) (hx : t.l[k]? = some x) (hne : g ≠ b) (y : Ls) :
    RfV (((w.setCell ⟨g, k * 3, none⟩ (.int .i64 y.node)).setCell ⟨g, k * 3 + 1, none⟩ (.int .i64 y.epoch)).setCell ⟨g, k * 3 + 2, none⟩ (.int .i64 y.till)) B b (.slice (some ⟨g, 0, none⟩) 8 cap) ⟨t.now, t.l.set k y⟩ :=
  ⟨h.ge, ((h.cells.far (p := ⟨g, k * 3, none⟩) (Ne.symm hne) _).far (p := ⟨g, k * 3 + 1, none⟩) (Ne.symm hne) _).far (p := ⟨g, k * 3 + 2, none⟩) (Ne.symm hne) _, row_set w B g cap 8 k _ t.l x h.own hx y, by simpa using h.len⟩
theorem RfV.frozen {w : World} {B b g cap : Nat} {t : Tb} (h : RfV w B b (.slice (some ⟨g, 0, none⟩) 8 cap) t) (j : Nat) : w.frozen? ⟨g, j, none⟩ = false := h.own.frozenAt _
set_option maxRecDepth 100000 in
set_option maxHeartbeats 1000000 in
theorem rf_grant_new (B b k : Nat) (v : Value) (t : Tb) (x : Ls) (node : Int) (w : World) (h : RfV w B b v t) (hx : t.l[k]? = some x) (hk : k < 8) (n1 : 1 ≤ node) (n9 : node ≤ 9)
    (h0 : -4611686018427387904 ≤ t.now) (h1 : t.now ≤ 4611686018427387904) (e0 : -4611686018427387904 ≤ x.epoch) (e1 : x.epoch ≤ 4611686018427387904) (hl : x.till ≤ t.now) :
    Calls Try.prog 38 #[.pointer (some ⟨b, 0, none⟩), .int .i64 k, .int .i64 node] w fun e w' =>
      e = .returned (.tuple #[.int .i64 (x.epoch + 1), .int .i64 0]) ∧ Only (rbv v) w w' ∧ RfV w' B b v ⟨t.now, t.l.set k ⟨node, x.epoch + 1, t.now + 6⟩⟩ := by
  have CI := Lib.hid (fun w => rf_is_in k hk w)
  have d1 : decide (node < 1) = false := by simp; omega
  have d2 : decide (9 < node) = false := by simp; omega
  have CL := Lib.hid (fun w' (ho : Only [] w w') => rf_live B b v t k x w' (h.only ho) hk hx false (by simp; omega))
  have HR := Lib.hid h
  have HK := Lib.hid hx
  obtain ⟨g, cap, rfl, hB, hlt, hgb, hc⟩ := h.form
  obtain ⟨q0, q1, q2⟩ := hc k _ hx
  have c1 := h.cells.cell (k := 1) rfl
  have hbl := h.cells.lt
  have hk' : (k : Int) < 8 := by omega
  have hoA : Only [] w (w.alloc (.cells #[.int .i64 x.node, .int .i64 x.epoch, .int .i64 x.till] 64)) := (Only.refl _ _).alloc _
  have HX := Lib.hid (Cells.new w 64 [.int .i64 x.node, .int .i64 x.epoch, .int .i64 x.till])
  clear hc h hx hl
  go_enter Try.func38, Try.ntmps38
  go_wp2_with (first
    | (go_at_call 52; refine (CI.out _).mono ?_; rintro e w' ⟨rfl, rfl⟩)
    | (go_at_call 53; refine (CL.out _ hoA).mono ?_; rintro e w1 ⟨rfl, ho1⟩; have HX1 := HX.out.only ho1 (by simp); have r0 := HX1.cell (k := 0) rfl; have r1 := HX1.cell (k := 1) rfl; have r2 := HX1.cell (k := 2) rfl; have z0 := HX1.frozen 0; have z1 := HX1.frozen 1; have z2 := HX1.frozen 2; have zl := HX1.lt; have m0 := HR.out.cells.only (hoA.tr ho1) (by simp); have m1 := m0.cell (k := 0) rfl; have m2 := m0.cell (k := 1) rfl; clear m0; have hne : b ≠ w.heap.size := by omega))
  obtain ⟨w9, hw9⟩ : ∃ w9, w9 = ((((w1.setCell ⟨w.heap.size, 0, none⟩ (.int .i64 node)).setCell ⟨w.heap.size, 1, none⟩ (.int .i64 (x.epoch + 1))).setCell ⟨w.heap.size, 2, none⟩ (.int .i64 0)).setCell ⟨w.heap.size, 2, none⟩ (.int .i64 (t.now + 6))) := ⟨_, rfl⟩
  have HX9 : Cells w9 w.heap.size 64 [.int .i64 node, .int .i64 (x.epoch + 1), .int .i64 (t.now + 6)] := by rw [hw9]; exact (((HX1.set 0 _).set 1 _).set 2 _).set 2 _
  have hO9 : Only [] w w9 := by rw [hw9]; exact ((((hoA.tr ho1).setCell (.inr (Nat.le_refl _)) _).setCell (.inr (Nat.le_refl _)) _).setCell (.inr (Nat.le_refl _)) _).setCell (.inr (Nat.le_refl _)) _
  rw [← hw9]
  clear hw9 m1 m2 r0 r1 r2 z0 z1 z2 zl HX1 ho1 hoA HX CL CI q0 q1 q2 c1
  have HR9 := Lib.hid (HR.out.only hO9)
  have c1 := fun u : Since w9 => u.cell (HR9.out.cells.cell (k := 1) rfl)
  have y0 := fun u : Since w9 => u.cell (HX9.cell (k := 0) rfl)
  have y1 := fun u : Since w9 => u.cell (HX9.cell (k := 1) rfl)
  have y2 := fun u : Since w9 => u.cell (HX9.cell (k := 2) rfl)
  refine wp_region_only_tail w9 (Only.refl _ _) 7 (by kernel_rfl) (by kernel_rfl) ?_
  simp only [List.take_succ_cons, List.take_zero, List.drop_succ_cons, List.drop_zero]
  repeat (go_big_quiet_step (fail))
  refine wpQuiet_nil ?_
  rintro ⟨w10, ho10⟩
  dsimp only
  clear c1 y0 y1 y2
  have HR10 := Lib.hid (HR9.out.only ho10)
  have HX10 := HX9.only ho10 (by simp)
  have f0 := HR10.out.frozen (k * 3)
  have f1 := HR10.out.frozen (k * 3 + 1)
  have f2 := HR10.out.frozen (k * 3 + 2)
  obtain ⟨g', cap', e', hB', hlt', hgb', hc'⟩ := HR10.out.form
  injection e' with e1' e2' e3'
  injection e1' with e1'
  injection e1' with e1'
  subst e1'
  subst e3'
  obtain ⟨q0, q1, q2⟩ := hc' k x HK.out
  have hgs : g ≠ w.heap.size := by omega
  have s1 : (((w10.setCell ⟨g, k * 3, none⟩ (.int .i64 node)).setCell ⟨g, k * 3 + 1, none⟩ (.int .i64 (x.epoch + 1))).setCell ⟨g, k * 3 + 2, none⟩ (.int .i64 (t.now + 6))).cell? ⟨w.heap.size, 1, none⟩ = some (.int .i64 (x.epoch + 1)) :=
    (((HX10.far (p := ⟨g, k * 3, none⟩) (Ne.symm hgs) _).far (p := ⟨g, k * 3 + 1, none⟩) (Ne.symm hgs) _).far (p := ⟨g, k * 3 + 2, none⟩) (Ne.symm hgs) _).cell (k := 1) rfl
  clear hc'
  go_wp2_with fail
  go_ret2
  exact ⟨rfl, (((hO9.tr0 ho10).of0.setCell (.inl (by simp [rbv, Value.ownBlock])) _).setCell (.inl (by simp [rbv, Value.ownBlock])) _).setCell (.inl (by simp [rbv, Value.ownBlock])) _, HR10.out.put HK.out hgb ⟨node, x.epoch + 1, t.now + 6⟩⟩
set_option maxRecDepth 100000 in
set_option maxHeartbeats 1000000 in
theorem rf_grant_again (B b k : Nat) (v : Value) (t : Tb) (x : Ls) (w : World) (h : RfV w B b v t) (hx : t.l[k]? = some x) (hk : k < 8) (n1 : 1 ≤ x.node) (n9 : x.node ≤ 9)
    (h0 : -4611686018427387904 ≤ t.now) (h1 : t.now ≤ 4611686018427387904) (hl : t.now < x.till) :
    Calls Try.prog 38 #[.pointer (some ⟨b, 0, none⟩), .int .i64 k, .int .i64 x.node] w fun e w' =>
      e = .returned (.tuple #[.int .i64 (x.epoch), .int .i64 0]) ∧ Only (rbv v) w w' ∧ RfV w' B b v ⟨t.now, t.l.set k ⟨x.node, x.epoch, t.now + 6⟩⟩ := by
  have CI := Lib.hid (fun w => rf_is_in k hk w)
  have d1 : decide (x.node < 1) = false := by simp; omega
  have d2 : decide (9 < x.node) = false := by simp; omega
  have CL := Lib.hid (fun w' (ho : Only [] w w') => rf_live B b v t k x w' (h.only ho) hk hx true (by simpa using hl))
  have HR := Lib.hid h
  have HK := Lib.hid hx
  obtain ⟨g, cap, rfl, hB, hlt, hgb, hc⟩ := h.form
  obtain ⟨q0, q1, q2⟩ := hc k _ hx
  have c1 := h.cells.cell (k := 1) rfl
  have hbl := h.cells.lt
  have hk' : (k : Int) < 8 := by omega
  have hoA : Only [] w (w.alloc (.cells #[.int .i64 x.node, .int .i64 x.epoch, .int .i64 x.till] 64)) := (Only.refl _ _).alloc _
  have HX := Lib.hid (Cells.new w 64 [.int .i64 x.node, .int .i64 x.epoch, .int .i64 x.till])
  clear hc h hx hl
  go_enter Try.func38, Try.ntmps38
  go_wp2_with (first
    | (go_at_call 52; refine (CI.out _).mono ?_; rintro e w' ⟨rfl, rfl⟩)
    | (go_at_call 53; refine (CL.out _ hoA).mono ?_; rintro e w1 ⟨rfl, ho1⟩; have HX1 := HX.out.only ho1 (by simp); have r0 := HX1.cell (k := 0) rfl; have r1 := HX1.cell (k := 1) rfl; have r2 := HX1.cell (k := 2) rfl; have z0 := HX1.frozen 0; have z1 := HX1.frozen 1; have z2 := HX1.frozen 2; have zl := HX1.lt; have m0 := HR.out.cells.only (hoA.tr ho1) (by simp); have m1 := m0.cell (k := 0) rfl; have m2 := m0.cell (k := 1) rfl; clear m0; have hne : b ≠ w.heap.size := by omega))
  obtain ⟨w9, hw9⟩ : ∃ w9, w9 = w1.setCell ⟨w.heap.size, 2, none⟩ (.int .i64 (t.now + 6)) := ⟨_, rfl⟩
  have HX9 : Cells w9 w.heap.size 64 [.int .i64 x.node, .int .i64 (x.epoch), .int .i64 (t.now + 6)] := by rw [hw9]; exact HX1.set 2 _
  have hO9 : Only [] w w9 := by rw [hw9]; exact (hoA.tr ho1).setCell (.inr (Nat.le_refl _)) _
  rw [← hw9]
  clear hw9 m1 m2 r0 r1 r2 z0 z1 z2 zl HX1 ho1 hoA HX CL CI q0 q1 q2 c1
  have HR9 := Lib.hid (HR.out.only hO9)
  have c1 := fun u : Since w9 => u.cell (HR9.out.cells.cell (k := 1) rfl)
  have y0 := fun u : Since w9 => u.cell (HX9.cell (k := 0) rfl)
  have y1 := fun u : Since w9 => u.cell (HX9.cell (k := 1) rfl)
  have y2 := fun u : Since w9 => u.cell (HX9.cell (k := 2) rfl)
  refine wp_region_only_tail w9 (Only.refl _ _) 7 (by kernel_rfl) (by kernel_rfl) ?_
  simp only [List.take_succ_cons, List.take_zero, List.drop_succ_cons, List.drop_zero]
  repeat (go_big_quiet_step (fail))
  refine wpQuiet_nil ?_
  rintro ⟨w10, ho10⟩
  dsimp only
  clear c1 y0 y1 y2
  have HR10 := Lib.hid (HR9.out.only ho10)
  have HX10 := HX9.only ho10 (by simp)
  have f0 := HR10.out.frozen (k * 3)
  have f1 := HR10.out.frozen (k * 3 + 1)
  have f2 := HR10.out.frozen (k * 3 + 2)
  obtain ⟨g', cap', e', hB', hlt', hgb', hc'⟩ := HR10.out.form
  injection e' with e1' e2' e3'
  injection e1' with e1'
  injection e1' with e1'
  subst e1'
  subst e3'
  obtain ⟨q0, q1, q2⟩ := hc' k x HK.out
  have hgs : g ≠ w.heap.size := by omega
  have s1 : (((w10.setCell ⟨g, k * 3, none⟩ (.int .i64 x.node)).setCell ⟨g, k * 3 + 1, none⟩ (.int .i64 (x.epoch))).setCell ⟨g, k * 3 + 2, none⟩ (.int .i64 (t.now + 6))).cell? ⟨w.heap.size, 1, none⟩ = some (.int .i64 (x.epoch)) :=
    (((HX10.far (p := ⟨g, k * 3, none⟩) (Ne.symm hgs) _).far (p := ⟨g, k * 3 + 1, none⟩) (Ne.symm hgs) _).far (p := ⟨g, k * 3 + 2, none⟩) (Ne.symm hgs) _).cell (k := 1) rfl
  clear hc'
  go_wp2_with fail
  go_ret2
  exact ⟨rfl, (((hO9.tr0 ho10).of0.setCell (.inl (by simp [rbv, Value.ownBlock])) _).setCell (.inl (by simp [rbv, Value.ownBlock])) _).setCell (.inl (by simp [rbv, Value.ownBlock])) _, HR10.out.put HK.out hgb ⟨x.node, x.epoch, t.now + 6⟩⟩
theorem RfV.far {S : List Nat} {w w' : World} {B b : Nat} {v : Value} {t : Tb} (h : RfV w B b v t) (ho : Only S w w') (hS : ∀ x, x ∈ S → x < B) : RfV w' B b v t :=
  ⟨h.ge, h.cells.only ho (fun hx => by have := hS _ hx; have := h.ge; omega), own_only h.own ho hS, h.len⟩
theorem rf_grant (B b : Nat) (v : Value) (t : Tb) (n node : Int) (w : World) (h : RfV w B b v t) (ht : t.small) :
    Calls Try.prog 38 #[.pointer (some ⟨b, 0, none⟩), .int .i64 n, .int .i64 node] w fun e w' =>
      e = .returned (.tuple #[.int .i64 (t.grant n node).2.1, .int .i64 (t.grant n node).2.2]) ∧ Only (rbv v) w w' ∧ RfV w' B b v (t.grant n node).1 := by
  by_cases hh : 0 ≤ n ∧ n < 8 ∧ 1 ≤ node ∧ node ≤ 9
  · obtain ⟨k, rfl⟩ := Int.eq_ofNat_of_zero_le hh.1
    have hg := t.get_in ht.len k (by omega)
    have he := ht.e0 _ (List.mem_of_getElem? hg)
    have hn0 := ht.n0
    have hn1 := ht.n1
    by_cases hl : t.now < (t.get k).till
    · by_cases hn : (t.get k).node = node
      · subst hn
        rw [show t.grant k (t.get k).node = (⟨t.now, t.l.set k ⟨(t.get k).node, (t.get k).epoch, t.now + 6⟩⟩, (t.get k).epoch, 0) from by
          unfold Tb.grant; rw [if_pos hh, if_pos hl, if_pos rfl, Int.toNat_natCast]]
        exact rf_grant_again B b k v t _ w h hg (by omega) (by omega) (by omega) (by omega) (by omega) hl
      · rw [show t.grant k node = (t, 0, 16) from by unfold Tb.grant; rw [if_pos hh, if_pos hl, if_neg hn]]
        exact (rf_grant_held B b k v t _ node w h hg (by omega) (by omega) (by omega) hn hl).mono fun e w' ⟨h1, h2⟩ => ⟨h1, h2.of0, h.only h2⟩
    · rw [show t.grant k node = (⟨t.now, t.l.set k ⟨node, (t.get k).epoch + 1, t.now + 6⟩⟩, (t.get k).epoch + 1, 0) from by
          unfold Tb.grant; rw [if_pos hh, if_neg hl, Int.toNat_natCast]]
      exact rf_grant_new B b k v t _ node w h hg (by omega) (by omega) (by omega) (by omega) (by omega) (by omega) (by omega) (by omega)
  · rw [show t.grant n node = (t, 0, 2) from by unfold Tb.grant; rw [if_neg hh]]
    refine (rf_grant_err b n node w (by omega)).mono ?_
    rintro e w' ⟨h1, rfl⟩
    exact ⟨h1, Only.refl _ _, h⟩
end Go.Proofs.Ytlonaniomnalnaa
