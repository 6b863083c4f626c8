/-
  Chapter 6: package net: Split, Whole, New, Lost, Flight.
-/
import Derived.Test.YtllapfpakoobcaaNet5
import Derived.Laws.EntriesVeiled
namespace Go.Proofs.Ytllapfpakoobcaa
open Go.RowKit
theorem net_lost (B b : Nat) (v f : Value) (s : NS) (w : World) (h : NetV w B b v f s) :
    Calls Try.prog 17 #[.pointer (some ⟨b, 0, none⟩)] w fun e w' => e = .returned (.int .i64 s.lost) ∧ w = w' := by
  have c2 : w.cell? ⟨b, 2, none⟩ = some (.int .i64 s.lost) := h.cells.cell (k := 2) rfl
  clear h
  go_enter Try.func17, Try.ntmps17
  go_wp2_with fail
  go_ret
  exact ⟨rfl, rfl⟩
theorem net_flight (B b : Nat) (v f : Value) (s : NS) (w : World) (h : NetV w B b v f s) :
    Calls Try.prog 18 #[.pointer (some ⟨b, 0, none⟩)] w fun e w' => ∃ v', e = .returned v' ∧ w'.ownsRow w.heap.size 37 3 v' s.l.length (ltL s.l) ∧ Only [] w w' := by
  have c0 := h.cells.cell (k := 0) rfl
  have CC := Lib.hid (clone_let v s.l w.heap.size w (Nat.le_refl _) (by have := h.len; omega) (SlAt.of_own h.own))
  clear h
  go_enter Try.func18, Try.ntmps18
  go_wp2_with fail
  refine CC.out.mono ?_
  rintro e w1 ⟨v', rfl, hr, ho⟩
  go_wp2_with fail
  go_ret
  exact ⟨v', rfl, hr, ho⟩
theorem whole_cells (b : Nat) (v f : Value) (n : Int) (w : World) (h : Cells w b 57 [v, f, .int .i64 n]) (hf : w.cell? ⟨b, 1, none⟩ = some f) :
    Calls Try.prog 23 #[.pointer (some ⟨b, 0, none⟩)] w fun e w' => e = .returned (.tuple #[]) ∧ Cells w' b 57 [v, .func (.func 39) #[] #[], .int .i64 n] ∧ Only [b] w w' := by
  have f1 := h.frozen 1
  have H := Lib.hid h
  clear h
  go_enter Try.func23, Try.ntmps23
  go_wp2_with fail
  go_end0
  exact ⟨rfl, H.out.set 1 _, (Only.refl _ _).setCell (.inl (by simp)) _⟩
theorem net_whole (B b : Nat) (v f : Value) (s : NS) (w : World) (h : NetV w B b v f s) :
    Calls Try.prog 23 #[.pointer (some ⟨b, 0, none⟩)] w fun e w' => e = .returned (.tuple #[]) ∧ ∃ f', NetV w' B b v f' ⟨s.l, [], s.lost⟩ ∧ Only (b :: rb v) w w' :=
  (whole_cells b v f s.lost w h.cells (h.cells.cell (k := 1) rfl)).mono fun e w' ⟨h1, h2, h3⟩ =>
    ⟨h1, _, ⟨h.ge, h2, own_keep h.own h3 (fun x hx => by simp at hx; subst hx; exact own_ne_block h.own h.cells (by decide)), .inl ⟨rfl, rfl⟩, h.len⟩, h3.mono fun x hx => .inl (by simp at hx; simp [hx])⟩
set_option maxRecDepth 100000 in
theorem net_new (w : World) : Calls Try.prog 10 #[] w fun e w' => ∃ f, e = .returned (.pointer (some ⟨w.heap.size, 0, none⟩)) ∧ NetV w' w.heap.size w.heap.size (.slice none 0 0) f ⟨[], [], 0⟩ ∧ Only [] w w' := by
  go_enter Try.func10, Try.ntmps10
  go_wp2_with fail
  refine (whole_cells w.heap.size (.slice none 0 0) .nilFunc 0 _ (Cells.new _ _ _) ((Cells.new w _ [.slice none 0 0, .nilFunc, .int .i64 0]).cell (k := 1) rfl)).mono ?_
  rintro e w1 ⟨rfl, h1, h2⟩
  go_wp2_with fail
  go_ret
  exact ⟨_, rfl, ⟨Nat.le_refl _, h1, World.ownsRow_nil _ _ _ _, .inl ⟨rfl, rfl⟩, by simp⟩, ((Only.refl _ _).alloc _).trans h2 (fun y hy => .inr (by simp at hy; omega))⟩
set_option maxRecDepth 100000 in
set_option maxHeartbeats 1000000 in
theorem net_split (B b B' : Nat) (v f gv : Value) (g : List Int) (s : NS) (w : World) (h : NetV w B b v f s) (hB : B' ≤ w.heap.size) (hg : SlAt w B' gv 1 g.length (gvs g)) (hgl : g.length ≤ 1000000) :
    Calls Try.prog 21 #[.pointer (some ⟨b, 0, none⟩), gv] w fun e w' => e = .returned (.tuple #[]) ∧ ∃ f', NetV w' B b v f' ⟨s.l, g, s.lost⟩ ∧ Only (b :: rb v) w w' := by
  have hoA : Only [] w (w.alloc (.cells #[gv] 29)) := (Only.refl _ _).alloc _
  have CC := Lib.hid (clone_int gv g B' (w.alloc (.cells #[gv] 29)) (by simp; omega) (by omega) (hg.only hoA hB (by simp)))
  have hX := Cells.new w 29 [gv]
  have HH := Lib.hid h
  have hBw : B ≤ w.heap.size := Nat.le_of_lt (Nat.lt_of_le_of_lt h.ge h.cells.lt)
  have hbz : b ≠ w.heap.size := Nat.ne_of_lt h.cells.lt
  obtain ⟨A, c, rfl⟩ := hg.shape
  clear h hg
  go_enter Try.func21, Try.ntmps21
  have x0 := hX.cell (k := 0) rfl
  go_wp2_with fail
  refine CC.out.mono ?_
  rintro e w1 ⟨v1, rfl, hr1, ho1⟩
  obtain ⟨A1, c1, rfl⟩ := (SlAt.of_own hr1).shape
  have hX1 := hX.only ho1 (by simp)
  have y0 := hX1.cell (k := 0) rfl
  have yf := hX1.frozen 0
  have yl := hX1.lt
  have hN1 := HH.out.only (hoA.tr ho1)
  have b1 := hN1.cells.cell (k := 1) rfl
  have bf := hN1.cells.frozen 1
  have HN1 := Lib.hid hN1
  have HX1 := Lib.hid hX1
  clear hN1 hX1
  go_wp2_with fail
  go_end0
  have hs1 : (w.alloc (.cells #[.slice A g.length c] 29)).heap.size = w.heap.size + 1 := by simp
  have ho0 := hoA.tr ho1
  have hr2 : w1.ownsRow B 3 1 (.slice A1 g.length c1) g.length (gvs g) := ⟨hr1.1, hr1.2.imp_right fun ⟨q, cap, cur, e1, e2, e3⟩ => ⟨q, cap, cur, e1, by omega, e3⟩⟩
  have hoZ : Only [w.heap.size] w1 (w1.setCell ⟨w.heap.size, 0, none⟩ (.slice A1 g.length c1)) := (Only.refl _ _).setCell (.inl (by simp)) _
  have hoB : Only [b] (w1.setCell ⟨w.heap.size, 0, none⟩ (.slice A1 g.length c1)) ((w1.setCell ⟨w.heap.size, 0, none⟩ (.slice A1 g.length c1)).setCell ⟨b, 1, none⟩ (.func (.func 35) #[] #[.pointer (some ⟨w.heap.size, 0, none⟩)])) := (Only.refl _ _).setCell (.inl (by simp)) _
  have hc2 := HN1.out.cells.only hoZ (by simpa using hbz)
  have hX2 : Cells (w1.setCell ⟨w.heap.size, 0, none⟩ (.slice A1 g.length c1)) w.heap.size 29 [.slice A1 g.length c1] := HX1.out.set 0 _
  have hr3 := own_keep hr2 hoZ (fun y hy => by simp at hy; subst hy; exact own_ne_block hr2 HX1.out (by decide))
  have hr4 := own_keep hr3 hoB (fun y hy => by simp at hy; subst hy; exact own_ne_block hr3 hc2 (by decide))
  have ho3 := own_keep HN1.out.own hoZ (fun y hy => by simp at hy; subst hy; exact own_ne_block HN1.out.own HX1.out (by decide))
  have ho4 := own_keep ho3 hoB (fun y hy => by simp at hy; subst hy; exact own_ne_block ho3 hc2 (by decide))
  refine ⟨rfl, _, ⟨HH.out.ge, hc2.set 1 _, ho4, .inr ⟨w.heap.size, _, rfl, hBw, hX2.only hoB (by simpa using Ne.symm hbz), hr4, hgl⟩, HH.out.len⟩, ?_⟩
  exact (ho0.of0.trans hoZ (fun y hy => .inr (by simp at hy; omega))).trans hoB (fun y hy => .inl (by simp at hy; simp [hy]))
end Go.Proofs.Ytllapfpakoobcaa
