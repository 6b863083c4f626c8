/-
  Chapter 16: the document's table.
-/
import Derived.Test.YtlonaniomnalnaaLaw16c
import Derived.Test.YtlonaniomnalnaaRef1i
import Derived.Deep.RegionWith
namespace Go.Proofs.Ytlonaniomnalnaa
open Go.RowKit
/-- Block b is the document's table t, whose row is the value v; all from block B on. -/
structure RfV (w : World) (B b : Nat) (v : Value) (t : Tb) : Prop where
  ge : B ≤ b
  cells : Cells w b 63 [.int .i64 t.now, v]
  own : w.ownsRow B 64 3 v 8 (t.l.flatMap Ls.cells)
  len : t.l.length = 8
theorem flat_ls (l : List Ls) (k : Nat) (x : Ls) (h : l[k]? = some x) (j : Nat) (hj : j < 3) : (l.flatMap Ls.cells)[k * 3 + j]? = x.cells[j]? := flat_get Ls.cells 3 (fun _ => rfl) l k j x h hj
theorem RfV.only {w w' : World} {B b : Nat} {v : Value} {t : Tb} (h : RfV w B b v t) (ho : Only [] w w') : RfV w' B b v t :=
  ⟨h.ge, h.cells.only ho (by simp), own_only h.own ho (by simp), h.len⟩
theorem RfV.form {w : World} {B b : Nat} {v : Value} {t : Tb} (h : RfV w B b v t) : ∃ g cap, v = .slice (some ⟨g, 0, none⟩) 8 cap ∧ B ≤ g ∧ g < w.heap.size ∧ g ≠ b ∧
    ∀ (k : Nat) (x : Ls), t.l[k]? = some x → w.cell? ⟨g, k * 3, none⟩ = some (.int .i64 x.node) ∧ w.cell? ⟨g, k * 3 + 1, none⟩ = some (.int .i64 x.epoch) ∧ w.cell? ⟨g, k * 3 + 2, none⟩ = some (.int .i64 x.till) := by
  obtain ⟨g, cap, rfl⟩ := own_form h.own (by omega)
  have hne := own_ne h.own h.cells (by decide)
  have hlt := h.own.lt g rfl
  refine ⟨g, cap, rfl, hlt.1, hlt.2, hne, fun k x hx => ?_⟩
  have key : ∀ (j : Nat) (u : Value), j < 3 → x.cells[j]? = some u → w.cell? ⟨g, k * 3 + j, none⟩ = some u := fun j u hj hu => by
    obtain ⟨g2, cap2, e, _, _, hc⟩ := own_cell h.own (k := k * 3 + j) ((flat_ls t.l k x hx j hj).trans hu)
    injection e with e1 _ _
    injection e1 with e1
    injection e1 with e1
    subst e1
    exact hc
  exact ⟨key 0 _ (by omega) rfl, key 1 _ (by omega) rfl, key 2 _ (by omega) rfl⟩
set_option maxRecDepth 100000 in
theorem rf_is (n : Int) (w : World) : Calls Try.prog 52 #[.int .i64 n] w fun e w' => e = .returned (.bool (decide (0 ≤ n) && decide (n < 8))) ∧ w = w' := by
  by_cases h : 0 ≤ n
  · have d : decide (0 ≤ n) = true := by simpa using h
    go_enter Try.func52, Try.ntmps52
    go_wp2
    go_ret
    exact ⟨by simp [d], rfl⟩
  · have d : decide (0 ≤ n) = false := by simpa using h
    go_enter Try.func52, Try.ntmps52
    go_wp2
    go_ret
    exact ⟨by simp [d], rfl⟩
theorem rf_is_in (k : Nat) (hk : k < 8) (w : World) : Calls Try.prog 52 #[.int .i64 k] w fun e w' => e = .returned (.bool true) ∧ w = w' :=
  (rf_is k w).mono fun e w' h => ⟨by rw [h.1, show decide ((0 : Int) ≤ k) = true from by simp, show decide ((k : Int) < 8) = true from by simp; omega]; rfl, h.2⟩
theorem rf_is_out (n : Int) (hn : n < 0 ∨ 8 ≤ n) (w : World) : Calls Try.prog 52 #[.int .i64 n] w fun e w' => e = .returned (.bool false) ∧ w = w' :=
  (rf_is n w).mono fun e w' h => ⟨by
    rw [h.1]
    rcases hn with hn | hn
    · rw [show decide ((0 : Int) ≤ n) = false from by simp; omega]; rfl
    · rw [show decide (n < 8) = false from by simp; omega, Bool.and_false], h.2⟩
set_option maxRecDepth 100000 in
theorem rf_live (B b : Nat) (v : Value) (t : Tb) (k : Nat) (x : Ls) (w : World) (h : RfV w B b v t) (hk : k < 8) (hx : t.l[k]? = some x) (d : Bool) (hd : decide (t.now < x.till) = d) :
    Calls Try.prog 53 #[.pointer (some ⟨b, 0, none⟩), .int .i64 k] w fun e w' => e = .returned (.bool d) ∧ Only [] w w' := by
  obtain ⟨g, cap, rfl, hB, hlt, hne, hc⟩ := h.form
  obtain ⟨q0, q1, q2⟩ := hc k _ hx
  have c0 := fun u : Since w => u.cell (h.cells.cell (k := 0) rfl)
  have c1 := fun u : Since w => u.cell (h.cells.cell (k := 1) rfl)
  have p2 := fun u : Since w => u.cell q2
  have hk' : (k : Int) < 8 := by omega
  clear hc h hx q0 q1 q2
  go_enter Try.func53, Try.ntmps53
  go_wp2_with fail
  refine wp_region_only w (Only.refl _ _) (by kernel_rfl) (by kernel_rfl) ?_
  repeat (go_big_quiet_step (fail))
  refine wpQuiet_nil ?_
  rintro ⟨w1, ho1⟩
  dsimp only
  clear c0 c1 p2
  go_wp2_with fail
  go_ret
  exact ⟨rfl, ho1⟩
set_option maxRecDepth 100000 in
theorem rf_get_in (B b : Nat) (v : Value) (t : Tb) (k : Nat) (x : Ls) (w : World) (h : RfV w B b v t) (hk : k < 8) (hx : t.l[k]? = some x) :
    Calls Try.prog 39 #[.pointer (some ⟨b, 0, none⟩), .int .i64 k] w fun e w' => e = .returned x.val ∧ Only [] w w' := by
  have CI := Lib.hid (fun w => rf_is_in k hk w)
  obtain ⟨g, cap, rfl, hB, hlt, hne, hc⟩ := h.form
  obtain ⟨q0, q1, q2⟩ := hc k _ hx
  have c1 := h.cells.cell (k := 1) rfl
  have hbl := h.cells.lt
  have hk' : (k : Int) < 8 := by omega
  clear hc h hx
  go_enter Try.func39, Try.ntmps39
  go_wp2_with (go_at_call 52; refine (CI.out _).mono ?_; rintro e w' ⟨rfl, rfl⟩)
  exact bodyPost_ret (v := x.val) (by simp [results, Try.results39, go_sem, Ls.val]) rfl ⟨rfl, (Only.refl _ _).alloc _⟩
theorem rf_get_out (b : Nat) (n : Int) (w : World) (hn : n < 0 ∨ 8 ≤ n) :
    Calls Try.prog 39 #[.pointer (some ⟨b, 0, none⟩), .int .i64 n] w fun e w' => e = .returned (Ls.val ⟨0, 0, 0⟩) ∧ Only [] w w' := by
  have CI := Lib.hid (fun w => rf_is_out n hn w)
  go_enter Try.func39, Try.ntmps39
  go_wp2_with (go_at_call 52; refine (CI.out _).mono ?_; rintro e w' ⟨rfl, rfl⟩)
  exact bodyPost_ret (v := Ls.val ⟨0, 0, 0⟩) (by simp [results, Try.results39, go_sem, Ls.val]) rfl ⟨rfl, (Only.refl _ _).alloc _⟩
theorem rf_get (B b : Nat) (v : Value) (t : Tb) (n : Int) (w : World) (h : RfV w B b v t) :
    Calls Try.prog 39 #[.pointer (some ⟨b, 0, none⟩), .int .i64 n] w fun e w' => e = .returned (t.get n).val ∧ Only [] w w' := by
  by_cases hn : 0 ≤ n ∧ n < 8
  · obtain ⟨k, rfl⟩ := Int.eq_ofNat_of_zero_le hn.1
    exact rf_get_in B b v t k _ w h (by omega) (t.get_in h.len k (by omega))
  · rw [show t.get n = ⟨0, 0, 0⟩ from by unfold Tb.get; rw [if_neg hn]]
    exact rf_get_out b n w (by omega)
theorem rf_grant_err (b : Nat) (n node : Int) (w : World) (hn : n < 0 ∨ 8 ≤ n ∨ node < 1 ∨ 9 < node) :
    Calls Try.prog 38 #[.pointer (some ⟨b, 0, none⟩), .int .i64 n, .int .i64 node] w fun e w' => e = .returned (.tuple #[.int .i64 0, .int .i64 2]) ∧ w = w' := by
  by_cases h : n < 0 ∨ 8 ≤ n
  · have CI := Lib.hid (fun w => rf_is_out n h w)
    go_enter Try.func38, Try.ntmps38
    go_wp2_with (go_at_call 52; refine (CI.out _).mono ?_; rintro e w' ⟨rfl, rfl⟩)
    go_ret2
    exact ⟨rfl, rfl⟩
  · obtain ⟨k, rfl⟩ := Int.eq_ofNat_of_zero_le (show 0 ≤ n by omega)
    have CI := Lib.hid (fun w => rf_is_in k (by omega) w)
    by_cases h1 : node < 1
    · have d1 : decide (node < 1) = true := by simpa using h1
      go_enter Try.func38, Try.ntmps38
      go_wp2_with (go_at_call 52; refine (CI.out _).mono ?_; rintro e w' ⟨rfl, rfl⟩)
      go_ret2
      exact ⟨rfl, rfl⟩
    · have d1 : decide (node < 1) = false := by simpa using h1
      have d2 : decide (9 < node) = true := by simp; omega
      go_enter Try.func38, Try.ntmps38
      go_wp2_with (go_at_call 52; refine (CI.out _).mono ?_; rintro e w' ⟨rfl, rfl⟩)
      go_ret2
      exact ⟨rfl, rfl⟩
set_option maxRecDepth 100000 in
theorem rf_grant_held (B b k : Nat) (v : Value) (t : Tb) (x : Ls) (node : Int) (w : World) (h : RfV w B b v t) (hx : t.l[k]? = some x) (hk : k < 8) (n1 : 1 ≤ node) (n9 : node ≤ 9) (hne : x.node ≠ node) (hl : t.now < x.till) :
    Calls Try.prog 38 #[.pointer (some ⟨b, 0, none⟩), .int .i64 k, .int .i64 node] w fun e w' => e = .returned (.tuple #[.int .i64 0, .int .i64 16]) ∧ Only [] w w' := by
  have CI := Lib.hid (fun w => rf_is_in k hk w)
  have d1 : decide (node < 1) = false := by simp; omega
  have d2 : decide (9 < node) = false := by simp; omega
  have d3 : (x.node != node) = true := by simpa using hne
  have CL := Lib.hid (fun w' (ho : Only [] w w') => rf_live B b v t k x w' (h.only ho) hk hx true (by simpa using hl))
  obtain ⟨g, cap, rfl, hB, hlt, hgb, hc⟩ := h.form
  obtain ⟨q0, q1, q2⟩ := hc k _ hx
  have c1 := h.cells.cell (k := 1) rfl
  have hbl := h.cells.lt
  have hk' : (k : Int) < 8 := by omega
  have hoA : Only [] w (w.alloc (.cells #[.int .i64 x.node, .int .i64 x.epoch, .int .i64 x.till] 64)) := (Only.refl _ _).alloc _
  have HX := Lib.hid (Cells.new w 64 [.int .i64 x.node, .int .i64 x.epoch, .int .i64 x.till])
  clear hc h hx hne hl
  go_enter Try.func38, Try.ntmps38
  go_wp2_with (first
    | (go_at_call 52; refine (CI.out _).mono ?_; rintro e w' ⟨rfl, rfl⟩)
    | (go_at_call 53; refine (CL.out _ hoA).mono ?_; rintro e w1 ⟨rfl, ho1⟩; have r0 := (HX.out.only ho1 (by simp)).cell (k := 0) rfl))
  go_ret2
  exact ⟨rfl, hoA.tr ho1⟩
/-- A grant's new lease. -/
def Ls.lent (now : Int) (x : Ls) (node : Int) : Ls := if now < x.till then ⟨x.node, x.epoch, now + 6⟩ else ⟨node, x.epoch + 1, now + 6⟩
end Go.Proofs.Ytlonaniomnalnaa
