/-
  Chapter 6: package net: is, Apart, out.
-/
import Derived.Test.YtllapfpakoobcaaNet1
namespace Go.Proofs.Ytllapfpakoobcaa
open Go.RowKit
/-- The function that tells who is in the group. -/
def InF (w : World) (B : Nat) (f : Value) (grp : List Int) : Prop :=
  (f = .func (.func 39) #[] #[] ∧ grp = []) ∨
  ∃ c v, f = .func (.func 35) #[] #[.pointer (some ⟨c, 0, none⟩)] ∧ B ≤ c ∧ Cells w c 29 [v] ∧ w.ownsRow B 3 1 v grp.length (gvs grp) ∧ grp.length ≤ 1000000
structure NS where
  l : List Lt
  grp : List Int
  lost : Int
structure NetV (w : World) (B b : Nat) (v f : Value) (s : NS) : Prop where
  ge : B ≤ b
  cells : Cells w b 57 [v, f, .int .i64 s.lost]
  own : w.ownsRow B 37 3 v s.l.length (ltL s.l)
  inf : InF w B f s.grp
  len : s.l.length ≤ 300
def rb (v : Value) : List Nat := v.ownBlock.toList
theorem InF.only {w w' : World} {B : Nat} {f : Value} {grp : List Int} (h : InF w B f grp) (ho : Only [] w w') : InF w' B f grp := by
  rcases h with h | ⟨c, v, hf, hB, hC, hr, hl⟩
  · exact .inl h
  · exact .inr ⟨c, v, hf, hB, hC.only ho (by simp), own_only hr ho (by simp), hl⟩
theorem NetV.only {w w' : World} {B b : Nat} {v f : Value} {s : NS} (h : NetV w B b v f s) (ho : Only [] w w') : NetV w' B b v f s :=
  ⟨h.ge, h.cells.only ho (by simp), own_only h.own ho (by simp), h.inf.only ho, h.len⟩
theorem NetV.shape {w : World} {B b : Nat} {v f : Value} {s : NS} (h : NetV w B b v f s) : ∃ A c, v = .slice A s.l.length c := (SlAt.of_own h.own).shape
set_option maxRecDepth 100000 in
theorem net_is (B b : Nat) (v f : Value) (s : NS) (k : Int) (w : World) (h : NetV w B b v f s) :
    Calls Try.prog 37 #[.pointer (some ⟨b, 0, none⟩), .int .i64 k] w fun e w' => e = .returned (.bool (decide (0 ≤ k) && decide (k < s.l.length))) ∧ w = w' := by
  obtain ⟨A, c, rfl⟩ := h.shape
  have c0 := h.cells.cell (k := 0) rfl
  have hl := h.len
  by_cases hk : 0 ≤ k
  · have hd : decide (0 ≤ k) = true := by simpa using hk
    clear h
    go_enter Try.func37, Try.ntmps37
    go_wp2_with fail
    go_ret
    exact ⟨by simp [hk], rfl⟩
  · have hd : decide (0 ≤ k) = false := by simpa using hk
    clear h
    go_enter Try.func37, Try.ntmps37
    go_wp2_with fail
    go_ret
    exact ⟨by simp [hd], rfl⟩
theorem whole_in (x : Int) (w : World) : Calls Try.prog 39 #[.int .i64 x] w fun e w' => e = .returned (.bool false) ∧ w = w' := by
  go_enter Try.func39, Try.ntmps39
  go_wp2_with fail
  go_ret
  exact ⟨rfl, rfl⟩
theorem split_in (x : Int) (B c : Nat) (v : Value) (grp : List Int) (w : World) (hC : Cells w c 29 [v]) (hr : w.ownsRow B 3 1 v grp.length (gvs grp)) (hl : grp.length ≤ 1000000) :
    Calls Try.prog 35 #[.int .i64 x, .pointer (some ⟨c, 0, none⟩)] w fun e w' => e = .returned (.bool (decide (x ∈ grp))) ∧ w = w' := by
  have CC := Lib.hid (contains_int v grp x w.heap.size w (by omega) (SlAt.of_own hr))
  have c0 := hC.cell (k := 0) rfl
  clear hC hr
  go_enter Try.func35, Try.ntmps35
  go_wp2_with fail
  refine CC.out.mono ?_
  rintro e w1 ⟨rfl, rfl⟩
  go_wp2_with fail
  go_ret
  exact ⟨rfl, rfl⟩
def inG (grp : List Int) (x : Int) : Bool := decide (x ∈ grp)
def NS.apart (s : NS) (a b : Int) : Bool := inG s.grp a != inG s.grp b
set_option maxRecDepth 100000 in
theorem net_apart (B b : Nat) (v f : Value) (s : NS) (x y : Int) (w : World) (h : NetV w B b v f s) :
    Calls Try.prog 19 #[.pointer (some ⟨b, 0, none⟩), .int .i64 x, .int .i64 y] w fun e w' => e = .returned (.bool (s.apart x y)) ∧ Only [] w w' := by
  have c1 := fun u : Since w => u.cell (h.cells.cell (k := 1) rfl)
  rcases h.inf with ⟨rfl, hg⟩ | ⟨c, gv, rfl, hB, hC, hr, hl⟩
  · have ha : Hid (s.apart x y = false) := by show _ = _; unfold NS.apart inG; rw [hg]; simp
    clear h hg
    go_enter Try.func19, Try.ntmps19
    go_wp2_with fail
    refine wp_region_only w (Only.refl _ _) (by kernel_rfl) (by kernel_rfl) ?_
    repeat (go_big_quiet_step ((go_at_call 39; refine Calls.only_same (whole_in _ _))))
    refine wpQuiet_nil ?_
    rintro ⟨w1, ho1⟩
    dsimp only
    go_wp2_with fail
    go_ret
    exact ⟨by rw [ha.out]; first | rfl | simp, ho1⟩
  · have CX : Hid (∀ u : Since w, Calls Try.prog 35 #[.int .i64 x, .pointer (some ⟨c, 0, none⟩)] u.w fun e w' => e = .returned (.bool (inG s.grp x)) ∧ u.w = w') := fun u => split_in x B c gv s.grp u.w (hC.only u.h (by simp)) (own_only hr u.h (by simp)) hl
    have CY : Hid (∀ u : Since w, Calls Try.prog 35 #[.int .i64 y, .pointer (some ⟨c, 0, none⟩)] u.w fun e w' => e = .returned (.bool (inG s.grp y)) ∧ u.w = w') := fun u => split_in y B c gv s.grp u.w (hC.only u.h (by simp)) (own_only hr u.h (by simp)) hl
    have ha : Hid (s.apart x y = (inG s.grp x != inG s.grp y)) := rfl
    clear h hC hr
    go_enter Try.func19, Try.ntmps19
    go_wp2_with fail
    refine wp_region_only w (Only.refl _ _) (by kernel_rfl) (by kernel_rfl) ?_
    repeat (go_big_quiet_step ((go_at_call 35; first | exact Calls.only_same (CX.out _) | exact Calls.only_same (CY.out _))))
    refine wpQuiet_nil ?_
    rintro ⟨w1, ho1⟩
    dsimp only
    go_wp2_with fail
    go_ret
    exact ⟨by rw [ha.out]; first | rfl | simp, ho1⟩
end Go.Proofs.Ytllapfpakoobcaa
