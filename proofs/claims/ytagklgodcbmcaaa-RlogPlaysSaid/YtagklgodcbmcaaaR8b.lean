/-
  Chapter 8: Term, Slice, own, Base, Newer, follows, beyond.
-/
import Derived.Test.YtagklgodcbmcaaaR8a
namespace Go.Proofs.Ytagklgodcbmcaaa
open Go.RowKit
def LG.term (g : LG) (i : Int) : Int × Bool :=
  if i < g.b.ix ∨ g.last < i then (0, false)
  else if i = g.b.ix then (g.b.tm, true)
  else match g.l[(i - g.b.ix - 1).toNat]? with
    | some x => (x.tm, true)
    | none => (0, false)
def ibV (p : Int × Bool) : Value := .tuple #[.int .i64 p.1, .bool p.2]
theorem LogV.ent {w : World} {b : Nat} {vv ev : Value} {g : LG} (h : LogV w b vv ev g) {k : Nat} {x : En} (hx : g.l[k]? = some x) :
    ∃ q c, ev = .slice (some ⟨q, 0, none⟩) g.l.length c ∧ q < w.heap.size ∧ w.cell? ⟨q, k * 4, none⟩ = some (.int .i64 x.ix) ∧ w.cell? ⟨q, k * 4 + 1, none⟩ = some (.int .i64 x.tm) ∧ w.cell? ⟨q, k * 4 + 2, none⟩ = some (.int .i64 x.kd) ∧ w.cell? ⟨q, k * 4 + 3, none⟩ = some (.string x.d) := by
  have hk : k < g.l.length := (List.getElem?_eq_some_iff.1 hx).1
  obtain ⟨q, c, hev⟩ := own_formX h.ents (by omega)
  have key : ∀ j u, j < 4 → x.cells[j]? = some u → w.cell? ⟨q, k * 4 + j, none⟩ = some u := by
    intro j u hj hu
    obtain ⟨q', c', e2, _, _, hc⟩ := own_cell (k := k * 4 + j) (u := u) h.ents (by rw [enL_get hx j hj]; exact hu)
    rw [hev] at e2; injection e2 with e2; injection e2 with e2; injection e2 with e2; subst e2
    exact hc
  refine ⟨q, c, hev, ?_, key 0 _ (by omega) rfl, key 1 _ (by omega) rfl, key 2 _ (by omega) rfl, key 3 _ (by omega) rfl⟩
  exact (h.ents.lt q (by rw [hev]; rfl)).2
set_option maxRecDepth 100000 in
theorem log_term (b : Nat) (vv ev : Value) (g : LG) (i : Int) (w : World) (h : LogV w b vv ev g) :
    Calls Try.prog 27 #[.pointer (some ⟨b, 0, none⟩), .int .i64 i] w fun e w' => e = .returned (ibV (g.term i)) ∧ Only [] w w' := by
  have CL := Lib.hid (fun w' (ho : Only [] w w') => log_last b vv ev g w' (h.only ho))
  have c0 := h.cells.cell (k := 0) rfl
  have lo := h.lo
  have hi := h.hi
  by_cases h1 : i < g.b.ix
  · have ht : Hid (g.term i = (0, false)) := by show _ = _; unfold LG.term; rw [if_pos (.inl h1)]
    have d1 : decide (i < g.b.ix) = true := by simpa using h1
    clear h
    go_enter Try.func27, Try.ntmps27
    go_wp2_with fail
    go_ret2
    exact ⟨by rw [ht.out]; rfl, Only.refl _ _⟩
  · have d1 : decide (i < g.b.ix) = false := by simpa using h1
    by_cases h2 : g.last < i
    · have ht : Hid (g.term i = (0, false)) := by show _ = _; unfold LG.term; rw [if_pos (.inr h2)]
      have d2 : decide (g.last < i) = true := by simpa using h2
      clear h
      go_enter Try.func27, Try.ntmps27
      go_wp2_with fail
      refine (CL.out _ (Only.refl _ _)).mono ?_
      rintro e w1 ⟨rfl, ho1⟩
      go_wp2_with fail
      go_ret2
      exact ⟨by rw [ht.out]; rfl, ho1⟩
    · have d2 : decide (g.last < i) = false := by simpa using h2
      have c01 := fun w' (ho : Only [] w w') => (h.only ho).cells.cell (k := 0) rfl
      have c1 := fun w' (ho : Only [] w w') => (h.only ho).cells.cell (k := 1) rfl
      by_cases h3 : i = g.b.ix
      · have ht : Hid (g.term i = (g.b.tm, true)) := by show _ = _; unfold LG.term; rw [if_neg (by omega), if_pos h3]
        subst h3
        clear h
        go_enter Try.func27, Try.ntmps27
        go_wp2_with fail
        refine (CL.out _ (Only.refl _ _)).mono ?_
        rintro e w1 ⟨rfl, ho1⟩
        have e0 := c01 _ ho1
        have e1 := c1 _ ho1
        go_wp2_with fail
        go_ret2
        exact ⟨by rw [ht.out]; rfl, ho1⟩
      · obtain ⟨k, hk⟩ : ∃ k : Nat, i - g.b.ix - 1 = k := ⟨(i - g.b.ix - 1).toNat, by omega⟩
        have hkl : k < g.l.length := by unfold LG.last at h2; omega
        obtain ⟨x, hx⟩ : ∃ x, g.l[k]? = some x := ⟨_, List.getElem?_eq_getElem hkl⟩
        have ht : Hid (g.term i = (x.tm, true)) := by show _ = _; unfold LG.term; rw [if_neg (by omega), if_neg h3, hk, Int.toNat_natCast, hx]
        have CP := Lib.hid (fun w' (ho : Only [] w w') => log_place b vv ev g i w' (h.only ho) (by omega) (by unfold LG.last at h2; omega))
        rw [hk] at CP
        have d3 : (i == g.b.ix) = false := by simpa using h3
        obtain ⟨q, c, hv, hq, _, e1, _, _⟩ := h.ent hx
        subst hv
        have c4 := fun w' (ho : Only [] w w') => (h.only ho).cells.cell (k := 4) rfl
        have hkl' : (k : Int) < g.l.length := by omega
        clear h hx
        go_enter Try.func27, Try.ntmps27
        go_wp2_with fail
        refine (CL.out _ (Only.refl _ _)).mono ?_
        rintro e w1 ⟨rfl, ho1⟩
        have e0 := c01 _ ho1
        go_wp2_with fail
        have c4' := fun u : Since w1 => c4 u.w (ho1.tr u.h)
        have e1' := fun u : Since w1 => u.cell ((ho1.cell (p := ⟨q, k * 4 + 1, none⟩) hq (by simp)).trans e1)
        refine wp_region_only w1 (Only.refl _ _) (by kernel_rfl) (by kernel_rfl) ?_
        repeat (go_big_quiet_step ((go_at_call 59; refine Calls.only_same (CP.out _ (ho1.tr (Since.h _))))))
        refine wpQuiet_nil ?_
        rintro ⟨w2, ho2⟩
        dsimp only
        go_wp2_with fail
        go_ret2
        exact ⟨by rw [ht.out]; rfl, ho1.tr ho2⟩
/-- A piece of a slice. -/
theorem SlAt.piece {w : World} {B b o n c sz : Nat} {xs ys : List Value} (h : SlAt w B (.slice (some ⟨b, o, none⟩) n c) sz n xs) (j m c' : Nat) (hj : j + m ≤ n) (hm : m ≤ c') (hc : c' ≤ maxLen) (hy : ys = (xs.drop (j * sz)).take (m * sz)) : SlAt w B (.slice (some ⟨b, o + j * sz, none⟩) m c') sz m ys := by
  subst hy
  have hl : j * sz + m * sz ≤ xs.length := by rw [h.1, ← Nat.add_mul]; exact Nat.mul_le_mul_right _ hj
  refine ⟨by rw [List.length_take, List.length_drop]; omega, _, _, rfl, hm, hc, fun hn => ?_⟩
  obtain ⟨b', o', c', hv, hb, hcell⟩ := h.at_ (by have := Nat.le_trans (Nat.le_add_left (m * sz) (j * sz)) hl; rw [h.1] at this; omega)
  injection hv with hv; injection hv with hv; injection hv with h1 h2; subst h1; subst h2
  refine ⟨b, _, rfl, hb, fun i u hu => ?_⟩
  rw [Nat.add_assoc]
  refine hcell _ u ?_
  have : i < m * sz := by
    have := (List.getElem?_eq_some_iff.1 hu).1
    rw [List.length_take] at this; omega
  rw [List.getElem?_take_of_lt this, List.getElem?_drop] at hu
  exact hu
def LG.slice (g : LG) (fr most : Int) : List En := if fr ≤ g.b.ix ∨ g.last < fr ∨ most < 1 then [] else (g.l.drop (fr - g.b.ix - 1).toNat).take most.toNat
set_option maxRecDepth 100000 in
set_option maxHeartbeats 1000000 in
theorem log_slice (b : Nat) (vv ev : Value) (g : LG) (fr most : Int) (w : World) (h : LogV w b vv ev g) :
    Calls Try.prog 20 #[.pointer (some ⟨b, 0, none⟩), .int .i64 fr, .int .i64 most] w fun e w' => ∃ v', e = .returned v' ∧ w'.ownsRow w.heap.size 40 4 v' (g.slice fr most).length (enL (g.slice fr most)) ∧ Only [] w w' := by
  have CL := Lib.hid (fun w' (ho : Only [] w w') => log_last b vv ev g w' (h.only ho))
  have c0 := h.cells.cell (k := 0) rfl
  have lo := h.lo
  have hi := h.hi
  by_cases h1 : fr ≤ g.b.ix
  · have ht : Hid (g.slice fr most = []) := by show _ = _; unfold LG.slice; rw [if_pos (.inl h1)]
    have d1 : decide (fr ≤ g.b.ix) = true := by simpa using h1
    clear h
    go_enter Try.func20, Try.ntmps20
    go_wp2_with fail
    go_ret
    rw [ht.out]
    exact ⟨_, rfl, World.ownsRow_nil _ _ _ _, Only.refl _ _⟩
  · have d1 : decide (fr ≤ g.b.ix) = false := by simpa using h1
    by_cases h2 : g.last < fr
    · have ht : Hid (g.slice fr most = []) := by show _ = _; unfold LG.slice; rw [if_pos (.inr (.inl h2))]
      have d2 : decide (g.last < fr) = true := by simpa using h2
      clear h
      go_enter Try.func20, Try.ntmps20
      go_wp2_with fail
      refine (CL.out _ (Only.refl _ _)).mono ?_
      rintro e w1 ⟨rfl, ho1⟩
      go_wp2_with fail
      go_ret
      rw [ht.out]
      exact ⟨_, rfl, World.ownsRow_nil _ _ _ _, ho1⟩
    · have d2 : decide (g.last < fr) = false := by simpa using h2
      by_cases h3 : most < 1
      · have ht : Hid (g.slice fr most = []) := by show _ = _; unfold LG.slice; rw [if_pos (.inr (.inr h3))]
        have d3 : decide (most < 1) = true := by simpa using h3
        clear h
        go_enter Try.func20, Try.ntmps20
        go_wp2_with fail
        refine (CL.out _ (Only.refl _ _)).mono ?_
        rintro e w1 ⟨rfl, ho1⟩
        go_wp2_with fail
        go_ret
        rw [ht.out]
        exact ⟨_, rfl, World.ownsRow_nil _ _ _ _, ho1⟩
      · have d3 : decide (most < 1) = false := by simpa using h3
        obtain ⟨k, hk⟩ : ∃ k : Nat, fr - g.b.ix - 1 = k := ⟨(fr - g.b.ix - 1).toNat, by omega⟩
        obtain ⟨m, rfl⟩ : ∃ m : Nat, most = m := ⟨most.toNat, by omega⟩
        have hkl : k < g.l.length := by unfold LG.last at h2; omega
        have ht : Hid (g.slice fr m = (g.l.drop k).take m) := by show _ = _; unfold LG.slice; rw [if_neg (by omega), hk, Int.toNat_natCast, Int.toNat_natCast]
        have CP := Lib.hid (fun w' (ho : Only [] w w') => log_place b vv ev g fr w' (h.only ho) (by omega) (by unfold LG.last at h2; omega))
        rw [hk] at CP
        obtain ⟨q, c, hv⟩ := own_formX h.ents (by omega)
        subst hv
        have c4 := fun w' (ho : Only [] w w') => (h.only ho).cells.cell (k := 4) rfl
        have hS := SlAt.of_own h.ents
        have hnc : g.l.length ≤ c ∧ c ≤ maxLen := by
          obtain ⟨_, A, c', hv, h3, h4, _⟩ := hS
          injection hv with _ _ hv; subst hv; exact ⟨h3, h4⟩
        obtain ⟨hnc, hcm⟩ := hnc
        have HS := Lib.hid hS
        have hkl' : (k : Int) < g.l.length := by omega
        clear h hS
        go_enter Try.func20, Try.ntmps20
        go_wp2_with fail
        refine (CL.out _ (Only.refl _ _)).mono ?_
        rintro e w1 ⟨rfl, ho1⟩
        go_wp2_with fail
        have c4' := fun u : Since w1 => c4 u.w (ho1.tr u.h)
        refine wp_region_only w1 (Only.refl _ _) (by kernel_rfl) (by kernel_rfl) ?_
        repeat (go_big_quiet_step ((go_at_call 59; refine Calls.only_same (CP.out _ (ho1.tr (Since.h _))))))
        refine wpQuiet_nil ?_
        rintro ⟨w2, ho2⟩
        dsimp only
        go_wp2_with fail
        all_goals
          have hP := (HS.out.only (ho1.tr ho2) (Nat.le_refl _) (by simp)).more (ho1.tr ho2).size
        case inl hmm =>
          have hlen : (g.slice fr m).length = g.l.length - k := by rw [ht.out]; simp; omega
          have hq := hP.piece (ys := enL (g.slice fr m)) k (g.l.length - k) (c - k) (by omega) (by omega) (by omega) (by rw [ht.out, enL_drop, enL_take, List.take_of_length_le (i := m) (by simp; omega), List.take_of_length_le (by simp)])
          rw [Nat.zero_add] at hq
          refine (clone_ent _ (g.slice fr m) w2.heap.size w2 (Nat.le_refl _) (by omega) (by rw [hlen]; exact hq)).mono ?_
          rintro e w3 ⟨v', rfl, hown, ho3⟩
          go_wp2_with fail
          go_ret
          exact ⟨_, rfl, own_low hown (ho1.tr ho2).size, (ho1.tr ho2).tr ho3⟩
        case inr hmm =>
          have hlen : (g.slice fr m).length = m := by rw [ht.out]; simp; omega
          have hq := hP.piece (ys := enL (g.slice fr m)) k m (c - k) (by omega) (by omega) (by omega) (by rw [ht.out, enL_drop, enL_take])
          rw [Nat.zero_add] at hq
          refine (clone_ent _ (g.slice fr m) w2.heap.size w2 (Nat.le_refl _) (by omega) (by rw [hlen]; exact hq)).mono ?_
          rintro e w3 ⟨v', rfl, hown, ho3⟩
          go_wp2_with fail
          go_ret
          exact ⟨_, rfl, own_low hown (ho1.tr ho2).size, (ho1.tr ho2).tr ho3⟩
def Bas.val (b : Bas) (vv : Value) : Value := .agg #[.int .i64 b.ix, .int .i64 b.tm, vv, .string b.d]
set_option maxRecDepth 100000 in
/-- A base whose voters somebody else holds. -/
theorem log_own (x : Bas) (vv : Value) (B : Nat) (w : World) (hB : B ≤ w.heap.size) (hl : x.vs.length ≤ 1000000) (hs : SlAt w B vv 1 x.vs.length (gvs x.vs)) :
    Calls Try.prog 54 #[x.val vv] w fun e w' => ∃ v', e = .returned (x.val v') ∧ w'.ownsRow w.heap.size 3 1 v' x.vs.length (gvs x.vs) ∧ Only [] w w' := by
  have CC := Lib.hid (fun w' (ho : Only [] w w') => clone_int vv x.vs B w' (Nat.le_trans hB ho.size) (by omega) (hs.only ho hB (by simp)))
  obtain ⟨A, c, rfl⟩ := hs.shape
  clear hs
  unfold Bas.val
  go_enter Try.func54, Try.ntmps54
  go_wp2_with fail
  have hA : Only [] w _ := ((Only.refl _ w).alloc (.cells #[.int .i64 x.ix, .int .i64 x.tm, .slice A x.vs.length c, .string x.d] 27)).alloc (.cells #[.int .i64 0, .int .i64 0, .slice none 0 0, .string ⟨#[]⟩] 27)
  have hC1 := (Cells.new w 27 [.int .i64 x.ix, .int .i64 x.tm, .slice A x.vs.length c, .string x.d]).alloc (.cells #[.int .i64 0, .int .i64 0, .slice none 0 0, .string ⟨#[]⟩] 27)
  have hC2 := Cells.new (w.alloc (.cells #[.int .i64 x.ix, .int .i64 x.tm, .slice A x.vs.length c, .string x.d] 27)) 27 [.int .i64 0, .int .i64 0, .slice none 0 0, .string ⟨#[]⟩]
  rw [show (w.alloc (.cells #[.int .i64 x.ix, .int .i64 x.tm, .slice A x.vs.length c, .string x.d] 27)).heap.size = w.heap.size + 1 from by simp] at hC2
  refine (CC.out _ hA).mono ?_
  rintro e w1 ⟨v', rfl, hown, ho1⟩
  have d1 := hC1.only ho1 (by simp)
  have d2 := hC2.only ho1 (by simp)
  have hoB := hA.tr ho1
  have hown := own_low hown (B' := w.heap.size) hA.size
  obtain ⟨A', c', hv'⟩ := (SlAt.of_own hown).shape
  subst hv'
  clear hA hC1 hC2 ho1
  have l1 := d1.lt
  have l2 := d2.lt
  have e0 := d1.cell (k := 0) rfl
  have e1 := d1.cell (k := 1) rfl
  have e2 := d1.cell (k := 2) rfl
  have e3 := d1.cell (k := 3) rfl
  have r0 := d2.cell (k := 0) rfl
  have r1 := d2.cell (k := 1) rfl
  have r2 := d2.cell (k := 2) rfl
  have r3 := d2.cell (k := 3) rfl
  have f2 := d1.frozen 2
  have g0 := d2.frozen 0
  have g1 := d2.frozen 1
  have g2 := d2.frozen 2
  have g3 := d2.frozen 3
  have hne1 := own_ne_block hown d1 (by decide)
  have hne2 := own_ne_block hown d2 (by decide)
  have HO := Lib.hid hown
  clear hown d1 d2
  go_wp2_with fail
  have o1 : ∀ u, Only [w.heap.size, w.heap.size + 1] w1 (w1.setCell ⟨w.heap.size, 2, none⟩ u) := fun u => (Only.refl _ _).setCell (.inl (by simp)) u
  have hF : ∀ u u0 u1 u2 u3, Only [w.heap.size, w.heap.size + 1] w1 (((((w1.setCell ⟨w.heap.size, 2, none⟩ u).setCell ⟨w.heap.size + 1, 0, none⟩ u0).setCell ⟨w.heap.size + 1, 1, none⟩ u1).setCell ⟨w.heap.size + 1, 2, none⟩ u2).setCell ⟨w.heap.size + 1, 3, none⟩ u3) :=
    fun u u0 u1 u2 u3 => ((((o1 u).setCell (.inl (by simp)) _).setCell (.inl (by simp)) _).setCell (.inl (by simp)) _).setCell (.inl (by simp)) _
  exact bodyPost_ret (v := .agg #[.int .i64 x.ix, .int .i64 x.tm, .slice A' x.vs.length c', .string x.d]) (by simp [results, Try.results54, go_sem, *]) rfl ⟨_, rfl, own_keep HO.out (hF _ _ _ _ _) (fun y hy => by simp at hy; rcases hy with rfl | rfl <;> assumption), hoB.trans (hF _ _ _ _ _) (fun y hy => .inr (by simp at hy; omega))⟩
end Go.Proofs.Ytagklgodcbmcaaa
