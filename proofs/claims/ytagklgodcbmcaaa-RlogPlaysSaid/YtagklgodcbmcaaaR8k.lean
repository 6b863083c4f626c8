/-
  Chapter 8: Restore. (Printed by gen_r8k.py.)
-/
import Derived.Test.YtagklgodcbmcaaaR8j
namespace Go.Proofs.Ytagklgodcbmcaaa
open Go.RowKit
theorem LogV.rebase {w : World} {b : Nat} {vv ev vv' : Value} {g : LG} (x : Bas) (h : LogV w b vv ev g) (hv : w.ownsRow 0 3 1 vv' x.vs.length (gvs x.vs)) (h0 : 0 ≤ x.ix) (hl : x.ix + g.l.length ≤ 1000000) (hvl : x.vs.length ≤ 1000) :
    LogV ((((w.setCell ⟨b, 0, none⟩ (.int .i64 x.ix)).setCell ⟨b, 1, none⟩ (.int .i64 x.tm)).setCell ⟨b, 2, none⟩ vv').setCell ⟨b, 3, none⟩ (.string x.d)) b vv' ev ⟨x, g.l⟩ ∧ Only [b] w ((((w.setCell ⟨b, 0, none⟩ (.int .i64 x.ix)).setCell ⟨b, 1, none⟩ (.int .i64 x.tm)).setCell ⟨b, 2, none⟩ vv').setCell ⟨b, 3, none⟩ (.string x.d)) := by
  have ho : Only [b] w ((((w.setCell ⟨b, 0, none⟩ (.int .i64 x.ix)).setCell ⟨b, 1, none⟩ (.int .i64 x.tm)).setCell ⟨b, 2, none⟩ vv').setCell ⟨b, 3, none⟩ (.string x.d)) :=
    ((((Only.refl _ w).setCell (.inl (by simp)) _).setCell (.inl (by simp)) _).setCell (.inl (by simp)) _).setCell (.inl (by simp)) _
  exact ⟨⟨(((h.cells.set 0 _).set 1 _).set 2 _).set 3 _, own_keep h.ents ho (fun q hq => by simp at hq; subst hq; exact own_ne_block h.ents h.cells (by decide)), own_keep hv ho (fun q hq => by simp at hq; subst hq; exact own_ne_block hv h.cells (by decide)), h0, hl, hvl⟩, ho⟩
theorem own_fromA {w : World} {e : TypeId} {n sz c j : Nat} {A : Option Addr} {xs : List Value} (h : w.ownsRow 0 e sz (.slice A n c) n xs) (hj : j ≤ n) :
    SlAt w w.heap.size (.slice (if c = j then A else Option.map (fun x => x.add (j * sz)) A) (n - j) (c - j)) sz (n - j) (xs.drop (j * sz)) := by
  rcases h.2 with ⟨hv, h0⟩ | ⟨q, cap, cur, hv, _⟩
  · injection hv with e1 e2 e3
    subst e1; subst e3
    have hj0 : j = 0 := by omega
    subst hj0
    have hx : xs = [] := List.length_eq_zero_iff.1 (by rw [h.1, h0, Nat.zero_mul])
    subst hx
    exact ⟨by simp [h0], none, 0, by simp, by omega, by simp [maxLen], fun hp => by rw [h0] at hp; simp at hp⟩
  · injection hv with e1 e2 e3
    subst e1; subst e3
    have := own_from h hj
    simpa [Addr.add_lit] using this
def LG.restore (g : LG) (x : Bas) : LG × Bool :=
  if (g.term x.ix).2 = true ∧ (g.term x.ix).1 = x.tm then (⟨x, g.l.drop (x.ix - g.b.ix).toNat⟩, true) else (⟨x, []⟩, false)
theorem LG.term_ok {g : LG} {i : Int} (h : (g.term i).2 = true) : g.b.ix ≤ i ∧ i ≤ g.last := by
  unfold LG.term at h
  split at h
  · simp at h
  · omega
set_option maxRecDepth 100000 in
set_option maxHeartbeats 4000000 in
theorem logk_restore (b : Nat) (K : List Nat) (g : LG) (x : Bas) (xv : Value) (w : World) (h : LogK w K b g) (hx : w.ownsRow 0 3 1 xv x.vs.length (gvs x.vs)) (hoff : ∀ q, xv.ownBlock = some q → q ∉ K) (h0 : 0 ≤ x.ix) (hi6 : x.ix ≤ 1000000) (hvx : x.vs.length ≤ 1000) :
    Calls Try.prog 39 #[.pointer (some ⟨b, 0, none⟩), x.val xv] w fun e w' => e = .returned (.bool (g.restore x).2) ∧ Does w w' K b (g.restore x).1 := by
  obtain ⟨vv, ev, h, hK, hKl⟩ := h
  have CT := Lib.hid (fun w' (ho : Only [] w w') => log_term b vv ev g x.ix w' (h.only ho))
  obtain ⟨XA, xc, rfl⟩ := (SlAt.of_own hx).shape
  have lo := h.lo
  have hi := h.hi
  obtain ⟨t, htt⟩ : ∃ t, (g.term x.ix).1 = t := ⟨_, rfl⟩
  obtain ⟨ok, hok⟩ : ∃ ok, (g.term x.ix).2 = ok := ⟨_, rfl⟩
  unfold ibV at CT
  rw [htt, hok] at CT
  have HKK := Lib.hid hK
  have HKL := Lib.hid hKl
  have HOFF := Lib.hid hoff
  have hA : Only [] w (w.alloc (.cells #[.int .i64 x.ix, .int .i64 x.tm, .slice XA x.vs.length xc, .string x.d] 27)) := (Only.refl _ w).alloc _
  have hX := Cells.new w 27 [.int .i64 x.ix, .int .i64 x.tm, .slice XA x.vs.length xc, .string x.d]
  have hbw := h.cells.lt
  have H := Lib.hid h
  have HOX := Lib.hid hx
  have HTO : Hid (ok = true → g.b.ix ≤ x.ix ∧ x.ix ≤ g.last) := by show _ → _; rw [← hok]; exact LG.term_ok
  have HRS : Hid (g.restore x = if ok = true ∧ t = x.tm then (⟨x, g.l.drop (x.ix - g.b.ix).toNat⟩, true) else (⟨x, []⟩, false)) := by show _ = _; unfold LG.restore; rw [htt, hok]
  unfold Bas.val
  clear h hK hKl hx hoff htt hok
  go_enter Try.func39, Try.ntmps39
  go_wp2_with fail
  refine (CT.out _ hA).mono ?_
  rintro e w1 ⟨rfl, ho1⟩
  have hX1 := hX.only ho1 (by simp)
  have hoB := hA.tr ho1
  have x0 := hX1.cell (k := 0) rfl
  have x1 := hX1.cell (k := 1) rfl
  have x2 := hX1.cell (k := 2) rfl
  have x3 := hX1.cell (k := 3) rfl
  have hzb : w.heap.size ≠ b := by omega
  have hbz : b ≠ w.heap.size := by omega
  clear hX ho1 CT
  by_cases hk : ok = true ∧ t = x.tm
  case neg =>
    have ht : Hid (g.restore x = (⟨x, []⟩, false)) := by show _ = _; rw [HRS.out, if_neg hk]
    have hN1 := H.out.only hoB
    have e4 := hN1.cells.cell (k := 4) rfl
    have k4 := hN1.cells.frozen 4
    have l4 := hN1.cells.lt
    have HX1 := Lib.hid hX1
    have HN1 := Lib.hid hN1
    have HOB := Lib.hid hoB
    have hlx : x.ix + (([] : List En).length : Int) ≤ 1000000 := by simp; omega
    clear hX1 hN1 hoB
    have hkk : ok = false ∨ (ok = true ∧ (t == x.tm) = false) := by
      cases ok with
      | false => exact .inl rfl
      | true => exact .inr ⟨rfl, by simpa using hk⟩
    rcases hkk with rfl | ⟨rfl, d1⟩
    · clear hk HRS HTO
      go_wp2_with fail
      have hS := HN1.out.swap (l' := []) (Only.refl [] _) (by simp) (World.ownsRow_nil _ _ _ _) (by simp; omega)
      obtain ⟨w6, hw6⟩ : ∃ w6, w1.setCell ⟨b, 4, none⟩ (.slice none 0 0) = w6 := ⟨_, rfl⟩
      rw [hw6] at hS ⊢
      have hX6 := HX1.out.only (S := [b]) (w := w6) (by rw [← hw6]; exact (Only.refl _ _).setCell (.inl (by simp)) _) (by simp; omega)
      have hF : LogV w6 b vv (.slice none 0 0) ⟨g.b, []⟩ ∧ Only (lk b vv ev) w w6 := ⟨hS.1, HOB.out.of0.tr hS.2⟩
      have HNE : Hid (NewOf w ev (.slice none 0 0)) := Lib.hid (fun q hq => by simp [Value.ownBlock] at hq)
      clear hS hw6 e4 k4 l4 x0 x1 x2 x3
      have HR6 := Lib.hid hF.1
      have HO6 := Lib.hid hF.2
      have hx6 : Hid (Cells w6 w.heap.size 27 [.int .i64 x.ix, .int .i64 x.tm, .slice XA x.vs.length xc, .string x.d]) := Lib.hid hX6
      have HOX6 := Lib.hid (own_keep HOX.out hF.2 (fun q hq he => HOFF.out q he (HKK.out q hq)))
      have x0 := hX6.cell (k := 0) rfl
      have x1 := hX6.cell (k := 1) rfl
      have x2 := hX6.cell (k := 2) rfl
      have x3 := hX6.cell (k := 3) rfl
      have CO := Lib.hid (log_own x (.slice XA x.vs.length xc) w6.heap.size w6 (Nat.le_refl _) (by omega) (SlAt.of_own HOX6.out))
      unfold Bas.val at CO
      clear hF hX6
      go_wp2_with fail
      refine CO.out.mono ?_
      rintro e w7 ⟨v', rfl, hown, ho7⟩
      have hN7 := HR6.out.only ho7
      have d0 := hN7.cells.cell (k := 0) rfl
      have d1 := hN7.cells.cell (k := 1) rfl
      have d2 := hN7.cells.cell (k := 2) rfl
      have d3 := hN7.cells.cell (k := 3) rfl
      have f0 := hN7.cells.frozen 0
      have f1 := hN7.cells.frozen 1
      have f2 := hN7.cells.frozen 2
      have f3 := hN7.cells.frozen 3
      have hb7 := hN7.cells.lt
      have HN7 := Lib.hid hN7
      have HV7 := Lib.hid hown
      have HO7 := Lib.hid (HO6.out.tr0 ho7)
      obtain ⟨A', c', rfl⟩ := (SlAt.of_own hown).shape
      clear hN7 hown ho7 CO x0 x1 x2 x3
      go_wp2_with fail
      go_ret
      rw [ht.out]
      obtain ⟨hF, hoF⟩ := HN7.out.rebase x (own_low HV7.out (Nat.zero_le _)) h0 hlx hvx
      refine ⟨rfl, Does.ofV HKK.out hF (HO7.out.tr (hoF.mono fun q hq => .inl (by simp at hq; subst hq; simp [lk]))) HNE.out (fun q hq => .inr (Nat.le_trans HO6.out.size (HV7.out.lt q hq).1))⟩
    · clear hk HRS HTO
      go_wp2_with fail
      have hS := HN1.out.swap (l' := []) (Only.refl [] _) (by simp) (World.ownsRow_nil _ _ _ _) (by simp; omega)
      obtain ⟨w6, hw6⟩ : ∃ w6, w1.setCell ⟨b, 4, none⟩ (.slice none 0 0) = w6 := ⟨_, rfl⟩
      rw [hw6] at hS ⊢
      have hX6 := HX1.out.only (S := [b]) (w := w6) (by rw [← hw6]; exact (Only.refl _ _).setCell (.inl (by simp)) _) (by simp; omega)
      have hF : LogV w6 b vv (.slice none 0 0) ⟨g.b, []⟩ ∧ Only (lk b vv ev) w w6 := ⟨hS.1, HOB.out.of0.tr hS.2⟩
      have HNE : Hid (NewOf w ev (.slice none 0 0)) := Lib.hid (fun q hq => by simp [Value.ownBlock] at hq)
      clear hS hw6 e4 k4 l4 x0 x1 x2 x3
      have HR6 := Lib.hid hF.1
      have HO6 := Lib.hid hF.2
      have hx6 : Hid (Cells w6 w.heap.size 27 [.int .i64 x.ix, .int .i64 x.tm, .slice XA x.vs.length xc, .string x.d]) := Lib.hid hX6
      have HOX6 := Lib.hid (own_keep HOX.out hF.2 (fun q hq he => HOFF.out q he (HKK.out q hq)))
      have x0 := hX6.cell (k := 0) rfl
      have x1 := hX6.cell (k := 1) rfl
      have x2 := hX6.cell (k := 2) rfl
      have x3 := hX6.cell (k := 3) rfl
      have CO := Lib.hid (log_own x (.slice XA x.vs.length xc) w6.heap.size w6 (Nat.le_refl _) (by omega) (SlAt.of_own HOX6.out))
      unfold Bas.val at CO
      clear hF hX6
      go_wp2_with fail
      refine CO.out.mono ?_
      rintro e w7 ⟨v', rfl, hown, ho7⟩
      have hN7 := HR6.out.only ho7
      have d0 := hN7.cells.cell (k := 0) rfl
      have d1 := hN7.cells.cell (k := 1) rfl
      have d2 := hN7.cells.cell (k := 2) rfl
      have d3 := hN7.cells.cell (k := 3) rfl
      have f0 := hN7.cells.frozen 0
      have f1 := hN7.cells.frozen 1
      have f2 := hN7.cells.frozen 2
      have f3 := hN7.cells.frozen 3
      have hb7 := hN7.cells.lt
      have HN7 := Lib.hid hN7
      have HV7 := Lib.hid hown
      have HO7 := Lib.hid (HO6.out.tr0 ho7)
      obtain ⟨A', c', rfl⟩ := (SlAt.of_own hown).shape
      clear hN7 hown ho7 CO x0 x1 x2 x3
      go_wp2_with fail
      go_ret
      rw [ht.out]
      obtain ⟨hF, hoF⟩ := HN7.out.rebase x (own_low HV7.out (Nat.zero_le _)) h0 hlx hvx
      refine ⟨rfl, Does.ofV HKK.out hF (HO7.out.tr (hoF.mono fun q hq => .inl (by simp at hq; subst hq; simp [lk]))) HNE.out (fun q hq => .inr (Nat.le_trans HO6.out.size (HV7.out.lt q hq).1))⟩
  case pos =>
    obtain ⟨rfl, rfl⟩ := hk
    obtain ⟨ht1, ht2⟩ := HTO.out rfl
    obtain ⟨j, hj⟩ : ∃ j : Nat, x.ix - g.b.ix = j := ⟨(x.ix - g.b.ix).toNat, by omega⟩
    have hjl : j ≤ g.l.length := by unfold LG.last at ht2; omega
    have ht : Hid (g.restore x = (⟨x, g.l.drop j⟩, true)) := by show _ = _; rw [HRS.out, if_pos ⟨rfl, rfl⟩, hj, Int.toNat_natCast]
    have CP := Lib.hid (fun w' (ho : Only [] w w') => log_place b vv ev g x.ix w' (H.out.only ho) (by omega) (by unfold LG.last at ht2; omega))
    rw [hj] at CP
    obtain ⟨A, c, hev⟩ := H.out.shape
    subst hev
    have hnc : g.l.length ≤ c ∧ c ≤ maxLen := by
      obtain ⟨_, A, c', hv, h3, h4, _⟩ := SlAt.of_own H.out.ents
      injection hv with _ _ hv; subst hv; exact ⟨h3, h4⟩
    obtain ⟨hnc, hcm⟩ := hnc
    have hj1 : (j : Int) - 1 + 1 = j := by omega
    have hj0 : -1 ≤ (j : Int) - 1 := by omega
    have hjl' : (j : Int) ≤ g.l.length := by omega
    have hN1 := H.out.only hoB
    have HX1 := Lib.hid hX1
    have HN1 := Lib.hid hN1
    have HOB := Lib.hid hoB
    have hdl : (g.l.drop j).length = g.l.length - j := by simp
    have hlx : x.ix + ((g.l.drop j).length : Int) ≤ 1000000 := by rw [hdl]; omega
    have hlx2 : g.b.ix + ((g.l.drop j).length : Int) ≤ 1000000 := by rw [hdl]; omega
    have HDL := Lib.hid hdl
    clear hX1 hN1 hoB HRS HTO hdl
    go_wp2_with fail
    have c4 : ∀ u : Since w1, u.w.cell? ⟨b, 4, none⟩ = some (.slice A g.l.length c) := fun u => u.cell (HN1.out.cells.cell (k := 4) rfl)
    have y0 : ∀ u : Since w1, u.w.cell? ⟨w.heap.size, 0, none⟩ = some (.int .i64 x.ix) := fun u => u.cell (HX1.out.cell (k := 0) rfl)
    refine wp_region_pendN w1 (Only.refl _ _) [(34, OwW w1.heap.size 40 4 (g.l.length - j) (enL (g.l.drop j)))] [] 14 (by intro p hp; simp at hp; subst hp; exact OwW.lasts _ _ _ _ _) (by kernel_rfl) (by kernel_rfl) (by decide) (fun val => ?_)
    simp only [List.take_succ_cons, List.take_zero, List.drop_succ_cons, List.drop_zero]
    refine fit_segN 8 (by kernel_rfl) ?_
    simp only [List.take_succ_cons, List.take_zero, List.drop_succ_cons, List.drop_zero]
    repeat (go_big_quiet_step (fail))
    refine wpQuiet_nil ?_
    refine fit_call (.int .i64 ((j : Int) - 1)) 59 #[.pointer (some ⟨b, 0, none⟩), .int .i64 x.ix] rfl (by simp) (fun w5 => by go_simp) rfl (by kernel_rfl) (fun w5 hw5 => (CP.out w5 (HOB.out.tr hw5.1)).mono fun e w' ⟨h1, h2⟩ => ⟨h1, h2 ▸ Only.refl _ _⟩) ?_
    simp only [Act.put, List.setIfInBounds_toArray, List.set_cons_zero, List.set_cons_succ]
    refine fit_segN 2 (by kernel_rfl) ?_
    simp only [List.take_succ_cons, List.take_zero, List.drop_succ_cons, List.drop_zero]
    repeat (go_big_quiet_step (fail))
    refine wpQuiet_nil ?_
    have HP5 := Lib.hid (own_fromA HN1.out.ents (j := j) hjl)
    refine fit_callW (34, OwW w1.heap.size 40 4 (g.l.length - j) (enL (g.l.drop j))) rfl rfl (by simp) (by simp) 60 #[.slice (if c = j then A else Option.map (fun x => x.add (j * 4)) A) (g.l.length - j) (c - j)] (fun w5 => by go_simp) rfl (by kernel_rfl) (fun w5 hw5 => ?_) ?_
    · have ho5 : Only [] w1 w5 := hw5.1
      have hq := HP5.out.only ho5 (Nat.le_refl _) (by simp)
      rw [enL_drop] at hq
      refine (clone_ent _ (g.l.drop j) w1.heap.size w5 ho5.size (by rw [HDL.out]; omega) (by rw [HDL.out]; exact hq)).mono ?_
      rintro e w6 ⟨u, rfl, hu, ho6⟩
      rw [HDL.out] at hu
      exact ⟨u, rfl, ho6, own_low hu ho5.size, fun y hy => (hu.lt y hy).1⟩
    simp only [Act.put, List.setIfInBounds_toArray, List.set_cons_zero, List.set_cons_succ]
    refine fit_segN 2 (by kernel_rfl) ?_
    simp only [List.take_succ_cons, List.take_zero, List.drop_succ_cons, List.drop_zero]
    repeat (go_big_quiet_step (fail))
    refine wpQuiet_nil ?_
    intro w5 ho5 hV5
    have hown5 : w5.ownsRow w1.heap.size 40 4 (val 34) (g.l.length - j) (enL (g.l.drop j)) := hV5 (by decide) (34, OwW w1.heap.size 40 4 (g.l.length - j) (enL (g.l.drop j))) (by simp) (by simp)
    obtain ⟨u, hu⟩ : ∃ u, val 34 = u := ⟨_, rfl⟩
    rw [hu] at hown5 ⊢
    have HR5 := Lib.hid hown5
    have hN5 := HN1.out.only ho5
    have e4 := hN5.cells.cell (k := 4) rfl
    have k4 := hN5.cells.frozen 4
    have l4 := hN5.cells.lt
    have hS := hN5.swap (l' := g.l.drop j) (Only.refl [] _) (by simp) (by rw [HDL.out]; exact own_low hown5 (Nat.zero_le _)) hlx2
    have HX5 := Lib.hid (HX1.out.only ho5 (by simp))
    have HNE : Hid (NewOf w (.slice A g.l.length c) u) := Lib.hid (fun q hq => .inr (Nat.le_trans HOB.out.size (hown5.lt q hq).1))
    have HF : Hid (LogV (w5.setCell ⟨b, 4, none⟩ u) b vv u ⟨g.b, g.l.drop j⟩ ∧ Only (lk b vv (.slice A g.l.length c)) w (w5.setCell ⟨b, 4, none⟩ u)) := Lib.hid ⟨hS.1, ((HOB.out.tr ho5).of0).tr hS.2⟩
    obtain ⟨A5, c5, rfl⟩ := (SlAt.of_own hown5).shape
    clear x0 x1 x2 x3
    have x0 := HX5.out.cell (k := 0) rfl
    have x1 := HX5.out.cell (k := 1) rfl
    have x2 := HX5.out.cell (k := 2) rfl
    have x3 := HX5.out.cell (k := 3) rfl
    clear hS hN5 hown5 hV5 c4 y0 hu HP5 CP ho5
    go_wp2_with fail
    all_goals
      have hF := HF.out
      have hX6 := HX5.out.only (S := [b]) (w := w5.setCell ⟨b, 4, none⟩ (.slice A5 (g.l.length - j) c5)) ((Only.refl _ _).setCell (.inl (by simp)) _) (by simp; omega)
      obtain ⟨w6, hw6⟩ : ∃ w6, w5.setCell ⟨b, 4, none⟩ (.slice A5 (g.l.length - j) c5) = w6 := ⟨_, rfl⟩
      rw [hw6] at hF hX6 ⊢
      clear hw6 e4 k4 l4 HF x0 x1 x2 x3
      have HR6 := Lib.hid hF.1
      have HO6 := Lib.hid hF.2
      have hx6 : Hid (Cells w6 w.heap.size 27 [.int .i64 x.ix, .int .i64 x.tm, .slice XA x.vs.length xc, .string x.d]) := Lib.hid hX6
      have HOX6 := Lib.hid (own_keep HOX.out hF.2 (fun q hq he => HOFF.out q he (HKK.out q hq)))
      have x0 := hX6.cell (k := 0) rfl
      have x1 := hX6.cell (k := 1) rfl
      have x2 := hX6.cell (k := 2) rfl
      have x3 := hX6.cell (k := 3) rfl
      have CO := Lib.hid (log_own x (.slice XA x.vs.length xc) w6.heap.size w6 (Nat.le_refl _) (by omega) (SlAt.of_own HOX6.out))
      unfold Bas.val at CO
      clear hF hX6
      go_wp2_with fail
      refine CO.out.mono ?_
      rintro e w7 ⟨v', rfl, hown, ho7⟩
      have hN7 := HR6.out.only ho7
      have d0 := hN7.cells.cell (k := 0) rfl
      have d1 := hN7.cells.cell (k := 1) rfl
      have d2 := hN7.cells.cell (k := 2) rfl
      have d3 := hN7.cells.cell (k := 3) rfl
      have f0 := hN7.cells.frozen 0
      have f1 := hN7.cells.frozen 1
      have f2 := hN7.cells.frozen 2
      have f3 := hN7.cells.frozen 3
      have hb7 := hN7.cells.lt
      have HN7 := Lib.hid hN7
      have HV7 := Lib.hid hown
      have HO7 := Lib.hid (HO6.out.tr0 ho7)
      obtain ⟨A', c', rfl⟩ := (SlAt.of_own hown).shape
      clear hN7 hown ho7 CO x0 x1 x2 x3
      go_wp2_with fail
      go_ret
      rw [ht.out]
      obtain ⟨hF, hoF⟩ := HN7.out.rebase x (own_low HV7.out (Nat.zero_le _)) h0 hlx hvx
      refine ⟨rfl, Does.ofV HKK.out hF (HO7.out.tr (hoF.mono fun q hq => .inl (by simp at hq; subst hq; simp [lk]))) HNE.out (fun q hq => .inr (Nat.le_trans HO6.out.size (HV7.out.lt q hq).1))⟩
end Go.Proofs.Ytagklgodcbmcaaa
