/-
  Chapter 8: Compact, Restore.
-/
import Derived.Test.YtagklgodcbmcaaaR8i
namespace Go.Proofs.Ytagklgodcbmcaaa
open Go.RowKit
theorem lastV_len (vs : List Int) (l : List En) (h : vs.length ≤ 1000) : (lastV vs l).length ≤ 1000 := by
  induction l generalizing vs with
  | nil => exact h
  | cons x r ih =>
    unfold lastV
    rw [List.foldl_cons]
    refine ih _ ?_
    cases hs : setV x with
    | none => exact h
    | some v =>
      unfold setV at hs
      split at hs
      · cases hr : rdVs x.d.toList with
        | none => rw [hr] at hs; simp at hs
        | some p =>
          rw [hr] at hs
          obtain ⟨l, r⟩ := p
          simp only at hs
          split at hs
          · injection hs with hs
            subst hs
            have := rdVs_len hr
            show l.length ≤ 1000
            omega
          · simp at hs
      · simp at hs
/-- A row from a place on, whatever the model makes of its pointer. -/
theorem own_from {w : World} {e : TypeId} {n sz q c j : Nat} {xs : List Value} (h : w.ownsRow 0 e sz (.slice (some ⟨q, 0, none⟩) n c) n xs) (hj : j ≤ n) :
    SlAt w w.heap.size (.slice (if c = j then some ⟨q, 0, none⟩ else some ⟨q, j * sz, none⟩) (n - j) (c - j)) sz (n - j) (xs.drop (j * sz)) := by
  have hS := SlAt.of_own h
  obtain ⟨hl, A, c', hv, hnc, hcm, hh⟩ := hS
  injection hv with e1 e2 e3
  subst e3
  refine ⟨by rw [List.length_drop, hl, Nat.sub_mul], _, _, rfl, by omega, by omega, fun hp => ?_⟩
  have hjn : j < n := by
    rcases Nat.lt_or_ge j n with h | h
    · exact h
    · rw [Nat.sub_eq_zero_of_le h] at hp; omega
  have hpos : 0 < n * sz := Nat.lt_of_lt_of_le hp (Nat.mul_le_mul_right _ (Nat.sub_le _ _))
  obtain ⟨b, o, hb, hlt, hc⟩ := hh hpos
  rw [← e1] at hb
  injection hb with hb
  injection hb with h1 h2
  subst h1; subst h2
  refine ⟨q, j * sz, by rw [if_neg (by omega)], hlt, fun i u hu => ?_⟩
  rw [List.getElem?_drop] at hu
  have := hc _ u hu
  rw [Nat.zero_add] at this
  exact this
theorem LogV.renew {w : World} {b : Nat} {vv ev vv' ev' : Value} {g : LG} (x : Bas) (l' : List En) (h : LogV w b vv ev g) (he : w.ownsRow 0 40 4 ev' l'.length (enL l')) (hv : w.ownsRow 0 3 1 vv' x.vs.length (gvs x.vs)) (h0 : 0 ≤ x.ix) (hl : x.ix + l'.length ≤ 1000000) (hvl : x.vs.length ≤ 1000) :
    LogV (((((w.setCell ⟨b, 4, none⟩ ev').setCell ⟨b, 0, none⟩ (.int .i64 x.ix)).setCell ⟨b, 1, none⟩ (.int .i64 x.tm)).setCell ⟨b, 2, none⟩ vv').setCell ⟨b, 3, none⟩ (.string x.d)) b vv' ev' ⟨x, l'⟩ ∧ Only [b] w (((((w.setCell ⟨b, 4, none⟩ ev').setCell ⟨b, 0, none⟩ (.int .i64 x.ix)).setCell ⟨b, 1, none⟩ (.int .i64 x.tm)).setCell ⟨b, 2, none⟩ vv').setCell ⟨b, 3, none⟩ (.string x.d)) := by
  have ho : Only [b] w (((((w.setCell ⟨b, 4, none⟩ ev').setCell ⟨b, 0, none⟩ (.int .i64 x.ix)).setCell ⟨b, 1, none⟩ (.int .i64 x.tm)).setCell ⟨b, 2, none⟩ vv').setCell ⟨b, 3, none⟩ (.string x.d)) :=
    (((((Only.refl _ w).setCell (.inl (by simp)) _).setCell (.inl (by simp)) _).setCell (.inl (by simp)) _).setCell (.inl (by simp)) _).setCell (.inl (by simp)) _
  exact ⟨⟨((((h.cells.set 4 _).set 0 _).set 1 _).set 2 _).set 3 _, own_keep he ho (fun q hq => by simp at hq; subst hq; exact own_ne_block he h.cells (by decide)), own_keep hv ho (fun q hq => by simp at hq; subst hq; exact own_ne_block hv h.cells (by decide)), h0, hl, hvl⟩, ho⟩
def LG.compact (g : LG) (i : Int) (d : ByteArray) : LG × Bool :=
  if i ≤ g.b.ix ∨ g.last < i then (g, false) else (⟨⟨i, (g.term i).1, g.voters i, d⟩, g.l.drop (i - g.b.ix).toNat⟩, true)
def cErr : Bool → Int
  | true => 0
  | false => 2
set_option maxRecDepth 100000 in
set_option maxHeartbeats 4000000 in
theorem logk_compact (b : Nat) (K : List Nat) (g : LG) (i : Int) (d : ByteArray) (w : World) (h : LogK w K b g) (hd : DOk g.l) :
    Calls Try.prog 25 #[.pointer (some ⟨b, 0, none⟩), .int .i64 i, .string d] w fun e w' => e = .returned (.int .i64 (cErr (g.compact i d).2)) ∧ Does w w' K b (g.compact i d).1 := by
  obtain ⟨vv, ev, h, hK, hKl⟩ := h
  have CL := Lib.hid (fun w' (ho : Only [] w w') => log_last b vv ev g w' (h.only ho))
  have c0 := h.cells.cell (k := 0) rfl
  have lo := h.lo
  have hi := h.hi
  have HK := Lib.hid (⟨vv, ev, h, hK, hKl⟩ : LogK w K b g)
  by_cases h1 : i ≤ g.b.ix
  · have ht : Hid (g.compact i d = (g, false)) := by show _ = _; unfold LG.compact; rw [if_pos (.inl h1)]
    have d1 : decide (i ≤ g.b.ix) = true := by simpa using h1
    clear h hK hKl
    go_enter Try.func25, Try.ntmps25
    go_wp2_with fail
    go_ret
    rw [ht.out]
    exact ⟨rfl, Does.refl HK.out⟩
  · have d1 : decide (i ≤ g.b.ix) = false := by simpa using h1
    by_cases h2 : g.last < i
    · have ht : Hid (g.compact i d = (g, false)) := by show _ = _; unfold LG.compact; rw [if_pos (.inr h2)]
      have d2 : decide (g.last < i) = true := by simpa using h2
      clear h hK hKl
      go_enter Try.func25, Try.ntmps25
      go_wp2_with fail
      refine (CL.out _ (Only.refl _ _)).mono ?_
      rintro e w1 ⟨rfl, ho1⟩
      go_wp2_with fail
      go_ret
      rw [ht.out]
      exact ⟨rfl, Does.tr0 (Does.refl HK.out) ho1⟩
    · have d2 : decide (g.last < i) = false := by simpa using h2
      obtain ⟨i0, hi0, hz0, hz1, hz2⟩ := info_parts info_ent
      obtain ⟨k, hk⟩ : ∃ k : Nat, i - g.b.ix - 1 = k := ⟨(i - g.b.ix - 1).toNat, by omega⟩
      have hkl : k < g.l.length := by unfold LG.last at h2; omega
      have ht : Hid (g.compact i d = (⟨⟨i, (g.term i).1, g.voters i, d⟩, g.l.drop (k + 1)⟩, true)) := by
        show _ = _; unfold LG.compact; rw [if_neg (by omega), show i - g.b.ix = ((k + 1 : Nat) : Int) from by omega, Int.toNat_natCast]
      have CT := Lib.hid (fun w' (ho : Only [] w w') => log_term b vv ev g i w' (h.only ho))
      have CV := Lib.hid (fun w' (ho : Only [] w w') => log_voters b vv ev g i w' (h.only ho) hd)
      have CP := Lib.hid (fun w' (ho : Only [] w w') => log_place b vv ev g i w' (h.only ho) (by omega) (by unfold LG.last at h2; omega))
      rw [hk] at CP
      have hvl : (g.voters i).length ≤ 1000 := lastV_len _ _ h.vlen
      obtain ⟨q, c, hev⟩ := own_formX h.ents (by omega)
      subst hev
      have hnc : g.l.length ≤ c ∧ c ≤ maxLen := by
        obtain ⟨_, A, c', hv, h3, h4, _⟩ := SlAt.of_own h.ents
        injection hv with _ _ hv; subst hv; exact ⟨h3, h4⟩
      obtain ⟨hnc, hcm⟩ := hnc
      have H := Lib.hid h
      have HKK := Lib.hid hK
      have hkl' : (k : Int) < g.l.length := by omega
      clear h hK hKl
      unfold ibV at CT
      go_enter Try.func25, Try.ntmps25
      go_wp2_with fail
      refine (CL.out _ (Only.refl _ _)).mono ?_
      rintro e w1 ⟨rfl, ho1⟩
      go_wp2_with fail
      refine (CT.out _ ho1).mono ?_
      rintro e w2 ⟨rfl, ho2⟩
      have ho12 := Lib.hid (ho1.tr ho2)
      clear ho1 ho2
      go_wp2_with fail
      refine (CV.out _ ho12.out).mono ?_
      rintro e w3 ⟨v', rfl, hown, ho3⟩
      have HOW := Lib.hid (own_low hown ho12.out.size)
      have ho13 := Lib.hid (ho12.out.tr ho3)
      obtain ⟨A', c', rfl⟩ := (SlAt.of_own hown).shape
      clear hown ho3 ho12
      go_wp2_with fail
      have hX := Cells.new w3 27 [.int .i64 i, .int .i64 (g.term i).1, .slice A' (g.voters i).length c', .string d]
      have hoX : Only [] w (w3.alloc (.cells #[.int .i64 i, .int .i64 (g.term i).1, .slice A' (g.voters i).length c', .string d] 27)) := ho13.out.alloc _
      have HOW2 := Lib.hid (HOW.out.alloc (.cells #[.int .i64 i, .int .i64 (g.term i).1, .slice A' (g.voters i).length c', .string d] 27))
      obtain ⟨W, hW⟩ : ∃ W, w3.alloc (.cells #[.int .i64 i, .int .i64 (g.term i).1, .slice A' (g.voters i).length c', .string d] 27) = W := ⟨_, rfl⟩
      obtain ⟨z, hz⟩ : ∃ z, w3.heap.size = z := ⟨_, rfl⟩
      have hzw : w.heap.size ≤ z := by rw [← hz]; exact ho13.out.size
      rw [hW] at hX hoX HOW2 ⊢
      rw [hz] at hX ⊢
      clear hW hz HOW ho13 CL CT CV
      have hN := H.out.only hoX
      have c4 : ∀ u : Since W, u.w.cell? ⟨b, 4, none⟩ = some (.slice (some ⟨q, 0, none⟩) g.l.length c) := fun u => u.cell (hN.cells.cell (k := 4) rfl)
      have HN := Lib.hid hN
      have HX := Lib.hid hX
      have HoX := Lib.hid hoX
      clear hN hX hoX
      refine wp_region_pendN W (Only.refl _ _) [(46, OwW W.heap.size 40 4 (g.l.length - (k + 1)) (enL (g.l.drop (k + 1))))] [] 13 (by intro p hp; simp at hp; subst hp; exact OwW.lasts _ _ _ _ _) (by kernel_rfl) (by kernel_rfl) (by decide) (fun val => ?_)
      simp only [List.take_succ_cons, List.take_zero, List.drop_succ_cons, List.drop_zero]
      refine fit_segN 7 (by kernel_rfl) ?_
      simp only [List.take_succ_cons, List.take_zero, List.drop_succ_cons, List.drop_zero]
      repeat (go_big_quiet_step (fail))
      refine wpQuiet_nil ?_
      refine fit_call (.int .i64 k) 59 #[.pointer (some ⟨b, 0, none⟩), .int .i64 i] rfl (by simp) (fun w5 => by go_simp) rfl (by kernel_rfl) (fun w5 hw5 => (CP.out w5 (HoX.out.tr hw5.1)).mono fun e w' ⟨h1, h2⟩ => ⟨h1, h2 ▸ Only.refl _ _⟩) ?_
      simp only [Act.put, List.setIfInBounds_toArray, List.set_cons_zero, List.set_cons_succ]
      refine fit_segN 2 (by kernel_rfl) ?_
      simp only [List.take_succ_cons, List.take_zero, List.drop_succ_cons, List.drop_zero]
      repeat (go_big_quiet_step (fail))
      refine wpQuiet_nil ?_
      have HP5 := Lib.hid (own_from HN.out.ents (j := k + 1) (by omega))
      refine fit_callW (46, OwW W.heap.size 40 4 (g.l.length - (k + 1)) (enL (g.l.drop (k + 1)))) rfl rfl (by simp) (by simp) 60 #[.slice (if c = k + 1 then some ⟨q, 0, none⟩ else some ⟨q, (k + 1) * 4, none⟩) (g.l.length - (k + 1)) (c - (k + 1))] (fun w5 => by go_simp) rfl (by kernel_rfl) (fun w5 hw5 => ?_) ?_
      · have hdl : (g.l.drop (k + 1)).length = g.l.length - (k + 1) := by simp
        have ho5 : Only [] W w5 := hw5.1
        have hq := HP5.out.only ho5 (Nat.le_refl _) (by simp)
        rw [enL_drop, ← hdl] at hq
        refine (clone_ent _ (g.l.drop (k + 1)) W.heap.size w5 ho5.size (by omega) (by rw [hdl] at hq ⊢; exact hq)).mono ?_
        rintro e w6 ⟨u, rfl, hu, ho6⟩
        rw [hdl] at hu
        exact ⟨u, rfl, ho6, own_low hu ho5.size, fun y hy => (hu.lt y hy).1⟩
      simp only [Act.put, List.setIfInBounds_toArray, List.set_cons_zero, List.set_cons_succ]
      refine fit_segN 2 (by kernel_rfl) ?_
      simp only [List.take_succ_cons, List.take_zero, List.drop_succ_cons, List.drop_zero]
      repeat (go_big_quiet_step (fail))
      refine wpQuiet_nil ?_
      intro w5 ho5 hV5
      have hown5 : w5.ownsRow W.heap.size 40 4 (val 46) (g.l.length - (k + 1)) (enL (g.l.drop (k + 1))) := hV5 (by decide) (46, OwW W.heap.size 40 4 (g.l.length - (k + 1)) (enL (g.l.drop (k + 1)))) (by simp) (by simp)
      obtain ⟨u, hu⟩ : ∃ u, val 46 = u := ⟨_, rfl⟩
      rw [hu] at hown5 ⊢
      obtain ⟨A5, c5, rfl⟩ := (SlAt.of_own hown5).shape
      have hN5 := HN.out.only ho5
      have hX5 := HX.out.only ho5 (by simp)
      have HN5 := Lib.hid hN5
      have HX5 := Lib.hid hX5
      have HR5 := Lib.hid hown5
      have HV5 := Lib.hid (own_only HOW2.out ho5 (by simp))
      have HO5 := Lib.hid (HoX.out.tr ho5)
      have d0 := hN5.cells.cell (k := 0) rfl
      have d1 := hN5.cells.cell (k := 1) rfl
      have d2 := hN5.cells.cell (k := 2) rfl
      have d3 := hN5.cells.cell (k := 3) rfl
      have d4 := hN5.cells.cell (k := 4) rfl
      have f0 := hN5.cells.frozen 0
      have f1 := hN5.cells.frozen 1
      have f2 := hN5.cells.frozen 2
      have f3 := hN5.cells.frozen 3
      have z0 := hX5.cell (k := 0) rfl
      have z1 := hX5.cell (k := 1) rfl
      have z2 := hX5.cell (k := 2) rfl
      have z3 := hX5.cell (k := 3) rfl
      have hbz : b ≠ z := by have := H.out.cells.lt; omega
      have hzb : z ≠ b := fun h => hbz h.symm
      have f4 := hN5.cells.frozen 4
      have hb5 := hN5.cells.lt
      have hzl := hX5.lt
      clear hN5 hX5 hown5 hV5 c4 hu HP5 CP HN HX HOW2
      go_wp2_with fail
      all_goals
        go_ret
        rw [ht.out]
        have hdl : (g.l.drop (k + 1)).length = g.l.length - (k + 1) := by simp
        obtain ⟨hF, hoF⟩ := HN5.out.renew ⟨i, (g.term i).1, g.voters i, d⟩ (g.l.drop (k + 1)) (by rw [hdl]; exact own_low HR5.out (Nat.zero_le _)) (own_low HV5.out (Nat.zero_le _)) (by show 0 ≤ i; omega) (by show i + ((g.l.drop (k + 1)).length : Int) ≤ 1000000; omega) hvl
        refine ⟨rfl, Does.ofV HKK.out hF (HO5.out.of0.tr (hoF.mono fun q hq => .inl (by simp at hq; subst hq; simp [lk]))) (fun q hq => .inr (Nat.le_trans HoX.out.size (HR5.out.lt q hq).1)) (fun q hq => .inr (HV5.out.lt q hq).1)⟩
end Go.Proofs.Ytagklgodcbmcaaa
