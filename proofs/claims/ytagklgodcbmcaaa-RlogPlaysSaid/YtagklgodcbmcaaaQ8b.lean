/-
  Chapter 8: the document's log: Newer, Slice.
-/
import Derived.Test.YtagklgodcbmcaaaQ8a
namespace Go.Proofs.Ytagklgodcbmcaaa
open Go.RowKit
def IxOk (g : LG) : Prop := ∀ (j : Nat) y, g.l[j]? = some y → y.ix = g.b.ix + 1 + (j : Int)
theorem slice_eq (g : LG) (fr most : Int) (h : g.b.ix < fr) : g.slice fr most = (g.l.drop (fr - g.b.ix - 1).toNat).take most.toNat := by
  unfold LG.slice
  split
  · rename_i hc
    rcases hc with hc | hc | hc
    · omega
    · unfold LG.last at hc
      rw [List.drop_eq_nil_of_le (by omega)]
      simp
    · rw [show most.toNat = 0 from by omega, List.take_zero]
  · rfl
theorem take_drop_snoc (l : List En) (i k : Nat) (y : En) (h : l[i]? = some y) : (l.take (i + 1)).drop k = (l.take i).drop k ++ (if k ≤ i then [y] else []) := by
  have hi := (List.getElem?_eq_some_iff.1 h).1
  rw [List.take_add_one, h, Option.toList_some, List.drop_append, List.length_take, Nat.min_eq_left (Nat.le_of_lt hi)]
  split
  · rw [show k - i = 0 from by omega, List.drop_zero]
  · rw [show ([y] : List En).drop (k - i) = [] from List.drop_eq_nil_of_le (by simp; omega)]
theorem cut_full (l : List En) (i k M : Nat) (hi : i ≤ l.length) (h : ((l.take i).drop k).length = M) : (l.take i).drop k = (l.drop k).take M := by
  rw [List.length_drop, List.length_take, Nat.min_eq_left hi] at h
  rw [List.drop_take, h]
set_option maxRecDepth 100000 in
theorem rl_newer (r : Nat) (vv ev : Value) (m : LG) (ix tm : Int) (w : World) (h : RlV w r vv ev m) :
    Calls Try.prog 37 #[.pointer (some ⟨r, 0, none⟩), .int .i64 ix, .int .i64 tm] w fun e w' => e = .returned (.bool (m.newer ix tm)) ∧ Only [] w w' := by
  have CL := Lib.hid (fun w' (ho : Only [] w w') => rl_last r vv ev m w' (h.only ho))
  have CT := Lib.hid (fun w' (ho : Only [] w w') => rl_term r vv ev m m.last w' (h.only ho))
  obtain ⟨t, ht⟩ : ∃ t, (m.term m.last).1 = t := ⟨_, rfl⟩
  obtain ⟨tb, htb⟩ : ∃ t, (m.term m.last).2 = t := ⟨_, rfl⟩
  have hN : Hid (m.newer ix tm = (decide (t < tm) || (tm == t && decide (m.last ≤ ix)))) := by show _ = _; unfold LG.newer; rw [ht]
  unfold ibV at CT
  rw [ht, htb] at CT
  clear ht htb h
  by_cases h1 : t < tm
  · have d1 : decide (t < tm) = true := by simpa using h1
    have hr : Hid (m.newer ix tm = true) := by show _ = _; rw [hN.out, d1]; rfl
    go_enter Try.func37, Try.ntmps37
    go_wp2_with fail
    refine (CL.out _ (Only.refl _ _)).mono ?_
    rintro e w1 ⟨rfl, ho1⟩
    go_wp2_with fail
    refine (CT.out _ ho1).mono ?_
    rintro e w2 ⟨rfl, ho2⟩
    go_wp2_with fail
    go_ret
    exact ⟨by rw [hr.out]; rfl, ho1.tr ho2⟩
  · have d1 : decide (t < tm) = false := by simpa using h1
    by_cases h2 : tm = t
    · have d2 : (tm == t) = true := by simpa using h2
      have d2' : (t == t) = true := beq_self_eq_true _
      have d1' : decide (t < t) = false := by simp
      have hr : Hid (m.newer ix tm = decide (m.last ≤ ix)) := by show _ = _; rw [hN.out, d1, d2]; rfl
      subst h2
      go_enter Try.func37, Try.ntmps37
      go_wp2_with fail
      refine (CL.out _ (Only.refl _ _)).mono ?_
      rintro e w1 ⟨rfl, ho1⟩
      go_wp2_with fail
      refine (CT.out _ ho1).mono ?_
      rintro e w2 ⟨rfl, ho2⟩
      have ho12 := ho1.tr ho2
      go_wp2_with fail
      refine (CL.out _ ho12).mono ?_
      rintro e w3 ⟨rfl, ho3⟩
      go_wp2_with fail
      go_ret
      exact ⟨by rw [hr.out]; rfl, ho12.tr ho3⟩
    · have d2 : (tm == t) = false := by simpa using h2
      have hr : Hid (m.newer ix tm = false) := by show _ = _; rw [hN.out, d1, d2]; rfl
      go_enter Try.func37, Try.ntmps37
      go_wp2_with fail
      refine (CL.out _ (Only.refl _ _)).mono ?_
      rintro e w1 ⟨rfl, ho1⟩
      go_wp2_with fail
      refine (CT.out _ ho1).mono ?_
      rintro e w2 ⟨rfl, ho2⟩
      go_wp2_with fail
      go_ret
      exact ⟨by rw [hr.out]; rfl, ho1.tr ho2⟩
set_option maxRecDepth 100000 in
set_option maxHeartbeats 4000000 in
theorem rl_slice (r : Nat) (vv ev : Value) (m : LG) (fr most : Int) (w : World) (h : RlV w r vv ev m) (hx : IxOk m) :
    Calls Try.prog 36 #[.pointer (some ⟨r, 0, none⟩), .int .i64 fr, .int .i64 most] w fun e w' => ∃ v', e = .returned v' ∧ w'.ownsRow w.heap.size 40 4 v' (m.slice fr most).length (enL (m.slice fr most)) ∧ Only [] w w' := by
  obtain ⟨i0, hi0, hz0, hz1, hz2⟩ := info_parts info_ent
  obtain ⟨A, c, rfl, _, _⟩ := h.ents.shape
  have lo := h.lo
  have hi := h.hi
  have H := Lib.hid h
  have HX := Lib.hid hx
  have c0 := h.cells.cell (k := 0) rfl
  clear h hx
  by_cases h1 : fr ≤ m.b.ix
  · have d1 : decide (fr ≤ m.b.ix) = true := by simpa using h1
    have hr : Hid (m.slice fr most = []) := by show _ = _; unfold LG.slice; rw [if_pos (.inl h1)]
    go_enter Try.func36, Try.ntmps36
    go_wp2_with fail
    go_ret
    exact ⟨.slice none 0 0, rfl, by rw [hr.out]; exact World.ownsRow_nil _ _ _ _, Only.refl _ _⟩
  · have d1 : decide (fr ≤ m.b.ix) = false := by simpa using h1
    have hr := Lib.hid (slice_eq m fr most (by omega))
    obtain ⟨k0, hk0⟩ : ∃ k : Nat, fr - m.b.ix - 1 = k := ⟨(fr - m.b.ix - 1).toNat, by omega⟩
    rw [hk0, Int.toNat_natCast] at hr
    obtain ⟨N, hN⟩ : ∃ N, m.l.length = N := ⟨_, rfl⟩
    have HN := Lib.hid hN
    have HK0 := Lib.hid hk0
    rw [hN] at hi
    go_enter Try.func36, Try.ntmps36
    go_wp2_with fail
    clear hk0 hN c0
    go_loopw [7, 8] (fun u i wr => ∃ (j n : Nat), j ≤ N ∧ n = ((m.l.take j).drop k0).length ∧ (n : Int) ≤ max most 0 ∧ (∃ A c, u = .slice A n c) ∧ i = .int .i64 j ∧ Hid (wr.ownsRow w.heap.size 40 4 u n (enL ((m.l.take j).drop k0))) ∧ Hid (Only [] w wr)) (fun _ i _ => N - (intOf i).toNat)
    case atStart => exact ⟨0, 0, by omega, by simp, by omega, ⟨_, _, rfl⟩, rfl, Lib.hid (by simpa [enL] using World.ownsRow_nil _ _ _ _), Lib.hid (Only.refl _ _)⟩
    case round =>
      obtain ⟨j, n, hj, hn, hnm, ⟨Au, cu, rfl⟩, rfl, hown, ho⟩ := hrel
      have HNN := Lib.hid hn
      clear hn
      have hRV := H.out.only ho.out
      have c4 := hRV.cells.cell (k := 4) rfl
      rw [HN.out] at c4
      have hnN : n ≤ N := by rw [HNN.out, List.length_drop, List.length_take, HN.out]; omega
      have hnN2 : (n : Int) ≤ 1000000 := by omega
      by_cases hlt : j < N
      · have hlt' : (j : Int) < (N : Int) := by omega
        by_cases hlm : (n : Int) < most
        · have d2 : decide ((n : Int) < most) = true := by simpa using hlm
          obtain ⟨y, hy⟩ : ∃ y, m.l[j]? = some y := ⟨_, List.getElem?_eq_getElem (by rw [HN.out]; exact hlt)⟩
          have hyi := HX.out j y hy
          obtain ⟨q, o, c', hv, e0, e1, e2, e3⟩ := hRV.ent hy
          injection hv with i1 i2 i3
          subst i1
          subst i3
          have htk := Lib.hid (take_drop_snoc m.l j k0 y hy)
          clear i2 hRV hy
          by_cases hk : k0 ≤ j
          · have d3 : decide (fr ≤ y.ix) = true := by have := HK0.out; simp; omega
            rw [if_pos hk] at htk
            clear hyi
            go_wp2_with (at_builtin
                         refine wpList_app rfl _ _ 31 rfl w.heap.size 40 i0 _ 4 40 Try.underlying31 hi0 hz0 hz1 hz2 rfl (by decide) wr (.slice Au n cu) n (enL ((m.l.take j).drop k0)) rfl hown.out 1 1 y.cells rfl rfl (by simp [En.cells, Value.oneCell']) (by simp only [maxLen]; omega) (by omega) ho.out.size ?_
                         intro v' w' hown' hgrow _)
            go_roundw
            case rel => exact ⟨j + 1, n + 1, by omega, by rw [htk.out, HNN.out]; simp, by omega, (SlAt.of_own hown').shape, by go_num, Lib.hid (by rw [htk.out, enL_append]; simpa [enL] using hown'), Lib.hid (ho.out.own hown.out hgrow (Nat.le_refl _))⟩
            case measure => simp [intOf]; omega
          · have d3 : decide (fr ≤ y.ix) = false := by have := HK0.out; simp; omega
            rw [if_neg hk, List.append_nil] at htk
            clear hyi
            go_wp2_with fail
            go_roundw
            case rel => exact ⟨j + 1, n, by omega, by rw [htk.out]; exact HNN.out, hnm, ⟨_, _, rfl⟩, by go_num, by rw [htk.out]; exact hown, ho⟩
            case measure => simp [intOf]; omega
        · have d2 : decide ((n : Int) < most) = false := by simpa using hlm
          have hfin : Hid (m.slice fr most = (m.l.take j).drop k0) := by
            show _ = _
            rw [hr.out, cut_full m.l j k0 most.toNat (by rw [HN.out]; exact hj) (by rw [← HNN.out]; omega)]
          clear hRV
          go_wp2_with fail
          go_ret
          exact ⟨_, rfl, by rw [hfin.out, ← HNN.out]; exact hown.out, ho.out⟩
      · have hd : decide ((j : Int) < (N : Int)) = false := by simp; omega
        have hfin : Hid (m.slice fr most = (m.l.take j).drop k0) := by
          show _ = _
          have h1 := HNN.out
          have h2 := HN.out
          rw [List.take_of_length_le (by omega)] at h1 ⊢
          rw [hr.out, List.take_of_length_le (by omega)]
        clear hRV
        go_wp2_with fail
        go_ret
        exact ⟨_, rfl, by rw [hfin.out, ← HNN.out]; exact hown.out, ho.out⟩
end Go.Proofs.Ytagklgodcbmcaaa
