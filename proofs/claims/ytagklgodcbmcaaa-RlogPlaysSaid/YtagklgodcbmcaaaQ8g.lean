/-
  Chapter 8: the document's log: New, Match. (Printed by gen_q8g.py.)
-/
import Derived.Test.YtagklgodcbmcaaaQ8f
namespace Go.Proofs.Ytagklgodcbmcaaa
open Go.RowKit
theorem takeL_cons (g : LG) (e : En) (r : List En) : takeL g (e :: r) = if g.last + 1 < e.ix then g else if e.ix = g.last + 1 then takeL ⟨g.b, g.l ++ [e]⟩ r else takeL g r := rfl
set_option maxRecDepth 100000 in
set_option maxHeartbeats 8000000 in
theorem rl_new (x : Bas) (xv lv : Value) (l : List En) (w0 w : World) (hw : Only [] w0 w) (hxv : RfS w xv 1 x.vs.length (gvs x.vs)) (hxb : ∀ q, xv.ownBlock = some q → w0.heap.size ≤ q ∧ q < w.heap.size) (hl : RfS w lv 4 l.length (enL l)) (h0 : 0 ≤ x.ix) (h1 : x.ix + l.length ≤ 900000) (h2 : x.vs.length ≤ 1000) :
    Calls Try.prog 33 #[x.val xv, lv] w fun e w' => ∃ r K, e = .returned (.pointer (some ⟨r, 0, none⟩)) ∧ RlK w' K r (takeL ⟨x, []⟩ l) ∧ Only [] w w' ∧ ∀ q, q ∈ K → w0.heap.size ≤ q := by
  obtain ⟨i0, hi0, hz0, hz1, hz2⟩ := info_parts info_ent
  obtain ⟨XA, xc, rfl, _, _⟩ := hxv.shape
  obtain ⟨LA, lc, rfl, _, _⟩ := hl.shape
  have HXV := Lib.hid hxv
  have HXB := Lib.hid hxb
  have HL := Lib.hid hl
  have HW := Lib.hid hw.size
  obtain ⟨M, hM⟩ : ∃ M, l.length = M := ⟨_, rfl⟩
  have HM := Lib.hid hM
  rw [hM] at h1 ⊢
  unfold Bas.val
  clear hxv hxb hl hw hM
  go_enter Try.func33, Try.ntmps33
  go_wp2_with fail
  have hoA : Only [] w (w.alloc (.cells #[.int .i64 x.ix, .int .i64 x.tm, .slice XA x.vs.length xc, .string x.d] 27)) := (Only.refl _ w).alloc _
  obtain ⟨w1, hw1⟩ : ∃ w1, w.alloc (.cells #[.int .i64 x.ix, .int .i64 x.tm, .slice XA x.vs.length xc, .string x.d] 27) = w1 := ⟨_, rfl⟩
  have hs1 : w1.heap.size = w.heap.size + 1 := by rw [← hw1]; simp
  rw [hw1] at hoA ⊢
  clear hw1
  have hoB := hoA.alloc (.cells #[.int .i64 x.ix, .int .i64 x.tm, .slice XA x.vs.length xc, .string x.d, .slice none 0 0] 96)
  have hC := Cells.new w1 96 [.int .i64 x.ix, .int .i64 x.tm, .slice XA x.vs.length xc, .string x.d, .slice none 0 0]
  obtain ⟨w2, hw2⟩ : ∃ w2, w1.alloc (.cells #[.int .i64 x.ix, .int .i64 x.tm, .slice XA x.vs.length xc, .string x.d, .slice none 0 0] 96) = w2 := ⟨_, rfl⟩
  obtain ⟨r, hr⟩ : ∃ r, w1.heap.size = r := ⟨_, rfl⟩
  have hrw : w.heap.size < r := by omega
  first
  | (rw [hw2] at hoB hC ⊢; rw [hr] at hC ⊢)
  | (rw [hw2, hr] at hC; rw [hw2] at hoB; rw [← hs1, hw2, hr])
  clear hw2 hr hs1 hoA
  have hRV : RlV w2 r (.slice XA x.vs.length xc) (.slice none 0 0) ⟨x, []⟩ :=
    ⟨hC, RfS.of_own (World.ownsRow_nil w2 w2.heap.size 40 4) (enL_one []), HXV.out.only hoB, by simp [Value.ownBlock], fun h => by have := (HXB.out r h).2; omega, fun q hq => by simp [Value.ownBlock] at hq, fun q hq => Nat.lt_of_lt_of_le (HXB.out q hq).2 hoB.size, h0, by simp; omega, h2⟩
  have HRV := Lib.hid hRV
  have HOB := Lib.hid hoB
  clear hRV hoB hC
  go_loopw [6] (fun i wr => ∃ (k : Nat) (gl : List En) (ev : Value), k ≤ M ∧ i = .int .i64 k ∧ Hid (RlV wr r (.slice XA x.vs.length xc) ev ⟨x, gl⟩) ∧ Hid (∀ q, ev.ownBlock = some q → w.heap.size ≤ q) ∧ Hid (Only [] w wr) ∧ Hid (takeL ⟨x, []⟩ l = takeL ⟨x, gl⟩ (l.drop k)) ∧ gl.length ≤ k) (fun i _ => M - (intOf i).toNat)
  case atStart => exact ⟨0, [], .slice none 0 0, by omega, rfl, HRV, Lib.hid (fun q hq => by simp [Value.ownBlock] at hq), HOB, Lib.hid (by simp), by simp⟩
  case round =>
    obtain ⟨k, gl, ev, hk, rfl, hR, hQ, ho, hT, hlen⟩ := hrel
    have hfin : RlV wr r (.slice XA x.vs.length xc) ev ⟨x, gl⟩ → ∃ K, RlK wr K r ⟨x, gl⟩ ∧ ∀ q, q ∈ K → w0.heap.size ≤ q := fun h => by
      refine ⟨lk r (.slice XA x.vs.length xc) ev, ⟨_, _, h, fun _ hx => hx, h.lt⟩, fun q hq => ?_⟩
      simp only [lk, List.mem_cons, List.mem_append, mem_rb] at hq
      have := HW.out
      rcases hq with rfl | hq | hq
      · omega
      · have := hQ.out q hq; omega
      · exact (HXB.out q hq).1
    have HFIN := Lib.hid hfin
    clear hfin
    by_cases hlt : k < M
    · have hlt' : (k : Int) < (M : Int) := by omega
      obtain ⟨y, hy⟩ : ∃ y, l[k]? = some y := ⟨_, List.getElem?_eq_getElem (by rw [HM.out]; exact hlt)⟩
      have hdr : l.drop k = y :: l.drop (k + 1) := by
        have hk1 := (List.getElem?_eq_some_iff.1 hy).1
        rw [List.drop_eq_getElem_cons hk1]
        rw [List.getElem?_eq_getElem hk1] at hy
        injection hy with hy; rw [hy]
      have hT2 : Hid (takeL ⟨x, []⟩ l = if (⟨x, gl⟩ : LG).last + 1 < y.ix then ⟨x, gl⟩ else if y.ix = (⟨x, gl⟩ : LG).last + 1 then takeL ⟨x, gl ++ [y]⟩ (l.drop (k + 1)) else takeL ⟨x, gl⟩ (l.drop (k + 1))) := by show _ = _; rw [hT.out, hdr, takeL_cons]
      have hLr := HL.out.only ho.out
      obtain ⟨q, o, c', hv, e0, e1, e2, e3⟩ := enL_at hLr.sl hy
      rw [HM.out] at hv
      injection hv with i1 i2 i3
      subst i1
      subst i3
      have z0 := fun u : Since wr => u.cell e0
      have hqlt : q < wr.heap.size := World.block_lt_of_cell? wr _ e0
      obtain ⟨last, hlast⟩ : ∃ q, (⟨x, gl⟩ : LG).last = q := ⟨_, rfl⟩
      have hlastb : 0 ≤ last ∧ last ≤ 900000 := by rw [← hlast]; unfold LG.last; dsimp only; omega
      obtain ⟨hlb0, hlb1⟩ := hlastb
      have CL := Lib.hid (fun w' (ho' : Only [] wr w') => rl_last r _ ev _ w' (hR.out.only ho'))
      rw [hlast] at CL hT2
      have HLAST := Lib.hid hlast
      have sw1 : IntKind.i64.wrap (last + 1) = last + 1 := IntWalk.i64_in _ (by omega)
      have HE : Hid (∀ (w5 : World), Only [] wr w5 → w5.cell? ⟨q, o + k * 4, none⟩ = some (.int .i64 y.ix) ∧ w5.cell? ⟨q, o + k * 4 + 1, none⟩ = some (.int .i64 y.tm) ∧ w5.cell? ⟨q, o + k * 4 + 2, none⟩ = some (.int .i64 y.kd) ∧ w5.cell? ⟨q, o + k * 4 + 3, none⟩ = some (.string y.d)) := Lib.hid fun w5 ho5 =>
        ⟨(ho5.cell (p := ⟨q, o + k * 4, none⟩) hqlt (by simp)).trans e0, (ho5.cell (p := ⟨q, o + k * 4 + 1, none⟩) hqlt (by simp)).trans e1, (ho5.cell (p := ⟨q, o + k * 4 + 2, none⟩) hqlt (by simp)).trans e2, (ho5.cell (p := ⟨q, o + k * 4 + 3, none⟩) hqlt (by simp)).trans e3⟩
      clear i2 hdr hy hLr e0 e1 e2 e3 hlast
      by_cases hb : last + 1 < y.ix
      · have d1 : decide (last + 1 < y.ix) = true := by simpa using hb
        have hT3 : Hid (takeL ⟨x, []⟩ l = ⟨x, gl⟩) := by show _ = _; rw [hT2.out, if_pos hb]
        clear hqlt
        go_wp2_with fail
        refine wp_region_only wr (Only.refl _ _) (by kernel_rfl) (by kernel_rfl) ?_
        repeat (go_big_quiet_step ((go_at_call 38; refine Calls.only (CL.out _ (Since.h _)))))
        refine wpQuiet_nil ?_
        rintro ⟨w5, ho5⟩
        dsimp only
        clear z0
        go_wp2_with fail
        go_ret
        obtain ⟨K, hK1, hK2⟩ := HFIN.out hR.out
        exact ⟨r, K, rfl, by rw [hT3.out]; exact hK1.only ho5, ho.out.tr ho5, hK2⟩
      · have d1 : decide (last + 1 < y.ix) = false := by simpa using hb
        by_cases he : y.ix = last + 1
        · have d2 : (y.ix == last + 1) = true := by simpa using he
          have hT3 : Hid (takeL ⟨x, []⟩ l = takeL ⟨x, gl ++ [y]⟩ (l.drop (k + 1))) := by show _ = _; rw [hT2.out, if_neg hb, if_pos he]
          clear he
          go_wp2_with fail
          refine wp_region_only wr (Only.refl _ _) (by kernel_rfl) (by kernel_rfl) ?_
          repeat (go_big_quiet_step ((go_at_call 38; refine Calls.only (CL.out _ (Since.h _)))))
          refine wpQuiet_nil ?_
          rintro ⟨w5, ho5⟩
          dsimp only
          clear z0
          have z0 := fun u : Since w5 => u.cell ((HE.out w5 ho5).1)
          go_wp2_with fail
          refine wp_region_only w5 (Only.refl _ _) (by kernel_rfl) (by kernel_rfl) ?_
          repeat (go_big_quiet_step ((go_at_call 38; refine Calls.only (CL.out _ (ho5.tr (Since.h _))))))
          refine wpQuiet_nil ?_
          rintro ⟨W6, ho6⟩
          dsimp only
          clear z0
          have hoW := ho5.tr ho6
          obtain ⟨e0, e1, e2, e3⟩ := HE.out W6 hoW
          have z0 := fun u : Since W6 => u.cell e0
          have z1 := fun u : Since W6 => u.cell e1
          have z2 := fun u : Since W6 => u.cell e2
          have z3 := fun u : Since W6 => u.cell e3
          have hRW := hR.out.only hoW
          obtain ⟨EA, ec, rfl, _, _⟩ := hRW.ents.shape
          have HRW := Lib.hid hRW
          obtain ⟨P, hP⟩ : ∃ P, gl.length = P := ⟨_, rfl⟩
          have HP := Lib.hid hP
          have k4 := fun u : Since W6 => u.cell (hRW.cells.cell (k := 4) rfl)
          have HSrc := Lib.hid (hRW.ents.src (by decide))
          rw [show (⟨x, gl⟩ : LG).l.length = P from hP] at k4 HSrc
          rw [hP] at hlen
          have HRoom : Hid (x.ix + ((P + 1 : Nat) : Int) ≤ 1000000) := by show _ ≤ _; omega
          have HOW := Lib.hid (ho.out.tr hoW)
          clear ho6 ho5 hoW e0 e1 e2 e3 hRW hP CL HE hR ho hT hT2
          go_wp2_with fail
          refine wp_region_pendN W6 (Only.refl _ _) [(35, OwW W6.heap.size 40 4 0 []), (40, OwW W6.heap.size 40 4 P (enL gl)), (45, OwW W6.heap.size 40 4 1 y.cells), (46, OwW W6.heap.size 40 4 (P + 1) (enL gl ++ y.cells))] [(40, 35), (46, 40)] 15 (by intro p hp; simp at hp; rcases hp with rfl | rfl | rfl | rfl <;> exact OwW.lasts _ _ _ _ _) (by kernel_rfl) (by kernel_rfl) (by decide) (fun val => ?_)
          simp only [List.take_succ_cons, List.take_zero, List.drop_succ_cons, List.drop_zero]
          refine fit_segN 1 (by kernel_rfl) ?_
          simp only [List.take_succ_cons, List.take_zero, List.drop_succ_cons, List.drop_zero]
          repeat (go_big_quiet_step (fail))
          refine wpQuiet_nil ?_
          refine fit_litO 35 40 4 [] 0 rfl rfl (by simp) (by simp) rfl (by decide) (fun w5 => by go_simp) rfl ?_
          simp only [Act.put, List.setIfInBounds_toArray, List.set_cons_zero, List.set_cons_succ]
          refine fit_segN 4 (by kernel_rfl) ?_
          simp only [List.take_succ_cons, List.take_zero, List.drop_succ_cons, List.drop_zero]
          repeat (go_big_quiet_step (fail))
          refine wpQuiet_nil ?_
          refine fit_append 40 35 (.tmp 39) 31 40 i0 (.agg #[.int .i64 0, .int .i64 0, .int .i64 0, .string ⟨#[]⟩]) 4 40 Try.underlying31 hi0 hz0 hz1 hz2 rfl (by decide) 0 P P [] (enL gl) (enL gl) (by omega) rfl rfl rfl rfl (by simp) (by simp) (by simp) (by decide) rfl rfl (fun w5 hw5 => HSrc.out.only hw5.1) (by unfold maxLen; omega) (by omega) rfl ?_
          simp only [Act.put, List.setIfInBounds_toArray, List.set_cons_zero, List.set_cons_succ]
          refine fit_segN 4 (by kernel_rfl) ?_
          simp only [List.take_succ_cons, List.take_zero, List.drop_succ_cons, List.drop_zero]
          repeat (go_big_quiet_step (fail))
          refine wpQuiet_nil ?_
          refine fit_litO 45 40 4 y.cells 1 rfl rfl (by simp) (by simp) rfl (by decide) (fun w5 => by unfold En.cells; go_simp) rfl ?_
          simp only [Act.put, List.setIfInBounds_toArray, List.set_cons_zero, List.set_cons_succ]
          refine fit_append 46 40 (.tmp 45) 31 40 i0 (.agg #[.int .i64 0, .int .i64 0, .int .i64 0, .string ⟨#[]⟩]) 4 40 Try.underlying31 hi0 hz0 hz1 hz2 rfl (by decide) P 1 (P + 1) (enL gl) y.cells (enL gl ++ y.cells) (by omega) rfl rfl rfl rfl (by simp) (by simp) (by simp) (by decide) rfl rfl (fun w5 hw5 => SrcA.own (hw5.2 (45, OwW W6.heap.size 40 4 1 y.cells) (by simp) (by show 45 ∈ Oper.looksAt _ _; decide)) (by simp [En.cells, Value.oneCell'])) (by unfold maxLen; omega) (by omega) rfl ?_
          simp only [Act.put, List.setIfInBounds_toArray, List.set_cons_zero, List.set_cons_succ]
          refine fit_segN 2 (by kernel_rfl) ?_
          simp only [List.take_succ_cons, List.take_zero, List.drop_succ_cons, List.drop_zero]
          repeat (go_big_quiet_step (fail))
          refine wpQuiet_nil ?_
          intro w5 ho5 hV5
          have hown5 : w5.ownsRow W6.heap.size 40 4 (val 46) (P + 1) (enL gl ++ y.cells) := hV5 (by decide) (46, OwW W6.heap.size 40 4 (P + 1) (enL gl ++ y.cells)) (by simp) (by simp)
          obtain ⟨uu, huu⟩ : ∃ u, val 46 = u := ⟨_, rfl⟩
          rw [huu] at hown5 ⊢
          obtain ⟨A5, c5, rfl⟩ := (SlAt.of_own hown5).shape
          have hR5 := HRW.out.only ho5
          have hl5 : (gl ++ [y]).length = P + 1 := by rw [List.length_append, HP.out]; rfl
          have he5 : enL (gl ++ [y]) = enL gl ++ y.cells := by rw [enL_append]; simp [enL]
          have hnr : ∀ q, (Value.slice A5 (P + 1) c5).ownBlock = some q → W6.heap.size ≤ q ∧ q < w5.heap.size := fun q hq => hown5.lt q hq
          have hSet := hR5.setE (ev' := .slice A5 (P + 1) c5) (l' := gl ++ [y]) (by rw [hl5, he5]; exact RfS.of_own hown5 (by rw [← he5]; exact enL_one _)) (by rw [hl5]; exact HRoom.out) (fun hq => by have := (hnr r hq).1; have := HRW.out.cells.lt; omega) (fun q hq => (hnr q hq).2)
          have HSET := Lib.hid hSet
          have HNR := Lib.hid hnr
          have d4 := hR5.cells.cell (k := 4) rfl
          have f4 := hR5.cells.frozen 4
          have hb5 := hR5.cells.lt
          have HO5 := Lib.hid ho5
          clear hR5 hown5 hV5 huu hSet hnr ho5
          clear z0 z1 z2 z3 k4
          have HRN : Hid (RlV (w5.setCell ⟨r, 4, none⟩ (.slice A5 (P + 1) c5)) r (.slice XA x.vs.length xc) (.slice A5 (P + 1) c5) ⟨x, gl ++ [y]⟩) := Lib.hid HSET.out.1
          have HQN : Hid (∀ q, (Value.slice A5 (P + 1) c5).ownBlock = some q → w.heap.size ≤ q) := Lib.hid fun q hq => Nat.le_trans HOW.out.size (HNR.out q hq).1
          have HON : Hid (Only [] w (w5.setCell ⟨r, 4, none⟩ (.slice A5 (P + 1) c5))) := Lib.hid ((HOW.out.tr HO5.out).setCell (.inr (by show w.heap.size ≤ r; omega)) _)
          go_wp2_with fail
          go_roundw
          case rel => exact ⟨k + 1, gl ++ [y], _, by omega, by go_num, HRN, HQN, HON, hT3, by rw [hl5]; omega⟩
          case measure => simp [intOf]; omega
        · have d2 : (y.ix == last + 1) = false := by simpa using he
          have hT3 : Hid (takeL ⟨x, []⟩ l = takeL ⟨x, gl⟩ (l.drop (k + 1))) := by show _ = _; rw [hT2.out, if_neg hb, if_neg he]
          go_wp2_with fail
          refine wp_region_only wr (Only.refl _ _) (by kernel_rfl) (by kernel_rfl) ?_
          repeat (go_big_quiet_step ((go_at_call 38; refine Calls.only (CL.out _ (Since.h _)))))
          refine wpQuiet_nil ?_
          rintro ⟨w5, ho5⟩
          dsimp only
          clear z0
          have z0 := fun u : Since w5 => u.cell ((HE.out w5 ho5).1)
          go_wp2_with fail
          refine wp_region_only w5 (Only.refl _ _) (by kernel_rfl) (by kernel_rfl) ?_
          repeat (go_big_quiet_step ((go_at_call 38; refine Calls.only (CL.out _ (ho5.tr (Since.h _))))))
          refine wpQuiet_nil ?_
          rintro ⟨W6, ho6⟩
          dsimp only
          clear z0
          have HRN := Lib.hid (hR.out.only (ho5.tr ho6))
          have HON := Lib.hid (ho.out.tr (ho5.tr ho6))
          clear ho5 ho6
          go_wp2_with fail
          go_roundw
          case rel => exact ⟨k + 1, gl, ev, by omega, by go_num, HRN, hQ, HON, hT3, by omega⟩
          case measure => simp [intOf]; omega
    · have hd : decide ((k : Int) < (M : Int)) = false := by simp; omega
      have hT3 : Hid (takeL ⟨x, []⟩ l = ⟨x, gl⟩) := by show _ = _; rw [hT.out, List.drop_eq_nil_of_le (by rw [HM.out]; omega)]; rfl
      go_wp2_with fail
      go_ret
      obtain ⟨K, hK1, hK2⟩ := HFIN.out hR.out
      exact ⟨r, K, rfl, by rw [hT3.out]; exact hK1, ho.out, hK2⟩
end Go.Proofs.Ytagklgodcbmcaaa
