/-
  RlogNewer: the walk.
-/
import Derived.Test.YtagklgodcbmcaaaR8r
namespace Go.Proofs.Ytagklgodcbmcaaa
open Go.RowKit
set_option maxRecDepth 100000 in
set_option maxHeartbeats 8000000 in
theorem rlogNewer_walk (W : World) (b : Int) (wb : (Lit.int .i64 b).wf = true) (v : Value) (ps : List Pt) (hps : PtsAt W v ps) (_ : True) (c : Int) (wc : (Lit.int .i64 c).wf = true) (v2 : Value) (qs : List Pt) (hqs : PtsAt W v2 qs) (_ : True) :
    Calls Try.prog 6 #[.int .i64 b, v, .int .i64 c, v2] W fun e W' => e = .returned (.bool true) ∧ Only [] W W' := by
  have hwb := wide64_of_wf wb
  have hwc := wide64_of_wf wc
  have CSps := Lib.hid (fun w (ho : Only [] W w) => small8 v ps w (hps.only ho))
  obtain ⟨Ap, cp, rfl⟩ := hps.shape
  have HPps := Lib.hid hps
  clear hps
  have CSqs := Lib.hid (fun w (ho : Only [] W w) => small8 v2 qs w (hqs.only ho))
  obtain ⟨Aq, cq, rfl⟩ := hqs.shape
  have HPqs := Lib.hid hqs
  clear hqs
  cases hsm : smallB ps with
  | false =>
    rw [hsm] at CSps
    cases hsn : smallB qs <;> rw [hsn] at CSqs
    all_goals
      go_enter Try.func6, Try.ntmps6
      go_wp2_with fail
      refine (shown8 W).mono ?_
      rintro e w1 ⟨rfl, ho1⟩
      have o1 := Lib.hid ho1
      clear ho1
      go_wp2_with fail
      refine (CSps.out _ o1.out).mono ?_
      rintro e w2 ⟨rfl, ho⟩
      have o2 := Lib.hid (o1.out.tr ho)
      clear ho CSps
      go_wp2_with fail
      refine (CSqs.out _ o2.out).mono ?_
      rintro e w3 ⟨rfl, ho⟩
      have o3 := Lib.hid (o2.out.tr ho)
      clear ho CSqs
      go_wp2_with fail
      go_ret
      exact ⟨rfl, o3.out⟩
  | true =>
  cases hsn : smallB qs with
  | false =>
    rw [hsm] at CSps
    rw [hsn] at CSqs
    go_enter Try.func6, Try.ntmps6
    go_wp2_with fail
    refine (shown8 W).mono ?_
    rintro e w1 ⟨rfl, ho1⟩
    have o1 := Lib.hid ho1
    clear ho1
    go_wp2_with fail
    refine (CSps.out _ o1.out).mono ?_
    rintro e w2 ⟨rfl, ho⟩
    have o2 := Lib.hid (o1.out.tr ho)
    clear ho CSps
    go_wp2_with fail
    refine (CSqs.out _ o2.out).mono ?_
    rintro e w3 ⟨rfl, ho⟩
    have o3 := Lib.hid (o2.out.tr ho)
    clear ho CSqs
    go_wp2_with fail
    go_ret
    exact ⟨rfl, o3.out⟩
  | true =>
    rw [hsm] at CSps
    rw [hsn] at CSqs
    have h60ps := (smallB_iff hsm).1
    have h60qs := (smallB_iff hsn).1
    have HSMps := Lib.hid hsm
    have HSMqs := Lib.hid hsn
    clear hsm hsn
    go_enter Try.func6, Try.ntmps6
    go_wp2_with fail
    refine (shown8 W).mono ?_
    rintro e w1 ⟨rfl, ho1⟩
    have o1 := Lib.hid ho1
    clear ho1
    go_wp2_with fail
    refine (CSps.out _ o1.out).mono ?_
    rintro e w2 ⟨rfl, ho⟩
    have o2 := Lib.hid (o1.out.tr ho)
    clear ho CSps
    go_wp2_with fail
    refine (CSqs.out _ o2.out).mono ?_
    rintro e w3 ⟨rfl, ho⟩
    have o3 := Lib.hid (o2.out.tr ho)
    clear ho CSqs
    go_wp2_with fail
    refine (base8 b 1 w3 hwb ⟨by omega, by omega⟩).mono ?_
    rintro e w40 ⟨v', rfl, hown, ho3⟩
    obtain ⟨hb0x, hb30x, hb3x⟩ := bas_bound b 1
    obtain ⟨x, hxx⟩ : ∃ x, bas b 1 = x := ⟨_, rfl⟩
    rw [hxx] at hown hb0x hb30x hb3x ⊢
    have HRx := Lib.hid (own_low hown o3.out.size)
    obtain ⟨Ax, cx, rfl⟩ := (SlAt.of_own hown).shape
    have HB3x := Lib.hid hb3x
    have HXEx := Lib.hid hxx
    have o9 := Lib.hid (o3.out.tr ho3)
    unfold Bas.val
    clear hown hxx hb3x
    go_wp2_with fail
    have HXx := Lib.hid (Cells.new w40 27 [.int .i64 x.ix, .int .i64 x.tm, .slice Ax x.vs.length cx, .string x.d])
    have o4 := Lib.hid (o9.out.alloc (.cells #[.int .i64 x.ix, .int .i64 x.tm, .slice Ax x.vs.length cx, .string x.d] 27))
    have HVx := Lib.hid (HRx.out.alloc (.cells #[.int .i64 x.ix, .int .i64 x.tm, .slice Ax x.vs.length cx, .string x.d] 27))
    obtain ⟨w4, hwo⟩ : ∃ q, w40.alloc (.cells #[.int .i64 x.ix, .int .i64 x.tm, .slice Ax x.vs.length cx, .string x.d] 27) = q := ⟨_, rfl⟩
    obtain ⟨z, hz⟩ : ∃ q, w40.heap.size = q := ⟨_, rfl⟩
    have hzwz : W.heap.size ≤ z := by rw [← hz]; exact o9.out.size
    have ox := Lib.hid (ho3.alloc (.cells #[.int .i64 x.ix, .int .i64 x.tm, .slice Ax x.vs.length cx, .string x.d] 27))
    rw [hwo] at HXx o4 HVx ox ⊢
    rw [hz] at HXx ⊢
    clear hwo hz o9 ho3 HRx
    go_wp2_with fail
    refine (base8 c 1 w4 hwc ⟨by omega, by omega⟩).mono ?_
    rintro e w50 ⟨v', rfl, hown, ho3⟩
    obtain ⟨hb0y, hb30y, hb3y⟩ := bas_bound c 1
    obtain ⟨y, hxy⟩ : ∃ y, bas c 1 = y := ⟨_, rfl⟩
    rw [hxy] at hown hb0y hb30y hb3y ⊢
    have HRy := Lib.hid (own_low hown o4.out.size)
    obtain ⟨Ay, cy, rfl⟩ := (SlAt.of_own hown).shape
    have HB3y := Lib.hid hb3y
    have HXEy := Lib.hid hxy
    have o9 := Lib.hid (o4.out.tr ho3)
    unfold Bas.val
    clear hown hxy hb3y
    go_wp2_with fail
    have HXy := Lib.hid (Cells.new w50 27 [.int .i64 y.ix, .int .i64 y.tm, .slice Ay y.vs.length cy, .string y.d])
    have o5 := Lib.hid (o9.out.alloc (.cells #[.int .i64 y.ix, .int .i64 y.tm, .slice Ay y.vs.length cy, .string y.d] 27))
    have HVy := Lib.hid (HRy.out.alloc (.cells #[.int .i64 y.ix, .int .i64 y.tm, .slice Ay y.vs.length cy, .string y.d] 27))
    obtain ⟨w5, hwo⟩ : ∃ q, w50.alloc (.cells #[.int .i64 y.ix, .int .i64 y.tm, .slice Ay y.vs.length cy, .string y.d] 27) = q := ⟨_, rfl⟩
    obtain ⟨zy, hz⟩ : ∃ q, w50.heap.size = q := ⟨_, rfl⟩
    have hzwzy : W.heap.size ≤ zy := by rw [← hz]; exact o9.out.size
    have oy := Lib.hid (ho3.alloc (.cells #[.int .i64 y.ix, .int .i64 y.tm, .slice Ay y.vs.length cy, .string y.d] 27))
    rw [hwo] at HXy o5 HVy oy ⊢
    rw [hz] at HXy ⊢
    clear hwo hz o9 ho3 HRy
    have HXx := Lib.hid (HXx.out.only oy.out (by simp))
    have HVx := Lib.hid (own_keep HVx.out oy.out (by simp))
    have CE := Lib.hid (fun w' (ho : Only [] w5 w') => entries8 (.slice Ap ps.length cp) ps (x.ix + 1) w' (HPps.out.only (o5.out.tr ho)) HSMps.out (by omega) (by omega))
    have HS := Lib.hid (fun w' (ho : Only [] w5 w') => bas_cells (HXx.out.only ho (by simp)))
    have sw1 : IntKind.i64.wrap (x.ix + 1) = x.ix + 1 := IntWalk.i64_in _ (by omega)
    go_wp2_with fail
    go_region_held3 (fun w' : World => w'.cell? ⟨z, 0, none⟩ = some (.int .i64 x.ix) ∧ w'.cell? ⟨z, 1, none⟩ = some (.int .i64 x.tm) ∧ w'.cell? ⟨z, 2, none⟩ = some (.slice Ax x.vs.length cx) ∧ w'.cell? ⟨z, 3, none⟩ = some (.string x.d))
      (exact HS.out _ (by repeat (first | exact Only.refl _ _ | refine Only.drew ?_ | refine Only.alloc ?_ _ | refine Only.tr ?_ (by assumption) | refine Only.tr ?_ (Lib.Hid.out (by assumption)))))
      (first
        | (go_at_call 19; refine (CE.out _ (Only.refl _ _).drew).mono ?_; rintro e wa ⟨va, rfl, hra, hoa⟩; obtain ⟨Aa, ca, rfl⟩ := (SlAt.of_own hra).shape; have HRA := Lib.hid hra; clear hra)
        | (go_at_call 18; refine (la_newE (o5.out.drew.tr hoa) x (.slice Ax x.vs.length cx) _ ps _ _ (own_keep HVx.out (((Only.refl _ _).drew).tr hoa) (by simp)) HRA.out hb0x hb30x HB3x.out h60ps (entL_dok HPps.out HSMps.out _)).mono ?_; rintro e w6 ⟨bg, K1, rfl, hG, oL, kL⟩))
    rename_i hHeld
    clear hHeld
    have oN : Hid (Only [] w5 w6) := Lib.hid ((((Only.refl _ _).drew).tr hoa).tr oL.out)
    have HNbg : Hid (∀ q, q ∈ K1 → w5.heap.size ≤ q) := Lib.hid fun q hq => Nat.le_trans (hoa.size) (kL.out q hq)
    clear CE HS sw1 hoa oL kL HRA
    have o6 := Lib.hid (o5.out.tr oN.out)
    have HXy := Lib.hid (HXy.out.only oN.out (by simp))
    have HVy := Lib.hid (own_keep HVy.out oN.out (by simp))
    clear HXx HVx oN
    have CE := Lib.hid (fun w' (ho : Only [] w6 w') => entries8 (.slice Aq qs.length cq) qs (y.ix + 1) w' (HPqs.out.only (o6.out.tr ho)) HSMqs.out (by omega) (by omega))
    have HS := Lib.hid (fun w' (ho : Only [] w6 w') => bas_cells (HXy.out.only ho (by simp)))
    have sw1 : IntKind.i64.wrap (y.ix + 1) = y.ix + 1 := IntWalk.i64_in _ (by omega)
    go_wp2_with fail
    go_region_held3 (fun w' : World => w'.cell? ⟨zy, 0, none⟩ = some (.int .i64 y.ix) ∧ w'.cell? ⟨zy, 1, none⟩ = some (.int .i64 y.tm) ∧ w'.cell? ⟨zy, 2, none⟩ = some (.slice Ay y.vs.length cy) ∧ w'.cell? ⟨zy, 3, none⟩ = some (.string y.d))
      (exact HS.out _ (by repeat (first | exact Only.refl _ _ | refine Only.drew ?_ | refine Only.alloc ?_ _ | refine Only.tr ?_ (by assumption) | refine Only.tr ?_ (Lib.Hid.out (by assumption)))))
      (first
        | (go_at_call 19; refine (CE.out _ (Only.refl _ _).drew).mono ?_; rintro e wa ⟨va, rfl, hra, hoa⟩; obtain ⟨Aa, ca, rfl⟩ := (SlAt.of_own hra).shape; have HRA := Lib.hid hra; clear hra)
        | (go_at_call 18; refine (la_newE (o6.out.drew.tr hoa) y (.slice Ay y.vs.length cy) _ qs _ _ (own_keep HVy.out (((Only.refl _ _).drew).tr hoa) (by simp)) HRA.out hb0y hb30y HB3y.out h60qs (entL_dok HPqs.out HSMqs.out _)).mono ?_; rintro e w7 ⟨bh, K2, rfl, hH, oL, kL⟩))
    rename_i hHeld
    clear hHeld
    have oN : Hid (Only [] w6 w7) := Lib.hid ((((Only.refl _ _).drew).tr hoa).tr oL.out)
    have HNbh : Hid (∀ q, q ∈ K2 → w6.heap.size ≤ q) := Lib.hid fun q hq => Nat.le_trans (hoa.size) (kL.out q hq)
    clear CE HS sw1 hoa oL kL HRA
    have o7 := Lib.hid (o6.out.tr oN.out)
    have hG := Lib.hid (hG.out.to oN.out)
    obtain ⟨g, hg⟩ : ∃ g, (⟨x, entL ps (x.ix + 1)⟩ : LG) = g := ⟨_, rfl⟩
    obtain ⟨h, hh⟩ : ∃ h, (⟨y, entL qs (y.ix + 1)⟩ : LG) = h := ⟨_, rfl⟩
    rw [hg] at hG
    rw [hh] at hH
    clear hg hh oN HXy HVy
    obtain ⟨t, ht⟩ : ∃ t, (g.term g.last).1 = t := ⟨_, rfl⟩
    obtain ⟨tb, htb⟩ : ∃ t, (g.term g.last).2 = t := ⟨_, rfl⟩
    obtain ⟨u, hu⟩ : ∃ t, (h.term h.last).1 = t := ⟨_, rfl⟩
    obtain ⟨ub, hub⟩ : ∃ t, (h.term h.last).2 = t := ⟨_, rfl⟩
    obtain ⟨r1, hr1⟩ : ∃ r, g.newer h.last u = r := ⟨_, rfl⟩
    obtain ⟨r2, hr2⟩ : ∃ r, h.newer g.last t = r := ⟨_, rfl⟩
    have HT : Hid (g.term g.last = (t, tb)) := by show _ = _; rw [← ht, ← htb]
    have HU : Hid (h.term h.last = (u, ub)) := by show _ = _; rw [← hu, ← hub]
    have HR1 := Lib.hid hr1
    have HR2 := Lib.hid hr2
    have key : Hid ((r1 = true ∧ r2 = false ∧ (t == u) = false) ∨ (r1 = false ∧ r2 = true ∧ (t == u) = false) ∨ (r1 = true ∧ r2 = false ∧ (t == u) = true ∧ (g.last == h.last) = false) ∨ (r1 = false ∧ r2 = true ∧ (t == u) = true ∧ (g.last == h.last) = false) ∨ (r1 = true ∧ r2 = true ∧ (t == u) = true ∧ (g.last == h.last) = true)) := by
      show _ ∨ _
      subst hr1 hr2
      unfold LG.newer
      rw [ht, hu]
      rcases Int.lt_trichotomy t u with h1 | h1 | h1
      · left
        refine ⟨by simp [h1], ?_, by simp; omega⟩
        rw [show decide (u < t) = false from by simp; omega, show (t == u) = false from by simp; omega]; rfl
      · right; right
        rw [show decide (t < u) = false from by simp; omega, show decide (u < t) = false from by simp; omega, show (t == u) = true from by simp; omega, show (u == t) = true from by simp; omega]
        rcases Int.lt_trichotomy g.last h.last with h2 | h2 | h2
        · left
          exact ⟨by simp; omega, by simp; omega, rfl, by simp; omega⟩
        · right; right
          exact ⟨by simp; omega, by simp; omega, rfl, by simp; omega⟩
        · right; left
          exact ⟨by simp; omega, by simp; omega, rfl, by simp; omega⟩
      · right; left
        refine ⟨?_, by simp [h1], by simp; omega⟩
        rw [show decide (t < u) = false from by simp; omega, show (u == t) = false from by simp; omega]; rfl
    obtain ⟨gl, hgl⟩ : ∃ q, g.last = q := ⟨_, rfl⟩
    obtain ⟨hl, hhl⟩ : ∃ q, h.last = q := ⟨_, rfl⟩
    have CLg := Lib.hid (fun w K (hx : Hid (LogAt W w K bg g)) => la_last hx)
    have CLh := Lib.hid (fun w K (hx : Hid (LogAt W w K bh h)) => la_last hx)
    rw [hgl] at HT HR2 key CLg
    rw [hhl] at HU HR1 key CLh
    clear ht htb hu hub hr1 hr2 hgl hhl
    go_wp2_with fail
    refine (CLg.out _ _ hG).mono ?_
    rintro e w8 ⟨rfl, hG, oo⟩
    have hH := Lib.hid (hH.out.to oo.out)
    go_wp2_with fail
    refine (la_term hG gl t tb HT.out).mono ?_
    rintro e w9 ⟨rfl, hG, oo⟩
    have hH := Lib.hid (hH.out.to oo.out)
    go_wp2_with fail
    refine (CLh.out _ _ hH).mono ?_
    rintro e w10 ⟨rfl, hH, oo⟩
    have hG := Lib.hid (hG.out.to oo.out)
    go_wp2_with fail
    refine (la_term hH hl u ub HU.out).mono ?_
    rintro e w11 ⟨rfl, hH, oo⟩
    have hG := Lib.hid (hG.out.to oo.out)
    go_wp2_with fail
    refine (CLh.out _ _ hH).mono ?_
    rintro e w12 ⟨rfl, hH, oo⟩
    have hG := Lib.hid (hG.out.to oo.out)
    go_wp2_with fail
    refine (la_newer hG hl u r1 HR1.out).mono ?_
    rintro e w13 ⟨rfl, hG, oo⟩
    have hH := Lib.hid (hH.out.to oo.out)
    go_wp2_with fail
    refine (CLg.out _ _ hG).mono ?_
    rintro e w14 ⟨rfl, hG, oo⟩
    have hH := Lib.hid (hH.out.to oo.out)
    go_wp2_with fail
    refine (la_newer hH gl t r2 HR2.out).mono ?_
    rintro e w15 ⟨rfl, hH, oo⟩
    have hG := Lib.hid (hG.out.to oo.out)
    clear HR1 HR2 HT HU
    rcases key.out with ⟨rfl, rfl, k1⟩ | ⟨rfl, rfl, k1⟩ | ⟨rfl, rfl, k1, k2⟩ | ⟨rfl, rfl, k1, k2⟩ | ⟨rfl, rfl, k1, k2⟩
    · go_wp2_with fail
      go_ret
      exact ⟨rfl, hG.out.only⟩
    · go_wp2_with fail
      go_ret
      exact ⟨rfl, hG.out.only⟩
    all_goals
      go_wp2_with fail
      refine (CLg.out _ _ hG).mono ?_
      rintro e w16 ⟨rfl, hG, oo⟩
      have hH := Lib.hid (hH.out.to oo.out)
      go_wp2_with fail
      refine (CLh.out _ _ hH).mono ?_
      rintro e w17 ⟨rfl, hH, oo⟩
      go_wp2_with fail
      go_ret
      exact ⟨rfl, hH.out.only⟩
end Go.Proofs.Ytagklgodcbmcaaa
