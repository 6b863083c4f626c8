/-
  RlogRestores: the walk.
-/
import Derived.Test.YtagklgodcbmcaaaR8r
namespace Go.Proofs.Ytagklgodcbmcaaa
open Go.RowKit
attribute [local go_sem] bfld0 bfld1 bfld2 bfld3
theorem restore_flag (g : LG) (y : Bas) (t : Int) (tb : Bool) (h : g.term y.ix = (t, tb)) : (g.restore y).2 = (tb && (t == y.tm)) := by
  unfold LG.restore
  rw [h]
  dsimp only
  split
  · rename_i hc
    rw [hc.1, hc.2]; simp
  · rename_i hc
    cases tb <;> simp at hc ⊢
    exact hc
theorem restore_keep (x : Bas) (l : List En) (y : Bas) (hl : l.length ≤ 1000) (hk : ((⟨x, l⟩ : LG).restore y).2 = true) :
    ∃ m : List En, ((⟨x, l⟩ : LG).restore y) = (⟨y, m⟩, true) ∧ (⟨x, l⟩ : LG).slice (y.ix + 1) 1000 = m ∧ (⟨y, m⟩ : LG).slice (y.ix + 1) 1000 = m ∧ m.length ≤ 1000 := by
  unfold LG.restore at hk ⊢
  split at hk
  · rename_i hc
    rw [if_pos hc]
    have ht := LG.term_ok hc.1
    unfold LG.last at ht
    dsimp only at ht ⊢
    refine ⟨l.drop (y.ix - x.ix).toNat, rfl, ?_, slice_all y _ (by simp; omega), by simp; omega⟩
    unfold LG.slice LG.last
    dsimp only
    split
    · rename_i hc2
      rw [List.drop_eq_nil_of_le (by omega)]
    · rw [show (y.ix + 1 - x.ix - 1).toNat = (y.ix - x.ix).toNat from by omega, List.take_of_length_le (by simp; omega)]
  · simp at hk
theorem restore_drop (g : LG) (y : Bas) (hk : (g.restore y).2 = false) : g.restore y = (⟨y, []⟩, false) := by
  unfold LG.restore at hk ⊢
  split at hk
  · simp at hk
  · rename_i hc
    rw [if_neg hc]
theorem slice_nil (y : Bas) (fr most : Int) (h : y.ix < fr) : (⟨y, []⟩ : LG).slice fr most = [] := by
  unfold LG.slice LG.last
  dsimp only
  rw [if_pos (by simp; omega)]
set_option maxRecDepth 100000 in
set_option maxHeartbeats 8000000 in
theorem rlogRestores_walk (W : World) (b : Int) (wb : (Lit.int .i64 b).wf = true) (v : Value) (ps : List Pt) (hps : PtsAt W v ps) (_ : True) (ix : Int) (wix : (Lit.int .i64 ix).wf = true) (tm : Int) (wtm : (Lit.int .i64 tm).wf = true) :
    Calls Try.prog 8 #[.int .i64 b, v, .int .i64 ix, .int .i64 tm] W fun e W' => e = .returned (.bool true) ∧ Only [] W W' := by
  have hwb := wide64_of_wf wb
  have hwix := wide64_of_wf wix
  have hwtm := wide64_of_wf wtm
  have CSps := Lib.hid (fun w (ho : Only [] W w) => small8 v ps w (hps.only ho))
  obtain ⟨Ap, cp, rfl⟩ := hps.shape
  have HPps := Lib.hid hps
  clear hps
  cases hsm : smallB ps with
  | false =>
    rw [hsm] at CSps
    go_enter Try.func8, Try.ntmps8
    go_wp2_with fail
    refine (shown8 W).mono ?_
    rintro e w1 ⟨rfl, ho1⟩
    have o1 := Lib.hid ho1
    clear ho1
    go_wp2_with fail
    refine (CSps.out _ o1.out).mono ?_
    rintro e w2 ⟨rfl, ho⟩
    have o2 := Lib.hid (o1.out.tr ho)
    clear ho CSps
    go_wp2_with fail
    go_ret
    exact ⟨rfl, o2.out⟩
  | true =>
    rw [hsm] at CSps
    have h60ps := (smallB_iff hsm).1
    have HSMps := Lib.hid hsm
    clear hsm
    go_enter Try.func8, Try.ntmps8
    go_wp2_with fail
    refine (shown8 W).mono ?_
    rintro e w1 ⟨rfl, ho1⟩
    have o1 := Lib.hid ho1
    clear ho1
    go_wp2_with fail
    refine (CSps.out _ o1.out).mono ?_
    rintro e w2 ⟨rfl, ho⟩
    have o2 := Lib.hid (o1.out.tr ho)
    clear ho CSps
    go_wp2_with fail
    refine (base8 b 1 w2 hwb ⟨by omega, by omega⟩).mono ?_
    rintro e w30 ⟨v', rfl, hown, ho3⟩
    obtain ⟨hb0x, hb30x, hb3x⟩ := bas_bound b 1
    obtain ⟨x, hxx⟩ : ∃ x, bas b 1 = x := ⟨_, rfl⟩
    rw [hxx] at hown hb0x hb30x hb3x ⊢
    have HRx := Lib.hid (own_low hown o2.out.size)
    have HQx := Lib.hid hown
    obtain ⟨Ax, cx, rfl⟩ := (SlAt.of_own hown).shape
    have HB3x := Lib.hid hb3x
    have HXEx := Lib.hid hxx
    have o9 := Lib.hid (o2.out.tr ho3)
    unfold Bas.val
    clear hown hxx hb3x
    go_wp2_with fail
    have HXx := Lib.hid (Cells.new w30 27 [.int .i64 x.ix, .int .i64 x.tm, .slice Ax x.vs.length cx, .string x.d])
    have o3 := Lib.hid (o9.out.alloc (.cells #[.int .i64 x.ix, .int .i64 x.tm, .slice Ax x.vs.length cx, .string x.d] 27))
    have HVx := Lib.hid (HRx.out.alloc (.cells #[.int .i64 x.ix, .int .i64 x.tm, .slice Ax x.vs.length cx, .string x.d] 27))
    have HWx := Lib.hid (HQx.out.alloc (.cells #[.int .i64 x.ix, .int .i64 x.tm, .slice Ax x.vs.length cx, .string x.d] 27))
    have HZz := Lib.hid ho3.size
    obtain ⟨w3, hwo⟩ : ∃ q, w30.alloc (.cells #[.int .i64 x.ix, .int .i64 x.tm, .slice Ax x.vs.length cx, .string x.d] 27) = q := ⟨_, rfl⟩
    obtain ⟨z, hz⟩ : ∃ q, w30.heap.size = q := ⟨_, rfl⟩
    have hzwz : W.heap.size ≤ z := by rw [← hz]; exact o9.out.size
    have ox := Lib.hid (ho3.alloc (.cells #[.int .i64 x.ix, .int .i64 x.tm, .slice Ax x.vs.length cx, .string x.d] 27))
    rw [hwo] at HXx o3 HVx HWx ox ⊢
    rw [hz] at HXx HZz ⊢
    clear hwo hz o9 ho3 HRx HQx
    have CE := Lib.hid (fun w' (ho : Only [] w3 w') => entries8 (.slice Ap ps.length cp) ps (x.ix + 1) w' (HPps.out.only (o3.out.tr ho)) HSMps.out (by omega) (by omega))
    have HS := Lib.hid (fun w' (ho : Only [] w3 w') => bas_cells (HXx.out.only ho (by simp)))
    have sw1 : IntKind.i64.wrap (x.ix + 1) = x.ix + 1 := IntWalk.i64_in _ (by omega)
    go_wp2_with fail
    go_region_held3 (fun w' : World => w'.cell? ⟨z, 0, none⟩ = some (.int .i64 x.ix) ∧ w'.cell? ⟨z, 1, none⟩ = some (.int .i64 x.tm) ∧ w'.cell? ⟨z, 2, none⟩ = some (.slice Ax x.vs.length cx) ∧ w'.cell? ⟨z, 3, none⟩ = some (.string x.d))
      (exact HS.out _ (by repeat (first | exact Only.refl _ _ | refine Only.drew ?_ | refine Only.alloc ?_ _ | refine Only.tr ?_ (by assumption) | refine Only.tr ?_ (Lib.Hid.out (by assumption)))))
      (first
        | (go_at_call 19; refine (CE.out _ (Only.refl _ _).drew).mono ?_; rintro e wa ⟨va, rfl, hra, hoa⟩; obtain ⟨Aa, ca, rfl⟩ := (SlAt.of_own hra).shape; have HRA := Lib.hid hra; clear hra)
        | (go_at_call 18; refine (la_newE (o3.out.drew.tr hoa) x (.slice Ax x.vs.length cx) _ ps _ _ (own_keep HVx.out (((Only.refl _ _).drew).tr hoa) (by simp)) HRA.out hb0x hb30x HB3x.out h60ps (entL_dok HPps.out HSMps.out _)).mono ?_; rintro e w4 ⟨bg, K1, rfl, hG, oL, kL⟩))
    rename_i hHeld
    clear hHeld
    have oN : Hid (Only [] w3 w4) := Lib.hid ((((Only.refl _ _).drew).tr hoa).tr oL.out)
    have HNbg : Hid (∀ q, q ∈ K1 → w3.heap.size ≤ q) := Lib.hid fun q hq => Nat.le_trans (hoa.size) (kL.out q hq)
    clear CE HS sw1 hoa oL kL HRA
    have o4 := Lib.hid (o3.out.tr oN.out)
    clear HXx HVx oN
    go_wp2_with fail
    refine (base8 ix tm w4 hwix hwtm).mono ?_
    rintro e w50 ⟨v', rfl, hown, ho3⟩
    obtain ⟨hb0y, hb30y, hb3y⟩ := bas_bound ix tm
    obtain ⟨y, hxy⟩ : ∃ y, bas ix tm = y := ⟨_, rfl⟩
    rw [hxy] at hown hb0y hb30y hb3y ⊢
    have HRy := Lib.hid (own_low hown o4.out.size)
    have HQy := Lib.hid hown
    obtain ⟨Ay, cy, rfl⟩ := (SlAt.of_own hown).shape
    have HB3y := Lib.hid hb3y
    have HXEy := Lib.hid hxy
    have o9 := Lib.hid (o4.out.tr ho3)
    unfold Bas.val
    clear hown hxy hb3y
    go_wp2_with fail
    have HXy := Lib.hid (Cells.new w50 27 [.int .i64 y.ix, .int .i64 y.tm, .slice Ay y.vs.length cy, .string y.d])
    have o5 := Lib.hid (o9.out.alloc (.cells #[.int .i64 y.ix, .int .i64 y.tm, .slice Ay y.vs.length cy, .string y.d] 27))
    have HVy := Lib.hid (HRy.out.alloc (.cells #[.int .i64 y.ix, .int .i64 y.tm, .slice Ay y.vs.length cy, .string y.d] 27))
    have HWy := Lib.hid (HQy.out.alloc (.cells #[.int .i64 y.ix, .int .i64 y.tm, .slice Ay y.vs.length cy, .string y.d] 27))
    have HZzy := Lib.hid ho3.size
    obtain ⟨w5, hwo⟩ : ∃ q, w50.alloc (.cells #[.int .i64 y.ix, .int .i64 y.tm, .slice Ay y.vs.length cy, .string y.d] 27) = q := ⟨_, rfl⟩
    obtain ⟨zy, hz⟩ : ∃ q, w50.heap.size = q := ⟨_, rfl⟩
    have hzwzy : W.heap.size ≤ zy := by rw [← hz]; exact o9.out.size
    have oy := Lib.hid (ho3.alloc (.cells #[.int .i64 y.ix, .int .i64 y.tm, .slice Ay y.vs.length cy, .string y.d] 27))
    rw [hwo] at HXy o5 HVy HWy oy ⊢
    rw [hz] at HXy HZzy ⊢
    clear hwo hz o9 ho3 HRy HQy
    have hKb := Lib.hid hG.out.k.below
    have hG := Lib.hid (hG.out.to oy.out)
    obtain ⟨g, hg⟩ : ∃ g, (⟨x, entL ps (x.ix + 1)⟩ : LG) = g := ⟨_, rfl⟩
    have hlen : (entL ps (x.ix + 1)).length ≤ 1000 := by rw [entL_length]; omega
    have HK := Lib.hid (restore_keep x (entL ps (x.ix + 1)) y hlen)
    rw [hg] at hG HK
    clear hg hlen
    obtain ⟨t, ht⟩ : ∃ t, (g.term y.ix).1 = t := ⟨_, rfl⟩
    obtain ⟨tb, htb⟩ : ∃ t, (g.term y.ix).2 = t := ⟨_, rfl⟩
    have HT : Hid (g.term y.ix = (t, tb)) := by show _ = _; rw [← ht, ← htb]
    have HF := Lib.hid (restore_flag g y t tb HT.out)
    obtain ⟨m, hm⟩ : ∃ m, g.slice (y.ix + 1) 1000 = m := ⟨_, rfl⟩
    have HM := Lib.hid hm
    have hyK : Hid (zy ∉ K1) := Lib.hid fun hq => by
      have h1 := hKb.out zy hq
      have h2 := HZzy.out
      omega
    have hvK : Hid (∀ q, (Value.slice Ay y.vs.length cy).ownBlock = some q → q ∉ K1) := Lib.hid fun q hq hm => by
      have h1 := hKb.out q hm
      have h2 := (HWy.out.lt q hq).1
      omega
    have c0 := HXy.out.cell (k := 0) rfl
    clear ht htb hm
    go_wp2_with fail
    refine (la_term hG y.ix t tb HT.out).mono ?_
    rintro e w6 ⟨rfl, hG, oo⟩
    have HXy := Lib.hid (HXy.out.only oo.out (by simp))
    have HVy := Lib.hid (own_keep HVy.out oo.out (by simp))
    have c0 := HXy.out.cell (k := 0) rfl
    go_wp2_with fail
    refine (la_slice hG (y.ix + 1) 1000 m HM.out).mono ?_
    rintro e w7 ⟨Am, cm, rfl, hrm, hG2, oo2⟩
    have HXy := Lib.hid (HXy.out.only oo2.out (by simp))
    have HVy := Lib.hid (own_keep HVy.out oo2.out (by simp))
    have hEm := Lib.hid (EnW.mk' (v := .slice Am m.length cm) hG.out hrm.out)
    have hG := hG2
    have c0 := HXy.out.cell (k := 0) rfl
    have c1 := HXy.out.cell (k := 1) rfl
    have c2 := HXy.out.cell (k := 2) rfl
    have c3 := HXy.out.cell (k := 3) rfl
    clear hG2 hrm
    obtain ⟨g', hg'⟩ : ∃ g', (g.restore y).1 = g' := ⟨_, rfl⟩
    obtain ⟨kb, hkb⟩ : ∃ kb, (g.restore y).2 = kb := ⟨_, rfl⟩
    have HRe : Hid (g.restore y = (g', kb)) := by show _ = _; rw [← hg', ← hkb]
    have HD := Lib.hid (restore_drop g y)
    rw [hkb] at HF HK HD
    rw [HRe.out] at HK HD
    clear hg' hkb
    have CR := Lib.hid (la_restore hG y (.slice Ay y.vs.length cy) (own_low HVy.out (Nat.zero_le _)) hvK.out hb0y (by omega) (by rw [HB3y.out]; omega) g' kb HRe.out)
    unfold Bas.val at CR
    go_wp2_with fail
    refine CR.out.mono ?_
    rintro e w8 ⟨rfl, K2, hG, hGr⟩
    have HXy := Lib.hid (HXy.out.only hGr.out.only hyK.out)
    have hEm := Lib.hid (hEm.out.grew hGr.out)
    have c0 := HXy.out.cell (k := 0) rfl
    have c1 := HXy.out.cell (k := 1) rfl
    clear c2 c3 CR HVy HWy hvK hyK HNbg hKb HT hGr HRe
    have hfl : Hid ((tb = true ∧ (t == y.tm) = true ∧ kb = true) ∨ (tb = true ∧ (t == y.tm) = false ∧ kb = false) ∨ (tb = false ∧ kb = false)) := by
      show _ ∨ _
      have := HF.out
      cases tb with
      | false => right; right; simpa using this
      | true =>
        cases hq : (t == y.tm) with
        | true => left; rw [hq] at this; exact ⟨rfl, rfl, by simpa using this⟩
        | false => right; left; rw [hq] at this; exact ⟨rfl, rfl, by simpa using this⟩
    rcases hfl.out with ⟨rfl, k1, rfl⟩ | ⟨rfl, k1, rfl⟩ | ⟨rfl, rfl⟩
    case inl =>
      obtain ⟨m', hgm, h1, h2, h3⟩ := HK.out rfl
      injection hgm with hgm _
      rw [HM.out] at h1
      subst h1
      subst hgm
      have HS := Lib.hid (fun w' (ho : Only [] w8 w') => bas_cells (HXy.out.only ho (by simp)))
      have CL := Lib.hid (fun w K (hx : Hid (LogAt W w K bg ⟨y, m⟩)) => la_last hx)
      rw [show (⟨y, m⟩ : LG).last = y.ix + (m.length : Int) from rfl] at CL
      have sw1 : IntKind.i64.wrap (y.ix + 1) = y.ix + 1 := IntWalk.i64_in _ (by omega)
      have sw2 : IntKind.i64.wrap (y.ix + (m.length : Int)) = y.ix + (m.length : Int) := IntWalk.i64_in _ (by omega)
      have sw3 : (m.length : Int) ≤ 1000 := by omega
      have d0 : (y.ix + (m.length : Int) == y.ix + (m.length : Int)) = true := beq_self_eq_true _
      have HN := Lib.hid h2
      clear h2
      go_wp2_with fail
      go_region_held3 (fun w' : World => w'.cell? ⟨zy, 0, none⟩ = some (.int .i64 y.ix) ∧ w'.cell? ⟨zy, 1, none⟩ = some (.int .i64 y.tm) ∧ w'.cell? ⟨zy, 2, none⟩ = some (.slice Ay y.vs.length cy) ∧ w'.cell? ⟨zy, 3, none⟩ = some (.string y.d))
        (exact HS.out _ (by repeat (first | exact Only.refl _ _ | refine Only.drew ?_ | refine Only.alloc ?_ _ | refine Only.tr ?_ (by assumption) | refine Only.tr ?_ (Lib.Hid.out (by assumption)))))
        (first
          | (go_at_call 20; refine (la_slice (Lib.hid (hG.out.to (Only.refl _ _).drew)) (y.ix + 1) 1000 m HN.out).mono ?_; rintro e w9 ⟨A9, c9, rfl, hr9, hG9, q9⟩)
          | (go_at_call 24; refine (same8 _ _ m m w9 (SlAt.of_own hr9.out) (((hEm.out.only (Only.refl _ _).drew).only q9.out).sl) (by omega) (by omega)).mono ?_; rintro e w10 ⟨rfl, q10⟩; rw [show decide (m = m) = true from by simp]; have hG10 := Lib.hid (hG9.out.to q10))
          | (go_at_call 21; refine (CL.out _ _ hG10).mono ?_; rintro e w11 ⟨rfl, hG11, q11⟩))
      go_wp2_with fail
      go_ret
      exact ⟨rfl, hG11.out.only⟩
    all_goals
      have hgm := HD.out rfl
      injection hgm with hgm _
      subst hgm
      have HS := Lib.hid (fun w' (ho : Only [] w8 w') => bas_cells (HXy.out.only ho (by simp)))
      have CL := Lib.hid (fun w K (hx : Hid (LogAt W w K bg ⟨y, []⟩)) => la_last hx)
      rw [show (⟨y, []⟩ : LG).last = y.ix from by unfold LG.last; simp] at CL
      have sw1 : IntKind.i64.wrap (y.ix + 1) = y.ix + 1 := IntWalk.i64_in _ (by omega)
      have d0 : (y.ix == y.ix) = true := beq_self_eq_true _
      have d1 : (y.tm == y.tm) = true := beq_self_eq_true _
      have HN := Lib.hid (slice_nil y (y.ix + 1) 9 (by omega))
      go_wp2_with fail
      go_region_held3 (fun w' : World => w'.cell? ⟨zy, 0, none⟩ = some (.int .i64 y.ix) ∧ w'.cell? ⟨zy, 1, none⟩ = some (.int .i64 y.tm) ∧ w'.cell? ⟨zy, 2, none⟩ = some (.slice Ay y.vs.length cy) ∧ w'.cell? ⟨zy, 3, none⟩ = some (.string y.d))
        (exact HS.out _ (by repeat (first | exact Only.refl _ _ | refine Only.drew ?_ | refine Only.alloc ?_ _ | refine Only.tr ?_ (by assumption) | refine Only.tr ?_ (Lib.Hid.out (by assumption)))))
        (first
          | (go_at_call 21; refine (CL.out _ _ (Lib.hid (hG.out.to (Only.refl _ _).drew))).mono ?_; rintro e w9 ⟨rfl, hG9, q9⟩)
          | (go_at_call 20; refine (la_slice hG9 (y.ix + 1) 9 [] HN.out).mono ?_; rintro e w10 ⟨A10, c10, rfl, hr10, hG10, q10⟩)
          | (go_at_call 26; refine (la_base hG10 y rfl).mono ?_; rintro e w11 ⟨A11, c11, rfl, hr11, hG11, q11⟩))
      go_wp2_with fail
      go_ret
      exact ⟨rfl, hG11.out.only⟩
end Go.Proofs.Ytagklgodcbmcaaa
