/-
  RlogMatches: the walk.
-/
import Derived.Test.YtagklgodcbmcaaaMatch8
namespace Go.Proofs.Ytagklgodcbmcaaa
open Go.RowKit
attribute [local go_sem] bfld0 bfld1 bfld2 bfld3
structure MAll (W w : World) (K : List Nat) (b z : Nat) (x : Bas) (l l' e : List En) (xv wv ev nv : Value) : Prop where
  log : LogAt W w K b ⟨x, l'⟩
  was : EnW W w K wv l
  en : EnW W w K ev e
  now : EnW W w K nv l'
  xc : Cells w z 27 [.int .i64 x.ix, .int .i64 x.tm, xv, .string x.d]
theorem MAll.to {W w w' : World} {K : List Nat} {b z : Nat} {x : Bas} {l l' e : List En} {xv wv ev nv : Value} (h : MAll W w K b z x l l' e xv wv ev nv) (ho : Only [] w w') : MAll W w' K b z x l l' e xv wv ev nv :=
  ⟨h.log.to ho, h.was.only ho, h.en.only ho, h.now.only ho, h.xc.only ho (by simp)⟩
theorem slice_one (x : Bas) (l : List En) (p : Nat) (s : En) (i : Int) (h : l[p]? = some s) (hi : i = x.ix + 1 + (p : Int)) : (⟨x, l⟩ : LG).slice i 1 = [s] := by
  have hp := (List.getElem?_eq_some_iff.1 h).1
  unfold LG.slice LG.last
  dsimp only
  rw [if_neg (by omega), hi, show (x.ix + 1 + (p : Int) - x.ix - 1).toNat = p from by omega, List.drop_eq_getElem_cons hp]
  rw [List.getElem?_eq_getElem hp] at h
  injection h with h
  rw [h]
  simp
theorem entL_ix (ps : List Pt) (f : Int) (j : Nat) (y : En) (h : (entL ps f)[j]? = some y) : y.ix = f + (j : Int) := by
  rw [entL_get] at h
  cases hp : ps[j]? with
  | none => rw [hp] at h; cases h
  | some p => rw [hp] at h; simp at h; subst h; rfl
set_option maxRecDepth 100000 in
set_option maxHeartbeats 8000000 in
theorem rlogMatches_walk (W : World) (b : Int) (wb : (Lit.int .i64 b).wf = true) (v : Value) (ps : List Pt) (hps : PtsAt W v ps) (_ : True) (ix : Int) (wix : (Lit.int .i64 ix).wf = true) (tm : Int) (wtm : (Lit.int .i64 tm).wf = true) (f : Int) (wf : (Lit.int .i64 f).wf = true) (v2 : Value) (qs : List Pt) (hqs : PtsAt W v2 qs) (_ : True) :
    Calls Try.prog 3 #[.int .i64 b, v, .int .i64 ix, .int .i64 tm, .int .i64 f, v2] W fun e W' => e = .returned (.bool true) ∧ Only [] W W' := by
  have hwb := wide64_of_wf wb
  have hwix := wide64_of_wf wix
  have hwtm := wide64_of_wf wtm
  have hwf := wide64_of_wf wf
  have CSps := Lib.hid (fun w (ho : Only [] W w) => small8 v ps w (hps.only ho))
  obtain ⟨Ap, cp, rfl⟩ := hps.shape
  have HPps := Lib.hid hps
  clear hps
  have CSqs := Lib.hid (fun w (ho : Only [] W w) => small8 v2 qs w (hqs.only ho))
  obtain ⟨Aq, cq, rfl⟩ := hqs.shape
  have HPqs := Lib.hid hqs
  clear hqs
  cases hsm : smallB ps with
  | false =>
    rw [hsm] at CSps
    cases hsn : smallB qs <;> rw [hsn] at CSqs
    all_goals
      go_enter Try.func3, Try.ntmps3
      go_wp2_with fail
      refine (shown8 W).mono ?_
      rintro e w1 ⟨rfl, ho1⟩
      have o1 := Lib.hid ho1
      clear ho1
      go_wp2_with fail
      refine (CSps.out _ o1.out).mono ?_
      rintro e w2 ⟨rfl, ho⟩
      have o2 := Lib.hid (o1.out.tr ho)
      clear ho CSps
      go_wp2_with fail
      refine (CSqs.out _ o2.out).mono ?_
      rintro e w3 ⟨rfl, ho⟩
      have o3 := Lib.hid (o2.out.tr ho)
      clear ho CSqs
      go_wp2_with fail
      go_ret
      exact ⟨rfl, o3.out⟩
  | true =>
  cases hsn : smallB qs with
  | false =>
    rw [hsm] at CSps
    rw [hsn] at CSqs
    go_enter Try.func3, Try.ntmps3
    go_wp2_with fail
    refine (shown8 W).mono ?_
    rintro e w1 ⟨rfl, ho1⟩
    have o1 := Lib.hid ho1
    clear ho1
    go_wp2_with fail
    refine (CSps.out _ o1.out).mono ?_
    rintro e w2 ⟨rfl, ho⟩
    have o2 := Lib.hid (o1.out.tr ho)
    clear ho CSps
    go_wp2_with fail
    refine (CSqs.out _ o2.out).mono ?_
    rintro e w3 ⟨rfl, ho⟩
    have o3 := Lib.hid (o2.out.tr ho)
    clear ho CSqs
    go_wp2_with fail
    go_ret
    exact ⟨rfl, o3.out⟩
  | true =>
    rw [hsm] at CSps
    rw [hsn] at CSqs
    have h60ps := (smallB_iff hsm).1
    have h60qs := (smallB_iff hsn).1
    have HSMps := Lib.hid hsm
    have HSMqs := Lib.hid hsn
    clear hsm hsn
    go_enter Try.func3, Try.ntmps3
    go_wp2_with fail
    refine (shown8 W).mono ?_
    rintro e w1 ⟨rfl, ho1⟩
    have o1 := Lib.hid ho1
    clear ho1
    go_wp2_with fail
    refine (CSps.out _ o1.out).mono ?_
    rintro e w2 ⟨rfl, ho⟩
    have o2 := Lib.hid (o1.out.tr ho)
    clear ho CSps
    go_wp2_with fail
    refine (CSqs.out _ o2.out).mono ?_
    rintro e w3 ⟨rfl, ho⟩
    have o3 := Lib.hid (o2.out.tr ho)
    clear ho CSqs
    go_wp2_with fail
    refine (base8 b 1 w3 hwb ⟨by omega, by omega⟩).mono ?_
    rintro e w40 ⟨v', rfl, hown, ho3⟩
    obtain ⟨hb0x, hb30x, hb3x⟩ := bas_bound b 1
    obtain ⟨x, hxx⟩ : ∃ x, bas b 1 = x := ⟨_, rfl⟩
    rw [hxx] at hown hb0x hb30x hb3x ⊢
    have HRx := Lib.hid (own_low hown o3.out.size)
    have HQx := Lib.hid hown
    obtain ⟨Ax, cx, rfl⟩ := (SlAt.of_own hown).shape
    have HB3x := Lib.hid hb3x
    have HXEx := Lib.hid hxx
    have o9 := Lib.hid (o3.out.tr ho3)
    unfold Bas.val
    clear hown hxx hb3x
    go_wp2_with fail
    have HXx := Lib.hid (Cells.new w40 27 [.int .i64 x.ix, .int .i64 x.tm, .slice Ax x.vs.length cx, .string x.d])
    have o4 := Lib.hid (o9.out.alloc (.cells #[.int .i64 x.ix, .int .i64 x.tm, .slice Ax x.vs.length cx, .string x.d] 27))
    have HVx := Lib.hid (HRx.out.alloc (.cells #[.int .i64 x.ix, .int .i64 x.tm, .slice Ax x.vs.length cx, .string x.d] 27))
    have HWx := Lib.hid (HQx.out.alloc (.cells #[.int .i64 x.ix, .int .i64 x.tm, .slice Ax x.vs.length cx, .string x.d] 27))
    have HZz := Lib.hid ho3.size
    obtain ⟨w4, hwo⟩ : ∃ q, w40.alloc (.cells #[.int .i64 x.ix, .int .i64 x.tm, .slice Ax x.vs.length cx, .string x.d] 27) = q := ⟨_, rfl⟩
    obtain ⟨z, hz⟩ : ∃ q, w40.heap.size = q := ⟨_, rfl⟩
    have hzwz : W.heap.size ≤ z := by rw [← hz]; exact o9.out.size
    have ox := Lib.hid (ho3.alloc (.cells #[.int .i64 x.ix, .int .i64 x.tm, .slice Ax x.vs.length cx, .string x.d] 27))
    rw [hwo] at HXx o4 HVx HWx ox ⊢
    rw [hz] at HXx HZz ⊢
    clear hwo hz o9 ho3 HRx HQx
    have HZlz := Lib.hid HXx.out.lt
    have CE := Lib.hid (fun w' (ho : Only [] w4 w') => entries8 (.slice Ap ps.length cp) ps (x.ix + 1) w' (HPps.out.only (o4.out.tr ho)) HSMps.out (by omega) (by omega))
    have HS := Lib.hid (fun w' (ho : Only [] w4 w') => bas_cells (HXx.out.only ho (by simp)))
    have sw1 : IntKind.i64.wrap (x.ix + 1) = x.ix + 1 := IntWalk.i64_in _ (by omega)
    go_wp2_with fail
    go_region_held3 (fun w' : World => w'.cell? ⟨z, 0, none⟩ = some (.int .i64 x.ix) ∧ w'.cell? ⟨z, 1, none⟩ = some (.int .i64 x.tm) ∧ w'.cell? ⟨z, 2, none⟩ = some (.slice Ax x.vs.length cx) ∧ w'.cell? ⟨z, 3, none⟩ = some (.string x.d))
      (exact HS.out _ (by repeat (first | exact Only.refl _ _ | refine Only.drew ?_ | refine Only.alloc ?_ _ | refine Only.tr ?_ (by assumption) | refine Only.tr ?_ (Lib.Hid.out (by assumption)))))
      (first
        | (go_at_call 19; refine (CE.out _ (Only.refl _ _).drew).mono ?_; rintro e wa ⟨va, rfl, hra, hoa⟩; obtain ⟨Aa, ca, rfl⟩ := (SlAt.of_own hra).shape; have HRA := Lib.hid hra; clear hra)
        | (go_at_call 18; refine (la_newE (o4.out.drew.tr hoa) x (.slice Ax x.vs.length cx) _ ps _ _ (own_keep HVx.out (((Only.refl _ _).drew).tr hoa) (by simp)) HRA.out hb0x hb30x HB3x.out h60ps (entL_dok HPps.out HSMps.out _)).mono ?_; rintro e w5 ⟨bg, K1, rfl, hG, oL, kL⟩))
    rename_i hHeld
    clear hHeld
    have oN : Hid (Only [] w4 w5) := Lib.hid ((((Only.refl _ _).drew).tr hoa).tr oL.out)
    have HNbg : Hid (∀ q, q ∈ K1 → w4.heap.size ≤ q) := Lib.hid fun q hq => Nat.le_trans (hoa.size) (kL.out q hq)
    clear CE HS sw1 hoa oL kL HRA
    have o5 := Lib.hid (o4.out.tr oN.out)
    have HXx := Lib.hid (HXx.out.only oN.out (by simp))
    have hzK : Hid (z ∉ K1) := Lib.hid fun hq => by
      have h1 := HNbg.out z hq
      have h2 := HZlz.out
      omega
    clear oN HWx HVx HNbg HZz ox o1 o2 o3 o4
    obtain ⟨l, hl⟩ : ∃ l, entL ps (x.ix + 1) = l := ⟨_, rfl⟩
    rw [hl] at hG
    obtain ⟨N, hN⟩ : ∃ N, ps.length = N := ⟨_, rfl⟩
    have HLN : Hid (l.length = N) := by show _ = _; rw [← hl, entL_length, hN]
    have HIX : Hid (∀ (j : Nat) y, l[j]? = some y → y.ix = x.ix + 1 + (j : Int)) := Lib.hid fun j y h => by rw [← hl] at h; exact entL_ix _ _ _ _ h
    have HPN := Lib.hid hN
    rw [hN] at h60ps ⊢
    clear hl hN
    have HALL := Lib.hid (slice_all x l (by rw [HLN.out]; omega))
    have x0 := HXx.out.cell (k := 0) rfl
    go_wp2_with fail
    refine (la_slice hG _ _ l HALL.out).mono ?_
    rintro e w6 ⟨Aw, cw, rfl, hrw, hG2, oo⟩
    have hWas := Lib.hid (EnW.mk' (v := .slice Aw l.length cw) hG.out hrw.out)
    replace hG := hG2
    replace HXx := Lib.hid (HXx.out.only oo.out (by simp))
    clear hG2 hrw x0 oo
    go_wp2_with fail
    refine (la_last hG).mono ?_
    rintro e w7 ⟨rfl, hG, oo⟩
    rw [show (⟨x, l⟩ : LG).last = x.ix + (N : Int) from by unfold LG.last; rw [HLN.out]]
    replace hWas := Lib.hid (hWas.out.only oo.out)
    replace HXx := Lib.hid (HXx.out.only oo.out (by simp))
    clear oo
    obtain ⟨n1, hn1⟩ : ∃ n : Nat, pickI ix (N + 3) = n := ⟨(pickI ix (N + 3)).toNat, by have := (pickI_lt ix (N + 3) (by omega)).1; omega⟩
    have hn1b : n1 ≤ N + 2 := by have := (pickI_lt ix (N + 3) (by omega)).2; omega
    have CP := Lib.hid (fun w' => pick8 ix (N + 3) w' hwix (by omega) (by omega))
    rw [hn1] at CP
    clear hn1
    have x0 := fun u : Since w7 => u.cell (HXx.out.cell (k := 0) rfl)
    have sw1 : IntKind.i64.wrap ((N : Int) + 3) = (N : Int) + 3 := IntWalk.i64_in _ (by omega)
    have sw2 : IntKind.i64.wrap (x.ix + (n1 : Int)) = x.ix + (n1 : Int) := IntWalk.i64_in _ (by omega)
    go_wp2_with fail
    refine wp_region_only w7 (Only.refl _ _) (by kernel_rfl) (by kernel_rfl) ?_
    repeat (go_big_quiet_step ((go_at_call 22; refine Calls.only_same (CP.out _))))
    refine wpQuiet_nil ?_
    rintro ⟨w8, oo⟩
    dsimp only
    replace hG := Lib.hid (hG.out.to oo)
    replace hWas := Lib.hid (hWas.out.only oo)
    replace HXx := Lib.hid (HXx.out.only oo (by simp))
    clear oo x0 CP sw1 sw2
    obtain ⟨n2, hn2⟩ : ∃ n : Nat, pickI f (N + 1) = n := ⟨(pickI f (N + 1)).toNat, by have := (pickI_lt f (N + 1) (by omega)).1; omega⟩
    have hn2b : n2 ≤ N := by have := (pickI_lt f (N + 1) (by omega)).2; omega
    have CP := Lib.hid (fun w' => pick8 f (N + 1) w' hwf (by omega) (by omega))
    rw [hn2] at CP
    clear hn2
    have x0 := fun u : Since w8 => u.cell (HXx.out.cell (k := 0) rfl)
    have sw1 : IntKind.i64.wrap ((N : Int) + 1) = (N : Int) + 1 := IntWalk.i64_in _ (by omega)
    have sw2 : IntKind.i64.wrap (x.ix + (n2 : Int)) = x.ix + (n2 : Int) := IntWalk.i64_in _ (by omega)
    go_wp2_with fail
    refine wp_region_only w8 (Only.refl _ _) (by kernel_rfl) (by kernel_rfl) ?_
    repeat (go_big_quiet_step ((go_at_call 22; refine Calls.only_same (CP.out _))))
    refine wpQuiet_nil ?_
    rintro ⟨w9, oo⟩
    dsimp only
    replace hG := Lib.hid (hG.out.to oo)
    replace hWas := Lib.hid (hWas.out.only oo)
    replace HXx := Lib.hid (HXx.out.only oo (by simp))
    clear oo x0 CP sw1 sw2
    have CE := Lib.hid (entries8 (.slice Aq qs.length cq) qs (x.ix + (n1 : Int) + 1) w9 (HPqs.out.only hG.out.only) HSMqs.out (by omega) (by omega))
    go_wp2_with fail
    refine CE.out.mono ?_
    rintro e w10 ⟨v', rfl, hre, oo⟩
    obtain ⟨e, hee⟩ : ∃ e, entL qs (x.ix + (n1 : Int) + 1) = e := ⟨_, rfl⟩
    obtain ⟨M, hM⟩ : ∃ M, qs.length = M := ⟨_, rfl⟩
    have HLM : Hid (e.length = M) := by show _ = _; rw [← hee, entL_length, hM]
    have HEX : Hid (∀ (j : Nat) y, e[j]? = some y → y.ix = x.ix + (n1 : Int) + 1 + (j : Int)) := Lib.hid fun j y h => by rw [← hee] at h; exact entL_ix _ _ _ _ h
    have hDE : DOk e := by rw [← hee]; exact entL_dok HPqs.out HSMqs.out _
    rw [hee] at hre
    obtain ⟨Ae, ce, rfl⟩ := (SlAt.of_own hre).shape
    rw [show qs.length = e.length from by rw [HLM.out, hM]] at hre ⊢
    have hEn := Lib.hid (EnW.mk' (v := .slice Ae e.length ce) hG.out hre)
    replace hG := Lib.hid (hG.out.to oo)
    replace hWas := Lib.hid (hWas.out.only oo)
    replace HXx := Lib.hid (HXx.out.only oo (by simp))
    rw [hM] at h60qs
    have HMM := Lib.hid hM
    have HDE := Lib.hid hDE
    clear oo CE hre hee hM hDE
    have CP := Lib.hid (fun w' => pick8 tm 9 w' hwtm (by omega) (by omega))
    obtain ⟨t9, ht9⟩ : ∃ t, pickI tm 9 = t := ⟨_, rfl⟩
    rw [ht9] at CP
    clear ht9
    obtain ⟨l', xx, yy, ok, hR, hspec⟩ := match_spec x l e n1 n2 t9 hb0x HIX.out HEX.out (by rw [HLN.out]; exact hn2b)
    have HR := Lib.hid hR
    have HSP := Lib.hid hspec
    clear hR hspec
    go_wp2_with ((go_at_call 22; refine (CP.out _).mono ?_; rintro e w' ⟨rfl, rfl⟩))
    refine (la_match hG (x.ix + (n1 : Int)) t9 (x.ix + (n2 : Int)) _ e hEn.out.toR (by omega) (by show x.ix ≤ _; omega) (by unfold LG.last; rw [HLN.out]; show x.ix + (n2 : Int) ≤ x.ix + (N : Int); omega) (by unfold LG.last; rw [HLN.out, HLM.out]; show x.ix + (N : Int) + M ≤ _; omega) HDE.out _ HR.out).mono ?_
    rintro e' w11 ⟨rfl, K2, hG, hGr⟩
    replace hWas := Lib.hid (hWas.out.grew hGr.out)
    replace hEn := Lib.hid (hEn.out.grew hGr.out)
    have hzK2 : Hid (z ∉ K2) := Lib.hid fun hm => (hGr.out.blocks z hm).elim hzK.out fun h => by have := HXx.out.lt; omega
    replace HXx := Lib.hid (HXx.out.only hGr.out.only hzK.out)
    replace hzK := hzK2
    clear hzK2
    clear hGr
    have hlb : Hid (l'.length ≤ 1000) := Lib.hid (by
      rcases HSP.out with ⟨_, h, _⟩ | ⟨_, _, _, _, _, h, _⟩
      · rw [h, HLN.out]; omega
      · have := HLN.out; have := HLM.out; omega)
    have HALL' := Lib.hid (slice_all x l' hlb.out)
    have x0 := HXx.out.cell (k := 0) rfl
    go_wp2_with fail
    refine (la_slice hG _ _ l' HALL'.out).mono ?_
    rintro e' w12 ⟨An, cn, rfl, hrn, hG2, oo⟩
    have hNow := Lib.hid (EnW.mk' (v := .slice An l'.length cn) hG.out hrn.out)
    replace hG := hG2
    replace hWas := Lib.hid (hWas.out.only oo.out)
    replace hEn := Lib.hid (hEn.out.only oo.out)
    replace HXx := Lib.hid (HXx.out.only oo.out (by simp))
    clear hG2 hrn x0 oo
    rcases HSP.out with ⟨rfl, hll, rfl, hlt⟩ | ⟨rfl, hxx, hy0, hyl, hn1l, hl'l, hn2l, hone, hlow, hagain⟩
    · have hlt2 : decide (xx < x.ix + (n1 : Int)) = true := by simpa using hlt
      have CM := Lib.hid (same8 _ _ l l' w12 hWas.out.sl hNow.out.sl (by have := HLN.out; omega) (by have := hlb.out; omega))
      rw [show decide (l = l') = true from by simp [hll]] at CM
      clear HSP hll
      go_wp2_with fail
      refine CM.out.mono ?_
      rintro e' w13 ⟨rfl, oo⟩
      go_wp2_with fail
      go_ret
      exact ⟨rfl, hG.out.only.tr oo⟩
    have HONE := Lib.hid hone
    have HLOW := Lib.hid hlow
    have HAG := Lib.hid hagain
    subst hxx
    have hxx2 : (x.ix + (n1 : Int) + (e.length : Int) == x.ix + (n1 : Int) + (e.length : Int)) = true := beq_self_eq_true _
    have hml : Hid (e.length = M) := HLM
    have hel : (e.length : Int) ≤ 60 := by have := HLM.out; omega
    have hll1 : (l.length : Int) ≤ 60 := by have := HLN.out; omega
    clear HSP hone hlow hagain
    by_cases hy : yy = 0
    · have HLL : Hid (l' = l) := Lib.hid (hyl hy)
      subst hy
      clear hyl
      have CM := Lib.hid (same8 _ _ l l' w12 hWas.out.sl hNow.out.sl (by have := HLN.out; omega) (by have := hlb.out; omega))
      rw [show decide (l = l') = true from by simp [HLL.out]] at CM
      go_wp2_with fail
      refine CM.out.mono ?_
      rintro e' w13 ⟨rfl, oo⟩
      replace hG := Lib.hid (hG.out.to oo)
      replace hWas := Lib.hid (hWas.out.only oo)
      replace hEn := Lib.hid (hEn.out.only oo)
      replace hNow := Lib.hid (hNow.out.only oo)
      replace HXx := Lib.hid (HXx.out.only oo (by simp))
      clear oo CM
      go_wp2_with fail
      have HA : Hid (MAll W w13 K2 bg z x l l' e (.slice Ax x.vs.length cx) (.slice Aw l.length cw) (.slice Ae e.length ce) (.slice An l'.length cn)) := Lib.hid ⟨hG.out, hWas.out, hEn.out, hNow.out, HXx.out⟩
      have HMb : Hid (l'.length ≤ 1000) := hlb
      have hlb2 : (l'.length : Int) ≤ 1000 := by have := hlb.out; omega
      clear hG hWas hEn hNow HXx
      go_loopw [27, 28] (fun i s wr => ∃ k : Nat, k ≤ e.length ∧ i = .int .i64 k ∧ Hid (MAll W wr K2 bg z x l l' e (.slice Ax x.vs.length cx) (.slice Aw l.length cw) (.slice Ae e.length ce) (.slice An l'.length cn))) (fun i _ _ => e.length - (intOf i).toNat)
      case atStart => exact ⟨0, by omega, rfl, HA⟩
      case round =>
        obtain ⟨k, hk, rfl, HA⟩ := hrel
        by_cases hlt : k < e.length
        · have hlt' : (k : Int) < (e.length : Int) := by omega
          obtain ⟨y, hy⟩ : ∃ y, e[k]? = some y := ⟨_, List.getElem?_eq_getElem hlt⟩
          have HY := Lib.hid hy
          have HYI := Lib.hid (HEX.out k y hy)
          obtain ⟨b1, o1, c1', e1, q0, q1, q2, q3⟩ := enL_at HA.out.en.sl hy
          injection e1 with i1 i2 i3
          subst i1
          subst i3
          clear i2 hy
          by_cases hsk : y.ix ≤ x.ix + (n2 : Int)
          · have d0 : decide (y.ix ≤ x.ix + (n2 : Int)) = true := by simpa using hsk
            go_wp2_with fail
            go_roundw
            case rel => exact ⟨k + 1, by omega, by go_num, HA⟩
            case measure => simp [intOf]; omega
          · have d0 : decide (y.ix ≤ x.ix + (n2 : Int)) = false := by simpa using hsk
            obtain ⟨s, hs1, hs2, hs3⟩ := HONE.out k y HY.out (by have := HYI.out; omega)
            have HSO := Lib.hid (slice_one x l' (n1 + k) s y.ix hs1 (by have := HYI.out; omega))
            have HS3 := Lib.hid hs3
            have d1 : (s.tm == y.tm) = true := by simpa using hs2
            have d1' : (s.tm != y.tm) = false := by simpa using hs2
            clear hs1 hs2 hs3
            go_wp2_with fail
            refine (la_slice (Lib.hid HA.out.log) y.ix 1 [s] HSO.out).mono ?_
            rintro e' w14 ⟨As, cs, rfl, hrs, hG, oo⟩
            replace HA := Lib.hid (HA.out.to oo.out)
            obtain ⟨qs1, cs1, hvs⟩ := own_formX hrs.out (by simp)
            injection hvs with j1 j2 j3
            subst j1
            subst j3
            obtain ⟨b2, o2, c2, e2, s0, s1, s2, s3⟩ := enL_at (n := 0) (x := s) (SlAt.of_own hrs.out) rfl
            injection e2 with l1 l2 l3
            injection l1 with l1
            injection l1 with l1a l1b
            subst l1a
            subst l1b
            simp only [Nat.zero_mul, Nat.add_zero] at s0 s1 s2 s3
            obtain ⟨b3, o3, c3, e3, q0', q1', q2', q3'⟩ := enL_at HA.out.en.sl HY.out
            injection e3 with l1 l4 l5
            injection l1 with l1
            injection l1 with l1a l1b
            subst l1a
            subst l1b
            have s0 := fun u : Since w14 => u.cell s0
            have s1 := fun u : Since w14 => u.cell s1
            have s2 := fun u : Since w14 => u.cell s2
            have s3 := fun u : Since w14 => u.cell s3
            have r0 := fun u : Since w14 => u.cell q0'
            have r1 := fun u : Since w14 => u.cell q1'
            have r2 := fun u : Since w14 => u.cell q2'
            have r3 := fun u : Since w14 => u.cell q3'
            clear q0 q1 q2 q3 q0' q1' q2' q3' l2 l3 l4 l5 j2 oo hG hrs
            go_wp2_with fail
            refine wp_region_only w14 (Only.refl _ _) (by kernel_rfl) (by kernel_rfl) ?_
            repeat (go_big_quiet_step (fail))
            refine wpQuiet_nil ?_
            rintro ⟨w15, oo⟩
            dsimp only
            replace HA := Lib.hid (HA.out.to oo)
            clear s0 s1 s2 s3 r0 r1 r2 r3
            go_wp2_with fail
            go_roundw
            case rel => exact ⟨k + 1, by omega, by go_num, HA⟩
            case measure => simp [intOf]; omega
        · have hd : decide ((k : Int) < (e.length : Int)) = false := by simp; omega
          go_wp2_with fail
          clear hk hlt hd
          obtain ⟨wo, rfl⟩ : ∃ wo : World, wo = wr := ⟨_, rfl⟩
          go_loopw [29] (fun i wr => ∃ k : Nat, k ≤ l.length ∧ i = .int .i64 k ∧ Hid (MAll W wr K2 bg z x l l' e (.slice Ax x.vs.length cx) (.slice Aw l.length cw) (.slice Ae e.length ce) (.slice An l'.length cn))) (fun i _ => l.length - (intOf i).toNat)
          case atStart => exact ⟨0, by omega, rfl, HA⟩
          case round =>
            obtain ⟨k, hk, rfl, HA⟩ := hrel
            by_cases hlt : k < l.length
            · have hlt' : (k : Int) < (l.length : Int) := by omega
              by_cases hlt2 : k < l'.length
              · have hlt2' : (k : Int) < (l'.length : Int) := by omega
                obtain ⟨a, ha⟩ : ∃ a, l[k]? = some a := ⟨_, List.getElem?_eq_getElem hlt⟩
                have HAK := Lib.hid ha
                obtain ⟨b1, o1, c1', e1, q0, q1, q2, q3⟩ := enL_at HA.out.was.sl ha
                injection e1 with i1 i2 i3
                subst i1
                subst i3
                clear i2 ha
                have hal := HLOW.out k a HAK.out hlt2 (by first | exact .inl rfl | exact .inl trivial | simp)
                obtain ⟨b2, o2, c2', e2, p0, p1, p2, p3⟩ := enL_at HA.out.now.sl hal
                injection e2 with i1 i2 i3
                subst i1
                subst i3
                have q0 := fun u : Since wr => u.cell q0
                have q1 := fun u : Since wr => u.cell q1
                have q2 := fun u : Since wr => u.cell q2
                have q3 := fun u : Since wr => u.cell q3
                have p0 := fun u : Since wr => u.cell p0
                have p1 := fun u : Since wr => u.cell p1
                have p2 := fun u : Since wr => u.cell p2
                have p3 := fun u : Since wr => u.cell p3
                have f0 : (a.ix == a.ix) = true := beq_self_eq_true _
                have f1 : (a.tm == a.tm) = true := beq_self_eq_true _
                have f2 : (a.kd == a.kd) = true := beq_self_eq_true _
                have f3 : (a.d.toList == a.d.toList) = true := beq_self_eq_true _
                clear hal i2
                go_wp2_with fail
                refine wp_region_only wr (Only.refl _ _) (by kernel_rfl) (by kernel_rfl) ?_
                repeat (go_big_quiet_step (fail))
                refine wpQuiet_nil ?_
                rintro ⟨w15, oo⟩
                dsimp only
                replace HA := Lib.hid (HA.out.to oo)
                clear q0 q1 q2 q3 p0 p1 p2 p3
                go_wp2_with fail
                go_roundw
                case rel => exact ⟨k + 1, by omega, by go_num, HA⟩
                case measure => simp [intOf]; omega
              · have hlt2' : decide ((k : Int) < (l'.length : Int)) = false := by simp; omega
                go_wp2_with fail
                refine (CP.out _).mono ?_
                rintro e' w16 ⟨rfl, rfl⟩
                go_wp2_with fail
                refine (la_match (Lib.hid HA.out.log) (x.ix + (n1 : Int)) t9 (x.ix + (n2 : Int)) _ e HA.out.en.toR (by omega) (by show x.ix ≤ _; omega) (by unfold LG.last; show x.ix + (n2 : Int) ≤ x.ix + (l'.length : Int); omega) (by unfold LG.last; rw [HLM.out]; show x.ix + (l'.length : Int) + M ≤ _; omega) HDE.out _ HAG.out).mono ?_
                rintro e' w17 ⟨rfl, K3, hG, hGr⟩
                have hNow := Lib.hid (HA.out.now.grew hGr.out)
                have HXx := Lib.hid (HA.out.xc.only hGr.out.only hzK.out)
                have x0 := HXx.out.cell (k := 0) rfl
                clear hGr HA
                go_wp2_with fail
                refine (la_slice hG _ _ l' HALL'.out).mono ?_
                rintro e' w18 ⟨A18, c18, rfl, hr18, hG, oo⟩
                have hNow := Lib.hid (hNow.out.only oo.out)
                go_wp2_with fail
                refine (same8 _ _ l' l' w18 (SlAt.of_own hr18.out) hNow.out.sl (by omega) (by omega)).mono ?_
                rintro e' w19 ⟨rfl, oo⟩
                have hG := Lib.hid (hG.out.to oo)
                rw [show decide (l' = l') = true from by simp]
                go_wp2_with fail
                refine (la_last hG).mono ?_
                rintro e' w20 ⟨rfl, hG, oo⟩
                rw [show (⟨x, l'⟩ : LG).last = x.ix + (N : Int) from by unfold LG.last; rw [HLL.out, HLN.out]]
                go_wp2_with fail
                go_ret
                exact ⟨rfl, hG.out.only⟩
            · have hlt' : decide ((k : Int) < (l.length : Int)) = false := by simp; omega
              go_wp2_with fail
              refine (CP.out _).mono ?_
              rintro e' w16 ⟨rfl, rfl⟩
              go_wp2_with fail
              refine (la_match (Lib.hid HA.out.log) (x.ix + (n1 : Int)) t9 (x.ix + (n2 : Int)) _ e HA.out.en.toR (by omega) (by show x.ix ≤ _; omega) (by unfold LG.last; show x.ix + (n2 : Int) ≤ x.ix + (l'.length : Int); omega) (by unfold LG.last; rw [HLM.out]; show x.ix + (l'.length : Int) + M ≤ _; omega) HDE.out _ HAG.out).mono ?_
              rintro e' w17 ⟨rfl, K3, hG, hGr⟩
              have hNow := Lib.hid (HA.out.now.grew hGr.out)
              have HXx := Lib.hid (HA.out.xc.only hGr.out.only hzK.out)
              have x0 := HXx.out.cell (k := 0) rfl
              clear hGr HA
              go_wp2_with fail
              refine (la_slice hG _ _ l' HALL'.out).mono ?_
              rintro e' w18 ⟨A18, c18, rfl, hr18, hG, oo⟩
              have hNow := Lib.hid (hNow.out.only oo.out)
              go_wp2_with fail
              refine (same8 _ _ l' l' w18 (SlAt.of_own hr18.out) hNow.out.sl (by omega) (by omega)).mono ?_
              rintro e' w19 ⟨rfl, oo⟩
              have hG := Lib.hid (hG.out.to oo)
              rw [show decide (l' = l') = true from by simp]
              go_wp2_with fail
              refine (la_last hG).mono ?_
              rintro e' w20 ⟨rfl, hG, oo⟩
              rw [show (⟨x, l'⟩ : LG).last = x.ix + (N : Int) from by unfold LG.last; rw [HLL.out, HLN.out]]
              go_wp2_with fail
              go_ret
              exact ⟨rfl, hG.out.only⟩
    · have hyp : 0 < yy := by omega
      have dy0 : (yy == 0) = false := by simpa using hy
      have dy1 : decide (0 < yy) = true := by simpa using hyp
      clear hyl
      go_wp2_with fail
      have HA : Hid (MAll W w12 K2 bg z x l l' e (.slice Ax x.vs.length cx) (.slice Aw l.length cw) (.slice Ae e.length ce) (.slice An l'.length cn)) := Lib.hid ⟨hG.out, hWas.out, hEn.out, hNow.out, HXx.out⟩
      have HMb : Hid (l'.length ≤ 1000) := hlb
      have hlb2 : (l'.length : Int) ≤ 1000 := by have := hlb.out; omega
      clear hG hWas hEn hNow HXx
      go_loopw [27, 28] (fun i s wr => ∃ k : Nat, k ≤ e.length ∧ i = .int .i64 k ∧ Hid (MAll W wr K2 bg z x l l' e (.slice Ax x.vs.length cx) (.slice Aw l.length cw) (.slice Ae e.length ce) (.slice An l'.length cn))) (fun i _ _ => e.length - (intOf i).toNat)
      case atStart => exact ⟨0, by omega, rfl, HA⟩
      case round =>
        obtain ⟨k, hk, rfl, HA⟩ := hrel
        by_cases hlt : k < e.length
        · have hlt' : (k : Int) < (e.length : Int) := by omega
          obtain ⟨y, hy⟩ : ∃ y, e[k]? = some y := ⟨_, List.getElem?_eq_getElem hlt⟩
          have HY := Lib.hid hy
          have HYI := Lib.hid (HEX.out k y hy)
          obtain ⟨b1, o1, c1', e1, q0, q1, q2, q3⟩ := enL_at HA.out.en.sl hy
          injection e1 with i1 i2 i3
          subst i1
          subst i3
          clear i2 hy
          by_cases hsk : y.ix ≤ x.ix + (n2 : Int)
          · have d0 : decide (y.ix ≤ x.ix + (n2 : Int)) = true := by simpa using hsk
            go_wp2_with fail
            go_roundw
            case rel => exact ⟨k + 1, by omega, by go_num, HA⟩
            case measure => simp [intOf]; omega
          · have d0 : decide (y.ix ≤ x.ix + (n2 : Int)) = false := by simpa using hsk
            obtain ⟨s, hs1, hs2, hs3⟩ := HONE.out k y HY.out (by have := HYI.out; omega)
            have HSO := Lib.hid (slice_one x l' (n1 + k) s y.ix hs1 (by have := HYI.out; omega))
            have HS3 := Lib.hid hs3
            have d1 : (s.tm == y.tm) = true := by simpa using hs2
            have d1' : (s.tm != y.tm) = false := by simpa using hs2
            clear hs1 hs2 hs3
            go_wp2_with fail
            refine (la_slice (Lib.hid HA.out.log) y.ix 1 [s] HSO.out).mono ?_
            rintro e' w14 ⟨As, cs, rfl, hrs, hG, oo⟩
            replace HA := Lib.hid (HA.out.to oo.out)
            obtain ⟨qs1, cs1, hvs⟩ := own_formX hrs.out (by simp)
            injection hvs with j1 j2 j3
            subst j1
            subst j3
            obtain ⟨b2, o2, c2, e2, s0, s1, s2, s3⟩ := enL_at (n := 0) (x := s) (SlAt.of_own hrs.out) rfl
            injection e2 with l1 l2 l3
            injection l1 with l1
            injection l1 with l1a l1b
            subst l1a
            subst l1b
            simp only [Nat.zero_mul, Nat.add_zero] at s0 s1 s2 s3
            obtain ⟨b3, o3, c3, e3, q0', q1', q2', q3'⟩ := enL_at HA.out.en.sl HY.out
            injection e3 with l1 l4 l5
            injection l1 with l1
            injection l1 with l1a l1b
            subst l1a
            subst l1b
            have s0 := fun u : Since w14 => u.cell s0
            have s1 := fun u : Since w14 => u.cell s1
            have s2 := fun u : Since w14 => u.cell s2
            have s3 := fun u : Since w14 => u.cell s3
            have r0 := fun u : Since w14 => u.cell q0'
            have r1 := fun u : Since w14 => u.cell q1'
            have r2 := fun u : Since w14 => u.cell q2'
            have r3 := fun u : Since w14 => u.cell q3'
            clear q0 q1 q2 q3 q0' q1' q2' q3' l2 l3 l4 l5 j2 oo hG hrs
            by_cases hle : yy ≤ y.ix
            · have hsy : s = y := HS3.out hyp hle
              subst hsy
              have d2 : decide (yy ≤ s.ix) = true := by simpa using hle
              have f0 : (s.ix == s.ix) = true := beq_self_eq_true _
              have f2 : (s.kd == s.kd) = true := beq_self_eq_true _
              have f3 : (s.d.toList == s.d.toList) = true := beq_self_eq_true _
              go_wp2_with fail
              refine wp_region_only w14 (Only.refl _ _) (by kernel_rfl) (by kernel_rfl) ?_
              repeat (go_big_quiet_step (fail))
              refine wpQuiet_nil ?_
              rintro ⟨w15, oo⟩
              dsimp only
              replace HA := Lib.hid (HA.out.to oo)
              clear s0 s1 s2 s3 r0 r1 r2 r3
              go_wp2_with fail
              go_roundw
              case rel => exact ⟨k + 1, by omega, by go_num, HA⟩
              case measure => simp [intOf]; omega
            · have d2 : decide (yy ≤ y.ix) = false := by simpa using hle
              go_wp2_with fail
              refine wp_region_only w14 (Only.refl _ _) (by kernel_rfl) (by kernel_rfl) ?_
              repeat (go_big_quiet_step (fail))
              refine wpQuiet_nil ?_
              rintro ⟨w15, oo⟩
              dsimp only
              replace HA := Lib.hid (HA.out.to oo)
              clear s0 s1 s2 s3 r0 r1 r2 r3
              go_wp2_with fail
              go_roundw
              case rel => exact ⟨k + 1, by omega, by go_num, HA⟩
              case measure => simp [intOf]; omega
        · have hd : decide ((k : Int) < (e.length : Int)) = false := by simp; omega
          go_wp2_with fail
          clear hk hlt hd
          obtain ⟨wo, rfl⟩ : ∃ wo : World, wo = wr := ⟨_, rfl⟩
          go_loopw [29] (fun i wr => ∃ k : Nat, k ≤ l.length ∧ i = .int .i64 k ∧ Hid (MAll W wr K2 bg z x l l' e (.slice Ax x.vs.length cx) (.slice Aw l.length cw) (.slice Ae e.length ce) (.slice An l'.length cn))) (fun i _ => l.length - (intOf i).toNat)
          case atStart => exact ⟨0, by omega, rfl, HA⟩
          case round =>
            obtain ⟨k, hk, rfl, HA⟩ := hrel
            by_cases hlt : k < l.length
            · have hlt' : (k : Int) < (l.length : Int) := by omega
              by_cases hlt2 : k < l'.length
              · have hlt2' : (k : Int) < (l'.length : Int) := by omega
                obtain ⟨a, ha⟩ : ∃ a, l[k]? = some a := ⟨_, List.getElem?_eq_getElem hlt⟩
                have HAK := Lib.hid ha
                obtain ⟨b1, o1, c1', e1, q0, q1, q2, q3⟩ := enL_at HA.out.was.sl ha
                injection e1 with i1 i2 i3
                subst i1
                subst i3
                clear i2 ha
                by_cases hai : a.ix < yy
                · have da : decide (a.ix < yy) = true := by simpa using hai
                  have hal := HLOW.out k a HAK.out hlt2 (.inr hai)
                  obtain ⟨b2, o2, c2', e2, p0, p1, p2, p3⟩ := enL_at HA.out.now.sl hal
                  injection e2 with i1 i2 i3
                  subst i1
                  subst i3
                  have q0 := fun u : Since wr => u.cell q0
                  have q1 := fun u : Since wr => u.cell q1
                  have q2 := fun u : Since wr => u.cell q2
                  have q3 := fun u : Since wr => u.cell q3
                  have p0 := fun u : Since wr => u.cell p0
                  have p1 := fun u : Since wr => u.cell p1
                  have p2 := fun u : Since wr => u.cell p2
                  have p3 := fun u : Since wr => u.cell p3
                  have f0 : (a.ix == a.ix) = true := beq_self_eq_true _
                  have f1 : (a.tm == a.tm) = true := beq_self_eq_true _
                  have f2 : (a.kd == a.kd) = true := beq_self_eq_true _
                  have f3 : (a.d.toList == a.d.toList) = true := beq_self_eq_true _
                  clear hal i2
                  go_wp2_with fail
                  refine wp_region_only wr (Only.refl _ _) (by kernel_rfl) (by kernel_rfl) ?_
                  repeat (go_big_quiet_step (fail))
                  refine wpQuiet_nil ?_
                  rintro ⟨w15, oo⟩
                  dsimp only
                  replace HA := Lib.hid (HA.out.to oo)
                  clear q0 q1 q2 q3 p0 p1 p2 p3
                  go_wp2_with fail
                  go_roundw
                  case rel => exact ⟨k + 1, by omega, by go_num, HA⟩
                  case measure => simp [intOf]; omega
                · have da : decide (a.ix < yy) = false := by simpa using hai
                  go_wp2_with fail
                  go_roundw
                  case rel => exact ⟨k + 1, by omega, by go_num, HA⟩
                  case measure => simp [intOf]; omega
              · have hlt2' : decide ((k : Int) < (l'.length : Int)) = false := by simp; omega
                go_wp2_with fail
                refine (CP.out _).mono ?_
                rintro e' w16 ⟨rfl, rfl⟩
                go_wp2_with fail
                refine (la_match (Lib.hid HA.out.log) (x.ix + (n1 : Int)) t9 (x.ix + (n2 : Int)) _ e HA.out.en.toR (by omega) (by show x.ix ≤ _; omega) (by unfold LG.last; show x.ix + (n2 : Int) ≤ x.ix + (l'.length : Int); omega) (by unfold LG.last; rw [HLM.out]; show x.ix + (l'.length : Int) + M ≤ _; omega) HDE.out _ HAG.out).mono ?_
                rintro e' w17 ⟨rfl, K3, hG, hGr⟩
                have hNow := Lib.hid (HA.out.now.grew hGr.out)
                have HXx := Lib.hid (HA.out.xc.only hGr.out.only hzK.out)
                have x0 := HXx.out.cell (k := 0) rfl
                clear hGr HA
                go_wp2_with fail
                refine (la_slice hG _ _ l' HALL'.out).mono ?_
                rintro e' w18 ⟨A18, c18, rfl, hr18, hG, oo⟩
                have hNow := Lib.hid (hNow.out.only oo.out)
                go_wp2_with fail
                refine (same8 _ _ l' l' w18 (SlAt.of_own hr18.out) hNow.out.sl (by omega) (by omega)).mono ?_
                rintro e' w19 ⟨rfl, oo⟩
                have hG := Lib.hid (hG.out.to oo)
                rw [show decide (l' = l') = true from by simp]
                go_wp2_with fail
                go_ret
                exact ⟨rfl, hG.out.only⟩
            · have hlt' : decide ((k : Int) < (l.length : Int)) = false := by simp; omega
              go_wp2_with fail
              refine (CP.out _).mono ?_
              rintro e' w16 ⟨rfl, rfl⟩
              go_wp2_with fail
              refine (la_match (Lib.hid HA.out.log) (x.ix + (n1 : Int)) t9 (x.ix + (n2 : Int)) _ e HA.out.en.toR (by omega) (by show x.ix ≤ _; omega) (by unfold LG.last; show x.ix + (n2 : Int) ≤ x.ix + (l'.length : Int); omega) (by unfold LG.last; rw [HLM.out]; show x.ix + (l'.length : Int) + M ≤ _; omega) HDE.out _ HAG.out).mono ?_
              rintro e' w17 ⟨rfl, K3, hG, hGr⟩
              have hNow := Lib.hid (HA.out.now.grew hGr.out)
              have HXx := Lib.hid (HA.out.xc.only hGr.out.only hzK.out)
              have x0 := HXx.out.cell (k := 0) rfl
              clear hGr HA
              go_wp2_with fail
              refine (la_slice hG _ _ l' HALL'.out).mono ?_
              rintro e' w18 ⟨A18, c18, rfl, hr18, hG, oo⟩
              have hNow := Lib.hid (hNow.out.only oo.out)
              go_wp2_with fail
              refine (same8 _ _ l' l' w18 (SlAt.of_own hr18.out) hNow.out.sl (by omega) (by omega)).mono ?_
              rintro e' w19 ⟨rfl, oo⟩
              have hG := Lib.hid (hG.out.to oo)
              rw [show decide (l' = l') = true from by simp]
              go_wp2_with fail
              go_ret
              exact ⟨rfl, hG.out.only⟩
end Go.Proofs.Ytagklgodcbmcaaa
