/-
  RlogCompacts: the walk.
-/
import Derived.Test.YtagklgodcbmcaaaR8r
namespace Go.Proofs.Ytagklgodcbmcaaa
open Go.RowKit
attribute [local go_sem] bfld0 bfld1 bfld2 bfld3
theorem LG.term_in {g : LG} {k : Int} (h0 : g.b.ix ≤ k) (h1 : k ≤ g.last) : (g.term k).2 = true := by
  unfold LG.term
  rw [if_neg (by omega)]
  split
  · rfl
  · rename_i hk
    unfold LG.last at h1
    rw [List.getElem?_eq_getElem (show (k - g.b.ix - 1).toNat < g.l.length by omega)]
theorem compact_out (g : LG) (i : Int) (d : ByteArray) (h : i ≤ g.b.ix ∨ g.last < i) : g.compact i d = (g, false) := by unfold LG.compact; rw [if_pos h]
theorem compact_in (g : LG) (j : Nat) (d : ByteArray) (h0 : 1 ≤ j) (h1 : j ≤ g.l.length) : g.compact (g.b.ix + j) d = (⟨⟨g.b.ix + j, (g.term (g.b.ix + j)).1, g.voters (g.b.ix + j), d⟩, g.l.drop j⟩, true) := by
  unfold LG.compact LG.last
  rw [if_neg (by omega), show (g.b.ix + (j : Int) - g.b.ix).toNat = j from by omega]
theorem voters_in (g : LG) (j : Nat) (h1 : j ≤ g.l.length) : g.voters (g.b.ix + j) = lastV g.b.vs (g.l.take j) := by
  unfold LG.voters LG.last
  rw [show (max g.b.ix (min (g.b.ix + (j : Int)) (g.b.ix + (g.l.length : Int))) - g.b.ix).toNat = j from by omega]
theorem lastV_append (vs : List Int) (a b : List En) : lastV vs (a ++ b) = lastV (lastV vs a) b := by unfold lastV; rw [List.foldl_append]
/-- What a log is that was compacted. -/
theorem compacted (g : LG) (j : Nat) (d : ByteArray) (h0 : 1 ≤ j) (h1 : j ≤ g.l.length) (hl : g.l.length ≤ 1000) :
    ∃ g' : LG, g.compact (g.b.ix + j) d = (g', true) ∧ g'.last = g.last ∧ g'.b.ix = g.b.ix + j ∧ g'.b.d = d ∧ g'.slice (g.b.ix + j) 9 = [] ∧ g'.slice (g.b.ix + j + 1) 1000 = g.slice (g.b.ix + j + 1) 1000 ∧ (g.slice (g.b.ix + j + 1) 1000).length ≤ 1000 ∧
      ∀ q : Nat, j ≤ q → q ≤ g.l.length → g'.term (g.b.ix + q) = g.term (g.b.ix + q) ∧ (g.term (g.b.ix + q)).2 = true ∧ g'.voters (g.b.ix + q) = g.voters (g.b.ix + q) := by
  refine ⟨_, compact_in g j d h0 h1, ?_, rfl, rfl, ?_, ?_, ?_, ?_⟩
  · unfold LG.last; simp; omega
  · unfold LG.slice; rw [if_pos (by simp)]
  · unfold LG.slice LG.last
    dsimp only
    simp only [List.length_drop]
    by_cases h : j = g.l.length
    · rw [if_pos (by omega), if_pos (by omega)]
    · rw [if_neg (by omega), if_neg (by omega), show (g.b.ix + (j : Int) + 1 - (g.b.ix + (j : Int)) - 1).toNat = 0 from by omega, show (g.b.ix + (j : Int) + 1 - g.b.ix - 1).toNat = j from by omega, List.drop_zero]
  · unfold LG.slice
    split
    · simp
    · rw [List.length_take, List.length_drop]; omega
  · intro q hq0 hq1
    have ht : (g.term (g.b.ix + q)).2 = true := LG.term_in (by omega) (by unfold LG.last; omega)
    refine ⟨?_, ht, ?_⟩
    · by_cases hjq : j = q
      · subst hjq
        rw [show (⟨⟨g.b.ix + (j : Int), (g.term (g.b.ix + (j : Int))).1, g.voters (g.b.ix + (j : Int)), d⟩, g.l.drop j⟩ : LG).term (g.b.ix + (j : Int)) = ((g.term (g.b.ix + (j : Int))).1, true) from by
          unfold LG.term LG.last
          dsimp only
          rw [if_neg (by simp; omega), if_pos rfl]]
        rw [← ht]
      · unfold LG.term LG.last
        dsimp only
        rw [if_neg (by simp; omega), if_neg (by omega), if_neg (by omega), if_neg (by omega)]
        rw [List.getElem?_drop, show j + (g.b.ix + (q : Int) - (g.b.ix + (j : Int)) - 1).toNat = (g.b.ix + (q : Int) - g.b.ix - 1).toNat from by omega]
    · rw [voters_in g q hq1]
      obtain ⟨r, rfl⟩ : ∃ r, q = j + r := ⟨q - j, by omega⟩
      have := voters_in (⟨⟨g.b.ix + (j : Int), (g.term (g.b.ix + (j : Int))).1, g.voters (g.b.ix + (j : Int)), d⟩, g.l.drop j⟩ : LG) r (by simp; omega)
      dsimp only at this
      rw [show g.b.ix + ((j + r : Nat) : Int) = g.b.ix + (j : Int) + (r : Int) from by omega, this, voters_in g j h1, List.take_add, lastV_append]
set_option maxRecDepth 100000 in
set_option maxHeartbeats 8000000 in
theorem rlogCompacts_walk (W : World) (b : Int) (wb : (Lit.int .i64 b).wf = true) (v : Value) (ps : List Pt) (hps : PtsAt W v ps) (_ : True) (at_ : Int) (wat_ : (Lit.int .i64 at_).wf = true) :
    Calls Try.prog 4 #[.int .i64 b, v, .int .i64 at_] W fun e W' => e = .returned (.bool true) ∧ Only [] W W' := by
  have hwb := wide64_of_wf wb
  have hwat_ := wide64_of_wf wat_
  have CSps := Lib.hid (fun w (ho : Only [] W w) => small8 v ps w (hps.only ho))
  obtain ⟨Ap, cp, rfl⟩ := hps.shape
  have HPps := Lib.hid hps
  clear hps
  cases hsm : smallB ps with
  | false =>
    rw [hsm] at CSps
    go_enter Try.func4, Try.ntmps4
    go_wp2_with fail
    refine (shown8 W).mono ?_
    rintro e w1 ⟨rfl, ho1⟩
    have o1 := Lib.hid ho1
    clear ho1
    go_wp2_with fail
    refine (CSps.out _ o1.out).mono ?_
    rintro e w2 ⟨rfl, ho⟩
    have o2 := Lib.hid (o1.out.tr ho)
    clear ho CSps
    go_wp2_with fail
    go_ret
    exact ⟨rfl, o2.out⟩
  | true =>
    rw [hsm] at CSps
    have h60ps := (smallB_iff hsm).1
    have HSMps := Lib.hid hsm
    clear hsm
    go_enter Try.func4, Try.ntmps4
    go_wp2_with fail
    refine (shown8 W).mono ?_
    rintro e w1 ⟨rfl, ho1⟩
    have o1 := Lib.hid ho1
    clear ho1
    go_wp2_with fail
    refine (CSps.out _ o1.out).mono ?_
    rintro e w2 ⟨rfl, ho⟩
    have o2 := Lib.hid (o1.out.tr ho)
    clear ho CSps
    go_wp2_with fail
    refine (base8 b 1 w2 hwb ⟨by omega, by omega⟩).mono ?_
    rintro e w30 ⟨v', rfl, hown, ho3⟩
    obtain ⟨hb0x, hb30x, hb3x⟩ := bas_bound b 1
    obtain ⟨x, hxx⟩ : ∃ x, bas b 1 = x := ⟨_, rfl⟩
    rw [hxx] at hown hb0x hb30x hb3x ⊢
    have HRx := Lib.hid (own_low hown o2.out.size)
    have HQx := Lib.hid hown
    obtain ⟨Ax, cx, rfl⟩ := (SlAt.of_own hown).shape
    have HB3x := Lib.hid hb3x
    have HXEx := Lib.hid hxx
    have o9 := Lib.hid (o2.out.tr ho3)
    unfold Bas.val
    clear hown hxx hb3x
    go_wp2_with fail
    have HXx := Lib.hid (Cells.new w30 27 [.int .i64 x.ix, .int .i64 x.tm, .slice Ax x.vs.length cx, .string x.d])
    have o3 := Lib.hid (o9.out.alloc (.cells #[.int .i64 x.ix, .int .i64 x.tm, .slice Ax x.vs.length cx, .string x.d] 27))
    have HVx := Lib.hid (HRx.out.alloc (.cells #[.int .i64 x.ix, .int .i64 x.tm, .slice Ax x.vs.length cx, .string x.d] 27))
    have HWx := Lib.hid (HQx.out.alloc (.cells #[.int .i64 x.ix, .int .i64 x.tm, .slice Ax x.vs.length cx, .string x.d] 27))
    have HZz := Lib.hid ho3.size
    obtain ⟨w3, hwo⟩ : ∃ q, w30.alloc (.cells #[.int .i64 x.ix, .int .i64 x.tm, .slice Ax x.vs.length cx, .string x.d] 27) = q := ⟨_, rfl⟩
    obtain ⟨z, hz⟩ : ∃ q, w30.heap.size = q := ⟨_, rfl⟩
    have hzwz : W.heap.size ≤ z := by rw [← hz]; exact o9.out.size
    have ox := Lib.hid (ho3.alloc (.cells #[.int .i64 x.ix, .int .i64 x.tm, .slice Ax x.vs.length cx, .string x.d] 27))
    rw [hwo] at HXx o3 HVx HWx ox ⊢
    rw [hz] at HXx HZz ⊢
    clear hwo hz o9 ho3 HRx HQx
    have HZlz := Lib.hid HXx.out.lt
    have CE := Lib.hid (fun w' (ho : Only [] w3 w') => entries8 (.slice Ap ps.length cp) ps (x.ix + 1) w' (HPps.out.only (o3.out.tr ho)) HSMps.out (by omega) (by omega))
    have HS := Lib.hid (fun w' (ho : Only [] w3 w') => bas_cells (HXx.out.only ho (by simp)))
    have sw1 : IntKind.i64.wrap (x.ix + 1) = x.ix + 1 := IntWalk.i64_in _ (by omega)
    go_wp2_with fail
    go_region_held3 (fun w' : World => w'.cell? ⟨z, 0, none⟩ = some (.int .i64 x.ix) ∧ w'.cell? ⟨z, 1, none⟩ = some (.int .i64 x.tm) ∧ w'.cell? ⟨z, 2, none⟩ = some (.slice Ax x.vs.length cx) ∧ w'.cell? ⟨z, 3, none⟩ = some (.string x.d))
      (exact HS.out _ (by repeat (first | exact Only.refl _ _ | refine Only.drew ?_ | refine Only.alloc ?_ _ | refine Only.tr ?_ (by assumption) | refine Only.tr ?_ (Lib.Hid.out (by assumption)))))
      (first
        | (go_at_call 19; refine (CE.out _ (Only.refl _ _).drew).mono ?_; rintro e wa ⟨va, rfl, hra, hoa⟩; obtain ⟨Aa, ca, rfl⟩ := (SlAt.of_own hra).shape; have HRA := Lib.hid hra; clear hra)
        | (go_at_call 18; refine (la_newE (o3.out.drew.tr hoa) x (.slice Ax x.vs.length cx) _ ps _ _ (own_keep HVx.out (((Only.refl _ _).drew).tr hoa) (by simp)) HRA.out hb0x hb30x HB3x.out h60ps (entL_dok HPps.out HSMps.out _)).mono ?_; rintro e w4 ⟨bg, K1, rfl, hG, oL, kL⟩))
    rename_i hHeld
    clear hHeld
    have oN : Hid (Only [] w3 w4) := Lib.hid ((((Only.refl _ _).drew).tr hoa).tr oL.out)
    have HNbg : Hid (∀ q, q ∈ K1 → w3.heap.size ≤ q) := Lib.hid fun q hq => Nat.le_trans (hoa.size) (kL.out q hq)
    clear CE HS sw1 hoa oL kL HRA
    have o4 := Lib.hid (o3.out.tr oN.out)
    have HXx := Lib.hid (HXx.out.only oN.out (by simp))
    have HVx := Lib.hid (own_keep HVx.out oN.out (by simp))
    clear oN
    have CE := Lib.hid (fun w' (ho : Only [] w4 w') => entries8 (.slice Ap ps.length cp) ps (x.ix + 1) w' (HPps.out.only (o4.out.tr ho)) HSMps.out (by omega) (by omega))
    have HS := Lib.hid (fun w' (ho : Only [] w4 w') => bas_cells (HXx.out.only ho (by simp)))
    have sw1 : IntKind.i64.wrap (x.ix + 1) = x.ix + 1 := IntWalk.i64_in _ (by omega)
    go_wp2_with fail
    go_region_held3 (fun w' : World => w'.cell? ⟨z, 0, none⟩ = some (.int .i64 x.ix) ∧ w'.cell? ⟨z, 1, none⟩ = some (.int .i64 x.tm) ∧ w'.cell? ⟨z, 2, none⟩ = some (.slice Ax x.vs.length cx) ∧ w'.cell? ⟨z, 3, none⟩ = some (.string x.d))
      (exact HS.out _ (by repeat (first | exact Only.refl _ _ | refine Only.drew ?_ | refine Only.alloc ?_ _ | refine Only.tr ?_ (by assumption) | refine Only.tr ?_ (Lib.Hid.out (by assumption)))))
      (first
        | (go_at_call 19; refine (CE.out _ (Only.refl _ _).drew).mono ?_; rintro e wa ⟨va, rfl, hra, hoa⟩; obtain ⟨Aa, ca, rfl⟩ := (SlAt.of_own hra).shape; have HRA := Lib.hid hra; clear hra)
        | (go_at_call 18; refine (la_newE (o4.out.drew.tr hoa) x (.slice Ax x.vs.length cx) _ ps _ _ (own_keep HVx.out (((Only.refl _ _).drew).tr hoa) (by simp)) HRA.out hb0x hb30x HB3x.out h60ps (entL_dok HPps.out HSMps.out _)).mono ?_; rintro e w5 ⟨bh, K2, rfl, hH, oL, kL⟩))
    rename_i hHeld
    clear hHeld
    have oN : Hid (Only [] w4 w5) := Lib.hid ((((Only.refl _ _).drew).tr hoa).tr oL.out)
    have HNbh : Hid (∀ q, q ∈ K2 → w4.heap.size ≤ q) := Lib.hid fun q hq => Nat.le_trans (hoa.size) (kL.out q hq)
    clear CE HS sw1 hoa oL kL HRA
    have o5 := Lib.hid (o4.out.tr oN.out)
    have HXx := Lib.hid (HXx.out.only oN.out (by simp))
    have hKb := Lib.hid hG.out.k.below
    have hG := Lib.hid (hG.out.to oN.out)
    have hKK : Hid (∀ q, q ∈ K1 → q ∉ K2) := Lib.hid fun q h1 h2 => by
      have := hKb.out q h1
      have := HNbh.out q h2
      omega
    have hzK : Hid (z ∉ K1) := Lib.hid fun hq => by
      have h1 := HNbg.out z hq
      have h2 := HZlz.out
      omega
    clear oN
    obtain ⟨g, hg⟩ : ∃ g, (⟨x, entL ps (x.ix + 1)⟩ : LG) = g := ⟨_, rfl⟩
    have hlen : g.l.length = ps.length := by rw [← hg]; exact entL_length _ _
    have hgx : g.b = x := by rw [← hg]
    rw [hg] at hG hH
    clear hg
    have HXB := Lib.hid hgx
    obtain ⟨n, hn⟩ : ∃ n : Nat, pickI at_ (ps.length + 2) = n := ⟨(pickI at_ (ps.length + 2)).toNat, by have := (pickI_lt at_ (ps.length + 2) (by omega)).1; omega⟩
    have hnb : n ≤ ps.length + 1 := by have := (pickI_lt at_ (ps.length + 2) (by omega)).2; omega
    have CP := Lib.hid (fun w' => pick8 at_ (ps.length + 2) w' hwat_ (by omega) (by omega))
    rw [hn] at CP
    have HLEN := Lib.hid hlen
    clear hn hlen hgx
    have x0 := fun u : Since w5 => u.cell (HXx.out.cell (k := 0) rfl)
    have sw1 : IntKind.i64.wrap ((ps.length : Int) + 2) = (ps.length : Int) + 2 := IntWalk.i64_in _ (by omega)
    have sw2 : IntKind.i64.wrap (x.ix + (n : Int)) = x.ix + (n : Int) := IntWalk.i64_in _ (by omega)
    go_wp2_with fail
    refine wp_region_only w5 (Only.refl _ _) (by kernel_rfl) (by kernel_rfl) ?_
    repeat (go_big_quiet_step ((go_at_call 22; refine Calls.only_same (CP.out _))))
    refine wpQuiet_nil ?_
    rintro ⟨w6, oo⟩
    dsimp only
    have hG := Lib.hid (hG.out.to oo)
    have hH := Lib.hid (hH.out.to oo)
    have HXx := Lib.hid (HXx.out.only oo (by simp))
    clear oo x0 CP HWx HVx o3 o4 o5 ox HNbg HNbh hKb
    have hgl : Hid (g.last = x.ix + (ps.length : Int)) := by show _ = _; unfold LG.last; rw [HLEN.out, HXB.out]
    have CLg := Lib.hid (fun w K (hx : Hid (LogAt W w K bh g)) => la_last hx)
    rw [hgl.out] at CLg
    by_cases hin : 1 ≤ n ∧ n ≤ ps.length
    case neg =>
      have HC := Lib.hid (compact_out g (x.ix + (n : Int)) ⟨#[100]⟩ (by rw [HXB.out, hgl.out]; omega))
      go_wp2_with fail
      refine (la_compact hG (x.ix + (n : Int)) ⟨#[100]⟩ g false HC.out).mono ?_
      rintro e w7 ⟨rfl, K3, hG, hGr⟩
      unfold cErr
      have hH := Lib.hid (hH.out.keep hGr.out.only hKK.out hG.out.only)
      have HXx := Lib.hid (HXx.out.only hGr.out.only hzK.out)
      obtain ⟨m, hm⟩ : ∃ m, g.slice (x.ix + 1) 1000 = m := ⟨_, rfl⟩
      have hml : m.length ≤ 1000 := by
        rw [← hm]
        unfold LG.slice
        split
        · simp
        · rw [List.length_take]; omega
      have HM := Lib.hid hm
      clear hm hKK hzK hGr HC
      have x0 := HXx.out.cell (k := 0) rfl
      have tail : True := trivial
      by_cases hn0 : n = 0
      · subst hn0
        have d0 : (x.ix + ((0 : Nat) : Int) == x.ix) = true := by simp
        have d0' : (x.ix == x.ix) = true := beq_self_eq_true _
        have HS := Lib.hid (fun w' (ho : Only [] w7 w') => bas_cells (HXx.out.only ho (by simp)))
        clear sw2
        have sw2 : IntKind.i64.wrap (x.ix + 1) = x.ix + 1 := IntWalk.i64_in _ (by omega)
        go_wp2_with fail
        go_region_held3 (fun w' : World => w'.cell? ⟨z, 0, none⟩ = some (.int .i64 x.ix) ∧ w'.cell? ⟨z, 1, none⟩ = some (.int .i64 x.tm) ∧ w'.cell? ⟨z, 2, none⟩ = some (.slice Ax x.vs.length cx) ∧ w'.cell? ⟨z, 3, none⟩ = some (.string x.d))
          (exact HS.out _ (by repeat (first | exact Only.refl _ _ | refine Only.drew ?_ | refine Only.alloc ?_ _ | refine Only.tr ?_ (by assumption) | refine Only.tr ?_ (Lib.Hid.out (by assumption)))))
          (first
            | (go_at_call 20; refine (la_slice (b := bh) hH9 (x.ix + 1) 1000 m HM.out).mono ?_; rintro e w10 ⟨A10, c10, rfl, hr10, hH10, q10⟩)
            | (go_at_call 20; refine (la_slice (b := bg) (Lib.hid (hG.out.to (Only.refl _ _).drew)) (x.ix + 1) 1000 m HM.out).mono ?_; rintro e w9 ⟨A9, c9, rfl, hr9, hG9, q9⟩; have hH9 := Lib.hid (hH.out.to ((Only.refl _ _).drew.tr q9.out)))
            | (go_at_call 24; refine (same8 _ _ m m w10 (((SlAt.of_own hr9.out).only q10.out (Nat.le_refl _) (by simp)).more q10.out.size) (SlAt.of_own hr10.out) (by omega) (by omega)).mono ?_; rintro e w11 ⟨rfl, q11⟩; rw [show decide (m = m) = true from by simp]))
        go_wp2_with fail
        go_ret
        exact ⟨rfl, hH10.out.only.tr q11⟩
      · have hnN : n = ps.length + 1 := by omega
        have d0 : (x.ix + (n : Int) == x.ix) = false := by simp; omega
        have d1 : decide (x.ix + (ps.length : Int) < x.ix + (n : Int)) = true := by simp; omega
        clear sw2
        have sw2 : IntKind.i64.wrap (x.ix + 1) = x.ix + 1 := IntWalk.i64_in _ (by omega)
        have d2 : decide (ps.length < n) = true := by simp; omega
        have d3 : decide ((ps.length : Int) < (n : Int)) = true := by simp; omega
        clear hnN hn0 hin
        go_wp2_with fail
        refine (CLg.out _ _ hH).mono ?_
        rintro e w8 ⟨rfl, hH, oo⟩
        have hG := Lib.hid (hG.out.to oo.out)
        have HXx := Lib.hid (HXx.out.only oo.out (by simp))
        have HS := Lib.hid (fun w' (ho : Only [] w8 w') => bas_cells (HXx.out.only ho (by simp)))
        go_wp2_with fail
        go_region_held3 (fun w' : World => w'.cell? ⟨z, 0, none⟩ = some (.int .i64 x.ix) ∧ w'.cell? ⟨z, 1, none⟩ = some (.int .i64 x.tm) ∧ w'.cell? ⟨z, 2, none⟩ = some (.slice Ax x.vs.length cx) ∧ w'.cell? ⟨z, 3, none⟩ = some (.string x.d))
          (exact HS.out _ (by repeat (first | exact Only.refl _ _ | refine Only.drew ?_ | refine Only.alloc ?_ _ | refine Only.tr ?_ (by assumption) | refine Only.tr ?_ (Lib.Hid.out (by assumption)))))
          (first
            | (go_at_call 20; refine (la_slice (b := bh) hH9 (x.ix + 1) 1000 m HM.out).mono ?_; rintro e w10 ⟨A10, c10, rfl, hr10, hH10, q10⟩)
            | (go_at_call 20; refine (la_slice (b := bg) (Lib.hid (hG.out.to (Only.refl _ _).drew)) (x.ix + 1) 1000 m HM.out).mono ?_; rintro e w9 ⟨A9, c9, rfl, hr9, hG9, q9⟩; have hH9 := Lib.hid (hH.out.to ((Only.refl _ _).drew.tr q9.out)))
            | (go_at_call 24; refine (same8 _ _ m m w10 (((SlAt.of_own hr9.out).only q10.out (Nat.le_refl _) (by simp)).more q10.out.size) (SlAt.of_own hr10.out) (by omega) (by omega)).mono ?_; rintro e w11 ⟨rfl, q11⟩; rw [show decide (m = m) = true from by simp]))
        go_wp2_with fail
        go_ret
        exact ⟨rfl, hH10.out.only.tr q11⟩
    case pos =>
      obtain ⟨hn1, hnN⟩ := hin
      obtain ⟨g', hc, hl', hb', hd', hs9, hs1, hml, hq⟩ := compacted g n ⟨#[100]⟩ hn1 (by rw [HLEN.out]; exact hnN) (by rw [HLEN.out]; omega)
      rw [HLEN.out] at hq
      rw [hgl.out] at hl'
      rw [HXB.out] at hc hb' hs9 hs1 hml hq
      obtain ⟨m, hm⟩ : ∃ m, g.slice (x.ix + n + 1) 1000 = m := ⟨_, rfl⟩
      rw [hm] at hs1 hml
      obtain ⟨ty, hty⟩ : ∃ q, g'.b.tm = q := ⟨_, rfl⟩
      obtain ⟨vy, hvy⟩ : ∃ q, g'.b.vs = q := ⟨_, rfl⟩
      have HB : Hid (g'.b = ⟨x.ix + n, ty, vy, ⟨#[100]⟩⟩) := by show _ = _; rw [← hb', ← hd', ← hty, ← hvy]
      have HC := Lib.hid hc
      have HM := Lib.hid hm
      have HS9 := Lib.hid hs9
      have HS1 := Lib.hid hs1
      have HQ := Lib.hid hq
      have CLc := Lib.hid (fun w K (hx : Hid (LogAt W w K bg g')) => la_last hx)
      rw [hl'] at CLc
      clear hc hl' hb' hd' hs9 hs1 hm hq hty hvy
      have x0 := HXx.out.cell (k := 0) rfl
      go_wp2_with fail
      refine (la_compact hG (x.ix + (n : Int)) ⟨#[100]⟩ g' true HC.out).mono ?_
      rintro e w7 ⟨rfl, K3, hG, hGr⟩
      unfold cErr
      have hH := Lib.hid (hH.out.keep hGr.out.only hKK.out hG.out.only)
      have HXx := Lib.hid (HXx.out.only hGr.out.only hzK.out)
      have x0 := HXx.out.cell (k := 0) rfl
      have d0 : (x.ix + (n : Int) == x.ix) = false := by simp; omega
      have d1 : decide (x.ix + (ps.length : Int) < x.ix + (n : Int)) = false := by simp; omega
      have d2 : decide (ps.length < n) = false := by simp; omega
      have d3 : decide ((ps.length : Int) < (n : Int)) = false := by simp; omega
      clear hKK hzK hGr HC
      go_wp2_with fail
      refine (CLg.out _ _ hH).mono ?_
      rintro e w8 ⟨rfl, hH, oo⟩
      have hG := Lib.hid (hG.out.to oo.out)
      clear HXx x0
      go_wp2_with fail
      refine (CLc.out _ _ hG).mono ?_
      rintro e w9 ⟨rfl, hG, oo⟩
      have hH := Lib.hid (hH.out.to oo.out)
      go_wp2_with fail
      refine (CLg.out _ _ hH).mono ?_
      rintro e w10 ⟨rfl, hH, oo⟩
      have hG := Lib.hid (hG.out.to oo.out)
      go_wp2_with fail
      refine (la_base hG ⟨x.ix + n, ty, vy, ⟨#[100]⟩⟩ HB.out).mono ?_
      rintro e w11 ⟨A11, c11, rfl, -, hG, oo⟩
      have hH := Lib.hid (hH.out.to oo.out)
      go_wp2_with fail
      refine (la_base hG ⟨x.ix + n, ty, vy, ⟨#[100]⟩⟩ HB.out).mono ?_
      rintro e w12 ⟨A12, c12, rfl, -, hG, oo⟩
      have hH := Lib.hid (hH.out.to oo.out)
      go_wp2_with fail
      refine (la_slice hG (x.ix + n) 9 [] HS9.out).mono ?_
      rintro e w13 ⟨A13, c13, rfl, -, hG, oo⟩
      have hH := Lib.hid (hH.out.to oo.out)
      clear d0 d1 d2 d3
      go_wp2_with fail
      go_loopw [14] (fun u wr => ∃ q : Nat, n ≤ q ∧ q ≤ ps.length + 1 ∧ u = .int .i64 (x.ix + q) ∧ Hid (LogAt W wr K3 bg g') ∧ Hid (LogAt W wr K2 bh g)) (fun u _ => (x.ix + ps.length + 5 - intOf u).toNat)
      case atStart => exact ⟨n, by omega, by omega, rfl, hG, hH⟩
      case round =>
        obtain ⟨q, hq0, hq1, rfl, hG, hH⟩ := hrel
        by_cases hq : q ≤ ps.length
        · have d0 : decide (x.ix + (q : Int) ≤ x.ix + (ps.length : Int)) = true := by simp; omega
          have d1 : decide (q ≤ ps.length) = true := by simpa using hq
          have d2 : decide ((q : Int) ≤ (ps.length : Int)) = true := by simp; omega
          obtain ⟨ht1, ht2, hv1⟩ := HQ.out q hq0 hq
          obtain ⟨t, ht⟩ : ∃ t, (g.term (x.ix + q)).1 = t := ⟨_, rfl⟩
          have HT : Hid (g.term (x.ix + q) = (t, true)) := by show _ = _; rw [← ht, ← ht2]
          have HT' : Hid (g'.term (x.ix + q) = (t, true)) := by show _ = _; rw [ht1, HT.out]
          obtain ⟨l, hl⟩ : ∃ l, g.voters (x.ix + q) = l := ⟨_, rfl⟩
          have HL := Lib.hid hl
          have HL' : Hid (g'.voters (x.ix + q) = l) := by show _ = _; rw [hv1, hl]
          have hll : l.length ≤ 1000000000 := by
            rw [← hl]
            have : (g.voters (x.ix + q)).length ≤ 1000 := by
              unfold LG.voters
              obtain ⟨vv, ev, hgv, _, _⟩ := hG.out.k
              obtain ⟨vv2, ev2, hgv2, _, _⟩ := hH.out.k
              exact lastV_len _ _ hgv2.vlen
            omega
          clear ht1 ht2 hv1 ht hl
          go_wp2_with fail
          refine (CLg.out _ _ hH).mono ?_
          rintro e w14 ⟨rfl, hH, oo⟩
          have hG := Lib.hid (hG.out.to oo.out)
          go_wp2_with fail
          refine (la_term hG (x.ix + q) t true HT'.out).mono ?_
          rintro e w15 ⟨rfl, hG, oo⟩
          have hH := Lib.hid (hH.out.to oo.out)
          go_wp2_with fail
          refine (la_term hH (x.ix + q) t true HT.out).mono ?_
          rintro e w16 ⟨rfl, hH, oo⟩
          have hG := Lib.hid (hG.out.to oo.out)
          go_wp2_with fail
          refine (la_voters hG (x.ix + q) l HL'.out).mono ?_
          rintro e w17 ⟨A17, c17, rfl, r17, hG, oo⟩
          have hH := Lib.hid (hH.out.to oo.out)
          go_wp2_with fail
          refine (la_voters hH (x.ix + q) l HL.out).mono ?_
          rintro e w18 ⟨A18, c18, rfl, r18, hH, oo⟩
          have hG := Lib.hid (hG.out.to oo.out)
          go_wp2_with fail
          refine (ints8 _ _ l l w18 (((SlAt.of_own r17.out).only oo.out (Nat.le_refl _) (by simp)).more oo.out.size) (SlAt.of_own r18.out) hll hll).mono ?_
          rintro e w19 ⟨rfl, oo⟩
          have hG := Lib.hid (hG.out.to oo)
          have hH := Lib.hid (hH.out.to oo)
          rw [show decide (l = l) = true from by simp]
          go_wp2_with fail
          go_roundw
          case rel => exact ⟨q + 1, by omega, by omega, by go_num, hG, hH⟩
          case measure => simp [intOf]; omega
        · have d0 : decide (x.ix + (q : Int) ≤ x.ix + (ps.length : Int)) = false := by simp; omega
          have d1 : decide (q ≤ ps.length) = false := by simpa using hq
          have d2 : decide ((q : Int) ≤ (ps.length : Int)) = false := by simp; omega
          go_wp2_with fail
          refine (CLg.out _ _ hH).mono ?_
          rintro e w14 ⟨rfl, hH, oo⟩
          have hG := Lib.hid (hG.out.to oo.out)
          go_wp2_with fail
          refine (la_slice hG (x.ix + n + 1) 1000 m HS1.out).mono ?_
          rintro e w15 ⟨A15, c15, rfl, r15, hG, oo⟩
          have hH := Lib.hid (hH.out.to oo.out)
          go_wp2_with fail
          refine (la_slice hH (x.ix + n + 1) 1000 m HM.out).mono ?_
          rintro e w16 ⟨A16, c16, rfl, r16, hH, oo⟩
          go_wp2_with fail
          refine (same8 _ _ m m w16 (((SlAt.of_own r15.out).only oo.out (Nat.le_refl _) (by simp)).more oo.out.size) (SlAt.of_own r16.out) (by omega) (by omega)).mono ?_
          rintro e w17 ⟨rfl, oo⟩
          rw [show decide (m = m) = true from by simp]
          go_wp2_with fail
          go_ret
          exact ⟨rfl, hH.out.only.tr oo⟩
end Go.Proofs.Ytagklgodcbmcaaa
