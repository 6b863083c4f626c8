/-
  Chapter 8: the law's alike.
-/
import Derived.Test.YtagklgodcbmcaaaQ8i
namespace Go.Proofs.Ytagklgodcbmcaaa
open Go.RowKit
theorem slice_allN (x : Bas) (l : List En) (h : l.length ≤ 10000) : (⟨x, l⟩ : LG).slice (x.ix + 1) 10000 = l := by
  rw [slice_eq _ _ _ (by dsimp only; omega)]
  dsimp only
  rw [show (x.ix + 1 - x.ix - 1).toNat = 0 from by omega, List.drop_zero, List.take_of_length_le (by simpa using h)]
set_option maxRecDepth 100000 in
set_option maxHeartbeats 8000000 in
theorem two_alike (W w : World) (b r : Nat) (g : LG) (i : Int) (h : Two W w b r g) (hg : g.l.length ≤ 10000) :
    Calls Try.prog 35 #[.pointer (some ⟨b, 0, none⟩), .pointer (some ⟨r, 0, none⟩), .int .i64 i] w fun e w' => e = .returned (.bool true) ∧ Only [] w w' := by
  obtain ⟨K, KR, h1, h2, h3, h4, h5⟩ := h
  obtain ⟨vv, ev, hv, hK, hl⟩ := h2
  obtain ⟨Av, cv, rfl, _, _⟩ := hv.vots.shape
  obtain ⟨Ae, ce, rfl, _, _⟩ := hv.ents.shape
  obtain ⟨x, l⟩ := g
  have hL := Lib.hid h1
  have HR := Lib.hid hv
  have HD := Lib.hid h1.data
  have HIX := Lib.hid h5
  have hvl := hv.vlen
  have hlo := hv.lo
  have hhi := hv.hi
  dsimp only at hvl hlo hhi hg
  obtain ⟨t, ht⟩ : ∃ t, ((⟨x, l⟩ : LG).term i).1 = t := ⟨_, rfl⟩
  obtain ⟨tb, htb⟩ : ∃ t, ((⟨x, l⟩ : LG).term i).2 = t := ⟨_, rfl⟩
  obtain ⟨vo, hvo⟩ : ∃ v, (⟨x, l⟩ : LG).voters i = v := ⟨_, rfl⟩
  have hvol : vo.length ≤ 1000 := by rw [← hvo]; exact lastV_len _ _ hvl
  have HT : Hid ((⟨x, l⟩ : LG).term i = (t, tb)) := by show _ = _; rw [← ht, ← htb]
  have HVO := Lib.hid hvo
  obtain ⟨last, hlast⟩ : ∃ q, (⟨x, l⟩ : LG).last = q := ⟨_, rfl⟩
  have HLA := Lib.hid hlast
  clear h1 hv hK hl h3 h4 h5 ht htb hvo hlast
  go_enter Try.func35, Try.ntmps35
  go_wp2_with fail
  refine (la_base hL x rfl).mono ?_
  rintro e w1 ⟨A1, c1, rfl, hr1, hL, o1⟩
  go_wp2_with fail
  have hX := Lib.hid (Cells.new w1 27 [.int .i64 x.ix, .int .i64 x.tm, .slice A1 x.vs.length c1, .string x.d])
  have oA : Hid (Only [] w (w1.alloc (.cells #[.int .i64 x.ix, .int .i64 x.tm, .slice A1 x.vs.length c1, .string x.d] 27))) := Lib.hid (o1.out.alloc _)
  have hr1' := Lib.hid (hr1.out.alloc (.cells #[.int .i64 x.ix, .int .i64 x.tm, .slice A1 x.vs.length c1, .string x.d] 27))
  replace hL := Lib.hid (hL.out.to ((Only.refl _ w1).alloc (.cells #[.int .i64 x.ix, .int .i64 x.tm, .slice A1 x.vs.length c1, .string x.d] 27)))
  obtain ⟨w2, hw2⟩ : ∃ w2, w1.alloc (.cells #[.int .i64 x.ix, .int .i64 x.tm, .slice A1 x.vs.length c1, .string x.d] 27) = w2 := ⟨_, rfl⟩
  obtain ⟨z, hz⟩ : ∃ z, w1.heap.size = z := ⟨_, rfl⟩
  rw [hw2] at hX oA hr1' hL ⊢
  rw [hz] at hX ⊢
  clear hw2 hz hr1 o1
  refine (la_term hL i t tb HT.out).mono ?_
  rintro e w3 ⟨rfl, hL, o3⟩
  have oB := Lib.hid (oA.out.tr o3.out)
  have CT := Lib.hid (rl_term r _ _ ⟨x, l⟩ i w3 (HR.out.only oB.out))
  unfold ibV at CT
  rw [HT.out] at CT
  dsimp only at CT
  go_wp2_with fail
  refine CT.out.mono ?_
  rintro e w4 ⟨rfl, o4⟩
  have oC := Lib.hid (oB.out.tr o4)
  replace hL := Lib.hid (hL.out.to o4)
  have HX4 := Lib.hid ((hX.out.only o3.out (by simp)).only o4 (by simp))
  have HV4 := Lib.hid ((SlAt.of_own (own_only (own_only hr1'.out o3.out (by simp)) o4 (by simp))))
  have HR4 := Lib.hid (HR.out.only oC.out)
  clear CT oA oB hX hr1' o3 o4 HR
  go_wp2_with fail
  have HS : Hid (∀ w', Only [] w4 w' → (w'.cell? ⟨z, 0, none⟩ = some (.int .i64 x.ix) ∧ w'.cell? ⟨z, 1, none⟩ = some (.int .i64 x.tm) ∧ w'.cell? ⟨z, 2, none⟩ = some (.slice A1 x.vs.length c1) ∧ w'.cell? ⟨z, 3, none⟩ = some (.string x.d)) ∧ (w'.cell? ⟨r, 0, none⟩ = some (.int .i64 x.ix) ∧ w'.cell? ⟨r, 1, none⟩ = some (.int .i64 x.tm) ∧ w'.cell? ⟨r, 2, none⟩ = some (.slice Av x.vs.length cv) ∧ w'.cell? ⟨r, 3, none⟩ = some (.string x.d) ∧ w'.cell? ⟨r, 4, none⟩ = some (.slice Ae l.length ce))) := Lib.hid fun w' ho =>
    ⟨bas_cells (HX4.out.only ho (by simp)), (HR4.out.only ho).cells.cell (k := 0) rfl, (HR4.out.only ho).cells.cell (k := 1) rfl, (HR4.out.only ho).cells.cell (k := 2) rfl, (HR4.out.only ho).cells.cell (k := 3) rfl, (HR4.out.only ho).cells.cell (k := 4) rfl⟩
  have sw1 : IntKind.i64.wrap (x.ix + 1) = x.ix + 1 := IntWalk.i64_in _ (by omega)
  have b0 : (last == last) = true := beq_self_eq_true _
  have b1 : (x.ix == x.ix) = true := beq_self_eq_true _
  have b2 : (x.tm == x.tm) = true := beq_self_eq_true _
  have b3 : (x.d.toList == x.d.toList) = true := beq_self_eq_true _
  have b4 : (t == t) = true := beq_self_eq_true _
  have b5 : (tb == tb) = true := beq_self_eq_true _
  have CL := Lib.hid (fun w' (ho : Only [] w4 w') => la_last (Lib.hid (hL.out.to ho)))
  have CRL := Lib.hid (fun w' (ho : Only [] w4 w') => rl_last r _ _ ⟨x, l⟩ w' (HR4.out.only ho))
  rw [HLA.out] at CL CRL
  have HALL := Lib.hid (slice_allN x l hg)
  simp only [List.append_eq, List.cons_append, List.nil_append]
  go_region_held3 (fun w' : World => (w'.cell? ⟨z, 0, none⟩ = some (.int .i64 x.ix) ∧ w'.cell? ⟨z, 1, none⟩ = some (.int .i64 x.tm) ∧ w'.cell? ⟨z, 2, none⟩ = some (.slice A1 x.vs.length c1) ∧ w'.cell? ⟨z, 3, none⟩ = some (.string x.d)) ∧ (w'.cell? ⟨r, 0, none⟩ = some (.int .i64 x.ix) ∧ w'.cell? ⟨r, 1, none⟩ = some (.int .i64 x.tm) ∧ w'.cell? ⟨r, 2, none⟩ = some (.slice Av x.vs.length cv) ∧ w'.cell? ⟨r, 3, none⟩ = some (.string x.d) ∧ w'.cell? ⟨r, 4, none⟩ = some (.slice Ae l.length ce)))
    (exact HS.out _ (by repeat (first | exact Only.refl _ _ | refine Only.drew ?_ | refine Only.tr ?_ (by assumption) | refine Only.tr ?_ (Lib.Hid.out (by assumption)))))
    (first
      | (go_at_call 21; refine (CL.out _ (Only.refl _ _).drew).mono ?_; rintro e w5 ⟨rfl, hL5, p5⟩; have q5 := Lib.hid ((Only.refl [] w4).drew.tr p5.out))
      | (go_at_call 38; refine (CRL.out _ q5.out).mono ?_; rintro e w6 ⟨rfl, p6⟩; have q6 := Lib.hid (q5.out.tr p6))
      | (go_at_call 28; refine (ints8 _ _ vo vo w11 (((SlAt.of_own hr10.out).only p11 (Nat.le_refl _) (by simp)).more p11.size) hr12.sl (by omega) (by omega)).mono ?_; rintro e w12 ⟨rfl, p12⟩; rw [show decide (vo = vo) = true from by simp]; have q12 := Lib.hid (q11.out.tr p12))
      | (go_at_call 28; refine (ints8 _ _ x.vs x.vs w6 ((HV4.out.only q6.out (Nat.le_refl _) (by simp)).more q6.out.size) ((HR4.out.only q6.out).vots.sl) (by omega) (by omega)).mono ?_; rintro e w7 ⟨rfl, p7⟩; rw [show decide (x.vs = x.vs) = true from by simp]; have q7 := Lib.hid (q6.out.tr p7); have hL7 := Lib.hid (hL.out.to q7.out))
      | (go_at_call 20; refine (la_slice hL7 (x.ix + 1) 10000 l HALL.out).mono ?_; rintro e w8 ⟨A8, c8, rfl, hr8, hL8, p8⟩; have q8 := Lib.hid (q7.out.tr p8.out))
      | (go_at_call 24; refine (same8 _ _ l l w8 (SlAt.of_own hr8.out) ((HR4.out.only q8.out).ents.sl) (by omega) (by omega)).mono ?_; rintro e w9 ⟨rfl, p9⟩; rw [show decide (l = l) = true from by simp]; have q9 := Lib.hid (q8.out.tr p9); have hL9 := Lib.hid (hL.out.to q9.out))
      | (go_at_call 29; refine (la_voters hL9 i vo HVO.out).mono ?_; rintro e w10 ⟨A10, c10, rfl, hr10, hL10, p10⟩; have q10 := Lib.hid (q9.out.tr p10.out))
      | (go_at_call 69; refine (rl_voters r _ _ ⟨x, l⟩ i w10 (HR4.out.only q10.out) HD.out HIX.out).mono ?_; rintro e w11 ⟨v11, rfl, hr11, hb11, p11⟩; have hr12 := hr11; rw [HVO.out] at hr12; clear hr11 hb11; obtain ⟨A11, c11, rfl, _, _⟩ := hr12.shape; have q11 := Lib.hid (q10.out.tr p11)))
  go_wp2_with fail
  go_ret
  exact ⟨rfl, oC.out.tr q12.out⟩
end Go.Proofs.Ytagklgodcbmcaaa
