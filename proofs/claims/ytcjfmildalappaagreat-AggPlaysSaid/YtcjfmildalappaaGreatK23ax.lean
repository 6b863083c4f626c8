/-
  Contracts; each theorem bears its own conditions.
-/
import Derived.Test.YtcjfmildalappaaGreatK23ab
import Derived.Test.YtcjfmildalappaaGreatK23aj
import Derived.Test.YtcjfmildalappaaGreatK23ak
import Derived.Test.YtcjfmildalappaaGreatK23al
import Derived.Test.YtcjfmildalappaaGreatK23au
import Derived.Test.YtcjfmildalappaaGreatK23aw
set_option linter.all false
set_option maxRecDepth 100000
set_option maxHeartbeats 8000000
namespace Go.Proofs.YtcjfmildalappaaGreat
open Go.RowKit
theorem kept_readG {r : Rp} (h : RpK r) (w : World) : Calls Tryz.prog 48 #[.string ⟨(rpb r).toArray⟩] w fun e w' => ∃ pv, e = .returned (.tuple #[r.val pv, .int .i64 0]) ∧ RpAt w' pv r ∧ Only [] w w' ∧ ∀ g, pv.ownBlock = some g → w.heap.size ≤ g := by
 refine (ref18_toAnswer (rpb r) w (by have := h.le; omega)).mono ?_
 rintro e w' ⟨pv, he, hp, ho, hn⟩
 have hu : unA (rpb r) = some r := (unA_iff _ (by have := h.le; omega) r).2 ⟨h.ok, rfl⟩
 rw [hu] at he hp
 exact ⟨pv, he, hp, ho, hn⟩
theorem rg_do (p : Nat) (K : List Nat) (a : AgS) (n : Nat) (hn : n ≤ 1000000000) (c : Cm) (iv : Value) (w : World) (h : RgAt w p K a) (hI : AgI n a) (hc : CmAt w iv c) (hsm : c.Sm) (hsl : ItK w K iv c) :
 Calls Tryz.prog 36 #[.pointer (some ⟨p, 0, none⟩), c.val iv] w fun e w' => ReG w w' p K (doA a c).1 (doA a c).2 e := by
 have hil : c.its.length ≤ 1000000 := by have := hsm.n; omega
 have hOT := fun w' (hA : RgAt w' p K a) (hs : ItK w' K iv c) => rg_other p K a n hn c iv w' hA hI hc.fd hil hc.len hs
 have hONE := fun w' (hA : RgAt w' p K a) => rg_client p K a n c iv w' hA hI hc.fd hc.id
 have hRT := fun w' (ho : Only [] w w') => ref18_right c iv w' (hc.only ho) hsm
 have hCC := fun w' => ref18_client c iv w'
 obtain ⟨tb, tv, lb, lv, sb, O, B, BL, hX, rfl⟩ := h
 have hE1 : rightB c = false → doA a c = (errR 1, a) := fun h => by unfold doA; rw [if_pos h]
 have hEo : rightB c = true → clB c.kd = false → doA a c = othA a c := fun h h2 => by unfold doA; rw [if_neg (by simp [h]), if_pos h2]
 have hkind := S15.ask_kind a.t.l c.ss c.sq
 have hlen := hI.ok.len
 have hpos : ∀ s ∈ a.t.l, 0 ≤ s.seq := fun s hs => (hI.g s hs).pos
 have CA0 := Hd (fun w' ht => S15.rt_ask B tb tv a.t.l a.t.ever c.ss c.sq w' ht (by omega) hpos)
 have hk1 : (S15.askS a.t.l c.ss c.sq).1 = 1 → ∃ r, RpK r ∧ (S15.askS a.t.l c.ss c.sq).2 = ⟨(rpb r).toArray⟩ := fun h1 => by
  obtain ⟨x, hx, hs, h2, e⟩ := ask_one h1
  obtain ⟨r, hr, er⟩ := hI.kept x hx (by omega)
  exact ⟨r, hr, e.trans er⟩
 have HK1 := Hd hk1
 have hRK := cliA_k hI.si c
 unfold S15.askV at CA0
 have hE3 : rightB c = true → clB c.kd = true → (S15.askS a.t.l c.ss c.sq).1 = 3 → doA a c = (errR 17, a) := fun g1 g2 h => by rw [doA_cl g1 g2]; unfold clA; rw [if_pos h]
 have hE2 : rightB c = true → clB c.kd = true → (S15.askS a.t.l c.ss c.sq).1 = 2 → doA a c = (errR 18, a) := fun g1 g2 h => by rw [doA_cl g1 g2]; unfold clA; rw [h]; rfl
 have hEa : rightB c = true → clB c.kd = true → (S15.askS a.t.l c.ss c.sq).1 = 1 → doA a c = (keptR (S15.askS a.t.l c.ss c.sq).2, a) := fun g1 g2 h => by rw [doA_cl g1 g2]; unfold clA; rw [h]; rfl
 have hE0 : rightB c = true → clB c.kd = true → (S15.askS a.t.l c.ss c.sq).1 = 0 → doA a c = ((cliA a.s c).1, ⟨⟨S15.doneL a.t.l c.ss c.sq ⟨(rpb (cliA a.s c).1).toArray⟩, a.t.ever⟩, a.d, (cliA a.s c).2⟩) := fun g1 g2 h => by rw [doA_cl g1 g2]; unfold clA; rw [h]; rfl
 obtain ⟨qq, hq⟩ : ∃ q, S15.askS a.t.l c.ss c.sq = q := ⟨_, rfl⟩
 rw [hq] at CA0 hkind HK1 hE3 hE2 hEa hE0
 clear hq hk1
 obtain ⟨q, kb⟩ := qq
 dsimp only at CA0 hkind HK1 hE3 hE2 hEa hE0
 have HLEN := Hd hlen
 have HPOS := Hd hpos
 have HONE := Hd hONE
 have HRK := Hd hRK
 have HE1e := Hd hE1
 have HEo := Hd hEo
 have HE3e := Hd hE3
 have HE2e := Hd hE2
 have HEae := Hd hEa
 have HE0e := Hd hE0
 have HKIND := Hd hkind
 have HSL := Hd hsl
 have HOT := Hd hOT
 have HRT := Hd hRT
 have HCC := Hd hCC
 unfold Cm.val at HONE HOT HRT HCC ⊢
 clear hI hONE hRK hlen hpos hE3 hE2 hE1 hE0 hEa hEo hkind hsl hOT hRT hCC hc hsm hn
 go_enter Tryz.func36, Tryz.ntmps36
 go_upto_region 1 with fail
 obtain ⟨w1, hw1⟩ : ∃ u, w.alloc (.cells #[.int .i64 c.kd, .int .i64 c.ss, .int .i64 c.sq, .int .i64 c.sh, .int .i64 c.nd, .int .i64 c.ep, .int .i64 c.n, .string ⟨c.fd.toArray⟩, .string ⟨c.id.toArray⟩, iv, .bool c.fl] 38) = u := ⟨_, rfl⟩
 have hR : w.heap.size + 1 = w1.heap.size := by rw [← hw1, World.size_alloc]
 obtain ⟨z, hz⟩ : ∃ z, w.heap.size = z := ⟨_, rfl⟩
 have hcz : Cells w1 z 38 (c.cells iv) := hw1 ▸ hz ▸ Cells.new w _ _
 rw [hw1, hR, hz]
 obtain ⟨w2, hw2⟩ : ∃ u, w1.alloc (.cells #[.int .i64 0, .int .i64 0, .slice none 0 0] 34) = u := ⟨_, rfl⟩
 obtain ⟨R, hRR⟩ : ∃ R, w1.heap.size = R := ⟨_, rfl⟩
 have o12 : Only [] w1 w2 := hw2 ▸ oz.alloc _
 have o2 : Only [] w w2 := Only.tr0 (hw1 ▸ oz.alloc _) o12
 have hcR : Cells w2 R 34 [.int .i64 0, .int .i64 0, .slice none 0 0] := hw2 ▸ hRR ▸ Cells.new w1 _ _
 rw [hw2, hRR]
 have hwR : w.heap.size ≤ R := by omega
 have hwz : w.heap.size ≤ z := by omega
 have hX2 := hX.keep o2 (by simp)
 have hcz2 := hcz.only o12 (by simp)
 have HCZ := Hd hcz2
 have hpl := hX2.cells.lt
 have HX := Hd hX
 have HX2 := Hd hX2
 have HO2 := Hd o2
 have HR := Hd hcR
 have hRn : Hid (R ∉ allG p tb tv lb lv O) := Hd (fun hm => by have := HX.out.lts R hm; omega)
 have hzn : Hid (z ∉ allG p tb tv lb lv O) := Hd (fun hm => by have := HX.out.lts z hm; omega)
 obtain ⟨c0, c1, c2, c3, c4, c5, c6, c7, c8, c9, c10⟩ := cm_cells hcz2
 have CR := Hd (HRT.out w2 o2)
 clear hw1 hw2 hR hRR hz o2 o12 hcR hX hX2 hcz hcz2
 go_wp2_with fail
 refine CR.out.mono ?_
 rintro e w3 ⟨rfl, ho3⟩
 have HX3 := Hd (HX2.out.keep ho3 (by simp))
 have HO3 := Hd (HO2.out.tr ho3)
 have HR3 := Hd (HR.out.only ho3 (by simp))
 have HCZ3 := Hd (HCZ.out.only ho3 (by simp))
 clear c0 c1 c2 c3 c4 c5 c6 c7 c8 c9 c10 ho3 CR HRT HX2 HO2 HR HCZ
 cases hb : rightB c with
 | false =>
  have HE := Hd (HE1e.out hb)
  clear hb HE1e HEo HE3e HE2e HEae HE0e HCZ3 hzn HONE HOT HCC HSL
  have oR : ∀ row, Only [R] w3 (w3.setRow R row) := fun row => oz.setRow (.inl (by simp)) _
  have HFIN : Hid (∀ row, ReG w (w3.setRow R row) p (allG p tb tv lb lv O) (doA a c).1 (doA a c).2 (.returned (.agg #[.int .i64 1, .int .i64 0, .slice none 0 0]))) := Hd (fun row => HE.out ▸ ReG.nil rfl (wide_lt (by omega) (by omega)) (wide_lt (by omega) (by omega)) ⟨tb, tv, lb, lv, sb, O, B, BL, HX3.out.keep (oR row) (fun k hk hm => by simp at hm; subst hm; exact hRn.out hk), rfl⟩ (HO3.out.of0.trans (oR row) (fun x hx => by simp at hx; subst hx; exact .inr hwR)) (fun x hx => .inl hx))
  have HRF := Hd HR3.out
  have hst := HRF.out
  have hone : (#[.int .i64 1, .int .i64 0, .slice none 0 0] : Array Value).all (·.oneCell') = true := by simp [Value.oneCell']
  clear oR
  go_wp2_with (refine wpList_store_row rfl 34 _ _ rfl R #[.int .i64 1, .int .i64 0, .slice none 0 0] rfl rfl 34 _ hst (by kernel_rfl) rfl hone ?_)
  (try simp only [Exit.inBlock, Exit.then])
  refine bodyPost_ret (v := .agg #[.int .i64 1, .int .i64 0, .slice none 0 0]) ?_ rfl (HFIN.out _)
  exact results_row Tryz.results36 _ _ R 34 [.int .i64 1, .int .i64 0, .slice none 0 0] _ rfl (Cells.setRow HRF.out [.int .i64 1, .int .i64 0, .slice none 0 0]) Tryz.underlying34 rfl (by kernel_rfl)
 | true =>
 obtain ⟨c0, c1, c2, c3, c4, c5, c6, c7, c8, c9, c10⟩ := cm_cells HCZ3.out
 have CC := Hd (HCC.out w3)
 have HB := Hd hb
 clear hb HCC HE1e
 go_wp2_with fail
 refine CC.out.mono ?_
 rintro e w4 ⟨rfl, ho4⟩
 have HX4 := Hd (HX3.out.keep ho4 (by simp))
 have HO4 := Hd (HO3.out.tr ho4)
 have HR4 := Hd (HR3.out.only ho4 (by simp))
 have HCZ4 := Hd (HCZ3.out.only ho4 (by simp))
 clear c0 c1 c2 c3 c4 c5 c6 c7 c8 c9 c10 ho4 CC HX3 HO3 HR3 HCZ3
 cases hcl : clB c.kd with
 | false =>
  have HE := Hd (HEo.out HB.out hcl)
  obtain ⟨c0, c1, c2, c3, c4, c5, c6, c7, c8, c9, c10⟩ := cm_cells HCZ4.out
  have CX := Hd (HOT.out w4 ⟨tb, tv, lb, lv, sb, O, B, BL, HX4.out, rfl⟩ (HSL.out.only HO4.out.of0))
  rw [← HE.out] at CX
  clear hcl HE HEo HE3e HE2e HEae HE0e HONE HOT HSL
  go_wp2_with fail
  refine CX.out.mono ?_
  rintro e w5 ⟨pv, K', rfl, hp5, hn5, hA5, ho5, hN5⟩
  obtain ⟨r, hr⟩ : ∃ r, (doA a c).1 = r := ⟨_, rfl⟩
  rw [hr] at hp5 hn5 ⊢
  obtain ⟨PA, pc, rfl⟩ := hp5.ps.shape
  have hR5 := HR4.out.only ho5 hRn.out
  have hRs := HR4.out.lt
  have hRK : R ∉ K' := fun hm => by
   rcases hN5 R hm with e | e
   · exact hRn.out e
   · omega
  have oR : ∀ row, Only [R] w5 (w5.setRow R row) := fun row => oz.setRow (.inl (by simp)) _
  have hws := HO4.out.size
  have hpF : ∀ row, RpAt (w5.setRow R row) (.slice PA r.ps.length pc) r := fun row => by
   refine ⟨?_, hp5.er, hp5.n, hp5.sm, hp5.len⟩
   by_cases h0 : 0 < r.ps.length
   · exact (hp5.ps.past (oR row) (Nat.le_refl _) (fun g hg hm => by simp at hm; have := (hn5 h0 g hg).1; omega)).more (oR row).size
   · obtain ⟨z1, z2, z3, z4, z5, z6, z7⟩ := hp5.ps
     exact ⟨z1, z2, z3, z4, z5, z6, fun hh => by omega⟩
  have HFIN : Hid (∀ row, ReG w (w5.setRow R row) p (allG p tb tv lb lv O) (doA a c).1 (doA a c).2 (.returned (.agg #[.int .i64 r.er, .int .i64 r.n, .slice PA r.ps.length pc]))) := Hd (fun row => by
   rw [hr]
   exact ⟨.slice PA r.ps.length pc, K', rfl, hpF row, fun h0 g hg => ⟨by have := (hn5 h0 g hg).1; omega, (hn5 h0 g hg).2⟩, hA5.keep (oR row) (fun k hk hm => by simp at hm; subst hm; exact hRK hk), (HO4.out.of0.trans ho5 (fun x hx => .inl hx)).trans (oR row) (fun x hx => by simp at hx; subst hx; exact .inr hwR), fun x hx => (hN5 x hx).imp id (fun h => by omega)⟩)
  have HRF := Hd hR5
  have hst := HRF.out
  have hone : (#[.int .i64 r.er, .int .i64 r.n, .slice PA r.ps.length pc] : Array Value).all (·.oneCell') = true := by simp [Value.oneCell']
  clear hp5 hn5 hA5 ho5 hN5 hR5 hRs hRK oR hws hpF CX hr c0 c1 c2 c3 c4 c5 c6 c7 c8 c9 c10
  go_wp2_with (refine wpList_store_row rfl 34 _ _ rfl R #[.int .i64 r.er, .int .i64 r.n, .slice PA r.ps.length pc] rfl rfl 34 _ hst (by kernel_rfl) rfl hone ?_)
  (try simp only [Exit.inBlock, Exit.then])
  refine bodyPost_ret (v := .agg #[.int .i64 r.er, .int .i64 r.n, .slice PA r.ps.length pc]) ?_ rfl (HFIN.out _)
  exact results_row Tryz.results36 _ _ R 34 [.int .i64 r.er, .int .i64 r.n, .slice PA r.ps.length pc] _ rfl (Cells.setRow HRF.out [.int .i64 r.er, .int .i64 r.n, .slice PA r.ps.length pc]) Tryz.underlying34 rfl (by kernel_rfl)
 | true =>
 have HE3 := Hd (HE3e.out HB.out hcl)
 have HE2 := Hd (HE2e.out HB.out hcl)
 have HE1 := Hd (HEae.out HB.out hcl)
 have HE0 := Hd (HE0e.out HB.out hcl)
 have hkind := HKIND.out
 have CA := Hd (fun v : Since w4 => CA0.out v.w (HX4.out.keep v.2 (by simp)).t)
 obtain ⟨c0, c1, c2, c3, c4, c5, c6, c7, c8, c9, c10⟩ := cm_cells HCZ4.out
 have p1 := HX4.out.cells.cell (k := 0) rfl
 have v1 := fun u : Since w4 => u.cell p1
 have u1 := fun u : Since w4 => u.cell c1
 have u2 := fun u : Since w4 => u.cell c2
 clear hcl HE3e HE2e HEae HE0e HEo HOT HSL CA0 c0 c1 c2 c3 c4 c5 c6 c7 c8 c9 c10 p1 HKIND
 go_upto_region 7 with fail
 refine wp_region_only w4 oz (by kernel_rfl) (by kernel_rfl) ?_
 repeat (go_big_quiet_step ((go_at_call 89; refine Calls.only (CA.out _))))
 refine wpQuiet_nil ?_
 rintro ⟨w3, ho3⟩
 dsimp only
 have HX3 := Hd (HX4.out.keep ho3 (by simp))
 have HO3 := Hd (HO4.out.tr ho3)
 have HR3 := Hd (HR4.out.only ho3 (by simp))
 have HCZ3 := Hd (HCZ4.out.only ho3 (by simp))
 clear ho3 v1 u1 u2 CA HX4 HO4 HR4 HCZ4
 have hq4 : q = 3 ∨ q = 2 ∨ q = 1 ∨ q = 0 := by omega
 clear hkind
 rcases hq4 with rfl | rfl | rfl | rfl
 · have HE := Hd (HE3.out rfl)
   clear HCZ3 hzn
   have oR : ∀ row, Only [R] w3 (w3.setRow R row) := fun row => oz.setRow (.inl (by simp)) _
   have HFIN : Hid (∀ row, ReG w (w3.setRow R row) p (allG p tb tv lb lv O) (doA a c).1 (doA a c).2 (.returned (.agg #[.int .i64 17, .int .i64 0, .slice none 0 0]))) := Hd (fun row => HE.out ▸ ReG.nil rfl (wide_lt (by omega) (by omega)) (wide_lt (by omega) (by omega)) ⟨tb, tv, lb, lv, sb, O, B, BL, HX3.out.keep (oR row) (fun k hk hm => by simp at hm; subst hm; exact hRn.out hk), rfl⟩ (HO3.out.of0.trans (oR row) (fun x hx => by simp at hx; subst hx; exact .inr hwR)) (fun x hx => .inl hx))
   have HRF := Hd HR3.out
   have hst := HRF.out
   have hone : (#[.int .i64 17, .int .i64 0, .slice none 0 0] : Array Value).all (·.oneCell') = true := by simp [Value.oneCell']
   clear oR HK1
   go_wp2_with (refine wpList_store_row rfl 34 _ _ rfl R #[.int .i64 17, .int .i64 0, .slice none 0 0] rfl rfl 34 _ hst (by kernel_rfl) rfl hone ?_)
   (try simp only [Exit.inBlock, Exit.then])
   refine bodyPost_ret (v := .agg #[.int .i64 17, .int .i64 0, .slice none 0 0]) ?_ rfl (HFIN.out _)
   exact results_row Tryz.results36 _ _ R 34 [.int .i64 17, .int .i64 0, .slice none 0 0] _ rfl (Cells.setRow HRF.out [.int .i64 17, .int .i64 0, .slice none 0 0]) Tryz.underlying34 rfl (by kernel_rfl)
 · have HE := Hd (HE2.out rfl)
   clear HCZ3 hzn
   have oR : ∀ row, Only [R] w3 (w3.setRow R row) := fun row => oz.setRow (.inl (by simp)) _
   have HFIN : Hid (∀ row, ReG w (w3.setRow R row) p (allG p tb tv lb lv O) (doA a c).1 (doA a c).2 (.returned (.agg #[.int .i64 18, .int .i64 0, .slice none 0 0]))) := Hd (fun row => HE.out ▸ ReG.nil rfl (wide_lt (by omega) (by omega)) (wide_lt (by omega) (by omega)) ⟨tb, tv, lb, lv, sb, O, B, BL, HX3.out.keep (oR row) (fun k hk hm => by simp at hm; subst hm; exact hRn.out hk), rfl⟩ (HO3.out.of0.trans (oR row) (fun x hx => by simp at hx; subst hx; exact .inr hwR)) (fun x hx => .inl hx))
   have HRF := Hd HR3.out
   have hst := HRF.out
   have hone : (#[.int .i64 18, .int .i64 0, .slice none 0 0] : Array Value).all (·.oneCell') = true := by simp [Value.oneCell']
   clear oR HK1
   go_wp2_with (refine wpList_store_row rfl 34 _ _ rfl R #[.int .i64 18, .int .i64 0, .slice none 0 0] rfl rfl 34 _ hst (by kernel_rfl) rfl hone ?_)
   (try simp only [Exit.inBlock, Exit.then])
   refine bodyPost_ret (v := .agg #[.int .i64 18, .int .i64 0, .slice none 0 0]) ?_ rfl (HFIN.out _)
   exact results_row Tryz.results36 _ _ R 34 [.int .i64 18, .int .i64 0, .slice none 0 0] _ rfl (Cells.setRow HRF.out [.int .i64 18, .int .i64 0, .slice none 0 0]) Tryz.underlying34 rfl (by kernel_rfl)
 · have hE := HE1.out rfl
   obtain ⟨r, hr, rfl⟩ := HK1.out rfl
   rw [keptR_of hr] at hE
   have HE := Hd hE
   clear hE
   have CT := Hd (kept_readG hr w3)
   unfold Rp.val at CT
   clear HK1 hr HCZ3 hzn
   go_wp2_with fail
   refine CT.out.mono ?_
   rintro e w4 ⟨pv, rfl, hp4, ho4, hn4⟩
   obtain ⟨PA, pc, rfl⟩ := hp4.ps.shape
   obtain ⟨w5, hw5⟩ : ∃ u, w4.alloc (.cells #[.int .i64 0, .int .i64 0, .slice none 0 0] 34) = u := ⟨_, rfl⟩
   have hst5 : Cells (w4.alloc (.cells #[.int .i64 0, .int .i64 0, .slice none 0 0] 34)) w4.heap.size 34 [.int .i64 0, .int .i64 0, .slice none 0 0] := Cells.new w4 _ _
   have o45 : Only [] w4 (w4.alloc (.cells #[.int .i64 0, .int .i64 0, .slice none 0 0] 34)) := oz.alloc _
   have hR4 := HR3.out.only ho4 (by simp)
   have hRQ : R ≠ w4.heap.size := fun e => by have := hR4.lt; omega
   have hR3s := HR3.out.lt
   rw [hw5] at hst5 o45
   have o46 : Only [] w4 (w5.setRow w4.heap.size #[.int .i64 r.er, .int .i64 r.n, .slice PA r.ps.length pc]) := o45.trans ((Only.refl [w4.heap.size] _).setRow (.inl (by simp)) _) (fun x hx => by simp at hx; subst hx; exact .inr (Nat.le_refl _))
   have hld6 : Cells (w5.setRow w4.heap.size #[.int .i64 r.er, .int .i64 r.n, .slice PA r.ps.length pc]) w4.heap.size 34 [.int .i64 r.er, .int .i64 r.n, .slice PA r.ps.length pc] := hst5.setRow [.int .i64 r.er, .int .i64 r.n, .slice PA r.ps.length pc]
   have hst6 : Cells (w5.setRow w4.heap.size #[.int .i64 r.er, .int .i64 r.n, .slice PA r.ps.length pc]) R 34 [.int .i64 0, .int .i64 0, .slice none 0 0] := hR4.only o46 (by simp)
   have hp6 : RpAt (w5.setRow w4.heap.size #[.int .i64 r.er, .int .i64 r.n, .slice PA r.ps.length pc]) (.slice PA r.ps.length pc) r := hp4.only o46
   have hX6 := HX3.out.keep (ho4.tr o46) (by simp)
   have hO6 := HO3.out.tr (ho4.tr o46)
   obtain ⟨w6, hw6⟩ : ∃ u, w5.setRow w4.heap.size #[.int .i64 r.er, .int .i64 r.n, .slice PA r.ps.length pc] = u := ⟨_, rfl⟩
   rw [hw6] at hld6 hst6 hp6 hX6 hO6
   have oR : ∀ row, Only [R] w6 (w6.setRow R row) := fun row => oz.setRow (.inl (by simp)) _
   have hgR : ∀ g, (Value.slice PA r.ps.length pc).ownBlock = some g → w.heap.size ≤ g ∧ w3.heap.size ≤ g := fun g hg => ⟨by have := hn4 g hg; have := HO3.out.size; omega, hn4 g hg⟩
   have HFIN : Hid (∀ row, ReG w (w6.setRow R row) p (allG p tb tv lb lv O) (doA a c).1 (doA a c).2 (.returned (.agg #[.int .i64 r.er, .int .i64 r.n, .slice PA r.ps.length pc]))) := Hd (fun row => HE.out ▸ ⟨.slice PA r.ps.length pc, _, rfl, hp6.past (oR row) (fun g hg hm => by simp at hm; subst hm; have := (hgR _ hg).2; omega), fun _ g hg => ⟨(hgR g hg).1, fun hm => by have := (hgR g hg).2; have := HX3.out.lts g hm; omega⟩, ⟨tb, tv, lb, lv, sb, O, B, BL, hX6.keep (oR row) (fun k hk hm => by simp at hm; subst hm; exact hRn.out hk), rfl⟩, hO6.of0.trans (oR row) (fun x hx => by simp at hx; subst hx; exact .inr hwR), fun x hx => .inl hx⟩)
   have HRF := Hd hst6
   have hone : (#[.int .i64 r.er, .int .i64 r.n, .slice PA r.ps.length pc] : Array Value).all (·.oneCell') = true := by simp [Value.oneCell']
   clear hp4 ho4 hn4 o45 hR4 hRQ hR3s o46 hp6 hX6 hO6 oR hgR CT
   go_wp2_with (first
    | ((try rw [hw5]); refine wpList_store_row rfl 34 _ _ rfl w4.heap.size #[.int .i64 r.er, .int .i64 r.n, .slice PA r.ps.length pc] rfl rfl 34 _ hst5 (by kernel_rfl) rfl hone ?_; (try rw [hw6]))
    | refine wpList_load_row rfl 34 _ rfl w4.heap.size rfl 34 #[.int .i64 r.er, .int .i64 r.n, .slice PA r.ps.length pc] (0, 0) _ hld6 Tryz.underlying34 rfl (by kernel_rfl) ?_
    | refine wpList_store_row rfl 34 _ _ rfl R #[.int .i64 r.er, .int .i64 r.n, .slice PA r.ps.length pc] rfl rfl 34 _ hst6 (by kernel_rfl) rfl hone ?_)
   (try simp only [Exit.inBlock, Exit.then])
   refine bodyPost_ret (v := .agg #[.int .i64 r.er, .int .i64 r.n, .slice PA r.ps.length pc]) ?_ rfl (HFIN.out _)
   exact results_row Tryz.results36 _ _ R 34 [.int .i64 r.er, .int .i64 r.n, .slice PA r.ps.length pc] _ rfl (Cells.setRow HRF.out [.int .i64 r.er, .int .i64 r.n, .slice PA r.ps.length pc]) Tryz.underlying34 rfl (by kernel_rfl)
 · have hE := HE0.out rfl
   obtain ⟨r, hr⟩ : ∃ r, (cliA a.s c).1 = r := ⟨_, rfl⟩
   obtain ⟨s', hs'⟩ : ∃ s', (cliA a.s c).2 = s' := ⟨_, rfl⟩
   rw [hr] at hE HRK HONE
   rw [hs'] at hE HONE
   have HE := Hd hE
   clear hE hr hs' HE0 HE1 HE2 HE3 HK1
   obtain ⟨wc, hwc⟩ : ∃ u, u = w3 := ⟨w3, rfl⟩
   subst hwc
   have HXC := Hd HX3.out
   have HOC := Hd HO3.out
   have HRC := Hd HR3.out
   have HCZC := Hd HCZ3.out
   have CF := Hd (HONE.out wc ⟨tb, tv, lb, lv, sb, O, B, BL, HXC.out, rfl⟩)
   obtain ⟨c0, c1, c2, c3, c4, c5, c6, c7, c8, c9, c10⟩ := cm_cells HCZC.out
   clear HONE HX3 HO3 HR3 HCZ3
   go_wp2_with fail
   refine CF.out.mono ?_
   rintro e w4 ⟨pv, K', rfl, hp4, hn4, ⟨tb2, tv2, lb2, lv2, sb2, O2, B2, BL2, hX4, rfl⟩, ho4, hN4⟩
   obtain ⟨PA, pc, rfl⟩ := hp4.ps.shape
   clear c0 c1 c2 c3 c4 c5 c6 c7 c8 c9 c10 CF
   have hR4 := HRC.out.only ho4 hRn.out
   have hcz4 := HCZC.out.only ho4 hzn.out
   have hRsz := HRC.out.lt
   have hRn2 : R ∉ allG p tb2 tv2 lb2 lv2 O2 := fun hm => by
    rcases hN4 R hm with e | e
    · exact hRn.out e
    · omega
   obtain ⟨w5, hw5⟩ : ∃ u, w4.alloc (.cells #[.int .i64 0, .int .i64 0, .slice none 0 0] 34) = u := ⟨_, rfl⟩
   obtain ⟨Q, hQ⟩ : ∃ Q, w4.heap.size = Q := ⟨_, rfl⟩
   have hst5 : Cells w5 Q 34 [.int .i64 0, .int .i64 0, .slice none 0 0] := hw5 ▸ hQ ▸ Cells.new w4 _ _
   have o45 : Only [] w4 w5 := hw5 ▸ oz.alloc _
   have o46 : Only [] w4 (w5.setRow Q #[.int .i64 r.er, .int .i64 r.n, .slice PA r.ps.length pc]) := o45.trans ((Only.refl [Q] _).setRow (.inl (by simp)) _) (fun x hx => by simp at hx; subst hx; exact .inr (Nat.le_of_eq hQ))
   have hld6 : Cells (w5.setRow Q #[.int .i64 r.er, .int .i64 r.n, .slice PA r.ps.length pc]) Q 34 [.int .i64 r.er, .int .i64 r.n, .slice PA r.ps.length pc] := hst5.setRow [.int .i64 r.er, .int .i64 r.n, .slice PA r.ps.length pc]
   obtain ⟨w6, hw6⟩ : ∃ u, w5.setRow Q #[.int .i64 r.er, .int .i64 r.n, .slice PA r.ps.length pc] = u := ⟨_, rfl⟩
   rw [hw6] at hld6 o46
   have hX6 := hX4.keep o46 (by simp)
   have hQn : Q ∉ allG p tb2 tv2 lb2 lv2 O2 := fun hm => by have := hX4.lts Q hm; omega
   have hone : (#[.int .i64 r.er, .int .i64 r.n, .slice PA r.ps.length pc] : Array Value).all (·.oneCell') = true := by simp [Value.oneCell']
   have HR6 := Hd (hR4.only o46 (by simp))
   have HCZ6 := Hd (hcz4.only o46 (by simp))
   have HQ6 := Hd hld6
   have HP6 := Hd (hp4.only o46)
   have HX6 := Hd hX6
   have HO6 := Hd ((HOC.out.of0.trans ho4 (fun x hx => .inl hx)).trans o46 (fun x hx => by cases hx))
   have HN4 := Hd hN4
   have HRN2 := Hd hRn2
   have HQN := Hd hQn
   have HGE : Hid (0 < r.ps.length → ∀ g, (Value.slice PA r.ps.length pc).ownBlock = some g → wc.heap.size ≤ g ∧ g ∉ allG p tb2 tv2 lb2 lv2 O2) := Hd hn4
   have HS4 : Hid (wc.heap.size ≤ w4.heap.size ∧ w4.heap.size ≤ w6.heap.size ∧ w.heap.size ≤ wc.heap.size ∧ R < wc.heap.size) := Hd ⟨ho4.size, o46.size, HOC.out.size, hRsz⟩
   clear hp4 hn4 hX4 ho4 hN4 hR4 hcz4 hRsz hRn2 o45 o46 hX6 hQn HXC HOC HRC HCZC
   go_wp2_with (first
    | ((try rw [hw5]); (try rw [hQ]); refine wpList_store_row rfl 34 _ _ rfl Q #[.int .i64 r.er, .int .i64 r.n, .slice PA r.ps.length pc] rfl rfl 34 _ hst5 (by kernel_rfl) rfl hone ?_; (try rw [hw6])))
   clear hw5 hQ hst5 hw6
   (try simp only [Act.put])
   obtain ⟨c0, c1, c2, c3, c4, c5, c6, c7, c8, c9, c10⟩ := cm_cells HCZ6.out
   have p0 := HX6.out.cells.cell (k := 0) rfl
   have q0 := HQ6.out.cell (k := 0) rfl
   have q1 := HQ6.out.cell (k := 1) rfl
   have q2 := HQ6.out.cell (k := 2) rfl
   have hpl6 := HX6.out.cells.lt
   have hQl6 := HQ6.out.lt
   have v0 := fun u : Since w6 => u.cell p0
   have u1 := fun u : Since w6 => u.cell c1
   have u2 := fun u : Since w6 => u.cell c2
   have y0 := fun u : Since w6 => u.cell q0
   have y1 := fun u : Since w6 => u.cell q1
   have y2 := fun u : Since w6 => u.cell q2
   have CW : Hid (∀ u : Since w6, Calls Tryz.prog 56 #[.agg #[.int .i64 r.er, .int .i64 r.n, .slice PA r.ps.length pc]] u.w fun e w' => e = .returned (.string ⟨(rpb r).toArray⟩) ∧ Only [] u.w w') := Hd (fun u => ref18_answer r (.slice PA r.ps.length pc) u.w (HP6.out.only u.2))
   clear c0 c1 c2 c3 c4 c5 c6 c7 c8 c9 c10 p0 q0 q1 q2
   refine wp_region_only_tail w6 oz 10 (by kernel_rfl) (by kernel_rfl) ?_
   simp only [tk1, tk0, dr1, dr0]
   repeat (go_big_quiet_step ((go_at_call 56; refine Calls.only (CW.out _))))
   refine wpQuiet_nil ?_
   rintro ⟨w7, ho7⟩
   dsimp only
   have HX7 := Hd (HX6.out.keep ho7 (by simp))
   have HO7 := Hd (HO6.out.trans ho7 (fun x hx => by cases hx))
   have HR7 := Hd (HR6.out.only ho7 (by simp))
   have HQ7 := Hd (HQ6.out.only ho7 (by simp))
   have HP7 := Hd (HP6.out.only ho7)
   have HS7 : Hid (w6.heap.size ≤ w7.heap.size) := Hd ho7.size
   have CD := Hd (S15.rt_done B2 tb2 tv2 a.t.l a.t.ever c.ss c.sq ⟨(rpb r).toArray⟩ w7 HX7.out.t HLEN.out HPOS.out)
   clear ho7 v0 u1 u2 y0 y1 y2 CW HX6 HO6 HR6 HCZ6 HQ6 HP6 hpl6 hQl6
   go_wp2_with fail
   refine CD.out.mono ?_
   rintro e w8 ⟨rfl, tv3, ht8, ho8, hn8⟩
   obtain ⟨hX8, hO8, hN8⟩ := HX7.out.tdo (t' := ⟨S15.doneL a.t.l c.ss c.sq ⟨(rpb r).toArray⟩, a.t.ever⟩) ht8 ho8 hn8
   have hst8 := HR7.out.only hO8 HRN2.out
   have hld8 := HQ7.out.only hO8 HQN.out
   have hp8 : RpAt w8 (.slice PA r.ps.length pc) r := by
    refine ⟨?_, HP7.out.er, HP7.out.n, HP7.out.sm, HP7.out.len⟩
    by_cases h0 : 0 < r.ps.length
    · exact (HP7.out.ps.past hO8 (Nat.le_refl _) (fun g hg => (HGE.out h0 g hg).2)).more hO8.size
    · obtain ⟨z1, z2, z3, z4, z5, z6, z7⟩ := HP7.out.ps
      exact ⟨z1, z2, z3, z4, z5, z6, fun hh => by omega⟩
   have oR : ∀ row, Only [R] w8 (w8.setRow R row) := fun row => oz.setRow (.inl (by simp)) _
   have hRn8 : R ∉ allG p tb2 tv3 lb2 lv2 O2 := fun hm => by
    rcases hN8 R hm with e | e
    · exact HRN2.out e
    · have := HR7.out.lt; omega
   have hgR : 0 < r.ps.length → ∀ g, (Value.slice PA r.ps.length pc).ownBlock = some g → w.heap.size ≤ g ∧ g ≠ R ∧ g < w7.heap.size := fun h0 g hg => by
    obtain ⟨h1, h2, h3, h4⟩ := HS4.out
    have hg1 := (HGE.out h0 g hg).1
    refine ⟨by omega, by omega, ?_⟩
    obtain ⟨bb, oo, cc, e, hb, _⟩ := HP7.out.ps.at_ (by omega)
    injection e with e1
    subst e1
    simp [Value.ownBlock] at hg
    omega
   have hpF : ∀ row, RpAt (w8.setRow R row) (.slice PA r.ps.length pc) r := fun row => by
    refine ⟨?_, hp8.er, hp8.n, hp8.sm, hp8.len⟩
    by_cases h0 : 0 < r.ps.length
    · exact (hp8.ps.past (oR row) (Nat.le_refl _) (fun g hg hm => by simp at hm; exact (hgR h0 g hg).2.1 hm)).more (oR row).size
    · obtain ⟨z1, z2, z3, z4, z5, z6, z7⟩ := hp8.ps
      exact ⟨z1, z2, z3, z4, z5, z6, fun hh => by omega⟩
   have HFIN : Hid (∀ row, ReG w (w8.setRow R row) p (allG p tb tv lb lv O) (doA a c).1 (doA a c).2 (.returned (.agg #[.int .i64 r.er, .int .i64 r.n, .slice PA r.ps.length pc]))) := Hd (fun row => by
    rw [HE.out]
    refine ⟨.slice PA r.ps.length pc, _, rfl, hpF row, fun h0 g hg => ⟨(hgR h0 g hg).1, fun hm => ?_⟩, ⟨tb2, tv3, lb2, lv2, sb2, O2, B2, BL2, hX8.keep (oR row) (fun k hk hm => by simp at hm; subst hm; exact hRn8 hk), rfl⟩, ?_, fun x hx => ?_⟩
    · rcases hN8 g hm with e | e
      · exact (HGE.out h0 g hg).2 e
      · have := (hgR h0 g hg).2.2; omega
    · refine (HO7.out.trans hO8 (fun x hx => ?_)).trans (oR row) (fun x hx => by simp at hx; subst hx; exact .inr hwR)
      rcases HN4.out x hx with e | e
      · exact .inl e
      · exact .inr (by have := HS4.out; omega)
    · rcases hN8 x hx with e | e
      · rcases HN4.out x e with e | e
        · exact .inl e
        · exact .inr (by have := HS4.out; omega)
      · exact .inr (by have := HS4.out; have := HS7.out; omega))
   have HRF := Hd hst8
   clear ht8 ho8 hn8 hX8 hO8 hN8 hp8 oR hRn8 hgR hpF CD
   go_wp2_with (first
    | refine wpList_load_row rfl 34 _ rfl Q rfl 34 #[.int .i64 r.er, .int .i64 r.n, .slice PA r.ps.length pc] (0, 0) _ hld8 Tryz.underlying34 rfl (by kernel_rfl) ?_
    | refine wpList_store_row rfl 34 _ _ rfl R #[.int .i64 r.er, .int .i64 r.n, .slice PA r.ps.length pc] rfl rfl 34 _ hst8 (by kernel_rfl) rfl hone ?_)
   (try simp only [Exit.inBlock, Exit.then])
   refine bodyPost_ret (v := .agg #[.int .i64 r.er, .int .i64 r.n, .slice PA r.ps.length pc]) ?_ rfl (HFIN.out _)
   exact results_row Tryz.results36 _ _ R 34 [.int .i64 r.er, .int .i64 r.n, .slice PA r.ps.length pc] _ rfl (Cells.setRow HRF.out [.int .i64 r.er, .int .i64 r.n, .slice PA r.ps.length pc]) Tryz.underlying34 rfl (by kernel_rfl)
structure RgW (W w : World) (p : Nat) (K : List Nat) (n : Nat) (a : AgS) : Prop where
 at_ : RgAt w p K a
 ho : Only [] W w
 lo : ∀ x ∈ K, W.heap.size ≤ x
 i : AgI n a
theorem RgW.read {W w w' : World} {p : Nat} {K : List Nat} {n : Nat} {a : AgS} (h : RgW W w p K n a) (ho : Only [] w w') : RgW W w' p K n a := ⟨h.at_.keep ho (by simp), h.ho.tr ho, h.lo, h.i⟩
theorem RgW.far {W w w' : World} {p : Nat} {K X : List Nat} {n : Nat} {a : AgS} (h : RgW W w p K n a) (ho : Only X w w') (hX : ∀ x ∈ X, x ∉ K ∧ W.heap.size ≤ x) : RgW W w' p K n a :=
 ⟨h.at_.keep ho (fun k hk hm => (hX k hm).1 hk), h.ho.trans ho (fun x hx => .inr (hX x hx).2), h.lo, h.i⟩
theorem RgAt.sj {w : World} {p : Nat} {K : List Nat} {a : AgS} {n : Nat} (h : RgAt w p K a) (hI : AgI n a) : SvJ a.s := by
 obtain ⟨tb, tv, lb, lv, sb, O, B, BL, h, rfl⟩ := h
 obtain ⟨h1, h2, h3⟩ := h.s.sorted
 exact SvJ.of hI.si hI.sz h1 h2 h3
theorem SmC.sm {c : Cm} (h : SmC c) : c.Sm := ⟨Nat.le_trans h.fd (by omega), Nat.le_trans h.id (by omega), Nat.le_trans h.n (by omega), fun x hx => by
 have := h.its x hx
 exact ⟨Nat.le_trans this.id (by omega), Nat.le_trans this.ti (by omega), Nat.le_trans this.li (by omega)⟩⟩
def DgW (W w w' : World) (p : Nat) (K : List Nat) (n : Nat) (a : AgS) (r : Rp) (e : Ending) : Prop := ∃ pv K', e = .returned (r.val pv) ∧ RpAt w' pv r ∧ (0 < r.ps.length → ∀ g, pv.ownBlock = some g → w.heap.size ≤ g ∧ g ∉ K') ∧ RgW W w' p K' n a ∧ Only K w w' ∧ (∀ x ∈ K', x ∈ K ∨ w.heap.size ≤ x) ∧ RpK r
theorem itk_baseG {W w : World} {p : Nat} {K : List Nat} {n : Nat} {a : AgS} {c : Cm} {iv : Value} (hc : CmAt W iv c) (h : RgW W w p K n a) : ItK w K iv c :=
 fun _ ho => (((hc.its.only h.ho (Nat.le_refl _) (by simp)).only ho h.ho.size h.lo)).more (Nat.le_trans h.ho.size ho.size)
theorem rgw_do (p : Nat) (K : List Nat) (a : AgS) (n : Nat) (hn : n ≤ 1000000) (c : Cm) (iv : Value) (W w : World) (h : RgW W w p K n a) (hc : CmAt w iv c) (hsm : c.Sm) (hs : ItK w K iv c) :
 Calls Tryz.prog 36 #[.pointer (some ⟨p, 0, none⟩), c.val iv] w fun e w' => DgW W w w' p K (n + 1) (doA a c).2 (doA a c).1 e := by
 refine (rg_do p K a n (by omega) c iv w h.at_ h.i hc hsm hs).mono ?_
 rintro e w' ⟨pv, K', he, hp, hg, hA, ho, hN⟩
 have hst := doA_step h.i (by omega) c (hc.nums _ (by simp)) (by have := hsm.n; omega)
 exact ⟨pv, K', he, hp, hg, ⟨hA, h.ho.trans ho (fun x hx => .inr (h.lo x hx)), fun x hx => by
  rcases hN x hx with e | e
  · exact h.lo x e
  · exact Nat.le_trans h.ho.size e, hst.1⟩, ho, hN, hst.2⟩
theorem rgw_new (W w : World) (h : Only [] W w) : Calls Tryz.prog 32 #[] w fun e w' => ∃ p K, e = .returned (.pointer (some ⟨p, 0, none⟩)) ∧ RgW W w' p K 0 AgS.new ∧ (∀ x ∈ K, w.heap.size ≤ x) ∧ Only [] w w' := by
 refine (rg_new w).mono ?_
 rintro e w' ⟨p, K, he, hA, hl, ho⟩
 exact ⟨p, K, he, ⟨hA, h.tr ho, fun x hx => Nat.le_trans h.size (hl x hx), AgI.new⟩, hl, ho⟩
theorem rgw_save {W w : World} {p : Nat} {K : List Nat} {n : Nat} {a : AgS} (hn : n ≤ 1000000000) (h : RgW W w p K n a) :
 Calls Tryz.prog 38 #[.pointer (some ⟨p, 0, none⟩)] w fun e w' => e = .returned (.string ⟨(agB a).toArray⟩) ∧ Only [] w w' := rg_save p K a n hn w h.at_ h.i (h.at_.sj h.i)
def apA (s : List UInt8) (a : AgS) : List UInt8 × AgS := match unC s with
 | none => (rpb (errR 8), a)
 | some c => (rpb (doA a c).1, (doA a c).2)
def ApW (W w w' : World) (p : Nat) (K : List Nat) (n : Nat) (o : List UInt8 × AgS) (e : Ending) : Prop := ∃ K', e = .returned (.string ⟨o.1.toArray⟩) ∧ AgW W w' p K' n o.2 ∧ Only K w w' ∧ ∀ x ∈ K', x ∈ K ∨ w.heap.size ≤ x
def ApG (W w w' : World) (p : Nat) (K : List Nat) (n : Nat) (o : List UInt8 × AgS) (e : Ending) : Prop := ∃ K', e = .returned (.string ⟨o.1.toArray⟩) ∧ RgW W w' p K' n o.2 ∧ Only K w w' ∧ ∀ x ∈ K', x ∈ K ∨ w.heap.size ≤ x
theorem unC_right {s : List UInt8} {c : Cm} (h : unC s = some c) : rightB c = true := by
 unfold unC at h
 split at h
 · rename_i hc
   injection h with h
   exact h ▸ hc.2.1
 · cases h
theorem right_its {c : Cm} (h : rightB c = true) : c.its.length ≤ 100 ∧ c.fd.length ≤ 200 ∧ c.id.length ≤ 200 ∧ ∀ x ∈ c.its, itR x = true := by
 unfold rightB lenB at h
 simp only [Bool.and_eq_true, decide_eq_true_eq, List.all_eq_true] at h
 exact ⟨h.1.1.2.2, h.1.1.2.1.1, h.1.1.2.1.2, h.2⟩
theorem itk_new {w w1 w2 : World} {K : List Nat} {c : Cm} {iv : Value} (hc : CmAt w1 iv c) (hg : ∀ g, iv.ownBlock = some g → w.heap.size ≤ g) (hK : ∀ x ∈ K, x < w.heap.size) (ho : Only [] w1 w2) : ItK w2 K iv c := fun w3 h3 => by
 have h1 := (hc.its.only ho (Nat.le_refl _) (by simp)).more ho.size
 exact (h1.past h3 (Nat.le_refl _) (fun g hg' hm => by have := hg g hg'; have := hK g hm; omega)).more h3.size
theorem agw_apply (p : Nat) (K : List Nat) (a : AgS) (n : Nat) (hn : n ≤ 1000000) (s : List UInt8) (hl : s.length ≤ 1000000) (W w : World) (h : AgW W w p K n a) :
 Calls Tryz.prog 34 #[.pointer (some ⟨p, 0, none⟩), .string ⟨s.toArray⟩] w fun e w' => ApW W w w' p K (n + 1) (apA s a) e := by
 have CU := Hd (cmd_unpack s w (by omega))
 have CA := Hd (fun r pv w' => cmd_answer r pv w')
 have H := Hd h
 have hbw := h.at_.bw
 have HBW := Hd hbw
 have CD := Hd (fun c iv w' (hu : unC s = some c) (h : AgW W w' p K n a) hc hs => agw_do p K a n hn c iv W w' h hc (by have := (right_its (unC_right hu)).1; omega) hs)
 have HN1 : Hid (unC s = none → apA s a = (rpb (errR 8), a)) := Hd (fun h => by unfold apA; rw [h])
 have HS1 : Hid (∀ c, unC s = some c → apA s a = (rpb (doA a c).1, (doA a c).2)) := Hd (fun c h => by unfold apA; rw [h])
 obtain ⟨o, ho⟩ : ∃ o, apA s a = o := ⟨_, rfl⟩
 rw [ho] at HN1 HS1 ⊢
 clear h hbw ho
 go_enter Tryz.func34, Tryz.ntmps34
 go_wp2_with fail
 refine CU.out.mono ?_
 rintro e w1 ⟨iv, rfl, hc, ho1, hg1⟩
 obtain ⟨IA, ic, hv⟩ := hc.its.shape
 have HC := Hd hc
 have HG := Hd hg1
 have HO1 := Hd ho1
 clear hc hg1 ho1 CU
 cases hu : unC s with
 | none =>
  have HX := Hd (HN1.out hu)
  clear HN1 HS1
  rw [hu] at HC hv
  simp only [Option.getD_none, Option.isSome_none] at HC hv ⊢
  rw [show (if (false : Bool) = true then (0 : Int) else 8) = 8 from rfl]
  unfold Cm.val Cm.zero
  (try dsimp only)
  have hv : iv = .slice IA 0 ic := hv
  subst hv
  obtain ⟨b1, b2, b3⟩ := box_row w1 38 [.int .i64 0, .int .i64 0, .int .i64 0, .int .i64 0, .int .i64 0, .int .i64 0, .int .i64 0, .string ⟨#[]⟩, .string ⟨#[]⟩, .slice none 0 0, .bool false] [.int .i64 0, .int .i64 0, .int .i64 0, .int .i64 0, .int .i64 0, .int .i64 0, .int .i64 0, .string ⟨([] : List UInt8).toArray⟩, .string ⟨([] : List UInt8).toArray⟩, .slice IA 0 ic, .bool false]
  have hone : (#[.int .i64 0, .int .i64 0, .int .i64 0, .int .i64 0, .int .i64 0, .int .i64 0, .int .i64 0, .string ⟨([] : List UInt8).toArray⟩, .string ⟨([] : List UInt8).toArray⟩, .slice IA 0 ic, .bool false] : Array Value).all (·.oneCell') = true := by simp [Value.oneCell']
  have HR := Hd (rpAt_nil · 8 0 ⟨by omega, by omega⟩ ⟨by omega, by omega⟩)
  clear CD HG HBW hu HC
  go_wp2_with (refine wpList_store_row rfl 38 _ _ rfl w1.heap.size #[.int .i64 0, .int .i64 0, .int .i64 0, .int .i64 0, .int .i64 0, .int .i64 0, .int .i64 0, .string ⟨([] : List UInt8).toArray⟩, .string ⟨([] : List UInt8).toArray⟩, .slice IA 0 ic, .bool false] rfl rfl 38 _ b2 (by kernel_rfl) rfl hone ?_)
  (try simp only [Act.put])
  obtain ⟨ys, hy⟩ : ∃ u, (w1.alloc (.cells #[.int .i64 0, .int .i64 0, .int .i64 0, .int .i64 0, .int .i64 0, .int .i64 0, .int .i64 0, .string ⟨#[]⟩, .string ⟨#[]⟩, .slice none 0 0, .bool false] 38)).setRow w1.heap.size #[.int .i64 0, .int .i64 0, .int .i64 0, .int .i64 0, .int .i64 0, .int .i64 0, .int .i64 0, .string ⟨([] : List UInt8).toArray⟩, .string ⟨([] : List UInt8).toArray⟩, .slice IA 0 ic, .bool false] = u := ⟨_, rfl⟩
  have HO2 : Hid (Only [] w ys) := Hd (HO1.out.tr (hy ▸ b1))
  (try rw [hy])
  clear hy b1 b2 b3 hone
  refine (CA.out ⟨8, 0, []⟩ (.slice none 0 0) _ (HR.out _)).mono ?_
  rintro e w4 ⟨rfl, ho4⟩
  have HO4 := Hd (HO2.out.tr ho4)
  clear ho4 HO2 CA HR
  go_wp2_with fail
  go_ret
  exact ⟨K, by rw [HX.out]; rfl, by rw [HX.out]; exact ⟨(H.out.read HO4.out).at_, H.out.ho.tr HO4.out, H.out.lo, H.out.i.mono (by omega)⟩, HO4.out.of0, fun x hx => .inl hx⟩
 | some c =>
  have HX := Hd (HS1.out c hu)
  clear HN1 HS1
  rw [hu] at HC hv
  simp only [Option.getD_some, Option.isSome_some] at HC hv ⊢
  (try simp only [if_true])
  unfold Cm.val
  (try dsimp only)
  obtain ⟨b1, b2, b3⟩ := box_row w1 38 [.int .i64 0, .int .i64 0, .int .i64 0, .int .i64 0, .int .i64 0, .int .i64 0, .int .i64 0, .string ⟨#[]⟩, .string ⟨#[]⟩, .slice none 0 0, .bool false] [.int .i64 c.kd, .int .i64 c.ss, .int .i64 c.sq, .int .i64 c.sh, .int .i64 c.nd, .int .i64 c.ep, .int .i64 c.n, .string ⟨c.fd.toArray⟩, .string ⟨c.id.toArray⟩, iv, .bool c.fl]
  subst hv
  have hone : (#[.int .i64 c.kd, .int .i64 c.ss, .int .i64 c.sq, .int .i64 c.sh, .int .i64 c.nd, .int .i64 c.ep, .int .i64 c.n, .string ⟨c.fd.toArray⟩, .string ⟨c.id.toArray⟩, .slice IA c.its.length ic, .bool c.fl] : Array Value).all (·.oneCell') = true := by simp [Value.oneCell']
  have CD2 := Hd (fun w' (h : AgW W w' p K n a) hc hs => CD.out c (.slice IA c.its.length ic) w' hu h hc hs)
  unfold Cm.val at CD2
  clear CD hu
  obtain ⟨ys, hy⟩ : ∃ u, (w1.alloc (.cells #[.int .i64 0, .int .i64 0, .int .i64 0, .int .i64 0, .int .i64 0, .int .i64 0, .int .i64 0, .string ⟨#[]⟩, .string ⟨#[]⟩, .slice none 0 0, .bool false] 38)).setRow w1.heap.size #[.int .i64 c.kd, .int .i64 c.ss, .int .i64 c.sq, .int .i64 c.sh, .int .i64 c.nd, .int .i64 c.ep, .int .i64 c.n, .string ⟨c.fd.toArray⟩, .string ⟨c.id.toArray⟩, .slice IA c.its.length ic, .bool c.fl] = u := ⟨_, rfl⟩
  have hys : (w1.alloc (.cells [.int .i64 0, .int .i64 0, .int .i64 0, .int .i64 0, .int .i64 0, .int .i64 0, .int .i64 0, .string ⟨#[]⟩, .string ⟨#[]⟩, .slice none 0 0, .bool false].toArray 38)).setRow w1.heap.size [.int .i64 c.kd, .int .i64 c.ss, .int .i64 c.sq, .int .i64 c.sh, .int .i64 c.nd, .int .i64 c.ep, .int .i64 c.n, .string ⟨c.fd.toArray⟩, .string ⟨c.id.toArray⟩, .slice IA c.its.length ic, .bool c.fl].toArray = ys := hy
  rw [hys] at b1 b3
  have HY := Hd b3
  have HOY := Hd (HO1.out.tr b1)
  have HCY := Hd (HC.out.only b1)
  have HIY : Hid (ItK ys K (.slice IA c.its.length ic) c) := Hd (itk_new HC.out HG.out HBW.out b1)
  have HAY := Hd (H.out.read HOY.out)
  have hld := b3
  clear b1 b3 hys HG HC HO1 HBW
  obtain ⟨R, hR⟩ : ∃ R, w1.heap.size = R := ⟨_, rfl⟩
  rw [hR] at hy b2 hld HY
  go_wp2_with (first
   | ((try rw [hR]); refine wpList_store_row rfl 38 _ _ rfl R #[.int .i64 c.kd, .int .i64 c.ss, .int .i64 c.sq, .int .i64 c.sh, .int .i64 c.nd, .int .i64 c.ep, .int .i64 c.n, .string ⟨c.fd.toArray⟩, .string ⟨c.id.toArray⟩, .slice IA c.its.length ic, .bool c.fl] rfl rfl 38 _ b2 (by kernel_rfl) rfl hone ?_; (try rw [hy]))
   | refine wpList_load_row rfl 38 _ rfl R rfl 38 #[.int .i64 c.kd, .int .i64 c.ss, .int .i64 c.sq, .int .i64 c.sh, .int .i64 c.nd, .int .i64 c.ep, .int .i64 c.n, .string ⟨c.fd.toArray⟩, .string ⟨c.id.toArray⟩, .slice IA c.its.length ic, .bool c.fl] (0, 0) _ hld Tryz.underlying38 rfl (by kernel_rfl) ?_)
  refine (CD2.out _ HAY.out HCY.out HIY.out).mono ?_
  rintro e w3 ⟨pv, K', he, hp, hg, hA, ho, hN, hk⟩
  obtain ⟨PA, pc, rfl⟩ := hp.ps.shape
  have he : e = .returned ((doA a c).1.val (.slice PA (doA a c).1.ps.length pc)) := he
  obtain ⟨r, hr⟩ : ∃ r, (doA a c).1 = r := ⟨_, rfl⟩
  rw [hr] at he hp
  have HR := Hd hr
  clear hr
  have he : e = .returned (.agg #[.int .i64 r.er, .int .i64 r.n, .slice PA r.ps.length pc]) := he
  subst he
  have CA2 := Hd (CA.out r _ w3 hp)
  unfold Rp.val at CA2
  have HF := Hd hA
  have HO3 := Hd ho
  have HN := Hd hN
  clear hp hg hA ho hN hk CD2 CA
  go_wp2_with fail
  refine CA2.out.mono ?_
  rintro e w4 ⟨rfl, ho4⟩
  have HO4 := Hd ho4
  clear ho4 CA2
  go_wp2_with fail
  go_ret
  exact ⟨K', by rw [HX.out, HR.out]; rfl, by rw [HX.out]; exact HF.out.read HO4.out, (HOY.out.of0.tr HO3.out).tr HO4.out.of0, fun x hx => (HN.out x hx).imp id (fun h => Nat.le_trans HOY.out.size h)⟩
theorem rgw_apply (p : Nat) (K : List Nat) (a : AgS) (n : Nat) (hn : n ≤ 1000000) (s : List UInt8) (hl : s.length ≤ 1000000) (W w : World) (h : RgW W w p K n a) :
 Calls Tryz.prog 35 #[.pointer (some ⟨p, 0, none⟩), .string ⟨s.toArray⟩] w fun e w' => ApG W w w' p K (n + 1) (apA s a) e := by
 have CU := Hd (ref18_unpack s w (by omega))
 have CA := Hd (fun r pv w' => ref18_answer r pv w')
 have H := Hd h
 have hbw := h.at_.bw
 have HBW := Hd hbw
 have CD := Hd (fun c iv w' (hu : unC s = some c) (h : RgW W w' p K n a) hc hs => rgw_do p K a n hn c iv W w' h hc (right_sm (unC_right hu)) hs)
 have HN1 : Hid (unC s = none → apA s a = (rpb (errR 8), a)) := Hd (fun h => by unfold apA; rw [h])
 have HS1 : Hid (∀ c, unC s = some c → apA s a = (rpb (doA a c).1, (doA a c).2)) := Hd (fun c h => by unfold apA; rw [h])
 obtain ⟨o, ho⟩ : ∃ o, apA s a = o := ⟨_, rfl⟩
 rw [ho] at HN1 HS1 ⊢
 clear h hbw ho
 go_enter Tryz.func35, Tryz.ntmps35
 go_wp2_with fail
 refine CU.out.mono ?_
 rintro e w1 ⟨iv, rfl, hc, ho1, hg1⟩
 obtain ⟨IA, ic, hv⟩ := hc.its.shape
 have HC := Hd hc
 have HG := Hd hg1
 have HO1 := Hd ho1
 clear hc hg1 ho1 CU
 cases hu : unC s with
 | none =>
  have HX := Hd (HN1.out hu)
  clear HN1 HS1
  rw [hu] at HC hv
  simp only [Option.getD_none, Option.isSome_none] at HC hv ⊢
  rw [show (if (false : Bool) = true then (0 : Int) else 8) = 8 from rfl]
  unfold Cm.val Cm.zero
  (try dsimp only)
  have hv : iv = .slice IA 0 ic := hv
  subst hv
  obtain ⟨b1, b2, b3⟩ := box_row w1 38 [.int .i64 0, .int .i64 0, .int .i64 0, .int .i64 0, .int .i64 0, .int .i64 0, .int .i64 0, .string ⟨#[]⟩, .string ⟨#[]⟩, .slice none 0 0, .bool false] [.int .i64 0, .int .i64 0, .int .i64 0, .int .i64 0, .int .i64 0, .int .i64 0, .int .i64 0, .string ⟨([] : List UInt8).toArray⟩, .string ⟨([] : List UInt8).toArray⟩, .slice IA 0 ic, .bool false]
  have hone : (#[.int .i64 0, .int .i64 0, .int .i64 0, .int .i64 0, .int .i64 0, .int .i64 0, .int .i64 0, .string ⟨([] : List UInt8).toArray⟩, .string ⟨([] : List UInt8).toArray⟩, .slice IA 0 ic, .bool false] : Array Value).all (·.oneCell') = true := by simp [Value.oneCell']
  have HR := Hd (rpAt_nil · 8 0 ⟨by omega, by omega⟩ ⟨by omega, by omega⟩)
  clear CD HG HBW hu HC
  go_wp2_with (refine wpList_store_row rfl 38 _ _ rfl w1.heap.size #[.int .i64 0, .int .i64 0, .int .i64 0, .int .i64 0, .int .i64 0, .int .i64 0, .int .i64 0, .string ⟨([] : List UInt8).toArray⟩, .string ⟨([] : List UInt8).toArray⟩, .slice IA 0 ic, .bool false] rfl rfl 38 _ b2 (by kernel_rfl) rfl hone ?_)
  (try simp only [Act.put])
  obtain ⟨ys, hy⟩ : ∃ u, (w1.alloc (.cells #[.int .i64 0, .int .i64 0, .int .i64 0, .int .i64 0, .int .i64 0, .int .i64 0, .int .i64 0, .string ⟨#[]⟩, .string ⟨#[]⟩, .slice none 0 0, .bool false] 38)).setRow w1.heap.size #[.int .i64 0, .int .i64 0, .int .i64 0, .int .i64 0, .int .i64 0, .int .i64 0, .int .i64 0, .string ⟨([] : List UInt8).toArray⟩, .string ⟨([] : List UInt8).toArray⟩, .slice IA 0 ic, .bool false] = u := ⟨_, rfl⟩
  have HO2 : Hid (Only [] w ys) := Hd (HO1.out.tr (hy ▸ b1))
  (try rw [hy])
  clear hy b1 b2 b3 hone
  refine (CA.out ⟨8, 0, []⟩ (.slice none 0 0) _ (HR.out _)).mono ?_
  rintro e w4 ⟨rfl, ho4⟩
  have HO4 := Hd (HO2.out.tr ho4)
  clear ho4 HO2 CA HR
  go_wp2_with fail
  go_ret
  exact ⟨K, by rw [HX.out]; rfl, by rw [HX.out]; exact ⟨(H.out.read HO4.out).at_, H.out.ho.tr HO4.out, H.out.lo, H.out.i.mono (by omega)⟩, HO4.out.of0, fun x hx => .inl hx⟩
 | some c =>
  have HX := Hd (HS1.out c hu)
  clear HN1 HS1
  rw [hu] at HC hv
  simp only [Option.getD_some, Option.isSome_some] at HC hv ⊢
  (try simp only [if_true])
  unfold Cm.val
  (try dsimp only)
  obtain ⟨b1, b2, b3⟩ := box_row w1 38 [.int .i64 0, .int .i64 0, .int .i64 0, .int .i64 0, .int .i64 0, .int .i64 0, .int .i64 0, .string ⟨#[]⟩, .string ⟨#[]⟩, .slice none 0 0, .bool false] [.int .i64 c.kd, .int .i64 c.ss, .int .i64 c.sq, .int .i64 c.sh, .int .i64 c.nd, .int .i64 c.ep, .int .i64 c.n, .string ⟨c.fd.toArray⟩, .string ⟨c.id.toArray⟩, iv, .bool c.fl]
  subst hv
  have hone : (#[.int .i64 c.kd, .int .i64 c.ss, .int .i64 c.sq, .int .i64 c.sh, .int .i64 c.nd, .int .i64 c.ep, .int .i64 c.n, .string ⟨c.fd.toArray⟩, .string ⟨c.id.toArray⟩, .slice IA c.its.length ic, .bool c.fl] : Array Value).all (·.oneCell') = true := by simp [Value.oneCell']
  have CD2 := Hd (fun w' (h : RgW W w' p K n a) hc hs => CD.out c (.slice IA c.its.length ic) w' hu h hc hs)
  unfold Cm.val at CD2
  clear CD hu
  obtain ⟨ys, hy⟩ : ∃ u, (w1.alloc (.cells #[.int .i64 0, .int .i64 0, .int .i64 0, .int .i64 0, .int .i64 0, .int .i64 0, .int .i64 0, .string ⟨#[]⟩, .string ⟨#[]⟩, .slice none 0 0, .bool false] 38)).setRow w1.heap.size #[.int .i64 c.kd, .int .i64 c.ss, .int .i64 c.sq, .int .i64 c.sh, .int .i64 c.nd, .int .i64 c.ep, .int .i64 c.n, .string ⟨c.fd.toArray⟩, .string ⟨c.id.toArray⟩, .slice IA c.its.length ic, .bool c.fl] = u := ⟨_, rfl⟩
  have hys : (w1.alloc (.cells [.int .i64 0, .int .i64 0, .int .i64 0, .int .i64 0, .int .i64 0, .int .i64 0, .int .i64 0, .string ⟨#[]⟩, .string ⟨#[]⟩, .slice none 0 0, .bool false].toArray 38)).setRow w1.heap.size [.int .i64 c.kd, .int .i64 c.ss, .int .i64 c.sq, .int .i64 c.sh, .int .i64 c.nd, .int .i64 c.ep, .int .i64 c.n, .string ⟨c.fd.toArray⟩, .string ⟨c.id.toArray⟩, .slice IA c.its.length ic, .bool c.fl].toArray = ys := hy
  rw [hys] at b1 b3
  have HY := Hd b3
  have HOY := Hd (HO1.out.tr b1)
  have HCY := Hd (HC.out.only b1)
  have HIY : Hid (ItK ys K (.slice IA c.its.length ic) c) := Hd (itk_new HC.out HG.out HBW.out b1)
  have HAY := Hd (H.out.read HOY.out)
  have hld := b3
  clear b1 b3 hys HG HC HO1 HBW
  obtain ⟨R, hR⟩ : ∃ R, w1.heap.size = R := ⟨_, rfl⟩
  rw [hR] at hy b2 hld HY
  go_wp2_with (first
   | ((try rw [hR]); refine wpList_store_row rfl 38 _ _ rfl R #[.int .i64 c.kd, .int .i64 c.ss, .int .i64 c.sq, .int .i64 c.sh, .int .i64 c.nd, .int .i64 c.ep, .int .i64 c.n, .string ⟨c.fd.toArray⟩, .string ⟨c.id.toArray⟩, .slice IA c.its.length ic, .bool c.fl] rfl rfl 38 _ b2 (by kernel_rfl) rfl hone ?_; (try rw [hy]))
   | refine wpList_load_row rfl 38 _ rfl R rfl 38 #[.int .i64 c.kd, .int .i64 c.ss, .int .i64 c.sq, .int .i64 c.sh, .int .i64 c.nd, .int .i64 c.ep, .int .i64 c.n, .string ⟨c.fd.toArray⟩, .string ⟨c.id.toArray⟩, .slice IA c.its.length ic, .bool c.fl] (0, 0) _ hld Tryz.underlying38 rfl (by kernel_rfl) ?_)
  refine (CD2.out _ HAY.out HCY.out HIY.out).mono ?_
  rintro e w3 ⟨pv, K', he, hp, hg, hA, ho, hN, hk⟩
  obtain ⟨PA, pc, rfl⟩ := hp.ps.shape
  have he : e = .returned ((doA a c).1.val (.slice PA (doA a c).1.ps.length pc)) := he
  obtain ⟨r, hr⟩ : ∃ r, (doA a c).1 = r := ⟨_, rfl⟩
  rw [hr] at he hp
  have HR := Hd hr
  clear hr
  have he : e = .returned (.agg #[.int .i64 r.er, .int .i64 r.n, .slice PA r.ps.length pc]) := he
  subst he
  have CA2 := Hd (CA.out r _ w3 hp)
  unfold Rp.val at CA2
  have HF := Hd hA
  have HO3 := Hd ho
  have HN := Hd hN
  clear hp hg hA ho hN hk CD2 CA
  go_wp2_with fail
  refine CA2.out.mono ?_
  rintro e w4 ⟨rfl, ho4⟩
  have HO4 := Hd ho4
  clear ho4 CA2
  go_wp2_with fail
  go_ret
  exact ⟨K', by rw [HX.out, HR.out]; rfl, by rw [HX.out]; exact HF.out.read HO4.out, (HOY.out.of0.tr HO3.out).tr HO4.out.of0, fun x hx => (HN.out x hx).imp id (fun h => Nat.le_trans HOY.out.size h)⟩
theorem svs_snoc (l : List (List UInt8)) (x : List UInt8) : svs (l ++ [x]) = svs l ++ [.string ⟨x.toArray⟩] := by unfold svs; rw [List.map_append]; rfl
theorem info_string23 : (Tryz.prog.info? 9).map (fun i => (i.zero, i.size, i.bytes)) = some (some (.string ⟨#[]⟩), 1, 16) := by kernel_rfl
theorem svs_at23 {w : World} {B : Nat} {v : Value} {l : List (List UInt8)} (h : SlAt w B v 1 l.length (svs l)) {k : Nat} {x : List UInt8} (hk : l[k]? = some x) :
 ∃ b o c, v = .slice (some ⟨b, o, none⟩) l.length c ∧ w.cell? ⟨b, o + k, none⟩ = some (.string ⟨x.toArray⟩) := by
 have hlt : k < l.length := (List.getElem?_eq_some_iff.1 hk).1
 obtain ⟨b, o, c, hv, _, hc⟩ := h.at_ (by omega)
 exact ⟨b, o, c, hv, hc k _ (by unfold svs; rw [List.getElem?_map, hk]; rfl)⟩
theorem right_short {c : Cm} (h : rightB c = true) : (cmdb c).length ≤ 1000000 := by
 obtain ⟨k1, k2, _, k4⟩ := rightB_iff.1 h
 obtain ⟨hf, hd, hn⟩ := lenB_iff.1 k2
 have h1 := isb7_le c (numB_wide k1)
 have h2 := tb_le c.fd 200 hf (by omega)
 have h3 := tb_le c.id 200 hd (by omega)
 have h4 := (ib_length (c.its.length : Int) ⟨by omega, by omega⟩).2
 have h5 : (itsB c.its).length ≤ 630 * c.its.length := by
  have : ∀ (l : List It), (∀ x ∈ l, itR x = true) → (itsB l).length ≤ 630 * l.length := by
   intro l
   induction l with
   | nil => intro _; simp [itsB]
   | cons x r ih =>
    intro hx
    obtain ⟨a1, a2, a3⟩ := itR_len (hx x (by simp))
    have b1 := tb_le x.id 200 a1 (by omega)
    have b2 := tb_le x.ti 200 a2 (by omega)
    have b3 := tb_le x.li 200 a3 (by omega)
    have := ih (fun y hy => hx y (by simp [hy]))
    unfold itsB itB at this ⊢
    rw [List.flatMap_cons, List.length_append, List.length_append, List.length_append, List.length_cons]
    omega
  exact this _ k4
 have h6 : (bb c.fl).length = 1 := rfl
 unfold cmdb cmH
 simp only [List.length_append]
 omega
theorem pkS_short (c : Cm) : (pkS c).length ≤ 1000000 := by
 unfold pkS
 split
 · rename_i h
   exact right_short h
 · simp
theorem ints_at19 {w : World} {B : Nat} {v : Value} {l : List Nat} (h : SlAt w B v 1 l.length (L16.ints l)) {k : Nat} {x : Nat} (hk : l[k]? = some x) :
 ∃ b o c, v = .slice (some ⟨b, o, none⟩) l.length c ∧ w.cell? ⟨b, o + k, none⟩ = some (.int .i64 (x : Int)) := by
 have hlt : k < l.length := (List.getElem?_eq_some_iff.1 hk).1
 obtain ⟨b, o, c, hv, _, hc⟩ := h.at_ (by omega)
 exact ⟨b, o, c, hv, hc k _ (by unfold L16.ints; rw [List.getElem?_map, hk]; rfl)⟩
theorem texts19 (v1 v2 : Value) (l : List (List UInt8)) (w : World) (hs1 : SlAt w w.heap.size v1 1 l.length (svs l)) (hs2 : SlAt w w.heap.size v2 1 l.length (svs l)) (hl : l.length ≤ 1000000) :
 Calls Tryz.prog 98 #[v1, v2] w fun e w' => e = .returned (.bool true) ∧ Only [] w w' := by
 obtain ⟨A1, c1, rfl⟩ := hs1.shape
 obtain ⟨A2, c2, rfl⟩ := hs2.shape
 have H1 := Hd hs1
 have H2 := Hd hs2
 clear hs1 hs2
 go_enter Tryz.func98, Tryz.ntmps98
 go_wp2_with fail
 go_loopw [5] (fun i wr => ∃ k : Nat, k ≤ l.length ∧ i = .int .i64 k ∧ Hid (Only [] w wr)) (fun i _ => l.length - (intOf i).toNat)
 case atStart => exact ⟨0, by omega, rfl, Hd oz⟩
 case round =>
  obtain ⟨k, hk, rfl, ho⟩ := hrel
  by_cases hlt : k < l.length
  · have hlt' : (k : Int) < (l.length : Int) := by omega
    obtain ⟨x, hx⟩ : ∃ x, l[k]? = some x := ⟨_, List.getElem?_eq_getElem hlt⟩
    obtain ⟨b1, o1, c1', i1, q0⟩ := svs_at23 (H1.out.only ho.out (Nat.le_refl _) (by simp)) hx
    obtain ⟨b2, o2, c2', i2, s0⟩ := svs_at23 (H2.out.only ho.out (Nat.le_refl _) (by simp)) hx
    injection i1 with i1 j1 k1
    injection i2 with i2 j2 k2
    subst i1; subst i2; subst k1; subst k2
    have p0 := fun u : Since wr => u.cell q0
    have r0 := fun u : Since wr => u.cell s0
    clear hx q0 s0 j1 j2
    go_wp2_with fail
    refine wp_region_only wr oz (by kernel_rfl) (by kernel_rfl) ?_
    repeat (go_big_quiet_step (fail))
    refine wpQuiet_nil ?_
    rintro ⟨w3, ho3⟩
    dsimp only
    have HO3 := Hd (ho.out.tr ho3)
    clear p0 r0
    go_wp2_with fail
    go_roundw
    case rel => exact ⟨k + 1, by omega, by go_num, HO3⟩
    case measure => simp [intOf]; omega
  · have hd : decide ((k : Int) < (l.length : Int)) = false := by simp; omega
    go_wp2_with fail
    go_ret
    exact ⟨rfl, ho.out⟩
theorem ints19 (v1 v2 : Value) (l : List Nat) (w : World) (hs1 : SlAt w w.heap.size v1 1 l.length (L16.ints l)) (hs2 : SlAt w w.heap.size v2 1 l.length (L16.ints l)) (hl : l.length ≤ 1000000) :
 Calls Tryz.prog 95 #[v1, v2] w fun e w' => e = .returned (.bool true) ∧ Only [] w w' := by
 obtain ⟨A1, c1, rfl⟩ := hs1.shape
 obtain ⟨A2, c2, rfl⟩ := hs2.shape
 have H1 := Hd hs1
 have H2 := Hd hs2
 clear hs1 hs2
 go_enter Tryz.func95, Tryz.ntmps95
 go_wp2_with fail
 go_loopw [5] (fun i wr => ∃ k : Nat, k ≤ l.length ∧ i = .int .i64 k ∧ Hid (Only [] w wr)) (fun i _ => l.length - (intOf i).toNat)
 case atStart => exact ⟨0, by omega, rfl, Hd oz⟩
 case round =>
  obtain ⟨k, hk, rfl, ho⟩ := hrel
  by_cases hlt : k < l.length
  · have hlt' : (k : Int) < (l.length : Int) := by omega
    obtain ⟨x, hx⟩ : ∃ x, l[k]? = some x := ⟨_, List.getElem?_eq_getElem hlt⟩
    obtain ⟨b1, o1, c1', i1, q0⟩ := ints_at19 (H1.out.only ho.out (Nat.le_refl _) (by simp)) hx
    obtain ⟨b2, o2, c2', i2, s0⟩ := ints_at19 (H2.out.only ho.out (Nat.le_refl _) (by simp)) hx
    injection i1 with i1 j1 k1
    injection i2 with i2 j2 k2
    subst i1; subst i2; subst k1; subst k2
    have p0 := fun u : Since wr => u.cell q0
    have r0 := fun u : Since wr => u.cell s0
    clear hx q0 s0 j1 j2
    go_wp2_with fail
    refine wp_region_only wr oz (by kernel_rfl) (by kernel_rfl) ?_
    repeat (go_big_quiet_step (fail))
    refine wpQuiet_nil ?_
    rintro ⟨w3, ho3⟩
    dsimp only
    have HO3 := Hd (ho.out.tr ho3)
    clear p0 r0
    go_wp2_with fail
    go_roundw
    case rel => exact ⟨k + 1, by omega, by go_num, HO3⟩
    case measure => simp [intOf]; omega
  · have hd : decide ((k : Int) < (l.length : Int)) = false := by simp; omega
    go_wp2_with fail
    go_ret
    exact ⟨rfl, ho.out⟩
theorem alike19 (pa pb : Nat) (Ka Kb : List Nat) (a : AgS) (n : Nat) (hn : n ≤ 1000000) (fd : List UInt8) (hf : fd.length ≤ maxLen) (k : Int) (W w : World) (hA : AgW W w pa Ka n a) (hB : RgW W w pb Kb n a) :
 Calls Tryz.prog 37 #[.pointer (some ⟨pa, 0, none⟩), .pointer (some ⟨pb, 0, none⟩), .string ⟨fd.toArray⟩, .int .i64 k] w fun e w' => e = .returned (.bool true) ∧ Only [] w w' := by
 obtain ⟨i0, hi0, hz0, hz1, hz2⟩ := info_parts info_string23
 have hI := hA.i
 have hsm : a.d.small := hI.d.up.small (by omega)
 have hn0 := hI.d.up.n0
 have hn1 := hI.d.up.n1
 have hsl : a.s.length ≤ 20 := by
  obtain ⟨_, _, _, _, _, _, _, _, hX, _⟩ := hB.at_
  exact hX.s.sorted.2.1
 have CG := Hd (fun w' (ho : Only [] w w') => ag_get pa Ka a k w' (hA.at_.keep ho (by simp)) hsm.len)
 have CPol := Hd (fun w' (ho : Only [] w w') => ag_polled pa Ka a fd hf w' (hA.at_.keep ho (by simp)))
 have CS := Hd (fun w' (ho : Only [] w w') => agw_save (by omega) (hA.read ho))
 have CN := Hd (fun w' (ho : Only [] w w') => ag_now pa Ka a w' (hA.at_.keep ho (by simp)))
 have CW := Hd (fun w' (ho : Only [] w w') => ag_wants pa Ka a k w' (hA.at_.keep ho (by simp)) hsm)
 have CF := Hd (fun w' (ho : Only [] w w') => ag_feeds pa Ka a w' (hA.at_.keep ho (by simp)))
 have CP := Hd (fun w' (ho : Only [] w w') => ag_posts pa Ka a fd hf k w' (hA.at_.keep ho (by simp)))
 have RS := Hd (fun w' (ho : Only [] w w') => rgw_save (by omega) (hB.read ho))
 obtain ⟨tb, tv, lb, lv, sb, O, B, BL, hX, rfl⟩ := hB.at_
 have HX : Hid (∀ w', Only [] w w' → RgX w' pb tb tv lb lv sb O B BL a) := Hd (fun w' ho => hX.keep ho (by simp))
 have RG := Hd (fun w' (ho : Only [] w w') => L16.rf_get BL lb lv a.d k w' (HX.out w' ho).d)
 have RF := Hd (fun w' (ho : Only [] w w') => rr_find sb O a.s fd hf w' (HX.out w' ho).s)
 have RL := Hd (fun w' (ho : Only [] w w') => rr_list sb O a.s fd hf k w' (HX.out w' ho).s hI.si)
 have RW := Hd (fun w' (ho : Only [] w w') => L16.rf_wants BL lb lv a.d k w' (HX.out w' ho).d (by omega) (by omega))
 obtain ⟨gl, hgl⟩ : ∃ g, a.d.get k = g := ⟨_, rfl⟩
 rw [hgl] at CG RG
 unfold L16.Ls.val at CG RG
 have hps : (listS a.s fd k).1.length ≤ 1000000 := Nat.le_trans (listS_k hI.si fd k).len (by omega)
 have hws : (a.d.wants k 8).length ≤ 1000000 := by
  have := List.length_filter_le (fun j : Nat => (a.d.get j).wanted a.d.now k) (List.range 8)
  unfold L16.Tb.wants
  rw [List.length_range] at this
  omega
 obtain ⟨ps, hpsE⟩ : ∃ p, listS a.s fd k = p := ⟨_, rfl⟩
 rw [hpsE] at CP RL hps
 obtain ⟨ws, hwsE⟩ : ∃ p, a.d.wants k 8 = p := ⟨_, rfl⟩
 rw [hwsE] at CW RW hws
 obtain ⟨nm, hnmE⟩ : ∃ q, a.s.map (·.1) = q := ⟨_, rfl⟩
 have hnl : a.s.length = nm.length := by rw [← hnmE]; simp
 rw [hnmE, hnl] at CF
 have hnm20 : nm.length ≤ 1000000 := by omega
 have HKE : (ps.2 = ps.2) := rfl
 have b0 : (agB a == agB a) = true := beq_self_eq_true _
 have b1' : (a.d.now == a.d.now) = true := beq_self_eq_true _
 have b2' : (gl.node == gl.node) = true := beq_self_eq_true _
 have b3' : (gl.epoch == gl.epoch) = true := beq_self_eq_true _
 have b4' : (gl.till == gl.till) = true := beq_self_eq_true _
 clear hgl hI hn0 hn1 hX hpsE hwsE hsm HKE hA hB
 have hone : (#[.int .i64 gl.node, .int .i64 gl.epoch, .int .i64 gl.till] : Array Value).all (·.oneCell') = true := by simp [Value.oneCell']
 go_enter Tryz.func37, Tryz.ntmps37
 go_wp2_with fail
 refine (CG.out w oz).mono ?_
 rintro e w1 ⟨rfl, ho1⟩
 obtain ⟨b1, b2, b3⟩ := box_row w1 29 [.int .i64 0, .int .i64 0, .int .i64 0] [.int .i64 gl.node, .int .i64 gl.epoch, .int .i64 gl.till]
 obtain ⟨y1, hy⟩ : ∃ u, (w1.alloc (.cells #[.int .i64 0, .int .i64 0, .int .i64 0] 29)).setRow w1.heap.size #[.int .i64 gl.node, .int .i64 gl.epoch, .int .i64 gl.till] = u := ⟨_, rfl⟩
 have hys : (w1.alloc (.cells [.int .i64 0, .int .i64 0, .int .i64 0].toArray 29)).setRow w1.heap.size [.int .i64 gl.node, .int .i64 gl.epoch, .int .i64 gl.till].toArray = y1 := hy
 rw [hys] at b1 b3
 obtain ⟨z1, hz⟩ : ∃ g, w1.heap.size = g := ⟨_, rfl⟩
 rw [hz] at b2 b3 hy
 have O1 : Only [] w y1 := ho1.tr b1
 have HO1 := Hd O1
 have HZ1 := Hd b3
 have l1 := ((HX.out y1 O1).cells.cell (k := 1) rfl)
 clear b1 b3 hys ho1 O1 CG
 go_wp2_with ((try rw [hz]); refine wpList_store_row rfl 29 _ _ rfl z1 #[.int .i64 gl.node, .int .i64 gl.epoch, .int .i64 gl.till] rfl rfl 29 _ b2 (by kernel_rfl) rfl hone ?_; (try rw [hy]))
 refine (RG.out y1 HO1.out).mono ?_
 rintro e w2 ⟨rfl, ho2⟩
 clear b2 hy l1 hz
 obtain ⟨b1, b2, b3⟩ := box_row w2 137 [.int .i64 0, .int .i64 0, .int .i64 0] [.int .i64 gl.node, .int .i64 gl.epoch, .int .i64 gl.till]
 obtain ⟨y2, hy⟩ : ∃ u, (w2.alloc (.cells #[.int .i64 0, .int .i64 0, .int .i64 0] 137)).setRow w2.heap.size #[.int .i64 gl.node, .int .i64 gl.epoch, .int .i64 gl.till] = u := ⟨_, rfl⟩
 have hys : (w2.alloc (.cells [.int .i64 0, .int .i64 0, .int .i64 0].toArray 137)).setRow w2.heap.size [.int .i64 gl.node, .int .i64 gl.epoch, .int .i64 gl.till].toArray = y2 := hy
 rw [hys] at b1 b3
 obtain ⟨z2, hz⟩ : ∃ g, w2.heap.size = g := ⟨_, rfl⟩
 rw [hz] at b2 b3 hy
 have O2 : Only [] w y2 := (HO1.out.tr ho2).tr b1
 have HO2 := Hd O2
 have HZ1 := Hd ((HZ1.out.only ho2 (by simp)).only b1 (by simp))
 have HZ2 := Hd b3
 clear b1 b3 hys ho2 O2 HO1 RG
 go_wp2_with ((try rw [hz]); refine wpList_store_row rfl 137 _ _ rfl z2 #[.int .i64 gl.node, .int .i64 gl.epoch, .int .i64 gl.till] rfl rfl 137 _ b2 (by kernel_rfl) rfl hone ?_; (try rw [hy]))
 refine (CPol.out y2 HO2.out).mono ?_
 rintro e w3 ⟨rfl, ho3⟩
 have O3 := HO2.out.tr ho3
 have HO3 := Hd O3
 have HZ1 := Hd (HZ1.out.only ho3 (by simp))
 have HZ2 := Hd (HZ2.out.only ho3 (by simp))
 have l2 := ((HX.out w3 O3).cells.cell (k := 2) rfl)
 clear b2 hy hz ho3 O3 HO2 CPol
 go_wp2_with fail
 refine (RF.out w3 HO3.out).mono ?_
 rintro e w4 ⟨rfl, ho4⟩
 clear l2
 have O4 := HO3.out.tr ho4
 have HO4 := Hd O4
 have HZ1 := Hd (HZ1.out.only ho4 (by simp))
 have HZ2 := Hd (HZ2.out.only ho4 (by simp))
 have l2 := ((HX.out w4 O4).cells.cell (k := 2) rfl)
 have HPOL : Hid (∀ f, fnd a.s fd = some f → At17 w4 sb a.s.length (ixS a.s fd) (fd, f) ∧ ixS a.s fd < a.s.length) := Hd (fun f hf' => by
  have := ixS_at (HX.out w4 O4).s hf'
  exact ⟨(HX.out w4 O4).s.at_ this, (List.getElem?_eq_some_iff.1 this).1⟩)
 clear ho4 O4 HO3 RF
 obtain ⟨ix, hix⟩ : ∃ x, ixS a.s fd = x := ⟨_, rfl⟩
 rw [hix] at HPOL ⊢
 obtain ⟨F, hF⟩ : ∃ x, fnd a.s fd = x := ⟨_, rfl⟩
 rw [hF] at HPOL ⊢
 clear hix hF
 cases F with
 | none =>
  simp only [Option.elim, Option.isSome]
  go_wp2_with fail
  refine (RL.out w4 HO4.out).mono ?_
  rintro e w6 ⟨vp, rfl, hrp, ho6⟩
  have O6 := HO4.out.tr ho6
  have HO6 := Hd O6
  have HZ1 := Hd (HZ1.out.only ho6 (by simp))
  have HZ2 := Hd (HZ2.out.only ho6 (by simp))
  have HRP := Hd (SlAt.of_own hrp)
  obtain ⟨PA, pc, rfl⟩ := (SlAt.of_own hrp).shape
  obtain ⟨A', c', hh⟩ := (HX.out w6 O6).s.head
  have l2 := ((HX.out w6 O6).cells.cell (k := 2) rfl)
  clear ho6 O6 HO4 hrp RL
  go_wp2_with fail
  clear hh l2
  go_loopw [18, 19] (fun ls i wr => ∃ (j : Nat) (lv : Value), j ≤ a.s.length ∧ lv = ls ∧ i = .int .i64 j ∧ Hid (Only [] w6 wr) ∧ Hid (wr.ownsRow w6.heap.size 9 1 lv j (svs ((a.s.take j).map (·.1))))) (fun _ i _ => a.s.length - (intOf i).toNat)
  case atStart => exact ⟨0, _, by omega, rfl, rfl, Hd oz, Hd (World.ownsRow_nil _ _ _ _)⟩
  case round =>
   obtain ⟨j, lv, hj, rfl, rfl, ho, HW⟩ := hrel
   obtain ⟨wq, rfl⟩ : ∃ wq, wq = wr := ⟨_, rfl⟩
   have OQ := Hd (HO6.out.tr ho.out)
   have hXq := HX.out wq OQ.out
   have l2 := hXq.cells.cell (k := 2) rfl
   by_cases hlt : j < a.s.length
   · have hlt' : (j : Int) < (a.s.length : Int) := by omega
     obtain ⟨x, hx⟩ : ∃ x, a.s[j]? = some x := ⟨_, List.getElem?_eq_getElem hlt⟩
     have HSN : Hid ((a.s.take (j + 1)).map (·.1) = (a.s.take j).map (·.1) ++ [x.1]) := Hd (by rw [List.take_add_one, hx, List.map_append]; rfl)
     obtain ⟨g, c2, r0, r1, r2, r3⟩ := (hXq.s.at_ hx).ex
     have hle6 := ho.out.size
     clear hx hXq OQ
     go_wp2_with (at_builtin; go_loud (refine wpList_appA rfl _ _ 42 rfl w6.heap.size 9 i0 _ 1 16 Tryz.underlying42 hi0 hz0 hz1 hz2 rfl (by decide) wq lv j (svs ((a.s.take j).map (·.1))) rfl HW.out 1 1 [.string ⟨x.1.toArray⟩] rfl rfl (by simp [Value.oneCell']) (by unfold maxLen; omega) (by omega) hle6 ?_; intro v' w7 hown7 hgr7 hnew7))
     have HW7 : Hid (w7.ownsRow w6.heap.size 9 1 v' (j + 1) (svs ((a.s.take (j + 1)).map (·.1)))) := Hd (by rw [HSN.out, svs_snoc]; exact hown7)
     have HO7 := Hd (Only.own ho.out HW.out hgr7 (Nat.le_refl _))
     clear hown7 hgr7 hnew7 HW ho HSN r0 r1 r2 r3 l2 hle6
     go_wp2_with fail
     go_roundw
     case rel => exact ⟨j + 1, _, by omega, rfl, by go_num, HO7, HW7⟩
     case measure => simp [intOf]; omega
   · have hdd : decide ((j : Int) < (a.s.length : Int)) = false := by simp; omega
     obtain rfl : j = a.s.length := by omega
     rw [List.take_length] at HW
     obtain ⟨A', c', hh⟩ := hXq.s.head
     have HNW : Hid (SlAt wq wq.heap.size lv 1 nm.length (svs nm)) := Hd (by have := SlAt.of_own HW.out; rw [hnmE] at this; exact hnl ▸ this)
     obtain ⟨NA, nc, rfl⟩ := HNW.out.shape
     have HS : Hid (∀ w', Only [] wq w' → (w'.cell? ⟨z1, 0, none⟩ = some (.int .i64 gl.node) ∧ w'.cell? ⟨z1, 1, none⟩ = some (.int .i64 gl.epoch) ∧ w'.cell? ⟨z1, 2, none⟩ = some (.int .i64 gl.till)) ∧ (w'.cell? ⟨z2, 0, none⟩ = some (.int .i64 gl.node) ∧ w'.cell? ⟨z2, 1, none⟩ = some (.int .i64 gl.epoch) ∧ w'.cell? ⟨z2, 2, none⟩ = some (.int .i64 gl.till)) ∧ (w'.cell? ⟨pb, 1, none⟩ = some (.pointer (some ⟨lb, 0, none⟩)) ∧ w'.cell? ⟨lb, 0, none⟩ = some (.int .i64 a.d.now))) := Hd fun w' hw =>
      have h6 := ho.out.tr hw
      have c1 := HZ1.out.only h6 (by simp)
      have c2 := HZ2.out.only h6 (by simp)
      have c3 := HX.out w' (OQ.out.tr hw)
      ⟨⟨c1.cell (k := 0) rfl, c1.cell (k := 1) rfl, c1.cell (k := 2) rfl⟩, ⟨c2.cell (k := 0) rfl, c2.cell (k := 1) rfl, c2.cell (k := 2) rfl⟩, c3.cells.cell (k := 1) rfl, c3.d.cells.cell (k := 0) rfl⟩
     have HRQ := Hd ((HRP.out.only ho.out (Nat.le_refl _) (by simp)).more ho.out.size)
     clear hXq HW ho HRP HZ1 HZ2
     go_wp2_with fail
     clear hh l2
     simp only [List.append_eq, List.cons_append, List.nil_append]
     go_region_held3 (fun w' : World => (w'.cell? ⟨z1, 0, none⟩ = some (.int .i64 gl.node) ∧ w'.cell? ⟨z1, 1, none⟩ = some (.int .i64 gl.epoch) ∧ w'.cell? ⟨z1, 2, none⟩ = some (.int .i64 gl.till)) ∧ (w'.cell? ⟨z2, 0, none⟩ = some (.int .i64 gl.node) ∧ w'.cell? ⟨z2, 1, none⟩ = some (.int .i64 gl.epoch) ∧ w'.cell? ⟨z2, 2, none⟩ = some (.int .i64 gl.till)) ∧ (w'.cell? ⟨pb, 1, none⟩ = some (.pointer (some ⟨lb, 0, none⟩)) ∧ w'.cell? ⟨lb, 0, none⟩ = some (.int .i64 a.d.now)))
      (exact HS.out _ (by repeat (first | exact Only.refl _ _ | refine Only.drew ?_ | refine Only.tr ?_ (by assumption) | refine Only.tr ?_ (Lib.Hid.out (by assumption)))))
      (first
       | (go_at_call 28; refine (CS.out _ (OQ.out.tr oz.drew)).mono ?_; rintro e w8 ⟨rfl, p8⟩; have q8 := Hd ((Only.refl [] wq).drew.tr p8))
       | (go_at_call 38; refine (RS.out _ (OQ.out.tr q8.out)).mono ?_; rintro e w9 ⟨rfl, p9⟩; have q9 := Hd (q8.out.tr p9))
       | (go_at_call 21; refine (CN.out _ (OQ.out.tr q9.out)).mono ?_; rintro e w9' ⟨rfl, rfl⟩)
       | (go_at_call 96; refine (CW.out _ (OQ.out.tr q9.out)).mono ?_; rintro e w10 ⟨v10, rfl, hr10, p10⟩; have q10 := Hd (q9.out.tr p10); have s10 := Hd (SlAt.of_own hr10); obtain ⟨A10, c10, rfl⟩ := s10.out.shape)
       | (go_at_call 97; refine (RW.out _ (OQ.out.tr q10.out)).mono ?_; rintro e w11 ⟨v11, rfl, hr11, p11⟩; have q11 := Hd (q10.out.tr p11); have s11 := Hd (SlAt.of_own hr11); have s10' := Hd ((s10.out.only p11 (Nat.le_refl _) (by simp)).more p11.size); obtain ⟨A11, c11, rfl⟩ := s11.out.shape)
       | (go_at_call 95; refine (ints19 _ _ ws w11 s10'.out s11.out hws).mono ?_; rintro e w12 ⟨rfl, p12⟩; have q12 := Hd (q11.out.tr p12))
       | (go_at_call 24; refine (CF.out _ (OQ.out.tr q12.out)).mono ?_; rintro e w13 ⟨v13, rfl, hr13, p13⟩; have q13 := Hd (q12.out.tr p13); have s13 := Hd (SlAt.of_own hr13); obtain ⟨A13, c13, rfl⟩ := s13.out.shape)
       | (go_at_call 98; refine (texts19 _ _ nm w13 s13.out ((HNW.out.only q13.out (Nat.le_refl _) (by simp)).more q13.out.size) hnm20).mono ?_; rintro e w14 ⟨rfl, p14⟩; have q14 := Hd (q13.out.tr p14))
       | (go_at_call 23; refine (CP.out _ (OQ.out.tr q14.out)).mono ?_; rintro e w15 ⟨v15, rfl, hr15, p15⟩; have q15 := Hd (q14.out.tr p15); have s15 := Hd (SlAt.of_own hr15); obtain ⟨A15, c15, rfl⟩ := s15.out.shape)
       | (go_at_call 25; refine (posts19 _ _ ps.1 w15 s15.out ((HRQ.out.only q15.out (Nat.le_refl _) (by simp)).more q15.out.size) hps).mono ?_; rintro e w16 ⟨rfl, p16⟩; have q16 := Hd (q15.out.tr p16)))
     all_goals
      have HFIN := Hd (OQ.out.tr q16.out)
      go_wp2_with fail
      go_ret
      exact ⟨rfl, HFIN.out⟩
 | some f =>
  obtain ⟨hAT, hixl⟩ := HPOL.out f rfl
  obtain ⟨g5, c5, s0, s1, s2, s3⟩ := hAT.ex
  have hix' : (ix : Int) < (a.s.length : Int) := by omega
  have b5 : (f.pol != f.pol) = false := by simp
  have b6 : (f.fai != f.fai) = false := by simp
  simp only [Option.elim, Option.isSome]
  clear hAT
  go_wp2_with fail
  clear s0 s1 s2 s3 hix'
  refine (RL.out w4 HO4.out).mono ?_
  rintro e w6 ⟨vp, rfl, hrp, ho6⟩
  have O6 := HO4.out.tr ho6
  have HO6 := Hd O6
  have HZ1 := Hd (HZ1.out.only ho6 (by simp))
  have HZ2 := Hd (HZ2.out.only ho6 (by simp))
  have HRP := Hd (SlAt.of_own hrp)
  obtain ⟨PA, pc, rfl⟩ := (SlAt.of_own hrp).shape
  obtain ⟨A', c', hh⟩ := (HX.out w6 O6).s.head
  have l2 := ((HX.out w6 O6).cells.cell (k := 2) rfl)
  clear ho6 O6 HO4 hrp RL
  go_wp2_with fail
  clear hh l2
  go_loopw [18, 19] (fun ls i wr => ∃ (j : Nat) (lv : Value), j ≤ a.s.length ∧ lv = ls ∧ i = .int .i64 j ∧ Hid (Only [] w6 wr) ∧ Hid (wr.ownsRow w6.heap.size 9 1 lv j (svs ((a.s.take j).map (·.1))))) (fun _ i _ => a.s.length - (intOf i).toNat)
  case atStart => exact ⟨0, _, by omega, rfl, rfl, Hd oz, Hd (World.ownsRow_nil _ _ _ _)⟩
  case round =>
   obtain ⟨j, lv, hj, rfl, rfl, ho, HW⟩ := hrel
   obtain ⟨wq, rfl⟩ : ∃ wq, wq = wr := ⟨_, rfl⟩
   have OQ := Hd (HO6.out.tr ho.out)
   have hXq := HX.out wq OQ.out
   have l2 := hXq.cells.cell (k := 2) rfl
   by_cases hlt : j < a.s.length
   · have hlt' : (j : Int) < (a.s.length : Int) := by omega
     obtain ⟨x, hx⟩ : ∃ x, a.s[j]? = some x := ⟨_, List.getElem?_eq_getElem hlt⟩
     have HSN : Hid ((a.s.take (j + 1)).map (·.1) = (a.s.take j).map (·.1) ++ [x.1]) := Hd (by rw [List.take_add_one, hx, List.map_append]; rfl)
     obtain ⟨g, c2, r0, r1, r2, r3⟩ := (hXq.s.at_ hx).ex
     have hle6 := ho.out.size
     clear hx hXq OQ
     go_wp2_with (at_builtin; go_loud (refine wpList_appA rfl _ _ 42 rfl w6.heap.size 9 i0 _ 1 16 Tryz.underlying42 hi0 hz0 hz1 hz2 rfl (by decide) wq lv j (svs ((a.s.take j).map (·.1))) rfl HW.out 1 1 [.string ⟨x.1.toArray⟩] rfl rfl (by simp [Value.oneCell']) (by unfold maxLen; omega) (by omega) hle6 ?_; intro v' w7 hown7 hgr7 hnew7))
     have HW7 : Hid (w7.ownsRow w6.heap.size 9 1 v' (j + 1) (svs ((a.s.take (j + 1)).map (·.1)))) := Hd (by rw [HSN.out, svs_snoc]; exact hown7)
     have HO7 := Hd (Only.own ho.out HW.out hgr7 (Nat.le_refl _))
     clear hown7 hgr7 hnew7 HW ho HSN r0 r1 r2 r3 l2 hle6
     go_wp2_with fail
     go_roundw
     case rel => exact ⟨j + 1, _, by omega, rfl, by go_num, HO7, HW7⟩
     case measure => simp [intOf]; omega
   · have hdd : decide ((j : Int) < (a.s.length : Int)) = false := by simp; omega
     obtain rfl : j = a.s.length := by omega
     rw [List.take_length] at HW
     obtain ⟨A', c', hh⟩ := hXq.s.head
     have HNW : Hid (SlAt wq wq.heap.size lv 1 nm.length (svs nm)) := Hd (by have := SlAt.of_own HW.out; rw [hnmE] at this; exact hnl ▸ this)
     obtain ⟨NA, nc, rfl⟩ := HNW.out.shape
     have HS : Hid (∀ w', Only [] wq w' → (w'.cell? ⟨z1, 0, none⟩ = some (.int .i64 gl.node) ∧ w'.cell? ⟨z1, 1, none⟩ = some (.int .i64 gl.epoch) ∧ w'.cell? ⟨z1, 2, none⟩ = some (.int .i64 gl.till)) ∧ (w'.cell? ⟨z2, 0, none⟩ = some (.int .i64 gl.node) ∧ w'.cell? ⟨z2, 1, none⟩ = some (.int .i64 gl.epoch) ∧ w'.cell? ⟨z2, 2, none⟩ = some (.int .i64 gl.till)) ∧ (w'.cell? ⟨pb, 1, none⟩ = some (.pointer (some ⟨lb, 0, none⟩)) ∧ w'.cell? ⟨lb, 0, none⟩ = some (.int .i64 a.d.now))) := Hd fun w' hw =>
      have h6 := ho.out.tr hw
      have c1 := HZ1.out.only h6 (by simp)
      have c2 := HZ2.out.only h6 (by simp)
      have c3 := HX.out w' (OQ.out.tr hw)
      ⟨⟨c1.cell (k := 0) rfl, c1.cell (k := 1) rfl, c1.cell (k := 2) rfl⟩, ⟨c2.cell (k := 0) rfl, c2.cell (k := 1) rfl, c2.cell (k := 2) rfl⟩, c3.cells.cell (k := 1) rfl, c3.d.cells.cell (k := 0) rfl⟩
     have HRQ := Hd ((HRP.out.only ho.out (Nat.le_refl _) (by simp)).more ho.out.size)
     clear hXq HW ho HRP HZ1 HZ2
     go_wp2_with fail
     clear hh l2
     simp only [List.append_eq, List.cons_append, List.nil_append]
     go_region_held3 (fun w' : World => (w'.cell? ⟨z1, 0, none⟩ = some (.int .i64 gl.node) ∧ w'.cell? ⟨z1, 1, none⟩ = some (.int .i64 gl.epoch) ∧ w'.cell? ⟨z1, 2, none⟩ = some (.int .i64 gl.till)) ∧ (w'.cell? ⟨z2, 0, none⟩ = some (.int .i64 gl.node) ∧ w'.cell? ⟨z2, 1, none⟩ = some (.int .i64 gl.epoch) ∧ w'.cell? ⟨z2, 2, none⟩ = some (.int .i64 gl.till)) ∧ (w'.cell? ⟨pb, 1, none⟩ = some (.pointer (some ⟨lb, 0, none⟩)) ∧ w'.cell? ⟨lb, 0, none⟩ = some (.int .i64 a.d.now)))
      (exact HS.out _ (by repeat (first | exact Only.refl _ _ | refine Only.drew ?_ | refine Only.tr ?_ (by assumption) | refine Only.tr ?_ (Lib.Hid.out (by assumption)))))
      (first
       | (go_at_call 28; refine (CS.out _ (OQ.out.tr oz.drew)).mono ?_; rintro e w8 ⟨rfl, p8⟩; have q8 := Hd ((Only.refl [] wq).drew.tr p8))
       | (go_at_call 38; refine (RS.out _ (OQ.out.tr q8.out)).mono ?_; rintro e w9 ⟨rfl, p9⟩; have q9 := Hd (q8.out.tr p9))
       | (go_at_call 21; refine (CN.out _ (OQ.out.tr q9.out)).mono ?_; rintro e w9' ⟨rfl, rfl⟩)
       | (go_at_call 96; refine (CW.out _ (OQ.out.tr q9.out)).mono ?_; rintro e w10 ⟨v10, rfl, hr10, p10⟩; have q10 := Hd (q9.out.tr p10); have s10 := Hd (SlAt.of_own hr10); obtain ⟨A10, c10, rfl⟩ := s10.out.shape)
       | (go_at_call 97; refine (RW.out _ (OQ.out.tr q10.out)).mono ?_; rintro e w11 ⟨v11, rfl, hr11, p11⟩; have q11 := Hd (q10.out.tr p11); have s11 := Hd (SlAt.of_own hr11); have s10' := Hd ((s10.out.only p11 (Nat.le_refl _) (by simp)).more p11.size); obtain ⟨A11, c11, rfl⟩ := s11.out.shape)
       | (go_at_call 95; refine (ints19 _ _ ws w11 s10'.out s11.out hws).mono ?_; rintro e w12 ⟨rfl, p12⟩; have q12 := Hd (q11.out.tr p12))
       | (go_at_call 24; refine (CF.out _ (OQ.out.tr q12.out)).mono ?_; rintro e w13 ⟨v13, rfl, hr13, p13⟩; have q13 := Hd (q12.out.tr p13); have s13 := Hd (SlAt.of_own hr13); obtain ⟨A13, c13, rfl⟩ := s13.out.shape)
       | (go_at_call 98; refine (texts19 _ _ nm w13 s13.out ((HNW.out.only q13.out (Nat.le_refl _) (by simp)).more q13.out.size) hnm20).mono ?_; rintro e w14 ⟨rfl, p14⟩; have q14 := Hd (q13.out.tr p14))
       | (go_at_call 23; refine (CP.out _ (OQ.out.tr q14.out)).mono ?_; rintro e w15 ⟨v15, rfl, hr15, p15⟩; have q15 := Hd (q14.out.tr p15); have s15 := Hd (SlAt.of_own hr15); obtain ⟨A15, c15, rfl⟩ := s15.out.shape)
       | (go_at_call 25; refine (posts19 _ _ ps.1 w15 s15.out ((HRQ.out.only q15.out (Nat.le_refl _) (by simp)).more q15.out.size) hps).mono ?_; rintro e w16 ⟨rfl, p16⟩; have q16 := Hd (q15.out.tr p16)))
     all_goals
      have HFIN := Hd (OQ.out.tr q16.out)
      go_wp2_with fail
      go_ret
      exact ⟨rfl, HFIN.out⟩
end Go.Proofs.YtcjfmildalappaaGreat
