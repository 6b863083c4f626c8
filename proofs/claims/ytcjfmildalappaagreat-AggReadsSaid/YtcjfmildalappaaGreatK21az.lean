/-
  Contracts; each theorem bears its own conditions.
-/
import Derived.Laws.StructEq
import Derived.Test.YtcjfmildalappaaGreatK21am
import Derived.Test.YtcjfmildalappaaGreatK21an
import Derived.Test.YtcjfmildalappaaGreatK21ay
set_option linter.all false
set_option maxRecDepth 100000
set_option maxHeartbeats 8000000
namespace Go.Proofs.YtcjfmildalappaaGreat
open Go.RowKit
theorem kept_readG {r : Rp} (h : RpK r) (w : World) : Calls Tryz.prog 48 #[.string ⟨(rpb r).toArray⟩] w fun e w' => ∃ pv, e = .returned (.tuple #[r.val pv, .int .i64 0]) ∧ RpAt w' pv r ∧ Only [] w w' ∧ ∀ g, pv.ownBlock = some g → w.heap.size ≤ g := by
 refine (ref18_toAnswer (rpb r) w (by have := h.le; omega)).mono ?_
 rintro e w' ⟨pv, he, hp, ho, hn⟩
 have hu : unA (rpb r) = some r := (unA_iff _ (by have := h.le; omega) r).2 ⟨h.ok, rfl⟩
 rw [hu] at he hp
 exact ⟨pv, he, hp, ho, hn⟩
theorem rg_do (p : Nat) (K : List Nat) (a : AgS) (n : Nat) (hn : n ≤ 1000000000) (c : Cm) (iv : Value) (w : World) (h : RgAt w p K a) (hI : AgI n a) (hc : CmAt w iv c) (hsm : c.Sm) (hsl : ItK w K iv c) :
 Calls Tryz.prog 36 #[.pointer (some ⟨p, 0, none⟩), c.val iv] w fun e w' => ReG w w' p K (doA a c).1 (doA a c).2 e := by
 have hil : c.its.length ≤ 1000000 := by have := hsm.n; omega
 have hOT := fun w' (hA : RgAt w' p K a) (hs : ItK w' K iv c) => rg_other p K a n hn c iv w' hA hI hc.fd hil hc.len hs
 have hONE := fun w' (hA : RgAt w' p K a) => rg_client p K a n c iv w' hA hI hc.fd hc.id
 have hRT := fun w' (ho : Only [] w w') => ref18_right c iv w' (hc.only ho) hsm
 have hCC := fun w' => ref18_client c iv w'
 obtain ⟨tb, tv, lb, lv, sb, O, B, BL, hX, rfl⟩ := h
 have hE1 : rightB c = false → doA a c = (errR 1, a) := fun h => by unfold doA; rw [if_pos h]
 have hEo : rightB c = true → clB c.kd = false → doA a c = othA a c := fun h h2 => by unfold doA; rw [if_neg (by simp [h]), if_pos h2]
 have hkind := S15.ask_kind a.t.l c.ss c.sq
 have hlen := hI.ok.len
 have hpos : ∀ s ∈ a.t.l, 0 ≤ s.seq := fun s hs => (hI.g s hs).pos
 have CA0 := Hd (fun w' ht => S15.rt_ask B tb tv a.t.l a.t.ever c.ss c.sq w' ht (by omega) hpos)
 have hk1 : (S15.askS a.t.l c.ss c.sq).1 = 1 → ∃ r, RpK r ∧ (S15.askS a.t.l c.ss c.sq).2 = ⟨(rpb r).toArray⟩ := fun h1 => by
  obtain ⟨x, hx, hs, h2, e⟩ := ask_one h1
  obtain ⟨r, hr, er⟩ := hI.kept x hx (by omega)
  exact ⟨r, hr, e.trans er⟩
 have HK1 := Hd hk1
 have hRK := cliA_k hI.si c
 unfold S15.askV at CA0
 have hE3 : rightB c = true → clB c.kd = true → (S15.askS a.t.l c.ss c.sq).1 = 3 → doA a c = (errR 17, a) := fun g1 g2 h => by rw [doA_cl g1 g2]; unfold clA; rw [if_pos h]
 have hE2 : rightB c = true → clB c.kd = true → (S15.askS a.t.l c.ss c.sq).1 = 2 → doA a c = (errR 18, a) := fun g1 g2 h => by rw [doA_cl g1 g2]; unfold clA; rw [h]; rfl
 have hEa : rightB c = true → clB c.kd = true → (S15.askS a.t.l c.ss c.sq).1 = 1 → doA a c = (keptR (S15.askS a.t.l c.ss c.sq).2, a) := fun g1 g2 h => by rw [doA_cl g1 g2]; unfold clA; rw [h]; rfl
 have hE0 : rightB c = true → clB c.kd = true → (S15.askS a.t.l c.ss c.sq).1 = 0 → doA a c = ((cliA a.s c).1, ⟨⟨S15.doneL a.t.l c.ss c.sq ⟨(rpb (cliA a.s c).1).toArray⟩, a.t.ever⟩, a.d, (cliA a.s c).2⟩) := fun g1 g2 h => by rw [doA_cl g1 g2]; unfold clA; rw [h]; rfl
 obtain ⟨qq, hq⟩ : ∃ q, S15.askS a.t.l c.ss c.sq = q := ⟨_, rfl⟩
 rw [hq] at CA0 hkind HK1 hE3 hE2 hEa hE0
 clear hq hk1
 obtain ⟨q, kb⟩ := qq
 dsimp only at CA0 hkind HK1 hE3 hE2 hEa hE0
 have HLEN := Hd hlen
 have HPOS := Hd hpos
 have HONE := Hd hONE
 have HRK := Hd hRK
 have HE1e := Hd hE1
 have HEo := Hd hEo
 have HE3e := Hd hE3
 have HE2e := Hd hE2
 have HEae := Hd hEa
 have HE0e := Hd hE0
 have HKIND := Hd hkind
 have HSL := Hd hsl
 have HOT := Hd hOT
 have HRT := Hd hRT
 have HCC := Hd hCC
 unfold Cm.val at HONE HOT HRT HCC ⊢
 clear hI hONE hRK hlen hpos hE3 hE2 hE1 hE0 hEa hEo hkind hsl hOT hRT hCC hc hsm hn
 go_enter Tryz.func36, Tryz.ntmps36
 go_upto_region 1 with fail
 obtain ⟨w1, hw1⟩ : ∃ u, w.alloc (.cells #[.int .i64 c.kd, .int .i64 c.ss, .int .i64 c.sq, .int .i64 c.sh, .int .i64 c.nd, .int .i64 c.ep, .int .i64 c.n, .string ⟨c.fd.toArray⟩, .string ⟨c.id.toArray⟩, iv, .bool c.fl] 38) = u := ⟨_, rfl⟩
 have hR : w.heap.size + 1 = w1.heap.size := by rw [← hw1, World.size_alloc]
 obtain ⟨z, hz⟩ : ∃ z, w.heap.size = z := ⟨_, rfl⟩
 have hcz : Cells w1 z 38 (c.cells iv) := hw1 ▸ hz ▸ Cells.new w _ _
 rw [hw1, hR, hz]
 obtain ⟨w2, hw2⟩ : ∃ u, w1.alloc (.cells #[.int .i64 0, .int .i64 0, .slice none 0 0] 34) = u := ⟨_, rfl⟩
 obtain ⟨R, hRR⟩ : ∃ R, w1.heap.size = R := ⟨_, rfl⟩
 have o12 : Only [] w1 w2 := hw2 ▸ oz.alloc _
 have o2 : Only [] w w2 := Only.tr0 (hw1 ▸ oz.alloc _) o12
 have hcR : Cells w2 R 34 [.int .i64 0, .int .i64 0, .slice none 0 0] := hw2 ▸ hRR ▸ Cells.new w1 _ _
 rw [hw2, hRR]
 have hwR : w.heap.size ≤ R := by omega
 have hwz : w.heap.size ≤ z := by omega
 have hX2 := hX.keep o2 (by simp)
 have hcz2 := hcz.only o12 (by simp)
 have HCZ := Hd hcz2
 have hpl := hX2.cells.lt
 have HX := Hd hX
 have HX2 := Hd hX2
 have HO2 := Hd o2
 have HR := Hd hcR
 have hRn : Hid (R ∉ allG p tb tv lb lv O) := Hd (fun hm => by have := HX.out.lts R hm; omega)
 have hzn : Hid (z ∉ allG p tb tv lb lv O) := Hd (fun hm => by have := HX.out.lts z hm; omega)
 obtain ⟨c0, c1, c2, c3, c4, c5, c6, c7, c8, c9, c10⟩ := cm_cells hcz2
 have CR := Hd (HRT.out w2 o2)
 clear hw1 hw2 hR hRR hz o2 o12 hcR hX hX2 hcz hcz2
 go_wp2_with fail
 refine CR.out.mono ?_
 rintro e w3 ⟨rfl, ho3⟩
 have HX3 := Hd (HX2.out.keep ho3 (by simp))
 have HO3 := Hd (HO2.out.tr ho3)
 have HR3 := Hd (HR.out.only ho3 (by simp))
 have HCZ3 := Hd (HCZ.out.only ho3 (by simp))
 clear c0 c1 c2 c3 c4 c5 c6 c7 c8 c9 c10 ho3 CR HRT HX2 HO2 HR HCZ
 cases hb : rightB c with
 | false =>
  have HE := Hd (HE1e.out hb)
  clear hb HE1e HEo HE3e HE2e HEae HE0e HCZ3 hzn HONE HOT HCC HSL
  have oR : ∀ row, Only [R] w3 (w3.setRow R row) := fun row => oz.setRow (.inl (by simp)) _
  have HFIN : Hid (∀ row, ReG w (w3.setRow R row) p (allG p tb tv lb lv O) (doA a c).1 (doA a c).2 (.returned (.agg #[.int .i64 1, .int .i64 0, .slice none 0 0]))) := Hd (fun row => HE.out ▸ ReG.nil rfl (wide_lt (by omega) (by omega)) (wide_lt (by omega) (by omega)) ⟨tb, tv, lb, lv, sb, O, B, BL, HX3.out.keep (oR row) (fun k hk hm => by simp at hm; subst hm; exact hRn.out hk), rfl⟩ (HO3.out.of0.trans (oR row) (fun x hx => by simp at hx; subst hx; exact .inr hwR)) (fun x hx => .inl hx))
  have HRF := Hd HR3.out
  have hst := HRF.out
  have hone : (#[.int .i64 1, .int .i64 0, .slice none 0 0] : Array Value).all (·.oneCell') = true := by simp [Value.oneCell']
  clear oR
  go_wp2_with (refine wpList_store_row rfl 34 _ _ rfl R #[.int .i64 1, .int .i64 0, .slice none 0 0] rfl rfl 34 _ hst (by kernel_rfl) rfl hone ?_)
  (try simp only [Exit.inBlock, Exit.then])
  refine bodyPost_ret (v := .agg #[.int .i64 1, .int .i64 0, .slice none 0 0]) ?_ rfl (HFIN.out _)
  exact results_row Tryz.results36 _ _ R 34 [.int .i64 1, .int .i64 0, .slice none 0 0] _ rfl (Cells.setRow HRF.out [.int .i64 1, .int .i64 0, .slice none 0 0]) Tryz.underlying34 rfl (by kernel_rfl)
 | true =>
 obtain ⟨c0, c1, c2, c3, c4, c5, c6, c7, c8, c9, c10⟩ := cm_cells HCZ3.out
 have CC := Hd (HCC.out w3)
 have HB := Hd hb
 clear hb HCC HE1e
 go_wp2_with fail
 refine CC.out.mono ?_
 rintro e w4 ⟨rfl, ho4⟩
 have HX4 := Hd (HX3.out.keep ho4 (by simp))
 have HO4 := Hd (HO3.out.tr ho4)
 have HR4 := Hd (HR3.out.only ho4 (by simp))
 have HCZ4 := Hd (HCZ3.out.only ho4 (by simp))
 clear c0 c1 c2 c3 c4 c5 c6 c7 c8 c9 c10 ho4 CC HX3 HO3 HR3 HCZ3
 cases hcl : clB c.kd with
 | false =>
  have HE := Hd (HEo.out HB.out hcl)
  obtain ⟨c0, c1, c2, c3, c4, c5, c6, c7, c8, c9, c10⟩ := cm_cells HCZ4.out
  have CX := Hd (HOT.out w4 ⟨tb, tv, lb, lv, sb, O, B, BL, HX4.out, rfl⟩ (HSL.out.only HO4.out.of0))
  rw [← HE.out] at CX
  clear hcl HE HEo HE3e HE2e HEae HE0e HONE HOT HSL
  go_wp2_with fail
  refine CX.out.mono ?_
  rintro e w5 ⟨pv, K', rfl, hp5, hn5, hA5, ho5, hN5⟩
  obtain ⟨r, hr⟩ : ∃ r, (doA a c).1 = r := ⟨_, rfl⟩
  rw [hr] at hp5 hn5 ⊢
  obtain ⟨PA, pc, rfl⟩ := hp5.ps.shape
  have hR5 := HR4.out.only ho5 hRn.out
  have hRs := HR4.out.lt
  have hRK : R ∉ K' := fun hm => by
   rcases hN5 R hm with e | e
   · exact hRn.out e
   · omega
  have oR : ∀ row, Only [R] w5 (w5.setRow R row) := fun row => oz.setRow (.inl (by simp)) _
  have hws := HO4.out.size
  have hpF : ∀ row, RpAt (w5.setRow R row) (.slice PA r.ps.length pc) r := fun row => by
   refine ⟨?_, hp5.er, hp5.n, hp5.sm, hp5.len⟩
   by_cases h0 : 0 < r.ps.length
   · exact (hp5.ps.past (oR row) (Nat.le_refl _) (fun g hg hm => by simp at hm; have := (hn5 h0 g hg).1; omega)).more (oR row).size
   · obtain ⟨z1, z2, z3, z4, z5, z6, z7⟩ := hp5.ps
     exact ⟨z1, z2, z3, z4, z5, z6, fun hh => by omega⟩
  have HFIN : Hid (∀ row, ReG w (w5.setRow R row) p (allG p tb tv lb lv O) (doA a c).1 (doA a c).2 (.returned (.agg #[.int .i64 r.er, .int .i64 r.n, .slice PA r.ps.length pc]))) := Hd (fun row => by
   rw [hr]
   exact ⟨.slice PA r.ps.length pc, K', rfl, hpF row, fun h0 g hg => ⟨by have := (hn5 h0 g hg).1; omega, (hn5 h0 g hg).2⟩, hA5.keep (oR row) (fun k hk hm => by simp at hm; subst hm; exact hRK hk), (HO4.out.of0.trans ho5 (fun x hx => .inl hx)).trans (oR row) (fun x hx => by simp at hx; subst hx; exact .inr hwR), fun x hx => (hN5 x hx).imp id (fun h => by omega)⟩)
  have HRF := Hd hR5
  have hst := HRF.out
  have hone : (#[.int .i64 r.er, .int .i64 r.n, .slice PA r.ps.length pc] : Array Value).all (·.oneCell') = true := by simp [Value.oneCell']
  clear hp5 hn5 hA5 ho5 hN5 hR5 hRs hRK oR hws hpF CX hr c0 c1 c2 c3 c4 c5 c6 c7 c8 c9 c10
  go_wp2_with (refine wpList_store_row rfl 34 _ _ rfl R #[.int .i64 r.er, .int .i64 r.n, .slice PA r.ps.length pc] rfl rfl 34 _ hst (by kernel_rfl) rfl hone ?_)
  (try simp only [Exit.inBlock, Exit.then])
  refine bodyPost_ret (v := .agg #[.int .i64 r.er, .int .i64 r.n, .slice PA r.ps.length pc]) ?_ rfl (HFIN.out _)
  exact results_row Tryz.results36 _ _ R 34 [.int .i64 r.er, .int .i64 r.n, .slice PA r.ps.length pc] _ rfl (Cells.setRow HRF.out [.int .i64 r.er, .int .i64 r.n, .slice PA r.ps.length pc]) Tryz.underlying34 rfl (by kernel_rfl)
 | true =>
 have HE3 := Hd (HE3e.out HB.out hcl)
 have HE2 := Hd (HE2e.out HB.out hcl)
 have HE1 := Hd (HEae.out HB.out hcl)
 have HE0 := Hd (HE0e.out HB.out hcl)
 have hkind := HKIND.out
 have CA := Hd (fun v : Since w4 => CA0.out v.w (HX4.out.keep v.2 (by simp)).t)
 obtain ⟨c0, c1, c2, c3, c4, c5, c6, c7, c8, c9, c10⟩ := cm_cells HCZ4.out
 have p1 := HX4.out.cells.cell (k := 0) rfl
 have v1 := fun u : Since w4 => u.cell p1
 have u1 := fun u : Since w4 => u.cell c1
 have u2 := fun u : Since w4 => u.cell c2
 clear hcl HE3e HE2e HEae HE0e HEo HOT HSL CA0 c0 c1 c2 c3 c4 c5 c6 c7 c8 c9 c10 p1 HKIND
 go_upto_region 7 with fail
 refine wp_region_only w4 oz (by kernel_rfl) (by kernel_rfl) ?_
 repeat (go_big_quiet_step ((go_at_call 89; refine Calls.only (CA.out _))))
 refine wpQuiet_nil ?_
 rintro ⟨w3, ho3⟩
 dsimp only
 have HX3 := Hd (HX4.out.keep ho3 (by simp))
 have HO3 := Hd (HO4.out.tr ho3)
 have HR3 := Hd (HR4.out.only ho3 (by simp))
 have HCZ3 := Hd (HCZ4.out.only ho3 (by simp))
 clear ho3 v1 u1 u2 CA HX4 HO4 HR4 HCZ4
 have hq4 : q = 3 ∨ q = 2 ∨ q = 1 ∨ q = 0 := by omega
 clear hkind
 rcases hq4 with rfl | rfl | rfl | rfl
 · have HE := Hd (HE3.out rfl)
   clear HCZ3 hzn
   have oR : ∀ row, Only [R] w3 (w3.setRow R row) := fun row => oz.setRow (.inl (by simp)) _
   have HFIN : Hid (∀ row, ReG w (w3.setRow R row) p (allG p tb tv lb lv O) (doA a c).1 (doA a c).2 (.returned (.agg #[.int .i64 17, .int .i64 0, .slice none 0 0]))) := Hd (fun row => HE.out ▸ ReG.nil rfl (wide_lt (by omega) (by omega)) (wide_lt (by omega) (by omega)) ⟨tb, tv, lb, lv, sb, O, B, BL, HX3.out.keep (oR row) (fun k hk hm => by simp at hm; subst hm; exact hRn.out hk), rfl⟩ (HO3.out.of0.trans (oR row) (fun x hx => by simp at hx; subst hx; exact .inr hwR)) (fun x hx => .inl hx))
   have HRF := Hd HR3.out
   have hst := HRF.out
   have hone : (#[.int .i64 17, .int .i64 0, .slice none 0 0] : Array Value).all (·.oneCell') = true := by simp [Value.oneCell']
   clear oR HK1
   go_wp2_with (refine wpList_store_row rfl 34 _ _ rfl R #[.int .i64 17, .int .i64 0, .slice none 0 0] rfl rfl 34 _ hst (by kernel_rfl) rfl hone ?_)
   (try simp only [Exit.inBlock, Exit.then])
   refine bodyPost_ret (v := .agg #[.int .i64 17, .int .i64 0, .slice none 0 0]) ?_ rfl (HFIN.out _)
   exact results_row Tryz.results36 _ _ R 34 [.int .i64 17, .int .i64 0, .slice none 0 0] _ rfl (Cells.setRow HRF.out [.int .i64 17, .int .i64 0, .slice none 0 0]) Tryz.underlying34 rfl (by kernel_rfl)
 · have HE := Hd (HE2.out rfl)
   clear HCZ3 hzn
   have oR : ∀ row, Only [R] w3 (w3.setRow R row) := fun row => oz.setRow (.inl (by simp)) _
   have HFIN : Hid (∀ row, ReG w (w3.setRow R row) p (allG p tb tv lb lv O) (doA a c).1 (doA a c).2 (.returned (.agg #[.int .i64 18, .int .i64 0, .slice none 0 0]))) := Hd (fun row => HE.out ▸ ReG.nil rfl (wide_lt (by omega) (by omega)) (wide_lt (by omega) (by omega)) ⟨tb, tv, lb, lv, sb, O, B, BL, HX3.out.keep (oR row) (fun k hk hm => by simp at hm; subst hm; exact hRn.out hk), rfl⟩ (HO3.out.of0.trans (oR row) (fun x hx => by simp at hx; subst hx; exact .inr hwR)) (fun x hx => .inl hx))
   have HRF := Hd HR3.out
   have hst := HRF.out
   have hone : (#[.int .i64 18, .int .i64 0, .slice none 0 0] : Array Value).all (·.oneCell') = true := by simp [Value.oneCell']
   clear oR HK1
   go_wp2_with (refine wpList_store_row rfl 34 _ _ rfl R #[.int .i64 18, .int .i64 0, .slice none 0 0] rfl rfl 34 _ hst (by kernel_rfl) rfl hone ?_)
   (try simp only [Exit.inBlock, Exit.then])
   refine bodyPost_ret (v := .agg #[.int .i64 18, .int .i64 0, .slice none 0 0]) ?_ rfl (HFIN.out _)
   exact results_row Tryz.results36 _ _ R 34 [.int .i64 18, .int .i64 0, .slice none 0 0] _ rfl (Cells.setRow HRF.out [.int .i64 18, .int .i64 0, .slice none 0 0]) Tryz.underlying34 rfl (by kernel_rfl)
 · have hE := HE1.out rfl
   obtain ⟨r, hr, rfl⟩ := HK1.out rfl
   rw [keptR_of hr] at hE
   have HE := Hd hE
   clear hE
   have CT := Hd (kept_readG hr w3)
   unfold Rp.val at CT
   clear HK1 hr HCZ3 hzn
   go_wp2_with fail
   refine CT.out.mono ?_
   rintro e w4 ⟨pv, rfl, hp4, ho4, hn4⟩
   obtain ⟨PA, pc, rfl⟩ := hp4.ps.shape
   obtain ⟨w5, hw5⟩ : ∃ u, w4.alloc (.cells #[.int .i64 0, .int .i64 0, .slice none 0 0] 34) = u := ⟨_, rfl⟩
   have hst5 : Cells (w4.alloc (.cells #[.int .i64 0, .int .i64 0, .slice none 0 0] 34)) w4.heap.size 34 [.int .i64 0, .int .i64 0, .slice none 0 0] := Cells.new w4 _ _
   have o45 : Only [] w4 (w4.alloc (.cells #[.int .i64 0, .int .i64 0, .slice none 0 0] 34)) := oz.alloc _
   have hR4 := HR3.out.only ho4 (by simp)
   have hRQ : R ≠ w4.heap.size := fun e => by have := hR4.lt; omega
   have hR3s := HR3.out.lt
   rw [hw5] at hst5 o45
   have o46 : Only [] w4 (w5.setRow w4.heap.size #[.int .i64 r.er, .int .i64 r.n, .slice PA r.ps.length pc]) := o45.trans ((Only.refl [w4.heap.size] _).setRow (.inl (by simp)) _) (fun x hx => by simp at hx; subst hx; exact .inr (Nat.le_refl _))
   have hld6 : Cells (w5.setRow w4.heap.size #[.int .i64 r.er, .int .i64 r.n, .slice PA r.ps.length pc]) w4.heap.size 34 [.int .i64 r.er, .int .i64 r.n, .slice PA r.ps.length pc] := hst5.setRow [.int .i64 r.er, .int .i64 r.n, .slice PA r.ps.length pc]
   have hst6 : Cells (w5.setRow w4.heap.size #[.int .i64 r.er, .int .i64 r.n, .slice PA r.ps.length pc]) R 34 [.int .i64 0, .int .i64 0, .slice none 0 0] := hR4.only o46 (by simp)
   have hp6 : RpAt (w5.setRow w4.heap.size #[.int .i64 r.er, .int .i64 r.n, .slice PA r.ps.length pc]) (.slice PA r.ps.length pc) r := hp4.only o46
   have hX6 := HX3.out.keep (ho4.tr o46) (by simp)
   have hO6 := HO3.out.tr (ho4.tr o46)
   obtain ⟨w6, hw6⟩ : ∃ u, w5.setRow w4.heap.size #[.int .i64 r.er, .int .i64 r.n, .slice PA r.ps.length pc] = u := ⟨_, rfl⟩
   rw [hw6] at hld6 hst6 hp6 hX6 hO6
   have oR : ∀ row, Only [R] w6 (w6.setRow R row) := fun row => oz.setRow (.inl (by simp)) _
   have hgR : ∀ g, (Value.slice PA r.ps.length pc).ownBlock = some g → w.heap.size ≤ g ∧ w3.heap.size ≤ g := fun g hg => ⟨by have := hn4 g hg; have := HO3.out.size; omega, hn4 g hg⟩
   have HFIN : Hid (∀ row, ReG w (w6.setRow R row) p (allG p tb tv lb lv O) (doA a c).1 (doA a c).2 (.returned (.agg #[.int .i64 r.er, .int .i64 r.n, .slice PA r.ps.length pc]))) := Hd (fun row => HE.out ▸ ⟨.slice PA r.ps.length pc, _, rfl, hp6.past (oR row) (fun g hg hm => by simp at hm; subst hm; have := (hgR _ hg).2; omega), fun _ g hg => ⟨(hgR g hg).1, fun hm => by have := (hgR g hg).2; have := HX3.out.lts g hm; omega⟩, ⟨tb, tv, lb, lv, sb, O, B, BL, hX6.keep (oR row) (fun k hk hm => by simp at hm; subst hm; exact hRn.out hk), rfl⟩, hO6.of0.trans (oR row) (fun x hx => by simp at hx; subst hx; exact .inr hwR), fun x hx => .inl hx⟩)
   have HRF := Hd hst6
   have hone : (#[.int .i64 r.er, .int .i64 r.n, .slice PA r.ps.length pc] : Array Value).all (·.oneCell') = true := by simp [Value.oneCell']
   clear hp4 ho4 hn4 o45 hR4 hRQ hR3s o46 hp6 hX6 hO6 oR hgR CT
   go_wp2_with (first
    | ((try rw [hw5]); refine wpList_store_row rfl 34 _ _ rfl w4.heap.size #[.int .i64 r.er, .int .i64 r.n, .slice PA r.ps.length pc] rfl rfl 34 _ hst5 (by kernel_rfl) rfl hone ?_; (try rw [hw6]))
    | refine wpList_load_row rfl 34 _ rfl w4.heap.size rfl 34 #[.int .i64 r.er, .int .i64 r.n, .slice PA r.ps.length pc] (0, 0) _ hld6 Tryz.underlying34 rfl (by kernel_rfl) ?_
    | refine wpList_store_row rfl 34 _ _ rfl R #[.int .i64 r.er, .int .i64 r.n, .slice PA r.ps.length pc] rfl rfl 34 _ hst6 (by kernel_rfl) rfl hone ?_)
   (try simp only [Exit.inBlock, Exit.then])
   refine bodyPost_ret (v := .agg #[.int .i64 r.er, .int .i64 r.n, .slice PA r.ps.length pc]) ?_ rfl (HFIN.out _)
   exact results_row Tryz.results36 _ _ R 34 [.int .i64 r.er, .int .i64 r.n, .slice PA r.ps.length pc] _ rfl (Cells.setRow HRF.out [.int .i64 r.er, .int .i64 r.n, .slice PA r.ps.length pc]) Tryz.underlying34 rfl (by kernel_rfl)
 · have hE := HE0.out rfl
   obtain ⟨r, hr⟩ : ∃ r, (cliA a.s c).1 = r := ⟨_, rfl⟩
   obtain ⟨s', hs'⟩ : ∃ s', (cliA a.s c).2 = s' := ⟨_, rfl⟩
   rw [hr] at hE HRK HONE
   rw [hs'] at hE HONE
   have HE := Hd hE
   clear hE hr hs' HE0 HE1 HE2 HE3 HK1
   obtain ⟨wc, hwc⟩ : ∃ u, u = w3 := ⟨w3, rfl⟩
   subst hwc
   have HXC := Hd HX3.out
   have HOC := Hd HO3.out
   have HRC := Hd HR3.out
   have HCZC := Hd HCZ3.out
   have CF := Hd (HONE.out wc ⟨tb, tv, lb, lv, sb, O, B, BL, HXC.out, rfl⟩)
   obtain ⟨c0, c1, c2, c3, c4, c5, c6, c7, c8, c9, c10⟩ := cm_cells HCZC.out
   clear HONE HX3 HO3 HR3 HCZ3
   go_wp2_with fail
   refine CF.out.mono ?_
   rintro e w4 ⟨pv, K', rfl, hp4, hn4, ⟨tb2, tv2, lb2, lv2, sb2, O2, B2, BL2, hX4, rfl⟩, ho4, hN4⟩
   obtain ⟨PA, pc, rfl⟩ := hp4.ps.shape
   clear c0 c1 c2 c3 c4 c5 c6 c7 c8 c9 c10 CF
   have hR4 := HRC.out.only ho4 hRn.out
   have hcz4 := HCZC.out.only ho4 hzn.out
   have hRsz := HRC.out.lt
   have hRn2 : R ∉ allG p tb2 tv2 lb2 lv2 O2 := fun hm => by
    rcases hN4 R hm with e | e
    · exact hRn.out e
    · omega
   obtain ⟨w5, hw5⟩ : ∃ u, w4.alloc (.cells #[.int .i64 0, .int .i64 0, .slice none 0 0] 34) = u := ⟨_, rfl⟩
   obtain ⟨Q, hQ⟩ : ∃ Q, w4.heap.size = Q := ⟨_, rfl⟩
   have hst5 : Cells w5 Q 34 [.int .i64 0, .int .i64 0, .slice none 0 0] := hw5 ▸ hQ ▸ Cells.new w4 _ _
   have o45 : Only [] w4 w5 := hw5 ▸ oz.alloc _
   have o46 : Only [] w4 (w5.setRow Q #[.int .i64 r.er, .int .i64 r.n, .slice PA r.ps.length pc]) := o45.trans ((Only.refl [Q] _).setRow (.inl (by simp)) _) (fun x hx => by simp at hx; subst hx; exact .inr (Nat.le_of_eq hQ))
   have hld6 : Cells (w5.setRow Q #[.int .i64 r.er, .int .i64 r.n, .slice PA r.ps.length pc]) Q 34 [.int .i64 r.er, .int .i64 r.n, .slice PA r.ps.length pc] := hst5.setRow [.int .i64 r.er, .int .i64 r.n, .slice PA r.ps.length pc]
   obtain ⟨w6, hw6⟩ : ∃ u, w5.setRow Q #[.int .i64 r.er, .int .i64 r.n, .slice PA r.ps.length pc] = u := ⟨_, rfl⟩
   rw [hw6] at hld6 o46
   have hX6 := hX4.keep o46 (by simp)
   have hQn : Q ∉ allG p tb2 tv2 lb2 lv2 O2 := fun hm => by have := hX4.lts Q hm; omega
   have hone : (#[.int .i64 r.er, .int .i64 r.n, .slice PA r.ps.length pc] : Array Value).all (·.oneCell') = true := by simp [Value.oneCell']
   have HR6 := Hd (hR4.only o46 (by simp))
   have HCZ6 := Hd (hcz4.only o46 (by simp))
   have HQ6 := Hd hld6
   have HP6 := Hd (hp4.only o46)
   have HX6 := Hd hX6
   have HO6 := Hd ((HOC.out.of0.trans ho4 (fun x hx => .inl hx)).trans o46 (fun x hx => by cases hx))
   have HN4 := Hd hN4
   have HRN2 := Hd hRn2
   have HQN := Hd hQn
   have HGE : Hid (0 < r.ps.length → ∀ g, (Value.slice PA r.ps.length pc).ownBlock = some g → wc.heap.size ≤ g ∧ g ∉ allG p tb2 tv2 lb2 lv2 O2) := Hd hn4
   have HS4 : Hid (wc.heap.size ≤ w4.heap.size ∧ w4.heap.size ≤ w6.heap.size ∧ w.heap.size ≤ wc.heap.size ∧ R < wc.heap.size) := Hd ⟨ho4.size, o46.size, HOC.out.size, hRsz⟩
   clear hp4 hn4 hX4 ho4 hN4 hR4 hcz4 hRsz hRn2 o45 o46 hX6 hQn HXC HOC HRC HCZC
   go_wp2_with (first
    | ((try rw [hw5]); (try rw [hQ]); refine wpList_store_row rfl 34 _ _ rfl Q #[.int .i64 r.er, .int .i64 r.n, .slice PA r.ps.length pc] rfl rfl 34 _ hst5 (by kernel_rfl) rfl hone ?_; (try rw [hw6])))
   clear hw5 hQ hst5 hw6
   (try simp only [Act.put])
   obtain ⟨c0, c1, c2, c3, c4, c5, c6, c7, c8, c9, c10⟩ := cm_cells HCZ6.out
   have p0 := HX6.out.cells.cell (k := 0) rfl
   have q0 := HQ6.out.cell (k := 0) rfl
   have q1 := HQ6.out.cell (k := 1) rfl
   have q2 := HQ6.out.cell (k := 2) rfl
   have hpl6 := HX6.out.cells.lt
   have hQl6 := HQ6.out.lt
   have v0 := fun u : Since w6 => u.cell p0
   have u1 := fun u : Since w6 => u.cell c1
   have u2 := fun u : Since w6 => u.cell c2
   have y0 := fun u : Since w6 => u.cell q0
   have y1 := fun u : Since w6 => u.cell q1
   have y2 := fun u : Since w6 => u.cell q2
   have CW : Hid (∀ u : Since w6, Calls Tryz.prog 56 #[.agg #[.int .i64 r.er, .int .i64 r.n, .slice PA r.ps.length pc]] u.w fun e w' => e = .returned (.string ⟨(rpb r).toArray⟩) ∧ Only [] u.w w') := Hd (fun u => ref18_answer r (.slice PA r.ps.length pc) u.w (HP6.out.only u.2))
   clear c0 c1 c2 c3 c4 c5 c6 c7 c8 c9 c10 p0 q0 q1 q2
   refine wp_region_only_tail w6 oz 10 (by kernel_rfl) (by kernel_rfl) ?_
   simp only [tk1, tk0, dr1, dr0]
   repeat (go_big_quiet_step ((go_at_call 56; refine Calls.only (CW.out _))))
   refine wpQuiet_nil ?_
   rintro ⟨w7, ho7⟩
   dsimp only
   have HX7 := Hd (HX6.out.keep ho7 (by simp))
   have HO7 := Hd (HO6.out.trans ho7 (fun x hx => by cases hx))
   have HR7 := Hd (HR6.out.only ho7 (by simp))
   have HQ7 := Hd (HQ6.out.only ho7 (by simp))
   have HP7 := Hd (HP6.out.only ho7)
   have HS7 : Hid (w6.heap.size ≤ w7.heap.size) := Hd ho7.size
   have CD := Hd (S15.rt_done B2 tb2 tv2 a.t.l a.t.ever c.ss c.sq ⟨(rpb r).toArray⟩ w7 HX7.out.t HLEN.out HPOS.out)
   clear ho7 v0 u1 u2 y0 y1 y2 CW HX6 HO6 HR6 HCZ6 HQ6 HP6 hpl6 hQl6
   go_wp2_with fail
   refine CD.out.mono ?_
   rintro e w8 ⟨rfl, tv3, ht8, ho8, hn8⟩
   obtain ⟨hX8, hO8, hN8⟩ := HX7.out.tdo (t' := ⟨S15.doneL a.t.l c.ss c.sq ⟨(rpb r).toArray⟩, a.t.ever⟩) ht8 ho8 hn8
   have hst8 := HR7.out.only hO8 HRN2.out
   have hld8 := HQ7.out.only hO8 HQN.out
   have hp8 : RpAt w8 (.slice PA r.ps.length pc) r := by
    refine ⟨?_, HP7.out.er, HP7.out.n, HP7.out.sm, HP7.out.len⟩
    by_cases h0 : 0 < r.ps.length
    · exact (HP7.out.ps.past hO8 (Nat.le_refl _) (fun g hg => (HGE.out h0 g hg).2)).more hO8.size
    · obtain ⟨z1, z2, z3, z4, z5, z6, z7⟩ := HP7.out.ps
      exact ⟨z1, z2, z3, z4, z5, z6, fun hh => by omega⟩
   have oR : ∀ row, Only [R] w8 (w8.setRow R row) := fun row => oz.setRow (.inl (by simp)) _
   have hRn8 : R ∉ allG p tb2 tv3 lb2 lv2 O2 := fun hm => by
    rcases hN8 R hm with e | e
    · exact HRN2.out e
    · have := HR7.out.lt; omega
   have hgR : 0 < r.ps.length → ∀ g, (Value.slice PA r.ps.length pc).ownBlock = some g → w.heap.size ≤ g ∧ g ≠ R ∧ g < w7.heap.size := fun h0 g hg => by
    obtain ⟨h1, h2, h3, h4⟩ := HS4.out
    have hg1 := (HGE.out h0 g hg).1
    refine ⟨by omega, by omega, ?_⟩
    obtain ⟨bb, oo, cc, e, hb, _⟩ := HP7.out.ps.at_ (by omega)
    injection e with e1
    subst e1
    simp [Value.ownBlock] at hg
    omega
   have hpF : ∀ row, RpAt (w8.setRow R row) (.slice PA r.ps.length pc) r := fun row => by
    refine ⟨?_, hp8.er, hp8.n, hp8.sm, hp8.len⟩
    by_cases h0 : 0 < r.ps.length
    · exact (hp8.ps.past (oR row) (Nat.le_refl _) (fun g hg hm => by simp at hm; exact (hgR h0 g hg).2.1 hm)).more (oR row).size
    · obtain ⟨z1, z2, z3, z4, z5, z6, z7⟩ := hp8.ps
      exact ⟨z1, z2, z3, z4, z5, z6, fun hh => by omega⟩
   have HFIN : Hid (∀ row, ReG w (w8.setRow R row) p (allG p tb tv lb lv O) (doA a c).1 (doA a c).2 (.returned (.agg #[.int .i64 r.er, .int .i64 r.n, .slice PA r.ps.length pc]))) := Hd (fun row => by
    rw [HE.out]
    refine ⟨.slice PA r.ps.length pc, _, rfl, hpF row, fun h0 g hg => ⟨(hgR h0 g hg).1, fun hm => ?_⟩, ⟨tb2, tv3, lb2, lv2, sb2, O2, B2, BL2, hX8.keep (oR row) (fun k hk hm => by simp at hm; subst hm; exact hRn8 hk), rfl⟩, ?_, fun x hx => ?_⟩
    · rcases hN8 g hm with e | e
      · exact (HGE.out h0 g hg).2 e
      · have := (hgR h0 g hg).2.2; omega
    · refine (HO7.out.trans hO8 (fun x hx => ?_)).trans (oR row) (fun x hx => by simp at hx; subst hx; exact .inr hwR)
      rcases HN4.out x hx with e | e
      · exact .inl e
      · exact .inr (by have := HS4.out; omega)
    · rcases hN8 x hx with e | e
      · rcases HN4.out x e with e | e
        · exact .inl e
        · exact .inr (by have := HS4.out; omega)
      · exact .inr (by have := HS4.out; have := HS7.out; omega))
   have HRF := Hd hst8
   clear ht8 ho8 hn8 hX8 hO8 hN8 hp8 oR hRn8 hgR hpF CD
   go_wp2_with (first
    | refine wpList_load_row rfl 34 _ rfl Q rfl 34 #[.int .i64 r.er, .int .i64 r.n, .slice PA r.ps.length pc] (0, 0) _ hld8 Tryz.underlying34 rfl (by kernel_rfl) ?_
    | refine wpList_store_row rfl 34 _ _ rfl R #[.int .i64 r.er, .int .i64 r.n, .slice PA r.ps.length pc] rfl rfl 34 _ hst8 (by kernel_rfl) rfl hone ?_)
   (try simp only [Exit.inBlock, Exit.then])
   refine bodyPost_ret (v := .agg #[.int .i64 r.er, .int .i64 r.n, .slice PA r.ps.length pc]) ?_ rfl (HFIN.out _)
   exact results_row Tryz.results36 _ _ R 34 [.int .i64 r.er, .int .i64 r.n, .slice PA r.ps.length pc] _ rfl (Cells.setRow HRF.out [.int .i64 r.er, .int .i64 r.n, .slice PA r.ps.length pc]) Tryz.underlying34 rfl (by kernel_rfl)
def rdTt (s : List UInt8) : List UInt8 × List UInt8 × Bool := match rdT s with
 | some (a, r) => (a, r, true)
 | none => ([], [], false)
theorem rdTV_t (s : List UInt8) : rdTV (rdT s) = .tuple #[.string ⟨(rdTt s).1.toArray⟩, .string ⟨(rdTt s).2.1.toArray⟩, .bool (rdTt s).2.2] := by
 unfold rdTt
 cases rdT s with
 | none => rfl
 | some p => rfl
def unAg (s : List UInt8) : Option AgS :=
 if (rdTt s).2.2 = true ∧ (rdTt (rdTt s).2.1).2.2 = true ∧ (rdTt (rdTt (rdTt s).2.1).2.1).2.2 = true ∧ (rdTt (rdTt (rdTt s).2.1).2.1).2.1 = [] then
  (match S15.unS (rdTt s).1, L16.unT (rdTt (rdTt s).2.1).1, unSt (rdTt (rdTt (rdTt s).2.1).2.1).1 with
   | some p, some q, some r => some ⟨p, q, r⟩
   | _, _, _ => none)
 else none
theorem rdTt_le (s : List UInt8) : (rdTt s).1.length ≤ s.length ∧ (rdTt s).2.1.length ≤ s.length := by
 unfold rdTt
 cases h : rdT s with
 | none => simp
 | some p =>
  obtain ⟨a, r⟩ := p
  have := S15.rdT_len h
  dsimp only
  omega
theorem agB_parts (a : AgS) : agB a = tb (S15.packL a.t.l a.t.ever) ++ (tb a.d.bytes ++ (tb (stB a.s) ++ [])) := by
 unfold agB tsb
 simp
def UnG (w w' : World) (s : List UInt8) (e : Ending) : Prop := Only [] w w' ∧ match unAg s with
 | none => e = .returned (.tuple #[.pointer none, .bool false])
 | some a => ∃ p K, e = .returned (.tuple #[.pointer (some ⟨p, 0, none⟩), .bool true]) ∧ AgAt w' p K a ∧ ∀ x ∈ K, w.heap.size ≤ x
theorem ag_load (s : List UInt8) (w : World) (hl : s.length ≤ 100000000) :
 Calls Tryz.prog 40 #[.string ⟨s.toArray⟩] w fun e w' => UnG w w' s e := by
 have l1 := rdTt_le s
 have l2 := rdTt_le (rdTt s).2.1
 have l3 := rdTt_le (rdTt (rdTt s).2.1).2.1
 have C1 := Hd (codec_toText s w (by omega))
 have C2 := Hd (fun w' => codec_toText (rdTt s).2.1 w' (by omega))
 have C3 := Hd (fun w' => codec_toText (rdTt (rdTt s).2.1).2.1 w' (by omega))
 have C4 := Hd (fun w' => S15.ses_unpack (rdTt s).1 w' (by omega))
 have C5 := Hd (fun w' => L16.lease_unpack (rdTt (rdTt s).2.1).1 w' (by omega))
 have C6 := Hd (fun w' => store_unpack (rdTt (rdTt (rdTt s).2.1).2.1).1 (by omega) w')
 have hE : unAg s = if (rdTt s).2.2 = true ∧ (rdTt (rdTt s).2.1).2.2 = true ∧ (rdTt (rdTt (rdTt s).2.1).2.1).2.2 = true ∧ (rdTt (rdTt (rdTt s).2.1).2.1).2.1 = [] then
  (match S15.unS (rdTt s).1, L16.unT (rdTt (rdTt s).2.1).1, unSt (rdTt (rdTt (rdTt s).2.1).2.1).1 with
   | some p, some q, some r => some ⟨p, q, r⟩
   | _, _, _ => none)
  else none := rfl
 rw [rdTV_t] at C1
 simp only [rdTV_t] at C2 C3
 obtain ⟨⟨x, s1, o1⟩, h1⟩ : ∃ u, rdTt s = u := ⟨_, rfl⟩
 rw [h1] at C1 C2 C3 C4 C5 C6 hE
 dsimp only at C1 C2 C3 C4 C5 C6 hE
 obtain ⟨⟨y, s2, o2⟩, h2⟩ : ∃ u, rdTt s1 = u := ⟨_, rfl⟩
 rw [h2] at C2 C3 C5 C6 hE
 dsimp only at C2 C3 C5 C6 hE
 obtain ⟨⟨z, s3, o3⟩, h3⟩ : ∃ u, rdTt s2 = u := ⟨_, rfl⟩
 rw [h3] at C3 C6 hE
 dsimp only at C3 C6 hE
 have HE := Hd hE
 clear h1 h2 h3 hE l1 l2 l3 hl
 go_enter Tryz.func40, Tryz.ntmps40
 go_wp2_with fail
 refine C1.out.mono ?_
 rintro e w1 ⟨rfl, ho1⟩
 have HO1 := Hd ho1
 clear ho1 C1
 go_wp2_with fail
 refine (C2.out _).mono ?_
 rintro e w2 ⟨rfl, ho2⟩
 have HO2 := Hd (HO1.out.tr ho2)
 clear ho2 C2 HO1
 go_wp2_with fail
 refine (C3.out _).mono ?_
 rintro e w3 ⟨rfl, ho3⟩
 have HO3 := Hd (HO2.out.tr ho3)
 clear ho3 C3 HO2
 go_wp2_with fail
 refine (C4.out _).mono ?_
 rintro e w4 ⟨ho4, h4⟩
 obtain ⟨q4, f4, rfl, hf4, ht4⟩ : ∃ (q4 : Value) (f4 : Bool), e = .returned (.tuple #[q4, .bool f4]) ∧ (f4 = false → S15.unS x = none) ∧ (f4 = true → ∃ (t : S15.TS) (b : Nat) (v : Value), S15.unS x = some t ∧ q4 = .pointer (some ⟨b, 0, none⟩) ∧ S15.TbV w4 w3.heap.size b v t.l t.ever) := by
  rcases h4 with ⟨h, rfl⟩ | ⟨t, b, v, h, rfl, ht⟩
  · exact ⟨_, _, rfl, fun _ => h, fun h => by cases h⟩
  · exact ⟨_, _, rfl, fun h => (by cases h), fun _ => ⟨t, b, v, h, rfl, ht⟩⟩
 have HO4 := Hd (HO3.out.tr ho4)
 have F4 := Hd hf4
 have T4 := Hd ht4
 have S4 := Hd ho4.size
 clear ho4 h4 hf4 ht4 C4
 go_wp2_with fail
 refine (C5.out _).mono ?_
 rintro e w5 ⟨ho5, h5⟩
 obtain ⟨q5, f5, rfl, hf5, ht5⟩ : ∃ (q5 : Value) (f5 : Bool), e = .returned (.tuple #[q5, .bool f5]) ∧ (f5 = false → L16.unT y = none) ∧ (f5 = true → ∃ (t : L16.Tb) (b : Nat), L16.unT y = some t ∧ q5 = .pointer (some ⟨b, 0, none⟩) ∧ L16.TbC w5 w4.heap.size b t) := by
  rcases h5 with ⟨h, rfl⟩ | ⟨t, b, h, rfl, ht⟩
  · exact ⟨_, _, rfl, fun _ => h, fun h => by cases h⟩
  · exact ⟨_, _, rfl, fun h => (by cases h), fun _ => ⟨t, b, h, rfl, ht⟩⟩
 have HO5 := Hd (HO4.out.tr ho5)
 have F5 := Hd hf5
 have T5 := Hd ht5
 have O5 := Hd ho5
 clear ho5 h5 hf5 ht5 C5
 go_wp2_with fail
 refine (C6.out _).mono ?_
 rintro e w6 ⟨ho6, h6⟩
 obtain ⟨q6, f6, rfl, hf6, ht6⟩ : ∃ (q6 : Value) (f6 : Bool), e = .returned (.tuple #[q6, .bool f6]) ∧ (f6 = false → unSt z = none) ∧ (f6 = true → ∃ (S : Sv) (b : Nat) (O : List Nat), unSt z = some S ∧ q6 = .pointer (some ⟨b, 0, none⟩) ∧ St w6 b O S ∧ ∀ x ∈ O, w5.heap.size ≤ x) := by
  cases hu : unSt z with
  | none =>
   rw [hu] at h6
   exact ⟨_, _, h6, fun _ => rfl, fun h => by cases h⟩
  | some S =>
   rw [hu] at h6
   obtain ⟨b, O, he, hs, hn⟩ := h6
   exact ⟨_, _, he, fun h => (by cases h), fun _ => ⟨S, b, O, rfl, rfl, hs, hn⟩⟩
 have HO6 := Hd (HO5.out.tr ho6)
 have F6 := Hd hf6
 have T6 := Hd ht6
 have O6 := Hd ho6
 clear ho6 h6 hf6 ht6 C6
 have HBAD : Hid (unAg s = none → UnG w w6 s (.returned (.tuple #[.pointer none, .bool false]))) := Hd (fun h => by
  refine ⟨HO6.out, ?_⟩
  rw [h])
 cases o1 with
 | false =>
  have HB := Hd (HBAD.out (by rw [HE.out, if_neg (by simp)]))
  clear HBAD HE F4 F5 F6 T4 T5 T6
  go_wp2_with fail
  go_ret2
  exact HB.out
 | true =>
 cases o2 with
 | false =>
  have HB := Hd (HBAD.out (by rw [HE.out, if_neg (by simp)]))
  clear HBAD HE F4 F5 F6 T4 T5 T6
  go_wp2_with fail
  go_ret2
  exact HB.out
 | true =>
 cases o3 with
 | false =>
  have HB := Hd (HBAD.out (by rw [HE.out, if_neg (by simp)]))
  clear HBAD HE F4 F5 F6 T4 T5 T6
  go_wp2_with fail
  go_ret2
  exact HB.out
 | true =>
 cases f4 with
 | false =>
  have HB := Hd (HBAD.out (by rw [HE.out, F4.out rfl]; split <;> rfl))
  clear HBAD HE F4 F5 F6 T4 T5 T6
  go_wp2_with fail
  go_ret2
  exact HB.out
 | true =>
 obtain ⟨t4, b4, v4, u4, rfl, ht4⟩ := T4.out rfl
 cases f5 with
 | false =>
  have HB := Hd (HBAD.out (by rw [HE.out, F5.out rfl, u4]; split <;> rfl))
  clear HBAD HE F4 F5 F6 T4 T5 T6 u4 ht4
  go_wp2_with fail
  go_ret2
  exact HB.out
 | true =>
 obtain ⟨t5, b5, u5, rfl, ht5⟩ := T5.out rfl
 cases f6 with
 | false =>
  have HB := Hd (HBAD.out (by rw [HE.out, F6.out rfl, u4, u5]; split <;> rfl))
  clear HBAD HE F4 F5 F6 T4 T5 T6 u4 ht4 u5 ht5
  go_wp2_with fail
  go_ret2
  exact HB.out
 | true =>
 obtain ⟨t6, b6, OO, u6, rfl, ht6, hn6⟩ := T6.out rfl
 cases s3 with
 | cons c s3 =>
  have HB := Hd (HBAD.out (by rw [HE.out, if_neg (by simp)]))
  have hne : (⟨(c :: s3).toArray⟩ : ByteArray) ≠ ⟨#[]⟩ := fun h => by
   have := congrArg (fun b : ByteArray => b.data.toList) h
   simp at this
  have hnb : ((c :: s3) != ([] : List UInt8)) = true := by simp
  clear HBAD HE F4 F5 F6 T4 T5 T6 u4 ht4 u5 ht5 u6 ht6 hn6
  go_wp2_with fail
  go_ret2
  exact HB.out
 | nil =>
 have hun : unAg s = some ⟨t4, t5, t6⟩ := by rw [HE.out, if_pos ⟨rfl, rfl, rfl, rfl⟩, u4, u5, u6]
 have HF : Hid (∀ p, Cells (w6.alloc (.cells #[.pointer (some ⟨b4, 0, none⟩), .pointer (some ⟨b5, 0, none⟩), .pointer (some ⟨b6, 0, none⟩)] 109)) p 109 [.pointer (some ⟨b4, 0, none⟩), .pointer (some ⟨b5, 0, none⟩), .pointer (some ⟨b6, 0, none⟩)] → p = w6.heap.size → UnG w (w6.alloc (.cells #[.pointer (some ⟨b4, 0, none⟩), .pointer (some ⟨b5, 0, none⟩), .pointer (some ⟨b6, 0, none⟩)] 109)) s (.returned (.tuple #[.pointer (some ⟨p, 0, none⟩), .bool true]))) := Hd (fun p hp he => by
  have oA : Only [] w6 (w6.alloc (.cells #[.pointer (some ⟨b4, 0, none⟩), .pointer (some ⟨b5, 0, none⟩), .pointer (some ⟨b6, 0, none⟩)] 109)) := oz.alloc _
  have oB := O6.out.tr oA
  have oC := O5.out.tr oB
  have g3 := HO3.out.size
  have g4 := S4.out
  have g5 := O5.out.size
  have g6 := O6.out.size
  have hb6 := ht6.bw
  have k4 := ht4.2.1.lt
  have k5 := ht5.2.lt
  have r4 := S15.own_ge ht4
  refine ⟨HO6.out.tr oA, ?_⟩
  rw [hun]
  refine ⟨p, allA p b4 v4 b5 OO, rfl, ⟨b4, v4, b5, b6, OO, w3.heap.size, ⟨hp, ⟨ht4.1, ht4.2.1.only oC (by simp), own_keep ht4.2.2 oC (by simp)⟩, ht5.2.only oB (by simp), ht6.keep oA (by simp), ?_, ?_, ?_, ?_⟩, rfl⟩, ?_⟩
  · intro hm; have := hb6 p hm; omega
  · intro hm; have := hn6 b4 hm; omega
  · intro hm; have := hn6 b5 hm; omega
  · intro g hg hm
    have := hn6 g hm
    have := (ht4.2.2.lt g hg).2
    omega
  · intro x hx
    unfold allA at hx
    simp only [List.mem_cons, List.mem_append] at hx
    have := ht5.1
    rcases hx with rfl | rfl | rfl | hx | hx
    · omega
    · have := r4 _ (List.mem_cons_self); omega
    · omega
    · have := r4 x (List.mem_cons_of_mem _ hx); omega
    · have := hn6 x hx; omega)
 clear HBAD HE F4 F5 F6 T4 T5 T6 u4 ht4 u5 ht5 u6 ht6 hn6 hun S4 O5 O6 HO3 HO4 HO5
 go_wp2_with fail
 go_ret2
 exact HF.out _ (Cells.new w6 _ _) rfl
def UnGG (w w' : World) (s : List UInt8) (e : Ending) : Prop := Only [] w w' ∧ match unAg s with
 | none => e = .returned (.tuple #[.pointer none, .bool false])
 | some a => ∃ p K, e = .returned (.tuple #[.pointer (some ⟨p, 0, none⟩), .bool true]) ∧ RgAt w' p K a ∧ ∀ x ∈ K, w.heap.size ≤ x
theorem rg_load (s : List UInt8) (w : World) (hl : s.length ≤ 100000000) :
 Calls Tryz.prog 103 #[.string ⟨s.toArray⟩] w fun e w' => UnGG w w' s e := by
 have l1 := rdTt_le s
 have l2 := rdTt_le (rdTt s).2.1
 have l3 := rdTt_le (rdTt (rdTt s).2.1).2.1
 have C1 := Hd (ref_toText s w (by omega))
 have C2 := Hd (fun w' => ref_toText (rdTt s).2.1 w' (by omega))
 have C3 := Hd (fun w' => ref_toText (rdTt (rdTt s).2.1).2.1 w' (by omega))
 have C4 := Hd (fun w' => S15.ref_unpack (rdTt s).1 w' (by omega))
 have C5 := Hd (fun w' => L16.ref_unpack (rdTt (rdTt s).2.1).1 w' (by omega))
 have C6 := Hd (fun w' => rs_unpack (rdTt (rdTt (rdTt s).2.1).2.1).1 (by omega) w')
 have hE : unAg s = if (rdTt s).2.2 = true ∧ (rdTt (rdTt s).2.1).2.2 = true ∧ (rdTt (rdTt (rdTt s).2.1).2.1).2.2 = true ∧ (rdTt (rdTt (rdTt s).2.1).2.1).2.1 = [] then
  (match S15.unS (rdTt s).1, L16.unT (rdTt (rdTt s).2.1).1, unSt (rdTt (rdTt (rdTt s).2.1).2.1).1 with
   | some p, some q, some r => some ⟨p, q, r⟩
   | _, _, _ => none)
  else none := rfl
 rw [rdTV_t] at C1
 simp only [rdTV_t] at C2 C3
 obtain ⟨⟨x, s1, o1⟩, h1⟩ : ∃ u, rdTt s = u := ⟨_, rfl⟩
 rw [h1] at C1 C2 C3 C4 C5 C6 hE
 dsimp only at C1 C2 C3 C4 C5 C6 hE
 obtain ⟨⟨y, s2, o2⟩, h2⟩ : ∃ u, rdTt s1 = u := ⟨_, rfl⟩
 rw [h2] at C2 C3 C5 C6 hE
 dsimp only at C2 C3 C5 C6 hE
 obtain ⟨⟨z, s3, o3⟩, h3⟩ : ∃ u, rdTt s2 = u := ⟨_, rfl⟩
 rw [h3] at C3 C6 hE
 dsimp only at C3 C6 hE
 have HE := Hd hE
 clear h1 h2 h3 hE l1 l2 l3 hl
 go_enter Tryz.func103, Tryz.ntmps103
 go_wp2_with fail
 refine C1.out.mono ?_
 rintro e w1 ⟨rfl, ho1⟩
 have HO1 := Hd ho1
 clear ho1 C1
 go_wp2_with fail
 refine (C2.out _).mono ?_
 rintro e w2 ⟨rfl, ho2⟩
 have HO2 := Hd (HO1.out.tr ho2)
 clear ho2 C2 HO1
 go_wp2_with fail
 refine (C3.out _).mono ?_
 rintro e w3 ⟨rfl, ho3⟩
 have HO3 := Hd (HO2.out.tr ho3)
 clear ho3 C3 HO2
 go_wp2_with fail
 refine (C4.out _).mono ?_
 rintro e w4 ⟨ho4, h4⟩
 obtain ⟨q4, f4, rfl, hf4, ht4⟩ : ∃ (q4 : Value) (f4 : Bool), e = .returned (.tuple #[q4, .bool f4]) ∧ (f4 = false → S15.unS x = none) ∧ (f4 = true → ∃ (t : S15.TS) (b : Nat) (v : Value), S15.unS x = some t ∧ q4 = .pointer (some ⟨b, 0, none⟩) ∧ S15.RtV w4 w3.heap.size b v t.l t.ever) := by
  rcases h4 with ⟨h, rfl⟩ | ⟨t, b, v, h, rfl, ht⟩
  · exact ⟨_, _, rfl, fun _ => h, fun h => by cases h⟩
  · exact ⟨_, _, rfl, fun h => (by cases h), fun _ => ⟨t, b, v, h, rfl, ht⟩⟩
 have HO4 := Hd (HO3.out.tr ho4)
 have F4 := Hd hf4
 have T4 := Hd ht4
 have S4 := Hd ho4.size
 clear ho4 h4 hf4 ht4 C4
 go_wp2_with fail
 refine (C5.out _).mono ?_
 rintro e w5 ⟨ho5, h5⟩
 obtain ⟨q5, f5, rfl, hf5, ht5⟩ : ∃ (q5 : Value) (f5 : Bool), e = .returned (.tuple #[q5, .bool f5]) ∧ (f5 = false → L16.unT y = none) ∧ (f5 = true → ∃ (t : L16.Tb) (b : Nat) (v : Value), L16.unT y = some t ∧ q5 = .pointer (some ⟨b, 0, none⟩) ∧ L16.RfV w5 w4.heap.size b v t) := by
  rcases h5 with ⟨h, rfl⟩ | ⟨t, b, h, rfl, v, ht⟩
  · exact ⟨_, _, rfl, fun _ => h, fun h => by cases h⟩
  · exact ⟨_, _, rfl, fun h => (by cases h), fun _ => ⟨t, b, v, h, rfl, ht⟩⟩
 have HO5 := Hd (HO4.out.tr ho5)
 have F5 := Hd hf5
 have T5 := Hd ht5
 have O5 := Hd ho5
 clear ho5 h5 hf5 ht5 C5
 go_wp2_with fail
 refine (C6.out _).mono ?_
 rintro e w6 ⟨ho6, h6⟩
 obtain ⟨q6, f6, rfl, hf6, ht6⟩ : ∃ (q6 : Value) (f6 : Bool), e = .returned (.tuple #[q6, .bool f6]) ∧ (f6 = false → unSt z = none) ∧ (f6 = true → ∃ (S : Sv) (b : Nat) (O : List Nat), unSt z = some S ∧ q6 = .pointer (some ⟨b, 0, none⟩) ∧ Rs w6 b O S ∧ ∀ x ∈ O, w5.heap.size ≤ x) := by
  cases hu : unSt z with
  | none =>
   rw [hu] at h6
   exact ⟨_, _, h6, fun _ => rfl, fun h => by cases h⟩
  | some S =>
   rw [hu] at h6
   obtain ⟨b, O, he, hs, hn⟩ := h6
   exact ⟨_, _, he, fun h => (by cases h), fun _ => ⟨S, b, O, rfl, rfl, hs, hn⟩⟩
 have HO6 := Hd (HO5.out.tr ho6)
 have F6 := Hd hf6
 have T6 := Hd ht6
 have O6 := Hd ho6
 clear ho6 h6 hf6 ht6 C6
 have HBAD : Hid (unAg s = none → UnGG w w6 s (.returned (.tuple #[.pointer none, .bool false]))) := Hd (fun h => by
  refine ⟨HO6.out, ?_⟩
  rw [h])
 cases o1 with
 | false =>
  have HB := Hd (HBAD.out (by rw [HE.out, if_neg (by simp)]))
  clear HBAD HE F4 F5 F6 T4 T5 T6
  go_wp2_with fail
  go_ret2
  exact HB.out
 | true =>
 cases o2 with
 | false =>
  have HB := Hd (HBAD.out (by rw [HE.out, if_neg (by simp)]))
  clear HBAD HE F4 F5 F6 T4 T5 T6
  go_wp2_with fail
  go_ret2
  exact HB.out
 | true =>
 cases o3 with
 | false =>
  have HB := Hd (HBAD.out (by rw [HE.out, if_neg (by simp)]))
  clear HBAD HE F4 F5 F6 T4 T5 T6
  go_wp2_with fail
  go_ret2
  exact HB.out
 | true =>
 cases f4 with
 | false =>
  have HB := Hd (HBAD.out (by rw [HE.out, F4.out rfl]; split <;> rfl))
  clear HBAD HE F4 F5 F6 T4 T5 T6
  go_wp2_with fail
  go_ret2
  exact HB.out
 | true =>
 obtain ⟨t4, b4, v4, u4, rfl, ht4⟩ := T4.out rfl
 cases f5 with
 | false =>
  have HB := Hd (HBAD.out (by rw [HE.out, F5.out rfl, u4]; split <;> rfl))
  clear HBAD HE F4 F5 F6 T4 T5 T6 u4 ht4
  go_wp2_with fail
  go_ret2
  exact HB.out
 | true =>
 obtain ⟨t5, b5, v5, u5, rfl, ht5⟩ := T5.out rfl
 cases f6 with
 | false =>
  have HB := Hd (HBAD.out (by rw [HE.out, F6.out rfl, u4, u5]; split <;> rfl))
  clear HBAD HE F4 F5 F6 T4 T5 T6 u4 ht4 u5 ht5
  go_wp2_with fail
  go_ret2
  exact HB.out
 | true =>
 obtain ⟨t6, b6, OO, u6, rfl, ht6, hn6⟩ := T6.out rfl
 cases s3 with
 | cons c s3 =>
  have HB := Hd (HBAD.out (by rw [HE.out, if_neg (by simp)]))
  have hne : (⟨(c :: s3).toArray⟩ : ByteArray) ≠ ⟨#[]⟩ := fun h => by
   have := congrArg (fun b : ByteArray => b.data.toList) h
   simp at this
  have hnb : ((c :: s3) != ([] : List UInt8)) = true := by simp
  clear HBAD HE F4 F5 F6 T4 T5 T6 u4 ht4 u5 ht5 u6 ht6 hn6
  go_wp2_with fail
  go_ret2
  exact HB.out
 | nil =>
 have hun : unAg s = some ⟨t4, t5, t6⟩ := by rw [HE.out, if_pos ⟨rfl, rfl, rfl, rfl⟩, u4, u5, u6]
 have HF : Hid (∀ p, Cells (w6.alloc (.cells #[.pointer (some ⟨b4, 0, none⟩), .pointer (some ⟨b5, 0, none⟩), .pointer (some ⟨b6, 0, none⟩)] 130)) p 130 [.pointer (some ⟨b4, 0, none⟩), .pointer (some ⟨b5, 0, none⟩), .pointer (some ⟨b6, 0, none⟩)] → p = w6.heap.size → UnGG w (w6.alloc (.cells #[.pointer (some ⟨b4, 0, none⟩), .pointer (some ⟨b5, 0, none⟩), .pointer (some ⟨b6, 0, none⟩)] 130)) s (.returned (.tuple #[.pointer (some ⟨p, 0, none⟩), .bool true]))) := Hd (fun p hp he => by
  have oA : Only [] w6 (w6.alloc (.cells #[.pointer (some ⟨b4, 0, none⟩), .pointer (some ⟨b5, 0, none⟩), .pointer (some ⟨b6, 0, none⟩)] 130)) := oz.alloc _
  have oB := O6.out.tr oA
  have oC := O5.out.tr oB
  have g3 := HO3.out.size
  have g4 := S4.out
  have g5 := O5.out.size
  have g6 := O6.out.size
  have hb6 := ht6.bw
  have k4 := ht4.2.1.lt
  have k5 := ht5.cells.lt
  refine ⟨HO6.out.tr oA, ?_⟩
  rw [hun]
  refine ⟨p, allG p b4 v4 b5 v5 OO, rfl, ⟨b4, v4, b5, v5, b6, OO, w3.heap.size, w4.heap.size, ⟨hp, ⟨ht4.1, ht4.2.1.only oC (by simp), own_keep ht4.2.2 oC (by simp)⟩, ht5.only oB, ht6.keep oA (by simp), ?_, ?_, ?_, ?_, ?_⟩, rfl⟩, ?_⟩
  · intro hm; have := hb6 p hm; omega
  · intro hm; have := hn6 b4 hm; omega
  · intro hm; have := hn6 b5 hm; omega
  · intro g hg hm
    have := hn6 g hm
    have := (ht4.2.2.lt g hg).2
    omega
  · intro g hg hm
    have := hn6 g hm
    have := (ht5.own.lt g hg).2
    omega
  · intro x hx
    unfold allG at hx
    simp only [List.mem_cons, List.mem_append, mem_rb] at hx
    have := ht5.ge
    have := ht4.1
    rcases hx with rfl | rfl | rfl | hx | hx | hx
    · omega
    · omega
    · omega
    · have := (ht4.2.2.lt x hx).1; omega
    · have := (ht5.own.lt x hx).1; omega
    · have := hn6 x hx; omega)
 clear HBAD HE F4 F5 F6 T4 T5 T6 u4 ht4 u5 ht5 u6 ht6 hn6 hun S4 O5 O6 HO3 HO4 HO5
 go_wp2_with fail
 go_ret2
 exact HF.out _ (Cells.new w6 _ _) rfl
end Go.Proofs.YtcjfmildalappaaGreat
namespace Go.Proofs.YtcjfmildalappaaGreat
open Go.RowKit Go.ChangeShapes Go.WideShapes Go.Deep
structure C19 where
 c : Cm
 iv : Value
def cmL (l : List C19) : List Value := l.flatMap fun a => a.c.cells a.iv
theorem cmL_get (l : List C19) (i j : Nat) (x : C19) (h : l[i]? = some x) (hj : j < 11) : (cmL l)[i * 11 + j]? = (x.c.cells x.iv)[j]? := flat_get (fun a : C19 => a.c.cells a.iv) 11 (fun _ => rfl) l i j x h hj
theorem cmL_at {w : World} {B : Nat} {v : Value} {l : List C19} (h : SlAt w B v 11 l.length (cmL l)) {k : Nat} {a : C19} (hk : l[k]? = some a) :
 ∃ b o c, v = .slice (some ⟨b, o, none⟩) l.length c ∧ w.cell? ⟨b, o + k * 11, none⟩ = some (.int .i64 a.c.kd) ∧ w.cell? ⟨b, o + k * 11 + 1, none⟩ = some (.int .i64 a.c.ss) ∧ w.cell? ⟨b, o + k * 11 + 2, none⟩ = some (.int .i64 a.c.sq) ∧ w.cell? ⟨b, o + k * 11 + 3, none⟩ = some (.int .i64 a.c.sh) ∧ w.cell? ⟨b, o + k * 11 + 4, none⟩ = some (.int .i64 a.c.nd) ∧ w.cell? ⟨b, o + k * 11 + 5, none⟩ = some (.int .i64 a.c.ep) ∧ w.cell? ⟨b, o + k * 11 + 6, none⟩ = some (.int .i64 a.c.n) ∧ w.cell? ⟨b, o + k * 11 + 7, none⟩ = some (.string ⟨a.c.fd.toArray⟩) ∧ w.cell? ⟨b, o + k * 11 + 8, none⟩ = some (.string ⟨a.c.id.toArray⟩) ∧ w.cell? ⟨b, o + k * 11 + 9, none⟩ = some (a.iv) ∧ w.cell? ⟨b, o + k * 11 + 10, none⟩ = some (.bool a.c.fl) := by
 have hlt : k < l.length := (List.getElem?_eq_some_iff.1 hk).1
 obtain ⟨b, o, c, hv, _, hc⟩ := h.at_ (by omega)
 exact ⟨b, o, c, hv, hc (k * 11 + 0) _ (cmL_get l k 0 a hk (by omega)), hc (k * 11 + 1) _ (cmL_get l k 1 a hk (by omega)), hc (k * 11 + 2) _ (cmL_get l k 2 a hk (by omega)), hc (k * 11 + 3) _ (cmL_get l k 3 a hk (by omega)), hc (k * 11 + 4) _ (cmL_get l k 4 a hk (by omega)), hc (k * 11 + 5) _ (cmL_get l k 5 a hk (by omega)), hc (k * 11 + 6) _ (cmL_get l k 6 a hk (by omega)), hc (k * 11 + 7) _ (cmL_get l k 7 a hk (by omega)), hc (k * 11 + 8) _ (cmL_get l k 8 a hk (by omega)), hc (k * 11 + 9) _ (cmL_get l k 9 a hk (by omega)), hc (k * 11 + 10) _ (cmL_get l k 10 a hk (by omega))⟩
theorem open_cmds {H : Type} {enc : TypeId × Value → H} {w : World} {base : Nat} {spare : Nat → Bool} {held : Bool} {r : Reach} {b0 : Nat} {v : Value} {d : DataW H} {p : List MemPlace}
 (hv : Value.okWide Tryz.prog w r b0 22 v) (h : DataW.Trod enc Tryz.prog w base spare held 22 v d p) :
 ∃ l : List C19, SlAt w w.heap.size v 11 l.length (cmL l) ∧ ∀ a ∈ l, CmAt w a.iv a.c := by
 obtain ⟨n, xs, hs, hx⟩ := open_structs Tryz.underlying22 Tryz.underlying38 (by kernel_rfl) (by kernel_rfl) hv h
 obtain ⟨l, hl, rfl, hg⟩ := flat_of (fun a : C19 => a.c.cells a.iv) 11 (fun _ => rfl) (fun a => CmAt w a.iv a.c) n xs hs.1 fun i hi => by
  obtain ⟨u0, y0, m0, e0, h0⟩ := hx i hi 0 _ rfl
  obtain ⟨u1, y1, m1, e1, h1⟩ := hx i hi 1 _ rfl
  obtain ⟨u2, y2, m2, e2, h2⟩ := hx i hi 2 _ rfl
  obtain ⟨u3, y3, m3, e3, h3⟩ := hx i hi 3 _ rfl
  obtain ⟨u4, y4, m4, e4, h4⟩ := hx i hi 4 _ rfl
  obtain ⟨u5, y5, m5, e5, h5⟩ := hx i hi 5 _ rfl
  obtain ⟨u6, y6, m6, e6, h6⟩ := hx i hi 6 _ rfl
  obtain ⟨u7, y7, m7, e7, h7⟩ := hx i hi 7 _ rfl
  obtain ⟨u8, y8, m8, e8, h8⟩ := hx i hi 8 _ rfl
  obtain ⟨u9, y9, m9, e9, h9⟩ := hx i hi 9 _ rfl
  obtain ⟨u10, y10, m10, e10, h10⟩ := hx i hi 10 _ rfl
  obtain ⟨z0, q0, _, w0⟩ := DataW.trod_int Tryz.underlying3 h0
  obtain ⟨z1, q1, _, w1⟩ := DataW.trod_int Tryz.underlying3 h1
  obtain ⟨z2, q2, _, w2⟩ := DataW.trod_int Tryz.underlying3 h2
  obtain ⟨z3, q3, _, w3⟩ := DataW.trod_int Tryz.underlying3 h3
  obtain ⟨z4, q4, _, w4⟩ := DataW.trod_int Tryz.underlying3 h4
  obtain ⟨z5, q5, _, w5⟩ := DataW.trod_int Tryz.underlying3 h5
  obtain ⟨z6, q6, _, w6⟩ := DataW.trod_int Tryz.underlying3 h6
  obtain ⟨z7, q7, _, w7⟩ := DataW.trod_string Tryz.underlying9 h7
  obtain ⟨z8, q8, _, w8⟩ := DataW.trod_string Tryz.underlying9 h8
  obtain ⟨its, hi1, hi2⟩ := open_items_in h9
  obtain ⟨z10, q10, _⟩ := DataW.trod_bool Tryz.underlying4 h10
  simp at q0 q1 q2 q3 q4 q5 q6 q7 q8 q10
  subst q0; subst q1; subst q2; subst q3; subst q4; subst q5; subst q6; subst q7; subst q8; subst q10
  refine ⟨⟨⟨z0, z1, z2, z3, z4, z5, z6, z7.data.toList, z8.data.toList, its, z10⟩, u9⟩, ⟨hi1, hi2, by rw [ba_len]; exact w7, by rw [ba_len]; exact w8, ?_⟩, fun j hj => ?_⟩
  · intro x hx
    simp only [List.mem_cons, List.not_mem_nil, or_false] at hx
    rcases hx with rfl | rfl | rfl | rfl | rfl | rfl | rfl
    · exact wide64_of_wf w0
    · exact wide64_of_wf w1
    · exact wide64_of_wf w2
    · exact wide64_of_wf w3
    · exact wide64_of_wf w4
    · exact wide64_of_wf w5
    · exact wide64_of_wf w6
  · match j, hj with
    | 0, _ => exact e0
    | 1, _ => exact e1
    | 2, _ => exact e2
    | 3, _ => exact e3
    | 4, _ => exact e4
    | 5, _ => exact e5
    | 6, _ => exact e6
    | 7, _ => simpa [Cm.cells] using e7
    | 8, _ => simpa [Cm.cells] using e8
    | 9, _ => exact e9
    | 10, _ => exact e10
 subst hl
 exact ⟨l, hs, hg⟩
structure SmI (x : It) : Prop where
 id : x.id.length ≤ 300
 ti : x.ti.length ≤ 300
 li : x.li.length ≤ 300
structure SmC (a : Cm) : Prop where
 fd : a.fd.length ≤ 300
 id : a.id.length ≤ 300
 n : a.its.length ≤ 30
 its : ∀ x ∈ a.its, SmI x
structure Sm19 (l : List C19) : Prop where
 n : l.length ≤ 80
 al : ∀ a ∈ l, SmC a.c
theorem all_snoc {α : Type} {P : α → Prop} {l : List α} {k : Nat} {x : α} (h : l[k]? = some x) (h1 : ∀ a ∈ l.take k, P a) (hx : P x) : ∀ a ∈ l.take (k + 1), P a := by
 intro a ha
 rw [List.take_add_one, h] at ha
 rcases List.mem_append.1 ha with ha | ha
 · exact h1 a ha
 · simp at ha; subst ha; exact hx
def SmR (l : List C19) (w : World) (e : Ending) (w' : World) : Prop := ∃ bo, e = .returned (.bool bo) ∧ (bo = true → Sm19 l) ∧ Only [] w w'
theorem SmR.no {l : List C19} {w w' : World} (ho : Only [] w w') : SmR l w (.returned (.bool false)) w' := ⟨false, rfl, fun h => (by cases h), ho⟩
def pkI (c n : Int) : Int := if c < 0 then -(c + 1) % n else c % n
theorem pkI_lt (c n : Int) (hn : 0 < n) : 0 ≤ pkI c n ∧ pkI c n < n := by
 unfold pkI
 split
 · exact ⟨Int.emod_nonneg _ (by omega), Int.emod_lt_of_pos _ hn⟩
 · exact ⟨Int.emod_nonneg _ (by omega), Int.emod_lt_of_pos _ hn⟩
theorem pick19 (c n : Int) (w : World) (hc : Wide64 c) (h0 : 1 ≤ n) (h1 : n ≤ 1000000000000) :
 Calls Tryz.prog 22 #[.int .i64 c, .int .i64 n] w fun e w' => e = .returned (.int .i64 (pkI c n)) ∧ w = w' := by
 obtain ⟨c0, c1⟩ := hc
 have hn : (n == 0) = false := by simp; omega
 by_cases h : c < 0
 · have h2 : 0 ≤ -(c + 1) := by omega
   have h2' : c ≤ -1 := by omega
   go_enter Tryz.func22, Tryz.ntmps22
   go_wp2
   go_ret
   exact ⟨by unfold pkI; rw [if_pos (by omega), ← Int.tmod_eq_emod_of_nonneg h2]; first | rfl | simp, rfl⟩
 · have h2 : 0 ≤ c := by omega
   have hd : decide (c < 0) = false := by simpa using h
   go_enter Tryz.func22, Tryz.ntmps22
   go_wp2
   go_ret
   exact ⟨by unfold pkI; rw [if_neg (by omega)]; simp, rfl⟩
theorem posts19 (v1 v2 : Value) (l : List Po) (w : World) (hs1 : SlAt w w.heap.size v1 5 l.length (poL l)) (hs2 : SlAt w w.heap.size v2 5 l.length (poL l)) (hl : l.length ≤ 1000000) :
 Calls Tryz.prog 25 #[v1, v2] w fun e w' => e = .returned (.bool true) ∧ Only [] w w' := by
 obtain ⟨A1, c1, rfl⟩ := hs1.shape
 obtain ⟨A2, c2, rfl⟩ := hs2.shape
 have H1 := Hd hs1
 have H2 := Hd hs2
 clear hs1 hs2
 go_enter Tryz.func25, Tryz.ntmps25
 go_wp2_with fail
 go_loopw [5] (fun i wr => ∃ k : Nat, k ≤ l.length ∧ i = .int .i64 k ∧ Hid (Only [] w wr)) (fun i _ => l.length - (intOf i).toNat)
 case atStart => exact ⟨0, by omega, rfl, Hd oz⟩
 case round =>
  obtain ⟨k, hk, rfl, ho⟩ := hrel
  by_cases hlt : k < l.length
  · have hlt' : (k : Int) < (l.length : Int) := by omega
    obtain ⟨x, hx⟩ : ∃ x, l[k]? = some x := ⟨_, List.getElem?_eq_getElem hlt⟩
    obtain ⟨b1, o1, c1', e1, hb1, hc1⟩ := (H1.out.only ho.out (Nat.le_refl _) (by simp)).at_ (by omega)
    obtain ⟨b2, o2, c2', e2, hb2, hc2⟩ := (H2.out.only ho.out (Nat.le_refl _) (by simp)).at_ (by omega)
    injection e1 with i1 i2 i3
    injection e2 with j1 j2 j3
    subst i1; subst i3; subst j1; subst j3
    have q0 : wr.cell? ⟨b1, o1 + k * 5, none⟩ = some (.int .i64 x.sq) := hc1 (k * 5 + 0) _ (poL_get l k 0 x hx (by omega))
    have q1 : wr.cell? ⟨b1, o1 + k * 5 + 1, none⟩ = some (.string ⟨x.it.id.toArray⟩) := hc1 (k * 5 + 1) _ (poL_get l k 1 x hx (by omega))
    have q2 : wr.cell? ⟨b1, o1 + k * 5 + 2, none⟩ = some (.string ⟨x.it.ti.toArray⟩) := hc1 (k * 5 + 2) _ (poL_get l k 2 x hx (by omega))
    have q3 : wr.cell? ⟨b1, o1 + k * 5 + 3, none⟩ = some (.string ⟨x.it.li.toArray⟩) := hc1 (k * 5 + 3) _ (poL_get l k 3 x hx (by omega))
    have q4 : wr.cell? ⟨b1, o1 + k * 5 + 4, none⟩ = some (.bool x.rd) := hc1 (k * 5 + 4) _ (poL_get l k 4 x hx (by omega))
    have s0 : wr.cell? ⟨b2, o2 + k * 5, none⟩ = some (.int .i64 x.sq) := hc2 (k * 5 + 0) _ (poL_get l k 0 x hx (by omega))
    have s1 : wr.cell? ⟨b2, o2 + k * 5 + 1, none⟩ = some (.string ⟨x.it.id.toArray⟩) := hc2 (k * 5 + 1) _ (poL_get l k 1 x hx (by omega))
    have s2 : wr.cell? ⟨b2, o2 + k * 5 + 2, none⟩ = some (.string ⟨x.it.ti.toArray⟩) := hc2 (k * 5 + 2) _ (poL_get l k 2 x hx (by omega))
    have s3 : wr.cell? ⟨b2, o2 + k * 5 + 3, none⟩ = some (.string ⟨x.it.li.toArray⟩) := hc2 (k * 5 + 3) _ (poL_get l k 3 x hx (by omega))
    have s4 : wr.cell? ⟨b2, o2 + k * 5 + 4, none⟩ = some (.bool x.rd) := hc2 (k * 5 + 4) _ (poL_get l k 4 x hx (by omega))
    have p0 := fun u : Since wr => u.cell q0
    have p1 := fun u : Since wr => u.cell q1
    have p2 := fun u : Since wr => u.cell q2
    have p3 := fun u : Since wr => u.cell q3
    have p4 := fun u : Since wr => u.cell q4
    have r0 := fun u : Since wr => u.cell s0
    have r1 := fun u : Since wr => u.cell s1
    have r2 := fun u : Since wr => u.cell s2
    have r3 := fun u : Since wr => u.cell s3
    have r4 := fun u : Since wr => u.cell s4
    clear hx q0 q1 q2 q3 q4 s0 s1 s2 s3 s4 i2 j2 hc1 hc2
    go_wp2_with fail
    refine wp_region_only wr oz (by kernel_rfl) (by kernel_rfl) ?_
    repeat (go_big_quiet_step (fail))
    refine wpQuiet_nil ?_
    rintro ⟨w3, ho3⟩
    dsimp only
    have HO3 := Hd (ho.out.tr ho3)
    clear p0 p1 p2 p3 p4 r0 r1 r2 r3 r4
    go_wp2_with fail
    go_roundw
    case rel => exact ⟨k + 1, by omega, by go_num, HO3⟩
    case measure => simp [intOf]; omega
  · have hd : decide ((k : Int) < (l.length : Int)) = false := by simp; omega
    go_wp2_with fail
    go_ret
    exact ⟨rfl, ho.out⟩
theorem small19 (v : Value) (l : List C19) (w : World) (hs : SlAt w w.heap.size v 11 l.length (cmL l)) (hok : ∀ a ∈ l, CmAt w a.iv a.c) :
 Calls Tryz.prog 17 #[v] w (SmR l w) := by
 obtain ⟨A, c, rfl⟩ := hs.shape
 have hll : l.length ≤ 9223372036854775807 := by obtain ⟨_, _, _, _, h1, h2, _⟩ := hs; unfold maxLen at h2; omega
 have HS := Hd hs
 have HK := Hd hok
 clear hs hok
 by_cases h80 : 80 < l.length
 · have d1 : decide ((80 : Int) < (l.length : Int)) = true := by simp; omega
   go_enter Tryz.func17, Tryz.ntmps17
   go_wp2_with fail
   go_ret
   exact SmR.no oz
 have d1 : decide ((80 : Int) < (l.length : Int)) = false := by simp; omega
 go_enter Tryz.func17, Tryz.ntmps17
 go_wp2_with fail
 go_loopw [3] (fun i wr => ∃ k : Nat, k ≤ l.length ∧ i = .int .i64 k ∧ Hid (∀ a ∈ l.take k, SmC a.c) ∧ Hid (Only [] w wr)) (fun i _ => l.length - (intOf i).toNat)
 case atStart => exact ⟨0, by omega, rfl, Hd (by simp), Hd oz⟩
 case round =>
  obtain ⟨k, hk, rfl, hall, ho⟩ := hrel
  obtain ⟨wo, rfl⟩ : ∃ wo, wo = wr := ⟨_, rfl⟩
  by_cases hlt : k < l.length
  · have hlt' : decide ((k : Int) < (l.length : Int)) = true := by simp; omega
    have hlt2 : (k : Int) < (l.length : Int) := by omega
    obtain ⟨a, ha⟩ : ∃ a, l[k]? = some a := ⟨_, List.getElem?_eq_getElem hlt⟩
    have HA := Hd ((HK.out a (List.mem_of_getElem? ha)).only ho.out)
    obtain ⟨b, o, c', hv, q0, q1, q2, q3, q4, q5, q6, q7, q8, q9, q10⟩ := cmL_at (HS.out.only ho.out (Nat.le_refl _) (by simp)) ha
    obtain ⟨IA, ic, hiv⟩ := HA.out.its.shape
    have hil : a.c.its.length ≤ 9223372036854775807 := by obtain ⟨_, _, _, _, h1, h2, _⟩ := HA.out.its; unfold maxLen at h2; omega
    have hfl := HA.out.fd
    have hdl := HA.out.id
    unfold maxLen at hfl hdl
    have HAT := Hd ha
    rw [hiv] at q9
    injection hv with e1 e2 e3
    subst e1; subst e3
    clear e2 ha
    by_cases h1 : 300 < a.c.fd.length
    · have f1 : decide ((300 : Int) < (a.c.fd.length : Int)) = true := by simp; omega
      go_wp2_with fail
      go_ret
      exact SmR.no ho.out
    have f1 : decide ((300 : Int) < (a.c.fd.length : Int)) = false := by simp; omega
    by_cases h2 : 300 < a.c.id.length
    · have f2 : decide ((300 : Int) < (a.c.id.length : Int)) = true := by simp; omega
      go_wp2_with fail
      go_ret
      exact SmR.no ho.out
    have f2 : decide ((300 : Int) < (a.c.id.length : Int)) = false := by simp; omega
    by_cases h3 : 30 < a.c.its.length
    · have f3 : decide ((30 : Int) < (a.c.its.length : Int)) = true := by simp; omega
      go_wp2_with fail
      go_ret
      exact SmR.no ho.out
    have f3 : decide ((30 : Int) < (a.c.its.length : Int)) = false := by simp; omega
    have HIV := Hd hiv
    have HHS : Hid (SlAt wo w.heap.size (.slice (some ⟨b, o, none⟩) l.length c) 11 l.length (cmL l)) := Hd (HS.out.only ho.out (Nat.le_refl _) (by simp))
    clear q0 q1 q2 q3 q4 q5 q6 q10 hiv
    go_wp2_with fail
    go_loopw [4] (fun i wq => ∃ j : Nat, j ≤ a.c.its.length ∧ i = .int .i64 j ∧ Hid (∀ x ∈ a.c.its.take j, SmI x) ∧ Hid (Only [] wo wq)) (fun i _ => a.c.its.length - (intOf i).toNat)
    case atStart => exact ⟨0, by omega, rfl, Hd (by simp), Hd oz⟩
    case round =>
     obtain ⟨j, hj, rfl, hall2, hoq⟩ := hrel
     obtain ⟨wq, rfl⟩ : ∃ wq, wq = wr := ⟨_, rfl⟩
     obtain ⟨b2, o2, c2, hv2, _, _, _, _, _, _, _, _, _, s4, _⟩ := cmL_at (HHS.out.only hoq.out ho.out.size (by simp)) HAT.out
     rw [HIV.out] at s4
     injection hv2 with g1 g2 g3
     injection g1 with g1
     injection g1 with g4 g5 g6
     subst g4; subst g5
     have hoo := Hd (ho.out.tr hoq.out)
     by_cases hjl : j < a.c.its.length
     · have hj' : decide ((j : Int) < (a.c.its.length : Int)) = true := by simp; omega
       have hj2 : (j : Int) < (a.c.its.length : Int) := by omega
       obtain ⟨x, hx⟩ : ∃ x, a.c.its[j]? = some x := ⟨_, List.getElem?_eq_getElem hjl⟩
       obtain ⟨ib, io, ic', hv3, x0, x1, x2⟩ := itL_at (HA.out.only hoq.out).its hx
       rw [HIV.out] at hv3
       injection hv3 with k1 k2 k3
       subst k1; subst k3
       have hxl := HA.out.len x (List.mem_of_getElem? hx)
       have n0 := hxl.id
       have n1 := hxl.ti
       have n2 := hxl.li
       unfold maxLen at n0 n1 n2
       have HXT := Hd hx
       clear hx k2 g3 g6 hxl q7 q8 q9
       obtain ⟨w2, hw2⟩ : ∃ w2, wq.alloc (.cells #[.string ⟨x.id.toArray⟩, .string ⟨x.ti.toArray⟩, .string ⟨x.li.toArray⟩] 99) = w2 := ⟨_, rfl⟩
       have hO2 : Only [] wq w2 := hw2 ▸ oz.alloc _
       obtain ⟨z, hz⟩ : ∃ z, wq.heap.size = z := ⟨_, rfl⟩
       have hzc : Cells w2 z 99 x.cells := hw2 ▸ hz ▸ Cells.new wq _ _
       have z0 := hzc.cell (k := 0) rfl
       have z1 := hzc.cell (k := 1) rfl
       have z2 := hzc.cell (k := 2) rfl
       have HO2 := Hd (hoq.out.tr hO2)
       have HOO := Hd (hoo.out.tr hO2)
       clear hzc hO2
       by_cases m0 : 300 < x.id.length
       · have t0 : decide ((300 : Int) < (x.id.length : Int)) = true := by simp; omega
         go_wp2_with fail
         go_ret
         exact SmR.no HOO.out
       have t0 : decide ((300 : Int) < (x.id.length : Int)) = false := by simp; omega
       by_cases m1 : 300 < x.ti.length
       · have t1 : decide ((300 : Int) < (x.ti.length : Int)) = true := by simp; omega
         go_wp2_with fail
         go_ret
         exact SmR.no HOO.out
       have t1 : decide ((300 : Int) < (x.ti.length : Int)) = false := by simp; omega
       by_cases m2 : 300 < x.li.length
       · have t2 : decide ((300 : Int) < (x.li.length : Int)) = true := by simp; omega
         go_wp2_with fail
         go_ret
         exact SmR.no HOO.out
       have t2 : decide ((300 : Int) < (x.li.length : Int)) = false := by simp; omega
       have HX2 := Hd (all_snoc HXT.out hall2.out ⟨by omega, by omega, by omega⟩)
       go_wp2_with fail
       go_roundw
       case rel => exact ⟨j + 1, by omega, by go_num, HX2, HO2⟩
       case measure => simp [intOf]; omega
     · have hj' : decide ((j : Int) < (a.c.its.length : Int)) = false := by simp; omega
       obtain rfl : j = a.c.its.length := by omega
       have HX2 := Hd (all_snoc HAT.out hall.out ⟨by omega, by omega, by omega, by have := hall2.out; rwa [List.take_length] at this⟩)
       go_wp2_with fail
       go_roundw
       case rel => exact ⟨k + 1, by omega, by go_num, HX2, hoo⟩
       case measure => simp [intOf]; omega
  · have hlt' : decide ((k : Int) < (l.length : Int)) = false := by simp; omega
    obtain rfl : k = l.length := by omega
    have HF := Hd (⟨by omega, by have := hall.out; rwa [List.take_length] at this⟩ : Sm19 l)
    go_wp2_with fail
    go_ret
    exact ⟨true, rfl, fun _ => HF.out, ho.out⟩
end Go.Proofs.YtcjfmildalappaaGreat
namespace Go.Proofs.YtcjfmildalappaaGreat
open Go.RowKit
structure AgW (W w : World) (p : Nat) (K : List Nat) (n : Nat) (a : AgS) : Prop where
 at_ : AgAt w p K a
 ho : Only [] W w
 lo : ∀ x ∈ K, W.heap.size ≤ x
 i : AgI n a
theorem AgW.read {W w w' : World} {p : Nat} {K : List Nat} {n : Nat} {a : AgS} (h : AgW W w p K n a) (ho : Only [] w w') : AgW W w' p K n a := ⟨h.at_.keep ho (by simp), h.ho.tr ho, h.lo, h.i⟩
theorem AgW.far {W w w' : World} {p : Nat} {K X : List Nat} {n : Nat} {a : AgS} (h : AgW W w p K n a) (ho : Only X w w') (hX : ∀ x ∈ X, x ∉ K ∧ W.heap.size ≤ x) : AgW W w' p K n a :=
 ⟨h.at_.keep ho (fun k hk hm => (hX k hm).1 hk), h.ho.trans ho (fun x hx => .inr (hX x hx).2), h.lo, h.i⟩
def DoW (W w w' : World) (p : Nat) (K : List Nat) (n : Nat) (a : AgS) (r : Rp) (e : Ending) : Prop := ∃ pv K', e = .returned (r.val pv) ∧ RpAt w' pv r ∧ (0 < r.ps.length → ∀ g, pv.ownBlock = some g → w.heap.size ≤ g ∧ g ∉ K') ∧ AgW W w' p K' n a ∧ Only K w w' ∧ (∀ x ∈ K', x ∈ K ∨ w.heap.size ≤ x) ∧ RpK r
theorem agw_do (p : Nat) (K : List Nat) (a : AgS) (n : Nat) (hn : n ≤ 1000000) (c : Cm) (iv : Value) (W w : World) (h : AgW W w p K n a) (hc : CmAt w iv c) (hil : c.its.length ≤ 1000000) (hs : ItK w K iv c) :
 Calls Tryz.prog 20 #[.pointer (some ⟨p, 0, none⟩), c.val iv] w fun e w' => DoW W w w' p K (n + 1) (doA a c).2 (doA a c).1 e := by
 refine (ag_do p K a n (by omega) c iv w h.at_ h.i hc hil hs).mono ?_
 rintro e w' ⟨pv, K', he, hp, hg, hA, ho, hN⟩
 have hst := doA_step h.i (by omega) c (hc.nums _ (by simp)) hil
 exact ⟨pv, K', he, hp, hg, ⟨hA, h.ho.trans ho (fun x hx => .inr (h.lo x hx)), fun x hx => by
  rcases hN x hx with e | e
  · exact h.lo x e
  · exact Nat.le_trans h.ho.size e, hst.1⟩, ho, hN, hst.2⟩
theorem agw_new (W w : World) (h : Only [] W w) : Calls Tryz.prog 18 #[] w fun e w' => ∃ p K, e = .returned (.pointer (some ⟨p, 0, none⟩)) ∧ AgW W w' p K 0 AgS.new ∧ (∀ x ∈ K, w.heap.size ≤ x) ∧ Only [] w w' := by
 refine (ag_new w).mono ?_
 rintro e w' ⟨p, K, he, hA, hl, ho⟩
 exact ⟨p, K, he, ⟨hA, h.tr ho, fun x hx => Nat.le_trans h.size (hl x hx), AgI.new⟩, hl, ho⟩
theorem itk_nil (w : World) (K : List Nat) (c : Cm) (h : c.its = []) : ItK w K (.slice none 0 0) c := fun w' _ => by rw [h]; exact SlAt.of_own (World.ownsRow_nil w' 0 99 3)
def Bx (w : World) (K : List Nat) (z : Nat) (t : TypeId) (cs : List Value) : Prop := Cells w z t cs ∧ z ∉ K
theorem Bx.does {w w' : World} {K K' : List Nat} {z : Nat} {t : TypeId} {cs : List Value} (h : Bx w K z t cs) (ho : Only K w w') (hN : ∀ x ∈ K', x ∈ K ∨ w.heap.size ≤ x) : Bx w' K' z t cs :=
 ⟨h.1.only ho h.2, fun hm => by
  rcases hN z hm with e | e
  · exact h.2 e
  · have := h.1.lt; omega⟩
theorem Bx.read {w w' : World} {K : List Nat} {z : Nat} {t : TypeId} {cs : List Value} (h : Bx w K z t cs) (ho : Only [] w w') : Bx w' K z t cs := ⟨h.1.only ho (by simp), h.2⟩
theorem Bx.far {w w' : World} {K : List Nat} {z y : Nat} {t : TypeId} {cs : List Value} (h : Bx w K z t cs) (ho : Only [y] w w') (hy : z ≠ y) : Bx w' K z t cs := ⟨h.1.only ho (by simpa using hy), h.2⟩
theorem box_row (w : World) (t : TypeId) (z c : List Value) : Only [] w ((w.alloc (.cells z.toArray t)).setRow w.heap.size c.toArray) ∧ Cells (w.alloc (.cells z.toArray t)) w.heap.size t z ∧ Cells ((w.alloc (.cells z.toArray t)).setRow w.heap.size c.toArray) w.heap.size t c :=
 ⟨((Only.refl [] w).alloc _).trans ((Only.refl [w.heap.size] _).setRow (.inl (by simp)) _) (fun x hx => by simp at hx; subst hx; exact .inr (Nat.le_refl _)), Cells.new w _ _, (Cells.new w t z).setRow c⟩
def iX : It := ⟨[120], [], []⟩
def rbs (r : Rp) : ByteArray := ⟨(rpb r).toArray⟩
def sa1 : AgS := ⟨⟨[⟨1, 0, .empty⟩], 1⟩, L16.Tb.empty, []⟩
def sa2 : AgS := ⟨⟨[⟨1, 1, rbs (errR 0)⟩], 1⟩, L16.Tb.empty, [([97], ⟨-1, 0, []⟩)]⟩
def sa4 : AgS := ⟨⟨[⟨1, 2, rbs (errR 5)⟩], 1⟩, L16.Tb.empty, [([97], ⟨-1, 0, []⟩)]⟩
def sa6 : AgS := ⟨⟨[⟨1, 2, rbs (errR 5)⟩], 1⟩, (L16.Tb.empty.grant 4 2).1, [([97], ⟨-1, 0, []⟩)]⟩
def sa7 : AgS := ⟨⟨[⟨1, 2, rbs (errR 5)⟩], 1⟩, (L16.Tb.empty.grant 4 2).1, [([97], ⟨0, 0, [⟨1, iX, false⟩]⟩)]⟩
def sa9 : AgS := ⟨⟨[⟨1, 3, rbs ⟨0, 0, [⟨1, iX, false⟩]⟩⟩], 1⟩, (L16.Tb.empty.grant 4 2).1, [([97], ⟨0, 0, [⟨1, iX, false⟩]⟩)]⟩
theorem e19_1 : doA AgS.new ⟨1, 0, 0, 0, 0, 0, 0, [], [], [], false⟩ = (⟨0, 1, []⟩, sa1) := by kernel_rfl
theorem e19_2 : doA sa1 ⟨2, 1, 1, 0, 0, 0, 0, [97], [], [], false⟩ = (errR 0, sa2) := by kernel_rfl
theorem e19_3 : doA sa2 ⟨2, 1, 1, 0, 0, 0, 0, [97], [], [], false⟩ = (errR 0, sa2) := by kernel_rfl
theorem e19_4 : doA sa2 ⟨2, 1, 2, 0, 0, 0, 0, [97], [], [], false⟩ = (errR 5, sa4) := by kernel_rfl
theorem e19_5 : doA sa4 ⟨2, 9, 1, 0, 0, 0, 0, [98], [], [], false⟩ = (errR 17, sa4) := by kernel_rfl
theorem e19_6 : doA sa4 ⟨7, 0, 0, 4, 2, 0, 0, [], [], [], false⟩ = (⟨0, 1, []⟩, sa6) := by kernel_rfl
theorem e19_7 : doA sa6 ⟨8, 0, 0, 4, 2, 1, 0, [97], [], [iX], false⟩ = (⟨0, 1, []⟩, sa7) := by kernel_rfl
theorem e19_8 : doA sa7 ⟨8, 0, 0, 4, 2, 2, 0, [97], [], [iX], false⟩ = (errR 15, sa7) := by kernel_rfl
theorem e19_9 : doA sa7 ⟨5, 1, 3, 0, 0, 0, 0, [97], [], [], false⟩ = (⟨0, 0, [⟨1, iX, false⟩]⟩, sa9) := by kernel_rfl
end Go.Proofs.YtcjfmildalappaaGreat
