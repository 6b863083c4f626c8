/-
  Contracts; each theorem bears its own conditions.
-/
import Derived.Laws.StructEq
import Derived.Deep.RegionHeld3
import Derived.Test.YtcjfmildalappaaGreatK24ab
import Derived.Test.YtcjfmildalappaaGreatK24ad
import Derived.Test.YtcjfmildalappaaGreatK24ae
import Derived.Test.YtcjfmildalappaaGreatK24af
import Derived.Test.YtcjfmildalappaaGreatK24ag
import Derived.Test.YtcjfmildalappaaGreatK24ah
import Derived.Test.YtcjfmildalappaaGreatK24ak
import Derived.Test.YtcjfmildalappaaGreatK24al
import Derived.Test.YtcjfmildalappaaGreatK24ao
import Derived.Test.YtcjfmildalappaaGreatK24ap
import Derived.Test.YtcjfmildalappaaGreatK24aq
import Derived.Test.YtcjfmildalappaaGreatK24ar
import Derived.Test.YtcjfmildalappaaGreatK24as
import Derived.Test.YtcjfmildalappaaGreatK24at
set_option linter.all false
set_option maxRecDepth 100000
set_option maxHeartbeats 8000000
namespace Go.Proofs.YtcjfmildalappaaGreat
open Go.RowKit
theorem ag_five (p : Nat) (K : List Nat) (a : AgS) (n : Nat) (hn : n ≤ 1000000000) (c : Cm) (iv : Value) (hI : AgI n a) (hfd : c.fd.length ≤ maxLen) (hil : c.its.length ≤ 1000000) (hit : ∀ x ∈ c.its, x.Len) :
 (c.kd = 1 → ∀ w, AgAt w p K a → Calls Tryz.prog 63 #[.pointer (some ⟨p, 0, none⟩), c.val iv] w fun e w' => ReO w w' p K (othA a c).1 (othA a c).2 e) ∧
 (c.kd ≠ 1 → c.kd = 6 → ∀ w, AgAt w p K a → Calls Tryz.prog 64 #[.pointer (some ⟨p, 0, none⟩), c.val iv] w fun e w' => ReO w w' p K (othA a c).1 (othA a c).2 e) ∧
 (c.kd ≠ 1 → c.kd ≠ 6 → c.kd = 7 → ∀ w, AgAt w p K a → Calls Tryz.prog 65 #[.pointer (some ⟨p, 0, none⟩), c.val iv] w fun e w' => ReO w w' p K (othA a c).1 (othA a c).2 e) ∧
 (c.kd ≠ 1 → c.kd ≠ 6 → c.kd ≠ 7 → c.kd = 9 → ∀ w, AgAt w p K a → Calls Tryz.prog 66 #[.pointer (some ⟨p, 0, none⟩), c.val iv] w fun e w' => ReO w w' p K (othA a c).1 (othA a c).2 e) ∧
 (c.kd ≠ 1 → c.kd ≠ 6 → c.kd ≠ 7 → c.kd ≠ 9 → ∀ w, AgAt w p K a → ItK w K iv c → Calls Tryz.prog 62 #[.pointer (some ⟨p, 0, none⟩), c.val iv] w fun e w' => ReO w w' p K (othA a c).1 (othA a c).2 e) := by
 unfold othA
 refine ⟨fun h w hA => ?_, fun h1 h w hA => ?_, fun h1 h6 h w hA => ?_, fun h1 h6 h7 h w hA => ?_, fun h1 h6 h7 h9 w hA hs => ?_⟩
 · rw [if_pos h]; exact ag_register p K a n hn c iv w hA hI
 · rw [if_neg h1, if_pos h]; exact ag_tick p K a n hn c iv w hA hI
 · rw [if_neg h1, if_neg h6, if_pos h]; exact ag_grant p K a n hn c iv w hA hI
 · rw [if_neg h1, if_neg h6, if_neg h7, if_pos h]; exact ag_show p K a n hn c iv w hA hI
 · rw [if_neg h1, if_neg h6, if_neg h7, if_neg h9]; exact ag_ingest p K a n hn c iv w hA hI hfd hil hit hs
theorem ag_do (p : Nat) (K : List Nat) (a : AgS) (n : Nat) (hn : n ≤ 1000000000) (c : Cm) (iv : Value) (w : World) (h : AgAt w p K a) (hI : AgI n a) (hc : CmAt w iv c) (hil : c.its.length ≤ 1000000) (hsl : ItK w K iv c) :
 Calls Tryz.prog 20 #[.pointer (some ⟨p, 0, none⟩), c.val iv] w fun e w' => ReO w w' p K (doA a c).1 (doA a c).2 e := by
 have hFIVE := ag_five p K a n hn c iv hI hc.fd hil hc.len
 have hCL := fun w' (hA : AgAt w' p K a) => ag_client p K a n c iv w' hA hI hc.fd hc.id
 have hRT := fun w' (ho : Only [] w w') => cmd_right c iv w' (hc.only ho)
 have hCC := fun w' => client_call c iv w'
 obtain ⟨tb, tv, lb, sb, O, B, hX, rfl⟩ := h
 have hE1 : rightB c = false → doA a c = (errR 1, a) := fun h => by unfold doA; rw [if_pos h]
 have hE2 : rightB c = true → clB c.kd = true → doA a c = clA a c := doA_cl
 have hE3 : rightB c = true → clB c.kd = false → doA a c = othA a c := fun h h2 => by unfold doA; rw [if_neg (by simp [h]), if_pos h2]
 have HE1 := Hd hE1
 have HE2 := Hd hE2
 have HE3 := Hd hE3
 have HSL := Hd hsl
 unfold Cm.val at hFIVE hCL hRT hCC ⊢
 have HFIVE := Hd hFIVE
 have HCL := Hd hCL
 have HRT := Hd hRT
 have HCC := Hd hCC
 clear hI hc hil hsl hFIVE hCL hRT hCC hE1 hE2 hE3 hn
 go_enter Tryz.func20, Tryz.ntmps20
 go_upto_region 1 with fail
 obtain ⟨w1, hw1⟩ : ∃ u, w.alloc (.cells #[.int .i64 c.kd, .int .i64 c.ss, .int .i64 c.sq, .int .i64 c.sh, .int .i64 c.nd, .int .i64 c.ep, .int .i64 c.n, .string ⟨c.fd.toArray⟩, .string ⟨c.id.toArray⟩, iv, .bool c.fl] 38) = u := ⟨_, rfl⟩
 have hR : w.heap.size + 1 = w1.heap.size := by rw [← hw1, World.size_alloc]
 obtain ⟨z, hz⟩ : ∃ z, w.heap.size = z := ⟨_, rfl⟩
 have hcz : Cells w1 z 38 (c.cells iv) := hw1 ▸ hz ▸ Cells.new w _ _
 rw [hw1, hR, hz]
 obtain ⟨w2, hw2⟩ : ∃ u, w1.alloc (.cells #[.int .i64 0, .int .i64 0, .slice none 0 0] 34) = u := ⟨_, rfl⟩
 obtain ⟨R, hRR⟩ : ∃ R, w1.heap.size = R := ⟨_, rfl⟩
 have o12 : Only [] w1 w2 := hw2 ▸ oz.alloc _
 have o2 : Only [] w w2 := Only.tr0 (hw1 ▸ oz.alloc _) o12
 have hcR : Cells w2 R 34 [.int .i64 0, .int .i64 0, .slice none 0 0] := hw2 ▸ hRR ▸ Cells.new w1 _ _
 rw [hw2, hRR]
 have hwR : w.heap.size ≤ R := by omega
 have hwz : w.heap.size ≤ z := by omega
 have hX2 := hX.keep o2 (by simp)
 have hcz2 := hcz.only o12 (by simp)
 have HCZ := Hd hcz2
 have hpl := hX2.cells.lt
 have HX := Hd hX
 have HX2 := Hd hX2
 have HO2 := Hd o2
 have HR := Hd hcR
 have hRn : Hid (R ∉ allA p tb tv lb O) := Hd (fun hm => by have := HX.out.lts R hm; omega)
 have hzn : Hid (z ∉ allA p tb tv lb O) := Hd (fun hm => by have := HX.out.lts z hm; omega)
 obtain ⟨c0, c1, c2, c3, c4, c5, c6, c7, c8, c9, c10⟩ := cm_cells hcz2
 have CR := Hd (HRT.out w2 o2)
 clear hw1 hw2 hR hRR hz o2 o12 hcR hX hX2 hcz hcz2
 go_wp2_with fail
 refine CR.out.mono ?_
 rintro e w3 ⟨rfl, ho3⟩
 have HX3 := Hd (HX2.out.keep ho3 (by simp))
 have HO3 := Hd (HO2.out.tr ho3)
 have HR3 := Hd (HR.out.only ho3 (by simp))
 have HCZ3 := Hd (HCZ.out.only ho3 (by simp))
 clear c0 c1 c2 c3 c4 c5 c6 c7 c8 c9 c10 ho3 CR HRT HX2 HO2 HR HCZ
 cases hb : rightB c with
 | false =>
  have HE := Hd (HE1.out hb)
  clear hb HE1 HE2 HE3 HCZ3 hzn HFIVE HCL HCC HSL
  have oR : ∀ row, Only [R] w3 (w3.setRow R row) := fun row => oz.setRow (.inl (by simp)) _
  have HFIN : Hid (∀ row, ReO w (w3.setRow R row) p (allA p tb tv lb O) (doA a c).1 (doA a c).2 (.returned (.agg #[.int .i64 1, .int .i64 0, .slice none 0 0]))) := Hd (fun row => HE.out ▸ ReO.nil rfl (wide_lt (by omega) (by omega)) (wide_lt (by omega) (by omega)) ⟨tb, tv, lb, sb, O, B, HX3.out.keep (oR row) (fun k hk hm => by simp at hm; subst hm; exact hRn.out hk), rfl⟩ (HO3.out.of0.trans (oR row) (fun x hx => by simp at hx; subst hx; exact .inr hwR)) (fun x hx => .inl hx))
  have HRF := Hd HR3.out
  have hst := HRF.out
  have hone : (#[.int .i64 1, .int .i64 0, .slice none 0 0] : Array Value).all (·.oneCell') = true := by simp [Value.oneCell']
  clear oR
  go_wp2_with (refine wpList_store_row rfl 34 _ _ rfl R #[.int .i64 1, .int .i64 0, .slice none 0 0] rfl rfl 34 _ hst (by kernel_rfl) rfl hone ?_)
  (try simp only [Exit.inBlock, Exit.then])
  refine bodyPost_ret (v := .agg #[.int .i64 1, .int .i64 0, .slice none 0 0]) ?_ rfl (HFIN.out _)
  exact results_row Tryz.results20 _ _ R 34 [.int .i64 1, .int .i64 0, .slice none 0 0] _ rfl (Cells.setRow HRF.out [.int .i64 1, .int .i64 0, .slice none 0 0]) Tryz.underlying34 rfl (by kernel_rfl)
 | true =>
  obtain ⟨c0, c1, c2, c3, c4, c5, c6, c7, c8, c9, c10⟩ := cm_cells HCZ3.out
  have CC := Hd (HCC.out w3)
  have HB := Hd hb
  clear hb HCC HE1
  go_wp2_with fail
  refine CC.out.mono ?_
  rintro e w4 ⟨rfl, ho4⟩
  have HX4 := Hd (HX3.out.keep ho4 (by simp))
  have HO4 := Hd (HO3.out.tr ho4)
  have HR4 := Hd (HR3.out.only ho4 (by simp))
  have HCZ4 := Hd (HCZ3.out.only ho4 (by simp))
  clear c0 c1 c2 c3 c4 c5 c6 c7 c8 c9 c10 ho4 CC HX3 HO3 HR3 HCZ3
  cases hcl : clB c.kd with
  | true =>
   have HE := Hd (HE2.out HB.out hcl)
   obtain ⟨c0, c1, c2, c3, c4, c5, c6, c7, c8, c9, c10⟩ := cm_cells HCZ4.out
   have CX := Hd (HCL.out w4 ⟨tb, tv, lb, sb, O, B, HX4.out, rfl⟩)
   rw [← HE.out] at CX
   clear hcl HE2 HE3 HFIVE HCL HSL
   go_wp2_with fail
   refine CX.out.mono ?_
   rintro e w5 ⟨pv, K', rfl, hp5, hn5, hA5, ho5, hN5⟩
   obtain ⟨r, hr⟩ : ∃ r, (doA a c).1 = r := ⟨_, rfl⟩
   rw [hr] at hp5 hn5 ⊢
   obtain ⟨PA, pc, rfl⟩ := hp5.ps.shape
   have hR5 := HR4.out.only ho5 hRn.out
   have hRs := HR4.out.lt
   have hRK : R ∉ K' := fun hm => by
    rcases hN5 R hm with e | e
    · exact hRn.out e
    · omega
   have oR : ∀ row, Only [R] w5 (w5.setRow R row) := fun row => oz.setRow (.inl (by simp)) _
   have hws := HO4.out.size
   have hpF : ∀ row, RpAt (w5.setRow R row) (.slice PA r.ps.length pc) r := fun row => by
    refine ⟨?_, hp5.er, hp5.n, hp5.sm, hp5.len⟩
    by_cases h0 : 0 < r.ps.length
    · exact (hp5.ps.past (oR row) (Nat.le_refl _) (fun g hg hm => by simp at hm; have := (hn5 h0 g hg).1; omega)).more (oR row).size
    · obtain ⟨z1, z2, z3, z4, z5, z6, z7⟩ := hp5.ps
      exact ⟨z1, z2, z3, z4, z5, z6, fun hh => by omega⟩
   have HFIN : Hid (∀ row, ReO w (w5.setRow R row) p (allA p tb tv lb O) (doA a c).1 (doA a c).2 (.returned (.agg #[.int .i64 r.er, .int .i64 r.n, .slice PA r.ps.length pc]))) := Hd (fun row => by
    rw [hr]
    exact ⟨.slice PA r.ps.length pc, K', rfl, hpF row, fun h0 g hg => ⟨by have := (hn5 h0 g hg).1; omega, (hn5 h0 g hg).2⟩, hA5.keep (oR row) (fun k hk hm => by simp at hm; subst hm; exact hRK hk), (HO4.out.of0.trans ho5 (fun x hx => .inl hx)).trans (oR row) (fun x hx => by simp at hx; subst hx; exact .inr hwR), fun x hx => (hN5 x hx).imp id (fun h => by omega)⟩)
   have HRF := Hd hR5
   have hst := HRF.out
   have hone : (#[.int .i64 r.er, .int .i64 r.n, .slice PA r.ps.length pc] : Array Value).all (·.oneCell') = true := by simp [Value.oneCell']
   clear hp5 hn5 hA5 ho5 hN5 hR5 hRs hRK oR hws hpF CX hr c0 c1 c2 c3 c4 c5 c6 c7 c8 c9 c10
   go_wp2_with (refine wpList_store_row rfl 34 _ _ rfl R #[.int .i64 r.er, .int .i64 r.n, .slice PA r.ps.length pc] rfl rfl 34 _ hst (by kernel_rfl) rfl hone ?_)
   (try simp only [Exit.inBlock, Exit.then])
   refine bodyPost_ret (v := .agg #[.int .i64 r.er, .int .i64 r.n, .slice PA r.ps.length pc]) ?_ rfl (HFIN.out _)
   exact results_row Tryz.results20 _ _ R 34 [.int .i64 r.er, .int .i64 r.n, .slice PA r.ps.length pc] _ rfl (Cells.setRow HRF.out [.int .i64 r.er, .int .i64 r.n, .slice PA r.ps.length pc]) Tryz.underlying34 rfl (by kernel_rfl)
  | false =>
   have HE := Hd (HE3.out HB.out hcl)
   obtain ⟨c0, c1, c2, c3, c4, c5, c6, c7, c8, c9, c10⟩ := cm_cells HCZ4.out
   clear hcl HE2 HE3 HCL c1 c2 c3 c4 c5 c6 c7 c8 c9 c10
   rw [← HE.out] at HFIVE
   go_upto_block 1 with fail
   go_cut [5] (fun x wx => ∃ fd, x = .func (.func fd) #[] #[] ∧ (∀ (ys : Array Value) (w' : World), (callFunc fd ys).run Tryz.prog w' = .ok (.enter fd ys) w') ∧ Hid (Only [] w4 wx ∧ ∀ w', AgAt w' p (allA p tb tv lb O) a → ItK w' (allA p tb tv lb O) iv c → Calls Tryz.prog fd #[.pointer (some ⟨p, 0, none⟩), .agg #[.int .i64 c.kd, .int .i64 c.ss, .int .i64 c.sq, .int .i64 c.sh, .int .i64 c.nd, .int .i64 c.ep, .int .i64 c.n, .string ⟨c.fd.toArray⟩, .string ⟨c.id.toArray⟩, iv, .bool c.fl]] w' fun e w'' => ReO w' w'' p (allA p tb tv lb O) (doA a c).1 (doA a c).2 e))
   case first =>
    by_cases k1 : c.kd = 1
    · have HF := Hd (HFIVE.out.1 k1)
      have t1 : (c.kd == 1) = true := by simpa using k1
      clear k1 HFIVE
      go_wp2_with fail
      go_meet
      exact ⟨_, rfl, fun _ _ => rfl, Hd ⟨Only.refl _ _, fun w' h1 _ => HF.out w' h1⟩⟩
    by_cases k6 : c.kd = 6
    · have HF := Hd (HFIVE.out.2.1 k1 k6)
      have t1 : (c.kd == 1) = false := by simpa using k1
      have t6 : (c.kd == 6) = true := by simpa using k6
      clear k1 k6 HFIVE
      go_wp2_with fail
      go_meet
      exact ⟨_, rfl, fun _ _ => rfl, Hd ⟨Only.refl _ _, fun w' h1 _ => HF.out w' h1⟩⟩
    by_cases k7 : c.kd = 7
    · have HF := Hd (HFIVE.out.2.2.1 k1 k6 k7)
      have t1 : (c.kd == 1) = false := by simpa using k1
      have t6 : (c.kd == 6) = false := by simpa using k6
      have t7 : (c.kd == 7) = true := by simpa using k7
      clear k1 k6 k7 HFIVE
      go_wp2_with fail
      go_meet
      exact ⟨_, rfl, fun _ _ => rfl, Hd ⟨Only.refl _ _, fun w' h1 _ => HF.out w' h1⟩⟩
    by_cases k9 : c.kd = 9
    · have HF := Hd (HFIVE.out.2.2.2.1 k1 k6 k7 k9)
      have t1 : (c.kd == 1) = false := by simpa using k1
      have t6 : (c.kd == 6) = false := by simpa using k6
      have t7 : (c.kd == 7) = false := by simpa using k7
      have t9 : (c.kd == 9) = true := by simpa using k9
      clear k1 k6 k7 k9 HFIVE
      go_wp2_with fail
      go_meet
      exact ⟨_, rfl, fun _ _ => rfl, Hd ⟨Only.refl _ _, fun w' h1 _ => HF.out w' h1⟩⟩
    have HF := Hd (HFIVE.out.2.2.2.2 k1 k6 k7 k9)
    have t1 : (c.kd == 1) = false := by simpa using k1
    have t6 : (c.kd == 6) = false := by simpa using k6
    have t7 : (c.kd == 7) = false := by simpa using k7
    have t9 : (c.kd == 9) = false := by simpa using k9
    clear k1 k6 k7 k9 HFIVE
    go_wp2_with fail
    go_meet
    exact ⟨_, rfl, fun _ _ => rfl, Hd ⟨Only.refl _ _, HF.out⟩⟩
   case rest =>
   obtain ⟨fd, rfl, hcf, HW⟩ := hcut
   obtain ⟨wa, hwa⟩ : ∃ u, u = wc := ⟨wc, rfl⟩
   subst hwa
   obtain ⟨c0, c1, c2, c3, c4, c5, c6, c7, c8, c9, c10⟩ := cm_cells (HCZ4.out.only HW.out.1 (by simp))
   have CX := Hd (HW.out.2 wa ⟨tb, tv, lb, sb, O, B, HX4.out.keep HW.out.1 (by simp), rfl⟩ (HSL.out.only ((HO4.out.tr HW.out.1).of0)))
   have HO4b := Hd (HO4.out.tr HW.out.1)
   have HR4b := Hd (HR4.out.only HW.out.1 (by simp))
   clear HO4 HR4 HX4 HCZ4 HFIVE HSL
   go_wp2_with fail
   refine CX.out.mono ?_
   rintro e w5 ⟨pv, K', rfl, hp5, hn5, hA5, ho5, hN5⟩
   obtain ⟨r, hr⟩ : ∃ r, (doA a c).1 = r := ⟨_, rfl⟩
   rw [hr] at hp5 hn5 ⊢
   obtain ⟨PA, pc, rfl⟩ := hp5.ps.shape
   have hR5 := HR4b.out.only ho5 hRn.out
   have hRs := HR4b.out.lt
   have hRK : R ∉ K' := fun hm => by
    rcases hN5 R hm with e | e
    · exact hRn.out e
    · omega
   have oR : ∀ row, Only [R] w5 (w5.setRow R row) := fun row => oz.setRow (.inl (by simp)) _
   have hws := HO4b.out.size
   have hpF : ∀ row, RpAt (w5.setRow R row) (.slice PA r.ps.length pc) r := fun row => by
    refine ⟨?_, hp5.er, hp5.n, hp5.sm, hp5.len⟩
    by_cases h0 : 0 < r.ps.length
    · exact (hp5.ps.past (oR row) (Nat.le_refl _) (fun g hg hm => by simp at hm; have := (hn5 h0 g hg).1; omega)).more (oR row).size
    · obtain ⟨z1, z2, z3, z4, z5, z6, z7⟩ := hp5.ps
      exact ⟨z1, z2, z3, z4, z5, z6, fun hh => by omega⟩
   have HFIN : Hid (∀ row, ReO w (w5.setRow R row) p (allA p tb tv lb O) (doA a c).1 (doA a c).2 (.returned (.agg #[.int .i64 r.er, .int .i64 r.n, .slice PA r.ps.length pc]))) := Hd (fun row => by
    rw [hr]
    exact ⟨.slice PA r.ps.length pc, K', rfl, hpF row, fun h0 g hg => ⟨by have := (hn5 h0 g hg).1; omega, (hn5 h0 g hg).2⟩, hA5.keep (oR row) (fun k hk hm => by simp at hm; subst hm; exact hRK hk), (HO4b.out.of0.trans ho5 (fun x hx => .inl hx)).trans (oR row) (fun x hx => by simp at hx; subst hx; exact .inr hwR), fun x hx => (hN5 x hx).imp id (fun h => by omega)⟩)
   have HRF := Hd hR5
   have hst := HRF.out
   have hone : (#[.int .i64 r.er, .int .i64 r.n, .slice PA r.ps.length pc] : Array Value).all (·.oneCell') = true := by simp [Value.oneCell']
   clear hp5 hn5 hA5 ho5 hN5 hR5 hRs hRK oR hws hpF CX hr c0 c1 c2 c3 c4 c5 c6 c7 c8 c9 c10
   go_wp2_with (refine wpList_store_row rfl 34 _ _ rfl R #[.int .i64 r.er, .int .i64 r.n, .slice PA r.ps.length pc] rfl rfl 34 _ hst (by kernel_rfl) rfl hone ?_)
   (try simp only [Exit.inBlock, Exit.then])
   refine bodyPost_ret (v := .agg #[.int .i64 r.er, .int .i64 r.n, .slice PA r.ps.length pc]) ?_ rfl (HFIN.out _)
   exact results_row Tryz.results20 _ _ R 34 [.int .i64 r.er, .int .i64 r.n, .slice PA r.ps.length pc] _ rfl (Cells.setRow HRF.out [.int .i64 r.er, .int .i64 r.n, .slice PA r.ps.length pc]) Tryz.underlying34 rfl (by kernel_rfl)
end Go.Proofs.YtcjfmildalappaaGreat
namespace Go.Proofs.YtcjfmildalappaaGreat
open Go.RowKit Go.ChangeShapes Go.WideShapes Go.Deep
structure C19 where
 c : Cm
 iv : Value
def cmL (l : List C19) : List Value := l.flatMap fun a => a.c.cells a.iv
theorem cmL_get (l : List C19) (i j : Nat) (x : C19) (h : l[i]? = some x) (hj : j < 11) : (cmL l)[i * 11 + j]? = (x.c.cells x.iv)[j]? := flat_get (fun a : C19 => a.c.cells a.iv) 11 (fun _ => rfl) l i j x h hj
theorem cmL_at {w : World} {B : Nat} {v : Value} {l : List C19} (h : SlAt w B v 11 l.length (cmL l)) {k : Nat} {a : C19} (hk : l[k]? = some a) :
 ∃ b o c, v = .slice (some ⟨b, o, none⟩) l.length c ∧ w.cell? ⟨b, o + k * 11, none⟩ = some (.int .i64 a.c.kd) ∧ w.cell? ⟨b, o + k * 11 + 1, none⟩ = some (.int .i64 a.c.ss) ∧ w.cell? ⟨b, o + k * 11 + 2, none⟩ = some (.int .i64 a.c.sq) ∧ w.cell? ⟨b, o + k * 11 + 3, none⟩ = some (.int .i64 a.c.sh) ∧ w.cell? ⟨b, o + k * 11 + 4, none⟩ = some (.int .i64 a.c.nd) ∧ w.cell? ⟨b, o + k * 11 + 5, none⟩ = some (.int .i64 a.c.ep) ∧ w.cell? ⟨b, o + k * 11 + 6, none⟩ = some (.int .i64 a.c.n) ∧ w.cell? ⟨b, o + k * 11 + 7, none⟩ = some (.string ⟨a.c.fd.toArray⟩) ∧ w.cell? ⟨b, o + k * 11 + 8, none⟩ = some (.string ⟨a.c.id.toArray⟩) ∧ w.cell? ⟨b, o + k * 11 + 9, none⟩ = some (a.iv) ∧ w.cell? ⟨b, o + k * 11 + 10, none⟩ = some (.bool a.c.fl) := by
 have hlt : k < l.length := (List.getElem?_eq_some_iff.1 hk).1
 obtain ⟨b, o, c, hv, _, hc⟩ := h.at_ (by omega)
 exact ⟨b, o, c, hv, hc (k * 11 + 0) _ (cmL_get l k 0 a hk (by omega)), hc (k * 11 + 1) _ (cmL_get l k 1 a hk (by omega)), hc (k * 11 + 2) _ (cmL_get l k 2 a hk (by omega)), hc (k * 11 + 3) _ (cmL_get l k 3 a hk (by omega)), hc (k * 11 + 4) _ (cmL_get l k 4 a hk (by omega)), hc (k * 11 + 5) _ (cmL_get l k 5 a hk (by omega)), hc (k * 11 + 6) _ (cmL_get l k 6 a hk (by omega)), hc (k * 11 + 7) _ (cmL_get l k 7 a hk (by omega)), hc (k * 11 + 8) _ (cmL_get l k 8 a hk (by omega)), hc (k * 11 + 9) _ (cmL_get l k 9 a hk (by omega)), hc (k * 11 + 10) _ (cmL_get l k 10 a hk (by omega))⟩
theorem open_cmds {H : Type} {enc : TypeId × Value → H} {w : World} {base : Nat} {spare : Nat → Bool} {held : Bool} {r : Reach} {b0 : Nat} {v : Value} {d : DataW H} {p : List MemPlace}
 (hv : Value.okWide Tryz.prog w r b0 22 v) (h : DataW.Trod enc Tryz.prog w base spare held 22 v d p) :
 ∃ l : List C19, SlAt w w.heap.size v 11 l.length (cmL l) ∧ ∀ a ∈ l, CmAt w a.iv a.c := by
 obtain ⟨n, xs, hs, hx⟩ := open_structs Tryz.underlying22 Tryz.underlying38 (by kernel_rfl) (by kernel_rfl) hv h
 obtain ⟨l, hl, rfl, hg⟩ := flat_of (fun a : C19 => a.c.cells a.iv) 11 (fun _ => rfl) (fun a => CmAt w a.iv a.c) n xs hs.1 fun i hi => by
  obtain ⟨u0, y0, m0, e0, h0⟩ := hx i hi 0 _ rfl
  obtain ⟨u1, y1, m1, e1, h1⟩ := hx i hi 1 _ rfl
  obtain ⟨u2, y2, m2, e2, h2⟩ := hx i hi 2 _ rfl
  obtain ⟨u3, y3, m3, e3, h3⟩ := hx i hi 3 _ rfl
  obtain ⟨u4, y4, m4, e4, h4⟩ := hx i hi 4 _ rfl
  obtain ⟨u5, y5, m5, e5, h5⟩ := hx i hi 5 _ rfl
  obtain ⟨u6, y6, m6, e6, h6⟩ := hx i hi 6 _ rfl
  obtain ⟨u7, y7, m7, e7, h7⟩ := hx i hi 7 _ rfl
  obtain ⟨u8, y8, m8, e8, h8⟩ := hx i hi 8 _ rfl
  obtain ⟨u9, y9, m9, e9, h9⟩ := hx i hi 9 _ rfl
  obtain ⟨u10, y10, m10, e10, h10⟩ := hx i hi 10 _ rfl
  obtain ⟨z0, q0, _, w0⟩ := DataW.trod_int Tryz.underlying3 h0
  obtain ⟨z1, q1, _, w1⟩ := DataW.trod_int Tryz.underlying3 h1
  obtain ⟨z2, q2, _, w2⟩ := DataW.trod_int Tryz.underlying3 h2
  obtain ⟨z3, q3, _, w3⟩ := DataW.trod_int Tryz.underlying3 h3
  obtain ⟨z4, q4, _, w4⟩ := DataW.trod_int Tryz.underlying3 h4
  obtain ⟨z5, q5, _, w5⟩ := DataW.trod_int Tryz.underlying3 h5
  obtain ⟨z6, q6, _, w6⟩ := DataW.trod_int Tryz.underlying3 h6
  obtain ⟨z7, q7, _, w7⟩ := DataW.trod_string Tryz.underlying9 h7
  obtain ⟨z8, q8, _, w8⟩ := DataW.trod_string Tryz.underlying9 h8
  obtain ⟨its, hi1, hi2⟩ := open_items_in h9
  obtain ⟨z10, q10, _⟩ := DataW.trod_bool Tryz.underlying4 h10
  simp at q0 q1 q2 q3 q4 q5 q6 q7 q8 q10
  subst q0; subst q1; subst q2; subst q3; subst q4; subst q5; subst q6; subst q7; subst q8; subst q10
  refine ⟨⟨⟨z0, z1, z2, z3, z4, z5, z6, z7.data.toList, z8.data.toList, its, z10⟩, u9⟩, ⟨hi1, hi2, by rw [ba_len]; exact w7, by rw [ba_len]; exact w8, ?_⟩, fun j hj => ?_⟩
  · intro x hx
    simp only [List.mem_cons, List.not_mem_nil, or_false] at hx
    rcases hx with rfl | rfl | rfl | rfl | rfl | rfl | rfl
    · exact wide64_of_wf w0
    · exact wide64_of_wf w1
    · exact wide64_of_wf w2
    · exact wide64_of_wf w3
    · exact wide64_of_wf w4
    · exact wide64_of_wf w5
    · exact wide64_of_wf w6
  · match j, hj with
    | 0, _ => exact e0
    | 1, _ => exact e1
    | 2, _ => exact e2
    | 3, _ => exact e3
    | 4, _ => exact e4
    | 5, _ => exact e5
    | 6, _ => exact e6
    | 7, _ => simpa [Cm.cells] using e7
    | 8, _ => simpa [Cm.cells] using e8
    | 9, _ => exact e9
    | 10, _ => exact e10
 subst hl
 exact ⟨l, hs, hg⟩
structure SmI (x : It) : Prop where
 id : x.id.length ≤ 300
 ti : x.ti.length ≤ 300
 li : x.li.length ≤ 300
structure SmC (a : Cm) : Prop where
 fd : a.fd.length ≤ 300
 id : a.id.length ≤ 300
 n : a.its.length ≤ 30
 its : ∀ x ∈ a.its, SmI x
structure Sm19 (l : List C19) : Prop where
 n : l.length ≤ 80
 al : ∀ a ∈ l, SmC a.c
theorem all_snoc {α : Type} {P : α → Prop} {l : List α} {k : Nat} {x : α} (h : l[k]? = some x) (h1 : ∀ a ∈ l.take k, P a) (hx : P x) : ∀ a ∈ l.take (k + 1), P a := by
 intro a ha
 rw [List.take_add_one, h] at ha
 rcases List.mem_append.1 ha with ha | ha
 · exact h1 a ha
 · simp at ha; subst ha; exact hx
def SmR (l : List C19) (w : World) (e : Ending) (w' : World) : Prop := ∃ bo, e = .returned (.bool bo) ∧ (bo = true → Sm19 l) ∧ Only [] w w'
theorem SmR.no {l : List C19} {w w' : World} (ho : Only [] w w') : SmR l w (.returned (.bool false)) w' := ⟨false, rfl, fun h => (by cases h), ho⟩
def pkI (c n : Int) : Int := if c < 0 then -(c + 1) % n else c % n
theorem pkI_lt (c n : Int) (hn : 0 < n) : 0 ≤ pkI c n ∧ pkI c n < n := by
 unfold pkI
 split
 · exact ⟨Int.emod_nonneg _ (by omega), Int.emod_lt_of_pos _ hn⟩
 · exact ⟨Int.emod_nonneg _ (by omega), Int.emod_lt_of_pos _ hn⟩
end Go.Proofs.YtcjfmildalappaaGreat
namespace Go.Proofs.YtcjfmildalappaaGreat
open Go.RowKit
structure AgW (W w : World) (p : Nat) (K : List Nat) (n : Nat) (a : AgS) : Prop where
 at_ : AgAt w p K a
 ho : Only [] W w
 lo : ∀ x ∈ K, W.heap.size ≤ x
 i : AgI n a
theorem AgW.read {W w w' : World} {p : Nat} {K : List Nat} {n : Nat} {a : AgS} (h : AgW W w p K n a) (ho : Only [] w w') : AgW W w' p K n a := ⟨h.at_.keep ho (by simp), h.ho.tr ho, h.lo, h.i⟩
theorem AgW.far {W w w' : World} {p : Nat} {K X : List Nat} {n : Nat} {a : AgS} (h : AgW W w p K n a) (ho : Only X w w') (hX : ∀ x ∈ X, x ∉ K ∧ W.heap.size ≤ x) : AgW W w' p K n a :=
 ⟨h.at_.keep ho (fun k hk hm => (hX k hm).1 hk), h.ho.trans ho (fun x hx => .inr (hX x hx).2), h.lo, h.i⟩
def DoW (W w w' : World) (p : Nat) (K : List Nat) (n : Nat) (a : AgS) (r : Rp) (e : Ending) : Prop := ∃ pv K', e = .returned (r.val pv) ∧ RpAt w' pv r ∧ (0 < r.ps.length → ∀ g, pv.ownBlock = some g → w.heap.size ≤ g ∧ g ∉ K') ∧ AgW W w' p K' n a ∧ Only K w w' ∧ (∀ x ∈ K', x ∈ K ∨ w.heap.size ≤ x) ∧ RpK r
theorem agw_do (p : Nat) (K : List Nat) (a : AgS) (n : Nat) (hn : n ≤ 1000000) (c : Cm) (iv : Value) (W w : World) (h : AgW W w p K n a) (hc : CmAt w iv c) (hil : c.its.length ≤ 1000000) (hs : ItK w K iv c) :
 Calls Tryz.prog 20 #[.pointer (some ⟨p, 0, none⟩), c.val iv] w fun e w' => DoW W w w' p K (n + 1) (doA a c).2 (doA a c).1 e := by
 refine (ag_do p K a n (by omega) c iv w h.at_ h.i hc hil hs).mono ?_
 rintro e w' ⟨pv, K', he, hp, hg, hA, ho, hN⟩
 have hst := doA_step h.i (by omega) c (hc.nums _ (by simp)) hil
 exact ⟨pv, K', he, hp, hg, ⟨hA, h.ho.trans ho (fun x hx => .inr (h.lo x hx)), fun x hx => by
  rcases hN x hx with e | e
  · exact h.lo x e
  · exact Nat.le_trans h.ho.size e, hst.1⟩, ho, hN, hst.2⟩
theorem agw_new (W w : World) (h : Only [] W w) : Calls Tryz.prog 18 #[] w fun e w' => ∃ p K, e = .returned (.pointer (some ⟨p, 0, none⟩)) ∧ AgW W w' p K 0 AgS.new ∧ (∀ x ∈ K, w.heap.size ≤ x) ∧ Only [] w w' := by
 refine (ag_new w).mono ?_
 rintro e w' ⟨p, K, he, hA, hl, ho⟩
 exact ⟨p, K, he, ⟨hA, h.tr ho, fun x hx => Nat.le_trans h.size (hl x hx), AgI.new⟩, hl, ho⟩
theorem box_row (w : World) (t : TypeId) (z c : List Value) : Only [] w ((w.alloc (.cells z.toArray t)).setRow w.heap.size c.toArray) ∧ Cells (w.alloc (.cells z.toArray t)) w.heap.size t z ∧ Cells ((w.alloc (.cells z.toArray t)).setRow w.heap.size c.toArray) w.heap.size t c :=
 ⟨((Only.refl [] w).alloc _).trans ((Only.refl [w.heap.size] _).setRow (.inl (by simp)) _) (fun x hx => by simp at hx; subst hx; exact .inr (Nat.le_refl _)), Cells.new w _ _, (Cells.new w t z).setRow c⟩
theorem small_nums {l : List Int} (h : (l.all fun x => decide (-100 ≤ x) && decide (x ≤ 100)) = true) : ∀ x ∈ l, Wide64 x := fun x hx => by
 have := List.all_eq_true.1 h x hx
 simp only [Bool.and_eq_true, decide_eq_true_eq] at this
 exact ⟨by omega, by omega⟩
theorem ingA_d (a : AgS) (c : Cm) : (ingA a c).2.d = a.d ∧ (ingA a c).2.t = a.t := by
 unfold ingA
 split
 · exact ⟨rfl, rfl⟩
 · split <;> exact ⟨rfl, rfl⟩
theorem once_eq {l : List S15.Ses} (ho : S15.Once l) {x y : S15.Ses} (hx : x ∈ l) (hy : y ∈ l) (h : x.id = y.id) : x = y := by
 unfold S15.Once at ho
 induction l with
 | nil => cases hx
 | cons a l ih =>
  rw [List.map_cons, List.nodup_cons] at ho
  rcases List.mem_cons.1 hx with rfl | hx'
  · rcases List.mem_cons.1 hy with rfl | hy'
    · rfl
    · exact absurd (List.mem_map.2 ⟨y, hy', h.symm⟩) ho.1
  · rcases List.mem_cons.1 hy with e | hy'
    · subst e
      exact absurd (List.mem_map.2 ⟨x, hx', h⟩) ho.1
    · exact ih ho.2 hx' hy'
theorem did_reg {id seq : Int} {r : ByteArray} {t : S15.TS} (h : S15.Did id seq r t) : S15.Did id seq r ⟨S15.regL t.l ⟨t.ever + 1, 0, .empty⟩, t.ever + 1⟩ := S15.did_does h ⟨0, 0, 0, .empty⟩
theorem did_done {id seq : Int} {r : ByteArray} {t : S15.TS} (h : S15.Did id seq r t) (i s : Int) (q : ByteArray) : S15.Did id seq r ⟨S15.doneL t.l i s q, t.ever⟩ := S15.did_does h ⟨2, i, s, q⟩
theorem othA_t (a : AgS) (c : Cm) : (othA a c).2.t = if c.kd = 1 then ⟨S15.regL a.t.l ⟨a.t.ever + 1, 0, .empty⟩, a.t.ever + 1⟩ else a.t := by
 unfold othA
 split
 · rfl
 · split
   · rfl
   · split
     · rfl
     · split
       · rfl
       · exact (ingA_d a c).2
theorem doA_did {id seq : Int} {r : ByteArray} {a : AgS} (h : S15.Did id seq r a.t) (c : Cm) : S15.Did id seq r (doA a c).2.t := by
 unfold doA
 split
 · exact h
 · split
   · rw [othA_t]
     split
     · exact did_reg h
     · exact h
   · split
     · exact h
     · split
       · exact h
       · split
         · exact h
         · exact did_done h _ _ _
theorem again19 {a : AgS} (c : Cm) (hr : rightB c = true) (hc : clB c.kd = true) {r : Rp} (hk : RpK r) (h : S15.Did c.ss c.sq ⟨(rpb r).toArray⟩ a.t) :
 (doA a c).2 = a ∧ ((doA a c).1 = r ∨ (doA a c).1 = errR 18 ∨ (doA a c).1 = errR 17) := by
 unfold doA
 rw [if_neg (by simp [hr]), if_neg (by simp [hc])]
 rcases S15.did_ask h with e | e | e
 · rw [e]
   refine ⟨rfl, .inl ?_⟩
   show keptR ⟨(rpb r).toArray⟩ = r
   exact keptR_of hk
 · rw [e]; exact ⟨rfl, .inr (.inl rfl)⟩
 · rw [e]; exact ⟨rfl, .inr (.inr rfl)⟩
def agB (a : AgS) : List UInt8 := tsb [S15.packL a.t.l a.t.ever, a.d.bytes, stB a.s]
theorem St.sorted {w : World} {b : Nat} {O : List Nat} {S : Sv} (h : St w b O S) : S.Pairwise (fun a b => a.1 < b.1) ∧ S.length ≤ 20 ∧ ∀ x ∈ S, nmL x.1 = true := by
 obtain ⟨mb, T, h, rfl, rfl⟩ := h
 refine ⟨List.pairwise_map.2 h.srt, by rw [List.length_map]; exact h.cap, fun x hx => ?_⟩
 obtain ⟨t, ht, rfl⟩ := List.mem_map.1 hx
 exact h.nml t ht
theorem AgAt.sj {w : World} {p : Nat} {K : List Nat} {a : AgS} {n : Nat} (h : AgAt w p K a) (hI : AgI n a) : SvJ a.s := by
 obtain ⟨tb, tv, lb, sb, O, B, h, rfl⟩ := h
 obtain ⟨h1, h2, h3⟩ := h.s.sorted
 exact SvJ.of hI.si hI.sz h1 h2 h3
theorem AgI.fit {n : Nat} {a : AgS} (h : AgI n a) (hn : n ≤ 1000000000) : Wide64 a.t.ever ∧ a.t.l.length ≤ 8 ∧ (∀ x ∈ a.t.l, x.Fit) := by
 have h1 := h.ok.ever
 have h2 := h.ever
 exact ⟨⟨by omega, by omega⟩, h.ok.len, S15.g_fit h.ok h.g (by omega)⟩
theorem packL_le {n : Nat} {a : AgS} (h : AgI n a) (hn : n ≤ 1000000000) : (S15.packL a.t.l a.t.ever).length ≤ 900000 := by
 obtain ⟨h1, h2, h3⟩ := h.fit hn
 have i1 := (ib_length a.t.ever h1).2
 have i2 := (ib_length (a.t.l.length : Int) ⟨by omega, by omega⟩).2
 have key : ∀ l : List S15.Ses, (∀ s ∈ l, s.Fit ∧ S15.SesG s) → (S15.sesB l).length ≤ 100040 * l.length := by
  intro l
  induction l with
  | nil => intro _; simp [S15.sesB]
  | cons x l ih =>
   intro hl
   obtain ⟨hx, hg⟩ := hl x (by simp)
   have j1 := (ib_length x.id hx.id).2
   have j2 := (ib_length x.seq hx.seq).2
   have hs := hg.size
   have e : x.reply.data.toList.length = x.reply.size := by rw [Array.length_toList]; rfl
   have hm : 100040 * (l.length + 1) = 100040 * l.length + 100040 := by omega
   have j3 := (tb_length x.reply.data.toList (by omega)).2
   have hih := ih (fun y hy => hl y (by simp [hy]))
   have hb : x.bytes.length ≤ 100040 := by
    unfold S15.Ses.bytes
    simp only [List.length_append]
    omega
   unfold S15.sesB at hih ⊢
   rw [List.flatMap_cons, List.length_append, List.length_cons]
   omega
 have h4 := key a.t.l (fun s hs => ⟨h3 s hs, h.g s hs⟩)
 unfold S15.packL
 simp only [List.length_append]
 omega
theorem dbytes_le {n : Nat} {a : AgS} (h : AgI n a) (hn : n ≤ 1000000000) : a.d.bytes.length ≤ 1000 := by
 have hf := h.d.fit (by omega)
 have h8 := h.d.up.len
 have i1 := (ib_length a.d.now hf.now).2
 have key : ∀ l : List L16.Ls, (∀ x ∈ l, x ∈ a.d.l) → (L16.lsB l).length ≤ 30 * l.length := by
  intro l
  induction l with
  | nil => intro _; simp [L16.lsB]
  | cons x l ih =>
   intro hl
   have hx := hl x (by simp)
   have j := L16.Ls.bytes_length (hf.node x hx) (hf.epoch x hx) (hf.till x hx)
   have := ih (fun y hy => hl y (by simp [hy]))
   unfold L16.lsB at this ⊢
   rw [List.flatMap_cons, List.length_append, List.length_cons]
   omega
 have := key a.d.l (fun x hx => hx)
 unfold L16.Tb.bytes
 rw [List.length_append]
 omega
theorem stB_le {S : Sv} (h : SvJ S) : (stB S).length ≤ 4000000 := by
 have key : ∀ x ∈ S, (fdB x).length ≤ 130000 := fun x hx => by
  have hj := (h.all x hx).1
  have hn := (h.all x hx).2
  have h1 := fdH_le x (by have := (nmL_len hn).2; omega) hj.i.sh
  have h2 := flat_le spB 631 x.2.ps (fun p hp => by
   have hs := itR_sh (hj.i.its p hp)
   have t1 := tb_top p.it.id 200 hs.id (by omega)
   have t2 := tb_top p.it.ti 200 hs.ti (by omega)
   have t3 := tb_top p.it.li 200 hs.li (by omega)
   have hb : (bb p.rd).length = 1 := rfl
   unfold spB itT
   simp only [List.length_append]
   omega)
  have h3 := hj.i.ps.n
  have h4 : 631 * x.2.ps.length ≤ 631 * 200 := Nat.mul_le_mul_left _ h3
  unfold fdB psB
  rw [List.length_append]
  omega
 have h1 := flat_le fdB 130000 S key
 have h2 := h.n
 have i := (ib_length (S.length : Int) ⟨by omega, by omega⟩).2
 unfold stB fsB
 rw [List.length_append]
 omega
theorem agB_le {n : Nat} {a : AgS} (h : AgI n a) (hn : n ≤ 1000000000) (hj : SvJ a.s) : (agB a).length ≤ 5000000 := by
 have h1 := packL_le h hn
 have h2 := dbytes_le h hn
 have h3 := stB_le hj
 have t1 := (tb_length (S15.packL a.t.l a.t.ever) (by omega)).2
 have t2 := (tb_length a.d.bytes (by omega)).2
 have t3 := (tb_length (stB a.s) (by omega)).2
 unfold agB tsb
 simp only [List.flatMap_cons, List.flatMap_nil, List.length_append, List.length_nil]
 omega
theorem ag_save (p : Nat) (K : List Nat) (a : AgS) (n : Nat) (hn : n ≤ 1000000000) (w : World) (h : AgAt w p K a) (hI : AgI n a) :
 Calls Tryz.prog 28 #[.pointer (some ⟨p, 0, none⟩)] w fun e w' => e = .returned (.string ⟨(agB a).toArray⟩) ∧ Only [] w w' := by
 have hle := agB_le hI hn (h.sj hI)
 obtain ⟨f1, f2, f3⟩ := hI.fit hn
 have f4 := hI.d.fit (n := n) (by omega)
 have f5 := hI.d.up.len
 obtain ⟨tb, tv, lb, sb, O, B, hX, rfl⟩ := h
 have q0 := hX.cells.cell (k := 0) rfl
 have q1 := hX.cells.cell (k := 1) rfl
 have q2 := hX.cells.cell (k := 2) rfl
 have hpl := hX.cells.lt
 have CT := Hd (fun v : Since w => S15.tbs_pack B tb a.t.l a.t.ever v.w (hX.keep v.2 (by simp)).t.s (by omega) f1 f3)
 have CL := Hd (fun v : Since w => L16.lease_pack lb a.d v.w (hX.d.only v.2 (by simp)) f5 f4)
 have CS := Hd (fun v : Since w => st_pack sb O a.s v.w (hX.s.keep v.2 (by simp)) hI.si.sh)
 have HB := Hd hle
 obtain ⟨X, hX0⟩ : ∃ X, S15.packL a.t.l a.t.ever = X := ⟨_, rfl⟩
 obtain ⟨Y, hY0⟩ : ∃ X, a.d.bytes = X := ⟨_, rfl⟩
 obtain ⟨Z, hZ0⟩ : ∃ X, stB a.s = X := ⟨_, rfl⟩
 have hag : agB a = tsb [X, Y, Z] := by unfold agB; rw [hX0, hY0, hZ0]
 rw [hX0] at CT
 rw [hY0] at CL
 rw [hZ0] at CS
 rw [hag] at HB
 have HAG := Hd hag
 have v0 := fun u : Since w => u.cell q0
 have v1 := fun u : Since w => u.cell q1
 have v2 := fun u : Since w => u.cell q2
 clear hle f1 f2 f3 f4 f5 hX0 hY0 hZ0 hag q0 q1 q2 hX hI hn
 go_enter Tryz.func28, Tryz.ntmps28
 go_upto_region 1 with fail
 refine wp_region_only_tail w oz 15 (by kernel_rfl) (by kernel_rfl) ?_
 simp only [tk1, tk0, dr1, dr0]
 repeat (go_big_quiet_step (first | (go_at_call 76; refine Calls.only (CT.out _)) | (go_at_call 77; refine Calls.only (CL.out _)) | (go_at_call 78; refine Calls.only (CS.out _))))
 refine wpQuiet_nil ?_
 rintro ⟨w3, ho3⟩
 dsimp only
 have CX := Hd (codec_texts_w [X, Y, Z] (by simp) (by have := HB.out; omega) 3 rfl (w3.alloc (.cells #[.string ⟨X.toArray⟩, .string ⟨Y.toArray⟩, .string ⟨Z.toArray⟩] 9)) w3.heap.size (Cells.new w3 _ _))
 have HO3 := Hd ((ho3.alloc (.cells #[.string ⟨X.toArray⟩, .string ⟨Y.toArray⟩, .string ⟨Z.toArray⟩] 9)))
 clear v0 v1 v2 CT CL CS ho3
 go_wp2_with fail
 refine CX.out.mono ?_
 rintro e w4 ⟨rfl, ho4⟩
 go_wp2_with fail
 go_ret
 exact ⟨by rw [HAG.out]; rfl, HO3.out.tr ho4⟩
def Pv (w : World) (K : List Nat) (pv : Value) (r : Rp) : Prop := RpAt w pv r ∧ (0 < r.ps.length → ∀ g, pv.ownBlock = some g → g ∉ K)
theorem RpAt.lt {w : World} {pv : Value} {r : Rp} (h : RpAt w pv r) (h0 : 0 < r.ps.length) {g : Nat} (hg : pv.ownBlock = some g) : g < w.heap.size := by
 obtain ⟨b, o, c, rfl, hb, _⟩ := h.ps.at_ (by omega)
 simp [Value.ownBlock] at hg
 omega
theorem RpAt.past' {S : List Nat} {w w' : World} {pv : Value} {r : Rp} (h : RpAt w pv r) (ho : Only S w w') (hS : 0 < r.ps.length → ∀ g, pv.ownBlock = some g → g ∉ S) : RpAt w' pv r := by
 refine ⟨?_, h.er, h.n, h.sm, h.len⟩
 by_cases h0 : 0 < r.ps.length
 · exact (h.ps.past ho (Nat.le_refl _) (hS h0)).more ho.size
 · obtain ⟨z1, z2, z3, z4, z5, z6, z7⟩ := h.ps
   exact ⟨z1, z2, z3, z4, z5, z6, fun hh => by omega⟩
theorem Pv.does {w w' : World} {K K' : List Nat} {pv : Value} {r : Rp} (h : Pv w K pv r) (ho : Only K w w') (hN : ∀ x ∈ K', x ∈ K ∨ w.heap.size ≤ x) : Pv w' K' pv r :=
 ⟨h.1.past' ho h.2, fun h0 g hg hm => by
  rcases hN g hm with e | e
  · exact h.2 h0 g hg e
  · have := h.1.lt h0 hg; omega⟩
theorem Pv.read {w w' : World} {K : List Nat} {pv : Value} {r : Rp} (h : Pv w K pv r) (ho : Only [] w w') : Pv w' K pv r := ⟨h.1.only ho, h.2⟩
theorem DoW.of {W w w' : World} {p : Nat} {K : List Nat} {n : Nat} {a : AgS} {r : Rp} {e : Ending} (h : DoW W w w' p K n a r e) : ∃ pv K', e = .returned (r.val pv) ∧ Pv w' K' pv r ∧ AgW W w' p K' n a ∧ Only K w w' ∧ (∀ x ∈ K', x ∈ K ∨ w.heap.size ≤ x) ∧ RpK r ∧ ∃ PA pc, pv = .slice PA r.ps.length pc := by
 obtain ⟨pv, K', he, hp, hg, hA, ho, hN, hk⟩ := h
 obtain ⟨PA, pc, rfl⟩ := hp.ps.shape
 exact ⟨_, K', he, ⟨hp, fun h0 g hgg => (hg h0 g hgg).2⟩, hA, ho, hN, hk, PA, pc, rfl⟩
theorem agw_save {W w : World} {p : Nat} {K : List Nat} {n : Nat} {a : AgS} (hn : n ≤ 1000000000) (h : AgW W w p K n a) :
 Calls Tryz.prog 28 #[.pointer (some ⟨p, 0, none⟩)] w fun e w' => e = .returned (.string ⟨(agB a).toArray⟩) ∧ Only [] w w' := ag_save p K a n hn w h.at_ h.i
theorem slat_one (w : World) (a : C19) : SlAt (w.alloc (.cells (a.c.cells a.iv).toArray 38)) (w.alloc (.cells (a.c.cells a.iv).toArray 38)).heap.size (.slice (some ⟨w.heap.size, 0, none⟩) 1 1) 11 [a].length (cmL [a]) := by
 have : cmL [a] = a.c.cells a.iv := by unfold cmL; simp
 rw [this]
 exact SlAt.cells (n := 1) (sz := 11) (Cells.new w _ _) rfl (by unfold maxLen; omega)
theorem SmC.sm {c : Cm} (h : SmC c) : c.Sm := ⟨Nat.le_trans h.fd (by omega), Nat.le_trans h.id (by omega), Nat.le_trans h.n (by omega), fun x hx => by
 have := h.its x hx
 exact ⟨Nat.le_trans this.id (by omega), Nat.le_trans this.ti (by omega), Nat.le_trans this.li (by omega)⟩⟩
def apA (s : List UInt8) (a : AgS) : List UInt8 × AgS := match unC s with
 | none => (rpb (errR 8), a)
 | some c => (rpb (doA a c).1, (doA a c).2)
def ApW (W w w' : World) (p : Nat) (K : List Nat) (n : Nat) (o : List UInt8 × AgS) (e : Ending) : Prop := ∃ K', e = .returned (.string ⟨o.1.toArray⟩) ∧ AgW W w' p K' n o.2 ∧ Only K w w' ∧ ∀ x ∈ K', x ∈ K ∨ w.heap.size ≤ x
theorem unC_right {s : List UInt8} {c : Cm} (h : unC s = some c) : rightB c = true := by
 unfold unC at h
 split at h
 · rename_i hc
   injection h with h
   exact h ▸ hc.2.1
 · cases h
theorem right_its {c : Cm} (h : rightB c = true) : c.its.length ≤ 100 ∧ c.fd.length ≤ 200 ∧ c.id.length ≤ 200 ∧ ∀ x ∈ c.its, itR x = true := by
 unfold rightB lenB at h
 simp only [Bool.and_eq_true, decide_eq_true_eq, List.all_eq_true] at h
 exact ⟨h.1.1.2.2, h.1.1.2.1.1, h.1.1.2.1.2, h.2⟩
theorem itk_new {w w1 w2 : World} {K : List Nat} {c : Cm} {iv : Value} (hc : CmAt w1 iv c) (hg : ∀ g, iv.ownBlock = some g → w.heap.size ≤ g) (hK : ∀ x ∈ K, x < w.heap.size) (ho : Only [] w1 w2) : ItK w2 K iv c := fun w3 h3 => by
 have h1 := (hc.its.only ho (Nat.le_refl _) (by simp)).more ho.size
 exact (h1.past h3 (Nat.le_refl _) (fun g hg' hm => by have := hg g hg'; have := hK g hm; omega)).more h3.size
theorem agw_apply (p : Nat) (K : List Nat) (a : AgS) (n : Nat) (hn : n ≤ 1000000) (s : List UInt8) (hl : s.length ≤ 1000000) (W w : World) (h : AgW W w p K n a) :
 Calls Tryz.prog 34 #[.pointer (some ⟨p, 0, none⟩), .string ⟨s.toArray⟩] w fun e w' => ApW W w w' p K (n + 1) (apA s a) e := by
 have CU := Hd (cmd_unpack s w (by omega))
 have CA := Hd (fun r pv w' => cmd_answer r pv w')
 have H := Hd h
 have hbw := h.at_.bw
 have HBW := Hd hbw
 have CD := Hd (fun c iv w' (hu : unC s = some c) (h : AgW W w' p K n a) hc hs => agw_do p K a n hn c iv W w' h hc (by have := (right_its (unC_right hu)).1; omega) hs)
 have HN1 : Hid (unC s = none → apA s a = (rpb (errR 8), a)) := Hd (fun h => by unfold apA; rw [h])
 have HS1 : Hid (∀ c, unC s = some c → apA s a = (rpb (doA a c).1, (doA a c).2)) := Hd (fun c h => by unfold apA; rw [h])
 obtain ⟨o, ho⟩ : ∃ o, apA s a = o := ⟨_, rfl⟩
 rw [ho] at HN1 HS1 ⊢
 clear h hbw ho
 go_enter Tryz.func34, Tryz.ntmps34
 go_wp2_with fail
 refine CU.out.mono ?_
 rintro e w1 ⟨iv, rfl, hc, ho1, hg1⟩
 obtain ⟨IA, ic, hv⟩ := hc.its.shape
 have HC := Hd hc
 have HG := Hd hg1
 have HO1 := Hd ho1
 clear hc hg1 ho1 CU
 cases hu : unC s with
 | none =>
  have HX := Hd (HN1.out hu)
  clear HN1 HS1
  rw [hu] at HC hv
  simp only [Option.getD_none, Option.isSome_none] at HC hv ⊢
  rw [show (if (false : Bool) = true then (0 : Int) else 8) = 8 from rfl]
  unfold Cm.val Cm.zero
  (try dsimp only)
  have hv : iv = .slice IA 0 ic := hv
  subst hv
  obtain ⟨b1, b2, b3⟩ := box_row w1 38 [.int .i64 0, .int .i64 0, .int .i64 0, .int .i64 0, .int .i64 0, .int .i64 0, .int .i64 0, .string ⟨#[]⟩, .string ⟨#[]⟩, .slice none 0 0, .bool false] [.int .i64 0, .int .i64 0, .int .i64 0, .int .i64 0, .int .i64 0, .int .i64 0, .int .i64 0, .string ⟨([] : List UInt8).toArray⟩, .string ⟨([] : List UInt8).toArray⟩, .slice IA 0 ic, .bool false]
  have hone : (#[.int .i64 0, .int .i64 0, .int .i64 0, .int .i64 0, .int .i64 0, .int .i64 0, .int .i64 0, .string ⟨([] : List UInt8).toArray⟩, .string ⟨([] : List UInt8).toArray⟩, .slice IA 0 ic, .bool false] : Array Value).all (·.oneCell') = true := by simp [Value.oneCell']
  have HR := Hd (rpAt_nil · 8 0 ⟨by omega, by omega⟩ ⟨by omega, by omega⟩)
  clear CD HG HBW hu HC
  go_wp2_with (refine wpList_store_row rfl 38 _ _ rfl w1.heap.size #[.int .i64 0, .int .i64 0, .int .i64 0, .int .i64 0, .int .i64 0, .int .i64 0, .int .i64 0, .string ⟨([] : List UInt8).toArray⟩, .string ⟨([] : List UInt8).toArray⟩, .slice IA 0 ic, .bool false] rfl rfl 38 _ b2 (by kernel_rfl) rfl hone ?_)
  (try simp only [Act.put])
  obtain ⟨ys, hy⟩ : ∃ u, (w1.alloc (.cells #[.int .i64 0, .int .i64 0, .int .i64 0, .int .i64 0, .int .i64 0, .int .i64 0, .int .i64 0, .string ⟨#[]⟩, .string ⟨#[]⟩, .slice none 0 0, .bool false] 38)).setRow w1.heap.size #[.int .i64 0, .int .i64 0, .int .i64 0, .int .i64 0, .int .i64 0, .int .i64 0, .int .i64 0, .string ⟨([] : List UInt8).toArray⟩, .string ⟨([] : List UInt8).toArray⟩, .slice IA 0 ic, .bool false] = u := ⟨_, rfl⟩
  have HO2 : Hid (Only [] w ys) := Hd (HO1.out.tr (hy ▸ b1))
  (try rw [hy])
  clear hy b1 b2 b3 hone
  refine (CA.out ⟨8, 0, []⟩ (.slice none 0 0) _ (HR.out _)).mono ?_
  rintro e w4 ⟨rfl, ho4⟩
  have HO4 := Hd (HO2.out.tr ho4)
  clear ho4 HO2 CA HR
  go_wp2_with fail
  go_ret
  exact ⟨K, by rw [HX.out]; rfl, by rw [HX.out]; exact ⟨(H.out.read HO4.out).at_, H.out.ho.tr HO4.out, H.out.lo, H.out.i.mono (by omega)⟩, HO4.out.of0, fun x hx => .inl hx⟩
 | some c =>
  have HX := Hd (HS1.out c hu)
  clear HN1 HS1
  rw [hu] at HC hv
  simp only [Option.getD_some, Option.isSome_some] at HC hv ⊢
  (try simp only [if_true])
  unfold Cm.val
  (try dsimp only)
  obtain ⟨b1, b2, b3⟩ := box_row w1 38 [.int .i64 0, .int .i64 0, .int .i64 0, .int .i64 0, .int .i64 0, .int .i64 0, .int .i64 0, .string ⟨#[]⟩, .string ⟨#[]⟩, .slice none 0 0, .bool false] [.int .i64 c.kd, .int .i64 c.ss, .int .i64 c.sq, .int .i64 c.sh, .int .i64 c.nd, .int .i64 c.ep, .int .i64 c.n, .string ⟨c.fd.toArray⟩, .string ⟨c.id.toArray⟩, iv, .bool c.fl]
  subst hv
  have hone : (#[.int .i64 c.kd, .int .i64 c.ss, .int .i64 c.sq, .int .i64 c.sh, .int .i64 c.nd, .int .i64 c.ep, .int .i64 c.n, .string ⟨c.fd.toArray⟩, .string ⟨c.id.toArray⟩, .slice IA c.its.length ic, .bool c.fl] : Array Value).all (·.oneCell') = true := by simp [Value.oneCell']
  have CD2 := Hd (fun w' (h : AgW W w' p K n a) hc hs => CD.out c (.slice IA c.its.length ic) w' hu h hc hs)
  unfold Cm.val at CD2
  clear CD hu
  obtain ⟨ys, hy⟩ : ∃ u, (w1.alloc (.cells #[.int .i64 0, .int .i64 0, .int .i64 0, .int .i64 0, .int .i64 0, .int .i64 0, .int .i64 0, .string ⟨#[]⟩, .string ⟨#[]⟩, .slice none 0 0, .bool false] 38)).setRow w1.heap.size #[.int .i64 c.kd, .int .i64 c.ss, .int .i64 c.sq, .int .i64 c.sh, .int .i64 c.nd, .int .i64 c.ep, .int .i64 c.n, .string ⟨c.fd.toArray⟩, .string ⟨c.id.toArray⟩, .slice IA c.its.length ic, .bool c.fl] = u := ⟨_, rfl⟩
  have hys : (w1.alloc (.cells [.int .i64 0, .int .i64 0, .int .i64 0, .int .i64 0, .int .i64 0, .int .i64 0, .int .i64 0, .string ⟨#[]⟩, .string ⟨#[]⟩, .slice none 0 0, .bool false].toArray 38)).setRow w1.heap.size [.int .i64 c.kd, .int .i64 c.ss, .int .i64 c.sq, .int .i64 c.sh, .int .i64 c.nd, .int .i64 c.ep, .int .i64 c.n, .string ⟨c.fd.toArray⟩, .string ⟨c.id.toArray⟩, .slice IA c.its.length ic, .bool c.fl].toArray = ys := hy
  rw [hys] at b1 b3
  have HY := Hd b3
  have HOY := Hd (HO1.out.tr b1)
  have HCY := Hd (HC.out.only b1)
  have HIY : Hid (ItK ys K (.slice IA c.its.length ic) c) := Hd (itk_new HC.out HG.out HBW.out b1)
  have HAY := Hd (H.out.read HOY.out)
  have hld := b3
  clear b1 b3 hys HG HC HO1 HBW
  obtain ⟨R, hR⟩ : ∃ R, w1.heap.size = R := ⟨_, rfl⟩
  rw [hR] at hy b2 hld HY
  go_wp2_with (first
   | ((try rw [hR]); refine wpList_store_row rfl 38 _ _ rfl R #[.int .i64 c.kd, .int .i64 c.ss, .int .i64 c.sq, .int .i64 c.sh, .int .i64 c.nd, .int .i64 c.ep, .int .i64 c.n, .string ⟨c.fd.toArray⟩, .string ⟨c.id.toArray⟩, .slice IA c.its.length ic, .bool c.fl] rfl rfl 38 _ b2 (by kernel_rfl) rfl hone ?_; (try rw [hy]))
   | refine wpList_load_row rfl 38 _ rfl R rfl 38 #[.int .i64 c.kd, .int .i64 c.ss, .int .i64 c.sq, .int .i64 c.sh, .int .i64 c.nd, .int .i64 c.ep, .int .i64 c.n, .string ⟨c.fd.toArray⟩, .string ⟨c.id.toArray⟩, .slice IA c.its.length ic, .bool c.fl] (0, 0) _ hld Tryz.underlying38 rfl (by kernel_rfl) ?_)
  refine (CD2.out _ HAY.out HCY.out HIY.out).mono ?_
  rintro e w3 ⟨pv, K', he, hp, hg, hA, ho, hN, hk⟩
  obtain ⟨PA, pc, rfl⟩ := hp.ps.shape
  have he : e = .returned ((doA a c).1.val (.slice PA (doA a c).1.ps.length pc)) := he
  obtain ⟨r, hr⟩ : ∃ r, (doA a c).1 = r := ⟨_, rfl⟩
  rw [hr] at he hp
  have HR := Hd hr
  clear hr
  have he : e = .returned (.agg #[.int .i64 r.er, .int .i64 r.n, .slice PA r.ps.length pc]) := he
  subst he
  have CA2 := Hd (CA.out r _ w3 hp)
  unfold Rp.val at CA2
  have HF := Hd hA
  have HO3 := Hd ho
  have HN := Hd hN
  clear hp hg hA ho hN hk CD2 CA
  go_wp2_with fail
  refine CA2.out.mono ?_
  rintro e w4 ⟨rfl, ho4⟩
  have HO4 := Hd ho4
  clear ho4 CA2
  go_wp2_with fail
  go_ret
  exact ⟨K', by rw [HX.out, HR.out]; rfl, by rw [HX.out]; exact HF.out.read HO4.out, (HOY.out.of0.tr HO3.out).tr HO4.out.of0, fun x hx => (HN.out x hx).imp id (fun h => Nat.le_trans HOY.out.size h)⟩
structure Ey where
 ix : Int
 tm : Int
 kd : Int
 d : List UInt8
def Ey.cells (x : Ey) : List Value := [.int .i64 x.ix, .int .i64 x.tm, .int .i64 x.kd, .string ⟨x.d.toArray⟩]
def eyL (l : List Ey) : List Value := l.flatMap Ey.cells
theorem eyL_get (l : List Ey) (i j : Nat) (x : Ey) (h : l[i]? = some x) (hj : j < 4) : (eyL l)[i * 4 + j]? = x.cells[j]? := flat_get Ey.cells 4 (fun _ => rfl) l i j x h hj
theorem eyL_append (l m : List Ey) : eyL (l ++ m) = eyL l ++ eyL m := by unfold eyL; rw [List.flatMap_append]
theorem eyL_at {w : World} {B : Nat} {v : Value} {l : List Ey} (h : SlAt w B v 4 l.length (eyL l)) {k : Nat} {x : Ey} (hk : l[k]? = some x) :
 ∃ b o c, v = .slice (some ⟨b, o, none⟩) l.length c ∧ w.cell? ⟨b, o + k * 4, none⟩ = some (.int .i64 x.ix) ∧ w.cell? ⟨b, o + k * 4 + 1, none⟩ = some (.int .i64 x.tm) ∧ w.cell? ⟨b, o + k * 4 + 2, none⟩ = some (.int .i64 x.kd) ∧ w.cell? ⟨b, o + k * 4 + 3, none⟩ = some (.string ⟨x.d.toArray⟩) := by
 have hlt : k < l.length := (List.getElem?_eq_some_iff.1 hk).1
 obtain ⟨b, o, c, hv, _, hc⟩ := h.at_ (by omega)
 exact ⟨b, o, c, hv, hc (k * 4 + 0) _ (eyL_get l k 0 x hk (by omega)), hc (k * 4 + 1) _ (eyL_get l k 1 x hk (by omega)), hc (k * 4 + 2) _ (eyL_get l k 2 x hk (by omega)), hc (k * 4 + 3) _ (eyL_get l k 3 x hk (by omega))⟩
def stepE (a : AgS) (x : Ey) : List UInt8 × AgS := if x.kd = 2 then apA x.d a else ([], a)
def runE : AgS → List Ey → AgS
 | a, [] => a
 | a, x :: l => runE (stepE a x).2 l
def repE : AgS → List Ey → List (List UInt8)
 | _, [] => []
 | a, x :: l => (stepE a x).1 :: repE (stepE a x).2 l
theorem runE_append (l m : List Ey) : ∀ a, runE a (l ++ m) = runE (runE a l) m := by
 induction l with
 | nil => intro a; rfl
 | cons x l ih => intro a; exact ih _
theorem repE_append (l m : List Ey) : ∀ a, repE a (l ++ m) = repE a l ++ repE (runE a l) m := by
 induction l with
 | nil => intro a; rfl
 | cons x l ih => intro a; simp only [List.cons_append, repE, runE, ih]
theorem repE_length (l : List Ey) : ∀ a, (repE a l).length = l.length := by
 induction l with
 | nil => intro a; rfl
 | cons x l ih => intro a; simp [repE, ih]
theorem runE_step (l : List Ey) (k : Nat) (x : Ey) (a : AgS) (h : l[k]? = some x) : runE a (l.take (k + 1)) = (stepE (runE a (l.take k)) x).2 := by
 rw [List.take_add_one, h, runE_append]; rfl
theorem repE_step (l : List Ey) (k : Nat) (x : Ey) (a : AgS) (h : l[k]? = some x) : repE a (l.take (k + 1)) = repE a (l.take k) ++ [(stepE (runE a (l.take k)) x).1] := by
 rw [List.take_add_one, h, repE_append]; rfl
theorem svs_snoc (l : List (List UInt8)) (x : List UInt8) : svs (l ++ [x]) = svs l ++ [.string ⟨x.toArray⟩] := by unfold svs; rw [List.map_append]; rfl
structure EyOk (l : List Ey) : Prop where
 n : l.length ≤ 1000
 d : ∀ x ∈ l, x.d.length ≤ 1000000
theorem info_string23 : (Tryz.prog.info? 9).map (fun i => (i.zero, i.size, i.bytes)) = some (some (.string ⟨#[]⟩), 1, 16) := by kernel_rfl
theorem hi_run (v : Value) (l : List Ey) (w : World) (hs : SlAt w w.heap.size v 4 l.length (eyL l)) (hk : EyOk l) :
 Calls Tryz.prog 108 #[v] w fun e w' => ∃ rv p K, e = .returned (.tuple #[rv, .pointer (some ⟨p, 0, none⟩)]) ∧ w'.ownsRow w.heap.size 9 1 rv l.length (svs (repE AgS.new l)) ∧ AgW w w' p K l.length (runE AgS.new l) := by
 obtain ⟨i0, hi0, hz0, hz1, hz2⟩ := info_parts info_string23
 obtain ⟨LA, lc, rfl⟩ := hs.shape
 have HS := Hd hs
 have hn := hk.n
 have HK := Hd hk.d
 clear hs hk
 go_enter Tryz.func108, Tryz.ntmps108
 go_wp2_with fail
 refine (agw_new w w oz).mono ?_
 rintro e wn ⟨p, K0, rfl, hA0, _, ho0⟩
 have HA0 : Hid (AgW w wn p K0 0 (runE AgS.new (l.take 0))) := Hd hA0
 clear hA0 ho0
 go_wp2_with fail
 go_loopw [5, 11] (fun ls i wr => ∃ (k : Nat) (K : List Nat) (lv : Value), k ≤ l.length ∧ lv = ls ∧ i = .int .i64 k ∧ Hid (AgW w wr p K k (runE AgS.new (l.take k))) ∧ Hid (wr.ownsRow w.heap.size 9 1 lv k (svs (repE AgS.new (l.take k)))) ∧ Hid (∀ g, lv.ownBlock = some g → g ∉ K)) (fun _ i _ => l.length - (intOf i).toNat)
 case atStart => exact ⟨0, _, _, by omega, rfl, rfl, HA0, Hd (World.ownsRow_nil _ _ _ _), Hd (fun g hg => by simp [Value.ownBlock] at hg)⟩
 case round =>
  obtain ⟨k, K, lv, hk, rfl, rfl, H, HW, HD⟩ := hrel
  obtain ⟨wq, rfl⟩ : ∃ wq, wq = wr := ⟨_, rfl⟩
  by_cases hlt : k < l.length
  · have hlt' : (k : Int) < (l.length : Int) := by omega
    obtain ⟨x, hx⟩ : ∃ x, l[k]? = some x := ⟨_, List.getElem?_eq_getElem hlt⟩
    have hxd := HK.out x (List.mem_of_getElem? hx)
    have HRUN := Hd (runE_step l k x AgS.new hx)
    have HREP := Hd (repE_step l k x AgS.new hx)
    obtain ⟨st, hst⟩ : ∃ st, runE AgS.new (l.take k) = st := ⟨_, rfl⟩
    rw [hst] at H HRUN HREP
    clear hst
    obtain ⟨ab, ao, ac, hv, q0, q1, q2, q3⟩ := eyL_at (HS.out.only H.out.ho (Nat.le_refl _) (by simp)) hx
    injection hv with e1 e2 e3
    subst e1; subst e3
    clear e2 hx
    obtain ⟨b1, b2, b3⟩ := box_row wq 72 [.int .i64 0, .int .i64 0, .int .i64 0, .string ⟨#[]⟩] [.int .i64 x.ix, .int .i64 x.tm, .int .i64 x.kd, .string ⟨x.d.toArray⟩]
    have hone : (#[.int .i64 x.ix, .int .i64 x.tm, .int .i64 x.kd, .string ⟨x.d.toArray⟩] : Array Value).all (·.oneCell') = true := by simp [Value.oneCell']
    obtain ⟨ys, hy⟩ : ∃ u, (wq.alloc (.cells #[.int .i64 0, .int .i64 0, .int .i64 0, .string ⟨#[]⟩] 72)).setRow wq.heap.size #[.int .i64 x.ix, .int .i64 x.tm, .int .i64 x.kd, .string ⟨x.d.toArray⟩] = u := ⟨_, rfl⟩
    have hys : (wq.alloc (.cells [.int .i64 0, .int .i64 0, .int .i64 0, .string ⟨#[]⟩].toArray 72)).setRow wq.heap.size [.int .i64 x.ix, .int .i64 x.tm, .int .i64 x.kd, .string ⟨x.d.toArray⟩].toArray = ys := hy
    rw [hys] at b1 b3
    have HY := Hd (H.out.read b1)
    have HWY := Hd (own_keep HW.out b1 (by simp))
    obtain ⟨z, hz⟩ : ∃ z, wq.heap.size = z := ⟨_, rfl⟩
    rw [hz] at b2 b3 hy
    have y2 := b3.cell (k := 2) rfl
    have y3 := b3.cell (k := 3) rfl
    have HLY := Hd (Nat.le_trans H.out.ho.size b1.size)
    clear b1 b3 hys H HW
    by_cases h2 : x.kd = 2
    · have d2 : (x.kd == 2) = true := by simp [h2]
      have CA := Hd (agw_apply p K st k (by omega) x.d hxd w ys HY.out)
      have e1 : stepE st x = apA x.d st := by unfold stepE; rw [if_pos h2]
      rw [e1] at HRUN HREP
      obtain ⟨o, ho⟩ : ∃ o, apA x.d st = o := ⟨_, rfl⟩
      rw [ho] at HRUN HREP CA
      have HDY : Hid (∀ g, lv.ownBlock = some g → g ∉ K) := HD
      clear h2 e1 ho HD
      go_wp2_with (((try rw [hz]); refine wpList_store_row rfl 72 _ _ rfl z #[.int .i64 x.ix, .int .i64 x.tm, .int .i64 x.kd, .string ⟨x.d.toArray⟩] rfl rfl 72 _ b2 (by kernel_rfl) rfl hone ?_; (try rw [hy])))
      refine CA.out.mono ?_
      rintro e w5 ⟨K5, rfl, hA5, ho5, hN5⟩
      have HW5 := Hd (own_keep HWY.out ho5 (fun b hb e => HDY.out b e hb))
      have HD5 : Hid (∀ g, lv.ownBlock = some g → g ∉ K5) := Hd (fun g hg hm => by
       rcases hN5 g hm with e | e
       · exact HDY.out g hg e
       · have := (HWY.out.lt g hg).2; omega)
      have H5 : Hid (AgW w w5 p K5 (k + 1) (runE AgS.new (l.take (k + 1)))) := Hd (by rw [HRUN.out]; exact hA5)
      have HL5 := Hd (Nat.le_trans HLY.out ho5.size)
      clear hA5 ho5 hN5 HY HWY HDY CA HRUN HLY
      go_wp2_with (at_builtin; go_loud (refine wpList_appA rfl _ _ 42 rfl w.heap.size 9 i0 _ 1 16 Tryz.underlying42 hi0 hz0 hz1 hz2 rfl (by decide) w5 lv k (svs (repE AgS.new (l.take k))) rfl HW5.out 1 1 [.string ⟨o.1.toArray⟩] rfl rfl (by simp [Value.oneCell']) (by unfold maxLen; omega) (by omega) HL5.out ?_; intro v' w6 hown6 hgr6 hnew6))
      have HW6 : Hid (w6.ownsRow w.heap.size 9 1 v' (k + 1) (svs (repE AgS.new (l.take (k + 1))))) := Hd (by rw [HREP.out, svs_snoc]; exact hown6)
      have ho6 : Only (rb lv) w5 w6 := (Only.refl _ w5).grown hgr6 (fun g e => .inl (by simp [rb, e]))
      have HD6 : Hid (∀ g, v'.ownBlock = some g → g ∉ K5) := Hd (fun g hg => by
       rcases hnew6 g hg with e | e
       · exact HD5.out g e
       · intro hm; have := H5.out.at_.bw g hm; omega)
      have H6 := Hd (H5.out.far ho6 (fun x hx => by
       have hx2 : lv.ownBlock = some x := by simpa [rb] using hx
       exact ⟨HD5.out x hx2, (HW5.out.lt x hx2).1⟩))
      clear hown6 hgr6 hnew6 ho6 HW5 HD5 H5 HL5 HREP
      go_wp2_with fail
      go_roundw
      case rel => exact ⟨k + 1, K5, _, by omega, rfl, by go_num, H6, HW6, HD6⟩
      case measure => simp [intOf]; omega
    · have d2 : (x.kd == 2) = false := by simp [h2]
      have e1 : stepE st x = ([], st) := by unfold stepE; rw [if_neg h2]
      rw [e1] at HRUN HREP
      have HDY : Hid (∀ g, lv.ownBlock = some g → g ∉ K) := HD
      clear h2 e1 HD
      obtain ⟨w5, hw5⟩ : ∃ w5, w5 = ys := ⟨_, rfl⟩
      have HW5 : Hid (w5.ownsRow w.heap.size 9 1 lv k (svs (repE AgS.new (l.take k)))) := Hd (hw5 ▸ HWY.out)
      have HD5 := HDY
      have H5 : Hid (AgW w w5 p K (k + 1) (runE AgS.new (l.take (k + 1)))) := Hd (by rw [HRUN.out, hw5]; exact ⟨HY.out.at_, HY.out.ho, HY.out.lo, HY.out.i.mono (by omega)⟩)
      have HL5 : Hid (w.heap.size ≤ w5.heap.size) := Hd (hw5 ▸ HLY.out)
      subst hw5
      clear HY HWY HDY HRUN HLY
      go_wp2_with (first | ((try rw [hz]); refine wpList_store_row rfl 72 _ _ rfl z #[.int .i64 x.ix, .int .i64 x.tm, .int .i64 x.kd, .string ⟨x.d.toArray⟩] rfl rfl 72 _ b2 (by kernel_rfl) rfl hone ?_; (try rw [hy])) | (at_builtin; refine wpList_appA rfl _ _ 42 rfl w.heap.size 9 i0 _ 1 16 Tryz.underlying42 hi0 hz0 hz1 hz2 rfl (by decide) w5 lv k (svs (repE AgS.new (l.take k))) rfl HW5.out 1 1 [.string ⟨([] : List UInt8).toArray⟩] rfl rfl (by simp [Value.oneCell']) (by unfold maxLen; omega) (by omega) HL5.out ?_; intro v' w6 hown6 hgr6 hnew6))
      have HW6 : Hid (w6.ownsRow w.heap.size 9 1 v' (k + 1) (svs (repE AgS.new (l.take (k + 1))))) := Hd (by rw [HREP.out, svs_snoc]; exact hown6)
      have ho6 : Only (rb lv) w5 w6 := (Only.refl _ w5).grown hgr6 (fun g e => .inl (by simp [rb, e]))
      have HD6 : Hid (∀ g, v'.ownBlock = some g → g ∉ K) := Hd (fun g hg => by
       rcases hnew6 g hg with e | e
       · exact HD5.out g e
       · intro hm; have := H5.out.at_.bw g hm; omega)
      have H6 := Hd (H5.out.far ho6 (fun x hx => by
       have hx2 : lv.ownBlock = some x := by simpa [rb] using hx
       exact ⟨HD5.out x hx2, (HW5.out.lt x hx2).1⟩))
      clear hown6 hgr6 hnew6 ho6 HW5 HD5 H5 HL5 HREP
      go_wp2_with fail
      go_roundw
      case rel => exact ⟨k + 1, K, _, by omega, rfl, by go_num, H6, HW6, HD6⟩
      case measure => simp [intOf]; omega
  · have hdd : decide ((k : Int) < (l.length : Int)) = false := by simp; omega
    obtain rfl : k = l.length := by omega
    rw [List.take_length] at H HW
    go_wp2_with fail
    go_ret2
    exact ⟨_, p, K, rfl, HW.out, H.out⟩
theorem hi_replies (v : Value) (l : List Ey) (w : World) (hs : SlAt w w.heap.size v 4 l.length (eyL l)) (hk : EyOk l) :
 Calls Tryz.prog 45 #[v] w fun e w' => ∃ rv, e = .returned rv ∧ w'.ownsRow w.heap.size 9 1 rv l.length (svs (repE AgS.new l)) ∧ Only [] w w' := by
 have C := Hd (hi_run v l w hs hk)
 clear hs hk
 go_enter Tryz.func45, Tryz.ntmps45
 go_wp2_with fail
 refine C.out.mono ?_
 rintro e w1 ⟨rv, p, K, rfl, hr, hA⟩
 have HR := Hd hr
 have HO := Hd hA.ho
 clear hr hA C
 go_wp2_with fail
 go_ret
 exact ⟨_, rfl, HR.out, HO.out⟩
theorem hi_state (v : Value) (l : List Ey) (w : World) (hs : SlAt w w.heap.size v 4 l.length (eyL l)) (hk : EyOk l) :
 Calls Tryz.prog 47 #[v] w fun e w' => e = .returned (.string ⟨(agB (runE AgS.new l)).toArray⟩) ∧ Only [] w w' := by
 have hn := hk.n
 have C := Hd (hi_run v l w hs hk)
 clear hs hk
 go_enter Tryz.func47, Tryz.ntmps47
 go_wp2_with fail
 refine C.out.mono ?_
 rintro e w1 ⟨rv, p, K, rfl, hr, hA⟩
 have CS := Hd (agw_save (by omega) hA)
 have HO := Hd hA.ho
 clear hr hA C
 go_wp2_with fail
 refine CS.out.mono ?_
 rintro e w2 ⟨rfl, ho2⟩
 have HO2 := Hd (HO.out.tr ho2)
 clear ho2 CS HO
 go_wp2_with fail
 go_ret
 exact ⟨rfl, HO2.out⟩
theorem small23 (v : Value) (l : List C19) (w : World) (hs : SlAt w w.heap.size v 11 l.length (cmL l)) (hok : ∀ a ∈ l, CmAt w a.iv a.c) :
 Calls Tryz.prog 42 #[v] w (SmR l w) := by
 obtain ⟨A, c, rfl⟩ := hs.shape
 have hll : l.length ≤ 9223372036854775807 := by obtain ⟨_, _, _, _, h1, h2, _⟩ := hs; unfold maxLen at h2; omega
 have HS := Hd hs
 have HK := Hd hok
 clear hs hok
 by_cases h80 : 60 < l.length
 · have d1 : decide ((60 : Int) < (l.length : Int)) = true := by simp; omega
   go_enter Tryz.func42, Tryz.ntmps42
   go_wp2_with fail
   go_ret
   exact SmR.no oz
 have d1 : decide ((60 : Int) < (l.length : Int)) = false := by simp; omega
 go_enter Tryz.func42, Tryz.ntmps42
 go_wp2_with fail
 go_loopw [3] (fun i wr => ∃ k : Nat, k ≤ l.length ∧ i = .int .i64 k ∧ Hid (∀ a ∈ l.take k, SmC a.c) ∧ Hid (Only [] w wr)) (fun i _ => l.length - (intOf i).toNat)
 case atStart => exact ⟨0, by omega, rfl, Hd (by simp), Hd oz⟩
 case round =>
  obtain ⟨k, hk, rfl, hall, ho⟩ := hrel
  obtain ⟨wo, rfl⟩ : ∃ wo, wo = wr := ⟨_, rfl⟩
  by_cases hlt : k < l.length
  · have hlt' : decide ((k : Int) < (l.length : Int)) = true := by simp; omega
    have hlt2 : (k : Int) < (l.length : Int) := by omega
    obtain ⟨a, ha⟩ : ∃ a, l[k]? = some a := ⟨_, List.getElem?_eq_getElem hlt⟩
    have HA := Hd ((HK.out a (List.mem_of_getElem? ha)).only ho.out)
    obtain ⟨b, o, c', hv, q0, q1, q2, q3, q4, q5, q6, q7, q8, q9, q10⟩ := cmL_at (HS.out.only ho.out (Nat.le_refl _) (by simp)) ha
    obtain ⟨IA, ic, hiv⟩ := HA.out.its.shape
    have hil : a.c.its.length ≤ 9223372036854775807 := by obtain ⟨_, _, _, _, h1, h2, _⟩ := HA.out.its; unfold maxLen at h2; omega
    have hfl := HA.out.fd
    have hdl := HA.out.id
    unfold maxLen at hfl hdl
    have HAT := Hd ha
    rw [hiv] at q9
    injection hv with e1 e2 e3
    subst e1; subst e3
    clear e2 ha
    by_cases h1 : 300 < a.c.fd.length
    · have f1 : decide ((300 : Int) < (a.c.fd.length : Int)) = true := by simp; omega
      go_wp2_with fail
      go_ret
      exact SmR.no ho.out
    have f1 : decide ((300 : Int) < (a.c.fd.length : Int)) = false := by simp; omega
    by_cases h2 : 300 < a.c.id.length
    · have f2 : decide ((300 : Int) < (a.c.id.length : Int)) = true := by simp; omega
      go_wp2_with fail
      go_ret
      exact SmR.no ho.out
    have f2 : decide ((300 : Int) < (a.c.id.length : Int)) = false := by simp; omega
    by_cases h3 : 30 < a.c.its.length
    · have f3 : decide ((30 : Int) < (a.c.its.length : Int)) = true := by simp; omega
      go_wp2_with fail
      go_ret
      exact SmR.no ho.out
    have f3 : decide ((30 : Int) < (a.c.its.length : Int)) = false := by simp; omega
    have HIV := Hd hiv
    have HHS : Hid (SlAt wo w.heap.size (.slice (some ⟨b, o, none⟩) l.length c) 11 l.length (cmL l)) := Hd (HS.out.only ho.out (Nat.le_refl _) (by simp))
    clear q0 q1 q2 q3 q4 q5 q6 q10 hiv
    go_wp2_with fail
    go_loopw [4] (fun i wq => ∃ j : Nat, j ≤ a.c.its.length ∧ i = .int .i64 j ∧ Hid (∀ x ∈ a.c.its.take j, SmI x) ∧ Hid (Only [] wo wq)) (fun i _ => a.c.its.length - (intOf i).toNat)
    case atStart => exact ⟨0, by omega, rfl, Hd (by simp), Hd oz⟩
    case round =>
     obtain ⟨j, hj, rfl, hall2, hoq⟩ := hrel
     obtain ⟨wq, rfl⟩ : ∃ wq, wq = wr := ⟨_, rfl⟩
     obtain ⟨b2, o2, c2, hv2, _, _, _, _, _, _, _, _, _, s4, _⟩ := cmL_at (HHS.out.only hoq.out ho.out.size (by simp)) HAT.out
     rw [HIV.out] at s4
     injection hv2 with g1 g2 g3
     injection g1 with g1
     injection g1 with g4 g5 g6
     subst g4; subst g5
     have hoo := Hd (ho.out.tr hoq.out)
     by_cases hjl : j < a.c.its.length
     · have hj' : decide ((j : Int) < (a.c.its.length : Int)) = true := by simp; omega
       have hj2 : (j : Int) < (a.c.its.length : Int) := by omega
       obtain ⟨x, hx⟩ : ∃ x, a.c.its[j]? = some x := ⟨_, List.getElem?_eq_getElem hjl⟩
       obtain ⟨ib, io, ic', hv3, x0, x1, x2⟩ := itL_at (HA.out.only hoq.out).its hx
       rw [HIV.out] at hv3
       injection hv3 with k1 k2 k3
       subst k1; subst k3
       have hxl := HA.out.len x (List.mem_of_getElem? hx)
       have n0 := hxl.id
       have n1 := hxl.ti
       have n2 := hxl.li
       unfold maxLen at n0 n1 n2
       have HXT := Hd hx
       clear hx k2 g3 g6 hxl q7 q8 q9
       obtain ⟨w2, hw2⟩ : ∃ w2, wq.alloc (.cells #[.string ⟨x.id.toArray⟩, .string ⟨x.ti.toArray⟩, .string ⟨x.li.toArray⟩] 99) = w2 := ⟨_, rfl⟩
       have hO2 : Only [] wq w2 := hw2 ▸ oz.alloc _
       obtain ⟨z, hz⟩ : ∃ z, wq.heap.size = z := ⟨_, rfl⟩
       have hzc : Cells w2 z 99 x.cells := hw2 ▸ hz ▸ Cells.new wq _ _
       have z0 := hzc.cell (k := 0) rfl
       have z1 := hzc.cell (k := 1) rfl
       have z2 := hzc.cell (k := 2) rfl
       have HO2 := Hd (hoq.out.tr hO2)
       have HOO := Hd (hoo.out.tr hO2)
       clear hzc hO2
       by_cases m0 : 300 < x.id.length
       · have t0 : decide ((300 : Int) < (x.id.length : Int)) = true := by simp; omega
         go_wp2_with fail
         go_ret
         exact SmR.no HOO.out
       have t0 : decide ((300 : Int) < (x.id.length : Int)) = false := by simp; omega
       by_cases m1 : 300 < x.ti.length
       · have t1 : decide ((300 : Int) < (x.ti.length : Int)) = true := by simp; omega
         go_wp2_with fail
         go_ret
         exact SmR.no HOO.out
       have t1 : decide ((300 : Int) < (x.ti.length : Int)) = false := by simp; omega
       by_cases m2 : 300 < x.li.length
       · have t2 : decide ((300 : Int) < (x.li.length : Int)) = true := by simp; omega
         go_wp2_with fail
         go_ret
         exact SmR.no HOO.out
       have t2 : decide ((300 : Int) < (x.li.length : Int)) = false := by simp; omega
       have HX2 := Hd (all_snoc HXT.out hall2.out ⟨by omega, by omega, by omega⟩)
       go_wp2_with fail
       go_roundw
       case rel => exact ⟨j + 1, by omega, by go_num, HX2, HO2⟩
       case measure => simp [intOf]; omega
     · have hj' : decide ((j : Int) < (a.c.its.length : Int)) = false := by simp; omega
       obtain rfl : j = a.c.its.length := by omega
       have HX2 := Hd (all_snoc HAT.out hall.out ⟨by omega, by omega, by omega, by have := hall2.out; rwa [List.take_length] at this⟩)
       go_wp2_with fail
       go_roundw
       case rel => exact ⟨k + 1, by omega, by go_num, HX2, hoo⟩
       case measure => simp [intOf]; omega
  · have hlt' : decide ((k : Int) < (l.length : Int)) = false := by simp; omega
    obtain rfl : k = l.length := by omega
    have HF := Hd (⟨by omega, by have := hall.out; rwa [List.take_length] at this⟩ : Sm19 l)
    go_wp2_with fail
    go_ret
    exact ⟨true, rfl, fun _ => HF.out, ho.out⟩
theorem pick23 (c n : Int) (w : World) (hc : Wide64 c) (h0 : 1 ≤ n) (h1 : n ≤ 1000000000000) :
 Calls Tryz.prog 44 #[.int .i64 c, .int .i64 n] w fun e w' => e = .returned (.int .i64 (pkI c n)) ∧ w = w' := by
 obtain ⟨c0, c1⟩ := hc
 have hn : (n == 0) = false := by simp; omega
 by_cases h : c < 0
 · have h2 : 0 ≤ -(c + 1) := by omega
   have h2' : c ≤ -1 := by omega
   go_enter Tryz.func44, Tryz.ntmps44
   go_wp2
   go_ret
   exact ⟨by unfold pkI; rw [if_pos (by omega), ← Int.tmod_eq_emod_of_nonneg h2]; first | rfl | simp, rfl⟩
 · have h2 : 0 ≤ c := by omega
   have hd : decide (c < 0) = false := by simpa using h
   go_enter Tryz.func44, Tryz.ntmps44
   go_wp2
   go_ret
   exact ⟨by unfold pkI; rw [if_neg (by omega)]; simp, rfl⟩
theorem svs_at23 {w : World} {B : Nat} {v : Value} {l : List (List UInt8)} (h : SlAt w B v 1 l.length (svs l)) {k : Nat} {x : List UInt8} (hk : l[k]? = some x) :
 ∃ b o c, v = .slice (some ⟨b, o, none⟩) l.length c ∧ w.cell? ⟨b, o + k, none⟩ = some (.string ⟨x.toArray⟩) := by
 have hlt : k < l.length := (List.getElem?_eq_some_iff.1 hk).1
 obtain ⟨b, o, c, hv, _, hc⟩ := h.at_ (by omega)
 exact ⟨b, o, c, hv, hc k _ (by unfold svs; rw [List.getElem?_map, hk]; rfl)⟩
theorem texts23 (v1 v2 : Value) (l : List (List UInt8)) (w : World) (hs1 : SlAt w w.heap.size v1 1 l.length (svs l)) (hs2 : SlAt w w.heap.size v2 1 l.length (svs l)) (hl : l.length ≤ 1000000) :
 Calls Tryz.prog 46 #[v1, v2] w fun e w' => e = .returned (.bool true) ∧ Only [] w w' := by
 obtain ⟨A1, c1, rfl⟩ := hs1.shape
 obtain ⟨A2, c2, rfl⟩ := hs2.shape
 have H1 := Hd hs1
 have H2 := Hd hs2
 clear hs1 hs2
 go_enter Tryz.func46, Tryz.ntmps46
 go_wp2_with fail
 go_loopw [5] (fun i wr => ∃ k : Nat, k ≤ l.length ∧ i = .int .i64 k ∧ Hid (Only [] w wr)) (fun i _ => l.length - (intOf i).toNat)
 case atStart => exact ⟨0, by omega, rfl, Hd oz⟩
 case round =>
  obtain ⟨k, hk, rfl, ho⟩ := hrel
  by_cases hlt : k < l.length
  · have hlt' : (k : Int) < (l.length : Int) := by omega
    obtain ⟨x, hx⟩ : ∃ x, l[k]? = some x := ⟨_, List.getElem?_eq_getElem hlt⟩
    obtain ⟨b1, o1, c1', i1, q0⟩ := svs_at23 (H1.out.only ho.out (Nat.le_refl _) (by simp)) hx
    obtain ⟨b2, o2, c2', i2, s0⟩ := svs_at23 (H2.out.only ho.out (Nat.le_refl _) (by simp)) hx
    injection i1 with i1 j1 k1
    injection i2 with i2 j2 k2
    subst i1; subst i2; subst k1; subst k2
    have p0 := fun u : Since wr => u.cell q0
    have r0 := fun u : Since wr => u.cell s0
    clear hx q0 s0 j1 j2
    go_wp2_with fail
    refine wp_region_only wr oz (by kernel_rfl) (by kernel_rfl) ?_
    repeat (go_big_quiet_step (fail))
    refine wpQuiet_nil ?_
    rintro ⟨w3, ho3⟩
    dsimp only
    have HO3 := Hd (ho.out.tr ho3)
    clear p0 r0
    go_wp2_with fail
    go_roundw
    case rel => exact ⟨k + 1, by omega, by go_num, HO3⟩
    case measure => simp [intOf]; omega
  · have hd : decide ((k : Int) < (l.length : Int)) = false := by simp; omega
    go_wp2_with fail
    go_ret
    exact ⟨rfl, ho.out⟩
def rowF (i : Nat) (c : Cm) : Ey := ⟨i + 1, 1, if rightB c = true then 2 else 1, pkS c⟩
def rowE (l : List C19) : List Ey := l.mapIdx fun i a => rowF i a.c
theorem rowE_length (l : List C19) : (rowE l).length = l.length := by unfold rowE; simp
theorem rowE_get (l : List C19) (k : Nat) (a : C19) (h : l[k]? = some a) : (rowE l)[k]? = some (rowF k a.c) := by unfold rowE; rw [List.getElem?_mapIdx, h]; rfl
theorem rowE_step (l : List C19) (k : Nat) (a : C19) (h : l[k]? = some a) : rowE (l.take (k + 1)) = rowE (l.take k) ++ [rowF k a.c] := by
 have hk : k < l.length := (List.getElem?_eq_some_iff.1 h).1
 unfold rowE
 rw [List.take_add_one, h]
 show ((l.take k) ++ [a]).mapIdx _ = _
 rw [List.mapIdx_concat, List.length_take, Nat.min_eq_left (by omega)]
theorem right_short {c : Cm} (h : rightB c = true) : (cmdb c).length ≤ 1000000 := by
 obtain ⟨k1, k2, _, k4⟩ := rightB_iff.1 h
 obtain ⟨hf, hd, hn⟩ := lenB_iff.1 k2
 have h1 := isb7_le c (numB_wide k1)
 have h2 := tb_le c.fd 200 hf (by omega)
 have h3 := tb_le c.id 200 hd (by omega)
 have h4 := (ib_length (c.its.length : Int) ⟨by omega, by omega⟩).2
 have h5 : (itsB c.its).length ≤ 630 * c.its.length := by
  have : ∀ (l : List It), (∀ x ∈ l, itR x = true) → (itsB l).length ≤ 630 * l.length := by
   intro l
   induction l with
   | nil => intro _; simp [itsB]
   | cons x r ih =>
    intro hx
    obtain ⟨a1, a2, a3⟩ := itR_len (hx x (by simp))
    have b1 := tb_le x.id 200 a1 (by omega)
    have b2 := tb_le x.ti 200 a2 (by omega)
    have b3 := tb_le x.li 200 a3 (by omega)
    have := ih (fun y hy => hx y (by simp [hy]))
    unfold itsB itB at this ⊢
    rw [List.flatMap_cons, List.length_append, List.length_append, List.length_append, List.length_cons]
    omega
  exact this _ k4
 have h6 : (bb c.fl).length = 1 := rfl
 unfold cmdb cmH
 simp only [List.length_append]
 omega
theorem pkS_short (c : Cm) : (pkS c).length ≤ 1000000 := by
 unfold pkS
 split
 · rename_i h
   exact right_short h
 · simp
theorem rowE_ok {l : List C19} (h : l.length ≤ 1000) : EyOk (rowE l) := ⟨by rw [rowE_length]; exact h, fun x hx => by
 obtain ⟨k, hk⟩ := List.getElem?_of_mem hx
 have hlt : k < l.length := by rw [← rowE_length l]; exact (List.getElem?_eq_some_iff.1 hk).1
 rw [rowE_get l k l[k] (List.getElem?_eq_getElem hlt)] at hk
 injection hk with hk
 subst hk
 exact pkS_short _⟩
theorem info_entry23 : (Tryz.prog.info? 72).map (fun i => (i.zero, i.size, i.bytes)) = some (some (.agg #[.int .i64 0, .int .i64 0, .int .i64 0, .string ⟨#[]⟩]), 4, 40) := by kernel_rfl
theorem row23 (v : Value) (l : List C19) (w : World) (hs : SlAt w w.heap.size v 11 l.length (cmL l)) (hok : ∀ a ∈ l, CmAt w a.iv a.c) (hsm : ∀ a ∈ l, a.c.Sm) (hn : l.length ≤ 1000) :
 Calls Tryz.prog 43 #[v] w fun e w' => ∃ rv, e = .returned rv ∧ w'.ownsRow w.heap.size 72 4 rv l.length (eyL (rowE l)) ∧ Only [] w w' := by
 obtain ⟨i0, hi0, hz0, hz1, hz2⟩ := info_parts info_entry23
 obtain ⟨LA, lc, rfl⟩ := hs.shape
 have HS := Hd hs
 have HK := Hd hok
 have HM := Hd hsm
 clear hs hok hsm
 go_enter Tryz.func43, Tryz.ntmps43
 go_wp2_with fail
 go_loopw [3, 4] (fun ls i wr => ∃ (k : Nat) (lv : Value), k ≤ l.length ∧ lv = ls ∧ i = .int .i64 k ∧ Hid (wr.ownsRow w.heap.size 72 4 lv k (eyL (rowE (l.take k)))) ∧ Hid (Only [] w wr)) (fun _ i _ => l.length - (intOf i).toNat)
 case atStart => exact ⟨0, _, by omega, rfl, rfl, Hd (World.ownsRow_nil _ _ _ _), Hd oz⟩
 case round =>
  obtain ⟨k, lv, hk, rfl, rfl, HW, ho⟩ := hrel
  obtain ⟨wq, rfl⟩ : ∃ wq, wq = wr := ⟨_, rfl⟩
  by_cases hlt : k < l.length
  · have hlt' : (k : Int) < (l.length : Int) := by omega
    obtain ⟨a, ha⟩ : ∃ a, l[k]? = some a := ⟨_, List.getElem?_eq_getElem hlt⟩
    have ham := List.mem_of_getElem? ha
    have HR := Hd (rowE_step l k a ha)
    have CP := Hd (ref18_pack a.c a.iv wq ((HK.out a ham).only ho.out) (HM.out a ham))
    obtain ⟨ab, ao, ac, hv, q0, q1, q2, q3, q4, q5, q6, q7, q8, q9, q10⟩ := cmL_at (HS.out.only ho.out (Nat.le_refl _) (by simp)) ha
    injection hv with e1 e2 e3
    subst e1; subst e3
    unfold Cm.val at CP
    clear e2 ha ham
    go_wp2_with fail
    refine CP.out.mono ?_
    rintro e w5 ⟨rfl, ho5⟩
    have HW5 := Hd (own_keep HW.out ho5 (by simp))
    have HO5 := Hd (ho.out.tr ho5)
    clear ho5 CP HW ho q0 q1 q2 q3 q4 q5 q6 q7 q8 q9 q10
    have hw1 : IntKind.i64.wrap ((k : Int) + 1) = (k : Int) + 1 := by rw [IntKind.wrap_i64]; omega
    obtain ⟨b1, b2, b3⟩ := box_row w5 72 [.int .i64 0, .int .i64 0, .int .i64 0, .string ⟨#[]⟩] [.int .i64 ((k : Int) + 1), .int .i64 1, .int .i64 2, .string ⟨(pkS a.c).toArray⟩]
    have hone : (#[.int .i64 ((k : Int) + 1), .int .i64 1, .int .i64 2, .string ⟨(pkS a.c).toArray⟩] : Array Value).all (·.oneCell') = true := by simp [Value.oneCell']
    obtain ⟨ys, hy⟩ : ∃ u, (w5.alloc (.cells #[.int .i64 0, .int .i64 0, .int .i64 0, .string ⟨#[]⟩] 72)).setRow w5.heap.size #[.int .i64 ((k : Int) + 1), .int .i64 1, .int .i64 2, .string ⟨(pkS a.c).toArray⟩] = u := ⟨_, rfl⟩
    have hys : (w5.alloc (.cells [.int .i64 0, .int .i64 0, .int .i64 0, .string ⟨#[]⟩].toArray 72)).setRow w5.heap.size [.int .i64 ((k : Int) + 1), .int .i64 1, .int .i64 2, .string ⟨(pkS a.c).toArray⟩].toArray = ys := hy
    rw [hys] at b1 b3
    have HWY := Hd (own_keep HW5.out b1 (by simp))
    have HOY := Hd (HO5.out.tr b1)
    have hwy := HO5.out.size
    obtain ⟨z, hz⟩ : ∃ z, w5.heap.size = z := ⟨_, rfl⟩
    rw [hz] at b2 b3 hy hwy
    have HZ := Hd b3
    have HNZ : Hid (lv.ownBlock ≠ some z) := Hd (fun e => by have := (HW5.out.lt z e).2; omega)
    clear b1 b3 hys HW5 HO5
    by_cases h2 : rightB a.c = true
    · have e1 : pkE a.c = 0 := by unfold pkE; rw [if_pos h2]
      have e2 : rowF k a.c = ⟨k + 1, 1, 2, pkS a.c⟩ := by unfold rowF; rw [if_pos h2]
      rw [e2] at HR
      rw [e1]
      clear h2 e1 e2
      have hld := HZ.out
      have y2 := HZ.out.cell (k := 2) rfl
      go_wp2_with (first
       | ((try rw [hz]); refine wpList_store_row rfl 72 _ _ rfl z #[.int .i64 ((k : Int) + 1), .int .i64 1, .int .i64 2, .string ⟨(pkS a.c).toArray⟩] rfl rfl 72 _ b2 (by kernel_rfl) rfl hone ?_; (try rw [hy]))
       | (refine wpList_load_row rfl 72 _ rfl z rfl 72 #[.int .i64 ((k : Int) + 1), .int .i64 1, .int .i64 2, .string ⟨(pkS a.c).toArray⟩] (0, 0) _ hld Tryz.underlying72 rfl (by kernel_rfl) ?_)
       | (at_builtin; refine wpList_appA rfl _ _ 67 rfl w.heap.size 72 i0 _ 4 40 Tryz.underlying67 hi0 hz0 hz1 hz2 rfl (by decide) ys lv k (eyL (rowE (l.take k))) rfl HWY.out 1 1 [.int .i64 ((k : Int) + 1), .int .i64 1, .int .i64 2, .string ⟨(pkS a.c).toArray⟩] rfl rfl (by simp [Value.oneCell']) (by unfold maxLen; omega) (by omega) HOY.out.size ?_; intro v' w6 hown6 hgr6 hnew6))
      have HW6 : Hid (w6.ownsRow w.heap.size 72 4 v' (k + 1) (eyL (rowE (l.take (k + 1))))) := Hd (by rw [HR.out, eyL_append]; exact hown6)
      have HO6 := Hd (Only.own HOY.out HWY.out hgr6 (Nat.le_refl _))
      clear hown6 hgr6 hnew6 HWY HOY HR HZ hld y2
      go_wp2_with fail
      go_roundw
      case rel => exact ⟨k + 1, _, by omega, rfl, by go_num, HW6, HO6⟩
      case measure => simp [intOf]; omega
    · have e1 : pkE a.c = 1 := by unfold pkE; rw [if_neg h2]
      have e2 : rowF k a.c = ⟨k + 1, 1, 1, pkS a.c⟩ := by unfold rowF; rw [if_neg h2]
      rw [e2] at HR
      rw [e1]
      clear h2 e1 e2
      have hzf := HZ.out.frozen 2
      have hzl := HZ.out.lt
      obtain ⟨u6, hu6⟩ : ∃ u, ys.setCell ⟨z, 2, none⟩ (.int .i64 1) = u := ⟨_, rfl⟩
      have y2 := HZ.out.cell (k := 2) rfl
      have HZ6 : Hid (Cells u6 z 72 [.int .i64 ((k : Int) + 1), .int .i64 1, .int .i64 1, .string ⟨(pkS a.c).toArray⟩]) := Hd (hu6 ▸ HZ.out.set 2 (.int .i64 1))
      have hoS : Only [z] ys u6 := hu6 ▸ oz.setCell (.inl (by simp)) _
      have hnz := HNZ.out
      have HWU := Hd (own_keep HWY.out hoS (by simpa using hnz))
      have HOU := Hd (HOY.out.trans hoS (fun x hx => by simp at hx; exact .inr (by omega)))
      have hld := HZ6.out
      clear HZ HWY HOY hoS hnz
      go_wp2_with (first
       | ((try rw [hz]); refine wpList_store_row rfl 72 _ _ rfl z #[.int .i64 ((k : Int) + 1), .int .i64 1, .int .i64 2, .string ⟨(pkS a.c).toArray⟩] rfl rfl 72 _ b2 (by kernel_rfl) rfl hone ?_; (try rw [hy]))
       | ((try rw [hu6]); refine wpList_load_row rfl 72 _ rfl z rfl 72 #[.int .i64 ((k : Int) + 1), .int .i64 1, .int .i64 1, .string ⟨(pkS a.c).toArray⟩] (0, 0) _ hld Tryz.underlying72 rfl (by kernel_rfl) ?_)
       | (at_builtin; refine wpList_appA rfl _ _ 67 rfl w.heap.size 72 i0 _ 4 40 Tryz.underlying67 hi0 hz0 hz1 hz2 rfl (by decide) u6 lv k (eyL (rowE (l.take k))) rfl HWU.out 1 1 [.int .i64 ((k : Int) + 1), .int .i64 1, .int .i64 1, .string ⟨(pkS a.c).toArray⟩] rfl rfl (by simp [Value.oneCell']) (by unfold maxLen; omega) (by omega) HOU.out.size ?_; intro v' w6 hown6 hgr6 hnew6))
      have HW6 : Hid (w6.ownsRow w.heap.size 72 4 v' (k + 1) (eyL (rowE (l.take (k + 1))))) := Hd (by rw [HR.out, eyL_append]; exact hown6)
      have HO6 := Hd (Only.own HOU.out HWU.out hgr6 (Nat.le_refl _))
      clear hown6 hgr6 hnew6 HWU HOU HR hld y2 HZ6
      go_wp2_with fail
      go_roundw
      case rel => exact ⟨k + 1, _, by omega, rfl, by go_num, HW6, HO6⟩
      case measure => simp [intOf]; omega
  · have hdd : decide ((k : Int) < (l.length : Int)) = false := by simp; omega
    obtain rfl : k = l.length := by omega
    rw [List.take_length] at HW
    go_wp2_with fail
    go_ret
    exact ⟨_, rfl, HW.out, ho.out⟩
structure Oq where
 cl : Int
 d : List UInt8
 r : List UInt8
 st : Int
 en : Int
 hd : d.length ≤ 1000000
 hr : r.length ≤ 1000000
def Oq.cells (o : Oq) : List Value := [.int .i64 o.cl, .string ⟨o.d.toArray⟩, .string ⟨o.r.toArray⟩, .int .i64 o.st, .int .i64 o.en]
def oqL (l : List Oq) : List Value := l.flatMap Oq.cells
def regB (d : List UInt8) : Bool := match unC d with
 | none => false
 | some c => c.kd == 1
def matchE (x : Ey) (y d r : List UInt8) : Bool := x.kd == 2 && ((x.d == d) && (!regB d || y == r))
def fndQ (d r : List UInt8) : List Ey → List (List UInt8) → Nat → Int
 | x :: l, y :: rs, k => if matchE x y d r = true then k else fndQ d r l rs (k + 1)
 | [], _, _ => -1
 | _, [], _ => -1
theorem fndQ_at {d r : List UInt8} {l : List Ey} {rs : List (List UInt8)} {k n : Nat} {x : Ey} {y : List UInt8} (hx : l[k]? = some x) (hy : rs[k]? = some y) :
 fndQ d r (l.drop k) (rs.drop k) n = if matchE x y d r = true then (n : Int) else fndQ d r (l.drop (k + 1)) (rs.drop (k + 1)) (n + 1) := by
 obtain ⟨h1, rfl⟩ := List.getElem?_eq_some_iff.1 hx
 obtain ⟨h2, rfl⟩ := List.getElem?_eq_some_iff.1 hy
 rw [List.drop_eq_getElem_cons h1, List.drop_eq_getElem_cons h2]
 rfl
theorem hi_find (v rv : Value) (l : List Ey) (rs : List (List UInt8)) (o : Oq) (w : World) (hs : SlAt w w.heap.size v 4 l.length (eyL l)) (hr : SlAt w w.heap.size rv 1 rs.length (svs rs)) (hl : rs.length = l.length) (hn : l.length ≤ 1000) (hd : o.d.length ≤ 1000000) :
 Calls Tryz.prog 52 #[v, rv, .agg #[.int .i64 o.cl, .string ⟨o.d.toArray⟩, .string ⟨o.r.toArray⟩, .int .i64 o.st, .int .i64 o.en]] w fun e w' => e = .returned (.int .i64 (fndQ o.d o.r l rs 0)) ∧ Only [] w w' := by
 obtain ⟨LA, lc, rfl⟩ := hs.shape
 obtain ⟨RA, rc, rfl⟩ := hr.shape
 have HS := Hd hs
 rw [hl] at hr
 have HR := Hd hr
 have hcap : (l.length : Int) ≤ (lc : Int) := by obtain ⟨_, A, c, hv, h0, _⟩ := hs; injection hv with _ _ hv; subst hv; omega
 have hadd : ∀ x : Addr, x.add 0 = x := fun x => by unfold Addr.add; simp
 have hmap : Option.map (fun x : Addr => x) LA = LA := by cases LA <;> rfl
 have HN : Hid (unC o.d = none → regB o.d = false) := Hd (fun h => by unfold regB; rw [h])
 have HC : Hid (∀ c, unC o.d = some c → regB o.d = (c.kd == 1)) := Hd (fun c h => by unfold regB; rw [h])
 have HMT : Hid (∀ x y, matchE x y o.d o.r = (x.kd == 2 && ((x.d == o.d) && (!regB o.d || y == o.r)))) := Hd (fun x y => rfl)
 obtain ⟨q, hq⟩ : ∃ q, regB o.d = q := ⟨_, rfl⟩
 rw [hq] at HN HC HMT
 obtain ⟨w0, hw0⟩ : ∃ u, w.alloc (.cells #[.int .i64 o.cl, .string ⟨o.d.toArray⟩, .string ⟨o.r.toArray⟩, .int .i64 o.st, .int .i64 o.en] 88) = u := ⟨_, rfl⟩
 obtain ⟨z, hz⟩ : ∃ z, w.heap.size = z := ⟨_, rfl⟩
 have HZ : Hid (Cells w0 z 88 [.int .i64 o.cl, .string ⟨o.d.toArray⟩, .string ⟨o.r.toArray⟩, .int .i64 o.st, .int .i64 o.en]) := Hd (hw0 ▸ hz ▸ Cells.new w _ _)
 have HO0 : Hid (Only [] w w0) := Hd (hw0 ▸ oz.alloc _)
 have CU := Hd (cmd_unpack o.d w0 (by omega))
 have z1 := HZ.out.cell (k := 1) rfl
 clear hs hr hq
 go_enter Tryz.func52, Tryz.ntmps52
 go_wp2_with fail
 refine CU.out.mono ?_
 rintro e w1 ⟨iv, rfl, hc, ho1, _⟩
 obtain ⟨IA, ic, rfl⟩ := hc.its.shape
 have HQ : Hid (((if (unC o.d).isSome = true then (0 : Int) else 8) == 0 && (((unC o.d).getD Cm.zero).kd == 1)) = q) := Hd (by
  cases hu : unC o.d with
  | none => rw [HN.out hu]; rfl
  | some c => rw [HC.out c hu]; simp)
 obtain ⟨er, her⟩ : ∃ e, (if (unC o.d).isSome = true then (0 : Int) else 8) = e := ⟨_, rfl⟩
 obtain ⟨c, hcc⟩ : ∃ c, (unC o.d).getD Cm.zero = c := ⟨_, rfl⟩
 rw [her, hcc] at HQ
 rw [her, hcc]
 unfold Cm.val
 have HO1 := Hd (HO0.out.tr ho1)
 have HZ1 := Hd (HZ.out.only ho1 (by simp))
 obtain ⟨b1, b2, b3⟩ := box_row w1 38 [.int .i64 0, .int .i64 0, .int .i64 0, .int .i64 0, .int .i64 0, .int .i64 0, .int .i64 0, .string ⟨#[]⟩, .string ⟨#[]⟩, .slice none 0 0, .bool false] [.int .i64 c.kd, .int .i64 c.ss, .int .i64 c.sq, .int .i64 c.sh, .int .i64 c.nd, .int .i64 c.ep, .int .i64 c.n, .string ⟨c.fd.toArray⟩, .string ⟨c.id.toArray⟩, .slice IA c.its.length ic, .bool c.fl]
 have hone : (#[.int .i64 c.kd, .int .i64 c.ss, .int .i64 c.sq, .int .i64 c.sh, .int .i64 c.nd, .int .i64 c.ep, .int .i64 c.n, .string ⟨c.fd.toArray⟩, .string ⟨c.id.toArray⟩, .slice IA c.its.length ic, .bool c.fl] : Array Value).all (·.oneCell') = true := by simp [Value.oneCell']
 obtain ⟨ys, hy⟩ : ∃ u, (w1.alloc (.cells #[.int .i64 0, .int .i64 0, .int .i64 0, .int .i64 0, .int .i64 0, .int .i64 0, .int .i64 0, .string ⟨#[]⟩, .string ⟨#[]⟩, .slice none 0 0, .bool false] 38)).setRow w1.heap.size #[.int .i64 c.kd, .int .i64 c.ss, .int .i64 c.sq, .int .i64 c.sh, .int .i64 c.nd, .int .i64 c.ep, .int .i64 c.n, .string ⟨c.fd.toArray⟩, .string ⟨c.id.toArray⟩, .slice IA c.its.length ic, .bool c.fl] = u := ⟨_, rfl⟩
 have hys : (w1.alloc (.cells [.int .i64 0, .int .i64 0, .int .i64 0, .int .i64 0, .int .i64 0, .int .i64 0, .int .i64 0, .string ⟨#[]⟩, .string ⟨#[]⟩, .slice none 0 0, .bool false].toArray 38)).setRow w1.heap.size [.int .i64 c.kd, .int .i64 c.ss, .int .i64 c.sq, .int .i64 c.sh, .int .i64 c.nd, .int .i64 c.ep, .int .i64 c.n, .string ⟨c.fd.toArray⟩, .string ⟨c.id.toArray⟩, .slice IA c.its.length ic, .bool c.fl].toArray = ys := hy
 rw [hys] at b1 b3
 have HO2 := Hd (HO1.out.tr b1)
 have HZ2 := Hd (HZ1.out.only b1 (by simp))
 obtain ⟨g, hg⟩ : ∃ g, w1.heap.size = g := ⟨_, rfl⟩
 rw [hg] at b2 b3 hy
 have y0 := b3.cell (k := 0) rfl
 clear CU hc ho1 her hcc HN HC HO0 HO1 HZ HZ1 z1 b1 b3 hys
 go_upto_region 2 with ((try rw [hg]); refine wpList_store_row rfl 38 _ _ rfl g #[.int .i64 c.kd, .int .i64 c.ss, .int .i64 c.sq, .int .i64 c.sh, .int .i64 c.nd, .int .i64 c.ep, .int .i64 c.n, .string ⟨c.fd.toArray⟩, .string ⟨c.id.toArray⟩, .slice IA c.its.length ic, .bool c.fl] rfl rfl 38 _ b2 (by kernel_rfl) rfl hone ?_; (try rw [hy]))
 clear b2 hone hy
 go_cut [9] from 18 to 24 (fun x wx => x = .bool q ∧ wx = ys)
 case first =>
  by_cases he : er = 0
  · subst he
    have hq2 : (c.kd == 1) = q := by have := HQ.out; simpa using this
    go_wp2_with fail
    go_meet
    exact ⟨by first | rfl | rw [hq2], rfl⟩
  · have d1 : (er == 0) = false := by simpa using he
    have hq2 : q = false := by have := HQ.out; rw [d1] at this; simpa using this.symm
    subst hq2
    go_wp2_with fail
    go_meet
    exact ⟨rfl, rfl⟩
 case rest =>
 obtain ⟨rfl, rfl⟩ := hcut
 clear HQ y0
 go_wp2_with fail
 go_loopw [33] (fun i wr => ∃ k : Nat, k ≤ l.length ∧ i = .int .i64 k ∧ Hid (fndQ o.d o.r (l.drop k) (rs.drop k) k = fndQ o.d o.r l rs 0) ∧ Hid (Only [] w wr) ∧ Hid (Cells wr z 88 [.int .i64 o.cl, .string ⟨o.d.toArray⟩, .string ⟨o.r.toArray⟩, .int .i64 o.st, .int .i64 o.en])) (fun i _ => l.length - (intOf i).toNat)
 case atStart => exact ⟨0, by omega, rfl, Hd rfl, HO2, HZ2⟩
 case round =>
  obtain ⟨k, hk, rfl, HF, HO, HZ⟩ := hrel
  obtain ⟨wq, rfl⟩ : ∃ wq, wq = wr := ⟨_, rfl⟩
  by_cases hlt : k < l.length
  · have hlt' : (k : Int) < (l.length : Int) := by omega
    obtain ⟨x, hx⟩ : ∃ x, l[k]? = some x := ⟨_, List.getElem?_eq_getElem hlt⟩
    obtain ⟨y, hy⟩ : ∃ y, rs[k]? = some y := ⟨_, List.getElem?_eq_getElem (by omega)⟩
    have HFN := Hd (fndQ_at (d := o.d) (r := o.r) (n := k) hx hy)
    rw [HMT.out] at HFN
    obtain ⟨ab, ao, ac, hv, q0, q1, q2, q3⟩ := eyL_at (HS.out.only HO.out (Nat.le_refl _) (by simp)) hx
    injection hv with e1 e2 e3
    subst e1; subst e3
    obtain ⟨rb, ro, rc', hv, r0⟩ := svs_at23 (hl ▸ (HR.out.only HO.out (Nat.le_refl _) (by simp))) hy
    injection hv with e1 e3 e4
    subst e1; subst e4
    obtain ⟨b1, b2, b3⟩ := box_row wq 72 [.int .i64 0, .int .i64 0, .int .i64 0, .string ⟨#[]⟩] [.int .i64 x.ix, .int .i64 x.tm, .int .i64 x.kd, .string ⟨x.d.toArray⟩]
    have hone : (#[.int .i64 x.ix, .int .i64 x.tm, .int .i64 x.kd, .string ⟨x.d.toArray⟩] : Array Value).all (·.oneCell') = true := by simp [Value.oneCell']
    obtain ⟨ys, hys⟩ : ∃ u, (wq.alloc (.cells #[.int .i64 0, .int .i64 0, .int .i64 0, .string ⟨#[]⟩] 72)).setRow wq.heap.size #[.int .i64 x.ix, .int .i64 x.tm, .int .i64 x.kd, .string ⟨x.d.toArray⟩] = u := ⟨_, rfl⟩
    have hys2 : (wq.alloc (.cells [.int .i64 0, .int .i64 0, .int .i64 0, .string ⟨#[]⟩].toArray 72)).setRow wq.heap.size [.int .i64 x.ix, .int .i64 x.tm, .int .i64 x.kd, .string ⟨x.d.toArray⟩].toArray = ys := hys
    rw [hys2] at b1 b3
    obtain ⟨g, hg⟩ : ∃ g, wq.heap.size = g := ⟨_, rfl⟩
    rw [hg] at b2 b3 hys
    have HO3 := Hd (HO.out.tr b1)
    have HZ3 := Hd (HZ.out.only b1 (by simp))
    have t2 := fun u : Since ys => u.cell (b3.cell (k := 2) rfl)
    have t3 := fun u : Since ys => u.cell (b3.cell (k := 3) rfl)
    have s1 := fun u : Since ys => u.cell (HZ3.out.cell (k := 1) rfl)
    have s2 := fun u : Since ys => u.cell (HZ3.out.cell (k := 2) rfl)
    have p0 := fun u : Since ys => u.cell ((b1.cell (World.block_lt_of_cell? wq _ r0) (by simp)).trans r0)
    clear b1 b3 hys2 hx hy e2 e3 r0 HO HZ
    go_upto_region 6 with (first
     | ((try rw [hg]); refine wpList_store_row rfl 72 _ _ rfl g #[.int .i64 x.ix, .int .i64 x.tm, .int .i64 x.kd, .string ⟨x.d.toArray⟩] rfl rfl 72 _ b2 (by kernel_rfl) rfl hone ?_; (try rw [hys])))
    (try simp only [Act.put])
    clear b2 hone hys q0 q1 q2 q3
    obtain ⟨m1, hm1⟩ : ∃ b, (x.kd == 2) = b := ⟨_, rfl⟩
    obtain ⟨m2, hm2⟩ : ∃ b, (x.d == o.d) = b := ⟨_, rfl⟩
    obtain ⟨m3, hm3⟩ : ∃ b, (y == o.r) = b := ⟨_, rfl⟩
    rw [hm1, hm2, hm3] at HFN
    cases m1 with
    | false =>
     refine wp_region_only ys oz (by kernel_rfl) (by kernel_rfl) ?_
     repeat (go_big_quiet_step (fail))
     refine wpQuiet_nil ?_
     rintro ⟨w3, ho3⟩
     dsimp only
     have HO4 := Hd (HO3.out.tr ho3)
     have HZ4 := Hd (HZ3.out.only ho3 (by simp))
     clear t2 t3 s1 s2 p0 ho3
     have HF4 : Hid (fndQ o.d o.r (l.drop (k + 1)) (rs.drop (k + 1)) (k + 1) = fndQ o.d o.r l rs 0) := Hd (by rw [← HF.out, HFN.out]; simp)
     go_wp2_with fail
     go_roundw
     case rel => exact ⟨k + 1, by omega, by go_num, HF4, HO4, HZ4⟩
     case measure => simp [intOf]; omega
    | true =>
    cases m2 with
    | false =>
     refine wp_region_only ys oz (by kernel_rfl) (by kernel_rfl) ?_
     repeat (go_big_quiet_step (fail))
     refine wpQuiet_nil ?_
     rintro ⟨w3, ho3⟩
     dsimp only
     have HO4 := Hd (HO3.out.tr ho3)
     have HZ4 := Hd (HZ3.out.only ho3 (by simp))
     clear t2 t3 s1 s2 p0 ho3
     have HF4 : Hid (fndQ o.d o.r (l.drop (k + 1)) (rs.drop (k + 1)) (k + 1) = fndQ o.d o.r l rs 0) := Hd (by rw [← HF.out, HFN.out]; simp)
     go_wp2_with fail
     go_roundw
     case rel => exact ⟨k + 1, by omega, by go_num, HF4, HO4, HZ4⟩
     case measure => simp [intOf]; omega
    | true =>
    cases q with
    | false =>
     refine wp_region_only ys oz (by kernel_rfl) (by kernel_rfl) ?_
     repeat (go_big_quiet_step (fail))
     refine wpQuiet_nil ?_
     rintro ⟨w3, ho3⟩
     dsimp only
     have HO4 := Hd (HO3.out.tr ho3)
     have HZ4 := Hd (HZ3.out.only ho3 (by simp))
     clear t2 t3 s1 s2 p0 ho3
     have HE : Hid (fndQ o.d o.r l rs 0 = k) := Hd (by rw [← HF.out, HFN.out]; simp)
     go_wp2_with fail
     go_ret
     exact ⟨by rw [HE.out]; rfl, HO4.out⟩
    | true =>
    cases m3 with
    | false =>
     refine wp_region_only ys oz (by kernel_rfl) (by kernel_rfl) ?_
     repeat (go_big_quiet_step (fail))
     refine wpQuiet_nil ?_
     rintro ⟨w3, ho3⟩
     dsimp only
     have HO4 := Hd (HO3.out.tr ho3)
     have HZ4 := Hd (HZ3.out.only ho3 (by simp))
     clear t2 t3 s1 s2 p0 ho3
     have HF4 : Hid (fndQ o.d o.r (l.drop (k + 1)) (rs.drop (k + 1)) (k + 1) = fndQ o.d o.r l rs 0) := Hd (by rw [← HF.out, HFN.out]; simp)
     go_wp2_with fail
     go_roundw
     case rel => exact ⟨k + 1, by omega, by go_num, HF4, HO4, HZ4⟩
     case measure => simp [intOf]; omega
    | true =>
     refine wp_region_only ys oz (by kernel_rfl) (by kernel_rfl) ?_
     repeat (go_big_quiet_step (fail))
     refine wpQuiet_nil ?_
     rintro ⟨w3, ho3⟩
     dsimp only
     have HO4 := Hd (HO3.out.tr ho3)
     have HZ4 := Hd (HZ3.out.only ho3 (by simp))
     clear t2 t3 s1 s2 p0 ho3
     have HE : Hid (fndQ o.d o.r l rs 0 = k) := Hd (by rw [← HF.out, HFN.out]; simp)
     go_wp2_with fail
     go_ret
     exact ⟨by rw [HE.out]; rfl, HO4.out⟩
  · have hdd : decide ((k : Int) < (l.length : Int)) = false := by simp; omega
    obtain rfl : k = l.length := by omega
    have HE : Hid (fndQ o.d o.r l rs 0 = -1) := Hd (by rw [← HF.out, List.drop_length]; rfl)
    go_wp2_with fail
    go_ret
    exact ⟨by rw [HE.out]; rfl, HO.out⟩
def cntO (o : Oq) : Bool := decide (0 ≤ o.en) && ((((unA o.r).getD Rp.zero).er != 17) && (((unA o.r).getD Rp.zero).er != 18))
def plc (l : List Ey) (rs : List (List UInt8)) (o : Oq) : Int := fndQ o.d o.r l rs 0
def okP (l : List Ey) (rs : List (List UInt8)) (o : Oq) : Bool := decide (0 ≤ plc l rs o) && decide (rs[(plc l rs o).toNat]? = some o.r)
def prP (l : List Ey) (rs : List (List UInt8)) (c : List Oq) : Bool := c.all fun p => c.all fun q => !(decide (p.en < q.st) && decide (plc l rs q ≤ plc l rs p))
def fitP (l : List Ey) (rs : List (List UInt8)) (os : List Oq) : Bool := (os.filter cntO).all (okP l rs) && prP l rs (os.filter cntO)
def Oq.zero : Oq := ⟨0, [], [], 0, 0, by simp, by simp⟩
def mkO (l : List Ey) (rs : List (List UInt8)) (c : List Oq) : Nat → Mk := fun x => if x % 2 = 0 then ⟨(c.getD (x / 2) Oq.zero).st, true, plc l rs (c.getD (x / 2) Oq.zero)⟩ else ⟨(c.getD (x / 2) Oq.zero).en, false, plc l rs (c.getD (x / 2) Oq.zero)⟩
theorem mkF_add (f : Nat → Mk) (n m : Nat) : mkF f (n + m) = mkF f n ++ (List.range m).flatMap fun i => (f (n + i)).cells := by
 unfold mkF
 rw [List.range_add, List.map_append, List.flatMap_append]
 simp only [List.flatMap_map]
theorem mkO_snoc (l : List Ey) (rs : List (List UInt8)) (c : List Oq) (o : Oq) :
 mkF (mkO l rs (c ++ [o])) (2 * (c.length + 1)) = mkF (mkO l rs c) (2 * c.length) ++ [.int .i64 o.st, .bool true, .int .i64 (plc l rs o), .int .i64 o.en, .bool false, .int .i64 (plc l rs o)] := by
 rw [show 2 * (c.length + 1) = 2 * c.length + 2 from by omega, mkF_add]
 congr 1
 · refine mkF_congr (fun i hi => ?_)
   have e : (c ++ [o]).getD (i / 2) Oq.zero = c.getD (i / 2) Oq.zero := by
    rw [List.getD_eq_getElem?_getD, List.getD_eq_getElem?_getD, List.getElem?_append_left (by omega)]
   unfold mkO
   rw [e]
 · have e : ∀ i, i < 2 → (c ++ [o]).getD ((2 * c.length + i) / 2) Oq.zero = o := fun i hi => by
    rw [List.getD_eq_getElem?_getD, show (2 * c.length + i) / 2 = c.length from by omega, List.getElem?_concat_length]
    rfl
   show (mkO l rs (c ++ [o]) (2 * c.length + 0)).cells ++ ((mkO l rs (c ++ [o]) (2 * c.length + 1)).cells ++ []) = _
   unfold mkO
   rw [e 0 (by omega), e 1 (by omega), if_pos (by omega), if_neg (by omega)]
   rfl
theorem mkO_end (l : List Ey) (rs : List (List UInt8)) (c : List Oq) (i : Nat) (o : Oq) (h : c[i]? = some o) : mkO l rs c (2 * i) = ⟨o.st, true, plc l rs o⟩ ∧ mkO l rs c (2 * i + 1) = ⟨o.en, false, plc l rs o⟩ := by
 have e : ∀ j, j < 2 → c.getD ((2 * i + j) / 2) Oq.zero = o := fun j hj => by
  rw [List.getD_eq_getElem?_getD, show (2 * i + j) / 2 = i from by omega, h]
  rfl
 constructor
 · unfold mkO
   have := e 0 (by omega)
   rw [Nat.add_zero] at this
   rw [this, if_pos (by omega)]
 · unfold mkO
   rw [e 1 (by omega), if_neg (by omega)]
structure Sc (g : Nat → Mk) (k : Nat) (G : Int) : Prop where
 hi : ∀ x, x < k → (g x).st = false → (g x).pl ≤ G
 at_ : G = -1 ∨ ∃ x, x < k ∧ (g x).st = false ∧ (g x).pl = G
 ok : ∀ x y, x < y → y < k → (g x).st = false → (g y).st = true → (g x).pl < (g y).pl
def OkG (g : Nat → Mk) (n : Nat) : Prop := ∀ x y, x < y → y < n → (g x).st = false → (g y).st = true → (g x).pl < (g y).pl
theorem Sc.start (g : Nat → Mk) : Sc g 0 (-1) := ⟨fun x h => by omega, .inl rfl, fun x y h1 h2 => by omega⟩
theorem Sc.more {g : Nat → Mk} {k : Nat} {G : Int} (h : Sc g k G) (hs : (g k).st = true) (hl : ¬ (g k).pl ≤ G) : Sc g (k + 1) G :=
 ⟨fun x hx he => by
  by_cases e : x = k
  · rw [e, hs] at he; cases he
  · exact h.hi x (by omega) he,
  h.at_.imp id (fun ⟨x, h1, h2, h3⟩ => ⟨x, by omega, h2, h3⟩),
  fun x y h1 h2 h3 h4 => by
   by_cases e : y = k
   · subst e
     have := h.hi x h1 h3
     omega
   · exact h.ok x y h1 (by omega) h3 h4⟩
theorem Sc.less {g : Nat → Mk} {k : Nat} {G : Int} (h : Sc g k G) (hs : (g k).st = false) : Sc g (k + 1) (max G (g k).pl) :=
 ⟨fun x hx he => by
  by_cases e : x = k
  · subst e; omega
  · have := h.hi x (by omega) he; omega,
  by
   by_cases e : G ≤ (g k).pl
   · exact .inr ⟨k, by omega, hs, by omega⟩
   · rw [Int.max_eq_left (by omega)]
     exact h.at_.imp id (fun ⟨x, h1, h2, h3⟩ => ⟨x, by omega, h2, h3⟩),
  fun x y h1 h2 h3 h4 => by
   by_cases e : y = k
   · rw [e, hs] at h4; cases h4
   · exact h.ok x y h1 (by omega) h3 h4⟩
theorem Sc.not_ {g : Nat → Mk} {k n : Nat} {G : Int} (h : Sc g k G) (hk : k < n) (hs : (g k).st = true) (hl : (g k).pl ≤ G) (h0 : 0 ≤ (g k).pl) : ¬ OkG g n := fun ho => by
 rcases h.at_ with e | ⟨x, h1, h2, h3⟩
 · omega
 · have := ho x k h1 hk h2 hs
   omega
theorem okG_iff (l : List Ey) (rs : List (List UInt8)) (c : List Oq) (g : Nat → Mk) (hx : Ex 0 (2 * c.length) (mkO l rs c) g) (hs : Srt g 0 (2 * c.length)) : OkG g (2 * c.length) ↔ prP l rs c = true := by
 unfold prP
 constructor
 · intro ho
   rw [List.all_eq_true]
   intro p hp
   rw [List.all_eq_true]
   intro q hq
   obtain ⟨i, hi⟩ := List.getElem?_of_mem hp
   obtain ⟨j, hj⟩ := List.getElem?_of_mem hq
   have hi2 : i < c.length := (List.getElem?_eq_some_iff.1 hi).1
   have hj2 : j < c.length := (List.getElem?_eq_some_iff.1 hj).1
   obtain ⟨_, m1⟩ := mkO_end l rs c i p hi
   obtain ⟨m2, _⟩ := mkO_end l rs c j q hj
   obtain ⟨u, _, u2, u3⟩ := hx.to_ (2 * i + 1) (by omega) (by omega)
   obtain ⟨v, _, v2, v3⟩ := hx.to_ (2 * j) (by omega) (by omega)
   rw [m1] at u3
   rw [m2] at v3
   by_cases hlt : p.en < q.st
   · have huv : u < v := by
      rcases Nat.lt_trichotomy u v with e | e | e
      · exact e
      · subst e
        rw [u3] at v3
        injection v3 with _ v3
        cases v3
      · have := hs v u (by omega) e u2
        rw [u3, v3] at this
        simp only [Mk.key] at this
        simp at this
        omega
     have := ho u v huv v2 (by rw [u3]) (by rw [v3])
     rw [u3, v3] at this
     dsimp only at this
     simp
     omega
   · simp
     omega
 · intro hp x y h1 h2 h3 h4
   obtain ⟨u, _, u2, u3⟩ := hx.of_ x (by omega) (by omega)
   obtain ⟨v, _, v2, v3⟩ := hx.of_ y (by omega) (by omega)
   obtain ⟨p, hi⟩ : ∃ p, c[u / 2]? = some p := ⟨_, List.getElem?_eq_getElem (by omega)⟩
   obtain ⟨q, hj⟩ : ∃ p, c[v / 2]? = some p := ⟨_, List.getElem?_eq_getElem (by omega)⟩
   obtain ⟨a1, a2⟩ := mkO_end l rs c _ p hi
   obtain ⟨b1, b2⟩ := mkO_end l rs c _ q hj
   have hu : u = 2 * (u / 2) + 1 := by
    by_cases e : u = 2 * (u / 2)
    · rw [e] at u3
      rw [a1] at u3
      rw [← u3] at h3
      cases h3
    · omega
   have hv : v = 2 * (v / 2) := by
    by_cases e : v = 2 * (v / 2) + 1
    · rw [e] at v3
      rw [b2] at v3
      rw [← v3] at h4
      cases h4
    · omega
   rw [hu, a2] at u3
   rw [hv, b1] at v3
   have hk := hs x y (by omega) h1 h2
   rw [← u3, ← v3] at hk ⊢
   simp only [Mk.key] at hk
   simp at hk
   have := List.all_eq_true.1 (List.all_eq_true.1 hp p (List.mem_of_getElem? hi)) q (List.mem_of_getElem? hj)
   simp at this
   show plc l rs p < plc l rs q
   omega
end Go.Proofs.YtcjfmildalappaaGreat
