/-
  What the laws of the chapters 19 and 23 lean on, part K20av: contracts of the functions that they reach, and plain facts; each theorem bears its own conditions.
-/
import Derived.Laws.StructEq
import Derived.Test.YtcjfmildalappaaGreatK20ai
import Derived.Test.YtcjfmildalappaaGreatK20al
import Derived.Test.YtcjfmildalappaaGreatK20ar
import Derived.Test.YtcjfmildalappaaGreatK20au
set_option linter.unusedVariables false
set_option linter.unusedSimpArgs false
namespace Go.Proofs.YtcjfmildalappaaGreat
open Go.RowKit
/-- What one of the five comes to. -/
theorem ag_five (p : Nat) (K : List Nat) (a : AgS) (n : Nat) (hn : n ≤ 1000000000) (c : Cm) (iv : Value) (hI : AgI n a) (hfd : c.fd.length ≤ maxLen) (hil : c.its.length ≤ 1000000) (hit : ∀ x ∈ c.its, x.Len) :
    (c.kd = 1 → ∀ w, AgAt w p K a → Calls Tryz.prog 63 #[.pointer (some ⟨p, 0, none⟩), c.val iv] w fun e w' => ReO w w' p K (othA a c).1 (othA a c).2 e) ∧
    (c.kd ≠ 1 → c.kd = 6 → ∀ w, AgAt w p K a → Calls Tryz.prog 64 #[.pointer (some ⟨p, 0, none⟩), c.val iv] w fun e w' => ReO w w' p K (othA a c).1 (othA a c).2 e) ∧
    (c.kd ≠ 1 → c.kd ≠ 6 → c.kd = 7 → ∀ w, AgAt w p K a → Calls Tryz.prog 65 #[.pointer (some ⟨p, 0, none⟩), c.val iv] w fun e w' => ReO w w' p K (othA a c).1 (othA a c).2 e) ∧
    (c.kd ≠ 1 → c.kd ≠ 6 → c.kd ≠ 7 → c.kd = 9 → ∀ w, AgAt w p K a → Calls Tryz.prog 66 #[.pointer (some ⟨p, 0, none⟩), c.val iv] w fun e w' => ReO w w' p K (othA a c).1 (othA a c).2 e) ∧
    (c.kd ≠ 1 → c.kd ≠ 6 → c.kd ≠ 7 → c.kd ≠ 9 → ∀ w, AgAt w p K a → ItK w K iv c → Calls Tryz.prog 62 #[.pointer (some ⟨p, 0, none⟩), c.val iv] w fun e w' => ReO w w' p K (othA a c).1 (othA a c).2 e) := by
  unfold othA
  refine ⟨fun h w hA => ?_, fun h1 h w hA => ?_, fun h1 h6 h w hA => ?_, fun h1 h6 h7 h w hA => ?_, fun h1 h6 h7 h9 w hA hs => ?_⟩
  · rw [if_pos h]; exact ag_register p K a n hn c iv w hA hI
  · rw [if_neg h1, if_pos h]; exact ag_tick p K a n hn c iv w hA hI
  · rw [if_neg h1, if_neg h6, if_pos h]; exact ag_grant p K a n hn c iv w hA hI
  · rw [if_neg h1, if_neg h6, if_neg h7, if_pos h]; exact ag_show p K a n hn c iv w hA hI
  · rw [if_neg h1, if_neg h6, if_neg h7, if_neg h9]; exact ag_ingest p K a n hn c iv w hA hI hfd hil hit hs
set_option maxRecDepth 100000 in
set_option maxHeartbeats 4000000 in
theorem ag_do (p : Nat) (K : List Nat) (a : AgS) (n : Nat) (hn : n ≤ 1000000000) (c : Cm) (iv : Value) (w : World) (h : AgAt w p K a) (hI : AgI n a) (hc : CmAt w iv c) (hil : c.its.length ≤ 1000000) (hsl : ItK w K iv c) :
    Calls Tryz.prog 20 #[.pointer (some ⟨p, 0, none⟩), c.val iv] w fun e w' => ReO w w' p K (doA a c).1 (doA a c).2 e := by
  have hFIVE := ag_five p K a n hn c iv hI hc.fd hil hc.len
  have hCL := fun w' (hA : AgAt w' p K a) => ag_client p K a n c iv w' hA hI hc.fd hc.id
  have hRT := fun w' (ho : Only [] w w') => cmd_right c iv w' (hc.only ho)
  have hCC := fun w' => client_call c iv w'
  obtain ⟨tb, tv, lb, sb, O, B, hX, rfl⟩ := h
  have hE1 : rightB c = false → doA a c = (errR 1, a) := fun h => by unfold doA; rw [if_pos h]
  have hE2 : rightB c = true → clB c.kd = true → doA a c = clA a c := doA_cl
  have hE3 : rightB c = true → clB c.kd = false → doA a c = othA a c := fun h h2 => by unfold doA; rw [if_neg (by simp [h]), if_pos h2]
  have HE1 := Lib.hid hE1
  have HE2 := Lib.hid hE2
  have HE3 := Lib.hid hE3
  have HSL := Lib.hid hsl
  unfold Cm.val at hFIVE hCL hRT hCC ⊢
  have HFIVE := Lib.hid hFIVE
  have HCL := Lib.hid hCL
  have HRT := Lib.hid hRT
  have HCC := Lib.hid hCC
  clear hI hc hil hsl hFIVE hCL hRT hCC hE1 hE2 hE3 hn
  go_enter Tryz.func20, Tryz.ntmps20
  go_upto_region 1 with fail
  obtain ⟨w1, hw1⟩ : ∃ u, w.alloc (.cells #[.int .i64 c.kd, .int .i64 c.ss, .int .i64 c.sq, .int .i64 c.sh, .int .i64 c.nd, .int .i64 c.ep, .int .i64 c.n, .string ⟨c.fd.toArray⟩, .string ⟨c.id.toArray⟩, iv, .bool c.fl] 38) = u := ⟨_, rfl⟩
  have hR : w.heap.size + 1 = w1.heap.size := by rw [← hw1, World.size_alloc]
  obtain ⟨z, hz⟩ : ∃ z, w.heap.size = z := ⟨_, rfl⟩
  have hcz : Cells w1 z 38 (c.cells iv) := hw1 ▸ hz ▸ Cells.new w _ _
  rw [hw1, hR, hz]
  obtain ⟨w2, hw2⟩ : ∃ u, w1.alloc (.cells #[.int .i64 0, .int .i64 0, .slice none 0 0] 34) = u := ⟨_, rfl⟩
  obtain ⟨R, hRR⟩ : ∃ R, w1.heap.size = R := ⟨_, rfl⟩
  have o12 : Only [] w1 w2 := hw2 ▸ (Only.refl _ _).alloc _
  have o2 : Only [] w w2 := Only.tr0 (hw1 ▸ (Only.refl _ _).alloc _) o12
  have hcR : Cells w2 R 34 [.int .i64 0, .int .i64 0, .slice none 0 0] := hw2 ▸ hRR ▸ Cells.new w1 _ _
  rw [hw2, hRR]
  have hwR : w.heap.size ≤ R := by omega
  have hwz : w.heap.size ≤ z := by omega
  have hX2 := hX.keep o2 (by simp)
  have hcz2 := hcz.only o12 (by simp)
  have HCZ := Lib.hid hcz2
  have hpl := hX2.cells.lt
  have HX := Lib.hid hX
  have HX2 := Lib.hid hX2
  have HO2 := Lib.hid o2
  have HR := Lib.hid hcR
  have hRn : Hid (R ∉ allA p tb tv lb O) := Lib.hid (fun hm => by have := HX.out.lts R hm; omega)
  have hzn : Hid (z ∉ allA p tb tv lb O) := Lib.hid (fun hm => by have := HX.out.lts z hm; omega)
  obtain ⟨c0, c1, c2, c3, c4, c5, c6, c7, c8, c9, c10⟩ := cm_cells hcz2
  have CR := Lib.hid (HRT.out w2 o2)
  clear hw1 hw2 hR hRR hz o2 o12 hcR hX hX2 hcz hcz2
  go_wp2_with fail
  refine CR.out.mono ?_
  rintro e w3 ⟨rfl, ho3⟩
  have HX3 := Lib.hid (HX2.out.keep ho3 (by simp))
  have HO3 := Lib.hid (HO2.out.tr ho3)
  have HR3 := Lib.hid (HR.out.only ho3 (by simp))
  have HCZ3 := Lib.hid (HCZ.out.only ho3 (by simp))
  clear c0 c1 c2 c3 c4 c5 c6 c7 c8 c9 c10 ho3 CR HRT HX2 HO2 HR HCZ
  cases hb : rightB c with
  | false =>
    have HE := Lib.hid (HE1.out hb)
    clear hb HE1 HE2 HE3 HCZ3 hzn HFIVE HCL HCC HSL
    have oR : ∀ row, Only [R] w3 (w3.setRow R row) := fun row => (Only.refl _ _).setRow (.inl (by simp)) _
    have HFIN : Hid (∀ row, ReO w (w3.setRow R row) p (allA p tb tv lb O) (doA a c).1 (doA a c).2 (.returned (.agg #[.int .i64 1, .int .i64 0, .slice none 0 0]))) := Lib.hid (fun row => HE.out ▸ ReO.nil rfl (wide_lt (by omega) (by omega)) (wide_lt (by omega) (by omega)) ⟨tb, tv, lb, sb, O, B, HX3.out.keep (oR row) (fun k hk hm => by simp at hm; subst hm; exact hRn.out hk), rfl⟩ (HO3.out.of0.trans (oR row) (fun x hx => by simp at hx; subst hx; exact .inr hwR)) (fun x hx => .inl hx))
    have HRF := Lib.hid HR3.out
    have hst := HRF.out
    have hone : (#[.int .i64 1, .int .i64 0, .slice none 0 0] : Array Value).all (·.oneCell') = true := by simp [Value.oneCell']
    clear oR
    go_wp2_with (refine wpList_store_row rfl 34 _ _ rfl R #[.int .i64 1, .int .i64 0, .slice none 0 0] rfl rfl 34 _ hst (by kernel_rfl) rfl hone ?_)
    (try simp only [Exit.inBlock, Exit.then])
    refine bodyPost_ret (v := .agg #[.int .i64 1, .int .i64 0, .slice none 0 0]) ?_ rfl (HFIN.out _)
    exact results_row Tryz.results20 _ _ R 34 [.int .i64 1, .int .i64 0, .slice none 0 0] _ rfl (Cells.setRow HRF.out [.int .i64 1, .int .i64 0, .slice none 0 0]) Tryz.underlying34 rfl (by kernel_rfl)
  | true =>
    obtain ⟨c0, c1, c2, c3, c4, c5, c6, c7, c8, c9, c10⟩ := cm_cells HCZ3.out
    have CC := Lib.hid (HCC.out w3)
    have HB := Lib.hid hb
    clear hb HCC HE1
    go_wp2_with fail
    refine CC.out.mono ?_
    rintro e w4 ⟨rfl, ho4⟩
    have HX4 := Lib.hid (HX3.out.keep ho4 (by simp))
    have HO4 := Lib.hid (HO3.out.tr ho4)
    have HR4 := Lib.hid (HR3.out.only ho4 (by simp))
    have HCZ4 := Lib.hid (HCZ3.out.only ho4 (by simp))
    clear c0 c1 c2 c3 c4 c5 c6 c7 c8 c9 c10 ho4 CC HX3 HO3 HR3 HCZ3
    cases hcl : clB c.kd with
    | true =>
      have HE := Lib.hid (HE2.out HB.out hcl)
      obtain ⟨c0, c1, c2, c3, c4, c5, c6, c7, c8, c9, c10⟩ := cm_cells HCZ4.out
      have CX := Lib.hid (HCL.out w4 ⟨tb, tv, lb, sb, O, B, HX4.out, rfl⟩)
      rw [← HE.out] at CX
      clear hcl HE2 HE3 HFIVE HCL HSL
      go_wp2_with fail
      refine CX.out.mono ?_
      rintro e w5 ⟨pv, K', rfl, hp5, hn5, hA5, ho5, hN5⟩
      obtain ⟨r, hr⟩ : ∃ r, (doA a c).1 = r := ⟨_, rfl⟩
      rw [hr] at hp5 hn5 ⊢
      obtain ⟨PA, pc, rfl⟩ := hp5.ps.shape
      have hR5 := HR4.out.only ho5 hRn.out
      have hRs := HR4.out.lt
      have hRK : R ∉ K' := fun hm => by
        rcases hN5 R hm with e | e
        · exact hRn.out e
        · omega
      have oR : ∀ row, Only [R] w5 (w5.setRow R row) := fun row => (Only.refl _ _).setRow (.inl (by simp)) _
      have hws := HO4.out.size
      have hpF : ∀ row, RpAt (w5.setRow R row) (.slice PA r.ps.length pc) r := fun row => by
        refine ⟨?_, hp5.er, hp5.n, hp5.sm, hp5.len⟩
        by_cases h0 : 0 < r.ps.length
        · exact (hp5.ps.past (oR row) (Nat.le_refl _) (fun g hg hm => by simp at hm; have := (hn5 h0 g hg).1; omega)).more (oR row).size
        · obtain ⟨z1, z2, z3, z4, z5, z6, z7⟩ := hp5.ps
          exact ⟨z1, z2, z3, z4, z5, z6, fun hh => by omega⟩
      have HFIN : Hid (∀ row, ReO w (w5.setRow R row) p (allA p tb tv lb O) (doA a c).1 (doA a c).2 (.returned (.agg #[.int .i64 r.er, .int .i64 r.n, .slice PA r.ps.length pc]))) := Lib.hid (fun row => by
        rw [hr]
        exact ⟨.slice PA r.ps.length pc, K', rfl, hpF row, fun h0 g hg => ⟨by have := (hn5 h0 g hg).1; omega, (hn5 h0 g hg).2⟩, hA5.keep (oR row) (fun k hk hm => by simp at hm; subst hm; exact hRK hk), (HO4.out.of0.trans ho5 (fun x hx => .inl hx)).trans (oR row) (fun x hx => by simp at hx; subst hx; exact .inr hwR), fun x hx => (hN5 x hx).imp id (fun h => by omega)⟩)
      have HRF := Lib.hid hR5
      have hst := HRF.out
      have hone : (#[.int .i64 r.er, .int .i64 r.n, .slice PA r.ps.length pc] : Array Value).all (·.oneCell') = true := by simp [Value.oneCell']
      clear hp5 hn5 hA5 ho5 hN5 hR5 hRs hRK oR hws hpF CX hr c0 c1 c2 c3 c4 c5 c6 c7 c8 c9 c10
      go_wp2_with (refine wpList_store_row rfl 34 _ _ rfl R #[.int .i64 r.er, .int .i64 r.n, .slice PA r.ps.length pc] rfl rfl 34 _ hst (by kernel_rfl) rfl hone ?_)
      (try simp only [Exit.inBlock, Exit.then])
      refine bodyPost_ret (v := .agg #[.int .i64 r.er, .int .i64 r.n, .slice PA r.ps.length pc]) ?_ rfl (HFIN.out _)
      exact results_row Tryz.results20 _ _ R 34 [.int .i64 r.er, .int .i64 r.n, .slice PA r.ps.length pc] _ rfl (Cells.setRow HRF.out [.int .i64 r.er, .int .i64 r.n, .slice PA r.ps.length pc]) Tryz.underlying34 rfl (by kernel_rfl)
    | false =>
      have HE := Lib.hid (HE3.out HB.out hcl)
      obtain ⟨c0, c1, c2, c3, c4, c5, c6, c7, c8, c9, c10⟩ := cm_cells HCZ4.out
      clear hcl HE2 HE3 HCL c1 c2 c3 c4 c5 c6 c7 c8 c9 c10
      rw [← HE.out] at HFIVE
      go_upto_block 1 with fail
      go_cut [5] (fun x wx => ∃ fd, x = .func (.func fd) #[] #[] ∧ (∀ (ys : Array Value) (w' : World), (callFunc fd ys).run Tryz.prog w' = .ok (.enter fd ys) w') ∧ Hid (Only [] w4 wx ∧ ∀ w', AgAt w' p (allA p tb tv lb O) a → ItK w' (allA p tb tv lb O) iv c → Calls Tryz.prog fd #[.pointer (some ⟨p, 0, none⟩), .agg #[.int .i64 c.kd, .int .i64 c.ss, .int .i64 c.sq, .int .i64 c.sh, .int .i64 c.nd, .int .i64 c.ep, .int .i64 c.n, .string ⟨c.fd.toArray⟩, .string ⟨c.id.toArray⟩, iv, .bool c.fl]] w' fun e w'' => ReO w' w'' p (allA p tb tv lb O) (doA a c).1 (doA a c).2 e))
      case first =>
        by_cases k1 : c.kd = 1
        · have HF := Lib.hid (HFIVE.out.1 k1)
          have t1 : (c.kd == 1) = true := by simpa using k1
          clear k1 HFIVE
          go_wp2_with fail
          go_meet
          exact ⟨_, rfl, fun _ _ => rfl, Lib.hid ⟨Only.refl _ _, fun w' h1 _ => HF.out w' h1⟩⟩
        by_cases k6 : c.kd = 6
        · have HF := Lib.hid (HFIVE.out.2.1 k1 k6)
          have t1 : (c.kd == 1) = false := by simpa using k1
          have t6 : (c.kd == 6) = true := by simpa using k6
          clear k1 k6 HFIVE
          go_wp2_with fail
          go_meet
          exact ⟨_, rfl, fun _ _ => rfl, Lib.hid ⟨Only.refl _ _, fun w' h1 _ => HF.out w' h1⟩⟩
        by_cases k7 : c.kd = 7
        · have HF := Lib.hid (HFIVE.out.2.2.1 k1 k6 k7)
          have t1 : (c.kd == 1) = false := by simpa using k1
          have t6 : (c.kd == 6) = false := by simpa using k6
          have t7 : (c.kd == 7) = true := by simpa using k7
          clear k1 k6 k7 HFIVE
          go_wp2_with fail
          go_meet
          exact ⟨_, rfl, fun _ _ => rfl, Lib.hid ⟨Only.refl _ _, fun w' h1 _ => HF.out w' h1⟩⟩
        by_cases k9 : c.kd = 9
        · have HF := Lib.hid (HFIVE.out.2.2.2.1 k1 k6 k7 k9)
          have t1 : (c.kd == 1) = false := by simpa using k1
          have t6 : (c.kd == 6) = false := by simpa using k6
          have t7 : (c.kd == 7) = false := by simpa using k7
          have t9 : (c.kd == 9) = true := by simpa using k9
          clear k1 k6 k7 k9 HFIVE
          go_wp2_with fail
          go_meet
          exact ⟨_, rfl, fun _ _ => rfl, Lib.hid ⟨Only.refl _ _, fun w' h1 _ => HF.out w' h1⟩⟩
        have HF := Lib.hid (HFIVE.out.2.2.2.2 k1 k6 k7 k9)
        have t1 : (c.kd == 1) = false := by simpa using k1
        have t6 : (c.kd == 6) = false := by simpa using k6
        have t7 : (c.kd == 7) = false := by simpa using k7
        have t9 : (c.kd == 9) = false := by simpa using k9
        clear k1 k6 k7 k9 HFIVE
        go_wp2_with fail
        go_meet
        exact ⟨_, rfl, fun _ _ => rfl, Lib.hid ⟨Only.refl _ _, HF.out⟩⟩
      case rest =>
      obtain ⟨fd, rfl, hcf, HW⟩ := hcut
      obtain ⟨wa, hwa⟩ : ∃ u, u = wc := ⟨wc, rfl⟩
      subst hwa
      obtain ⟨c0, c1, c2, c3, c4, c5, c6, c7, c8, c9, c10⟩ := cm_cells (HCZ4.out.only HW.out.1 (by simp))
      have CX := Lib.hid (HW.out.2 wa ⟨tb, tv, lb, sb, O, B, HX4.out.keep HW.out.1 (by simp), rfl⟩ (HSL.out.only ((HO4.out.tr HW.out.1).of0)))
      have HO4b := Lib.hid (HO4.out.tr HW.out.1)
      have HR4b := Lib.hid (HR4.out.only HW.out.1 (by simp))
      clear HO4 HR4 HX4 HCZ4 HFIVE HSL
      go_wp2_with fail
      refine CX.out.mono ?_
      rintro e w5 ⟨pv, K', rfl, hp5, hn5, hA5, ho5, hN5⟩
      obtain ⟨r, hr⟩ : ∃ r, (doA a c).1 = r := ⟨_, rfl⟩
      rw [hr] at hp5 hn5 ⊢
      obtain ⟨PA, pc, rfl⟩ := hp5.ps.shape
      have hR5 := HR4b.out.only ho5 hRn.out
      have hRs := HR4b.out.lt
      have hRK : R ∉ K' := fun hm => by
        rcases hN5 R hm with e | e
        · exact hRn.out e
        · omega
      have oR : ∀ row, Only [R] w5 (w5.setRow R row) := fun row => (Only.refl _ _).setRow (.inl (by simp)) _
      have hws := HO4b.out.size
      have hpF : ∀ row, RpAt (w5.setRow R row) (.slice PA r.ps.length pc) r := fun row => by
        refine ⟨?_, hp5.er, hp5.n, hp5.sm, hp5.len⟩
        by_cases h0 : 0 < r.ps.length
        · exact (hp5.ps.past (oR row) (Nat.le_refl _) (fun g hg hm => by simp at hm; have := (hn5 h0 g hg).1; omega)).more (oR row).size
        · obtain ⟨z1, z2, z3, z4, z5, z6, z7⟩ := hp5.ps
          exact ⟨z1, z2, z3, z4, z5, z6, fun hh => by omega⟩
      have HFIN : Hid (∀ row, ReO w (w5.setRow R row) p (allA p tb tv lb O) (doA a c).1 (doA a c).2 (.returned (.agg #[.int .i64 r.er, .int .i64 r.n, .slice PA r.ps.length pc]))) := Lib.hid (fun row => by
        rw [hr]
        exact ⟨.slice PA r.ps.length pc, K', rfl, hpF row, fun h0 g hg => ⟨by have := (hn5 h0 g hg).1; omega, (hn5 h0 g hg).2⟩, hA5.keep (oR row) (fun k hk hm => by simp at hm; subst hm; exact hRK hk), (HO4b.out.of0.trans ho5 (fun x hx => .inl hx)).trans (oR row) (fun x hx => by simp at hx; subst hx; exact .inr hwR), fun x hx => (hN5 x hx).imp id (fun h => by omega)⟩)
      have HRF := Lib.hid hR5
      have hst := HRF.out
      have hone : (#[.int .i64 r.er, .int .i64 r.n, .slice PA r.ps.length pc] : Array Value).all (·.oneCell') = true := by simp [Value.oneCell']
      clear hp5 hn5 hA5 ho5 hN5 hR5 hRs hRK oR hws hpF CX hr c0 c1 c2 c3 c4 c5 c6 c7 c8 c9 c10
      go_wp2_with (refine wpList_store_row rfl 34 _ _ rfl R #[.int .i64 r.er, .int .i64 r.n, .slice PA r.ps.length pc] rfl rfl 34 _ hst (by kernel_rfl) rfl hone ?_)
      (try simp only [Exit.inBlock, Exit.then])
      refine bodyPost_ret (v := .agg #[.int .i64 r.er, .int .i64 r.n, .slice PA r.ps.length pc]) ?_ rfl (HFIN.out _)
      exact results_row Tryz.results20 _ _ R 34 [.int .i64 r.er, .int .i64 r.n, .slice PA r.ps.length pc] _ rfl (Cells.setRow HRF.out [.int .i64 r.er, .int .i64 r.n, .slice PA r.ps.length pc]) Tryz.underlying34 rfl (by kernel_rfl)
end Go.Proofs.YtcjfmildalappaaGreat
namespace Go.Proofs.YtcjfmildalappaaGreat
open Go.RowKit Go.ChangeShapes Go.WideShapes Go.Deep
structure C19 where
  c : Cm
  iv : Value
def cmL (l : List C19) : List Value := l.flatMap fun a => a.c.cells a.iv
theorem cmL_get (l : List C19) (i j : Nat) (x : C19) (h : l[i]? = some x) (hj : j < 11) : (cmL l)[i * 11 + j]? = (x.c.cells x.iv)[j]? := flat_get (fun a : C19 => a.c.cells a.iv) 11 (fun _ => rfl) l i j x h hj
theorem cmL_at {w : World} {B : Nat} {v : Value} {l : List C19} (h : SlAt w B v 11 l.length (cmL l)) {k : Nat} {a : C19} (hk : l[k]? = some a) :
    ∃ b o c, v = .slice (some ⟨b, o, none⟩) l.length c ∧ w.cell? ⟨b, o + k * 11, none⟩ = some (.int .i64 a.c.kd) ∧ w.cell? ⟨b, o + k * 11 + 1, none⟩ = some (.int .i64 a.c.ss) ∧ w.cell? ⟨b, o + k * 11 + 2, none⟩ = some (.int .i64 a.c.sq) ∧ w.cell? ⟨b, o + k * 11 + 3, none⟩ = some (.int .i64 a.c.sh) ∧ w.cell? ⟨b, o + k * 11 + 4, none⟩ = some (.int .i64 a.c.nd) ∧ w.cell? ⟨b, o + k * 11 + 5, none⟩ = some (.int .i64 a.c.ep) ∧ w.cell? ⟨b, o + k * 11 + 6, none⟩ = some (.int .i64 a.c.n) ∧ w.cell? ⟨b, o + k * 11 + 7, none⟩ = some (.string ⟨a.c.fd.toArray⟩) ∧ w.cell? ⟨b, o + k * 11 + 8, none⟩ = some (.string ⟨a.c.id.toArray⟩) ∧ w.cell? ⟨b, o + k * 11 + 9, none⟩ = some (a.iv) ∧ w.cell? ⟨b, o + k * 11 + 10, none⟩ = some (.bool a.c.fl) := by
  have hlt : k < l.length := (List.getElem?_eq_some_iff.1 hk).1
  obtain ⟨b, o, c, hv, _, hc⟩ := h.at_ (by omega)
  exact ⟨b, o, c, hv, hc (k * 11 + 0) _ (cmL_get l k 0 a hk (by omega)), hc (k * 11 + 1) _ (cmL_get l k 1 a hk (by omega)), hc (k * 11 + 2) _ (cmL_get l k 2 a hk (by omega)), hc (k * 11 + 3) _ (cmL_get l k 3 a hk (by omega)), hc (k * 11 + 4) _ (cmL_get l k 4 a hk (by omega)), hc (k * 11 + 5) _ (cmL_get l k 5 a hk (by omega)), hc (k * 11 + 6) _ (cmL_get l k 6 a hk (by omega)), hc (k * 11 + 7) _ (cmL_get l k 7 a hk (by omega)), hc (k * 11 + 8) _ (cmL_get l k 8 a hk (by omega)), hc (k * 11 + 9) _ (cmL_get l k 9 a hk (by omega)), hc (k * 11 + 10) _ (cmL_get l k 10 a hk (by omega))⟩
set_option maxRecDepth 100000 in
set_option maxHeartbeats 2000000 in
theorem open_cmds {H : Type} {enc : TypeId × Value → H} {w : World} {base : Nat} {spare : Nat → Bool} {held : Bool} {r : Reach} {b0 : Nat} {v : Value} {d : DataW H} {p : List MemPlace}
    (hv : Value.okWide Tryz.prog w r b0 22 v) (h : DataW.Trod enc Tryz.prog w base spare held 22 v d p) :
    ∃ l : List C19, SlAt w w.heap.size v 11 l.length (cmL l) ∧ ∀ a ∈ l, CmAt w a.iv a.c := by
  obtain ⟨n, xs, hs, hx⟩ := open_structs Tryz.underlying22 Tryz.underlying38 (by kernel_rfl) (by kernel_rfl) hv h
  obtain ⟨l, hl, rfl, hg⟩ := flat_of (fun a : C19 => a.c.cells a.iv) 11 (fun _ => rfl) (fun a => CmAt w a.iv a.c) n xs hs.1 fun i hi => by
    obtain ⟨u0, y0, m0, e0, h0⟩ := hx i hi 0 _ rfl
    obtain ⟨u1, y1, m1, e1, h1⟩ := hx i hi 1 _ rfl
    obtain ⟨u2, y2, m2, e2, h2⟩ := hx i hi 2 _ rfl
    obtain ⟨u3, y3, m3, e3, h3⟩ := hx i hi 3 _ rfl
    obtain ⟨u4, y4, m4, e4, h4⟩ := hx i hi 4 _ rfl
    obtain ⟨u5, y5, m5, e5, h5⟩ := hx i hi 5 _ rfl
    obtain ⟨u6, y6, m6, e6, h6⟩ := hx i hi 6 _ rfl
    obtain ⟨u7, y7, m7, e7, h7⟩ := hx i hi 7 _ rfl
    obtain ⟨u8, y8, m8, e8, h8⟩ := hx i hi 8 _ rfl
    obtain ⟨u9, y9, m9, e9, h9⟩ := hx i hi 9 _ rfl
    obtain ⟨u10, y10, m10, e10, h10⟩ := hx i hi 10 _ rfl
    obtain ⟨z0, q0, _, w0⟩ := DataW.trod_int Tryz.underlying3 h0
    obtain ⟨z1, q1, _, w1⟩ := DataW.trod_int Tryz.underlying3 h1
    obtain ⟨z2, q2, _, w2⟩ := DataW.trod_int Tryz.underlying3 h2
    obtain ⟨z3, q3, _, w3⟩ := DataW.trod_int Tryz.underlying3 h3
    obtain ⟨z4, q4, _, w4⟩ := DataW.trod_int Tryz.underlying3 h4
    obtain ⟨z5, q5, _, w5⟩ := DataW.trod_int Tryz.underlying3 h5
    obtain ⟨z6, q6, _, w6⟩ := DataW.trod_int Tryz.underlying3 h6
    obtain ⟨z7, q7, _, w7⟩ := DataW.trod_string Tryz.underlying9 h7
    obtain ⟨z8, q8, _, w8⟩ := DataW.trod_string Tryz.underlying9 h8
    obtain ⟨its, hi1, hi2⟩ := open_items_in h9
    obtain ⟨z10, q10, _⟩ := DataW.trod_bool Tryz.underlying4 h10
    simp at q0 q1 q2 q3 q4 q5 q6 q7 q8 q10
    subst q0; subst q1; subst q2; subst q3; subst q4; subst q5; subst q6; subst q7; subst q8; subst q10
    refine ⟨⟨⟨z0, z1, z2, z3, z4, z5, z6, z7.data.toList, z8.data.toList, its, z10⟩, u9⟩, ⟨hi1, hi2, by rw [ba_len]; exact w7, by rw [ba_len]; exact w8, ?_⟩, fun j hj => ?_⟩
    · intro x hx
      simp only [List.mem_cons, List.not_mem_nil, or_false] at hx
      rcases hx with rfl | rfl | rfl | rfl | rfl | rfl | rfl
      · exact wide64_of_wf w0
      · exact wide64_of_wf w1
      · exact wide64_of_wf w2
      · exact wide64_of_wf w3
      · exact wide64_of_wf w4
      · exact wide64_of_wf w5
      · exact wide64_of_wf w6
    · match j, hj with
      | 0, _ => exact e0
      | 1, _ => exact e1
      | 2, _ => exact e2
      | 3, _ => exact e3
      | 4, _ => exact e4
      | 5, _ => exact e5
      | 6, _ => exact e6
      | 7, _ => simpa [Cm.cells] using e7
      | 8, _ => simpa [Cm.cells] using e8
      | 9, _ => exact e9
      | 10, _ => exact e10
  subst hl
  exact ⟨l, hs, hg⟩
structure SmI (x : It) : Prop where
  id : x.id.length ≤ 300
  ti : x.ti.length ≤ 300
  li : x.li.length ≤ 300
structure SmC (a : Cm) : Prop where
  fd : a.fd.length ≤ 300
  id : a.id.length ≤ 300
  n : a.its.length ≤ 30
  its : ∀ x ∈ a.its, SmI x
structure Sm19 (l : List C19) : Prop where
  n : l.length ≤ 80
  al : ∀ a ∈ l, SmC a.c
theorem all_snoc {α : Type} {P : α → Prop} {l : List α} {k : Nat} {x : α} (h : l[k]? = some x) (h1 : ∀ a ∈ l.take k, P a) (hx : P x) : ∀ a ∈ l.take (k + 1), P a := by
  intro a ha
  rw [List.take_add_one, h] at ha
  rcases List.mem_append.1 ha with ha | ha
  · exact h1 a ha
  · simp at ha; subst ha; exact hx
def SmR (l : List C19) (w : World) (e : Ending) (w' : World) : Prop := ∃ bo, e = .returned (.bool bo) ∧ (bo = true → Sm19 l) ∧ Only [] w w'
theorem SmR.no {l : List C19} {w w' : World} (ho : Only [] w w') : SmR l w (.returned (.bool false)) w' := ⟨false, rfl, fun h => (by cases h), ho⟩
set_option maxRecDepth 100000 in
set_option maxHeartbeats 1000000 in
theorem posts19 (v1 v2 : Value) (l : List Po) (w : World) (hs1 : SlAt w w.heap.size v1 5 l.length (poL l)) (hs2 : SlAt w w.heap.size v2 5 l.length (poL l)) (hl : l.length ≤ 1000000) :
    Calls Tryz.prog 25 #[v1, v2] w fun e w' => e = .returned (.bool true) ∧ Only [] w w' := by
  obtain ⟨A1, c1, rfl⟩ := hs1.shape
  obtain ⟨A2, c2, rfl⟩ := hs2.shape
  have H1 := Lib.hid hs1
  have H2 := Lib.hid hs2
  clear hs1 hs2
  go_enter Tryz.func25, Tryz.ntmps25
  go_wp2_with fail
  go_loopw [5] (fun i wr => ∃ k : Nat, k ≤ l.length ∧ i = .int .i64 k ∧ Hid (Only [] w wr)) (fun i _ => l.length - (intOf i).toNat)
  case atStart => exact ⟨0, by omega, rfl, Lib.hid (Only.refl _ _)⟩
  case round =>
    obtain ⟨k, hk, rfl, ho⟩ := hrel
    by_cases hlt : k < l.length
    · have hlt' : (k : Int) < (l.length : Int) := by omega
      obtain ⟨x, hx⟩ : ∃ x, l[k]? = some x := ⟨_, List.getElem?_eq_getElem hlt⟩
      obtain ⟨b1, o1, c1', e1, hb1, hc1⟩ := (H1.out.only ho.out (Nat.le_refl _) (by simp)).at_ (by omega)
      obtain ⟨b2, o2, c2', e2, hb2, hc2⟩ := (H2.out.only ho.out (Nat.le_refl _) (by simp)).at_ (by omega)
      injection e1 with i1 i2 i3
      injection e2 with j1 j2 j3
      subst i1; subst i3; subst j1; subst j3
      have q0 : wr.cell? ⟨b1, o1 + k * 5, none⟩ = some (.int .i64 x.sq) := hc1 (k * 5 + 0) _ (poL_get l k 0 x hx (by omega))
      have q1 : wr.cell? ⟨b1, o1 + k * 5 + 1, none⟩ = some (.string ⟨x.it.id.toArray⟩) := hc1 (k * 5 + 1) _ (poL_get l k 1 x hx (by omega))
      have q2 : wr.cell? ⟨b1, o1 + k * 5 + 2, none⟩ = some (.string ⟨x.it.ti.toArray⟩) := hc1 (k * 5 + 2) _ (poL_get l k 2 x hx (by omega))
      have q3 : wr.cell? ⟨b1, o1 + k * 5 + 3, none⟩ = some (.string ⟨x.it.li.toArray⟩) := hc1 (k * 5 + 3) _ (poL_get l k 3 x hx (by omega))
      have q4 : wr.cell? ⟨b1, o1 + k * 5 + 4, none⟩ = some (.bool x.rd) := hc1 (k * 5 + 4) _ (poL_get l k 4 x hx (by omega))
      have s0 : wr.cell? ⟨b2, o2 + k * 5, none⟩ = some (.int .i64 x.sq) := hc2 (k * 5 + 0) _ (poL_get l k 0 x hx (by omega))
      have s1 : wr.cell? ⟨b2, o2 + k * 5 + 1, none⟩ = some (.string ⟨x.it.id.toArray⟩) := hc2 (k * 5 + 1) _ (poL_get l k 1 x hx (by omega))
      have s2 : wr.cell? ⟨b2, o2 + k * 5 + 2, none⟩ = some (.string ⟨x.it.ti.toArray⟩) := hc2 (k * 5 + 2) _ (poL_get l k 2 x hx (by omega))
      have s3 : wr.cell? ⟨b2, o2 + k * 5 + 3, none⟩ = some (.string ⟨x.it.li.toArray⟩) := hc2 (k * 5 + 3) _ (poL_get l k 3 x hx (by omega))
      have s4 : wr.cell? ⟨b2, o2 + k * 5 + 4, none⟩ = some (.bool x.rd) := hc2 (k * 5 + 4) _ (poL_get l k 4 x hx (by omega))
      have p0 := fun u : Since wr => u.cell q0
      have p1 := fun u : Since wr => u.cell q1
      have p2 := fun u : Since wr => u.cell q2
      have p3 := fun u : Since wr => u.cell q3
      have p4 := fun u : Since wr => u.cell q4
      have r0 := fun u : Since wr => u.cell s0
      have r1 := fun u : Since wr => u.cell s1
      have r2 := fun u : Since wr => u.cell s2
      have r3 := fun u : Since wr => u.cell s3
      have r4 := fun u : Since wr => u.cell s4
      clear hx q0 q1 q2 q3 q4 s0 s1 s2 s3 s4 i2 j2 hc1 hc2
      go_wp2_with fail
      refine wp_region_only wr (Only.refl _ _) (by kernel_rfl) (by kernel_rfl) ?_
      repeat (go_big_quiet_step (fail))
      refine wpQuiet_nil ?_
      rintro ⟨w3, ho3⟩
      dsimp only
      have HO3 := Lib.hid (ho.out.tr ho3)
      clear p0 p1 p2 p3 p4 r0 r1 r2 r3 r4
      go_wp2_with fail
      go_roundw
      case rel => exact ⟨k + 1, by omega, by go_num, HO3⟩
      case measure => simp [intOf]; omega
    · have hd : decide ((k : Int) < (l.length : Int)) = false := by simp; omega
      go_wp2_with fail
      go_ret
      exact ⟨rfl, ho.out⟩
set_option maxRecDepth 80000 in
set_option maxHeartbeats 4000000 in
theorem small19 (v : Value) (l : List C19) (w : World) (hs : SlAt w w.heap.size v 11 l.length (cmL l)) (hok : ∀ a ∈ l, CmAt w a.iv a.c) :
    Calls Tryz.prog 17 #[v] w (SmR l w) := by
  obtain ⟨A, c, rfl⟩ := hs.shape
  have hll : l.length ≤ 9223372036854775807 := by obtain ⟨_, _, _, _, h1, h2, _⟩ := hs; unfold maxLen at h2; omega
  have HS := Lib.hid hs
  have HK := Lib.hid hok
  clear hs hok
  by_cases h80 : 80 < l.length
  · have d1 : decide ((80 : Int) < (l.length : Int)) = true := by simp; omega
    go_enter Tryz.func17, Tryz.ntmps17
    go_wp2_with fail
    go_ret
    exact SmR.no (Only.refl _ _)
  have d1 : decide ((80 : Int) < (l.length : Int)) = false := by simp; omega
  go_enter Tryz.func17, Tryz.ntmps17
  go_wp2_with fail
  go_loopw [3] (fun i wr => ∃ k : Nat, k ≤ l.length ∧ i = .int .i64 k ∧ Hid (∀ a ∈ l.take k, SmC a.c) ∧ Hid (Only [] w wr)) (fun i _ => l.length - (intOf i).toNat)
  case atStart => exact ⟨0, by omega, rfl, Lib.hid (by simp), Lib.hid (Only.refl _ _)⟩
  case round =>
    obtain ⟨k, hk, rfl, hall, ho⟩ := hrel
    obtain ⟨wo, rfl⟩ : ∃ wo, wo = wr := ⟨_, rfl⟩
    by_cases hlt : k < l.length
    · have hlt' : decide ((k : Int) < (l.length : Int)) = true := by simp; omega
      have hlt2 : (k : Int) < (l.length : Int) := by omega
      obtain ⟨a, ha⟩ : ∃ a, l[k]? = some a := ⟨_, List.getElem?_eq_getElem hlt⟩
      have HA := Lib.hid ((HK.out a (List.mem_of_getElem? ha)).only ho.out)
      obtain ⟨b, o, c', hv, q0, q1, q2, q3, q4, q5, q6, q7, q8, q9, q10⟩ := cmL_at (HS.out.only ho.out (Nat.le_refl _) (by simp)) ha
      obtain ⟨IA, ic, hiv⟩ := HA.out.its.shape
      have hil : a.c.its.length ≤ 9223372036854775807 := by obtain ⟨_, _, _, _, h1, h2, _⟩ := HA.out.its; unfold maxLen at h2; omega
      have hfl := HA.out.fd
      have hdl := HA.out.id
      unfold maxLen at hfl hdl
      have HAT := Lib.hid ha
      rw [hiv] at q9
      injection hv with e1 e2 e3
      subst e1; subst e3
      clear e2 ha
      by_cases h1 : 300 < a.c.fd.length
      · have f1 : decide ((300 : Int) < (a.c.fd.length : Int)) = true := by simp; omega
        go_wp2_with fail
        go_ret
        exact SmR.no ho.out
      have f1 : decide ((300 : Int) < (a.c.fd.length : Int)) = false := by simp; omega
      by_cases h2 : 300 < a.c.id.length
      · have f2 : decide ((300 : Int) < (a.c.id.length : Int)) = true := by simp; omega
        go_wp2_with fail
        go_ret
        exact SmR.no ho.out
      have f2 : decide ((300 : Int) < (a.c.id.length : Int)) = false := by simp; omega
      by_cases h3 : 30 < a.c.its.length
      · have f3 : decide ((30 : Int) < (a.c.its.length : Int)) = true := by simp; omega
        go_wp2_with fail
        go_ret
        exact SmR.no ho.out
      have f3 : decide ((30 : Int) < (a.c.its.length : Int)) = false := by simp; omega
      have HIV := Lib.hid hiv
      have HHS : Hid (SlAt wo w.heap.size (.slice (some ⟨b, o, none⟩) l.length c) 11 l.length (cmL l)) := Lib.hid (HS.out.only ho.out (Nat.le_refl _) (by simp))
      clear q0 q1 q2 q3 q4 q5 q6 q10 hiv
      go_wp2_with fail
      go_loopw [4] (fun i wq => ∃ j : Nat, j ≤ a.c.its.length ∧ i = .int .i64 j ∧ Hid (∀ x ∈ a.c.its.take j, SmI x) ∧ Hid (Only [] wo wq)) (fun i _ => a.c.its.length - (intOf i).toNat)
      case atStart => exact ⟨0, by omega, rfl, Lib.hid (by simp), Lib.hid (Only.refl _ _)⟩
      case round =>
        obtain ⟨j, hj, rfl, hall2, hoq⟩ := hrel
        obtain ⟨wq, rfl⟩ : ∃ wq, wq = wr := ⟨_, rfl⟩
        obtain ⟨b2, o2, c2, hv2, _, _, _, _, _, _, _, _, _, s4, _⟩ := cmL_at (HHS.out.only hoq.out ho.out.size (by simp)) HAT.out
        rw [HIV.out] at s4
        injection hv2 with g1 g2 g3
        injection g1 with g1
        injection g1 with g4 g5 g6
        subst g4; subst g5
        have hoo := Lib.hid (ho.out.tr hoq.out)
        by_cases hjl : j < a.c.its.length
        · have hj' : decide ((j : Int) < (a.c.its.length : Int)) = true := by simp; omega
          have hj2 : (j : Int) < (a.c.its.length : Int) := by omega
          obtain ⟨x, hx⟩ : ∃ x, a.c.its[j]? = some x := ⟨_, List.getElem?_eq_getElem hjl⟩
          obtain ⟨ib, io, ic', hv3, x0, x1, x2⟩ := itL_at (HA.out.only hoq.out).its hx
          rw [HIV.out] at hv3
          injection hv3 with k1 k2 k3
          subst k1; subst k3
          have hxl := HA.out.len x (List.mem_of_getElem? hx)
          have n0 := hxl.id
          have n1 := hxl.ti
          have n2 := hxl.li
          unfold maxLen at n0 n1 n2
          have HXT := Lib.hid hx
          clear hx k2 g3 g6 hxl q7 q8 q9
          obtain ⟨w2, hw2⟩ : ∃ w2, wq.alloc (.cells #[.string ⟨x.id.toArray⟩, .string ⟨x.ti.toArray⟩, .string ⟨x.li.toArray⟩] 99) = w2 := ⟨_, rfl⟩
          have hO2 : Only [] wq w2 := hw2 ▸ (Only.refl _ _).alloc _
          obtain ⟨z, hz⟩ : ∃ z, wq.heap.size = z := ⟨_, rfl⟩
          have hzc : Cells w2 z 99 x.cells := hw2 ▸ hz ▸ Cells.new wq _ _
          have z0 := hzc.cell (k := 0) rfl
          have z1 := hzc.cell (k := 1) rfl
          have z2 := hzc.cell (k := 2) rfl
          have HO2 := Lib.hid (hoq.out.tr hO2)
          have HOO := Lib.hid (hoo.out.tr hO2)
          clear hzc hO2
          by_cases m0 : 300 < x.id.length
          · have t0 : decide ((300 : Int) < (x.id.length : Int)) = true := by simp; omega
            go_wp2_with fail
            go_ret
            exact SmR.no HOO.out
          have t0 : decide ((300 : Int) < (x.id.length : Int)) = false := by simp; omega
          by_cases m1 : 300 < x.ti.length
          · have t1 : decide ((300 : Int) < (x.ti.length : Int)) = true := by simp; omega
            go_wp2_with fail
            go_ret
            exact SmR.no HOO.out
          have t1 : decide ((300 : Int) < (x.ti.length : Int)) = false := by simp; omega
          by_cases m2 : 300 < x.li.length
          · have t2 : decide ((300 : Int) < (x.li.length : Int)) = true := by simp; omega
            go_wp2_with fail
            go_ret
            exact SmR.no HOO.out
          have t2 : decide ((300 : Int) < (x.li.length : Int)) = false := by simp; omega
          have HX2 := Lib.hid (all_snoc HXT.out hall2.out ⟨by omega, by omega, by omega⟩)
          go_wp2_with fail
          go_roundw
          case rel => exact ⟨j + 1, by omega, by go_num, HX2, HO2⟩
          case measure => simp [intOf]; omega
        · have hj' : decide ((j : Int) < (a.c.its.length : Int)) = false := by simp; omega
          obtain rfl : j = a.c.its.length := by omega
          have HX2 := Lib.hid (all_snoc HAT.out hall.out ⟨by omega, by omega, by omega, by have := hall2.out; rwa [List.take_length] at this⟩)
          go_wp2_with fail
          go_roundw
          case rel => exact ⟨k + 1, by omega, by go_num, HX2, hoo⟩
          case measure => simp [intOf]; omega
    · have hlt' : decide ((k : Int) < (l.length : Int)) = false := by simp; omega
      obtain rfl : k = l.length := by omega
      have HF := Lib.hid (⟨by omega, by have := hall.out; rwa [List.take_length] at this⟩ : Sm19 l)
      go_wp2_with fail
      go_ret
      exact ⟨true, rfl, fun _ => HF.out, ho.out⟩
end Go.Proofs.YtcjfmildalappaaGreat
namespace Go.Proofs.YtcjfmildalappaaGreat
open Go.RowKit
/-- An automaton made since W, behind n commands. -/
structure AgW (W w : World) (p : Nat) (K : List Nat) (n : Nat) (a : AgS) : Prop where
  at_ : AgAt w p K a
  ho : Only [] W w
  lo : ∀ x ∈ K, W.heap.size ≤ x
  i : AgI n a
theorem AgW.read {W w w' : World} {p : Nat} {K : List Nat} {n : Nat} {a : AgS} (h : AgW W w p K n a) (ho : Only [] w w') : AgW W w' p K n a := ⟨h.at_.keep ho (by simp), h.ho.tr ho, h.lo, h.i⟩
theorem AgW.far {W w w' : World} {p : Nat} {K X : List Nat} {n : Nat} {a : AgS} (h : AgW W w p K n a) (ho : Only X w w') (hX : ∀ x ∈ X, x ∉ K ∧ W.heap.size ≤ x) : AgW W w' p K n a :=
  ⟨h.at_.keep ho (fun k hk hm => (hX k hm).1 hk), h.ho.trans ho (fun x hx => .inr (hX x hx).2), h.lo, h.i⟩
def DoW (W w w' : World) (p : Nat) (K : List Nat) (n : Nat) (a : AgS) (r : Rp) (e : Ending) : Prop := ∃ pv K', e = .returned (r.val pv) ∧ RpAt w' pv r ∧ (0 < r.ps.length → ∀ g, pv.ownBlock = some g → w.heap.size ≤ g ∧ g ∉ K') ∧ AgW W w' p K' n a ∧ Only K w w' ∧ (∀ x ∈ K', x ∈ K ∨ w.heap.size ≤ x) ∧ RpK r
theorem agw_do (p : Nat) (K : List Nat) (a : AgS) (n : Nat) (hn : n ≤ 1000000) (c : Cm) (iv : Value) (W w : World) (h : AgW W w p K n a) (hc : CmAt w iv c) (hil : c.its.length ≤ 1000000) (hs : ItK w K iv c) :
    Calls Tryz.prog 20 #[.pointer (some ⟨p, 0, none⟩), c.val iv] w fun e w' => DoW W w w' p K (n + 1) (doA a c).2 (doA a c).1 e := by
  refine (ag_do p K a n (by omega) c iv w h.at_ h.i hc hil hs).mono ?_
  rintro e w' ⟨pv, K', he, hp, hg, hA, ho, hN⟩
  have hst := doA_step h.i (by omega) c (hc.nums _ (by simp)) hil
  exact ⟨pv, K', he, hp, hg, ⟨hA, h.ho.trans ho (fun x hx => .inr (h.lo x hx)), fun x hx => by
    rcases hN x hx with e | e
    · exact h.lo x e
    · exact Nat.le_trans h.ho.size e, hst.1⟩, ho, hN, hst.2⟩
theorem agw_new (W w : World) (h : Only [] W w) : Calls Tryz.prog 18 #[] w fun e w' => ∃ p K, e = .returned (.pointer (some ⟨p, 0, none⟩)) ∧ AgW W w' p K 0 AgS.new ∧ (∀ x ∈ K, w.heap.size ≤ x) ∧ Only [] w w' := by
  refine (ag_new w).mono ?_
  rintro e w' ⟨p, K, he, hA, hl, ho⟩
  exact ⟨p, K, he, ⟨hA, h.tr ho, fun x hx => Nat.le_trans h.size (hl x hx), AgI.new⟩, hl, ho⟩
theorem itk_base {W w : World} {p : Nat} {K : List Nat} {n : Nat} {a : AgS} {c : Cm} {iv : Value} (hc : CmAt W iv c) (h : AgW W w p K n a) : ItK w K iv c :=
  fun _ ho => (((hc.its.only h.ho (Nat.le_refl _) (by simp)).only ho h.ho.size h.lo)).more (Nat.le_trans h.ho.size ho.size)
theorem itk_nil (w : World) (K : List Nat) (c : Cm) (h : c.its = []) : ItK w K (.slice none 0 0) c := fun w' _ => by rw [h]; exact SlAt.of_own (World.ownsRow_nil w' 0 99 3)
/-- A box whose content stays. -/
def Bx (w : World) (K : List Nat) (z : Nat) (t : TypeId) (cs : List Value) : Prop := Cells w z t cs ∧ z ∉ K
theorem Bx.does {w w' : World} {K K' : List Nat} {z : Nat} {t : TypeId} {cs : List Value} (h : Bx w K z t cs) (ho : Only K w w') (hN : ∀ x ∈ K', x ∈ K ∨ w.heap.size ≤ x) : Bx w' K' z t cs :=
  ⟨h.1.only ho h.2, fun hm => by
    rcases hN z hm with e | e
    · exact h.2 e
    · have := h.1.lt; omega⟩
theorem Bx.read {w w' : World} {K : List Nat} {z : Nat} {t : TypeId} {cs : List Value} (h : Bx w K z t cs) (ho : Only [] w w') : Bx w' K z t cs := ⟨h.1.only ho (by simp), h.2⟩
theorem Bx.far {w w' : World} {K : List Nat} {z y : Nat} {t : TypeId} {cs : List Value} (h : Bx w K z t cs) (ho : Only [y] w w') (hy : z ≠ y) : Bx w' K z t cs := ⟨h.1.only ho (by simpa using hy), h.2⟩
theorem box_row (w : World) (t : TypeId) (z c : List Value) : Only [] w ((w.alloc (.cells z.toArray t)).setRow w.heap.size c.toArray) ∧ Cells (w.alloc (.cells z.toArray t)) w.heap.size t z ∧ Cells ((w.alloc (.cells z.toArray t)).setRow w.heap.size c.toArray) w.heap.size t c :=
  ⟨((Only.refl [] w).alloc _).trans ((Only.refl [w.heap.size] _).setRow (.inl (by simp)) _) (fun x hx => by simp at hx; subst hx; exact .inr (Nat.le_refl _)), Cells.new w _ _, (Cells.new w t z).setRow c⟩
set_option maxRecDepth 100000 in
set_option maxHeartbeats 1000000 in
theorem same19_eq (v1 v2 : Value) (r : Rp) (w : World) (h1 : RpAt w v1 r) (h2 : RpAt w v2 r) :
    Calls Tryz.prog 29 #[r.val v1, r.val v2] w fun e w' => e = .returned (.bool true) ∧ Only [] w w' := by
  have hl := h1.len
  obtain ⟨A1, c1, rfl⟩ := h1.ps.shape
  obtain ⟨A2, c2, rfl⟩ := h2.ps.shape
  have o1 : Only [] w ((w.alloc (.cells #[.int .i64 r.er, .int .i64 r.n, .slice A1 r.ps.length c1] 34)).alloc (.cells #[.int .i64 r.er, .int .i64 r.n, .slice A2 r.ps.length c2] 34)) := ((Only.refl _ _).alloc _).alloc _
  have CP := Lib.hid (posts19 _ _ r.ps _ (h1.only o1).ps (h2.only o1).ps (by omega))
  have HO := Lib.hid o1
  unfold Rp.val
  clear h1 h2 o1 hl
  go_enter Tryz.func29, Tryz.ntmps29
  go_wp2_with fail
  refine CP.out.mono ?_
  rintro e w2 ⟨rfl, ho2⟩
  go_wp2_with fail
  go_ret
  exact ⟨rfl, HO.out.tr ho2⟩
def iX : It := ⟨[120], [], []⟩
def rbs (r : Rp) : ByteArray := ⟨(rpb r).toArray⟩
def sa1 : AgS := ⟨⟨[⟨1, 0, .empty⟩], 1⟩, L16.Tb.empty, []⟩
def sa2 : AgS := ⟨⟨[⟨1, 1, rbs (errR 0)⟩], 1⟩, L16.Tb.empty, [([97], ⟨-1, 0, []⟩)]⟩
def sa4 : AgS := ⟨⟨[⟨1, 2, rbs (errR 5)⟩], 1⟩, L16.Tb.empty, [([97], ⟨-1, 0, []⟩)]⟩
def sa6 : AgS := ⟨⟨[⟨1, 2, rbs (errR 5)⟩], 1⟩, (L16.Tb.empty.grant 4 2).1, [([97], ⟨-1, 0, []⟩)]⟩
def sa7 : AgS := ⟨⟨[⟨1, 2, rbs (errR 5)⟩], 1⟩, (L16.Tb.empty.grant 4 2).1, [([97], ⟨0, 0, [⟨1, iX, false⟩]⟩)]⟩
def sa9 : AgS := ⟨⟨[⟨1, 3, rbs ⟨0, 0, [⟨1, iX, false⟩]⟩⟩], 1⟩, (L16.Tb.empty.grant 4 2).1, [([97], ⟨0, 0, [⟨1, iX, false⟩]⟩)]⟩
theorem e19_1 : doA AgS.new ⟨1, 0, 0, 0, 0, 0, 0, [], [], [], false⟩ = (⟨0, 1, []⟩, sa1) := by kernel_rfl
theorem e19_2 : doA sa1 ⟨2, 1, 1, 0, 0, 0, 0, [97], [], [], false⟩ = (errR 0, sa2) := by kernel_rfl
theorem e19_3 : doA sa2 ⟨2, 1, 1, 0, 0, 0, 0, [97], [], [], false⟩ = (errR 0, sa2) := by kernel_rfl
theorem e19_4 : doA sa2 ⟨2, 1, 2, 0, 0, 0, 0, [97], [], [], false⟩ = (errR 5, sa4) := by kernel_rfl
theorem e19_5 : doA sa4 ⟨2, 9, 1, 0, 0, 0, 0, [98], [], [], false⟩ = (errR 17, sa4) := by kernel_rfl
theorem e19_6 : doA sa4 ⟨7, 0, 0, 4, 2, 0, 0, [], [], [], false⟩ = (⟨0, 1, []⟩, sa6) := by kernel_rfl
theorem e19_7 : doA sa6 ⟨8, 0, 0, 4, 2, 1, 0, [97], [], [iX], false⟩ = (⟨0, 1, []⟩, sa7) := by kernel_rfl
theorem e19_8 : doA sa7 ⟨8, 0, 0, 4, 2, 2, 0, [97], [], [iX], false⟩ = (errR 15, sa7) := by kernel_rfl
theorem e19_9 : doA sa7 ⟨5, 1, 3, 0, 0, 0, 0, [97], [], [], false⟩ = (⟨0, 0, [⟨1, iX, false⟩]⟩, sa9) := by kernel_rfl
end Go.Proofs.YtcjfmildalappaaGreat
namespace Go.Proofs.YtcjfmildalappaaGreat
open Go.RowKit
theorem small_nums {l : List Int} (h : (l.all fun x => decide (-100 ≤ x) && decide (x ≤ 100)) = true) : ∀ x ∈ l, Wide64 x := fun x hx => by
  have := List.all_eq_true.1 h x hx
  simp only [Bool.and_eq_true, decide_eq_true_eq] at this
  exact ⟨by omega, by omega⟩
theorem slat_box {w : World} {ib : Nat} (h : Cells w ib 99 [.string ⟨#[120]⟩, .string ⟨#[]⟩, .string ⟨#[]⟩]) : SlAt w w.heap.size (.slice (some ⟨ib, 0, none⟩) 1 1) 3 1 (itL [iX]) := SlAt.cells (n := 1) (sz := 3) h rfl (by unfold maxLen; omega)
theorem len_iX : ∀ x ∈ [iX], x.Len := fun x hx => by
  simp at hx
  subst hx
  exact ⟨by decide +kernel, by decide +kernel, by decide +kernel⟩
theorem cmat_box {w : World} {ib : Nat} (h : Cells w ib 99 [.string ⟨#[120]⟩, .string ⟨#[]⟩, .string ⟨#[]⟩]) (c : Cm) (hc : c.its = [iX]) (h1 : c.fd.length ≤ maxLen) (h2 : c.id.length ≤ maxLen) (h3 : ∀ x ∈ [c.kd, c.ss, c.sq, c.sh, c.nd, c.ep, c.n], Wide64 x) : CmAt w (.slice (some ⟨ib, 0, none⟩) 1 1) c :=
  ⟨by rw [hc]; exact slat_box h, by rw [hc]; exact len_iX, h1, h2, h3⟩
theorem itk_box {w : World} {K : List Nat} {ib : Nat} (h : Bx w K ib 99 [.string ⟨#[120]⟩, .string ⟨#[]⟩, .string ⟨#[]⟩]) (c : Cm) (hc : c.its = [iX]) : ItK w K (.slice (some ⟨ib, 0, none⟩) 1 1) c := fun w' ho => by
  rw [hc]
  exact slat_box (h.1.only ho h.2)
set_option maxRecDepth 100000 in
set_option maxHeartbeats 8000000 in
theorem shown19 (w : World) : Calls Tryz.prog 16 #[] w fun e w' => e = .returned (.bool true) ∧ Only [] w w' := by
  have C0 := Lib.hid (agw_new w w (Only.refl _ _))
  go_enter Tryz.func16, Tryz.ntmps16
  go_wp2_with fail
  refine C0.out.mono ?_
  rintro e w0 ⟨p, K0, rfl, hA0, hl0, ho0⟩
  have H0 := Lib.hid hA0
  clear hA0 hl0 ho0 C0
  have CD1 : Hid (Calls Tryz.prog 20 #[.pointer (some ⟨p, 0, none⟩), .agg #[.int .i64 1, .int .i64 0, .int .i64 0, .int .i64 0, .int .i64 0, .int .i64 0, .int .i64 0, .string ⟨#[]⟩, .string ⟨#[]⟩, .slice none 0 0, .bool false]] w0 fun e w' => DoW w w0 w' p K0 1 sa1 (⟨0, 1, []⟩) e) := Lib.hid (by
    have := agw_do p K0 AgS.new 0 (by omega) ⟨1, 0, 0, 0, 0, 0, 0, [], [], [], false⟩ (.slice none 0 0) w w0 H0.out ⟨SlAt.of_own (World.ownsRow_nil _ 0 99 3), (fun x hx => by cases hx), by decide +kernel, by decide +kernel, small_nums (by decide)⟩ (by decide) (itk_nil _ _ _ rfl)
    rw [e19_1] at this
    exact this)
  go_wp2_with fail
  refine CD1.out.mono ?_
  rintro e u1 ⟨pv, K1, he, hp, hg, hA, ho, hN, hk⟩
  have he : e = .returned (.agg #[.int .i64 0, .int .i64 1, pv]) := he
  subst he
  obtain ⟨PA, pc, rfl⟩ := hp.ps.shape
  have HO1 : Hid (Only K0 w0 u1) := Lib.hid ho
  have HN1 : Hid (∀ x ∈ K1, x ∈ K0 ∨ w0.heap.size ≤ x) := Lib.hid hN
  have HP1 := Lib.hid hp
  have HA1 := Lib.hid hA
  have HG1 := Lib.hid hg
  obtain ⟨b1, b2, b3⟩ := box_row u1 34 [.int .i64 0, .int .i64 0, .slice none 0 0] [.int .i64 0, .int .i64 1, .slice PA 0 pc]
  have hone : (#[.int .i64 0, .int .i64 1, .slice PA 0 pc] : Array Value).all (·.oneCell') = true := by simp [Value.oneCell']
  have hbw := hA.at_.bw
  have hnew : u1.heap.size ∉ K1 := fun hm => by have := hbw _ hm; omega
  clear hp hg hA ho hN hk hbw CD1  H0
  go_upto_region 5 with (refine wpList_store_row rfl 34 _ _ rfl u1.heap.size #[.int .i64 0, .int .i64 1, .slice PA 0 pc] rfl rfl 34 _ b2 (by kernel_rfl) rfl hone ?_)
  (try simp only [Act.put])
  obtain ⟨v1, hv1⟩ : ∃ u, (u1.alloc (.cells #[.int .i64 0, .int .i64 0, .slice none 0 0] 34)).setRow u1.heap.size #[.int .i64 0, .int .i64 1, .slice PA 0 pc] = u := ⟨_, rfl⟩
  rw [hv1]
  have b1 : Only [] u1 v1 := hv1 ▸ b1
  have b3 : Cells v1 u1.heap.size 34 [.int .i64 0, .int .i64 1, .slice PA 0 pc] := hv1 ▸ b3
  obtain ⟨z1, hz1⟩ : ∃ z, u1.heap.size = z := ⟨_, rfl⟩
  rw [hz1] at b3 hnew ⊢
  have B1 : Hid (Bx v1 K1 z1 34 [.int .i64 0, .int .i64 1, .slice PA 0 pc]) := Lib.hid ⟨b3, hnew⟩
  have H1 := Lib.hid (HA1.out.read b1)
  have HQ1 := Lib.hid (HP1.out.only b1)
  clear b1 b2 b3 hone hnew hv1 hz1 HA1 HP1 HG1 HO1 HN1 
  obtain ⟨b1, b2, b3⟩ := box_row v1 38 [.int .i64 0, .int .i64 0, .int .i64 0, .int .i64 0, .int .i64 0, .int .i64 0, .int .i64 0, .string ⟨#[]⟩, .string ⟨#[]⟩, .slice none 0 0, .bool false] [.int .i64 2, .int .i64 1, .int .i64 1, .int .i64 0, .int .i64 0, .int .i64 0, .int .i64 0, .string ⟨#[97]⟩, .string ⟨#[]⟩, .slice none 0 0, .bool false]
  have hone : (#[.int .i64 2, .int .i64 1, .int .i64 1, .int .i64 0, .int .i64 0, .int .i64 0, .int .i64 0, .string ⟨#[97]⟩, .string ⟨#[]⟩, .slice none 0 0, .bool false] : Array Value).all (·.oneCell') = true := by simp [Value.oneCell']
  have hnew : v1.heap.size ∉ K1 := fun hm => by have := H1.out.at_.bw _ hm; omega
  go_upto_region 6 with (refine wpList_store_row rfl 38 _ _ rfl v1.heap.size #[.int .i64 2, .int .i64 1, .int .i64 1, .int .i64 0, .int .i64 0, .int .i64 0, .int .i64 0, .string ⟨#[97]⟩, .string ⟨#[]⟩, .slice none 0 0, .bool false] rfl rfl 38 _ b2 (by kernel_rfl) rfl hone ?_)
  (try simp only [Act.put])
  obtain ⟨ys, hy⟩ : ∃ u, (v1.alloc (.cells #[.int .i64 0, .int .i64 0, .int .i64 0, .int .i64 0, .int .i64 0, .int .i64 0, .int .i64 0, .string ⟨#[]⟩, .string ⟨#[]⟩, .slice none 0 0, .bool false] 38)).setRow v1.heap.size #[.int .i64 2, .int .i64 1, .int .i64 1, .int .i64 0, .int .i64 0, .int .i64 0, .int .i64 0, .string ⟨#[97]⟩, .string ⟨#[]⟩, .slice none 0 0, .bool false] = u := ⟨_, rfl⟩
  rw [hy]
  have b1 : Only [] v1 ys := hy ▸ b1
  have b3 : Cells ys v1.heap.size 38 [.int .i64 2, .int .i64 1, .int .i64 1, .int .i64 0, .int .i64 0, .int .i64 0, .int .i64 0, .string ⟨#[97]⟩, .string ⟨#[]⟩, .slice none 0 0, .bool false] := hy ▸ b3
  obtain ⟨qs, hz⟩ : ∃ z, v1.heap.size = z := ⟨_, rfl⟩
  rw [hz] at b3 hnew ⊢
  have HLs : Hid (w.heap.size ≤ qs) := Lib.hid (hz ▸ H1.out.ho.size)
  have B2 : Hid (Bx ys K1 qs 38 [.int .i64 2, .int .i64 1, .int .i64 1, .int .i64 0, .int .i64 0, .int .i64 0, .int .i64 0, .string ⟨#[97]⟩, .string ⟨#[]⟩, .slice none 0 0, .bool false]) := Lib.hid ⟨b3, hnew⟩
  have HYs := Lib.hid (H1.out.read b1)
  have B3 := Lib.hid (B1.out.read b1)
  clear b1 b2 b3 hone hnew hy hz H1 B1
  have CD2 : Hid (Calls Tryz.prog 20 #[.pointer (some ⟨p, 0, none⟩), .agg #[.int .i64 2, .int .i64 1, .int .i64 1, .int .i64 0, .int .i64 0, .int .i64 0, .int .i64 0, .string ⟨#[97]⟩, .string ⟨#[]⟩, .slice none 0 0, .bool false]] ys fun e w' => DoW w ys w' p K1 2 sa2 (errR 0) e) := Lib.hid (by
    have := agw_do p K1 sa1 1 (by omega) ⟨2, 1, 1, 0, 0, 0, 0, [97], [], [], false⟩ (.slice none 0 0) w ys HYs.out ⟨SlAt.of_own (World.ownsRow_nil _ 0 99 3), (fun x hx => by cases hx), by decide +kernel, by decide +kernel, small_nums (by decide)⟩ (by decide) (itk_nil _ _ _ rfl)
    rw [e19_2] at this
    exact this)
  have hld := B2.out.1
  go_wp2_with (refine wpList_load_row rfl 38 _ rfl qs rfl 38 #[.int .i64 2, .int .i64 1, .int .i64 1, .int .i64 0, .int .i64 0, .int .i64 0, .int .i64 0, .string ⟨#[97]⟩, .string ⟨#[]⟩, .slice none 0 0, .bool false] (0, 0) _ hld Tryz.underlying38 rfl (by kernel_rfl) ?_)
  clear hld
  refine CD2.out.mono ?_
  rintro e u2 ⟨pv, K2, he, hp, hg, hA, ho, hN, hk⟩
  have he : e = .returned (.agg #[.int .i64 0, .int .i64 0, pv]) := he
  subst he
  obtain ⟨PA, pc, rfl⟩ := hp.ps.shape
  have HO2 : Hid (Only K1 ys u2) := Lib.hid ho
  have HN2 : Hid (∀ x ∈ K2, x ∈ K1 ∨ ys.heap.size ≤ x) := Lib.hid hN
  have HP2 := Lib.hid hp
  have HA2 := Lib.hid hA
  have HG2 := Lib.hid hg
  have B4 := Lib.hid (B3.out.does HO2.out HN2.out)
  have B5 := Lib.hid (B2.out.does HO2.out HN2.out)
  obtain ⟨b1, b2, b3⟩ := box_row u2 34 [.int .i64 0, .int .i64 0, .slice none 0 0] [.int .i64 0, .int .i64 0, .slice PA 0 pc]
  have hone : (#[.int .i64 0, .int .i64 0, .slice PA 0 pc] : Array Value).all (·.oneCell') = true := by simp [Value.oneCell']
  have hbw := hA.at_.bw
  have hnew : u2.heap.size ∉ K2 := fun hm => by have := hbw _ hm; omega
  clear hp hg hA ho hN hk hbw CD2 B3 B2 HYs
  go_upto_region 7 with (refine wpList_store_row rfl 34 _ _ rfl u2.heap.size #[.int .i64 0, .int .i64 0, .slice PA 0 pc] rfl rfl 34 _ b2 (by kernel_rfl) rfl hone ?_)
  (try simp only [Act.put])
  obtain ⟨v2, hv2⟩ : ∃ u, (u2.alloc (.cells #[.int .i64 0, .int .i64 0, .slice none 0 0] 34)).setRow u2.heap.size #[.int .i64 0, .int .i64 0, .slice PA 0 pc] = u := ⟨_, rfl⟩
  rw [hv2]
  have b1 : Only [] u2 v2 := hv2 ▸ b1
  have b3 : Cells v2 u2.heap.size 34 [.int .i64 0, .int .i64 0, .slice PA 0 pc] := hv2 ▸ b3
  obtain ⟨z2, hz2⟩ : ∃ z, u2.heap.size = z := ⟨_, rfl⟩
  rw [hz2] at b3 hnew ⊢
  have B6 : Hid (Bx v2 K2 z2 34 [.int .i64 0, .int .i64 0, .slice PA 0 pc]) := Lib.hid ⟨b3, hnew⟩
  have H2 := Lib.hid (HA2.out.read b1)
  have HQ2 := Lib.hid (HP2.out.only b1)
  have B7 := Lib.hid (B4.out.read b1)
  have B8 := Lib.hid (B5.out.read b1)
  clear b1 b2 b3 hone hnew hv2 hz2 HA2 HP2 HG2 HO2 HN2 B4 B5
  have CD3 : Hid (Calls Tryz.prog 20 #[.pointer (some ⟨p, 0, none⟩), .agg #[.int .i64 2, .int .i64 1, .int .i64 1, .int .i64 0, .int .i64 0, .int .i64 0, .int .i64 0, .string ⟨#[97]⟩, .string ⟨#[]⟩, .slice none 0 0, .bool false]] v2 fun e w' => DoW w v2 w' p K2 3 sa2 (errR 0) e) := Lib.hid (by
    have := agw_do p K2 sa2 2 (by omega) ⟨2, 1, 1, 0, 0, 0, 0, [97], [], [], false⟩ (.slice none 0 0) w v2 H2.out ⟨SlAt.of_own (World.ownsRow_nil _ 0 99 3), (fun x hx => by cases hx), by decide +kernel, by decide +kernel, small_nums (by decide)⟩ (by decide) (itk_nil _ _ _ rfl)
    rw [e19_3] at this
    exact this)
  have hld := B8.out.1
  go_wp2_with (refine wpList_load_row rfl 38 _ rfl qs rfl 38 #[.int .i64 2, .int .i64 1, .int .i64 1, .int .i64 0, .int .i64 0, .int .i64 0, .int .i64 0, .string ⟨#[97]⟩, .string ⟨#[]⟩, .slice none 0 0, .bool false] (0, 0) _ hld Tryz.underlying38 rfl (by kernel_rfl) ?_)
  clear hld
  refine CD3.out.mono ?_
  rintro e u3 ⟨pv, K3, he, hp, hg, hA, ho, hN, hk⟩
  have he : e = .returned (.agg #[.int .i64 0, .int .i64 0, pv]) := he
  subst he
  obtain ⟨PA, pc, rfl⟩ := hp.ps.shape
  have HO3 : Hid (Only K2 v2 u3) := Lib.hid ho
  have HN3 : Hid (∀ x ∈ K3, x ∈ K2 ∨ v2.heap.size ≤ x) := Lib.hid hN
  have HP3 := Lib.hid hp
  have HA3 := Lib.hid hA
  have HG3 := Lib.hid hg
  have B9 := Lib.hid (B7.out.does HO3.out HN3.out)
  have B10 := Lib.hid (B8.out.does HO3.out HN3.out)
  have B11 := Lib.hid (B6.out.does HO3.out HN3.out)
  obtain ⟨b1, b2, b3⟩ := box_row u3 34 [.int .i64 0, .int .i64 0, .slice none 0 0] [.int .i64 0, .int .i64 0, .slice PA 0 pc]
  have hone : (#[.int .i64 0, .int .i64 0, .slice PA 0 pc] : Array Value).all (·.oneCell') = true := by simp [Value.oneCell']
  have hbw := hA.at_.bw
  have hnew : u3.heap.size ∉ K3 := fun hm => by have := hbw _ hm; omega
  clear hp hg hA ho hN hk hbw CD3 B7 B8 B6 H2
  go_upto_region 8 with (refine wpList_store_row rfl 34 _ _ rfl u3.heap.size #[.int .i64 0, .int .i64 0, .slice PA 0 pc] rfl rfl 34 _ b2 (by kernel_rfl) rfl hone ?_)
  (try simp only [Act.put])
  obtain ⟨v3, hv3⟩ : ∃ u, (u3.alloc (.cells #[.int .i64 0, .int .i64 0, .slice none 0 0] 34)).setRow u3.heap.size #[.int .i64 0, .int .i64 0, .slice PA 0 pc] = u := ⟨_, rfl⟩
  rw [hv3]
  have b1 : Only [] u3 v3 := hv3 ▸ b1
  have b3 : Cells v3 u3.heap.size 34 [.int .i64 0, .int .i64 0, .slice PA 0 pc] := hv3 ▸ b3
  obtain ⟨z3, hz3⟩ : ∃ z, u3.heap.size = z := ⟨_, rfl⟩
  rw [hz3] at b3 hnew ⊢
  have B12 : Hid (Bx v3 K3 z3 34 [.int .i64 0, .int .i64 0, .slice PA 0 pc]) := Lib.hid ⟨b3, hnew⟩
  have H3 := Lib.hid (HA3.out.read b1)
  have HQ3 := Lib.hid (HP3.out.only b1)
  have B13 := Lib.hid (B9.out.read b1)
  have B14 := Lib.hid (B10.out.read b1)
  have B15 := Lib.hid (B11.out.read b1)
  clear b1 b2 b3 hone hnew hv3 hz3 HA3 HP3 HG3 HO3 HN3 B9 B10 B11
  have hs0 := B14.out.1.cell (k := 2) rfl
  have hf0 := B14.out.1.frozen 2
  have hl0 := B14.out.1.lt
  go_upto_region 9 with fail
  obtain ⟨ys2, hy⟩ : ∃ u, v3.setCell ⟨qs, 2, none⟩ (.int .i64 2) = u := ⟨_, rfl⟩
  rw [hy]
  have b1 : Only [qs] v3 ys2 := hy ▸ (Only.refl _ _).setCell (.inl (by simp)) _
  have B16 : Hid (Bx ys2 K3 qs 38 [.int .i64 2, .int .i64 1, .int .i64 2, .int .i64 0, .int .i64 0, .int .i64 0, .int .i64 0, .string ⟨#[97]⟩, .string ⟨#[]⟩, .slice none 0 0, .bool false]) := Lib.hid ⟨hy ▸ B14.out.1.set 2 _, B14.out.2⟩
  have HZs := Lib.hid (H3.out.far b1 (fun x hx => by simp at hx; subst hx; exact ⟨B14.out.2, HLs.out⟩))
  have B17 := Lib.hid (B13.out.far b1 (B13.out.1.ne B14.out.1 (by decide)))
  have B18 := Lib.hid (B15.out.far b1 (B15.out.1.ne B14.out.1 (by decide)))
  have B19 := Lib.hid (B12.out.far b1 (B12.out.1.ne B14.out.1 (by decide)))
  clear hs0 hf0 hl0 b1 hy H3 B14 B13 B15 B12
  have CD4 : Hid (Calls Tryz.prog 20 #[.pointer (some ⟨p, 0, none⟩), .agg #[.int .i64 2, .int .i64 1, .int .i64 2, .int .i64 0, .int .i64 0, .int .i64 0, .int .i64 0, .string ⟨#[97]⟩, .string ⟨#[]⟩, .slice none 0 0, .bool false]] ys2 fun e w' => DoW w ys2 w' p K3 4 sa4 (errR 5) e) := Lib.hid (by
    have := agw_do p K3 sa2 3 (by omega) ⟨2, 1, 2, 0, 0, 0, 0, [97], [], [], false⟩ (.slice none 0 0) w ys2 HZs.out ⟨SlAt.of_own (World.ownsRow_nil _ 0 99 3), (fun x hx => by cases hx), by decide +kernel, by decide +kernel, small_nums (by decide)⟩ (by decide) (itk_nil _ _ _ rfl)
    rw [e19_4] at this
    exact this)
  have hld := B16.out.1
  go_wp2_with (refine wpList_load_row rfl 38 _ rfl qs rfl 38 #[.int .i64 2, .int .i64 1, .int .i64 2, .int .i64 0, .int .i64 0, .int .i64 0, .int .i64 0, .string ⟨#[97]⟩, .string ⟨#[]⟩, .slice none 0 0, .bool false] (0, 0) _ hld Tryz.underlying38 rfl (by kernel_rfl) ?_)
  clear hld
  refine CD4.out.mono ?_
  rintro e u4 ⟨pv, K4, he, hp, hg, hA, ho, hN, hk⟩
  have he : e = .returned (.agg #[.int .i64 5, .int .i64 0, pv]) := he
  subst he
  obtain ⟨PA, pc, rfl⟩ := hp.ps.shape
  have HO4 : Hid (Only K3 ys2 u4) := Lib.hid ho
  have HN4 : Hid (∀ x ∈ K4, x ∈ K3 ∨ ys2.heap.size ≤ x) := Lib.hid hN
  have HP4 := Lib.hid hp
  have HA4 := Lib.hid hA
  have HG4 := Lib.hid hg
  have B20 := Lib.hid (B17.out.does HO4.out HN4.out)
  have B21 := Lib.hid (B16.out.does HO4.out HN4.out)
  have B22 := Lib.hid (B18.out.does HO4.out HN4.out)
  have B23 := Lib.hid (B19.out.does HO4.out HN4.out)
  obtain ⟨b1, b2, b3⟩ := box_row u4 34 [.int .i64 0, .int .i64 0, .slice none 0 0] [.int .i64 5, .int .i64 0, .slice PA 0 pc]
  have hone : (#[.int .i64 5, .int .i64 0, .slice PA 0 pc] : Array Value).all (·.oneCell') = true := by simp [Value.oneCell']
  have hbw := hA.at_.bw
  have hnew : u4.heap.size ∉ K4 := fun hm => by have := hbw _ hm; omega
  clear hp hg hA ho hN hk hbw CD4 B17 B16 B18 B19 HZs
  go_upto_region 10 with (refine wpList_store_row rfl 34 _ _ rfl u4.heap.size #[.int .i64 5, .int .i64 0, .slice PA 0 pc] rfl rfl 34 _ b2 (by kernel_rfl) rfl hone ?_)
  (try simp only [Act.put])
  obtain ⟨v4, hv4⟩ : ∃ u, (u4.alloc (.cells #[.int .i64 0, .int .i64 0, .slice none 0 0] 34)).setRow u4.heap.size #[.int .i64 5, .int .i64 0, .slice PA 0 pc] = u := ⟨_, rfl⟩
  rw [hv4]
  have b1 : Only [] u4 v4 := hv4 ▸ b1
  have b3 : Cells v4 u4.heap.size 34 [.int .i64 5, .int .i64 0, .slice PA 0 pc] := hv4 ▸ b3
  obtain ⟨z4, hz4⟩ : ∃ z, u4.heap.size = z := ⟨_, rfl⟩
  rw [hz4] at b3 hnew ⊢
  have B24 : Hid (Bx v4 K4 z4 34 [.int .i64 5, .int .i64 0, .slice PA 0 pc]) := Lib.hid ⟨b3, hnew⟩
  have H4 := Lib.hid (HA4.out.read b1)
  have HQ4 := Lib.hid (HP4.out.only b1)
  have B25 := Lib.hid (B20.out.read b1)
  have B26 := Lib.hid (B21.out.read b1)
  have B27 := Lib.hid (B22.out.read b1)
  have B28 := Lib.hid (B23.out.read b1)
  clear b1 b2 b3 hone hnew hv4 hz4 HA4 HP4 HG4 HO4 HN4 B20 B21 B22 B23
  have CD5 : Hid (Calls Tryz.prog 20 #[.pointer (some ⟨p, 0, none⟩), .agg #[.int .i64 2, .int .i64 9, .int .i64 1, .int .i64 0, .int .i64 0, .int .i64 0, .int .i64 0, .string ⟨#[98]⟩, .string ⟨#[]⟩, .slice none 0 0, .bool false]] v4 fun e w' => DoW w v4 w' p K4 5 sa4 (errR 17) e) := Lib.hid (by
    have := agw_do p K4 sa4 4 (by omega) ⟨2, 9, 1, 0, 0, 0, 0, [98], [], [], false⟩ (.slice none 0 0) w v4 H4.out ⟨SlAt.of_own (World.ownsRow_nil _ 0 99 3), (fun x hx => by cases hx), by decide +kernel, by decide +kernel, small_nums (by decide)⟩ (by decide) (itk_nil _ _ _ rfl)
    rw [e19_5] at this
    exact this)
  go_wp2_with fail
  refine CD5.out.mono ?_
  rintro e u5 ⟨pv, K5, he, hp, hg, hA, ho, hN, hk⟩
  have he : e = .returned (.agg #[.int .i64 17, .int .i64 0, pv]) := he
  subst he
  obtain ⟨PA, pc, rfl⟩ := hp.ps.shape
  have HO5 : Hid (Only K4 v4 u5) := Lib.hid ho
  have HN5 : Hid (∀ x ∈ K5, x ∈ K4 ∨ v4.heap.size ≤ x) := Lib.hid hN
  have HP5 := Lib.hid hp
  have HA5 := Lib.hid hA
  have HG5 := Lib.hid hg
  have B29 := Lib.hid (B25.out.does HO5.out HN5.out)
  have B30 := Lib.hid (B26.out.does HO5.out HN5.out)
  have B31 := Lib.hid (B27.out.does HO5.out HN5.out)
  have B32 := Lib.hid (B28.out.does HO5.out HN5.out)
  have B33 := Lib.hid (B24.out.does HO5.out HN5.out)
  obtain ⟨b1, b2, b3⟩ := box_row u5 34 [.int .i64 0, .int .i64 0, .slice none 0 0] [.int .i64 17, .int .i64 0, .slice PA 0 pc]
  have hone : (#[.int .i64 17, .int .i64 0, .slice PA 0 pc] : Array Value).all (·.oneCell') = true := by simp [Value.oneCell']
  have hbw := hA.at_.bw
  have hnew : u5.heap.size ∉ K5 := fun hm => by have := hbw _ hm; omega
  clear hp hg hA ho hN hk hbw CD5 B25 B26 B27 B28 B24 H4
  go_upto_region 11 with (refine wpList_store_row rfl 34 _ _ rfl u5.heap.size #[.int .i64 17, .int .i64 0, .slice PA 0 pc] rfl rfl 34 _ b2 (by kernel_rfl) rfl hone ?_)
  (try simp only [Act.put])
  obtain ⟨v5, hv5⟩ : ∃ u, (u5.alloc (.cells #[.int .i64 0, .int .i64 0, .slice none 0 0] 34)).setRow u5.heap.size #[.int .i64 17, .int .i64 0, .slice PA 0 pc] = u := ⟨_, rfl⟩
  rw [hv5]
  have b1 : Only [] u5 v5 := hv5 ▸ b1
  have b3 : Cells v5 u5.heap.size 34 [.int .i64 17, .int .i64 0, .slice PA 0 pc] := hv5 ▸ b3
  obtain ⟨z5, hz5⟩ : ∃ z, u5.heap.size = z := ⟨_, rfl⟩
  rw [hz5] at b3 hnew ⊢
  have B34 : Hid (Bx v5 K5 z5 34 [.int .i64 17, .int .i64 0, .slice PA 0 pc]) := Lib.hid ⟨b3, hnew⟩
  have H5 := Lib.hid (HA5.out.read b1)
  have HQ5 := Lib.hid (HP5.out.only b1)
  have B35 := Lib.hid (B29.out.read b1)
  have B36 := Lib.hid (B30.out.read b1)
  have B37 := Lib.hid (B31.out.read b1)
  have B38 := Lib.hid (B32.out.read b1)
  have B39 := Lib.hid (B33.out.read b1)
  clear b1 b2 b3 hone hnew hv5 hz5 HA5 HP5 HG5 HO5 HN5 B29 B30 B31 B32 B33
  have CD6 : Hid (Calls Tryz.prog 20 #[.pointer (some ⟨p, 0, none⟩), .agg #[.int .i64 7, .int .i64 0, .int .i64 0, .int .i64 4, .int .i64 2, .int .i64 0, .int .i64 0, .string ⟨#[]⟩, .string ⟨#[]⟩, .slice none 0 0, .bool false]] v5 fun e w' => DoW w v5 w' p K5 6 sa6 (⟨0, 1, []⟩) e) := Lib.hid (by
    have := agw_do p K5 sa4 5 (by omega) ⟨7, 0, 0, 4, 2, 0, 0, [], [], [], false⟩ (.slice none 0 0) w v5 H5.out ⟨SlAt.of_own (World.ownsRow_nil _ 0 99 3), (fun x hx => by cases hx), by decide +kernel, by decide +kernel, small_nums (by decide)⟩ (by decide) (itk_nil _ _ _ rfl)
    rw [e19_6] at this
    exact this)
  go_wp2_with fail
  refine CD6.out.mono ?_
  rintro e u6 ⟨pv, K6, he, hp, hg, hA, ho, hN, hk⟩
  have he : e = .returned (.agg #[.int .i64 0, .int .i64 1, pv]) := he
  subst he
  obtain ⟨PA, pc, rfl⟩ := hp.ps.shape
  have HO6 : Hid (Only K5 v5 u6) := Lib.hid ho
  have HN6 : Hid (∀ x ∈ K6, x ∈ K5 ∨ v5.heap.size ≤ x) := Lib.hid hN
  have HP6 := Lib.hid hp
  have HA6 := Lib.hid hA
  have HG6 := Lib.hid hg
  have B40 := Lib.hid (B35.out.does HO6.out HN6.out)
  have B41 := Lib.hid (B36.out.does HO6.out HN6.out)
  have B42 := Lib.hid (B37.out.does HO6.out HN6.out)
  have B43 := Lib.hid (B38.out.does HO6.out HN6.out)
  have B44 := Lib.hid (B39.out.does HO6.out HN6.out)
  have B45 := Lib.hid (B34.out.does HO6.out HN6.out)
  obtain ⟨b1, b2, b3⟩ := box_row u6 34 [.int .i64 0, .int .i64 0, .slice none 0 0] [.int .i64 0, .int .i64 1, .slice PA 0 pc]
  have hone : (#[.int .i64 0, .int .i64 1, .slice PA 0 pc] : Array Value).all (·.oneCell') = true := by simp [Value.oneCell']
  have hbw := hA.at_.bw
  have hnew : u6.heap.size ∉ K6 := fun hm => by have := hbw _ hm; omega
  clear hp hg hA ho hN hk hbw CD6 B35 B36 B37 B38 B39 B34 H5
  go_upto_region 12 with (refine wpList_store_row rfl 34 _ _ rfl u6.heap.size #[.int .i64 0, .int .i64 1, .slice PA 0 pc] rfl rfl 34 _ b2 (by kernel_rfl) rfl hone ?_)
  (try simp only [Act.put])
  obtain ⟨v6, hv6⟩ : ∃ u, (u6.alloc (.cells #[.int .i64 0, .int .i64 0, .slice none 0 0] 34)).setRow u6.heap.size #[.int .i64 0, .int .i64 1, .slice PA 0 pc] = u := ⟨_, rfl⟩
  rw [hv6]
  have b1 : Only [] u6 v6 := hv6 ▸ b1
  have b3 : Cells v6 u6.heap.size 34 [.int .i64 0, .int .i64 1, .slice PA 0 pc] := hv6 ▸ b3
  obtain ⟨z6, hz6⟩ : ∃ z, u6.heap.size = z := ⟨_, rfl⟩
  rw [hz6] at b3 hnew ⊢
  have B46 : Hid (Bx v6 K6 z6 34 [.int .i64 0, .int .i64 1, .slice PA 0 pc]) := Lib.hid ⟨b3, hnew⟩
  have H6 := Lib.hid (HA6.out.read b1)
  have HQ6 := Lib.hid (HP6.out.only b1)
  have B47 := Lib.hid (B40.out.read b1)
  have B48 := Lib.hid (B41.out.read b1)
  have B49 := Lib.hid (B42.out.read b1)
  have B50 := Lib.hid (B43.out.read b1)
  have B51 := Lib.hid (B44.out.read b1)
  have B52 := Lib.hid (B45.out.read b1)
  clear b1 b2 b3 hone hnew hv6 hz6 HA6 HP6 HG6 HO6 HN6 B40 B41 B42 B43 B44 B45
  obtain ⟨wi, hwi⟩ : ∃ u, v6.alloc (.cells #[.string ⟨#[120]⟩, .string ⟨#[]⟩, .string ⟨#[]⟩] 99) = u := ⟨_, rfl⟩
  have hsz : wi.heap.size = v6.heap.size + 1 := by rw [← hwi, World.size_alloc]
  obtain ⟨b1, b2, b3⟩ := box_row wi 38 [.int .i64 0, .int .i64 0, .int .i64 0, .int .i64 0, .int .i64 0, .int .i64 0, .int .i64 0, .string ⟨#[]⟩, .string ⟨#[]⟩, .slice none 0 0, .bool false] [.int .i64 8, .int .i64 0, .int .i64 0, .int .i64 4, .int .i64 2, .int .i64 1, .int .i64 0, .string ⟨#[97]⟩, .string ⟨#[]⟩, .slice (some ⟨v6.heap.size, 0, none⟩) 1 1, .bool false]
  rw [hsz, ← hwi] at b1 b2 b3
  have hone : (#[.int .i64 8, .int .i64 0, .int .i64 0, .int .i64 4, .int .i64 2, .int .i64 1, .int .i64 0, .string ⟨#[97]⟩, .string ⟨#[]⟩, .slice (some ⟨v6.heap.size, 0, none⟩) 1 1, .bool false] : Array Value).all (·.oneCell') = true := by simp [Value.oneCell']
  have hnew : v6.heap.size + 1 ∉ K6 := fun hm => by have := H6.out.at_.bw _ hm; omega
  have hnew2 : v6.heap.size ∉ K6 := fun hm => by have := H6.out.at_.bw _ hm; omega
  clear hwi hsz wi
  go_upto_region 13 with (refine wpList_store_row rfl 38 _ _ rfl (v6.heap.size + 1) #[.int .i64 8, .int .i64 0, .int .i64 0, .int .i64 4, .int .i64 2, .int .i64 1, .int .i64 0, .string ⟨#[97]⟩, .string ⟨#[]⟩, .slice (some ⟨v6.heap.size, 0, none⟩) 1 1, .bool false] rfl rfl 38 _ b2 (by kernel_rfl) rfl hone ?_)
  (try simp only [Act.put])
  obtain ⟨yi, hy⟩ : ∃ u, ((v6.alloc (.cells #[.string ⟨#[120]⟩, .string ⟨#[]⟩, .string ⟨#[]⟩] 99)).alloc (.cells #[.int .i64 0, .int .i64 0, .int .i64 0, .int .i64 0, .int .i64 0, .int .i64 0, .int .i64 0, .string ⟨#[]⟩, .string ⟨#[]⟩, .slice none 0 0, .bool false] 38)).setRow (v6.heap.size + 1) #[.int .i64 8, .int .i64 0, .int .i64 0, .int .i64 4, .int .i64 2, .int .i64 1, .int .i64 0, .string ⟨#[97]⟩, .string ⟨#[]⟩, .slice (some ⟨v6.heap.size, 0, none⟩) 1 1, .bool false] = u := ⟨_, rfl⟩
  rw [hy]
  have b0 : Only [] (v6.alloc (.cells #[.string ⟨#[120]⟩, .string ⟨#[]⟩, .string ⟨#[]⟩] 99)) yi := hy ▸ b1
  have b1 : Only [] v6 yi := Only.tr0 ((Only.refl _ _).alloc _) b0
  have b3 : Cells yi (v6.heap.size + 1) 38 [.int .i64 8, .int .i64 0, .int .i64 0, .int .i64 4, .int .i64 2, .int .i64 1, .int .i64 0, .string ⟨#[97]⟩, .string ⟨#[]⟩, .slice (some ⟨v6.heap.size, 0, none⟩) 1 1, .bool false] := hy ▸ b3
  have b4 : Cells yi v6.heap.size 99 [.string ⟨#[120]⟩, .string ⟨#[]⟩, .string ⟨#[]⟩] := (Cells.new v6 _ _).only b0 (by simp)
  obtain ⟨qi, hz⟩ : ∃ z, v6.heap.size + 1 = z := ⟨_, rfl⟩
  obtain ⟨ib, hib⟩ : ∃ z, v6.heap.size = z := ⟨_, rfl⟩
  have hbase := H6.out.ho.size
  rw [hz, hib] at b3
  rw [hib] at b4 hnew2 hbase
  rw [hz] at hnew
  rw [hz, hib]
  rw [hib] at hz
  have HLi : Hid (w.heap.size ≤ qi) := Lib.hid (by omega)
  have B53 : Hid (Bx yi K6 qi 38 [.int .i64 8, .int .i64 0, .int .i64 0, .int .i64 4, .int .i64 2, .int .i64 1, .int .i64 0, .string ⟨#[97]⟩, .string ⟨#[]⟩, .slice (some ⟨ib, 0, none⟩) 1 1, .bool false]) := Lib.hid ⟨b3, hnew⟩
  have B54 : Hid (Bx yi K6 ib 99 [.string ⟨#[120]⟩, .string ⟨#[]⟩, .string ⟨#[]⟩]) := Lib.hid ⟨b4, hnew2⟩
  have HYi := Lib.hid (H6.out.read b1)
  have B55 := Lib.hid (B47.out.read b1)
  have B56 := Lib.hid (B49.out.read b1)
  have B57 := Lib.hid (B50.out.read b1)
  have B58 := Lib.hid (B51.out.read b1)
  have B59 := Lib.hid (B52.out.read b1)
  have B60 := Lib.hid (B46.out.read b1)
  clear b0 b1 b2 b3 b4 hone hnew hnew2 hy hz hib hbase H6 B47 B49 B50 B51 B52 B46
  have CD7 : Hid (Calls Tryz.prog 20 #[.pointer (some ⟨p, 0, none⟩), .agg #[.int .i64 8, .int .i64 0, .int .i64 0, .int .i64 4, .int .i64 2, .int .i64 1, .int .i64 0, .string ⟨#[97]⟩, .string ⟨#[]⟩, .slice (some ⟨ib, 0, none⟩) 1 1, .bool false]] yi fun e w' => DoW w yi w' p K6 7 sa7 (⟨0, 1, []⟩) e) := Lib.hid (by
    have := agw_do p K6 sa6 6 (by omega) ⟨8, 0, 0, 4, 2, 1, 0, [97], [], [iX], false⟩ (.slice (some ⟨ib, 0, none⟩) 1 1) w yi HYi.out (cmat_box B54.out.1 _ rfl (by decide +kernel) (by decide +kernel) (small_nums (by decide))) (by decide) (itk_box B54.out _ rfl)
    rw [e19_7] at this
    exact this)
  have hld := B53.out.1
  go_wp2_with (refine wpList_load_row rfl 38 _ rfl qi rfl 38 #[.int .i64 8, .int .i64 0, .int .i64 0, .int .i64 4, .int .i64 2, .int .i64 1, .int .i64 0, .string ⟨#[97]⟩, .string ⟨#[]⟩, .slice (some ⟨ib, 0, none⟩) 1 1, .bool false] (0, 0) _ hld Tryz.underlying38 rfl (by kernel_rfl) ?_)
  clear hld
  refine CD7.out.mono ?_
  rintro e u7 ⟨pv, K7, he, hp, hg, hA, ho, hN, hk⟩
  have he : e = .returned (.agg #[.int .i64 0, .int .i64 1, pv]) := he
  subst he
  obtain ⟨PA, pc, rfl⟩ := hp.ps.shape
  have HO7 : Hid (Only K6 yi u7) := Lib.hid ho
  have HN7 : Hid (∀ x ∈ K7, x ∈ K6 ∨ yi.heap.size ≤ x) := Lib.hid hN
  have HP7 := Lib.hid hp
  have HA7 := Lib.hid hA
  have HG7 := Lib.hid hg
  have B61 := Lib.hid (B55.out.does HO7.out HN7.out)
  have B62 := Lib.hid (B56.out.does HO7.out HN7.out)
  have B63 := Lib.hid (B57.out.does HO7.out HN7.out)
  have B64 := Lib.hid (B58.out.does HO7.out HN7.out)
  have B65 := Lib.hid (B59.out.does HO7.out HN7.out)
  have B66 := Lib.hid (B60.out.does HO7.out HN7.out)
  have B67 := Lib.hid (B53.out.does HO7.out HN7.out)
  have B68 := Lib.hid (B54.out.does HO7.out HN7.out)
  obtain ⟨b1, b2, b3⟩ := box_row u7 34 [.int .i64 0, .int .i64 0, .slice none 0 0] [.int .i64 0, .int .i64 1, .slice PA 0 pc]
  have hone : (#[.int .i64 0, .int .i64 1, .slice PA 0 pc] : Array Value).all (·.oneCell') = true := by simp [Value.oneCell']
  have hbw := hA.at_.bw
  have hnew : u7.heap.size ∉ K7 := fun hm => by have := hbw _ hm; omega
  clear hp hg hA ho hN hk hbw CD7 B55 B56 B57 B58 B59 B60 B53 B54 HYi
  go_upto_region 14 with (refine wpList_store_row rfl 34 _ _ rfl u7.heap.size #[.int .i64 0, .int .i64 1, .slice PA 0 pc] rfl rfl 34 _ b2 (by kernel_rfl) rfl hone ?_)
  (try simp only [Act.put])
  obtain ⟨v7, hv7⟩ : ∃ u, (u7.alloc (.cells #[.int .i64 0, .int .i64 0, .slice none 0 0] 34)).setRow u7.heap.size #[.int .i64 0, .int .i64 1, .slice PA 0 pc] = u := ⟨_, rfl⟩
  rw [hv7]
  have b1 : Only [] u7 v7 := hv7 ▸ b1
  have b3 : Cells v7 u7.heap.size 34 [.int .i64 0, .int .i64 1, .slice PA 0 pc] := hv7 ▸ b3
  obtain ⟨z7, hz7⟩ : ∃ z, u7.heap.size = z := ⟨_, rfl⟩
  rw [hz7] at b3 hnew ⊢
  have B69 : Hid (Bx v7 K7 z7 34 [.int .i64 0, .int .i64 1, .slice PA 0 pc]) := Lib.hid ⟨b3, hnew⟩
  have H7 := Lib.hid (HA7.out.read b1)
  have HQ7 := Lib.hid (HP7.out.only b1)
  have B70 := Lib.hid (B61.out.read b1)
  have B71 := Lib.hid (B62.out.read b1)
  have B72 := Lib.hid (B63.out.read b1)
  have B73 := Lib.hid (B64.out.read b1)
  have B74 := Lib.hid (B65.out.read b1)
  have B75 := Lib.hid (B66.out.read b1)
  have B76 := Lib.hid (B67.out.read b1)
  have B77 := Lib.hid (B68.out.read b1)
  clear b1 b2 b3 hone hnew hv7 hz7 HA7 HP7 HG7 HO7 HN7 B61 B62 B63 B64 B65 B66 B67 B68
  have hs0 := B76.out.1.cell (k := 5) rfl
  have hf0 := B76.out.1.frozen 5
  have hl0 := B76.out.1.lt
  go_upto_region 15 with fail
  obtain ⟨yi2, hy⟩ : ∃ u, v7.setCell ⟨qi, 5, none⟩ (.int .i64 2) = u := ⟨_, rfl⟩
  rw [hy]
  have b1 : Only [qi] v7 yi2 := hy ▸ (Only.refl _ _).setCell (.inl (by simp)) _
  have B78 : Hid (Bx yi2 K7 qi 38 [.int .i64 8, .int .i64 0, .int .i64 0, .int .i64 4, .int .i64 2, .int .i64 2, .int .i64 0, .string ⟨#[97]⟩, .string ⟨#[]⟩, .slice (some ⟨ib, 0, none⟩) 1 1, .bool false]) := Lib.hid ⟨hy ▸ B76.out.1.set 5 _, B76.out.2⟩
  have HZi := Lib.hid (H7.out.far b1 (fun x hx => by simp at hx; subst hx; exact ⟨B76.out.2, HLi.out⟩))
  have B79 := Lib.hid (B70.out.far b1 (B70.out.1.ne B76.out.1 (by decide)))
  have B80 := Lib.hid (B71.out.far b1 (B71.out.1.ne B76.out.1 (by decide)))
  have B81 := Lib.hid (B72.out.far b1 (B72.out.1.ne B76.out.1 (by decide)))
  have B82 := Lib.hid (B73.out.far b1 (B73.out.1.ne B76.out.1 (by decide)))
  have B83 := Lib.hid (B74.out.far b1 (B74.out.1.ne B76.out.1 (by decide)))
  have B84 := Lib.hid (B75.out.far b1 (B75.out.1.ne B76.out.1 (by decide)))
  have B85 := Lib.hid (B77.out.far b1 (B77.out.1.ne B76.out.1 (by decide)))
  have B86 := Lib.hid (B69.out.far b1 (B69.out.1.ne B76.out.1 (by decide)))
  clear hs0 hf0 hl0 b1 hy H7 B76 B70 B71 B72 B73 B74 B75 B77 B69
  have CD8 : Hid (Calls Tryz.prog 20 #[.pointer (some ⟨p, 0, none⟩), .agg #[.int .i64 8, .int .i64 0, .int .i64 0, .int .i64 4, .int .i64 2, .int .i64 2, .int .i64 0, .string ⟨#[97]⟩, .string ⟨#[]⟩, .slice (some ⟨ib, 0, none⟩) 1 1, .bool false]] yi2 fun e w' => DoW w yi2 w' p K7 8 sa7 (errR 15) e) := Lib.hid (by
    have := agw_do p K7 sa7 7 (by omega) ⟨8, 0, 0, 4, 2, 2, 0, [97], [], [iX], false⟩ (.slice (some ⟨ib, 0, none⟩) 1 1) w yi2 HZi.out (cmat_box B85.out.1 _ rfl (by decide +kernel) (by decide +kernel) (small_nums (by decide))) (by decide) (itk_box B85.out _ rfl)
    rw [e19_8] at this
    exact this)
  have hld := B78.out.1
  go_wp2_with (refine wpList_load_row rfl 38 _ rfl qi rfl 38 #[.int .i64 8, .int .i64 0, .int .i64 0, .int .i64 4, .int .i64 2, .int .i64 2, .int .i64 0, .string ⟨#[97]⟩, .string ⟨#[]⟩, .slice (some ⟨ib, 0, none⟩) 1 1, .bool false] (0, 0) _ hld Tryz.underlying38 rfl (by kernel_rfl) ?_)
  clear hld
  refine CD8.out.mono ?_
  rintro e u8 ⟨pv, K8, he, hp, hg, hA, ho, hN, hk⟩
  have he : e = .returned (.agg #[.int .i64 15, .int .i64 0, pv]) := he
  subst he
  obtain ⟨PA, pc, rfl⟩ := hp.ps.shape
  have HO8 : Hid (Only K7 yi2 u8) := Lib.hid ho
  have HN8 : Hid (∀ x ∈ K8, x ∈ K7 ∨ yi2.heap.size ≤ x) := Lib.hid hN
  have HP8 := Lib.hid hp
  have HA8 := Lib.hid hA
  have HG8 := Lib.hid hg
  have B87 := Lib.hid (B79.out.does HO8.out HN8.out)
  have B88 := Lib.hid (B80.out.does HO8.out HN8.out)
  have B89 := Lib.hid (B81.out.does HO8.out HN8.out)
  have B90 := Lib.hid (B82.out.does HO8.out HN8.out)
  have B91 := Lib.hid (B83.out.does HO8.out HN8.out)
  have B92 := Lib.hid (B84.out.does HO8.out HN8.out)
  have B93 := Lib.hid (B78.out.does HO8.out HN8.out)
  have B94 := Lib.hid (B85.out.does HO8.out HN8.out)
  have B95 := Lib.hid (B86.out.does HO8.out HN8.out)
  obtain ⟨b1, b2, b3⟩ := box_row u8 34 [.int .i64 0, .int .i64 0, .slice none 0 0] [.int .i64 15, .int .i64 0, .slice PA 0 pc]
  have hone : (#[.int .i64 15, .int .i64 0, .slice PA 0 pc] : Array Value).all (·.oneCell') = true := by simp [Value.oneCell']
  have hbw := hA.at_.bw
  have hnew : u8.heap.size ∉ K8 := fun hm => by have := hbw _ hm; omega
  clear hp hg hA ho hN hk hbw CD8 B79 B80 B81 B82 B83 B84 B78 B85 B86 HZi
  go_upto_region 16 with (refine wpList_store_row rfl 34 _ _ rfl u8.heap.size #[.int .i64 15, .int .i64 0, .slice PA 0 pc] rfl rfl 34 _ b2 (by kernel_rfl) rfl hone ?_)
  (try simp only [Act.put])
  obtain ⟨v8, hv8⟩ : ∃ u, (u8.alloc (.cells #[.int .i64 0, .int .i64 0, .slice none 0 0] 34)).setRow u8.heap.size #[.int .i64 15, .int .i64 0, .slice PA 0 pc] = u := ⟨_, rfl⟩
  rw [hv8]
  have b1 : Only [] u8 v8 := hv8 ▸ b1
  have b3 : Cells v8 u8.heap.size 34 [.int .i64 15, .int .i64 0, .slice PA 0 pc] := hv8 ▸ b3
  obtain ⟨z8, hz8⟩ : ∃ z, u8.heap.size = z := ⟨_, rfl⟩
  rw [hz8] at b3 hnew ⊢
  have B96 : Hid (Bx v8 K8 z8 34 [.int .i64 15, .int .i64 0, .slice PA 0 pc]) := Lib.hid ⟨b3, hnew⟩
  have H8 := Lib.hid (HA8.out.read b1)
  have HQ8 := Lib.hid (HP8.out.only b1)
  have B97 := Lib.hid (B87.out.read b1)
  have B98 := Lib.hid (B88.out.read b1)
  have B99 := Lib.hid (B89.out.read b1)
  have B100 := Lib.hid (B90.out.read b1)
  have B101 := Lib.hid (B91.out.read b1)
  have B102 := Lib.hid (B92.out.read b1)
  have B103 := Lib.hid (B93.out.read b1)
  have B104 := Lib.hid (B94.out.read b1)
  have B105 := Lib.hid (B95.out.read b1)
  clear b1 b2 b3 hone hnew hv8 hz8 HA8 HP8 HG8 HO8 HN8 B87 B88 B89 B90 B91 B92 B93 B94 B95
  have CD9 : Hid (Calls Tryz.prog 20 #[.pointer (some ⟨p, 0, none⟩), .agg #[.int .i64 5, .int .i64 1, .int .i64 3, .int .i64 0, .int .i64 0, .int .i64 0, .int .i64 0, .string ⟨#[97]⟩, .string ⟨#[]⟩, .slice none 0 0, .bool false]] v8 fun e w' => DoW w v8 w' p K8 9 sa9 (⟨0, 0, [⟨1, iX, false⟩]⟩) e) := Lib.hid (by
    have := agw_do p K8 sa7 8 (by omega) ⟨5, 1, 3, 0, 0, 0, 0, [97], [], [], false⟩ (.slice none 0 0) w v8 H8.out ⟨SlAt.of_own (World.ownsRow_nil _ 0 99 3), (fun x hx => by cases hx), by decide +kernel, by decide +kernel, small_nums (by decide)⟩ (by decide) (itk_nil _ _ _ rfl)
    rw [e19_9] at this
    exact this)
  go_wp2_with fail
  refine CD9.out.mono ?_
  rintro e u9 ⟨pv, K9, he, hp, hg, hA, ho, hN, hk⟩
  have he : e = .returned (.agg #[.int .i64 0, .int .i64 0, pv]) := he
  subst he
  obtain ⟨PA, pc, rfl⟩ := hp.ps.shape
  have HO9 : Hid (Only K8 v8 u9) := Lib.hid ho
  have HN9 : Hid (∀ x ∈ K9, x ∈ K8 ∨ v8.heap.size ≤ x) := Lib.hid hN
  have HP9 := Lib.hid hp
  have HA9 := Lib.hid hA
  have HG9 := Lib.hid hg
  have B106 := Lib.hid (B97.out.does HO9.out HN9.out)
  have B107 := Lib.hid (B98.out.does HO9.out HN9.out)
  have B108 := Lib.hid (B99.out.does HO9.out HN9.out)
  have B109 := Lib.hid (B100.out.does HO9.out HN9.out)
  have B110 := Lib.hid (B101.out.does HO9.out HN9.out)
  have B111 := Lib.hid (B102.out.does HO9.out HN9.out)
  have B112 := Lib.hid (B105.out.does HO9.out HN9.out)
  have B113 := Lib.hid (B96.out.does HO9.out HN9.out)
  obtain ⟨b1, b2, b3⟩ := box_row u9 34 [.int .i64 0, .int .i64 0, .slice none 0 0] [.int .i64 0, .int .i64 0, .slice PA 1 pc]
  have hone : (#[.int .i64 0, .int .i64 0, .slice PA 1 pc] : Array Value).all (·.oneCell') = true := by simp [Value.oneCell']
  have hbw := hA.at_.bw
  have hnew : u9.heap.size ∉ K9 := fun hm => by have := hbw _ hm; omega
  clear hp hg hA ho hN hk hbw CD9 B97 B98 B99 B100 B101 B102 B105 B96 H8
  go_upto_region 17 with (refine wpList_store_row rfl 34 _ _ rfl u9.heap.size #[.int .i64 0, .int .i64 0, .slice PA 1 pc] rfl rfl 34 _ b2 (by kernel_rfl) rfl hone ?_)
  (try simp only [Act.put])
  obtain ⟨v9, hv9⟩ : ∃ u, (u9.alloc (.cells #[.int .i64 0, .int .i64 0, .slice none 0 0] 34)).setRow u9.heap.size #[.int .i64 0, .int .i64 0, .slice PA 1 pc] = u := ⟨_, rfl⟩
  rw [hv9]
  have b1 : Only [] u9 v9 := hv9 ▸ b1
  have b3 : Cells v9 u9.heap.size 34 [.int .i64 0, .int .i64 0, .slice PA 1 pc] := hv9 ▸ b3
  obtain ⟨z9, hz9⟩ : ∃ z, u9.heap.size = z := ⟨_, rfl⟩
  rw [hz9] at b3 hnew ⊢
  have B114 : Hid (Bx v9 K9 z9 34 [.int .i64 0, .int .i64 0, .slice PA 1 pc]) := Lib.hid ⟨b3, hnew⟩
  have H9 := Lib.hid (HA9.out.read b1)
  have HQ9 := Lib.hid (HP9.out.only b1)
  have B115 := Lib.hid (B106.out.read b1)
  have B116 := Lib.hid (B107.out.read b1)
  have B117 := Lib.hid (B108.out.read b1)
  have B118 := Lib.hid (B109.out.read b1)
  have B119 := Lib.hid (B110.out.read b1)
  have B120 := Lib.hid (B111.out.read b1)
  have B121 := Lib.hid (B112.out.read b1)
  have B122 := Lib.hid (B113.out.read b1)
  clear b1 b2 b3 hone hnew hv9 hz9 HA9 HP9 HG9 HO9 HN9 B106 B107 B108 B109 B110 B111 B112 B113
  have eb1 := B115.out.1.cell (k := 1) rfl
  have lb1 := B115.out.1.lt
  have eb2 := B116.out.1.cell (k := 0) rfl
  have lb2 := B116.out.1.lt
  have eb3 := B117.out.1.cell (k := 0) rfl
  have lb3 := B117.out.1.lt
  have eb4 := B118.out.1.cell (k := 0) rfl
  have lb4 := B118.out.1.lt
  have eb5 := B119.out.1.cell (k := 0) rfl
  have lb5 := B119.out.1.lt
  have eb6 := B120.out.1.cell (k := 1) rfl
  have lb6 := B120.out.1.lt
  have eb7 := B121.out.1.cell (k := 1) rfl
  have lb7 := B121.out.1.lt
  have eb8 := B122.out.1.cell (k := 0) rfl
  have lb8 := B122.out.1.lt
  have eb9 := B114.out.1.cell (k := 2) rfl
  have lb9 := B114.out.1.lt
  have oP : Only [] v9 (v9.alloc (.cells #[.int .i64 1, .string ⟨#[120]⟩, .string ⟨#[]⟩, .string ⟨#[]⟩, .bool false] 101)) := (Only.refl _ _).alloc _
  have CP : Hid (Calls Tryz.prog 25 #[.slice PA 1 pc, .slice (some ⟨v9.heap.size, 0, none⟩) 1 1] (v9.alloc (.cells #[.int .i64 1, .string ⟨#[120]⟩, .string ⟨#[]⟩, .string ⟨#[]⟩, .bool false] 101)) fun e w' => e = .returned (.bool true) ∧ Only [] (v9.alloc (.cells #[.int .i64 1, .string ⟨#[120]⟩, .string ⟨#[]⟩, .string ⟨#[]⟩, .bool false] 101)) w') := Lib.hid (posts19 _ _ [⟨1, iX, false⟩] _ (HQ9.out.only oP).ps (SlAt.cells (n := 1) (sz := 5) (Cells.new v9 _ [.int .i64 1, .string ⟨#[120]⟩, .string ⟨#[]⟩, .string ⟨#[]⟩, .bool false]) rfl (by unfold maxLen; omega)) (by decide))
  have HF : Hid (Only [] w (v9.alloc (.cells #[.int .i64 1, .string ⟨#[120]⟩, .string ⟨#[]⟩, .string ⟨#[]⟩, .bool false] 101))) := Lib.hid (H9.out.ho.tr oP)
  clear oP
  go_wp2_with fail
  refine CP.out.mono ?_
  rintro e wz ⟨rfl, hoz⟩
  go_wp2_with fail
  go_ret
  exact ⟨rfl, HF.out.tr hoz⟩
end Go.Proofs.YtcjfmildalappaaGreat
namespace Go.Proofs.YtcjfmildalappaaGreat
open Go.RowKit
def agB (a : AgS) : List UInt8 := tsb [S15.packL a.t.l a.t.ever, a.d.bytes, stB a.s]
theorem St.sorted {w : World} {b : Nat} {O : List Nat} {S : Sv} (h : St w b O S) : S.Pairwise (fun a b => a.1 < b.1) ∧ S.length ≤ 20 ∧ ∀ x ∈ S, nmL x.1 = true := by
  obtain ⟨mb, T, h, rfl, rfl⟩ := h
  refine ⟨List.pairwise_map.2 h.srt, by rw [List.length_map]; exact h.cap, fun x hx => ?_⟩
  obtain ⟨t, ht, rfl⟩ := List.mem_map.1 hx
  exact h.nml t ht
theorem AgAt.sj {w : World} {p : Nat} {K : List Nat} {a : AgS} {n : Nat} (h : AgAt w p K a) (hI : AgI n a) : SvJ a.s := by
  obtain ⟨tb, tv, lb, sb, O, B, h, rfl⟩ := h
  obtain ⟨h1, h2, h3⟩ := h.s.sorted
  exact SvJ.of hI.si hI.sz h1 h2 h3
theorem AgI.fit {n : Nat} {a : AgS} (h : AgI n a) (hn : n ≤ 1000000000) : Wide64 a.t.ever ∧ a.t.l.length ≤ 8 ∧ (∀ x ∈ a.t.l, x.Fit) := by
  have h1 := h.ok.ever
  have h2 := h.ever
  exact ⟨⟨by omega, by omega⟩, h.ok.len, S15.g_fit h.ok h.g (by omega)⟩
theorem packL_le {n : Nat} {a : AgS} (h : AgI n a) (hn : n ≤ 1000000000) : (S15.packL a.t.l a.t.ever).length ≤ 900000 := by
  obtain ⟨h1, h2, h3⟩ := h.fit hn
  have i1 := (ib_length a.t.ever h1).2
  have i2 := (ib_length (a.t.l.length : Int) ⟨by omega, by omega⟩).2
  have key : ∀ l : List S15.Ses, (∀ s ∈ l, s.Fit ∧ S15.SesG s) → (S15.sesB l).length ≤ 100040 * l.length := by
    intro l
    induction l with
    | nil => intro _; simp [S15.sesB]
    | cons x l ih =>
      intro hl
      obtain ⟨hx, hg⟩ := hl x (by simp)
      have j1 := (ib_length x.id hx.id).2
      have j2 := (ib_length x.seq hx.seq).2
      have hs := hg.size
      have e : x.reply.data.toList.length = x.reply.size := by rw [Array.length_toList]; rfl
      have hm : 100040 * (l.length + 1) = 100040 * l.length + 100040 := by omega
      have j3 := (tb_length x.reply.data.toList (by omega)).2
      have hih := ih (fun y hy => hl y (by simp [hy]))
      have hb : x.bytes.length ≤ 100040 := by
        unfold S15.Ses.bytes
        simp only [List.length_append]
        omega
      unfold S15.sesB at hih ⊢
      rw [List.flatMap_cons, List.length_append, List.length_cons]
      omega
  have h4 := key a.t.l (fun s hs => ⟨h3 s hs, h.g s hs⟩)
  unfold S15.packL
  simp only [List.length_append]
  omega
theorem dbytes_le {n : Nat} {a : AgS} (h : AgI n a) (hn : n ≤ 1000000000) : a.d.bytes.length ≤ 1000 := by
  have hf := h.d.fit (by omega)
  have h8 := h.d.up.len
  have i1 := (ib_length a.d.now hf.now).2
  have key : ∀ l : List L16.Ls, (∀ x ∈ l, x ∈ a.d.l) → (L16.lsB l).length ≤ 30 * l.length := by
    intro l
    induction l with
    | nil => intro _; simp [L16.lsB]
    | cons x l ih =>
      intro hl
      have hx := hl x (by simp)
      have j := L16.Ls.bytes_length (hf.node x hx) (hf.epoch x hx) (hf.till x hx)
      have := ih (fun y hy => hl y (by simp [hy]))
      unfold L16.lsB at this ⊢
      rw [List.flatMap_cons, List.length_append, List.length_cons]
      omega
  have := key a.d.l (fun x hx => hx)
  unfold L16.Tb.bytes
  rw [List.length_append]
  omega
theorem stB_le {S : Sv} (h : SvJ S) : (stB S).length ≤ 4000000 := by
  have key : ∀ x ∈ S, (fdB x).length ≤ 130000 := fun x hx => by
    have hj := (h.all x hx).1
    have hn := (h.all x hx).2
    have h1 := fdH_le x (by have := (nmL_len hn).2; omega) hj.i.sh
    have h2 := flat_le spB 631 x.2.ps (fun p hp => by
      have hs := itR_sh (hj.i.its p hp)
      have t1 := tb_top p.it.id 200 hs.id (by omega)
      have t2 := tb_top p.it.ti 200 hs.ti (by omega)
      have t3 := tb_top p.it.li 200 hs.li (by omega)
      have hb : (bb p.rd).length = 1 := rfl
      unfold spB itT
      simp only [List.length_append]
      omega)
    have h3 := hj.i.ps.n
    have h4 : 631 * x.2.ps.length ≤ 631 * 200 := Nat.mul_le_mul_left _ h3
    unfold fdB psB
    rw [List.length_append]
    omega
  have h1 := flat_le fdB 130000 S key
  have h2 := h.n
  have i := (ib_length (S.length : Int) ⟨by omega, by omega⟩).2
  unfold stB fsB
  rw [List.length_append]
  omega
theorem agB_le {n : Nat} {a : AgS} (h : AgI n a) (hn : n ≤ 1000000000) (hj : SvJ a.s) : (agB a).length ≤ 5000000 := by
  have h1 := packL_le h hn
  have h2 := dbytes_le h hn
  have h3 := stB_le hj
  have t1 := (tb_length (S15.packL a.t.l a.t.ever) (by omega)).2
  have t2 := (tb_length a.d.bytes (by omega)).2
  have t3 := (tb_length (stB a.s) (by omega)).2
  unfold agB tsb
  simp only [List.flatMap_cons, List.flatMap_nil, List.length_append, List.length_nil]
  omega
set_option maxRecDepth 100000 in
set_option maxHeartbeats 1000000 in
theorem ag_save (p : Nat) (K : List Nat) (a : AgS) (n : Nat) (hn : n ≤ 1000000000) (w : World) (h : AgAt w p K a) (hI : AgI n a) :
    Calls Tryz.prog 28 #[.pointer (some ⟨p, 0, none⟩)] w fun e w' => e = .returned (.string ⟨(agB a).toArray⟩) ∧ Only [] w w' := by
  have hle := agB_le hI hn (h.sj hI)
  obtain ⟨f1, f2, f3⟩ := hI.fit hn
  have f4 := hI.d.fit (n := n) (by omega)
  have f5 := hI.d.up.len
  obtain ⟨tb, tv, lb, sb, O, B, hX, rfl⟩ := h
  have q0 := hX.cells.cell (k := 0) rfl
  have q1 := hX.cells.cell (k := 1) rfl
  have q2 := hX.cells.cell (k := 2) rfl
  have hpl := hX.cells.lt
  have CT := Lib.hid (fun v : Since w => S15.tbs_pack B tb a.t.l a.t.ever v.w (hX.keep v.2 (by simp)).t.s (by omega) f1 f3)
  have CL := Lib.hid (fun v : Since w => L16.lease_pack lb a.d v.w (hX.d.only v.2 (by simp)) f5 f4)
  have CS := Lib.hid (fun v : Since w => st_pack sb O a.s v.w (hX.s.keep v.2 (by simp)) hI.si.sh)
  have HB := Lib.hid hle
  obtain ⟨X, hX0⟩ : ∃ X, S15.packL a.t.l a.t.ever = X := ⟨_, rfl⟩
  obtain ⟨Y, hY0⟩ : ∃ X, a.d.bytes = X := ⟨_, rfl⟩
  obtain ⟨Z, hZ0⟩ : ∃ X, stB a.s = X := ⟨_, rfl⟩
  have hag : agB a = tsb [X, Y, Z] := by unfold agB; rw [hX0, hY0, hZ0]
  rw [hX0] at CT
  rw [hY0] at CL
  rw [hZ0] at CS
  rw [hag] at HB
  have HAG := Lib.hid hag
  have v0 := fun u : Since w => u.cell q0
  have v1 := fun u : Since w => u.cell q1
  have v2 := fun u : Since w => u.cell q2
  clear hle f1 f2 f3 f4 f5 hX0 hY0 hZ0 hag q0 q1 q2 hX hI hn
  go_enter Tryz.func28, Tryz.ntmps28
  go_upto_region 1 with fail
  refine wp_region_only_tail w (Only.refl _ _) 15 (by kernel_rfl) (by kernel_rfl) ?_
  simp only [List.take_succ_cons, List.take_zero, List.drop_succ_cons, List.drop_zero]
  repeat (go_big_quiet_step (first | (go_at_call 76; refine Calls.only (CT.out _)) | (go_at_call 77; refine Calls.only (CL.out _)) | (go_at_call 78; refine Calls.only (CS.out _))))
  refine wpQuiet_nil ?_
  rintro ⟨w3, ho3⟩
  dsimp only
  have CX := Lib.hid (codec_texts_w [X, Y, Z] (by simp) (by have := HB.out; omega) 3 rfl (w3.alloc (.cells #[.string ⟨X.toArray⟩, .string ⟨Y.toArray⟩, .string ⟨Z.toArray⟩] 9)) w3.heap.size (Cells.new w3 _ _))
  have HO3 := Lib.hid ((ho3.alloc (.cells #[.string ⟨X.toArray⟩, .string ⟨Y.toArray⟩, .string ⟨Z.toArray⟩] 9)))
  clear v0 v1 v2 CT CL CS ho3
  go_wp2_with fail
  refine CX.out.mono ?_
  rintro e w4 ⟨rfl, ho4⟩
  go_wp2_with fail
  go_ret
  exact ⟨by rw [HAG.out]; rfl, HO3.out.tr ho4⟩
end Go.Proofs.YtcjfmildalappaaGreat
namespace Go.Proofs.YtcjfmildalappaaGreat
open Go.RowKit
def runB (a : AgS) (l : List C19) : AgS := l.foldl (fun a c => (doA a c.c).2) a
theorem runB_step (a : AgS) (l : List C19) (k : Nat) (x : C19) (h : l[k]? = some x) : runB a (l.take (k + 1)) = (doA (runB a (l.take k)) x.c).2 := by
  unfold runB
  rw [List.take_add_one, h, List.foldl_append]; rfl
/-- A reply that is kept while K turns. -/
def Pv (w : World) (K : List Nat) (pv : Value) (r : Rp) : Prop := RpAt w pv r ∧ (0 < r.ps.length → ∀ g, pv.ownBlock = some g → g ∉ K)
theorem RpAt.lt {w : World} {pv : Value} {r : Rp} (h : RpAt w pv r) (h0 : 0 < r.ps.length) {g : Nat} (hg : pv.ownBlock = some g) : g < w.heap.size := by
  obtain ⟨b, o, c, rfl, hb, _⟩ := h.ps.at_ (by omega)
  simp [Value.ownBlock] at hg
  omega
theorem RpAt.past' {S : List Nat} {w w' : World} {pv : Value} {r : Rp} (h : RpAt w pv r) (ho : Only S w w') (hS : 0 < r.ps.length → ∀ g, pv.ownBlock = some g → g ∉ S) : RpAt w' pv r := by
  refine ⟨?_, h.er, h.n, h.sm, h.len⟩
  by_cases h0 : 0 < r.ps.length
  · exact (h.ps.past ho (Nat.le_refl _) (hS h0)).more ho.size
  · obtain ⟨z1, z2, z3, z4, z5, z6, z7⟩ := h.ps
    exact ⟨z1, z2, z3, z4, z5, z6, fun hh => by omega⟩
theorem Pv.does {w w' : World} {K K' : List Nat} {pv : Value} {r : Rp} (h : Pv w K pv r) (ho : Only K w w') (hN : ∀ x ∈ K', x ∈ K ∨ w.heap.size ≤ x) : Pv w' K' pv r :=
  ⟨h.1.past' ho h.2, fun h0 g hg hm => by
    rcases hN g hm with e | e
    · exact h.2 h0 g hg e
    · have := h.1.lt h0 hg; omega⟩
theorem Pv.read {w w' : World} {K : List Nat} {pv : Value} {r : Rp} (h : Pv w K pv r) (ho : Only [] w w') : Pv w' K pv r := ⟨h.1.only ho, h.2⟩
theorem DoW.of {W w w' : World} {p : Nat} {K : List Nat} {n : Nat} {a : AgS} {r : Rp} {e : Ending} (h : DoW W w w' p K n a r e) : ∃ pv K', e = .returned (r.val pv) ∧ Pv w' K' pv r ∧ AgW W w' p K' n a ∧ Only K w w' ∧ (∀ x ∈ K', x ∈ K ∨ w.heap.size ≤ x) ∧ RpK r ∧ ∃ PA pc, pv = .slice PA r.ps.length pc := by
  obtain ⟨pv, K', he, hp, hg, hA, ho, hN, hk⟩ := h
  obtain ⟨PA, pc, rfl⟩ := hp.ps.shape
  exact ⟨_, K', he, ⟨hp, fun h0 g hgg => (hg h0 g hgg).2⟩, hA, ho, hN, hk, PA, pc, rfl⟩
theorem agw_save {W w : World} {p : Nat} {K : List Nat} {n : Nat} {a : AgS} (hn : n ≤ 1000000000) (h : AgW W w p K n a) :
    Calls Tryz.prog 28 #[.pointer (some ⟨p, 0, none⟩)] w fun e w' => e = .returned (.string ⟨(agB a).toArray⟩) ∧ Only [] w w' := ag_save p K a n hn w h.at_ h.i
end Go.Proofs.YtcjfmildalappaaGreat
namespace Go.Proofs.YtcjfmildalappaaGreat
open Go.RowKit
def rdTt (s : List UInt8) : List UInt8 × List UInt8 × Bool := match rdT s with
  | some (a, r) => (a, r, true)
  | none => ([], [], false)
theorem rdTV_t (s : List UInt8) : rdTV (rdT s) = .tuple #[.string ⟨(rdTt s).1.toArray⟩, .string ⟨(rdTt s).2.1.toArray⟩, .bool (rdTt s).2.2] := by
  unfold rdTt
  cases rdT s with
  | none => rfl
  | some p => rfl
/-- The automaton of the bytes, if they are an automaton's. -/
def unAg (s : List UInt8) : Option AgS :=
  if (rdTt s).2.2 = true ∧ (rdTt (rdTt s).2.1).2.2 = true ∧ (rdTt (rdTt (rdTt s).2.1).2.1).2.2 = true ∧ (rdTt (rdTt (rdTt s).2.1).2.1).2.1 = [] then
    (match S15.unS (rdTt s).1, L16.unT (rdTt (rdTt s).2.1).1, unSt (rdTt (rdTt (rdTt s).2.1).2.1).1 with
     | some p, some q, some r => some ⟨p, q, r⟩
     | _, _, _ => none)
  else none
theorem rdTt_tb (t r : List UInt8) (h : t.length ≤ 1000000000000) : rdTt (tb t ++ r) = (t, r, true) := by
  unfold rdTt
  rw [(S15.rdT_iff _ t r h).2 rfl]
theorem rdTt_le (s : List UInt8) : (rdTt s).1.length ≤ s.length ∧ (rdTt s).2.1.length ≤ s.length := by
  unfold rdTt
  cases h : rdT s with
  | none => simp
  | some p =>
    obtain ⟨a, r⟩ := p
    have := S15.rdT_len h
    dsimp only
    omega
theorem agB_parts (a : AgS) : agB a = tb (S15.packL a.t.l a.t.ever) ++ (tb a.d.bytes ++ (tb (stB a.s) ++ [])) := by
  unfold agB tsb
  simp
theorem unAg_of {n : Nat} {a : AgS} (h : AgI n a) (hn : n ≤ 1000) (hj : SvJ a.s) : unAg (agB a) = some a := by
  have h1 := packL_le h (by omega)
  have h2 := dbytes_le h (by omega)
  have h3 := stB_le hj
  have e1 := rdTt_tb (S15.packL a.t.l a.t.ever) (tb a.d.bytes ++ (tb (stB a.s) ++ [])) (by omega)
  have e2 := rdTt_tb a.d.bytes (tb (stB a.s) ++ []) (by omega)
  have e3 := rdTt_tb (stB a.s) [] (by omega)
  have u1 := S15.unS_pack h.ok h.once h.g (by have := h.ever; omega)
  have u2 := L16.unT_bytes h.d.up.len (h.d.fit (by omega)) (h.d.ok (by omega))
  have u3 := (unSt_iff (stB a.s) a.s (by omega)).2 ⟨hj, rfl⟩
  unfold unAg
  rw [agB_parts, e1]
  dsimp only
  rw [e2]
  dsimp only
  rw [e3]
  dsimp only
  rw [if_pos ⟨rfl, rfl, rfl, rfl⟩, u1, u2, u3]
def UnG (w w' : World) (s : List UInt8) (e : Ending) : Prop := Only [] w w' ∧ match unAg s with
  | none => e = .returned (.tuple #[.pointer none, .bool false])
  | some a => ∃ p K, e = .returned (.tuple #[.pointer (some ⟨p, 0, none⟩), .bool true]) ∧ AgAt w' p K a ∧ ∀ x ∈ K, w.heap.size ≤ x
set_option maxRecDepth 100000 in
set_option maxHeartbeats 4000000 in
theorem ag_load (s : List UInt8) (w : World) (hl : s.length ≤ 100000000) :
    Calls Tryz.prog 40 #[.string ⟨s.toArray⟩] w fun e w' => UnG w w' s e := by
  have l1 := rdTt_le s
  have l2 := rdTt_le (rdTt s).2.1
  have l3 := rdTt_le (rdTt (rdTt s).2.1).2.1
  have C1 := Lib.hid (codec_toText s w (by omega))
  have C2 := Lib.hid (fun w' => codec_toText (rdTt s).2.1 w' (by omega))
  have C3 := Lib.hid (fun w' => codec_toText (rdTt (rdTt s).2.1).2.1 w' (by omega))
  have C4 := Lib.hid (fun w' => S15.ses_unpack (rdTt s).1 w' (by omega))
  have C5 := Lib.hid (fun w' => L16.lease_unpack (rdTt (rdTt s).2.1).1 w' (by omega))
  have C6 := Lib.hid (fun w' => store_unpack (rdTt (rdTt (rdTt s).2.1).2.1).1 (by omega) w')
  have hE : unAg s = if (rdTt s).2.2 = true ∧ (rdTt (rdTt s).2.1).2.2 = true ∧ (rdTt (rdTt (rdTt s).2.1).2.1).2.2 = true ∧ (rdTt (rdTt (rdTt s).2.1).2.1).2.1 = [] then
    (match S15.unS (rdTt s).1, L16.unT (rdTt (rdTt s).2.1).1, unSt (rdTt (rdTt (rdTt s).2.1).2.1).1 with
     | some p, some q, some r => some ⟨p, q, r⟩
     | _, _, _ => none)
    else none := rfl
  rw [rdTV_t] at C1
  simp only [rdTV_t] at C2 C3
  obtain ⟨⟨x, s1, o1⟩, h1⟩ : ∃ u, rdTt s = u := ⟨_, rfl⟩
  rw [h1] at C1 C2 C3 C4 C5 C6 hE
  dsimp only at C1 C2 C3 C4 C5 C6 hE
  obtain ⟨⟨y, s2, o2⟩, h2⟩ : ∃ u, rdTt s1 = u := ⟨_, rfl⟩
  rw [h2] at C2 C3 C5 C6 hE
  dsimp only at C2 C3 C5 C6 hE
  obtain ⟨⟨z, s3, o3⟩, h3⟩ : ∃ u, rdTt s2 = u := ⟨_, rfl⟩
  rw [h3] at C3 C6 hE
  dsimp only at C3 C6 hE
  have HE := Lib.hid hE
  clear h1 h2 h3 hE l1 l2 l3 hl
  go_enter Tryz.func40, Tryz.ntmps40
  go_wp2_with fail
  refine C1.out.mono ?_
  rintro e w1 ⟨rfl, ho1⟩
  have HO1 := Lib.hid ho1
  clear ho1 C1
  go_wp2_with fail
  refine (C2.out _).mono ?_
  rintro e w2 ⟨rfl, ho2⟩
  have HO2 := Lib.hid (HO1.out.tr ho2)
  clear ho2 C2 HO1
  go_wp2_with fail
  refine (C3.out _).mono ?_
  rintro e w3 ⟨rfl, ho3⟩
  have HO3 := Lib.hid (HO2.out.tr ho3)
  clear ho3 C3 HO2
  go_wp2_with fail
  refine (C4.out _).mono ?_
  rintro e w4 ⟨ho4, h4⟩
  obtain ⟨q4, f4, rfl, hf4, ht4⟩ : ∃ (q4 : Value) (f4 : Bool), e = .returned (.tuple #[q4, .bool f4]) ∧ (f4 = false → S15.unS x = none) ∧ (f4 = true → ∃ (t : S15.TS) (b : Nat) (v : Value), S15.unS x = some t ∧ q4 = .pointer (some ⟨b, 0, none⟩) ∧ S15.TbV w4 w3.heap.size b v t.l t.ever) := by
    rcases h4 with ⟨h, rfl⟩ | ⟨t, b, v, h, rfl, ht⟩
    · exact ⟨_, _, rfl, fun _ => h, fun h => by cases h⟩
    · exact ⟨_, _, rfl, fun h => (by cases h), fun _ => ⟨t, b, v, h, rfl, ht⟩⟩
  have HO4 := Lib.hid (HO3.out.tr ho4)
  have F4 := Lib.hid hf4
  have T4 := Lib.hid ht4
  have S4 := Lib.hid ho4.size
  clear ho4 h4 hf4 ht4 C4
  go_wp2_with fail
  refine (C5.out _).mono ?_
  rintro e w5 ⟨ho5, h5⟩
  obtain ⟨q5, f5, rfl, hf5, ht5⟩ : ∃ (q5 : Value) (f5 : Bool), e = .returned (.tuple #[q5, .bool f5]) ∧ (f5 = false → L16.unT y = none) ∧ (f5 = true → ∃ (t : L16.Tb) (b : Nat), L16.unT y = some t ∧ q5 = .pointer (some ⟨b, 0, none⟩) ∧ L16.TbC w5 w4.heap.size b t) := by
    rcases h5 with ⟨h, rfl⟩ | ⟨t, b, h, rfl, ht⟩
    · exact ⟨_, _, rfl, fun _ => h, fun h => by cases h⟩
    · exact ⟨_, _, rfl, fun h => (by cases h), fun _ => ⟨t, b, h, rfl, ht⟩⟩
  have HO5 := Lib.hid (HO4.out.tr ho5)
  have F5 := Lib.hid hf5
  have T5 := Lib.hid ht5
  have O5 := Lib.hid ho5
  clear ho5 h5 hf5 ht5 C5
  go_wp2_with fail
  refine (C6.out _).mono ?_
  rintro e w6 ⟨ho6, h6⟩
  obtain ⟨q6, f6, rfl, hf6, ht6⟩ : ∃ (q6 : Value) (f6 : Bool), e = .returned (.tuple #[q6, .bool f6]) ∧ (f6 = false → unSt z = none) ∧ (f6 = true → ∃ (S : Sv) (b : Nat) (O : List Nat), unSt z = some S ∧ q6 = .pointer (some ⟨b, 0, none⟩) ∧ St w6 b O S ∧ ∀ x ∈ O, w5.heap.size ≤ x) := by
    cases hu : unSt z with
    | none =>
      rw [hu] at h6
      exact ⟨_, _, h6, fun _ => rfl, fun h => by cases h⟩
    | some S =>
      rw [hu] at h6
      obtain ⟨b, O, he, hs, hn⟩ := h6
      exact ⟨_, _, he, fun h => (by cases h), fun _ => ⟨S, b, O, rfl, rfl, hs, hn⟩⟩
  have HO6 := Lib.hid (HO5.out.tr ho6)
  have F6 := Lib.hid hf6
  have T6 := Lib.hid ht6
  have O6 := Lib.hid ho6
  clear ho6 h6 hf6 ht6 C6
  have HBAD : Hid (unAg s = none → UnG w w6 s (.returned (.tuple #[.pointer none, .bool false]))) := Lib.hid (fun h => by
    refine ⟨HO6.out, ?_⟩
    rw [h])
  cases o1 with
  | false =>
    have HB := Lib.hid (HBAD.out (by rw [HE.out, if_neg (by simp)]))
    clear HBAD HE F4 F5 F6 T4 T5 T6
    go_wp2_with fail
    go_ret2
    exact HB.out
  | true =>
  cases o2 with
  | false =>
    have HB := Lib.hid (HBAD.out (by rw [HE.out, if_neg (by simp)]))
    clear HBAD HE F4 F5 F6 T4 T5 T6
    go_wp2_with fail
    go_ret2
    exact HB.out
  | true =>
  cases o3 with
  | false =>
    have HB := Lib.hid (HBAD.out (by rw [HE.out, if_neg (by simp)]))
    clear HBAD HE F4 F5 F6 T4 T5 T6
    go_wp2_with fail
    go_ret2
    exact HB.out
  | true =>
  cases f4 with
  | false =>
    have HB := Lib.hid (HBAD.out (by rw [HE.out, F4.out rfl]; split <;> rfl))
    clear HBAD HE F4 F5 F6 T4 T5 T6
    go_wp2_with fail
    go_ret2
    exact HB.out
  | true =>
  obtain ⟨t4, b4, v4, u4, rfl, ht4⟩ := T4.out rfl
  cases f5 with
  | false =>
    have HB := Lib.hid (HBAD.out (by rw [HE.out, F5.out rfl, u4]; split <;> rfl))
    clear HBAD HE F4 F5 F6 T4 T5 T6 u4 ht4
    go_wp2_with fail
    go_ret2
    exact HB.out
  | true =>
  obtain ⟨t5, b5, u5, rfl, ht5⟩ := T5.out rfl
  cases f6 with
  | false =>
    have HB := Lib.hid (HBAD.out (by rw [HE.out, F6.out rfl, u4, u5]; split <;> rfl))
    clear HBAD HE F4 F5 F6 T4 T5 T6 u4 ht4 u5 ht5
    go_wp2_with fail
    go_ret2
    exact HB.out
  | true =>
  obtain ⟨t6, b6, OO, u6, rfl, ht6, hn6⟩ := T6.out rfl
  cases s3 with
  | cons c s3 =>
    have HB := Lib.hid (HBAD.out (by rw [HE.out, if_neg (by simp)]))
    have hne : (⟨(c :: s3).toArray⟩ : ByteArray) ≠ ⟨#[]⟩ := fun h => by
      have := congrArg (fun b : ByteArray => b.data.toList) h
      simp at this
    have hnb : ((c :: s3) != ([] : List UInt8)) = true := by simp
    clear HBAD HE F4 F5 F6 T4 T5 T6 u4 ht4 u5 ht5 u6 ht6 hn6
    go_wp2_with fail
    go_ret2
    exact HB.out
  | nil =>
  have hun : unAg s = some ⟨t4, t5, t6⟩ := by rw [HE.out, if_pos ⟨rfl, rfl, rfl, rfl⟩, u4, u5, u6]
  have HF : Hid (∀ p, Cells (w6.alloc (.cells #[.pointer (some ⟨b4, 0, none⟩), .pointer (some ⟨b5, 0, none⟩), .pointer (some ⟨b6, 0, none⟩)] 109)) p 109 [.pointer (some ⟨b4, 0, none⟩), .pointer (some ⟨b5, 0, none⟩), .pointer (some ⟨b6, 0, none⟩)] → p = w6.heap.size → UnG w (w6.alloc (.cells #[.pointer (some ⟨b4, 0, none⟩), .pointer (some ⟨b5, 0, none⟩), .pointer (some ⟨b6, 0, none⟩)] 109)) s (.returned (.tuple #[.pointer (some ⟨p, 0, none⟩), .bool true]))) := Lib.hid (fun p hp he => by
    have oA : Only [] w6 (w6.alloc (.cells #[.pointer (some ⟨b4, 0, none⟩), .pointer (some ⟨b5, 0, none⟩), .pointer (some ⟨b6, 0, none⟩)] 109)) := (Only.refl _ _).alloc _
    have oB := O6.out.tr oA
    have oC := O5.out.tr oB
    have g3 := HO3.out.size
    have g4 := S4.out
    have g5 := O5.out.size
    have g6 := O6.out.size
    have hb6 := ht6.bw
    have k4 := ht4.2.1.lt
    have k5 := ht5.2.lt
    have r4 := S15.own_ge ht4
    refine ⟨HO6.out.tr oA, ?_⟩
    rw [hun]
    refine ⟨p, allA p b4 v4 b5 OO, rfl, ⟨b4, v4, b5, b6, OO, w3.heap.size, ⟨hp, ⟨ht4.1, ht4.2.1.only oC (by simp), own_keep ht4.2.2 oC (by simp)⟩, ht5.2.only oB (by simp), ht6.keep oA (by simp), ?_, ?_, ?_, ?_⟩, rfl⟩, ?_⟩
    · intro hm; have := hb6 p hm; omega
    · intro hm; have := hn6 b4 hm; omega
    · intro hm; have := hn6 b5 hm; omega
    · intro g hg hm
      have := hn6 g hm
      have := (ht4.2.2.lt g hg).2
      omega
    · intro x hx
      unfold allA at hx
      simp only [List.mem_cons, List.mem_append] at hx
      have := ht5.1
      rcases hx with rfl | rfl | rfl | hx | hx
      · omega
      · have := r4 _ (List.mem_cons_self); omega
      · omega
      · have := r4 x (List.mem_cons_of_mem _ hx); omega
      · have := hn6 x hx; omega)
  clear HBAD HE F4 F5 F6 T4 T5 T6 u4 ht4 u5 ht5 u6 ht6 hn6 hun S4 O5 O6 HO3 HO4 HO5
  go_wp2_with fail
  go_ret2
  exact HF.out _ (Cells.new w6 _ _) rfl
end Go.Proofs.YtcjfmildalappaaGreat
