/-
  Contracts; each theorem bears its own conditions.
-/
import Derived.Laws.StructEq
import Derived.Deep.RegionHeld3
import Derived.Test.YtcjfmildalappaaGreatK26ab
import Derived.Test.YtcjfmildalappaaGreatK26ad
import Derived.Test.YtcjfmildalappaaGreatK26af
import Derived.Test.YtcjfmildalappaaGreatK26ag
import Derived.Test.YtcjfmildalappaaGreatK26ah
import Derived.Test.YtcjfmildalappaaGreatK26ak
import Derived.Test.YtcjfmildalappaaGreatK26am
import Derived.Test.YtcjfmildalappaaGreatK26ap
import Derived.Test.YtcjfmildalappaaGreatK26ar
import Derived.Test.YtcjfmildalappaaGreatK26as
import Derived.Test.YtcjfmildalappaaGreatK26at
import Derived.Test.YtcjfmildalappaaGreatK26au
import Derived.Test.YtcjfmildalappaaGreatK26av
set_option linter.all false
set_option maxRecDepth 100000
set_option maxHeartbeats 8000000
namespace Go.Proofs.YtcjfmildalappaaGreat
open Go.RowKit
theorem ag_five (p:Nat) (K:List Nat) (a:AgS) (n:Nat) (hn:n ≤ 1000000000) (c:Cm) (iv:Value) (hI:AgI n a) (hfd:c.fd.length ≤ maxLen) (hil:c.its.length ≤ 1000000) (hit:∀ x ∈ c.its,x.Len):
 (c.kd = 1 → ∀ w,AgAt w p K a → Calls Tryz.prog 63 #[.pointer (some ⟨p,0,none⟩),c.val iv] w fun e w' => ReO w w' p K (othA a c).1 (othA a c).2 e) ∧
 (c.kd ≠ 1 → c.kd = 6 → ∀ w,AgAt w p K a → Calls Tryz.prog 64 #[.pointer (some ⟨p,0,none⟩),c.val iv] w fun e w' => ReO w w' p K (othA a c).1 (othA a c).2 e) ∧
 (c.kd ≠ 1 → c.kd ≠ 6 → c.kd = 7 → ∀ w,AgAt w p K a → Calls Tryz.prog 65 #[.pointer (some ⟨p,0,none⟩),c.val iv] w fun e w' => ReO w w' p K (othA a c).1 (othA a c).2 e) ∧
 (c.kd ≠ 1 → c.kd ≠ 6 → c.kd ≠ 7 → c.kd = 9 → ∀ w,AgAt w p K a → Calls Tryz.prog 66 #[.pointer (some ⟨p,0,none⟩),c.val iv] w fun e w' => ReO w w' p K (othA a c).1 (othA a c).2 e) ∧
 (c.kd ≠ 1 → c.kd ≠ 6 → c.kd ≠ 7 → c.kd ≠ 9 → ∀ w,AgAt w p K a → ItK w K iv c → Calls Tryz.prog 62 #[.pointer (some ⟨p,0,none⟩),c.val iv] w fun e w' => ReO w w' p K (othA a c).1 (othA a c).2 e):=by
 unfold othA
 refine ⟨fun h w hA => ?_,fun h1 h w hA => ?_,fun h1 h6 h w hA => ?_,fun h1 h6 h7 h w hA => ?_,fun h1 h6 h7 h9 w hA hs => ?_⟩
 · rw [if_pos h];exact ag_register p K a n hn c iv w hA hI
 · rw [if_neg h1,if_pos h];exact ag_tick p K a n hn c iv w hA hI
 · rw [if_neg h1,if_neg h6,if_pos h];exact ag_grant p K a n hn c iv w hA hI
 · rw [if_neg h1,if_neg h6,if_neg h7,if_pos h];exact ag_show p K a n hn c iv w hA hI
 · rw [if_neg h1,if_neg h6,if_neg h7,if_neg h9];exact ag_ingest p K a n hn c iv w hA hI hfd hil hit hs
theorem ag_do (p:Nat) (K:List Nat) (a:AgS) (n:Nat) (hn:n ≤ 1000000000) (c:Cm) (iv:Value) (w:World) (h:AgAt w p K a) (hI:AgI n a) (hc:CmAt w iv c) (hil:c.its.length ≤ 1000000) (hsl:ItK w K iv c):
 Calls Tryz.prog 20 #[.pointer (some ⟨p,0,none⟩),c.val iv] w fun e w' => ReO w w' p K (doA a c).1 (doA a c).2 e:=by
 have hFIVE:=ag_five p K a n hn c iv hI hc.fd hil hc.len
 have hCL:=fun w' (hA:AgAt w' p K a) => ag_client p K a n c iv w' hA hI hc.fd hc.id
 have hRT:=fun w' (ho:Only [] w w') => cmd_right c iv w' (hc.only ho)
 have hCC:=fun w' => client_call c iv w'
 obtain ⟨tb,tv,lb,sb,O,B,hX,rfl⟩:=h
 have hE1:rightB c = false → doA a c = (errR 1,a):=fun h => by unfold doA;rw [if_pos h]
 have hE2:rightB c = true → clB c.kd = true → doA a c = clA a c:=doA_cl
 have hE3:rightB c = true → clB c.kd = false → doA a c = othA a c:=fun h h2 => by unfold doA;rw [if_neg (by simp [h]),if_pos h2]
 have HE1:=Hd hE1
 have HE2:=Hd hE2
 have HE3:=Hd hE3
 have HSL:=Hd hsl
 unfold Cm.val at hFIVE hCL hRT hCC ⊢
 have HFIVE:=Hd hFIVE
 have HCL:=Hd hCL
 have HRT:=Hd hRT
 have HCC:=Hd hCC
 clear hI hc hil hsl hFIVE hCL hRT hCC hE1 hE2 hE3 hn
 go_enter Tryz.func20,Tryz.ntmps20
 go_upto_region 1 with fail
 obtain ⟨w1,hw1⟩:∃ u,w.alloc (.cells #[.int .i64 c.kd,.int .i64 c.ss,.int .i64 c.sq,.int .i64 c.sh,.int .i64 c.nd,.int .i64 c.ep,.int .i64 c.n,.string ⟨c.fd.toArray⟩,.string ⟨c.id.toArray⟩,iv,.bool c.fl] 38) = u:=⟨_,rfl⟩
 have hR:w.heap.size + 1 = w1.heap.size:=by rw [← hw1,World.size_alloc]
 obtain ⟨z,hz⟩:∃ z,w.heap.size = z:=⟨_,rfl⟩
 have hcz:Cells w1 z 38 (c.cells iv):=hw1 ▸ hz ▸ Cells.new w _ _
 rw [hw1,hR,hz]
 obtain ⟨w2,hw2⟩:∃ u,w1.alloc (.cells #[.int .i64 0,.int .i64 0,.slice none 0 0] 34) = u:=⟨_,rfl⟩
 obtain ⟨R,hRR⟩:∃ R,w1.heap.size = R:=⟨_,rfl⟩
 have o12:Only [] w1 w2:=hw2 ▸ oz.alloc _
 have o2:Only [] w w2:=Only.tr0 (hw1 ▸ oz.alloc _) o12
 have hcR:Cells w2 R 34 [.int .i64 0,.int .i64 0,.slice none 0 0]:=hw2 ▸ hRR ▸ Cells.new w1 _ _
 rw [hw2,hRR]
 have hwR:w.heap.size ≤ R:=by omega
 have hwz:w.heap.size ≤ z:=by omega
 have hX2:=hX.keep o2 (by simp)
 have hcz2:=hcz.only o12 (by simp)
 have HCZ:=Hd hcz2
 have hpl:=hX2.cells.lt
 have HX:=Hd hX
 have HX2:=Hd hX2
 have HO2:=Hd o2
 have HR:=Hd hcR
 have hRn:Hid (R ∉ allA p tb tv lb O):=Hd (fun hm => by have:=HX.out.lts R hm;omega)
 have hzn:Hid (z ∉ allA p tb tv lb O):=Hd (fun hm => by have:=HX.out.lts z hm;omega)
 obtain ⟨c0,c1,c2,c3,c4,c5,c6,c7,c8,c9,c10⟩:=cm_cells hcz2
 have CR:=Hd (HRT.out w2 o2)
 clear hw1 hw2 hR hRR hz o2 o12 hcR hX hX2 hcz hcz2
 go_wp2_with fail
 refine CR.out.mono ?_
 rintro e w3 ⟨rfl,ho3⟩
 have HX3:=Hd (HX2.out.keep ho3 (by simp))
 have HO3:=Hd (HO2.out.tr ho3)
 have HR3:=Hd (HR.out.only ho3 (by simp))
 have HCZ3:=Hd (HCZ.out.only ho3 (by simp))
 clear c0 c1 c2 c3 c4 c5 c6 c7 c8 c9 c10 ho3 CR HRT HX2 HO2 HR HCZ
 cases hb:rightB c with
 | false =>
  have HE:=Hd (HE1.out hb)
  clear hb HE1 HE2 HE3 HCZ3 hzn HFIVE HCL HCC HSL
  have oR:∀ row,Only [R] w3 (w3.setRow R row):=fun row => oz.setRow (.inl (by simp)) _
  have HFIN:Hid (∀ row,ReO w (w3.setRow R row) p (allA p tb tv lb O) (doA a c).1 (doA a c).2 (.returned (.agg #[.int .i64 1,.int .i64 0,.slice none 0 0]))):=Hd (fun row => HE.out ▸ ReO.nil rfl (wide_lt (by omega) (by omega)) (wide_lt (by omega) (by omega)) ⟨tb,tv,lb,sb,O,B,HX3.out.keep (oR row) (fun k hk hm => by simp at hm;subst hm;exact hRn.out hk),rfl⟩ (HO3.out.of0.trans (oR row) (fun x hx => by simp at hx;subst hx;exact .inr hwR)) (fun x hx => .inl hx))
  have HRF:=Hd HR3.out
  have hst:=HRF.out
  have hone:(#[.int .i64 1,.int .i64 0,.slice none 0 0]:Array Value).all (·.oneCell') = true:=by simp [Value.oneCell']
  clear oR
  go_wp2_with (refine wpList_store_row rfl 34 _ _ rfl R #[.int .i64 1,.int .i64 0,.slice none 0 0] rfl rfl 34 _ hst (by kernel_rfl) rfl hone ?_)
  (try simp only [Exit.inBlock,Exit.then])
  refine bodyPost_ret (v:=.agg #[.int .i64 1,.int .i64 0,.slice none 0 0]) ?_ rfl (HFIN.out _)
  exact results_row Tryz.results20 _ _ R 34 [.int .i64 1,.int .i64 0,.slice none 0 0] _ rfl (Cells.setRow HRF.out [.int .i64 1,.int .i64 0,.slice none 0 0]) Tryz.underlying34 rfl (by kernel_rfl)
 | true =>
  obtain ⟨c0,c1,c2,c3,c4,c5,c6,c7,c8,c9,c10⟩:=cm_cells HCZ3.out
  have CC:=Hd (HCC.out w3)
  have HB:=Hd hb
  clear hb HCC HE1
  go_wp2_with fail
  refine CC.out.mono ?_
  rintro e w4 ⟨rfl,ho4⟩
  have HX4:=Hd (HX3.out.keep ho4 (by simp))
  have HO4:=Hd (HO3.out.tr ho4)
  have HR4:=Hd (HR3.out.only ho4 (by simp))
  have HCZ4:=Hd (HCZ3.out.only ho4 (by simp))
  clear c0 c1 c2 c3 c4 c5 c6 c7 c8 c9 c10 ho4 CC HX3 HO3 HR3 HCZ3
  cases hcl:clB c.kd with
  | true =>
   have HE:=Hd (HE2.out HB.out hcl)
   obtain ⟨c0,c1,c2,c3,c4,c5,c6,c7,c8,c9,c10⟩:=cm_cells HCZ4.out
   have CX:=Hd (HCL.out w4 ⟨tb,tv,lb,sb,O,B,HX4.out,rfl⟩)
   rw [← HE.out] at CX
   clear hcl HE2 HE3 HFIVE HCL HSL
   go_wp2_with fail
   refine CX.out.mono ?_
   rintro e w5 ⟨pv,K',rfl,hp5,hn5,hA5,ho5,hN5⟩
   obtain ⟨r,hr⟩:∃ r,(doA a c).1 = r:=⟨_,rfl⟩
   rw [hr] at hp5 hn5 ⊢
   obtain ⟨PA,pc,rfl⟩:=hp5.ps.shape
   have hR5:=HR4.out.only ho5 hRn.out
   have hRs:=HR4.out.lt
   have hRK:R ∉ K':=fun hm => by
    rcases hN5 R hm with e | e
    · exact hRn.out e
    · omega
   have oR:∀ row,Only [R] w5 (w5.setRow R row):=fun row => oz.setRow (.inl (by simp)) _
   have hws:=HO4.out.size
   have hpF:∀ row,RpAt (w5.setRow R row) (.slice PA r.ps.length pc) r:=fun row => by
    refine ⟨?_,hp5.er,hp5.n,hp5.sm,hp5.len⟩
    by_cases h0:0 < r.ps.length
    · exact (hp5.ps.past (oR row) (Nat.le_refl _) (fun g hg hm => by simp at hm;have:=(hn5 h0 g hg).1;omega)).more (oR row).size
    · obtain ⟨z1,z2,z3,z4,z5,z6,z7⟩:=hp5.ps
      exact ⟨z1,z2,z3,z4,z5,z6,fun hh => by omega⟩
   have HFIN:Hid (∀ row,ReO w (w5.setRow R row) p (allA p tb tv lb O) (doA a c).1 (doA a c).2 (.returned (.agg #[.int .i64 r.er,.int .i64 r.n,.slice PA r.ps.length pc]))):=Hd (fun row => by
    rw [hr]
    exact ⟨.slice PA r.ps.length pc,K',rfl,hpF row,fun h0 g hg => ⟨by have:=(hn5 h0 g hg).1;omega,(hn5 h0 g hg).2⟩,hA5.keep (oR row) (fun k hk hm => by simp at hm;subst hm;exact hRK hk),(HO4.out.of0.trans ho5 (fun x hx => .inl hx)).trans (oR row) (fun x hx => by simp at hx;subst hx;exact .inr hwR),fun x hx => (hN5 x hx).imp id (fun h => by omega)⟩)
   have HRF:=Hd hR5
   have hst:=HRF.out
   have hone:(#[.int .i64 r.er,.int .i64 r.n,.slice PA r.ps.length pc]:Array Value).all (·.oneCell') = true:=by simp [Value.oneCell']
   clear hp5 hn5 hA5 ho5 hN5 hR5 hRs hRK oR hws hpF CX hr c0 c1 c2 c3 c4 c5 c6 c7 c8 c9 c10
   go_wp2_with (refine wpList_store_row rfl 34 _ _ rfl R #[.int .i64 r.er,.int .i64 r.n,.slice PA r.ps.length pc] rfl rfl 34 _ hst (by kernel_rfl) rfl hone ?_)
   (try simp only [Exit.inBlock,Exit.then])
   refine bodyPost_ret (v:=.agg #[.int .i64 r.er,.int .i64 r.n,.slice PA r.ps.length pc]) ?_ rfl (HFIN.out _)
   exact results_row Tryz.results20 _ _ R 34 [.int .i64 r.er,.int .i64 r.n,.slice PA r.ps.length pc] _ rfl (Cells.setRow HRF.out [.int .i64 r.er,.int .i64 r.n,.slice PA r.ps.length pc]) Tryz.underlying34 rfl (by kernel_rfl)
  | false =>
   have HE:=Hd (HE3.out HB.out hcl)
   obtain ⟨c0,c1,c2,c3,c4,c5,c6,c7,c8,c9,c10⟩:=cm_cells HCZ4.out
   clear hcl HE2 HE3 HCL c1 c2 c3 c4 c5 c6 c7 c8 c9 c10
   rw [← HE.out] at HFIVE
   go_upto_block 1 with fail
   go_cut [5] (fun x wx => ∃ fd,x = .func (.func fd) #[] #[] ∧ (∀ (ys:Array Value) (w':World),(callFunc fd ys).run Tryz.prog w' = .ok (.enter fd ys) w') ∧ Hid (Only [] w4 wx ∧ ∀ w',AgAt w' p (allA p tb tv lb O) a → ItK w' (allA p tb tv lb O) iv c → Calls Tryz.prog fd #[.pointer (some ⟨p,0,none⟩),.agg #[.int .i64 c.kd,.int .i64 c.ss,.int .i64 c.sq,.int .i64 c.sh,.int .i64 c.nd,.int .i64 c.ep,.int .i64 c.n,.string ⟨c.fd.toArray⟩,.string ⟨c.id.toArray⟩,iv,.bool c.fl]] w' fun e w'' => ReO w' w'' p (allA p tb tv lb O) (doA a c).1 (doA a c).2 e))
   case first =>
    by_cases k1:c.kd = 1
    · have HF:=Hd (HFIVE.out.1 k1)
      have t1:(c.kd == 1) = true:=by simpa using k1
      clear k1 HFIVE
      go_wp2_with fail
      go_meet
      exact ⟨_,rfl,fun _ _ => rfl,Hd ⟨Only.refl _ _,fun w' h1 _ => HF.out w' h1⟩⟩
    by_cases k6:c.kd = 6
    · have HF:=Hd (HFIVE.out.2.1 k1 k6)
      have t1:(c.kd == 1) = false:=by simpa using k1
      have t6:(c.kd == 6) = true:=by simpa using k6
      clear k1 k6 HFIVE
      go_wp2_with fail
      go_meet
      exact ⟨_,rfl,fun _ _ => rfl,Hd ⟨Only.refl _ _,fun w' h1 _ => HF.out w' h1⟩⟩
    by_cases k7:c.kd = 7
    · have HF:=Hd (HFIVE.out.2.2.1 k1 k6 k7)
      have t1:(c.kd == 1) = false:=by simpa using k1
      have t6:(c.kd == 6) = false:=by simpa using k6
      have t7:(c.kd == 7) = true:=by simpa using k7
      clear k1 k6 k7 HFIVE
      go_wp2_with fail
      go_meet
      exact ⟨_,rfl,fun _ _ => rfl,Hd ⟨Only.refl _ _,fun w' h1 _ => HF.out w' h1⟩⟩
    by_cases k9:c.kd = 9
    · have HF:=Hd (HFIVE.out.2.2.2.1 k1 k6 k7 k9)
      have t1:(c.kd == 1) = false:=by simpa using k1
      have t6:(c.kd == 6) = false:=by simpa using k6
      have t7:(c.kd == 7) = false:=by simpa using k7
      have t9:(c.kd == 9) = true:=by simpa using k9
      clear k1 k6 k7 k9 HFIVE
      go_wp2_with fail
      go_meet
      exact ⟨_,rfl,fun _ _ => rfl,Hd ⟨Only.refl _ _,fun w' h1 _ => HF.out w' h1⟩⟩
    have HF:=Hd (HFIVE.out.2.2.2.2 k1 k6 k7 k9)
    have t1:(c.kd == 1) = false:=by simpa using k1
    have t6:(c.kd == 6) = false:=by simpa using k6
    have t7:(c.kd == 7) = false:=by simpa using k7
    have t9:(c.kd == 9) = false:=by simpa using k9
    clear k1 k6 k7 k9 HFIVE
    go_wp2_with fail
    go_meet
    exact ⟨_,rfl,fun _ _ => rfl,Hd ⟨Only.refl _ _,HF.out⟩⟩
   case rest =>
   obtain ⟨fd,rfl,hcf,HW⟩:=hcut
   obtain ⟨wa,hwa⟩:∃ u,u = wc:=⟨wc,rfl⟩
   subst hwa
   obtain ⟨c0,c1,c2,c3,c4,c5,c6,c7,c8,c9,c10⟩:=cm_cells (HCZ4.out.only HW.out.1 (by simp))
   have CX:=Hd (HW.out.2 wa ⟨tb,tv,lb,sb,O,B,HX4.out.keep HW.out.1 (by simp),rfl⟩ (HSL.out.only ((HO4.out.tr HW.out.1).of0)))
   have HO4b:=Hd (HO4.out.tr HW.out.1)
   have HR4b:=Hd (HR4.out.only HW.out.1 (by simp))
   clear HO4 HR4 HX4 HCZ4 HFIVE HSL
   go_wp2_with fail
   refine CX.out.mono ?_
   rintro e w5 ⟨pv,K',rfl,hp5,hn5,hA5,ho5,hN5⟩
   obtain ⟨r,hr⟩:∃ r,(doA a c).1 = r:=⟨_,rfl⟩
   rw [hr] at hp5 hn5 ⊢
   obtain ⟨PA,pc,rfl⟩:=hp5.ps.shape
   have hR5:=HR4b.out.only ho5 hRn.out
   have hRs:=HR4b.out.lt
   have hRK:R ∉ K':=fun hm => by
    rcases hN5 R hm with e | e
    · exact hRn.out e
    · omega
   have oR:∀ row,Only [R] w5 (w5.setRow R row):=fun row => oz.setRow (.inl (by simp)) _
   have hws:=HO4b.out.size
   have hpF:∀ row,RpAt (w5.setRow R row) (.slice PA r.ps.length pc) r:=fun row => by
    refine ⟨?_,hp5.er,hp5.n,hp5.sm,hp5.len⟩
    by_cases h0:0 < r.ps.length
    · exact (hp5.ps.past (oR row) (Nat.le_refl _) (fun g hg hm => by simp at hm;have:=(hn5 h0 g hg).1;omega)).more (oR row).size
    · obtain ⟨z1,z2,z3,z4,z5,z6,z7⟩:=hp5.ps
      exact ⟨z1,z2,z3,z4,z5,z6,fun hh => by omega⟩
   have HFIN:Hid (∀ row,ReO w (w5.setRow R row) p (allA p tb tv lb O) (doA a c).1 (doA a c).2 (.returned (.agg #[.int .i64 r.er,.int .i64 r.n,.slice PA r.ps.length pc]))):=Hd (fun row => by
    rw [hr]
    exact ⟨.slice PA r.ps.length pc,K',rfl,hpF row,fun h0 g hg => ⟨by have:=(hn5 h0 g hg).1;omega,(hn5 h0 g hg).2⟩,hA5.keep (oR row) (fun k hk hm => by simp at hm;subst hm;exact hRK hk),(HO4b.out.of0.trans ho5 (fun x hx => .inl hx)).trans (oR row) (fun x hx => by simp at hx;subst hx;exact .inr hwR),fun x hx => (hN5 x hx).imp id (fun h => by omega)⟩)
   have HRF:=Hd hR5
   have hst:=HRF.out
   have hone:(#[.int .i64 r.er,.int .i64 r.n,.slice PA r.ps.length pc]:Array Value).all (·.oneCell') = true:=by simp [Value.oneCell']
   clear hp5 hn5 hA5 ho5 hN5 hR5 hRs hRK oR hws hpF CX hr c0 c1 c2 c3 c4 c5 c6 c7 c8 c9 c10
   go_wp2_with (refine wpList_store_row rfl 34 _ _ rfl R #[.int .i64 r.er,.int .i64 r.n,.slice PA r.ps.length pc] rfl rfl 34 _ hst (by kernel_rfl) rfl hone ?_)
   (try simp only [Exit.inBlock,Exit.then])
   refine bodyPost_ret (v:=.agg #[.int .i64 r.er,.int .i64 r.n,.slice PA r.ps.length pc]) ?_ rfl (HFIN.out _)
   exact results_row Tryz.results20 _ _ R 34 [.int .i64 r.er,.int .i64 r.n,.slice PA r.ps.length pc] _ rfl (Cells.setRow HRF.out [.int .i64 r.er,.int .i64 r.n,.slice PA r.ps.length pc]) Tryz.underlying34 rfl (by kernel_rfl)
end Go.Proofs.YtcjfmildalappaaGreat
namespace Go.Proofs.YtcjfmildalappaaGreat
open Go.RowKit Go.ChangeShapes Go.WideShapes Go.Deep
structure C19 where
 c:Cm
 iv:Value
def cmL (l:List C19):List Value:=l.flatMap fun a => a.c.cells a.iv
theorem cmL_get (l:List C19) (i j:Nat) (x:C19) (h:l[i]? = some x) (hj:j < 11):(cmL l)[i * 11 + j]? = (x.c.cells x.iv)[j]?:=flat_get (fun a:C19 => a.c.cells a.iv) 11 (fun _ => rfl) l i j x h hj
theorem cmL_at {w:World} {B:Nat} {v:Value} {l:List C19} (h:SlAt w B v 11 l.length (cmL l)) {k:Nat} {a:C19} (hk:l[k]? = some a):
 ∃ b o c,v = .slice (some ⟨b,o,none⟩) l.length c ∧ w.cell? ⟨b,o + k * 11,none⟩ = some (.int .i64 a.c.kd) ∧ w.cell? ⟨b,o + k * 11 + 1,none⟩ = some (.int .i64 a.c.ss) ∧ w.cell? ⟨b,o + k * 11 + 2,none⟩ = some (.int .i64 a.c.sq) ∧ w.cell? ⟨b,o + k * 11 + 3,none⟩ = some (.int .i64 a.c.sh) ∧ w.cell? ⟨b,o + k * 11 + 4,none⟩ = some (.int .i64 a.c.nd) ∧ w.cell? ⟨b,o + k * 11 + 5,none⟩ = some (.int .i64 a.c.ep) ∧ w.cell? ⟨b,o + k * 11 + 6,none⟩ = some (.int .i64 a.c.n) ∧ w.cell? ⟨b,o + k * 11 + 7,none⟩ = some (.string ⟨a.c.fd.toArray⟩) ∧ w.cell? ⟨b,o + k * 11 + 8,none⟩ = some (.string ⟨a.c.id.toArray⟩) ∧ w.cell? ⟨b,o + k * 11 + 9,none⟩ = some (a.iv) ∧ w.cell? ⟨b,o + k * 11 + 10,none⟩ = some (.bool a.c.fl):=by
 have hlt:k < l.length:=(List.getElem?_eq_some_iff.1 hk).1
 obtain ⟨b,o,c,hv,_,hc⟩:=h.at_ (by omega)
 exact ⟨b,o,c,hv,hc (k * 11 + 0) _ (cmL_get l k 0 a hk (by omega)),hc (k * 11 + 1) _ (cmL_get l k 1 a hk (by omega)),hc (k * 11 + 2) _ (cmL_get l k 2 a hk (by omega)),hc (k * 11 + 3) _ (cmL_get l k 3 a hk (by omega)),hc (k * 11 + 4) _ (cmL_get l k 4 a hk (by omega)),hc (k * 11 + 5) _ (cmL_get l k 5 a hk (by omega)),hc (k * 11 + 6) _ (cmL_get l k 6 a hk (by omega)),hc (k * 11 + 7) _ (cmL_get l k 7 a hk (by omega)),hc (k * 11 + 8) _ (cmL_get l k 8 a hk (by omega)),hc (k * 11 + 9) _ (cmL_get l k 9 a hk (by omega)),hc (k * 11 + 10) _ (cmL_get l k 10 a hk (by omega))⟩
theorem open_cmds {H:Type} {enc:TypeId × Value → H} {w:World} {base:Nat} {spare:Nat → Bool} {held:Bool} {r:Reach} {b0:Nat} {v:Value} {d:DataW H} {p:List MemPlace}
 (hv:Value.okWide Tryz.prog w r b0 22 v) (h:DataW.Trod enc Tryz.prog w base spare held 22 v d p):
 ∃ l:List C19,SlAt w w.heap.size v 11 l.length (cmL l) ∧ ∀ a ∈ l,CmAt w a.iv a.c:=by
 obtain ⟨n,xs,hs,hx⟩:=open_structs Tryz.underlying22 Tryz.underlying38 (by kernel_rfl) (by kernel_rfl) hv h
 obtain ⟨l,hl,rfl,hg⟩:=flat_of (fun a:C19 => a.c.cells a.iv) 11 (fun _ => rfl) (fun a => CmAt w a.iv a.c) n xs hs.1 fun i hi => by
  obtain ⟨u0,y0,m0,e0,h0⟩:=hx i hi 0 _ rfl
  obtain ⟨u1,y1,m1,e1,h1⟩:=hx i hi 1 _ rfl
  obtain ⟨u2,y2,m2,e2,h2⟩:=hx i hi 2 _ rfl
  obtain ⟨u3,y3,m3,e3,h3⟩:=hx i hi 3 _ rfl
  obtain ⟨u4,y4,m4,e4,h4⟩:=hx i hi 4 _ rfl
  obtain ⟨u5,y5,m5,e5,h5⟩:=hx i hi 5 _ rfl
  obtain ⟨u6,y6,m6,e6,h6⟩:=hx i hi 6 _ rfl
  obtain ⟨u7,y7,m7,e7,h7⟩:=hx i hi 7 _ rfl
  obtain ⟨u8,y8,m8,e8,h8⟩:=hx i hi 8 _ rfl
  obtain ⟨u9,y9,m9,e9,h9⟩:=hx i hi 9 _ rfl
  obtain ⟨u10,y10,m10,e10,h10⟩:=hx i hi 10 _ rfl
  obtain ⟨z0,q0,_,w0⟩:=DataW.trod_int Tryz.underlying3 h0
  obtain ⟨z1,q1,_,w1⟩:=DataW.trod_int Tryz.underlying3 h1
  obtain ⟨z2,q2,_,w2⟩:=DataW.trod_int Tryz.underlying3 h2
  obtain ⟨z3,q3,_,w3⟩:=DataW.trod_int Tryz.underlying3 h3
  obtain ⟨z4,q4,_,w4⟩:=DataW.trod_int Tryz.underlying3 h4
  obtain ⟨z5,q5,_,w5⟩:=DataW.trod_int Tryz.underlying3 h5
  obtain ⟨z6,q6,_,w6⟩:=DataW.trod_int Tryz.underlying3 h6
  obtain ⟨z7,q7,_,w7⟩:=DataW.trod_string Tryz.underlying9 h7
  obtain ⟨z8,q8,_,w8⟩:=DataW.trod_string Tryz.underlying9 h8
  obtain ⟨its,hi1,hi2⟩:=open_items_in h9
  obtain ⟨z10,q10,_⟩:=DataW.trod_bool Tryz.underlying4 h10
  simp at q0 q1 q2 q3 q4 q5 q6 q7 q8 q10
  subst q0;subst q1;subst q2;subst q3;subst q4;subst q5;subst q6;subst q7;subst q8;subst q10
  refine ⟨⟨⟨z0,z1,z2,z3,z4,z5,z6,z7.data.toList,z8.data.toList,its,z10⟩,u9⟩,⟨hi1,hi2,by rw [ba_len];exact w7,by rw [ba_len];exact w8,?_⟩,fun j hj => ?_⟩
  · intro x hx
    simp only [List.mem_cons,List.not_mem_nil,or_false] at hx
    rcases hx with rfl | rfl | rfl | rfl | rfl | rfl | rfl
    · exact wide64_of_wf w0
    · exact wide64_of_wf w1
    · exact wide64_of_wf w2
    · exact wide64_of_wf w3
    · exact wide64_of_wf w4
    · exact wide64_of_wf w5
    · exact wide64_of_wf w6
  · match j,hj with
    | 0,_ => exact e0
    | 1,_ => exact e1
    | 2,_ => exact e2
    | 3,_ => exact e3
    | 4,_ => exact e4
    | 5,_ => exact e5
    | 6,_ => exact e6
    | 7,_ => simpa [Cm.cells] using e7
    | 8,_ => simpa [Cm.cells] using e8
    | 9,_ => exact e9
    | 10,_ => exact e10
 subst hl
 exact ⟨l,hs,hg⟩
structure SmI (x:It):Prop where
 id:x.id.length ≤ 300
 ti:x.ti.length ≤ 300
 li:x.li.length ≤ 300
structure SmC (a:Cm):Prop where
 fd:a.fd.length ≤ 300
 id:a.id.length ≤ 300
 n:a.its.length ≤ 30
 its:∀ x ∈ a.its,SmI x
structure Sm19 (l:List C19):Prop where
 n:l.length ≤ 80
 al:∀ a ∈ l,SmC a.c
theorem all_snoc {α:Type} {P:α → Prop} {l:List α} {k:Nat} {x:α} (h:l[k]? = some x) (h1:∀ a ∈ l.take k,P a) (hx:P x):∀ a ∈ l.take (k + 1),P a:=by
 intro a ha
 rw [List.take_add_one,h] at ha
 rcases List.mem_append.1 ha with ha | ha
 · exact h1 a ha
 · simp at ha;subst ha;exact hx
def SmR (l:List C19) (w:World) (e:Ending) (w':World):Prop:=∃ bo,e = .returned (.bool bo) ∧ (bo = true → Sm19 l) ∧ Only [] w w'
theorem SmR.no {l:List C19} {w w':World} (ho:Only [] w w'):SmR l w (.returned (.bool false)) w':=⟨false,rfl,fun h => (by cases h),ho⟩
def pkI (c n:Int):Int:=if c < 0 then -(c + 1) % n else c % n
theorem pkI_lt (c n:Int) (hn:0 < n):0 ≤ pkI c n ∧ pkI c n < n:=by
 unfold pkI
 split
 · exact ⟨Int.emod_nonneg _ (by omega),Int.emod_lt_of_pos _ hn⟩
 · exact ⟨Int.emod_nonneg _ (by omega),Int.emod_lt_of_pos _ hn⟩
end Go.Proofs.YtcjfmildalappaaGreat
namespace Go.Proofs.YtcjfmildalappaaGreat
open Go.RowKit
structure AgW (W w:World) (p:Nat) (K:List Nat) (n:Nat) (a:AgS):Prop where
 at_:AgAt w p K a
 ho:Only [] W w
 lo:∀ x ∈ K,W.heap.size ≤ x
 i:AgI n a
theorem AgW.read {W w w':World} {p:Nat} {K:List Nat} {n:Nat} {a:AgS} (h:AgW W w p K n a) (ho:Only [] w w'):AgW W w' p K n a:=⟨h.at_.keep ho (by simp),h.ho.tr ho,h.lo,h.i⟩
theorem AgW.far {W w w':World} {p:Nat} {K X:List Nat} {n:Nat} {a:AgS} (h:AgW W w p K n a) (ho:Only X w w') (hX:∀ x ∈ X,x ∉ K ∧ W.heap.size ≤ x):AgW W w' p K n a:=
 ⟨h.at_.keep ho (fun k hk hm => (hX k hm).1 hk),h.ho.trans ho (fun x hx => .inr (hX x hx).2),h.lo,h.i⟩
def DoW (W w w':World) (p:Nat) (K:List Nat) (n:Nat) (a:AgS) (r:Rp) (e:Ending):Prop:=∃ pv K',e = .returned (r.val pv) ∧ RpAt w' pv r ∧ (0 < r.ps.length → ∀ g,pv.ownBlock = some g → w.heap.size ≤ g ∧ g ∉ K') ∧ AgW W w' p K' n a ∧ Only K w w' ∧ (∀ x ∈ K',x ∈ K ∨ w.heap.size ≤ x) ∧ RpK r
theorem agw_do (p:Nat) (K:List Nat) (a:AgS) (n:Nat) (hn:n ≤ 1000000) (c:Cm) (iv:Value) (W w:World) (h:AgW W w p K n a) (hc:CmAt w iv c) (hil:c.its.length ≤ 1000000) (hs:ItK w K iv c):
 Calls Tryz.prog 20 #[.pointer (some ⟨p,0,none⟩),c.val iv] w fun e w' => DoW W w w' p K (n + 1) (doA a c).2 (doA a c).1 e:=by
 refine (ag_do p K a n (by omega) c iv w h.at_ h.i hc hil hs).mono ?_
 rintro e w' ⟨pv,K',he,hp,hg,hA,ho,hN⟩
 have hst:=doA_step h.i (by omega) c (hc.nums _ (by simp)) hil
 exact ⟨pv,K',he,hp,hg,⟨hA,h.ho.trans ho (fun x hx => .inr (h.lo x hx)),fun x hx => by
  rcases hN x hx with e | e
  · exact h.lo x e
  · exact Nat.le_trans h.ho.size e,hst.1⟩,ho,hN,hst.2⟩
theorem agw_new (W w:World) (h:Only [] W w):Calls Tryz.prog 18 #[] w fun e w' => ∃ p K,e = .returned (.pointer (some ⟨p,0,none⟩)) ∧ AgW W w' p K 0 AgS.new ∧ (∀ x ∈ K,w.heap.size ≤ x) ∧ Only [] w w':=by
 refine (ag_new w).mono ?_
 rintro e w' ⟨p,K,he,hA,hl,ho⟩
 exact ⟨p,K,he,⟨hA,h.tr ho,fun x hx => Nat.le_trans h.size (hl x hx),AgI.new⟩,hl,ho⟩
theorem box_row (w:World) (t:TypeId) (z c:List Value):Only [] w ((w.alloc (.cells z.toArray t)).setRow w.heap.size c.toArray) ∧ Cells (w.alloc (.cells z.toArray t)) w.heap.size t z ∧ Cells ((w.alloc (.cells z.toArray t)).setRow w.heap.size c.toArray) w.heap.size t c:=
 ⟨((Only.refl [] w).alloc _).trans ((Only.refl [w.heap.size] _).setRow (.inl (by simp)) _) (fun x hx => by simp at hx;subst hx;exact .inr (Nat.le_refl _)),Cells.new w _ _,(Cells.new w t z).setRow c⟩
theorem small_nums {l:List Int} (h:(l.all fun x => decide (-100 ≤ x) && decide (x ≤ 100)) = true):∀ x ∈ l,Wide64 x:=fun x hx => by
 have:=List.all_eq_true.1 h x hx
 simp only [Bool.and_eq_true,decide_eq_true_eq] at this
 exact ⟨by omega,by omega⟩
def agB (a:AgS):List UInt8:=tsb [S15.packL a.t.l a.t.ever,a.d.bytes,stB a.s]
theorem St.sorted {w:World} {b:Nat} {O:List Nat} {S:Sv} (h:St w b O S):S.Pairwise (fun a b => a.1 < b.1) ∧ S.length ≤ 20 ∧ ∀ x ∈ S,nmL x.1 = true:=by
 obtain ⟨mb,T,h,rfl,rfl⟩:=h
 refine ⟨List.pairwise_map.2 h.srt,by rw [List.length_map];exact h.cap,fun x hx => ?_⟩
 obtain ⟨t,ht,rfl⟩:=List.mem_map.1 hx
 exact h.nml t ht
theorem AgAt.sj {w:World} {p:Nat} {K:List Nat} {a:AgS} {n:Nat} (h:AgAt w p K a) (hI:AgI n a):SvJ a.s:=by
 obtain ⟨tb,tv,lb,sb,O,B,h,rfl⟩:=h
 obtain ⟨h1,h2,h3⟩:=h.s.sorted
 exact SvJ.of hI.si hI.sz h1 h2 h3
theorem AgI.fit {n:Nat} {a:AgS} (h:AgI n a) (hn:n ≤ 1000000000):Wide64 a.t.ever ∧ a.t.l.length ≤ 8 ∧ (∀ x ∈ a.t.l,x.Fit):=by
 have h1:=h.ok.ever
 have h2:=h.ever
 exact ⟨⟨by omega,by omega⟩,h.ok.len,S15.g_fit h.ok h.g (by omega)⟩
theorem packL_le {n:Nat} {a:AgS} (h:AgI n a) (hn:n ≤ 1000000000):(S15.packL a.t.l a.t.ever).length ≤ 900000:=by
 obtain ⟨h1,h2,h3⟩:=h.fit hn
 have i1:=(ib_length a.t.ever h1).2
 have i2:=(ib_length (a.t.l.length:Int) ⟨by omega,by omega⟩).2
 have key:∀ l:List S15.Ses,(∀ s ∈ l,s.Fit ∧ S15.SesG s) → (S15.sesB l).length ≤ 100040 * l.length:=by
  intro l
  induction l with
  | nil => intro _;simp [S15.sesB]
  | cons x l ih =>
   intro hl
   obtain ⟨hx,hg⟩:=hl x (by simp)
   have j1:=(ib_length x.id hx.id).2
   have j2:=(ib_length x.seq hx.seq).2
   have hs:=hg.size
   have e:x.reply.data.toList.length = x.reply.size:=by rw [Array.length_toList];rfl
   have hm:100040 * (l.length + 1) = 100040 * l.length + 100040:=by omega
   have j3:=(tb_length x.reply.data.toList (by omega)).2
   have hih:=ih (fun y hy => hl y (by simp [hy]))
   have hb:x.bytes.length ≤ 100040:=by
    unfold S15.Ses.bytes
    simp only [List.length_append]
    omega
   unfold S15.sesB at hih ⊢
   rw [List.flatMap_cons,List.length_append,List.length_cons]
   omega
 have h4:=key a.t.l (fun s hs => ⟨h3 s hs,h.g s hs⟩)
 unfold S15.packL
 simp only [List.length_append]
 omega
theorem dbytes_le {n:Nat} {a:AgS} (h:AgI n a) (hn:n ≤ 1000000000):a.d.bytes.length ≤ 1000:=by
 have hf:=h.d.fit (by omega)
 have h8:=h.d.up.len
 have i1:=(ib_length a.d.now hf.now).2
 have key:∀ l:List L16.Ls,(∀ x ∈ l,x ∈ a.d.l) → (L16.lsB l).length ≤ 30 * l.length:=by
  intro l
  induction l with
  | nil => intro _;simp [L16.lsB]
  | cons x l ih =>
   intro hl
   have hx:=hl x (by simp)
   have j:=L16.Ls.bytes_length (hf.node x hx) (hf.epoch x hx) (hf.till x hx)
   have:=ih (fun y hy => hl y (by simp [hy]))
   unfold L16.lsB at this ⊢
   rw [List.flatMap_cons,List.length_append,List.length_cons]
   omega
 have:=key a.d.l (fun x hx => hx)
 unfold L16.Tb.bytes
 rw [List.length_append]
 omega
theorem stB_le {S:Sv} (h:SvJ S):(stB S).length ≤ 4000000:=by
 have key:∀ x ∈ S,(fdB x).length ≤ 130000:=fun x hx => by
  have hj:=(h.all x hx).1
  have hn:=(h.all x hx).2
  have h1:=fdH_le x (by have:=(nmL_len hn).2;omega) hj.i.sh
  have h2:=flat_le spB 631 x.2.ps (fun p hp => by
   have hs:=itR_sh (hj.i.its p hp)
   have t1:=tb_top p.it.id 200 hs.id (by omega)
   have t2:=tb_top p.it.ti 200 hs.ti (by omega)
   have t3:=tb_top p.it.li 200 hs.li (by omega)
   have hb:(bb p.rd).length = 1:=rfl
   unfold spB itT
   simp only [List.length_append]
   omega)
  have h3:=hj.i.ps.n
  have h4:631 * x.2.ps.length ≤ 631 * 200:=Nat.mul_le_mul_left _ h3
  unfold fdB psB
  rw [List.length_append]
  omega
 have h1:=flat_le fdB 130000 S key
 have h2:=h.n
 have i:=(ib_length (S.length:Int) ⟨by omega,by omega⟩).2
 unfold stB fsB
 rw [List.length_append]
 omega
theorem agB_le {n:Nat} {a:AgS} (h:AgI n a) (hn:n ≤ 1000000000) (hj:SvJ a.s):(agB a).length ≤ 5000000:=by
 have h1:=packL_le h hn
 have h2:=dbytes_le h hn
 have h3:=stB_le hj
 have t1:=(tb_length (S15.packL a.t.l a.t.ever) (by omega)).2
 have t2:=(tb_length a.d.bytes (by omega)).2
 have t3:=(tb_length (stB a.s) (by omega)).2
 unfold agB tsb
 simp only [List.flatMap_cons,List.flatMap_nil,List.length_append,List.length_nil]
 omega
theorem ag_save (p:Nat) (K:List Nat) (a:AgS) (n:Nat) (hn:n ≤ 1000000000) (w:World) (h:AgAt w p K a) (hI:AgI n a):
 Calls Tryz.prog 28 #[.pointer (some ⟨p,0,none⟩)] w fun e w' => e = .returned (.string ⟨(agB a).toArray⟩) ∧ Only [] w w':=by
 have hle:=agB_le hI hn (h.sj hI)
 obtain ⟨f1,f2,f3⟩:=hI.fit hn
 have f4:=hI.d.fit (n:=n) (by omega)
 have f5:=hI.d.up.len
 obtain ⟨tb,tv,lb,sb,O,B,hX,rfl⟩:=h
 have q0:=hX.cells.cell (k:=0) rfl
 have q1:=hX.cells.cell (k:=1) rfl
 have q2:=hX.cells.cell (k:=2) rfl
 have hpl:=hX.cells.lt
 have CT:=Hd (fun v:Since w => S15.tbs_pack B tb a.t.l a.t.ever v.w (hX.keep v.2 (by simp)).t.s (by omega) f1 f3)
 have CL:=Hd (fun v:Since w => L16.lease_pack lb a.d v.w (hX.d.only v.2 (by simp)) f5 f4)
 have CS:=Hd (fun v:Since w => st_pack sb O a.s v.w (hX.s.keep v.2 (by simp)) hI.si.sh)
 have HB:=Hd hle
 obtain ⟨X,hX0⟩:∃ X,S15.packL a.t.l a.t.ever = X:=⟨_,rfl⟩
 obtain ⟨Y,hY0⟩:∃ X,a.d.bytes = X:=⟨_,rfl⟩
 obtain ⟨Z,hZ0⟩:∃ X,stB a.s = X:=⟨_,rfl⟩
 have hag:agB a = tsb [X,Y,Z]:=by unfold agB;rw [hX0,hY0,hZ0]
 rw [hX0] at CT
 rw [hY0] at CL
 rw [hZ0] at CS
 rw [hag] at HB
 have HAG:=Hd hag
 have v0:=fun u:Since w => u.cell q0
 have v1:=fun u:Since w => u.cell q1
 have v2:=fun u:Since w => u.cell q2
 clear hle f1 f2 f3 f4 f5 hX0 hY0 hZ0 hag q0 q1 q2 hX hI hn
 go_enter Tryz.func28,Tryz.ntmps28
 go_upto_region 1 with fail
 refine wp_region_only_tail w oz 15 (by kernel_rfl) (by kernel_rfl) ?_
 simp only [tk1,tk0,dr1,dr0]
 repeat (go_big_quiet_step (first | (go_at_call 76;refine Calls.only (CT.out _)) | (go_at_call 77;refine Calls.only (CL.out _)) | (go_at_call 78;refine Calls.only (CS.out _))))
 refine wpQuiet_nil ?_
 rintro ⟨w3,ho3⟩
 dsimp only
 have CX:=Hd (codec_texts_w [X,Y,Z] (by simp) (by have:=HB.out;omega) 3 rfl (w3.alloc (.cells #[.string ⟨X.toArray⟩,.string ⟨Y.toArray⟩,.string ⟨Z.toArray⟩] 9)) w3.heap.size (Cells.new w3 _ _))
 have HO3:=Hd ((ho3.alloc (.cells #[.string ⟨X.toArray⟩,.string ⟨Y.toArray⟩,.string ⟨Z.toArray⟩] 9)))
 clear v0 v1 v2 CT CL CS ho3
 go_wp2_with fail
 refine CX.out.mono ?_
 rintro e w4 ⟨rfl,ho4⟩
 go_wp2_with fail
 go_ret
 exact ⟨by rw [HAG.out];rfl,HO3.out.tr ho4⟩
def Pv (w:World) (K:List Nat) (pv:Value) (r:Rp):Prop:=RpAt w pv r ∧ (0 < r.ps.length → ∀ g,pv.ownBlock = some g → g ∉ K)
theorem RpAt.lt {w:World} {pv:Value} {r:Rp} (h:RpAt w pv r) (h0:0 < r.ps.length) {g:Nat} (hg:pv.ownBlock = some g):g < w.heap.size:=by
 obtain ⟨b,o,c,rfl,hb,_⟩:=h.ps.at_ (by omega)
 simp [Value.ownBlock] at hg
 omega
theorem RpAt.past' {S:List Nat} {w w':World} {pv:Value} {r:Rp} (h:RpAt w pv r) (ho:Only S w w') (hS:0 < r.ps.length → ∀ g,pv.ownBlock = some g → g ∉ S):RpAt w' pv r:=by
 refine ⟨?_,h.er,h.n,h.sm,h.len⟩
 by_cases h0:0 < r.ps.length
 · exact (h.ps.past ho (Nat.le_refl _) (hS h0)).more ho.size
 · obtain ⟨z1,z2,z3,z4,z5,z6,z7⟩:=h.ps
   exact ⟨z1,z2,z3,z4,z5,z6,fun hh => by omega⟩
theorem Pv.does {w w':World} {K K':List Nat} {pv:Value} {r:Rp} (h:Pv w K pv r) (ho:Only K w w') (hN:∀ x ∈ K',x ∈ K ∨ w.heap.size ≤ x):Pv w' K' pv r:=
 ⟨h.1.past' ho h.2,fun h0 g hg hm => by
  rcases hN g hm with e | e
  · exact h.2 h0 g hg e
  · have:=h.1.lt h0 hg;omega⟩
theorem Pv.read {w w':World} {K:List Nat} {pv:Value} {r:Rp} (h:Pv w K pv r) (ho:Only [] w w'):Pv w' K pv r:=⟨h.1.only ho,h.2⟩
theorem DoW.of {W w w':World} {p:Nat} {K:List Nat} {n:Nat} {a:AgS} {r:Rp} {e:Ending} (h:DoW W w w' p K n a r e):∃ pv K',e = .returned (r.val pv) ∧ Pv w' K' pv r ∧ AgW W w' p K' n a ∧ Only K w w' ∧ (∀ x ∈ K',x ∈ K ∨ w.heap.size ≤ x) ∧ RpK r ∧ ∃ PA pc,pv = .slice PA r.ps.length pc:=by
 obtain ⟨pv,K',he,hp,hg,hA,ho,hN,hk⟩:=h
 obtain ⟨PA,pc,rfl⟩:=hp.ps.shape
 exact ⟨_,K',he,⟨hp,fun h0 g hgg => (hg h0 g hgg).2⟩,hA,ho,hN,hk,PA,pc,rfl⟩
theorem agw_save {W w:World} {p:Nat} {K:List Nat} {n:Nat} {a:AgS} (hn:n ≤ 1000000000) (h:AgW W w p K n a):
 Calls Tryz.prog 28 #[.pointer (some ⟨p,0,none⟩)] w fun e w' => e = .returned (.string ⟨(agB a).toArray⟩) ∧ Only [] w w':=ag_save p K a n hn w h.at_ h.i
theorem slat_one (w:World) (a:C19):SlAt (w.alloc (.cells (a.c.cells a.iv).toArray 38)) (w.alloc (.cells (a.c.cells a.iv).toArray 38)).heap.size (.slice (some ⟨w.heap.size,0,none⟩) 1 1) 11 [a].length (cmL [a]):=by
 have:cmL [a] = a.c.cells a.iv:=by unfold cmL;simp
 rw [this]
 exact SlAt.cells (n:=1) (sz:=11) (Cells.new w _ _) rfl (by unfold maxLen;omega)
structure RgX (w:World) (p tb:Nat) (tv:Value) (lb:Nat) (lv:Value) (sb:Nat) (O:List Nat) (B BL:Nat) (a:AgS):Prop where
 cells:Cells w p 130 [.pointer (some ⟨tb,0,none⟩),.pointer (some ⟨lb,0,none⟩),.pointer (some ⟨sb,0,none⟩)]
 t:S15.RtV w B tb tv a.t.l a.t.ever
 d:L16.RfV w BL lb lv a.d
 s:Rs w sb O a.s
 dis:p ∉ O ∧ tb ∉ O ∧ lb ∉ O ∧ (∀ g,tv.ownBlock = some g → g ∉ O) ∧ ∀ g,lv.ownBlock = some g → g ∉ O
def allG (p tb:Nat) (tv:Value) (lb:Nat) (lv:Value) (O:List Nat):List Nat:=p :: tb :: lb :: (rb tv ++ (rb lv ++ O))
def RgAt (w:World) (p:Nat) (K:List Nat) (a:AgS):Prop:=∃ tb tv lb lv sb O B BL,RgX w p tb tv lb lv sb O B BL a ∧ K = allG p tb tv lb lv O
section
variable {w w':World} {p tb lb sb B BL:Nat} {tv lv:Value} {O:List Nat} {a:AgS}
theorem mem_rb {v:Value} {x:Nat}:x ∈ rb v ↔ v.ownBlock = some x:=by simp [rb]
theorem RgX.keep {X:List Nat} (h:RgX w p tb tv lb lv sb O B BL a) (ho:Only X w w') (hX:∀ k ∈ allG p tb tv lb lv O,k ∉ X):RgX w' p tb tv lb lv sb O B BL a:=
 ⟨h.cells.only ho (hX _ (by simp [allG])),⟨h.t.1,h.t.2.1.only ho (hX _ (by simp [allG])),own_keep h.t.2.2 ho (fun b hb e => hX b (by simp [allG,rb,e]) hb)⟩,
  ⟨h.d.ge,h.d.cells.only ho (hX _ (by simp [allG])),own_keep h.d.own ho (fun b hb e => hX b (by simp [allG,rb,e]) hb),h.d.len⟩,h.s.keep ho (fun k hk => hX k (by simp [allG,hk])),h.dis⟩
theorem RgX.lts (h:RgX w p tb tv lb lv sb O B BL a):∀ x ∈ allG p tb tv lb lv O,x < w.heap.size:=by
 intro x hx
 unfold allG at hx
 simp only [List.mem_cons,List.mem_append,mem_rb] at hx
 rcases hx with rfl | rfl | rfl | hx | hx | hx
 · exact h.cells.lt
 · exact h.t.2.1.lt
 · exact h.d.cells.lt
 · exact (h.t.2.2.lt x hx).2
 · exact (h.d.own.lt x hx).2
 · exact h.s.bw x hx
theorem RgX.tdo {tv':Value} {t':S15.TS} (h:RgX w p tb tv lb lv sb O B BL a) (ht:S15.RtV w' B tb tv' t'.l t'.ever) (ho:Only [tb] w w') (hn:∀ g,tv'.ownBlock = some g → tv.ownBlock = some g ∨ w.heap.size ≤ g):
 RgX w' p tb tv' lb lv sb O B BL ⟨t',a.d,a.s⟩ ∧ Only (allG p tb tv lb lv O) w w' ∧ ∀ x ∈ allG p tb tv' lb lv O,x ∈ allG p tb tv lb lv O ∨ w.heap.size ≤ x:=by
 have hpt:p ≠ tb:=h.cells.ne h.t.2.1 (by decide)
 have hlt:lb ≠ tb:=h.d.cells.ne h.t.2.1 (by decide)
 have hlv:=own_ne_block h.d.own h.t.2.1 (by decide)
 refine ⟨⟨h.cells.only ho (by simpa using hpt),ht,⟨h.d.ge,h.d.cells.only ho (by simpa using hlt),own_keep h.d.own ho (fun b hb e => by simp at hb;subst hb;exact hlv e),h.d.len⟩,h.s.keep ho (fun k hk hm => by simp at hm;subst hm;exact h.dis.2.1 hk),h.dis.1,h.dis.2.1,h.dis.2.2.1,fun g hg => ?_,h.dis.2.2.2.2⟩,ho.mono (fun x hx => .inl (by simp at hx;subst hx;simp [allG])),fun x hx => ?_⟩
 · rcases hn g hg with e | e
   · exact h.dis.2.2.2.1 g e
   · intro hm;have:=h.s.bw g hm;omega
 · unfold allG at hx ⊢
   simp only [List.mem_cons,List.mem_append,mem_rb] at hx ⊢
   rcases hx with hx | hx | hx | hx | hx | hx
   · exact .inl (.inl hx)
   · exact .inl (.inr (.inl hx))
   · exact .inl (.inr (.inr (.inl hx)))
   · rcases hn x hx with e | e
     · exact .inl (.inr (.inr (.inr (.inl e))))
     · exact .inr e
   · exact .inl (.inr (.inr (.inr (.inr (.inl hx)))))
   · exact .inl (.inr (.inr (.inr (.inr (.inr hx)))))
theorem RgX.ddo {d':L16.Tb} (h:RgX w p tb tv lb lv sb O B BL a) (hd:L16.RfV w' BL lb lv d') (ho:Only (lb :: rb lv) w w'):RgX w' p tb tv lb lv sb O B BL ⟨a.t,d',a.s⟩ ∧ Only (allG p tb tv lb lv O) w w':=by
 have e1:∀ x ∈ lb :: rb lv,x = lb ∨ lv.ownBlock = some x:=fun x hx => by simpa [mem_rb] using hx
 have hpl:p ≠ lb:=h.cells.ne h.d.cells (by decide)
 have htl:tb ≠ lb:=h.t.2.1.ne h.d.cells (by decide)
 have hpv:=own_ne_block h.d.own h.cells (by decide)
 have htv:=own_ne_block h.d.own h.t.2.1 (by decide)
 refine ⟨⟨h.cells.only ho ?_,⟨h.t.1,h.t.2.1.only ho ?_,own_keep h.t.2.2 ho ?_⟩,hd,h.s.keep ho ?_,h.dis⟩,ho.mono (fun x hx => .inl ?_)⟩
 · intro hm;rcases e1 _ hm with e | e;exact hpl e;exact hpv e
 · intro hm;rcases e1 _ hm with e | e;exact htl e;exact htv e
 · intro b hb e
   rcases e1 _ hb with e' | e'
   · subst e';exact own_ne_block h.t.2.2 h.d.cells (by decide) e
   · exact S15.own_own_ne h.t.2.2 h.d.own (by decide) e e'
 · intro k hk hm;rcases e1 _ hm with e | e;exact h.dis.2.2.1 (e ▸ hk);exact h.dis.2.2.2.2 k e hk
 · rcases e1 _ hx with e | e
   · simp [allG,e]
   · simp [allG,rb,e]
theorem RgX.sdo {O':List Nat} {s':Sv} (h:RgX w p tb tv lb lv sb O B BL a) (hs:Rs w' sb O' s') (ho:Only O w w') (hn:∀ x ∈ O',x ∈ O ∨ w.heap.size ≤ x):
 RgX w' p tb tv lb lv sb O' B BL ⟨a.t,a.d,s'⟩ ∧ Only (allG p tb tv lb lv O) w w' ∧ ∀ x ∈ allG p tb tv lb lv O',x ∈ allG p tb tv lb lv O ∨ w.heap.size ≤ x:=by
 have hl:=h.lts
 have hno:∀ x,x ∈ allG p tb tv lb lv O → x ∉ O → x ∉ O':=fun x hx hO hm => by
  rcases hn x hm with e | e
  · exact hO e
  · have:=hl x hx;omega
 obtain ⟨d1,d2,d3,d4,d5⟩:=h.dis
 refine ⟨⟨h.cells.only ho d1,⟨h.t.1,h.t.2.1.only ho d2,own_keep h.t.2.2 ho (fun b hb e => d4 b e hb)⟩,⟨h.d.ge,h.d.cells.only ho d3,own_keep h.d.own ho (fun b hb e => d5 b e hb),h.d.len⟩,hs,hno p (by simp [allG]) d1,hno tb (by simp [allG]) d2,hno lb (by simp [allG]) d3,fun g hg => hno g (by simp [allG,rb,hg]) (d4 g hg),fun g hg => hno g (by simp [allG,rb,hg]) (d5 g hg)⟩,ho.mono (fun x hx => .inl (by simp [allG,hx])),fun x hx => ?_⟩
 unfold allG at hx ⊢
 simp only [List.mem_cons,List.mem_append] at hx ⊢
 rcases hx with hx | hx | hx | hx | hx | hx
 · exact .inl (.inl hx)
 · exact .inl (.inr (.inl hx))
 · exact .inl (.inr (.inr (.inl hx)))
 · exact .inl (.inr (.inr (.inr (.inl hx))))
 · exact .inl (.inr (.inr (.inr (.inr (.inl hx)))))
 · rcases hn x hx with e | e
   · exact .inl (.inr (.inr (.inr (.inr (.inr e)))))
   · exact .inr e
end
theorem RgAt.keep {w w':World} {p:Nat} {K X:List Nat} {a:AgS} (h:RgAt w p K a) (ho:Only X w w') (hX:∀ k ∈ K,k ∉ X):RgAt w' p K a:=by
 obtain ⟨tb,tv,lb,lv,sb,O,B,BL,h,rfl⟩:=h
 exact ⟨tb,tv,lb,lv,sb,O,B,BL,h.keep ho hX,rfl⟩
theorem RgAt.bw {w:World} {p:Nat} {K:List Nat} {a:AgS} (h:RgAt w p K a):∀ x ∈ K,x < w.heap.size:=by
 obtain ⟨tb,tv,lb,lv,sb,O,B,BL,h,rfl⟩:=h
 exact h.lts
def ReG (w w':World) (p:Nat) (K:List Nat) (r:Rp) (a:AgS) (e:Ending):Prop:=∃ pv K',e = .returned (r.val pv) ∧ RpAt w' pv r ∧ (0 < r.ps.length → ∀ g,pv.ownBlock = some g → w.heap.size ≤ g ∧ g ∉ K') ∧ RgAt w' p K' a ∧ Only K w w' ∧ ∀ x ∈ K',x ∈ K ∨ w.heap.size ≤ x
theorem ReG.nil {w w':World} {p:Nat} {K K':List Nat} {er n:Int} {a:AgS} {e:Ending} (he:e = .returned (.agg #[.int .i64 er,.int .i64 n,.slice none 0 0])) (h1:Wide64 er) (h2:Wide64 n) (hA:RgAt w' p K' a) (ho:Only K w w') (hn:∀ x ∈ K',x ∈ K ∨ w.heap.size ≤ x):ReG w w' p K ⟨er,n,[]⟩ a e:=
 ⟨_,K',he,rpAt_nil _ _ _ h1 h2,fun _ g hg => by simp [Value.ownBlock] at hg,hA,ho,hn⟩
theorem rg_new (w:World):Calls Tryz.prog 32 #[] w fun e w' => ∃ p K,e = .returned (.pointer (some ⟨p,0,none⟩)) ∧ RgAt w' p K AgS.new ∧ (∀ x ∈ K,w.heap.size ≤ x) ∧ Only [] w w':=by
 have C2:=Hd (fun w' => L16.rf_new w')
 obtain ⟨w1,hw1⟩:∃ u,w.alloc (.cells #[.slice none 0 0,.int .i64 0] 122) = u:=⟨_,rfl⟩
 obtain ⟨tb,htb⟩:∃ z,w.heap.size = z:=⟨_,rfl⟩
 have HC1:Hid (Cells w1 tb 122 [.slice none 0 0,.int .i64 0]):=Hd (hw1 ▸ htb ▸ Cells.new w _ _)
 have HO1:Hid (Only [] w w1):=Hd (hw1 ▸ oz.alloc _)
 have HTB:=Hd htb
 go_enter Tryz.func32,Tryz.ntmps32
 go_wp2_with fail
 refine (C2.out _).mono ?_
 rintro e w2 ⟨lb,lv,rfl,ho2,hD⟩
 have hlt:=HC1.out.lt
 have HD2:=Hd hD
 have HO2:=Hd ho2
 obtain ⟨sb,hsb⟩:∃ z,w2.heap.size = z:=⟨_,rfl⟩
 obtain ⟨w3,hw3⟩:∃ u,w2.alloc (.cells #[.slice none 0 0] 128) = u:=⟨_,rfl⟩
 have HS3:Hid (Rs w3 sb [sb] []):=Hd (by rw [← hw3,← hsb];exact rs_empty w2)
 have HO3:Hid (Only [] w2 w3):=Hd (hw3 ▸ oz.alloc _)
 have HSB:=Hd hsb
 have HF:Hid (∀ p,Cells (w3.alloc (.cells #[.pointer (some ⟨tb,0,none⟩),.pointer (some ⟨lb,0,none⟩),.pointer (some ⟨sb,0,none⟩)] 130)) p 130 [.pointer (some ⟨tb,0,none⟩),.pointer (some ⟨lb,0,none⟩),.pointer (some ⟨sb,0,none⟩)] → p = w3.heap.size → ∃ K,RgAt (w3.alloc (.cells #[.pointer (some ⟨tb,0,none⟩),.pointer (some ⟨lb,0,none⟩),.pointer (some ⟨sb,0,none⟩)] 130)) p K AgS.new ∧ (∀ x ∈ K,w.heap.size ≤ x) ∧ Only [] w (w3.alloc (.cells #[.pointer (some ⟨tb,0,none⟩),.pointer (some ⟨lb,0,none⟩),.pointer (some ⟨sb,0,none⟩)] 130))):=Hd (fun p hp he => by
  have oA:Only [] w3 (w3.alloc (.cells #[.pointer (some ⟨tb,0,none⟩),.pointer (some ⟨lb,0,none⟩),.pointer (some ⟨sb,0,none⟩)] 130)):=oz.alloc _
  have hs1:=HO1.out.size
  have hs2:=HO2.out.size
  have hs3:=HO3.out.size
  have hsz3:w3.heap.size = sb + 1:=by rw [← hw3,World.size_alloc,hsb]
  have hdl:=HD2.out.cells.lt
  have hlt:=HC1.out.lt
  have hge:=HD2.out.ge
  refine ⟨allG p tb (.slice none 0 0) lb lv [sb],⟨tb,.slice none 0 0,lb,lv,sb,[sb],tb,w1.heap.size,⟨hp,⟨Nat.le_refl _,(HC1.out.only HO2.out (by simp)).only (HO3.out.tr oA) (by simp),World.ownsRow_nil _ _ _ _⟩,HD2.out.only (HO3.out.tr oA),HS3.out.keep oA (by simp),?_,?_,?_,?_,?_⟩,rfl⟩,?_,((HO1.out.tr HO2.out).tr HO3.out).tr oA⟩
  · simp;omega
  · simp;omega
  · simp;omega
  · intro g hg;simp [Value.ownBlock] at hg
  · intro g hg hm
    simp at hm
    have:=(HD2.out.own.lt g hg).2
    omega
  · intro x hx
    simp only [allG,List.mem_cons,List.mem_append,mem_rb,List.not_mem_nil,or_false] at hx
    rcases hx with rfl | rfl | rfl | hx | hx | rfl
    · omega
    · omega
    · omega
    · simp [Value.ownBlock] at hx
    · have:=(HD2.out.own.lt x hx).1;omega
    · omega)
 clear ho2 hD C2 hw1 htb hsb hlt HC1 HO1 HTB HD2 HO2 HS3 HO3
 go_wp2_with fail
 go_ret
 rw [HSB.out]
 obtain ⟨K,h1,h2,h3⟩:=HF.out _ (Cells.new w3 _ _) rfl
 exact ⟨_,K,rfl,h1,h2,h3⟩
theorem rg_save (p:Nat) (K:List Nat) (a:AgS) (n:Nat) (hn:n ≤ 1000000000) (w:World) (h:RgAt w p K a) (hI:AgI n a) (hj:SvJ a.s):
 Calls Tryz.prog 38 #[.pointer (some ⟨p,0,none⟩)] w fun e w' => e = .returned (.string ⟨(agB a).toArray⟩) ∧ Only [] w w':=by
 have hle:=agB_le hI hn hj
 have hx1:=packL_le hI hn
 have hx2:=dbytes_le hI hn
 have hx3:=stB_le hj
 obtain ⟨f1,f2,f3⟩:=hI.fit hn
 have f4:=hI.d.fit (n:=n) (by omega)
 obtain ⟨tb',tv,lb,lv,sb,O,B,BL,hX,rfl⟩:=h
 have q0:=hX.cells.cell (k:=0) rfl
 have q1:=hX.cells.cell (k:=1) rfl
 have q2:=hX.cells.cell (k:=2) rfl
 have hpl:=hX.cells.lt
 have CT:=Hd (fun v:Since w => S15.rt_pack B tb' tv a.t.l a.t.ever v.w (hX.keep v.2 (by simp)).t (by omega) f1 f3)
 have CL:=Hd (fun v:Since w => L16.rf_pack BL lb lv a.d v.w (hX.keep v.2 (by simp)).d f4)
 have CS:=Hd (fun v:Since w => rr_pack sb O a.s v.w (hX.s.keep v.2 (by simp)) hI.si)
 obtain ⟨X,hX0⟩:∃ X,S15.packL a.t.l a.t.ever = X:=⟨_,rfl⟩
 obtain ⟨Y,hY0⟩:∃ X,a.d.bytes = X:=⟨_,rfl⟩
 obtain ⟨Z,hZ0⟩:∃ X,stB a.s = X:=⟨_,rfl⟩
 have hag:agB a = tb X ++ (tb Y ++ (tb Z ++ [])):=by rw [← hX0,← hY0,← hZ0];unfold agB tsb;simp
 rw [hX0] at CT hx1
 rw [hY0] at CL hx2
 rw [hZ0] at CS hx3
 have HAG:=Hd hag
 have CX:=Hd (fun v:Since w => ref_text X v.w (by omega))
 have CY:=Hd (fun v:Since w => ref_text Y v.w (by omega))
 have CZ:=Hd (fun v:Since w => ref_text Z v.w (by omega))
 have tx:=(tb_length X (by omega)).2
 have ty:=(tb_length Y (by omega)).2
 have tz:=(tb_length Z (by omega)).2
 obtain ⟨X',hX'⟩:∃ X',tb X = X':=⟨_,rfl⟩
 obtain ⟨Y',hY'⟩:∃ X',tb Y = X':=⟨_,rfl⟩
 obtain ⟨Z',hZ'⟩:∃ X',tb Z = X':=⟨_,rfl⟩
 rw [hX'] at CX tx HAG
 rw [hY'] at CY ty HAG
 rw [hZ'] at CZ tz HAG
 have bx:X'.length ≤ 1000000:=by omega
 have by':Y'.length ≤ 1000000:=by omega
 have bz:Z'.length ≤ 5000000:=by omega
 have v0:=fun u:Since w => u.cell q0
 have v1:=fun u:Since w => u.cell q1
 have v2:=fun u:Since w => u.cell q2
 clear hle f1 f2 f3 f4 hX0 hY0 hZ0 hag q0 q1 q2 hX hI hn hj hx1 hx2 hx3 tx ty tz hX' hY' hZ'
 go_enter Tryz.func38,Tryz.ntmps38
 go_upto_region 1 with fail
 refine wp_region_only w oz (by kernel_rfl) (by kernel_rfl) ?_
 repeat (go_big_quiet_step (first | (go_at_call 100;refine Calls.only (CT.out _)) | (go_at_call 101;refine Calls.only (CL.out _)) | (go_at_call 102;refine Calls.only (CS.out _)) | (go_at_call 99;with_reducible refine Calls.only (CX.out _)) | (go_at_call 99;with_reducible refine Calls.only (CY.out _)) | (go_at_call 99;with_reducible refine Calls.only (CZ.out _))))
 refine wpQuiet_nil ?_
 rintro ⟨w3,ho3⟩
 dsimp only
 have HO3:=Hd ho3
 clear v0 v1 v2 CT CL CS CX CY CZ ho3
 go_wp2_with fail
 go_ret
 exact ⟨by rw [HAG.out,List.append_nil,← ba_append,← ba_append,ByteArray.append_assoc];rfl,HO3.out⟩
theorem rg_client (p:Nat) (K:List Nat) (a:AgS) (n:Nat) (c:Cm) (iv:Value) (w:World) (h:RgAt w p K a) (hI:AgI n a) (hfd:c.fd.length ≤ maxLen) (hid:c.id.length ≤ maxLen):
 Calls Tryz.prog 90 #[.pointer (some ⟨p,0,none⟩),c.val iv] w fun e w' => ReG w w' p K (cliA a.s c).1 ⟨a.t,a.d,(cliA a.s c).2⟩ e:=by
 obtain ⟨tb,tv,lb,lv,sb,O,B,BL,hX,rfl⟩:=h
 have hrk:=cliA_k hI.si c
 have hsi:=hI.si
 have h2:c.kd = 2 → cliA a.s c = (errR (subS a.s c.fd).1,(subS a.s c.fd).2):=fun h => by unfold cliA;rw [if_pos h]
 have h3:c.kd = 3 → cliA a.s c = (errR (unS a.s c.fd).1,(unS a.s c.fd).2):=fun h => by unfold cliA;rw [if_neg (by omega),if_pos h]
 have h4:c.kd = 4 → cliA a.s c = (errR (markS a.s c.fd c.id).1,(markS a.s c.fd c.id).2):=fun h => by unfold cliA;rw [if_neg (by omega),if_neg (by omega),if_pos h]
 have h5:c.kd ≠ 2 → c.kd ≠ 3 → c.kd ≠ 4 → cliA a.s c = (⟨(listS a.s c.fd c.n).2,0,(listS a.s c.fd c.n).1⟩,a.s):=fun h2 h3 h4 => by unfold cliA;rw [if_neg h2,if_neg h3,if_neg h4]
 have C2:=Hd (fun w' hs => rr_sub sb O a.s c.fd hfd w' hs)
 have C3:=Hd (fun w' hs => rr_un sb O a.s c.fd hfd w' hs)
 have C4:=Hd (fun w' hs => rr_mark sb O a.s c.fd hfd c.id w' hs)
 have C5:=Hd (fun w' hs => rr_list sb O a.s c.fd hfd c.n w' hs hsi)
 obtain ⟨g2,e2⟩:∃ g,subS a.s c.fd = g:=⟨_,rfl⟩
 obtain ⟨g3,e3⟩:∃ g,unS a.s c.fd = g:=⟨_,rfl⟩
 obtain ⟨g4,e4⟩:∃ g,markS a.s c.fd c.id = g:=⟨_,rfl⟩
 obtain ⟨g5,e5⟩:∃ g,listS a.s c.fd c.n = g:=⟨_,rfl⟩
 rw [e2] at h2 C2
 rw [e3] at h3 C3
 rw [e4] at h4 C4
 rw [e5] at h5 C5
 obtain ⟨res,hres⟩:∃ res,cliA a.s c = res:=⟨_,rfl⟩
 rw [hres] at hrk h2 h3 h4 h5 ⊢
 have HRK:=Hd hrk
 have H2:=Hd h2
 have H3:=Hd h3
 have H4:=Hd h4
 have H5:=Hd h5
 unfold Cm.val
 clear hrk h2 h3 h4 h5 e2 e3 e4 e5 hres hI hsi
 go_enter Tryz.func90,Tryz.ntmps90
 go_upto_region 1 with fail
 obtain ⟨w1,hw1⟩:∃ u,w.alloc (.cells #[.int .i64 c.kd,.int .i64 c.ss,.int .i64 c.sq,.int .i64 c.sh,.int .i64 c.nd,.int .i64 c.ep,.int .i64 c.n,.string ⟨c.fd.toArray⟩,.string ⟨c.id.toArray⟩,iv,.bool c.fl] 38) = u:=⟨_,rfl⟩
 have hR:w.heap.size + 1 = w1.heap.size:=by rw [← hw1,World.size_alloc]
 obtain ⟨z,hz⟩:∃ z,w.heap.size = z:=⟨_,rfl⟩
 have hcz:Cells w1 z 38 (c.cells iv):=hw1 ▸ hz ▸ Cells.new w _ _
 rw [hw1,hR,hz]
 obtain ⟨w2,hw2⟩:∃ u,w1.alloc (.cells #[.int .i64 0,.int .i64 0,.slice none 0 0] 34) = u:=⟨_,rfl⟩
 obtain ⟨R,hRR⟩:∃ R,w1.heap.size = R:=⟨_,rfl⟩
 have o12:Only [] w1 w2:=hw2 ▸ oz.alloc _
 have o2:Only [] w w2:=Only.tr0 (hw1 ▸ oz.alloc _) o12
 have hcR:Cells w2 R 34 [.int .i64 0,.int .i64 0,.slice none 0 0]:=hw2 ▸ hRR ▸ Cells.new w1 _ _
 rw [hw2,hRR]
 have hwR:w.heap.size ≤ R:=by omega
 have hwz:w.heap.size ≤ z:=by omega
 have hX2:=hX.keep o2 (by simp)
 have hcz2:=hcz.only o12 (by simp)
 have HCZ:=Hd hcz2
 have hpl:=hX2.cells.lt
 have HX:=Hd hX
 have HX2:=Hd hX2
 have HO2:=Hd o2
 have HR:=Hd hcR
 have hRn:Hid (R ∉ allG p tb tv lb lv O):=Hd (fun hm => by have:=HX.out.lts R hm;omega)
 have hzn:Hid (z ∉ allG p tb tv lb lv O):=Hd (fun hm => by have:=HX.out.lts z hm;omega)
 obtain ⟨c0,c1,c2,c3,c4,c5,c6,c7,c8,c9,c10⟩:=cm_cells hcz2
 have p2:=hX2.cells.cell (k:=2) rfl
 have v2:=fun u:Since w2 => u.cell p2
 have u6:=fun u:Since w2 => u.cell c6
 have u7:=fun u:Since w2 => u.cell c7
 have u8:=fun u:Since w2 => u.cell c8
 clear hw1 hw2 hR hRR hz o2 o12 hcR hX hX2 hcz hcz2 c1 c2 c3 c4 c5 c9 c10 HCZ hzn hwz
 by_cases k2:c.kd = 2
 · have t2:(c.kd == 2) = true:=by simpa using k2
   have HE:=Hd (H2.out k2)
   clear k2
   go_wp2_with fail
   refine wp_region_only_tail w2 oz 6 (by kernel_rfl) (by kernel_rfl) ?_
   simp only [tk1,tk0,dr1,dr0]
   repeat (go_big_quiet_step (fail))
   refine wpQuiet_nil ?_
   rintro ⟨w3,ho3⟩
   dsimp only
   have HX3:=Hd (HX2.out.keep ho3 (by simp))
   have HO3:=Hd (HO2.out.tr ho3)
   have HR3:=Hd (HR.out.only ho3 (by simp))
   have CR:=Hd (C2.out w3 HX3.out.s)
   clear ho3 v2 u6 u7 u8 c0 c6 c7 c8 p2
   go_wp2_with fail
   refine CR.out.mono ?_
   rintro e w4 ⟨rfl,O',hs,ho,hn⟩
   obtain ⟨hX4,hO4,hN4⟩:=HX3.out.sdo hs ho hn
   have hRn':R ∉ allG p tb tv lb lv O':=fun hm => by
    rcases hN4 R hm with e | e
    · exact hRn.out e
    · have:=HR3.out.lt;omega
   have hR4:=HR3.out.only hO4 (by simpa using hRn.out)
   have oR:∀ row,Only [R] w4 (w4.setRow R row):=fun row => oz.setRow (.inl (by simp)) _
   have HFIN:Hid (∀ row,ReG w (w4.setRow R row) p (allG p tb tv lb lv O) res.1 ⟨a.t,a.d,res.2⟩ (.returned (.agg #[.int .i64 g2.1,.int .i64 0,.slice none 0 0]))):=Hd (fun row => by
    have hk:=HRK.out
    rw [HE.out] at hk ⊢
    exact ReG.nil rfl (wide_lt hk.er.1 (Int.le_trans hk.er.2 (by omega))) hk.n ⟨tb,tv,lb,lv,sb,O',B,BL,hX4.keep (oR row) (fun k hk hm => by simp at hm;subst hm;exact hRn' hk),rfl⟩ (((HO3.out.of0).trans hO4 (fun x hx => .inl hx)).trans (oR row) (fun x hx => by simp at hx;subst hx;exact .inr hwR)) (fun x hx => (hN4 x hx).imp id (fun h => Nat.le_trans HO3.out.size h)))
   have HRF:=Hd hR4
   have hst:=HRF.out
   have hone:(#[.int .i64 g2.1,.int .i64 0,.slice none 0 0]:Array Value).all (·.oneCell') = true:=by simp [Value.oneCell']
   clear hs ho hn hX4 hO4 hN4 hRn' oR hR4 CR HX2 HO2 HR
   go_wp2_with (refine wpList_store_row rfl 34 _ _ rfl R #[.int .i64 g2.1,.int .i64 0,.slice none 0 0] rfl rfl 34 _ hst (by kernel_rfl) rfl hone ?_)
   (try simp only [Exit.inBlock,Exit.then])
   refine bodyPost_ret (v:=.agg #[.int .i64 g2.1,.int .i64 0,.slice none 0 0]) ?_ rfl (HFIN.out _)
   exact results_row Tryz.results90 _ _ R 34 [.int .i64 g2.1,.int .i64 0,.slice none 0 0] _ rfl (Cells.setRow HRF.out [.int .i64 g2.1,.int .i64 0,.slice none 0 0]) Tryz.underlying34 rfl (by kernel_rfl)
 by_cases k3:c.kd = 3
 · have t2:(c.kd == 2) = false:=by simpa using k2
   have t3:(c.kd == 3) = true:=by simpa using k3
   have HE:=Hd (H3.out k3)
   clear k2 k3
   go_wp2_with fail
   refine wp_region_only_tail w2 oz 6 (by kernel_rfl) (by kernel_rfl) ?_
   simp only [tk1,tk0,dr1,dr0]
   repeat (go_big_quiet_step (fail))
   refine wpQuiet_nil ?_
   rintro ⟨w3,ho3⟩
   dsimp only
   have HX3:=Hd (HX2.out.keep ho3 (by simp))
   have HO3:=Hd (HO2.out.tr ho3)
   have HR3:=Hd (HR.out.only ho3 (by simp))
   have CR:=Hd (C3.out w3 HX3.out.s)
   clear ho3 v2 u6 u7 u8 c0 c6 c7 c8 p2
   go_wp2_with fail
   refine CR.out.mono ?_
   rintro e w4 ⟨rfl,O',hs,ho,hn⟩
   obtain ⟨hX4,hO4,hN4⟩:=HX3.out.sdo hs ho hn
   have hRn':R ∉ allG p tb tv lb lv O':=fun hm => by
    rcases hN4 R hm with e | e
    · exact hRn.out e
    · have:=HR3.out.lt;omega
   have hR4:=HR3.out.only hO4 (by simpa using hRn.out)
   have oR:∀ row,Only [R] w4 (w4.setRow R row):=fun row => oz.setRow (.inl (by simp)) _
   have HFIN:Hid (∀ row,ReG w (w4.setRow R row) p (allG p tb tv lb lv O) res.1 ⟨a.t,a.d,res.2⟩ (.returned (.agg #[.int .i64 g3.1,.int .i64 0,.slice none 0 0]))):=Hd (fun row => by
    have hk:=HRK.out
    rw [HE.out] at hk ⊢
    exact ReG.nil rfl (wide_lt hk.er.1 (Int.le_trans hk.er.2 (by omega))) hk.n ⟨tb,tv,lb,lv,sb,O',B,BL,hX4.keep (oR row) (fun k hk hm => by simp at hm;subst hm;exact hRn' hk),rfl⟩ (((HO3.out.of0).trans hO4 (fun x hx => .inl hx)).trans (oR row) (fun x hx => by simp at hx;subst hx;exact .inr hwR)) (fun x hx => (hN4 x hx).imp id (fun h => Nat.le_trans HO3.out.size h)))
   have HRF:=Hd hR4
   have hst:=HRF.out
   have hone:(#[.int .i64 g3.1,.int .i64 0,.slice none 0 0]:Array Value).all (·.oneCell') = true:=by simp [Value.oneCell']
   clear hs ho hn hX4 hO4 hN4 hRn' oR hR4 CR HX2 HO2 HR
   go_wp2_with (refine wpList_store_row rfl 34 _ _ rfl R #[.int .i64 g3.1,.int .i64 0,.slice none 0 0] rfl rfl 34 _ hst (by kernel_rfl) rfl hone ?_)
   (try simp only [Exit.inBlock,Exit.then])
   refine bodyPost_ret (v:=.agg #[.int .i64 g3.1,.int .i64 0,.slice none 0 0]) ?_ rfl (HFIN.out _)
   exact results_row Tryz.results90 _ _ R 34 [.int .i64 g3.1,.int .i64 0,.slice none 0 0] _ rfl (Cells.setRow HRF.out [.int .i64 g3.1,.int .i64 0,.slice none 0 0]) Tryz.underlying34 rfl (by kernel_rfl)
 by_cases k4:c.kd = 4
 · have t2:(c.kd == 2) = false:=by simpa using k2
   have t3:(c.kd == 3) = false:=by simpa using k3
   have t4:(c.kd == 4) = true:=by simpa using k4
   have HE:=Hd (H4.out k4)
   clear k2 k3 k4
   go_wp2_with fail
   refine wp_region_only_tail w2 oz 8 (by kernel_rfl) (by kernel_rfl) ?_
   simp only [tk1,tk0,dr1,dr0]
   repeat (go_big_quiet_step (fail))
   refine wpQuiet_nil ?_
   rintro ⟨w3,ho3⟩
   dsimp only
   have HX3:=Hd (HX2.out.keep ho3 (by simp))
   have HO3:=Hd (HO2.out.tr ho3)
   have HR3:=Hd (HR.out.only ho3 (by simp))
   have CR:=Hd (C4.out w3 HX3.out.s)
   clear ho3 v2 u6 u7 u8 c0 c6 c7 c8 p2
   go_wp2_with fail
   refine CR.out.mono ?_
   rintro e w4 ⟨rfl,O',hs,ho,hn⟩
   obtain ⟨hX4,hO4,hN4⟩:=HX3.out.sdo hs ho hn
   have hRn':R ∉ allG p tb tv lb lv O':=fun hm => by
    rcases hN4 R hm with e | e
    · exact hRn.out e
    · have:=HR3.out.lt;omega
   have hR4:=HR3.out.only hO4 (by simpa using hRn.out)
   have oR:∀ row,Only [R] w4 (w4.setRow R row):=fun row => oz.setRow (.inl (by simp)) _
   have HFIN:Hid (∀ row,ReG w (w4.setRow R row) p (allG p tb tv lb lv O) res.1 ⟨a.t,a.d,res.2⟩ (.returned (.agg #[.int .i64 g4.1,.int .i64 0,.slice none 0 0]))):=Hd (fun row => by
    have hk:=HRK.out
    rw [HE.out] at hk ⊢
    exact ReG.nil rfl (wide_lt hk.er.1 (Int.le_trans hk.er.2 (by omega))) hk.n ⟨tb,tv,lb,lv,sb,O',B,BL,hX4.keep (oR row) (fun k hk hm => by simp at hm;subst hm;exact hRn' hk),rfl⟩ (((HO3.out.of0).trans hO4 (fun x hx => .inl hx)).trans (oR row) (fun x hx => by simp at hx;subst hx;exact .inr hwR)) (fun x hx => (hN4 x hx).imp id (fun h => Nat.le_trans HO3.out.size h)))
   have HRF:=Hd hR4
   have hst:=HRF.out
   have hone:(#[.int .i64 g4.1,.int .i64 0,.slice none 0 0]:Array Value).all (·.oneCell') = true:=by simp [Value.oneCell']
   clear hs ho hn hX4 hO4 hN4 hRn' oR hR4 CR HX2 HO2 HR
   go_wp2_with (refine wpList_store_row rfl 34 _ _ rfl R #[.int .i64 g4.1,.int .i64 0,.slice none 0 0] rfl rfl 34 _ hst (by kernel_rfl) rfl hone ?_)
   (try simp only [Exit.inBlock,Exit.then])
   refine bodyPost_ret (v:=.agg #[.int .i64 g4.1,.int .i64 0,.slice none 0 0]) ?_ rfl (HFIN.out _)
   exact results_row Tryz.results90 _ _ R 34 [.int .i64 g4.1,.int .i64 0,.slice none 0 0] _ rfl (Cells.setRow HRF.out [.int .i64 g4.1,.int .i64 0,.slice none 0 0]) Tryz.underlying34 rfl (by kernel_rfl)
 have HE:=Hd (H5.out k2 k3 k4)
 have t2:(c.kd == 2) = false:=by simpa using k2
 have t3:(c.kd == 3) = false:=by simpa using k3
 have t4:(c.kd == 4) = false:=by simpa using k4
 have CR2:=Hd (C5.out w2.drew (HX2.out.s.keep ((Only.refl [] w2).drew) (by simp)))
 have hst0:=HR.out
 clear k2 k3 k4 v2 u6 u7 u8 c8
 go_upto_region 8 with fail
 clear c0
 go_cut [5,6] from 41 (fun u5 u6 wx => u6 = .int .i64 g5.2 ∧ Hid (Only [] w2 wx ∧ wx.ownsRow w2.heap.size 101 5 u5 g5.1.length (poL g5.1)))
 case first =>
  go_region_law (go_simp;go_at_call 94;go_loud (refine CR2.out.mono ?_;rintro e w4 ⟨pv,rfl,hr4,ho4⟩;have HWX:Hid (Only [] w2 w4 ∧ w4.ownsRow w2.heap.size 101 5 pv g5.1.length (poL g5.1)):=Hd ⟨((Only.refl _ w2).drew).tr ho4,hr4⟩;clear ho4 hr4))
  all_goals
   go_wp2_with fail
   go_meet
   exact ⟨rfl,HWX⟩
 case rest =>
 obtain ⟨rfl,HWX⟩:=hcut
 have hX3:=HX2.out.keep HWX.out.1 (by simp)
 obtain ⟨PA,pc,rfl⟩:=(SlAt.of_own HWX.out.2).shape
 have hR2:=HR.out.lt
 have hR3:=HR.out.only HWX.out.1 (by simp)
 have oR:∀ row,Only [R] wc (wc.setRow R row):=fun row => oz.setRow (.inl (by simp)) _
 have hge:∀ gg,(Value.slice PA g5.1.length pc).ownBlock = some gg → w2.heap.size ≤ gg:=fun gg hgg => (HWX.out.2.lt gg hgg).1
 have HFIN:Hid (∀ row,ReG w (wc.setRow R row) p (allG p tb tv lb lv O) res.1 ⟨a.t,a.d,res.2⟩ (.returned (.agg #[.int .i64 g5.2,.int .i64 0,.slice PA g5.1.length pc]))):=Hd (fun row => by
  have hk:=HRK.out
  rw [HE.out] at hk ⊢
  exact ⟨.slice PA g5.1.length pc,_,rfl,hk.at (own_keep HWX.out.2 (oR row) (fun b hb e => by simp at hb;subst hb;have:=hge b e;omega)),fun _ gg hgg => ⟨by have:=hge gg hgg;have:=HO2.out.size;omega,fun hm => by have:=hge gg hgg;have:=HX2.out.lts gg hm;omega⟩,⟨tb,tv,lb,lv,sb,O,B,BL,hX3.keep (oR row) (fun k hk hm => by simp at hm;subst hm;exact hRn.out hk),rfl⟩,((HO2.out.tr HWX.out.1).of0).trans (oR row) (fun x hx => by simp at hx;subst hx;exact .inr hwR),fun x hx => .inl hx⟩)
 have HRF:=Hd hR3
 have hst:=HRF.out
 have hone:(#[.int .i64 g5.2,.int .i64 0,.slice PA g5.1.length pc]:Array Value).all (·.oneCell') = true:=by simp [Value.oneCell']
 clear hX3 oR hR3 CR2 p2 c6 c7 hge hst0
 go_wp2_with (refine wpList_store_row rfl 34 _ _ rfl R #[.int .i64 g5.2,.int .i64 0,.slice PA g5.1.length pc] rfl rfl 34 _ hst (by kernel_rfl) rfl hone ?_)
 (try simp only [Exit.inBlock,Exit.then])
 refine bodyPost_ret (v:=.agg #[.int .i64 g5.2,.int .i64 0,.slice PA g5.1.length pc]) ?_ rfl (HFIN.out _)
 exact results_row Tryz.results90 _ _ R 34 [.int .i64 g5.2,.int .i64 0,.slice PA g5.1.length pc] _ rfl (Cells.setRow HRF.out [.int .i64 g5.2,.int .i64 0,.slice PA g5.1.length pc]) Tryz.underlying34 rfl (by kernel_rfl)
end Go.Proofs.YtcjfmildalappaaGreat
