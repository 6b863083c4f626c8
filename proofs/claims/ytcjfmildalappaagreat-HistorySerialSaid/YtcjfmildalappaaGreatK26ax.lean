/-
  Contracts; each theorem bears its own conditions.
-/
import Derived.Test.YtcjfmildalappaaGreatK26ak
import Derived.Test.YtcjfmildalappaaGreatK26al
import Derived.Test.YtcjfmildalappaaGreatK26am
import Derived.Test.YtcjfmildalappaaGreatK26av
import Derived.Test.YtcjfmildalappaaGreatK26aw
set_option linter.all false
set_option maxRecDepth 100000
set_option maxHeartbeats 8000000
namespace Go.Proofs.YtcjfmildalappaaGreat
open Go.RowKit
theorem rfield1 (x y z:Int) (w:World):(Instr.field 137 (.agg #[.int .i64 x,.int .i64 y,.int .i64 z]) 1).run Tryz.prog w = .ok (.int .i64 y) w:=by kernel_rfl
theorem rg_other1 (p:Nat) (K:List Nat) (a:AgS) (n:Nat) (hn:n ≤ 1000000000) (c:Cm) (iv:Value) (w:World) (h:RgAt w p K a) (hI:AgI n a) (hfd:c.fd.length ≤ maxLen) (hil:c.its.length ≤ 1000000) (hit:∀ x ∈ c.its,x.Len) (hsl:ItK w K iv c) (k1:c.kd = 1):
 Calls Tryz.prog 88 #[.pointer (some ⟨p,0,none⟩),c.val iv] w fun e w' => ReG w w' p K (othA a c).1 (othA a c).2 e:=by
 have Hk1:=Hd k1
 clear k1
 obtain ⟨tb,tv,lb,lv,sb,O,B,BL,hX,rfl⟩:=h
 have hrk:=(othA_step hI hn c hil).2
 have hk1:=hI.ok.ever
 have hk2:=hI.ever
 have hk3:=hI.ok.len
 have hu0:=hI.d.up.n0
 have hu1:=hI.d.up.n1
 have hsm0:=hI.d.up.small (show ((n:Nat):Int) ≤ 4611686018427387904 by omega)
 obtain ⟨IA,im,ic,rfl⟩:∃ IA im ic,iv = .slice IA im ic:=by
  obtain ⟨A,cc,e⟩:=(hsl w oz).shape
  exact ⟨A,_,cc,e⟩
 have o1:c.kd = 1 → othA a c = (⟨0,a.t.ever + 1,[]⟩,⟨⟨S15.regL a.t.l ⟨a.t.ever + 1,0,.empty⟩,a.t.ever + 1⟩,a.d,a.s⟩):=fun h => by unfold othA;rw [if_pos h]
 have o6:c.kd ≠ 1 → c.kd = 6 → othA a c = (⟨0,a.d.now + 1,[]⟩,⟨a.t,a.d.tick,a.s⟩):=fun h1 h => by unfold othA;rw [if_neg h1,if_pos h]
 have o7:c.kd ≠ 1 → c.kd ≠ 6 → c.kd = 7 → othA a c = (⟨(a.d.grant c.sh c.nd).2.2,(a.d.grant c.sh c.nd).2.1,[]⟩,⟨a.t,(a.d.grant c.sh c.nd).1,a.s⟩):=fun h1 h6 h => by unfold othA;rw [if_neg h1,if_neg h6,if_pos h]
 have o9:c.kd ≠ 1 → c.kd ≠ 6 → c.kd ≠ 7 → c.kd = 9 → othA a c = (⟨0,(a.d.get c.sh).epoch,[]⟩,a):=fun h1 h6 h7 h => by unfold othA;rw [if_neg h1,if_neg h6,if_neg h7,if_pos h]
 have CG0:=Hd (fun w' hd => L16.rf_grant BL lb lv a.d c.sh c.nd w' hd hsm0)
 have CS0:=Hd (fun w' hd => L16.rf_get BL lb lv a.d c.sh w' hd)
 have CR0:=Hd (fun w' ht => S15.rt_register B tb tv a.t.l a.t.ever w' ht hk3 ⟨by omega,by omega⟩)
 have HRK:=Hd hrk
 obtain ⟨ev,hev⟩:∃ x,a.t.ever = x:=⟨_,rfl⟩
 obtain ⟨nw,hnw⟩:∃ x,a.d.now = x:=⟨_,rfl⟩
 obtain ⟨gr,hgr⟩:∃ x,a.d.grant c.sh c.nd = x:=⟨_,rfl⟩
 obtain ⟨⟨gn,ge,gt⟩,hgg⟩:∃ x,a.d.get c.sh = x:=⟨_,rfl⟩
 rw [hgr] at CG0 o7
 rw [hgg] at CS0 o9
 unfold L16.Ls.val at CS0
 dsimp only at CS0 o9
 rw [hnw] at o6 hu0 hu1
 rw [hev] at CR0 o1 hk1 hk2
 have HI:=Hd hI
 have O1:=Hd o1
 have O6:=Hd o6
 have O7:=Hd o7
 have O9:=Hd o9
 have HNW:=Hd hnw
 have HEV:=Hd hev
 unfold Cm.val
 clear hgr hgg hev hnw hrk hsl hI hil hit o1 o6 o7 o9 hsm0 hk3
 go_enter Tryz.func88,Tryz.ntmps88
 go_upto_region 1 with fail
 obtain ⟨w1,hw1⟩:∃ u,w.alloc (.cells #[.int .i64 c.kd,.int .i64 c.ss,.int .i64 c.sq,.int .i64 c.sh,.int .i64 c.nd,.int .i64 c.ep,.int .i64 c.n,.string ⟨c.fd.toArray⟩,.string ⟨c.id.toArray⟩,.slice IA im ic,.bool c.fl] 38) = u:=⟨_,rfl⟩
 have hR:w.heap.size + 1 = w1.heap.size:=by rw [← hw1,World.size_alloc]
 obtain ⟨z,hz⟩:∃ z,w.heap.size = z:=⟨_,rfl⟩
 have hcz:Cells w1 z 38 (c.cells (.slice IA im ic)):=hw1 ▸ hz ▸ Cells.new w _ _
 rw [hw1,hR,hz]
 obtain ⟨w2,hw2⟩:∃ u,w1.alloc (.cells #[.int .i64 0,.int .i64 0,.slice none 0 0] 34) = u:=⟨_,rfl⟩
 obtain ⟨R,hRR⟩:∃ R,w1.heap.size = R:=⟨_,rfl⟩
 have o12:Only [] w1 w2:=hw2 ▸ oz.alloc _
 have o2:Only [] w w2:=Only.tr0 (hw1 ▸ oz.alloc _) o12
 have hcR:Cells w2 R 34 [.int .i64 0,.int .i64 0,.slice none 0 0]:=hw2 ▸ hRR ▸ Cells.new w1 _ _
 rw [hw2,hRR]
 have hwR:w.heap.size ≤ R:=by omega
 have hwz:w.heap.size ≤ z:=by omega
 have hX2:=hX.keep o2 (by simp)
 have hcz2:=hcz.only o12 (by simp)
 have HCZ:=Hd hcz2
 have hpl:=hX2.cells.lt
 have HX:=Hd hX
 have HX2:=Hd hX2
 have HO2:=Hd o2
 have HR:=Hd hcR
 have hRn:Hid (R ∉ allG p tb tv lb lv O):=Hd (fun hm => by have:=HX.out.lts R hm;omega)
 have hzn:Hid (z ∉ allG p tb tv lb lv O):=Hd (fun hm => by have:=HX.out.lts z hm;omega)
 obtain ⟨c0,c1,c2,c3,c4,c5,c6,c7,c8,c9,c10⟩:=cm_cells hcz2
 have p0:=hX2.cells.cell (k:=0) rfl
 have p1:=hX2.cells.cell (k:=1) rfl
 have p2:=hX2.cells.cell (k:=2) rfl
 have l0:=hX2.d.cells.cell (k:=0) rfl
 have ll:=hX2.d.cells.lt
 have lf:=hX2.d.cells.frozen 0
 rw [HNW.out] at l0
 have v1:=fun u:Since w2 => u.cell p1
 have v2:=fun u:Since w2 => u.cell p2
 have vl:=fun u:Since w2 => u.cell l0
 have u3:=fun u:Since w2 => u.cell c3
 have u4:=fun u:Since w2 => u.cell c4
 have u5:=fun u:Since w2 => u.cell c5
 have u7:=fun u:Since w2 => u.cell c7
 have u9:=fun u:Since w2 => u.cell c9
 clear hw1 hw2 hR hRR hz o2 o12 hcR hX hX2 hcz hcz2 c1 c2 c5 c6 c8 hwz
 have k1:=Hk1.out
 clear Hk1
 · have t1:(c.kd == 1) = true:=by simpa using k1
   have HE:=Hd (O1.out k1)
   have CR:=Hd (CR0.out w2 (by have:=HX2.out.t;rwa [HEV.out] at this))
   clear k1 v1 v2 vl u3 u4 u5 u7 u9 c3 c4 c7 c9 c10 p1 p2 l0 lf
   go_wp2_with fail
   refine CR.out.mono ?_
   rintro e w4 ⟨rfl,tv',ht,ho,hn4⟩
   have HT:Hid (S15.RtV w4 B tb tv' (S15.regL a.t.l ⟨ev + 1,0,.empty⟩) (ev + 1)):=Hd ht
   obtain ⟨hX4,hO4,hN4⟩:=HX2.out.tdo (t':=⟨S15.regL a.t.l ⟨ev + 1,0,.empty⟩,ev + 1⟩) ht ho (fun g hg => .inr (hn4 g hg))
   have hRn':R ∉ allG p tb tv' lb lv O:=fun hm => by
    rcases hN4 R hm with e | e
    · exact hRn.out e
    · have:=HR.out.lt;omega
   have hR4:=HR.out.only hO4 (by simpa using hRn.out)
   have oR:∀ row,Only [R] w4 (w4.setRow R row):=fun row => oz.setRow (.inl (by simp)) _
   have HFIN:Hid (∀ row,ReG w (w4.setRow R row) p (allG p tb tv lb lv O) (othA a c).1 (othA a c).2 (.returned (.agg #[.int .i64 0,.int .i64 (ev + 1),.slice none 0 0]))):=Hd (fun row => by
    have hk:=HRK.out
    rw [HE.out] at hk ⊢
    exact ReG.nil rfl (wide_lt hk.er.1 (Int.le_trans hk.er.2 (by omega))) hk.n ⟨tb,tv',lb,lv,sb,O,B,BL,hX4.keep (oR row) (fun k hk hm => by simp at hm;subst hm;exact hRn' hk),rfl⟩ (((HO2.out.of0).trans hO4 (fun x hx => .inl hx)).trans (oR row) (fun x hx => by simp at hx;subst hx;exact .inr hwR)) (fun x hx => (hN4 x hx).imp id (fun h => Nat.le_trans HO2.out.size h)))
   have HRF:=Hd hR4
   have hst:=HRF.out
   have hone:(#[.int .i64 0,.int .i64 (ev + 1),.slice none 0 0]:Array Value).all (·.oneCell') = true:=by simp [Value.oneCell']
   clear ht ho hn4 hX4 hO4 hN4 hRn' oR hR4 CR c0 p0
   go_wp2_with (refine wpList_store_row rfl 34 _ _ rfl R #[.int .i64 0,.int .i64 (ev + 1),.slice none 0 0] rfl rfl 34 _ hst (by kernel_rfl) rfl hone ?_)
   (try simp only [Exit.inBlock,Exit.then])
   refine bodyPost_ret (v:=.agg #[.int .i64 0,.int .i64 (ev + 1),.slice none 0 0]) ?_ rfl (HFIN.out _)
   exact results_row Tryz.results88 _ _ R 34 [.int .i64 0,.int .i64 (ev + 1),.slice none 0 0] _ rfl (Cells.setRow HRF.out [.int .i64 0,.int .i64 (ev + 1),.slice none 0 0]) Tryz.underlying34 rfl (by kernel_rfl)
theorem rg_other6 (p:Nat) (K:List Nat) (a:AgS) (n:Nat) (hn:n ≤ 1000000000) (c:Cm) (iv:Value) (w:World) (h:RgAt w p K a) (hI:AgI n a) (hfd:c.fd.length ≤ maxLen) (hil:c.its.length ≤ 1000000) (hit:∀ x ∈ c.its,x.Len) (hsl:ItK w K iv c) (k1:¬ c.kd = 1) (k6:c.kd = 6):
 Calls Tryz.prog 88 #[.pointer (some ⟨p,0,none⟩),c.val iv] w fun e w' => ReG w w' p K (othA a c).1 (othA a c).2 e:=by
 have Hk1:=Hd k1
 have Hk6:=Hd k6
 clear k1 k6
 obtain ⟨tb,tv,lb,lv,sb,O,B,BL,hX,rfl⟩:=h
 have hrk:=(othA_step hI hn c hil).2
 have hk1:=hI.ok.ever
 have hk2:=hI.ever
 have hk3:=hI.ok.len
 have hu0:=hI.d.up.n0
 have hu1:=hI.d.up.n1
 have hsm0:=hI.d.up.small (show ((n:Nat):Int) ≤ 4611686018427387904 by omega)
 obtain ⟨IA,im,ic,rfl⟩:∃ IA im ic,iv = .slice IA im ic:=by
  obtain ⟨A,cc,e⟩:=(hsl w oz).shape
  exact ⟨A,_,cc,e⟩
 have o1:c.kd = 1 → othA a c = (⟨0,a.t.ever + 1,[]⟩,⟨⟨S15.regL a.t.l ⟨a.t.ever + 1,0,.empty⟩,a.t.ever + 1⟩,a.d,a.s⟩):=fun h => by unfold othA;rw [if_pos h]
 have o6:c.kd ≠ 1 → c.kd = 6 → othA a c = (⟨0,a.d.now + 1,[]⟩,⟨a.t,a.d.tick,a.s⟩):=fun h1 h => by unfold othA;rw [if_neg h1,if_pos h]
 have o7:c.kd ≠ 1 → c.kd ≠ 6 → c.kd = 7 → othA a c = (⟨(a.d.grant c.sh c.nd).2.2,(a.d.grant c.sh c.nd).2.1,[]⟩,⟨a.t,(a.d.grant c.sh c.nd).1,a.s⟩):=fun h1 h6 h => by unfold othA;rw [if_neg h1,if_neg h6,if_pos h]
 have o9:c.kd ≠ 1 → c.kd ≠ 6 → c.kd ≠ 7 → c.kd = 9 → othA a c = (⟨0,(a.d.get c.sh).epoch,[]⟩,a):=fun h1 h6 h7 h => by unfold othA;rw [if_neg h1,if_neg h6,if_neg h7,if_pos h]
 have CG0:=Hd (fun w' hd => L16.rf_grant BL lb lv a.d c.sh c.nd w' hd hsm0)
 have CS0:=Hd (fun w' hd => L16.rf_get BL lb lv a.d c.sh w' hd)
 have CR0:=Hd (fun w' ht => S15.rt_register B tb tv a.t.l a.t.ever w' ht hk3 ⟨by omega,by omega⟩)
 have HRK:=Hd hrk
 obtain ⟨ev,hev⟩:∃ x,a.t.ever = x:=⟨_,rfl⟩
 obtain ⟨nw,hnw⟩:∃ x,a.d.now = x:=⟨_,rfl⟩
 obtain ⟨gr,hgr⟩:∃ x,a.d.grant c.sh c.nd = x:=⟨_,rfl⟩
 obtain ⟨⟨gn,ge,gt⟩,hgg⟩:∃ x,a.d.get c.sh = x:=⟨_,rfl⟩
 rw [hgr] at CG0 o7
 rw [hgg] at CS0 o9
 unfold L16.Ls.val at CS0
 dsimp only at CS0 o9
 rw [hnw] at o6 hu0 hu1
 rw [hev] at CR0 o1 hk1 hk2
 have HI:=Hd hI
 have O1:=Hd o1
 have O6:=Hd o6
 have O7:=Hd o7
 have O9:=Hd o9
 have HNW:=Hd hnw
 have HEV:=Hd hev
 unfold Cm.val
 clear hgr hgg hev hnw hrk hsl hI hil hit o1 o6 o7 o9 hsm0 hk3
 go_enter Tryz.func88,Tryz.ntmps88
 go_upto_region 1 with fail
 obtain ⟨w1,hw1⟩:∃ u,w.alloc (.cells #[.int .i64 c.kd,.int .i64 c.ss,.int .i64 c.sq,.int .i64 c.sh,.int .i64 c.nd,.int .i64 c.ep,.int .i64 c.n,.string ⟨c.fd.toArray⟩,.string ⟨c.id.toArray⟩,.slice IA im ic,.bool c.fl] 38) = u:=⟨_,rfl⟩
 have hR:w.heap.size + 1 = w1.heap.size:=by rw [← hw1,World.size_alloc]
 obtain ⟨z,hz⟩:∃ z,w.heap.size = z:=⟨_,rfl⟩
 have hcz:Cells w1 z 38 (c.cells (.slice IA im ic)):=hw1 ▸ hz ▸ Cells.new w _ _
 rw [hw1,hR,hz]
 obtain ⟨w2,hw2⟩:∃ u,w1.alloc (.cells #[.int .i64 0,.int .i64 0,.slice none 0 0] 34) = u:=⟨_,rfl⟩
 obtain ⟨R,hRR⟩:∃ R,w1.heap.size = R:=⟨_,rfl⟩
 have o12:Only [] w1 w2:=hw2 ▸ oz.alloc _
 have o2:Only [] w w2:=Only.tr0 (hw1 ▸ oz.alloc _) o12
 have hcR:Cells w2 R 34 [.int .i64 0,.int .i64 0,.slice none 0 0]:=hw2 ▸ hRR ▸ Cells.new w1 _ _
 rw [hw2,hRR]
 have hwR:w.heap.size ≤ R:=by omega
 have hwz:w.heap.size ≤ z:=by omega
 have hX2:=hX.keep o2 (by simp)
 have hcz2:=hcz.only o12 (by simp)
 have HCZ:=Hd hcz2
 have hpl:=hX2.cells.lt
 have HX:=Hd hX
 have HX2:=Hd hX2
 have HO2:=Hd o2
 have HR:=Hd hcR
 have hRn:Hid (R ∉ allG p tb tv lb lv O):=Hd (fun hm => by have:=HX.out.lts R hm;omega)
 have hzn:Hid (z ∉ allG p tb tv lb lv O):=Hd (fun hm => by have:=HX.out.lts z hm;omega)
 obtain ⟨c0,c1,c2,c3,c4,c5,c6,c7,c8,c9,c10⟩:=cm_cells hcz2
 have p0:=hX2.cells.cell (k:=0) rfl
 have p1:=hX2.cells.cell (k:=1) rfl
 have p2:=hX2.cells.cell (k:=2) rfl
 have l0:=hX2.d.cells.cell (k:=0) rfl
 have ll:=hX2.d.cells.lt
 have lf:=hX2.d.cells.frozen 0
 rw [HNW.out] at l0
 have v1:=fun u:Since w2 => u.cell p1
 have v2:=fun u:Since w2 => u.cell p2
 have vl:=fun u:Since w2 => u.cell l0
 have u3:=fun u:Since w2 => u.cell c3
 have u4:=fun u:Since w2 => u.cell c4
 have u5:=fun u:Since w2 => u.cell c5
 have u7:=fun u:Since w2 => u.cell c7
 have u9:=fun u:Since w2 => u.cell c9
 clear hw1 hw2 hR hRR hz o2 o12 hcR hX hX2 hcz hcz2 c1 c2 c5 c6 c8 hwz
 have k1:=Hk1.out
 have k6:=Hk6.out
 clear Hk1 Hk6
 · have t1:(c.kd == 1) = false:=by simpa using k1
   have t6:(c.kd == 6) = true:=by simpa using k6
   have HE:=Hd (O6.out k1 k6)
   clear k1 k6 v1 v2 vl u3 u4 u5 u7 u9 c3 c4 c7 c9 c10 p2 p0
   obtain ⟨w4,hw4⟩:∃ u,w2.setCell ⟨lb,0,none⟩ (.int .i64 (nw + 1)) = u:=⟨_,rfl⟩
   have hd4:L16.RfV w4 BL lb lv a.d.tick:=by
    have:=HX2.out.d.tick
    rw [HNW.out,hw4] at this
    exact this
   have ho4:Only (lb :: rb lv) w2 w4:=hw4 ▸ oz.setCell (.inl (by simp)) _
   obtain ⟨hX4,hO4⟩:=HX2.out.ddo (d':=a.d.tick) hd4 ho4
   have hp4:=hX4.cells.cell (k:=1) rfl
   have hl4a:=hX4.d.cells.cell (k:=0) rfl
   have hpl4:=hX4.cells.lt
   have hll4:=hX4.d.cells.lt
   have hE4:a.d.tick.now = nw + 1:=by show a.d.now + 1 = _;rw [HNW.out]
   have hl4:w4.cell? ⟨lb,0,none⟩ = some (.int .i64 (nw + 1)):=by rw [← hE4];exact hl4a
   clear hl4a
   have hRn':R ∉ allG p tb tv lb lv O:=hRn.out
   have hR4:=HR.out.only hO4 (by simpa using hRn.out)
   have oR:∀ row,Only [R] w4 (w4.setRow R row):=fun row => oz.setRow (.inl (by simp)) _
   have HFIN:Hid (∀ row,ReG w (w4.setRow R row) p (allG p tb tv lb lv O) (othA a c).1 (othA a c).2 (.returned (.agg #[.int .i64 0,.int .i64 (nw + 1),.slice none 0 0]))):=Hd (fun row => by
    have hk:=HRK.out
    rw [HE.out] at hk ⊢
    exact ReG.nil rfl (wide_lt hk.er.1 (Int.le_trans hk.er.2 (by omega))) hk.n ⟨tb,tv,lb,lv,sb,O,B,BL,hX4.keep (oR row) (fun k hk hm => by simp at hm;subst hm;exact hRn' hk),rfl⟩ (((HO2.out.of0).trans hO4 (fun x hx => .inl hx)).trans (oR row) (fun x hx => by simp at hx;subst hx;exact .inr hwR)) (fun x hx => .inl hx))
   have HRF:=Hd hR4
   have hst:=HRF.out
   have hone:(#[.int .i64 0,.int .i64 (nw + 1),.slice none 0 0]:Array Value).all (·.oneCell') = true:=by simp [Value.oneCell']
   clear hd4 ho4 hX4 hO4 hRn' oR hR4 hE4
   go_wp2_with (refine wpList_store_row rfl 34 _ _ rfl R #[.int .i64 0,.int .i64 (nw + 1),.slice none 0 0] rfl rfl 34 _ hst (by kernel_rfl) rfl hone ?_)
   (try simp only [Exit.inBlock,Exit.then])
   refine bodyPost_ret (v:=.agg #[.int .i64 0,.int .i64 (nw + 1),.slice none 0 0]) ?_ rfl (HFIN.out _)
   exact results_row Tryz.results88 _ _ R 34 [.int .i64 0,.int .i64 (nw + 1),.slice none 0 0] _ rfl (Cells.setRow HRF.out [.int .i64 0,.int .i64 (nw + 1),.slice none 0 0]) Tryz.underlying34 rfl (by kernel_rfl)
theorem rg_other7 (p:Nat) (K:List Nat) (a:AgS) (n:Nat) (hn:n ≤ 1000000000) (c:Cm) (iv:Value) (w:World) (h:RgAt w p K a) (hI:AgI n a) (hfd:c.fd.length ≤ maxLen) (hil:c.its.length ≤ 1000000) (hit:∀ x ∈ c.its,x.Len) (hsl:ItK w K iv c) (k1:¬ c.kd = 1) (k6:¬ c.kd = 6) (k7:c.kd = 7):
 Calls Tryz.prog 88 #[.pointer (some ⟨p,0,none⟩),c.val iv] w fun e w' => ReG w w' p K (othA a c).1 (othA a c).2 e:=by
 have Hk1:=Hd k1
 have Hk6:=Hd k6
 have Hk7:=Hd k7
 clear k1 k6 k7
 obtain ⟨tb,tv,lb,lv,sb,O,B,BL,hX,rfl⟩:=h
 have hrk:=(othA_step hI hn c hil).2
 have hk1:=hI.ok.ever
 have hk2:=hI.ever
 have hk3:=hI.ok.len
 have hu0:=hI.d.up.n0
 have hu1:=hI.d.up.n1
 have hsm0:=hI.d.up.small (show ((n:Nat):Int) ≤ 4611686018427387904 by omega)
 obtain ⟨IA,im,ic,rfl⟩:∃ IA im ic,iv = .slice IA im ic:=by
  obtain ⟨A,cc,e⟩:=(hsl w oz).shape
  exact ⟨A,_,cc,e⟩
 have o1:c.kd = 1 → othA a c = (⟨0,a.t.ever + 1,[]⟩,⟨⟨S15.regL a.t.l ⟨a.t.ever + 1,0,.empty⟩,a.t.ever + 1⟩,a.d,a.s⟩):=fun h => by unfold othA;rw [if_pos h]
 have o6:c.kd ≠ 1 → c.kd = 6 → othA a c = (⟨0,a.d.now + 1,[]⟩,⟨a.t,a.d.tick,a.s⟩):=fun h1 h => by unfold othA;rw [if_neg h1,if_pos h]
 have o7:c.kd ≠ 1 → c.kd ≠ 6 → c.kd = 7 → othA a c = (⟨(a.d.grant c.sh c.nd).2.2,(a.d.grant c.sh c.nd).2.1,[]⟩,⟨a.t,(a.d.grant c.sh c.nd).1,a.s⟩):=fun h1 h6 h => by unfold othA;rw [if_neg h1,if_neg h6,if_pos h]
 have o9:c.kd ≠ 1 → c.kd ≠ 6 → c.kd ≠ 7 → c.kd = 9 → othA a c = (⟨0,(a.d.get c.sh).epoch,[]⟩,a):=fun h1 h6 h7 h => by unfold othA;rw [if_neg h1,if_neg h6,if_neg h7,if_pos h]
 have CG0:=Hd (fun w' hd => L16.rf_grant BL lb lv a.d c.sh c.nd w' hd hsm0)
 have CS0:=Hd (fun w' hd => L16.rf_get BL lb lv a.d c.sh w' hd)
 have CR0:=Hd (fun w' ht => S15.rt_register B tb tv a.t.l a.t.ever w' ht hk3 ⟨by omega,by omega⟩)
 have HRK:=Hd hrk
 obtain ⟨ev,hev⟩:∃ x,a.t.ever = x:=⟨_,rfl⟩
 obtain ⟨nw,hnw⟩:∃ x,a.d.now = x:=⟨_,rfl⟩
 obtain ⟨gr,hgr⟩:∃ x,a.d.grant c.sh c.nd = x:=⟨_,rfl⟩
 obtain ⟨⟨gn,ge,gt⟩,hgg⟩:∃ x,a.d.get c.sh = x:=⟨_,rfl⟩
 rw [hgr] at CG0 o7
 rw [hgg] at CS0 o9
 unfold L16.Ls.val at CS0
 dsimp only at CS0 o9
 rw [hnw] at o6 hu0 hu1
 rw [hev] at CR0 o1 hk1 hk2
 have HI:=Hd hI
 have O1:=Hd o1
 have O6:=Hd o6
 have O7:=Hd o7
 have O9:=Hd o9
 have HNW:=Hd hnw
 have HEV:=Hd hev
 unfold Cm.val
 clear hgr hgg hev hnw hrk hsl hI hil hit o1 o6 o7 o9 hsm0 hk3
 go_enter Tryz.func88,Tryz.ntmps88
 go_upto_region 1 with fail
 obtain ⟨w1,hw1⟩:∃ u,w.alloc (.cells #[.int .i64 c.kd,.int .i64 c.ss,.int .i64 c.sq,.int .i64 c.sh,.int .i64 c.nd,.int .i64 c.ep,.int .i64 c.n,.string ⟨c.fd.toArray⟩,.string ⟨c.id.toArray⟩,.slice IA im ic,.bool c.fl] 38) = u:=⟨_,rfl⟩
 have hR:w.heap.size + 1 = w1.heap.size:=by rw [← hw1,World.size_alloc]
 obtain ⟨z,hz⟩:∃ z,w.heap.size = z:=⟨_,rfl⟩
 have hcz:Cells w1 z 38 (c.cells (.slice IA im ic)):=hw1 ▸ hz ▸ Cells.new w _ _
 rw [hw1,hR,hz]
 obtain ⟨w2,hw2⟩:∃ u,w1.alloc (.cells #[.int .i64 0,.int .i64 0,.slice none 0 0] 34) = u:=⟨_,rfl⟩
 obtain ⟨R,hRR⟩:∃ R,w1.heap.size = R:=⟨_,rfl⟩
 have o12:Only [] w1 w2:=hw2 ▸ oz.alloc _
 have o2:Only [] w w2:=Only.tr0 (hw1 ▸ oz.alloc _) o12
 have hcR:Cells w2 R 34 [.int .i64 0,.int .i64 0,.slice none 0 0]:=hw2 ▸ hRR ▸ Cells.new w1 _ _
 rw [hw2,hRR]
 have hwR:w.heap.size ≤ R:=by omega
 have hwz:w.heap.size ≤ z:=by omega
 have hX2:=hX.keep o2 (by simp)
 have hcz2:=hcz.only o12 (by simp)
 have HCZ:=Hd hcz2
 have hpl:=hX2.cells.lt
 have HX:=Hd hX
 have HX2:=Hd hX2
 have HO2:=Hd o2
 have HR:=Hd hcR
 have hRn:Hid (R ∉ allG p tb tv lb lv O):=Hd (fun hm => by have:=HX.out.lts R hm;omega)
 have hzn:Hid (z ∉ allG p tb tv lb lv O):=Hd (fun hm => by have:=HX.out.lts z hm;omega)
 obtain ⟨c0,c1,c2,c3,c4,c5,c6,c7,c8,c9,c10⟩:=cm_cells hcz2
 have p0:=hX2.cells.cell (k:=0) rfl
 have p1:=hX2.cells.cell (k:=1) rfl
 have p2:=hX2.cells.cell (k:=2) rfl
 have l0:=hX2.d.cells.cell (k:=0) rfl
 have ll:=hX2.d.cells.lt
 have lf:=hX2.d.cells.frozen 0
 rw [HNW.out] at l0
 have v1:=fun u:Since w2 => u.cell p1
 have v2:=fun u:Since w2 => u.cell p2
 have vl:=fun u:Since w2 => u.cell l0
 have u3:=fun u:Since w2 => u.cell c3
 have u4:=fun u:Since w2 => u.cell c4
 have u5:=fun u:Since w2 => u.cell c5
 have u7:=fun u:Since w2 => u.cell c7
 have u9:=fun u:Since w2 => u.cell c9
 clear hw1 hw2 hR hRR hz o2 o12 hcR hX hX2 hcz hcz2 c1 c2 c5 c6 c8 hwz
 have k1:=Hk1.out
 have k6:=Hk6.out
 have k7:=Hk7.out
 clear Hk1 Hk6 Hk7
 · have t1:(c.kd == 1) = false:=by simpa using k1
   have t6:(c.kd == 6) = false:=by simpa using k6
   have t7:(c.kd == 7) = true:=by simpa using k7
   have HE:=Hd (O7.out k1 k6 k7)
   have CR2:=Hd (CG0.out w2.drew (HX2.out.keep ((Only.refl [] w2).drew) (by simp)).d)
   have hst0:=HR.out
   clear k1 k6 k7 v1 v2 vl u3 u4 u5 u7 u9 c7 c9 c10 p2 p0 l0 lf
   go_upto_region 8 with fail
   clear c0
   go_cut [5,6] from 41 (fun u5 u6 wx => u5 = .int .i64 gr.2.1 ∧ u6 = .int .i64 gr.2.2 ∧ Hid (Only (rb lv) w2 wx ∧ L16.RfV wx BL lb lv gr.1))
   case first =>
    go_region_law (go_simp;go_at_call 166;go_loud (refine CR2.out.mono ?_;rintro e w4 ⟨rfl,ho4,hd4⟩;have HWX:Hid (Only (rb lv) w2 w4 ∧ L16.RfV w4 BL lb lv gr.1):=Hd ⟨((Only.refl _ w2).drew).tr ho4,hd4⟩;clear ho4 hd4))
    all_goals
     go_wp2_with fail
     go_meet
     exact ⟨rfl,rfl,HWX⟩
   case rest =>
   obtain ⟨rfl,rfl,HWX⟩:=hcut
   obtain ⟨hX4,hO4⟩:=HX2.out.ddo (d':=gr.1) HWX.out.2 (HWX.out.1.mono (fun x hx => .inl (List.mem_cons_of_mem _ hx)))
   have hRn':R ∉ allG p tb tv lb lv O:=hRn.out
   have hR4:=HR.out.only hO4 (by simpa using hRn.out)
   have oR:∀ row,Only [R] wc (wc.setRow R row):=fun row => oz.setRow (.inl (by simp)) _
   have HFIN:Hid (∀ row,ReG w (wc.setRow R row) p (allG p tb tv lb lv O) (othA a c).1 (othA a c).2 (.returned (.agg #[.int .i64 gr.2.2,.int .i64 gr.2.1,.slice none 0 0]))):=Hd (fun row => by
    have hk:=HRK.out
    rw [HE.out] at hk ⊢
    exact ReG.nil rfl (wide_lt hk.er.1 (Int.le_trans hk.er.2 (by omega))) hk.n ⟨tb,tv,lb,lv,sb,O,B,BL,hX4.keep (oR row) (fun k hk hm => by simp at hm;subst hm;exact hRn' hk),rfl⟩ (((HO2.out.of0).trans hO4 (fun x hx => .inl hx)).trans (oR row) (fun x hx => by simp at hx;subst hx;exact .inr hwR)) (fun x hx => .inl hx))
   have HRF:=Hd hR4
   have hst:=HRF.out
   have hone:(#[.int .i64 gr.2.2,.int .i64 gr.2.1,.slice none 0 0]:Array Value).all (·.oneCell') = true:=by simp [Value.oneCell']
   clear hX4 hO4 hRn' oR hR4 CR2 c3 c4 p1 hst0
   go_wp2_with (refine wpList_store_row rfl 34 _ _ rfl R #[.int .i64 gr.2.2,.int .i64 gr.2.1,.slice none 0 0] rfl rfl 34 _ hst (by kernel_rfl) rfl hone ?_)
   (try simp only [Exit.inBlock,Exit.then])
   refine bodyPost_ret (v:=.agg #[.int .i64 gr.2.2,.int .i64 gr.2.1,.slice none 0 0]) ?_ rfl (HFIN.out _)
   exact results_row Tryz.results88 _ _ R 34 [.int .i64 gr.2.2,.int .i64 gr.2.1,.slice none 0 0] _ rfl (Cells.setRow HRF.out [.int .i64 gr.2.2,.int .i64 gr.2.1,.slice none 0 0]) Tryz.underlying34 rfl (by kernel_rfl)
theorem rg_other9 (p:Nat) (K:List Nat) (a:AgS) (n:Nat) (hn:n ≤ 1000000000) (c:Cm) (iv:Value) (w:World) (h:RgAt w p K a) (hI:AgI n a) (hfd:c.fd.length ≤ maxLen) (hil:c.its.length ≤ 1000000) (hit:∀ x ∈ c.its,x.Len) (hsl:ItK w K iv c) (k1:¬ c.kd = 1) (k6:¬ c.kd = 6) (k7:¬ c.kd = 7) (k9:c.kd = 9):
 Calls Tryz.prog 88 #[.pointer (some ⟨p,0,none⟩),c.val iv] w fun e w' => ReG w w' p K (othA a c).1 (othA a c).2 e:=by
 have Hk1:=Hd k1
 have Hk6:=Hd k6
 have Hk7:=Hd k7
 have Hk9:=Hd k9
 clear k1 k6 k7 k9
 obtain ⟨tb,tv,lb,lv,sb,O,B,BL,hX,rfl⟩:=h
 have hrk:=(othA_step hI hn c hil).2
 have hk1:=hI.ok.ever
 have hk2:=hI.ever
 have hk3:=hI.ok.len
 have hu0:=hI.d.up.n0
 have hu1:=hI.d.up.n1
 have hsm0:=hI.d.up.small (show ((n:Nat):Int) ≤ 4611686018427387904 by omega)
 obtain ⟨IA,im,ic,rfl⟩:∃ IA im ic,iv = .slice IA im ic:=by
  obtain ⟨A,cc,e⟩:=(hsl w oz).shape
  exact ⟨A,_,cc,e⟩
 have o1:c.kd = 1 → othA a c = (⟨0,a.t.ever + 1,[]⟩,⟨⟨S15.regL a.t.l ⟨a.t.ever + 1,0,.empty⟩,a.t.ever + 1⟩,a.d,a.s⟩):=fun h => by unfold othA;rw [if_pos h]
 have o6:c.kd ≠ 1 → c.kd = 6 → othA a c = (⟨0,a.d.now + 1,[]⟩,⟨a.t,a.d.tick,a.s⟩):=fun h1 h => by unfold othA;rw [if_neg h1,if_pos h]
 have o7:c.kd ≠ 1 → c.kd ≠ 6 → c.kd = 7 → othA a c = (⟨(a.d.grant c.sh c.nd).2.2,(a.d.grant c.sh c.nd).2.1,[]⟩,⟨a.t,(a.d.grant c.sh c.nd).1,a.s⟩):=fun h1 h6 h => by unfold othA;rw [if_neg h1,if_neg h6,if_pos h]
 have o9:c.kd ≠ 1 → c.kd ≠ 6 → c.kd ≠ 7 → c.kd = 9 → othA a c = (⟨0,(a.d.get c.sh).epoch,[]⟩,a):=fun h1 h6 h7 h => by unfold othA;rw [if_neg h1,if_neg h6,if_neg h7,if_pos h]
 have CG0:=Hd (fun w' hd => L16.rf_grant BL lb lv a.d c.sh c.nd w' hd hsm0)
 have CS0:=Hd (fun w' hd => L16.rf_get BL lb lv a.d c.sh w' hd)
 have CR0:=Hd (fun w' ht => S15.rt_register B tb tv a.t.l a.t.ever w' ht hk3 ⟨by omega,by omega⟩)
 have HRK:=Hd hrk
 obtain ⟨ev,hev⟩:∃ x,a.t.ever = x:=⟨_,rfl⟩
 obtain ⟨nw,hnw⟩:∃ x,a.d.now = x:=⟨_,rfl⟩
 obtain ⟨gr,hgr⟩:∃ x,a.d.grant c.sh c.nd = x:=⟨_,rfl⟩
 obtain ⟨⟨gn,ge,gt⟩,hgg⟩:∃ x,a.d.get c.sh = x:=⟨_,rfl⟩
 rw [hgr] at CG0 o7
 rw [hgg] at CS0 o9
 unfold L16.Ls.val at CS0
 dsimp only at CS0 o9
 rw [hnw] at o6 hu0 hu1
 rw [hev] at CR0 o1 hk1 hk2
 have HI:=Hd hI
 have O1:=Hd o1
 have O6:=Hd o6
 have O7:=Hd o7
 have O9:=Hd o9
 have HNW:=Hd hnw
 have HEV:=Hd hev
 unfold Cm.val
 clear hgr hgg hev hnw hrk hsl hI hil hit o1 o6 o7 o9 hsm0 hk3
 go_enter Tryz.func88,Tryz.ntmps88
 go_upto_region 1 with fail
 obtain ⟨w1,hw1⟩:∃ u,w.alloc (.cells #[.int .i64 c.kd,.int .i64 c.ss,.int .i64 c.sq,.int .i64 c.sh,.int .i64 c.nd,.int .i64 c.ep,.int .i64 c.n,.string ⟨c.fd.toArray⟩,.string ⟨c.id.toArray⟩,.slice IA im ic,.bool c.fl] 38) = u:=⟨_,rfl⟩
 have hR:w.heap.size + 1 = w1.heap.size:=by rw [← hw1,World.size_alloc]
 obtain ⟨z,hz⟩:∃ z,w.heap.size = z:=⟨_,rfl⟩
 have hcz:Cells w1 z 38 (c.cells (.slice IA im ic)):=hw1 ▸ hz ▸ Cells.new w _ _
 rw [hw1,hR,hz]
 obtain ⟨w2,hw2⟩:∃ u,w1.alloc (.cells #[.int .i64 0,.int .i64 0,.slice none 0 0] 34) = u:=⟨_,rfl⟩
 obtain ⟨R,hRR⟩:∃ R,w1.heap.size = R:=⟨_,rfl⟩
 have o12:Only [] w1 w2:=hw2 ▸ oz.alloc _
 have o2:Only [] w w2:=Only.tr0 (hw1 ▸ oz.alloc _) o12
 have hcR:Cells w2 R 34 [.int .i64 0,.int .i64 0,.slice none 0 0]:=hw2 ▸ hRR ▸ Cells.new w1 _ _
 rw [hw2,hRR]
 have hwR:w.heap.size ≤ R:=by omega
 have hwz:w.heap.size ≤ z:=by omega
 have hX2:=hX.keep o2 (by simp)
 have hcz2:=hcz.only o12 (by simp)
 have HCZ:=Hd hcz2
 have hpl:=hX2.cells.lt
 have HX:=Hd hX
 have HX2:=Hd hX2
 have HO2:=Hd o2
 have HR:=Hd hcR
 have hRn:Hid (R ∉ allG p tb tv lb lv O):=Hd (fun hm => by have:=HX.out.lts R hm;omega)
 have hzn:Hid (z ∉ allG p tb tv lb lv O):=Hd (fun hm => by have:=HX.out.lts z hm;omega)
 obtain ⟨c0,c1,c2,c3,c4,c5,c6,c7,c8,c9,c10⟩:=cm_cells hcz2
 have p0:=hX2.cells.cell (k:=0) rfl
 have p1:=hX2.cells.cell (k:=1) rfl
 have p2:=hX2.cells.cell (k:=2) rfl
 have l0:=hX2.d.cells.cell (k:=0) rfl
 have ll:=hX2.d.cells.lt
 have lf:=hX2.d.cells.frozen 0
 rw [HNW.out] at l0
 have v1:=fun u:Since w2 => u.cell p1
 have v2:=fun u:Since w2 => u.cell p2
 have vl:=fun u:Since w2 => u.cell l0
 have u3:=fun u:Since w2 => u.cell c3
 have u4:=fun u:Since w2 => u.cell c4
 have u5:=fun u:Since w2 => u.cell c5
 have u7:=fun u:Since w2 => u.cell c7
 have u9:=fun u:Since w2 => u.cell c9
 clear hw1 hw2 hR hRR hz o2 o12 hcR hX hX2 hcz hcz2 c1 c2 c5 c6 c8 hwz
 have k1:=Hk1.out
 have k6:=Hk6.out
 have k7:=Hk7.out
 have k9:=Hk9.out
 clear Hk1 Hk6 Hk7 Hk9
 · have t1:(c.kd == 1) = false:=by simpa using k1
   have t6:(c.kd == 6) = false:=by simpa using k6
   have t7:(c.kd == 7) = false:=by simpa using k7
   have t9:(c.kd == 9) = true:=by simpa using k9
   have HE:=Hd (O9.out k1 k6 k7 k9)
   have hfd9:=fun w' => rfield1 gn ge gt w'
   have CG:=Hd (fun v:Since w2 => CS0.out v.w (HX2.out.keep v.2 (by simp)).d)
   clear k1 k6 k7 k9 v2 vl u4 u5 u7 u9 c3 c4 c7 c9 c10 p2 p0 l0 lf
   go_wp2_with fail
   refine wp_region_only_tail w2 oz 9 (by kernel_rfl) (by kernel_rfl) ?_
   simp only [tk1,tk0,dr1,dr0]
   repeat (go_big_quiet_step ((go_at_call 92;refine Calls.only (CG.out _))))
   refine wpQuiet_nil ?_
   rintro ⟨w3,ho3⟩
   dsimp only
   have hX4:=HX2.out.keep ho3 (by simp)
   have HO3:=Hd (HO2.out.tr ho3)
   have HR3:=Hd (HR.out.only ho3 (by simp))
   have hRn':R ∉ allG p tb tv lb lv O:=hRn.out
   have hR4:=HR3.out
   have oR:∀ row,Only [R] w3 (w3.setRow R row):=fun row => oz.setRow (.inl (by simp)) _
   have HFIN:Hid (∀ row,ReG w (w3.setRow R row) p (allG p tb tv lb lv O) (othA a c).1 (othA a c).2 (.returned (.agg #[.int .i64 0,.int .i64 ge,.slice none 0 0]))):=Hd (fun row => by
    have hk:=HRK.out
    rw [HE.out] at hk ⊢
    exact ReG.nil rfl (wide_lt hk.er.1 (Int.le_trans hk.er.2 (by omega))) hk.n ⟨tb,tv,lb,lv,sb,O,B,BL,hX4.keep (oR row) (fun k hk hm => by simp at hm;subst hm;exact hRn' hk),rfl⟩ (HO3.out.of0.trans (oR row) (fun x hx => by simp at hx;subst hx;exact .inr hwR)) (fun x hx => .inl hx))
   have HRF:=Hd hR4
   have hst:=HRF.out
   have hone:(#[.int .i64 0,.int .i64 ge,.slice none 0 0]:Array Value).all (·.oneCell') = true:=by simp [Value.oneCell']
   clear hX4 hRn' oR hR4 CG v1 u3 hfd9 ho3 c0 p1
   go_wp2_with (refine wpList_store_row rfl 34 _ _ rfl R #[.int .i64 0,.int .i64 ge,.slice none 0 0] rfl rfl 34 _ hst (by kernel_rfl) rfl hone ?_)
   (try simp only [Exit.inBlock,Exit.then])
   refine bodyPost_ret (v:=.agg #[.int .i64 0,.int .i64 ge,.slice none 0 0]) ?_ rfl (HFIN.out _)
   exact results_row Tryz.results88 _ _ R 34 [.int .i64 0,.int .i64 ge,.slice none 0 0] _ rfl (Cells.setRow HRF.out [.int .i64 0,.int .i64 ge,.slice none 0 0]) Tryz.underlying34 rfl (by kernel_rfl)
theorem rg_otheri (p:Nat) (K:List Nat) (a:AgS) (n:Nat) (hn:n ≤ 1000000000) (c:Cm) (iv:Value) (w:World) (h:RgAt w p K a) (hI:AgI n a) (hfd:c.fd.length ≤ maxLen) (hil:c.its.length ≤ 1000000) (hit:∀ x ∈ c.its,x.Len) (hsl:ItK w K iv c) (k1:¬ c.kd = 1) (k6:¬ c.kd = 6) (k7:¬ c.kd = 7) (k9:¬ c.kd = 9):
 Calls Tryz.prog 88 #[.pointer (some ⟨p,0,none⟩),c.val iv] w fun e w' => ReG w w' p K (othA a c).1 (othA a c).2 e:=by
 have Hk1:=Hd k1
 have Hk6:=Hd k6
 have Hk7:=Hd k7
 have Hk9:=Hd k9
 clear k1 k6 k7 k9
 obtain ⟨tb,tv,lb,lv,sb,O,B,BL,hX,rfl⟩:=h
 have hrk:=(othA_step hI hn c hil).2
 have hk1:=hI.ok.ever
 have hk2:=hI.ever
 have hk3:=hI.ok.len
 have hu0:=hI.d.up.n0
 have hu1:=hI.d.up.n1
 have hsm0:=hI.d.up.small (show ((n:Nat):Int) ≤ 4611686018427387904 by omega)
 obtain ⟨IA,im,ic,rfl⟩:∃ IA im ic,iv = .slice IA im ic:=by
  obtain ⟨A,cc,e⟩:=(hsl w oz).shape
  exact ⟨A,_,cc,e⟩
 have o1:c.kd = 1 → othA a c = (⟨0,a.t.ever + 1,[]⟩,⟨⟨S15.regL a.t.l ⟨a.t.ever + 1,0,.empty⟩,a.t.ever + 1⟩,a.d,a.s⟩):=fun h => by unfold othA;rw [if_pos h]
 have o6:c.kd ≠ 1 → c.kd = 6 → othA a c = (⟨0,a.d.now + 1,[]⟩,⟨a.t,a.d.tick,a.s⟩):=fun h1 h => by unfold othA;rw [if_neg h1,if_pos h]
 have o7:c.kd ≠ 1 → c.kd ≠ 6 → c.kd = 7 → othA a c = (⟨(a.d.grant c.sh c.nd).2.2,(a.d.grant c.sh c.nd).2.1,[]⟩,⟨a.t,(a.d.grant c.sh c.nd).1,a.s⟩):=fun h1 h6 h => by unfold othA;rw [if_neg h1,if_neg h6,if_pos h]
 have o9:c.kd ≠ 1 → c.kd ≠ 6 → c.kd ≠ 7 → c.kd = 9 → othA a c = (⟨0,(a.d.get c.sh).epoch,[]⟩,a):=fun h1 h6 h7 h => by unfold othA;rw [if_neg h1,if_neg h6,if_neg h7,if_pos h]
 have oi:c.kd ≠ 1 → c.kd ≠ 6 → c.kd ≠ 7 → c.kd ≠ 9 → othA a c = ingA a c:=fun h1 h6 h7 h9 => by unfold othA;rw [if_neg h1,if_neg h6,if_neg h7,if_neg h9]
 have hA1:a.d.check c.sh c.nd c.ep ≠ 0 ∨ (shardL c.fd:Int) ≠ c.sh → ingA a c = (errR 15,a):=fun h => by unfold ingA;rw [if_pos h]
 have hA2:¬ (a.d.check c.sh c.nd c.ep ≠ 0 ∨ (shardL c.fd:Int) ≠ c.sh) → c.fl = true → ingA a c = (errR (failS a.s c.fd a.d.now).1,⟨a.t,a.d,(failS a.s c.fd a.d.now).2⟩):=fun h h2 => by unfold ingA;rw [if_neg h,if_pos h2]
 have hA3:¬ (a.d.check c.sh c.nd c.ep ≠ 0 ∨ (shardL c.fd:Int) ≠ c.sh) → c.fl = false → ingA a c = (⟨(ingR a.s c.fd c.its a.d.now).2.1,(ingR a.s c.fd c.its a.d.now).1,[]⟩,⟨a.t,a.d,(ingR a.s c.fd c.its a.d.now).2.2⟩):=fun h h2 => by unfold ingA;rw [if_neg h,if_neg (by simp [h2])]
 have CG0:=Hd (fun w' hd => L16.rf_grant BL lb lv a.d c.sh c.nd w' hd hsm0)
 have CS0:=Hd (fun w' hd => L16.rf_get BL lb lv a.d c.sh w' hd)
 have CK0:=Hd (fun w' hd => L16.rf_check BL lb lv a.d c.sh c.nd c.ep w' hd)
 have CO0:=Hd (fun w' => ref_of14 c.fd w' (by unfold maxLen at hfd;omega))
 have CR0:=Hd (fun w' ht => S15.rt_register B tb tv a.t.l a.t.ever w' ht hk3 ⟨by omega,by omega⟩)
 have CF0:=Hd (fun w' hs => rr_fail sb O a.s c.fd hfd a.d.now w' hs)
 have CI0:=Hd (fun w' hs hv => rr_ingest sb O a.s c.fd hfd (.slice IA im ic) c.its a.d.now w' hs hv hil hit)
 have HSL:=Hd hsl
 have HRK:=Hd hrk
 obtain ⟨ev,hev⟩:∃ x,a.t.ever = x:=⟨_,rfl⟩
 obtain ⟨nw,hnw⟩:∃ x,a.d.now = x:=⟨_,rfl⟩
 obtain ⟨gr,hgr⟩:∃ x,a.d.grant c.sh c.nd = x:=⟨_,rfl⟩
 obtain ⟨⟨gn,ge,gt⟩,hgg⟩:∃ x,a.d.get c.sh = x:=⟨_,rfl⟩
 obtain ⟨chk,hchk⟩:∃ x,a.d.check c.sh c.nd c.ep = x:=⟨_,rfl⟩
 obtain ⟨sv,hsv⟩:∃ x:Nat,shardL c.fd = x:=⟨_,rfl⟩
 obtain ⟨f,hf⟩:∃ f,failS a.s c.fd a.d.now = f:=⟨_,rfl⟩
 obtain ⟨g,hg⟩:∃ g,ingR a.s c.fd c.its a.d.now = g:=⟨_,rfl⟩
 rw [hgr] at CG0 o7
 rw [hgg] at CS0 o9
 unfold L16.Ls.val at CS0
 dsimp only at CS0 o9
 rw [hchk] at CK0 hA1 hA2 hA3
 rw [hsv] at CO0 hA1 hA2 hA3
 rw [hf] at CF0 hA2
 rw [hg] at CI0 hA3
 rw [hnw] at CF0 CI0 o6 hu0 hu1
 rw [hev] at CR0 o1 hk1 hk2
 have HA1:Hid ((chk != 0 || (sv:Int) != c.sh) = true → ingA a c = (errR 15,a)):=Hd (fun h => hA1 (by simpa using h))
 have HA2:Hid ((chk != 0 || (sv:Int) != c.sh) = false → c.fl = true → ingA a c = (errR f.1,⟨a.t,a.d,f.2⟩)):=Hd (fun h => hA2 (by simpa using h))
 have HA3:Hid ((chk != 0 || (sv:Int) != c.sh) = false → c.fl = false → ingA a c = (⟨g.2.1,g.1,[]⟩,⟨a.t,a.d,g.2.2⟩)):=Hd (fun h => hA3 (by simpa using h))
 have HI:=Hd hI
 have O1:=Hd o1
 have O6:=Hd o6
 have O7:=Hd o7
 have O9:=Hd o9
 have OI:=Hd oi
 have HNW:=Hd hnw
 have HEV:=Hd hev
 unfold Cm.val
 clear hchk hsv hf hg hgr hgg hev hnw hA1 hA2 hA3 hrk hsl hI hil hit o1 o6 o7 o9 oi hsm0 hk3
 go_enter Tryz.func88,Tryz.ntmps88
 go_upto_region 1 with fail
 obtain ⟨w1,hw1⟩:∃ u,w.alloc (.cells #[.int .i64 c.kd,.int .i64 c.ss,.int .i64 c.sq,.int .i64 c.sh,.int .i64 c.nd,.int .i64 c.ep,.int .i64 c.n,.string ⟨c.fd.toArray⟩,.string ⟨c.id.toArray⟩,.slice IA im ic,.bool c.fl] 38) = u:=⟨_,rfl⟩
 have hR:w.heap.size + 1 = w1.heap.size:=by rw [← hw1,World.size_alloc]
 obtain ⟨z,hz⟩:∃ z,w.heap.size = z:=⟨_,rfl⟩
 have hcz:Cells w1 z 38 (c.cells (.slice IA im ic)):=hw1 ▸ hz ▸ Cells.new w _ _
 rw [hw1,hR,hz]
 obtain ⟨w2,hw2⟩:∃ u,w1.alloc (.cells #[.int .i64 0,.int .i64 0,.slice none 0 0] 34) = u:=⟨_,rfl⟩
 obtain ⟨R,hRR⟩:∃ R,w1.heap.size = R:=⟨_,rfl⟩
 have o12:Only [] w1 w2:=hw2 ▸ oz.alloc _
 have o2:Only [] w w2:=Only.tr0 (hw1 ▸ oz.alloc _) o12
 have hcR:Cells w2 R 34 [.int .i64 0,.int .i64 0,.slice none 0 0]:=hw2 ▸ hRR ▸ Cells.new w1 _ _
 rw [hw2,hRR]
 have hwR:w.heap.size ≤ R:=by omega
 have hwz:w.heap.size ≤ z:=by omega
 have hX2:=hX.keep o2 (by simp)
 have hcz2:=hcz.only o12 (by simp)
 have HCZ:=Hd hcz2
 have hpl:=hX2.cells.lt
 have HX:=Hd hX
 have HX2:=Hd hX2
 have HO2:=Hd o2
 have HR:=Hd hcR
 have hRn:Hid (R ∉ allG p tb tv lb lv O):=Hd (fun hm => by have:=HX.out.lts R hm;omega)
 have hzn:Hid (z ∉ allG p tb tv lb lv O):=Hd (fun hm => by have:=HX.out.lts z hm;omega)
 obtain ⟨c0,c1,c2,c3,c4,c5,c6,c7,c8,c9,c10⟩:=cm_cells hcz2
 have p0:=hX2.cells.cell (k:=0) rfl
 have p1:=hX2.cells.cell (k:=1) rfl
 have p2:=hX2.cells.cell (k:=2) rfl
 have l0:=hX2.d.cells.cell (k:=0) rfl
 have ll:=hX2.d.cells.lt
 have lf:=hX2.d.cells.frozen 0
 rw [HNW.out] at l0
 have v1:=fun u:Since w2 => u.cell p1
 have v2:=fun u:Since w2 => u.cell p2
 have vl:=fun u:Since w2 => u.cell l0
 have u3:=fun u:Since w2 => u.cell c3
 have u4:=fun u:Since w2 => u.cell c4
 have u5:=fun u:Since w2 => u.cell c5
 have u7:=fun u:Since w2 => u.cell c7
 have u9:=fun u:Since w2 => u.cell c9
 clear hw1 hw2 hR hRR hz o2 o12 hcR hX hX2 hcz hcz2 c1 c2 c5 c6 c8 hwz
 have k1:=Hk1.out
 have k6:=Hk6.out
 have k7:=Hk7.out
 have k9:=Hk9.out
 clear Hk1 Hk6 Hk7 Hk9
 have t1:(c.kd == 1) = false:=by simpa using k1
 have t6:(c.kd == 6) = false:=by simpa using k6
 have t7:(c.kd == 7) = false:=by simpa using k7
 have t9:(c.kd == 9) = false:=by simpa using k9
 have hOI:=OI.out k1 k6 k7 k9
 have HOI:=Hd hOI
 have CK:=Hd (fun v:Since w2 => CK0.out v.w (HX2.out.keep v.2 (by simp)).d)
 have CO:=Hd (fun v:Since w2 => CO0.out v.w)
 clear k1 k6 k7 k9 hOI v2 vl u9 c3 c4 c7 c9 c10 p0 l0 lf
 go_upto_region 12 with fail
 clear c0 p1
 go_cut [86] (fun x wx => x = .bool (chk != 0 || (sv:Int) != c.sh) ∧ Hid (Only [] w2 wx))
 case first =>
  cases h1:(chk != 0) with
  | true =>
   refine wp_region_only w2 oz (by kernel_rfl) (by kernel_rfl) ?_
   repeat (go_big_quiet_step (first | (go_at_call 167;refine Calls.only (CK.out _)) | (go_at_call 30;refine Calls.only_same (CO.out _))))
   refine wpQuiet_nil ?_
   rintro ⟨w3,ho3⟩
   dsimp only
   have HO3:=Hd ho3
   go_wp2_with fail
   go_meet
   exact ⟨by simp [h1],HO3⟩
  | false =>
   refine wp_region_only w2 oz (by kernel_rfl) (by kernel_rfl) ?_
   repeat (go_big_quiet_step (first | (go_at_call 167;refine Calls.only (CK.out _)) | (go_at_call 30;refine Calls.only_same (CO.out _))))
   refine wpQuiet_nil ?_
   rintro ⟨w3,ho3⟩
   dsimp only
   have HO3:=Hd ho3
   go_wp2_with fail
   go_meet
   exact ⟨by simp [h1],HO3⟩
 case rest =>
 obtain ⟨rfl,HWX⟩:=hcut
 obtain ⟨wa,hwa⟩:∃ u,u = wc:=⟨wc,rfl⟩
 subst hwa
 have HXC:=Hd (HX2.out.keep HWX.out (by simp))
 have HOC:=Hd (HO2.out.tr HWX.out)
 have HRC:=Hd (HR.out.only HWX.out (by simp))
 have HCZC:=Hd (HCZ.out.only HWX.out (by simp))
 clear HX2 HO2 HR HCZ CK CO v1 u3 u4 u5 u7 HWX t1 t6 t7 t9 p2
 cases hbad:(chk != 0 || (sv:Int) != c.sh) with
 | true =>
  have HE:=Hd (HOI.out.trans (HA1.out hbad))
  have hXa:=HXC.out
  have hRn':R ∉ allG p tb tv lb lv O:=hRn.out
  have hR4:=HRC.out
  have oR:∀ row,Only [R] wa (wa.setRow R row):=fun row => oz.setRow (.inl (by simp)) _
  have HFIN:Hid (∀ row,ReG w (wa.setRow R row) p (allG p tb tv lb lv O) (othA a c).1 (othA a c).2 (.returned (.agg #[.int .i64 15,.int .i64 0,.slice none 0 0]))):=Hd (fun row => by
   have hk:=HRK.out
   rw [HE.out] at hk ⊢
   exact ReG.nil rfl (wide_lt hk.er.1 (Int.le_trans hk.er.2 (by omega))) hk.n ⟨tb,tv,lb,lv,sb,O,B,BL,hXa.keep (oR row) (fun k hk hm => by simp at hm;subst hm;exact hRn' hk),rfl⟩ (HOC.out.of0.trans (oR row) (fun x hx => by simp at hx;subst hx;exact .inr hwR)) (fun x hx => .inl hx))
  have HRF:=Hd hR4
  have hst:=HRF.out
  have hone:(#[.int .i64 15,.int .i64 0,.slice none 0 0]:Array Value).all (·.oneCell') = true:=by simp [Value.oneCell']
  clear hXa hRn' oR hR4 hbad
  go_wp2_with (refine wpList_store_row rfl 34 _ _ rfl R #[.int .i64 15,.int .i64 0,.slice none 0 0] rfl rfl 34 _ hst (by kernel_rfl) rfl hone ?_)
  (try simp only [Exit.inBlock,Exit.then])
  refine bodyPost_ret (v:=.agg #[.int .i64 15,.int .i64 0,.slice none 0 0]) ?_ rfl (HFIN.out _)
  exact results_row Tryz.results88 _ _ R 34 [.int .i64 15,.int .i64 0,.slice none 0 0] _ rfl (Cells.setRow HRF.out [.int .i64 15,.int .i64 0,.slice none 0 0]) Tryz.underlying34 rfl (by kernel_rfl)
 | false =>
  obtain ⟨c0,c1,c2,c3,c4,c5,c6,c7,c8,c9,c10⟩:=cm_cells HCZC.out
  have p1:=HXC.out.cells.cell (k:=1) rfl
  have p2:=HXC.out.cells.cell (k:=2) rfl
  have l0:=HXC.out.d.cells.cell (k:=0) rfl
  rw [HNW.out] at l0
  have ll2:=HXC.out.d.cells.lt
  have v1:=fun u:Since wa => u.cell p1
  have v2:=fun u:Since wa => u.cell p2
  have vl:=fun u:Since wa => u.cell l0
  have u7:=fun u:Since wa => u.cell c7
  clear c0 c1 c2 c3 c4 c5 c6 c8
  cases hfl:c.fl with
  | true =>
   have HE:=Hd (HOI.out.trans (HA2.out hbad hfl))
   rw [hfl] at c10
   clear hbad hfl c9
   go_wp2_with fail
   refine wp_region_only_tail wa oz 13 (by kernel_rfl) (by kernel_rfl) ?_
   simp only [tk1,tk0,dr1,dr0]
   repeat (go_big_quiet_step (fail))
   refine wpQuiet_nil ?_
   rintro ⟨w3,ho3⟩
   dsimp only
   have HX3:=Hd (HXC.out.keep ho3 (by simp))
   have HO3:=Hd (HOC.out.tr ho3)
   have HR3:=Hd (HRC.out.only ho3 (by simp))
   have CR:=Hd (CF0.out w3 HX3.out.s)
   have hst0:=HR3.out
   clear ho3 v1 v2 vl u7 HXC HOC HRC c10 HCZC c7 p1 p2 l0
   go_wp2_with fail
   refine CR.out.mono ?_
   rintro e w4 ⟨rfl,O',hs,ho,hn4⟩
   obtain ⟨hX4,hO4,hN4⟩:=HX3.out.sdo hs ho hn4
   have hRn':R ∉ allG p tb tv lb lv O':=fun hm => by
    rcases hN4 R hm with e | e
    · exact hRn.out e
    · have:=HR3.out.lt;omega
   have hR4:=HR3.out.only hO4 (by simpa using hRn.out)
   have oR:∀ row,Only [R] w4 (w4.setRow R row):=fun row => oz.setRow (.inl (by simp)) _
   have HFIN:Hid (∀ row,ReG w (w4.setRow R row) p (allG p tb tv lb lv O) (othA a c).1 (othA a c).2 (.returned (.agg #[.int .i64 f.1,.int .i64 0,.slice none 0 0]))):=Hd (fun row => by
    have hk:=HRK.out
    rw [HE.out] at hk ⊢
    exact ReG.nil rfl (wide_lt hk.er.1 (Int.le_trans hk.er.2 (by omega))) hk.n ⟨tb,tv,lb,lv,sb,O',B,BL,hX4.keep (oR row) (fun k hk hm => by simp at hm;subst hm;exact hRn' hk),rfl⟩ (((HO3.out.of0).trans hO4 (fun x hx => .inl hx)).trans (oR row) (fun x hx => by simp at hx;subst hx;exact .inr hwR)) (fun x hx => (hN4 x hx).imp id (fun h => Nat.le_trans HO3.out.size h)))
   have HRF:=Hd hR4
   have hst:=HRF.out
   have hone:(#[.int .i64 f.1,.int .i64 0,.slice none 0 0]:Array Value).all (·.oneCell') = true:=by simp [Value.oneCell']
   clear hs ho hn4 hX4 hO4 hN4 hRn' oR hR4 CR hst0
   go_wp2_with (refine wpList_store_row rfl 34 _ _ rfl R #[.int .i64 f.1,.int .i64 0,.slice none 0 0] rfl rfl 34 _ hst (by kernel_rfl) rfl hone ?_)
   (try simp only [Exit.inBlock,Exit.then])
   refine bodyPost_ret (v:=.agg #[.int .i64 f.1,.int .i64 0,.slice none 0 0]) ?_ rfl (HFIN.out _)
   exact results_row Tryz.results88 _ _ R 34 [.int .i64 f.1,.int .i64 0,.slice none 0 0] _ rfl (Cells.setRow HRF.out [.int .i64 f.1,.int .i64 0,.slice none 0 0]) Tryz.underlying34 rfl (by kernel_rfl)
  | false =>
   have HE:=Hd (HOI.out.trans (HA3.out hbad hfl))
   rw [hfl] at c10
   clear hbad hfl
   go_wp2_with fail
   have C:=Hd (CI0.out wa.drew (HXC.out.s.keep ((Only.refl [] wa).drew) (by simp)) (fun w' ho' => HSL.out w' (((HOC.out.of0).drew).trans (ho'.mono (fun x hx => .inl (by simp [allG,hx]))) (fun x hx => .inl hx))))
   have hst0:=HRC.out
   have HSS:Hid (∀ wS,Only O wa wS → wS.cell? ⟨p,1,none⟩ = some (.pointer (some ⟨lb,0,none⟩)) ∧ wS.cell? ⟨p,2,none⟩ = some (.pointer (some ⟨sb,0,none⟩)) ∧ wS.cell? ⟨lb,0,none⟩ = some (.int .i64 nw) ∧ wS.cell? ⟨z,7,none⟩ = some (.string ⟨c.fd.toArray⟩) ∧ wS.cell? ⟨z,9,none⟩ = some (.slice IA im ic) ∧ p < wS.heap.size ∧ lb < wS.heap.size):=Hd (fun wS ho => by
    have hX:=HXC.out
    have d:=hX.dis
    have hzO:z ∉ O:=fun hm => hzn.out (by simp [allG,hm])
    have hz:=HCZC.out.only ho hzO
    obtain ⟨d0,d1,d2,d3,d4,d5,d6,d7,d8,d9,d10⟩:=cm_cells hz
    have e1:=hX.cells.only ho d.1
    have e2:=hX.d.cells.only ho d.2.2.1
    have e3:=e2.cell (k:=0) rfl
    rw [HNW.out] at e3
    exact ⟨e1.cell (k:=1) rfl,e1.cell (k:=2) rfl,e3,d7,d9,e1.lt,e2.lt⟩)
   clear c10 v1 v2 vl u7 c7 c9 p1 p2 l0 hpl ll ll2
   go_cut [7,8] from 105 (fun x5 x6 wx => x5 = .int .i64 g.1 ∧ x6 = .int .i64 g.2.1 ∧ Hid (OpR wa wx sb O g.2.2))
   case first =>
    go_region_held3 (fun wS:World => wS.cell? ⟨p,1,none⟩ = some (.pointer (some ⟨lb,0,none⟩)) ∧ wS.cell? ⟨p,2,none⟩ = some (.pointer (some ⟨sb,0,none⟩)) ∧ wS.cell? ⟨lb,0,none⟩ = some (.int .i64 nw) ∧ wS.cell? ⟨z,7,none⟩ = some (.string ⟨c.fd.toArray⟩) ∧ wS.cell? ⟨z,9,none⟩ = some (.slice IA im ic) ∧ p < wS.heap.size ∧ lb < wS.heap.size)
     (exact HSS.out _ (by first | exact oz.drew | assumption))
     (first | (go_at_call 169;refine C.out.mono ?_;rintro e w4 ⟨rfl,hop4⟩;have HWX:Hid (OpR wa w4 sb O g.2.2):=Hd (by obtain ⟨O',h1,h2,h3⟩:=hop4;exact ⟨O',h1,(((Only.refl O wa).drew).tr h2),h3⟩);have hoo:Only O wa w4:=by (obtain ⟨O',h1,h2,h3⟩:=HWX.out;exact h2)))
    all_goals
     go_wp2_with fail
     go_meet
     exact ⟨rfl,rfl,HWX⟩
   case rest =>
   obtain ⟨rfl,rfl,HWY⟩:=hcut
   obtain ⟨O',hs,ho,hn4⟩:=HWY.out
   obtain ⟨hX4,hO4,hN4⟩:=HXC.out.sdo hs ho hn4
   have hRn':R ∉ allG p tb tv lb lv O':=fun hm => by
    rcases hN4 R hm with e | e
    · exact hRn.out e
    · have:=HRC.out.lt;omega
   have hR4:=HRC.out.only hO4 (by simpa using hRn.out)
   have oR:∀ row,Only [R] wc (wc.setRow R row):=fun row => oz.setRow (.inl (by simp)) _
   have HFIN:Hid (∀ row,ReG w (wc.setRow R row) p (allG p tb tv lb lv O) (othA a c).1 (othA a c).2 (.returned (.agg #[.int .i64 g.2.1,.int .i64 g.1,.slice none 0 0]))):=Hd (fun row => by
    have hk:=HRK.out
    rw [HE.out] at hk ⊢
    exact ReG.nil rfl (wide_lt hk.er.1 (Int.le_trans hk.er.2 (by omega))) hk.n ⟨tb,tv,lb,lv,sb,O',B,BL,hX4.keep (oR row) (fun k hk hm => by simp at hm;subst hm;exact hRn' hk),rfl⟩ (((HOC.out.of0).trans hO4 (fun x hx => .inl hx)).trans (oR row) (fun x hx => by simp at hx;subst hx;exact .inr hwR)) (fun x hx => (hN4 x hx).imp id (fun h => Nat.le_trans HOC.out.size h)))
   have HRF:=Hd hR4
   have hst:=HRF.out
   have hone:(#[.int .i64 g.2.1,.int .i64 g.1,.slice none 0 0]:Array Value).all (·.oneCell') = true:=by simp [Value.oneCell']
   clear hs ho hn4 hX4 hO4 hN4 hRn' oR hR4 C HWY hst0
   go_wp2_with (refine wpList_store_row rfl 34 _ _ rfl R #[.int .i64 g.2.1,.int .i64 g.1,.slice none 0 0] rfl rfl 34 _ hst (by kernel_rfl) rfl hone ?_)
   (try simp only [Exit.inBlock,Exit.then])
   refine bodyPost_ret (v:=.agg #[.int .i64 g.2.1,.int .i64 g.1,.slice none 0 0]) ?_ rfl (HFIN.out _)
   exact results_row Tryz.results88 _ _ R 34 [.int .i64 g.2.1,.int .i64 g.1,.slice none 0 0] _ rfl (Cells.setRow HRF.out [.int .i64 g.2.1,.int .i64 g.1,.slice none 0 0]) Tryz.underlying34 rfl (by kernel_rfl)
theorem rg_other (p:Nat) (K:List Nat) (a:AgS) (n:Nat) (hn:n ≤ 1000000000) (c:Cm) (iv:Value) (w:World) (h:RgAt w p K a) (hI:AgI n a) (hfd:c.fd.length ≤ maxLen) (hil:c.its.length ≤ 1000000) (hit:∀ x ∈ c.its,x.Len) (hsl:ItK w K iv c):
 Calls Tryz.prog 88 #[.pointer (some ⟨p,0,none⟩),c.val iv] w fun e w' => ReG w w' p K (othA a c).1 (othA a c).2 e:=by
 by_cases k1:c.kd = 1
 · exact rg_other1 p K a n hn c iv w h hI hfd hil hit hsl k1
 by_cases k6:c.kd = 6
 · exact rg_other6 p K a n hn c iv w h hI hfd hil hit hsl k1 k6
 by_cases k7:c.kd = 7
 · exact rg_other7 p K a n hn c iv w h hI hfd hil hit hsl k1 k6 k7
 by_cases k9:c.kd = 9
 · exact rg_other9 p K a n hn c iv w h hI hfd hil hit hsl k1 k6 k7 k9
 · exact rg_otheri p K a n hn c iv w h hI hfd hil hit hsl k1 k6 k7 k9
theorem kept_readG {r:Rp} (h:RpK r) (w:World):Calls Tryz.prog 48 #[.string ⟨(rpb r).toArray⟩] w fun e w' => ∃ pv,e = .returned (.tuple #[r.val pv,.int .i64 0]) ∧ RpAt w' pv r ∧ Only [] w w' ∧ ∀ g,pv.ownBlock = some g → w.heap.size ≤ g:=by
 refine (ref18_toAnswer (rpb r) w (by have:=h.le;omega)).mono ?_
 rintro e w' ⟨pv,he,hp,ho,hn⟩
 have hu:unA (rpb r) = some r:=(unA_iff _ (by have:=h.le;omega) r).2 ⟨h.ok,rfl⟩
 rw [hu] at he hp
 exact ⟨pv,he,hp,ho,hn⟩
theorem rg_do (p:Nat) (K:List Nat) (a:AgS) (n:Nat) (hn:n ≤ 1000000000) (c:Cm) (iv:Value) (w:World) (h:RgAt w p K a) (hI:AgI n a) (hc:CmAt w iv c) (hsm:c.Sm) (hsl:ItK w K iv c):
 Calls Tryz.prog 36 #[.pointer (some ⟨p,0,none⟩),c.val iv] w fun e w' => ReG w w' p K (doA a c).1 (doA a c).2 e:=by
 have hil:c.its.length ≤ 1000000:=by have:=hsm.n;omega
 have hOT:=fun w' (hA:RgAt w' p K a) (hs:ItK w' K iv c) => rg_other p K a n hn c iv w' hA hI hc.fd hil hc.len hs
 have hONE:=fun w' (hA:RgAt w' p K a) => rg_client p K a n c iv w' hA hI hc.fd hc.id
 have hRT:=fun w' (ho:Only [] w w') => ref18_right c iv w' (hc.only ho) hsm
 have hCC:=fun w' => ref18_client c iv w'
 obtain ⟨tb,tv,lb,lv,sb,O,B,BL,hX,rfl⟩:=h
 have hE1:rightB c = false → doA a c = (errR 1,a):=fun h => by unfold doA;rw [if_pos h]
 have hEo:rightB c = true → clB c.kd = false → doA a c = othA a c:=fun h h2 => by unfold doA;rw [if_neg (by simp [h]),if_pos h2]
 have hkind:=S15.ask_kind a.t.l c.ss c.sq
 have hlen:=hI.ok.len
 have hpos:∀ s ∈ a.t.l,0 ≤ s.seq:=fun s hs => (hI.g s hs).pos
 have CA0:=Hd (fun w' ht => S15.rt_ask B tb tv a.t.l a.t.ever c.ss c.sq w' ht (by omega) hpos)
 have hk1:(S15.askS a.t.l c.ss c.sq).1 = 1 → ∃ r,RpK r ∧ (S15.askS a.t.l c.ss c.sq).2 = ⟨(rpb r).toArray⟩:=fun h1 => by
  obtain ⟨x,hx,hs,h2,e⟩:=ask_one h1
  obtain ⟨r,hr,er⟩:=hI.kept x hx (by omega)
  exact ⟨r,hr,e.trans er⟩
 have HK1:=Hd hk1
 have hRK:=cliA_k hI.si c
 unfold S15.askV at CA0
 have hE3:rightB c = true → clB c.kd = true → (S15.askS a.t.l c.ss c.sq).1 = 3 → doA a c = (errR 17,a):=fun g1 g2 h => by rw [doA_cl g1 g2];unfold clA;rw [if_pos h]
 have hE2:rightB c = true → clB c.kd = true → (S15.askS a.t.l c.ss c.sq).1 = 2 → doA a c = (errR 18,a):=fun g1 g2 h => by rw [doA_cl g1 g2];unfold clA;rw [h];rfl
 have hEa:rightB c = true → clB c.kd = true → (S15.askS a.t.l c.ss c.sq).1 = 1 → doA a c = (keptR (S15.askS a.t.l c.ss c.sq).2,a):=fun g1 g2 h => by rw [doA_cl g1 g2];unfold clA;rw [h];rfl
 have hE0:rightB c = true → clB c.kd = true → (S15.askS a.t.l c.ss c.sq).1 = 0 → doA a c = ((cliA a.s c).1,⟨⟨S15.doneL a.t.l c.ss c.sq ⟨(rpb (cliA a.s c).1).toArray⟩,a.t.ever⟩,a.d,(cliA a.s c).2⟩):=fun g1 g2 h => by rw [doA_cl g1 g2];unfold clA;rw [h];rfl
 obtain ⟨qq,hq⟩:∃ q,S15.askS a.t.l c.ss c.sq = q:=⟨_,rfl⟩
 rw [hq] at CA0 hkind HK1 hE3 hE2 hEa hE0
 clear hq hk1
 obtain ⟨q,kb⟩:=qq
 dsimp only at CA0 hkind HK1 hE3 hE2 hEa hE0
 have HLEN:=Hd hlen
 have HPOS:=Hd hpos
 have HONE:=Hd hONE
 have HRK:=Hd hRK
 have HE1e:=Hd hE1
 have HEo:=Hd hEo
 have HE3e:=Hd hE3
 have HE2e:=Hd hE2
 have HEae:=Hd hEa
 have HE0e:=Hd hE0
 have HKIND:=Hd hkind
 have HSL:=Hd hsl
 have HOT:=Hd hOT
 have HRT:=Hd hRT
 have HCC:=Hd hCC
 unfold Cm.val at HONE HOT HRT HCC ⊢
 clear hI hONE hRK hlen hpos hE3 hE2 hE1 hE0 hEa hEo hkind hsl hOT hRT hCC hc hsm hn
 go_enter Tryz.func36,Tryz.ntmps36
 go_upto_region 1 with fail
 obtain ⟨w1,hw1⟩:∃ u,w.alloc (.cells #[.int .i64 c.kd,.int .i64 c.ss,.int .i64 c.sq,.int .i64 c.sh,.int .i64 c.nd,.int .i64 c.ep,.int .i64 c.n,.string ⟨c.fd.toArray⟩,.string ⟨c.id.toArray⟩,iv,.bool c.fl] 38) = u:=⟨_,rfl⟩
 have hR:w.heap.size + 1 = w1.heap.size:=by rw [← hw1,World.size_alloc]
 obtain ⟨z,hz⟩:∃ z,w.heap.size = z:=⟨_,rfl⟩
 have hcz:Cells w1 z 38 (c.cells iv):=hw1 ▸ hz ▸ Cells.new w _ _
 rw [hw1,hR,hz]
 obtain ⟨w2,hw2⟩:∃ u,w1.alloc (.cells #[.int .i64 0,.int .i64 0,.slice none 0 0] 34) = u:=⟨_,rfl⟩
 obtain ⟨R,hRR⟩:∃ R,w1.heap.size = R:=⟨_,rfl⟩
 have o12:Only [] w1 w2:=hw2 ▸ oz.alloc _
 have o2:Only [] w w2:=Only.tr0 (hw1 ▸ oz.alloc _) o12
 have hcR:Cells w2 R 34 [.int .i64 0,.int .i64 0,.slice none 0 0]:=hw2 ▸ hRR ▸ Cells.new w1 _ _
 rw [hw2,hRR]
 have hwR:w.heap.size ≤ R:=by omega
 have hwz:w.heap.size ≤ z:=by omega
 have hX2:=hX.keep o2 (by simp)
 have hcz2:=hcz.only o12 (by simp)
 have HCZ:=Hd hcz2
 have hpl:=hX2.cells.lt
 have HX:=Hd hX
 have HX2:=Hd hX2
 have HO2:=Hd o2
 have HR:=Hd hcR
 have hRn:Hid (R ∉ allG p tb tv lb lv O):=Hd (fun hm => by have:=HX.out.lts R hm;omega)
 have hzn:Hid (z ∉ allG p tb tv lb lv O):=Hd (fun hm => by have:=HX.out.lts z hm;omega)
 obtain ⟨c0,c1,c2,c3,c4,c5,c6,c7,c8,c9,c10⟩:=cm_cells hcz2
 have CR:=Hd (HRT.out w2 o2)
 clear hw1 hw2 hR hRR hz o2 o12 hcR hX hX2 hcz hcz2
 go_wp2_with fail
 refine CR.out.mono ?_
 rintro e w3 ⟨rfl,ho3⟩
 have HX3:=Hd (HX2.out.keep ho3 (by simp))
 have HO3:=Hd (HO2.out.tr ho3)
 have HR3:=Hd (HR.out.only ho3 (by simp))
 have HCZ3:=Hd (HCZ.out.only ho3 (by simp))
 clear c0 c1 c2 c3 c4 c5 c6 c7 c8 c9 c10 ho3 CR HRT HX2 HO2 HR HCZ
 cases hb:rightB c with
 | false =>
  have HE:=Hd (HE1e.out hb)
  clear hb HE1e HEo HE3e HE2e HEae HE0e HCZ3 hzn HONE HOT HCC HSL
  have oR:∀ row,Only [R] w3 (w3.setRow R row):=fun row => oz.setRow (.inl (by simp)) _
  have HFIN:Hid (∀ row,ReG w (w3.setRow R row) p (allG p tb tv lb lv O) (doA a c).1 (doA a c).2 (.returned (.agg #[.int .i64 1,.int .i64 0,.slice none 0 0]))):=Hd (fun row => HE.out ▸ ReG.nil rfl (wide_lt (by omega) (by omega)) (wide_lt (by omega) (by omega)) ⟨tb,tv,lb,lv,sb,O,B,BL,HX3.out.keep (oR row) (fun k hk hm => by simp at hm;subst hm;exact hRn.out hk),rfl⟩ (HO3.out.of0.trans (oR row) (fun x hx => by simp at hx;subst hx;exact .inr hwR)) (fun x hx => .inl hx))
  have HRF:=Hd HR3.out
  have hst:=HRF.out
  have hone:(#[.int .i64 1,.int .i64 0,.slice none 0 0]:Array Value).all (·.oneCell') = true:=by simp [Value.oneCell']
  clear oR
  go_wp2_with (refine wpList_store_row rfl 34 _ _ rfl R #[.int .i64 1,.int .i64 0,.slice none 0 0] rfl rfl 34 _ hst (by kernel_rfl) rfl hone ?_)
  (try simp only [Exit.inBlock,Exit.then])
  refine bodyPost_ret (v:=.agg #[.int .i64 1,.int .i64 0,.slice none 0 0]) ?_ rfl (HFIN.out _)
  exact results_row Tryz.results36 _ _ R 34 [.int .i64 1,.int .i64 0,.slice none 0 0] _ rfl (Cells.setRow HRF.out [.int .i64 1,.int .i64 0,.slice none 0 0]) Tryz.underlying34 rfl (by kernel_rfl)
 | true =>
 obtain ⟨c0,c1,c2,c3,c4,c5,c6,c7,c8,c9,c10⟩:=cm_cells HCZ3.out
 have CC:=Hd (HCC.out w3)
 have HB:=Hd hb
 clear hb HCC HE1e
 go_wp2_with fail
 refine CC.out.mono ?_
 rintro e w4 ⟨rfl,ho4⟩
 have HX4:=Hd (HX3.out.keep ho4 (by simp))
 have HO4:=Hd (HO3.out.tr ho4)
 have HR4:=Hd (HR3.out.only ho4 (by simp))
 have HCZ4:=Hd (HCZ3.out.only ho4 (by simp))
 clear c0 c1 c2 c3 c4 c5 c6 c7 c8 c9 c10 ho4 CC HX3 HO3 HR3 HCZ3
 cases hcl:clB c.kd with
 | false =>
  have HE:=Hd (HEo.out HB.out hcl)
  obtain ⟨c0,c1,c2,c3,c4,c5,c6,c7,c8,c9,c10⟩:=cm_cells HCZ4.out
  have CX:=Hd (HOT.out w4 ⟨tb,tv,lb,lv,sb,O,B,BL,HX4.out,rfl⟩ (HSL.out.only HO4.out.of0))
  rw [← HE.out] at CX
  clear hcl HE HEo HE3e HE2e HEae HE0e HONE HOT HSL
  go_wp2_with fail
  refine CX.out.mono ?_
  rintro e w5 ⟨pv,K',rfl,hp5,hn5,hA5,ho5,hN5⟩
  obtain ⟨r,hr⟩:∃ r,(doA a c).1 = r:=⟨_,rfl⟩
  rw [hr] at hp5 hn5 ⊢
  obtain ⟨PA,pc,rfl⟩:=hp5.ps.shape
  have hR5:=HR4.out.only ho5 hRn.out
  have hRs:=HR4.out.lt
  have hRK:R ∉ K':=fun hm => by
   rcases hN5 R hm with e | e
   · exact hRn.out e
   · omega
  have oR:∀ row,Only [R] w5 (w5.setRow R row):=fun row => oz.setRow (.inl (by simp)) _
  have hws:=HO4.out.size
  have hpF:∀ row,RpAt (w5.setRow R row) (.slice PA r.ps.length pc) r:=fun row => by
   refine ⟨?_,hp5.er,hp5.n,hp5.sm,hp5.len⟩
   by_cases h0:0 < r.ps.length
   · exact (hp5.ps.past (oR row) (Nat.le_refl _) (fun g hg hm => by simp at hm;have:=(hn5 h0 g hg).1;omega)).more (oR row).size
   · obtain ⟨z1,z2,z3,z4,z5,z6,z7⟩:=hp5.ps
     exact ⟨z1,z2,z3,z4,z5,z6,fun hh => by omega⟩
  have HFIN:Hid (∀ row,ReG w (w5.setRow R row) p (allG p tb tv lb lv O) (doA a c).1 (doA a c).2 (.returned (.agg #[.int .i64 r.er,.int .i64 r.n,.slice PA r.ps.length pc]))):=Hd (fun row => by
   rw [hr]
   exact ⟨.slice PA r.ps.length pc,K',rfl,hpF row,fun h0 g hg => ⟨by have:=(hn5 h0 g hg).1;omega,(hn5 h0 g hg).2⟩,hA5.keep (oR row) (fun k hk hm => by simp at hm;subst hm;exact hRK hk),(HO4.out.of0.trans ho5 (fun x hx => .inl hx)).trans (oR row) (fun x hx => by simp at hx;subst hx;exact .inr hwR),fun x hx => (hN5 x hx).imp id (fun h => by omega)⟩)
  have HRF:=Hd hR5
  have hst:=HRF.out
  have hone:(#[.int .i64 r.er,.int .i64 r.n,.slice PA r.ps.length pc]:Array Value).all (·.oneCell') = true:=by simp [Value.oneCell']
  clear hp5 hn5 hA5 ho5 hN5 hR5 hRs hRK oR hws hpF CX hr c0 c1 c2 c3 c4 c5 c6 c7 c8 c9 c10
  go_wp2_with (refine wpList_store_row rfl 34 _ _ rfl R #[.int .i64 r.er,.int .i64 r.n,.slice PA r.ps.length pc] rfl rfl 34 _ hst (by kernel_rfl) rfl hone ?_)
  (try simp only [Exit.inBlock,Exit.then])
  refine bodyPost_ret (v:=.agg #[.int .i64 r.er,.int .i64 r.n,.slice PA r.ps.length pc]) ?_ rfl (HFIN.out _)
  exact results_row Tryz.results36 _ _ R 34 [.int .i64 r.er,.int .i64 r.n,.slice PA r.ps.length pc] _ rfl (Cells.setRow HRF.out [.int .i64 r.er,.int .i64 r.n,.slice PA r.ps.length pc]) Tryz.underlying34 rfl (by kernel_rfl)
 | true =>
 have HE3:=Hd (HE3e.out HB.out hcl)
 have HE2:=Hd (HE2e.out HB.out hcl)
 have HE1:=Hd (HEae.out HB.out hcl)
 have HE0:=Hd (HE0e.out HB.out hcl)
 have hkind:=HKIND.out
 have CA:=Hd (fun v:Since w4 => CA0.out v.w (HX4.out.keep v.2 (by simp)).t)
 obtain ⟨c0,c1,c2,c3,c4,c5,c6,c7,c8,c9,c10⟩:=cm_cells HCZ4.out
 have p1:=HX4.out.cells.cell (k:=0) rfl
 have v1:=fun u:Since w4 => u.cell p1
 have u1:=fun u:Since w4 => u.cell c1
 have u2:=fun u:Since w4 => u.cell c2
 clear hcl HE3e HE2e HEae HE0e HEo HOT HSL CA0 c0 c1 c2 c3 c4 c5 c6 c7 c8 c9 c10 p1 HKIND
 go_upto_region 7 with fail
 refine wp_region_only w4 oz (by kernel_rfl) (by kernel_rfl) ?_
 repeat (go_big_quiet_step ((go_at_call 89;refine Calls.only (CA.out _))))
 refine wpQuiet_nil ?_
 rintro ⟨w3,ho3⟩
 dsimp only
 have HX3:=Hd (HX4.out.keep ho3 (by simp))
 have HO3:=Hd (HO4.out.tr ho3)
 have HR3:=Hd (HR4.out.only ho3 (by simp))
 have HCZ3:=Hd (HCZ4.out.only ho3 (by simp))
 clear ho3 v1 u1 u2 CA HX4 HO4 HR4 HCZ4
 have hq4:q = 3 ∨ q = 2 ∨ q = 1 ∨ q = 0:=by omega
 clear hkind
 rcases hq4 with rfl | rfl | rfl | rfl
 · have HE:=Hd (HE3.out rfl)
   clear HCZ3 hzn
   have oR:∀ row,Only [R] w3 (w3.setRow R row):=fun row => oz.setRow (.inl (by simp)) _
   have HFIN:Hid (∀ row,ReG w (w3.setRow R row) p (allG p tb tv lb lv O) (doA a c).1 (doA a c).2 (.returned (.agg #[.int .i64 17,.int .i64 0,.slice none 0 0]))):=Hd (fun row => HE.out ▸ ReG.nil rfl (wide_lt (by omega) (by omega)) (wide_lt (by omega) (by omega)) ⟨tb,tv,lb,lv,sb,O,B,BL,HX3.out.keep (oR row) (fun k hk hm => by simp at hm;subst hm;exact hRn.out hk),rfl⟩ (HO3.out.of0.trans (oR row) (fun x hx => by simp at hx;subst hx;exact .inr hwR)) (fun x hx => .inl hx))
   have HRF:=Hd HR3.out
   have hst:=HRF.out
   have hone:(#[.int .i64 17,.int .i64 0,.slice none 0 0]:Array Value).all (·.oneCell') = true:=by simp [Value.oneCell']
   clear oR HK1
   go_wp2_with (refine wpList_store_row rfl 34 _ _ rfl R #[.int .i64 17,.int .i64 0,.slice none 0 0] rfl rfl 34 _ hst (by kernel_rfl) rfl hone ?_)
   (try simp only [Exit.inBlock,Exit.then])
   refine bodyPost_ret (v:=.agg #[.int .i64 17,.int .i64 0,.slice none 0 0]) ?_ rfl (HFIN.out _)
   exact results_row Tryz.results36 _ _ R 34 [.int .i64 17,.int .i64 0,.slice none 0 0] _ rfl (Cells.setRow HRF.out [.int .i64 17,.int .i64 0,.slice none 0 0]) Tryz.underlying34 rfl (by kernel_rfl)
 · have HE:=Hd (HE2.out rfl)
   clear HCZ3 hzn
   have oR:∀ row,Only [R] w3 (w3.setRow R row):=fun row => oz.setRow (.inl (by simp)) _
   have HFIN:Hid (∀ row,ReG w (w3.setRow R row) p (allG p tb tv lb lv O) (doA a c).1 (doA a c).2 (.returned (.agg #[.int .i64 18,.int .i64 0,.slice none 0 0]))):=Hd (fun row => HE.out ▸ ReG.nil rfl (wide_lt (by omega) (by omega)) (wide_lt (by omega) (by omega)) ⟨tb,tv,lb,lv,sb,O,B,BL,HX3.out.keep (oR row) (fun k hk hm => by simp at hm;subst hm;exact hRn.out hk),rfl⟩ (HO3.out.of0.trans (oR row) (fun x hx => by simp at hx;subst hx;exact .inr hwR)) (fun x hx => .inl hx))
   have HRF:=Hd HR3.out
   have hst:=HRF.out
   have hone:(#[.int .i64 18,.int .i64 0,.slice none 0 0]:Array Value).all (·.oneCell') = true:=by simp [Value.oneCell']
   clear oR HK1
   go_wp2_with (refine wpList_store_row rfl 34 _ _ rfl R #[.int .i64 18,.int .i64 0,.slice none 0 0] rfl rfl 34 _ hst (by kernel_rfl) rfl hone ?_)
   (try simp only [Exit.inBlock,Exit.then])
   refine bodyPost_ret (v:=.agg #[.int .i64 18,.int .i64 0,.slice none 0 0]) ?_ rfl (HFIN.out _)
   exact results_row Tryz.results36 _ _ R 34 [.int .i64 18,.int .i64 0,.slice none 0 0] _ rfl (Cells.setRow HRF.out [.int .i64 18,.int .i64 0,.slice none 0 0]) Tryz.underlying34 rfl (by kernel_rfl)
 · have hE:=HE1.out rfl
   obtain ⟨r,hr,rfl⟩:=HK1.out rfl
   rw [keptR_of hr] at hE
   have HE:=Hd hE
   clear hE
   have CT:=Hd (kept_readG hr w3)
   unfold Rp.val at CT
   clear HK1 hr HCZ3 hzn
   go_wp2_with fail
   refine CT.out.mono ?_
   rintro e w4 ⟨pv,rfl,hp4,ho4,hn4⟩
   obtain ⟨PA,pc,rfl⟩:=hp4.ps.shape
   obtain ⟨w5,hw5⟩:∃ u,w4.alloc (.cells #[.int .i64 0,.int .i64 0,.slice none 0 0] 34) = u:=⟨_,rfl⟩
   have hst5:Cells (w4.alloc (.cells #[.int .i64 0,.int .i64 0,.slice none 0 0] 34)) w4.heap.size 34 [.int .i64 0,.int .i64 0,.slice none 0 0]:=Cells.new w4 _ _
   have o45:Only [] w4 (w4.alloc (.cells #[.int .i64 0,.int .i64 0,.slice none 0 0] 34)):=oz.alloc _
   have hR4:=HR3.out.only ho4 (by simp)
   have hRQ:R ≠ w4.heap.size:=fun e => by have:=hR4.lt;omega
   have hR3s:=HR3.out.lt
   rw [hw5] at hst5 o45
   have o46:Only [] w4 (w5.setRow w4.heap.size #[.int .i64 r.er,.int .i64 r.n,.slice PA r.ps.length pc]):=o45.trans ((Only.refl [w4.heap.size] _).setRow (.inl (by simp)) _) (fun x hx => by simp at hx;subst hx;exact .inr (Nat.le_refl _))
   have hld6:Cells (w5.setRow w4.heap.size #[.int .i64 r.er,.int .i64 r.n,.slice PA r.ps.length pc]) w4.heap.size 34 [.int .i64 r.er,.int .i64 r.n,.slice PA r.ps.length pc]:=hst5.setRow [.int .i64 r.er,.int .i64 r.n,.slice PA r.ps.length pc]
   have hst6:Cells (w5.setRow w4.heap.size #[.int .i64 r.er,.int .i64 r.n,.slice PA r.ps.length pc]) R 34 [.int .i64 0,.int .i64 0,.slice none 0 0]:=hR4.only o46 (by simp)
   have hp6:RpAt (w5.setRow w4.heap.size #[.int .i64 r.er,.int .i64 r.n,.slice PA r.ps.length pc]) (.slice PA r.ps.length pc) r:=hp4.only o46
   have hX6:=HX3.out.keep (ho4.tr o46) (by simp)
   have hO6:=HO3.out.tr (ho4.tr o46)
   obtain ⟨w6,hw6⟩:∃ u,w5.setRow w4.heap.size #[.int .i64 r.er,.int .i64 r.n,.slice PA r.ps.length pc] = u:=⟨_,rfl⟩
   rw [hw6] at hld6 hst6 hp6 hX6 hO6
   have oR:∀ row,Only [R] w6 (w6.setRow R row):=fun row => oz.setRow (.inl (by simp)) _
   have hgR:∀ g,(Value.slice PA r.ps.length pc).ownBlock = some g → w.heap.size ≤ g ∧ w3.heap.size ≤ g:=fun g hg => ⟨by have:=hn4 g hg;have:=HO3.out.size;omega,hn4 g hg⟩
   have HFIN:Hid (∀ row,ReG w (w6.setRow R row) p (allG p tb tv lb lv O) (doA a c).1 (doA a c).2 (.returned (.agg #[.int .i64 r.er,.int .i64 r.n,.slice PA r.ps.length pc]))):=Hd (fun row => HE.out ▸ ⟨.slice PA r.ps.length pc,_,rfl,hp6.past (oR row) (fun g hg hm => by simp at hm;subst hm;have:=(hgR _ hg).2;omega),fun _ g hg => ⟨(hgR g hg).1,fun hm => by have:=(hgR g hg).2;have:=HX3.out.lts g hm;omega⟩,⟨tb,tv,lb,lv,sb,O,B,BL,hX6.keep (oR row) (fun k hk hm => by simp at hm;subst hm;exact hRn.out hk),rfl⟩,hO6.of0.trans (oR row) (fun x hx => by simp at hx;subst hx;exact .inr hwR),fun x hx => .inl hx⟩)
   have HRF:=Hd hst6
   have hone:(#[.int .i64 r.er,.int .i64 r.n,.slice PA r.ps.length pc]:Array Value).all (·.oneCell') = true:=by simp [Value.oneCell']
   clear hp4 ho4 hn4 o45 hR4 hRQ hR3s o46 hp6 hX6 hO6 oR hgR CT
   go_wp2_with (first
    | ((try rw [hw5]);refine wpList_store_row rfl 34 _ _ rfl w4.heap.size #[.int .i64 r.er,.int .i64 r.n,.slice PA r.ps.length pc] rfl rfl 34 _ hst5 (by kernel_rfl) rfl hone ?_;(try rw [hw6]))
    | refine wpList_load_row rfl 34 _ rfl w4.heap.size rfl 34 #[.int .i64 r.er,.int .i64 r.n,.slice PA r.ps.length pc] (0,0) _ hld6 Tryz.underlying34 rfl (by kernel_rfl) ?_
    | refine wpList_store_row rfl 34 _ _ rfl R #[.int .i64 r.er,.int .i64 r.n,.slice PA r.ps.length pc] rfl rfl 34 _ hst6 (by kernel_rfl) rfl hone ?_)
   (try simp only [Exit.inBlock,Exit.then])
   refine bodyPost_ret (v:=.agg #[.int .i64 r.er,.int .i64 r.n,.slice PA r.ps.length pc]) ?_ rfl (HFIN.out _)
   exact results_row Tryz.results36 _ _ R 34 [.int .i64 r.er,.int .i64 r.n,.slice PA r.ps.length pc] _ rfl (Cells.setRow HRF.out [.int .i64 r.er,.int .i64 r.n,.slice PA r.ps.length pc]) Tryz.underlying34 rfl (by kernel_rfl)
 · have hE:=HE0.out rfl
   obtain ⟨r,hr⟩:∃ r,(cliA a.s c).1 = r:=⟨_,rfl⟩
   obtain ⟨s',hs'⟩:∃ s',(cliA a.s c).2 = s':=⟨_,rfl⟩
   rw [hr] at hE HRK HONE
   rw [hs'] at hE HONE
   have HE:=Hd hE
   clear hE hr hs' HE0 HE1 HE2 HE3 HK1
   obtain ⟨wc,hwc⟩:∃ u,u = w3:=⟨w3,rfl⟩
   subst hwc
   have HXC:=Hd HX3.out
   have HOC:=Hd HO3.out
   have HRC:=Hd HR3.out
   have HCZC:=Hd HCZ3.out
   have CF:=Hd (HONE.out wc ⟨tb,tv,lb,lv,sb,O,B,BL,HXC.out,rfl⟩)
   obtain ⟨c0,c1,c2,c3,c4,c5,c6,c7,c8,c9,c10⟩:=cm_cells HCZC.out
   clear HONE HX3 HO3 HR3 HCZ3
   go_wp2_with fail
   refine CF.out.mono ?_
   rintro e w4 ⟨pv,K',rfl,hp4,hn4,⟨tb2,tv2,lb2,lv2,sb2,O2,B2,BL2,hX4,rfl⟩,ho4,hN4⟩
   obtain ⟨PA,pc,rfl⟩:=hp4.ps.shape
   clear c0 c1 c2 c3 c4 c5 c6 c7 c8 c9 c10 CF
   have hR4:=HRC.out.only ho4 hRn.out
   have hcz4:=HCZC.out.only ho4 hzn.out
   have hRsz:=HRC.out.lt
   have hRn2:R ∉ allG p tb2 tv2 lb2 lv2 O2:=fun hm => by
    rcases hN4 R hm with e | e
    · exact hRn.out e
    · omega
   obtain ⟨w5,hw5⟩:∃ u,w4.alloc (.cells #[.int .i64 0,.int .i64 0,.slice none 0 0] 34) = u:=⟨_,rfl⟩
   obtain ⟨Q,hQ⟩:∃ Q,w4.heap.size = Q:=⟨_,rfl⟩
   have hst5:Cells w5 Q 34 [.int .i64 0,.int .i64 0,.slice none 0 0]:=hw5 ▸ hQ ▸ Cells.new w4 _ _
   have o45:Only [] w4 w5:=hw5 ▸ oz.alloc _
   have o46:Only [] w4 (w5.setRow Q #[.int .i64 r.er,.int .i64 r.n,.slice PA r.ps.length pc]):=o45.trans ((Only.refl [Q] _).setRow (.inl (by simp)) _) (fun x hx => by simp at hx;subst hx;exact .inr (Nat.le_of_eq hQ))
   have hld6:Cells (w5.setRow Q #[.int .i64 r.er,.int .i64 r.n,.slice PA r.ps.length pc]) Q 34 [.int .i64 r.er,.int .i64 r.n,.slice PA r.ps.length pc]:=hst5.setRow [.int .i64 r.er,.int .i64 r.n,.slice PA r.ps.length pc]
   obtain ⟨w6,hw6⟩:∃ u,w5.setRow Q #[.int .i64 r.er,.int .i64 r.n,.slice PA r.ps.length pc] = u:=⟨_,rfl⟩
   rw [hw6] at hld6 o46
   have hX6:=hX4.keep o46 (by simp)
   have hQn:Q ∉ allG p tb2 tv2 lb2 lv2 O2:=fun hm => by have:=hX4.lts Q hm;omega
   have hone:(#[.int .i64 r.er,.int .i64 r.n,.slice PA r.ps.length pc]:Array Value).all (·.oneCell') = true:=by simp [Value.oneCell']
   have HR6:=Hd (hR4.only o46 (by simp))
   have HCZ6:=Hd (hcz4.only o46 (by simp))
   have HQ6:=Hd hld6
   have HP6:=Hd (hp4.only o46)
   have HX6:=Hd hX6
   have HO6:=Hd ((HOC.out.of0.trans ho4 (fun x hx => .inl hx)).trans o46 (fun x hx => by cases hx))
   have HN4:=Hd hN4
   have HRN2:=Hd hRn2
   have HQN:=Hd hQn
   have HGE:Hid (0 < r.ps.length → ∀ g,(Value.slice PA r.ps.length pc).ownBlock = some g → wc.heap.size ≤ g ∧ g ∉ allG p tb2 tv2 lb2 lv2 O2):=Hd hn4
   have HS4:Hid (wc.heap.size ≤ w4.heap.size ∧ w4.heap.size ≤ w6.heap.size ∧ w.heap.size ≤ wc.heap.size ∧ R < wc.heap.size):=Hd ⟨ho4.size,o46.size,HOC.out.size,hRsz⟩
   clear hp4 hn4 hX4 ho4 hN4 hR4 hcz4 hRsz hRn2 o45 o46 hX6 hQn HXC HOC HRC HCZC
   go_wp2_with (first
    | ((try rw [hw5]);(try rw [hQ]);refine wpList_store_row rfl 34 _ _ rfl Q #[.int .i64 r.er,.int .i64 r.n,.slice PA r.ps.length pc] rfl rfl 34 _ hst5 (by kernel_rfl) rfl hone ?_;(try rw [hw6])))
   clear hw5 hQ hst5 hw6
   (try simp only [Act.put])
   obtain ⟨c0,c1,c2,c3,c4,c5,c6,c7,c8,c9,c10⟩:=cm_cells HCZ6.out
   have p0:=HX6.out.cells.cell (k:=0) rfl
   have q0:=HQ6.out.cell (k:=0) rfl
   have q1:=HQ6.out.cell (k:=1) rfl
   have q2:=HQ6.out.cell (k:=2) rfl
   have hpl6:=HX6.out.cells.lt
   have hQl6:=HQ6.out.lt
   have v0:=fun u:Since w6 => u.cell p0
   have u1:=fun u:Since w6 => u.cell c1
   have u2:=fun u:Since w6 => u.cell c2
   have y0:=fun u:Since w6 => u.cell q0
   have y1:=fun u:Since w6 => u.cell q1
   have y2:=fun u:Since w6 => u.cell q2
   have CW:Hid (∀ u:Since w6,Calls Tryz.prog 56 #[.agg #[.int .i64 r.er,.int .i64 r.n,.slice PA r.ps.length pc]] u.w fun e w' => e = .returned (.string ⟨(rpb r).toArray⟩) ∧ Only [] u.w w'):=Hd (fun u => ref18_answer r (.slice PA r.ps.length pc) u.w (HP6.out.only u.2))
   clear c0 c1 c2 c3 c4 c5 c6 c7 c8 c9 c10 p0 q0 q1 q2
   refine wp_region_only_tail w6 oz 10 (by kernel_rfl) (by kernel_rfl) ?_
   simp only [tk1,tk0,dr1,dr0]
   repeat (go_big_quiet_step ((go_at_call 56;refine Calls.only (CW.out _))))
   refine wpQuiet_nil ?_
   rintro ⟨w7,ho7⟩
   dsimp only
   have HX7:=Hd (HX6.out.keep ho7 (by simp))
   have HO7:=Hd (HO6.out.trans ho7 (fun x hx => by cases hx))
   have HR7:=Hd (HR6.out.only ho7 (by simp))
   have HQ7:=Hd (HQ6.out.only ho7 (by simp))
   have HP7:=Hd (HP6.out.only ho7)
   have HS7:Hid (w6.heap.size ≤ w7.heap.size):=Hd ho7.size
   have CD:=Hd (S15.rt_done B2 tb2 tv2 a.t.l a.t.ever c.ss c.sq ⟨(rpb r).toArray⟩ w7 HX7.out.t HLEN.out HPOS.out)
   clear ho7 v0 u1 u2 y0 y1 y2 CW HX6 HO6 HR6 HCZ6 HQ6 HP6 hpl6 hQl6
   go_wp2_with fail
   refine CD.out.mono ?_
   rintro e w8 ⟨rfl,tv3,ht8,ho8,hn8⟩
   obtain ⟨hX8,hO8,hN8⟩:=HX7.out.tdo (t':=⟨S15.doneL a.t.l c.ss c.sq ⟨(rpb r).toArray⟩,a.t.ever⟩) ht8 ho8 hn8
   have hst8:=HR7.out.only hO8 HRN2.out
   have hld8:=HQ7.out.only hO8 HQN.out
   have hp8:RpAt w8 (.slice PA r.ps.length pc) r:=by
    refine ⟨?_,HP7.out.er,HP7.out.n,HP7.out.sm,HP7.out.len⟩
    by_cases h0:0 < r.ps.length
    · exact (HP7.out.ps.past hO8 (Nat.le_refl _) (fun g hg => (HGE.out h0 g hg).2)).more hO8.size
    · obtain ⟨z1,z2,z3,z4,z5,z6,z7⟩:=HP7.out.ps
      exact ⟨z1,z2,z3,z4,z5,z6,fun hh => by omega⟩
   have oR:∀ row,Only [R] w8 (w8.setRow R row):=fun row => oz.setRow (.inl (by simp)) _
   have hRn8:R ∉ allG p tb2 tv3 lb2 lv2 O2:=fun hm => by
    rcases hN8 R hm with e | e
    · exact HRN2.out e
    · have:=HR7.out.lt;omega
   have hgR:0 < r.ps.length → ∀ g,(Value.slice PA r.ps.length pc).ownBlock = some g → w.heap.size ≤ g ∧ g ≠ R ∧ g < w7.heap.size:=fun h0 g hg => by
    obtain ⟨h1,h2,h3,h4⟩:=HS4.out
    have hg1:=(HGE.out h0 g hg).1
    refine ⟨by omega,by omega,?_⟩
    obtain ⟨bb,oo,cc,e,hb,_⟩:=HP7.out.ps.at_ (by omega)
    injection e with e1
    subst e1
    simp [Value.ownBlock] at hg
    omega
   have hpF:∀ row,RpAt (w8.setRow R row) (.slice PA r.ps.length pc) r:=fun row => by
    refine ⟨?_,hp8.er,hp8.n,hp8.sm,hp8.len⟩
    by_cases h0:0 < r.ps.length
    · exact (hp8.ps.past (oR row) (Nat.le_refl _) (fun g hg hm => by simp at hm;exact (hgR h0 g hg).2.1 hm)).more (oR row).size
    · obtain ⟨z1,z2,z3,z4,z5,z6,z7⟩:=hp8.ps
      exact ⟨z1,z2,z3,z4,z5,z6,fun hh => by omega⟩
   have HFIN:Hid (∀ row,ReG w (w8.setRow R row) p (allG p tb tv lb lv O) (doA a c).1 (doA a c).2 (.returned (.agg #[.int .i64 r.er,.int .i64 r.n,.slice PA r.ps.length pc]))):=Hd (fun row => by
    rw [HE.out]
    refine ⟨.slice PA r.ps.length pc,_,rfl,hpF row,fun h0 g hg => ⟨(hgR h0 g hg).1,fun hm => ?_⟩,⟨tb2,tv3,lb2,lv2,sb2,O2,B2,BL2,hX8.keep (oR row) (fun k hk hm => by simp at hm;subst hm;exact hRn8 hk),rfl⟩,?_,fun x hx => ?_⟩
    · rcases hN8 g hm with e | e
      · exact (HGE.out h0 g hg).2 e
      · have:=(hgR h0 g hg).2.2;omega
    · refine (HO7.out.trans hO8 (fun x hx => ?_)).trans (oR row) (fun x hx => by simp at hx;subst hx;exact .inr hwR)
      rcases HN4.out x hx with e | e
      · exact .inl e
      · exact .inr (by have:=HS4.out;omega)
    · rcases hN8 x hx with e | e
      · rcases HN4.out x e with e | e
        · exact .inl e
        · exact .inr (by have:=HS4.out;omega)
      · exact .inr (by have:=HS4.out;have:=HS7.out;omega))
   have HRF:=Hd hst8
   clear ht8 ho8 hn8 hX8 hO8 hN8 hp8 oR hRn8 hgR hpF CD
   go_wp2_with (first
    | refine wpList_load_row rfl 34 _ rfl Q rfl 34 #[.int .i64 r.er,.int .i64 r.n,.slice PA r.ps.length pc] (0,0) _ hld8 Tryz.underlying34 rfl (by kernel_rfl) ?_
    | refine wpList_store_row rfl 34 _ _ rfl R #[.int .i64 r.er,.int .i64 r.n,.slice PA r.ps.length pc] rfl rfl 34 _ hst8 (by kernel_rfl) rfl hone ?_)
   (try simp only [Exit.inBlock,Exit.then])
   refine bodyPost_ret (v:=.agg #[.int .i64 r.er,.int .i64 r.n,.slice PA r.ps.length pc]) ?_ rfl (HFIN.out _)
   exact results_row Tryz.results36 _ _ R 34 [.int .i64 r.er,.int .i64 r.n,.slice PA r.ps.length pc] _ rfl (Cells.setRow HRF.out [.int .i64 r.er,.int .i64 r.n,.slice PA r.ps.length pc]) Tryz.underlying34 rfl (by kernel_rfl)
structure RgW (W w:World) (p:Nat) (K:List Nat) (n:Nat) (a:AgS):Prop where
 at_:RgAt w p K a
 ho:Only [] W w
 lo:∀ x ∈ K,W.heap.size ≤ x
 i:AgI n a
theorem RgW.read {W w w':World} {p:Nat} {K:List Nat} {n:Nat} {a:AgS} (h:RgW W w p K n a) (ho:Only [] w w'):RgW W w' p K n a:=⟨h.at_.keep ho (by simp),h.ho.tr ho,h.lo,h.i⟩
theorem RgW.far {W w w':World} {p:Nat} {K X:List Nat} {n:Nat} {a:AgS} (h:RgW W w p K n a) (ho:Only X w w') (hX:∀ x ∈ X,x ∉ K ∧ W.heap.size ≤ x):RgW W w' p K n a:=
 ⟨h.at_.keep ho (fun k hk hm => (hX k hm).1 hk),h.ho.trans ho (fun x hx => .inr (hX x hx).2),h.lo,h.i⟩
theorem RgAt.sj {w:World} {p:Nat} {K:List Nat} {a:AgS} {n:Nat} (h:RgAt w p K a) (hI:AgI n a):SvJ a.s:=by
 obtain ⟨tb,tv,lb,lv,sb,O,B,BL,h,rfl⟩:=h
 obtain ⟨h1,h2,h3⟩:=h.s.sorted
 exact SvJ.of hI.si hI.sz h1 h2 h3
theorem SmC.sm {c:Cm} (h:SmC c):c.Sm:=⟨Nat.le_trans h.fd (by omega),Nat.le_trans h.id (by omega),Nat.le_trans h.n (by omega),fun x hx => by
 have:=h.its x hx
 exact ⟨Nat.le_trans this.id (by omega),Nat.le_trans this.ti (by omega),Nat.le_trans this.li (by omega)⟩⟩
def DgW (W w w':World) (p:Nat) (K:List Nat) (n:Nat) (a:AgS) (r:Rp) (e:Ending):Prop:=∃ pv K',e = .returned (r.val pv) ∧ RpAt w' pv r ∧ (0 < r.ps.length → ∀ g,pv.ownBlock = some g → w.heap.size ≤ g ∧ g ∉ K') ∧ RgW W w' p K' n a ∧ Only K w w' ∧ (∀ x ∈ K',x ∈ K ∨ w.heap.size ≤ x) ∧ RpK r
theorem rgw_do (p:Nat) (K:List Nat) (a:AgS) (n:Nat) (hn:n ≤ 1000000) (c:Cm) (iv:Value) (W w:World) (h:RgW W w p K n a) (hc:CmAt w iv c) (hsm:c.Sm) (hs:ItK w K iv c):
 Calls Tryz.prog 36 #[.pointer (some ⟨p,0,none⟩),c.val iv] w fun e w' => DgW W w w' p K (n + 1) (doA a c).2 (doA a c).1 e:=by
 refine (rg_do p K a n (by omega) c iv w h.at_ h.i hc hsm hs).mono ?_
 rintro e w' ⟨pv,K',he,hp,hg,hA,ho,hN⟩
 have hst:=doA_step h.i (by omega) c (hc.nums _ (by simp)) (by have:=hsm.n;omega)
 exact ⟨pv,K',he,hp,hg,⟨hA,h.ho.trans ho (fun x hx => .inr (h.lo x hx)),fun x hx => by
  rcases hN x hx with e | e
  · exact h.lo x e
  · exact Nat.le_trans h.ho.size e,hst.1⟩,ho,hN,hst.2⟩
theorem rgw_new (W w:World) (h:Only [] W w):Calls Tryz.prog 32 #[] w fun e w' => ∃ p K,e = .returned (.pointer (some ⟨p,0,none⟩)) ∧ RgW W w' p K 0 AgS.new ∧ (∀ x ∈ K,w.heap.size ≤ x) ∧ Only [] w w':=by
 refine (rg_new w).mono ?_
 rintro e w' ⟨p,K,he,hA,hl,ho⟩
 exact ⟨p,K,he,⟨hA,h.tr ho,fun x hx => Nat.le_trans h.size (hl x hx),AgI.new⟩,hl,ho⟩
theorem rgw_save {W w:World} {p:Nat} {K:List Nat} {n:Nat} {a:AgS} (hn:n ≤ 1000000000) (h:RgW W w p K n a):
 Calls Tryz.prog 38 #[.pointer (some ⟨p,0,none⟩)] w fun e w' => e = .returned (.string ⟨(agB a).toArray⟩) ∧ Only [] w w':=rg_save p K a n hn w h.at_ h.i (h.at_.sj h.i)
def apA (s:List UInt8) (a:AgS):List UInt8 × AgS:=match unC s with
 | none => (rpb (errR 8),a)
 | some c => (rpb (doA a c).1,(doA a c).2)
def ApW (W w w':World) (p:Nat) (K:List Nat) (n:Nat) (o:List UInt8 × AgS) (e:Ending):Prop:=∃ K',e = .returned (.string ⟨o.1.toArray⟩) ∧ AgW W w' p K' n o.2 ∧ Only K w w' ∧ ∀ x ∈ K',x ∈ K ∨ w.heap.size ≤ x
def ApG (W w w':World) (p:Nat) (K:List Nat) (n:Nat) (o:List UInt8 × AgS) (e:Ending):Prop:=∃ K',e = .returned (.string ⟨o.1.toArray⟩) ∧ RgW W w' p K' n o.2 ∧ Only K w w' ∧ ∀ x ∈ K',x ∈ K ∨ w.heap.size ≤ x
theorem unC_right {s:List UInt8} {c:Cm} (h:unC s = some c):rightB c = true:=by
 unfold unC at h
 split at h
 · rename_i hc
   injection h with h
   exact h ▸ hc.2.1
 · cases h
theorem right_its {c:Cm} (h:rightB c = true):c.its.length ≤ 100 ∧ c.fd.length ≤ 200 ∧ c.id.length ≤ 200 ∧ ∀ x ∈ c.its,itR x = true:=by
 unfold rightB lenB at h
 simp only [Bool.and_eq_true,decide_eq_true_eq,List.all_eq_true] at h
 exact ⟨h.1.1.2.2,h.1.1.2.1.1,h.1.1.2.1.2,h.2⟩
theorem itk_new {w w1 w2:World} {K:List Nat} {c:Cm} {iv:Value} (hc:CmAt w1 iv c) (hg:∀ g,iv.ownBlock = some g → w.heap.size ≤ g) (hK:∀ x ∈ K,x < w.heap.size) (ho:Only [] w1 w2):ItK w2 K iv c:=fun w3 h3 => by
 have h1:=(hc.its.only ho (Nat.le_refl _) (by simp)).more ho.size
 exact (h1.past h3 (Nat.le_refl _) (fun g hg' hm => by have:=hg g hg';have:=hK g hm;omega)).more h3.size
theorem agw_apply (p:Nat) (K:List Nat) (a:AgS) (n:Nat) (hn:n ≤ 1000000) (s:List UInt8) (hl:s.length ≤ 1000000) (W w:World) (h:AgW W w p K n a):
 Calls Tryz.prog 34 #[.pointer (some ⟨p,0,none⟩),.string ⟨s.toArray⟩] w fun e w' => ApW W w w' p K (n + 1) (apA s a) e:=by
 have CU:=Hd (cmd_unpack s w (by omega))
 have CA:=Hd (fun r pv w' => cmd_answer r pv w')
 have H:=Hd h
 have hbw:=h.at_.bw
 have HBW:=Hd hbw
 have CD:=Hd (fun c iv w' (hu:unC s = some c) (h:AgW W w' p K n a) hc hs => agw_do p K a n hn c iv W w' h hc (by have:=(right_its (unC_right hu)).1;omega) hs)
 have HN1:Hid (unC s = none → apA s a = (rpb (errR 8),a)):=Hd (fun h => by unfold apA;rw [h])
 have HS1:Hid (∀ c,unC s = some c → apA s a = (rpb (doA a c).1,(doA a c).2)):=Hd (fun c h => by unfold apA;rw [h])
 obtain ⟨o,ho⟩:∃ o,apA s a = o:=⟨_,rfl⟩
 rw [ho] at HN1 HS1 ⊢
 clear h hbw ho
 go_enter Tryz.func34,Tryz.ntmps34
 go_wp2_with fail
 refine CU.out.mono ?_
 rintro e w1 ⟨iv,rfl,hc,ho1,hg1⟩
 obtain ⟨IA,ic,hv⟩:=hc.its.shape
 have HC:=Hd hc
 have HG:=Hd hg1
 have HO1:=Hd ho1
 clear hc hg1 ho1 CU
 cases hu:unC s with
 | none =>
  have HX:=Hd (HN1.out hu)
  clear HN1 HS1
  rw [hu] at HC hv
  simp only [Option.getD_none,Option.isSome_none] at HC hv ⊢
  rw [show (if (false:Bool) = true then (0:Int) else 8) = 8 from rfl]
  unfold Cm.val Cm.zero
  (try dsimp only)
  have hv:iv = .slice IA 0 ic:=hv
  subst hv
  obtain ⟨b1,b2,b3⟩:=box_row w1 38 [.int .i64 0,.int .i64 0,.int .i64 0,.int .i64 0,.int .i64 0,.int .i64 0,.int .i64 0,.string ⟨#[]⟩,.string ⟨#[]⟩,.slice none 0 0,.bool false] [.int .i64 0,.int .i64 0,.int .i64 0,.int .i64 0,.int .i64 0,.int .i64 0,.int .i64 0,.string ⟨([]:List UInt8).toArray⟩,.string ⟨([]:List UInt8).toArray⟩,.slice IA 0 ic,.bool false]
  have hone:(#[.int .i64 0,.int .i64 0,.int .i64 0,.int .i64 0,.int .i64 0,.int .i64 0,.int .i64 0,.string ⟨([]:List UInt8).toArray⟩,.string ⟨([]:List UInt8).toArray⟩,.slice IA 0 ic,.bool false]:Array Value).all (·.oneCell') = true:=by simp [Value.oneCell']
  have HR:=Hd (rpAt_nil · 8 0 ⟨by omega,by omega⟩ ⟨by omega,by omega⟩)
  clear CD HG HBW hu HC
  go_wp2_with (refine wpList_store_row rfl 38 _ _ rfl w1.heap.size #[.int .i64 0,.int .i64 0,.int .i64 0,.int .i64 0,.int .i64 0,.int .i64 0,.int .i64 0,.string ⟨([]:List UInt8).toArray⟩,.string ⟨([]:List UInt8).toArray⟩,.slice IA 0 ic,.bool false] rfl rfl 38 _ b2 (by kernel_rfl) rfl hone ?_)
  (try simp only [Act.put])
  obtain ⟨ys,hy⟩:∃ u,(w1.alloc (.cells #[.int .i64 0,.int .i64 0,.int .i64 0,.int .i64 0,.int .i64 0,.int .i64 0,.int .i64 0,.string ⟨#[]⟩,.string ⟨#[]⟩,.slice none 0 0,.bool false] 38)).setRow w1.heap.size #[.int .i64 0,.int .i64 0,.int .i64 0,.int .i64 0,.int .i64 0,.int .i64 0,.int .i64 0,.string ⟨([]:List UInt8).toArray⟩,.string ⟨([]:List UInt8).toArray⟩,.slice IA 0 ic,.bool false] = u:=⟨_,rfl⟩
  have HO2:Hid (Only [] w ys):=Hd (HO1.out.tr (hy ▸ b1))
  (try rw [hy])
  clear hy b1 b2 b3 hone
  refine (CA.out ⟨8,0,[]⟩ (.slice none 0 0) _ (HR.out _)).mono ?_
  rintro e w4 ⟨rfl,ho4⟩
  have HO4:=Hd (HO2.out.tr ho4)
  clear ho4 HO2 CA HR
  go_wp2_with fail
  go_ret
  exact ⟨K,by rw [HX.out];rfl,by rw [HX.out];exact ⟨(H.out.read HO4.out).at_,H.out.ho.tr HO4.out,H.out.lo,H.out.i.mono (by omega)⟩,HO4.out.of0,fun x hx => .inl hx⟩
 | some c =>
  have HX:=Hd (HS1.out c hu)
  clear HN1 HS1
  rw [hu] at HC hv
  simp only [Option.getD_some,Option.isSome_some] at HC hv ⊢
  (try simp only [if_true])
  unfold Cm.val
  (try dsimp only)
  obtain ⟨b1,b2,b3⟩:=box_row w1 38 [.int .i64 0,.int .i64 0,.int .i64 0,.int .i64 0,.int .i64 0,.int .i64 0,.int .i64 0,.string ⟨#[]⟩,.string ⟨#[]⟩,.slice none 0 0,.bool false] [.int .i64 c.kd,.int .i64 c.ss,.int .i64 c.sq,.int .i64 c.sh,.int .i64 c.nd,.int .i64 c.ep,.int .i64 c.n,.string ⟨c.fd.toArray⟩,.string ⟨c.id.toArray⟩,iv,.bool c.fl]
  subst hv
  have hone:(#[.int .i64 c.kd,.int .i64 c.ss,.int .i64 c.sq,.int .i64 c.sh,.int .i64 c.nd,.int .i64 c.ep,.int .i64 c.n,.string ⟨c.fd.toArray⟩,.string ⟨c.id.toArray⟩,.slice IA c.its.length ic,.bool c.fl]:Array Value).all (·.oneCell') = true:=by simp [Value.oneCell']
  have CD2:=Hd (fun w' (h:AgW W w' p K n a) hc hs => CD.out c (.slice IA c.its.length ic) w' hu h hc hs)
  unfold Cm.val at CD2
  clear CD hu
  obtain ⟨ys,hy⟩:∃ u,(w1.alloc (.cells #[.int .i64 0,.int .i64 0,.int .i64 0,.int .i64 0,.int .i64 0,.int .i64 0,.int .i64 0,.string ⟨#[]⟩,.string ⟨#[]⟩,.slice none 0 0,.bool false] 38)).setRow w1.heap.size #[.int .i64 c.kd,.int .i64 c.ss,.int .i64 c.sq,.int .i64 c.sh,.int .i64 c.nd,.int .i64 c.ep,.int .i64 c.n,.string ⟨c.fd.toArray⟩,.string ⟨c.id.toArray⟩,.slice IA c.its.length ic,.bool c.fl] = u:=⟨_,rfl⟩
  have hys:(w1.alloc (.cells [.int .i64 0,.int .i64 0,.int .i64 0,.int .i64 0,.int .i64 0,.int .i64 0,.int .i64 0,.string ⟨#[]⟩,.string ⟨#[]⟩,.slice none 0 0,.bool false].toArray 38)).setRow w1.heap.size [.int .i64 c.kd,.int .i64 c.ss,.int .i64 c.sq,.int .i64 c.sh,.int .i64 c.nd,.int .i64 c.ep,.int .i64 c.n,.string ⟨c.fd.toArray⟩,.string ⟨c.id.toArray⟩,.slice IA c.its.length ic,.bool c.fl].toArray = ys:=hy
  rw [hys] at b1 b3
  have HY:=Hd b3
  have HOY:=Hd (HO1.out.tr b1)
  have HCY:=Hd (HC.out.only b1)
  have HIY:Hid (ItK ys K (.slice IA c.its.length ic) c):=Hd (itk_new HC.out HG.out HBW.out b1)
  have HAY:=Hd (H.out.read HOY.out)
  have hld:=b3
  clear b1 b3 hys HG HC HO1 HBW
  obtain ⟨R,hR⟩:∃ R,w1.heap.size = R:=⟨_,rfl⟩
  rw [hR] at hy b2 hld HY
  go_wp2_with (first
   | ((try rw [hR]);refine wpList_store_row rfl 38 _ _ rfl R #[.int .i64 c.kd,.int .i64 c.ss,.int .i64 c.sq,.int .i64 c.sh,.int .i64 c.nd,.int .i64 c.ep,.int .i64 c.n,.string ⟨c.fd.toArray⟩,.string ⟨c.id.toArray⟩,.slice IA c.its.length ic,.bool c.fl] rfl rfl 38 _ b2 (by kernel_rfl) rfl hone ?_;(try rw [hy]))
   | refine wpList_load_row rfl 38 _ rfl R rfl 38 #[.int .i64 c.kd,.int .i64 c.ss,.int .i64 c.sq,.int .i64 c.sh,.int .i64 c.nd,.int .i64 c.ep,.int .i64 c.n,.string ⟨c.fd.toArray⟩,.string ⟨c.id.toArray⟩,.slice IA c.its.length ic,.bool c.fl] (0,0) _ hld Tryz.underlying38 rfl (by kernel_rfl) ?_)
  refine (CD2.out _ HAY.out HCY.out HIY.out).mono ?_
  rintro e w3 ⟨pv,K',he,hp,hg,hA,ho,hN,hk⟩
  obtain ⟨PA,pc,rfl⟩:=hp.ps.shape
  have he:e = .returned ((doA a c).1.val (.slice PA (doA a c).1.ps.length pc)):=he
  obtain ⟨r,hr⟩:∃ r,(doA a c).1 = r:=⟨_,rfl⟩
  rw [hr] at he hp
  have HR:=Hd hr
  clear hr
  have he:e = .returned (.agg #[.int .i64 r.er,.int .i64 r.n,.slice PA r.ps.length pc]):=he
  subst he
  have CA2:=Hd (CA.out r _ w3 hp)
  unfold Rp.val at CA2
  have HF:=Hd hA
  have HO3:=Hd ho
  have HN:=Hd hN
  clear hp hg hA ho hN hk CD2 CA
  go_wp2_with fail
  refine CA2.out.mono ?_
  rintro e w4 ⟨rfl,ho4⟩
  have HO4:=Hd ho4
  clear ho4 CA2
  go_wp2_with fail
  go_ret
  exact ⟨K',by rw [HX.out,HR.out];rfl,by rw [HX.out];exact HF.out.read HO4.out,(HOY.out.of0.tr HO3.out).tr HO4.out.of0,fun x hx => (HN.out x hx).imp id (fun h => Nat.le_trans HOY.out.size h)⟩
theorem rgw_apply (p:Nat) (K:List Nat) (a:AgS) (n:Nat) (hn:n ≤ 1000000) (s:List UInt8) (hl:s.length ≤ 1000000) (W w:World) (h:RgW W w p K n a):
 Calls Tryz.prog 35 #[.pointer (some ⟨p,0,none⟩),.string ⟨s.toArray⟩] w fun e w' => ApG W w w' p K (n + 1) (apA s a) e:=by
 have CU:=Hd (ref18_unpack s w (by omega))
 have CA:=Hd (fun r pv w' => ref18_answer r pv w')
 have H:=Hd h
 have hbw:=h.at_.bw
 have HBW:=Hd hbw
 have CD:=Hd (fun c iv w' (hu:unC s = some c) (h:RgW W w' p K n a) hc hs => rgw_do p K a n hn c iv W w' h hc (right_sm (unC_right hu)) hs)
 have HN1:Hid (unC s = none → apA s a = (rpb (errR 8),a)):=Hd (fun h => by unfold apA;rw [h])
 have HS1:Hid (∀ c,unC s = some c → apA s a = (rpb (doA a c).1,(doA a c).2)):=Hd (fun c h => by unfold apA;rw [h])
 obtain ⟨o,ho⟩:∃ o,apA s a = o:=⟨_,rfl⟩
 rw [ho] at HN1 HS1 ⊢
 clear h hbw ho
 go_enter Tryz.func35,Tryz.ntmps35
 go_wp2_with fail
 refine CU.out.mono ?_
 rintro e w1 ⟨iv,rfl,hc,ho1,hg1⟩
 obtain ⟨IA,ic,hv⟩:=hc.its.shape
 have HC:=Hd hc
 have HG:=Hd hg1
 have HO1:=Hd ho1
 clear hc hg1 ho1 CU
 cases hu:unC s with
 | none =>
  have HX:=Hd (HN1.out hu)
  clear HN1 HS1
  rw [hu] at HC hv
  simp only [Option.getD_none,Option.isSome_none] at HC hv ⊢
  rw [show (if (false:Bool) = true then (0:Int) else 8) = 8 from rfl]
  unfold Cm.val Cm.zero
  (try dsimp only)
  have hv:iv = .slice IA 0 ic:=hv
  subst hv
  obtain ⟨b1,b2,b3⟩:=box_row w1 38 [.int .i64 0,.int .i64 0,.int .i64 0,.int .i64 0,.int .i64 0,.int .i64 0,.int .i64 0,.string ⟨#[]⟩,.string ⟨#[]⟩,.slice none 0 0,.bool false] [.int .i64 0,.int .i64 0,.int .i64 0,.int .i64 0,.int .i64 0,.int .i64 0,.int .i64 0,.string ⟨([]:List UInt8).toArray⟩,.string ⟨([]:List UInt8).toArray⟩,.slice IA 0 ic,.bool false]
  have hone:(#[.int .i64 0,.int .i64 0,.int .i64 0,.int .i64 0,.int .i64 0,.int .i64 0,.int .i64 0,.string ⟨([]:List UInt8).toArray⟩,.string ⟨([]:List UInt8).toArray⟩,.slice IA 0 ic,.bool false]:Array Value).all (·.oneCell') = true:=by simp [Value.oneCell']
  have HR:=Hd (rpAt_nil · 8 0 ⟨by omega,by omega⟩ ⟨by omega,by omega⟩)
  clear CD HG HBW hu HC
  go_wp2_with (refine wpList_store_row rfl 38 _ _ rfl w1.heap.size #[.int .i64 0,.int .i64 0,.int .i64 0,.int .i64 0,.int .i64 0,.int .i64 0,.int .i64 0,.string ⟨([]:List UInt8).toArray⟩,.string ⟨([]:List UInt8).toArray⟩,.slice IA 0 ic,.bool false] rfl rfl 38 _ b2 (by kernel_rfl) rfl hone ?_)
  (try simp only [Act.put])
  obtain ⟨ys,hy⟩:∃ u,(w1.alloc (.cells #[.int .i64 0,.int .i64 0,.int .i64 0,.int .i64 0,.int .i64 0,.int .i64 0,.int .i64 0,.string ⟨#[]⟩,.string ⟨#[]⟩,.slice none 0 0,.bool false] 38)).setRow w1.heap.size #[.int .i64 0,.int .i64 0,.int .i64 0,.int .i64 0,.int .i64 0,.int .i64 0,.int .i64 0,.string ⟨([]:List UInt8).toArray⟩,.string ⟨([]:List UInt8).toArray⟩,.slice IA 0 ic,.bool false] = u:=⟨_,rfl⟩
  have HO2:Hid (Only [] w ys):=Hd (HO1.out.tr (hy ▸ b1))
  (try rw [hy])
  clear hy b1 b2 b3 hone
  refine (CA.out ⟨8,0,[]⟩ (.slice none 0 0) _ (HR.out _)).mono ?_
  rintro e w4 ⟨rfl,ho4⟩
  have HO4:=Hd (HO2.out.tr ho4)
  clear ho4 HO2 CA HR
  go_wp2_with fail
  go_ret
  exact ⟨K,by rw [HX.out];rfl,by rw [HX.out];exact ⟨(H.out.read HO4.out).at_,H.out.ho.tr HO4.out,H.out.lo,H.out.i.mono (by omega)⟩,HO4.out.of0,fun x hx => .inl hx⟩
 | some c =>
  have HX:=Hd (HS1.out c hu)
  clear HN1 HS1
  rw [hu] at HC hv
  simp only [Option.getD_some,Option.isSome_some] at HC hv ⊢
  (try simp only [if_true])
  unfold Cm.val
  (try dsimp only)
  obtain ⟨b1,b2,b3⟩:=box_row w1 38 [.int .i64 0,.int .i64 0,.int .i64 0,.int .i64 0,.int .i64 0,.int .i64 0,.int .i64 0,.string ⟨#[]⟩,.string ⟨#[]⟩,.slice none 0 0,.bool false] [.int .i64 c.kd,.int .i64 c.ss,.int .i64 c.sq,.int .i64 c.sh,.int .i64 c.nd,.int .i64 c.ep,.int .i64 c.n,.string ⟨c.fd.toArray⟩,.string ⟨c.id.toArray⟩,iv,.bool c.fl]
  subst hv
  have hone:(#[.int .i64 c.kd,.int .i64 c.ss,.int .i64 c.sq,.int .i64 c.sh,.int .i64 c.nd,.int .i64 c.ep,.int .i64 c.n,.string ⟨c.fd.toArray⟩,.string ⟨c.id.toArray⟩,.slice IA c.its.length ic,.bool c.fl]:Array Value).all (·.oneCell') = true:=by simp [Value.oneCell']
  have CD2:=Hd (fun w' (h:RgW W w' p K n a) hc hs => CD.out c (.slice IA c.its.length ic) w' hu h hc hs)
  unfold Cm.val at CD2
  clear CD hu
  obtain ⟨ys,hy⟩:∃ u,(w1.alloc (.cells #[.int .i64 0,.int .i64 0,.int .i64 0,.int .i64 0,.int .i64 0,.int .i64 0,.int .i64 0,.string ⟨#[]⟩,.string ⟨#[]⟩,.slice none 0 0,.bool false] 38)).setRow w1.heap.size #[.int .i64 c.kd,.int .i64 c.ss,.int .i64 c.sq,.int .i64 c.sh,.int .i64 c.nd,.int .i64 c.ep,.int .i64 c.n,.string ⟨c.fd.toArray⟩,.string ⟨c.id.toArray⟩,.slice IA c.its.length ic,.bool c.fl] = u:=⟨_,rfl⟩
  have hys:(w1.alloc (.cells [.int .i64 0,.int .i64 0,.int .i64 0,.int .i64 0,.int .i64 0,.int .i64 0,.int .i64 0,.string ⟨#[]⟩,.string ⟨#[]⟩,.slice none 0 0,.bool false].toArray 38)).setRow w1.heap.size [.int .i64 c.kd,.int .i64 c.ss,.int .i64 c.sq,.int .i64 c.sh,.int .i64 c.nd,.int .i64 c.ep,.int .i64 c.n,.string ⟨c.fd.toArray⟩,.string ⟨c.id.toArray⟩,.slice IA c.its.length ic,.bool c.fl].toArray = ys:=hy
  rw [hys] at b1 b3
  have HY:=Hd b3
  have HOY:=Hd (HO1.out.tr b1)
  have HCY:=Hd (HC.out.only b1)
  have HIY:Hid (ItK ys K (.slice IA c.its.length ic) c):=Hd (itk_new HC.out HG.out HBW.out b1)
  have HAY:=Hd (H.out.read HOY.out)
  have hld:=b3
  clear b1 b3 hys HG HC HO1 HBW
  obtain ⟨R,hR⟩:∃ R,w1.heap.size = R:=⟨_,rfl⟩
  rw [hR] at hy b2 hld HY
  go_wp2_with (first
   | ((try rw [hR]);refine wpList_store_row rfl 38 _ _ rfl R #[.int .i64 c.kd,.int .i64 c.ss,.int .i64 c.sq,.int .i64 c.sh,.int .i64 c.nd,.int .i64 c.ep,.int .i64 c.n,.string ⟨c.fd.toArray⟩,.string ⟨c.id.toArray⟩,.slice IA c.its.length ic,.bool c.fl] rfl rfl 38 _ b2 (by kernel_rfl) rfl hone ?_;(try rw [hy]))
   | refine wpList_load_row rfl 38 _ rfl R rfl 38 #[.int .i64 c.kd,.int .i64 c.ss,.int .i64 c.sq,.int .i64 c.sh,.int .i64 c.nd,.int .i64 c.ep,.int .i64 c.n,.string ⟨c.fd.toArray⟩,.string ⟨c.id.toArray⟩,.slice IA c.its.length ic,.bool c.fl] (0,0) _ hld Tryz.underlying38 rfl (by kernel_rfl) ?_)
  refine (CD2.out _ HAY.out HCY.out HIY.out).mono ?_
  rintro e w3 ⟨pv,K',he,hp,hg,hA,ho,hN,hk⟩
  obtain ⟨PA,pc,rfl⟩:=hp.ps.shape
  have he:e = .returned ((doA a c).1.val (.slice PA (doA a c).1.ps.length pc)):=he
  obtain ⟨r,hr⟩:∃ r,(doA a c).1 = r:=⟨_,rfl⟩
  rw [hr] at he hp
  have HR:=Hd hr
  clear hr
  have he:e = .returned (.agg #[.int .i64 r.er,.int .i64 r.n,.slice PA r.ps.length pc]):=he
  subst he
  have CA2:=Hd (CA.out r _ w3 hp)
  unfold Rp.val at CA2
  have HF:=Hd hA
  have HO3:=Hd ho
  have HN:=Hd hN
  clear hp hg hA ho hN hk CD2 CA
  go_wp2_with fail
  refine CA2.out.mono ?_
  rintro e w4 ⟨rfl,ho4⟩
  have HO4:=Hd ho4
  clear ho4 CA2
  go_wp2_with fail
  go_ret
  exact ⟨K',by rw [HX.out,HR.out];rfl,by rw [HX.out];exact HF.out.read HO4.out,(HOY.out.of0.tr HO3.out).tr HO4.out.of0,fun x hx => (HN.out x hx).imp id (fun h => Nat.le_trans HOY.out.size h)⟩
end Go.Proofs.YtcjfmildalappaaGreat
