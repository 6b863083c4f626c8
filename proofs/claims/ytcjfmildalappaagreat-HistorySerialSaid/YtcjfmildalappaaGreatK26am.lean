/-
  Contracts; each theorem bears its own conditions.
-/
import Derived.Test.YtcjfmildalappaaGreatK26ai
import Derived.Test.YtcjfmildalappaaGreatK26al
set_option linter.all false
set_option maxRecDepth 100000
set_option maxHeartbeats 8000000
namespace Go.Proofs.YtcjfmildalappaaGreat
open Go.RowKit
def Rp.zero:Rp:=⟨0,0,[]⟩
def UnAW (s:List UInt8) (w:World) (e:Ending) (w':World):Prop:=
 ∃ pv,e = .returned (.tuple #[((unA s).getD Rp.zero).val pv,.int .i64 (if (unA s).isSome = true then 0 else 8)]) ∧ RpAt w' pv ((unA s).getD Rp.zero) ∧ Only [] w w' ∧ ∀ g,pv.ownBlock = some g → w.heap.size ≤ g
theorem rp_zero_at (w:World):RpAt w (.slice none 0 0) Rp.zero:=⟨SlAt.of_own (World.ownsRow_nil w 0 101 5),⟨by decide,by decide⟩,⟨by decide,by decide⟩,by simp [Rp.zero],by simp [Rp.zero]⟩
theorem cmd_toAnswer (s:List UInt8) (w:World) (hl:s.length ≤ 1000000):
 Calls Tryz.prog 122 #[.string ⟨s.toArray⟩] w (UnAW s w):=by
 obtain ⟨i0,hi0,hz0,hz1,hz2⟩:=info_parts info_post
 obtain ⟨w1,hw1⟩:∃ w1,w.alloc (.cells #[.int .i64 0,.int .i64 0,.slice none 0 0] 34) = w1:=⟨_,rfl⟩
 obtain ⟨w2,hw2⟩:∃ w2,w1.alloc (.cells #[.string ⟨s.toArray⟩,.bool false] 225) = w2:=⟨_,rfl⟩
 obtain ⟨R,hR⟩:∃ R,w.heap.size = R:=⟨_,rfl⟩
 obtain ⟨z,hz⟩:∃ R,w1.heap.size = R:=⟨_,rfl⟩
 have O1:Only [] w w1:=hw1 ▸ oz.alloc _
 have O2:Only [] w1 w2:=hw2 ▸ oz.alloc _
 have a1':Cells w1 R 34 [.int .i64 0,.int .i64 0,.slice none 0 0]:=hw1 ▸ hR ▸ Cells.new w _ _
 have a2':Cells w2 z 225 [.string ⟨s.toArray⟩,.bool false]:=hw2 ▸ hz ▸ Cells.new w1 _ _
 have hRz:R < z:=by have:=a1'.lt;omega
 have HB2:Hid (Cells w2 R 34 [.int .i64 0,.int .i64 0,.slice none 0 0]):=Hd (a1'.only O2 (by simp))
 have hr2:CrAt w2 z ⟨s,false⟩:=⟨a2',by show s.length ≤ _;omega⟩
 have HO2:=Hd (O1.tr O2)
 have hwR:w.heap.size = R:=hR
 have hs1:(Rd.int ⟨s,false⟩).2 = a1 s:=rfl
 have hs2:(a1 s).int.2 = a2 s:=rfl
 have hE:(Rd.int ⟨s,false⟩).1 = aE s:=rfl
 have hN:(a1 s).int.1 = aN s:=rfl
 have CE:=Hd (cr_int z ⟨s,false⟩ w2 hr2)
 rw [hs1,hE] at CE
 have CN:=Hd (fun w' h => cr_int z (a1 s) w' h)
 rw [hs2,hN] at CN
 have WE:Wide64 (aE s):=hE ▸ int_wide _
 have WN:Wide64 (aN s):=hN ▸ int_wide _
 obtain ⟨E,hE'⟩:∃ E,aE s = E:=⟨_,rfl⟩
 obtain ⟨N0,hN'⟩:∃ E,aN s = E:=⟨_,rfl⟩
 have HE:=Hd hE'
 have HN:=Hd hN'
 rw [hE'] at CE WE
 rw [hN'] at CN WN
 have HWN:=Hd WN
 clear a1' a2' O1 O2 hr2 hs1 hs2 hE hN hE' hN' WN
 go_enter Tryz.func122,Tryz.ntmps122
 go_wp2_with fail
 clear hw1 hw2 hR hz
 refine CE.out.mono ?_
 rintro e w3 ⟨rfl,hr3,ho3⟩
 dsimp only
 have HB3:=Hd (HB2.out.only ho3 (by simp;omega))
 have HO3:=Hd (HO2.out.trans ho3 (by intro q hq;simp at hq;exact .inr (by omega)))
 have CN3:=Hd (CN.out w3 hr3)
 clear hr3 ho3 CE CN HB2 HO2
 go_wp2_with fail
 refine CN3.out.mono ?_
 rintro e w4 ⟨rfl,hr4,ho4⟩
 dsimp only
 have HB4:=HB3.out.only ho4 (by simp;omega)
 have HO4:=HO3.out.trans ho4 (by intro q hq;simp at hq;exact .inr (by omega))
 obtain ⟨w5,hw5⟩:∃ w5,w4.alloc (.cells #[.int .i64 E,.int .i64 N0,.slice none 0 0] 34) = w5:=⟨_,rfl⟩
 obtain ⟨y,hy⟩:∃ y,w4.heap.size = y:=⟨_,rfl⟩
 have O5:Only [] w4 w5:=hw5 ▸ oz.alloc _
 have HY5:Hid (Cells w5 y 34 [.int .i64 E,.int .i64 N0,.slice none 0 0]):=Hd (hw5 ▸ hy ▸ Cells.new w4 _ _)
 have hzy:z < y:=by have:=hr4.lt;omega
 have HR5:=Hd (hr4.only O5 (by simp))
 have HB5:=Hd (HB4.only O5 (by simp))
 have HO5:=Hd (HO4.tr O5)
 clear hr4 ho4 CN3 HB3 HO3 HB4 HO4 O5
 subst hw5 hy
 go_wp2_with fail
 obtain ⟨y,hy⟩:∃ y,w4.heap.size = y:=⟨_,rfl⟩
 obtain ⟨w5,hw5⟩:∃ w5,w4.alloc (.cells #[.int .i64 E,.int .i64 N0,.slice none 0 0] 34) = w5:=⟨_,rfl⟩
 simp only [hw5,hy] at HY5 HR5 HB5 HO5 hzy ⊢
 clear hw5
 have CM:=Hd (cr_many z (a2 s) w5 HR5.out)
 refine CM.out.mono ?_
 rintro e w6 ⟨rfl,hr6,ho6⟩
 dsimp only
 obtain ⟨h0,h100⟩:=many_le (a2 s)
 have hml:=many_len (a2_len hl)
 obtain ⟨⟨mv,mq⟩,hm⟩:∃ p,(a2 s).many = p:=⟨_,rfl⟩
 have HM:=Hd hm
 rw [hm] at hr6 h0 h100 hml ⊢
 dsimp only at hr6 h0 h100 hml ⊢
 obtain ⟨N,rfl⟩:∃ N:Nat,mv = N:=⟨mv.toNat,by omega⟩
 clear hm CM
 have HR6:Hid (CrAt w6 z (mq.posts 0).2):=Hd hr6
 have HY6:=Hd (HY5.out.only ho6 (by simp;omega))
 have HB6:=Hd (HB5.out.only ho6 (by simp;omega))
 have HO6:=Hd (HO5.out.trans ho6 (by intro q hq;simp at hq;exact .inr (by omega)))
 clear hr6 ho6 HR5 HY5 HB5 HO5 hy
 go_wp2_with fail
 go_loopw [7,19] (fun _ i wr => ∃ (k:Nat) (pv:Value),k ≤ N ∧ i = .int .i64 k ∧ Hid (CrAt wr z (mq.posts k).2) ∧ Hid (Cells wr y 34 [.int .i64 E,.int .i64 N0,pv]) ∧ Hid (wr.ownsRow R 101 5 pv k (poL (mq.posts k).1)) ∧ Hid (Cells wr R 34 [.int .i64 0,.int .i64 0,.slice none 0 0]) ∧ Hid (Only [] w wr)) (fun _ i _ => N - (intOf i).toNat)
 case atStart => exact ⟨0,.slice none 0 0,by omega,rfl,HR6,HY6,Hd (World.ownsRow_nil _ _ _ _),HB6,HO6⟩
 case round =>
  obtain ⟨k,pv,hk,rfl,hr,hz,hown,hb,ho⟩:=hrel
  by_cases hlt:k < N
  · have hlt':(k:Int) < (N:Int):=by omega
    have hkb:k ≤ 200:=by omega
    obtain ⟨A,cap,rfl⟩:=(SlAt.of_own hown.out).shape
    have hne:(Value.slice A k cap).ownBlock ≠ some z:=own_ne_block hown.out hr.out.1 (by decide)
    have hne2:(Value.slice A k cap).ownBlock ≠ some y:=own_ne_block hown.out hz.out (by decide)
    have hne3:(Value.slice A k cap).ownBlock ≠ some R:=own_ne_block hown.out hb.out (by decide)
    obtain ⟨q,hq⟩:∃ q,(mq.posts k).2 = q:=⟨_,rfl⟩
    have HP:Hid ((mq.posts (k + 1)).1 = (mq.posts k).1 ++ [q.post.1] ∧ (mq.posts (k + 1)).2 = q.post.2):=Hd (by rw [← hq];exact ⟨rfl,rfl⟩)
    have hrq:=hr.out
    rw [hq] at hrq
    obtain ⟨sq,hsq⟩:∃ n,q.int.1 = n:=⟨_,rfl⟩
    obtain ⟨q1,hq1⟩:∃ n,q.int.2 = n:=⟨_,rfl⟩
    obtain ⟨x,hx⟩:∃ n,q1.item.1 = n:=⟨_,rfl⟩
    obtain ⟨q2,hq2⟩:∃ n,q1.item.2 = n:=⟨_,rfl⟩
    obtain ⟨rd,hrd⟩:∃ n,q2.bool.1 = n:=⟨_,rfl⟩
    obtain ⟨q3,hq3⟩:∃ n,q2.bool.2 = n:=⟨_,rfl⟩
    have hpo:q.post = (⟨sq,x,rd⟩,q3):=by unfold Rd.post;rw [hsq,hq1,hx,hq2,hrd,hq3]
    have hp1:(mq.posts (k + 1)).1 = (mq.posts k).1 ++ [⟨sq,x,rd⟩]:=by rw [HP.out.1,hpo]
    have hp2:(mq.posts (k + 1)).2 = q3:=by rw [HP.out.2,hpo]
    have HP1:=Hd hp1
    have HP2:=Hd hp2
    have C0:=Hd (cr_int z q wr hrq)
    have C1:=Hd (fun w' h => cr_item z q1 w' h)
    have C2:=Hd (fun w' h => cr_bool z q2 w' h)
    rw [hsq,hq1] at C0
    rw [hx,hq2] at C1
    rw [hrd,hq3] at C2
    clear hp1 hp2 hpo HP hq hsq hq1 hx hq2 hrd hq3 hrq
    go_wp2_with fail
    refine C0.out.mono ?_
    rintro e w9 ⟨rfl,hr9,ho9⟩
    dsimp only
    have hwn9:=own_keep hown.out ho9 (by simpa using hne)
    have hz9:=hz.out.only ho9 (by simp;omega)
    have hb9:=hb.out.only ho9 (by simp;omega)
    have ho9':=ho.out.trans ho9 (by intro q hq;simp at hq;exact .inr (by omega))
    obtain ⟨wb,hwb⟩:∃ wb,w9.alloc (.cells #[.int .i64 sq,.string ⟨#[]⟩,.string ⟨#[]⟩,.string ⟨#[]⟩,.bool false] 101) = wb:=⟨_,rfl⟩
    obtain ⟨p,hp⟩:∃ b,w9.heap.size = b:=⟨_,rfl⟩
    have ob:Only [] w9 wb:=hwb ▸ oz.alloc _
    have HPb:Hid (Cells wb p 101 [.int .i64 sq,.string ⟨([]:List UInt8).toArray⟩,.string ⟨([]:List UInt8).toArray⟩,.string ⟨([]:List UInt8).toArray⟩,.bool false]):=Hd (hwb ▸ hp ▸ Cells.new w9 _ _)
    have hyp:y < p:=by have:=hz9.lt;omega
    have HNP:Hid ((Value.slice A k cap).ownBlock ≠ some p):=Hd (fun h => by have:=(hwn9.lt _ h).2;omega)
    have hpw:Hid (p < wb.heap.size):=Hd HPb.out.lt
    have HRb:=Hd (hr9.only ob (by simp))
    have HZb:=Hd (hz9.only ob (by simp))
    have HBb:=Hd (hb9.only ob (by simp))
    have HOb:=Hd (ho9'.tr ob)
    have HWb:=Hd (own_keep hwn9 ob (by simp))
    clear hr9 ho9 hwn9 hz9 hb9 ho9' ob hr hz hown hb ho C0
    subst hwb hp
    go_wp2_with fail
    obtain ⟨p,hp⟩:∃ y,w9.heap.size = y:=⟨_,rfl⟩
    obtain ⟨wb,hwb⟩:∃ w5,w9.alloc (.cells #[.int .i64 sq,.string ⟨#[]⟩,.string ⟨#[]⟩,.string ⟨#[]⟩,.bool false] 101) = w5:=⟨_,rfl⟩
    simp only [hwb,hp] at HPb HRb HZb HBb HOb HWb hyp hpw HNP ⊢
    clear hwb hp
    refine (C1.out wb HRb.out).mono ?_
    rintro e w10 ⟨rfl,hr10,ho10⟩
    dsimp only
    have hp10:=HPb.out.only ho10 (by simp;omega)
    have z1:=hp10.cell (k:=1) rfl
    have z2:=hp10.cell (k:=2) rfl
    have z3:=hp10.cell (k:=3) rfl
    have f1:=hp10.frozen 1
    have f2:=hp10.frozen 2
    have f3:=hp10.frozen 3
    have pl:=hp10.lt
    obtain ⟨w11,hw11⟩:∃ w11,((w10.setCell ⟨p,1,none⟩ (.string ⟨x.id.toArray⟩)).setCell ⟨p,2,none⟩ (.string ⟨x.ti.toArray⟩)).setCell ⟨p,3,none⟩ (.string ⟨x.li.toArray⟩) = w11:=⟨_,rfl⟩
    have oW:Only [p] w10 w11:=hw11 ▸ (((oz.setCell (.inl (by simp)) _).setCell (.inl (by simp)) _).setCell (.inl (by simp)) _)
    have HP11:Hid (Cells w11 p 101 [.int .i64 sq,.string ⟨x.id.toArray⟩,.string ⟨x.ti.toArray⟩,.string ⟨x.li.toArray⟩,.bool false]):=Hd (hw11 ▸ ((hp10.set 1 _).set 2 _).set 3 _)
    have hr11:CrAt w11 z q2:=hr10.only oW (by simp;omega)
    have hnp:=HNP.out
    have HZ11:=Hd ((HZb.out.only ho10 (by simp;omega)).only oW (by simp;omega))
    have HB11:=Hd ((HBb.out.only ho10 (by simp;omega)).only oW (by simp;omega))
    have HO11:=Hd ((HOb.out.trans ho10 (by intro q hq;simp at hq;exact .inr (by omega))).trans oW (by intro q hq;simp at hq;exact .inr (by omega)))
    have HW11:=Hd (own_keep (own_keep HWb.out ho10 (by simpa using hne)) oW (by simpa using hnp))
    have C11:=Hd (C2.out w11 hr11)
    clear hr10 ho10 hp10 oW hr11 C1 C2 HPb HRb HZb HBb HOb HWb hpw
    go_wp2_with fail
    clear hw11 z1 z2 z3 f1 f2 f3 pl
    refine C11.out.mono ?_
    rintro e w12 ⟨rfl,hr12,ho12⟩
    dsimp only
    have hp12:=HP11.out.only ho12 (by simp;omega)
    have z4:=hp12.cell (k:=4) rfl
    have f4:=hp12.frozen 4
    have pl:=hp12.lt
    obtain ⟨w13,hw13⟩:∃ w13,w12.setCell ⟨p,4,none⟩ (.bool rd) = w13:=⟨_,rfl⟩
    have oW:Only [p] w12 w13:=hw13 ▸ oz.setCell (.inl (by simp)) _
    have HP13:Cells w13 p 101 [.int .i64 sq,.string ⟨x.id.toArray⟩,.string ⟨x.ti.toArray⟩,.string ⟨x.li.toArray⟩,.bool rd]:=hw13 ▸ hp12.set 4 _
    have HR13:=Hd (hr12.only oW (by simp;omega))
    have hz13:=(HZ11.out.only ho12 (by simp;omega)).only oW (by simp;omega)
    have HB13:=Hd ((HB11.out.only ho12 (by simp;omega)).only oW (by simp;omega))
    have HO13:=Hd ((HO11.out.trans ho12 (by intro q hq;simp at hq;exact .inr (by omega))).trans oW (by intro q hq;simp at hq;exact .inr (by omega)))
    have hwn:=own_keep (own_keep HW11.out ho12 (by simpa using hne)) oW (by simpa using hnp)
    have hRw:R ≤ w13.heap.size:=by have:=HO13.out.size;omega
    have p0:=HP13.cell (k:=0) rfl
    have p1:=HP13.cell (k:=1) rfl
    have p2:=HP13.cell (k:=2) rfl
    have p3:=HP13.cell (k:=3) rfl
    have p4:=HP13.cell (k:=4) rfl
    have y2:=hz13.cell (k:=2) rfl
    have zl:=hz13.lt
    have HZ13:=Hd hz13
    clear hr12 ho12 hp12 oW C11 HP11 HZ11 HB11 HO11 HW11 HP13 hz13
    go_wp2_with (at_builtin;go_loud (refine wpList_appA rfl _ _ 32 rfl R 101 i0 _ 5 64 Tryz.underlying32 hi0 hz0 hz1 hz2 rfl (by decide) w13 (.slice A k cap) k _ rfl hwn 1 1 [.int .i64 sq,.string ⟨x.id.toArray⟩,.string ⟨x.ti.toArray⟩,.string ⟨x.li.toArray⟩,.bool rd] rfl rfl (by simp [Value.oneCell']) (by simp only [maxLen];omega) (by omega) hRw ?_);intro v' w14 hown14 hgrow hnew;have hz14:=HZ13.out.grown hgrow hne2;have y14:=hz14.cell (k:=2) rfl;have f14:=hz14.frozen 2;have l14:=hz14.lt;obtain ⟨A',cap',rfl⟩:=(SlAt.of_own hown14).shape)
    have hg9:(Value.slice A' (k + 1) cap').ownBlock ≠ some y:=own_ne_block hown14 hz14 (by decide)
    have hoW:Only [y] w14 (w14.setCell ⟨y,2,none⟩ (.slice A' (k + 1) cap')):=oz.setCell (.inl (by simp)) _
    have hown15:=own_keep hown14 hoW (by simpa using hg9)
    have hpo:poL (mq.posts (k + 1)).1 = poL (mq.posts k).1 ++ [.int .i64 sq,.string ⟨x.id.toArray⟩,.string ⟨x.ti.toArray⟩,.string ⟨x.li.toArray⟩,.bool rd]:=by rw [HP1.out,poL_append];rfl
    rw [← hpo] at hown15
    have HOWN:=Hd hown15
    have hr14:CrAt w14 z (mq.posts (k + 1)).2:=by rw [HP2.out];exact ⟨HR13.out.1.grown hgrow hne,HR13.out.2⟩
    have HR15:=Hd (CrAt.only hr14 hoW (by simp;omega))
    have HB15:=Hd ((HB13.out.grown hgrow hne3).only hoW (by simp;omega))
    have HZ15:=Hd (hz14.set 2 (.slice A' (k + 1) cap'))
    have HO15:=Hd ((HO13.out.own hwn hgrow (by omega)).trans hoW (by intro q hq;simp at hq;exact .inr (by omega)))
    clear hown14 hgrow hnew hz14 hr14 hown15 hoW HB13 HR13 HO13 HZ13 hwn hpo hw13 HP1 HP2 z4 f4 pl p0 p1 p2 p3 p4 y2 zl
    go_wp2_with fail
    go_roundw
    case rel => exact ⟨k + 1,.slice A' (k + 1) cap',by omega,by go_num,HR15,HZ15,HOWN,HB15,HO15⟩
    case measure => simp [intOf];omega
  · have hd:decide ((k:Int) < (N:Int)) = false:=by simp;omega
    obtain rfl:k = N:=by omega
    obtain ⟨A,cap,rfl⟩:=(SlAt.of_own hown.out).shape
    obtain ⟨ps,hps⟩:∃ ps,(mq.posts k).1 = ps:=⟨_,rfl⟩
    obtain ⟨re,hre⟩:∃ r,(mq.posts k).2 = r:=⟨_,rfl⟩
    have hpsl:ps.length = k:=by rw [← hps];exact posts_length mq k
    have HSM:Hid (∀ x ∈ ps,x.Sm):=Hd (by rw [← hps];exact posts_all (fun q hq => post_sm hq) hml k)
    have HU0:Hid (unA s = if re.bad = false ∧ re.s = [] ∧ 0 ≤ E ∧ E ≤ 19 then some ⟨E,N0,ps⟩ else none):=Hd (by
     have:=unA_many s k mq re ps HM.out (by rw [Int.toNat_natCast,← hps,← hre])
     rw [HE.out,HN.out] at this
     exact this)
    rw [hre] at hr
    rw [hps] at hown
    have HZf:=hz
    have HBf:=hb
    have HOf:=ho
    have HWf:=hown
    have r0:=hr.out.1.cell (k:=0) rfl
    have r1:=hr.out.1.cell (k:=1) rfl
    clear hps hre HM HE HN hz hb ho hown hlt HR6 HY6 HB6 HO6
    cases hbad:re.bad with
    | true =>
     have HU:Hid (unA s = none):=Hd (by rw [HU0.out,if_neg (by rw [hbad];simp)])
     rw [hbad] at r1
     clear hbad
     have hst:=HBf.out
     have hone:(#[.int .i64 0,.int .i64 0,.slice none 0 0]:Array Value).all (·.oneCell') = true:=by simp [Value.oneCell']
     go_wp2_with (refine wpList_store_row rfl 34 _ _ rfl R #[.int .i64 0,.int .i64 0,.slice none 0 0] rfl rfl 34 _ hst (by kernel_rfl) rfl hone ?_)
     (try simp only [Exit.inBlock,Exit.then])
     refine bodyPost_ret (v:=.tuple #[.agg #[.int .i64 0,.int .i64 0,.slice none 0 0],.int .i64 8]) ?_ rfl ⟨.slice none 0 0,by rw [HU.out];rfl,by rw [HU.out];exact rp_zero_at _,HOf.out.setRow (.inr (by omega)) _,fun g hg => by simp [Value.ownBlock] at hg⟩
     exact results_row_tmp Tryz.results122 _ _ R 34 [.int .i64 0,.int .i64 0,.slice none 0 0] _ rfl (Cells.setRow HBf.out [.int .i64 0,.int .i64 0,.slice none 0 0]) Tryz.underlying34 rfl (by kernel_rfl)
    | false =>
     rw [hbad] at r1
     by_cases hs:re.s = []
     · rw [hs] at r0
       have HIN:Hid (inB E 19 = true ↔ 0 ≤ E ∧ E ≤ 19):=Hd inB_iff
       obtain ⟨q,hq⟩:∃ q,inB E 19 = q:=⟨_,rfl⟩
       have CW:=Hd (fun w' => within_call E 19 w')
       rw [hq] at CW HIN
       have HU1:Hid (unA s = if 0 ≤ E ∧ E ≤ 19 then some ⟨E,N0,ps⟩ else none):=Hd (by rw [HU0.out];simp [hbad,hs])
       clear hbad hs hq HU0
       cases q with
       | false =>
        have HU:Hid (unA s = none):=Hd (by rw [HU1.out,if_neg (fun h => by have:=HIN.out.2 h;cases this)])
        clear HIN HU1
        go_wp2_with fail
        refine (CW.out _).mono ?_
        rintro e w12 ⟨rfl,rfl⟩
        dsimp only
        clear CW
        have hst:=HBf.out
        have hone:(#[.int .i64 0,.int .i64 0,.slice none 0 0]:Array Value).all (·.oneCell') = true:=by simp [Value.oneCell']
        go_wp2_with (refine wpList_store_row rfl 34 _ _ rfl R #[.int .i64 0,.int .i64 0,.slice none 0 0] rfl rfl 34 _ hst (by kernel_rfl) rfl hone ?_)
        (try simp only [Exit.inBlock,Exit.then])
        refine bodyPost_ret (v:=.tuple #[.agg #[.int .i64 0,.int .i64 0,.slice none 0 0],.int .i64 8]) ?_ rfl ⟨.slice none 0 0,by rw [HU.out];rfl,by rw [HU.out];exact rp_zero_at _,HOf.out.setRow (.inr (by omega)) _,fun g hg => by simp [Value.ownBlock] at hg⟩
        exact results_row_tmp Tryz.results122 _ _ R 34 [.int .i64 0,.int .i64 0,.slice none 0 0] _ rfl (Cells.setRow HBf.out [.int .i64 0,.int .i64 0,.slice none 0 0]) Tryz.underlying34 rfl (by kernel_rfl)
       | true =>
        have HU:Hid (unA s = some ⟨E,N0,ps⟩):=Hd (by rw [HU1.out,if_pos (HIN.out.1 rfl)])
        clear HIN HU1
        go_wp2_with fail
        refine (CW.out _).mono ?_
        rintro e w12 ⟨rfl,rfl⟩
        dsimp only
        clear CW
        have hoR:Only [R] wr (wr.setRow R #[.int .i64 E,.int .i64 N0,.slice A k cap]):=oz.setRow (.inl (by simp)) _
        have HATR:Hid (RpAt (wr.setRow R #[.int .i64 E,.int .i64 N0,.slice A k cap]) (.slice A k cap) ⟨E,N0,ps⟩):=Hd (by
         refine ⟨?_,WE,HWN.out,HSM.out,by dsimp only;omega⟩
         have hnR:(Value.slice A k cap).ownBlock ≠ some R:=own_ne_block HWf.out HBf.out (by decide)
         have hsz:=HOf.out.size
         have:=SlAt.of_own (own_keep HWf.out hoR (by simpa using hnR))
         rw [← hpsl] at this ⊢
         refine this.more ?_
         have:=hoR.size
         omega)
        have g0:=HZf.out.cell (k:=0) rfl
        have g1:=HZf.out.cell (k:=1) rfl
        have g2:=HZf.out.cell (k:=2) rfl
        clear hoR
        have hst:=HBf.out
        have hone:(#[.int .i64 E,.int .i64 N0,.slice A k cap]:Array Value).all (·.oneCell') = true:=by simp [Value.oneCell']
        go_wp2_with (refine wpList_store_row rfl 34 _ _ rfl R #[.int .i64 E,.int .i64 N0,.slice A k cap] rfl rfl 34 _ hst (by kernel_rfl) rfl hone ?_)
        (try simp only [Exit.inBlock,Exit.then])
        refine bodyPost_ret (v:=.tuple #[.agg #[.int .i64 E,.int .i64 N0,.slice A k cap],.int .i64 0]) ?_ rfl ⟨.slice A k cap,by rw [HU.out];rfl,by rw [HU.out];exact HATR.out,HOf.out.setRow (.inr (by omega)) _,fun g hg => by have:=(HWf.out.lt g hg).1;omega⟩
        exact results_row_tmp Tryz.results122 _ _ R 34 [.int .i64 E,.int .i64 N0,.slice A k cap] _ rfl (Cells.setRow HBf.out [.int .i64 E,.int .i64 N0,.slice A k cap]) Tryz.underlying34 rfl (by kernel_rfl)
     · have HU:Hid (unA s = none):=Hd (by rw [HU0.out,if_neg (by simp [hs])])
       have hse:re.s.isEmpty = false:=by simpa using hs
       clear hbad
       have hst:=HBf.out
       have hone:(#[.int .i64 0,.int .i64 0,.slice none 0 0]:Array Value).all (·.oneCell') = true:=by simp [Value.oneCell']
       go_wp2_with (refine wpList_store_row rfl 34 _ _ rfl R #[.int .i64 0,.int .i64 0,.slice none 0 0] rfl rfl 34 _ hst (by kernel_rfl) rfl hone ?_)
       (try simp only [Exit.inBlock,Exit.then])
       refine bodyPost_ret (v:=.tuple #[.agg #[.int .i64 0,.int .i64 0,.slice none 0 0],.int .i64 8]) ?_ rfl ⟨.slice none 0 0,by rw [HU.out];rfl,by rw [HU.out];exact rp_zero_at _,HOf.out.setRow (.inr (by omega)) _,fun g hg => by simp [Value.ownBlock] at hg⟩
       exact results_row_tmp Tryz.results122 _ _ R 34 [.int .i64 0,.int .i64 0,.slice none 0 0] _ rfl (Cells.setRow HBf.out [.int .i64 0,.int .i64 0,.slice none 0 0]) Tryz.underlying34 rfl (by kernel_rfl)
theorem ref18_toAnswer (s:List UInt8) (w:World) (hl:s.length ≤ 1000000):
 Calls Tryz.prog 48 #[.string ⟨s.toArray⟩] w (UnAW s w):=by
 obtain ⟨i0,hi0,hz0,hz1,hz2⟩:=info_parts info_post
 obtain ⟨w1,hw1⟩:∃ w1,w.alloc (.cells #[.int .i64 0,.int .i64 0,.slice none 0 0] 34) = w1:=⟨_,rfl⟩
 obtain ⟨w2,hw2⟩:∃ w2,w1.alloc (.cells #[.string ⟨s.toArray⟩,.bool true] 162) = w2:=⟨_,rfl⟩
 obtain ⟨R,hR⟩:∃ R,w.heap.size = R:=⟨_,rfl⟩
 obtain ⟨z,hz⟩:∃ R,w1.heap.size = R:=⟨_,rfl⟩
 have O1:Only [] w w1:=hw1 ▸ oz.alloc _
 have O2:Only [] w1 w2:=hw2 ▸ oz.alloc _
 have a1':Cells w1 R 34 [.int .i64 0,.int .i64 0,.slice none 0 0]:=hw1 ▸ hR ▸ Cells.new w _ _
 have a2':Cells w2 z 162 [.string ⟨s.toArray⟩,.bool true]:=hw2 ▸ hz ▸ Cells.new w1 _ _
 have hRz:R < z:=by have:=a1'.lt;omega
 have HB2:Hid (Cells w2 R 34 [.int .i64 0,.int .i64 0,.slice none 0 0]):=Hd (a1'.only O2 (by simp))
 have hr2:QrAt w2 z ⟨s,false⟩:=⟨a2',by show s.length ≤ _;omega⟩
 have HO2:=Hd (O1.tr O2)
 have hwR:w.heap.size = R:=hR
 have hs1:(Rd.int ⟨s,false⟩).2 = a1 s:=rfl
 have hs2:(a1 s).int.2 = a2 s:=rfl
 have hE:(Rd.int ⟨s,false⟩).1 = aE s:=rfl
 have hN:(a1 s).int.1 = aN s:=rfl
 have CE:=Hd (qr_int z ⟨s,false⟩ w2 hr2)
 rw [hs1,hE] at CE
 have CN:=Hd (fun w' h => qr_int z (a1 s) w' h)
 rw [hs2,hN] at CN
 have WE:Wide64 (aE s):=hE ▸ int_wide _
 have WN:Wide64 (aN s):=hN ▸ int_wide _
 obtain ⟨E,hE'⟩:∃ E,aE s = E:=⟨_,rfl⟩
 obtain ⟨N0,hN'⟩:∃ E,aN s = E:=⟨_,rfl⟩
 have HE:=Hd hE'
 have HN:=Hd hN'
 rw [hE'] at CE WE
 rw [hN'] at CN WN
 have HWN:=Hd WN
 clear a1' a2' O1 O2 hr2 hs1 hs2 hE hN hE' hN' WN
 go_enter Tryz.func48,Tryz.ntmps48
 go_wp2_with fail
 clear hw1 hw2 hR hz
 refine CE.out.mono ?_
 rintro e w3 ⟨rfl,hr3,ho3⟩
 dsimp only
 have HB3:=Hd (HB2.out.only ho3 (by simp;omega))
 have HO3:=Hd (HO2.out.trans ho3 (by intro q hq;simp at hq;exact .inr (by omega)))
 have CN3:=Hd (CN.out w3 hr3)
 clear hr3 ho3 CE CN HB2 HO2
 go_wp2_with fail
 refine CN3.out.mono ?_
 rintro e w4 ⟨rfl,hr4,ho4⟩
 dsimp only
 have HB4:=HB3.out.only ho4 (by simp;omega)
 have HO4:=HO3.out.trans ho4 (by intro q hq;simp at hq;exact .inr (by omega))
 obtain ⟨w5,hw5⟩:∃ w5,w4.alloc (.cells #[.int .i64 E,.int .i64 N0,.slice none 0 0] 34) = w5:=⟨_,rfl⟩
 obtain ⟨y,hy⟩:∃ y,w4.heap.size = y:=⟨_,rfl⟩
 have O5:Only [] w4 w5:=hw5 ▸ oz.alloc _
 have HY5:Hid (Cells w5 y 34 [.int .i64 E,.int .i64 N0,.slice none 0 0]):=Hd (hw5 ▸ hy ▸ Cells.new w4 _ _)
 have hzy:z < y:=by have:=hr4.lt;omega
 have HR5:=Hd (hr4.only O5 (by simp))
 have HB5:=Hd (HB4.only O5 (by simp))
 have HO5:=Hd (HO4.tr O5)
 clear hr4 ho4 CN3 HB3 HO3 HB4 HO4 O5
 subst hw5 hy
 go_wp2_with fail
 obtain ⟨y,hy⟩:∃ y,w4.heap.size = y:=⟨_,rfl⟩
 obtain ⟨w5,hw5⟩:∃ w5,w4.alloc (.cells #[.int .i64 E,.int .i64 N0,.slice none 0 0] 34) = w5:=⟨_,rfl⟩
 simp only [hw5,hy] at HY5 HR5 HB5 HO5 hzy ⊢
 clear hw5
 have CM:=Hd (qr_int z (a2 s) w5 HR5.out)
 refine CM.out.mono ?_
 rintro e w6 ⟨rfl,hr6,ho6⟩
 dsimp only
 have hnn:(a2 s).int.1 = aK s:=rfl
 have hmm:(a2 s).int.2 = a3 s:=rfl
 have hnw:Wide64 (aK s):=hnn ▸ int_wide _
 have hml:(a3 s).s.length ≤ 1000000:=a3_len hl
 rw [hmm] at hr6
 rw [hnn]
 obtain ⟨nn,hN⟩:∃ n,aK s = n:=⟨_,rfl⟩
 obtain ⟨mq,hM⟩:∃ q,a3 s = q:=⟨_,rfl⟩
 have HNN:=Hd hN
 have HMM:=Hd hM
 rw [hN] at hnw ⊢
 rw [hM] at hr6 hml
 obtain ⟨hw1,hw2⟩:=hnw
 clear hN hM hnn hmm CM
 have HR6:Hid (QrAt w6 z (mq.posts 0).2):=Hd hr6
 have HY6:=Hd (HY5.out.only ho6 (by simp;omega))
 have HB6:=Hd (HB5.out.only ho6 (by simp;omega))
 have HO6:=Hd (HO5.out.trans ho6 (by intro q hq;simp at hq;exact .inr (by omega)))
 clear hr6 ho6 HR5 HY5 HB5 HO5 hy
 go_wp2_with fail
 go_loopw [8,9] (fun i _ wr => ∃ (k:Nat) (pv:Value),k ≤ 101 ∧ ((k:Int) ≤ nn ∨ k = 0) ∧ i = .int .i64 k ∧ Hid (QrAt wr z (mq.posts k).2) ∧ Hid (Cells wr y 34 [.int .i64 E,.int .i64 N0,pv]) ∧ Hid (wr.ownsRow R 101 5 pv k (poL (mq.posts k).1)) ∧ Hid (Cells wr R 34 [.int .i64 0,.int .i64 0,.slice none 0 0]) ∧ Hid (Only [] w wr)) (fun i _ _ => 101 - (intOf i).toNat)
 case atStart => exact ⟨0,.slice none 0 0,by omega,.inr rfl,rfl,HR6,HY6,Hd (World.ownsRow_nil _ _ _ _),HB6,HO6⟩
 case round =>
  obtain ⟨k,pv,hk,hkn,rfl,hr,hz,hown,hb,ho⟩:=hrel
  have r1:=hr.out.1.cell (k:=1) rfl
  by_cases hgo:(k:Int) < nn ∧ k ≤ 100 ∧ (mq.posts k).2.bad = false
  · obtain ⟨g1,g2,g3⟩:=hgo
    rw [g3] at r1
    replace r1:wr.cell? ⟨z,1,none⟩ = some (.bool true):=r1
    have g2':(k:Int) ≤ 100:=by omega
    have hkb:k ≤ 200:=by omega
    clear g3
    obtain ⟨A,cap,rfl⟩:=(SlAt.of_own hown.out).shape
    have hne:(Value.slice A k cap).ownBlock ≠ some z:=own_ne_block hown.out hr.out.1 (by decide)
    have hne2:(Value.slice A k cap).ownBlock ≠ some y:=own_ne_block hown.out hz.out (by decide)
    have hne3:(Value.slice A k cap).ownBlock ≠ some R:=own_ne_block hown.out hb.out (by decide)
    obtain ⟨q,hq⟩:∃ q,(mq.posts k).2 = q:=⟨_,rfl⟩
    have HP:Hid ((mq.posts (k + 1)).1 = (mq.posts k).1 ++ [q.post.1] ∧ (mq.posts (k + 1)).2 = q.post.2):=Hd (by rw [← hq];exact ⟨rfl,rfl⟩)
    have hrq:=hr.out
    rw [hq] at hrq
    obtain ⟨sq,hsq⟩:∃ n,q.int.1 = n:=⟨_,rfl⟩
    obtain ⟨q1,hq1⟩:∃ n,q.int.2 = n:=⟨_,rfl⟩
    obtain ⟨x,hx⟩:∃ n,q1.item.1 = n:=⟨_,rfl⟩
    obtain ⟨q2,hq2⟩:∃ n,q1.item.2 = n:=⟨_,rfl⟩
    obtain ⟨rd,hrd⟩:∃ n,q2.bool.1 = n:=⟨_,rfl⟩
    obtain ⟨q3,hq3⟩:∃ n,q2.bool.2 = n:=⟨_,rfl⟩
    have hpo:q.post = (⟨sq,x,rd⟩,q3):=by unfold Rd.post;rw [hsq,hq1,hx,hq2,hrd,hq3]
    have hp1:(mq.posts (k + 1)).1 = (mq.posts k).1 ++ [⟨sq,x,rd⟩]:=by rw [HP.out.1,hpo]
    have hp2:(mq.posts (k + 1)).2 = q3:=by rw [HP.out.2,hpo]
    have HP1:=Hd hp1
    have HP2:=Hd hp2
    have C0:=Hd (qr_int z q wr hrq)
    have C1:=Hd (fun w' h => qr_item z q1 w' h)
    have C2:=Hd (fun w' h => qr_bool z q2 w' h)
    rw [hsq,hq1] at C0
    rw [hx,hq2] at C1
    rw [hrd,hq3] at C2
    clear hp1 hp2 hpo HP hq hsq hq1 hx hq2 hrd hq3 hrq
    go_wp2_with fail
    refine C0.out.mono ?_
    rintro e w9 ⟨rfl,hr9,ho9⟩
    dsimp only
    have hwn9:=own_keep hown.out ho9 (by simpa using hne)
    have hz9:=hz.out.only ho9 (by simp;omega)
    have hb9:=hb.out.only ho9 (by simp;omega)
    have ho9':=ho.out.trans ho9 (by intro q hq;simp at hq;exact .inr (by omega))
    obtain ⟨wb,hwb⟩:∃ wb,w9.alloc (.cells #[.int .i64 sq,.string ⟨#[]⟩,.string ⟨#[]⟩,.string ⟨#[]⟩,.bool false] 101) = wb:=⟨_,rfl⟩
    obtain ⟨p,hp⟩:∃ b,w9.heap.size = b:=⟨_,rfl⟩
    have ob:Only [] w9 wb:=hwb ▸ oz.alloc _
    have HPb:Hid (Cells wb p 101 [.int .i64 sq,.string ⟨([]:List UInt8).toArray⟩,.string ⟨([]:List UInt8).toArray⟩,.string ⟨([]:List UInt8).toArray⟩,.bool false]):=Hd (hwb ▸ hp ▸ Cells.new w9 _ _)
    have hyp:y < p:=by have:=hz9.lt;omega
    have HNP:Hid ((Value.slice A k cap).ownBlock ≠ some p):=Hd (fun h => by have:=(hwn9.lt _ h).2;omega)
    have hpw:Hid (p < wb.heap.size):=Hd HPb.out.lt
    have HRb:=Hd (hr9.only ob (by simp))
    have HZb:=Hd (hz9.only ob (by simp))
    have HBb:=Hd (hb9.only ob (by simp))
    have HOb:=Hd (ho9'.tr ob)
    have HWb:=Hd (own_keep hwn9 ob (by simp))
    clear hr9 ho9 hwn9 hz9 hb9 ho9' ob hr hz hown hb ho C0 r1
    subst hwb hp
    go_wp2_with fail
    obtain ⟨p,hp⟩:∃ y,w9.heap.size = y:=⟨_,rfl⟩
    obtain ⟨wb,hwb⟩:∃ w5,w9.alloc (.cells #[.int .i64 sq,.string ⟨#[]⟩,.string ⟨#[]⟩,.string ⟨#[]⟩,.bool false] 101) = w5:=⟨_,rfl⟩
    simp only [hwb,hp] at HPb HRb HZb HBb HOb HWb hyp hpw HNP ⊢
    clear hwb hp
    refine (C1.out wb HRb.out).mono ?_
    rintro e w10 ⟨rfl,hr10,ho10⟩
    dsimp only
    have hp10:=HPb.out.only ho10 (by simp;omega)
    have z1:=hp10.cell (k:=1) rfl
    have z2:=hp10.cell (k:=2) rfl
    have z3:=hp10.cell (k:=3) rfl
    have f1:=hp10.frozen 1
    have f2:=hp10.frozen 2
    have f3:=hp10.frozen 3
    have pl:=hp10.lt
    obtain ⟨w11,hw11⟩:∃ w11,((w10.setCell ⟨p,1,none⟩ (.string ⟨x.id.toArray⟩)).setCell ⟨p,2,none⟩ (.string ⟨x.ti.toArray⟩)).setCell ⟨p,3,none⟩ (.string ⟨x.li.toArray⟩) = w11:=⟨_,rfl⟩
    have oW:Only [p] w10 w11:=hw11 ▸ (((oz.setCell (.inl (by simp)) _).setCell (.inl (by simp)) _).setCell (.inl (by simp)) _)
    have HP11:Hid (Cells w11 p 101 [.int .i64 sq,.string ⟨x.id.toArray⟩,.string ⟨x.ti.toArray⟩,.string ⟨x.li.toArray⟩,.bool false]):=Hd (hw11 ▸ ((hp10.set 1 _).set 2 _).set 3 _)
    have hr11:QrAt w11 z q2:=hr10.only oW (by simp;omega)
    have hnp:=HNP.out
    have HZ11:=Hd ((HZb.out.only ho10 (by simp;omega)).only oW (by simp;omega))
    have HB11:=Hd ((HBb.out.only ho10 (by simp;omega)).only oW (by simp;omega))
    have HO11:=Hd ((HOb.out.trans ho10 (by intro q hq;simp at hq;exact .inr (by omega))).trans oW (by intro q hq;simp at hq;exact .inr (by omega)))
    have HW11:=Hd (own_keep (own_keep HWb.out ho10 (by simpa using hne)) oW (by simpa using hnp))
    have C11:=Hd (C2.out w11 hr11)
    clear hr10 ho10 hp10 oW hr11 C1 C2 HPb HRb HZb HBb HOb HWb hpw
    go_wp2_with fail
    clear hw11 z1 z2 z3 f1 f2 f3 pl
    refine C11.out.mono ?_
    rintro e w12 ⟨rfl,hr12,ho12⟩
    dsimp only
    have hp12:=HP11.out.only ho12 (by simp;omega)
    have z4:=hp12.cell (k:=4) rfl
    have f4:=hp12.frozen 4
    have pl:=hp12.lt
    obtain ⟨w13,hw13⟩:∃ w13,w12.setCell ⟨p,4,none⟩ (.bool rd) = w13:=⟨_,rfl⟩
    have oW:Only [p] w12 w13:=hw13 ▸ oz.setCell (.inl (by simp)) _
    have HP13:Cells w13 p 101 [.int .i64 sq,.string ⟨x.id.toArray⟩,.string ⟨x.ti.toArray⟩,.string ⟨x.li.toArray⟩,.bool rd]:=hw13 ▸ hp12.set 4 _
    have HR13:=Hd (hr12.only oW (by simp;omega))
    have hz13:=(HZ11.out.only ho12 (by simp;omega)).only oW (by simp;omega)
    have HB13:=Hd ((HB11.out.only ho12 (by simp;omega)).only oW (by simp;omega))
    have HO13:=Hd ((HO11.out.trans ho12 (by intro q hq;simp at hq;exact .inr (by omega))).trans oW (by intro q hq;simp at hq;exact .inr (by omega)))
    have hwn:=own_keep (own_keep HW11.out ho12 (by simpa using hne)) oW (by simpa using hnp)
    have hRw:R ≤ w13.heap.size:=by have:=HO13.out.size;omega
    have p0:=HP13.cell (k:=0) rfl
    have p1:=HP13.cell (k:=1) rfl
    have p2:=HP13.cell (k:=2) rfl
    have p3:=HP13.cell (k:=3) rfl
    have p4:=HP13.cell (k:=4) rfl
    have y2:=hz13.cell (k:=2) rfl
    have zl:=hz13.lt
    have HZ13:=Hd hz13
    clear hr12 ho12 hp12 oW C11 HP11 HZ11 HB11 HO11 HW11 HP13 hz13
    go_wp2_with (at_builtin;go_loud (refine wpList_appA rfl _ _ 32 rfl R 101 i0 _ 5 64 Tryz.underlying32 hi0 hz0 hz1 hz2 rfl (by decide) w13 (.slice A k cap) k _ rfl hwn 1 1 [.int .i64 sq,.string ⟨x.id.toArray⟩,.string ⟨x.ti.toArray⟩,.string ⟨x.li.toArray⟩,.bool rd] rfl rfl (by simp [Value.oneCell']) (by simp only [maxLen];omega) (by omega) hRw ?_);intro v' w14 hown14 hgrow hnew;have hz14:=HZ13.out.grown hgrow hne2;have y14:=hz14.cell (k:=2) rfl;have f14:=hz14.frozen 2;have l14:=hz14.lt;obtain ⟨A',cap',rfl⟩:=(SlAt.of_own hown14).shape)
    have hg9:(Value.slice A' (k + 1) cap').ownBlock ≠ some y:=own_ne_block hown14 hz14 (by decide)
    have hoW:Only [y] w14 (w14.setCell ⟨y,2,none⟩ (.slice A' (k + 1) cap')):=oz.setCell (.inl (by simp)) _
    have hown15:=own_keep hown14 hoW (by simpa using hg9)
    have hpo:poL (mq.posts (k + 1)).1 = poL (mq.posts k).1 ++ [.int .i64 sq,.string ⟨x.id.toArray⟩,.string ⟨x.ti.toArray⟩,.string ⟨x.li.toArray⟩,.bool rd]:=by rw [HP1.out,poL_append];rfl
    rw [← hpo] at hown15
    have HOWN:=Hd hown15
    have hr14:QrAt w14 z (mq.posts (k + 1)).2:=by rw [HP2.out];exact ⟨HR13.out.1.grown hgrow hne,HR13.out.2⟩
    have HR15:=Hd (QrAt.only hr14 hoW (by simp;omega))
    have HB15:=Hd ((HB13.out.grown hgrow hne3).only hoW (by simp;omega))
    have HZ15:=Hd (hz14.set 2 (.slice A' (k + 1) cap'))
    have HO15:=Hd ((HO13.out.own hwn hgrow (by omega)).trans hoW (by intro q hq;simp at hq;exact .inr (by omega)))
    clear hown14 hgrow hnew hz14 hr14 hown15 hoW HB13 HR13 HO13 HZ13 hwn hpo hw13 HP1 HP2 z4 f4 pl p0 p1 p2 p3 p4 y2 zl
    go_wp2_with fail
    go_roundw
    case rel => exact ⟨k + 1,.slice A' (k + 1) cap',by omega,.inl (by omega),by go_num,HR15,HZ15,HOWN,HB15,HO15⟩
    case measure => simp [intOf];omega
  · have hex:¬ ((k:Int) < aK s ∧ k ≤ 100 ∧ ((a3 s).posts k).2.bad = false):=by
     rw [HNN.out,HMM.out]
     exact hgo
    obtain ⟨A,cap,rfl⟩:=(SlAt.of_own hown.out).shape
    obtain ⟨ps,hps⟩:∃ ps,(mq.posts k).1 = ps:=⟨_,rfl⟩
    obtain ⟨re,hre⟩:∃ r,(mq.posts k).2 = r:=⟨_,rfl⟩
    have hpsl:ps.length = k:=by rw [← hps];exact posts_length mq k
    have HSM:Hid (∀ x ∈ ps,x.Sm):=Hd (by rw [← hps];exact posts_all (fun q hq => post_sm hq) hml k)
    have HU0:Hid (unA s = if re.bad = false ∧ 0 ≤ E ∧ E ≤ 19 ∧ 0 ≤ nn ∧ nn ≤ 100 ∧ re.s = [] then some ⟨E,N0,ps⟩ else none):=Hd (by
     have:=unA_loop s k (by rw [HNN.out];exact hkn) hex
     rw [HMM.out,hps,hre,HE.out,HN.out,HNN.out] at this
     exact this)
    rw [hre] at hr hgo r1
    rw [hps] at hown
    have HZf:=hz
    have HBf:=hb
    have HOf:=ho
    have HWf:=hown
    have r0:=hr.out.1.cell (k:=0) rfl
    have hex3:¬ (k:Int) < nn ∨ ((k:Int) < nn ∧ ¬ (k:Int) ≤ 100) ∨ ((k:Int) < nn ∧ (k:Int) ≤ 100 ∧ re.bad = true):=by
     by_cases e1:(k:Int) < nn
     · by_cases e2:k ≤ 100
       · refine .inr (.inr ⟨e1,by omega,?_⟩)
         cases hb:re.bad with
         | true => rfl
         | false => exact absurd ⟨e1,e2,hb⟩ hgo
       · exact .inr (.inl ⟨e1,by omega⟩)
     · exact .inl e1
    have hkb:k ≤ 200:=by omega
    clear hps hre HMM HNN HE HN hz hb ho hown hgo hex HR6 HY6 HB6 HO6 hk hkn
    refine hideM (fun M' => ?_)
    have HEX:=Hd hex3
    clear hex3
    cases hbad:re.bad with
    | true =>
     have HU:Hid (unA s = none):=Hd (by rw [HU0.out,if_neg (by rw [hbad];simp)])
     rw [hbad] at r1
     replace r1:wr.cell? ⟨z,1,none⟩ = some (.bool false):=r1
     clear hbad HU0
     rcases HEX.out with e1 | ⟨e1,e2⟩ | ⟨e1,e2,e3⟩
     rotate_left 2
     · clear HEX e3
       have hst:=HBf.out
       have hone:(#[.int .i64 0,.int .i64 0,.slice none 0 0]:Array Value).all (·.oneCell') = true:=by simp [Value.oneCell']
       go_wp2_with (refine wpList_store_row rfl 34 _ _ rfl R #[.int .i64 0,.int .i64 0,.slice none 0 0] rfl rfl 34 _ hst (by kernel_rfl) rfl hone ?_)
       (try simp only [Exit.inBlock,Exit.then])
       refine bodyPost_ret (v:=.tuple #[.agg #[.int .i64 0,.int .i64 0,.slice none 0 0],.int .i64 8]) ?_ rfl ⟨.slice none 0 0,by rw [HU.out];rfl,by rw [HU.out];exact rp_zero_at _,HOf.out.setRow (.inr (by omega)) _,fun g hg => by simp [Value.ownBlock] at hg⟩
       exact results_row_tmp Tryz.results48 _ _ R 34 [.int .i64 0,.int .i64 0,.slice none 0 0] _ rfl (Cells.setRow HBf.out [.int .i64 0,.int .i64 0,.slice none 0 0]) Tryz.underlying34 rfl (by kernel_rfl)
     all_goals
      clear HEX
      have hst:=HBf.out
      have hone:(#[.int .i64 0,.int .i64 0,.slice none 0 0]:Array Value).all (·.oneCell') = true:=by simp [Value.oneCell']
      go_wp2_with (refine wpList_store_row rfl 34 _ _ rfl R #[.int .i64 0,.int .i64 0,.slice none 0 0] rfl rfl 34 _ hst (by kernel_rfl) rfl hone ?_)
      (try simp only [Exit.inBlock,Exit.then])
      refine bodyPost_ret (v:=.tuple #[.agg #[.int .i64 0,.int .i64 0,.slice none 0 0],.int .i64 8]) ?_ rfl ⟨.slice none 0 0,by rw [HU.out];rfl,by rw [HU.out];exact rp_zero_at _,HOf.out.setRow (.inr (by omega)) _,fun g hg => by simp [Value.ownBlock] at hg⟩
      exact results_row_tmp Tryz.results48 _ _ R 34 [.int .i64 0,.int .i64 0,.slice none 0 0] _ rfl (Cells.setRow HBf.out [.int .i64 0,.int .i64 0,.slice none 0 0]) Tryz.underlying34 rfl (by kernel_rfl)
    | false =>
     rw [hbad] at r1
     replace r1:wr.cell? ⟨z,1,none⟩ = some (.bool true):=r1
     have hex4:¬ (k:Int) < nn ∨ ((k:Int) < nn ∧ ¬ (k:Int) ≤ 100):=by
      rcases HEX.out with e1 | e1 | ⟨_,_,e3⟩
      · exact .inl e1
      · exact .inr e1
      · rw [hbad] at e3;cases e3
     have HBAD:=Hd hbad
     clear hbad HEX
     by_cases h1:E < 0
     · have HU:Hid (unA s = none):=Hd (by rw [HU0.out,if_neg (by rintro ⟨_,h,_⟩;omega)])
       clear HU0
       rcases hex4 with e1 | ⟨e1,e2⟩
       all_goals
        have hst:=HBf.out
        have hone:(#[.int .i64 0,.int .i64 0,.slice none 0 0]:Array Value).all (·.oneCell') = true:=by simp [Value.oneCell']
        go_wp2_with (refine wpList_store_row rfl 34 _ _ rfl R #[.int .i64 0,.int .i64 0,.slice none 0 0] rfl rfl 34 _ hst (by kernel_rfl) rfl hone ?_)
        (try simp only [Exit.inBlock,Exit.then])
        refine bodyPost_ret (v:=.tuple #[.agg #[.int .i64 0,.int .i64 0,.slice none 0 0],.int .i64 8]) ?_ rfl ⟨.slice none 0 0,by rw [HU.out];rfl,by rw [HU.out];exact rp_zero_at _,HOf.out.setRow (.inr (by omega)) _,fun g hg => by simp [Value.ownBlock] at hg⟩
        exact results_row_tmp Tryz.results48 _ _ R 34 [.int .i64 0,.int .i64 0,.slice none 0 0] _ rfl (Cells.setRow HBf.out [.int .i64 0,.int .i64 0,.slice none 0 0]) Tryz.underlying34 rfl (by kernel_rfl)
     by_cases h2:19 < E
     · have HU:Hid (unA s = none):=Hd (by rw [HU0.out,if_neg (by rintro ⟨_,_,h,_⟩;omega)])
       clear HU0
       rcases hex4 with e1 | ⟨e1,e2⟩
       all_goals
        have hst:=HBf.out
        have hone:(#[.int .i64 0,.int .i64 0,.slice none 0 0]:Array Value).all (·.oneCell') = true:=by simp [Value.oneCell']
        go_wp2_with (refine wpList_store_row rfl 34 _ _ rfl R #[.int .i64 0,.int .i64 0,.slice none 0 0] rfl rfl 34 _ hst (by kernel_rfl) rfl hone ?_)
        (try simp only [Exit.inBlock,Exit.then])
        refine bodyPost_ret (v:=.tuple #[.agg #[.int .i64 0,.int .i64 0,.slice none 0 0],.int .i64 8]) ?_ rfl ⟨.slice none 0 0,by rw [HU.out];rfl,by rw [HU.out];exact rp_zero_at _,HOf.out.setRow (.inr (by omega)) _,fun g hg => by simp [Value.ownBlock] at hg⟩
        exact results_row_tmp Tryz.results48 _ _ R 34 [.int .i64 0,.int .i64 0,.slice none 0 0] _ rfl (Cells.setRow HBf.out [.int .i64 0,.int .i64 0,.slice none 0 0]) Tryz.underlying34 rfl (by kernel_rfl)
     rcases hex4 with e1 | ⟨e1,e2⟩
     rotate_left
     · have h3:¬ nn < 0:=by omega
       have h4:100 < nn:=by omega
       have HU:Hid (unA s = none):=Hd (by rw [HU0.out,if_neg (by rintro ⟨_,_,_,_,h,_⟩;omega)])
       clear HU0
       have hst:=HBf.out
       have hone:(#[.int .i64 0,.int .i64 0,.slice none 0 0]:Array Value).all (·.oneCell') = true:=by simp [Value.oneCell']
       go_wp2_with (refine wpList_store_row rfl 34 _ _ rfl R #[.int .i64 0,.int .i64 0,.slice none 0 0] rfl rfl 34 _ hst (by kernel_rfl) rfl hone ?_)
       (try simp only [Exit.inBlock,Exit.then])
       refine bodyPost_ret (v:=.tuple #[.agg #[.int .i64 0,.int .i64 0,.slice none 0 0],.int .i64 8]) ?_ rfl ⟨.slice none 0 0,by rw [HU.out];rfl,by rw [HU.out];exact rp_zero_at _,HOf.out.setRow (.inr (by omega)) _,fun g hg => by simp [Value.ownBlock] at hg⟩
       exact results_row_tmp Tryz.results48 _ _ R 34 [.int .i64 0,.int .i64 0,.slice none 0 0] _ rfl (Cells.setRow HBf.out [.int .i64 0,.int .i64 0,.slice none 0 0]) Tryz.underlying34 rfl (by kernel_rfl)
     by_cases h3:nn < 0
     · have HU:Hid (unA s = none):=Hd (by rw [HU0.out,if_neg (by rintro ⟨_,_,_,h,_⟩;omega)])
       clear HU0
       have hst:=HBf.out
       have hone:(#[.int .i64 0,.int .i64 0,.slice none 0 0]:Array Value).all (·.oneCell') = true:=by simp [Value.oneCell']
       go_wp2_with (refine wpList_store_row rfl 34 _ _ rfl R #[.int .i64 0,.int .i64 0,.slice none 0 0] rfl rfl 34 _ hst (by kernel_rfl) rfl hone ?_)
       (try simp only [Exit.inBlock,Exit.then])
       refine bodyPost_ret (v:=.tuple #[.agg #[.int .i64 0,.int .i64 0,.slice none 0 0],.int .i64 8]) ?_ rfl ⟨.slice none 0 0,by rw [HU.out];rfl,by rw [HU.out];exact rp_zero_at _,HOf.out.setRow (.inr (by omega)) _,fun g hg => by simp [Value.ownBlock] at hg⟩
       exact results_row_tmp Tryz.results48 _ _ R 34 [.int .i64 0,.int .i64 0,.slice none 0 0] _ rfl (Cells.setRow HBf.out [.int .i64 0,.int .i64 0,.slice none 0 0]) Tryz.underlying34 rfl (by kernel_rfl)
     by_cases h4:100 < nn
     · have HU:Hid (unA s = none):=Hd (by rw [HU0.out,if_neg (by rintro ⟨_,_,_,_,h,_⟩;omega)])
       clear HU0
       have hst:=HBf.out
       have hone:(#[.int .i64 0,.int .i64 0,.slice none 0 0]:Array Value).all (·.oneCell') = true:=by simp [Value.oneCell']
       go_wp2_with (refine wpList_store_row rfl 34 _ _ rfl R #[.int .i64 0,.int .i64 0,.slice none 0 0] rfl rfl 34 _ hst (by kernel_rfl) rfl hone ?_)
       (try simp only [Exit.inBlock,Exit.then])
       refine bodyPost_ret (v:=.tuple #[.agg #[.int .i64 0,.int .i64 0,.slice none 0 0],.int .i64 8]) ?_ rfl ⟨.slice none 0 0,by rw [HU.out];rfl,by rw [HU.out];exact rp_zero_at _,HOf.out.setRow (.inr (by omega)) _,fun g hg => by simp [Value.ownBlock] at hg⟩
       exact results_row_tmp Tryz.results48 _ _ R 34 [.int .i64 0,.int .i64 0,.slice none 0 0] _ rfl (Cells.setRow HBf.out [.int .i64 0,.int .i64 0,.slice none 0 0]) Tryz.underlying34 rfl (by kernel_rfl)
     by_cases hs:re.s = []
     · have HU:Hid (unA s = some ⟨E,N0,ps⟩):=Hd (by rw [HU0.out,if_pos ⟨HBAD.out,by omega,by omega,by omega,by omega,hs⟩])
       rw [hs] at r0
       clear HU0 hs
       have hoR:Only [R] wr (wr.setRow R #[.int .i64 E,.int .i64 N0,.slice A k cap]):=oz.setRow (.inl (by simp)) _
       have HATR:Hid (RpAt (wr.setRow R #[.int .i64 E,.int .i64 N0,.slice A k cap]) (.slice A k cap) ⟨E,N0,ps⟩):=Hd (by
        refine ⟨?_,WE,HWN.out,HSM.out,by dsimp only;omega⟩
        have hnR:(Value.slice A k cap).ownBlock ≠ some R:=own_ne_block HWf.out HBf.out (by decide)
        have hsz:=HOf.out.size
        have:=SlAt.of_own (own_keep HWf.out hoR (by simpa using hnR))
        rw [← hpsl] at this ⊢
        refine this.more ?_
        have:=hoR.size
        omega)
       have g0:=HZf.out.cell (k:=0) rfl
       have g1:=HZf.out.cell (k:=1) rfl
       have g2:=HZf.out.cell (k:=2) rfl
       clear hoR
       have hst:=HBf.out
       have hone:(#[.int .i64 E,.int .i64 N0,.slice A k cap]:Array Value).all (·.oneCell') = true:=by simp [Value.oneCell']
       go_wp2_with (refine wpList_store_row rfl 34 _ _ rfl R #[.int .i64 E,.int .i64 N0,.slice A k cap] rfl rfl 34 _ hst (by kernel_rfl) rfl hone ?_)
       (try simp only [Exit.inBlock,Exit.then])
       refine bodyPost_ret (v:=.tuple #[.agg #[.int .i64 E,.int .i64 N0,.slice A k cap],.int .i64 0]) ?_ rfl ⟨.slice A k cap,by rw [HU.out];rfl,by rw [HU.out];exact HATR.out,HOf.out.setRow (.inr (by omega)) _,fun g hg => by have:=(HWf.out.lt g hg).1;omega⟩
       exact results_row_tmp Tryz.results48 _ _ R 34 [.int .i64 E,.int .i64 N0,.slice A k cap] _ rfl (Cells.setRow HBf.out [.int .i64 E,.int .i64 N0,.slice A k cap]) Tryz.underlying34 rfl (by kernel_rfl)
     · have HU:Hid (unA s = none):=Hd (by rw [HU0.out,if_neg (by rintro ⟨_,_,_,_,_,h⟩;exact hs h)])
       have hse:re.s.isEmpty = false:=by simpa using hs
       clear HU0
       have hst:=HBf.out
       have hone:(#[.int .i64 0,.int .i64 0,.slice none 0 0]:Array Value).all (·.oneCell') = true:=by simp [Value.oneCell']
       go_wp2_with (refine wpList_store_row rfl 34 _ _ rfl R #[.int .i64 0,.int .i64 0,.slice none 0 0] rfl rfl 34 _ hst (by kernel_rfl) rfl hone ?_)
       (try simp only [Exit.inBlock,Exit.then])
       refine bodyPost_ret (v:=.tuple #[.agg #[.int .i64 0,.int .i64 0,.slice none 0 0],.int .i64 8]) ?_ rfl ⟨.slice none 0 0,by rw [HU.out];rfl,by rw [HU.out];exact rp_zero_at _,HOf.out.setRow (.inr (by omega)) _,fun g hg => by simp [Value.ownBlock] at hg⟩
       exact results_row_tmp Tryz.results48 _ _ R 34 [.int .i64 0,.int .i64 0,.slice none 0 0] _ rfl (Cells.setRow HBf.out [.int .i64 0,.int .i64 0,.slice none 0 0]) Tryz.underlying34 rfl (by kernel_rfl)
end Go.Proofs.YtcjfmildalappaaGreat
namespace Go.Proofs.YtcjfmildalappaaGreat
open Go.RowKit Go.ChangeShapes Go.WideShapes Go.Deep
section
variable {H:Type} {enc:TypeId × Value → H} {P:Program} {w:World} {base:Nat} {spare:Nat → Bool} {held:Bool}
end
structure Po.In (x:Po):Prop where
 sq:Wide64 x.sq
 it:x.it.Len
end Go.Proofs.YtcjfmildalappaaGreat
