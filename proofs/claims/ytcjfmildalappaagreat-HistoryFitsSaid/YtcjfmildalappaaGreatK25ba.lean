/-
  Contracts; each theorem bears its own conditions.
-/
import Derived.Test.YtcjfmildalappaaGreatK25ab
import Derived.Test.YtcjfmildalappaaGreatK25ai
import Derived.Test.YtcjfmildalappaaGreatK25az
set_option linter.all false
set_option maxRecDepth 100000
set_option maxHeartbeats 8000000
namespace Go.Proofs.YtcjfmildalappaaGreat
open Go.RowKit
theorem rd_fits (v lv:Value) (l:List Ey) (os:List Oq) (w:World) (hs:SlAt w w.heap.size v 4 l.length (eyL l)) (hk:EyOk l) (ho:SlAt w w.heap.size lv 5 os.length (oqL os)) (hn:os.length ≤ 1000):
 Calls Tryz.prog 55 #[v,lv] w fun e w' => e = .returned (.bool (fitP l (repE AgS.new l) os)) ∧ Only [] w w':=by
 obtain ⟨i0,hi0,hz0,hz1,hz2⟩:=info_parts info_int
 obtain ⟨LA,lc,rfl⟩:=hs.shape
 obtain ⟨OA,oc,rfl⟩:=ho.shape
 have HS:=Hd hs
 have HOS:=Hd ho
 have CR:=Hd (rd_run (.slice LA l.length lc) l w hs hk)
 have hkn:=hk.n
 have hrl:=Hd (repE_length l AgS.new)
 obtain ⟨rs,hrs⟩:∃ r,repE AgS.new l = r:=⟨_,rfl⟩
 rw [hrs] at CR hrl ⊢
 clear hs ho hk hrs
 go_enter Tryz.func55,Tryz.ntmps55
 go_wp2_with fail
 refine CR.out.mono ?_
 rintro e w2 ⟨rv,rfl,hrv,ho2⟩
 have HRV:=Hd (SlAt.of_own hrv)
 obtain ⟨RA,rc,rfl⟩:=(SlAt.of_own hrv).shape
 have HO2:=Hd ho2
 have HS2:=Hd ((HS.out.only ho2 (Nat.le_refl _) (by simp)).more ho2.size)
 have HOS2:=Hd ((HOS.out.only ho2 (Nat.le_refl _) (by simp)).more ho2.size)
 clear hrv ho2 CR HS HOS
 go_wp2_with fail
 go_loopw [7,8] (fun ls i wr => ∃ (k:Nat) (lv:Value),k ≤ os.length ∧ lv = ls ∧ i = .int .i64 k ∧ Hid (wr.ownsRow w2.heap.size 3 1 lv k (atV l rs (os.take k))) ∧ Hid (Only [] w2 wr) ∧ Hid (okK l rs (os.take k) = true)) (fun _ i _ => os.length - (intOf i).toNat)
 case atStart => exact ⟨0,_,by omega,rfl,rfl,Hd (World.ownsRow_nil _ _ _ _),Hd oz,Hd rfl⟩
 case round =>
  obtain ⟨k,lv,hk,rfl,rfl,HW,HO,HG⟩:=hrel
  obtain ⟨wq,rfl⟩:∃ wq,wq = wr:=⟨_,rfl⟩
  by_cases hlt:k < os.length
  · have hlt':(k:Int) < (os.length:Int):=by omega
    obtain ⟨x,hx⟩:∃ x,os[k]? = some x:=⟨_,List.getElem?_eq_getElem hlt⟩
    have HXM:=Hd (List.mem_of_getElem? hx)
    have HOK:=Hd (okK_step (l:=l) (rs:=rs) hx)
    have HAT:=Hd (atV_step (l:=l) (rs:=rs) hx)
    have HQX:=Hd (fun (u:World) (h:Only [] w2 u) => oqL_at (HOS2.out.only h (Nat.le_refl _) (by simp)) hx)
    obtain ⟨ab,ao,ac,hv,_,q0,q1,q2,q3,q4⟩:=HQX.out _ HO.out
    injection hv with e1 e2 e3
    subst e1;subst e3
    have CC:=Hd (rd_counts x wq)
    have HFN:Hid (cntO x = true → okP l rs x = false → fitP l rs os = false):=Hd (fit_not l rs os x HXM.out)
    clear e2 hx
    go_wp2_with fail
    refine CC.out.mono ?_
    rintro e w5 ⟨rfl,ho5⟩
    have HW5:=Hd (own_keep HW.out ho5 (by simp))
    have HO5:=Hd (HO.out.tr ho5)
    clear ho5 CC HW HO q0 q1 q2 q3 q4
    obtain ⟨cn,hcn⟩:∃ c,cntO x = c:=⟨_,rfl⟩
    have HAI:Hid (atI l rs x = if cn = true then plc l rs x else -1):=Hd (by unfold atI;rw [hcn])
    rw [hcn] at HOK HFN ⊢
    have HL5:=Hd HO5.out.size
    clear hcn
    cases cn with
    | false =>
     have HYES:Hid ((!false || okP l rs x) = true):=Hd rfl
     obtain ⟨w7,hw7⟩:∃ u,w5 = u:=⟨_,rfl⟩
     rw [hw7] at HW5 HO5 HL5 ⊢
     have HW7:=HW5
     have HO7:=HO5
     have HL7:=HL5
     clear HQX HW5 HO5 HL5
     go_wp2_with (at_builtin;go_loud (refine wpList_appA rfl _ _ 27 rfl w2.heap.size 3 i0 _ 1 8 Tryz.underlying27 hi0 hz0 hz1 hz2 rfl (by decide) w7 lv k (atV l rs (os.take k)) rfl HW7.out 1 1 [.int .i64 (-1)] rfl rfl (by simp [Value.oneCell']) (by unfold maxLen;omega) (by omega) HL7.out ?_;intro v' w8 hown8 hgr8 hnew8))
     have HW8:Hid (w8.ownsRow w2.heap.size 3 1 v' (k + 1) (atV l rs (os.take (k + 1)))):=Hd (by rw [HAT.out,HAI.out];exact hown8)
     have HO8:=Hd (Only.own HO7.out HW7.out hgr8 (Nat.le_refl _))
     have HG8:Hid (okK l rs (os.take (k + 1)) = true):=Hd (by rw [HOK.out,HG.out,HYES.out];rfl)
     clear hown8 hgr8 hnew8 HW7 HO7 HL7
     go_wp2_with fail
     go_roundw
     case rel => exact ⟨k + 1,_,by omega,rfl,by go_num,HW8,HO8,HG8⟩
     case measure => simp [intOf];omega
    | true =>
     obtain ⟨_,_,_,hv,_,q0,q1,q2,q3,q4⟩:=HQX.out _ HO5.out
     injection hv with e1 e2 e3
     injection e1 with e1
     injection e1 with e1 e4 e5
     subst e1;subst e4
     have hxd:=x.hd
     have CF:=Hd (rd_find (.slice LA l.length lc) (.slice RA l.length rc) l rs x w5 ((HS2.out.only HO5.out (Nat.le_refl _) (by simp)).more HO5.out.size) (hrl.out ▸ ((HRV.out.only HO5.out (Nat.le_refl _) (by simp)).more HO5.out.size)) hrl.out hkn hxd)
     clear e2 e3
     go_wp2_with fail
     refine CF.out.mono ?_
     rintro e w6 ⟨rfl,ho6⟩
     have HP:Hid (fndQ x.d x.r l rs 0 = plc l rs x):=Hd rfl
     rw [HP.out]
     have HW6:=Hd (own_keep HW5.out ho6 (by simp))
     have HO6:=Hd (HO5.out.tr ho6)
     have HL6:=Hd HO6.out.size
     clear ho6 CF q0 q1 q2 q3 q4 HW5 HO5 HL5 HP
     obtain ⟨_,_,_,hv,_,q0,q1,q2,q3,q4⟩:=HQX.out _ HO6.out
     injection hv with e1 e2 e3
     injection e1 with e1
     injection e1 with e1 e4 e5
     subst e1;subst e4
     clear e2 e3 HQX q0 q1 q3 q4
     have HOP:Hid (okP l rs x = (decide (0 ≤ plc l rs x) && decide (rs[(plc l rs x).toNat]? = some x.r))):=Hd rfl
     have t2:=fun u:Since w6 => u.cell q2
     rcases plc_rng l rs x with hp | ⟨j,y,hp,hy⟩
     · rw [hp] at HOP HAI ⊢
       have HF:=Hd (HFN.out trivial (by rw [HOP.out];rfl))
       clear HFN HOP HW6 HAI HOK HAT
       go_upto_region 10 with fail
       clear q2
       refine wp_region_only w6 oz (by kernel_rfl) (by kernel_rfl) ?_
       repeat (go_big_quiet_step (fail))
       refine wpQuiet_nil ?_
       rintro ⟨w7,ho7⟩
       dsimp only
       have HO7:=Hd (HO6.out.tr ho7)
       clear t2 ho7
       go_wp2_with fail
       go_ret
       exact ⟨by rw [HF.out];rfl,HO2.out.tr HO7.out⟩
     · have hjn:j < l.length:=by have:=(List.getElem?_eq_some_iff.1 hy).1;have:=hrl.out;omega
       have hji:(j:Int) < (l.length:Int):=by omega
       obtain ⟨b2,o2,c2,hv2,s0⟩:=svs_at23 (hrl.out ▸ (HRV.out.only HO6.out (Nat.le_refl _) (by simp))) hy
       injection hv2 with e1 e2 e3
       subst e1
       clear e2 e3
       have s1:=fun u:Since w6 => u.cell s0
       have hj0:decide ((j:Int) < 0) = false:=by simp
       rw [hp] at HOP HAI ⊢
       obtain ⟨m,hm⟩:∃ b,(y == x.r) = b:=⟨_,rfl⟩
       have HM:Hid (okP l rs x = m):=Hd (by
        rw [HOP.out,← hm]
        simp only [Int.toNat_natCast,hy]
        simp only [Option.some.injEq]
        rw [Bool.eq_iff_iff]
        simp)
       go_upto_region 10 with fail
       clear q2 s0 HOP
       cases m with
       | false =>
        have HF:=Hd (HFN.out trivial HM.out)
        refine wp_region_only w6 oz (by kernel_rfl) (by kernel_rfl) ?_
        repeat (go_big_quiet_step (fail))
        refine wpQuiet_nil ?_
        rintro ⟨w7,ho7⟩
        dsimp only
        have HO7:=Hd (HO6.out.tr ho7)
        clear t2 s1 ho7 HFN HW6 HAI HOK HAT
        go_wp2_with fail
        go_ret
        exact ⟨by rw [HF.out];rfl,HO2.out.tr HO7.out⟩
       | true =>
       have HYES:Hid ((!true || okP l rs x) = true):=Hd (by rw [HM.out];rfl)
       refine wp_region_only w6 oz (by kernel_rfl) (by kernel_rfl) ?_
       repeat (go_big_quiet_step (fail))
       refine wpQuiet_nil ?_
       rintro ⟨w7,ho7⟩
       dsimp only
       have HO7:=Hd (HO6.out.tr ho7)
       have HW7:=Hd (own_keep HW6.out ho7 (by simp))
       have HL7:=Hd HO7.out.size
       clear t2 s1 ho7 HW6 HO6 HL6 HFN
       go_wp2_with (at_builtin;go_loud (refine wpList_appA rfl _ _ 27 rfl w2.heap.size 3 i0 _ 1 8 Tryz.underlying27 hi0 hz0 hz1 hz2 rfl (by decide) w7 lv k (atV l rs (os.take k)) rfl HW7.out 1 1 [.int .i64 ((j:Int))] rfl rfl (by simp [Value.oneCell']) (by unfold maxLen;omega) (by omega) HL7.out ?_;intro v' w8 hown8 hgr8 hnew8))
       have HW8:Hid (w8.ownsRow w2.heap.size 3 1 v' (k + 1) (atV l rs (os.take (k + 1)))):=Hd (by rw [HAT.out,HAI.out];exact hown8)
       have HO8:=Hd (Only.own HO7.out HW7.out hgr8 (Nat.le_refl _))
       have HG8:Hid (okK l rs (os.take (k + 1)) = true):=Hd (by rw [HOK.out,HG.out,HYES.out];rfl)
       clear hown8 hgr8 hnew8 HW7 HO7 HL7
       go_wp2_with fail
       go_roundw
       case rel => exact ⟨k + 1,_,by omega,rfl,by go_num,HW8,HO8,HG8⟩
       case measure => simp [intOf];omega
  · have hdd:decide ((k:Int) < (os.length:Int)) = false:=by simp;omega
    obtain rfl:k = os.length:=by omega
    rw [List.take_length] at HW HG
    have HIF:=Hd (fit_of l rs os HG.out)
    have HA:=Hd (SlAt.of_own HW.out)
    obtain ⟨WA,wc,rfl⟩:=(SlAt.of_own HW.out).shape
    have HOS3:=Hd ((HOS2.out.only HO.out (Nat.le_refl _) (by simp)).more HO.out.size)
    have HOB:=Hd (HO2.out.tr HO.out)
    clear HW HG HRV HS2 HOS2 HO HO2
    go_wp2_with fail
    go_loopw [11] (fun i wr => ∃ k:Nat,k ≤ os.length ∧ i = .int .i64 k ∧ Hid (Only [] wq wr) ∧ Hid (∀ p ∈ os.take k,∀ q ∈ os,badQ l rs p q = false)) (fun i _ => os.length - (intOf i).toNat)
    case atStart => exact ⟨0,by omega,rfl,Hd oz,Hd (fun p hp => by cases hp)⟩
    case round =>
     obtain ⟨k,hk,rfl,HO,HB⟩:=hrel
     obtain ⟨wo,rfl⟩:∃ wq,wq = wr:=⟨_,rfl⟩
     by_cases hlt:k < os.length
     · have hlt':(k:Int) < (os.length:Int):=by omega
       obtain ⟨x,hx⟩:∃ x,os[k]? = some x:=⟨_,List.getElem?_eq_getElem hlt⟩
       have HX:=Hd hx
       have HQX:=Hd (fun (u:World) (h:Only [] wq u) => oqL_at (HOS3.out.only h (Nat.le_refl _) (by simp)) hx)
       have HAX:=Hd (fun (u:World) (h:Only [] wq u) => atV_at (HA.out.only h (Nat.le_refl _) (by simp)) hx)
       clear hx
       go_wp2_with fail
       go_loopw [12] (fun i wr => ∃ m:Nat,m ≤ os.length ∧ i = .int .i64 m ∧ Hid (Only [] wq wr) ∧ Hid (∀ q ∈ os.take m,badQ l rs x q = false)) (fun i _ => os.length - (intOf i).toNat)
       case atStart => exact ⟨0,by omega,rfl,HO,Hd (fun p hp => by cases hp)⟩
       case round =>
        obtain ⟨m,hm,rfl,HOI,HBI⟩:=hrel
        obtain ⟨wi,rfl⟩:∃ wq,wq = wr:=⟨_,rfl⟩
        by_cases hmlt:m < os.length
        · have hmlt':(m:Int) < (os.length:Int):=by omega
          obtain ⟨y,hy⟩:∃ x,os[m]? = some x:=⟨_,List.getElem?_eq_getElem hmlt⟩
          have HY:=Hd hy
          obtain ⟨ab,ao,ac,hv,_,_,_,_,_,q4⟩:=HQX.out _ HOI.out
          injection hv with e1 e2 e3
          subst e1;subst e3
          obtain ⟨_,_,_,hv,_,_,_,_,r3,_⟩:=oqL_at (HOS3.out.only HOI.out (Nat.le_refl _) (by simp)) hy
          injection hv with e1 e2 e3
          injection e1 with e1
          injection e1 with e1 e4 e5
          subst e1;subst e4
          obtain ⟨wb,wo',wc',hv,a0⟩:=HAX.out _ HOI.out
          injection hv with e1 e2 e3
          subst e1;subst e3
          obtain ⟨_,_,_,hv,a1⟩:=atV_at (HA.out.only HOI.out (Nat.le_refl _) (by simp)) hy
          injection hv with e1 e2 e3
          injection e1 with e1
          injection e1 with e1 e4 e5
          subst e1;subst e4
          have t1:=fun u:Since wi => u.cell q4
          have t2:=fun u:Since wi => u.cell r3
          have t3:=fun u:Since wi => u.cell a0
          have t4:=fun u:Since wi => u.cell a1
          have HBQ:Hid (badQ l rs x y = (decide (0 ≤ atI l rs x) && (decide (0 ≤ atI l rs y) && (decide (x.en < y.st) && decide (atI l rs y ≤ atI l rs x))))):=Hd rfl
          clear hy e2 e3 q4 r3 a0 a1
          go_upto_region 19 with fail
          obtain ⟨m1,hm1⟩:∃ b,decide (0 ≤ atI l rs x) = b:=⟨_,rfl⟩
          obtain ⟨m2,hm2⟩:∃ b,decide (0 ≤ atI l rs y) = b:=⟨_,rfl⟩
          obtain ⟨m3,hm3⟩:∃ b,decide (x.en < y.st) = b:=⟨_,rfl⟩
          obtain ⟨m4,hm4⟩:∃ b,decide (atI l rs y ≤ atI l rs x) = b:=⟨_,rfl⟩
          rw [hm1,hm2,hm3,hm4] at HBQ
          cases m1 with
          | false =>
           refine wp_region_only wi oz (by kernel_rfl) (by kernel_rfl) ?_
           repeat (go_big_quiet_step (fail))
           refine wpQuiet_nil ?_
           rintro ⟨w7,ho7⟩
           dsimp only
           have HO7:=Hd (HOI.out.tr ho7)
           clear t1 t2 t3 t4 ho7
           have HB7:Hid (∀ q ∈ os.take (m + 1),badQ l rs x q = false):=Hd (fun q hq => by
            rw [List.take_add_one,HY.out,List.mem_append] at hq
            rcases hq with hq | hq
            · exact HBI.out q hq
            · simp at hq
              rw [hq,HBQ.out]
              simp)
           go_wp2_with fail
           go_roundw
           case rel => exact ⟨m + 1,by omega,by go_num,HO7,HB7⟩
           case measure => simp [intOf];omega
          | true =>
          cases m2 with
          | false =>
           refine wp_region_only wi oz (by kernel_rfl) (by kernel_rfl) ?_
           repeat (go_big_quiet_step (fail))
           refine wpQuiet_nil ?_
           rintro ⟨w7,ho7⟩
           dsimp only
           have HO7:=Hd (HOI.out.tr ho7)
           clear t1 t2 t3 t4 ho7
           have HB7:Hid (∀ q ∈ os.take (m + 1),badQ l rs x q = false):=Hd (fun q hq => by
            rw [List.take_add_one,HY.out,List.mem_append] at hq
            rcases hq with hq | hq
            · exact HBI.out q hq
            · simp at hq
              rw [hq,HBQ.out]
              simp)
           go_wp2_with fail
           go_roundw
           case rel => exact ⟨m + 1,by omega,by go_num,HO7,HB7⟩
           case measure => simp [intOf];omega
          | true =>
          cases m3 with
          | false =>
           refine wp_region_only wi oz (by kernel_rfl) (by kernel_rfl) ?_
           repeat (go_big_quiet_step (fail))
           refine wpQuiet_nil ?_
           rintro ⟨w7,ho7⟩
           dsimp only
           have HO7:=Hd (HOI.out.tr ho7)
           clear t1 t2 t3 t4 ho7
           have HB7:Hid (∀ q ∈ os.take (m + 1),badQ l rs x q = false):=Hd (fun q hq => by
            rw [List.take_add_one,HY.out,List.mem_append] at hq
            rcases hq with hq | hq
            · exact HBI.out q hq
            · simp at hq
              rw [hq,HBQ.out]
              simp)
           go_wp2_with fail
           go_roundw
           case rel => exact ⟨m + 1,by omega,by go_num,HO7,HB7⟩
           case measure => simp [intOf];omega
          | true =>
          cases m4 with
          | false =>
           refine wp_region_only wi oz (by kernel_rfl) (by kernel_rfl) ?_
           repeat (go_big_quiet_step (fail))
           refine wpQuiet_nil ?_
           rintro ⟨w7,ho7⟩
           dsimp only
           have HO7:=Hd (HOI.out.tr ho7)
           clear t1 t2 t3 t4 ho7
           have HB7:Hid (∀ q ∈ os.take (m + 1),badQ l rs x q = false):=Hd (fun q hq => by
            rw [List.take_add_one,HY.out,List.mem_append] at hq
            rcases hq with hq | hq
            · exact HBI.out q hq
            · simp at hq
              rw [hq,HBQ.out]
              simp)
           go_wp2_with fail
           go_roundw
           case rel => exact ⟨m + 1,by omega,by go_num,HO7,HB7⟩
           case measure => simp [intOf];omega
          | true =>
           refine wp_region_only wi oz (by kernel_rfl) (by kernel_rfl) ?_
           repeat (go_big_quiet_step (fail))
           refine wpQuiet_nil ?_
           rintro ⟨w7,ho7⟩
           dsimp only
           have HO7:=Hd (HOI.out.tr ho7)
           clear t1 t2 t3 t4 ho7
           have HF:Hid (fitP l rs os = false):=Hd (by
            cases hf:fitP l rs os with
            | false => rfl
            | true =>
             have:=HIF.out.1 hf x (List.mem_of_getElem? HX.out) y (List.mem_of_getElem? HY.out)
             rw [HBQ.out] at this
             cases this)
           go_wp2_with fail
           go_ret
           exact ⟨by rw [HF.out];rfl,HOB.out.tr HO7.out⟩
        · have hdd:decide ((m:Int) < (os.length:Int)) = false:=by simp;omega
          obtain rfl:m = os.length:=by omega
          rw [List.take_length] at HBI
          have HBN:Hid (∀ p ∈ os.take (k + 1),∀ q ∈ os,badQ l rs p q = false):=Hd (fun p hp => by
           rw [List.take_add_one,HX.out,List.mem_append] at hp
           rcases hp with hp | hp
           · exact HB.out p hp
           · simp at hp
             rw [hp]
             exact HBI.out)
          go_wp2_with fail
          go_roundw
          case rel => exact ⟨k + 1,by omega,by go_num,HOI,HBN⟩
          case measure => simp [intOf];omega
     · have hdd:decide ((k:Int) < (os.length:Int)) = false:=by simp;omega
       obtain rfl:k = os.length:=by omega
       rw [List.take_length] at HB
       have HF:Hid (fitP l rs os = true):=Hd (HIF.out.2 HB.out)
       go_wp2_with fail
       go_ret
       exact ⟨by rw [HF.out];rfl,HOB.out.tr HO.out⟩
theorem info_cop23:(Tryz.prog.info? 88).map (fun i => (i.zero,i.size,i.bytes)) = some (some (.agg #[.int .i64 0,.string ⟨#[]⟩,.string ⟨#[]⟩,.int .i64 0,.int .i64 0]),5,56):=by kernel_rfl
theorem oqL_step (l:List Oq) (k:Nat) (x:Oq) (h:l[k]? = some x):oqL (l.take (k + 1)) = oqL (l.take k) ++ [.int .i64 x.cl,.string ⟨x.d.toArray⟩,.string ⟨x.r.toArray⟩,.int .i64 x.st,.int .i64 x.en]:=by
 rw [List.take_add_one,h]
 unfold oqL
 rw [List.flatMap_append]
 simp [Oq.cells]
theorem as23 (v:Value) (os:List Oq) (w:World) (hs:SlAt w w.heap.size v 5 os.length (oqL os)) (hn:os.length ≤ 1000):
 Calls Tryz.prog 51 #[v] w fun e w' => ∃ rv,e = .returned rv ∧ w'.ownsRow w.heap.size 88 5 rv os.length (oqL os) ∧ Only [] w w':=by
 obtain ⟨i0,hi0,hz0,hz1,hz2⟩:=info_parts info_cop23
 obtain ⟨LA,lc,rfl⟩:=hs.shape
 have HS:=Hd hs
 clear hs
 go_enter Tryz.func51,Tryz.ntmps51
 go_wp2_with fail
 go_loopw [3,4] (fun ls i wr => ∃ (k:Nat) (lv:Value),k ≤ os.length ∧ lv = ls ∧ i = .int .i64 k ∧ Hid (wr.ownsRow w.heap.size 88 5 lv k (oqL (os.take k))) ∧ Hid (Only [] w wr)) (fun _ i _ => os.length - (intOf i).toNat)
 case atStart => exact ⟨0,_,by omega,rfl,rfl,Hd (World.ownsRow_nil _ _ _ _),Hd oz⟩
 case round =>
  obtain ⟨k,lv,hk,rfl,rfl,HW,HO⟩:=hrel
  obtain ⟨wq,rfl⟩:∃ wq,wq = wr:=⟨_,rfl⟩
  by_cases hlt:k < os.length
  · have hlt':(k:Int) < (os.length:Int):=by omega
    obtain ⟨x,hx⟩:∃ x,os[k]? = some x:=⟨_,List.getElem?_eq_getElem hlt⟩
    have HST:=Hd (oqL_step os k x hx)
    obtain ⟨ab,ao,ac,hv,_,q0,q1,q2,q3,q4⟩:=oqL_at (HS.out.only HO.out (Nat.le_refl _) (by simp)) hx
    injection hv with e1 e2 e3
    subst e1;subst e3
    clear e2 hx
    have hws:=HO.out.size
    go_upto_region 5 with fail
    have s0:∀ u:SinceS (bsOf [rowOwn 28 lv] []) wq,u.w.cell? ⟨ab,ao + k * 5,none⟩ = some (.int .i64 x.cl):=fun u => u.cell q0 (by simp [bsOf])
    have s1:∀ u:SinceS (bsOf [rowOwn 28 lv] []) wq,u.w.cell? ⟨ab,ao + k * 5 + 1,none⟩ = some (.string ⟨x.d.toArray⟩):=fun u => u.cell q1 (by simp [bsOf])
    have s2:∀ u:SinceS (bsOf [rowOwn 28 lv] []) wq,u.w.cell? ⟨ab,ao + k * 5 + 2,none⟩ = some (.string ⟨x.r.toArray⟩):=fun u => u.cell q2 (by simp [bsOf])
    have s3:∀ u:SinceS (bsOf [rowOwn 28 lv] []) wq,u.w.cell? ⟨ab,ao + k * 5 + 3,none⟩ = some (.int .i64 x.st):=fun u => u.cell q3 (by simp [bsOf])
    have s4:∀ u:SinceS (bsOf [rowOwn 28 lv] []) wq,u.w.cell? ⟨ab,ao + k * 5 + 4,none⟩ = some (.int .i64 x.en):=fun u => u.cell q4 (by simp [bsOf])
    clear q0 q1 q2 q3 q4
    refine wp_region_pendM wq oz [(38,OwW wq.heap.size 88 5 1 [.int .i64 x.cl,.string ⟨x.d.toArray⟩,.string ⟨x.r.toArray⟩,.int .i64 x.st,.int .i64 x.en]),(39,OwW w.heap.size 88 5 (k + 1) (oqL (os.take k) ++ [.int .i64 x.cl,.string ⟨x.d.toArray⟩,.string ⟨x.r.toArray⟩,.int .i64 x.st,.int .i64 x.en]))] [] [rowOwn 28 lv] 29 (by intro p hp;simp at hp;rcases hp with rfl | rfl <;> exact OwW.lasts _ _ _ _ _) (by intro y hy;simp at hy;subst hy;exact rowOwn_ok HW.out) (by intro y y' hy hy' hne b hb hb';simp at hy hy';subst hy;subst hy';simp [rowOwn] at hne) (by kernel_rfl) (by kernel_rfl) (by decide) (fun val => ?_)
    simp only [tk1,tk0,dr1,dr0]
    refine fit_segM 27 [] (by kernel_rfl) ?_
    simp only [tk1,tk0,dr1,dr0]
    repeat (go_big_quiet_step (fail))
    refine wpQuiet_nil ?_
    refine fit_litO 38 88 5 [.int .i64 x.cl,.string ⟨x.d.toArray⟩,.string ⟨x.r.toArray⟩,.int .i64 x.st,.int .i64 x.en] 1 rfl rfl (by simp) (by simp) rfl (by decide) (fun w7 => by go_simp) rfl ?_
    simp only [Act.put,sia,sc0,sc1]
    refine fit_appendM 39 (.tmp 11) (.tmp 38) 84 88 i0 (.agg #[.int .i64 0,.string ⟨#[]⟩,.string ⟨#[]⟩,.int .i64 0,.int .i64 0]) 5 56 Tryz.underlying84 hi0 hz0 hz1 hz2 rfl (by decide) w.heap.size lv k 1 (k + 1) (oqL (os.take k)) [.int .i64 x.cl,.string ⟨x.d.toArray⟩,.string ⟨x.r.toArray⟩,.int .i64 x.st,.int .i64 x.en] (oqL (os.take k) ++ [.int .i64 x.cl,.string ⟨x.d.toArray⟩,.string ⟨x.r.toArray⟩,.int .i64 x.st,.int .i64 x.en]) rfl rfl rfl rfl rfl (by simp) (by simp) rfl HW.out (by simp [rows,rowOwn]) (by intro y hy hyi;simp at hy;subst hy;rfl) [] (by kernel_rfl) (by intro b hb;simp [bsOf] at hb) hws (fun w7 hw7 => SrcA.own (hw7.2 (38,OwW wq.heap.size 88 5 1 [.int .i64 x.cl,.string ⟨x.d.toArray⟩,.string ⟨x.r.toArray⟩,.int .i64 x.st,.int .i64 x.en]) (by simp) (by show 38 ∈ Oper.looksAt _ _;decide)) (by simp [Value.oneCell'])) (by unfold maxLen;omega) (by omega) ?_
    simp only [Act.put,sia,sc0,sc1]
    intro w8 ho8 hV8 hF8
    have hown8:=hV8 (39,OwW w.heap.size 88 5 (k + 1) (oqL (os.take k) ++ [.int .i64 x.cl,.string ⟨x.d.toArray⟩,.string ⟨x.r.toArray⟩,.int .i64 x.st,.int .i64 x.en])) (by simp) (by simp)
    have hown8:w8.ownsRow w.heap.size 88 5 (val 39) (k + 1) (oqL (os.take k) ++ [.int .i64 x.cl,.string ⟨x.d.toArray⟩,.string ⟨x.r.toArray⟩,.int .i64 x.st,.int .i64 x.en]):=hown8
    obtain ⟨lv',hlv'⟩:∃ u,val 39 = u:=⟨_,rfl⟩
    rw [hlv'] at hown8 ⊢
    have HW8:Hid (w8.ownsRow w.heap.size 88 5 lv' (k + 1) (oqL (os.take (k + 1)))):=Hd (by rw [HST.out];exact hown8)
    have HO8:Hid (Only [] w w8):=Hd (HO.out.trans ho8 fun y hy => .inr (by
     simp [allM,rowOwn] at hy
     exact (HW.out.lt y hy).1))
    clear hV8 hF8 hlv' s0 s1 s2 s3 s4 hown8 ho8 HW HO
    go_wp2_with fail
    go_roundw
    case rel => exact ⟨k + 1,_,by omega,rfl,by go_num,HW8,HO8⟩
    case measure => simp [intOf];omega
  · have hdd:decide ((k:Int) < (os.length:Int)) = false:=by simp;omega
    obtain rfl:k = os.length:=by omega
    rw [List.take_length] at HW
    go_wp2_with fail
    go_ret
    exact ⟨_,rfl,HW.out,HO.out⟩
theorem info_rop23:(Tryz.prog.info? 90).map (fun i => (i.zero,i.size,i.bytes)) = some (some (.agg #[.int .i64 0,.string ⟨#[]⟩,.string ⟨#[]⟩,.int .i64 0,.int .i64 0]),5,56):=by kernel_rfl
structure Aq where
 en:Int
 rp:Int
 st:Int
 ed:Int
 d:List UInt8
def Aq.cells (a:Aq):List Value:=[.int .i64 a.en,.int .i64 a.rp,.int .i64 a.st,.int .i64 a.ed,.string ⟨a.d.toArray⟩]
structure Aq.Ok (a:Aq):Prop where
 en:Wide64 a.en
 rp:Wide64 a.rp
 st:Wide64 a.st
 ed:Wide64 a.ed
 d:a.d.length ≤ maxLen
def aqL (l:List Aq):List Value:=l.flatMap Aq.cells
theorem aqL_get (l:List Aq) (i j:Nat) (x:Aq) (h:l[i]? = some x) (hj:j < 5):(aqL l)[i * 5 + j]? = x.cells[j]?:=flat_get Aq.cells 5 (fun _ => rfl) l i j x h hj
theorem aqL_at {w:World} {B:Nat} {v:Value} {l:List Aq} (h:SlAt w B v 5 l.length (aqL l)) {k:Nat} {x:Aq} (hk:l[k]? = some x):
 ∃ b o c,v = .slice (some ⟨b,o,none⟩) l.length c ∧ w.cell? ⟨b,o + k * 5,none⟩ = some (.int .i64 x.en) ∧ w.cell? ⟨b,o + k * 5 + 1,none⟩ = some (.int .i64 x.rp) ∧ w.cell? ⟨b,o + k * 5 + 2,none⟩ = some (.int .i64 x.st) ∧ w.cell? ⟨b,o + k * 5 + 3,none⟩ = some (.int .i64 x.ed) ∧ w.cell? ⟨b,o + k * 5 + 4,none⟩ = some (.string ⟨x.d.toArray⟩):=by
 have hlt:k < l.length:=(List.getElem?_eq_some_iff.1 hk).1
 obtain ⟨b,o,c,hv,_,hc⟩:=h.at_ (by omega)
 exact ⟨b,o,c,hv,hc (k * 5 + 0) _ (aqL_get l k 0 x hk (by omega)),hc (k * 5 + 1) _ (aqL_get l k 1 x hk (by omega)),hc (k * 5 + 2) _ (aqL_get l k 2 x hk (by omega)),hc (k * 5 + 3) _ (aqL_get l k 3 x hk (by omega)),hc (k * 5 + 4) _ (aqL_get l k 4 x hk (by omega))⟩
theorem oqL_snoc (l:List Oq) (x:Oq):oqL (l ++ [x]) = oqL l ++ x.cells:=by
 unfold oqL
 rw [List.flatMap_append]
 simp
theorem ops23 (v rv qv:Value) (E:List Ey) (rs:List (List UInt8)) (l:List Aq) (w:World) (hs:SlAt w w.heap.size v 4 E.length (eyL E)) (hr:SlAt w w.heap.size rv 1 E.length (svs rs)) (hq:SlAt w w.heap.size qv 5 l.length (aqL l))
 (hk:EyOk E) (hl:rs.length = E.length) (hrs:∀ y ∈ rs,y.length ≤ 1000000) (hok:∀ a ∈ l,a.Ok) (hd:∀ a ∈ l,a.d.length ≤ 300) (hn:l.length ≤ 1000):
 Calls Tryz.prog 50 #[v,rv,qv] w fun e w' => ∃ ov os,e = .returned ov ∧ os.length = l.length ∧ w'.ownsRow w.heap.size 90 5 ov l.length (oqL os) ∧ Only [] w w':=by
 obtain ⟨i0,hi0,hz0,hz1,hz2⟩:=info_parts info_rop23
 obtain ⟨LA,lc,rfl⟩:=hs.shape
 obtain ⟨RA,rc,rfl⟩:=hr.shape
 obtain ⟨QA,qc,rfl⟩:=hq.shape
 have HS:=Hd hs
 have HR:=Hd hr
 have HQ:=Hd hq
 have hkn:=hk.n
 have HK:=Hd hk.d
 have HL:=Hd hl
 have HRS:=Hd hrs
 have HOK:=Hd hok
 have HD:=Hd hd
 clear hs hr hq hk hrs hok hd hl
 go_enter Tryz.func50,Tryz.ntmps50
 go_wp2_with fail
 go_loopw [7,8] (fun ls i wr => ∃ (k:Nat) (lv:Value) (os:List Oq),k ≤ l.length ∧ lv = ls ∧ i = .int .i64 k ∧ os.length = k ∧ Hid (wr.ownsRow w.heap.size 90 5 lv k (oqL os)) ∧ Hid (Only [] w wr)) (fun _ i _ => l.length - (intOf i).toNat)
 case atStart => exact ⟨0,_,[],by omega,rfl,rfl,rfl,Hd (World.ownsRow_nil _ _ _ _),Hd oz⟩
 case round =>
  obtain ⟨k,lv,os,hk,rfl,rfl,hol,HW,HO⟩:=hrel
  obtain ⟨wq,rfl⟩:∃ wq,wq = wr:=⟨_,rfl⟩
  have HOL:=Hd hol
  clear hol
  by_cases hlt:k < l.length
  · have hlt':(k:Int) < (l.length:Int):=by omega
    obtain ⟨x,hx⟩:∃ x,l[k]? = some x:=⟨_,List.getElem?_eq_getElem hlt⟩
    have HXM:=Hd (List.mem_of_getElem? hx)
    have HQX:=Hd (fun (u:World) (h:Only [] w u) => aqL_at (HQ.out.only h (Nat.le_refl _) (by simp)) hx)
    obtain ⟨dd,hdd⟩:∃ d,x.d = d:=⟨_,rfl⟩
    have HDD:Hid (dd.length ≤ 1000000):=Hd (by have:=HD.out x HXM.out;rw [hdd] at this;omega)
    have HXO:=Hd (HOK.out x HXM.out)
    simp only [hdd] at HQX
    obtain ⟨ab,ao,ac,hv,q0,q1,q2,q3,q4⟩:=HQX.out _ HO.out
    injection hv with e1 e2 e3
    subst e1;subst e3
    clear e2 hx q0 q1 hdd
    have hab:ab ≠ wq.heap.size:=by have:=World.block_lt_of_cell? wq _ q2;have:ab < wq.heap.size:=this;omega
    have hab2:wq.heap.size ≠ ab:=Ne.symm hab
    go_upto_region 5 with fail
    go_region_held3 (fun w':World => w'.cell? ⟨ab,ao + k * 5 + 2,none⟩ = some (.int .i64 x.st) ∧ w'.cell? ⟨ab,ao + k * 5 + 3,none⟩ = some (.int .i64 x.ed) ∧ w'.cell? ⟨ab,ao + k * 5 + 4,none⟩ = some (.string ⟨dd.toArray⟩)) (go_keep) (fail)
    obtain ⟨wX,hwX⟩:∃ wX,(wq.alloc (.cells #[.int .i64 0,.string ⟨(dd:List UInt8).toArray⟩,.string ⟨([]:List UInt8).toArray⟩,.int .i64 x.st,.int .i64 x.ed] 90)).drew = wX:=⟨_,rfl⟩
    have hoX:Only [] wq wX:=by rw [← hwX];exact (oz.alloc _).drew
    have HZ:Hid (Cells wX wq.heap.size 90 [.int .i64 0,.string ⟨(dd:List UInt8).toArray⟩,.string ⟨([]:List UInt8).toArray⟩,.int .i64 x.st,.int .i64 x.ed]):=by show Cells _ _ _ _;rw [← hwX];exact (Cells.new _ _ _).drew
    rename_i hHeld
    rw [hwX]
    clear hHeld hab hab2 q2 q3 q4 hwX
    have HWX:=Hd (own_keep HW.out hoX (by simp))
    have HOX:=Hd (HO.out.tr hoX)
    have hwz:=HO.out.size
    obtain ⟨z,hz⟩:∃ z,wq.heap.size = z:=⟨_,rfl⟩
    rw [hz] at HZ hwz ⊢
    have HNZ:Hid (lv.ownBlock ≠ some z):=Hd (fun e => by have:=(HW.out.lt z e).2;omega)
    have HZS:Hid (w.heap.size ≤ z):=Hd hwz
    clear hz hoX HW HO hwz
    by_cases hE:E.length = 0
    · have HEE:=Hd hE
      have hE0:decide ((0:Int) < (E.length:Int)) = false:=decide_eq_false (by omega)
      have hE2:decide (0 < E.length) = false:=decide_eq_false (by omega)
      have hE3:¬ (0:Int) < (E.length:Int):=by omega
      clear hE
      have hld:=HZ.out
      have hws:=HOX.out.size
      go_wp2_with (first
       | (refine wpList_load_row rfl 90 _ rfl z rfl 90 #[.int .i64 0,.string ⟨(dd:List UInt8).toArray⟩,.string ⟨([]:List UInt8).toArray⟩,.int .i64 x.st,.int .i64 x.ed] (0,0) _ hld Tryz.underlying90 rfl (by kernel_rfl) ?_)
       | (at_builtin;refine wpList_appA rfl _ _ 82 rfl w.heap.size 90 i0 _ 5 56 Tryz.underlying82 hi0 hz0 hz1 hz2 rfl (by decide) wX lv k (oqL os) rfl HWX.out 1 1 [.int .i64 0,.string ⟨(dd:List UInt8).toArray⟩,.string ⟨([]:List UInt8).toArray⟩,.int .i64 x.st,.int .i64 x.ed] rfl rfl (by simp [Value.oneCell']) (by unfold maxLen;omega) (by omega) hws ?_;intro v' w6 hown6 hgr6 hnew6))
      have HW6:Hid (w6.ownsRow w.heap.size 90 5 v' (k + 1) (oqL (os ++ [⟨0,dd,[],x.st,x.ed,HDD.out,(by simp)⟩]))):=Hd (by rw [oqL_snoc];exact hown6)
      have HO6:=Hd (Only.own HOX.out HWX.out hgr6 (Nat.le_refl _))
      clear hown6 hgr6 hnew6 hld
      go_wp2_with fail
      go_roundw
      case rel => exact ⟨k + 1,_,_,by omega,rfl,by go_num,by rw [List.length_append,HOL.out];rfl,HW6,HO6⟩
      case measure => simp [intOf];omega
    have hE1:(0:Int) < (E.length:Int):=by omega
    have CPI:=Hd (fun c (hc:Wide64 c) w' => pick23 c E.length w' hc (by omega) (by omega))
    have HPL:=Hd (fun c => pkI_lt c E.length (by omega))
    clear hE
    by_cases hdn:dd = []
    · subst hdn
      have HO7p:=HOX
      obtain ⟨_,_,_,hv,q0,_,_,_,q4⟩:=HQX.out _ HOX.out
      injection hv with e1 e2 e3
      injection e1 with e1
      injection e1 with e1 e4 e5
      subst e1;subst e4
      clear e2 e3 e5
      obtain ⟨p0,p1⟩:=HPL.out x.en
      obtain ⟨j,hj⟩:∃ j:Nat,pkI x.en E.length = j:=⟨(pkI x.en E.length).toNat,by omega⟩
      have CP:=Hd (CPI.out x.en HXO.out.en wX)
      rw [hj] at CP p1
      obtain ⟨y7,hy7⟩:∃ y,E[j]? = some y:=⟨_,List.getElem?_eq_getElem (by omega)⟩
      have HY7:=Hd (HK.out y7 (List.mem_of_getElem? hy7))
      obtain ⟨lb,lo,lc',hv,_,_,_,r3⟩:=eyL_at (HS.out.only HOX.out (Nat.le_refl _) (by simp)) hy7
      injection hv with e1 e6 e3
      subst e1
      clear e3 e6 p0 hj hy7 HO7p
      have hf:=HZ.out.frozen 1
      have hzl:=HZ.out.lt
      have hz1c:=HZ.out.cell (k:=1) rfl
      go_upto_region 8 with (go_at_call 44;refine CP.out.mono ?_;rintro e wx ⟨rfl,rfl⟩)
      obtain ⟨w7,hw7⟩:∃ u,wX.setCell ⟨z,1,none⟩ (.string ⟨y7.d.toArray⟩) = u:=⟨_,rfl⟩
      have HZ7:Hid (Cells w7 z 90 [.int .i64 0,.string ⟨(y7.d:List UInt8).toArray⟩,.string ⟨([]:List UInt8).toArray⟩,.int .i64 x.st,.int .i64 x.ed]):=Hd (hw7 ▸ HZ.out.set 1 (.string ⟨y7.d.toArray⟩))
      have hoS:Only [z] wX w7:=hw7 ▸ oz.setCell (.inl (by simp)) _
      have hnz:=HNZ.out
      have HW7:=Hd (own_keep HWX.out hoS (by simpa using hnz))
      have HO7:=Hd (HOX.out.trans hoS (fun x hx => by simp at hx;have:=HZS.out;exact .inr (by omega)))
      rw [hw7]
      clear hw7 hoS hnz HZ HWX HOX CP q0 q4 r3 hf hzl hz1c p1
      obtain ⟨_,_,_,hv,_,q1,_,_,q4⟩:=HQX.out _ HO7.out
      injection hv with e1 e2 e3
      injection e1 with e1
      injection e1 with e1 e4 e5
      subst e1;subst e4
      clear e2 e3 e5
      obtain ⟨p0,p1⟩:=HPL.out x.rp
      obtain ⟨j9,hj9⟩:∃ j:Nat,pkI x.rp E.length = j:=⟨(pkI x.rp E.length).toNat,by omega⟩
      have CP:=Hd (CPI.out x.rp HXO.out.rp w7)
      rw [hj9] at CP p1
      obtain ⟨y9,hy9⟩:∃ y,rs[j9]? = some y:=⟨_,List.getElem?_eq_getElem (by rw [HL.out];omega)⟩
      have HY9:=Hd (HRS.out y9 (List.mem_of_getElem? hy9))
      obtain ⟨pb,po,pc',hv,r0⟩:=svs_at23 (l:=rs) (by rw [HL.out];exact HR.out.only HO7.out (Nat.le_refl _) (by simp)) hy9
      injection hv with e1 e6 e3
      subst e1
      clear e3 e6 p0 hj9 hy9
      have hf:=HZ7.out.frozen 2
      have hzl:=HZ7.out.lt
      have hz2c:=HZ7.out.cell (k:=2) rfl
      go_upto_region 10 with (go_at_call 44;refine CP.out.mono ?_;rintro e wx ⟨rfl,rfl⟩)
      obtain ⟨w9,hw9⟩:∃ u,w7.setCell ⟨z,2,none⟩ (.string ⟨y9.toArray⟩) = u:=⟨_,rfl⟩
      have HZ9:Hid (Cells w9 z 90 [.int .i64 0,.string ⟨(y7.d:List UInt8).toArray⟩,.string ⟨(y9:List UInt8).toArray⟩,.int .i64 x.st,.int .i64 x.ed]):=Hd (hw9 ▸ HZ7.out.set 2 (.string ⟨y9.toArray⟩))
      have hoS:Only [z] w7 w9:=hw9 ▸ oz.setCell (.inl (by simp)) _
      have hnz:=HNZ.out
      have HW9:=Hd (own_keep HW7.out hoS (by simpa using hnz))
      have HO9:=Hd (HO7.out.trans hoS (fun x hx => by simp at hx;have:=HZS.out;exact .inr (by omega)))
      rw [hw9]
      clear hw9 hoS hnz CP q1 q4 r0 hf hzl hz2c p1
      have hld:=HZ9.out
      have hws:=HO9.out.size
      go_wp2_with (first
       | (refine wpList_load_row rfl 90 _ rfl z rfl 90 #[.int .i64 0,.string ⟨(y7.d:List UInt8).toArray⟩,.string ⟨(y9:List UInt8).toArray⟩,.int .i64 x.st,.int .i64 x.ed] (0,0) _ hld Tryz.underlying90 rfl (by kernel_rfl) ?_)
       | (at_builtin;refine wpList_appA rfl _ _ 82 rfl w.heap.size 90 i0 _ 5 56 Tryz.underlying82 hi0 hz0 hz1 hz2 rfl (by decide) w9 lv k (oqL os) rfl HW9.out 1 1 [.int .i64 0,.string ⟨(y7.d:List UInt8).toArray⟩,.string ⟨(y9:List UInt8).toArray⟩,.int .i64 x.st,.int .i64 x.ed] rfl rfl (by simp [Value.oneCell']) (by unfold maxLen;omega) (by omega) hws ?_;intro v' w6 hown6 hgr6 hnew6))
      have HW6:Hid (w6.ownsRow w.heap.size 90 5 v' (k + 1) (oqL (os ++ [⟨0,y7.d,y9,x.st,x.ed,HY7.out,HY9.out⟩]))):=Hd (by rw [oqL_snoc];exact hown6)
      have HO6:=Hd (Only.own HO9.out HW9.out hgr6 (Nat.le_refl _))
      clear hown6 hgr6 hnew6 hld
      go_wp2_with fail
      go_roundw
      case rel => exact ⟨k + 1,_,_,by omega,rfl,by go_num,by rw [List.length_append,HOL.out];rfl,HW6,HO6⟩
      case measure => simp [intOf];omega
    · have hdb:(dd == []) = false:=by simpa using hdn
      have HDN:=Hd hdn
      clear hdn
      obtain ⟨_,_,_,hv,_,q1,_,_,q4⟩:=HQX.out _ HOX.out
      injection hv with e1 e2 e3
      injection e1 with e1
      injection e1 with e1 e4 e5
      subst e1;subst e4
      clear e2 e3 e5
      obtain ⟨p0,p1⟩:=HPL.out x.rp
      obtain ⟨j9,hj9⟩:∃ j:Nat,pkI x.rp E.length = j:=⟨(pkI x.rp E.length).toNat,by omega⟩
      have CP:=Hd (CPI.out x.rp HXO.out.rp wX)
      rw [hj9] at CP p1
      obtain ⟨y9,hy9⟩:∃ y,rs[j9]? = some y:=⟨_,List.getElem?_eq_getElem (by rw [HL.out];omega)⟩
      have HY9:=Hd (HRS.out y9 (List.mem_of_getElem? hy9))
      obtain ⟨pb,po,pc',hv,r0⟩:=svs_at23 (l:=rs) (by rw [HL.out];exact HR.out.only HOX.out (Nat.le_refl _) (by simp)) hy9
      injection hv with e1 e6 e3
      subst e1
      clear e3 e6 p0 hj9 hy9
      have hf:=HZ.out.frozen 2
      have hzl:=HZ.out.lt
      have hz2c:=HZ.out.cell (k:=2) rfl
      go_upto_region 10 with (go_at_call 44;refine CP.out.mono ?_;rintro e wx ⟨rfl,rfl⟩)
      obtain ⟨w9,hw9⟩:∃ u,wX.setCell ⟨z,2,none⟩ (.string ⟨y9.toArray⟩) = u:=⟨_,rfl⟩
      have HZ9:Hid (Cells w9 z 90 [.int .i64 0,.string ⟨(dd:List UInt8).toArray⟩,.string ⟨(y9:List UInt8).toArray⟩,.int .i64 x.st,.int .i64 x.ed]):=Hd (hw9 ▸ HZ.out.set 2 (.string ⟨y9.toArray⟩))
      have hoS:Only [z] wX w9:=hw9 ▸ oz.setCell (.inl (by simp)) _
      have hnz:=HNZ.out
      have HW9:=Hd (own_keep HWX.out hoS (by simpa using hnz))
      have HO9:=Hd (HOX.out.trans hoS (fun x hx => by simp at hx;have:=HZS.out;exact .inr (by omega)))
      rw [hw9]
      clear hw9 hoS hnz CP q1 q4 r0 hf hzl hz2c p1
      have hld:=HZ9.out
      have hws:=HO9.out.size
      go_wp2_with (first
       | (refine wpList_load_row rfl 90 _ rfl z rfl 90 #[.int .i64 0,.string ⟨(dd:List UInt8).toArray⟩,.string ⟨(y9:List UInt8).toArray⟩,.int .i64 x.st,.int .i64 x.ed] (0,0) _ hld Tryz.underlying90 rfl (by kernel_rfl) ?_)
       | (at_builtin;refine wpList_appA rfl _ _ 82 rfl w.heap.size 90 i0 _ 5 56 Tryz.underlying82 hi0 hz0 hz1 hz2 rfl (by decide) w9 lv k (oqL os) rfl HW9.out 1 1 [.int .i64 0,.string ⟨(dd:List UInt8).toArray⟩,.string ⟨(y9:List UInt8).toArray⟩,.int .i64 x.st,.int .i64 x.ed] rfl rfl (by simp [Value.oneCell']) (by unfold maxLen;omega) (by omega) hws ?_;intro v' w6 hown6 hgr6 hnew6))
      have HW6:Hid (w6.ownsRow w.heap.size 90 5 v' (k + 1) (oqL (os ++ [⟨0,dd,y9,x.st,x.ed,HDD.out,HY9.out⟩]))):=Hd (by rw [oqL_snoc];exact hown6)
      have HO6:=Hd (Only.own HO9.out HW9.out hgr6 (Nat.le_refl _))
      clear hown6 hgr6 hnew6 hld
      go_wp2_with fail
      go_roundw
      case rel => exact ⟨k + 1,_,_,by omega,rfl,by go_num,by rw [List.length_append,HOL.out];rfl,HW6,HO6⟩
      case measure => simp [intOf];omega
  · have hdd:decide ((k:Int) < (l.length:Int)) = false:=by simp;omega
    obtain rfl:k = l.length:=by omega
    go_wp2_with fail
    go_ret
    exact ⟨_,_,rfl,HOL.out,HW.out,HO.out⟩
end Go.Proofs.YtcjfmildalappaaGreat
namespace Go.Proofs.YtcjfmildalappaaGreat
open Go.RowKit Go.ChangeShapes Go.WideShapes Go.Deep
theorem open_asked {H:Type} {enc:TypeId × Value → H} {w:World} {base:Nat} {spare:Nat → Bool} {held:Bool} {r:Reach} {b0:Nat} {v:Value} {d:DataW H} {p:List MemPlace}
 (hv:Value.okWide Tryz.prog w r b0 77 v) (h:DataW.Trod enc Tryz.prog w base spare held 77 v d p):
 ∃ l:List Aq,SlAt w w.heap.size v 5 l.length (aqL l) ∧ ∀ a ∈ l,a.Ok:=by
 obtain ⟨n,xs,hs,hx⟩:=open_structs Tryz.underlying77 Tryz.underlying79 (by kernel_rfl) (by kernel_rfl) hv h
 obtain ⟨l,hl,rfl,hg⟩:=flat_of Aq.cells 5 (fun _ => rfl) Aq.Ok n xs hs.1 fun i hi => by
  obtain ⟨u0,y0,m0,e0,h0⟩:=hx i hi 0 _ rfl
  obtain ⟨u1,y1,m1,e1,h1⟩:=hx i hi 1 _ rfl
  obtain ⟨u2,y2,m2,e2,h2⟩:=hx i hi 2 _ rfl
  obtain ⟨u3,y3,m3,e3,h3⟩:=hx i hi 3 _ rfl
  obtain ⟨u4,y4,m4,e4,h4⟩:=hx i hi 4 _ rfl
  obtain ⟨z0,q0,_,w0⟩:=DataW.trod_int Tryz.underlying3 h0
  obtain ⟨z1,q1,_,w1⟩:=DataW.trod_int Tryz.underlying3 h1
  obtain ⟨z2,q2,_,w2⟩:=DataW.trod_int Tryz.underlying3 h2
  obtain ⟨z3,q3,_,w3⟩:=DataW.trod_int Tryz.underlying3 h3
  obtain ⟨z4,q4,_,w4⟩:=DataW.trod_string Tryz.underlying9 h4
  simp at q0 q1 q2 q3 q4
  subst q0;subst q1;subst q2;subst q3;subst q4
  refine ⟨⟨z0,z1,z2,z3,z4.data.toList⟩,⟨wide64_of_wf w0,wide64_of_wf w1,wide64_of_wf w2,wide64_of_wf w3,by rw [ba_len];exact w4⟩,fun j hj => ?_⟩
  match j,hj with
  | 0,_ => exact e0
  | 1,_ => exact e1
  | 2,_ => exact e2
  | 3,_ => exact e3
  | 4,_ => simpa [Aq.cells] using e4
 subst hl
 exact ⟨l,hs,hg⟩
end Go.Proofs.YtcjfmildalappaaGreat
