/-
  Contracts; each theorem bears its own conditions.
-/
import Derived.Test.YtcjfmildalappaaGreatK26aq
import Derived.Test.YtcjfmildalappaaGreatK26ar
set_option linter.all false
set_option maxRecDepth 100000
set_option maxHeartbeats 8000000
namespace Go.Proofs.YtcjfmildalappaaGreat
open Go.RowKit
theorem ref_text_n (s:List UInt8) (w:World) (hl:s.length ≤ 1000000):Calls Tryz.prog 99 #[.string ⟨s.toArray⟩] w fun e w' => e = .returned (.string ⟨(tb s).toArray⟩) ∧ Only [] w w':=ref_text s w (by omega)
theorem rs_pack (b:Nat) (v:Value) (T:List Rf) (w:World) (h:RsX w b v T) (hsh:∀ t ∈ T,t.fd.Sh):
 Calls Tryz.prog 102 #[.pointer (some ⟨b,0,none⟩)] w fun e w' => e = .returned (.string ⟨(stB (pR T)).toArray⟩) ∧ Only [] w w':=by
 obtain ⟨A,c,rfl⟩:=(SlAt.of_own h.row).shape
 have H:=Hd h
 have HSH:=Hd hsh
 have hcap:=h.cap
 have hln:=(ib_length (T.length:Int) ⟨by omega,by omega⟩).2
 have C0:=Hd (ref_int (T.length:Int) w ⟨by omega,by omega⟩)
 obtain ⟨L0,hL0⟩:∃ L,ib T.length = L:=⟨_,rfl⟩
 have HL0:=Hd hL0
 rw [hL0] at hln C0
 have c0:=h.cells.cell (k:=0) rfl
 clear h hsh hL0
 go_enter Tryz.func102,Tryz.ntmps102
 go_wp2_with fail
 refine C0.out.mono ?_
 rintro e w1 ⟨rfl,ho1⟩
 have HO1:=Hd ho1
 clear C0 ho1 c0
 go_wp2_with fail
 have HL1:Hid (L0 = L0 ++ fsB (pR (T.take 0))):=Hd (by simp [fsB,pR])
 go_loopw [3,4] (fun s i wr => ∃ (k:Nat) (M:List UInt8),k ≤ T.length ∧ i = .int .i64 k ∧ s = .string ⟨M.toArray⟩ ∧ Hid (M = L0 ++ fsB (pR (T.take k))) ∧ Hid (Only [] w wr)) (fun _ i _ => T.length - (intOf i).toNat)
 case atStart => exact ⟨0,L0,by omega,rfl,rfl,HL1,HO1⟩
 case round =>
  obtain ⟨k,M,hk,rfl,rfl,hM,ho⟩:=hrel
  obtain ⟨wo,rfl⟩:∃ wo,wo = wr:=⟨_,rfl⟩
  have hX:=H.out.only ho.out
  have c0:=hX.cells.cell (k:=0) rfl
  by_cases hlt:k < T.length
  · have hlt':(k:Int) < (T.length:Int):=by omega
    obtain ⟨t,ht⟩:∃ t,T[k]? = some t:=⟨_,List.getElem?_eq_getElem hlt⟩
    have htm:=List.mem_of_getElem? ht
    obtain ⟨g,c',hv,hg,q0,q1,q2,q3⟩:=hX.at_ ht
    injection hv with e1 _ e3
    subst e1;subst e3
    obtain ⟨A2,c2,hv2,_,_⟩:=(H.out.ps t htm).shape
    have HRow:Hid (RfS w (.slice A2 t.fd.ps.length c2) 5 t.fd.ps.length (poL t.fd.ps)):=Hd (hv2 ▸ H.out.ps t htm)
    rw [hv2] at q3
    have hsh:=HSH.out t htm
    have hnm:=(nmL_len (H.out.nml t htm)).2
    have hpl:=psB_le t.fd.ps hsh.cap hsh.its
    have hps:=fun j => psB_le (t.fd.ps.take j) (by rw [List.length_take];have:=hsh.cap;omega) (fun p hp => hsh.its p (List.mem_of_mem_take hp))
    have hns:=hsh.cap
    have hfs:=fsB_le (pR (T.take k)) (by rw [pR_len,List.length_take];omega) (by
     intro x hx
     obtain ⟨t',ht',rfl⟩:=List.mem_map.1 hx
     have hm:=List.mem_of_mem_take ht'
     have:=(nmL_len (H.out.nml t' hm)).2
     exact ⟨by show t'.nm.length ≤ 1000;omega,HSH.out t' hm⟩)
    have hMl:M.length ≤ 13000000000:=by rw [hM.out,List.length_append];omega
    have HSM:Hid (L0 ++ fsB (pR (T.take (k + 1))) = M ++ (fdH (t.nm,t.fd) ++ psB t.fd.ps)):=Hd (by
     unfold fsB pR
     rw [List.take_add_one,ht,List.map_append,List.flatMap_append,← List.append_assoc]
     rw [show L0 ++ ((T.take k).map fun t => (t.nm,t.fd)).flatMap fdB = M from hM.out.symm]
     simp [fdB])
    have HWS:=Hd hsh.ws
    have C1:=Hd (fun (wx:World) => ref_text_n t.nm wx (by omega))
    have hw1:=hsh.ws t.fd.pol (by simp)
    have hw2:=hsh.ws t.fd.fai (by simp)
    have hw3:=hsh.ws (t.fd.ps.length:Int) (by simp)
    have C2:=fun (wx:World) => ref_int t.fd.pol wx hw1
    have C3:=fun (wx:World) => ref_int t.fd.fai wx hw2
    have C4:=fun (wx:World) => ref_int (t.fd.ps.length:Int) wx hw3
    have l1:=tb_top t.nm 1000 (by omega) (by omega)
    have l2:=(ib_length _ hw1).2
    have l3:=(ib_length _ hw2).2
    have l4:=(ib_length _ hw3).2
    have HFH:Hid (fdH (t.nm,t.fd) = tb t.nm ++ ib t.fd.pol ++ ib t.fd.fai ++ ib (t.fd.ps.length:Int)):=Hd (by unfold fdH isb;simp)
    obtain ⟨t1,h1⟩:∃ x,tb t.nm = x:=⟨_,rfl⟩
    obtain ⟨t2,h2⟩:∃ x,ib t.fd.pol = x:=⟨_,rfl⟩
    obtain ⟨t3,h3⟩:∃ x,ib t.fd.fai = x:=⟨_,rfl⟩
    obtain ⟨t4,h4⟩:∃ x,ib (t.fd.ps.length:Int) = x:=⟨_,rfl⟩
    rw [h1] at C1 l1
    rw [h2] at C2 l2
    rw [h3] at C3 l3
    rw [h4] at C4 l4
    rw [h1,h2,h3,h4] at HFH
    have C2:=Hd C2
    have C3:=Hd C3
    have C4:=Hd C4
    obtain ⟨wx,hwx⟩:∃ wx,wo.alloc (.cells #[.string ⟨t.nm.toArray⟩,.int .i64 t.fd.pol,.int .i64 t.fd.fai,.slice A2 t.fd.ps.length c2] 142) = wx:=⟨_,rfl⟩
    obtain ⟨bx,hbx⟩:∃ b,wo.heap.size = b:=⟨_,rfl⟩
    have OX:Only [] wo wx:=hwx ▸ oz.alloc _
    have hCX:Cells wx bx 142 [.string ⟨t.nm.toArray⟩,.int .i64 t.fd.pol,.int .i64 t.fd.fai,.slice A2 t.fd.ps.length c2]:=hwx ▸ hbx ▸ Cells.new wo _ _
    have HOX:=Hd (ho.out.tr OX)
    have HCX:=Hd hCX
    have HITS:=Hd hsh.its
    have hT:Hid (T[k]? = some t):=Hd ht
    clear hX ht htm hv2 hsh hfs h1 h2 h3 h4 OX hCX ho hw1 hw2 hw3 hM
    go_upto_region 6 with fail
    clear hwx hbx c0 q0 q1 q2 q3
    have z0:=fun u:Since wx => u.cell (HCX.out.cell (k:=0) rfl)
    have z1:=fun u:Since wx => u.cell (HCX.out.cell (k:=1) rfl)
    have z2:=fun u:Since wx => u.cell (HCX.out.cell (k:=2) rfl)
    have z3:=fun u:Since wx => u.cell (HCX.out.cell (k:=3) rfl)
    refine wp_region_only wx oz (by kernel_rfl) (by kernel_rfl) ?_
    repeat (go_big_quiet_step (first
     | (go_at_call 99;refine Calls.only (C1.out _))
     | (go_at_call 117;with_reducible refine Calls.only (C2.out _))
     | (go_at_call 117;with_reducible refine Calls.only (C3.out _))
     | (go_at_call 117;with_reducible refine Calls.only (C4.out _))))
    refine wpQuiet_nil ?_
    rintro ⟨w4,ho4⟩
    dsimp only
    have HO4:=Hd (HOX.out.tr ho4)
    have HC4:=Hd (HCX.out.only ho4 (by simp))
    have HM4:Hid (M ++ t1 ++ t2 ++ t3 ++ t4 = M ++ (fdH (t.nm,t.fd) ++ psB (t.fd.ps.take 0))):=Hd (by rw [HFH.out];simp [psB])
    clear z0 z1 z2 z3 C1 C2 C3 C4 ho4 HOX HCX
    have z3:=HC4.out.cell (k:=3) rfl
    go_upto_region 8 with fail
    clear z3
    go_loopw [3,6] (fun s i wr => ∃ (j:Nat) (N:List UInt8),j ≤ t.fd.ps.length ∧ i = .int .i64 j ∧ s = .string ⟨N.toArray⟩ ∧ Hid (N = M ++ (fdH (t.nm,t.fd) ++ psB (t.fd.ps.take j))) ∧ Hid (Cells wr bx 142 [.string ⟨t.nm.toArray⟩,.int .i64 t.fd.pol,.int .i64 t.fd.fai,.slice A2 t.fd.ps.length c2]) ∧ Hid (Only [] w wr)) (fun _ i _ => t.fd.ps.length - (intOf i).toNat)
    case atStart => exact ⟨0,_,by omega,rfl,rfl,HM4,HC4,HO4⟩
    case round =>
     obtain ⟨j,N,hj,rfl,rfl,hN,hC,ho⟩:=hrel
     obtain ⟨wq,rfl⟩:∃ wq,wq = wr:=⟨_,rfl⟩
     have z3:=hC.out.cell (k:=3) rfl
     by_cases hjl:j < t.fd.ps.length
     · have hjl':(j:Int) < (t.fd.ps.length:Int):=by omega
       obtain ⟨x,hx⟩:∃ x,t.fd.ps[j]? = some x:=⟨_,List.getElem?_eq_getElem hjl⟩
       have hrw:=HRow.out.only ho.out
       obtain ⟨b1,o1,c1',g1,p0,p1,p2,p3,p4⟩:=poL_at hrw.sl rfl hx
       injection g1 with i1 i2 i3
       subst i1;subst i3
       have hxs:=HITS.out x (List.mem_of_getElem? hx)
       have l1':=tb_top x.it.id _ hxs.id (by omega)
       have l2':=tb_top x.it.ti _ hxs.ti (by omega)
       have l3':=tb_top x.it.li _ hxs.li (by omega)
       have hpj:=hps j
       have hNl:N.length ≤ 14000000000:=by
        rw [hN.out,HFH.out]
        simp only [List.length_append]
        omega
       have C1:=fun (wx:World) => ref_text_n x.it.id wx hxs.id
       have C2:=fun (wx:World) => ref_text_n x.it.ti wx hxs.ti
       have C3:=fun (wx:World) => ref_text_n x.it.li wx hxs.li
       have C4:=fun (wx:World) => ref_bool x.rd wx
       have HSJ:Hid (M ++ (fdH (t.nm,t.fd) ++ psB (t.fd.ps.take (j + 1))) = N ++ (tb x.it.id ++ (tb x.it.ti ++ tb x.it.li)) ++ bb x.rd):=Hd (by
        have:psB (t.fd.ps.take (j + 1)) = psB (t.fd.ps.take j) ++ spB x:=flat_snoc spB t.fd.ps j x hx
        rw [this,hN.out]
        unfold spB itT
        simp only [List.append_assoc])
       obtain ⟨x1,h1⟩:∃ y,tb x.it.id = y:=⟨_,rfl⟩
       obtain ⟨x2,h2⟩:∃ y,tb x.it.ti = y:=⟨_,rfl⟩
       obtain ⟨x3,h3⟩:∃ y,tb x.it.li = y:=⟨_,rfl⟩
       obtain ⟨x4,h4⟩:∃ y,bb x.rd = y:=⟨_,rfl⟩
       have l4':x4.length = 1:=by rw [← h4];rfl
       rw [h1] at C1 l1'
       rw [h2] at C2 l2'
       rw [h3] at C3 l3'
       rw [h4] at C4
       rw [h1,h2,h3,h4] at HSJ
       have C1:=Hd C1
       have C2:=Hd C2
       have C3:=Hd C3
       have C4:=Hd C4
       obtain ⟨wy,hwy⟩:∃ wy,wq.alloc (.cells #[.string ⟨x.it.id.toArray⟩,.string ⟨x.it.ti.toArray⟩,.string ⟨x.it.li.toArray⟩] 99) = wy:=⟨_,rfl⟩
       obtain ⟨bz,hbz⟩:∃ b,wq.heap.size = b:=⟨_,rfl⟩
       have OY:Only [] wq wy:=hwy ▸ oz.alloc _
       have hCY:Cells wy bz 99 [.string ⟨x.it.id.toArray⟩,.string ⟨x.it.ti.toArray⟩,.string ⟨x.it.li.toArray⟩]:=hwy ▸ hbz ▸ Cells.new wq _ _
       have HOY:=Hd (ho.out.tr OY)
       have HCY:=Hd hCY
       have HCZ:=Hd (hC.out.only OY (by simp))
       have p4y:=(OY.cell (p:=⟨b1,o1 + j * 5 + 4,none⟩) (World.block_lt_of_cell? wq _ p4) (by simp)).trans p4
       have hwr:IntKind.i64.wrap ((j:Int) + 1) = (j:Int) + 1:=by rw [IntKind.wrap_i64];omega
       clear h1 h2 h3 h4 hx hxs hpj OY hCY hC ho hrw hN
       go_upto_region 11 with fail
       clear hwy hbz z3 p0 p1 p2 p3 p4
       have y0:=fun u:Since wy => u.cell (HCY.out.cell (k:=0) rfl)
       have y1:=fun u:Since wy => u.cell (HCY.out.cell (k:=1) rfl)
       have y2:=fun u:Since wy => u.cell (HCY.out.cell (k:=2) rfl)
       have k3:=fun u:Since wy => u.cell (HCZ.out.cell (k:=3) rfl)
       have k4:=fun u:Since wy => u.cell p4y
       refine wp_region_only wy oz (by kernel_rfl) (by kernel_rfl) ?_
       repeat (go_big_quiet_step (first
        | (go_at_call 99;with_reducible refine Calls.only (C1.out _))
        | (go_at_call 99;with_reducible refine Calls.only (C2.out _))
        | (go_at_call 99;with_reducible refine Calls.only (C3.out _))
        | (go_at_call 119;refine Calls.only_same (C4.out _))))
       refine wpQuiet_nil ?_
       rintro ⟨w7,ho7⟩
       dsimp only
       have HO7:=Hd (HOY.out.tr ho7)
       have HC7:=Hd (HCZ.out.only ho7 (by simp))
       have HM7:Hid (N ++ x1 ++ x2 ++ x3 ++ x4 = M ++ (fdH (t.nm,t.fd) ++ psB (t.fd.ps.take (j + 1)))):=Hd (by rw [HSJ.out];simp only [List.append_assoc])
       clear y0 y1 y2 k3 k4 p4y C1 C2 C3 C4 ho7 HOY HCY HCZ
       go_wp2_with fail
       go_roundw
       case rel => exact ⟨j + 1,_,by omega,by go_num,rfl,HM7,HC7,HO7⟩
       case measure => simp [intOf];omega
     · have hd0:decide ((j:Int) < (t.fd.ps.length:Int)) = false:=by simp;omega
       obtain rfl:j = t.fd.ps.length:=by omega
       have HMK:Hid (N = L0 ++ fsB (pR (T.take (k + 1)))):=Hd (by rw [HSM.out,hN.out,List.take_length])
       have hwr:IntKind.i64.wrap ((k:Int) + 1) = (k:Int) + 1:=by rw [IntKind.wrap_i64];omega
       clear hN
       go_wp2_with fail
       go_roundw
       case rel => exact ⟨k + 1,N,by omega,by go_num,rfl,HMK,ho⟩
       case measure => simp [intOf];omega
  · have hd0:decide ((k:Int) < (T.length:Int)) = false:=by simp;omega
    obtain rfl:k = T.length:=by omega
    have HF:Hid (M = stB (pR T)):=Hd (by rw [hM.out,List.take_length];unfold stB;rw [pR_len,HL0.out])
    clear hX hM
    go_wp2_with fail
    go_ret
    exact ⟨by rw [← HF.out];rfl,ho.out⟩
def Rs (w:World) (b:Nat) (K:List Nat) (S:Sv):Prop:=∃ v T,RsX w b v T ∧ K = allR b v T ∧ S = pR T
def OpR (w w':World) (b:Nat) (K:List Nat) (S:Sv):Prop:=∃ K',Rs w' b K' S ∧ Only K w w' ∧ ∀ x ∈ K',x ∈ K ∨ w.heap.size ≤ x
theorem Rs.keep {X:List Nat} {w w':World} {b:Nat} {K:List Nat} {S:Sv} (h:Rs w b K S) (ho:Only X w w') (hX:∀ k ∈ K,k ∉ X):Rs w' b K S:=by
 obtain ⟨v,T,h1,rfl,rfl⟩:=h
 exact ⟨v,T,h1.keep ho hX,rfl,rfl⟩
theorem Rs.bw {w:World} {b:Nat} {K:List Nat} {S:Sv} (h:Rs w b K S):∀ x ∈ K,x < w.heap.size:=by
 obtain ⟨v,T,h,rfl,rfl⟩:=h
 exact h.lts
theorem OpX.opr {w w':World} {b:Nat} {v v':Value} {T T':List Rf} {S:Sv} (h:OpX w w' b v v' T T') (hS:pR T' = S):OpR w w' b (allR b v T) S:=⟨_,⟨v',T',h.st,rfl,hS.symm⟩,h.ho,h.new⟩
theorem OpR.pre {w0 w w':World} {b:Nat} {K:List Nat} {S:Sv} (h:OpR w w' b K S) (h0:Only [] w0 w):OpR w0 w' b K S:=by
 obtain ⟨K',h1,h2,h3⟩:=h
 exact ⟨K',h1,(h0.of0).trans h2 (fun x hx => .inl hx),fun x hx => (h3 x hx).imp id (fun h => Nat.le_trans h0.size h)⟩
theorem Rs.sorted {w:World} {b:Nat} {K:List Nat} {S:Sv} (h:Rs w b K S):S.Pairwise (fun a b => a.1 < b.1) ∧ S.length ≤ 20 ∧ ∀ x ∈ S,nmL x.1 = true:=by
 obtain ⟨v,T,h,rfl,rfl⟩:=h
 refine ⟨List.pairwise_map.2 h.srt,by rw [pR_len];exact h.cap,fun x hx => ?_⟩
 obtain ⟨t,ht,rfl⟩:=List.mem_map.1 hx
 exact h.nml t ht
theorem rs_empty (w:World):Rs (w.alloc (.cells #[.slice none 0 0] 128)) w.heap.size [w.heap.size] []:=
 ⟨.slice none 0 0,[],⟨Cells.new w _ _,World.ownsRow_nil _ _ _ _,by simp,by simp,List.Pairwise.nil,by simp,by simp,by simp⟩,by simp [allR,rb,Value.ownBlock],rfl⟩
theorem rr_sub (b:Nat) (K:List Nat) (S:Sv) (k:List UInt8) (hk:k.length ≤ maxLen) (w:World) (h:Rs w b K S):
 Calls Tryz.prog 171 #[.pointer (some ⟨b,0,none⟩),.string ⟨k.toArray⟩] w fun e w' => e = .returned (.int .i64 (subS S k).1) ∧ OpR w w' b K (subS S k).2:=by
 obtain ⟨v,T,h,rfl,rfl⟩:=h
 exact (rs_sub b v T k hk w h).mono fun e w' ⟨h1,v',T',h2,h3⟩ => ⟨h1,h2.opr h3⟩
theorem rr_un (b:Nat) (K:List Nat) (S:Sv) (k:List UInt8) (hk:k.length ≤ maxLen) (w:World) (h:Rs w b K S):
 Calls Tryz.prog 172 #[.pointer (some ⟨b,0,none⟩),.string ⟨k.toArray⟩] w fun e w' => e = .returned (.int .i64 (unS S k).1) ∧ OpR w w' b K (unS S k).2:=by
 obtain ⟨v,T,h,rfl,rfl⟩:=h
 exact (rs_unsub b v T k hk w h).mono fun e w' ⟨h1,v',T',h2,h3⟩ => ⟨h1,h2.opr h3⟩
theorem rr_fail (b:Nat) (K:List Nat) (S:Sv) (k:List UInt8) (hk:k.length ≤ maxLen) (now:Int) (w:World) (h:Rs w b K S):
 Calls Tryz.prog 168 #[.pointer (some ⟨b,0,none⟩),.string ⟨k.toArray⟩,.int .i64 now] w fun e w' => e = .returned (.int .i64 (failS S k now).1) ∧ OpR w w' b K (failS S k now).2:=by
 obtain ⟨v,T,h,rfl,rfl⟩:=h
 exact (rs_fail b v T k hk now w h).mono fun e w' ⟨h1,v',T',h2,h3⟩ => ⟨h1,h2.opr h3⟩
theorem rr_mark (b:Nat) (K:List Nat) (S:Sv) (k:List UInt8) (hk:k.length ≤ maxLen) (id:List UInt8) (w:World) (h:Rs w b K S):
 Calls Tryz.prog 173 #[.pointer (some ⟨b,0,none⟩),.string ⟨k.toArray⟩,.string ⟨id.toArray⟩] w fun e w' => e = .returned (.int .i64 (markS S k id).1) ∧ OpR w w' b K (markS S k id).2:=by
 obtain ⟨v,T,h,rfl,rfl⟩:=h
 exact (rs_mark b v T k hk id w h).mono fun e w' ⟨h1,v',T',h2,h3⟩ => ⟨h1,h2.opr h3⟩
theorem rr_ingest (b:Nat) (K:List Nat) (S:Sv) (k:List UInt8) (hk:k.length ≤ maxLen) (iv:Value) (l:List It) (now:Int) (w:World) (h:Rs w b K S) (hs:∀ w',Only K w w' → SlAt w' w'.heap.size iv 3 l.length (itL l)) (hl:l.length ≤ 1000000) (hx:∀ x ∈ l,x.Len):
 Calls Tryz.prog 169 #[.pointer (some ⟨b,0,none⟩),.string ⟨k.toArray⟩,iv,.int .i64 now] w fun e w' => e = .returned (.tuple #[.int .i64 (ingR S k l now).1,.int .i64 (ingR S k l now).2.1]) ∧ OpR w w' b K (ingR S k l now).2.2:=by
 obtain ⟨v,T,h,rfl,rfl⟩:=h
 exact (rs_ingest b v T k hk iv l now w h (fun w' ho => hs w' (ho.mono fun x hx => .inl (by
  unfold allR
  rcases List.mem_cons.1 hx with rfl | hx
  · simp
  · exact List.mem_cons_of_mem _ (List.mem_append_left _ hx)))) hl hx).mono fun e w' ⟨h1,v',T',h2,h3⟩ => ⟨h1,h2.opr h3⟩
theorem lsD_eq {S:Sv} (hI:SvI S) (k:List UInt8) (after:Int):lsD S k after = listS S k after:=by
 unfold lsD listS
 cases hf:fnd S k with
 | none => rfl
 | some f =>
  unfold lsR
  have:=lsR_pg (hI _ (fnd_mem hf)).ps after
  dsimp only at this ⊢
  rw [this]
theorem rr_list (b:Nat) (K:List Nat) (S:Sv) (k:List UInt8) (hk:k.length ≤ maxLen) (after:Int) (w:World) (h:Rs w b K S) (hI:SvI S):
 Calls Tryz.prog 94 #[.pointer (some ⟨b,0,none⟩),.string ⟨k.toArray⟩,.int .i64 after] w fun e w' => ∃ v',e = .returned (.tuple #[v',.int .i64 (listS S k after).2]) ∧ w'.ownsRow w.heap.size 101 5 v' (listS S k after).1.length (poL (listS S k after).1) ∧ Only [] w w':=by
 rw [← lsD_eq hI]
 obtain ⟨v,T,h,rfl,rfl⟩:=h
 exact rs_list b v T k hk after w h
theorem rr_pack (b:Nat) (K:List Nat) (S:Sv) (w:World) (h:Rs w b K S) (hI:SvI S):
 Calls Tryz.prog 102 #[.pointer (some ⟨b,0,none⟩)] w fun e w' => e = .returned (.string ⟨(stB S).toArray⟩) ∧ Only [] w w':=by
 obtain ⟨v,T,h,rfl,rfl⟩:=h
 exact rs_pack b v T w h (fun t ht => hI.sh (t.nm,t.fd) (List.mem_map.2 ⟨t,ht,rfl⟩))
structure At17 (w:World) (b:Nat) (n k:Nat) (x:List UInt8 × Fd):Prop where
 ex:∃ g c,w.cell? ⟨b,0,none⟩ = some (.slice (some ⟨g,0,none⟩) n c) ∧ w.cell? ⟨g,k * 4,none⟩ = some (.string ⟨x.1.toArray⟩) ∧ w.cell? ⟨g,k * 4 + 1,none⟩ = some (.int .i64 x.2.pol) ∧ w.cell? ⟨g,k * 4 + 2,none⟩ = some (.int .i64 x.2.fai)
theorem Rs.head {w:World} {b:Nat} {K:List Nat} {S:Sv} (h:Rs w b K S):∃ A c,w.cell? ⟨b,0,none⟩ = some (.slice A S.length c):=by
 obtain ⟨v,T,h,rfl,rfl⟩:=h
 obtain ⟨A,c,rfl⟩:=(SlAt.of_own h.row).shape
 exact ⟨A,c,by rw [pR_len];exact h.cells.cell (k:=0) rfl⟩
theorem Rs.at_ {w:World} {b:Nat} {K:List Nat} {S:Sv} (h:Rs w b K S) {k:Nat} {x:List UInt8 × Fd} (hx:S[k]? = some x):At17 w b S.length k x:=by
 obtain ⟨v,T,h,rfl,rfl⟩:=h
 unfold pR at hx
 rw [List.getElem?_map] at hx
 cases ht:T[k]? with
 | none => rw [ht] at hx;cases hx
 | some t =>
  rw [ht] at hx
  simp only [Option.map_some,Option.some.injEq] at hx
  subst hx
  obtain ⟨g,c,rfl,_,h0,h1,h2,_⟩:=h.at_ ht
  exact ⟨g,c,by rw [pR_len];exact h.cells.cell (k:=0) rfl,h0,h1,h2⟩
end Go.Proofs.YtcjfmildalappaaGreat
