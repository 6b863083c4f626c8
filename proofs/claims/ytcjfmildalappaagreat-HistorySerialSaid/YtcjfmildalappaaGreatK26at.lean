/-
  Contracts; each theorem bears its own conditions.
-/
import Derived.Test.YtcjfmildalappaaGreatK26ab
import Derived.Test.YtcjfmildalappaaGreatK26ap
import Derived.Test.YtcjfmildalappaaGreatK26aq
set_option linter.all false
set_option maxRecDepth 100000
set_option maxHeartbeats 8000000
namespace Go.Proofs.YtcjfmildalappaaGreat
open Go.RowKit
theorem codec_ints_w (l:List Int) (hl:l.length ≤ 100) (hw:∀ x ∈ l,Wide64 x) (n:Nat) (hn:l.length = n) (W:World) (b':Nat) (hC:Cells W b' 3 (gvs l)):
 Calls Tryz.prog 149 #[.slice (some ⟨b',0,none⟩) n n] W fun e w' => e = .returned (.string ⟨(isb l).toArray⟩) ∧ Only [] W w':=by
 subst hn
 exact codec_int (.slice (some ⟨b',0,none⟩) l.length l.length) l W (SlAt.cells (n:=l.length) (sz:=1) hC (by simp [gvs,ivs]) (by unfold maxLen;omega)) hw (by omega)
theorem codec_texts_w (l:List (List UInt8)) (hl:l.length ≤ 10) (hb:(tsb l).length ≤ 70368744177600) (n:Nat) (hn:l.length = n) (W:World) (b':Nat) (hC:Cells W b' 9 (svs l)):
 Calls Tryz.prog 75 #[.slice (some ⟨b',0,none⟩) n n] W fun e w' => e = .returned (.string ⟨(tsb l).toArray⟩) ∧ Only [] W w':=by
 subst hn
 exact codec_text (.slice (some ⟨b',0,none⟩) l.length l.length) l W (SlAt.cells (n:=l.length) (sz:=1) hC (by simp [svs]) (by unfold maxLen;omega)) (by omega) hb
theorem isbld_lt {T:TypeId} {B z:Nat} {l:List UInt8} {w:World} (h:IsBld T B z l w):z < w.heap.size:=by
 rcases h with h | h
 · obtain ⟨_,_,h,_⟩:=h;exact h.lt
 · obtain ⟨_,_,h,_⟩:=h;exact h.lt
def KpS (z:Nat) (w:World) (t:TypeId) (A:Option Addr) (xs:List Value):Prop:=xs = [] ∨ ∃ (g:Nat) (cs:List Value),A = some ⟨g,0,none⟩ ∧ Cells w g t cs ∧ g ≠ z ∧ ∀ (j:Nat) (u:Value),xs[j]? = some u → cs[j]? = some u
theorem KpS.keep {z:Nat} {w w':World} {t:TypeId} {A:Option Addr} {xs:List Value} (h:KpS z w t A xs) (hk:Keeps z w w') (ht:t ≠ 5):KpS z w' t A xs:=by
 rcases h with h | ⟨g,cs,h1,h2,h3,h4⟩
 · exact .inl h
 · exact .inr ⟨g,cs,h1,hk g t cs h3 ht h2,h3,h4⟩
theorem KpS.only {z:Nat} {w w':World} {t:TypeId} {A:Option Addr} {xs:List Value} (h:KpS z w t A xs) (ho:Only [] w w'):KpS z w' t A xs:=by
 rcases h with h | ⟨g,cs,h1,h2,h3,h4⟩
 · exact .inl h
 · exact .inr ⟨g,cs,h1,h2.only ho (by simp),h3,h4⟩
theorem KpS.of_own {z B n c:Nat} {w:World} {t T:TypeId} {A:Option Addr} {xs zc:List Value} (h:w.ownsRow B t 1 (.slice A n c) n xs) (hz:Cells w z T zc) (hne:t ≠ T):KpS z w t A xs:=by
 have hne2:=own_ne_block h hz hne
 obtain ⟨hl,h⟩:=h
 rcases h with ⟨hv,h0⟩ | ⟨g,cap,cur,hv,hb,hh,hnc,h1,hsz,hxs⟩
 · left;rw [h0] at hl;simpa using hl
 · injection hv with e1 _ e3
   subst e1
   refine .inr ⟨g,cur.toList,rfl,by simpa [Cells] using hh,fun e => hne2 (by simp [Value.ownBlock,e]),fun j u hu => ?_⟩
   rw [← hxs] at hu
   have hj:=(List.getElem?_eq_some_iff.1 hu).1
   rw [List.getElem?_take_of_lt (by rw [List.length_take] at hj;omega)] at hu
   exact hu
theorem KpS.at_ {z k:Nat} {w:World} {t:TypeId} {A:Option Addr} {xs:List Value} {u:Value} (h:KpS z w t A xs) (hk:xs[k]? = some u):∃ g,A = some ⟨g,0,none⟩ ∧ g < w.heap.size ∧ w.cell? ⟨g,k,none⟩ = some u:=by
 rcases h with h | ⟨g,cs,h1,h2,_,h4⟩
 · subst h;simp at hk
 · exact ⟨g,h1,h2.lt,h2.cell (h4 k u hk)⟩
theorem fT_of {T:List Pl} (hs:T.Pairwise (fun a b => a.nm < b.nm)) {t:Pl} (ht:t ∈ T):fT T t.nm = some t:=by
 cases hf:fT T t.nm with
 | none => have:=List.find?_eq_none.1 hf t ht;simp at this
 | some u =>
  obtain ⟨h1,h2⟩:=fT_mem hf
  rw [nm_one hs h1 ht h2]
theorem store_pack (b mb:Nat) (T:List Pl) (w:World) (h:StX w b mb T) (hsh:∀ t ∈ T,t.fd.Sh):
 Calls Tryz.prog 78 #[.pointer (some ⟨b,0,none⟩)] w fun e w' => e = .returned (.string ⟨(stB (T.map fun t => (t.nm,t.fd))).toArray⟩) ∧ Only [] w w':=by
 have H:=Hd h
 have HSH:=Hd hsh
 have hcap:=h.cap
 have CF:=Hd (fun w' (ho:Only [] w w') => store_feeds b mb T w' (h.keep ho (by simp)))
 have hln:=(ib_length (T.length:Int) ⟨by omega,by omega⟩).2
 have CI:Hid (∀ W b',Cells W b' 3 [.int .i64 T.length] → Calls Tryz.prog 149 #[.slice (some ⟨b',0,none⟩) 1 1] W fun e w' => e = .returned (.string ⟨(ib T.length).toArray⟩) ∧ Only [] W w'):=Hd (by
  intro W b' hC
  have:=codec_ints_w [(T.length:Int)] (by simp) (by intro x hx;simp at hx;subst hx;exact ⟨by omega,by omega⟩) 1 rfl W b' hC
  simpa [isb] using this)
 obtain ⟨W0,hW0⟩:∃ W0,w.alloc (.cells #[.pointer none,.slice none 0 0] 209) = W0:=⟨_,rfl⟩
 obtain ⟨z,hz⟩:∃ z,w.heap.size = z:=⟨_,rfl⟩
 have HZ:=Hd hz
 have O0:Only [] w W0:=hW0 ▸ oz.alloc _
 have HBl:Hid (Bld 209 z z (.pointer none) [] W0):=Hd (hW0 ▸ hz ▸ Bld.new 209 w)
 have hz0:z < W0.heap.size:=isbld_lt (.inl HBl.out)
 have HO0:=Hd O0
 have c0:=(h.cells.only O0 (by simp)).cell (k:=0) rfl
 have hlen:=fun ty => (h.map.only O0 (by simp)).len (t:=182) (e:=191) Tryz.underlying182 ty
 clear h hsh O0
 go_enter Tryz.func78,Tryz.ntmps78
 go_wp2_with fail
 have HW1:Hid (Cells (W0.alloc (.cells #[.int .i64 T.length] 3)) W0.heap.size 3 [.int .i64 T.length]):=Hd (Cells.new W0 _ _)
 obtain ⟨W1,hW1⟩:∃ W1,W0.alloc (.cells #[.int .i64 T.length] 3) = W1:=⟨_,rfl⟩
 have O1:Only [] W0 W1:=hW1 ▸ oz.alloc _
 rw [hW1] at HW1 ⊢
 have HO1:=Hd (HO0.out.tr O1)
 have HB1:Hid (IsBld 209 z z [] W1):=Hd (IsBld.only (.inl HBl.out) O1)
 clear O1 hW1 c0 hlen HBl
 refine (CI.out _ _ HW1.out).mono ?_
 rintro e w1 ⟨rfl,ho1⟩
 have HB2:=Hd (HB1.out.only ho1)
 have HO2:=Hd (HO1.out.tr ho1)
 obtain ⟨L0,hL0⟩:∃ L,ib T.length = L:=⟨_,rfl⟩
 have HL0:=Hd hL0
 rw [hL0] at hln ⊢
 clear ho1 HB1 HO1 HW1 CI hL0
 go_wp2_with fail
 refine (writeString_k _ holds_builder z z [] L0 w1 HB2.out (by simp;omega) (by have:=HO2.out.size;have:=HZ.out;omega)).mono ?_
 rintro e w2 ⟨rfl,hb2,hbe2,_⟩
 have HO3:Hid (Only [] w w2):=Hd (HO2.out.past_below HZ.out hbe2)
 have HB3:Hid (Bld 209 z z (.pointer (some ⟨z,0,none⟩)) L0 w2):=Hd (by simpa using hb2)
 have CF2:=Hd (CF.out w2 HO3.out)
 clear hb2 hbe2 HO2 HB2 CF hW0 hz
 go_wp2_with fail
 refine CF2.out.mono ?_
 rintro e w3 ⟨v,rfl,hown,ho3⟩
 obtain ⟨A,c,rfl⟩:=(SlAt.of_own hown).shape
 have HO4:=Hd (HO3.out.tr ho3)
 have hb4:=HB3.out.only ho3
 have HB4:Hid (IsBld 209 z z (L0 ++ fsB ((T.take 0).map fun t => (t.nm,t.fd))) w3):=Hd (by simp [fsB];exact .inr hb4)
 have HK4:Hid (KpS z w3 9 A (svs (T.map Pl.nm))):=Hd (by
  obtain ⟨_,_,hc,_,_⟩:=hb4
  exact KpS.of_own hown hc (by decide))
 clear hown ho3 hb4 CF2 HB3 HO3
 go_wp2_with fail
 go_loopw [20] (fun i wr => ∃ k:Nat,k ≤ T.length ∧ i = .int .i64 k ∧ Hid (IsBld 209 z z (L0 ++ fsB ((T.take k).map fun t => (t.nm,t.fd))) wr) ∧ Hid (KpS z wr 9 A (svs (T.map Pl.nm))) ∧ Hid (Only [] w wr)) (fun i _ => T.length - (intOf i).toNat)
 case atStart => exact ⟨0,by omega,rfl,HB4,HK4,HO4⟩
 case round =>
  obtain ⟨k,hk,rfl,hb,hks,ho⟩:=hrel
  by_cases hlt:k < T.length
  · have hlt':(k:Int) < (T.length:Int):=by omega
    obtain ⟨t,ht⟩:∃ t,T[k]? = some t:=⟨_,List.getElem?_eq_getElem hlt⟩
    have htm:=List.mem_of_getElem? ht
    obtain ⟨g,hA,hg,hcn⟩:=hks.out.at_ (k:=k) (u:=.string ⟨t.nm.toArray⟩) (by unfold svs;rw [List.getElem?_map,List.getElem?_map,ht];rfl)
    subst hA
    have hX:=H.out.keep ho.out (by simp)
    have hfT:=fT_of H.out.srt htm
    have hlk:=hX.map.look (t:=182) (e:=191) (z:=.pointer none) Tryz.underlying182 (Tryz.zeroValue191 wr) t.nm (by have:=(nmL_len (H.out.nml t htm)).2;unfold maxLen;omega)
    rw [show (ptT T t.nm) = some (.pointer (some ⟨t.p,0,none⟩)) from by unfold ptT;rw [hfT];rfl] at hlk
    have cb:=hX.cells.cell (k:=0) rfl
    have hfd:=hX.fds t htm
    have hsh:=HSH.out t htm
    have f0:=hfd.cells.cell (k:=0) rfl
    have f1:=hfd.cells.cell (k:=1) rfl
    have f2:=hfd.cells.cell (k:=2) rfl
    obtain ⟨A2,c2,hv2⟩:=(SlAt.of_own hfd.row).shape
    rw [hv2] at f2
    have HV2:=Hd hv2
    have HRow:Hid (SlAt w w.heap.size (.slice A2 t.fd.ps.length c2) 5 t.fd.ps.length (poL t.fd.ps)):=Hd (hv2 ▸ SlAt.of_own (H.out.fds t htm).row)
    have htp:t.p < wr.heap.size:=hfd.cells.lt
    have hnm:=(nmL_len (H.out.nml t htm)).2
    have hfh:=fdH_le (t.nm,t.fd) (by show t.nm.length ≤ 1000;omega) hsh
    have hpl:=psB_le t.fd.ps hsh.cap hsh.its
    have hps:=fun j => psB_le (t.fd.ps.take j) (by rw [List.length_take];have:=hsh.cap;omega) (fun p hp => hsh.its p (List.mem_of_mem_take hp))
    have hns:=hsh.cap
    have hfs:=fsB_le ((T.take k).map fun t => (t.nm,t.fd)) (by rw [List.length_map,List.length_take];omega) (by
     intro x hx
     obtain ⟨t',ht',rfl⟩:=List.mem_map.1 hx
     have hm:=List.mem_of_mem_take ht'
     have:=(nmL_len (H.out.nml t' hm)).2
     exact ⟨by show t'.nm.length ≤ 1000;omega,HSH.out t' hm⟩)
    have HSN:Hid (fsB ((T.take (k + 1)).map fun t => (t.nm,t.fd)) = fsB ((T.take k).map fun t => (t.nm,t.fd)) ++ fdB (t.nm,t.fd)):=Hd (by
     unfold fsB
     rw [List.take_add_one,ht,List.map_append,List.flatMap_append];simp)
    obtain ⟨M,hM⟩:∃ M,L0 ++ fsB ((T.take k).map fun t => (t.nm,t.fd)) = M:=⟨_,rfl⟩
    have hMl:M.length ≤ 13000000000:=by rw [← hM,List.length_append];omega
    have HSM:Hid (L0 ++ fsB ((T.take (k + 1)).map fun t => (t.nm,t.fd)) = M ++ (fdH (t.nm,t.fd) ++ psB t.fd.ps)):=Hd (by rw [HSN.out,← List.append_assoc,hM];rfl)
    rw [hM] at hb
    obtain ⟨tT,hT⟩:∃ x,tb t.nm = x:=⟨_,rfl⟩
    obtain ⟨tI,hI⟩:∃ x,isb [t.fd.pol,t.fd.fai,(t.fd.ps.length:Int)] = x:=⟨_,rfl⟩
    have HFH:Hid (fdH (t.nm,t.fd) = tT ++ tI):=Hd (by rw [← hT,← hI];rfl)
    have CT:Hid (∀ W b',Cells W b' 9 [.string ⟨t.nm.toArray⟩] → Calls Tryz.prog 75 #[.slice (some ⟨b',0,none⟩) 1 1] W fun e w' => e = .returned (.string ⟨tT.toArray⟩) ∧ Only [] W w'):=Hd (by
     intro W b' hC
     have:=codec_texts_w [t.nm] (by simp) (by have:=tb_top t.nm 1000 (by omega) (by omega);simp [tsb];omega) 1 rfl W b' hC
     rw [← hT]
     simpa [tsb] using this)
    have CJ:Hid (∀ W b',Cells W b' 3 [.int .i64 t.fd.pol,.int .i64 t.fd.fai,.int .i64 t.fd.ps.length] → Calls Tryz.prog 149 #[.slice (some ⟨b',0,none⟩) 3 3] W fun e w' => e = .returned (.string ⟨tI.toArray⟩) ∧ Only [] W w'):=Hd (by
     intro W b' hC
     have:=codec_ints_w [t.fd.pol,t.fd.fai,(t.fd.ps.length:Int)] (by simp) hsh.ws 3 rfl W b' hC
     rw [← hI]
     exact this)
    have hTI:(tT ++ tI).length ≤ 1040:=by rw [← HFH.out];exact hfh
    rw [List.length_append] at hTI
    have HSHT:=Hd hsh.its
    clear hM hT hI HSN hfs hfh hsh hfd hv2 hX hfT
    go_upto_region 7 with fail
    clear hlk cb hcn
    have t0:∀ u:Since wr,u.w.cell? ⟨t.p,0,none⟩ = some (.int .i64 t.fd.pol):=fun u => u.cell f0
    have t1:∀ u:Since wr,u.w.cell? ⟨t.p,1,none⟩ = some (.int .i64 t.fd.fai):=fun u => u.cell f1
    have t2:∀ u:Since wr,u.w.cell? ⟨t.p,2,none⟩ = some (.slice A2 t.fd.ps.length c2):=fun u => u.cell f2
    refine wp_region_pendN wr oz [(31,SlW wr.heap.size 9 [.string ⟨t.nm.toArray⟩] 1),(46,SlW wr.heap.size 3 [.int .i64 t.fd.pol,.int .i64 t.fd.fai,.int .i64 t.fd.ps.length] 3)] [] 19 (by intro p hp;simp at hp;rcases hp with rfl | rfl <;> exact SlW.lasts _ _ _ _) (by kernel_rfl) (by kernel_rfl) (by decide) (fun val => ?_)
    simp only [tk1,tk0,dr1,dr0]
    refine fit_segN 1 (by kernel_rfl) ?_
    simp only [tk1,tk0,dr1,dr0]
    repeat (go_big_quiet_step (fail))
    refine wpQuiet_nil ?_
    refine fit_lit 31 9 [.string ⟨t.nm.toArray⟩] 1 rfl rfl (by simp) (by simp) (fun w5 => by go_simp) rfl ?_
    simp only [Act.put,sia,sc0,sc1]
    refine fit_call1 (.string ⟨tT.toArray⟩) 75 31 9 [.string ⟨t.nm.toArray⟩] 1 (by simp) (by decide) rfl (by simp) (fun w5 => by go_simp) rfl (by kernel_rfl) (fun w5 b5 _ h5 => CT.out w5 b5 h5) ?_
    simp only [Act.put,sia,sc0,sc1]
    refine fit_segN 13 (by kernel_rfl) ?_
    simp only [tk1,tk0,dr1,dr0]
    repeat (go_big_quiet_step (fail))
    refine wpQuiet_nil ?_
    refine fit_lit 46 3 [.int .i64 t.fd.pol,.int .i64 t.fd.fai,.int .i64 t.fd.ps.length] 3 rfl rfl (by simp) (by simp) (fun w5 => by go_simp) rfl ?_
    simp only [Act.put,sia,sc0,sc1]
    refine fit_call1 (.string ⟨tI.toArray⟩) 149 46 3 [.int .i64 t.fd.pol,.int .i64 t.fd.fai,.int .i64 t.fd.ps.length] 3 (by simp) (by decide) rfl (by simp) (fun w5 => by go_simp) rfl (by kernel_rfl) (fun w5 b5 _ h5 => CJ.out w5 b5 h5) ?_
    simp only [Act.put,sia,sc0,sc1]
    refine fit_segN 1 (by kernel_rfl) ?_
    simp only [tk1,tk0,dr1,dr0]
    repeat (go_big_quiet_step (fail))
    refine wpQuiet_nil ?_
    intro w5 ho5 _
    have HB5:=Hd (hb.out.only ho5)
    have HO5:=Hd (ho.out.tr ho5)
    have HK5:=Hd (hks.out.only ho5)
    clear t0 t1 t2 f0 f1 f2 CT CJ ho5 hb ho hks
    go_wp2_with fail
    refine (writeString_k _ holds_builder z z M (tT ++ tI) w5 HB5.out (by rw [List.length_append];omega) (by have:=HO5.out.size;have:=HZ.out;omega)).mono ?_
    rintro e w6 ⟨rfl,hb6,hbe6,hk6⟩
    have HO6:Hid (Only [] w w6):=Hd (HO5.out.past_below HZ.out hbe6)
    have HB6:Hid (IsBld 209 z z (M ++ (fdH (t.nm,t.fd) ++ psB (t.fd.ps.take 0))) w6):=Hd (by rw [HFH.out];exact .inr (by simpa [psB] using hb6))
    have HK6:=Hd (HK5.out.keep hk6 (by decide))
    have f2:=((H.out.keep HO6.out (by simp)).fds t htm).cells.cell (k:=2) rfl
    clear hb6 hbe6 hk6 HB5 HO5 HK5
    rw [HV2.out] at f2
    go_upto_region 9 with fail
    clear f2
    go_loopw [55] (fun i wr => ∃ j:Nat,j ≤ t.fd.ps.length ∧ i = .int .i64 j ∧ Hid (IsBld 209 z z (M ++ (fdH (t.nm,t.fd) ++ psB (t.fd.ps.take j))) wr) ∧ Hid (KpS z wr 9 (some ⟨g,0,none⟩) (svs (T.map Pl.nm))) ∧ Hid (Only [] w wr)) (fun i _ => t.fd.ps.length - (intOf i).toNat)
    case atStart => exact ⟨0,by omega,rfl,HB6,HK6,HO6⟩
    case round =>
     obtain ⟨wo,rfl⟩:∃ wo,wo = wr:=⟨_,rfl⟩
     obtain ⟨j,hj,rfl,hb,hks,ho⟩:=hrel
     by_cases hjl:j < t.fd.ps.length
     · have hjl':(j:Int) < (t.fd.ps.length:Int):=by omega
       obtain ⟨x,hx⟩:∃ x,t.fd.ps[j]? = some x:=⟨_,List.getElem?_eq_getElem hjl⟩
       obtain ⟨b1,o1,c1',g1,p0,p1,p2,p3,p4⟩:=poL_at (HRow.out.only ho.out (Nat.le_refl _) (by simp)) rfl hx
       injection g1 with i1 i2 i3
       subst i1;subst i3
       have hxs:=HSHT.out x (List.mem_of_getElem? hx)
       have hxl:=spB_le x hxs
       have hpj:=hps j
       have HSJ:Hid (M ++ (fdH (t.nm,t.fd) ++ psB (t.fd.ps.take (j + 1))) = M ++ (fdH (t.nm,t.fd) ++ psB (t.fd.ps.take j)) ++ (itT x.it ++ bb x.rd)):=Hd (by
        have:psB (t.fd.ps.take (j + 1)) = psB (t.fd.ps.take j) ++ spB x:=flat_snoc spB t.fd.ps j x hx
        rw [this,List.append_assoc,List.append_assoc];rfl)
       obtain ⟨L,hL⟩:∃ L,M ++ (fdH (t.nm,t.fd) ++ psB (t.fd.ps.take j)) = L:=⟨_,rfl⟩
       have hLl:L.length ≤ 14000000000:=by
        rw [← hL,HFH.out]
        simp only [List.length_append]
        omega
       rw [hL] at hb HSJ
       have hil:=itT_le x.it hxs
       have hTS:tsb [x.it.id,x.it.ti,x.it.li] = itT x.it:=by unfold tsb itT;simp
       obtain ⟨tX,hX⟩:∃ y,itT x.it = y:=⟨_,rfl⟩
       obtain ⟨tB,hB⟩:∃ y,bb x.rd = y:=⟨_,rfl⟩
       have hBl:tB.length = 1:=by rw [← hB];rfl
       rw [hX] at hTS hil HSJ
       rw [hB] at HSJ
       have CT:Hid (∀ W b',Cells W b' 9 [.string ⟨x.it.id.toArray⟩,.string ⟨x.it.ti.toArray⟩,.string ⟨x.it.li.toArray⟩] → Calls Tryz.prog 75 #[.slice (some ⟨b',0,none⟩) 3 3] W fun e w' => e = .returned (.string ⟨tX.toArray⟩) ∧ Only [] W w'):=Hd (by
        intro W b' hC
        have:=codec_texts_w [x.it.id,x.it.ti,x.it.li] (by simp) (by rw [hTS];omega) 3 rfl W b' hC
        rw [hTS] at this
        exact this)
       have CB:Hid (∀ W,Calls Tryz.prog 150 #[.bool x.rd] W fun e w' => e = .returned (.string ⟨tB.toArray⟩) ∧ W = w'):=Hd (fun W => by have:=codec_bool x.rd W;rw [hB] at this;exact this)
       obtain ⟨wx,hwx⟩:∃ wx,wo.alloc (.cells #[.int .i64 x.sq,.string ⟨x.it.id.toArray⟩,.string ⟨x.it.ti.toArray⟩,.string ⟨x.it.li.toArray⟩,.bool x.rd] 101) = wx:=⟨_,rfl⟩
       obtain ⟨bx,hbx⟩:∃ b,wo.heap.size = b:=⟨_,rfl⟩
       have OX:Only [] wo wx:=hwx ▸ oz.alloc _
       have hCX:Cells wx bx 101 x.cells:=hwx ▸ hbx ▸ Cells.new wo _ _
       have HBX:=Hd (hb.out.only OX)
       have HOX:=Hd (ho.out.tr OX)
       have HKX:=Hd (hks.out.only OX)
       have HCX:=Hd hCX
       clear i2 hx hxs hxl hpj hL hX hB hTS OX hCX hb ho hks
       go_upto_region 11 with fail
       clear hwx hbx p0 p1 p2 p3 p4
       have t1:=fun u:Since wx => u.cell (HCX.out.cell (k:=1) rfl)
       have t2:=fun u:Since wx => u.cell (HCX.out.cell (k:=2) rfl)
       have t3:=fun u:Since wx => u.cell (HCX.out.cell (k:=3) rfl)
       have t4:=fun u:Since wx => u.cell (HCX.out.cell (k:=4) rfl)
       refine wp_region_pendN wx oz [(68,SlW wx.heap.size 9 [.string ⟨x.it.id.toArray⟩,.string ⟨x.it.ti.toArray⟩,.string ⟨x.it.li.toArray⟩] 3)] [] 15 (by intro p hp;simp at hp;rcases hp with rfl;exact SlW.lasts _ _ _ _) (by kernel_rfl) (by kernel_rfl) (by decide) (fun val2 => ?_)
       simp only [tk1,tk0,dr1,dr0]
       refine fit_segN 9 (by kernel_rfl) ?_
       simp only [tk1,tk0,dr1,dr0]
       repeat (go_big_quiet_step (fail))
       refine wpQuiet_nil ?_
       refine fit_lit 68 9 [.string ⟨x.it.id.toArray⟩,.string ⟨x.it.ti.toArray⟩,.string ⟨x.it.li.toArray⟩] 3 rfl rfl (by simp) (by simp) (fun w5 => by go_simp) rfl ?_
       simp only [Act.put,sia,sc0,sc1]
       refine fit_call1 (.string ⟨tX.toArray⟩) 75 68 9 [.string ⟨x.it.id.toArray⟩,.string ⟨x.it.ti.toArray⟩,.string ⟨x.it.li.toArray⟩] 3 (by simp) (by decide) rfl (by simp) (fun w5 => by go_simp) rfl (by kernel_rfl) (fun w5 b5 _ h5 => CT.out w5 b5 h5) ?_
       simp only [Act.put,sia,sc0,sc1]
       refine fit_segN 2 (by kernel_rfl) ?_
       simp only [tk1,tk0,dr1,dr0]
       repeat (go_big_quiet_step (fail))
       refine wpQuiet_nil ?_
       refine fit_call (.string ⟨tB.toArray⟩) 150 #[.bool x.rd] rfl (by simp) (fun w5 => by go_simp) rfl (by kernel_rfl) (fun w5 hw5 => (CB.out w5).mono fun e w' ⟨h1,h2⟩ => ⟨h1,h2 ▸ Only.refl _ _⟩) ?_
       simp only [Act.put,sia,sc0,sc1]
       refine fit_segN 1 (by kernel_rfl) ?_
       simp only [tk1,tk0,dr1,dr0]
       repeat (go_big_quiet_step (fail))
       refine wpQuiet_nil ?_
       intro w7 ho7 _
       have HB7:=Hd (HBX.out.only ho7)
       have HO7:=Hd (HOX.out.tr ho7)
       have HK7:=Hd (HKX.out.only ho7)
       clear t1 t2 t3 t4 CT CB ho7 HBX HOX HKX HCX
       go_wp2_with fail
       refine (writeString_k _ holds_builder z z L (tX ++ tB) w7 HB7.out (by rw [List.length_append];omega) (by have:=HO7.out.size;have:=HZ.out;omega)).mono ?_
       rintro e w8 ⟨rfl,hb8,hbe8,hk8⟩
       have HO8:Hid (Only [] w w8):=Hd (HO7.out.past_below HZ.out hbe8)
       have HB8:Hid (IsBld 209 z z (M ++ (fdH (t.nm,t.fd) ++ psB (t.fd.ps.take (j + 1)))) w8):=Hd (by rw [HSJ.out];exact .inr hb8)
       have HK8:=Hd (HK7.out.keep hk8 (by decide))
       clear hb8 hbe8 hk8 HB7 HO7 HK7
       go_wp2_with fail
       go_roundw
       case rel => exact ⟨j + 1,by omega,by go_num,HB8,HK8,HO8⟩
       case measure => simp [intOf];omega
     · have hd0:decide ((j:Int) < (t.fd.ps.length:Int)) = false:=by simp;omega
       obtain rfl:j = t.fd.ps.length:=by omega
       rw [List.take_length] at hb
       have HB9:Hid (IsBld 209 z z (L0 ++ fsB ((T.take (k + 1)).map fun t => (t.nm,t.fd))) wo):=Hd (by rw [HSM.out];exact hb.out)
       clear hb
       go_wp2_with fail
       go_roundw
       case rel => exact ⟨k + 1,by omega,by go_num,HB9,hks,ho⟩
       case measure => simp [intOf];omega
  · have hd0:decide ((k:Int) < (T.length:Int)) = false:=by simp;omega
    obtain rfl:k = T.length:=by omega
    rw [List.take_length] at hb
    have HSt:=Hd (builder_string_any _ _ _ _ _ hb.out)
    clear hb
    go_wp2_with fail
    refine HSt.out.mono ?_
    rintro e w3 ⟨rfl,hbe3⟩
    have HOF:Hid (Only [] w w3):=Hd (ho.out.past_below HZ.out hbe3)
    clear hbe3
    go_wp2_with fail
    go_ret
    exact ⟨by rw [← HL0.out];simp [stB],HOF.out⟩
theorem st_pack (b:Nat) (O:List Nat) (S:Sv) (w:World) (h:St w b O S) (hsh:∀ x ∈ S,x.2.Sh):
 Calls Tryz.prog 78 #[.pointer (some ⟨b,0,none⟩)] w fun e w' => e = .returned (.string ⟨(stB S).toArray⟩) ∧ Only [] w w':=by
 obtain ⟨mb,T,h,rfl,rfl⟩:=h
 exact store_pack b mb T w h (fun t ht => hsh (t.nm,t.fd) (List.mem_map.2 ⟨t,ht,rfl⟩))
end Go.Proofs.YtcjfmildalappaaGreat
