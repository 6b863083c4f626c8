/-
  Contracts; each theorem bears its own conditions.
-/
import Derived.Test.YtcjfmildalappaaGreatK26ad
import Derived.Test.YtcjfmildalappaaGreatK26ak
set_option linter.all false
set_option maxRecDepth 100000
set_option maxHeartbeats 8000000
namespace Go.Proofs.YtcjfmildalappaaGreat
open Go.RowKit
def Cm.zero:Cm:=⟨0,0,0,0,0,0,0,[],[],[],false⟩
def UnCW (s:List UInt8) (w:World) (e:Ending) (w':World):Prop:=
 ∃ iv,e = .returned (.tuple #[((unC s).getD Cm.zero).val iv,.int .i64 (if (unC s).isSome = true then 0 else 8)]) ∧ CmAt w' iv ((unC s).getD Cm.zero) ∧ Only [] w w' ∧ ∀ g,iv.ownBlock = some g → w.heap.size ≤ g
theorem cm_zero_at (w:World):CmAt w (.slice none 0 0) Cm.zero:=⟨SlAt.of_own (World.ownsRow_nil w 0 99 3),by simp [Cm.zero],by simp [Cm.zero],by simp [Cm.zero],by
 intro x hx
 simp only [Cm.zero,List.mem_cons,List.not_mem_nil,or_false] at hx
 rcases hx with rfl | rfl | rfl | rfl | rfl | rfl | rfl <;> exact ⟨by omega,by omega⟩⟩
theorem pt7_get (y k:Nat) (hk:k < 7):([.pointer (some ⟨y,0,none⟩),.pointer (some ⟨y,1,none⟩),.pointer (some ⟨y,2,none⟩),.pointer (some ⟨y,3,none⟩),.pointer (some ⟨y,4,none⟩),.pointer (some ⟨y,5,none⟩),.pointer (some ⟨y,6,none⟩)]:List Value)[k]? = some (.pointer (some ⟨y,k,none⟩)):=by
 have hk:k = 0 ∨ k = 1 ∨ k = 2 ∨ k = 3 ∨ k = 4 ∨ k = 5 ∨ k = 6:=by omega
 rcases hk with rfl | rfl | rfl | rfl | rfl | rfl | rfl <;> rfl
theorem itL_append (l r:List It):itL (l ++ r) = itL l ++ itL r:=by unfold itL;rw [List.flatMap_append]
theorem info_item:(Tryz.prog.info? 99).map (fun i => (i.zero,i.size,i.bytes)) = some (some (.agg #[.string ⟨#[]⟩,.string ⟨#[]⟩,.string ⟨#[]⟩]),3,48):=by kernel_rfl
theorem unC_many (s:List UInt8) (mv:Int) (mq ri re:Rd) (its:List It) (fl:Bool) (n0 n1 n2 n3 n4 n5 n6:Int) (hm:(cG s).many = (mv,mq)) (hi:mq.items mv.toNat = (its,ri)) (hb:ri.bool = (fl,re)) (hn:Rd.ints ⟨s,false⟩ 7 = [n0,n1,n2,n3,n4,n5,n6]):
 unC s = if re.bad = false ∧ re.s = [] ∧ rightB ⟨n0,n1,n2,n3,n4,n5,n6,(c7 s).text.1,(cF s).text.1,its,fl⟩ = true then some ⟨n0,n1,n2,n3,n4,n5,n6,(c7 s).text.1,(cF s).text.1,its,fl⟩ else none:=by
 have g:=fun j (hj:j < 7) => nth_of (k:=7) hn j hj
 have g0:=g 0 (by omega);have g1:=g 1 (by omega);have g2:=g 2 (by omega);have g3:=g 3 (by omega);have g4:=g 4 (by omega);have g5:=g 5 (by omega);have g6:=g 6 (by omega)
 simp only [List.getElem?_cons_zero,List.getElem?_cons_succ,Option.some.injEq] at g0 g1 g2 g3 g4 g5 g6
 have hcm:(cG s).int = (cN s,cM s):=by unfold cN cM;exact (Prod.eta _).symm
 unfold Rd.many at hm
 rw [hcm] at hm
 dsimp only at hm
 split at hm
 · rename_i hbad
   simp only [Prod.mk.injEq] at hm
   obtain ⟨rfl,rfl⟩:=hm
   have hrb:re.bad = true:=by
    have h1:=items_bad (r:=⟨(cM s).s,true⟩) rfl (0:Int).toNat
    rw [hi] at h1
    have h2:ri.bool.2.bad = true:=get_bad h1
    rw [hb] at h2
    exact h2
   rw [if_neg (by rw [hrb];simp)]
   unfold unC
   rw [if_neg]
   rintro ⟨h0,h1,h2,h3⟩
   unfold cE at h2
   obtain ⟨b1,_⟩:=bool_in (r:=(cI s (cN s).toNat).2) h2
   have b2:(cM s).bad = false:=by
    cases hb':(cM s).bad with
    | false => rfl
    | true =>
     have:=items_bad hb' (cN s).toNat
     unfold cI at b1
     rw [b1] at this
     cases this
   have hl:=(lenB_iff.1 (rightB_iff.1 h1).2.1).2.2
   have hlen:(cC s (cN s).toNat).its.length = (cN s).toNat:=by unfold cC cI;dsimp only;exact items_length (cM s) (cN s).toNat
   rw [hlen] at hl
   rcases hbad with hbad | hbad | hbad
   · rw [b2] at hbad;cases hbad
   · omega
   · omega
 · rename_i hbad
   simp only [Prod.mk.injEq] at hm
   obtain ⟨rfl,rfl⟩:=hm
   have e1:cI s (cN s).toNat = (its,ri):=by unfold cI;exact hi
   have e2:cE s (cN s).toNat = re:=by unfold cE;rw [e1];dsimp only;rw [hb]
   have e3:cC s (cN s).toNat = ⟨n0,n1,n2,n3,n4,n5,n6,(c7 s).text.1,(cF s).text.1,its,fl⟩:=by
    unfold cC
    rw [g0,g1,g2,g3,g4,g5,g6,e1]
    dsimp only
    rw [hb]
   have h0:0 ≤ cN s:=by
    rcases Int.lt_or_le (cN s) 0 with h | h
    · exact absurd (.inr (.inl h)) hbad
    · exact h
   unfold unC
   rw [e2,e3]
   by_cases hc:re.bad = false ∧ re.s = [] ∧ rightB ⟨n0,n1,n2,n3,n4,n5,n6,(c7 s).text.1,(cF s).text.1,its,fl⟩ = true
   · rw [if_pos hc,if_pos ⟨h0,hc.2.2,hc.1,hc.2.1⟩]
   · rw [if_neg hc,if_neg (fun h => hc ⟨h.2.2.1,h.2.2.2,h.2.1⟩)]
theorem many_le (r:Rd):0 ≤ r.many.1 ∧ r.many.1 ≤ 100:=by
 unfold Rd.many
 split
 · exact ⟨Int.le_refl 0,by show (0:Int) ≤ 100;omega⟩
 · rename_i h
   constructor
   · rcases Int.lt_or_le r.int.1 0 with h1 | h1
     · exact absurd (.inr (.inl h1)) h
     · exact h1
   · rcases Int.lt_or_le 100 r.int.1 with h1 | h1
     · exact absurd (.inr (.inr h1)) h
     · exact h1
theorem many_len {r:Rd} {n:Nat} (h:r.s.length ≤ n):r.many.2.s.length ≤ n:=by
 unfold Rd.many
 split
 · exact int_len h
 · exact int_len h
theorem cmd_unpack (s:List UInt8) (w:World) (hl:s.length ≤ 1000000000000):
 Calls Tryz.prog 84 #[.string ⟨s.toArray⟩] w (UnCW s w):=by
 obtain ⟨i0,hi0,hz0,hz1,hz2⟩:=info_parts info_item
 obtain ⟨w1,hw1⟩:∃ w1,w.alloc (.cells #[.int .i64 0,.int .i64 0,.int .i64 0,.int .i64 0,.int .i64 0,.int .i64 0,.int .i64 0,.string ⟨#[]⟩,.string ⟨#[]⟩,.slice none 0 0,.bool false] 38) = w1:=⟨_,rfl⟩
 obtain ⟨w2,hw2⟩:∃ w2,w1.alloc (.cells #[.string ⟨s.toArray⟩,.bool false] 225) = w2:=⟨_,rfl⟩
 obtain ⟨w3,hw3⟩:∃ w3,w2.alloc (.cells #[.int .i64 0,.int .i64 0,.int .i64 0,.int .i64 0,.int .i64 0,.int .i64 0,.int .i64 0,.string ⟨#[]⟩,.string ⟨#[]⟩,.slice none 0 0,.bool false] 38) = w3:=⟨_,rfl⟩
 obtain ⟨R,hR⟩:∃ R,w.heap.size = R:=⟨_,rfl⟩
 obtain ⟨z,hz⟩:∃ R,w1.heap.size = R:=⟨_,rfl⟩
 obtain ⟨y,hy⟩:∃ R,w2.heap.size = R:=⟨_,rfl⟩
 have O1:Only [] w w1:=hw1 ▸ oz.alloc _
 have O2:Only [] w1 w2:=hw2 ▸ oz.alloc _
 have O3:Only [] w2 w3:=hw3 ▸ oz.alloc _
 have a1:Cells w1 R 38 [.int .i64 0,.int .i64 0,.int .i64 0,.int .i64 0,.int .i64 0,.int .i64 0,.int .i64 0,.string ⟨([]:List UInt8).toArray⟩,.string ⟨([]:List UInt8).toArray⟩,.slice none 0 0,.bool false]:=hw1 ▸ hR ▸ Cells.new w _ _
 have a2:Cells w2 z 225 [.string ⟨s.toArray⟩,.bool false]:=hw2 ▸ hz ▸ Cells.new w1 _ _
 have a3:Cells w3 y 38 [.int .i64 0,.int .i64 0,.int .i64 0,.int .i64 0,.int .i64 0,.int .i64 0,.int .i64 0,.string ⟨([]:List UInt8).toArray⟩,.string ⟨([]:List UInt8).toArray⟩,.slice none 0 0,.bool false]:=hw3 ▸ hy ▸ Cells.new w2 _ _
 have hRz:R < z:=by have:=a1.lt;omega
 have hzy:z < y:=by have:=a2.lt;omega
 have HB:Hid (Cells w3 R 38 [.int .i64 0,.int .i64 0,.int .i64 0,.int .i64 0,.int .i64 0,.int .i64 0,.int .i64 0,.string ⟨([]:List UInt8).toArray⟩,.string ⟨([]:List UInt8).toArray⟩,.slice none 0 0,.bool false]):=Hd ((a1.only O2 (by simp)).only O3 (by simp))
 have HR3:Hid (CrAt w3 z (Rd.after ⟨s,false⟩ 0)):=Hd ⟨a2.only O3 (by simp),hl⟩
 have HZ3:Hid (Cells w3 y 38 ([] ++ (gvs (Rd.ints ⟨s,false⟩ 0) ++ ((List.replicate 7 (Value.int .i64 0)).drop 0 ++ [.string ⟨([]:List UInt8).toArray⟩,.string ⟨([]:List UInt8).toArray⟩,.slice none 0 0,.bool false])))):=Hd a3
 have HO3:=Hd ((O1.tr O2).tr O3)
 have HIX:=Hd (fun k hk w' => index_p7 [.pointer (some ⟨y,0,none⟩),.pointer (some ⟨y,1,none⟩),.pointer (some ⟨y,2,none⟩),.pointer (some ⟨y,3,none⟩),.pointer (some ⟨y,4,none⟩),.pointer (some ⟨y,5,none⟩),.pointer (some ⟨y,6,none⟩)] k _ hk (pt7_get y k hk) w')
 have HC7:Hid (Rd.after ⟨s,false⟩ 7 = c7 s):=Hd rfl
 have hwR:w.heap.size = R:=hR
 clear a1 a2 a3 O1 O2 O3
 go_enter Tryz.func84,Tryz.ntmps84
 go_wp2_with fail
 clear hw1 hw2 hw3 hR hz hy
 go_loopw [7,19] (fun _ i wr => ∃ k:Nat,k ≤ 7 ∧ i = .int .i64 k ∧ Hid (CrAt wr z (Rd.after ⟨s,false⟩ k)) ∧ Hid (Cells wr y 38 ([] ++ (gvs (Rd.ints ⟨s,false⟩ k) ++ ((List.replicate 7 (Value.int .i64 0)).drop k ++ [.string ⟨([]:List UInt8).toArray⟩,.string ⟨([]:List UInt8).toArray⟩,.slice none 0 0,.bool false])))) ∧ Hid (Cells wr R 38 [.int .i64 0,.int .i64 0,.int .i64 0,.int .i64 0,.int .i64 0,.int .i64 0,.int .i64 0,.string ⟨([]:List UInt8).toArray⟩,.string ⟨([]:List UInt8).toArray⟩,.slice none 0 0,.bool false]) ∧ Hid (Only [] w wr)) (fun _ i _ => 7 - (intOf i).toNat)
 case atStart => exact ⟨0,by omega,rfl,HR3,HZ3,HB,HO3⟩
 case round =>
  obtain ⟨k,hk,rfl,hr,hc,hb,ho⟩:=hrel
  by_cases hlt:k < 7
  · have hlt':(k:Int) < 7:=by omega
    have hix:=HIX.out k hlt
    have hix:=fun w' => by have:=hix w';simpa using this
    have CT:=Hd (cr_int z (Rd.after ⟨s,false⟩ k) wr hr.out)
    go_wp2_with fail
    refine CT.out.mono ?_
    rintro e w4 ⟨rfl,hr4,ho4⟩
    have hc4:=hc.out.only ho4 (by simp;omega)
    have hb4:=hb.out.only ho4 (by simp;omega)
    have hlen:k < (([]:List Value) ++ (gvs (Rd.ints ⟨s,false⟩ k) ++ ((List.replicate 7 (Value.int .i64 0)).drop k ++ [Value.string ⟨([]:List UInt8).toArray⟩,.string ⟨([]:List UInt8).toArray⟩,.slice none 0 0,.bool false]))).length:=by
     simp [gvs_length,Rd.ints_length] <;> omega
    obtain ⟨u0,d0⟩:∃ u,w4.cell? ⟨y,k,none⟩ = some u:=⟨_,hc4.cell (List.getElem?_eq_getElem hlen)⟩
    have f0:=hc4.frozen k
    have hcl:=hc4.lt
    have hset:=put_nth ⟨s,false⟩ [] (List.replicate 7 (Value.int .i64 0)) [.string ⟨([]:List UInt8).toArray⟩,.string ⟨([]:List UInt8).toArray⟩,.slice none 0 0,.bool false] k (by simp;omega)
    rw [show (([]:List Value).length + k) = k from by simp] at hset
    have HC5:=Hd (hset ▸ hc4.set k (.int .i64 (Rd.nth ⟨s,false⟩ k)))
    have HR5:Hid (CrAt (w4.setCell ⟨y,k,none⟩ (.int .i64 (Rd.nth ⟨s,false⟩ k))) z (Rd.after ⟨s,false⟩ (k + 1))):=Hd ⟨hr4.1.far (p:=⟨y,k,none⟩) (by show z ≠ y;omega) _,hr4.2⟩
    have HB5:=Hd (hb4.far (p:=⟨y,k,none⟩) (by show R ≠ y;omega) (.int .i64 (Rd.nth ⟨s,false⟩ k)))
    have HO5:=Hd ((ho.out.trans ho4 (by intro q hq;simp at hq;exact .inr (by omega))).setCell (p:=⟨y,k,none⟩) (.inr (by show w.heap.size ≤ y;omega)) (.int .i64 (Rd.nth ⟨s,false⟩ k)))
    have HNT:Hid ((Rd.after ⟨s,false⟩ k).int.1 = Rd.nth ⟨s,false⟩ k):=Hd rfl
    rw [HNT.out]
    clear hr4 ho4 hc4 hb4 hset CT hr hc hb ho hix hlen
    go_wp2_with fail
    go_roundw
    case rel => exact ⟨k + 1,by omega,by go_num,HR5,HC5,HB5,HO5⟩
    case measure => simp [intOf];omega
  · obtain rfl:k = 7:=by omega
    rw [HC7.out] at hr
    obtain ⟨n0,n1,n2,n3,n4,n5,n6,hn⟩:∃ n0 n1 n2 n3 n4 n5 n6,Rd.ints ⟨s,false⟩ 7 = [n0,n1,n2,n3,n4,n5,n6]:=⟨_,_,_,_,_,_,_,ints7 _⟩
    have HN:=Hd hn
    rw [hn] at hc
    have HCa:Hid (Cells wr y 38 [.int .i64 n0,.int .i64 n1,.int .i64 n2,.int .i64 n3,.int .i64 n4,.int .i64 n5,.int .i64 n6,.string ⟨([]:List UInt8).toArray⟩,.string ⟨([]:List UInt8).toArray⟩,.slice none 0 0,.bool false]):=Hd hc.out
    have CT:=Hd (cr_text z (c7 s) wr hr.out)
    clear hn hc hr HIX HC7 HR3 HZ3 HB HO3
    go_wp2_with fail
    refine CT.out.mono ?_
    rintro e w4 ⟨rfl,hr4,ho4⟩
    have hF:(c7 s).text.2 = cF s:=rfl
    rw [hF] at hr4
    obtain ⟨F,hF⟩:∃ F,(c7 s).text.1 = F:=⟨_,rfl⟩
    rw [hF]
    have HF:=Hd hF
    have hc4:=HCa.out.only ho4 (by simp;omega)
    have hb4:=hb.out.only ho4 (by simp;omega)
    have d7:=hc4.cell (k:=7) rfl
    have f7:=hc4.frozen 7
    have yl:=hc4.lt
    have HC5:Hid (Cells (w4.setCell ⟨y,7,none⟩ (.string ⟨F.toArray⟩)) y 38 [.int .i64 n0,.int .i64 n1,.int .i64 n2,.int .i64 n3,.int .i64 n4,.int .i64 n5,.int .i64 n6,.string ⟨F.toArray⟩,.string ⟨([]:List UInt8).toArray⟩,.slice none 0 0,.bool false]):=Hd (hc4.set 7 _)
    have hr5:CrAt (w4.setCell ⟨y,7,none⟩ (.string ⟨F.toArray⟩)) z (cF s):=⟨hr4.1.far (p:=⟨y,7,none⟩) (by show z ≠ y;omega) _,hr4.2⟩
    have HB5:=Hd (hb4.far (p:=⟨y,7,none⟩) (by show R ≠ y;omega) (.string ⟨F.toArray⟩))
    have HO5:=Hd ((ho.out.trans ho4 (by intro q hq;simp at hq;exact .inr (by omega))).setCell (p:=⟨y,7,none⟩) (.inr (by show w.heap.size ≤ y;omega)) (.string ⟨F.toArray⟩))
    have CT2:=Hd (cr_text z (cF s) _ hr5)
    clear hF hr4 ho4 hc4 hb4 hr5 CT HCa hb ho
    go_wp2_with fail
    refine CT2.out.mono ?_
    rintro e w6 ⟨rfl,hr6,ho6⟩
    have hG:(cF s).text.2 = cG s:=rfl
    rw [hG] at hr6
    obtain ⟨I,hI⟩:∃ I,(cF s).text.1 = I:=⟨_,rfl⟩
    rw [hI]
    have HI:=Hd hI
    have hc6:=HC5.out.only ho6 (by simp;omega)
    have hb6:=HB5.out.only ho6 (by simp;omega)
    have d8:=hc6.cell (k:=8) rfl
    have f8:=hc6.frozen 8
    have yl6:=hc6.lt
    have HC7:Hid (Cells (w6.setCell ⟨y,8,none⟩ (.string ⟨I.toArray⟩)) y 38 [.int .i64 n0,.int .i64 n1,.int .i64 n2,.int .i64 n3,.int .i64 n4,.int .i64 n5,.int .i64 n6,.string ⟨F.toArray⟩,.string ⟨I.toArray⟩,.slice none 0 0,.bool false]):=Hd (hc6.set 8 _)
    have hr7:CrAt (w6.setCell ⟨y,8,none⟩ (.string ⟨I.toArray⟩)) z (cG s):=⟨hr6.1.far (p:=⟨y,8,none⟩) (by show z ≠ y;omega) _,hr6.2⟩
    have HB7:=Hd (hb6.far (p:=⟨y,8,none⟩) (by show R ≠ y;omega) (.string ⟨I.toArray⟩))
    have HO7:=Hd ((HO5.out.trans ho6 (by intro q hq;simp at hq;exact .inr (by omega))).setCell (p:=⟨y,8,none⟩) (.inr (by show w.heap.size ≤ y;omega)) (.string ⟨I.toArray⟩))
    have CM:=Hd (cr_many z (cG s) _ hr7)
    clear hG hI hr6 ho6 hc6 hb6 hr7 CT2 HC5 HB5 HO5 d7 f7 yl
    go_wp2_with fail
    refine CM.out.mono ?_
    rintro e w8 ⟨rfl,hr8,ho8⟩
    obtain ⟨h0,h100⟩:=many_le (cG s)
    obtain ⟨⟨mv,mq⟩,hm⟩:∃ p,(cG s).many = p:=⟨_,rfl⟩
    have HM:=Hd hm
    rw [hm] at hr8 h0 h100 ⊢
    dsimp only at hr8 h0 h100 ⊢
    obtain ⟨N,rfl⟩:∃ N:Nat,mv = N:=⟨mv.toNat,by omega⟩
    have HR8:Hid (CrAt w8 z (mq.items 0).2):=Hd hr8
    have HC8:=Hd (HC7.out.only ho8 (by simp;omega))
    have HB8:=Hd (HB7.out.only ho8 (by simp;omega))
    have HO8:=Hd (HO7.out.trans ho8 (by intro q hq;simp at hq;exact .inr (by omega)))
    clear hm hr8 ho8 CM HC7 HB7 HO7 d8 f8 yl6
    go_wp2_with fail
    go_loopw [35] (fun i wr => ∃ (k:Nat) (iv:Value),k ≤ N ∧ i = .int .i64 k ∧ Hid (CrAt wr z (mq.items k).2) ∧ Hid (Cells wr y 38 [.int .i64 n0,.int .i64 n1,.int .i64 n2,.int .i64 n3,.int .i64 n4,.int .i64 n5,.int .i64 n6,.string ⟨F.toArray⟩,.string ⟨I.toArray⟩,iv,.bool false]) ∧ Hid (wr.ownsRow R 99 3 iv k (itL (mq.items k).1)) ∧ Hid (Cells wr R 38 [.int .i64 0,.int .i64 0,.int .i64 0,.int .i64 0,.int .i64 0,.int .i64 0,.int .i64 0,.string ⟨([]:List UInt8).toArray⟩,.string ⟨([]:List UInt8).toArray⟩,.slice none 0 0,.bool false]) ∧ Hid (Only [] w wr)) (fun i _ => N - (intOf i).toNat)
    case atStart => exact ⟨0,.slice none 0 0,by omega,rfl,HR8,HC8,Hd (World.ownsRow_nil _ _ _ _),HB8,HO8⟩
    case round =>
     obtain ⟨k,iv,hk,rfl,hr,hz,hown,hb,ho⟩:=hrel
     by_cases hlt:k < N
     · have hlt':(k:Int) < (N:Int):=by omega
       obtain ⟨A,cap,rfl⟩:=(SlAt.of_own hown.out).shape
       have p8:=hz.out.cell (k:=9) rfl
       have f8:=hz.out.frozen 9
       have lz:=hz.out.lt
       have hne:(Value.slice A k cap).ownBlock ≠ some z:=own_ne_block hown.out hr.out.1 (by decide)
       have hne2:(Value.slice A k cap).ownBlock ≠ some y:=own_ne_block hown.out hz.out (by decide)
       have hne3:(Value.slice A k cap).ownBlock ≠ some R:=own_ne_block hown.out hb.out (by decide)
       obtain ⟨x,hx⟩:∃ x,(mq.items k).2.item.1 = x:=⟨_,rfl⟩
       have HX:=Hd hx
       have CE:=Hd (fun w' (h:CrAt w' z (mq.items k).2) => cr_item z (mq.items k).2 w' h)
       rw [hx] at CE
       clear hx
       go_wp2_with fail
       go_region_law (first
        | (go_simp;go_at_call 158;go_loud (refine (CE.out _ (by first | exact ⟨hr.out.1.drew,hr.out.2⟩ | exact hr.out)).mono ?_);rintro e w8 ⟨rfl,hr8,ho8⟩;have hz8:Cells w8 y 38 _:=Cells.only (S:=[z]) hz.out.drew ho8 (by simp;omega);have p88:=hz8.cell (k:=9) rfl;have l88:=hz8.lt)
        | (go_loud (refine step_append_lies _ (by rfl) _ _ 36 (by rfl) R 99 i0 _ 3 48 Tryz.underlying36 hi0 hz0 hz1 hz2 rfl (by omega) (.slice A k cap) k (itL (mq.items k).1) (by rfl) (World.ownsRow.alloc (own_keep (w:=wr.drew) hown.out ho8 (by simpa using hne)) _) ⟨w8.heap.size,0,none⟩ 1 1 [.string ⟨x.id.toArray⟩,.string ⟨x.ti.toArray⟩,.string ⟨x.li.toArray⟩] (by rfl) (by rfl) (lit4 (Cells.new w8 99 [.string ⟨x.id.toArray⟩,.string ⟨x.ti.toArray⟩,.string ⟨x.li.toArray⟩])) (by simp [Value.oneCell']) (by omega) (by unfold maxLen;omega) (by omega) (by have:=ho8.size;have:=hz8.lt;simp;omega) (w8.heap.size + 1) (by simp) ?_);intro g1 cap1 w9 hown9 hgrow hat hgl1;have hz9:Cells w9 y 38 _:=Cells.grown (hz8.alloc _) hgrow hne2;have p9:=hz9.cell (k:=9) rfl;have f9:=hz9.frozen 9;have l9:=hz9.lt))
       all_goals
        have hS8:=ho8.size
        have hr9:CrAt w9 z (mq.items (k + 1)).2:=⟨(hr8.1.alloc _).grown hgrow hne,hr8.2⟩
        have hb9:Cells w9 R 38 _:=((Cells.only (S:=[z]) hb.out.drew ho8 (by simp;omega)).alloc _).grown hgrow hne3
        have ho9:Only [] w w9:=Only.own (((ho.out.drew.trans ho8 (by intro q hq;simp at hq;exact .inr (by omega)))).alloc (.cells #[.string ⟨x.id.toArray⟩,.string ⟨x.ti.toArray⟩,.string ⟨x.li.toArray⟩] 99)) (World.ownsRow.alloc (own_keep (w:=wr.drew) hown.out ho8 (by simpa using hne)) _) hgrow (by omega)
        have hen:itL (mq.items (k + 1)).1 = itL (mq.items k).1 ++ [.string ⟨x.id.toArray⟩,.string ⟨x.ti.toArray⟩,.string ⟨x.li.toArray⟩]:=by
         show itL ((mq.items k).1 ++ [(mq.items k).2.item.1]) = _
         rw [HX.out,itL_append]
         rfl
        have hg9:(Value.slice (some ⟨g1,0,none⟩) (k + 1) cap1).ownBlock ≠ some y:=own_ne_block hown9 hz9 (by decide)
        have hoW:Only [y] w9 (w9.setCell ⟨y,9,none⟩ (.slice (some ⟨g1,0,none⟩) (k + 1) cap1)):=oz.setCell (.inl (by simp)) _
        have hown10:=own_keep hown9 hoW (by simpa using hg9)
        rw [← hen] at hown10
        have HOWN:=Hd hown10
        have HR10:Hid (CrAt (w9.setCell ⟨y,9,none⟩ (.slice (some ⟨g1,0,none⟩) (k + 1) cap1)) z (mq.items (k + 1)).2):=Hd ⟨hr9.1.only hoW (by simp;omega),hr9.2⟩
        have HB10:=Hd (hb9.only hoW (by simp;omega))
        have HZ10:=Hd (hz9.set 9 (.slice (some ⟨g1,0,none⟩) (k + 1) cap1))
        have HO10:=Hd (ho9.trans hoW (by intro q hq;simp at hq;exact .inr (by omega)))
        clear hown9 hgrow hat hr9 hb9 ho9 hz9 hz8 hr8 ho8 hen hown10 hoW p9 f9 l9 p8 f8 lz p88 l88
        go_wp2_with fail
        go_roundw
        case rel => exact ⟨k + 1,.slice (some ⟨g1,0,none⟩) (k + 1) cap1,by omega,by go_num,HR10,HZ10,HOWN,HB10,HO10⟩
        case measure => simp [intOf];omega
     · have hd:decide ((k:Int) < (N:Int)) = false:=by simp;omega
       obtain rfl:k = N:=by omega
       obtain ⟨A,cap,rfl⟩:=(SlAt.of_own hown.out).shape
       obtain ⟨its,hits⟩:∃ its,(mq.items k).1 = its:=⟨_,rfl⟩
       obtain ⟨rI,hrI⟩:∃ r,(mq.items k).2 = r:=⟨_,rfl⟩
       rw [hrI] at hr
       have hitl:its.length = k:=by rw [← hits];exact items_length mq k
       rw [hits] at hown
       have HIT:Hid (mq.items (k:Int).toNat = (its,rI)):=Hd (by rw [Int.toNat_natCast,← hits,← hrI])
       have hlc7:(c7 s).s.length ≤ 1000000000000:=by unfold c7;exact after_len (r:=⟨s,false⟩) hl 7
       have hlF:(cF s).s.length ≤ 1000000000000:=by unfold cF;exact text_len hlc7
       have hlG:(cG s).s.length ≤ 1000000000000:=by unfold cG;exact text_len hlF
       have hlM:mq.s.length ≤ 1000000000000:=by have:=many_len hlG;rw [HM.out] at this;exact this
       have HOK:Hid (∀ x ∈ its,x.Ok):=Hd (by rw [← hits];exact items_all (fun q hq => item_ok hq) hlM k)
       have hFl:F.length ≤ 1000000000000:=by rw [← HF.out];exact text_short hlc7
       have hIl:I.length ≤ 1000000000000:=by rw [← HI.out];exact text_short hlF
       have CB:=Hd (cr_bool z rI wr hr.out)
       obtain ⟨⟨fl,re⟩,hre⟩:∃ p,rI.bool = p:=⟨_,rfl⟩
       have HU:Hid (unC s = if re.bad = false ∧ re.s = [] ∧ rightB ⟨n0,n1,n2,n3,n4,n5,n6,F,I,its,fl⟩ = true then some ⟨n0,n1,n2,n3,n4,n5,n6,F,I,its,fl⟩ else none):=Hd (by
        have:=unC_many s k mq rI re its fl n0 n1 n2 n3 n4 n5 n6 HM.out HIT.out hre HN.out
        rw [HF.out,HI.out] at this
        exact this)
       have HNW:Hid (∀ x ∈ [n0,n1,n2,n3,n4,n5,n6],Wide64 x):=Hd (by rw [← HN.out];exact ints_wide _ 7)
       rw [hre] at CB
       dsimp only at CB
       clear hits hrI hre hlc7 hlF hlG hlM HIT HM HN HF HI hlt HR8 HC8 HB8 HO8
       go_wp2_with fail
       refine CB.out.mono ?_
       rintro e w11 ⟨rfl,hr11,ho11⟩
       have hne:(Value.slice A k cap).ownBlock ≠ some z:=own_ne_block hown.out hr.out.1 (by decide)
       have hne2:(Value.slice A k cap).ownBlock ≠ some y:=own_ne_block hown.out hz.out (by decide)
       have hown11:=own_keep hown.out ho11 (by simpa using hne)
       have hc11:=hz.out.only ho11 (by simp;omega)
       have hb11:=hb.out.only ho11 (by simp;omega)
       have d10:=hc11.cell (k:=10) rfl
       have f10:=hc11.frozen 10
       have yl11:=hc11.lt
       have hoW:Only [y] w11 (w11.setCell ⟨y,10,none⟩ (.bool fl)):=oz.setCell (.inl (by simp)) _
       have HCf:Hid (Cells (w11.setCell ⟨y,10,none⟩ (.bool fl)) y 38 [.int .i64 n0,.int .i64 n1,.int .i64 n2,.int .i64 n3,.int .i64 n4,.int .i64 n5,.int .i64 n6,.string ⟨F.toArray⟩,.string ⟨I.toArray⟩,.slice A k cap,.bool fl]):=Hd (hc11.set 10 _)
       have HRf:Hid (CrAt (w11.setCell ⟨y,10,none⟩ (.bool fl)) z re):=Hd ⟨hr11.1.only hoW (by simp;omega),hr11.2⟩
       have HBf:=Hd (hb11.only hoW (by simp;omega))
       have HOf:=Hd ((ho.out.trans ho11 (by intro q hq;simp at hq;exact .inr (by omega))).trans hoW (by intro q hq;simp at hq;exact .inr (by omega)))
       have HWf:=Hd (own_keep hown11 hoW (by simpa using hne2))
       clear hr11 ho11 hown11 hc11 hb11 hoW CB hr hz hown hb ho hne hne2
       obtain ⟨wf,hwf⟩:∃ wf,w11.setCell ⟨y,10,none⟩ (.bool fl) = wf:=⟨_,rfl⟩
       rw [hwf] at HCf HRf HBf HOf HWf
       have r0:=HRf.out.1.cell (k:=0) rfl
       have r1:=HRf.out.1.cell (k:=1) rfl
       cases hbad:re.bad with
       | true =>
        have HU:Hid (unC s = none):=Hd (by rw [HU.out,if_neg (by rw [hbad];simp)])
        rw [hbad] at r1
        clear hbad
        have hst:=HBf.out
        have hone:(#[.int .i64 0,.int .i64 0,.int .i64 0,.int .i64 0,.int .i64 0,.int .i64 0,.int .i64 0,.string ⟨([]:List UInt8).toArray⟩,.string ⟨([]:List UInt8).toArray⟩,.slice none 0 0,.bool false]:Array Value).all (·.oneCell') = true:=by simp [Value.oneCell']
        go_wp2_with (refine wpList_store_row rfl 38 _ _ rfl R #[.int .i64 0,.int .i64 0,.int .i64 0,.int .i64 0,.int .i64 0,.int .i64 0,.int .i64 0,.string ⟨([]:List UInt8).toArray⟩,.string ⟨([]:List UInt8).toArray⟩,.slice none 0 0,.bool false] rfl rfl 38 _ hst (by kernel_rfl) rfl hone ?_)
        (try simp only [Exit.inBlock,Exit.then])
        refine bodyPost_ret (v:=.tuple #[.agg #[.int .i64 0,.int .i64 0,.int .i64 0,.int .i64 0,.int .i64 0,.int .i64 0,.int .i64 0,.string ⟨([]:List UInt8).toArray⟩,.string ⟨([]:List UInt8).toArray⟩,.slice none 0 0,.bool false],.int .i64 8]) ?_ rfl ⟨.slice none 0 0,by rw [HU.out];rfl,by rw [HU.out];exact cm_zero_at _,HOf.out.setRow (.inr (by omega)) _,fun g hg => by simp [Value.ownBlock] at hg⟩
        exact results_row_tmp Tryz.results84 _ _ R 38 [.int .i64 0,.int .i64 0,.int .i64 0,.int .i64 0,.int .i64 0,.int .i64 0,.int .i64 0,.string ⟨([]:List UInt8).toArray⟩,.string ⟨([]:List UInt8).toArray⟩,.slice none 0 0,.bool false] _ rfl (Cells.setRow HBf.out [.int .i64 0,.int .i64 0,.int .i64 0,.int .i64 0,.int .i64 0,.int .i64 0,.int .i64 0,.string ⟨([]:List UInt8).toArray⟩,.string ⟨([]:List UInt8).toArray⟩,.slice none 0 0,.bool false]) Tryz.underlying38 rfl (by kernel_rfl)
       | false =>
        rw [hbad] at r1
        by_cases hs:re.s = []
        · rw [hs] at r0
          have HU1:Hid (unC s = if rightB ⟨n0,n1,n2,n3,n4,n5,n6,F,I,its,fl⟩ = true then some ⟨n0,n1,n2,n3,n4,n5,n6,F,I,its,fl⟩ else none):=Hd (by rw [HU.out];simp [hbad,hs])
          have hat:CmAt wf (.slice A k cap) ⟨n0,n1,n2,n3,n4,n5,n6,F,I,its,fl⟩:=by
           refine ⟨?_,fun x hx => (HOK.out x hx).len,?_,?_,HNW.out⟩
           · have:=SlAt.of_own HWf.out
             rw [← hitl] at this ⊢
             exact this.more (by omega)
           · unfold maxLen;dsimp only;omega
           · unfold maxLen;dsimp only;omega
          have CR:=Hd (cmd_right ⟨n0,n1,n2,n3,n4,n5,n6,F,I,its,fl⟩ (.slice A k cap) wf hat)
          have HAT:=Hd hat
          unfold Cm.val at CR
          dsimp only at CR
          have g0:=HCf.out.cell (k:=0) rfl
          have g1:=HCf.out.cell (k:=1) rfl
          have g2:=HCf.out.cell (k:=2) rfl
          have g3:=HCf.out.cell (k:=3) rfl
          have g4:=HCf.out.cell (k:=4) rfl
          have g5:=HCf.out.cell (k:=5) rfl
          have g6:=HCf.out.cell (k:=6) rfl
          have g7:=HCf.out.cell (k:=7) rfl
          have g8:=HCf.out.cell (k:=8) rfl
          have g9:=HCf.out.cell (k:=9) rfl
          have g10:=HCf.out.cell (k:=10) rfl
          obtain ⟨q,hq⟩:∃ q,rightB ⟨n0,n1,n2,n3,n4,n5,n6,F,I,its,fl⟩ = q:=⟨_,rfl⟩
          rw [hq] at CR
          have HQ:=Hd hq
          clear hbad hs hat hq HU
          go_wp2_with fail
          refine CR.out.mono ?_
          rintro e w12 ⟨rfl,ho12⟩
          have HCg:=Hd (HCf.out.only ho12 (by simp))
          have HBg:=Hd (HBf.out.only ho12 (by simp))
          have HOg:=Hd (HOf.out.tr ho12)
          have HATg:=Hd (HAT.out.only ho12)
          have HWg:=Hd (own_keep HWf.out ho12 (by simp))
          clear ho12 CR g0 g1 g2 g3 g4 g5 g6 g7 g8 g9 g10 HCf HBf HOf HAT
          cases q with
          | false =>
           have HU:Hid (unC s = none):=Hd (by rw [HU1.out,HQ.out];rfl)
           have HBf:=HBg
           have HOf:=HOg
           have hst:=HBf.out
           have hone:(#[.int .i64 0,.int .i64 0,.int .i64 0,.int .i64 0,.int .i64 0,.int .i64 0,.int .i64 0,.string ⟨([]:List UInt8).toArray⟩,.string ⟨([]:List UInt8).toArray⟩,.slice none 0 0,.bool false]:Array Value).all (·.oneCell') = true:=by simp [Value.oneCell']
           go_wp2_with (refine wpList_store_row rfl 38 _ _ rfl R #[.int .i64 0,.int .i64 0,.int .i64 0,.int .i64 0,.int .i64 0,.int .i64 0,.int .i64 0,.string ⟨([]:List UInt8).toArray⟩,.string ⟨([]:List UInt8).toArray⟩,.slice none 0 0,.bool false] rfl rfl 38 _ hst (by kernel_rfl) rfl hone ?_)
           (try simp only [Exit.inBlock,Exit.then])
           refine bodyPost_ret (v:=.tuple #[.agg #[.int .i64 0,.int .i64 0,.int .i64 0,.int .i64 0,.int .i64 0,.int .i64 0,.int .i64 0,.string ⟨([]:List UInt8).toArray⟩,.string ⟨([]:List UInt8).toArray⟩,.slice none 0 0,.bool false],.int .i64 8]) ?_ rfl ⟨.slice none 0 0,by rw [HU.out];rfl,by rw [HU.out];exact cm_zero_at _,HOf.out.setRow (.inr (by omega)) _,fun g hg => by simp [Value.ownBlock] at hg⟩
           exact results_row_tmp Tryz.results84 _ _ R 38 [.int .i64 0,.int .i64 0,.int .i64 0,.int .i64 0,.int .i64 0,.int .i64 0,.int .i64 0,.string ⟨([]:List UInt8).toArray⟩,.string ⟨([]:List UInt8).toArray⟩,.slice none 0 0,.bool false] _ rfl (Cells.setRow HBf.out [.int .i64 0,.int .i64 0,.int .i64 0,.int .i64 0,.int .i64 0,.int .i64 0,.int .i64 0,.string ⟨([]:List UInt8).toArray⟩,.string ⟨([]:List UInt8).toArray⟩,.slice none 0 0,.bool false]) Tryz.underlying38 rfl (by kernel_rfl)
          | true =>
           have HU:Hid (unC s = some ⟨n0,n1,n2,n3,n4,n5,n6,F,I,its,fl⟩):=Hd (by rw [HU1.out,HQ.out];rfl)
           have g0:=HCg.out.cell (k:=0) rfl
           have g1:=HCg.out.cell (k:=1) rfl
           have g2:=HCg.out.cell (k:=2) rfl
           have g3:=HCg.out.cell (k:=3) rfl
           have g4:=HCg.out.cell (k:=4) rfl
           have g5:=HCg.out.cell (k:=5) rfl
           have g6:=HCg.out.cell (k:=6) rfl
           have g7:=HCg.out.cell (k:=7) rfl
           have g8:=HCg.out.cell (k:=8) rfl
           have g9:=HCg.out.cell (k:=9) rfl
           have g10:=HCg.out.cell (k:=10) rfl
           have hoR:Only [R] w12 (w12.setRow R #[.int .i64 n0,.int .i64 n1,.int .i64 n2,.int .i64 n3,.int .i64 n4,.int .i64 n5,.int .i64 n6,.string ⟨F.toArray⟩,.string ⟨I.toArray⟩,.slice A k cap,.bool fl]):=oz.setRow (.inl (by simp)) _
           have HATR:Hid (CmAt (w12.setRow R #[.int .i64 n0,.int .i64 n1,.int .i64 n2,.int .i64 n3,.int .i64 n4,.int .i64 n5,.int .i64 n6,.string ⟨F.toArray⟩,.string ⟨I.toArray⟩,.slice A k cap,.bool fl]) (.slice A k cap) ⟨n0,n1,n2,n3,n4,n5,n6,F,I,its,fl⟩):=Hd (by
            refine ⟨?_,HATg.out.len,HATg.out.fd,HATg.out.id,HATg.out.nums⟩
            have hnR:(Value.slice A k cap).ownBlock ≠ some R:=own_ne_block HWg.out HBg.out (by decide)
            have hsz:=HOg.out.size
            have:=SlAt.of_own (own_keep HWg.out hoR (by simpa using hnR))
            rw [← hitl] at this ⊢
            refine this.more ?_
            have:=hoR.size
            omega)
           clear hoR
           have hst:=HBg.out
           have hone:(#[.int .i64 n0,.int .i64 n1,.int .i64 n2,.int .i64 n3,.int .i64 n4,.int .i64 n5,.int .i64 n6,.string ⟨F.toArray⟩,.string ⟨I.toArray⟩,.slice A k cap,.bool fl]:Array Value).all (·.oneCell') = true:=by simp [Value.oneCell']
           go_wp2_with (refine wpList_store_row rfl 38 _ _ rfl R #[.int .i64 n0,.int .i64 n1,.int .i64 n2,.int .i64 n3,.int .i64 n4,.int .i64 n5,.int .i64 n6,.string ⟨F.toArray⟩,.string ⟨I.toArray⟩,.slice A k cap,.bool fl] rfl rfl 38 _ hst (by kernel_rfl) rfl hone ?_)
           (try simp only [Exit.inBlock,Exit.then])
           refine bodyPost_ret (v:=.tuple #[.agg #[.int .i64 n0,.int .i64 n1,.int .i64 n2,.int .i64 n3,.int .i64 n4,.int .i64 n5,.int .i64 n6,.string ⟨F.toArray⟩,.string ⟨I.toArray⟩,.slice A k cap,.bool fl],.int .i64 0]) ?_ rfl ⟨.slice A k cap,by rw [HU.out];rfl,by rw [HU.out];exact HATR.out,HOg.out.setRow (.inr (by omega)) _,fun g hg => by have:=(HWf.out.lt g hg).1;omega⟩
           exact results_row_tmp Tryz.results84 _ _ R 38 [.int .i64 n0,.int .i64 n1,.int .i64 n2,.int .i64 n3,.int .i64 n4,.int .i64 n5,.int .i64 n6,.string ⟨F.toArray⟩,.string ⟨I.toArray⟩,.slice A k cap,.bool fl] _ rfl (Cells.setRow HBg.out [.int .i64 n0,.int .i64 n1,.int .i64 n2,.int .i64 n3,.int .i64 n4,.int .i64 n5,.int .i64 n6,.string ⟨F.toArray⟩,.string ⟨I.toArray⟩,.slice A k cap,.bool fl]) Tryz.underlying38 rfl (by kernel_rfl)
        · have HU:Hid (unC s = none):=Hd (by rw [HU.out,if_neg (by simp [hs])])
          have hse:re.s.isEmpty = false:=by simpa using hs
          clear hbad
          have hst:=HBf.out
          have hone:(#[.int .i64 0,.int .i64 0,.int .i64 0,.int .i64 0,.int .i64 0,.int .i64 0,.int .i64 0,.string ⟨([]:List UInt8).toArray⟩,.string ⟨([]:List UInt8).toArray⟩,.slice none 0 0,.bool false]:Array Value).all (·.oneCell') = true:=by simp [Value.oneCell']
          go_wp2_with (refine wpList_store_row rfl 38 _ _ rfl R #[.int .i64 0,.int .i64 0,.int .i64 0,.int .i64 0,.int .i64 0,.int .i64 0,.int .i64 0,.string ⟨([]:List UInt8).toArray⟩,.string ⟨([]:List UInt8).toArray⟩,.slice none 0 0,.bool false] rfl rfl 38 _ hst (by kernel_rfl) rfl hone ?_)
          (try simp only [Exit.inBlock,Exit.then])
          refine bodyPost_ret (v:=.tuple #[.agg #[.int .i64 0,.int .i64 0,.int .i64 0,.int .i64 0,.int .i64 0,.int .i64 0,.int .i64 0,.string ⟨([]:List UInt8).toArray⟩,.string ⟨([]:List UInt8).toArray⟩,.slice none 0 0,.bool false],.int .i64 8]) ?_ rfl ⟨.slice none 0 0,by rw [HU.out];rfl,by rw [HU.out];exact cm_zero_at _,HOf.out.setRow (.inr (by omega)) _,fun g hg => by simp [Value.ownBlock] at hg⟩
          exact results_row_tmp Tryz.results84 _ _ R 38 [.int .i64 0,.int .i64 0,.int .i64 0,.int .i64 0,.int .i64 0,.int .i64 0,.int .i64 0,.string ⟨([]:List UInt8).toArray⟩,.string ⟨([]:List UInt8).toArray⟩,.slice none 0 0,.bool false] _ rfl (Cells.setRow HBf.out [.int .i64 0,.int .i64 0,.int .i64 0,.int .i64 0,.int .i64 0,.int .i64 0,.int .i64 0,.string ⟨([]:List UInt8).toArray⟩,.string ⟨([]:List UInt8).toArray⟩,.slice none 0 0,.bool false]) Tryz.underlying38 rfl (by kernel_rfl)
theorem hideM {P:Program} {c:Code} {M:Act → World → Prop} {Q:Exit → Act → World → Prop} {a:Act} {w:World} (h:∀ M',c.wp P (Exit.then M' Q) a w):c.wp P (Exit.then M Q) a w:=h M
theorem unC_loop (s:List UInt8) (hl:s.length ≤ 1000000000000) (k:Nat) (hk:(k:Int) ≤ cN s ∨ k = 0) (hex:¬ ((k:Int) < cN s ∧ k ≤ 100 ∧ (cI s k).2.bad = false)):
 unC s = if (cE s k).bad = false ∧ 0 ≤ cN s ∧ rightB (cC s k) = true ∧ cmdb (cC s k) = s then some (cC s k) else none:=by
 by_cases hc:(cE s k).bad = false ∧ 0 ≤ cN s ∧ rightB (cC s k) = true ∧ cmdb (cC s k) = s
 · rw [if_pos hc]
   exact (unC_iff s hl _).2 ⟨hc.2.2.1,hc.2.2.2⟩
 · rw [if_neg hc]
   cases hu:unC s with
   | none => rfl
   | some c =>
    obtain ⟨h1,h2⟩:=(unC_iff s hl c).1 hu
    have h3:=(lenB_iff.1 (rightB_iff.1 h1).2.1).2.2
    obtain ⟨a1,a2,a3,a4⟩:=cm_out c (right_ok h1) []
    rw [List.append_nil,h2] at a1 a2 a3 a4
    have hkn:k = c.its.length:=by
     rcases Nat.lt_trichotomy k c.its.length with h | h | h
     · exact absurd ⟨by omega,by omega,a2 k (by omega)⟩ hex
     · exact h
     · rcases hk with hk | hk <;> omega
    rw [hkn,a3,a4] at hc
    exact absurd ⟨rfl,by omega,h1,h2⟩ hc
theorem qr_item (z:Nat) (r:Rd) (w:World) (h:QrAt w z r):
 Calls Tryz.prog 110 #[.pointer (some ⟨z,0,none⟩)] w fun e w' => e = .returned (.agg #[.string ⟨r.item.1.id.toArray⟩,.string ⟨r.item.1.ti.toArray⟩,.string ⟨r.item.1.li.toArray⟩]) ∧ QrAt w' z r.item.2 ∧ Only [z] w w':=by
 obtain ⟨a,ha⟩:∃ a,w.heap.size = a:=⟨_,rfl⟩
 obtain ⟨w1,hw1⟩:∃ w1,w.alloc (.cells #[.string ⟨#[]⟩,.string ⟨#[]⟩,.string ⟨#[]⟩] 99) = w1:=⟨_,rfl⟩
 have O1:Only [] w w1:=hw1 ▸ oz.alloc _
 have hA1:Cells w1 a 99 [.string ⟨([]:List UInt8).toArray⟩,.string ⟨([]:List UInt8).toArray⟩,.string ⟨([]:List UInt8).toArray⟩]:=hw1 ▸ ha ▸ Cells.new w _ _
 have hzl:=h.lt
 have C0:=Hd (qr_text z r w1 (h.only O1 (by simp)))
 obtain ⟨t0,ht0⟩:∃ t,r.text.1 = t:=⟨_,rfl⟩
 obtain ⟨t1,ht1⟩:∃ t,r.text.2.text.1 = t:=⟨_,rfl⟩
 obtain ⟨t2,ht2⟩:∃ t,r.text.2.text.2.text.1 = t:=⟨_,rfl⟩
 have x0:r.item.1.id = t0:=ht0
 have x1:r.item.1.ti = t1:=ht1
 have x2:r.item.1.li = t2:=ht2
 have C1:=Hd (fun w' h => qr_text z r.text.2 w' h)
 have C2:=Hd (fun w' h => qr_text z r.text.2.text.2 w' h)
 rw [x0,x1,x2]
 rw [ht0] at C0
 rw [ht1] at C1
 rw [ht2] at C2
 have HA:=Hd hA1
 have HO:=Hd O1
 clear x0 x1 x2 ht0 ht1 ht2 h hA1 O1
 go_enter Tryz.func110,Tryz.ntmps110
 go_wp2_with fail
 refine C0.out.mono ?_
 rintro e w2 ⟨rfl,hr2,ho2⟩
 have D1:=Hd (C1.out w2 hr2)
 have HA2:=Hd (HA.out.only ho2 (by simp;omega))
 have HO2:=Hd ((HO.out.of0 (S:=[z])).tr ho2)
 clear hr2 ho2 C0 C1 HA HO hw1
 go_wp2_with fail
 refine D1.out.mono ?_
 rintro e w3 ⟨rfl,hr3,ho3⟩
 have D2:=Hd (C2.out w3 hr3)
 have HA3:=Hd (HA2.out.only ho3 (by simp;omega))
 have HO3:=Hd (HO2.out.tr ho3)
 clear hr3 ho3 D1 C2 HA2 HO2
 go_wp2_with fail
 refine D2.out.mono ?_
 rintro e w4 ⟨rfl,hr4,ho4⟩
 have HR4:=Hd hr4
 have HA4:=HA3.out.only ho4 (by simp;omega)
 have HO4:=Hd (HO3.out.tr ho4)
 have hone:(#[.string ⟨t0.toArray⟩,.string ⟨t1.toArray⟩,.string ⟨t2.toArray⟩]:Array Value).all (·.oneCell') = true:=by simp [Value.oneCell']
 have hst:=HA4
 clear hr4 ho4 D2 HA3 HO3
 go_wp2_with (refine wpList_store_row rfl 99 _ _ rfl a #[.string ⟨t0.toArray⟩,.string ⟨t1.toArray⟩,.string ⟨t2.toArray⟩] rfl rfl 99 _ hst (by kernel_rfl) rfl hone ?_)
 (try simp only [Exit.inBlock,Exit.then])
 refine bodyPost_ret (v:=.agg #[.string ⟨t0.toArray⟩,.string ⟨t1.toArray⟩,.string ⟨t2.toArray⟩]) ?_ rfl ⟨rfl,⟨HR4.out.1.farRow (by omega) _,HR4.out.2⟩,HO4.out.setRow (.inr (by omega)) _⟩
 exact results_row Tryz.results110 _ _ a 99 [.string ⟨t0.toArray⟩,.string ⟨t1.toArray⟩,.string ⟨t2.toArray⟩] _ rfl (Cells.setRow HA4 [.string ⟨t0.toArray⟩,.string ⟨t1.toArray⟩,.string ⟨t2.toArray⟩]) Tryz.underlying99 rfl (by kernel_rfl)
theorem ref18_unpack (s:List UInt8) (w:World) (hl0:s.length ≤ 1000000):
 Calls Tryz.prog 86 #[.string ⟨s.toArray⟩] w (UnCW s w):=by
 have hl:s.length ≤ 1000000000000:=by omega
 obtain ⟨i0,hi0,hz0,hz1,hz2⟩:=info_parts info_item
 obtain ⟨w1,hw1⟩:∃ w1,w.alloc (.cells #[.int .i64 0,.int .i64 0,.int .i64 0,.int .i64 0,.int .i64 0,.int .i64 0,.int .i64 0,.string ⟨#[]⟩,.string ⟨#[]⟩,.slice none 0 0,.bool false] 38) = w1:=⟨_,rfl⟩
 obtain ⟨w2,hw2⟩:∃ w2,w1.alloc (.cells #[.string ⟨s.toArray⟩,.bool true] 162) = w2:=⟨_,rfl⟩
 obtain ⟨w3,hw3⟩:∃ w3,w2.alloc (.cells #[.int .i64 0,.int .i64 0,.int .i64 0,.int .i64 0,.int .i64 0,.int .i64 0,.int .i64 0] 234) = w3:=⟨_,rfl⟩
 obtain ⟨R,hR⟩:∃ R,w.heap.size = R:=⟨_,rfl⟩
 obtain ⟨z,hz⟩:∃ R,w1.heap.size = R:=⟨_,rfl⟩
 obtain ⟨v,hv⟩:∃ R,w2.heap.size = R:=⟨_,rfl⟩
 have O1:Only [] w w1:=hw1 ▸ oz.alloc _
 have O2:Only [] w1 w2:=hw2 ▸ oz.alloc _
 have O3:Only [] w2 w3:=hw3 ▸ oz.alloc _
 have a1:Cells w1 R 38 [.int .i64 0,.int .i64 0,.int .i64 0,.int .i64 0,.int .i64 0,.int .i64 0,.int .i64 0,.string ⟨([]:List UInt8).toArray⟩,.string ⟨([]:List UInt8).toArray⟩,.slice none 0 0,.bool false]:=hw1 ▸ hR ▸ Cells.new w _ _
 have a2:Cells w2 z 162 [.string ⟨s.toArray⟩,.bool true]:=hw2 ▸ hz ▸ Cells.new w1 _ _
 have a3:Cells w3 v 234 (List.replicate 7 (.int .i64 0)):=hw3 ▸ hv ▸ Cells.new w2 _ _
 have hRz:R < z:=by have:=a1.lt;omega
 have hzv:z < v:=by have:=a2.lt;omega
 have HB:Hid (Cells w3 R 38 [.int .i64 0,.int .i64 0,.int .i64 0,.int .i64 0,.int .i64 0,.int .i64 0,.int .i64 0,.string ⟨([]:List UInt8).toArray⟩,.string ⟨([]:List UInt8).toArray⟩,.slice none 0 0,.bool false]):=Hd ((a1.only O2 (by simp)).only O3 (by simp))
 have HR3:Hid (QrAt w3 z (Rd.after ⟨s,false⟩ 0)):=Hd ⟨a2.only O3 (by simp),hl⟩
 have HV3:Hid (Cells w3 v 234 ([] ++ (gvs (Rd.ints ⟨s,false⟩ 0) ++ ((List.replicate 7 (Value.int .i64 0)).drop 0 ++ [])))):=Hd (by rw [List.append_nil];exact a3)
 have HO3:=Hd ((O1.tr O2).tr O3)
 have HC7:Hid (Rd.after ⟨s,false⟩ 7 = c7 s):=Hd rfl
 have hwR:w.heap.size = R:=hR
 clear a1 a2 a3 O1 O2 O3
 go_enter Tryz.func86,Tryz.ntmps86
 go_wp2_with fail
 clear hw1 hw2 hw3 hR hz hv
 go_loopw [6] (fun i wr => ∃ k:Nat,k ≤ 7 ∧ i = .int .i64 k ∧ Hid (QrAt wr z (Rd.after ⟨s,false⟩ k)) ∧ Hid (Cells wr v 234 ([] ++ (gvs (Rd.ints ⟨s,false⟩ k) ++ ((List.replicate 7 (Value.int .i64 0)).drop k ++ [])))) ∧ Hid (Cells wr R 38 [.int .i64 0,.int .i64 0,.int .i64 0,.int .i64 0,.int .i64 0,.int .i64 0,.int .i64 0,.string ⟨([]:List UInt8).toArray⟩,.string ⟨([]:List UInt8).toArray⟩,.slice none 0 0,.bool false]) ∧ Hid (Only [] w wr)) (fun i _ => 7 - (intOf i).toNat)
 case atStart => exact ⟨0,by omega,rfl,HR3,HV3,HB,HO3⟩
 case round =>
  obtain ⟨k,hk,rfl,hr,hc,hb,ho⟩:=hrel
  by_cases hlt:k < 7
  · have hlt':(k:Int) < 7:=by omega
    have CT:=Hd (qr_int z (Rd.after ⟨s,false⟩ k) wr hr.out)
    have vl0:=hc.out.lt
    go_wp2_with fail
    refine CT.out.mono ?_
    rintro e w4 ⟨rfl,hr4,ho4⟩
    have hc4:=hc.out.only ho4 (by simp;omega)
    have hb4:=hb.out.only ho4 (by simp;omega)
    have hlen:k < (([]:List Value) ++ (gvs (Rd.ints ⟨s,false⟩ k) ++ ((List.replicate 7 (Value.int .i64 0)).drop k ++ []))).length:=by
     simp [gvs_length,Rd.ints_length] <;> omega
    obtain ⟨u0,d0⟩:∃ u,w4.cell? ⟨v,k,none⟩ = some u:=⟨_,hc4.cell (List.getElem?_eq_getElem hlen)⟩
    have f0:=hc4.frozen k
    have hcl:=hc4.lt
    have hset:=put_nth ⟨s,false⟩ [] (List.replicate 7 (Value.int .i64 0)) [] k (by simp;omega)
    rw [show (([]:List Value).length + k) = k from by simp] at hset
    have HC5:=Hd (hset ▸ hc4.set k (.int .i64 (Rd.nth ⟨s,false⟩ k)))
    have HR5:Hid (QrAt (w4.setCell ⟨v,k,none⟩ (.int .i64 (Rd.nth ⟨s,false⟩ k))) z (Rd.after ⟨s,false⟩ (k + 1))):=Hd ⟨hr4.1.far (p:=⟨v,k,none⟩) (by show z ≠ v;omega) _,hr4.2⟩
    have HB5:=Hd (hb4.far (p:=⟨v,k,none⟩) (by show R ≠ v;omega) (.int .i64 (Rd.nth ⟨s,false⟩ k)))
    have HO5:=Hd ((ho.out.trans ho4 (by intro q hq;simp at hq;exact .inr (by omega))).setCell (p:=⟨v,k,none⟩) (.inr (by show w.heap.size ≤ v;omega)) (.int .i64 (Rd.nth ⟨s,false⟩ k)))
    have HNT:Hid ((Rd.after ⟨s,false⟩ k).int.1 = Rd.nth ⟨s,false⟩ k):=Hd rfl
    rw [HNT.out]
    clear hr4 ho4 hc4 hb4 hset CT hr hc hb ho hlen
    go_wp2_with fail
    go_roundw
    case rel => exact ⟨k + 1,by omega,by go_num,HR5,HC5,HB5,HO5⟩
    case measure => simp [intOf];omega
  · obtain rfl:k = 7:=by omega
    rw [HC7.out] at hr
    obtain ⟨n0,n1,n2,n3,n4,n5,n6,hn⟩:∃ n0 n1 n2 n3 n4 n5 n6,Rd.ints ⟨s,false⟩ 7 = [n0,n1,n2,n3,n4,n5,n6]:=⟨_,_,_,_,_,_,_,ints7 _⟩
    have HN:=Hd hn
    rw [hn] at hc
    have HVa:Cells wr v 234 [.int .i64 n0,.int .i64 n1,.int .i64 n2,.int .i64 n3,.int .i64 n4,.int .i64 n5,.int .i64 n6]:=hc.out
    have v0:=HVa.cell (k:=0) rfl
    have v1:=HVa.cell (k:=1) rfl
    have v2:=HVa.cell (k:=2) rfl
    have v3:=HVa.cell (k:=3) rfl
    have v4:=HVa.cell (k:=4) rfl
    have v5:=HVa.cell (k:=5) rfl
    have v6:=HVa.cell (k:=6) rfl
    obtain ⟨w3b,hw3b⟩:∃ w3b,wr.alloc (.cells #[.int .i64 n0,.int .i64 n1,.int .i64 n2,.int .i64 n3,.int .i64 n4,.int .i64 n5,.int .i64 n6,.string ⟨#[]⟩,.string ⟨#[]⟩,.slice none 0 0,.bool false] 38) = w3b:=⟨_,rfl⟩
    obtain ⟨y,hy⟩:∃ y,wr.heap.size = y:=⟨_,rfl⟩
    have O3b:Only [] wr w3b:=hw3b ▸ oz.alloc _
    have HCa:Hid (Cells w3b y 38 [.int .i64 n0,.int .i64 n1,.int .i64 n2,.int .i64 n3,.int .i64 n4,.int .i64 n5,.int .i64 n6,.string ⟨([]:List UInt8).toArray⟩,.string ⟨([]:List UInt8).toArray⟩,.slice none 0 0,.bool false]):=Hd (hw3b ▸ hy ▸ Cells.new wr _ _)
    have hb:=Hd (hb.out.only O3b (by simp))
    have hzy:z < y:=by have:=hr.out.lt;omega
    have CT:=Hd (qr_text z (c7 s) w3b (hr.out.only O3b (by simp)))
    have ho:=Hd (ho.out.tr O3b)
    clear hn hc hr HC7 HR3 HV3 HB HO3 HVa O3b
    subst hw3b hy
    go_wp2_with fail
    obtain ⟨y,hy⟩:∃ y,wr.heap.size = y:=⟨_,rfl⟩
    obtain ⟨w3b,hw3b⟩:∃ w3b,wr.alloc (.cells #[.int .i64 n0,.int .i64 n1,.int .i64 n2,.int .i64 n3,.int .i64 n4,.int .i64 n5,.int .i64 n6,.string ⟨#[]⟩,.string ⟨#[]⟩,.slice none 0 0,.bool false] 38) = w3b:=⟨_,rfl⟩
    simp only [hw3b,hy] at HCa hb ho CT hzy ⊢
    refine CT.out.mono ?_
    rintro e w4 ⟨rfl,hr4,ho4⟩
    have hF:(c7 s).text.2 = cF s:=rfl
    rw [hF] at hr4
    obtain ⟨F,hF⟩:∃ F,(c7 s).text.1 = F:=⟨_,rfl⟩
    rw [hF]
    have HF:=Hd hF
    clear hw3b v0 v1 v2 v3 v4 v5 v6
    have hc4:=HCa.out.only ho4 (by simp;omega)
    have hb4:=hb.out.only ho4 (by simp;omega)
    have d7:=hc4.cell (k:=7) rfl
    have f7:=hc4.frozen 7
    have yl:=hc4.lt
    have HC5:Hid (Cells (w4.setCell ⟨y,7,none⟩ (.string ⟨F.toArray⟩)) y 38 [.int .i64 n0,.int .i64 n1,.int .i64 n2,.int .i64 n3,.int .i64 n4,.int .i64 n5,.int .i64 n6,.string ⟨F.toArray⟩,.string ⟨([]:List UInt8).toArray⟩,.slice none 0 0,.bool false]):=Hd (hc4.set 7 _)
    have hr5:QrAt (w4.setCell ⟨y,7,none⟩ (.string ⟨F.toArray⟩)) z (cF s):=⟨hr4.1.far (p:=⟨y,7,none⟩) (by show z ≠ y;omega) _,hr4.2⟩
    have HB5:=Hd (hb4.far (p:=⟨y,7,none⟩) (by show R ≠ y;omega) (.string ⟨F.toArray⟩))
    have HO5:=Hd ((ho.out.trans ho4 (by intro q hq;simp at hq;exact .inr (by omega))).setCell (p:=⟨y,7,none⟩) (.inr (by show w.heap.size ≤ y;omega)) (.string ⟨F.toArray⟩))
    have CT2:=Hd (qr_text z (cF s) _ hr5)
    clear hF hr4 ho4 hc4 hb4 hr5 CT HCa hb ho
    go_wp2_with fail
    refine CT2.out.mono ?_
    rintro e w6 ⟨rfl,hr6,ho6⟩
    have hG:(cF s).text.2 = cG s:=rfl
    rw [hG] at hr6
    obtain ⟨I,hI⟩:∃ I,(cF s).text.1 = I:=⟨_,rfl⟩
    rw [hI]
    have HI:=Hd hI
    have hc6:=HC5.out.only ho6 (by simp;omega)
    have hb6:=HB5.out.only ho6 (by simp;omega)
    have d8:=hc6.cell (k:=8) rfl
    have f8:=hc6.frozen 8
    have yl6:=hc6.lt
    have HC7:Hid (Cells (w6.setCell ⟨y,8,none⟩ (.string ⟨I.toArray⟩)) y 38 [.int .i64 n0,.int .i64 n1,.int .i64 n2,.int .i64 n3,.int .i64 n4,.int .i64 n5,.int .i64 n6,.string ⟨F.toArray⟩,.string ⟨I.toArray⟩,.slice none 0 0,.bool false]):=Hd (hc6.set 8 _)
    have hr7:QrAt (w6.setCell ⟨y,8,none⟩ (.string ⟨I.toArray⟩)) z (cG s):=⟨hr6.1.far (p:=⟨y,8,none⟩) (by show z ≠ y;omega) _,hr6.2⟩
    have HB7:=Hd (hb6.far (p:=⟨y,8,none⟩) (by show R ≠ y;omega) (.string ⟨I.toArray⟩))
    have HO7:=Hd ((HO5.out.trans ho6 (by intro q hq;simp at hq;exact .inr (by omega))).setCell (p:=⟨y,8,none⟩) (.inr (by show w.heap.size ≤ y;omega)) (.string ⟨I.toArray⟩))
    have CM:=Hd (qr_int z (cG s) _ hr7)
    clear hG hI hr6 ho6 hc6 hb6 hr7 CT2 HC5 HB5 HO5 d7 f7 yl
    go_wp2_with fail
    refine CM.out.mono ?_
    rintro e w8 ⟨rfl,hr8,ho8⟩
    have hnn:(cG s).int.1 = cN s:=rfl
    have hmm:(cG s).int.2 = cM s:=rfl
    have hnw:Wide64 (cN s):=hnn ▸ int_wide _
    rw [hmm] at hr8
    rw [hnn]
    obtain ⟨nn,hN⟩:∃ n,cN s = n:=⟨_,rfl⟩
    obtain ⟨mq,hM⟩:∃ q,cM s = q:=⟨_,rfl⟩
    have HNN:=Hd hN
    have HMM:=Hd hM
    rw [hN] at hnw ⊢
    rw [hM] at hr8
    have HR8:Hid (QrAt w8 z (mq.items 0).2):=Hd hr8
    have HC8:=Hd (HC7.out.only ho8 (by simp;omega))
    have HB8:=Hd (HB7.out.only ho8 (by simp;omega))
    have HO8:=Hd (HO7.out.trans ho8 (by intro q hq;simp at hq;exact .inr (by omega)))
    obtain ⟨hw1,hw2⟩:=hnw
    clear hN hM hnn hmm hr8 ho8 CM HC7 HB7 HO7 d8 f8 yl6
    go_wp2_with fail
    go_loopw [9,10] (fun i _ wr => ∃ (k:Nat) (iv:Value),k ≤ 101 ∧ ((k:Int) ≤ nn ∨ k = 0) ∧ i = .int .i64 k ∧ Hid (QrAt wr z (mq.items k).2) ∧ Hid (Cells wr y 38 [.int .i64 n0,.int .i64 n1,.int .i64 n2,.int .i64 n3,.int .i64 n4,.int .i64 n5,.int .i64 n6,.string ⟨F.toArray⟩,.string ⟨I.toArray⟩,iv,.bool false]) ∧ Hid (wr.ownsRow R 99 3 iv k (itL (mq.items k).1)) ∧ Hid (Cells wr R 38 [.int .i64 0,.int .i64 0,.int .i64 0,.int .i64 0,.int .i64 0,.int .i64 0,.int .i64 0,.string ⟨([]:List UInt8).toArray⟩,.string ⟨([]:List UInt8).toArray⟩,.slice none 0 0,.bool false]) ∧ Hid (Only [] w wr)) (fun i _ _ => 101 - (intOf i).toNat)
    case atStart => exact ⟨0,.slice none 0 0,by omega,.inr rfl,rfl,HR8,HC8,Hd (World.ownsRow_nil _ _ _ _),HB8,HO8⟩
    case round =>
     obtain ⟨k,iv,hk,hkn,rfl,hr,hz,hown,hb,ho⟩:=hrel
     have r1:=hr.out.1.cell (k:=1) rfl
     by_cases hgo:(k:Int) < nn ∧ k ≤ 100 ∧ (mq.items k).2.bad = false
     · obtain ⟨g1,g2,g3⟩:=hgo
       rw [g3] at r1
       replace r1:wr.cell? ⟨z,1,none⟩ = some (.bool true):=r1
       have g2':(k:Int) ≤ 100:=by omega
       obtain ⟨A,cap,rfl⟩:=(SlAt.of_own hown.out).shape
       obtain ⟨x,hx⟩:∃ x,(mq.items k).2.item.1 = x:=⟨_,rfl⟩
       have HX:=Hd hx
       have CE:=Hd (qr_item z (mq.items k).2 wr hr.out)
       rw [hx] at CE
       clear hx g3
       go_wp2_with fail
       refine CE.out.mono ?_
       rintro e w9 ⟨rfl,hr9,ho9⟩
       have hne:(Value.slice A k cap).ownBlock ≠ some z:=own_ne_block hown.out hr.out.1 (by decide)
       have hne2:(Value.slice A k cap).ownBlock ≠ some y:=own_ne_block hown.out hz.out (by decide)
       have hne3:(Value.slice A k cap).ownBlock ≠ some R:=own_ne_block hown.out hb.out (by decide)
       obtain ⟨wb,hwb⟩:∃ wb,w9.alloc (.cells #[.string ⟨x.id.toArray⟩,.string ⟨x.ti.toArray⟩,.string ⟨x.li.toArray⟩] 99) = wb:=⟨_,rfl⟩
       obtain ⟨bb',hbb⟩:∃ b,w9.heap.size = b:=⟨_,rfl⟩
       have ob:Only [] w9 wb:=hwb ▸ oz.alloc _
       have hbx:Cells wb bb' 99 [.string ⟨x.id.toArray⟩,.string ⟨x.ti.toArray⟩,.string ⟨x.li.toArray⟩]:=hwb ▸ hbb ▸ Cells.new w9 _ _
       have hwn:=(own_keep hown.out ho9 (by simpa using hne))
       have hwn:=own_keep hwn ob (by simp)
       have hz9':=hz.out.only ho9 (by simp;omega)
       have hz9:=hz9'.only ob (by simp)
       have z9:=hz9.cell (k:=9) rfl
       have zl:=hz9.lt
       have b0:=hbx.cell (k:=0) rfl
       have b1:=hbx.cell (k:=1) rfl
       have b2:=hbx.cell (k:=2) rfl
       have HB9:=Hd ((hb.out.only ho9 (by simp;omega)).only ob (by simp))
       have HR9:Hid (QrAt wb z (mq.items (k + 1)).2):=Hd (QrAt.only hr9 ob (by simp))
       have HO9:=Hd ((ho.out.trans ho9 (by intro q hq;simp at hq;exact .inr (by omega))).tr ob)
       have hRw:R ≤ wb.heap.size:=by have:=HO9.out.size;omega
       have HZ9:=Hd hz9
       have hen:itL (mq.items (k + 1)).1 = itL (mq.items k).1 ++ [.string ⟨x.id.toArray⟩,.string ⟨x.ti.toArray⟩,.string ⟨x.li.toArray⟩]:=by
        show itL ((mq.items k).1 ++ [(mq.items k).2.item.1]) = _
        rw [HX.out,itL_append]
        rfl
       have HEN:=Hd hen
       clear hen hr9 ho9 hr hz hown hb ho CE ob hz9 r1
       clear hbx hz9'
       dsimp only
       go_wp2_with (at_builtin;go_loud (refine wpList_appA rfl _ _ 36 rfl R 99 i0 _ 3 48 Tryz.underlying36 hi0 hz0 hz1 hz2 rfl (by decide) wb (.slice A k cap) k _ rfl hwn 1 1 [.string ⟨x.id.toArray⟩,.string ⟨x.ti.toArray⟩,.string ⟨x.li.toArray⟩] rfl rfl (by simp [Value.oneCell']) (by simp only [maxLen];omega) (by omega) hRw ?_);intro v' w10 hown10 hgrow hnew;have hz10:=HZ9.out.grown hgrow hne2;have q9:=hz10.cell (k:=9) rfl;have f9:=hz10.frozen 9;have l9:=hz10.lt;obtain ⟨A',cap',rfl⟩:=(SlAt.of_own hown10).shape)
       have hg9:(Value.slice A' (k + 1) cap').ownBlock ≠ some y:=own_ne_block hown10 hz10 (by decide)
       have hoW:Only [y] w10 (w10.setCell ⟨y,9,none⟩ (.slice A' (k + 1) cap')):=oz.setCell (.inl (by simp)) _
       have hown11:=own_keep hown10 hoW (by simpa using hg9)
       rw [← HEN.out] at hown11
       have HOWN:=Hd hown11
       have hr10:QrAt w10 z (mq.items (k + 1)).2:=⟨HR9.out.1.grown hgrow hne,HR9.out.2⟩
       have HR10:Hid (QrAt (w10.setCell ⟨y,9,none⟩ (.slice A' (k + 1) cap')) z (mq.items (k + 1)).2):=Hd (QrAt.only hr10 hoW (by simp;omega))
       have HB10:=Hd ((HB9.out.grown hgrow hne3).only hoW (by simp;omega))
       have HZ10:=Hd (hz10.set 9 (.slice A' (k + 1) cap'))
       have HO10:=Hd ((HO9.out.own hwn hgrow (by omega)).trans hoW (by intro q hq;simp at hq;exact .inr (by omega)))
       clear hown10 hgrow hnew hz10 hr10 hown11 hoW HB9 HR9 HO9 HZ9 hwn HEN
       go_wp2_with fail
       go_roundw
       case rel => exact ⟨k + 1,.slice A' (k + 1) cap',by omega,.inl (by omega),by go_num,HR10,HZ10,HOWN,HB10,HO10⟩
       case measure => simp [intOf];omega
     · obtain ⟨A,cap,rfl⟩:=(SlAt.of_own hown.out).shape
       have hex:¬ ((k:Int) < cN s ∧ k ≤ 100 ∧ (cI s k).2.bad = false):=by
        unfold cI
        rw [HNN.out,HMM.out]
        exact hgo
       have HU0:=Hd (unC_loop s hl k (by rw [HNN.out];exact hkn) hex)
       obtain ⟨its,hits⟩:∃ its,(mq.items k).1 = its:=⟨_,rfl⟩
       obtain ⟨rI,hrI⟩:∃ r,(mq.items k).2 = r:=⟨_,rfl⟩
       rw [hrI] at hr r1 hgo
       have hitl:its.length = k:=by rw [← hits];exact items_length mq k
       rw [hits] at hown
       have hlc7:(c7 s).s.length ≤ 1000000:=by unfold c7;exact after_len (r:=⟨s,false⟩) hl0 7
       have hlF:(cF s).s.length ≤ 1000000:=by unfold cF;exact text_len hlc7
       have hlG:(cG s).s.length ≤ 1000000:=by unfold cG;exact text_len hlF
       have hlM:mq.s.length ≤ 1000000:=by rw [← HMM.out];unfold cM;exact int_len hlG
       have HOK:Hid (∀ x ∈ its,x.Sm):=Hd (by rw [← hits];exact items_all (fun q hq => item_sm hq) hlM k)
       have hFl:F.length ≤ 1000000:=by rw [← HF.out];exact text_short hlc7
       have hIl:I.length ≤ 1000000:=by rw [← HI.out];exact text_short hlF
       have hcI:cI s k = (its,rI):=by unfold cI;rw [HMM.out,← hits,← hrI]
       obtain ⟨⟨fl,re⟩,hre⟩:∃ p,rI.bool = p:=⟨_,rfl⟩
       have hcE:cE s k = re:=by unfold cE;rw [hcI];dsimp only;rw [hre]
       have g:=fun j (hj:j < 7) => nth_of (k:=7) HN.out j hj
       have g0:=g 0 (by omega);have g1:=g 1 (by omega);have g2:=g 2 (by omega);have g3:=g 3 (by omega);have g4:=g 4 (by omega);have g5:=g 5 (by omega);have g6:=g 6 (by omega)
       simp only [List.getElem?_cons_zero,List.getElem?_cons_succ,Option.some.injEq] at g0 g1 g2 g3 g4 g5 g6
       have hcC:cC s k = ⟨n0,n1,n2,n3,n4,n5,n6,F,I,its,fl⟩:=by
        unfold cC
        rw [g0,g1,g2,g3,g4,g5,g6,hcI,HF.out,HI.out]
        dsimp only
        rw [hre]
       have HU:Hid (unC s = if re.bad = false ∧ 0 ≤ nn ∧ rightB ⟨n0,n1,n2,n3,n4,n5,n6,F,I,its,fl⟩ = true ∧ cmdb ⟨n0,n1,n2,n3,n4,n5,n6,F,I,its,fl⟩ = s then some ⟨n0,n1,n2,n3,n4,n5,n6,F,I,its,fl⟩ else none):=Hd (by
        have:=HU0.out
        rw [hcE,hcC,HNN.out] at this
        exact this)
       have CB:=Hd (qr_bool z rI wr hr.out)
       have HNW:Hid (∀ x ∈ [n0,n1,n2,n3,n4,n5,n6],Wide64 x):=Hd (by rw [← HN.out];exact ints_wide _ 7)
       rw [hre] at CB
       dsimp only at CB
       have hex2:decide ((k:Int) < nn) = false ∨ (decide ((k:Int) < nn) = true ∧ decide ((k:Int) ≤ 100) = false) ∨ (decide ((k:Int) < nn) = true ∧ decide ((k:Int) ≤ 100) = true ∧ rI.bad = true):=by
        by_cases e1:(k:Int) < nn
        · by_cases e2:k ≤ 100
          · refine .inr (.inr ⟨by simpa using e1,by simp;omega,?_⟩)
            cases hb:rI.bad with
            | true => rfl
            | false => exact absurd ⟨e1,e2,hb⟩ hgo
          · exact .inr (.inl ⟨by simpa using e1,by simp;omega⟩)
        · exact .inl (by simpa using e1)
       clear hgo hex HU0 hits hrI hlc7 hlF hlG hlM hcI hre hcE g g0 g1 g2 g3 g4 g5 g6 hcC HN HF HI HMM HNN HR8 HC8 HB8 HO8
       have hex3:¬ (k:Int) < nn ∨ ((k:Int) < nn ∧ ¬ (k:Int) ≤ 100) ∨ ((k:Int) < nn ∧ (k:Int) ≤ 100 ∧ rI.bad = true):=by
        rcases hex2 with e1 | ⟨e1,e2⟩ | ⟨e1,e2,e3⟩
        · exact .inl (by simpa using e1)
        · exact .inr (.inl ⟨by simpa using e1,by simpa using e2⟩)
        · exact .inr (.inr ⟨by simpa using e1,by simpa using e2,e3⟩)
       have hkm:k ≤ 1000:=by omega
       refine hideM (fun M' => ?_)
       clear hex2
       rcases hex3 with e1 | ⟨e1,e2⟩ | ⟨e1,e2,e3⟩
       rotate_left 2
       · rw [e3] at r1
         replace r1:wr.cell? ⟨z,1,none⟩ = some (.bool false):=r1
         clear e3
         go_wp2_with fail
         refine CB.out.mono ?_
         rintro e w11 ⟨rfl,hr11,ho11⟩
         dsimp only
         (try clear e2)
         clear e1
         (try clear r1)
         have hne:(Value.slice A k cap).ownBlock ≠ some z:=own_ne_block hown.out hr.out.1 (by decide)
         have hne2:(Value.slice A k cap).ownBlock ≠ some y:=own_ne_block hown.out hz.out (by decide)
         have hown11:=own_keep hown.out ho11 (by simpa using hne)
         have hc11:=hz.out.only ho11 (by simp;omega)
         have hb11:=hb.out.only ho11 (by simp;omega)
         have d10:=hc11.cell (k:=10) rfl
         have f10:=hc11.frozen 10
         have yl11:=hc11.lt
         have hoW:Only [y] w11 (w11.setCell ⟨y,10,none⟩ (.bool fl)):=oz.setCell (.inl (by simp)) _
         have HCf:Hid (Cells (w11.setCell ⟨y,10,none⟩ (.bool fl)) y 38 [.int .i64 n0,.int .i64 n1,.int .i64 n2,.int .i64 n3,.int .i64 n4,.int .i64 n5,.int .i64 n6,.string ⟨F.toArray⟩,.string ⟨I.toArray⟩,.slice A k cap,.bool fl]):=Hd (hc11.set 10 _)
         have HRf:Hid (QrAt (w11.setCell ⟨y,10,none⟩ (.bool fl)) z re):=Hd ⟨hr11.1.only hoW (by simp;omega),hr11.2⟩
         have HBf:=Hd (hb11.only hoW (by simp;omega))
         have HOf:=Hd ((ho.out.trans ho11 (by intro q hq;simp at hq;exact .inr (by omega))).trans hoW (by intro q hq;simp at hq;exact .inr (by omega)))
         have HWf:=Hd (own_keep hown11 hoW (by simpa using hne2))
         have hRf:R ≤ (w11.setCell ⟨y,10,none⟩ (.bool fl)).heap.size:=by have:=HOf.out.size;omega
         obtain ⟨wf,hwf⟩:∃ wf,w11.setCell ⟨y,10,none⟩ (.bool fl) = wf:=⟨_,rfl⟩
         rw [hwf] at HCf HRf HBf HOf HWf hRf
         have hsm:Cm.Sm ⟨n0,n1,n2,n3,n4,n5,n6,F,I,its,fl⟩:=⟨hFl,hIl,by dsimp only;omega,HOK.out⟩
         have hat:CmAt wf (.slice A k cap) ⟨n0,n1,n2,n3,n4,n5,n6,F,I,its,fl⟩:=by
          refine ⟨?_,fun x hx => (HOK.out x hx).ok.len,?_,?_,HNW.out⟩
          · have:=SlAt.of_own HWf.out
            rw [← hitl] at this ⊢
            exact this
          · unfold maxLen;dsimp only;omega
          · unfold maxLen;dsimp only;omega
         have CR:=Hd (ref18_right ⟨n0,n1,n2,n3,n4,n5,n6,F,I,its,fl⟩ (.slice A k cap) wf hat hsm)
         have HAT:=Hd hat
         have HSM:=Hd hsm
         unfold Cm.val at CR
         dsimp only at CR
         have g0:=HCf.out.cell (k:=0) rfl
         have g1:=HCf.out.cell (k:=1) rfl
         have g2:=HCf.out.cell (k:=2) rfl
         have g3:=HCf.out.cell (k:=3) rfl
         have g4:=HCf.out.cell (k:=4) rfl
         have g5:=HCf.out.cell (k:=5) rfl
         have g6:=HCf.out.cell (k:=6) rfl
         have g7:=HCf.out.cell (k:=7) rfl
         have g8:=HCf.out.cell (k:=8) rfl
         have g9:=HCf.out.cell (k:=9) rfl
         have g10:=HCf.out.cell (k:=10) rfl
         clear hr11 ho11 hown11 hc11 hb11 hoW CB hr hz hown hb ho hne hne2 hat hsm
         obtain ⟨q,hq⟩:∃ q,rightB ⟨n0,n1,n2,n3,n4,n5,n6,F,I,its,fl⟩ = q:=⟨_,rfl⟩
         rw [hq] at CR
         have HQ:=Hd hq
         clear hq
         go_wp2_with fail
         refine CR.out.mono ?_
         rintro e w12 ⟨rfl,ho12⟩
         dsimp only
         have HCg:=Hd (HCf.out.only ho12 (by simp))
         have HBg:=Hd (HBf.out.only ho12 (by simp))
         have HRg:=Hd (HRf.out.only ho12 (by simp))
         have HOg:=Hd (HOf.out.tr ho12)
         have HATg:=Hd (HAT.out.only ho12)
         have HWg:=Hd (own_keep HWf.out ho12 (by simp))
         clear ho12 CR g0 g1 g2 g3 g4 g5 g6 g7 g8 g9 g10 HCf HBf HOf HAT HRf HWf hwf d10 f10 yl11
         have HBf:=HBg
         have HOf:=HOg
         have r0:=HRg.out.1.cell (k:=0) rfl
         have r1:=HRg.out.1.cell (k:=1) rfl
         cases hbad:re.bad with
         | true =>
          have HU:Hid (unC s = none):=Hd (by rw [HU.out,if_neg (by rw [hbad];simp)])
          rw [hbad] at r1
          replace r1:w12.cell? ⟨z,1,none⟩ = some (.bool false):=r1
          clear hbad
          have hst:=HBf.out
          have hone:(#[.int .i64 0,.int .i64 0,.int .i64 0,.int .i64 0,.int .i64 0,.int .i64 0,.int .i64 0,.string ⟨([]:List UInt8).toArray⟩,.string ⟨([]:List UInt8).toArray⟩,.slice none 0 0,.bool false]:Array Value).all (·.oneCell') = true:=by simp [Value.oneCell']
          go_wp2_with (refine wpList_store_row rfl 38 _ _ rfl R #[.int .i64 0,.int .i64 0,.int .i64 0,.int .i64 0,.int .i64 0,.int .i64 0,.int .i64 0,.string ⟨([]:List UInt8).toArray⟩,.string ⟨([]:List UInt8).toArray⟩,.slice none 0 0,.bool false] rfl rfl 38 _ hst (by kernel_rfl) rfl hone ?_)
          (try simp only [Exit.inBlock,Exit.then])
          refine bodyPost_ret (v:=.tuple #[.agg #[.int .i64 0,.int .i64 0,.int .i64 0,.int .i64 0,.int .i64 0,.int .i64 0,.int .i64 0,.string ⟨([]:List UInt8).toArray⟩,.string ⟨([]:List UInt8).toArray⟩,.slice none 0 0,.bool false],.int .i64 8]) ?_ rfl ⟨.slice none 0 0,by rw [HU.out];rfl,by rw [HU.out];exact cm_zero_at _,HOf.out.setRow (.inr (by omega)) _,fun g hg => by simp [Value.ownBlock] at hg⟩
          exact results_row_tmp Tryz.results86 _ _ R 38 [.int .i64 0,.int .i64 0,.int .i64 0,.int .i64 0,.int .i64 0,.int .i64 0,.int .i64 0,.string ⟨([]:List UInt8).toArray⟩,.string ⟨([]:List UInt8).toArray⟩,.slice none 0 0,.bool false] _ rfl (Cells.setRow HBf.out [.int .i64 0,.int .i64 0,.int .i64 0,.int .i64 0,.int .i64 0,.int .i64 0,.int .i64 0,.string ⟨([]:List UInt8).toArray⟩,.string ⟨([]:List UInt8).toArray⟩,.slice none 0 0,.bool false]) Tryz.underlying38 rfl (by kernel_rfl)
         | false =>
          rw [hbad] at r1
          replace r1:w12.cell? ⟨z,1,none⟩ = some (.bool true):=r1
          by_cases h0:nn < 0
          · have HU:Hid (unC s = none):=Hd (by rw [HU.out,if_neg (by rintro ⟨_,h,_⟩;omega)])
            clear hbad
            have hst:=HBf.out
            have hone:(#[.int .i64 0,.int .i64 0,.int .i64 0,.int .i64 0,.int .i64 0,.int .i64 0,.int .i64 0,.string ⟨([]:List UInt8).toArray⟩,.string ⟨([]:List UInt8).toArray⟩,.slice none 0 0,.bool false]:Array Value).all (·.oneCell') = true:=by simp [Value.oneCell']
            go_wp2_with (refine wpList_store_row rfl 38 _ _ rfl R #[.int .i64 0,.int .i64 0,.int .i64 0,.int .i64 0,.int .i64 0,.int .i64 0,.int .i64 0,.string ⟨([]:List UInt8).toArray⟩,.string ⟨([]:List UInt8).toArray⟩,.slice none 0 0,.bool false] rfl rfl 38 _ hst (by kernel_rfl) rfl hone ?_)
            (try simp only [Exit.inBlock,Exit.then])
            refine bodyPost_ret (v:=.tuple #[.agg #[.int .i64 0,.int .i64 0,.int .i64 0,.int .i64 0,.int .i64 0,.int .i64 0,.int .i64 0,.string ⟨([]:List UInt8).toArray⟩,.string ⟨([]:List UInt8).toArray⟩,.slice none 0 0,.bool false],.int .i64 8]) ?_ rfl ⟨.slice none 0 0,by rw [HU.out];rfl,by rw [HU.out];exact cm_zero_at _,HOf.out.setRow (.inr (by omega)) _,fun g hg => by simp [Value.ownBlock] at hg⟩
            exact results_row_tmp Tryz.results86 _ _ R 38 [.int .i64 0,.int .i64 0,.int .i64 0,.int .i64 0,.int .i64 0,.int .i64 0,.int .i64 0,.string ⟨([]:List UInt8).toArray⟩,.string ⟨([]:List UInt8).toArray⟩,.slice none 0 0,.bool false] _ rfl (Cells.setRow HBf.out [.int .i64 0,.int .i64 0,.int .i64 0,.int .i64 0,.int .i64 0,.int .i64 0,.int .i64 0,.string ⟨([]:List UInt8).toArray⟩,.string ⟨([]:List UInt8).toArray⟩,.slice none 0 0,.bool false]) Tryz.underlying38 rfl (by kernel_rfl)
          · cases q with
            | false =>
               have HU:Hid (unC s = none):=Hd (by rw [HU.out,if_neg (by rw [HQ.out];simp)])
               clear hbad
               have hst:=HBf.out
               have hone:(#[.int .i64 0,.int .i64 0,.int .i64 0,.int .i64 0,.int .i64 0,.int .i64 0,.int .i64 0,.string ⟨([]:List UInt8).toArray⟩,.string ⟨([]:List UInt8).toArray⟩,.slice none 0 0,.bool false]:Array Value).all (·.oneCell') = true:=by simp [Value.oneCell']
               go_wp2_with (refine wpList_store_row rfl 38 _ _ rfl R #[.int .i64 0,.int .i64 0,.int .i64 0,.int .i64 0,.int .i64 0,.int .i64 0,.int .i64 0,.string ⟨([]:List UInt8).toArray⟩,.string ⟨([]:List UInt8).toArray⟩,.slice none 0 0,.bool false] rfl rfl 38 _ hst (by kernel_rfl) rfl hone ?_)
               (try simp only [Exit.inBlock,Exit.then])
               refine bodyPost_ret (v:=.tuple #[.agg #[.int .i64 0,.int .i64 0,.int .i64 0,.int .i64 0,.int .i64 0,.int .i64 0,.int .i64 0,.string ⟨([]:List UInt8).toArray⟩,.string ⟨([]:List UInt8).toArray⟩,.slice none 0 0,.bool false],.int .i64 8]) ?_ rfl ⟨.slice none 0 0,by rw [HU.out];rfl,by rw [HU.out];exact cm_zero_at _,HOf.out.setRow (.inr (by omega)) _,fun g hg => by simp [Value.ownBlock] at hg⟩
               exact results_row_tmp Tryz.results86 _ _ R 38 [.int .i64 0,.int .i64 0,.int .i64 0,.int .i64 0,.int .i64 0,.int .i64 0,.int .i64 0,.string ⟨([]:List UInt8).toArray⟩,.string ⟨([]:List UInt8).toArray⟩,.slice none 0 0,.bool false] _ rfl (Cells.setRow HBf.out [.int .i64 0,.int .i64 0,.int .i64 0,.int .i64 0,.int .i64 0,.int .i64 0,.int .i64 0,.string ⟨([]:List UInt8).toArray⟩,.string ⟨([]:List UInt8).toArray⟩,.slice none 0 0,.bool false]) Tryz.underlying38 rfl (by kernel_rfl)
            | true =>
               have CY:=Hd (ref18_bytes ⟨n0,n1,n2,n3,n4,n5,n6,F,I,its,fl⟩ (.slice A k cap) w12 HATg.out HSM.out)
               unfold Cm.val at CY
               dsimp only at CY
               have g0:=HCg.out.cell (k:=0) rfl
               have g1:=HCg.out.cell (k:=1) rfl
               have g2:=HCg.out.cell (k:=2) rfl
               have g3:=HCg.out.cell (k:=3) rfl
               have g4:=HCg.out.cell (k:=4) rfl
               have g5:=HCg.out.cell (k:=5) rfl
               have g6:=HCg.out.cell (k:=6) rfl
               have g7:=HCg.out.cell (k:=7) rfl
               have g8:=HCg.out.cell (k:=8) rfl
               have g9:=HCg.out.cell (k:=9) rfl
               have g10:=HCg.out.cell (k:=10) rfl
               obtain ⟨B,hB⟩:∃ B,cmdb ⟨n0,n1,n2,n3,n4,n5,n6,F,I,its,fl⟩ = B:=⟨_,rfl⟩
               rw [hB] at CY
               have HBB:=Hd hB
               have HBD:=Hd hbad
               clear hB hbad
               go_wp2_with fail
               refine CY.out.mono ?_
               rintro e w13 ⟨rfl,ho13⟩
               dsimp only
               have HCh:=Hd (HCg.out.only ho13 (by simp))
               have HBh:=Hd (HBg.out.only ho13 (by simp))
               have HOh:=Hd (HOg.out.tr ho13)
               have HATh:=Hd (HATg.out.only ho13)
               have HWh:=Hd (own_keep HWg.out ho13 (by simp))
               clear ho13 CY g0 g1 g2 g3 g4 g5 g6 g7 g8 g9 g10 HCg HBg HOg HATg HWg HBf HOf r1 HRg
               by_cases hBs:B = s
               · have HU:Hid (unC s = some ⟨n0,n1,n2,n3,n4,n5,n6,F,I,its,fl⟩):=Hd (by rw [HU.out,if_pos ⟨HBD.out,by omega,HQ.out,HBB.out.trans hBs⟩])
                 have hBe:(!(B == s)) = false:=by simp [hBs]
                 have hoR:Only [R] w13 (w13.setRow R #[.int .i64 n0,.int .i64 n1,.int .i64 n2,.int .i64 n3,.int .i64 n4,.int .i64 n5,.int .i64 n6,.string ⟨F.toArray⟩,.string ⟨I.toArray⟩,.slice A k cap,.bool fl]):=oz.setRow (.inl (by simp)) _
                 have HATR:Hid (CmAt (w13.setRow R #[.int .i64 n0,.int .i64 n1,.int .i64 n2,.int .i64 n3,.int .i64 n4,.int .i64 n5,.int .i64 n6,.string ⟨F.toArray⟩,.string ⟨I.toArray⟩,.slice A k cap,.bool fl]) (.slice A k cap) ⟨n0,n1,n2,n3,n4,n5,n6,F,I,its,fl⟩):=Hd (by
                      refine ⟨?_,HATh.out.len,HATh.out.fd,HATh.out.id,HATh.out.nums⟩
                      have hnR:(Value.slice A k cap).ownBlock ≠ some R:=own_ne_block HWh.out HBh.out (by decide)
                      have hsz:=HOh.out.size
                      have:=SlAt.of_own (own_keep HWh.out hoR (by simpa using hnR))
                      rw [← hitl] at this ⊢
                      refine this.more ?_
                      have:=hoR.size
                      omega)
                 clear hoR hBs
                 have g0:=HCh.out.cell (k:=0) rfl
                 have g1:=HCh.out.cell (k:=1) rfl
                 have g2:=HCh.out.cell (k:=2) rfl
                 have g3:=HCh.out.cell (k:=3) rfl
                 have g4:=HCh.out.cell (k:=4) rfl
                 have g5:=HCh.out.cell (k:=5) rfl
                 have g6:=HCh.out.cell (k:=6) rfl
                 have g7:=HCh.out.cell (k:=7) rfl
                 have g8:=HCh.out.cell (k:=8) rfl
                 have g9:=HCh.out.cell (k:=9) rfl
                 have g10:=HCh.out.cell (k:=10) rfl
                 have hst:=HBh.out
                 have hone:(#[.int .i64 n0,.int .i64 n1,.int .i64 n2,.int .i64 n3,.int .i64 n4,.int .i64 n5,.int .i64 n6,.string ⟨F.toArray⟩,.string ⟨I.toArray⟩,.slice A k cap,.bool fl]:Array Value).all (·.oneCell') = true:=by simp [Value.oneCell']
                 go_wp2_with (refine wpList_store_row rfl 38 _ _ rfl R #[.int .i64 n0,.int .i64 n1,.int .i64 n2,.int .i64 n3,.int .i64 n4,.int .i64 n5,.int .i64 n6,.string ⟨F.toArray⟩,.string ⟨I.toArray⟩,.slice A k cap,.bool fl] rfl rfl 38 _ hst (by kernel_rfl) rfl hone ?_)
                 (try simp only [Exit.inBlock,Exit.then])
                 refine bodyPost_ret (v:=.tuple #[.agg #[.int .i64 n0,.int .i64 n1,.int .i64 n2,.int .i64 n3,.int .i64 n4,.int .i64 n5,.int .i64 n6,.string ⟨F.toArray⟩,.string ⟨I.toArray⟩,.slice A k cap,.bool fl],.int .i64 0]) ?_ rfl ⟨.slice A k cap,by rw [HU.out];rfl,by rw [HU.out];exact HATR.out,HOh.out.setRow (.inr (by omega)) _,fun g hg => by first | (have:=(HWg.out.lt g hg).1;omega) | (have:=(HWh.out.lt g hg).1;omega)⟩
                 exact results_row_tmp Tryz.results86 _ _ R 38 [.int .i64 n0,.int .i64 n1,.int .i64 n2,.int .i64 n3,.int .i64 n4,.int .i64 n5,.int .i64 n6,.string ⟨F.toArray⟩,.string ⟨I.toArray⟩,.slice A k cap,.bool fl] _ rfl (Cells.setRow HBh.out [.int .i64 n0,.int .i64 n1,.int .i64 n2,.int .i64 n3,.int .i64 n4,.int .i64 n5,.int .i64 n6,.string ⟨F.toArray⟩,.string ⟨I.toArray⟩,.slice A k cap,.bool fl]) Tryz.underlying38 rfl (by kernel_rfl)
               · have HU:Hid (unC s = none):=Hd (by rw [HU.out,if_neg (by rintro ⟨_,_,_,h⟩;exact hBs (HBB.out.symm.trans h))])
                 have hBe:(!(B == s)) = true:=by simp [hBs]
                 have HBf:=HBh
                 have HOf:=HOh
                 clear hBs
                 have hst:=HBf.out
                 have hone:(#[.int .i64 0,.int .i64 0,.int .i64 0,.int .i64 0,.int .i64 0,.int .i64 0,.int .i64 0,.string ⟨([]:List UInt8).toArray⟩,.string ⟨([]:List UInt8).toArray⟩,.slice none 0 0,.bool false]:Array Value).all (·.oneCell') = true:=by simp [Value.oneCell']
                 go_wp2_with (refine wpList_store_row rfl 38 _ _ rfl R #[.int .i64 0,.int .i64 0,.int .i64 0,.int .i64 0,.int .i64 0,.int .i64 0,.int .i64 0,.string ⟨([]:List UInt8).toArray⟩,.string ⟨([]:List UInt8).toArray⟩,.slice none 0 0,.bool false] rfl rfl 38 _ hst (by kernel_rfl) rfl hone ?_)
                 (try simp only [Exit.inBlock,Exit.then])
                 refine bodyPost_ret (v:=.tuple #[.agg #[.int .i64 0,.int .i64 0,.int .i64 0,.int .i64 0,.int .i64 0,.int .i64 0,.int .i64 0,.string ⟨([]:List UInt8).toArray⟩,.string ⟨([]:List UInt8).toArray⟩,.slice none 0 0,.bool false],.int .i64 8]) ?_ rfl ⟨.slice none 0 0,by rw [HU.out];rfl,by rw [HU.out];exact cm_zero_at _,HOf.out.setRow (.inr (by omega)) _,fun g hg => by simp [Value.ownBlock] at hg⟩
                 exact results_row_tmp Tryz.results86 _ _ R 38 [.int .i64 0,.int .i64 0,.int .i64 0,.int .i64 0,.int .i64 0,.int .i64 0,.int .i64 0,.string ⟨([]:List UInt8).toArray⟩,.string ⟨([]:List UInt8).toArray⟩,.slice none 0 0,.bool false] _ rfl (Cells.setRow HBf.out [.int .i64 0,.int .i64 0,.int .i64 0,.int .i64 0,.int .i64 0,.int .i64 0,.int .i64 0,.string ⟨([]:List UInt8).toArray⟩,.string ⟨([]:List UInt8).toArray⟩,.slice none 0 0,.bool false]) Tryz.underlying38 rfl (by kernel_rfl)
       all_goals
        clear r1
        go_wp2_with fail
        refine CB.out.mono ?_
        rintro e w11 ⟨rfl,hr11,ho11⟩
        dsimp only
        (try clear e2)
        clear e1
        (try clear r1)
        have hne:(Value.slice A k cap).ownBlock ≠ some z:=own_ne_block hown.out hr.out.1 (by decide)
        have hne2:(Value.slice A k cap).ownBlock ≠ some y:=own_ne_block hown.out hz.out (by decide)
        have hown11:=own_keep hown.out ho11 (by simpa using hne)
        have hc11:=hz.out.only ho11 (by simp;omega)
        have hb11:=hb.out.only ho11 (by simp;omega)
        have d10:=hc11.cell (k:=10) rfl
        have f10:=hc11.frozen 10
        have yl11:=hc11.lt
        have hoW:Only [y] w11 (w11.setCell ⟨y,10,none⟩ (.bool fl)):=oz.setCell (.inl (by simp)) _
        have HCf:Hid (Cells (w11.setCell ⟨y,10,none⟩ (.bool fl)) y 38 [.int .i64 n0,.int .i64 n1,.int .i64 n2,.int .i64 n3,.int .i64 n4,.int .i64 n5,.int .i64 n6,.string ⟨F.toArray⟩,.string ⟨I.toArray⟩,.slice A k cap,.bool fl]):=Hd (hc11.set 10 _)
        have HRf:Hid (QrAt (w11.setCell ⟨y,10,none⟩ (.bool fl)) z re):=Hd ⟨hr11.1.only hoW (by simp;omega),hr11.2⟩
        have HBf:=Hd (hb11.only hoW (by simp;omega))
        have HOf:=Hd ((ho.out.trans ho11 (by intro q hq;simp at hq;exact .inr (by omega))).trans hoW (by intro q hq;simp at hq;exact .inr (by omega)))
        have HWf:=Hd (own_keep hown11 hoW (by simpa using hne2))
        have hRf:R ≤ (w11.setCell ⟨y,10,none⟩ (.bool fl)).heap.size:=by have:=HOf.out.size;omega
        obtain ⟨wf,hwf⟩:∃ wf,w11.setCell ⟨y,10,none⟩ (.bool fl) = wf:=⟨_,rfl⟩
        rw [hwf] at HCf HRf HBf HOf HWf hRf
        have hsm:Cm.Sm ⟨n0,n1,n2,n3,n4,n5,n6,F,I,its,fl⟩:=⟨hFl,hIl,by dsimp only;omega,HOK.out⟩
        have hat:CmAt wf (.slice A k cap) ⟨n0,n1,n2,n3,n4,n5,n6,F,I,its,fl⟩:=by
         refine ⟨?_,fun x hx => (HOK.out x hx).ok.len,?_,?_,HNW.out⟩
         · have:=SlAt.of_own HWf.out
           rw [← hitl] at this ⊢
           exact this
         · unfold maxLen;dsimp only;omega
         · unfold maxLen;dsimp only;omega
        have CR:=Hd (ref18_right ⟨n0,n1,n2,n3,n4,n5,n6,F,I,its,fl⟩ (.slice A k cap) wf hat hsm)
        have HAT:=Hd hat
        have HSM:=Hd hsm
        unfold Cm.val at CR
        dsimp only at CR
        have g0:=HCf.out.cell (k:=0) rfl
        have g1:=HCf.out.cell (k:=1) rfl
        have g2:=HCf.out.cell (k:=2) rfl
        have g3:=HCf.out.cell (k:=3) rfl
        have g4:=HCf.out.cell (k:=4) rfl
        have g5:=HCf.out.cell (k:=5) rfl
        have g6:=HCf.out.cell (k:=6) rfl
        have g7:=HCf.out.cell (k:=7) rfl
        have g8:=HCf.out.cell (k:=8) rfl
        have g9:=HCf.out.cell (k:=9) rfl
        have g10:=HCf.out.cell (k:=10) rfl
        clear hr11 ho11 hown11 hc11 hb11 hoW CB hr hz hown hb ho hne hne2 hat hsm
        obtain ⟨q,hq⟩:∃ q,rightB ⟨n0,n1,n2,n3,n4,n5,n6,F,I,its,fl⟩ = q:=⟨_,rfl⟩
        rw [hq] at CR
        have HQ:=Hd hq
        clear hq
        go_wp2_with fail
        refine CR.out.mono ?_
        rintro e w12 ⟨rfl,ho12⟩
        dsimp only
        have HCg:=Hd (HCf.out.only ho12 (by simp))
        have HBg:=Hd (HBf.out.only ho12 (by simp))
        have HRg:=Hd (HRf.out.only ho12 (by simp))
        have HOg:=Hd (HOf.out.tr ho12)
        have HATg:=Hd (HAT.out.only ho12)
        have HWg:=Hd (own_keep HWf.out ho12 (by simp))
        clear ho12 CR g0 g1 g2 g3 g4 g5 g6 g7 g8 g9 g10 HCf HBf HOf HAT HRf HWf hwf d10 f10 yl11
        have HBf:=HBg
        have HOf:=HOg
        have r0:=HRg.out.1.cell (k:=0) rfl
        have r1:=HRg.out.1.cell (k:=1) rfl
        cases hbad:re.bad with
        | true =>
         have HU:Hid (unC s = none):=Hd (by rw [HU.out,if_neg (by rw [hbad];simp)])
         rw [hbad] at r1
         replace r1:w12.cell? ⟨z,1,none⟩ = some (.bool false):=r1
         clear hbad
         have hst:=HBf.out
         have hone:(#[.int .i64 0,.int .i64 0,.int .i64 0,.int .i64 0,.int .i64 0,.int .i64 0,.int .i64 0,.string ⟨([]:List UInt8).toArray⟩,.string ⟨([]:List UInt8).toArray⟩,.slice none 0 0,.bool false]:Array Value).all (·.oneCell') = true:=by simp [Value.oneCell']
         go_wp2_with (refine wpList_store_row rfl 38 _ _ rfl R #[.int .i64 0,.int .i64 0,.int .i64 0,.int .i64 0,.int .i64 0,.int .i64 0,.int .i64 0,.string ⟨([]:List UInt8).toArray⟩,.string ⟨([]:List UInt8).toArray⟩,.slice none 0 0,.bool false] rfl rfl 38 _ hst (by kernel_rfl) rfl hone ?_)
         (try simp only [Exit.inBlock,Exit.then])
         refine bodyPost_ret (v:=.tuple #[.agg #[.int .i64 0,.int .i64 0,.int .i64 0,.int .i64 0,.int .i64 0,.int .i64 0,.int .i64 0,.string ⟨([]:List UInt8).toArray⟩,.string ⟨([]:List UInt8).toArray⟩,.slice none 0 0,.bool false],.int .i64 8]) ?_ rfl ⟨.slice none 0 0,by rw [HU.out];rfl,by rw [HU.out];exact cm_zero_at _,HOf.out.setRow (.inr (by omega)) _,fun g hg => by simp [Value.ownBlock] at hg⟩
         exact results_row_tmp Tryz.results86 _ _ R 38 [.int .i64 0,.int .i64 0,.int .i64 0,.int .i64 0,.int .i64 0,.int .i64 0,.int .i64 0,.string ⟨([]:List UInt8).toArray⟩,.string ⟨([]:List UInt8).toArray⟩,.slice none 0 0,.bool false] _ rfl (Cells.setRow HBf.out [.int .i64 0,.int .i64 0,.int .i64 0,.int .i64 0,.int .i64 0,.int .i64 0,.int .i64 0,.string ⟨([]:List UInt8).toArray⟩,.string ⟨([]:List UInt8).toArray⟩,.slice none 0 0,.bool false]) Tryz.underlying38 rfl (by kernel_rfl)
        | false =>
         rw [hbad] at r1
         replace r1:w12.cell? ⟨z,1,none⟩ = some (.bool true):=r1
         by_cases h0:nn < 0
         · have HU:Hid (unC s = none):=Hd (by rw [HU.out,if_neg (by rintro ⟨_,h,_⟩;omega)])
           clear hbad
           have hst:=HBf.out
           have hone:(#[.int .i64 0,.int .i64 0,.int .i64 0,.int .i64 0,.int .i64 0,.int .i64 0,.int .i64 0,.string ⟨([]:List UInt8).toArray⟩,.string ⟨([]:List UInt8).toArray⟩,.slice none 0 0,.bool false]:Array Value).all (·.oneCell') = true:=by simp [Value.oneCell']
           go_wp2_with (refine wpList_store_row rfl 38 _ _ rfl R #[.int .i64 0,.int .i64 0,.int .i64 0,.int .i64 0,.int .i64 0,.int .i64 0,.int .i64 0,.string ⟨([]:List UInt8).toArray⟩,.string ⟨([]:List UInt8).toArray⟩,.slice none 0 0,.bool false] rfl rfl 38 _ hst (by kernel_rfl) rfl hone ?_)
           (try simp only [Exit.inBlock,Exit.then])
           refine bodyPost_ret (v:=.tuple #[.agg #[.int .i64 0,.int .i64 0,.int .i64 0,.int .i64 0,.int .i64 0,.int .i64 0,.int .i64 0,.string ⟨([]:List UInt8).toArray⟩,.string ⟨([]:List UInt8).toArray⟩,.slice none 0 0,.bool false],.int .i64 8]) ?_ rfl ⟨.slice none 0 0,by rw [HU.out];rfl,by rw [HU.out];exact cm_zero_at _,HOf.out.setRow (.inr (by omega)) _,fun g hg => by simp [Value.ownBlock] at hg⟩
           exact results_row_tmp Tryz.results86 _ _ R 38 [.int .i64 0,.int .i64 0,.int .i64 0,.int .i64 0,.int .i64 0,.int .i64 0,.int .i64 0,.string ⟨([]:List UInt8).toArray⟩,.string ⟨([]:List UInt8).toArray⟩,.slice none 0 0,.bool false] _ rfl (Cells.setRow HBf.out [.int .i64 0,.int .i64 0,.int .i64 0,.int .i64 0,.int .i64 0,.int .i64 0,.int .i64 0,.string ⟨([]:List UInt8).toArray⟩,.string ⟨([]:List UInt8).toArray⟩,.slice none 0 0,.bool false]) Tryz.underlying38 rfl (by kernel_rfl)
         · cases q with
           | false =>
               have HU:Hid (unC s = none):=Hd (by rw [HU.out,if_neg (by rw [HQ.out];simp)])
               clear hbad
               have hst:=HBf.out
               have hone:(#[.int .i64 0,.int .i64 0,.int .i64 0,.int .i64 0,.int .i64 0,.int .i64 0,.int .i64 0,.string ⟨([]:List UInt8).toArray⟩,.string ⟨([]:List UInt8).toArray⟩,.slice none 0 0,.bool false]:Array Value).all (·.oneCell') = true:=by simp [Value.oneCell']
               go_wp2_with (refine wpList_store_row rfl 38 _ _ rfl R #[.int .i64 0,.int .i64 0,.int .i64 0,.int .i64 0,.int .i64 0,.int .i64 0,.int .i64 0,.string ⟨([]:List UInt8).toArray⟩,.string ⟨([]:List UInt8).toArray⟩,.slice none 0 0,.bool false] rfl rfl 38 _ hst (by kernel_rfl) rfl hone ?_)
               (try simp only [Exit.inBlock,Exit.then])
               refine bodyPost_ret (v:=.tuple #[.agg #[.int .i64 0,.int .i64 0,.int .i64 0,.int .i64 0,.int .i64 0,.int .i64 0,.int .i64 0,.string ⟨([]:List UInt8).toArray⟩,.string ⟨([]:List UInt8).toArray⟩,.slice none 0 0,.bool false],.int .i64 8]) ?_ rfl ⟨.slice none 0 0,by rw [HU.out];rfl,by rw [HU.out];exact cm_zero_at _,HOf.out.setRow (.inr (by omega)) _,fun g hg => by simp [Value.ownBlock] at hg⟩
               exact results_row_tmp Tryz.results86 _ _ R 38 [.int .i64 0,.int .i64 0,.int .i64 0,.int .i64 0,.int .i64 0,.int .i64 0,.int .i64 0,.string ⟨([]:List UInt8).toArray⟩,.string ⟨([]:List UInt8).toArray⟩,.slice none 0 0,.bool false] _ rfl (Cells.setRow HBf.out [.int .i64 0,.int .i64 0,.int .i64 0,.int .i64 0,.int .i64 0,.int .i64 0,.int .i64 0,.string ⟨([]:List UInt8).toArray⟩,.string ⟨([]:List UInt8).toArray⟩,.slice none 0 0,.bool false]) Tryz.underlying38 rfl (by kernel_rfl)
           | true =>
               have CY:=Hd (ref18_bytes ⟨n0,n1,n2,n3,n4,n5,n6,F,I,its,fl⟩ (.slice A k cap) w12 HATg.out HSM.out)
               unfold Cm.val at CY
               dsimp only at CY
               have g0:=HCg.out.cell (k:=0) rfl
               have g1:=HCg.out.cell (k:=1) rfl
               have g2:=HCg.out.cell (k:=2) rfl
               have g3:=HCg.out.cell (k:=3) rfl
               have g4:=HCg.out.cell (k:=4) rfl
               have g5:=HCg.out.cell (k:=5) rfl
               have g6:=HCg.out.cell (k:=6) rfl
               have g7:=HCg.out.cell (k:=7) rfl
               have g8:=HCg.out.cell (k:=8) rfl
               have g9:=HCg.out.cell (k:=9) rfl
               have g10:=HCg.out.cell (k:=10) rfl
               obtain ⟨B,hB⟩:∃ B,cmdb ⟨n0,n1,n2,n3,n4,n5,n6,F,I,its,fl⟩ = B:=⟨_,rfl⟩
               rw [hB] at CY
               have HBB:=Hd hB
               have HBD:=Hd hbad
               clear hB hbad
               go_wp2_with fail
               refine CY.out.mono ?_
               rintro e w13 ⟨rfl,ho13⟩
               dsimp only
               have HCh:=Hd (HCg.out.only ho13 (by simp))
               have HBh:=Hd (HBg.out.only ho13 (by simp))
               have HOh:=Hd (HOg.out.tr ho13)
               have HATh:=Hd (HATg.out.only ho13)
               have HWh:=Hd (own_keep HWg.out ho13 (by simp))
               clear ho13 CY g0 g1 g2 g3 g4 g5 g6 g7 g8 g9 g10 HCg HBg HOg HATg HWg HBf HOf r1 HRg
               by_cases hBs:B = s
               · have HU:Hid (unC s = some ⟨n0,n1,n2,n3,n4,n5,n6,F,I,its,fl⟩):=Hd (by rw [HU.out,if_pos ⟨HBD.out,by omega,HQ.out,HBB.out.trans hBs⟩])
                 have hBe:(!(B == s)) = false:=by simp [hBs]
                 have hoR:Only [R] w13 (w13.setRow R #[.int .i64 n0,.int .i64 n1,.int .i64 n2,.int .i64 n3,.int .i64 n4,.int .i64 n5,.int .i64 n6,.string ⟨F.toArray⟩,.string ⟨I.toArray⟩,.slice A k cap,.bool fl]):=oz.setRow (.inl (by simp)) _
                 have HATR:Hid (CmAt (w13.setRow R #[.int .i64 n0,.int .i64 n1,.int .i64 n2,.int .i64 n3,.int .i64 n4,.int .i64 n5,.int .i64 n6,.string ⟨F.toArray⟩,.string ⟨I.toArray⟩,.slice A k cap,.bool fl]) (.slice A k cap) ⟨n0,n1,n2,n3,n4,n5,n6,F,I,its,fl⟩):=Hd (by
                      refine ⟨?_,HATh.out.len,HATh.out.fd,HATh.out.id,HATh.out.nums⟩
                      have hnR:(Value.slice A k cap).ownBlock ≠ some R:=own_ne_block HWh.out HBh.out (by decide)
                      have hsz:=HOh.out.size
                      have:=SlAt.of_own (own_keep HWh.out hoR (by simpa using hnR))
                      rw [← hitl] at this ⊢
                      refine this.more ?_
                      have:=hoR.size
                      omega)
                 clear hoR hBs
                 have g0:=HCh.out.cell (k:=0) rfl
                 have g1:=HCh.out.cell (k:=1) rfl
                 have g2:=HCh.out.cell (k:=2) rfl
                 have g3:=HCh.out.cell (k:=3) rfl
                 have g4:=HCh.out.cell (k:=4) rfl
                 have g5:=HCh.out.cell (k:=5) rfl
                 have g6:=HCh.out.cell (k:=6) rfl
                 have g7:=HCh.out.cell (k:=7) rfl
                 have g8:=HCh.out.cell (k:=8) rfl
                 have g9:=HCh.out.cell (k:=9) rfl
                 have g10:=HCh.out.cell (k:=10) rfl
                 have hst:=HBh.out
                 have hone:(#[.int .i64 n0,.int .i64 n1,.int .i64 n2,.int .i64 n3,.int .i64 n4,.int .i64 n5,.int .i64 n6,.string ⟨F.toArray⟩,.string ⟨I.toArray⟩,.slice A k cap,.bool fl]:Array Value).all (·.oneCell') = true:=by simp [Value.oneCell']
                 go_wp2_with (refine wpList_store_row rfl 38 _ _ rfl R #[.int .i64 n0,.int .i64 n1,.int .i64 n2,.int .i64 n3,.int .i64 n4,.int .i64 n5,.int .i64 n6,.string ⟨F.toArray⟩,.string ⟨I.toArray⟩,.slice A k cap,.bool fl] rfl rfl 38 _ hst (by kernel_rfl) rfl hone ?_)
                 (try simp only [Exit.inBlock,Exit.then])
                 refine bodyPost_ret (v:=.tuple #[.agg #[.int .i64 n0,.int .i64 n1,.int .i64 n2,.int .i64 n3,.int .i64 n4,.int .i64 n5,.int .i64 n6,.string ⟨F.toArray⟩,.string ⟨I.toArray⟩,.slice A k cap,.bool fl],.int .i64 0]) ?_ rfl ⟨.slice A k cap,by rw [HU.out];rfl,by rw [HU.out];exact HATR.out,HOh.out.setRow (.inr (by omega)) _,fun g hg => by first | (have:=(HWg.out.lt g hg).1;omega) | (have:=(HWh.out.lt g hg).1;omega)⟩
                 exact results_row_tmp Tryz.results86 _ _ R 38 [.int .i64 n0,.int .i64 n1,.int .i64 n2,.int .i64 n3,.int .i64 n4,.int .i64 n5,.int .i64 n6,.string ⟨F.toArray⟩,.string ⟨I.toArray⟩,.slice A k cap,.bool fl] _ rfl (Cells.setRow HBh.out [.int .i64 n0,.int .i64 n1,.int .i64 n2,.int .i64 n3,.int .i64 n4,.int .i64 n5,.int .i64 n6,.string ⟨F.toArray⟩,.string ⟨I.toArray⟩,.slice A k cap,.bool fl]) Tryz.underlying38 rfl (by kernel_rfl)
               · have HU:Hid (unC s = none):=Hd (by rw [HU.out,if_neg (by rintro ⟨_,_,_,h⟩;exact hBs (HBB.out.symm.trans h))])
                 have hBe:(!(B == s)) = true:=by simp [hBs]
                 have HBf:=HBh
                 have HOf:=HOh
                 clear hBs
                 have hst:=HBf.out
                 have hone:(#[.int .i64 0,.int .i64 0,.int .i64 0,.int .i64 0,.int .i64 0,.int .i64 0,.int .i64 0,.string ⟨([]:List UInt8).toArray⟩,.string ⟨([]:List UInt8).toArray⟩,.slice none 0 0,.bool false]:Array Value).all (·.oneCell') = true:=by simp [Value.oneCell']
                 go_wp2_with (refine wpList_store_row rfl 38 _ _ rfl R #[.int .i64 0,.int .i64 0,.int .i64 0,.int .i64 0,.int .i64 0,.int .i64 0,.int .i64 0,.string ⟨([]:List UInt8).toArray⟩,.string ⟨([]:List UInt8).toArray⟩,.slice none 0 0,.bool false] rfl rfl 38 _ hst (by kernel_rfl) rfl hone ?_)
                 (try simp only [Exit.inBlock,Exit.then])
                 refine bodyPost_ret (v:=.tuple #[.agg #[.int .i64 0,.int .i64 0,.int .i64 0,.int .i64 0,.int .i64 0,.int .i64 0,.int .i64 0,.string ⟨([]:List UInt8).toArray⟩,.string ⟨([]:List UInt8).toArray⟩,.slice none 0 0,.bool false],.int .i64 8]) ?_ rfl ⟨.slice none 0 0,by rw [HU.out];rfl,by rw [HU.out];exact cm_zero_at _,HOf.out.setRow (.inr (by omega)) _,fun g hg => by simp [Value.ownBlock] at hg⟩
                 exact results_row_tmp Tryz.results86 _ _ R 38 [.int .i64 0,.int .i64 0,.int .i64 0,.int .i64 0,.int .i64 0,.int .i64 0,.int .i64 0,.string ⟨([]:List UInt8).toArray⟩,.string ⟨([]:List UInt8).toArray⟩,.slice none 0 0,.bool false] _ rfl (Cells.setRow HBf.out [.int .i64 0,.int .i64 0,.int .i64 0,.int .i64 0,.int .i64 0,.int .i64 0,.int .i64 0,.string ⟨([]:List UInt8).toArray⟩,.string ⟨([]:List UInt8).toArray⟩,.slice none 0 0,.bool false]) Tryz.underlying38 rfl (by kernel_rfl)
def Rd.post (r:Rd):Po × Rd:=(⟨r.int.1,r.int.2.item.1,r.int.2.item.2.bool.1⟩,r.int.2.item.2.bool.2)
def Rd.posts (r:Rd):Nat → List Po × Rd
 | 0 => ([],r)
 | k + 1 => ((r.posts k).1 ++ [(r.posts k).2.post.1],(r.posts k).2.post.2)
theorem post_in {r:Rd} (h:r.post.2.bad = false) (hl:r.s.length ≤ 1000000000000):r.bad = false ∧ r.s = poB r.post.1 ++ r.post.2.s:=by
 have l1:=int_len hl
 obtain ⟨a1,a2⟩:=bool_in (r:=r.int.2.item.2) h
 obtain ⟨b1,b2⟩:=item_in (r:=r.int.2) a1 l1
 obtain ⟨c1,_,c2⟩:=int_in (r:=r) b1
 refine ⟨c1,?_⟩
 show r.s = ib r.int.1 ++ (itB r.int.2.item.1 ++ bb r.int.2.item.2.bool.1) ++ r.int.2.item.2.bool.2.s
 rw [List.append_assoc,List.append_assoc,← a2,← b2,← c2]
structure Po.Ok (x:Po):Prop where
 sq:Wide64 x.sq
 it:x.it.Ok
theorem Po.Sm.ok {x:Po} (h:x.Sm):x.Ok:=⟨h.sq,h.it.ok⟩
theorem post_out (x:Po) (hx:x.Ok) (t:List UInt8) (q:Bool):Rd.post ⟨poB x ++ t,q⟩ = (x,⟨t,q⟩):=by
 have h1:=int_out x.sq hx.sq (itB x.it ++ (bb x.rd ++ t)) q
 have h2:=item_out x.it hx.it (bb x.rd ++ t) q
 have h3:=bool_out x.rd t q
 have e:poB x ++ t = ib x.sq ++ (itB x.it ++ (bb x.rd ++ t)):=by unfold poB;simp
 unfold Rd.post
 rw [e,h1]
 dsimp only
 rw [h2]
 dsimp only
 rw [h3]
theorem post_len {r:Rd} {n:Nat} (h:r.s.length ≤ n):r.post.2.s.length ≤ n:=bool_len (item_len (int_len h))
theorem post_ok {r:Rd} (h:r.s.length ≤ 1000000000000):r.post.1.Ok:=⟨int_wide _,item_ok (int_len h)⟩
theorem post_sm {r:Rd} (h:r.s.length ≤ 1000000):r.post.1.Sm:=⟨int_wide _,item_sm (int_len h)⟩
theorem posts_len {r:Rd} {n:Nat} (h:r.s.length ≤ n):∀ k,(r.posts k).2.s.length ≤ n
 | 0 => h
 | k + 1 => post_len (posts_len h k)
theorem posts_length (r:Rd):∀ k,(r.posts k).1.length = k
 | 0 => rfl
 | k + 1 => by show ((r.posts k).1 ++ [_]).length = _;rw [List.length_append,posts_length r k];rfl
theorem posts_all {r:Rd} {n:Nat} {p:Po → Prop} (hp:∀ q:Rd,q.s.length ≤ n → p q.post.1) (h:r.s.length ≤ n):∀ k,∀ x ∈ (r.posts k).1,p x
 | 0 => fun x hx => (List.not_mem_nil hx).elim
 | k + 1 => fun x hx => by
  rcases List.mem_append.1 hx with hx | hx
  · exact posts_all hp h k x hx
  · obtain rfl:=List.mem_singleton.1 hx
    exact hp _ (posts_len h k)
theorem psB_end (l:List Po) (x:Po):psB18 (l ++ [x]) = psB18 l ++ poB x:=by unfold psB18;rw [List.flatMap_append];simp
theorem posts_in (r:Rd) (hl:r.s.length ≤ 1000000000000):∀ k:Nat,(r.posts k).2.bad = false → r.bad = false ∧ r.s = psB18 (r.posts k).1 ++ (r.posts k).2.s
 | 0,h => ⟨h,rfl⟩
 | k + 1,h => by
  obtain ⟨a1,a2⟩:=post_in (r:=(r.posts k).2) h (posts_len hl k)
  obtain ⟨b1,b2⟩:=posts_in r hl k a1
  refine ⟨b1,?_⟩
  rw [b2,a2]
  show _ = psB18 ((r.posts k).1 ++ [(r.posts k).2.post.1]) ++ (r.posts k).2.post.2.s
  rw [psB_end,List.append_assoc]
theorem posts_out (l:List Po) (t:List UInt8) (q:Bool) (hw:∀ x ∈ l,x.Ok):∀ k,k ≤ l.length → Rd.posts ⟨psB18 l ++ t,q⟩ k = (l.take k,⟨psB18 (l.drop k) ++ t,q⟩):=by
 intro k
 induction k with
 | zero => intro _;rfl
 | succ k ih =>
  intro hk
  have a1:=ih (by omega)
  have h1:l.drop k = l[k] :: l.drop (k + 1):=List.drop_eq_getElem_cons (by omega)
  show ((Rd.posts ⟨psB18 l ++ t,q⟩ k).1 ++ [(Rd.posts ⟨psB18 l ++ t,q⟩ k).2.post.1],(Rd.posts ⟨psB18 l ++ t,q⟩ k).2.post.2) = _
  rw [a1]
  dsimp only
  have h2:psB18 (l.drop k) ++ t = poB l[k] ++ (psB18 (l.drop (k + 1)) ++ t):=by rw [h1,← List.append_assoc];rfl
  rw [h2,post_out _ (hw _ (List.getElem_mem _)),List.take_add_one,List.getElem?_eq_getElem (by omega)]
  rfl
theorem post_bad {r:Rd} (h:r.bad = true):r.post.2.bad = true:=get_bad (get_bad (get_bad (get_bad (get_bad h))))
theorem posts_bad {r:Rd} (h:r.bad = true):∀ k,(r.posts k).2.bad = true
 | 0 => h
 | k + 1 => post_bad (posts_bad h k)
theorem posts_mono (r:Rd) (j:Nat) (h:(r.posts j).2.bad = true):∀ m,(r.posts (j + m)).2.bad = true
 | 0 => h
 | m + 1 => post_bad (posts_mono r j h m)
def aE (s:List UInt8):Int:=(Rd.int ⟨s,false⟩).1
def a1 (s:List UInt8):Rd:=(Rd.int ⟨s,false⟩).2
def aN (s:List UInt8):Int:=(a1 s).int.1
def a2 (s:List UInt8):Rd:=(a1 s).int.2
def aK (s:List UInt8):Int:=(a2 s).int.1
def a3 (s:List UInt8):Rd:=(a2 s).int.2
structure Rp.Ok (r:Rp):Prop where
 er:0 ≤ r.er ∧ r.er ≤ 19
 n:Wide64 r.n
 len:r.ps.length ≤ 100
 ps:∀ x ∈ r.ps,x.Ok
def unA (s:List UInt8):Option Rp:=
 if (0 ≤ aK s ∧ aK s ≤ 100) ∧ ((a3 s).posts (aK s).toNat).2.bad = false ∧ ((a3 s).posts (aK s).toNat).2.s = [] ∧ 0 ≤ aE s ∧ aE s ≤ 19 then some ⟨aE s,aN s,((a3 s).posts (aK s).toNat).1⟩ else none
theorem a1_len {s:List UInt8} {n:Nat} (h:s.length ≤ n):(a1 s).s.length ≤ n:=by unfold a1;exact int_len h
theorem a2_len {s:List UInt8} {n:Nat} (h:s.length ≤ n):(a2 s).s.length ≤ n:=by unfold a2;exact int_len (a1_len h)
theorem a3_len {s:List UInt8} {n:Nat} (h:s.length ≤ n):(a3 s).s.length ≤ n:=by unfold a3;exact int_len (a2_len h)
theorem rp_out (r:Rp) (h1:Wide64 r.er) (h2:Wide64 r.n) (h3:r.ps.length ≤ 1000000000000) (h4:∀ x ∈ r.ps,x.Ok):aE (rpb r) = r.er ∧ aN (rpb r) = r.n ∧ aK (rpb r) = r.ps.length ∧ (∀ k,k ≤ r.ps.length → (a3 (rpb r)).posts k = (r.ps.take k,⟨psB18 (r.ps.drop k),false⟩)):=by
 obtain ⟨s,hs⟩:∃ s,rpb r = s:=⟨_,rfl⟩
 have e0:s = ib r.er ++ (ib r.n ++ (ib r.ps.length ++ psB18 r.ps)):=by rw [← hs];unfold rpb rpH;simp
 have g1:=int_out r.er h1 (ib r.n ++ (ib r.ps.length ++ psB18 r.ps)) false
 rw [← e0] at g1
 have e1:a1 s = ⟨ib r.n ++ (ib r.ps.length ++ psB18 r.ps),false⟩:=by unfold a1;rw [g1]
 have g2:=int_out r.n h2 (ib r.ps.length ++ psB18 r.ps) false
 rw [← e1] at g2
 have e2:a2 s = ⟨ib r.ps.length ++ psB18 r.ps,false⟩:=by unfold a2;rw [g2]
 have g3:=int_out r.ps.length ⟨by omega,by omega⟩ (psB18 r.ps) false
 rw [← e2] at g3
 have e3:a3 s = ⟨psB18 r.ps,false⟩:=by unfold a3;rw [g3]
 rw [hs]
 refine ⟨by unfold aE;rw [g1],by unfold aN;rw [g2],by unfold aK;rw [g3],fun k hk => ?_⟩
 rw [e3]
 have:=posts_out r.ps [] false h4 k hk
 rw [List.append_nil,List.append_nil] at this
 exact this
theorem unA_iff (s:List UInt8) (hl:s.length ≤ 1000000000000) (r:Rp):unA s = some r ↔ r.Ok ∧ rpb r = s:=by
 unfold unA
 constructor
 · intro h
   split at h
   · rename_i hc
     obtain ⟨⟨h0,h1⟩,h2,h3,h4,h5⟩:=hc
     injection h with h
     subst h
     have hpl:=posts_length (a3 s) (aK s).toNat
     obtain ⟨b1,e1⟩:=posts_in (a3 s) (a3_len hl) _ h2
     rw [h3,List.append_nil] at e1
     unfold a3 at b1
     obtain ⟨b2,_,e2⟩:=int_in (r:=a2 s) b1
     unfold a2 at b2
     obtain ⟨b3,w3,e3⟩:=int_in (r:=a1 s) b2
     unfold a1 at b3
     obtain ⟨b4,_,e4⟩:=int_in (r:=⟨s,false⟩) b3
     refine ⟨⟨⟨h4,h5⟩,?_,by dsimp only;omega,posts_all (fun q hq => post_ok hq) (a3_len hl) _⟩,?_⟩
     · unfold aN;exact w3
     · unfold rpb rpH
       dsimp only
       have f2:(a2 s).s = ib (aK s) ++ (a3 s).s:=by unfold aK a3;exact e2
       have f3:(a1 s).s = ib (aN s) ++ (a2 s).s:=by unfold aN a2;exact e3
       have f4:s = ib (aE s) ++ (a1 s).s:=by unfold aE a1;exact e4
       rw [hpl,show (((aK s).toNat:Nat):Int) = aK s from by omega]
       simp only [List.append_assoc]
       rw [← e1,← f2,← f3,← f4]
   · cases h
 · rintro ⟨h1,rfl⟩
   have he:=h1.er
   have hn:=h1.len
   obtain ⟨b1,b2,b3,b4⟩:=rp_out r ⟨by omega,by omega⟩ h1.n (by omega) h1.ps
   have e:(aK (rpb r)).toNat = r.ps.length:=by rw [b3];simp
   have:=b4 r.ps.length (Nat.le_refl _)
   rw [List.take_length,List.drop_length] at this
   rw [e,this,b1,b2,b3]
   rw [if_pos ⟨⟨by omega,by omega⟩,rfl,rfl,he⟩]
theorem unA_many (s:List UInt8) (mv:Int) (mq re:Rd) (ps:List Po) (hm:(a2 s).many = (mv,mq)) (hi:mq.posts mv.toNat = (ps,re)):
 unA s = if re.bad = false ∧ re.s = [] ∧ 0 ≤ aE s ∧ aE s ≤ 19 then some ⟨aE s,aN s,ps⟩ else none:=by
 have hcm:(a2 s).int = (aK s,a3 s):=by unfold aK a3;exact (Prod.eta _).symm
 unfold Rd.many at hm
 rw [hcm] at hm
 dsimp only at hm
 split at hm
 · rename_i hbad
   simp only [Prod.mk.injEq] at hm
   obtain ⟨rfl,rfl⟩:=hm
   have hrb:re.bad = true:=by
    have h1:=posts_bad (r:=⟨(a3 s).s,true⟩) rfl (0:Int).toNat
    rw [hi] at h1
    exact h1
   rw [if_neg (by rw [hrb];simp)]
   unfold unA
   rw [if_neg]
   rintro ⟨h0,h1,_⟩
   rcases hbad with hbad | hbad | hbad
   · have:=posts_bad hbad (aK s).toNat
     rw [h1] at this
     cases this
   · omega
   · omega
 · rename_i hbad
   simp only [Prod.mk.injEq] at hm
   obtain ⟨rfl,rfl⟩:=hm
   have h0:0 ≤ aK s ∧ aK s ≤ 100:=by
    constructor
    · rcases Int.lt_or_le (aK s) 0 with h | h
      · exact absurd (.inr (.inl h)) hbad
      · exact h
    · rcases Int.lt_or_le 100 (aK s) with h | h
      · exact absurd (.inr (.inr h)) hbad
      · exact h
   unfold unA
   rw [hi]
   by_cases hc:re.bad = false ∧ re.s = [] ∧ 0 ≤ aE s ∧ aE s ≤ 19
   · rw [if_pos hc,if_pos ⟨h0,hc⟩]
   · rw [if_neg hc,if_neg (fun h => hc h.2)]
theorem unA_loop (s:List UInt8) (k:Nat) (hk:(k:Int) ≤ aK s ∨ k = 0) (hex:¬ ((k:Int) < aK s ∧ k ≤ 100 ∧ ((a3 s).posts k).2.bad = false)):
 unA s = if ((a3 s).posts k).2.bad = false ∧ 0 ≤ aE s ∧ aE s ≤ 19 ∧ 0 ≤ aK s ∧ aK s ≤ 100 ∧ ((a3 s).posts k).2.s = [] then some ⟨aE s,aN s,((a3 s).posts k).1⟩ else none:=by
 by_cases h0:0 ≤ aK s ∧ aK s ≤ 100
 · by_cases hkk:k = (aK s).toNat
   · rw [hkk]
     unfold unA
     by_cases hc:((a3 s).posts (aK s).toNat).2.bad = false ∧ ((a3 s).posts (aK s).toNat).2.s = [] ∧ 0 ≤ aE s ∧ aE s ≤ 19
     · rw [if_pos ⟨h0,hc⟩,if_pos ⟨hc.1,hc.2.2.1,hc.2.2.2,h0.1,h0.2,hc.2.1⟩]
     · rw [if_neg (fun h => hc h.2),if_neg (fun h => hc ⟨h.1,h.2.2.2.2.2,h.2.1,h.2.2.1⟩)]
   · have hb:((a3 s).posts k).2.bad = true:=by
      cases hb:((a3 s).posts k).2.bad with
      | true => rfl
      | false => exact absurd ⟨by omega,by omega,hb⟩ hex
     have hb2:=posts_mono (a3 s) k hb ((aK s).toNat - k)
     rw [show k + ((aK s).toNat - k) = (aK s).toNat from by omega] at hb2
     unfold unA
     rw [if_neg (by rw [hb2];simp),if_neg (by rw [hb];simp)]
 · unfold unA
   rw [if_neg (fun h => h0 h.1),if_neg (fun h => h0 ⟨h.2.2.2.1,h.2.2.2.2.1⟩)]
end Go.Proofs.YtcjfmildalappaaGreat
