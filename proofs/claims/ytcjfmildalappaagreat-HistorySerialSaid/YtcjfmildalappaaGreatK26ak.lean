/-
  Contracts; each theorem bears its own conditions.
-/
import Derived.Test.YtcjfmildalappaaGreatK26ab
import Derived.Test.YtcjfmildalappaaGreatK26ad
import Derived.Test.YtcjfmildalappaaGreatK26ai
import Derived.Test.YtcjfmildalappaaGreatK26aj
set_option linter.all false
set_option maxRecDepth 100000
set_option maxHeartbeats 8000000
namespace Go.Proofs.YtcjfmildalappaaGreat
open Go.RowKit
def itB (x:It):List UInt8:=tb x.id ++ (tb x.ti ++ tb x.li)
def itsB (l:List It):List UInt8:=l.flatMap itB
def Cm.n7 (c:Cm):List Int:=[c.kd,c.ss,c.sq,c.sh,c.nd,c.ep,c.n]
def cmH (c:Cm):List UInt8:=isb c.n7 ++ (tb c.fd ++ (tb c.id ++ ib c.its.length))
def cmdb (c:Cm):List UInt8:=cmH c ++ (itsB c.its ++ bb c.fl)
structure It.Sm (x:It):Prop where
 id:x.id.length ≤ 1000000
 ti:x.ti.length ≤ 1000000
 li:x.li.length ≤ 1000000
structure Cm.Sm (c:Cm):Prop where
 fd:c.fd.length ≤ 1000000
 id:c.id.length ≤ 1000000
 n:c.its.length ≤ 1000
 its:∀ x ∈ c.its,x.Sm
theorem tb_le (s:List UInt8) (n:Nat) (h:s.length ≤ n) (hn:n ≤ 1000000):(tb s).length ≤ n + 10:=Nat.le_trans (tb_length s (by omega)).2 (by omega)
theorem itB_le (x:It) (h:x.Sm):(itB x).length ≤ 3000030:=by
 have h1:=tb_le x.id 1000000 h.id (by omega)
 have h2:=tb_le x.ti 1000000 h.ti (by omega)
 have h3:=tb_le x.li 1000000 h.li (by omega)
 unfold itB
 rw [List.length_append,List.length_append]
 omega
theorem itsB_le:∀ (l:List It),(∀ x ∈ l,x.Sm) → (itsB l).length ≤ 3000030 * l.length
 | [],_ => by simp [itsB]
 | x :: r,h => by
  have h1:=itB_le x (h x (by simp))
  have h2:=itsB_le r (fun y hy => h y (by simp [hy]))
  unfold itsB at h2 ⊢
  rw [List.flatMap_cons,List.length_append,List.length_cons]
  omega
theorem itsB_snoc (l:List It) (k:Nat) (x:It) (h:l[k]? = some x):itsB (l.take (k + 1)) = itsB (l.take k) ++ itB x:=by
 unfold itsB
 rw [List.take_add_one,h,List.flatMap_append]
 simp
theorem itsB_take (l:List It) (h:∀ x ∈ l,x.Sm) (k:Nat):(itsB (l.take k)).length ≤ 3000030 * l.length:=by
 have h1:=itsB_le (l.take k) (fun x hx => h x (List.mem_of_mem_take hx))
 rw [List.length_take] at h1
 have h2:min k l.length ≤ l.length:=Nat.min_le_right _ _
 have:=Nat.mul_le_mul_left 3000030 h2
 omega
theorem isb7_le (c:Cm) (h:∀ x ∈ c.n7,Wide64 x):(isb c.n7).length ≤ 70:=by
 have:=isb_length c.n7 h
 have e:c.n7.length = 7:=rfl
 omega
theorem cm_cells {w:World} {z:Nat} {c:Cm} {iv:Value} (h:Cells w z 38 (c.cells iv)):
 w.cell? ⟨z,0,none⟩ = some (.int .i64 c.kd) ∧ w.cell? ⟨z,1,none⟩ = some (.int .i64 c.ss) ∧ w.cell? ⟨z,2,none⟩ = some (.int .i64 c.sq) ∧ w.cell? ⟨z,3,none⟩ = some (.int .i64 c.sh) ∧ w.cell? ⟨z,4,none⟩ = some (.int .i64 c.nd) ∧ w.cell? ⟨z,5,none⟩ = some (.int .i64 c.ep) ∧ w.cell? ⟨z,6,none⟩ = some (.int .i64 c.n) ∧ w.cell? ⟨z,7,none⟩ = some (.string ⟨c.fd.toArray⟩) ∧ w.cell? ⟨z,8,none⟩ = some (.string ⟨c.id.toArray⟩) ∧ w.cell? ⟨z,9,none⟩ = some iv ∧ w.cell? ⟨z,10,none⟩ = some (.bool c.fl):=by
 unfold Cm.cells at h
 obtain ⟨c0,c1,c2,c3,c4,c5,c6,c7,c8,c9,c10⟩:=h.c11
 exact ⟨c0,c1,c2,c3,c4,c5,c6,c7,c8,c9,c10⟩
theorem ref18_item (x:It) (hx:x.Sm) (w:World):Calls Tryz.prog 118 #[.agg #[.string ⟨x.id.toArray⟩,.string ⟨x.ti.toArray⟩,.string ⟨x.li.toArray⟩]] w fun e w' => e = .returned (.string ⟨(itB x).toArray⟩) ∧ Only [] w w':=by
 have h1:=hx.id
 have h2:=hx.ti
 have h3:=hx.li
 have l1:=tb_le x.id 1000000 h1 (by omega)
 have l2:=tb_le x.ti 1000000 h2 (by omega)
 have l3:=tb_le x.li 1000000 h3 (by omega)
 obtain ⟨w1,hw1⟩:∃ w1,w.alloc (.cells #[.string ⟨x.id.toArray⟩,.string ⟨x.ti.toArray⟩,.string ⟨x.li.toArray⟩] 99) = w1:=⟨_,rfl⟩
 obtain ⟨z,hz⟩:∃ z,w.heap.size = z:=⟨_,rfl⟩
 have O1:Only [] w w1:=hw1 ▸ oz.alloc _
 have hC:Cells w1 z 99 x.cells:=hw1 ▸ hz ▸ Cells.new w _ _
 have t0:=fun u:Since w1 => u.cell (hC.cell (k:=0) rfl)
 have t1:=fun u:Since w1 => u.cell (hC.cell (k:=1) rfl)
 have t2:=fun u:Since w1 => u.cell (hC.cell (k:=2) rfl)
 have C0:=Hd (fun (s:List UInt8) w' (h:s.length ≤ 1000000) => ref_text s w' (by omega))
 have HB:Hid (itB x = tb x.id ++ tb x.ti ++ tb x.li):=Hd (by unfold itB;simp)
 have HO:=Hd O1
 clear O1 hC
 go_enter Tryz.func118,Tryz.ntmps118
 go_wp2_with fail
 clear hw1 hz
 refine wp_region_only w1 oz (by kernel_rfl) (by kernel_rfl) ?_
 repeat (go_big_quiet_step (first
  | (go_at_call 99;refine Calls.only (C0.out _ _ (by assumption)))))
 refine wpQuiet_nil ?_
 rintro ⟨w8,ho8⟩
 dsimp only
 go_wp2_with fail
 go_ret
 exact ⟨by rw [HB.out];simp [ba_append],HO.out.tr ho8⟩
theorem ref18_bytes (c:Cm) (iv:Value) (w:World) (h:CmAt w iv c) (hs:c.Sm):
 Calls Tryz.prog 83 #[c.val iv] w fun e w' => e = .returned (.string ⟨(cmdb c).toArray⟩) ∧ Only [] w w':=by
 obtain ⟨IA,ic,rfl⟩:=h.its.shape
 have W7:∀ x ∈ c.n7,Wide64 x:=h.nums
 have h7:=isb7_le c W7
 have hf1:=hs.fd
 have hd1:=hs.id
 have hn1:=hs.n
 have wen:Wide64 (c.its.length:Int):=⟨by omega,by omega⟩
 have l1:=tb_le c.fd 1000000 hf1 (by omega)
 have l2:=tb_le c.id 1000000 hd1 (by omega)
 have l3:=(ib_length _ wen).2
 have l4:(bb c.fl).length = 1:=rfl
 have HT:=Hd (itsB_take c.its hs.its)
 have H:=Hd h
 have HW7:=Hd W7
 have HSI:=Hd hs.its
 have CT:=Hd (fun (s:List UInt8) w' (h:s.length ≤ 1000000) => ref_text s w' (by omega))
 have HH:Hid (cmH c = isb c.n7 ++ tb c.fd ++ tb c.id ++ ib c.its.length):=Hd (by unfold cmH;simp)
 have HCM:Hid (cmdb c = cmH c ++ itsB c.its ++ bb c.fl):=Hd (by unfold cmdb;simp)
 have HN7:Hid (c.n7 = [c.kd,c.ss,c.sq,c.sh,c.nd,c.ep,c.n]):=Hd rfl
 obtain ⟨w0,hw0⟩:∃ w0,w.alloc (.cells #[.int .i64 c.kd,.int .i64 c.ss,.int .i64 c.sq,.int .i64 c.sh,.int .i64 c.nd,.int .i64 c.ep,.int .i64 c.n,.string ⟨c.fd.toArray⟩,.string ⟨c.id.toArray⟩,.slice IA c.its.length ic,.bool c.fl] 38) = w0:=⟨_,rfl⟩
 obtain ⟨z,hz⟩:∃ z,w.heap.size = z:=⟨_,rfl⟩
 have O0:Only [] w w0:=hw0 ▸ oz.alloc _
 have hZ:Cells w0 z 38 (c.cells (.slice IA c.its.length ic)):=hw0 ▸ hz ▸ Cells.new w _ _
 obtain ⟨w1,hw1⟩:∃ w1,w0.alloc (.cells #[.int .i64 c.kd,.int .i64 c.ss,.int .i64 c.sq,.int .i64 c.sh,.int .i64 c.nd,.int .i64 c.ep,.int .i64 c.n] 3) = w1:=⟨_,rfl⟩
 obtain ⟨y,hy⟩:∃ y,w0.heap.size = y:=⟨_,rfl⟩
 have O1:Only [] w0 w1:=hw1 ▸ oz.alloc _
 have hQ1:Cells w1 y 3 (gvs c.n7):=hw1 ▸ hy ▸ Cells.new w0 _ _
 have HZ1:=Hd (hZ.only O1 (by simp))
 have HQ1:=Hd hQ1
 have HB1:=Hd (O0.tr O1)
 obtain ⟨c0,c1,c2,c3,c4,c5,c6,c7,c8,c9,c10⟩:=cm_cells hZ
 unfold Cm.val
 clear h hs W7 hQ1 O0 O1 hZ
 go_enter Tryz.func83,Tryz.ntmps83
 go_wp2_with fail
 clear hw0 hz hw1 hy c0 c1 c2 c3 c4 c5 c6 c7 c8 c9 c10
 go_loopw [4,5] (fun q i wr => ∃ k:Nat,k ≤ 7 ∧ i = .int .i64 k ∧ q = .string ⟨(isb (c.n7.take k)).toArray⟩ ∧ Hid (Only [] w1 wr)) (fun _ i _ => 7 - (intOf i).toNat)
 case atStart => exact ⟨0,by omega,rfl,by simp [isb],Hd oz⟩
 case round =>
  obtain ⟨k,hk,rfl,rfl,ho⟩:=hrel
  by_cases hlt:k < 7
  · have hlt':(k:Int) < 7:=by omega
    obtain ⟨x,hx⟩:∃ x,c.n7[k]? = some x:=⟨_,List.getElem?_eq_getElem (show k < 7 from hlt)⟩
    have q0:wr.cell? ⟨y,k,none⟩ = some (.int .i64 x):=(HQ1.out.only ho.out (by simp)).cell (by unfold gvs;rw [List.getElem?_map,hx];rfl)
    have hxw:=HW7.out x (List.mem_of_getElem? hx)
    have hsn:=isb_snoc c.n7 k x hx
    have hlen:(isb (c.n7.take k)).length ≤ 70:=by
     have:=isb_length (c.n7.take k) (fun y hy => HW7.out y (List.mem_of_mem_take hy))
     rw [List.length_take] at this;omega
    have hxl:=(ib_length x hxw).2
    have HSN:=Hd hsn
    have CX:=Hd (ref_int x wr hxw)
    clear hx hsn hxw
    go_wp2_with fail
    refine CX.out.mono ?_
    rintro e w2 ⟨rfl,ho2⟩
    have hoD:=Hd (ho.out.tr ho2)
    clear ho2 CX
    go_wp2_with fail
    go_roundw
    case rel => exact ⟨k + 1,by omega,by go_num,by rw [HSN.out];simp [ba_append],hoD⟩
    case measure => simp [intOf];omega
  · obtain rfl:k = 7:=by omega
    have hd:decide ((7:Int) < 7) = false:=by simp
    rw [show c.n7.take 7 = c.n7 from rfl,show ((7:Nat):Int) = 7 from rfl]
    obtain ⟨I7,hI7⟩:∃ I,isb c.n7 = I:=⟨_,rfl⟩
    rw [hI7] at h7 HH ⊢
    have HZr:=Hd (HZ1.out.only ho.out (by simp))
    obtain ⟨c0,c1,c2,c3,c4,c5,c6,c7,c8,c9,c10⟩:=cm_cells HZr.out
    have t7:=fun u:Since wr => u.cell c7
    have t8:=fun u:Since wr => u.cell c8
    have t9:=fun u:Since wr => u.cell c9
    clear c0 c1 c2 c3 c4 c5 c6 c7 c8 c9 c10 hI7
    go_wp2_with fail
    refine wp_region_only wr oz (by kernel_rfl) (by kernel_rfl) ?_
    repeat (go_big_quiet_step (first
     | (go_at_call 99;refine Calls.only (CT.out _ _ (by assumption)))
     | (go_at_call 117;refine Calls.only (ref_int _ _ (by assumption)))))
    refine wpQuiet_nil ?_
    rintro ⟨w8,ho8⟩
    dsimp only
    have hs:(⟨I7.toArray⟩ ++ ⟨(tb c.fd).toArray⟩ ++ ⟨(tb c.id).toArray⟩ ++ ⟨(ib (c.its.length:Int)).toArray⟩:ByteArray) = ⟨(cmH c).toArray⟩:=by rw [HH.out];simp [ba_append]
    rw [hs]
    have hla:(cmH c).length ≤ 3000000:=by rw [HH.out,List.length_append,List.length_append,List.length_append];omega
    obtain ⟨MA,hMA⟩:∃ MA,cmH c = MA:=⟨_,rfl⟩
    rw [hMA] at hla HCM ⊢
    have HZ8:=Hd (HZr.out.only ho8 (by simp))
    have HO8:=Hd ((HB1.out.tr ho.out).tr ho8)
    clear hs hMA HH ho8 ho HZr t7 t8 t9 HZ1 HQ1 HB1
    go_wp2_with fail
    go_loopw [4,6] (fun q i wq => ∃ k:Nat,k ≤ c.its.length ∧ i = .int .i64 k ∧ q = .string ⟨(MA ++ itsB (c.its.take k)).toArray⟩ ∧ Hid (Cells wq z 38 (c.cells (.slice IA c.its.length ic))) ∧ Hid (Only [] w wq)) (fun _ i _ => c.its.length - (intOf i).toNat)
    case atStart => exact ⟨0,by omega,rfl,by simp [itsB],HZ8,HO8⟩
    case round =>
     obtain ⟨k,hk,rfl,rfl,hZ,ho⟩:=hrel
     obtain ⟨c0,c1,c2,c3,c4,c5,c6,c7,c8,c9,c10⟩:=cm_cells hZ.out
     have hln:=HT.out k
     have hsz:3000030 * c.its.length ≤ 3000030000:=by omega
     by_cases hlt:k < c.its.length
     · have hlt':(k:Int) < (c.its.length:Int):=by omega
       obtain ⟨x,hx⟩:∃ x,c.its[k]? = some x:=⟨_,List.getElem?_eq_getElem hlt⟩
       obtain ⟨b1,o1,c1',e1,q0,q1,q2⟩:=itL_at (H.out.only ho.out).its hx
       have hxs:=HSI.out x (List.mem_of_getElem? hx)
       have hxl:=itB_le x hxs
       have hsn:=itsB_snoc c.its k x hx
       have CX:=Hd (ref18_item x hxs wr)
       injection e1 with i1 i2 i3
       subst i1
       subst i3
       obtain ⟨EB,hEB⟩:∃ T,itsB (c.its.take k) = T:=⟨_,rfl⟩
       obtain ⟨XB,hXB⟩:∃ T,itB x = T:=⟨_,rfl⟩
       rw [hEB] at hsn hln ⊢
       rw [hXB] at hsn hxl CX
       have HSN:=Hd hsn
       clear hx i2 hsn hEB hXB hxs
       go_wp2_with fail
       clear c0 c1 c2 c3 c4 c5 c6 c7 c8 c9 c10 q0 q1 q2
       refine CX.out.mono ?_
       rintro e w9 ⟨rfl,ho9⟩
       have hZ':=Hd (hZ.out.only ho9 (by simp))
       have ho':=Hd (ho.out.tr ho9)
       clear ho9 CX
       go_wp2_with fail
       go_roundw
       case rel => exact ⟨k + 1,by omega,by go_num,by rw [HSN.out];simp [ba_append],hZ',ho'⟩
       case measure => simp [intOf];omega
     · obtain rfl:k = c.its.length:=by omega
       have hd2:decide ((c.its.length:Int) < (c.its.length:Int)) = false:=by simp
       rw [List.take_length] at hln ⊢
       have CB:=Hd (ref_bool c.fl wr)
       obtain ⟨EB,hEB⟩:∃ T,itsB c.its = T:=⟨_,rfl⟩
       obtain ⟨FB,hFB⟩:∃ T,bb c.fl = T:=⟨_,rfl⟩
       rw [hEB] at HCM hln ⊢
       rw [hFB] at HCM l4 CB
       clear hEB hFB HT
       go_wp2_with fail
       refine CB.out.mono ?_
       rintro e w9 ⟨rfl,rfl⟩
       go_wp2_with fail
       go_ret
       exact ⟨by rw [HCM.out];simp [ba_append],ho.out⟩
def Rd.item (r:Rd):It × Rd:=(⟨r.text.1,r.text.2.text.1,r.text.2.text.2.text.1⟩,r.text.2.text.2.text.2)
def Rd.items (r:Rd):Nat → List It × Rd
 | 0 => ([],r)
 | k + 1 => ((r.items k).1 ++ [(r.items k).2.item.1],(r.items k).2.item.2)
theorem item_in {r:Rd} (h:r.item.2.bad = false) (hl:r.s.length ≤ 1000000000000):r.bad = false ∧ r.s = itB r.item.1 ++ r.item.2.s:=by
 have l1:=text_len hl
 have l2:=text_len l1
 obtain ⟨a1,a2⟩:=text_in (r:=r.text.2.text.2) h l2
 obtain ⟨b1,b2⟩:=text_in (r:=r.text.2) a1 l1
 obtain ⟨c1,c2⟩:=text_in (r:=r) b1 hl
 refine ⟨c1,?_⟩
 show r.s = tb r.text.1 ++ (tb r.text.2.text.1 ++ tb r.text.2.text.2.text.1) ++ r.text.2.text.2.text.2.s
 rw [List.append_assoc,List.append_assoc,← a2,← b2,← c2]
structure It.Ok (x:It):Prop where
 id:x.id.length ≤ 1000000000000
 ti:x.ti.length ≤ 1000000000000
 li:x.li.length ≤ 1000000000000
theorem It.Sm.ok {x:It} (h:x.Sm):x.Ok:=by
 have:=h.id;have:=h.ti;have:=h.li
 exact ⟨by omega,by omega,by omega⟩
theorem It.Ok.len {x:It} (h:x.Ok):x.Len:=by
 have:=h.id;have:=h.ti;have:=h.li
 constructor <;> unfold maxLen <;> omega
theorem item_out (x:It) (hx:x.Ok) (t:List UInt8) (q:Bool):Rd.item ⟨itB x ++ t,q⟩ = (x,⟨t,q⟩):=by
 have h1:=text_out x.id (tb x.ti ++ (tb x.li ++ t)) hx.id q
 have h2:=text_out x.ti (tb x.li ++ t) hx.ti q
 have h3:=text_out x.li t hx.li q
 have e:itB x ++ t = tb x.id ++ (tb x.ti ++ (tb x.li ++ t)):=by unfold itB;simp
 unfold Rd.item
 rw [e,h1]
 dsimp only
 rw [h2]
 dsimp only
 rw [h3]
theorem item_len {r:Rd} {n:Nat} (h:r.s.length ≤ n):r.item.2.s.length ≤ n:=text_len (text_len (text_len h))
theorem item_ok {r:Rd} (h:r.s.length ≤ 1000000000000):r.item.1.Ok:=⟨text_short h,text_short (text_len h),text_short (text_len (text_len h))⟩
theorem item_sm {r:Rd} (h:r.s.length ≤ 1000000):r.item.1.Sm:=⟨text_short h,text_short (text_len h),text_short (text_len (text_len h))⟩
theorem items_len {r:Rd} {n:Nat} (h:r.s.length ≤ n):∀ k,(r.items k).2.s.length ≤ n
 | 0 => h
 | k + 1 => item_len (items_len h k)
theorem items_length (r:Rd):∀ k,(r.items k).1.length = k
 | 0 => rfl
 | k + 1 => by show ((r.items k).1 ++ [_]).length = _;rw [List.length_append,items_length r k];rfl
theorem items_all {r:Rd} {n:Nat} {p:It → Prop} (hp:∀ q:Rd,q.s.length ≤ n → p q.item.1) (h:r.s.length ≤ n):∀ k,∀ x ∈ (r.items k).1,p x
 | 0 => fun x hx => (List.not_mem_nil hx).elim
 | k + 1 => fun x hx => by
  rcases List.mem_append.1 hx with hx | hx
  · exact items_all hp h k x hx
  · obtain rfl:=List.mem_singleton.1 hx
    exact hp _ (items_len h k)
theorem itsB_end (l:List It) (x:It):itsB (l ++ [x]) = itsB l ++ itB x:=by unfold itsB;rw [List.flatMap_append];simp
theorem items_in (r:Rd) (hl:r.s.length ≤ 1000000000000):∀ k:Nat,(r.items k).2.bad = false → r.bad = false ∧ r.s = itsB (r.items k).1 ++ (r.items k).2.s
 | 0,h => ⟨h,rfl⟩
 | k + 1,h => by
  obtain ⟨a1,a2⟩:=item_in (r:=(r.items k).2) h (items_len hl k)
  obtain ⟨b1,b2⟩:=items_in r hl k a1
  refine ⟨b1,?_⟩
  rw [b2,a2]
  show _ = itsB ((r.items k).1 ++ [(r.items k).2.item.1]) ++ (r.items k).2.item.2.s
  rw [itsB_end,List.append_assoc]
theorem items_out (l:List It) (t:List UInt8) (q:Bool) (hw:∀ x ∈ l,x.Ok):∀ k,k ≤ l.length → Rd.items ⟨itsB l ++ t,q⟩ k = (l.take k,⟨itsB (l.drop k) ++ t,q⟩):=by
 intro k
 induction k with
 | zero => intro _;rfl
 | succ k ih =>
  intro hk
  have a1:=ih (by omega)
  have h1:l.drop k = l[k] :: l.drop (k + 1):=List.drop_eq_getElem_cons (by omega)
  show ((Rd.items ⟨itsB l ++ t,q⟩ k).1 ++ [(Rd.items ⟨itsB l ++ t,q⟩ k).2.item.1],(Rd.items ⟨itsB l ++ t,q⟩ k).2.item.2) = _
  rw [a1]
  dsimp only
  have h2:itsB (l.drop k) ++ t = itB l[k] ++ (itsB (l.drop (k + 1)) ++ t):=by rw [h1,← List.append_assoc];rfl
  rw [h2,item_out _ (hw _ (List.getElem_mem _)),List.take_add_one,List.getElem?_eq_getElem (by omega)]
  rfl
theorem items_bad {r:Rd} (h:r.bad = true):∀ k,(r.items k).2.bad = true
 | 0 => h
 | k + 1 => get_bad (get_bad (get_bad (items_bad h k)))
def c7 (s:List UInt8):Rd:=Rd.after ⟨s,false⟩ 7
def cF (s:List UInt8):Rd:=(c7 s).text.2
def cG (s:List UInt8):Rd:=(cF s).text.2
def cN (s:List UInt8):Int:=(cG s).int.1
def cM (s:List UInt8):Rd:=(cG s).int.2
def cI (s:List UInt8) (k:Nat):List It × Rd:=(cM s).items k
def cE (s:List UInt8) (k:Nat):Rd:=(cI s k).2.bool.2
def cC (s:List UInt8) (k:Nat):Cm:=⟨Rd.nth ⟨s,false⟩ 0,Rd.nth ⟨s,false⟩ 1,Rd.nth ⟨s,false⟩ 2,Rd.nth ⟨s,false⟩ 3,Rd.nth ⟨s,false⟩ 4,Rd.nth ⟨s,false⟩ 5,Rd.nth ⟨s,false⟩ 6,(c7 s).text.1,(cF s).text.1,(cI s k).1,(cI s k).2.bool.1⟩
theorem ints7 (r:Rd):r.ints 7 = [r.nth 0,r.nth 1,r.nth 2,r.nth 3,r.nth 4,r.nth 5,r.nth 6]:=rfl
theorem cm_in {s:List UInt8} {k:Nat} (hl:s.length ≤ 1000000000000) (hk:cN s = k) (hb:(cE s k).bad = false):s = cmdb (cC s k) ++ (cE s k).s:=by
 have l7:(c7 s).s.length ≤ 1000000000000:=by unfold c7;exact after_len (r:=⟨s,false⟩) hl 7
 have lF:(cF s).s.length ≤ 1000000000000:=by unfold cF;exact text_len l7
 have lG:(cG s).s.length ≤ 1000000000000:=by unfold cG;exact text_len lF
 have lM:(cM s).s.length ≤ 1000000000000:=by unfold cM;exact int_len lG
 unfold cE at hb
 obtain ⟨b1,e1⟩:=bool_in (r:=(cI s k).2) hb
 unfold cI at b1
 obtain ⟨b2,e2⟩:=items_in (cM s) lM k b1
 unfold cM at b2
 obtain ⟨b3,_,e3⟩:=int_in (r:=cG s) b2
 unfold cG at b3
 obtain ⟨b4,e4⟩:=text_in (r:=cF s) b3 lF
 unfold cF at b4
 obtain ⟨b5,e5⟩:=text_in (r:=c7 s) b4 l7
 unfold c7 at b5
 obtain ⟨b6,_,e6⟩:=after_in ⟨s,false⟩ 7 b5
 have hlen:((cC s k).its.length:Int) = cN s:=by
  rw [hk]
  have:(cC s k).its.length = k:=items_length (cM s) k
  rw [this]
 have g1:(cI s k).2.s = bb (cC s k).fl ++ (cE s k).s:=by unfold cE cC;dsimp only;exact e1
 have g2:(cM s).s = itsB (cC s k).its ++ (cI s k).2.s:=by unfold cC;unfold cI;exact e2
 have g3:(cG s).s = ib (cC s k).its.length ++ (cM s).s:=by rw [hlen];unfold cN cM;exact e3
 have g4:(cF s).s = tb (cC s k).id ++ (cG s).s:=by unfold cG cC;dsimp only;exact e4
 have g5:(c7 s).s = tb (cC s k).fd ++ (cF s).s:=by unfold cF cC;dsimp only;exact e5
 have hn7:(cC s k).n7 = Rd.ints ⟨s,false⟩ 7:=by rw [ints7];unfold cC Cm.n7;dsimp only
 have g6:s = isb (cC s k).n7 ++ (c7 s).s:=by rw [hn7];unfold c7;dsimp only at e6;exact e6
 unfold cmdb cmH
 simp only [List.append_assoc]
 rw [← g1,← g2,← g3,← g4,← g5,← g6]
structure Cm.Ok (c:Cm):Prop where
 nums:∀ x ∈ c.n7,Wide64 x
 fd:c.fd.length ≤ 1000000000000
 id:c.id.length ≤ 1000000000000
 n:c.its.length ≤ 1000000000000
 its:∀ x ∈ c.its,x.Ok
theorem cm_out (c:Cm) (h:c.Ok) (t:List UInt8):cN (cmdb c ++ t) = c.its.length ∧ (∀ k,k ≤ c.its.length → (cI (cmdb c ++ t) k).2.bad = false) ∧ cC (cmdb c ++ t) c.its.length = c ∧ cE (cmdb c ++ t) c.its.length = ⟨t,false⟩:=by
 obtain ⟨s,hs⟩:∃ s,cmdb c ++ t = s:=⟨_,rfl⟩
 have e0:s = isb c.n7 ++ (tb c.fd ++ (tb c.id ++ (ib c.its.length ++ (itsB c.its ++ (bb c.fl ++ t))))):=by rw [← hs];unfold cmdb cmH;simp
 rw [hs]
 obtain ⟨a1,a2⟩:=after_out' c.n7 (tb c.fd ++ (tb c.id ++ (ib c.its.length ++ (itsB c.its ++ (bb c.fl ++ t))))) h.nums
 rw [← e0] at a1 a2
 have n0:=nth_of (k:=7) a1 0 (by omega)
 have n1:=nth_of (k:=7) a1 1 (by omega)
 have n2:=nth_of (k:=7) a1 2 (by omega)
 have n3:=nth_of (k:=7) a1 3 (by omega)
 have n4:=nth_of (k:=7) a1 4 (by omega)
 have n5:=nth_of (k:=7) a1 5 (by omega)
 have n6:=nth_of (k:=7) a1 6 (by omega)
 simp only [Cm.n7,List.getElem?_cons_zero,List.getElem?_cons_succ,Option.some.injEq] at n0 n1 n2 n3 n4 n5 n6
 have h7:c7 s = ⟨tb c.fd ++ (tb c.id ++ (ib c.its.length ++ (itsB c.its ++ (bb c.fl ++ t)))),false⟩:=a2
 have hF:=text_out c.fd (tb c.id ++ (ib c.its.length ++ (itsB c.its ++ (bb c.fl ++ t)))) h.fd false
 rw [← h7] at hF
 have hF2:cF s = ⟨tb c.id ++ (ib c.its.length ++ (itsB c.its ++ (bb c.fl ++ t))),false⟩:=congrArg Prod.snd hF
 have hG:=text_out c.id (ib c.its.length ++ (itsB c.its ++ (bb c.fl ++ t))) h.id false
 rw [← hF2] at hG
 have hG2:cG s = ⟨ib c.its.length ++ (itsB c.its ++ (bb c.fl ++ t)),false⟩:=congrArg Prod.snd hG
 have hN:=int_out c.its.length ⟨by omega,by have:=h.n;omega⟩ (itsB c.its ++ (bb c.fl ++ t)) false
 rw [← hG2] at hN
 have hM2:cM s = ⟨itsB c.its ++ (bb c.fl ++ t),false⟩:=congrArg Prod.snd hN
 have hI:∀ k,k ≤ c.its.length → cI s k = (c.its.take k,⟨itsB (c.its.drop k) ++ (bb c.fl ++ t),false⟩):=fun k hk => by
  unfold cI
  rw [hM2]
  exact items_out c.its _ false h.its k hk
 have hI2:cI s c.its.length = (c.its,⟨bb c.fl ++ t,false⟩):=by
  rw [hI _ (Nat.le_refl _)]
  simp [itsB]
 have hE:=bool_out c.fl t false
 refine ⟨congrArg Prod.fst hN,fun k hk => by rw [hI k hk],?_,?_⟩
 · unfold cC
   rw [n0,n1,n2,n3,n4,n5,n6,hF,hG,hI2]
   dsimp only
   rw [hE]
 · unfold cE
   rw [hI2]
   dsimp only
   rw [hE]
theorem cmdb_inj {c d:Cm} (hc:c.Ok) (hd:d.Ok) (h:cmdb c = cmdb d):c = d:=by
 obtain ⟨a1,_,a2,_⟩:=cm_out c hc []
 obtain ⟨b1,_,b2,_⟩:=cm_out d hd []
 rw [h] at a1 a2
 have e:c.its.length = d.its.length:=by omega
 rw [← a2,e,b2]
theorem inB_wide {n t:Int} (ht:t ≤ 1099511627776) (h:inB n t = true):Wide64 n:=by
 have:=inB_iff.1 h
 exact ⟨by omega,by omega⟩
theorem itR_len {x:It} (h:itR x = true):x.id.length ≤ 200 ∧ x.ti.length ≤ 200 ∧ x.li.length ≤ 200:=by
 unfold itR bad1 at h
 simp only [List.any_cons,List.any_nil,Bool.or_false,Bool.and_eq_true,Bool.not_eq_true',Bool.or_eq_false_iff,decide_eq_false_iff_not] at h
 obtain ⟨_,h1,h2,h3⟩:=h
 exact ⟨by omega,by omega,by omega⟩
theorem numB_iff {c:Cm}:numB c = true ↔ (1 ≤ c.kd ∧ c.kd ≤ 9) ∧ inB c.ss 1099511627776 = true ∧ inB c.sq 1099511627776 = true ∧ inB c.ep 1099511627776 = true ∧ inB c.n 1099511627776 = true ∧ inB c.sh 7 = true ∧ inB c.nd 9 = true:=by
 unfold numB
 simp only [Bool.and_eq_true,decide_eq_true_eq,and_assoc]
theorem lenB_iff {c:Cm}:lenB c = true ↔ c.fd.length ≤ 200 ∧ c.id.length ≤ 200 ∧ c.its.length ≤ 100:=by
 unfold lenB
 simp only [Bool.and_eq_true,decide_eq_true_eq,and_assoc]
theorem numB_wide {c:Cm} (h:numB c = true):∀ x ∈ c.n7,Wide64 x:=by
 obtain ⟨h0,h1,h2,h3,h4,h5,h6⟩:=numB_iff.1 h
 intro x hx
 simp only [Cm.n7,List.mem_cons,List.not_mem_nil,or_false] at hx
 rcases hx with rfl | rfl | rfl | rfl | rfl | rfl | rfl
 · exact ⟨by omega,by omega⟩
 · exact inB_wide (by omega) h1
 · exact inB_wide (by omega) h2
 · exact inB_wide (by omega) h5
 · exact inB_wide (by omega) h6
 · exact inB_wide (by omega) h3
 · exact inB_wide (by omega) h4
theorem rightB_iff {c:Cm}:rightB c = true ↔ numB c = true ∧ lenB c = true ∧ bareB c = true ∧ ∀ x ∈ c.its,itR x = true:=by
 unfold rightB
 simp only [Bool.and_eq_true,List.all_eq_true,and_assoc]
theorem right_ok {c:Cm} (h:rightB c = true):c.Ok:=by
 obtain ⟨h1,h2,_,h4⟩:=rightB_iff.1 h
 obtain ⟨a1,a2,a3⟩:=lenB_iff.1 h2
 refine ⟨numB_wide h1,by omega,by omega,by omega,fun x hx => ?_⟩
 have:=itR_len (h4 x hx)
 exact ⟨by omega,by omega,by omega⟩
theorem right_sm {c:Cm} (h:rightB c = true):c.Sm:=by
 obtain ⟨h1,h2,_,h4⟩:=rightB_iff.1 h
 obtain ⟨a1,a2,a3⟩:=lenB_iff.1 h2
 refine ⟨by omega,by omega,by omega,fun x hx => ?_⟩
 have:=itR_len (h4 x hx)
 exact ⟨by omega,by omega,by omega⟩
def unC (s:List UInt8):Option Cm:=if 0 ≤ cN s ∧ rightB (cC s (cN s).toNat) = true ∧ (cE s (cN s).toNat).bad = false ∧ (cE s (cN s).toNat).s = [] then some (cC s (cN s).toNat) else none
theorem unC_iff (s:List UInt8) (hl:s.length ≤ 1000000000000) (c:Cm):unC s = some c ↔ rightB c = true ∧ cmdb c = s:=by
 unfold unC
 constructor
 · intro h
   split at h
   · rename_i hc
     obtain ⟨h0,h1,h2,h3⟩:=hc
     injection h with h
     subst h
     refine ⟨h1,?_⟩
     have:=cm_in (k:=(cN s).toNat) hl (by omega) h2
     rw [h3,List.append_nil] at this
     exact this.symm
   · cases h
 · rintro ⟨h1,rfl⟩
   obtain ⟨a1,_,a2,a3⟩:=cm_out c (right_ok h1) []
   rw [List.append_nil] at a1 a2 a3
   have e:(cN (cmdb c)).toNat = c.its.length:=by rw [a1];simp
   rw [e,a2,a3,if_pos ⟨by omega,h1,rfl,rfl⟩]
def onlyC (c:Cm):Cm:=
 ⟨c.kd,if clB c.kd then c.ss else 0,if clB c.kd then c.sq else 0,if c.kd = 7 ∨ c.kd = 8 ∨ c.kd = 9 then c.sh else 0,if c.kd = 7 ∨ c.kd = 8 then c.nd else 0,if c.kd = 8 then c.ep else 0,
  if c.kd = 5 then c.n else 0,if clB c.kd ∨ c.kd = 8 then c.fd else [],if c.kd = 4 then c.id else [],[],if c.kd = 8 then c.fl else false⟩
def Cm.bare (c:Cm):Cm:=⟨c.kd,c.ss,c.sq,c.sh,c.nd,c.ep,c.n,c.fd,c.id,[],c.fl⟩
theorem only_iff (c:Cm) (h:numB c = true):bareB c = true ↔ (onlyC c = c.bare ∧ ¬ (0 < c.its.length ∧ (c.kd ≠ 8 ∨ c.fl = true))):=by
 obtain ⟨h0,h1,h2,h3,h4,h5,h6⟩:=numB_iff.1 h
 obtain ⟨kd,ss,sq,sh,nd,ep,n,fd,id,its,fl⟩:=c
 have h1:=(inB_iff.1 h1).1
 have h2:=(inB_iff.1 h2).1
 have h3:=(inB_iff.1 h3).1
 have h4:=(inB_iff.1 h4).1
 have h5:=(inB_iff.1 h5).1
 have h6:=(inB_iff.1 h6).1
 dsimp only at h0 h1 h2 h3 h4 h5 h6
 have hk:kd = 1 ∨ kd = 2 ∨ kd = 3 ∨ kd = 4 ∨ kd = 5 ∨ kd = 6 ∨ kd = 7 ∨ kd = 8 ∨ kd = 9:=by omega
 clear h
 obtain ⟨L,hL⟩:∃ L,its.length = L:=⟨_,rfl⟩
 rcases hk with rfl | rfl | rfl | rfl | rfl | rfl | rfl | rfl | rfl
 all_goals
  clear h0
  unfold onlyC Cm.bare bareB clB
  simp only [hL]
  simp
  cases fl <;> cases fd <;> cases id <;> simp <;> omega
theorem cells_end (w:World) (o:Obj) (t:TypeId) (cs:List Value):Cells ((w.alloc o).alloc (.cells cs.toArray t)) (w.heap.size + 1) t cs:=by
 have:=Cells.new (w.alloc o) t cs
 simpa using this
theorem cells_mid (w:World) (o o2:Obj) (t:TypeId) (cs:List Value):Cells (((w.alloc o).alloc (.cells cs.toArray t)).alloc o2) (w.heap.size + 1) t cs:=(cells_end w o t cs).alloc o2
theorem only_k1 (c:Cm) (iv:Value) (w:World) (h:c.kd = 1):
 Calls Tryz.prog 153 #[c.val iv] w fun e w' => e = .returned ((onlyC c).val (.slice none 0 0)) ∧ Only [] w w':=by
 have HV:(onlyC c).val (.slice none 0 0) = .agg #[.int .i64 1,.int .i64 0,.int .i64 0,.int .i64 0,.int .i64 0,.int .i64 0,.int .i64 0,.string ⟨([]:List UInt8).toArray⟩,.string ⟨([]:List UInt8).toArray⟩,.slice none 0 0,.bool false]:=by unfold onlyC Cm.val clB;simp [h]
 rw [HV]
 unfold Cm.val
 rw [h]
 clear HV
 go_enter Tryz.func153,Tryz.ntmps153
 go_wp2_with fail
 (try simp only [Exit.inBlock,Exit.then])
 refine bodyPost_ret (v:=.agg #[.int .i64 1,.int .i64 0,.int .i64 0,.int .i64 0,.int .i64 0,.int .i64 0,.int .i64 0,.string ⟨([]:List UInt8).toArray⟩,.string ⟨([]:List UInt8).toArray⟩,.slice none 0 0,.bool false]) ?_ rfl ⟨rfl,((oz.alloc _).alloc _).alloc _⟩
 exact results_row Tryz.results153 _ _ (w.heap.size + 1) 38 [.int .i64 1,.int .i64 0,.int .i64 0,.int .i64 0,.int .i64 0,.int .i64 0,.int .i64 0,.string ⟨([]:List UInt8).toArray⟩,.string ⟨([]:List UInt8).toArray⟩,.slice none 0 0,.bool false] _ rfl (cells_mid w _ _ _ _) Tryz.underlying38 rfl (by kernel_rfl)
theorem only_k2 (c:Cm) (iv:Value) (w:World) (h:c.kd = 2):
 Calls Tryz.prog 153 #[c.val iv] w fun e w' => e = .returned ((onlyC c).val (.slice none 0 0)) ∧ Only [] w w':=by
 have HV:(onlyC c).val (.slice none 0 0) = .agg #[.int .i64 2,.int .i64 c.ss,.int .i64 c.sq,.int .i64 0,.int .i64 0,.int .i64 0,.int .i64 0,.string ⟨c.fd.toArray⟩,.string ⟨([]:List UInt8).toArray⟩,.slice none 0 0,.bool false]:=by unfold onlyC Cm.val clB;simp [h]
 rw [HV]
 unfold Cm.val
 rw [h]
 clear HV
 go_enter Tryz.func153,Tryz.ntmps153
 go_wp2_with fail
 (try simp only [Exit.inBlock,Exit.then])
 refine bodyPost_ret (v:=.agg #[.int .i64 2,.int .i64 c.ss,.int .i64 c.sq,.int .i64 0,.int .i64 0,.int .i64 0,.int .i64 0,.string ⟨c.fd.toArray⟩,.string ⟨([]:List UInt8).toArray⟩,.slice none 0 0,.bool false]) ?_ rfl ⟨rfl,((oz.alloc _).alloc _).alloc _⟩
 exact results_row Tryz.results153 _ _ (w.heap.size + 1) 38 [.int .i64 2,.int .i64 c.ss,.int .i64 c.sq,.int .i64 0,.int .i64 0,.int .i64 0,.int .i64 0,.string ⟨c.fd.toArray⟩,.string ⟨([]:List UInt8).toArray⟩,.slice none 0 0,.bool false] _ rfl (cells_mid w _ _ _ _) Tryz.underlying38 rfl (by kernel_rfl)
theorem only_k3 (c:Cm) (iv:Value) (w:World) (h:c.kd = 3):
 Calls Tryz.prog 153 #[c.val iv] w fun e w' => e = .returned ((onlyC c).val (.slice none 0 0)) ∧ Only [] w w':=by
 have HV:(onlyC c).val (.slice none 0 0) = .agg #[.int .i64 3,.int .i64 c.ss,.int .i64 c.sq,.int .i64 0,.int .i64 0,.int .i64 0,.int .i64 0,.string ⟨c.fd.toArray⟩,.string ⟨([]:List UInt8).toArray⟩,.slice none 0 0,.bool false]:=by unfold onlyC Cm.val clB;simp [h]
 rw [HV]
 unfold Cm.val
 rw [h]
 clear HV
 go_enter Tryz.func153,Tryz.ntmps153
 go_wp2_with fail
 (try simp only [Exit.inBlock,Exit.then])
 refine bodyPost_ret (v:=.agg #[.int .i64 3,.int .i64 c.ss,.int .i64 c.sq,.int .i64 0,.int .i64 0,.int .i64 0,.int .i64 0,.string ⟨c.fd.toArray⟩,.string ⟨([]:List UInt8).toArray⟩,.slice none 0 0,.bool false]) ?_ rfl ⟨rfl,((oz.alloc _).alloc _).alloc _⟩
 exact results_row Tryz.results153 _ _ (w.heap.size + 1) 38 [.int .i64 3,.int .i64 c.ss,.int .i64 c.sq,.int .i64 0,.int .i64 0,.int .i64 0,.int .i64 0,.string ⟨c.fd.toArray⟩,.string ⟨([]:List UInt8).toArray⟩,.slice none 0 0,.bool false] _ rfl (cells_mid w _ _ _ _) Tryz.underlying38 rfl (by kernel_rfl)
theorem only_k4 (c:Cm) (iv:Value) (w:World) (h:c.kd = 4):
 Calls Tryz.prog 153 #[c.val iv] w fun e w' => e = .returned ((onlyC c).val (.slice none 0 0)) ∧ Only [] w w':=by
 have HV:(onlyC c).val (.slice none 0 0) = .agg #[.int .i64 4,.int .i64 c.ss,.int .i64 c.sq,.int .i64 0,.int .i64 0,.int .i64 0,.int .i64 0,.string ⟨c.fd.toArray⟩,.string ⟨c.id.toArray⟩,.slice none 0 0,.bool false]:=by unfold onlyC Cm.val clB;simp [h]
 rw [HV]
 unfold Cm.val
 rw [h]
 clear HV
 go_enter Tryz.func153,Tryz.ntmps153
 go_wp2_with fail
 (try simp only [Exit.inBlock,Exit.then])
 refine bodyPost_ret (v:=.agg #[.int .i64 4,.int .i64 c.ss,.int .i64 c.sq,.int .i64 0,.int .i64 0,.int .i64 0,.int .i64 0,.string ⟨c.fd.toArray⟩,.string ⟨c.id.toArray⟩,.slice none 0 0,.bool false]) ?_ rfl ⟨rfl,((oz.alloc _).alloc _).alloc _⟩
 exact results_row Tryz.results153 _ _ (w.heap.size + 1) 38 [.int .i64 4,.int .i64 c.ss,.int .i64 c.sq,.int .i64 0,.int .i64 0,.int .i64 0,.int .i64 0,.string ⟨c.fd.toArray⟩,.string ⟨c.id.toArray⟩,.slice none 0 0,.bool false] _ rfl (cells_mid w _ _ _ _) Tryz.underlying38 rfl (by kernel_rfl)
theorem only_k5 (c:Cm) (iv:Value) (w:World) (h:c.kd = 5):
 Calls Tryz.prog 153 #[c.val iv] w fun e w' => e = .returned ((onlyC c).val (.slice none 0 0)) ∧ Only [] w w':=by
 have HV:(onlyC c).val (.slice none 0 0) = .agg #[.int .i64 5,.int .i64 c.ss,.int .i64 c.sq,.int .i64 0,.int .i64 0,.int .i64 0,.int .i64 c.n,.string ⟨c.fd.toArray⟩,.string ⟨([]:List UInt8).toArray⟩,.slice none 0 0,.bool false]:=by unfold onlyC Cm.val clB;simp [h]
 rw [HV]
 unfold Cm.val
 rw [h]
 clear HV
 go_enter Tryz.func153,Tryz.ntmps153
 go_wp2_with fail
 (try simp only [Exit.inBlock,Exit.then])
 refine bodyPost_ret (v:=.agg #[.int .i64 5,.int .i64 c.ss,.int .i64 c.sq,.int .i64 0,.int .i64 0,.int .i64 0,.int .i64 c.n,.string ⟨c.fd.toArray⟩,.string ⟨([]:List UInt8).toArray⟩,.slice none 0 0,.bool false]) ?_ rfl ⟨rfl,((oz.alloc _).alloc _).alloc _⟩
 exact results_row Tryz.results153 _ _ (w.heap.size + 1) 38 [.int .i64 5,.int .i64 c.ss,.int .i64 c.sq,.int .i64 0,.int .i64 0,.int .i64 0,.int .i64 c.n,.string ⟨c.fd.toArray⟩,.string ⟨([]:List UInt8).toArray⟩,.slice none 0 0,.bool false] _ rfl (cells_mid w _ _ _ _) Tryz.underlying38 rfl (by kernel_rfl)
theorem only_k6 (c:Cm) (iv:Value) (w:World) (h:c.kd = 6):
 Calls Tryz.prog 153 #[c.val iv] w fun e w' => e = .returned ((onlyC c).val (.slice none 0 0)) ∧ Only [] w w':=by
 have HV:(onlyC c).val (.slice none 0 0) = .agg #[.int .i64 6,.int .i64 0,.int .i64 0,.int .i64 0,.int .i64 0,.int .i64 0,.int .i64 0,.string ⟨([]:List UInt8).toArray⟩,.string ⟨([]:List UInt8).toArray⟩,.slice none 0 0,.bool false]:=by unfold onlyC Cm.val clB;simp [h]
 rw [HV]
 unfold Cm.val
 rw [h]
 clear HV
 go_enter Tryz.func153,Tryz.ntmps153
 go_wp2_with fail
 (try simp only [Exit.inBlock,Exit.then])
 refine bodyPost_ret (v:=.agg #[.int .i64 6,.int .i64 0,.int .i64 0,.int .i64 0,.int .i64 0,.int .i64 0,.int .i64 0,.string ⟨([]:List UInt8).toArray⟩,.string ⟨([]:List UInt8).toArray⟩,.slice none 0 0,.bool false]) ?_ rfl ⟨rfl,((oz.alloc _).alloc _).alloc _⟩
 exact results_row Tryz.results153 _ _ (w.heap.size + 1) 38 [.int .i64 6,.int .i64 0,.int .i64 0,.int .i64 0,.int .i64 0,.int .i64 0,.int .i64 0,.string ⟨([]:List UInt8).toArray⟩,.string ⟨([]:List UInt8).toArray⟩,.slice none 0 0,.bool false] _ rfl (cells_mid w _ _ _ _) Tryz.underlying38 rfl (by kernel_rfl)
theorem only_k7 (c:Cm) (iv:Value) (w:World) (h:c.kd = 7):
 Calls Tryz.prog 153 #[c.val iv] w fun e w' => e = .returned ((onlyC c).val (.slice none 0 0)) ∧ Only [] w w':=by
 have HV:(onlyC c).val (.slice none 0 0) = .agg #[.int .i64 7,.int .i64 0,.int .i64 0,.int .i64 c.sh,.int .i64 c.nd,.int .i64 0,.int .i64 0,.string ⟨([]:List UInt8).toArray⟩,.string ⟨([]:List UInt8).toArray⟩,.slice none 0 0,.bool false]:=by unfold onlyC Cm.val clB;simp [h]
 rw [HV]
 unfold Cm.val
 rw [h]
 clear HV
 go_enter Tryz.func153,Tryz.ntmps153
 go_wp2_with fail
 (try simp only [Exit.inBlock,Exit.then])
 refine bodyPost_ret (v:=.agg #[.int .i64 7,.int .i64 0,.int .i64 0,.int .i64 c.sh,.int .i64 c.nd,.int .i64 0,.int .i64 0,.string ⟨([]:List UInt8).toArray⟩,.string ⟨([]:List UInt8).toArray⟩,.slice none 0 0,.bool false]) ?_ rfl ⟨rfl,((oz.alloc _).alloc _).alloc _⟩
 exact results_row Tryz.results153 _ _ (w.heap.size + 1) 38 [.int .i64 7,.int .i64 0,.int .i64 0,.int .i64 c.sh,.int .i64 c.nd,.int .i64 0,.int .i64 0,.string ⟨([]:List UInt8).toArray⟩,.string ⟨([]:List UInt8).toArray⟩,.slice none 0 0,.bool false] _ rfl (cells_mid w _ _ _ _) Tryz.underlying38 rfl (by kernel_rfl)
theorem only_k8 (c:Cm) (iv:Value) (w:World) (h:c.kd = 8):
 Calls Tryz.prog 153 #[c.val iv] w fun e w' => e = .returned ((onlyC c).val (.slice none 0 0)) ∧ Only [] w w':=by
 have HV:(onlyC c).val (.slice none 0 0) = .agg #[.int .i64 8,.int .i64 0,.int .i64 0,.int .i64 c.sh,.int .i64 c.nd,.int .i64 c.ep,.int .i64 0,.string ⟨c.fd.toArray⟩,.string ⟨([]:List UInt8).toArray⟩,.slice none 0 0,.bool c.fl]:=by unfold onlyC Cm.val clB;simp [h]
 rw [HV]
 unfold Cm.val
 rw [h]
 clear HV
 go_enter Tryz.func153,Tryz.ntmps153
 go_wp2_with fail
 (try simp only [Exit.inBlock,Exit.then])
 refine bodyPost_ret (v:=.agg #[.int .i64 8,.int .i64 0,.int .i64 0,.int .i64 c.sh,.int .i64 c.nd,.int .i64 c.ep,.int .i64 0,.string ⟨c.fd.toArray⟩,.string ⟨([]:List UInt8).toArray⟩,.slice none 0 0,.bool c.fl]) ?_ rfl ⟨rfl,((oz.alloc _).alloc _).alloc _⟩
 exact results_row Tryz.results153 _ _ (w.heap.size + 1) 38 [.int .i64 8,.int .i64 0,.int .i64 0,.int .i64 c.sh,.int .i64 c.nd,.int .i64 c.ep,.int .i64 0,.string ⟨c.fd.toArray⟩,.string ⟨([]:List UInt8).toArray⟩,.slice none 0 0,.bool c.fl] _ rfl (cells_mid w _ _ _ _) Tryz.underlying38 rfl (by kernel_rfl)
theorem only_k9 (c:Cm) (iv:Value) (w:World) (h:c.kd = 9):
 Calls Tryz.prog 153 #[c.val iv] w fun e w' => e = .returned ((onlyC c).val (.slice none 0 0)) ∧ Only [] w w':=by
 have HV:(onlyC c).val (.slice none 0 0) = .agg #[.int .i64 9,.int .i64 0,.int .i64 0,.int .i64 c.sh,.int .i64 0,.int .i64 0,.int .i64 0,.string ⟨([]:List UInt8).toArray⟩,.string ⟨([]:List UInt8).toArray⟩,.slice none 0 0,.bool false]:=by unfold onlyC Cm.val clB;simp [h]
 rw [HV]
 unfold Cm.val
 rw [h]
 clear HV
 go_enter Tryz.func153,Tryz.ntmps153
 go_wp2_with fail
 (try simp only [Exit.inBlock,Exit.then])
 refine bodyPost_ret (v:=.agg #[.int .i64 9,.int .i64 0,.int .i64 0,.int .i64 c.sh,.int .i64 0,.int .i64 0,.int .i64 0,.string ⟨([]:List UInt8).toArray⟩,.string ⟨([]:List UInt8).toArray⟩,.slice none 0 0,.bool false]) ?_ rfl ⟨rfl,((oz.alloc _).alloc _).alloc _⟩
 exact results_row Tryz.results153 _ _ (w.heap.size + 1) 38 [.int .i64 9,.int .i64 0,.int .i64 0,.int .i64 c.sh,.int .i64 0,.int .i64 0,.int .i64 0,.string ⟨([]:List UInt8).toArray⟩,.string ⟨([]:List UInt8).toArray⟩,.slice none 0 0,.bool false] _ rfl (cells_mid w _ _ _ _) Tryz.underlying38 rfl (by kernel_rfl)
theorem only_call (c:Cm) (iv:Value) (w:World) (hk:1 ≤ c.kd ∧ c.kd ≤ 9):
 Calls Tryz.prog 153 #[c.val iv] w fun e w' => e = .returned ((onlyC c).val (.slice none 0 0)) ∧ Only [] w w':=by
 have hk:c.kd = 1 ∨ c.kd = 2 ∨ c.kd = 3 ∨ c.kd = 4 ∨ c.kd = 5 ∨ c.kd = 6 ∨ c.kd = 7 ∨ c.kd = 8 ∨ c.kd = 9:=by omega
 rcases hk with h | h | h | h | h | h | h | h | h
 · exact only_k1 c iv w h
 · exact only_k2 c iv w h
 · exact only_k3 c iv w h
 · exact only_k4 c iv w h
 · exact only_k5 c iv w h
 · exact only_k6 c iv w h
 · exact only_k7 c iv w h
 · exact only_k8 c iv w h
 · exact only_k9 c iv w h
theorem without_call (c:Cm) (iv:Value) (w:World):
 Calls Tryz.prog 154 #[c.val iv] w fun e w' => e = .returned (c.bare.val (.slice none 0 0)) ∧ Only [] w w':=by
 unfold Cm.bare Cm.val
 dsimp only
 go_enter Tryz.func154,Tryz.ntmps154
 go_wp2_with fail
 (try simp only [Exit.inBlock,Exit.then])
 refine bodyPost_ret (v:=.agg #[.int .i64 c.kd,.int .i64 c.ss,.int .i64 c.sq,.int .i64 c.sh,.int .i64 c.nd,.int .i64 c.ep,.int .i64 c.n,.string ⟨c.fd.toArray⟩,.string ⟨c.id.toArray⟩,.slice none 0 0,.bool c.fl]) ?_ rfl ⟨rfl,(oz.alloc _).alloc _⟩
 exact results_row Tryz.results154 _ _ (w.heap.size + 1) 38 [.int .i64 c.kd,.int .i64 c.ss,.int .i64 c.sq,.int .i64 c.sh,.int .i64 c.nd,.int .i64 c.ep,.int .i64 c.n,.string ⟨c.fd.toArray⟩,.string ⟨c.id.toArray⟩,.slice none 0 0,.bool c.fl] _ rfl (cells_end w _ _ _) Tryz.underlying38 rfl (by kernel_rfl)
theorem in_call (n top:Int) (w:World):Calls Tryz.prog 151 #[.int .i64 n,.int .i64 top] w fun e w' => e = .returned (.bool (inB n top)) ∧ w = w':=by
 by_cases h:0 ≤ n
 · have d:decide (0 ≤ n) = true:=by simpa using h
   have HR:Hid (inB n top = decide (n ≤ top)):=Hd (by unfold inB;rw [d];rfl)
   rw [HR.out]
   clear HR
   go_enter Tryz.func151,Tryz.ntmps151
   go_wp2_with fail
   go_ret
   exact ⟨rfl,rfl⟩
 · have d:decide (0 ≤ n) = false:=by simpa using h
   have HR:Hid (inB n top = false):=Hd (by unfold inB;rw [d];rfl)
   rw [HR.out]
   clear HR
   go_enter Tryz.func151,Tryz.ntmps151
   go_wp2_with fail
   go_ret
   exact ⟨rfl,rfl⟩
theorem slnil_it (w:World):SlAt w w.heap.size (.slice none 0 0) 3 0 (itL []):=SlAt.of_own (World.ownsRow_nil w 0 99 3)
theorem bare_at {w:World} {iv:Value} {c:Cm} (h:CmAt w iv c) (w':World):CmAt w' (.slice none 0 0) c.bare:=⟨slnil_it w',by simp [Cm.bare],h.fd,h.id,h.nums⟩
theorem only_at {w:World} {iv:Value} {c:Cm} (h:CmAt w iv c) (w':World):CmAt w' (.slice none 0 0) (onlyC c):=by
 refine ⟨slnil_it w',by simp [onlyC],?_,?_,?_⟩
 · have:=h.fd;unfold onlyC;dsimp only;split <;> simp [*]
 · have:=h.id;unfold onlyC;dsimp only;split <;> simp [*]
 · have hn:=h.nums
   have w0:Wide64 0:=⟨by omega,by omega⟩
   simp only [List.mem_cons,List.not_mem_nil,or_false,forall_eq_or_imp,forall_eq] at hn ⊢
   obtain ⟨a0,a1,a2,a3,a4,a5,a6⟩:=hn
   unfold onlyC
   dsimp only
   refine ⟨a0,?_,?_,?_,?_,?_,?_⟩
   all_goals split <;> assumption
theorem bare_sm {c:Cm} (h:c.Sm):c.bare.Sm:=⟨h.fd,h.id,by simp [Cm.bare],by simp [Cm.bare]⟩
theorem only_sm {c:Cm} (h:c.Sm):(onlyC c).Sm:=by
 refine ⟨?_,?_,by simp [onlyC],by simp [onlyC]⟩
 · have:=h.fd;unfold onlyC;dsimp only;split <;> simp [*]
 · have:=h.id;unfold onlyC;dsimp only;split <;> simp [*]
theorem sm_ok {c:Cm} {w:World} {iv:Value} (h:CmAt w iv c) (hs:c.Sm):c.Ok:=by
 have:=hs.fd;have:=hs.id;have:=hs.n
 exact ⟨h.nums,by omega,by omega,by omega,fun x hx => (hs.its x hx).ok⟩
theorem only_bytes {w:World} {iv:Value} {c:Cm} (h:CmAt w iv c) (hs:c.Sm):cmdb (onlyC c) = cmdb c.bare ↔ onlyC c = c.bare:=
 ⟨fun he => cmdb_inj (sm_ok (only_at h w) (only_sm hs)) (sm_ok (bare_at h w) (bare_sm hs)) he,fun he => by rw [he]⟩
theorem ref18_right (c:Cm) (iv:Value) (w:World) (h:CmAt w iv c) (hs:c.Sm):
 Calls Tryz.prog 82 #[c.val iv] w fun e w' => e = .returned (.bool (rightB c)) ∧ Only [] w w':=by
 obtain ⟨IA,ic,rfl⟩:=h.its.shape
 have hil:=sl_len h.its
 have hfl:=h.fd
 have hdl:=h.id
 have H:=Hd h
 have HSM:=Hd hs
 obtain ⟨m,hm'⟩:∃ m,c.its.length = m:=⟨_,rfl⟩
 have hm:=hm'
 rw [hm] at hil
 unfold Cm.val
 rw [hm]
 obtain ⟨w1,hw1⟩:∃ w1,w.alloc (.cells #[.int .i64 c.kd,.int .i64 c.ss,.int .i64 c.sq,.int .i64 c.sh,.int .i64 c.nd,.int .i64 c.ep,.int .i64 c.n,.string ⟨c.fd.toArray⟩,.string ⟨c.id.toArray⟩,.slice IA m ic,.bool c.fl] 38) = w1:=⟨_,rfl⟩
 obtain ⟨z,hz⟩:∃ z,w.heap.size = z:=⟨_,rfl⟩
 have HZ:Cells w1 z 38 [.int .i64 c.kd,.int .i64 c.ss,.int .i64 c.sq,.int .i64 c.sh,.int .i64 c.nd,.int .i64 c.ep,.int .i64 c.n,.string ⟨c.fd.toArray⟩,.string ⟨c.id.toArray⟩,.slice IA m ic,.bool c.fl]:=hw1 ▸ hz ▸ Cells.new w _ _
 have HO:Hid (Only [] w w1):=Hd (hw1 ▸ oz.alloc _)
 have HM:=Hd hm
 obtain ⟨c0,c1,c2,c3,c4,c5,c6,c7,c8,c9,c10⟩:=HZ.c11
 clear h hs
 unfold maxLen at hfl hdl hil
 go_enter Tryz.func82,Tryz.ntmps82
 cases iss:inB c.ss 1099511627776 with
 | false =>
  have HR:Hid (rightB c = false):=Hd (by unfold rightB numB;rw [iss];simp)
  go_wp2_with fail
  repeat (refine (in_call _ _ _).mono ?_;rintro e w2 ⟨rfl,rfl⟩;go_wp2_with fail)
  go_ret
  exact ⟨by rw [HR.out];rfl,HO.out⟩
 | true =>
 cases isq:inB c.sq 1099511627776 with
 | false =>
  have HR:Hid (rightB c = false):=Hd (by unfold rightB numB;rw [isq];simp)
  go_wp2_with fail
  repeat (refine (in_call _ _ _).mono ?_;rintro e w2 ⟨rfl,rfl⟩;go_wp2_with fail)
  go_ret
  exact ⟨by rw [HR.out];rfl,HO.out⟩
 | true =>
 cases iep:inB c.ep 1099511627776 with
 | false =>
  have HR:Hid (rightB c = false):=Hd (by unfold rightB numB;rw [iep];simp)
  go_wp2_with fail
  repeat (refine (in_call _ _ _).mono ?_;rintro e w2 ⟨rfl,rfl⟩;go_wp2_with fail)
  go_ret
  exact ⟨by rw [HR.out];rfl,HO.out⟩
 | true =>
 cases inn:inB c.n 1099511627776 with
 | false =>
  have HR:Hid (rightB c = false):=Hd (by unfold rightB numB;rw [inn];simp)
  go_wp2_with fail
  repeat (refine (in_call _ _ _).mono ?_;rintro e w2 ⟨rfl,rfl⟩;go_wp2_with fail)
  go_ret
  exact ⟨by rw [HR.out];rfl,HO.out⟩
 | true =>
 cases ish:inB c.sh 7 with
 | false =>
  have HR:Hid (rightB c = false):=Hd (by unfold rightB numB;rw [ish];simp)
  go_wp2_with fail
  repeat (refine (in_call _ _ _).mono ?_;rintro e w2 ⟨rfl,rfl⟩;go_wp2_with fail)
  go_ret
  exact ⟨by rw [HR.out];rfl,HO.out⟩
 | true =>
 cases ind:inB c.nd 9 with
 | false =>
  have HR:Hid (rightB c = false):=Hd (by unfold rightB numB;rw [ind];simp)
  go_wp2_with fail
  repeat (refine (in_call _ _ _).mono ?_;rintro e w2 ⟨rfl,rfl⟩;go_wp2_with fail)
  go_ret
  exact ⟨by rw [HR.out];rfl,HO.out⟩
 | true =>
 by_cases k1:c.kd < 1
 · have dk1:decide (c.kd < 1) = true:=by simp;omega
   have HR:Hid (rightB c = false):=Hd (by unfold rightB numB;rw [show decide (1 ≤ c.kd) = false from by simp;omega];rfl)
   go_wp2_with fail
   repeat (refine (in_call _ _ _).mono ?_;rintro e w2 ⟨rfl,rfl⟩;go_wp2_with fail)
   go_ret
   exact ⟨by rw [HR.out];rfl,HO.out⟩
 have dk1:decide (c.kd < 1) = false:=by simp;omega
 by_cases k2:9 < c.kd
 · have dk2:decide (9 < c.kd) = true:=by simp;omega
   have HR:Hid (rightB c = false):=Hd (by unfold rightB numB;rw [show decide (c.kd ≤ 9) = false from by simp;omega];simp)
   go_wp2_with fail
   repeat (refine (in_call _ _ _).mono ?_;rintro e w2 ⟨rfl,rfl⟩;go_wp2_with fail)
   go_ret
   exact ⟨by rw [HR.out];rfl,HO.out⟩
 have dk2:decide (9 < c.kd) = false:=by simp;omega
 by_cases k3:200 < c.fd.length
 · have dk3:decide ((200:Int) < (c.fd.length:Int)) = true:=by simp;omega
   have HR:Hid (rightB c = false):=Hd (by unfold rightB lenB;rw [show decide (c.fd.length ≤ 200) = false from by simp;omega];simp)
   go_wp2_with fail
   repeat (refine (in_call _ _ _).mono ?_;rintro e w2 ⟨rfl,rfl⟩;go_wp2_with fail)
   go_ret
   exact ⟨by rw [HR.out];rfl,HO.out⟩
 have dk3:decide ((200:Int) < (c.fd.length:Int)) = false:=by simp;omega
 by_cases k4:200 < c.id.length
 · have dk4:decide ((200:Int) < (c.id.length:Int)) = true:=by simp;omega
   have HR:Hid (rightB c = false):=Hd (by unfold rightB lenB;rw [show decide (c.id.length ≤ 200) = false from by simp;omega];simp)
   go_wp2_with fail
   repeat (refine (in_call _ _ _).mono ?_;rintro e w2 ⟨rfl,rfl⟩;go_wp2_with fail)
   go_ret
   exact ⟨by rw [HR.out];rfl,HO.out⟩
 have dk4:decide ((200:Int) < (c.id.length:Int)) = false:=by simp;omega
 by_cases k5:100 < m
 · have dk5:decide ((100:Int) < (m:Int)) = true:=by simp;omega
   have HR:Hid (rightB c = false):=Hd (by unfold rightB lenB;rw [show decide (c.its.length ≤ 100) = false from by simp;omega];simp)
   go_wp2_with fail
   repeat (refine (in_call _ _ _).mono ?_;rintro e w2 ⟨rfl,rfl⟩;go_wp2_with fail)
   go_ret
   exact ⟨by rw [HR.out];rfl,HO.out⟩
 have dk5:decide ((100:Int) < (m:Int)) = false:=by simp;omega
 have hnb:numB c = true:=numB_iff.2 ⟨⟨by omega,by omega⟩,iss,isq,iep,inn,ish,ind⟩
 have HR:Hid (rightB c = (bareB c && c.its.all itR)):=Hd (by
  have a1:lenB c = true:=lenB_iff.2 ⟨by omega,by omega,by omega⟩
  unfold rightB
  rw [a1,hnb];rfl)
 have HBI:Hid (bareB c = true ↔ cmdb (onlyC c) = cmdb c.bare ∧ ¬ (0 < c.its.length ∧ (c.kd ≠ 8 ∨ c.fl = true))):=Hd (by rw [only_bytes H.out HSM.out];exact only_iff c hnb)
 have HK:Hid (1 ≤ c.kd ∧ c.kd ≤ 9):=Hd ⟨by omega,by omega⟩
 go_wp2_with fail
 repeat (refine (in_call _ _ _).mono ?_;rintro e w2 ⟨rfl,rfl⟩;go_wp2_with fail)
 clear iss isq iep inn ish ind hfl hdl hnb dk1 dk2 dk3 dk4 dk5 hw1 hz
 go_loopw [4] (fun i wr => ∃ k:Nat,k ≤ m ∧ i = .int .i64 k ∧ Hid ((c.its.take k).all itR = true) ∧ Hid (Cells wr z 38 [.int .i64 c.kd,.int .i64 c.ss,.int .i64 c.sq,.int .i64 c.sh,.int .i64 c.nd,.int .i64 c.ep,.int .i64 c.n,.string ⟨c.fd.toArray⟩,.string ⟨c.id.toArray⟩,.slice IA m ic,.bool c.fl]) ∧ Hid (Only [] w wr)) (fun i _ => m - (intOf i).toNat)
 case atStart => exact ⟨0,by omega,rfl,Hd rfl,Hd HZ,HO⟩
 case round =>
  obtain ⟨k,hk,rfl,hall,hZ,ho⟩:=hrel
  clear c0 c1 c2 c3 c4 c5 c6 c7 c8 c9 c10
  have c0:=hZ.out.cell (k:=0) rfl
  have c9:=hZ.out.cell (k:=9) rfl
  have c10:=hZ.out.cell (k:=10) rfl
  by_cases hlt:k < m
  · have hlt':(k:Int) < (m:Int):=by omega
    have dlt:decide ((k:Int) < (m:Int)) = true:=by simpa using hlt
    obtain ⟨x,hx⟩:∃ x,c.its[k]? = some x:=⟨_,List.getElem?_eq_getElem (by rw [hm'];exact hlt)⟩
    obtain ⟨b1,o1,c1',e1,q0,q1,q2⟩:=itL_at (H.out.only ho.out).its hx
    have hxl:=H.out.len x (List.mem_of_getElem? hx)
    have HT:Hid ((c.its.take (k + 1)).all itR = itR x):=Hd (by rw [List.take_add_one,hx,List.all_append,hall.out];simp)
    have HA:Hid (itR x = false → c.its.all itR = false):=Hd (fun h => by
     by_cases h2:c.its.all itR = true
     · have:=List.all_eq_true.1 h2 x (List.mem_of_getElem? hx)
       rw [h] at this;cases this
     · simpa using h2)
    have F:=Hd (ref13_right x hxl wr)
    injection e1 with i1 i2 i3
    subst i1
    subst i3
    clear i2 hx hall hxl
    obtain ⟨r,hr⟩:∃ r,itR x = r:=⟨_,rfl⟩
    rw [hr] at F HT HA
    clear hr
    go_wp2_with fail
    refine F.out.mono ?_
    rintro e w3 ⟨rfl,ho3⟩
    have HZ3:=Hd (hZ.out.only ho3 (by simp))
    have HO3:=Hd (ho.out.tr ho3)
    clear ho3 F c0 c9 c10 q0 q1 q2 hZ ho
    cases r with
    | false =>
     have HF:Hid (c.its.all itR = false):=Hd (HA.out rfl)
     clear HA
     go_wp2_with fail
     go_ret
     exact ⟨by rw [HR.out,HF.out,Bool.and_false];rfl,HO3.out⟩
    | true =>
     go_wp2_with fail
     go_roundw
     case rel => exact ⟨k + 1,by omega,by go_num,HT,HZ3,HO3⟩
     case measure => simp [intOf];omega
  · obtain rfl:k = m:=by omega
    have dlt:decide ((k:Int) < (k:Int)) = false:=by simp
    have HA:Hid (c.its.all itR = true):=Hd (by have:=hall.out;rwa [List.take_of_length_le (by omega)] at this)
    clear hall
    by_cases hbad:0 < k ∧ (c.kd ≠ 8 ∨ c.fl = true)
    · have HB:Hid (bareB c = false):=Hd (by
       cases hb:bareB c with
       | false => rfl
       | true => exact absurd (by rw [HM.out];exact hbad) (HBI.out.1 hb).2)
      obtain ⟨hb1,hb2⟩:=hbad
      have db1:decide ((0:Int) < (k:Int)) = true:=by simpa using hb1
      by_cases hk8:c.kd = 8
      · have db2:(!(c.kd == 8)) = false:=by simp [hk8]
        have hfl1:c.fl = true:=hb2.resolve_left (fun h => h hk8)
        go_wp2_with fail
        go_ret
        exact ⟨by rw [HR.out,HB.out];rfl,ho.out⟩
      · have db2:(c.kd == 8) = false:=by simpa using hk8
        go_wp2_with fail
        go_ret
        exact ⟨by rw [HR.out,HB.out];rfl,ho.out⟩
    · have HB:Hid (bareB c = (cmdb (onlyC c) == cmdb c.bare)):=Hd (by
       rw [Bool.eq_iff_iff,HBI.out,HM.out,beq_iff_eq]
       exact and_iff_left hbad)
      have HCO:=Hd (fun w' => only_call c (.slice IA k ic) w' HK.out)
      have HCW:=Hd (fun w' => without_call c (.slice IA k ic) w')
      have HCB1:=Hd (fun w' => ref18_bytes (onlyC c) (.slice none 0 0) w' (only_at H.out w') (only_sm HSM.out))
      have HCB2:=Hd (fun w' => ref18_bytes c.bare (.slice none 0 0) w' (bare_at H.out w') (bare_sm HSM.out))
      have HV:Hid (c.val (.slice IA k ic) = .agg #[.int .i64 c.kd,.int .i64 c.ss,.int .i64 c.sq,.int .i64 c.sh,.int .i64 c.nd,.int .i64 c.ep,.int .i64 c.n,.string ⟨c.fd.toArray⟩,.string ⟨c.id.toArray⟩,.slice IA k ic,.bool c.fl]):=Hd rfl
      rw [HV.out] at HCO HCW
      clear HK HBI HSM HV
      have c1:=hZ.out.cell (k:=1) rfl
      have c2:=hZ.out.cell (k:=2) rfl
      have c3:=hZ.out.cell (k:=3) rfl
      have c4:=hZ.out.cell (k:=4) rfl
      have c5:=hZ.out.cell (k:=5) rfl
      have c6:=hZ.out.cell (k:=6) rfl
      have c7:=hZ.out.cell (k:=7) rfl
      have c8:=hZ.out.cell (k:=8) rfl
      have t0:=fun u:Since wr => u.cell c0
      have t1:=fun u:Since wr => u.cell c1
      have t2:=fun u:Since wr => u.cell c2
      have t3:=fun u:Since wr => u.cell c3
      have t4:=fun u:Since wr => u.cell c4
      have t5:=fun u:Since wr => u.cell c5
      have t6:=fun u:Since wr => u.cell c6
      have t7:=fun u:Since wr => u.cell c7
      have t8:=fun u:Since wr => u.cell c8
      have t9:=fun u:Since wr => u.cell c9
      have t10:=fun u:Since wr => u.cell c10
      obtain ⟨V1,hV1⟩:∃ V,(onlyC c).val (.slice none 0 0) = V:=⟨_,rfl⟩
      obtain ⟨V2,hV2⟩:∃ V,c.bare.val (.slice none 0 0) = V:=⟨_,rfl⟩
      obtain ⟨B1,hB1⟩:∃ V,cmdb (onlyC c) = V:=⟨_,rfl⟩
      obtain ⟨B2,hB2⟩:∃ V,cmdb c.bare = V:=⟨_,rfl⟩
      rw [hV1] at HCO HCB1
      rw [hV2] at HCW HCB2
      rw [hB1] at HB HCB1
      rw [hB2] at HB HCB2
      clear hV1 hV2 hB1 hB2 H
      have hk0:0 < k → c.kd = 8 ∧ c.fl = false:=fun h => by
       refine ⟨?_,?_⟩
       · by_cases h8:c.kd = 8
         · exact h8
         · exact absurd ⟨h,.inl h8⟩ hbad
       · by_cases h8:c.fl = true
         · exact absurd ⟨h,.inr h8⟩ hbad
         · simpa using h8
      clear hbad HZ hlt hk hm hm' HM
      by_cases g9:0 < k
      · obtain ⟨g1,g2⟩:=hk0 g9
        have g3:(0:Int) < (k:Int):=by omega
        simp only [g1,g2] at HCO HCW hZ t0 t10 c0 c10 ⊢
        clear g1 g2 hk0
        go_wp2_with fail
        clear c0 c1 c2 c3 c4 c5 c6 c7 c8 c9 c10
        refine wp_region_only wr oz (by kernel_rfl) (by kernel_rfl) ?_
        repeat (go_big_quiet_step (first
         | (go_at_call 153;refine Calls.only (HCO.out _))
         | (go_at_call 154;refine Calls.only (HCW.out _))
         | (go_at_call 83;with_reducible refine Calls.only (HCB1.out _))
         | (go_at_call 83;refine Calls.only (HCB2.out _))))
        refine wpQuiet_nil ?_
        rintro ⟨w8,ho8⟩
        dsimp only
        go_wp2_with fail
        go_ret
        exact ⟨by rw [HR.out,HB.out,HA.out,Bool.and_true];simp,ho.out.tr ho8⟩
      · obtain rfl:k = 0:=by omega
        clear hk0
        go_wp2_with fail
        clear c0 c1 c2 c3 c4 c5 c6 c7 c8 c9 c10
        refine wp_region_only wr oz (by kernel_rfl) (by kernel_rfl) ?_
        repeat (go_big_quiet_step (first
         | (go_at_call 153;refine Calls.only (HCO.out _))
         | (go_at_call 154;refine Calls.only (HCW.out _))
         | (go_at_call 83;with_reducible refine Calls.only (HCB1.out _))
         | (go_at_call 83;refine Calls.only (HCB2.out _))))
        refine wpQuiet_nil ?_
        rintro ⟨w8,ho8⟩
        dsimp only
        go_wp2_with fail
        go_ret
        exact ⟨by rw [HR.out,HB.out,HA.out,Bool.and_true];simp,ho.out.tr ho8⟩
def pkS (c:Cm):List UInt8:=if rightB c = true then cmdb c else []
def pkE (c:Cm):Int:=if rightB c = true then 0 else 1
theorem ref18_pack (c:Cm) (iv:Value) (w:World) (h:CmAt w iv c) (hs:c.Sm):
 Calls Tryz.prog 33 #[c.val iv] w fun e w' => e = .returned (.tuple #[.string ⟨(pkS c).toArray⟩,.int .i64 (pkE c)]) ∧ Only [] w w':=by
 obtain ⟨IA,ic,rfl⟩:=h.its.shape
 obtain ⟨w0,hw0⟩:∃ w0,w.alloc (.cells #[.int .i64 c.kd,.int .i64 c.ss,.int .i64 c.sq,.int .i64 c.sh,.int .i64 c.nd,.int .i64 c.ep,.int .i64 c.n,.string ⟨c.fd.toArray⟩,.string ⟨c.id.toArray⟩,.slice IA c.its.length ic,.bool c.fl] 38) = w0:=⟨_,rfl⟩
 obtain ⟨z0,hz0⟩:∃ z,w.heap.size = z:=⟨_,rfl⟩
 have O0:Only [] w w0:=hw0 ▸ oz.alloc _
 have HZ0:Hid (Cells w0 z0 38 (c.cells (.slice IA c.its.length ic))):=Hd (hw0 ▸ hz0 ▸ Cells.new w _ _)
 have CR:=Hd (ref18_right c (.slice IA c.its.length ic) w0 (h.only O0) hs)
 have CB:=Hd (fun w' (ho:Only [] w w') => ref18_bytes c (.slice IA c.its.length ic) w' (h.only ho) hs)
 have HO0:=Hd O0
 have HP:Hid (∀ b,rightB c = b → pkS c = (if b = true then cmdb c else []) ∧ pkE c = if b = true then 0 else 1):=Hd (fun b hb => by unfold pkS pkE;rw [hb];exact ⟨rfl,rfl⟩)
 obtain ⟨R,hR⟩:∃ R,rightB c = R:=⟨_,rfl⟩
 obtain ⟨e1,e2⟩:=HP.out R hR
 rw [hR] at CR
 rw [e1,e2]
 unfold Cm.val at CR CB ⊢
 obtain ⟨c0,c1,c2,c3,c4,c5,c6,c7,c8,c9,c10⟩:=cm_cells HZ0.out
 clear h hs O0 HP hR e1 e2
 go_enter Tryz.func33,Tryz.ntmps33
 go_wp2_with fail
 refine CR.out.mono ?_
 rintro e w1 ⟨rfl,ho1⟩
 dsimp only
 have HZ1:=Hd (HZ0.out.only ho1 (by simp))
 have HO1:=Hd (HO0.out.tr ho1)
 clear ho1 CR hw0 hz0 HZ0 HO0 c0 c1 c2 c3 c4 c5 c6 c7 c8 c9 c10
 cases R with
 | false =>
  go_wp2_with fail
  go_ret2
  exact ⟨rfl,HO1.out⟩
 | true =>
  obtain ⟨c0,c1,c2,c3,c4,c5,c6,c7,c8,c9,c10⟩:=cm_cells HZ1.out
  have CB1:=Hd (CB.out w1 HO1.out)
  clear CB
  go_wp2_with fail
  refine CB1.out.mono ?_
  rintro e w2 ⟨rfl,ho2⟩
  dsimp only
  have HO2:=Hd (HO1.out.tr ho2)
  clear ho2
  go_wp2_with fail
  go_ret2
  exact ⟨rfl,HO2.out⟩
theorem holds_cw:Holds 229:=⟨by kernel_rfl,by decide⟩
theorem codec_ints_at (l:List Int) (hl:l.length ≤ 100) (hw:∀ x ∈ l,Wide64 x) (W:World) (b':Nat) (hC:Cells W b' 3 (gvs l)):
 Calls Tryz.prog 149 #[.slice (some ⟨b',0,none⟩) l.length l.length] W fun e w' => e = .returned (.string ⟨(isb l).toArray⟩) ∧ Only [] W w':=
 codec_int (.slice (some ⟨b',0,none⟩) l.length l.length) l W (SlAt.cells (n:=l.length) (sz:=1) hC (by simp [ivs]) (by unfold maxLen;omega)) hw (by omega)
theorem codec_texts_at (l:List (List UInt8)) (hl:l.length ≤ 10) (hb:(tsb l).length ≤ 70368744177600) (W:World) (b':Nat) (hC:Cells W b' 9 (svs l)):
 Calls Tryz.prog 75 #[.slice (some ⟨b',0,none⟩) l.length l.length] W fun e w' => e = .returned (.string ⟨(tsb l).toArray⟩) ∧ Only [] W w':=
 codec_text (.slice (some ⟨b',0,none⟩) l.length l.length) l W (SlAt.cells (n:=l.length) (sz:=1) hC (by simp [svs]) (by unfold maxLen;omega)) (by omega) hb
def CwW (B z:Nat) (l:List UInt8) (w:World) (e:Ending) (w':World):Prop:=e = .returned (.tuple #[]) ∧ IsBld 229 B z l w' ∧ Below B w w' ∧ Keeps z w w'
theorem Keeps.only (b:Nat) {w w':World} (h:Only [] w w'):Keeps b w w':=fun _ _ _ _ _ hC => hC.only h (by simp)
theorem cw_ints (B z b':Nat) (l:List UInt8) (ns:List Int) (n:Nat) (hn:ns.length = n) (w:World) (h:IsBld 229 B z l w) (hB:B ≤ w.heap.size) (hl:l.length ≤ 70368744177664) (hl2:ns.length ≤ 100) (hw:∀ x ∈ ns,Wide64 x) (hC:Cells w b' 3 (gvs ns)):
 Calls Tryz.prog 160 #[.pointer (some ⟨z,0,none⟩),.slice (some ⟨b',0,none⟩) n n] w (CwW B z (l ++ isb ns) w):=by
 subst hn
 have CI:=Hd (fun (u:Since w) => codec_ints_at ns hl2 hw u.w b' (hC.only u.h (by simp)))
 have hle:=isb_length ns hw
 have H:=Hd h
 obtain ⟨T,hT⟩:∃ T,isb ns = T:=⟨_,rfl⟩
 rw [hT] at CI hle ⊢
 clear h hC hw hT
 go_enter Tryz.func160,Tryz.ntmps160
 refine wp_region_only_tail w oz 5 (by kernel_rfl) (by kernel_rfl) ?_
 simp only [tk1,tk0,dr1,dr0]
 repeat (go_big_quiet_step (first
  | (go_at_call 149;refine Calls.only (CI.out _))))
 refine wpQuiet_nil ?_
 rintro ⟨w1,ho1⟩
 dsimp only
 have H1:=Hd (H.out.only ho1)
 have HB:=Hd (ho1.below.mono hB)
 have HK1:=Hd (Keeps.only z ho1)
 have hB1:B ≤ w1.heap.size:=Nat.le_trans hB ho1.size
 clear ho1 CI H
 go_wp2_with fail
 refine (writeString_k _ holds_cw B z l T w1 H1.out (by omega) hB1).mono ?_
 rintro e w2 ⟨rfl,hb,hbe,hk⟩
 have HK2:=Hd (HK1.out.trans hk)
 have H2:=Hd hb
 have HB2:=Hd (HB.out.trans hbe)
 clear hb hbe hk
 go_wp2_with fail
 go_end0
 exact ⟨rfl,.inr H2.out,HB2.out,HK2.out⟩
theorem cw_texts (B z b':Nat) (l:List UInt8) (ns:List (List UInt8)) (n:Nat) (hn:ns.length = n) (w:World) (h:IsBld 229 B z l w) (hB:B ≤ w.heap.size) (hl:l.length ≤ 70368744177664) (hl2:ns.length ≤ 10) (hw:(tsb ns).length ≤ 70368744177600) (hC:Cells w b' 9 (svs ns)):
 Calls Tryz.prog 162 #[.pointer (some ⟨z,0,none⟩),.slice (some ⟨b',0,none⟩) n n] w (CwW B z (l ++ tsb ns) w):=by
 subst hn
 have CI:=Hd (fun (u:Since w) => codec_texts_at ns hl2 hw u.w b' (hC.only u.h (by simp)))
 have H:=Hd h
 obtain ⟨T,hT⟩:∃ T,tsb ns = T:=⟨_,rfl⟩
 rw [hT] at CI hw ⊢
 clear h hC hT
 go_enter Tryz.func162,Tryz.ntmps162
 refine wp_region_only_tail w oz 5 (by kernel_rfl) (by kernel_rfl) ?_
 simp only [tk1,tk0,dr1,dr0]
 repeat (go_big_quiet_step (first
  | (go_at_call 75;refine Calls.only (CI.out _))))
 refine wpQuiet_nil ?_
 rintro ⟨w1,ho1⟩
 dsimp only
 have H1:=Hd (H.out.only ho1)
 have HB:=Hd (ho1.below.mono hB)
 have HK1:=Hd (Keeps.only z ho1)
 have hB1:B ≤ w1.heap.size:=Nat.le_trans hB ho1.size
 clear ho1 CI H
 go_wp2_with fail
 refine (writeString_k _ holds_cw B z l T w1 H1.out (by omega) hB1).mono ?_
 rintro e w2 ⟨rfl,hb,hbe,hk⟩
 have HK2:=Hd (HK1.out.trans hk)
 have H2:=Hd hb
 have HB2:=Hd (HB.out.trans hbe)
 clear hb hbe hk
 go_wp2_with fail
 go_end0
 exact ⟨rfl,.inr H2.out,HB2.out,HK2.out⟩
theorem cw_bool (B z:Nat) (l:List UInt8) (b:Bool) (w:World) (h:IsBld 229 B z l w) (hB:B ≤ w.heap.size) (hl:l.length ≤ 70368744177664):
 Calls Tryz.prog 163 #[.pointer (some ⟨z,0,none⟩),.bool b] w (CwW B z (l ++ bb b) w):=by
 have CI:=Hd (fun (u:Since w) => codec_bool b u.w)
 have hle:(bb b).length = 1:=rfl
 have H:=Hd h
 obtain ⟨T,hT⟩:∃ T,bb b = T:=⟨_,rfl⟩
 rw [hT] at CI hle ⊢
 clear h hT
 go_enter Tryz.func163,Tryz.ntmps163
 refine wp_region_only_tail w oz 5 (by kernel_rfl) (by kernel_rfl) ?_
 simp only [tk1,tk0,dr1,dr0]
 repeat (go_big_quiet_step (first
  | (go_at_call 150;refine Calls.only_same (CI.out _))))
 refine wpQuiet_nil ?_
 rintro ⟨w1,ho1⟩
 dsimp only
 have H1:=Hd (H.out.only ho1)
 have HB:=Hd (ho1.below.mono hB)
 have HK1:=Hd (Keeps.only z ho1)
 have hB1:B ≤ w1.heap.size:=Nat.le_trans hB ho1.size
 clear ho1 CI H
 go_wp2_with fail
 refine (writeString_k _ holds_cw B z l T w1 H1.out (by omega) hB1).mono ?_
 rintro e w2 ⟨rfl,hb,hbe,hk⟩
 have HK2:=Hd (HK1.out.trans hk)
 have H2:=Hd hb
 have HB2:=Hd (HB.out.trans hbe)
 clear hb hbe hk
 go_wp2_with fail
 go_end0
 exact ⟨rfl,.inr H2.out,HB2.out,HK2.out⟩
theorem cw_item (B z:Nat) (l:List UInt8) (x:It) (hx:x.Sm) (w:World) (h:IsBld 229 B z l w) (hB:B ≤ w.heap.size) (hl:l.length ≤ 70368744177664):
 Calls Tryz.prog 161 #[.agg #[.string ⟨x.id.toArray⟩,.string ⟨x.ti.toArray⟩,.string ⟨x.li.toArray⟩],.func (.func 162) #[.pointer (some ⟨z,0,none⟩)] #[]] w (CwW B z (l ++ itB x) w):=by
 have hT:tsb [x.id,x.ti,x.li] = itB x:=by unfold tsb itB;simp
 have hle:=itB_le x hx
 obtain ⟨w1,hw1⟩:∃ w1,w.alloc (.cells #[.string ⟨x.id.toArray⟩,.string ⟨x.ti.toArray⟩,.string ⟨x.li.toArray⟩] 99) = w1:=⟨_,rfl⟩
 obtain ⟨w2,hw2⟩:∃ w2,w1.alloc (.cells #[.string ⟨x.id.toArray⟩,.string ⟨x.ti.toArray⟩,.string ⟨x.li.toArray⟩] 9) = w2:=⟨_,rfl⟩
 have O1:Only [] w w1:=hw1 ▸ oz.alloc _
 have O2:Only [] w w2:=hw2 ▸ O1.alloc _
 obtain ⟨b1,hb1⟩:∃ b,w.heap.size = b:=⟨_,rfl⟩
 obtain ⟨b2,hb2⟩:∃ b,w1.heap.size = b:=⟨_,rfl⟩
 have hC1:Cells w1 b1 99 x.cells:=hw1 ▸ hb1 ▸ Cells.new w _ _
 have hC2:Cells w2 b2 9 (svs [x.id,x.ti,x.li]):=hw2 ▸ hb2 ▸ Cells.new w1 _ _
 have CT:=Hd (cw_texts B z b2 l [x.id,x.ti,x.li] 3 rfl w2 (h.only O2) (Nat.le_trans hB O2.size) hl (by simp) (by rw [hT];omega) hC2)
 rw [hT] at CT
 have HO:=Hd (O2.below.mono hB)
 have HK1:=Hd (Keeps.only z O2)
 have c0:=hC1.cell (k:=0) rfl
 have c1:=hC1.cell (k:=1) rfl
 have c2:=hC1.cell (k:=2) rfl
 clear hT h O1 O2 hC1 hC2
 go_enter Tryz.func161,Tryz.ntmps161
 go_wp2_with fail
 refine CT.out.mono ?_
 rintro e w3 ⟨rfl,h3,hb,hk⟩
 have HK2:=Hd (HK1.out.trans hk)
 have H3:=Hd h3
 have HB3:=Hd (HO.out.trans hb)
 clear h3 hb hk
 go_wp2_with fail
 go_end0
 exact ⟨rfl,H3.out,HB3.out,HK2.out⟩
structure Rp where
 er:Int
 n:Int
 ps:List Po
def Rp.val (r:Rp) (pv:Value):Value:=.agg #[.int .i64 r.er,.int .i64 r.n,pv]
def poB (x:Po):List UInt8:=ib x.sq ++ (itB x.it ++ bb x.rd)
def psB18 (l:List Po):List UInt8:=l.flatMap poB
def rpH (r:Rp):List UInt8:=ib r.er ++ (ib r.n ++ ib r.ps.length)
def rpb (r:Rp):List UInt8:=rpH r ++ psB18 r.ps
structure Po.Sm (x:Po):Prop where
 sq:Wide64 x.sq
 it:x.it.Sm
theorem poB_le (x:Po) (h:x.Sm):(poB x).length ≤ 3000041:=by
 have h1:=itB_le x.it h.it
 have h2:=(ib_length x.sq h.sq).2
 have h3:(bb x.rd).length = 1:=rfl
 unfold poB
 rw [List.length_append,List.length_append]
 omega
theorem psB18_le:∀ (l:List Po),(∀ x ∈ l,x.Sm) → (psB18 l).length ≤ 3000041 * l.length
 | [],_ => by simp [psB18]
 | x :: r,h => by
  have h1:=poB_le x (h x (by simp))
  have h2:=psB18_le r (fun y hy => h y (by simp [hy]))
  unfold psB18 at h2 ⊢
  rw [List.flatMap_cons,List.length_append,List.length_cons]
  omega
theorem psB_snoc (l:List Po) (k:Nat) (x:Po) (h:l[k]? = some x):psB18 (l.take (k + 1)) = psB18 (l.take k) ++ poB x:=by
 unfold psB18
 rw [List.take_add_one,h,List.flatMap_append]
 simp
theorem psB_take (l:List Po) (h:∀ x ∈ l,x.Sm) (k:Nat):(psB18 (l.take k)).length ≤ 3000041 * l.length:=by
 have h1:=psB18_le (l.take k) (fun x hx => h x (List.mem_of_mem_take hx))
 rw [List.length_take] at h1
 have h2:min k l.length ≤ l.length:=Nat.min_le_right _ _
 have:=Nat.mul_le_mul_left 3000041 h2
 omega
structure RpAt (w:World) (pv:Value) (r:Rp):Prop where
 ps:SlAt w w.heap.size pv 5 r.ps.length (poL r.ps)
 er:Wide64 r.er
 n:Wide64 r.n
 sm:∀ x ∈ r.ps,x.Sm
 len:r.ps.length ≤ 1000
theorem RpAt.only {w w':World} {pv:Value} {r:Rp} (h:RpAt w pv r) (ho:Only [] w w'):RpAt w' pv r:=⟨(h.ps.only ho (Nat.le_refl _) (by simp)).more ho.size,h.er,h.n,h.sm,h.len⟩
theorem IsBld.lt' {T:TypeId} {B b:Nat} {l:List UInt8} {w:World} (h:IsBld T B b l w):b < w.heap.size:=by
 rcases h with ⟨_,v,hc,_⟩ | ⟨_,v,hc,_⟩ <;> exact hc.lt
theorem cmd_answer (r:Rp) (pv:Value) (w:World) (h:RpAt w pv r):
 Calls Tryz.prog 85 #[r.val pv] w fun e w' => e = .returned (.string ⟨(rpb r).toArray⟩) ∧ Only [] w w':=by
 have hmf:∀ (fn:Fn) (first cap:Array Value) (w:World),(Instr.makeFunc fn first cap).run Tryz.prog w = .ok (.func fn first cap) w:=fun _ _ _ _ => rfl
 obtain ⟨IA,ic,rfl⟩:=h.ps.shape
 have H:=Hd h
 have hnl:=h.len
 have hwl:Wide64 (r.ps.length:Int):=⟨by omega,by omega⟩
 obtain ⟨w0,hw0⟩:∃ w0,w.alloc (.cells #[.int .i64 r.er,.int .i64 r.n,.slice IA r.ps.length ic] 34) = w0:=⟨_,rfl⟩
 obtain ⟨z0,hz0⟩:∃ z,w.heap.size = z:=⟨_,rfl⟩
 have O0:Only [] w w0:=hw0 ▸ oz.alloc _
 have HZ0:Hid (Cells w0 z0 34 [.int .i64 r.er,.int .i64 r.n,.slice IA r.ps.length ic]):=Hd (hw0 ▸ hz0 ▸ Cells.new w _ _)
 have hz00:z0 < w0.heap.size:=HZ0.out.lt
 have HO0:=Hd O0
 unfold Rp.val
 obtain ⟨w2,hw2⟩:∃ w2,w0.alloc (.cells #[.pointer none,.slice none 0 0] 229) = w2:=⟨_,rfl⟩
 obtain ⟨z,hz⟩:∃ z,w0.heap.size = z:=⟨_,rfl⟩
 have O2:Only [] w0 w2:=hw2 ▸ oz.alloc _
 have HB2:Hid (IsBld 229 z z [] w2):=Hd (.inl (hw2 ▸ hz ▸ Bld.new 229 w0))
 have hz2:z ≤ w2.heap.size:=hz ▸ O2.size
 have HZ2:=Hd (HZ0.out.only O2 (by simp))
 have hz0z:z0 < z:=hz ▸ hz00
 have hzw:w0.heap.size = z:=hz
 have c0:=HZ2.out.cell (k:=0) rfl
 have c1:=HZ2.out.cell (k:=1) rfl
 have c2:=HZ2.out.cell (k:=2) rfl
 obtain ⟨w3,hw3⟩:∃ w3,w2.alloc (.cells #[.int .i64 r.er,.int .i64 r.n,.int .i64 (r.ps.length:Int)] 3) = w3:=⟨_,rfl⟩
 obtain ⟨y3,hy3⟩:∃ y,w2.heap.size = y:=⟨_,rfl⟩
 have O3:Only [] w2 w3:=hw3 ▸ oz.alloc _
 have hC3:Cells w3 y3 3 (gvs [r.er,r.n,(r.ps.length:Int)]):=hw3 ▸ hy3 ▸ Cells.new w2 _ _
 have CI:=Hd (cw_ints z z y3 [] [r.er,r.n,(r.ps.length:Int)] 3 rfl w3 (HB2.out.only O3) (Nat.le_trans hz2 O3.size) (by simp) (by simp) (by intro x hx;simp at hx;rcases hx with rfl | rfl | rfl;exact h.er;exact h.n;exact hwl) hC3)
 rw [List.nil_append] at CI
 have hHH:isb [r.er,r.n,(r.ps.length:Int)] = rpH r:=by unfold isb rpH;simp
 have hHl:(rpH r).length ≤ 100:=by
  have h1:=(ib_length r.er h.er).2
  have h2:=(ib_length r.n h.n).2
  have h3:=(ib_length _ hwl).2
  unfold rpH
  rw [List.length_append,List.length_append]
  omega
 rw [hHH] at CI
 have HB23:Hid (Below z w0 w3):=Hd ((O2.tr O3).below.mono (by rw [hz];exact Nat.le_refl _))
 have HT:=Hd (psB_take r.ps h.sm)
 have HSI:=Hd h.sm
 have HCM:Hid (rpb r = rpH r ++ psB18 r.ps):=Hd rfl
 obtain ⟨MA,hMA⟩:∃ M,rpH r = M:=⟨_,rfl⟩
 rw [hMA] at CI hHl HCM
 clear O3 hC3 O2 hHH hMA h
 go_enter Tryz.func85,Tryz.ntmps85
 go_wp2_with fail
 refine CI.out.mono ?_
 rintro e w8 ⟨rfl,hb8,hbe8,_⟩
 have HBE8:=Hd (HB23.out.trans hbe8)
 have HB8:Hid (IsBld 229 z z (MA ++ psB18 (r.ps.take 0)) w8):=Hd (by rw [List.take_zero];simpa [psB18] using hb8)
 have HZ8:Hid (Cells w8 z0 34 [.int .i64 r.er,.int .i64 r.n,.slice IA r.ps.length ic]):=Hd ((HBE8.out.block z0 hz0z).trans HZ0.out)
 clear hb8 hbe8 CI HB23 hw0 hz0 hw2 hz hw3 hy3 c0 c1 c2 HZ2
 have c2:=HZ8.out.cell (k:=2) rfl
 go_wp2_with fail
 clear c2
 go_loopw [21] (fun n wr => ∃ k:Nat,k ≤ r.ps.length ∧ n = .int .i64 k ∧ Hid (IsBld 229 z z (MA ++ psB18 (r.ps.take k)) wr) ∧ Hid (Below z w0 wr)) (fun n _ => r.ps.length - (intOf n).toNat)
 case atStart => exact ⟨0,by omega,rfl,HB8,HBE8⟩
 case round =>
  obtain ⟨k,hk,rfl,hb,hbe⟩:=hrel
  have hln:=HT.out k
  have hsz:3000041 * r.ps.length ≤ 3000041000:=by omega
  have hzr:z ≤ wr.heap.size:=Nat.le_trans (by omega) hbe.out.size
  have hor:Only [] w0 wr:=Only.of_below (hbe.out.mono (by omega))
  by_cases hlt:k < r.ps.length
  · have hlt':(k:Int) < (r.ps.length:Int):=by omega
    obtain ⟨x,hx⟩:∃ x,r.ps[k]? = some x:=⟨_,List.getElem?_eq_getElem hlt⟩
    obtain ⟨b1,o1,c1',e1,q0,q1,q2,q3,q4⟩:=poL_at (H.out.only (HO0.out.tr hor)).ps rfl hx
    have hxs:=HSI.out x (List.mem_of_getElem? hx)
    have hsn:=psB_snoc r.ps k x hx
    injection e1 with i1 i2 i3
    subst i1
    subst i3
    obtain ⟨wx,hwx⟩:∃ wx,wr.alloc (.cells #[.int .i64 x.sq,.string ⟨x.it.id.toArray⟩,.string ⟨x.it.ti.toArray⟩,.string ⟨x.it.li.toArray⟩,.bool x.rd] 101) = wx:=⟨_,rfl⟩
    obtain ⟨bx,hbx⟩:∃ b,wr.heap.size = b:=⟨_,rfl⟩
    have OX:Only [] wr wx:=hwx ▸ oz.alloc _
    have hCX:Cells wx bx 101 [.int .i64 x.sq,.string ⟨x.it.id.toArray⟩,.string ⟨x.it.ti.toArray⟩,.string ⟨x.it.li.toArray⟩,.bool x.rd]:=hwx ▸ hbx ▸ Cells.new wr _ _
    obtain ⟨wy,hwy⟩:∃ wy,wx.alloc (.cells #[.int .i64 x.sq] 3) = wy:=⟨_,rfl⟩
    obtain ⟨by_,hby⟩:∃ b,wx.heap.size = b:=⟨_,rfl⟩
    have OY:Only [] wx wy:=hwy ▸ oz.alloc _
    have hCY:Cells wy by_ 3 (gvs [x.sq]):=hwy ▸ hby ▸ Cells.new wx _ _
    have hzx:z ≤ wx.heap.size:=Nat.le_trans hzr OX.size
    have hzy:z ≤ wy.heap.size:=Nat.le_trans hzx OY.size
    have hxq:=(ib_length x.sq hxs.sq).2
    have hxi:=itB_le x.it hxs.it
    obtain ⟨L,hL⟩:∃ L,MA ++ psB18 (r.ps.take k) = L:=⟨_,rfl⟩
    have hLl:L.length ≤ 3000041200:=by rw [← hL,List.length_append];omega
    have HSN:Hid (MA ++ psB18 (r.ps.take (k + 1)) = L ++ isb [x.sq] ++ itB x.it ++ bb x.rd):=Hd (by rw [hsn,← List.append_assoc,hL];unfold poB isb;simp)
    rw [hL] at hb
    have CX:=Hd (cw_ints z z by_ L [x.sq] 1 rfl wy ((hb.out.only OX).only OY) hzy (by omega) (by simp) (by intro u hu;simp at hu;subst hu;exact hxs.sq) hCY)
    have HBY:=Hd (hbe.out.trans ((OX.tr OY).below.mono hzr))
    have HCX:=Hd (hCX.only OY (by simp))
    have hbz:z < bx:=by have:=IsBld.lt' hb.out;omega
    have p0:=hCX.cell (k:=0) rfl
    have hI1:isb [x.sq] = ib x.sq:=by unfold isb;simp
    have HIS:=Hd hxs.it
    clear hx i2 hsn hxs hor OX hCX OY hCY hb hbe hL
    go_wp2_with fail
    refine CX.out.mono ?_
    rintro e w9 ⟨rfl,hb9,hbe9,hk9⟩
    dsimp only
    have hC9:Cells w9 bx 101 [.int .i64 x.sq,.string ⟨x.it.id.toArray⟩,.string ⟨x.it.ti.toArray⟩,.string ⟨x.it.li.toArray⟩,.bool x.rd]:=hk9 bx _ _ (by omega) (by decide) HCX.out
    have HBE9:=Hd (HBY.out.trans hbe9)
    have hz9:z ≤ w9.heap.size:=by have:=HBE9.out.size;omega
    have C2:=Hd (cw_item z z (L ++ isb [x.sq]) x.it HIS.out w9 hb9 hz9 (by rw [List.length_append,hI1];omega))
    have HC9:=Hd hC9
    have r1:=hC9.cell (k:=1) rfl
    have r2:=hC9.cell (k:=2) rfl
    have r3:=hC9.cell (k:=3) rfl
    clear hb9 hbe9 hk9 CX hC9 HBY HCX p0 hwx hbx hwy hby q0 q1 q2 q3 q4
    go_wp2_with fail
    refine C2.out.mono ?_
    rintro e w10 ⟨rfl,hb10,hbe10,hk10⟩
    dsimp only
    have hC10:Cells w10 bx 101 [.int .i64 x.sq,.string ⟨x.it.id.toArray⟩,.string ⟨x.it.ti.toArray⟩,.string ⟨x.it.li.toArray⟩,.bool x.rd]:=hk10 bx _ _ (by omega) (by decide) HC9.out
    have HBE10:=Hd (HBE9.out.trans hbe10)
    have hz10:z ≤ w10.heap.size:=by have:=HBE10.out.size;omega
    have C3:=Hd (cw_bool z z (L ++ isb [x.sq] ++ itB x.it) x.rd w10 hb10 hz10 (by rw [List.length_append,List.length_append,hI1];omega))
    have r4:=hC10.cell (k:=4) rfl
    clear hb10 hbe10 hk10 C2 hC10 HBE9 HC9 r1 r2 r3
    go_wp2_with fail
    refine C3.out.mono ?_
    rintro e w11 ⟨rfl,hb11,hbe11,_⟩
    dsimp only
    have HB11:Hid (IsBld 229 z z (MA ++ psB18 (r.ps.take (k + 1))) w11):=Hd (by rw [HSN.out];exact hb11)
    have HBE11:=Hd (HBE10.out.trans hbe11)
    clear hb11 hbe11 C3 HBE10 HSN r4
    go_wp2_with fail
    go_roundw
    case rel => exact ⟨k + 1,by omega,by go_num,HB11,HBE11⟩
    case measure => simp [intOf];omega
  · obtain rfl:k = r.ps.length:=by omega
    have hd2:decide ((r.ps.length:Int) < (r.ps.length:Int)) = false:=by simp
    rw [List.take_length] at hb hln
    clear HT hor hsz
    go_wp2_with fail
    refine (builder_string_any 229 z z (MA ++ psB18 r.ps) wr hb.out).mono ?_
    rintro e w10 ⟨rfl,hbe10⟩
    have HBX:=Hd (hbe.out.trans hbe10)
    clear hbe10
    go_wp2_with fail
    go_ret
    exact ⟨by rw [HCM.out];rfl,HO0.out.tr (Only.of_below (HBX.out.mono (by omega)))⟩
theorem ref18_answer (r:Rp) (pv:Value) (w:World) (h:RpAt w pv r):
 Calls Tryz.prog 56 #[r.val pv] w fun e w' => e = .returned (.string ⟨(rpb r).toArray⟩) ∧ Only [] w w':=by
 obtain ⟨IA,ic,rfl⟩:=h.ps.shape
 have H:=Hd h
 have hnl:=h.len
 have hwl:Wide64 (r.ps.length:Int):=⟨by omega,by omega⟩
 obtain ⟨w0,hw0⟩:∃ w0,w.alloc (.cells #[.int .i64 r.er,.int .i64 r.n,.slice IA r.ps.length ic] 34) = w0:=⟨_,rfl⟩
 obtain ⟨z0,hz0⟩:∃ z,w.heap.size = z:=⟨_,rfl⟩
 have O0:Only [] w w0:=hw0 ▸ oz.alloc _
 have HZ0:Hid (Cells w0 z0 34 [.int .i64 r.er,.int .i64 r.n,.slice IA r.ps.length ic]):=Hd (hw0 ▸ hz0 ▸ Cells.new w _ _)
 have HO0:=Hd O0
 have hHH:rpH r = ib r.er ++ ib r.n ++ ib r.ps.length:=by unfold rpH;simp
 have hHl:(rpH r).length ≤ 100:=by
  have h1:=(ib_length r.er h.er).2
  have h2:=(ib_length r.n h.n).2
  have h3:=(ib_length _ hwl).2
  unfold rpH
  rw [List.length_append,List.length_append]
  omega
 have l1:=(ib_length r.er h.er).2
 have l2:=(ib_length r.n h.n).2
 have l3:=(ib_length _ hwl).2
 have C1:=Hd (fun w' => ref_int r.er w' h.er)
 have C2:=Hd (fun w' => ref_int r.n w' h.n)
 have C3:=Hd (fun w' => ref_int (r.ps.length:Int) w' hwl)
 have c0:=HZ0.out.cell (k:=0) rfl
 have c1:=HZ0.out.cell (k:=1) rfl
 have c2:=HZ0.out.cell (k:=2) rfl
 have t0:=fun u:Since w0 => u.cell c0
 have t1:=fun u:Since w0 => u.cell c1
 have t2:=fun u:Since w0 => u.cell c2
 have HT:=Hd (psB_take r.ps h.sm)
 have HSI:=Hd h.sm
 have HCM:Hid (rpb r = rpH r ++ psB18 r.ps):=Hd rfl
 have HHH:=Hd hHH
 unfold Rp.val
 clear h O0 c0 c1 c2 hHH
 go_enter Tryz.func56,Tryz.ntmps56
 go_wp2_with fail
 clear hw0 hz0
 refine wp_region_only w0 oz (by kernel_rfl) (by kernel_rfl) ?_
 repeat (go_big_quiet_step (first
  | (go_at_call 117;with_reducible refine Calls.only (C1.out _))
  | (go_at_call 117;with_reducible refine Calls.only (C2.out _))
  | (go_at_call 117;with_reducible refine Calls.only (C3.out _))))
 refine wpQuiet_nil ?_
 rintro ⟨w8,ho8⟩
 dsimp only
 have hs:(⟨(ib r.er).toArray⟩ ++ ⟨(ib r.n).toArray⟩ ++ ⟨(ib (r.ps.length:Int)).toArray⟩:ByteArray) = ⟨(rpH r).toArray⟩:=by rw [HHH.out];simp [ba_append]
 rw [hs]
 obtain ⟨MA,hMA⟩:∃ MA,rpH r = MA:=⟨_,rfl⟩
 rw [hMA] at hHl HCM ⊢
 have HZ8:=Hd (HZ0.out.only ho8 (by simp))
 have HO8:=Hd (HO0.out.tr ho8)
 clear hs hMA HHH ho8 C1 C2 C3 t0 t1 t2 HZ0 l1 l2 l3
 go_wp2_with fail
 go_loopw [3,4] (fun q i wq => ∃ k:Nat,k ≤ r.ps.length ∧ i = .int .i64 k ∧ q = .string ⟨(MA ++ psB18 (r.ps.take k)).toArray⟩ ∧ Hid (Cells wq z0 34 [.int .i64 r.er,.int .i64 r.n,.slice IA r.ps.length ic]) ∧ Hid (Only [] w wq)) (fun _ i _ => r.ps.length - (intOf i).toNat)
 case atStart => exact ⟨0,by omega,rfl,by simp [psB18],HZ8,HO8⟩
 case round =>
  obtain ⟨k,hk,rfl,rfl,hZ,ho⟩:=hrel
  have c2:=hZ.out.cell (k:=2) rfl
  have hln:=HT.out k
  have hsz:3000041 * r.ps.length ≤ 3000041000:=by omega
  by_cases hlt:k < r.ps.length
  · have hlt':(k:Int) < (r.ps.length:Int):=by omega
    obtain ⟨x,hx⟩:∃ x,r.ps[k]? = some x:=⟨_,List.getElem?_eq_getElem hlt⟩
    obtain ⟨b1,o1,c1',e1,q0,q1,q2,q3,q4⟩:=poL_at (H.out.only ho.out).ps rfl hx
    have hxs:=HSI.out x (List.mem_of_getElem? hx)
    have hsn:=psB_snoc r.ps k x hx
    have lq:=(ib_length x.sq hxs.sq).2
    have li:=itB_le x.it hxs.it
    have lb:(bb x.rd).length = 1:=rfl
    have C1:=Hd (fun w' => ref_int x.sq w' hxs.sq)
    have C2:=Hd (fun w' => ref18_item x.it hxs.it w')
    have C3:=Hd (fun w' => ref_bool x.rd w')
    injection e1 with i1 i2 i3
    subst i1
    subst i3
    obtain ⟨EB,hEB⟩:∃ T,psB18 (r.ps.take k) = T:=⟨_,rfl⟩
    obtain ⟨QB,hQB⟩:∃ T,ib x.sq = T:=⟨_,rfl⟩
    obtain ⟨XB,hXB⟩:∃ T,itB x.it = T:=⟨_,rfl⟩
    obtain ⟨RB,hRB⟩:∃ T,bb x.rd = T:=⟨_,rfl⟩
    have HSN:Hid (psB18 (r.ps.take (k + 1)) = EB ++ (QB ++ (XB ++ RB))):=Hd (by rw [hsn,hEB];unfold poB;rw [hQB,hXB,hRB])
    rw [hEB] at hln ⊢
    rw [hQB] at lq C1
    rw [hXB] at li C2
    rw [hRB] at lb C3
    have t2:=fun u:Since wr => u.cell c2
    have s0:=fun u:Since wr => u.cell q0
    have s1:=fun u:Since wr => u.cell q1
    have s2:=fun u:Since wr => u.cell q2
    have s3:=fun u:Since wr => u.cell q3
    have s4:=fun u:Since wr => u.cell q4
    clear hx i2 hsn hxs hEB hQB hXB hRB
    go_wp2_with fail
    clear c2 q0 q1 q2 q3 q4
    refine wp_region_only wr oz (by kernel_rfl) (by kernel_rfl) ?_
    repeat (go_big_quiet_step (first
     | (go_at_call 117;refine Calls.only (C1.out _))
     | (go_at_call 118;refine Calls.only (C2.out _))
     | (go_at_call 119;refine Calls.only_same (C3.out _))))
    refine wpQuiet_nil ?_
    rintro ⟨w9,ho9⟩
    dsimp only
    have hZ':=Hd (hZ.out.only ho9 (by simp))
    have ho':=Hd (ho.out.tr ho9)
    clear ho9 C1 C2 C3 t2 s0 s1 s2 s3 s4
    go_wp2_with fail
    go_roundw
    case rel => exact ⟨k + 1,by omega,by go_num,by rw [HSN.out];simp [ba_append],hZ',ho'⟩
    case measure => simp [intOf];omega
  · obtain rfl:k = r.ps.length:=by omega
    have hd2:decide ((r.ps.length:Int) < (r.ps.length:Int)) = false:=by simp
    rw [List.take_length] at hln ⊢
    obtain ⟨EB,hEB⟩:∃ T,psB18 r.ps = T:=⟨_,rfl⟩
    rw [hEB] at HCM hln ⊢
    clear hEB HT
    go_wp2_with fail
    go_ret
    exact ⟨by rw [HCM.out];simp [ba_append],ho.out⟩
theorem ref18_client (c:Cm) (iv:Value) (w:World):Calls Tryz.prog 87 #[c.val iv] w fun e w' => e = .returned (.bool (clB c.kd)) ∧ Only [] w w':=by
 unfold Cm.val clB
 have HO:=Hd (((Only.refl [] w).alloc (.cells #[.int .i64 c.kd,.int .i64 c.ss,.int .i64 c.sq,.int .i64 c.sh,.int .i64 c.nd,.int .i64 c.ep,.int .i64 c.n,.string ⟨c.fd.toArray⟩,.string ⟨c.id.toArray⟩,iv,.bool c.fl] 38)))
 by_cases h2:c.kd = 2
 · rw [h2] at HO ⊢
   go_enter Tryz.func87,Tryz.ntmps87
   go_wp2_with fail
   go_ret
   exact ⟨rfl,HO.out⟩
 by_cases h3:c.kd = 3
 · rw [h3] at HO ⊢
   go_enter Tryz.func87,Tryz.ntmps87
   go_wp2_with fail
   go_ret
   exact ⟨rfl,HO.out⟩
 by_cases h4:c.kd = 4
 · rw [h4] at HO ⊢
   go_enter Tryz.func87,Tryz.ntmps87
   go_wp2_with fail
   go_ret
   exact ⟨rfl,HO.out⟩
 by_cases h5:c.kd = 5
 · rw [h5] at HO ⊢
   go_enter Tryz.func87,Tryz.ntmps87
   go_wp2_with fail
   go_ret
   exact ⟨rfl,HO.out⟩
 have d2:(c.kd == 2) = false:=by simpa using h2
 have d3:(c.kd == 3) = false:=by simpa using h3
 have d4:(c.kd == 4) = false:=by simpa using h4
 have d5:(c.kd == 5) = false:=by simpa using h5
 have HR:Hid ((c.kd == 2 || (c.kd == 3 || (c.kd == 4 || c.kd == 5))) = false):=Hd (by rw [d2,d3,d4,d5];rfl)
 rw [HR.out]
 go_enter Tryz.func87,Tryz.ntmps87
 go_wp2_with fail
 go_ret
 exact ⟨rfl,HO.out⟩
theorem index_p3 (l:List Value) (k:Nat) (v:Value) (hk:k < 3) (hv:l[k]? = some v) (w:World):
 (Instr.index 276 (.agg l.toArray) (.int .i64 k)).run Tryz.prog w = .ok v w:=by
 have hu:(underlying 276).run Tryz.prog w = .ok (.array 3 275) w:=by kernel_rfl
 have hs:(sizeOf 275).run Tryz.prog w = .ok 1 w:=by kernel_rfl
 have ha:(isAgg 275).run Tryz.prog w = .ok false w:=by kernel_rfl
 have hk':(0:Int) ≤ k ∧ (k:Int) < (3:Nat):=⟨by omega,by omega⟩
 have hv':l.toArray[k]? = some v:=by simpa using hv
 simp only [Instr.index,asIntOf,Sem.run_bind,Sem.run_pure,Result.andThen_ok,hu]
 rw [if_pos hk']
 simp only [part,Sem.run_bind,Result.andThen_ok,hs,ha,Int.toNat_natCast,Nat.mul_one,hv']
 rfl
theorem index_p7 (l:List Value) (k:Nat) (v:Value) (hk:k < 7) (hv:l[k]? = some v) (w:World):
 (Instr.index 227 (.agg l.toArray) (.int .i64 k)).run Tryz.prog w = .ok v w:=by
 have hu:(underlying 227).run Tryz.prog w = .ok (.array 7 226) w:=by kernel_rfl
 have hs:(sizeOf 226).run Tryz.prog w = .ok 1 w:=by kernel_rfl
 have ha:(isAgg 226).run Tryz.prog w = .ok false w:=by kernel_rfl
 have hk':(0:Int) ≤ k ∧ (k:Int) < (7:Nat):=⟨by omega,by omega⟩
 have hv':l.toArray[k]? = some v:=by simpa using hv
 simp only [Instr.index,asIntOf,Sem.run_bind,Sem.run_pure,Result.andThen_ok,hu]
 rw [if_pos hk']
 simp only [part,Sem.run_bind,Result.andThen_ok,hs,ha,Int.toNat_natCast,Nat.mul_one,hv']
 rfl
def Rd.tx (r:Rd):Nat → Rd
 | 0 => r
 | k + 1 => (r.tx k).text.2
def txL (r:Rd) (k:Nat):List Value:=((List.range k).map fun j => Value.string ⟨((r.tx j).text.1).toArray⟩) ++ List.replicate (3 - k) (.string ⟨([]:List UInt8).toArray⟩)
theorem txL_set (r:Rd) (k:Nat) (hk:k < 3):(txL r k).set k (.string ⟨((r.tx k).text.1).toArray⟩) = txL r (k + 1):=by
 have hk:k = 0 ∨ k = 1 ∨ k = 2:=by omega
 rcases hk with rfl | rfl | rfl
 all_goals simp [txL,List.range_succ,List.replicate]
theorem txL_len (r:Rd) (k:Nat) (hk:k ≤ 3):(txL r k).length = 3:=by unfold txL;simp;omega
theorem pt3_get (z k:Nat) (hk:k < 3):([.pointer (some ⟨z,0,none⟩),.pointer (some ⟨z,1,none⟩),.pointer (some ⟨z,2,none⟩)]:List Value)[k]? = some (.pointer (some ⟨z,k,none⟩)):=by
 have hk:k = 0 ∨ k = 1 ∨ k = 2:=by omega
 rcases hk with rfl | rfl | rfl <;> rfl
theorem cr_item (z:Nat) (r:Rd) (w:World) (h:CrAt w z r):
 Calls Tryz.prog 158 #[.pointer (some ⟨z,0,none⟩)] w fun e w' => e = .returned (.agg #[.string ⟨r.item.1.id.toArray⟩,.string ⟨r.item.1.ti.toArray⟩,.string ⟨r.item.1.li.toArray⟩]) ∧ CrAt w' z r.item.2 ∧ Only [z] w w':=by
 have x0:r.item.1.id = (r.tx 0).text.1:=rfl
 have x1:r.item.1.ti = (r.tx 1).text.1:=rfl
 have x2:r.item.1.li = (r.tx 2).text.1:=rfl
 obtain ⟨t0,ht0⟩:∃ t,(r.tx 0).text.1 = t:=⟨_,rfl⟩
 obtain ⟨t1,ht1⟩:∃ t,(r.tx 1).text.1 = t:=⟨_,rfl⟩
 obtain ⟨t2,ht2⟩:∃ t,(r.tx 2).text.1 = t:=⟨_,rfl⟩
 have HT0:=Hd ht0
 have HT1:=Hd ht1
 have HT2:=Hd ht2
 rw [x0,x1,x2,ht0,ht1,ht2]
 clear x0 x1 x2 ht0 ht1 ht2
 obtain ⟨w1,hw1⟩:∃ w1,w.alloc (.cells #[.string ⟨#[]⟩,.string ⟨#[]⟩,.string ⟨#[]⟩] 99) = w1:=⟨_,rfl⟩
 obtain ⟨w2,hw2⟩:∃ w2,w1.alloc (.cells #[.string ⟨#[]⟩,.string ⟨#[]⟩,.string ⟨#[]⟩] 99) = w2:=⟨_,rfl⟩
 obtain ⟨a,ha⟩:∃ a,w.heap.size = a:=⟨_,rfl⟩
 obtain ⟨b,hb⟩:∃ b,w1.heap.size = b:=⟨_,rfl⟩
 have O1:Only [] w w1:=hw1 ▸ oz.alloc _
 have O2:Only [] w1 w2:=hw2 ▸ oz.alloc _
 have hA1:Cells w1 a 99 (txL r 0):=hw1 ▸ ha ▸ Cells.new w _ _
 have hB2:Cells w2 b 99 (txL r 0):=hw2 ▸ hb ▸ Cells.new w1 _ _
 have hA2:=hA1.only O2 (by simp)
 have hR2:=h.only (O1.tr O2) (by simp)
 have hzl:=h.lt
 have hab:a < b:=by have:=hA1.lt;omega
 have hza:z < a:=by omega
 have HA2:=Hd hA2
 have HB2:=Hd hB2
 have HR2:=Hd hR2
 have HO2:=Hd (O1.tr O2)
 have HAS:=Hd ha
 have HIX:=Hd (fun k hk w' => index_p3 [.pointer (some ⟨b,0,none⟩),.pointer (some ⟨b,1,none⟩),.pointer (some ⟨b,2,none⟩)] k _ hk (pt3_get b k hk) w')
 clear h hA1 hB2 hA2 hR2 O1 O2 hzl
 go_enter Tryz.func158,Tryz.ntmps158
 go_wp2_with fail
 go_loopw [5,10] (fun _ i wr => ∃ k:Nat,k ≤ 3 ∧ i = .int .i64 k ∧ Hid (CrAt wr z (r.tx k)) ∧ Hid (Cells wr b 99 (txL r k)) ∧ Hid (Cells wr a 99 (txL r 0)) ∧ Hid (Only [z] w wr)) (fun _ i _ => 3 - (intOf i).toNat)
 case atStart => exact ⟨0,by omega,rfl,HR2,HB2,HA2,Hd (HO2.out.of0)⟩
 case round =>
  obtain ⟨k,hk,rfl,hR,hB,hA,ho⟩:=hrel
  by_cases hlt:k < 3
  · have hlt':(k:Int) < 3:=by omega
    have hix:=HIX.out k hlt
    have hix:=fun w' => by have:=hix w';simpa using this
    have CT:=Hd (cr_text z (r.tx k) wr hR.out)
    go_wp2_with fail
    refine CT.out.mono ?_
    rintro e w3 ⟨rfl,hR3,ho3⟩
    have hB3:=hB.out.only ho3 (by simp;omega)
    have HA3:=Hd (hA.out.only ho3 (by simp;omega))
    obtain ⟨u0,d0⟩:∃ u,w3.cell? ⟨b,k,none⟩ = some u:=⟨_,hB3.cell (List.getElem?_eq_getElem (by rw [txL_len r k hk];exact hlt))⟩
    have f0:=hB3.frozen k
    have HB4:Hid (Cells (w3.setCell ⟨b,k,none⟩ (.string ⟨((r.tx k).text.1).toArray⟩)) b 99 (txL r (k + 1))):=Hd (by rw [← txL_set r k hlt];exact hB3.set k _)
    have HR4:Hid (CrAt (w3.setCell ⟨b,k,none⟩ (.string ⟨((r.tx k).text.1).toArray⟩)) z (r.tx (k + 1))):=Hd ⟨hR3.1.far (p:=⟨b,k,none⟩) (by show z ≠ b;omega) _,hR3.2⟩
    have HA4:=Hd (HA3.out.far (p:=⟨b,k,none⟩) (by show a ≠ b;omega) (.string ⟨((r.tx k).text.1).toArray⟩))
    have HO4:=Hd ((ho.out.tr ho3).setCell (p:=⟨b,k,none⟩) (.inr (by show w.heap.size ≤ b;omega)) (.string ⟨((r.tx k).text.1).toArray⟩))
    have hbl:=hB3.lt
    clear hR3 ho3 hB3 HA3 CT hR hB hA ho hix
    go_wp2_with fail
    go_roundw
    case rel => exact ⟨k + 1,by omega,by go_num,HR4,HB4,HA4,HO4⟩
    case measure => simp [intOf];omega
  · obtain rfl:k = 3:=by omega
    have hB':Cells wr b 99 [.string ⟨((r.tx 0).text.1).toArray⟩,.string ⟨((r.tx 1).text.1).toArray⟩,.string ⟨((r.tx 2).text.1).toArray⟩]:=hB.out
    have hA':Cells wr a 99 [.string ⟨([]:List UInt8).toArray⟩,.string ⟨([]:List UInt8).toArray⟩,.string ⟨([]:List UInt8).toArray⟩]:=hA.out
    have HR:Hid (CrAt wr z r.item.2):=Hd hR.out
    rw [HT0.out,HT1.out,HT2.out] at hB'
    have b0:=hB'.cell (k:=0) rfl
    have b1:=hB'.cell (k:=1) rfl
    have b2:=hB'.cell (k:=2) rfl
    have hone:(#[.string ⟨t0.toArray⟩,.string ⟨t1.toArray⟩,.string ⟨t2.toArray⟩]:Array Value).all (·.oneCell') = true:=by simp [Value.oneCell']
    have hst:=hA'
    clear hR hB hA
    go_wp2_with (refine wpList_store_row rfl 99 _ _ rfl a #[.string ⟨t0.toArray⟩,.string ⟨t1.toArray⟩,.string ⟨t2.toArray⟩] rfl rfl 99 _ hst (by kernel_rfl) rfl hone ?_)
    (try simp only [Exit.inBlock,Exit.then])
    refine bodyPost_ret (v:=.agg #[.string ⟨t0.toArray⟩,.string ⟨t1.toArray⟩,.string ⟨t2.toArray⟩]) ?_ rfl ⟨rfl,⟨HR.out.1.farRow (by omega) _,HR.out.2⟩,ho.out.setRow (.inr (by omega)) _⟩
    exact results_row Tryz.results158 _ _ a 99 [.string ⟨t0.toArray⟩,.string ⟨t1.toArray⟩,.string ⟨t2.toArray⟩] _ rfl (Cells.setRow hA' [.string ⟨t0.toArray⟩,.string ⟨t1.toArray⟩,.string ⟨t2.toArray⟩]) Tryz.underlying99 rfl (by kernel_rfl)
def Rd.many (r:Rd):Int × Rd:=if r.int.2.bad = true ∨ r.int.1 < 0 ∨ 100 < r.int.1 then (0,⟨r.int.2.s,true⟩) else (r.int.1,r.int.2)
theorem cr_many (z:Nat) (r:Rd) (w:World) (h:CrAt w z r):
 Calls Tryz.prog 157 #[.pointer (some ⟨z,0,none⟩)] w fun e w' => e = .returned (.int .i64 r.many.1) ∧ CrAt w' z r.many.2 ∧ Only [z] w w':=by
 have C:=Hd (cr_int z r w h)
 have HM:Hid (∀ q n,r.int = (n,q) → r.many = if q.bad = true ∨ n < 0 ∨ 100 < n then (0,⟨q.s,true⟩) else (n,q)):=Hd (fun q n hq => by unfold Rd.many;rw [hq])
 obtain ⟨⟨n,q⟩,hq⟩:∃ p,r.int = p:=⟨_,rfl⟩
 have hm:=HM.out q n hq
 rw [hq] at C
 dsimp only at C
 obtain ⟨⟨mv,mq⟩,hmm⟩:∃ p,r.many = p:=⟨_,rfl⟩
 rw [hmm] at hm ⊢
 have HM2:=Hd hm
 clear h HM hq hm hmm
 go_enter Tryz.func157,Tryz.ntmps157
 go_wp2_with fail
 refine C.out.mono ?_
 rintro e w1 ⟨rfl,hR,ho⟩
 have c1:=hR.1.cell (k:=1) rfl
 have f1:=hR.1.frozen 1
 have hzl:=hR.lt
 have HR:=Hd hR
 have HO:=Hd ho
 clear C hR ho
 by_cases k1:n < 0
 · obtain ⟨rfl,rfl⟩:mv = 0 ∧ mq = ⟨q.s,true⟩:=by have:=HM2.out;rw [if_pos (.inr (.inl k1))] at this;simpa using this
   go_wp2_with fail
   go_ret
   exact ⟨rfl,⟨HR.out.1.set 1 _,HR.out.2⟩,HO.out.setCell (p:=⟨z,1,none⟩) (.inl (by simp)) _⟩
 by_cases k2:100 < n
 · obtain ⟨rfl,rfl⟩:mv = 0 ∧ mq = ⟨q.s,true⟩:=by have:=HM2.out;rw [if_pos (.inr (.inr k2))] at this;simpa using this
   go_wp2_with fail
   go_ret
   exact ⟨rfl,⟨HR.out.1.set 1 _,HR.out.2⟩,HO.out.setCell (p:=⟨z,1,none⟩) (.inl (by simp)) _⟩
 cases hb:q.bad with
 | true =>
  rw [hb] at c1
  obtain ⟨rfl,rfl⟩:mv = 0 ∧ mq = ⟨q.s,true⟩:=by have:=HM2.out;rw [if_pos (.inl hb)] at this;simpa using this
  have HQ:Hid ((⟨q.s,true⟩:Rd) = q):=Hd (by cases q;simp_all)
  clear hb
  go_wp2_with fail
  go_ret
  exact ⟨rfl,by rw [HQ.out];exact HR.out,HO.out⟩
 | false =>
  rw [hb] at c1
  obtain ⟨rfl,rfl⟩:mv = n ∧ mq = q:=by have:=HM2.out;rw [if_neg (by rw [hb];simp;omega)] at this;simpa using this
  clear hb
  go_wp2_with fail
  go_ret
  exact ⟨rfl,HR.out,HO.out⟩
end Go.Proofs.YtcjfmildalappaaGreat
