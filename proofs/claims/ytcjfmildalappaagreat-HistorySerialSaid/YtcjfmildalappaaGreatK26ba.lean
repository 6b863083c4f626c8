/-
  Contracts; each theorem bears its own conditions.
-/
import Derived.Test.YtcjfmildalappaaGreatK26ab
import Derived.Test.YtcjfmildalappaaGreatK26ai
import Derived.Test.YtcjfmildalappaaGreatK26ay
import Derived.Test.YtcjfmildalappaaGreatK26az
set_option linter.all false
set_option maxRecDepth 100000
set_option maxHeartbeats 8000000
namespace Go.Proofs.YtcjfmildalappaaGreat
open Go.RowKit
theorem info_cop23:(Tryz.prog.info? 88).map (fun i => (i.zero,i.size,i.bytes)) = some (some (.agg #[.int .i64 0,.string ⟨#[]⟩,.string ⟨#[]⟩,.int .i64 0,.int .i64 0]),5,56):=by kernel_rfl
theorem oqL_step (l:List Oq) (k:Nat) (x:Oq) (h:l[k]? = some x):oqL (l.take (k + 1)) = oqL (l.take k) ++ [.int .i64 x.cl,.string ⟨x.d.toArray⟩,.string ⟨x.r.toArray⟩,.int .i64 x.st,.int .i64 x.en]:=by
 rw [List.take_add_one,h]
 unfold oqL
 rw [List.flatMap_append]
 simp [Oq.cells]
theorem as23 (v:Value) (os:List Oq) (w:World) (hs:SlAt w w.heap.size v 5 os.length (oqL os)) (hn:os.length ≤ 1000):
 Calls Tryz.prog 51 #[v] w fun e w' => ∃ rv,e = .returned rv ∧ w'.ownsRow w.heap.size 88 5 rv os.length (oqL os) ∧ Only [] w w':=by
 obtain ⟨i0,hi0,hz0,hz1,hz2⟩:=info_parts info_cop23
 obtain ⟨LA,lc,rfl⟩:=hs.shape
 have HS:=Hd hs
 clear hs
 go_enter Tryz.func51,Tryz.ntmps51
 go_wp2_with fail
 go_loopw [3,4] (fun ls i wr => ∃ (k:Nat) (lv:Value),k ≤ os.length ∧ lv = ls ∧ i = .int .i64 k ∧ Hid (wr.ownsRow w.heap.size 88 5 lv k (oqL (os.take k))) ∧ Hid (Only [] w wr)) (fun _ i _ => os.length - (intOf i).toNat)
 case atStart => exact ⟨0,_,by omega,rfl,rfl,Hd (World.ownsRow_nil _ _ _ _),Hd oz⟩
 case round =>
  obtain ⟨k,lv,hk,rfl,rfl,HW,HO⟩:=hrel
  obtain ⟨wq,rfl⟩:∃ wq,wq = wr:=⟨_,rfl⟩
  by_cases hlt:k < os.length
  · have hlt':(k:Int) < (os.length:Int):=by omega
    obtain ⟨x,hx⟩:∃ x,os[k]? = some x:=⟨_,List.getElem?_eq_getElem hlt⟩
    have HST:=Hd (oqL_step os k x hx)
    obtain ⟨ab,ao,ac,hv,_,q0,q1,q2,q3,q4⟩:=oqL_at (HS.out.only HO.out (Nat.le_refl _) (by simp)) hx
    injection hv with e1 e2 e3
    subst e1;subst e3
    clear e2 hx
    have hws:=HO.out.size
    go_upto_region 5 with fail
    have s0:∀ u:SinceS (bsOf [rowOwn 28 lv] []) wq,u.w.cell? ⟨ab,ao + k * 5,none⟩ = some (.int .i64 x.cl):=fun u => u.cell q0 (by simp [bsOf])
    have s1:∀ u:SinceS (bsOf [rowOwn 28 lv] []) wq,u.w.cell? ⟨ab,ao + k * 5 + 1,none⟩ = some (.string ⟨x.d.toArray⟩):=fun u => u.cell q1 (by simp [bsOf])
    have s2:∀ u:SinceS (bsOf [rowOwn 28 lv] []) wq,u.w.cell? ⟨ab,ao + k * 5 + 2,none⟩ = some (.string ⟨x.r.toArray⟩):=fun u => u.cell q2 (by simp [bsOf])
    have s3:∀ u:SinceS (bsOf [rowOwn 28 lv] []) wq,u.w.cell? ⟨ab,ao + k * 5 + 3,none⟩ = some (.int .i64 x.st):=fun u => u.cell q3 (by simp [bsOf])
    have s4:∀ u:SinceS (bsOf [rowOwn 28 lv] []) wq,u.w.cell? ⟨ab,ao + k * 5 + 4,none⟩ = some (.int .i64 x.en):=fun u => u.cell q4 (by simp [bsOf])
    clear q0 q1 q2 q3 q4
    refine wp_region_pendM wq oz [(38,OwW wq.heap.size 88 5 1 [.int .i64 x.cl,.string ⟨x.d.toArray⟩,.string ⟨x.r.toArray⟩,.int .i64 x.st,.int .i64 x.en]),(39,OwW w.heap.size 88 5 (k + 1) (oqL (os.take k) ++ [.int .i64 x.cl,.string ⟨x.d.toArray⟩,.string ⟨x.r.toArray⟩,.int .i64 x.st,.int .i64 x.en]))] [] [rowOwn 28 lv] 29 (by intro p hp;simp at hp;rcases hp with rfl | rfl <;> exact OwW.lasts _ _ _ _ _) (by intro y hy;simp at hy;subst hy;exact rowOwn_ok HW.out) (by intro y y' hy hy' hne b hb hb';simp at hy hy';subst hy;subst hy';simp [rowOwn] at hne) (by kernel_rfl) (by kernel_rfl) (by decide) (fun val => ?_)
    simp only [tk1,tk0,dr1,dr0]
    refine fit_segM 27 [] (by kernel_rfl) ?_
    simp only [tk1,tk0,dr1,dr0]
    repeat (go_big_quiet_step (fail))
    refine wpQuiet_nil ?_
    refine fit_litO 38 88 5 [.int .i64 x.cl,.string ⟨x.d.toArray⟩,.string ⟨x.r.toArray⟩,.int .i64 x.st,.int .i64 x.en] 1 rfl rfl (by simp) (by simp) rfl (by decide) (fun w7 => by go_simp) rfl ?_
    simp only [Act.put,sia,sc0,sc1]
    refine fit_appendM 39 (.tmp 11) (.tmp 38) 84 88 i0 (.agg #[.int .i64 0,.string ⟨#[]⟩,.string ⟨#[]⟩,.int .i64 0,.int .i64 0]) 5 56 Tryz.underlying84 hi0 hz0 hz1 hz2 rfl (by decide) w.heap.size lv k 1 (k + 1) (oqL (os.take k)) [.int .i64 x.cl,.string ⟨x.d.toArray⟩,.string ⟨x.r.toArray⟩,.int .i64 x.st,.int .i64 x.en] (oqL (os.take k) ++ [.int .i64 x.cl,.string ⟨x.d.toArray⟩,.string ⟨x.r.toArray⟩,.int .i64 x.st,.int .i64 x.en]) rfl rfl rfl rfl rfl (by simp) (by simp) rfl HW.out (by simp [rows,rowOwn]) (by intro y hy hyi;simp at hy;subst hy;rfl) [] (by kernel_rfl) (by intro b hb;simp [bsOf] at hb) hws (fun w7 hw7 => SrcA.own (hw7.2 (38,OwW wq.heap.size 88 5 1 [.int .i64 x.cl,.string ⟨x.d.toArray⟩,.string ⟨x.r.toArray⟩,.int .i64 x.st,.int .i64 x.en]) (by simp) (by show 38 ∈ Oper.looksAt _ _;decide)) (by simp [Value.oneCell'])) (by unfold maxLen;omega) (by omega) ?_
    simp only [Act.put,sia,sc0,sc1]
    intro w8 ho8 hV8 hF8
    have hown8:=hV8 (39,OwW w.heap.size 88 5 (k + 1) (oqL (os.take k) ++ [.int .i64 x.cl,.string ⟨x.d.toArray⟩,.string ⟨x.r.toArray⟩,.int .i64 x.st,.int .i64 x.en])) (by simp) (by simp)
    have hown8:w8.ownsRow w.heap.size 88 5 (val 39) (k + 1) (oqL (os.take k) ++ [.int .i64 x.cl,.string ⟨x.d.toArray⟩,.string ⟨x.r.toArray⟩,.int .i64 x.st,.int .i64 x.en]):=hown8
    obtain ⟨lv',hlv'⟩:∃ u,val 39 = u:=⟨_,rfl⟩
    rw [hlv'] at hown8 ⊢
    have HW8:Hid (w8.ownsRow w.heap.size 88 5 lv' (k + 1) (oqL (os.take (k + 1)))):=Hd (by rw [HST.out];exact hown8)
    have HO8:Hid (Only [] w w8):=Hd (HO.out.trans ho8 fun y hy => .inr (by
     simp [allM,rowOwn] at hy
     exact (HW.out.lt y hy).1))
    clear hV8 hF8 hlv' s0 s1 s2 s3 s4 hown8 ho8 HW HO
    go_wp2_with fail
    go_roundw
    case rel => exact ⟨k + 1,_,by omega,rfl,by go_num,HW8,HO8⟩
    case measure => simp [intOf];omega
  · have hdd:decide ((k:Int) < (os.length:Int)) = false:=by simp;omega
    obtain rfl:k = os.length:=by omega
    rw [List.take_length] at HW
    go_wp2_with fail
    go_ret
    exact ⟨_,rfl,HW.out,HO.out⟩
theorem info_rop23:(Tryz.prog.info? 90).map (fun i => (i.zero,i.size,i.bytes)) = some (some (.agg #[.int .i64 0,.string ⟨#[]⟩,.string ⟨#[]⟩,.int .i64 0,.int .i64 0]),5,56):=by kernel_rfl
structure Aq where
 en:Int
 rp:Int
 st:Int
 ed:Int
 d:List UInt8
def Aq.cells (a:Aq):List Value:=[.int .i64 a.en,.int .i64 a.rp,.int .i64 a.st,.int .i64 a.ed,.string ⟨a.d.toArray⟩]
structure Aq.Ok (a:Aq):Prop where
 en:Wide64 a.en
 rp:Wide64 a.rp
 st:Wide64 a.st
 ed:Wide64 a.ed
 d:a.d.length ≤ maxLen
def aqL (l:List Aq):List Value:=l.flatMap Aq.cells
theorem aqL_get (l:List Aq) (i j:Nat) (x:Aq) (h:l[i]? = some x) (hj:j < 5):(aqL l)[i * 5 + j]? = x.cells[j]?:=flat_get Aq.cells 5 (fun _ => rfl) l i j x h hj
theorem aqL_at {w:World} {B:Nat} {v:Value} {l:List Aq} (h:SlAt w B v 5 l.length (aqL l)) {k:Nat} {x:Aq} (hk:l[k]? = some x):
 ∃ b o c,v = .slice (some ⟨b,o,none⟩) l.length c ∧ w.cell? ⟨b,o + k * 5,none⟩ = some (.int .i64 x.en) ∧ w.cell? ⟨b,o + k * 5 + 1,none⟩ = some (.int .i64 x.rp) ∧ w.cell? ⟨b,o + k * 5 + 2,none⟩ = some (.int .i64 x.st) ∧ w.cell? ⟨b,o + k * 5 + 3,none⟩ = some (.int .i64 x.ed) ∧ w.cell? ⟨b,o + k * 5 + 4,none⟩ = some (.string ⟨x.d.toArray⟩):=by
 have hlt:k < l.length:=(List.getElem?_eq_some_iff.1 hk).1
 obtain ⟨b,o,c,hv,_,hc⟩:=h.at_ (by omega)
 exact ⟨b,o,c,hv,hc (k * 5 + 0) _ (aqL_get l k 0 x hk (by omega)),hc (k * 5 + 1) _ (aqL_get l k 1 x hk (by omega)),hc (k * 5 + 2) _ (aqL_get l k 2 x hk (by omega)),hc (k * 5 + 3) _ (aqL_get l k 3 x hk (by omega)),hc (k * 5 + 4) _ (aqL_get l k 4 x hk (by omega))⟩
theorem oqL_snoc (l:List Oq) (x:Oq):oqL (l ++ [x]) = oqL l ++ x.cells:=by
 unfold oqL
 rw [List.flatMap_append]
 simp
theorem ops23 (v rv qv:Value) (E:List Ey) (rs:List (List UInt8)) (l:List Aq) (w:World) (hs:SlAt w w.heap.size v 4 E.length (eyL E)) (hr:SlAt w w.heap.size rv 1 E.length (svs rs)) (hq:SlAt w w.heap.size qv 5 l.length (aqL l))
 (hk:EyOk E) (hl:rs.length = E.length) (hrs:∀ y ∈ rs,y.length ≤ 1000000) (hok:∀ a ∈ l,a.Ok) (hd:∀ a ∈ l,a.d.length ≤ 300) (hn:l.length ≤ 1000):
 Calls Tryz.prog 50 #[v,rv,qv] w fun e w' => ∃ ov os,e = .returned ov ∧ os.length = l.length ∧ w'.ownsRow w.heap.size 90 5 ov l.length (oqL os) ∧ Only [] w w':=by
 obtain ⟨i0,hi0,hz0,hz1,hz2⟩:=info_parts info_rop23
 obtain ⟨LA,lc,rfl⟩:=hs.shape
 obtain ⟨RA,rc,rfl⟩:=hr.shape
 obtain ⟨QA,qc,rfl⟩:=hq.shape
 have HS:=Hd hs
 have HR:=Hd hr
 have HQ:=Hd hq
 have hkn:=hk.n
 have HK:=Hd hk.d
 have HL:=Hd hl
 have HRS:=Hd hrs
 have HOK:=Hd hok
 have HD:=Hd hd
 clear hs hr hq hk hrs hok hd hl
 go_enter Tryz.func50,Tryz.ntmps50
 go_wp2_with fail
 go_loopw [7,8] (fun ls i wr => ∃ (k:Nat) (lv:Value) (os:List Oq),k ≤ l.length ∧ lv = ls ∧ i = .int .i64 k ∧ os.length = k ∧ Hid (wr.ownsRow w.heap.size 90 5 lv k (oqL os)) ∧ Hid (Only [] w wr)) (fun _ i _ => l.length - (intOf i).toNat)
 case atStart => exact ⟨0,_,[],by omega,rfl,rfl,rfl,Hd (World.ownsRow_nil _ _ _ _),Hd oz⟩
 case round =>
  obtain ⟨k,lv,os,hk,rfl,rfl,hol,HW,HO⟩:=hrel
  obtain ⟨wq,rfl⟩:∃ wq,wq = wr:=⟨_,rfl⟩
  have HOL:=Hd hol
  clear hol
  by_cases hlt:k < l.length
  · have hlt':(k:Int) < (l.length:Int):=by omega
    obtain ⟨x,hx⟩:∃ x,l[k]? = some x:=⟨_,List.getElem?_eq_getElem hlt⟩
    have HXM:=Hd (List.mem_of_getElem? hx)
    have HQX:=Hd (fun (u:World) (h:Only [] w u) => aqL_at (HQ.out.only h (Nat.le_refl _) (by simp)) hx)
    obtain ⟨dd,hdd⟩:∃ d,x.d = d:=⟨_,rfl⟩
    have HDD:Hid (dd.length ≤ 1000000):=Hd (by have:=HD.out x HXM.out;rw [hdd] at this;omega)
    have HXO:=Hd (HOK.out x HXM.out)
    simp only [hdd] at HQX
    obtain ⟨ab,ao,ac,hv,q0,q1,q2,q3,q4⟩:=HQX.out _ HO.out
    injection hv with e1 e2 e3
    subst e1;subst e3
    clear e2 hx q0 q1 hdd
    have hab:ab ≠ wq.heap.size:=by have:=World.block_lt_of_cell? wq _ q2;have:ab < wq.heap.size:=this;omega
    have hab2:wq.heap.size ≠ ab:=Ne.symm hab
    go_upto_region 5 with fail
    go_region_held3 (fun w':World => w'.cell? ⟨ab,ao + k * 5 + 2,none⟩ = some (.int .i64 x.st) ∧ w'.cell? ⟨ab,ao + k * 5 + 3,none⟩ = some (.int .i64 x.ed) ∧ w'.cell? ⟨ab,ao + k * 5 + 4,none⟩ = some (.string ⟨dd.toArray⟩)) (go_keep) (fail)
    obtain ⟨wX,hwX⟩:∃ wX,(wq.alloc (.cells #[.int .i64 0,.string ⟨(dd:List UInt8).toArray⟩,.string ⟨([]:List UInt8).toArray⟩,.int .i64 x.st,.int .i64 x.ed] 90)).drew = wX:=⟨_,rfl⟩
    have hoX:Only [] wq wX:=by rw [← hwX];exact (oz.alloc _).drew
    have HZ:Hid (Cells wX wq.heap.size 90 [.int .i64 0,.string ⟨(dd:List UInt8).toArray⟩,.string ⟨([]:List UInt8).toArray⟩,.int .i64 x.st,.int .i64 x.ed]):=by show Cells _ _ _ _;rw [← hwX];exact (Cells.new _ _ _).drew
    rename_i hHeld
    rw [hwX]
    clear hHeld hab hab2 q2 q3 q4 hwX
    have HWX:=Hd (own_keep HW.out hoX (by simp))
    have HOX:=Hd (HO.out.tr hoX)
    have hwz:=HO.out.size
    obtain ⟨z,hz⟩:∃ z,wq.heap.size = z:=⟨_,rfl⟩
    rw [hz] at HZ hwz ⊢
    have HNZ:Hid (lv.ownBlock ≠ some z):=Hd (fun e => by have:=(HW.out.lt z e).2;omega)
    have HZS:Hid (w.heap.size ≤ z):=Hd hwz
    clear hz hoX HW HO hwz
    by_cases hE:E.length = 0
    · have HEE:=Hd hE
      have hE0:decide ((0:Int) < (E.length:Int)) = false:=decide_eq_false (by omega)
      have hE2:decide (0 < E.length) = false:=decide_eq_false (by omega)
      have hE3:¬ (0:Int) < (E.length:Int):=by omega
      clear hE
      have hld:=HZ.out
      have hws:=HOX.out.size
      go_wp2_with (first
       | (refine wpList_load_row rfl 90 _ rfl z rfl 90 #[.int .i64 0,.string ⟨(dd:List UInt8).toArray⟩,.string ⟨([]:List UInt8).toArray⟩,.int .i64 x.st,.int .i64 x.ed] (0,0) _ hld Tryz.underlying90 rfl (by kernel_rfl) ?_)
       | (at_builtin;refine wpList_appA rfl _ _ 82 rfl w.heap.size 90 i0 _ 5 56 Tryz.underlying82 hi0 hz0 hz1 hz2 rfl (by decide) wX lv k (oqL os) rfl HWX.out 1 1 [.int .i64 0,.string ⟨(dd:List UInt8).toArray⟩,.string ⟨([]:List UInt8).toArray⟩,.int .i64 x.st,.int .i64 x.ed] rfl rfl (by simp [Value.oneCell']) (by unfold maxLen;omega) (by omega) hws ?_;intro v' w6 hown6 hgr6 hnew6))
      have HW6:Hid (w6.ownsRow w.heap.size 90 5 v' (k + 1) (oqL (os ++ [⟨0,dd,[],x.st,x.ed,HDD.out,(by simp)⟩]))):=Hd (by rw [oqL_snoc];exact hown6)
      have HO6:=Hd (Only.own HOX.out HWX.out hgr6 (Nat.le_refl _))
      clear hown6 hgr6 hnew6 hld
      go_wp2_with fail
      go_roundw
      case rel => exact ⟨k + 1,_,_,by omega,rfl,by go_num,by rw [List.length_append,HOL.out];rfl,HW6,HO6⟩
      case measure => simp [intOf];omega
    have hE1:(0:Int) < (E.length:Int):=by omega
    have CPI:=Hd (fun c (hc:Wide64 c) w' => pick23 c E.length w' hc (by omega) (by omega))
    have HPL:=Hd (fun c => pkI_lt c E.length (by omega))
    clear hE
    by_cases hdn:dd = []
    · subst hdn
      have HO7p:=HOX
      obtain ⟨_,_,_,hv,q0,_,_,_,q4⟩:=HQX.out _ HOX.out
      injection hv with e1 e2 e3
      injection e1 with e1
      injection e1 with e1 e4 e5
      subst e1;subst e4
      clear e2 e3 e5
      obtain ⟨p0,p1⟩:=HPL.out x.en
      obtain ⟨j,hj⟩:∃ j:Nat,pkI x.en E.length = j:=⟨(pkI x.en E.length).toNat,by omega⟩
      have CP:=Hd (CPI.out x.en HXO.out.en wX)
      rw [hj] at CP p1
      obtain ⟨y7,hy7⟩:∃ y,E[j]? = some y:=⟨_,List.getElem?_eq_getElem (by omega)⟩
      have HY7:=Hd (HK.out y7 (List.mem_of_getElem? hy7))
      obtain ⟨lb,lo,lc',hv,_,_,_,r3⟩:=eyL_at (HS.out.only HOX.out (Nat.le_refl _) (by simp)) hy7
      injection hv with e1 e6 e3
      subst e1
      clear e3 e6 p0 hj hy7 HO7p
      have hf:=HZ.out.frozen 1
      have hzl:=HZ.out.lt
      have hz1c:=HZ.out.cell (k:=1) rfl
      go_upto_region 8 with (go_at_call 44;refine CP.out.mono ?_;rintro e wx ⟨rfl,rfl⟩)
      obtain ⟨w7,hw7⟩:∃ u,wX.setCell ⟨z,1,none⟩ (.string ⟨y7.d.toArray⟩) = u:=⟨_,rfl⟩
      have HZ7:Hid (Cells w7 z 90 [.int .i64 0,.string ⟨(y7.d:List UInt8).toArray⟩,.string ⟨([]:List UInt8).toArray⟩,.int .i64 x.st,.int .i64 x.ed]):=Hd (hw7 ▸ HZ.out.set 1 (.string ⟨y7.d.toArray⟩))
      have hoS:Only [z] wX w7:=hw7 ▸ oz.setCell (.inl (by simp)) _
      have hnz:=HNZ.out
      have HW7:=Hd (own_keep HWX.out hoS (by simpa using hnz))
      have HO7:=Hd (HOX.out.trans hoS (fun x hx => by simp at hx;have:=HZS.out;exact .inr (by omega)))
      rw [hw7]
      clear hw7 hoS hnz HZ HWX HOX CP q0 q4 r3 hf hzl hz1c p1
      obtain ⟨_,_,_,hv,_,q1,_,_,q4⟩:=HQX.out _ HO7.out
      injection hv with e1 e2 e3
      injection e1 with e1
      injection e1 with e1 e4 e5
      subst e1;subst e4
      clear e2 e3 e5
      obtain ⟨p0,p1⟩:=HPL.out x.rp
      obtain ⟨j9,hj9⟩:∃ j:Nat,pkI x.rp E.length = j:=⟨(pkI x.rp E.length).toNat,by omega⟩
      have CP:=Hd (CPI.out x.rp HXO.out.rp w7)
      rw [hj9] at CP p1
      obtain ⟨y9,hy9⟩:∃ y,rs[j9]? = some y:=⟨_,List.getElem?_eq_getElem (by rw [HL.out];omega)⟩
      have HY9:=Hd (HRS.out y9 (List.mem_of_getElem? hy9))
      obtain ⟨pb,po,pc',hv,r0⟩:=svs_at23 (l:=rs) (by rw [HL.out];exact HR.out.only HO7.out (Nat.le_refl _) (by simp)) hy9
      injection hv with e1 e6 e3
      subst e1
      clear e3 e6 p0 hj9 hy9
      have hf:=HZ7.out.frozen 2
      have hzl:=HZ7.out.lt
      have hz2c:=HZ7.out.cell (k:=2) rfl
      go_upto_region 10 with (go_at_call 44;refine CP.out.mono ?_;rintro e wx ⟨rfl,rfl⟩)
      obtain ⟨w9,hw9⟩:∃ u,w7.setCell ⟨z,2,none⟩ (.string ⟨y9.toArray⟩) = u:=⟨_,rfl⟩
      have HZ9:Hid (Cells w9 z 90 [.int .i64 0,.string ⟨(y7.d:List UInt8).toArray⟩,.string ⟨(y9:List UInt8).toArray⟩,.int .i64 x.st,.int .i64 x.ed]):=Hd (hw9 ▸ HZ7.out.set 2 (.string ⟨y9.toArray⟩))
      have hoS:Only [z] w7 w9:=hw9 ▸ oz.setCell (.inl (by simp)) _
      have hnz:=HNZ.out
      have HW9:=Hd (own_keep HW7.out hoS (by simpa using hnz))
      have HO9:=Hd (HO7.out.trans hoS (fun x hx => by simp at hx;have:=HZS.out;exact .inr (by omega)))
      rw [hw9]
      clear hw9 hoS hnz CP q1 q4 r0 hf hzl hz2c p1
      have hld:=HZ9.out
      have hws:=HO9.out.size
      go_wp2_with (first
       | (refine wpList_load_row rfl 90 _ rfl z rfl 90 #[.int .i64 0,.string ⟨(y7.d:List UInt8).toArray⟩,.string ⟨(y9:List UInt8).toArray⟩,.int .i64 x.st,.int .i64 x.ed] (0,0) _ hld Tryz.underlying90 rfl (by kernel_rfl) ?_)
       | (at_builtin;refine wpList_appA rfl _ _ 82 rfl w.heap.size 90 i0 _ 5 56 Tryz.underlying82 hi0 hz0 hz1 hz2 rfl (by decide) w9 lv k (oqL os) rfl HW9.out 1 1 [.int .i64 0,.string ⟨(y7.d:List UInt8).toArray⟩,.string ⟨(y9:List UInt8).toArray⟩,.int .i64 x.st,.int .i64 x.ed] rfl rfl (by simp [Value.oneCell']) (by unfold maxLen;omega) (by omega) hws ?_;intro v' w6 hown6 hgr6 hnew6))
      have HW6:Hid (w6.ownsRow w.heap.size 90 5 v' (k + 1) (oqL (os ++ [⟨0,y7.d,y9,x.st,x.ed,HY7.out,HY9.out⟩]))):=Hd (by rw [oqL_snoc];exact hown6)
      have HO6:=Hd (Only.own HO9.out HW9.out hgr6 (Nat.le_refl _))
      clear hown6 hgr6 hnew6 hld
      go_wp2_with fail
      go_roundw
      case rel => exact ⟨k + 1,_,_,by omega,rfl,by go_num,by rw [List.length_append,HOL.out];rfl,HW6,HO6⟩
      case measure => simp [intOf];omega
    · have hdb:(dd == []) = false:=by simpa using hdn
      have HDN:=Hd hdn
      clear hdn
      obtain ⟨_,_,_,hv,_,q1,_,_,q4⟩:=HQX.out _ HOX.out
      injection hv with e1 e2 e3
      injection e1 with e1
      injection e1 with e1 e4 e5
      subst e1;subst e4
      clear e2 e3 e5
      obtain ⟨p0,p1⟩:=HPL.out x.rp
      obtain ⟨j9,hj9⟩:∃ j:Nat,pkI x.rp E.length = j:=⟨(pkI x.rp E.length).toNat,by omega⟩
      have CP:=Hd (CPI.out x.rp HXO.out.rp wX)
      rw [hj9] at CP p1
      obtain ⟨y9,hy9⟩:∃ y,rs[j9]? = some y:=⟨_,List.getElem?_eq_getElem (by rw [HL.out];omega)⟩
      have HY9:=Hd (HRS.out y9 (List.mem_of_getElem? hy9))
      obtain ⟨pb,po,pc',hv,r0⟩:=svs_at23 (l:=rs) (by rw [HL.out];exact HR.out.only HOX.out (Nat.le_refl _) (by simp)) hy9
      injection hv with e1 e6 e3
      subst e1
      clear e3 e6 p0 hj9 hy9
      have hf:=HZ.out.frozen 2
      have hzl:=HZ.out.lt
      have hz2c:=HZ.out.cell (k:=2) rfl
      go_upto_region 10 with (go_at_call 44;refine CP.out.mono ?_;rintro e wx ⟨rfl,rfl⟩)
      obtain ⟨w9,hw9⟩:∃ u,wX.setCell ⟨z,2,none⟩ (.string ⟨y9.toArray⟩) = u:=⟨_,rfl⟩
      have HZ9:Hid (Cells w9 z 90 [.int .i64 0,.string ⟨(dd:List UInt8).toArray⟩,.string ⟨(y9:List UInt8).toArray⟩,.int .i64 x.st,.int .i64 x.ed]):=Hd (hw9 ▸ HZ.out.set 2 (.string ⟨y9.toArray⟩))
      have hoS:Only [z] wX w9:=hw9 ▸ oz.setCell (.inl (by simp)) _
      have hnz:=HNZ.out
      have HW9:=Hd (own_keep HWX.out hoS (by simpa using hnz))
      have HO9:=Hd (HOX.out.trans hoS (fun x hx => by simp at hx;have:=HZS.out;exact .inr (by omega)))
      rw [hw9]
      clear hw9 hoS hnz CP q1 q4 r0 hf hzl hz2c p1
      have hld:=HZ9.out
      have hws:=HO9.out.size
      go_wp2_with (first
       | (refine wpList_load_row rfl 90 _ rfl z rfl 90 #[.int .i64 0,.string ⟨(dd:List UInt8).toArray⟩,.string ⟨(y9:List UInt8).toArray⟩,.int .i64 x.st,.int .i64 x.ed] (0,0) _ hld Tryz.underlying90 rfl (by kernel_rfl) ?_)
       | (at_builtin;refine wpList_appA rfl _ _ 82 rfl w.heap.size 90 i0 _ 5 56 Tryz.underlying82 hi0 hz0 hz1 hz2 rfl (by decide) w9 lv k (oqL os) rfl HW9.out 1 1 [.int .i64 0,.string ⟨(dd:List UInt8).toArray⟩,.string ⟨(y9:List UInt8).toArray⟩,.int .i64 x.st,.int .i64 x.ed] rfl rfl (by simp [Value.oneCell']) (by unfold maxLen;omega) (by omega) hws ?_;intro v' w6 hown6 hgr6 hnew6))
      have HW6:Hid (w6.ownsRow w.heap.size 90 5 v' (k + 1) (oqL (os ++ [⟨0,dd,y9,x.st,x.ed,HDD.out,HY9.out⟩]))):=Hd (by rw [oqL_snoc];exact hown6)
      have HO6:=Hd (Only.own HO9.out HW9.out hgr6 (Nat.le_refl _))
      clear hown6 hgr6 hnew6 hld
      go_wp2_with fail
      go_roundw
      case rel => exact ⟨k + 1,_,_,by omega,rfl,by go_num,by rw [List.length_append,HOL.out];rfl,HW6,HO6⟩
      case measure => simp [intOf];omega
  · have hdd:decide ((k:Int) < (l.length:Int)) = false:=by simp;omega
    obtain rfl:k = l.length:=by omega
    go_wp2_with fail
    go_ret
    exact ⟨_,_,rfl,HOL.out,HW.out,HO.out⟩
end Go.Proofs.YtcjfmildalappaaGreat
namespace Go.Proofs.YtcjfmildalappaaGreat
open Go.RowKit Go.ChangeShapes Go.WideShapes Go.Deep
theorem open_asked {H:Type} {enc:TypeId × Value → H} {w:World} {base:Nat} {spare:Nat → Bool} {held:Bool} {r:Reach} {b0:Nat} {v:Value} {d:DataW H} {p:List MemPlace}
 (hv:Value.okWide Tryz.prog w r b0 77 v) (h:DataW.Trod enc Tryz.prog w base spare held 77 v d p):
 ∃ l:List Aq,SlAt w w.heap.size v 5 l.length (aqL l) ∧ ∀ a ∈ l,a.Ok:=by
 obtain ⟨n,xs,hs,hx⟩:=open_structs Tryz.underlying77 Tryz.underlying79 (by kernel_rfl) (by kernel_rfl) hv h
 obtain ⟨l,hl,rfl,hg⟩:=flat_of Aq.cells 5 (fun _ => rfl) Aq.Ok n xs hs.1 fun i hi => by
  obtain ⟨u0,y0,m0,e0,h0⟩:=hx i hi 0 _ rfl
  obtain ⟨u1,y1,m1,e1,h1⟩:=hx i hi 1 _ rfl
  obtain ⟨u2,y2,m2,e2,h2⟩:=hx i hi 2 _ rfl
  obtain ⟨u3,y3,m3,e3,h3⟩:=hx i hi 3 _ rfl
  obtain ⟨u4,y4,m4,e4,h4⟩:=hx i hi 4 _ rfl
  obtain ⟨z0,q0,_,w0⟩:=DataW.trod_int Tryz.underlying3 h0
  obtain ⟨z1,q1,_,w1⟩:=DataW.trod_int Tryz.underlying3 h1
  obtain ⟨z2,q2,_,w2⟩:=DataW.trod_int Tryz.underlying3 h2
  obtain ⟨z3,q3,_,w3⟩:=DataW.trod_int Tryz.underlying3 h3
  obtain ⟨z4,q4,_,w4⟩:=DataW.trod_string Tryz.underlying9 h4
  simp at q0 q1 q2 q3 q4
  subst q0;subst q1;subst q2;subst q3;subst q4
  refine ⟨⟨z0,z1,z2,z3,z4.data.toList⟩,⟨wide64_of_wf w0,wide64_of_wf w1,wide64_of_wf w2,wide64_of_wf w3,by rw [ba_len];exact w4⟩,fun j hj => ?_⟩
  match j,hj with
  | 0,_ => exact e0
  | 1,_ => exact e1
  | 2,_ => exact e2
  | 3,_ => exact e3
  | 4,_ => simpa [Aq.cells] using e4
 subst hl
 exact ⟨l,hs,hg⟩
def bvs (l:List Bool):List Value:=l.map Value.bool
theorem open_bools {H:Type} {enc:TypeId × Value → H} {w:World} {base:Nat} {spare:Nat → Bool} {held:Bool} {r:Reach} {b0:Nat} {v:Value} {d:DataW H} {p:List MemPlace}
 (hv:Value.okWide Tryz.prog w r b0 94 v) (h:DataW.Trod enc Tryz.prog w base spare held 94 v d p):
 ∃ l:List Bool,SlAt w w.heap.size v 1 l.length (bvs l) ∧ ∀ x ∈ l,True:=by
 obtain ⟨n,xs,hs,hx⟩:=open_ones Tryz.underlying94 (by kernel_rfl) hv h
 obtain ⟨l,hl,rfl,hg⟩:=flat_of (fun x:Bool => [Value.bool x]) 1 (fun _ => rfl) (fun _ => True) n xs hs.1 fun i hi => by
  obtain ⟨u,y,m,hu,hy⟩:=hx i hi
  obtain ⟨z,hz,_⟩:=DataW.trod_bool Tryz.underlying4 hy
  simp at hz
  refine ⟨z,trivial,fun j hj => ?_⟩
  obtain rfl:j = 0:=by omega
  simp [hu,hz]
 subst hl
 refine ⟨l,?_,fun _ _ => trivial⟩
 unfold bvs
 rw [map_one]
 exact hs
end Go.Proofs.YtcjfmildalappaaGreat
namespace Go.Proofs.YtcjfmildalappaaGreat
open Go.RowKit
theorem wpList_appS {P:Program} {ops:Array Oper} {rest:List Oper} {o:Oper} {a:Act} {Q:Exit → Act → World → Prop} (hgd:o.guard = none) (s x:Operand) (t:TypeId)
 (ho:o.op = .call { callee:=.builtin .append,args:=#[s,x],argTypes:=#[t,t] })
 (base:Nat) (e:TypeId) (i:TypeInfo) (z:Value) (size bytes:Nat) (ht:P.underlying t = some (.slice e)) (hi:P.info? e = some i) (hz:i.zero = some z)
 (hsize:i.size = size) (hby:i.bytes = bytes) (hzs:z.cells.size = size) (hsz:0 < size) (w:World)
 (v:Value) (n:Nat) (xs:List Value) (hs:a.eval s = v) (hown:w.ownsRow base e size v n xs)
 (m N:Nat) (cs zs:List Value) (hN:N = n + m) (hzl:zs = xs ++ cs) (hsrc:SrcA w (a.eval x) size m cs)
 (h63:n + m ≤ maxLen) (hbytes:(n + m) * bytes ≤ 140737488355328) (hbase:base ≤ w.heap.size)
 (h:∀ v' w',w'.ownsRow base e size v' N zs → Only v.ownBlock.toList w w' → (∀ b,v'.ownBlock = some b → w.heap.size ≤ b ∨ v.ownBlock = some b) → wpList P ops Q rest (a.put o.dst v') w'):
 wpList P ops Q (o :: rest) a w:=by
 subst hN
 subst hzl
 refine wpList_plain hgd fun K hK => ?_
 obtain ⟨v',w',hr,h2,h3,h4⟩:=run_app (P:=P) w base t o.type e i z size bytes ht hi hz hsize hby hzs hsz v n xs hown (a.eval x) m cs hsrc h63 hbytes hbase
 unfold Oper.wp execOp
 simp only [ho,resolve,invoke,builtin,Sem.run_bind,Sem.run_pure,Result.andThen_ok,List.map_toArray,List.map_cons,List.map_nil,hs,hr]
 exact hK _ _ (h v' w' h2 h3 h4)
theorem oqL_one (l:List Oq):∀ u ∈ oqL l,u.oneCell' = true:=by
 intro u hu
 unfold oqL at hu
 obtain ⟨a,ha,hu⟩:=List.mem_flatMap.1 hu
 unfold Oq.cells at hu
 simp only [List.mem_cons,List.not_mem_nil,or_false] at hu
 rcases hu with rfl | rfl | rfl | rfl | rfl <;> rfl
theorem fit_wait (l:List Ey) (rs:List (List UInt8)) (os:List Oq) (o:Oq) (h:o.en < 0):fitP l rs (os ++ [o]) = fitP l rs os:=by
 have hc:cntO o = false:=by
  unfold cntO
  rw [decide_eq_false (by omega)]
  rfl
 unfold fitP
 rw [List.filter_append]
 simp [hc]
theorem fndQ_none (d r:List UInt8) (l:List Ey):∀ (rs:List (List UInt8)) (n:Nat),(∀ y ∈ l,y.d ≠ d) → fndQ d r l rs n = -1:=by
 induction l with
 | nil => intro rs n _;rfl
 | cons x l ih =>
  intro rs n h
  cases rs with
  | nil => rfl
  | cons y rs =>
   unfold fndQ
   have:matchE x y d r = false:=by
    unfold matchE
    have h1:(x.d == d) = false:=by simpa using h x (by simp)
    rw [h1]
    simp
   rw [this]
   exact ih rs (n + 1) (fun y hy => h y (by simp [hy]))
theorem rpK_zero:RpK Rp.zero:=⟨⟨by decide,by decide⟩,⟨by decide,by decide⟩,by decide,fun x hx => by cases hx⟩
theorem fit_no (l:List Ey) (rs:List (List UInt8)) (o:Oq) (h:∀ y ∈ l,y.d ≠ o.d) (he:0 ≤ o.en) (hr:o.r = rpb Rp.zero):fitP l rs [o] = false:=by
 have hu:unA o.r = some Rp.zero:=by rw [hr];exact unA_k rpK_zero
 have hc:cntO o = true:=by
  unfold cntO
  rw [hu,decide_eq_true he]
  rfl
 have hp:plc l rs o = -1:=fndQ_none o.d o.r l rs 0 h
 refine fit_not l rs [o] o (by simp) hc ?_
 unfold okP
 rw [hp]
 rfl
theorem rpb_zero_le:(rpb Rp.zero).length ≤ 1000000:=Nat.le_trans rpK_zero.le (by omega)
def SerE (E:List Ey) (rs:List (List UInt8)) (n:Nat) (o:Oq):Prop:=∃ j:Nat,j < n ∧ o.st = 2 * (j:Int) ∧ o.en = 2 * (j:Int) + 1 ∧ plc E rs o = j ∧ rs[j]? = some o.r
structure SerX (E:List Ey) (rs:List (List UInt8)) (n:Nat) (X:List Oq):Prop where
 al:∀ o ∈ X,SerE E rs n o
 inc:X.Pairwise fun p q => p.st < q.st
theorem SerE.more {E:List Ey} {rs:List (List UInt8)} {n m:Nat} {o:Oq} (h:SerE E rs n o) (hm:n ≤ m):SerE E rs m o:=by
 obtain ⟨j,h1,h2⟩:=h
 exact ⟨j,by omega,h2⟩
theorem SerX.nil (E:List Ey) (rs:List (List UInt8)) (n:Nat):SerX E rs n []:=⟨fun o ho => (by cases ho),List.Pairwise.nil⟩
theorem SerX.skip {E:List Ey} {rs:List (List UInt8)} {n:Nat} {X:List Oq} (h:SerX E rs n X):SerX E rs (n + 1) X:=⟨fun o ho => (h.al o ho).more (by omega),h.inc⟩
theorem SerX.add {E:List Ey} {rs:List (List UInt8)} {n:Nat} {X:List Oq} (h:SerX E rs n X) (o:Oq) (h1:o.st = 2 * (n:Int)) (h2:o.en = 2 * (n:Int) + 1) (h3:plc E rs o = n) (h4:rs[n]? = some o.r):SerX E rs (n + 1) (X ++ [o]):=
 ⟨fun p hp => by
  rcases List.mem_append.1 hp with hp | hp
  · exact (h.al p hp).more (by omega)
  · simp at hp
    subst hp
    exact ⟨n,by omega,h1,h2,h3,h4⟩,
  List.pairwise_append.2 ⟨h.inc,List.pairwise_singleton _ _,fun p hp q hq => by
   simp at hq
   subst hq
   obtain ⟨j,j1,j2,_⟩:=h.al p hp
   rw [j2,h1]
   omega⟩⟩
theorem ser_fit {E:List Ey} {rs:List (List UInt8)} {n:Nat} {X:List Oq} (h:∀ o ∈ X,SerE E rs n o):fitP E rs X = true:=by
 unfold fitP
 rw [Bool.and_eq_true]
 constructor
 · rw [List.all_eq_true]
   intro o ho
   obtain ⟨j,_,_,_,h3,h4⟩:=h o (List.mem_filter.1 ho).1
   unfold okP
   rw [h3]
   simp [h4]
 · unfold prP
   rw [List.all_eq_true]
   intro p hp
   rw [List.all_eq_true]
   intro q hq
   obtain ⟨i,_,i1,i2,i3,_⟩:=h p (List.mem_filter.1 hp).1
   obtain ⟨j,_,j1,j2,j3,_⟩:=h q (List.mem_filter.1 hq).1
   rw [i3,j3,i2,j1]
   by_cases hh:(2 * (i:Int) + 1) < 2 * (j:Int)
   · have:¬ (j:Int) ≤ (i:Int):=by omega
     rw [decide_eq_false this]
     simp
   · rw [decide_eq_false hh]
     rfl
def swO (p q:Oq):Oq:={ p with st:=q.st,en:=q.en }
theorem swO_plc (E:List Ey) (rs:List (List UInt8)) (p q:Oq):plc E rs (swO p q) = plc E rs p:=rfl
theorem fit_bad (E:List Ey) (rs:List (List UInt8)) (Y:List Oq) (p q:Oq) (hp:p ∈ Y) (hq:q ∈ Y) (cp:cntO p = true) (cq:cntO q = true) (h1:p.en < q.st) (h2:plc E rs q ≤ plc E rs p):fitP E rs Y = false:=by
 unfold fitP
 have:prP E rs (Y.filter cntO) = false:=by
  unfold prP
  rw [List.all_eq_false]
  refine ⟨p,List.mem_filter.2 ⟨hp,cp⟩,?_⟩
  rw [Bool.not_eq_true,List.all_eq_false]
  refine ⟨q,List.mem_filter.2 ⟨hq,cq⟩,?_⟩
  simp [h1,h2]
 rw [this,Bool.and_false]
theorem cntO_of {o:Oq} (he:0 ≤ o.en) (h1:(((unA o.r).getD Rp.zero).er == 17) = false) (h2:(((unA o.r).getD Rp.zero).er == 18) = false):cntO o = true:=by
 unfold cntO
 rw [decide_eq_true he]
 unfold bne
 rw [h1,h2]
 rfl
theorem ser_swap {E:List Ey} {rs:List (List UInt8)} {n:Nat} {X Y:List Oq} (h:SerX E rs n X) {i k:Nat} {p q:Oq} (hi:X[i]? = some p) (hk:X[k]? = some q) (hne:i ≠ k)
 (yi:Y[i]? = some (swO p q)) (yk:Y[k]? = some (swO q p)) (p1:(((unA p.r).getD Rp.zero).er == 17) = false) (p2:(((unA p.r).getD Rp.zero).er == 18) = false) (q1:(((unA q.r).getD Rp.zero).er == 17) = false) (q2:(((unA q.r).getD Rp.zero).er == 18) = false):
 fitP E rs Y = false:=by
 obtain ⟨a,_,a1,a2,a3,_⟩:=h.al p (List.mem_of_getElem? hi)
 obtain ⟨b,_,b1,b2,b3,_⟩:=h.al q (List.mem_of_getElem? hk)
 have cp:cntO (swO p q) = true:=cntO_of (by show 0 ≤ q.en;omega) p1 p2
 have cq:cntO (swO q p) = true:=cntO_of (by show 0 ≤ p.en;omega) q1 q2
 have mp:=List.mem_of_getElem? yi
 have mq:=List.mem_of_getElem? yk
 obtain ⟨hil,hie⟩:=List.getElem?_eq_some_iff.1 hi
 obtain ⟨hkl,hke⟩:=List.getElem?_eq_some_iff.1 hk
 have hinc:=List.pairwise_iff_getElem.1 h.inc
 rcases Nat.lt_or_gt_of_ne hne with hlt | hlt
 · have:=hinc i k hil hkl hlt
   rw [hie,hke] at this
   exact fit_bad E rs Y _ _ mq mp cq cp (by show p.en < q.st;omega) (by rw [swO_plc,swO_plc];omega)
 · have:=hinc k i hkl hil hlt
   rw [hie,hke] at this
   exact fit_bad E rs Y _ _ mp mq cp cq (by show q.en < p.st;omega) (by rw [swO_plc,swO_plc];omega)
theorem oqL_length (l:List Oq):(oqL l).length = l.length * 5:=flat_length Oq.cells 5 (fun _ => rfl) l
theorem oqL_cons (x:Oq) (l:List Oq):oqL (x :: l) = x.cells ++ oqL l:=rfl
theorem oqL_set (X:List Oq):∀ (i:Nat) (o o':Oq) (m:Nat) (v:Value),X[i]? = some o → o'.cells = o.cells.set m v → m < 5 → oqL (X.set i o') = (oqL X).set (i * 5 + m) v:=by
 induction X with
 | nil => intro i o o' m v h;cases h
 | cons x X ih =>
  intro i o o' m v h ho hm
  have hx:x.cells.length = 5:=rfl
  cases i with
  | zero =>
   simp only [List.getElem?_cons_zero,Option.some.injEq] at h
   subst h
   rw [List.set_cons_zero,oqL_cons,oqL_cons,ho,Nat.zero_mul,Nat.zero_add,List.set_append_left _ _ (by omega)]
  | succ i =>
   rw [List.getElem?_cons_succ] at h
   rw [List.set_cons_succ,oqL_cons,oqL_cons,ih i o o' m v h ho hm,List.set_append_right _ _ (by rw [hx];omega),hx,show (i + 1) * 5 + m - 5 = i * 5 + m from by omega]
theorem set_step {X:List Oq} {i:Nat} {o o':Oq} {m:Nat} {v:Value} (h:X[i]? = some o) (ho:o'.cells = o.cells.set m v) (hm:m < 5) (sp:List Value):(oqL X ++ sp).set (i * 5 + m) v = oqL (X.set i o') ++ sp:=by
 have hil:i < X.length:=(List.getElem?_eq_some_iff.1 h).1
 have hl:=oqL_length X
 rw [oqL_set X i o o' m v h ho hm,List.set_append_left _ _ (by omega)]
theorem cell_at {X:List Oq} {i:Nat} {o:Oq} {m:Nat} {u:Value} (h:X[i]? = some o) (hu:o.cells[m]? = some u) (hm:m < 5) (sp:List Value):(oqL X ++ sp)[i * 5 + m]? = some u:=by
 have hil:i < X.length:=(List.getElem?_eq_some_iff.1 h).1
 have hl:=oqL_length X
 rw [List.getElem?_append_left (by omega),oqL_get X i m o h hm,hu]
def swX (X:List Oq) (i k:Nat) (p q:Oq):List Oq:=(((X.set i { p with st:=q.st }).set i (swO p q)).set k { q with st:=p.st }).set k (swO q p)
theorem swX_k {X:List Oq} {i k:Nat} {p q a:Oq} (hi:X[i]? = some p) (hk:X[k]? = some q):((X.set i a).set i (swO p q))[k]? = some q:=by
 have hil:i < X.length:=(List.getElem?_eq_some_iff.1 hi).1
 rw [List.set_set]
 by_cases e:i = k
 · subst e
   rw [hi] at hk
   injection hk with hk
   subst hk
   rw [List.getElem?_set_self hil]
   rfl
 · rw [List.getElem?_set_ne e]
   exact hk
theorem swX_length (X:List Oq) (i k:Nat) (p q:Oq):(swX X i k p q).length = X.length:=by
 unfold swX
 simp only [List.length_set]
theorem swX_i {X:List Oq} {i k:Nat} {p q:Oq} (hi:X[i]? = some p) (hk:X[k]? = some q) (hne:i ≠ k):(swX X i k p q)[i]? = some (swO p q) ∧ (swX X i k p q)[k]? = some (swO q p):=by
 have hil:i < X.length:=(List.getElem?_eq_some_iff.1 hi).1
 have hkl:k < X.length:=(List.getElem?_eq_some_iff.1 hk).1
 unfold swX
 rw [List.set_set,List.set_set]
 constructor
 · rw [List.getElem?_set_ne (Ne.symm hne),List.getElem?_set_self hil]
 · rw [List.getElem?_set_self (by rw [List.length_set];exact hkl)]
theorem own_cells5 {W:World} {B n:Nat} {e:TypeId} {v:Value} {X:List Oq} (h:W.ownsRow B e 5 v n (oqL X)) (hn:0 < n):
 ∃ g cap sp,v = .slice (some ⟨g,0,none⟩) n cap ∧ B ≤ g ∧ n ≤ cap ∧ cap ≤ maxLen ∧ Cells W g e (oqL X ++ sp):=by
 rcases h.2 with ⟨_,h⟩ | ⟨g,cap,cur,rfl,hB,hc,h1,h2,h3,h4⟩
 · omega
 · have e1:cur.toList = oqL X ++ cur.toList.drop (n * 5):=by rw [← h4,List.take_append_drop]
   exact ⟨g,cap,cur.toList.drop (n * 5),rfl,hB,h1,h2,by show W.heap[g]? = _;rw [hc,← e1]⟩
theorem sl_cells {W:World} {g n cap:Nat} {e:TypeId} {X:List Oq} {sp:List Value} (h:Cells W g e (oqL X ++ sp)) (hn:n = X.length) (h1:n ≤ cap) (h2:cap ≤ maxLen):SlAt W W.heap.size (.slice (some ⟨g,0,none⟩) n cap) 5 n (oqL X):=
 ⟨by rw [oqL_length,hn],some ⟨g,0,none⟩,cap,rfl,h1,h2,fun _ => ⟨g,0,rfl,h.lt,fun j u hu => by
  rw [Nat.zero_add]
  exact h.cell (by rw [List.getElem?_append_left (List.getElem?_eq_some_iff.1 hu).1];exact hu)⟩⟩
end Go.Proofs.YtcjfmildalappaaGreat
