/-
  Contracts; each theorem bears its own conditions.
-/
import Derived.RangeFuncNested
import Derived.RangeFuncBound
import Derived.RangeFuncCalls
import Derived.RangeFuncLeaves
import Derived.Shelf.Abstract
import Derived.Shelf.RegionOpen
import Derived.WalkKit
import Derived.OwnWalkIn
import Derived.TacticsInMore
import Derived.LoopNIn
import Derived.LoopIn
import Derived.Maps.AppendAt
import Derived.Test.YtcjfmildalappaaGreatK26aa
import Derived.Test.YtcjfmildalappaaGreatK26ab
import Derived.Test.YtcjfmildalappaaGreatK26ae
import Derived.Test.YtcjfmildalappaaGreatK26ak
import Derived.Test.YtcjfmildalappaaGreatK26am
import Derived.Test.YtcjfmildalappaaGreatK26ax
set_option linter.all false
set_option maxRecDepth 100000
set_option maxHeartbeats 8000000
namespace Go.Proofs.YtcjfmildalappaaGreat
open Go.RowKit
structure Ey where
 ix:Int
 tm:Int
 kd:Int
 d:List UInt8
def Ey.cells (x:Ey):List Value:=[.int .i64 x.ix,.int .i64 x.tm,.int .i64 x.kd,.string ⟨x.d.toArray⟩]
def eyL (l:List Ey):List Value:=l.flatMap Ey.cells
theorem eyL_get (l:List Ey) (i j:Nat) (x:Ey) (h:l[i]? = some x) (hj:j < 4):(eyL l)[i * 4 + j]? = x.cells[j]?:=flat_get Ey.cells 4 (fun _ => rfl) l i j x h hj
theorem eyL_append (l m:List Ey):eyL (l ++ m) = eyL l ++ eyL m:=by unfold eyL;rw [List.flatMap_append]
theorem eyL_at {w:World} {B:Nat} {v:Value} {l:List Ey} (h:SlAt w B v 4 l.length (eyL l)) {k:Nat} {x:Ey} (hk:l[k]? = some x):
 ∃ b o c,v = .slice (some ⟨b,o,none⟩) l.length c ∧ w.cell? ⟨b,o + k * 4,none⟩ = some (.int .i64 x.ix) ∧ w.cell? ⟨b,o + k * 4 + 1,none⟩ = some (.int .i64 x.tm) ∧ w.cell? ⟨b,o + k * 4 + 2,none⟩ = some (.int .i64 x.kd) ∧ w.cell? ⟨b,o + k * 4 + 3,none⟩ = some (.string ⟨x.d.toArray⟩):=by
 have hlt:k < l.length:=(List.getElem?_eq_some_iff.1 hk).1
 obtain ⟨b,o,c,hv,_,hc⟩:=h.at_ (by omega)
 exact ⟨b,o,c,hv,hc (k * 4 + 0) _ (eyL_get l k 0 x hk (by omega)),hc (k * 4 + 1) _ (eyL_get l k 1 x hk (by omega)),hc (k * 4 + 2) _ (eyL_get l k 2 x hk (by omega)),hc (k * 4 + 3) _ (eyL_get l k 3 x hk (by omega))⟩
def stepE (a:AgS) (x:Ey):List UInt8 × AgS:=if x.kd = 2 then apA x.d a else ([],a)
def runE:AgS → List Ey → AgS
 | a,[] => a
 | a,x :: l => runE (stepE a x).2 l
def repE:AgS → List Ey → List (List UInt8)
 | _,[] => []
 | a,x :: l => (stepE a x).1 :: repE (stepE a x).2 l
theorem runE_append (l m:List Ey):∀ a,runE a (l ++ m) = runE (runE a l) m:=by
 induction l with
 | nil => intro a;rfl
 | cons x l ih => intro a;exact ih _
theorem repE_append (l m:List Ey):∀ a,repE a (l ++ m) = repE a l ++ repE (runE a l) m:=by
 induction l with
 | nil => intro a;rfl
 | cons x l ih => intro a;simp only [List.cons_append,repE,runE,ih]
theorem repE_length (l:List Ey):∀ a,(repE a l).length = l.length:=by
 induction l with
 | nil => intro a;rfl
 | cons x l ih => intro a;simp [repE,ih]
theorem runE_step (l:List Ey) (k:Nat) (x:Ey) (a:AgS) (h:l[k]? = some x):runE a (l.take (k + 1)) = (stepE (runE a (l.take k)) x).2:=by
 rw [List.take_add_one,h,runE_append];rfl
theorem repE_step (l:List Ey) (k:Nat) (x:Ey) (a:AgS) (h:l[k]? = some x):repE a (l.take (k + 1)) = repE a (l.take k) ++ [(stepE (runE a (l.take k)) x).1]:=by
 rw [List.take_add_one,h,repE_append];rfl
theorem svs_snoc (l:List (List UInt8)) (x:List UInt8):svs (l ++ [x]) = svs l ++ [.string ⟨x.toArray⟩]:=by unfold svs;rw [List.map_append];rfl
structure EyOk (l:List Ey):Prop where
 n:l.length ≤ 1000
 d:∀ x ∈ l,x.d.length ≤ 1000000
theorem info_string23:(Tryz.prog.info? 9).map (fun i => (i.zero,i.size,i.bytes)) = some (some (.string ⟨#[]⟩),1,16):=by kernel_rfl
theorem hi_run (v:Value) (l:List Ey) (w:World) (hs:SlAt w w.heap.size v 4 l.length (eyL l)) (hk:EyOk l):
 Calls Tryz.prog 108 #[v] w fun e w' => ∃ rv p K,e = .returned (.tuple #[rv,.pointer (some ⟨p,0,none⟩)]) ∧ w'.ownsRow w.heap.size 9 1 rv l.length (svs (repE AgS.new l)) ∧ AgW w w' p K l.length (runE AgS.new l):=by
 obtain ⟨i0,hi0,hz0,hz1,hz2⟩:=info_parts info_string23
 obtain ⟨LA,lc,rfl⟩:=hs.shape
 have HS:=Hd hs
 have hn:=hk.n
 have HK:=Hd hk.d
 clear hs hk
 go_enter Tryz.func108,Tryz.ntmps108
 go_wp2_with fail
 refine (agw_new w w oz).mono ?_
 rintro e wn ⟨p,K0,rfl,hA0,_,ho0⟩
 have HA0:Hid (AgW w wn p K0 0 (runE AgS.new (l.take 0))):=Hd hA0
 clear hA0 ho0
 go_wp2_with fail
 go_loopw [5,11] (fun ls i wr => ∃ (k:Nat) (K:List Nat) (lv:Value),k ≤ l.length ∧ lv = ls ∧ i = .int .i64 k ∧ Hid (AgW w wr p K k (runE AgS.new (l.take k))) ∧ Hid (wr.ownsRow w.heap.size 9 1 lv k (svs (repE AgS.new (l.take k)))) ∧ Hid (∀ g,lv.ownBlock = some g → g ∉ K)) (fun _ i _ => l.length - (intOf i).toNat)
 case atStart => exact ⟨0,_,_,by omega,rfl,rfl,HA0,Hd (World.ownsRow_nil _ _ _ _),Hd (fun g hg => by simp [Value.ownBlock] at hg)⟩
 case round =>
  obtain ⟨k,K,lv,hk,rfl,rfl,H,HW,HD⟩:=hrel
  obtain ⟨wq,rfl⟩:∃ wq,wq = wr:=⟨_,rfl⟩
  by_cases hlt:k < l.length
  · have hlt':(k:Int) < (l.length:Int):=by omega
    obtain ⟨x,hx⟩:∃ x,l[k]? = some x:=⟨_,List.getElem?_eq_getElem hlt⟩
    have hxd:=HK.out x (List.mem_of_getElem? hx)
    have HRUN:=Hd (runE_step l k x AgS.new hx)
    have HREP:=Hd (repE_step l k x AgS.new hx)
    obtain ⟨st,hst⟩:∃ st,runE AgS.new (l.take k) = st:=⟨_,rfl⟩
    rw [hst] at H HRUN HREP
    clear hst
    obtain ⟨ab,ao,ac,hv,q0,q1,q2,q3⟩:=eyL_at (HS.out.only H.out.ho (Nat.le_refl _) (by simp)) hx
    injection hv with e1 e2 e3
    subst e1;subst e3
    clear e2 hx
    obtain ⟨b1,b2,b3⟩:=box_row wq 72 [.int .i64 0,.int .i64 0,.int .i64 0,.string ⟨#[]⟩] [.int .i64 x.ix,.int .i64 x.tm,.int .i64 x.kd,.string ⟨x.d.toArray⟩]
    have hone:(#[.int .i64 x.ix,.int .i64 x.tm,.int .i64 x.kd,.string ⟨x.d.toArray⟩]:Array Value).all (·.oneCell') = true:=by simp [Value.oneCell']
    obtain ⟨ys,hy⟩:∃ u,(wq.alloc (.cells #[.int .i64 0,.int .i64 0,.int .i64 0,.string ⟨#[]⟩] 72)).setRow wq.heap.size #[.int .i64 x.ix,.int .i64 x.tm,.int .i64 x.kd,.string ⟨x.d.toArray⟩] = u:=⟨_,rfl⟩
    have hys:(wq.alloc (.cells [.int .i64 0,.int .i64 0,.int .i64 0,.string ⟨#[]⟩].toArray 72)).setRow wq.heap.size [.int .i64 x.ix,.int .i64 x.tm,.int .i64 x.kd,.string ⟨x.d.toArray⟩].toArray = ys:=hy
    rw [hys] at b1 b3
    have HY:=Hd (H.out.read b1)
    have HWY:=Hd (own_keep HW.out b1 (by simp))
    obtain ⟨z,hz⟩:∃ z,wq.heap.size = z:=⟨_,rfl⟩
    rw [hz] at b2 b3 hy
    have y2:=b3.cell (k:=2) rfl
    have y3:=b3.cell (k:=3) rfl
    have HLY:=Hd (Nat.le_trans H.out.ho.size b1.size)
    clear b1 b3 hys H HW
    by_cases h2:x.kd = 2
    · have d2:(x.kd == 2) = true:=by simp [h2]
      have CA:=Hd (agw_apply p K st k (by omega) x.d hxd w ys HY.out)
      have e1:stepE st x = apA x.d st:=by unfold stepE;rw [if_pos h2]
      rw [e1] at HRUN HREP
      obtain ⟨o,ho⟩:∃ o,apA x.d st = o:=⟨_,rfl⟩
      rw [ho] at HRUN HREP CA
      have HDY:Hid (∀ g,lv.ownBlock = some g → g ∉ K):=HD
      clear h2 e1 ho HD
      go_wp2_with (((try rw [hz]);refine wpList_store_row rfl 72 _ _ rfl z #[.int .i64 x.ix,.int .i64 x.tm,.int .i64 x.kd,.string ⟨x.d.toArray⟩] rfl rfl 72 _ b2 (by kernel_rfl) rfl hone ?_;(try rw [hy])))
      refine CA.out.mono ?_
      rintro e w5 ⟨K5,rfl,hA5,ho5,hN5⟩
      have HW5:=Hd (own_keep HWY.out ho5 (fun b hb e => HDY.out b e hb))
      have HD5:Hid (∀ g,lv.ownBlock = some g → g ∉ K5):=Hd (fun g hg hm => by
       rcases hN5 g hm with e | e
       · exact HDY.out g hg e
       · have:=(HWY.out.lt g hg).2;omega)
      have H5:Hid (AgW w w5 p K5 (k + 1) (runE AgS.new (l.take (k + 1)))):=Hd (by rw [HRUN.out];exact hA5)
      have HL5:=Hd (Nat.le_trans HLY.out ho5.size)
      clear hA5 ho5 hN5 HY HWY HDY CA HRUN HLY
      go_wp2_with (at_builtin;go_loud (refine wpList_appA rfl _ _ 42 rfl w.heap.size 9 i0 _ 1 16 Tryz.underlying42 hi0 hz0 hz1 hz2 rfl (by decide) w5 lv k (svs (repE AgS.new (l.take k))) rfl HW5.out 1 1 [.string ⟨o.1.toArray⟩] rfl rfl (by simp [Value.oneCell']) (by unfold maxLen;omega) (by omega) HL5.out ?_;intro v' w6 hown6 hgr6 hnew6))
      have HW6:Hid (w6.ownsRow w.heap.size 9 1 v' (k + 1) (svs (repE AgS.new (l.take (k + 1))))):=Hd (by rw [HREP.out,svs_snoc];exact hown6)
      have ho6:Only (rb lv) w5 w6:=(Only.refl _ w5).grown hgr6 (fun g e => .inl (by simp [rb,e]))
      have HD6:Hid (∀ g,v'.ownBlock = some g → g ∉ K5):=Hd (fun g hg => by
       rcases hnew6 g hg with e | e
       · exact HD5.out g e
       · intro hm;have:=H5.out.at_.bw g hm;omega)
      have H6:=Hd (H5.out.far ho6 (fun x hx => by
       have hx2:lv.ownBlock = some x:=by simpa [rb] using hx
       exact ⟨HD5.out x hx2,(HW5.out.lt x hx2).1⟩))
      clear hown6 hgr6 hnew6 ho6 HW5 HD5 H5 HL5 HREP
      go_wp2_with fail
      go_roundw
      case rel => exact ⟨k + 1,K5,_,by omega,rfl,by go_num,H6,HW6,HD6⟩
      case measure => simp [intOf];omega
    · have d2:(x.kd == 2) = false:=by simp [h2]
      have e1:stepE st x = ([],st):=by unfold stepE;rw [if_neg h2]
      rw [e1] at HRUN HREP
      have HDY:Hid (∀ g,lv.ownBlock = some g → g ∉ K):=HD
      clear h2 e1 HD
      obtain ⟨w5,hw5⟩:∃ w5,w5 = ys:=⟨_,rfl⟩
      have HW5:Hid (w5.ownsRow w.heap.size 9 1 lv k (svs (repE AgS.new (l.take k)))):=Hd (hw5 ▸ HWY.out)
      have HD5:=HDY
      have H5:Hid (AgW w w5 p K (k + 1) (runE AgS.new (l.take (k + 1)))):=Hd (by rw [HRUN.out,hw5];exact ⟨HY.out.at_,HY.out.ho,HY.out.lo,HY.out.i.mono (by omega)⟩)
      have HL5:Hid (w.heap.size ≤ w5.heap.size):=Hd (hw5 ▸ HLY.out)
      subst hw5
      clear HY HWY HDY HRUN HLY
      go_wp2_with (first | ((try rw [hz]);refine wpList_store_row rfl 72 _ _ rfl z #[.int .i64 x.ix,.int .i64 x.tm,.int .i64 x.kd,.string ⟨x.d.toArray⟩] rfl rfl 72 _ b2 (by kernel_rfl) rfl hone ?_;(try rw [hy])) | (at_builtin;refine wpList_appA rfl _ _ 42 rfl w.heap.size 9 i0 _ 1 16 Tryz.underlying42 hi0 hz0 hz1 hz2 rfl (by decide) w5 lv k (svs (repE AgS.new (l.take k))) rfl HW5.out 1 1 [.string ⟨([]:List UInt8).toArray⟩] rfl rfl (by simp [Value.oneCell']) (by unfold maxLen;omega) (by omega) HL5.out ?_;intro v' w6 hown6 hgr6 hnew6))
      have HW6:Hid (w6.ownsRow w.heap.size 9 1 v' (k + 1) (svs (repE AgS.new (l.take (k + 1))))):=Hd (by rw [HREP.out,svs_snoc];exact hown6)
      have ho6:Only (rb lv) w5 w6:=(Only.refl _ w5).grown hgr6 (fun g e => .inl (by simp [rb,e]))
      have HD6:Hid (∀ g,v'.ownBlock = some g → g ∉ K):=Hd (fun g hg => by
       rcases hnew6 g hg with e | e
       · exact HD5.out g e
       · intro hm;have:=H5.out.at_.bw g hm;omega)
      have H6:=Hd (H5.out.far ho6 (fun x hx => by
       have hx2:lv.ownBlock = some x:=by simpa [rb] using hx
       exact ⟨HD5.out x hx2,(HW5.out.lt x hx2).1⟩))
      clear hown6 hgr6 hnew6 ho6 HW5 HD5 H5 HL5 HREP
      go_wp2_with fail
      go_roundw
      case rel => exact ⟨k + 1,K,_,by omega,rfl,by go_num,H6,HW6,HD6⟩
      case measure => simp [intOf];omega
  · have hdd:decide ((k:Int) < (l.length:Int)) = false:=by simp;omega
    obtain rfl:k = l.length:=by omega
    rw [List.take_length] at H HW
    go_wp2_with fail
    go_ret2
    exact ⟨_,p,K,rfl,HW.out,H.out⟩
theorem hi_replies (v:Value) (l:List Ey) (w:World) (hs:SlAt w w.heap.size v 4 l.length (eyL l)) (hk:EyOk l):
 Calls Tryz.prog 45 #[v] w fun e w' => ∃ rv,e = .returned rv ∧ w'.ownsRow w.heap.size 9 1 rv l.length (svs (repE AgS.new l)) ∧ Only [] w w':=by
 have C:=Hd (hi_run v l w hs hk)
 clear hs hk
 go_enter Tryz.func45,Tryz.ntmps45
 go_wp2_with fail
 refine C.out.mono ?_
 rintro e w1 ⟨rv,p,K,rfl,hr,hA⟩
 have HR:=Hd hr
 have HO:=Hd hA.ho
 clear hr hA C
 go_wp2_with fail
 go_ret
 exact ⟨_,rfl,HR.out,HO.out⟩
theorem hi_state (v:Value) (l:List Ey) (w:World) (hs:SlAt w w.heap.size v 4 l.length (eyL l)) (hk:EyOk l):
 Calls Tryz.prog 47 #[v] w fun e w' => e = .returned (.string ⟨(agB (runE AgS.new l)).toArray⟩) ∧ Only [] w w':=by
 have hn:=hk.n
 have C:=Hd (hi_run v l w hs hk)
 clear hs hk
 go_enter Tryz.func47,Tryz.ntmps47
 go_wp2_with fail
 refine C.out.mono ?_
 rintro e w1 ⟨rv,p,K,rfl,hr,hA⟩
 have CS:=Hd (agw_save (by omega) hA)
 have HO:=Hd hA.ho
 clear hr hA C
 go_wp2_with fail
 refine CS.out.mono ?_
 rintro e w2 ⟨rfl,ho2⟩
 have HO2:=Hd (HO.out.tr ho2)
 clear ho2 CS HO
 go_wp2_with fail
 go_ret
 exact ⟨rfl,HO2.out⟩
theorem rd_run (v:Value) (l:List Ey) (w:World) (hs:SlAt w w.heap.size v 4 l.length (eyL l)) (hk:EyOk l):
 Calls Tryz.prog 49 #[v] w fun e w' => ∃ rv,e = .returned (.tuple #[rv,.string ⟨(agB (runE AgS.new l)).toArray⟩]) ∧ w'.ownsRow w.heap.size 9 1 rv l.length (svs (repE AgS.new l)) ∧ Only [] w w':=by
 obtain ⟨i0,hi0,hz0,hz1,hz2⟩:=info_parts info_string23
 obtain ⟨LA,lc,rfl⟩:=hs.shape
 have HS:=Hd hs
 have hn:=hk.n
 have HK:=Hd hk.d
 clear hs hk
 go_enter Tryz.func49,Tryz.ntmps49
 go_wp2_with fail
 refine (rgw_new w w oz).mono ?_
 rintro e wn ⟨p,K0,rfl,hA0,_,ho0⟩
 have HA0:Hid (RgW w wn p K0 0 (runE AgS.new (l.take 0))):=Hd hA0
 clear hA0 ho0
 go_wp2_with fail
 go_loopw [5,6] (fun ls i wr => ∃ (k:Nat) (K:List Nat) (lv:Value),k ≤ l.length ∧ lv = ls ∧ i = .int .i64 k ∧ Hid (RgW w wr p K k (runE AgS.new (l.take k))) ∧ Hid (wr.ownsRow w.heap.size 9 1 lv k (svs (repE AgS.new (l.take k)))) ∧ Hid (∀ g,lv.ownBlock = some g → g ∉ K)) (fun _ i _ => l.length - (intOf i).toNat)
 case atStart => exact ⟨0,_,_,by omega,rfl,rfl,HA0,Hd (World.ownsRow_nil _ _ _ _),Hd (fun g hg => by simp [Value.ownBlock] at hg)⟩
 case round =>
  obtain ⟨k,K,lv,hk,rfl,rfl,H,HW,HD⟩:=hrel
  obtain ⟨wq,rfl⟩:∃ wq,wq = wr:=⟨_,rfl⟩
  by_cases hlt:k < l.length
  · have hlt':(k:Int) < (l.length:Int):=by omega
    obtain ⟨x,hx⟩:∃ x,l[k]? = some x:=⟨_,List.getElem?_eq_getElem hlt⟩
    have hxd:=HK.out x (List.mem_of_getElem? hx)
    have HRUN:=Hd (runE_step l k x AgS.new hx)
    have HREP:=Hd (repE_step l k x AgS.new hx)
    obtain ⟨st,hst⟩:∃ st,runE AgS.new (l.take k) = st:=⟨_,rfl⟩
    rw [hst] at H HRUN HREP
    clear hst
    obtain ⟨ab,ao,ac,hv,q0,q1,q2,q3⟩:=eyL_at (HS.out.only H.out.ho (Nat.le_refl _) (by simp)) hx
    injection hv with e1 e2 e3
    subst e1;subst e3
    clear e2 hx
    have HY:=Hd H.out
    have HWY:=Hd HW.out
    have HLY:=Hd H.out.ho.size
    obtain ⟨ys,rfl⟩:∃ ys,ys = wq:=⟨_,rfl⟩
    clear H HW
    by_cases h2:x.kd = 2
    · have d2:(x.kd == 2) = true:=by simp [h2]
      have CA:=Hd (rgw_apply p K st k (by omega) x.d hxd w ys HY.out)
      have e1:stepE st x = apA x.d st:=by unfold stepE;rw [if_pos h2]
      rw [e1] at HRUN HREP
      obtain ⟨o,ho⟩:∃ o,apA x.d st = o:=⟨_,rfl⟩
      rw [ho] at HRUN HREP CA
      have HDY:Hid (∀ g,lv.ownBlock = some g → g ∉ K):=HD
      clear h2 e1 ho HD
      go_wp2_with fail
      refine CA.out.mono ?_
      rintro e w5 ⟨K5,rfl,hA5,ho5,hN5⟩
      have HW5:=Hd (own_keep HWY.out ho5 (fun b hb e => HDY.out b e hb))
      have HD5:Hid (∀ g,lv.ownBlock = some g → g ∉ K5):=Hd (fun g hg hm => by
       rcases hN5 g hm with e | e
       · exact HDY.out g hg e
       · have:=(HWY.out.lt g hg).2;omega)
      have H5:Hid (RgW w w5 p K5 (k + 1) (runE AgS.new (l.take (k + 1)))):=Hd (by rw [HRUN.out];exact hA5)
      have HL5:=Hd (Nat.le_trans HLY.out ho5.size)
      clear hA5 ho5 hN5 HY HWY HDY CA HRUN HLY
      go_wp2_with (at_builtin;go_loud (refine wpList_appA rfl _ _ 42 rfl w.heap.size 9 i0 _ 1 16 Tryz.underlying42 hi0 hz0 hz1 hz2 rfl (by decide) w5 lv k (svs (repE AgS.new (l.take k))) rfl HW5.out 1 1 [.string ⟨o.1.toArray⟩] rfl rfl (by simp [Value.oneCell']) (by unfold maxLen;omega) (by omega) HL5.out ?_;intro v' w6 hown6 hgr6 hnew6))
      have HW6:Hid (w6.ownsRow w.heap.size 9 1 v' (k + 1) (svs (repE AgS.new (l.take (k + 1))))):=Hd (by rw [HREP.out,svs_snoc];exact hown6)
      have ho6:Only (rb lv) w5 w6:=(Only.refl _ w5).grown hgr6 (fun g e => .inl (by simp [rb,e]))
      have HD6:Hid (∀ g,v'.ownBlock = some g → g ∉ K5):=Hd (fun g hg => by
       rcases hnew6 g hg with e | e
       · exact HD5.out g e
       · intro hm;have:=H5.out.at_.bw g hm;omega)
      have H6:=Hd (H5.out.far ho6 (fun x hx => by
       have hx2:lv.ownBlock = some x:=by simpa [rb] using hx
       exact ⟨HD5.out x hx2,(HW5.out.lt x hx2).1⟩))
      clear hown6 hgr6 hnew6 ho6 HW5 HD5 H5 HL5 HREP
      go_wp2_with fail
      go_roundw
      case rel => exact ⟨k + 1,K5,_,by omega,rfl,by go_num,H6,HW6,HD6⟩
      case measure => simp [intOf];omega
    · have d2:(x.kd == 2) = false:=by simp [h2]
      have e1:stepE st x = ([],st):=by unfold stepE;rw [if_neg h2]
      rw [e1] at HRUN HREP
      have HDY:Hid (∀ g,lv.ownBlock = some g → g ∉ K):=HD
      clear h2 e1 HD
      obtain ⟨w5,hw5⟩:∃ w5,w5 = ys:=⟨_,rfl⟩
      have HW5:Hid (w5.ownsRow w.heap.size 9 1 lv k (svs (repE AgS.new (l.take k)))):=Hd (hw5 ▸ HWY.out)
      have HD5:=HDY
      have H5:Hid (RgW w w5 p K (k + 1) (runE AgS.new (l.take (k + 1)))):=Hd (by rw [HRUN.out,hw5];exact ⟨HY.out.at_,HY.out.ho,HY.out.lo,HY.out.i.mono (by omega)⟩)
      have HL5:Hid (w.heap.size ≤ w5.heap.size):=Hd (hw5 ▸ HLY.out)
      subst hw5
      clear HY HWY HDY HRUN HLY
      go_wp2_with (at_builtin;go_loud (refine wpList_appA rfl _ _ 42 rfl w.heap.size 9 i0 _ 1 16 Tryz.underlying42 hi0 hz0 hz1 hz2 rfl (by decide) w5 lv k (svs (repE AgS.new (l.take k))) rfl HW5.out 1 1 [.string ⟨([]:List UInt8).toArray⟩] rfl rfl (by simp [Value.oneCell']) (by unfold maxLen;omega) (by omega) HL5.out ?_;intro v' w6 hown6 hgr6 hnew6))
      have HW6:Hid (w6.ownsRow w.heap.size 9 1 v' (k + 1) (svs (repE AgS.new (l.take (k + 1))))):=Hd (by rw [HREP.out,svs_snoc];exact hown6)
      have ho6:Only (rb lv) w5 w6:=(Only.refl _ w5).grown hgr6 (fun g e => .inl (by simp [rb,e]))
      have HD6:Hid (∀ g,v'.ownBlock = some g → g ∉ K):=Hd (fun g hg => by
       rcases hnew6 g hg with e | e
       · exact HD5.out g e
       · intro hm;have:=H5.out.at_.bw g hm;omega)
      have H6:=Hd (H5.out.far ho6 (fun x hx => by
       have hx2:lv.ownBlock = some x:=by simpa [rb] using hx
       exact ⟨HD5.out x hx2,(HW5.out.lt x hx2).1⟩))
      clear hown6 hgr6 hnew6 ho6 HW5 HD5 H5 HL5 HREP
      go_wp2_with fail
      go_roundw
      case rel => exact ⟨k + 1,K,_,by omega,rfl,by go_num,H6,HW6,HD6⟩
      case measure => simp [intOf];omega
  · have hdd:decide ((k:Int) < (l.length:Int)) = false:=by simp;omega
    obtain rfl:k = l.length:=by omega
    rw [List.take_length] at H HW
    have CS:=Hd (rgw_save (by omega) H.out)
    go_wp2_with fail
    refine CS.out.mono ?_
    rintro e w5 ⟨rfl,ho5⟩
    have HW5:=Hd (own_keep HW.out ho5 (by simp))
    have HO5:=Hd (H.out.ho.tr ho5)
    clear ho5 CS HW H
    go_wp2_with fail
    go_ret2
    exact ⟨_,rfl,HW5.out,HO5.out⟩
theorem small23 (v:Value) (l:List C19) (w:World) (hs:SlAt w w.heap.size v 11 l.length (cmL l)) (hok:∀ a ∈ l,CmAt w a.iv a.c):
 Calls Tryz.prog 42 #[v] w (SmR l w):=by
 obtain ⟨A,c,rfl⟩:=hs.shape
 have hll:l.length ≤ 9223372036854775807:=by obtain ⟨_,_,_,_,h1,h2,_⟩:=hs;unfold maxLen at h2;omega
 have HS:=Hd hs
 have HK:=Hd hok
 clear hs hok
 by_cases h80:60 < l.length
 · have d1:decide ((60:Int) < (l.length:Int)) = true:=by simp;omega
   go_enter Tryz.func42,Tryz.ntmps42
   go_wp2_with fail
   go_ret
   exact SmR.no oz
 have d1:decide ((60:Int) < (l.length:Int)) = false:=by simp;omega
 go_enter Tryz.func42,Tryz.ntmps42
 go_wp2_with fail
 go_loopw [3] (fun i wr => ∃ k:Nat,k ≤ l.length ∧ i = .int .i64 k ∧ Hid (∀ a ∈ l.take k,SmC a.c) ∧ Hid (Only [] w wr)) (fun i _ => l.length - (intOf i).toNat)
 case atStart => exact ⟨0,by omega,rfl,Hd (by simp),Hd oz⟩
 case round =>
  obtain ⟨k,hk,rfl,hall,ho⟩:=hrel
  obtain ⟨wo,rfl⟩:∃ wo,wo = wr:=⟨_,rfl⟩
  by_cases hlt:k < l.length
  · have hlt':decide ((k:Int) < (l.length:Int)) = true:=by simp;omega
    have hlt2:(k:Int) < (l.length:Int):=by omega
    obtain ⟨a,ha⟩:∃ a,l[k]? = some a:=⟨_,List.getElem?_eq_getElem hlt⟩
    have HA:=Hd ((HK.out a (List.mem_of_getElem? ha)).only ho.out)
    obtain ⟨b,o,c',hv,q0,q1,q2,q3,q4,q5,q6,q7,q8,q9,q10⟩:=cmL_at (HS.out.only ho.out (Nat.le_refl _) (by simp)) ha
    obtain ⟨IA,ic,hiv⟩:=HA.out.its.shape
    have hil:a.c.its.length ≤ 9223372036854775807:=by obtain ⟨_,_,_,_,h1,h2,_⟩:=HA.out.its;unfold maxLen at h2;omega
    have hfl:=HA.out.fd
    have hdl:=HA.out.id
    unfold maxLen at hfl hdl
    have HAT:=Hd ha
    rw [hiv] at q9
    injection hv with e1 e2 e3
    subst e1;subst e3
    clear e2 ha
    by_cases h1:300 < a.c.fd.length
    · have f1:decide ((300:Int) < (a.c.fd.length:Int)) = true:=by simp;omega
      go_wp2_with fail
      go_ret
      exact SmR.no ho.out
    have f1:decide ((300:Int) < (a.c.fd.length:Int)) = false:=by simp;omega
    by_cases h2:300 < a.c.id.length
    · have f2:decide ((300:Int) < (a.c.id.length:Int)) = true:=by simp;omega
      go_wp2_with fail
      go_ret
      exact SmR.no ho.out
    have f2:decide ((300:Int) < (a.c.id.length:Int)) = false:=by simp;omega
    by_cases h3:30 < a.c.its.length
    · have f3:decide ((30:Int) < (a.c.its.length:Int)) = true:=by simp;omega
      go_wp2_with fail
      go_ret
      exact SmR.no ho.out
    have f3:decide ((30:Int) < (a.c.its.length:Int)) = false:=by simp;omega
    have HIV:=Hd hiv
    have HHS:Hid (SlAt wo w.heap.size (.slice (some ⟨b,o,none⟩) l.length c) 11 l.length (cmL l)):=Hd (HS.out.only ho.out (Nat.le_refl _) (by simp))
    clear q0 q1 q2 q3 q4 q5 q6 q10 hiv
    go_wp2_with fail
    go_loopw [4] (fun i wq => ∃ j:Nat,j ≤ a.c.its.length ∧ i = .int .i64 j ∧ Hid (∀ x ∈ a.c.its.take j,SmI x) ∧ Hid (Only [] wo wq)) (fun i _ => a.c.its.length - (intOf i).toNat)
    case atStart => exact ⟨0,by omega,rfl,Hd (by simp),Hd oz⟩
    case round =>
     obtain ⟨j,hj,rfl,hall2,hoq⟩:=hrel
     obtain ⟨wq,rfl⟩:∃ wq,wq = wr:=⟨_,rfl⟩
     obtain ⟨b2,o2,c2,hv2,_,_,_,_,_,_,_,_,_,s4,_⟩:=cmL_at (HHS.out.only hoq.out ho.out.size (by simp)) HAT.out
     rw [HIV.out] at s4
     injection hv2 with g1 g2 g3
     injection g1 with g1
     injection g1 with g4 g5 g6
     subst g4;subst g5
     have hoo:=Hd (ho.out.tr hoq.out)
     by_cases hjl:j < a.c.its.length
     · have hj':decide ((j:Int) < (a.c.its.length:Int)) = true:=by simp;omega
       have hj2:(j:Int) < (a.c.its.length:Int):=by omega
       obtain ⟨x,hx⟩:∃ x,a.c.its[j]? = some x:=⟨_,List.getElem?_eq_getElem hjl⟩
       obtain ⟨ib,io,ic',hv3,x0,x1,x2⟩:=itL_at (HA.out.only hoq.out).its hx
       rw [HIV.out] at hv3
       injection hv3 with k1 k2 k3
       subst k1;subst k3
       have hxl:=HA.out.len x (List.mem_of_getElem? hx)
       have n0:=hxl.id
       have n1:=hxl.ti
       have n2:=hxl.li
       unfold maxLen at n0 n1 n2
       have HXT:=Hd hx
       clear hx k2 g3 g6 hxl q7 q8 q9
       obtain ⟨w2,hw2⟩:∃ w2,wq.alloc (.cells #[.string ⟨x.id.toArray⟩,.string ⟨x.ti.toArray⟩,.string ⟨x.li.toArray⟩] 99) = w2:=⟨_,rfl⟩
       have hO2:Only [] wq w2:=hw2 ▸ oz.alloc _
       obtain ⟨z,hz⟩:∃ z,wq.heap.size = z:=⟨_,rfl⟩
       have hzc:Cells w2 z 99 x.cells:=hw2 ▸ hz ▸ Cells.new wq _ _
       have z0:=hzc.cell (k:=0) rfl
       have z1:=hzc.cell (k:=1) rfl
       have z2:=hzc.cell (k:=2) rfl
       have HO2:=Hd (hoq.out.tr hO2)
       have HOO:=Hd (hoo.out.tr hO2)
       clear hzc hO2
       by_cases m0:300 < x.id.length
       · have t0:decide ((300:Int) < (x.id.length:Int)) = true:=by simp;omega
         go_wp2_with fail
         go_ret
         exact SmR.no HOO.out
       have t0:decide ((300:Int) < (x.id.length:Int)) = false:=by simp;omega
       by_cases m1:300 < x.ti.length
       · have t1:decide ((300:Int) < (x.ti.length:Int)) = true:=by simp;omega
         go_wp2_with fail
         go_ret
         exact SmR.no HOO.out
       have t1:decide ((300:Int) < (x.ti.length:Int)) = false:=by simp;omega
       by_cases m2:300 < x.li.length
       · have t2:decide ((300:Int) < (x.li.length:Int)) = true:=by simp;omega
         go_wp2_with fail
         go_ret
         exact SmR.no HOO.out
       have t2:decide ((300:Int) < (x.li.length:Int)) = false:=by simp;omega
       have HX2:=Hd (all_snoc HXT.out hall2.out ⟨by omega,by omega,by omega⟩)
       go_wp2_with fail
       go_roundw
       case rel => exact ⟨j + 1,by omega,by go_num,HX2,HO2⟩
       case measure => simp [intOf];omega
     · have hj':decide ((j:Int) < (a.c.its.length:Int)) = false:=by simp;omega
       obtain rfl:j = a.c.its.length:=by omega
       have HX2:=Hd (all_snoc HAT.out hall.out ⟨by omega,by omega,by omega,by have:=hall2.out;rwa [List.take_length] at this⟩)
       go_wp2_with fail
       go_roundw
       case rel => exact ⟨k + 1,by omega,by go_num,HX2,hoo⟩
       case measure => simp [intOf];omega
  · have hlt':decide ((k:Int) < (l.length:Int)) = false:=by simp;omega
    obtain rfl:k = l.length:=by omega
    have HF:=Hd (⟨by omega,by have:=hall.out;rwa [List.take_length] at this⟩:Sm19 l)
    go_wp2_with fail
    go_ret
    exact ⟨true,rfl,fun _ => HF.out,ho.out⟩
theorem pick23 (c n:Int) (w:World) (hc:Wide64 c) (h0:1 ≤ n) (h1:n ≤ 1000000000000):
 Calls Tryz.prog 44 #[.int .i64 c,.int .i64 n] w fun e w' => e = .returned (.int .i64 (pkI c n)) ∧ w = w':=by
 obtain ⟨c0,c1⟩:=hc
 have hn:(n == 0) = false:=by simp;omega
 by_cases h:c < 0
 · have h2:0 ≤ -(c + 1):=by omega
   have h2':c ≤ -1:=by omega
   go_enter Tryz.func44,Tryz.ntmps44
   go_wp2
   go_ret
   exact ⟨by unfold pkI;rw [if_pos (by omega),← Int.tmod_eq_emod_of_nonneg h2];first | rfl | simp,rfl⟩
 · have h2:0 ≤ c:=by omega
   have hd:decide (c < 0) = false:=by simpa using h
   go_enter Tryz.func44,Tryz.ntmps44
   go_wp2
   go_ret
   exact ⟨by unfold pkI;rw [if_neg (by omega)];simp,rfl⟩
theorem svs_at23 {w:World} {B:Nat} {v:Value} {l:List (List UInt8)} (h:SlAt w B v 1 l.length (svs l)) {k:Nat} {x:List UInt8} (hk:l[k]? = some x):
 ∃ b o c,v = .slice (some ⟨b,o,none⟩) l.length c ∧ w.cell? ⟨b,o + k,none⟩ = some (.string ⟨x.toArray⟩):=by
 have hlt:k < l.length:=(List.getElem?_eq_some_iff.1 hk).1
 obtain ⟨b,o,c,hv,_,hc⟩:=h.at_ (by omega)
 exact ⟨b,o,c,hv,hc k _ (by unfold svs;rw [List.getElem?_map,hk];rfl)⟩
def rowF (i:Nat) (c:Cm):Ey:=⟨i + 1,1,if rightB c = true then 2 else 1,pkS c⟩
def rowE (l:List C19):List Ey:=l.mapIdx fun i a => rowF i a.c
theorem rowE_length (l:List C19):(rowE l).length = l.length:=by unfold rowE;simp
theorem rowE_get (l:List C19) (k:Nat) (a:C19) (h:l[k]? = some a):(rowE l)[k]? = some (rowF k a.c):=by unfold rowE;rw [List.getElem?_mapIdx,h];rfl
theorem rowE_step (l:List C19) (k:Nat) (a:C19) (h:l[k]? = some a):rowE (l.take (k + 1)) = rowE (l.take k) ++ [rowF k a.c]:=by
 have hk:k < l.length:=(List.getElem?_eq_some_iff.1 h).1
 unfold rowE
 rw [List.take_add_one,h]
 show ((l.take k) ++ [a]).mapIdx _ = _
 rw [List.mapIdx_concat,List.length_take,Nat.min_eq_left (by omega)]
theorem right_short {c:Cm} (h:rightB c = true):(cmdb c).length ≤ 1000000:=by
 obtain ⟨k1,k2,_,k4⟩:=rightB_iff.1 h
 obtain ⟨hf,hd,hn⟩:=lenB_iff.1 k2
 have h1:=isb7_le c (numB_wide k1)
 have h2:=tb_le c.fd 200 hf (by omega)
 have h3:=tb_le c.id 200 hd (by omega)
 have h4:=(ib_length (c.its.length:Int) ⟨by omega,by omega⟩).2
 have h5:(itsB c.its).length ≤ 630 * c.its.length:=by
  have:∀ (l:List It),(∀ x ∈ l,itR x = true) → (itsB l).length ≤ 630 * l.length:=by
   intro l
   induction l with
   | nil => intro _;simp [itsB]
   | cons x r ih =>
    intro hx
    obtain ⟨a1,a2,a3⟩:=itR_len (hx x (by simp))
    have b1:=tb_le x.id 200 a1 (by omega)
    have b2:=tb_le x.ti 200 a2 (by omega)
    have b3:=tb_le x.li 200 a3 (by omega)
    have:=ih (fun y hy => hx y (by simp [hy]))
    unfold itsB itB at this ⊢
    rw [List.flatMap_cons,List.length_append,List.length_append,List.length_append,List.length_cons]
    omega
  exact this _ k4
 have h6:(bb c.fl).length = 1:=rfl
 unfold cmdb cmH
 simp only [List.length_append]
 omega
theorem pkS_short (c:Cm):(pkS c).length ≤ 1000000:=by
 unfold pkS
 split
 · rename_i h
   exact right_short h
 · simp
theorem rowE_ok {l:List C19} (h:l.length ≤ 1000):EyOk (rowE l):=⟨by rw [rowE_length];exact h,fun x hx => by
 obtain ⟨k,hk⟩:=List.getElem?_of_mem hx
 have hlt:k < l.length:=by rw [← rowE_length l];exact (List.getElem?_eq_some_iff.1 hk).1
 rw [rowE_get l k l[k] (List.getElem?_eq_getElem hlt)] at hk
 injection hk with hk
 subst hk
 exact pkS_short _⟩
theorem info_entry23:(Tryz.prog.info? 72).map (fun i => (i.zero,i.size,i.bytes)) = some (some (.agg #[.int .i64 0,.int .i64 0,.int .i64 0,.string ⟨#[]⟩]),4,40):=by kernel_rfl
theorem row23 (v:Value) (l:List C19) (w:World) (hs:SlAt w w.heap.size v 11 l.length (cmL l)) (hok:∀ a ∈ l,CmAt w a.iv a.c) (hsm:∀ a ∈ l,a.c.Sm) (hn:l.length ≤ 1000):
 Calls Tryz.prog 43 #[v] w fun e w' => ∃ rv,e = .returned rv ∧ w'.ownsRow w.heap.size 72 4 rv l.length (eyL (rowE l)) ∧ Only [] w w':=by
 obtain ⟨i0,hi0,hz0,hz1,hz2⟩:=info_parts info_entry23
 obtain ⟨LA,lc,rfl⟩:=hs.shape
 have HS:=Hd hs
 have HK:=Hd hok
 have HM:=Hd hsm
 clear hs hok hsm
 go_enter Tryz.func43,Tryz.ntmps43
 go_wp2_with fail
 go_loopw [3,4] (fun ls i wr => ∃ (k:Nat) (lv:Value),k ≤ l.length ∧ lv = ls ∧ i = .int .i64 k ∧ Hid (wr.ownsRow w.heap.size 72 4 lv k (eyL (rowE (l.take k)))) ∧ Hid (Only [] w wr)) (fun _ i _ => l.length - (intOf i).toNat)
 case atStart => exact ⟨0,_,by omega,rfl,rfl,Hd (World.ownsRow_nil _ _ _ _),Hd oz⟩
 case round =>
  obtain ⟨k,lv,hk,rfl,rfl,HW,ho⟩:=hrel
  obtain ⟨wq,rfl⟩:∃ wq,wq = wr:=⟨_,rfl⟩
  by_cases hlt:k < l.length
  · have hlt':(k:Int) < (l.length:Int):=by omega
    obtain ⟨a,ha⟩:∃ a,l[k]? = some a:=⟨_,List.getElem?_eq_getElem hlt⟩
    have ham:=List.mem_of_getElem? ha
    have HR:=Hd (rowE_step l k a ha)
    have CP:=Hd (ref18_pack a.c a.iv wq ((HK.out a ham).only ho.out) (HM.out a ham))
    obtain ⟨ab,ao,ac,hv,q0,q1,q2,q3,q4,q5,q6,q7,q8,q9,q10⟩:=cmL_at (HS.out.only ho.out (Nat.le_refl _) (by simp)) ha
    injection hv with e1 e2 e3
    subst e1;subst e3
    unfold Cm.val at CP
    clear e2 ha ham
    go_wp2_with fail
    refine CP.out.mono ?_
    rintro e w5 ⟨rfl,ho5⟩
    have HW5:=Hd (own_keep HW.out ho5 (by simp))
    have HO5:=Hd (ho.out.tr ho5)
    clear ho5 CP HW ho q0 q1 q2 q3 q4 q5 q6 q7 q8 q9 q10
    have hw1:IntKind.i64.wrap ((k:Int) + 1) = (k:Int) + 1:=by rw [IntKind.wrap_i64];omega
    obtain ⟨b1,b2,b3⟩:=box_row w5 72 [.int .i64 0,.int .i64 0,.int .i64 0,.string ⟨#[]⟩] [.int .i64 ((k:Int) + 1),.int .i64 1,.int .i64 2,.string ⟨(pkS a.c).toArray⟩]
    have hone:(#[.int .i64 ((k:Int) + 1),.int .i64 1,.int .i64 2,.string ⟨(pkS a.c).toArray⟩]:Array Value).all (·.oneCell') = true:=by simp [Value.oneCell']
    obtain ⟨ys,hy⟩:∃ u,(w5.alloc (.cells #[.int .i64 0,.int .i64 0,.int .i64 0,.string ⟨#[]⟩] 72)).setRow w5.heap.size #[.int .i64 ((k:Int) + 1),.int .i64 1,.int .i64 2,.string ⟨(pkS a.c).toArray⟩] = u:=⟨_,rfl⟩
    have hys:(w5.alloc (.cells [.int .i64 0,.int .i64 0,.int .i64 0,.string ⟨#[]⟩].toArray 72)).setRow w5.heap.size [.int .i64 ((k:Int) + 1),.int .i64 1,.int .i64 2,.string ⟨(pkS a.c).toArray⟩].toArray = ys:=hy
    rw [hys] at b1 b3
    have HWY:=Hd (own_keep HW5.out b1 (by simp))
    have HOY:=Hd (HO5.out.tr b1)
    have hwy:=HO5.out.size
    obtain ⟨z,hz⟩:∃ z,w5.heap.size = z:=⟨_,rfl⟩
    rw [hz] at b2 b3 hy hwy
    have HZ:=Hd b3
    have HNZ:Hid (lv.ownBlock ≠ some z):=Hd (fun e => by have:=(HW5.out.lt z e).2;omega)
    clear b1 b3 hys HW5 HO5
    by_cases h2:rightB a.c = true
    · have e1:pkE a.c = 0:=by unfold pkE;rw [if_pos h2]
      have e2:rowF k a.c = ⟨k + 1,1,2,pkS a.c⟩:=by unfold rowF;rw [if_pos h2]
      rw [e2] at HR
      rw [e1]
      clear h2 e1 e2
      have hld:=HZ.out
      have y2:=HZ.out.cell (k:=2) rfl
      go_wp2_with (first
       | ((try rw [hz]);refine wpList_store_row rfl 72 _ _ rfl z #[.int .i64 ((k:Int) + 1),.int .i64 1,.int .i64 2,.string ⟨(pkS a.c).toArray⟩] rfl rfl 72 _ b2 (by kernel_rfl) rfl hone ?_;(try rw [hy]))
       | (refine wpList_load_row rfl 72 _ rfl z rfl 72 #[.int .i64 ((k:Int) + 1),.int .i64 1,.int .i64 2,.string ⟨(pkS a.c).toArray⟩] (0,0) _ hld Tryz.underlying72 rfl (by kernel_rfl) ?_)
       | (at_builtin;refine wpList_appA rfl _ _ 67 rfl w.heap.size 72 i0 _ 4 40 Tryz.underlying67 hi0 hz0 hz1 hz2 rfl (by decide) ys lv k (eyL (rowE (l.take k))) rfl HWY.out 1 1 [.int .i64 ((k:Int) + 1),.int .i64 1,.int .i64 2,.string ⟨(pkS a.c).toArray⟩] rfl rfl (by simp [Value.oneCell']) (by unfold maxLen;omega) (by omega) HOY.out.size ?_;intro v' w6 hown6 hgr6 hnew6))
      have HW6:Hid (w6.ownsRow w.heap.size 72 4 v' (k + 1) (eyL (rowE (l.take (k + 1))))):=Hd (by rw [HR.out,eyL_append];exact hown6)
      have HO6:=Hd (Only.own HOY.out HWY.out hgr6 (Nat.le_refl _))
      clear hown6 hgr6 hnew6 HWY HOY HR HZ hld y2
      go_wp2_with fail
      go_roundw
      case rel => exact ⟨k + 1,_,by omega,rfl,by go_num,HW6,HO6⟩
      case measure => simp [intOf];omega
    · have e1:pkE a.c = 1:=by unfold pkE;rw [if_neg h2]
      have e2:rowF k a.c = ⟨k + 1,1,1,pkS a.c⟩:=by unfold rowF;rw [if_neg h2]
      rw [e2] at HR
      rw [e1]
      clear h2 e1 e2
      have hzf:=HZ.out.frozen 2
      have hzl:=HZ.out.lt
      obtain ⟨u6,hu6⟩:∃ u,ys.setCell ⟨z,2,none⟩ (.int .i64 1) = u:=⟨_,rfl⟩
      have y2:=HZ.out.cell (k:=2) rfl
      have HZ6:Hid (Cells u6 z 72 [.int .i64 ((k:Int) + 1),.int .i64 1,.int .i64 1,.string ⟨(pkS a.c).toArray⟩]):=Hd (hu6 ▸ HZ.out.set 2 (.int .i64 1))
      have hoS:Only [z] ys u6:=hu6 ▸ oz.setCell (.inl (by simp)) _
      have hnz:=HNZ.out
      have HWU:=Hd (own_keep HWY.out hoS (by simpa using hnz))
      have HOU:=Hd (HOY.out.trans hoS (fun x hx => by simp at hx;exact .inr (by omega)))
      have hld:=HZ6.out
      clear HZ HWY HOY hoS hnz
      go_wp2_with (first
       | ((try rw [hz]);refine wpList_store_row rfl 72 _ _ rfl z #[.int .i64 ((k:Int) + 1),.int .i64 1,.int .i64 2,.string ⟨(pkS a.c).toArray⟩] rfl rfl 72 _ b2 (by kernel_rfl) rfl hone ?_;(try rw [hy]))
       | ((try rw [hu6]);refine wpList_load_row rfl 72 _ rfl z rfl 72 #[.int .i64 ((k:Int) + 1),.int .i64 1,.int .i64 1,.string ⟨(pkS a.c).toArray⟩] (0,0) _ hld Tryz.underlying72 rfl (by kernel_rfl) ?_)
       | (at_builtin;refine wpList_appA rfl _ _ 67 rfl w.heap.size 72 i0 _ 4 40 Tryz.underlying67 hi0 hz0 hz1 hz2 rfl (by decide) u6 lv k (eyL (rowE (l.take k))) rfl HWU.out 1 1 [.int .i64 ((k:Int) + 1),.int .i64 1,.int .i64 1,.string ⟨(pkS a.c).toArray⟩] rfl rfl (by simp [Value.oneCell']) (by unfold maxLen;omega) (by omega) HOU.out.size ?_;intro v' w6 hown6 hgr6 hnew6))
      have HW6:Hid (w6.ownsRow w.heap.size 72 4 v' (k + 1) (eyL (rowE (l.take (k + 1))))):=Hd (by rw [HR.out,eyL_append];exact hown6)
      have HO6:=Hd (Only.own HOU.out HWU.out hgr6 (Nat.le_refl _))
      clear hown6 hgr6 hnew6 HWU HOU HR hld y2 HZ6
      go_wp2_with fail
      go_roundw
      case rel => exact ⟨k + 1,_,by omega,rfl,by go_num,HW6,HO6⟩
      case measure => simp [intOf];omega
  · have hdd:decide ((k:Int) < (l.length:Int)) = false:=by simp;omega
    obtain rfl:k = l.length:=by omega
    rw [List.take_length] at HW
    go_wp2_with fail
    go_ret
    exact ⟨_,rfl,HW.out,ho.out⟩
structure Oq where
 cl:Int
 d:List UInt8
 r:List UInt8
 st:Int
 en:Int
 hd:d.length ≤ 1000000
 hr:r.length ≤ 1000000
def Oq.cells (o:Oq):List Value:=[.int .i64 o.cl,.string ⟨o.d.toArray⟩,.string ⟨o.r.toArray⟩,.int .i64 o.st,.int .i64 o.en]
def oqL (l:List Oq):List Value:=l.flatMap Oq.cells
def regB (d:List UInt8):Bool:=match unC d with
 | none => false
 | some c => c.kd == 1
def matchE (x:Ey) (y d r:List UInt8):Bool:=x.kd == 2 && ((x.d == d) && (!regB d || y == r))
def fndQ (d r:List UInt8):List Ey → List (List UInt8) → Nat → Int
 | x :: l,y :: rs,k => if matchE x y d r = true then k else fndQ d r l rs (k + 1)
 | [],_,_ => -1
 | _,[],_ => -1
theorem fndQ_at {d r:List UInt8} {l:List Ey} {rs:List (List UInt8)} {k n:Nat} {x:Ey} {y:List UInt8} (hx:l[k]? = some x) (hy:rs[k]? = some y):
 fndQ d r (l.drop k) (rs.drop k) n = if matchE x y d r = true then (n:Int) else fndQ d r (l.drop (k + 1)) (rs.drop (k + 1)) (n + 1):=by
 obtain ⟨h1,rfl⟩:=List.getElem?_eq_some_iff.1 hx
 obtain ⟨h2,rfl⟩:=List.getElem?_eq_some_iff.1 hy
 rw [List.drop_eq_getElem_cons h1,List.drop_eq_getElem_cons h2]
 rfl
theorem hi_find (v rv:Value) (l:List Ey) (rs:List (List UInt8)) (o:Oq) (w:World) (hs:SlAt w w.heap.size v 4 l.length (eyL l)) (hr:SlAt w w.heap.size rv 1 rs.length (svs rs)) (hl:rs.length = l.length) (hn:l.length ≤ 1000) (hd:o.d.length ≤ 1000000):
 Calls Tryz.prog 52 #[v,rv,.agg #[.int .i64 o.cl,.string ⟨o.d.toArray⟩,.string ⟨o.r.toArray⟩,.int .i64 o.st,.int .i64 o.en]] w fun e w' => e = .returned (.int .i64 (fndQ o.d o.r l rs 0)) ∧ Only [] w w':=by
 obtain ⟨LA,lc,rfl⟩:=hs.shape
 obtain ⟨RA,rc,rfl⟩:=hr.shape
 have HS:=Hd hs
 rw [hl] at hr
 have HR:=Hd hr
 have hcap:(l.length:Int) ≤ (lc:Int):=by obtain ⟨_,A,c,hv,h0,_⟩:=hs;injection hv with _ _ hv;subst hv;omega
 have hadd:∀ x:Addr,x.add 0 = x:=fun x => by unfold Addr.add;simp
 have hmap:Option.map (fun x:Addr => x) LA = LA:=by cases LA <;> rfl
 have HN:Hid (unC o.d = none → regB o.d = false):=Hd (fun h => by unfold regB;rw [h])
 have HC:Hid (∀ c,unC o.d = some c → regB o.d = (c.kd == 1)):=Hd (fun c h => by unfold regB;rw [h])
 have HMT:Hid (∀ x y,matchE x y o.d o.r = (x.kd == 2 && ((x.d == o.d) && (!regB o.d || y == o.r)))):=Hd (fun x y => rfl)
 obtain ⟨q,hq⟩:∃ q,regB o.d = q:=⟨_,rfl⟩
 rw [hq] at HN HC HMT
 obtain ⟨w0,hw0⟩:∃ u,w.alloc (.cells #[.int .i64 o.cl,.string ⟨o.d.toArray⟩,.string ⟨o.r.toArray⟩,.int .i64 o.st,.int .i64 o.en] 88) = u:=⟨_,rfl⟩
 obtain ⟨z,hz⟩:∃ z,w.heap.size = z:=⟨_,rfl⟩
 have HZ:Hid (Cells w0 z 88 [.int .i64 o.cl,.string ⟨o.d.toArray⟩,.string ⟨o.r.toArray⟩,.int .i64 o.st,.int .i64 o.en]):=Hd (hw0 ▸ hz ▸ Cells.new w _ _)
 have HO0:Hid (Only [] w w0):=Hd (hw0 ▸ oz.alloc _)
 have CU:=Hd (cmd_unpack o.d w0 (by omega))
 have z1:=HZ.out.cell (k:=1) rfl
 clear hs hr hq
 go_enter Tryz.func52,Tryz.ntmps52
 go_wp2_with fail
 refine CU.out.mono ?_
 rintro e w1 ⟨iv,rfl,hc,ho1,_⟩
 obtain ⟨IA,ic,rfl⟩:=hc.its.shape
 have HQ:Hid (((if (unC o.d).isSome = true then (0:Int) else 8) == 0 && (((unC o.d).getD Cm.zero).kd == 1)) = q):=Hd (by
  cases hu:unC o.d with
  | none => rw [HN.out hu];rfl
  | some c => rw [HC.out c hu];simp)
 obtain ⟨er,her⟩:∃ e,(if (unC o.d).isSome = true then (0:Int) else 8) = e:=⟨_,rfl⟩
 obtain ⟨c,hcc⟩:∃ c,(unC o.d).getD Cm.zero = c:=⟨_,rfl⟩
 rw [her,hcc] at HQ
 rw [her,hcc]
 unfold Cm.val
 have HO1:=Hd (HO0.out.tr ho1)
 have HZ1:=Hd (HZ.out.only ho1 (by simp))
 obtain ⟨b1,b2,b3⟩:=box_row w1 38 [.int .i64 0,.int .i64 0,.int .i64 0,.int .i64 0,.int .i64 0,.int .i64 0,.int .i64 0,.string ⟨#[]⟩,.string ⟨#[]⟩,.slice none 0 0,.bool false] [.int .i64 c.kd,.int .i64 c.ss,.int .i64 c.sq,.int .i64 c.sh,.int .i64 c.nd,.int .i64 c.ep,.int .i64 c.n,.string ⟨c.fd.toArray⟩,.string ⟨c.id.toArray⟩,.slice IA c.its.length ic,.bool c.fl]
 have hone:(#[.int .i64 c.kd,.int .i64 c.ss,.int .i64 c.sq,.int .i64 c.sh,.int .i64 c.nd,.int .i64 c.ep,.int .i64 c.n,.string ⟨c.fd.toArray⟩,.string ⟨c.id.toArray⟩,.slice IA c.its.length ic,.bool c.fl]:Array Value).all (·.oneCell') = true:=by simp [Value.oneCell']
 obtain ⟨ys,hy⟩:∃ u,(w1.alloc (.cells #[.int .i64 0,.int .i64 0,.int .i64 0,.int .i64 0,.int .i64 0,.int .i64 0,.int .i64 0,.string ⟨#[]⟩,.string ⟨#[]⟩,.slice none 0 0,.bool false] 38)).setRow w1.heap.size #[.int .i64 c.kd,.int .i64 c.ss,.int .i64 c.sq,.int .i64 c.sh,.int .i64 c.nd,.int .i64 c.ep,.int .i64 c.n,.string ⟨c.fd.toArray⟩,.string ⟨c.id.toArray⟩,.slice IA c.its.length ic,.bool c.fl] = u:=⟨_,rfl⟩
 have hys:(w1.alloc (.cells [.int .i64 0,.int .i64 0,.int .i64 0,.int .i64 0,.int .i64 0,.int .i64 0,.int .i64 0,.string ⟨#[]⟩,.string ⟨#[]⟩,.slice none 0 0,.bool false].toArray 38)).setRow w1.heap.size [.int .i64 c.kd,.int .i64 c.ss,.int .i64 c.sq,.int .i64 c.sh,.int .i64 c.nd,.int .i64 c.ep,.int .i64 c.n,.string ⟨c.fd.toArray⟩,.string ⟨c.id.toArray⟩,.slice IA c.its.length ic,.bool c.fl].toArray = ys:=hy
 rw [hys] at b1 b3
 have HO2:=Hd (HO1.out.tr b1)
 have HZ2:=Hd (HZ1.out.only b1 (by simp))
 obtain ⟨g,hg⟩:∃ g,w1.heap.size = g:=⟨_,rfl⟩
 rw [hg] at b2 b3 hy
 have y0:=b3.cell (k:=0) rfl
 clear CU hc ho1 her hcc HN HC HO0 HO1 HZ HZ1 z1 b1 b3 hys
 go_upto_region 2 with ((try rw [hg]);refine wpList_store_row rfl 38 _ _ rfl g #[.int .i64 c.kd,.int .i64 c.ss,.int .i64 c.sq,.int .i64 c.sh,.int .i64 c.nd,.int .i64 c.ep,.int .i64 c.n,.string ⟨c.fd.toArray⟩,.string ⟨c.id.toArray⟩,.slice IA c.its.length ic,.bool c.fl] rfl rfl 38 _ b2 (by kernel_rfl) rfl hone ?_;(try rw [hy]))
 clear b2 hone hy
 go_cut [9] from 18 to 24 (fun x wx => x = .bool q ∧ wx = ys)
 case first =>
  by_cases he:er = 0
  · subst he
    have hq2:(c.kd == 1) = q:=by have:=HQ.out;simpa using this
    go_wp2_with fail
    go_meet
    exact ⟨by first | rfl | rw [hq2],rfl⟩
  · have d1:(er == 0) = false:=by simpa using he
    have hq2:q = false:=by have:=HQ.out;rw [d1] at this;simpa using this.symm
    subst hq2
    go_wp2_with fail
    go_meet
    exact ⟨rfl,rfl⟩
 case rest =>
 obtain ⟨rfl,rfl⟩:=hcut
 clear HQ y0
 go_wp2_with fail
 go_loopw [33] (fun i wr => ∃ k:Nat,k ≤ l.length ∧ i = .int .i64 k ∧ Hid (fndQ o.d o.r (l.drop k) (rs.drop k) k = fndQ o.d o.r l rs 0) ∧ Hid (Only [] w wr) ∧ Hid (Cells wr z 88 [.int .i64 o.cl,.string ⟨o.d.toArray⟩,.string ⟨o.r.toArray⟩,.int .i64 o.st,.int .i64 o.en])) (fun i _ => l.length - (intOf i).toNat)
 case atStart => exact ⟨0,by omega,rfl,Hd rfl,HO2,HZ2⟩
 case round =>
  obtain ⟨k,hk,rfl,HF,HO,HZ⟩:=hrel
  obtain ⟨wq,rfl⟩:∃ wq,wq = wr:=⟨_,rfl⟩
  by_cases hlt:k < l.length
  · have hlt':(k:Int) < (l.length:Int):=by omega
    obtain ⟨x,hx⟩:∃ x,l[k]? = some x:=⟨_,List.getElem?_eq_getElem hlt⟩
    obtain ⟨y,hy⟩:∃ y,rs[k]? = some y:=⟨_,List.getElem?_eq_getElem (by omega)⟩
    have HFN:=Hd (fndQ_at (d:=o.d) (r:=o.r) (n:=k) hx hy)
    rw [HMT.out] at HFN
    obtain ⟨ab,ao,ac,hv,q0,q1,q2,q3⟩:=eyL_at (HS.out.only HO.out (Nat.le_refl _) (by simp)) hx
    injection hv with e1 e2 e3
    subst e1;subst e3
    obtain ⟨rb,ro,rc',hv,r0⟩:=svs_at23 (hl ▸ (HR.out.only HO.out (Nat.le_refl _) (by simp))) hy
    injection hv with e1 e3 e4
    subst e1;subst e4
    obtain ⟨b1,b2,b3⟩:=box_row wq 72 [.int .i64 0,.int .i64 0,.int .i64 0,.string ⟨#[]⟩] [.int .i64 x.ix,.int .i64 x.tm,.int .i64 x.kd,.string ⟨x.d.toArray⟩]
    have hone:(#[.int .i64 x.ix,.int .i64 x.tm,.int .i64 x.kd,.string ⟨x.d.toArray⟩]:Array Value).all (·.oneCell') = true:=by simp [Value.oneCell']
    obtain ⟨ys,hys⟩:∃ u,(wq.alloc (.cells #[.int .i64 0,.int .i64 0,.int .i64 0,.string ⟨#[]⟩] 72)).setRow wq.heap.size #[.int .i64 x.ix,.int .i64 x.tm,.int .i64 x.kd,.string ⟨x.d.toArray⟩] = u:=⟨_,rfl⟩
    have hys2:(wq.alloc (.cells [.int .i64 0,.int .i64 0,.int .i64 0,.string ⟨#[]⟩].toArray 72)).setRow wq.heap.size [.int .i64 x.ix,.int .i64 x.tm,.int .i64 x.kd,.string ⟨x.d.toArray⟩].toArray = ys:=hys
    rw [hys2] at b1 b3
    obtain ⟨g,hg⟩:∃ g,wq.heap.size = g:=⟨_,rfl⟩
    rw [hg] at b2 b3 hys
    have HO3:=Hd (HO.out.tr b1)
    have HZ3:=Hd (HZ.out.only b1 (by simp))
    have t2:=fun u:Since ys => u.cell (b3.cell (k:=2) rfl)
    have t3:=fun u:Since ys => u.cell (b3.cell (k:=3) rfl)
    have s1:=fun u:Since ys => u.cell (HZ3.out.cell (k:=1) rfl)
    have s2:=fun u:Since ys => u.cell (HZ3.out.cell (k:=2) rfl)
    have p0:=fun u:Since ys => u.cell ((b1.cell (World.block_lt_of_cell? wq _ r0) (by simp)).trans r0)
    clear b1 b3 hys2 hx hy e2 e3 r0 HO HZ
    go_upto_region 6 with (first
     | ((try rw [hg]);refine wpList_store_row rfl 72 _ _ rfl g #[.int .i64 x.ix,.int .i64 x.tm,.int .i64 x.kd,.string ⟨x.d.toArray⟩] rfl rfl 72 _ b2 (by kernel_rfl) rfl hone ?_;(try rw [hys])))
    (try simp only [Act.put])
    clear b2 hone hys q0 q1 q2 q3
    obtain ⟨m1,hm1⟩:∃ b,(x.kd == 2) = b:=⟨_,rfl⟩
    obtain ⟨m2,hm2⟩:∃ b,(x.d == o.d) = b:=⟨_,rfl⟩
    obtain ⟨m3,hm3⟩:∃ b,(y == o.r) = b:=⟨_,rfl⟩
    rw [hm1,hm2,hm3] at HFN
    cases m1 with
    | false =>
     refine wp_region_only ys oz (by kernel_rfl) (by kernel_rfl) ?_
     repeat (go_big_quiet_step (fail))
     refine wpQuiet_nil ?_
     rintro ⟨w3,ho3⟩
     dsimp only
     have HO4:=Hd (HO3.out.tr ho3)
     have HZ4:=Hd (HZ3.out.only ho3 (by simp))
     clear t2 t3 s1 s2 p0 ho3
     have HF4:Hid (fndQ o.d o.r (l.drop (k + 1)) (rs.drop (k + 1)) (k + 1) = fndQ o.d o.r l rs 0):=Hd (by rw [← HF.out,HFN.out];simp)
     go_wp2_with fail
     go_roundw
     case rel => exact ⟨k + 1,by omega,by go_num,HF4,HO4,HZ4⟩
     case measure => simp [intOf];omega
    | true =>
    cases m2 with
    | false =>
     refine wp_region_only ys oz (by kernel_rfl) (by kernel_rfl) ?_
     repeat (go_big_quiet_step (fail))
     refine wpQuiet_nil ?_
     rintro ⟨w3,ho3⟩
     dsimp only
     have HO4:=Hd (HO3.out.tr ho3)
     have HZ4:=Hd (HZ3.out.only ho3 (by simp))
     clear t2 t3 s1 s2 p0 ho3
     have HF4:Hid (fndQ o.d o.r (l.drop (k + 1)) (rs.drop (k + 1)) (k + 1) = fndQ o.d o.r l rs 0):=Hd (by rw [← HF.out,HFN.out];simp)
     go_wp2_with fail
     go_roundw
     case rel => exact ⟨k + 1,by omega,by go_num,HF4,HO4,HZ4⟩
     case measure => simp [intOf];omega
    | true =>
    cases q with
    | false =>
     refine wp_region_only ys oz (by kernel_rfl) (by kernel_rfl) ?_
     repeat (go_big_quiet_step (fail))
     refine wpQuiet_nil ?_
     rintro ⟨w3,ho3⟩
     dsimp only
     have HO4:=Hd (HO3.out.tr ho3)
     have HZ4:=Hd (HZ3.out.only ho3 (by simp))
     clear t2 t3 s1 s2 p0 ho3
     have HE:Hid (fndQ o.d o.r l rs 0 = k):=Hd (by rw [← HF.out,HFN.out];simp)
     go_wp2_with fail
     go_ret
     exact ⟨by rw [HE.out];rfl,HO4.out⟩
    | true =>
    cases m3 with
    | false =>
     refine wp_region_only ys oz (by kernel_rfl) (by kernel_rfl) ?_
     repeat (go_big_quiet_step (fail))
     refine wpQuiet_nil ?_
     rintro ⟨w3,ho3⟩
     dsimp only
     have HO4:=Hd (HO3.out.tr ho3)
     have HZ4:=Hd (HZ3.out.only ho3 (by simp))
     clear t2 t3 s1 s2 p0 ho3
     have HF4:Hid (fndQ o.d o.r (l.drop (k + 1)) (rs.drop (k + 1)) (k + 1) = fndQ o.d o.r l rs 0):=Hd (by rw [← HF.out,HFN.out];simp)
     go_wp2_with fail
     go_roundw
     case rel => exact ⟨k + 1,by omega,by go_num,HF4,HO4,HZ4⟩
     case measure => simp [intOf];omega
    | true =>
     refine wp_region_only ys oz (by kernel_rfl) (by kernel_rfl) ?_
     repeat (go_big_quiet_step (fail))
     refine wpQuiet_nil ?_
     rintro ⟨w3,ho3⟩
     dsimp only
     have HO4:=Hd (HO3.out.tr ho3)
     have HZ4:=Hd (HZ3.out.only ho3 (by simp))
     clear t2 t3 s1 s2 p0 ho3
     have HE:Hid (fndQ o.d o.r l rs 0 = k):=Hd (by rw [← HF.out,HFN.out];simp)
     go_wp2_with fail
     go_ret
     exact ⟨by rw [HE.out];rfl,HO4.out⟩
  · have hdd:decide ((k:Int) < (l.length:Int)) = false:=by simp;omega
    obtain rfl:k = l.length:=by omega
    have HE:Hid (fndQ o.d o.r l rs 0 = -1):=Hd (by rw [← HF.out,List.drop_length];rfl)
    go_wp2_with fail
    go_ret
    exact ⟨by rw [HE.out];rfl,HO.out⟩
def cntO (o:Oq):Bool:=decide (0 ≤ o.en) && ((((unA o.r).getD Rp.zero).er != 17) && (((unA o.r).getD Rp.zero).er != 18))
def plc (l:List Ey) (rs:List (List UInt8)) (o:Oq):Int:=fndQ o.d o.r l rs 0
def okP (l:List Ey) (rs:List (List UInt8)) (o:Oq):Bool:=decide (0 ≤ plc l rs o) && decide (rs[(plc l rs o).toNat]? = some o.r)
def prP (l:List Ey) (rs:List (List UInt8)) (c:List Oq):Bool:=c.all fun p => c.all fun q => !(decide (p.en < q.st) && decide (plc l rs q ≤ plc l rs p))
def fitP (l:List Ey) (rs:List (List UInt8)) (os:List Oq):Bool:=(os.filter cntO).all (okP l rs) && prP l rs (os.filter cntO)
def Oq.zero:Oq:=⟨0,[],[],0,0,by simp,by simp⟩
def mkO (l:List Ey) (rs:List (List UInt8)) (c:List Oq):Nat → Mk:=fun x => if x % 2 = 0 then ⟨(c.getD (x / 2) Oq.zero).st,true,plc l rs (c.getD (x / 2) Oq.zero)⟩ else ⟨(c.getD (x / 2) Oq.zero).en,false,plc l rs (c.getD (x / 2) Oq.zero)⟩
theorem mkF_add (f:Nat → Mk) (n m:Nat):mkF f (n + m) = mkF f n ++ (List.range m).flatMap fun i => (f (n + i)).cells:=by
 unfold mkF
 rw [List.range_add,List.map_append,List.flatMap_append]
 simp only [List.flatMap_map]
theorem mkO_snoc (l:List Ey) (rs:List (List UInt8)) (c:List Oq) (o:Oq):
 mkF (mkO l rs (c ++ [o])) (2 * (c.length + 1)) = mkF (mkO l rs c) (2 * c.length) ++ [.int .i64 o.st,.bool true,.int .i64 (plc l rs o),.int .i64 o.en,.bool false,.int .i64 (plc l rs o)]:=by
 rw [show 2 * (c.length + 1) = 2 * c.length + 2 from by omega,mkF_add]
 congr 1
 · refine mkF_congr (fun i hi => ?_)
   have e:(c ++ [o]).getD (i / 2) Oq.zero = c.getD (i / 2) Oq.zero:=by
    rw [List.getD_eq_getElem?_getD,List.getD_eq_getElem?_getD,List.getElem?_append_left (by omega)]
   unfold mkO
   rw [e]
 · have e:∀ i,i < 2 → (c ++ [o]).getD ((2 * c.length + i) / 2) Oq.zero = o:=fun i hi => by
    rw [List.getD_eq_getElem?_getD,show (2 * c.length + i) / 2 = c.length from by omega,List.getElem?_concat_length]
    rfl
   show (mkO l rs (c ++ [o]) (2 * c.length + 0)).cells ++ ((mkO l rs (c ++ [o]) (2 * c.length + 1)).cells ++ []) = _
   unfold mkO
   rw [e 0 (by omega),e 1 (by omega),if_pos (by omega),if_neg (by omega)]
   rfl
theorem mkO_end (l:List Ey) (rs:List (List UInt8)) (c:List Oq) (i:Nat) (o:Oq) (h:c[i]? = some o):mkO l rs c (2 * i) = ⟨o.st,true,plc l rs o⟩ ∧ mkO l rs c (2 * i + 1) = ⟨o.en,false,plc l rs o⟩:=by
 have e:∀ j,j < 2 → c.getD ((2 * i + j) / 2) Oq.zero = o:=fun j hj => by
  rw [List.getD_eq_getElem?_getD,show (2 * i + j) / 2 = i from by omega,h]
  rfl
 constructor
 · unfold mkO
   have:=e 0 (by omega)
   rw [Nat.add_zero] at this
   rw [this,if_pos (by omega)]
 · unfold mkO
   rw [e 1 (by omega),if_neg (by omega)]
structure Sc (g:Nat → Mk) (k:Nat) (G:Int):Prop where
 hi:∀ x,x < k → (g x).st = false → (g x).pl ≤ G
 at_:G = -1 ∨ ∃ x,x < k ∧ (g x).st = false ∧ (g x).pl = G
 ok:∀ x y,x < y → y < k → (g x).st = false → (g y).st = true → (g x).pl < (g y).pl
def OkG (g:Nat → Mk) (n:Nat):Prop:=∀ x y,x < y → y < n → (g x).st = false → (g y).st = true → (g x).pl < (g y).pl
theorem Sc.start (g:Nat → Mk):Sc g 0 (-1):=⟨fun x h => by omega,.inl rfl,fun x y h1 h2 => by omega⟩
theorem Sc.more {g:Nat → Mk} {k:Nat} {G:Int} (h:Sc g k G) (hs:(g k).st = true) (hl:¬ (g k).pl ≤ G):Sc g (k + 1) G:=
 ⟨fun x hx he => by
  by_cases e:x = k
  · rw [e,hs] at he;cases he
  · exact h.hi x (by omega) he,
  h.at_.imp id (fun ⟨x,h1,h2,h3⟩ => ⟨x,by omega,h2,h3⟩),
  fun x y h1 h2 h3 h4 => by
   by_cases e:y = k
   · subst e
     have:=h.hi x h1 h3
     omega
   · exact h.ok x y h1 (by omega) h3 h4⟩
theorem Sc.less {g:Nat → Mk} {k:Nat} {G:Int} (h:Sc g k G) (hs:(g k).st = false):Sc g (k + 1) (max G (g k).pl):=
 ⟨fun x hx he => by
  by_cases e:x = k
  · subst e;omega
  · have:=h.hi x (by omega) he;omega,
  by
   by_cases e:G ≤ (g k).pl
   · exact .inr ⟨k,by omega,hs,by omega⟩
   · rw [Int.max_eq_left (by omega)]
     exact h.at_.imp id (fun ⟨x,h1,h2,h3⟩ => ⟨x,by omega,h2,h3⟩),
  fun x y h1 h2 h3 h4 => by
   by_cases e:y = k
   · rw [e,hs] at h4;cases h4
   · exact h.ok x y h1 (by omega) h3 h4⟩
theorem Sc.not_ {g:Nat → Mk} {k n:Nat} {G:Int} (h:Sc g k G) (hk:k < n) (hs:(g k).st = true) (hl:(g k).pl ≤ G) (h0:0 ≤ (g k).pl):¬ OkG g n:=fun ho => by
 rcases h.at_ with e | ⟨x,h1,h2,h3⟩
 · omega
 · have:=ho x k h1 hk h2 hs
   omega
theorem okG_iff (l:List Ey) (rs:List (List UInt8)) (c:List Oq) (g:Nat → Mk) (hx:Ex 0 (2 * c.length) (mkO l rs c) g) (hs:Srt g 0 (2 * c.length)):OkG g (2 * c.length) ↔ prP l rs c = true:=by
 unfold prP
 constructor
 · intro ho
   rw [List.all_eq_true]
   intro p hp
   rw [List.all_eq_true]
   intro q hq
   obtain ⟨i,hi⟩:=List.getElem?_of_mem hp
   obtain ⟨j,hj⟩:=List.getElem?_of_mem hq
   have hi2:i < c.length:=(List.getElem?_eq_some_iff.1 hi).1
   have hj2:j < c.length:=(List.getElem?_eq_some_iff.1 hj).1
   obtain ⟨_,m1⟩:=mkO_end l rs c i p hi
   obtain ⟨m2,_⟩:=mkO_end l rs c j q hj
   obtain ⟨u,_,u2,u3⟩:=hx.to_ (2 * i + 1) (by omega) (by omega)
   obtain ⟨v,_,v2,v3⟩:=hx.to_ (2 * j) (by omega) (by omega)
   rw [m1] at u3
   rw [m2] at v3
   by_cases hlt:p.en < q.st
   · have huv:u < v:=by
      rcases Nat.lt_trichotomy u v with e | e | e
      · exact e
      · subst e
        rw [u3] at v3
        injection v3 with _ v3
        cases v3
      · have:=hs v u (by omega) e u2
        rw [u3,v3] at this
        simp only [Mk.key] at this
        simp at this
        omega
     have:=ho u v huv v2 (by rw [u3]) (by rw [v3])
     rw [u3,v3] at this
     dsimp only at this
     simp
     omega
   · simp
     omega
 · intro hp x y h1 h2 h3 h4
   obtain ⟨u,_,u2,u3⟩:=hx.of_ x (by omega) (by omega)
   obtain ⟨v,_,v2,v3⟩:=hx.of_ y (by omega) (by omega)
   obtain ⟨p,hi⟩:∃ p,c[u / 2]? = some p:=⟨_,List.getElem?_eq_getElem (by omega)⟩
   obtain ⟨q,hj⟩:∃ p,c[v / 2]? = some p:=⟨_,List.getElem?_eq_getElem (by omega)⟩
   obtain ⟨a1,a2⟩:=mkO_end l rs c _ p hi
   obtain ⟨b1,b2⟩:=mkO_end l rs c _ q hj
   have hu:u = 2 * (u / 2) + 1:=by
    by_cases e:u = 2 * (u / 2)
    · rw [e] at u3
      rw [a1] at u3
      rw [← u3] at h3
      cases h3
    · omega
   have hv:v = 2 * (v / 2):=by
    by_cases e:v = 2 * (v / 2) + 1
    · rw [e] at v3
      rw [b2] at v3
      rw [← v3] at h4
      cases h4
    · omega
   rw [hu,a2] at u3
   rw [hv,b1] at v3
   have hk:=hs x y (by omega) h1 h2
   rw [← u3,← v3] at hk ⊢
   simp only [Mk.key] at hk
   simp at hk
   have:=List.all_eq_true.1 (List.all_eq_true.1 hp p (List.mem_of_getElem? hi)) q (List.mem_of_getElem? hj)
   simp at this
   show plc l rs p < plc l rs q
   omega
end Go.Proofs.YtcjfmildalappaaGreat
namespace Go.Proofs.YtcjfmildalappaaGreat
open Go.RowKit Go.Shelf
attribute [local go_sem] Oper.semAt_some
abbrev ov (o:Oq):Value:=.agg #[.int .i64 o.cl,.string ⟨o.d.toArray⟩,.string ⟨o.r.toArray⟩,.int .i64 o.st,.int .i64 o.en]
theorem oqL_get (l:List Oq) (i j:Nat) (x:Oq) (h:l[i]? = some x) (hj:j < 5):(oqL l)[i * 5 + j]? = x.cells[j]?:=flat_get Oq.cells 5 (fun _ => rfl) l i j x h hj
theorem oqL_at {w:World} {B:Nat} {v:Value} {l:List Oq} (h:SlAt w B v 5 l.length (oqL l)) {k:Nat} {x:Oq} (hk:l[k]? = some x):
 ∃ b o c,v = .slice (some ⟨b,o,none⟩) l.length c ∧ b < B ∧ w.cell? ⟨b,o + k * 5,none⟩ = some (.int .i64 x.cl) ∧ w.cell? ⟨b,o + k * 5 + 1,none⟩ = some (.string ⟨x.d.toArray⟩) ∧ w.cell? ⟨b,o + k * 5 + 2,none⟩ = some (.string ⟨x.r.toArray⟩) ∧ w.cell? ⟨b,o + k * 5 + 3,none⟩ = some (.int .i64 x.st) ∧ w.cell? ⟨b,o + k * 5 + 4,none⟩ = some (.int .i64 x.en):=by
 have hlt:k < l.length:=(List.getElem?_eq_some_iff.1 hk).1
 obtain ⟨b,o,c,hv,hb,hc⟩:=h.at_ (by omega)
 exact ⟨b,o,c,hv,hb,hc (k * 5 + 0) _ (oqL_get l k 0 x hk (by omega)),hc (k * 5 + 1) _ (oqL_get l k 1 x hk (by omega)),hc (k * 5 + 2) _ (oqL_get l k 2 x hk (by omega)),hc (k * 5 + 3) _ (oqL_get l k 3 x hk (by omega)),hc (k * 5 + 4) _ (oqL_get l k 4 x hk (by omega))⟩
theorem Only.grown0 {w w':World} (h:Only [] w w'):w.grownBy w' none:=⟨h.os,h.tape,h.output,h.size,fun k hk _ => h.block k hk (by simp)⟩
def cntK (l:List Oq) (k:Nat):List Oq:=(l.take k).filter cntO
theorem cntK_len (l:List Oq) (k:Nat):(cntK l k).length ≤ k:=by
 unfold cntK
 exact Nat.le_trans (List.length_filter_le _ _) (by rw [List.length_take];omega)
theorem cntK_hit {l:List Oq} {k:Nat} {x:Oq} (h:l[k]? = some x) (hc:cntO x = true):cntK l (k + 1) = cntK l k ++ [x]:=by
 unfold cntK
 rw [List.take_add_one,h,List.filter_append]
 simp [hc]
theorem cntK_miss {l:List Oq} {k:Nat} {x:Oq} (h:l[k]? = some x) (hc:cntO x = false):cntK l (k + 1) = cntK l k:=by
 unfold cntK
 rw [List.take_add_one,h,List.filter_append]
 simp [hc]
theorem ended1 (n l Bs n₀:Nat) (v:Value) (zs:List Oq) (hreach:zs.length ≤ 1000000) (J Jx:List Oq → World → Prop) (W:World) (hn₀:n₀ ≤ W.heap.size)
 (hJ:∀ s A B,J s A → Only [] A B → J s B)
 (hY:∀ pre x W,J pre W → pre.length < zs.length → YieldAt Fence.wide (n + 3 - 1) Tryz.prog l #[ov x] W fun e W' =>
  (e = .returned (.bool true) ∧ J (pre ++ [x]) W' ∧ Below n₀ W W') ∨ (e = .returned (.bool false) ∧ Jx (pre ++ [x]) W'))
 (hBs:W.cell? ⟨Bs,0,none⟩ = some v) (hI:SlAt W n₀ v 5 zs.length (oqL zs)) (h0:J [] W):
 CallsIn Fence.wide (n + 3) Tryz.prog 188 #[.func (.yield l) #[] #[],.pointer (some ⟨Bs,0,none⟩)] W fun e W' => (∃ v,e = .returned v) ∧
  ((∃ ys,ys = zs.filter cntO ∧ J ys W') ∨ (∃ pre,pre <+: zs.filter cntO ∧ Jx pre W')):=by
 have HI:=Hd hI
 have CA:=Hd (fun s w h => (callsIn_wide (n:=n + 3 - 1)).2 (cmd_toAnswer s w h))
 obtain ⟨A,cap,rfl⟩:=hI.shape
 clear hI
 refine callsIn_of_wp Tryz.func188 rfl trivial ?_ rfl
 simp only [Tryz.ntmps188,List.size_toArray,List.length_cons,List.length_nil,Nat.reduceAdd,Nat.reduceSub,Array.replicate_succ,Array.replicate_zero,List.push_toArray,List.append_toArray,List.nil_append,List.cons_append]
 gi_wp2
 gi_loopw [9] (fun i wr => ∃ k:Nat,k ≤ zs.length ∧ i = .int .i64 k ∧ J (cntK zs k) wr ∧ Below n₀ W wr)
  (fun i _ => zs.length - (intOf i).toNat)
 case atStart => exact ⟨0,Nat.zero_le _,rfl,h0,Below.refl _ _⟩
 case round =>
  obtain ⟨k,hk,rfl,hJs,hnx⟩:=hrel
  by_cases hlt:k < zs.length
  · obtain ⟨x,hx⟩:∃ x,zs[k]? = some x:=⟨_,List.getElem?_eq_getElem hlt⟩
    have hxr:=x.hr
    obtain ⟨b,o,c,hv,hb,q0,q1,q2,q3,q4⟩:=oqL_at HI.out hx
    injection hv with e1 e2 e3
    subst e1;subst e3
    have hcl:∀ j u,W.cell? ⟨b,j,none⟩ = some u → wr.cell? ⟨b,j,none⟩ = some u:=fun j u h => (hnx.cell (p:=⟨b,j,none⟩) hb).trans h
    have p0:=hcl _ _ q0
    have p1:=hcl _ _ q1
    have p2:=hcl _ _ q2
    have p3:=hcl _ _ q3
    have p4:=hcl _ _ q4
    clear hcl q0 q1 q2 q3 q4 e2
    have HXK:=Hd (fun h => cntK_hit hx h)
    have HXM:=Hd (fun h => cntK_miss hx h)
    have HLN:=Hd (Nat.lt_of_le_of_lt (cntK_len zs k) hlt)
    have HCN:Hid (cntO x = (decide (0 ≤ x.en) && ((((unA x.r).getD Rp.zero).er != 17) && (((unA x.r).getD Rp.zero).er != 18)))):=Hd rfl
    gi_wp2
    obtain ⟨w0,hw0⟩:∃ u,wr.alloc (.cells #[.int .i64 x.cl,.string ⟨x.d.toArray⟩,.string ⟨x.r.toArray⟩,.int .i64 x.st,.int .i64 x.en] 88) = u:=⟨_,rfl⟩
    obtain ⟨z,hz⟩:∃ z,wr.heap.size = z:=⟨_,rfl⟩
    have HZ:Hid (Cells w0 z 88 [.int .i64 x.cl,.string ⟨x.d.toArray⟩,.string ⟨x.r.toArray⟩,.int .i64 x.st,.int .i64 x.en]):=Hd (hw0 ▸ hz ▸ Cells.new wr _ _)
    have HO0:Hid (Only [] wr w0):=Hd (hw0 ▸ oz.alloc _)
    rw [hw0]
    clear p0 p1 p2 p3 p4
    refine ⟨trivial,?_⟩
    refine (CA.out x.r w0 hxr).mono ?_
    rintro e w1 ⟨pv,rfl,hrp,ho1,_⟩
    obtain ⟨PA,pc,rfl⟩:=hrp.ps.shape
    obtain ⟨r,hr⟩:∃ r,(unA x.r).getD Rp.zero = r:=⟨_,rfl⟩
    rw [hr] at HCN ⊢
    obtain ⟨ec,hec⟩:∃ ec:Int,(if (unA x.r).isSome = true then 0 else 8) = ec:=⟨_,rfl⟩
    rw [hec]
    unfold Rp.val
    have HZ1:=Hd (HZ.out.only ho1 (by simp))
    have HO1:=Hd (HO0.out.tr ho1)
    clear hrp ho1 hr hec HZ HO0
    have c4:=HZ1.out.cell (k:=4) rfl
    have hlt1:=HZ1.out.lt
    obtain ⟨b1,hb1⟩:∃ q,decide (0 ≤ x.en) = q:=⟨_,rfl⟩
    obtain ⟨b2,hb2⟩:∃ q,(r.er != 17) = q:=⟨_,rfl⟩
    obtain ⟨b3,hb3⟩:∃ q,(r.er != 18) = q:=⟨_,rfl⟩
    rw [hb1,hb2,hb3] at HCN
    have O2:Only [] wr (w1.alloc (.cells #[.int .i64 r.er,.int .i64 r.n,.slice PA r.ps.length pc] 34)):=HO1.out.alloc _
    have HJ2:=Hd (hJ _ _ _ hJs O2)
    have HB2:=Hd (hnx.trans (O2.below.mono (Nat.le_trans hn₀ hnx.size)))
    clear O2 HO1 hJs
    cases b1 with
    | false =>
     gi_wp2
     (try refine ⟨fun _ h => (by cases h),?_⟩)
     gi_wp2
     go_roundw
     case rel => exact ⟨k + 1,by omega,by simp,by rw [HXM.out (by rw [HCN.out];rfl)];exact HJ2.out,HB2.out⟩
     case measure => simp [intOf];omega
    | true =>
    cases b2 with
    | false =>
     gi_wp2
     (try refine ⟨fun _ h => (by cases h),?_⟩)
     gi_wp2
     go_roundw
     case rel => exact ⟨k + 1,by omega,by simp,by rw [HXM.out (by rw [HCN.out];rfl)];exact HJ2.out,HB2.out⟩
     case measure => simp [intOf];omega
    | true =>
    cases b3 with
    | false =>
     gi_wp2
     (try refine ⟨fun _ h => (by cases h),?_⟩)
     gi_wp2
     go_roundw
     case rel => exact ⟨k + 1,by omega,by simp,by rw [HXM.out (by rw [HCN.out];rfl)];exact HJ2.out,HB2.out⟩
     case measure => simp [intOf];omega
    | true =>
     obtain ⟨fn,tmps,assign,body,hy,hR⟩:=hY _ x _ HJ2.out HLN.out
     have HK:=Hd (HXK.out (by rw [HCN.out];rfl))
     have c0:=HZ1.out.cell (k:=0) rfl
     have c1:=HZ1.out.cell (k:=1) rfl
     have c2:=HZ1.out.cell (k:=2) rfl
     have c3:=HZ1.out.cell (k:=3) rfl
     gi_wp2
     refine RoundIn.mono (show RoundIn Fence.wide (n + 2) _ _ _ _ _ _ _ _ from hR) ?_
     rintro e W3 (⟨rfl,hJ3,hk3⟩ | ⟨rfl,hJx3⟩)
     · gi_wp2
       go_roundw
       case rel => exact ⟨k + 1,by omega,by simp,by rw [HK.out];exact hJ3,HB2.out.trans hk3⟩
       case measure => simp [intOf];omega
     · gi_wp2
       refine bodyPost_ret (results_none rfl _ _ _) rfl ?_
       refine ⟨⟨_,rfl⟩,.inr ⟨_,?_,hJx3⟩⟩
       rw [← HK.out]
       unfold cntK
       exact List.IsPrefix.filter _ (List.take_prefix _ _)
  · obtain rfl:k = zs.length:=by omega
    have e:cntK zs zs.length = zs.filter cntO:=by unfold cntK;rw [List.take_length]
    rw [e] at hJs
    gi_wp2
    go_end0
    exact ⟨⟨_,rfl⟩,.inl ⟨_,rfl,hJs⟩⟩
end Go.Proofs.YtcjfmildalappaaGreat
namespace Go.Proofs.YtcjfmildalappaaGreat
open Go.RowKit
theorem apA_step {n:Nat} {a:AgS} (h:AgI n a) (hn:n ≤ 1000000000) (s:List UInt8):AgI (n + 1) (apA s a).2 ∧ ∃ r,RpK r ∧ (apA s a).1 = rpb r:=by
 unfold apA
 cases hu:unC s with
 | none => exact ⟨h.mono (by omega),errR 8,RpK.err 8 (by omega),rfl⟩
 | some c =>
  have hr:=unC_right hu
  obtain ⟨k1,k2,_,k4⟩:=rightB_iff.1 hr
  have:=doA_step h hn c (numB_wide k1 _ (by simp [Cm.n7])) (by have:=(right_its hr).1;omega)
  exact ⟨this.1,_,this.2,rfl⟩
theorem stepE_step {n:Nat} {a:AgS} (h:AgI n a) (hn:n ≤ 1000000000) (x:Ey):AgI (n + 1) (stepE a x).2 ∧ ((stepE a x).1 = [] ∨ ∃ r,RpK r ∧ (stepE a x).1 = rpb r):=by
 unfold stepE
 split
 · exact ⟨(apA_step h hn x.d).1,.inr (apA_step h hn x.d).2⟩
 · exact ⟨h.mono (by omega),.inl rfl⟩
theorem repE_k (l:List Ey):∀ (n:Nat) (a:AgS),AgI n a → n + l.length ≤ 1000000000 → ∀ y ∈ repE a l,y = [] ∨ ∃ r,RpK r ∧ y = rpb r:=by
 induction l with
 | nil => intro n a _ _ y hy;cases hy
 | cons x l ih =>
  intro n a h hn y hy
  rw [List.length_cons] at hn
  obtain ⟨h1,h2⟩:=stepE_step h (by omega) x
  unfold repE at hy
  rcases List.mem_cons.1 hy with rfl | hy
  · exact h2
  · exact ih (n + 1) _ h1 (by omega) y hy
theorem repE_new {l:List Ey} (h:l.length ≤ 1000):∀ y ∈ repE AgS.new l,y = [] ∨ ∃ r,RpK r ∧ y = rpb r:=repE_k l 0 AgS.new AgI.new (by omega)
theorem repE_le {l:List Ey} (h:l.length ≤ 1000):∀ y ∈ repE AgS.new l,y.length ≤ 100000:=fun y hy => by
 rcases repE_new h y hy with rfl | ⟨r,hr,rfl⟩
 · simp
 · exact hr.le
theorem unA_k {r:Rp} (h:RpK r):unA (rpb r) = some r:=(unA_iff _ (by have:=h.le;omega) r).2 ⟨h.ok,rfl⟩
end Go.Proofs.YtcjfmildalappaaGreat
namespace Go.Proofs.YtcjfmildalappaaGreat
open Go.RowKit Go.Shelf
attribute [local go_sem] Oper.semAt_some
theorem hi_ended (n:Nat) (a:Option Addr) (len cap:Nat) (w:World):
 CallsIn Fence.wide n Tryz.prog 112 #[.slice a len cap] w fun e w' => e = .returned (.func (.func 188) #[] #[.pointer (some ⟨w.heap.size,0,none⟩)]) ∧ w' = w.alloc (.cells #[.slice a len cap] 84):=by
 refine callsIn_of_wp Tryz.func112 rfl trivial ?_ rfl
 simp only [Tryz.ntmps112,List.size_toArray,List.length_cons,List.length_nil,Nat.reduceAdd,Nat.reduceSub,Array.replicate_succ,Array.replicate_zero,List.push_toArray,List.append_toArray,List.nil_append,List.cons_append]
 gi_wp2
 go_ret
 exact ⟨rfl,rfl⟩
theorem ended_stops (n Bs n₀:Nat) (v:Value) (zs:List Oq) (hreach:zs.length ≤ 1000000) (w:World) (hBs:Bs < w.heap.size) (hn₀:n₀ ≤ w.heap.size)
 (hc:w.cell? ⟨Bs,0,none⟩ = some v) (hI:SlAt w n₀ v 5 zs.length (oqL zs)):
 SeqStopsK Fence.wide (n + 3) Tryz.prog 188 #[.pointer (some ⟨Bs,0,none⟩)] (fun x:Oq => #[ov x]) (Below n₀) (fun ys => ys = zs.filter cntO) (fun pre => pre <+: zs.filter cntO) zs.length w:=fun l J Jx W hW hJ _ hY h0 =>
 ended1 n l Bs n₀ v zs hreach J Jx W (Nat.le_trans hn₀ hW.size) (fun s A B hs ho => hJ s A B none hs ho.grown0 (fun r h => by cases h)) hY ((hW.cell (p:=⟨Bs,0,none⟩) hBs).trans hc) (hI.only (S:=[]) (Only.of_below hW) hn₀ (by simp)) h0
theorem Cells.abide {W W':World} {row:Option Nat} {b:Nat} {t:TypeId} {cs:List Value} (h:Cells W b t cs) (hg:W.grownBy W' row) (hr:∀ r,row = some r → ∃ o:Obj,W.heap[r]? = some o ∧ o.isCells = false):Cells W' b t cs:=by
 refine (hg.block b h.lt (fun e => ?_)).trans h
 obtain ⟨o,ho,hc⟩:=hr b e.symm
 have h2:W.heap[b]? = _:=h
 rw [h2] at ho
 cases ho
 cases hc
theorem own_abide {W W':World} {row:Option Nat} {B:Nat} {e:TypeId} {sz n:Nat} {v:Value} {xs:List Value} (h:W.ownsRow B e sz v n xs) (hg:W.grownBy W' row) (hr:∀ r,row = some r → ∃ o:Obj,W.heap[r]? = some o ∧ o.isCells = false):W'.ownsRow B e sz v n xs:=by
 refine ⟨h.1,h.2.imp id ?_⟩
 rintro ⟨g,cap,cur,hv,hb,hc,rest⟩
 refine ⟨g,cap,cur,hv,hb,(hg.block g (Array.getElem?_eq_some_iff.1 hc).1 (fun e => ?_)).trans hc,rest⟩
 obtain ⟨o,ho,hcc⟩:=hr g e.symm
 rw [hc] at ho
 cases ho
 cases hcc
theorem Only.abide {w0 W W':World} {row:Option Nat} {B:Nat} (h:Only [] w0 W) (hB:w0.heap.size ≤ B) (hg:W.grownBy W' row) (hr:∀ r,row = some r → B ≤ r ∧ ∃ o:Obj,W.heap[r]? = some o ∧ o.isCells = false):Only [] w0 W':=
 h.grown hg (fun g e => .inr (Nat.le_trans hB (hr g e).1))
structure FitI (w2:World) (P M:Nat) (rv:Value) (l:List Ey) (rs:List (List UInt8)) (pre:List Oq) (W:World):Prop where
 ho:Only [] w2 W
 p:Cells W P 42 [rv]
 m:∃ mv,Cells W M 164 [mv] ∧ W.ownsRow w2.heap.size 169 3 mv (2 * pre.length) (mkF (mkO l rs pre) (2 * pre.length))
 ok:pre.all (okP l rs) = true
theorem FitI.own (w2:World) (P M:Nat) (rv:Value) (l:List Ey) (rs:List (List UInt8)) (B:Nat) (hB:w2.heap.size ≤ B):OwnFrom B (FitI w2 P M rv l rs):=fun s W W' row h hg hr =>
 have hr':∀ r,row = some r → ∃ o:Obj,W.heap[r]? = some o ∧ o.isCells = false:=fun r e => (hr r e).2
 ⟨h.ho.abide hB hg hr,h.p.abide hg hr',by obtain ⟨mv,h1,h2⟩:=h.m;exact ⟨mv,h1.abide hg hr',own_abide h2 hg hr'⟩,h.ok⟩
structure FitX (w:World) (Z:Nat) (l:List Ey) (rs:List (List UInt8)) (pre:List Oq) (W:World):Prop where
 ho:Only [] w W
 z:Cells W Z 4 [.bool false]
 no:pre.all (okP l rs) = false
theorem FitX.own (w:World) (Z:Nat) (l:List Ey) (rs:List (List UInt8)) (B:Nat) (hB:w.heap.size ≤ B):OwnFrom B (FitX w Z l rs):=fun s W W' row h hg hr =>
 ⟨h.ho.abide hB hg hr,h.z.abide hg (fun r e => (hr r e).2),h.no⟩
theorem info_mark23:(Tryz.prog.info? 169).map (fun i => (i.zero,i.size,i.bytes)) = some (some (.agg #[.int .i64 0,.bool false,.int .i64 0]),3,24):=by kernel_rfl
theorem fndQ_rng (d r:List UInt8):∀ (l:List Ey) (rs:List (List UInt8)) (n:Nat),fndQ d r l rs n = -1 ∨ ∃ (j:Nat) (y:List UInt8),fndQ d r l rs n = ((n + j:Nat):Int) ∧ rs[j]? = some y:=by
 intro l
 induction l with
 | nil => intro rs n;exact .inl rfl
 | cons x l ih =>
  intro rs n
  cases rs with
  | nil => exact .inl rfl
  | cons y rs =>
   unfold fndQ
   split
   · exact .inr ⟨0,y,rfl,rfl⟩
   · rcases ih rs (n + 1) with e | ⟨j,z,e,hz⟩
     · exact .inl e
     · exact .inr ⟨j + 1,z,by rw [e];congr 1;omega,hz⟩
theorem plc_rng (l:List Ey) (rs:List (List UInt8)) (o:Oq):plc l rs o = -1 ∨ ∃ (j:Nat) (y:List UInt8),plc l rs o = (j:Int) ∧ rs[j]? = some y:=by
 rcases fndQ_rng o.d o.r l rs 0 with e | ⟨j,y,e,hy⟩
 · exact .inl e
 · exact .inr ⟨j,y,by rw [show plc l rs o = _ from e];congr 1;omega,hy⟩
theorem Only.keepsFrom {S:List Nat} {W W':World} (B:Nat) (h:Only S W W') (hS:∀ x ∈ S,∀ o,W.heap[x]? = some o → o.isCells = true):KeepsFrom B W W':=
 ⟨h.size,fun k o _ hk ho => (h.block k (Array.getElem?_eq_some_iff.1 hk).1 (fun hm => by rw [hS k hm o hk] at ho;cases ho)).trans hk⟩
theorem Only.belowN {S:List Nat} {W W':World} {n:Nat} (h:Only S W W') (hn:n ≤ W.heap.size) (hS:∀ x ∈ S,n ≤ x):Below n W W':=
 ⟨h.os,h.tape,h.output,h.size,fun k hk => h.block k (by omega) (fun hm => by have:=hS k hm;omega)⟩
theorem Cells.isC {W:World} {b:Nat} {t:TypeId} {cs:List Value} (h:Cells W b t cs):∀ o,W.heap[b]? = some o → o.isCells = true:=fun o ho => by
 have h2:W.heap[b]? = _:=h
 rw [h2] at ho
 cases ho
 rfl
theorem own_isC {W:World} {B:Nat} {e:TypeId} {sz n:Nat} {v:Value} {xs:List Value} (h:W.ownsRow B e sz v n xs):∀ x ∈ rb v,∀ o,W.heap[x]? = some o → o.isCells = true:=fun x hx o ho => by
 rcases h.2 with ⟨rfl,_⟩ | ⟨g,cap,cur,rfl,_,hc,_⟩
 · simp [rb,Value.ownBlock] at hx
 · have hxg:x = g:=by simpa [rb,Value.ownBlock,eq_comm] using hx
   subst hxg
   rw [hc] at ho
   cases ho
   rfl
theorem own_some {W:World} {B:Nat} {e:TypeId} {sz n:Nat} {v:Value} {xs:List Value} (h:W.ownsRow B e sz v n xs) (hn:0 < n):∃ g c,v = .slice (some ⟨g,0,none⟩) n c:=by
 rcases h.2 with ⟨_,h⟩ | ⟨g,c,_,h,_⟩
 · omega
 · exact ⟨g,c,h⟩
theorem mkS_at {w:World} {B n:Nat} {v:Value} {f:Nat → Mk} (h:SlAt w B v 3 n (mkF f n)) {k:Nat} (hk:k < n):
 ∃ b o c,v = .slice (some ⟨b,o,none⟩) n c ∧ w.cell? ⟨b,o + k * 3,none⟩ = some (.int .i64 (f k).tm) ∧ w.cell? ⟨b,o + k * 3 + 1,none⟩ = some (.bool (f k).st) ∧ w.cell? ⟨b,o + k * 3 + 2,none⟩ = some (.int .i64 (f k).pl):=by
 obtain ⟨b,o,c,hv,_,hc⟩:=h.at_ (by omega)
 exact ⟨b,o,c,hv,hc (k * 3 + 0) _ (mkF_get f n k 0 hk (by omega)),hc (k * 3 + 1) _ (mkF_get f n k 1 hk (by omega)),hc (k * 3 + 2) _ (mkF_get f n k 2 hk (by omega))⟩
theorem sort_row (n:Nat) (hs:SortOk n) (B:Nat) (v:Value) (f:Nat → Mk) (W:World) (h:W.ownsRow B 169 3 v n (mkF f n)):
 Calls Tryz.prog 113 #[v,.func (.func 114) #[] #[]] W fun e w' => e = .returned (.tuple #[]) ∧ Only (rb v) W w' ∧
  ∃ f',Ex 0 n f f' ∧ Srt f' 0 n ∧ SlAt w' w'.heap.size v 3 n (mkF f' n):=by
 rcases h.2 with ⟨rfl,rfl⟩ | ⟨g,cap,cur,rfl,hB,hc,h1,h2,h3,h4⟩
 · refine (sort_nil W).mono ?_
   rintro e w' ⟨rfl,rfl⟩
   exact ⟨rfl,Only.refl _ _,f,Ex.refl _ _ _,fun x y h1 h2 h3 => by omega,SlAt.of_own h⟩
 · have hl:=mkF_length f n
   have e:cur.toList = mkF f n ++ cur.toList.drop (n * 3):=by rw [← h4,List.take_append_drop]
   obtain ⟨sp,hsp⟩:∃ sp,cur.toList.drop (n * 3) = sp:=⟨_,rfl⟩
   rw [hsp] at e
   have hC:MkR W g n f sp:=⟨by show W.heap[g]? = _;rw [hc,← e]⟩
   refine (hs g cap f sp W hC).mono ?_
   rintro e' w' ⟨rfl,ho,f',hx,hs',hr⟩
   refine ⟨rfl,ho.mono (fun x hx => .inl (by simp [rb,Value.ownBlock] at hx ⊢;exact hx)),f',hx,hs',?_⟩
   have hl':=mkF_length f' n
   have hls:(mkF f n ++ sp).length = cap * 3:=by rw [← e];simpa using h3
   refine SlAt.of_own (base:=B) (e:=169) ⟨hl',.inr ⟨g,cap,(mkF f' n ++ sp).toArray,rfl,hB,hr.c,h1,h2,?_,?_⟩⟩
   · rw [List.length_append] at hls
     simp only [List.size_toArray,List.length_append]
     omega
   · rw [show ((mkF f' n ++ sp).toArray).toList = mkF f' n ++ sp from rfl,← hl',List.take_left]
theorem hi_fits (v lv:Value) (l:List Ey) (os:List Oq) (w:World) (hs:SlAt w w.heap.size v 4 l.length (eyL l)) (hk:EyOk l) (ho:SlAt w w.heap.size lv 5 os.length (oqL os)) (hn:os.length ≤ 80)
 (hsort:SortOk (2 * (os.filter cntO).length)):
 Calls Tryz.prog 54 #[v,lv] w fun e w' => e = .returned (.bool (fitP l (repE AgS.new l) os)) ∧ Only [] w w':=by
 refine (callsIn_wide (n:=9)).1 ?_
 obtain ⟨i0,hi0,hz0,hz1,hz2⟩:=info_parts info_mark23
 obtain ⟨LA,lc,rfl⟩:=hs.shape
 obtain ⟨OA,oc,rfl⟩:=ho.shape
 have HS:=Hd hs
 have HOS:=Hd ho
 have HSORT:=Hd hsort
 have CR:=Hd (fun w' (ho:Only [] w w') => (callsIn_wide (n:=8)).2 (hi_replies (.slice LA l.length lc) l w' ((hs.only ho (Nat.le_refl _) (by simp)).more ho.size) hk))
 have hkn:=hk.n
 have hrl:=repE_length l AgS.new
 obtain ⟨rs,hrs⟩:∃ r,repE AgS.new l = r:=⟨_,rfl⟩
 rw [hrs] at CR hrl ⊢
 clear hs ho hsort hk hrs
 refine callsIn_of_wp_marks Tryz.func54 rfl trivial ?_ rfl
 simp only [Tryz.ntmps54,List.size_toArray,List.length_cons,List.length_nil,Nat.reduceAdd,Nat.reduceSub,Array.replicate_succ,Array.replicate_zero,List.push_toArray,List.append_toArray,List.nil_append,List.cons_append]
 gi_wp2
 obtain ⟨wA,hwA⟩:∃ u,(w.alloc (.cells #[.slice LA l.length lc] 67)).alloc (.cells #[.bool false] 4) = u:=⟨_,rfl⟩
 have HOA:Hid (Only [] w wA):=Hd (hwA ▸ (oz.alloc _).alloc _)
 have HRA:Hid (Cells wA w.heap.size 67 [.slice LA l.length lc]):=Hd (hwA ▸ (Cells.new w _ [_]).alloc _)
 have HZA:Hid (Cells wA (w.heap.size + 1) 4 [.bool false]):=Hd (by
  have:=Cells.new (w.alloc (.cells #[.slice LA l.length lc] 67)) 4 [.bool false]
  rw [World.size_alloc] at this
  rw [← hwA]
  exact this)
 obtain ⟨R,hR⟩:∃ z,w.heap.size = z:=⟨_,rfl⟩
 have hRs:w.heap.size ≤ R:=by omega
 rw [hwA]
 rw [hR] at HRA HZA ⊢
 refine ⟨trivial,?_⟩
 refine (CR.out wA HOA.out).mono ?_
 rintro e w2 ⟨rv,rfl,hrv,ho2⟩
 have HRV:=Hd (SlAt.of_own hrv)
 obtain ⟨RA,rc,rfl⟩:=(SlAt.of_own hrv).shape
 have HO2:=Hd (HOA.out.tr ho2)
 have HR2:=Hd (HRA.out.only ho2 (by simp))
 have HZ2:=Hd (HZA.out.only ho2 (by simp))
 clear hrv ho2 hwA HOA HRA HZA CR
 gi_wp2
 refine ⟨trivial,?_⟩
 refine (hi_ended _ _ _ _ _).mono ?_
 rintro e w' ⟨rfl,rfl⟩
 obtain ⟨P,hP⟩:∃ z,w2.heap.size = z:=⟨_,rfl⟩
 have hPs:w2.heap.size ≤ P:=by omega
 obtain ⟨w3,hw3⟩:∃ u,((w2.alloc (.cells #[.slice RA l.length rc] 42)).alloc (.cells #[.slice none 0 0] 164)).alloc (.cells #[.slice OA os.length oc] 84) = u:=⟨_,rfl⟩
 have hE:((w2.alloc (.cells #[.slice RA l.length rc] 42)).alloc (.cells #[.slice none 0 0] 164)).heap.size = P + 2:=by rw [World.size_alloc,World.size_alloc,hP]
 rw [hE,hw3,hP]
 gi_wp2
 have HO3:Hid (Only [] w2 w3):=Hd (hw3 ▸ ((oz.alloc _).alloc _).alloc _)
 have HP3:Hid (Cells w3 P 42 [.slice RA l.length rc]):=Hd (hw3 ▸ hP ▸ ((Cells.new w2 _ [_]).alloc _).alloc _)
 have HM3:Hid (Cells w3 (P + 1) 164 [.slice none 0 0]):=Hd (by
  have:=(Cells.new (w2.alloc (.cells #[.slice RA l.length rc] 42)) 164 [.slice none 0 0]).alloc (.cells #[.slice OA os.length oc] 84)
  rw [World.size_alloc,hP] at this
  rw [← hw3]
  exact this)
 have HE3:Hid (w3.cell? ⟨P + 2,0,none⟩ = some (.slice OA os.length oc)):=Hd (by
  have:=(Cells.new ((w2.alloc (.cells #[.slice RA l.length rc] 42)).alloc (.cells #[.slice none 0 0] 164)) 84 [.slice OA os.length oc]).cell (k:=0) rfl
  rw [World.size_alloc,World.size_alloc,hP] at this
  rw [← hw3]
  exact this)
 have hs3:w3.heap.size = P + 3:=by rw [← hw3,World.size_alloc,World.size_alloc,World.size_alloc,hP]
 have hP2:w2.heap.size = P:=hP
 have hR2:R + 2 ≤ w2.heap.size:=HZ2.out.lt
 clear hE hw3 hPs hP
 refine wpIn_rangeFunc_ownH rfl (by omega) (gf:=188) (lb:=#[.pointer (some ⟨P + 2,0,none⟩)]) rfl trivial (enters_of Tryz.func188 (by kernel_rfl) rfl)
  (ended_stops 5 (P + 2) R _ os (by omega) w3 (by omega) (by omega) HE3.out (hR ▸ HOS.out.only (HO2.out.tr HO3.out) (Nat.le_refl _) (by simp)))
  belowK_t (belowK_b (by omega)) (Below.refl _ _) (fun _ => rfl)
  (FitI w2 P (P + 1) (.slice RA l.length rc) l rs) (fun c pre W => c = .ret ∧ FitX w (R + 1) l rs pre W)
  (FitI.own _ _ _ _ _ _ _ (by omega)) (fun c s W W' row h hg hr => ⟨h.1,FitX.own w (R + 1) l rs w3.heap.size (by omega) s W W' row h.2 hg hr⟩)
  ⟨HO3.out,HP3.out,⟨_,HM3.out,World.ownsRow_nil _ _ _ _⟩,rfl⟩
  (fun x a' W => ∃ b,a' = { tmps:=#[.slice LA l.length lc,.slice OA os.length oc,.pointer (some ⟨R,0,none⟩),undef,.pointer (some ⟨R + 1,0,none⟩),.pointer (some ⟨P,0,none⟩),.pointer (some ⟨P + 1,0,none⟩),.pointer (some ⟨b,0,none⟩),undef,undef,undef,undef,.slice LA l.length lc,.slice RA l.length rc,.slice OA os.length oc,.func (.func 188) #[] #[.pointer (some ⟨P + 2,0,none⟩)],ov x,undef,undef,undef,undef,undef,undef,undef,undef,undef,undef,undef,undef,undef,undef,undef,undef,undef,undef,undef,undef,undef,undef,undef,undef,undef,undef,undef,undef,undef,undef,undef,undef,undef,undef,undef,undef,undef,undef,undef,undef,undef,undef,undef,undef,undef,undef,undef,undef,undef,undef],defers:=[] } ∧ Cells W b 88 x.cells)
  (fun x a' s W W' row h hg hr => by obtain ⟨b,e,h⟩:=h;exact ⟨b,e,h.abide hg (fun r e => (hr r e).2)⟩) ?assign ?body ?done ?stop
 case assign =>
  intro l' pre x W K hi hK
  gi_wp2
  exact hK _ _ (KeepsFrom.of_grownBy (World.grownBy_alloc W _ none) (fun j h => by cases h)) ((Below.refl _ W).alloc (by have:=hi.ho.size;omega) _) ((FitI.own w2 P (P + 1) (.slice RA l.length rc) l rs w3.heap.size (by omega)).alloc _ hi) ⟨W.heap.size,rfl,Cells.new W _ _⟩
 case body =>
  rintro l' pre x a' W - - hi ⟨b,rfl,hb⟩ hlen
  have HRW:=HR2.out.only hi.ho (by simp)
  have r0:=HRW.cell (k:=0) rfl
  have r1:=hi.p.cell (k:=0) rfl
  have r2:W.cell? ⟨b,0,none⟩ = some (.int .i64 x.cl):=hb.cell (k:=0) rfl
  have r3:W.cell? ⟨b,1,none⟩ = some (.string ⟨x.d.toArray⟩):=hb.cell (k:=1) rfl
  have r4:W.cell? ⟨b,2,none⟩ = some (.string ⟨x.r.toArray⟩):=hb.cell (k:=2) rfl
  have r5:W.cell? ⟨b,3,none⟩ = some (.int .i64 x.st):=hb.cell (k:=3) rfl
  have r6:W.cell? ⟨b,4,none⟩ = some (.int .i64 x.en):=hb.cell (k:=4) rfl
  have HI:=Hd hi
  have HB:=Hd hb
  clear hi hb HRW
  have hxd:=x.hd
  have CF:=CallsIn.inRound l' ((callsIn_wide (n:=6)).2 (hi_find (.slice LA l.length lc) (.slice RA l.length rc) l rs x W
   ((HS.out.only (HO2.out.tr HI.out.ho) (Nat.le_refl _) (by simp)).more (HO2.out.tr HI.out.ho).size) (hrl ▸ ((HRV.out.only HI.out.ho (Nat.le_refl _) (by simp)).more HI.out.ho.size)) hrl hkn x.hd))
  gi_wp2
  refine ⟨trivial,?_⟩
  refine CF.mono ?_
  rintro e W1 ⟨rfl,ho1⟩
  clear CF r0 r1 r2 r3 r4 r5 r6
  have HI1:=Hd (FitI.own w2 P (P + 1) (.slice RA l.length rc) l rs w3.heap.size (by omega) pre W W1 none HI.out ho1.grown0 (fun r h => by cases h))
  have hb1:=HB.out.only ho1 (by simp)
  have HO1:=Hd ho1
  have q0:=HI1.out.p.cell (k:=0) rfl
  have q2:W1.cell? ⟨b,2,none⟩ = some (.string ⟨x.r.toArray⟩):=hb1.cell (k:=2) rfl
  have q3:W1.cell? ⟨b,3,none⟩ = some (.int .i64 x.st):=hb1.cell (k:=3) rfl
  have q4:W1.cell? ⟨b,4,none⟩ = some (.int .i64 x.en):=hb1.cell (k:=4) rfl
  rw [show fndQ x.d x.r l rs 0 = plc l rs x from rfl]
  have HOK:Hid (okP l rs x = (decide (0 ≤ plc l rs x) && decide (rs[(plc l rs x).toNat]? = some x.r))):=Hd rfl
  have HZW:=Hd ((HZ2.out.only HI1.out.ho (by simp)))
  obtain ⟨mv,hm0,hrow0⟩:=HI.out.m
  have HM0:=Hd hm0
  have HROW0:=Hd hrow0
  have HM:=Hd (hm0.only ho1 (by simp))
  have HROW:=Hd (own_keep hrow0 ho1 (by simp))
  obtain ⟨MA,mc,rfl⟩:=(SlAt.of_own hrow0).shape
  have HRET:Hid (∀ nq,okP l rs x = false → (KeepsFrom w3.heap.size W ((W1.drewN nq).setCell ⟨R + 1,0,none⟩ (.bool false)) ∧ Code.ret = Code.ret ∧ FitX w (R + 1) l rs (pre ++ [x]) ((W1.drewN nq).setCell ⟨R + 1,0,none⟩ (.bool false)))):=Hd (fun nq hno => by
   have hoW:Only [R + 1] W ((W1.drewN nq).setCell ⟨R + 1,0,none⟩ (.bool false)):=((HO1.out.of0).drewN nq).setCell (.inl (by simp)) _
   refine ⟨hoW.keepsFrom _ (fun x hx => ?_),rfl,(HO2.out.tr HI.out.ho).trans hoW (fun x hx => .inr ?_),(HZW.out.drewN nq).set 0 _,by rw [List.all_append];simp [hno]⟩
   · simp at hx
     subst hx
     exact (HZ2.out.only HI.out.ho (by simp)).isC
   · simp at hx
     omega)
  clear hm0 hrow0 ho1
  rcases plc_rng l rs x with hp | ⟨j,y,hp,hy⟩
  · rw [hp] at HOK ⊢
    have HNO:Hid (okP l rs x = false):=Hd (by rw [HOK.out];rfl)
    have z0:=HZW.out.cell (k:=0) rfl
    have zf:=HZW.out.frozen 0
    gi_wp2
    refine wpIn_region_quietR (by kernel_rfl) (by kernel_rfl) (by kernel_rfl) ?_
    repeat (gi_big_quiet_step (fail))
    refine wpQuietIn_nil ?_
    rintro _ ⟨nq,rfl⟩
    gi_wp2
    exact ⟨(HRET.out _ HNO.out).1,rfl,(HRET.out _ HNO.out).2.2⟩
  · have hjn:j < l.length:=by have:=(List.getElem?_eq_some_iff.1 hy).1;omega
    have hji:(j:Int) < (l.length:Int):=by omega
    obtain ⟨b2,o2,c2,hv2,s0⟩:=svs_at23 (hrl ▸ (HRV.out.only HI1.out.ho (Nat.le_refl _) (by simp))) hy
    injection hv2 with e1 e2 e3
    subst e1
    clear e2 e3
    have hj0:decide ((j:Int) < 0) = false:=by simp
    rw [hp] at HOK ⊢
    by_cases hyr:y = x.r
    · have hb:(y == x.r) = true:=by simp [hyr]
      have HYES:Hid (okP l rs x = true):=Hd (by rw [HOK.out];simp [hy,hyr])
      have m0:=HM.out.cell (k:=0) rfl
      have mf:=HM.out.frozen 0
      have hple:=Nat.le_trans HI1.out.ho.size (Nat.le_refl _)
      have hpl:pre.length < 80:=by omega
      have HNE:=Hd (own_ne_block HROW.out HM.out (by decide))
      clear HRET HZW
      gi_wp2
      refine wpIn_region_quietR (by kernel_rfl) (by kernel_rfl) (by kernel_rfl) ?_
      repeat (gi_big_quiet_step (fail))
      refine wpQuietIn_nil ?_
      rintro _ ⟨nq,rfl⟩
      have HNEWS:Hid (∀ j' u,([.int .i64 x.st,.bool true,.int .i64 (j:Int),.int .i64 x.en,.bool false,.int .i64 (j:Int)]:List Value)[j']? = some u → ((W1.drewN nq).alloc (.cells #[.int .i64 x.st,.bool true,.int .i64 (j:Int),.int .i64 x.en,.bool false,.int .i64 (j:Int)] 169)).cell? ((⟨W1.heap.size,0,none⟩:Addr).add j') = some u):=Hd (fun j' u h => by
       have:=(Cells.new (W1.drewN nq) 169 [.int .i64 x.st,.bool true,.int .i64 (j:Int),.int .i64 x.en,.bool false,.int .i64 (j:Int)]).cell h
       rw [Addr.add_lit,Nat.zero_add]
       exact this)
      have HOWN5:Hid (((W1.drewN nq).alloc (.cells #[.int .i64 x.st,.bool true,.int .i64 (j:Int),.int .i64 x.en,.bool false,.int .i64 (j:Int)] 169)).ownsRow w2.heap.size 169 3 (.slice MA (2 * pre.length) mc) (2 * pre.length) (mkF (mkO l rs pre) (2 * pre.length))):=Hd (own_keep HROW.out (((Only.refl [] W1).drewN nq).alloc _) (by simp))
      have hb5:w2.heap.size ≤ ((W1.drewN nq).alloc (.cells #[.int .i64 x.st,.bool true,.int .i64 (j:Int),.int .i64 x.en,.bool false,.int .i64 (j:Int)] 169)).heap.size:=by rw [World.size_alloc];exact Nat.le_succ_of_le hple
      have hb3:2 * pre.length + 2 ≤ maxLen:=by unfold maxLen;omega
      have hone:∀ u ∈ ([.int .i64 x.st,.bool true,.int .i64 (j:Int),.int .i64 x.en,.bool false,.int .i64 (j:Int)]:List Value),u.oneCell' = true:=by simp [Value.oneCell']
      gi_wp2_with (gi_at_builtin;refine wpListIn_append_own _ rfl _ _ 164 rfl w2.heap.size 169 i0 _ 3 24 Tryz.underlying164 hi0 hz0 hz1 hz2 rfl (by decide) _ _ _ rfl HOWN5.out ⟨W1.heap.size,0,none⟩ 2 2 [.int .i64 x.st,.bool true,.int .i64 (j:Int),.int .i64 x.en,.bool false,.int .i64 (j:Int)] rfl rfl HNEWS.out hone hb3 (by omega) hb5 ?_;intro v' w6 hown' hgrow _;obtain ⟨g6,c6,rfl⟩:∃ g c,v' = .slice (some ⟨g,0,none⟩) (2 * pre.length + 2) c:=own_some hown' (by omega);have M6:=Hd (((HM.out.drewN nq).alloc _).grown hgrow HNE.out);have m6:=M6.out.cell (k:=0) rfl;have f6:=M6.out.frozen 0)
      have hoW:Only ((P + 1) :: rb (.slice MA (2 * pre.length) mc)) W (w6.setCell ⟨P + 1,0,none⟩ (.slice (some ⟨g6,0,none⟩) (2 * pre.length + 2) c6)):=((((HO1.out.of0.drewN nq).alloc _).grown hgrow (fun g e => .inl (List.mem_cons_of_mem _ (by have e2:(Value.slice MA (2 * pre.length) mc).ownBlock = some g:=e;unfold rb;rw [e2];simp))))).setCell (.inl (by simp)) _
      have hlo:∀ x ∈ (P + 1) :: rb (.slice MA (2 * pre.length) mc),w2.heap.size ≤ x:=fun x hx => by
       rcases List.mem_cons.1 hx with rfl | hx
       · omega
       · exact (HROW.out.lt x (by simpa [rb] using hx)).1
      have hWs:=HI.out.ho.size
      refine ⟨hoW.keepsFrom _ (fun x hx => ?_),hoW.belowN (by omega) (fun x hx => by have:=hlo x hx;omega),HI.out.ho.trans hoW (fun x hx => .inr (hlo x hx)),HI.out.p.only hoW (fun hm => ?_),⟨_,M6.out.set 0 _,?_⟩,by rw [List.all_append,HI.out.ok];simp [HYES.out]⟩
      · rcases List.mem_cons.1 hx with rfl | hx
        · exact HM0.out.isC
        · exact own_isC HROW0.out x hx
      · rcases List.mem_cons.1 hm with e | hm
        · omega
        · exact own_ne_block HROW0.out HI.out.p (by decide) (by simpa [rb] using hm)
      · have hsn:=mkO_snoc l rs pre x
        rw [hp] at hsn
        rw [List.length_append,List.length_singleton,hsn]
        exact own_keep hown' ((Only.refl [P + 1] w6).setCell (.inl (by simp)) _) (fun b hb => by simp at hb;subst hb;exact own_ne_block hown' M6.out (by decide))
    · have hb:(y == x.r) = false:=by simp [hyr]
      have HNO:Hid (okP l rs x = false):=Hd (by rw [HOK.out];simp [hy,hyr])
      have z0:=HZW.out.cell (k:=0) rfl
      have zf:=HZW.out.frozen 0
      gi_wp2
      refine wpIn_region_quietR (by kernel_rfl) (by kernel_rfl) (by kernel_rfl) ?_
      repeat (gi_big_quiet_step (fail))
      refine wpQuietIn_nil ?_
      rintro _ ⟨nq,rfl⟩
      gi_wp2
      exact ⟨(HRET.out _ HNO.out).1,rfl,(HRET.out _ HNO.out).2.2⟩
 case done =>
  rintro D xs W4 hD rfl hi hK
  obtain ⟨c,hc⟩:∃ c,os.filter cntO = c:=⟨_,rfl⟩
  rw [hc] at hi HSORT
  have HFP:Hid (fitP l rs os = prP l rs c):=Hd (by
   unfold fitP
   rw [hc,hi.ok]
   rfl)
  have hc60:c.length ≤ 80:=by rw [← hc];exact Nat.le_trans (List.length_filter_le _ _) hn
  obtain ⟨mv,hm,hrow⟩:=hi.m
  obtain ⟨MA,mc,rfl⟩:=(SlAt.of_own hrow).shape
  have m0:=hm.cell (k:=0) rfl
  have CS:=Hd ((callsIn_wide (n:=8)).2 (sort_row _ HSORT.out _ _ _ W4 hrow))
  have HROW:=Hd hrow
  have HM4:=Hd hm
  have HO4:=Hd hi.ho
  have HPL:Hid (∀ x,x < 2 * c.length → 0 ≤ (mkO l rs c x).pl):=Hd (fun x hx => by
   obtain ⟨o,ho⟩:∃ o,c[x / 2]? = some o:=⟨_,List.getElem?_eq_getElem (by omega)⟩
   obtain ⟨a1,a2⟩:=mkO_end l rs c _ o ho
   have hok:=List.all_eq_true.1 hi.ok o (List.mem_of_getElem? ho)
   unfold okP at hok
   simp only [Bool.and_eq_true,decide_eq_true_eq] at hok
   by_cases e:x = 2 * (x / 2)
   · rw [e,a1];exact hok.1
   · rw [show x = 2 * (x / 2) + 1 from by omega,a2];exact hok.1)
  have HK:=Hd hK
  clear hi hm hrow hK hc HSORT
  gi_wp2
  refine ⟨trivial,?_⟩
  refine CS.out.mono ?_
  rintro e W5 ⟨rfl,ho5,f',hx5,hs5,hsl5⟩
  have HSC:=Hd (okG_iff l rs c f' hx5 hs5)
  have HPF:Hid (∀ x,x < 2 * c.length → 0 ≤ (f' x).pl):=Hd (fun x hx => by
   obtain ⟨y,_,y2,y3⟩:=hx5.of_ x (by omega) hx
   rw [← y3]
   exact HPL.out y y2)
  have HSL:=Hd hsl5
  have hlo5:∀ x ∈ rb (.slice MA (2 * c.length) mc),w2.heap.size ≤ x:=fun x hx => (HROW.out.lt x (by simpa [rb] using hx)).1
  have HO5:Hid (Only [] w2 W5):=Hd (HO4.out.trans ho5 (fun x hx => .inr (hlo5 x hx)))
  have HK5:Hid (W5.heap[D]? = some (.deferred (some []))):=Hd ((ho5.block D (Array.getElem?_eq_some_iff.1 HK.out).1 (fun hm => by
   have:=own_isC HROW.out D hm _ HK.out
   cases this)).trans HK.out)
  have HM5:=Hd (HM4.out.only ho5 (fun hm => own_ne_block HROW.out HM4.out (by decide) (by simpa [rb] using hm)))
  have m5:=HM5.out.cell (k:=0) rfl
  obtain ⟨n,hnn⟩:∃ n,2 * c.length = n:=⟨_,rfl⟩
  have hn120:n ≤ 160:=by omega
  rw [hnn] at HSC HPF HSL m5 ⊢
  clear HM4 HM5 ho5 hx5 hs5 hsl5 hlo5 CS HROW HO4 HPL HK m0
  gi_wp2
  gi_loopw [9,47] (fun G i wr => ∃ (k:Nat) (gr:Int),k ≤ n ∧ G = .int .i64 gr ∧ i = .int .i64 k ∧ Hid (Sc f' k gr) ∧ Hid (Only [] W5 wr)) (fun _ i _ => n - (intOf i).toNat)
  case atStart => exact ⟨0,-1,by omega,rfl,rfl,Hd (Sc.start f'),Hd oz⟩
  case round =>
   obtain ⟨k,gr,hk,rfl,rfl,HS,HO⟩:=hrel
   obtain ⟨wq,rfl⟩:∃ wq,wq = wr:=⟨_,rfl⟩
   have HZ:=Hd ((HZ2.out.only (HO5.out.tr HO.out) (by simp)))
   have HKD:Hid (wq.heap[D]? = some (.deferred (some []))):=Hd ((HO.out.block D (Array.getElem?_eq_some_iff.1 HK5.out).1 (by simp)).trans HK5.out)
   by_cases hlt:k < n
   · have hlt':(k:Int) < (n:Int):=by omega
     obtain ⟨b3,o3,c3,hv3,q0,q1,q2⟩:=mkS_at (HSL.out.only HO.out (Nat.le_refl _) (by simp)) hlt
     injection hv3 with e1 e2 e3
     subst e1;subst e3
     clear e2
     have HP0:=Hd (HPF.out k hlt)
     obtain ⟨fk,hfk⟩:∃ x,f' k = x:=⟨_,rfl⟩
     obtain ⟨tm,st,pl⟩:=fk
     rw [hfk] at q0 q1 q2 HP0
     have HFK:=Hd hfk
     dsimp only at q0 q1 q2
     clear hfk
     cases st with
     | true =>
      by_cases hle:pl ≤ gr
      · have HZ6:=Hd (HZ.out.alloc (.cells #[.int .i64 tm,.bool true,.int .i64 pl] 169))
        have z0:=HZ6.out.cell (k:=0) rfl
        have zf:=HZ6.out.frozen 0
        have HRES:Hid (fitP l rs os = false):=Hd (by
         have h1:=HS.out.not_ hlt (by rw [HFK.out]) (by rw [HFK.out];exact hle) (by rw [HFK.out];exact HP0.out)
         rw [HSC.out] at h1
         rw [HFP.out]
         simpa using h1)
        have HDN:=Hd (Array.getElem?_eq_some_iff.1 HKD.out).1
        have HDR:Hid (D ≠ R + 1):=Hd (fun e => by omega)
        gi_wp2
        have HZX:=Hd (HZ6.out.set 0 (.bool false))
        have HKX:Hid (((wq.alloc (.cells #[.int .i64 tm,.bool true,.int .i64 pl] 169)).setCell ⟨R + 1,0,none⟩ (.bool false)).heap[D]? = some (.deferred (some []))):=Hd ((Below.heap_setCell _ _ _ D HDR.out).trans ((Below.heap_alloc wq _ D HDN.out).trans HKD.out))
        have HOX:Hid (Only [] w ((wq.alloc (.cells #[.int .i64 tm,.bool true,.int .i64 pl] 169)).setCell ⟨R + 1,0,none⟩ (.bool false))):=Hd (((HO2.out.tr (HO5.out.tr HO.out)).alloc _).setCell (.inr (by show w.heap.size ≤ R + 1;omega)) _)
        refine ⟨by simp,.inl ⟨_,_,rfl,run_takeDeferred HKX.out,?_⟩⟩
        have hc5:=((HZX.out.abide (grownBy_putObj' _ D (.deferred none)) (fun r e => by cases e;exact ⟨_,HKX.out,rfl⟩)).cell (k:=0) rfl)
        refine ⟨.bool false,?_,by rw [HRES.out],Only.of_below (HOX.out.below.trans (belowK_b (w:=w) (Nat.le_refl _) _ D _ _ (by omega) HKX.out rfl rfl))⟩
        simp [results,Tryz.f54,go_sem,hc5]
      · have hle':decide (pl ≤ gr) = false:=by simpa using hle
        have HSN:=Hd (HS.out.more (by rw [HFK.out]) (by rw [HFK.out];exact hle))
        gi_wp2
        go_roundw
        case rel => exact ⟨k + 1,gr,by omega,rfl,by go_num,HSN,Hd (HO.out.alloc _)⟩
        case measure => (try simp [intOf]) <;> omega
     | false =>
      have HSN:=Hd (HS.out.less (by rw [HFK.out]))
      rw [HFK.out] at HSN
      gi_wp2
      go_roundw
      case rel => exact ⟨k + 1,max gr pl,by omega,by go_num,by go_num,HSN,Hd (HO.out.alloc _)⟩
      case measure => (try simp [intOf]) <;> omega
   · have hdd:decide ((k:Int) < (n:Int)) = false:=by simp;omega
     obtain rfl:k = n:=by omega
     have z0:=HZ.out.cell (k:=0) rfl
     have zf:=HZ.out.frozen 0
     have HRES:Hid (fitP l rs os = true):=Hd (by
      rw [HFP.out]
      exact HSC.out.1 HS.out.ok)
     have HDR:Hid (D ≠ R + 1):=Hd (fun e => by omega)
     gi_wp2
     have HZX:=Hd (HZ.out.set 0 (.bool true))
     have HKX:Hid ((wq.setCell ⟨R + 1,0,none⟩ (.bool true)).heap[D]? = some (.deferred (some []))):=Hd ((Below.heap_setCell _ _ _ D HDR.out).trans HKD.out)
     have HOX:Hid (Only [] w (wq.setCell ⟨R + 1,0,none⟩ (.bool true))):=Hd ((HO2.out.tr (HO5.out.tr HO.out)).setCell (.inr (by show w.heap.size ≤ R + 1;omega)) _)
     refine ⟨by simp,.inl ⟨_,_,rfl,run_takeDeferred HKX.out,?_⟩⟩
     have hc5:=((HZX.out.abide (grownBy_putObj' _ D (.deferred none)) (fun r e => by cases e;exact ⟨_,HKX.out,rfl⟩)).cell (k:=0) rfl)
     refine ⟨.bool true,?_,by rw [HRES.out],Only.of_below (HOX.out.below.trans (belowK_b (w:=w) (Nat.le_refl _) _ D _ _ (by omega) HKX.out rfl rfl))⟩
     simp [results,Tryz.f54,go_sem,hc5]
 case stop =>
  rintro D c pre W hD hpre ⟨rfl,hx⟩ hK
  have hF:fitP l rs os = false:=by
   unfold fitP
   have:(os.filter cntO).all (okP l rs) = false:=by
    have h1:=hx.no
    rw [List.all_eq_false] at h1 ⊢
    obtain ⟨o,hm,ho⟩:=h1
    exact ⟨o,hpre.subset hm,ho⟩
   rw [this]
   rfl
  have hc5:=((hx.z.abide (grownBy_putObj' W D (.deferred none)) (fun r e => by cases e;exact ⟨_,hK,rfl⟩)).cell (k:=0) rfl)
  gi_wp2
  refine ⟨by simp,.inl ⟨_,_,rfl,run_takeDeferred hK,?_⟩⟩
  refine ⟨.bool false,?_,by rw [hF],Only.of_below (hx.ho.below.trans (belowK_b (w:=w) (Nat.le_refl _) W D _ _ (by omega) hK rfl rfl))⟩
  simp [results,Tryz.f54,go_sem,hc5]
end Go.Proofs.YtcjfmildalappaaGreat
