/-
  Contracts; each theorem bears its own conditions.
-/
import Derived.Test.YtcjfmildalappaaGreatK25ab
import Derived.Test.YtcjfmildalappaaGreatK25ak
import Derived.Test.YtcjfmildalappaaGreatK25al
import Derived.Test.YtcjfmildalappaaGreatK25am
import Derived.Test.YtcjfmildalappaaGreatK25ay
set_option linter.all false
set_option maxRecDepth 100000
set_option maxHeartbeats 8000000
namespace Go.Proofs.YtcjfmildalappaaGreat
open Go.RowKit
def cm23:Cm:=⟨1,0,0,0,0,0,0,[],[],[],false⟩
def c23:C19:={ c:=cm23,iv:=.slice none 0 0 }
def rpA:Rp:=⟨0,1,[]⟩
def rpB:Rp:=⟨0,2,[]⟩
def oqA:Oq:=⟨0,pkS cm23,rpb rpA,1,2,by decide +kernel,by decide +kernel⟩
def oqB:Oq:=⟨0,pkS cm23,rpb rpB,1,2,by decide +kernel,by decide +kernel⟩
def oqC:Oq:=⟨0,[],[],0,-1,by decide,by decide⟩
theorem fitA:fitP (rowE [c23]) (repE AgS.new (rowE [c23])) [oqA] = true:=by decide +kernel
theorem fitB:fitP (rowE [c23]) (repE AgS.new (rowE [c23])) [oqB] = false:=by decide +kernel
theorem fitC:fitP [] (repE AgS.new []) [oqC] = true:=by decide +kernel
theorem stNil:(agB (runE AgS.new [])).isEmpty = false:=by decide +kernel
theorem slat_op (w:World) (o:Oq):SlAt (w.alloc (.cells o.cells.toArray 88)) (w.alloc (.cells o.cells.toArray 88)).heap.size (.slice (some ⟨w.heap.size,0,none⟩) 1 1) 5 [o].length (oqL [o]):=by
 have e:oqL [o] = o.cells:=by unfold oqL;simp
 rw [e]
 exact ⟨rfl,some ⟨w.heap.size,0,none⟩,1,rfl,Nat.le_refl _,by decide,fun _ => ⟨w.heap.size,0,rfl,by simp,fun j u h => by rw [Nat.zero_add];exact (Cells.new w 88 o.cells).cell h⟩⟩
theorem rpat_nil (w:World) (r:Rp) (h:r.ps = []) (h1:Wide64 r.er) (h2:Wide64 r.n):RpAt w (.slice none 0 0) r:=⟨by rw [h];exact SlAt.of_own (World.ownsRow_nil w 0 101 5),h1,h2,by rw [h];simp,by rw [h];simp⟩
theorem shown23 (w:World):Calls Tryz.prog 41 #[] w fun e w' => e = .returned (.bool true) ∧ Only [] w w':=by
 have o0:Only [] w (w.alloc (.cells #[.int .i64 1,.int .i64 0,.int .i64 0,.int .i64 0,.int .i64 0,.int .i64 0,.int .i64 0,.string ⟨#[]⟩,.string ⟨#[]⟩,.slice none 0 0,.bool false] 38)):=oz.alloc _
 have CROW:Hid (Calls Tryz.prog 43 #[.slice (some ⟨w.heap.size,0,none⟩) 1 1] (w.alloc (.cells #[.int .i64 1,.int .i64 0,.int .i64 0,.int .i64 0,.int .i64 0,.int .i64 0,.int .i64 0,.string ⟨#[]⟩,.string ⟨#[]⟩,.slice none 0 0,.bool false] 38)) fun e w' => ∃ rv,e = .returned rv ∧ w'.ownsRow (w.alloc (.cells #[.int .i64 1,.int .i64 0,.int .i64 0,.int .i64 0,.int .i64 0,.int .i64 0,.int .i64 0,.string ⟨#[]⟩,.string ⟨#[]⟩,.slice none 0 0,.bool false] 38)).heap.size 72 4 rv [c23].length (eyL (rowE [c23])) ∧ Only [] (w.alloc (.cells #[.int .i64 1,.int .i64 0,.int .i64 0,.int .i64 0,.int .i64 0,.int .i64 0,.int .i64 0,.string ⟨#[]⟩,.string ⟨#[]⟩,.slice none 0 0,.bool false] 38)) w'):=Hd
  (row23 _ [c23] _ (slat_one w c23) (fun a ha => by
   simp at ha
   subst ha
   exact ⟨SlAt.of_own (World.ownsRow_nil _ 0 99 3),(fun x hx => by cases hx),by decide +kernel,by decide +kernel,small_nums (by decide)⟩) (fun a ha => by
   simp at ha
   subst ha
   exact ⟨by decide,by decide,by decide,fun x hx => by cases hx⟩) (by decide))
 have CA1:=Hd (fun w' => ref18_answer rpA (.slice none 0 0) w' (rpat_nil w' rpA rfl ⟨by decide,by decide⟩ ⟨by decide,by decide⟩))
 have CA2:=Hd (fun w' => ref18_answer rpB (.slice none 0 0) w' (rpat_nil w' rpB rfl ⟨by decide,by decide⟩ ⟨by decide,by decide⟩))
 have HOK:Hid (EyOk (rowE [c23])):=Hd (rowE_ok (by decide))
 have HO0:=Hd o0
 obtain ⟨l0,hl0⟩:∃ l,rowE [c23] = l:=⟨_,rfl⟩
 have hlen:l0.length = 1:=by rw [← hl0];rfl
 have hg0:l0[0]? = some ⟨1,1,2,pkS cm23⟩:=by rw [← hl0,rowE_get [c23] 0 c23 rfl];unfold rowF;rw [if_pos (by decide +kernel)];rfl
 rw [hl0] at CROW HOK
 have FA:=fitA
 have FB:=fitB
 rw [hl0] at FA FB
 have HFA:=Hd FA
 have HFB:=Hd FB
 obtain ⟨ra,hra⟩:∃ r,rpb rpA = r:=⟨_,rfl⟩
 obtain ⟨rb',hrb⟩:∃ r,rpb rpB = r:=⟨_,rfl⟩
 obtain ⟨pk,hpk⟩:∃ r,pkS cm23 = r:=⟨_,rfl⟩
 have HEA:Hid (oqA.cells = [.int .i64 0,.string ⟨pk.toArray⟩,.string ⟨ra.toArray⟩,.int .i64 1,.int .i64 2]):=Hd (by rw [← hpk,← hra];rfl)
 have HEB:Hid (oqB.cells = [.int .i64 0,.string ⟨pk.toArray⟩,.string ⟨rb'.toArray⟩,.int .i64 1,.int .i64 2]):=Hd (by rw [← hpk,← hrb];rfl)
 rw [hra] at CA1
 rw [hrb] at CA2
 rw [hpk] at hg0
 have CA1:Hid (∀ w',Calls Tryz.prog 56 #[.agg #[.int .i64 0,.int .i64 1,.slice none 0 0]] w' fun e w2 => e = .returned (.string ⟨ra.toArray⟩) ∧ Only [] w' w2):=CA1
 have CA2:Hid (∀ w',Calls Tryz.prog 56 #[.agg #[.int .i64 0,.int .i64 2,.slice none 0 0]] w' fun e w2 => e = .returned (.string ⟨rb'.toArray⟩) ∧ Only [] w' w2):=CA2
 clear hl0 FA FB hra hrb hpk o0
 go_enter Tryz.func41,Tryz.ntmps41
 go_wp2_with fail
 refine CROW.out.mono ?_
 rintro e w1 ⟨rv,rfl,hrv,ho1⟩
 have HO1:=Hd (HO0.out.tr ho1)
 have HRV:Hid (SlAt w1 w1.heap.size rv 4 l0.length (eyL l0)):=Hd (by have:=SlAt.of_own hrv;rw [hlen];exact this)
 obtain ⟨RA,rc,rfl⟩:=HRV.out.shape
 clear hrv ho1 CROW HO0
 obtain ⟨rb0,ro0,rc0,hv0,q0,q1,q2,q3⟩:=eyL_at HRV.out hg0
 injection hv0 with e1 e2 e3
 subst e1;subst e3
 clear e2
 have t3:=fun u:Since w1 => u.cell q3
 rw [hlen]
 go_wp2_with fail
 have HS:Hid (∀ w',Only [] w1 w' → w'.cell? ⟨rb0,ro0 + 3,none⟩ = some (.string ⟨pk.toArray⟩)):=Hd (fun w' ho => (ho.cell (p:=⟨rb0,ro0 + 3,none⟩) (World.block_lt_of_cell? w1 _ q3) (by simp)).trans q3)
 clear t3 q0 q1 q2 q3
 go_region_held3 (fun w':World => w'.cell? ⟨rb0,ro0 + 3,none⟩ = some (.string ⟨pk.toArray⟩))
  (exact HS.out _ (by repeat (first | exact Only.refl _ _ | refine Only.drew ?_ | refine Only.alloc ?_ _ | refine Only.setCell ?_ (.inr (Nat.le_refl _)) _ | refine Only.tr ?_ (by assumption))))
  (first
   | (go_at_call 56;refine (CA1.out _).mono ?_;rintro e w2 ⟨rfl,ho2⟩;(try have hb:=(Cells.new w1.drew 88 [.int .i64 0,.string ⟨#[]⟩,.string ⟨#[]⟩,.int .i64 0,.int .i64 0]).only ho2 (by simp));(try have z0:w2.cell? ⟨w1.heap.size,0,none⟩ = some (.int .i64 0):=hb.cell (k:=0) rfl);(try have z1:w2.cell? ⟨w1.heap.size,1,none⟩ = some (.string ⟨#[]⟩):=hb.cell (k:=1) rfl);(try have z2:w2.cell? ⟨w1.heap.size,2,none⟩ = some (.string ⟨#[]⟩):=hb.cell (k:=2) rfl);(try have z3:w2.cell? ⟨w1.heap.size,3,none⟩ = some (.int .i64 0):=hb.cell (k:=3) rfl);(try have z4:w2.cell? ⟨w1.heap.size,4,none⟩ = some (.int .i64 0):=hb.cell (k:=4) rfl);(try have zf:∀ k,w2.frozen? ⟨w1.heap.size,k,none⟩ = false:=fun k => hb.frozen k)))
 · have HZ:Hid (Cells (w2.alloc (.cells #[.int .i64 0,.string ⟨pk.toArray⟩,.string ⟨ra.toArray⟩,.int .i64 1,.int .i64 2] 88)) w2.heap.size 88 [.int .i64 0,.string ⟨pk.toArray⟩,.string ⟨ra.toArray⟩,.int .i64 1,.int .i64 2]):=Hd (Cells.new w2 _ [_,_,_,_,_])
   have HW:Hid (Only [] w1 (w2.alloc (.cells #[.int .i64 0,.string ⟨pk.toArray⟩,.string ⟨ra.toArray⟩,.int .i64 1,.int .i64 2] 88))):=Hd ((((Only.refl [] w1).drew).tr ho2).alloc _)
   obtain ⟨z,hz⟩:∃ z,w2.heap.size = z:=⟨_,rfl⟩
   obtain ⟨w3,hw3⟩:∃ u,w2.alloc (.cells #[.int .i64 0,.string ⟨pk.toArray⟩,.string ⟨ra.toArray⟩,.int .i64 1,.int .i64 2] 88) = u:=⟨_,rfl⟩
   rw [hz,hw3] at HZ ⊢
   rw [hw3] at HW
   have HO3:=Hd (HO1.out.tr HW.out)
   clear hw3 hz ho2
   have a0:=HZ.out.cell (k:=0) rfl
   have a1:=HZ.out.cell (k:=1) rfl
   have a2:=HZ.out.cell (k:=2) rfl
   have a3:=HZ.out.cell (k:=3) rfl
   have a4:=HZ.out.cell (k:=4) rfl
   go_wp2_with fail
   refine (CA2.out _).mono ?_
   rintro e w4 ⟨rfl,ho4⟩
   clear a0 a1 a2 a3 a4
   have HB4:Hid (Cells w4 w3.heap.size 88 [.int .i64 0,.string ⟨pk.toArray⟩,.string ⟨ra.toArray⟩,.int .i64 1,.int .i64 2]):=Hd ((Cells.new w3 88 [.int .i64 0,.string ⟨pk.toArray⟩,.string ⟨ra.toArray⟩,.int .i64 1,.int .i64 2]).only ho4 (by simp))
   have HA4:=Hd ((HZ.out.alloc (.cells #[.int .i64 0,.string ⟨pk.toArray⟩,.string ⟨ra.toArray⟩,.int .i64 1,.int .i64 2] 88)).only ho4 (by simp))
   have hzl:=HZ.out.lt
   have hne:z ≠ w3.heap.size:=by omega
   have O4:Only [] w1 w4:=(HW.out.alloc (.cells #[.int .i64 0,.string ⟨pk.toArray⟩,.string ⟨ra.toArray⟩,.int .i64 1,.int .i64 2] 88)).tr ho4
   have hW3:=HW.out.size
   obtain ⟨y,hy⟩:∃ y,w3.heap.size = y:=⟨_,rfl⟩
   rw [hy] at HB4 hne hW3 ⊢
   have b2:=HB4.out.cell (k:=2) rfl
   have bf:=HB4.out.frozen 2
   go_upto_region 5 with fail
   have HB5:Hid (Cells (w4.setCell ⟨y,2,none⟩ (.string ⟨rb'.toArray⟩)) y 88 [.int .i64 0,.string ⟨pk.toArray⟩,.string ⟨rb'.toArray⟩,.int .i64 1,.int .i64 2]):=Hd (HB4.out.set 2 _)
   have HA5:Hid (Cells (w4.setCell ⟨y,2,none⟩ (.string ⟨rb'.toArray⟩)) z 88 [.int .i64 0,.string ⟨pk.toArray⟩,.string ⟨ra.toArray⟩,.int .i64 1,.int .i64 2]):=Hd (HA4.out.far (p:=⟨y,2,none⟩) hne _)
   have O5:Only [] w1 (w4.setCell ⟨y,2,none⟩ (.string ⟨rb'.toArray⟩)):=O4.setCell (.inr hW3) _
   obtain ⟨w5,hw5⟩:∃ u,w4.setCell ⟨y,2,none⟩ (.string ⟨rb'.toArray⟩) = u:=⟨_,rfl⟩
   rw [hw5] at HB5 HA5 O5 ⊢
   clear hw5 b2 bf HB4 HA4 ho4 hzl hne O4 hW3 hy HZ HW HO3
   have HO5:=Hd O5
   have a0:=HA5.out.cell (k:=0) rfl
   have a1:=HA5.out.cell (k:=1) rfl
   have a2:=HA5.out.cell (k:=2) rfl
   have a3:=HA5.out.cell (k:=3) rfl
   have a4:=HA5.out.cell (k:=4) rfl
   have HFIT:Hid (∀ (w':World) (o:Oq) (r:Bool),Only [] w1 w' → fitP l0 (repE AgS.new l0) [o] = r → Calls Tryz.prog 54 #[.slice (some ⟨rb0,ro0,none⟩) 1 rc,.slice (some ⟨w'.heap.size,0,none⟩) 1 1] (w'.alloc (.cells o.cells.toArray 88)) fun e w2 => e = .returned (.bool r) ∧ Only [] (w'.alloc (.cells o.cells.toArray 88)) w2):=Hd (fun w' o r ho hr => by
    rw [← hr]
    have h2:=ho.alloc (.cells o.cells.toArray 88)
    exact hi_fits _ _ l0 [o] _ (hlen ▸ ((HRV.out.only h2 (Nat.le_refl _) (by simp)).more h2.size)) HOK.out (slat_op w' o) (by simp) (hi_sort_few _ (by have:=List.length_filter_le cntO [o];simp at this ⊢;omega)))
   have CF1:=HFIT.out w5 oqA true HO5.out HFA.out
   rw [HEA.out] at CF1
   go_wp2_with fail
   refine CF1.mono ?_
   rintro e w6 ⟨rfl,ho6⟩
   have O6:Only [] w1 w6:=(HO5.out.alloc _).tr ho6
   have HO6:=Hd O6
   have HB6:=Hd ((HB5.out.alloc (.cells #[.int .i64 0,.string ⟨pk.toArray⟩,.string ⟨ra.toArray⟩,.int .i64 1,.int .i64 2] 88)).only ho6 (by simp))
   clear a0 a1 a2 a3 a4 CF1 ho6 O6 O5 HO5 HA5 HB5
   have a0:=HB6.out.cell (k:=0) rfl
   have a1:=HB6.out.cell (k:=1) rfl
   have a2:=HB6.out.cell (k:=2) rfl
   have a3:=HB6.out.cell (k:=3) rfl
   have a4:=HB6.out.cell (k:=4) rfl
   have CF2:=HFIT.out w6 oqB false HO6.out HFB.out
   rw [HEB.out] at CF2
   go_wp2_with fail
   refine CF2.mono ?_
   rintro e w7 ⟨rfl,ho7⟩
   have HO7:Hid (Only [] w1 w7):=Hd ((HO6.out.alloc _).tr ho7)
   clear a0 a1 a2 a3 a4 CF2 ho7 HO6 HB6 HFIT
   have CF3:Calls Tryz.prog 54 #[.slice none 0 0,.slice (some ⟨w7.heap.size,0,none⟩) 1 1] (w7.alloc (.cells #[.int .i64 0,.string ⟨#[]⟩,.string ⟨#[]⟩,.int .i64 0,.int .i64 (-1)] 88)) fun e w2 => e = .returned (.bool true) ∧ Only [] (w7.alloc (.cells #[.int .i64 0,.string ⟨#[]⟩,.string ⟨#[]⟩,.int .i64 0,.int .i64 (-1)] 88)) w2:=by
    have:=hi_fits (.slice none 0 0) _ [] [oqC] _ (SlAt.of_own (World.ownsRow_nil _ 0 72 4)) ⟨by simp,fun x hx => by cases hx⟩ (slat_op w7 oqC) (by simp) (hi_sort_few _ (by have:=List.length_filter_le cntO [oqC];simp at this ⊢;omega))
    rw [fitC] at this
    exact this
   go_wp2_with fail
   refine CF3.mono ?_
   rintro e w8 ⟨rfl,ho8⟩
   have HO8:Hid (Only [] w1 w8):=Hd ((HO7.out.alloc _).tr ho8)
   clear CF3 ho8 HO7
   have CR:Calls Tryz.prog 45 #[.slice (some ⟨rb0,ro0,none⟩) 1 rc] w8 fun e w' => ∃ rv,e = .returned rv ∧ w'.ownsRow w8.heap.size 9 1 rv l0.length (svs (repE AgS.new l0)) ∧ Only [] w8 w':=hi_replies _ l0 w8 (hlen ▸ ((HRV.out.only HO8.out (Nat.le_refl _) (by simp)).more HO8.out.size)) HOK.out
   go_wp2_with fail
   refine CR.mono ?_
   rintro e w9 ⟨rv,rfl,hrv,ho9⟩
   obtain ⟨VA,vc,rfl⟩:=(SlAt.of_own hrv).shape
   have HO9:=Hd (HO8.out.tr ho9)
   rw [hlen]
   have CST:=Hd (hi_state (.slice none 0 0) [] w9 (SlAt.of_own (World.ownsRow_nil _ 0 72 4)) ⟨by simp,fun x hx => by cases hx⟩)
   obtain ⟨sb,hsb⟩:∃ x,agB (runE AgS.new []) = x:=⟨_,rfl⟩
   rw [hsb] at CST
   have hsn:sb.isEmpty = false:=hsb ▸ stNil
   clear CR hrv ho9 hsb
   go_wp2_with fail
   refine CST.out.mono ?_
   rintro e w10 ⟨rfl,ho10⟩
   have HF:=Hd (HO1.out.tr (HO9.out.tr ho10))
   clear CST ho10
   go_wp2_with fail
   go_ret
   exact ⟨rfl,HF.out⟩
 · have HZ:Hid (Cells (((((w2.setCell ⟨w1.heap.size,0,none⟩ (.int .i64 0)).setCell ⟨w1.heap.size,1,none⟩ (.string ⟨pk.toArray⟩)).setCell ⟨w1.heap.size,2,none⟩ (.string ⟨ra.toArray⟩)).setCell ⟨w1.heap.size,3,none⟩ (.int .i64 1)).setCell ⟨w1.heap.size,4,none⟩ (.int .i64 2)) w1.heap.size 88 [.int .i64 0,.string ⟨pk.toArray⟩,.string ⟨ra.toArray⟩,.int .i64 1,.int .i64 2]):=Hd (hb.setMany 0 [.int .i64 0,.string ⟨pk.toArray⟩,.string ⟨ra.toArray⟩,.int .i64 1,.int .i64 2])
   have HW:Hid (Only [] w1 (((((w2.setCell ⟨w1.heap.size,0,none⟩ (.int .i64 0)).setCell ⟨w1.heap.size,1,none⟩ (.string ⟨pk.toArray⟩)).setCell ⟨w1.heap.size,2,none⟩ (.string ⟨ra.toArray⟩)).setCell ⟨w1.heap.size,3,none⟩ (.int .i64 1)).setCell ⟨w1.heap.size,4,none⟩ (.int .i64 2))):=Hd ((((((((Only.refl [] w1).drew.alloc (.cells #[.int .i64 0,.string ⟨#[]⟩,.string ⟨#[]⟩,.int .i64 0,.int .i64 0] 88)).tr ho2)).setCell (.inr (Nat.le_refl _)) _).setCell (.inr (Nat.le_refl _)) _).setCell (.inr (Nat.le_refl _)) _).setCell (.inr (Nat.le_refl _)) _ |>.setCell (.inr (Nat.le_refl _)) _)
   obtain ⟨z,hz⟩:∃ z,w1.heap.size = z:=⟨_,rfl⟩
   clear z0 z1 z2 z3 z4 zf hb
   obtain ⟨w3,hw3⟩:∃ u,(((((w2.setCell ⟨w1.heap.size,0,none⟩ (.int .i64 0)).setCell ⟨w1.heap.size,1,none⟩ (.string ⟨pk.toArray⟩)).setCell ⟨w1.heap.size,2,none⟩ (.string ⟨ra.toArray⟩)).setCell ⟨w1.heap.size,3,none⟩ (.int .i64 1)).setCell ⟨w1.heap.size,4,none⟩ (.int .i64 2)) = u:=⟨_,rfl⟩
   rw [hw3] at HZ HW ⊢
   rw [hz] at HZ ⊢
   have HO3:=Hd (HO1.out.tr HW.out)
   clear hw3 hz ho2
   have a0:=HZ.out.cell (k:=0) rfl
   have a1:=HZ.out.cell (k:=1) rfl
   have a2:=HZ.out.cell (k:=2) rfl
   have a3:=HZ.out.cell (k:=3) rfl
   have a4:=HZ.out.cell (k:=4) rfl
   go_wp2_with fail
   refine (CA2.out _).mono ?_
   rintro e w4 ⟨rfl,ho4⟩
   clear a0 a1 a2 a3 a4
   have HB4:Hid (Cells w4 w3.heap.size 88 [.int .i64 0,.string ⟨pk.toArray⟩,.string ⟨ra.toArray⟩,.int .i64 1,.int .i64 2]):=Hd ((Cells.new w3 88 [.int .i64 0,.string ⟨pk.toArray⟩,.string ⟨ra.toArray⟩,.int .i64 1,.int .i64 2]).only ho4 (by simp))
   have HA4:=Hd ((HZ.out.alloc (.cells #[.int .i64 0,.string ⟨pk.toArray⟩,.string ⟨ra.toArray⟩,.int .i64 1,.int .i64 2] 88)).only ho4 (by simp))
   have hzl:=HZ.out.lt
   have hne:z ≠ w3.heap.size:=by omega
   have O4:Only [] w1 w4:=(HW.out.alloc (.cells #[.int .i64 0,.string ⟨pk.toArray⟩,.string ⟨ra.toArray⟩,.int .i64 1,.int .i64 2] 88)).tr ho4
   have hW3:=HW.out.size
   obtain ⟨y,hy⟩:∃ y,w3.heap.size = y:=⟨_,rfl⟩
   rw [hy] at HB4 hne hW3 ⊢
   have b2:=HB4.out.cell (k:=2) rfl
   have bf:=HB4.out.frozen 2
   go_upto_region 5 with fail
   have HB5:Hid (Cells (w4.setCell ⟨y,2,none⟩ (.string ⟨rb'.toArray⟩)) y 88 [.int .i64 0,.string ⟨pk.toArray⟩,.string ⟨rb'.toArray⟩,.int .i64 1,.int .i64 2]):=Hd (HB4.out.set 2 _)
   have HA5:Hid (Cells (w4.setCell ⟨y,2,none⟩ (.string ⟨rb'.toArray⟩)) z 88 [.int .i64 0,.string ⟨pk.toArray⟩,.string ⟨ra.toArray⟩,.int .i64 1,.int .i64 2]):=Hd (HA4.out.far (p:=⟨y,2,none⟩) hne _)
   have O5:Only [] w1 (w4.setCell ⟨y,2,none⟩ (.string ⟨rb'.toArray⟩)):=O4.setCell (.inr hW3) _
   obtain ⟨w5,hw5⟩:∃ u,w4.setCell ⟨y,2,none⟩ (.string ⟨rb'.toArray⟩) = u:=⟨_,rfl⟩
   rw [hw5] at HB5 HA5 O5 ⊢
   clear hw5 b2 bf HB4 HA4 ho4 hzl hne O4 hW3 hy HZ HW HO3
   have HO5:=Hd O5
   have a0:=HA5.out.cell (k:=0) rfl
   have a1:=HA5.out.cell (k:=1) rfl
   have a2:=HA5.out.cell (k:=2) rfl
   have a3:=HA5.out.cell (k:=3) rfl
   have a4:=HA5.out.cell (k:=4) rfl
   have HFIT:Hid (∀ (w':World) (o:Oq) (r:Bool),Only [] w1 w' → fitP l0 (repE AgS.new l0) [o] = r → Calls Tryz.prog 54 #[.slice (some ⟨rb0,ro0,none⟩) 1 rc,.slice (some ⟨w'.heap.size,0,none⟩) 1 1] (w'.alloc (.cells o.cells.toArray 88)) fun e w2 => e = .returned (.bool r) ∧ Only [] (w'.alloc (.cells o.cells.toArray 88)) w2):=Hd (fun w' o r ho hr => by
    rw [← hr]
    have h2:=ho.alloc (.cells o.cells.toArray 88)
    exact hi_fits _ _ l0 [o] _ (hlen ▸ ((HRV.out.only h2 (Nat.le_refl _) (by simp)).more h2.size)) HOK.out (slat_op w' o) (by simp) (hi_sort_few _ (by have:=List.length_filter_le cntO [o];simp at this ⊢;omega)))
   have CF1:=HFIT.out w5 oqA true HO5.out HFA.out
   rw [HEA.out] at CF1
   go_wp2_with fail
   refine CF1.mono ?_
   rintro e w6 ⟨rfl,ho6⟩
   have O6:Only [] w1 w6:=(HO5.out.alloc _).tr ho6
   have HO6:=Hd O6
   have HB6:=Hd ((HB5.out.alloc (.cells #[.int .i64 0,.string ⟨pk.toArray⟩,.string ⟨ra.toArray⟩,.int .i64 1,.int .i64 2] 88)).only ho6 (by simp))
   clear a0 a1 a2 a3 a4 CF1 ho6 O6 O5 HO5 HA5 HB5
   have a0:=HB6.out.cell (k:=0) rfl
   have a1:=HB6.out.cell (k:=1) rfl
   have a2:=HB6.out.cell (k:=2) rfl
   have a3:=HB6.out.cell (k:=3) rfl
   have a4:=HB6.out.cell (k:=4) rfl
   have CF2:=HFIT.out w6 oqB false HO6.out HFB.out
   rw [HEB.out] at CF2
   go_wp2_with fail
   refine CF2.mono ?_
   rintro e w7 ⟨rfl,ho7⟩
   have HO7:Hid (Only [] w1 w7):=Hd ((HO6.out.alloc _).tr ho7)
   clear a0 a1 a2 a3 a4 CF2 ho7 HO6 HB6 HFIT
   have CF3:Calls Tryz.prog 54 #[.slice none 0 0,.slice (some ⟨w7.heap.size,0,none⟩) 1 1] (w7.alloc (.cells #[.int .i64 0,.string ⟨#[]⟩,.string ⟨#[]⟩,.int .i64 0,.int .i64 (-1)] 88)) fun e w2 => e = .returned (.bool true) ∧ Only [] (w7.alloc (.cells #[.int .i64 0,.string ⟨#[]⟩,.string ⟨#[]⟩,.int .i64 0,.int .i64 (-1)] 88)) w2:=by
    have:=hi_fits (.slice none 0 0) _ [] [oqC] _ (SlAt.of_own (World.ownsRow_nil _ 0 72 4)) ⟨by simp,fun x hx => by cases hx⟩ (slat_op w7 oqC) (by simp) (hi_sort_few _ (by have:=List.length_filter_le cntO [oqC];simp at this ⊢;omega))
    rw [fitC] at this
    exact this
   go_wp2_with fail
   refine CF3.mono ?_
   rintro e w8 ⟨rfl,ho8⟩
   have HO8:Hid (Only [] w1 w8):=Hd ((HO7.out.alloc _).tr ho8)
   clear CF3 ho8 HO7
   have CR:Calls Tryz.prog 45 #[.slice (some ⟨rb0,ro0,none⟩) 1 rc] w8 fun e w' => ∃ rv,e = .returned rv ∧ w'.ownsRow w8.heap.size 9 1 rv l0.length (svs (repE AgS.new l0)) ∧ Only [] w8 w':=hi_replies _ l0 w8 (hlen ▸ ((HRV.out.only HO8.out (Nat.le_refl _) (by simp)).more HO8.out.size)) HOK.out
   go_wp2_with fail
   refine CR.mono ?_
   rintro e w9 ⟨rv,rfl,hrv,ho9⟩
   obtain ⟨VA,vc,rfl⟩:=(SlAt.of_own hrv).shape
   have HO9:=Hd (HO8.out.tr ho9)
   rw [hlen]
   have CST:=Hd (hi_state (.slice none 0 0) [] w9 (SlAt.of_own (World.ownsRow_nil _ 0 72 4)) ⟨by simp,fun x hx => by cases hx⟩)
   obtain ⟨sb,hsb⟩:∃ x,agB (runE AgS.new []) = x:=⟨_,rfl⟩
   rw [hsb] at CST
   have hsn:sb.isEmpty = false:=hsb ▸ stNil
   clear CR hrv ho9 hsb
   go_wp2_with fail
   refine CST.out.mono ?_
   rintro e w10 ⟨rfl,ho10⟩
   have HF:=Hd (HO1.out.tr (HO9.out.tr ho10))
   clear CST ho10
   go_wp2_with fail
   go_ret
   exact ⟨rfl,HF.out⟩
theorem rd_find (v rv:Value) (l:List Ey) (rs:List (List UInt8)) (o:Oq) (w:World) (hs:SlAt w w.heap.size v 4 l.length (eyL l)) (hr:SlAt w w.heap.size rv 1 rs.length (svs rs)) (hl:rs.length = l.length) (hn:l.length ≤ 1000) (hd:o.d.length ≤ 1000000):
 Calls Tryz.prog 53 #[v,rv,.agg #[.int .i64 o.cl,.string ⟨o.d.toArray⟩,.string ⟨o.r.toArray⟩,.int .i64 o.st,.int .i64 o.en]] w fun e w' => e = .returned (.int .i64 (fndQ o.d o.r l rs 0)) ∧ Only [] w w':=by
 obtain ⟨LA,lc,rfl⟩:=hs.shape
 obtain ⟨RA,rc,rfl⟩:=hr.shape
 have HS:=Hd hs
 rw [hl] at hr
 have HR:=Hd hr
 have hadd:∀ x:Addr,x.add 0 = x:=fun x => by unfold Addr.add;simp
 have hmap:Option.map (fun x:Addr => x) LA = LA:=by cases LA <;> rfl
 have HN:Hid (unC o.d = none → regB o.d = false):=Hd (fun h => by unfold regB;rw [h])
 have HC:Hid (∀ c,unC o.d = some c → regB o.d = (c.kd == 1)):=Hd (fun c h => by unfold regB;rw [h])
 have HMT:Hid (∀ x y,matchE x y o.d o.r = (x.kd == 2 && ((x.d == o.d) && (!regB o.d || y == o.r)))):=Hd (fun x y => rfl)
 obtain ⟨q,hq⟩:∃ q,regB o.d = q:=⟨_,rfl⟩
 rw [hq] at HN HC HMT
 obtain ⟨w0,hw0⟩:∃ u,w.alloc (.cells #[.int .i64 o.cl,.string ⟨o.d.toArray⟩,.string ⟨o.r.toArray⟩,.int .i64 o.st,.int .i64 o.en] 90) = u:=⟨_,rfl⟩
 obtain ⟨z,hz⟩:∃ z,w.heap.size = z:=⟨_,rfl⟩
 have HZ:Hid (Cells w0 z 90 [.int .i64 o.cl,.string ⟨o.d.toArray⟩,.string ⟨o.r.toArray⟩,.int .i64 o.st,.int .i64 o.en]):=Hd (hw0 ▸ hz ▸ Cells.new w _ _)
 have HO0:Hid (Only [] w w0):=Hd (hw0 ▸ oz.alloc _)
 have CU:=Hd (ref18_unpack o.d w0 (by omega))
 have z1:=HZ.out.cell (k:=1) rfl
 clear hs hr hq
 go_enter Tryz.func53,Tryz.ntmps53
 go_wp2_with fail
 refine CU.out.mono ?_
 rintro e w1 ⟨iv,rfl,hc,ho1,_⟩
 obtain ⟨IA,ic,rfl⟩:=hc.its.shape
 have HQ:Hid (((if (unC o.d).isSome = true then (0:Int) else 8) == 0 && (((unC o.d).getD Cm.zero).kd == 1)) = q):=Hd (by
  cases hu:unC o.d with
  | none => rw [HN.out hu];rfl
  | some c => rw [HC.out c hu];simp)
 obtain ⟨er,her⟩:∃ e,(if (unC o.d).isSome = true then (0:Int) else 8) = e:=⟨_,rfl⟩
 obtain ⟨c,hcc⟩:∃ c,(unC o.d).getD Cm.zero = c:=⟨_,rfl⟩
 rw [her,hcc] at HQ
 rw [her,hcc]
 unfold Cm.val
 have HO1:=Hd (HO0.out.tr ho1)
 have HZ1:=Hd (HZ.out.only ho1 (by simp))
 obtain ⟨b1,b2,b3⟩:=box_row w1 38 [.int .i64 0,.int .i64 0,.int .i64 0,.int .i64 0,.int .i64 0,.int .i64 0,.int .i64 0,.string ⟨#[]⟩,.string ⟨#[]⟩,.slice none 0 0,.bool false] [.int .i64 c.kd,.int .i64 c.ss,.int .i64 c.sq,.int .i64 c.sh,.int .i64 c.nd,.int .i64 c.ep,.int .i64 c.n,.string ⟨c.fd.toArray⟩,.string ⟨c.id.toArray⟩,.slice IA c.its.length ic,.bool c.fl]
 have hone:(#[.int .i64 c.kd,.int .i64 c.ss,.int .i64 c.sq,.int .i64 c.sh,.int .i64 c.nd,.int .i64 c.ep,.int .i64 c.n,.string ⟨c.fd.toArray⟩,.string ⟨c.id.toArray⟩,.slice IA c.its.length ic,.bool c.fl]:Array Value).all (·.oneCell') = true:=by simp [Value.oneCell']
 obtain ⟨ys,hy⟩:∃ u,(w1.alloc (.cells #[.int .i64 0,.int .i64 0,.int .i64 0,.int .i64 0,.int .i64 0,.int .i64 0,.int .i64 0,.string ⟨#[]⟩,.string ⟨#[]⟩,.slice none 0 0,.bool false] 38)).setRow w1.heap.size #[.int .i64 c.kd,.int .i64 c.ss,.int .i64 c.sq,.int .i64 c.sh,.int .i64 c.nd,.int .i64 c.ep,.int .i64 c.n,.string ⟨c.fd.toArray⟩,.string ⟨c.id.toArray⟩,.slice IA c.its.length ic,.bool c.fl] = u:=⟨_,rfl⟩
 have hys:(w1.alloc (.cells [.int .i64 0,.int .i64 0,.int .i64 0,.int .i64 0,.int .i64 0,.int .i64 0,.int .i64 0,.string ⟨#[]⟩,.string ⟨#[]⟩,.slice none 0 0,.bool false].toArray 38)).setRow w1.heap.size [.int .i64 c.kd,.int .i64 c.ss,.int .i64 c.sq,.int .i64 c.sh,.int .i64 c.nd,.int .i64 c.ep,.int .i64 c.n,.string ⟨c.fd.toArray⟩,.string ⟨c.id.toArray⟩,.slice IA c.its.length ic,.bool c.fl].toArray = ys:=hy
 rw [hys] at b1 b3
 have HO2:=Hd (HO1.out.tr b1)
 have HZ2:=Hd (HZ1.out.only b1 (by simp))
 obtain ⟨g,hg⟩:∃ g,w1.heap.size = g:=⟨_,rfl⟩
 rw [hg] at b2 b3 hy
 have y0:=b3.cell (k:=0) rfl
 clear CU hc ho1 her hcc HN HC HO0 HO1 HZ HZ1 z1 b1 b3 hys
 go_upto_region 2 with ((try rw [hg]);refine wpList_store_row rfl 38 _ _ rfl g #[.int .i64 c.kd,.int .i64 c.ss,.int .i64 c.sq,.int .i64 c.sh,.int .i64 c.nd,.int .i64 c.ep,.int .i64 c.n,.string ⟨c.fd.toArray⟩,.string ⟨c.id.toArray⟩,.slice IA c.its.length ic,.bool c.fl] rfl rfl 38 _ b2 (by kernel_rfl) rfl hone ?_;(try rw [hy]))
 clear b2 hone hy
 go_cut [9] from 17 to 23 (fun x wx => x = .bool q ∧ wx = ys)
 case first =>
  by_cases he:er = 0
  · subst he
    have hq2:(c.kd == 1) = q:=by have:=HQ.out;simpa using this
    go_wp2_with fail
    go_meet
    exact ⟨by first | rfl | rw [hq2],rfl⟩
  · have d1:(er == 0) = false:=by simpa using he
    have hq2:q = false:=by have:=HQ.out;rw [d1] at this;simpa using this.symm
    subst hq2
    go_wp2_with fail
    go_meet
    exact ⟨rfl,rfl⟩
 case rest =>
 obtain ⟨rfl,rfl⟩:=hcut
 clear HQ y0
 go_wp2_with fail
 go_loopw [10] (fun i wr => ∃ k:Nat,k ≤ l.length ∧ i = .int .i64 k ∧ Hid (fndQ o.d o.r (l.drop k) (rs.drop k) k = fndQ o.d o.r l rs 0) ∧ Hid (Only [] w wr) ∧ Hid (Cells wr z 90 [.int .i64 o.cl,.string ⟨o.d.toArray⟩,.string ⟨o.r.toArray⟩,.int .i64 o.st,.int .i64 o.en])) (fun i _ => l.length - (intOf i).toNat)
 case atStart => exact ⟨0,by omega,rfl,Hd rfl,HO2,HZ2⟩
 case round =>
  obtain ⟨k,hk,rfl,HF,HO,HZ⟩:=hrel
  obtain ⟨wq,rfl⟩:∃ wq,wq = wr:=⟨_,rfl⟩
  by_cases hlt:k < l.length
  · have hlt':(k:Int) < (l.length:Int):=by omega
    obtain ⟨x,hx⟩:∃ x,l[k]? = some x:=⟨_,List.getElem?_eq_getElem hlt⟩
    obtain ⟨y,hy⟩:∃ y,rs[k]? = some y:=⟨_,List.getElem?_eq_getElem (by omega)⟩
    have HFN:=Hd (fndQ_at (d:=o.d) (r:=o.r) (n:=k) hx hy)
    rw [HMT.out] at HFN
    obtain ⟨ab,ao,ac,hv,q0,q1,q2,q3⟩:=eyL_at (HS.out.only HO.out (Nat.le_refl _) (by simp)) hx
    injection hv with e1 e2 e3
    subst e1;subst e3
    obtain ⟨rb,ro,rc',hv,r0⟩:=svs_at23 (hl ▸ (HR.out.only HO.out (Nat.le_refl _) (by simp))) hy
    injection hv with e1 e3 e4
    subst e1;subst e4
    have HZ3:=HZ
    have HO3:=HO
    obtain ⟨ys,hys⟩:∃ u,wq = u:=⟨_,rfl⟩
    rw [hys] at q2 q3 r0 HZ3 HO3 ⊢
    have t2:=fun u:Since ys => u.cell q2
    have t3:=fun u:Since ys => u.cell q3
    have s1:=fun u:Since ys => u.cell (HZ3.out.cell (k:=1) rfl)
    have s2:=fun u:Since ys => u.cell (HZ3.out.cell (k:=2) rfl)
    have p0:=fun u:Since ys => u.cell r0
    clear hx hy e2 e3 r0 HO HZ
    have dk:decide ((k:Int) < (l.length:Int)) = true:=by simp;omega
    go_upto_region 6 with fail
    clear q0 q1 q2 q3
    obtain ⟨m1,hm1⟩:∃ b,(x.kd == 2) = b:=⟨_,rfl⟩
    obtain ⟨m2,hm2⟩:∃ b,(x.d == o.d) = b:=⟨_,rfl⟩
    obtain ⟨m3,hm3⟩:∃ b,(y == o.r) = b:=⟨_,rfl⟩
    rw [hm1,hm2,hm3] at HFN
    cases m1 with
    | false =>
     refine wp_region_only ys oz (by kernel_rfl) (by kernel_rfl) ?_
     repeat (go_big_quiet_step (fail))
     refine wpQuiet_nil ?_
     rintro ⟨w3,ho3⟩
     dsimp only
     have HO4:=Hd (HO3.out.tr ho3)
     have HZ4:=Hd (HZ3.out.only ho3 (by simp))
     clear t2 t3 s1 s2 p0 ho3
     have HF4:Hid (fndQ o.d o.r (l.drop (k + 1)) (rs.drop (k + 1)) (k + 1) = fndQ o.d o.r l rs 0):=Hd (by rw [← HF.out,HFN.out];simp)
     go_wp2_with fail
     go_roundw
     case rel => exact ⟨k + 1,by omega,by go_num,HF4,HO4,HZ4⟩
     case measure => simp [intOf];omega
    | true =>
    cases m2 with
    | false =>
     refine wp_region_only ys oz (by kernel_rfl) (by kernel_rfl) ?_
     repeat (go_big_quiet_step (fail))
     refine wpQuiet_nil ?_
     rintro ⟨w3,ho3⟩
     dsimp only
     have HO4:=Hd (HO3.out.tr ho3)
     have HZ4:=Hd (HZ3.out.only ho3 (by simp))
     clear t2 t3 s1 s2 p0 ho3
     have HF4:Hid (fndQ o.d o.r (l.drop (k + 1)) (rs.drop (k + 1)) (k + 1) = fndQ o.d o.r l rs 0):=Hd (by rw [← HF.out,HFN.out];simp)
     go_wp2_with fail
     go_roundw
     case rel => exact ⟨k + 1,by omega,by go_num,HF4,HO4,HZ4⟩
     case measure => simp [intOf];omega
    | true =>
    cases q with
    | false =>
     refine wp_region_only ys oz (by kernel_rfl) (by kernel_rfl) ?_
     repeat (go_big_quiet_step (fail))
     refine wpQuiet_nil ?_
     rintro ⟨w3,ho3⟩
     dsimp only
     have HO4:=Hd (HO3.out.tr ho3)
     have HZ4:=Hd (HZ3.out.only ho3 (by simp))
     clear t2 t3 s1 s2 p0 ho3
     have HE:Hid (fndQ o.d o.r l rs 0 = k):=Hd (by rw [← HF.out,HFN.out];simp)
     go_wp2_with fail
     go_ret
     exact ⟨by rw [HE.out];rfl,HO4.out⟩
    | true =>
    cases m3 with
    | false =>
     refine wp_region_only ys oz (by kernel_rfl) (by kernel_rfl) ?_
     repeat (go_big_quiet_step (fail))
     refine wpQuiet_nil ?_
     rintro ⟨w3,ho3⟩
     dsimp only
     have HO4:=Hd (HO3.out.tr ho3)
     have HZ4:=Hd (HZ3.out.only ho3 (by simp))
     clear t2 t3 s1 s2 p0 ho3
     have HF4:Hid (fndQ o.d o.r (l.drop (k + 1)) (rs.drop (k + 1)) (k + 1) = fndQ o.d o.r l rs 0):=Hd (by rw [← HF.out,HFN.out];simp)
     go_wp2_with fail
     go_roundw
     case rel => exact ⟨k + 1,by omega,by go_num,HF4,HO4,HZ4⟩
     case measure => simp [intOf];omega
    | true =>
     refine wp_region_only ys oz (by kernel_rfl) (by kernel_rfl) ?_
     repeat (go_big_quiet_step (fail))
     refine wpQuiet_nil ?_
     rintro ⟨w3,ho3⟩
     dsimp only
     have HO4:=Hd (HO3.out.tr ho3)
     have HZ4:=Hd (HZ3.out.only ho3 (by simp))
     clear t2 t3 s1 s2 p0 ho3
     have HE:Hid (fndQ o.d o.r l rs 0 = k):=Hd (by rw [← HF.out,HFN.out];simp)
     go_wp2_with fail
     go_ret
     exact ⟨by rw [HE.out];rfl,HO4.out⟩
  · have hdd:decide ((k:Int) < (l.length:Int)) = false:=by simp;omega
    obtain rfl:k = l.length:=by omega
    have HE:Hid (fndQ o.d o.r l rs 0 = -1):=Hd (by rw [← HF.out,List.drop_length];rfl)
    go_wp2_with fail
    go_ret
    exact ⟨by rw [HE.out];rfl,HO.out⟩
theorem rd_counts (o:Oq) (w:World):
 Calls Tryz.prog 116 #[.agg #[.int .i64 o.cl,.string ⟨o.d.toArray⟩,.string ⟨o.r.toArray⟩,.int .i64 o.st,.int .i64 o.en]] w fun e w' => e = .returned (.bool (cntO o)) ∧ Only [] w w':=by
 have hr:=o.hr
 obtain ⟨w0,hw0⟩:∃ u,w.alloc (.cells #[.int .i64 o.cl,.string ⟨o.d.toArray⟩,.string ⟨o.r.toArray⟩,.int .i64 o.st,.int .i64 o.en] 90) = u:=⟨_,rfl⟩
 obtain ⟨z,hz⟩:∃ z,w.heap.size = z:=⟨_,rfl⟩
 have HZ:Hid (Cells w0 z 90 [.int .i64 o.cl,.string ⟨o.d.toArray⟩,.string ⟨o.r.toArray⟩,.int .i64 o.st,.int .i64 o.en]):=Hd (hw0 ▸ hz ▸ Cells.new w _ _)
 have HO0:Hid (Only [] w w0):=Hd (hw0 ▸ oz.alloc _)
 have HCN:Hid (cntO o = (decide (0 ≤ o.en) && ((((unA o.r).getD Rp.zero).er != 17) && (((unA o.r).getD Rp.zero).er != 18)))):=Hd rfl
 have CA:=Hd (ref18_toAnswer o.r w0 hr)
 have z2:=HZ.out.cell (k:=2) rfl
 go_enter Tryz.func116,Tryz.ntmps116
 go_wp2_with fail
 refine CA.out.mono ?_
 rintro e w1 ⟨pv,rfl,hrp,ho1,_⟩
 obtain ⟨PA,pc,rfl⟩:=hrp.ps.shape
 obtain ⟨r,hrr⟩:∃ r,(unA o.r).getD Rp.zero = r:=⟨_,rfl⟩
 rw [hrr] at HCN ⊢
 obtain ⟨ec,hec⟩:∃ ec:Int,(if (unA o.r).isSome = true then 0 else 8) = ec:=⟨_,rfl⟩
 rw [hec]
 unfold Rp.val
 obtain ⟨b1,b2,b3⟩:=box_row w1 34 [.int .i64 0,.int .i64 0,.slice none 0 0] [.int .i64 r.er,.int .i64 r.n,.slice PA r.ps.length pc]
 have hone:(#[.int .i64 r.er,.int .i64 r.n,.slice PA r.ps.length pc]:Array Value).all (·.oneCell') = true:=by simp [Value.oneCell']
 obtain ⟨ys,hy⟩:∃ u,(w1.alloc (.cells #[.int .i64 0,.int .i64 0,.slice none 0 0] 34)).setRow w1.heap.size #[.int .i64 r.er,.int .i64 r.n,.slice PA r.ps.length pc] = u:=⟨_,rfl⟩
 have hys:(w1.alloc (.cells [.int .i64 0,.int .i64 0,.slice none 0 0].toArray 34)).setRow w1.heap.size [.int .i64 r.er,.int .i64 r.n,.slice PA r.ps.length pc].toArray = ys:=hy
 rw [hys] at b1 b3
 have HO1:=Hd ((HO0.out.tr ho1).tr b1)
 have HZ1:=Hd ((HZ.out.only ho1 (by simp)).only b1 (by simp))
 obtain ⟨g,hg⟩:∃ g,w1.heap.size = g:=⟨_,rfl⟩
 rw [hg] at b2 b3 hy
 have y0:=b3.cell (k:=0) rfl
 have c4:=HZ1.out.cell (k:=4) rfl
 clear hrp ho1 hrr hec HZ HO0 b1 b3 hys CA z2
 obtain ⟨b1,hb1⟩:∃ q,decide (0 ≤ o.en) = q:=⟨_,rfl⟩
 obtain ⟨b4,hb2⟩:∃ q,(r.er != 17) = q:=⟨_,rfl⟩
 obtain ⟨b5,hb3⟩:∃ q,(r.er != 18) = q:=⟨_,rfl⟩
 rw [hb1,hb2,hb3] at HCN
 go_upto_region 2 with ((try rw [hg]);refine wpList_store_row rfl 34 _ _ rfl g #[.int .i64 r.er,.int .i64 r.n,.slice PA r.ps.length pc] rfl rfl 34 _ b2 (by kernel_rfl) rfl hone ?_;(try rw [hy]))
 clear b2 hone hy
 cases b1 with
 | false =>
  go_wp2_with fail
  go_ret
  exact ⟨by rw [HCN.out];rfl,HO1.out⟩
 | true =>
 cases b4 with
 | false =>
  go_wp2_with fail
  go_ret
  exact ⟨by rw [HCN.out];rfl,HO1.out⟩
 | true =>
 cases b5 with
 | false =>
  go_wp2_with fail
  go_ret
  exact ⟨by rw [HCN.out];rfl,HO1.out⟩
 | true =>
  go_wp2_with fail
  go_ret
  exact ⟨by rw [HCN.out];rfl,HO1.out⟩
def atI (l:List Ey) (rs:List (List UInt8)) (o:Oq):Int:=if cntO o = true then plc l rs o else -1
def atV (l:List Ey) (rs:List (List UInt8)) (os:List Oq):List Value:=os.map fun o => .int .i64 (atI l rs o)
def badQ (l:List Ey) (rs:List (List UInt8)) (p q:Oq):Bool:=decide (0 ≤ atI l rs p) && (decide (0 ≤ atI l rs q) && (decide (p.en < q.st) && decide (atI l rs q ≤ atI l rs p)))
theorem fit_of (l:List Ey) (rs:List (List UInt8)) (os:List Oq) (h:(os.filter cntO).all (okP l rs) = true):fitP l rs os = true ↔ ∀ p ∈ os,∀ q ∈ os,badQ l rs p q = false:=by
 unfold fitP
 rw [h,Bool.true_and]
 unfold prP
 rw [List.all_eq_true]
 have ha:∀ o ∈ os,cntO o = true → 0 ≤ plc l rs o:=fun o ho hc => by
  have:=List.all_eq_true.1 h o (List.mem_filter.2 ⟨ho,hc⟩)
  unfold okP at this
  simp only [Bool.and_eq_true,decide_eq_true_eq] at this
  exact this.1
 constructor
 · intro hp p hpm q hqm
   unfold badQ atI
   by_cases c1:cntO p = true
   · by_cases c2:cntO q = true
     · rw [if_pos c1,if_pos c2]
       have:=List.all_eq_true.1 (hp p (List.mem_filter.2 ⟨hpm,c1⟩)) q (List.mem_filter.2 ⟨hqm,c2⟩)
       have a1:=ha p hpm c1
       have a2:=ha q hqm c2
       simp only [Bool.not_eq_true'] at this
       rw [this]
       simp
     · rw [if_neg c2]
       simp
   · rw [if_neg c1]
     simp
 · intro hp p hpm
   rw [List.all_eq_true]
   intro q hqm
   obtain ⟨p1,c1⟩:=List.mem_filter.1 hpm
   obtain ⟨q1,c2⟩:=List.mem_filter.1 hqm
   have:=hp p p1 q q1
   unfold badQ atI at this
   rw [if_pos c1,if_pos c2,decide_eq_true (ha p p1 c1),decide_eq_true (ha q q1 c2)] at this
   simp only [Bool.true_and] at this
   rw [this]
   rfl
theorem fit_not (l:List Ey) (rs:List (List UInt8)) (os:List Oq) (o:Oq) (h:o ∈ os) (hc:cntO o = true) (hn:okP l rs o = false):fitP l rs os = false:=by
 unfold fitP
 have:(os.filter cntO).all (okP l rs) = false:=by
  rw [List.all_eq_false]
  exact ⟨o,List.mem_filter.2 ⟨h,hc⟩,by rw [hn];simp⟩
 rw [this]
 rfl
def okK (l:List Ey) (rs:List (List UInt8)) (os:List Oq):Bool:=(os.filter cntO).all (okP l rs)
theorem okK_step {l:List Ey} {rs:List (List UInt8)} {os:List Oq} {k:Nat} {o:Oq} (h:os[k]? = some o):okK l rs (os.take (k + 1)) = (okK l rs (os.take k) && (!cntO o || okP l rs o)):=by
 unfold okK
 rw [List.take_add_one,h,List.filter_append,List.all_append]
 congr 1
 cases hc:cntO o <;> simp [hc]
theorem atV_step {l:List Ey} {rs:List (List UInt8)} {os:List Oq} {k:Nat} {o:Oq} (h:os[k]? = some o):atV l rs (os.take (k + 1)) = atV l rs (os.take k) ++ [.int .i64 (atI l rs o)]:=by
 unfold atV
 rw [List.take_add_one,h,List.map_append]
 rfl
theorem atV_at {w:World} {B:Nat} {v:Value} {l:List Ey} {rs:List (List UInt8)} {os:List Oq} (h:SlAt w B v 1 os.length (atV l rs os)) {k:Nat} {x:Oq} (hk:os[k]? = some x):
 ∃ b o c,v = .slice (some ⟨b,o,none⟩) os.length c ∧ w.cell? ⟨b,o + k,none⟩ = some (.int .i64 (atI l rs x)):=by
 have hlt:k < os.length:=(List.getElem?_eq_some_iff.1 hk).1
 obtain ⟨b,o,c,hv,_,hc⟩:=h.at_ (by omega)
 exact ⟨b,o,c,hv,hc k _ (by unfold atV;rw [List.getElem?_map,hk];rfl)⟩
end Go.Proofs.YtcjfmildalappaaGreat
