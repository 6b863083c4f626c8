/-
  Contracts; each theorem bears its own conditions.
-/
import Derived.Test.YtcjfmildalappaaGreatK26ab
import Derived.Test.YtcjfmildalappaaGreatK26ak
import Derived.Test.YtcjfmildalappaaGreatK26al
import Derived.Test.YtcjfmildalappaaGreatK26am
import Derived.Test.YtcjfmildalappaaGreatK26ay
set_option linter.all false
set_option maxRecDepth 100000
set_option maxHeartbeats 8000000
namespace Go.Proofs.YtcjfmildalappaaGreat
open Go.RowKit
def cm23:Cm:=⟨1,0,0,0,0,0,0,[],[],[],false⟩
def c23:C19:={ c:=cm23,iv:=.slice none 0 0 }
def rpA:Rp:=⟨0,1,[]⟩
def rpB:Rp:=⟨0,2,[]⟩
def oqA:Oq:=⟨0,pkS cm23,rpb rpA,1,2,by decide +kernel,by decide +kernel⟩
def oqB:Oq:=⟨0,pkS cm23,rpb rpB,1,2,by decide +kernel,by decide +kernel⟩
def oqC:Oq:=⟨0,[],[],0,-1,by decide,by decide⟩
theorem fitA:fitP (rowE [c23]) (repE AgS.new (rowE [c23])) [oqA] = true:=by decide +kernel
theorem fitB:fitP (rowE [c23]) (repE AgS.new (rowE [c23])) [oqB] = false:=by decide +kernel
theorem fitC:fitP [] (repE AgS.new []) [oqC] = true:=by decide +kernel
theorem stNil:(agB (runE AgS.new [])).isEmpty = false:=by decide +kernel
theorem slat_op (w:World) (o:Oq):SlAt (w.alloc (.cells o.cells.toArray 88)) (w.alloc (.cells o.cells.toArray 88)).heap.size (.slice (some ⟨w.heap.size,0,none⟩) 1 1) 5 [o].length (oqL [o]):=by
 have e:oqL [o] = o.cells:=by unfold oqL;simp
 rw [e]
 exact ⟨rfl,some ⟨w.heap.size,0,none⟩,1,rfl,Nat.le_refl _,by decide,fun _ => ⟨w.heap.size,0,rfl,by simp,fun j u h => by rw [Nat.zero_add];exact (Cells.new w 88 o.cells).cell h⟩⟩
theorem rpat_nil (w:World) (r:Rp) (h:r.ps = []) (h1:Wide64 r.er) (h2:Wide64 r.n):RpAt w (.slice none 0 0) r:=⟨by rw [h];exact SlAt.of_own (World.ownsRow_nil w 0 101 5),h1,h2,by rw [h];simp,by rw [h];simp⟩
theorem shown23 (w:World):Calls Tryz.prog 41 #[] w fun e w' => e = .returned (.bool true) ∧ Only [] w w':=by
 have o0:Only [] w (w.alloc (.cells #[.int .i64 1,.int .i64 0,.int .i64 0,.int .i64 0,.int .i64 0,.int .i64 0,.int .i64 0,.string ⟨#[]⟩,.string ⟨#[]⟩,.slice none 0 0,.bool false] 38)):=oz.alloc _
 have CROW:Hid (Calls Tryz.prog 43 #[.slice (some ⟨w.heap.size,0,none⟩) 1 1] (w.alloc (.cells #[.int .i64 1,.int .i64 0,.int .i64 0,.int .i64 0,.int .i64 0,.int .i64 0,.int .i64 0,.string ⟨#[]⟩,.string ⟨#[]⟩,.slice none 0 0,.bool false] 38)) fun e w' => ∃ rv,e = .returned rv ∧ w'.ownsRow (w.alloc (.cells #[.int .i64 1,.int .i64 0,.int .i64 0,.int .i64 0,.int .i64 0,.int .i64 0,.int .i64 0,.string ⟨#[]⟩,.string ⟨#[]⟩,.slice none 0 0,.bool false] 38)).heap.size 72 4 rv [c23].length (eyL (rowE [c23])) ∧ Only [] (w.alloc (.cells #[.int .i64 1,.int .i64 0,.int .i64 0,.int .i64 0,.int .i64 0,.int .i64 0,.int .i64 0,.string ⟨#[]⟩,.string ⟨#[]⟩,.slice none 0 0,.bool false] 38)) w'):=Hd
  (row23 _ [c23] _ (slat_one w c23) (fun a ha => by
   simp at ha
   subst ha
   exact ⟨SlAt.of_own (World.ownsRow_nil _ 0 99 3),(fun x hx => by cases hx),by decide +kernel,by decide +kernel,small_nums (by decide)⟩) (fun a ha => by
   simp at ha
   subst ha
   exact ⟨by decide,by decide,by decide,fun x hx => by cases hx⟩) (by decide))
 have CA1:=Hd (fun w' => ref18_answer rpA (.slice none 0 0) w' (rpat_nil w' rpA rfl ⟨by decide,by decide⟩ ⟨by decide,by decide⟩))
 have CA2:=Hd (fun w' => ref18_answer rpB (.slice none 0 0) w' (rpat_nil w' rpB rfl ⟨by decide,by decide⟩ ⟨by decide,by decide⟩))
 have HOK:Hid (EyOk (rowE [c23])):=Hd (rowE_ok (by decide))
 have HO0:=Hd o0
 obtain ⟨l0,hl0⟩:∃ l,rowE [c23] = l:=⟨_,rfl⟩
 have hlen:l0.length = 1:=by rw [← hl0];rfl
 have hg0:l0[0]? = some ⟨1,1,2,pkS cm23⟩:=by rw [← hl0,rowE_get [c23] 0 c23 rfl];unfold rowF;rw [if_pos (by decide +kernel)];rfl
 rw [hl0] at CROW HOK
 have FA:=fitA
 have FB:=fitB
 rw [hl0] at FA FB
 have HFA:=Hd FA
 have HFB:=Hd FB
 obtain ⟨ra,hra⟩:∃ r,rpb rpA = r:=⟨_,rfl⟩
 obtain ⟨rb',hrb⟩:∃ r,rpb rpB = r:=⟨_,rfl⟩
 obtain ⟨pk,hpk⟩:∃ r,pkS cm23 = r:=⟨_,rfl⟩
 have HEA:Hid (oqA.cells = [.int .i64 0,.string ⟨pk.toArray⟩,.string ⟨ra.toArray⟩,.int .i64 1,.int .i64 2]):=Hd (by rw [← hpk,← hra];rfl)
 have HEB:Hid (oqB.cells = [.int .i64 0,.string ⟨pk.toArray⟩,.string ⟨rb'.toArray⟩,.int .i64 1,.int .i64 2]):=Hd (by rw [← hpk,← hrb];rfl)
 rw [hra] at CA1
 rw [hrb] at CA2
 rw [hpk] at hg0
 have CA1:Hid (∀ w',Calls Tryz.prog 56 #[.agg #[.int .i64 0,.int .i64 1,.slice none 0 0]] w' fun e w2 => e = .returned (.string ⟨ra.toArray⟩) ∧ Only [] w' w2):=CA1
 have CA2:Hid (∀ w',Calls Tryz.prog 56 #[.agg #[.int .i64 0,.int .i64 2,.slice none 0 0]] w' fun e w2 => e = .returned (.string ⟨rb'.toArray⟩) ∧ Only [] w' w2):=CA2
 clear hl0 FA FB hra hrb hpk o0
 go_enter Tryz.func41,Tryz.ntmps41
 go_wp2_with fail
 refine CROW.out.mono ?_
 rintro e w1 ⟨rv,rfl,hrv,ho1⟩
 have HO1:=Hd (HO0.out.tr ho1)
 have HRV:Hid (SlAt w1 w1.heap.size rv 4 l0.length (eyL l0)):=Hd (by have:=SlAt.of_own hrv;rw [hlen];exact this)
 obtain ⟨RA,rc,rfl⟩:=HRV.out.shape
 clear hrv ho1 CROW HO0
 obtain ⟨rb0,ro0,rc0,hv0,q0,q1,q2,q3⟩:=eyL_at HRV.out hg0
 injection hv0 with e1 e2 e3
 subst e1;subst e3
 clear e2
 have t3:=fun u:Since w1 => u.cell q3
 rw [hlen]
 go_wp2_with fail
 have HS:Hid (∀ w',Only [] w1 w' → w'.cell? ⟨rb0,ro0 + 3,none⟩ = some (.string ⟨pk.toArray⟩)):=Hd (fun w' ho => (ho.cell (p:=⟨rb0,ro0 + 3,none⟩) (World.block_lt_of_cell? w1 _ q3) (by simp)).trans q3)
 clear t3 q0 q1 q2 q3
 go_region_held3 (fun w':World => w'.cell? ⟨rb0,ro0 + 3,none⟩ = some (.string ⟨pk.toArray⟩))
  (exact HS.out _ (by repeat (first | exact Only.refl _ _ | refine Only.drew ?_ | refine Only.alloc ?_ _ | refine Only.setCell ?_ (.inr (Nat.le_refl _)) _ | refine Only.tr ?_ (by assumption))))
  (first
   | (go_at_call 56;refine (CA1.out _).mono ?_;rintro e w2 ⟨rfl,ho2⟩;(try have hb:=(Cells.new w1.drew 88 [.int .i64 0,.string ⟨#[]⟩,.string ⟨#[]⟩,.int .i64 0,.int .i64 0]).only ho2 (by simp));(try have z0:w2.cell? ⟨w1.heap.size,0,none⟩ = some (.int .i64 0):=hb.cell (k:=0) rfl);(try have z1:w2.cell? ⟨w1.heap.size,1,none⟩ = some (.string ⟨#[]⟩):=hb.cell (k:=1) rfl);(try have z2:w2.cell? ⟨w1.heap.size,2,none⟩ = some (.string ⟨#[]⟩):=hb.cell (k:=2) rfl);(try have z3:w2.cell? ⟨w1.heap.size,3,none⟩ = some (.int .i64 0):=hb.cell (k:=3) rfl);(try have z4:w2.cell? ⟨w1.heap.size,4,none⟩ = some (.int .i64 0):=hb.cell (k:=4) rfl);(try have zf:∀ k,w2.frozen? ⟨w1.heap.size,k,none⟩ = false:=fun k => hb.frozen k)))
 · have HZ:Hid (Cells (w2.alloc (.cells #[.int .i64 0,.string ⟨pk.toArray⟩,.string ⟨ra.toArray⟩,.int .i64 1,.int .i64 2] 88)) w2.heap.size 88 [.int .i64 0,.string ⟨pk.toArray⟩,.string ⟨ra.toArray⟩,.int .i64 1,.int .i64 2]):=Hd (Cells.new w2 _ [_,_,_,_,_])
   have HW:Hid (Only [] w1 (w2.alloc (.cells #[.int .i64 0,.string ⟨pk.toArray⟩,.string ⟨ra.toArray⟩,.int .i64 1,.int .i64 2] 88))):=Hd ((((Only.refl [] w1).drew).tr ho2).alloc _)
   obtain ⟨z,hz⟩:∃ z,w2.heap.size = z:=⟨_,rfl⟩
   obtain ⟨w3,hw3⟩:∃ u,w2.alloc (.cells #[.int .i64 0,.string ⟨pk.toArray⟩,.string ⟨ra.toArray⟩,.int .i64 1,.int .i64 2] 88) = u:=⟨_,rfl⟩
   rw [hz,hw3] at HZ ⊢
   rw [hw3] at HW
   have HO3:=Hd (HO1.out.tr HW.out)
   clear hw3 hz ho2
   have a0:=HZ.out.cell (k:=0) rfl
   have a1:=HZ.out.cell (k:=1) rfl
   have a2:=HZ.out.cell (k:=2) rfl
   have a3:=HZ.out.cell (k:=3) rfl
   have a4:=HZ.out.cell (k:=4) rfl
   go_wp2_with fail
   refine (CA2.out _).mono ?_
   rintro e w4 ⟨rfl,ho4⟩
   clear a0 a1 a2 a3 a4
   have HB4:Hid (Cells w4 w3.heap.size 88 [.int .i64 0,.string ⟨pk.toArray⟩,.string ⟨ra.toArray⟩,.int .i64 1,.int .i64 2]):=Hd ((Cells.new w3 88 [.int .i64 0,.string ⟨pk.toArray⟩,.string ⟨ra.toArray⟩,.int .i64 1,.int .i64 2]).only ho4 (by simp))
   have HA4:=Hd ((HZ.out.alloc (.cells #[.int .i64 0,.string ⟨pk.toArray⟩,.string ⟨ra.toArray⟩,.int .i64 1,.int .i64 2] 88)).only ho4 (by simp))
   have hzl:=HZ.out.lt
   have hne:z ≠ w3.heap.size:=by omega
   have O4:Only [] w1 w4:=(HW.out.alloc (.cells #[.int .i64 0,.string ⟨pk.toArray⟩,.string ⟨ra.toArray⟩,.int .i64 1,.int .i64 2] 88)).tr ho4
   have hW3:=HW.out.size
   obtain ⟨y,hy⟩:∃ y,w3.heap.size = y:=⟨_,rfl⟩
   rw [hy] at HB4 hne hW3 ⊢
   have b2:=HB4.out.cell (k:=2) rfl
   have bf:=HB4.out.frozen 2
   go_upto_region 5 with fail
   have HB5:Hid (Cells (w4.setCell ⟨y,2,none⟩ (.string ⟨rb'.toArray⟩)) y 88 [.int .i64 0,.string ⟨pk.toArray⟩,.string ⟨rb'.toArray⟩,.int .i64 1,.int .i64 2]):=Hd (HB4.out.set 2 _)
   have HA5:Hid (Cells (w4.setCell ⟨y,2,none⟩ (.string ⟨rb'.toArray⟩)) z 88 [.int .i64 0,.string ⟨pk.toArray⟩,.string ⟨ra.toArray⟩,.int .i64 1,.int .i64 2]):=Hd (HA4.out.far (p:=⟨y,2,none⟩) hne _)
   have O5:Only [] w1 (w4.setCell ⟨y,2,none⟩ (.string ⟨rb'.toArray⟩)):=O4.setCell (.inr hW3) _
   obtain ⟨w5,hw5⟩:∃ u,w4.setCell ⟨y,2,none⟩ (.string ⟨rb'.toArray⟩) = u:=⟨_,rfl⟩
   rw [hw5] at HB5 HA5 O5 ⊢
   clear hw5 b2 bf HB4 HA4 ho4 hzl hne O4 hW3 hy HZ HW HO3
   have HO5:=Hd O5
   have a0:=HA5.out.cell (k:=0) rfl
   have a1:=HA5.out.cell (k:=1) rfl
   have a2:=HA5.out.cell (k:=2) rfl
   have a3:=HA5.out.cell (k:=3) rfl
   have a4:=HA5.out.cell (k:=4) rfl
   have HFIT:Hid (∀ (w':World) (o:Oq) (r:Bool),Only [] w1 w' → fitP l0 (repE AgS.new l0) [o] = r → Calls Tryz.prog 54 #[.slice (some ⟨rb0,ro0,none⟩) 1 rc,.slice (some ⟨w'.heap.size,0,none⟩) 1 1] (w'.alloc (.cells o.cells.toArray 88)) fun e w2 => e = .returned (.bool r) ∧ Only [] (w'.alloc (.cells o.cells.toArray 88)) w2):=Hd (fun w' o r ho hr => by
    rw [← hr]
    have h2:=ho.alloc (.cells o.cells.toArray 88)
    exact hi_fits _ _ l0 [o] _ (hlen ▸ ((HRV.out.only h2 (Nat.le_refl _) (by simp)).more h2.size)) HOK.out (slat_op w' o) (by simp) (hi_sort_few _ (by have:=List.length_filter_le cntO [o];simp at this ⊢;omega)))
   have CF1:=HFIT.out w5 oqA true HO5.out HFA.out
   rw [HEA.out] at CF1
   go_wp2_with fail
   refine CF1.mono ?_
   rintro e w6 ⟨rfl,ho6⟩
   have O6:Only [] w1 w6:=(HO5.out.alloc _).tr ho6
   have HO6:=Hd O6
   have HB6:=Hd ((HB5.out.alloc (.cells #[.int .i64 0,.string ⟨pk.toArray⟩,.string ⟨ra.toArray⟩,.int .i64 1,.int .i64 2] 88)).only ho6 (by simp))
   clear a0 a1 a2 a3 a4 CF1 ho6 O6 O5 HO5 HA5 HB5
   have a0:=HB6.out.cell (k:=0) rfl
   have a1:=HB6.out.cell (k:=1) rfl
   have a2:=HB6.out.cell (k:=2) rfl
   have a3:=HB6.out.cell (k:=3) rfl
   have a4:=HB6.out.cell (k:=4) rfl
   have CF2:=HFIT.out w6 oqB false HO6.out HFB.out
   rw [HEB.out] at CF2
   go_wp2_with fail
   refine CF2.mono ?_
   rintro e w7 ⟨rfl,ho7⟩
   have HO7:Hid (Only [] w1 w7):=Hd ((HO6.out.alloc _).tr ho7)
   clear a0 a1 a2 a3 a4 CF2 ho7 HO6 HB6 HFIT
   have CF3:Calls Tryz.prog 54 #[.slice none 0 0,.slice (some ⟨w7.heap.size,0,none⟩) 1 1] (w7.alloc (.cells #[.int .i64 0,.string ⟨#[]⟩,.string ⟨#[]⟩,.int .i64 0,.int .i64 (-1)] 88)) fun e w2 => e = .returned (.bool true) ∧ Only [] (w7.alloc (.cells #[.int .i64 0,.string ⟨#[]⟩,.string ⟨#[]⟩,.int .i64 0,.int .i64 (-1)] 88)) w2:=by
    have:=hi_fits (.slice none 0 0) _ [] [oqC] _ (SlAt.of_own (World.ownsRow_nil _ 0 72 4)) ⟨by simp,fun x hx => by cases hx⟩ (slat_op w7 oqC) (by simp) (hi_sort_few _ (by have:=List.length_filter_le cntO [oqC];simp at this ⊢;omega))
    rw [fitC] at this
    exact this
   go_wp2_with fail
   refine CF3.mono ?_
   rintro e w8 ⟨rfl,ho8⟩
   have HO8:Hid (Only [] w1 w8):=Hd ((HO7.out.alloc _).tr ho8)
   clear CF3 ho8 HO7
   have CR:Calls Tryz.prog 45 #[.slice (some ⟨rb0,ro0,none⟩) 1 rc] w8 fun e w' => ∃ rv,e = .returned rv ∧ w'.ownsRow w8.heap.size 9 1 rv l0.length (svs (repE AgS.new l0)) ∧ Only [] w8 w':=hi_replies _ l0 w8 (hlen ▸ ((HRV.out.only HO8.out (Nat.le_refl _) (by simp)).more HO8.out.size)) HOK.out
   go_wp2_with fail
   refine CR.mono ?_
   rintro e w9 ⟨rv,rfl,hrv,ho9⟩
   obtain ⟨VA,vc,rfl⟩:=(SlAt.of_own hrv).shape
   have HO9:=Hd (HO8.out.tr ho9)
   rw [hlen]
   have CST:=Hd (hi_state (.slice none 0 0) [] w9 (SlAt.of_own (World.ownsRow_nil _ 0 72 4)) ⟨by simp,fun x hx => by cases hx⟩)
   obtain ⟨sb,hsb⟩:∃ x,agB (runE AgS.new []) = x:=⟨_,rfl⟩
   rw [hsb] at CST
   have hsn:sb.isEmpty = false:=hsb ▸ stNil
   clear CR hrv ho9 hsb
   go_wp2_with fail
   refine CST.out.mono ?_
   rintro e w10 ⟨rfl,ho10⟩
   have HF:=Hd (HO1.out.tr (HO9.out.tr ho10))
   clear CST ho10
   go_wp2_with fail
   go_ret
   exact ⟨rfl,HF.out⟩
 · have HZ:Hid (Cells (((((w2.setCell ⟨w1.heap.size,0,none⟩ (.int .i64 0)).setCell ⟨w1.heap.size,1,none⟩ (.string ⟨pk.toArray⟩)).setCell ⟨w1.heap.size,2,none⟩ (.string ⟨ra.toArray⟩)).setCell ⟨w1.heap.size,3,none⟩ (.int .i64 1)).setCell ⟨w1.heap.size,4,none⟩ (.int .i64 2)) w1.heap.size 88 [.int .i64 0,.string ⟨pk.toArray⟩,.string ⟨ra.toArray⟩,.int .i64 1,.int .i64 2]):=Hd (hb.setMany 0 [.int .i64 0,.string ⟨pk.toArray⟩,.string ⟨ra.toArray⟩,.int .i64 1,.int .i64 2])
   have HW:Hid (Only [] w1 (((((w2.setCell ⟨w1.heap.size,0,none⟩ (.int .i64 0)).setCell ⟨w1.heap.size,1,none⟩ (.string ⟨pk.toArray⟩)).setCell ⟨w1.heap.size,2,none⟩ (.string ⟨ra.toArray⟩)).setCell ⟨w1.heap.size,3,none⟩ (.int .i64 1)).setCell ⟨w1.heap.size,4,none⟩ (.int .i64 2))):=Hd ((((((((Only.refl [] w1).drew.alloc (.cells #[.int .i64 0,.string ⟨#[]⟩,.string ⟨#[]⟩,.int .i64 0,.int .i64 0] 88)).tr ho2)).setCell (.inr (Nat.le_refl _)) _).setCell (.inr (Nat.le_refl _)) _).setCell (.inr (Nat.le_refl _)) _).setCell (.inr (Nat.le_refl _)) _ |>.setCell (.inr (Nat.le_refl _)) _)
   obtain ⟨z,hz⟩:∃ z,w1.heap.size = z:=⟨_,rfl⟩
   clear z0 z1 z2 z3 z4 zf hb
   obtain ⟨w3,hw3⟩:∃ u,(((((w2.setCell ⟨w1.heap.size,0,none⟩ (.int .i64 0)).setCell ⟨w1.heap.size,1,none⟩ (.string ⟨pk.toArray⟩)).setCell ⟨w1.heap.size,2,none⟩ (.string ⟨ra.toArray⟩)).setCell ⟨w1.heap.size,3,none⟩ (.int .i64 1)).setCell ⟨w1.heap.size,4,none⟩ (.int .i64 2)) = u:=⟨_,rfl⟩
   rw [hw3] at HZ HW ⊢
   rw [hz] at HZ ⊢
   have HO3:=Hd (HO1.out.tr HW.out)
   clear hw3 hz ho2
   have a0:=HZ.out.cell (k:=0) rfl
   have a1:=HZ.out.cell (k:=1) rfl
   have a2:=HZ.out.cell (k:=2) rfl
   have a3:=HZ.out.cell (k:=3) rfl
   have a4:=HZ.out.cell (k:=4) rfl
   go_wp2_with fail
   refine (CA2.out _).mono ?_
   rintro e w4 ⟨rfl,ho4⟩
   clear a0 a1 a2 a3 a4
   have HB4:Hid (Cells w4 w3.heap.size 88 [.int .i64 0,.string ⟨pk.toArray⟩,.string ⟨ra.toArray⟩,.int .i64 1,.int .i64 2]):=Hd ((Cells.new w3 88 [.int .i64 0,.string ⟨pk.toArray⟩,.string ⟨ra.toArray⟩,.int .i64 1,.int .i64 2]).only ho4 (by simp))
   have HA4:=Hd ((HZ.out.alloc (.cells #[.int .i64 0,.string ⟨pk.toArray⟩,.string ⟨ra.toArray⟩,.int .i64 1,.int .i64 2] 88)).only ho4 (by simp))
   have hzl:=HZ.out.lt
   have hne:z ≠ w3.heap.size:=by omega
   have O4:Only [] w1 w4:=(HW.out.alloc (.cells #[.int .i64 0,.string ⟨pk.toArray⟩,.string ⟨ra.toArray⟩,.int .i64 1,.int .i64 2] 88)).tr ho4
   have hW3:=HW.out.size
   obtain ⟨y,hy⟩:∃ y,w3.heap.size = y:=⟨_,rfl⟩
   rw [hy] at HB4 hne hW3 ⊢
   have b2:=HB4.out.cell (k:=2) rfl
   have bf:=HB4.out.frozen 2
   go_upto_region 5 with fail
   have HB5:Hid (Cells (w4.setCell ⟨y,2,none⟩ (.string ⟨rb'.toArray⟩)) y 88 [.int .i64 0,.string ⟨pk.toArray⟩,.string ⟨rb'.toArray⟩,.int .i64 1,.int .i64 2]):=Hd (HB4.out.set 2 _)
   have HA5:Hid (Cells (w4.setCell ⟨y,2,none⟩ (.string ⟨rb'.toArray⟩)) z 88 [.int .i64 0,.string ⟨pk.toArray⟩,.string ⟨ra.toArray⟩,.int .i64 1,.int .i64 2]):=Hd (HA4.out.far (p:=⟨y,2,none⟩) hne _)
   have O5:Only [] w1 (w4.setCell ⟨y,2,none⟩ (.string ⟨rb'.toArray⟩)):=O4.setCell (.inr hW3) _
   obtain ⟨w5,hw5⟩:∃ u,w4.setCell ⟨y,2,none⟩ (.string ⟨rb'.toArray⟩) = u:=⟨_,rfl⟩
   rw [hw5] at HB5 HA5 O5 ⊢
   clear hw5 b2 bf HB4 HA4 ho4 hzl hne O4 hW3 hy HZ HW HO3
   have HO5:=Hd O5
   have a0:=HA5.out.cell (k:=0) rfl
   have a1:=HA5.out.cell (k:=1) rfl
   have a2:=HA5.out.cell (k:=2) rfl
   have a3:=HA5.out.cell (k:=3) rfl
   have a4:=HA5.out.cell (k:=4) rfl
   have HFIT:Hid (∀ (w':World) (o:Oq) (r:Bool),Only [] w1 w' → fitP l0 (repE AgS.new l0) [o] = r → Calls Tryz.prog 54 #[.slice (some ⟨rb0,ro0,none⟩) 1 rc,.slice (some ⟨w'.heap.size,0,none⟩) 1 1] (w'.alloc (.cells o.cells.toArray 88)) fun e w2 => e = .returned (.bool r) ∧ Only [] (w'.alloc (.cells o.cells.toArray 88)) w2):=Hd (fun w' o r ho hr => by
    rw [← hr]
    have h2:=ho.alloc (.cells o.cells.toArray 88)
    exact hi_fits _ _ l0 [o] _ (hlen ▸ ((HRV.out.only h2 (Nat.le_refl _) (by simp)).more h2.size)) HOK.out (slat_op w' o) (by simp) (hi_sort_few _ (by have:=List.length_filter_le cntO [o];simp at this ⊢;omega)))
   have CF1:=HFIT.out w5 oqA true HO5.out HFA.out
   rw [HEA.out] at CF1
   go_wp2_with fail
   refine CF1.mono ?_
   rintro e w6 ⟨rfl,ho6⟩
   have O6:Only [] w1 w6:=(HO5.out.alloc _).tr ho6
   have HO6:=Hd O6
   have HB6:=Hd ((HB5.out.alloc (.cells #[.int .i64 0,.string ⟨pk.toArray⟩,.string ⟨ra.toArray⟩,.int .i64 1,.int .i64 2] 88)).only ho6 (by simp))
   clear a0 a1 a2 a3 a4 CF1 ho6 O6 O5 HO5 HA5 HB5
   have a0:=HB6.out.cell (k:=0) rfl
   have a1:=HB6.out.cell (k:=1) rfl
   have a2:=HB6.out.cell (k:=2) rfl
   have a3:=HB6.out.cell (k:=3) rfl
   have a4:=HB6.out.cell (k:=4) rfl
   have CF2:=HFIT.out w6 oqB false HO6.out HFB.out
   rw [HEB.out] at CF2
   go_wp2_with fail
   refine CF2.mono ?_
   rintro e w7 ⟨rfl,ho7⟩
   have HO7:Hid (Only [] w1 w7):=Hd ((HO6.out.alloc _).tr ho7)
   clear a0 a1 a2 a3 a4 CF2 ho7 HO6 HB6 HFIT
   have CF3:Calls Tryz.prog 54 #[.slice none 0 0,.slice (some ⟨w7.heap.size,0,none⟩) 1 1] (w7.alloc (.cells #[.int .i64 0,.string ⟨#[]⟩,.string ⟨#[]⟩,.int .i64 0,.int .i64 (-1)] 88)) fun e w2 => e = .returned (.bool true) ∧ Only [] (w7.alloc (.cells #[.int .i64 0,.string ⟨#[]⟩,.string ⟨#[]⟩,.int .i64 0,.int .i64 (-1)] 88)) w2:=by
    have:=hi_fits (.slice none 0 0) _ [] [oqC] _ (SlAt.of_own (World.ownsRow_nil _ 0 72 4)) ⟨by simp,fun x hx => by cases hx⟩ (slat_op w7 oqC) (by simp) (hi_sort_few _ (by have:=List.length_filter_le cntO [oqC];simp at this ⊢;omega))
    rw [fitC] at this
    exact this
   go_wp2_with fail
   refine CF3.mono ?_
   rintro e w8 ⟨rfl,ho8⟩
   have HO8:Hid (Only [] w1 w8):=Hd ((HO7.out.alloc _).tr ho8)
   clear CF3 ho8 HO7
   have CR:Calls Tryz.prog 45 #[.slice (some ⟨rb0,ro0,none⟩) 1 rc] w8 fun e w' => ∃ rv,e = .returned rv ∧ w'.ownsRow w8.heap.size 9 1 rv l0.length (svs (repE AgS.new l0)) ∧ Only [] w8 w':=hi_replies _ l0 w8 (hlen ▸ ((HRV.out.only HO8.out (Nat.le_refl _) (by simp)).more HO8.out.size)) HOK.out
   go_wp2_with fail
   refine CR.mono ?_
   rintro e w9 ⟨rv,rfl,hrv,ho9⟩
   obtain ⟨VA,vc,rfl⟩:=(SlAt.of_own hrv).shape
   have HO9:=Hd (HO8.out.tr ho9)
   rw [hlen]
   have CST:=Hd (hi_state (.slice none 0 0) [] w9 (SlAt.of_own (World.ownsRow_nil _ 0 72 4)) ⟨by simp,fun x hx => by cases hx⟩)
   obtain ⟨sb,hsb⟩:∃ x,agB (runE AgS.new []) = x:=⟨_,rfl⟩
   rw [hsb] at CST
   have hsn:sb.isEmpty = false:=hsb ▸ stNil
   clear CR hrv ho9 hsb
   go_wp2_with fail
   refine CST.out.mono ?_
   rintro e w10 ⟨rfl,ho10⟩
   have HF:=Hd (HO1.out.tr (HO9.out.tr ho10))
   clear CST ho10
   go_wp2_with fail
   go_ret
   exact ⟨rfl,HF.out⟩
theorem fit_not (l:List Ey) (rs:List (List UInt8)) (os:List Oq) (o:Oq) (h:o ∈ os) (hc:cntO o = true) (hn:okP l rs o = false):fitP l rs os = false:=by
 unfold fitP
 have:(os.filter cntO).all (okP l rs) = false:=by
  rw [List.all_eq_false]
  exact ⟨o,List.mem_filter.2 ⟨h,hc⟩,by rw [hn];simp⟩
 rw [this]
 rfl
end Go.Proofs.YtcjfmildalappaaGreat
