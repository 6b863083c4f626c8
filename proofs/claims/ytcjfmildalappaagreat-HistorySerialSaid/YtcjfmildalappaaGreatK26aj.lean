/-
  Contracts; each theorem bears its own conditions.
-/
import Derived.Test.YtcjfmildalappaaGreatK26ab
import Derived.Test.YtcjfmildalappaaGreatK26ac
import Derived.Test.YtcjfmildalappaaGreatK26ai
set_option linter.all false
set_option maxRecDepth 100000
set_option maxHeartbeats 8000000
namespace Go.Proofs.YtcjfmildalappaaGreat
open Go.RowKit
theorem cright1 (x:It) (hx:x.Len) (w:World):Calls Tryz.prog 73 #[.agg #[.string ⟨x.id.toArray⟩,.string ⟨x.ti.toArray⟩,.string ⟨x.li.toArray⟩]] w fun e w' => e = .returned (.bool (!itR x)) ∧ Only [] w w':=by
 have C:=Hd (fun w' => feed_right x hx w')
 obtain ⟨r,hr⟩:∃ r,itR x = r:=⟨_,rfl⟩
 rw [hr] at C ⊢
 clear hr
 go_enter Tryz.func73,Tryz.ntmps73
 go_wp2_with fail
 refine (C.out _).mono ?_
 rintro e w1 ⟨rfl,ho⟩
 have HO:=Hd (((Only.refl [] w).alloc _).tr ho)
 clear ho
 go_wp2_with fail
 go_ret
 exact ⟨rfl,HO.out⟩
theorem indexFunc_it18 (v:Value) (l:List It) (w:World) (hs:SlAt w w.heap.size v 3 l.length (itL l)) (hl:l.length ≤ 1000000) (hx:∀ x ∈ l,x.Len):
 Calls Tryz.prog 141 #[v,.func (.func 73) #[] #[]] w fun e w' => (∃ i:Int,e = .returned (.int .i64 i) ∧ (decide (0 ≤ i) = l.any (fun x => !itR x))) ∧ Only [] w w':=by
 obtain ⟨A,c,rfl⟩:=hs.shape
 have HS:=Hd hs
 have HX:=Hd hx
 clear hs hx
 go_enter Tryz.func141,Tryz.ntmps141
 go_wp2_with fail
 go_loopw [8] (fun i wr => ∃ k:Nat,k ≤ l.length ∧ i = .int .i64 k ∧ Hid ((l.take k).any (fun x => !itR x) = false) ∧ Only [] w wr) (fun i _ => l.length - (intOf i).toNat)
 case atStart => exact ⟨0,by omega,rfl,Hd rfl,Only.refl _ _⟩
 case round =>
  obtain ⟨k,hk,rfl,hno,ho⟩:=hrel
  by_cases hlt:k < l.length
  · have hlt':(k:Int) < (l.length:Int):=by omega
    have hk1:=List.getElem?_eq_getElem hlt
    obtain ⟨x,hx⟩:∃ x,l[k] = x:=⟨_,rfl⟩
    have hxl:=HX.out l[k] (List.getElem_mem _)
    rw [hx] at hk1 hxl
    obtain ⟨ab,ao,ac,hv,hab,hc⟩:=(HS.out.only ho (Nat.le_refl _) (by simp)).at_ (by omega)
    have q0:wr.cell? ⟨ab,ao + k * 3,none⟩ = some (.string ⟨x.id.toArray⟩):=hc (k * 3 + 0) _ (itL_get l k 0 x hk1 (by omega))
    have q1:wr.cell? ⟨ab,ao + k * 3 + 1,none⟩ = some (.string ⟨x.ti.toArray⟩):=hc (k * 3 + 1) _ (itL_get l k 1 x hk1 (by omega))
    have q2:wr.cell? ⟨ab,ao + k * 3 + 2,none⟩ = some (.string ⟨x.li.toArray⟩):=hc (k * 3 + 2) _ (itL_get l k 2 x hk1 (by omega))
    have F1:=Hd (cright1 x hxl wr)
    have HT:Hid ((l.take (k + 1)).any (fun x => !itR x) = !itR x):=by show _ = _;rw [List.take_add_one,hk1,List.any_append,hno.out];simp
    have HA:Hid ((!itR x) = true → l.any (fun x => !itR x) = true):=fun h => List.any_eq_true.2 ⟨x,List.mem_of_getElem? hk1,h⟩
    injection hv with e1 e2 e3
    subst e1;subst e3
    clear e2 hc hx hk1 hno
    obtain ⟨rb1,hb⟩:∃ rb1,(!itR x) = rb1:=⟨_,rfl⟩
    rw [hb] at F1 HA HT
    clear hb
    cases rb1 with
    | true =>
     have HR:=Hd (HA.out rfl)
     clear HT HA
     go_wp2_with (go_at_call 73;refine F1.out.mono ?_;rintro e w1 ⟨rfl,ho1⟩)
     go_ret
     exact ⟨⟨k,rfl,by rw [HR.out];simp⟩,ho.tr0 ho1⟩
    | false =>
     clear HA
     go_wp2_with (go_at_call 73;refine F1.out.mono ?_;rintro e w1 ⟨rfl,ho1⟩)
     go_roundw
     case rel => exact ⟨k + 1,by omega,by go_num,HT,ho.tr0 ho1⟩
     case measure => simp [intOf];omega
  · have hd0:decide ((k:Int) < (l.length:Int)) = false:=by simp;omega
    have HF:Hid (l.any (fun x => !itR x) = false):=by have:=hno.out;rwa [List.take_of_length_le (by omega)] at this
    clear hno
    go_wp2_with fail
    go_ret
    exact ⟨⟨-1,rfl,by rw [HF.out];simp⟩,ho⟩
theorem containsFunc_it18 (v:Value) (l:List It) (w:World) (hs:SlAt w w.heap.size v 3 l.length (itL l)) (hl:l.length ≤ 1000000) (hx:∀ x ∈ l,x.Len):
 Calls Tryz.prog 72 #[v,.func (.func 73) #[] #[]] w fun e w' => e = .returned (.bool (!l.all itR)) ∧ Only [] w w':=by
 have C:=Hd (indexFunc_it18 v l w hs hl hx)
 have hall:(l.any fun x => !itR x) = !l.all itR:=by rw [List.not_all_eq_any_not]
 rw [hall] at C
 obtain ⟨A,c,rfl⟩:=hs.shape
 clear hs hx hall
 obtain ⟨r,hr⟩:∃ r,(!l.all itR) = r:=⟨_,rfl⟩
 rw [hr] at C ⊢
 clear hr
 go_enter Tryz.func72,Tryz.ntmps72
 go_wp2_with fail
 refine C.out.mono ?_
 rintro e w1 ⟨⟨i,rfl,hi⟩,ho⟩
 have HI:=Hd hi
 clear hi
 go_wp2_with fail
 go_ret
 exact ⟨by rw [← HI.out];rfl,ho⟩
structure Cm where
 kd:Int
 ss:Int
 sq:Int
 sh:Int
 nd:Int
 ep:Int
 n:Int
 fd:List UInt8
 id:List UInt8
 its:List It
 fl:Bool
def Cm.cells (c:Cm) (iv:Value):List Value:=[.int .i64 c.kd,.int .i64 c.ss,.int .i64 c.sq,.int .i64 c.sh,.int .i64 c.nd,.int .i64 c.ep,.int .i64 c.n,.string ⟨c.fd.toArray⟩,.string ⟨c.id.toArray⟩,iv,.bool c.fl]
def Cm.val (c:Cm) (iv:Value):Value:=.agg #[.int .i64 c.kd,.int .i64 c.ss,.int .i64 c.sq,.int .i64 c.sh,.int .i64 c.nd,.int .i64 c.ep,.int .i64 c.n,.string ⟨c.fd.toArray⟩,.string ⟨c.id.toArray⟩,iv,.bool c.fl]
def clB (k:Int):Bool:=k == 2 || (k == 3 || (k == 4 || k == 5))
def bareB (c:Cm):Bool:=
 !(!clB c.kd && decide (0 < c.ss + c.sq)) && !(!clB c.kd && !(c.kd == 8) && !c.fd.isEmpty) && !(!(c.kd == 4) && !c.id.isEmpty) && !(!(c.kd == 5) && decide (0 < c.n)) &&
 !(!(c.kd == 7 || c.kd == 8) && decide (0 < c.nd)) && !(!(c.kd == 7 || c.kd == 8 || c.kd == 9) && decide (0 < c.sh)) && !(!(c.kd == 8) && (decide (0 < c.ep) || c.fl || decide (0 < c.its.length))) && (!c.fl || !decide (0 < c.its.length))
theorem bfx {c:Cm} {b:Bool} {w w':World} (h:bareB c = b) (ho:Only [] w w'):Ending.returned (.bool b) = .returned (.bool (bareB c)) ∧ Only [] w w':=⟨by rw [h],ho⟩
theorem client_call (c:Cm) (iv:Value) (w:World):Calls Tryz.prog 26 #[c.val iv] w fun e w' => e = .returned (.bool (clB c.kd)) ∧ Only [] w w':=by
 unfold Cm.val clB
 have HO:=Hd (((Only.refl [] w).alloc (.cells #[.int .i64 c.kd,.int .i64 c.ss,.int .i64 c.sq,.int .i64 c.sh,.int .i64 c.nd,.int .i64 c.ep,.int .i64 c.n,.string ⟨c.fd.toArray⟩,.string ⟨c.id.toArray⟩,iv,.bool c.fl] 38)))
 by_cases h2:c.kd = 2
 · rw [h2] at HO ⊢
   go_enter Tryz.func26,Tryz.ntmps26
   go_wp2_with fail
   go_ret
   exact ⟨rfl,HO.out⟩
 by_cases h3:c.kd = 3
 · rw [h3] at HO ⊢
   go_enter Tryz.func26,Tryz.ntmps26
   go_wp2_with fail
   go_ret
   exact ⟨rfl,HO.out⟩
 by_cases h4:c.kd = 4
 · rw [h4] at HO ⊢
   go_enter Tryz.func26,Tryz.ntmps26
   go_wp2_with fail
   go_ret
   exact ⟨rfl,HO.out⟩
 by_cases h5:c.kd = 5
 · rw [h5] at HO ⊢
   go_enter Tryz.func26,Tryz.ntmps26
   go_wp2_with fail
   go_ret
   exact ⟨rfl,HO.out⟩
 have d2:(c.kd == 2) = false:=by simpa using h2
 have d3:(c.kd == 3) = false:=by simpa using h3
 have d4:(c.kd == 4) = false:=by simpa using h4
 have d5:(c.kd == 5) = false:=by simpa using h5
 have HR:Hid ((c.kd == 2 || (c.kd == 3 || (c.kd == 4 || c.kd == 5))) = false):=Hd (by rw [d2,d3,d4,d5];rfl)
 rw [HR.out]
 go_enter Tryz.func26,Tryz.ntmps26
 go_wp2_with fail
 go_ret
 exact ⟨rfl,HO.out⟩
theorem is_call (w:World) (z:Nat) (ks:List Int) (k:Int) (r:Bool) {cs:List Value} (hz:Cells w z 38 (.int .i64 k :: cs)) (hr:ks.contains k = r) (hl:ks.length ≤ 100):
 Calls Tryz.prog 139 #[.slice (some ⟨w.heap.size,0,none⟩) ks.length ks.length,.pointer (some ⟨z,0,none⟩)] (w.alloc (.cells (ks.map (Value.int .i64)).toArray 3)) fun e w' => e = .returned (.bool r) ∧ Only [] w w':=by
 obtain ⟨b,hb⟩:∃ b,w.heap.size = b:=⟨_,rfl⟩
 obtain ⟨w1,hw1⟩:∃ w1,w.alloc (.cells (ks.map (Value.int .i64)).toArray 3) = w1:=⟨_,rfl⟩
 have ho:Only [] w w1:=hw1 ▸ oz.alloc _
 have hC:Cells w1 b 3 (ks.map (Value.int .i64)):=hw1 ▸ hb ▸ Cells.new w _ _
 have hz1:=hz.only ho (by simp)
 have c0:=hz1.cell (k:=0) rfl
 rw [hw1,hb]
 have CC:=Hd (Tryz.slices_Contains_int b 0 ks.length ks.length ks k w1 (Nat.le_refl _) (by omega) (fun j hj => by
  rw [Nat.zero_add]
  exact hC.cell (by rw [List.getElem?_map,List.getElem?_eq_getElem hj];simp [List.getD,List.getElem?_eq_getElem hj])))
 rw [List.take_length,hr] at CC
 have HO:=Hd ho
 clear hw1 hb hC hz hz1 ho hr
 go_enter Tryz.func139,Tryz.ntmps139
 go_wp2_with fail
 refine CC.out.mono ?_
 rintro e w2 ⟨rfl,rfl⟩
 go_wp2_with fail
 go_ret
 exact ⟨rfl,HO.out⟩
theorem bare_1 (c:Cm) (IA:Option Addr) (m ic:Nat) (hm:m = c.its.length) (h1:0 ≤ c.ss ∧ c.ss ≤ 1099511627776) (h2:0 ≤ c.sq ∧ c.sq ≤ 1099511627776) (w:World):
 Calls Tryz.prog 71 #[Cm.val {c with kd:=1} (.slice IA m ic)] w fun e w' => e = .returned (.bool (bareB {c with kd:=1})) ∧ Only [] w w':=by
 have HM:=Hd hm
 clear hm
 have HC:=Hd (fun w' => client_call {c with kd:=1} (.slice IA m ic) w')
 rw [show clB 1 = false from rfl] at HC
 unfold Cm.val at HC ⊢
 dsimp only at HC ⊢
 have hws:IntKind.i64.wrap (c.ss + c.sq) = c.ss + c.sq:=by rw [IntKind.wrap_i64];omega
 obtain ⟨w1,hw1⟩:∃ w1,w.alloc (.cells #[.int .i64 1,.int .i64 c.ss,.int .i64 c.sq,.int .i64 c.sh,.int .i64 c.nd,.int .i64 c.ep,.int .i64 c.n,.string ⟨c.fd.toArray⟩,.string ⟨c.id.toArray⟩,.slice IA m ic,.bool c.fl] 38) = w1:=⟨_,rfl⟩
 obtain ⟨z,hz⟩:∃ z,w.heap.size = z:=⟨_,rfl⟩
 have HZ:Cells w1 z 38 [.int .i64 1,.int .i64 c.ss,.int .i64 c.sq,.int .i64 c.sh,.int .i64 c.nd,.int .i64 c.ep,.int .i64 c.n,.string ⟨c.fd.toArray⟩,.string ⟨c.id.toArray⟩,.slice IA m ic,.bool c.fl]:=hw1 ▸ hz ▸ Cells.new w _ _
 have HO:Hid (Only [] w w1):=Hd (hw1 ▸ oz.alloc _)
 obtain ⟨c0,c1,c2,c3,c4,c5,c6,c7,c8,c9,c10⟩:=HZ.c11
 go_enter Tryz.func71,Tryz.ntmps71
 go_wp2_with fail
 refine (HC.out _).mono ?_
 rintro e w2 ⟨rfl,ho⟩
 clear c0 c1 c2 c3 c4 c5 c6 c7 c8 c9 c10
 obtain ⟨HZ,HO,c0,c1,c2,c3,c4,c5,c6,c7,c8,c9,c10⟩:=HZ.nx HO ho
 clear hw1 hz
 by_cases a1:0 < c.ss + c.sq
 · have da1:decide (0 < c.ss + c.sq) = true:=by simpa using a1
   go_wp2_with fail
   go_ret
   exact bfx (by simp [bareB,clB, *]) HO.out
 have da1:decide (0 < c.ss + c.sq) = false:=by simpa using a1
 go_wp2_with fail
 refine (HC.out _).mono ?_
 rintro e w3 ⟨rfl,ho⟩
 clear c0 c1 c2 c3 c4 c5 c6 c7 c8 c9 c10
 obtain ⟨HZ,HO,c0,c1,c2,c3,c4,c5,c6,c7,c8,c9,c10⟩:=HZ.nx HO ho
 go_wp2_with fail
 refine (is_call w3 z [8] 1 false HZ rfl (by decide)).mono ?_
 rintro e w4 ⟨rfl,ho⟩
 clear c0 c1 c2 c3 c4 c5 c6 c7 c8 c9 c10
 obtain ⟨HZ,HO,c0,c1,c2,c3,c4,c5,c6,c7,c8,c9,c10⟩:=HZ.nx HO ho
 by_cases a2:¬ c.fd = []
 · have da2:c.fd.isEmpty = false:=by simpa using a2
   go_wp2_with fail
   go_ret
   exact bfx (by simp [bareB,clB, *]) HO.out
 have a2:=Decidable.not_not.1 a2
 have da2:c.fd.isEmpty = true:=by simpa using a2
 go_wp2_with fail
 refine (is_call w4 z [4] 1 false HZ rfl (by decide)).mono ?_
 rintro e w5 ⟨rfl,ho⟩
 clear c0 c1 c2 c3 c4 c5 c6 c7 c8 c9 c10
 obtain ⟨HZ,HO,c0,c1,c2,c3,c4,c5,c6,c7,c8,c9,c10⟩:=HZ.nx HO ho
 by_cases a3:¬ c.id = []
 · have da3:c.id.isEmpty = false:=by simpa using a3
   go_wp2_with fail
   go_ret
   exact bfx (by simp [bareB,clB, *]) HO.out
 have a3:=Decidable.not_not.1 a3
 have da3:c.id.isEmpty = true:=by simpa using a3
 go_wp2_with fail
 refine (is_call w5 z [5] 1 false HZ rfl (by decide)).mono ?_
 rintro e w6 ⟨rfl,ho⟩
 clear c0 c1 c2 c3 c4 c5 c6 c7 c8 c9 c10
 obtain ⟨HZ,HO,c0,c1,c2,c3,c4,c5,c6,c7,c8,c9,c10⟩:=HZ.nx HO ho
 by_cases a4:0 < c.n
 · have da4:decide (0 < c.n) = true:=by simpa using a4
   go_wp2_with fail
   go_ret
   exact bfx (by simp [bareB,clB, *]) HO.out
 have da4:decide (0 < c.n) = false:=by simpa using a4
 go_wp2_with fail
 refine (is_call w6 z [7,8] 1 false HZ rfl (by decide)).mono ?_
 rintro e w7 ⟨rfl,ho⟩
 clear c0 c1 c2 c3 c4 c5 c6 c7 c8 c9 c10
 obtain ⟨HZ,HO,c0,c1,c2,c3,c4,c5,c6,c7,c8,c9,c10⟩:=HZ.nx HO ho
 by_cases a5:0 < c.nd
 · have da5:decide (0 < c.nd) = true:=by simpa using a5
   go_wp2_with fail
   go_ret
   exact bfx (by simp [bareB,clB, *]) HO.out
 have da5:decide (0 < c.nd) = false:=by simpa using a5
 go_wp2_with fail
 refine (is_call w7 z [7,8,9] 1 false HZ rfl (by decide)).mono ?_
 rintro e w8 ⟨rfl,ho⟩
 clear c0 c1 c2 c3 c4 c5 c6 c7 c8 c9 c10
 obtain ⟨HZ,HO,c0,c1,c2,c3,c4,c5,c6,c7,c8,c9,c10⟩:=HZ.nx HO ho
 by_cases a6:0 < c.sh
 · have da6:decide (0 < c.sh) = true:=by simpa using a6
   go_wp2_with fail
   go_ret
   exact bfx (by simp [bareB,clB, *]) HO.out
 have da6:decide (0 < c.sh) = false:=by simpa using a6
 go_wp2_with fail
 refine (is_call w8 z [8] 1 false HZ rfl (by decide)).mono ?_
 rintro e w9 ⟨rfl,ho⟩
 clear c0 c1 c2 c3 c4 c5 c6 c7 c8 c9 c10
 obtain ⟨HZ,HO,c0,c1,c2,c3,c4,c5,c6,c7,c8,c9,c10⟩:=HZ.nx HO ho
 by_cases a7:0 < c.ep
 · have da7:decide (0 < c.ep) = true:=by simpa using a7
   go_wp2_with fail
   go_ret
   exact bfx (by simp [bareB,clB, *]) HO.out
 have da7:decide (0 < c.ep) = false:=by simpa using a7
 by_cases a8:c.fl = true
 · have da8:=a8
   go_wp2_with fail
   go_ret
   exact bfx (by simp [bareB,clB, *]) HO.out
 have da8:c.fl = false:=by simpa using a8
 by_cases a9:0 < m
 · have da9:decide ((0:Int) < (m:Int)) = true:=by simpa using a9
   have la9:0 < c.its.length:=HM.out ▸ a9
   have za9:((m:Int) == 0) = false:=by simp;omega
   go_wp2_with fail
   go_ret
   exact bfx (by simp [bareB,clB, *]) HO.out
 have da9:decide ((0:Int) < (m:Int)) = false:=by simpa using a9
 have za9:((m:Int) == 0) = true:=by simp;omega
 have la9:¬ 0 < c.its.length:=HM.out ▸ a9
 go_wp2_with fail
 go_ret
 exact bfx (by simp [bareB,clB, *]) HO.out
theorem bare_2 (c:Cm) (IA:Option Addr) (m ic:Nat) (hm:m = c.its.length) (h1:0 ≤ c.ss ∧ c.ss ≤ 1099511627776) (h2:0 ≤ c.sq ∧ c.sq ≤ 1099511627776) (w:World):
 Calls Tryz.prog 71 #[Cm.val {c with kd:=2} (.slice IA m ic)] w fun e w' => e = .returned (.bool (bareB {c with kd:=2})) ∧ Only [] w w':=by
 have HM:=Hd hm
 clear hm
 have HC:=Hd (fun w' => client_call {c with kd:=2} (.slice IA m ic) w')
 rw [show clB 2 = true from rfl] at HC
 unfold Cm.val at HC ⊢
 dsimp only at HC ⊢
 have hws:IntKind.i64.wrap (c.ss + c.sq) = c.ss + c.sq:=by rw [IntKind.wrap_i64];omega
 obtain ⟨w1,hw1⟩:∃ w1,w.alloc (.cells #[.int .i64 2,.int .i64 c.ss,.int .i64 c.sq,.int .i64 c.sh,.int .i64 c.nd,.int .i64 c.ep,.int .i64 c.n,.string ⟨c.fd.toArray⟩,.string ⟨c.id.toArray⟩,.slice IA m ic,.bool c.fl] 38) = w1:=⟨_,rfl⟩
 obtain ⟨z,hz⟩:∃ z,w.heap.size = z:=⟨_,rfl⟩
 have HZ:Cells w1 z 38 [.int .i64 2,.int .i64 c.ss,.int .i64 c.sq,.int .i64 c.sh,.int .i64 c.nd,.int .i64 c.ep,.int .i64 c.n,.string ⟨c.fd.toArray⟩,.string ⟨c.id.toArray⟩,.slice IA m ic,.bool c.fl]:=hw1 ▸ hz ▸ Cells.new w _ _
 have HO:Hid (Only [] w w1):=Hd (hw1 ▸ oz.alloc _)
 obtain ⟨c0,c1,c2,c3,c4,c5,c6,c7,c8,c9,c10⟩:=HZ.c11
 go_enter Tryz.func71,Tryz.ntmps71
 go_wp2_with fail
 refine (HC.out _).mono ?_
 rintro e w2 ⟨rfl,ho⟩
 clear c0 c1 c2 c3 c4 c5 c6 c7 c8 c9 c10
 obtain ⟨HZ,HO,c0,c1,c2,c3,c4,c5,c6,c7,c8,c9,c10⟩:=HZ.nx HO ho
 clear hw1 hz
 go_wp2_with fail
 refine (HC.out _).mono ?_
 rintro e w3 ⟨rfl,ho⟩
 clear c0 c1 c2 c3 c4 c5 c6 c7 c8 c9 c10
 obtain ⟨HZ,HO,c0,c1,c2,c3,c4,c5,c6,c7,c8,c9,c10⟩:=HZ.nx HO ho
 go_wp2_with fail
 refine (is_call w3 z [4] 2 false HZ rfl (by decide)).mono ?_
 rintro e w4 ⟨rfl,ho⟩
 clear c0 c1 c2 c3 c4 c5 c6 c7 c8 c9 c10
 obtain ⟨HZ,HO,c0,c1,c2,c3,c4,c5,c6,c7,c8,c9,c10⟩:=HZ.nx HO ho
 by_cases a3:¬ c.id = []
 · have da3:c.id.isEmpty = false:=by simpa using a3
   go_wp2_with fail
   go_ret
   exact bfx (by simp [bareB,clB, *]) HO.out
 have a3:=Decidable.not_not.1 a3
 have da3:c.id.isEmpty = true:=by simpa using a3
 go_wp2_with fail
 refine (is_call w4 z [5] 2 false HZ rfl (by decide)).mono ?_
 rintro e w5 ⟨rfl,ho⟩
 clear c0 c1 c2 c3 c4 c5 c6 c7 c8 c9 c10
 obtain ⟨HZ,HO,c0,c1,c2,c3,c4,c5,c6,c7,c8,c9,c10⟩:=HZ.nx HO ho
 by_cases a4:0 < c.n
 · have da4:decide (0 < c.n) = true:=by simpa using a4
   go_wp2_with fail
   go_ret
   exact bfx (by simp [bareB,clB, *]) HO.out
 have da4:decide (0 < c.n) = false:=by simpa using a4
 go_wp2_with fail
 refine (is_call w5 z [7,8] 2 false HZ rfl (by decide)).mono ?_
 rintro e w6 ⟨rfl,ho⟩
 clear c0 c1 c2 c3 c4 c5 c6 c7 c8 c9 c10
 obtain ⟨HZ,HO,c0,c1,c2,c3,c4,c5,c6,c7,c8,c9,c10⟩:=HZ.nx HO ho
 by_cases a5:0 < c.nd
 · have da5:decide (0 < c.nd) = true:=by simpa using a5
   go_wp2_with fail
   go_ret
   exact bfx (by simp [bareB,clB, *]) HO.out
 have da5:decide (0 < c.nd) = false:=by simpa using a5
 go_wp2_with fail
 refine (is_call w6 z [7,8,9] 2 false HZ rfl (by decide)).mono ?_
 rintro e w7 ⟨rfl,ho⟩
 clear c0 c1 c2 c3 c4 c5 c6 c7 c8 c9 c10
 obtain ⟨HZ,HO,c0,c1,c2,c3,c4,c5,c6,c7,c8,c9,c10⟩:=HZ.nx HO ho
 by_cases a6:0 < c.sh
 · have da6:decide (0 < c.sh) = true:=by simpa using a6
   go_wp2_with fail
   go_ret
   exact bfx (by simp [bareB,clB, *]) HO.out
 have da6:decide (0 < c.sh) = false:=by simpa using a6
 go_wp2_with fail
 refine (is_call w7 z [8] 2 false HZ rfl (by decide)).mono ?_
 rintro e w8 ⟨rfl,ho⟩
 clear c0 c1 c2 c3 c4 c5 c6 c7 c8 c9 c10
 obtain ⟨HZ,HO,c0,c1,c2,c3,c4,c5,c6,c7,c8,c9,c10⟩:=HZ.nx HO ho
 by_cases a7:0 < c.ep
 · have da7:decide (0 < c.ep) = true:=by simpa using a7
   go_wp2_with fail
   go_ret
   exact bfx (by simp [bareB,clB, *]) HO.out
 have da7:decide (0 < c.ep) = false:=by simpa using a7
 by_cases a8:c.fl = true
 · have da8:=a8
   go_wp2_with fail
   go_ret
   exact bfx (by simp [bareB,clB, *]) HO.out
 have da8:c.fl = false:=by simpa using a8
 by_cases a9:0 < m
 · have da9:decide ((0:Int) < (m:Int)) = true:=by simpa using a9
   have la9:0 < c.its.length:=HM.out ▸ a9
   have za9:((m:Int) == 0) = false:=by simp;omega
   go_wp2_with fail
   go_ret
   exact bfx (by simp [bareB,clB, *]) HO.out
 have da9:decide ((0:Int) < (m:Int)) = false:=by simpa using a9
 have za9:((m:Int) == 0) = true:=by simp;omega
 have la9:¬ 0 < c.its.length:=HM.out ▸ a9
 go_wp2_with fail
 go_ret
 exact bfx (by simp [bareB,clB, *]) HO.out
theorem bare_3 (c:Cm) (IA:Option Addr) (m ic:Nat) (hm:m = c.its.length) (h1:0 ≤ c.ss ∧ c.ss ≤ 1099511627776) (h2:0 ≤ c.sq ∧ c.sq ≤ 1099511627776) (w:World):
 Calls Tryz.prog 71 #[Cm.val {c with kd:=3} (.slice IA m ic)] w fun e w' => e = .returned (.bool (bareB {c with kd:=3})) ∧ Only [] w w':=by
 have HM:=Hd hm
 clear hm
 have HC:=Hd (fun w' => client_call {c with kd:=3} (.slice IA m ic) w')
 rw [show clB 3 = true from rfl] at HC
 unfold Cm.val at HC ⊢
 dsimp only at HC ⊢
 have hws:IntKind.i64.wrap (c.ss + c.sq) = c.ss + c.sq:=by rw [IntKind.wrap_i64];omega
 obtain ⟨w1,hw1⟩:∃ w1,w.alloc (.cells #[.int .i64 3,.int .i64 c.ss,.int .i64 c.sq,.int .i64 c.sh,.int .i64 c.nd,.int .i64 c.ep,.int .i64 c.n,.string ⟨c.fd.toArray⟩,.string ⟨c.id.toArray⟩,.slice IA m ic,.bool c.fl] 38) = w1:=⟨_,rfl⟩
 obtain ⟨z,hz⟩:∃ z,w.heap.size = z:=⟨_,rfl⟩
 have HZ:Cells w1 z 38 [.int .i64 3,.int .i64 c.ss,.int .i64 c.sq,.int .i64 c.sh,.int .i64 c.nd,.int .i64 c.ep,.int .i64 c.n,.string ⟨c.fd.toArray⟩,.string ⟨c.id.toArray⟩,.slice IA m ic,.bool c.fl]:=hw1 ▸ hz ▸ Cells.new w _ _
 have HO:Hid (Only [] w w1):=Hd (hw1 ▸ oz.alloc _)
 obtain ⟨c0,c1,c2,c3,c4,c5,c6,c7,c8,c9,c10⟩:=HZ.c11
 go_enter Tryz.func71,Tryz.ntmps71
 go_wp2_with fail
 refine (HC.out _).mono ?_
 rintro e w2 ⟨rfl,ho⟩
 clear c0 c1 c2 c3 c4 c5 c6 c7 c8 c9 c10
 obtain ⟨HZ,HO,c0,c1,c2,c3,c4,c5,c6,c7,c8,c9,c10⟩:=HZ.nx HO ho
 clear hw1 hz
 go_wp2_with fail
 refine (HC.out _).mono ?_
 rintro e w3 ⟨rfl,ho⟩
 clear c0 c1 c2 c3 c4 c5 c6 c7 c8 c9 c10
 obtain ⟨HZ,HO,c0,c1,c2,c3,c4,c5,c6,c7,c8,c9,c10⟩:=HZ.nx HO ho
 go_wp2_with fail
 refine (is_call w3 z [4] 3 false HZ rfl (by decide)).mono ?_
 rintro e w4 ⟨rfl,ho⟩
 clear c0 c1 c2 c3 c4 c5 c6 c7 c8 c9 c10
 obtain ⟨HZ,HO,c0,c1,c2,c3,c4,c5,c6,c7,c8,c9,c10⟩:=HZ.nx HO ho
 by_cases a3:¬ c.id = []
 · have da3:c.id.isEmpty = false:=by simpa using a3
   go_wp2_with fail
   go_ret
   exact bfx (by simp [bareB,clB, *]) HO.out
 have a3:=Decidable.not_not.1 a3
 have da3:c.id.isEmpty = true:=by simpa using a3
 go_wp2_with fail
 refine (is_call w4 z [5] 3 false HZ rfl (by decide)).mono ?_
 rintro e w5 ⟨rfl,ho⟩
 clear c0 c1 c2 c3 c4 c5 c6 c7 c8 c9 c10
 obtain ⟨HZ,HO,c0,c1,c2,c3,c4,c5,c6,c7,c8,c9,c10⟩:=HZ.nx HO ho
 by_cases a4:0 < c.n
 · have da4:decide (0 < c.n) = true:=by simpa using a4
   go_wp2_with fail
   go_ret
   exact bfx (by simp [bareB,clB, *]) HO.out
 have da4:decide (0 < c.n) = false:=by simpa using a4
 go_wp2_with fail
 refine (is_call w5 z [7,8] 3 false HZ rfl (by decide)).mono ?_
 rintro e w6 ⟨rfl,ho⟩
 clear c0 c1 c2 c3 c4 c5 c6 c7 c8 c9 c10
 obtain ⟨HZ,HO,c0,c1,c2,c3,c4,c5,c6,c7,c8,c9,c10⟩:=HZ.nx HO ho
 by_cases a5:0 < c.nd
 · have da5:decide (0 < c.nd) = true:=by simpa using a5
   go_wp2_with fail
   go_ret
   exact bfx (by simp [bareB,clB, *]) HO.out
 have da5:decide (0 < c.nd) = false:=by simpa using a5
 go_wp2_with fail
 refine (is_call w6 z [7,8,9] 3 false HZ rfl (by decide)).mono ?_
 rintro e w7 ⟨rfl,ho⟩
 clear c0 c1 c2 c3 c4 c5 c6 c7 c8 c9 c10
 obtain ⟨HZ,HO,c0,c1,c2,c3,c4,c5,c6,c7,c8,c9,c10⟩:=HZ.nx HO ho
 by_cases a6:0 < c.sh
 · have da6:decide (0 < c.sh) = true:=by simpa using a6
   go_wp2_with fail
   go_ret
   exact bfx (by simp [bareB,clB, *]) HO.out
 have da6:decide (0 < c.sh) = false:=by simpa using a6
 go_wp2_with fail
 refine (is_call w7 z [8] 3 false HZ rfl (by decide)).mono ?_
 rintro e w8 ⟨rfl,ho⟩
 clear c0 c1 c2 c3 c4 c5 c6 c7 c8 c9 c10
 obtain ⟨HZ,HO,c0,c1,c2,c3,c4,c5,c6,c7,c8,c9,c10⟩:=HZ.nx HO ho
 by_cases a7:0 < c.ep
 · have da7:decide (0 < c.ep) = true:=by simpa using a7
   go_wp2_with fail
   go_ret
   exact bfx (by simp [bareB,clB, *]) HO.out
 have da7:decide (0 < c.ep) = false:=by simpa using a7
 by_cases a8:c.fl = true
 · have da8:=a8
   go_wp2_with fail
   go_ret
   exact bfx (by simp [bareB,clB, *]) HO.out
 have da8:c.fl = false:=by simpa using a8
 by_cases a9:0 < m
 · have da9:decide ((0:Int) < (m:Int)) = true:=by simpa using a9
   have la9:0 < c.its.length:=HM.out ▸ a9
   have za9:((m:Int) == 0) = false:=by simp;omega
   go_wp2_with fail
   go_ret
   exact bfx (by simp [bareB,clB, *]) HO.out
 have da9:decide ((0:Int) < (m:Int)) = false:=by simpa using a9
 have za9:((m:Int) == 0) = true:=by simp;omega
 have la9:¬ 0 < c.its.length:=HM.out ▸ a9
 go_wp2_with fail
 go_ret
 exact bfx (by simp [bareB,clB, *]) HO.out
theorem bare_4 (c:Cm) (IA:Option Addr) (m ic:Nat) (hm:m = c.its.length) (h1:0 ≤ c.ss ∧ c.ss ≤ 1099511627776) (h2:0 ≤ c.sq ∧ c.sq ≤ 1099511627776) (w:World):
 Calls Tryz.prog 71 #[Cm.val {c with kd:=4} (.slice IA m ic)] w fun e w' => e = .returned (.bool (bareB {c with kd:=4})) ∧ Only [] w w':=by
 have HM:=Hd hm
 clear hm
 have HC:=Hd (fun w' => client_call {c with kd:=4} (.slice IA m ic) w')
 rw [show clB 4 = true from rfl] at HC
 unfold Cm.val at HC ⊢
 dsimp only at HC ⊢
 have hws:IntKind.i64.wrap (c.ss + c.sq) = c.ss + c.sq:=by rw [IntKind.wrap_i64];omega
 obtain ⟨w1,hw1⟩:∃ w1,w.alloc (.cells #[.int .i64 4,.int .i64 c.ss,.int .i64 c.sq,.int .i64 c.sh,.int .i64 c.nd,.int .i64 c.ep,.int .i64 c.n,.string ⟨c.fd.toArray⟩,.string ⟨c.id.toArray⟩,.slice IA m ic,.bool c.fl] 38) = w1:=⟨_,rfl⟩
 obtain ⟨z,hz⟩:∃ z,w.heap.size = z:=⟨_,rfl⟩
 have HZ:Cells w1 z 38 [.int .i64 4,.int .i64 c.ss,.int .i64 c.sq,.int .i64 c.sh,.int .i64 c.nd,.int .i64 c.ep,.int .i64 c.n,.string ⟨c.fd.toArray⟩,.string ⟨c.id.toArray⟩,.slice IA m ic,.bool c.fl]:=hw1 ▸ hz ▸ Cells.new w _ _
 have HO:Hid (Only [] w w1):=Hd (hw1 ▸ oz.alloc _)
 obtain ⟨c0,c1,c2,c3,c4,c5,c6,c7,c8,c9,c10⟩:=HZ.c11
 go_enter Tryz.func71,Tryz.ntmps71
 go_wp2_with fail
 refine (HC.out _).mono ?_
 rintro e w2 ⟨rfl,ho⟩
 clear c0 c1 c2 c3 c4 c5 c6 c7 c8 c9 c10
 obtain ⟨HZ,HO,c0,c1,c2,c3,c4,c5,c6,c7,c8,c9,c10⟩:=HZ.nx HO ho
 clear hw1 hz
 go_wp2_with fail
 refine (HC.out _).mono ?_
 rintro e w3 ⟨rfl,ho⟩
 clear c0 c1 c2 c3 c4 c5 c6 c7 c8 c9 c10
 obtain ⟨HZ,HO,c0,c1,c2,c3,c4,c5,c6,c7,c8,c9,c10⟩:=HZ.nx HO ho
 go_wp2_with fail
 refine (is_call w3 z [4] 4 true HZ rfl (by decide)).mono ?_
 rintro e w4 ⟨rfl,ho⟩
 clear c0 c1 c2 c3 c4 c5 c6 c7 c8 c9 c10
 obtain ⟨HZ,HO,c0,c1,c2,c3,c4,c5,c6,c7,c8,c9,c10⟩:=HZ.nx HO ho
 go_wp2_with fail
 refine (is_call w4 z [5] 4 false HZ rfl (by decide)).mono ?_
 rintro e w5 ⟨rfl,ho⟩
 clear c0 c1 c2 c3 c4 c5 c6 c7 c8 c9 c10
 obtain ⟨HZ,HO,c0,c1,c2,c3,c4,c5,c6,c7,c8,c9,c10⟩:=HZ.nx HO ho
 by_cases a4:0 < c.n
 · have da4:decide (0 < c.n) = true:=by simpa using a4
   go_wp2_with fail
   go_ret
   exact bfx (by simp [bareB,clB, *]) HO.out
 have da4:decide (0 < c.n) = false:=by simpa using a4
 go_wp2_with fail
 refine (is_call w5 z [7,8] 4 false HZ rfl (by decide)).mono ?_
 rintro e w6 ⟨rfl,ho⟩
 clear c0 c1 c2 c3 c4 c5 c6 c7 c8 c9 c10
 obtain ⟨HZ,HO,c0,c1,c2,c3,c4,c5,c6,c7,c8,c9,c10⟩:=HZ.nx HO ho
 by_cases a5:0 < c.nd
 · have da5:decide (0 < c.nd) = true:=by simpa using a5
   go_wp2_with fail
   go_ret
   exact bfx (by simp [bareB,clB, *]) HO.out
 have da5:decide (0 < c.nd) = false:=by simpa using a5
 go_wp2_with fail
 refine (is_call w6 z [7,8,9] 4 false HZ rfl (by decide)).mono ?_
 rintro e w7 ⟨rfl,ho⟩
 clear c0 c1 c2 c3 c4 c5 c6 c7 c8 c9 c10
 obtain ⟨HZ,HO,c0,c1,c2,c3,c4,c5,c6,c7,c8,c9,c10⟩:=HZ.nx HO ho
 by_cases a6:0 < c.sh
 · have da6:decide (0 < c.sh) = true:=by simpa using a6
   go_wp2_with fail
   go_ret
   exact bfx (by simp [bareB,clB, *]) HO.out
 have da6:decide (0 < c.sh) = false:=by simpa using a6
 go_wp2_with fail
 refine (is_call w7 z [8] 4 false HZ rfl (by decide)).mono ?_
 rintro e w8 ⟨rfl,ho⟩
 clear c0 c1 c2 c3 c4 c5 c6 c7 c8 c9 c10
 obtain ⟨HZ,HO,c0,c1,c2,c3,c4,c5,c6,c7,c8,c9,c10⟩:=HZ.nx HO ho
 by_cases a7:0 < c.ep
 · have da7:decide (0 < c.ep) = true:=by simpa using a7
   go_wp2_with fail
   go_ret
   exact bfx (by simp [bareB,clB, *]) HO.out
 have da7:decide (0 < c.ep) = false:=by simpa using a7
 by_cases a8:c.fl = true
 · have da8:=a8
   go_wp2_with fail
   go_ret
   exact bfx (by simp [bareB,clB, *]) HO.out
 have da8:c.fl = false:=by simpa using a8
 by_cases a9:0 < m
 · have da9:decide ((0:Int) < (m:Int)) = true:=by simpa using a9
   have la9:0 < c.its.length:=HM.out ▸ a9
   have za9:((m:Int) == 0) = false:=by simp;omega
   go_wp2_with fail
   go_ret
   exact bfx (by simp [bareB,clB, *]) HO.out
 have da9:decide ((0:Int) < (m:Int)) = false:=by simpa using a9
 have za9:((m:Int) == 0) = true:=by simp;omega
 have la9:¬ 0 < c.its.length:=HM.out ▸ a9
 go_wp2_with fail
 go_ret
 exact bfx (by simp [bareB,clB, *]) HO.out
theorem bare_5 (c:Cm) (IA:Option Addr) (m ic:Nat) (hm:m = c.its.length) (h1:0 ≤ c.ss ∧ c.ss ≤ 1099511627776) (h2:0 ≤ c.sq ∧ c.sq ≤ 1099511627776) (w:World):
 Calls Tryz.prog 71 #[Cm.val {c with kd:=5} (.slice IA m ic)] w fun e w' => e = .returned (.bool (bareB {c with kd:=5})) ∧ Only [] w w':=by
 have HM:=Hd hm
 clear hm
 have HC:=Hd (fun w' => client_call {c with kd:=5} (.slice IA m ic) w')
 rw [show clB 5 = true from rfl] at HC
 unfold Cm.val at HC ⊢
 dsimp only at HC ⊢
 have hws:IntKind.i64.wrap (c.ss + c.sq) = c.ss + c.sq:=by rw [IntKind.wrap_i64];omega
 obtain ⟨w1,hw1⟩:∃ w1,w.alloc (.cells #[.int .i64 5,.int .i64 c.ss,.int .i64 c.sq,.int .i64 c.sh,.int .i64 c.nd,.int .i64 c.ep,.int .i64 c.n,.string ⟨c.fd.toArray⟩,.string ⟨c.id.toArray⟩,.slice IA m ic,.bool c.fl] 38) = w1:=⟨_,rfl⟩
 obtain ⟨z,hz⟩:∃ z,w.heap.size = z:=⟨_,rfl⟩
 have HZ:Cells w1 z 38 [.int .i64 5,.int .i64 c.ss,.int .i64 c.sq,.int .i64 c.sh,.int .i64 c.nd,.int .i64 c.ep,.int .i64 c.n,.string ⟨c.fd.toArray⟩,.string ⟨c.id.toArray⟩,.slice IA m ic,.bool c.fl]:=hw1 ▸ hz ▸ Cells.new w _ _
 have HO:Hid (Only [] w w1):=Hd (hw1 ▸ oz.alloc _)
 obtain ⟨c0,c1,c2,c3,c4,c5,c6,c7,c8,c9,c10⟩:=HZ.c11
 go_enter Tryz.func71,Tryz.ntmps71
 go_wp2_with fail
 refine (HC.out _).mono ?_
 rintro e w2 ⟨rfl,ho⟩
 clear c0 c1 c2 c3 c4 c5 c6 c7 c8 c9 c10
 obtain ⟨HZ,HO,c0,c1,c2,c3,c4,c5,c6,c7,c8,c9,c10⟩:=HZ.nx HO ho
 clear hw1 hz
 go_wp2_with fail
 refine (HC.out _).mono ?_
 rintro e w3 ⟨rfl,ho⟩
 clear c0 c1 c2 c3 c4 c5 c6 c7 c8 c9 c10
 obtain ⟨HZ,HO,c0,c1,c2,c3,c4,c5,c6,c7,c8,c9,c10⟩:=HZ.nx HO ho
 go_wp2_with fail
 refine (is_call w3 z [4] 5 false HZ rfl (by decide)).mono ?_
 rintro e w4 ⟨rfl,ho⟩
 clear c0 c1 c2 c3 c4 c5 c6 c7 c8 c9 c10
 obtain ⟨HZ,HO,c0,c1,c2,c3,c4,c5,c6,c7,c8,c9,c10⟩:=HZ.nx HO ho
 by_cases a3:¬ c.id = []
 · have da3:c.id.isEmpty = false:=by simpa using a3
   go_wp2_with fail
   go_ret
   exact bfx (by simp [bareB,clB, *]) HO.out
 have a3:=Decidable.not_not.1 a3
 have da3:c.id.isEmpty = true:=by simpa using a3
 go_wp2_with fail
 refine (is_call w4 z [5] 5 true HZ rfl (by decide)).mono ?_
 rintro e w5 ⟨rfl,ho⟩
 clear c0 c1 c2 c3 c4 c5 c6 c7 c8 c9 c10
 obtain ⟨HZ,HO,c0,c1,c2,c3,c4,c5,c6,c7,c8,c9,c10⟩:=HZ.nx HO ho
 go_wp2_with fail
 refine (is_call w5 z [7,8] 5 false HZ rfl (by decide)).mono ?_
 rintro e w6 ⟨rfl,ho⟩
 clear c0 c1 c2 c3 c4 c5 c6 c7 c8 c9 c10
 obtain ⟨HZ,HO,c0,c1,c2,c3,c4,c5,c6,c7,c8,c9,c10⟩:=HZ.nx HO ho
 by_cases a5:0 < c.nd
 · have da5:decide (0 < c.nd) = true:=by simpa using a5
   go_wp2_with fail
   go_ret
   exact bfx (by simp [bareB,clB, *]) HO.out
 have da5:decide (0 < c.nd) = false:=by simpa using a5
 go_wp2_with fail
 refine (is_call w6 z [7,8,9] 5 false HZ rfl (by decide)).mono ?_
 rintro e w7 ⟨rfl,ho⟩
 clear c0 c1 c2 c3 c4 c5 c6 c7 c8 c9 c10
 obtain ⟨HZ,HO,c0,c1,c2,c3,c4,c5,c6,c7,c8,c9,c10⟩:=HZ.nx HO ho
 by_cases a6:0 < c.sh
 · have da6:decide (0 < c.sh) = true:=by simpa using a6
   go_wp2_with fail
   go_ret
   exact bfx (by simp [bareB,clB, *]) HO.out
 have da6:decide (0 < c.sh) = false:=by simpa using a6
 go_wp2_with fail
 refine (is_call w7 z [8] 5 false HZ rfl (by decide)).mono ?_
 rintro e w8 ⟨rfl,ho⟩
 clear c0 c1 c2 c3 c4 c5 c6 c7 c8 c9 c10
 obtain ⟨HZ,HO,c0,c1,c2,c3,c4,c5,c6,c7,c8,c9,c10⟩:=HZ.nx HO ho
 by_cases a7:0 < c.ep
 · have da7:decide (0 < c.ep) = true:=by simpa using a7
   go_wp2_with fail
   go_ret
   exact bfx (by simp [bareB,clB, *]) HO.out
 have da7:decide (0 < c.ep) = false:=by simpa using a7
 by_cases a8:c.fl = true
 · have da8:=a8
   go_wp2_with fail
   go_ret
   exact bfx (by simp [bareB,clB, *]) HO.out
 have da8:c.fl = false:=by simpa using a8
 by_cases a9:0 < m
 · have da9:decide ((0:Int) < (m:Int)) = true:=by simpa using a9
   have la9:0 < c.its.length:=HM.out ▸ a9
   have za9:((m:Int) == 0) = false:=by simp;omega
   go_wp2_with fail
   go_ret
   exact bfx (by simp [bareB,clB, *]) HO.out
 have da9:decide ((0:Int) < (m:Int)) = false:=by simpa using a9
 have za9:((m:Int) == 0) = true:=by simp;omega
 have la9:¬ 0 < c.its.length:=HM.out ▸ a9
 go_wp2_with fail
 go_ret
 exact bfx (by simp [bareB,clB, *]) HO.out
theorem bare_6 (c:Cm) (IA:Option Addr) (m ic:Nat) (hm:m = c.its.length) (h1:0 ≤ c.ss ∧ c.ss ≤ 1099511627776) (h2:0 ≤ c.sq ∧ c.sq ≤ 1099511627776) (w:World):
 Calls Tryz.prog 71 #[Cm.val {c with kd:=6} (.slice IA m ic)] w fun e w' => e = .returned (.bool (bareB {c with kd:=6})) ∧ Only [] w w':=by
 have HM:=Hd hm
 clear hm
 have HC:=Hd (fun w' => client_call {c with kd:=6} (.slice IA m ic) w')
 rw [show clB 6 = false from rfl] at HC
 unfold Cm.val at HC ⊢
 dsimp only at HC ⊢
 have hws:IntKind.i64.wrap (c.ss + c.sq) = c.ss + c.sq:=by rw [IntKind.wrap_i64];omega
 obtain ⟨w1,hw1⟩:∃ w1,w.alloc (.cells #[.int .i64 6,.int .i64 c.ss,.int .i64 c.sq,.int .i64 c.sh,.int .i64 c.nd,.int .i64 c.ep,.int .i64 c.n,.string ⟨c.fd.toArray⟩,.string ⟨c.id.toArray⟩,.slice IA m ic,.bool c.fl] 38) = w1:=⟨_,rfl⟩
 obtain ⟨z,hz⟩:∃ z,w.heap.size = z:=⟨_,rfl⟩
 have HZ:Cells w1 z 38 [.int .i64 6,.int .i64 c.ss,.int .i64 c.sq,.int .i64 c.sh,.int .i64 c.nd,.int .i64 c.ep,.int .i64 c.n,.string ⟨c.fd.toArray⟩,.string ⟨c.id.toArray⟩,.slice IA m ic,.bool c.fl]:=hw1 ▸ hz ▸ Cells.new w _ _
 have HO:Hid (Only [] w w1):=Hd (hw1 ▸ oz.alloc _)
 obtain ⟨c0,c1,c2,c3,c4,c5,c6,c7,c8,c9,c10⟩:=HZ.c11
 go_enter Tryz.func71,Tryz.ntmps71
 go_wp2_with fail
 refine (HC.out _).mono ?_
 rintro e w2 ⟨rfl,ho⟩
 clear c0 c1 c2 c3 c4 c5 c6 c7 c8 c9 c10
 obtain ⟨HZ,HO,c0,c1,c2,c3,c4,c5,c6,c7,c8,c9,c10⟩:=HZ.nx HO ho
 clear hw1 hz
 by_cases a1:0 < c.ss + c.sq
 · have da1:decide (0 < c.ss + c.sq) = true:=by simpa using a1
   go_wp2_with fail
   go_ret
   exact bfx (by simp [bareB,clB, *]) HO.out
 have da1:decide (0 < c.ss + c.sq) = false:=by simpa using a1
 go_wp2_with fail
 refine (HC.out _).mono ?_
 rintro e w3 ⟨rfl,ho⟩
 clear c0 c1 c2 c3 c4 c5 c6 c7 c8 c9 c10
 obtain ⟨HZ,HO,c0,c1,c2,c3,c4,c5,c6,c7,c8,c9,c10⟩:=HZ.nx HO ho
 go_wp2_with fail
 refine (is_call w3 z [8] 6 false HZ rfl (by decide)).mono ?_
 rintro e w4 ⟨rfl,ho⟩
 clear c0 c1 c2 c3 c4 c5 c6 c7 c8 c9 c10
 obtain ⟨HZ,HO,c0,c1,c2,c3,c4,c5,c6,c7,c8,c9,c10⟩:=HZ.nx HO ho
 by_cases a2:¬ c.fd = []
 · have da2:c.fd.isEmpty = false:=by simpa using a2
   go_wp2_with fail
   go_ret
   exact bfx (by simp [bareB,clB, *]) HO.out
 have a2:=Decidable.not_not.1 a2
 have da2:c.fd.isEmpty = true:=by simpa using a2
 go_wp2_with fail
 refine (is_call w4 z [4] 6 false HZ rfl (by decide)).mono ?_
 rintro e w5 ⟨rfl,ho⟩
 clear c0 c1 c2 c3 c4 c5 c6 c7 c8 c9 c10
 obtain ⟨HZ,HO,c0,c1,c2,c3,c4,c5,c6,c7,c8,c9,c10⟩:=HZ.nx HO ho
 by_cases a3:¬ c.id = []
 · have da3:c.id.isEmpty = false:=by simpa using a3
   go_wp2_with fail
   go_ret
   exact bfx (by simp [bareB,clB, *]) HO.out
 have a3:=Decidable.not_not.1 a3
 have da3:c.id.isEmpty = true:=by simpa using a3
 go_wp2_with fail
 refine (is_call w5 z [5] 6 false HZ rfl (by decide)).mono ?_
 rintro e w6 ⟨rfl,ho⟩
 clear c0 c1 c2 c3 c4 c5 c6 c7 c8 c9 c10
 obtain ⟨HZ,HO,c0,c1,c2,c3,c4,c5,c6,c7,c8,c9,c10⟩:=HZ.nx HO ho
 by_cases a4:0 < c.n
 · have da4:decide (0 < c.n) = true:=by simpa using a4
   go_wp2_with fail
   go_ret
   exact bfx (by simp [bareB,clB, *]) HO.out
 have da4:decide (0 < c.n) = false:=by simpa using a4
 go_wp2_with fail
 refine (is_call w6 z [7,8] 6 false HZ rfl (by decide)).mono ?_
 rintro e w7 ⟨rfl,ho⟩
 clear c0 c1 c2 c3 c4 c5 c6 c7 c8 c9 c10
 obtain ⟨HZ,HO,c0,c1,c2,c3,c4,c5,c6,c7,c8,c9,c10⟩:=HZ.nx HO ho
 by_cases a5:0 < c.nd
 · have da5:decide (0 < c.nd) = true:=by simpa using a5
   go_wp2_with fail
   go_ret
   exact bfx (by simp [bareB,clB, *]) HO.out
 have da5:decide (0 < c.nd) = false:=by simpa using a5
 go_wp2_with fail
 refine (is_call w7 z [7,8,9] 6 false HZ rfl (by decide)).mono ?_
 rintro e w8 ⟨rfl,ho⟩
 clear c0 c1 c2 c3 c4 c5 c6 c7 c8 c9 c10
 obtain ⟨HZ,HO,c0,c1,c2,c3,c4,c5,c6,c7,c8,c9,c10⟩:=HZ.nx HO ho
 by_cases a6:0 < c.sh
 · have da6:decide (0 < c.sh) = true:=by simpa using a6
   go_wp2_with fail
   go_ret
   exact bfx (by simp [bareB,clB, *]) HO.out
 have da6:decide (0 < c.sh) = false:=by simpa using a6
 go_wp2_with fail
 refine (is_call w8 z [8] 6 false HZ rfl (by decide)).mono ?_
 rintro e w9 ⟨rfl,ho⟩
 clear c0 c1 c2 c3 c4 c5 c6 c7 c8 c9 c10
 obtain ⟨HZ,HO,c0,c1,c2,c3,c4,c5,c6,c7,c8,c9,c10⟩:=HZ.nx HO ho
 by_cases a7:0 < c.ep
 · have da7:decide (0 < c.ep) = true:=by simpa using a7
   go_wp2_with fail
   go_ret
   exact bfx (by simp [bareB,clB, *]) HO.out
 have da7:decide (0 < c.ep) = false:=by simpa using a7
 by_cases a8:c.fl = true
 · have da8:=a8
   go_wp2_with fail
   go_ret
   exact bfx (by simp [bareB,clB, *]) HO.out
 have da8:c.fl = false:=by simpa using a8
 by_cases a9:0 < m
 · have da9:decide ((0:Int) < (m:Int)) = true:=by simpa using a9
   have la9:0 < c.its.length:=HM.out ▸ a9
   have za9:((m:Int) == 0) = false:=by simp;omega
   go_wp2_with fail
   go_ret
   exact bfx (by simp [bareB,clB, *]) HO.out
 have da9:decide ((0:Int) < (m:Int)) = false:=by simpa using a9
 have za9:((m:Int) == 0) = true:=by simp;omega
 have la9:¬ 0 < c.its.length:=HM.out ▸ a9
 go_wp2_with fail
 go_ret
 exact bfx (by simp [bareB,clB, *]) HO.out
theorem bare_7 (c:Cm) (IA:Option Addr) (m ic:Nat) (hm:m = c.its.length) (h1:0 ≤ c.ss ∧ c.ss ≤ 1099511627776) (h2:0 ≤ c.sq ∧ c.sq ≤ 1099511627776) (w:World):
 Calls Tryz.prog 71 #[Cm.val {c with kd:=7} (.slice IA m ic)] w fun e w' => e = .returned (.bool (bareB {c with kd:=7})) ∧ Only [] w w':=by
 have HM:=Hd hm
 clear hm
 have HC:=Hd (fun w' => client_call {c with kd:=7} (.slice IA m ic) w')
 rw [show clB 7 = false from rfl] at HC
 unfold Cm.val at HC ⊢
 dsimp only at HC ⊢
 have hws:IntKind.i64.wrap (c.ss + c.sq) = c.ss + c.sq:=by rw [IntKind.wrap_i64];omega
 obtain ⟨w1,hw1⟩:∃ w1,w.alloc (.cells #[.int .i64 7,.int .i64 c.ss,.int .i64 c.sq,.int .i64 c.sh,.int .i64 c.nd,.int .i64 c.ep,.int .i64 c.n,.string ⟨c.fd.toArray⟩,.string ⟨c.id.toArray⟩,.slice IA m ic,.bool c.fl] 38) = w1:=⟨_,rfl⟩
 obtain ⟨z,hz⟩:∃ z,w.heap.size = z:=⟨_,rfl⟩
 have HZ:Cells w1 z 38 [.int .i64 7,.int .i64 c.ss,.int .i64 c.sq,.int .i64 c.sh,.int .i64 c.nd,.int .i64 c.ep,.int .i64 c.n,.string ⟨c.fd.toArray⟩,.string ⟨c.id.toArray⟩,.slice IA m ic,.bool c.fl]:=hw1 ▸ hz ▸ Cells.new w _ _
 have HO:Hid (Only [] w w1):=Hd (hw1 ▸ oz.alloc _)
 obtain ⟨c0,c1,c2,c3,c4,c5,c6,c7,c8,c9,c10⟩:=HZ.c11
 go_enter Tryz.func71,Tryz.ntmps71
 go_wp2_with fail
 refine (HC.out _).mono ?_
 rintro e w2 ⟨rfl,ho⟩
 clear c0 c1 c2 c3 c4 c5 c6 c7 c8 c9 c10
 obtain ⟨HZ,HO,c0,c1,c2,c3,c4,c5,c6,c7,c8,c9,c10⟩:=HZ.nx HO ho
 clear hw1 hz
 by_cases a1:0 < c.ss + c.sq
 · have da1:decide (0 < c.ss + c.sq) = true:=by simpa using a1
   go_wp2_with fail
   go_ret
   exact bfx (by simp [bareB,clB, *]) HO.out
 have da1:decide (0 < c.ss + c.sq) = false:=by simpa using a1
 go_wp2_with fail
 refine (HC.out _).mono ?_
 rintro e w3 ⟨rfl,ho⟩
 clear c0 c1 c2 c3 c4 c5 c6 c7 c8 c9 c10
 obtain ⟨HZ,HO,c0,c1,c2,c3,c4,c5,c6,c7,c8,c9,c10⟩:=HZ.nx HO ho
 go_wp2_with fail
 refine (is_call w3 z [8] 7 false HZ rfl (by decide)).mono ?_
 rintro e w4 ⟨rfl,ho⟩
 clear c0 c1 c2 c3 c4 c5 c6 c7 c8 c9 c10
 obtain ⟨HZ,HO,c0,c1,c2,c3,c4,c5,c6,c7,c8,c9,c10⟩:=HZ.nx HO ho
 by_cases a2:¬ c.fd = []
 · have da2:c.fd.isEmpty = false:=by simpa using a2
   go_wp2_with fail
   go_ret
   exact bfx (by simp [bareB,clB, *]) HO.out
 have a2:=Decidable.not_not.1 a2
 have da2:c.fd.isEmpty = true:=by simpa using a2
 go_wp2_with fail
 refine (is_call w4 z [4] 7 false HZ rfl (by decide)).mono ?_
 rintro e w5 ⟨rfl,ho⟩
 clear c0 c1 c2 c3 c4 c5 c6 c7 c8 c9 c10
 obtain ⟨HZ,HO,c0,c1,c2,c3,c4,c5,c6,c7,c8,c9,c10⟩:=HZ.nx HO ho
 by_cases a3:¬ c.id = []
 · have da3:c.id.isEmpty = false:=by simpa using a3
   go_wp2_with fail
   go_ret
   exact bfx (by simp [bareB,clB, *]) HO.out
 have a3:=Decidable.not_not.1 a3
 have da3:c.id.isEmpty = true:=by simpa using a3
 go_wp2_with fail
 refine (is_call w5 z [5] 7 false HZ rfl (by decide)).mono ?_
 rintro e w6 ⟨rfl,ho⟩
 clear c0 c1 c2 c3 c4 c5 c6 c7 c8 c9 c10
 obtain ⟨HZ,HO,c0,c1,c2,c3,c4,c5,c6,c7,c8,c9,c10⟩:=HZ.nx HO ho
 by_cases a4:0 < c.n
 · have da4:decide (0 < c.n) = true:=by simpa using a4
   go_wp2_with fail
   go_ret
   exact bfx (by simp [bareB,clB, *]) HO.out
 have da4:decide (0 < c.n) = false:=by simpa using a4
 go_wp2_with fail
 refine (is_call w6 z [7,8] 7 true HZ rfl (by decide)).mono ?_
 rintro e w7 ⟨rfl,ho⟩
 clear c0 c1 c2 c3 c4 c5 c6 c7 c8 c9 c10
 obtain ⟨HZ,HO,c0,c1,c2,c3,c4,c5,c6,c7,c8,c9,c10⟩:=HZ.nx HO ho
 go_wp2_with fail
 refine (is_call w7 z [7,8,9] 7 true HZ rfl (by decide)).mono ?_
 rintro e w8 ⟨rfl,ho⟩
 clear c0 c1 c2 c3 c4 c5 c6 c7 c8 c9 c10
 obtain ⟨HZ,HO,c0,c1,c2,c3,c4,c5,c6,c7,c8,c9,c10⟩:=HZ.nx HO ho
 go_wp2_with fail
 refine (is_call w8 z [8] 7 false HZ rfl (by decide)).mono ?_
 rintro e w9 ⟨rfl,ho⟩
 clear c0 c1 c2 c3 c4 c5 c6 c7 c8 c9 c10
 obtain ⟨HZ,HO,c0,c1,c2,c3,c4,c5,c6,c7,c8,c9,c10⟩:=HZ.nx HO ho
 by_cases a7:0 < c.ep
 · have da7:decide (0 < c.ep) = true:=by simpa using a7
   go_wp2_with fail
   go_ret
   exact bfx (by simp [bareB,clB, *]) HO.out
 have da7:decide (0 < c.ep) = false:=by simpa using a7
 by_cases a8:c.fl = true
 · have da8:=a8
   go_wp2_with fail
   go_ret
   exact bfx (by simp [bareB,clB, *]) HO.out
 have da8:c.fl = false:=by simpa using a8
 by_cases a9:0 < m
 · have da9:decide ((0:Int) < (m:Int)) = true:=by simpa using a9
   have la9:0 < c.its.length:=HM.out ▸ a9
   have za9:((m:Int) == 0) = false:=by simp;omega
   go_wp2_with fail
   go_ret
   exact bfx (by simp [bareB,clB, *]) HO.out
 have da9:decide ((0:Int) < (m:Int)) = false:=by simpa using a9
 have za9:((m:Int) == 0) = true:=by simp;omega
 have la9:¬ 0 < c.its.length:=HM.out ▸ a9
 go_wp2_with fail
 go_ret
 exact bfx (by simp [bareB,clB, *]) HO.out
theorem bare_8 (c:Cm) (IA:Option Addr) (m ic:Nat) (hm:m = c.its.length) (h1:0 ≤ c.ss ∧ c.ss ≤ 1099511627776) (h2:0 ≤ c.sq ∧ c.sq ≤ 1099511627776) (w:World):
 Calls Tryz.prog 71 #[Cm.val {c with kd:=8} (.slice IA m ic)] w fun e w' => e = .returned (.bool (bareB {c with kd:=8})) ∧ Only [] w w':=by
 have HM:=Hd hm
 clear hm
 have HC:=Hd (fun w' => client_call {c with kd:=8} (.slice IA m ic) w')
 rw [show clB 8 = false from rfl] at HC
 unfold Cm.val at HC ⊢
 dsimp only at HC ⊢
 have hws:IntKind.i64.wrap (c.ss + c.sq) = c.ss + c.sq:=by rw [IntKind.wrap_i64];omega
 obtain ⟨w1,hw1⟩:∃ w1,w.alloc (.cells #[.int .i64 8,.int .i64 c.ss,.int .i64 c.sq,.int .i64 c.sh,.int .i64 c.nd,.int .i64 c.ep,.int .i64 c.n,.string ⟨c.fd.toArray⟩,.string ⟨c.id.toArray⟩,.slice IA m ic,.bool c.fl] 38) = w1:=⟨_,rfl⟩
 obtain ⟨z,hz⟩:∃ z,w.heap.size = z:=⟨_,rfl⟩
 have HZ:Cells w1 z 38 [.int .i64 8,.int .i64 c.ss,.int .i64 c.sq,.int .i64 c.sh,.int .i64 c.nd,.int .i64 c.ep,.int .i64 c.n,.string ⟨c.fd.toArray⟩,.string ⟨c.id.toArray⟩,.slice IA m ic,.bool c.fl]:=hw1 ▸ hz ▸ Cells.new w _ _
 have HO:Hid (Only [] w w1):=Hd (hw1 ▸ oz.alloc _)
 obtain ⟨c0,c1,c2,c3,c4,c5,c6,c7,c8,c9,c10⟩:=HZ.c11
 go_enter Tryz.func71,Tryz.ntmps71
 go_wp2_with fail
 refine (HC.out _).mono ?_
 rintro e w2 ⟨rfl,ho⟩
 clear c0 c1 c2 c3 c4 c5 c6 c7 c8 c9 c10
 obtain ⟨HZ,HO,c0,c1,c2,c3,c4,c5,c6,c7,c8,c9,c10⟩:=HZ.nx HO ho
 clear hw1 hz
 by_cases a1:0 < c.ss + c.sq
 · have da1:decide (0 < c.ss + c.sq) = true:=by simpa using a1
   go_wp2_with fail
   go_ret
   exact bfx (by simp [bareB,clB, *]) HO.out
 have da1:decide (0 < c.ss + c.sq) = false:=by simpa using a1
 go_wp2_with fail
 refine (HC.out _).mono ?_
 rintro e w3 ⟨rfl,ho⟩
 clear c0 c1 c2 c3 c4 c5 c6 c7 c8 c9 c10
 obtain ⟨HZ,HO,c0,c1,c2,c3,c4,c5,c6,c7,c8,c9,c10⟩:=HZ.nx HO ho
 go_wp2_with fail
 refine (is_call w3 z [8] 8 true HZ rfl (by decide)).mono ?_
 rintro e w4 ⟨rfl,ho⟩
 clear c0 c1 c2 c3 c4 c5 c6 c7 c8 c9 c10
 obtain ⟨HZ,HO,c0,c1,c2,c3,c4,c5,c6,c7,c8,c9,c10⟩:=HZ.nx HO ho
 go_wp2_with fail
 refine (is_call w4 z [4] 8 false HZ rfl (by decide)).mono ?_
 rintro e w5 ⟨rfl,ho⟩
 clear c0 c1 c2 c3 c4 c5 c6 c7 c8 c9 c10
 obtain ⟨HZ,HO,c0,c1,c2,c3,c4,c5,c6,c7,c8,c9,c10⟩:=HZ.nx HO ho
 by_cases a3:¬ c.id = []
 · have da3:c.id.isEmpty = false:=by simpa using a3
   go_wp2_with fail
   go_ret
   exact bfx (by simp [bareB,clB, *]) HO.out
 have a3:=Decidable.not_not.1 a3
 have da3:c.id.isEmpty = true:=by simpa using a3
 go_wp2_with fail
 refine (is_call w5 z [5] 8 false HZ rfl (by decide)).mono ?_
 rintro e w6 ⟨rfl,ho⟩
 clear c0 c1 c2 c3 c4 c5 c6 c7 c8 c9 c10
 obtain ⟨HZ,HO,c0,c1,c2,c3,c4,c5,c6,c7,c8,c9,c10⟩:=HZ.nx HO ho
 by_cases a4:0 < c.n
 · have da4:decide (0 < c.n) = true:=by simpa using a4
   go_wp2_with fail
   go_ret
   exact bfx (by simp [bareB,clB, *]) HO.out
 have da4:decide (0 < c.n) = false:=by simpa using a4
 go_wp2_with fail
 refine (is_call w6 z [7,8] 8 true HZ rfl (by decide)).mono ?_
 rintro e w7 ⟨rfl,ho⟩
 clear c0 c1 c2 c3 c4 c5 c6 c7 c8 c9 c10
 obtain ⟨HZ,HO,c0,c1,c2,c3,c4,c5,c6,c7,c8,c9,c10⟩:=HZ.nx HO ho
 go_wp2_with fail
 refine (is_call w7 z [7,8,9] 8 true HZ rfl (by decide)).mono ?_
 rintro e w8 ⟨rfl,ho⟩
 clear c0 c1 c2 c3 c4 c5 c6 c7 c8 c9 c10
 obtain ⟨HZ,HO,c0,c1,c2,c3,c4,c5,c6,c7,c8,c9,c10⟩:=HZ.nx HO ho
 go_wp2_with fail
 refine (is_call w8 z [8] 8 true HZ rfl (by decide)).mono ?_
 rintro e w9 ⟨rfl,ho⟩
 clear c0 c1 c2 c3 c4 c5 c6 c7 c8 c9 c10
 obtain ⟨HZ,HO,c0,c1,c2,c3,c4,c5,c6,c7,c8,c9,c10⟩:=HZ.nx HO ho
 by_cases a8:c.fl = true
 · have da8:=a8
   by_cases a9:0 < m
   · have da9:decide ((0:Int) < (m:Int)) = true:=by simpa using a9
     have la9:0 < c.its.length:=HM.out ▸ a9
     have za9:((m:Int) == 0) = false:=by simp;omega
     go_wp2_with fail
     go_ret
     exact bfx (by simp [bareB,clB, *]) HO.out
   have da9:decide ((0:Int) < (m:Int)) = false:=by simpa using a9
   have za9:((m:Int) == 0) = true:=by simp;omega
   have la9:¬ 0 < c.its.length:=HM.out ▸ a9
   go_wp2_with fail
   go_ret
   exact bfx (by simp [bareB,clB, *]) HO.out
 have da8:c.fl = false:=by simpa using a8
 go_wp2_with fail
 go_ret
 exact bfx (by simp [bareB,clB, *]) HO.out
theorem bare_9 (c:Cm) (IA:Option Addr) (m ic:Nat) (hm:m = c.its.length) (h1:0 ≤ c.ss ∧ c.ss ≤ 1099511627776) (h2:0 ≤ c.sq ∧ c.sq ≤ 1099511627776) (w:World):
 Calls Tryz.prog 71 #[Cm.val {c with kd:=9} (.slice IA m ic)] w fun e w' => e = .returned (.bool (bareB {c with kd:=9})) ∧ Only [] w w':=by
 have HM:=Hd hm
 clear hm
 have HC:=Hd (fun w' => client_call {c with kd:=9} (.slice IA m ic) w')
 rw [show clB 9 = false from rfl] at HC
 unfold Cm.val at HC ⊢
 dsimp only at HC ⊢
 have hws:IntKind.i64.wrap (c.ss + c.sq) = c.ss + c.sq:=by rw [IntKind.wrap_i64];omega
 obtain ⟨w1,hw1⟩:∃ w1,w.alloc (.cells #[.int .i64 9,.int .i64 c.ss,.int .i64 c.sq,.int .i64 c.sh,.int .i64 c.nd,.int .i64 c.ep,.int .i64 c.n,.string ⟨c.fd.toArray⟩,.string ⟨c.id.toArray⟩,.slice IA m ic,.bool c.fl] 38) = w1:=⟨_,rfl⟩
 obtain ⟨z,hz⟩:∃ z,w.heap.size = z:=⟨_,rfl⟩
 have HZ:Cells w1 z 38 [.int .i64 9,.int .i64 c.ss,.int .i64 c.sq,.int .i64 c.sh,.int .i64 c.nd,.int .i64 c.ep,.int .i64 c.n,.string ⟨c.fd.toArray⟩,.string ⟨c.id.toArray⟩,.slice IA m ic,.bool c.fl]:=hw1 ▸ hz ▸ Cells.new w _ _
 have HO:Hid (Only [] w w1):=Hd (hw1 ▸ oz.alloc _)
 obtain ⟨c0,c1,c2,c3,c4,c5,c6,c7,c8,c9,c10⟩:=HZ.c11
 go_enter Tryz.func71,Tryz.ntmps71
 go_wp2_with fail
 refine (HC.out _).mono ?_
 rintro e w2 ⟨rfl,ho⟩
 clear c0 c1 c2 c3 c4 c5 c6 c7 c8 c9 c10
 obtain ⟨HZ,HO,c0,c1,c2,c3,c4,c5,c6,c7,c8,c9,c10⟩:=HZ.nx HO ho
 clear hw1 hz
 by_cases a1:0 < c.ss + c.sq
 · have da1:decide (0 < c.ss + c.sq) = true:=by simpa using a1
   go_wp2_with fail
   go_ret
   exact bfx (by simp [bareB,clB, *]) HO.out
 have da1:decide (0 < c.ss + c.sq) = false:=by simpa using a1
 go_wp2_with fail
 refine (HC.out _).mono ?_
 rintro e w3 ⟨rfl,ho⟩
 clear c0 c1 c2 c3 c4 c5 c6 c7 c8 c9 c10
 obtain ⟨HZ,HO,c0,c1,c2,c3,c4,c5,c6,c7,c8,c9,c10⟩:=HZ.nx HO ho
 go_wp2_with fail
 refine (is_call w3 z [8] 9 false HZ rfl (by decide)).mono ?_
 rintro e w4 ⟨rfl,ho⟩
 clear c0 c1 c2 c3 c4 c5 c6 c7 c8 c9 c10
 obtain ⟨HZ,HO,c0,c1,c2,c3,c4,c5,c6,c7,c8,c9,c10⟩:=HZ.nx HO ho
 by_cases a2:¬ c.fd = []
 · have da2:c.fd.isEmpty = false:=by simpa using a2
   go_wp2_with fail
   go_ret
   exact bfx (by simp [bareB,clB, *]) HO.out
 have a2:=Decidable.not_not.1 a2
 have da2:c.fd.isEmpty = true:=by simpa using a2
 go_wp2_with fail
 refine (is_call w4 z [4] 9 false HZ rfl (by decide)).mono ?_
 rintro e w5 ⟨rfl,ho⟩
 clear c0 c1 c2 c3 c4 c5 c6 c7 c8 c9 c10
 obtain ⟨HZ,HO,c0,c1,c2,c3,c4,c5,c6,c7,c8,c9,c10⟩:=HZ.nx HO ho
 by_cases a3:¬ c.id = []
 · have da3:c.id.isEmpty = false:=by simpa using a3
   go_wp2_with fail
   go_ret
   exact bfx (by simp [bareB,clB, *]) HO.out
 have a3:=Decidable.not_not.1 a3
 have da3:c.id.isEmpty = true:=by simpa using a3
 go_wp2_with fail
 refine (is_call w5 z [5] 9 false HZ rfl (by decide)).mono ?_
 rintro e w6 ⟨rfl,ho⟩
 clear c0 c1 c2 c3 c4 c5 c6 c7 c8 c9 c10
 obtain ⟨HZ,HO,c0,c1,c2,c3,c4,c5,c6,c7,c8,c9,c10⟩:=HZ.nx HO ho
 by_cases a4:0 < c.n
 · have da4:decide (0 < c.n) = true:=by simpa using a4
   go_wp2_with fail
   go_ret
   exact bfx (by simp [bareB,clB, *]) HO.out
 have da4:decide (0 < c.n) = false:=by simpa using a4
 go_wp2_with fail
 refine (is_call w6 z [7,8] 9 false HZ rfl (by decide)).mono ?_
 rintro e w7 ⟨rfl,ho⟩
 clear c0 c1 c2 c3 c4 c5 c6 c7 c8 c9 c10
 obtain ⟨HZ,HO,c0,c1,c2,c3,c4,c5,c6,c7,c8,c9,c10⟩:=HZ.nx HO ho
 by_cases a5:0 < c.nd
 · have da5:decide (0 < c.nd) = true:=by simpa using a5
   go_wp2_with fail
   go_ret
   exact bfx (by simp [bareB,clB, *]) HO.out
 have da5:decide (0 < c.nd) = false:=by simpa using a5
 go_wp2_with fail
 refine (is_call w7 z [7,8,9] 9 true HZ rfl (by decide)).mono ?_
 rintro e w8 ⟨rfl,ho⟩
 clear c0 c1 c2 c3 c4 c5 c6 c7 c8 c9 c10
 obtain ⟨HZ,HO,c0,c1,c2,c3,c4,c5,c6,c7,c8,c9,c10⟩:=HZ.nx HO ho
 go_wp2_with fail
 refine (is_call w8 z [8] 9 false HZ rfl (by decide)).mono ?_
 rintro e w9 ⟨rfl,ho⟩
 clear c0 c1 c2 c3 c4 c5 c6 c7 c8 c9 c10
 obtain ⟨HZ,HO,c0,c1,c2,c3,c4,c5,c6,c7,c8,c9,c10⟩:=HZ.nx HO ho
 by_cases a7:0 < c.ep
 · have da7:decide (0 < c.ep) = true:=by simpa using a7
   go_wp2_with fail
   go_ret
   exact bfx (by simp [bareB,clB, *]) HO.out
 have da7:decide (0 < c.ep) = false:=by simpa using a7
 by_cases a8:c.fl = true
 · have da8:=a8
   go_wp2_with fail
   go_ret
   exact bfx (by simp [bareB,clB, *]) HO.out
 have da8:c.fl = false:=by simpa using a8
 by_cases a9:0 < m
 · have da9:decide ((0:Int) < (m:Int)) = true:=by simpa using a9
   have la9:0 < c.its.length:=HM.out ▸ a9
   have za9:((m:Int) == 0) = false:=by simp;omega
   go_wp2_with fail
   go_ret
   exact bfx (by simp [bareB,clB, *]) HO.out
 have da9:decide ((0:Int) < (m:Int)) = false:=by simpa using a9
 have za9:((m:Int) == 0) = true:=by simp;omega
 have la9:¬ 0 < c.its.length:=HM.out ▸ a9
 go_wp2_with fail
 go_ret
 exact bfx (by simp [bareB,clB, *]) HO.out
structure CmAt (w:World) (iv:Value) (c:Cm):Prop where
 its:SlAt w w.heap.size iv 3 c.its.length (itL c.its)
 len:∀ x ∈ c.its,x.Len
 fd:c.fd.length ≤ maxLen
 id:c.id.length ≤ maxLen
 nums:∀ x ∈ [c.kd,c.ss,c.sq,c.sh,c.nd,c.ep,c.n],Wide64 x
theorem CmAt.only {w w':World} {iv:Value} {c:Cm} (h:CmAt w iv c) (ho:Only [] w w'):CmAt w' iv c:=⟨(h.its.only ho (Nat.le_refl _) (by simp)).more ho.size,h.len,h.fd,h.id,h.nums⟩
def inB (n top:Int):Bool:=decide (0 ≤ n) && decide (n ≤ top)
def numB (c:Cm):Bool:=decide (1 ≤ c.kd) && decide (c.kd ≤ 9) && inB c.ss 1099511627776 && inB c.sq 1099511627776 && inB c.ep 1099511627776 && inB c.n 1099511627776 && inB c.sh 7 && inB c.nd 9
def lenB (c:Cm):Bool:=decide (c.fd.length ≤ 200) && decide (c.id.length ≤ 200) && decide (c.its.length ≤ 100)
def rightB (c:Cm):Bool:=numB c && lenB c && bareB c && c.its.all itR
theorem inB_iff {n top:Int}:inB n top = true ↔ 0 ≤ n ∧ n ≤ top:=by unfold inB;simp
theorem bare_call (c:Cm) (IA:Option Addr) (m ic:Nat) (hm:m = c.its.length) (hk:1 ≤ c.kd ∧ c.kd ≤ 9) (h1:0 ≤ c.ss ∧ c.ss ≤ 1099511627776) (h2:0 ≤ c.sq ∧ c.sq ≤ 1099511627776) (w:World):
 Calls Tryz.prog 71 #[c.val (.slice IA m ic)] w fun e w' => e = .returned (.bool (bareB c)) ∧ Only [] w w':=by
 obtain ⟨kd,ss,sq,sh,nd,ep,n,fd,id,its,fl⟩:=c
 have hk:kd = 1 ∨ kd = 2 ∨ kd = 3 ∨ kd = 4 ∨ kd = 5 ∨ kd = 6 ∨ kd = 7 ∨ kd = 8 ∨ kd = 9:=by dsimp only at hk;omega
 rcases hk with rfl | rfl | rfl | rfl | rfl | rfl | rfl | rfl | rfl
 · exact bare_1 ⟨1,ss,sq,sh,nd,ep,n,fd,id,its,fl⟩ IA m ic hm h1 h2 w
 · exact bare_2 ⟨2,ss,sq,sh,nd,ep,n,fd,id,its,fl⟩ IA m ic hm h1 h2 w
 · exact bare_3 ⟨3,ss,sq,sh,nd,ep,n,fd,id,its,fl⟩ IA m ic hm h1 h2 w
 · exact bare_4 ⟨4,ss,sq,sh,nd,ep,n,fd,id,its,fl⟩ IA m ic hm h1 h2 w
 · exact bare_5 ⟨5,ss,sq,sh,nd,ep,n,fd,id,its,fl⟩ IA m ic hm h1 h2 w
 · exact bare_6 ⟨6,ss,sq,sh,nd,ep,n,fd,id,its,fl⟩ IA m ic hm h1 h2 w
 · exact bare_7 ⟨7,ss,sq,sh,nd,ep,n,fd,id,its,fl⟩ IA m ic hm h1 h2 w
 · exact bare_8 ⟨8,ss,sq,sh,nd,ep,n,fd,id,its,fl⟩ IA m ic hm h1 h2 w
 · exact bare_9 ⟨9,ss,sq,sh,nd,ep,n,fd,id,its,fl⟩ IA m ic hm h1 h2 w
theorem within_call (n top:Int) (w:World):Calls Tryz.prog 70 #[.int .i64 n,.int .i64 top] w fun e w' => e = .returned (.bool (inB n top)) ∧ w = w':=by
 by_cases h:0 ≤ n
 · have d:decide (0 ≤ n) = true:=by simpa using h
   have HR:Hid (inB n top = decide (n ≤ top)):=Hd (by unfold inB;rw [d];rfl)
   rw [HR.out]
   clear HR
   go_enter Tryz.func70,Tryz.ntmps70
   go_wp2_with fail
   go_ret
   exact ⟨rfl,rfl⟩
 · have d:decide (0 ≤ n) = false:=by simpa using h
   have HR:Hid (inB n top = false):=Hd (by unfold inB;rw [d];rfl)
   rw [HR.out]
   clear HR
   go_enter Tryz.func70,Tryz.ntmps70
   go_wp2_with fail
   go_ret
   exact ⟨rfl,rfl⟩
theorem cmd_right (c:Cm) (iv:Value) (w:World) (h:CmAt w iv c):
 Calls Tryz.prog 27 #[c.val iv] w fun e w' => e = .returned (.bool (rightB c)) ∧ Only [] w w':=by
 obtain ⟨IA,ic,rfl⟩:=h.its.shape
 have hil:=sl_len h.its
 have hfl:=h.fd
 have hdl:=h.id
 obtain ⟨m,hm'⟩:∃ m,c.its.length = m:=⟨_,rfl⟩
 have hm:=hm'
 have HB:=Hd (fun hk h1 h2 w' => bare_call c IA m ic hm'.symm hk h1 h2 w')
 have HCF:=Hd (fun (hl:c.its.length ≤ 100) w' (ho:Only [] w w') => containsFunc_it18 (.slice IA c.its.length ic) c.its w' (h.only ho).its (by omega) h.len)
 rw [hm] at HCF hil
 unfold Cm.val at HB ⊢
 rw [hm]
 obtain ⟨w1,hw1⟩:∃ w1,w.alloc (.cells #[.int .i64 c.kd,.int .i64 c.ss,.int .i64 c.sq,.int .i64 c.sh,.int .i64 c.nd,.int .i64 c.ep,.int .i64 c.n,.string ⟨c.fd.toArray⟩,.string ⟨c.id.toArray⟩,.slice IA m ic,.bool c.fl] 38) = w1:=⟨_,rfl⟩
 obtain ⟨z,hz⟩:∃ z,w.heap.size = z:=⟨_,rfl⟩
 have HZ:Cells w1 z 38 [.int .i64 c.kd,.int .i64 c.ss,.int .i64 c.sq,.int .i64 c.sh,.int .i64 c.nd,.int .i64 c.ep,.int .i64 c.n,.string ⟨c.fd.toArray⟩,.string ⟨c.id.toArray⟩,.slice IA m ic,.bool c.fl]:=hw1 ▸ hz ▸ Cells.new w _ _
 have HO:Hid (Only [] w w1):=Hd (hw1 ▸ oz.alloc _)
 have HM:=Hd hm
 obtain ⟨c0,c1,c2,c3,c4,c5,c6,c7,c8,c9,c10⟩:=HZ.c11
 clear h
 unfold maxLen at hfl hdl hil
 go_enter Tryz.func27,Tryz.ntmps27
 by_cases k1:c.kd < 1
 · have d1:decide (c.kd < 1) = true:=by simpa using k1
   have HR:Hid (rightB c = false):=Hd (by unfold rightB numB;rw [show decide (1 ≤ c.kd) = false from by simp;omega];rfl)
   go_wp2_with fail
   go_ret
   exact ⟨by rw [HR.out];rfl,HO.out⟩
 have d1:decide (c.kd < 1) = false:=by simpa using k1
 by_cases k2:9 < c.kd
 · have d2:decide (9 < c.kd) = true:=by simpa using k2
   have HR:Hid (rightB c = false):=Hd (by unfold rightB numB;rw [show decide (c.kd ≤ 9) = false from by simp;omega];simp)
   go_wp2_with fail
   go_ret
   exact ⟨by rw [HR.out];rfl,HO.out⟩
 have d2:decide (9 < c.kd) = false:=by simpa using k2
 cases iss:inB c.ss 1099511627776 with
 | false =>
  have HR:Hid (rightB c = false):=Hd (by unfold rightB numB;rw [iss];simp)
  go_wp2_with fail
  repeat (refine (within_call _ _ _).mono ?_;rintro e w2 ⟨rfl,rfl⟩;go_wp2_with fail)
  go_ret
  exact ⟨by rw [HR.out];rfl,HO.out⟩
 | true =>
 cases isq:inB c.sq 1099511627776 with
 | false =>
  have HR:Hid (rightB c = false):=Hd (by unfold rightB numB;rw [isq];simp)
  go_wp2_with fail
  repeat (refine (within_call _ _ _).mono ?_;rintro e w2 ⟨rfl,rfl⟩;go_wp2_with fail)
  go_ret
  exact ⟨by rw [HR.out];rfl,HO.out⟩
 | true =>
 cases iep:inB c.ep 1099511627776 with
 | false =>
  have HR:Hid (rightB c = false):=Hd (by unfold rightB numB;rw [iep];simp)
  go_wp2_with fail
  repeat (refine (within_call _ _ _).mono ?_;rintro e w2 ⟨rfl,rfl⟩;go_wp2_with fail)
  go_ret
  exact ⟨by rw [HR.out];rfl,HO.out⟩
 | true =>
 cases inn:inB c.n 1099511627776 with
 | false =>
  have HR:Hid (rightB c = false):=Hd (by unfold rightB numB;rw [inn];simp)
  go_wp2_with fail
  repeat (refine (within_call _ _ _).mono ?_;rintro e w2 ⟨rfl,rfl⟩;go_wp2_with fail)
  go_ret
  exact ⟨by rw [HR.out];rfl,HO.out⟩
 | true =>
 cases ish:inB c.sh 7 with
 | false =>
  have HR:Hid (rightB c = false):=Hd (by unfold rightB numB;rw [ish];simp)
  go_wp2_with fail
  repeat (refine (within_call _ _ _).mono ?_;rintro e w2 ⟨rfl,rfl⟩;go_wp2_with fail)
  go_ret
  exact ⟨by rw [HR.out];rfl,HO.out⟩
 | true =>
 cases ind:inB c.nd 9 with
 | false =>
  have HR:Hid (rightB c = false):=Hd (by unfold rightB numB;rw [ind];simp)
  go_wp2_with fail
  repeat (refine (within_call _ _ _).mono ?_;rintro e w2 ⟨rfl,rfl⟩;go_wp2_with fail)
  go_ret
  exact ⟨by rw [HR.out];rfl,HO.out⟩
 | true =>
 by_cases l1:200 < max c.fd.length c.id.length
 · have e1:decide ((200:Int) < max (c.fd.length:Int) (c.id.length:Int)) = true:=by simp;omega
   have HR:Hid (rightB c = false):=Hd (by
    have:lenB c = false:=by
     unfold lenB
     by_cases hq:c.fd.length ≤ 200
     · rw [show decide (c.id.length ≤ 200) = false from by simp;omega];simp
     · rw [show decide (c.fd.length ≤ 200) = false from by simp;omega];simp
    unfold rightB
    rw [this];simp)
   go_wp2_with fail
   repeat (refine (within_call _ _ _).mono ?_;rintro e w2 ⟨rfl,rfl⟩;go_wp2_with fail)
   go_ret
   exact ⟨by rw [HR.out];rfl,HO.out⟩
 have e1:decide ((200:Int) < max (c.fd.length:Int) (c.id.length:Int)) = false:=by simp;omega
 by_cases l2:100 < m
 · have e2:decide ((100:Int) < (m:Int)) = true:=by simp;omega
   have HR:Hid (rightB c = false):=Hd (by
    have:lenB c = false:=by
     unfold lenB
     rw [show decide (c.its.length ≤ 100) = false from by simp;omega];simp
    unfold rightB
    rw [this];simp)
   go_wp2_with fail
   repeat (refine (within_call _ _ _).mono ?_;rintro e w2 ⟨rfl,rfl⟩;go_wp2_with fail)
   go_ret
   exact ⟨by rw [HR.out];rfl,HO.out⟩
 have e2:decide ((100:Int) < (m:Int)) = false:=by simp;omega
 have HR:Hid (rightB c = (bareB c && c.its.all itR)):=Hd (by
  have a1:lenB c = true:=by
   unfold lenB
   rw [hm,show decide (m ≤ 100) = true from by simp;omega,show decide (c.fd.length ≤ 200) = true from by simp;omega,show decide (c.id.length ≤ 200) = true from by simp;omega];rfl
  have a2:numB c = true:=by
   unfold numB
   rw [iss,isq,iep,inn,ish,ind,show decide (1 ≤ c.kd) = true from by simp;omega,show decide (c.kd ≤ 9) = true from by simp;omega];rfl
  unfold rightB
  rw [a1,a2];rfl)
 have HB2:=Hd (HB.out (by omega) (inB_iff.1 iss) (inB_iff.1 isq))
 have HF2:=Hd (HCF.out (by omega))
 clear HB HCF
 go_wp2_with fail
 repeat (refine (within_call _ _ _).mono ?_;rintro e w2 ⟨rfl,rfl⟩;go_wp2_with fail)
 clear iss isq iep inn ish ind hfl hdl
 refine (HB2.out _).mono ?_
 rintro e w2 ⟨rfl,ho2⟩
 have HZ2:=HZ.only ho2 (by simp)
 have HO2:=Hd (HO.out.tr ho2)
 clear ho2 hw1 hz HB2
 cases hb:bareB c with
 | false =>
  go_wp2_with fail
  go_ret
  exact ⟨by rw [HR.out,hb];rfl,HO2.out⟩
 | true =>
  clear c0 c1 c2 c3 c4 c5 c6 c7 c8 c9 c10
  have c9:=HZ2.cell (k:=9) rfl
  have F:=Hd (HF2.out w2 HO2.out)
  clear HF2
  go_wp2_with fail
  refine F.out.mono ?_
  rintro e w3 ⟨rfl,ho3⟩
  have HO3:=Hd (HO2.out.tr ho3)
  clear ho3
  obtain ⟨r,hr⟩:∃ r,c.its.all itR = r:=⟨_,rfl⟩
  rw [hr] at HR ⊢
  cases r
  all_goals
   go_wp2_with fail
   go_ret
   exact ⟨by rw [HR.out,hb];rfl,HO3.out⟩
end Go.Proofs.YtcjfmildalappaaGreat
