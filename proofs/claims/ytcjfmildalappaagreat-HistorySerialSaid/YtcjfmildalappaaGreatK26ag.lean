/-
  Contracts; each theorem bears its own conditions.
-/
import Derived.Deep.RegionLaw
import Derived.Deep.RegionHeld3
import Derived.Deep.AppendLies
import Derived.Test.YtcjfmildalappaaGreatK26aa
import Derived.Test.YtcjfmildalappaaGreatK26ab
set_option linter.all false
set_option maxRecDepth 100000
set_option maxHeartbeats 8000000
namespace Go.Proofs.YtcjfmildalappaaGreat.S15
open Go.RowKit
theorem info_ses:(Tryz.prog.info? 220).map (fun i => (i.zero,i.size,i.bytes)) = some (some (.agg #[.int .i64 0,.int .i64 0,.string .empty]),3,32):=by kernel_rfl
theorem delete_ses (g cap n i j:Nat) (cs:List Value) (w:World) (hC:Cells w g 220 cs) (hl:cs.length = cap * 3) (hn:n ≤ cap) (hcm:cap ≤ maxLen) (hij:i < j) (hj:j ≤ n) (h1:∀ u ∈ cs.take (n * 3),u.oneCell' = true):
 Calls Tryz.prog 234 #[.slice (some ⟨g,0,none⟩) n cap,.int .i64 i,.int .i64 j] w fun e w' =>
  e = .returned (.slice (some ⟨g,0,none⟩) (n - (j - i)) cap) ∧ ∃ cs',Cells w' g 220 cs' ∧ cs'.length = cap * 3 ∧ cs'.take ((n - (j - i)) * 3) = cs.take (i * 3) ++ (cs.take (n * 3)).drop (j * 3) ∧ Only [g] w w':=by
 obtain ⟨i0,hi0,hz0,hz1,hz2⟩:=info_parts info_ses
 have hij2:((i:Int) == (j:Int)) = false:=by simp;omega
 have hcm2:cap ≤ 9223372036854775807:=by unfold maxLen at hcm;omega
 have hic:i ≤ cap:=by omega
 have hjc:j ≤ cap:=by omega
 have HC:=Hd hC
 clear hC
 go_enter Tryz.func234,Tryz.ntmps234
 go_wp2_with fail
 go_still_tail 6,(by kernel_rfl)
 change wpList _ _ _ _ _ w.drew
 obtain ⟨news,hnews⟩:∃ news,(cs.take (n * 3)).drop (j * 3) = news:=⟨_,rfl⟩
 have hnl:news.length = (n - j) * 3:=by rw [← hnews];simp;omega
 obtain ⟨A,hA,hr⟩:∃ A:Addr,(if cap = j then some (⟨g,0,none⟩:Addr) else some ⟨g,j * 3,none⟩) = some A ∧ Hid (∀ t u,news[t]? = some u → w.drew.cell? (A.add t) = some u):=by
  by_cases h:cap = j
  · refine ⟨⟨g,0,none⟩,by simp [h],fun t u hu => ?_⟩
    have h0:news = []:=List.length_eq_zero_iff.1 (by rw [hnl];omega)
    rw [h0] at hu;simp at hu
  · refine ⟨⟨g,j * 3,none⟩,by simp [h],fun t u hu => ?_⟩
    have ht:=(List.getElem?_eq_some_iff.1 hu).1
    rw [← hnews,List.getElem?_drop,List.getElem?_take_of_lt (by omega)] at hu
    rw [Addr.add_lit]
    exact HC.out.drew.cell hu
 rw [hA]
 have h1n:∀ u ∈ news,u.oneCell' = true:=by
  intro u hu
  rw [← hnews] at hu
  exact h1 u (List.mem_of_mem_drop hu)
 refine wpList_room w.drew rfl _ _ 176 rfl 220 i0 3 Tryz.underlying176 hi0 hz1 g i cap cs HC.out.drew rfl A (n - j) (cap - j) news rfl hnl hr.out h1n (by omega) hl ?_
 have hC1:=HC.out.drew.setMany (i * 3) news
 have ho1:Only [g] w (w.drew.setCells g (i * 3) news):=(Only.refl [g] w).drew.setCells (.inl (by simp)) _ _
 have hp1:=putL_eq news (i * 3) cs (by omega)
 have hpl:=putL_length news (i * 3) cs
 obtain ⟨w1,hw1⟩:∃ w1,w.drew.setCells g (i * 3) news = w1:=⟨_,rfl⟩
 obtain ⟨cs1,hcs1⟩:∃ cs1,putL cs (i * 3) news = cs1:=⟨_,rfl⟩
 rw [hw1] at hC1 ho1 ⊢
 rw [hcs1] at hC1 hp1 hpl
 have HC1:=Hd hC1
 have HP1:=Hd hp1
 clear hw1 hcs1 hC1 hp1 hA hr HC
 go_wp2_with fail
 obtain ⟨zs,hzl,hz1c,hcl⟩:=run_clear_cells w1 176 220 0 (.agg #[.int .i64 0,.int .i64 0,.string .empty]) 3 Tryz.underlying176 (fun w => by simp [zeroValue,typeInfo,hi0,hz0]) rfl (by simp [Value.cells,Value.oneCell']) g ((i + (n - j)) * 3) (n - (i + (n - j))) (cap - (i + (n - j))) cs1 HC1.out (by omega) (by rw [hpl,hl];omega)
 rw [hcl]
 simp only [Result.andThen]
 rw [Oper.upon_value]
 clear hcl
 have hC2:=HC1.out.setMany ((i + (n - j)) * 3) zs
 have ho2:=ho1.setCells (b:=g) (.inl (by simp)) ((i + (n - j)) * 3) zs
 have hp2:=putL_eq zs ((i + (n - j)) * 3) cs1 (by rw [hpl,hl,hzl];omega)
 have hpl2:=putL_length zs ((i + (n - j)) * 3) cs1
 go_wp2_with fail
 go_ret
 refine ⟨by rw [show n - (j - i) = i + (n - j) from by omega];rfl,_,hC2,by omega,?_,ho2⟩
 · rw [hp2,show n - (j - i) = i + (n - j) from by omega,List.append_assoc,List.take_append_of_le_length (by rw [List.length_take];omega),List.take_take,Nat.min_self,HP1.out,hnews]
   rw [List.take_append_of_le_length (by rw [List.length_append,List.length_take,hnl];omega),List.take_of_length_le (by rw [List.length_append,List.length_take,hnl];omega)]
theorem spare3 {W:World} {g:Nat} {T:TypeId} {cs:List Value} {cap m:Nat} {a b c:Value} (hC:Cells W g T cs) (hl:cs.length = cap * 3) (hm:m + 1 ≤ cap):
 ∀ j,j < [a,b,c].length → (W.cell? ⟨g,0 + m * 3 + j,none⟩).isSome = true ∧ W.frozen? ⟨g,0 + m * 3 + j,none⟩ = false:=by
 intro j hj
 have hj3:j < 3:=hj
 exact ⟨by rw [hC.cell (List.getElem?_eq_getElem (by omega))];rfl,hC.frozen _⟩
theorem lit3 {W:World} {b:Nat} {T:TypeId} {cs:List Value} (hC:Cells W b T cs):∀ j u,cs[j]? = some u → W.cell? (Addr.add ⟨b,0,none⟩ j) = some u:=by
 intro j u hu
 have:=hC.cell hu
 unfold Addr.add
 by_cases h:j = 0
 · subst h;simpa using this
 · simp only [h,if_false,Nat.zero_add];exact this
theorem last_ses (g cap n i:Nat) (cs:List Value) (x0 x1:Int) (x2:ByteArray) (w:World) (hC:Cells w g 220 cs) (hl:cs.length = cap * 3) (hn:n ≤ cap) (hcm:cap ≤ maxLen) (hi:i < n) (h1:∀ u ∈ cs.take (n * 3),u.oneCell' = true):
 Calls Tryz.prog 196 #[.slice (some ⟨g,0,none⟩) n cap,.int .i64 i,.agg #[.int .i64 x0,.int .i64 x1,.string x2]] w fun e w' =>
  e = .returned (.slice (some ⟨g,0,none⟩) n cap) ∧ ∃ cs',Cells w' g 220 cs' ∧ cs'.length = cap * 3 ∧ cs'.take (n * 3) = cs.take (i * 3) ++ (cs.take (n * 3)).drop ((i + 1) * 3) ++ [.int .i64 x0,.int .i64 x1,.string x2] ∧ Only [g] w w':=by
 obtain ⟨i0,hi0,hz0,hz1,hz2⟩:=info_parts info_ses
 have hlt:=hC.lt
 have HC:=Hd hC
 have HD:=fun W hW => delete_ses g cap n i (i + 1) cs W hW hl hn hcm (by omega) hi h1
 rw [show n - (i + 1 - i) = n - 1 from by omega] at HD
 have HDD:=Hd HD
 have hcm2:cap ≤ 9223372036854775807:=by unfold maxLen at hcm;omega
 have hiw:IntKind.i64.wrap ((i:Int) + 1) = (i:Int) + 1:=by rw [IntKind.wrap_i64];omega
 clear hC HD
 go_enter Tryz.func196,Tryz.ntmps196
 go_wp2_with fail
 have r0:(w.alloc (.cells #[.int .i64 x0,.int .i64 x1,.string x2] 220)).cell? ⟨w.heap.size,0,none⟩ = some (.int .i64 x0):=by simp
 have r1:(w.alloc (.cells #[.int .i64 x0,.int .i64 x1,.string x2] 220)).cell? ⟨w.heap.size,1,none⟩ = some (.int .i64 x1):=by simp
 have r2:(w.alloc (.cells #[.int .i64 x0,.int .i64 x1,.string x2] 220)).cell? ⟨w.heap.size,2,none⟩ = some (.string x2):=by simp
 have HC0:=Hd (HC.out.alloc (.cells #[.int .i64 x0,.int .i64 x1,.string x2] 220))
 obtain ⟨b0,hb0⟩:∃ b0,w.heap.size = b0:=⟨_,rfl⟩
 have ho0:Only [g] w (w.alloc (.cells #[.int .i64 x0,.int .i64 x1,.string x2] 220)):=oz.alloc _
 have hb1:b0 < (w.alloc (.cells #[.int .i64 x0,.int .i64 x1,.string x2] 220)).heap.size:=by simp;omega
 rw [hb0] at r0 r1 r2 hlt ⊢
 obtain ⟨W0,hW0⟩:∃ W0,w.alloc (.cells #[.int .i64 x0,.int .i64 x1,.string x2] 220) = W0:=⟨_,rfl⟩
 rw [hW0] at r0 r1 r2 HC0 ho0 hb1 ⊢
 clear hW0 hb0 HC
 have hne:b0 ≠ g:=by omega
 go_region_held3 (fun w' => w'.cell? ⟨b0,0,none⟩ = some (.int .i64 x0) ∧ w'.cell? ⟨b0,1,none⟩ = some (.int .i64 x1) ∧ w'.cell? ⟨b0,2,none⟩ = some (.string x2))
  (first
   | (go_split_ands
      refine ⟨?_,?_,?_⟩ <;> (rw [hod.cell (by first | exact hb1 | (simp;omega)) (by simp;omega)];assumption))
   | (refine ⟨(World.cell?_setCells_out g _ _ _ _ (fun h => absurd h hne)).trans ?_,(World.cell?_setCells_out g _ _ _ _ (fun h => absurd h hne)).trans ?_,(World.cell?_setCells_out g _ _ _ _ (fun h => absurd h hne)).trans ?_⟩
      · first | exact Lib.cell?_alloc_some _ ((hod.cell (p:=⟨b0,0,none⟩) hb1 (by simp;omega)).trans r0) | exact (hod.cell (p:=⟨b0,0,none⟩) (by simp;omega) (by simp;omega)).trans (Lib.cell?_alloc_some _ r0)
      · first | exact Lib.cell?_alloc_some _ ((hod.cell (p:=⟨b0,1,none⟩) hb1 (by simp;omega)).trans r1) | exact (hod.cell (p:=⟨b0,1,none⟩) (by simp;omega) (by simp;omega)).trans (Lib.cell?_alloc_some _ r1)
      · first | exact Lib.cell?_alloc_some _ ((hod.cell (p:=⟨b0,2,none⟩) hb1 (by simp;omega)).trans r2) | exact (hod.cell (p:=⟨b0,2,none⟩) (by simp;omega) (by simp;omega)).trans (Lib.cell?_alloc_some _ r2))
   | go_keep)
  (first
   | (go_at_call 234;refine (HDD.out _ (by first | exact HC0.out | exact HC0.out.drew | exact HC0.out.alloc _ | exact (HC0.out.alloc _).drew)).mono ?_;rintro e w1 ⟨rfl,cs',hC',hl',ht',hod⟩)
   | (refine step_append_room (by rfl) _ _ 176 (by rfl) 220 i0 3 Tryz.underlying176 hi0 hz1 g 0 (n - 1) cap (by rfl) _ 1 1 [.int .i64 x0,.int .i64 x1,.string x2] (by rfl) (by rfl) (by first | exact lit3 (Cells.new _ _ _) | exact lit3 (Cells.only (S:=[g]) (Cells.new W0 220 [.int .i64 x0,.int .i64 x1,.string x2]).drew hod (by simp;omega))) (by simp [Value.oneCell']) (by omega) (by first | exact spare3 hC' hl' (by omega) | exact spare3 (hC'.alloc _) hl' (by omega) | exact spare3 (hC'.drew.alloc _) hl' (by omega)) ?_))
 all_goals
  have hn1:n - 1 + 1 = n:=by omega
  rw [hn1]
  have hfin:∀ W,Cells W g 220 cs' → Only [g] w W → ∃ cs'',Cells (W.setCells g (0 + (n - 1) * 3) [.int .i64 x0,.int .i64 x1,.string x2]) g 220 cs'' ∧ cs''.length = cap * 3 ∧ cs''.take (n * 3) = cs.take (i * 3) ++ (cs.take (n * 3)).drop ((i + 1) * 3) ++ [.int .i64 x0,.int .i64 x1,.string x2] ∧ Only [g] w (W.setCells g (0 + (n - 1) * 3) [.int .i64 x0,.int .i64 x1,.string x2]):=by
   intro W hW hoW
   have hp:=putL_eq [.int .i64 x0,.int .i64 x1,.string x2] (0 + (n - 1) * 3) cs' (by simp only [List.length_cons,List.length_nil];omega)
   refine ⟨_,hW.setMany _ _,by rw [putL_length];exact hl',?_,hoW.setCells (.inl (by simp)) _ _⟩
   · rw [hp,Nat.zero_add,ht',List.take_append_of_le_length (by simp;omega),List.take_of_length_le (by simp;omega)]
  go_wp2
  go_ret
  exact ⟨rfl,hfin _ (by first | exact hC'.alloc _ | exact hC') (by first | exact (ho0.drew.tr hod).alloc _ | exact ((ho0.alloc _).drew).tr hod)⟩
structure Ses where
 id:Int
 seq:Int
 reply:ByteArray
def Ses.cells (s:Ses):List Value:=[.int .i64 s.id,.int .i64 s.seq,.string s.reply]
def sesL (l:List Ses):List Value:=l.flatMap Ses.cells
theorem sesL_get (l:List Ses) (i j:Nat) (x:Ses) (h:l[i]? = some x) (hj:j < 3):(sesL l)[i * 3 + j]? = x.cells[j]?:=flat_get Ses.cells 3 (fun _ => rfl) l i j x h hj
def fndS (l:List Ses) (id:Int):Nat:=l.findIdx (fun x => x.id == id)
def fndI (l:List Ses) (id:Int):Int:=if fndS l id < l.length then (fndS l id:Int) else -1
theorem find1 (x:Ses) (p:Nat) (id:Int) (w:World) (hp:w.cell? ⟨p,0,none⟩ = some (.int .i64 id)) (hpl:p < w.heap.size):
 Calls Tryz.prog 233 #[.agg #[.int .i64 x.id,.int .i64 x.seq,.string x.reply],.pointer (some ⟨p,0,none⟩)] w fun e w' => e = .returned (.bool (x.id == id)) ∧ Only [] w w':=by
 have hne:p ≠ w.heap.size:=by omega
 go_enter Tryz.func233,Tryz.ntmps233
 go_wp2_with fail
 go_ret
 exact ⟨rfl,oz.alloc _⟩
theorem indexFunc_ses (v:Value) (l:List Ses) (p:Nat) (id:Int) (w:World) (hs:SlAt w w.heap.size v 3 l.length (sesL l)) (hp:w.cell? ⟨p,0,none⟩ = some (.int .i64 id)) (hpl:p < w.heap.size) (hl:l.length ≤ 1000000):
 Calls Tryz.prog 232 #[v,.func (.func 233) #[] #[.pointer (some ⟨p,0,none⟩)]] w fun e w' => e = .returned (.int .i64 (fndI l id)) ∧ Only [] w w':=by
 obtain ⟨A,c,rfl⟩:=hs.shape
 have HS:=Hd hs
 have HP:=Hd hp
 clear hs hp
 go_enter Tryz.func232,Tryz.ntmps232
 go_wp2_with fail
 go_loopw [8] (fun i wr => ∃ k:Nat,k ≤ l.length ∧ i = .int .i64 k ∧ Hid (∀ j x,j < k → l[j]? = some x → (x.id == id) = false) ∧ Only [] w wr) (fun i _ => l.length - (intOf i).toNat)
 case atStart => exact ⟨0,by omega,rfl,fun j x h => by omega,Only.refl _ _⟩
 case round =>
  obtain ⟨k,hk,rfl,hno,ho⟩:=hrel
  by_cases hlt:k < l.length
  · have hlt':(k:Int) < (l.length:Int):=by omega
    have hk1:=List.getElem?_eq_getElem hlt
    obtain ⟨x,hx⟩:∃ x,l[k] = x:=⟨_,rfl⟩
    rw [hx] at hk1
    obtain ⟨ab,ao,ac,hv,hab,hc⟩:=(HS.out.only ho (Nat.le_refl _) (by simp)).at_ (by omega)
    have q0:wr.cell? ⟨ab,ao + k * 3,none⟩ = some (.int .i64 x.id):=hc (k * 3 + 0) _ (sesL_get l k 0 x hk1 (by omega))
    have q1:wr.cell? ⟨ab,ao + k * 3 + 1,none⟩ = some (.int .i64 x.seq):=hc (k * 3 + 1) _ (sesL_get l k 1 x hk1 (by omega))
    have q2:wr.cell? ⟨ab,ao + k * 3 + 2,none⟩ = some (.string x.reply):=hc (k * 3 + 2) _ (sesL_get l k 2 x hk1 (by omega))
    have hsz:=ho.size
    have F1:=Hd (find1 x p id wr ((ho.cell (p:=⟨p,0,none⟩) hpl (by simp)).trans HP.out) (Nat.lt_of_lt_of_le hpl ho.size))
    injection hv with e1 e2 e3
    subst e1;subst e3
    clear e2 hc hx
    by_cases heq:(x.id == id) = true
    · have HF:Hid (fndI l id = k):=by
       show _ = _
       have hS:fndS l id = k:=by
        unfold fndS
        have hh:=List.getElem?_eq_some_iff.1 hk1
        refine (List.findIdx_eq hlt).2 ⟨by rw [hh.2];exact heq,fun j hj => ?_⟩
        have:=hno.out j _ hj (List.getElem?_eq_getElem (by omega))
        simpa using this
       unfold fndI
       rw [hS,if_pos hlt]
      clear hno hk1
      go_wp2_with (go_at_call 233;refine F1.out.mono ?_;rintro e w1 ⟨rfl,ho1⟩)
      go_ret
      exact ⟨by rw [HF.out];rfl,ho.tr0 ho1⟩
    · have heq:(x.id == id) = false:=by simpa using heq
      have hno2:Hid (∀ j x,j < k + 1 → l[j]? = some x → (x.id == id) = false):=by
       intro j y h1 h2
       rcases Nat.lt_or_ge j k with h | h
       · exact hno.out j y h h2
       · obtain rfl:j = k:=by omega
         rw [hk1] at h2
         injection h2 with h2
         subst h2
         exact heq
      clear hno hk1
      go_wp2_with (go_at_call 233;refine F1.out.mono ?_;rintro e w1 ⟨rfl,ho1⟩)
      go_roundw
      case rel => exact ⟨k + 1,by omega,by go_num,hno2,ho.tr0 ho1⟩
      case measure => simp [intOf];omega
  · have hd0:decide ((k:Int) < (l.length:Int)) = false:=by simp;omega
    have HF:Hid (fndI l id = -1):=by
     show _ = _
     unfold fndI
     rw [if_neg]
     intro h
     unfold fndS at h
     have:=hno.out _ _ (by omega) (List.getElem?_eq_getElem h)
     have h2:=List.findIdx_getElem (w:=h)
     rw [this] at h2
     cases h2
    go_wp2_with fail
    go_ret
    exact ⟨by rw [HF.out];rfl,ho⟩
def TbS (w:World) (B b:Nat) (l:List Ses) (ever:Int):Prop:=
 B ≤ b ∧ ∃ v,Cells w b 178 [v,.int .i64 ever] ∧ w.ownsRow B 220 3 v l.length (sesL l)
theorem tbs_find (B b:Nat) (l:List Ses) (ever:Int) (id:Int) (w:World) (h:TbS w B b l ever) (hl:l.length ≤ 1000000):
 Calls Tryz.prog 192 #[.pointer (some ⟨b,0,none⟩),.int .i64 id] w fun e w' => e = .returned (.int .i64 (fndI l id)) ∧ Only [] w w':=by
 obtain ⟨hb,v,hc,hown⟩:=h
 have ho0:Only [] w (w.alloc (.cells #[.int .i64 id] 3)):=oz.alloc _
 have hs1:SlAt (w.alloc (.cells #[.int .i64 id] 3)) (w.alloc (.cells #[.int .i64 id] 3)).heap.size v 3 l.length (sesL l):=SlAt.of_own (hown.alloc _)
 have HI:=Hd (indexFunc_ses v l w.heap.size id (w.alloc (.cells #[.int .i64 id] 3)) hs1 (by simp) (by simp) hl)
 have c0:=(hc.alloc (.cells #[.int .i64 id] 3)).cell (k:=0) rfl
 have hlt:=hc.lt
 clear hc hown hs1
 go_enter Tryz.func192,Tryz.ntmps192
 go_wp2_with fail
 refine HI.out.mono ?_
 rintro e w1 ⟨rfl,ho1⟩
 go_wp2_with fail
 go_ret
 exact ⟨rfl,ho0.tr0 ho1⟩
theorem TbS.only {w w':World} {B b:Nat} {l:List Ses} {ever:Int} (h:TbS w B b l ever) (ho:Only [] w w'):TbS w' B b l ever:=by
 obtain ⟨hb,v,hc,hown⟩:=h
 exact ⟨hb,v,hc.only ho (by simp),own_only hown ho (by simp)⟩
def atS (l:List Ses) (id:Int):Option Ses:=l[fndS l id]?
def askS (l:List Ses) (id seq:Int):Int × ByteArray:=
 match atS l id with
 | none => (3,.empty)
 | some x => if seq < 1 ∨ seq < x.seq then (2,.empty) else if seq = x.seq then (1,x.reply) else (0,.empty)
def askV (r:Int × ByteArray):Value:=.tuple #[.int .i64 r.1,.string r.2]
theorem tbs_ask (B b:Nat) (l:List Ses) (ever:Int) (id seq:Int) (w:World) (h:TbS w B b l ever) (hl:l.length ≤ 1000000):
 Calls Tryz.prog 121 #[.pointer (some ⟨b,0,none⟩),.int .i64 id,.int .i64 seq] w fun e w' => e = .returned (askV (askS l id seq)) ∧ Only [] w w':=by
 have HF:=Hd (tbs_find B b l ever id w h hl)
 have HT:=Hd h
 clear h
 cases hx:atS l id with
 | none =>
  have hI:fndI l id = -1:=by
   unfold fndI
   rw [if_neg]
   intro h
   unfold atS at hx
   rw [List.getElem?_eq_getElem h] at hx
   cases hx
  have HR:Hid (askS l id seq = (3,.empty)):=by show _ = _;unfold askS;rw [hx]
  rw [hI] at HF
  clear hx hI
  go_enter Tryz.func121,Tryz.ntmps121
  go_wp2_with fail
  refine HF.out.mono ?_
  rintro e w1 ⟨rfl,ho1⟩
  go_wp2_with fail
  go_ret2
  exact ⟨by rw [HR.out];rfl,ho1⟩
 | some x =>
  obtain ⟨hlt,hxe⟩:=List.getElem?_eq_some_iff.1 hx
  have hI:fndI l id = (fndS l id:Nat):=by unfold fndI;rw [if_pos hlt]
  have HR0:Hid (askS l id seq = if seq < 1 ∨ seq < x.seq then (2,.empty) else if seq = x.seq then (1,x.reply) else (0,.empty)):=by show _ = _;unfold askS;rw [hx]
  rw [hI] at HF
  obtain ⟨k,hk⟩:∃ k,fndS l id = k:=⟨_,rfl⟩
  rw [hk] at HF hlt
  have hxk:l[k]? = some x:=by rw [← hk];exact hx
  clear hx hI hxe hk
  -- the cells of the table and of the session,whatever has been made since
  have hcells:∀ w1,Only [] w w1 → ∃ g cap,w1.cell? ⟨b,0,none⟩ = some (.slice (some ⟨g,0,none⟩) l.length cap) ∧ w1.cell? ⟨g,k * 3 + 1,none⟩ = some (.int .i64 x.seq) ∧ w1.cell? ⟨g,k * 3 + 2,none⟩ = some (.string x.reply):=by
   intro w1 ho1
   obtain ⟨_,v,hc,hown⟩:=HT.out.only ho1
   obtain ⟨g,cap,cs,rfl,_,hC,_,_,_,htk⟩:=own_block hown (by omega)
   have hget:∀ j,j < 3 → cs[k * 3 + j]? = x.cells[j]?:=by
    intro j hj
    rw [← sesL_get l k j x hxk hj,← htk,List.getElem?_take_of_lt (by omega)]
   exact ⟨g,cap,hc.cell (k:=0) rfl,hC.cell (hget 1 (by omega)),hC.cell (hget 2 (by omega))⟩
  have HC:=Hd hcells
  have hk0:decide ((k:Int) < 0) = false:=by simp
  clear hcells
  obtain ⟨c1,c2,c3,h1,h2,h3,hcase⟩:∃ c1 c2 c3:Bool,decide (seq < 1) = c1 ∧ decide (seq < x.seq) = c2 ∧ (seq == x.seq) = c3 ∧ ((c1 = true ∧ askS l id seq = (2,.empty)) ∨ (c1 = false ∧ c2 = true ∧ askS l id seq = (2,.empty)) ∨ (c1 = false ∧ c2 = false ∧ c3 = true ∧ askS l id seq = (1,x.reply)) ∨ (c1 = false ∧ c2 = false ∧ c3 = false ∧ askS l id seq = (0,.empty))):=by
   refine ⟨_,_,_,rfl,rfl,rfl,?_⟩
   rw [HR0.out]
   by_cases a1:seq < 1
   · exact .inl ⟨by simpa using a1,if_pos (.inl a1)⟩
   · by_cases a2:seq < x.seq
     · exact .inr (.inl ⟨by simpa using a1,by simpa using a2,if_pos (.inr a2)⟩)
     · rw [if_neg (by omega)]
       by_cases a3:seq = x.seq
       · exact .inr (.inr (.inl ⟨by simpa using a1,by simpa using a2,by simpa using a3,if_pos a3⟩))
       · exact .inr (.inr (.inr ⟨by simpa using a1,by simpa using a2,by simpa using a3,if_neg a3⟩))
  rcases hcase with ⟨rfl,hr⟩ | ⟨rfl,rfl,hr⟩ | ⟨rfl,rfl,rfl,hr⟩ | ⟨rfl,rfl,rfl,hr⟩
  all_goals
   have HR:=Hd hr
   clear hr
   go_enter Tryz.func121,Tryz.ntmps121
   go_wp2_with fail
   refine HF.out.mono ?_
   rintro e w1 ⟨rfl,ho1⟩
   obtain ⟨g,cap,q0,q1,q2⟩:=HC.out w1 ho1
   go_wp2_with fail
   first
    | (go_ret2;exact ⟨by rw [HR.out];rfl,ho1⟩)
    | (go_quiet (fail);go_wp2_with fail;go_ret2;exact ⟨by rw [HR.out];rfl,ho1.drewN _⟩)
def TbV (w:World) (B b:Nat) (v:Value) (l:List Ses) (ever:Int):Prop:=
 B ≤ b ∧ Cells w b 178 [v,.int .i64 ever] ∧ w.ownsRow B 220 3 v l.length (sesL l)
theorem TbS.v {w:World} {B b:Nat} {l:List Ses} {ever:Int} (h:TbS w B b l ever):∃ v,TbV w B b v l ever:=by
 obtain ⟨h1,v,h2,h3⟩:=h
 exact ⟨v,h1,h2,h3⟩
theorem TbV.s {w:World} {B b:Nat} {v:Value} {l:List Ses} {ever:Int} (h:TbV w B b v l ever):TbS w B b l ever:=⟨h.1,v,h.2⟩
def rb (v:Value):List Nat:=v.ownBlock.toList
theorem sesL_one (l:List Ses):∀ u ∈ sesL l,u.oneCell' = true:=by
 intro u hu
 obtain ⟨x,_,hx⟩:=List.mem_flatMap.1 hu
 unfold Ses.cells at hx
 simp at hx
 rcases hx with rfl | rfl | rfl <;> rfl
def regL (l:List Ses) (x:Ses):List Ses:=if l.length = 8 then l.drop 1 ++ [x] else l ++ [x]
theorem tbs_register (B b:Nat) (v:Value) (l:List Ses) (ever:Int) (w:World) (h:TbV w B b v l ever) (hl:l.length ≤ 8) (he:0 ≤ ever ∧ ever ≤ 1000000000000):
 Calls Tryz.prog 132 #[.pointer (some ⟨b,0,none⟩)] w fun e w' => e = .returned (.int .i64 (ever + 1)) ∧ ∃ v',TbV w' B b v' (regL l ⟨ever + 1,0,.empty⟩) (ever + 1) ∧ Only (b :: rb v) w w' ∧ (∀ g,v'.ownBlock = some g → v.ownBlock = some g ∨ w.heap.size ≤ g):=by
 obtain ⟨hB,hc,hown⟩:=h
 have c0:=hc.cell (k:=0) rfl
 have c1:=hc.cell (k:=1) rfl
 have f0:=hc.frozen 0
 have f1:=hc.frozen 1
 have hlt:=hc.lt
 by_cases h8:l.length = 8
 · obtain ⟨g,cap,cs,rfl,hg,hC,hn,hcm,hcl,htk⟩:=own_block hown (by omega)
   rw [h8] at htk hn c0 hc
   have hne:b ≠ g:=hc.ne hC (by decide)
   have hgl:=hC.lt
   have HC:=Hd hc
   have HG:=Hd hC
   clear hc hC hown
   rw [h8]
   go_enter Tryz.func132,Tryz.ntmps132
   go_wp2_with fail
   have HG1:=Hd ((HG.out.far (p:=⟨b,1,none⟩) (Ne.symm hne) (.int .i64 (ever + 1))).alloc (.cells #[.int .i64 (ever + 1),.int .i64 0,.string ⟨#[]⟩] 220))
   have hb2:=(HC.out.set 1 (.int .i64 (ever + 1))).alloc (.cells #[.int .i64 (ever + 1),.int .i64 0,.string ⟨#[]⟩] 220)
   have hx2:=Cells.new (w.setCell ⟨b,1,none⟩ (.int .i64 (ever + 1))) 220 [.int .i64 (ever + 1),.int .i64 0,.string ⟨#[]⟩]
   have ho0:Only (b :: rb (.slice (some ⟨g,0,none⟩) 8 cap)) w ((w.setCell ⟨b,1,none⟩ (.int .i64 (ever + 1))).alloc (.cells #[.int .i64 (ever + 1),.int .i64 0,.string ⟨#[]⟩] 220)):=(oz.setCell (p:=⟨b,1,none⟩) (.inl (by simp)) _).alloc _
   rw [show (w.setCell ⟨b,1,none⟩ (.int .i64 (ever + 1))).heap.size = w.heap.size from by simp [World.setCell]] at hx2
   obtain ⟨xb,hxb⟩:∃ xb,w.heap.size = xb:=⟨_,rfl⟩
   rw [hxb] at hx2 hlt hgl ⊢
   obtain ⟨W0,hW0⟩:∃ W0,(w.setCell ⟨b,1,none⟩ (.int .i64 (ever + 1))).alloc (.cells #[.int .i64 (ever + 1),.int .i64 0,.string ⟨#[]⟩] 220) = W0:=⟨_,rfl⟩
   rw [hW0] at HG1 hb2 ho0 ⊢
   have hx2:Cells W0 xb 220 [.int .i64 (ever + 1),.int .i64 0,.string ⟨#[]⟩]:=by rw [← hW0];exact hx2
   clear hW0 hxb HG HC f0 f1 c1
   have hxg:xb ≠ g:=by omega
   have hbx:b ≠ xb:=by omega
   have r0:=hb2.cell (k:=0) rfl
   have rf:=hb2.frozen 0
   have rl:=hb2.lt
   have x0:=hx2.cell (k:=0) rfl
   have x1:=hx2.cell (k:=1) rfl
   have x2:=hx2.cell (k:=2) rfl
   have HB2:=Hd hb2
   have CL:=Hd (fun W hW => last_ses g cap 8 0 cs (ever + 1) 0 ⟨#[]⟩ W hW hcl hn hcm (by omega) (by rw [htk];exact sesL_one l))
   clear hb2 hx2
   go_region_with (go_at_call 196;refine (CL.out _ (by first | exact HG1.out | exact HG1.out.drew)).mono ?_;rintro e w1 ⟨rfl,cs',hC',hl',ht',hod⟩;have s0:=(hod.cell (p:=⟨b,0,none⟩) rl (by simp;omega)).trans r0;have s1:=(hod.frozen (p:=⟨b,0,none⟩) rl (by simp;omega)).trans rf)
   all_goals
    have hfin:TbV (w1.setCell ⟨b,0,none⟩ (.slice (some ⟨g,0,none⟩) 8 cap)) B b (.slice (some ⟨g,0,none⟩) 8 cap) (regL l ⟨ever + 1,0,.empty⟩) (ever + 1):=by
     refine ⟨hB,((HB2.out.drew.only hod (by simp;omega)).set 0 _),?_⟩
     have hrl:(regL l ⟨ever + 1,0,.empty⟩).length = 8:=by unfold regL;rw [if_pos h8];simp;omega
     rw [hrl]
     refine block_own hg (hC'.far (p:=⟨b,0,none⟩) (Ne.symm hne) _) hn hcm hl' ?_
     rw [ht',htk]
     unfold regL
     rw [if_pos h8]
     unfold sesL
     rw [List.flatMap_append]
     congr 1
     match l,h8 with
     | x :: l',_ => simp [Ses.cells]
    have hoF:Only (b :: rb (.slice (some ⟨g,0,none⟩) 8 cap)) w (w1.setCell ⟨b,0,none⟩ (.slice (some ⟨g,0,none⟩) 8 cap)):=
     ((ho0.drew.trans hod (by intro y hy;simp at hy;subst hy;exact .inl (by simp [rb,Value.ownBlock])))).setCell (p:=⟨b,0,none⟩) (.inl (by simp)) _
    have t1:=hfin.2.1.cell (k:=1) rfl
    have HFI:=Hd hfin
    clear hfin
    go_wp2_with fail
    go_ret
    exact ⟨rfl,_,HFI.out,hoF,fun g' h => .inl h⟩
 · have h8':((l.length:Int) == 8) = false:=by simp;omega
   obtain ⟨i0,hi0,hz0,hz1,hz2⟩:=info_parts info_ses
   have hvb:v.ownBlock ≠ some b:=own_ne_block hown hc (by decide)
   obtain ⟨A,vc,hv⟩:∃ A c,v = .slice A l.length c:=by
    rcases hown.2 with ⟨hv,h0⟩ | ⟨g,cap,cur,hv,_⟩
    · exact ⟨none,0,by rw [hv,h0]⟩
    · exact ⟨_,cap,hv⟩
   have hgl:∀ g,v.ownBlock = some g → B ≤ g ∧ g < w.heap.size:=fun g e => hown.lt g e
   have hown0:(w.setCell ⟨b,1,none⟩ (.int .i64 (ever + 1))).ownsRow B 220 3 v l.length (sesL l):=ownsRow_setCell_other hown (a:=⟨b,1,none⟩) hvb _
   have HO:=Hd (hown0.alloc (.cells #[.int .i64 (ever + 1),.int .i64 0,.string ⟨#[]⟩] 220))
   have hb2:=(hc.set 1 (.int .i64 (ever + 1))).alloc (.cells #[.int .i64 (ever + 1),.int .i64 0,.string ⟨#[]⟩] 220)
   have hx2:=Cells.new (w.setCell ⟨b,1,none⟩ (.int .i64 (ever + 1))) 220 [.int .i64 (ever + 1),.int .i64 0,.string ⟨#[]⟩]
   have ho0:Only (b :: rb v) w ((w.setCell ⟨b,1,none⟩ (.int .i64 (ever + 1))).alloc (.cells #[.int .i64 (ever + 1),.int .i64 0,.string ⟨#[]⟩] 220)):=(oz.setCell (p:=⟨b,1,none⟩) (.inl (by simp)) _).alloc _
   have hszW:((w.setCell ⟨b,1,none⟩ (.int .i64 (ever + 1))).alloc (.cells #[.int .i64 (ever + 1),.int .i64 0,.string ⟨#[]⟩] 220)).heap.size = w.heap.size + 1:=by simp [World.setCell]
   rw [show (w.setCell ⟨b,1,none⟩ (.int .i64 (ever + 1))).heap.size = w.heap.size from by simp [World.setCell]] at hx2
   have HB0:=Hd hc
   subst hv
   clear hown hown0 hc
   go_enter Tryz.func132,Tryz.ntmps132
   go_wp2_with fail
   obtain ⟨xb,hxb⟩:∃ xb,w.heap.size = xb:=⟨_,rfl⟩
   rw [hxb] at hx2 hlt hgl hszW ⊢
   obtain ⟨W0,hW0⟩:∃ W0,(w.setCell ⟨b,1,none⟩ (.int .i64 (ever + 1))).alloc (.cells #[.int .i64 (ever + 1),.int .i64 0,.string ⟨#[]⟩] 220) = W0:=⟨_,rfl⟩
   rw [hW0] at HO hb2 ho0 hszW ⊢
   have hx2:Cells W0 xb 220 [.int .i64 (ever + 1),.int .i64 0,.string ⟨#[]⟩]:=by rw [← hW0];exact hx2
   have HXB:=Hd hxb
   clear hW0 hxb f0 f1 c1 HB0
   have hbx:b ≠ xb:=by omega
   have r0:=hb2.cell (k:=0) rfl
   have rf:=hb2.frozen 0
   have rl:=hb2.lt
   have x0:=hx2.cell (k:=0) rfl
   have x1:=hx2.cell (k:=1) rfl
   have x2:=hx2.cell (k:=2) rfl
   have HB2:=Hd hb2
   clear hb2 hx2
   have HL:Hid (Cells (W0.alloc (.cells #[.int .i64 (ever + 1),.int .i64 0,.string ⟨#[]⟩] 220)) (xb + 1) 220 [.int .i64 (ever + 1),.int .i64 0,.string ⟨#[]⟩]):=by
    show Cells _ _ _ _
    rw [← hszW];exact Cells.new W0 _ _
   go_region_law (first
    | (go_loud (refine step_append_lies _ (by rfl) _ _ 176 (by rfl) B 220 i0 _ 3 32 Tryz.underlying176 hi0 hz0 hz1 hz2 rfl (by omega) (.slice A l.length vc) l.length (sesL l) (by rfl) (by first | exact HO.out.alloc _ | exact (HO.out.alloc _).drew | exact HO.out.drew.alloc _) ⟨xb + 1,0,none⟩ 1 1 [.int .i64 (ever + 1),.int .i64 0,.string ⟨#[]⟩] (by rfl) (by rfl) (by first | exact lit3 HL.out | exact lit3 HL.out.drew) (by simp [Value.oneCell']) (by omega) (by unfold maxLen;omega) (by omega) (by simp;omega) (xb + 2) (by simp [hszW]) ?_);intro g cap w1 hown1 hgrow hat hgl1;have hb3:Cells w1 b 178 _:=Cells.grown (by first | exact HB2.out.alloc _ | exact (HB2.out.alloc _).drew | exact HB2.out.drew.alloc _) hgrow hvb;have s0:=hb3.cell (k:=0) rfl;have s1:=hb3.frozen 0))
   all_goals
    have hgb:(Value.slice (some ⟨g,0,none⟩) (l.length + 1) cap).ownBlock ≠ some b:=by
     intro e
     simp [Value.ownBlock] at e
     rcases hat with h | h
     · exact hvb (by rw [h,e])
     · omega
    have hrl:(regL l ⟨ever + 1,0,.empty⟩) = l ++ [⟨ever + 1,0,.empty⟩]:=by unfold regL;rw [if_neg h8]
    have hfin:TbV (w1.setCell ⟨b,0,none⟩ (.slice (some ⟨g,0,none⟩) (l.length + 1) cap)) B b (.slice (some ⟨g,0,none⟩) (l.length + 1) cap) (regL l ⟨ever + 1,0,.empty⟩) (ever + 1):=by
     refine ⟨hB,hb3.set 0 _,?_⟩
     rw [hrl,List.length_append]
     unfold sesL
     rw [List.flatMap_append]
     exact ownsRow_setCell_other hown1 (a:=⟨b,0,none⟩) hgb _
    have hoF:Only (b :: rb (.slice A l.length vc)) w (w1.setCell ⟨b,0,none⟩ (.slice (some ⟨g,0,none⟩) (l.length + 1) cap)):=
     ((ho0.alloc _).drew.grown hgrow (fun y hy => .inl (by unfold rb;rw [hy];simp))).setCell (p:=⟨b,0,none⟩) (.inl (by simp)) _
    have t1:=hfin.2.1.cell (k:=1) rfl
    have HFI:=Hd hfin
    clear hfin hrl
    go_wp2_with fail
    go_ret
    refine ⟨rfl,_,HFI.out,hoF,fun g' h => ?_⟩
    simp [Value.ownBlock] at h
    subst h
    rcases hat with h | h
    · exact .inl h
    · right;rw [HXB.out];omega
def doneL (l:List Ses) (id seq:Int) (reply:ByteArray):List Ses:=if (askS l id seq).1 = 0 then l.eraseIdx (fndS l id) ++ [⟨id,seq,reply⟩] else l
theorem sesL_take (l:List Ses) (i:Nat) (h:i ≤ l.length):(sesL l).take (i * 3) = sesL (l.take i) ∧ (sesL l).drop (i * 3) = sesL (l.drop i):=by
 have hl:(sesL (l.take i)).length = i * 3:=by
  unfold sesL;rw [flat_length Ses.cells 3 (fun _ => rfl),List.length_take,Nat.min_eq_left h]
 have e:sesL l = sesL (l.take i) ++ sesL (l.drop i):=by
  unfold sesL;rw [← List.flatMap_append,List.take_append_drop]
 constructor
 · rw [e,List.take_append_of_le_length (by omega),List.take_of_length_le (by omega)]
 · rw [e,← hl,List.drop_left]
theorem askS_zero {l:List Ses} {id seq:Int} (h:(askS l id seq).1 = 0):∃ x,l[fndS l id]? = some x ∧ fndS l id < l.length ∧ fndI l id = (fndS l id:Nat) ∧ 1 ≤ seq ∧ x.seq < seq:=by
 unfold askS atS at h
 cases hx:l[fndS l id]? with
 | none => rw [hx] at h;simp at h
 | some x =>
  rw [hx] at h
  have hlt:=(List.getElem?_eq_some_iff.1 hx).1
  refine ⟨x,rfl,hlt,by unfold fndI;rw [if_pos hlt],?_,?_⟩
  · simp only at h
    split at h
    · simp at h
    · omega
  · simp only at h
    split at h
    · simp at h
    · split at h
      · simp at h
      · omega
theorem tbs_done (B b:Nat) (v:Value) (l:List Ses) (ever:Int) (id seq:Int) (reply:ByteArray) (w:World) (h:TbV w B b v l ever) (hl:l.length ≤ 8):
 Calls Tryz.prog 127 #[.pointer (some ⟨b,0,none⟩),.int .i64 id,.int .i64 seq,.string reply] w fun e w' => e = .returned (.bool ((askS l id seq).1 == 0)) ∧ ∃ v',TbV w' B b v' (doneL l id seq reply) ever ∧ Only (b :: rb v) w w' ∧ (∀ g,v'.ownBlock = some g → v.ownBlock = some g ∨ w.heap.size ≤ g):=by
 have HA:=Hd (tbs_ask B b l ever id seq w h.s (by omega))
 by_cases h0:(askS l id seq).1 = 0
 · obtain ⟨x,hx,hlt,hI,_,_⟩:=askS_zero h0
   have hr:((askS l id seq).1 == 0) = true:=by simpa using h0
   have HD:Hid (doneL l id seq reply = l.eraseIdx (fndS l id) ++ [⟨id,seq,reply⟩]):=by show _ = _;unfold doneL;rw [if_pos h0]
   obtain ⟨r1,r2,hask⟩:∃ r1 r2,askS l id seq = (r1,r2):=⟨_,_,rfl⟩
   rw [hr]
   rw [hask] at HA h0
   obtain rfl:r1 = 0:=h0
   have HAV:Hid (askV (0,r2) = .tuple #[.int .i64 0,.string r2]):=rfl
   rw [HAV.out] at HA
   obtain ⟨k,hk⟩:∃ k,fndS l id = k:=⟨_,rfl⟩
   rw [hk] at HD hI hlt
   have HT:=Hd h.s
   obtain ⟨hB,hc,hown⟩:=h
   obtain ⟨g,cap,cs,rfl,hg,hC,hn,hcm,hcl,htk⟩:=own_block hown (by omega)
   have hne:b ≠ g:=hc.ne hC (by decide)
   have CF:Hid (∀ W,TbS W B b l ever → Calls Tryz.prog 192 #[.pointer (some ⟨b,0,none⟩),.int .i64 id] W fun e w' => e = .returned (.int .i64 k) ∧ Only [] W w'):=by
    intro W hW
    rw [← hI];exact tbs_find B b l ever id W hW (by omega)
   have CL:=Hd (fun W hW => last_ses g cap l.length k cs id seq reply W hW hcl hn hcm hlt (by rw [htk];exact sesL_one l))
   have HC:=Hd hc
   have HG:=Hd hC
   clear hc hC hown hr hask hI hk hx
   go_enter Tryz.func127,Tryz.ntmps127
   go_wp2_with fail
   refine HA.out.mono ?_
   rintro e wa ⟨rfl,hoa⟩
   go_wp2_with fail
   have r0:=(HC.out.only hoa (by simp)).cell (k:=0) rfl
   have rl:=(HC.out.only hoa (by simp)).lt
   have HC2:=Hd (HC.out.only hoa (by simp))
   have HG2:=Hd (HG.out.only hoa (by simp))
   have HT2:=Hd (HT.out.only hoa)
   have hgl2:=HG2.out.lt
   go_region_with (first
    | (go_at_call 192;refine (CF.out _ (by first | exact HT2.out)).mono ?_;rintro e wf ⟨rfl,hof⟩;have s0:=(hof.cell (p:=⟨b,0,none⟩) rl (by simp)).trans r0)
    | (go_at_call 196;refine (CL.out _ (by first | exact HG2.out.drew.only hof (by simp) | exact HG2.out.only hof (by simp))).mono ?_;rintro e w1 ⟨rfl,cs',hC',hl',ht',hod⟩;have hb3:Cells w1 b 178 _:=(Cells.only (S:=[]) HC2.out.drew hof (by simp)).only hod (by simp;omega);have u0:=hb3.cell (k:=0) rfl;have u1:=hb3.frozen 0))
   all_goals
    have hfin:TbV (w1.setCell ⟨b,0,none⟩ (.slice (some ⟨g,0,none⟩) l.length cap)) B b (.slice (some ⟨g,0,none⟩) l.length cap) (doneL l id seq reply) ever:=by
     refine ⟨hB,hb3.set 0 _,?_⟩
     rw [HD.out]
     have hrl:(l.eraseIdx k ++ [(⟨id,seq,reply⟩:Ses)]).length = l.length:=by rw [List.length_append,List.length_eraseIdx_of_lt hlt];simp;omega
     rw [hrl]
     refine block_own hg (hC'.far (p:=⟨b,0,none⟩) (Ne.symm hne) _) hn hcm hl' ?_
     have hs1:=(sesL_take l k (by omega)).1
     have hs2:=(sesL_take l (k + 1) (by omega)).2
     have hcs:cs.take (k * 3) = (sesL l).take (k * 3):=by rw [← htk,List.take_take,Nat.min_eq_left (by omega)]
     rw [ht',htk,hcs,hs1,hs2,List.eraseIdx_eq_take_drop_succ]
     unfold sesL
     rw [List.flatMap_append,List.flatMap_append]
     rfl
    have hoF:Only (b :: rb (.slice (some ⟨g,0,none⟩) l.length cap)) w (w1.setCell ⟨b,0,none⟩ (.slice (some ⟨g,0,none⟩) l.length cap)):=
     (((hoa.drew.tr0 hof).of0.trans hod (by intro y hy;simp at hy;subst hy;exact .inl (by simp [rb,Value.ownBlock])))).setCell (p:=⟨b,0,none⟩) (.inl (by simp)) _
    have HFI:=Hd hfin
    clear hfin
    go_wp2_with fail
    go_ret
    exact ⟨rfl,_,HFI.out,hoF,fun g' h => .inl h⟩
 · have hr:((askS l id seq).1 == 0) = false:=by simpa using h0
   have HD:Hid (doneL l id seq reply = l):=by show _ = _;unfold doneL;rw [if_neg h0]
   obtain ⟨r1,r2,hask⟩:∃ r1 r2,askS l id seq = (r1,r2):=⟨_,_,rfl⟩
   rw [hr]
   rw [hask] at HA h0
   have hr1:(r1 == 0) = false:=by simpa using h0
   have HAV:Hid (askV (r1,r2) = .tuple #[.int .i64 r1,.string r2]):=rfl
   rw [HAV.out] at HA
   have HV:=Hd h
   clear h hr hask
   go_enter Tryz.func127,Tryz.ntmps127
   go_wp2_with fail
   refine HA.out.mono ?_
   rintro e wa ⟨rfl,hoa⟩
   go_wp2_with fail
   go_ret
   obtain ⟨h1,h2,h3⟩:=HV.out
   refine ⟨rfl,v,⟨h1,h2.only hoa (by simp),?_⟩,hoa.of0,fun g' h => .inl h⟩
   rw [HD.out]
   exact own_only h3 hoa (by simp)
structure Act where
 op:Int
 id:Int
 seq:Int
 reply:ByteArray
def Act.cells (a:Act):List Value:=[.int .i64 a.op,.int .i64 a.id,.int .i64 a.seq,.string a.reply]
def Act.val (a:Act):Value:=.agg #[.int .i64 a.op,.int .i64 a.id,.int .i64 a.seq,.string a.reply]
def Act.wide (a:Act):Prop:=Wide64 a.op ∧ Wide64 a.id ∧ Wide64 a.seq ∧ a.reply.size ≤ maxLen
def pickN (c:Int) (n:Nat):Nat:=(if c < 0 then -(c + 1) else c).toNat % n
structure TS where
 l:List Ses
 ever:Int
def TS.does (t:TS) (a:Act):TS:=
 if pickN a.op 5 = 0 then ⟨regL t.l ⟨t.ever + 1,0,.empty⟩,t.ever + 1⟩
 else if pickN a.op 5 = 1 then t
 else ⟨doneL t.l a.id a.seq a.reply,t.ever⟩
def TbT (w:World) (B b:Nat) (v:Value) (t:TS):Prop:=TbV w B b v t.l t.ever
theorem new15 (w:World):Calls Tryz.prog 57 #[] w fun e w' => e = .returned (.pointer (some ⟨w.heap.size,0,none⟩)) ∧ TbT w' w.heap.size w.heap.size (.slice none 0 0) ⟨[],0⟩ ∧ Only [] w w' ∧ w'.heap.size = w.heap.size + 1:=by
 go_enter Tryz.func57,Tryz.ntmps57
 go_wp2_with fail
 go_ret
 exact ⟨rfl,⟨Nat.le_refl _,Cells.new w _ _,World.ownsRow_nil _ _ _ _⟩,oz.alloc _,by simp⟩
theorem TbV.only {w w':World} {B b:Nat} {v:Value} {l:List Ses} {ever:Int} (h:TbV w B b v l ever) (ho:Only [] w w'):TbV w' B b v l ever:=
 ⟨h.1,h.2.1.only ho (by simp),own_only h.2.2 ho (by simp)⟩
def Ses.bytes (s:Ses):List UInt8:=ib s.id ++ ib s.seq ++ tb s.reply.data.toList
def sesB (l:List Ses):List UInt8:=l.flatMap Ses.bytes
def packL (l:List Ses) (ever:Int):List UInt8:=ib ever ++ ib l.length ++ sesB l
structure Ses.Fit (s:Ses):Prop where
 id:Wide64 s.id
 seq:Wide64 s.seq
 reply:s.reply.size ≤ 100000000
theorem Ses.bytes_length {s:Ses} (h:s.Fit):s.bytes.length ≤ 100000030:=by
 unfold Ses.bytes
 have h1:=(ib_length _ h.id).2
 have h2:=(ib_length _ h.seq).2
 have h4:=h.reply
 have h3:=(tb_length s.reply.data.toList (by have:s.reply.data.toList.length = s.reply.size:=by simp
                                             omega)).2
 have h5:s.reply.data.toList.length = s.reply.size:=by simp
 rw [List.length_append,List.length_append];omega
theorem sesB_length {l:List Ses} (h:∀ s ∈ l,s.Fit):(sesB l).length ≤ 100000030 * l.length:=by
 induction l with
 | nil => simp [sesB]
 | cons s l ih =>
  have h1:=Ses.bytes_length (h s (by simp))
  have h2:=ih fun x hx => h x (by simp [hx])
  have:sesB (s :: l) = s.bytes ++ sesB l:=rfl
  rw [this,List.length_append,List.length_cons];omega
theorem sesB_snoc (l:List Ses) (k:Nat) (x:Ses) (h:l[k]? = some x):sesB (l.take (k + 1)) = sesB (l.take k) ++ x.bytes:=by
 unfold sesB
 rw [List.take_add_one,h,List.flatMap_append];simp
theorem tbs_pack (B b:Nat) (l:List Ses) (ever:Int) (w:World) (h:TbS w B b l ever) (hl:l.length ≤ 1000) (he:Wide64 ever) (hf:∀ s ∈ l,s.Fit):
 Calls Tryz.prog 76 #[.pointer (some ⟨b,0,none⟩)] w fun e w' => e = .returned (.string ⟨(packL l ever).toArray⟩) ∧ Only [] w w':=by
 obtain ⟨hB,v,hc,hown⟩:=h
 have hs:=SlAt.of_own hown
 obtain ⟨A,c,rfl⟩:=hs.shape
 have c0:=(hc.alloc (.cells #[.pointer none,.slice none 0 0] 209)).cell (k:=0) rfl
 have c1:=(hc.alloc (.cells #[.pointer none,.slice none 0 0] 209)).cell (k:=1) rfl
 have HS:=Hd hs
 have HCB:=Hd hc
 have HBl:=Hd (Bld.new 209 w)
 have HFit:=Hd hf
 have hei:=ib_length _ he
 have hli:=ib_length (l.length:Int) ⟨by omega,by omega⟩
 have CI:Hid (∀ W b',Cells W b' 3 [.int .i64 ever,.int .i64 l.length] → Calls Tryz.prog 149 #[.slice (some ⟨b',0,none⟩) 2 2] W fun e w' => e = .returned (.string ⟨(ib ever ++ ib l.length).toArray⟩) ∧ Only [] W w'):=by
  intro W b' hC
  have:=codec_int (.slice (some ⟨b',0,none⟩) 2 2) [ever,l.length] W (SlAt.cells hC rfl (by decide)) (by intro x hx;simp at hx;rcases hx with rfl | rfl;exact he;exact ⟨by omega,by omega⟩) (by simp)
  simpa [isb] using this
 clear hown hc hs hf
 go_enter Tryz.func76,Tryz.ntmps76
 go_wp2_with fail
 have hoA:Only [] w (w.alloc (.cells #[.pointer none,.slice none 0 0] 209)):=oz.alloc _
 have hz:w.heap.size < (w.alloc (.cells #[.pointer none,.slice none 0 0] 209)).heap.size:=by simp
 obtain ⟨W0,hW0⟩:∃ W0,w.alloc (.cells #[.pointer none,.slice none 0 0] 209) = W0:=⟨_,rfl⟩
 rw [hW0] at c0 c1 HBl hoA hz ⊢
 obtain ⟨z,hzz⟩:∃ z,w.heap.size = z:=⟨_,rfl⟩
 rw [hzz] at hz HBl ⊢
 have HZ:=Hd hzz
 clear hW0 hzz
 go_still_tail 9,(by kernel_rfl)
 change wpList _ _ _ _ _ W0.drew
 go_wp2_with fail
 refine (CI.out _ _ (Cells.new' rfl _ _).drew).mono ?_
 rintro e w1 ⟨rfl,ho1⟩
 have HB1:Hid (IsBld 209 z z [] w1):=IsBld.only (w:=W0) (.inl HBl.out) ((oz.drew.alloc _).tr0 ho1)
 have hoB:Only [] w w1:=(hoA.drew.alloc _).tr0 ho1
 have HW1:=Hd (writeString _ holds_builder z z [] (ib ever ++ ib l.length) w1 HB1.out (by rw [List.length_append];simp;omega) (by have:=ho1.size;simp at this;omega))
 clear ho1 HB1
 go_wp2_with fail
 refine HW1.out.mono ?_
 rintro e w2 ⟨rfl,hb2,hbe2⟩
 have hoC:Only [] w w2:=hoB.past_below HZ.out hbe2
 have HB2:Hid (IsBld 209 z z (ib ever ++ ib l.length ++ sesB (l.take 0)) w2):=.inr (by simpa [sesB] using hb2)
 have HC2:=Hd (HCB.out.only hoC (by simp))
 have c0:=HC2.out.cell (k:=0) rfl
 clear hb2 hbe2 HW1 HBl hoB hoA
 go_wp2_with fail
 go_loopw [23] (fun i wr => ∃ k:Nat,k ≤ l.length ∧ i = .int .i64 k ∧ Hid (IsBld 209 z z (ib ever ++ ib l.length ++ sesB (l.take k)) wr) ∧ Only [] w wr) (fun i _ => l.length - (intOf i).toNat)
 case atStart => exact ⟨0,by omega,rfl,HB2,hoC⟩
 case round =>
  obtain ⟨k,hk,rfl,hb,ho⟩:=hrel
  by_cases hlt:k < l.length
  · have hlt':(k:Int) < (l.length:Int):=by omega
    have hk1:=List.getElem?_eq_getElem hlt
    obtain ⟨x,hx⟩:∃ x,l[k] = x:=⟨_,rfl⟩
    rw [hx] at hk1
    have hfx:=HFit.out x (List.mem_of_getElem? hk1)
    obtain ⟨ab,ao,ac,hv,hab,hc⟩:=(HS.out.only ho (Nat.le_refl _) (by simp)).at_ (by omega)
    have q0:wr.cell? ⟨ab,ao + k * 3,none⟩ = some (.int .i64 x.id):=hc (k * 3 + 0) _ (sesL_get l k 0 x hk1 (by omega))
    have q1:wr.cell? ⟨ab,ao + k * 3 + 1,none⟩ = some (.int .i64 x.seq):=hc (k * 3 + 1) _ (sesL_get l k 1 x hk1 (by omega))
    have q2:wr.cell? ⟨ab,ao + k * 3 + 2,none⟩ = some (.string x.reply):=hc (k * 3 + 2) _ (sesL_get l k 2 x hk1 (by omega))
    have hsz:=ho.size
    injection hv with e1 e2 e3
    subst e1;subst e3
    clear e2 hc hx
    have HSn:=Hd (sesB_snoc l k x hk1)
    have hxl:=Ses.bytes_length hfx
    have hLl:=sesB_length (l:=l.take k) (fun s hs => HFit.out s (List.mem_of_mem_take hs))
    have hLk:(l.take k).length ≤ 1000:=by rw [List.length_take];omega
    obtain ⟨L,hL⟩:∃ L,ib ever ++ ib l.length ++ sesB (l.take k) = L:=⟨_,rfl⟩
    have hLL:L.length ≤ 200000000000:=by rw [← hL,List.length_append,List.length_append];omega
    have HSL:Hid (ib ever ++ ib l.length ++ sesB (l.take (k + 1)) = L ++ x.bytes):=by show _ = _;rw [HSn.out,← List.append_assoc,hL]
    rw [hL] at hb
    obtain ⟨I,hI⟩:∃ I,ib x.id ++ ib x.seq = I:=⟨_,rfl⟩
    obtain ⟨T,hT⟩:∃ T,tb x.reply.data.toList = T:=⟨_,rfl⟩
    have CI2:Hid (∀ W b',Cells W b' 3 [.int .i64 x.id,.int .i64 x.seq] → Calls Tryz.prog 149 #[.slice (some ⟨b',0,none⟩) 2 2] W fun e w' => e = .returned (.string ⟨I.toArray⟩) ∧ Only [] W w'):=by
     intro W b' hC
     have:=codec_int (.slice (some ⟨b',0,none⟩) 2 2) [x.id,x.seq] W (SlAt.cells hC rfl (by decide)) (by intro y hy;simp at hy;rcases hy with rfl | rfl;exact hfx.id;exact hfx.seq) (by simp)
     rw [← hI]
     simpa [isb] using this
    have CT:Hid (∀ W b',Cells W b' 9 [.string x.reply] → Calls Tryz.prog 75 #[.slice (some ⟨b',0,none⟩) 1 1] W fun e w' => e = .returned (.string ⟨T.toArray⟩) ∧ Only [] W w'):=by
     intro W b' hC
     have hr:=hfx.reply
     have:=codec_text (.slice (some ⟨b',0,none⟩) 1 1) [x.reply.data.toList] W (by
      have:=SlAt.cells (n:=1) (sz:=1) hC rfl (by decide)
      simpa [svs,ba_list] using this) (by simp) (by
       have h3:=(tb_length x.reply.data.toList (by simp;omega)).2
       simp [tsb] at h3 ⊢;omega)
     rw [← hT]
     simpa [tsb] using this
    have hs1:=(ib_length _ hfx.id).2
    have hs2:=(ib_length _ hfx.seq).2
    have hs3:(tb x.reply.data.toList).length ≤ 100000010:=by
     have hr:=hfx.reply
     have h3:=(tb_length x.reply.data.toList (by simp;omega)).2
     simp at h3 ⊢;omega
    have hIl:I.length ≤ 20:=by rw [← hI,List.length_append];omega
    have hTl:T.length ≤ 100000010:=by rw [← hT];exact hs3
    have hIT:I.length + T.length ≤ 9223372036854775807:=by omega
    have HX:Hid (x.bytes = I ++ T):=by show x.bytes = _;rw [← hI,← hT];rfl
    have CW:Hid (∀ W,Only [] (wr.alloc (.cells #[.int .i64 x.id,.int .i64 x.seq,.string x.reply] 220)) W → Calls Tryz.prog 148 #[.pointer (some ⟨z,0,none⟩),.string ⟨(I ++ T).toArray⟩] W fun e w' => e = .returned (.tuple #[.int .i64 (I ++ T).length,.nilIface]) ∧ Bld 209 z z (.pointer (some ⟨z,0,none⟩)) (L ++ (I ++ T)) w' ∧ Below z W w' ∧ Keeps z W w'):=by
     intro W hoW
     have hzW:=hoW.size
     have hzz:=HZ.out
     exact writeString_k _ holds_builder z z L (I ++ T) W (hb.out.only ((oz.alloc _).tr0 hoW)) (by rw [List.length_append];omega) (by simp at hzW;omega)
    have r0:(wr.alloc (.cells #[.int .i64 x.id,.int .i64 x.seq,.string x.reply] 220)).cell? ⟨wr.heap.size,0,none⟩ = some (.int .i64 x.id):=by simp
    have r1:(wr.alloc (.cells #[.int .i64 x.id,.int .i64 x.seq,.string x.reply] 220)).cell? ⟨wr.heap.size,1,none⟩ = some (.int .i64 x.seq):=by simp
    have r2:(wr.alloc (.cells #[.int .i64 x.id,.int .i64 x.seq,.string x.reply] 220)).cell? ⟨wr.heap.size,2,none⟩ = some (.string x.reply):=by simp
    have HB3:Hid (Cells (wr.alloc (.cells #[.int .i64 x.id,.int .i64 x.seq,.string x.reply] 220)) wr.heap.size 220 [.int .i64 x.id,.int .i64 x.seq,.string x.reply]):=Cells.new _ _ _
    have ho3:Only [] w (wr.alloc (.cells #[.int .i64 x.id,.int .i64 x.seq,.string x.reply] 220)):=ho.alloc _
    have hzw:z < wr.heap.size:=by
     rcases hb.out with h | h
     · obtain ⟨_,_,h,_⟩:=h;exact h.lt
     · obtain ⟨_,_,h,_⟩:=h;exact h.lt
    have hob:Only [] wr (wr.alloc (.cells #[.int .i64 x.id,.int .i64 x.seq,.string x.reply] 220)):=oz.alloc _
    clear hb hk1 hL hLl hLk HSn hfx hI hT hs1 hs2 hs3 hxl
    go_wp2_with fail
    obtain ⟨b3,hb3⟩:∃ b3,wr.heap.size = b3:=⟨_,rfl⟩
    obtain ⟨W3,hW3⟩:∃ W3,wr.alloc (.cells #[.int .i64 x.id,.int .i64 x.seq,.string x.reply] 220) = W3:=⟨_,rfl⟩
    rw [hW3] at r0 r1 r2 HB3 ho3 CW hob ⊢
    rw [hb3] at r0 r1 r2 HB3 hzw ⊢
    clear hW3 hb3
    have hne:b3 ≠ z:=by omega
    refine wp_region_pendN W3 oz [(31,SlW W3.heap.size 3 [.int .i64 x.id,.int .i64 x.seq] 2),(35,SlW W3.heap.size 9 [.string x.reply] 1)] [] 11 (by intro p hp;simp at hp;rcases hp with rfl | rfl <;> exact SlW.lasts _ _ _ _) (by kernel_rfl) (by kernel_rfl) (by decide) (fun val => ?_)
    simp only [tk1,tk0,dr1,dr0]
    refine fit_segN 4 (by kernel_rfl) ?_
    simp only [tk1,tk0,dr1,dr0]
    have t0:∀ u:Since W3,u.w.cell? ⟨b3,0,none⟩ = some (.int .i64 x.id):=fun u => u.cell r0
    have t1:∀ u:Since W3,u.w.cell? ⟨b3,1,none⟩ = some (.int .i64 x.seq):=fun u => u.cell r1
    have t2:∀ u:Since W3,u.w.cell? ⟨b3,2,none⟩ = some (.string x.reply):=fun u => u.cell r2
    repeat (go_big_quiet_step (fail))
    refine wpQuiet_nil ?_
    refine fit_lit 31 3 [.int .i64 x.id,.int .i64 x.seq] 2 rfl rfl (by simp) (by simp) (fun w5 => by go_simp) rfl ?_
    simp only [Act.put,sia,sc0,sc1]
    refine fit_call1 (.string ⟨I.toArray⟩) 149 31 3 [.int .i64 x.id,.int .i64 x.seq] 2 (by simp) (by decide) rfl (by simp) (fun w5 => by go_simp) rfl (by kernel_rfl) (fun w5 b5 _ h5 => CI2.out w5 b5 h5) ?_
    simp only [Act.put,sia,sc0,sc1]
    refine fit_segN 2 (by kernel_rfl) ?_
    simp only [tk1,tk0,dr1,dr0]
    repeat (go_big_quiet_step (fail))
    refine wpQuiet_nil ?_
    refine fit_lit 35 9 [.string x.reply] 1 rfl rfl (by simp) (by simp) (fun w5 => by go_simp) rfl ?_
    simp only [Act.put,sia,sc0,sc1]
    refine fit_call1 (.string ⟨T.toArray⟩) 75 35 9 [.string x.reply] 1 (by simp) (by decide) rfl (by simp) (fun w5 => by go_simp) rfl (by kernel_rfl) (fun w5 b5 _ h5 => CT.out w5 b5 h5) ?_
    simp only [Act.put,sia,sc0,sc1]
    refine fit_segN 1 (by kernel_rfl) ?_
    simp only [tk1,tk0,dr1,dr0]
    repeat (go_big_quiet_step (fail))
    refine wpQuiet_nil ?_
    intro w5 ho5 _
    clear t0 t1 t2 r0 r1 r2
    go_wp2_with fail
    refine (CW.out _ ho5).mono ?_
    rintro e w6 ⟨rfl,hb6,hbe6,_⟩
    have HB6:Hid (IsBld 209 z z (ib ever ++ ib l.length ++ sesB (l.take (k + 1))) w6):=by
     show IsBld _ _ _ _ _
     rw [HSL.out,HX.out];exact .inr hb6
    clear hb6
    go_wp2_with fail
    go_roundw
    case rel => exact ⟨k + 1,by omega,by go_num,HB6,((ho.tr0 hob).tr0 ho5).past_below HZ.out hbe6⟩
    case measure => simp [intOf];omega
  · have hd0:decide ((k:Int) < (l.length:Int)) = false:=by simp;omega
    obtain rfl:k = l.length:=by omega
    rw [List.take_length] at hb
    have HSt:=Hd (builder_string_any _ _ _ _ _ hb.out)
    clear hb
    go_wp2_with fail
    refine HSt.out.mono ?_
    rintro e w3 ⟨rfl,hbe3⟩
    go_wp2_with fail
    go_ret
    exact ⟨by simp [packL],ho.past_below HZ.out hbe3⟩
theorem info_rses:(Tryz.prog.info? 237).map (fun i => (i.zero,i.size,i.bytes)) = some (some (.agg #[.int .i64 0,.int .i64 0,.string .empty]),3,32):=by kernel_rfl
theorem own_base {w:World} {base base':Nat} {e:TypeId} {sz n:Nat} {v:Value} {xs:List Value} (h:w.ownsRow base e sz v n xs) (hb:base' ≤ base):w.ownsRow base' e sz v n xs:=by
 obtain ⟨hl,h⟩:=h
 exact ⟨hl,h.imp_right fun ⟨g,cap,cur,hv,hg,r⟩ => ⟨g,cap,cur,hv,by omega,r⟩⟩
def RtV (w:World) (B b:Nat) (v:Value) (l:List Ses) (ever:Int):Prop:=
 B ≤ b ∧ Cells w b 122 [v,.int .i64 ever] ∧ w.ownsRow B 237 3 v l.length (sesL l)
theorem sesL_append (l m:List Ses):sesL (l ++ m) = sesL l ++ sesL m:=by unfold sesL;rw [List.flatMap_append]
theorem sesL_len (l:List Ses):(sesL l).length = l.length * 3:=flat_length Ses.cells 3 (fun _ => rfl) l
theorem rt_register (B b:Nat) (v:Value) (l:List Ses) (ever:Int) (w:World) (h:RtV w B b v l ever) (hl:l.length ≤ 8) (he:0 ≤ ever ∧ ever ≤ 1000000000000):
 Calls Tryz.prog 165 #[.pointer (some ⟨b,0,none⟩)] w fun e w' => e = .returned (.int .i64 (ever + 1)) ∧ ∃ v',RtV w' B b v' (regL l ⟨ever + 1,0,.empty⟩) (ever + 1) ∧ Only [b] w w' ∧ ∀ g,v'.ownBlock = some g → w.heap.size ≤ g:=by
 obtain ⟨i0,hi0,hz0,hz1,hz2⟩:=info_parts info_rses
 obtain ⟨hB,hc,hown⟩:=h
 have c0:=hc.cell (k:=0) rfl
 have c1:=hc.cell (k:=1) rfl
 have f0:=hc.frozen 0
 have f1:=hc.frozen 1
 have hlt:=hc.lt
 obtain ⟨he0,he1⟩:=he
 obtain ⟨x,hx⟩:∃ x:Ses,x = ⟨ever + 1,0,.empty⟩:=⟨_,rfl⟩
 rw [← hx]
 have hxc:x.cells = [.int .i64 (ever + 1),.int .i64 0,.string .empty]:=by rw [hx];rfl
 by_cases h8:l.length = 8
 case' pos =>
  obtain ⟨g,cap,cs,rfl,hg,hC,hn,hcm,hcl,htk⟩:=own_block hown (by omega)
  rw [h8] at htk hn c0 hc
  have hcm2:cap ≤ 9223372036854775807:=by unfold maxLen at hcm;omega
  have hne:b ≠ g:=hc.ne hC (by decide)
  have HR:Hid (regL l x = l.drop 1 ++ [x]):=by show _ = _;unfold regL;rw [if_pos h8]
  have hl':(l.drop 1).length ≤ 8:=by simp;omega
  have hl1:(l.drop 1).length = 7:=by simp;omega
  have hsrc:SrcA w (.slice (some ⟨g,3,none⟩) 7 (cap - 1)) 3 (l.drop 1).length (sesL (l.drop 1)):=by
   rw [hl1]
   refine SrcA.piece hC (by rw [sesL_len,hl1]) (sesL_one _) fun j u hu => ?_
   have h1:=(sesL_take l 1 (by omega)).2
   rw [← h1,← htk,List.getElem?_drop] at hu
   have hj:1 * 3 + j < 8 * 3:=by
    rcases Nat.lt_or_ge (1 * 3 + j) (8 * 3) with h | h
    · exact h
    · rw [List.getElem?_eq_none (by rw [List.length_take];omega)] at hu;cases hu
   rw [List.getElem?_take_of_lt hj] at hu
   exact hu
  have HC0:=Hd ((hc.set 0 (.slice (some ⟨g,3,none⟩) 7 (cap - 1))).set 1 (.int .i64 (ever + 1)))
  have ho0:Only [b] w ((w.setCell ⟨b,0,none⟩ (.slice (some ⟨g,3,none⟩) 7 (cap - 1))).setCell ⟨b,1,none⟩ (.int .i64 (ever + 1))):=(oz.setCell (.inl (by simp)) _).setCell (.inl (by simp)) _
  have HS0:Hid (SrcA ((w.setCell ⟨b,0,none⟩ (.slice (some ⟨g,3,none⟩) 7 (cap - 1))).setCell ⟨b,1,none⟩ (.int .i64 (ever + 1))) (.slice (some ⟨g,3,none⟩) 7 (cap - 1)) 3 (l.drop 1).length (sesL (l.drop 1))):=by
   obtain ⟨h1,h2,h3⟩:=hsrc
   refine ⟨h1,h2,h3.imp_right fun ⟨ad,c,e,h⟩ => ⟨ad,c,e,fun j u hu => ?_⟩⟩
   simp only [Value.slice.injEq,Option.some.injEq] at e
   obtain ⟨rfl,_⟩:=e
   have:=h j u hu
   rw [Addr.add_lit] at this ⊢
   exact (ho0.cell (World.block_lt_of_cell? w _ this) (by simp;omega)).trans this
  clear hc hC hown hsrc htk
  go_enter Tryz.func165,Tryz.ntmps165
  go_wp2_with fail
  obtain ⟨W0,hW0⟩:∃ W0,(w.setCell ⟨b,0,none⟩ (.slice (some ⟨g,3,none⟩) 7 (cap - 1))).setCell ⟨b,1,none⟩ (.int .i64 (ever + 1)) = W0:=⟨_,rfl⟩
  obtain ⟨y,hy⟩:∃ y,Value.slice (some ⟨g,3,none⟩) 7 (cap - 1) = y:=⟨_,rfl⟩
  obtain ⟨l',hll⟩:∃ l',l.drop 1 = l':=⟨_,rfl⟩
  rw [hll] at HR hl' HS0
  rw [hW0] at HC0 ho0 HS0 ⊢
  rw [hy] at HS0 HC0 ⊢
  clear hW0 hy hll hl1
 case' neg =>
  have h8':l.length < 8:=by omega
  have hs:=SlAt.of_own hown
  obtain ⟨A,c,rfl⟩:=hs.shape
  have HR:Hid (regL l x = l ++ [x]):=by show _ = _;unfold regL;rw [if_neg h8]
  have hsrc:SrcA w (.slice A l.length c) 3 l.length (sesL l):=SrcA.own hown (sesL_one l)
  have HC0:=Hd (hc.set 1 (.int .i64 (ever + 1)))
  have ho0:Only [b] w (w.setCell ⟨b,1,none⟩ (.int .i64 (ever + 1))):=oz.setCell (.inl (by simp)) _
  have HS0:Hid (SrcA (w.setCell ⟨b,1,none⟩ (.int .i64 (ever + 1))) (.slice A l.length c) 3 l.length (sesL l)):=
   SrcA.own (ownsRow_setCell_other hown (own_ne_block hown hc (by decide)) _) (sesL_one l)
  clear hc hown hsrc hs
  go_enter Tryz.func165,Tryz.ntmps165
  go_wp2_with fail
  obtain ⟨W0,hW0⟩:∃ W0,w.setCell ⟨b,1,none⟩ (.int .i64 (ever + 1)) = W0:=⟨_,rfl⟩
  obtain ⟨y,hy⟩:∃ y,Value.slice A l.length c = y:=⟨_,rfl⟩
  have hl':=hl
  obtain ⟨l',hll⟩:∃ l',l = l':=⟨_,rfl⟩
  rw [hW0] at HC0 ho0 HS0 ⊢
  rw [hy] at HS0 HC0 ⊢
  have HR:Hid (regL l x = l' ++ [x]):=by show _ = _;rw [← hll];exact HR.out
  rw [hll] at hl' HS0
  clear hW0 hy hll
 all_goals
  have HC1:Hid (Cells W0 b 122 [y,.int .i64 (ever + 1)]):=HC0
  have hx1:∀ u ∈ x.cells,u.oneCell' = true:=by rw [hxc];simp [Value.oneCell']
  have HX:=Hd hx
  have HXC:=Hd hxc
  clear HC0 hx hxc c0 c1 f0 f1
  have t0:∀ u:Since W0,u.w.cell? ⟨b,0,none⟩ = some y:=fun u => u.cell (HC1.out.cell rfl)
  have t1:∀ u:Since W0,u.w.cell? ⟨b,1,none⟩ = some (.int .i64 (ever + 1)):=fun u => u.cell (HC1.out.cell rfl)
  refine wp_region_pendN W0 oz [(25,OwW W0.heap.size 237 3 0 []),(30,OwW W0.heap.size 237 3 l'.length (sesL l')),(36,OwW W0.heap.size 237 3 1 x.cells),(37,OwW W0.heap.size 237 3 (l'.length + 1) (sesL l' ++ x.cells))] [(30,25),(37,30)] 16 (by intro p hp;simp at hp;rcases hp with rfl | rfl | rfl | rfl <;> exact OwW.lasts _ _ _ _ _) (by kernel_rfl) (by kernel_rfl) (by decide) (fun val => ?_)
  simp only [tk1,tk0,dr1,dr0]
  refine fit_segN 1 (by kernel_rfl) ?_
  simp only [tk1,tk0,dr1,dr0]
  repeat (go_big_quiet_step (fail))
  refine wpQuiet_nil ?_
  refine fit_litO 25 237 3 [] 0 rfl rfl (by simp) (by simp) rfl (by decide) (fun w5 => by go_simp) rfl ?_
  simp only [Act.put,sia,sc0,sc1]
  refine fit_segN 4 (by kernel_rfl) ?_
  simp only [tk1,tk0,dr1,dr0]
  repeat (go_big_quiet_step (fail))
  refine wpQuiet_nil ?_
  refine fit_append 30 25 (.tmp 29) 120 237 i0 (.agg #[.int .i64 0,.int .i64 0,.string .empty]) 3 32 Tryz.underlying120 hi0 hz0 hz1 hz2 rfl (by decide) 0 l'.length l'.length [] (sesL l') (sesL l') (by omega) rfl rfl rfl rfl (by simp) (by simp) (by simp) (by decide) rfl rfl (fun w5 hw5 => HS0.out.only hw5.1) (by unfold maxLen;omega) (by omega) rfl ?_
  simp only [Act.put,sia,sc0,sc1]
  refine fit_segN 5 (by kernel_rfl) ?_
  simp only [tk1,tk0,dr1,dr0]
  repeat (go_big_quiet_step (fail))
  refine wpQuiet_nil ?_
  refine fit_litO 36 237 3 x.cells 1 rfl rfl (by simp) (by simp) rfl (by decide) (fun w5 => by rw [HXC.out];go_simp;rfl) rfl ?_
  simp only [Act.put,sia,sc0,sc1]
  refine fit_append 37 30 (.tmp 36) 120 237 i0 (.agg #[.int .i64 0,.int .i64 0,.string .empty]) 3 32 Tryz.underlying120 hi0 hz0 hz1 hz2 rfl (by decide) l'.length 1 (l'.length + 1) (sesL l') x.cells (sesL l' ++ x.cells) rfl rfl rfl rfl rfl (by simp) (by simp) (by simp) (by decide) rfl rfl (fun w5 hw5 => SrcA.own (hw5.2 (36,OwW W0.heap.size 237 3 1 x.cells) (by simp) (by show 36 ∈ Oper.looksAt _ _;decide)) hx1) (by unfold maxLen;omega) (by omega) rfl ?_
  simp only [Act.put,sia,sc0,sc1]
  refine fit_segN 2 (by kernel_rfl) ?_
  simp only [tk1,tk0,dr1,dr0]
  repeat (go_big_quiet_step (fail))
  refine wpQuiet_nil ?_
  intro w5 ho5 hV5
  have hown5:w5.ownsRow W0.heap.size 237 3 (val 37) (l'.length + 1) (sesL l' ++ x.cells):=hV5 (by decide) (37,OwW W0.heap.size 237 3 (l'.length + 1) (sesL l' ++ x.cells)) (by simp) (by simp)
  obtain ⟨u,hu⟩:∃ u,val 37 = u:=⟨_,rfl⟩
  rw [hu] at hown5 ⊢
  obtain ⟨g5,cap5,hu5⟩:∃ g cap,u = .slice (some ⟨g,0,none⟩) (l'.length + 1) cap:=by
   obtain ⟨g,cap,_,h,_⟩:=own_block hown5 (by omega)
   exact ⟨g,cap,h⟩
  subst hu5
  have hC5:=HC1.out.only ho5 (by simp)
  have d0:=hC5.cell (k:=0) rfl
  have d1:=hC5.cell (k:=1) rfl
  have f0:=hC5.frozen 0
  have hb5:=hC5.lt
  have HC5:=Hd hC5
  have HO5:=Hd hown5
  clear hC5 hown5 hV5 t0 t1 hu
  go_wp2_with fail
  go_ret
  refine ⟨rfl,_,⟨hB,HC5.out.set 0 _,?_⟩,(ho0.tr0 ho5).setCell (.inl (by simp)) _,fun gg hgg => by have:=(HO5.out.lt gg hgg).1;have:=ho0.size;omega⟩
  rw [HR.out,sesL_append,List.length_append]
  have h1:=ownsRow_setCell_other HO5.out (a:=⟨b,0,none⟩) (own_ne_block HO5.out HC5.out (by decide)) (.slice (some ⟨g5,0,none⟩) (l'.length + 1) cap5)
  have h2:sesL [x] = x.cells:=by simp [sesL]
  rw [h2]
  exact own_base h1 (by have:=ho0.size;omega)
theorem fnd_hit {l:List Ses} {id:Int} {k:Nat} {x:Ses} (hk:l[k]? = some x) (he:(x.id == id) = true) (hno:∀ j y,j < k → l[j]? = some y → (y.id == id) = false):fndI l id = k:=by
 have hh:=List.getElem?_eq_some_iff.1 hk
 obtain ⟨hlt,hx⟩:=hh
 have hS:fndS l id = k:=by
  unfold fndS
  refine (List.findIdx_eq hlt).2 ⟨by rw [hx];exact he,fun j hj => ?_⟩
  have:=hno j _ hj (List.getElem?_eq_getElem (by omega))
  simpa using this
 unfold fndI
 rw [hS,if_pos hlt]
theorem fnd_none {l:List Ses} {id:Int} (hno:∀ j y,j < l.length → l[j]? = some y → (y.id == id) = false):fndI l id = -1:=by
 unfold fndI
 rw [if_neg]
 intro h
 unfold fndS at h
 have:=hno _ _ h (List.getElem?_eq_getElem h)
 have h2:=List.findIdx_getElem (w:=h)
 rw [this] at h2
 cases h2
theorem rt_find (B b:Nat) (v:Value) (l:List Ses) (ever:Int) (id:Int) (w:World) (h:RtV w B b v l ever) (hl:l.length ≤ 1000000):
 Calls Tryz.prog 170 #[.pointer (some ⟨b,0,none⟩),.int .i64 id] w fun e w' => e = .returned (.int .i64 (fndI l id)) ∧ w = w':=by
 obtain ⟨hB,hc,hown⟩:=h
 have hs:=SlAt.of_own hown
 obtain ⟨A,c,rfl⟩:=hs.shape
 have c0:=hc.cell (k:=0) rfl
 have HS:=Hd hs
 clear hs hown hc
 go_enter Tryz.func170,Tryz.ntmps170
 go_wp2_with fail
 go_loop [5] (fun i => ∃ k:Nat,k ≤ l.length ∧ i = .int .i64 k ∧ Hid (∀ j y,j < k → l[j]? = some y → (y.id == id) = false)) (fun i => l.length - (intOf i).toNat)
 case atStart => exact ⟨0,by omega,rfl,fun j y h => by omega⟩
 case round =>
  obtain ⟨k,hk,rfl,hno⟩:=hrel
  by_cases hlt:k < l.length
  · have hlt':(k:Int) < (l.length:Int):=by omega
    have hk1:=List.getElem?_eq_getElem hlt
    obtain ⟨x,hx⟩:∃ x,l[k] = x:=⟨_,rfl⟩
    rw [hx] at hk1
    obtain ⟨ab,ao,ac,hv,hab,hc⟩:=HS.out.at_ (by omega)
    have q0:w.cell? ⟨ab,ao + k * 3,none⟩ = some (.int .i64 x.id):=hc (k * 3 + 0) _ (sesL_get l k 0 x hk1 (by omega))
    injection hv with e1 e2 e3
    subst e1;subst e3
    cases heq:(x.id == id) with
    | true =>
     have HF:=Hd (fnd_hit hk1 heq hno.out)
     clear e2 hc hx hk1 hno
     go_wp2_with fail
     go_ret
     exact ⟨by rw [HF.out];rfl,rfl⟩
    | false =>
     have hno2:Hid (∀ j y,j < k + 1 → l[j]? = some y → (y.id == id) = false):=by
      intro j y h1 h2
      rcases Nat.lt_or_ge j k with h | h
      · exact hno.out j y h h2
      · obtain rfl:j = k:=by omega
        rw [hk1] at h2
        injection h2 with h2
        subst h2
        exact heq
     clear e2 hc hx hk1 hno
     go_wp2_with fail
     go_round
     case rel => exact ⟨k + 1,by omega,by go_num,hno2⟩
     case measure => simp [intOf];omega
  · have hd0:decide ((k:Int) < (l.length:Int)) = false:=by simp;omega
    have HF:Hid (fndI l id = -1):=fnd_none fun j y h1 h2 => hno.out j y (by omega) h2
    go_wp2_with fail
    go_ret
    exact ⟨by rw [HF.out];rfl,rfl⟩
theorem rt_ask (B b:Nat) (v:Value) (l:List Ses) (ever:Int) (id seq:Int) (w:World) (h:RtV w B b v l ever) (hl:l.length ≤ 1000000) (hp:∀ s ∈ l,0 ≤ s.seq):
 Calls Tryz.prog 89 #[.pointer (some ⟨b,0,none⟩),.int .i64 id,.int .i64 seq] w fun e w' => e = .returned (askV (askS l id seq)) ∧ Only [] w w':=by
 have HF:=Hd (rt_find B b v l ever id w h hl)
 obtain ⟨hB,hc,hown⟩:=h
 have hs:=SlAt.of_own hown
 obtain ⟨A,c,rfl⟩:=hs.shape
 have c0:=hc.cell (k:=0) rfl
 have HS:=Hd hs
 clear hs hown hc
 by_cases hlt:fndS l id < l.length
 · have hfi:fndI l id = (fndS l id:Nat):=by unfold fndI;rw [if_pos hlt]
   have hk1:=List.getElem?_eq_getElem hlt
   obtain ⟨x,hx⟩:∃ x,l[fndS l id] = x:=⟨_,rfl⟩
   rw [hx] at hk1
   have hxp:=hp x (List.mem_of_getElem? hk1)
   obtain ⟨k,hk⟩:∃ k,fndS l id = k:=⟨_,rfl⟩
   have hA:askS l id seq = if seq < 1 ∨ seq < x.seq then (2,.empty) else if seq = x.seq then (1,x.reply) else (0,.empty):=by unfold askS atS;rw [hk1]
   rw [hk] at hlt hk1 hfi
   rw [hfi] at HF
   obtain ⟨ab,ao,ac,hv,hab,hc⟩:=HS.out.at_ (by omega)
   have q1:w.cell? ⟨ab,ao + k * 3 + 1,none⟩ = some (.int .i64 x.seq):=hc (k * 3 + 1) _ (sesL_get l k 1 x hk1 (by omega))
   have q2:w.cell? ⟨ab,ao + k * 3 + 2,none⟩ = some (.string x.reply):=hc (k * 3 + 2) _ (sesL_get l k 2 x hk1 (by omega))
   injection hv with e1 e2 e3
   subst e1;subst e3
   have HA:=Hd hA
   have hd0:decide ((k:Int) < 0) = false:=by simp
   clear hx hk1 hfi hc hA e2 hp hk
   by_cases h1:seq < 1
   · have d1:decide (seq < 1) = true:=by simpa using h1
     have HV:Hid (askS l id seq = (2,.empty)):=by show _ = _;rw [HA.out,if_pos (.inl h1)]
     by_cases hs0:seq = x.seq
     · have d2:(seq == x.seq) = true:=by simpa using hs0
       have d3:(seq == 0) = true:=by simp;omega
       have d4:decide (seq < x.seq) = false:=by simp;omega
       clear HA hs0
       go_enter Tryz.func89,Tryz.ntmps89
       go_wp2_with (go_at_call 170;refine HF.out.mono ?_;rintro e w' ⟨rfl,rfl⟩)
       go_ret2
       exact ⟨by rw [HV.out];rfl,Only.refl _ _⟩
     · have d2:(seq == x.seq) = false:=by simpa using hs0
       clear HA
       by_cases hs4:seq < x.seq
       all_goals
        first
         | have d4:decide (seq < x.seq) = true:=by simpa using hs4
         | have d4:decide (seq < x.seq) = false:=by simpa using hs4
        clear hs0 hs4
        go_enter Tryz.func89,Tryz.ntmps89
        go_wp2_with (go_at_call 170;refine HF.out.mono ?_;rintro e w' ⟨rfl,rfl⟩)
        go_ret2
        exact ⟨by rw [HV.out];rfl,Only.refl _ _⟩
   · have d1:decide (seq < 1) = false:=by simpa using h1
     have d3:(seq == 0) = false:=by simp;omega
     by_cases hs0:seq = x.seq
     · have d2:(seq == x.seq) = true:=by simpa using hs0
       have HV:Hid (askS l id seq = (1,x.reply)):=by show _ = _;rw [HA.out,if_neg (by omega),if_pos hs0]
       clear HA hs0
       go_enter Tryz.func89,Tryz.ntmps89
       go_wp2_with (go_at_call 170;refine HF.out.mono ?_;rintro e w' ⟨rfl,rfl⟩)
       go_quiet (fail)
       go_wp2_with fail
       go_ret2
       exact ⟨by rw [HV.out];rfl,oz.drewN _⟩
     · have d2:(seq == x.seq) = false:=by simpa using hs0
       by_cases hs4:seq < x.seq
       · have d4:decide (seq < x.seq) = true:=by simpa using hs4
         have HV:Hid (askS l id seq = (2,.empty)):=by show _ = _;rw [HA.out,if_pos (.inr hs4)]
         clear HA hs0 hs4
         go_enter Tryz.func89,Tryz.ntmps89
         go_wp2_with (go_at_call 170;refine HF.out.mono ?_;rintro e w' ⟨rfl,rfl⟩)
         go_ret2
         exact ⟨by rw [HV.out];rfl,Only.refl _ _⟩
       · have d4:decide (seq < x.seq) = false:=by simpa using hs4
         have HV:Hid (askS l id seq = (0,.empty)):=by show _ = _;rw [HA.out,if_neg (by omega),if_neg hs0]
         clear HA hs0 hs4
         go_enter Tryz.func89,Tryz.ntmps89
         go_wp2_with (go_at_call 170;refine HF.out.mono ?_;rintro e w' ⟨rfl,rfl⟩)
         go_ret2
         exact ⟨by rw [HV.out];rfl,Only.refl _ _⟩
 · have HFI:Hid (fndI l id = -1):=by show _ = _;unfold fndI;rw [if_neg hlt]
   have HV:Hid (askS l id seq = (3,.empty)):=by show _ = _;unfold askS atS;rw [List.getElem?_eq_none (by omega)]
   rw [HFI.out] at HF
   clear hlt
   go_enter Tryz.func89,Tryz.ntmps89
   go_wp2_with (go_at_call 170;refine HF.out.mono ?_;rintro e w' ⟨rfl,rfl⟩)
   go_ret2
   exact ⟨by rw [HV.out];rfl,Only.refl _ _⟩
theorem RtV.only {w w':World} {B b:Nat} {v:Value} {l:List Ses} {ever:Int} (h:RtV w B b v l ever) (ho:Only [] w w'):RtV w' B b v l ever:=
 ⟨h.1,h.2.1.only ho (by simp),own_only h.2.2 ho (by simp)⟩
theorem rt_pack (B b:Nat) (v:Value) (l:List Ses) (ever:Int) (w:World) (h:RtV w B b v l ever) (hl:l.length ≤ 1000) (he:Wide64 ever) (hf:∀ s ∈ l,s.Fit):
 Calls Tryz.prog 100 #[.pointer (some ⟨b,0,none⟩)] w fun e w' => e = .returned (.string ⟨(packL l ever).toArray⟩) ∧ Only [] w w':=by
 obtain ⟨hB,hc,hown⟩:=h
 have hs:=SlAt.of_own hown
 obtain ⟨A,c,rfl⟩:=hs.shape
 have c0:=hc.cell (k:=0) rfl
 have c1:=hc.cell (k:=1) rfl
 have HS:=Hd hs
 have HF:=Hd hf
 have hln:Wide64 (l.length:Int):=⟨by omega,by omega⟩
 have l1:=(ib_length _ he).2
 have l2:=(ib_length _ hln).2
 have t0:∀ u:Since w,u.w.cell? ⟨b,0,none⟩ = some (.slice A l.length c):=fun u => u.cell c0
 have t1:∀ u:Since w,u.w.cell? ⟨b,1,none⟩ = some (.int .i64 ever):=fun u => u.cell c1
 clear hs hown hc hf
 go_enter Tryz.func100,Tryz.ntmps100
 go_wp2_with fail
 refine wp_region_only w oz (by kernel_rfl) (by kernel_rfl) ?_
 repeat (go_big_quiet_step ((go_at_call 117;refine Calls.only (ref_int _ _ (by assumption)))))
 refine wpQuiet_nil ?_
 rintro ⟨w1,ho1⟩
 dsimp only
 go_wp2_with fail
 clear t0 t1
 go_loopw [3,4] (fun s i wr => ∃ k:Nat,k ≤ l.length ∧ i = .int .i64 k ∧ s = .string ⟨(ib ever ++ ib l.length ++ sesB (l.take k)).toArray⟩ ∧ Only [] w wr) (fun _ i _ => l.length - (intOf i).toNat)
 case atStart => exact ⟨0,by omega,rfl,by simp [sesB,ba_append],ho1⟩
 case round =>
  obtain ⟨k,hk,rfl,rfl,ho⟩:=hrel
  have d0:∀ u:Since w,u.w.cell? ⟨b,0,none⟩ = some (.slice A l.length c):=fun u => u.cell c0
  have e0:wr.cell? ⟨b,0,none⟩ = some (.slice A l.length c):=(Since.mk wr ho).cell c0
  by_cases hlt:k < l.length
  · have hlt':(k:Int) < (l.length:Int):=by omega
    have hk1:=List.getElem?_eq_getElem hlt
    obtain ⟨x,hx⟩:∃ x,l[k] = x:=⟨_,rfl⟩
    rw [hx] at hk1
    have hfx:=HF.out x (List.mem_of_getElem? hk1)
    obtain ⟨ab,ao,ac,hv,hab,hcc⟩:=HS.out.at_ (by omega)
    injection hv with e1 e2 e3
    subst e1;subst e3
    have q0:∀ u:Since wr,u.w.cell? ⟨ab,ao + k * 3,none⟩ = some (.int .i64 x.id):=fun u => (Since.mk u.w (ho.tr0 u.h)).cell (hcc (k * 3 + 0) _ (sesL_get l k 0 x hk1 (by omega)))
    have q1:∀ u:Since wr,u.w.cell? ⟨ab,ao + k * 3 + 1,none⟩ = some (.int .i64 x.seq):=fun u => (Since.mk u.w (ho.tr0 u.h)).cell (hcc (k * 3 + 1) _ (sesL_get l k 1 x hk1 (by omega)))
    have q2:∀ u:Since wr,u.w.cell? ⟨ab,ao + k * 3 + 2,none⟩ = some (.string x.reply):=fun u => (Since.mk u.w (ho.tr0 u.h)).cell (hcc (k * 3 + 2) _ (sesL_get l k 2 x hk1 (by omega)))
    have q3:∀ u:Since wr,u.w.cell? ⟨b,0,none⟩ = some (.slice (some ⟨ab,ao,none⟩) l.length c):=fun u => (Since.mk u.w (ho.tr0 u.h)).cell c0
    have hxl:=Ses.bytes_length hfx
    have hLl:=sesB_length (l:=l.take k) (fun s hs => HF.out s (List.mem_of_mem_take hs))
    have hLk:(l.take k).length ≤ 1000:=by rw [List.length_take];omega
    obtain ⟨L,hL⟩:∃ L,ib ever ++ ib l.length ++ sesB (l.take k) = L:=⟨_,rfl⟩
    have hLL:L.length ≤ 200000000000:=by rw [← hL,List.length_append,List.length_append];omega
    obtain ⟨T,hT⟩:∃ T,tb x.reply.data.toList = T:=⟨_,rfl⟩
    have hxb:x.bytes = ib x.id ++ ib x.seq ++ T:=by rw [← hT];rfl
    rw [hxb] at hxl
    have hSL:ib ever ++ ib l.length ++ sesB (l.take (k + 1)) = L ++ ib x.id ++ ib x.seq ++ T:=by rw [sesB_snoc l k x hk1,← List.append_assoc,hL,hxb,← List.append_assoc,← List.append_assoc]
    have HSL:=Hd hSL
    rw [List.length_append,List.length_append] at hxl
    have w1:=hfx.id
    have w2:=hfx.seq
    have CT:Hid (∀ W,Calls Tryz.prog 99 #[.string x.reply] W fun e w' => e = .returned (.string ⟨T.toArray⟩) ∧ Only [] W w'):=fun W => by
     have hr:=hfx.reply
     have:=ref_text x.reply.data.toList W (by simp;omega)
     rw [ba_list] at this
     rw [← hT];exact this
    rw [hL]
    clear e2 hcc hx hk1 hfx hL hT hxb hSL hLl hLk
    go_wp2_with fail
    refine wp_region_only wr oz (by kernel_rfl) (by kernel_rfl) ?_
    repeat (go_big_quiet_step (first | (go_at_call 117;refine Calls.only (ref_int _ _ (by assumption))) | (go_at_call 99;refine Calls.only (CT.out _))))
    refine wpQuiet_nil ?_
    rintro ⟨w8,ho8⟩
    dsimp only
    clear q0 q1 q2 q3
    go_wp2_with fail
    go_roundw
    case rel => exact ⟨k + 1,by omega,by go_num,by rw [HSL.out];simp [ba_append],ho.tr0 ho8⟩
    case measure => simp [intOf];omega
  · have hd0:decide ((k:Int) < (l.length:Int)) = false:=by simp;omega
    obtain rfl:k = l.length:=by omega
    go_wp2_with fail
    go_ret
    exact ⟨by simp [packL],ho⟩
theorem rt_done (B b:Nat) (v:Value) (l:List Ses) (ever:Int) (id seq:Int) (reply:ByteArray) (w:World) (h:RtV w B b v l ever) (hl:l.length ≤ 8) (hp:∀ s ∈ l,0 ≤ s.seq):
 Calls Tryz.prog 91 #[.pointer (some ⟨b,0,none⟩),.int .i64 id,.int .i64 seq,.string reply] w fun e w' => e = .returned (.bool ((askS l id seq).1 == 0)) ∧ ∃ v',RtV w' B b v' (doneL l id seq reply) ever ∧ Only [b] w w' ∧ ∀ g,v'.ownBlock = some g → v.ownBlock = some g ∨ w.heap.size ≤ g:=by
 obtain ⟨i0,hi0,hz0,hz1,hz2⟩:=info_parts info_rses
 have HA:=Hd (rt_ask B b v l ever id seq w h (by omega) hp)
 have HH:=Hd h
 by_cases h0:(askS l id seq).1 = 0
 · obtain ⟨x0,hx0,hlt,hfi,hsq,_⟩:=askS_zero h0
   have HFD:=Hd (fun w' (ho:Only [] w w') => rt_find B b v l ever id w' (h.only ho) (by omega))
   rw [hfi] at HFD
   obtain ⟨r,hr⟩:∃ r,askS l id seq = r:=⟨_,rfl⟩
   obtain ⟨r1,r2⟩:=r
   have hr1:r1 = 0:=by rw [hr] at h0;exact h0
   subst hr1
   have HD:Hid (doneL l id seq reply = l.eraseIdx (fndS l id) ++ [⟨id,seq,reply⟩]):=by show _ = _;unfold doneL;rw [if_pos h0]
   rw [hr,show askV (0,r2) = .tuple #[.int .i64 0,.string r2] from rfl] at HA
   obtain ⟨k,hk⟩:∃ k,fndS l id = k:=⟨_,rfl⟩
   rw [hk] at HD HFD hlt
   have HR:=Hd hr
   obtain ⟨x,hx⟩:∃ x:Ses,x = ⟨id,seq,reply⟩:=⟨_,rfl⟩
   rw [← hx] at HD
   have hxc:x.cells = [.int .i64 id,.int .i64 seq,.string reply]:=by rw [hx];rfl
   have hx1:∀ u ∈ x.cells,u.oneCell' = true:=by rw [hxc];simp [Value.oneCell']
   have HXC:=Hd hxc
   clear h hr h0 hx0 hfi hk hx hxc hp
   go_enter Tryz.func91,Tryz.ntmps91
   go_wp2_with fail
   refine HA.out.mono ?_
   rintro e w1 ⟨rfl,ho1⟩
   go_wp2_with fail
   refine (HFD.out _ ho1).mono ?_
   rintro e w2 ⟨rfl,rfl⟩
   obtain ⟨hB,hc,hown⟩:=HH.out.only ho1
   obtain ⟨g,cap,cs,rfl,hg,hC,hn,hcm,hcl,htk⟩:=own_block hown (by omega)
   have hcm2:cap ≤ 9223372036854775807:=by unfold maxLen at hcm;omega
   have hkc:k ≤ cap:=by omega
   have hkl:k ≤ l.length:=by omega
   have hk1c:k + 1 ≤ cap:=by omega
   have hk1l:k + 1 ≤ l.length:=by omega
   have htl:=sesL_take l k (by omega)
   have htl1:=sesL_take l (k + 1) (by omega)
   have hS1:SrcA w1 (.slice (some ⟨g,0,none⟩) k cap) 3 k (sesL (l.take k)):=by
    refine SrcA.piece hC (by rw [sesL_len,List.length_take];omega) (sesL_one _) fun j u hu => ?_
    rw [← htl.1,← htk] at hu
    have hj:=(List.getElem?_eq_some_iff.1 hu).1
    simp only [List.length_take] at hj
    rw [List.getElem?_take_of_lt (by omega),List.getElem?_take_of_lt (by omega)] at hu
    rw [Nat.zero_add];exact hu
   obtain ⟨A2,hA2,hS2⟩:∃ A2:Addr,(if cap = k + 1 then some (⟨g,0,none⟩:Addr) else some ⟨g,(k + 1) * 3,none⟩) = some A2 ∧ Hid (SrcA w1 (.slice (some A2) (l.length - (k + 1)) (cap - (k + 1))) 3 (l.length - (k + 1)) (sesL (l.drop (k + 1)))):=by
    by_cases h:cap = k + 1
    · refine ⟨⟨g,0,none⟩,by simp [h],by rw [sesL_len,List.length_drop],sesL_one _,.inr ⟨_,_,rfl,fun j u hu => ?_⟩⟩
      have:l.drop (k + 1) = []:=List.drop_eq_nil_of_le (by omega)
      rw [this] at hu
      simp [sesL] at hu
    · refine ⟨⟨g,(k + 1) * 3,none⟩,by simp [h],SrcA.piece hC (by rw [sesL_len,List.length_drop]) (sesL_one _) fun j u hu => ?_⟩
      rw [← htl1.2,List.getElem?_drop,← htk] at hu
      have hj:=(List.getElem?_eq_some_iff.1 hu).1
      simp only [List.length_take] at hj
      rw [List.getElem?_take_of_lt (by omega)] at hu
      exact hu
   have HS1:=Hd hS1
   have HC1:=Hd hc
   have t0:∀ u:Since w1,u.w.cell? ⟨b,0,none⟩ = some (.slice (some ⟨g,0,none⟩) l.length cap):=fun u => u.cell (HC1.out.cell rfl)
   have hkw:IntKind.i64.wrap ((k:Int) + 1) = (k:Int) + 1:=by rw [IntKind.wrap_i64];omega
   have hbg:B ≤ g:=hg
   clear hc hown hC htk htl htl1 hS1
   go_wp2_with fail
   refine wp_region_pendN w1 oz [(25,OwW w1.heap.size 237 3 0 []),(32,OwW w1.heap.size 237 3 k (sesL (l.take k))),(40,OwW w1.heap.size 237 3 (l.length - 1) (sesL (l.eraseIdx k))),(45,OwW w1.heap.size 237 3 1 x.cells),(46,OwW w1.heap.size 237 3 l.length (sesL (l.eraseIdx k) ++ x.cells))] [(32,25),(40,32),(46,40)] 25 (by intro p hp;simp at hp;rcases hp with rfl | rfl | rfl | rfl | rfl <;> exact OwW.lasts _ _ _ _ _) (by kernel_rfl) (by kernel_rfl) (by decide) (fun val => ?_)
   simp only [tk1,tk0,dr1,dr0]
   refine fit_segN 1 (by kernel_rfl) ?_
   simp only [tk1,tk0,dr1,dr0]
   repeat (go_big_quiet_step (fail))
   refine wpQuiet_nil ?_
   refine fit_litO 25 237 3 [] 0 rfl rfl (by simp) (by simp) rfl (by decide) (fun w5 => by go_simp) rfl ?_
   simp only [Act.put,sia,sc0,sc1]
   refine fit_segN 6 (by kernel_rfl) ?_
   simp only [tk1,tk0,dr1,dr0]
   repeat (go_big_quiet_step (fail))
   refine wpQuiet_nil ?_
   refine fit_append 32 25 (.tmp 31) 120 237 i0 (.agg #[.int .i64 0,.int .i64 0,.string .empty]) 3 32 Tryz.underlying120 hi0 hz0 hz1 hz2 rfl (by decide) 0 k k [] (sesL (l.take k)) (sesL (l.take k)) (by omega) rfl rfl rfl rfl (by simp) (by simp) (by simp) (by decide) rfl rfl (fun w5 hw5 => HS1.out.only hw5.1) (by unfold maxLen;omega) (by omega) rfl ?_
   simp only [Act.put,sia,sc0,sc1]
   refine fit_segN 7 (by kernel_rfl) ?_
   simp only [tk1,tk0,dr1,dr0]
   repeat (go_big_quiet_step (fail))
   refine wpQuiet_nil ?_
   refine fit_append 40 32 (.tmp 39) 120 237 i0 (.agg #[.int .i64 0,.int .i64 0,.string .empty]) 3 32 Tryz.underlying120 hi0 hz0 hz1 hz2 rfl (by decide) k (l.length - (k + 1)) (l.length - 1) (sesL (l.take k)) (sesL (l.drop (k + 1))) (sesL (l.eraseIdx k)) (by omega) (by rw [List.eraseIdx_eq_take_drop_succ,sesL_append]) rfl rfl rfl (by simp) (by simp) (by simp) (by decide) rfl rfl (fun w5 hw5 => hS2.out.only hw5.1) (by unfold maxLen;omega) (by omega) rfl ?_
   simp only [Act.put,sia,sc0,sc1]
   refine fit_segN 4 (by kernel_rfl) ?_
   simp only [tk1,tk0,dr1,dr0]
   repeat (go_big_quiet_step (fail))
   refine wpQuiet_nil ?_
   refine fit_litO 45 237 3 x.cells 1 rfl rfl (by simp) (by simp) rfl (by decide) (fun w5 => by rw [HXC.out];go_simp) rfl ?_
   simp only [Act.put,sia,sc0,sc1]
   refine fit_append 46 40 (.tmp 45) 120 237 i0 (.agg #[.int .i64 0,.int .i64 0,.string .empty]) 3 32 Tryz.underlying120 hi0 hz0 hz1 hz2 rfl (by decide) (l.length - 1) 1 l.length (sesL (l.eraseIdx k)) x.cells (sesL (l.eraseIdx k) ++ x.cells) (by omega) rfl rfl rfl rfl (by simp) (by simp) (by simp) (by decide) rfl rfl (fun w5 hw5 => SrcA.own (hw5.2 (45,OwW w1.heap.size 237 3 1 x.cells) (by simp) (by show 45 ∈ Oper.looksAt _ _;decide)) hx1) (by unfold maxLen;omega) (by omega) rfl ?_
   simp only [Act.put,sia,sc0,sc1]
   refine fit_segN 2 (by kernel_rfl) ?_
   simp only [tk1,tk0,dr1,dr0]
   repeat (go_big_quiet_step (fail))
   refine wpQuiet_nil ?_
   intro w5 ho5 hV5
   have hown5:w5.ownsRow w1.heap.size 237 3 (val 46) l.length (sesL (l.eraseIdx k) ++ x.cells):=hV5 (by decide) (46,OwW w1.heap.size 237 3 l.length (sesL (l.eraseIdx k) ++ x.cells)) (by simp) (by simp)
   obtain ⟨u,hu⟩:∃ u,val 46 = u:=⟨_,rfl⟩
   rw [hu] at hown5 ⊢
   obtain ⟨g5,cap5,hu5⟩:∃ g cap,u = .slice (some ⟨g,0,none⟩) l.length cap:=by
    obtain ⟨g,cap,_,h,_⟩:=own_block hown5 (by omega)
    exact ⟨g,cap,h⟩
   subst hu5
   have hC5:=HC1.out.only ho5 (by simp)
   have d0:=hC5.cell (k:=0) rfl
   have f0:=hC5.frozen 0
   have hb5:=hC5.lt
   have HC5:=Hd hC5
   have HO5:=Hd hown5
   have hsz:=ho1.size
   clear hC5 hown5 hV5 t0 hu hA2 hkw
   go_wp2_with fail
   go_ret
   refine ⟨by rw [HR.out];rfl,_,⟨hB,HC5.out.set 0 _,?_⟩,((ho1.of0).tr0 ho5).setCell (.inl (by simp)) _,fun gg hgg => .inr (by have:=(HO5.out.lt gg hgg).1;omega)⟩
   rw [HD.out,sesL_append,List.length_append,List.length_eraseIdx_of_lt hlt]
   have h1:=ownsRow_setCell_other HO5.out (a:=⟨b,0,none⟩) (own_ne_block HO5.out HC5.out (by decide)) (.slice (some ⟨g5,0,none⟩) l.length cap5)
   have h2:sesL [x] = x.cells:=by simp [sesL]
   rw [h2,show l.length - 1 + [x].length = l.length from by simp;omega]
   exact own_base h1 (by have:=HC1.out.lt;omega)
 · have HD:Hid (doneL l id seq reply = l):=by show _ = _;unfold doneL;rw [if_neg h0]
   obtain ⟨r,hr⟩:∃ r,askS l id seq = r:=⟨_,rfl⟩
   obtain ⟨r1,r2⟩:=r
   have HR:=Hd hr
   have d0:(r1 == 0) = false:=by rw [hr] at h0;simpa using h0
   rw [hr,show askV (r1,r2) = .tuple #[.int .i64 r1,.string r2] from rfl] at HA
   clear h hr h0 hp
   go_enter Tryz.func91,Tryz.ntmps91
   go_wp2_with fail
   refine HA.out.mono ?_
   rintro e w1 ⟨rfl,ho1⟩
   go_wp2_with fail
   go_ret
   exact ⟨by rw [HR.out];simp [d0],v,by rw [HD.out];exact HH.out.only ho1,ho1.of0,fun gg hgg => .inl hgg⟩
structure TS.Ok (t:TS):Prop where
 len:t.l.length ≤ 8
 ever:0 ≤ t.ever
 ids:∀ s ∈ t.l,1 ≤ s.id ∧ s.id ≤ t.ever
theorem ok_new:TS.Ok ⟨[],0⟩:=⟨by simp,by simp,fun s h => by cases h⟩
theorem regL_len {l:List Ses} (h:l.length ≤ 8) (x:Ses):(regL l x).length ≤ 8:=by
 unfold regL
 split
 · simp;omega
 · simp;omega
theorem regL_mem {l:List Ses} {x s:Ses} (h:s ∈ regL l x):s ∈ l ∨ s = x:=by
 unfold regL at h
 split at h
 · rcases List.mem_append.1 h with h | h
   · exact .inl (List.mem_of_mem_drop h)
   · exact .inr (by simpa using h)
 · rcases List.mem_append.1 h with h | h
   · exact .inl h
   · exact .inr (by simpa using h)
theorem ok_reg {t:TS} (h:t.Ok):TS.Ok ⟨regL t.l ⟨t.ever + 1,0,.empty⟩,t.ever + 1⟩:=by
 refine ⟨regL_len h.len _,by have:=h.ever;show 0 ≤ t.ever + 1;omega,fun s hs => ?_⟩
 have he:=h.ever
 rcases regL_mem hs with hs | rfl
 · have:=h.ids s hs
   exact ⟨this.1,by show s.id ≤ t.ever + 1;omega⟩
 · exact ⟨by show 1 ≤ t.ever + 1;omega,Int.le_refl _⟩
theorem fndS_id {l:List Ses} {id:Int} (h:fndS l id < l.length):∃ x,l[fndS l id]? = some x ∧ x.id = id:=by
 refine ⟨_,List.getElem?_eq_getElem h,?_⟩
 unfold fndS at h ⊢
 have:=List.findIdx_getElem (w:=h)
 simpa using this
theorem doneL_len {l:List Ses} (h:l.length ≤ 8) (id seq:Int) (r:ByteArray):(doneL l id seq r).length ≤ 8:=by
 unfold doneL
 split
 · rename_i h0
   obtain ⟨x,hx,hlt,_⟩:=askS_zero h0
   rw [List.length_append,List.length_eraseIdx_of_lt hlt];simp;omega
 · exact h
theorem doneL_mem {l:List Ses} {id seq:Int} {r:ByteArray} {s:Ses} (h:s ∈ doneL l id seq r):s ∈ l ∨ (s = ⟨id,seq,r⟩ ∧ ∃ x ∈ l,x.id = id):=by
 unfold doneL at h
 split at h
 · rename_i h0
   obtain ⟨x,hx,hlt,_⟩:=askS_zero h0
   rcases List.mem_append.1 h with h | h
   · exact .inl (List.mem_of_mem_eraseIdx h)
   · obtain ⟨y,hy,hyi⟩:=fndS_id hlt
     exact .inr ⟨by simpa using h,y,List.mem_of_getElem? hy,hyi⟩
 · exact .inl h
def TS.after (l:List Act):TS:=l.foldl TS.does ⟨[],0⟩
def Once (l:List Ses):Prop:=(l.map Ses.id).Nodup
theorem once_reg {t:TS} (h:t.Ok) (ho:Once t.l):Once (regL t.l ⟨t.ever + 1,0,.empty⟩):=by
 have hnew:∀ l':List Ses,(∀ s ∈ l',s ∈ t.l) → (l'.map Ses.id).Nodup → Once (l' ++ [⟨t.ever + 1,0,.empty⟩]):=by
  intro l' hsub hnd
  unfold Once
  rw [List.map_append,List.nodup_append]
  refine ⟨hnd,by simp,fun a ha b hb => ?_⟩
  obtain ⟨s,hs,rfl⟩:=List.mem_map.1 ha
  simp at hb
  subst hb
  have:=h.ids s (hsub s hs)
  omega
 unfold regL
 split
 · refine hnew _ (fun s hs => List.mem_of_mem_drop hs) ?_
   rw [List.map_drop]
   exact List.Nodup.sublist (List.drop_sublist _ _) ho
 · exact hnew _ (fun s hs => hs) ho
theorem erase_no {l:List Ses} (ho:Once l) {k:Nat} {x:Ses} (hx:l[k]? = some x):∀ s ∈ l.eraseIdx k,s.id ≠ x.id:=by
 intro s hs he
 obtain ⟨j,hj,hjs⟩:=List.mem_iff_getElem.1 hs
 obtain ⟨hk,hkx⟩:=List.getElem?_eq_some_iff.1 hx
 have hnd:(l.map Ses.id).Nodup:=ho
 rw [List.getElem_eraseIdx] at hjs
 have key:∀ i (hi:i < l.length),i ≠ k → l[i].id ≠ x.id:=by
  intro i hi hne heq
  have hp:=List.pairwise_iff_getElem.1 hnd
  rcases Nat.lt_or_gt_of_ne hne with h | h
  · refine hp i k (by simpa using hi) (by simpa using hk) h ?_
    rw [List.getElem_map,List.getElem_map,heq,hkx]
  · refine hp k i (by simpa using hk) (by simpa using hi) h ?_
    rw [List.getElem_map,List.getElem_map,heq,hkx]
 rw [List.length_eraseIdx_of_lt hk] at hj
 split at hjs
 · subst hjs
   exact key j (by omega) (by omega) he
 · subst hjs
   exact key (j + 1) (by omega) (by omega) he
theorem once_done {l:List Ses} (ho:Once l) (id seq:Int) (r:ByteArray):Once (doneL l id seq r):=by
 unfold doneL
 split
 · rename_i h0
   obtain ⟨x,hx,hlt,_⟩:=askS_zero h0
   obtain ⟨y,hy,hyi⟩:=fndS_id hlt
   have hno:=erase_no ho hy
   unfold Once
   rw [List.map_append,List.nodup_append]
   refine ⟨?_,by simp,fun a ha b hb => ?_⟩
   · exact List.Nodup.sublist ((List.eraseIdx_sublist _ _).map _) ho
   · obtain ⟨s,hs,rfl⟩:=List.mem_map.1 ha
     simp at hb
     subst hb
     rw [← hyi]
     exact hno s hs
 · exact ho
structure SesG (s:Ses):Prop where
 wide:Wide64 s.seq
 pos:0 ≤ s.seq
 size:s.reply.size ≤ 100000
 zero:s.seq = 0 → s.reply = .empty
def AllG (t:TS):Prop:=∀ s ∈ t.l,SesG s
theorem g_new:AllG ⟨[],0⟩:=fun s h => by cases h
theorem g_reg {l:List Ses} (h:∀ s ∈ l,SesG s) (ever:Int):∀ s ∈ regL l ⟨ever,0,.empty⟩,SesG s:=fun s hs => by
 rcases regL_mem hs with h1 | rfl
 · exact h s h1
 · exact ⟨⟨by simp,by simp⟩,by simp,by simp,fun _ => rfl⟩
theorem g_done {l:List Ses} (h:∀ s ∈ l,SesG s) (id seq:Int) (r:ByteArray) (hw:Wide64 seq) (hr:r.size ≤ 100000):∀ s ∈ doneL l id seq r,SesG s:=fun s hs => by
 unfold doneL at hs
 split at hs
 · rename_i h0
   obtain ⟨x,_,_,_,h1,_⟩:=askS_zero h0
   rcases List.mem_append.1 hs with h2 | h2
   · exact h s (List.mem_of_mem_eraseIdx h2)
   · simp at h2
     subst h2
     exact ⟨hw,by show 0 ≤ seq;omega,hr,fun e => by have:seq = 0:=e;omega⟩
 · exact h s hs
theorem g_fit {t:TS} (hk:t.Ok) (h:AllG t) (he:t.ever ≤ 1000000000000):∀ s ∈ t.l,s.Fit:=fun s hs => by
 have h1:=hk.ids s hs
 have h2:=h s hs
 exact ⟨⟨by omega,by omega⟩,h2.wide,Nat.le_trans h2.size (by omega)⟩
theorem ask_kind (l:List Ses) (id seq:Int):0 ≤ (askS l id seq).1 ∧ (askS l id seq).1 ≤ 3 ∧ ((askS l id seq).1 ≠ 1 → (askS l id seq).2 = .empty):=by
 unfold askS
 split
 · simp
 · split
   · simp
   · split <;> simp
theorem own_own_ne {w:World} {B B':Nat} {e e':TypeId} {sz sz' n n':Nat} {v v':Value} {xs xs':List Value} (h:w.ownsRow B e sz v n xs) (h':w.ownsRow B' e' sz' v' n' xs') (hne:e ≠ e') {g:Nat} (hg:v.ownBlock = some g):v'.ownBlock ≠ some g:=by
 intro hg'
 rcases h.2 with ⟨rfl,_⟩ | ⟨g1,cap,cur,rfl,_,hh,_⟩
 · simp [Value.ownBlock] at hg
 · rcases h'.2 with ⟨rfl,_⟩ | ⟨g2,cap2,cur2,rfl,_,hh2,_⟩
   · simp [Value.ownBlock] at hg'
   · simp only [Value.ownBlock,Option.some.injEq] at hg hg'
     subst hg;subst hg'
     rw [hh] at hh2
     injection hh2 with h1
     injection h1 with _ h2
     exact hne h2
theorem RtV.past {w w':World} {B B' b b':Nat} {v v':Value} {l l':List Ses} {ever ever':Int} (h:RtV w B' b' v' l' ever') (ht:TbV w B b v l ever) (ho:Only (b :: rb v) w w'):RtV w' B' b' v' l' ever':=by
 obtain ⟨h1,h2,h3⟩:=h
 obtain ⟨t1,t2,t3⟩:=ht
 refine ⟨h1,h2.only ho fun hm => ?_,own_keep h3 ho fun x hx => ?_⟩
 · rcases List.mem_cons.1 hm with e | hm
   · exact (h2.ne t2 (by decide)) e
   · exact own_ne_block t3 h2 (by decide) (by simpa [rb] using hm)
 · rcases List.mem_cons.1 hx with rfl | hx
   · exact own_ne_block h3 t2 (by decide)
   · exact own_own_ne t3 h3 (by decide) (by simpa [rb] using hx)
theorem TbV.past {w w':World} {B B' b b':Nat} {v v':Value} {l l':List Ses} {ever ever':Int} (ht:TbV w B b v l ever) (h:RtV w B' b' v' l' ever') (ho:Only [b'] w w'):TbV w' B b v l ever:=by
 obtain ⟨h1,h2,h3⟩:=h
 obtain ⟨t1,t2,t3⟩:=ht
 refine ⟨t1,t2.only ho fun hm => ?_,own_keep t3 ho fun x hx => ?_⟩
 · rw [List.mem_singleton] at hm
   exact (t2.ne h2 (by decide)) hm
 · rw [List.mem_singleton] at hx
   subst hx
   exact own_ne_block t3 h2 (by decide)
end Go.Proofs.YtcjfmildalappaaGreat.S15
