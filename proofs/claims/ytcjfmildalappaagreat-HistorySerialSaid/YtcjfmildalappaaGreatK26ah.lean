/-
  Contracts; each theorem bears its own conditions.
-/
import Derived.Lib.FieldsP
import Derived.Lib.MapLaws
import Derived.Lib.Join
import Derived.Test.YtcjfmildalappaaGreatRows
import Derived.Laws.IdiomStrings
import Derived.Maps.OwnSet
import Derived.Maps.Ext
import Derived.Sort.KeysCollected
import Derived.WideKeyEntry
import Derived.StringKeys
import Derived.Test.YtcjfmildalappaaGreatK26aa
import Derived.Test.YtcjfmildalappaaGreatK26ab
import Derived.Test.YtcjfmildalappaaGreatK26ac
set_option linter.all false
set_option maxRecDepth 100000
set_option maxHeartbeats 8000000
namespace Go.Proofs.YtcjfmildalappaaGreat
open Go.RowKit Go.Lib
def blank (b:UInt8):Bool:=b == 32 || b == 9 || b == 10 || b == 13
def blankR (r:Nat):Bool:=r == 32 || r == 9 || r == 10 || r == 13
theorem blank_nat (b:UInt8):blank b = blankR b.toNat:=by
 unfold blank blankR
 rw [Bool.eq_iff_iff]
 simp only [Bool.or_eq_true,beq_iff_eq,← UInt8.toNat_inj]
 rfl
theorem blankR_high {r:Nat} (h:128 ≤ r):blankR r = false:=by
 unfold blankR
 simp only [Bool.or_eq_false_iff,beq_eq_false_iff_ne]
 omega
def fieldsB:Option (List UInt8) → List UInt8 → List (List UInt8)
 | cur,[] => cur.toList
 | cur,b :: r => if blank b then cur.toList ++ fieldsB none r else fieldsB (some (cur.getD [] ++ [b])) r
theorem fieldsB_run (u:List UInt8):∀ (cur:Option (List UInt8)) (r:List UInt8),(∀ b ∈ u,blank b = false) → u ≠ [] → fieldsB cur (u ++ r) = fieldsB (some (cur.getD [] ++ u)) r:=by
 induction u with
 | nil => intro _ _ _ h;exact absurd rfl h
 | cons b u ih =>
  intro cur r h _
  have hb:=h b (by simp)
  rw [List.cons_append,fieldsB,if_neg (by simp [hb])]
  cases u with
  | nil => rfl
  | cons c u =>
   rw [ih _ r (fun x hx => h x (List.mem_cons_of_mem _ hx)) (by simp)]
   simp
theorem get_list (l:List UInt8) (i:Nat):(⟨l.toArray⟩:ByteArray).get! i = l.getD i 0:=by
 show l.toArray[i]! = _
 rw [List.getElem!_toArray,List.getElem!_eq_getElem?_getD,List.getD_eq_getElem?_getD]
 rfl
theorem dec_step (l:List UInt8) (pos:Nat) (h:pos < l.length):∃ r n,Utf8.decode ⟨l.toArray⟩ pos = (r,n) ∧ blank l[pos] = blankR r ∧ 1 ≤ n ∧ pos + n ≤ l.length ∧ (blankR r = true → n = 1) ∧ ∀ j,j < n → 0 < j → blank (l.getD (pos + j) 0) = false:=by
 rw [decode_at]
 have e0:(⟨l.toArray⟩:ByteArray).get! pos = l[pos]:=by rw [get_list];simp [List.getD_eq_getElem?_getD,List.getElem?_eq_getElem h]
 rw [e0,get_list,get_list,get_list,str_size]
 have hb:=blank_nat l[pos]
 have hb8:=l[pos].toNat_lt
 have hh:∀ c:UInt8,c.toNat / 64 = 2 → blank c = false:=fun c hc => by rw [blank_nat];exact blankR_high (by omega)
 by_cases h0:l[pos].toNat < 128
 · refine ⟨l[pos].toNat,1,?_,hb,Nat.le_refl _,by omega,fun _ => rfl,fun j h1 h2 => by omega⟩
   unfold decodeN
   rw [if_pos h0]
 · have hbf:blank l[pos] = false:=by rw [hb];exact blankR_high (by omega)
   rcases decodeN_shape (l.length - pos) l[pos].toNat (l.getD (pos + 1) 0).toNat (l.getD (pos + 2) 0).toNat (l.getD (pos + 3) 0).toNat with ⟨c,e⟩ | ⟨c1,c2,c3,cv,e⟩ | ⟨c1,c2,c3,c4,cv,cs,e⟩ | ⟨c1,c2,c3,c4,c5,cv,cw,e⟩ | e
   · omega
   · have hr:=blankR_high cv
     refine ⟨_,2,e,by rw [hbf,hr],by omega,by omega,fun h => (by rw [hr] at h;cases h),fun j h1 h2 => ?_⟩
     obtain rfl:j = 1:=by omega
     exact hh _ c3
   · have hr:=blankR_high (Nat.le_trans (by omega:128 ≤ 2048) cv)
     refine ⟨_,3,e,by rw [hbf,hr],by omega,by omega,fun h => (by rw [hr] at h;cases h),fun j h1 h2 => ?_⟩
     have:j = 1 ∨ j = 2:=by omega
     rcases this with rfl | rfl
     · exact hh _ c3
     · exact hh _ c4
   · have hr:=blankR_high (Nat.le_trans (by omega:128 ≤ 65536) cv)
     refine ⟨_,4,e,by rw [hbf,hr],by omega,by omega,fun h => (by rw [hr] at h;cases h),fun j h1 h2 => ?_⟩
     have:j = 1 ∨ j = 2 ∨ j = 3:=by omega
     rcases this with rfl | rfl | rfl
     · exact hh _ c3
     · exact hh _ c4
     · exact hh _ c5
   · have hr:blankR 65533 = false:=rfl
     exact ⟨_,1,e,by rw [hbf,hr],Nat.le_refl _,by omega,fun h => rfl,fun j h1 h2 => by omega⟩
theorem extr (l:List UInt8) (a b:Nat):(⟨l.toArray⟩:ByteArray).extract a b = ⟨((l.drop a).take (b - a)).toArray⟩:=by
 apply ByteArray.ext
 simp [List.extract_eq_take_drop]
theorem spans_eq (l:List UInt8):∀ (f pos:Nat) (st:Option Nat) (acc:List (Nat × Nat)),pos ≤ l.length → l.length - pos ≤ f → (∀ a,st = some a → a ≤ pos) →
 (closeSpans ⟨l.toArray⟩ (spansFromP blankR ⟨l.toArray⟩ f pos st acc)).map (fun x => (l.drop x.1).take (x.2 - x.1)) = acc.map (fun x => (l.drop x.1).take (x.2 - x.1)) ++ fieldsB (st.map fun a => (l.drop a).take (pos - a)) (l.drop pos):=by
 intro f
 induction f with
 | zero =>
  intro pos st acc h1 h2 h3
  have he:l.drop pos = []:=List.drop_eq_nil_of_le (by omega)
  rw [he]
  cases st with
  | none => simp [spansFromP,closeSpans,fieldsB]
  | some a =>
   have:pos = l.length:=by omega
   simp [spansFromP,closeSpans,fieldsB,str_size,this]
 | succ f ih =>
  intro pos st acc h1 h2 h3
  by_cases hlt:pos < l.length
  · obtain ⟨r,n,hd,hb,hn1,hn2,hn3,hrest⟩:=dec_step l pos hlt
    unfold spansFromP
    rw [str_size,if_pos hlt,hd]
    dsimp only
    have hdr:=List.drop_eq_getElem_cons hlt
    by_cases hp:blankR r = true
    · have hn:=hn3 hp
      subst hn
      rw [if_pos hp]
      have hfb:∀ cur,fieldsB cur (l.drop pos) = cur.toList ++ fieldsB none (l.drop (pos + 1)):=fun cur => by rw [hdr,fieldsB,if_pos (by rw [hb];exact hp)]
      cases st with
      | none =>
       dsimp only
       rw [ih _ _ _ hn2 (by omega) (fun a h => by cases h),hfb]
       rfl
      | some a =>
       dsimp only
       rw [ih _ _ _ hn2 (by omega) (fun a h => by cases h),hfb]
       simp
    · rw [if_neg hp]
      have hp:blankR r = false:=by simpa using hp
      have hu:l.drop pos = (l.drop pos).take n ++ l.drop (pos + n):=by rw [← List.drop_drop,List.take_append_drop]
      have hall:∀ b ∈ (l.drop pos).take n,blank b = false:=by
       intro b hbm
       obtain ⟨j,hj,rfl⟩:=List.getElem_of_mem hbm
       have hjn:j < n:=by rw [List.length_take] at hj;omega
       have hjl:pos + j < l.length:=by omega
       rw [List.getElem_take,List.getElem_drop]
       by_cases hj0:j = 0
       · subst hj0;simpa [hp] using hb
       · have:=hrest j hjn (by omega)
         rw [List.getD_eq_getElem?_getD,List.getElem?_eq_getElem hjl] at this
         exact this
      have hne:(l.drop pos).take n ≠ []:=fun h => by
       have:=congrArg List.length h
       rw [List.length_take,List.length_drop,List.length_nil] at this
       omega
      have hfb:∀ cur,fieldsB cur (l.drop pos) = fieldsB (some (cur.getD [] ++ (l.drop pos).take n)) (l.drop (pos + n)):=fun cur => by
       conv => lhs;rw [hu]
       exact fieldsB_run _ cur _ hall hne
      cases st with
      | none =>
       dsimp only
       rw [ih _ _ _ hn2 (by omega) (fun a h => by cases h;omega),hfb]
       simp
      | some a =>
       have ha:=h3 a rfl
       dsimp only
       rw [ih _ _ _ hn2 (by omega) (fun a' h => by cases h;omega),hfb]
       simp only [Option.map_some,Option.getD_some]
       rw [show pos + n - a = (pos - a) + n from by omega,List.take_add,List.drop_drop,show a + (pos - a) = pos from by omega]
  · have he:l.drop pos = []:=List.drop_eq_nil_of_le (by omega)
    rw [spansFromP_end _ _ _ _ _ _ (by rw [str_size];exact hlt),he]
    cases st with
    | none => simp [closeSpans,fieldsB]
    | some a =>
     have:pos = l.length:=by omega
     simp [closeSpans,fieldsB,str_size,this]
def sq (l:List UInt8):List UInt8:=Lib.join (fieldsB none l) [32]
theorem fields_eq (l:List UInt8):(goFieldsP blankR ⟨l.toArray⟩).map (fun x => x.data.toList) = fieldsB none l:=by
 have:=spans_eq l l.length 0 none [] (Nat.zero_le _) (by omega) (fun a h => by cases h)
 simp only [List.map_nil,List.nil_append,Option.map_none,dr0] at this
 rw [← this]
 unfold goFieldsP spansOfP
 rw [List.map_map,str_size]
 apply List.map_congr_left
 intro x _
 show ((⟨l.toArray⟩:ByteArray).extract x.1 x.2).data.toList = _
 rw [extr]
def sqStep (s:List UInt8 × Bool) (c:UInt8):List UInt8 × Bool:=
 if blank c then (s.1,decide (0 < s.1.length)) else (if s.2 then s.1 ++ [32] ++ [c] else s.1 ++ [c],false)
theorem join_snoc (xs:List (List UInt8)) (x:List UInt8) (h:xs ≠ []) (sep:List UInt8):Lib.join (xs ++ [x]) sep = Lib.join xs sep ++ sep ++ x:=by
 obtain ⟨y,r,rfl⟩:=List.exists_cons_of_ne_nil h
 rw [List.cons_append,Lib.join_cons,Lib.join_cons]
 unfold Lib.joinTail
 simp
theorem join_grow (xs:List (List UInt8)) (x y:List UInt8) (sep:List UInt8):Lib.join (xs ++ [x ++ y]) sep = Lib.join (xs ++ [x]) sep ++ y:=by
 cases xs with
 | nil => simp [Lib.join_one]
 | cons a r => rw [join_snoc _ _ (by simp),join_snoc _ _ (by simp)];simp only [List.append_assoc]
theorem sq_steps:∀ (r:List UInt8) (F:List (List UInt8)) (cur:Option (List UInt8)) (s:List UInt8 × Bool),(∀ x ∈ F,x ≠ []) → (∀ x,cur = some x → x ≠ []) → s.1 = Lib.join (F ++ cur.toList) [32] → s.2 = (cur.isNone && !F.isEmpty) →
 (r.foldl sqStep s).1 = Lib.join (F ++ fieldsB cur r) [32]:=by
 intro r
 induction r with
 | nil => intro F cur s _ _ h _;simpa [fieldsB] using h
 | cons c r ih =>
  intro F cur s hF hc h1 h2
  rw [List.foldl_cons]
  have hpos:∀ G:List (List UInt8),G ≠ [] → (∀ x ∈ G,x ≠ []) → 0 < (Lib.join G [32]).length:=fun G hG hne => by
   obtain ⟨y,t,rfl⟩:=List.exists_cons_of_ne_nil hG
   rw [Lib.join_cons,List.length_append]
   have:=List.length_pos_iff.2 (hne y (by simp))
   omega
  by_cases hb:blank c = true
  · unfold sqStep
    rw [if_pos hb,fieldsB,if_pos hb,← List.append_assoc]
    have hne:∀ x ∈ F ++ cur.toList,x ≠ []:=fun x hx => by
     rcases List.mem_append.1 hx with hx | hx
     · exact hF x hx
     · exact hc x (by simpa using hx)
    refine ih (F ++ cur.toList) none _ hne (fun x hx => by cases hx) (by simpa using h1) ?_
    dsimp only
    rw [h1]
    by_cases he:F ++ cur.toList = []
    · rw [he];simp [Lib.join_nil]
    · have:=hpos _ he hne
      simp only [Option.isNone_none,Bool.true_and]
      cases hE:(F ++ cur.toList) with
      | nil => exact absurd hE he
      | cons a t => rw [hE] at this;simpa using this
  · have hb':blank c = false:=by simpa using hb
    unfold sqStep
    rw [if_neg hb,fieldsB,if_neg hb]
    refine ih F (some (cur.getD [] ++ [c])) _ hF (fun x hx => by cases hx;simp) ?_ (by simp)
    dsimp only
    rw [h2,h1]
    cases cur with
    | some x =>
     simp only [Option.isNone_some,Bool.false_and,Bool.false_eq_true,if_false,Option.toList_some,Option.getD_some]
     exact (join_grow F x [c] [32]).symm
    | none =>
     cases F with
     | nil => simp [Lib.join_nil,Lib.join_one]
     | cons a t =>
      simp only [Option.isNone_none,List.isEmpty_cons,Bool.not_false,Bool.and_true,if_true,Option.toList_none,List.append_nil,Option.toList_some,Option.getD_none,List.nil_append]
      exact (join_snoc _ _ (by simp) _).symm
theorem sq_doc (l:List UInt8):(l.foldl sqStep ([],false)).1 = sq l:=by
 have:=sq_steps l [] none ([],false) (by simp) (by simp) rfl rfl
 simpa [sq] using this
end Go.Proofs.YtcjfmildalappaaGreat
namespace Go.Proofs.YtcjfmildalappaaGreat
open Go.RowKit
theorem sq_len (l:List UInt8):(sq l).length ≤ 2 * l.length:=by
 rw [← sq_doc]
 have:∀ (r:List UInt8) (s:List UInt8 × Bool),(r.foldl sqStep s).1.length ≤ s.1.length + 2 * r.length:=by
  intro r
  induction r with
  | nil => intro s;simp
  | cons c r ih =>
   intro s
   rw [List.foldl_cons]
   have h1:=ih (sqStep s c)
   have h2:(sqStep s c).1.length ≤ s.1.length + 2:=by
    unfold sqStep
    split
    · show s.1.length ≤ _;omega
    · show (if s.2 = true then s.1 ++ [32] ++ [c] else s.1 ++ [c]).length ≤ _;split <;> simp
   simp only [List.length_cons]
   omega
 simpa using this l ([],false)
theorem toNat_byte17 (x:Nat) (h:x < 256):(UInt8.ofNat x).toNat = x:=by
 rw [UInt8.toNat_ofNat'];omega
theorem index_blank (b:UInt8):Lib.indexByte [32,9,10,13] b < 0 ↔ blank b = false:=by
 unfold blank
 by_cases h0:b = 32
 · subst h0;decide
 by_cases h1:b = 9
 · subst h1;decide
 by_cases h2:b = 10
 · subst h2;decide
 by_cases h3:b = 13
 · subst h3;decide
 have e:∀ k:UInt8,¬ b = k → ¬ k = b:=fun k h e => h e.symm
 simp [Lib.indexByte,h0,h1,h2,h3,e 32 h0,e 9 h1,e 10 h2,e 13 h3]
theorem squeeze1 (x:Nat) (hx:x ≤ 1114111) (W:World):Calls Tryz.prog 208 #[.int .i32 x] W fun e w' => e = .returned (.bool (blankR x)) ∧ w' = W:=by
 by_cases h:x < 128
 · have d1:decide ((x:Int) < 128) = true:=by simp;omega
   have hb:((UInt8.ofNat x).toNat:Int) = x:=by rw [toNat_byte17 _ (by omega)]
   have hbl:=blank_nat (UInt8.ofNat x)
   rw [toNat_byte17 _ (by omega)] at hbl
   have CI:=Hd (fun w' => Tryz.strings_IndexByte ⟨#[32,9,10,13]⟩ x w')
   go_enter Tryz.func208,Tryz.ntmps208
   go_wp2_with fail
   refine (CI.out _).mono ?_
   rintro e w' ⟨rfl,rfl⟩
   have hI:=index_blank (UInt8.ofNat x)
   rw [hbl] at hI
   rw [show ((x:Int)).toNat.toUInt8 = UInt8.ofNat x from rfl]
   obtain ⟨I,hIe⟩:∃ I,Lib.indexByte [32,9,10,13] (UInt8.ofNat x) = I:=⟨_,rfl⟩
   rw [hIe] at hI ⊢
   have hd:decide (0 ≤ I) = blankR x:=by
    cases hb:blankR x with
    | true => rw [hb] at hI;have:¬ I < 0:=fun h => by cases hI.1 h
              simp;omega
    | false => rw [hb] at hI;have:I < 0:=hI.2 rfl
               simp;omega
   clear hI hIe hbl hb
   go_wp2_with fail
   go_ret
   exact ⟨by rw [← hd];rfl,rfl⟩
 · have d1:decide ((x:Int) < 128) = false:=by simp;omega
   have hr:=blankR_high (r:=x) (by omega)
   go_enter Tryz.func208,Tryz.ntmps208
   go_wp2_with fail
   go_ret
   exact ⟨by rw [hr];rfl,rfl⟩
theorem fieldsB_len:∀ (l:List UInt8) (cur:Option (List UInt8)),(fieldsB cur l).length ≤ l.length + cur.toList.length:=by
 intro l
 induction l with
 | nil => intro cur;simp [fieldsB]
 | cons b r ih =>
  intro cur
  unfold fieldsB
  split
  · have:=ih none
    rw [List.length_append]
    simp at this ⊢
    omega
  · have:=ih (some (cur.getD [] ++ [b]))
    simp at this ⊢
    omega
theorem enters_sq:∀ args w,(callFunc 208 args).run Tryz.prog w = .ok (.enter 208 args) w:=fun args w => enters_of Tryz.func208 (by kernel_rfl) rfl args w
theorem tree_squeeze (l:List UInt8) (w:World) (hl:l.length ≤ 4294967296):
 Calls Tryz.prog 144 #[.string ⟨l.toArray⟩] w fun e w' => e = .returned (.string ⟨(sq l).toArray⟩) ∧ Only [] w w':=by
 have hp:PredAtRunes Tryz.prog 208 #[] blankR w:=fun W x hx _ => (squeeze1 x hx W).mono fun e w' ⟨h1,h2⟩ => ⟨h1,0,h2⟩
 have CF:=Hd (Tryz.strings_FieldsFunc_runes 208 #[] enters_sq blankR ⟨l.toArray⟩ w hl hp)
 have hfe:=fields_eq l
 obtain ⟨xs,hxs⟩:∃ xs,Lib.goFieldsP blankR ⟨l.toArray⟩ = xs:=⟨_,rfl⟩
 rw [hxs] at CF hfe
 have hjn:Lib.join (xs.map (·.data.toList)) [32] = sq l:=by rw [hfe];rfl
 have hsl:=sq_len l
 have hxl:xs.length ≤ l.length + 0:=by rw [← List.length_map (f:=fun x:ByteArray => x.data.toList),hfe];exact fieldsB_len l none
 clear hp hxs hfe
 go_enter Tryz.func144,Tryz.ntmps144
 go_wp2_with fail
 refine CF.out.mono ?_
 rintro e w1 ⟨A,rfl,hA,hown,hb⟩
 have HB:=Hd (Only.of_below (S:=[]) hb)
 have hcells:∀ (j:Nat) x,xs[j]? = some x → w1.cell? ⟨A,0 + j,none⟩ = some (.string x):=fun j x hx => by
  have:=hown.cells (g:=A) rfl j (.string x) (by rw [List.getElem?_map,hx];rfl)
  rw [Addr.add_lit] at this
  exact this
 have hAl:=(hown.lt A rfl).2
 have hN:xs.length ≤ 140737488355328:=by omega
 have CJ:=Hd (Tryz.strings_Join A 0 xs.length xs ⟨#[32]⟩ w1 hcells hAl hN (Nat.le_refl _) (by rw [show (⟨#[32]⟩:ByteArray).data.toList = [32] from rfl,hjn];omega))
 rw [show (⟨#[32]⟩:ByteArray).data.toList = [32] from rfl,hjn] at CJ
 clear hcells hown hb
 go_wp2_with fail
 refine CJ.out.mono ?_
 rintro e w2 ⟨rfl,hb2⟩
 have HB2:=Hd (HB.out.tr (Only.of_below (S:=[]) hb2))
 go_wp2_with fail
 go_ret
 exact ⟨rfl,HB2.out⟩
theorem ref12_blank (b:UInt8) (w:World):Calls Tryz.prog 242 #[.int .u8 b.toNat] w fun e w' => e = .returned (.bool (blank b)) ∧ w = w':=by
 have hb:=blank_nat b
 have hb8:=b.toNat_lt
 unfold blankR at hb
 obtain ⟨n,hn⟩:∃ n,b.toNat = n:=⟨_,rfl⟩
 rw [hn] at hb hb8 ⊢
 by_cases h0:n = 32
 · subst h0
   go_enter Tryz.func242,Tryz.ntmps242
   go_wp2_with fail
   go_ret
   exact ⟨by rw [hb];rfl,rfl⟩
 by_cases h1:n = 9
 · subst h1
   go_enter Tryz.func242,Tryz.ntmps242
   go_wp2_with fail
   go_ret
   exact ⟨by rw [hb];rfl,rfl⟩
 by_cases h2:n = 10
 · subst h2
   go_enter Tryz.func242,Tryz.ntmps242
   go_wp2_with fail
   go_ret
   exact ⟨by rw [hb];rfl,rfl⟩
 have d0:((n:Int) == 32) = false:=by simp;omega
 have d1:((n:Int) == 9) = false:=by simp;omega
 have d2:((n:Int) == 10) = false:=by simp;omega
 have hb3:blank b = ((n:Int) == 13):=by
  rw [hb,Bool.eq_iff_iff];simp;omega
 obtain ⟨z,hz⟩:∃ z,blank b = z:=⟨_,rfl⟩
 rw [hz] at hb3 ⊢
 clear hb hz
 go_enter Tryz.func242,Tryz.ntmps242
 go_wp2_with fail
 go_ret
 exact ⟨by rw [hb3];rfl,rfl⟩
theorem conv_row_back {w:World} {B:Nat} {l:List UInt8} {A:Option Addr} {c:Nat} (h:w.ownsRow B 5 1 (.slice A l.length c) l.length (bytes l)):
 (convert 61 9 (.slice A l.length c)).run Tryz.prog w = .ok (.string ⟨l.toArray⟩) w:=by
 rcases h.2 with ⟨h1,h2⟩ | ⟨g,cap,cur,hv,_⟩
 · injection h1 with e1 e2 e3
   subst e1 e3
   obtain rfl:l = []:=List.eq_nil_of_length_eq_zero h2
   kernel_rfl
 · injection hv with e1 e2 e3
   subst e1 e3
   refine run_convert_bytes_back _ _ _ _ _ _ l Tryz.underlying61 Tryz.underlying5 Tryz.underlying9 fun j hj => ?_
   exact h.cells (g:=g) rfl j (.int .u8 (l[j].toNat:Int)) (by unfold bytes;rw [List.getElem?_map,List.getElem?_eq_getElem hj];rfl)
theorem ref12_squeeze (l:List UInt8) (w:World) (hl:l.length ≤ 4294967296):
 Calls Tryz.prog 213 #[.string ⟨l.toArray⟩] w fun e w' => e = .returned (.string ⟨(sq l).toArray⟩) ∧ Only [] w w':=by
 obtain ⟨i0,hi,hz0,hz1,hz2⟩:=info_parts info_byte
 have hdoc:=Hd (sq_doc l)
 have CB:=Hd (fun b w' => ref12_blank b w')
 go_enter Tryz.func213,Tryz.ntmps213
 go_wp2_with fail
 go_loopw [3,4,5] (fun v g i wr => ∃ (k:Nat) (st:List UInt8 × Bool),k ≤ l.length ∧ i = .int .i64 k ∧ Hid ((l.take k).foldl sqStep ([],false) = st) ∧ st.1.length ≤ 2 * k ∧ g = .bool st.2 ∧ wr.ownsRow w.heap.size 5 1 v st.1.length (bytes st.1) ∧ Only [] w wr) (fun _ _ i _ => l.length - (intOf i).toNat)
 case atStart => exact ⟨0,([],false),by omega,rfl,Hd rfl,by simp,rfl,World.ownsRow_nil _ _ _ _,Only.refl _ _⟩
 case round =>
  obtain ⟨k,⟨b,g⟩,hk,rfl,hst,hsl,rfl,hown,ho⟩:=hrel
  have hsl:b.length ≤ 2 * k:=hsl
  have hown:wr.ownsRow w.heap.size 5 1 u3 b.length (bytes b):=hown
  have hbl:=bytes_length b
  have hsz1:w.heap.size ≤ wr.heap.size:=ho.size
  obtain ⟨VA,vc,rfl⟩:=(SlAt.of_own hown).shape
  by_cases hlt:k < l.length
  · have hlt':decide ((k:Int) < (l.length:Int)) = true:=by simp;omega
    have hk1:=List.getElem?_eq_getElem hlt
    obtain ⟨c,hc⟩:∃ c,l[k] = c:=⟨_,rfl⟩
    rw [hc] at hk1
    have hix:∀ h:k < (⟨l.toArray⟩:ByteArray).size,(⟨l.toArray⟩:ByteArray)[k]'h = c:=fun _ => hc
    have hc8:=c.toNat_lt
    have HT:Hid ((l.take (k + 1)).foldl sqStep ([],false) = sqStep (b,g) c):=by
     show _ = _
     rw [List.take_add_one,hk1,List.foldl_append,hst.out];rfl
    clear hc hk1 hst
    go_wp2_with fail
    refine (CB.out c _).mono ?_
    rintro e w1 ⟨rfl,rfl⟩
    cases hb:blank c with
    | true =>
     have HT2:Hid ((l.take (k + 1)).foldl sqStep ([],false) = (b,decide (0 < b.length))):=by
      show _ = _
      rw [HT.out];unfold sqStep;rw [if_pos hb]
     have hdl:decide (0 < (b.length:Int)) = decide (0 < b.length):=by rw [Bool.eq_iff_iff];simp
     obtain ⟨z,hz⟩:∃ z,decide (0 < b.length) = z:=⟨_,rfl⟩
     rw [hz] at HT2 hdl
     clear hb HT
     go_wp2_with fail
     go_roundw
     case rel => exact ⟨k + 1,(b,z),by omega,by go_num,HT2,by show b.length ≤ _;omega,by first | rfl | (rw [hz]),hown,ho⟩
     case measure => simp [intOf];omega
    | false =>
     cases g with
     | false =>
      have HT2:Hid ((l.take (k + 1)).foldl sqStep ([],false) = (b ++ [c],false)):=by
       show _ = _
       rw [HT.out];unfold sqStep;rw [if_neg (by rw [hb];simp)];rfl
      clear hb HT
      go_wp2_with (at_builtin;go_loud (refine wpList_app rfl _ _ 61 rfl w.heap.size 5 i0 (.int .u8 0) 1 1 Tryz.underlying61 hi hz0 hz1 hz2 rfl (by decide) wr (.slice VA b.length vc) b.length (bytes b) rfl hown 1 1 [.int .u8 (c.toNat:Int)] rfl rfl (by simp [Value.oneCell']) (by unfold maxLen;omega) (by omega) hsz1 ?_))
      intro v' w2 hown' hgrow _
      go_wp2_with fail
      go_roundw
      case rel => exact ⟨k + 1,(b ++ [c],false),by omega,by go_num,HT2,by show (b ++ [c]).length ≤ _;simp;omega,rfl,by rw [List.length_append,bytes_append];exact hown',(ho.own hown hgrow (Nat.le_refl _))⟩
      case measure => simp [intOf];omega
     | true =>
      have HT2:Hid ((l.take (k + 1)).foldl sqStep ([],false) = (b ++ [32] ++ [c],false)):=by
       show _ = _
       rw [HT.out];unfold sqStep;rw [if_neg (by rw [hb];simp)];rfl
      clear hb HT
      go_wp2_with (at_builtin;go_loud (refine wpList_app rfl _ _ 61 rfl w.heap.size 5 i0 (.int .u8 0) 1 1 Tryz.underlying61 hi hz0 hz1 hz2 rfl (by decide) wr (.slice VA b.length vc) b.length (bytes b) rfl hown 1 1 [.int .u8 32] rfl rfl (by simp [Value.oneCell']) (by unfold maxLen;omega) (by omega) hsz1 ?_))
      intro v' w2 hown' hgrow _
      have hsz2:=(ho.own hown hgrow (Nat.le_refl _)).size
      obtain ⟨VB,vd,rfl⟩:=(SlAt.of_own hown').shape
      go_wp2_with (at_builtin;go_loud (refine wpList_app rfl _ _ 61 rfl w.heap.size 5 i0 (.int .u8 0) 1 1 Tryz.underlying61 hi hz0 hz1 hz2 rfl (by decide) w2 (.slice VB (b.length + 1) vd) (b.length + 1) (bytes b ++ [.int .u8 32]) rfl hown' 1 1 [.int .u8 (c.toNat:Int)] rfl rfl (by simp [Value.oneCell']) (by unfold maxLen;omega) (by omega) hsz2 ?_))
      intro v3 w3 hown3 hgrow3 _
      go_wp2_with fail
      go_roundw
      case rel => exact ⟨k + 1,(b ++ [32] ++ [c],false),by omega,by go_num,HT2,by show (b ++ [32] ++ [c]).length ≤ _;simp;omega,rfl,by rw [List.length_append,List.length_append,bytes_append,bytes_append,List.append_assoc];exact hown3,((ho.own hown hgrow (Nat.le_refl _)).own hown' hgrow3 (Nat.le_refl _))⟩
      case measure => simp [intOf];omega
  · have hlt':decide ((k:Int) < (l.length:Int)) = false:=by simp;omega
    obtain rfl:k = l.length:=by omega
    have hR:b = sq l:=by
     have:=hst.out
     rw [List.take_length] at this
     rw [← hdoc.out,this]
    have hcv:(convert 61 9 (.slice VA b.length vc)).run Tryz.prog wr = .ok (.string ⟨b.toArray⟩) wr:=conv_row_back hown
    clear hst
    subst hR
    go_wp2_with fail
    go_ret
    exact ⟨rfl,ho⟩
structure It where
 id:List UInt8
 ti:List UInt8
 li:List UInt8
def It.cells (x:It):List Value:=[.string ⟨x.id.toArray⟩,.string ⟨x.ti.toArray⟩,.string ⟨x.li.toArray⟩]
structure It.Len (x:It):Prop where
 id:x.id.length ≤ maxLen
 ti:x.ti.length ≤ maxLen
 li:x.li.length ≤ maxLen
def bad1 (s:List UInt8):Bool:=decide (200 < s.length) || !(sq s == s)
def itR (x:It):Bool:=!x.id.isEmpty && !([x.id,x.ti,x.li].any bad1)
theorem right1 (s:List UInt8) (w:World) (hs:s.length ≤ maxLen):Calls Tryz.prog 143 #[.string ⟨s.toArray⟩] w fun e w' => e = .returned (.bool (bad1 s)) ∧ Only [] w w':=by
 unfold maxLen at hs
 by_cases h:200 < s.length
 · have d1:decide ((200:Int) < (s.length:Int)) = true:=by simp;omega
   have hb:bad1 s = true:=by unfold bad1;rw [decide_eq_true h];rfl
   go_enter Tryz.func143,Tryz.ntmps143
   go_wp2_with fail
   go_ret
   exact ⟨by rw [hb];rfl,Only.refl _ _⟩
 · have d1:decide ((200:Int) < (s.length:Int)) = false:=by simp;omega
   have hb:bad1 s = !(sq s == s):=by unfold bad1;rw [decide_eq_false h];rfl
   have C:=Hd (fun w' => tree_squeeze s w' (by omega))
   obtain ⟨q,hq⟩:∃ q,sq s = q:=⟨_,rfl⟩
   rw [hq] at hb C
   have HB:=Hd hb
   clear hb hq
   go_enter Tryz.func143,Tryz.ntmps143
   go_wp2_with fail
   refine (C.out _).mono ?_
   rintro e w1 ⟨rfl,ho⟩
   go_wp2_with fail
   go_ret
   exact ⟨by rw [HB.out];rfl,ho⟩
theorem indexFunc_str (v:Value) (l:List (List UInt8)) (w:World) (hs:SlAt w w.heap.size v 1 l.length (svs l)) (hl:l.length ≤ 1000000) (hx:∀ x ∈ l,x.length ≤ maxLen):
 Calls Tryz.prog 205 #[v,.func (.func 143) #[] #[]] w fun e w' => (∃ i:Int,e = .returned (.int .i64 i) ∧ (decide (0 ≤ i) = l.any bad1)) ∧ Only [] w w':=by
 obtain ⟨A,c,rfl⟩:=hs.shape
 have HS:=Hd hs
 have HX:=Hd hx
 clear hs hx
 go_enter Tryz.func205,Tryz.ntmps205
 go_wp2_with fail
 go_loopw [8] (fun i wr => ∃ k:Nat,k ≤ l.length ∧ i = .int .i64 k ∧ Hid ((l.take k).any bad1 = false) ∧ Only [] w wr) (fun i _ => l.length - (intOf i).toNat)
 case atStart => exact ⟨0,by omega,rfl,Hd rfl,Only.refl _ _⟩
 case round =>
  obtain ⟨k,hk,rfl,hno,ho⟩:=hrel
  by_cases hlt:k < l.length
  · have hlt':(k:Int) < (l.length:Int):=by omega
    have hk1:=List.getElem?_eq_getElem hlt
    obtain ⟨x,hx⟩:∃ x,l[k] = x:=⟨_,rfl⟩
    have hxl:=HX.out l[k] (List.getElem_mem _)
    rw [hx] at hk1 hxl
    obtain ⟨ab,ao,ac,hv,hab,hc⟩:=(HS.out.only ho (Nat.le_refl _) (by simp)).at_ (by omega)
    have q0:wr.cell? ⟨ab,ao + k,none⟩ = some (.string ⟨x.toArray⟩):=hc k _ (by unfold svs;rw [List.getElem?_map,hk1];rfl)
    have F1:=Hd (right1 x wr hxl)
    have HT:Hid ((l.take (k + 1)).any bad1 = bad1 x):=by show _ = _;rw [List.take_add_one,hk1,List.any_append,hno.out];simp
    have HA:Hid (bad1 x = true → l.any bad1 = true):=fun h => List.any_eq_true.2 ⟨x,List.mem_of_getElem? hk1,h⟩
    injection hv with e1 e2 e3
    subst e1;subst e3
    clear e2 hc hx hk1 hno
    cases hb:bad1 x with
    | true =>
     rw [hb] at F1 HA
     have HR:=HA.out rfl
     clear HT hb HA
     go_wp2_with (go_at_call 143;refine F1.out.mono ?_;rintro e w1 ⟨rfl,ho1⟩)
     go_ret
     exact ⟨⟨k,rfl,by rw [HR];simp⟩,ho.tr0 ho1⟩
    | false =>
     rw [hb] at F1 HT
     clear hb HA
     go_wp2_with (go_at_call 143;refine F1.out.mono ?_;rintro e w1 ⟨rfl,ho1⟩)
     go_roundw
     case rel => exact ⟨k + 1,by omega,by go_num,HT,ho.tr0 ho1⟩
     case measure => simp [intOf];omega
  · have hd0:decide ((k:Int) < (l.length:Int)) = false:=by simp;omega
    have HF:l.any bad1 = false:=by have:=hno.out;rwa [List.take_of_length_le (by omega)] at this
    clear hno
    go_wp2_with fail
    go_ret
    exact ⟨⟨-1,rfl,by rw [HF];simp⟩,ho⟩
theorem containsFunc_str (v:Value) (l:List (List UInt8)) (w:World) (hs:SlAt w w.heap.size v 1 l.length (svs l)) (hl:l.length ≤ 1000000) (hx:∀ x ∈ l,x.length ≤ maxLen):
 Calls Tryz.prog 142 #[v,.func (.func 143) #[] #[]] w fun e w' => e = .returned (.bool (l.any bad1)) ∧ Only [] w w':=by
 have C:=Hd (indexFunc_str v l w hs hl hx)
 obtain ⟨A,c,rfl⟩:=hs.shape
 clear hs hx
 go_enter Tryz.func142,Tryz.ntmps142
 go_wp2_with fail
 refine C.out.mono ?_
 rintro e w1 ⟨⟨i,rfl,hi⟩,ho⟩
 have HI:=Hd hi
 clear hi
 go_wp2_with fail
 go_ret
 exact ⟨by rw [← HI.out];rfl,ho⟩
def It.list (x:It):List (List UInt8):=[x.id,x.ti,x.li]
theorem It.Len.all {x:It} (h:x.Len):∀ s ∈ x.list,s.length ≤ maxLen:=by
 intro s hs
 simp only [It.list,List.mem_cons,List.not_mem_nil,or_false] at hs
 rcases hs with rfl | rfl | rfl
 · exact h.id
 · exact h.ti
 · exact h.li
theorem contains_it (x:It) (hx:x.Len) (W:World) (b':Nat) (hC:Cells W b' 9 (svs x.list)):
 Calls Tryz.prog 142 #[.slice (some ⟨b',0,none⟩) 3 3,.func (.func 143) #[] #[]] W fun e w' => e = .returned (.bool (x.list.any bad1)) ∧ Only [] W w':=
 containsFunc_str _ x.list W (SlAt.cells (n:=3) (sz:=1) hC rfl (by unfold maxLen;omega)) (by simp [It.list]) hx.all
theorem feed_right (x:It) (hx:x.Len) (w:World):
 Calls Tryz.prog 74 #[.agg #[.string ⟨x.id.toArray⟩,.string ⟨x.ti.toArray⟩,.string ⟨x.li.toArray⟩]] w fun e w' => e = .returned (.bool (itR x)) ∧ Only [] w w':=by
 by_cases h0:x.id = []
 · have hr:itR x = false:=by unfold itR;rw [h0];rfl
   have h1:x.id.isEmpty = true:=by rw [h0];rfl
   go_enter Tryz.func74,Tryz.ntmps74
   go_wp2_with fail
   go_ret
   exact ⟨by rw [hr];rfl,oz.alloc _⟩
 · have h1:x.id.isEmpty = false:=by simpa using h0
   have hr:itR x = !(x.list.any bad1):=by unfold itR;rw [h1];rfl
   obtain ⟨z,hz⟩:∃ z,x.list.any bad1 = z:=⟨_,rfl⟩
   obtain ⟨w1,hw1⟩:∃ w1,w.alloc (.cells #[.string ⟨x.id.toArray⟩,.string ⟨x.ti.toArray⟩,.string ⟨x.li.toArray⟩] 99) = w1:=⟨_,rfl⟩
   obtain ⟨zb,hzb⟩:∃ zb,w.heap.size = zb:=⟨_,rfl⟩
   have a1:Cells w1 zb 99 x.cells:=hw1 ▸ hzb ▸ Cells.new w _ _
   obtain ⟨w2,hw2⟩:∃ w2,w1.alloc (.cells #[.string ⟨x.id.toArray⟩,.string ⟨x.ti.toArray⟩,.string ⟨x.li.toArray⟩] 9) = w2:=⟨_,rfl⟩
   obtain ⟨y,hy⟩:∃ y,w1.heap.size = y:=⟨_,rfl⟩
   have a2:Cells w2 y 9 (svs x.list):=hw2 ▸ hy ▸ Cells.new w1 _ _
   have b1:Cells w2 zb 99 x.cells:=hw2 ▸ a1.alloc _
   have O2:Only [] w w2:=hw2 ▸ (hw1 ▸ oz.alloc _).alloc _
   have C:=Hd (contains_it x hx w2 y a2)
   rw [hz] at hr C
   have HR:=Hd hr
   have HO2:=Hd O2
   have r0:=a1.cell (k:=0) rfl
   have r1:=a1.cell (k:=1) rfl
   have r2:=a1.cell (k:=2) rfl
   clear hr hz h0 a1 a2 b1 O2
   go_enter Tryz.func74,Tryz.ntmps74
   go_wp2_with fail
   refine C.out.mono ?_
   rintro e w3 ⟨rfl,ho⟩
   have HO:=Hd (HO2.out.tr ho)
   clear ho C hw1 hw2 hy hzb r0 r1 r2
   go_wp2_with fail
   go_ret
   exact ⟨by rw [HR.out];rfl,HO.out⟩
theorem ref13_right (x:It) (hx:x.Len) (w:World):
 Calls Tryz.prog 152 #[.agg #[.string ⟨x.id.toArray⟩,.string ⟨x.ti.toArray⟩,.string ⟨x.li.toArray⟩]] w fun e w' => e = .returned (.bool (itR x)) ∧ Only [] w w':=by
 obtain ⟨w1,hw1⟩:∃ w1,w.alloc (.cells #[.string ⟨x.id.toArray⟩,.string ⟨x.ti.toArray⟩,.string ⟨x.li.toArray⟩] 99) = w1:=⟨_,rfl⟩
 obtain ⟨z,hz⟩:∃ z,w.heap.size = z:=⟨_,rfl⟩
 have a1:Cells w1 z 99 x.cells:=hw1 ▸ hz ▸ Cells.new w _ _
 obtain ⟨w2,hw2⟩:∃ w2,w1.alloc (.cells #[.string ⟨x.id.toArray⟩,.string ⟨x.ti.toArray⟩,.string ⟨x.li.toArray⟩] 9) = w2:=⟨_,rfl⟩
 obtain ⟨y,hy⟩:∃ y,w1.heap.size = y:=⟨_,rfl⟩
 have a2:Cells w2 y 9 (svs x.list):=hw2 ▸ hy ▸ Cells.new w1 _ _
 have b1:Cells w2 z 99 x.cells:=hw2 ▸ a1.alloc _
 have O2:Only [] w w2:=hw2 ▸ (hw1 ▸ oz.alloc _).alloc _
 have HL:=Hd a2
 have HX:=Hd hx.all
 have HI:=Hd (b1.cell (k:=0) rfl)
 have HO:=Hd O2
 have HZ:=Hd b1.lt
 have r0:=a1.cell (k:=0) rfl
 have r1:=a1.cell (k:=1) rfl
 have r2:=a1.cell (k:=2) rfl
 clear a1 a2 b1 O2
 go_enter Tryz.func152,Tryz.ntmps152
 go_wp2_with fail
 clear hw1 hw2 hz hy r0 r1 r2
 go_loopw [4] (fun i wr => ∃ k:Nat,k ≤ 3 ∧ i = .int .i64 k ∧ Hid ((x.list.take k).any bad1 = false) ∧ Only [] w2 wr) (fun i _ => 3 - (intOf i).toNat)
 case atStart => exact ⟨0,by omega,rfl,Hd rfl,Only.refl _ _⟩
 case round =>
  obtain ⟨k,hk,rfl,hno,ho⟩:=hrel
  by_cases hlt:k < 3
  · have hlt':decide ((k:Int) < 3) = true:=by simp;omega
    have hkl:k < x.list.length:=by simpa [It.list] using hlt
    have hk1:=List.getElem?_eq_getElem hkl
    obtain ⟨s,hs⟩:∃ s,x.list[k] = s:=⟨_,rfl⟩
    have hsl:=HX.out x.list[k] (List.getElem_mem _)
    rw [hs] at hk1 hsl
    unfold maxLen at hsl
    have q0:wr.cell? ⟨y,k,none⟩ = some (.string ⟨s.toArray⟩):=(HL.out.only ho (by simp)).cell (by unfold svs;rw [List.getElem?_map,hk1];rfl)
    have HT:Hid ((x.list.take (k + 1)).any bad1 = bad1 s):=by show _ = _;rw [List.take_add_one,hk1,List.any_append,hno.out];simp
    have HA:Hid (bad1 s = true → itR x = false):=fun h => by
     have:x.list.any bad1 = true:=List.any_eq_true.2 ⟨s,List.mem_of_getElem? hk1,h⟩
     unfold itR
     rw [show [x.id,x.ti,x.li].any bad1 = true from this];simp
    clear hs hk1 hno
    have t0:=fun u:Since wr => u.cell q0
    by_cases h2:200 < s.length
    · have d1:decide ((200:Int) < (s.length:Int)) = true:=by simp;omega
      have hb:bad1 s = true:=by unfold bad1;rw [decide_eq_true h2];rfl
      have HR:=HA.out hb
      clear hb HA HT q0
      go_wp2_with fail
      refine wp_region_only wr oz (by kernel_rfl) (by kernel_rfl) ?_
      repeat (go_big_quiet_step (fail))
      refine wpQuiet_nil ?_
      rintro ⟨w9,ho9⟩
      dsimp only
      have HO9:=Hd ((HO.out.tr ho).tr ho9)
      go_wp2_with fail
      go_ret
      exact ⟨by rw [HR];rfl,HO9.out⟩
    · have d1:decide ((200:Int) < (s.length:Int)) = false:=by simp;omega
      have C:=Hd (fun u:Since wr => ref12_squeeze s u.w (by omega))
      have hbs:bad1 s = !(sq s == s):=by unfold bad1;rw [decide_eq_false h2];rfl
      obtain ⟨q,hq⟩:∃ q,sq s = q:=⟨_,rfl⟩
      rw [hq] at C hbs
      clear hq q0
      cases hb:(q == s) with
      | true =>
       have hb1:bad1 s = false:=by rw [hbs,hb];rfl
       rw [hb1] at HT
       clear hb1 HA hbs
       go_wp2_with fail
       refine wp_region_only wr oz (by kernel_rfl) (by kernel_rfl) ?_
       repeat (go_big_quiet_step (first | (go_at_call 213;refine Calls.only (C.out _))))
       refine wpQuiet_nil ?_
       rintro ⟨w9,ho9⟩
       dsimp only
       have ho9':=ho.tr ho9
       go_wp2_with fail
       go_roundw
       case rel => exact ⟨k + 1,by omega,by go_num,HT,ho9'⟩
       case measure => simp [intOf];omega
      | false =>
       have hb1:bad1 s = true:=by rw [hbs,hb];rfl
       have HR:=HA.out hb1
       clear hb1 HA hbs HT
       go_wp2_with fail
       refine wp_region_only wr oz (by kernel_rfl) (by kernel_rfl) ?_
       repeat (go_big_quiet_step (first | (go_at_call 213;refine Calls.only (C.out _))))
       refine wpQuiet_nil ?_
       rintro ⟨w9,ho9⟩
       dsimp only
       have HO9:=Hd ((HO.out.tr ho).tr ho9)
       go_wp2_with fail
       go_ret
       exact ⟨by rw [HR];rfl,HO9.out⟩
  · have hlt':decide ((k:Int) < 3) = false:=by simp;omega
    have HR:Hid (itR x = !x.id.isEmpty):=by
     show _ = _
     have:=hno.out
     rw [List.take_of_length_le (by simp [It.list];omega)] at this
     unfold itR
     rw [show [x.id,x.ti,x.li].any bad1 = false from this];simp
    have q1:wr.cell? ⟨z,0,none⟩ = some (.string ⟨x.id.toArray⟩):=(ho.cell (p:=⟨z,0,none⟩) HZ.out (by simp)).trans HI.out
    have HO9:=Hd (HO.out.tr ho)
    clear hno
    go_wp2_with fail
    go_ret
    exact ⟨by rw [HR.out];rfl,HO9.out⟩
end Go.Proofs.YtcjfmildalappaaGreat
namespace Go.Proofs.YtcjfmildalappaaGreat
open Go.RowKit Go.Maps
theorem string_law:Keyed Tryz.prog 9:=string_keyed Tryz.underlying9
theorem key_str (s:List UInt8) (h:s.length ≤ maxLen):keyOf Tryz.prog 9 (.string ⟨s.toArray⟩) = some (.string s):=by
 have:=WideMaps.keyOf_string_mk (P:=Tryz.prog) Tryz.underlying9 (s:=⟨s.toArray⟩) (by simpa [ByteArray.size] using h)
 simpa using this
theorem isk (k:List UInt8):WideAt.IsKeyLit (.string k):=trivial
theorem lit_ne {k k':List UInt8} (h:¬ k' = k):(Lit.string k') ≠ Lit.string k:=fun e => by injection e with e;exact h e
def hv (v:Value):Option (DataW Value × List MemPlace):=some (.held v,[])
theorem hv_inv {v:Value} {d:DataW Value} {ps:List MemPlace} (h:hv v = some (d,ps)):d = .held v:=by
 unfold hv at h
 simp only [Option.some.injEq,Prod.mk.injEq] at h
 exact h.1.symm
structure MapF (w:World) (b n:Nat) (f:List UInt8 → Option Value):Prop where
 ex:∃ D,w.ownsMap Tryz.prog 9 hv b n D ∧ size D = n ∧ (∀ k,has D (.string k) = (f k).isSome) ∧ ∀ k v,f k = some v → ∀ z,D.atKey (.string k) z = .held v
theorem MapF.lt {w:World} {b n:Nat} {f:List UInt8 → Option Value} (h:MapF w b n f):b < w.heap.size:=by
 obtain ⟨D,h1,_⟩:=h.ex;exact h1.lt
theorem own_tight {w:World} {b n:Nat} {D:DataW Value} (h:w.ownsMap Tryz.prog 9 hv b n D):w.ownsMap Tryz.prog 9 hv b (size D) D:=by
 obtain ⟨es,clock,hb,F,_,rfl⟩:=h
 exact ⟨es,clock,hb,F,by rw [size_eq,length_read];exact Nat.le_refl _,rfl⟩
theorem MapF.made (w:World):MapF (w.alloc (.map #[] 0)) w.heap.size 0 (fun _ => none):=
 ⟨.map [],World.ownsMap_made w _ _ _,rfl,fun _ => rfl,fun k v h => by cases h⟩
theorem MapF.block {w w':World} {b n:Nat} {f:List UInt8 → Option Value} (h:MapF w b n f) (hb:w'.heap[b]? = w.heap[b]?):MapF w' b n f:=by
 obtain ⟨D,⟨es,clock,hh,F,hs,hD⟩,r⟩:=h.ex
 exact ⟨D,⟨es,clock,hb.trans hh,F,hs,hD⟩,r⟩
theorem MapF.only {S:List Nat} {w w':World} {b n:Nat} {f:List UInt8 → Option Value} (h:MapF w b n f) (ho:Only S w w') (hS:b ∉ S):MapF w' b n f:=h.block (ho.block b h.lt hS)
section
variable {w:World} {b n:Nat} {f:List UInt8 → Option Value}
theorem MapF.look {t e:TypeId} (h:MapF w b n f) (ht:Tryz.prog.underlying t = some (.map 9 e)) {z:Value} (hz:(zeroValue e).run Tryz.prog w = .ok z w) (k:List UInt8) (hk:k.length ≤ maxLen):
 (Instr.lookup t (.map (some b)) (.string ⟨k.toArray⟩) false).run Tryz.prog w = .ok ((f k).getD z) w:=by
 obtain ⟨D,ho,_,hh,ha⟩:=h.ex
 obtain ⟨v,ps,hr,hv'⟩:=ho.lookup string_law ht hz (zd:=.held z) (zp:=[]) rfl (key_str k hk)
 have e1:=hv_inv hv'
 have hvv:v = (f k).getD z:=by
  cases hf:f k with
  | none =>
   have h2:=hh k
   rw [hf] at h2
   rw [atKey_of_not_has h2] at e1
   exact (DataW.held.inj e1).symm
  | some u =>
   rw [ha k u hf] at e1
   exact (DataW.held.inj e1).symm
 rw [hr,hvv]
theorem MapF.lookOk {t e:TypeId} (h:MapF w b n f) (ht:Tryz.prog.underlying t = some (.map 9 e)) {z:Value} (hz:(zeroValue e).run Tryz.prog w = .ok z w) (k:List UInt8) (hk:k.length ≤ maxLen):
 (Instr.lookup t (.map (some b)) (.string ⟨k.toArray⟩) true).run Tryz.prog w = .ok (.tuple #[(f k).getD z,.bool (f k).isSome]) w:=by
 obtain ⟨D,ho,_,hh,ha⟩:=h.ex
 obtain ⟨v,ps,hr,hv'⟩:=ho.look_ok string_law ht hz (zd:=.held z) (zp:=[]) rfl (key_str k hk)
 have e1:=hv_inv hv'
 have hvv:v = (f k).getD z:=by
  cases hf:f k with
  | none =>
   have h2:=hh k
   rw [hf] at h2
   rw [atKey_of_not_has h2] at e1
   exact (DataW.held.inj e1).symm
  | some u =>
   rw [ha k u hf] at e1
   exact (DataW.held.inj e1).symm
 rw [hr,hh k,hvv]
theorem MapF.len {t e:TypeId} (h:MapF w b n f) (ht:Tryz.prog.underlying t = some (.map 9 e)) (ty:TypeId):(Builtin.len_ #[t] ty #[.map (some b)]).run Tryz.prog w = .ok (.int .i64 n) w:=by
 obtain ⟨D,ho,hn,_⟩:=h.ex
 rw [ho.len ht ty,hn]
theorem mapTurned_only {w w':World} {b:Nat} (h:w.mapTurned w' b):Only [b] w w':=by
 have hg:=h.grown
 exact ⟨hg.os,hg.tape,hg.output,hg.size,fun k hk hS => hg.block k hk (by simpa using fun e => hS (by simp [e]))⟩
theorem MapF.store {t e:TypeId} (h:MapF w b n f) (ht:Tryz.prog.underlying t = some (.map 9 e)) (hn:n < maxLen) (k:List UInt8) (hk:k.length ≤ maxLen) (v:Value):
 ∃ w',(Instr.mapUpdate t (.map (some b)) (.string ⟨k.toArray⟩) v).run Tryz.prog w = .ok () w' ∧ MapF w' b (if (f k).isSome then n else n + 1) (fun k' => if k' = k then some v else f k') ∧ w.mapTurned w' b:=by
 obtain ⟨D,ho,hs,hh,ha⟩:=h.ex
 obtain ⟨w',hr,ho',ht'⟩:=ho.store string_law ht hn (key_str k hk) (val:=v) (d:=.held v) (ps:=[]) rfl
 have him:=ho.isMap
 have hsz:size (D.put (.string k) (.held v)) = if (f k).isSome then n else n + 1:=by rw [size_put (ho.tidy string_law),hh k,hs]
 refine ⟨w',hr,⟨_,?_,hsz,?_,?_⟩,ht'⟩
 · rw [← hsz];exact own_tight ho'
 · intro k'
   by_cases he:k' = k
   · subst he;rw [has_put_same him (isk _),if_pos rfl];rfl
   · rw [has_put_other (lit_ne he),if_neg he];exact hh k'
 · intro k' u hu z
   by_cases he:k' = k
   · subst he;rw [if_pos rfl] at hu;have hu:=Option.some.inj hu;rw [atKey_put_same him (isk _),hu]
   · rw [if_neg he] at hu;rw [atKey_put_other (lit_ne he)];exact ha k' u hu z
theorem MapF.drop {t e:TypeId} (h:MapF w b n f) (ht:Tryz.prog.underlying t = some (.map 9 e)) (k:List UInt8) (hk:k.length ≤ maxLen) (ty:TypeId):
 ∃ w',(Builtin.delete_ #[t,9] ty #[.map (some b),.string ⟨k.toArray⟩]).run Tryz.prog w = .ok (.tuple #[]) w' ∧ MapF w' b (if (f k).isSome then n - 1 else n) (fun k' => if k' = k then none else f k') ∧ w.mapTurned w' b:=by
 obtain ⟨D,ho,hs,hh,ha⟩:=h.ex
 obtain ⟨w',hr,ho',ht'⟩:=ho.drop string_law ht (key_str k hk) ty
 have hsz:size (D.del (.string k)) = if (f k).isSome then n - 1 else n:=by
  have:=size_del (k:=.string k) (ho.tidy string_law)
  rw [hh k,hs] at this
  cases hf:(f k).isSome <;> rw [hf] at this <;> simp at this ⊢ <;> omega
 refine ⟨w',hr,⟨_,?_,hsz,?_,?_⟩,ht'⟩
 · rw [← hsz];exact own_tight ho'
 · intro k'
   by_cases he:k' = k
   · subst he;rw [has_del_same,if_pos rfl];rfl
   · rw [has_del_other (lit_ne he),if_neg he];exact hh k'
 · intro k' u hu z
   by_cases he:k' = k
   · rw [if_pos he] at hu;cases hu
   · rw [if_neg he] at hu;rw [atKey_del_other (lit_ne he)];exact ha k' u hu z
theorem MapF.keys (h:MapF w b n f) (L:List (List UInt8)) (hL:L.Pairwise (fun x y => x < y)) (hm:∀ k,k ∈ L ↔ (f k).isSome = true):
 ∃ D,w.ownsMap Tryz.prog 9 hv b n D ∧ size D = n ∧ ∀ ss:List (List UInt8),ss.Perm (strKeys D) → ss.mergeSort (fun x y => decide (x ≤ y)) = L:=by
 obtain ⟨D,ho,hs,hh,ha⟩:=h.ex
 refine ⟨D,ho,hs,fun ss hp => ?_⟩
 have hnd:L.Nodup:=hL.imp fun {x y} h e => by subst e;exact List.lt_irrefl x h
 have hpL:L.Perm (strKeys D):=by
  obtain ⟨es,hD,hpw,_⟩:=ho.entries string_law
  obtain ⟨es',hD',hko⟩:=ho.keysOf
  obtain rfl:es = es':=by rw [hD] at hD';simpa using hD'
  subst hD
  exact perm_strKeys hpw (fun p hp => by obtain ⟨v,hv⟩:=hko p hp;obtain ⟨x,_,hx,_⟩:=Maps.keyOf_str Tryz.underlying9 hv;exact ⟨x,hx⟩) hnd (fun x => by rw [hm x,hh x])
 rw [mergeSort_of_perm (hp.trans hpL.symm)]
 exact List.mergeSort_of_pairwise (hL.imp fun {x y} h => by simpa using List.le_of_lt h)
end
end Go.Proofs.YtcjfmildalappaaGreat
namespace Go.Proofs.YtcjfmildalappaaGreat
open Go.RowKit
def nmL (l:List UInt8):Bool:=l.all (fun b => decide (33 ≤ b.toNat ∧ b.toNat ≤ 126)) && decide (1 ≤ l.length ∧ l.length ≤ 60)
def okN (b:UInt8):Bool:=decide (33 ≤ b.toNat ∧ b.toNat ≤ 126)
theorem nmL_eq (l:List UInt8):nmL l = (l.all okN && decide (1 ≤ l.length ∧ l.length ≤ 60)):=rfl
theorem nmL_bad (l:List UInt8) (b:UInt8) (hm:b ∈ l) (h:okN b = false):nmL l = false:=by
 rw [nmL_eq]
 have:l.all okN = false:=by
  cases hc:l.all okN with
  | false => rfl
  | true => rw [List.all_eq_true] at hc;rw [hc b hm] at h;cases h
 rw [this];rfl
theorem shard_name (l:List UInt8) (w:World) (hl:l.length ≤ 9223372036854775807):
 Calls Tryz.prog 228 #[.string ⟨l.toArray⟩] w fun e w' => e = .returned (.bool (nmL l)) ∧ w = w':=by
 go_enter Tryz.func228,Tryz.ntmps228
 go_wp2_with fail
 go_loop [6] (fun i => ∃ k:Nat,k ≤ l.length ∧ i = .int .i64 k ∧ (l.take k).all okN = true) (fun i => l.length - (intOf i).toNat)
 case atStart => exact ⟨0,by omega,rfl,rfl⟩
 case round =>
  obtain ⟨k,hk,rfl,hall⟩:=hrel
  by_cases hlt:k < l.length
  · have hk1:=List.getElem?_eq_getElem hlt
    obtain ⟨b,hb⟩:∃ b,l[k] = b:=⟨_,rfl⟩
    rw [hb] at hk1
    have hix:∀ h:k < (⟨l.toArray⟩:ByteArray).size,(⟨l.toArray⟩:ByteArray)[k]'h = b:=fun _ => hb
    have hb8:=b.toNat_lt
    have HA:=Hd hall
    have HT:Hid ((l.take (k + 1)).all okN = okN b):=by show _ = _;rw [List.take_add_one,hk1,List.all_append,hall];simp
    have HF:Hid (okN b = false → nmL l = false):=fun h => nmL_bad l b (List.mem_of_getElem? hk1) h
    clear hb hk1 hall
    by_cases h1:b.toNat ≤ 32
    · have hbad:=HF.out (by simp [okN];omega)
      have d1:decide ((b.toNat:Int) ≤ 32) = true:=by simp;omega
      go_wp2_with fail
      go_ret
      exact ⟨rfl,rfl⟩
    · have d1:decide ((b.toNat:Int) ≤ 32) = false:=by simp;omega
      by_cases h2:126 < b.toNat
      · have hbad:=HF.out (by simp [okN];omega)
        have d2:decide (126 < (b.toNat:Int)) = true:=by simp;omega
        go_wp2_with fail
        go_ret
        exact ⟨rfl,rfl⟩
      · have hgood:okN b = true:=by simp [okN];omega
        have d2:decide (126 < (b.toNat:Int)) = false:=by simp;omega
        go_wp2_with fail
        go_round
        case rel => exact ⟨k + 1,by omega,by go_num,by rw [HT.out];exact hgood⟩
        case measure => simp [intOf];omega
  · obtain rfl:k = l.length:=by omega
    rw [List.take_length] at hall
    have HN:Hid (nmL l = decide (1 ≤ l.length ∧ l.length ≤ 60)):=by show _ = _;rw [nmL_eq,hall];simp
    clear hall
    by_cases h0:l = []
    · subst h0
      have HN':=HN.out
      go_wp2_with fail
      go_ret
      exact ⟨rfl,rfl⟩
    · have he:l.isEmpty = false:=by simpa using h0
      have hl0:1 ≤ l.length:=by
       have:=List.length_pos_iff.2 h0;omega
      by_cases h60:l.length ≤ 60
      · have d:decide ((l.length:Int) ≤ 60) = true:=by simp;omega
        go_wp2_with fail
        go_ret
        exact ⟨by rw [HN.out];simp;omega,rfl⟩
      · have d:decide ((l.length:Int) ≤ 60) = false:=by simp;omega
        go_wp2_with fail
        go_ret
        exact ⟨by rw [HN.out];simp;omega,rfl⟩
theorem ref_name14 (l:List UInt8) (w:World) (hl:l.length ≤ 9223372036854775807):
 Calls Tryz.prog 220 #[.string ⟨l.toArray⟩] w fun e w' => e = .returned (.bool (nmL l)) ∧ w = w':=by
 go_enter Tryz.func220,Tryz.ntmps220
 go_wp2_with fail
 go_loop [3] (fun i => ∃ k:Nat,k ≤ l.length ∧ i = .int .i64 k ∧ (l.take k).all okN = true) (fun i => l.length - (intOf i).toNat)
 case atStart => exact ⟨0,by omega,rfl,rfl⟩
 case round =>
  obtain ⟨k,hk,rfl,hall⟩:=hrel
  by_cases hlt:k < l.length
  · have hk1:=List.getElem?_eq_getElem hlt
    obtain ⟨b,hb⟩:∃ b,l[k] = b:=⟨_,rfl⟩
    rw [hb] at hk1
    have hix:∀ h:k < (⟨l.toArray⟩:ByteArray).size,(⟨l.toArray⟩:ByteArray)[k]'h = b:=fun _ => hb
    have hb8:=b.toNat_lt
    have HA:=Hd hall
    have HT:Hid ((l.take (k + 1)).all okN = okN b):=by show _ = _;rw [List.take_add_one,hk1,List.all_append,hall];simp
    have HF:Hid (okN b = false → nmL l = false):=fun h => nmL_bad l b (List.mem_of_getElem? hk1) h
    clear hb hk1 hall
    by_cases h1:b.toNat ≤ 32
    · have hbad:=HF.out (by simp [okN];omega)
      have d1:decide ((b.toNat:Int) < 33) = true:=by simp;omega
      go_wp2_with fail
      go_ret
      exact ⟨rfl,rfl⟩
    · have d1:decide ((b.toNat:Int) < 33) = false:=by simp;omega
      by_cases h2:126 < b.toNat
      · have hbad:=HF.out (by simp [okN];omega)
        have d2:decide (126 < (b.toNat:Int)) = true:=by simp;omega
        go_wp2_with fail
        go_ret
        exact ⟨rfl,rfl⟩
      · have hgood:okN b = true:=by simp [okN];omega
        have d2:decide (126 < (b.toNat:Int)) = false:=by simp;omega
        go_wp2_with fail
        go_round
        case rel => exact ⟨k + 1,by omega,by go_num,by rw [HT.out];exact hgood⟩
        case measure => simp [intOf];omega
  · obtain rfl:k = l.length:=by omega
    rw [List.take_length] at hall
    have HN:Hid (nmL l = decide (1 ≤ l.length ∧ l.length ≤ 60)):=by show _ = _;rw [nmL_eq,hall];simp
    clear hall
    by_cases h1:1 ≤ l.length
    · have d1:decide (1 ≤ (l.length:Int)) = true:=by simp;omega
      by_cases h60:l.length ≤ 60
      · have d:decide ((l.length:Int) ≤ 60) = true:=by simp;omega
        go_wp2_with fail
        go_ret
        exact ⟨by rw [HN.out];simp;omega,rfl⟩
      · have d:decide ((l.length:Int) ≤ 60) = false:=by simp;omega
        go_wp2_with fail
        go_ret
        exact ⟨by rw [HN.out];simp;omega,rfl⟩
    · have d1:decide (1 ≤ (l.length:Int)) = false:=by simp;omega
      go_wp2_with fail
      go_ret
      exact ⟨by rw [HN.out];simp;omega,rfl⟩
end Go.Proofs.YtcjfmildalappaaGreat
namespace Go.Proofs.YtcjfmildalappaaGreat
open Go.RowKit Go.Maps
theorem setBlock_again (w:World) (b:Nat) (o o':Obj):Go.ChangeMaps.setBlock (Go.ChangeMaps.setBlock w b o) b o' = Go.ChangeMaps.setBlock w b o':=by
 unfold Go.ChangeMaps.setBlock
 simp
theorem MapF.entry {w:World} {b n:Nat} {f:List UInt8 → Option Value} {t e:TypeId} (h:MapF w b n f) (ht:Tryz.prog.underlying t = some (.map 9 e)) {z:Value} (hz:∀ u:World,(zeroValue e).run Tryz.prog u = .ok z u) (hn:n < maxLen) (k:List UInt8) (hk:k.length ≤ maxLen) (v:Value):
 ∃ v0 st w1 w',(Instr.mapEntry t (.map (some b)) (.string ⟨k.toArray⟩)).run Tryz.prog w = .ok (.tuple #[v0,.int .i64 st]) w1 ∧ (Instr.entryStore t (.map (some b)) (.int .i64 st) v).run Tryz.prog w1 = .ok () w' ∧
  MapF w' b (if (f k).isSome then n else n + 1) (fun k' => if k' = k then some v else f k') ∧ w.mapTurned w' b:=by
 obtain ⟨w',hr,hm,ht'⟩:=h.store ht hn k hk v
 obtain ⟨D,ho,_⟩:=h.ex
 obtain ⟨es,clock,hb,F,_⟩:=ho
 obtain ⟨v0,st,es1,clock1,h1,_,h2⟩:=Go.WideElems.entry_then_store (Go.WideMaps.string_law Tryz.underlying9) ht hz hb F (key_str k hk)
 have hb1:(Go.ChangeMaps.setBlock w b (.map es1 clock1)).heap[b]? = some (.map es1 clock1):=by
  unfold Go.ChangeMaps.setBlock
  exact (MapKept.heap_set hb).1
 obtain ⟨es',clock',h3,h4⟩:=h2 _ v hb1
 rw [hr] at h4
 injection h4 with _ h4
 refine ⟨v0,st,_,_,h1,h3,?_,?_⟩
 · rw [setBlock_again,← h4];exact hm
 · rw [setBlock_again,← h4];exact ht'
end Go.Proofs.YtcjfmildalappaaGreat
