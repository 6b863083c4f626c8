/-
  Contracts; each theorem bears its own conditions.
-/
import Derived.Test.YtcjfmildalappaaGreatRows
import Derived.ArgAppend
import Derived.Lib.JoinLaws
import Derived.StillTailTactics
import Derived.Barred
import Derived.Maps.AppendAt
import Derived.Deep.AppendLies
import Derived.Deep.RegionHeld3
import Derived.Deep.RegionLaw
import Derived.Laws.Tables
import Derived.Laws.Rows
import Derived.Test.YtcjfmildalappaaGreatK26aa
set_option linter.all false
set_option maxRecDepth 100000
set_option maxHeartbeats 8000000
namespace Go.Proofs.YtcjfmildalappaaGreat
open Go.RowKit
theorem ref_text (s:List UInt8) (w:World) (hl:s.length ≤ 1000000000000):Calls Tryz.prog 99 #[.string ⟨s.toArray⟩] w fun e w' => e = .returned (.string ⟨(tb s).toArray⟩) ∧ Only [] w w':=by
 have HI:=Hd (ref_int s.length w ⟨by omega,by omega⟩)
 have HL:=Hd (ib_length s.length ⟨by omega,by omega⟩)
 go_enter Tryz.func99,Tryz.ntmps99
 go_wp2_with fail
 refine HI.out.mono ?_
 rintro e w1 ⟨rfl,ho⟩
 have HL:=HL.out
 go_wp2_with fail
 go_ret
 exact ⟨by unfold tb;rw [← ba_append];rfl,ho⟩
theorem ref_toText (s:List UInt8) (w:World) (hl:s.length ≤ 1000000000000):
 Calls Tryz.prog 177 #[.string ⟨s.toArray⟩] w fun e w' => e = .returned (rdTV (rdT s)) ∧ Only [] w w':=by
 have HC:=Hd (ref_toInt s w hl)
 go_enter Tryz.func177,Tryz.ntmps177
 go_wp2_with fail
 refine HC.out.mono ?_
 rintro e w1 ⟨he,ho⟩
 cases hr:rdI s with
 | none =>
  rw [hr] at he
  have he:e = .returned (.tuple #[.int .i64 0,.string ⟨#[]⟩,.bool false]):=he
  subst he
  have HR:Hid (rdT s = none):=by show _ = _;unfold rdT;rw [hr]
  clear hr
  go_wp2_with fail
  go_ret3
  exact ⟨by rw [HR.out];rfl,ho⟩
 | some nr =>
  obtain ⟨n,r⟩:=nr
  rw [hr] at he
  have he:e = .returned (.tuple #[.int .i64 n,.string ⟨r.toArray⟩,.bool true]):=he
  subst he
  have hrl:=rdI_length hr
  by_cases h0:0 ≤ n
  · by_cases h1:n ≤ r.length
    · have HR:Hid (rdT s = some (r.take n.toNat,r.drop n.toNat)):=by show _ = _;unfold rdT;rw [hr];exact if_pos ⟨h0,h1⟩
      obtain ⟨k,rfl⟩:∃ k:Nat,n = k:=⟨n.toNat,by omega⟩
      clear hr
      have hd:decide ((k:Int) < 0) = false:=by simp
      have hd1:decide ((r.length:Int) < k) = false:=by simp;omega
      go_wp2_with fail
      go_quiet (fail)
      rw [str_to_end,str_from_start]
      go_wp2_with fail
      go_ret3
      exact ⟨by rw [HR.out];rfl,ho.drewN _⟩
    · have HR:Hid (rdT s = none):=by show _ = _;unfold rdT;rw [hr];exact if_neg fun h => h1 h.2
      clear hr
      have hd:decide (n < 0) = false:=by simp;omega
      have hd1:decide ((r.length:Int) < n) = true:=by simp;omega
      go_wp2_with fail
      go_ret3
      exact ⟨by rw [HR.out];rfl,ho⟩
  · have HR:Hid (rdT s = none):=by show _ = _;unfold rdT;rw [hr];exact if_neg fun h => h0 h.1
    clear hr
    have hd:decide (n < 0) = true:=by simp;omega
    go_wp2_with fail
    go_ret3
    exact ⟨by rw [HR.out];rfl,ho⟩
def bb (b:Bool):List UInt8:=[if b then 1 else 0]
def rdB:List UInt8 → Option (Bool × List UInt8)
 | [] => none
 | c :: r => if c.toNat ≤ 1 then some (c.toNat == 1,r) else none
def rdBV:Option (Bool × List UInt8) → Value
 | some (a,r) => .tuple #[.bool a,.string ⟨r.toArray⟩,.bool true]
 | none => .tuple #[.bool false,.string ⟨#[]⟩,.bool false]
theorem ref_bool (b:Bool) (w:World):Calls Tryz.prog 119 #[.bool b] w fun e w' => e = .returned (.string ⟨(bb b).toArray⟩) ∧ w = w':=by
 cases b
 all_goals
  go_enter Tryz.func119,Tryz.ntmps119
  go_wp2_with fail
  go_ret
  exact ⟨rfl,rfl⟩
theorem ref_toBool (s:List UInt8) (w:World) (hl:s.length ≤ 1000000000000):
 Calls Tryz.prog 187 #[.string ⟨s.toArray⟩] w fun e w' => e = .returned (rdBV (rdB s)) ∧ Only [] w w':=by
 match s,hl with
 | [],hl =>
  go_enter Tryz.func187,Tryz.ntmps187
  go_wp2_with fail
  go_ret3
  exact ⟨rfl,Only.refl _ _⟩
 | c :: r,hl =>
  have hix:∀ h:0 < (⟨(c :: r).toArray⟩:ByteArray).size,(⟨(c :: r).toArray⟩:ByteArray)[0]'h = c:=fun _ => rfl
  have hne:((c :: r) == ([]:List UInt8)) = false:=rfl
  have hlen:1 ≤ (c :: r).length:=by simp
  have hdr:(c :: r).drop 1 = r:=rfl
  have hc8:=c.toNat_lt
  by_cases h1:c.toNat ≤ 1
  · have HR:Hid (rdB (c :: r) = some (c.toNat == 1,r)):=by show _ = _;unfold rdB;exact if_pos h1
    have hd:decide ((1:Int) < c.toNat) = false:=by simp;omega
    obtain ⟨s,hs⟩:∃ s,c :: r = s:=⟨_,rfl⟩
    rw [hs] at hix hne hlen hdr hl HR ⊢
    clear hs
    go_enter Tryz.func187,Tryz.ntmps187
    go_wp2_with fail
    have heq:((c.toNat:Int) == 1) = (c.toNat == 1):=by
     rw [Bool.eq_iff_iff];simp;omega
    go_quiet (fail)
    rw [str_to_end,hdr]
    go_wp2_with fail
    go_ret3
    exact ⟨by rw [HR.out];rfl,oz.drewN _⟩
  · have HR:Hid (rdB (c :: r) = none):=by show _ = _;unfold rdB;exact if_neg h1
    have hd:decide ((1:Int) < c.toNat) = true:=by simp;omega
    obtain ⟨s,hs⟩:∃ s,c :: r = s:=⟨_,rfl⟩
    rw [hs] at hix hne hlen hdr hl HR ⊢
    clear hs
    go_enter Tryz.func187,Tryz.ntmps187
    go_wp2_with fail
    go_ret3
    exact ⟨by rw [HR.out];rfl,Only.refl _ _⟩
theorem codec_bool (b:Bool) (w:World):Calls Tryz.prog 150 #[.bool b] w fun e w' => e = .returned (.string ⟨(bb b).toArray⟩) ∧ w = w':=by
 cases b
 all_goals
  go_enter Tryz.func150,Tryz.ntmps150
  go_wp2_with fail
  go_ret
  exact ⟨rfl,rfl⟩
theorem codec_toBool (s:List UInt8) (w:World) (hl:s.length ≤ 1000000000000):
 Calls Tryz.prog 217 #[.string ⟨s.toArray⟩] w fun e w' => e = .returned (rdBV (rdB s)) ∧ Only [] w w':=by
 match s,hl with
 | [],hl =>
  go_enter Tryz.func217,Tryz.ntmps217
  go_wp2_with fail
  go_ret3
  exact ⟨rfl,Only.refl _ _⟩
 | c :: r,hl =>
  have hix:∀ h:0 < (⟨(c :: r).toArray⟩:ByteArray).size,(⟨(c :: r).toArray⟩:ByteArray)[0]'h = c:=fun _ => rfl
  have hne:((c :: r) == ([]:List UInt8)) = false:=rfl
  have hlen:1 ≤ (c :: r).length:=by simp
  have hdr:(c :: r).drop 1 = r:=rfl
  have hc8:=c.toNat_lt
  by_cases h1:c.toNat ≤ 1
  · have HR:Hid (rdB (c :: r) = some (c.toNat == 1,r)):=by show _ = _;unfold rdB;exact if_pos h1
    have hd:decide ((1:Int) < c.toNat) = false:=by simp;omega
    obtain ⟨s,hs⟩:∃ s,c :: r = s:=⟨_,rfl⟩
    rw [hs] at hix hne hlen hdr hl HR ⊢
    clear hs
    go_enter Tryz.func217,Tryz.ntmps217
    go_wp2_with fail
    have heq:((c.toNat:Int) == 1) = (c.toNat == 1):=by
     rw [Bool.eq_iff_iff];simp;omega
    go_quiet (fail)
    rw [str_to_end,hdr]
    go_wp2_with fail
    go_ret3
    exact ⟨by rw [HR.out];rfl,oz.drewN _⟩
  · have HR:Hid (rdB (c :: r) = none):=by show _ = _;unfold rdB;exact if_neg h1
    have hd:decide ((1:Int) < c.toNat) = true:=by simp;omega
    obtain ⟨s,hs⟩:∃ s,c :: r = s:=⟨_,rfl⟩
    rw [hs] at hix hne hlen hdr hl HR ⊢
    clear hs
    go_enter Tryz.func217,Tryz.ntmps217
    go_wp2_with fail
    go_ret3
    exact ⟨by rw [HR.out];rfl,Only.refl _ _⟩
def putL (cs:List Value):Nat → List Value → List Value
 | _,[] => cs
 | o,v :: r => putL (cs.set o v) (o + 1) r
theorem putL_length:∀ (l:List Value) (o:Nat) (cs:List Value),(putL cs o l).length = cs.length
 | [],_,_ => rfl
 | v :: r,o,cs => by unfold putL;rw [putL_length r,List.length_set]
theorem putL_eq:∀ (l:List Value) (o:Nat) (cs:List Value),o + l.length ≤ cs.length → putL cs o l = cs.take o ++ l ++ cs.drop (o + l.length)
 | [],o,cs,_ => by simp [putL]
 | v :: r,o,cs,h => by
  rw [List.length_cons] at h
  unfold putL
  rw [putL_eq r (o + 1) _ (by rw [List.length_set];omega)]
  have h1:(cs.set o v).take (o + 1) = cs.take o ++ [v]:=by
   rw [List.take_add_one,List.getElem?_set_self (by omega),List.take_set_of_le (Nat.le_refl _)];rfl
  rw [h1,List.drop_set_of_lt (by omega),List.length_cons,show o + 1 + r.length = o + (r.length + 1) from by omega]
  simp
theorem Cells.setMany {w:World} {b:Nat} {t:TypeId} {cs:List Value} (h:Cells w b t cs) (o:Nat) (l:List Value):Cells (w.setCells b o l) b t (putL cs o l):=by
 induction l generalizing w cs o with
 | nil => exact h
 | cons v r ih => exact ih (h.set o v) (o + 1)
theorem Only.setCells {S:List Nat} {a w:World} (h:Only S a w) {b:Nat} (hb:b ∈ S ∨ a.heap.size ≤ b) (o:Nat) (l:List Value):Only S a (w.setCells b o l):=by
 induction l generalizing w o with
 | nil => exact h
 | cons v r ih => exact ih (h.setCell (p:=⟨b,o,none⟩) hb v) (o + 1)
theorem wpList_room {P:Program} (w:World) {ops:Array Oper} {rest:List Oper} {o:Oper} {a:Act} {Q:Exit → Act → World → Prop}
 (hg:o.guard = none) (s x:Operand) (t:TypeId) (hop:o.op = Op.call { callee:=Callee.builtin Builtin.append,args:=#[s,x],argTypes:=#[t,t] })
 (e:TypeId) (i:TypeInfo) (k:Nat) (ht:P.underlying t = some (.slice e)) (hi:P.info? e = some i) (hk:i.size = k)
 (b n cap:Nat) (cs:List Value) (hC:Cells w b e cs) (hs:a.eval s = .slice (some ⟨b,0,none⟩) n cap) (ad:Addr) (m c:Nat) (news:List Value) (hx:a.eval x = .slice (some ad) m c) (hn:news.length = m * k)
 (hc:∀ j u,news[j]? = some u → w.cell? (ad.add j) = some u) (h1c:∀ u ∈ news,u.oneCell' = true) (hroom:n + m ≤ cap) (hcap:cs.length = cap * k)
 (hK:wpList P ops Q rest (a.put o.dst (.slice (some ⟨b,0,none⟩) (n + m) cap)) (w.setCells b (n * k) news)):
 wpList P ops Q (o :: rest) a w:=by
 refine wpList_plain hg fun K hK' => ?_
 subst hk
 have hle:n * i.size + news.length ≤ cs.length:=by rw [hn,hcap,← Nat.add_mul];exact Nat.mul_le_mul_right _ hroom
 have hrun:=run_append_room_cells (P:=P) w t o.type e i ht hi b 0 n cap ad m c news hn hc h1c hroom
  (fun j hj => by rw [Nat.zero_add,hC.cell (List.getElem?_eq_getElem (by omega))];rfl) (fun j hj => hC.frozen _)
 rw [Nat.zero_add] at hrun
 unfold Oper.wp
 simp [execOp,hop,resolve,invoke,builtin,hs,hx,hrun,Result.andThen]
 exact hK' _ _ hK
theorem run_clear_cells {P:Program} (w:World) (t e ty:TypeId) (z:Value) (k:Nat) (ht:P.underlying t = some (.slice e)) (hv:∀ w,(zeroValue e).run P w = .ok z w) (hz:z.cells.size = k) (h1:∀ u ∈ z.cells.toList,u.oneCell' = true) (b o n c:Nat) (cs:List Value) (hC:Cells w b e cs)
 (hn:0 < n) (hle:o + n * k ≤ cs.length):
 ∃ zs:List Value,zs.length = n * k ∧ (∀ u ∈ zs,u.oneCell' = true) ∧ (Builtin.clear_ #[t] ty #[.slice (some ⟨b,o,none⟩) n c]).run P w = .ok (.tuple #[]) (w.setCells b o zs):=by
 have hlen:(Builtin.zeroCells z.cells n).toList.length = n * k:=by simp [Builtin.zeroCells,hz]
 have hone:∀ u ∈ (Builtin.zeroCells z.cells n).toList,u.oneCell' = true:=by
  intro u hu
  obtain ⟨j,hj,hju⟩:=List.mem_iff_getElem.1 hu
  have hpos:0 < z.cells.size:=by
   rcases Nat.eq_zero_or_pos z.cells.size with h | h
   · rw [hlen,← hz,h] at hj;omega
   · exact h
  simp [Builtin.zeroCells] at hju
  have hlt:j % z.cells.size < z.cells.size:=Nat.mod_lt _ hpos
  rw [getElem!_pos z.cells (j % z.cells.size) hlt] at hju
  subst hju
  exact h1 _ (by simp)
 refine ⟨(Builtin.zeroCells z.cells n).toList,hlen,hone,?_⟩
 have hst:=run_storeCells_cells (P:=P) b o (Builtin.zeroCells z.cells n).toList 0 w (fun j hj => by rw [Nat.add_zero,hC.cell (List.getElem?_eq_getElem (by omega))];rfl) (fun j hj => hC.frozen _) hone
 simp only [Nat.add_zero] at hst
 obtain ⟨m,rfl⟩:∃ m,n = m + 1:=⟨n - 1,by omega⟩
 simp [Builtin.clear_,run_underlying ht,hv,hst]
theorem own_block {w:World} {base:Nat} {e:TypeId} {sz n:Nat} {v:Value} {xs:List Value} (h:w.ownsRow base e sz v n xs) (hn:0 < n):
 ∃ g cap cs,v = .slice (some ⟨g,0,none⟩) n cap ∧ base ≤ g ∧ Cells w g e cs ∧ n ≤ cap ∧ cap ≤ maxLen ∧ cs.length = cap * sz ∧ cs.take (n * sz) = xs:=by
 obtain ⟨_,h⟩:=h
 rcases h with ⟨_,h0⟩ | ⟨g,cap,cur,hv,hb,hh,hnc,hcm,hs,hx⟩
 · omega
 · exact ⟨g,cap,cur.toList,hv,hb,hh,hnc,hcm,by simpa using hs,hx⟩
theorem block_own {w:World} {base:Nat} {e:TypeId} {sz n g cap:Nat} {cs xs:List Value} (hb:base ≤ g) (hC:Cells w g e cs) (hnc:n ≤ cap) (hcm:cap ≤ maxLen) (hl:cs.length = cap * sz) (hx:cs.take (n * sz) = xs):
 w.ownsRow base e sz (.slice (some ⟨g,0,none⟩) n cap) n xs:=
 ⟨by rw [← hx,List.length_take,hl,Nat.min_eq_left (Nat.mul_le_mul_right _ hnc)],.inr ⟨g,cap,cs.toArray,rfl,hb,hC,hnc,hcm,by simpa using hl,by simpa using hx⟩⟩
section
variable {P:Program} {ops:Array Oper} {md:Region.Mode} {C:World → Prop}
def headQ (P:Program) (md:Region.Mode) (ops:Array Oper) (C:World → Prop) (n:Nat) (L:Array Bool → Act → Prop):Nat → Array Bool → Act → Prop
 | 0,ls,a => L ls a
 | k + 1,ls,a => Region.ready md ops ls ≠ [] ∧ ∀ i,i ∈ Region.ready md ops ls → i < n ∧ qOp P ops C i (headQ P md ops C n L k (ls.setIfInBounds i true)) a
theorem headQ_any {n g:Nat} {L:Array Bool → Act → Prop} {Q':Exit → Act → World → Prop} (hL:∀ ls a w,C w → L ls a → wpAny P md ops Q' g ls a w) (k:Nat):
 ∀ (ls:Array Bool) (a:Act) (w:World),C w → headQ P md ops C n L k ls a → wpAny P md ops Q' (k + g) ls a w:=by
 induction k with
 | zero => intro ls a w hw h;rw [Nat.zero_add];exact hL _ _ _ hw h
 | succ k ih =>
  intro ls a w hw h
  rw [show k + 1 + g = (k + g) + 1 from by omega]
  exact ⟨fun h0 => absurd h0 h.1,fun i hi => wpOp_of_qOp hw (fun a' w' hw' h' => ih _ a' w' hw' h') (h.2 i hi).2⟩
theorem headQ_take {n i:Nat} {oi:Oper} {v:Value} {L:Array Bool → Act → Prop} (hi:ops[i]? = some oi) (hsel:∀ (j:Nat) (o:Oper) cs b,ops[j]? = some o → o.op ≠ .select cs b)
 (hs:Region.sinkB md ops n = true) (hc:Region.chainB md ops n = true) (hn:n < ops.size) (hin:i < n) (hdone:∀ ls a,L ls a → ∀ j,j ∈ Region.ready md ops ls → n ≤ j) (k:Nat):
 ∀ (ls:Array Bool) (a:Act),HeadInv md ops n ls →
  (∀ j oj,ops[j]? = some oj → j ≠ i → ls.getD j true = false → (∀ e ∈ oj.after,Region.binds md e = true → e.on ≠ i) → oi.apart ops oj = true) →
  i ∈ Region.ready md ops ls → YieldsIn P ops C oi v a → headQ P md ops C n L k (ls.setIfInBounds i true) (a.put oi.dst v) → headQ P md ops C n L (k + 1) ls a:=by
 induction k with
 | zero =>
  intro ls a inv _ hr hy H
  have hun:=(mem_ready.1 hr).1
  refine ⟨fun h => by rw [h] at hr;(cases hr),fun j hj => ?_⟩
  by_cases hji:j = i
  · subst hji;exact ⟨hin,hy.qOp hi H⟩
  · have h1:=hdone _ _ H j (ready_mono hj hji)
    exact absurd hj (tail_waits hs hc hn inv _ i rfl hin hun j h1)
 | succ k ih =>
  intro ls a inv hfree hr hy H
  have hun:=(mem_ready.1 hr).1
  refine ⟨fun h => by rw [h] at hr;(cases hr),fun j hj => ?_⟩
  have hjn:j < n:=Nat.lt_of_not_le fun h => tail_waits hs hc hn inv _ i rfl hin hun j h hj
  refine ⟨hjn,?_⟩
  by_cases hji:j = i
  · subst hji;exact hy.qOp hi H
  obtain ⟨hju,oj,hoj,hall⟩:=mem_ready.1 hj
  have hnot:∀ e ∈ oj.after,Region.binds md e = true → e.on ≠ i:=fun e he hb heq => by
   have h1:=hall e he hb
   rw [heq,getD_both hun] at h1
   cases h1
  have h2:=qOp_put hoj (hfree j oj hoj hji hju hnot) (fun cs b => hsel i oi cs b hi) (fun cs b => hsel j oj cs b hoj) hy ((H.2 j (ready_mono hj hji)).2)
  refine qOp_mono (fun a' h3 => ih (ls.setIfInBounds j true) a' (inv.set hj hjn) (fun m om hm hmi hmu hno => hfree m om hm hmi ?_ hno) (ready_mono hr (Ne.symm hji)) h3.1 ?_) h2
  · by_cases hjm:j = m
    · subst hjm;exact hju
    · rw [getD_set_ne true hjm] at hmu;exact hmu
  · rw [Array.setIfInBounds_comm _ _ hji]
    exact h3.2
theorem headQ_lex {n g:Nat} {Lq:Act → Prop} (hsel:Region.noSelect ops = true) (hs:Region.sinkB md ops n = true) (hc:Region.chainB md ops n = true) (hn:n < ops.size) (l:List Oper):
 ∀ (k:Nat) (ls:Array Bool) (a:Act),(∀ j,j < l.length → l[j]? = ops[k + j]?) → k + l.length = n → HeadInv md ops n ls → Region.lexHead md ops g l.length k ls = true → wpQuiet P ops C Lq l a →
 headQ P md ops C n (fun ls' a' => Region.seqB md ops g n ls' = true ∧ Lq a') l.length ls a:=by
 induction l with
 | nil =>
  intro k ls a _ hk _ hB h
  obtain rfl:k = n:=by simpa using hk
  exact ⟨by simpa [Region.lexHead] using hB,h⟩
 | cons o l ih =>
  intro k ls a hl hk inv hB h
  rw [List.length_cons] at hk hl
  have h0:ops[k]? = some o:=by simpa using (hl 0 (by omega)).symm
  simp only [List.length_cons,Region.lexHead,Bool.and_eq_true] at hB
  obtain ⟨⟨hr,hf⟩,hB'⟩:=hB
  have hr':k ∈ Region.ready md ops ls:=by simpa using hr
  have hst:qOp P ops C k (wpQuiet P ops C Lq l) a:=by unfold qOp;simp only [h0];exact h
  obtain ⟨v,hy,hK⟩:=yieldsIn_of_qOp h0 hst
  exact headQ_take h0 (Region.noSelect_spec hsel) hs hc hn (by omega) (fun ls' a' hL => seqB_ready hL.1) l.length ls a inv (Region.free_spec h0 hf) hr' hy
   (ih (k + 1) _ _ (fun j hj => by have:=hl (j + 1) (by omega);simpa [Nat.add_assoc,Nat.add_comm 1 j] using this) (by omega) (inv.set hr' (by omega)) hB' hK)
theorem wp_region_quiet_tail {id:Nat} {Q:Exit → Act → World → Prop} {a:Act} {w:World} {l:List Oper} (n:Nat) (hm:P.follows .mixedOrders = true) (hB:Region.lexTailB .any l.toArray n = true) (hC:C w.drew)
 (h:wpQuiet P l.toArray C (fun a' => ∀ w',C w' → wpList P l.toArray Q (l.drop n) a' w') (l.take n) a):(Code.region id l.toArray true).wp P Q a w:=by
 simp only [Region.lexTailB,Bool.and_eq_true,decide_eq_true_eq] at hB
 obtain ⟨⟨⟨⟨hsel,hn⟩,hs⟩,hc⟩,hlex⟩:=hB
 have hn':n < l.length:=by simpa using hn
 have htl:(l.take n).length = n:=by simp;omega
 have hdl:(l.drop n).length = l.toArray.size - n:=by simp
 have inv0:HeadInv .any l.toArray n (Array.replicate l.toArray.size false):=
  ⟨by simp,fun j oj _ hl => by rw [getD_replicate_false] at hl;(cases hl),fun t _ ht => getD_in (by simpa using ht) (getD_replicate_false _ _)⟩
 have H:=headQ_lex (md:=.any) (g:=l.toArray.size - n) hsel hs hc hn (l.take n) 0 _ a (fun j hj => by rw [htl] at hj;simp [hj]) (by simpa using htl) inv0 (by rw [htl];exact hlex) h
 refine wp_region_any hm ?_
 have:=headQ_any (Q':=Q) (g:=l.toArray.size - n) (fun ls a' w' hw' hL => by
  have:=wpAny_of_seq (md:=.any) (Q':=Q) (l.drop n) n ls a' w' (fun j => by simp [List.getElem?_drop]) (by rw [hdl];exact hL.1) (hL.2 w' hw')
  rwa [hdl] at this) _ _ _ _ hC H
 rw [htl,show n + (l.toArray.size - n) = l.toArray.size from by omega] at this
 exact this
end
theorem wp_region_only_tail {P:Program} {id:Nat} {Q:Exit → Act → World → Prop} {a:Act} {w:World} {l:List Oper} (W:World) (hw:Only [] W w) (n:Nat) (hm:P.follows .mixedOrders = true) (hB:Region.lexTailB .any l.toArray n = true)
 (h:wpQuiet P l.toArray (fun w' => ∃ u:Since W,w' = u.w) (fun a' => ∀ u:Since W,wpList P l.toArray Q (l.drop n) a' u.w) (l.take n) a):(Code.region id l.toArray true).wp P Q a w:=by
 refine wp_region_quiet_tail (C:=fun w' => ∃ u:Since W,w' = u.w) n hm hB ⟨⟨_,hw.drew⟩,rfl⟩ ?_
 have:(fun a' => ∀ w',(∃ u:Since W,w' = u.w) → wpList P l.toArray Q (l.drop n) a' w') = (fun a' => ∀ u:Since W,wpList P l.toArray Q (l.drop n) a' u.w):=by
  funext a'
  exact propext ⟨fun h u => h _ ⟨u,rfl⟩,fun h w' ⟨u,hu⟩ => hu ▸ h u⟩
 rw [this]
 exact h
theorem calls_same {P:Program} {f:FuncId} {args:Array Value} {w:World} {R R':Value → World → Prop} (hf:P.inits.idxOf? f = none)
 (h:Calls P f args w fun e w' => ∃ u,e = .returned u ∧ R u w') (h':Calls P f args w fun e w' => ∃ u,e = .returned u ∧ R' u w'):∃ u w1 w2,R u w1 ∧ R' u w2:=by
 obtain ⟨e,w1,fr,⟨u,rfl,hr⟩,⟨n,hn⟩,hfn,hl⟩:=h []
 obtain ⟨e',w2,fr2,⟨u',rfl,hr'⟩,⟨n2,hn2⟩,hfn2,hl2⟩:=h' []
 have h1:=step_leave_done hl (by rw [hfn];exact hf)
 have h2:=step_leave_done hl2 (by rw [hfn2];exact hf)
 have e1:runN P (n + 1) (lone (Frame.enter P f args .normal) [] w) = .ended (.done u) w1:=by rw [runN_add,hn];simp [runN,h1]
 have e2:runN P (n2 + 1) (lone (Frame.enter P f args .normal) [] w) = .ended (.done u') w2:=by rw [runN_add,hn2];simp [runN,h2]
 have:=runN_same_end e1 e2
 injection this with this
 subst this
 exact ⟨u,w1,w2,hr,hr'⟩
structure Lasts (V:Value → World → Prop):Prop where
 keep:∀ u w w' (S:List Nat),V u w → Only S w w' → (∀ b,b ∈ S → u.ownBlock ≠ some b) → V u w'
 lies:∀ u w b,V u w → u.ownBlock = some b → b < w.heap.size
abbrev Words:=List (Tmp × (Value → World → Prop))
abbrev Eats:=List (Tmp × Tmp)
def eats (E:Eats) (o:Oper):List Tmp:=(E.filter fun x => o.dst == some x.1).map (·.2)
def eaten (E:Eats) (val:Tmp → Value) (o:Oper):List Nat:=(eats E o).flatMap fun d => (val d).ownBlock.toList
structure Own where
 i:Nat
 bs:List Nat
 row:Bool
 ds:List Tmp
 F:List Value → World → Prop
abbrev Mine:=List Own
def mine (M:Mine) (i:Nat):List Nat:=(M.filter fun x => x.i == i).flatMap (·.bs)
def markEdge (m:Array Bool) (e:Edge):Array Bool:=if Region.binds .any e then m.setIfInBounds e.on true else m
def markStep (ops:Array Oper) (m:Array Bool) (k:Nat):Array Bool:=
 if m.getD k false then (match ops[k]? with
  | some o => o.after.toList.foldl markEdge m
  | none => m) else m
def marks (ops:Array Oper) (t:Nat):Array Bool:=(List.range (t + 1)).reverse.foldl (markStep ops) ((Array.replicate ops.size false).setIfInBounds t true)
def others (ops:Array Oper) (M:Mine) (i:Nat):List Nat:=(M.filter fun x => x.i != i && !(marks ops x.i).getD i false).flatMap (·.bs)
def rows (M:Mine) (i:Nat):List Nat:=(M.filter fun x => x.i == i && x.row).flatMap (·.bs)
def allM (M:Mine):List Nat:=M.flatMap (·.bs)
def outs (P:Program) (w:World) (R:Value → World → Prop):Result Next → Prop
 | .ok (.value u) w' => R u w'
 | .ok .skip w' => R undef w'
 | .ok (.enter f args) w' => w' = w ∧ P.inits.idxOf? f = none ∧ Calls P f args w fun e w'' => ∃ u,e = .returned u ∧ R u w''
 | _ => False
section
variable {P:Program} {ops:Array Oper} {W:World} {Vs:Words} {E:Eats} {M:Mine}
def leans (ops:Array Oper) (W:World) (Vs:Words) (M:Mine) (i:Nat) (val:Tmp → Value) (o:Oper) (w:World):Prop:=Only (others ops M i) W w ∧ ∀ p,p ∈ Vs → p.1 ∈ o.looksAt ops → p.2 (val p.1) w
def fresh (E:Eats) (M:Mine) (i:Nat) (val:Tmp → Value) (o:Oper) (w:World) (u:Value):Prop:=∀ b,u.ownBlock = some b → w.heap.size ≤ b ∨ b ∈ rows M i ++ eaten E val o
def fitsV (P:Program) (ops:Array Oper) (W:World) (Vs:Words) (E:Eats) (M:Mine) (i:Nat) (val:Tmp → Value) (o:Oper) (v:Value) (a:Act):Prop:=
 (Region.wanted o (yielded ops a.tmps) = true ∧ (∀ p,p ∈ Vs → o.dst = some p.1 → v = val p.1) ∧
  ∀ w,leans ops W Vs M i val o w → outs P w (fun u w' => Only (mine M i ++ eaten E val o) w w' ∧ (∀ p,p ∈ Vs → o.dst = some p.1 → p.2 u w' ∧ fresh E M i val o w u) ∧ (∀ x,x ∈ M → x.i = i → x.row = false → x.F (x.ds.map val) w') ∧ ((∀ p,p ∈ Vs → o.dst ≠ some p.1) → u = v)) ((execOp a.eval o).run P w)) ∨
 (Region.wanted o (yielded ops a.tmps) = false ∧ v = undef ∧ (∀ p,p ∈ Vs → o.dst ≠ some p.1) ∧ ∀ x,x ∈ M → x.i ≠ i)
def wpFit (P:Program) (ops:Array Oper) (W:World) (Vs:Words) (E:Eats) (M:Mine) (val:Tmp → Value) (Q:Act → Prop):Nat → List Oper → Act → Prop
 | _,[],a => Q a
 | i,o :: rest,a => ∃ v,fitsV P ops W Vs E M i val o v a ∧ wpFit P ops W Vs E M val Q (i + 1) rest (a.put o.dst v)
def fitOp (P:Program) (ops:Array Oper) (W:World) (Vs:Words) (E:Eats) (M:Mine) (val:Tmp → Value) (i:Nat) (K:Act → Prop) (a:Act):Prop:=
 match ops[i]? with
 | none => K a
 | some o => ∃ v,fitsV P ops W Vs E M i val o v a ∧ K (a.put o.dst v)
theorem fitOp_mono {val:Tmp → Value} {i:Nat} {a:Act} {K K':Act → Prop} (h:∀ a,K a → K' a) (hh:fitOp P ops W Vs E M val i K a):fitOp P ops W Vs E M val i K' a:=by
 unfold fitOp at *
 split
 · rename_i ho;simp only [ho] at hh;exact h _ hh
 · rename_i o ho
   simp only [ho] at hh
   obtain ⟨v,h1,h2⟩:=hh
   exact ⟨v,h1,h _ h2⟩
theorem fitsV.put {i:Nat} {val:Tmp → Value} {o:Oper} {v:Value} {a:Act} (hs:∀ cs b,o.op ≠ .select cs b) {dst:Option Tmp} {u:Value} (h:∀ d,dst = some d → d ∉ o.looksAt ops):fitsV P ops W Vs E M i val o v (a.put dst u) ↔ fitsV P ops W Vs E M i val o v a:=by
 unfold fitsV
 rw [wanted_put o a dst u h,execOp_put o hs a dst u h]
theorem fitOp_put {val:Tmp → Value} {i j:Nat} {oi oj:Oper} {v:Value} (hj:ops[j]? = some oj) (hap:oi.apart ops oj = true) (hsi:∀ cs b,oi.op ≠ .select cs b) (hsj:∀ cs b,oj.op ≠ .select cs b) {K:Act → Prop} {a:Act}
 (hy:fitsV P ops W Vs E M i val oi v a) (h:fitOp P ops W Vs E M val j K (a.put oi.dst v)):fitOp P ops W Vs E M val j (fun a' => fitsV P ops W Vs E M i val oi v a' ∧ K (a'.put oi.dst v)) a:=by
 obtain ⟨h1,h2,h3⟩:=Oper.apart_spec hap
 unfold fitOp at *
 simp only [hj] at *
 obtain ⟨u,hu,hk⟩:=h
 exact ⟨u,(fitsV.put hsj h1).1 hu,(fitsV.put hsi h3).2 hy,by rw [← Act.put_comm a v u h2];exact hk⟩
theorem marks_listed' {ls:Array Bool} (hcl:∀ j oj,ops[j]? = some oj → ls.getD j false = true → ∀ e ∈ oj.after,Region.binds .any e = true → ls.getD e.on false = true) {t:Nat} (hall:∀ ot,ops[t]? = some ot → ∀ e ∈ ot.after,Region.binds .any e = true → ls.getD e.on false = true) (p:Nat) (hp:(marks ops t).getD p false = true):
 p = t ∨ ls.getD p false = true:=by
 have inner:∀ (es:List Edge) (m:Array Bool),(∀ e ∈ es,Region.binds .any e = true → ls.getD e.on false = true) → (∀ p,m.getD p false = true → p = t ∨ ls.getD p false = true) →
  ∀ p,(es.foldl markEdge m).getD p false = true → p = t ∨ ls.getD p false = true:=by
  intro es
  induction es with
  | nil => intro m _ h;exact h
  | cons e es ih2 =>
   intro m hes hm
   refine ih2 _ (fun x hx => hes x (List.mem_cons_of_mem _ hx)) ?_
   intro p hp
   unfold markEdge at hp
   split at hp
   · rename_i hb
     by_cases hpe:e.on = p
     · subst hpe
       exact .inr (hes e List.mem_cons_self hb)
     · rw [getD_set_ne false hpe] at hp
       exact hm p hp
   · exact hm p hp
 have key:∀ (l:List Nat) (m:Array Bool),(∀ p,m.getD p false = true → p = t ∨ ls.getD p false = true) → ∀ p,(l.foldl (markStep ops) m).getD p false = true → p = t ∨ ls.getD p false = true:=by
  intro l
  induction l with
  | nil => intro m h;exact h
  | cons k l ih =>
   intro m h
   refine ih _ ?_
   intro p hp
   unfold markStep at hp
   split at hp
   · rename_i hk
     cases ho:ops[k]? with
     | none => rw [ho] at hp;exact h p hp
     | some o =>
      rw [ho] at hp
      refine inner o.after.toList m (fun e he => ?_) h p hp
      have he':e ∈ o.after:=by simpa using he
      rcases h k hk with rfl | hk'
      · exact hall o ho e he'
      · exact hcl k o ho hk' e he'
   · exact h p hp
 refine key _ _ (fun p hp => ?_) p hp
 by_cases hpt:t = p
 · exact .inl hpt.symm
 · rw [getD_set_ne false hpt] at hp
   rw [getD_replicate_false] at hp
   cases hp
theorem marks_listed {ls:Array Bool} (hcl:∀ j oj,ops[j]? = some oj → ls.getD j false = true → ∀ e ∈ oj.after,Region.binds .any e = true → ls.getD e.on false = true) {t:Nat} (ht:t ∈ Region.ready .any ops ls) (p:Nat) (hp:(marks ops t).getD p false = true):
 p = t ∨ ls.getD p false = true:=by
 obtain ⟨_,ot,hot,hall⟩:=mem_ready.1 ht
 exact marks_listed' hcl (fun o ho => by obtain rfl:ot = o:=Option.some.inj (hot.symm.trans ho);exact hall) p hp
def headB (ops:Array Oper) (tail:Array Bool → Bool):List Nat → Array Bool → Bool
 | [],ls => tail ls
 | i :: is,ls => (Region.ready .any ops ls).contains i && Region.free .any ops ls i && headB ops tail is (ls.setIfInBounds i true)
def tailB (ops:Array Oper):List Nat → Array Bool → Bool
 | [],ls => (Region.ready .any ops ls).isEmpty
 | j :: js,ls => decide (Region.ready .any ops ls = [j]) && tailB ops js (ls.setIfInBounds j true)
def wordsB (ops:Array Oper) (ds:List Tmp):Bool:=
 (List.range ops.size).all fun j => match ops[j]? with
  | none => true
  | some oj => (ds.all fun d => !(oj.looksAt ops).contains d || oj.after.toList.any fun e => Region.binds .any e && match ops[e.on]? with
   | some oi => oi.dst == some d
   | none => false) && (ds.all fun d => oj.dst != some d || (List.range ops.size).all fun i => i == j || match ops[i]? with
   | some oi => oi.dst != some d
   | none => true)
def eatsB (ops:Array Oper) (E:Eats) (ds:List Tmp):Bool:=
 (List.range ops.size).all fun j => match ops[j]? with
  | none => true
  | some oj => (eats E oj).all fun d => (oj.looksAt ops).contains d && ds.contains d && (List.range ops.size).all fun i => i == j || match ops[i]? with
   | some oi => !(oi.looksAt ops).contains d
   | none => true
def pendB (ops:Array Oper) (is js:List Nat) (ds:List Tmp) (E:Eats):Bool:=
 Region.noSelect ops && eatsB ops E ds && (ds.all fun d => is.any fun i => match ops[i]? with
  | some o => o.dst == some d
  | none => false) && wordsB ops ds && (js.all fun t => is.all fun i => (marks ops t).getD i false && i != t) && decide (is.length + js.length = ops.size) && headB ops (tailB ops js) is (Array.replicate ops.size false)
structure Closed (ops:Array Oper) (ls:Array Bool):Prop where
 size:ls.size = ops.size
 closed:∀ j oj,ops[j]? = some oj → ls.getD j false = true → ∀ e ∈ oj.after,Region.binds .any e = true → ls.getD e.on false = true
theorem Closed.set {ls:Array Bool} (h:Closed ops ls) {i:Nat} (hi:i ∈ Region.ready .any ops ls):Closed ops (ls.setIfInBounds i true):=by
 obtain ⟨_,oi,hoi,hall⟩:=mem_ready.1 hi
 refine ⟨by simp [h.size],fun j oj hj hl e he hb => ?_⟩
 by_cases hij:i = j
 · subst hij
   obtain rfl:oj = oi:=Option.some.inj (hj.symm.trans hoi)
   exact getD_set_true (hall e he hb)
 · rw [getD_set_ne false hij] at hl
   exact getD_set_true (h.closed j oj hj hl e he hb)
def headV (P:Program) (ops:Array Oper) (W:World) (Vs:Words) (E:Eats) (M:Mine) (val:Tmp → Value) (js:List Nat) (L:Array Bool → Act → Prop):Nat → Array Bool → Act → Prop
 | 0,ls,a => L ls a
 | k + 1,ls,a => Region.ready .any ops ls ≠ [] ∧ ∀ i,i ∈ Region.ready .any ops ls → i ∉ js ∧ fitOp P ops W Vs E M val i (headV P ops W Vs E M val js L k (ls.setIfInBounds i true)) a
theorem headV_take {val:Tmp → Value} {js:List Nat} {i:Nat} {oi:Oper} {v:Value} {L:Array Bool → Act → Prop} (hi:ops[i]? = some oi) (hsel:∀ (j:Nat) (o:Oper) cs b,ops[j]? = some o → o.op ≠ .select cs b)
 (hs:∀ t,t ∈ js → (marks ops t).getD i false = true ∧ i ≠ t) (hdone:∀ ls a,L ls a → ∀ j,j ∈ Region.ready .any ops ls → j ∈ js) (k:Nat):
 ∀ (ls:Array Bool) (a:Act),Closed ops ls →
  (∀ j oj,ops[j]? = some oj → j ≠ i → ls.getD j true = false → (∀ e ∈ oj.after,Region.binds .any e = true → e.on ≠ i) → oi.apart ops oj = true) →
  i ∈ Region.ready .any ops ls → fitsV P ops W Vs E M i val oi v a → headV P ops W Vs E M val js L k (ls.setIfInBounds i true) (a.put oi.dst v) → headV P ops W Vs E M val js L (k + 1) ls a:=by
 have waits:∀ ls,Closed ops ls → ls.getD i true = false → ∀ j,j ∈ js → j ∉ Region.ready .any ops ls:=by
  intro ls inv hun j hj hr
  obtain ⟨h1,h2⟩:=hs j hj
  rcases marks_listed inv.closed hr i h1 with h | h
  · exact h2 h
  · rw [getD_both hun] at h;cases h
 have own:∀ (K:Act → Prop) a,fitsV P ops W Vs E M i val oi v a → K (a.put oi.dst v) → fitOp P ops W Vs E M val i K a:=fun K a hy h => by
  unfold fitOp;simp only [hi];exact ⟨v,hy,h⟩
 induction k with
 | zero =>
  intro ls a inv _ hr hy H
  have hun:=(mem_ready.1 hr).1
  refine ⟨fun h => by rw [h] at hr;(cases hr),fun j hj => ?_⟩
  by_cases hji:j = i
  · subst hji;exact ⟨fun hm => waits ls inv hun j hm hj,own _ _ hy H⟩
  · exact absurd hj (waits ls inv hun j (hdone _ _ H j (ready_mono hj hji)))
 | succ k ih =>
  intro ls a inv hfree hr hy H
  have hun:=(mem_ready.1 hr).1
  refine ⟨fun h => by rw [h] at hr;(cases hr),fun j hj => ⟨fun hm => waits ls inv hun j hm hj,?_⟩⟩
  by_cases hji:j = i
  · subst hji;exact own _ _ hy H
  obtain ⟨hju,oj,hoj,hall⟩:=mem_ready.1 hj
  have hnot:∀ e ∈ oj.after,Region.binds .any e = true → e.on ≠ i:=fun e he hb heq => by
   have h1:=hall e he hb
   rw [heq,getD_both hun] at h1
   cases h1
  have h2:=fitOp_put hoj (hfree j oj hoj hji hju hnot) (fun cs b => hsel i oi cs b hi) (fun cs b => hsel j oj cs b hoj) hy ((H.2 j (ready_mono hj hji)).2)
  refine fitOp_mono (fun a' h3 => ih (ls.setIfInBounds j true) a' (inv.set hj) (fun m om hm hmi hmu hno => hfree m om hm hmi ?_ hno) (ready_mono hr (Ne.symm hji)) h3.1 ?_) h2
  · by_cases hjm:j = m
    · subst hjm;exact hju
    · rw [getD_set_ne true hjm] at hmu;exact hmu
  · rw [Array.setIfInBounds_comm _ _ hji]
    exact h3.2
theorem tailB_ready {js:List Nat} {ls:Array Bool} (h:tailB ops js ls = true):∀ j,j ∈ Region.ready .any ops ls → j ∈ js:=by
 cases js with
 | nil => intro j hj;simp only [tailB,List.isEmpty_iff] at h;rw [h] at hj;cases hj
 | cons i js =>
  intro j hj
  simp only [tailB,Bool.and_eq_true,decide_eq_true_eq] at h
  rw [h.1] at hj
  simp at hj
  simp [hj]
theorem headV_list {val:Tmp → Value} {js:List Nat} {Lq:Act → Prop} (hsel:∀ (j:Nat) (o:Oper) cs b,ops[j]? = some o → o.op ≠ .select cs b) (l:List Oper):
 ∀ (k:Nat) (ls:Array Bool) (a:Act),(∀ i,i ∈ List.range' k l.length → ∀ t,t ∈ js → (marks ops t).getD i false = true ∧ i ≠ t) → (∀ j,j < l.length → ops[k + j]? = l[j]?) → Closed ops ls → headB ops (tailB ops js) (List.range' k l.length) ls = true → wpFit P ops W Vs E M val Lq k l a →
 headV P ops W Vs E M val js (fun ls' a' => tailB ops js ls' = true ∧ Lq a') l.length ls a:=by
 induction l with
 | nil =>
  intro k ls a _ _ _ hB h
  exact ⟨by simpa [headB] using hB,h⟩
 | cons o l ih =>
  intro k ls a hs hl inv hB h
  have h0:ops[k]? = some o:=by simpa using hl 0 (by simp)
  rw [List.length_cons,List.range'_succ] at hB
  simp only [headB,Bool.and_eq_true] at hB
  obtain ⟨⟨hr,hf⟩,hB'⟩:=hB
  have hr':k ∈ Region.ready .any ops ls:=by simpa using hr
  obtain ⟨v,hy,hk⟩:=h
  exact headV_take h0 hsel (hs k (by rw [List.length_cons,List.range'_succ];simp)) (fun ls' a' hL => tailB_ready hL.1) l.length ls a inv (Region.free_spec h0 hf) hr' hy
   (ih (k + 1) _ _ (fun i' h' => hs i' (by rw [List.length_cons,List.range'_succ];simp [h'])) (fun j hj => by have:=hl (j + 1) (by simpa using hj);simpa [Nat.add_assoc,Nat.add_comm 1 j] using this) (inv.set hr') hB' hk)
def Filled (ops:Array Oper) (ls:Array Bool) (d:Tmp):Prop:=∃ i o,ops[i]? = some o ∧ ls.getD i false = true ∧ o.dst = some d
theorem Filled.set {ls:Array Bool} {d:Tmp} (h:Filled ops ls d) (i:Nat):Filled ops (ls.setIfInBounds i true) d:=by
 obtain ⟨j,o,h1,h2,h3⟩:=h
 exact ⟨j,o,h1,getD_set_true h2,h3⟩
theorem Filled.back {ls:Array Bool} {d:Tmp} {i:Nat} {o:Oper} (hi:ops[i]? = some o) (h:Filled ops (ls.setIfInBounds i true) d):o.dst = some d ∨ Filled ops ls d:=by
 obtain ⟨j,o',h1,h2,h3⟩:=h
 by_cases hij:i = j
 · subst hij
   obtain rfl:o = o':=Option.some.inj (hi.symm.trans h1)
   exact .inl h3
 · rw [getD_set_ne false hij] at h2
   exact .inr ⟨j,o',h1,h2,h3⟩
theorem words_look {ds:List Tmp} (h:wordsB ops ds = true) {j:Nat} {oj:Oper} (hj:ops[j]? = some oj) {d:Tmp} (hd:d ∈ ds) (hl:d ∈ oj.looksAt ops):∃ e,e ∈ oj.after ∧ Region.binds .any e = true ∧ ∃ oi,ops[e.on]? = some oi ∧ oi.dst = some d:=by
 have h1:=List.all_eq_true.1 h j (List.mem_range.2 (Array.getElem?_eq_some_iff.1 hj).1)
 simp only [hj,Bool.and_eq_true] at h1
 have h2:=List.all_eq_true.1 h1.1 d hd
 have hc:(oj.looksAt ops).contains d = true:=by simpa using hl
 rw [hc] at h2
 simp only [Bool.not_true,Bool.false_or] at h2
 obtain ⟨e,he,hb⟩:=List.any_eq_true.1 h2
 simp only [Bool.and_eq_true] at hb
 refine ⟨e,by simpa using he,hb.1,?_⟩
 cases ho:ops[e.on]? with
 | none => rw [ho] at hb;simp at hb
 | some oi =>
  have hb2:=hb.2
  rw [ho] at hb2
  exact ⟨oi,rfl,by simpa using hb2⟩
theorem words_one {ds:List Tmp} (h:wordsB ops ds = true) {i j:Nat} {oi oj:Oper} (hi:ops[i]? = some oi) (hj:ops[j]? = some oj) {d:Tmp} (hd:d ∈ ds) (h1:oi.dst = some d) (h2:oj.dst = some d):i = j:=by
 have h3:=List.all_eq_true.1 h j (List.mem_range.2 (Array.getElem?_eq_some_iff.1 hj).1)
 simp only [hj,Bool.and_eq_true] at h3
 have h4:=List.all_eq_true.1 h3.2 d hd
 rw [h2] at h4
 simp only [bne_self_eq_false,Bool.false_or] at h4
 have h5:=List.all_eq_true.1 h4 i (List.mem_range.2 (Array.getElem?_eq_some_iff.1 hi).1)
 simp only [hi,h1,bne_self_eq_false,Bool.or_false,beq_iff_eq] at h5
 exact h5
def Live (ops:Array Oper) (E:Eats) (ls:Array Bool) (d:Tmp):Prop:=Filled ops ls d ∧ ∀ j o,ops[j]? = some o → ls.getD j false = true → d ∉ eats E o
theorem eats_look {ds:List Tmp} (h:eatsB ops E ds = true) {j:Nat} {oj:Oper} (hj:ops[j]? = some oj) {d:Tmp} (hd:d ∈ eats E oj):d ∈ oj.looksAt ops ∧ d ∈ ds ∧ ∀ i oi,ops[i]? = some oi → i ≠ j → d ∉ oi.looksAt ops:=by
 have h1:=List.all_eq_true.1 h j (List.mem_range.2 (Array.getElem?_eq_some_iff.1 hj).1)
 simp only [hj] at h1
 have h2:=List.all_eq_true.1 h1 d hd
 simp only [Bool.and_eq_true] at h2
 refine ⟨by simpa using h2.1.1,by simpa using h2.1.2,fun i oi hi hne => ?_⟩
 have h3:=List.all_eq_true.1 h2.2 i (List.mem_range.2 (Array.getElem?_eq_some_iff.1 hi).1)
 simp only [hi,Bool.or_eq_true,beq_iff_eq,hne,false_or] at h3
 simpa using h3
theorem eaten_of {val:Tmp → Value} {o:Oper} {b:Nat} (h:b ∈ eaten E val o):∃ d,d ∈ eats E o ∧ (val d).ownBlock = some b:=by
 obtain ⟨d,hd,hb⟩:=List.mem_flatMap.1 h
 exact ⟨d,hd,by simpa using hb⟩
def touched (M:Mine) (ls:Array Bool) (b:Nat):Prop:=∃ x,x ∈ M ∧ ls.getD x.i false = true ∧ b ∈ x.bs
def touchedR (M:Mine) (ls:Array Bool) (b:Nat):Prop:=∃ x,x ∈ M ∧ x.row = true ∧ ls.getD x.i false = true ∧ b ∈ x.bs
theorem touchedR.t {ls:Array Bool} {b:Nat} (h:touchedR M ls b):touched M ls b:=by
 obtain ⟨x,h1,_,h3,h4⟩:=h
 exact ⟨x,h1,h3,h4⟩
theorem rows_of {i b:Nat} (h:b ∈ rows M i):∃ x,x ∈ M ∧ x.i = i ∧ x.row = true ∧ b ∈ x.bs:=by
 obtain ⟨x,hx,hb⟩:=List.mem_flatMap.1 h
 obtain ⟨h1,h2⟩:=List.mem_filter.1 hx
 simp only [Bool.and_eq_true,beq_iff_eq] at h2
 exact ⟨x,h1,h2.1,h2.2,hb⟩
theorem mine_of {i b:Nat} (h:b ∈ mine M i):∃ x,x ∈ M ∧ x.i = i ∧ b ∈ x.bs:=by
 obtain ⟨x,hx,hb⟩:=List.mem_flatMap.1 h
 obtain ⟨h1,h2⟩:=List.mem_filter.1 hx
 exact ⟨x,h1,by simpa using h2,hb⟩
theorem rows_mine {i b:Nat} (h:b ∈ rows M i):b ∈ mine M i:=by
 obtain ⟨x,h1,h2,_,h4⟩:=rows_of h
 exact List.mem_flatMap.2 ⟨x,List.mem_filter.2 ⟨h1,by simpa using h2⟩,h4⟩
theorem others_mem {i:Nat} {x:Own} {b:Nat} (hx:x ∈ M) (hd:x.i ≠ i) (hm:(marks ops x.i).getD i false = false) (hb:b ∈ x.bs):b ∈ others ops M i:=List.mem_flatMap.2 ⟨x,List.mem_filter.2 ⟨hx,by simp only [hm,Bool.not_false,Bool.and_true,bne_iff_ne];exact hd⟩,hb⟩
structure Own.Ok (ops:Array Oper) (W:World) (Vs:Words) (x:Own):Prop where
 old:∀ b,b ∈ x.bs → b < W.heap.size
 keep:∀ vs w w' S,x.F vs w → Only S w w' → (∀ b,b ∈ S → b ∉ x.bs) → x.F vs w'
def ownB (ops:Array Oper) (M:Mine) (ds:List Tmp):Bool:=M.all fun x => match ops[x.i]? with
 | some o => x.ds.all fun d => (o.looksAt ops).contains d && ds.contains d
 | none => false
theorem headV_run {js:List Nat} {g:Nat} {L:(Tmp → Value) → Array Bool → Act → Prop} {Q':Exit → Act → World → Prop} (hst:∀ p,p ∈ Vs → Lasts p.2) (hwd:wordsB ops (Vs.map (·.1)) = true) (hea:eatsB ops E (Vs.map (·.1)) = true) (hob:ownB ops M (Vs.map (·.1)) = true) (hM1:∀ x,x ∈ M → x.Ok ops W Vs) (hM2:∀ x y,x ∈ M → y ∈ M → (x.i ≠ y.i ∨ x.row ≠ y.row) → ∀ b,b ∈ x.bs → b ∉ y.bs)
 (hL:∀ val ls a w,Only (allM M) W w → Closed ops ls → (∀ p,p ∈ Vs → Live ops E ls p.1 → p.2 (val p.1) w) → (∀ x,x ∈ M → x.row = false → ls.getD x.i false = true → x.F (x.ds.map val) w) → L val ls a → wpAny P .any ops Q' g ls a w) (k:Nat):
 ∀ (ls:Array Bool) (a:Act) (w:World) (sg:Tmp → Value) (T:List Nat),Only T W w → (∀ b,b ∈ T → touched M ls b) → (∀ p,p ∈ Vs → Live ops E ls p.1 → ∀ b,(sg p.1).ownBlock = some b → W.heap.size ≤ b ∨ touchedR M ls b) → Closed ops ls → (∀ p,p ∈ Vs → Live ops E ls p.1 → p.2 (sg p.1) w) → (∀ x,x ∈ M → x.row = false → ls.getD x.i false = true → x.F (x.ds.map sg) w) →
  (∀ p q,p ∈ Vs → q ∈ Vs → Live ops E ls p.1 → Live ops E ls q.1 → p.1 ≠ q.1 → ∀ b,(sg p.1).ownBlock = some b → (sg q.1).ownBlock ≠ some b) →
  (∀ val:Tmp → Value,(∀ p,p ∈ Vs → Filled ops ls p.1 → val p.1 = sg p.1) → headV P ops W Vs E M val js (L val) k ls a) → wpAny P .any ops Q' (k + g) ls a w:=by
 induction k with
 | zero =>
  intro ls a w sg T ho hT hbl hcl hsg hF _ h
  rw [Nat.zero_add]
  refine hL sg ls a w (ho.mono fun x hx => .inl ?_) hcl hsg hF (h sg fun _ _ _ => rfl)
  obtain ⟨y,hy,_,hb⟩:=hT x hx
  exact List.mem_flatMap.2 ⟨y,hy,hb⟩
 | succ k ih =>
  intro ls a w sg T ho hT hbl hcl hsg hF hdis h
  rw [show k + 1 + g = (k + g) + 1 from by omega]
  have H:=h sg fun _ _ _ => rfl
  refine ⟨fun h0 => absurd h0 H.1,fun i hi => ?_⟩
  obtain ⟨hun,o,hoi,hall⟩:=mem_ready.1 hi
  have hlt:i < ls.size:=by rw [hcl.size];exact (Array.getElem?_eq_some_iff.1 hoi).1
  have filled:∀ p,p ∈ Vs → p.1 ∈ o.looksAt ops → Live ops E ls p.1:=fun p hp hl => by
   obtain ⟨e,he,hb,oe,hoe,hd⟩:=words_look hwd hoi (List.mem_map_of_mem (f:=(·.1)) hp) hl
   refine ⟨⟨e.on,oe,hoe,hall e he hb,hd⟩,fun j oj hj hlj hde => ?_⟩
   refine (eats_look hea hj hde).2.2 i o hoi ?_ hl
   rintro rfl
   rw [getD_both hun] at hlj
   cases hlj
  have eat:∀ d,d ∈ eats E o → ∃ p,p ∈ Vs ∧ p.1 = d ∧ Live ops E ls d:=fun d hd => by
   obtain ⟨h1,h2,_⟩:=eats_look hea hoi hd
   obtain ⟨p,hp,rfl⟩:=List.mem_map.1 h2
   exact ⟨p,hp,rfl,filled p hp h1⟩
  -- what has been touched is none of its own
  have notM:∀ x,touched M ls x → x ∉ mine M i:=fun x ⟨y,hy,hly,hyb⟩ hx => by
   obtain ⟨z,hz,hzi,hzb⟩:=mine_of hx
   refine hM2 y z hy hz (.inl fun e => ?_) x hyb hzb
   rw [e,hzi,getD_both hun] at hly
   cases hly
  have toth:∀ x,touched M ls x → x ∈ others ops M i:=fun x ⟨y,hy,hly,hyb⟩ => others_mem hy (fun e => by
   rw [e,getD_both hun] at hly
   cases hly) (by
   cases hmk:(marks ops y.i).getD i false with
   | false => rfl
   | true =>
    exfalso
    rcases marks_listed' hcl.closed (fun o' ho' => hcl.closed y.i o' ho' hly) i hmk with h1 | h1
    · rw [← h1,getD_both hun] at hly;cases hly
    · rw [getD_both hun] at h1;cases h1) hyb
  have mlt:∀ x,x ∈ mine M i → x < W.heap.size:=fun x hx => by
   obtain ⟨z,hz,_,hzb⟩:=mine_of hx
   exact (hM1 z hz).old x hzb
  have dsf:∀ x,x ∈ M → ∀ o',ops[x.i]? = some o' → ∀ d,d ∈ x.ds → d ∈ o'.looksAt ops ∧ d ∈ Vs.map (·.1):=fun x hx o' ho' d hd => by
   have h1:=List.all_eq_true.1 hob x hx
   simp only [ho'] at h1
   have h2:=List.all_eq_true.1 h1 d hd
   simp only [Bool.and_eq_true] at h2
   exact ⟨by simpa using h2.1,by simpa using h2.2⟩
  have look:∀ (val:Tmp → Value),(∀ p,p ∈ Vs → Filled ops ls p.1 → val p.1 = sg p.1) → leans ops W Vs M i val o w:=fun val hv => ⟨ho.mono fun x hx => .inl (toth x (hT x hx)),fun p hp hl => by
   have hf:=filled p hp hl
   rw [hv p hp hf.1]
   exact hsg p hp hf⟩
  have step:∀ (val:Tmp → Value),(∀ p,p ∈ Vs → Filled ops ls p.1 → val p.1 = sg p.1) → ∃ v,fitsV P ops W Vs E M i val o v a ∧ headV P ops W Vs E M val js (L val) k (ls.setIfInBounds i true) (a.put o.dst v):=fun val hv => by
   have h1:=((h val hv).2 i hi).2
   unfold fitOp at h1
   simpa only [hoi] using h1
  have next:∀ (u:Value) (w':World),Only (mine M i ++ eaten E sg o) w w' → (∀ p,p ∈ Vs → o.dst = some p.1 → p.2 u w' ∧ fresh E M i sg o w u) → (∀ x,x ∈ M → x.i = i → x.row = false → x.F (x.ds.map sg) w') →
   (∀ (val:Tmp → Value) v,(∀ p,p ∈ Vs → Filled ops ls p.1 → val p.1 = sg p.1) → (∀ p,p ∈ Vs → o.dst = some p.1 → val p.1 = u) → fitsV P ops W Vs E M i val o v a → v = u) →
   wpAny P .any ops Q' (k + g) (ls.setIfInBounds i true) (a.put o.dst u) w':=by
   intro u w' how hpu hFu hone
   have back:∀ d,Live ops E (ls.setIfInBounds i true) d → o.dst ≠ some d → Live ops E ls d ∧ d ∉ eats E o:=fun d hl hd => by
    refine ⟨⟨(hl.1.back hoi).resolve_left hd,fun j oj hj hlj => hl.2 j oj hj (getD_set_true hlj)⟩,hl.2 i o hoi (by simp [hlt])⟩
   have apart:∀ q,q ∈ Vs → Live ops E ls q.1 → q.1 ∉ eats E o → ∀ b,b ∈ mine M i ++ eaten E sg o → (sg q.1).ownBlock ≠ some b:=fun q hq hl hne b hb hqb => by
    rcases List.mem_append.1 hb with hb | hb
    · rcases hbl q hq hl b hqb with h1 | h1
      · have:=mlt b hb;omega
      · exact notM b h1.t hb
    · obtain ⟨d,hd,hdb⟩:=eaten_of hb
      obtain ⟨p,hp,rfl,hlp⟩:=eat d hd
      exact hdis p q hp hq hlp hl (fun e => hne (e ▸ hd)) b hdb hqb
   have fresh':∀ p q,p ∈ Vs → q ∈ Vs → o.dst = some p.1 → Live ops E ls q.1 → q.1 ∉ eats E o → ∀ b,u.ownBlock = some b → (sg q.1).ownBlock ≠ some b:=fun p q hp hq hd hl hne b hb hqb => by
    rcases (hpu p hp hd).2 b hb with h1 | h1
    · have:=(hst q hq).lies _ _ _ (hsg q hq hl) hqb
      omega
    · exact apart q hq hl hne b ((List.mem_append.1 h1).elim (fun h => List.mem_append_left _ (rows_mine h)) (List.mem_append_right _)) hqb
   have more:∀ x,touched M ls x → touched M (ls.setIfInBounds i true) x:=fun x ⟨y,hy,hly,hyb⟩ => ⟨y,hy,getD_set_true hly,hyb⟩
   have moreR:∀ x,touchedR M ls x → touchedR M (ls.setIfInBounds i true) x:=fun x ⟨y,hy,hyr,hly,hyb⟩ => ⟨y,hy,hyr,getD_set_true hly,hyb⟩
   have here:∀ x,x ∈ mine M i → touched M (ls.setIfInBounds i true) x:=fun x hx => by
    obtain ⟨z,hz,hzi,hzb⟩:=mine_of hx
    exact ⟨z,hz,by rw [hzi];simp [hlt],hzb⟩
   have eatb:∀ x,x ∈ eaten E sg o → W.heap.size ≤ x ∨ touchedR M ls x:=fun x hx => by
    obtain ⟨d,hd,hdb⟩:=eaten_of hx
    obtain ⟨p,hp,rfl,hlp⟩:=eat d hd
    exact hbl p hp hlp x hdb
   refine ih _ _ _ (fun x => if o.dst = some x then u else sg x) (T ++ (mine M i ++ (eaten E sg o).filter fun x => decide (x < W.heap.size))) ((ho.mono fun x hx => .inl (List.mem_append_left _ hx)).trans how fun x hx => ?_) (fun x hx => ?_) (fun p hp hf b hb => ?_) (hcl.set hi) (fun p hp hf => ?_) (fun x hx hxr hlx => ?_) (fun p q hp hq hlp hlq hne b hb => ?_) (fun val hv => ?_)
   · rcases List.mem_append.1 hx with hx | hx
     · exact .inl (List.mem_append_right _ (List.mem_append_left _ hx))
     · by_cases hxs:x < W.heap.size
       · exact .inl (List.mem_append_right _ (List.mem_append_right _ (List.mem_filter.2 ⟨hx,by simpa using hxs⟩)))
       · exact .inr (by omega)
   · rcases List.mem_append.1 hx with hx | hx
     · exact more x (hT x hx)
     · rcases List.mem_append.1 hx with hx | hx
       · exact here x hx
       · obtain ⟨h1,h2⟩:=List.mem_filter.1 hx
         have h2:x < W.heap.size:=by simpa using h2
         rcases eatb x h1 with h3 | h3
         · omega
         · exact more x h3.t
   · have hb:(if o.dst = some p.1 then u else sg p.1).ownBlock = some b:=hb
     by_cases hd:o.dst = some p.1
     · rw [if_pos hd] at hb
       rcases (hpu p hp hd).2 b hb with h1 | h1
       · exact .inl (Nat.le_trans ho.size h1)
       · rcases List.mem_append.1 h1 with h1 | h1
         · obtain ⟨z,hz,hzi,hzr,hzb⟩:=rows_of h1
           exact .inr ⟨z,hz,hzr,by rw [hzi];simp [hlt],hzb⟩
         · exact (eatb b h1).imp_right (moreR b)
     · rw [if_neg hd] at hb
       exact (hbl p hp (back p.1 hf hd).1 b hb).imp_right (moreR b)
   · show p.2 (if o.dst = some p.1 then u else sg p.1) w'
     split
     · rename_i hd;exact (hpu p hp hd).1
     · rename_i hd
       obtain ⟨h1,h2⟩:=back p.1 hf hd
       exact (hst p hp).keep _ _ _ _ (hsg p hp h1) how (apart p hp h1 h2)
   · -- the facts
     have same:x.ds.map (fun y => if o.dst = some y then u else sg y) = x.ds.map sg:=by
      refine List.map_congr_left fun d hd => ?_
      by_cases hod:o.dst = some d
      · exfalso
        have hxl:∃ ox,ops[x.i]? = some ox:=by
         have h1:=List.all_eq_true.1 hob x hx
         cases hox:ops[x.i]? with
         | none => simp only [hox] at h1;cases h1
         | some ox => exact ⟨ox,rfl⟩
        obtain ⟨ox,hox⟩:=hxl
        obtain ⟨h1,h2⟩:=dsf x hx ox hox d hd
        obtain ⟨e,he,hb,oe,hoe,hde⟩:=words_look hwd hox h2 h1
        have hei:=words_one hwd hoi hoe h2 hod hde
        by_cases hxi:x.i = i
        · have hoo:ox = o:=Option.some.inj ((hxi ▸ hox:ops[i]? = some ox).symm.trans hoi)
          subst hoo
          have:=hall e he hb
          rw [← hei,getD_both hun] at this
          cases this
        · rw [getD_set_ne false (fun e => hxi e.symm)] at hlx
          have:=hcl.closed x.i ox hox hlx e he hb
          rw [← hei,getD_both hun] at this
          cases this
      · rw [if_neg hod]
     rw [same]
     by_cases hxi:x.i = i
     · exact hFu x hx hxi hxr
     · rw [getD_set_ne false (fun e => hxi e.symm)] at hlx
       refine (hM1 x hx).keep _ _ _ _ (hF x hx hxr hlx) how fun b hb hbx => ?_
       rcases List.mem_append.1 hb with hb | hb
       · exact notM b ⟨x,hx,hlx,hbx⟩ hb
       · rcases eatb b hb with h1 | ⟨y,hy,hyr,hly,hyb⟩
         · have:=(hM1 x hx).old b hbx;omega
         · exact hM2 x y hx hy (.inr (by rw [hxr,hyr];decide)) b hbx hyb
   · by_cases hdp:o.dst = some p.1
     · rw [if_pos hdp] at hb
       have hdq:o.dst ≠ some q.1:=fun e => hne (by rw [hdp] at e;injection e)
       rw [if_neg hdq]
       obtain ⟨h1,h2⟩:=back q.1 hlq hdq
       exact fresh' p q hp hq hdp h1 h2 b hb
     · rw [if_neg hdp] at hb
       obtain ⟨h1,h2⟩:=back p.1 hlp hdp
       by_cases hdq:o.dst = some q.1
       · rw [if_pos hdq]
         exact fun hu => fresh' q p hq hp hdq h1 h2 b hu hb
       · rw [if_neg hdq]
         exact hdis p q hp hq h1 (back q.1 hlq hdq).1 hne b hb
   · have hv':∀ p,p ∈ Vs → o.dst = some p.1 → val p.1 = u:=fun p hp hd => by
      have:=hv p hp ⟨i,o,hoi,by simp [hlt],hd⟩
      rw [this,if_pos hd]
     have hag:∀ p,p ∈ Vs → Filled ops ls p.1 → val p.1 = sg p.1:=fun p hp hf => by
      have:=hv p hp (hf.set i)
      rw [this]
      split
      · rename_i hd
        obtain ⟨j,oj,hj,hlj,hdj⟩:=hf
        obtain rfl:=words_one hwd hoi hj (List.mem_map_of_mem (f:=(·.1)) hp) hd hdj
        rw [getD_both hun] at hlj
        cases hlj
      · rfl
     obtain ⟨v,hv1,hv2⟩:=step val hag
     rw [hone val v hag hv' hv1] at hv2
     exact hv2
  obtain ⟨v0,hf0,_⟩:=step sg fun _ _ _ => rfl
  unfold wpOp
  simp only [hoi]
  rcases hf0 with ⟨hw,hd0,hr0⟩ | ⟨hw,hv0,hd0,hx0⟩
  · simp only [hw,if_true]
    refine .inl ?_
    have h0:=hr0 w (look sg fun _ _ _ => rfl)
    have hone:∀ (val:Tmp → Value) v,(∀ p,p ∈ Vs → Filled ops ls p.1 → val p.1 = sg p.1) → fitsV P ops W Vs E M i val o v a → (∀ p,p ∈ Vs → o.dst = some p.1 → v = val p.1) ∧
     outs P w (fun u w' => Only (mine M i ++ eaten E val o) w w' ∧ (∀ p,p ∈ Vs → o.dst = some p.1 → p.2 u w' ∧ fresh E M i val o w u) ∧ (∀ x,x ∈ M → x.i = i → x.row = false → x.F (x.ds.map val) w') ∧ ((∀ p,p ∈ Vs → o.dst ≠ some p.1) → u = v)) ((execOp a.eval o).run P w):=fun val v hv hf => by
     rcases hf with ⟨_,h1,h2⟩ | ⟨h1,_⟩
     · exact ⟨h1,h2 w (look val hv)⟩
     · rw [hw] at h1;cases h1
    have part:∀ (u:Value) (val:Tmp → Value) (v:Value),(∀ p,p ∈ Vs → o.dst = some p.1 → val p.1 = u) → (∀ p,p ∈ Vs → o.dst = some p.1 → v = val p.1) → ((∀ p,p ∈ Vs → o.dst ≠ some p.1) → u = v) → v = u:=fun u val v h1 h2 h3 => by
     by_cases hp:∃ p,p ∈ Vs ∧ o.dst = some p.1
     · obtain ⟨p,hp,hd⟩:=hp
       rw [h2 p hp hd,h1 p hp hd]
     · exact (h3 fun p hp' hd => hp ⟨p,hp',hd⟩).symm
    unfold Oper.wp
    generalize (execOp a.eval o).run P w = r at *
    cases r with
    | halt x w' => exact h0.elim
    | ok n w' =>
     cases n with
     | value u =>
      exact next u w' h0.1 h0.2.1 h0.2.2.1 fun val v hv hv' hf => by
       obtain ⟨h1,h2⟩:=hone val v hv hf
       exact part u val v hv' h1 h2.2.2.2
     | skip =>
      exact next undef w' h0.1 h0.2.1 h0.2.2.1 fun val v hv hv' hf => by
       obtain ⟨h1,h2⟩:=hone val v hv hf
       exact part undef val v hv' h1 h2.2.2.2
     | enter f args =>
      obtain ⟨rfl,hin,hc⟩:=h0
      refine hc.mono ?_
      rintro e w'' ⟨u,rfl,hu1,hu2,hu4,hu3⟩
      refine next u w'' hu1 hu2 hu4 fun val v hv hv' hf => ?_
      obtain ⟨h1,h2⟩:=hone val v hv hf
      obtain ⟨_,_,hc2⟩:=h2
      refine part u val v hv' h1 fun hn => ?_
      obtain ⟨u0,_,_,⟨_,_,_,e1⟩,⟨_,_,_,e2⟩⟩:=calls_same hin hc hc2
      rw [hu3 hn,← e1 hn,e2 hn]
     | _ => exact h0.elim
  · simp only [hw]
    exact next undef w oz (fun p hp hd => absurd hd (hd0 p hp)) (fun x hx hxi _ => absurd hxi (hx0 x hx)) fun val v hv hv' hf => by
     rcases hf with ⟨h1,_⟩ | ⟨_,h1,_,_⟩
     · rw [hw] at h1;cases h1
     · exact h1
theorem tail_any {Q':Exit → Act → World → Prop} (js:List Nat):∀ (l:List Oper) (ls:Array Bool) (a:Act) (w:World),js.map (fun i => ops[i]?) = l.map some → tailB ops js ls = true → wpList P ops Q' l a w → wpAny P .any ops Q' js.length ls a w:=by
 induction js with
 | nil =>
  intro l ls a w hl hB h
  have:l = []:=by simpa using hl.symm
  subst this
  exact ⟨by simpa [tailB] using hB,h⟩
 | cons j js ih =>
  intro l ls a w hl hB h
  cases l with
  | nil => simp at hl
  | cons o l =>
   simp only [List.map_cons,List.cons.injEq] at hl
   simp only [tailB,Bool.and_eq_true,decide_eq_true_eq] at hB
   refine ⟨fun h1 => (by rw [hB.1] at h1;cases h1),fun i hi => ?_⟩
   rw [hB.1] at hi
   have hik:i = j:=by simpa using hi
   subst hik
   have hw:wpOp P ops Q' i (wpList P ops Q' l) a w:=by unfold wpOp;simp only [hl.1];exact h
   exact wpOp_mono (fun a' w' h' => ih l _ a' w' hl.2 hB.2 h') hw
def downB (ops:Array Oper):Bool:=(List.range ops.size).all fun i => match ops[i]? with
 | some o => o.after.toList.all fun e => !Region.binds .any e || decide (e.on < i)
 | none => true
theorem all_listed {ls:Array Bool} (hd:downB ops = true) (hcl:Closed ops ls) {n:Nat} (hn:n ≤ ops.size) (hr:∀ i,i ∈ Region.ready .any ops ls → n ≤ i) (i:Nat):i < n → ls.getD i false = true:=by
 induction i using Nat.strongRecOn with
 | _ i ih =>
  intro hi
  cases hl:ls.getD i false with
  | true => rfl
  | false =>
   exfalso
   have hio:ops[i]? = some (ops[i]'(by omega)):=Array.getElem?_eq_getElem (by omega)
   have h1:=List.all_eq_true.1 hd i (List.mem_range.2 (by omega))
   simp only [hio] at h1
   have:i ∈ Region.ready .any ops ls:=mem_ready.2 ⟨getD_in (by rw [hcl.size];omega) hl,_,hio,fun e he hb => by
    have h2:=List.all_eq_true.1 h1 e (by simpa using he)
    simp only [hb,Bool.not_true,Bool.false_or,decide_eq_true_eq] at h2
    exact ih e.on h2 (by omega)⟩
   have:=hr i this
   omega
theorem wp_region_pendM {id:Nat} {Q:Exit → Act → World → Prop} {a:Act} {w:World} {l:List Oper} (W:World) (hw:Only [] W w) (Vs:Words) (E:Eats) (M:Mine) (n:Nat) (hst:∀ p,p ∈ Vs → Lasts p.2) (hM1:∀ x,x ∈ M → x.Ok l.toArray W Vs) (hM2:∀ x y,x ∈ M → y ∈ M → (x.i ≠ y.i ∨ x.row ≠ y.row) → ∀ b,b ∈ x.bs → b ∉ y.bs)
 (hm:P.follows .mixedOrders = true) (hB:(pendB l.toArray (List.range' 0 n) (List.range' n (l.length - n)) (Vs.map (·.1)) E && ownB l.toArray M (Vs.map (·.1)) && (M.all fun x => decide (x.i < n)) && downB l.toArray) = true) (hn:n ≤ l.length)
 (h:∀ val:Tmp → Value,wpFit P l.toArray W Vs E M val (fun a' => ∀ w',Only (allM M) W w' → (∀ p,p ∈ Vs → (∀ x,x ∈ E → x.2 ≠ p.1) → p.2 (val p.1) w') → (∀ x,x ∈ M → x.row = false → x.F (x.ds.map val) w') → wpList P l.toArray Q (l.drop n) a' w') 0 (l.take n) a):(Code.region id l.toArray true).wp P Q a w:=by
 simp only [Bool.and_eq_true] at hB
 obtain ⟨⟨⟨hB,hob⟩,hMn⟩,hdn⟩:=hB
 unfold pendB at hB
 simp only [Bool.and_eq_true,decide_eq_true_eq] at hB
 obtain ⟨⟨⟨⟨⟨⟨hsel,hea⟩,hin⟩,hwd⟩,hsink⟩,hlen⟩,hhead⟩:=hB
 have htl:(l.take n).length = n:=by simp;omega
 have hs:∀ i,i ∈ List.range' 0 (l.take n).length → ∀ t,t ∈ List.range' n (l.length - n) → (marks l.toArray t).getD i false = true ∧ i ≠ t:=fun i hi t ht => by
  rw [htl] at hi
  have h1:=List.all_eq_true.1 (List.all_eq_true.1 hsink t ht) i hi
  simp only [Bool.and_eq_true,bne_iff_ne] at h1
  exact h1
 have cl0:Closed l.toArray (Array.replicate l.toArray.size false):=⟨by simp,fun j oj _ hl => by rw [getD_replicate_false] at hl;cases hl⟩
 refine wp_region_any hm ?_
 have H:=fun val => headV_list (P:=P) (W:=W) (Vs:=Vs) (E:=E) (M:=M) (val:=val) (js:=List.range' n (l.length - n)) (Region.noSelect_spec hsel) (l.take n) 0 _ a hs (fun j hj => by
  rw [htl] at hj
  simp [hj]) cl0 (by rw [htl];exact hhead) (h val)
 have:=headV_run (P:=P) (ops:=l.toArray) (W:=W) (Vs:=Vs) (E:=E) (M:=M) (js:=List.range' n (l.length - n)) (g:=(List.range' n (l.length - n)).length) (Q':=Q)
  (L:=fun val ls' a' => tailB l.toArray (List.range' n (l.length - n)) ls' = true ∧ ∀ w',Only (allM M) W w' → (∀ p,p ∈ Vs → (∀ x,x ∈ E → x.2 ≠ p.1) → p.2 (val p.1) w') → (∀ x,x ∈ M → x.row = false → x.F (x.ds.map val) w') → wpList P l.toArray Q (l.drop n) a' w') hst hwd hea hob hM1 hM2 (fun val ls a' w' ho hcl hp hF hL => by
   have hall:=all_listed hdn hcl (n:=n) (by simpa using hn) (fun i hi => by
    have:=tailB_ready hL.1 i hi
    simp [List.mem_range'_1] at this
    omega)
   refine tail_any (List.range' n (l.length - n)) (l.drop n) ls a' w' ?_ hL.1 (hL.2 w' ho (fun p hpV hno => hp p hpV ⟨?_,fun j o _ _ hd => ?_⟩) fun x hx hxr => hF x hx hxr (hall x.i (by simpa using List.all_eq_true.1 hMn x hx)))
   · apply List.ext_getElem?
     intro i
     by_cases hi:i < l.length - n
     · have hil:n + i < l.length:=by omega
       simp [hi,List.getElem?_eq_getElem hil]
     · rw [List.getElem?_eq_none (by simp;omega),List.getElem?_eq_none (by simp;omega)]
   · obtain ⟨i,hi,hd⟩:=List.any_eq_true.1 (List.all_eq_true.1 hin p.1 (List.mem_map_of_mem (f:=(·.1)) hpV))
     cases ho:l.toArray[i]? with
     | none => rw [ho] at hd;simp at hd
     | some oi =>
      rw [ho] at hd
      exact ⟨i,oi,ho,hall i (by simp [List.mem_range'_1] at hi;omega),by simpa using hd⟩
   · unfold eats at hd
     obtain ⟨x,hx,hx2⟩:=List.mem_map.1 hd
     exact hno x (List.mem_filter.1 hx).1 hx2) (l.take n).length _ a w.drew (fun _ => undef) [] hw.drew (fun b hb => by cases hb) (fun p _ hf => by
   obtain ⟨i,o,_,h2,_⟩:=hf.1
   rw [getD_replicate_false] at h2;cases h2) cl0
  (fun p _ hf => by
   obtain ⟨i,o,_,h2,_⟩:=hf.1
   rw [getD_replicate_false] at h2;cases h2) (fun x _ _ hx => by rw [getD_replicate_false] at hx;cases hx) (fun p _ _ _ hf => by
   obtain ⟨i,o,_,h2,_⟩:=hf.1
   rw [getD_replicate_false] at h2;cases h2) (fun val _ => H val)
 rw [htl] at this
 simp only [List.length_range',List.size_toArray] at this hlen ⊢
 rw [show n + (l.length - n) = l.length from by omega] at this
 exact this
end
def noGo (o:Oper):Bool:=match o.op with
 | .move _ | .assign _ | .pick .. | .load .. | .build .. | .nilCheck _ | .binOp .. | .unOp .. | .convert .. | .fieldAddr .. | .field .. | .indexAddr .. | .index .. | .extract .. | .slice .. => true
 | .call c => match c.callee with
  | .builtin .len | .builtin .cap | .builtin .min | .builtin .max => true
  | _ => false
 | _ => false
def Dry (P:Program) (s:Sem Next):Prop:=∀ w f args w',s.run P w ≠ .ok (.enter f args) w'
theorem dry_val {P:Program} (s:Sem Value):Dry P (do pure (Next.value (← s))):=by
 intro w f args w' h
 rw [Sem.run_bind] at h
 cases hs:s.run P w with
 | ok v w1 => rw [hs] at h;simp [Result.andThen] at h
 | halt x w1 => rw [hs] at h;simp [Result.andThen] at h
theorem dry_pure {P:Program} (v:Value):Dry P (pure (Next.value v)):=by
 intro w f args w' h
 simp at h
theorem dry_bind {P:Program} {α:Type} (s:Sem α) (k:α → Sem Next) (h:∀ x,Dry P (k x)):Dry P (s >>= k):=by
 intro w f args w' hh
 rw [Sem.run_bind] at hh
 cases hs:s.run P w with
 | ok v w1 => rw [hs] at hh;exact h v _ _ _ _ hh
 | halt x w1 => rw [hs] at hh;simp [Result.andThen] at hh
theorem dry_halt {P:Program} (h:Halt):Dry P (.halt h):=by
 intro w f args w' hh
 simp [Sem.run] at hh
theorem dry_panic {P:Program} (e:RuntimeError):Dry P (runtimePanic e):=by
 unfold runtimePanic
 refine dry_bind _ _ fun p => ?_
 dsimp only
 split
 all_goals (repeat (first | exact dry_halt _ | refine dry_bind _ _ fun _ => ?_ | split | dsimp only))
theorem noGo_dry {P:Program} {o:Oper} (h:noGo o = true) (ev:Operand → Value):Dry P (execOp ev o):=by
 unfold noGo at h
 unfold execOp
 split at h
 all_goals (try (cases h;done))
 all_goals (rename_i he;rw [he];dsimp only)
 all_goals (try exact dry_val _)
 all_goals (try exact dry_pure _)
 · exact dry_bind _ _ fun _ => dry_pure _
 · split
   all_goals (try exact dry_pure _)
   all_goals (try exact dry_panic _)
   split
   all_goals (try exact dry_pure _)
   all_goals (try exact dry_panic _)
   repeat (first | exact dry_pure _ | exact dry_halt _ | exact dry_panic _ | refine dry_bind _ _ fun _ => ?_ | split)
 · split at h
   all_goals (try (cases h;done))
   all_goals
    rename_i hc
    unfold resolve
    rw [hc]
    exact dry_val _
section
variable {P:Program} {ops:Array Oper} {W:World} {Vs:Words} {E:Eats} {M:Mine} {val:Tmp → Value} {Q:Act → Prop}
theorem fit_seg {C:World → Prop} {rest:List Oper}:∀ (l:List Oper) (i:Nat) (a:Act),(∀ j,j ∈ List.range' i l.length → ∀ w,Only (others ops M j) W w → C w) → ((List.range' i l.length).all fun j => M.all fun x => x.i != j) = true → (l.all fun o => noGo o && (Vs.map (·.1)).all fun d => o.dst != some d) = true →
 wpQuiet P ops C (fun a' => wpFit P ops W Vs E M val Q (i + l.length) rest a') l a → wpFit P ops W Vs E M val Q i (l ++ rest) a
 | [],_,_,_,_,_,h => h
 | o :: l,i,a,hC,hA,hB,h => by
  have hC0:=hC i (by rw [List.length_cons,List.range'_succ];simp)
  have hC1:∀ j,j ∈ List.range' (i + 1) l.length → ∀ w,Only (others ops M j) W w → C w:=fun j hj => hC j (by rw [List.length_cons,List.range'_succ];simp [hj])
  rw [List.length_cons,List.range'_succ,List.all_cons,Bool.and_eq_true] at hA
  obtain ⟨hA1,hA2⟩:=hA
  have hx0:∀ x,x ∈ M → x.i ≠ i:=fun x hx => by simpa using List.all_eq_true.1 hA1 x hx
  simp only [List.all_cons,Bool.and_eq_true] at hB
  obtain ⟨⟨hn,hd⟩,hB'⟩:=hB
  have hd':∀ p,p ∈ Vs → o.dst ≠ some p.1:=fun p hp => by
   have:=List.all_eq_true.1 hd p.1 (List.mem_map_of_mem (f:=(·.1)) hp)
   simpa using this
  unfold wpQuiet at h
  by_cases hw:Region.wanted o (yielded ops a.tmps) = true
  · simp only [hw,if_true] at h
    obtain ⟨v,h1,h2⟩:=h
    refine ⟨v,.inl ⟨hw,fun p hp hh => absurd hh (hd' p hp),fun w hl => ?_⟩,fit_seg l (i + 1) _ hC1 hA2 hB' (by rw [List.length_cons,show i + (l.length + 1) = i + 1 + l.length from by omega] at h2;exact h2)⟩
    have h3:=h1 w (hC0 w hl.1)
    unfold Oper.quietAt at h3
    have hdry:=noGo_dry (P:=P) hn a.eval w
    generalize (execOp a.eval o).run P w = r at *
    cases r with
    | halt x w' => exact h3.elim
    | ok n w' =>
     cases n with
     | value u => obtain ⟨rfl,rfl⟩:=h3;exact ⟨Only.refl _ _,fun p hp hh => absurd hh (hd' p hp),fun x hx hxi => absurd hxi (hx0 x hx),fun _ => rfl⟩
     | skip => obtain ⟨rfl,rfl⟩:=h3;exact ⟨Only.refl _ _,fun p hp hh => absurd hh (hd' p hp),fun x hx hxi => absurd hxi (hx0 x hx),fun _ => rfl⟩
     | enter f args => exact absurd rfl (hdry f args w')
     | _ => exact h3.elim
  · simp only [hw] at h
    exact ⟨undef,.inr ⟨by simpa using hw,rfl,hd',hx0⟩,fit_seg l (i + 1) _ hC1 hA2 hB' (by rw [List.length_cons,show i + (l.length + 1) = i + 1 + l.length from by omega] at h;exact h)⟩
theorem fit_segN {l:List Oper} (n:Nat) {i:Nat} {a:Act} (hB:(decide (n ≤ l.length) && (l.take n).all fun o => noGo o && (Vs.map (·.1)).all fun d => o.dst != some d) = true) (h:wpQuiet P ops (fun w' => ∃ u:Since W,w' = u.w) (fun a' => wpFit P ops W Vs E [] val Q (i + n) (l.drop n) a') (l.take n) a):
 wpFit P ops W Vs E [] val Q i l a:=by
 simp only [Bool.and_eq_true,decide_eq_true_eq] at hB
 have hl:(l.take n).length = n:=by simp;omega
 have:=fit_seg (M:=[]) (C:=fun w' => ∃ u:Since W,w' = u.w) (rest:=l.drop n) (l.take n) i a (fun _ _ w hw => ⟨⟨w,hw⟩,rfl⟩) (by rw [List.all_eq_true];intro j _;rfl) hB.2 (by rw [hl];exact h)
 rwa [List.take_append_drop] at this
structure SinceS (S:List Nat) (W:World) where
 w:World
 h:Only S W w
instance (S:List Nat) (W:World):Nonempty (SinceS S W):=⟨⟨W,Only.refl _ _⟩⟩
theorem SinceS.cell {S:List Nat} {W:World} (u:SinceS S W) {p:Addr} {v:Value} (h:W.cell? p = some v) (hn:p.block ∉ S):u.w.cell? p = some v:=
 (u.h.cell (World.block_lt_of_cell? W _ h) hn).trans h
def bsOf (M:Mine) (ks:List Nat):List Nat:=(M.filter fun x => ks.contains x.i).flatMap (·.bs)
theorem fit_segM {l:List Oper} (n:Nat) (ks:List Nat) {i:Nat} {a:Act} (hB:(decide (n ≤ l.length) && ((List.range' i n).all fun j => M.all fun x => x.i != j && ((marks ops x.i).getD j false || ks.contains x.i)) && (l.take n).all fun o => noGo o && (Vs.map (·.1)).all fun d => o.dst != some d) = true)
 (h:wpQuiet P ops (fun w' => ∃ u:SinceS (bsOf M ks) W,w' = u.w) (fun a' => wpFit P ops W Vs E M val Q (i + n) (l.drop n) a') (l.take n) a):wpFit P ops W Vs E M val Q i l a:=by
 simp only [Bool.and_eq_true,decide_eq_true_eq] at hB
 obtain ⟨⟨hn,hA⟩,hB⟩:=hB
 have hl:(l.take n).length = n:=by simp;omega
 have key:∀ j,j ∈ List.range' i n → ∀ x,x ∈ M → x.i ≠ j ∧ ((marks ops x.i).getD j false = true ∨ ks.contains x.i = true):=fun j hj x hx => by
  have h1:=List.all_eq_true.1 (List.all_eq_true.1 hA j hj) x hx
  simp only [Bool.and_eq_true,bne_iff_ne,Bool.or_eq_true] at h1
  exact h1
 have:=fit_seg (C:=fun w' => ∃ u:SinceS (bsOf M ks) W,w' = u.w) (rest:=l.drop n) (l.take n) i a (fun j hj w hw => ⟨⟨w,hw.mono fun b hb => .inl (by
  rw [hl] at hj
  obtain ⟨x,hx,hxb⟩:=List.mem_flatMap.1 hb
  obtain ⟨h1,h2⟩:=List.mem_filter.1 hx
  simp only [Bool.and_eq_true,Bool.not_eq_true'] at h2
  refine List.mem_flatMap.2 ⟨x,List.mem_filter.2 ⟨h1,?_⟩,hxb⟩
  rcases (key j hj x h1).2 with h3 | h3
  · rw [h2.2] at h3;cases h3
  · exact h3)⟩,rfl⟩) (by
    rw [hl,List.all_eq_true]
    intro j hj
    rw [List.all_eq_true]
    intro x hx
    simpa using (key j hj x hx).1) hB (by rw [hl];exact h)
 rwa [List.take_append_drop] at this
theorem outs_mono {w:World} {R R':Value → World → Prop} {r:Result Next} (h:∀ u w',R u w' → R' u w') (hh:outs P w R r):outs P w R' r:=by
 cases r with
 | halt x w' => exact hh
 | ok n w' =>
  cases n with
  | value u => exact h _ _ hh
  | skip => exact h _ _ hh
  | enter f args => obtain ⟨h1,h2,h3⟩:=hh;exact ⟨h1,h2,h3.mono fun e w'' ⟨u,he,hr⟩ => ⟨u,he,h _ _ hr⟩⟩
  | _ => exact hh
theorem fit_make {i:Nat} {o:Oper} {rest:List Oper} {a:Act} (p0:Tmp × (Value → World → Prop)) (hg:o.guard = none) (ho:o.dst = some p0.1) (hp0:p0 ∈ Vs) (hone:∀ p,p ∈ Vs → p0.1 = p.1 → p = p0)
 (h:∀ w,leans ops W Vs M i val o w → outs P w (fun u w' => Only (mine M i ++ eaten E val o) w w' ∧ p0.2 u w' ∧ fresh E M i val o w u ∧ ∀ x,x ∈ M → x.i = i → x.row = false → x.F (x.ds.map val) w') ((execOp a.eval o).run P w)) (hk:wpFit P ops W Vs E M val Q (i + 1) rest (a.put (some p0.1) (val p0.1))):wpFit P ops W Vs E M val Q i (o :: rest) a:=by
 refine ⟨val p0.1,.inl ⟨by simp [Region.wanted,hg],fun p hp hd => ?_,fun w hl => ?_⟩,by rw [ho];exact hk⟩
 · rw [ho] at hd;injection hd with hd;rw [hone p hp hd]
 · refine outs_mono (fun u w' hh => ⟨hh.1,fun p hp hd => ?_,hh.2.2.2,fun hn => absurd ho (hn p0 hp0)⟩) (h w hl)
   rw [ho] at hd;injection hd with hd;rw [hone p hp hd];exact ⟨hh.2.1,hh.2.2.1⟩
theorem fit_call {i:Nat} {o:Oper} {rest:List Oper} {a:Act} (v:Value) (f:FuncId) (args:Array Value) (hw:Region.wanted o (yielded ops a.tmps) = true) (hd:∀ p,p ∈ Vs → o.dst ≠ some p.1) (hrun:∀ w,(execOp a.eval o).run P w = .ok (.enter f args) w) (hx0:(M.all fun x => x.i != i) = true)
 (hin:P.inits.idxOf? f = none) (hc:∀ w,leans ops W Vs M i val o w → Calls P f args w fun e w' => e = .returned v ∧ Only [] w w') (hk:wpFit P ops W Vs E M val Q (i + 1) rest (a.put o.dst v)):wpFit P ops W Vs E M val Q i (o :: rest) a:=by
 refine ⟨v,.inl ⟨hw,fun p hp hh => absurd hh (hd p hp),fun w hl => ?_⟩,hk⟩
 rw [hrun w]
 exact ⟨rfl,hin,(hc w hl).mono fun e w' ⟨he,ho⟩ => ⟨v,he,ho.of0,fun p hp hh => absurd hh (hd p hp),fun x hx hxi => absurd hxi (by simpa using List.all_eq_true.1 hx0 x hx),fun _ => rfl⟩⟩
end
def SlW (B:Nat) (t:TypeId) (cs:List Value) (n:Nat) (u:Value) (w:World):Prop:=∃ b,B ≤ b ∧ u = .slice (some ⟨b,0,none⟩) n n ∧ Cells w b t cs
theorem SlW.lasts (B:Nat) (t:TypeId) (cs:List Value) (n:Nat):Lasts (SlW B t cs n):=
 ⟨fun u w w' S ⟨b,hB,hu,hC⟩ ho hS => ⟨b,hB,hu,hC.only ho fun hm => hS b hm (by rw [hu];rfl)⟩,fun u w b ⟨b',hB,hu,hC⟩ h => by
  rw [hu] at h
  simp only [Value.ownBlock,Option.some.injEq] at h
  subst h
  exact hC.lt⟩
theorem own_keep {S:List Nat} {w w':World} {base:Nat} {e:TypeId} {sz n:Nat} {v:Value} {xs:List Value} (h:w.ownsRow base e sz v n xs) (ho:Only S w w') (hS:∀ b,b ∈ S → v.ownBlock ≠ some b):w'.ownsRow base e sz v n xs:=by
 obtain ⟨hl,h⟩:=h
 refine ⟨hl,?_⟩
 rcases h with h | ⟨g,cap,cur,hv,hb,hh,hr⟩
 · exact .inl h
 · refine .inr ⟨g,cap,cur,hv,hb,?_,hr⟩
   have hlt:g < w.heap.size:=by
    rcases Nat.lt_or_ge g w.heap.size with hlt | hge
    · exact hlt
    · rw [Array.getElem?_eq_none hge] at hh;cases hh
   rw [ho.block g hlt (fun hm => hS g hm (by rw [hv];rfl))]
   exact hh
def OwW (B:Nat) (e:TypeId) (sz n:Nat) (xs:List Value) (u:Value) (w:World):Prop:=w.ownsRow B e sz u n xs
theorem OwW.lasts (B:Nat) (e:TypeId) (sz n:Nat) (xs:List Value):Lasts (OwW B e sz n xs):=
 ⟨fun _ _ _ _ h ho hS => own_keep h ho hS,fun _ _ _ h hb => (h.lt _ hb).2⟩
section
variable {P:Program} {ops:Array Oper} {W:World} {Vs:Words} {E:Eats} {M:Mine} {val:Tmp → Value} {Q:Act → Prop}
theorem fit_lit {i:Nat} {o:Oper} {rest:List Oper} {a:Act} (d:Tmp) (t:TypeId) (cs:List Value) (n:Nat) (hg:o.guard = none) (ho:o.dst = some d) (hp0:(d,SlW W.heap.size t cs n) ∈ Vs) (hone:∀ p,p ∈ Vs → d = p.1 → p = (d,SlW W.heap.size t cs n))
 (h:∀ w,(execOp a.eval o).run P w = .ok (.value (.slice (some ⟨w.heap.size,0,none⟩) n n)) (w.alloc (.cells cs.toArray t))) (hx0:(M.all fun x => x.i != i) = true) (hk:wpFit P ops W Vs E M val Q (i + 1) rest (a.put (some d) (val d))):wpFit P ops W Vs E M val Q i (o :: rest) a:=
 fit_make (d,SlW W.heap.size t cs n) hg ho hp0 hone (fun w hl => by
  rw [h w]
  exact ⟨oz.alloc _,⟨_,hl.1.size,rfl,Cells.new _ _ _⟩,fun b hb => .inl (by simp only [Value.ownBlock,Option.some.injEq] at hb;omega),fun x hx hxi => absurd hxi (by simpa using List.all_eq_true.1 hx0 x hx)⟩) hk
theorem fit_call1 {i:Nat} {o:Oper} {rest:List Oper} {a:Act} (v:Value) (f:FuncId) (d:Tmp) (t:TypeId) (cs:List Value) (n:Nat) (hV:(d,SlW W.heap.size t cs n) ∈ Vs) (hl:d ∈ o.looksAt ops) (hw:Region.wanted o (yielded ops a.tmps) = true) (hd:∀ p,p ∈ Vs → o.dst ≠ some p.1)
 (hrun:∀ w,(execOp a.eval o).run P w = .ok (.enter f #[val d]) w) (hx0:(M.all fun x => x.i != i) = true) (hin:P.inits.idxOf? f = none) (hc:∀ w b,Only (others ops M i) W w → Cells w b t cs → Calls P f #[.slice (some ⟨b,0,none⟩) n n] w fun e w' => e = .returned v ∧ Only [] w w') (hk:wpFit P ops W Vs E M val Q (i + 1) rest (a.put o.dst v)):
 wpFit P ops W Vs E M val Q i (o :: rest) a:=by
 refine fit_call v f _ hw hd hrun hx0 hin (fun w hl' => ?_) hk
 obtain ⟨b,_,hb,hC⟩:=hl'.2 _ hV hl
 have hb:val d = .slice (some ⟨b,0,none⟩) n n:=hb
 rw [hb]
 exact hc w b hl'.1 hC
end
theorem wp_region_pendN {P:Program} {id:Nat} {Q:Exit → Act → World → Prop} {a:Act} {w:World} {l:List Oper} (W:World) (hw:Only [] W w) (Vs:Words) (E:Eats) (n:Nat) (hst:∀ p,p ∈ Vs → Lasts p.2) (hm:P.follows .mixedOrders = true)
 (hB:(pendB l.toArray (List.range' 0 n) (List.range' n (l.length - n)) (Vs.map (·.1)) E && downB l.toArray) = true) (hn:n ≤ l.length)
 (h:∀ val:Tmp → Value,wpFit P l.toArray W Vs E [] val (fun a' => ∀ w',Only [] W w' → (n < l.length → ∀ p,p ∈ Vs → (∀ x,x ∈ E → x.2 ≠ p.1) → p.2 (val p.1) w') → wpList P l.toArray Q (l.drop n) a' w') 0 (l.take n) a):(Code.region id l.toArray true).wp P Q a w:=by
 simp only [Bool.and_eq_true] at hB
 refine wp_region_pendM W hw Vs E [] n hst (fun x hx => by cases hx) (fun x _ hx => by cases hx) hm (by rw [hB.1,hB.2];rfl) hn fun val => ?_
 have:=h val
 have mono:∀ (l:List Oper) (i:Nat) (a:Act) (Q Q':Act → Prop),(∀ a,Q a → Q' a) → ∀ {ops:Array Oper},wpFit P ops W Vs E [] val Q i l a → wpFit P ops W Vs E [] val Q' i l a:=by
  intro l
  induction l with
  | nil => intro i a Q Q' hq ops h;exact hq _ h
  | cons o l ih => intro i a Q Q' hq ops ⟨v,h1,h2⟩;exact ⟨v,h1,ih _ _ _ _ hq h2⟩
 exact mono _ _ _ _ _ (fun a' ha w' ho hp _ => ha w' ho fun _ => hp) this
def SrcA (w:World) (v:Value) (sz m:Nat) (news:List Value):Prop:=
 news.length = m * sz ∧ (∀ u ∈ news,u.oneCell' = true) ∧ ((v = .slice none 0 0 ∧ m = 0) ∨ ∃ ad c,v = .slice (some ad) m c ∧ ∀ j u,news[j]? = some u → w.cell? (ad.add j) = some u)
theorem SrcA.only {w w':World} {v:Value} {sz m:Nat} {news:List Value} (h:SrcA w v sz m news) (ho:Only [] w w'):SrcA w' v sz m news:=by
 obtain ⟨h1,h2,h⟩:=h
 refine ⟨h1,h2,h.imp_right fun ⟨ad,c,hv,hc⟩ => ⟨ad,c,hv,fun j u hu => ?_⟩⟩
 have:=hc j u hu
 exact (ho.cell (World.block_lt_of_cell? w _ this) (by simp)).trans this
theorem SrcA.own {w:World} {base:Nat} {e:TypeId} {sz n:Nat} {v:Value} {xs:List Value} (h:w.ownsRow base e sz v n xs) (h1:∀ u ∈ xs,u.oneCell' = true):SrcA w v sz n xs:=by
 refine ⟨h.1,h1,?_⟩
 rcases h.2 with ⟨rfl,rfl⟩ | ⟨g,cap,cur,rfl,_,hh,hnc,hcm,hs,hx⟩
 · exact .inl ⟨rfl,rfl⟩
 · refine .inr ⟨_,cap,rfl,fun j u hu => ?_⟩
   have hj:j < xs.length:=(List.getElem?_eq_some_iff.1 hu).1
   have hj2:j < n * sz:=by rw [← h.1];exact hj
   rw [Addr.add_lit,Nat.zero_add,cell_of_row w g j cur e (0,0) hh,← hu,← hx,List.getElem?_take_of_lt hj2]
   simp
theorem SrcA.piece {w:World} {b o m c sz:Nat} {t:TypeId} {cs news:List Value} (hC:Cells w b t cs) (hl:news.length = m * sz) (h1:∀ u ∈ news,u.oneCell' = true) (hn:∀ j u,news[j]? = some u → cs[o + j]? = some u):SrcA w (.slice (some ⟨b,o,none⟩) m c) sz m news:=
 ⟨hl,h1,.inr ⟨_,c,rfl,fun j u hu => by rw [Addr.add_lit];exact hC.cell (hn j u hu)⟩⟩
section
variable {P:Program}
theorem run_app (w:World) (base:Nat) (t ty e:TypeId) (i:TypeInfo) (z:Value) (sz bytes:Nat) (ht:P.underlying t = some (.slice e)) (hi:P.info? e = some i) (hz:i.zero = some z) (hsize:i.size = sz) (hby:i.bytes = bytes) (hzs:z.cells.size = sz) (hsz:0 < sz)
 (v:Value) (n:Nat) (xs:List Value) (hown:w.ownsRow base e sz v n xs) (y:Value) (m:Nat) (news:List Value) (hs:SrcA w y sz m news) (h63:n + m ≤ maxLen) (hbytes:(n + m) * bytes ≤ 140737488355328) (hbase:base ≤ w.heap.size):
 ∃ v' w',(Builtin.append_ #[t,t] ty #[v,y]).run P w = .ok v' w' ∧ w'.ownsRow base e sz v' (n + m) (xs ++ news) ∧ Only v.ownBlock.toList w w' ∧ (∀ b,v'.ownBlock = some b → w.heap.size ≤ b ∨ v.ownBlock = some b):=by
 obtain ⟨hl,h1,⟨rfl,rfl⟩ | ⟨ad,c,rfl,hc⟩⟩:=hs
 · refine ⟨v,w,run_append_owned_none w base t ty e i sz ht hi v n xs hown,?_,Only.refl _ _,fun b hb => .inr hb⟩
   have:news = []:=by simpa using hl
   subst this
   simpa using hown
 · obtain ⟨v',w',hr,h2,h3,_,h5⟩:=run_append_own_at (P:=P) w base t ty e i z sz bytes ht hi hz hsize hby hzs hsz v n xs hown ad m c news hl hc h1 h63 hbytes hbase
   refine ⟨v',w',hr,h2,(Only.refl _ w).grown h3 (fun g hg => .inl (by rw [hg];simp)),fun b hb => ?_⟩
   rcases h5 with h5 | h5
   · exact .inr (by rw [← h5];exact hb)
   · rw [h5] at hb;injection hb with hb;exact .inl (by omega)
variable {ops:Array Oper} {W:World} {Vs:Words} {E:Eats} {M:Mine} {val:Tmp → Value} {Q:Act → Prop}
theorem fit_litO {k:Nat} {o:Oper} {rest:List Oper} {a:Act} (d:Tmp) (e:TypeId) (sz:Nat) (cs:List Value) (n:Nat) (hg:o.guard = none) (ho:o.dst = some d) (hp0:(d,OwW W.heap.size e sz n cs) ∈ Vs) (hone:∀ p,p ∈ Vs → d = p.1 → p = (d,OwW W.heap.size e sz n cs)) (hl:cs.length = n * sz) (hn:n ≤ maxLen)
 (h:∀ w,(execOp a.eval o).run P w = .ok (.value (.slice (some ⟨w.heap.size,0,none⟩) n n)) (w.alloc (.cells cs.toArray e))) (hx0:(M.all fun x => x.i != k) = true) (hk:wpFit P ops W Vs E M val Q (k + 1) rest (a.put (some d) (val d))):wpFit P ops W Vs E M val Q k (o :: rest) a:=
 fit_make (d,OwW W.heap.size e sz n cs) hg ho hp0 hone (fun w hl' => by
  rw [h w]
  refine ⟨oz.alloc _,?_,fun b hb => .inl (by simp only [Value.ownBlock,Option.some.injEq] at hb;omega),fun x hx hxi => absurd hxi (by simpa using List.all_eq_true.1 hx0 x hx)⟩
  have:=World.ownsRow_lit (base:=W.heap.size) (e:=e) (size:=sz) w cs.toArray n hl'.1.size hn (by simpa using hl)
  simpa [OwW] using this) hk
theorem fit_append {k:Nat} {o:Oper} {rest:List Oper} {a:Act} (d0 d:Tmp) (y:Operand) (t e:TypeId) (i:TypeInfo) (z:Value) (sz bytes:Nat) (ht:P.underlying t = some (.slice e)) (hi:P.info? e = some i) (hz:i.zero = some z) (hsize:i.size = sz) (hby:i.bytes = bytes) (hzs:z.cells.size = sz) (hsz:0 < sz)
 (n m N:Nat) (xs news zs:List Value) (hN:N = n + m) (hzl:zs = xs ++ news) (hop:o.op = .call { callee:=.builtin .append,args:=#[.tmp d,y],argTypes:=#[t,t] }) (hg:o.guard = none) (ho:o.dst = some d0) (hp0:(d0,OwW W.heap.size e sz N zs) ∈ Vs) (hone:∀ p,p ∈ Vs → d0 = p.1 → p = (d0,OwW W.heap.size e sz N zs))
 (hV:(d,OwW W.heap.size e sz n xs) ∈ Vs) (hl:d ∈ o.looksAt ops) (heat:eats E o = [d]) (hd:a.eval (.tmp d) = val d) (hy:∀ w,leans ops W Vs M k val o w → SrcA w (a.eval y) sz m news) (h63:n + m ≤ maxLen) (hbytes:(n + m) * bytes ≤ 140737488355328) (hx0:(M.all fun x => x.i != k) = true)
 (hk:wpFit P ops W Vs E M val Q (k + 1) rest (a.put (some d0) (val d0))):wpFit P ops W Vs E M val Q k (o :: rest) a:=by
 subst hN
 subst hzl
 refine fit_make (d0,OwW W.heap.size e sz (n + m) (xs ++ news)) hg ho hp0 hone (fun w hw => ?_) hk
 have hown:w.ownsRow W.heap.size e sz (val d) n xs:=hw.2 _ hV hl
 obtain ⟨v',w',hr,h2,h3,h4⟩:=run_app w W.heap.size t o.type e i z sz bytes ht hi hz hsize hby hzs hsz (val d) n xs hown (a.eval y) m news (hy w hw) h63 hbytes hw.1.size
 have he:eaten E val o = (val d).ownBlock.toList:=by unfold eaten;rw [heat];simp
 have hrun:(execOp a.eval o).run P w = .ok (.value v') w':=by
  unfold execOp
  simp only [hop,resolve,invoke,builtin,Sem.run_bind,Sem.run_pure,Result.andThen_ok,List.map_toArray,List.map_cons,List.map_nil,hd,hr]
 rw [hrun]
 refine ⟨h3.mono fun x hx => .inl (List.mem_append_right _ (by rw [he];exact hx)),h2,fun b hb => ?_,fun x hx hxi => absurd hxi (by simpa using List.all_eq_true.1 hx0 x hx)⟩
 rcases h4 b hb with h5 | h5
 · exact .inl h5
 · exact .inr (List.mem_append_right _ (by rw [he,h5];simp))
theorem others_sub {k:Nat} {ks:List Nat} (h:(M.all fun x => x.i == k || (marks ops x.i).getD k false || ks.contains x.i) = true) {b:Nat} (hb:b ∈ others ops M k):b ∈ bsOf M ks:=by
 obtain ⟨x,hx,hxb⟩:=List.mem_flatMap.1 hb
 obtain ⟨h1,h2⟩:=List.mem_filter.1 hx
 simp only [Bool.and_eq_true,Bool.not_eq_true',bne_iff_ne] at h2
 have h3:=List.all_eq_true.1 h x h1
 simp only [Bool.or_eq_true,beq_iff_eq] at h3
 refine List.mem_flatMap.2 ⟨x,List.mem_filter.2 ⟨h1,?_⟩,hxb⟩
 rcases h3 with (h3 | h3) | h3
 · exact absurd h3 h2.1
 · rw [h2.2] at h3;cases h3
 · exact h3
theorem fit_appendM {k:Nat} {o:Oper} {rest:List Oper} {a:Act} (d0:Tmp) (s y:Operand) (t e:TypeId) (i:TypeInfo) (z:Value) (sz bytes:Nat) (ht:P.underlying t = some (.slice e)) (hi:P.info? e = some i) (hz:i.zero = some z) (hsize:i.size = sz) (hby:i.bytes = bytes) (hzs:z.cells.size = sz) (hsz:0 < sz)
 (B:Nat) (v:Value) (n m N:Nat) (xs news zs:List Value) (hN:N = n + m) (hzl:zs = xs ++ news) (hop:o.op = .call { callee:=.builtin .append,args:=#[s,y],argTypes:=#[t,t] }) (hg:o.guard = none) (ho:o.dst = some d0) (hp0:(d0,OwW B e sz N zs) ∈ Vs) (hone:∀ p,p ∈ Vs → d0 = p.1 → p = (d0,OwW B e sz N zs))
 (hs:a.eval s = v) (hW:W.ownsRow B e sz v n xs) (hrow:rows M k = v.ownBlock.toList) (hall:∀ x,x ∈ M → x.i = k → x.row = true) (ks:List Nat) (hks:(M.all fun x => x.i == k || (marks ops x.i).getD k false || ks.contains x.i) = true) (hoth:∀ b,b ∈ bsOf M ks → v.ownBlock ≠ some b) (hB:B ≤ W.heap.size) (hy:∀ w,leans ops W Vs M k val o w → SrcA w (a.eval y) sz m news) (h63:n + m ≤ maxLen) (hbytes:(n + m) * bytes ≤ 140737488355328)
 (hk:wpFit P ops W Vs E M val Q (k + 1) rest (a.put (some d0) (val d0))):wpFit P ops W Vs E M val Q k (o :: rest) a:=by
 subst hN
 subst hzl
 refine fit_make (d0,OwW B e sz (n + m) (xs ++ news)) hg ho hp0 hone (fun w hw => ?_) hk
 have hown:w.ownsRow B e sz v n xs:=own_keep hW hw.1 fun b hb => hoth b (others_sub hks hb)
 obtain ⟨v',w',hr,h2,h3,h4⟩:=run_app w B t o.type e i z sz bytes ht hi hz hsize hby hzs hsz v n xs hown (a.eval y) m news (hy w hw) h63 hbytes (Nat.le_trans hB hw.1.size)
 have hrun:(execOp a.eval o).run P w = .ok (.value v') w':=by
  unfold execOp
  simp only [hop,resolve,invoke,builtin,Sem.run_bind,Sem.run_pure,Result.andThen_ok,List.map_toArray,List.map_cons,List.map_nil,hs,hr]
 rw [hrun]
 refine ⟨h3.mono fun x hx => .inl (List.mem_append_left _ (rows_mine (by rw [hrow];exact hx))),h2,fun b hb => ?_,fun x hx hxi hxr => by rw [hall x hx hxi] at hxr;cases hxr⟩
 rcases h4 b hb with h5 | h5
 · exact .inl h5
 · exact .inr (List.mem_append_left _ (by rw [hrow,h5];simp))
def rowOwn (k:Nat) (v:Value):Own:=⟨k,v.ownBlock.toList,true,[],fun _ _ => True⟩
theorem rowOwn_ok {k B:Nat} {e:TypeId} {sz n:Nat} {v:Value} {xs:List Value} (h:W.ownsRow B e sz v n xs):(rowOwn k v).Ok ops W Vs:=⟨fun b hb => (h.lt b (by simpa [rowOwn] using hb)).2,fun _ _ _ _ _ _ _ => trivial⟩
end
def gvs (l:List Int):List Value:=l.map fun n => Value.int .i64 n
theorem gvs_length (l:List Int):(gvs l).length = l.length:=by simp [gvs]
theorem wpList_appX {P:Program} {ops:Array Oper} {rest:List Oper} {o:Oper} {a:Act} {Q:Exit → Act → World → Prop} (hgd:o.guard = none) (s x:Operand) (t:TypeId)
 (ho:o.op = .call { callee:=.builtin .append,args:=#[s,x],argTypes:=#[t,t] })
 (base:Nat) (e:TypeId) (i:TypeInfo) (z:Value) (size bytes:Nat) (ht:P.underlying t = some (.slice e)) (hi:P.info? e = some i) (hz:i.zero = some z)
 (hsize:i.size = size) (hby:i.bytes = bytes) (hzs:z.cells.size = size) (hsz:0 < size) (w:World)
 (v:Value) (n:Nat) (xs:List Value) (hs:a.eval s = v) (hown:w.ownsRow base e size v n xs)
 (B m:Nat) (cs:List Value) (A:Addr) (c:Nat) (hx:a.eval x = .slice (some A) m c) (hu:SlAt w B (.slice (some A) m c) size m cs) (h1:∀ u ∈ cs,u.oneCell' = true)
 (h63:n + m ≤ maxLen) (hbytes:(n + m) * bytes ≤ 140737488355328) (hbase:base ≤ w.heap.size)
 (h:∀ v' w',w'.ownsRow base e size v' (n + m) (xs ++ cs) → w.grownBy w' v.ownBlock → wpList P ops Q rest (a.put o.dst v') w'):
 wpList P ops Q (o :: rest) a w:=by
 refine wpList_append_own _ hgd s x t ho base e i z size bytes ht hi hz hsize hby hzs hsz v n xs hs hown A m c cs hx hu.1 (fun j u hj => ?_) h1 h63 hbytes hbase fun v' w' h2 h3 h4 => h v' w' h2 h3
 have hlt:j < cs.length:=(List.getElem?_eq_some_iff.1 hj).1
 have hl:=hu.1
 obtain ⟨b,o',c',hv,hb,hc⟩:=hu.at_ (by omega)
 injection hv with hv
 injection hv with hv
 subst hv
 rw [Addr.add_lit]
 exact hc j u hj
def rb (v:Value):List Nat:=v.ownBlock.toList
theorem own_own_ne {w:World} {B B':Nat} {e e':TypeId} {sz sz' n n':Nat} {v v':Value} {xs xs':List Value} (h:w.ownsRow B e sz v n xs) (h':w.ownsRow B' e' sz' v' n' xs') (hne:e ≠ e') {g:Nat} (hg:v.ownBlock = some g):v'.ownBlock ≠ some g:=by
 intro hg'
 rcases h.2 with ⟨rfl,_⟩ | ⟨g1,cap,cur,rfl,_,hh,_⟩
 · simp [Value.ownBlock] at hg
 · rcases h'.2 with ⟨rfl,_⟩ | ⟨g2,cap2,cur2,rfl,_,hh2,_⟩
   · simp [Value.ownBlock] at hg'
   · simp only [Value.ownBlock,Option.some.injEq] at hg hg'
     subst hg;subst hg'
     rw [hh] at hh2
     injection hh2 with h1
     injection h1 with _ h2
     exact hne h2
def NewOf (w:World) (v v':Value):Prop:=∀ g,v'.ownBlock = some g → v.ownBlock = some g ∨ w.heap.size ≤ g
theorem NewOf.refl (w:World) (v:Value):NewOf w v v:=fun _ h => .inl h
theorem wpList_appA {P:Program} {ops:Array Oper} {rest:List Oper} {o:Oper} {a:Act} {Q:Exit → Act → World → Prop} (hgd:o.guard = none) (s x:Operand) (t:TypeId)
 (ho:o.op = .call { callee:=.builtin .append,args:=#[s,x],argTypes:=#[t,t] })
 (base:Nat) (e:TypeId) (i:TypeInfo) (z:Value) (size bytes:Nat) (ht:P.underlying t = some (.slice e)) (hi:P.info? e = some i) (hz:i.zero = some z)
 (hsize:i.size = size) (hby:i.bytes = bytes) (hzs:z.cells.size = size) (hsz:0 < size) (w:World)
 (v:Value) (n:Nat) (xs:List Value) (hs:a.eval s = v) (hown:w.ownsRow base e size v n xs)
 (m c:Nat) (cs:List Value) (hx:a.eval x = .slice (some ⟨w.heap.size,0,none⟩) m c) (hl:cs.length = m * size) (h1:∀ u ∈ cs,u.oneCell' = true)
 (h63:n + m ≤ maxLen) (hbytes:(n + m) * bytes ≤ 140737488355328) (hbase:base ≤ w.heap.size)
 (h:∀ v' w',w'.ownsRow base e size v' (n + m) (xs ++ cs) → w.grownBy w' v.ownBlock → NewOf w v v' → wpList P ops Q rest (a.put o.dst v') w'):
 wpList P ops Q (o :: rest) a (w.alloc (.cells cs.toArray e)):=by
 refine wpList_append_own_at (w:=w.alloc (.cells cs.toArray e)) hgd s x t ho base e i z size bytes ht hi hz hsize hby hzs hsz v n xs hs (hown.alloc _) ⟨w.heap.size,0,none⟩ m c cs hx hl (fun j u hu => ?_) h1 h63 hbytes (by simp;omega) fun v' w' h2 h3 _ h5 => h v' w' h2 ?_ ?_
 · have:=(Cells.new w e cs).cell hu
   unfold Addr.add
   by_cases hj:j = 0
   · subst hj;simpa using this
   · simp only [hj,if_false,Nat.zero_add];exact this
 · exact ⟨h3.os,h3.tape,h3.output,Nat.le_trans (by simp) h3.size,fun k hk hne => (h3.block k (by simp;omega) hne).trans (Below.heap_alloc w _ k hk)⟩
 · intro g hg
   rcases h5 with h5 | h5
   · exact .inl (by rw [← h5];exact hg)
   · rw [h5] at hg
     injection hg with hg
     simp at hg
     exact .inr (by omega)
theorem own_low {w:World} {B B' n sz:Nat} {e:TypeId} {v:Value} {xs:List Value} (h:w.ownsRow B e sz v n xs) (hB:B' ≤ B):w.ownsRow B' e sz v n xs:=
 ⟨h.1,h.2.imp_right fun ⟨q,cap,cur,e1,e2,e3⟩ => ⟨q,cap,cur,e1,Nat.le_trans hB e2,e3⟩⟩
theorem own_formX {w:World} {base n sz:Nat} {e:TypeId} {v:Value} {xs:List Value} (h:w.ownsRow base e sz v n xs) (hn:0 < n):∃ g cap,v = .slice (some ⟨g,0,none⟩) n cap:=by
 obtain ⟨_,h⟩:=h
 rcases h with ⟨_,h⟩ | ⟨g,cap,cur,hv,_⟩
 · omega
 · exact ⟨g,cap,hv⟩
theorem lit4 {w:World} {b:Nat} {t:TypeId} {cs:List Value} (h:Cells w b t cs):∀ j u,cs[j]? = some u → w.cell? ((⟨b,0,none⟩:Addr).add j) = some u:=fun j u hu => by
 rw [Addr.add_lit,Nat.zero_add];exact h.cell hu
def Keeps (b:Nat) (w w':World):Prop:=∀ (k:Nat) (t:TypeId) (cs:List Value),k ≠ b → t ≠ 5 → Cells w k t cs → Cells w' k t cs
theorem Keeps.refl (b:Nat) (w:World):Keeps b w w:=fun _ _ _ _ _ h => h
theorem Keeps.trans {b:Nat} {w w' w2:World} (h:Keeps b w w') (k:Keeps b w' w2):Keeps b w w2:=fun i t cs hi ht hC => k i t cs hi ht (h i t cs hi ht hC)
theorem Keeps.set {b:Nat} {w w':World} (h:Keeps b w w') (i:Nat) (u:Value):Keeps b w (w'.setCell ⟨b,i,none⟩ u):=fun k t cs hk ht hC => (h k t cs hk ht hC).far hk u
theorem holds_builder:Holds 209:=⟨by kernel_rfl,by decide⟩
theorem SlAt.cells {w:World} {b n sz:Nat} {t:TypeId} {cs:List Value} (hC:Cells w b t cs) (hl:cs.length = n * sz) (hn:n ≤ maxLen):SlAt w w.heap.size (.slice (some ⟨b,0,none⟩) n n) sz n cs:=
 ⟨hl,_,_,rfl,Nat.le_refl _,hn,fun _ => ⟨b,0,rfl,hC.lt,fun j u hu => by rw [Nat.zero_add];exact hC.cell hu⟩⟩
theorem Cells.new' {w:World} {b:Nat} (h:w.heap.size = b) (t:TypeId) (cs:List Value):Cells (w.alloc (.cells cs.toArray t)) b t cs:=by subst h;exact Cells.new w t cs
theorem Bld.only {T:TypeId} {B b:Nat} {p:Value} {l:List UInt8} {w w':World} (h:Bld T B b p l w) (ho:Only [] w w'):Bld T B b p l w':=by
 obtain ⟨hB,v,hc,hown,hn⟩:=h
 exact ⟨hB,v,hc.only ho (by simp),own_only hown ho (by simp),hn⟩
theorem IsBld.only {T:TypeId} {B b:Nat} {l:List UInt8} {w w':World} (h:IsBld T B b l w) (ho:Only [] w w'):IsBld T B b l w':=h.imp (fun h => h.only ho) (fun h => h.only ho)
theorem Only.past_below {z:Nat} {a w w':World} (h:Only [] a w) (hz:a.heap.size = z) (k:Below z w w'):Only [] a w':=by subst hz;exact Only.of_below (h.below.trans k)
theorem ba_list (s:ByteArray):(⟨s.data.toList.toArray⟩:ByteArray) = s:=by cases s;simp
theorem copyCheck_k (T:TypeId) (hT:Holds T) (B b:Nat) (l:List UInt8) (w:World) (h:IsBld T B b l w):
 Calls Tryz.prog 211 #[.pointer (some ⟨b,0,none⟩)] w fun e w' => e = .returned (.tuple #[]) ∧ Bld T B b (.pointer (some ⟨b,0,none⟩)) l w' ∧ Below B w w' ∧ w.heap.size = w'.heap.size ∧ Keeps b w w':=by
 rcases h with ⟨hB,v,hc,hown,hnil⟩ | ⟨hB,v,hc,hown,hnil⟩
 · refine (copyCheck_fresh T hT b w (hc.cell rfl) ?_ (hc.frozen 0)).mono ?_
   · unfold Cells at hc;simp [World.shape?,hc]
   · rintro e w' ⟨rfl,rfl⟩
     refine ⟨rfl,⟨hB,v,hc.set 0 _,?_,hnil⟩,(Below.refl B w).setCell (p:=⟨b,0,none⟩) hB _,by simp [World.setCell],(Keeps.refl b w).set 0 _⟩
     exact ownsRow_setCell_other hown (own_ne_block hown hc hT.ne) _
 · refine (copyCheck_used b w (hc.cell rfl)).mono ?_
   rintro e w' ⟨rfl,rfl⟩
   exact ⟨rfl,⟨hB,v,hc,hown,hnil⟩,Below.refl B w,rfl,Keeps.refl b w⟩
theorem writeString_k (T:TypeId) (hT:Holds T) (B b:Nat) (l s:List UInt8) (w:World) (h:IsBld T B b l w) (hlen:l.length + s.length ≤ 140737488355328) (hBw:B ≤ w.heap.size):
 Calls Tryz.prog 148 #[.pointer (some ⟨b,0,none⟩),.string ⟨s.toArray⟩] w fun e w' => e = .returned (.tuple #[.int .i64 s.length,.nilIface]) ∧ Bld T B b (.pointer (some ⟨b,0,none⟩)) (l ++ s) w' ∧ Below B w w' ∧ Keeps b w w':=by
 obtain ⟨i0,hi,hz0,hz1,hz2⟩:=info_parts info_byte
 have HC:=Hd (copyCheck_k T hT B b l w h)
 have hbl:=bytes_length l
 have HBL:=Hd hbl
 clear h hbl
 go_enter Tryz.func148,Tryz.ntmps148
 go_wp2_with fail
 refine HC.out.mono ?_
 rintro e w1 ⟨rfl,⟨hB,v,hc,hown,hnil⟩,hb1,hsz,hk1⟩
 have HK1:=Hd hk1
 clear hk1
 have hsz1:B ≤ w1.heap.size:=Nat.le_trans hBw hb1.size
 have c1:=hc.cell (k:=1) rfl
 have hlt:=hc.lt
 have H:=Hd hc
 have hne:=own_ne_block hown hc hT.ne
 clear hc hsz
 go_wp2_with (at_builtin;refine Lib.wpList_append_own_string w1 rfl _ _ 61 9 rfl B 5 i0 Tryz.underlying61 Tryz.underlying9 hi hz0 hz1 hz2 v l.length (bytes l) rfl hown ⟨s.toArray⟩ rfl (by rw [str_size];unfold maxLen;omega) (by rw [str_size];omega) hsz1 ?_)
 rw [strCells_bytes]
 intro v' w2 hown' hgrow hnil'
 obtain ⟨A',cap',hv⟩:∃ A cap,v' = .slice A (l.length + s.length) cap:=by
  rcases hown'.2 with ⟨hv,h0⟩ | ⟨g,cap,cur,hv,_⟩
  · exact ⟨none,0,by rw [hv,h0]⟩
  · exact ⟨_,cap,hv⟩
 subst hv
 have hc2:=H.out.grown hgrow hne
 have HK2:Hid (Keeps b w w2):=HK1.out.trans fun k t cs hk ht hC => hC.grown hgrow (own_ne_block hown hC ht.symm)
 have d1:=hc2.cell (k:=1) rfl
 have f1:=hc2.frozen 1
 have hlt2:=hc2.lt
 have H2:=Hd hc2
 clear hc2
 go_wp2
 go_ret2
 refine ⟨rfl,⟨hB,_,H2.out.set 1 _,?_,fun h => hnil'.2 ?_⟩,(hb1.grown hgrow hsz1 (fun k hk => (hown.lt k hk).1)).setCell (p:=⟨b,1,none⟩) hB _,HK2.out.set 1 _⟩
 · have:=ownsRow_setCell_other hown' (a:=⟨b,1,none⟩) (own_ne_block hown' H2.out hT.ne) (.slice A' (l.length + s.length) cap')
   rw [List.length_append,bytes_append]
   exact this
 · obtain ⟨rfl,rfl⟩:=List.append_eq_nil_iff.1 h
   exact ⟨hnil rfl,rfl⟩
theorem Cells.setRow {w:World} {b:Nat} {t:TypeId} {cs:List Value} (h:Cells w b t cs) (new:List Value):Cells (w.setRow b new.toArray) b t new:=setRow_heap w b _ _ t _ h
theorem Only.setRow {S:List Nat} {a w:World} (h:Only S a w) {b:Nat} (hb:b ∈ S ∨ a.heap.size ≤ b) (new:Array Value):Only S a (w.setRow b new):=by
 refine ⟨h.os,h.tape,h.output,?_,fun i hi hn => ?_⟩
 · unfold World.setRow;simpa using h.size
 · have hne:i ≠ b:=by
    rintro rfl
    rcases hb with hb | hb
    · exact hn hb
    · omega
   refine Eq.trans ?_ (h.block i hi hn)
   unfold World.setRow
   simp [Array.getElem?_modify,Ne.symm hne]
theorem Cells.farRow {w:World} {b q:Nat} {t:TypeId} {cs:List Value} (h:Cells w b t cs) (hne:b ≠ q) (new:Array Value):Cells (w.setRow q new) b t cs:=by
 unfold Cells at h ⊢
 refine Eq.trans ?_ h
 unfold World.setRow
 simp [Array.getElem?_modify,Ne.symm hne]
theorem results_row_tmp {P:Program} {fn:Func} {p u:Tmp} {ty:TypeId} (h:fn.results = #[.cell p ty,.tmp u]) (tmps:Array Value) (w:World) (g:Nat) (t:TypeId) (cs:List Value) (d:TypeDesc)
 (hp:tmps.getD p undef = .pointer (some ⟨g,0,none⟩)) (hg:Cells w g t cs)
 (hu:P.underlying ty = some d) (hd:(match d with | .struct _ | .array _ _ => true | _ => false) = true) (hi:(P.info? ty).map (·.size) = some cs.length):
 (results fn tmps).run P w = .ok (.tuple #[.agg cs.toArray,tmps.getD u undef]) w:=by
 have hp':tmps[p]?.getD undef = .pointer (some ⟨g,0,none⟩):=by simpa using hp
 simp [results,h,hp',asAddr,run_loadVar_row w g t ty cs.toArray (0,0) d hg hu hd (by simpa using hi),Result.andThen]
theorem results_row {P:Program} {fn:Func} {p:Tmp} {ty:TypeId} (h:fn.results = #[.cell p ty]) (tmps:Array Value) (w:World) (g:Nat) (t:TypeId) (cs:List Value) (d:TypeDesc)
 (hp:tmps.getD p undef = .pointer (some ⟨g,0,none⟩)) (hg:Cells w g t cs)
 (hu:P.underlying ty = some d) (hd:(match d with | .struct _ | .array _ _ => true | _ => false) = true) (hi:(P.info? ty).map (·.size) = some cs.length):
 (results fn tmps).run P w = .ok (.agg cs.toArray) w:=
 results_cell_row h tmps w g t cs.toArray (0,0) d hp hg hu hd (by simpa using hi)
end Go.Proofs.YtcjfmildalappaaGreat
namespace Go.Proofs.YtcjfmildalappaaGreat
theorem wide64_of_wf {n:Int} (h:(Lit.int .i64 n).wf = true):Wide64 n:=by
 simp [Lit.wf,IntKind.min,IntKind.max,IntKind.signed,IntKind.bits] at h
 exact ⟨by omega,by omega⟩
end Go.Proofs.YtcjfmildalappaaGreat
