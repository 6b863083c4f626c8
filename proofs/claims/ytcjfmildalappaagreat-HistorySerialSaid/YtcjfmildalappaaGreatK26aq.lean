/-
  Contracts; each theorem bears its own conditions.
-/
import Derived.Test.YtcjfmildalappaaGreatK26ab
import Derived.Test.YtcjfmildalappaaGreatK26ap
set_option linter.all false
set_option maxRecDepth 100000
set_option maxHeartbeats 8000000
namespace Go.Proofs.YtcjfmildalappaaGreat
open Go.RowKit
structure It.Sh (n:Nat) (x:It):Prop where
 id:x.id.length ≤ n
 ti:x.ti.length ≤ n
 li:x.li.length ≤ n
theorem tb_top (s:List UInt8) (n:Nat) (h:s.length ≤ n) (hn:n ≤ 1000000):(tb s).length ≤ n + 10:=Nat.le_trans (tb_length s (by omega)).2 (by omega)
def itT (x:It):List UInt8:=tb x.id ++ (tb x.ti ++ tb x.li)
def spB (p:Po):List UInt8:=itT p.it ++ bb p.rd
def psB (l:List Po):List UInt8:=l.flatMap spB
def fdH (x:List UInt8 × Fd):List UInt8:=tb x.1 ++ isb [x.2.pol,x.2.fai,(x.2.ps.length:Int)]
def fdB (x:List UInt8 × Fd):List UInt8:=fdH x ++ psB x.2.ps
def fsB (S:Sv):List UInt8:=S.flatMap fdB
def stB (S:Sv):List UInt8:=ib S.length ++ fsB S
theorem itT_le (x:It) (h:x.Sh 1000000):(itT x).length ≤ 3000030:=by
 have h1:=tb_top x.id _ h.id (by omega)
 have h2:=tb_top x.ti _ h.ti (by omega)
 have h3:=tb_top x.li _ h.li (by omega)
 unfold itT
 rw [List.length_append,List.length_append]
 omega
theorem spB_le (p:Po) (h:p.it.Sh 1000000):(spB p).length ≤ 3000031:=by
 have:=itT_le p.it h
 unfold spB
 rw [List.length_append]
 show _ + 1 ≤ _
 omega
theorem flat_le {α:Type} (f:α → List UInt8) (n:Nat):∀ l:List α,(∀ x ∈ l,(f x).length ≤ n) → (l.flatMap f).length ≤ n * l.length
 | [],_ => by simp
 | x :: r,h => by
  have h1:=h x (by simp)
  have h2:=flat_le f n r (fun y hy => h y (List.mem_cons_of_mem _ hy))
  rw [List.flatMap_cons,List.length_append,List.length_cons,Nat.mul_succ]
  omega
theorem flat_snoc {α β:Type} (f:α → List β) (l:List α) (k:Nat) (x:α) (h:l[k]? = some x):(l.take (k + 1)).flatMap f = (l.take k).flatMap f ++ f x:=by
 rw [List.take_add_one,h,List.flatMap_append];simp
structure Fd.Sh (f:Fd):Prop where
 cap:f.ps.length ≤ 200
 nb:-1 ≤ f.pol ∧ f.pol ≤ 1099511627776 ∧ 0 ≤ f.fai ∧ f.fai ≤ 1000
 its:∀ p ∈ f.ps,p.it.Sh 1000000
theorem Fd.Sh.ws {f:Fd} (h:f.Sh):∀ x ∈ [f.pol,f.fai,(f.ps.length:Int)],Wide64 x:=by
 obtain ⟨h1,h2,h3,h4⟩:=h.nb
 have:=h.cap
 intro x hx
 simp only [List.mem_cons,List.not_mem_nil,or_false] at hx
 rcases hx with rfl | rfl | rfl <;> exact ⟨by omega,by omega⟩
theorem psB_le (l:List Po) (h:l.length ≤ 200) (hs:∀ p ∈ l,p.it.Sh 1000000):(psB l).length ≤ 600006200:=by
 have:=flat_le spB 3000031 l (fun p hp => spB_le p (hs p hp))
 unfold psB
 have:3000031 * l.length ≤ 3000031 * 200:=Nat.mul_le_mul_left _ h
 omega
theorem fdH_le (x:List UInt8 × Fd) (hn:x.1.length ≤ 1000) (h:x.2.Sh):(fdH x).length ≤ 1040:=by
 have h1:=tb_top x.1 1000 hn (by omega)
 have h2:=isb_length [x.2.pol,x.2.fai,(x.2.ps.length:Int)] h.ws
 unfold fdH
 rw [List.length_append]
 simp at h2
 omega
theorem fdB_le (x:List UInt8 × Fd) (hn:x.1.length ≤ 1000) (h:x.2.Sh):(fdB x).length ≤ 600008000:=by
 have h1:=fdH_le x hn h
 have h2:=psB_le x.2.ps h.cap h.its
 unfold fdB
 rw [List.length_append]
 omega
theorem fsB_le (S:Sv) (hl:S.length ≤ 20) (h:∀ x ∈ S,x.1.length ≤ 1000 ∧ x.2.Sh):(fsB S).length ≤ 12000160000:=by
 have:=flat_le fdB 600008000 S (fun x hx => fdB_le x (h x hx).1 (h x hx).2)
 unfold fsB
 have:600008000 * S.length ≤ 600008000 * 20:=Nat.mul_le_mul_left _ hl
 omega
structure PsOk (ps:List Po):Prop where
 sq:∀ (i:Nat) (x:Po),ps[i]? = some x → x.sq = (i:Int) + 1
 ids:(ps.map (·.it.id)).Nodup
 n:ps.length ≤ 200
def Pre (ps ps':List Po):Prop:=∀ (i:Nat) (x:Po),ps[i]? = some x → ∃ x',ps'[i]? = some x' ∧ x'.sq = x.sq ∧ x'.it = x.it ∧ (x.rd = true → x'.rd = true)
theorem Pre.refl (ps:List Po):Pre ps ps:=fun i x h => ⟨x,h,rfl,rfl,id⟩
theorem Pre.trans {a b c:List Po} (h:Pre a b) (h':Pre b c):Pre a c:=fun i x hx => by
 obtain ⟨y,h1,h2,h3,h4⟩:=h i x hx
 obtain ⟨z,g1,g2,g3,g4⟩:=h' i y h1
 exact ⟨z,g1,g2.trans h2,g3.trans h3,fun h => g4 (h4 h)⟩
theorem idx_none {ps:List Po} {k:List UInt8} (h:idx ps k = none):∀ x ∈ ps,x.it.id ≠ k:=by
 intro x hx he
 have:=List.findIdx?_eq_none_iff.1 h x hx
 simp [he] at this
theorem addF_ok {f:Fd} (x:It) (h:PsOk f.ps):PsOk (addF f x).ps ∧ Pre f.ps (addF f x).ps:=by
 unfold addF
 split
 · rename_i hb
   unfold addB at hb
   simp only [Bool.and_eq_true,Option.isNone_iff_eq_none,Bool.not_eq_true',beq_eq_false_iff_ne,ne_eq] at hb
   obtain ⟨h1,h2⟩:=hb
   have h1:=idx_none h1
   refine ⟨⟨fun i y hy => ?_,?_,?_⟩,fun i y hy => ?_⟩
   · dsimp only at hy
     rcases Nat.lt_or_ge i f.ps.length with hi | hi
     · rw [List.getElem?_append_left hi] at hy
       exact h.sq i y hy
     · rw [List.getElem?_append_right hi] at hy
       have h0:i - f.ps.length = 0:=by
        rcases Nat.eq_zero_or_pos (i - f.ps.length) with h0 | h0
        · exact h0
        · rw [List.getElem?_eq_none (by rw [List.length_singleton];omega)] at hy;cases hy
       rw [h0] at hy
       simp at hy
       subst hy
       show (f.ps.length:Int) + 1 = _
       omega
   · rw [List.map_append]
     refine List.nodup_append.2 ⟨h.ids,by simp,fun a ha b hb => ?_⟩
     simp at hb
     subst hb
     obtain ⟨y,hy,rfl⟩:=List.mem_map.1 ha
     exact h1 y hy
   · have:=h.n
     simp only [List.length_append,List.length_singleton]
     omega
   · have hi:=(List.getElem?_eq_some_iff.1 hy).1
     exact ⟨y,by show (f.ps ++ _)[i]? = _;rw [List.getElem?_append_left hi];exact hy,rfl,rfl,id⟩
 · exact ⟨h,Pre.refl _⟩
theorem ingF_ok {f:Fd} (l:List It) (h:PsOk f.ps):PsOk (ingF f l).1.ps ∧ Pre f.ps (ingF f l).1.ps:=by
 unfold ingF
 have:∀ (l:List It) (s:Fd × Nat),PsOk s.1.ps → PsOk (l.foldl ingS s).1.ps ∧ Pre s.1.ps (l.foldl ingS s).1.ps:=by
  intro l
  induction l with
  | nil => intro s h;exact ⟨h,Pre.refl _⟩
  | cons x r ih =>
   intro s h
   obtain ⟨h1,h2⟩:=addF_ok x h
   obtain ⟨h3,h4⟩:=ih (ingS s x) h1
   exact ⟨h3,h2.trans h4⟩
 exact this l (f,0) h
theorem markAt_get (ps:List Po) (i j:Nat):(markAt ps i)[j]? = (ps[j]?).map fun x => if j = i then x.mark else x:=by
 unfold markAt
 split
 · rename_i x hx
   rw [List.getElem?_set]
   by_cases h:i = j
   · subst h
     have:=(List.getElem?_eq_some_iff.1 hx).1
     rw [if_pos rfl,if_pos this,hx]
     simp
   · rw [if_neg h]
     cases ps[j]? with
     | none => rfl
     | some y => simp only [Option.map_some];rw [if_neg (fun e => h e.symm)]
 · rename_i hx
   cases hj:ps[j]? with
   | none => rfl
   | some y =>
    simp only [Option.map_some]
    rw [if_neg (fun e => by subst e;rw [hx] at hj;cases hj)]
theorem markAt_len (ps:List Po) (i:Nat):(markAt ps i).length = ps.length:=by
 unfold markAt
 split <;> simp
theorem mark_ok {ps:List Po} (i:Nat) (h:PsOk ps):PsOk (markAt ps i) ∧ Pre ps (markAt ps i):=by
 have hl:=markAt_len ps i
 have hm:(markAt ps i).map (·.it.id) = ps.map (·.it.id):=by
  apply List.ext_getElem?
  intro j
  rw [List.getElem?_map,markAt_get,List.getElem?_map,Option.map_map]
  congr 1
  funext x
  simp only [Function.comp]
  split <;> rfl
 refine ⟨⟨fun j y hy => ?_,by rw [hm];exact h.ids,by rw [hl];exact h.n⟩,fun j y hy => ?_⟩
 · rw [markAt_get] at hy
   cases hp:ps[j]? with
   | none => rw [hp] at hy;cases hy
   | some x =>
    rw [hp] at hy
    simp only [Option.map_some,Option.some.injEq] at hy
    have:=h.sq j x hp
    subst hy
    split <;> exact this
 · refine ⟨_,by rw [markAt_get,hy];rfl,?_,?_,?_⟩
   · split <;> rfl
   · split <;> rfl
   · intro h1;split
     · rfl
     · exact h1
def SvOk (S:Sv):Prop:=∀ k f,fnd S k = some f → PsOk f.ps
theorem PsOk.nil:PsOk []:=⟨fun i x h => by simp at h,by simp,by simp⟩
theorem SvOk.nil:SvOk []:=fun k f h => by cases h
theorem fnd_mem {S:Sv} {k:List UInt8} {f:Fd} (h:fnd S k = some f):(k,f) ∈ S:=by
 unfold fnd at h
 cases hf:S.find? (fun x => x.1 == k) with
 | none => rw [hf] at h;cases h
 | some x =>
  rw [hf] at h
  have h1:=List.mem_of_find?_eq_some hf
  have h2:=List.find?_some hf
  simp only [Option.map_some,Option.some.injEq] at h
  have h2:x.1 = k:=by simpa using h2
  obtain ⟨a,b⟩:=x
  simp only at h h2
  subst h;subst h2
  exact h1
structure FdI (f:Fd):Prop where
 ps:PsOk f.ps
 its:∀ p ∈ f.ps,itR p.it = true
 nb:-1 ≤ f.pol ∧ f.pol ≤ 1099511627776 ∧ 0 ≤ f.fai ∧ f.fai ≤ 1000
def SvI (S:Sv):Prop:=∀ x ∈ S,FdI x.2
theorem SvI.nil:SvI []:=fun x h => by cases h
theorem SvI.ok {S:Sv} (h:SvI S):SvOk S:=fun k f hf => (h _ (fnd_mem hf)).ps
theorem FdI.fresh:FdI ⟨-1,0,[]⟩:=⟨PsOk.nil,by simp,by simp⟩
theorem mem_put {S:Sv} {k:List UInt8} {f:Fd} {x:List UInt8 × Fd} (h:x ∈ putBy Prod.fst k (k,f) S):x = (k,f) ∨ x ∈ S:=by
 unfold putBy at h
 obtain ⟨c,hc,rfl⟩:=List.mem_map.1 h
 split
 · exact .inl rfl
 · exact .inr hc
theorem SvI.put {S:Sv} (h:SvI S) (k:List UInt8) {f:Fd} (hf:FdI f):SvI (putBy Prod.fst k (k,f) S):=fun x hx => by
 rcases mem_put hx with rfl | hx
 · exact hf
 · exact h x hx
theorem SvI.sub {S:Sv} (h:SvI S) (k:List UInt8):SvI (subS S k).2:=by
 unfold subS
 split
 · split
   · exact h
   · split
     · exact h
     · intro x hx
       rcases List.mem_cons.1 ((insBy_perm Prod.fst _ S).mem_iff.1 hx) with rfl | hx
       · exact FdI.fresh
       · exact h x hx
 · exact h
theorem SvI.un {S:Sv} (h:SvI S) (k:List UInt8):SvI (unS S k).2:=by
 unfold unS
 split
 · exact fun x hx => h x (List.mem_filter.1 hx).1
 · exact h
theorem okT_nb {now:Int} (h:okT now = true):0 ≤ now ∧ now ≤ 1099511627776:=by
 unfold okT at h
 simpa using h
theorem SvI.fail {S:Sv} (h:SvI S) (k:List UInt8) (now:Int):SvI (failS S k now).2:=by
 unfold failS
 split
 · exact h
 · rename_i f hf
   split
   · rename_i hn
     have h1:=h _ (fnd_mem hf)
     have h2:=okT_nb hn
     have h3:=h1.nb
     dsimp only at h3
     exact h.put k ⟨h1.ps,h1.its,by unfold failF;exact ⟨by show -1 ≤ now;omega,h2.2,by show 0 ≤ min (f.fai + 1) 1000;omega,by show min (f.fai + 1) 1000 ≤ 1000;omega⟩⟩
   · exact h
theorem mark_it (ps:List Po) (i:Nat) (h:∀ p ∈ ps,itR p.it = true):∀ p ∈ markAt ps i,itR p.it = true:=by
 unfold markAt
 split
 · rename_i x hx
   intro p hp
   rcases List.mem_or_eq_of_mem_set hp with hp | rfl
   · exact h p hp
   · exact h x (List.mem_of_getElem? hx)
 · exact h
theorem SvI.mark {S:Sv} (h:SvI S) (k id:List UInt8):SvI (markS S k id).2:=by
 unfold markS
 split
 · exact h
 · rename_i f hf
   split
   · exact h
   · rename_i i hi
     have h1:=h _ (fnd_mem hf)
     exact h.put k ⟨(mark_ok i h1.ps).1,mark_it _ _ h1.its,h1.nb⟩
theorem ing_it (l:List It):∀ s:Fd × Nat,(∀ p ∈ s.1.ps,itR p.it = true) → l.all itR = true → ∀ p ∈ (l.foldl ingS s).1.ps,itR p.it = true:=by
 induction l with
 | nil => intro s h _;exact h
 | cons x r ih =>
  intro s h hl
  rw [List.all_cons,Bool.and_eq_true] at hl
  refine ih (ingS s x) ?_ hl.2
  intro p hp
  unfold ingS addF at hp
  dsimp only at hp
  split at hp
  · rcases List.mem_append.1 hp with hp | hp
    · exact h p hp
    · obtain rfl:=List.mem_singleton.1 hp
      exact hl.1
  · exact h p hp
theorem SvI.ing {S:Sv} (h:SvI S) (k:List UInt8) (l:List It) (now:Int):SvI (ingR S k l now).2.2:=by
 unfold ingR
 split
 · exact h
 · rename_i f hf
   split
   · rename_i hn
     split
     · rename_i ha
       have h1:=h _ (fnd_mem hf)
       have h2:=okT_nb hn
       exact h.put k ⟨(ingF_ok l h1.ps).1,ing_it l (f,0) h1.its ha,⟨by show -1 ≤ now;omega,h2.2,by simp,by simp⟩⟩
     · exact h
   · exact h
theorem itR_sh {x:It} (h:itR x = true):x.Sh 200:=by
 unfold itR at h
 simp only [Bool.and_eq_true,Bool.not_eq_true',List.any_cons,List.any_nil,Bool.or_false,Bool.or_eq_false_iff] at h
 obtain ⟨_,h1,h2,h3⟩:=h
 have key:∀ s,bad1 s = false → s.length ≤ 200:=fun s hs => by
  unfold bad1 at hs
  simp only [Bool.or_eq_false_iff,decide_eq_false_iff_not] at hs
  omega
 exact ⟨key _ h1,key _ h2,key _ h3⟩
theorem It.Sh.more {x:It} {n m:Nat} (h:x.Sh n) (hn:n ≤ m):x.Sh m:=⟨Nat.le_trans h.id hn,Nat.le_trans h.ti hn,Nat.le_trans h.li hn⟩
theorem FdI.sh {f:Fd} (h:FdI f):f.Sh:=⟨h.ps.n,h.nb,fun p hp => (itR_sh (h.its p hp)).more (by omega)⟩
theorem SvI.sh {S:Sv} (h:SvI S):∀ x ∈ S,x.2.Sh:=fun x hx => (h x hx).sh
theorem filt_sq (ps:List Po) (n:Nat) (h:∀ (i:Nat) (x:Po),ps[i]? = some x → x.sq = ((n + i:Nat):Int) + 1) (after:Int):ps.filter (fun p => decide (after < p.sq)) = ps.drop (min (after - n).toNat ps.length):=by
 induction ps generalizing n with
 | nil => simp
 | cons x r ih =>
  have h0:x.sq = (n:Int) + 1:=by simpa using h 0 x rfl
  have h1:=ih (n + 1) (fun i y hy => by have:=h (i + 1) y (by simpa using hy);rw [this];omega)
  rw [List.filter_cons]
  by_cases hc:after < x.sq
  · rw [if_pos (by simpa using hc),h1]
    have e1:(after - n).toNat = 0:=by omega
    have e2:(after - ((n + 1:Nat):Int)).toNat = 0:=by omega
    rw [e1,e2]
    simp
  · rw [if_neg (by simpa using hc),h1]
    have e1:(after - n).toNat = (after - ((n + 1:Nat):Int)).toNat + 1:=by omega
    rw [e1,List.length_cons,Nat.succ_min_succ,List.drop_succ_cons]
theorem lsR_pg {ps:List Po} (h:PsOk ps) (after:Int):(ps.filter fun p => decide (after < p.sq)).take 50 = pgF ps after:=by
 rw [filt_sq ps 0 (fun i x hx => by rw [h.sq i x hx];omega) after]
 unfold pgF
 congr 2
 omega
end Go.Proofs.YtcjfmildalappaaGreat
