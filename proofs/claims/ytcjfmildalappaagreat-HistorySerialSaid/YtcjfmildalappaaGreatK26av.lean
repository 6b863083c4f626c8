/-
  Contracts; each theorem bears its own conditions.
-/
import Derived.Deep.RegionHeld3
import Derived.Test.YtcjfmildalappaaGreatK26aa
import Derived.Test.YtcjfmildalappaaGreatK26ab
import Derived.Test.YtcjfmildalappaaGreatK26ad
import Derived.Test.YtcjfmildalappaaGreatK26af
import Derived.Test.YtcjfmildalappaaGreatK26ag
import Derived.Test.YtcjfmildalappaaGreatK26ah
import Derived.Test.YtcjfmildalappaaGreatK26ak
import Derived.Test.YtcjfmildalappaaGreatK26al
import Derived.Test.YtcjfmildalappaaGreatK26am
import Derived.Test.YtcjfmildalappaaGreatK26ap
import Derived.Test.YtcjfmildalappaaGreatK26ar
import Derived.Test.YtcjfmildalappaaGreatK26as
import Derived.Test.YtcjfmildalappaaGreatK26at
import Derived.Test.YtcjfmildalappaaGreatK26au
set_option linter.all false
set_option maxRecDepth 100000
set_option maxHeartbeats 8000000
namespace Go.Proofs.YtcjfmildalappaaGreat
open Go.RowKit
structure AgS where
 t:S15.TS
 d:L16.Tb
 s:Sv
def errR (n:Int):Rp:=⟨n,0,[]⟩
def AgS.new:AgS:=⟨⟨[],0⟩,L16.Tb.empty,[]⟩
def cliA (s:Sv) (c:Cm):Rp × Sv:=
 if c.kd = 2 then (errR (subS s c.fd).1,(subS s c.fd).2)
 else if c.kd = 3 then (errR (unS s c.fd).1,(unS s c.fd).2)
 else if c.kd = 4 then (errR (markS s c.fd c.id).1,(markS s c.fd c.id).2)
 else (⟨(listS s c.fd c.n).2,0,(listS s c.fd c.n).1⟩,s)
def ingA (a:AgS) (c:Cm):Rp × AgS:=
 if ¬ a.d.check c.sh c.nd c.ep = 0 ∨ ¬ (shardL c.fd:Int) = c.sh then (errR 15,a)
 else if c.fl = true then (errR (failS a.s c.fd a.d.now).1,⟨a.t,a.d,(failS a.s c.fd a.d.now).2⟩)
 else (⟨(ingR a.s c.fd c.its a.d.now).2.1,(ingR a.s c.fd c.its a.d.now).1,[]⟩,⟨a.t,a.d,(ingR a.s c.fd c.its a.d.now).2.2⟩)
def othA (a:AgS) (c:Cm):Rp × AgS:=
 if c.kd = 1 then (⟨0,a.t.ever + 1,[]⟩,⟨⟨S15.regL a.t.l ⟨a.t.ever + 1,0,.empty⟩,a.t.ever + 1⟩,a.d,a.s⟩)
 else if c.kd = 6 then (⟨0,a.d.now + 1,[]⟩,⟨a.t,a.d.tick,a.s⟩)
 else if c.kd = 7 then (⟨(a.d.grant c.sh c.nd).2.2,(a.d.grant c.sh c.nd).2.1,[]⟩,⟨a.t,(a.d.grant c.sh c.nd).1,a.s⟩)
 else if c.kd = 9 then (⟨0,(a.d.get c.sh).epoch,[]⟩,a)
 else ingA a c
def keptR (b:ByteArray):Rp:=(unA b.data.toList).getD Rp.zero
def doA (a:AgS) (c:Cm):Rp × AgS:=
 if rightB c = false then (errR 1,a)
 else if clB c.kd = false then othA a c
 else if (S15.askS a.t.l c.ss c.sq).1 = 3 then (errR 17,a)
 else if (S15.askS a.t.l c.ss c.sq).1 = 2 then (errR 18,a)
 else if (S15.askS a.t.l c.ss c.sq).1 = 1 then (keptR (S15.askS a.t.l c.ss c.sq).2,a)
 else ((cliA a.s c).1,⟨⟨S15.doneL a.t.l c.ss c.sq ⟨(rpb (cliA a.s c).1).toArray⟩,a.t.ever⟩,a.d,(cliA a.s c).2⟩)
def SvZ (S:Sv):Prop:=∀ x ∈ S,x.2.pol = -1 → x.2.fai = 0 ∧ x.2.ps = []
theorem SvZ.put {S:Sv} (h:SvZ S) (k:List UInt8) {f:Fd} (hf:f.pol = -1 → f.fai = 0 ∧ f.ps = []):SvZ (putBy Prod.fst k (k,f) S):=fun x hx => by
 rcases mem_put hx with rfl | hx
 · exact hf
 · exact h x hx
theorem SvZ.sub {S:Sv} (h:SvZ S) (k:List UInt8):SvZ (subS S k).2:=by
 unfold subS
 split
 · split
   · exact h
   · split
     · exact h
     · intro x hx
       rcases List.mem_cons.1 ((insBy_perm Prod.fst _ S).mem_iff.1 hx) with rfl | hx
       · exact fun _ => ⟨rfl,rfl⟩
       · exact h x hx
 · exact h
theorem SvZ.un {S:Sv} (h:SvZ S) (k:List UInt8):SvZ (unS S k).2:=by
 unfold unS
 split
 · exact fun x hx => h x (List.mem_filter.1 hx).1
 · exact h
theorem SvZ.fail {S:Sv} (h:SvZ S) (k:List UInt8) (now:Int):SvZ (failS S k now).2:=by
 unfold failS
 split
 · exact h
 · split
   · rename_i hn
     have h2:=okT_nb hn
     exact h.put k (fun e => by have:now = -1:=e;omega)
   · exact h
theorem SvZ.mark {S:Sv} (h:SvZ S) (k id:List UInt8):SvZ (markS S k id).2:=by
 unfold markS
 split
 · exact h
 · rename_i f hf
   split
   · exact h
   · rename_i i hi
     refine h.put k (fun e => ?_)
     have:=h _ (fnd_mem hf) e
     rw [show f.ps = [] from this.2] at hi
     cases hi
theorem SvZ.ing {S:Sv} (h:SvZ S) (k:List UInt8) (l:List It) (now:Int):SvZ (ingR S k l now).2.2:=by
 unfold ingR
 split
 · exact h
 · split
   · rename_i hn
     have h2:=okT_nb hn
     split
     · exact h.put k (fun e => by have:now = -1:=e;omega)
     · exact h
   · exact h
theorem SvJ.of {S:Sv} (h1:SvI S) (h2:SvZ S) (h3:S.Pairwise (fun a b => a.1 < b.1)) (h4:S.length ≤ 20) (h5:∀ x ∈ S,nmL x.1 = true):SvJ S:=⟨fun x hx => ⟨⟨h1 x hx,h2 x hx⟩,h5 x hx⟩,h3,h4⟩
structure RpK (r:Rp):Prop where
 er:0 ≤ r.er ∧ r.er ≤ 19
 n:Wide64 r.n
 len:r.ps.length ≤ 50
 ps:∀ x ∈ r.ps,itR x.it = true ∧ Wide64 x.sq
theorem RpK.ok {r:Rp} (h:RpK r):r.Ok:=⟨h.er,h.n,Nat.le_trans h.len (by omega),fun x hx => ⟨(h.ps x hx).2,by
 have:=itR_sh (h.ps x hx).1
 exact ⟨Nat.le_trans this.id (by omega),Nat.le_trans this.ti (by omega),Nat.le_trans this.li (by omega)⟩⟩⟩
theorem RpK.le {r:Rp} (h:RpK r):(rpb r).length ≤ 100000:=by
 have h1:=(ib_length r.er ⟨by have:=h.er;omega,by have:=h.er;omega⟩).2
 have h2:=(ib_length r.n h.n).2
 have h3:=(ib_length (r.ps.length:Int) ⟨by omega,by have:=h.len;omega⟩).2
 have h4:(psB18 r.ps).length ≤ 661 * r.ps.length:=by
  have:∀ l:List Po,(∀ x ∈ l,itR x.it = true ∧ Wide64 x.sq) → (psB18 l).length ≤ 661 * l.length:=by
   intro l
   induction l with
   | nil => intro _;simp [psB18]
   | cons x l ih =>
    intro hl
    have hx:=hl x (by simp)
    have hs:=itR_sh hx.1
    have i1:=(ib_length x.sq hx.2).2
    have t1:=tb_le x.it.id 200 hs.id (by omega)
    have t2:=tb_le x.it.ti 200 hs.ti (by omega)
    have t3:=tb_le x.it.li 200 hs.li (by omega)
    have hb:(bb x.rd).length = 1:=rfl
    have:=ih (fun y hy => hl y (by simp [hy]))
    unfold psB18 at this ⊢
    rw [List.flatMap_cons,List.length_append,List.length_cons]
    have:(poB x).length ≤ 661:=by
     unfold poB itB
     simp only [List.length_append]
     omega
    omega
  exact this r.ps h.ps
 have:=h.len
 unfold rpb rpH
 simp only [List.length_append]
 omega
theorem keptR_of {r:Rp} (h:RpK r):keptR ⟨(rpb r).toArray⟩ = r:=by
 unfold keptR
 have:unA (rpb r) = some r:=(unA_iff _ (by have:=h.le;omega) r).2 ⟨h.ok,rfl⟩
 rw [show (⟨(rpb r).toArray⟩:ByteArray).data.toList = rpb r from rfl,this]
 rfl
theorem RpK.err (n:Int) (h:0 ≤ n ∧ n ≤ 19):RpK (errR n):=⟨h,⟨by show _ ≤ (0:Int);omega,by show (0:Int) ≤ _;omega⟩,Nat.zero_le _,fun x hx => by cases hx⟩
structure AgI (n:Nat) (a:AgS):Prop where
 ok:a.t.Ok
 once:S15.Once a.t.l
 ever:a.t.ever ≤ n
 g:S15.AllG a.t
 kept:∀ x ∈ a.t.l,1 ≤ x.seq → ∃ r,RpK r ∧ x.reply = ⟨(rpb r).toArray⟩
 d:a.d.Good n
 si:SvI a.s
 sz:SvZ a.s
theorem AgI.new:AgI 0 AgS.new:=⟨S15.ok_new,by simp [AgS.new,S15.Once],by simp [AgS.new],S15.g_new,(fun x hx => by cases hx),L16.Tb.empty_good,SvI.nil,(fun x hx => by cases hx)⟩
theorem subS_er (S:Sv) (k:List UInt8):0 ≤ (subS S k).1 ∧ (subS S k).1 ≤ 19:=by
 unfold subS
 split
 · split
   · simp
   · split <;> simp
 · simp
theorem unS_er (S:Sv) (k:List UInt8):0 ≤ (unS S k).1 ∧ (unS S k).1 ≤ 19:=by unfold unS;split <;> simp
theorem failS_er (S:Sv) (k:List UInt8) (now:Int):0 ≤ (failS S k now).1 ∧ (failS S k now).1 ≤ 19:=by
 unfold failS
 split
 · simp
 · split <;> simp
theorem markS_er (S:Sv) (k id:List UInt8):0 ≤ (markS S k id).1 ∧ (markS S k id).1 ≤ 19:=by
 unfold markS
 split
 · simp
 · split <;> simp
theorem ingR_er (S:Sv) (k:List UInt8) (l:List It) (now:Int):(0 ≤ (ingR S k l now).2.1 ∧ (ingR S k l now).2.1 ≤ 19) ∧ 0 ≤ (ingR S k l now).1 ∧ (ingR S k l now).1 ≤ l.length:=by
 unfold ingR
 split
 · simp
 · rename_i f hf
   split
   · split
     · have:=(ingF_nb f l).2.2
       refine ⟨by simp,by simp,?_⟩
       show (((ingF f l).2:Nat):Int) ≤ _
       omega
     · simp
   · simp
theorem listS_k {S:Sv} (h:SvI S) (k:List UInt8) (after:Int):RpK ⟨(listS S k after).2,0,(listS S k after).1⟩:=by
 unfold listS
 split
 · exact RpK.err 4 (by omega)
 · rename_i f hf
   have h1:=h _ (fnd_mem hf)
   refine ⟨by simp,⟨by show _ ≤ (0:Int);omega,by show (0:Int) ≤ _;omega⟩,?_,fun x hx => ?_⟩
   · show (pgF f.ps after).length ≤ 50
     unfold pgF
     rw [List.length_take]
     omega
   · have hm:x ∈ f.ps:=List.mem_of_mem_drop (List.mem_of_mem_take hx)
     refine ⟨h1.its x hm,?_⟩
     obtain ⟨i,hi⟩:=List.getElem?_of_mem hm
     have:=h1.ps.sq i x hi
     have hil:=(List.getElem?_eq_some_iff.1 hi).1
     have hn:=h1.ps.n
     dsimp only at hil hn
     exact ⟨by omega,by omega⟩
theorem cliA_k {S:Sv} (h:SvI S) (c:Cm):RpK (cliA S c).1:=by
 unfold cliA
 split
 · exact RpK.err _ (subS_er _ _)
 · split
   · exact RpK.err _ (unS_er _ _)
   · split
     · exact RpK.err _ (markS_er _ _ _)
     · exact listS_k h _ _
theorem cliA_s {S:Sv} (h:SvI S) (hz:SvZ S) (c:Cm):SvI (cliA S c).2 ∧ SvZ (cliA S c).2:=by
 unfold cliA
 split
 · exact ⟨h.sub _,hz.sub _⟩
 · split
   · exact ⟨h.un _,hz.un _⟩
   · split
     · exact ⟨h.mark _ _,hz.mark _ _⟩
     · exact ⟨h,hz⟩
theorem AgI.mono {n m:Nat} {a:AgS} (h:AgI n a) (hm:n ≤ m):AgI m a:=⟨h.ok,h.once,by have:=h.ever;omega,h.g,h.kept,⟨h.d.1.mono (by omega),h.d.2⟩,h.si,h.sz⟩
theorem wide_lt {n:Int} (h0:0 ≤ n) (h1:n ≤ 1000000000000):Wide64 n:=⟨by omega,by omega⟩
theorem grant_k {t:L16.Tb} {n:Int} (h:t.Good n) (h0:0 ≤ n) (hn:n ≤ 1000000000) (k m:Int):RpK ⟨(t.grant k m).2.2,(t.grant k m).2.1,[]⟩:=by
 have he:=L16.Tb.get_epoch h.up h0 k
 unfold L16.Tb.grant
 split
 · split
   · split
     · exact ⟨by simp,wide_lt (by show 0 ≤ (t.get k).epoch;omega) (by show (t.get k).epoch ≤ _;omega),by simp,by simp⟩
     · exact RpK.err 16 (by omega)
   · exact ⟨by simp,wide_lt (by show 0 ≤ (t.get k).epoch + 1;omega) (by show (t.get k).epoch + 1 ≤ _;omega),by simp,by simp⟩
 · exact RpK.err 2 (by omega)
theorem ingA_step {n:Nat} {a:AgS} (h:AgI n a) (c:Cm) (hl:c.its.length ≤ 1000000):AgI n (ingA a c).2 ∧ RpK (ingA a c).1:=by
 unfold ingA
 split
 · exact ⟨h,RpK.err 15 (by omega)⟩
 · split
   · exact ⟨⟨h.ok,h.once,h.ever,h.g,h.kept,h.d,h.si.fail _ _,h.sz.fail _ _⟩,RpK.err _ (failS_er _ _ _)⟩
   · have he:=ingR_er a.s c.fd c.its a.d.now
     exact ⟨⟨h.ok,h.once,h.ever,h.g,h.kept,h.d,h.si.ing _ _ _,h.sz.ing _ _ _⟩,⟨he.1,wide_lt he.2.1 (by have:=he.2.2;show (ingR a.s c.fd c.its a.d.now).1 ≤ _;omega),by simp,by simp⟩⟩
theorem othA_step {n:Nat} {a:AgS} (h:AgI n a) (hn:n ≤ 1000000000) (c:Cm) (hl:c.its.length ≤ 1000000):AgI (n + 1) (othA a c).2 ∧ RpK (othA a c).1:=by
 have hi:=ingA_step h c hl
 unfold othA
 split
 · have h1:=h.ok.ever
   have h2:=h.ever
   refine ⟨⟨S15.ok_reg h.ok,S15.once_reg h.ok h.once,by show a.t.ever + 1 ≤ _;omega,S15.g_reg h.g _,fun x hx hs => ?_,(h.mono (Nat.le_succ n)).d,h.si,h.sz⟩,⟨by simp,wide_lt (by show 0 ≤ a.t.ever + 1;omega) (by show a.t.ever + 1 ≤ _;omega),by simp,by simp⟩⟩
   rcases S15.regL_mem hx with hx | rfl
   · exact h.kept x hx hs
   · exact absurd hs (by show ¬ (1:Int) ≤ 0;omega)
 · split
   · have h1:=h.d.up.n0
     have h2:=h.d.up.n1
     exact ⟨⟨h.ok,h.once,by have:=h.ever;show a.t.ever ≤ _;omega,h.g,h.kept,by have:=h.d.tick;exact_mod_cast this,h.si,h.sz⟩,⟨by simp,wide_lt (by show 0 ≤ a.d.now + 1;omega) (by show a.d.now + 1 ≤ _;omega),by simp,by simp⟩⟩
   · split
     · exact ⟨⟨h.ok,h.once,by have:=h.ever;show a.t.ever ≤ _;omega,h.g,h.kept,by have:=h.d.grant c.sh c.nd;exact_mod_cast this,h.si,h.sz⟩,grant_k h.d (by omega) (by omega) _ _⟩
     · split
       · have he:=L16.Tb.get_epoch h.d.up (by omega) c.sh
         exact ⟨h.mono (Nat.le_succ n),⟨by simp,wide_lt (by show 0 ≤ (a.d.get c.sh).epoch;omega) (by show (a.d.get c.sh).epoch ≤ _;omega),by simp,by simp⟩⟩
       · exact ⟨hi.1.mono (Nat.le_succ n),hi.2⟩
theorem ask_one {l:List S15.Ses} {id seq:Int} (h:(S15.askS l id seq).1 = 1):∃ x ∈ l,x.seq = seq ∧ 1 ≤ seq ∧ (S15.askS l id seq).2 = x.reply:=by
 unfold S15.askS at h ⊢
 cases hx:S15.atS l id with
 | none => rw [hx] at h;simp at h
 | some x =>
  rw [hx] at h
  have hm:x ∈ l:=List.mem_of_getElem? hx
  dsimp only at h ⊢
  by_cases h1:seq < 1 ∨ seq < x.seq
  · rw [if_pos h1] at h;simp at h
  · rw [if_neg h1] at h ⊢
    by_cases h2:seq = x.seq
    · rw [if_pos h2]
      exact ⟨x,hm,h2.symm,by omega,rfl⟩
    · rw [if_neg h2] at h;simp at h
theorem doA_step {n:Nat} {a:AgS} (h:AgI n a) (hn:n ≤ 1000000000) (c:Cm) (hw:Wide64 c.sq) (hl:c.its.length ≤ 1000000):AgI (n + 1) (doA a c).2 ∧ RpK (doA a c).1:=by
 have hm:=h.mono (Nat.le_succ n)
 unfold doA
 split
 · exact ⟨hm,RpK.err 1 (by omega)⟩
 · split
   · exact othA_step h hn c hl
   · split
     · exact ⟨hm,RpK.err 17 (by omega)⟩
     · split
       · exact ⟨hm,RpK.err 18 (by omega)⟩
       · split
         · rename_i h1
           refine ⟨hm,?_⟩
           obtain ⟨x,hx,hs,h2,e⟩:=ask_one h1
           obtain ⟨r,hr,er⟩:=h.kept x hx (by omega)
           rw [e,er,keptR_of hr]
           exact hr
         · have hk:=cliA_k h.si c
           have hs:=cliA_s h.si h.sz c
           refine ⟨⟨⟨S15.doneL_len h.ok.len _ _ _,h.ok.ever,fun s hs => ?_⟩,S15.once_done h.once _ _ _,hm.ever,S15.g_done h.g _ _ _ hw ?_,fun x hx hs => ?_,hm.d,hs.1,hs.2⟩,hk⟩
           · rcases S15.doneL_mem hs with hs | ⟨rfl,x,hx,he⟩
             · exact h.ok.ids s hs
             · rw [← he];exact h.ok.ids x hx
           · show (rpb _).toArray.size ≤ _
             rw [List.size_toArray]
             exact hk.le
           · rcases S15.doneL_mem hx with hx | ⟨rfl,_⟩
             · exact h.kept x hx hs
             · exact ⟨_,hk,rfl⟩
structure AgX (w:World) (p tb:Nat) (tv:Value) (lb sb:Nat) (O:List Nat) (B:Nat) (a:AgS):Prop where
 cells:Cells w p 109 [.pointer (some ⟨tb,0,none⟩),.pointer (some ⟨lb,0,none⟩),.pointer (some ⟨sb,0,none⟩)]
 t:S15.TbV w B tb tv a.t.l a.t.ever
 d:Cells w lb 181 a.d.cells
 s:St w sb O a.s
 dis:p ∉ O ∧ tb ∉ O ∧ lb ∉ O ∧ ∀ g,tv.ownBlock = some g → g ∉ O
def allA (p tb:Nat) (tv:Value) (lb:Nat) (O:List Nat):List Nat:=p :: tb :: lb :: (rb tv ++ O)
def AgAt (w:World) (p:Nat) (K:List Nat) (a:AgS):Prop:=∃ tb tv lb sb O B,AgX w p tb tv lb sb O B a ∧ K = allA p tb tv lb O
section
variable {w w':World} {p tb lb sb B:Nat} {tv:Value} {O:List Nat} {a:AgS}
theorem AgX.keep {X:List Nat} (h:AgX w p tb tv lb sb O B a) (ho:Only X w w') (hX:∀ k ∈ allA p tb tv lb O,k ∉ X):AgX w' p tb tv lb sb O B a:=
 ⟨h.cells.only ho (hX _ (by simp [allA])),⟨h.t.1,h.t.2.1.only ho (hX _ (by simp [allA])),own_keep h.t.2.2 ho (fun b hb e => hX b (by simp [allA,rb,e]) hb)⟩,h.d.only ho (hX _ (by simp [allA])),h.s.keep ho (fun k hk => hX k (by simp [allA,hk])),h.dis⟩
theorem AgX.lts (h:AgX w p tb tv lb sb O B a):∀ x ∈ allA p tb tv lb O,x < w.heap.size:=by
 intro x hx
 unfold allA at hx
 simp only [List.mem_cons,List.mem_append] at hx
 rcases hx with rfl | rfl | rfl | hx | hx
 · exact h.cells.lt
 · exact h.t.2.1.lt
 · exact h.d.lt
 · exact (h.t.2.2.lt x (by simpa [rb] using hx)).2
 · exact h.s.bw x hx
theorem AgX.tdo {tv':Value} {t':S15.TS} (h:AgX w p tb tv lb sb O B a) (ht:S15.TbV w' B tb tv' t'.l t'.ever) (ho:Only (tb :: rb tv) w w') (hn:∀ g,tv'.ownBlock = some g → tv.ownBlock = some g ∨ w.heap.size ≤ g):
 AgX w' p tb tv' lb sb O B ⟨t',a.d,a.s⟩ ∧ Only (allA p tb tv lb O) w w' ∧ ∀ x ∈ allA p tb tv' lb O,x ∈ allA p tb tv lb O ∨ w.heap.size ≤ x:=by
 have hpt:p ≠ tb:=h.cells.ne h.t.2.1 (by decide)
 have hlt:lb ≠ tb:=h.d.ne h.t.2.1 (by decide)
 have hpv:=own_ne_block h.t.2.2 h.cells (by decide)
 have hlv:=own_ne_block h.t.2.2 h.d (by decide)
 have e1:∀ x ∈ tb :: rb tv,x = tb ∨ tv.ownBlock = some x:=fun x hx => by simpa [rb] using hx
 refine ⟨⟨h.cells.only ho ?_,ht,h.d.only ho ?_,h.s.keep ho ?_,h.dis.1,h.dis.2.1,h.dis.2.2.1,fun g hg => ?_⟩,ho.mono (fun x hx => .inl ?_),fun x hx => ?_⟩
 · intro hm;rcases e1 _ hm with e | e;exact hpt e;exact hpv e
 · intro hm;rcases e1 _ hm with e | e;exact hlt e;exact hlv e
 · intro k hk hm;rcases e1 _ hm with e | e;exact h.dis.2.1 (e ▸ hk);exact h.dis.2.2.2 k e hk
 · rcases hn g hg with e | e
   · exact h.dis.2.2.2 g e
   · intro hm;have:=h.s.bw g hm;omega
 · rcases e1 _ hx with e | e
   · simp [allA,e]
   · simp [allA,rb,e]
 · unfold allA at hx ⊢
   simp only [List.mem_cons,List.mem_append] at hx ⊢
   rcases hx with hx | hx | hx | hx | hx
   · exact .inl (.inl hx)
   · exact .inl (.inr (.inl hx))
   · exact .inl (.inr (.inr (.inl hx)))
   · rcases hn x (by simpa [rb] using hx) with e | e
     · exact .inl (.inr (.inr (.inr (.inl (by simpa [rb] using e)))))
     · exact .inr e
   · exact .inl (.inr (.inr (.inr (.inr hx))))
theorem AgX.ddo {d':L16.Tb} (h:AgX w p tb tv lb sb O B a) (hd:Cells w' lb 181 d'.cells) (ho:Only [lb] w w'):AgX w' p tb tv lb sb O B ⟨a.t,d',a.s⟩ ∧ Only (allA p tb tv lb O) w w':=by
 have hpl:p ≠ lb:=h.cells.ne h.d (by decide)
 have hlt:tb ≠ lb:=h.t.2.1.ne h.d (by decide)
 have hlv:=own_ne_block h.t.2.2 h.d (by decide)
 refine ⟨⟨h.cells.only ho (by simpa using hpl),⟨h.t.1,h.t.2.1.only ho (by simpa using hlt),own_keep h.t.2.2 ho (by simpa using hlv)⟩,hd,h.s.keep ho (fun k hk hm => by simp at hm;subst hm;exact h.dis.2.2.1 hk),h.dis⟩,ho.mono (fun x hx => .inl (by simp at hx;subst hx;simp [allA]))⟩
theorem AgX.sdo {O':List Nat} {s':Sv} (h:AgX w p tb tv lb sb O B a) (hs:St w' sb O' s') (ho:Only O w w') (hn:∀ x ∈ O',x ∈ O ∨ w.heap.size ≤ x):
 AgX w' p tb tv lb sb O' B ⟨a.t,a.d,s'⟩ ∧ Only (allA p tb tv lb O) w w' ∧ ∀ x ∈ allA p tb tv lb O',x ∈ allA p tb tv lb O ∨ w.heap.size ≤ x:=by
 have hl:=h.lts
 have hno:∀ x,x ∈ allA p tb tv lb O → x ∉ O → x ∉ O':=fun x hx hO hm => by
  rcases hn x hm with e | e
  · exact hO e
  · have:=hl x hx;omega
 refine ⟨⟨h.cells.only ho h.dis.1,⟨h.t.1,h.t.2.1.only ho h.dis.2.1,own_keep h.t.2.2 ho (fun b hb e => h.dis.2.2.2 b e hb)⟩,h.d.only ho h.dis.2.2.1,hs,hno p (by simp [allA]) h.dis.1,hno tb (by simp [allA]) h.dis.2.1,hno lb (by simp [allA]) h.dis.2.2.1,fun g hg => hno g (by simp [allA,rb,hg]) (h.dis.2.2.2 g hg)⟩,ho.mono (fun x hx => .inl (by simp [allA,hx])),fun x hx => ?_⟩
 unfold allA at hx ⊢
 simp only [List.mem_cons,List.mem_append] at hx ⊢
 rcases hx with hx | hx | hx | hx | hx
 · exact .inl (.inl hx)
 · exact .inl (.inr (.inl hx))
 · exact .inl (.inr (.inr (.inl hx)))
 · exact .inl (.inr (.inr (.inr (.inl hx))))
 · rcases hn x hx with e | e
   · exact .inl (.inr (.inr (.inr (.inr e))))
   · exact .inr e
end
theorem AgAt.keep {w w':World} {p:Nat} {K X:List Nat} {a:AgS} (h:AgAt w p K a) (ho:Only X w w') (hX:∀ k ∈ K,k ∉ X):AgAt w' p K a:=by
 obtain ⟨tb,tv,lb,sb,O,B,h,rfl⟩:=h
 exact ⟨tb,tv,lb,sb,O,B,h.keep ho hX,rfl⟩
theorem AgAt.bw {w:World} {p:Nat} {K:List Nat} {a:AgS} (h:AgAt w p K a):∀ x ∈ K,x < w.heap.size:=by
 obtain ⟨tb,tv,lb,sb,O,B,h,rfl⟩:=h
 exact h.lts
theorem ag_new (w:World):Calls Tryz.prog 18 #[] w fun e w' => ∃ p K,e = .returned (.pointer (some ⟨p,0,none⟩)) ∧ AgAt w' p K AgS.new ∧ (∀ x ∈ K,w.heap.size ≤ x) ∧ Only [] w w':=by
 have C1:=Hd (S15.new15 w)
 have C2:=Hd (fun w' => L16.lease_new w')
 have C3:=Hd (fun w' => st_new w')
 go_enter Tryz.func18,Tryz.ntmps18
 go_wp2_with fail
 refine C1.out.mono ?_
 rintro e w1 ⟨rfl,hT,ho1,hs1⟩
 have HT1:=Hd hT
 have HO1:=Hd ho1
 have HS1:=Hd hs1
 obtain ⟨tb,htb⟩:∃ z,w.heap.size = z:=⟨_,rfl⟩
 rw [htb] at HT1 ⊢
 have hw:=Nat.le_of_eq htb
 clear hT ho1 hs1 C1 htb
 go_wp2_with fail
 refine (C2.out _).mono ?_
 rintro e w2 ⟨rfl,ho2,hD⟩
 obtain ⟨lb,hlb⟩:∃ z,w1.heap.size = z:=⟨_,rfl⟩
 rw [hlb] at hD ⊢
 have hltb:tb < lb:=by have:=HT1.out.2.1.lt;omega
 have HT2:Hid (S15.TbT w2 tb tb (.slice none 0 0) ⟨[],0⟩):=Hd ⟨HT1.out.1,HT1.out.2.1.only ho2 (by simp),own_keep HT1.out.2.2 ho2 (by simp)⟩
 have HD2:=Hd hD
 have HO2:=Hd (HO1.out.tr ho2)
 clear ho2 hD C2 hlb HT1 HO1 HS1
 go_wp2_with fail
 refine (C3.out _).mono ?_
 rintro e w3 ⟨sb,O,rfl,hS,hN,ho3⟩
 have HF:Hid (∀ p,Cells (w3.alloc (.cells #[.pointer (some ⟨tb,0,none⟩),.pointer (some ⟨lb,0,none⟩),.pointer (some ⟨sb,0,none⟩)] 109)) p 109 [.pointer (some ⟨tb,0,none⟩),.pointer (some ⟨lb,0,none⟩),.pointer (some ⟨sb,0,none⟩)] → p = w3.heap.size → ∃ K,AgAt (w3.alloc (.cells #[.pointer (some ⟨tb,0,none⟩),.pointer (some ⟨lb,0,none⟩),.pointer (some ⟨sb,0,none⟩)] 109)) p K AgS.new ∧ ∀ x ∈ K,w.heap.size ≤ x):=Hd (fun p hp he => by
  have oA:Only [] w3 (w3.alloc (.cells #[.pointer (some ⟨tb,0,none⟩),.pointer (some ⟨lb,0,none⟩),.pointer (some ⟨sb,0,none⟩)] 109)):=oz.alloc _
  have hb:=hS.bw
  have hl2:lb < w2.heap.size:=HD2.out.lt
  refine ⟨allA p tb (.slice none 0 0) lb O,⟨tb,.slice none 0 0,lb,sb,O,tb,⟨hp,⟨HT2.out.1,(HT2.out.2.1.only ho3 (by simp)).only oA (by simp),World.ownsRow_nil _ _ _ _⟩,(HD2.out.only ho3 (by simp)).only oA (by simp),hS.keep oA (by simp),?_,?_,?_,?_⟩,rfl⟩,?_⟩
  · intro hm;have:=hb p hm;omega
  · intro hm;have:=hN tb hm;omega
  · intro hm;have:=hN lb hm;omega
  · intro g hg;simp [Value.ownBlock] at hg
  · intro x hx
    have h3:=ho3.size
    have h2:=HO2.out.size
    simp only [allA,rb,Value.ownBlock,Option.toList_none,List.nil_append,List.mem_cons] at hx
    rcases hx with rfl | rfl | rfl | hx
    · omega
    · omega
    · omega
    · have:=hN x hx;omega)
 have HO3:=Hd (HO2.out.tr ho3)
 clear hS hN ho3 C3 HT2 HD2 HO2
 go_wp2_with fail
 go_ret
 obtain ⟨K,h1,h2⟩:=HF.out _ (Cells.new w3 _ _) rfl
 exact ⟨_,K,rfl,h1,h2,HO3.out.alloc _⟩
def ReO (w w':World) (p:Nat) (K:List Nat) (r:Rp) (a:AgS) (e:Ending):Prop:=∃ pv K',e = .returned (r.val pv) ∧ RpAt w' pv r ∧ (0 < r.ps.length → ∀ g,pv.ownBlock = some g → w.heap.size ≤ g ∧ g ∉ K') ∧ AgAt w' p K' a ∧ Only K w w' ∧ ∀ x ∈ K',x ∈ K ∨ w.heap.size ≤ x
theorem rpAt_nil (w:World) (er n:Int) (h1:Wide64 er) (h2:Wide64 n):RpAt w (.slice none 0 0) ⟨er,n,[]⟩:=⟨SlAt.of_own (World.ownsRow_nil w 0 101 5),h1,h2,by simp,by simp⟩
theorem ReO.nil {w w':World} {p:Nat} {K K':List Nat} {er n:Int} {a:AgS} {e:Ending} (he:e = .returned (.agg #[.int .i64 er,.int .i64 n,.slice none 0 0])) (h1:Wide64 er) (h2:Wide64 n) (hA:AgAt w' p K' a) (ho:Only K w w') (hn:∀ x ∈ K',x ∈ K ∨ w.heap.size ≤ x):ReO w w' p K ⟨er,n,[]⟩ a e:=
 ⟨_,K',he,rpAt_nil _ _ _ h1 h2,fun _ g hg => by simp [Value.ownBlock] at hg,hA,ho,hn⟩
theorem ag_register (p:Nat) (K:List Nat) (a:AgS) (n:Nat) (hn:n ≤ 1000000000) (c:Cm) (iv:Value) (w:World) (h:AgAt w p K a) (hI:AgI n a):
 Calls Tryz.prog 63 #[.pointer (some ⟨p,0,none⟩),c.val iv] w fun e w' => ReO w w' p K ⟨0,a.t.ever + 1,[]⟩ ⟨⟨S15.regL a.t.l ⟨a.t.ever + 1,0,.empty⟩,a.t.ever + 1⟩,a.d,a.s⟩ e:=by
 obtain ⟨tb,tv,lb,sb,O,B,hX,rfl⟩:=h
 unfold Cm.val
 have hk:=hI.ok.ever
 have hk2:=hI.ever
 go_enter Tryz.func63,Tryz.ntmps63
 go_upto_region 1 with fail
 obtain ⟨w1,hw1⟩:∃ u,w.alloc (.cells #[.int .i64 c.kd,.int .i64 c.ss,.int .i64 c.sq,.int .i64 c.sh,.int .i64 c.nd,.int .i64 c.ep,.int .i64 c.n,.string ⟨c.fd.toArray⟩,.string ⟨c.id.toArray⟩,iv,.bool c.fl] 38) = u:=⟨_,rfl⟩
 have hR:w.heap.size + 1 = w1.heap.size:=by rw [← hw1,World.size_alloc]
 rw [hw1,hR]
 obtain ⟨w2,hw2⟩:∃ u,w1.alloc (.cells #[.int .i64 0,.int .i64 0,.slice none 0 0] 34) = u:=⟨_,rfl⟩
 obtain ⟨R,hRR⟩:∃ R,w1.heap.size = R:=⟨_,rfl⟩
 have o2:Only [] w w2:=hw2 ▸ hw1 ▸ (oz.alloc _).alloc _
 have hcR:Cells w2 R 34 [.int .i64 0,.int .i64 0,.slice none 0 0]:=hw2 ▸ hRR ▸ Cells.new w1 _ _
 rw [hw2,hRR]
 have hwR:w.heap.size ≤ R:=by omega
 have hX2:=hX.keep o2 (by simp)
 have c0:=hX2.cells.cell (k:=0) rfl
 have hpl:=hX2.cells.lt
 have CR:=Hd (S15.tbs_register B tb tv a.t.l a.t.ever w2 hX2.t hI.ok.len ⟨by omega,by omega⟩)
 have HX:=Hd hX
 have HX2:=Hd hX2
 have HO2:=Hd o2
 have HR:=Hd hcR
 clear hw1 hw2 hR hRR o2 hcR hX hX2 hI
 go_wp2_with fail
 refine CR.out.mono ?_
 rintro e w3 ⟨rfl,tv',ht,ho,hn⟩
 obtain ⟨hX3,hO3,hN3⟩:=HX2.out.tdo (t':=⟨S15.regL a.t.l ⟨a.t.ever + 1,0,.empty⟩,a.t.ever + 1⟩) ht ho hn
 have hRn:R ∉ allA p tb tv lb O:=fun hm => by have:=HX.out.lts R hm;omega
 have hR3:=HR.out.only hO3 (by simpa using hRn)
 have hRn':R ∉ allA p tb tv' lb O:=fun hm => by
  rcases hN3 R hm with e | e
  · exact hRn e
  · have:=HR.out.lt;omega
 have oR:∀ row,Only [R] w3 (w3.setRow R row):=fun row => oz.setRow (.inl (by simp)) _
 have HFIN:Hid (∀ row,ReO w (w3.setRow R row) p (allA p tb tv lb O) ⟨0,a.t.ever + 1,[]⟩ ⟨⟨S15.regL a.t.l ⟨a.t.ever + 1,0,.empty⟩,a.t.ever + 1⟩,a.d,a.s⟩ (.returned (.agg #[.int .i64 0,.int .i64 (a.t.ever + 1),.slice none 0 0]))):=Hd (fun row => ReO.nil rfl (wide_lt (by omega) (by omega)) (wide_lt (by omega) (by omega)) ⟨tb,tv',lb,sb,O,B,hX3.keep (oR row) (fun k hk hm => by simp at hm;subst hm;exact hRn' hk),rfl⟩ (((HO2.out.of0).trans hO3 (fun x hx => .inl hx)).trans (oR row) (fun x hx => by simp at hx;subst hx;exact .inr hwR)) (fun x hx => (hN3 x hx).imp id (fun h => Nat.le_trans HO2.out.size h)))
 have HR3:=Hd hR3
 have hst:=HR3.out
 have hone:(#[.int .i64 0,.int .i64 (a.t.ever + 1),.slice none 0 0]:Array Value).all (·.oneCell') = true:=by simp [Value.oneCell']
 clear ht ho hn hX3 hO3 hN3 hRn hRn' oR hR3 CR c0
 go_wp2_with (refine wpList_store_row rfl 34 _ _ rfl R #[.int .i64 0,.int .i64 (a.t.ever + 1),.slice none 0 0] rfl rfl 34 _ hst (by kernel_rfl) rfl hone ?_)
 (try simp only [Exit.inBlock,Exit.then])
 refine bodyPost_ret (v:=.agg #[.int .i64 0,.int .i64 (a.t.ever + 1),.slice none 0 0]) ?_ rfl (HFIN.out _)
 exact results_row Tryz.results63 _ _ R 34 [.int .i64 0,.int .i64 (a.t.ever + 1),.slice none 0 0] _ rfl (Cells.setRow HR3.out [.int .i64 0,.int .i64 (a.t.ever + 1),.slice none 0 0]) Tryz.underlying34 rfl (by kernel_rfl)
theorem ag_tick (p:Nat) (K:List Nat) (a:AgS) (n:Nat) (hn:n ≤ 1000000000) (c:Cm) (iv:Value) (w:World) (h:AgAt w p K a) (hI:AgI n a):
 Calls Tryz.prog 64 #[.pointer (some ⟨p,0,none⟩),c.val iv] w fun e w' => ReO w w' p K ⟨0,a.d.now + 1,[]⟩ ⟨a.t,a.d.tick,a.s⟩ e:=by
 obtain ⟨tb,tv,lb,sb,O,B,hX,rfl⟩:=h
 unfold Cm.val
 have hk:=hI.d.up.n0
 have hk2:=hI.d.up.n1
 go_enter Tryz.func64,Tryz.ntmps64
 go_upto_region 1 with fail
 obtain ⟨w1,hw1⟩:∃ u,w.alloc (.cells #[.int .i64 c.kd,.int .i64 c.ss,.int .i64 c.sq,.int .i64 c.sh,.int .i64 c.nd,.int .i64 c.ep,.int .i64 c.n,.string ⟨c.fd.toArray⟩,.string ⟨c.id.toArray⟩,iv,.bool c.fl] 38) = u:=⟨_,rfl⟩
 have hR:w.heap.size + 1 = w1.heap.size:=by rw [← hw1,World.size_alloc]
 rw [hw1,hR]
 obtain ⟨w2,hw2⟩:∃ u,w1.alloc (.cells #[.int .i64 0,.int .i64 0,.slice none 0 0] 34) = u:=⟨_,rfl⟩
 obtain ⟨R,hRR⟩:∃ R,w1.heap.size = R:=⟨_,rfl⟩
 have o2:Only [] w w2:=hw2 ▸ hw1 ▸ (oz.alloc _).alloc _
 have hcR:Cells w2 R 34 [.int .i64 0,.int .i64 0,.slice none 0 0]:=hw2 ▸ hRR ▸ Cells.new w1 _ _
 rw [hw2,hRR]
 have hwR:w.heap.size ≤ R:=by omega
 have hX2:=hX.keep o2 (by simp)
 have c0:=hX2.cells.cell (k:=1) rfl
 have hpl:=hX2.cells.lt
 have CR:=Hd (L16.lease_tick lb a.d w2 hX2.d (by omega) (by omega))
 have HX:=Hd hX
 have HX2:=Hd hX2
 have HO2:=Hd o2
 have HR:=Hd hcR
 clear hw1 hw2 hR hRR o2 hcR hX hX2 hI
 go_wp2_with fail
 refine CR.out.mono ?_
 rintro e w3 ⟨rfl,ho,hd⟩
 obtain ⟨hX3,hO3⟩:=HX2.out.ddo (d':=a.d.tick) hd ho
 have hRn:R ∉ allA p tb tv lb O:=fun hm => by have:=HX.out.lts R hm;omega
 have hR3:=HR.out.only hO3 (by simpa using hRn)
 have oR:∀ row,Only [R] w3 (w3.setRow R row):=fun row => oz.setRow (.inl (by simp)) _
 have HFIN:Hid (∀ row,ReO w (w3.setRow R row) p (allA p tb tv lb O) ⟨0,a.d.now + 1,[]⟩ ⟨a.t,a.d.tick,a.s⟩ (.returned (.agg #[.int .i64 0,.int .i64 (a.d.now + 1),.slice none 0 0]))):=Hd (fun row => ReO.nil rfl (wide_lt (by omega) (by omega)) (wide_lt (by omega) (by omega)) ⟨tb,tv,lb,sb,O,B,hX3.keep (oR row) (fun k hk hm => by simp at hm;subst hm;exact hRn hk),rfl⟩ (((HO2.out.of0).trans hO3 (fun x hx => .inl hx)).trans (oR row) (fun x hx => by simp at hx;subst hx;exact .inr hwR)) (fun x hx => .inl hx))
 have HR3:=Hd hR3
 have hst:=HR3.out
 have hone:(#[.int .i64 0,.int .i64 (a.d.now + 1),.slice none 0 0]:Array Value).all (·.oneCell') = true:=by simp [Value.oneCell']
 clear hd ho hX3 hO3 hRn oR hR3 CR c0
 go_wp2_with (refine wpList_store_row rfl 34 _ _ rfl R #[.int .i64 0,.int .i64 (a.d.now + 1),.slice none 0 0] rfl rfl 34 _ hst (by kernel_rfl) rfl hone ?_)
 (try simp only [Exit.inBlock,Exit.then])
 refine bodyPost_ret (v:=.agg #[.int .i64 0,.int .i64 (a.d.now + 1),.slice none 0 0]) ?_ rfl (HFIN.out _)
 exact results_row Tryz.results64 _ _ R 34 [.int .i64 0,.int .i64 (a.d.now + 1),.slice none 0 0] _ rfl (Cells.setRow HR3.out [.int .i64 0,.int .i64 (a.d.now + 1),.slice none 0 0]) Tryz.underlying34 rfl (by kernel_rfl)
theorem ag_grant (p:Nat) (K:List Nat) (a:AgS) (n:Nat) (hn:n ≤ 1000000000) (c:Cm) (iv:Value) (w:World) (h:AgAt w p K a) (hI:AgI n a):
 Calls Tryz.prog 65 #[.pointer (some ⟨p,0,none⟩),c.val iv] w fun e w' => ReO w w' p K ⟨(a.d.grant c.sh c.nd).2.2,(a.d.grant c.sh c.nd).2.1,[]⟩ ⟨a.t,(a.d.grant c.sh c.nd).1,a.s⟩ e:=by
 obtain ⟨tb,tv,lb,sb,O,B,hX,rfl⟩:=h
 unfold Cm.val
 have hrk:=grant_k hI.d (by omega) (by omega) c.sh c.nd
 have hW1:Wide64 (a.d.grant c.sh c.nd).2.2:=wide_lt hrk.er.1 (by have:=hrk.er.2;dsimp only at this;omega)
 have hW2:Wide64 (a.d.grant c.sh c.nd).2.1:=hrk.n
 have hsm0:=hI.d.up.small (show ((n:Nat):Int) ≤ 4611686018427387904 by omega)
 have CR0:=Hd (fun w' hc => L16.lease_grant lb a.d c.sh c.nd w' hc hsm0)
 obtain ⟨g,hg⟩:∃ g,a.d.grant c.sh c.nd = g:=⟨_,rfl⟩
 rw [hg] at CR0 hW1 hW2 ⊢
 clear hg hrk hsm0
 go_enter Tryz.func65,Tryz.ntmps65
 go_upto_region 1 with fail
 obtain ⟨w1,hw1⟩:∃ u,w.alloc (.cells #[.int .i64 c.kd,.int .i64 c.ss,.int .i64 c.sq,.int .i64 c.sh,.int .i64 c.nd,.int .i64 c.ep,.int .i64 c.n,.string ⟨c.fd.toArray⟩,.string ⟨c.id.toArray⟩,iv,.bool c.fl] 38) = u:=⟨_,rfl⟩
 have hR:w.heap.size + 1 = w1.heap.size:=by rw [← hw1,World.size_alloc]
 obtain ⟨z,hz⟩:∃ z,w.heap.size = z:=⟨_,rfl⟩
 have hcz:Cells w1 z 38 (c.cells iv):=hw1 ▸ hz ▸ Cells.new w _ _
 rw [hw1,hR,hz]
 obtain ⟨w2,hw2⟩:∃ u,w1.alloc (.cells #[.int .i64 0,.int .i64 0,.slice none 0 0] 34) = u:=⟨_,rfl⟩
 obtain ⟨R,hRR⟩:∃ R,w1.heap.size = R:=⟨_,rfl⟩
 have o12:Only [] w1 w2:=hw2 ▸ oz.alloc _
 have o2:Only [] w w2:=Only.tr0 (hw1 ▸ oz.alloc _) o12
 have hcR:Cells w2 R 34 [.int .i64 0,.int .i64 0,.slice none 0 0]:=hw2 ▸ hRR ▸ Cells.new w1 _ _
 rw [hw2,hRR]
 have hwR:w.heap.size ≤ R:=by omega
 have hX2:=hX.keep o2 (by simp)
 obtain ⟨c0,c1,c2,c3,c4,c5,c6,c7,c8,c9,c10⟩:=cm_cells (hcz.only o12 (by simp))
 have p1:=hX2.cells.cell (k:=1) rfl
 have hpl:=hX2.cells.lt
 have HX:=Hd hX
 have HX2:=Hd hX2
 have HO2:=Hd o2
 have HR:=Hd hcR
 have CR:=Hd (fun w' (ho:Only [] w2 w') => CR0.out w' (HX2.out.d.only ho (by simp)))
 clear hw1 hw2 hR hRR o2 o12 hcR hX hX2 hI hcz CR0
 have CR2:=Hd (CR.out w2.drew (oz.drew))
 clear c0 c1 c2 c5 c6 c7 c8 c9 c10 CR
 go_cut [5,6] from 7 (fun u5 u6 wx => u5 = .int .i64 g.2.1 ∧ u6 = .int .i64 g.2.2 ∧ Hid (Only [lb] w2 wx ∧ Cells wx lb 181 g.1.cells))
 case first =>
  go_region_law (go_simp;go_at_call 134;go_loud (refine CR2.out.mono ?_;rintro e w4 ⟨rfl,ho4,hd4⟩;have HWX:Hid (Only [lb] w2 w4 ∧ Cells w4 lb 181 g.1.cells):=Hd ⟨((Only.refl [lb] w2).drew).tr ho4,hd4⟩;clear ho4 hd4))
  all_goals
   go_wp2_with fail
   go_meet
   exact ⟨rfl,rfl,HWX⟩
 case rest =>
 obtain ⟨rfl,rfl,HWX⟩:=hcut
 obtain ⟨hX3,hO3⟩:=HX2.out.ddo (d':=g.1) HWX.out.2 HWX.out.1
 have hRn:R ∉ allA p tb tv lb O:=fun hm => by have:=HX.out.lts R hm;omega
 have hR3:=HR.out.only hO3 (by simpa using hRn)
 have oR:∀ row,Only [R] wc (wc.setRow R row):=fun row => oz.setRow (.inl (by simp)) _
 have HFIN:Hid (∀ row,ReO w (wc.setRow R row) p (allA p tb tv lb O) ⟨g.2.2,g.2.1,[]⟩ ⟨a.t,g.1,a.s⟩ (.returned (.agg #[.int .i64 g.2.2,.int .i64 g.2.1,.slice none 0 0]))):=Hd (fun row => ReO.nil rfl hW1 hW2 ⟨tb,tv,lb,sb,O,B,hX3.keep (oR row) (fun k hk hm => by simp at hm;subst hm;exact hRn hk),rfl⟩ (((HO2.out.of0).trans hO3 (fun x hx => .inl hx)).trans (oR row) (fun x hx => by simp at hx;subst hx;exact .inr hwR)) (fun x hx => .inl hx))
 have HR3:=Hd hR3
 have hst:=HR3.out
 have hone:(#[.int .i64 g.2.2,.int .i64 g.2.1,.slice none 0 0]:Array Value).all (·.oneCell') = true:=by simp [Value.oneCell']
 clear hX3 hO3 hRn oR hR3 CR2 p1 c3 c4
 go_wp2_with (refine wpList_store_row rfl 34 _ _ rfl R #[.int .i64 g.2.2,.int .i64 g.2.1,.slice none 0 0] rfl rfl 34 _ hst (by kernel_rfl) rfl hone ?_)
 (try simp only [Exit.inBlock,Exit.then])
 refine bodyPost_ret (v:=.agg #[.int .i64 g.2.2,.int .i64 g.2.1,.slice none 0 0]) ?_ rfl (HFIN.out _)
 exact results_row Tryz.results65 _ _ R 34 [.int .i64 g.2.2,.int .i64 g.2.1,.slice none 0 0] _ rfl (Cells.setRow HR3.out [.int .i64 g.2.2,.int .i64 g.2.1,.slice none 0 0]) Tryz.underlying34 rfl (by kernel_rfl)
theorem ag_show (p:Nat) (K:List Nat) (a:AgS) (n:Nat) (hn:n ≤ 1000000000) (c:Cm) (iv:Value) (w:World) (h:AgAt w p K a) (hI:AgI n a):
 Calls Tryz.prog 66 #[.pointer (some ⟨p,0,none⟩),c.val iv] w fun e w' => ReO w w' p K ⟨0,(a.d.get c.sh).epoch,[]⟩ a e:=by
 obtain ⟨tb,tv,lb,sb,O,B,hX,rfl⟩:=h
 unfold Cm.val
 have he:=L16.Tb.get_epoch hI.d.up (by omega) c.sh
 have hll:=hI.d.up.len
 have CR0:=Hd (fun w' hc => L16.lease_get lb a.d c.sh w' hc hll)
 obtain ⟨g,hg⟩:∃ g,a.d.get c.sh = g:=⟨_,rfl⟩
 rw [hg] at CR0 he ⊢
 clear hg hll
 obtain ⟨gn,ge,gt⟩:=g
 unfold L16.Ls.val at CR0
 dsimp only at CR0 he ⊢
 go_enter Tryz.func66,Tryz.ntmps66
 go_upto_region 1 with fail
 obtain ⟨w1,hw1⟩:∃ u,w.alloc (.cells #[.int .i64 c.kd,.int .i64 c.ss,.int .i64 c.sq,.int .i64 c.sh,.int .i64 c.nd,.int .i64 c.ep,.int .i64 c.n,.string ⟨c.fd.toArray⟩,.string ⟨c.id.toArray⟩,iv,.bool c.fl] 38) = u:=⟨_,rfl⟩
 have hR:w.heap.size + 1 = w1.heap.size:=by rw [← hw1,World.size_alloc]
 obtain ⟨z,hz⟩:∃ z,w.heap.size = z:=⟨_,rfl⟩
 have hcz:Cells w1 z 38 (c.cells iv):=hw1 ▸ hz ▸ Cells.new w _ _
 rw [hw1,hR,hz]
 obtain ⟨w2,hw2⟩:∃ u,w1.alloc (.cells #[.int .i64 0,.int .i64 0,.slice none 0 0] 34) = u:=⟨_,rfl⟩
 obtain ⟨R,hRR⟩:∃ R,w1.heap.size = R:=⟨_,rfl⟩
 have o12:Only [] w1 w2:=hw2 ▸ oz.alloc _
 have o2:Only [] w w2:=Only.tr0 (hw1 ▸ oz.alloc _) o12
 have hcR:Cells w2 R 34 [.int .i64 0,.int .i64 0,.slice none 0 0]:=hw2 ▸ hRR ▸ Cells.new w1 _ _
 rw [hw2,hRR]
 have hwR:w.heap.size ≤ R:=by omega
 have hX2:=hX.keep o2 (by simp)
 obtain ⟨c0,c1,c2,c3,c4,c5,c6,c7,c8,c9,c10⟩:=cm_cells (hcz.only o12 (by simp))
 have p1:=hX2.cells.cell (k:=1) rfl
 have hpl:=hX2.cells.lt
 have HX:=Hd hX
 have HX2:=Hd hX2
 have HO2:=Hd o2
 have HR:=Hd hcR
 have CR:=Hd (fun v:Since w2 => CR0.out v.w (HX2.out.d.only v.2 (by simp)))
 have v1:=fun u:Since w2 => u.cell p1
 have u3:=fun u:Since w2 => u.cell c3
 have hfd:=fun w' => L16.field_lease1 gn ge gt w'
 clear hw1 hw2 hR hRR o2 o12 hcR hX hX2 hI hcz CR0 c0 c1 c2 c3 c4 c5 c6 c7 c8 c9 c10 p1
 refine wp_region_only_tail w2 oz 9 (by kernel_rfl) (by kernel_rfl) ?_
 simp only [tk1,tk0,dr1,dr0]
 repeat (go_big_quiet_step ((go_at_call 60;refine Calls.only (CR.out _))))
 refine wpQuiet_nil ?_
 rintro ⟨w3,ho3⟩
 dsimp only
 have hX3:=HX2.out.keep ho3 (by simp)
 have hRn:R ∉ allA p tb tv lb O:=fun hm => by have:=HX.out.lts R hm;omega
 have HR3:=Hd (HR.out.only ho3 (by simp))
 have oR:∀ row,Only [R] w3 (w3.setRow R row):=fun row => oz.setRow (.inl (by simp)) _
 have HFIN:Hid (∀ row,ReO w (w3.setRow R row) p (allA p tb tv lb O) ⟨0,ge,[]⟩ a (.returned (.agg #[.int .i64 0,.int .i64 ge,.slice none 0 0]))):=Hd (fun row => ReO.nil rfl (wide_lt (by omega) (by omega)) (wide_lt (by omega) (by omega)) ⟨tb,tv,lb,sb,O,B,hX3.keep (oR row) (fun k hk hm => by simp at hm;subst hm;exact hRn hk),rfl⟩ (((HO2.out.tr ho3).of0).trans (oR row) (fun x hx => by simp at hx;subst hx;exact .inr hwR)) (fun x hx => .inl hx))
 have hst:=HR3.out
 have hone:(#[.int .i64 0,.int .i64 ge,.slice none 0 0]:Array Value).all (·.oneCell') = true:=by simp [Value.oneCell']
 clear hX3 hRn oR CR v1 u3 hfd ho3
 go_wp2_with (refine wpList_store_row rfl 34 _ _ rfl R #[.int .i64 0,.int .i64 ge,.slice none 0 0] rfl rfl 34 _ hst (by kernel_rfl) rfl hone ?_)
 (try simp only [Exit.inBlock,Exit.then])
 refine bodyPost_ret (v:=.agg #[.int .i64 0,.int .i64 ge,.slice none 0 0]) ?_ rfl (HFIN.out _)
 exact results_row Tryz.results66 _ _ R 34 [.int .i64 0,.int .i64 ge,.slice none 0 0] _ rfl (Cells.setRow HR3.out [.int .i64 0,.int .i64 ge,.slice none 0 0]) Tryz.underlying34 rfl (by kernel_rfl)
theorem ag_subscribe (p:Nat) (K:List Nat) (a:AgS) (c:Cm) (iv:Value) (w:World) (h:AgAt w p K a) (hfd:c.fd.length ≤ maxLen) (hid:c.id.length ≤ maxLen):
 Calls Tryz.prog 124 #[.pointer (some ⟨p,0,none⟩),c.val iv] w fun e w' => ReO w w' p K (errR (subS a.s c.fd).1) ⟨a.t,a.d,(subS a.s c.fd).2⟩ e:=by
 obtain ⟨tb,tv,lb,sb,O,B,hX,rfl⟩:=h
 unfold Cm.val
 have her:=subS_er a.s c.fd
 have CR0:=Hd (fun w' hs => st_sub sb O a.s c.fd hfd w' hs)
 obtain ⟨g,hg⟩:∃ g,subS a.s c.fd = g:=⟨_,rfl⟩
 rw [hg] at CR0 her ⊢
 clear hg
 go_enter Tryz.func124,Tryz.ntmps124
 go_upto_region 1 with fail
 obtain ⟨w1,hw1⟩:∃ u,w.alloc (.cells #[.int .i64 c.kd,.int .i64 c.ss,.int .i64 c.sq,.int .i64 c.sh,.int .i64 c.nd,.int .i64 c.ep,.int .i64 c.n,.string ⟨c.fd.toArray⟩,.string ⟨c.id.toArray⟩,iv,.bool c.fl] 38) = u:=⟨_,rfl⟩
 have hR:w.heap.size + 1 = w1.heap.size:=by rw [← hw1,World.size_alloc]
 obtain ⟨z,hz⟩:∃ z,w.heap.size = z:=⟨_,rfl⟩
 have hcz:Cells w1 z 38 (c.cells iv):=hw1 ▸ hz ▸ Cells.new w _ _
 rw [hw1,hR,hz]
 obtain ⟨w2,hw2⟩:∃ u,w1.alloc (.cells #[.int .i64 0,.int .i64 0,.slice none 0 0] 34) = u:=⟨_,rfl⟩
 obtain ⟨R,hRR⟩:∃ R,w1.heap.size = R:=⟨_,rfl⟩
 have o12:Only [] w1 w2:=hw2 ▸ oz.alloc _
 have o2:Only [] w w2:=Only.tr0 (hw1 ▸ oz.alloc _) o12
 have hcR:Cells w2 R 34 [.int .i64 0,.int .i64 0,.slice none 0 0]:=hw2 ▸ hRR ▸ Cells.new w1 _ _
 rw [hw2,hRR]
 have hwR:w.heap.size ≤ R:=by omega
 have hX2:=hX.keep o2 (by simp)
 obtain ⟨c0,c1,c2,c3,c4,c5,c6,c7,c8,c9,c10⟩:=cm_cells (hcz.only o12 (by simp))
 have p1:=hX2.cells.cell (k:=2) rfl
 have hpl:=hX2.cells.lt
 have HX:=Hd hX
 have HX2:=Hd hX2
 have HO2:=Hd o2
 have HR:=Hd hcR
 have v1:=fun u:Since w2 => u.cell p1
 have u7:=fun u:Since w2 => u.cell c7
 clear hw1 hw2 hR hRR o2 o12 hcR hX hX2 hcz c0 c1 c2 c3 c4 c5 c6 c7 c8 c9 c10 p1
 refine wp_region_only_tail w2 oz 6 (by kernel_rfl) (by kernel_rfl) ?_
 simp only [tk1,tk0,dr1,dr0]
 repeat (go_big_quiet_step (fail))
 refine wpQuiet_nil ?_
 rintro ⟨w3,ho3⟩
 dsimp only
 have HX3:=Hd (HX2.out.keep ho3 (by simp))
 have HO3:=Hd (HO2.out.tr ho3)
 have HR3:=Hd (HR.out.only ho3 (by simp))
 have CR:=Hd (CR0.out w3 HX3.out.s)
 have hst0:=HR3.out
 clear ho3 v1 u7 CR0 HX2 HO2 HR
 go_wp2_with fail
 refine CR.out.mono ?_
 rintro e w4 ⟨rfl,O',hs,ho,hn⟩
 obtain ⟨hX4,hO4,hN4⟩:=HX3.out.sdo hs ho hn
 have hRn:R ∉ allA p tb tv lb O:=fun hm => by have:=HX.out.lts R hm;omega
 have hR4:=HR3.out.only hO4 (by simpa using hRn)
 have hRn':R ∉ allA p tb tv lb O':=fun hm => by
  rcases hN4 R hm with e | e
  · exact hRn e
  · have:=HR3.out.lt;omega
 have oR:∀ row,Only [R] w4 (w4.setRow R row):=fun row => oz.setRow (.inl (by simp)) _
 have HFIN:Hid (∀ row,ReO w (w4.setRow R row) p (allA p tb tv lb O) (errR g.1) ⟨a.t,a.d,g.2⟩ (.returned (.agg #[.int .i64 g.1,.int .i64 0,.slice none 0 0]))):=Hd (fun row => ReO.nil rfl (wide_lt her.1 (by omega)) (wide_lt (by omega) (by omega)) ⟨tb,tv,lb,sb,O',B,hX4.keep (oR row) (fun k hk hm => by simp at hm;subst hm;exact hRn' hk),rfl⟩ (((HO3.out.of0).trans hO4 (fun x hx => .inl hx)).trans (oR row) (fun x hx => by simp at hx;subst hx;exact .inr hwR)) (fun x hx => (hN4 x hx).imp id (fun h => Nat.le_trans HO3.out.size h)))
 have HR4:=Hd hR4
 have hst:=HR4.out
 have hone:(#[.int .i64 g.1,.int .i64 0,.slice none 0 0]:Array Value).all (·.oneCell') = true:=by simp [Value.oneCell']
 clear hs ho hn hX4 hO4 hN4 hRn hRn' oR hR4 CR hst0
 go_wp2_with (refine wpList_store_row rfl 34 _ _ rfl R #[.int .i64 g.1,.int .i64 0,.slice none 0 0] rfl rfl 34 _ hst (by kernel_rfl) rfl hone ?_)
 (try simp only [Exit.inBlock,Exit.then])
 refine bodyPost_ret (v:=.agg #[.int .i64 g.1,.int .i64 0,.slice none 0 0]) ?_ rfl (HFIN.out _)
 exact results_row Tryz.results124 _ _ R 34 [.int .i64 g.1,.int .i64 0,.slice none 0 0] _ rfl (Cells.setRow HR4.out [.int .i64 g.1,.int .i64 0,.slice none 0 0]) Tryz.underlying34 rfl (by kernel_rfl)
theorem ag_unsubscribe (p:Nat) (K:List Nat) (a:AgS) (c:Cm) (iv:Value) (w:World) (h:AgAt w p K a) (hfd:c.fd.length ≤ maxLen) (hid:c.id.length ≤ maxLen):
 Calls Tryz.prog 125 #[.pointer (some ⟨p,0,none⟩),c.val iv] w fun e w' => ReO w w' p K (errR (unS a.s c.fd).1) ⟨a.t,a.d,(unS a.s c.fd).2⟩ e:=by
 obtain ⟨tb,tv,lb,sb,O,B,hX,rfl⟩:=h
 unfold Cm.val
 have her:=unS_er a.s c.fd
 have CR0:=Hd (fun w' hs => st_un sb O a.s c.fd hfd w' hs)
 obtain ⟨g,hg⟩:∃ g,unS a.s c.fd = g:=⟨_,rfl⟩
 rw [hg] at CR0 her ⊢
 clear hg
 go_enter Tryz.func125,Tryz.ntmps125
 go_upto_region 1 with fail
 obtain ⟨w1,hw1⟩:∃ u,w.alloc (.cells #[.int .i64 c.kd,.int .i64 c.ss,.int .i64 c.sq,.int .i64 c.sh,.int .i64 c.nd,.int .i64 c.ep,.int .i64 c.n,.string ⟨c.fd.toArray⟩,.string ⟨c.id.toArray⟩,iv,.bool c.fl] 38) = u:=⟨_,rfl⟩
 have hR:w.heap.size + 1 = w1.heap.size:=by rw [← hw1,World.size_alloc]
 obtain ⟨z,hz⟩:∃ z,w.heap.size = z:=⟨_,rfl⟩
 have hcz:Cells w1 z 38 (c.cells iv):=hw1 ▸ hz ▸ Cells.new w _ _
 rw [hw1,hR,hz]
 obtain ⟨w2,hw2⟩:∃ u,w1.alloc (.cells #[.int .i64 0,.int .i64 0,.slice none 0 0] 34) = u:=⟨_,rfl⟩
 obtain ⟨R,hRR⟩:∃ R,w1.heap.size = R:=⟨_,rfl⟩
 have o12:Only [] w1 w2:=hw2 ▸ oz.alloc _
 have o2:Only [] w w2:=Only.tr0 (hw1 ▸ oz.alloc _) o12
 have hcR:Cells w2 R 34 [.int .i64 0,.int .i64 0,.slice none 0 0]:=hw2 ▸ hRR ▸ Cells.new w1 _ _
 rw [hw2,hRR]
 have hwR:w.heap.size ≤ R:=by omega
 have hX2:=hX.keep o2 (by simp)
 obtain ⟨c0,c1,c2,c3,c4,c5,c6,c7,c8,c9,c10⟩:=cm_cells (hcz.only o12 (by simp))
 have p1:=hX2.cells.cell (k:=2) rfl
 have hpl:=hX2.cells.lt
 have HX:=Hd hX
 have HX2:=Hd hX2
 have HO2:=Hd o2
 have HR:=Hd hcR
 have v1:=fun u:Since w2 => u.cell p1
 have u7:=fun u:Since w2 => u.cell c7
 clear hw1 hw2 hR hRR o2 o12 hcR hX hX2 hcz c0 c1 c2 c3 c4 c5 c6 c7 c8 c9 c10 p1
 refine wp_region_only_tail w2 oz 6 (by kernel_rfl) (by kernel_rfl) ?_
 simp only [tk1,tk0,dr1,dr0]
 repeat (go_big_quiet_step (fail))
 refine wpQuiet_nil ?_
 rintro ⟨w3,ho3⟩
 dsimp only
 have HX3:=Hd (HX2.out.keep ho3 (by simp))
 have HO3:=Hd (HO2.out.tr ho3)
 have HR3:=Hd (HR.out.only ho3 (by simp))
 have CR:=Hd (CR0.out w3 HX3.out.s)
 have hst0:=HR3.out
 clear ho3 v1 u7 CR0 HX2 HO2 HR
 go_wp2_with fail
 refine CR.out.mono ?_
 rintro e w4 ⟨rfl,O',hs,ho,hn⟩
 obtain ⟨hX4,hO4,hN4⟩:=HX3.out.sdo hs ho hn
 have hRn:R ∉ allA p tb tv lb O:=fun hm => by have:=HX.out.lts R hm;omega
 have hR4:=HR3.out.only hO4 (by simpa using hRn)
 have hRn':R ∉ allA p tb tv lb O':=fun hm => by
  rcases hN4 R hm with e | e
  · exact hRn e
  · have:=HR3.out.lt;omega
 have oR:∀ row,Only [R] w4 (w4.setRow R row):=fun row => oz.setRow (.inl (by simp)) _
 have HFIN:Hid (∀ row,ReO w (w4.setRow R row) p (allA p tb tv lb O) (errR g.1) ⟨a.t,a.d,g.2⟩ (.returned (.agg #[.int .i64 g.1,.int .i64 0,.slice none 0 0]))):=Hd (fun row => ReO.nil rfl (wide_lt her.1 (by omega)) (wide_lt (by omega) (by omega)) ⟨tb,tv,lb,sb,O',B,hX4.keep (oR row) (fun k hk hm => by simp at hm;subst hm;exact hRn' hk),rfl⟩ (((HO3.out.of0).trans hO4 (fun x hx => .inl hx)).trans (oR row) (fun x hx => by simp at hx;subst hx;exact .inr hwR)) (fun x hx => (hN4 x hx).imp id (fun h => Nat.le_trans HO3.out.size h)))
 have HR4:=Hd hR4
 have hst:=HR4.out
 have hone:(#[.int .i64 g.1,.int .i64 0,.slice none 0 0]:Array Value).all (·.oneCell') = true:=by simp [Value.oneCell']
 clear hs ho hn hX4 hO4 hN4 hRn hRn' oR hR4 CR hst0
 go_wp2_with (refine wpList_store_row rfl 34 _ _ rfl R #[.int .i64 g.1,.int .i64 0,.slice none 0 0] rfl rfl 34 _ hst (by kernel_rfl) rfl hone ?_)
 (try simp only [Exit.inBlock,Exit.then])
 refine bodyPost_ret (v:=.agg #[.int .i64 g.1,.int .i64 0,.slice none 0 0]) ?_ rfl (HFIN.out _)
 exact results_row Tryz.results125 _ _ R 34 [.int .i64 g.1,.int .i64 0,.slice none 0 0] _ rfl (Cells.setRow HR4.out [.int .i64 g.1,.int .i64 0,.slice none 0 0]) Tryz.underlying34 rfl (by kernel_rfl)
theorem ag_mark (p:Nat) (K:List Nat) (a:AgS) (c:Cm) (iv:Value) (w:World) (h:AgAt w p K a) (hfd:c.fd.length ≤ maxLen) (hid:c.id.length ≤ maxLen):
 Calls Tryz.prog 126 #[.pointer (some ⟨p,0,none⟩),c.val iv] w fun e w' => ReO w w' p K (errR (markS a.s c.fd c.id).1) ⟨a.t,a.d,(markS a.s c.fd c.id).2⟩ e:=by
 obtain ⟨tb,tv,lb,sb,O,B,hX,rfl⟩:=h
 unfold Cm.val
 have her:=markS_er a.s c.fd c.id
 have CR0:=Hd (fun w' hs => st_mark sb O a.s c.fd hfd c.id hid w' hs)
 obtain ⟨g,hg⟩:∃ g,markS a.s c.fd c.id = g:=⟨_,rfl⟩
 rw [hg] at CR0 her ⊢
 clear hg
 go_enter Tryz.func126,Tryz.ntmps126
 go_upto_region 1 with fail
 obtain ⟨w1,hw1⟩:∃ u,w.alloc (.cells #[.int .i64 c.kd,.int .i64 c.ss,.int .i64 c.sq,.int .i64 c.sh,.int .i64 c.nd,.int .i64 c.ep,.int .i64 c.n,.string ⟨c.fd.toArray⟩,.string ⟨c.id.toArray⟩,iv,.bool c.fl] 38) = u:=⟨_,rfl⟩
 have hR:w.heap.size + 1 = w1.heap.size:=by rw [← hw1,World.size_alloc]
 obtain ⟨z,hz⟩:∃ z,w.heap.size = z:=⟨_,rfl⟩
 have hcz:Cells w1 z 38 (c.cells iv):=hw1 ▸ hz ▸ Cells.new w _ _
 rw [hw1,hR,hz]
 obtain ⟨w2,hw2⟩:∃ u,w1.alloc (.cells #[.int .i64 0,.int .i64 0,.slice none 0 0] 34) = u:=⟨_,rfl⟩
 obtain ⟨R,hRR⟩:∃ R,w1.heap.size = R:=⟨_,rfl⟩
 have o12:Only [] w1 w2:=hw2 ▸ oz.alloc _
 have o2:Only [] w w2:=Only.tr0 (hw1 ▸ oz.alloc _) o12
 have hcR:Cells w2 R 34 [.int .i64 0,.int .i64 0,.slice none 0 0]:=hw2 ▸ hRR ▸ Cells.new w1 _ _
 rw [hw2,hRR]
 have hwR:w.heap.size ≤ R:=by omega
 have hX2:=hX.keep o2 (by simp)
 obtain ⟨c0,c1,c2,c3,c4,c5,c6,c7,c8,c9,c10⟩:=cm_cells (hcz.only o12 (by simp))
 have p1:=hX2.cells.cell (k:=2) rfl
 have hpl:=hX2.cells.lt
 have HX:=Hd hX
 have HX2:=Hd hX2
 have HO2:=Hd o2
 have HR:=Hd hcR
 have v1:=fun u:Since w2 => u.cell p1
 have u7:=fun u:Since w2 => u.cell c7
 have u8:=fun u:Since w2 => u.cell c8
 clear hw1 hw2 hR hRR o2 o12 hcR hX hX2 hcz c0 c1 c2 c3 c4 c5 c6 c7 c8 c9 c10 p1
 refine wp_region_only_tail w2 oz 8 (by kernel_rfl) (by kernel_rfl) ?_
 simp only [tk1,tk0,dr1,dr0]
 repeat (go_big_quiet_step (fail))
 refine wpQuiet_nil ?_
 rintro ⟨w3,ho3⟩
 dsimp only
 have HX3:=Hd (HX2.out.keep ho3 (by simp))
 have HO3:=Hd (HO2.out.tr ho3)
 have HR3:=Hd (HR.out.only ho3 (by simp))
 have CR:=Hd (CR0.out w3 HX3.out.s)
 have hst0:=HR3.out
 clear ho3 v1 u7 CR0 HX2 HO2 HR
 go_wp2_with fail
 refine CR.out.mono ?_
 rintro e w4 ⟨rfl,O',hs,ho,hn⟩
 obtain ⟨hX4,hO4,hN4⟩:=HX3.out.sdo hs ho hn
 have hRn:R ∉ allA p tb tv lb O:=fun hm => by have:=HX.out.lts R hm;omega
 have hR4:=HR3.out.only hO4 (by simpa using hRn)
 have hRn':R ∉ allA p tb tv lb O':=fun hm => by
  rcases hN4 R hm with e | e
  · exact hRn e
  · have:=HR3.out.lt;omega
 have oR:∀ row,Only [R] w4 (w4.setRow R row):=fun row => oz.setRow (.inl (by simp)) _
 have HFIN:Hid (∀ row,ReO w (w4.setRow R row) p (allA p tb tv lb O) (errR g.1) ⟨a.t,a.d,g.2⟩ (.returned (.agg #[.int .i64 g.1,.int .i64 0,.slice none 0 0]))):=Hd (fun row => ReO.nil rfl (wide_lt her.1 (by omega)) (wide_lt (by omega) (by omega)) ⟨tb,tv,lb,sb,O',B,hX4.keep (oR row) (fun k hk hm => by simp at hm;subst hm;exact hRn' hk),rfl⟩ (((HO3.out.of0).trans hO4 (fun x hx => .inl hx)).trans (oR row) (fun x hx => by simp at hx;subst hx;exact .inr hwR)) (fun x hx => (hN4 x hx).imp id (fun h => Nat.le_trans HO3.out.size h)))
 have HR4:=Hd hR4
 have hst:=HR4.out
 have hone:(#[.int .i64 g.1,.int .i64 0,.slice none 0 0]:Array Value).all (·.oneCell') = true:=by simp [Value.oneCell']
 clear hs ho hn hX4 hO4 hN4 hRn hRn' oR hR4 CR hst0
 go_wp2_with (refine wpList_store_row rfl 34 _ _ rfl R #[.int .i64 g.1,.int .i64 0,.slice none 0 0] rfl rfl 34 _ hst (by kernel_rfl) rfl hone ?_)
 (try simp only [Exit.inBlock,Exit.then])
 refine bodyPost_ret (v:=.agg #[.int .i64 g.1,.int .i64 0,.slice none 0 0]) ?_ rfl (HFIN.out _)
 exact results_row Tryz.results126 _ _ R 34 [.int .i64 g.1,.int .i64 0,.slice none 0 0] _ rfl (Cells.setRow HR4.out [.int .i64 g.1,.int .i64 0,.slice none 0 0]) Tryz.underlying34 rfl (by kernel_rfl)
theorem RpK.at {w:World} {B:Nat} {pv:Value} {r:Rp} (h:RpK r) (hs:w.ownsRow B 101 5 pv r.ps.length (poL r.ps)):RpAt w pv r:=
 ⟨SlAt.of_own hs,⟨by have:=h.er.1;omega,by have:=h.er.2;omega⟩,h.n,fun x hx => by
  have:=h.ps x hx
  have hs:=itR_sh this.1
  exact ⟨this.2,⟨Nat.le_trans hs.id (by omega),Nat.le_trans hs.ti (by omega),Nat.le_trans hs.li (by omega)⟩⟩,Nat.le_trans h.len (by omega)⟩
theorem ag_list (p:Nat) (K:List Nat) (a:AgS) (n:Nat) (c:Cm) (iv:Value) (w:World) (h:AgAt w p K a) (hI:AgI n a) (hfd:c.fd.length ≤ maxLen):
 Calls Tryz.prog 123 #[.pointer (some ⟨p,0,none⟩),c.val iv] w fun e w' => ReO w w' p K ⟨(listS a.s c.fd c.n).2,0,(listS a.s c.fd c.n).1⟩ a e:=by
 obtain ⟨tb,tv,lb,sb,O,B,hX,rfl⟩:=h
 unfold Cm.val
 have hrk:=listS_k hI.si c.fd c.n
 have CR0:=Hd (fun w' hs => st_list sb O a.s c.fd hfd c.n w' hs)
 obtain ⟨g,hg⟩:∃ g,listS a.s c.fd c.n = g:=⟨_,rfl⟩
 rw [hg] at CR0 hrk ⊢
 have HRK:=Hd hrk
 clear hg hrk hI
 go_enter Tryz.func123,Tryz.ntmps123
 go_upto_region 1 with fail
 obtain ⟨w1,hw1⟩:∃ u,w.alloc (.cells #[.int .i64 c.kd,.int .i64 c.ss,.int .i64 c.sq,.int .i64 c.sh,.int .i64 c.nd,.int .i64 c.ep,.int .i64 c.n,.string ⟨c.fd.toArray⟩,.string ⟨c.id.toArray⟩,iv,.bool c.fl] 38) = u:=⟨_,rfl⟩
 have hR:w.heap.size + 1 = w1.heap.size:=by rw [← hw1,World.size_alloc]
 obtain ⟨z,hz⟩:∃ z,w.heap.size = z:=⟨_,rfl⟩
 have hcz:Cells w1 z 38 (c.cells iv):=hw1 ▸ hz ▸ Cells.new w _ _
 rw [hw1,hR,hz]
 obtain ⟨w2,hw2⟩:∃ u,w1.alloc (.cells #[.int .i64 0,.int .i64 0,.slice none 0 0] 34) = u:=⟨_,rfl⟩
 obtain ⟨R,hRR⟩:∃ R,w1.heap.size = R:=⟨_,rfl⟩
 have o12:Only [] w1 w2:=hw2 ▸ oz.alloc _
 have o2:Only [] w w2:=Only.tr0 (hw1 ▸ oz.alloc _) o12
 have hcR:Cells w2 R 34 [.int .i64 0,.int .i64 0,.slice none 0 0]:=hw2 ▸ hRR ▸ Cells.new w1 _ _
 rw [hw2,hRR]
 have hwR:w.heap.size ≤ R:=by omega
 have hX2:=hX.keep o2 (by simp)
 obtain ⟨c0,c1,c2,c3,c4,c5,c6,c7,c8,c9,c10⟩:=cm_cells (hcz.only o12 (by simp))
 have p1:=hX2.cells.cell (k:=2) rfl
 have hpl:=hX2.cells.lt
 have HX:=Hd hX
 have HX2:=Hd hX2
 have HO2:=Hd o2
 have HR:=Hd hcR
 have CR2:=Hd (CR0.out w2.drew (hX2.s.keep ((Only.refl [] w2).drew) (by simp)))
 clear hw1 hw2 hR hRR o2 o12 hcR hX hX2 hcz CR0 c0 c1 c2 c3 c4 c5 c8 c9 c10
 go_cut [5,6] from 7 (fun u5 u6 wx => u6 = .int .i64 g.2 ∧ Hid (Only [] w2 wx ∧ wx.ownsRow w2.heap.size 101 5 u5 g.1.length (poL g.1)))
 case first =>
  go_region_law (go_simp;go_at_call 68;go_loud (refine CR2.out.mono ?_;rintro e w4 ⟨pv,rfl,hr4,ho4⟩;have HWX:Hid (Only [] w2 w4 ∧ w4.ownsRow w2.heap.size 101 5 pv g.1.length (poL g.1)):=Hd ⟨((Only.refl _ w2).drew).tr ho4,hr4⟩;clear ho4 hr4))
  all_goals
   go_wp2_with fail
   go_meet
   exact ⟨rfl,HWX⟩
 case rest =>
 obtain ⟨rfl,HWX⟩:=hcut
 have hX3:=HX2.out.keep HWX.out.1 (by simp)
 obtain ⟨PA,pc,rfl⟩:=(SlAt.of_own HWX.out.2).shape
 have hRn:R ∉ allA p tb tv lb O:=fun hm => by have:=HX.out.lts R hm;omega
 have hR2:=HR.out.lt
 have hR3:=HR.out.only HWX.out.1 (by simp)
 have oR:∀ row,Only [R] wc (wc.setRow R row):=fun row => oz.setRow (.inl (by simp)) _
 have hge:∀ gg,(Value.slice PA g.1.length pc).ownBlock = some gg → w2.heap.size ≤ gg:=fun gg hgg => (HWX.out.2.lt gg hgg).1
 have HFIN:Hid (∀ row,ReO w (wc.setRow R row) p (allA p tb tv lb O) ⟨g.2,0,g.1⟩ a (.returned (.agg #[.int .i64 g.2,.int .i64 0,.slice PA g.1.length pc]))):=Hd (fun row => ⟨.slice PA g.1.length pc,_,rfl,HRK.out.at (own_keep HWX.out.2 (oR row) (fun b hb e => by simp at hb;subst hb;have:=hge b e;omega)),fun _ gg hgg => ⟨by have:=hge gg hgg;have:=HO2.out.size;omega,fun hm => by have:=hge gg hgg;have:=HX2.out.lts gg hm;omega⟩,⟨tb,tv,lb,sb,O,B,hX3.keep (oR row) (fun k hk hm => by simp at hm;subst hm;exact hRn hk),rfl⟩,((HO2.out.tr HWX.out.1).of0).trans (oR row) (fun x hx => by simp at hx;subst hx;exact .inr hwR),fun x hx => .inl hx⟩)
 have HR3:=Hd hR3
 have hst:=HR3.out
 have hone:(#[.int .i64 g.2,.int .i64 0,.slice PA g.1.length pc]:Array Value).all (·.oneCell') = true:=by simp [Value.oneCell']
 clear hX3 hRn oR hR3 CR2 p1 c6 c7 hge
 go_wp2_with (refine wpList_store_row rfl 34 _ _ rfl R #[.int .i64 g.2,.int .i64 0,.slice PA g.1.length pc] rfl rfl 34 _ hst (by kernel_rfl) rfl hone ?_)
 (try simp only [Exit.inBlock,Exit.then])
 refine bodyPost_ret (v:=.agg #[.int .i64 g.2,.int .i64 0,.slice PA g.1.length pc]) ?_ rfl (HFIN.out _)
 exact results_row Tryz.results123 _ _ R 34 [.int .i64 g.2,.int .i64 0,.slice PA g.1.length pc] _ rfl (Cells.setRow HR3.out [.int .i64 g.2,.int .i64 0,.slice PA g.1.length pc]) Tryz.underlying34 rfl (by kernel_rfl)
theorem ag_now (p:Nat) (K:List Nat) (a:AgS) (w:World) (h:AgAt w p K a):
 Calls Tryz.prog 21 #[.pointer (some ⟨p,0,none⟩)] w fun e w' => e = .returned (.int .i64 a.d.now) ∧ w = w':=by
 obtain ⟨tb,tv,lb,sb,O,B,hX,rfl⟩:=h
 have p1:=hX.cells.cell (k:=1) rfl
 have hpl:=hX.cells.lt
 have CR:=Hd (L16.lease_now lb a.d w hX.d)
 clear hX
 go_enter Tryz.func21,Tryz.ntmps21
 go_wp2_with (go_at_call 67;refine CR.out.mono ?_;rintro e w' ⟨rfl,rfl⟩)
 go_ret
 exact ⟨rfl,rfl⟩
def ItK (w:World) (K:List Nat) (iv:Value) (c:Cm):Prop:=∀ w',Only K w w' → SlAt w' w'.heap.size iv 3 c.its.length (itL c.its)
theorem ItK.only {w w':World} {K:List Nat} {iv:Value} {c:Cm} (h:ItK w K iv c) (ho:Only K w w'):ItK w' K iv c:=fun w2 ho2 => h w2 (ho.tr ho2)
theorem ag_ingest (p:Nat) (K:List Nat) (a:AgS) (n:Nat) (hn:n ≤ 1000000000) (c:Cm) (iv:Value) (w:World) (h:AgAt w p K a) (hI:AgI n a) (hfd:c.fd.length ≤ maxLen) (hil:c.its.length ≤ 1000000) (hit:∀ x ∈ c.its,x.Len) (hsl:ItK w K iv c):
 Calls Tryz.prog 62 #[.pointer (some ⟨p,0,none⟩),c.val iv] w fun e w' => ReO w w' p K (ingA a c).1 (ingA a c).2 e:=by
 obtain ⟨tb,tv,lb,sb,O,B,hX,rfl⟩:=h
 have hkk:=(ingA_step hI c hil).2
 have hll:=hI.d.up.len
 obtain ⟨IA,im,ic,rfl⟩:∃ IA im ic,iv = .slice IA im ic:=by
  obtain ⟨A,cc,e⟩:=(hsl w oz).shape
  exact ⟨A,_,cc,e⟩
 unfold Cm.val
 have CK0:=Hd (fun w' hc => L16.lease_check lb a.d c.sh c.nd c.ep w' hc hll)
 have CS0:=Hd (fun w' => shard_of c.fd w' (by unfold maxLen at hfd;omega))
 have CF0:=Hd (fun w' hs => st_fail sb O a.s c.fd hfd a.d.now w' hs)
 have CI0:=Hd (fun w' hs hv => st_ingest sb O a.s c.fd hfd (.slice IA im ic) c.its a.d.now w' hs hv hil hit)
 have HSL:=Hd hsl
 have HRK:=Hd hkk
 have hA1:a.d.check c.sh c.nd c.ep ≠ 0 ∨ (shardL c.fd:Int) ≠ c.sh → ingA a c = (errR 15,a):=fun h => by unfold ingA;rw [if_pos h]
 have hA2:¬ (a.d.check c.sh c.nd c.ep ≠ 0 ∨ (shardL c.fd:Int) ≠ c.sh) → c.fl = true → ingA a c = (errR (failS a.s c.fd a.d.now).1,⟨a.t,a.d,(failS a.s c.fd a.d.now).2⟩):=fun h h2 => by unfold ingA;rw [if_neg h,if_pos h2]
 have hA3:¬ (a.d.check c.sh c.nd c.ep ≠ 0 ∨ (shardL c.fd:Int) ≠ c.sh) → c.fl = false → ingA a c = (⟨(ingR a.s c.fd c.its a.d.now).2.1,(ingR a.s c.fd c.its a.d.now).1,[]⟩,⟨a.t,a.d,(ingR a.s c.fd c.its a.d.now).2.2⟩):=fun h h2 => by unfold ingA;rw [if_neg h,if_neg (by simp [h2])]
 obtain ⟨chk,hchk⟩:∃ x,a.d.check c.sh c.nd c.ep = x:=⟨_,rfl⟩
 obtain ⟨sv,hsv⟩:∃ x:Nat,shardL c.fd = x:=⟨_,rfl⟩
 obtain ⟨f,hf⟩:∃ f,failS a.s c.fd a.d.now = f:=⟨_,rfl⟩
 obtain ⟨g,hg⟩:∃ g,ingR a.s c.fd c.its a.d.now = g:=⟨_,rfl⟩
 rw [hchk] at CK0 hA1 hA2 hA3
 rw [hsv] at CS0 hA1 hA2 hA3
 rw [hf] at CF0 hA2
 rw [hg] at CI0 hA3
 have HA1:Hid ((chk != 0 || (sv:Int) != c.sh) = true → ingA a c = (errR 15,a)):=Hd (fun h => hA1 (by simpa using h))
 have HA2:Hid ((chk != 0 || (sv:Int) != c.sh) = false → c.fl = true → ingA a c = (errR f.1,⟨a.t,a.d,f.2⟩)):=Hd (fun h => hA2 (by simpa using h))
 have HA3:Hid ((chk != 0 || (sv:Int) != c.sh) = false → c.fl = false → ingA a c = (⟨g.2.1,g.1,[]⟩,⟨a.t,a.d,g.2.2⟩)):=Hd (fun h => hA3 (by simpa using h))
 have HI:=Hd hI
 clear hchk hsv hf hg hA1 hA2 hA3 hkk hsl hI hll
 go_enter Tryz.func62,Tryz.ntmps62
 go_upto_region 1 with fail
 obtain ⟨w1,hw1⟩:∃ u,w.alloc (.cells #[.int .i64 c.kd,.int .i64 c.ss,.int .i64 c.sq,.int .i64 c.sh,.int .i64 c.nd,.int .i64 c.ep,.int .i64 c.n,.string ⟨c.fd.toArray⟩,.string ⟨c.id.toArray⟩,.slice IA im ic,.bool c.fl] 38) = u:=⟨_,rfl⟩
 have hR:w.heap.size + 1 = w1.heap.size:=by rw [← hw1,World.size_alloc]
 obtain ⟨z,hz⟩:∃ z,w.heap.size = z:=⟨_,rfl⟩
 have hcz:Cells w1 z 38 (c.cells (.slice IA im ic)):=hw1 ▸ hz ▸ Cells.new w _ _
 rw [hw1,hR,hz]
 obtain ⟨w2,hw2⟩:∃ u,w1.alloc (.cells #[.int .i64 0,.int .i64 0,.slice none 0 0] 34) = u:=⟨_,rfl⟩
 obtain ⟨R,hRR⟩:∃ R,w1.heap.size = R:=⟨_,rfl⟩
 have o12:Only [] w1 w2:=hw2 ▸ oz.alloc _
 have o2:Only [] w w2:=Only.tr0 (hw1 ▸ oz.alloc _) o12
 have hcR:Cells w2 R 34 [.int .i64 0,.int .i64 0,.slice none 0 0]:=hw2 ▸ hRR ▸ Cells.new w1 _ _
 rw [hw2,hRR]
 have hwR:w.heap.size ≤ R:=by omega
 have hX2:=hX.keep o2 (by simp)
 have hcz2:=hcz.only o12 (by simp)
 have HCZ:=Hd hcz2
 obtain ⟨c0,c1,c2,c3,c4,c5,c6,c7,c8,c9,c10⟩:=cm_cells hcz2
 have p1:=hX2.cells.cell (k:=1) rfl
 have hpl:=hX2.cells.lt
 have HX:=Hd hX
 have HX2:=Hd hX2
 have HO2:=Hd o2
 have HR:=Hd hcR
 have CK:=Hd (fun v:Since w2 => CK0.out v.w (HX2.out.d.only v.2 (by simp)))
 have CS:Hid (∀ v:Since w2,Calls Tryz.prog 129 #[.string ⟨c.fd.toArray⟩] v.w fun e w' => e = .returned (.int .i64 sv) ∧ Only [] v.w w'):=Hd (fun v => (CS0.out v.w).mono fun e w' ⟨h1,h2⟩ => ⟨h1,h2 ▸ Only.refl _ _⟩)
 have v1:=fun u:Since w2 => u.cell p1
 have u3:=fun u:Since w2 => u.cell c3
 have u4:=fun u:Since w2 => u.cell c4
 have u5:=fun u:Since w2 => u.cell c5
 have u7:=fun u:Since w2 => u.cell c7
 clear hw1 hw2 hR hRR o2 o12 hcR hX hX2 hcz hcz2 CK0 CS0 c0 c1 c2 c3 c4 c5 c6 c7 c8 c9 c10 p1 hit
 go_cut [7] from 8 (fun x wx => x = .bool (chk != 0 || (sv:Int) != c.sh) ∧ Hid (Only [] w2 wx))
 case first =>
  cases h1:(chk != 0) with
  | true =>
   refine wp_region_only w2 oz (by kernel_rfl) (by kernel_rfl) ?_
   repeat (go_big_quiet_step (first | (go_at_call 128;refine Calls.only (CK.out _)) | (go_at_call 129;refine Calls.only (CS.out _))))
   refine wpQuiet_nil ?_
   rintro ⟨w3,ho3⟩
   dsimp only
   have HO3:=Hd ho3
   go_wp2_with fail
   go_meet
   exact ⟨by simp [h1],HO3⟩
  | false =>
   refine wp_region_only w2 oz (by kernel_rfl) (by kernel_rfl) ?_
   repeat (go_big_quiet_step (first | (go_at_call 128;refine Calls.only (CK.out _)) | (go_at_call 129;refine Calls.only (CS.out _))))
   refine wpQuiet_nil ?_
   rintro ⟨w3,ho3⟩
   dsimp only
   have HO3:=Hd ho3
   go_wp2_with fail
   go_meet
   exact ⟨by simp [h1],HO3⟩
 case rest =>
 obtain ⟨rfl,HWX⟩:=hcut
 obtain ⟨wa,hwa⟩:∃ u,u = wc:=⟨wc,rfl⟩
 subst hwa
 have HXC:=Hd (HX2.out.keep HWX.out (by simp))
 have HOC:=Hd (HO2.out.tr HWX.out)
 have HRC:=Hd (HR.out.only HWX.out (by simp))
 have HCZC:=Hd (HCZ.out.only HWX.out (by simp))
 have hRn:Hid (R ∉ allA p tb tv lb O):=Hd (fun hm => by have:=HX.out.lts R hm;omega)
 clear HX2 HO2 HR HCZ CK CS v1 u3 u4 u5 u7 HWX
 cases hbad:(chk != 0 || (sv:Int) != c.sh) with
 | true =>
  have HE:=Hd (HA1.out hbad)
  have oR:∀ row,Only [R] wa (wa.setRow R row):=fun row => oz.setRow (.inl (by simp)) _
  have HFIN:Hid (∀ row,ReO w (wa.setRow R row) p (allA p tb tv lb O) (ingA a c).1 (ingA a c).2 (.returned (.agg #[.int .i64 15,.int .i64 0,.slice none 0 0]))):=Hd (fun row => by
   rw [HE.out]
   exact ReO.nil rfl (wide_lt (by omega) (by omega)) (wide_lt (by omega) (by omega)) ⟨tb,tv,lb,sb,O,B,HXC.out.keep (oR row) (fun k hk hm => by simp at hm;subst hm;exact hRn.out hk),rfl⟩ (HOC.out.of0.trans (oR row) (fun x hx => by simp at hx;subst hx;exact .inr hwR)) (fun x hx => .inl hx))
  have HRF:=Hd HRC.out
  have hst:=HRF.out
  have hone:(#[.int .i64 15,.int .i64 0,.slice none 0 0]:Array Value).all (·.oneCell') = true:=by simp [Value.oneCell']
  clear oR hbad
  go_wp2_with (refine wpList_store_row rfl 34 _ _ rfl R #[.int .i64 15,.int .i64 0,.slice none 0 0] rfl rfl 34 _ hst (by kernel_rfl) rfl hone ?_)
  (try simp only [Exit.inBlock,Exit.then])
  refine bodyPost_ret (v:=.agg #[.int .i64 15,.int .i64 0,.slice none 0 0]) ?_ rfl (HFIN.out _)
  exact results_row Tryz.results62 _ _ R 34 [.int .i64 15,.int .i64 0,.slice none 0 0] _ rfl (Cells.setRow HRF.out [.int .i64 15,.int .i64 0,.slice none 0 0]) Tryz.underlying34 rfl (by kernel_rfl)
 | false =>
  obtain ⟨c0,c1,c2,c3,c4,c5,c6,c7,c8,c9,c10⟩:=cm_cells HCZC.out
  have p2:=HXC.out.cells.cell (k:=2) rfl
  have CN:=Hd (fun v:Since wa => ag_now p _ a v.w ⟨tb,tv,lb,sb,O,B,HXC.out.keep v.2 (by simp),rfl⟩)
  have CND:=Hd (ag_now p _ a wa.drew ⟨tb,tv,lb,sb,O,B,HXC.out.keep ((Only.refl [] wa).drew) (by simp),rfl⟩)
  have v2:=fun u:Since wa => u.cell p2
  have u7:=fun u:Since wa => u.cell c7
  have u9:=fun u:Since wa => u.cell c9
  clear c0 c1 c2 c3 c4 c5 c6 c8
  cases hfl:c.fl with
  | true =>
   have HE:=Hd (HA2.out hbad hfl)
   rw [hfl] at c10
   clear hbad hfl c7 c9 p2
   go_wp2_with fail
   refine wp_region_only_tail wa oz 8 (by kernel_rfl) (by kernel_rfl) ?_
   simp only [tk1,tk0,dr1,dr0]
   repeat (go_big_quiet_step ((go_at_call 21;refine Calls.only_same (CN.out _))))
   refine wpQuiet_nil ?_
   rintro ⟨w3,ho3⟩
   dsimp only
   have HX4:=Hd (HXC.out.keep ho3 (by simp))
   have HO4:=Hd (HOC.out.tr ho3)
   have HR4:=Hd (HRC.out.only ho3 (by simp))
   have C:=Hd (CF0.out w3 HX4.out.s)
   have hst0:=HR4.out
   clear ho3 v2 u7 u9 CN HXC HOC HRC c10 HCZC
   go_wp2_with fail
   refine C.out.mono ?_
   rintro e w4 ⟨rfl,O',hs,ho,hn4⟩
   obtain ⟨hX4,hO4,hN4⟩:=HX4.out.sdo hs ho hn4
   have hR4:=HR4.out.only hO4 (by simpa using hRn.out)
   have hRn':R ∉ allA p tb tv lb O':=fun hm => by
    rcases hN4 R hm with e | e
    · exact hRn.out e
    · have:=HR4.out.lt;omega
   have oR:∀ row,Only [R] w4 (w4.setRow R row):=fun row => oz.setRow (.inl (by simp)) _
   have HFIN:Hid (∀ row,ReO w (w4.setRow R row) p (allA p tb tv lb O) (ingA a c).1 (ingA a c).2 (.returned (.agg #[.int .i64 f.1,.int .i64 0,.slice none 0 0]))):=Hd (fun row => by
    have hk:=HRK.out
    rw [HE.out] at hk ⊢
    have hk2:=hk.er
    exact ReO.nil rfl (wide_lt hk.er.1 (Int.le_trans hk.er.2 (by omega))) hk.n ⟨tb,tv,lb,sb,O',B,hX4.keep (oR row) (fun k hk hm => by simp at hm;subst hm;exact hRn' hk),rfl⟩ (((HO4.out.of0).trans hO4 (fun x hx => .inl hx)).trans (oR row) (fun x hx => by simp at hx;subst hx;exact .inr hwR)) (fun x hx => (hN4 x hx).imp id (fun h => Nat.le_trans HO4.out.size h)))
   have HRF:=Hd hR4
   have hst:=HRF.out
   have hone:(#[.int .i64 f.1,.int .i64 0,.slice none 0 0]:Array Value).all (·.oneCell') = true:=by simp [Value.oneCell']
   clear hs ho hn4 hX4 hO4 hN4 hRn' oR hR4 C
   clear hst0
   go_wp2_with (refine wpList_store_row rfl 34 _ _ rfl R #[.int .i64 f.1,.int .i64 0,.slice none 0 0] rfl rfl 34 _ hst (by kernel_rfl) rfl hone ?_)
   (try simp only [Exit.inBlock,Exit.then])
   refine bodyPost_ret (v:=.agg #[.int .i64 f.1,.int .i64 0,.slice none 0 0]) ?_ rfl (HFIN.out _)
   exact results_row Tryz.results62 _ _ R 34 [.int .i64 f.1,.int .i64 0,.slice none 0 0] _ rfl (Cells.setRow HRF.out [.int .i64 f.1,.int .i64 0,.slice none 0 0]) Tryz.underlying34 rfl (by kernel_rfl)
  | false =>
   have HE:=Hd (HA3.out hbad hfl)
   rw [hfl] at c10
   clear hbad hfl
   go_wp2_with fail
   have C:=Hd (CI0.out wa.drew (HXC.out.s.keep ((Only.refl [] wa).drew) (by simp)) (fun w' ho' => HSL.out w' (((HOC.out.of0).drew).trans (ho'.mono (fun x hx => .inl (by simp [allA,hx]))) (fun x hx => .inl hx))))
   have hst0:=HRC.out
   clear c10 HCZC CN v2 u7 u9
   go_cut [5,6] from 42 (fun x5 x6 wx => x5 = .int .i64 g.1 ∧ x6 = .int .i64 g.2.1 ∧ Hid (OpS wa wx sb O g.2.2))
   case first =>
    go_region_law (first | (go_simp;go_at_call 21;go_loud (refine CND.out.mono ?_;rintro e w4 ⟨rfl,rfl⟩)) | (go_simp;go_at_call 131;go_loud (refine C.out.mono ?_;rintro e w4 ⟨rfl,hop4⟩;have HWX:Hid (OpS wa w4 sb O g.2.2):=Hd (by obtain ⟨O',h1,h2,h3⟩:=hop4;exact ⟨O',h1,(((Only.refl O wa).drew).tr h2),h3⟩);clear hop4)))
    all_goals
     go_wp2_with fail
     go_meet
     exact ⟨rfl,rfl,HWX⟩
   case rest =>
   obtain ⟨rfl,rfl,HWY⟩:=hcut
   obtain ⟨O',hs,ho,hn4⟩:=HWY.out
   obtain ⟨hX4,hO4,hN4⟩:=HXC.out.sdo hs ho hn4
   have hR4:=HRC.out.only hO4 (by simpa using hRn.out)
   have hRn':R ∉ allA p tb tv lb O':=fun hm => by
    rcases hN4 R hm with e | e
    · exact hRn.out e
    · have:=HRC.out.lt;omega
   have oR:∀ row,Only [R] wc (wc.setRow R row):=fun row => oz.setRow (.inl (by simp)) _
   have HFIN:Hid (∀ row,ReO w (wc.setRow R row) p (allA p tb tv lb O) (ingA a c).1 (ingA a c).2 (.returned (.agg #[.int .i64 g.2.1,.int .i64 g.1,.slice none 0 0]))):=Hd (fun row => by
    have hk:=HRK.out
    rw [HE.out] at hk ⊢
    have hk2:=hk.er
    exact ReO.nil rfl (wide_lt hk.er.1 (Int.le_trans hk.er.2 (by omega))) hk.n ⟨tb,tv,lb,sb,O',B,hX4.keep (oR row) (fun k hk hm => by simp at hm;subst hm;exact hRn' hk),rfl⟩ (((HOC.out.of0).trans hO4 (fun x hx => .inl hx)).trans (oR row) (fun x hx => by simp at hx;subst hx;exact .inr hwR)) (fun x hx => (hN4 x hx).imp id (fun h => Nat.le_trans HOC.out.size h)))
   have HRF:=Hd hR4
   have hst:=HRF.out
   have hone:(#[.int .i64 g.2.1,.int .i64 g.1,.slice none 0 0]:Array Value).all (·.oneCell') = true:=by simp [Value.oneCell']
   clear hs ho hn4 hX4 hO4 hN4 hRn' oR hR4 C HWY CND hst0
   go_wp2_with (refine wpList_store_row rfl 34 _ _ rfl R #[.int .i64 g.2.1,.int .i64 g.1,.slice none 0 0] rfl rfl 34 _ hst (by kernel_rfl) rfl hone ?_)
   (try simp only [Exit.inBlock,Exit.then])
   refine bodyPost_ret (v:=.agg #[.int .i64 g.2.1,.int .i64 g.1,.slice none 0 0]) ?_ rfl (HFIN.out _)
   exact results_row Tryz.results62 _ _ R 34 [.int .i64 g.2.1,.int .i64 g.1,.slice none 0 0] _ rfl (Cells.setRow HRF.out [.int .i64 g.2.1,.int .i64 g.1,.slice none 0 0]) Tryz.underlying34 rfl (by kernel_rfl)
theorem SlAt.past {S:List Nat} {w w':World} {B sz n:Nat} {v:Value} {xs:List Value} (h:SlAt w B v sz n xs) (ho:Only S w w') (hB:B ≤ w.heap.size) (hS:∀ g,v.ownBlock = some g → g ∉ S):SlAt w' B v sz n xs:=by
 obtain ⟨hl,A,c,rfl,hnc,hc,h⟩:=h
 refine ⟨hl,A,c,rfl,hnc,hc,fun hn => ?_⟩
 obtain ⟨b,o,rfl,hb,hh⟩:=h hn
 exact ⟨b,o,rfl,hb,fun j u hu => (ho.cell (p:=⟨b,o + j,none⟩) (show b < _ by omega) (fun hm => hS b rfl hm)).trans (hh j u hu)⟩
theorem RpAt.past {S:List Nat} {w w':World} {pv:Value} {r:Rp} (h:RpAt w pv r) (ho:Only S w w') (hS:∀ g,pv.ownBlock = some g → g ∉ S):RpAt w' pv r:=⟨(h.ps.past ho (Nat.le_refl _) hS).more ho.size,h.er,h.n,h.sm,h.len⟩
def clA (a:AgS) (c:Cm):Rp × AgS:=
 if (S15.askS a.t.l c.ss c.sq).1 = 3 then (errR 17,a)
 else if (S15.askS a.t.l c.ss c.sq).1 = 2 then (errR 18,a)
 else if (S15.askS a.t.l c.ss c.sq).1 = 1 then (keptR (S15.askS a.t.l c.ss c.sq).2,a)
 else ((cliA a.s c).1,⟨⟨S15.doneL a.t.l c.ss c.sq ⟨(rpb (cliA a.s c).1).toArray⟩,a.t.ever⟩,a.d,(cliA a.s c).2⟩)
theorem doA_cl {a:AgS} {c:Cm} (hr:rightB c = true) (hc:clB c.kd = true):doA a c = clA a c:=by
 unfold doA clA
 rw [if_neg (by simp [hr]),if_neg (by simp [hc])]
theorem ag_one (p:Nat) (K:List Nat) (a:AgS) (n:Nat) (c:Cm) (iv:Value) (hI:AgI n a) (hfd:c.fd.length ≤ maxLen) (hid:c.id.length ≤ maxLen):
 (c.kd = 2 → ∀ w,AgAt w p K a → Calls Tryz.prog 124 #[.pointer (some ⟨p,0,none⟩),c.val iv] w fun e w' => ReO w w' p K (cliA a.s c).1 ⟨a.t,a.d,(cliA a.s c).2⟩ e) ∧
 (c.kd = 3 → ∀ w,AgAt w p K a → Calls Tryz.prog 125 #[.pointer (some ⟨p,0,none⟩),c.val iv] w fun e w' => ReO w w' p K (cliA a.s c).1 ⟨a.t,a.d,(cliA a.s c).2⟩ e) ∧
 (c.kd = 4 → ∀ w,AgAt w p K a → Calls Tryz.prog 126 #[.pointer (some ⟨p,0,none⟩),c.val iv] w fun e w' => ReO w w' p K (cliA a.s c).1 ⟨a.t,a.d,(cliA a.s c).2⟩ e) ∧
 (c.kd ≠ 2 → c.kd ≠ 3 → c.kd ≠ 4 → ∀ w,AgAt w p K a → Calls Tryz.prog 123 #[.pointer (some ⟨p,0,none⟩),c.val iv] w fun e w' => ReO w w' p K (cliA a.s c).1 ⟨a.t,a.d,(cliA a.s c).2⟩ e):=by
 unfold cliA
 refine ⟨fun h w hA => ?_,fun h w hA => ?_,fun h w hA => ?_,fun h2 h3 h4 w hA => ?_⟩
 · rw [if_pos h];exact ag_subscribe p K a c iv w hA hfd hid
 · rw [if_neg (by omega),if_pos h];exact ag_unsubscribe p K a c iv w hA hfd hid
 · rw [if_neg (by omega),if_neg (by omega),if_pos h];exact ag_mark p K a c iv w hA hfd hid
 · rw [if_neg h2,if_neg h3,if_neg h4];exact ag_list p K a n c iv w hA hI hfd
theorem kept_read {r:Rp} (h:RpK r) (w:World):Calls Tryz.prog 122 #[.string ⟨(rpb r).toArray⟩] w fun e w' => ∃ pv,e = .returned (.tuple #[r.val pv,.int .i64 0]) ∧ RpAt w' pv r ∧ Only [] w w' ∧ ∀ g,pv.ownBlock = some g → w.heap.size ≤ g:=by
 refine (cmd_toAnswer (rpb r) w (by have:=h.le;omega)).mono ?_
 rintro e w' ⟨pv,he,hp,ho,hn⟩
 have hu:unA (rpb r) = some r:=(unA_iff _ (by have:=h.le;omega) r).2 ⟨h.ok,rfl⟩
 rw [hu] at he hp
 exact ⟨pv,he,hp,ho,hn⟩
theorem ag_client (p:Nat) (K:List Nat) (a:AgS) (n:Nat) (c:Cm) (iv:Value) (w:World) (h:AgAt w p K a) (hI:AgI n a) (hfd:c.fd.length ≤ maxLen) (hid:c.id.length ≤ maxLen):
 Calls Tryz.prog 61 #[.pointer (some ⟨p,0,none⟩),c.val iv] w fun e w' => ReO w w' p K (clA a c).1 (clA a c).2 e:=by
 have hONE:=ag_one p K a n c iv hI hfd hid
 obtain ⟨tb,tv,lb,sb,O,B,hX,rfl⟩:=h
 have hkind:=S15.ask_kind a.t.l c.ss c.sq
 have hlen:=hI.ok.len
 have CA0:=Hd (fun w' ht => S15.tbs_ask B tb a.t.l a.t.ever c.ss c.sq w' ht (by omega))
 have hk1:(S15.askS a.t.l c.ss c.sq).1 = 1 → ∃ r,RpK r ∧ (S15.askS a.t.l c.ss c.sq).2 = ⟨(rpb r).toArray⟩:=fun h1 => by
  obtain ⟨x,hx,hs,h2,e⟩:=ask_one h1
  obtain ⟨r,hr,er⟩:=hI.kept x hx (by omega)
  exact ⟨r,hr,e.trans er⟩
 have HK1:=Hd hk1
 have hRK:=cliA_k hI.si c
 unfold S15.askV at CA0
 have hE3:(S15.askS a.t.l c.ss c.sq).1 = 3 → clA a c = (errR 17,a):=fun h => by unfold clA;rw [if_pos h]
 have hE2:(S15.askS a.t.l c.ss c.sq).1 = 2 → clA a c = (errR 18,a):=fun h => by unfold clA;rw [h];rfl
 have hE1:(S15.askS a.t.l c.ss c.sq).1 = 1 → clA a c = (keptR (S15.askS a.t.l c.ss c.sq).2,a):=fun h => by unfold clA;rw [h];rfl
 have hE0:(S15.askS a.t.l c.ss c.sq).1 = 0 → clA a c = ((cliA a.s c).1,⟨⟨S15.doneL a.t.l c.ss c.sq ⟨(rpb (cliA a.s c).1).toArray⟩,a.t.ever⟩,a.d,(cliA a.s c).2⟩):=fun h => by unfold clA;rw [h];rfl
 obtain ⟨qq,hq⟩:∃ q,S15.askS a.t.l c.ss c.sq = q:=⟨_,rfl⟩
 rw [hq] at CA0 hkind HK1 hE3 hE2 hE1 hE0
 clear hq hk1
 obtain ⟨q,kb⟩:=qq
 dsimp only at CA0 hkind HK1 hE3 hE2 hE1 hE0
 have HLEN:=Hd hlen
 have HONE:=Hd hONE
 have HRK:=Hd hRK
 have HE3:=Hd hE3
 have HE2:=Hd hE2
 have HE1:=Hd hE1
 have HE0:=Hd hE0
 unfold Cm.val at HONE ⊢
 clear hI hONE hRK hlen hE3 hE2 hE1 hE0
 go_enter Tryz.func61,Tryz.ntmps61
 go_upto_region 1 with fail
 obtain ⟨w1,hw1⟩:∃ u,w.alloc (.cells #[.int .i64 c.kd,.int .i64 c.ss,.int .i64 c.sq,.int .i64 c.sh,.int .i64 c.nd,.int .i64 c.ep,.int .i64 c.n,.string ⟨c.fd.toArray⟩,.string ⟨c.id.toArray⟩,iv,.bool c.fl] 38) = u:=⟨_,rfl⟩
 have hR:w.heap.size + 1 = w1.heap.size:=by rw [← hw1,World.size_alloc]
 obtain ⟨z,hz⟩:∃ z,w.heap.size = z:=⟨_,rfl⟩
 have hcz:Cells w1 z 38 (c.cells iv):=hw1 ▸ hz ▸ Cells.new w _ _
 rw [hw1,hR,hz]
 obtain ⟨w2,hw2⟩:∃ u,w1.alloc (.cells #[.int .i64 0,.int .i64 0,.slice none 0 0] 34) = u:=⟨_,rfl⟩
 obtain ⟨R,hRR⟩:∃ R,w1.heap.size = R:=⟨_,rfl⟩
 have o12:Only [] w1 w2:=hw2 ▸ oz.alloc _
 have o2:Only [] w w2:=Only.tr0 (hw1 ▸ oz.alloc _) o12
 have hcR:Cells w2 R 34 [.int .i64 0,.int .i64 0,.slice none 0 0]:=hw2 ▸ hRR ▸ Cells.new w1 _ _
 rw [hw2,hRR]
 have hwR:w.heap.size ≤ R:=by omega
 have hwz:w.heap.size ≤ z:=by omega
 have hX2:=hX.keep o2 (by simp)
 have hcz2:=hcz.only o12 (by simp)
 have HCZ:=Hd hcz2
 have hpl:=hX2.cells.lt
 have HX:=Hd hX
 have HX2:=Hd hX2
 have HO2:=Hd o2
 have HR:=Hd hcR
 have hRn:Hid (R ∉ allA p tb tv lb O):=Hd (fun hm => by have:=HX.out.lts R hm;omega)
 have hzn:Hid (z ∉ allA p tb tv lb O):=Hd (fun hm => by have:=HX.out.lts z hm;omega)
 have CA:=Hd (fun v:Since w2 => CA0.out v.w (HX2.out.keep v.2 (by simp)).t.s)
 obtain ⟨c0,c1,c2,c3,c4,c5,c6,c7,c8,c9,c10⟩:=cm_cells hcz2
 have p1:=hX2.cells.cell (k:=0) rfl
 have v1:=fun u:Since w2 => u.cell p1
 have u1:=fun u:Since w2 => u.cell c1
 have u2:=fun u:Since w2 => u.cell c2
 clear hw1 hw2 hR hRR hz o2 o12 hcR hX hX2 hcz hcz2 CA0 c0 c1 c2 c3 c4 c5 c6 c7 c8 c9 c10 p1
 refine wp_region_only w2 oz (by kernel_rfl) (by kernel_rfl) ?_
 repeat (go_big_quiet_step ((go_at_call 121;refine Calls.only (CA.out _))))
 refine wpQuiet_nil ?_
 rintro ⟨w3,ho3⟩
 dsimp only
 have HX3:=Hd (HX2.out.keep ho3 (by simp))
 have HO3:=Hd (HO2.out.tr ho3)
 have HR3:=Hd (HR.out.only ho3 (by simp))
 have HCZ3:=Hd (HCZ.out.only ho3 (by simp))
 clear ho3 v1 u1 u2 CA HX2 HO2 HR HCZ
 have hq4:q = 3 ∨ q = 2 ∨ q = 1 ∨ q = 0:=by omega
 clear hkind
 rcases hq4 with rfl | rfl | rfl | rfl
 · have HE:=Hd (HE3.out rfl)
   clear HCZ3 hzn
   have oR:∀ row,Only [R] w3 (w3.setRow R row):=fun row => oz.setRow (.inl (by simp)) _
   have HFIN:Hid (∀ row,ReO w (w3.setRow R row) p (allA p tb tv lb O) (clA a c).1 (clA a c).2 (.returned (.agg #[.int .i64 17,.int .i64 0,.slice none 0 0]))):=Hd (fun row => HE.out ▸ ReO.nil rfl (wide_lt (by omega) (by omega)) (wide_lt (by omega) (by omega)) ⟨tb,tv,lb,sb,O,B,HX3.out.keep (oR row) (fun k hk hm => by simp at hm;subst hm;exact hRn.out hk),rfl⟩ (HO3.out.of0.trans (oR row) (fun x hx => by simp at hx;subst hx;exact .inr hwR)) (fun x hx => .inl hx))
   have HRF:=Hd HR3.out
   have hst:=HRF.out
   have hone:(#[.int .i64 17,.int .i64 0,.slice none 0 0]:Array Value).all (·.oneCell') = true:=by simp [Value.oneCell']
   clear oR HK1
   go_wp2_with (refine wpList_store_row rfl 34 _ _ rfl R #[.int .i64 17,.int .i64 0,.slice none 0 0] rfl rfl 34 _ hst (by kernel_rfl) rfl hone ?_)
   (try simp only [Exit.inBlock,Exit.then])
   refine bodyPost_ret (v:=.agg #[.int .i64 17,.int .i64 0,.slice none 0 0]) ?_ rfl (HFIN.out _)
   exact results_row Tryz.results61 _ _ R 34 [.int .i64 17,.int .i64 0,.slice none 0 0] _ rfl (Cells.setRow HRF.out [.int .i64 17,.int .i64 0,.slice none 0 0]) Tryz.underlying34 rfl (by kernel_rfl)
 · have HE:=Hd (HE2.out rfl)
   clear HCZ3 hzn
   have oR:∀ row,Only [R] w3 (w3.setRow R row):=fun row => oz.setRow (.inl (by simp)) _
   have HFIN:Hid (∀ row,ReO w (w3.setRow R row) p (allA p tb tv lb O) (clA a c).1 (clA a c).2 (.returned (.agg #[.int .i64 18,.int .i64 0,.slice none 0 0]))):=Hd (fun row => HE.out ▸ ReO.nil rfl (wide_lt (by omega) (by omega)) (wide_lt (by omega) (by omega)) ⟨tb,tv,lb,sb,O,B,HX3.out.keep (oR row) (fun k hk hm => by simp at hm;subst hm;exact hRn.out hk),rfl⟩ (HO3.out.of0.trans (oR row) (fun x hx => by simp at hx;subst hx;exact .inr hwR)) (fun x hx => .inl hx))
   have HRF:=Hd HR3.out
   have hst:=HRF.out
   have hone:(#[.int .i64 18,.int .i64 0,.slice none 0 0]:Array Value).all (·.oneCell') = true:=by simp [Value.oneCell']
   clear oR HK1
   go_wp2_with (refine wpList_store_row rfl 34 _ _ rfl R #[.int .i64 18,.int .i64 0,.slice none 0 0] rfl rfl 34 _ hst (by kernel_rfl) rfl hone ?_)
   (try simp only [Exit.inBlock,Exit.then])
   refine bodyPost_ret (v:=.agg #[.int .i64 18,.int .i64 0,.slice none 0 0]) ?_ rfl (HFIN.out _)
   exact results_row Tryz.results61 _ _ R 34 [.int .i64 18,.int .i64 0,.slice none 0 0] _ rfl (Cells.setRow HRF.out [.int .i64 18,.int .i64 0,.slice none 0 0]) Tryz.underlying34 rfl (by kernel_rfl)
 · have hE:=HE1.out rfl
   obtain ⟨r,hr,rfl⟩:=HK1.out rfl
   rw [keptR_of hr] at hE
   have HE:=Hd hE
   clear hE
   have CT:=Hd (kept_read hr w3)
   unfold Rp.val at CT
   clear HK1 hr HCZ3 hzn
   go_wp2_with fail
   refine CT.out.mono ?_
   rintro e w4 ⟨pv,rfl,hp4,ho4,hn4⟩
   obtain ⟨PA,pc,rfl⟩:=hp4.ps.shape
   obtain ⟨w5,hw5⟩:∃ u,w4.alloc (.cells #[.int .i64 0,.int .i64 0,.slice none 0 0] 34) = u:=⟨_,rfl⟩
   have hst5:Cells (w4.alloc (.cells #[.int .i64 0,.int .i64 0,.slice none 0 0] 34)) w4.heap.size 34 [.int .i64 0,.int .i64 0,.slice none 0 0]:=Cells.new w4 _ _
   have o45:Only [] w4 (w4.alloc (.cells #[.int .i64 0,.int .i64 0,.slice none 0 0] 34)):=oz.alloc _
   have hR4:=HR3.out.only ho4 (by simp)
   have hRQ:R ≠ w4.heap.size:=fun e => by have:=hR4.lt;omega
   have hR3s:=HR3.out.lt
   rw [hw5] at hst5 o45
   have o46:Only [] w4 (w5.setRow w4.heap.size #[.int .i64 r.er,.int .i64 r.n,.slice PA r.ps.length pc]):=o45.trans ((Only.refl [w4.heap.size] _).setRow (.inl (by simp)) _) (fun x hx => by simp at hx;subst hx;exact .inr (Nat.le_refl _))
   have hld6:Cells (w5.setRow w4.heap.size #[.int .i64 r.er,.int .i64 r.n,.slice PA r.ps.length pc]) w4.heap.size 34 [.int .i64 r.er,.int .i64 r.n,.slice PA r.ps.length pc]:=hst5.setRow [.int .i64 r.er,.int .i64 r.n,.slice PA r.ps.length pc]
   have hst6:Cells (w5.setRow w4.heap.size #[.int .i64 r.er,.int .i64 r.n,.slice PA r.ps.length pc]) R 34 [.int .i64 0,.int .i64 0,.slice none 0 0]:=hR4.only o46 (by simp)
   have hp6:RpAt (w5.setRow w4.heap.size #[.int .i64 r.er,.int .i64 r.n,.slice PA r.ps.length pc]) (.slice PA r.ps.length pc) r:=hp4.only o46
   have hX6:=HX3.out.keep (ho4.tr o46) (by simp)
   have hO6:=HO3.out.tr (ho4.tr o46)
   obtain ⟨w6,hw6⟩:∃ u,w5.setRow w4.heap.size #[.int .i64 r.er,.int .i64 r.n,.slice PA r.ps.length pc] = u:=⟨_,rfl⟩
   rw [hw6] at hld6 hst6 hp6 hX6 hO6
   have oR:∀ row,Only [R] w6 (w6.setRow R row):=fun row => oz.setRow (.inl (by simp)) _
   have hgR:∀ g,(Value.slice PA r.ps.length pc).ownBlock = some g → w.heap.size ≤ g ∧ w3.heap.size ≤ g:=fun g hg => ⟨by have:=hn4 g hg;have:=HO3.out.size;omega,hn4 g hg⟩
   have HFIN:Hid (∀ row,ReO w (w6.setRow R row) p (allA p tb tv lb O) (clA a c).1 (clA a c).2 (.returned (.agg #[.int .i64 r.er,.int .i64 r.n,.slice PA r.ps.length pc]))):=Hd (fun row => HE.out ▸ ⟨.slice PA r.ps.length pc,_,rfl,hp6.past (oR row) (fun g hg hm => by simp at hm;subst hm;have:=(hgR _ hg).2;omega),fun _ g hg => ⟨(hgR g hg).1,fun hm => by have:=(hgR g hg).2;have:=HX3.out.lts g hm;omega⟩,⟨tb,tv,lb,sb,O,B,hX6.keep (oR row) (fun k hk hm => by simp at hm;subst hm;exact hRn.out hk),rfl⟩,hO6.of0.trans (oR row) (fun x hx => by simp at hx;subst hx;exact .inr hwR),fun x hx => .inl hx⟩)
   have HRF:=Hd hst6
   have hone:(#[.int .i64 r.er,.int .i64 r.n,.slice PA r.ps.length pc]:Array Value).all (·.oneCell') = true:=by simp [Value.oneCell']
   clear hp4 ho4 hn4 o45 hR4 hRQ hR3s o46 hp6 hX6 hO6 oR hgR CT
   go_wp2_with (first
    | ((try rw [hw5]);refine wpList_store_row rfl 34 _ _ rfl w4.heap.size #[.int .i64 r.er,.int .i64 r.n,.slice PA r.ps.length pc] rfl rfl 34 _ hst5 (by kernel_rfl) rfl hone ?_;(try rw [hw6]))
    | refine wpList_load_row rfl 34 _ rfl w4.heap.size rfl 34 #[.int .i64 r.er,.int .i64 r.n,.slice PA r.ps.length pc] (0,0) _ hld6 Tryz.underlying34 rfl (by kernel_rfl) ?_
    | refine wpList_store_row rfl 34 _ _ rfl R #[.int .i64 r.er,.int .i64 r.n,.slice PA r.ps.length pc] rfl rfl 34 _ hst6 (by kernel_rfl) rfl hone ?_)
   (try simp only [Exit.inBlock,Exit.then])
   refine bodyPost_ret (v:=.agg #[.int .i64 r.er,.int .i64 r.n,.slice PA r.ps.length pc]) ?_ rfl (HFIN.out _)
   exact results_row Tryz.results61 _ _ R 34 [.int .i64 r.er,.int .i64 r.n,.slice PA r.ps.length pc] _ rfl (Cells.setRow HRF.out [.int .i64 r.er,.int .i64 r.n,.slice PA r.ps.length pc]) Tryz.underlying34 rfl (by kernel_rfl)
 · have hE:=HE0.out rfl
   obtain ⟨r,hr⟩:∃ r,(cliA a.s c).1 = r:=⟨_,rfl⟩
   obtain ⟨s',hs'⟩:∃ s',(cliA a.s c).2 = s':=⟨_,rfl⟩
   rw [hr] at hE HRK HONE
   rw [hs'] at hE HONE
   have HE:=Hd hE
   clear hE hr hs' HE0 HE1 HE2 HE3 HK1
   obtain ⟨c0,c1,c2,c3,c4,c5,c6,c7,c8,c9,c10⟩:=cm_cells HCZ3.out
   clear c1 c2 c3 c4 c5 c6 c7 c8 c9 c10
   go_upto_block 1 with fail
   go_cut [9] (fun x wx => ∃ fd,x = .func (.func fd) #[] #[] ∧ (∀ (ys:Array Value) (w':World),(callFunc fd ys).run Tryz.prog w' = .ok (.enter fd ys) w') ∧ Hid (Only [] w3 wx ∧ ∀ w',AgAt w' p (allA p tb tv lb O) a → Calls Tryz.prog fd #[.pointer (some ⟨p,0,none⟩),.agg #[.int .i64 c.kd,.int .i64 c.ss,.int .i64 c.sq,.int .i64 c.sh,.int .i64 c.nd,.int .i64 c.ep,.int .i64 c.n,.string ⟨c.fd.toArray⟩,.string ⟨c.id.toArray⟩,iv,.bool c.fl]] w' fun e w'' => ReO w' w'' p (allA p tb tv lb O) r ⟨a.t,a.d,s'⟩ e))
   case first =>
    by_cases k2:c.kd = 2
    · have HF:=Hd (HONE.out.1 k2)
      have t2:(c.kd == 2) = true:=by simpa using k2
      clear k2 HONE
      go_wp2_with fail
      go_meet
      exact ⟨_,rfl,fun _ _ => rfl,Hd ⟨Only.refl _ _,HF.out⟩⟩
    by_cases k3:c.kd = 3
    · have HF:=Hd (HONE.out.2.1 k3)
      have t2:(c.kd == 2) = false:=by simpa using k2
      have t3:(c.kd == 3) = true:=by simpa using k3
      clear k2 k3 HONE
      go_wp2_with fail
      go_meet
      exact ⟨_,rfl,fun _ _ => rfl,Hd ⟨Only.refl _ _,HF.out⟩⟩
    by_cases k4:c.kd = 4
    · have HF:=Hd (HONE.out.2.2.1 k4)
      have t2:(c.kd == 2) = false:=by simpa using k2
      have t3:(c.kd == 3) = false:=by simpa using k3
      have t4:(c.kd == 4) = true:=by simpa using k4
      clear k2 k3 k4 HONE
      go_wp2_with fail
      go_meet
      exact ⟨_,rfl,fun _ _ => rfl,Hd ⟨Only.refl _ _,HF.out⟩⟩
    · have HF:=Hd (HONE.out.2.2.2 k2 k3 k4)
      have t2:(c.kd == 2) = false:=by simpa using k2
      have t3:(c.kd == 3) = false:=by simpa using k3
      have t4:(c.kd == 4) = false:=by simpa using k4
      clear k2 k3 k4 HONE
      go_wp2_with fail
      go_meet
      exact ⟨_,rfl,fun _ _ => rfl,Hd ⟨Only.refl _ _,HF.out⟩⟩
   case rest =>
   obtain ⟨fd,rfl,hcf,HW⟩:=hcut
   have HXC:=Hd (HX3.out.keep HW.out.1 (by simp))
   have HOC:=Hd (HO3.out.tr HW.out.1)
   have HRC:=Hd (HR3.out.only HW.out.1 (by simp))
   have HCZC:=Hd (HCZ3.out.only HW.out.1 (by simp))
   have CF:=Hd (HW.out.2 wc ⟨tb,tv,lb,sb,O,B,HXC.out,rfl⟩)
   obtain ⟨c0,c1,c2,c3,c4,c5,c6,c7,c8,c9,c10⟩:=cm_cells HCZC.out
   clear HW HONE HX3 HO3 HR3 HCZ3
   go_wp2_with fail
   refine CF.out.mono ?_
   rintro e w4 ⟨pv,K',rfl,hp4,hn4,⟨tb2,tv2,lb2,sb2,O2,B2,hX4,rfl⟩,ho4,hN4⟩
   obtain ⟨PA,pc,rfl⟩:=hp4.ps.shape
   clear c0 c1 c2 c3 c4 c5 c6 c7 c8 c9 c10 CF
   have hR4:=HRC.out.only ho4 hRn.out
   have hcz4:=HCZC.out.only ho4 hzn.out
   have hRsz:=HRC.out.lt
   have hRn2:R ∉ allA p tb2 tv2 lb2 O2:=fun hm => by
    rcases hN4 R hm with e | e
    · exact hRn.out e
    · omega
   obtain ⟨w5,hw5⟩:∃ u,w4.alloc (.cells #[.int .i64 0,.int .i64 0,.slice none 0 0] 34) = u:=⟨_,rfl⟩
   obtain ⟨Q,hQ⟩:∃ Q,w4.heap.size = Q:=⟨_,rfl⟩
   have hst5:Cells w5 Q 34 [.int .i64 0,.int .i64 0,.slice none 0 0]:=hw5 ▸ hQ ▸ Cells.new w4 _ _
   have o45:Only [] w4 w5:=hw5 ▸ oz.alloc _
   have o46:Only [] w4 (w5.setRow Q #[.int .i64 r.er,.int .i64 r.n,.slice PA r.ps.length pc]):=o45.trans ((Only.refl [Q] _).setRow (.inl (by simp)) _) (fun x hx => by simp at hx;subst hx;exact .inr (Nat.le_of_eq hQ))
   have hld6:Cells (w5.setRow Q #[.int .i64 r.er,.int .i64 r.n,.slice PA r.ps.length pc]) Q 34 [.int .i64 r.er,.int .i64 r.n,.slice PA r.ps.length pc]:=hst5.setRow [.int .i64 r.er,.int .i64 r.n,.slice PA r.ps.length pc]
   obtain ⟨w6,hw6⟩:∃ u,w5.setRow Q #[.int .i64 r.er,.int .i64 r.n,.slice PA r.ps.length pc] = u:=⟨_,rfl⟩
   rw [hw6] at hld6 o46
   have hX6:=hX4.keep o46 (by simp)
   have hQn:Q ∉ allA p tb2 tv2 lb2 O2:=fun hm => by have:=hX4.lts Q hm;omega
   have hone:(#[.int .i64 r.er,.int .i64 r.n,.slice PA r.ps.length pc]:Array Value).all (·.oneCell') = true:=by simp [Value.oneCell']
   have HR6:=Hd (hR4.only o46 (by simp))
   have HCZ6:=Hd (hcz4.only o46 (by simp))
   have HQ6:=Hd hld6
   have HP6:=Hd (hp4.only o46)
   have HX6:=Hd hX6
   have HO6:=Hd ((HOC.out.of0.trans ho4 (fun x hx => .inl hx)).trans o46 (fun x hx => by cases hx))
   have HN4:=Hd hN4
   have HRN2:=Hd hRn2
   have HQN:=Hd hQn
   have HGE:Hid (0 < r.ps.length → ∀ g,(Value.slice PA r.ps.length pc).ownBlock = some g → wc.heap.size ≤ g ∧ g ∉ allA p tb2 tv2 lb2 O2):=Hd hn4
   have HS4:Hid (wc.heap.size ≤ w4.heap.size ∧ w4.heap.size ≤ w6.heap.size ∧ w.heap.size ≤ wc.heap.size ∧ R < wc.heap.size):=Hd ⟨ho4.size,o46.size,HOC.out.size,hRsz⟩
   clear hp4 hn4 hX4 ho4 hN4 hR4 hcz4 hRsz hRn2 o45 o46 hX6 hQn HXC HOC HRC HCZC
   go_wp2_with (first
    | ((try rw [hw5]);(try rw [hQ]);refine wpList_store_row rfl 34 _ _ rfl Q #[.int .i64 r.er,.int .i64 r.n,.slice PA r.ps.length pc] rfl rfl 34 _ hst5 (by kernel_rfl) rfl hone ?_;(try rw [hw6])))
   clear hw5 hQ hst5 hw6
   (try simp only [Act.put])
   obtain ⟨c0,c1,c2,c3,c4,c5,c6,c7,c8,c9,c10⟩:=cm_cells HCZ6.out
   have p0:=HX6.out.cells.cell (k:=0) rfl
   have q0:=HQ6.out.cell (k:=0) rfl
   have q1:=HQ6.out.cell (k:=1) rfl
   have q2:=HQ6.out.cell (k:=2) rfl
   have hpl6:=HX6.out.cells.lt
   have hQl6:=HQ6.out.lt
   have v0:=fun u:Since w6 => u.cell p0
   have u1:=fun u:Since w6 => u.cell c1
   have u2:=fun u:Since w6 => u.cell c2
   have y0:=fun u:Since w6 => u.cell q0
   have y1:=fun u:Since w6 => u.cell q1
   have y2:=fun u:Since w6 => u.cell q2
   have CW:Hid (∀ u:Since w6,Calls Tryz.prog 85 #[.agg #[.int .i64 r.er,.int .i64 r.n,.slice PA r.ps.length pc]] u.w fun e w' => e = .returned (.string ⟨(rpb r).toArray⟩) ∧ Only [] u.w w'):=Hd (fun u => cmd_answer r (.slice PA r.ps.length pc) u.w (HP6.out.only u.2))
   clear c0 c1 c2 c3 c4 c5 c6 c7 c8 c9 c10 p0 q0 q1 q2
   refine wp_region_only_tail w6 oz 10 (by kernel_rfl) (by kernel_rfl) ?_
   simp only [tk1,tk0,dr1,dr0]
   repeat (go_big_quiet_step ((go_at_call 85;refine Calls.only (CW.out _))))
   refine wpQuiet_nil ?_
   rintro ⟨w7,ho7⟩
   dsimp only
   have HX7:=Hd (HX6.out.keep ho7 (by simp))
   have HO7:=Hd (HO6.out.trans ho7 (fun x hx => by cases hx))
   have HR7:=Hd (HR6.out.only ho7 (by simp))
   have HQ7:=Hd (HQ6.out.only ho7 (by simp))
   have HP7:=Hd (HP6.out.only ho7)
   have HS7:Hid (w6.heap.size ≤ w7.heap.size):=Hd ho7.size
   have CD:=Hd (S15.tbs_done B2 tb2 tv2 a.t.l a.t.ever c.ss c.sq ⟨(rpb r).toArray⟩ w7 HX7.out.t HLEN.out)
   clear ho7 v0 u1 u2 y0 y1 y2 CW HX6 HO6 HR6 HCZ6 HQ6 HP6 hpl6 hQl6
   go_wp2_with fail
   refine CD.out.mono ?_
   rintro e w8 ⟨rfl,tv3,ht8,ho8,hn8⟩
   obtain ⟨hX8,hO8,hN8⟩:=HX7.out.tdo (t':=⟨S15.doneL a.t.l c.ss c.sq ⟨(rpb r).toArray⟩,a.t.ever⟩) ht8 ho8 hn8
   have hst8:=HR7.out.only hO8 HRN2.out
   have hld8:=HQ7.out.only hO8 HQN.out
   have hp8:RpAt w8 (.slice PA r.ps.length pc) r:=by
    refine ⟨?_,HP7.out.er,HP7.out.n,HP7.out.sm,HP7.out.len⟩
    by_cases h0:0 < r.ps.length
    · exact (HP7.out.ps.past hO8 (Nat.le_refl _) (fun g hg => (HGE.out h0 g hg).2)).more hO8.size
    · obtain ⟨z1,z2,z3,z4,z5,z6,z7⟩:=HP7.out.ps
      exact ⟨z1,z2,z3,z4,z5,z6,fun hh => by omega⟩
   have oR:∀ row,Only [R] w8 (w8.setRow R row):=fun row => oz.setRow (.inl (by simp)) _
   have hRn8:R ∉ allA p tb2 tv3 lb2 O2:=fun hm => by
    rcases hN8 R hm with e | e
    · exact HRN2.out e
    · have:=HR7.out.lt;omega
   have hgR:0 < r.ps.length → ∀ g,(Value.slice PA r.ps.length pc).ownBlock = some g → w.heap.size ≤ g ∧ g ≠ R ∧ g < w7.heap.size:=fun h0 g hg => by
    obtain ⟨h1,h2,h3,h4⟩:=HS4.out
    have hg1:=(HGE.out h0 g hg).1
    refine ⟨by omega,by omega,?_⟩
    obtain ⟨bb,oo,cc,e,hb,_⟩:=HP7.out.ps.at_ (by omega)
    injection e with e1
    subst e1
    simp [Value.ownBlock] at hg
    omega
   have hpF:∀ row,RpAt (w8.setRow R row) (.slice PA r.ps.length pc) r:=fun row => by
    refine ⟨?_,hp8.er,hp8.n,hp8.sm,hp8.len⟩
    by_cases h0:0 < r.ps.length
    · exact (hp8.ps.past (oR row) (Nat.le_refl _) (fun g hg hm => by simp at hm;exact (hgR h0 g hg).2.1 hm)).more (oR row).size
    · obtain ⟨z1,z2,z3,z4,z5,z6,z7⟩:=hp8.ps
      exact ⟨z1,z2,z3,z4,z5,z6,fun hh => by omega⟩
   have HFIN:Hid (∀ row,ReO w (w8.setRow R row) p (allA p tb tv lb O) (clA a c).1 (clA a c).2 (.returned (.agg #[.int .i64 r.er,.int .i64 r.n,.slice PA r.ps.length pc]))):=Hd (fun row => by
    rw [HE.out]
    refine ⟨.slice PA r.ps.length pc,_,rfl,hpF row,fun h0 g hg => ⟨(hgR h0 g hg).1,fun hm => ?_⟩,⟨tb2,tv3,lb2,sb2,O2,B2,hX8.keep (oR row) (fun k hk hm => by simp at hm;subst hm;exact hRn8 hk),rfl⟩,?_,fun x hx => ?_⟩
    · rcases hN8 g hm with e | e
      · exact (HGE.out h0 g hg).2 e
      · have:=(hgR h0 g hg).2.2;omega
    · refine (HO7.out.trans hO8 (fun x hx => ?_)).trans (oR row) (fun x hx => by simp at hx;subst hx;exact .inr hwR)
      rcases HN4.out x hx with e | e
      · exact .inl e
      · exact .inr (by have:=HS4.out;omega)
    · rcases hN8 x hx with e | e
      · rcases HN4.out x e with e | e
        · exact .inl e
        · exact .inr (by have:=HS4.out;omega)
      · exact .inr (by have:=HS4.out;have:=HS7.out;omega))
   have HRF:=Hd hst8
   clear ht8 ho8 hn8 hX8 hO8 hN8 hp8 oR hRn8 hgR hpF CD
   go_wp2_with (first
    | refine wpList_load_row rfl 34 _ rfl Q rfl 34 #[.int .i64 r.er,.int .i64 r.n,.slice PA r.ps.length pc] (0,0) _ hld8 Tryz.underlying34 rfl (by kernel_rfl) ?_
    | refine wpList_store_row rfl 34 _ _ rfl R #[.int .i64 r.er,.int .i64 r.n,.slice PA r.ps.length pc] rfl rfl 34 _ hst8 (by kernel_rfl) rfl hone ?_)
   (try simp only [Exit.inBlock,Exit.then])
   refine bodyPost_ret (v:=.agg #[.int .i64 r.er,.int .i64 r.n,.slice PA r.ps.length pc]) ?_ rfl (HFIN.out _)
   exact results_row Tryz.results61 _ _ R 34 [.int .i64 r.er,.int .i64 r.n,.slice PA r.ps.length pc] _ rfl (Cells.setRow HRF.out [.int .i64 r.er,.int .i64 r.n,.slice PA r.ps.length pc]) Tryz.underlying34 rfl (by kernel_rfl)
end Go.Proofs.YtcjfmildalappaaGreat
