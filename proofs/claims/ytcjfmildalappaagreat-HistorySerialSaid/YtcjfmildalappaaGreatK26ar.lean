/-
  Contracts; each theorem bears its own conditions.
-/
import Derived.Test.YtcjfmildalappaaGreatK26ab
import Derived.Test.YtcjfmildalappaaGreatK26aq
set_option linter.all false
set_option maxRecDepth 100000
set_option maxHeartbeats 8000000
namespace Go.Proofs.YtcjfmildalappaaGreat
open Go.RowKit
section
variable {α:Type} (key:α → List UInt8)
def ixB (k:List UInt8) (l:List α):Nat:=(l.takeWhile fun a => decide (key a < k)).length
theorem ixB_le (k:List UInt8) (l:List α):ixB key k l ≤ l.length:=by
 unfold ixB
 exact (List.takeWhile_prefix _).length_le
theorem ixB_lt (k:List UInt8):∀ (l:List α) (j:Nat) (a:α),j < ixB key k l → l[j]? = some a → key a < k
 | [],j,a,h,_ => by simp [ixB] at h
 | x :: r,j,a,h,ha => by
  unfold ixB at h
  rw [List.takeWhile_cons] at h
  split at h
  · rename_i hx
    cases j with
    | zero => simp at ha;subst ha;simpa using hx
    | succ j => exact ixB_lt k r j a (by unfold ixB;simpa using h) (by simpa using ha)
  · simp at h
theorem ixB_end (k:List UInt8):∀ (l:List α) (a:α),l[ixB key k l]? = some a → ¬ key a < k
 | [],a,h => by simp at h
 | x :: r,a,h => by
  unfold ixB at h
  rw [List.takeWhile_cons] at h
  split at h
  · exact ixB_end k r a (by unfold ixB;simpa using h)
  · rename_i hx
    simp at h
    subst h
    simpa using hx
theorem insBy_at (x:α):∀ l:List α,insBy key x l = l.take (ixB key (key x) l) ++ x :: l.drop (ixB key (key x) l)
 | [] => by simp [insBy,ixB]
 | a :: r => by
  unfold insBy ixB
  rw [List.takeWhile_cons]
  by_cases h:key a < key x
  · rw [if_pos h,if_pos (by simpa using h),insBy_at x r]
    simp [ixB]
  · rw [if_neg h,if_neg (by simpa using h)]
    simp
theorem find_at (k:List UInt8) (l:List α) (hs:l.Pairwise (fun a b => key a < key b)):l.find? (fun a => key a == k) = match l[ixB key k l]? with
 | none => none
 | some a => if key a = k then some a else none:=by
 induction l with
 | nil => rfl
 | cons a r ih =>
  have h1:=List.pairwise_cons.1 hs
  have ih:=ih h1.2
  unfold ixB
  rw [List.takeWhile_cons,List.find?_cons]
  by_cases h:key a < k
  · have hne:(key a == k) = false:=by
     have:key a ≠ k:=fun e => by rw [e] at h;exact List.lt_irrefl k h
     simpa using this
    rw [if_pos (by simpa using h),hne]
    simpa [ixB] using ih
  · rw [if_neg (by simpa using h)]
    simp only [List.length_nil,List.getElem?_cons_zero]
    by_cases he:key a = k
    · rw [if_pos he,show (key a == k) = true from by simpa using he]
    · rw [if_neg he,show (key a == k) = false from by simpa using he]
      refine List.find?_eq_none.2 fun b hb => ?_
      have h2:k < key a:=lt_of_not h he
      have h3:=List.lt_trans h2 (h1.1 b hb)
      simp only [beq_iff_eq]
      intro e
      rw [e] at h3
      exact List.lt_irrefl k h3
theorem ixB_lt1 {k:List UInt8} {x:α} (r:List α) (h:key x < k):ixB key k (x :: r) = ixB key k r + 1:=by
 unfold ixB
 rw [List.takeWhile_cons,if_pos (by simpa using h)]
 rfl
theorem ixB_ge1 {k:List UInt8} {x:α} (r:List α) (h:¬ key x < k):ixB key k (x :: r) = 0:=by
 unfold ixB
 rw [List.takeWhile_cons,if_neg (by simpa using h)]
 rfl
theorem ne_lt {a k:List UInt8} (h:a < k):(a == k) = false:=by
 have:a ≠ k:=fun e => by rw [e] at h;exact List.lt_irrefl k h
 simpa using this
theorem ne_gt {a k:List UInt8} (h:k < a):(a == k) = false:=by
 have:a ≠ k:=fun e => by rw [e] at h;exact List.lt_irrefl k h
 simpa using this
theorem delBy_at (k:List UInt8) (l:List α) (hs:l.Pairwise (fun a b => key a < key b)) (a:α) (ha:l[ixB key k l]? = some a) (hk:key a = k):delBy key k l = l.take (ixB key k l) ++ l.drop (ixB key k l + 1):=by
 induction l with
 | nil => simp at ha
 | cons x r ih =>
  have h1:=List.pairwise_cons.1 hs
  by_cases h:key x < k
  · rw [ixB_lt1 key r h] at ha ⊢
    have:=ih h1.2 (by simpa using ha)
    show (x :: r).filter _ = _
    rw [List.filter_cons,ne_lt h]
    simp only [Bool.not_false,if_true,tk1,dr1,List.cons_append]
    exact congrArg _ this
  · rw [ixB_ge1 key r h] at ha ⊢
    simp at ha
    subst ha
    show (x :: r).filter _ = _
    rw [List.filter_cons,show (key x == k) = true from by simpa using hk]
    simp only [Bool.not_true,Bool.false_eq_true,if_false,tk0,List.nil_append,Nat.zero_add,dr1,dr0]
    refine List.filter_eq_self.2 fun b hb => ?_
    have h3:=h1.1 b hb
    rw [hk] at h3
    rw [ne_gt h3]
    rfl
theorem putBy_at (k:List UInt8) (y:α) (l:List α) (hs:l.Pairwise (fun a b => key a < key b)) (a:α) (ha:l[ixB key k l]? = some a) (hk:key a = k):putBy key k y l = l.set (ixB key k l) y:=by
 induction l with
 | nil => simp at ha
 | cons x r ih =>
  have h1:=List.pairwise_cons.1 hs
  by_cases h:key x < k
  · rw [ixB_lt1 key r h] at ha ⊢
    have:=ih h1.2 (by simpa using ha)
    show (x :: r).map _ = _
    rw [List.map_cons,ne_lt h]
    simp only [Bool.false_eq_true,if_false,sc1]
    exact congrArg _ this
  · rw [ixB_ge1 key r h] at ha ⊢
    simp at ha
    subst ha
    show (x :: r).map _ = _
    rw [List.map_cons,show (key x == k) = true from by simpa using hk]
    simp only [if_true,sc0]
    refine congrArg _ ?_
    refine (List.map_congr_left fun b hb => ?_).trans (List.map_id' r)
    have h3:=h1.1 b hb
    rw [hk] at h3
    rw [ne_gt h3]
    rfl
end
theorem wpList_runapp {P:Program} {ops:Array Oper} {rest:List Oper} {o:Oper} {a:Act} {Q:Exit → Act → World → Prop} {w w':World} {vs vx v':Value} (hgd:o.guard = none) (s x:Operand) (t:TypeId)
 (ho:o.op = .call { callee:=.builtin .append,args:=#[s,x],argTypes:=#[t,t] }) (hs:a.eval s = vs) (hx:a.eval x = vx) (hr:(Builtin.append_ #[t,t] o.type #[vs,vx]).run P w = .ok v' w') (h:wpList P ops Q rest (a.put o.dst v') w'):wpList P ops Q (o :: rest) a w:=by
 refine wpList_plain hgd fun K hK => ?_
 unfold Oper.wp execOp
 simp only [ho,resolve,invoke,builtin,Sem.run_bind,Sem.run_pure,Result.andThen_ok,List.map_toArray,List.map_cons,List.map_nil,hs,hx,hr]
 exact hK _ _ h
structure RfS (w:World) (v:Value) (sz n:Nat) (xs:List Value):Prop where
 sl:SlAt w w.heap.size v sz n xs
 nil:∀ n c,v = .slice none n c → n = 0 ∧ c = 0
 one:∀ u ∈ xs,u.oneCell' = true
theorem slat_keep {S:List Nat} {w w':World} {B sz n:Nat} {v:Value} {xs:List Value} (h:SlAt w B v sz n xs) (hB:B ≤ w.heap.size) (ho:Only S w w') (hS:∀ x,x ∈ S → v.ownBlock ≠ some x):SlAt w' w'.heap.size v sz n xs:=by
 obtain ⟨hl,A,c,hv,hnc,hc,h⟩:=h
 refine ⟨hl,A,c,hv,hnc,hc,fun hn => ?_⟩
 obtain ⟨b,o,hA,hb,hh⟩:=h hn
 subst hv
 subst hA
 exact ⟨b,o,rfl,Nat.lt_of_lt_of_le hb (Nat.le_trans hB ho.size),fun j u hu => (ho.cell (p:=⟨b,o + j,none⟩) (show b < _ by omega) (fun hm => hS b hm rfl)).trans (hh j u hu)⟩
theorem RfS.keep {S:List Nat} {w w':World} {sz n:Nat} {v:Value} {xs:List Value} (h:RfS w v sz n xs) (ho:Only S w w') (hS:∀ x,x ∈ S → v.ownBlock ≠ some x):RfS w' v sz n xs:=
 ⟨slat_keep h.sl (Nat.le_refl _) ho hS,h.nil,h.one⟩
theorem RfS.only {w w':World} {sz n:Nat} {v:Value} {xs:List Value} (h:RfS w v sz n xs) (ho:Only [] w w'):RfS w' v sz n xs:=h.keep ho (by simp)
theorem RfS.shape {w:World} {sz n:Nat} {v:Value} {xs:List Value} (h:RfS w v sz n xs):∃ A c,v = .slice A n c ∧ n ≤ c ∧ c ≤ maxLen:=by
 obtain ⟨_,A,c,hv,h1,h2,_⟩:=h.sl
 exact ⟨A,c,hv,h1,h2⟩
theorem RfS.of_own {w:World} {base:Nat} {e:TypeId} {sz n:Nat} {v:Value} {xs:List Value} (h:w.ownsRow base e sz v n xs) (h1:∀ u ∈ xs,u.oneCell' = true):RfS w v sz n xs:=
 ⟨SlAt.of_own h,fun m c hv => by
  rcases h.2 with ⟨h2,_⟩ | ⟨g,cap,cur,h2,_⟩
  · rw [h2] at hv;injection hv with _ e1 e2;exact ⟨e1.symm,e2.symm⟩
  · rw [h2] at hv;injection hv with e1;(cases e1),h1⟩
theorem RfS.src {w:World} {sz n:Nat} {v:Value} {xs:List Value} (h:RfS w v sz n xs) (hsz:0 < sz):SrcA w v sz n xs:=by
 refine ⟨h.sl.1,h.one,?_⟩
 obtain ⟨A,c,hv,_,_⟩:=h.shape
 cases A with
 | none => obtain ⟨h1,h2⟩:=h.nil n c hv;exact .inl ⟨by rw [hv,h1,h2],h1⟩
 | some ad =>
  refine .inr ⟨ad,c,hv,fun j u hu => ?_⟩
  have hj:=(List.getElem?_eq_some_iff.1 hu).1
  obtain ⟨b,o,c',hv',_,hc⟩:=h.sl.at_ (by have:=h.sl.1;omega)
  rw [hv] at hv'
  injection hv' with e1
  injection e1 with e1
  subst e1
  rw [Addr.add_lit]
  exact hc j u hu
theorem RfS.drop {w:World} {sz n c j:Nat} {A:Option Addr} {xs:List Value} (h:RfS w (.slice A n c) sz n xs) (hj:j ≤ n):RfS w (.slice (if c = j then A else Option.map (fun x => x.add (j * sz)) A) (n - j) (c - j)) sz (n - j) (xs.drop (j * sz)):=by
 obtain ⟨hl,A',c',hv,hnc,hcm,hh⟩:=h.sl
 injection hv with e1 _ e3
 subst e1
 subst e3
 refine ⟨⟨by rw [List.length_drop,hl,Nat.sub_mul],_,_,rfl,by omega,by omega,fun hp => ?_⟩,?_,fun u hu => h.one u (List.mem_of_mem_drop hu)⟩
 · have hjn:j < n:=by
    rcases Nat.lt_or_ge j n with h | h
    · exact h
    · rw [Nat.sub_eq_zero_of_le h] at hp;omega
   obtain ⟨b,o,hb,hlt,hc⟩:=hh (Nat.lt_of_lt_of_le hp (Nat.mul_le_mul_right _ (Nat.sub_le _ _)))
   subst hb
   refine ⟨b,o + j * sz,by rw [if_neg (by omega)];simp [Addr.add_lit],hlt,fun i u hu => ?_⟩
   rw [List.getElem?_drop] at hu
   rw [Nat.add_assoc]
   exact hc _ u hu
 · intro m k hv
   injection hv with e1 e2 e3
   cases A with
   | none =>
    obtain ⟨h1,h2⟩:=h.nil n c rfl
    exact ⟨by rw [← e2,h1];simp,by rw [← e3,h2];simp⟩
   | some a => split at e1 <;> simp at e1
theorem RfS.take {w:World} {sz n c m:Nat} {A:Option Addr} {xs:List Value} (h:RfS w (.slice A n c) sz n xs) (hm:m ≤ n):RfS w (.slice A m c) sz m (xs.take (m * sz)):=by
 obtain ⟨hl,A',c',hv,hnc,hcm,hh⟩:=h.sl
 injection hv with e1 _ e3
 subst e1
 subst e3
 have hms:m * sz ≤ n * sz:=Nat.mul_le_mul_right _ hm
 refine ⟨⟨by rw [List.length_take,hl];omega,_,_,rfl,by omega,hcm,fun hp => ?_⟩,?_,fun u hu => h.one u (List.mem_of_mem_take hu)⟩
 · obtain ⟨b,o,hb,hlt,hc⟩:=hh (by omega)
   refine ⟨b,o,hb,hlt,fun i u hu => ?_⟩
   have hi:i < m * sz:=by have:=(List.getElem?_eq_some_iff.1 hu).1;rw [List.length_take] at this;omega
   rw [List.getElem?_take_of_lt hi] at hu
   exact hc i u hu
 · intro k q hv
   injection hv with e1 e2 e3
   subst e1
   obtain ⟨h1,h2⟩:=h.nil n c rfl
   omega
structure Rf where
 nm:List UInt8
 fd:Fd
 v:Value
def Rf.cells (t:Rf):List Value:=[.string ⟨t.nm.toArray⟩,.int .i64 t.fd.pol,.int .i64 t.fd.fai,t.v]
def rfL (T:List Rf):List Value:=T.flatMap Rf.cells
theorem rfL_get (l:List Rf) (i j:Nat) (x:Rf) (h:l[i]? = some x) (hj:j < 4):(rfL l)[i * 4 + j]? = x.cells[j]?:=flat_get Rf.cells 4 (fun _ => rfl) l i j x h hj
def pR (T:List Rf):Sv:=T.map fun t => (t.nm,t.fd)
def allR (b:Nat) (v:Value) (T:List Rf):List Nat:=b :: (rb v ++ T.flatMap fun t => rb t.v)
structure FdG (f:Fd):Prop where
 cap:f.ps.length ≤ 200
 nb:-1 ≤ f.pol ∧ f.pol ≤ 1099511627776 ∧ 0 ≤ f.fai ∧ f.fai ≤ 1000
structure RsX (w:World) (b:Nat) (v:Value) (T:List Rf):Prop where
 cells:Cells w b 128 [v]
 row:w.ownsRow 0 142 4 v T.length (rfL T)
 ps:∀ t ∈ T,RfS w t.v 5 t.fd.ps.length (poL t.fd.ps)
 pb:∀ t ∈ T,∀ g,t.v.ownBlock = some g → g < w.heap.size ∧ g ≠ b ∧ v.ownBlock ≠ some g
 srt:T.Pairwise (fun a b => a.nm < b.nm)
 cap:T.length ≤ 20
 nml:∀ t ∈ T,nmL t.nm = true
 fg:∀ t ∈ T,FdG t.fd
theorem mem_rb' {v:Value} {g:Nat}:g ∈ rb v ↔ v.ownBlock = some g:=by unfold rb;simp
theorem RsX.vb {w:World} {b:Nat} {v:Value} {T:List Rf} (h:RsX w b v T):v.ownBlock ≠ some b:=own_ne_block h.row h.cells (by decide)
theorem RsX.lts {w:World} {b:Nat} {v:Value} {T:List Rf} (h:RsX w b v T):∀ x ∈ allR b v T,x < w.heap.size:=by
 intro x hx
 unfold allR at hx
 rcases List.mem_cons.1 hx with rfl | hx
 · exact h.cells.lt
 · rcases List.mem_append.1 hx with hx | hx
   · exact (h.row.lt x (mem_rb'.1 hx)).2
   · obtain ⟨t,ht,hg⟩:=List.mem_flatMap.1 hx
     exact (h.pb t ht x (mem_rb'.1 hg)).1
theorem mem_allR {b:Nat} {v:Value} {T:List Rf} {t:Rf} (ht:t ∈ T) {g:Nat} (hg:t.v.ownBlock = some g):g ∈ allR b v T:=by
 unfold allR
 exact List.mem_cons_of_mem _ (List.mem_append_right _ (List.mem_flatMap.2 ⟨t,ht,mem_rb'.2 hg⟩))
theorem RsX.keep {S:List Nat} {w w':World} {b:Nat} {v:Value} {T:List Rf} (h:RsX w b v T) (ho:Only S w w') (hS:∀ x ∈ allR b v T,x ∉ S):RsX w' b v T:=
 ⟨h.cells.only ho (hS b (by simp [allR])),own_keep h.row ho (fun x hx e => hS x (by unfold allR;exact List.mem_cons_of_mem _ (List.mem_append_left _ (mem_rb'.2 e))) hx),fun t ht => (h.ps t ht).keep ho (fun x hx e => hS x (mem_allR ht e) hx),fun t ht g hg => ⟨Nat.lt_of_lt_of_le (h.pb t ht g hg).1 ho.size,(h.pb t ht g hg).2⟩,h.srt,h.cap,h.nml,h.fg⟩
theorem RsX.only {w w':World} {b:Nat} {v:Value} {T:List Rf} (h:RsX w b v T) (ho:Only [] w w'):RsX w' b v T:=h.keep ho (by simp)
theorem RsX.at_ {w:World} {b:Nat} {v:Value} {T:List Rf} (h:RsX w b v T) {k:Nat} {t:Rf} (ht:T[k]? = some t):
 ∃ g c,v = .slice (some ⟨g,0,none⟩) T.length c ∧ g < w.heap.size ∧ w.cell? ⟨g,k * 4,none⟩ = some (.string ⟨t.nm.toArray⟩) ∧ w.cell? ⟨g,k * 4 + 1,none⟩ = some (.int .i64 t.fd.pol) ∧ w.cell? ⟨g,k * 4 + 2,none⟩ = some (.int .i64 t.fd.fai) ∧ w.cell? ⟨g,k * 4 + 3,none⟩ = some t.v:=by
 obtain ⟨g,c,hv,_,hg,h0⟩:=own_cell h.row (rfL_get T k 0 t ht (by omega))
 obtain ⟨g1,c1,hv1,_,_,h1⟩:=own_cell h.row (rfL_get T k 1 t ht (by omega))
 obtain ⟨g2,c2,hv2,_,_,h2⟩:=own_cell h.row (rfL_get T k 2 t ht (by omega))
 obtain ⟨g3,c3,hv3,_,_,h3⟩:=own_cell h.row (rfL_get T k 3 t ht (by omega))
 rw [hv] at hv1 hv2 hv3
 injection hv1 with e1
 injection e1 with e1
 injection e1 with e1
 injection hv2 with e2
 injection e2 with e2
 injection e2 with e2
 injection hv3 with e3
 injection e3 with e3
 injection e3 with e3
 subst e1;subst e2;subst e3
 exact ⟨g,c,hv,hg,h0,h1,h2,h3⟩
def rT (T:List Rf) (k:List UInt8):Option Rf:=T.find? (fun t => t.nm == k)
def ixR (T:List Rf) (k:List UInt8):Nat:=ixB Rf.nm k T
theorem rs_find (b:Nat) (v:Value) (T:List Rf) (k:List UInt8) (hk:k.length ≤ maxLen) (w:World) (h:RsX w b v T):
 Calls Tryz.prog 93 #[.pointer (some ⟨b,0,none⟩),.string ⟨k.toArray⟩] w fun e w' => e = .returned (.tuple #[.int .i64 (ixR T k),.bool (rT T k).isSome]) ∧ Only [] w w':=by
 obtain ⟨A,c,rfl⟩:=(SlAt.of_own h.row).shape
 have H:=Hd h
 have c0:=h.cells.cell (k:=0) rfl
 have hcap:=h.cap
 obtain ⟨n,hn⟩:∃ n,ixR T k = n:=⟨_,rfl⟩
 have hnl:n ≤ T.length:=hn ▸ ixB_le Rf.nm k T
 clear h
 go_enter Tryz.func93,Tryz.ntmps93
 go_wp2_with fail
 go_loopw [6] (fun i wr => ∃ j:Nat,j ≤ n ∧ i = .int .i64 j ∧ w = wr) (fun i _ => T.length - (intOf i).toNat)
 case atStart => exact ⟨0,by omega,rfl,rfl⟩
 case round =>
  obtain ⟨j,hj,rfl,rfl⟩:=hrel
  by_cases hjn:j < n
  · have hlt:j < T.length:=by omega
    have hlt':(j:Int) < (T.length:Int):=by omega
    obtain ⟨t,ht⟩:∃ t,T[j]? = some t:=⟨_,List.getElem?_eq_getElem hlt⟩
    obtain ⟨g,c',hv,hg,q0,_,_,_⟩:=H.out.at_ ht
    injection hv with e1 _ e3
    subst e1;subst e3
    have hless:Op.bytesLess t.nm k = true:=by
     rw [bytesLess_eq]
     simpa using ixB_lt Rf.nm k T j t (by unfold ixR at hn;omega) ht
    have hwr:IntKind.i64.wrap ((j:Int) + 1) = (j:Int) + 1:=by rw [IntKind.wrap_i64];omega
    go_wp2_with fail
    go_roundw
    case rel => exact ⟨j + 1,by omega,by go_num,trivial⟩
    case measure => simp [intOf];omega
  · obtain rfl:j = n:=by omega
    by_cases hl:j < T.length
    · have hlt':(j:Int) < (T.length:Int):=by omega
      obtain ⟨t,ht⟩:∃ t,T[j]? = some t:=⟨_,List.getElem?_eq_getElem hl⟩
      obtain ⟨g,c',hv,hg,q0,_,_,_⟩:=H.out.at_ ht
      injection hv with e1 _ e3
      subst e1;subst e3
      have hless:Op.bytesLess t.nm k = false:=by
       rw [bytesLess_eq]
       simpa using ixB_end Rf.nm k T t (by unfold ixR at hn;rw [hn];exact ht)
      have hfd:(rT T k).isSome = (t.nm == k):=by
       unfold rT
       rw [find_at Rf.nm k T H.out.srt]
       unfold ixR at hn
       rw [hn,ht]
       by_cases he:t.nm = k
       · simp [he]
       · simp [he]
      have hix:(ixR T k:Int) = j:=by rw [hn]
      obtain ⟨q,hq⟩:∃ q,(t.nm == k) = q:=⟨_,rfl⟩
      rw [hq] at hfd
      have HFD:=Hd hfd
      have HIX:=Hd hix
      have u0:=fun u:Since w => u.cell q0
      have d0:=fun u:Since w => u.cell c0
      clear hfd ht hn hix
      go_wp2_with fail
      refine wp_region_only w oz (by kernel_rfl) (by kernel_rfl) ?_
      repeat (go_big_quiet_step (fail))
      refine wpQuiet_nil ?_
      rintro ⟨w3,ho3⟩
      dsimp only
      go_wp2_with fail
      go_ret2
      exact ⟨by rw [HFD.out,HIX.out];rfl,ho3⟩
    · have hd:decide ((j:Int) < (T.length:Int)) = false:=by simp;omega
      have hfd:(rT T k).isSome = false:=by
       unfold rT
       rw [find_at Rf.nm k T H.out.srt]
       unfold ixR at hn
       rw [hn,List.getElem?_eq_none (by omega)]
       rfl
      have HFD:=Hd hfd
      have HIX:Hid ((ixR T k:Int) = j):=Hd (by rw [hn])
      have d0:=fun u:Since w => u.cell c0
      clear hfd hn
      go_wp2_with fail
      refine wp_region_only w oz (by kernel_rfl) (by kernel_rfl) ?_
      repeat (go_big_quiet_step (fail))
      refine wpQuiet_nil ?_
      rintro ⟨w3,ho3⟩
      dsimp only
      go_wp2_with fail
      go_ret2
      exact ⟨by rw [HFD.out,HIX.out];rfl,ho3⟩
theorem info_rfeed:(Tryz.prog.info? 142).map (fun i => (i.zero,i.size,i.bytes)) = some (some (.agg #[.string .empty,.int .i64 0,.int .i64 0,.slice none 0 0]),4,56):=by kernel_rfl
structure OpX (w w':World) (b:Nat) (v v':Value) (T T':List Rf):Prop where
 st:RsX w' b v' T'
 ho:Only (allR b v T) w w'
 new:∀ x ∈ allR b v' T',x ∈ allR b v T ∨ w.heap.size ≤ x
theorem OpX.same {w w':World} {b:Nat} {v:Value} {T:List Rf} (h:RsX w b v T) (ho:Only [] w w'):OpX w w' b v v T T:=⟨h.only ho,ho.of0,fun _ hx => .inl hx⟩
theorem Rf.one {T:List Rf} (h:∀ t ∈ T,t.v.oneCell' = true):∀ u ∈ rfL T,u.oneCell' = true:=by
 intro u hu
 obtain ⟨t,ht,hm⟩:=List.mem_flatMap.1 hu
 simp only [Rf.cells,List.mem_cons,List.not_mem_nil,or_false] at hm
 rcases hm with rfl | rfl | rfl | rfl
 · rfl
 · rfl
 · rfl
 · exact h t ht
theorem RsX.oneC {w:World} {b:Nat} {v:Value} {T:List Rf} (h:RsX w b v T):∀ t ∈ T,t.v.oneCell' = true:=fun t ht => by
 obtain ⟨A,c,e,_⟩:=(h.ps t ht).shape
 rw [e];rfl
theorem rfL_take (T:List Rf) (i:Nat):rfL (T.take i) = (rfL T).take (i * 4):=by
 induction T generalizing i with
 | nil => simp [rfL]
 | cons t r ih =>
  cases i with
  | zero => simp [rfL]
  | succ i =>
   have h:=ih i
   unfold rfL at h ⊢
   rw [List.take_succ_cons,List.flatMap_cons,List.flatMap_cons,h,Nat.succ_mul,Nat.add_comm]
   show _ = (([_,_,_,_]:List Value) ++ _).take (4 + i * 4)
   rw [Nat.add_comm,show i * 4 + 4 = i * 4 + 1 + 1 + 1 + 1 from rfl]
   rfl
theorem rfL_drop (T:List Rf) (i:Nat):rfL (T.drop i) = (rfL T).drop (i * 4):=by
 induction T generalizing i with
 | nil => simp [rfL]
 | cons t r ih =>
  cases i with
  | zero => simp [rfL]
  | succ i =>
   have h:=ih i
   unfold rfL at h ⊢
   rw [List.drop_succ_cons,List.flatMap_cons,h,Nat.succ_mul]
   rfl
theorem RsX.rfs {w:World} {b:Nat} {v:Value} {T:List Rf} (h:RsX w b v T):RfS w v 4 T.length (rfL T):=RfS.of_own h.row (Rf.one h.oneC)
theorem RsX.src1 {w:World} {b c i:Nat} {A:Option Addr} {T:List Rf} (h:RsX w b (.slice A T.length c) T) (hi:i ≤ T.length):SrcA w (.slice A i c) 4 i (rfL (T.take i)):=by
 rw [rfL_take]
 exact (h.rfs.take hi).src (by decide)
theorem RsX.src2 {w:World} {b c i:Nat} {A:Option Addr} {T:List Rf} (h:RsX w b (.slice A T.length c) T) (hi:i ≤ T.length):SrcA w (.slice (if c = i then A else Option.map (fun x => x.add (i * 4)) A) (T.length - i) (c - i)) 4 (T.length - i) (rfL (T.drop i)):=by
 rw [rfL_drop]
 exact (h.rfs.drop hi).src (by decide)
theorem RsX.newrow {w w5:World} {b B n:Nat} {v v':Value} {T T':List Rf} (h:RsX w b v T) (ho:Only [] w w5) (hB:w.heap.size ≤ B) (hown:w5.ownsRow B 142 4 v' n (rfL T')) (hn:T'.length = n)
 (hT:∀ t ∈ T',t ∈ T ∨ (t.v = .slice none 0 0 ∧ t.fd = ⟨-1,0,[]⟩ ∧ nmL t.nm = true)) (hs:T'.Pairwise (fun a b => a.nm < b.nm)) (hc:T'.length ≤ 20):
 OpX w (w5.setCell ⟨b,0,none⟩ v') b v v' T T':=by
 subst hn
 have h5:=h.only ho
 have hb5:=h.cells.lt
 have hw:Only [b] w5 (w5.setCell ⟨b,0,none⟩ v'):=oz.setCell (.inl (by simp)) _
 have hnb:v'.ownBlock ≠ some b:=fun e => by have:=(hown.lt b e).1;omega
 refine ⟨⟨h5.cells.set 0 v',own_low (own_keep hown hw (by simpa using hnb)) (Nat.zero_le _),fun t ht => ?_,fun t ht g hg => ?_,hs,hc,fun t ht => ?_,fun t ht => ?_⟩,?_,fun x hx => ?_⟩
 · rcases hT t ht with h1 | ⟨h1,h2,_⟩
   · exact (h5.ps t h1).keep hw (fun x hx e => by simp at hx;subst hx;exact (h5.pb t h1 x e).2.1 rfl)
   · rw [h1,h2]
     exact RfS.of_own (World.ownsRow_nil _ 0 101 5) (by simp [poL])
 · rcases hT t ht with h1 | ⟨h1,_⟩
   · have h2:=h5.pb t h1 g hg
     refine ⟨Nat.lt_of_lt_of_le h2.1 hw.size,h2.2.1,fun e => ?_⟩
     have h3:=(hown.lt g e).1
     have h4:=(h.pb t h1 g hg).1
     omega
   · rw [h1] at hg;simp [Value.ownBlock] at hg
 · rcases hT t ht with h1 | ⟨_,_,h1⟩
   · exact h.nml t h1
   · exact h1
 · rcases hT t ht with h1 | ⟨_,h1,_⟩
   · exact h.fg t h1
   · rw [h1];exact ⟨by simp,by simp⟩
 · exact (ho.of0).trans hw (fun x hx => .inl (by simp at hx;subst hx;simp [allR]))
 · unfold allR at hx
   rcases List.mem_cons.1 hx with rfl | hx
   · left;simp [allR]
   · rcases List.mem_append.1 hx with hx | hx
     · right
       have:=(hown.lt x (mem_rb'.1 hx)).1
       omega
     · obtain ⟨t,ht,hg⟩:=List.mem_flatMap.1 hx
       rcases hT t ht with h1 | ⟨h1,_⟩
       · exact .inl (mem_allR h1 (mem_rb'.1 hg))
       · rw [h1] at hg;simp [rb,Value.ownBlock] at hg
theorem fnd_rT (T:List Rf) (k:List UInt8):fnd (pR T) k = (rT T k).map (·.fd):=by
 unfold fnd pR rT
 rw [List.find?_map,Option.map_map]
 rfl
theorem fnd_rT' (T:List Rf) (k:List UInt8):(fnd (pR T) k).isSome = (rT T k).isSome:=by rw [fnd_rT];simp
theorem pR_len (T:List Rf):(pR T).length = T.length:=List.length_map _
theorem rs_sub (b:Nat) (v:Value) (T:List Rf) (k:List UInt8) (hk:k.length ≤ maxLen) (w:World) (h:RsX w b v T):
 Calls Tryz.prog 171 #[.pointer (some ⟨b,0,none⟩),.string ⟨k.toArray⟩] w fun e w' => e = .returned (.int .i64 (subS (pR T) k).1) ∧ ∃ v' T',OpX w w' b v v' T T' ∧ pR T' = (subS (pR T) k).2:=by
 obtain ⟨i0,hi0,hz0,hz1,hz2⟩:=info_parts info_rfeed
 obtain ⟨A,c,rfl⟩:=(SlAt.of_own h.row).shape
 have H:=Hd h
 have CN:=Hd (fun w' => ref_name14 k w' (by unfold maxLen at hk;omega))
 have CF:=Hd (rs_find b _ T k hk w h)
 have hcap:=h.cap
 cases hn:nmL k with
 | false =>
  have hE:Hid (subS (pR T) k = (3,pR T)):=Hd (by unfold subS;rw [hn];rfl)
  simp only [hn] at CN
  clear h
  go_enter Tryz.func171,Tryz.ntmps171
  go_wp2_with fail
  refine (CN.out _).mono ?_
  rintro e w1 ⟨rfl,rfl⟩
  go_wp2_with fail
  go_ret
  exact ⟨by rw [hE.out];rfl,_,T,OpX.same H.out oz,by rw [hE.out]⟩
 | true =>
 simp only [hn] at CN
 obtain ⟨is,his⟩:∃ q,(rT T k).isSome = q:=⟨_,rfl⟩
 rw [his] at CF
 clear h
 go_enter Tryz.func171,Tryz.ntmps171
 go_wp2_with fail
 refine (CN.out _).mono ?_
 rintro e w1 ⟨rfl,rfl⟩
 go_wp2_with fail
 refine CF.out.mono ?_
 rintro e w1 ⟨rfl,ho1⟩
 have HO1:=Hd ho1
 clear ho1 CN CF
 cases is with
 | true =>
  have hE:Hid (subS (pR T) k = (5,pR T)):=Hd (by unfold subS;rw [hn,fnd_rT',his];rfl)
  go_wp2_with fail
  go_ret
  exact ⟨by rw [hE.out];rfl,_,T,OpX.same H.out HO1.out,by rw [hE.out]⟩
 | false =>
 have H1:=Hd (H.out.only HO1.out)
 have c0:=H1.out.cells.cell (k:=0) rfl
 by_cases h20:T.length = 20
 · have hE:Hid (subS (pR T) k = (11,pR T)):=Hd (by unfold subS;rw [hn,fnd_rT',his,pR_len,h20];rfl)
   have d20:decide ((20:Int) ≤ (T.length:Int)) = true:=by simp;omega
   go_wp2_with fail
   go_ret
   exact ⟨by rw [hE.out];rfl,_,T,OpX.same H.out HO1.out,by rw [hE.out]⟩
 have hE:Hid (subS (pR T) k = (0,insBy Prod.fst (k,(⟨-1,0,[]⟩:Fd)) (pR T))):=Hd (by unfold subS;rw [hn,fnd_rT',his,pR_len];simp [h20])
 have d20:decide ((20:Int) ≤ (T.length:Int)) = false:=by simp;omega
 obtain ⟨i,hi⟩:∃ i,ixR T k = i:=⟨_,rfl⟩
 have hiN:i ≤ T.length:=hi ▸ ixB_le Rf.nm k T
 have hNone:Hid (rT T k = none):=Hd (by cases hh:rT T k with
  | none => rfl
  | some t => rw [hh] at his;cases his)
 have HI:=Hd hi
 rw [hi]
 obtain ⟨N,hN⟩:∃ N,T.length = N:=⟨_,rfl⟩
 have HN:=Hd hN
 have hcc:N ≤ c:=by
  obtain ⟨_,A',c',hv,hnc,_,_⟩:=SlAt.of_own H.out.row
  injection hv with _ _ e3
  omega
 have HS1:=Hd (H1.out.src1 hiN)
 have HS2:=Hd (H1.out.src2 hiN)
 rw [hN] at c0 d20 hiN hcap HS2 H H1
 have hiN':(i:Int) ≤ (N:Int):=by omega
 have hic:(i:Int) ≤ (c:Int):=by omega
 have t0:=fun u:Since w1 => u.cell c0
 clear hi his hN h20
 go_upto_region 9 with fail
 clear c0
 obtain ⟨P1,hP1⟩:∃ x,rfL (T.take i) = x:=⟨_,rfl⟩
 obtain ⟨P2,hP2⟩:∃ x,rfL (T.drop i) = x:=⟨_,rfl⟩
 rw [hP1] at HS1
 rw [hP2] at HS2
 have HP1:=Hd hP1
 have HP2:=Hd hP2
 clear hP1 hP2
 refine wp_region_pendN w1 oz [(26,OwW w1.heap.size 142 4 0 []),(33,OwW w1.heap.size 142 4 i P1),(36,OwW w1.heap.size 142 4 1 [.string ⟨k.toArray⟩,.int .i64 (-1),.int .i64 0,.slice none 0 0]),(37,OwW w1.heap.size 142 4 (i + 1) (P1 ++ [.string ⟨k.toArray⟩,.int .i64 (-1),.int .i64 0,.slice none 0 0])),(44,OwW w1.heap.size 142 4 (N + 1) ((P1 ++ [.string ⟨k.toArray⟩,.int .i64 (-1),.int .i64 0,.slice none 0 0]) ++ P2))] [(33,26),(37,33),(44,37)] 22 (by intro p hp;simp at hp;rcases hp with rfl | rfl | rfl | rfl | rfl <;> exact OwW.lasts _ _ _ _ _) (by kernel_rfl) (by kernel_rfl) (by decide) (fun val => ?_)
 simp only [tk1,tk0,dr1,dr0]
 refine fit_segN 1 (by kernel_rfl) ?_
 simp only [tk1,tk0,dr1,dr0]
 repeat (go_big_quiet_step (fail))
 refine wpQuiet_nil ?_
 refine fit_litO 26 142 4 [] 0 rfl rfl (by simp) (by simp) rfl (by decide) (fun w5 => by go_simp) rfl ?_
 simp only [Act.put,sia,sc0,sc1]
 refine fit_segN 6 (by kernel_rfl) ?_
 simp only [tk1,tk0,dr1,dr0]
 repeat (go_big_quiet_step (fail))
 refine wpQuiet_nil ?_
 refine fit_append 33 26 (.tmp 32) 126 142 i0 (.agg #[.string ⟨#[]⟩,.int .i64 0,.int .i64 0,.slice none 0 0]) 4 56 Tryz.underlying126 hi0 hz0 hz1 hz2 rfl (by decide) 0 i i [] P1 P1 (by omega) rfl rfl rfl rfl (by simp) (by simp) (by simp) (by decide) rfl rfl (fun w5 hw5 => HS1.out.only hw5.1) (by unfold maxLen;omega) (by omega) rfl ?_
 simp only [Act.put,sia,sc0,sc1]
 refine fit_segN 2 (by kernel_rfl) ?_
 simp only [tk1,tk0,dr1,dr0]
 repeat (go_big_quiet_step (fail))
 refine wpQuiet_nil ?_
 refine fit_litO 36 142 4 [.string ⟨k.toArray⟩,.int .i64 (-1),.int .i64 0,.slice none 0 0] 1 rfl rfl (by simp) (by simp) rfl (by decide) (fun w5 => by go_simp) rfl ?_
 simp only [Act.put,sia,sc0,sc1]
 refine fit_append 37 33 (.tmp 36) 126 142 i0 (.agg #[.string ⟨#[]⟩,.int .i64 0,.int .i64 0,.slice none 0 0]) 4 56 Tryz.underlying126 hi0 hz0 hz1 hz2 rfl (by decide) i 1 (i + 1) P1 [.string ⟨k.toArray⟩,.int .i64 (-1),.int .i64 0,.slice none 0 0] (P1 ++ [.string ⟨k.toArray⟩,.int .i64 (-1),.int .i64 0,.slice none 0 0]) (by omega) rfl rfl rfl rfl (by simp) (by simp) (by simp) (by decide) rfl rfl (fun w5 hw5 => SrcA.own (hw5.2 (36,OwW w1.heap.size 142 4 1 [.string ⟨k.toArray⟩,.int .i64 (-1),.int .i64 0,.slice none 0 0]) (by simp) (by show 36 ∈ Oper.looksAt _ _;decide)) (by simp [Value.oneCell'])) (by unfold maxLen;omega) (by omega) rfl ?_
 simp only [Act.put,sia,sc0,sc1]
 refine fit_segN 6 (by kernel_rfl) ?_
 simp only [tk1,tk0,dr1,dr0]
 repeat (go_big_quiet_step (fail))
 refine wpQuiet_nil ?_
 refine fit_append 44 37 (.tmp 43) 126 142 i0 (.agg #[.string ⟨#[]⟩,.int .i64 0,.int .i64 0,.slice none 0 0]) 4 56 Tryz.underlying126 hi0 hz0 hz1 hz2 rfl (by decide) (i + 1) (N - i) (N + 1) (P1 ++ [.string ⟨k.toArray⟩,.int .i64 (-1),.int .i64 0,.slice none 0 0]) P2 ((P1 ++ [.string ⟨k.toArray⟩,.int .i64 (-1),.int .i64 0,.slice none 0 0]) ++ P2) (by omega) rfl rfl rfl rfl (by simp) (by simp) (by simp) (by decide) rfl rfl (fun w5 hw5 => HS2.out.only hw5.1) (by unfold maxLen;omega) (by omega) rfl ?_
 simp only [Act.put,sia,sc0,sc1]
 refine fit_segN 2 (by kernel_rfl) ?_
 simp only [tk1,tk0,dr1,dr0]
 repeat (go_big_quiet_step (fail))
 refine wpQuiet_nil ?_
 intro w5 ho5 hV5
 have hown5:=hV5 (by decide) (44,OwW w1.heap.size 142 4 (N + 1) ((P1 ++ [.string ⟨k.toArray⟩,.int .i64 (-1),.int .i64 0,.slice none 0 0]) ++ P2)) (by simp) (by simp)
 obtain ⟨u,hu⟩:∃ u,val 44 = u:=⟨_,rfl⟩
 have hown5:w5.ownsRow w1.heap.size 142 4 u (N + 1) ((P1 ++ [.string ⟨k.toArray⟩,.int .i64 (-1),.int .i64 0,.slice none 0 0]) ++ P2):=hu ▸ hown5
 rw [hu]
 have hO5:=HO1.out.tr0 ho5
 have HX:=Hd (RsX.newrow (T':=insBy Rf.nm ⟨k,⟨-1,0,[]⟩,.slice none 0 0⟩ T) (n:=N + 1) H.out hO5 HO1.out.size (by
  have e1:rfL (insBy Rf.nm ⟨k,⟨-1,0,[]⟩,.slice none 0 0⟩ T) = (P1 ++ [.string ⟨k.toArray⟩,.int .i64 (-1),.int .i64 0,.slice none 0 0]) ++ P2:=by
   rw [insBy_at]
   show rfL (T.take (ixR T k) ++ _ :: T.drop (ixR T k)) = _
   rw [HI.out]
   unfold rfL at HP1 HP2 ⊢
   rw [List.flatMap_append,List.flatMap_cons,HP1.out,HP2.out,List.append_assoc]
   rfl
  rw [e1]
  exact hown5) (by rw [insBy_length,HN.out]) (fun t ht => by
  rcases List.mem_cons.1 ((insBy_perm Rf.nm _ T).mem_iff.1 ht) with rfl | ht
  · exact .inr ⟨rfl,rfl,hn⟩
  · exact .inl ht) (insBy_sorted Rf.nm _ T H.out.srt (fun a ha e => by
  have:=List.find?_eq_none.1 hNone.out a ha
  simp at this
  exact this e)) (by rw [insBy_length,HN.out];have:=of_decide_eq_false d20;omega))
 have hb5:=(H.out.only hO5).cells
 have b0:=hb5.cell (k:=0) rfl
 have b1:=hb5.frozen 0
 have b2:=hb5.lt
 clear hown5 hV5 hu t0 ho5 hO5 hb5
 obtain ⟨A5,c5,rfl⟩:∃ A5 c5,u = .slice A5 (N + 1) c5:=by
  have:=(SlAt.of_own HX.out.st.row).shape
  rw [insBy_length,HN.out] at this
  exact this
 clear HS1 HS2
 generalize (if c = i then A else Option.map (fun x:Addr => x.add (i * 4)) A) = A9
 go_wp2_with fail
 go_ret
 have hN:=HN.out
 subst hN
 refine ⟨by rw [hE.out];rfl,_,_,HX.out,?_⟩
 rw [hE.out]
 show pR (insBy Rf.nm _ T) = insBy Prod.fst _ (pR T)
 unfold pR
 rw [insBy_map Rf.nm (fun t => (t.nm,t.fd)) Prod.fst (fun _ => rfl)]
theorem rs_unsub (b:Nat) (v:Value) (T:List Rf) (k:List UInt8) (hk:k.length ≤ maxLen) (w:World) (h:RsX w b v T):
 Calls Tryz.prog 172 #[.pointer (some ⟨b,0,none⟩),.string ⟨k.toArray⟩] w fun e w' => e = .returned (.int .i64 (unS (pR T) k).1) ∧ ∃ v' T',OpX w w' b v v' T T' ∧ pR T' = (unS (pR T) k).2:=by
 obtain ⟨i0,hi0,hz0,hz1,hz2⟩:=info_parts info_rfeed
 obtain ⟨A,c,rfl⟩:=(SlAt.of_own h.row).shape
 have H:=Hd h
 have CF:=Hd (rs_find b _ T k hk w h)
 have hcap:=h.cap
 clear h
 cases hf:rT T k with
 | none =>
  have hE:Hid (unS (pR T) k = (4,pR T)):=Hd (by unfold unS;rw [fnd_rT',hf];rfl)
  rw [hf] at CF
  go_enter Tryz.func172,Tryz.ntmps172
  go_wp2_with fail
  refine CF.out.mono ?_
  rintro e w1 ⟨rfl,ho1⟩
  have HO1:=Hd ho1
  clear ho1 CF
  go_wp2_with fail
  go_ret
  exact ⟨by rw [hE.out];rfl,_,T,OpX.same H.out HO1.out,by rw [hE.out]⟩
 | some t =>
 have hE:Hid (unS (pR T) k = (0,delBy Prod.fst k (pR T))):=Hd (by unfold unS;rw [fnd_rT',hf];rfl)
 have hfa:=find_at Rf.nm k T H.out.srt
 have hat:T[ixR T k]? = some t ∧ t.nm = k:=by
  unfold rT at hf
  rw [hf] at hfa
  unfold ixR
  cases hx:T[ixB Rf.nm k T]? with
  | none => rw [hx] at hfa;cases hfa
  | some a =>
   rw [hx] at hfa
   dsimp only at hfa
   split at hfa
   · rename_i he;injection hfa with hfa;subst hfa;exact ⟨rfl,he⟩
   · cases hfa
 obtain ⟨i,hi⟩:∃ i,ixR T k = i:=⟨_,rfl⟩
 rw [hi] at hat
 have hiN:i < T.length:=(List.getElem?_eq_some_iff.1 hat.1).1
 have HAT:=Hd hat
 have HI:=Hd hi
 rw [hf,hi] at CF
 clear hf hfa hat hi
 go_enter Tryz.func172,Tryz.ntmps172
 go_wp2_with fail
 refine CF.out.mono ?_
 rintro e w1 ⟨rfl,ho1⟩
 have HO1:=Hd ho1
 clear ho1 CF
 have H1:=Hd (H.out.only HO1.out)
 have c0:=H1.out.cells.cell (k:=0) rfl
 obtain ⟨N,hN⟩:∃ N,T.length = N:=⟨_,rfl⟩
 have HN:=Hd hN
 have hcc:N ≤ c:=by
  obtain ⟨_,A',c',hv,hnc,_,_⟩:=SlAt.of_own H.out.row
  injection hv with _ _ e3
  omega
 have HS1:=Hd (H1.out.src1 (i:=i) (by omega))
 have HS2:=Hd (H1.out.src2 (i:=i + 1) (by omega))
 rw [hN] at c0 hiN hcap HS2 H H1
 have hiN':(i:Int) ≤ (N:Int):=by omega
 have hiN2:(i:Int) + 1 ≤ (N:Int):=by omega
 have hic:(i:Int) ≤ (c:Int):=by omega
 have hic2:(i:Int) + 1 ≤ (c:Int):=by omega
 have hwr:IntKind.i64.wrap ((i:Int) + 1) = ((i + 1:Nat):Int):=by rw [IntKind.wrap_i64];omega
 have t0:=fun u:Since w1 => u.cell c0
 clear hN
 go_upto_region 4 with fail
 clear c0
 obtain ⟨P1,hP1⟩:∃ x,rfL (T.take i) = x:=⟨_,rfl⟩
 obtain ⟨P2,hP2⟩:∃ x,rfL (T.drop (i + 1)) = x:=⟨_,rfl⟩
 rw [hP1] at HS1
 rw [hP2] at HS2
 have HP1:=Hd hP1
 have HP2:=Hd hP2
 clear hP1 hP2
 refine wp_region_pendN w1 oz [(16,OwW w1.heap.size 142 4 0 []),(23,OwW w1.heap.size 142 4 i P1),(31,OwW w1.heap.size 142 4 (N - 1) (P1 ++ P2))] [(23,16),(31,23)] 19 (by intro p hp;simp at hp;rcases hp with rfl | rfl | rfl <;> exact OwW.lasts _ _ _ _ _) (by kernel_rfl) (by kernel_rfl) (by decide) (fun val => ?_)
 simp only [tk1,tk0,dr1,dr0]
 refine fit_segN 1 (by kernel_rfl) ?_
 simp only [tk1,tk0,dr1,dr0]
 repeat (go_big_quiet_step (fail))
 refine wpQuiet_nil ?_
 refine fit_litO 16 142 4 [] 0 rfl rfl (by simp) (by simp) rfl (by decide) (fun w5 => by go_simp) rfl ?_
 simp only [Act.put,sia,sc0,sc1]
 refine fit_segN 6 (by kernel_rfl) ?_
 simp only [tk1,tk0,dr1,dr0]
 repeat (go_big_quiet_step (fail))
 refine wpQuiet_nil ?_
 refine fit_append 23 16 (.tmp 22) 126 142 i0 (.agg #[.string ⟨#[]⟩,.int .i64 0,.int .i64 0,.slice none 0 0]) 4 56 Tryz.underlying126 hi0 hz0 hz1 hz2 rfl (by decide) 0 i i [] P1 P1 (by omega) rfl rfl rfl rfl (by simp) (by simp) (by simp) (by decide) rfl rfl (fun w5 hw5 => HS1.out.only hw5.1) (by unfold maxLen;omega) (by omega) rfl ?_
 simp only [Act.put,sia,sc0,sc1]
 refine fit_segN 7 (by kernel_rfl) ?_
 simp only [tk1,tk0,dr1,dr0]
 repeat (go_big_quiet_step (fail))
 refine wpQuiet_nil ?_
 refine fit_append 31 23 (.tmp 30) 126 142 i0 (.agg #[.string ⟨#[]⟩,.int .i64 0,.int .i64 0,.slice none 0 0]) 4 56 Tryz.underlying126 hi0 hz0 hz1 hz2 rfl (by decide) i (N - (i + 1)) (N - 1) P1 P2 (P1 ++ P2) (by omega) rfl rfl rfl rfl (by simp) (by simp) (by simp) (by decide) rfl rfl (fun w5 hw5 => HS2.out.only hw5.1) (by unfold maxLen;omega) (by omega) rfl ?_
 simp only [Act.put,sia,sc0,sc1]
 refine fit_segN 2 (by kernel_rfl) ?_
 simp only [tk1,tk0,dr1,dr0]
 repeat (go_big_quiet_step (fail))
 refine wpQuiet_nil ?_
 intro w5 ho5 hV5
 have hown5:=hV5 (by decide) (31,OwW w1.heap.size 142 4 (N - 1) (P1 ++ P2)) (by simp) (by simp)
 obtain ⟨u,hu⟩:∃ u,val 31 = u:=⟨_,rfl⟩
 have hown5:w5.ownsRow w1.heap.size 142 4 u (N - 1) (P1 ++ P2):=hu ▸ hown5
 rw [hu]
 have hO5:=HO1.out.tr0 ho5
 have hdl:delBy Rf.nm k T = T.take i ++ T.drop (i + 1):=by
  have:=delBy_at Rf.nm k T H.out.srt t (by have:=HAT.out.1;rw [← HI.out] at this;exact this) HAT.out.2
  rw [show ixB Rf.nm k T = i from HI.out] at this
  exact this
 have hlen:(delBy Rf.nm k T).length = N - 1:=by rw [hdl,List.length_append,List.length_take,List.length_drop,HN.out];omega
 have HX:=Hd (RsX.newrow (T':=delBy Rf.nm k T) (n:=N - 1) H.out hO5 HO1.out.size (by
  have e1:rfL (delBy Rf.nm k T) = P1 ++ P2:=by
   rw [hdl]
   unfold rfL at HP1 HP2 ⊢
   rw [List.flatMap_append,HP1.out,HP2.out]
  rw [e1]
  exact hown5) hlen (fun t ht => .inl (List.mem_filter.1 ht).1) (H.out.srt.sublist List.filter_sublist) (by rw [hlen];omega))
 have HL:=Hd hlen
 have hb5:=(H.out.only hO5).cells
 have b0:=hb5.cell (k:=0) rfl
 have b1:=hb5.frozen 0
 have b2:=hb5.lt
 clear hown5 hV5 hu t0 ho5 hO5 hb5 hdl hlen
 obtain ⟨A5,c5,rfl⟩:∃ A5 c5,u = .slice A5 (N - 1) c5:=by
  have:=(SlAt.of_own HX.out.st.row).shape
  rw [HL.out] at this
  exact this
 clear HS1 HS2
 generalize (if c = i + 1 then A else Option.map (fun x:Addr => x.add ((i + 1) * 4)) A) = A9
 go_wp2_with fail
 go_ret
 have hN:=HN.out
 subst hN
 refine ⟨by rw [hE.out];rfl,_,_,HX.out,?_⟩
 rw [hE.out]
 exact delBy_map Rf.nm (fun t => (t.nm,t.fd)) Prod.fst (fun _ => rfl) k T
theorem rT_at {T:List Rf} {k:List UInt8} {t:Rf} (hs:T.Pairwise (fun a b => a.nm < b.nm)) (hf:rT T k = some t):T[ixR T k]? = some t ∧ t.nm = k:=by
 have hfa:=find_at Rf.nm k T hs
 unfold rT at hf
 rw [hf] at hfa
 unfold ixR
 cases hx:T[ixB Rf.nm k T]? with
 | none => rw [hx] at hfa;cases hfa
 | some a =>
  rw [hx] at hfa
  dsimp only at hfa
  split at hfa
  · rename_i he;injection hfa with hfa;subst hfa;exact ⟨rfl,he⟩
  · cases hfa
def idxI (ps:List Po) (k:List UInt8):Int:=match idx ps k with
 | none => -1
 | some i => i
theorem idx_hit {ps:List Po} {k:List UInt8} {j:Nat} {x:Po} (hx:ps[j]? = some x) (he:x.it.id = k) (hno:∀ i y,i < j → ps[i]? = some y → y.it.id ≠ k):idx ps k = some j:=by
 unfold idx
 obtain ⟨hj,rfl⟩:=List.getElem?_eq_some_iff.1 hx
 refine List.findIdx?_eq_some_iff_getElem.2 ⟨hj,by simpa using he,fun i hi => ?_⟩
 have:=hno i ps[i] hi (List.getElem?_eq_getElem (by omega))
 simpa using this
theorem idx_miss {ps:List Po} {k:List UInt8} (hno:∀ i y,i < ps.length → ps[i]? = some y → y.it.id ≠ k):idx ps k = none:=by
 unfold idx
 refine List.findIdx?_eq_none_iff.2 fun y hy => ?_
 obtain ⟨i,hi,rfl⟩:=List.getElem_of_mem hy
 have:=hno i ps[i] hi (List.getElem?_eq_getElem hi)
 simpa using this
theorem ref17_post (nm:List UInt8) (p q:Int) (pv:Value) (ps:List Po) (k:List UInt8) (w:World) (h:RfS w pv 5 ps.length (poL ps)) (hl:ps.length ≤ 1000):
 Calls Tryz.prog 219 #[.agg #[.string ⟨nm.toArray⟩,.int .i64 p,.int .i64 q,pv],.string ⟨k.toArray⟩] w fun e w' => e = .returned (.int .i64 (idxI ps k)) ∧ Only [] w w':=by
 obtain ⟨A,c,rfl,_,_⟩:=h.shape
 obtain ⟨w1,hw1⟩:∃ w1,w.alloc (.cells #[.string ⟨nm.toArray⟩,.int .i64 p,.int .i64 q,.slice A ps.length c] 142) = w1:=⟨_,rfl⟩
 obtain ⟨z,hz⟩:∃ z,w.heap.size = z:=⟨_,rfl⟩
 have O1:Only [] w w1:=hw1 ▸ oz.alloc _
 have hC:Cells w1 z 142 [.string ⟨nm.toArray⟩,.int .i64 p,.int .i64 q,.slice A ps.length c]:=hw1 ▸ hz ▸ Cells.new w _ _
 have HS:=Hd (h.only O1).sl
 have HO:=Hd O1
 have z3:=hC.cell (k:=3) rfl
 clear h O1 hC
 go_enter Tryz.func219,Tryz.ntmps219
 go_wp2_with fail
 clear hw1 hz
 go_loopw [5] (fun i wr => ∃ j:Nat,j ≤ ps.length ∧ i = .int .i64 j ∧ w1 = wr ∧ Hid (∀ i y,i < j → ps[i]? = some y → y.it.id ≠ k)) (fun i _ => ps.length - (intOf i).toNat)
 case atStart => exact ⟨0,by omega,rfl,rfl,Hd (fun i y hi => by omega)⟩
 case round =>
  obtain ⟨j,hj,rfl,rfl,hno⟩:=hrel
  by_cases hlt:j < ps.length
  · have hlt':(j:Int) < (ps.length:Int):=by omega
    obtain ⟨x,hx⟩:∃ x,ps[j]? = some x:=⟨_,List.getElem?_eq_getElem hlt⟩
    obtain ⟨b1,o1,c1,g1,_,p1,_,_,_⟩:=poL_at HS.out rfl hx
    injection g1 with i1 _ i3
    subst i1;subst i3
    by_cases he:x.it.id = k
    · have hE:Hid (idxI ps k = j):=Hd (by unfold idxI;rw [idx_hit hx he hno.out])
      have heq:(x.it.id == k) = true:=by simpa using he
      clear hx hno he
      go_wp2_with fail
      go_ret
      exact ⟨by rw [hE.out];rfl,HO.out⟩
    · have heq:(x.it.id == k) = false:=by simpa using he
      have HN:Hid (∀ i y,i < j + 1 → ps[i]? = some y → y.it.id ≠ k):=Hd (fun i y hi hy => by
       by_cases hij:i = j
       · subst hij;rw [hx] at hy;injection hy with hy;subst hy;exact he
       · exact hno.out i y (by omega) hy)
      have hwr:IntKind.i64.wrap ((j:Int) + 1) = (j:Int) + 1:=by rw [IntKind.wrap_i64];omega
      clear hx hno he
      go_wp2_with fail
      go_roundw
      case rel => exact ⟨j + 1,by omega,by go_num,trivial,HN⟩
      case measure => simp [intOf];omega
  · obtain rfl:j = ps.length:=by omega
    have hE:Hid (idxI ps k = -1):=Hd (by unfold idxI;rw [idx_miss hno.out])
    have hd:decide ((ps.length:Int) < (ps.length:Int)) = false:=by simp
    clear hno
    go_wp2_with fail
    go_ret
    exact ⟨by rw [hE.out];rfl,HO.out⟩
theorem ref17_time (now:Int) (w:World):Calls Tryz.prog 218 #[.int .i64 now] w fun e w' => e = .returned (.bool (okT now)) ∧ w = w':=by
 by_cases h0:0 ≤ now
 · have d0:decide (0 ≤ now) = true:=by simpa using h0
   obtain ⟨q,hq⟩:∃ q,decide (now ≤ 1099511627776) = q:=⟨_,rfl⟩
   have hE:okT now = q:=by unfold okT;rw [d0,hq];rfl
   rw [hE]
   go_enter Tryz.func218,Tryz.ntmps218
   go_wp2_with fail
   go_ret
   exact ⟨rfl,rfl⟩
 · have d0:decide (0 ≤ now) = false:=by simpa using h0
   have hE:okT now = false:=by unfold okT;rw [d0];rfl
   rw [hE]
   go_enter Tryz.func218,Tryz.ntmps218
   go_wp2_with fail
   go_ret
   exact ⟨rfl,rfl⟩
def Rf.with (t:Rf) (f:Fd) (v:Value):Rf:=⟨t.nm,f,v⟩
theorem row_f1 {w:World} {base g cap n i:Nat} {e:TypeId} {T:List Rf} {t:Rf} (h:w.ownsRow base e 4 (.slice (some ⟨g,0,none⟩) n cap) n (rfL T)) (ht:T[i]? = some t) (p:Int):
 (w.setCell ⟨g,i * 4 + 1,none⟩ (.int .i64 p)).ownsRow base e 4 (.slice (some ⟨g,0,none⟩) n cap) n (rfL (T.set i (t.with ⟨p,t.fd.fai,t.fd.ps⟩ t.v))):=by
 have h1:=(h.stored (i * 4 + 1) (.int .i64 p)).1
 unfold rfL at h1 ⊢
 rwa [flat_set Rf.cells 4 (fun _ => rfl) T i 1 t (t.with ⟨p,t.fd.fai,t.fd.ps⟩ t.v) (.int .i64 p) ht (by omega) rfl] at h1
theorem row_f2 {w:World} {base g cap n i:Nat} {e:TypeId} {T:List Rf} {t:Rf} (h:w.ownsRow base e 4 (.slice (some ⟨g,0,none⟩) n cap) n (rfL T)) (ht:T[i]? = some t) (q:Int):
 (w.setCell ⟨g,i * 4 + 2,none⟩ (.int .i64 q)).ownsRow base e 4 (.slice (some ⟨g,0,none⟩) n cap) n (rfL (T.set i (t.with ⟨t.fd.pol,q,t.fd.ps⟩ t.v))):=by
 have h1:=(h.stored (i * 4 + 2) (.int .i64 q)).1
 unfold rfL at h1 ⊢
 rwa [flat_set Rf.cells 4 (fun _ => rfl) T i 2 t (t.with ⟨t.fd.pol,q,t.fd.ps⟩ t.v) (.int .i64 q) ht (by omega) rfl] at h1
theorem row_f3 {w:World} {base g cap n i:Nat} {e:TypeId} {T:List Rf} {t:Rf} (h:w.ownsRow base e 4 (.slice (some ⟨g,0,none⟩) n cap) n (rfL T)) (ht:T[i]? = some t) (ps:List Po) (pv:Value):
 (w.setCell ⟨g,i * 4 + 3,none⟩ pv).ownsRow base e 4 (.slice (some ⟨g,0,none⟩) n cap) n (rfL (T.set i (t.with ⟨t.fd.pol,t.fd.fai,ps⟩ pv))):=by
 have h1:=(h.stored (i * 4 + 3) pv).1
 unfold rfL at h1 ⊢
 rwa [flat_set Rf.cells 4 (fun _ => rfl) T i 3 t (t.with ⟨t.fd.pol,t.fd.fai,ps⟩ pv) pv ht (by omega) rfl] at h1
theorem row_f0 {w:World} {base g cap n i:Nat} {e:TypeId} {T:List Rf} {t:Rf} (h:w.ownsRow base e 4 (.slice (some ⟨g,0,none⟩) n cap) n (rfL T)) (ht:T[i]? = some t):
 (w.setCell ⟨g,i * 4,none⟩ (.string ⟨t.nm.toArray⟩)).ownsRow base e 4 (.slice (some ⟨g,0,none⟩) n cap) n (rfL T):=by
 have h1:=(h.stored (i * 4 + 0) (.string ⟨t.nm.toArray⟩)).1
 unfold rfL at h1 ⊢
 rw [flat_set Rf.cells 4 (fun _ => rfl) T i 0 t t (.string ⟨t.nm.toArray⟩) ht (by omega) rfl] at h1
 have e1:T.set i t = T:=by
  obtain ⟨hi,rfl⟩:=List.getElem?_eq_some_iff.1 ht
  exact List.set_getElem_self hi
 rwa [e1] at h1
theorem RsX.put {w w':World} {b g c:Nat} {T:List Rf} {k:List UInt8} {t:Rf} {f:Fd} {pv:Value} (h:RsX w b (.slice (some ⟨g,0,none⟩) T.length c) T) (hf:rT T k = some t)
 (ho:Only [g] w w') (hrow:w'.ownsRow 0 142 4 (.slice (some ⟨g,0,none⟩) T.length c) T.length (rfL (T.set (ixR T k) (t.with f pv))))
 (hp:RfS w' pv 5 f.ps.length (poL f.ps)) (hpb:∀ q,pv.ownBlock = some q → t.v.ownBlock = some q ∨ (w.heap.size ≤ q ∧ q < w'.heap.size)) (hg:FdG f):
 OpX w w' b (.slice (some ⟨g,0,none⟩) T.length c) (.slice (some ⟨g,0,none⟩) T.length c) T (T.set (ixR T k) (t.with f pv)) ∧ pR (T.set (ixR T k) (t.with f pv)) = putBy Prod.fst k (k,f) (pR T):=by
 obtain ⟨hat,hk⟩:=rT_at h.srt hf
 have hgl:=(h.row.lt g rfl).2
 have hbg:b ≠ g:=fun e => h.vb (by rw [e];rfl)
 have hT:T.set (ixR T k) (t.with f pv) = putBy Rf.nm k (t.with f pv) T:=(putBy_at Rf.nm k _ T h.srt t hat hk).symm
 have hmem:∀ u ∈ T.set (ixR T k) (t.with f pv),u = t.with f pv ∨ u ∈ T:=fun u hu => (List.mem_or_eq_of_mem_set hu).symm
 have htm:=List.mem_of_getElem? hat
 have hpbt:=h.pb t htm
 refine ⟨⟨⟨h.cells.only ho (by simpa using hbg),?_,fun u hu => ?_,fun u hu q hq => ?_,?_,?_,fun u hu => ?_,fun u hu => ?_⟩,?_,fun x hx => ?_⟩,?_⟩
 · rw [List.length_set];exact hrow
 · rcases hmem u hu with rfl | hu
   · exact hp
   · exact (h.ps u hu).keep ho (fun x hx e => by simp at hx;subst hx;exact (h.pb u hu x e).2.2 rfl)
 · rcases hmem u hu with rfl | hu
   · rcases hpb q hq with h1 | ⟨h1,h2⟩
     · have:=hpbt q h1
       exact ⟨Nat.lt_of_lt_of_le this.1 ho.size,this.2.1,this.2.2⟩
     · have:=h.cells.lt
       refine ⟨h2,by omega,fun e => ?_⟩
       simp only [Value.ownBlock,Option.some.injEq] at e
       omega
   · have:=h.pb u hu q hq
     exact ⟨Nat.lt_of_lt_of_le this.1 ho.size,this.2.1,this.2.2⟩
 · rw [hT,sorted_keys Rf.nm,putBy_keys Rf.nm k (t.with f pv) T hk,← sorted_keys];exact h.srt
 · rw [List.length_set];exact h.cap
 · rcases hmem u hu with rfl | hu
   · exact h.nml t htm
   · exact h.nml u hu
 · rcases hmem u hu with rfl | hu
   · exact hg
   · exact h.fg u hu
 · exact ho.mono (fun x hx => .inl (by simp at hx;subst hx;simp [allR,rb,Value.ownBlock]))
 · unfold allR at hx
   rcases List.mem_cons.1 hx with rfl | hx
   · left;simp [allR]
   · rcases List.mem_append.1 hx with hx | hx
     · left
       unfold allR
       exact List.mem_cons_of_mem _ (List.mem_append_left _ (by simpa [rb,Value.ownBlock] using hx))
     · obtain ⟨u,hu,hq⟩:=List.mem_flatMap.1 hx
       rcases hmem u hu with rfl | hu
       · rcases hpb x (mem_rb'.1 hq) with h1 | ⟨h1,_⟩
         · exact .inl (mem_allR htm h1)
         · exact .inr h1
       · exact .inl (mem_allR hu (mem_rb'.1 hq))
 · rw [hT]
   unfold pR
   rw [putBy_map Rf.nm (fun t => (t.nm,t.fd)) Prod.fst (fun _ => rfl)]
   rw [show (t.with f pv).nm = k from hk]
   rfl
theorem RsX.fz {w:World} {b g c:Nat} {T:List Rf} (h:RsX w b (.slice (some ⟨g,0,none⟩) T.length c) T) (j:Nat):w.frozen? ⟨g,j,none⟩ = false:=h.row.frozenAt _
theorem rs_fail (b:Nat) (v:Value) (T:List Rf) (k:List UInt8) (hk:k.length ≤ maxLen) (now:Int) (w:World) (h:RsX w b v T):
 Calls Tryz.prog 168 #[.pointer (some ⟨b,0,none⟩),.string ⟨k.toArray⟩,.int .i64 now] w fun e w' => e = .returned (.int .i64 (failS (pR T) k now).1) ∧ ∃ v' T',OpX w w' b v v' T T' ∧ pR T' = (failS (pR T) k now).2:=by
 have H:=Hd h
 have CF:=Hd (rs_find b _ T k hk w h)
 have CT:=Hd (fun w' => ref17_time now w')
 have hcap:=h.cap
 cases hf:rT T k with
 | none =>
  have hE:Hid (failS (pR T) k now = (4,pR T)):=Hd (by unfold failS;rw [fnd_rT,hf];rfl)
  rw [hf] at CF
  clear h
  go_enter Tryz.func168,Tryz.ntmps168
  go_wp2_with fail
  refine CF.out.mono ?_
  rintro e w1 ⟨rfl,ho1⟩
  have HO1:=Hd ho1
  clear ho1 CF
  go_wp2_with fail
  go_ret
  exact ⟨by rw [hE.out];rfl,_,T,OpX.same H.out HO1.out,by rw [hE.out]⟩
 | some t =>
 obtain ⟨hat,htk⟩:=rT_at h.srt hf
 rw [hf] at CF
 cases hn:okT now with
 | false =>
  have hE:Hid (failS (pR T) k now = (1,pR T)):=Hd (by unfold failS;rw [fnd_rT,hf];show (if okT now = true then _ else _) = _;rw [hn];rfl)
  simp only [hn] at CT
  clear h
  go_enter Tryz.func168,Tryz.ntmps168
  go_wp2_with fail
  refine CF.out.mono ?_
  rintro e w1 ⟨rfl,ho1⟩
  have HO1:=Hd ho1
  clear ho1 CF
  go_wp2_with fail
  refine (CT.out _).mono ?_
  rintro e w2 ⟨rfl,rfl⟩
  go_wp2_with fail
  go_ret
  exact ⟨by rw [hE.out];rfl,_,T,OpX.same H.out HO1.out,by rw [hE.out]⟩
 | true =>
 have hE:Hid (failS (pR T) k now = (0,putBy Prod.fst k (k,failF t.fd now) (pR T))):=Hd (by unfold failS;rw [fnd_rT,hf];show (if okT now = true then _ else _) = _;rw [hn];rfl)
 simp only [hn] at CT
 obtain ⟨g,c,rfl,hgl,_,_,_,_⟩:=h.at_ hat
 obtain ⟨i,hi⟩:∃ i,ixR T k = i:=⟨_,rfl⟩
 have HAT:=Hd hat
 have HF:=Hd hf
 have HI:=Hd hi
 have hil:i < T.length:=hi ▸ (List.getElem?_eq_some_iff.1 hat).1
 rw [hi] at CF
 have hfg:=(h.fg t (List.mem_of_getElem? hat)).nb
 obtain ⟨hn0,hn1⟩:=okT_iff.1 hn
 have hbg:b ≠ g:=fun e => h.vb (by rw [e];rfl)
 clear h hat hf hi
 go_enter Tryz.func168,Tryz.ntmps168
 go_wp2_with fail
 refine CF.out.mono ?_
 rintro e w1 ⟨rfl,ho1⟩
 have HO1:=Hd ho1
 clear ho1 CF
 go_wp2_with fail
 refine (CT.out _).mono ?_
 rintro e w2 ⟨rfl,rfl⟩
 clear CT
 have hX1:=H.out.only HO1.out
 obtain ⟨g',c',hv',hg1,q0,q1,q2,q3⟩:=hX1.at_ (by have:=HAT.out;rw [HI.out] at this;exact this)
 injection hv' with e1 _ e3
 injection e1 with e1
 injection e1 with e1
 subst e1;subst e3
 have c0:=hX1.cells.cell (k:=0) rfl
 have z1:=hX1.fz (i * 4 + 1)
 obtain ⟨w3,hw3⟩:∃ u,w1.setCell ⟨g,i * 4 + 1,none⟩ (.int .i64 now) = u:=⟨_,rfl⟩
 have o3:Only [g] w1 w3:=hw3 ▸ oz.setCell (.inl (by simp)) _
 have hrow3:w3.ownsRow 0 142 4 (.slice (some ⟨g,0,none⟩) T.length c) T.length (rfL (T.set i (t.with ⟨now,t.fd.fai,t.fd.ps⟩ t.v))):=hw3 ▸ row_f1 hX1.row (by have:=HAT.out;rw [HI.out] at this;exact this) now
 have hC3:Cells w3 b 128 [.slice (some ⟨g,0,none⟩) T.length c]:=hX1.cells.only o3 (by simpa using hbg)
 have d0:=hC3.cell (k:=0) rfl
 have u0:=fun u:Since w3 => u.cell d0
 have q2':w3.cell? ⟨g,i * 4 + 2,none⟩ = some (.int .i64 t.fd.fai):=by
  obtain ⟨g',_,hv',_,_,hc⟩:=own_cell hrow3 (rfL_get _ i 2 (t.with ⟨now,t.fd.fai,t.fd.ps⟩ t.v) (by simp [hil]) (by omega))
  injection hv' with e1
  injection e1 with e1
  injection e1 with e1
  rw [e1];exact hc
 have u2:=fun u:Since w3 => u.cell q2'
 have HROW3:=Hd hrow3
 have HO3:=Hd (HO1.out.of0.tr o3)
 have HC3:=Hd hC3
 have hwr:IntKind.i64.wrap (t.fd.fai + 1) = t.fd.fai + 1:=by rw [IntKind.wrap_i64];omega
 have hil':(i:Int) < (T.length:Int):=by omega
 clear hX1 o3 hrow3 hC3
 go_upto_region 7 with fail
 clear hw3
 refine wp_region_only_tail w3 oz 17 (by kernel_rfl) (by kernel_rfl) ?_
 simp only [tk1,tk0,dr1,dr0]
 repeat (go_big_quiet_step (fail))
 refine wpQuiet_nil ?_
 rintro ⟨w4,ho4⟩
 dsimp only
 have hrow4:=own_keep HROW3.out ho4 (by simp)
 have z2:w4.frozen? ⟨g,i * 4 + 2,none⟩ = false:=hrow4.frozenAt _
 have q4:=(ho4.cell (p:=⟨g,i * 4 + 2,none⟩) (World.block_lt_of_cell? w3 _ q2') (by simp)).trans q2'
 have hg4:g < w4.heap.size:=World.block_lt_of_cell? w4 _ q4
 have hrow5:=row_f2 (i:=i) hrow4 (t:=t.with ⟨now,t.fd.fai,t.fd.ps⟩ t.v) (by simp [hil]) (min (t.fd.fai + 1) 1000)
 rw [List.set_set] at hrow5
 have o5:Only [g] w4 (w4.setCell ⟨g,i * 4 + 2,none⟩ (.int .i64 (min (t.fd.fai + 1) 1000))):=oz.setCell (.inl (by simp)) _
 have hO5:Only [g] w _:=(HO3.out.tr0 ho4).tr o5
 have hP:=H.out.put (f:=failF t.fd now) (pv:=t.v) HF.out hO5 (by rw [HI.out];exact hrow5) ((H.out.ps t (List.mem_of_getElem? HAT.out)).keep hO5 (fun x hx e => by simp at hx;subst hx;exact (H.out.pb t (List.mem_of_getElem? HAT.out) x e).2.2 rfl)) (fun q hq => .inl hq) ⟨(H.out.fg t (List.mem_of_getElem? HAT.out)).cap,by unfold failF;exact ⟨by show -1 ≤ now;omega,hn1,by show 0 ≤ min (t.fd.fai + 1) 1000;omega,by show min (t.fd.fai + 1) 1000 ≤ 1000;omega⟩⟩
 have HP:=Hd hP
 clear hrow4 hrow5 o5 hO5 hP u0 u2 ho4 d0 q2' HROW3 HO3 HC3
 go_wp2_with fail
 go_ret
 exact ⟨by rw [hE.out];rfl,_,_,HP.out.1,by rw [hE.out];exact HP.out.2⟩
theorem info_post5:(Tryz.prog.info? 101).map (fun i => (i.zero,i.size,i.bytes)) = some (some (.agg #[.int .i64 0,.string .empty,.string .empty,.string .empty,.bool false]),5,64):=by kernel_rfl
theorem poL_one' (l:List Po):∀ u ∈ poL l,u.oneCell' = true:=by
 intro u hu
 obtain ⟨t,_,hm⟩:=List.mem_flatMap.1 hu
 simp only [Po.cells,List.mem_cons,List.not_mem_nil,or_false] at hm
 rcases hm with rfl | rfl | rfl | rfl | rfl <;> rfl
theorem rs_mark (b:Nat) (v:Value) (T:List Rf) (k:List UInt8) (hk:k.length ≤ maxLen) (id:List UInt8) (w:World) (h:RsX w b v T):
 Calls Tryz.prog 173 #[.pointer (some ⟨b,0,none⟩),.string ⟨k.toArray⟩,.string ⟨id.toArray⟩] w fun e w' => e = .returned (.int .i64 (markS (pR T) k id).1) ∧ ∃ v' T',OpX w w' b v v' T T' ∧ pR T' = (markS (pR T) k id).2:=by
 obtain ⟨i0,hi0,hz0,hz1,hz2⟩:=info_parts info_post5
 have H:=Hd h
 have CF:=Hd (rs_find b _ T k hk w h)
 have hcap:=h.cap
 cases hf:rT T k with
 | none =>
  have hE:Hid (markS (pR T) k id = (4,pR T)):=Hd (by unfold markS;rw [fnd_rT,hf];rfl)
  rw [hf] at CF
  clear h
  go_enter Tryz.func173,Tryz.ntmps173
  go_wp2_with fail
  refine CF.out.mono ?_
  rintro e w1 ⟨rfl,ho1⟩
  have HO1:=Hd ho1
  clear ho1 CF
  go_wp2_with fail
  go_ret
  exact ⟨by rw [hE.out];rfl,_,T,OpX.same H.out HO1.out,by rw [hE.out]⟩
 | some t =>
 obtain ⟨hat,htk⟩:=rT_at h.srt hf
 rw [hf] at CF
 have htm:=List.mem_of_getElem? hat
 obtain ⟨g,c,rfl,hgl,_,_,_,_⟩:=h.at_ hat
 obtain ⟨i,hi⟩:∃ i,ixR T k = i:=⟨_,rfl⟩
 have HAT:=Hd hat
 have HF:=Hd hf
 have HI:=Hd hi
 have HTM:=Hd htm
 have hil:i < T.length:=hi ▸ (List.getElem?_eq_some_iff.1 hat).1
 have hil':(i:Int) < (T.length:Int):=by omega
 rw [hi] at CF
 have hfc:=(h.fg t htm).cap
 have hbg:b ≠ g:=fun e => h.vb (by rw [e];rfl)
 have CP:=Hd (fun w' (ho:Only [] w w') => ref17_post t.nm t.fd.pol t.fd.fai t.v t.fd.ps id w' ((h.ps t htm).only ho) (by omega))
 obtain ⟨A2,c2,hv2,_,_⟩:=(h.ps t htm).shape
 have HV2:=Hd hv2
 rw [hv2] at CP
 have hME:∀ o,idx t.fd.ps id = o → markS (pR T) k id = match o with
  | none => (4,pR T)
  | some i => (0,putBy Prod.fst k (k,markF t.fd i) (pR T)):=fun o ho => by unfold markS;rw [fnd_rT,hf];simp only [Option.map_some];cases o <;> simp only [ho]
 have HME:=Hd hME
 have hIE:∀ o,idx t.fd.ps id = o → idxI t.fd.ps id = match o with
  | none => -1
  | some i => (i:Int):=fun o ho => by unfold idxI;cases o <;> simp only [ho]
 have HIE:=Hd hIE
 obtain ⟨oi,hoi⟩:∃ o,idx t.fd.ps id = o:=⟨_,rfl⟩
 clear h hat hf hi htm hME hIE hv2 htk
 go_enter Tryz.func173,Tryz.ntmps173
 go_wp2_with fail
 refine CF.out.mono ?_
 rintro e w1 ⟨rfl,ho1⟩
 have HO1:=Hd ho1
 clear ho1 CF
 have hX1:=H.out.only HO1.out
 obtain ⟨g',c',hv',hg1,q0,q1,q2,q3⟩:=hX1.at_ (by have:=HAT.out;rw [HI.out] at this;exact this)
 injection hv' with e1 _ e3
 injection e1 with e1
 injection e1 with e1
 subst e1;subst e3
 rw [HV2.out] at q3
 have c0:=hX1.cells.cell (k:=0) rfl
 have hI:=HIE.out oi hoi
 have CP1:=Hd (CP.out w1 HO1.out)
 rw [hI] at CP1
 have HM:=Hd (HME.out oi hoi)
 clear HIE HME CP hI
 cases oi with
 | none =>
  clear hX1
  go_wp2_with fail
  refine CP1.out.mono ?_
  rintro e w2 ⟨rfl,ho2⟩
  have HO2:=Hd (HO1.out.tr ho2)
  clear ho2 c0 q0 q1 q2 q3
  go_wp2_with fail
  go_ret
  exact ⟨by rw [HM.out];rfl,_,T,OpX.same H.out HO2.out,by rw [HM.out]⟩
 | some j =>
 have hjl:j < t.fd.ps.length:=idx_lt hoi
 obtain ⟨x,hx⟩:∃ x,t.fd.ps[j]? = some x:=⟨_,List.getElem?_eq_getElem hjl⟩
 have HX:=Hd hx
 clear hX1 hx hoi
 go_wp2_with fail
 refine CP1.out.mono ?_
 rintro e w2 ⟨rfl,ho2⟩
 have HO2:=Hd (HO1.out.tr ho2)
 clear ho2 c0 q0 q1 q2 q3 CP1
 obtain ⟨w3,hw3⟩:∃ w3,w2.alloc (.cells #[] 101) = w3:=⟨_,rfl⟩
 obtain ⟨z,hz⟩:∃ z,w2.heap.size = z:=⟨_,rfl⟩
 have o3:Only [] w2 w3:=hw3 ▸ oz.alloc _
 have hX3:=H.out.only (HO2.out.tr o3)
 obtain ⟨g',c',hv',hg1,q0,q1,q2,q3⟩:=hX3.at_ (by have:=HAT.out;rw [HI.out] at this;exact this)
 injection hv' with e1 _ e3
 injection e1 with e1
 injection e1 with e1
 subst e1;subst e3
 rw [HV2.out] at q3
 have c0:=hX3.cells.cell (k:=0) rfl
 have hlit:w3.ownsRow z 101 5 (.slice (some ⟨z,0,none⟩) 0 0) 0 []:=by
  have:=World.ownsRow_lit (base:=z) (e:=101) (size:=5) w2 #[] 0 (by omega) (by unfold maxLen;omega) rfl
  rw [hw3,hz] at this
  simpa using this
 have hsrc:=(hX3.ps t HTM.out).src (by decide)
 rw [HV2.out] at hsrc
 obtain ⟨v4,w4,hr4,hown4,ho4,hn4⟩:=run_app (P:=Tryz.prog) w3 z 32 32 101 i0 (.agg #[.int .i64 0,.string .empty,.string .empty,.string .empty,.bool false]) 5 64 Tryz.underlying32 hi0 hz0 hz1 hz2 rfl (by decide) (.slice (some ⟨z,0,none⟩) 0 0) 0 [] hlit (.slice A2 t.fd.ps.length c2) t.fd.ps.length (poL t.fd.ps) hsrc (by unfold maxLen;omega) (by omega) (by have:=o3.size;omega)
 rw [Nat.zero_add,List.nil_append] at hown4
 obtain ⟨g4,c4,rfl⟩:=own_formX hown4 (by omega)
 have ho4':Only [] w2 w4:=o3.trans ho4 (fun y hy => by simp [Value.ownBlock] at hy;right;omega)
 have hg4:=(hown4.lt g4 rfl)
 have hj':(j:Int) < (t.fd.ps.length:Int):=by omega
 have HO4:=Hd (HO2.out.tr ho4')
 have HOWN4:=Hd hown4
 have p4:∃ u,w4.cell? ⟨g4,j * 5 + 4,none⟩ = some u:=by
  obtain ⟨g',_,hv',_,_,hc⟩:=own_cell hown4 (poL_get t.fd.ps j 4 x HX.out (by omega))
  injection hv' with e1
  injection e1 with e1
  injection e1 with e1
  rw [e1];exact ⟨_,hc⟩
 obtain ⟨p4v,p4⟩:=p4
 have z4:w4.frozen? ⟨g4,j * 5 + 4,none⟩ = false:=hown4.frozenAt _
 obtain ⟨w5,hw5⟩:∃ w5,w4.setCell ⟨g4,j * 5 + 4,none⟩ (.bool true) = w5:=⟨_,rfl⟩
 have o5:Only [g4] w4 w5:=hw5 ▸ oz.setCell (.inl (by simp)) _
 have hown5:w5.ownsRow z 101 5 (.slice (some ⟨g4,0,none⟩) t.fd.ps.length c4) t.fd.ps.length (poL (t.fd.ps.set j x.mark)):=by
  have h1:=(hown4.stored (j * 5 + 4) (.bool true)).1
  unfold poL at h1 ⊢
  rw [flat_set Po.cells 5 (fun _ => rfl) t.fd.ps j 4 x x.mark (.bool true) HX.out (by omega) rfl] at h1
  exact hw5 ▸ h1
 have hW2:=HO2.out.size
 have hgz:g < z:=by have:=World.block_lt_of_cell? w1;have:=hgl;omega
 have hbz:b < z:=by have:=H.out.cells.lt;omega
 have HO5:Hid (Only [] w w5):=Hd (HO4.out.trans o5 (fun y hy => by simp at hy;right;omega))
 have hX5:=H.out.only HO5.out
 have d0:=hX5.cells.cell (k:=0) rfl
 obtain ⟨g',c',hv',hg5,q50,q51,q52,q53⟩:=hX5.at_ (by have:=HAT.out;rw [HI.out] at this;exact this)
 injection hv' with e1 _ e3
 injection e1 with e1
 injection e1 with e1
 subst e1;subst e3
 have z5:=hX5.fz (i * 4 + 3)
 have hrow6:=row_f3 hX5.row (i:=i) (by have:=HAT.out;rw [HI.out] at this;exact this) (t.fd.ps.set j x.mark) (.slice (some ⟨g4,0,none⟩) t.fd.ps.length c4)
 have o6:Only [g] w5 (w5.setCell ⟨g,i * 4 + 3,none⟩ (.slice (some ⟨g4,0,none⟩) t.fd.ps.length c4)):=oz.setCell (.inl (by simp)) _
 have hmk:markF t.fd j = ⟨t.fd.pol,t.fd.fai,t.fd.ps.set j x.mark⟩:=by unfold markF;rw [markAt_some HX.out]
 have hown6:=own_keep hown5 o6 (by intro y hy e;simp at hy;subst hy;simp [Value.ownBlock] at e;omega)
 have hP:=H.out.put (f:=markF t.fd j) (pv:=.slice (some ⟨g4,0,none⟩) t.fd.ps.length c4) HF.out (HO5.out.of0.tr o6) (by rw [HI.out,hmk];exact hrow6) (by
  rw [hmk]
  show RfS _ _ 5 (t.fd.ps.set j x.mark).length (poL (t.fd.ps.set j x.mark))
  rw [List.length_set]
  exact RfS.of_own hown6 (poL_one' _)) (fun q hq => by
  simp only [Value.ownBlock,Option.some.injEq] at hq
  subst hq
  right
  have:=o5.size
  have:=o6.size
  omega) (by rw [hmk];exact ⟨by show (t.fd.ps.set j x.mark).length ≤ 200;rw [List.length_set];omega,(H.out.fg t HTM.out).nb⟩)
 have HP:=Hd hP
 have hg45:g4 < w5.heap.size:=by have:=o5.size;omega
 have hgw5:g < w5.heap.size:=by have:=o5.size;omega
 clear hX3 hX5 o3 hlit hsrc hown4 ho4 hn4 ho4' o5 hown5 hrow6 o6 hmk hown6 hP q50 q51 q52
 go_wp2_with (at_builtin;refine wpList_runapp rfl _ _ 32 rfl rfl rfl hr4 ?_)
 go_ret
 exact ⟨by rw [HM.out];rfl,_,_,HP.out.1,by rw [HM.out];exact HP.out.2⟩
def lsR (ps:List Po) (after:Int):List Po:=(ps.filter fun p => decide (after < p.sq)).take 50
def lsD (S:Sv) (k:List UInt8) (after:Int):List Po × Int:=match fnd S k with
 | none => ([],4)
 | some f => (lsR f.ps after,0)
theorem rs_list (b:Nat) (v:Value) (T:List Rf) (k:List UInt8) (hk:k.length ≤ maxLen) (after:Int) (w:World) (h:RsX w b v T):
 Calls Tryz.prog 94 #[.pointer (some ⟨b,0,none⟩),.string ⟨k.toArray⟩,.int .i64 after] w fun e w' => ∃ v',e = .returned (.tuple #[v',.int .i64 (lsD (pR T) k after).2]) ∧ w'.ownsRow w.heap.size 101 5 v' (lsD (pR T) k after).1.length (poL (lsD (pR T) k after).1) ∧ Only [] w w':=by
 obtain ⟨i0,hi0,hz0,hz1,hz2⟩:=info_parts info_post5
 have H:=Hd h
 have CF:=Hd (rs_find b _ T k hk w h)
 cases hf:rT T k with
 | none =>
  have hE:Hid (lsD (pR T) k after = ([],4)):=Hd (by unfold lsD;rw [fnd_rT,hf];rfl)
  rw [hf] at CF
  clear h
  go_enter Tryz.func94,Tryz.ntmps94
  go_wp2_with fail
  refine CF.out.mono ?_
  rintro e w1 ⟨rfl,ho1⟩
  have HO1:=Hd ho1
  clear ho1 CF
  go_wp2_with fail
  go_ret2
  exact ⟨.slice none 0 0,by rw [hE.out];rfl,by rw [hE.out];exact World.ownsRow_nil _ _ _ _,HO1.out⟩
 | some t =>
 have hE:Hid (lsD (pR T) k after = (lsR t.fd.ps after,0)):=Hd (by unfold lsD;rw [fnd_rT,hf];rfl)
 obtain ⟨hat,htk⟩:=rT_at h.srt hf
 rw [hf] at CF
 have htm:=List.mem_of_getElem? hat
 obtain ⟨g,c,rfl,hgl,_,_,_,_⟩:=h.at_ hat
 obtain ⟨i,hi⟩:∃ i,ixR T k = i:=⟨_,rfl⟩
 rw [hi] at hat
 have HAT:=Hd hat
 have HTM:=Hd htm
 have hil:i < T.length:=(List.getElem?_eq_some_iff.1 hat).1
 have hil':(i:Int) < (T.length:Int):=by omega
 rw [hi] at CF
 have hfc:=(h.fg t htm).cap
 obtain ⟨A2,c2,hv2,_,_⟩:=(h.ps t htm).shape
 have HV2:=Hd hv2
 obtain ⟨ps,hps⟩:∃ ps,t.fd.ps = ps:=⟨_,rfl⟩
 have HPS:=Hd (h.ps t htm)
 rw [hv2] at HPS
 rw [hps] at HPS HV2 hE hfc
 clear h hat hf hi htm hv2
 go_enter Tryz.func94,Tryz.ntmps94
 go_wp2_with fail
 refine CF.out.mono ?_
 rintro e w1 ⟨rfl,ho1⟩
 have HO1:=Hd ho1
 clear ho1 CF
 go_wp2_with fail
 go_loopw [10,11] (fun u i wr => ∃ (j:Nat) (l:List Po),j ≤ ps.length ∧ i = .int .i64 j ∧ Hid (l = (ps.take j).filter fun p => decide (after < p.sq)) ∧ l.length ≤ 50 ∧ Hid (wr.ownsRow w.heap.size 101 5 u l.length (poL l)) ∧ Hid (Only [] w wr)) (fun _ i _ => ps.length - (intOf i).toNat)
 case atStart => exact ⟨0,[],by omega,rfl,Hd rfl,by simp,Hd (World.ownsRow_nil _ _ _ _),HO1⟩
 case round =>
  obtain ⟨j,l,hj,rfl,hl,hl50,hown,ho⟩:=hrel
  have hX:=H.out.only ho.out
  have c0:=hX.cells.cell (k:=0) rfl
  obtain ⟨g',c',hv',hg1,q0,q1,q2,q3⟩:=hX.at_ HAT.out
  injection hv' with e1 _ e3
  injection e1 with e1
  injection e1 with e1
  subst e1;subst e3
  rw [HV2.out] at q3
  by_cases hjl:j < ps.length
  · have hjl':(j:Int) < (ps.length:Int):=by omega
    by_cases h50:l.length < 50
    · have h50':decide ((l.length:Int) < 50) = true:=by simp;omega
      obtain ⟨x,hx⟩:∃ x,ps[j]? = some x:=⟨_,List.getElem?_eq_getElem hjl⟩
      obtain ⟨b1,o1,c1,g1,p0,p1,p2,p3,p4⟩:=poL_at (HPS.out.only ho.out).sl rfl hx
      injection g1 with i1 _ i3
      subst i1;subst i3
      obtain ⟨UA,uc,rfl⟩:=(SlAt.of_own hown.out).shape
      have hwr:IntKind.i64.wrap ((j:Int) + 1) = (j:Int) + 1:=by rw [IntKind.wrap_i64];omega
      by_cases ha:after < x.sq
      · have ha':decide (after < x.sq) = true:=by simpa using ha
        have HL:Hid (l ++ [x] = (ps.take (j + 1)).filter fun p => decide (after < p.sq)):=Hd (by rw [List.take_add_one,hx,List.filter_append,← hl.out];simp [ha])
        obtain ⟨w2,hw2⟩:∃ w2,wr.alloc (.cells #[.int .i64 x.sq,.string ⟨x.it.id.toArray⟩,.string ⟨x.it.ti.toArray⟩,.string ⟨x.it.li.toArray⟩,.bool x.rd] 101) = w2:=⟨_,rfl⟩
        obtain ⟨z,hz⟩:∃ z,wr.heap.size = z:=⟨_,rfl⟩
        have o2:Only [] wr w2:=hw2 ▸ oz.alloc _
        have hC2:Cells w2 z 101 x.cells:=hw2 ▸ hz ▸ Cells.new wr _ _
        have hWw:=ho.out.size
        obtain ⟨v3,w3,hr3,hown3,ho3,hn3⟩:=run_app (P:=Tryz.prog) w2 w.heap.size 32 32 101 i0 (.agg #[.int .i64 0,.string .empty,.string .empty,.string .empty,.bool false]) 5 64 Tryz.underlying32 hi0 hz0 hz1 hz2 rfl (by decide) (.slice UA l.length uc) l.length (poL l) (own_keep hown.out o2 (by simp)) (.slice (some ⟨z,0,none⟩) 1 1) 1 x.cells (SrcA.piece hC2 rfl (by simp [Po.cells,Value.oneCell']) (fun j u h => by simpa using h)) (by unfold maxLen;omega) (by omega) (by have:=o2.size;omega)
        have HOWN3:Hid (w3.ownsRow w.heap.size 101 5 v3 (l ++ [x]).length (poL (l ++ [x]))):=Hd (by
         rw [List.length_append]
         have e1:poL (l ++ [x]) = poL l ++ x.cells:=by unfold poL;rw [List.flatMap_append];simp
         rw [e1]
         exact hown3)
        have HO3:Hid (Only [] w w3):=Hd ((ho.out.tr o2).trans ho3 (fun y hy => .inr (hown.out.lt y (by simpa using hy)).1))
        have hl3:(l ++ [x]).length = l.length + 1:=by simp
        have hsh3:=(SlAt.of_own HOWN3.out).shape
        rw [hl3] at hsh3
        obtain ⟨A3,c3,rfl⟩:=hsh3
        clear hX hx hown3 ho3 hn3 o2 hC2 hown ho hl ha
        go_wp2_with (at_builtin;refine wpList_runapp rfl _ _ 32 rfl rfl rfl hr3 ?_)
        go_roundw
        case rel => exact ⟨j + 1,l ++ [x],by omega,by go_num,HL,by rw [hl3];omega,HOWN3,HO3⟩
        case measure => simp [intOf];omega
      · have ha':decide (after < x.sq) = false:=by simpa using ha
        have HL:Hid (l = (ps.take (j + 1)).filter fun p => decide (after < p.sq)):=Hd (by rw [List.take_add_one,hx,List.filter_append,← hl.out];simp [ha])
        clear hX hx hl ha
        go_wp2_with fail
        go_roundw
        case rel => exact ⟨j + 1,l,by omega,by go_num,HL,hl50,hown,ho⟩
        case measure => simp [intOf];omega
    · have h50':decide ((l.length:Int) < 50) = false:=by simp;omega
      have hR:Hid (lsR ps after = l):=Hd (by
       unfold lsR
       have e1:ps.filter (fun p => decide (after < p.sq)) = l ++ (ps.drop j).filter (fun p => decide (after < p.sq)):=by
        rw [hl.out,← List.filter_append,List.take_append_drop]
       rw [e1,List.take_append_of_le_length (by omega),List.take_of_length_le (by omega)])
      obtain ⟨UA,uc,rfl⟩:=(SlAt.of_own hown.out).shape
      clear hX
      go_wp2_with fail
      go_ret2
      exact ⟨_,by rw [hE.out];rfl,by rw [hE.out];show World.ownsRow _ _ _ 5 _ (lsR ps after).length (poL (lsR ps after));rw [hR.out];exact hown.out,ho.out⟩
  · obtain rfl:j = ps.length:=by omega
    have hd:decide ((ps.length:Int) < (ps.length:Int)) = false:=by simp
    have hR:Hid (lsR ps after = l):=Hd (by
     unfold lsR
     rw [← List.take_length (l:=ps),← hl.out,List.take_of_length_le hl50])
    obtain ⟨UA,uc,rfl⟩:=(SlAt.of_own hown.out).shape
    clear hX
    go_wp2_with fail
    go_ret2
    exact ⟨_,by rw [hE.out];rfl,by rw [hE.out];show World.ownsRow _ _ _ 5 _ (lsR ps after).length (poL (lsR ps after));rw [hR.out];exact hown.out,ho.out⟩
theorem idxI_neg (ps:List Po) (k:List UInt8):decide (idxI ps k < 0) = (idx ps k).isNone:=by
 unfold idxI
 cases idx ps k with
 | none => rfl
 | some i => simp
theorem addB_le {f:Fd} (x:It) (h:f.ps.length ≤ 200):addB f x = ((idx f.ps x.id).isNone && decide ((f.ps.length:Int) < 200)):=by
 have e:(!(f.ps.length == 200)) = decide ((f.ps.length:Int) < 200):=by
  by_cases h2:f.ps.length = 200
  · rw [h2];decide
  · rw [show (f.ps.length == 200) = false from by simpa using h2,decide_eq_true (by omega:(f.ps.length:Int) < 200)]
    rfl
 unfold addB
 rw [e]
theorem one_app {a b:List Value} (h:∀ u ∈ a,u.oneCell' = true) (h':∀ u ∈ b,u.oneCell' = true):∀ u ∈ a ++ b,u.oneCell' = true:=fun u hu => by
 rcases List.mem_append.1 hu with hu | hu
 · exact h u hu
 · exact h' u hu
theorem rs_ingest (b:Nat) (v:Value) (T:List Rf) (k:List UInt8) (hk:k.length ≤ maxLen) (iv:Value) (l:List It) (now:Int) (w:World) (h:RsX w b v T) (hs:∀ w',Only (b :: rb v) w w' → SlAt w' w'.heap.size iv 3 l.length (itL l)) (hl:l.length ≤ 1000000) (hx:∀ x ∈ l,x.Len):
 Calls Tryz.prog 169 #[.pointer (some ⟨b,0,none⟩),.string ⟨k.toArray⟩,iv,.int .i64 now] w fun e w' => e = .returned (.tuple #[.int .i64 (ingR (pR T) k l now).1,.int .i64 (ingR (pR T) k l now).2.1]) ∧ ∃ v' T',OpX w w' b v v' T T' ∧ pR T' = (ingR (pR T) k l now).2.2:=by
 obtain ⟨i0,hi0,hz0,hz1,hz2⟩:=info_parts info_post5
 have H:=Hd h
 have HS:=Hd hs
 have HXL:=Hd hx
 have CF:=Hd (rs_find b _ T k hk w h)
 have CT:=Hd (fun w' => ref17_time now w')
 have hcap:=h.cap
 obtain ⟨IA,ic,rfl⟩:=(hs w oz).shape
 cases hf:rT T k with
 | none =>
  have hE:Hid (ingR (pR T) k l now = (0,4,pR T)):=Hd (by unfold ingR;rw [fnd_rT,hf];rfl)
  rw [hf] at CF
  clear h hs hx
  go_enter Tryz.func169,Tryz.ntmps169
  go_wp2_with fail
  refine CF.out.mono ?_
  rintro e w1 ⟨rfl,ho1⟩
  have HO1:=Hd ho1
  clear ho1 CF
  go_wp2_with fail
  go_ret2
  exact ⟨by rw [hE.out];rfl,_,T,OpX.same H.out HO1.out,by rw [hE.out]⟩
 | some t =>
 obtain ⟨hat,htk⟩:=rT_at h.srt hf
 rw [hf] at CF
 have hIn:ingR (pR T) k l now = if okT now then (if l.all itR then (((ingF t.fd l).2:Int),(0:Int),putBy Prod.fst k (k,⟨now,0,(ingF t.fd l).1.ps⟩) (pR T)) else (0,1,pR T)) else (0,1,pR T):=by unfold ingR;rw [fnd_rT,hf];rfl
 cases hn:okT now with
 | false =>
  have hE:Hid (ingR (pR T) k l now = (0,1,pR T)):=Hd (by rw [hIn,hn];rfl)
  simp only [hn] at CT
  clear h hs hx hIn
  go_enter Tryz.func169,Tryz.ntmps169
  go_wp2_with fail
  refine CF.out.mono ?_
  rintro e w1 ⟨rfl,ho1⟩
  have HO1:=Hd ho1
  clear ho1 CF
  go_wp2_with fail
  refine (CT.out _).mono ?_
  rintro e w2 ⟨rfl,rfl⟩
  go_wp2_with fail
  go_ret2
  exact ⟨by rw [hE.out];rfl,_,T,OpX.same H.out HO1.out,by rw [hE.out]⟩
 | true =>
 have hE:Hid (∀ q,l.all itR = q → ingR (pR T) k l now = if q then (((ingF t.fd l).2:Int),(0:Int),putBy Prod.fst k (k,⟨now,0,(ingF t.fd l).1.ps⟩) (pR T)) else (0,1,pR T)):=Hd (fun q hq => by rw [hIn,hn,hq];rfl)
 simp only [hn] at CT
 have htm:=List.mem_of_getElem? hat
 obtain ⟨g,c,rfl,hgl,_,_,_,_⟩:=h.at_ hat
 obtain ⟨i,hi⟩:∃ i,ixR T k = i:=⟨_,rfl⟩
 rw [hi] at hat
 have HAT:=Hd hat
 have HF:=Hd hf
 have HI:=Hd hi
 have HTM:=Hd htm
 have HTK:=Hd htk
 have hil:i < T.length:=(List.getElem?_eq_some_iff.1 hat).1
 have hil':(i:Int) < (T.length:Int):=by omega
 rw [hi] at CF
 have hfc:=(h.fg t htm).cap
 obtain ⟨hn0,hn1⟩:=okT_iff.1 hn
 have hbg:b ≠ g:=fun e => h.vb (by rw [e];rfl)
 have hgw:=hgl
 have hbw:=h.cells.lt
 clear h hs hx hat hf hi htm htk hIn
 go_enter Tryz.func169,Tryz.ntmps169
 go_wp2_with fail
 refine CF.out.mono ?_
 rintro e w1 ⟨rfl,ho1⟩
 have HO1:=Hd ho1
 clear ho1 CF
 go_wp2_with fail
 refine (CT.out _).mono ?_
 rintro e w2 ⟨rfl,rfl⟩
 clear CT
 go_wp2_with fail
 -- are all items right?
 go_loopw [12,13] (fun i _ wr => ∃ j:Nat,j ≤ l.length ∧ i = .int .i64 j ∧ Hid ((l.take j).all itR = true) ∧ Hid (Only [] w wr)) (fun i _ _ => l.length - (intOf i).toNat)
 case atStart => exact ⟨0,by omega,rfl,Hd rfl,HO1⟩
 case round =>
  obtain ⟨j,hj,rfl,hall,ho⟩:=hrel
  by_cases hlt:j < l.length
  · have hlt':(j:Int) < (l.length:Int):=by omega
    obtain ⟨x,hxj⟩:∃ x,l[j]? = some x:=⟨_,List.getElem?_eq_getElem hlt⟩
    obtain ⟨b1,o1,c1,e1,q0,q1,q2⟩:=itL_at (HS.out wr ho.out.of0) hxj
    injection e1 with i1 _ i3
    subst i1;subst i3
    have CR:=Hd (ref13_right x (HXL.out x (List.mem_of_getElem? hxj)) wr)
    obtain ⟨q,hq⟩:∃ q,itR x = q:=⟨_,rfl⟩
    rw [hq] at CR
    have HA:Hid ((l.take (j + 1)).all itR = q):=Hd (by rw [List.take_add_one,hxj,List.all_append,hall.out];simp [hq])
    have HB:Hid (q = false → l.all itR = false):=Hd (fun h => by
     cases hc:l.all itR with
     | false => rfl
     | true => rw [List.all_eq_true] at hc;rw [← hc x (List.mem_of_getElem? hxj),hq];exact h.symm ▸ rfl)
    have hwr:IntKind.i64.wrap ((j:Int) + 1) = (j:Int) + 1:=by rw [IntKind.wrap_i64];omega
    clear hxj hall hq
    go_wp2_with fail
    refine CR.out.mono ?_
    rintro e w3 ⟨rfl,ho3⟩
    have HO3:=Hd (ho.out.tr ho3)
    clear ho3 CR q0 q1 q2
    cases q with
    | true =>
     go_wp2_with fail
     go_roundw
     case rel => exact ⟨j + 1,by omega,by go_num,HA,HO3⟩
     case measure => simp [intOf];omega
    | false =>
     have hE2:=Hd (hE.out false (HB.out rfl))
     go_wp2_with fail
     go_ret2
     exact ⟨by rw [hE2.out];rfl,_,T,OpX.same H.out HO3.out,by rw [hE2.out];rfl⟩
  · obtain rfl:j = l.length:=by omega
    have hd:decide ((l.length:Int) < (l.length:Int)) = false:=by simp
    have hE2:=Hd (hE.out true (by have:=hall.out;rwa [List.take_length] at this))
    obtain ⟨wo,rfl⟩:∃ wo,wo = wr:=⟨_,rfl⟩
    have hX:=H.out.only ho.out
    have c0:=hX.cells.cell (k:=0) rfl
    obtain ⟨g',c',hv',hg1,q0,q1,q2,q3⟩:=hX.at_ HAT.out
    injection hv' with e1 _ e3
    injection e1 with e1
    injection e1 with e1
    subst e1;subst e3
    obtain ⟨A2,c2,hv2,_,_⟩:=(hX.ps t HTM.out).shape
    have HP0:=Hd (hX.ps t HTM.out)
    have HV2:=Hd hv2
    rw [hv2] at q3
    obtain ⟨w4,hw4⟩:∃ w4,wo.alloc (.cells #[.string ⟨t.nm.toArray⟩,.int .i64 t.fd.pol,.int .i64 t.fd.fai,.slice A2 t.fd.ps.length c2] 142) = w4:=⟨_,rfl⟩
    obtain ⟨z,hz⟩:∃ z,wo.heap.size = z:=⟨_,rfl⟩
    have o4:Only [] wo w4:=hw4 ▸ oz.alloc _
    have hC4:Cells w4 z 142 [.string ⟨t.nm.toArray⟩,.int .i64 t.fd.pol,.int .i64 t.fd.fai,.slice A2 t.fd.ps.length c2]:=hw4 ▸ hz ▸ Cells.new wo _ _
    have HC4:=Hd hC4
    have HO4:=Hd (ho.out.tr o4)
    have HP4:Hid (RfS w4 (.slice A2 t.fd.ps.length c2) 5 t.fd.ps.length (poL t.fd.ps)):=Hd (hv2 ▸ (HP0.out.only o4))
    have hwz:w.heap.size ≤ z:=by have:=ho.out.size;omega
    have hOL:∀ q,(Value.slice A2 t.fd.ps.length c2).ownBlock = some q → t.v.ownBlock = some q ∨ w.heap.size ≤ q:=fun q hq => .inl (by rw [hv2];exact hq)
    have HOL:=Hd hOL
    have HZP:Hid (∀ q,(Value.slice A2 t.fd.ps.length c2).ownBlock = some q → q < w4.heap.size ∧ q ≠ z):=Hd (fun q hq => by
     have h1:=(H.out.pb t HTM.out q (by rw [hv2];exact hq)).1
     have:=HO4.out.size
     omega)
    clear hX o4 hC4 hv2 hall HP0 hOL ho
    go_upto_region 15 with fail
    clear hw4 hz c0 q0 q1 q2 q3
    go_loopw [15,16] (fun n i wr => ∃ (j:Nat) (pv:Value) (s:Fd × Nat),j ≤ l.length ∧ i = .int .i64 j ∧ n = .int .i64 s.2 ∧ Hid (ingF t.fd (l.take j) = s) ∧ s.2 ≤ j ∧ s.1.ps.length ≤ 200 ∧ s.1.pol = t.fd.pol ∧ s.1.fai = t.fd.fai ∧ Hid (Cells wr z 142 [.string ⟨t.nm.toArray⟩,.int .i64 t.fd.pol,.int .i64 t.fd.fai,pv]) ∧ Hid (RfS wr pv 5 s.1.ps.length (poL s.1.ps)) ∧ Hid (∀ q,pv.ownBlock = some q → t.v.ownBlock = some q ∨ w.heap.size ≤ q) ∧ Hid (∀ q,pv.ownBlock = some q → q < wr.heap.size ∧ q ≠ z) ∧ Hid (Only [] w wr)) (fun _ i _ => l.length - (intOf i).toNat)
    case atStart => exact ⟨0,_,(t.fd,0),by omega,rfl,rfl,Hd rfl,by simp,hfc,rfl,rfl,HC4,HP4,HOL,HZP,HO4⟩
    case round =>
     obtain ⟨j,pv,⟨f,na⟩,hj,rfl,rfl,hst,hna,hf200,hpol,hfai,hC,hP,hOl,hZp,ho⟩:=hrel
     obtain ⟨wq,rfl⟩:∃ wq,wq = wr:=⟨_,rfl⟩
     dsimp only at hst hna hf200 hpol hfai hP
     obtain ⟨A3,c3,rfl,_,_⟩:=hP.out.shape
     obtain ⟨P,hPn⟩:∃ P,f.ps.length = P:=⟨_,rfl⟩
     by_cases hlt:j < l.length
     · have hlt':(j:Int) < (l.length:Int):=by omega
       obtain ⟨x,hxj⟩:∃ x,l[j]? = some x:=⟨_,List.getElem?_eq_getElem hlt⟩
       have HXJ:=Hd hxj
       obtain ⟨b1,o1,c1,e1,q0,q1,q2⟩:=itL_at (HS.out wq ho.out.of0) hxj
       injection e1 with i1 _ i3
       subst i1;subst i3
       have HT:Hid (ingF t.fd (l.take (j + 1)) = ingS (f,na) x):=Hd (by rw [ingF_step t.fd l j x hxj,hst.out])
       have CP:=Hd (fun (u:Since wq) => ref17_post t.nm t.fd.pol t.fd.fai _ f.ps x.id u.w (hP.out.only u.h) (by omega))
       have hng:=idxI_neg f.ps x.id
       have hab:=addB_le x hf200
       rw [← hng] at hab
       obtain ⟨N,hN⟩:∃ N,idxI f.ps x.id = N:=⟨_,rfl⟩
       rw [hN] at CP hab
       have HAB:=Hd hab
       rw [hPn] at CP hP hC hOl hZp hab hf200
       have z0:=fun u:Since wq => u.cell (hC.out.cell (k:=0) rfl)
       have z1:=fun u:Since wq => u.cell (hC.out.cell (k:=1) rfl)
       have z2:=fun u:Since wq => u.cell (hC.out.cell (k:=2) rfl)
       have z3:=fun u:Since wq => u.cell (hC.out.cell (k:=3) rfl)
       have u0:=fun u:Since wq => u.cell q0
       have u1:=fun u:Since wq => u.cell q1
       have u2:=fun u:Since wq => u.cell q2
       have hwr:IntKind.i64.wrap ((j:Int) + 1) = (j:Int) + 1:=by rw [IntKind.wrap_i64];omega
       clear hxj hst hng hab hN
       by_cases hA:N < 0 ∧ P < 200
       · have dN:decide (N < 0) = true:=by simpa using hA.1
         have dP:decide ((P:Int) < 200) = true:=by have:=hA.2;simp;omega
         have hB:addB f x = true:=by rw [HAB.out,hPn,dN,dP];rfl
         have HT2:Hid (ingF t.fd (l.take (j + 1)) = (⟨f.pol,f.fai,f.ps ++ [⟨(P:Int) + 1,x,false⟩]⟩,na + 1)):=Hd (by rw [HT.out];unfold ingS addF;dsimp only;rw [hB,hPn];rfl)
         have hP200:=hA.2
         clear hA hB HT HAB
         go_wp2_with fail
         refine wp_region_only wq oz (by kernel_rfl) (by kernel_rfl) ?_
         repeat (go_big_quiet_step ((go_at_call 219;refine Calls.only (CP.out _))))
         refine wpQuiet_nil ?_
         rintro ⟨w5,ho5⟩
         dsimp only
         have HO5:=Hd (ho.out.tr ho5)
         have HC5:=Hd (hC.out.only ho5 (by simp))
         have HP5:=Hd (hP.out.only ho5)
         have HS5:=Hd (hP.out.only ho5).src
         have y0:=fun v:Since w5 => v.cell (HC5.out.cell (k:=0) rfl)
         have y3:=fun v:Since w5 => v.cell (HC5.out.cell (k:=3) rfl)
         have k0:=fun v:Since w5 => v.cell (u0 ⟨w5,ho5⟩)
         have k1:=fun v:Since w5 => v.cell (u1 ⟨w5,ho5⟩)
         have k2:=fun v:Since w5 => v.cell (u2 ⟨w5,ho5⟩)
         have hwp:IntKind.i64.wrap ((P:Int) + 1) = (P:Int) + 1:=by rw [IntKind.wrap_i64];omega
         have hzP:=fun q hq => Nat.lt_of_lt_of_le (hZp.out q hq).1 ho5.size
         have HzP:Hid (∀ q,(Value.slice A3 P c3).ownBlock = some q → q < w5.heap.size):=Hd hzP
         clear z0 z1 z2 z3 u0 u1 u2 q0 q1 q2 CP ho5 hC hP ho hzP
         go_upto_region 18 with fail
         clear hwr
         refine wp_region_pendN w5 oz [(68,OwW w5.heap.size 101 5 0 []),(71,OwW w5.heap.size 101 5 P (poL f.ps)),(81,OwW w5.heap.size 101 5 1 [.int .i64 ((P:Int) + 1),.string ⟨x.id.toArray⟩,.string ⟨x.ti.toArray⟩,.string ⟨x.li.toArray⟩,.bool false]),(82,OwW w5.heap.size 101 5 (P + 1) (poL f.ps ++ [.int .i64 ((P:Int) + 1),.string ⟨x.id.toArray⟩,.string ⟨x.ti.toArray⟩,.string ⟨x.li.toArray⟩,.bool false]))] [(71,68),(82,71)] 16 (by intro p hp;simp at hp;rcases hp with rfl | rfl | rfl | rfl <;> exact OwW.lasts _ _ _ _ _) (by kernel_rfl) (by kernel_rfl) (by decide) (fun val => ?_)
         simp only [tk1,tk0,dr1,dr0]
         refine fit_litO 68 101 5 [] 0 rfl rfl (by simp) (by simp) rfl (by decide) (fun ww => by go_simp) rfl ?_
         simp only [Act.put,sia,sc0,sc1]
         refine fit_segN 2 (by kernel_rfl) ?_
         simp only [tk1,tk0,dr1,dr0]
         repeat (go_big_quiet_step (fail))
         refine wpQuiet_nil ?_
         refine fit_append 71 68 (.tmp 70) 32 101 i0 (.agg #[.int .i64 0,.string ⟨#[]⟩,.string ⟨#[]⟩,.string ⟨#[]⟩,.bool false]) 5 64 Tryz.underlying32 hi0 hz0 hz1 hz2 rfl (by decide) 0 P P [] (poL f.ps) (poL f.ps) (by omega) rfl rfl rfl rfl (by simp) (by simp) (by simp) (by decide) rfl rfl (fun ww hww => (HS5.out (by decide)).only hww.1) (by unfold maxLen;omega) (by omega) rfl ?_
         simp only [Act.put,sia,sc0,sc1]
         refine fit_segN 9 (by kernel_rfl) ?_
         simp only [tk1,tk0,dr1,dr0]
         repeat (go_big_quiet_step (fail))
         refine wpQuiet_nil ?_
         refine fit_litO 81 101 5 [.int .i64 ((P:Int) + 1),.string ⟨x.id.toArray⟩,.string ⟨x.ti.toArray⟩,.string ⟨x.li.toArray⟩,.bool false] 1 rfl rfl (by simp) (by simp) rfl (by decide) (fun ww => by go_simp) rfl ?_
         simp only [Act.put,sia,sc0,sc1]
         refine fit_append 82 71 (.tmp 81) 32 101 i0 (.agg #[.int .i64 0,.string ⟨#[]⟩,.string ⟨#[]⟩,.string ⟨#[]⟩,.bool false]) 5 64 Tryz.underlying32 hi0 hz0 hz1 hz2 rfl (by decide) P 1 (P + 1) (poL f.ps) [.int .i64 ((P:Int) + 1),.string ⟨x.id.toArray⟩,.string ⟨x.ti.toArray⟩,.string ⟨x.li.toArray⟩,.bool false] (poL f.ps ++ [.int .i64 ((P:Int) + 1),.string ⟨x.id.toArray⟩,.string ⟨x.ti.toArray⟩,.string ⟨x.li.toArray⟩,.bool false]) (by omega) rfl rfl rfl rfl (by simp) (by simp) (by simp) (by decide) rfl rfl (fun ww hww => SrcA.own (hww.2 (81,OwW w5.heap.size 101 5 1 [.int .i64 ((P:Int) + 1),.string ⟨x.id.toArray⟩,.string ⟨x.ti.toArray⟩,.string ⟨x.li.toArray⟩,.bool false]) (by simp) (by show 81 ∈ Oper.looksAt _ _;decide)) (by simp [Value.oneCell'])) (by unfold maxLen;omega) (by omega) rfl ?_
         simp only [Act.put,sia,sc0,sc1]
         refine fit_segN 1 (by kernel_rfl) ?_
         simp only [tk1,tk0,dr1,dr0]
         repeat (go_big_quiet_step (fail))
         refine wpQuiet_nil ?_
         intro w6 ho5 hV5
         have hown5:=hV5 (by decide) (82,OwW w5.heap.size 101 5 (P + 1) (poL f.ps ++ [.int .i64 ((P:Int) + 1),.string ⟨x.id.toArray⟩,.string ⟨x.ti.toArray⟩,.string ⟨x.li.toArray⟩,.bool false])) (by simp) (by simp)
         obtain ⟨u,hu⟩:∃ u,val 82 = u:=⟨_,rfl⟩
         have hown5:w6.ownsRow w5.heap.size 101 5 u (P + 1) (poL f.ps ++ [.int .i64 ((P:Int) + 1),.string ⟨x.id.toArray⟩,.string ⟨x.ti.toArray⟩,.string ⟨x.li.toArray⟩,.bool false]):=hu ▸ hown5
         rw [hu]
         have hz5:=HC5.out.only ho5 (by simp)
         have HZ:=Hd (hz5.set 3 u)
         have r3:=hz5.cell (k:=3) rfl
         have rf:=hz5.frozen 3
         have rl:=hz5.lt
         have o6:Only [z] w6 (w6.setCell ⟨z,3,none⟩ u):=oz.setCell (.inl (by simp)) _
         have hz6:w.heap.size ≤ z:=hwz
         have hnz:u.ownBlock ≠ some z:=fun e => by have:=(hown5.lt z e).1;have:=HC5.out.lt;omega
         have HROW:=Hd (RfS.of_own (own_keep hown5 o6 (by simpa using hnz)) (one_app (poL_one' _) (by simp [Value.oneCell'])))
         have HO6:Hid (Only [] w (w6.setCell ⟨z,3,none⟩ u)):=Hd ((HO5.out.tr ho5).trans o6 (fun y hy => .inr (by simp at hy;omega)))
         have HLT:Hid (∀ q,u.ownBlock = some q → w5.heap.size ≤ q ∧ q < w6.heap.size):=Hd (fun q hq => hown5.lt q hq)
         obtain ⟨A6,c6,rfl⟩:=(SlAt.of_own hown5).shape
         have HW5:Hid (w.heap.size ≤ w5.heap.size):=Hd HO5.out.size
         have HZW:Hid (z < w5.heap.size):=Hd HC5.out.lt
         clear hown5 hV5 hu ho5 hz5 o6 hnz y0 y3 k0 k1 k2 HS5
         have hpo:poL (f.ps ++ [(⟨(P:Int) + 1,x,false⟩:Po)]) = poL f.ps ++ [.int .i64 ((P:Int) + 1),.string ⟨x.id.toArray⟩,.string ⟨x.ti.toArray⟩,.string ⟨x.li.toArray⟩,.bool false]:=by unfold poL;rw [List.flatMap_append];rfl
         have hpl:(f.ps ++ [(⟨(P:Int) + 1,x,false⟩:Po)]).length = P + 1:=by rw [List.length_append,hPn];rfl
         have HROW2:Hid (RfS (w6.setCell ⟨z,3,none⟩ (.slice A6 (P + 1) c6)) (.slice A6 (P + 1) c6) 5 (f.ps ++ [(⟨(P:Int) + 1,x,false⟩:Po)]).length (poL (f.ps ++ [(⟨(P:Int) + 1,x,false⟩:Po)]))):=Hd (by rw [hpo,hpl];exact HROW.out)
         have HOL2:Hid (∀ q,(Value.slice A6 (P + 1) c6).ownBlock = some q → t.v.ownBlock = some q ∨ w.heap.size ≤ q):=Hd (fun q hq => .inr (Nat.le_trans HW5.out (HLT.out q hq).1))
         have HZP2:Hid (∀ q,(Value.slice A6 (P + 1) c6).ownBlock = some q → q < (w6.setCell ⟨z,3,none⟩ (.slice A6 (P + 1) c6)).heap.size ∧ q ≠ z):=Hd (fun q hq => by
          have h1:=HLT.out q hq
          have h2:=HZW.out
          refine ⟨by simpa [World.setCell] using h1.2,by omega⟩)
         go_wp2_with fail
         go_roundw
         case rel => exact ⟨j + 1,_,(⟨f.pol,f.fai,f.ps ++ [⟨(P:Int) + 1,x,false⟩]⟩,na + 1),by omega,by go_num,by show _ = Value.int .i64 ((na + 1:Nat):Int);go_num,HT2,by show na + 1 ≤ _;omega,by show (f.ps ++ _).length ≤ 200;rw [hpl];omega,hpol,hfai,HZ,HROW2,HOL2,HZP2,HO6⟩
         case measure => simp [intOf];omega
       · have hB:addB f x = false:=by
          rw [HAB.out,hPn]
          by_cases h1:N < 0
          · have h2:¬ P < 200:=fun h => hA ⟨h1,h⟩
            rw [decide_eq_false (p:=(P:Int) < 200) (by omega)];simp
          · rw [decide_eq_false h1];rfl
         have HT2:Hid (ingF t.fd (l.take (j + 1)) = (f,na)):=Hd (by rw [HT.out];unfold ingS addF;dsimp only;rw [hB];rfl)
         have hP2:Hid (RfS wq (.slice A3 P c3) 5 f.ps.length (poL f.ps)):=Hd (by rw [hPn];exact hP.out)
         have hcase:(decide (N < 0) = false) ∨ (decide (N < 0) = true ∧ decide ((P:Int) < 200) = false):=by
          by_cases h1:N < 0
          · right
            exact ⟨by simpa using h1,decide_eq_false (by have:=fun h => hA ⟨h1,h⟩;omega)⟩
          · left;simpa using h1
         clear hA hB HT HAB
         rcases hcase with dN | ⟨dN,dP⟩
         all_goals
          go_wp2_with fail
          refine wp_region_only wq oz (by kernel_rfl) (by kernel_rfl) ?_
          repeat (go_big_quiet_step ((go_at_call 219;refine Calls.only (CP.out _))))
          refine wpQuiet_nil ?_
          rintro ⟨w5,ho5⟩
          dsimp only
          have HO5:=Hd (ho.out.tr ho5)
          have HC5:=Hd (hC.out.only ho5 (by simp))
          have HP5:=Hd (hP2.out.only ho5)
          have HZ5:Hid (∀ q,(Value.slice A3 P c3).ownBlock = some q → q < w5.heap.size ∧ q ≠ z):=Hd (fun q hq => ⟨Nat.lt_of_lt_of_le (hZp.out q hq).1 ho5.size,(hZp.out q hq).2⟩)
          clear z0 z1 z2 z3 u0 u1 u2 q0 q1 q2 CP ho5 hC hP ho hP2
          go_wp2_with fail
          go_roundw
          case rel => exact ⟨j + 1,_,(f,na),by omega,by go_num,rfl,HT2,by show na ≤ _;omega,by show f.ps.length ≤ 200;omega,hpol,hfai,HC5,HP5,hOl,HZ5,HO5⟩
          case measure => simp [intOf];omega
     · obtain rfl:j = l.length:=by omega
       have hd:decide ((l.length:Int) < (l.length:Int)) = false:=by simp
       have hst2:Hid (ingF t.fd l = (f,na)):=Hd (by have:=hst.out;rwa [List.take_length] at this)
       rw [hPn] at hC hOl hZp
       obtain ⟨w5,hw5⟩:∃ w5,wq.setCell ⟨z,1,none⟩ (.int .i64 now) = w5:=⟨_,rfl⟩
       obtain ⟨w6,hw6⟩:∃ w6,w5.setCell ⟨z,2,none⟩ (.int .i64 0) = w6:=⟨_,rfl⟩
       have hC5:Cells w5 z 142 [.string ⟨t.nm.toArray⟩,.int .i64 now,.int .i64 t.fd.fai,.slice A3 P c3]:=hw5 ▸ hC.out.set 1 (.int .i64 now)
       have hC6:Cells w6 z 142 [.string ⟨t.nm.toArray⟩,.int .i64 now,.int .i64 0,.slice A3 P c3]:=hw6 ▸ hC5.set 2 (.int .i64 0)
       have o56:Only [z] wq w6:=hw6 ▸ hw5 ▸ (oz.setCell (p:=⟨z,1,none⟩) (.inl (by simp)) _).setCell (p:=⟨z,2,none⟩) (.inl (by simp)) _
       have HO6:Hid (Only [] w w6):=Hd (ho.out.trans o56 (fun y hy => .inr (by simp at hy;omega)))
       have hP':RfS wq (.slice A3 P c3) 5 f.ps.length (poL f.ps):=by have:=hP.out;rw [hPn] at this ⊢;exact this
       have HP6:=Hd (hP'.keep o56 (fun y hy e => by simp at hy;subst hy;exact (hZp.out y e).2 rfl))
       have m1:=hC.out.cell (k:=1) rfl
       have m1f:=hC.out.frozen 1
       have m1l:=hC.out.lt
       have m2:=hC5.cell (k:=2) rfl
       have m2f:=hC5.frozen 2
       have m2l:=hC5.lt
       have HC6:=Hd hC6
       have hZ6:Hid (∀ q,(Value.slice A3 P c3).ownBlock = some q → q < w6.heap.size):=Hd (fun q hq => Nat.lt_of_lt_of_le (hZp.out q hq).1 o56.size)
       clear hst hC5 hC6 o56 hP hP' hC ho
       go_upto_region 22 with fail
       clear m1 m1f m1l m2 m2f m2l hw5 hw6
       have hX6:=H.out.only HO6.out
       have s0:=fun v:Since w6 => v.cell (HC6.out.cell (k:=0) rfl)
       have s1:=fun v:Since w6 => v.cell (HC6.out.cell (k:=1) rfl)
       have s2:=fun v:Since w6 => v.cell (HC6.out.cell (k:=2) rfl)
       have s3:=fun v:Since w6 => v.cell (HC6.out.cell (k:=3) rfl)
       have d0:=fun v:Since w6 => v.cell (hX6.cells.cell (k:=0) rfl)
       refine wp_region_only_tail w6 oz 7 (by kernel_rfl) (by kernel_rfl) ?_
       simp only [tk1,tk0,dr1,dr0]
       repeat (go_big_quiet_step (fail))
       refine wpQuiet_nil ?_
       rintro ⟨w7,ho7⟩
       dsimp only
       have hX7:=hX6.only ho7
       have HO7:=Hd (HO6.out.tr ho7)
       obtain ⟨g',c',hv',hg7,r0,r1,r2,r3⟩:=hX7.at_ HAT.out
       injection hv' with e1 _ e3
       injection e1 with e1
       injection e1 with e1
       subst e1;subst e3
       have y0:=hX7.fz (i * 4)
       have y1:=hX7.fz (i * 4 + 1)
       have y2:=hX7.fz (i * 4 + 2)
       have y3:=hX7.fz (i * 4 + 3)
       have hrow:=row_f0 hX7.row HAT.out
       have hrow:=row_f1 hrow HAT.out now
       have hrow:=row_f2 (i:=i) hrow (t:=t.with ⟨now,t.fd.fai,t.fd.ps⟩ t.v) (by simp [hil]) 0
       have hrow:=row_f3 (i:=i) hrow (t:=t.with ⟨now,0,t.fd.ps⟩ t.v) (by simp [hil,Rf.with]) f.ps (.slice A3 P c3)
       rw [List.set_set,List.set_set] at hrow
       have o8:Only [g] w7 ((((w7.setCell ⟨g,i * 4,none⟩ (.string ⟨t.nm.toArray⟩)).setCell ⟨g,i * 4 + 1,none⟩ (.int .i64 now)).setCell ⟨g,i * 4 + 2,none⟩ (.int .i64 0)).setCell ⟨g,i * 4 + 3,none⟩ (.slice A3 P c3)):=(((oz.setCell (.inl (by simp)) _).setCell (.inl (by simp)) _).setCell (.inl (by simp)) _).setCell (.inl (by simp)) _
       have hPut:=H.out.put (f:=⟨now,0,f.ps⟩) (pv:=.slice A3 P c3) HF.out (HO7.out.of0.tr o8) (by rw [HI.out];exact hrow) ((HP6.out.only ho7).keep o8 (fun y hy e => by
        simp at hy
        subst hy
        rcases hOl.out y e with h1 | h1
        · exact (H.out.pb t HTM.out y h1).2.2 rfl
        · omega)) (fun q hq => by
        rcases hOl.out q hq with h1 | h1
        · exact .inl h1
        · right
          have:=hZ6.out q hq
          have:=ho7.size
          have:=o8.size
          omega) ⟨hf200,⟨by show -1 ≤ now;omega,hn1,by simp,by simp⟩⟩
       have HPUT:=Hd hPut
       clear hX6 hX7 s0 s1 s2 s3 d0 hrow o8 hPut ho7 HC6
       go_wp2_with fail
       go_ret2
       refine ⟨?_,_,_,HPUT.out.1,?_⟩
       · rw [hE2.out,hst2.out];rfl
       · rw [hE2.out,hst2.out];exact HPUT.out.2
end Go.Proofs.YtcjfmildalappaaGreat
