/-
  Contracts; each theorem bears its own conditions.
-/
import Derived.Sort.QuietIn
import Derived.OwnWalkIn
import Derived.WalkKit
import Derived.WalkSpells
import Derived.WalkLawsBesides
import Derived.Lib.Hide
import Derived.BigQuiet
import Derived.Deep.QuietTactic
import Derived.ProofKit
import Derived.OpenShut
import Derived.ShutString
import Derived.ChangeOld
import Derived.Deep.Slices
import Derived.Deep.Fields
import Derived.ChangeSame
import Derived.Laws.DeepNot64
import Derived.WalkSmall
import Derived.Test.YtcjfmildalappaaGreatRows
import Derived.Shelf.Strings.Builder1
import Derived.StillTailTactics
set_option linter.all false
set_option maxRecDepth 100000
set_option maxHeartbeats 8000000
namespace Go.Proofs.YtcjfmildalappaaGreat
open Go Go.RowKit
def noDefer (ops:Array Oper):Bool:=ops.all fun o => match o.op with | .defer _ => false | _ => true
theorem noDefer_at {ops:Array Oper} (h:noDefer ops = true) {i:Nat} {o:Oper} (ho:ops[i]? = some o):∀ c,o.op ≠ .defer c:=by
 intro c hc
 obtain ⟨hi,rfl⟩:=Array.getElem?_eq_some_iff.1 ho
 unfold noDefer at h
 rw [Array.all_eq_true] at h
 have:=h i hi
 rw [hc] at this
 cases this
section
variable {F:Fence} {n:Nat} {P:Program} {ops:Array Oper} {md:Region.Mode} {C:World → Prop}
theorem wpIn_of_quietR {o:Oper} {a:Act} {K:Act → Prop} {K':Act → World → Prop} {Q':Exit → Act → World → Prop} {w:World} (hd:∀ c,o.op ≠ .defer c) (hw:C w) (h:∀ a w',C w' → K a → K' a w')
 (ha:o.askedIn F P a C) (hh:o.quietIn F n P a C K):o.wpIn F n P a w K' Q':=by
 obtain ⟨v,h1,h2⟩:=hh
 have h3:=h1 w hw
 unfold Oper.quietAtIn at h3
 unfold Oper.wpIn
 refine ⟨ha w hw,?_⟩
 rw [Oper.semAt_plain F _ _ hd]
 generalize (execOp a.eval o).run P w = r at *
 cases r with
 | ok x w' =>
  cases x <;> simp only [Oper.quietUponIn] at h3 <;> simp only [Oper.uponIn]
  case value u =>
   obtain ⟨e1,e2⟩:=h3
   rw [e1,e2]
   exact h _ _ hw h2
  case skip =>
   obtain ⟨e1,e2⟩:=h3
   rw [e1,← e2]
   exact h _ _ hw h2
  case enter f args =>
   obtain ⟨e1,hd,hc⟩:=h3
   rw [e1]
   exact ⟨hd,hc.mono fun e w'' ⟨he,hw''⟩ => by subst he;exact h _ _ hw'' h2⟩
 | halt x w' => simp only [Oper.quietUponIn] at h3
theorem wpOpIn_of_qOpInR {i:Nat} {a:Act} {K:Act → Prop} {K':Act → World → Prop} {Q':Exit → Act → World → Prop} {w:World} (hd:noDefer ops = true) (hC:C w) (h:∀ a w',C w' → K a → K' a w')
 (hh:qOpIn F n P ops C i K a):wpOpIn F n P ops Q' i K' a w:=by
 unfold qOpIn at hh
 unfold wpOpIn
 split
 · rename_i ho;simp only [ho] at hh;exact h _ _ hC hh
 · rename_i o ho
   simp only [ho] at hh
   obtain ⟨ha,hh⟩:=hh
   split
   · rename_i hw;simp only [hw,if_true] at hh;exact wpIn_of_quietR (noDefer_at hd ho) hC h ha hh
   · rename_i hw;simp only [hw] at hh;exact ⟨ha w hC,h _ _ hC hh⟩
theorem wpAnyIn_of_quietR {Q:Act → Prop} {Q':Exit → Act → World → Prop} (hd:noDefer ops = true) (hQ:∀ a w,C w → Q a → Q' .normal a w):∀ (fuel:Nat) (listed:Array Bool) (a:Act) (w:World),C w →
 wpAnyQIn F n P md ops C Q fuel listed a → wpAnyIn F n P md ops Q' fuel listed a w
 | 0,_,_,_,hw,h => ⟨h.1,hQ _ _ hw h.2⟩
 | fuel + 1,_,_,_,hw,h => ⟨fun h0 => hQ _ _ hw (h.1 h0),fun i hi => wpOpIn_of_qOpInR hd hw (fun a' w' hw' => wpAnyIn_of_quietR hd hQ fuel _ a' w' hw') (h.2 i hi)⟩
theorem wpIn_region_quietR {id:Nat} {Q:Exit → Act → World → Prop} {a:Act} {w:World} {l:List Oper} (hm:P.follows .mixedOrders = true) (hB:Region.lexB .any l.toArray = true) (hd:noDefer l.toArray = true)
 (h:wpQuietIn F n P l.toArray (fun w' => ∃ n,w' = w.drewN n) (fun a' => ∀ w',(∃ n,w' = w.drewN n) → Q .normal a' w') l a):(Code.region id l.toArray true).wpIn F n P Q a w:=by
 simp only [Region.lexB,Bool.and_eq_true] at hB
 refine wpIn_region_any hm (wpAnyIn_of_quietR (C:=fun w' => ∃ n,w' = w.drewN n) (Q:=fun a' => ∀ w',(∃ n,w' = w.drewN n) → Q .normal a' w') hd (fun _ w' hw' h => h w' hw') _ _ _ _ ⟨1,rfl⟩ ?_)
 have:=wpAnyQIn_lex (F:=F) (n:=n) (C:=fun w' => ∃ n,w' = w.drewN n) (md:=.any) hB.1 l.toArray.toList 0 (Array.replicate l.toArray.size false) a (by simp) (by simpa using hB.2) (by simpa using h)
 simpa using this
end
end Go.Proofs.YtcjfmildalappaaGreat
namespace Go.Proofs.YtcjfmildalappaaGreat
open Go.RowKit
section
variable {α : Type} {a b : α} {l : List α} {n : Nat}
theorem tk1 : (a :: l).take (n + 1) = a :: l.take n := rfl
theorem tk0 : l.take 0 = [] := rfl
theorem dr1 : (a :: l).drop (n + 1) = l.drop n := rfl
theorem dr0 : l.drop 0 = l := rfl
theorem sia (i : Nat) : l.toArray.setIfInBounds i a = (l.set i a).toArray := List.setIfInBounds_toArray ..
theorem sc0 : (a :: l).set 0 b = b :: l := rfl
theorem sc1 : (a :: l).set (n + 1) b = a :: l.set n b := rfl
end
theorem Hd {p:Prop} (h:p):Hid p:=Lib.hid h
def Cells (w:World) (b:Nat) (t:TypeId) (cs:List Value):Prop:=w.heap[b]? = some (.cells cs.toArray t (0,0))
structure Only (S:List Nat) (a w:World):Prop where
 os:w.os = a.os
 tape:w.tape = a.tape
 output:w.output = a.output
 size:a.heap.size ≤ w.heap.size
 block:∀ k,k < a.heap.size → k ∉ S → w.heap[k]? = a.heap[k]?
section
variable {S S':List Nat} {a w w':World} {b:Nat} {t:TypeId} {cs:List Value}
theorem Only.refl (S:List Nat) (w:World):Only S w w:=⟨rfl,rfl,rfl,Nat.le_refl _,fun _ _ _ => rfl⟩
theorem oz {S : List Nat} {w : World} : Only S w w := Only.refl _ _
theorem Only.trans (h:Only S a w) (k:Only S' w w') (hS:∀ x,x ∈ S' → x ∈ S ∨ a.heap.size ≤ x):Only S a w':=
 ⟨k.os.trans h.os,k.tape.trans h.tape,k.output.trans h.output,Nat.le_trans h.size k.size,fun i hi hn =>
  (k.block i (Nat.lt_of_lt_of_le hi h.size) (fun hm => by
   rcases hS i hm with h1 | h1
   · exact hn h1
   · omega)).trans (h.block i hi hn)⟩
theorem Only.tr (h:Only S a w) (k:Only S w w'):Only S a w':=h.trans k fun _ hx => .inl hx
theorem Only.tr0 (h:Only S a w) (k:Only [] w w'):Only S a w':=h.trans k fun _ hx => by cases hx
theorem Only.mono (h:Only S a w) (hS:∀ x,x ∈ S → x ∈ S' ∨ a.heap.size ≤ x):Only S' a w:=
 ⟨h.os,h.tape,h.output,h.size,fun i hi hn => h.block i hi (fun hm => by
  rcases hS i hm with h1 | h1
  · exact hn h1
  · omega)⟩
theorem Only.of0 (h:Only [] a w):Only S a w:=h.mono fun _ hx => by cases hx
theorem Only.drew (h:Only S a w):Only S a w.drew:=⟨h.os,h.tape,h.output,h.size,h.block⟩
theorem Only.drewN (h:Only S a w) (n:Nat):Only S a (w.drewN n):=⟨h.os,h.tape,h.output,h.size,h.block⟩
theorem Only.alloc (h:Only S a w) (o:Obj):Only S a (w.alloc o):=
 ⟨h.os,h.tape,h.output,Nat.le_trans h.size (by simp),fun i hi hn => (Below.heap_alloc w o i (Nat.lt_of_lt_of_le hi h.size)).trans (h.block i hi hn)⟩
theorem Only.setCell (h:Only S a w) {p:Addr} (hp:p.block ∈ S ∨ a.heap.size ≤ p.block) (u:Value):Only S a (w.setCell p u):=
 ⟨h.os,h.tape,h.output,by simpa [World.setCell] using h.size,fun i hi hn => (Below.heap_setCell w p u i (by
  rintro rfl
  rcases hp with hp | hp
  · exact hn hp
  · omega)).trans (h.block i hi hn)⟩
theorem Only.below (h:Only [] a w):Below a.heap.size a w:=⟨h.os,h.tape,h.output,h.size,fun k hk => h.block k hk (by simp)⟩
theorem Only.of_below (h:Below a.heap.size a w):Only S a w:=⟨h.os,h.tape,h.output,h.size,fun k hk _ => h.block k hk⟩
theorem Only.grown {row:Option Nat} (h:Only S a w) (hg:w.grownBy w' row) (hr:∀ g,row = some g → g ∈ S ∨ a.heap.size ≤ g):Only S a w':=
 ⟨hg.os.trans h.os,hg.tape.trans h.tape,hg.output.trans h.output,Nat.le_trans h.size hg.size,fun i hi hn =>
  (hg.block i (Nat.lt_of_lt_of_le hi h.size) (fun e => by
   rcases hr i e.symm with h1 | h1
   · exact hn h1
   · omega)).trans (h.block i hi hn)⟩
theorem Only.cell (h:Only S a w) {p:Addr} (hp:p.block < a.heap.size) (hn:p.block ∉ S):w.cell? p = a.cell? p:=World.cell?_of_block (w:=a) (h.block p.block hp hn)
theorem Only.frozen (h:Only S a w) {p:Addr} (hp:p.block < a.heap.size) (hn:p.block ∉ S):w.frozen? p = a.frozen? p:=World.frozen?_of_block (w:=a) (h.block p.block hp hn)
theorem Cells.lt (h:Cells w b t cs):b < w.heap.size:=by
 rcases Nat.lt_or_ge b w.heap.size with hlt | hge
 · exact hlt
 · unfold Cells at h;rw [Array.getElem?_eq_none hge] at h;cases h
theorem Cells.cell (h:Cells w b t cs) {k:Nat} {v:Value} (hv:cs[k]? = some v):w.cell? ⟨b,k,none⟩ = some v:=by
 have:=cell_of_row w b k cs.toArray t (0,0) h
 rw [this];simpa using hv
theorem Cells.frozen (h:Cells w b t cs) (k:Nat):w.frozen? ⟨b,k,none⟩ = false:=by
 unfold Cells at h
 simp [World.frozen?,h]
theorem Cells.new (w:World) (t:TypeId) (cs:List Value):Cells (w.alloc (.cells cs.toArray t)) w.heap.size t cs:=heap_alloc_new w _
theorem Cells.drew (h:Cells w b t cs):Cells w.drew b t cs:=h
theorem Cells.drewN (h:Cells w b t cs) (n:Nat):Cells (w.drewN n) b t cs:=h
theorem Cells.alloc (h:Cells w b t cs) (o:Obj):Cells (w.alloc o) b t cs:=(Below.heap_alloc w o b h.lt).trans h
theorem Cells.set (h:Cells w b t cs) (i:Nat) (u:Value):Cells (w.setCell ⟨b,i,none⟩ u) b t (cs.set i u):=by
 unfold Cells at h ⊢
 simp [World.setCell,Array.getElem?_modify,h]
theorem Cells.far (h:Cells w b t cs) {p:Addr} (hp:b ≠ p.block) (u:Value):Cells (w.setCell p u) b t cs:=(Below.heap_setCell w p u b hp).trans h
theorem Cells.only (h:Cells a b t cs) (ho:Only S a w) (hb:b ∉ S):Cells w b t cs:=(ho.block b h.lt hb).trans h
theorem Cells.ne {b':Nat} {t':TypeId} {cs':List Value} (h:Cells w b t cs) (h':Cells w b' t' cs') (hne:t ≠ t'):b ≠ b':=by
 rintro rfl
 unfold Cells at h h'
 rw [h] at h'
 injection h' with h'
 injection h' with _ ht
 exact hne ht
end
structure Since (W:World) where
 w:World
 h:Only [] W w
instance (W:World):Nonempty (Since W):=⟨⟨W,Only.refl _ _⟩⟩
theorem wp_region_only {P:Program} {id:Nat} {Q:Exit → Act → World → Prop} {a:Act} {w:World} {l:List Oper} (W:World) (hw:Only [] W w) (hm:P.follows .mixedOrders = true) (hB:Region.lexB .any l.toArray = true)
 (h:wpQuiet P l.toArray (fun w' => ∃ u:Since W,w' = u.w) (fun a' => ∀ u:Since W,Q .normal a' u.w) l a):(Code.region id l.toArray true).wp P Q a w:=by
 refine wp_region_quiet (C:=fun w' => ∃ u:Since W,w' = u.w) hm hB ⟨⟨_,hw.drew⟩,rfl⟩ ?_
 have:(fun a' => ∀ w',(∃ u:Since W,w' = u.w) → Q .normal a' w') = (fun a' => ∀ u:Since W,Q .normal a' u.w):=by
  funext a'
  exact propext ⟨fun h u => h _ ⟨u,rfl⟩,fun h w' ⟨u,hu⟩ => hu ▸ h u⟩
 rw [this]
 exact h
theorem Calls.only {P:Program} {f:FuncId} {args:Array Value} {W:World} {u:Since W} {v:Value} (h:Calls P f args u.w fun e w' => e = .returned v ∧ Only [] u.w w'):
 Calls P f args u.w fun e w'' => e = .returned v ∧ ∃ u':Since W,w'' = u'.w:=
 h.mono fun _ w' ⟨he,ho⟩ => ⟨he,⟨w',u.h.tr0 ho⟩,rfl⟩
theorem Calls.only_same {P:Program} {f:FuncId} {args:Array Value} {W:World} {u:Since W} {v:Value} (h:Calls P f args u.w fun e w' => e = .returned v ∧ u.w = w'):
 Calls P f args u.w fun e w'' => e = .returned v ∧ ∃ u':Since W,w'' = u'.w:=
 h.mono fun _ _ ⟨he,ho⟩ => ⟨he,u,ho.symm⟩
theorem Since.cell {W:World} (u:Since W) {p:Addr} {v:Value} (h:W.cell? p = some v):u.w.cell? p = some v:=
 (u.h.cell (World.block_lt_of_cell? W _ h) (by simp)).trans h
theorem own_only {S:List Nat} {w w':World} {base:Nat} {e:TypeId} {sz n:Nat} {v:Value} {xs:List Value} (h:w.ownsRow base e sz v n xs) (ho:Only S w w') (hS:∀ x,x ∈ S → x < base):w'.ownsRow base e sz v n xs:=by
 obtain ⟨hl,h⟩:=h
 refine ⟨hl,?_⟩
 rcases h with h | ⟨g,cap,cur,hv,hb,hh,hr⟩
 · exact .inl h
 · refine .inr ⟨g,cap,cur,hv,hb,?_,hr⟩
   have hlt:g < w.heap.size:=by
    rcases Nat.lt_or_ge g w.heap.size with hlt | hge
    · exact hlt
    · rw [Array.getElem?_eq_none hge] at hh;cases hh
   rw [ho.block g hlt (fun hm => by have:=hS g hm;omega)]
   exact hh
theorem Only.own {S:List Nat} {a w w':World} {base:Nat} {e:TypeId} {sz n:Nat} {v:Value} {xs:List Value} (h:Only S a w) (hown:w.ownsRow base e sz v n xs) (hg:w.grownBy w' v.ownBlock) (hb:a.heap.size ≤ base):Only S a w':=
 h.grown hg fun g e => .inr (Nat.le_trans hb (hown.lt g e).1)
theorem own_cell {w:World} {base:Nat} {e:TypeId} {sz n k:Nat} {v u:Value} {xs:List Value} (h:w.ownsRow base e sz v n xs) (hk:xs[k]? = some u):∃ g cap,v = .slice (some ⟨g,0,none⟩) n cap ∧ base ≤ g ∧ g < w.heap.size ∧ w.cell? ⟨g,k,none⟩ = some u:=by
 obtain ⟨hl,h⟩:=h
 have hkl:k < xs.length:=(List.getElem?_eq_some_iff.1 hk).1
 rcases h with ⟨_,rfl⟩ | ⟨g,cap,cur,hv,hb,hh,hnc,_,hsz,hxs⟩
 · simp at hl;rw [hl] at hkl;simp at hkl
 · refine ⟨g,cap,hv,hb,?_,?_⟩
   · rcases Nat.lt_or_ge g w.heap.size with hlt | hge
     · exact hlt
     · rw [Array.getElem?_eq_none hge] at hh;cases hh
   · rw [cell_of_row w g k cur e (0,0) hh,← hk,← hxs,List.getElem?_take_of_lt (by omega)]
     simp
theorem own_ne_block {w:World} {base b:Nat} {e t:TypeId} {sz n:Nat} {v:Value} {xs cs:List Value} (h:w.ownsRow base e sz v n xs) (hc:Cells w b t cs) (hne:e ≠ t):v.ownBlock ≠ some b:=by
 intro hb
 obtain ⟨_,h⟩:=h
 rcases h with ⟨rfl,_⟩ | ⟨g,cap,cur,rfl,_,hh,_⟩
 · simp [Value.ownBlock] at hb
 · simp [Value.ownBlock] at hb
   subst hb
   unfold Cells at hc
   rw [hh] at hc
   injection hc with hc
   injection hc with _ h2
   exact hne h2
theorem Cells.grown {w w':World} {b:Nat} {t:TypeId} {cs:List Value} {row:Option Nat} (h:Cells w b t cs) (hg:w.grownBy w' row) (hne:row ≠ some b):Cells w' b t cs:=
 (hg.block b h.lt (fun e => hne e.symm)).trans h
theorem wpList_app {P:Program} {ops:Array Oper} {rest:List Oper} {o:Oper} {a:Act} {Q:Exit → Act → World → Prop} (hgd:o.guard = none) (s x:Operand) (t:TypeId)
 (ho:o.op = .call { callee:=.builtin .append,args:=#[s,x],argTypes:=#[t,t] })
 (base:Nat) (e:TypeId) (i:TypeInfo) (z:Value) (size bytes:Nat) (ht:P.underlying t = some (.slice e)) (hi:P.info? e = some i) (hz:i.zero = some z)
 (hsize:i.size = size) (hby:i.bytes = bytes) (hzs:z.cells.size = size) (hsz:0 < size) (w:World)
 (v:Value) (n:Nat) (xs:List Value) (hs:a.eval s = v) (hown:w.ownsRow base e size v n xs)
 (m c:Nat) (cs:List Value) (hx:a.eval x = .slice (some ⟨w.heap.size,0,none⟩) m c) (hl:cs.length = m * size) (h1:∀ u ∈ cs,u.oneCell' = true)
 (h63:n + m ≤ maxLen) (hbytes:(n + m) * bytes ≤ 140737488355328) (hbase:base ≤ w.heap.size)
 (h:∀ v' w',w'.ownsRow base e size v' (n + m) (xs ++ cs) → w.grownBy w' v.ownBlock → (v' = .slice none 0 0 ↔ v = .slice none 0 0 ∧ m = 0) → wpList P ops Q rest (a.put o.dst v') w'):
 wpList P ops Q (o :: rest) a (w.alloc (.cells cs.toArray e)):=by
 refine wpList_append_own _ hgd s x t ho base e i z size bytes ht hi hz hsize hby hzs hsz v n xs hs (hown.alloc _) ⟨w.heap.size,0,none⟩ m c cs hx hl (fun j u hu => ?_) h1 h63 hbytes (by simp;omega) fun v' w' h2 h3 h4 => h v' w' h2 ?_ h4
 · have:=(Cells.new w e cs).cell hu
   unfold Addr.add
   by_cases hj:j = 0
   · subst hj;simpa using this
   · simp only [hj,if_false,Nat.zero_add];exact this
 · exact ⟨h3.os,h3.tape,h3.output,Nat.le_trans (by simp) h3.size,fun k hk hne => (h3.block k (by simp;omega) hne).trans (Below.heap_alloc w _ k hk)⟩
theorem flat_get {α:Type} (f:α → List Value) (n:Nat) (hf:∀ x,(f x).length = n):∀ (l:List α) (i j:Nat) (x:α),l[i]? = some x → j < n → (l.flatMap f)[i * n + j]? = (f x)[j]?
 | [],i,j,x,h,_ => by simp at h
 | y :: l,0,j,x,h,hj => by
  simp at h;subst h
  rw [List.flatMap_cons,Nat.zero_mul,Nat.zero_add,List.getElem?_append_left (by rw [hf];exact hj)]
 | y :: l,i + 1,j,x,h,hj => by
  rw [List.flatMap_cons,List.getElem?_append_right (by rw [hf,Nat.succ_mul];omega),hf]
  rw [show (i + 1) * n + j - n = i * n + j from by rw [Nat.succ_mul];omega]
  exact flat_get f n hf l i j x (by simpa using h) hj
theorem flat_set {α:Type} (f:α → List Value) (n:Nat) (hf:∀ x,(f x).length = n):∀ (l:List α) (i j:Nat) (x x':α) (v:Value),l[i]? = some x → j < n → (f x).set j v = f x' →
 (l.flatMap f).set (i * n + j) v = (l.set i x').flatMap f
 | [],i,j,x,x',v,h,_,_ => by simp at h
 | y :: l,0,j,x,x',v,h,hj,hs => by
  simp at h;subst h
  rw [List.flatMap_cons,Nat.zero_mul,Nat.zero_add,List.set_append_left _ _ (by rw [hf];exact hj),hs,List.set_cons_zero,List.flatMap_cons]
 | y :: l,i + 1,j,x,x',v,h,hj,hs => by
  rw [List.flatMap_cons,List.set_append_right _ _ (by rw [hf,Nat.succ_mul];omega),hf]
  rw [show (i + 1) * n + j - n = i * n + j from by rw [Nat.succ_mul];omega]
  rw [flat_set f n hf l i j x x' v (by simpa using h) hj hs,List.set_cons_succ,List.flatMap_cons]
theorem flat_length {α:Type} (f:α → List Value) (n:Nat) (hf:∀ x,(f x).length = n) (l:List α):(l.flatMap f).length = l.length * n:=by
 induction l with
 | nil => simp
 | cons y l ih => rw [List.flatMap_cons,List.length_append,hf,ih,List.length_cons,Nat.succ_mul];omega
theorem Cells.c11 {w:World} {b:Nat} {t:TypeId} {a0 a1 a2 a3 a4 a5 a6 a7 a8 a9 a10:Value} (h:Cells w b t [a0,a1,a2,a3,a4,a5,a6,a7,a8,a9,a10]):w.cell? ⟨b,0,none⟩ = some a0 ∧ w.cell? ⟨b,1,none⟩ = some a1 ∧ w.cell? ⟨b,2,none⟩ = some a2 ∧ w.cell? ⟨b,3,none⟩ = some a3 ∧ w.cell? ⟨b,4,none⟩ = some a4 ∧ w.cell? ⟨b,5,none⟩ = some a5 ∧ w.cell? ⟨b,6,none⟩ = some a6 ∧ w.cell? ⟨b,7,none⟩ = some a7 ∧ w.cell? ⟨b,8,none⟩ = some a8 ∧ w.cell? ⟨b,9,none⟩ = some a9 ∧ w.cell? ⟨b,10,none⟩ = some a10:=
 ⟨h.cell (k:=0) rfl,h.cell (k:=1) rfl,h.cell (k:=2) rfl,h.cell (k:=3) rfl,h.cell (k:=4) rfl,h.cell (k:=5) rfl,h.cell (k:=6) rfl,h.cell (k:=7) rfl,h.cell (k:=8) rfl,h.cell (k:=9) rfl,h.cell (k:=10) rfl⟩
theorem Cells.nx {W w w' : World} {b : Nat} {t : TypeId} {a0 a1 a2 a3 a4 a5 a6 a7 a8 a9 a10 : Value} (h : Cells w b t [a0, a1, a2, a3, a4, a5, a6, a7, a8, a9, a10]) (HO : Hid (Only [] W w)) (ho : Only [] w w') : Cells w' b t [a0, a1, a2, a3, a4, a5, a6, a7, a8, a9, a10] ∧ Hid (Only [] W w') ∧ w'.cell? ⟨b, 0, none⟩ = some a0 ∧ w'.cell? ⟨b, 1, none⟩ = some a1 ∧ w'.cell? ⟨b, 2, none⟩ = some a2 ∧ w'.cell? ⟨b, 3, none⟩ = some a3 ∧ w'.cell? ⟨b, 4, none⟩ = some a4 ∧ w'.cell? ⟨b, 5, none⟩ = some a5 ∧ w'.cell? ⟨b, 6, none⟩ = some a6 ∧ w'.cell? ⟨b, 7, none⟩ = some a7 ∧ w'.cell? ⟨b, 8, none⟩ = some a8 ∧ w'.cell? ⟨b, 9, none⟩ = some a9 ∧ w'.cell? ⟨b, 10, none⟩ = some a10 :=
 have h2 := h.only ho (by simp)
 ⟨h2, Hd (HO.out.tr ho), h2.c11⟩
end Go.Proofs.YtcjfmildalappaaGreat
namespace Go.Proofs.YtcjfmildalappaaGreat
open Go.RowKit Go.ChangeShapes Go.WideShapes Go.Deep
def SlAt (w:World) (B:Nat) (v:Value) (sz n:Nat) (xs:List Value):Prop:=
 xs.length = n * sz ∧ ∃ A c,v = .slice A n c ∧ n ≤ c ∧ c ≤ maxLen ∧ (0 < n * sz → ∃ b o,A = some ⟨b,o,none⟩ ∧ b < B ∧ ∀ j u,xs[j]? = some u → w.cell? ⟨b,o + j,none⟩ = some u)
theorem SlAt.only {S:List Nat} {w w':World} {B sz n:Nat} {v:Value} {xs:List Value} (h:SlAt w B v sz n xs) (ho:Only S w w') (hB:B ≤ w.heap.size) (hS:∀ x,x ∈ S → B ≤ x):SlAt w' B v sz n xs:=by
 obtain ⟨hl,A,c,hv,hnc,hc,h⟩:=h
 refine ⟨hl,A,c,hv,hnc,hc,fun hn => ?_⟩
 obtain ⟨b,o,hA,hb,hh⟩:=h hn
 exact ⟨b,o,hA,hb,fun j u hu => (ho.cell (p:=⟨b,o + j,none⟩) (show b < _ by omega) (fun hm => by have:=hS b hm;omega)).trans (hh j u hu)⟩
theorem SlAt.more {w:World} {B B' sz n:Nat} {v:Value} {xs:List Value} (h:SlAt w B v sz n xs) (hB:B ≤ B'):SlAt w B' v sz n xs:=by
 obtain ⟨hl,A,c,hv,hnc,hc,h⟩:=h
 refine ⟨hl,A,c,hv,hnc,hc,fun hn => ?_⟩
 obtain ⟨b,o,hA,hb,hh⟩:=h hn
 exact ⟨b,o,hA,by omega,hh⟩
theorem SlAt.shape {w:World} {B sz n:Nat} {v:Value} {xs:List Value} (h:SlAt w B v sz n xs):∃ A c,v = .slice A n c:=by
 obtain ⟨_,A,c,hv,_⟩:=h;exact ⟨A,c,hv⟩
theorem SlAt.at_ {w:World} {B sz n:Nat} {v:Value} {xs:List Value} (h:SlAt w B v sz n xs) (hn:0 < n * sz):
 ∃ b o c,v = .slice (some ⟨b,o,none⟩) n c ∧ b < B ∧ ∀ j u,xs[j]? = some u → w.cell? ⟨b,o + j,none⟩ = some u:=by
 obtain ⟨_,A,c,hv,_,_,h⟩:=h
 obtain ⟨b,o,rfl,hb,hh⟩:=h hn
 exact ⟨b,o,c,hv,hb,hh⟩
theorem SlAt.of_own {w:World} {base:Nat} {e:TypeId} {sz n:Nat} {v:Value} {xs:List Value} (h:w.ownsRow base e sz v n xs):SlAt w w.heap.size v sz n xs:=by
 obtain ⟨hl,h⟩:=h
 refine ⟨hl,?_⟩
 rcases h with ⟨rfl,rfl⟩ | ⟨g,cap,cur,hv,hb,hh,hnc,hcm,hsz,hxs⟩
 · exact ⟨none,0,rfl,by omega,by simp [maxLen],fun hn => by simp at hn⟩
 · refine ⟨some ⟨g,0,none⟩,cap,hv,hnc,hcm,fun hn => ⟨g,0,rfl,?_,fun j u hu => ?_⟩⟩
   · rcases Nat.lt_or_ge g w.heap.size with hlt | hge
     · exact hlt
     · rw [Array.getElem?_eq_none hge] at hh;cases hh
   · have hj:j < xs.length:=(List.getElem?_eq_some_iff.1 hu).1
     rw [Nat.zero_add,cell_of_row w g j cur e (0,0) hh,← hu,← hxs,List.getElem?_take_of_lt (by omega)]
     simp
theorem map_one {α:Type} (f:α → Value) (l:List α):l.map f = l.flatMap fun x => [f x]:=by
 induction l with
 | nil => rfl
 | cons x l ih => rw [List.map_cons,List.flatMap_cons,ih];rfl
theorem list_of {α:Type} (p:Nat → α → Prop):∀ n:Nat,(∀ i,i < n → ∃ x,p i x) → ∃ l:List α,l.length = n ∧ ∀ (i:Nat) (x:α),l[i]? = some x → p i x
 | 0,_ => ⟨[],rfl,fun i x h => by simp at h⟩
 | n + 1,h => by
  obtain ⟨l,hl,hp⟩:=list_of p n fun i hi => h i (by omega)
  obtain ⟨x,hx⟩:=h n (by omega)
  refine ⟨l ++ [x],by simp [hl],fun i y hy => ?_⟩
  by_cases hi:i < l.length
  · rw [List.getElem?_append_left hi] at hy;exact hp i y hy
  · rw [List.getElem?_append_right (by omega)] at hy
    by_cases h0:i - l.length = 0
    · rw [h0] at hy;simp at hy;subst hy
      rw [show i = n from by omega];exact hx
    · simp [h0] at hy
theorem flat_of {α:Type} (f:α → List Value) (sz:Nat) (hf:∀ x,(f x).length = sz) (good:α → Prop) (n:Nat) (xs:List Value) (hl:xs.length = n * sz)
 (h:∀ i,i < n → ∃ x:α,good x ∧ ∀ j,j < sz → xs[i * sz + j]? = (f x)[j]?):∃ l:List α,l.length = n ∧ xs = l.flatMap f ∧ ∀ x ∈ l,good x:=by
 obtain ⟨l,hln,hp⟩:=list_of (fun i x => good x ∧ ∀ j,j < sz → xs[i * sz + j]? = (f x)[j]?) n h
 refine ⟨l,hln,?_,fun x hx => ?_⟩
 · apply List.ext_getElem?
   intro k
   by_cases hk:k < n * sz
   · have hsz:0 < sz:=by rcases Nat.eq_zero_or_pos sz with h0 | h0;· simp [h0] at hk
                         · exact h0
     have hi:k / sz < n:=by rw [Nat.div_lt_iff_lt_mul hsz];exact hk
     have hx:l[k / sz]? = some l[k / sz]:=List.getElem?_eq_getElem (by omega)
     have hk2:k = k / sz * sz + k % sz:=by rw [Nat.mul_comm];exact (Nat.div_add_mod k sz).symm
     rw [hk2,(hp _ _ hx).2 _ (Nat.mod_lt _ hsz),flat_get f sz hf l _ _ _ hx (Nat.mod_lt _ hsz)]
   · rw [List.getElem?_eq_none (by omega),List.getElem?_eq_none (by rw [flat_length f sz hf,hln];omega)]
 · obtain ⟨i,hi⟩:=List.getElem?_of_mem hx
   exact (hp i x hi).1
section
variable {H:Type} {enc:TypeId × Value → H} {P:Program} {w:World} {base:Nat} {spare:Nat → Bool} {held:Bool}
theorem cell_spot {w:World} {a:Addr} {v:Value} (h:w.cell? a = some v):a = ⟨a.block,a.off,none⟩:=by
 have:=World.cell?_spot h
 cases a;simp_all
theorem open_structs {r:Reach} {b0:Nat} {t e:TypeId} {fs:Array Field} {v:Value} {d:DataW H} {p:List MemPlace} (ht:P.underlying t = some (.slice e)) (he:P.underlying e = some (.struct fs))
 (hone:oneCellFields P fs = true) (hC:P.cellsOf e = fs.size) (hv:Value.okWide P w r b0 t v) (h:DataW.Trod enc P w base spare held t v d p):
 ∃ n xs,SlAt w w.heap.size v fs.size n xs ∧ ∀ i,i < n → ∀ (j:Nat) (f:Field),fs[j]? = some f → ∃ u y m,xs[i * fs.size + j]? = some u ∧ DataW.trod enc P w base spare held m f.type [u] = some y:=by
 obtain ⟨a0,len,cap,rfl⟩:=okWide_slice ht hv
 obtain ⟨fuel,hf⟩:=h
 simp only [Value.cells] at hf
 rcases open_slice ht hf with ⟨hcs,_⟩ | ⟨a,len',cap',m,n,D,Pl,hcs,hb,hl,hm,hmm,hx,hi⟩
 · simp at hcs
   obtain ⟨rfl,rfl,rfl⟩:=hcs
   exact ⟨0,[],⟨by simp,none,0,rfl,by omega,by simp [maxLen],fun h => by simp at h⟩,fun i hi => by omega⟩
 · simp at hcs
   obtain ⟨rfl,rfl,rfl⟩:=hcs
   have hlm:len ≤ m:=by rw [hmm];split <;> omega
   have key:∀ i,i < len → ∀ (j:Nat) (f:Field),fs[j]? = some f → ∃ u y m,w.cell? (a.add (i * fs.size + j)) = some u ∧ DataW.trod enc P w base spare held m f.type [u] = some y:=by
    intro i hil j f hj
    obtain ⟨cs',hc,ht'⟩:=hi i (by omega)
    rw [hC] at hc
    obtain ⟨ys,n',hn',hy,hlen,hyl,hf'⟩:=DataW.trod_struct he ht'
    obtain ⟨_,hcl,hat⟩:=World.cells?_some hc
    obtain ⟨ho,hk⟩:=hone_of hone j f hj
    have hjl:j < fs.size:=(Array.getElem?_eq_some_iff.1 hj).1
    have hcell:=hat j hjl
    have hv:cs'[j]? = some (cs'[j]'(by omega)):=List.getElem?_eq_getElem (by omega)
    have h1:=hf' j f hj
    rw [ho,hk] at h1
    have hone':(cs'.drop j).take 1 = [cs'[j]'(by omega)]:=by
     rw [List.drop_eq_getElem_cons (by omega)]
     rfl
    rw [hone'] at h1
    have hys:ys[j]? = some (ys[j]'(by omega)):=List.getElem?_eq_getElem (by omega)
    refine ⟨cs'[j]'(by omega),_,_,?_,h1.trans hys⟩
    rw [← Go.Deep.add_add,hcell,hv]
   by_cases hz:0 < len * fs.size
   · have hfs:0 < fs.size:=by rcases Nat.eq_zero_or_pos fs.size with h0 | h0;· simp [h0] at hz
                              · exact h0
     have hlen:0 < len:=by rcases Nat.eq_zero_or_pos len with h0 | h0;· simp [h0] at hz
                           · exact h0
     obtain ⟨u0,_,_,hc0,_⟩:=key 0 hlen 0 fs[0] (Array.getElem?_eq_getElem hfs)
     have ha:a = ⟨a.block,a.off,none⟩:=by simpa [Addr.add] using cell_spot hc0
     have hblt:a.block < w.heap.size:=by simpa [Addr.add] using World.block_lt_of_cell? w _ hc0
     have hadd:∀ k,a.add k = ⟨a.block,a.off + k,none⟩:=by
      intro k;rw [ha];unfold Addr.add;by_cases hk:k = 0 <;> simp [hk]
     refine ⟨len,(List.range (len * fs.size)).map fun k => (w.cell? ⟨a.block,a.off + k,none⟩).getD undef,⟨by simp,some a,cap,rfl,hl,hm,fun _ => ⟨a.block,a.off,by rw [← ha],hblt,fun j u hu => ?_⟩⟩,fun i hil j f hj => ?_⟩
     · simp only [List.getElem?_map] at hu
       have hjl:j < len * fs.size:=by
        rcases Nat.lt_or_ge j (len * fs.size) with h0 | h0
        · exact h0
        · rw [List.getElem?_eq_none (by simpa using h0)] at hu;simp at hu
       rw [List.getElem?_range hjl] at hu
       simp only [Option.map_some,Option.some.injEq] at hu
       obtain ⟨u',_,_,hc',_⟩:=key (j / fs.size) ((Nat.div_lt_iff_lt_mul hfs).2 hjl) (j % fs.size) (fs[j % fs.size]'(Nat.mod_lt _ hfs)) (Array.getElem?_eq_getElem (Nat.mod_lt _ hfs))
       rw [Nat.mul_comm,Nat.div_add_mod,hadd] at hc'
       rw [hc'] at hu ⊢
       simpa using hu
     · obtain ⟨u,y,m',hc',hy⟩:=key i hil j f hj
       have hjl:j < fs.size:=(Array.getElem?_eq_some_iff.1 hj).1
       have hlt:i * fs.size + j < len * fs.size:=by
        have:(i + 1) * fs.size ≤ len * fs.size:=Nat.mul_le_mul_right _ hil
        rw [Nat.succ_mul] at this;omega
       refine ⟨u,y,m',?_,hy⟩
       rw [List.getElem?_map,List.getElem?_range hlt]
       rw [hadd] at hc'
       simp [hc']
   · refine ⟨len,[],⟨by simp;omega,some a,cap,rfl,hl,hm,fun h => absurd h hz⟩,fun i hil j f hj => ?_⟩
     have hjl:j < fs.size:=(Array.getElem?_eq_some_iff.1 hj).1
     exact absurd (Nat.mul_pos (by omega) (by omega)) hz
theorem open_ones {r:Reach} {b0:Nat} {t e:TypeId} {v:Value} {d:DataW H} {p:List MemPlace} (ht:P.underlying t = some (.slice e)) (hC:P.cellsOf e = 1)
 (hv:Value.okWide P w r b0 t v) (h:DataW.Trod enc P w base spare held t v d p):
 ∃ n xs,SlAt w w.heap.size v 1 n xs ∧ ∀ i,i < n → ∃ u y m,xs[i]? = some u ∧ DataW.trod enc P w base spare held m e [u] = some y:=by
 obtain ⟨a0,len,cap,rfl⟩:=okWide_slice ht hv
 obtain ⟨fuel,hf⟩:=h
 simp only [Value.cells] at hf
 rcases open_slice ht hf with ⟨hcs,_⟩ | ⟨a,len',cap',m,n,D,Pl,hcs,hb,hl,hm,hmm,hx,hi⟩
 · simp at hcs
   obtain ⟨rfl,rfl,rfl⟩:=hcs
   exact ⟨0,[],⟨by simp,none,0,rfl,by omega,by simp [maxLen],fun h => by simp at h⟩,fun i hi => by omega⟩
 · simp at hcs
   obtain ⟨rfl,rfl,rfl⟩:=hcs
   have hlm:len ≤ m:=by rw [hmm];split <;> omega
   have key:∀ i,i < len → ∃ u y m,w.cell? (a.add i) = some u ∧ DataW.trod enc P w base spare held m e [u] = some y:=by
    intro i hil
    obtain ⟨cs',hc,ht'⟩:=hi i (by omega)
    rw [hC,Nat.mul_one] at hc
    obtain ⟨_,hcl,hat⟩:=World.cells?_some hc
    have hcell:=hat 0 (by omega)
    match cs',hcl with
    | [u],_ => exact ⟨u,_,_,by simpa [Addr.add] using hcell,ht'⟩
   by_cases hz:0 < len
   · obtain ⟨u0,_,_,hc0,_⟩:=key 0 hz
     have ha:a = ⟨a.block,a.off,none⟩:=by simpa [Addr.add] using cell_spot hc0
     have hblt:a.block < w.heap.size:=by simpa [Addr.add] using World.block_lt_of_cell? w _ hc0
     have hadd:∀ k,a.add k = ⟨a.block,a.off + k,none⟩:=by
      intro k;rw [ha];unfold Addr.add;by_cases hk:k = 0 <;> simp [hk]
     refine ⟨len,(List.range len).map fun k => (w.cell? ⟨a.block,a.off + k,none⟩).getD undef,⟨by simp,some a,cap,rfl,hl,hm,fun _ => ⟨a.block,a.off,by rw [← ha],hblt,fun j u hu => ?_⟩⟩,fun i hil => ?_⟩
     · simp only [List.getElem?_map] at hu
       have hjl:j < len:=by
        rcases Nat.lt_or_ge j len with h0 | h0
        · exact h0
        · rw [List.getElem?_eq_none (by simpa using h0)] at hu;simp at hu
       rw [List.getElem?_range hjl] at hu
       simp only [Option.map_some,Option.some.injEq] at hu
       obtain ⟨u',_,_,hc',_⟩:=key j hjl
       rw [hadd] at hc'
       rw [hc'] at hu ⊢
       simpa using hu
     · obtain ⟨u,y,m',hc',hy⟩:=key i hil
       refine ⟨u,y,m',?_,hy⟩
       rw [List.getElem?_map,List.getElem?_range hil]
       rw [hadd] at hc'
       simp [hc']
   · exact ⟨len,[],⟨by simp;omega,some a,cap,rfl,hl,hm,fun h => by omega⟩,fun i hil => by omega⟩
end
end Go.Proofs.YtcjfmildalappaaGreat
namespace Go.Proofs.YtcjfmildalappaaGreat
open Go.RowKit
theorem str_extract (l:List UInt8) (a b:Nat):(⟨l.toArray⟩:ByteArray).extract a b = ⟨((l.drop a).take (b - a)).toArray⟩:=by
 rw [ByteArray.extract_mk]
 try simp [List.extract_eq_take_drop]
theorem str_to_end (l:List UInt8) (a:Nat):(⟨l.toArray⟩:ByteArray).extract a l.length = ⟨(l.drop a).toArray⟩:=by
 rw [str_extract,List.take_of_length_le (by simp)]
theorem str_from_start (l:List UInt8) (b:Nat):(⟨l.toArray⟩:ByteArray).extract 0 b = ⟨(l.take b).toArray⟩:=by
 rw [str_extract];simp
theorem str_of (s:ByteArray):∃ l:List UInt8,s = ⟨l.toArray⟩ ∧ s.size = l.length:=⟨s.data.toList,by simp,by simp⟩
theorem str_size (l:List UInt8):(⟨l.toArray⟩:ByteArray).size = l.length:=rfl
theorem bits_xor_comm (k:IntKind) (x y:Int):bits .xor k x y = bits .xor k y x:=by
 show k.wrap ((BitVec.ofInt k.bits x ^^^ BitVec.ofInt k.bits y).toNat:Int) = k.wrap ((BitVec.ofInt k.bits y ^^^ BitVec.ofInt k.bits x).toNat:Int)
 rw [BitVec.xor_comm]
theorem ofInt_i64' (a:Nat) (ha:a < 9223372036854775808):(BitVec.ofInt 64 (a:Int)).toNat = a:=by
 rw [BitVec.ofInt_natCast,BitVec.toNat_ofNat];exact Nat.mod_eq_of_lt (by omega)
theorem i64_xor_zero (a:Nat) (ha:a < 9223372036854775808):bits .xor .i64 (a:Int) 0 = (a:Int):=by
 show IntKind.i64.wrap ((BitVec.ofInt 64 (a:Int) ^^^ BitVec.ofInt 64 ((0:Nat):Int)).toNat:Int) = _
 rw [BitVec.toNat_xor,ofInt_i64' a ha,ofInt_i64' 0 (by omega),Nat.xor_zero,IntKind.wrap_i64]
 omega
def hashB (h:Nat) (b:UInt8):Nat:=(h ^^^ b.toNat) * 16777619 % 4294967296
def hashL (l:List UInt8):Nat:=l.foldl hashB 2166136261
def shardL (l:List UInt8):Nat:=hashL l % 8
theorem hashB_lt (h:Nat) (b:UInt8):hashB h b < 4294967296:=Nat.mod_lt _ (by omega)
theorem foldl_snoc' {α β:Type} (f:β → α → β) (a:β) (l:List α) (b:α):(l ++ [b]).foldl f a = f (l.foldl f a) b:=by simp
theorem hashL_snoc (l:List UInt8) (b:UInt8):hashL (l ++ [b]) = hashB (hashL l) b:=foldl_snoc' hashB 2166136261 l b
theorem hashL_fold (l:List UInt8) (h:Nat) (hh:h < 4294967296):l.foldl hashB h < 4294967296:=by
 induction l generalizing h with
 | nil => exact hh
 | cons b l ih => exact ih _ (hashB_lt _ _)
theorem hashL_lt (l:List UInt8):hashL l < 4294967296:=by
 have:=hashL_fold l 2166136261 (by omega)
 unfold hashL
 exact this
theorem hashL_take (l:List UInt8) (k:Nat) (b:UInt8) (h:l[k]? = some b):hashL (l.take (k + 1)) = hashB (hashL (l.take k)) b:=by
 rw [List.take_add_one,h];exact hashL_snoc _ _
theorem shard_hash (l:List UInt8) (w:World) (hl:l.length ≤ 9223372036854775807):
 Calls Tryz.prog 198 #[.string ⟨l.toArray⟩] w fun e w' => e = .returned (.int .u32 (hashL l)) ∧ w = w':=by
 go_enter Tryz.func198,Tryz.ntmps198
 go_wp2_with fail
 go_loop [3,7] (fun h i => ∃ k:Nat,k ≤ l.length ∧ i = .int .i64 k ∧ h = .int .u32 (hashL (l.take k))) (fun _ i => l.length - (intOf i).toNat)
 case atStart => exact ⟨0,by omega,rfl,rfl⟩
 case round =>
  obtain ⟨k,hk,rfl,rfl⟩:=hrel
  have hlt2:=hashL_lt (l.take k)
  by_cases hlt:k < l.length
  · have hk1:=List.getElem?_eq_getElem hlt
    obtain ⟨b,hb⟩:∃ b,l[k] = b:=⟨_,rfl⟩
    rw [hb] at hk1
    have hix:∀ h:k < (⟨l.toArray⟩:ByteArray).size,(⟨l.toArray⟩:ByteArray)[k]'h = b:=fun _ => hb
    have HS:=Hd (hashL_take l k b hk1)
    obtain ⟨d,hd⟩:∃ d,hashL (l.take k) = d:=⟨_,rfl⟩
    rw [hd] at HS hlt2 ⊢
    have hb8:=b.toNat_lt
    have hx:bits .xor .u32 (d:Int) (b.toNat:Int) = ((d ^^^ b.toNat:Nat):Int):=u32_xor_nat d b.toNat hlt2 (by omega)
    clear hb hk1 hd
    go_wp2_with fail
    clear hx
    go_round
    case rel => exact ⟨k + 1,by omega,by go_num,by rw [HS.out];unfold hashB;congr 1⟩
    case measure => simp [intOf];omega
  · obtain rfl:k = l.length:=by omega
    rw [List.take_length]
    go_wp2_with fail
    go_ret
    exact ⟨rfl,rfl⟩
theorem shard_of (l:List UInt8) (w:World) (hl:l.length ≤ 9223372036854775807):
 Calls Tryz.prog 129 #[.string ⟨l.toArray⟩] w fun e w' => e = .returned (.int .i64 (shardL l)) ∧ w = w':=by
 have CH:=shard_hash l w hl
 have h1:=hashL_lt l
 go_enter Tryz.func129,Tryz.ntmps129
 go_wp2_with (go_at_call 198;refine CH.mono ?_;rintro e w' ⟨rfl,rfl⟩)
 go_ret
 exact ⟨by congr 2,rfl⟩
theorem ref_hash14 (l:List UInt8) (w:World) (hl:l.length ≤ 9223372036854775807):
 Calls Tryz.prog 79 #[.string ⟨l.toArray⟩] w fun e w' => e = .returned (.int .u32 (hashL l)) ∧ w = w':=by
 go_enter Tryz.func79,Tryz.ntmps79
 go_wp2_with fail
 go_loop [3,4] (fun h i => ∃ k:Nat,k ≤ l.length ∧ i = .int .i64 k ∧ h = .int .u64 (hashL (l.take k))) (fun _ i => l.length - (intOf i).toNat)
 case atStart => exact ⟨0,by omega,rfl,rfl⟩
 case round =>
  obtain ⟨k,hk,rfl,rfl⟩:=hrel
  have hlt2:=hashL_lt (l.take k)
  by_cases hlt:k < l.length
  · have hk1:=List.getElem?_eq_getElem hlt
    obtain ⟨b,hb⟩:∃ b,l[k] = b:=⟨_,rfl⟩
    rw [hb] at hk1
    have hix:∀ h:k < (⟨l.toArray⟩:ByteArray).size,(⟨l.toArray⟩:ByteArray)[k]'h = b:=fun _ => hb
    have HS:=Hd (hashL_take l k b hk1)
    obtain ⟨d,hd⟩:∃ d,hashL (l.take k) = d:=⟨_,rfl⟩
    rw [hd] at HS hlt2 ⊢
    have hb8:=b.toNat_lt
    have hx:bits .xor .u64 (d:Int) (b.toNat:Int) = ((d ^^^ b.toNat:Nat):Int):=u64_xor_nat d b.toNat (by omega) (by omega)
    have hxl:d ^^^ b.toNat < 4294967296:=Nat.xor_lt_two_pow (n:=32) (by omega) (by omega)
    have HB:Hid (((hashL (l.take (k + 1)):Nat):Int) = ((d ^^^ b.toNat:Nat):Int) * 16777619 % 4294967296):=by
     show _ = _;rw [HS.out];unfold hashB;omega
    obtain ⟨y,hy⟩:∃ y,d ^^^ b.toNat = y:=⟨_,rfl⟩
    rw [hy] at hx hxl HB
    clear hb hk1 hd hy HS
    go_wp2_with fail
    clear hx
    go_round
    case rel => exact ⟨k + 1,by omega,by go_num,by rw [HB.out]⟩
    case measure => simp [intOf];omega
  · obtain rfl:k = l.length:=by omega
    rw [List.take_length] at hlt2 ⊢
    have h1:((hashL l:Nat):Int) % 4294967296 = (hashL l:Nat):=by omega
    go_wp2_with fail
    go_ret
    exact ⟨rfl,rfl⟩
theorem ref_of14 (l:List UInt8) (w:World) (hl:l.length ≤ 9223372036854775807):
 Calls Tryz.prog 30 #[.string ⟨l.toArray⟩] w fun e w' => e = .returned (.int .i64 (shardL l)) ∧ w = w':=by
 have CH:=ref_hash14 l w hl
 have h1:=hashL_lt l
 go_enter Tryz.func30,Tryz.ntmps30
 go_wp2_with (go_at_call 79;refine CH.mono ?_;rintro e w' ⟨rfl,rfl⟩)
 go_ret
 exact ⟨by congr 2,rfl⟩
def bytes (l:List UInt8):List Value:=l.map fun c => Value.int .u8 c.toNat
theorem bytes_length (l:List UInt8):(bytes l).length = l.length:=by simp [bytes]
theorem bytes_append (l m:List UInt8):bytes (l ++ m) = bytes l ++ bytes m:=by simp [bytes]
theorem info_byte:(Tryz.prog.info? 5).map (fun i => (i.zero,i.size,i.bytes)) = some (some (.int .u8 0),1,1):=by kernel_rfl
theorem size_builder:(Tryz.prog.info? 209).map (·.size) = some 2:=by kernel_rfl
def Bld (T:TypeId) (B b:Nat) (p:Value) (l:List UInt8) (w:World):Prop:=
 B ≤ b ∧ ∃ v,Cells w b T [p,v] ∧ w.ownsRow B 5 1 v l.length (bytes l) ∧ (l = [] → v = .slice none 0 0)
def IsBld (T:TypeId) (B b:Nat) (l:List UInt8) (w:World):Prop:=Bld T B b (.pointer none) l w ∨ Bld T B b (.pointer (some ⟨b,0,none⟩)) l w
structure Holds (T:TypeId):Prop where
 lies:liesAt Tryz.prog Tryz.prog.depth T (2 / Tryz.prog.cellsOf T) 0 209 1 = true
 ne:5 ≠ T
theorem copyCheck_used (b:Nat) (w:World) (h0:w.cell? ⟨b,0,none⟩ = some (.pointer (some ⟨b,0,none⟩))):
 Calls Tryz.prog 211 #[.pointer (some ⟨b,0,none⟩)] w fun e w' => e = .returned (.tuple #[]) ∧ w = w':=by
 obtain ⟨j,hj,_⟩:=Option.map_eq_some_iff.1 size_builder
 go_enter Tryz.func211,Tryz.ntmps211
 go_wp2
 rw [Lib.run_neq_ptr_same w _ Tryz.underlying207 hj]
 go_wp2
 go_end0
 exact ⟨rfl,rfl⟩
theorem copyCheck_fresh (T:TypeId) (hT:Holds T) (b:Nat) (w:World) (h0:w.cell? ⟨b,0,none⟩ = some (.pointer none)) (hsh:w.shape? b = some (T,2)) (hfz:w.frozen? ⟨b,0,none⟩ = false):
 Calls Tryz.prog 211 #[.pointer (some ⟨b,0,none⟩)] w fun e w' => e = .returned (.tuple #[]) ∧ w' = w.setCell ⟨b,0,none⟩ (.pointer (some ⟨b,0,none⟩)):=by
 obtain ⟨j,hj,hjs⟩:=Option.map_eq_some_iff.1 size_builder
 go_enter Tryz.func211,Tryz.ntmps211
 go_wp2
 rw [Lib.run_to_unsafe w ⟨b,0,none⟩ Tryz.underlying207 Tryz.underlying302 hj (by rw [hjs];decide) hsh (Nat.zero_lt_succ 1)]
 simp only [Result.andThen]
 rw [Oper.upon_value]
 go_wp2
 rw [run_callFunc_extern Tryz.func241 (by kernel_rfl) (by kernel_rfl) (by kernel_rfl) (e:=Extern.AbiNoEscape.same) (by kernel_rfl)]
 rw [Lib.run_noEscape]
 simp only [Result.andThen]
 rw [Oper.upon_value]
 go_wp2
 rw [Lib.run_from_unsafe w ⟨b,0,none⟩ Tryz.underlying302 Tryz.underlying207 hj hsh hT.lies]
 simp only [Result.andThen]
 rw [Oper.upon_value]
 go_wp2
 go_end0
 exact ⟨rfl,rfl⟩
theorem copyCheck (T:TypeId) (hT:Holds T) (B b:Nat) (l:List UInt8) (w:World) (h:IsBld T B b l w):
 Calls Tryz.prog 211 #[.pointer (some ⟨b,0,none⟩)] w fun e w' => e = .returned (.tuple #[]) ∧ Bld T B b (.pointer (some ⟨b,0,none⟩)) l w' ∧ Below B w w' ∧ w.heap.size = w'.heap.size:=by
 rcases h with ⟨hB,v,hc,hown,hnil⟩ | ⟨hB,v,hc,hown,hnil⟩
 · refine (copyCheck_fresh T hT b w (hc.cell rfl) ?_ (hc.frozen 0)).mono ?_
   · unfold Cells at hc;simp [World.shape?,hc]
   · rintro e w' ⟨rfl,rfl⟩
     refine ⟨rfl,⟨hB,v,hc.set 0 _,?_,hnil⟩,(Below.refl B w).setCell (p:=⟨b,0,none⟩) hB _,by simp [World.setCell]⟩
     exact ownsRow_setCell_other hown (own_ne_block hown hc hT.ne) _
 · refine (copyCheck_used b w (hc.cell rfl)).mono ?_
   rintro e w' ⟨rfl,rfl⟩
   exact ⟨rfl,⟨hB,v,hc,hown,hnil⟩,Below.refl B w,rfl⟩
theorem writeByte (T:TypeId) (hT:Holds T) (B b:Nat) (l:List UInt8) (c:UInt8) (w:World) (h:IsBld T B b l w) (hlen:l.length + 1 ≤ 140737488355328) (hBw:B ≤ w.heap.size):
 Calls Tryz.prog 259 #[.pointer (some ⟨b,0,none⟩),.int .u8 c.toNat] w fun e w' => e = .returned .nilIface ∧ Bld T B b (.pointer (some ⟨b,0,none⟩)) (l ++ [c]) w' ∧ Below B w w':=by
 obtain ⟨i0,hi,hz0,hz1,hz2⟩:=info_parts info_byte
 have HC:=Hd (copyCheck T hT B b l w h)
 have hbl:=bytes_length l
 have HBL:=Hd hbl
 clear h hbl
 go_enter Tryz.func259,Tryz.ntmps259
 go_wp2_with fail
 refine HC.out.mono ?_
 rintro e w1 ⟨rfl,⟨hB,v,hc,hown,_⟩,hb1,hsz⟩
 have hsz1:B ≤ w1.heap.size:=Nat.le_trans hBw hb1.size
 have c1:=hc.cell (k:=1) rfl
 have hlt:=hc.lt
 have H:=Hd hc
 have hne:=own_ne_block hown hc hT.ne
 clear hc hsz
 go_wp2_with (at_builtin;refine wpList_app rfl _ _ 61 rfl B 5 i0 (.int .u8 0) 1 1 Tryz.underlying61 hi hz0 hz1 hz2 rfl (by decide) w1 v l.length (bytes l) rfl hown 1 1 [.int .u8 (c.toNat:Int)] rfl rfl (by simp [Value.oneCell']) (by unfold maxLen;omega) (by omega) hsz1 ?_)
 intro v' w2 hown' hgrow _
 obtain ⟨g,cap,hv⟩:∃ g cap,v' = .slice (some ⟨g,0,none⟩) (l.length + 1) cap:=by
  rcases hown'.2 with ⟨_,h0⟩ | ⟨g,cap,cur,hv,_⟩
  · omega
  · exact ⟨g,cap,hv⟩
 subst hv
 have hc2:=H.out.grown hgrow hne
 have d1:=hc2.cell (k:=1) rfl
 have f1:=hc2.frozen 1
 have hlt2:=hc2.lt
 have H2:=Hd hc2
 clear hc2
 go_wp2
 go_ret
 refine ⟨rfl,⟨hB,_,H2.out.set 1 _,?_,fun h => by simp at h⟩,(hb1.grown hgrow hsz1 (fun k hk => (hown.lt k hk).1)).setCell (p:=⟨b,1,none⟩) hB _⟩
 have:=ownsRow_setCell_other hown' (a:=⟨b,1,none⟩) (own_ne_block hown' H2.out hT.ne) (.slice (some ⟨g,0,none⟩) (l.length + 1) cap)
 rw [List.length_append,bytes_append]
 exact this
theorem builder_string (T:TypeId) (B b:Nat) (p:Value) (l:List UInt8) (w:World) (h:Bld T B b p l w) (h0:l ≠ []):
 Calls Tryz.prog 147 #[.pointer (some ⟨b,0,none⟩)] w fun e w' => e = .returned (.string ⟨l.toArray⟩) ∧ Below B w w':=by
 obtain ⟨hB,v,hc,hown,_⟩:=h
 have hl0:l.length ≠ 0:=by simpa using h0
 obtain ⟨g,cap,cur,rfl,hbg,hg,hnc,hcm,hcs,htake⟩:∃ g cap cur,v = .slice (some ⟨g,0,none⟩) l.length cap ∧ B ≤ g ∧ w.heap[g]? = some (.cells cur 5 (0,0)) ∧ l.length ≤ cap ∧ cap ≤ maxLen ∧ cur.size = cap * 1 ∧ cur.toList.take (l.length * 1) = bytes l:=by
  rcases hown.2 with ⟨_,hz⟩ | ⟨g,cap,cur,hv,r⟩
  · exact absurd hz hl0
  · exact ⟨g,cap,cur,hv,r⟩
 have c1:w.drew.cell? ⟨b,1,none⟩ = some (.slice (some ⟨g,0,none⟩) l.length cap):=hc.drew.cell (k:=1) rfl
 have hSD:(Builtin.unsafeSliceData_ #[61] 271 #[.slice (some ⟨g,0,none⟩) l.length cap]).run Tryz.prog w.drew = .ok (.pointer (some ⟨g,0,none⟩)) w.drew:=
  Lib.run_unsafeSliceData_row _ _ _ _ _ _ (by omega)
 have hUS:(Builtin.unsafeString_ #[271,3] 9 #[.pointer (some ⟨g,0,none⟩),.int .i64 l.length]).run Tryz.prog w.drew = .ok (.string ⟨l.toArray⟩) (w.drew.freeze ⟨g,0,none⟩ l.length):=by
  refine Lib.run_unsafeString_row w.drew 271 3 9 5 Tryz.underlying271 (by kernel_rfl) g cur.size (by have hg':w.drew.heap[g]? = some (.cells cur 5 (0,0)):=hg;simp [World.shape?,hg']) l h0 (by omega) (by unfold maxLen at hcm;omega) ?_
  intro j x hx
  have:=hown.cells (g:=g) rfl j (.int .u8 x.toNat) (by simp [bytes,hx])
  exact this
 clear hc hown htake hcs hnc hcm h0 hl0
 go_enter Tryz.func147,Tryz.ntmps147
 go_wp2
 go_region
 all_goals (go_wp2;go_ret;exact ⟨rfl,Lib.below_freeze (Below.drew (Below.refl B w)) (p:=⟨g,0,none⟩) hbg _⟩)
theorem builder_string_nil (T:TypeId) (B b:Nat) (p:Value) (w:World) (h:Bld T B b p [] w):
 Calls Tryz.prog 147 #[.pointer (some ⟨b,0,none⟩)] w fun e w' => e = .returned (.string ⟨#[]⟩) ∧ Below B w w':=by
 obtain ⟨hB,v,hc,hown,hnil⟩:=h
 obtain rfl:=hnil rfl
 have hUS:∀ W:World,(Builtin.unsafeString_ #[271,3] 9 #[.pointer none,.int .i64 0]).run Tryz.prog W = .ok (.string .empty) W:=fun W => Lib.run_unsafeString_none W _ _ _ none
 have c1:w.drew.cell? ⟨b,1,none⟩ = some (.slice none 0 0):=hc.drew.cell (k:=1) rfl
 have hSD:(Builtin.unsafeSliceData_ #[61] 271 #[.slice none 0 0]).run Tryz.prog w.drew = .ok (.pointer none) w.drew:=rfl
 clear hc hown hnil
 go_enter Tryz.func147,Tryz.ntmps147
 go_wp2
 go_region
 all_goals (go_wp2;go_ret;exact ⟨rfl,Below.drew (Below.refl B w)⟩)
theorem builder_string_any (T:TypeId) (B b:Nat) (l:List UInt8) (w:World) (h:IsBld T B b l w):
 Calls Tryz.prog 147 #[.pointer (some ⟨b,0,none⟩)] w fun e w' => e = .returned (.string ⟨l.toArray⟩) ∧ Below B w w':=by
 by_cases h0:l = []
 · subst h0
   rcases h with h | h
   · exact builder_string_nil T B b _ w h
   · exact builder_string_nil T B b _ w h
 · rcases h with h | h
   · exact builder_string T B b _ l w h h0
   · exact builder_string T B b _ l w h h0
theorem Bld.new (T:TypeId) (w:World):Bld T w.heap.size w.heap.size (.pointer none) [] (w.alloc (.cells #[.pointer none,.slice none 0 0] T)):=
 ⟨Nat.le_refl _,.slice none 0 0,Cells.new w T _,World.ownsRow_nil _ _ _ _,fun _ => rfl⟩
end Go.Proofs.YtcjfmildalappaaGreat
namespace Go.Proofs.YtcjfmildalappaaGreat
def zig (n:Int):Nat:=if 0 ≤ n then 2 * n.toNat else 2 * (-(n + 1)).toNat + 1
def unzig (v:Nat):Int:=if v % 2 = 0 then (v / 2:Nat) else -((v / 2:Nat):Int) - 1
theorem unzig_zig (n:Int):unzig (zig n) = n:=by
 unfold zig unzig
 by_cases h:0 ≤ n
 · rw [if_pos h,if_pos (by omega)];omega
 · rw [if_neg h,if_neg (by omega)];omega
theorem zig_unzig (v:Nat):zig (unzig v) = v:=by
 unfold unzig zig
 by_cases h:v % 2 = 0
 · rw [if_pos h,if_pos (by omega)];omega
 · rw [if_neg h,if_neg (by omega)];omega
theorem zig_lt (n:Int) (h0:-9223372036854775808 ≤ n) (h1:n ≤ 9223372036854775807):zig n < 18446744073709551616:=by
 unfold zig;split <;> omega
theorem unzig_wide (v:Nat) (h:v < 18446744073709551616):-9223372036854775808 ≤ unzig v ∧ unzig v ≤ 9223372036854775807:=by
 unfold unzig;split <;> omega
def hiF:Nat → Nat → List UInt8
 | 0,_ => []
 | f + 1,u => if u = 0 then [] else hiF f (u / 128) ++ [UInt8.ofNat (128 + u % 128)]
theorem hiF_more:∀ (f g u:Nat),u < 128 ^ f → f ≤ g → hiF g u = hiF f u
 | 0,g,u,h,_ => by
  have:u = 0:=by simpa using h
  subst this
  cases g <;> rfl
 | f + 1,0,u,_,hg => by omega
 | f + 1,g + 1,u,h,hg => by
  unfold hiF
  split
  · rfl
  · rw [hiF_more f g (u / 128) (by rw [Nat.div_lt_iff_lt_mul (by omega)];rw [Nat.pow_succ] at h;exact h) (by omega)]
def hi (u:Nat):List UInt8:=hiF 10 u
theorem hi_zero:hi 0 = []:=rfl
theorem hi_step (u:Nat) (h0:u ≠ 0) (h:u < 18446744073709551616):hi u = hi (u / 128) ++ [UInt8.ofNat (128 + u % 128)]:=by
 show (if u = 0 then [] else hiF 9 (u / 128) ++ [UInt8.ofNat (128 + u % 128)]) = _
 rw [if_neg h0]
 unfold hi
 rw [hiF_more 9 10 (u / 128) (by omega) (by omega)]
def vb (v:Nat):List UInt8:=hi (v / 128) ++ [UInt8.ofNat (v % 128)]
def go:Nat → List UInt8 → Option (Nat × List UInt8)
 | _,[] => none
 | v,c :: t => if (v = 0 ∧ c.toNat = 128) ∨ 144115188075855872 ≤ v then none else if c.toNat < 128 then some (v * 128 + c.toNat,t) else go (v * 128 + c.toNat % 128) t
theorem go_hi (n:Nat):∀ u t,u ≤ n → u < 18446744073709551616 → go 0 (hi u ++ t) = go u t:=by
 induction n with
 | zero =>
  intro u t h _
  obtain rfl:u = 0:=by omega
  rfl
 | succ n ih =>
  intro u t h hu
  by_cases h0:u = 0
  · subst h0;rfl
  · rw [hi_step u h0 hu,List.append_assoc,ih (u / 128) _ (by omega) (by omega)]
    have hc:(UInt8.ofNat (128 + u % 128)).toNat = 128 + u % 128:=by
     rw [UInt8.toNat_ofNat'];omega
    show go (u / 128) (UInt8.ofNat (128 + u % 128) :: t) = _
    unfold go
    rw [hc,if_neg (by omega),if_neg (by omega)]
    rw [show u / 128 * 128 + (128 + u % 128) % 128 = u from by omega]
    cases t <;> rfl
theorem go_vb (v:Nat) (hv:v < 18446744073709551616) (r:List UInt8):go 0 (vb v ++ r) = some (v,r):=by
 unfold vb
 rw [List.append_assoc,go_hi (v / 128) _ _ (Nat.le_refl _) (by omega)]
 have hc:(UInt8.ofNat (v % 128)).toNat = v % 128:=by rw [UInt8.toNat_ofNat'];omega
 show go (v / 128) (UInt8.ofNat (v % 128) :: r) = _
 unfold go
 rw [hc,if_neg (by omega),if_pos (by omega)]
 rw [show v / 128 * 128 + v % 128 = v from by omega]
theorem go_some:∀ (t:List UInt8) (v u:Nat) (r:List UInt8),v < 18446744073709551616 → go v t = some (u,r) → u < 18446744073709551616 ∧ hi v ++ t = vb u ++ r
 | [],v,u,r,_,h => by simp [go] at h
 | c :: t,v,u,r,hv,h => by
  unfold go at h
  split at h
  · cases h
  · rename_i hn
    have hc8:=c.toNat_lt
    split at h
    · rename_i hc
      simp only [Option.some.injEq,Prod.mk.injEq] at h
      obtain ⟨rfl,rfl⟩:=h
      refine ⟨by omega,?_⟩
      unfold vb
      rw [show (v * 128 + c.toNat) / 128 = v from by omega,show (v * 128 + c.toNat) % 128 = c.toNat from by omega]
      simp
    · rename_i hc
      have hlt:v * 128 + c.toNat % 128 < 18446744073709551616:=by omega
      obtain ⟨h1,h2⟩:=go_some t _ u r hlt h
      refine ⟨h1,?_⟩
      rw [← h2,hi_step (v * 128 + c.toNat % 128) (by omega) hlt]
      rw [show (v * 128 + c.toNat % 128) / 128 = v from by omega,show 128 + (v * 128 + c.toNat % 128) % 128 = c.toNat from by omega]
      simp
theorem go_iff (s:List UInt8) (u:Nat) (r:List UInt8):go 0 s = some (u,r) ↔ u < 18446744073709551616 ∧ s = vb u ++ r:=
 ⟨fun h => by
  have:=go_some s 0 u r (by omega) h
  rwa [hi_zero,List.nil_append] at this,fun ⟨h1,h2⟩ => by rw [h2];exact go_vb u h1 r⟩
theorem hiF_length:∀ f u,(hiF f u).length ≤ f
 | 0,_ => by simp [hiF]
 | f + 1,u => by
  unfold hiF
  split
  · simp
  · have:=hiF_length f (u / 128);simp;omega
theorem vb_length (v:Nat) (h:v < 18446744073709551616):1 ≤ (vb v).length ∧ (vb v).length ≤ 10:=by
 unfold vb hi
 rw [hiF_more 9 10 (v / 128) (by omega) (by omega)]
 have:=hiF_length 9 (v / 128)
 simp;omega
def ib (n:Int):List UInt8:=vb (zig n)
def isb (l:List Int):List UInt8:=l.flatMap ib
def rdI (s:List UInt8):Option (Int × List UInt8):=(go 0 s).map fun (u,r) => (unzig u,r)
def Wide64 (x:Int):Prop:=-9223372036854775808 ≤ x ∧ x ≤ 9223372036854775807
theorem rdI_iff (s:List UInt8) (n:Int) (r:List UInt8):rdI s = some (n,r) ↔ Wide64 n ∧ s = ib n ++ r:=by
 unfold rdI ib
 constructor
 · intro h
   rw [Option.map_eq_some_iff] at h
   obtain ⟨⟨u,r'⟩,h1,h2⟩:=h
   simp only [Prod.mk.injEq] at h2
   obtain ⟨rfl,rfl⟩:=h2
   obtain ⟨h3,h4⟩:=(go_iff _ _ _).1 h1
   exact ⟨unzig_wide u h3,by rw [zig_unzig];exact h4⟩
 · rintro ⟨⟨h0,h1⟩,h2⟩
   rw [(go_iff _ _ _).2 ⟨zig_lt n h0 h1,h2⟩,Option.map_some]
   show some (unzig (zig n),r) = _
   rw [unzig_zig]
theorem ib_length (n:Int) (h:Wide64 n):1 ≤ (ib n).length ∧ (ib n).length ≤ 10:=vb_length _ (zig_lt n h.1 h.2)
theorem isb_length (l:List Int) (h:∀ x ∈ l,Wide64 x):(isb l).length ≤ 10 * l.length:=by
 unfold isb
 induction l with
 | nil => simp
 | cons x l ih =>
  have h1:=ib_length x (h x (by simp))
  have h2:=ih fun y hy => h y (by simp [hy])
  rw [List.flatMap_cons,List.length_append,List.length_cons];omega
def w7 (v:Nat):Nat → List UInt8
 | 0 => [UInt8.ofNat (v % 128)]
 | j + 1 => UInt8.ofNat (128 + v / 128 ^ (j + 1) % 128) :: w7 v j
def wd:Nat → Nat → Nat
 | 0,_ => 0
 | f + 1,v => if v / 128 = 0 then 0 else wd f (v / 128) + 1
theorem w7_snoc (v:Nat):∀ j,w7 v (j + 1) = (w7 (v / 128) j).dropLast ++ [UInt8.ofNat (128 + v / 128 % 128)] ++ [UInt8.ofNat (v % 128)]
 | 0 => by simp [w7]
 | j + 1 => by
  rw [w7,w7_snoc v j]
  rw [show v / 128 ^ (j + 1 + 1) = v / 128 / 128 ^ (j + 1) from by rw [Nat.div_div_eq_div_mul,Nat.pow_succ,Nat.mul_comm (128 ^ (j + 1))]]
  have:w7 (v / 128) (j + 1) = UInt8.ofNat (128 + v / 128 / 128 ^ (j + 1) % 128) :: w7 (v / 128) j:=rfl
  rw [this]
  have hne:w7 (v / 128) j ≠ []:=by cases j <;> simp [w7]
  rw [List.dropLast_cons_of_ne_nil hne]
  simp
theorem w7_hi (f:Nat):∀ v,v / 128 < 128 ^ f → (w7 v (wd f v)).dropLast = hiF f (v / 128) ∧ (w7 v (wd f v)).getLast? = some (UInt8.ofNat (v % 128)):=by
 induction f with
 | zero =>
  intro v h
  simp [wd,w7,hiF]
 | succ f ih =>
  intro v h
  unfold wd hiF
  by_cases h0:v / 128 = 0
  · rw [if_pos h0,if_pos h0];simp [w7]
  · rw [if_neg h0,if_neg h0,w7_snoc]
    have h2:v / 128 / 128 < 128 ^ f:=by rw [Nat.div_lt_iff_lt_mul (by omega)];rw [Nat.pow_succ] at h;exact h
    rw [(ih (v / 128) h2).1]
    simp
theorem vb_eq_w7 (v:Nat) (h:v < 18446744073709551616):vb v = w7 v (wd 9 v):=by
 obtain ⟨h1,h2⟩:=w7_hi 9 v (by omega)
 unfold vb hi
 rw [hiF_more 9 10 (v / 128) (by omega) (by omega),← h1]
 obtain ⟨ys,hy⟩:=List.getLast?_eq_some_iff.1 h2
 rw [hy]
 simp
end Go.Proofs.YtcjfmildalappaaGreat
namespace Go.Proofs.YtcjfmildalappaaGreat
open Go.RowKit
theorem holds_writer:Holds 211:=⟨by kernel_rfl,by decide⟩
theorem and127 (c:Nat) (h:c < 256):bits BinOp.and IntKind.u8 (c:Int) 127 = ((c % 128:Nat):Int):=by
 have:∀ c:Fin 256,bits BinOp.and IntKind.u8 (c.val:Int) 127 = ((c.val % 128:Nat):Int):=by decide +kernel
 exact this ⟨c,h⟩
theorem or128 (c:Nat) (h:c < 256):bits BinOp.or IntKind.u8 (c:Int) 128 = ((128 + c % 128:Nat):Int):=by
 have:∀ c:Fin 256,bits BinOp.or IntKind.u8 (c.val:Int) 128 = ((128 + c.val % 128:Nat):Int):=by decide +kernel
 exact this ⟨c,h⟩
theorem last_byte (v:Nat):bits BinOp.and IntKind.u8 ((v:Int) % 256) 127 = ((UInt8.ofNat (v % 128)).toNat:Int):=by
 rw [show ((v:Int) % 256) = ((v % 256:Nat):Int) from by omega,and127 _ (by omega),UInt8.toNat_ofNat']
 omega
theorem high_byte (v q:Nat):bits BinOp.or IntKind.u8 ((v:Int) / 2 ^ (7 * q + 7) % 256) 128 = ((UInt8.ofNat (128 + v / 128 ^ (q + 1) % 128)).toNat:Int):=by
 have e:(2:Nat) ^ (7 * q + 7) = 128 ^ (q + 1):=by
  rw [show 7 * q + 7 = 7 * (q + 1) from by omega,Nat.pow_mul]
 rw [show ((v:Int) / 2 ^ (7 * q + 7) % 256) = ((v / 2 ^ (7 * q + 7) % 256:Nat):Int) from by simp,or128 _ (by omega),UInt8.toNat_ofNat',e]
 omega
theorem wd_stop (f u:Nat) (h:u / 128 = 0):wd f u = 0:=by cases f <;> simp [wd,h]
theorem wd_next (f u:Nat) (h:u / 128 ≠ 0):wd (f + 1) u = wd f (u / 128) + 1:=by rw [wd,if_neg h]
theorem writer_natural (B b v:Nat) (l:List UInt8) (w:World) (hv:v < 18446744073709551616) (h:IsBld 211 B b l w) (hB:B ≤ w.heap.size) (hl:l.length ≤ 70368744177664):
 Calls Tryz.prog 240 #[.pointer (some ⟨b,0,none⟩),.int .u64 v] w fun e w' => e = .returned (.tuple #[]) ∧ Bld 211 B b (.pointer (some ⟨b,0,none⟩)) (l ++ vb v) w' ∧ Below B w w':=by
 have H:=Hd h
 clear h
 go_enter Tryz.func240,Tryz.ntmps240
 go_wp2_with fail
 go_loop [4,5] (fun n k => ∃ j:Nat,j ≤ 9 ∧ n = .int .i64 ((7 * j:Nat):Int) ∧ k = .int .u64 ((v / 128 ^ j / 128:Nat):Int) ∧ wd 9 v = j + wd (9 - j) (v / 128 ^ j)) (fun _ k => (intOf k).toNat)
 case atStart => exact ⟨0,by omega,rfl,by simp,by simp⟩
 case round =>
  obtain ⟨j,hj,rfl,rfl,hw⟩:=hrel
  obtain ⟨u,hu⟩:∃ u,v / 128 ^ j = u:=⟨_,rfl⟩
  rw [hu] at hw ⊢
  have hu2:v / 128 ^ (j + 1) = u / 128:=by rw [Nat.pow_succ,← Nat.div_div_eq_div_mul,hu]
  have HU:=Hd hu
  have HU2:=Hd hu2
  have HW:=Hd hw
  clear hu hu2 hw
  by_cases h0:u / 128 = 0
  · have HJ:Hid (wd 9 v = j):=by have:=HW.out;rw [wd_stop _ _ h0] at this;exact this
    rw [h0]
    clear h0 HW
    go_wp2_with fail
    go_loopw [4] (fun n wr => ∃ (q:Nat) (p:List UInt8),q ≤ 9 ∧ n = .int .i64 (7 * (q:Int)) ∧ Hid (p ++ w7 v q = vb v) ∧ Hid (IsBld 211 B b (l ++ p) wr) ∧ Below B w wr) (fun n _ => (intOf n).toNat)
    case atStart => exact ⟨j,[],hj,rfl,by rw [vb_eq_w7 v hv,HJ.out];rfl,by simpa using H,Below.refl _ _⟩
    case round =>
     obtain ⟨q,p,hq,rfl,hp,hb,hbel⟩:=hrel
     have hpl:(p ++ w7 v q).length ≤ 10:=by rw [hp.out];exact (vb_length v hv).2
     cases q with
     | zero =>
      have hbs:=hbel.size
      go_wp2_with fail
      rw [last_byte]
      refine (writeByte _ holds_writer B b _ _ _ hb.out (by rw [List.length_append];rw [List.length_append] at hpl;omega) (by omega)).mono ?_
      rintro e w1 ⟨rfl,hb1,hbel1⟩
      have HB1:=Hd hb1
      clear hb1
      go_wp2_with fail
      go_end0
      refine ⟨rfl,?_,hbel.trans hbel1⟩
      rw [← hp.out]
      have:=HB1.out
      rwa [List.append_assoc] at this
     | succ q =>
      have hbs:=hbel.size
      have e7:(7 * ((q + 1:Nat):Int)) = 7 * (q:Int) + 7:=by omega
      rw [e7]
      have hpos:(0:Int) < 7 * (q:Int) + 7:=by omega
      have hpos':(0:Int) ≤ 7 * (q:Int) + 7:=by omega
      have hpos3:7 * (q:Int) + 7 ≤ 63:=by omega
      clear e7 hpl
      go_wp2_with fail
      go_still_tail 8,(by kernel_rfl)
      change wpList _ _ _ _ _ wr.drew
      go_wp2_with fail
      rw [high_byte]
      refine (writeByte _ holds_writer B b _ _ _ (show IsBld _ B b (l ++ p) wr.drew from hb.out) (by rw [List.length_append];have:=(vb_length v hv).2;rw [← hp.out,List.length_append] at this;omega) (show B ≤ wr.heap.size by omega)).mono ?_
      rintro e w1 ⟨rfl,hb1,hbel1⟩
      have HB1:Hid (IsBld 211 B b (l ++ (p ++ [UInt8.ofNat (128 + v / 128 ^ (q + 1) % 128)])) w1):=by
       show _
       rw [← List.append_assoc];exact .inr hb1
      clear hb1
      go_wp2_with fail
      go_roundw
      case rel => exact ⟨q,p ++ [UInt8.ofNat (128 + v / 128 ^ (q + 1) % 128)],by omega,by go_num,by show _ = _;rw [List.append_assoc];exact hp.out,HB1,hbel.drew.trans hbel1⟩
      case measure => simp [intOf];omega
  · have hpos:(0:Int) < ((u / 128:Nat):Int):=by omega
    have hj9:j ≤ 8:=by
     rcases Nat.lt_or_ge j 9 with h | h
     · omega
     · obtain rfl:j = 9:=by omega
       have:=HU.out
       have e:(128:Nat) ^ 9 = 9223372036854775808:=by decide
       rw [e] at this
       omega
    have HW2:Hid (wd 9 v = (j + 1) + wd (9 - (j + 1)) (v / 128 ^ (j + 1))):=by
     have:=HW.out
     rw [show 9 - j = (9 - (j + 1)) + 1 from by omega,wd_next _ _ h0] at this
     show _ = _
     rw [HU2.out];omega
    clear h0 HW
    go_wp2_with fail
    go_round
    case rel => exact ⟨j + 1,by omega,by go_num,by rw [HU2.out];go_num,HW2.out⟩
    case measure => simp [intOf];omega
theorem xor_ones (x:Nat) (h:x < 18446744073709551616):x ^^^ 18446744073709551615 = 18446744073709551615 - x:=by
 apply Nat.eq_of_testBit_eq
 intro i
 rw [Nat.testBit_xor,show (18446744073709551615:Nat) = 2 ^ 64 - 1 from by decide,Nat.testBit_two_pow_sub_one]
 rw [show 2 ^ 64 - 1 - x = 2 ^ 64 - (x + 1) from by omega,Nat.testBit_two_pow_sub_succ (by simpa using h)]
 by_cases hi:i < 64
 · simp [hi]
 · simp [hi]
   exact Nat.testBit_lt_two_pow (Nat.lt_of_lt_of_le (show x < 2 ^ 64 by simpa using h) (Nat.pow_le_pow_right (by omega) (by omega)))
theorem zig_pos (n:Int) (h0:0 ≤ n) (h1:n ≤ 9223372036854775807):bits BinOp.xor IntKind.u64 (n * 2) (n / 9223372036854775808) = ((zig n:Nat):Int):=by
 have e1:n * 2 = ((2 * n.toNat:Nat):Int):=by omega
 have e2:n / 9223372036854775808 = ((0:Nat):Int):=by omega
 rw [e1,e2,bits_xor_u64_nat _ _ (by omega) (by omega)]
 unfold zig
 rw [if_pos h0];simp
theorem zig_neg (n:Int) (h0:n < 0) (h1:-9223372036854775808 ≤ n):bits BinOp.xor IntKind.u64 (IntKind.u64.wrap (IntKind.u64.wrap n * 2)) (IntKind.u64.wrap (n / 9223372036854775808)) = ((zig n:Nat):Int):=by
 have e1:IntKind.u64.wrap (IntKind.u64.wrap n * 2) = (((n + 18446744073709551616) * 2 % 18446744073709551616).toNat:Nat):=by
  simp [IntKind.wrap,IntKind.signed,IntKind.bits]
  omega
 have e2:IntKind.u64.wrap (n / 9223372036854775808) = ((18446744073709551615:Nat):Int):=by
  simp [IntKind.wrap,IntKind.signed,IntKind.bits]
  omega
 rw [e1,e2,bits_xor_u64_nat _ _ (by omega) (by omega),xor_ones _ (by omega)]
 unfold zig
 rw [if_neg (by omega)]
 omega
theorem writer_int (B b:Nat) (n:Int) (l:List UInt8) (w:World) (hn:Wide64 n) (h:IsBld 211 B b l w) (hB:B ≤ w.heap.size) (hl:l.length ≤ 70368744177664):
 Calls Tryz.prog 210 #[.pointer (some ⟨b,0,none⟩),.int .i64 n] w fun e w' => e = .returned (.tuple #[]) ∧ Bld 211 B b (.pointer (some ⟨b,0,none⟩)) (l ++ ib n) w' ∧ Below B w w':=by
 obtain ⟨n0,n1⟩:=hn
 have HN:=Hd (writer_natural B b (zig n) l w (zig_lt n n0 n1) h hB hl)
 clear h
 by_cases h0:0 ≤ n
 · have HZ:=Hd (zig_pos n h0 n1)
   go_enter Tryz.func210,Tryz.ntmps210
   go_wp2_with fail
   rw [HZ.out]
   refine HN.out.mono ?_
   rintro e w1 ⟨rfl,hb,hbel⟩
   have HB:=Hd hb
   clear hb
   go_wp2_with fail
   go_end0
   exact ⟨rfl,HB.out,hbel⟩
 · have h0':n < 0:=by omega
   have HZ:=Hd (zig_neg n h0' n0)
   clear h0
   go_enter Tryz.func210,Tryz.ntmps210
   go_wp2_with fail
   rw [HZ.out]
   refine HN.out.mono ?_
   rintro e w1 ⟨rfl,hb,hbel⟩
   have HB:=Hd hb
   clear hb
   go_wp2_with fail
   go_end0
   exact ⟨rfl,HB.out,hbel⟩
def ivs (l:List Int):List Value:=l.map (Value.int .i64)
theorem SlAt.below {w w':World} {B sz n:Nat} {v:Value} {xs:List Value} (h:SlAt w B v sz n xs) (hb:Below B w w'):SlAt w' B v sz n xs:=by
 obtain ⟨hl,A,c,hv,hnc,hc,h⟩:=h
 refine ⟨hl,A,c,hv,hnc,hc,fun hn => ?_⟩
 obtain ⟨b,o,hA,hbk,hh⟩:=h hn
 exact ⟨b,o,hA,hbk,fun j u hu => (hb.cell (p:=⟨b,o + j,none⟩) hbk).trans (hh j u hu)⟩
theorem isb_snoc (l:List Int) (k:Nat) (x:Int) (h:l[k]? = some x):isb (l.take (k + 1)) = isb (l.take k) ++ ib x:=by
 unfold isb
 rw [List.take_add_one,h,List.flatMap_append];simp
theorem each_int (B b:Nat) (v:Value) (xs:List Int) (l:List UInt8) (w:World) (hs:SlAt w B v 1 xs.length (ivs xs)) (hx:∀ x ∈ xs,Wide64 x) (h:IsBld 211 B b l w) (hB:B ≤ w.heap.size) (hl:l.length + 10 * xs.length ≤ 70368744177664):
 Calls Tryz.prog 212 #[v,.func (.func 210) #[.pointer (some ⟨b,0,none⟩)] #[]] w fun e w' => e = .returned (.tuple #[]) ∧ IsBld 211 B b (l ++ isb xs) w' ∧ Below B w w':=by
 obtain ⟨A,c,rfl⟩:=hs.shape
 have H:=Hd h
 have HS:=Hd hs
 have HX:=Hd hx
 have hxl:xs.length ≤ 70368744177664:=by omega
 clear h hs hx
 go_enter Tryz.func212,Tryz.ntmps212
 go_wp2_with fail
 go_loopw [8] (fun i wr => ∃ k:Nat,k ≤ xs.length ∧ i = .int .i64 k ∧ Hid (IsBld 211 B b (l ++ isb (xs.take k)) wr) ∧ Below B w wr) (fun i _ => xs.length - (intOf i).toNat)
 case atStart => exact ⟨0,by omega,rfl,by simpa [isb] using H,Below.refl _ _⟩
 case round =>
  obtain ⟨k,hk,rfl,hb,hbel⟩:=hrel
  by_cases hlt:k < xs.length
  · have hlt':(k:Int) < (xs.length:Int):=by omega
    have hk1:=List.getElem?_eq_getElem hlt
    obtain ⟨x,hx⟩:∃ x,xs[k] = x:=⟨_,rfl⟩
    rw [hx] at hk1
    have hw:=HX.out x (List.mem_of_getElem? hk1)
    obtain ⟨ab,ao,ac,hv,hab,hc⟩:=(HS.out.below hbel).at_ (by omega)
    have q0:=hc k (.int .i64 x) (by unfold ivs;rw [List.getElem?_map,hk1];rfl)
    have hsz:=hbel.size
    have hlen:=isb_length (xs.take k) fun y hy => HX.out y (List.mem_of_mem_take hy)
    have HW:=Hd (writer_int B b x _ wr hw hb.out (by omega) (by rw [List.length_append];rw [List.length_take] at hlen;omega))
    have HE:=Hd (isb_snoc xs k x hk1)
    injection hv with e1 e2 e3
    subst e1;subst e3
    clear e2 hx hk1 hw hc hlen
    go_wp2_with (go_at_call 210;refine HW.out.mono ?_;rintro e w1 ⟨rfl,hb1,hbel1⟩;have HB1:=Hd hb1;clear hb1)
    go_roundw
    case rel => exact ⟨k + 1,by omega,by go_num,by show IsBld _ _ _ _ _;rw [HE.out,← List.append_assoc];exact .inr HB1.out,hbel.trans hbel1⟩
    case measure => simp [intOf];omega
  · have hd0:decide ((k:Int) < (xs.length:Int)) = false:=by simp;omega
    obtain rfl:k = xs.length:=by omega
    rw [List.take_length] at hb
    go_wp2_with fail
    go_end0
    exact ⟨rfl,hb.out,hbel⟩
theorem codec_int (v:Value) (xs:List Int) (w:World) (hs:SlAt w w.heap.size v 1 xs.length (ivs xs)) (hx:∀ x ∈ xs,Wide64 x) (hl:xs.length ≤ 1000000000):
 Calls Tryz.prog 149 #[v] w fun e w' => e = .returned (.string ⟨(isb xs).toArray⟩) ∧ Only [] w w':=by
 obtain ⟨A,c,rfl⟩:=hs.shape
 have hs1:SlAt (w.alloc (.cells #[.pointer none,.slice none 0 0] 211)) w.heap.size (.slice A xs.length c) 1 xs.length (ivs xs):=hs.below ((Below.refl _ w).alloc (Nat.le_refl _) _)
 have HE:=Hd (each_int w.heap.size w.heap.size _ xs [] _ hs1 hx (.inl (Bld.new 211 w)) (by simp) (by simp;omega))
 clear hs hs1 hx
 go_enter Tryz.func149,Tryz.ntmps149
 go_wp2_with fail
 refine HE.out.mono ?_
 rintro e w1 ⟨rfl,hb,hbel⟩
 have HS:=Hd (builder_string_any _ _ _ _ _ hb)
 clear hb
 go_wp2_with fail
 refine HS.out.mono ?_
 rintro e w2 ⟨rfl,hbel2⟩
 go_wp2_with fail
 go_ret
 exact ⟨by simp,Only.of_below ((((Below.refl _ w).alloc (Nat.le_refl _) _).trans hbel).trans hbel2)⟩
def rdV:Option (Int × List UInt8) → Value
 | some (n,r) => .tuple #[.int .i64 n,.string ⟨r.toArray⟩,.bool true]
 | none => .tuple #[.int .i64 0,.string ⟨#[]⟩,.bool false]
theorem unzig_bits (x:Nat) (hx:x < 18446744073709551616):bits BinOp.xor IntKind.i64 ((x:Int) / 2) (wrap64 (-wrap64 (bits BinOp.and IntKind.u64 (x:Int) 1))) = unzig x:=by
 rw [and_one_u64 _ (by omega) (by omega)]
 unfold unzig
 by_cases h:x % 2 = 0
 · rw [if_pos h,show ((x:Int) % 2) = 0 from by omega]
   rw [show wrap64 (-wrap64 0) = 0 from by decide +kernel,show ((x:Int) / 2) = ((x / 2:Nat):Int) from by omega,i64_xor_zero _ (by omega)]
 · rw [if_neg h,show ((x:Int) % 2) = 1 from by omega]
   rw [show wrap64 (-wrap64 1) = -1 from by decide +kernel,show ((x:Int) / 2) = ((x / 2:Nat):Int) from by omega,bits_xor_comm,i64_not _ (by omega)]
   omega
theorem go_cons (v:Nat) (c:UInt8) (t:List UInt8):go v (c :: t) = if (v = 0 ∧ c.toNat = 128) ∨ 144115188075855872 ≤ v then none else if c.toNat < 128 then some (v * 128 + c.toNat,t) else go (v * 128 + c.toNat % 128) t:=rfl
theorem or7 (u:Nat) (c:UInt8) (hu:u < 144115188075855872):bits BinOp.or IntKind.u64 ((u:Int) * 128) (IntKind.u64.wrap (bits BinOp.and IntKind.u8 (c.toNat:Int) 127)) = ((u * 128 + c.toNat % 128:Nat):Int):=by
 rw [and127 _ c.toNat_lt]
 rw [show IntKind.u64.wrap ((c.toNat % 128:Nat):Int) = ((c.toNat % 128:Nat):Int) from by
  simp [IntKind.wrap,IntKind.signed,IntKind.bits];omega]
 rw [show (u:Int) * 128 = ((u * 128:Nat):Int) from by omega,bits_or_u64_nat _ _ (by omega) (by omega)]
 have:=Nat.two_pow_add_eq_or_of_lt (i:=7) (b:=c.toNat % 128) (by omega) u
 rw [show u * 128 = 2 ^ 7 * u from by omega,← this]
theorem codec_toInt (s:List UInt8) (w:World) (hl:s.length ≤ 1000000000000):
 Calls Tryz.prog 181 #[.string ⟨s.toArray⟩] w fun e w' => e = .returned (rdV (rdI s)) ∧ Only [] w w':=by
 go_enter Tryz.func181,Tryz.ntmps181
 go_wp2_with fail
 go_loopw [5,11] (fun v i wr => ∃ (k u:Nat),k ≤ s.length ∧ k ≤ 10 ∧ i = .int .i64 k ∧ v = .int .u64 u ∧ u < 18446744073709551616 ∧ Hid (go 0 s = go u (s.drop k)) ∧ (u = 0 ↔ k = 0) ∧ (1 ≤ k → 128 ^ (k - 1) ≤ u) ∧ Only [] w wr) (fun _ i _ => 10 - (intOf i).toNat)
 case atStart => exact ⟨0,0,by omega,by omega,rfl,rfl,by omega,by rw [List.drop_zero];rfl,by simp,by omega,Only.refl _ _⟩
 case round =>
  obtain ⟨k,u,hk,hk10,rfl,rfl,hu,hgo,hz,hge,ho⟩:=hrel
  by_cases hlt:k < s.length ∧ k < 10
  · obtain ⟨hlt,hlt10⟩:=hlt
    have hk1:=List.getElem?_eq_getElem hlt
    obtain ⟨c,hc⟩:∃ c,s[k] = c:=⟨_,rfl⟩
    have hix:∀ h:k < (⟨s.toArray⟩:ByteArray).size,(⟨s.toArray⟩:ByteArray)[k]'h = c:=fun _ => hc
    have hdrop:s.drop k = c :: s.drop (k + 1):=by rw [List.drop_eq_getElem_cons hlt,hc]
    have hgo':=hgo.out
    rw [hdrop] at hgo'
    rw [go_cons] at hgo'
    have hr:rdI s = (go 0 s).map fun (u,r) => (unzig u,r):=rfl
    have hmin:(k:Int) < min (s.length:Int) 10:=by omega
    clear hc hk1 hdrop
    by_cases hbad:(u = 0 ∧ c.toNat = 128) ∨ 144115188075855872 ≤ u
    · rw [if_pos hbad] at hgo'
      have HR:Hid (rdI s = none):=by rw [hr,hgo'];rfl
      clear hgo hgo' hr
      by_cases h0:k = 0 ∧ c.toNat = 128
      · obtain ⟨h01,h02⟩:=h0
        have d0:((k:Int) == 0) = true:=by simp [h01]
        have d1:((c.toNat:Int) == 128) = true:=by simp [h02]
        clear hbad h01 h02 hz hge
        go_wp2_with fail
        go_ret3
        exact ⟨by rw [HR.out];rfl,ho⟩
      · have hu57:144115188075855872 ≤ u:=by
         rcases hbad with h | h
         · exact absurd ⟨hz.1 h.1,h.2⟩ h0
         · exact h
        have hk0:k ≠ 0:=fun h => by have:=hz.2 h;omega
        have d0:((k:Int) == 0) = false:=by simpa using hk0
        have d2:decide ((0:Int) < (u:Int) / 144115188075855872) = true:=by simp;omega
        clear hbad h0 hu57 hk0 hz hge
        go_wp2_with fail
        go_ret3
        exact ⟨by rw [HR.out];rfl,ho⟩
    · rw [if_neg hbad] at hgo'
      have hu57:u < 144115188075855872:=by omega
      have hnc:¬ (k = 0 ∧ c.toNat = 128):=fun h => hbad (.inl ⟨hz.2 h.1,h.2⟩)
      have d2:decide ((0:Int) < (u:Int) / 144115188075855872) = false:=by simp;omega
      obtain ⟨b0,d0,hb0⟩:∃ b0,((k:Int) == 0) = b0 ∧ (b0 = false ∨ (b0 = true ∧ ((c.toNat:Int) == 128) = false)):=by
       by_cases h:k = 0
       · refine ⟨true,by simp [h],.inr ⟨rfl,?_⟩⟩
         have:c.toNat ≠ 128:=fun e => hnc ⟨h,e⟩
         simp;omega
       · exact ⟨false,by simpa using h,.inl rfl⟩
      have HO:=Hd (or7 u c hu57)
      have hc8:=c.toNat_lt
      have HZ:=Hd hz
      have HGE:=Hd hge
      have HB:=Hd hbad
      clear hnc hge hbad hz
      by_cases hc:c.toNat < 128
      · rw [if_pos hc] at hgo'
        have dc:decide ((c.toNat:Int) < 128) = true:=by simp;omega
        have HR:Hid (rdI s = some (unzig (u * 128 + c.toNat),s.drop (k + 1))):=by rw [hr,hgo'];rfl
        clear hgo hgo' hr
        rcases hb0 with rfl | ⟨rfl,d1⟩
        all_goals
         go_wp2_with fail
         rw [HO.out]
         have hxl:u * 128 + c.toNat % 128 < 18446744073709551616:=by omega
         have HX:Hid (u * 128 + c.toNat % 128 = u * 128 + c.toNat):=by show _ = _;omega
         obtain ⟨x,hx⟩:∃ x,u * 128 + c.toNat % 128 = x:=⟨_,rfl⟩
         rw [hx] at hxl HX ⊢
         clear HO hx
         go_quiet (fail)
         rw [unzig_bits x hxl,str_to_end]
         go_wp2_with fail
         go_ret3
         exact ⟨by rw [HR.out,← HX.out];rfl,ho.drewN _⟩
      · rw [if_neg hc] at hgo'
        have dc:decide ((c.toNat:Int) < 128) = false:=by simp;omega
        have HG:=Hd hgo'
        clear hgo hgo' hr
        rcases hb0 with rfl | ⟨rfl,d1⟩
        all_goals
         go_wp2_with fail
         go_roundw
         case rel =>
            refine ⟨k + 1,u * 128 + c.toNat % 128,by omega,by omega,by go_num,by rw [HO.out],by omega,HG.out,⟨fun h => ?_,fun h => by omega⟩,fun _ => ?_,ho⟩
            · exact absurd (Or.inl ⟨by omega,by omega⟩) HB.out
            · rw [Nat.add_sub_cancel]
              by_cases h0:k = 0
              · subst h0
                have:c.toNat ≠ 128:=fun e => HB.out (.inl ⟨HZ.out.2 rfl,e⟩)
                simp;omega
              · have:=HGE.out (by omega)
                rw [show k = (k - 1) + 1 from by omega,Nat.pow_succ]
                omega
         case measure => simp [intOf];omega
  · have hmin:decide ((k:Int) < min (s.length:Int) 10) = false:=by simp;omega
    have HR:Hid (rdI s = none):=by
     show (go 0 s).map _ = none
     rw [hgo.out]
     rcases Nat.lt_or_ge k s.length with h | h
     · obtain rfl:k = 10:=by omega
       have:=hge (by omega)
       rw [List.drop_eq_getElem_cons h]
       rw [go_cons,if_pos (.inr (by rw [show (128:Nat) ^ (10 - 1) = 9223372036854775808 from by decide] at this;omega))];rfl
     · rw [List.drop_eq_nil_of_le h];rfl
    clear hgo hge hz hlt
    go_wp2_with fail
    go_ret3
    exact ⟨by rw [HR.out];rfl,ho⟩
theorem ba_toList (l:List UInt8):(⟨l.toArray⟩:ByteArray).toList = l:=by simp
theorem ba_append (a b:List UInt8):(⟨a.toArray⟩:ByteArray) ++ ⟨b.toArray⟩ = ⟨(a ++ b).toArray⟩:=by
 ext1;simp
theorem ref_natural (n:Int) (w:World) (hn:Wide64 n):Calls Tryz.prog 191 #[.int .i64 n] w fun e w' => e = .returned (.int .u64 (zig n:Nat)) ∧ w = w':=by
 obtain ⟨n0,n1⟩:=hn
 by_cases h0:0 ≤ n
 · have HZ:Hid (2 * n = ((zig n:Nat):Int)):=by show _ = _;unfold zig;rw [if_pos h0];omega
   go_enter Tryz.func191,Tryz.ntmps191
   go_wp2_with fail
   go_ret
   exact ⟨by rw [← HZ.out];rfl,rfl⟩
 · have HZ:Hid (2 * (-(n + 1)) + 1 = ((zig n:Nat):Int)):=by show _ = _;unfold zig;rw [if_neg h0];omega
   have hd:decide (0 ≤ n) = false:=by simpa using h0
   go_enter Tryz.func191,Tryz.ntmps191
   go_wp2_with fail
   go_ret
   exact ⟨by rw [← HZ.out];rfl,rfl⟩
def Bs (w:World) (v:Value) (l:List UInt8):Prop:=
 ∃ g cap,v = .slice (some ⟨g,0,none⟩) l.length cap ∧ g < w.heap.size ∧ ∀ j u,(bytes l)[j]? = some u → w.cell? (Addr.add ⟨g,0,none⟩ j) = some u
theorem ofNat_byte (x:Nat) (h:x < 256):((UInt8.ofNat x).toNat:Int) = x:=by
 rw [UInt8.toNat_ofNat'];omega
theorem Bs.new (w:World) (l:List UInt8) (hl:l.length ≤ maxLen):Bs (w.alloc (.cells (bytes l).toArray 5)) (.slice (some ⟨w.heap.size,0,none⟩) l.length l.length) l:=
 ⟨_,_,rfl,by simp,fun j u hu => (World.ownsRow_lit (base:=w.heap.size) (size:=1) (e:=5) w (bytes l).toArray l.length (Nat.le_refl _) hl (by simp [bytes])).cells (g:=w.heap.size) rfl j u hu⟩
theorem Bs.of_own {w:World} {base:Nat} {v:Value} {l:List UInt8} (h:w.ownsRow base 5 1 v l.length (bytes l)) (h0:l ≠ []):Bs w v l ∧ ∃ g,v.ownBlock = some g ∧ base ≤ g:=by
 have hl:0 < l.length:=List.length_pos_iff.2 h0
 obtain ⟨g,cap,rfl,hb,hlt,_⟩:=own_cell (k:=0) h (List.getElem?_eq_getElem (by rw [bytes_length];exact hl))
 exact ⟨⟨g,cap,rfl,hlt,fun j u hu => h.cells (g:=g) rfl j u hu⟩,g,rfl,hb⟩
theorem ref_int (n:Int) (w:World) (hn:Wide64 n):Calls Tryz.prog 117 #[.int .i64 n] w fun e w' => e = .returned (.string ⟨(ib n).toArray⟩) ∧ Only [] w w':=by
 obtain ⟨i0,hi0,hz0,hz1,hz2⟩:=info_parts info_byte
 have HN:=Hd (ref_natural n w hn)
 have hz:=zig_lt n hn.1 hn.2
 have hvb:ib n = hi (zig n / 128) ++ [UInt8.ofNat (zig n % 128)]:=rfl
 obtain ⟨z,hzz⟩:∃ z,zig n = z:=⟨_,rfl⟩
 rw [hzz] at HN hz hvb
 have HV:=Hd hvb
 clear hvb hzz
 go_enter Tryz.func117,Tryz.ntmps117
 go_wp2_with fail
 refine HN.out.mono ?_
 rintro e w1 ⟨rfl,rfl⟩
 go_wp2_with fail
 have hib:=ib_length n hn
 clear hn
 go_loopw [3,4] (fun v b wr => ∃ (u:Nat) (L:List UInt8),v = .int .u64 u ∧ u < 18446744073709551616 ∧ Hid (ib n = hi u ++ L) ∧ L ≠ [] ∧ Hid (Bs wr b L) ∧ Only [] w wr) (fun v _ _ => (intOf v).toNat)
 case atStart =>
  refine ⟨z / 128,[UInt8.ofNat (z % 128)],by go_num,by omega,HV,by simp,?_,oz.alloc _⟩
  have:=Bs.new w [UInt8.ofNat (z % 128)] (by unfold maxLen;simp)
  simp only [bytes,List.map_cons,List.map_nil,ofNat_byte (z % 128) (by omega)] at this
  exact this
 case round =>
  obtain ⟨u,L,rfl,hu,hv,hL,hB,ho⟩:=hrel
  have hLl:L.length ≤ 10:=by have:=congrArg List.length hv.out;rw [List.length_append] at this;omega
  obtain ⟨g,cap,rfl,hg,hr⟩:=hB.out
  have hsz:=ho.size
  by_cases h0:u = 0
  · subst h0
    have hd:decide ((0:Int) < (0:Int)) = false:=by decide
    have HV2:Hid (ib n = L):=by show _ = _;rw [hv.out,hi_zero];rfl
    have hcv:(convert 61 9 (.slice (some ⟨g,0,none⟩) L.length cap)).run Tryz.prog wr = .ok (.string ⟨L.toArray⟩) wr:=
     run_convert_bytes_back _ _ _ _ _ _ L Tryz.underlying61 Tryz.underlying5 Tryz.underlying9 fun j hj => hr j _ (by simp [bytes,List.getElem?_eq_getElem hj])
    clear hv hB hr
    go_wp2_with fail
    go_ret
    exact ⟨by rw [HV2.out];rfl,ho⟩
  · have hd:decide ((0:Int) < (u:Int)) = true:=by simp;omega
    have HS:Hid (ib n = hi (u / 128) ++ ([UInt8.ofNat (128 + u % 128)] ++ L)):=by
     show _ = _;rw [hv.out,hi_step u h0 hu];simp
    have HR:=Hd hr
    have hbe:bytes ([UInt8.ofNat (128 + u % 128)] ++ L) = .int .u8 (128 + (u:Int) % 128) :: bytes L:=by
     rw [bytes_append];simp only [bytes,List.map_cons,List.map_nil,ofNat_byte (128 + u % 128) (by omega)];rfl
    have HBE:=Hd hbe
    clear hr hv hB hbe
    go_wp2_with (at_builtin;go_loud (refine wpList_append_own (wr.alloc (.cells #[.int .u8 (128 + (u:Int) % 128)] 5)) rfl _ _ 61 rfl w.heap.size 5 i0 (.int .u8 0) 1 1 Tryz.underlying61 hi0 hz0 hz1 hz2 rfl (by decide) _ 1 [.int .u8 (128 + (u:Int) % 128)] rfl (World.ownsRow_lit wr _ 1 hsz (by unfold maxLen;omega) rfl) ⟨g,0,none⟩ L.length cap (bytes L) rfl (by rw [bytes_length,Nat.mul_one]) (fun j x hx => (Below.cell (B:=wr.heap.size) ((Below.refl _ wr).alloc (Nat.le_refl _) _) (p:=Addr.add ⟨g,0,none⟩ j) (by unfold Addr.add;split <;> exact hg)).trans (HR.out j x hx)) (fun x hx => by simp only [bytes,List.mem_map] at hx;obtain ⟨_,_,rfl⟩:=hx;rfl) (by unfold maxLen;omega) (by omega) (by simp;omega) ?_))
    intro v' w2 hown' hgrow _
    rw [← HBE.out] at hown'
    obtain ⟨hB2,g2,hg2,hgb⟩:=Bs.of_own (by rw [List.length_append];exact hown') (by simp)
    have HB2:=Hd hB2
    have ho2:Only [] w w2:=(ho.alloc _).grown hgrow fun g' e => .inr (by simp [Value.ownBlock] at e;subst e;exact hsz)
    clear hown' hgrow hB2
    go_wp2_with fail
    go_roundw
    case rel => exact ⟨u / 128,_,by go_num,by omega,HS,by simp,HB2,ho2⟩
    case measure => simp [intOf];omega
def val7 (l:List UInt8):Nat:=l.foldl (fun v c => 128 * v + c.toNat % 128) 0
theorem val7_snoc (l:List UInt8) (c:UInt8):val7 (l ++ [c]) = 128 * val7 l + c.toNat % 128:=by
 unfold val7;rw [List.foldl_append];rfl
theorem toNat_byte (x:Nat) (h:x < 256):(UInt8.ofNat x).toNat = x:=by
 rw [UInt8.toNat_ofNat'];omega
theorem hi_facts (n:Nat):∀ u,u ≤ n → u < 18446744073709551616 → val7 (hi u) = u ∧ ∀ c ∈ hi u,128 ≤ c.toNat:=by
 induction n with
 | zero =>
  intro u h _
  obtain rfl:u = 0:=by omega
  exact ⟨rfl,by simp [hi_zero]⟩
 | succ n ih =>
  intro u h hu
  by_cases h0:u = 0
  · subst h0;exact ⟨rfl,by simp [hi_zero]⟩
  · obtain ⟨h1,h2⟩:=ih (u / 128) (by omega) (by omega)
    rw [hi_step u h0 hu]
    refine ⟨?_,fun c hc => ?_⟩
    · rw [val7_snoc,h1,toNat_byte _ (by omega)];omega
    · rcases List.mem_append.1 hc with hc | hc
      · exact h2 c hc
      · rw [List.mem_singleton] at hc
        subst hc
        rw [toNat_byte _ (by omega)];omega
theorem val7_vb (z:Nat) (h:z < 18446744073709551616):val7 (vb z) = z:=by
 unfold vb
 rw [val7_snoc,(hi_facts (z / 128) (z / 128) (by omega) (by omega)).1,toNat_byte _ (by omega)];omega
theorem first_low (l r:List UInt8) (x:UInt8) (k:Nat) (c:UInt8) (hl:∀ c ∈ l,128 ≤ c.toNat) (hx:x.toNat < 128) (hk:(l ++ x :: r)[k]? = some c) (hc:c.toNat < 128) (hj:∀ j d,j < k → (l ++ x :: r)[j]? = some d → 128 ≤ d.toNat):k = l.length:=by
 rcases Nat.lt_trichotomy k l.length with h | h | h
 · rw [List.getElem?_append_left h] at hk
   have:=hl c (List.mem_of_getElem? hk)
   omega
 · exact h
 · have:=hj l.length x h (by rw [List.getElem?_append_right (Nat.le_refl _)];simp)
   omega
theorem vb_last (z:Nat) (h:z < 18446744073709551616):∃ l x,vb z = l ++ [x] ∧ (∀ c ∈ l,128 ≤ c.toNat) ∧ x.toNat < 128:=
 ⟨_,_,rfl,(hi_facts (z / 128) (z / 128) (by omega) (by omega)).2,by rw [toNat_byte _ (by omega)];omega⟩
theorem rdI_at (s:List UInt8) (k:Nat) (c:UInt8) (hk:s[k]? = some c) (hc:c.toNat < 128) (hj:∀ j d,j < k → s[j]? = some d → 128 ≤ d.toNat):
 rdI s = if ib (unzig (val7 (s.take (k + 1)) % 18446744073709551616)) = s.take (k + 1) then some (unzig (val7 (s.take (k + 1)) % 18446744073709551616),s.drop (k + 1)) else none:=by
 split
 · rename_i h
   exact (rdI_iff _ _ _).2 ⟨unzig_wide _ (by omega),by rw [h,List.take_append_drop]⟩
 · rename_i h
   cases hr:rdI s with
   | none => rfl
   | some nr =>
    exfalso
    obtain ⟨n,r⟩:=nr
    obtain ⟨hw,hs⟩:=(rdI_iff _ _ _).1 hr
    have hz:=zig_lt n hw.1 hw.2
    obtain ⟨l,x,hv,hl,hx⟩:=vb_last (zig n) hz
    have hs2:s = l ++ x :: r:=by rw [hs];unfold ib;rw [hv];simp
    obtain rfl:k = l.length:=first_low l r x k c hl hx (hs2 ▸ hk) hc (fun j d h1 h2 => hj j d h1 (hs2 ▸ h2))
    have ht:s.take (l.length + 1) = vb (zig n):=by rw [hs2,hv,List.take_append];simp;exact List.take_of_length_le (by omega)
    rw [ht,val7_vb _ hz,Nat.mod_eq_of_lt hz,unzig_zig] at h
    exact h rfl
theorem rdI_end (s:List UInt8) (k:Nat) (hk:k = s.length ∨ 10 ≤ k) (hj:∀ j d,j < k → s[j]? = some d → 128 ≤ d.toNat):rdI s = none:=by
 cases hr:rdI s with
 | none => rfl
 | some nr =>
  exfalso
  obtain ⟨n,r⟩:=nr
  obtain ⟨hw,hs⟩:=(rdI_iff _ _ _).1 hr
  have hz:=zig_lt n hw.1 hw.2
  obtain ⟨l,x,hv,hl,hx⟩:=vb_last (zig n) hz
  have hs2:s = l ++ x :: r:=by rw [hs];unfold ib;rw [hv];simp
  have h10:=(vb_length _ hz).2
  rw [hv,List.length_append,List.length_singleton] at h10
  have hsl:s.length = l.length + 1 + r.length:=by rw [hs2];simp;omega
  have:=hj l.length x (by omega) (by rw [hs2,List.getElem?_append_right (Nat.le_refl _)];simp)
  omega
theorem val7_next (s:List UInt8) (k:Nat) (c:UInt8) (hk:s[k]? = some c):(128 * (val7 (s.take k) % 18446744073709551616) + c.toNat % 128) % 18446744073709551616 = val7 (s.take (k + 1)) % 18446744073709551616:=by
 have:=val7_snoc (s.take k) c
 rw [List.take_add_one,hk]
 simp only [Option.toList_some]
 rw [this]
 omega
theorem un_even (x:Nat) (hx:x < 18446744073709551616) (h:((x:Int).tmod 2 == 1) = false):wrap64 (IntKind.u64.wrap ((x:Int).tdiv 2)) = unzig x:=by
 have e:(x:Int).tdiv 2 = ((x / 2:Nat):Int):=by rw [Int.tdiv_eq_ediv_of_nonneg (by omega)];omega
 have e2:(x:Int).tmod 2 = ((x % 2:Nat):Int):=by rw [Int.tmod_eq_emod_of_nonneg (by omega)];omega
 rw [e2] at h
 have h':x % 2 = 0:=by simp at h;omega
 rw [e,IntKind.wrap_u64,unzig,if_pos h']
 unfold wrap64;omega
theorem un_odd (x:Nat) (hx:x < 18446744073709551616) (h:((x:Int).tmod 2 == 1) = true):wrap64 (wrap64 (-wrap64 (IntKind.u64.wrap ((x:Int).tdiv 2))) - 1) = unzig x:=by
 have e:(x:Int).tdiv 2 = ((x / 2:Nat):Int):=by rw [Int.tdiv_eq_ediv_of_nonneg (by omega)];omega
 have e2:(x:Int).tmod 2 = ((x % 2:Nat):Int):=by rw [Int.tmod_eq_emod_of_nonneg (by omega)];omega
 rw [e2] at h
 have h':¬x % 2 = 0:=by simp at h;omega
 rw [e,IntKind.wrap_u64,unzig,if_neg h']
 unfold wrap64;omega
theorem ref_toInt (s:List UInt8) (w:World) (hl:s.length ≤ 1000000000000):
 Calls Tryz.prog 186 #[.string ⟨s.toArray⟩] w fun e w' => e = .returned (rdV (rdI s)) ∧ Only [] w w':=by
 go_enter Tryz.func186,Tryz.ntmps186
 go_wp2_with fail
 go_loop [5,6] (fun v i => ∃ k:Nat,k ≤ s.length ∧ k ≤ 10 ∧ i = .int .i64 k ∧ v = .int .u64 (val7 (s.take k) % 18446744073709551616:Nat) ∧ Hid (∀ j d,j < k → s[j]? = some d → 128 ≤ d.toNat)) (fun _ i => 10 - (intOf i).toNat)
 case atStart => exact ⟨0,by omega,by omega,rfl,rfl,fun j d h => by omega⟩
 case round =>
  obtain ⟨k,hk,hk10,rfl,rfl,hj⟩:=hrel
  by_cases hlt:k < s.length ∧ k < 10
  · obtain ⟨hlt,hlt10⟩:=hlt
    have hk1:=List.getElem?_eq_getElem hlt
    obtain ⟨c,hc⟩:∃ c,s[k] = c:=⟨_,rfl⟩
    rw [hc] at hk1
    have hix:∀ h:k < (⟨s.toArray⟩:ByteArray).size,(⟨s.toArray⟩:ByteArray)[k]'h = c:=fun _ => hc
    have hd0:decide ((k:Int) < (s.length:Int)) = true:=by simp;omega
    have hd1:decide ((k:Int) < 10) = true:=by simp;omega
    have hc8:=c.toNat_lt
    have hN:=val7_next s k c hk1
    obtain ⟨u,hu⟩:∃ u,val7 (s.take k) % 18446744073709551616 = u:=⟨_,rfl⟩
    have hul:u < 18446744073709551616:=by omega
    rw [hu] at hN ⊢
    have HN:=Hd hN
    clear hu hc hN
    by_cases hlow:c.toNat < 128
    · have hdc:decide ((128:Int) ≤ c.toNat) = false:=by simp;omega
      have HA:=Hd (rdI_at s k c hk1 hlow hj.out)
      clear hk1 hj
      have hW:IntKind.u64.wrap (IntKind.u64.wrap (128 * (u:Int)) + (c.toNat:Int) % 128) = ((val7 (s.take (k + 1)) % 18446744073709551616:Nat):Int):=by
       rw [← HN.out,IntKind.wrap_u64,IntKind.wrap_u64];omega
      obtain ⟨x,hx⟩:∃ x,val7 (s.take (k + 1)) % 18446744073709551616 = x:=⟨_,rfl⟩
      have hxl:x < 18446744073709551616:=by omega
      rw [hx] at hW HA
      have HW:=Hd hW
      have hy:=unzig_wide x hxl
      have hsk:(⟨s.toArray⟩:ByteArray).extract 0 (k + 1) = ⟨(s.take (k + 1)).toArray⟩:=str_from_start s (k + 1)
      have HK:=Hd hsk
      have hk1':k + 1 ≤ s.length:=hlt
      clear hx HN hW hsk
      go_wp2_with fail
      all_goals
       first
        | rw [HW.out,un_even x hxl (by rw [← HW.out];assumption)]
        | rw [HW.out,un_odd x hxl (by rw [← HW.out];assumption)]
       clear HW
       obtain ⟨y,hyy⟩:∃ y,unzig x = y:=⟨_,rfl⟩
       rw [hyy] at hy HA ⊢
       clear hyy
       refine wp_region_only w oz (by kernel_rfl) (by kernel_rfl) ?_
       repeat (go_big_quiet_step ((go_at_call 117;refine Calls.only (ref_int y _ hy))))
       refine wpQuiet_nil ?_
       rintro ⟨w8,ho8⟩
       dsimp only
       go_wp2_with fail
       · rename_i h
         have hq:¬ib y = s.take (k + 1):=by rw [HK.out,ba_toList] at h;simpa using h
         go_ret3
         exact ⟨by rw [HA.out,if_neg hq];rfl,ho8⟩
       · have h:(!ib y == ((⟨s.toArray⟩:ByteArray).extract 0 (k + 1)).toList) = false:=by assumption
         have hq:ib y = s.take (k + 1):=by rw [HK.out,ba_toList] at h;simpa using h
         have HR:Hid (rdI s = some (y,s.drop (k + 1))):=by show _ = _;rw [HA.out,if_pos hq]
         clear h hq HA
         go_quiet (fail)
         rw [str_to_end]
         go_wp2_with fail
         go_ret3
         exact ⟨by rw [HR.out];rfl,ho8.drewN _⟩
    · have hdc:decide ((128:Int) ≤ c.toNat) = true:=by simp;omega
      have hj2:Hid (∀ j d,j < k + 1 → s[j]? = some d → 128 ≤ d.toNat):=by
       intro j d h1 h2
       rcases Nat.lt_or_ge j k with h | h
       · exact hj.out j d h h2
       · obtain rfl:j = k:=by omega
         rw [hk1] at h2
         injection h2 with h2
         subst h2
         omega
      clear hk1 hj
      go_wp2_with fail
      go_round
      case rel => exact ⟨k + 1,by omega,by omega,by go_num,by rw [← HN.out,IntKind.wrap_u64,IntKind.wrap_u64];congr 1;omega,hj2⟩
      case measure => simp [intOf];omega
  · have hR:=Hd (rdI_end s k (by omega) hj.out)
    clear hj
    rcases Nat.lt_or_ge k s.length with h | h
    · obtain rfl:k = 10:=by omega
      have hd0:decide ((10:Int) < (s.length:Int)) = true:=by simp;omega
      have hd1:decide ((10:Int) < 10) = false:=by decide
      go_wp2_with fail
      go_ret3
      exact ⟨by rw [hR.out];rfl,Only.refl _ _⟩
    · have hd0:decide ((k:Int) < (s.length:Int)) = false:=by simp;omega
      go_wp2_with fail
      go_ret3
      exact ⟨by rw [hR.out];rfl,Only.refl _ _⟩
theorem strCells_bytes (s:List UInt8):Lib.strCells ⟨s.toArray⟩ = bytes s:=by
 simp [Lib.strCells,bytes]
theorem writeString (T:TypeId) (hT:Holds T) (B b:Nat) (l s:List UInt8) (w:World) (h:IsBld T B b l w) (hlen:l.length + s.length ≤ 140737488355328) (hBw:B ≤ w.heap.size):
 Calls Tryz.prog 148 #[.pointer (some ⟨b,0,none⟩),.string ⟨s.toArray⟩] w fun e w' => e = .returned (.tuple #[.int .i64 s.length,.nilIface]) ∧ Bld T B b (.pointer (some ⟨b,0,none⟩)) (l ++ s) w' ∧ Below B w w':=by
 obtain ⟨i0,hi,hz0,hz1,hz2⟩:=info_parts info_byte
 have HC:=Hd (copyCheck T hT B b l w h)
 have hbl:=bytes_length l
 have HBL:=Hd hbl
 clear h hbl
 go_enter Tryz.func148,Tryz.ntmps148
 go_wp2_with fail
 refine HC.out.mono ?_
 rintro e w1 ⟨rfl,⟨hB,v,hc,hown,hnil⟩,hb1,hsz⟩
 have hsz1:B ≤ w1.heap.size:=Nat.le_trans hBw hb1.size
 have c1:=hc.cell (k:=1) rfl
 have hlt:=hc.lt
 have H:=Hd hc
 have hne:=own_ne_block hown hc hT.ne
 clear hc hsz
 go_wp2_with (at_builtin;refine Lib.wpList_append_own_string w1 rfl _ _ 61 9 rfl B 5 i0 Tryz.underlying61 Tryz.underlying9 hi hz0 hz1 hz2 v l.length (bytes l) rfl hown ⟨s.toArray⟩ rfl (by rw [str_size];unfold maxLen;omega) (by rw [str_size];omega) hsz1 ?_)
 rw [strCells_bytes]
 intro v' w2 hown' hgrow hnil'
 obtain ⟨A',cap',hv⟩:∃ A cap,v' = .slice A (l.length + s.length) cap:=by
  rcases hown'.2 with ⟨hv,h0⟩ | ⟨g,cap,cur,hv,_⟩
  · exact ⟨none,0,by rw [hv,h0]⟩
  · exact ⟨_,cap,hv⟩
 subst hv
 have hc2:=H.out.grown hgrow hne
 have d1:=hc2.cell (k:=1) rfl
 have f1:=hc2.frozen 1
 have hlt2:=hc2.lt
 have H2:=Hd hc2
 clear hc2
 go_wp2
 go_ret2
 refine ⟨rfl,⟨hB,_,H2.out.set 1 _,?_,fun h => hnil'.2 ?_⟩,(hb1.grown hgrow hsz1 (fun k hk => (hown.lt k hk).1)).setCell (p:=⟨b,1,none⟩) hB _⟩
 · have:=ownsRow_setCell_other hown' (a:=⟨b,1,none⟩) (own_ne_block hown' H2.out hT.ne) (.slice A' (l.length + s.length) cap')
   rw [List.length_append,bytes_append]
   exact this
 · obtain ⟨rfl,rfl⟩:=List.append_eq_nil_iff.1 h
   exact ⟨hnil rfl,rfl⟩
def tb (s:List UInt8):List UInt8:=ib s.length ++ s
def tsb (l:List (List UInt8)):List UInt8:=l.flatMap tb
theorem tb_length (s:List UInt8) (h:s.length ≤ 70368744177664):s.length + 1 ≤ (tb s).length ∧ (tb s).length ≤ s.length + 10:=by
 have:=ib_length (s.length:Int) ⟨by omega,by omega⟩
 unfold tb;rw [List.length_append];omega
theorem writer_text (B b:Nat) (s l:List UInt8) (w:World) (h:IsBld 211 B b l w) (hB:B ≤ w.heap.size) (hl:l.length + s.length ≤ 70368744177600):
 Calls Tryz.prog 146 #[.pointer (some ⟨b,0,none⟩),.string ⟨s.toArray⟩] w fun e w' => e = .returned (.tuple #[]) ∧ Bld 211 B b (.pointer (some ⟨b,0,none⟩)) (l ++ tb s) w' ∧ Below B w w':=by
 have HN:=Hd (writer_int B b s.length l w ⟨by omega,by omega⟩ h hB (by omega))
 clear h
 go_enter Tryz.func146,Tryz.ntmps146
 go_wp2_with fail
 refine HN.out.mono ?_
 rintro e w1 ⟨rfl,hb,hbel⟩
 have hsz:=hbel.size
 have hil:=ib_length (s.length:Int) ⟨by omega,by omega⟩
 have HW:=Hd (writeString _ holds_writer B b (l ++ ib s.length) s w1 (.inr hb) (by rw [List.length_append];omega) (by omega))
 clear hb hsz hil
 go_wp2_with fail
 refine HW.out.mono ?_
 rintro e w2 ⟨rfl,hb2,hbel2⟩
 have HB:=Hd hb2
 clear hb2
 go_wp2_with fail
 go_end0
 exact ⟨rfl,by unfold tb;rw [← List.append_assoc];exact HB.out,hbel.trans hbel2⟩
def svs (l:List (List UInt8)):List Value:=l.map fun s => Value.string ⟨s.toArray⟩
theorem tsb_snoc (l:List (List UInt8)) (k:Nat) (x:List UInt8) (h:l[k]? = some x):tsb (l.take (k + 1)) = tsb (l.take k) ++ tb x:=by
 unfold tsb
 rw [List.take_add_one,h,List.flatMap_append];simp
theorem tsb_take (l:List (List UInt8)) (k:Nat):(tsb (l.take k)).length ≤ (tsb l).length:=by
 conv => rhs;rw [← List.take_append_drop k l]
 unfold tsb
 rw [List.flatMap_append,List.length_append];omega
theorem each_text (B b:Nat) (v:Value) (xs:List (List UInt8)) (l:List UInt8) (w:World) (hs:SlAt w B v 1 xs.length (svs xs)) (h:IsBld 211 B b l w) (hB:B ≤ w.heap.size) (hxl:xs.length ≤ 70368744177664) (hl:l.length + (tsb xs).length ≤ 70368744177600):
 Calls Tryz.prog 145 #[v,.func (.func 146) #[.pointer (some ⟨b,0,none⟩)] #[]] w fun e w' => e = .returned (.tuple #[]) ∧ IsBld 211 B b (l ++ tsb xs) w' ∧ Below B w w':=by
 obtain ⟨A,c,rfl⟩:=hs.shape
 have H:=Hd h
 have HS:=Hd hs
 clear h hs
 go_enter Tryz.func145,Tryz.ntmps145
 go_wp2_with fail
 go_loopw [8] (fun i wr => ∃ k:Nat,k ≤ xs.length ∧ i = .int .i64 k ∧ Hid (IsBld 211 B b (l ++ tsb (xs.take k)) wr) ∧ Below B w wr) (fun i _ => xs.length - (intOf i).toNat)
 case atStart => exact ⟨0,by omega,rfl,by simpa [tsb] using H,Below.refl _ _⟩
 case round =>
  obtain ⟨k,hk,rfl,hb,hbel⟩:=hrel
  by_cases hlt:k < xs.length
  · have hlt':(k:Int) < (xs.length:Int):=by omega
    have hk1:=List.getElem?_eq_getElem hlt
    obtain ⟨x,hx⟩:∃ x,xs[k] = x:=⟨_,rfl⟩
    rw [hx] at hk1
    obtain ⟨ab,ao,ac,hv,hab,hc⟩:=(HS.out.below hbel).at_ (by omega)
    have q0:=hc k (.string ⟨x.toArray⟩) (by unfold svs;rw [List.getElem?_map,hk1];rfl)
    have hsz:=hbel.size
    have hE:=tsb_snoc xs k x hk1
    have hlen:=tsb_take xs (k + 1)
    have hxx:x.length ≤ (tb x).length:=by unfold tb;rw [List.length_append];omega
    rw [hE,List.length_append] at hlen
    have HW:=Hd (writer_text B b x _ wr hb.out (by omega) (by rw [List.length_append];omega))
    have HE:=Hd hE
    injection hv with e1 e2 e3
    subst e1;subst e3
    clear e2 hx hk1 hc hlen hxx hE
    go_wp2_with (go_at_call 146;refine HW.out.mono ?_;rintro e w1 ⟨rfl,hb1,hbel1⟩;have HB1:=Hd hb1;clear hb1)
    go_roundw
    case rel => exact ⟨k + 1,by omega,by go_num,by show IsBld _ _ _ _ _;rw [HE.out,← List.append_assoc];exact .inr HB1.out,hbel.trans hbel1⟩
    case measure => simp [intOf];omega
  · have hd0:decide ((k:Int) < (xs.length:Int)) = false:=by simp;omega
    obtain rfl:k = xs.length:=by omega
    rw [List.take_length] at hb
    go_wp2_with fail
    go_end0
    exact ⟨rfl,hb.out,hbel⟩
theorem codec_text (v:Value) (xs:List (List UInt8)) (w:World) (hs:SlAt w w.heap.size v 1 xs.length (svs xs)) (hl:xs.length ≤ 1000000000) (hl2:(tsb xs).length ≤ 70368744177600):
 Calls Tryz.prog 75 #[v] w fun e w' => e = .returned (.string ⟨(tsb xs).toArray⟩) ∧ Only [] w w':=by
 obtain ⟨A,c,rfl⟩:=hs.shape
 have hs1:SlAt (w.alloc (.cells #[.pointer none,.slice none 0 0] 211)) w.heap.size (.slice A xs.length c) 1 xs.length (svs xs):=hs.below ((Below.refl _ w).alloc (Nat.le_refl _) _)
 have HE:=Hd (each_text w.heap.size w.heap.size _ xs [] _ hs1 (.inl (Bld.new 211 w)) (by simp) (by omega) (by simp;omega))
 clear hs hs1
 go_enter Tryz.func75,Tryz.ntmps75
 go_wp2_with fail
 refine HE.out.mono ?_
 rintro e w1 ⟨rfl,hb,hbel⟩
 have HS:=Hd (builder_string_any _ _ _ _ _ hb)
 clear hb
 go_wp2_with fail
 refine HS.out.mono ?_
 rintro e w2 ⟨rfl,hbel2⟩
 go_wp2_with fail
 go_ret
 exact ⟨by simp,Only.of_below ((((Below.refl _ w).alloc (Nat.le_refl _) _).trans hbel).trans hbel2)⟩
def rdT (s:List UInt8):Option (List UInt8 × List UInt8):=
 match rdI s with
 | some (n,r) => if 0 ≤ n ∧ n ≤ r.length then some (r.take n.toNat,r.drop n.toNat) else none
 | none => none
def rdTV:Option (List UInt8 × List UInt8) → Value
 | some (a,r) => .tuple #[.string ⟨a.toArray⟩,.string ⟨r.toArray⟩,.bool true]
 | none => .tuple #[.string ⟨#[]⟩,.string ⟨#[]⟩,.bool false]
theorem rdI_length {s:List UInt8} {n:Int} {r:List UInt8} (h:rdI s = some (n,r)):r.length ≤ s.length:=by
 obtain ⟨_,rfl⟩:=(rdI_iff s n r).1 h
 rw [List.length_append];omega
theorem codec_toText (s:List UInt8) (w:World) (hl:s.length ≤ 1000000000000):
 Calls Tryz.prog 104 #[.string ⟨s.toArray⟩] w fun e w' => e = .returned (rdTV (rdT s)) ∧ Only [] w w':=by
 have HC:=Hd (codec_toInt s w hl)
 go_enter Tryz.func104,Tryz.ntmps104
 go_wp2_with fail
 refine HC.out.mono ?_
 rintro e w1 ⟨he,ho⟩
 cases hr:rdI s with
 | none =>
  rw [hr] at he
  have he:e = .returned (.tuple #[.int .i64 0,.string ⟨#[]⟩,.bool false]):=he
  subst he
  have HR:Hid (rdT s = none):=by show _ = _;unfold rdT;rw [hr]
  clear hr
  go_wp2_with fail
  go_ret3
  exact ⟨by rw [HR.out];rfl,ho⟩
 | some nr =>
  obtain ⟨n,r⟩:=nr
  rw [hr] at he
  have he:e = .returned (.tuple #[.int .i64 n,.string ⟨r.toArray⟩,.bool true]):=he
  subst he
  have hrl:=rdI_length hr
  by_cases h0:0 ≤ n
  · by_cases h1:n ≤ r.length
    · have HR:Hid (rdT s = some (r.take n.toNat,r.drop n.toNat)):=by show _ = _;unfold rdT;rw [hr];exact if_pos ⟨h0,h1⟩
      obtain ⟨k,rfl⟩:∃ k:Nat,n = k:=⟨n.toNat,by omega⟩
      clear hr
      have hd:decide ((k:Int) < 0) = false:=by simp
      have hd1:decide ((r.length:Int) < k) = false:=by simp;omega
      go_wp2_with fail
      go_quiet (fail)
      rw [str_to_end,str_from_start]
      go_wp2_with fail
      go_ret3
      exact ⟨by rw [HR.out];rfl,ho.drewN _⟩
    · have HR:Hid (rdT s = none):=by show _ = _;unfold rdT;rw [hr];exact if_neg fun h => h1 h.2
      clear hr
      have hd:decide (n < 0) = false:=by simp;omega
      have hd1:decide ((r.length:Int) < n) = true:=by simp;omega
      go_wp2_with fail
      go_ret3
      exact ⟨by rw [HR.out];rfl,ho⟩
  · have HR:Hid (rdT s = none):=by show _ = _;unfold rdT;rw [hr];exact if_neg fun h => h0 h.1
    clear hr
    have hd:decide (n < 0) = true:=by simp;omega
    go_wp2_with fail
    go_ret3
    exact ⟨by rw [HR.out];rfl,ho⟩
end Go.Proofs.YtcjfmildalappaaGreat
