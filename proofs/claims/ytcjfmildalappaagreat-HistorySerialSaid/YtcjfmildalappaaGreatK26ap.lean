/-
  Contracts; each theorem bears its own conditions.
-/
import Derived.Test.YtcjfmildalappaaGreatK26ac
import Derived.Test.YtcjfmildalappaaGreatK26ao
set_option linter.all false
set_option maxRecDepth 100000
set_option maxHeartbeats 8000000
namespace Go.Proofs.YtcjfmildalappaaGreat
open Go.RowKit
theorem nm_one {T:List Pl} (hs:T.Pairwise (fun a b => a.nm < b.nm)) {a b:Pl} (ha:a ∈ T) (hb:b ∈ T) (h:a.nm = b.nm):a = b:=by
 induction T with
 | nil => cases ha
 | cons c r ih =>
  have h1:=List.pairwise_cons.1 hs
  rcases List.mem_cons.1 ha with rfl | ha'
  · rcases List.mem_cons.1 hb with rfl | hb'
    · rfl
    · have:=h1.1 b hb';rw [h] at this;exact absurd this (List.lt_irrefl _)
  · rcases List.mem_cons.1 hb with rfl | hb'
    · have:=h1.1 a ha';rw [h] at this;exact absurd this (List.lt_irrefl _)
    · exact ih h1.2 ha' hb'
theorem StX.bm {w:World} {b mb:Nat} {T:List Pl} (h:StX w b mb T):b ≠ mb:=by
 intro e
 obtain ⟨D,⟨es,clock,hh,_⟩,_⟩:=h.map.ex
 have:=h.cells
 unfold Cells at this
 rw [e,hh] at this
 cases this
structure Op17 (w w':World) (b mb:Nat) (T T':List Pl):Prop where
 st:StX w' b mb T'
 ho:Only (allX b mb T) w w'
 new:∀ x ∈ allX b mb T',x ∈ allX b mb T ∨ w.heap.size ≤ x
theorem Op17.same {w w':World} {b mb:Nat} {T:List Pl} (h:StX w b mb T) (ho:Only [] w w'):Op17 w w' b mb T T:=
 ⟨h.keep ho (by simp),ho.of0,fun x hx => .inl hx⟩
theorem mem_putBy {k:List UInt8} {t' a:Pl} {T:List Pl} (h:a ∈ putBy Pl.nm k t' T):a = t' ∨ (a ∈ T ∧ a.nm ≠ k):=by
 unfold putBy at h
 obtain ⟨c,hc,rfl⟩:=List.mem_map.1 h
 by_cases hk:c.nm = k
 · left;rw [if_pos (by simpa using hk)]
 · right;rw [if_neg (by simpa using hk)];exact ⟨hc,hk⟩
theorem StX.put {w w':World} {b mb:Nat} {T:List Pl} {k:List UInt8} {t t':Pl} (h:StX w b mb T) (hf:fT T k = some t) (hnm:t'.nm = t.nm) (hp:t'.p = t.p) (hm:t'.m = t.m) (hfd:FdAt w' t'.p t'.m t'.v t'.fd) (ho:Only t.own w w') (hnew:NewOf w t.v t'.v):
 Op17 w w' b mb T (putBy Pl.nm k t' T):=by
 obtain ⟨ht,hk⟩:=fT_mem hf
 have hpo:∀ x ∈ t'.own,x ∈ t.own ∨ w.heap.size ≤ x:=by
  intro x hx
  simp only [Pl.own,List.cons_append,List.nil_append,List.mem_cons] at hx ⊢
  rcases hx with rfl | rfl | hx
  · left;left;exact hp
  · left;right;left;exact hm
  · rcases hnew x (by simpa [rb] using hx) with h | h
    · left;right;right;simpa [rb] using h
    · right;exact h
 have hlts:=h.lts
 have hkeep:∀ a ∈ T,a.nm ≠ k → ∀ x ∈ a.own,x ∉ t.own:=fun a ha hne => h.dis a ha t ht (by rw [hk];exact hne)
 have hlt':∀ a ∈ T,∀ x ∈ a.own,x < w.heap.size:=fun a ha x hx => hlts x (own_mem ha hx)
 refine ⟨⟨h.cells.only ho (h.dib t ht).1,?_,?_,?_,?_,?_,?_,?_⟩,?_,?_⟩
 · have:ptT (putBy Pl.nm k t' T) = ptT T:=by
    funext k'
    unfold ptT fT
    rw [putBy_find Pl.nm k t' T (by rw [hnm,hk])]
    by_cases he:k' = k
    · subst he
      rw [if_pos rfl]
      unfold fT at hf
      rw [hf]
      show some (Value.pointer (some ⟨t'.p,0,none⟩)) = some (Value.pointer (some ⟨t.p,0,none⟩))
      rw [hp]
    · rw [if_neg he]
   rw [this,show (putBy Pl.nm k t' T).length = T.length from by unfold putBy;simp]
   exact h.map.only ho (h.dib t ht).2
 · intro a ha
   rcases mem_putBy ha with rfl | ⟨ha,hne⟩
   · exact hfd
   · exact (h.fds a ha).keep ho (hkeep a ha hne)
 · rw [sorted_keys Pl.nm,putBy_keys Pl.nm k t' T (by rw [hnm,hk]),← sorted_keys];exact h.srt
 · intro a ha c hc hne x hx
   rcases mem_putBy ha with rfl | ⟨ha2,hna⟩
   · rcases mem_putBy hc with rfl | ⟨hc2,hnc⟩
     · exact absurd rfl hne
     · intro hxc
       rcases hpo x hx with h1 | h1
       · exact hkeep c hc2 hnc x hxc h1
       · have:=hlt' c hc2 x hxc;omega
   · rcases mem_putBy hc with rfl | ⟨hc2,hnc⟩
     · intro hxc
       rcases hpo x hxc with h1 | h1
       · exact hkeep a ha2 hna x hx h1
       · have:=hlt' a ha2 x hx;omega
     · exact h.dis a ha2 c hc2 hne x hx
 · intro a ha
   rcases mem_putBy ha with rfl | ⟨ha,_⟩
   · have hd:=h.dib t ht
     have hb1:=h.cells.lt
     have hb2:=h.map.lt
     refine ⟨fun hx => ?_,fun hx => ?_⟩
     · rcases hpo _ hx with h1 | h1
       · exact hd.1 h1
       · omega
     · rcases hpo _ hx with h1 | h1
       · exact hd.2 h1
       · omega
   · exact h.dib a ha
 · unfold putBy;rw [List.length_map];exact h.cap
 · intro a ha
   rcases mem_putBy ha with rfl | ⟨ha,_⟩
   · rw [hnm];exact h.nml t ht
   · exact h.nml a ha
 · exact ho.mono fun x hx => .inl (own_mem ht hx)
 · intro x hx
   unfold allX at hx
   simp only [List.mem_cons] at hx
   rcases hx with rfl | rfl | hx
   · left;simp [allX]
   · left;simp [allX]
   · obtain ⟨a,ha,hxa⟩:=List.mem_flatMap.1 hx
     rcases mem_putBy ha with rfl | ⟨ha2,_⟩
     · exact (hpo x hxa).imp (own_mem ht) id
     · exact .inl (own_mem ha2 hxa)
theorem store_fresh (w:World):Calls Tryz.prog 226 #[] w fun e w' => e = .returned (.pointer (some ⟨w.heap.size + 1,0,none⟩)) ∧ w' = (w.alloc (.map #[] 0)).alloc (.cells #[.int .i64 (-1),.int .i64 0,.slice none 0 0,.map (some w.heap.size)] 196):=by
 have hmm:=@run_makeMap Tryz.prog
 go_enter Tryz.func226,Tryz.ntmps226
 go_wp2_with fail
 go_ret
 exact ⟨by simp,rfl⟩
theorem fresh_at (w:World):FdAt ((w.alloc (.map #[] 0)).alloc (.cells #[.int .i64 (-1),.int .i64 0,.slice none 0 0,.map (some w.heap.size)] 196)) (w.heap.size + 1) w.heap.size (.slice none 0 0) ⟨-1,0,[]⟩:=by
 refine ⟨?_,World.ownsRow_nil _ _ _ _,?_,by simp,by simp⟩
 · have:=Cells.new (w.alloc (.map #[] 0)) 196 [.int .i64 (-1),.int .i64 0,.slice none 0 0,.map (some w.heap.size)]
   rw [World.size_alloc] at this
   exact this
 · exact (MapF.made w).only ((Only.refl [] _).alloc _) (by simp)
theorem store_new (w:World):Calls Tryz.prog 59 #[] w fun e w' => e = .returned (.pointer (some ⟨w.heap.size + 1,0,none⟩)) ∧ StX w' (w.heap.size + 1) w.heap.size [] ∧ Only [] w w':=by
 have hmm:=@run_makeMap Tryz.prog
 have hs:StX ((w.alloc (.map #[] 0)).alloc (.cells #[.map (some w.heap.size)] 184)) (w.heap.size + 1) w.heap.size []:=by
  refine ⟨?_,?_,by simp,List.Pairwise.nil,by simp,by simp,by simp,by simp⟩
  · have:=Cells.new (w.alloc (.map #[] 0)) 184 [.map (some w.heap.size)]
    rw [World.size_alloc] at this
    exact this
  · exact (MapF.made w).only ((Only.refl [] _).alloc _) (by simp)
 have HS:=Hd hs
 clear hs
 go_enter Tryz.func59,Tryz.ntmps59
 go_wp2_with fail
 go_ret
 exact ⟨by simp,HS.out,((Only.refl [] w).alloc _).alloc _⟩
def failF (f:Fd) (now:Int):Fd:=⟨now,min (f.fai + 1) 1000,f.ps⟩
def withF (t:Pl) (f:Fd):Pl:=⟨t.nm,f,t.p,t.m,t.v⟩
def fndE (o:Option Pl) (now:Int):Int:=match o with
 | none => 4
 | some _ => if okT now then 0 else 1
theorem fndV_none {T:List Pl} {k:List UInt8} (now:Int) (h:fT T k = none):fndV (fT T k) now = .tuple #[.pointer none,.int .i64 4]:=by rw [h];rfl
theorem fndV_bad {T:List Pl} {k:List UInt8} {t:Pl} {now:Int} (h:fT T k = some t) (hn:okT now = false):fndV (fT T k) now = .tuple #[.pointer none,.int .i64 1]:=by rw [h];unfold fndV;rw [hn];rfl
theorem fndV_ok {T:List Pl} {k:List UInt8} {t:Pl} {now:Int} (h:fT T k = some t) (hn:okT now = true):fndV (fT T k) now = .tuple #[.pointer (some ⟨t.p,0,none⟩),.int .i64 0]:=by rw [h];unfold fndV;rw [hn];rfl
theorem okT_iff {now:Int}:okT now = true ↔ 0 ≤ now ∧ now ≤ 1099511627776:=by unfold okT;simp
def failT (T:List Pl) (k:List UInt8) (now:Int):List Pl:=match fT T k with
 | none => T
 | some t => if okT now then putBy Pl.nm k (withF t (failF t.fd now)) T else T
theorem store_fail (b mb:Nat) (T:List Pl) (k:List UInt8) (hk:k.length ≤ maxLen) (now:Int) (w:World) (h:StX w b mb T):
 Calls Tryz.prog 130 #[.pointer (some ⟨b,0,none⟩),.string ⟨k.toArray⟩,.int .i64 now] w fun e w' => e = .returned (.int .i64 (fndE (fT T k) now)) ∧ Op17 w w' b mb T (failT T k now):=by
 have CF:=Hd (store_find b mb T k hk now w h)
 have HX:=Hd h
 cases hf:fT T k with
 | none =>
  rw [fndV_none now hf] at CF
  have hT:failT T k now = T:=by unfold failT;rw [hf]
  rw [hT]
  go_enter Tryz.func130,Tryz.ntmps130
  go_wp2_with fail
  refine CF.out.mono ?_
  rintro e w1 ⟨rfl,rfl⟩
  go_wp2_with fail
  go_ret
  exact ⟨rfl,Op17.same HX.out oz⟩
 | some t =>
  cases hn:okT now with
  | false =>
   rw [fndV_bad hf hn] at CF
   have hT:failT T k now = T:=by unfold failT;rw [hf];show (if okT now = true then _ else _) = _;rw [hn];rfl
   have hE:fndE (some t) now = 1:=by unfold fndE;rw [hn];rfl
   rw [hT,hE]
   go_enter Tryz.func130,Tryz.ntmps130
   go_wp2_with fail
   refine CF.out.mono ?_
   rintro e w1 ⟨rfl,rfl⟩
   go_wp2_with fail
   go_ret
   exact ⟨rfl,Op17.same HX.out oz⟩
  | true =>
   rw [fndV_ok hf hn] at CF
   have hT:failT T k now = putBy Pl.nm k (withF t (failF t.fd now)) T:=by unfold failT;rw [hf];show (if okT now = true then _ else _) = _;rw [hn];rfl
   have hE:fndE (some t) now = 0:=by unfold fndE;rw [hn];rfl
   rw [hT,hE]
   have ht:=(fT_mem hf).1
   have hfd:=h.fds t ht
   have hnb:=hfd.nb
   obtain ⟨hn0,hn1⟩:=okT_iff.1 hn
   have p1:=hfd.cells.cell (k:=1) rfl
   have p0:=hfd.cells.cell (k:=0) rfl
   have f0:=hfd.cells.frozen 0
   have hlt:=hfd.cells.lt
   obtain ⟨w2,hw2⟩:∃ w2,w.setCell ⟨t.p,0,none⟩ (.int .i64 now) = w2:=⟨_,rfl⟩
   have c2:Cells w2 t.p 196 _:=hw2 ▸ hfd.cells.set 0 (.int .i64 now)
   have p2:=c2.cell (k:=1) rfl
   have f2:=c2.frozen 1
   have l2:=c2.lt
   obtain ⟨mn,hmn⟩:∃ mn,min (t.fd.fai + 1) 1000 = mn:=⟨_,rfl⟩
   obtain ⟨w3,hw3⟩:∃ w3,w2.setCell ⟨t.p,1,none⟩ (.int .i64 mn) = w3:=⟨_,rfl⟩
   have c3:Cells w3 t.p 196 [.int .i64 now,.int .i64 mn,t.v,.map (some t.m)]:=hw3 ▸ c2.set 1 (.int .i64 mn)
   have ho:Only [t.p] w w3:=hw3 ▸ (hw2 ▸ oz.setCell (p:=⟨t.p,0,none⟩) (.inl (by simp)) _).setCell (p:=⟨t.p,1,none⟩) (.inl (by simp)) _
   have hvp:=hfd.vp
   have hpm:=hfd.pm
   have hfd3:FdAt w3 t.p t.m t.v (failF t.fd now):=by
    refine ⟨?_,own_keep hfd.row ho (by simpa using hvp),hfd.map.only ho (by simpa using fun e => hpm e.symm),hfd.cap,?_⟩
    · unfold failF
      rw [hmn];exact c3
    · unfold failF
      exact ⟨by show -1 ≤ now;omega,by show now ≤ _;omega,by show 0 ≤ min _ _;omega,by show min _ _ ≤ _;omega⟩
   have HF:=Hd (HX.out.put (t':=withF t (failF t.fd now)) hf rfl rfl rfl hfd3 (ho.mono (fun x hx => .inl (by simp at hx;subst hx;simp [Pl.own]))) (NewOf.refl _ _))
   clear hfd3 ho hvp hpm c2 c3 hfd h
   go_enter Tryz.func130,Tryz.ntmps130
   go_wp2_with fail
   refine CF.out.mono ?_
   rintro e w1 ⟨rfl,rfl⟩
   go_wp2_with fail
   go_ret
   exact ⟨rfl,HF.out⟩
def Po.mark (x:Po):Po:=⟨x.sq,x.it,true⟩
def markAt (ps:List Po) (i:Nat):List Po:=match ps[i]? with
 | some x => ps.set i x.mark
 | none => ps
def markF (f:Fd) (i:Nat):Fd:=⟨f.pol,f.fai,markAt f.ps i⟩
def markT (T:List Pl) (k id:List UInt8):List Pl:=match fT T k with
 | none => T
 | some t => match idx t.fd.ps id with
  | none => T
  | some i => putBy Pl.nm k (withF t (markF t.fd i)) T
def markE (o:Option Pl) (id:List UInt8):Int:=match o with
 | none => 4
 | some t => if (idx t.fd.ps id).isSome then 0 else 4
theorem markAt_some {ps:List Po} {i:Nat} {x:Po} (h:ps[i]? = some x):markAt ps i = ps.set i x.mark:=by unfold markAt;rw [h]
theorem markAt_length (ps:List Po) (i:Nat):(markAt ps i).length = ps.length:=by
 unfold markAt
 split <;> simp
theorem idx_ids {ps qs:List Po} (h:ps.map (·.it.id) = qs.map (·.it.id)) (k:List UInt8):idx ps k = idx qs k:=by
 have e:∀ l:List Po,idx l k = (l.map (·.it.id)).findIdx? (fun s => s == k):=by
  intro l
  unfold idx
  rw [List.findIdx?_map]
  rfl
 rw [e,e,h]
theorem markAt_ids (ps:List Po) (i:Nat):(markAt ps i).map (·.it.id) = ps.map (·.it.id):=by
 unfold markAt
 split
 · rename_i x hx
   obtain ⟨hi,rfl⟩:=List.getElem?_eq_some_iff.1 hx
   rw [List.map_set]
   apply List.ext_getElem
   · simp
   · intro j h1 h2
     rw [List.getElem_set]
     split
     · subst_vars;simp [Po.mark]
     · rfl
 · rfl
theorem atF_ids {ps qs:List Po} (h:ps.map (·.it.id) = qs.map (·.it.id)):atF ps = atF qs:=by
 funext k
 unfold atF
 rw [idx_ids h]
theorem idx_lt {ps:List Po} {k:List UInt8} {i:Nat} (h:idx ps k = some i):i < ps.length:=by
 unfold idx at h
 exact (List.findIdx?_eq_some_iff_getElem.1 h).1
theorem store_mark (b mb:Nat) (T:List Pl) (k:List UInt8) (hk:k.length ≤ maxLen) (id:List UInt8) (hid:id.length ≤ maxLen) (w:World) (h:StX w b mb T):
 Calls Tryz.prog 195 #[.pointer (some ⟨b,0,none⟩),.string ⟨k.toArray⟩,.string ⟨id.toArray⟩] w fun e w' => e = .returned (.int .i64 (markE (fT T k) id)) ∧ Op17 w w' b mb T (markT T k id):=by
 have CF:=Hd (store_find b mb T k hk 0 w h)
 have HX:=Hd h
 cases hf:fT T k with
 | none =>
  rw [fndV_none 0 hf] at CF
  have hT:markT T k id = T:=by unfold markT;rw [hf]
  rw [hT]
  go_enter Tryz.func195,Tryz.ntmps195
  go_wp2_with fail
  refine CF.out.mono ?_
  rintro e w1 ⟨rfl,rfl⟩
  go_wp2_with fail
  go_ret
  exact ⟨rfl,Op17.same HX.out oz⟩
 | some t =>
  rw [fndV_ok hf (by decide)] at CF
  have ht:=(fT_mem hf).1
  have hfd:=h.fds t ht
  have p3:=hfd.cells.cell (k:=3) rfl
  have hlk:=hfd.map.lookOk (t:=194) (e:=3) (z:=.int .i64 0) Tryz.underlying194 (Tryz.zeroValue3 w) id hid
  cases hi:idx t.fd.ps id with
  | none =>
   rw [show atF t.fd.ps id = none from by unfold atF;rw [hi];rfl] at hlk
   have hT:markT T k id = T:=by unfold markT;rw [hf];dsimp only;rw [hi]
   have hE:markE (some t) id = 4:=by unfold markE;dsimp only;rw [hi];rfl
   rw [hT,hE]
   clear h
   go_enter Tryz.func195,Tryz.ntmps195
   go_wp2_with fail
   refine CF.out.mono ?_
   rintro e w1 ⟨rfl,rfl⟩
   go_wp2_with fail
   go_ret
   exact ⟨rfl,Op17.same HX.out oz⟩
  | some i =>
   rw [show atF t.fd.ps id = some (.int .i64 (i:Int)) from by unfold atF;rw [hi];rfl] at hlk
   have hT:markT T k id = putBy Pl.nm k (withF t (markF t.fd i)) T:=by unfold markT;rw [hf];dsimp only;rw [hi]
   have hE:markE (some t) id = 0:=by unfold markE;dsimp only;rw [hi];rfl
   have hil:=idx_lt hi
   obtain ⟨x,hx⟩:∃ x,t.fd.ps[i]? = some x:=⟨_,List.getElem?_eq_getElem hil⟩
   obtain ⟨g,cap,hv⟩:=own_formX hfd.row (by omega)
   have hrow:=hfd.row
   rw [hv] at hrow
   have p2:=hfd.cells.cell (k:=2) rfl
   rw [hv] at p2
   have q4:w.cell? ⟨g,i * 5 + 4,none⟩ = some (.bool x.rd):=by
    have:=hrow.cells (g:=g) rfl (i * 5 + 4) _ (poL_get t.fd.ps i 4 x hx (by omega))
    rw [Addr.add_lit,Nat.zero_add] at this
    exact this
   have f4:w.frozen? ⟨g,i * 5 + 4,none⟩ = false:=hrow.frozenAt _
   have lg:g < w.heap.size:=(hrow.lt g rfl).2
   obtain ⟨w3,hw3⟩:∃ w3,w.setCell ⟨g,i * 5 + 4,none⟩ (.bool true) = w3:=⟨_,rfl⟩
   have ho:Only [g] w w3:=hw3 ▸ oz.setCell (p:=⟨g,i * 5 + 4,none⟩) (.inl (by simp)) _
   have hvp:=hfd.vp
   have hvm:=hfd.vm
   rw [hv] at hvp hvm
   have hfd3:FdAt w3 t.p t.m t.v (markF t.fd i):=by
    refine ⟨hfd.cells.only ho (by simpa [Value.ownBlock] using fun e => hvp (by simp [Value.ownBlock,e])),?_,?_,?_,hfd.nb⟩
    · have h1:=(hrow.stored (i * 5 + 4) (.bool true)).1
      have hfs:(poL t.fd.ps).set (i * 5 + 4) (.bool true) = poL (t.fd.ps.set i x.mark):=flat_set Po.cells 5 (fun _ => rfl) t.fd.ps i 4 x x.mark (.bool true) hx (by omega) rfl
      rw [hfs,hw3] at h1
      show World.ownsRow w3 _ _ _ _ (markAt t.fd.ps i).length (poL (markAt t.fd.ps i))
      rw [markAt_length,markAt_some hx,hv]
      exact h1
    · show MapF w3 _ (markAt t.fd.ps i).length (atF (markAt t.fd.ps i))
      rw [markAt_length,atF_ids (markAt_ids _ _)]
      exact hfd.map.only ho (by simpa [Value.ownBlock] using fun e => hvm (by simp [Value.ownBlock,e]))
    · show (markAt t.fd.ps i).length ≤ 200
      rw [markAt_length];exact hfd.cap
   have HF:=Hd (HX.out.put (t':=withF t (markF t.fd i)) hf rfl rfl rfl hfd3 (ho.mono (fun y hy => .inl (by simp at hy;subst hy;simp [Pl.own,hv,rb,Value.ownBlock]))) (NewOf.refl _ _))
   rw [hT,hE]
   clear hfd3 ho hvp hvm hfd hrow h
   go_enter Tryz.func195,Tryz.ntmps195
   go_wp2_with fail
   refine CF.out.mono ?_
   rintro e w1 ⟨rfl,rfl⟩
   have hil':(i:Int) < (t.fd.ps.length:Int):=by omega
   go_wp2_with fail
   go_ret
   exact ⟨rfl,HF.out⟩
theorem mem_delBy {k:List UInt8} {a:Pl} {T:List Pl} (h:a ∈ delBy Pl.nm k T):a ∈ T:=(List.mem_filter.1 h).1
theorem StX.del {w w':World} {b mb:Nat} {T:List Pl} (h:StX w b mb T) (k:List UInt8) (hm:MapF w' mb (delBy Pl.nm k T).length (ptT (delBy Pl.nm k T))) (ho:Only [mb] w w'):Op17 w w' b mb T (delBy Pl.nm k T):=by
 have hbm:=h.bm
 refine ⟨⟨h.cells.only ho (by simpa using hbm),hm,fun t ht => (h.fds t (mem_delBy ht)).keep ho (fun x hx => ?_),h.srt.sublist List.filter_sublist,fun t ht u hu => h.dis t (mem_delBy ht) u (mem_delBy hu),fun t ht => h.dib t (mem_delBy ht),Nat.le_trans (List.length_filter_le _ _) h.cap,fun t ht => h.nml t (mem_delBy ht)⟩,ho.mono (fun x hx => .inl (by simp at hx;subst hx;simp [allX])),fun x hx => ?_⟩
 · have:=(h.dib t (mem_delBy ht)).2
   simp only [List.mem_cons,List.not_mem_nil,or_false]
   intro e
   subst e
   exact this hx
 · left
   unfold allX at hx
   simp only [List.mem_cons] at hx
   rcases hx with rfl | rfl | hx
   · simp [allX]
   · simp [allX]
   · obtain ⟨a,ha,hxa⟩:=List.mem_flatMap.1 hx
     exact own_mem (mem_delBy ha) hxa
def unT (T:List Pl) (k:List UInt8):List Pl:=match fT T k with
 | none => T
 | some _ => delBy Pl.nm k T
theorem store_unsub (b mb:Nat) (T:List Pl) (k:List UInt8) (hk:k.length ≤ maxLen) (w:World) (h:StX w b mb T):
 Calls Tryz.prog 194 #[.pointer (some ⟨b,0,none⟩),.string ⟨k.toArray⟩] w fun e w' => e = .returned (.int .i64 (if (fT T k).isSome = true then 0 else 4)) ∧ Op17 w w' b mb T (unT T k):=by
 have HX:=Hd h
 have c0:=h.cells.cell (k:=0) rfl
 have hlk:=h.map.look (t:=182) (e:=191) (z:=.pointer none) Tryz.underlying182 (Tryz.zeroValue191 w) k hk
 cases hf:fT T k with
 | none =>
  rw [show (ptT T k) = none from by unfold ptT;rw [hf];rfl] at hlk
  have hT:unT T k = T:=by unfold unT;rw [hf]
  rw [hT]
  clear h
  go_enter Tryz.func194,Tryz.ntmps194
  go_wp2_with fail
  go_ret
  exact ⟨rfl,Op17.same HX.out oz⟩
 | some t =>
  rw [show (ptT T k) = some (.pointer (some ⟨t.p,0,none⟩)) from by unfold ptT;rw [hf];rfl] at hlk
  have hT:unT T k = delBy Pl.nm k T:=by unfold unT;rw [hf]
  obtain ⟨w3,hdr,hm3,ht3⟩:=h.map.drop (t:=182) (e:=191) Tryz.underlying182 k hk 0
  have hm3':MapF w3 mb (delBy Pl.nm k T).length (ptT (delBy Pl.nm k T)):=by
   have e1:ptT (delBy Pl.nm k T) = fun k' => if k' = k then none else ptT T k':=by
    funext k'
    unfold ptT fT
    rw [delBy_find]
    by_cases he:k' = k
    · rw [if_pos he,if_pos he];rfl
    · rw [if_neg he,if_neg he]
   rw [e1,delBy_length Pl.nm k T h.srt]
   have e2:(ptT T k).isSome = (T.find? (fun a => a.nm == k)).isSome:=by unfold ptT fT;simp
   rw [← e2]
   exact hm3
  have HF:=Hd (h.del k hm3' (mapTurned_only ht3))
  rw [hT]
  clear hm3 hm3' ht3 h
  go_enter Tryz.func194,Tryz.ntmps194
  go_wp2_with fail
  go_ret
  exact ⟨rfl,HF.out⟩
theorem ptT_ins {T:List Pl} {t:Pl} (hn:fT T t.nm = none):ptT (insBy Pl.nm t T) = fun k' => if k' = t.nm then some (.pointer (some ⟨t.p,0,none⟩)) else ptT T k':=by
 have hne:∀ a ∈ T,a.nm ≠ t.nm:=fun a ha e => by
  have:=List.find?_eq_none.1 hn a ha
  simp [e] at this
 funext k'
 unfold ptT fT
 rw [insBy_find Pl.nm t T k' hne]
 by_cases he:k' = t.nm
 · rw [if_pos he,if_pos he];rfl
 · rw [if_neg he,if_neg he]
theorem StX.ins {w w2 w':World} {b mb:Nat} {T:List Pl} {t:Pl} (h:StX w b mb T) (hn:fT T t.nm = none) (hnm:nmL t.nm = true) (hcap:T.length < 20) (h2:Only [] w w2) (hfd:FdAt w2 t.p t.m t.v t.fd) (hnew:∀ x ∈ t.own,w.heap.size ≤ x) (ho:Only [mb] w2 w') (hm:MapF w' mb (T.length + 1) (fun k' => if k' = t.nm then some (.pointer (some ⟨t.p,0,none⟩)) else ptT T k')):
 Op17 w w' b mb T (insBy Pl.nm t T):=by
 have hbm:=h.bm
 have hne:∀ a ∈ T,a.nm ≠ t.nm:=fun a ha e => by
  have:=List.find?_eq_none.1 hn a ha
  simp [e] at this
 have hmem:∀ a,a ∈ insBy Pl.nm t T ↔ a = t ∨ a ∈ T:=fun a => by rw [(insBy_perm Pl.nm t T).mem_iff,List.mem_cons]
 have hb:=h.cells.lt
 have hml:=h.map.lt
 have hlts:=h.lts
 have hol:∀ a ∈ T,∀ x ∈ a.own,x < w.heap.size:=fun a ha x hx => hlts x (own_mem ha hx)
 have k2:=h.keep h2 (by simp)
 refine ⟨⟨k2.cells.only ho (by simpa using hbm),?_,?_,insBy_sorted Pl.nm t T h.srt hne,?_,?_,?_,?_⟩,?_,?_⟩
 · rw [insBy_length,ptT_ins hn];exact hm
 · intro a ha
   rcases (hmem a).1 ha with rfl | ha
   · exact hfd.keep ho (fun x hx => by have:=hnew x hx;simp only [List.mem_cons,List.not_mem_nil,or_false];omega)
   · exact (k2.fds a ha).keep ho (fun x hx => by
      have:=(h.dib a ha).2
      simp only [List.mem_cons,List.not_mem_nil,or_false]
      intro e;subst e;exact this hx)
 · intro a ha c hc hac x hx
   rcases (hmem a).1 ha with rfl | ha2
   · rcases (hmem c).1 hc with rfl | hc2
     · exact absurd rfl hac
     · intro hxc
       have:=hnew x hx
       have:=hol c hc2 x hxc
       omega
   · rcases (hmem c).1 hc with rfl | hc2
     · intro hxc
       have:=hnew x hxc
       have:=hol a ha2 x hx
       omega
     · exact h.dis a ha2 c hc2 hac x hx
 · intro a ha
   rcases (hmem a).1 ha with rfl | ha2
   · exact ⟨fun hx => by have:=hnew _ hx;omega,fun hx => by have:=hnew _ hx;omega⟩
   · exact h.dib a ha2
 · rw [insBy_length];omega
 · intro a ha
   rcases (hmem a).1 ha with rfl | ha2
   · exact hnm
   · exact h.nml a ha2
 · exact (h2.of0).trans ho (fun x hx => .inl (by simp at hx;subst hx;simp [allX]))
 · intro x hx
   unfold allX at hx
   simp only [List.mem_cons] at hx
   rcases hx with rfl | rfl | hx
   · left;simp [allX]
   · left;simp [allX]
   · obtain ⟨a,ha,hxa⟩:=List.mem_flatMap.1 hx
     rcases (hmem a).1 ha with rfl | ha2
     · exact .inr (hnew x hxa)
     · exact .inl (own_mem ha2 hxa)
def subE (T:List Pl) (k:List UInt8):Int:=if nmL k = true then (if (fT T k).isSome = true then 5 else if T.length = 20 then 11 else 0) else 3
theorem store_sub (b mb:Nat) (T:List Pl) (k:List UInt8) (hk:k.length ≤ maxLen) (w:World) (h:StX w b mb T):
 Calls Tryz.prog 193 #[.pointer (some ⟨b,0,none⟩),.string ⟨k.toArray⟩] w fun e w' => e = .returned (.int .i64 (subE T k)) ∧ ∃ T',Op17 w w' b mb T T' ∧ T'.map (fun t => (t.nm,t.fd)) = (if subE T k = 0 then insBy Prod.fst (k,(⟨-1,0,[]⟩:Fd)) (T.map fun t => (t.nm,t.fd)) else T.map fun t => (t.nm,t.fd)):=by
 have HX:=Hd h
 have CN:=Hd (fun w' => shard_name k w' (by unfold maxLen at hk;omega))
 have c0:=h.cells.cell (k:=0) rfl
 have hlk:=h.map.look (t:=182) (e:=191) (z:=.pointer none) Tryz.underlying182 (Tryz.zeroValue191 w) k hk
 cases hn:nmL k with
 | false =>
  have hE:subE T k = 3:=by unfold subE;rw [hn];rfl
  rw [hE]
  simp only [hn] at CN
  clear h hlk
  go_enter Tryz.func193,Tryz.ntmps193
  go_wp2_with fail
  refine (CN.out _).mono ?_
  rintro e w1 ⟨rfl,rfl⟩
  go_wp2_with fail
  go_ret
  exact ⟨rfl,T,Op17.same HX.out oz,rfl⟩
 | true =>
 simp only [hn] at CN
 cases hf:fT T k with
 | some t =>
  rw [show (ptT T k) = some (.pointer (some ⟨t.p,0,none⟩)) from by unfold ptT;rw [hf];rfl] at hlk
  have hE:subE T k = 5:=by unfold subE;rw [hn,hf];rfl
  rw [hE]
  clear h
  go_enter Tryz.func193,Tryz.ntmps193
  go_wp2_with fail
  refine (CN.out _).mono ?_
  rintro e w1 ⟨rfl,rfl⟩
  go_wp2_with fail
  go_ret
  exact ⟨rfl,T,Op17.same HX.out oz,rfl⟩
 | none =>
  rw [show (ptT T k) = none from by unfold ptT;rw [hf];rfl] at hlk
  have hlen:=h.map.len (t:=182) (e:=191) Tryz.underlying182
  by_cases h20:T.length = 20
  · have hE:subE T k = 11:=by unfold subE;rw [hn,hf,h20];rfl
    rw [hE]
    rw [h20] at hlen
    clear h
    go_enter Tryz.func193,Tryz.ntmps193
    go_wp2_with fail
    refine (CN.out _).mono ?_
    rintro e w1 ⟨rfl,rfl⟩
    go_wp2_with fail
    go_ret
    exact ⟨rfl,T,Op17.same HX.out oz,rfl⟩
  · have hE:subE T k = 0:=by unfold subE;rw [hn,hf,if_neg h20];rfl
    have hcap:T.length < 20:=by have:=h.cap;omega
    have e20:((T.length:Int) == 20) = false:=by simp;omega
    rw [hE]
    have hb:=h.cells.lt
    have hml:=h.map.lt
    have CF:=Hd (fun w' => store_fresh w')
    obtain ⟨w2,hw2⟩:∃ w2,(w.drew.alloc (.map #[] 0)).alloc (.cells #[.int .i64 (-1),.int .i64 0,.slice none 0 0,.map (some w.drew.heap.size)] 196) = w2:=⟨_,rfl⟩
    have hO2:Only [] w w2:=hw2 ▸ (((Only.refl [] w).drew).alloc _).alloc _
    have hfr:FdAt w2 (w.heap.size + 1) w.heap.size (.slice none 0 0) ⟨-1,0,[]⟩:=hw2 ▸ fresh_at w.drew
    have h2:=h.keep hO2 (by simp)
    have c2:=h2.cells.cell (k:=0) rfl
    obtain ⟨w3,hst,hm3,ht3⟩:=h2.map.store (t:=182) (e:=191) Tryz.underlying182 (by unfold maxLen;omega) k hk (.pointer (some ⟨w.heap.size + 1,0,none⟩))
    rw [show (ptT T k).isSome = false from by unfold ptT;rw [hf];rfl] at hm3
    have hF:=h.ins (t:=⟨k,⟨-1,0,[]⟩,w.heap.size + 1,w.heap.size,.slice none 0 0⟩) hf hn hcap hO2 hfr (by intro x hx;simp [Pl.own,rb,Value.ownBlock] at hx;omega) (mapTurned_only ht3) hm3
    have HF:=Hd hF
    have HW2:=Hd hw2
    clear h hw2 hO2 hfr h2 hm3 ht3 hF
    go_enter Tryz.func193,Tryz.ntmps193
    go_wp2_with fail
    refine (CN.out _).mono ?_
    rintro e w1 ⟨rfl,rfl⟩
    go_wp2_with fail
    go_region_law (go_simp;go_at_call 226;go_loud (refine (CF.out _).mono ?_;rintro e w4 ⟨rfl,hw4⟩;have hw5:=hw4.trans HW2.out;clear hw4;subst hw5))
    all_goals
     go_wp2_with fail
     go_ret
     exact ⟨rfl,_,HF.out,insBy_map Pl.nm (fun t => (t.nm,t.fd)) Prod.fst (fun _ => rfl) _ _⟩
theorem ingest1 (x:It) (hx:x.Len) (w:World):Calls Tryz.prog 199 #[.agg #[.string ⟨x.id.toArray⟩,.string ⟨x.ti.toArray⟩,.string ⟨x.li.toArray⟩]] w fun e w' => e = .returned (.bool (!itR x)) ∧ Only [] w w':=by
 have C:=Hd (fun w' => feed_right x hx w')
 obtain ⟨r,hr⟩:∃ r,itR x = r:=⟨_,rfl⟩
 rw [hr] at C ⊢
 clear hr
 go_enter Tryz.func199,Tryz.ntmps199
 go_wp2_with fail
 refine (C.out _).mono ?_
 rintro e w1 ⟨rfl,ho⟩
 have HO:=Hd (((Only.refl [] w).alloc _).tr ho)
 clear ho
 go_wp2_with fail
 go_ret
 exact ⟨rfl,HO.out⟩
theorem indexFunc_it (v:Value) (l:List It) (w:World) (hs:SlAt w w.heap.size v 3 l.length (itL l)) (hl:l.length ≤ 1000000) (hx:∀ x ∈ l,x.Len):
 Calls Tryz.prog 141 #[v,.func (.func 199) #[] #[]] w fun e w' => (∃ i:Int,e = .returned (.int .i64 i) ∧ (decide (0 ≤ i) = l.any (fun x => !itR x))) ∧ Only [] w w':=by
 obtain ⟨A,c,rfl⟩:=hs.shape
 have HS:=Hd hs
 have HX:=Hd hx
 clear hs hx
 go_enter Tryz.func141,Tryz.ntmps141
 go_wp2_with fail
 go_loopw [8] (fun i wr => ∃ k:Nat,k ≤ l.length ∧ i = .int .i64 k ∧ Hid ((l.take k).any (fun x => !itR x) = false) ∧ Only [] w wr) (fun i _ => l.length - (intOf i).toNat)
 case atStart => exact ⟨0,by omega,rfl,Hd rfl,Only.refl _ _⟩
 case round =>
  obtain ⟨k,hk,rfl,hno,ho⟩:=hrel
  by_cases hlt:k < l.length
  · have hlt':(k:Int) < (l.length:Int):=by omega
    have hk1:=List.getElem?_eq_getElem hlt
    obtain ⟨x,hx⟩:∃ x,l[k] = x:=⟨_,rfl⟩
    have hxl:=HX.out l[k] (List.getElem_mem _)
    rw [hx] at hk1 hxl
    obtain ⟨ab,ao,ac,hv,hab,hc⟩:=(HS.out.only ho (Nat.le_refl _) (by simp)).at_ (by omega)
    have q0:wr.cell? ⟨ab,ao + k * 3,none⟩ = some (.string ⟨x.id.toArray⟩):=hc (k * 3 + 0) _ (itL_get l k 0 x hk1 (by omega))
    have q1:wr.cell? ⟨ab,ao + k * 3 + 1,none⟩ = some (.string ⟨x.ti.toArray⟩):=hc (k * 3 + 1) _ (itL_get l k 1 x hk1 (by omega))
    have q2:wr.cell? ⟨ab,ao + k * 3 + 2,none⟩ = some (.string ⟨x.li.toArray⟩):=hc (k * 3 + 2) _ (itL_get l k 2 x hk1 (by omega))
    have F1:=Hd (ingest1 x hxl wr)
    have HT:Hid ((l.take (k + 1)).any (fun x => !itR x) = !itR x):=by show _ = _;rw [List.take_add_one,hk1,List.any_append,hno.out];simp
    have HA:Hid ((!itR x) = true → l.any (fun x => !itR x) = true):=fun h => List.any_eq_true.2 ⟨x,List.mem_of_getElem? hk1,h⟩
    injection hv with e1 e2 e3
    subst e1;subst e3
    clear e2 hc hx hk1 hno
    obtain ⟨rb1,hb⟩:∃ rb1,(!itR x) = rb1:=⟨_,rfl⟩
    rw [hb] at F1 HA HT
    clear hb
    cases rb1 with
    | true =>
     have HR:=Hd (HA.out rfl)
     clear HT HA
     go_wp2_with (go_at_call 199;refine F1.out.mono ?_;rintro e w1 ⟨rfl,ho1⟩)
     go_ret
     exact ⟨⟨k,rfl,by rw [HR.out];simp⟩,ho.tr0 ho1⟩
    | false =>
     clear HA
     go_wp2_with (go_at_call 199;refine F1.out.mono ?_;rintro e w1 ⟨rfl,ho1⟩)
     go_roundw
     case rel => exact ⟨k + 1,by omega,by go_num,HT,ho.tr0 ho1⟩
     case measure => simp [intOf];omega
  · have hd0:decide ((k:Int) < (l.length:Int)) = false:=by simp;omega
    have HF:Hid (l.any (fun x => !itR x) = false):=by have:=hno.out;rwa [List.take_of_length_le (by omega)] at this
    clear hno
    go_wp2_with fail
    go_ret
    exact ⟨⟨-1,rfl,by rw [HF.out];simp⟩,ho⟩
theorem containsFunc_it (v:Value) (l:List It) (w:World) (hs:SlAt w w.heap.size v 3 l.length (itL l)) (hl:l.length ≤ 1000000) (hx:∀ x ∈ l,x.Len):
 Calls Tryz.prog 72 #[v,.func (.func 199) #[] #[]] w fun e w' => e = .returned (.bool (!l.all itR)) ∧ Only [] w w':=by
 have C:=Hd (indexFunc_it v l w hs hl hx)
 have hall:(l.any fun x => !itR x) = !l.all itR:=by rw [List.not_all_eq_any_not]
 rw [hall] at C
 obtain ⟨A,c,rfl⟩:=hs.shape
 clear hs hx hall
 obtain ⟨r,hr⟩:∃ r,(!l.all itR) = r:=⟨_,rfl⟩
 rw [hr] at C ⊢
 clear hr
 go_enter Tryz.func72,Tryz.ntmps72
 go_wp2_with fail
 refine C.out.mono ?_
 rintro e w1 ⟨⟨i,rfl,hi⟩,ho⟩
 have HI:=Hd hi
 clear hi
 go_wp2_with fail
 go_ret
 exact ⟨by rw [← HI.out];rfl,ho⟩
abbrev Sv:=List (List UInt8 × Fd)
def prT (T:List Pl):Sv:=T.map fun t => (t.nm,t.fd)
def ingS (s:Fd × Nat) (x:It):Fd × Nat:=(addF s.1 x,if addB s.1 x then s.2 + 1 else s.2)
def ingF (f:Fd) (l:List It):Fd × Nat:=l.foldl ingS (f,0)
def ingR (S:Sv) (k:List UInt8) (l:List It) (now:Int):Int × Int × Sv:=match fnd S k with
 | none => (0,4,S)
 | some f => if okT now then (if l.all itR then ((ingF f l).2,0,putBy Prod.fst k (k,⟨now,0,(ingF f l).1.ps⟩) S) else (0,1,S)) else (0,1,S)
theorem ingF_step (f:Fd) (l:List It) (k:Nat) (x:It) (h:l[k]? = some x):ingF f (l.take (k + 1)) = ingS (ingF f (l.take k)) x:=by
 unfold ingF
 rw [List.take_add_one,h,List.foldl_append];rfl
theorem ingF_nb (f:Fd) (l:List It):(ingF f l).1.pol = f.pol ∧ (ingF f l).1.fai = f.fai ∧ (ingF f l).2 ≤ l.length:=by
 unfold ingF
 have:∀ (l:List It) (s:Fd × Nat),(l.foldl ingS s).1.pol = s.1.pol ∧ (l.foldl ingS s).1.fai = s.1.fai ∧ (l.foldl ingS s).2 ≤ s.2 + l.length:=by
  intro l
  induction l with
  | nil => intro s;simp
  | cons x r ih =>
   intro s
   obtain ⟨h1,h2,h3⟩:=ih (ingS s x)
   rw [List.foldl_cons]
   refine ⟨h1.trans ?_,h2.trans ?_,Nat.le_trans h3 ?_⟩
   · unfold ingS addF;dsimp only;split <;> rfl
   · unfold ingS addF;dsimp only;split <;> rfl
   · unfold ingS;dsimp only [List.length_cons];split <;> omega
 simpa using this l (f,0)
theorem store_ingest (b mb:Nat) (T:List Pl) (k:List UInt8) (hk:k.length ≤ maxLen) (v:Value) (l:List It) (now:Int) (w:World) (h:StX w b mb T) (hs:∀ w',Only (allX b mb T) w w' → SlAt w' w'.heap.size v 3 l.length (itL l)) (hl:l.length ≤ 1000000) (hx:∀ x ∈ l,x.Len):
 Calls Tryz.prog 131 #[.pointer (some ⟨b,0,none⟩),.string ⟨k.toArray⟩,v,.int .i64 now] w fun e w' =>
  e = .returned (.tuple #[.int .i64 (ingR (prT T) k l now).1,.int .i64 (ingR (prT T) k l now).2.1]) ∧ ∃ T',Op17 w w' b mb T T' ∧ prT T' = (ingR (prT T) k l now).2.2:=by
 obtain ⟨A,c,rfl⟩:=(hs w oz).shape
 have CF:=Hd (store_find b mb T k hk now w h)
 have CI:=Hd (fun w' (ho:Only [] w w') => containsFunc_it _ l w' (hs w' ho.of0) hl hx)
 have HX:=Hd h
 have hfn:fnd (prT T) k = (fT T k).map (·.fd):=fnd_fT T k
 cases hf:fT T k with
 | none =>
  rw [fndV_none now hf] at CF
  have hR:ingR (prT T) k l now = (0,4,prT T):=by unfold ingR;rw [hfn,hf];rfl
  rw [hR]
  clear h hs
  go_enter Tryz.func131,Tryz.ntmps131
  go_wp2_with fail
  refine CF.out.mono ?_
  rintro e w1 ⟨rfl,rfl⟩
  go_wp2_with fail
  go_ret2
  exact ⟨rfl,T,Op17.same HX.out oz,rfl⟩
 | some t =>
 cases hn:okT now with
 | false =>
  rw [fndV_bad hf hn] at CF
  have hR:ingR (prT T) k l now = (0,1,prT T):=by unfold ingR;rw [hfn,hf];show (if okT now = true then _ else _) = _;rw [hn];rfl
  rw [hR]
  clear h hs
  go_enter Tryz.func131,Tryz.ntmps131
  go_wp2_with fail
  refine CF.out.mono ?_
  rintro e w1 ⟨rfl,rfl⟩
  go_wp2_with fail
  go_ret2
  exact ⟨rfl,T,Op17.same HX.out oz,rfl⟩
 | true =>
 rw [fndV_ok hf hn] at CF
 cases ha:l.all itR with
 | false =>
  have hR:ingR (prT T) k l now = (0,1,prT T):=by unfold ingR;rw [hfn,hf];show (if okT now = true then _ else _) = _;rw [hn,if_pos rfl,ha];rfl
  rw [hR]
  simp only [ha] at CI
  clear h hs
  go_enter Tryz.func131,Tryz.ntmps131
  go_wp2_with fail
  refine CF.out.mono ?_
  rintro e w1 ⟨rfl,rfl⟩
  go_wp2_with fail
  refine (CI.out _ oz).mono ?_
  rintro e w2 ⟨rfl,ho2⟩
  have HO2:=Hd ho2
  clear ho2
  go_wp2_with fail
  go_ret2
  exact ⟨rfl,T,Op17.same HX.out HO2.out,rfl⟩
 | true =>
 have hR:ingR (prT T) k l now = (((ingF t.fd l).2:Int),(0:Int),putBy Prod.fst k (k,⟨now,0,(ingF t.fd l).1.ps⟩) (prT T)):=by unfold ingR;rw [hfn,hf];show (if okT now = true then _ else _) = _;rw [hn,if_pos rfl,ha];rfl
 rw [hR]
 simp only [ha] at CI
 have ht:=(fT_mem hf).1
 have HS:=Hd (fun w' (ho:Only t.own w w') => hs w' (ho.mono fun x hx => .inl (own_mem ht hx)))
 have HF:=Hd (h.fds t ht)
 obtain ⟨hn0,hn1⟩:=okT_iff.1 hn
 have HXL:=Hd hx
 clear h hs hR hx
 go_enter Tryz.func131,Tryz.ntmps131
 go_wp2_with fail
 refine CF.out.mono ?_
 rintro e w1 ⟨rfl,rfl⟩
 go_wp2_with fail
 refine (CI.out _ oz).mono ?_
 rintro e w2 ⟨rfl,ho2⟩
 have HO2:=Hd ho2
 clear ho2
 go_wp2_with fail
 go_loopw [12,29] (fun cn i wr => ∃ (j:Nat) (v:Value) (s:Fd × Nat),j ≤ l.length ∧ i = .int .i64 j ∧ cn = .int .i64 s.2 ∧ Hid (ingF t.fd (l.take j) = s) ∧ s.2 ≤ j ∧ Hid (FdAt wr t.p t.m v s.1) ∧ Hid (Only t.own w wr) ∧ Hid (NewOf w t.v v)) (fun _ i _ => l.length - (intOf i).toNat)
 case atStart => exact ⟨0,t.v,(t.fd,0),by omega,rfl,rfl,Hd rfl,by simp,Hd (HF.out.only HO2.out (by simp) (by simp) (by simp)),Hd HO2.out.of0,Hd (NewOf.refl _ _)⟩
 case round =>
  obtain ⟨j,v,s,hj,rfl,rfl,hst,hsj,hfd,ho,hnw⟩:=hrel
  by_cases hlt:j < l.length
  · have hlt':(j:Int) < (l.length:Int):=by omega
    have hk1:=List.getElem?_eq_getElem hlt
    obtain ⟨x,hx⟩:∃ x,l[j] = x:=⟨_,rfl⟩
    have hxl:=HXL.out l[j] (List.getElem_mem _)
    rw [hx] at hk1 hxl
    obtain ⟨ab,ao,ac,hv,hab,hc⟩:=(HS.out wr ho.out).at_ (by omega)
    have q0:wr.cell? ⟨ab,ao + j * 3,none⟩ = some (.string ⟨x.id.toArray⟩):=hc (j * 3 + 0) _ (itL_get l j 0 x hk1 (by omega))
    have q1:wr.cell? ⟨ab,ao + j * 3 + 1,none⟩ = some (.string ⟨x.ti.toArray⟩):=hc (j * 3 + 1) _ (itL_get l j 1 x hk1 (by omega))
    have q2:wr.cell? ⟨ab,ao + j * 3 + 2,none⟩ = some (.string ⟨x.li.toArray⟩):=hc (j * 3 + 2) _ (itL_get l j 2 x hk1 (by omega))
    have HT:Hid (ingF t.fd (l.take (j + 1)) = ingS s x):=by show _ = _;rw [ingF_step t.fd l j x hk1,hst.out]
    injection hv with e1 e2 e3
    subst e1;subst e3
    obtain ⟨w2,hw2⟩:∃ w2,wr.alloc (.cells #[.string ⟨x.id.toArray⟩,.string ⟨x.ti.toArray⟩,.string ⟨x.li.toArray⟩] 99) = w2:=⟨_,rfl⟩
    have hO2:Only [] wr w2:=hw2 ▸ oz.alloc _
    obtain ⟨z,hz⟩:∃ z,wr.heap.size = z:=⟨_,rfl⟩
    have hzc:Cells w2 z 99 x.cells:=hw2 ▸ hz ▸ Cells.new wr _ _
    have z0:=hzc.cell (k:=0) rfl
    have z1:=hzc.cell (k:=1) rfl
    have z2:=hzc.cell (k:=2) rfl
    have hF2:=hfd.out.only hO2 (by simp) (by simp) (by simp)
    have CA:=Hd (source_add t.p t.m v s.1 x hxl w2 hF2)
    have HO2:=Hd (ho.out.trans hO2 (by simp))
    have HZ2:=Hd hO2.size
    clear e2 hc hx hk1 hst hO2 hF2 hzc
    go_wp2_with fail
    clear hw2 q0 q1 q2 z0 z1 z2 hz
    refine CA.out.mono ?_
    rintro e w3 ⟨v',rfl,hfd',ho',hn'⟩
    have HFD:=Hd hfd'
    have hsz:w.heap.size ≤ w2.heap.size:=HO2.out.size
    have HO3:Hid (Only t.own w w3):=Hd (HO2.out.trans ho' (by
     intro y hy
     simp only [List.cons_append,List.nil_append,List.mem_cons] at hy
     rcases hy with rfl | rfl | hy
     · left;simp [Pl.own]
     · left;simp [Pl.own]
     · rcases hnw.out y (by simpa [rb] using hy) with h | h
       · left;simp [Pl.own,rb,h]
       · right;exact h))
    have HN3:Hid (NewOf w t.v v'):=Hd (fun g hg => by
     rcases hn' g hg with h | h
     · exact hnw.out g h
     · right;omega)
    clear hfd' ho' hn'
    obtain ⟨f1,n1⟩:=s
    have hsj:n1 ≤ j:=hsj
    cases hb:addB f1 x with
    | true =>
     have HT2:Hid (ingF t.fd (l.take (j + 1)) = (addF f1 x,n1 + 1)):=by show _ = _;rw [HT.out];unfold ingS;dsimp only;rw [hb];rfl
     have hwr:IntKind.i64.wrap ((n1:Int) + 1) = (n1:Int) + 1:=by rw [IntKind.wrap_i64];omega
     clear HT hb
     go_wp2_with fail
     go_roundw
     case rel => exact ⟨j + 1,v',(addF f1 x,n1 + 1),by omega,by go_num,by show _ = Value.int .i64 ((n1 + 1:Nat):Int);go_num,HT2,by show n1 + 1 ≤ _;omega,HFD,HO3,HN3⟩
     case measure => simp [intOf];omega
    | false =>
     have HT2:Hid (ingF t.fd (l.take (j + 1)) = (addF f1 x,n1)):=by show _ = _;rw [HT.out];unfold ingS;dsimp only;rw [hb];rfl
     clear HT hb
     go_wp2_with fail
     go_roundw
     case rel => exact ⟨j + 1,v',(addF f1 x,n1),by omega,by go_num,rfl,HT2,by show n1 ≤ _;omega,HFD,HO3,HN3⟩
     case measure => simp [intOf];omega
  · have hd0:decide ((j:Int) < (l.length:Int)) = false:=by simp;omega
    obtain rfl:j = l.length:=by omega
    have hst2:ingF t.fd l = s:=by have:=hst.out;rwa [List.take_length] at this
    have hfd:=hfd.out
    have p0:=hfd.cells.cell (k:=0) rfl
    have f0:=hfd.cells.frozen 0
    have hlp:=hfd.cells.lt
    obtain ⟨w2,hw2⟩:∃ w2,wr.setCell ⟨t.p,0,none⟩ (.int .i64 now) = w2:=⟨_,rfl⟩
    have c2:Cells w2 t.p 196 _:=hw2 ▸ hfd.cells.set 0 (.int .i64 now)
    have p2:=c2.cell (k:=1) rfl
    have f2:=c2.frozen 1
    have l2:=c2.lt
    obtain ⟨w3,hw3⟩:∃ w3,w2.setCell ⟨t.p,1,none⟩ (.int .i64 0) = w3:=⟨_,rfl⟩
    have c3:Cells w3 t.p 196 [.int .i64 now,.int .i64 0,v,.map (some t.m)]:=hw3 ▸ c2.set 1 (.int .i64 0)
    have ho3:Only [t.p] wr w3:=hw3 ▸ (hw2 ▸ oz.setCell (p:=⟨t.p,0,none⟩) (.inl (by simp)) _).setCell (p:=⟨t.p,1,none⟩) (.inl (by simp)) _
    have hvp:=hfd.vp
    have hpm:=hfd.pm
    have hfd3:FdAt w3 t.p t.m v ⟨now,0,s.1.ps⟩:=by
     refine ⟨c3,own_keep hfd.row ho3 (by simpa using hvp),hfd.map.only ho3 (by simpa using fun e => hpm e.symm),hfd.cap,?_⟩
     exact ⟨by show -1 ≤ now;omega,by show now ≤ _;omega,by show (0:Int) ≤ 0;omega,by show (0:Int) ≤ _;omega⟩
    have HP:=Hd (HX.out.put (t':=⟨t.nm,⟨now,0,s.1.ps⟩,t.p,t.m,v⟩) hf rfl rfl rfl hfd3 (ho.out.trans ho3 (fun y hy => .inl (by simp at hy;subst hy;simp [Pl.own]))) hnw.out)
    have HK:=Hd ((fT_mem hf).2)
    have HS2:=Hd hst2
    clear hst hst2 hfd3 ho3 hvp hpm c2 c3 hfd
    go_wp2_with fail
    go_ret2
    refine ⟨by rw [HS2.out];rfl,_,HP.out,?_⟩
    rw [HS2.out]
    show prT (putBy Pl.nm k _ T) = putBy Prod.fst k _ (prT T)
    unfold prT
    rw [putBy_map Pl.nm (fun t => (t.nm,t.fd)) Prod.fst (fun _ => rfl),HK.out]
theorem nil_post0 (c:Nat) (w:World):(binOp .eql 32 (.slice none 0 c) (.slice none 0 0)).run Tryz.prog w = .ok (.bool true) w:=by kernel_rfl
theorem nil_post1 (A:Addr) (n c:Nat) (w:World):(binOp .eql 32 (.slice (some A) n c) (.slice none 0 0)).run Tryz.prog w = .ok (.bool false) w:=by kernel_rfl
attribute [local go_sem] nil_post0 nil_post1
theorem sl_nil {w:World} {B sz n c:Nat} {xs:List Value} (h:SlAt w B (.slice none n c) sz n xs) (hsz:0 < sz):n = 0:=by
 rcases Nat.eq_zero_or_pos n with h0 | h0
 · exact h0
 · obtain ⟨b,o,c',hv,_⟩:=h.at_ (Nat.mul_pos h0 hsz);injection hv with hv;cases hv
theorem clone_post (v:Value) (l:List Po) (B:Nat) (w:World) (hB:B ≤ w.heap.size) (hl:l.length ≤ 1000000000) (hs:SlAt w B v 5 l.length (poL l)):
 Calls Tryz.prog 136 #[v] w fun e w' => ∃ v',e = .returned v' ∧ w'.ownsRow w.heap.size 101 5 v' l.length (poL l) ∧ Only [] w w':=by
 obtain ⟨i0,hi0,hz0,hz1,hz2⟩:=info_parts info_post
 obtain ⟨A,c,rfl⟩:=hs.shape
 cases A with
 | none =>
  have h0:l = []:=List.eq_nil_of_length_eq_zero (sl_nil hs (by omega))
  subst h0
  clear hs
  go_enter Tryz.func136,Tryz.ntmps136
  go_wp2_with fail
  go_ret
  exact ⟨_,rfl,World.ownsRow_nil _ _ _ _,Only.refl _ _⟩
 | some A =>
  have HS:=Hd hs
  clear hs
  go_enter Tryz.func136,Tryz.ntmps136
  go_wp2_with (at_builtin
               refine wpList_appX rfl _ _ 32 rfl w.heap.size 101 i0 _ 5 64 Tryz.underlying32 hi0 hz0 hz1 hz2 rfl (by decide) (w.alloc (.cells #[] 101)) (.slice (some ⟨w.heap.size,0,none⟩) 0 0) 0 [] rfl (World.ownsRow_lit (base:=w.heap.size) (e:=101) (size:=5) w #[] 0 (Nat.le_refl _) (by decide) rfl) B l.length (poL l) A c rfl (HS.out.only ((Only.refl [] w).alloc _) hB (by simp)) (poL_one l) (by simp only [maxLen];omega) (by omega) (by simp) ?_
               intro v' w' hown' hgrow)
  go_ret
  exact ⟨_,rfl,by simpa using hown',((Only.refl [] w).alloc _).own (World.ownsRow_lit (base:=w.heap.size) (e:=101) (size:=5) w #[] 0 (Nat.le_refl _) (by decide) rfl) hgrow (Nat.le_refl _)⟩
theorem sub_post {w:World} {B0 g n cap fr m:Nat} {ps:List Po} (h:w.ownsRow B0 101 5 (.slice (some ⟨g,0,none⟩) n cap) n (poL ps)) (hn:ps.length = n) (hm:fr + m ≤ n) (c:Nat) (hc:m ≤ c) (hcm:c ≤ maxLen):
 SlAt w w.heap.size (.slice (some ⟨g,fr * 5,none⟩) m c) 5 m (poL ((ps.drop fr).take m)):=by
 have hl:((ps.drop fr).take m).length = m:=by rw [List.length_take,List.length_drop];omega
 have hg:=(h.lt g rfl).2
 refine ⟨by rw [poL_length,hl],_,_,rfl,hc,hcm,fun _ => ⟨g,fr * 5,rfl,hg,fun j u hu => ?_⟩⟩
 have hj:j < m * 5:=by
  have:=(List.getElem?_eq_some_iff.1 hu).1
  rwa [poL_length,hl] at this
 have e:(poL ps)[fr * 5 + j]? = some u:=by
  have hi:j / 5 < ((ps.drop fr).take m).length:=by rw [hl];omega
  have h1:=List.getElem?_eq_getElem hi
  have hj5:j % 5 < 5:=Nat.mod_lt _ (by omega)
  have h2:=poL_get _ (j / 5) (j % 5) _ h1 hj5
  rw [show j / 5 * 5 + j % 5 = j from by omega,hu] at h2
  have h3:ps[fr + j / 5]? = some ((ps.drop fr).take m)[j / 5]:=by
   rw [List.getElem_take,List.getElem_drop,List.getElem?_eq_getElem (by rw [hl] at hi;omega)]
  have h4:=poL_get ps (fr + j / 5) (j % 5) _ h3 hj5
  rw [show (fr + j / 5) * 5 + j % 5 = fr * 5 + j from by omega,← h2] at h4
  exact h4
 have:=h.cells (g:=g) rfl (fr * 5 + j) u e
 rw [Addr.add_lit,Nat.zero_add] at this
 exact this
def pgF (ps:List Po) (after:Int):List Po:=(ps.drop (min (max after 0).toNat ps.length)).take 50
def lsV (o:Option Pl) (after:Int):List Po:=o.elim [] (fun t => pgF t.fd.ps after)
theorem store_list (b mb:Nat) (T:List Pl) (k:List UInt8) (hk:k.length ≤ maxLen) (after:Int) (w:World) (h:StX w b mb T):
 Calls Tryz.prog 68 #[.pointer (some ⟨b,0,none⟩),.string ⟨k.toArray⟩,.int .i64 after] w fun e w' => ∃ v',e = .returned (.tuple #[v',.int .i64 (if (fT T k).isSome = true then 0 else 4)]) ∧ w'.ownsRow w.heap.size 101 5 v' (lsV (fT T k) after).length (poL (lsV (fT T k) after)) ∧ Only [] w w':=by
 have CF:=Hd (store_find b mb T k hk 0 w h)
 cases hf:fT T k with
 | none =>
  rw [fndV_none 0 hf] at CF
  go_enter Tryz.func68,Tryz.ntmps68
  go_wp2_with fail
  refine CF.out.mono ?_
  rintro e w1 ⟨rfl,rfl⟩
  go_wp2_with fail
  go_ret2
  exact ⟨_,rfl,World.ownsRow_nil _ _ _ _,Only.refl _ _⟩
 | some t =>
  rw [fndV_ok hf (by decide)] at CF
  have hfd:=h.fds t (fT_mem hf).1
  have p2:=hfd.cells.cell (k:=2) rfl
  have hcap:=hfd.cap
  obtain ⟨A,c,hv⟩:=(SlAt.of_own hfd.row).shape
  have hrow:=hfd.row
  rw [hv] at p2 hrow
  obtain ⟨n,hn⟩:∃ n,t.fd.ps.length = n:=⟨_,rfl⟩
  rw [hn] at p2 hrow hcap
  obtain ⟨fr,hfr⟩:∃ fr:Nat,min (max after 0) (n:Int) = fr:=⟨(min (max after 0) (n:Int)).toNat,by omega⟩
  have hfrn:fr ≤ n:=by omega
  obtain ⟨tt,hto⟩:∃ tt:Nat,min (n:Int) ((fr:Int) + 50) = tt:=⟨(min (n:Int) ((fr:Int) + 50)).toNat,by omega⟩
  have hft:fr ≤ tt:=by omega
  have htn:tt ≤ n:=by omega
  have hpg:lsV (some t) after = (t.fd.ps.drop fr).take (tt - fr):=by
   show (t.fd.ps.drop (min (max after 0).toNat t.fd.ps.length)).take 50 = _
   rw [hn,show min (max after 0).toNat n = fr from by omega]
   by_cases h50:fr + 50 ≤ n
   · rw [show tt - fr = 50 from by omega]
   · rw [List.take_of_length_le (by rw [List.length_drop];omega),List.take_of_length_le (by rw [List.length_drop];omega)]
  rw [hpg]
  have hll:((t.fd.ps.drop fr).take (tt - fr)).length = tt - fr:=by rw [List.length_take,List.length_drop];omega
  have hnc:n ≤ c ∧ c ≤ maxLen:=by
   obtain ⟨_,A',c',e,h1,h2,_⟩:=SlAt.of_own hrow
   injection e with e1 e2 e3
   subst e3
   exact ⟨h1,h2⟩
  have hwr:IntKind.i64.wrap ((fr:Int) + 50) = (fr:Int) + 50:=by rw [IntKind.wrap_i64];omega
  have i1:(fr:Int) ≤ (tt:Int):=by omega
  have i2:(tt:Int) ≤ (c:Int):=by omega
  have i3:(0:Int) ≤ (fr:Int):=by omega
  have hrow1:w.drew.ownsRow 0 101 5 (.slice A n c) n (poL t.fd.ps):=hrow
  have HO1:Hid (Only [] w w.drew):=Hd oz.drew
  cases A with
  | none =>
   have h0:n = 0:=sl_nil (SlAt.of_own hrow) (by omega)
   subst h0
   obtain rfl:fr = 0:=by omega
   obtain rfl:tt = 0:=by omega
   have hm0:min (max after 0) 0 = 0:=by omega
   have hps:t.fd.ps = []:=List.eq_nil_of_length_eq_zero hn
   have hc0:c = 0:=by
    rcases hrow.2 with ⟨h1,_⟩ | ⟨g,cap,cur,h1,_⟩
    · injection h1
    · cases h1
   subst hc0
   have CC:=Hd (clone_post (.slice none 0 0) [] w.drew.heap.size w.drew (Nat.le_refl _) (by simp) (SlAt.of_own (World.ownsRow_nil w.drew 0 101 5)))
   have hw50:IntKind.i64.wrap 50 = 50:=by decide
   have hm1:min (0:Int) 50 = 0:=by decide
   have HPS:=Hd hps
   clear h hfd hpg hrow hn hv hrow1 hps
   go_enter Tryz.func68,Tryz.ntmps68
   go_wp2_with fail
   refine CF.out.mono ?_
   rintro e w2 ⟨rfl,rfl⟩
   go_wp2_with fail
   go_still_tail 14,(by kernel_rfl)
   change wpList _ _ _ _ _ w.drew
   go_wp2_with fail
   refine CC.out.mono ?_
   rintro e w3 ⟨v',rfl,hown,ho3⟩
   have HOW:=Hd hown
   have HO3:=Hd (HO1.out.tr ho3)
   clear hown ho3
   go_wp2_with fail
   go_ret2
   exact ⟨v',rfl,HOW.out,HO3.out⟩
  | some A =>
   obtain ⟨g,hg⟩:∃ g,A = ⟨g,0,none⟩:=by
    rcases hrow.2 with ⟨h1,_⟩ | ⟨g,cap,cur,h1,_⟩
    · cases h1
    · injection h1 with h1;injection h1 with h1;exact ⟨g,h1⟩
   subst hg
   obtain ⟨Ao,hAo⟩:∃ Ao:Option Addr,(if c = fr then some ⟨g,0,none⟩ else some ⟨g,fr * 5,none⟩) = Ao:=⟨_,rfl⟩
   have hsl:SlAt w.drew w.drew.heap.size (.slice Ao (tt - fr) (c - fr)) 5 (tt - fr) (poL ((t.fd.ps.drop fr).take (tt - fr))):=by
    by_cases hcf:c = fr
    · rw [if_pos hcf] at hAo
      subst hAo
      have h0:tt - fr = 0:=by omega
      refine ⟨by rw [poL_length,hll],_,_,rfl,by omega,by omega,fun h => by omega⟩
    · rw [if_neg hcf] at hAo
      subst hAo
      exact sub_post hrow1 hn (by omega) (c - fr) (by omega) (by omega)
   have CC:=Hd (clone_post (.slice Ao (tt - fr) (c - fr)) ((t.fd.ps.drop fr).take (tt - fr)) w.drew.heap.size w.drew (Nat.le_refl _) (by omega) (by rw [hll];exact hsl))
   clear h hfd hpg hrow hn hv hrow1 hsl
   go_enter Tryz.func68,Tryz.ntmps68
   go_wp2_with fail
   refine CF.out.mono ?_
   rintro e w2 ⟨rfl,rfl⟩
   go_wp2_with fail
   go_still_tail 14,(by kernel_rfl)
   change wpList _ _ _ _ _ w.drew
   go_wp2_with fail
   refine CC.out.mono ?_
   rintro e w3 ⟨v',rfl,hown,ho3⟩
   have HOW:=Hd hown
   have HO3:=Hd (HO1.out.tr ho3)
   clear hown ho3 hAo
   go_wp2_with fail
   go_ret2
   exact ⟨v',rfl,by have:=HOW.out;rw [hll] at this;exact this,HO3.out⟩
def subS (S:Sv) (k:List UInt8):Int × Sv:=if nmL k = true then (if (fnd S k).isSome = true then (5,S) else if S.length = 20 then (11,S) else (0,insBy Prod.fst (k,⟨-1,0,[]⟩) S)) else (3,S)
def unS (S:Sv) (k:List UInt8):Int × Sv:=if (fnd S k).isSome = true then (0,delBy Prod.fst k S) else (4,S)
def failS (S:Sv) (k:List UInt8) (now:Int):Int × Sv:=match fnd S k with
 | none => (4,S)
 | some f => if okT now then (0,putBy Prod.fst k (k,failF f now) S) else (1,S)
def markS (S:Sv) (k id:List UInt8):Int × Sv:=match fnd S k with
 | none => (4,S)
 | some f => match idx f.ps id with
  | none => (4,S)
  | some i => (0,putBy Prod.fst k (k,markF f i) S)
def listS (S:Sv) (k:List UInt8) (after:Int):List Po × Int:=match fnd S k with
 | none => ([],4)
 | some f => (pgF f.ps after,0)
def OpS (w w':World) (b:Nat) (O:List Nat) (S:Sv):Prop:=∃ O',St w' b O' S ∧ Only O w w' ∧ ∀ x ∈ O',x ∈ O ∨ w.heap.size ≤ x
theorem Op17.ops {w w':World} {b mb:Nat} {T T':List Pl} {S:Sv} (h:Op17 w w' b mb T T') (hS:prT T' = S):OpS w w' b (allX b mb T) S:=⟨_,⟨mb,T',h.st,rfl,hS.symm⟩,h.ho,h.new⟩
theorem St.bw {w:World} {b:Nat} {O:List Nat} {S:Sv} (h:St w b O S):∀ x ∈ O,x < w.heap.size:=by
 obtain ⟨mb,T,h,rfl,rfl⟩:=h
 exact h.lts
theorem st_new (w:World):Calls Tryz.prog 59 #[] w fun e w' => ∃ b O,e = .returned (.pointer (some ⟨b,0,none⟩)) ∧ St w' b O [] ∧ (∀ x ∈ O,w.heap.size ≤ x) ∧ Only [] w w':=
 (store_new w).mono fun e w' ⟨h1,h2,h3⟩ => ⟨_,_,h1,⟨_,[],h2,rfl,rfl⟩,by intro x hx;simp [allX] at hx;omega,h3⟩
theorem st_sub (b:Nat) (O:List Nat) (S:Sv) (k:List UInt8) (hk:k.length ≤ maxLen) (w:World) (h:St w b O S):
 Calls Tryz.prog 193 #[.pointer (some ⟨b,0,none⟩),.string ⟨k.toArray⟩] w fun e w' => e = .returned (.int .i64 (subS S k).1) ∧ OpS w w' b O (subS S k).2:=by
 obtain ⟨mb,T,h,rfl,rfl⟩:=h
 have hfn:(fnd (prT T) k).isSome = (fT T k).isSome:=by rw [show fnd (prT T) k = _ from fnd_fT T k];simp
 have e1:(subS (prT T) k).1 = subE T k:=by
  unfold subS subE
  rw [hfn,show (prT T).length = T.length from List.length_map _]
  split
  · split
    · rfl
    · split <;> rfl
  · rfl
 have e2:(subS (prT T) k).2 = if subE T k = 0 then insBy Prod.fst (k,(⟨-1,0,[]⟩:Fd)) (prT T) else prT T:=by
  unfold subS subE
  rw [hfn,show (prT T).length = T.length from List.length_map _]
  split
  · split
    · rfl
    · split <;> rfl
  · rfl
 refine (store_sub b mb T k hk w h).mono fun e w' ⟨h1,T',h2,h3⟩ => ⟨by rw [h1];show _ = Ending.returned (.int .i64 (subS (prT T) k).1);rw [e1],?_⟩
 show OpS w w' b _ (subS (prT T) k).2
 rw [e2]
 exact h2.ops h3
theorem prT_put (T:List Pl) (k:List UInt8) (t:Pl) (f:Fd) (ht:t.nm = k):prT (putBy Pl.nm k (withF t f) T) = putBy Prod.fst k (k,f) (prT T):=by
 unfold prT
 rw [putBy_map Pl.nm (fun t => (t.nm,t.fd)) Prod.fst (fun _ => rfl)]
 rw [show (withF t f).nm = k from ht,show (withF t f).fd = f from rfl]
theorem st_un (b:Nat) (O:List Nat) (S:Sv) (k:List UInt8) (hk:k.length ≤ maxLen) (w:World) (h:St w b O S):
 Calls Tryz.prog 194 #[.pointer (some ⟨b,0,none⟩),.string ⟨k.toArray⟩] w fun e w' => e = .returned (.int .i64 (unS S k).1) ∧ OpS w w' b O (unS S k).2:=by
 obtain ⟨mb,T,h,rfl,rfl⟩:=h
 have hfn:fnd (prT T) k = (fT T k).map (·.fd):=fnd_fT T k
 refine (store_unsub b mb T k hk w h).mono fun e w' ⟨h1,h2⟩ => ?_
 show e = .returned (.int .i64 (unS (prT T) k).1) ∧ OpS w w' b _ (unS (prT T) k).2
 unfold unS
 rw [hfn]
 unfold unT at h2
 cases hf:fT T k with
 | none =>
  rw [hf] at h1 h2
  exact ⟨by rw [h1];rfl,h2.ops rfl⟩
 | some t =>
  rw [hf] at h1 h2
  exact ⟨by rw [h1];rfl,h2.ops (delBy_map Pl.nm (fun t => (t.nm,t.fd)) Prod.fst (fun _ => rfl) k T)⟩
theorem st_fail (b:Nat) (O:List Nat) (S:Sv) (k:List UInt8) (hk:k.length ≤ maxLen) (now:Int) (w:World) (h:St w b O S):
 Calls Tryz.prog 130 #[.pointer (some ⟨b,0,none⟩),.string ⟨k.toArray⟩,.int .i64 now] w fun e w' => e = .returned (.int .i64 (failS S k now).1) ∧ OpS w w' b O (failS S k now).2:=by
 obtain ⟨mb,T,h,rfl,rfl⟩:=h
 have hfn:fnd (prT T) k = (fT T k).map (·.fd):=fnd_fT T k
 refine (store_fail b mb T k hk now w h).mono fun e w' ⟨h1,h2⟩ => ?_
 show e = .returned (.int .i64 (failS (prT T) k now).1) ∧ OpS w w' b _ (failS (prT T) k now).2
 unfold failS
 rw [hfn]
 unfold failT at h2
 cases hf:fT T k with
 | none =>
  rw [hf] at h1 h2
  exact ⟨h1,h2.ops rfl⟩
 | some t =>
  rw [hf] at h1 h2
  simp only [Option.map_some]
  unfold fndE at h1
  dsimp only at h1 h2
  cases hn:okT now with
  | false => rw [hn] at h1 h2;exact ⟨h1,h2.ops rfl⟩
  | true => rw [hn] at h1 h2;exact ⟨h1,h2.ops (prT_put T k t _ (fT_mem hf).2)⟩
theorem st_mark (b:Nat) (O:List Nat) (S:Sv) (k:List UInt8) (hk:k.length ≤ maxLen) (id:List UInt8) (hid:id.length ≤ maxLen) (w:World) (h:St w b O S):
 Calls Tryz.prog 195 #[.pointer (some ⟨b,0,none⟩),.string ⟨k.toArray⟩,.string ⟨id.toArray⟩] w fun e w' => e = .returned (.int .i64 (markS S k id).1) ∧ OpS w w' b O (markS S k id).2:=by
 obtain ⟨mb,T,h,rfl,rfl⟩:=h
 have hfn:fnd (prT T) k = (fT T k).map (·.fd):=fnd_fT T k
 refine (store_mark b mb T k hk id hid w h).mono fun e w' ⟨h1,h2⟩ => ?_
 show e = .returned (.int .i64 (markS (prT T) k id).1) ∧ OpS w w' b _ (markS (prT T) k id).2
 unfold markS
 rw [hfn]
 unfold markT at h2
 unfold markE at h1
 cases hf:fT T k with
 | none =>
  rw [hf] at h1 h2
  exact ⟨h1,h2.ops rfl⟩
 | some t =>
  rw [hf] at h1 h2
  simp only [Option.map_some]
  dsimp only at h1 h2
  cases hi:idx t.fd.ps id with
  | none => rw [hi] at h1 h2;exact ⟨h1,h2.ops rfl⟩
  | some i => rw [hi] at h1 h2;exact ⟨h1,h2.ops (prT_put T k t _ (fT_mem hf).2)⟩
theorem st_ingest (b:Nat) (O:List Nat) (S:Sv) (k:List UInt8) (hk:k.length ≤ maxLen) (v:Value) (l:List It) (now:Int) (w:World) (h:St w b O S) (hs:∀ w',Only O w w' → SlAt w' w'.heap.size v 3 l.length (itL l)) (hl:l.length ≤ 1000000) (hx:∀ x ∈ l,x.Len):
 Calls Tryz.prog 131 #[.pointer (some ⟨b,0,none⟩),.string ⟨k.toArray⟩,v,.int .i64 now] w fun e w' =>
  e = .returned (.tuple #[.int .i64 (ingR S k l now).1,.int .i64 (ingR S k l now).2.1]) ∧ OpS w w' b O (ingR S k l now).2.2:=by
 obtain ⟨mb,T,h,rfl,rfl⟩:=h
 exact (store_ingest b mb T k hk v l now w h hs hl hx).mono fun e w' ⟨h1,T',h2,h3⟩ => ⟨h1,h2.ops h3⟩
theorem st_list (b:Nat) (O:List Nat) (S:Sv) (k:List UInt8) (hk:k.length ≤ maxLen) (after:Int) (w:World) (h:St w b O S):
 Calls Tryz.prog 68 #[.pointer (some ⟨b,0,none⟩),.string ⟨k.toArray⟩,.int .i64 after] w fun e w' => ∃ v',e = .returned (.tuple #[v',.int .i64 (listS S k after).2]) ∧ w'.ownsRow w.heap.size 101 5 v' (listS S k after).1.length (poL (listS S k after).1) ∧ Only [] w w':=by
 obtain ⟨mb,T,h,rfl,rfl⟩:=h
 have hfn:fnd (prT T) k = (fT T k).map (·.fd):=fnd_fT T k
 refine (store_list b mb T k hk after w h).mono fun e w' ⟨v',h1,h2,h3⟩ => ⟨v',?_,?_,h3⟩
 · show e = .returned (.tuple #[v',.int .i64 (listS (prT T) k after).2])
   unfold listS
   rw [hfn,h1]
   cases fT T k <;> rfl
 · show w'.ownsRow _ _ 5 v' (listS (prT T) k after).1.length (poL (listS (prT T) k after).1)
   unfold listS
   rw [hfn]
   cases hf:fT T k <;> rw [hf] at h2 <;> exact h2
end Go.Proofs.YtcjfmildalappaaGreat
namespace Go.Proofs.YtcjfmildalappaaGreat
open Go.RowKit Go.Maps
theorem StX.keys {w:World} {b mb:Nat} {T:List Pl} (h:StX w b mb T):∃ D,w.ownsMap Tryz.prog 9 hv mb T.length D ∧ size D = T.length ∧ ∀ ss:List (List UInt8),ss.Perm (strKeys D) → ss.mergeSort (fun x y => decide (x ≤ y)) = T.map Pl.nm:=by
 refine h.map.keys (T.map Pl.nm) (List.pairwise_map.2 h.srt) fun k => ?_
 unfold ptT fT
 rw [Option.isSome_map,List.find?_isSome,List.mem_map]
 constructor
 · rintro ⟨t,ht,e⟩;exact ⟨t,ht,by simpa using e⟩
 · rintro ⟨t,ht,e⟩;exact ⟨t,ht,by simpa using e⟩
theorem encStr_eq:(Go.Proofs.encStr:List UInt8 → Value) = fun s => .string ⟨s.toArray⟩:=by funext s;rfl
theorem store_feeds (b mb:Nat) (T:List Pl) (w:World) (h:StX w b mb T):
 Calls Tryz.prog 69 #[.pointer (some ⟨b,0,none⟩)] w fun e w' => ∃ v,e = .returned v ∧ w'.ownsRow w.heap.size 9 1 v T.length (svs (T.map Pl.nm)) ∧ Only [] w w':=by
 obtain ⟨D,ho,hs,hk⟩:=h.keys
 have c0:=h.cells.cell (k:=0) rfl
 have hcap:=h.cap
 have CK:=Hd (callsIn_wide.1 (Tryz.maps_Keys_138 (some mb) w))
 have CS:=Hd (callsIn_wide.1 (Tryz.slices_Sorted_keys_137_138 mb T.length D hv w ho (by rw [hs];unfold maxLen;omega) (by rw [hs];omega)))
 have HK:=Hd hk
 clear h ho hs hk
 go_enter Tryz.func69,Tryz.ntmps69
 go_wp2_with fail
 refine CK.out.mono ?_
 rintro e w1 ⟨rfl,rfl⟩
 go_wp2_with fail
 refine CS.out.mono ?_
 rintro e w2 ⟨v,ss,rfl,hp,hown,_,hb⟩
 have e1:ss.mergeSort (fun x y => decide (x ≤ y)) = T.map Pl.nm:=HK.out ss hp
 have e2:ss.length = T.length:=by have:=congrArg List.length e1;rw [List.length_mergeSort,List.length_map] at this;exact this
 rw [e1,e2,encStr_eq] at hown
 have HO:Hid (Only [] w w2):=Hd (((Only.refl [] w).alloc _).tr0 (Only.of_below hb))
 have HW:Hid (w2.ownsRow w.heap.size 9 1 v T.length (svs (T.map Pl.nm))):=Hd (own_low hown (by simp))
 clear hown hb e1 e2 hp CS CK HK
 go_wp2_with fail
 go_ret
 exact ⟨_,rfl,HW.out,HO.out⟩
end Go.Proofs.YtcjfmildalappaaGreat
