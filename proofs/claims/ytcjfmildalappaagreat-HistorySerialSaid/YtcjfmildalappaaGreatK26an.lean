/-
  Contracts; each theorem bears its own conditions.
-/
import Derived.Test.YtcjfmildalappaaGreatK26ab
import Derived.Test.YtcjfmildalappaaGreatK26ah
import Derived.Test.YtcjfmildalappaaGreatK26ai
set_option linter.all false
set_option maxRecDepth 100000
set_option maxHeartbeats 8000000
namespace Go.Proofs.YtcjfmildalappaaGreat
open Go.RowKit
structure Fd where
 pol:Int
 fai:Int
 ps:List Po
def idx (ps:List Po) (k:List UInt8):Option Nat:=ps.findIdx? (fun x => x.it.id == k)
def atF (ps:List Po) (k:List UInt8):Option Value:=(idx ps k).map fun i:Nat => Value.int .i64 (i:Int)
structure FdAt (w:World) (p m:Nat) (v:Value) (f:Fd):Prop where
 cells:Cells w p 196 [.int .i64 f.pol,.int .i64 f.fai,v,.map (some m)]
 row:w.ownsRow 0 101 5 v f.ps.length (poL f.ps)
 map:MapF w m f.ps.length (atF f.ps)
 cap:f.ps.length ≤ 200
 nb:-1 ≤ f.pol ∧ f.pol ≤ 1099511627776 ∧ 0 ≤ f.fai ∧ f.fai ≤ 1000
theorem FdAt.pm {w:World} {p m:Nat} {v:Value} {f:Fd} (h:FdAt w p m v f):p ≠ m:=by
 intro e
 obtain ⟨D,⟨es,clock,hh,_⟩,_⟩:=h.map.ex
 have:=h.cells
 unfold Cells at this
 rw [e,hh] at this
 cases this
theorem FdAt.vm {w:World} {p m:Nat} {v:Value} {f:Fd} (h:FdAt w p m v f):v.ownBlock ≠ some m:=by
 intro e
 obtain ⟨D,⟨es,clock,hh,_⟩,_⟩:=h.map.ex
 rcases h.row.2 with ⟨rfl,_⟩ | ⟨g,cap,cur,rfl,_,hg,_⟩
 · simp [Value.ownBlock] at e
 · simp only [Value.ownBlock,Option.some.injEq] at e
   subst e
   rw [hh] at hg
   cases hg
theorem FdAt.vp {w:World} {p m:Nat} {v:Value} {f:Fd} (h:FdAt w p m v f):v.ownBlock ≠ some p:=own_ne_block h.row h.cells (by decide)
theorem FdAt.only {S:List Nat} {w w':World} {p m:Nat} {v:Value} {f:Fd} (h:FdAt w p m v f) (ho:Only S w w') (h1:p ∉ S) (h2:m ∉ S) (h3:∀ g,v.ownBlock = some g → g ∉ S):FdAt w' p m v f:=
 ⟨h.cells.only ho h1,own_keep h.row ho (fun b hb e => h3 b e hb),h.map.only ho h2,h.cap,h.nb⟩
theorem MapF.grown {w w':World} {b n:Nat} {f:List UInt8 → Option Value} {row:Option Nat} (h:MapF w b n f) (hg:w.grownBy w' row) (hne:some b ≠ row):MapF w' b n f:=h.block (hg.block b h.lt hne)
theorem grown_only {w w':World} {v:Value} (h:w.grownBy w' v.ownBlock):Only (rb v) w w':=
 ⟨h.os,h.tape,h.output,h.size,fun k hk hS => h.block k hk (fun e => hS (by simp [rb,← e]))⟩
def addB (f:Fd) (x:It):Bool:=(idx f.ps x.id).isNone && !(f.ps.length == 200)
def addF (f:Fd) (x:It):Fd:=if addB f x then ⟨f.pol,f.fai,f.ps ++ [⟨(f.ps.length:Int) + 1,x,false⟩]⟩ else f
theorem atF_snoc (ps:List Po) (x:Po) (h:idx ps x.it.id = none):atF (ps ++ [x]) = fun k => if k = x.it.id then some (.int .i64 (ps.length:Int)) else atF ps k:=by
 funext k
 unfold atF idx at *
 rw [List.findIdx?_append]
 by_cases hk:k = x.it.id
 · subst hk
   rw [h,if_pos rfl]
   simp
 · rw [if_neg hk]
   have:¬ x.it.id = k:=fun e => hk e.symm
   simp [List.findIdx?_cons,this]
theorem source_add (p m:Nat) (v:Value) (f:Fd) (x:It) (hx:x.Len) (w:World) (h:FdAt w p m v f):
 Calls Tryz.prog 200 #[.pointer (some ⟨p,0,none⟩),.agg #[.string ⟨x.id.toArray⟩,.string ⟨x.ti.toArray⟩,.string ⟨x.li.toArray⟩]] w fun e w' => ∃ v',e = .returned (.bool (addB f x)) ∧ FdAt w' p m v' (addF f x) ∧ Only ([p,m] ++ rb v) w w' ∧ NewOf w v v':=by
 obtain ⟨i0,hi0,hz0,hz1,hz2⟩:=info_parts info_post
 obtain ⟨A,c,rfl⟩:=(SlAt.of_own h.row).shape
 have hcap:=h.cap
 have hplt:=h.cells.lt
 obtain ⟨w1,hw1⟩:∃ w1,w.alloc (.cells #[.string ⟨x.id.toArray⟩,.string ⟨x.ti.toArray⟩,.string ⟨x.li.toArray⟩] 99) = w1:=⟨_,rfl⟩
 obtain ⟨z,hz⟩:∃ z,w.heap.size = z:=⟨_,rfl⟩
 have a1:Cells w1 z 99 x.cells:=hw1 ▸ hz ▸ Cells.new w _ _
 have O1:Only [] w w1:=hw1 ▸ oz.alloc _
 have h1:=h.only O1 (by simp) (by simp) (by simp)
 have p2:=h1.cells.cell (k:=2) rfl
 have p3:=h1.cells.cell (k:=3) rfl
 have q0:=a1.cell (k:=0) rfl
 have hlk:=fun w' (hm:MapF w' m f.ps.length (atF f.ps)) => hm.lookOk (t:=194) (e:=3) (z:=.int .i64 0) Tryz.underlying194 (Tryz.zeroValue3 w') x.id hx.id
 have hl1:=hlk w1.drew (h1.map.block rfl)
 obtain ⟨oi,hoi⟩:∃ oi,idx f.ps x.id = oi:=⟨_,rfl⟩
 have hat:atF f.ps x.id = oi.map (fun i:Nat => Value.int .i64 (i:Int)):=by unfold atF;rw [hoi]
 rw [hat] at hl1
 go_enter Tryz.func200,Tryz.ntmps200
 go_wp2_with fail
 go_region
 have d1:=h1.only (w':=w1.drew) (Only.drew (S:=[]) oz) (by simp) (by simp) (by simp)
 have OD:Only [] w w1.drew:=O1.drew
 have az:Cells w1.drew z 99 x.cells:=a1
 clear hl1 hw1 p2 p3 q0
 cases oi with
 | some i =>
  have hB:addB f x = false:=by unfold addB;rw [hoi];rfl
  have HD:=Hd d1
  have HO:=Hd OD
  clear d1 OD az a1 O1 h1 h
  go_wp2_with fail
  go_ret
  refine ⟨_,by rw [hB];rfl,?_,HO.out.of0,NewOf.refl _ _⟩
  unfold addF
  rw [hB]
  exact HD.out
 | none =>
 have p2:w1.drew.cell? ⟨p,2,none⟩ = _:=d1.cells.cell (k:=2) rfl
 by_cases h200:f.ps.length = 200
 · have hB:addB f x = false:=by unfold addB;rw [h200];simp
   have HD:=Hd d1
   have HO:=Hd OD
   have e2:((f.ps.length:Int) == 200) = true:=by rw [h200];rfl
   clear d1 OD az a1 O1 h1 h
   go_wp2_with fail
   go_ret
   refine ⟨_,by rw [hB];rfl,?_,HO.out.of0,NewOf.refl _ _⟩
   unfold addF
   rw [hB]
   exact HD.out
 have hB:addB f x = true:=by unfold addB;rw [hoi];simp [h200]
 have e2:((f.ps.length:Int) == 200) = false:=by simp;omega
 obtain ⟨w2,hw2⟩:∃ w2,w1.drew = w2:=⟨_,rfl⟩
 rw [hw2] at d1 OD az p2 ⊢
 have p3:w2.cell? ⟨p,3,none⟩ = _:=d1.cells.cell (k:=3) rfl
 have q0:w2.cell? ⟨z,0,none⟩ = _:=az.cell (k:=0) rfl
 obtain ⟨w3,hst,hm3,ht3⟩:=(d1.map.block (w':=w2.drew) rfl).store (t:=194) (e:=3) Tryz.underlying194 (by unfold maxLen;omega) x.id hx.id (.int .i64 (f.ps.length:Int))
 have hO3:=mapTurned_only ht3
 have hns:(atF f.ps x.id).isSome = false:=by rw [hat];rfl
 rw [hns] at hm3
 have hm3:MapF w3 m (f.ps.length + 1) (fun k' => if k' = x.id then some (.int .i64 (f.ps.length:Int)) else atF f.ps k'):=hm3
 have hpm:=d1.pm
 have hvm:=d1.vm
 have hvp:=d1.vp
 have c3:Cells w3 p 196 _:=Cells.only (S:=[m]) (a:=w2.drew) d1.cells hO3 (by simpa using hpm)
 have r3:w3.ownsRow 0 101 5 (.slice A f.ps.length c) f.ps.length (poL f.ps):=own_keep (S:=[m]) (w:=w2.drew) d1.row hO3 (by simpa using hvm)
 have hzm:z ≠ m:=by
  intro e
  obtain ⟨D,⟨es,clock,hh,_⟩,_⟩:=d1.map.ex
  unfold Cells at az
  rw [e,hh] at az
  cases az
 have hzp:z ≠ p:=by omega
 have z3:Cells w3 z 99 x.cells:=Cells.only (S:=[m]) (a:=w2.drew) az hO3 (by simpa using hzm)
 have HZ3:=Hd z3
 have HC3:=Hd c3
 have HR3:=Hd r3
 have HR3d:Hid (w3.drew.ownsRow 0 101 5 (.slice A f.ps.length c) f.ps.length (poL f.ps)):=Hd r3
 have HM3:=Hd hm3
 have HO3:Hid (Only [m] w w3):=Hd ((OD.drew).of0.trans hO3 (by simp))
 clear c3 r3 hm3 z3 ht3 hO3 d1 OD az a1 O1 h1
 go_wp2_with fail
 go_still_tail 11,(by kernel_rfl)
 change wpList _ _ _ _ _ w2.drew
 go_wp2_with fail
 clear hst p2 p3 q0
 have c2:=HC3.out.cell (k:=2) rfl
 have z0:=HZ3.out.cell (k:=0) rfl
 have z1:=HZ3.out.cell (k:=1) rfl
 have z2:=HZ3.out.cell (k:=2) rfl
 have hsz:0 < w3.heap.size:=by have:=HZ3.out.lt;omega
 have hple:=HC3.out.lt
 obtain ⟨n,hn⟩:∃ n,f.ps.length = n:=⟨_,rfl⟩
 rw [hn] at c2 hcap HR3 HR3d hvp hvm HC3
 have hwr:IntKind.i64.wrap ((n:Int) + 1) = (n:Int) + 1:=by rw [IntKind.wrap_i64];omega
 go_region_law (go_loud (refine step_append_lies ((w3.alloc (.cells #[.int .i64 ((n:Int) + 1),.string ⟨x.id.toArray⟩,.string ⟨x.ti.toArray⟩,.string ⟨x.li.toArray⟩,.bool false] 101)).drew) (by rfl) _ _ 32 (by rfl) 0 101 i0 _ 5 64 Tryz.underlying32 hi0 hz0 hz1 hz2 rfl (by omega) (.slice A n c) n (poL f.ps) (by rfl) (World.ownsRow.alloc HR3.out _) ⟨w3.heap.size,0,none⟩ 1 1 [.int .i64 ((n:Int) + 1),.string ⟨x.id.toArray⟩,.string ⟨x.ti.toArray⟩,.string ⟨x.li.toArray⟩,.bool false] (by rfl) (by rfl) (lit4 (Cells.new w3 101 [.int .i64 ((n:Int) + 1),.string ⟨x.id.toArray⟩,.string ⟨x.ti.toArray⟩,.string ⟨x.li.toArray⟩,.bool false])) (by simp [Value.oneCell']) (by omega) (by unfold maxLen;omega) (by omega) (Nat.zero_le _) (w3.heap.size + 1) (by simp) ?_;intro g9 cap9 w9 hown9 hgrow hat9 hgl1;have hc9:Cells w9 p 196 _:=Cells.grown (w:=(w3.alloc (.cells #[.int .i64 ((n:Int) + 1),.string ⟨x.id.toArray⟩,.string ⟨x.ti.toArray⟩,.string ⟨x.li.toArray⟩,.bool false] 101)).drew) (Cells.drew (Cells.alloc HC3.out _)) hgrow hvp;have p9:=hc9.cell (k:=2) rfl;have f9:=hc9.frozen 2;have l9:=hc9.lt))
 all_goals
  have hvm9:(Value.slice (some ⟨g9,0,none⟩) (n + 1) cap9).ownBlock ≠ some p:=own_ne_block hown9 hc9 (by decide)
  have hm9:=(HM3.out.block (w':=(w3.alloc (.cells #[.int .i64 ((n:Int) + 1),.string ⟨x.id.toArray⟩,.string ⟨x.ti.toArray⟩,.string ⟨x.li.toArray⟩,.bool false] 101)).drew) (Below.heap_alloc w3 _ m HM3.out.lt)).grown hgrow (by simpa using fun e => hvm e.symm)
  have HW:Only [p] w9 (w9.setCell ⟨p,2,none⟩ (.slice (some ⟨g9,0,none⟩) (n + 1) cap9)):=oz.setCell (.inl (by simp)) _
  have ho9:Only ([p,m] ++ rb (.slice A n c)) w w9:=(((HO3.out.alloc _).drew).mono (by simp)).trans (w:=(w3.alloc (.cells #[.int .i64 ((n:Int) + 1),.string ⟨x.id.toArray⟩,.string ⟨x.ti.toArray⟩,.string ⟨x.li.toArray⟩,.bool false] 101)).drew) (grown_only hgrow) (by intro y hy;exact .inl (by simp at hy ⊢;simp [hy]))
  have hfin:FdAt (w9.setCell ⟨p,2,none⟩ (.slice (some ⟨g9,0,none⟩) (n + 1) cap9)) p m (.slice (some ⟨g9,0,none⟩) (n + 1) cap9) (addF f x):=by
   unfold addF
   rw [hB]
   refine ⟨hc9.set 2 _,?_,?_,?_,?_⟩
   · have:=own_keep hown9 HW (by simpa using hvm9)
     show World.ownsRow _ _ _ _ _ (f.ps ++ [_]).length (poL (f.ps ++ [_]))
     rw [List.length_append,poL_append,hn]
     exact this
   · show MapF _ m (f.ps ++ [_]).length (atF (f.ps ++ [_]))
     rw [atF_snoc _ ⟨(f.ps.length:Int) + 1,x,false⟩ hoi,List.length_append]
     exact hm9.only HW (by simpa using fun e => hpm e.symm)
   · show (f.ps ++ [_]).length ≤ 200
     rw [List.length_append,hn];simp;omega
   · exact h.nb
  have HF:=Hd hfin
  have HOF:=Hd (ho9.trans HW (by intro y hy;simp at hy;exact .inl (by simp [hy])))
  have HNW:Hid (NewOf w (.slice A n c) (.slice (some ⟨g9,0,none⟩) (n + 1) cap9)):=Hd (fun g hg => by
   rcases hat9 with h | h
   · left;rw [h,← hg];rfl
   · right;have:=HO3.out.size;simp [Value.ownBlock] at hg;omega)
  clear hfin ho9 HW hm9 hvm9 hown9 hgrow hat9 hgl1 hc9 p9 f9 l9 c2 z0 z1 z2
  go_wp2_with fail
  go_ret
  exact ⟨_,by rw [hB];rfl,HF.out,by rw [hn];exact HOF.out,by rw [hn];exact HNW.out⟩
structure Pl where
 nm:List UInt8
 fd:Fd
 p:Nat
 m:Nat
 v:Value
def Pl.own (t:Pl):List Nat:=[t.p,t.m] ++ rb t.v
def fT (T:List Pl) (k:List UInt8):Option Pl:=T.find? (fun t => t.nm == k)
def ptT (T:List Pl) (k:List UInt8):Option Value:=(fT T k).map fun t => Value.pointer (some ⟨t.p,0,none⟩)
def allX (b mb:Nat) (T:List Pl):List Nat:=b :: mb :: T.flatMap Pl.own
structure StX (w:World) (b mb:Nat) (T:List Pl):Prop where
 cells:Cells w b 184 [.map (some mb)]
 map:MapF w mb T.length (ptT T)
 fds:∀ t ∈ T,FdAt w t.p t.m t.v t.fd
 srt:T.Pairwise (fun a b => a.nm < b.nm)
 dis:∀ t ∈ T,∀ u ∈ T,t.nm ≠ u.nm → ∀ x ∈ t.own,x ∉ u.own
 dib:∀ t ∈ T,b ∉ t.own ∧ mb ∉ t.own
 cap:T.length ≤ 20
 nml:∀ t ∈ T,nmL t.nm = true
theorem nmL_len {k:List UInt8} (h:nmL k = true):1 ≤ k.length ∧ k.length ≤ 60:=by
 rw [nmL_eq] at h
 simp only [Bool.and_eq_true,decide_eq_true_eq] at h
 exact h.2
theorem fT_mem {T:List Pl} {k:List UInt8} {t:Pl} (h:fT T k = some t):t ∈ T ∧ t.nm = k:=by
 unfold fT at h
 exact ⟨List.mem_of_find?_eq_some h,by simpa using List.find?_some h⟩
theorem own_mem {b mb:Nat} {T:List Pl} {t:Pl} (ht:t ∈ T) {k:Nat} (hk:k ∈ t.own):k ∈ allX b mb T:=by
 unfold allX
 exact List.mem_cons_of_mem _ (List.mem_cons_of_mem _ (List.mem_flatMap.2 ⟨t,ht,hk⟩))
theorem FdAt.lts {w:World} {p m:Nat} {v:Value} {f:Fd} (h:FdAt w p m v f):∀ k ∈ [p,m] ++ rb v,k < w.heap.size:=by
 intro k hk
 simp only [List.cons_append,List.nil_append,List.mem_cons] at hk
 rcases hk with rfl | rfl | hk
 · exact h.cells.lt
 · exact h.map.lt
 · exact (h.row.lt k (by simpa [rb] using hk)).2
theorem StX.lts {w:World} {b mb:Nat} {T:List Pl} (h:StX w b mb T):∀ k ∈ allX b mb T,k < w.heap.size:=by
 intro k hk
 unfold allX at hk
 simp only [List.mem_cons] at hk
 rcases hk with rfl | rfl | hk
 · exact h.cells.lt
 · exact h.map.lt
 · obtain ⟨t,ht,hk⟩:=List.mem_flatMap.1 hk
   exact (h.fds t ht).lts k hk
theorem FdAt.keep {S:List Nat} {w w':World} {t:Pl} (h:FdAt w t.p t.m t.v t.fd) (ho:Only S w w') (hS:∀ k ∈ t.own,k ∉ S):FdAt w' t.p t.m t.v t.fd:=
 h.only ho (hS _ (by simp [Pl.own])) (hS _ (by simp [Pl.own])) (fun g hg => hS g (by simp [Pl.own,rb,hg]))
theorem StX.keep {S:List Nat} {w w':World} {b mb:Nat} {T:List Pl} (h:StX w b mb T) (ho:Only S w w') (hS:∀ k ∈ allX b mb T,k ∉ S):StX w' b mb T:=
 ⟨h.cells.only ho (hS _ (by simp [allX])),h.map.only ho (hS _ (by simp [allX])),fun t ht => (h.fds t ht).keep ho (fun k hk => hS k (own_mem ht hk)),h.srt,h.dis,h.dib,h.cap,h.nml⟩
def St (w:World) (b:Nat) (O:List Nat) (S:List (List UInt8 × Fd)):Prop:=∃ mb T,StX w b mb T ∧ O = allX b mb T ∧ S = T.map fun t => (t.nm,t.fd)
theorem St.keep {X:List Nat} {w w':World} {b:Nat} {O:List Nat} {S:List (List UInt8 × Fd)} (h:St w b O S) (ho:Only X w w') (hX:∀ k ∈ O,k ∉ X):St w' b O S:=by
 obtain ⟨mb,T,h1,rfl,rfl⟩:=h
 exact ⟨mb,T,h1.keep ho hX,rfl,rfl⟩
def fnd (S:List (List UInt8 × Fd)) (k:List UInt8):Option Fd:=(S.find? (fun x => x.1 == k)).map (·.2)
theorem fnd_fT (T:List Pl) (k:List UInt8):fnd (T.map fun t => (t.nm,t.fd)) k = (fT T k).map (·.fd):=by
 unfold fnd fT
 rw [List.find?_map,Option.map_map]
 rfl
def okT (now:Int):Bool:=decide (0 ≤ now) && decide (now ≤ 1099511627776)
def fndV (o:Option Pl) (now:Int):Value:=match o with
 | none => .tuple #[.pointer none,.int .i64 4]
 | some t => if okT now then .tuple #[.pointer (some ⟨t.p,0,none⟩),.int .i64 0] else .tuple #[.pointer none,.int .i64 1]
theorem store_find (b mb:Nat) (T:List Pl) (k:List UInt8) (hk:k.length ≤ maxLen) (now:Int) (w:World) (h:StX w b mb T):
 Calls Tryz.prog 135 #[.pointer (some ⟨b,0,none⟩),.string ⟨k.toArray⟩,.int .i64 now] w fun e w' =>
  e = .returned (fndV (fT T k) now) ∧ w = w':=by
 have c0:=h.cells.cell (k:=0) rfl
 have hlk:=h.map.look (t:=182) (e:=191) (z:=.pointer none) Tryz.underlying182 (Tryz.zeroValue191 w) k hk
 cases hf:fT T k with
 | none =>
  rw [show (ptT T k) = none from by unfold ptT;rw [hf];rfl] at hlk
  go_enter Tryz.func135,Tryz.ntmps135
  go_wp2_with fail
  go_ret2
  exact ⟨rfl,rfl⟩
 | some t =>
  rw [show (ptT T k) = some (.pointer (some ⟨t.p,0,none⟩)) from by unfold ptT;rw [hf];rfl] at hlk
  by_cases h0:now < 0
  · have d0:decide (now < 0) = true:=decide_eq_true h0
    have hr:okT now = false:=by unfold okT;rw [decide_eq_false (by omega)];rfl
    go_enter Tryz.func135,Tryz.ntmps135
    go_wp2_with fail
    go_ret2
    exact ⟨by unfold fndV;rw [hr];rfl,rfl⟩
  · have d0:decide (now < 0) = false:=decide_eq_false h0
    by_cases h1:1099511627776 < now
    · have d1:decide (1099511627776 < now) = true:=decide_eq_true h1
      have hr:okT now = false:=by unfold okT;rw [decide_eq_false (p:=now ≤ 1099511627776) (by omega)];simp
      go_enter Tryz.func135,Tryz.ntmps135
      go_wp2_with fail
      go_ret2
      exact ⟨by unfold fndV;rw [hr];rfl,rfl⟩
    · have d1:decide (1099511627776 < now) = false:=decide_eq_false h1
      have hr:okT now = true:=by unfold okT;rw [decide_eq_true (p:=0 ≤ now) (by omega),decide_eq_true (p:=now ≤ 1099511627776) (by omega)];rfl
      go_enter Tryz.func135,Tryz.ntmps135
      go_wp2_with fail
      go_ret2
      exact ⟨by unfold fndV;rw [hr];rfl,rfl⟩
end Go.Proofs.YtcjfmildalappaaGreat
