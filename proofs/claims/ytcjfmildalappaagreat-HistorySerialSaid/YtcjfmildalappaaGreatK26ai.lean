/-
  Contracts; each theorem bears its own conditions.
-/
import Derived.Test.YtcjfmildalappaaGreatK26ab
import Derived.Test.YtcjfmildalappaaGreatK26ah
set_option linter.all false
set_option maxRecDepth 100000
set_option maxHeartbeats 8000000
namespace Go.Proofs.YtcjfmildalappaaGreat
open Go.RowKit
structure Po where
 sq:Int
 it:It
 rd:Bool
def Po.cells (x:Po):List Value:=[.int .i64 x.sq,.string ⟨x.it.id.toArray⟩,.string ⟨x.it.ti.toArray⟩,.string ⟨x.it.li.toArray⟩,.bool x.rd]
def poL (l:List Po):List Value:=l.flatMap Po.cells
theorem poL_length (l:List Po):(poL l).length = l.length * 5:=by
 induction l with
 | nil => rfl
 | cons x r ih => simp [poL,List.flatMap_cons,Po.cells] at ih ⊢;omega
theorem poL_append (l r:List Po):poL (l ++ r) = poL l ++ poL r:=by unfold poL;rw [List.flatMap_append]
theorem poL_get (l:List Po) (i j:Nat) (x:Po) (h:l[i]? = some x) (hj:j < 5):(poL l)[i * 5 + j]? = x.cells[j]?:=flat_get Po.cells 5 (fun _ => rfl) l i j x h hj
theorem poL_one (l:List Po):∀ u ∈ poL l,u.oneCell' = true:=by
 intro u hu
 obtain ⟨x,_,hx⟩:=List.mem_flatMap.1 hu
 simp only [Po.cells,List.mem_cons,List.not_mem_nil,or_false] at hx
 rcases hx with rfl | rfl | rfl | rfl | rfl <;> rfl
theorem info_post:(Tryz.prog.info? 101).map (fun i => (i.zero,i.size,i.bytes)) = some (some (.agg #[.int .i64 0,.string ⟨#[]⟩,.string ⟨#[]⟩,.string ⟨#[]⟩,.bool false]),5,64):=by kernel_rfl
def itL (l:List It):List Value:=l.flatMap It.cells
theorem itL_get (l:List It) (i j:Nat) (x:It) (h:l[i]? = some x) (hj:j < 3):(itL l)[i * 3 + j]? = x.cells[j]?:=flat_get It.cells 3 (fun _ => rfl) l i j x h hj
theorem itL_at {w:World} {B:Nat} {v:Value} {l:List It} (h:SlAt w B v 3 l.length (itL l)) {k:Nat} {x:It} (hk:l[k]? = some x):
 ∃ b o c,v = .slice (some ⟨b,o,none⟩) l.length c ∧ w.cell? ⟨b,o + k * 3,none⟩ = some (.string ⟨x.id.toArray⟩) ∧ w.cell? ⟨b,o + k * 3 + 1,none⟩ = some (.string ⟨x.ti.toArray⟩) ∧ w.cell? ⟨b,o + k * 3 + 2,none⟩ = some (.string ⟨x.li.toArray⟩):=by
 have hlt:k < l.length:=(List.getElem?_eq_some_iff.1 hk).1
 obtain ⟨b,o,c,hv,_,hc⟩:=h.at_ (by omega)
 exact ⟨b,o,c,hv,hc (k * 3 + 0) _ (itL_get l k 0 x hk (by omega)),hc (k * 3 + 1) _ (itL_get l k 1 x hk (by omega)),hc (k * 3 + 2) _ (itL_get l k 2 x hk (by omega))⟩
theorem sl_len {w:World} {B sz n:Nat} {v:Value} {xs:List Value} (h:SlAt w B v sz n xs):n ≤ maxLen:=by
 obtain ⟨_,_,_,_,h1,h2,_⟩:=h
 omega
theorem poL_at {w:World} {B n:Nat} {v:Value} {l:List Po} (h:SlAt w B v 5 n (poL l)) (hn:l.length = n) {k:Nat} {x:Po} (hk:l[k]? = some x):
 ∃ b o c,v = .slice (some ⟨b,o,none⟩) n c ∧ w.cell? ⟨b,o + k * 5,none⟩ = some (.int .i64 x.sq) ∧ w.cell? ⟨b,o + k * 5 + 1,none⟩ = some (.string ⟨x.it.id.toArray⟩) ∧ w.cell? ⟨b,o + k * 5 + 2,none⟩ = some (.string ⟨x.it.ti.toArray⟩) ∧ w.cell? ⟨b,o + k * 5 + 3,none⟩ = some (.string ⟨x.it.li.toArray⟩) ∧ w.cell? ⟨b,o + k * 5 + 4,none⟩ = some (.bool x.rd):=by
 have hlt:k < l.length:=(List.getElem?_eq_some_iff.1 hk).1
 subst hn
 obtain ⟨b,o,c,hv,_,hc⟩:=h.at_ (by omega)
 exact ⟨b,o,c,hv,hc (k * 5 + 0) _ (poL_get l k 0 x hk (by omega)),hc (k * 5 + 1) _ (poL_get l k 1 x hk (by omega)),hc (k * 5 + 2) _ (poL_get l k 2 x hk (by omega)),hc (k * 5 + 3) _ (poL_get l k 3 x hk (by omega)),hc (k * 5 + 4) _ (poL_get l k 4 x hk (by omega))⟩
end Go.Proofs.YtcjfmildalappaaGreat
namespace Go.Proofs.YtcjfmildalappaaGreat
open Go.RowKit Go.ChangeShapes Go.WideShapes Go.Deep
section
variable {H:Type} {enc:TypeId × Value → H} {P:Program} {w:World} {base:Nat} {spare:Nat → Bool} {held:Bool}
theorem open_structs_in {t e:TypeId} {fs:Array Field} {v:Value} {fuel:Nat} {yy:DataW H × List MemPlace} (ht:P.underlying t = some (.slice e)) (he:P.underlying e = some (.struct fs))
 (hone:oneCellFields P fs = true) (hC:P.cellsOf e = fs.size) (hf:DataW.trod enc P w base spare held fuel t [v] = some yy):
 ∃ n xs,SlAt w w.heap.size v fs.size n xs ∧ ∀ i,i < n → ∀ (j:Nat) (f:Field),fs[j]? = some f → ∃ u y m,xs[i * fs.size + j]? = some u ∧ DataW.trod enc P w base spare held m f.type [u] = some y:=by
 rcases open_slice ht hf with ⟨hcs,_⟩ | ⟨a,len,cap,m,n,D,Pl,hcs,hb,hl,hm,hmm,hx,hi⟩
 · simp at hcs
   subst hcs
   exact ⟨0,[],⟨by simp,none,0,rfl,by omega,by simp [maxLen],fun h => by simp at h⟩,fun i hi => by omega⟩
 · simp at hcs
   subst hcs
   have hlm:len ≤ m:=by rw [hmm];split <;> omega
   have key:∀ i,i < len → ∀ (j:Nat) (f:Field),fs[j]? = some f → ∃ u y m,w.cell? (a.add (i * fs.size + j)) = some u ∧ DataW.trod enc P w base spare held m f.type [u] = some y:=by
    intro i hil j f hj
    obtain ⟨cs',hc,ht'⟩:=hi i (by omega)
    rw [hC] at hc
    obtain ⟨ys,n',hn',hy,hlen,hyl,hf'⟩:=DataW.trod_struct he ht'
    obtain ⟨_,hcl,hat⟩:=World.cells?_some hc
    obtain ⟨ho,hk⟩:=hone_of hone j f hj
    have hjl:j < fs.size:=(Array.getElem?_eq_some_iff.1 hj).1
    have hcell:=hat j hjl
    have hv:cs'[j]? = some (cs'[j]'(by omega)):=List.getElem?_eq_getElem (by omega)
    have h1:=hf' j f hj
    rw [ho,hk] at h1
    have hone':(cs'.drop j).take 1 = [cs'[j]'(by omega)]:=by
     rw [List.drop_eq_getElem_cons (by omega)]
     rfl
    rw [hone'] at h1
    have hys:ys[j]? = some (ys[j]'(by omega)):=List.getElem?_eq_getElem (by omega)
    refine ⟨cs'[j]'(by omega),_,_,?_,h1.trans hys⟩
    rw [← Go.Deep.add_add,hcell,hv]
   by_cases hz:0 < len * fs.size
   · have hfs:0 < fs.size:=by rcases Nat.eq_zero_or_pos fs.size with h0 | h0;· simp [h0] at hz
                              · exact h0
     have hlen:0 < len:=by rcases Nat.eq_zero_or_pos len with h0 | h0;· simp [h0] at hz
                           · exact h0
     obtain ⟨u0,_,_,hc0,_⟩:=key 0 hlen 0 fs[0] (Array.getElem?_eq_getElem hfs)
     have ha:a = ⟨a.block,a.off,none⟩:=by simpa [Addr.add] using cell_spot hc0
     have hblt:a.block < w.heap.size:=by simpa [Addr.add] using World.block_lt_of_cell? w _ hc0
     have hadd:∀ k,a.add k = ⟨a.block,a.off + k,none⟩:=by
      intro k;rw [ha];unfold Addr.add;by_cases hk:k = 0 <;> simp [hk]
     refine ⟨len,(List.range (len * fs.size)).map fun k => (w.cell? ⟨a.block,a.off + k,none⟩).getD undef,⟨by simp,some a,cap,rfl,hl,hm,fun _ => ⟨a.block,a.off,by rw [← ha],hblt,fun j u hu => ?_⟩⟩,fun i hil j f hj => ?_⟩
     · simp only [List.getElem?_map] at hu
       have hjl:j < len * fs.size:=by
        rcases Nat.lt_or_ge j (len * fs.size) with h0 | h0
        · exact h0
        · rw [List.getElem?_eq_none (by simpa using h0)] at hu;simp at hu
       rw [List.getElem?_range hjl] at hu
       simp only [Option.map_some,Option.some.injEq] at hu
       obtain ⟨u',_,_,hc',_⟩:=key (j / fs.size) ((Nat.div_lt_iff_lt_mul hfs).2 hjl) (j % fs.size) (fs[j % fs.size]'(Nat.mod_lt _ hfs)) (Array.getElem?_eq_getElem (Nat.mod_lt _ hfs))
       rw [Nat.mul_comm,Nat.div_add_mod,hadd] at hc'
       rw [hc'] at hu ⊢
       simpa using hu
     · obtain ⟨u,y,m',hc',hy⟩:=key i hil j f hj
       have hjl:j < fs.size:=(Array.getElem?_eq_some_iff.1 hj).1
       have hlt:i * fs.size + j < len * fs.size:=by
        have:(i + 1) * fs.size ≤ len * fs.size:=Nat.mul_le_mul_right _ hil
        rw [Nat.succ_mul] at this;omega
       refine ⟨u,y,m',?_,hy⟩
       rw [List.getElem?_map,List.getElem?_range hlt]
       rw [hadd] at hc'
       simp [hc']
   · refine ⟨len,[],⟨by simp;omega,some a,cap,rfl,hl,hm,fun h => absurd h hz⟩,fun i hil j f hj => ?_⟩
     have hjl:j < fs.size:=(Array.getElem?_eq_some_iff.1 hj).1
     exact absurd (Nat.mul_pos (by omega) (by omega)) hz
end
theorem ba_len (z:ByteArray):z.data.toList.length = z.size:=by simp
theorem open_items_in {H:Type} {enc:TypeId × Value → H} {w:World} {base:Nat} {spare:Nat → Bool} {held:Bool} {v:Value} {fuel:Nat} {yy:DataW H × List MemPlace}
 (h:DataW.trod enc Tryz.prog w base spare held fuel 36 [v] = some yy):∃ l:List It,SlAt w w.heap.size v 3 l.length (itL l) ∧ ∀ x ∈ l,x.Len:=by
 obtain ⟨n,xs,hs,hx⟩:=open_structs_in Tryz.underlying36 Tryz.underlying99 (by kernel_rfl) (by kernel_rfl) h
 obtain ⟨l,hl,rfl,hg⟩:=flat_of It.cells 3 (fun _ => rfl) It.Len n xs hs.1 fun i hi => by
  obtain ⟨u0,y0,m0,e0,h0⟩:=hx i hi 0 _ rfl
  obtain ⟨u1,y1,m1,e1,h1⟩:=hx i hi 1 _ rfl
  obtain ⟨u2,y2,m2,e2,h2⟩:=hx i hi 2 _ rfl
  obtain ⟨z0,q0,_,w0⟩:=DataW.trod_string Tryz.underlying9 h0
  obtain ⟨z1,q1,_,w1⟩:=DataW.trod_string Tryz.underlying9 h1
  obtain ⟨z2,q2,_,w2⟩:=DataW.trod_string Tryz.underlying9 h2
  simp at q0 q1 q2
  subst q0;subst q1;subst q2
  refine ⟨⟨z0.data.toList,z1.data.toList,z2.data.toList⟩,⟨by rw [ba_len];exact w0,by rw [ba_len];exact w1,by rw [ba_len];exact w2⟩,fun j hj => ?_⟩
  match j,hj with
  | 0,_ => simpa [It.cells] using e0
  | 1,_ => simpa [It.cells] using e1
  | 2,_ => simpa [It.cells] using e2
 subst hl
 exact ⟨l,hs,hg⟩
end Go.Proofs.YtcjfmildalappaaGreat
