/-
  Contracts; each theorem bears its own conditions.
-/
import Derived.Test.YtcjfmildalappaaGreatRows
import Derived.BigQuiet
import Derived.Deep.QuietTactic
import Derived.StillTailTactics
import Derived.Deep.RegionWith
import Derived.Deep.MidRow
import Derived.Test.YtcjfmildalappaaGreatK26aa
import Derived.Test.YtcjfmildalappaaGreatK26ab
set_option linter.all false
set_option maxRecDepth 100000
set_option maxHeartbeats 8000000
namespace Go.Proofs.YtcjfmildalappaaGreat.L16
open Go.RowKit
structure Ls where
 node:Int
 epoch:Int
 till:Int
structure Tb where
 now:Int
 l:List Ls
def Ls.cells (x:Ls):List Value:=[.int .i64 x.node,.int .i64 x.epoch,.int .i64 x.till]
def Tb.cells (t:Tb):List Value:=.int .i64 t.now :: t.l.flatMap Ls.cells
def Ls.val (x:Ls):Value:=.agg #[.int .i64 x.node,.int .i64 x.epoch,.int .i64 x.till]
theorem Ls.cells_length (x:Ls):x.cells.length = 3:=rfl
theorem Tb.cell0 (t:Tb):t.cells[0]? = some (.int .i64 t.now):=rfl
theorem Tb.cellj (t:Tb) {k:Nat} {x:Ls} (h:t.l[k]? = some x) (j:Nat) (hj:j < 3):t.cells[1 + (k * 3 + j)]? = x.cells[j]?:=by
 rw [Nat.add_comm 1]
 exact flat_get Ls.cells 3 Ls.cells_length t.l k j x h hj
theorem Tb.facts {t:Tb} {w:World} {b k:Nat} {x:Ls} (hs:Cells w b 181 t.cells) (hx:t.l[k]? = some x):
 w.cell? ⟨b,0,none⟩ = some (.int .i64 t.now) ∧ w.frozen? ⟨b,0,none⟩ = false ∧ w.cell? ⟨b,1 + k * 3,none⟩ = some (.int .i64 x.node) ∧ w.cell? ⟨b,1 + k * 3 + 1,none⟩ = some (.int .i64 x.epoch) ∧
 w.cell? ⟨b,1 + k * 3 + 2,none⟩ = some (.int .i64 x.till) ∧ w.frozen? ⟨b,1 + k * 3,none⟩ = false ∧ w.frozen? ⟨b,1 + k * 3 + 1,none⟩ = false ∧ w.frozen? ⟨b,1 + k * 3 + 2,none⟩ = false ∧ b < w.heap.size:=by
 have c0:=hs.cell (t.cellj hx 0 (by omega))
 have c1:=hs.cell (t.cellj hx 1 (by omega))
 have c2:=hs.cell (t.cellj hx 2 (by omega))
 simp only [Nat.add_zero,← Nat.add_assoc] at c0 c1 c2
 exact ⟨hs.cell t.cell0,hs.frozen _,c0,c1,c2,hs.frozen _,hs.frozen _,hs.frozen _,hs.lt⟩
theorem lease_is (n:Int) (w:World):Calls Tryz.prog 120 #[.int .i64 n] w fun e w' => e = .returned (.bool (decide (0 ≤ n) && decide (n < 8))) ∧ w = w':=by
 by_cases h0:0 ≤ n
 · by_cases h8:n < 8
   all_goals
    go_enter Tryz.func120,Tryz.ntmps120
    go_wp2
    go_ret
    exact ⟨by simp [h0,h8],rfl⟩
 · have h0':n < 0:=by omega
   clear h0
   go_enter Tryz.func120,Tryz.ntmps120
   go_wp2
   go_ret
   exact ⟨by simp;omega,rfl⟩
theorem lease_is_in (k:Nat) (hk:k < 8) (w:World):Calls Tryz.prog 120 #[.int .i64 k] w fun e w' => e = .returned (.bool true) ∧ w = w':=
 (lease_is k w).mono fun _ _ ⟨h,hw⟩ => ⟨by rw [h];simp;omega,hw⟩
theorem lease_get_in (b k:Nat) (t:Tb) (x:Ls) (w:World) (hs:Cells w b 181 t.cells) (hx:t.l[k]? = some x) (hk:k < 8):
 Calls Tryz.prog 60 #[.pointer (some ⟨b,0,none⟩),.int .i64 k] w fun e w' => e = .returned x.val ∧ Only [] w w':=by
 have c0:=hs.cell (t.cellj hx 0 (by omega))
 have c1:=hs.cell (t.cellj hx 1 (by omega))
 have c2:=hs.cell (t.cellj hx 2 (by omega))
 have hb:=hs.lt
 simp only [Nat.add_zero,← Nat.add_assoc] at c0 c1 c2
 have hk':(k:Int) < 8:=by omega
 clear hs hx hk
 go_enter Tryz.func60,Tryz.ntmps60
 go_wp2
 exact bodyPost_ret (v:=x.val) (by simp [results,Tryz.results60,go_sem,Ls.val]) rfl ⟨rfl,oz.alloc _⟩
theorem lease_get_out (b:Nat) (n:Int) (w:World) (hn:n < 0 ∨ 8 ≤ n):
 Calls Tryz.prog 60 #[.pointer (some ⟨b,0,none⟩),.int .i64 n] w fun e w' => e = .returned (Ls.mk 0 0 0).val ∧ Only [] w w':=by
 by_cases h:n < 0
 · go_enter Tryz.func60,Tryz.ntmps60
   go_wp2
   exact bodyPost_ret (v:=(Ls.mk 0 0 0).val) (by simp [results,Tryz.results60,go_sem,Ls.val]) rfl ⟨rfl,oz.alloc _⟩
 · have hd:decide (n < 8) = false:=by simp;omega
   go_enter Tryz.func60,Tryz.ntmps60
   go_wp2
   exact bodyPost_ret (v:=(Ls.mk 0 0 0).val) (by simp [results,Tryz.results60,go_sem,Ls.val]) rfl ⟨rfl,oz.alloc _⟩
theorem lease_live (b:Nat) (t:Tb) (x:Ls) (w:World) (hs:Cells w b 181 t.cells):
 Calls Tryz.prog 197 #[.pointer (some ⟨b,0,none⟩),x.val] w fun e w' => e = .returned (.bool (decide (t.now < x.till))) ∧ Only [] w w':=by
 have c0:=hs.cell t.cell0
 have hb:=hs.lt
 clear hs
 unfold Ls.val
 go_enter Tryz.func197,Tryz.ntmps197
 go_wp2
 go_quiet (fail)
 go_wp2
 go_ret
 exact ⟨rfl,(oz.alloc _).drewN _⟩
theorem lease_now (b:Nat) (t:Tb) (w:World) (hs:Cells w b 181 t.cells):
 Calls Tryz.prog 67 #[.pointer (some ⟨b,0,none⟩)] w fun e w' => e = .returned (.int .i64 t.now) ∧ w = w':=by
 have c0:=hs.cell t.cell0
 clear hs
 go_enter Tryz.func67,Tryz.ntmps67
 go_wp2
 go_ret
 exact ⟨rfl,rfl⟩
theorem lease_tick (b:Nat) (t:Tb) (w:World) (hs:Cells w b 181 t.cells) (h0:-4611686018427387904 ≤ t.now) (h1:t.now ≤ 4611686018427387904):
 Calls Tryz.prog 133 #[.pointer (some ⟨b,0,none⟩)] w fun e w' => e = .returned (.int .i64 (t.now + 1)) ∧ Only [b] w w' ∧ Cells w' b 181 (Tb.mk (t.now + 1) t.l).cells:=by
 have c0:=hs.cell t.cell0
 have f0:=hs.frozen 0
 have H:=Hd hs
 clear hs
 go_enter Tryz.func133,Tryz.ntmps133
 go_wp2
 go_ret
 exact ⟨rfl,oz.setCell (.inl (by simp)) _,H.out.set 0 _⟩
def Ls.grant (now:Int) (x:Ls) (node:Int):Ls:=if now < x.till then ⟨x.node,x.epoch,now + 6⟩ else ⟨node,x.epoch + 1,now + 6⟩
theorem lease_grant_err (b:Nat) (n node:Int) (w:World) (hn:n < 0 ∨ 8 ≤ n ∨ node < 1 ∨ 9 < node):
 Calls Tryz.prog 134 #[.pointer (some ⟨b,0,none⟩),.int .i64 n,.int .i64 node] w fun e w' => e = .returned (.tuple #[.int .i64 0,.int .i64 2]) ∧ w = w':=by
 by_cases h:n < 0
 · go_enter Tryz.func134,Tryz.ntmps134
   go_wp2
   go_ret2
   exact ⟨rfl,rfl⟩
 · by_cases h8:8 ≤ n
   · have hd:decide (n < 8) = false:=by simp;omega
     go_enter Tryz.func134,Tryz.ntmps134
     go_wp2
     go_ret2
     exact ⟨rfl,rfl⟩
   · have hd:decide (n < 8) = true:=by simp;omega
     by_cases h1:node < 1
     · have hd1:decide (node < 1) = true:=by simpa using h1
       go_enter Tryz.func134,Tryz.ntmps134
       go_wp2
       go_ret2
       exact ⟨rfl,rfl⟩
     · have hd1:decide (node < 1) = false:=by simpa using h1
       have hd2:decide (9 < node) = true:=by simp;omega
       go_enter Tryz.func134,Tryz.ntmps134
       go_wp2
       go_ret2
       exact ⟨rfl,rfl⟩
theorem Tb.set_cells (t:Tb) {k:Nat} {x:Ls} (h:t.l[k]? = some x) (j:Nat) (hj:j < 3) (x':Ls) (v:Value) (hv:x.cells.set j v = x'.cells):
 t.cells.set (1 + (k * 3 + j)) v = (Tb.mk t.now (t.l.set k x')).cells:=by
 unfold Tb.cells
 rw [Nat.add_comm 1,List.set_cons_succ]
 rw [flat_set Ls.cells 3 Ls.cells_length t.l k j x x' v h hj hv]
theorem Tb.set1 (t:Tb) {k:Nat} {x:Ls} (h:t.l[k]? = some x) (u:Int):
 t.cells.set (1 + k * 3 + 2) (.int .i64 u) = (Tb.mk t.now (t.l.set k ⟨x.node,x.epoch,u⟩)).cells:=by
 rw [Nat.add_assoc];exact t.set_cells h 2 (by omega) _ _ rfl
theorem Tb.set3 (t:Tb) {k:Nat} {x:Ls} (h:t.l[k]? = some x) (n e u:Int):
 ((t.cells.set (1 + k * 3) (.int .i64 n)).set (1 + k * 3 + 1) (.int .i64 e)).set (1 + k * 3 + 2) (.int .i64 u) = (Tb.mk t.now (t.l.set k ⟨n,e,u⟩)).cells:=by
 have hk:k < t.l.length:=(List.getElem?_eq_some_iff.1 h).1
 rw [show 1 + k * 3 = 1 + (k * 3 + 0) from rfl,t.set_cells h 0 (by omega) ⟨n,x.epoch,x.till⟩ _ rfl]
 rw [show 1 + (k * 3 + 0) + 1 = 1 + (k * 3 + 1) from rfl,(Tb.mk t.now (t.l.set k ⟨n,x.epoch,x.till⟩)).set_cells (k:=k) (x:=⟨n,x.epoch,x.till⟩) (by simp [hk]) 1 (by omega) ⟨n,e,x.till⟩ _ rfl]
 rw [show 1 + (k * 3 + 0) + 2 = 1 + (k * 3 + 2) from rfl,(Tb.mk t.now ((t.l.set k ⟨n,x.epoch,x.till⟩).set k ⟨n,e,x.till⟩)).set_cells (k:=k) (x:=⟨n,e,x.till⟩) (by simp [hk]) 2 (by omega) ⟨n,e,u⟩ _ rfl]
 simp
theorem lease_grant_new (b k:Nat) (t:Tb) (x:Ls) (node:Int) (w:World) (hs:Cells w b 181 t.cells) (hx:t.l[k]? = some x) (hk:k < 8) (n1:1 ≤ node) (n9:node ≤ 9)
 (h0:-4611686018427387904 ≤ t.now) (h1:t.now ≤ 4611686018427387904) (e0:-4611686018427387904 ≤ x.epoch) (e1:x.epoch ≤ 4611686018427387904) (hl:x.till ≤ t.now):
 Calls Tryz.prog 134 #[.pointer (some ⟨b,0,none⟩),.int .i64 k,.int .i64 node] w fun e w' =>
  e = .returned (.tuple #[.int .i64 (x.epoch + 1),.int .i64 0]) ∧ Only [b] w w' ∧ Cells w' b 181 (Tb.mk t.now (t.l.set k ⟨node,x.epoch + 1,t.now + 6⟩)).cells:=by
 obtain ⟨c00,f00,c0,c1,c2,f0,f1,f2,hb⟩:=Tb.facts hs hx
 have hk':(k:Int) < 8:=by omega
 have d1:decide (node < 1) = false:=by simp;omega
 have d2:decide (9 < node) = false:=by simp;omega
 have d3:decide (t.now < x.till) = false:=by simp;omega
 have H:=Hd hs
 have HX:=Hd hx
 clear hs hx hk
 go_enter Tryz.func134,Tryz.ntmps134
 go_wp2_with (first
  | (go_at_call 120;refine (lease_is_in k (by omega) _).mono ?_;rintro e w1 ⟨rfl,rfl⟩)
  | (go_at_call 197;refine (lease_live b t x _ H.out).mono ?_;rintro e w1 ⟨rfl,ho⟩;obtain ⟨c00,f00,c0,c1,c2,f0,f1,f2,hb⟩:=Tb.facts (H.out.only ho (by simp)) HX.out))
 go_ret2
 have hC:=(((H.out.only ho (by simp)).set (1 + k * 3) (.int .i64 node)).set (1 + k * 3 + 1) (.int .i64 (x.epoch + 1))).set (1 + k * 3 + 2) (.int .i64 (t.now + 6))
 rw [Tb.set3 t HX.out] at hC
 exact ⟨rfl,(((Only.of0 ho).setCell (.inl (by simp)) _).setCell (.inl (by simp)) _).setCell (.inl (by simp)) _,hC⟩
theorem lease_grant_again (b k:Nat) (t:Tb) (x:Ls) (w:World) (hs:Cells w b 181 t.cells) (hx:t.l[k]? = some x) (hk:k < 8) (n1:1 ≤ x.node) (n9:x.node ≤ 9)
 (h0:-4611686018427387904 ≤ t.now) (h1:t.now ≤ 4611686018427387904) (hl:t.now < x.till):
 Calls Tryz.prog 134 #[.pointer (some ⟨b,0,none⟩),.int .i64 k,.int .i64 x.node] w fun e w' =>
  e = .returned (.tuple #[.int .i64 x.epoch,.int .i64 0]) ∧ Only [b] w w' ∧ Cells w' b 181 (Tb.mk t.now (t.l.set k ⟨x.node,x.epoch,t.now + 6⟩)).cells:=by
 obtain ⟨c00,f00,c0,c1,c2,f0,f1,f2,hb⟩:=Tb.facts hs hx
 have hk':(k:Int) < 8:=by omega
 have d1:decide (x.node < 1) = false:=by simp;omega
 have d2:decide (9 < x.node) = false:=by simp;omega
 have d3:decide (t.now < x.till) = true:=by simp;omega
 have H:=Hd hs
 have HX:=Hd hx
 clear hs hx hk
 go_enter Tryz.func134,Tryz.ntmps134
 go_wp2_with (first
  | (go_at_call 120;refine (lease_is_in k (by omega) _).mono ?_;rintro e w1 ⟨rfl,rfl⟩)
  | (go_at_call 197;refine (lease_live b t x _ H.out).mono ?_;rintro e w1 ⟨rfl,ho⟩;obtain ⟨c00,f00,c0,c1,c2,f0,f1,f2,hb⟩:=Tb.facts (H.out.only ho (by simp)) HX.out))
 go_ret2
 have hC:=(H.out.only ho (by simp)).set (1 + k * 3 + 2) (.int .i64 (t.now + 6))
 rw [Tb.set1 t HX.out] at hC
 exact ⟨rfl,(Only.of0 ho).setCell (.inl (by simp)) _,hC⟩
theorem lease_grant_held (b k:Nat) (t:Tb) (x:Ls) (node:Int) (w:World) (hs:Cells w b 181 t.cells) (hx:t.l[k]? = some x) (hk:k < 8) (n1:1 ≤ node) (n9:node ≤ 9)
 (hn:x.node ≠ node) (hl:t.now < x.till):
 Calls Tryz.prog 134 #[.pointer (some ⟨b,0,none⟩),.int .i64 k,.int .i64 node] w fun e w' =>
  e = .returned (.tuple #[.int .i64 0,.int .i64 16]) ∧ Only [] w w':=by
 obtain ⟨c00,f00,c0,c1,c2,f0,f1,f2,hb⟩:=Tb.facts hs hx
 have hk':(k:Int) < 8:=by omega
 have d1:decide (node < 1) = false:=by simp;omega
 have d2:decide (9 < node) = false:=by simp;omega
 have d3:decide (t.now < x.till) = true:=by simp;omega
 have d4:(x.node == node) = false:=by simpa using hn
 have d5:(x.node != node) = true:=by simpa using hn
 have H:=Hd hs
 have HX:=Hd hx
 clear hs hx hk hn
 go_enter Tryz.func134,Tryz.ntmps134
 go_wp2_with (first
  | (go_at_call 120;refine (lease_is_in k (by omega) _).mono ?_;rintro e w1 ⟨rfl,rfl⟩)
  | (go_at_call 197;refine (lease_live b t x _ H.out).mono ?_;rintro e w1 ⟨rfl,ho⟩;obtain ⟨c00,f00,c0,c1,c2,f0,f1,f2,hb⟩:=Tb.facts (H.out.only ho (by simp)) HX.out))
 go_ret2
 exact ⟨rfl,ho⟩
def Tb.get (t:Tb) (k:Int):Ls:=if 0 ≤ k ∧ k < 8 then t.l.getD k.toNat ⟨0,0,0⟩ else ⟨0,0,0⟩
def Tb.grant (t:Tb) (k node:Int):Tb × Int × Int:=
 if 0 ≤ k ∧ k < 8 ∧ 1 ≤ node ∧ node ≤ 9 then
  if t.now < (t.get k).till then
   if (t.get k).node = node then (⟨t.now,t.l.set k.toNat ⟨node,(t.get k).epoch,t.now + 6⟩⟩,(t.get k).epoch,0)
   else (t,0,16)
  else (⟨t.now,t.l.set k.toNat ⟨node,(t.get k).epoch + 1,t.now + 6⟩⟩,(t.get k).epoch + 1,0)
 else (t,0,2)
def Tb.tick (t:Tb):Tb:=⟨t.now + 1,t.l⟩
structure Tb.small (t:Tb):Prop where
 len:t.l.length = 8
 n0:0 ≤ t.now
 n1:t.now ≤ 4611686018427387904
 e0:∀ x ∈ t.l,0 ≤ x.epoch ∧ x.epoch ≤ 4611686018427387904
theorem Tb.get_in (t:Tb) (h:t.l.length = 8) (k:Nat) (hk:k < 8):t.l[k]? = some (t.get k):=by
 unfold Tb.get
 rw [if_pos (by omega),List.getD_eq_getElem?_getD,Int.toNat_natCast,List.getElem?_eq_getElem (by omega)];rfl
theorem lease_get (b:Nat) (t:Tb) (n:Int) (w:World) (hs:Cells w b 181 t.cells) (hl:t.l.length = 8):
 Calls Tryz.prog 60 #[.pointer (some ⟨b,0,none⟩),.int .i64 n] w fun e w' => e = .returned (t.get n).val ∧ Only [] w w':=by
 by_cases h:0 ≤ n ∧ n < 8
 · obtain ⟨k,rfl⟩:=Int.eq_ofNat_of_zero_le h.1
   exact lease_get_in b k t _ w hs (t.get_in hl k (by omega)) (by omega)
 · rw [show t.get n = ⟨0,0,0⟩ from by unfold Tb.get;rw [if_neg h]]
   exact lease_get_out b n w (by omega)
theorem lease_grant (b:Nat) (t:Tb) (n node:Int) (w:World) (hs:Cells w b 181 t.cells) (ht:t.small):
 Calls Tryz.prog 134 #[.pointer (some ⟨b,0,none⟩),.int .i64 n,.int .i64 node] w fun e w' =>
  e = .returned (.tuple #[.int .i64 (t.grant n node).2.1,.int .i64 (t.grant n node).2.2]) ∧ Only [b] w w' ∧ Cells w' b 181 (t.grant n node).1.cells:=by
 by_cases h:0 ≤ n ∧ n < 8 ∧ 1 ≤ node ∧ node ≤ 9
 · obtain ⟨k,rfl⟩:=Int.eq_ofNat_of_zero_le h.1
   have hg:=t.get_in ht.len k (by omega)
   have he:=ht.e0 _ (List.mem_of_getElem? hg)
   have hn0:=ht.n0
   have hn1:=ht.n1
   by_cases hl:t.now < (t.get k).till
   · by_cases hn:(t.get k).node = node
     · subst hn
       rw [show t.grant k (t.get k).node = (⟨t.now,t.l.set k ⟨(t.get k).node,(t.get k).epoch,t.now + 6⟩⟩,(t.get k).epoch,0) from by
        unfold Tb.grant;rw [if_pos h,if_pos hl,if_pos rfl,Int.toNat_natCast]]
       exact lease_grant_again b k t _ w hs hg (by omega) (by omega) (by omega) (by omega) (by omega) hl
     · rw [show t.grant k node = (t,0,16) from by unfold Tb.grant;rw [if_pos h,if_pos hl,if_neg hn]]
       exact (lease_grant_held b k t _ node w hs hg (by omega) (by omega) (by omega) hn hl).mono fun e w' ⟨h1,h2⟩ => ⟨h1,h2.of0,hs.only h2 (by simp)⟩
   · rw [show t.grant k node = (⟨t.now,t.l.set k ⟨node,(t.get k).epoch + 1,t.now + 6⟩⟩,(t.get k).epoch + 1,0) from by
      unfold Tb.grant;rw [if_pos h,if_neg hl,Int.toNat_natCast]]
     exact lease_grant_new b k t _ node w hs hg (by omega) (by omega) (by omega) (by omega) (by omega) (by omega) (by omega) (by omega)
 · rw [show t.grant n node = (t,0,2) from by unfold Tb.grant;rw [if_neg h]]
   refine (lease_grant_err b n node w (by omega)).mono ?_
   rintro e w' ⟨h1,rfl⟩
   exact ⟨h1,Only.refl _ _,hs⟩
def Ls.wanted (now:Int) (x:Ls) (node:Int):Bool:=!decide (now < x.till) || (decide (x.node = node) && decide (x.till ≤ now + 2))
theorem lease_live_b (b:Nat) (t:Tb) (x:Ls) (w:World) {v:Bool} (hv:decide (t.now < x.till) = v) (hs:Cells w b 181 t.cells):
 Calls Tryz.prog 197 #[.pointer (some ⟨b,0,none⟩),x.val] w fun e w' => e = .returned (.bool v) ∧ Only [] w w':=by
 subst hv;exact lease_live b t x w hs
theorem lease_new (w:World):Calls Tryz.prog 58 #[] w fun e w' => e = .returned (.pointer (some ⟨w.heap.size,0,none⟩)) ∧ Only [] w w' ∧
 Cells w' w.heap.size 181 (Tb.mk 0 (List.replicate 8 ⟨0,0,0⟩)).cells:=by
 go_enter Tryz.func58,Tryz.ntmps58
 go_wp2
 go_ret
 exact ⟨rfl,oz.alloc _,Cells.new w _ _⟩
def Tb.check (t:Tb) (k node epoch:Int):Int:=
 if 0 ≤ k ∧ k < 8 ∧ t.now < (t.get k).till ∧ (t.get k).node = node ∧ (t.get k).epoch = epoch then 0 else 15
theorem lease_check_out (b:Nat) (t:Tb) (n node epoch:Int) (w:World) (hs:Cells w b 181 t.cells) (hl:t.l.length = 8) (hn:n < 0 ∨ 8 ≤ n):
 Calls Tryz.prog 128 #[.pointer (some ⟨b,0,none⟩),.int .i64 n,.int .i64 node,.int .i64 epoch] w fun e w' => e = .returned (.int .i64 15) ∧ Only [] w w':=by
 have HG:=Hd (lease_get b t n w hs hl)
 have HI:Hid (∀ w,Calls Tryz.prog 120 #[.int .i64 n] w fun e w' => e = .returned (.bool false) ∧ w = w'):=
  fun w => (lease_is n w).mono fun _ _ ⟨h,hw⟩ => ⟨by rw [h];simp;omega,hw⟩
 clear hs hl
 go_enter Tryz.func128,Tryz.ntmps128
 unfold Ls.val at HG
 go_wp2_with (first
  | (go_at_call 60;refine HG.out.mono ?_;rintro e w1 ⟨rfl,ho⟩)
  | (go_at_call 120;refine (HI.out _).mono ?_;rintro e w2 ⟨rfl,rfl⟩))
 go_ret
 exact ⟨rfl,ho.alloc _⟩
theorem lease_check_in (b k:Nat) (t:Tb) (node epoch:Int) (w:World) (hs:Cells w b 181 t.cells) (hl:t.l.length = 8) (hk:k < 8) (d1 d2 d3:Bool)
 (h:d1 = false ∨ (d1 = true ∧ d2 = false) ∨ (d1 = true ∧ d2 = true ∧ d3 = false) ∨ (d1 = true ∧ d2 = true ∧ d3 = true)) (x:Ls) (hx:t.get k = x)
 (hd1:decide (t.now < x.till) = d1) (hd2:(x.node == node) = d2) (hd3:(x.epoch == epoch) = d3):
 Calls Tryz.prog 128 #[.pointer (some ⟨b,0,none⟩),.int .i64 k,.int .i64 node,.int .i64 epoch] w fun e w' => e = .returned (.int .i64 (if d1 && d2 && d3 then 0 else 15)) ∧ Only [] w w':=by
 subst hx
 have HG:=Hd (lease_get b t k w hs hl)
 have H:=Hd hs
 have HD:=Hd hd1
 clear hs hl hd1
 obtain ⟨x,hx⟩:∃ x,t.get k = x:=⟨_,rfl⟩
 rw [hx] at HG HD hd2 hd3
 clear hx
 unfold Ls.val at HG
 rcases h with rfl | ⟨rfl,rfl⟩ | ⟨rfl,rfl,rfl⟩ | ⟨rfl,rfl,rfl⟩
 all_goals
  go_enter Tryz.func128,Tryz.ntmps128
  go_wp2_with (first
   | (go_at_call 60;refine HG.out.mono ?_;rintro e w1 ⟨rfl,ho⟩)
   | (go_at_call 120;refine (lease_is_in k hk _).mono ?_;rintro e w2 ⟨rfl,rfl⟩)
   | (go_at_call 197;refine (lease_live_b b t x _ HD.out ((H.out.only ho (by simp)).alloc _)).mono ?_;rintro e w3 ⟨rfl,ho3⟩
      have q0:=(ho3.cell (p:=⟨w1.heap.size,0,none⟩) (by simp) (by simp))
      have q1:=(ho3.cell (p:=⟨w1.heap.size,1,none⟩) (by simp) (by simp))
      have q2:=(ho3.cell (p:=⟨w1.heap.size,2,none⟩) (by simp) (by simp))))
  go_ret
  exact ⟨by simp,(ho.alloc _).tr ho3⟩
theorem lease_check (b:Nat) (t:Tb) (n node epoch:Int) (w:World) (hs:Cells w b 181 t.cells) (hl:t.l.length = 8):
 Calls Tryz.prog 128 #[.pointer (some ⟨b,0,none⟩),.int .i64 n,.int .i64 node,.int .i64 epoch] w fun e w' => e = .returned (.int .i64 (t.check n node epoch)) ∧ Only [] w w':=by
 by_cases h:0 ≤ n ∧ n < 8
 · obtain ⟨k,rfl⟩:=Int.eq_ofNat_of_zero_le h.1
   refine (lease_check_in b k t node epoch w hs hl (by omega) _ _ _ ?_ _ rfl rfl rfl rfl).mono ?_
   · cases decide (t.now < (t.get k).till) <;> cases ((t.get k).node == node) <;> cases ((t.get k).epoch == epoch) <;> simp
   · rintro e w' ⟨rfl,ho⟩
     refine ⟨?_,ho⟩
     unfold Tb.check
     by_cases h1:t.now < (t.get k).till <;> by_cases h2:(t.get k).node = node <;> by_cases h3:(t.get k).epoch = epoch <;> simp [h1,h2,h3]
     omega
 · rw [show t.check n node epoch = 15 from by unfold Tb.check;rw [if_neg (by omega)]]
   exact lease_check_out b t n node epoch w hs hl (by omega)
structure Act where
 op:Int
 shard:Int
 node:Int
def Act.cells (a:Act):List Value:=[.int .i64 a.op,.int .i64 a.shard,.int .i64 a.node]
def Act.val (a:Act):Value:=.agg #[.int .i64 a.op,.int .i64 a.shard,.int .i64 a.node]
def Wide (x:Int):Prop:=-9223372036854775808 ≤ x ∧ x ≤ 9223372036854775807
def Act.wide (a:Act):Prop:=Wide a.op ∧ Wide a.shard ∧ Wide a.node
def pickI (c n:Int):Int:=if c < 0 then -(c + 1) % n else c % n
def Tb.does (t:Tb) (a:Act):Tb:=if pickI a.op 5 < 2 then t.tick else (t.grant a.shard a.node).1
structure Tb.upto (t:Tb) (n:Int):Prop where
 len:t.l.length = 8
 n0:0 ≤ t.now
 n1:t.now ≤ n
 e0:∀ x ∈ t.l,0 ≤ x.epoch ∧ x.epoch ≤ n
theorem Tb.upto.small {t:Tb} {n:Int} (h:t.upto n) (hn:n ≤ 4611686018427387904):t.small:=
 ⟨h.len,h.n0,by have:=h.n1;omega,fun x hx => by have:=h.e0 x hx;omega⟩
theorem Tb.upto.mono {t:Tb} {n m:Int} (h:t.upto n) (hn:n ≤ m):t.upto m:=
 ⟨h.len,h.n0,by have:=h.n1;omega,fun x hx => by have:=h.e0 x hx;omega⟩
theorem Tb.upto.tick {t:Tb} {n:Int} (h:t.upto n):t.tick.upto (n + 1):=
 ⟨h.len,by have:=h.n0;show 0 ≤ t.now + 1;omega,by have:=h.n1;show t.now + 1 ≤ _;omega,fun x hx => by have:=h.e0 x hx;omega⟩
theorem Tb.get_epoch {t:Tb} {n:Int} (h:t.upto n) (hn:0 ≤ n) (k:Int):0 ≤ (t.get k).epoch ∧ (t.get k).epoch ≤ n:=by
 unfold Tb.get
 split
 · rename_i hk
   rw [List.getD_eq_getElem?_getD]
   have:k.toNat < t.l.length:=by rw [h.len];omega
   rw [List.getElem?_eq_getElem this]
   exact h.e0 _ (List.getElem_mem this)
 · exact ⟨Int.le_refl _,hn⟩
theorem Tb.upto.grant {t:Tb} {n:Int} (h:t.upto n) (k node:Int):(t.grant k node).1.upto (n + 1):=by
 have hn:0 ≤ n:=by have:=h.n0;have:=h.n1;omega
 have hg:=Tb.get_epoch h hn k
 have hs:∀ (nd e u:Int),0 ≤ e ∧ e ≤ n + 1 → (Tb.mk t.now (t.l.set k.toNat ⟨nd,e,u⟩)).upto (n + 1):=fun nd e u he =>
  ⟨by simpa using h.len,h.n0,by have:=h.n1;show t.now ≤ _;omega,fun x hx => by
   rcases List.mem_or_eq_of_mem_set hx with hx | rfl
   · have:=h.e0 x hx;omega
   · exact he⟩
 unfold Tb.grant
 split
 · split
   · split
     · exact hs _ _ _ (by omega)
     · exact h.mono (by omega)
   · exact hs _ _ _ (by omega)
 · exact h.mono (by omega)
theorem Tb.upto.does {t:Tb} {n:Int} (h:t.upto n) (a:Act):(t.does a).upto (n + 1):=by
 unfold Tb.does
 split
 · exact h.tick
 · exact h.grant _ _
def Tb.empty:Tb:=⟨0,List.replicate 8 ⟨0,0,0⟩⟩
theorem Tb.empty_upto:Tb.empty.upto 0:=⟨rfl,by decide,by decide,fun x hx => by
 have:=List.eq_of_mem_replicate hx;subst this;exact ⟨by decide,by decide⟩⟩
def Tb.ticks (t:Tb) (n:Nat):Tb:=⟨t.now + n,t.l⟩
theorem Tb.upto.ticks {t:Tb} {n:Int} (h:t.upto n) (k:Nat):(t.ticks k).upto (n + k):=
 ⟨h.len,by have:=h.n0;show 0 ≤ t.now + k;omega,by have:=h.n1;show t.now + k ≤ _;omega,fun x hx => by have:=h.e0 x hx;omega⟩
def Tb.t1:Tb:=(Tb.empty.grant 3 1).1
def Tb.t2:Tb:=(Tb.t1.grant 3 2).1
def Tb.t3:Tb:=(Tb.t2.grant 3 1).1
def Tb.t4:Tb:=Tb.t3.ticks 6
def Tb.t5:Tb:=(Tb.t4.grant 3 2).1
theorem field_lease1 (x y z:Int) (w:World):(Instr.field 29 (.agg #[.int .i64 x,.int .i64 y,.int .i64 z]) 1).run Tryz.prog w = .ok (.int .i64 y) w:=by kernel_rfl
def Tb.after (l:List Act) (k:Nat):Tb:=(l.take k).foldl Tb.does Tb.empty
theorem own_form {w:World} {base n sz:Nat} {e:TypeId} {v:Value} {xs:List Value} (h:w.ownsRow base e sz v n xs) (hn:0 < n):∃ g cap,v = .slice (some ⟨g,0,none⟩) n cap:=by
 obtain ⟨_,h⟩:=h
 rcases h with ⟨_,h⟩ | ⟨g,cap,cur,hv,_⟩
 · omega
 · exact ⟨g,cap,hv⟩
theorem own_ne {w:World} {base g cap n:Nat} {sz:Nat} {e t:TypeId} {xs cs:List Value} {b:Nat} (h:w.ownsRow base e sz (.slice (some ⟨g,0,none⟩) n cap) n xs) (hc:Cells w b t cs) (hne:e ≠ t):g ≠ b:=by
 obtain ⟨_,h⟩:=h
 rcases h with ⟨h,_⟩ | ⟨g',cap',cur,hv,_,hh,_⟩
 · cases h
 · injection hv with hv
   injection hv with hv
   have hgg:g = g':=by injection hv
   subst hgg
   rintro rfl
   unfold Cells at hc
   rw [hh] at hc
   injection hc with hc
   injection hc with _ h2
   exact hne h2
structure RfV (w:World) (B b:Nat) (v:Value) (t:Tb):Prop where
 ge:B ≤ b
 cells:Cells w b 145 [.int .i64 t.now,v]
 own:w.ownsRow B 137 3 v 8 (t.l.flatMap Ls.cells)
 len:t.l.length = 8
theorem flat_ls (l:List Ls) (k:Nat) (x:Ls) (h:l[k]? = some x) (j:Nat) (hj:j < 3):(l.flatMap Ls.cells)[k * 3 + j]? = x.cells[j]?:=flat_get Ls.cells 3 (fun _ => rfl) l k j x h hj
theorem RfV.only {w w':World} {B b:Nat} {v:Value} {t:Tb} (h:RfV w B b v t) (ho:Only [] w w'):RfV w' B b v t:=
 ⟨h.ge,h.cells.only ho (by simp),own_only h.own ho (by simp),h.len⟩
theorem RfV.form {w:World} {B b:Nat} {v:Value} {t:Tb} (h:RfV w B b v t):∃ g cap,v = .slice (some ⟨g,0,none⟩) 8 cap ∧ B ≤ g ∧ g < w.heap.size ∧ g ≠ b ∧
 ∀ (k:Nat) (x:Ls),t.l[k]? = some x → w.cell? ⟨g,k * 3,none⟩ = some (.int .i64 x.node) ∧ w.cell? ⟨g,k * 3 + 1,none⟩ = some (.int .i64 x.epoch) ∧ w.cell? ⟨g,k * 3 + 2,none⟩ = some (.int .i64 x.till):=by
 obtain ⟨g,cap,rfl⟩:=own_form h.own (by omega)
 have hne:=own_ne h.own h.cells (by decide)
 have hlt:=h.own.lt g rfl
 refine ⟨g,cap,rfl,hlt.1,hlt.2,hne,fun k x hx => ?_⟩
 have key:∀ (j:Nat) (u:Value),j < 3 → x.cells[j]? = some u → w.cell? ⟨g,k * 3 + j,none⟩ = some u:=fun j u hj hu => by
  obtain ⟨g2,cap2,e,_,_,hc⟩:=own_cell h.own (k:=k * 3 + j) ((flat_ls t.l k x hx j hj).trans hu)
  injection e with e1 _ _
  injection e1 with e1
  injection e1 with e1
  subst e1
  exact hc
 exact ⟨key 0 _ (by omega) rfl,key 1 _ (by omega) rfl,key 2 _ (by omega) rfl⟩
theorem rf_is (n:Int) (w:World):Calls Tryz.prog 174 #[.int .i64 n] w fun e w' => e = .returned (.bool (decide (0 ≤ n) && decide (n < 8))) ∧ w = w':=by
 by_cases h:0 ≤ n
 · have d:decide (0 ≤ n) = true:=by simpa using h
   go_enter Tryz.func174,Tryz.ntmps174
   go_wp2
   go_ret
   exact ⟨by simp [d],rfl⟩
 · have d:decide (0 ≤ n) = false:=by simpa using h
   go_enter Tryz.func174,Tryz.ntmps174
   go_wp2
   go_ret
   exact ⟨by simp [d],rfl⟩
theorem rf_is_in (k:Nat) (hk:k < 8) (w:World):Calls Tryz.prog 174 #[.int .i64 k] w fun e w' => e = .returned (.bool true) ∧ w = w':=
 (rf_is k w).mono fun e w' h => ⟨by rw [h.1,show decide ((0:Int) ≤ k) = true from by simp,show decide ((k:Int) < 8) = true from by simp;omega];rfl,h.2⟩
theorem rf_is_out (n:Int) (hn:n < 0 ∨ 8 ≤ n) (w:World):Calls Tryz.prog 174 #[.int .i64 n] w fun e w' => e = .returned (.bool false) ∧ w = w':=
 (rf_is n w).mono fun e w' h => ⟨by
  rw [h.1]
  rcases hn with hn | hn
  · rw [show decide ((0:Int) ≤ n) = false from by simp;omega];rfl
  · rw [show decide (n < 8) = false from by simp;omega,Bool.and_false],h.2⟩
theorem rf_live (B b:Nat) (v:Value) (t:Tb) (k:Nat) (x:Ls) (w:World) (h:RfV w B b v t) (hk:k < 8) (hx:t.l[k]? = some x) (d:Bool) (hd:decide (t.now < x.till) = d):
 Calls Tryz.prog 176 #[.pointer (some ⟨b,0,none⟩),.int .i64 k] w fun e w' => e = .returned (.bool d) ∧ Only [] w w':=by
 obtain ⟨g,cap,rfl,hB,hlt,hne,hc⟩:=h.form
 obtain ⟨q0,q1,q2⟩:=hc k _ hx
 have c0:=fun u:Since w => u.cell (h.cells.cell (k:=0) rfl)
 have c1:=fun u:Since w => u.cell (h.cells.cell (k:=1) rfl)
 have p2:=fun u:Since w => u.cell q2
 have hk':(k:Int) < 8:=by omega
 clear hc h hx q0 q1 q2
 go_enter Tryz.func176,Tryz.ntmps176
 go_wp2_with fail
 refine wp_region_only w oz (by kernel_rfl) (by kernel_rfl) ?_
 repeat (go_big_quiet_step (fail))
 refine wpQuiet_nil ?_
 rintro ⟨w1,ho1⟩
 dsimp only
 clear c0 c1 p2
 go_wp2_with fail
 go_ret
 exact ⟨rfl,ho1⟩
theorem rf_get_in (B b:Nat) (v:Value) (t:Tb) (k:Nat) (x:Ls) (w:World) (h:RfV w B b v t) (hk:k < 8) (hx:t.l[k]? = some x):
 Calls Tryz.prog 92 #[.pointer (some ⟨b,0,none⟩),.int .i64 k] w fun e w' => e = .returned x.val ∧ Only [] w w':=by
 have CI:=Hd (fun w => rf_is_in k hk w)
 obtain ⟨g,cap,rfl,hB,hlt,hne,hc⟩:=h.form
 obtain ⟨q0,q1,q2⟩:=hc k _ hx
 have c1:=h.cells.cell (k:=1) rfl
 have hbl:=h.cells.lt
 have hk':(k:Int) < 8:=by omega
 clear hc h hx
 go_enter Tryz.func92,Tryz.ntmps92
 go_wp2_with (go_at_call 174;refine (CI.out _).mono ?_;rintro e w' ⟨rfl,rfl⟩)
 exact bodyPost_ret (v:=x.val) (by simp [results,Tryz.results92,go_sem,Ls.val]) rfl ⟨rfl,oz.alloc _⟩
theorem rf_get_out (b:Nat) (n:Int) (w:World) (hn:n < 0 ∨ 8 ≤ n):
 Calls Tryz.prog 92 #[.pointer (some ⟨b,0,none⟩),.int .i64 n] w fun e w' => e = .returned (Ls.val ⟨0,0,0⟩) ∧ Only [] w w':=by
 have CI:=Hd (fun w => rf_is_out n hn w)
 go_enter Tryz.func92,Tryz.ntmps92
 go_wp2_with (go_at_call 174;refine (CI.out _).mono ?_;rintro e w' ⟨rfl,rfl⟩)
 exact bodyPost_ret (v:=Ls.val ⟨0,0,0⟩) (by simp [results,Tryz.results92,go_sem,Ls.val]) rfl ⟨rfl,oz.alloc _⟩
theorem rf_get (B b:Nat) (v:Value) (t:Tb) (n:Int) (w:World) (h:RfV w B b v t):
 Calls Tryz.prog 92 #[.pointer (some ⟨b,0,none⟩),.int .i64 n] w fun e w' => e = .returned (t.get n).val ∧ Only [] w w':=by
 by_cases hn:0 ≤ n ∧ n < 8
 · obtain ⟨k,rfl⟩:=Int.eq_ofNat_of_zero_le hn.1
   exact rf_get_in B b v t k _ w h (by omega) (t.get_in h.len k (by omega))
 · rw [show t.get n = ⟨0,0,0⟩ from by unfold Tb.get;rw [if_neg hn]]
   exact rf_get_out b n w (by omega)
theorem rf_grant_err (b:Nat) (n node:Int) (w:World) (hn:n < 0 ∨ 8 ≤ n ∨ node < 1 ∨ 9 < node):
 Calls Tryz.prog 166 #[.pointer (some ⟨b,0,none⟩),.int .i64 n,.int .i64 node] w fun e w' => e = .returned (.tuple #[.int .i64 0,.int .i64 2]) ∧ w = w':=by
 by_cases h:n < 0 ∨ 8 ≤ n
 · have CI:=Hd (fun w => rf_is_out n h w)
   go_enter Tryz.func166,Tryz.ntmps166
   go_wp2_with (go_at_call 174;refine (CI.out _).mono ?_;rintro e w' ⟨rfl,rfl⟩)
   go_ret2
   exact ⟨rfl,rfl⟩
 · obtain ⟨k,rfl⟩:=Int.eq_ofNat_of_zero_le (show 0 ≤ n by omega)
   have CI:=Hd (fun w => rf_is_in k (by omega) w)
   by_cases h1:node < 1
   · have d1:decide (node < 1) = true:=by simpa using h1
     go_enter Tryz.func166,Tryz.ntmps166
     go_wp2_with (go_at_call 174;refine (CI.out _).mono ?_;rintro e w' ⟨rfl,rfl⟩)
     go_ret2
     exact ⟨rfl,rfl⟩
   · have d1:decide (node < 1) = false:=by simpa using h1
     have d2:decide (9 < node) = true:=by simp;omega
     go_enter Tryz.func166,Tryz.ntmps166
     go_wp2_with (go_at_call 174;refine (CI.out _).mono ?_;rintro e w' ⟨rfl,rfl⟩)
     go_ret2
     exact ⟨rfl,rfl⟩
theorem rf_grant_held (B b k:Nat) (v:Value) (t:Tb) (x:Ls) (node:Int) (w:World) (h:RfV w B b v t) (hx:t.l[k]? = some x) (hk:k < 8) (n1:1 ≤ node) (n9:node ≤ 9) (hne:x.node ≠ node) (hl:t.now < x.till):
 Calls Tryz.prog 166 #[.pointer (some ⟨b,0,none⟩),.int .i64 k,.int .i64 node] w fun e w' => e = .returned (.tuple #[.int .i64 0,.int .i64 16]) ∧ Only [] w w':=by
 have CI:=Hd (fun w => rf_is_in k hk w)
 have d1:decide (node < 1) = false:=by simp;omega
 have d2:decide (9 < node) = false:=by simp;omega
 have d3:(x.node != node) = true:=by simpa using hne
 have CL:=Hd (fun w' (ho:Only [] w w') => rf_live B b v t k x w' (h.only ho) hk hx true (by simpa using hl))
 obtain ⟨g,cap,rfl,hB,hlt,hgb,hc⟩:=h.form
 obtain ⟨q0,q1,q2⟩:=hc k _ hx
 have c1:=h.cells.cell (k:=1) rfl
 have hbl:=h.cells.lt
 have hk':(k:Int) < 8:=by omega
 have hoA:Only [] w (w.alloc (.cells #[.int .i64 x.node,.int .i64 x.epoch,.int .i64 x.till] 137)):=oz.alloc _
 have HX:=Hd (Cells.new w 137 [.int .i64 x.node,.int .i64 x.epoch,.int .i64 x.till])
 clear hc h hx hne hl
 go_enter Tryz.func166,Tryz.ntmps166
 go_wp2_with (first
  | (go_at_call 174;refine (CI.out _).mono ?_;rintro e w' ⟨rfl,rfl⟩)
  | (go_at_call 176;refine (CL.out _ hoA).mono ?_;rintro e w1 ⟨rfl,ho1⟩;have r0:=(HX.out.only ho1 (by simp)).cell (k:=0) rfl))
 go_ret2
 exact ⟨rfl,hoA.tr ho1⟩
def rbv (v:Value):List Nat:=v.ownBlock.toList
theorem row_set (w:World) (base g cap n k:Nat) (e:TypeId) (ls:List Ls) (x:Ls) (h:w.ownsRow base e 3 (.slice (some ⟨g,0,none⟩) n cap) n (ls.flatMap Ls.cells)) (hk:ls[k]? = some x) (y:Ls):
 (((w.setCell ⟨g,k * 3,none⟩ (.int .i64 y.node)).setCell ⟨g,k * 3 + 1,none⟩ (.int .i64 y.epoch)).setCell ⟨g,k * 3 + 2,none⟩ (.int .i64 y.till)).ownsRow base e 3 (.slice (some ⟨g,0,none⟩) n cap) n ((ls.set k y).flatMap Ls.cells):=by
 have hkl:k < ls.length:=(List.getElem?_eq_some_iff.1 hk).1
 have h1:=(h.stored (k * 3) (.int .i64 y.node)).1
 rw [show k * 3 = k * 3 + 0 from rfl,flat_set Ls.cells 3 Ls.cells_length ls k 0 x ⟨y.node,x.epoch,x.till⟩ _ hk (by omega) rfl] at h1
 have h2:=(h1.stored (k * 3 + 1) (.int .i64 y.epoch)).1
 rw [flat_set Ls.cells 3 Ls.cells_length _ k 1 ⟨y.node,x.epoch,x.till⟩ ⟨y.node,y.epoch,x.till⟩ _ (by simp [hkl]) (by omega) rfl] at h2
 have h3:=(h2.stored (k * 3 + 2) (.int .i64 y.till)).1
 rw [flat_set Ls.cells 3 Ls.cells_length _ k 2 ⟨y.node,y.epoch,x.till⟩ ⟨y.node,y.epoch,y.till⟩ _ (by simp [hkl]) (by omega) rfl] at h3
 simpa using h3
theorem RfV.put {w:World} {B b g cap k:Nat} {t:Tb} {x:Ls} (h:RfV w B b (.slice (some ⟨g,0,none⟩) 8 cap) t) (hx:t.l[k]? = some x) (hne:g ≠ b) (y:Ls):
 RfV (((w.setCell ⟨g,k * 3,none⟩ (.int .i64 y.node)).setCell ⟨g,k * 3 + 1,none⟩ (.int .i64 y.epoch)).setCell ⟨g,k * 3 + 2,none⟩ (.int .i64 y.till)) B b (.slice (some ⟨g,0,none⟩) 8 cap) ⟨t.now,t.l.set k y⟩:=
 ⟨h.ge,((h.cells.far (p:=⟨g,k * 3,none⟩) (Ne.symm hne) _).far (p:=⟨g,k * 3 + 1,none⟩) (Ne.symm hne) _).far (p:=⟨g,k * 3 + 2,none⟩) (Ne.symm hne) _,row_set w B g cap 8 k _ t.l x h.own hx y,by simpa using h.len⟩
theorem RfV.frozen {w:World} {B b g cap:Nat} {t:Tb} (h:RfV w B b (.slice (some ⟨g,0,none⟩) 8 cap) t) (j:Nat):w.frozen? ⟨g,j,none⟩ = false:=h.own.frozenAt _
theorem rf_grant_new (B b k:Nat) (v:Value) (t:Tb) (x:Ls) (node:Int) (w:World) (h:RfV w B b v t) (hx:t.l[k]? = some x) (hk:k < 8) (n1:1 ≤ node) (n9:node ≤ 9)
 (h0:-4611686018427387904 ≤ t.now) (h1:t.now ≤ 4611686018427387904) (e0:-4611686018427387904 ≤ x.epoch) (e1:x.epoch ≤ 4611686018427387904) (hl:x.till ≤ t.now):
 Calls Tryz.prog 166 #[.pointer (some ⟨b,0,none⟩),.int .i64 k,.int .i64 node] w fun e w' =>
  e = .returned (.tuple #[.int .i64 (x.epoch + 1),.int .i64 0]) ∧ Only (rbv v) w w' ∧ RfV w' B b v ⟨t.now,t.l.set k ⟨node,x.epoch + 1,t.now + 6⟩⟩:=by
 have CI:=Hd (fun w => rf_is_in k hk w)
 have d1:decide (node < 1) = false:=by simp;omega
 have d2:decide (9 < node) = false:=by simp;omega
 have CL:=Hd (fun w' (ho:Only [] w w') => rf_live B b v t k x w' (h.only ho) hk hx false (by simp;omega))
 have HR:=Hd h
 have HK:=Hd hx
 obtain ⟨g,cap,rfl,hB,hlt,hgb,hc⟩:=h.form
 obtain ⟨q0,q1,q2⟩:=hc k _ hx
 have c1:=h.cells.cell (k:=1) rfl
 have hbl:=h.cells.lt
 have hk':(k:Int) < 8:=by omega
 have hoA:Only [] w (w.alloc (.cells #[.int .i64 x.node,.int .i64 x.epoch,.int .i64 x.till] 137)):=oz.alloc _
 have HX:=Hd (Cells.new w 137 [.int .i64 x.node,.int .i64 x.epoch,.int .i64 x.till])
 clear hc h hx hl
 go_enter Tryz.func166,Tryz.ntmps166
 go_wp2_with (first
  | (go_at_call 174;refine (CI.out _).mono ?_;rintro e w' ⟨rfl,rfl⟩)
  | (go_at_call 176;refine (CL.out _ hoA).mono ?_;rintro e w1 ⟨rfl,ho1⟩;have HX1:=HX.out.only ho1 (by simp);have r0:=HX1.cell (k:=0) rfl;have r1:=HX1.cell (k:=1) rfl;have r2:=HX1.cell (k:=2) rfl;have z0:=HX1.frozen 0;have z1:=HX1.frozen 1;have z2:=HX1.frozen 2;have zl:=HX1.lt;have m0:=HR.out.cells.only (hoA.tr ho1) (by simp);have m1:=m0.cell (k:=0) rfl;have m2:=m0.cell (k:=1) rfl;clear m0;have hne:b ≠ w.heap.size:=by omega))
 obtain ⟨w9,hw9⟩:∃ w9,w9 = ((((w1.setCell ⟨w.heap.size,0,none⟩ (.int .i64 node)).setCell ⟨w.heap.size,1,none⟩ (.int .i64 (x.epoch + 1))).setCell ⟨w.heap.size,2,none⟩ (.int .i64 0)).setCell ⟨w.heap.size,2,none⟩ (.int .i64 (t.now + 6))):=⟨_,rfl⟩
 have HX9:Cells w9 w.heap.size 137 [.int .i64 node,.int .i64 (x.epoch + 1),.int .i64 (t.now + 6)]:=by rw [hw9];exact (((HX1.set 0 _).set 1 _).set 2 _).set 2 _
 have hO9:Only [] w w9:=by rw [hw9];exact ((((hoA.tr ho1).setCell (.inr (Nat.le_refl _)) _).setCell (.inr (Nat.le_refl _)) _).setCell (.inr (Nat.le_refl _)) _).setCell (.inr (Nat.le_refl _)) _
 rw [← hw9]
 clear hw9 m1 m2 r0 r1 r2 z0 z1 z2 zl HX1 ho1 hoA HX CL CI q0 q1 q2 c1
 have HR9:=Hd (HR.out.only hO9)
 have c1:=fun u:Since w9 => u.cell (HR9.out.cells.cell (k:=1) rfl)
 have y0:=fun u:Since w9 => u.cell (HX9.cell (k:=0) rfl)
 have y1:=fun u:Since w9 => u.cell (HX9.cell (k:=1) rfl)
 have y2:=fun u:Since w9 => u.cell (HX9.cell (k:=2) rfl)
 refine wp_region_only_tail w9 oz 7 (by kernel_rfl) (by kernel_rfl) ?_
 simp only [tk1,tk0,dr1,dr0]
 repeat (go_big_quiet_step (fail))
 refine wpQuiet_nil ?_
 rintro ⟨w10,ho10⟩
 dsimp only
 clear c1 y0 y1 y2
 have HR10:=Hd (HR9.out.only ho10)
 have HX10:=HX9.only ho10 (by simp)
 have f0:=HR10.out.frozen (k * 3)
 have f1:=HR10.out.frozen (k * 3 + 1)
 have f2:=HR10.out.frozen (k * 3 + 2)
 obtain ⟨g',cap',e',hB',hlt',hgb',hc'⟩:=HR10.out.form
 injection e' with e1' e2' e3'
 injection e1' with e1'
 injection e1' with e1'
 subst e1'
 subst e3'
 obtain ⟨q0,q1,q2⟩:=hc' k x HK.out
 have hgs:g ≠ w.heap.size:=by omega
 have s1:(((w10.setCell ⟨g,k * 3,none⟩ (.int .i64 node)).setCell ⟨g,k * 3 + 1,none⟩ (.int .i64 (x.epoch + 1))).setCell ⟨g,k * 3 + 2,none⟩ (.int .i64 (t.now + 6))).cell? ⟨w.heap.size,1,none⟩ = some (.int .i64 (x.epoch + 1)):=
  (((HX10.far (p:=⟨g,k * 3,none⟩) (Ne.symm hgs) _).far (p:=⟨g,k * 3 + 1,none⟩) (Ne.symm hgs) _).far (p:=⟨g,k * 3 + 2,none⟩) (Ne.symm hgs) _).cell (k:=1) rfl
 clear hc'
 go_wp2_with fail
 go_ret2
 exact ⟨rfl,(((hO9.tr0 ho10).of0.setCell (.inl (by simp [rbv,Value.ownBlock])) _).setCell (.inl (by simp [rbv,Value.ownBlock])) _).setCell (.inl (by simp [rbv,Value.ownBlock])) _,HR10.out.put HK.out hgb ⟨node,x.epoch + 1,t.now + 6⟩⟩
theorem rf_grant_again (B b k:Nat) (v:Value) (t:Tb) (x:Ls) (w:World) (h:RfV w B b v t) (hx:t.l[k]? = some x) (hk:k < 8) (n1:1 ≤ x.node) (n9:x.node ≤ 9)
 (h0:-4611686018427387904 ≤ t.now) (h1:t.now ≤ 4611686018427387904) (hl:t.now < x.till):
 Calls Tryz.prog 166 #[.pointer (some ⟨b,0,none⟩),.int .i64 k,.int .i64 x.node] w fun e w' =>
  e = .returned (.tuple #[.int .i64 (x.epoch),.int .i64 0]) ∧ Only (rbv v) w w' ∧ RfV w' B b v ⟨t.now,t.l.set k ⟨x.node,x.epoch,t.now + 6⟩⟩:=by
 have CI:=Hd (fun w => rf_is_in k hk w)
 have d1:decide (x.node < 1) = false:=by simp;omega
 have d2:decide (9 < x.node) = false:=by simp;omega
 have CL:=Hd (fun w' (ho:Only [] w w') => rf_live B b v t k x w' (h.only ho) hk hx true (by simpa using hl))
 have HR:=Hd h
 have HK:=Hd hx
 obtain ⟨g,cap,rfl,hB,hlt,hgb,hc⟩:=h.form
 obtain ⟨q0,q1,q2⟩:=hc k _ hx
 have c1:=h.cells.cell (k:=1) rfl
 have hbl:=h.cells.lt
 have hk':(k:Int) < 8:=by omega
 have hoA:Only [] w (w.alloc (.cells #[.int .i64 x.node,.int .i64 x.epoch,.int .i64 x.till] 137)):=oz.alloc _
 have HX:=Hd (Cells.new w 137 [.int .i64 x.node,.int .i64 x.epoch,.int .i64 x.till])
 clear hc h hx hl
 go_enter Tryz.func166,Tryz.ntmps166
 go_wp2_with (first
  | (go_at_call 174;refine (CI.out _).mono ?_;rintro e w' ⟨rfl,rfl⟩)
  | (go_at_call 176;refine (CL.out _ hoA).mono ?_;rintro e w1 ⟨rfl,ho1⟩;have HX1:=HX.out.only ho1 (by simp);have r0:=HX1.cell (k:=0) rfl;have r1:=HX1.cell (k:=1) rfl;have r2:=HX1.cell (k:=2) rfl;have z0:=HX1.frozen 0;have z1:=HX1.frozen 1;have z2:=HX1.frozen 2;have zl:=HX1.lt;have m0:=HR.out.cells.only (hoA.tr ho1) (by simp);have m1:=m0.cell (k:=0) rfl;have m2:=m0.cell (k:=1) rfl;clear m0;have hne:b ≠ w.heap.size:=by omega))
 obtain ⟨w9,hw9⟩:∃ w9,w9 = w1.setCell ⟨w.heap.size,2,none⟩ (.int .i64 (t.now + 6)):=⟨_,rfl⟩
 have HX9:Cells w9 w.heap.size 137 [.int .i64 x.node,.int .i64 (x.epoch),.int .i64 (t.now + 6)]:=by rw [hw9];exact HX1.set 2 _
 have hO9:Only [] w w9:=by rw [hw9];exact (hoA.tr ho1).setCell (.inr (Nat.le_refl _)) _
 rw [← hw9]
 clear hw9 m1 m2 r0 r1 r2 z0 z1 z2 zl HX1 ho1 hoA HX CL CI q0 q1 q2 c1
 have HR9:=Hd (HR.out.only hO9)
 have c1:=fun u:Since w9 => u.cell (HR9.out.cells.cell (k:=1) rfl)
 have y0:=fun u:Since w9 => u.cell (HX9.cell (k:=0) rfl)
 have y1:=fun u:Since w9 => u.cell (HX9.cell (k:=1) rfl)
 have y2:=fun u:Since w9 => u.cell (HX9.cell (k:=2) rfl)
 refine wp_region_only_tail w9 oz 7 (by kernel_rfl) (by kernel_rfl) ?_
 simp only [tk1,tk0,dr1,dr0]
 repeat (go_big_quiet_step (fail))
 refine wpQuiet_nil ?_
 rintro ⟨w10,ho10⟩
 dsimp only
 clear c1 y0 y1 y2
 have HR10:=Hd (HR9.out.only ho10)
 have HX10:=HX9.only ho10 (by simp)
 have f0:=HR10.out.frozen (k * 3)
 have f1:=HR10.out.frozen (k * 3 + 1)
 have f2:=HR10.out.frozen (k * 3 + 2)
 obtain ⟨g',cap',e',hB',hlt',hgb',hc'⟩:=HR10.out.form
 injection e' with e1' e2' e3'
 injection e1' with e1'
 injection e1' with e1'
 subst e1'
 subst e3'
 obtain ⟨q0,q1,q2⟩:=hc' k x HK.out
 have hgs:g ≠ w.heap.size:=by omega
 have s1:(((w10.setCell ⟨g,k * 3,none⟩ (.int .i64 x.node)).setCell ⟨g,k * 3 + 1,none⟩ (.int .i64 (x.epoch))).setCell ⟨g,k * 3 + 2,none⟩ (.int .i64 (t.now + 6))).cell? ⟨w.heap.size,1,none⟩ = some (.int .i64 (x.epoch)):=
  (((HX10.far (p:=⟨g,k * 3,none⟩) (Ne.symm hgs) _).far (p:=⟨g,k * 3 + 1,none⟩) (Ne.symm hgs) _).far (p:=⟨g,k * 3 + 2,none⟩) (Ne.symm hgs) _).cell (k:=1) rfl
 clear hc'
 go_wp2_with fail
 go_ret2
 exact ⟨rfl,(((hO9.tr0 ho10).of0.setCell (.inl (by simp [rbv,Value.ownBlock])) _).setCell (.inl (by simp [rbv,Value.ownBlock])) _).setCell (.inl (by simp [rbv,Value.ownBlock])) _,HR10.out.put HK.out hgb ⟨x.node,x.epoch,t.now + 6⟩⟩
theorem RfV.far {S:List Nat} {w w':World} {B b:Nat} {v:Value} {t:Tb} (h:RfV w B b v t) (ho:Only S w w') (hS:∀ x,x ∈ S → x < B):RfV w' B b v t:=
 ⟨h.ge,h.cells.only ho (fun hx => by have:=hS _ hx;have:=h.ge;omega),own_only h.own ho hS,h.len⟩
theorem rf_grant (B b:Nat) (v:Value) (t:Tb) (n node:Int) (w:World) (h:RfV w B b v t) (ht:t.small):
 Calls Tryz.prog 166 #[.pointer (some ⟨b,0,none⟩),.int .i64 n,.int .i64 node] w fun e w' =>
  e = .returned (.tuple #[.int .i64 (t.grant n node).2.1,.int .i64 (t.grant n node).2.2]) ∧ Only (rbv v) w w' ∧ RfV w' B b v (t.grant n node).1:=by
 by_cases hh:0 ≤ n ∧ n < 8 ∧ 1 ≤ node ∧ node ≤ 9
 · obtain ⟨k,rfl⟩:=Int.eq_ofNat_of_zero_le hh.1
   have hg:=t.get_in ht.len k (by omega)
   have he:=ht.e0 _ (List.mem_of_getElem? hg)
   have hn0:=ht.n0
   have hn1:=ht.n1
   by_cases hl:t.now < (t.get k).till
   · by_cases hn:(t.get k).node = node
     · subst hn
       rw [show t.grant k (t.get k).node = (⟨t.now,t.l.set k ⟨(t.get k).node,(t.get k).epoch,t.now + 6⟩⟩,(t.get k).epoch,0) from by
        unfold Tb.grant;rw [if_pos hh,if_pos hl,if_pos rfl,Int.toNat_natCast]]
       exact rf_grant_again B b k v t _ w h hg (by omega) (by omega) (by omega) (by omega) (by omega) hl
     · rw [show t.grant k node = (t,0,16) from by unfold Tb.grant;rw [if_pos hh,if_pos hl,if_neg hn]]
       exact (rf_grant_held B b k v t _ node w h hg (by omega) (by omega) (by omega) hn hl).mono fun e w' ⟨h1,h2⟩ => ⟨h1,h2.of0,h.only h2⟩
   · rw [show t.grant k node = (⟨t.now,t.l.set k ⟨node,(t.get k).epoch + 1,t.now + 6⟩⟩,(t.get k).epoch + 1,0) from by
      unfold Tb.grant;rw [if_pos hh,if_neg hl,Int.toNat_natCast]]
     exact rf_grant_new B b k v t _ node w h hg (by omega) (by omega) (by omega) (by omega) (by omega) (by omega) (by omega) (by omega)
 · rw [show t.grant n node = (t,0,2) from by unfold Tb.grant;rw [if_neg hh]]
   refine (rf_grant_err b n node w (by omega)).mono ?_
   rintro e w' ⟨h1,rfl⟩
   exact ⟨h1,Only.refl _ _,h⟩
theorem rf_check_in (B b k:Nat) (v:Value) (t:Tb) (x:Ls) (node epoch:Int) (w:World) (h:RfV w B b v t) (hx:t.l[k]? = some x) (hk:k < 8) (d1 d2 d3:Bool)
 (hd:d1 = false ∨ (d1 = true ∧ d2 = true) ∨ (d1 = true ∧ d2 = false ∧ d3 = true) ∨ (d1 = true ∧ d2 = false ∧ d3 = false))
 (hd1:decide (t.now < x.till) = d1) (hd2:(x.node != node) = d2) (hd3:(x.epoch != epoch) = d3):
 Calls Tryz.prog 167 #[.pointer (some ⟨b,0,none⟩),.int .i64 k,.int .i64 node,.int .i64 epoch] w fun e w' =>
  e = .returned (.int .i64 (if d1 && !d2 && !d3 then 0 else 15)) ∧ Only [] w w':=by
 have CI:=Hd (fun w => rf_is_in k hk w)
 have CL:=Hd (rf_live B b v t k x w h hk hx d1 hd1)
 have HR:=Hd h
 have HK:=Hd hx
 obtain ⟨g,cap,rfl,hB,hlt,hgb,hc⟩:=h.form
 have hk':(k:Int) < 8:=by omega
 clear hc h hx hd1
 rcases hd with rfl | ⟨rfl,rfl⟩ | ⟨rfl,rfl,rfl⟩ | ⟨rfl,rfl,rfl⟩
 all_goals
  go_enter Tryz.func167,Tryz.ntmps167
  go_wp2_with (first
   | (go_at_call 174;refine (CI.out _).mono ?_;rintro e w' ⟨rfl,rfl⟩)
   | (go_at_call 176;refine CL.out.mono ?_;rintro e w1 ⟨rfl,ho1⟩;obtain ⟨g',cap',e',hB',hlt',hgb',hc'⟩:=(HR.out.only ho1).form;injection e' with e1' e2' e3';injection e1' with e1';injection e1' with e1';subst e1';subst e3';obtain ⟨q0,q1,q2⟩:=hc' k x HK.out;have c1:=(HR.out.only ho1).cells.cell (k:=1) rfl;clear hc'))
  go_ret
  exact ⟨by simp,ho1⟩
theorem rf_check_out (b:Nat) (n node epoch:Int) (w:World) (hn:n < 0 ∨ 8 ≤ n):
 Calls Tryz.prog 167 #[.pointer (some ⟨b,0,none⟩),.int .i64 n,.int .i64 node,.int .i64 epoch] w fun e w' => e = .returned (.int .i64 15) ∧ Only [] w w':=by
 have CI:=Hd (fun w => rf_is_out n hn w)
 go_enter Tryz.func167,Tryz.ntmps167
 go_wp2_with (go_at_call 174;refine (CI.out _).mono ?_;rintro e w' ⟨rfl,rfl⟩)
 go_ret
 exact ⟨rfl,Only.refl _ _⟩
theorem rf_check (B b:Nat) (v:Value) (t:Tb) (n node epoch:Int) (w:World) (h:RfV w B b v t):
 Calls Tryz.prog 167 #[.pointer (some ⟨b,0,none⟩),.int .i64 n,.int .i64 node,.int .i64 epoch] w fun e w' => e = .returned (.int .i64 (t.check n node epoch)) ∧ Only [] w w':=by
 by_cases hn:0 ≤ n ∧ n < 8
 · obtain ⟨k,rfl⟩:=Int.eq_ofNat_of_zero_le hn.1
   refine (rf_check_in B b k v t _ node epoch w h (t.get_in h.len k (by omega)) (by omega) _ _ _ ?_ rfl rfl rfl).mono ?_
   · cases decide (t.now < (t.get k).till) <;> cases ((t.get k).node != node) <;> cases ((t.get k).epoch != epoch) <;> simp
   · rintro e w' ⟨rfl,ho⟩
     refine ⟨?_,ho⟩
     unfold Tb.check
     by_cases h1:t.now < (t.get k).till <;> by_cases h2:(t.get k).node = node <;> by_cases h3:(t.get k).epoch = epoch <;> simp [h1,h2,h3,hn.1,hn.2] <;> omega
 · rw [show t.check n node epoch = 15 from by unfold Tb.check;rw [if_neg (by omega)]]
   exact rf_check_out b n node epoch w (by omega)
theorem make_ls (w:World):(Instr.makeSlice 143 (.int .i64 8) (.int .i64 8)).run Tryz.prog w = .ok (.slice (some ⟨w.heap.size,0,none⟩) 8 8) (w.alloc (.cells (((List.replicate 8 (⟨0,0,0⟩:Ls)).flatMap Ls.cells).toArray) 137)):=by kernel_rfl
theorem rf_new (w:World):Calls Tryz.prog 81 #[] w fun e w' => ∃ b v,e = .returned (.pointer (some ⟨b,0,none⟩)) ∧ Only [] w w' ∧ RfV w' w.heap.size b v Tb.empty:=by
 have hmk:=make_ls
 obtain ⟨cs,hcs⟩:∃ cs,(List.replicate 8 (⟨0,0,0⟩:Ls)).flatMap Ls.cells = cs:=⟨_,rfl⟩
 rw [hcs] at hmk
 have HCS:=Hd hcs
 clear hcs
 go_enter Tryz.func81,Tryz.ntmps81
 go_wp2
 go_ret
 refine ⟨w.heap.size + 1,.slice (some ⟨w.heap.size,0,none⟩) 8 8,rfl,(oz.alloc _).alloc _,⟨?_,?_,?_,rfl⟩⟩
 · simp
 · have:=Cells.new (w.alloc (.cells cs.toArray 137)) 145 [.int .i64 0,.slice (some ⟨w.heap.size,0,none⟩) 8 8]
   simpa [Tb.empty] using this
 · show World.ownsRow _ _ _ _ _ _ ((List.replicate 8 (⟨0,0,0⟩:Ls)).flatMap Ls.cells)
   rw [HCS.out]
   refine own_only (World.ownsRow_lit (base:=w.heap.size) (e:=137) (size:=3) w cs.toArray 8 (Nat.le_refl _) (by decide) (by rw [← HCS.out];rfl)) ((Only.refl [] _).alloc _) (by simp)
structure Tb.Fit (t:Tb):Prop where
 now:Wide64 t.now
 node:∀ x ∈ t.l,Wide64 x.node
 epoch:∀ x ∈ t.l,Wide64 x.epoch
 till:∀ x ∈ t.l,Wide64 x.till
def Ls.bytes (x:Ls):List UInt8:=ib x.node ++ ib x.epoch ++ ib x.till
def lsB (l:List Ls):List UInt8:=l.flatMap Ls.bytes
def Tb.bytes (t:Tb):List UInt8:=ib t.now ++ lsB t.l
theorem lsB_snoc (l:List Ls) (k:Nat) (x:Ls) (h:l[k]? = some x):lsB (l.take (k + 1)) = lsB (l.take k) ++ x.bytes:=by
 unfold lsB
 rw [List.take_add_one,h,List.flatMap_append];simp
theorem Ls.bytes_length {x:Ls} (h0:Wide64 x.node) (h1:Wide64 x.epoch) (h2:Wide64 x.till):x.bytes.length ≤ 30:=by
 have a:=(ib_length _ h0).2
 have b:=(ib_length _ h1).2
 have c:=(ib_length _ h2).2
 unfold Ls.bytes
 rw [List.length_append,List.length_append];omega
theorem lsB_length {l:List Ls} (h0:∀ x ∈ l,Wide64 x.node) (h1:∀ x ∈ l,Wide64 x.epoch) (h2:∀ x ∈ l,Wide64 x.till):(lsB l).length ≤ 30 * l.length:=by
 induction l with
 | nil => simp [lsB]
 | cons x l ih =>
  have a:=Ls.bytes_length (h0 x (by simp)) (h1 x (by simp)) (h2 x (by simp))
  have b:=ih (fun y hy => h0 y (by simp [hy])) (fun y hy => h1 y (by simp [hy])) (fun y hy => h2 y (by simp [hy]))
  unfold lsB at b ⊢
  rw [List.flatMap_cons,List.length_append,List.length_cons];omega
theorem rf_pack (B b:Nat) (v:Value) (t:Tb) (w:World) (h:RfV w B b v t) (hf:t.Fit):
 Calls Tryz.prog 101 #[.pointer (some ⟨b,0,none⟩)] w fun e w' => e = .returned (.string ⟨t.bytes.toArray⟩) ∧ Only [] w w':=by
 have HR:=Hd h
 have HF:=Hd hf
 have hlen:=h.len
 obtain ⟨g,cap,rfl,hB,hlt,hgb,hc⟩:=h.form
 have HC:=Hd hc
 have c0:=h.cells.cell (k:=0) rfl
 have CN:Hid (∀ w,Calls Tryz.prog 117 #[.int .i64 t.now] w fun e w' => e = .returned (.string ⟨(ib t.now).toArray⟩) ∧ Only [] w w'):=fun w => ref_int _ w hf.now
 have l1:=(ib_length _ hf.now).2
 clear h hc hf
 go_enter Tryz.func101,Tryz.ntmps101
 go_wp2_with (go_at_call 117;refine (CN.out _).mono ?_;rintro e w1 ⟨rfl,ho1⟩)
 clear c0
 go_loopw [3,4] (fun s i wr => ∃ k:Nat,k ≤ 8 ∧ i = .int .i64 k ∧ s = .string ⟨(ib t.now ++ lsB (t.l.take k)).toArray⟩ ∧ Only [] w wr) (fun _ i _ => 8 - (intOf i).toNat)
 case atStart => exact ⟨0,by omega,rfl,by simp [lsB],ho1⟩
 case round =>
  obtain ⟨k,hk,rfl,rfl,ho⟩:=hrel
  by_cases hk8:k < 8
  · have hk8':(k:Int) < 8:=by omega
    have hk1:=List.getElem?_eq_getElem (l:=t.l) (i:=k) (by omega)
    obtain ⟨x,hx⟩:∃ x,t.l[k]'(by omega) = x:=⟨_,rfl⟩
    rw [hx] at hk1
    have hm:=List.mem_of_getElem? hk1
    have w1:=HF.out.node x hm
    have w2:=HF.out.epoch x hm
    have w3:=HF.out.till x hm
    have hxl:=Ls.bytes_length w1 w2 w3
    obtain ⟨q0,q1,q2⟩:=HC.out k x hk1
    have u0:∀ u:Since wr,u.w.cell? ⟨g,k * 3,none⟩ = some (.int .i64 x.node):=fun u => (Since.mk u.w (ho.tr0 u.h)).cell q0
    have u1:∀ u:Since wr,u.w.cell? ⟨g,k * 3 + 1,none⟩ = some (.int .i64 x.epoch):=fun u => (Since.mk u.w (ho.tr0 u.h)).cell q1
    have u2:∀ u:Since wr,u.w.cell? ⟨g,k * 3 + 2,none⟩ = some (.int .i64 x.till):=fun u => (Since.mk u.w (ho.tr0 u.h)).cell q2
    have u3:∀ u:Since wr,u.w.cell? ⟨b,1,none⟩ = some (.slice (some ⟨g,0,none⟩) 8 cap):=fun u => (Since.mk u.w (ho.tr0 u.h)).cell (HR.out.cells.cell (k:=1) rfl)
    have hLl:=lsB_length (l:=t.l.take k) (fun s hs => HF.out.node s (List.mem_of_mem_take hs)) (fun s hs => HF.out.epoch s (List.mem_of_mem_take hs)) (fun s hs => HF.out.till s (List.mem_of_mem_take hs))
    have hLk:(t.l.take k).length ≤ 8:=by rw [List.length_take];omega
    obtain ⟨L,hL⟩:∃ L,ib t.now ++ lsB (t.l.take k) = L:=⟨_,rfl⟩
    have hLL:L.length ≤ 2000000:=by rw [← hL,List.length_append];omega
    have hSL:ib t.now ++ lsB (t.l.take (k + 1)) = L ++ ib x.node ++ ib x.epoch ++ ib x.till:=by rw [lsB_snoc t.l k x hk1,← List.append_assoc,hL];simp [Ls.bytes]
    have HSL:=Hd hSL
    have l2:=(ib_length _ w1).2
    have l3:=(ib_length _ w2).2
    have l4:=(ib_length _ w3).2
    rw [hL]
    clear hx hk1 hm hL hSL hLl hLk hxl q0 q1 q2
    go_wp2_with fail
    refine wp_region_only wr oz (by kernel_rfl) (by kernel_rfl) ?_
    repeat (go_big_quiet_step ((go_at_call 117;refine Calls.only (ref_int _ _ (by assumption)))))
    refine wpQuiet_nil ?_
    rintro ⟨w8,ho8⟩
    dsimp only
    clear u0 u1 u2 u3
    go_wp2_with fail
    go_roundw
    case rel => exact ⟨k + 1,by omega,by go_num,by rw [HSL.out];simp [ba_append],ho.tr0 ho8⟩
    case measure => simp [intOf];omega
  · have hd0:decide ((8:Int) < 8) = false:=by simp
    obtain rfl:k = 8:=by omega
    go_wp2_with fail
    go_ret
    exact ⟨by rw [List.take_of_length_le (by omega)];rfl,ho⟩
theorem SlAt.lit1 (w:World) (t:TypeId) (cs:List Value) (n sz:Nat) (hl:cs.length = n * sz) (hn:n ≤ maxLen):SlAt (w.alloc (.cells cs.toArray t)) (w.alloc (.cells cs.toArray t)).heap.size (.slice (some ⟨w.heap.size,0,none⟩) n n) sz n cs:=
 SlAt.of_own (World.ownsRow_lit (base:=w.heap.size) (e:=t) (size:=sz) w cs.toArray n (Nat.le_refl _) hn (by simpa using hl))
theorem range_leases (b:Nat) (t:Tb) (w:World) (hs:Cells w b 181 t.cells):w.rangeAt b 1 (t.l.flatMap Ls.cells):=by
 intro j v hv
 rw [Nat.add_comm 1]
 exact hs.cell (k:=j + 1) (by simpa [Tb.cells] using hv)
theorem size_leases (t:Tb) (hl:t.l.length = 8):(Tryz.prog.info? 179).map (·.size) = some (t.l.flatMap Ls.cells).length:=by
 rw [flat_length Ls.cells 3 Ls.cells_length,hl];kernel_rfl
theorem flat_take {α:Type} (f:α → List Value) (n:Nat) (hf:∀ x,(f x).length = n) (l:List α) (k:Nat) (x:α) (h:l[k]? = some x):((l.flatMap f).drop (k * n)).take n = f x:=by
 apply List.ext_getElem?
 intro j
 by_cases hj:j < n
 · rw [List.getElem?_take_of_lt hj,List.getElem?_drop]
   exact flat_get f n hf l k j x h hj
 · rw [List.getElem?_eq_none (by rw [List.length_take];omega),List.getElem?_eq_none (by rw [hf];omega)]
theorem part_lease (l:List Ls) (k:Nat) (x:Ls) (hx:l[k]? = some x) (w:World):
 (part 29 (l.flatMap Ls.cells).toArray (k * 3)).run Tryz.prog w = .ok x.val w:=by
 have ha:(isAgg 29).run Tryz.prog w = .ok true w:=by kernel_rfl
 have hs:(sizeOf 29).run Tryz.prog w = .ok 3 w:=by kernel_rfl
 simp only [part,Sem.run_bind,ha,hs,Result.andThen_ok,if_true,Sem.run_pure]
 have e:(l.flatMap Ls.cells).toArray.extract (k * 3) (k * 3 + 3) = x.cells.toArray:=by
  rw [← flat_take Ls.cells 3 Ls.cells_length l k x hx,List.extract_toArray,List.extract_eq_take_drop,Nat.add_sub_cancel_left]
 rw [e];rfl
theorem index_lease (l:List Ls) (k:Nat) (x:Ls) (hk:k < 8) (hx:l[k]? = some x) (w:World):
 (Instr.index 179 (.agg (l.flatMap Ls.cells).toArray) (.int .i64 k)).run Tryz.prog w = .ok x.val w:=by
 have hu:(underlying 179).run Tryz.prog w = .ok (.array 8 29) w:=by kernel_rfl
 have hs:(sizeOf 29).run Tryz.prog w = .ok 3 w:=by kernel_rfl
 have hk':(0:Int) ≤ k ∧ (k:Int) < (8:Nat):=⟨by omega,by omega⟩
 simp only [Instr.index,asIntOf,Sem.run_bind,Sem.run_pure,Result.andThen_ok,hu]
 rw [if_pos hk']
 simp only [Sem.run_bind,Result.andThen_ok,hs,Int.toNat_natCast,part_lease l k x hx w]
theorem codec_int3 (n m k:Int) (h0:Wide64 n) (h1:Wide64 m) (h2:Wide64 k) (w:World) (s:Nat) (hs:s = w.heap.size):
 Calls Tryz.prog 149 #[.slice (some ⟨s,0,none⟩) 3 3] (w.alloc (.cells #[.int .i64 n,.int .i64 m,.int .i64 k] 3)) fun e w' => e = .returned (.string ⟨(ib n ++ ib m ++ ib k).toArray⟩) ∧ Only [] (w.alloc (.cells #[.int .i64 n,.int .i64 m,.int .i64 k] 3)) w':=by
 subst hs
 have:=codec_int _ [n,m,k] _ (SlAt.lit1 w 3 [.int .i64 n,.int .i64 m,.int .i64 k] 3 1 rfl (by decide)) (by intro y hy;simp at hy;rcases hy with rfl | rfl | rfl <;> assumption) (by simp)
 rw [show isb [n,m,k] = ib n ++ ib m ++ ib k from by simp [isb]] at this
 exact this
theorem lease_pack (b:Nat) (t:Tb) (w:World) (hs:Cells w b 181 t.cells) (hl:t.l.length = 8) (hf:t.Fit):
 Calls Tryz.prog 77 #[.pointer (some ⟨b,0,none⟩)] w fun e w' => e = .returned (.string ⟨t.bytes.toArray⟩) ∧ Only [] w w':=by
 have H:=Hd hs
 have HF:=Hd hf
 have c0:=hs.cell t.cell0
 have hbl:=hs.lt
 have CN:=Hd (fun w:World => codec_int _ [t.now] _ (SlAt.lit1 w 3 [.int .i64 t.now] 1 1 rfl (by decide)) (by intro x hx;simp at hx;subst hx;exact hf.now) (by simp))
 have l1:=(ib_length _ hf.now).2
 obtain ⟨CS,hCS⟩:∃ CS,(t.l.flatMap Ls.cells) = CS:=⟨_,rfl⟩
 have HIX:=Hd (fun k x => index_lease t.l k x)
 have HL:=Hd (fun w' (ho:Only [] w w') => range_leases b t w' (hs.only ho (by simp)))
 have HZ:=Hd (size_leases t hl)
 rw [hCS] at HIX HL HZ
 clear hs hf hCS
 have e1:isb [t.now] = ib t.now:=by simp [isb]
 rw [e1] at CN
 clear e1
 go_enter Tryz.func77,Tryz.ntmps77
 go_wp2_with (first
  | (go_at_call 149;refine (CN.out _).mono ?_;rintro e w1 ⟨rfl,ho1⟩)
  | (refine wpList_load_mid rfl 179 _ rfl b 1 rfl CS _ (HL.out _ (((Only.refl [] w).alloc _).tr ho1)) Tryz.underlying179 rfl HZ.out ?_))
 clear c0
 go_loopw [3,16] (fun s i wr => ∃ k:Nat,k ≤ 8 ∧ i = .int .i64 k ∧ s = .string ⟨(ib t.now ++ lsB (t.l.take k)).toArray⟩ ∧ Only [] w wr) (fun _ i _ => 8 - (intOf i).toNat)
 case atStart => exact ⟨0,by omega,rfl,by simp [lsB],((Only.refl [] w).alloc _).tr ho1⟩
 case round =>
  obtain ⟨k,hk,rfl,rfl,ho⟩:=hrel
  by_cases hk8:k < 8
  · have hk8':(k:Int) < 8:=by omega
    have hk1:=List.getElem?_eq_getElem (l:=t.l) (i:=k) (by omega)
    obtain ⟨x,hx⟩:∃ x,t.l[k]'(by omega) = x:=⟨_,rfl⟩
    rw [hx] at hk1
    have hm:=List.mem_of_getElem? hk1
    have w1:=HF.out.node x hm
    have w2:=HF.out.epoch x hm
    have w3:=HF.out.till x hm
    have hxl:=Ls.bytes_length w1 w2 w3
    have hix:=HIX.out k x hk8 hk1
    unfold Ls.val at hix
    have hLl:=lsB_length (l:=t.l.take k) (fun s hs => HF.out.node s (List.mem_of_mem_take hs)) (fun s hs => HF.out.epoch s (List.mem_of_mem_take hs)) (fun s hs => HF.out.till s (List.mem_of_mem_take hs))
    have hLk:(t.l.take k).length ≤ 8:=by rw [List.length_take];omega
    obtain ⟨L,hL⟩:∃ L,ib t.now ++ lsB (t.l.take k) = L:=⟨_,rfl⟩
    have hLL:L.length ≤ 2000000:=by rw [← hL,List.length_append];omega
    have hSL:ib t.now ++ lsB (t.l.take (k + 1)) = L ++ (ib x.node ++ ib x.epoch ++ ib x.till):=by rw [lsB_snoc t.l k x hk1,← List.append_assoc,hL];simp [Ls.bytes]
    have HSL:=Hd hSL
    have CI:=Hd (codec_int3 x.node x.epoch x.till w1 w2 w3)
    unfold Ls.bytes at hxl
    obtain ⟨BX,hBX⟩:∃ BX,ib x.node ++ ib x.epoch ++ ib x.till = BX:=⟨_,rfl⟩
    rw [hBX] at CI HSL hxl
    rw [hL]
    clear hx hk1 hm hL hSL hLl hLk hBX
    go_wp2_with (go_at_call 149;refine (CI.out _ _ (by simp)).mono ?_;rintro e w9 ⟨rfl,ho9⟩)
    go_roundw
    case rel => exact ⟨k + 1,by omega,by go_num,by rw [HSL.out];simp [ba_append],(((ho.alloc _).alloc _).tr ho9)⟩
    case measure => simp [intOf];omega
  · have hd0:decide ((8:Int) < 8) = false:=by simp
    obtain rfl:k = 8:=by omega
    go_wp2_with fail
    go_ret
    exact ⟨by rw [List.take_of_length_le (by omega)];rfl,ho⟩
theorem RfV.tick {w:World} {B b:Nat} {v:Value} {t:Tb} (h:RfV w B b v t):RfV (w.setCell ⟨b,0,none⟩ (.int .i64 (t.now + 1))) B b v t.tick:=by
 obtain ⟨g,cap,rfl,_,_,hne,_⟩:=h.form
 exact ⟨h.ge,h.cells.set 0 _,own_keep (S:=[b]) h.own (oz.setCell (.inl (by simp)) _) (fun x hx => by simp at hx;subst hx;simpa [Value.ownBlock] using hne),h.len⟩
theorem RfV.drew {w:World} {B b:Nat} {v:Value} {t:Tb} (h:RfV w B b v t):RfV w.drew B b v t:=h.only (oz.drew)
def Ls.Right (now:Int) (x:Ls):Prop:=x = ⟨0,0,0⟩ ∨ (1 ≤ x.node ∧ x.node ≤ 9 ∧ 1 ≤ x.epoch ∧ 6 ≤ x.till ∧ x.till ≤ now + 6)
structure Tb.Good (t:Tb) (n:Int):Prop where
 up:t.upto n
 right:∀ x ∈ t.l,x.Right t.now
theorem Tb.empty_good:Tb.empty.Good 0:=⟨Tb.empty_upto,fun x hx => .inl (List.eq_of_mem_replicate hx)⟩
theorem Tb.Good.get {t:Tb} {n:Int} (h:t.Good n) (k:Int):(t.get k).Right t.now:=by
 unfold Tb.get
 split
 · rename_i hk
   rw [List.getD_eq_getElem?_getD]
   have:k.toNat < t.l.length:=by rw [h.up.len];omega
   rw [List.getElem?_eq_getElem this]
   exact h.right _ (List.getElem_mem this)
 · exact .inl rfl
theorem Tb.Good.grant {t:Tb} {n:Int} (h:t.Good n) (k node:Int):(t.grant k node).1.Good (n + 1):=by
 refine ⟨h.up.grant k node,?_⟩
 have hg:=h.get k
 have he:=Tb.get_epoch h.up (by have:=h.up.n0;have:=h.up.n1;omega) k
 have h0:=h.up.n0
 have hs:∀ (nd e:Int),1 ≤ nd → nd ≤ 9 → 1 ≤ e → ∀ x ∈ t.l.set k.toNat ⟨nd,e,t.now + 6⟩,x.Right t.now:=fun nd e h1 h2 h3 x hx => by
  rcases List.mem_or_eq_of_mem_set hx with hx | rfl
  · exact h.right x hx
  · exact .inr ⟨h1,h2,h3,by show 6 ≤ t.now + 6;omega,Int.le_refl _⟩
 unfold Tb.grant
 split
 · rename_i hk
   split
   · rename_i hl
     split
     · rename_i hn
       refine hs _ _ hk.2.2.1 hk.2.2.2 ?_
       rcases hg with hg | hg
       · rw [hg] at hl;exact absurd hl (by show ¬ t.now < 0;omega)
       · exact hg.2.2.1
     · exact h.right
   · exact hs _ _ hk.2.2.1 hk.2.2.2 (by omega)
 · exact h.right
theorem Tb.Good.tick {t:Tb} {n:Int} (h:t.Good n):t.tick.Good (n + 1):=
 ⟨h.up.tick,fun x hx => (h.right x hx).imp_right fun ⟨a,b,c,d,e⟩ => ⟨a,b,c,d,by show x.till ≤ t.now + 1 + 6;omega⟩⟩
theorem Tb.Good.does {t:Tb} {n:Int} (h:t.Good n) (a:Act):(t.does a).Good (n + 1):=by
 unfold Tb.does
 split
 · exact h.tick
 · exact h.grant _ _
theorem Tb.Good.fit {t:Tb} {n:Int} (h:t.Good n) (hn:n ≤ 1099511627776):t.Fit:=by
 have h0:=h.up.n0
 have h1:=h.up.n1
 refine ⟨⟨by omega,by omega⟩,fun x hx => ?_,fun x hx => ?_,fun x hx => ?_⟩
 · rcases h.right x hx with rfl | hr
   · exact ⟨by decide,by decide⟩
   · exact ⟨by omega,by omega⟩
 · have:=h.up.e0 x hx
   exact ⟨by omega,by omega⟩
 · rcases h.right x hx with rfl | hr
   · exact ⟨by decide,by decide⟩
   · exact ⟨by omega,by omega⟩
def Ls.nums (x:Ls):List Int:=[x.node,x.epoch,x.till]
def Tb.nums (t:Tb):List Int:=t.now :: t.l.flatMap Ls.nums
def okLs (now:Int) (x:Ls):Bool:=
 if x.node = 0 then decide (x.epoch = 0) && decide (x.till = 0)
 else decide (0 < x.node) && decide (x.node ≤ 9) && decide (0 < x.epoch) && decide (x.epoch ≤ 1099511627776) && decide (6 ≤ x.till) && decide (x.till - 6 ≤ now)
def okT (t:Tb):Bool:=t.l.all (okLs t.now) && decide (0 ≤ t.now) && decide (t.now ≤ 1099511627776)
theorem Tb.Good.ok {t:Tb} {n:Int} (h:t.Good n) (hn:n ≤ 1099511627776):okT t = true:=by
 have h0:=h.up.n0
 have h1:=h.up.n1
 unfold okT
 rw [Bool.and_eq_true,Bool.and_eq_true,List.all_eq_true]
 refine ⟨⟨fun x hx => ?_,by simpa using h0⟩,by simp;omega⟩
 have he:=h.up.e0 x hx
 unfold okLs
 rcases h.right x hx with rfl | ⟨a,b,c,d,e⟩
 · rfl
 · rw [if_neg (by omega)]
   simp;omega
end Go.Proofs.YtcjfmildalappaaGreat.L16
