/-
  Contracts; each theorem bears its own conditions.
-/
import Derived.BigRegion
import Derived.Deep.Cut
import Derived.Deep.CutRange
import Derived.Deep.DeepCutAuto
import Derived.Test.YtcjfmildalappaaGreatK26aa
import Derived.Test.YtcjfmildalappaaGreatK26ab
set_option linter.all false
set_option maxRecDepth 100000
set_option maxHeartbeats 8000000
namespace Go.Proofs.YtcjfmildalappaaGreat
open Go.RowKit
structure Mk where
 tm:Int
 st:Bool
 pl:Int
def Mk.cells (m:Mk):List Value:=[.int .i64 m.tm,.bool m.st,.int .i64 m.pl]
def Mk.key (m:Mk):Int:=2 * m.tm + (if m.st = true then 0 else 1)
def mkF (f:Nat → Mk) (n:Nat):List Value:=((List.range n).map f).flatMap Mk.cells
theorem mkF_get (f:Nat → Mk) (n i j:Nat) (hi:i < n) (hj:j < 3):(mkF f n)[i * 3 + j]? = (f i).cells[j]?:=
 flat_get Mk.cells 3 (fun _ => rfl) _ i j (f i) (by simp [hi]) hj
theorem mkF_length (f:Nat → Mk) (n:Nat):(mkF f n).length = n * 3:=by unfold mkF;rw [flat_length Mk.cells 3 (fun _ => rfl)];simp
theorem mkF_congr {f g:Nat → Mk} {n:Nat} (h:∀ i,i < n → f i = g i):mkF f n = mkF g n:=by
 unfold mkF
 congr 1
 exact List.map_congr_left (fun i hi => h i (by simpa using hi))
def swF (f:Nat → Mk) (i j:Nat):Nat → Mk:=fun x => if x = i then f j else if x = j then f i else f x
structure Ex (a b:Nat) (f g:Nat → Mk):Prop where
 out:∀ x,¬(a ≤ x ∧ x < b) → g x = f x
 to_:∀ x,a ≤ x → x < b → ∃ y,a ≤ y ∧ y < b ∧ g y = f x
 of_:∀ x,a ≤ x → x < b → ∃ y,a ≤ y ∧ y < b ∧ f y = g x
theorem Ex.refl (a b:Nat) (f:Nat → Mk):Ex a b f f:=⟨fun _ _ => rfl,fun x h1 h2 => ⟨x,h1,h2,rfl⟩,fun x h1 h2 => ⟨x,h1,h2,rfl⟩⟩
theorem Ex.trans {a b:Nat} {f g h:Nat → Mk} (p:Ex a b f g) (q:Ex a b g h):Ex a b f h:=
 ⟨fun x hx => (q.out x hx).trans (p.out x hx),
  fun x h1 h2 => by
   obtain ⟨y,y1,y2,y3⟩:=p.to_ x h1 h2
   obtain ⟨z,z1,z2,z3⟩:=q.to_ y y1 y2
   exact ⟨z,z1,z2,z3.trans y3⟩,
  fun x h1 h2 => by
   obtain ⟨y,y1,y2,y3⟩:=q.of_ x h1 h2
   obtain ⟨z,z1,z2,z3⟩:=p.of_ y y1 y2
   exact ⟨z,z1,z2,z3.trans y3⟩⟩
theorem Ex.mono {a b a' b':Nat} {f g:Nat → Mk} (p:Ex a b f g) (h1:a' ≤ a) (h2:b ≤ b'):Ex a' b' f g:=
 ⟨fun x hx => p.out x (by omega),
  fun x k1 k2 => by
   by_cases hx:a ≤ x ∧ x < b
   · obtain ⟨y,y1,y2,y3⟩:=p.to_ x hx.1 hx.2
     exact ⟨y,by omega,by omega,y3⟩
   · exact ⟨x,k1,k2,p.out x hx⟩,
  fun x k1 k2 => by
   by_cases hx:a ≤ x ∧ x < b
   · obtain ⟨y,y1,y2,y3⟩:=p.of_ x hx.1 hx.2
     exact ⟨y,by omega,by omega,y3⟩
   · exact ⟨x,k1,k2,(p.out x hx).symm⟩⟩
theorem Ex_sw {a b i j:Nat} (f:Nat → Mk) (hi:a ≤ i ∧ i < b) (hj:a ≤ j ∧ j < b):Ex a b f (swF f i j):=
 ⟨fun x hx => by unfold swF;rw [if_neg (by omega),if_neg (by omega)],
  fun x h1 h2 => by
   by_cases e:x = i
   · refine ⟨j,hj.1,hj.2,?_⟩
     unfold swF
     split
     · rename_i e2;rw [e,e2]
     · rw [if_pos rfl,e]
   · by_cases e2:x = j
     · exact ⟨i,hi.1,hi.2,by unfold swF;rw [if_pos rfl,e2]⟩
     · exact ⟨x,h1,h2,by unfold swF;rw [if_neg e,if_neg e2]⟩,
  fun x h1 h2 => by
   unfold swF
   split
   · exact ⟨j,hj.1,hj.2,rfl⟩
   · split
     · exact ⟨i,hi.1,hi.2,rfl⟩
     · exact ⟨x,h1,h2,rfl⟩⟩
def Srt (f:Nat → Mk) (a b:Nat):Prop:=∀ x y,a ≤ x → x < y → y < b → (f x).key ≤ (f y).key
theorem Srt.le {f:Nat → Mk} {a b x y:Nat} (h:Srt f a b) (h1:a ≤ x) (h2:x ≤ y) (h3:y < b):(f x).key ≤ (f y).key:=by
 rcases Nat.lt_or_eq_of_le h2 with e | e
 · exact h x y h1 e h3
 · rw [e];exact Int.le_refl _
theorem Srt.congr {f g:Nat → Mk} {a b:Nat} (h:Srt f a b) (hg:∀ x,a ≤ x → x < b → g x = f x):Srt g a b:=fun x y h1 h2 h3 => by
 rw [hg x h1 (by omega),hg y (by omega) h3];exact h x y h1 h2 h3
theorem Srt.sub {f:Nat → Mk} {a b a' b':Nat} (h:Srt f a b) (h1:a ≤ a') (h2:b' ≤ b):Srt f a' b':=fun x y k1 k2 k3 => h x y (by omega) k2 (by omega)
structure Ins (f:Nat → Mk) (a j i:Nat):Prop where
 lo:Srt f a j
 hi:Srt f j (i + 1)
 x:∀ x y,a ≤ x → x < j → j < y → y ≤ i → (f x).key ≤ (f y).key
theorem Ins.start {f:Nat → Mk} {a i:Nat} (h:Srt f a i):Ins f a i i:=
 ⟨h,fun x y h1 h2 h3 => by omega,fun x y h1 h2 h3 h4 => by omega⟩
theorem Ins.step {f:Nat → Mk} {a j i:Nat} (h:Ins f a (j + 1) i) (hj:a ≤ j) (hji:j + 1 ≤ i) (hlt:(f (j + 1)).key < (f j).key):Ins (swF f (j + 1) j) a j i:=by
 have e1:swF f (j + 1) j (j + 1) = f j:=by unfold swF;rw [if_pos rfl]
 have e2:swF f (j + 1) j j = f (j + 1):=by unfold swF;rw [if_neg (by omega),if_pos rfl]
 have e3:∀ x,x ≠ j → x ≠ j + 1 → swF f (j + 1) j x = f x:=fun x h1 h2 => by unfold swF;rw [if_neg h2,if_neg h1]
 refine ⟨fun x y h1 h2 h3 => ?_,fun x y h1 h2 h3 => ?_,fun x y h1 h2 h3 h4 => ?_⟩
 · rw [e3 x (by omega) (by omega),e3 y (by omega) (by omega)]
   exact h.lo x y h1 h2 (by omega)
 · by_cases hx:x = j
   · subst hx
     rw [e2]
     by_cases hy:y = x + 1
     · subst hy;rw [e1];omega
     · rw [e3 y (by omega) hy]
       exact h.hi (x + 1) y (by omega) (by omega) h3
   · by_cases hx2:x = j + 1
     · subst hx2
       rw [e1,e3 y (by omega) (by omega)]
       exact h.x j y hj (by omega) (by omega) (by omega)
     · rw [e3 x hx hx2,e3 y (by omega) (by omega)]
       exact h.hi x y (by omega) h2 h3
 · rw [e3 x (by omega) (by omega)]
   by_cases hy:y = j + 1
   · subst hy;rw [e1];exact h.lo x j h1 h2 (by omega)
   · rw [e3 y (by omega) hy]
     exact h.x x y h1 (by omega) (by omega) h4
theorem Ins.stop {f:Nat → Mk} {a j i:Nat} (h:Ins f a j i) (hji:j ≤ i) (hs:j ≤ a ∨ ∃ k,j = k + 1 ∧ ¬ (f j).key < (f k).key):Srt f a (i + 1):=by
 intro x y h1 h2 h3
 by_cases hy:y < j
 · exact h.lo x y h1 h2 hy
 · by_cases hx:j ≤ x
   · exact h.hi x y hx h2 h3
   · by_cases hyj:y = j
     · subst hyj
       rcases hs with hs | ⟨k,rfl,hs⟩
       · omega
       · have:=h.lo.le (x:=x) (y:=k) h1 (by omega) (by omega)
         omega
     · exact h.x x y h1 (by omega) (by omega) (by omega)
def swR (f:Nat → Mk) (a b n:Nat):Nat → Mk:=fun x => if a ≤ x ∧ x < a + n then f (x - a + b) else if b ≤ x ∧ x < b + n then f (x - b + a) else f x
theorem swR_zero (f:Nat → Mk) (a b:Nat):swR f a b 0 = f:=by
 funext x
 unfold swR
 rw [if_neg (by omega),if_neg (by omega)]
theorem swR_step (f:Nat → Mk) (a b n k:Nat) (hk:k < n) (hab:a + n ≤ b):swF (swR f a b k) (a + k) (b + k) = swR f a b (k + 1):=by
 funext x
 unfold swF
 by_cases h1:x = a + k
 · subst h1
   rw [if_pos rfl]
   unfold swR
   rw [if_neg (by omega),if_neg (by omega),if_pos (by omega)]
   congr 1;omega
 · rw [if_neg h1]
   by_cases h2:x = b + k
   · subst h2
     rw [if_pos rfl]
     unfold swR
     rw [if_neg (by omega),if_neg (by omega),if_neg (by omega),if_pos (by omega)]
     congr 1;omega
   · rw [if_neg h2]
     unfold swR
     by_cases h3:a ≤ x ∧ x < a + k
     · rw [if_pos h3,if_pos (by omega)]
     · rw [if_neg h3,if_neg (show ¬(a ≤ x ∧ x < a + (k + 1)) by omega)]
       by_cases h4:b ≤ x ∧ x < b + k
       · rw [if_pos h4,if_pos (by omega)]
       · rw [if_neg h4,if_neg (by omega)]
def rotF (f:Nat → Mk) (p i j:Nat):Nat → Mk:=fun x => if p - i ≤ x ∧ x < p - i + j then f (x + i) else if p - i + j ≤ x ∧ x < p + j then f (x - j) else f x
theorem rotF_gt (f:Nat → Mk) (p i j:Nat) (hi:i ≤ p) (h:j < i):rotF (swR f (p - i) p j) p (i - j) j = rotF f p i j:=by
 funext x
 unfold rotF
 by_cases h1:p - i ≤ x ∧ x < p - i + j
 · rw [if_pos h1,if_neg (by omega),if_neg (by omega)]
   unfold swR
   rw [if_pos h1]
   congr 1;omega
 · rw [if_neg h1]
   by_cases h2:p - i + j ≤ x ∧ x < p + j
   · rw [if_pos h2]
     by_cases h3:x < p - i + 2 * j
     · rw [if_pos (by omega)]
       unfold swR
       rw [if_neg (by omega),if_pos (by omega)]
       congr 1;omega
     · rw [if_neg (by omega),if_pos (by omega)]
       unfold swR
       rw [if_neg (by omega),if_neg (by omega)]
   · rw [if_neg h2,if_neg (by omega),if_neg (by omega)]
     unfold swR
     rw [if_neg (by omega),if_neg (by omega)]
theorem rotF_lt (f:Nat → Mk) (p i j:Nat) (hi:i ≤ p) (h:i < j):rotF (swR f (p - i) (p + j - i) i) p i (j - i) = rotF f p i j:=by
 funext x
 unfold rotF
 by_cases h1:p - i ≤ x ∧ x < p - i + j
 · rw [if_pos h1]
   by_cases h3:x < p - i + (j - i)
   · rw [if_pos (by omega)]
     unfold swR
     rw [if_neg (by omega),if_neg (by omega)]
   · rw [if_neg (by omega),if_pos (by omega)]
     unfold swR
     rw [if_pos (by omega)]
     congr 1;omega
 · rw [if_neg h1]
   by_cases h2:p - i + j ≤ x ∧ x < p + j
   · rw [if_pos h2,if_neg (by omega),if_neg (by omega)]
     unfold swR
     rw [if_neg (by omega),if_pos (by omega)]
     congr 1;omega
   · rw [if_neg h2,if_neg (by omega),if_neg (by omega)]
     unfold swR
     rw [if_neg (by omega),if_neg (by omega)]
theorem rotF_eq (f:Nat → Mk) (p i:Nat) (hi:i ≤ p):swR f (p - i) p i = rotF f p i i:=by
 funext x
 unfold rotF swR
 by_cases h1:p - i ≤ x ∧ x < p - i + i
 · rw [if_pos h1,if_pos h1]
   congr 1;omega
 · rw [if_neg h1,if_neg h1]
   by_cases h2:p ≤ x ∧ x < p + i
   · rw [if_pos h2,if_pos (by omega)]
     congr 1;omega
   · rw [if_neg h2,if_neg (by omega)]
theorem rotF_zero (f:Nat → Mk) (p i j:Nat) (h:i = 0 ∨ j = 0):rotF f p i j = f:=by
 funext x
 unfold rotF
 rcases h with h | h
 · subst h
   by_cases h1:p - 0 ≤ x ∧ x < p - 0 + j
   · rw [if_pos h1,Nat.add_zero]
   · rw [if_neg h1,if_neg (by omega)]
 · subst h
   rw [if_neg (by omega)]
   split <;> rfl
theorem Ex_swR {lo hi:Nat} (f:Nat → Mk) (a b n:Nat) (h1:lo ≤ a) (h2:a + n ≤ b) (h3:b + n ≤ hi):∀ k,k ≤ n → Ex lo hi f (swR f a b k):=by
 intro k
 induction k with
 | zero => intro _;rw [swR_zero];exact Ex.refl _ _ _
 | succ k ih =>
  intro hk
  rw [← swR_step f a b n k (by omega) h2]
  exact (ih (by omega)).trans (Ex_sw _ (by omega) (by omega))
def shU (f:Nat → Mk) (a k:Nat):Nat → Mk:=fun x => if a ≤ x ∧ x < k then f (x + 1) else if x = k then f a else f x
theorem shU_zero (f:Nat → Mk) (a:Nat):shU f a a = f:=by
 funext x
 unfold shU
 rw [if_neg (by omega)]
 split
 · rename_i e;rw [e]
 · rfl
theorem shU_step (f:Nat → Mk) (a k:Nat) (h:a ≤ k):swF (shU f a k) k (k + 1) = shU f a (k + 1):=by
 funext x
 unfold swF shU
 by_cases h1:x = k
 · subst h1
   rw [if_pos rfl,if_neg (by omega),if_neg (by omega),if_pos (by omega)]
 · rw [if_neg h1]
   by_cases h2:x = k + 1
   · subst h2
     rw [if_pos rfl,if_neg (by omega),if_pos rfl,if_neg (by omega),if_pos rfl]
   · rw [if_neg h2]
     by_cases h3:a ≤ x ∧ x < k
     · rw [if_pos h3,if_pos (by omega)]
     · rw [if_neg h3,if_neg h1,if_neg (by omega),if_neg h2]
def shD (f:Nat → Mk) (m k:Nat):Nat → Mk:=fun x => if x = k then f m else if k < x ∧ x ≤ m then f (x - 1) else f x
theorem shD_zero (f:Nat → Mk) (m:Nat):shD f m m = f:=by
 funext x
 unfold shD
 split
 · rename_i e;rw [e]
 · rw [if_neg (by omega)]
theorem shD_step (f:Nat → Mk) (m k:Nat) (h:k + 1 ≤ m):swF (shD f m (k + 1)) (k + 1) k = shD f m k:=by
 funext x
 unfold swF shD
 by_cases h1:x = k + 1
 · subst h1
   rw [if_pos rfl,if_neg (by omega),if_neg (by omega),if_neg (by omega),if_pos (by omega)]
   congr 1
 · rw [if_neg h1]
   by_cases h2:x = k
   · subst h2
     rw [if_pos rfl,if_pos rfl,if_pos rfl]
   · rw [if_neg h2,if_neg h1,if_neg h2]
     by_cases h3:k + 1 < x ∧ x ≤ m
     · rw [if_pos h3,if_pos (by omega)]
     · rw [if_neg h3,if_neg (by omega)]
theorem up_srt {f:Nat → Mk} {a i b:Nat} (hs:Srt f (a + 1) b) (h1:a + 1 ≤ i) (h2:i ≤ b) (hlo:∀ x,a + 1 ≤ x → x < i → (f x).key ≤ (f a).key) (hhi:∀ x,i ≤ x → x < b → (f a).key ≤ (f x).key):Srt (shU f a (i - 1)) a b:=by
 have u1:∀ x,a ≤ x → x < i - 1 → shU f a (i - 1) x = f (x + 1):=fun x h1 h2 => by unfold shU;rw [if_pos (by omega)]
 have u2:shU f a (i - 1) (i - 1) = f a:=by unfold shU;rw [if_neg (by omega),if_pos rfl]
 have u3:∀ x,i - 1 < x → shU f a (i - 1) x = f x:=fun x h1 => by unfold shU;rw [if_neg (by omega),if_neg (by omega)]
 intro x y k1 k2 k3
 rcases Nat.lt_trichotomy x (i - 1) with hx | hx | hx
 · rw [u1 x k1 hx]
   rcases Nat.lt_trichotomy y (i - 1) with hy | hy | hy
   · rw [u1 y (by omega) hy];exact hs _ _ (by omega) (by omega) (by omega)
   · rw [hy,u2];exact hlo _ (by omega) (by omega)
   · rw [u3 y hy];exact hs _ _ (by omega) (by omega) k3
 · rw [hx,u2,u3 y (by omega)];exact hhi _ (by omega) k3
 · rw [u3 x hx,u3 y (by omega)];exact hs _ _ (by omega) k2 k3
theorem down_srt {f:Nat → Mk} {a i m:Nat} (hs:Srt f a m) (h1:a ≤ i) (h2:i ≤ m) (hlo:∀ x,a ≤ x → x < i → (f x).key ≤ (f m).key) (hhi:∀ x,i ≤ x → x < m → (f m).key ≤ (f x).key):Srt (shD f m i) a (m + 1):=by
 have u1:∀ x,x < i → shD f m i x = f x:=fun x h1 => by unfold shD;rw [if_neg (by omega),if_neg (by omega)]
 have u2:shD f m i i = f m:=by unfold shD;rw [if_pos rfl]
 have u3:∀ x,i < x → x ≤ m → shD f m i x = f (x - 1):=fun x h1 h2 => by unfold shD;rw [if_neg (by omega),if_pos (by omega)]
 intro x y k1 k2 k3
 rcases Nat.lt_trichotomy x i with hx | hx | hx
 · rw [u1 x hx]
   rcases Nat.lt_trichotomy y i with hy | hy | hy
   · rw [u1 y hy];exact hs _ _ k1 k2 (by omega)
   · rw [hy,u2];exact hlo _ k1 hx
   · rw [u3 y hy (by omega)];exact hs.le k1 (by omega) (by omega)
 · rw [hx,u2,u3 y (by omega) (by omega)];exact hhi _ (by omega) (by omega)
 · rw [u3 x hx (by omega),u3 y (by omega) (by omega)];exact hs _ _ (by omega) (by omega) (by omega)
theorem Ex_shU {f:Nat → Mk} {a b:Nat}:∀ n,a + n < b → Ex a b f (shU f a (a + n)):=by
 intro n
 induction n with
 | zero => intro _;rw [Nat.add_zero,shU_zero];exact Ex.refl _ _ _
 | succ n ih =>
  intro h
  rw [← Nat.add_assoc,← shU_step f a (a + n) (by omega)]
  exact (ih (by omega)).trans (Ex_sw _ (by omega) (by omega))
theorem Ex_shD {f:Nat → Mk} {a m:Nat}:∀ n,a + n ≤ m → Ex a (m + 1) f (shD f m (m - n)):=by
 intro n
 induction n with
 | zero => intro _;rw [Nat.sub_zero,shD_zero];exact Ex.refl _ _ _
 | succ n ih =>
  intro h
  have e:m - n = m - (n + 1) + 1:=by omega
  have:=ih (by omega)
  rw [e] at this
  rw [← shD_step f m (m - (n + 1)) (by omega)]
  exact this.trans (Ex_sw _ (by omega) (by omega))
structure Spl (f:Nat → Mk) (a m b s e:Nat):Prop where
 a:∀ c y,a ≤ c → c < s → e ≤ y → y < b → (f c).key ≤ (f y).key
 b:∀ c y,s ≤ c → c < m → m ≤ y → y < e → (f y).key ≤ (f c).key
theorem Spl.of {f:Nat → Mk} {a m b s0 r0 s n:Nat} (h1:Srt f a m) (h2:Srt f m b) (hs:s0 ≤ s ∧ s ≤ r0) (ha:a ≤ s0) (hr:r0 ≤ m) (hn:n ≤ s0 + b) (hn2:m + r0 ≤ n)
 (hA:s0 = a ∨ n - s0 = b) (hB:r0 = m ∨ n - r0 = m) (q1:s = s0 ∨ (f (s - 1)).key ≤ (f (n - s)).key) (q2:s = r0 ∨ (f (n - 1 - s)).key < (f s).key):Spl f a m b s (n - s):=by
 refine ⟨fun c y c1 c2 y1 y2 => ?_,fun c y c1 c2 y1 y2 => ?_⟩
 · by_cases e:s = s0
   · subst e
     rcases hA with e2 | e2 <;> omega
   · rcases q1 with q1 | q1
     · exact absurd q1 e
     · have k1:=h1.le (x:=c) (y:=s - 1) c1 (by omega) (by omega)
       have k2:=h2.le (x:=n - s) (y:=y) (by omega) y1 y2
       omega
 · by_cases e:s = r0
   · subst e
     rcases hB with e2 | e2 <;> omega
   · rcases q2 with q2 | q2
     · exact absurd q2 e
     · have k1:=h1.le (x:=s) (y:=c) (by omega) c1 c2
       have k2:=h2.le (x:=y) (y:=n - 1 - s) y1 (by omega) (by omega)
       omega
structure Half (g:Nat → Mk) (a s mid e b:Nat):Prop where
 p1:Srt g a s
 p2:Srt g s mid
 p3:Srt g mid e
 p4:Srt g e b
 x:∀ x y,a ≤ x → x < mid → mid ≤ y → y < b → (g x).key ≤ (g y).key
theorem Spl.half {f:Nat → Mk} {a m b s e mid:Nat} (h1:Srt f a m) (h2:Srt f m b) (h:Spl f a m b s e) (ha:a ≤ s) (hs:s ≤ m) (he:m ≤ e) (hb:e ≤ b) (hm:mid + m = s + e):Half (rotF f m (m - s) (e - m)) a s mid e b:=by
 have z1:∀ x,x < s → rotF f m (m - s) (e - m) x = f x:=fun x hx => by unfold rotF;rw [if_neg (by omega),if_neg (by omega)]
 have z2:∀ x,s ≤ x → x < mid → rotF f m (m - s) (e - m) x = f (x + (m - s)):=fun x h1 h2 => by unfold rotF;rw [if_pos (by omega)]
 have z3:∀ x,mid ≤ x → x < e → rotF f m (m - s) (e - m) x = f (x - (e - m)):=fun x h1 h2 => by unfold rotF;rw [if_neg (by omega),if_pos (by omega)]
 have z4:∀ x,e ≤ x → rotF f m (m - s) (e - m) x = f x:=fun x hx => by unfold rotF;rw [if_neg (by omega),if_neg (by omega)]
 refine ⟨fun x y k1 k2 k3 => ?_,fun x y k1 k2 k3 => ?_,fun x y k1 k2 k3 => ?_,fun x y k1 k2 k3 => ?_,fun x y k1 k2 k3 k4 => ?_⟩
 · rw [z1 x (by omega),z1 y k3];exact h1 x y k1 k2 (by omega)
 · rw [z2 x k1 (by omega),z2 y (by omega) k3];exact h2 _ _ (by omega) (by omega) (by omega)
 · rw [z3 x k1 (by omega),z3 y (by omega) k3];exact h1 _ _ (by omega) (by omega) (by omega)
 · rw [z4 x k1,z4 y (by omega)];exact h2 _ _ (by omega) k2 k3
 · by_cases hx:x < s
   · rw [z1 x hx]
     by_cases hy:y < e
     · rw [z3 y k3 hy];exact h1 _ _ k1 (by omega) (by omega)
     · rw [z4 y (by omega)];exact h.a x y k1 hx (by omega) k4
   · rw [z2 x (by omega) k2]
     by_cases hy:y < e
     · rw [z3 y k3 hy];exact h.b _ _ (by omega) (by omega) (by omega) (by omega)
     · rw [z4 y (by omega)];exact h2.le (by omega) (by omega) k4
theorem Half.done {g f1 f2:Nat → Mk} {a s mid e b:Nat} (h:Half g a s mid e b) (x1:Ex a mid g f1) (s1:Srt f1 a mid) (x2:Ex mid b f1 f2) (s2:Srt f2 mid b):Srt f2 a b:=by
 intro x y k1 k2 k3
 by_cases hy:y < mid
 · rw [x2.out x (by omega),x2.out y (by omega)]
   exact s1 x y k1 k2 hy
 · by_cases hx:mid ≤ x
   · exact s2 x y hx k2 k3
   · rw [x2.out x (by omega)]
     obtain ⟨u,u1,u2,u3⟩:=x1.of_ x k1 (by omega)
     obtain ⟨v,v1,v2,v3⟩:=x2.of_ y (by omega) k3
     rw [← u3,← v3,x1.out v (by omega)]
     exact h.x u v u1 u2 v1 v2
def cmpM (x y:Mk):Int:=if x.tm = y.tm then (if x.st = y.st then 0 else if x.st = true then -1 else 1) else if x.tm < y.tm then -1 else 1
theorem cmpM_lt (x y:Mk):cmpM x y < 0 ↔ x.key < y.key:=by
 obtain ⟨t1,s1,p1⟩:=x
 obtain ⟨t2,s2,p2⟩:=y
 unfold cmpM Mk.key
 dsimp only
 by_cases h:t1 = t2
 · subst h
   cases s1 <;> cases s2 <;> simp <;> omega
 · rw [if_neg h]
   by_cases h2:t1 < t2
   · rw [if_pos h2]
     cases s1 <;> cases s2 <;> simp <;> omega
   · rw [if_neg h2]
     cases s1 <;> cases s2 <;> simp <;> omega
def cmpI (a b:Int):Int:=if a < b then -1 else if b < a then 1 else 0
theorem nan_int (a:Int) (w:World):Calls Tryz.prog 190 #[.int .i64 a] w fun e w' => e = .returned (.bool false) ∧ w = w':=by
 have h:(a != a) = false:=by simp
 go_enter Tryz.func190,Tryz.ntmps190
 go_wp2_with fail
 go_ret
 exact ⟨rfl,rfl⟩
theorem cmp_int (a b:Int) (w:World):Calls Tryz.prog 115 #[.int .i64 a,.int .i64 b] w fun e w' => e = .returned (.int .i64 (cmpI a b)) ∧ w = w':=by
 have CN:=Hd (fun a => nan_int a w)
 by_cases h:a < b
 · rw [show cmpI a b = -1 from if_pos h]
   go_enter Tryz.func115,Tryz.ntmps115
   go_wp2_with (go_at_call 190;refine (CN.out _).mono ?_;rintro e w1 ⟨rfl,rfl⟩)
   go_ret
   exact ⟨rfl,rfl⟩
 · rw [show cmpI a b = if b < a then 1 else 0 from if_neg h]
   have hd:decide (a < b) = false:=by simpa using h
   by_cases h2:b < a
   · rw [if_pos h2]
     go_enter Tryz.func115,Tryz.ntmps115
     go_wp2_with (go_at_call 190;refine (CN.out _).mono ?_;rintro e w1 ⟨rfl,rfl⟩)
     go_ret
     exact ⟨rfl,rfl⟩
   · rw [if_neg h2]
     have hd2:decide (b < a) = false:=by simpa using h2
     go_enter Tryz.func115,Tryz.ntmps115
     go_wp2_with (go_at_call 190;refine (CN.out _).mono ?_;rintro e w1 ⟨rfl,rfl⟩)
     go_ret
     exact ⟨rfl,rfl⟩
theorem hi_cmp (x y:Mk) (w:World):Calls Tryz.prog 114 #[.agg #[.int .i64 x.tm,.bool x.st,.int .i64 x.pl],.agg #[.int .i64 y.tm,.bool y.st,.int .i64 y.pl]] w fun e w' => e = .returned (.int .i64 (cmpM x y)) ∧ Only [] w w':=by
 obtain ⟨t1,s1,p1⟩:=x
 obtain ⟨t2,s2,p2⟩:=y
 dsimp only
 have CC:=Hd (fun a b w => cmp_int a b w)
 have HO:Hid (Only [] w ((w.alloc (.cells #[.int .i64 t1,.bool s1,.int .i64 p1] 169)).alloc (.cells #[.int .i64 t2,.bool s2,.int .i64 p2] 169))):=Hd ((oz.alloc _).alloc _)
 by_cases h:t1 = t2
 · subst h
   have hb:(t1 == t1) = true:=by simp
   cases s1 <;> cases s2
   all_goals
    go_enter Tryz.func114,Tryz.ntmps114
    go_wp2_with (go_at_call 115;refine (CC.out _ _ _).mono ?_;rintro e w1 ⟨rfl,rfl⟩)
    go_ret
    exact ⟨by simp [cmpM,cmpI],HO.out⟩
 · have hb:(t1 == t2) = false:=by simpa using h
   have HE:Hid (cmpI t1 t2 = cmpM ⟨t1,s1,p1⟩ ⟨t2,s2,p2⟩):=Hd (by
    unfold cmpM cmpI
    dsimp only
    rw [if_neg h]
    split
    · rfl
    · rw [if_pos (by omega)])
   go_enter Tryz.func114,Tryz.ntmps114
   go_wp2_with (go_at_call 115;refine (CC.out _ _ _).mono ?_;rintro e w1 ⟨rfl,rfl⟩)
   go_ret
   exact ⟨by rw [← HE.out];rfl,HO.out⟩
structure MkR (w:World) (g n:Nat) (f:Nat → Mk) (sp:List Value):Prop where
 c:Cells w g 169 (mkF f n ++ sp)
theorem MkR.cell {w:World} {g n:Nat} {f:Nat → Mk} {sp:List Value} (h:MkR w g n f sp) {i j:Nat} (hi:i < n) (hj:j < 3) {v:Value} (hv:(f i).cells[j]? = some v):w.cell? ⟨g,i * 3 + j,none⟩ = some v:=by
 refine h.c.cell ?_
 rw [List.getElem?_append_left (by rw [mkF_length];omega),mkF_get f n i j hi hj,hv]
theorem MkR.at3 {w:World} {g n:Nat} {f:Nat → Mk} {sp:List Value} (h:MkR w g n f sp) {i:Nat} (hi:i < n):
 w.cell? ⟨g,i * 3,none⟩ = some (.int .i64 (f i).tm) ∧ w.cell? ⟨g,i * 3 + 1,none⟩ = some (.bool (f i).st) ∧ w.cell? ⟨g,i * 3 + 2,none⟩ = some (.int .i64 (f i).pl):=
 ⟨h.cell hi (j:=0) (by omega) rfl,h.cell hi (j:=1) (by omega) rfl,h.cell hi (j:=2) (by omega) rfl⟩
theorem MkR.only {w w':World} {g n:Nat} {f:Nat → Mk} {sp:List Value} (h:MkR w g n f sp) (ho:Only [] w w'):MkR w' g n f sp:=⟨h.c.only ho (by simp)⟩
theorem MkR.frozen {w:World} {g n:Nat} {f:Nat → Mk} {sp:List Value} (h:MkR w g n f sp) (k:Nat):w.frozen? ⟨g,k,none⟩ = false:=h.c.frozen k
theorem mkF_put (f:Nat → Mk) (n i:Nat) (x:Mk) (hi:i < n):putL (mkF f n) (i * 3) x.cells = mkF (fun y => if y = i then x else f y) n:=by
 obtain ⟨tm,st,pl⟩:=x
 have hg:((List.range n).map f)[i]? = some (f i):=by simp [hi]
 have hlen:i < ((List.range n).map f).length:=by simpa using hi
 have s1:=flat_set Mk.cells 3 (fun _ => rfl) ((List.range n).map f) i 0 (f i) ⟨tm,(f i).st,(f i).pl⟩ (.int .i64 tm) hg (by omega) rfl
 have s2:=flat_set Mk.cells 3 (fun _ => rfl) (((List.range n).map f).set i ⟨tm,(f i).st,(f i).pl⟩) i 1 _ ⟨tm,st,(f i).pl⟩ (.bool st) (List.getElem?_set_self hlen) (by omega) rfl
 have s3:=flat_set Mk.cells 3 (fun _ => rfl) ((((List.range n).map f).set i ⟨tm,(f i).st,(f i).pl⟩).set i ⟨tm,st,(f i).pl⟩) i 2 _ ⟨tm,st,pl⟩ (.int .i64 pl) (List.getElem?_set_self (by rw [List.length_set];exact hlen)) (by omega) rfl
 show ((((((List.range n).map f).flatMap Mk.cells).set (i * 3) _).set (i * 3 + 1) _).set (i * 3 + 1 + 1) _) = _
 rw [Nat.add_zero] at s1
 rw [s1,s2,show i * 3 + 1 + 1 = i * 3 + 2 from rfl,s3,List.set_set,List.set_set]
 unfold mkF
 congr 1
 apply List.ext_getElem?
 intro y
 rw [List.getElem?_set]
 by_cases h:i = y
 · subst h
   rw [if_pos rfl,if_pos hlen]
   simp [hi]
 · rw [if_neg h]
   rw [List.getElem?_map,List.getElem?_map]
   by_cases hy:y < n
   · rw [List.getElem?_range hy]
     simp only [Option.map_some]
     rw [if_neg (fun e => h e.symm)]
   · rw [List.getElem?_eq_none (by simpa using hy)]
     rfl
theorem putL_app (l:List Value) (cs sp:List Value) (o:Nat) (h:o + l.length ≤ cs.length):putL (cs ++ sp) o l = putL cs o l ++ sp:=by
 rw [putL_eq _ _ _ (by rw [List.length_append];omega),putL_eq _ _ _ h,List.take_append_of_le_length (by omega),List.drop_append_of_le_length h]
 simp
theorem MkR.swap {w:World} {g n:Nat} {f:Nat → Mk} {sp:List Value} (h:MkR w g n f sp) (i j:Nat) (hi:i < n) (hj:j < n):MkR ((w.setCells g (i * 3) (f j).cells).setCells g (j * 3) (f i).cells) g n (swF f i j) sp:=by
 constructor
 have h1:=(h.c.setMany (i * 3) (f j).cells).setMany (j * 3) (f i).cells
 have hl:=mkF_length f n
 rw [putL_app _ _ _ _ (by rw [hl];show i * 3 + 3 ≤ n * 3;omega),mkF_put f n i _ hi,putL_app _ _ _ _ (by rw [mkF_length];show j * 3 + 3 ≤ n * 3;omega),mkF_put _ n j _ hj] at h1
 have e:(fun y => if y = j then f i else if y = i then f j else f y) = swF f i j:=by
  funext y
  unfold swF
  by_cases e1:y = i
  · subst e1
    by_cases e2:y = j
    · subst e2;simp
    · simp [e2]
  · rw [if_neg e1,if_neg e1]
 rw [e] at h1
 exact h1
theorem hi_ins (g cap n a b:Nat) (hab:a ≤ b) (hb:b ≤ n) (hn:n ≤ 1000) (f:Nat → Mk) (sp:List Value) (w:World) (h:MkR w g n f sp):
 Calls Tryz.prog 230 #[.slice (some ⟨g,0,none⟩) n cap,.int .i64 a,.int .i64 b,.func (.func 114) #[] #[]] w fun e w' =>
  e = .returned (.tuple #[]) ∧ Only [g] w w' ∧ ∃ f',Ex a b f f' ∧ Srt f' a b ∧ MkR w' g n f' sp:=by
 have CC:=Hd (fun x y w => hi_cmp x y w)
 have H:=Hd h
 clear h
 go_enter Tryz.func230,Tryz.ntmps230
 go_wp2_with fail
 go_loopw [8] (fun i wr => ∃ (k:Nat) (f1:Nat → Mk),i = .int .i64 k ∧ a < k ∧ (k ≤ b ∨ k = a + 1) ∧ Hid (Only [g] w wr) ∧ Hid (Ex a b f f1) ∧ Hid (Srt f1 a k) ∧ Hid (MkR wr g n f1 sp)) (fun i _ => b + 1 - (intOf i).toNat)
 case atStart => exact ⟨a + 1,f,by go_num,by omega,by omega,Hd oz,Hd (Ex.refl _ _ _),Hd (fun x y h1 h2 h3 => by omega),H⟩
 case round =>
  obtain ⟨k,f1,rfl,hk1,hk2,hO,hX,hS,hR⟩:=hrel
  by_cases hlt:k < b
  · have hlt':(k:Int) < (b:Int):=by omega
    have HI:=Hd (Ins.start hS.out)
    go_wp2_with fail
    go_loopw [9] (fun i wr => ∃ (j:Nat) (f2:Nat → Mk),i = .int .i64 j ∧ a ≤ j ∧ j ≤ k ∧ Hid (Only [g] w wr) ∧ Hid (Ex a b f f2) ∧ Hid (Ins f2 a j k) ∧ Hid (MkR wr g n f2 sp)) (fun i _ => (intOf i).toNat)
    case atStart => exact ⟨k,f1,rfl,by omega,by omega,hO,hX,HI,hR⟩
    case round =>
     obtain ⟨j,f2,rfl,hj1,hj2,hO,hX,hI,hR⟩:=hrel
     obtain ⟨wq,rfl⟩:∃ wq,wq = wr:=⟨_,rfl⟩
     by_cases hja:a < j
     · have hja':(a:Int) < (j:Int):=by omega
       obtain ⟨jp,rfl⟩:∃ jp,j = jp + 1:=⟨j - 1,by omega⟩
       have hja2:decide ((a:Int) < (jp:Int) + 1) = true:=by simp;omega
       have hwp:IntKind.i64.wrap ((jp:Int) + 1 - 1) = (jp:Int):=by rw [IntKind.wrap_i64];omega
       have jz:((jp:Int) + 1) < (n:Int):=by omega
       have jz1:(jp:Int) < (n:Int):=by omega
       obtain ⟨a0,a1,a2⟩:=hR.out.at3 (i:=jp) (by omega)
       obtain ⟨c0,c1,c2⟩:=hR.out.at3 (i:=jp + 1) (by omega)
       have u0:=fun u:Since wq => u.cell a0
       have u1:=fun u:Since wq => u.cell a1
       have u2:=fun u:Since wq => u.cell a2
       have v0:=fun u:Since wq => u.cell c0
       have v1:=fun u:Since wq => u.cell c1
       have v2:=fun u:Since wq => u.cell c2
       have e0:((jp:Int) + 1).toNat = jp + 1:=by omega
       clear a0 a1 a2 c0 c1 c2
       have HST:=Hd (fun (hlv:(f2 (jp + 1)).key < (f2 jp).key) => Ins.step hI.out (by omega) hj2 hlv)
       have HSP:=Hd (fun (hlv:¬ (f2 (jp + 1)).key < (f2 jp).key) => Ins.stop hI.out hj2 (.inr ⟨jp,rfl,hlv⟩))
       have HKY:=Hd (cmpM_lt (f2 (jp + 1)) (f2 jp))
       by_cases hlv:cmpM (f2 (jp + 1)) (f2 jp) < 0
       · have hlv':decide (cmpM (f2 (jp + 1)) (f2 jp) < 0) = true:=by simpa using hlv
         have HI2:=Hd (HST.out (HKY.out.1 hlv))
         clear HST HSP HKY hI
         go_wp2_with fail
         refine wp_region_only wq oz (by kernel_rfl) (by kernel_rfl) ?_
         repeat (go_big_quiet_step ((go_at_call 114;refine Calls.only (CC.out _ _ _))))
         refine wpQuiet_nil ?_
         rintro ⟨w3,ho3⟩
         dsimp only
         have HR3:=Hd (hR.out.only ho3)
         have HO3:=Hd (hO.out.tr0 ho3)
         obtain ⟨a0,a1,a2⟩:=HR3.out.at3 (i:=jp) (by omega)
         obtain ⟨c0,c1,c2⟩:=HR3.out.at3 (i:=jp + 1) (by omega)
         have fz:=fun k => HR3.out.frozen k
         clear u0 u1 u2 v0 v1 v2 hR hO ho3
         go_wp2_with fail
         go_region
         all_goals
          clear a0 a1 a2 c0 c1 c2 fz
          go_wp2_with fail
          go_roundw
          case rel => exact ⟨jp,swF f2 (jp + 1) jp,by go_num,by omega,by omega,Hd (((HO3.out.setCells (b:=g) (.inl (by simp)) ((jp + 1) * 3) (f2 jp).cells).setCells (b:=g) (.inl (by simp)) (jp * 3) (f2 (jp + 1)).cells).drew),Hd (hX.out.trans (Ex_sw _ (by omega) (by omega))),HI2,Hd ⟨(HR3.out.swap (jp + 1) jp (by omega) (by omega)).c.drew⟩⟩
          case measure => (try simp [intOf]) <;> omega
       · have hlv':decide (cmpM (f2 (jp + 1)) (f2 jp) < 0) = false:=by simpa using hlv
         have HS2:=Hd (HSP.out (fun e => hlv (HKY.out.2 e)))
         clear HST HSP HKY hI
         go_wp2_with fail
         refine wp_region_only wq oz (by kernel_rfl) (by kernel_rfl) ?_
         repeat (go_big_quiet_step ((go_at_call 114;refine Calls.only (CC.out _ _ _))))
         refine wpQuiet_nil ?_
         rintro ⟨w3,ho3⟩
         dsimp only
         have HR3:=Hd (hR.out.only ho3)
         have HO3:=Hd (hO.out.tr0 ho3)
         clear u0 u1 u2 v0 v1 v2 hR hO ho3
         go_wp2_with fail
         go_roundw
         case rel => exact ⟨k + 1,f2,by go_num,by omega,by omega,HO3,hX,HS2,HR3⟩
         case measure => simp [intOf];omega
     · have hja2:decide ((a:Int) < (j:Int)) = false:=by simp;omega
       have HS2:=Hd (Ins.stop hI.out hj2 (.inl (by omega)))
       clear hI
       go_wp2_with fail
       refine wp_region_only wq oz (by kernel_rfl) (by kernel_rfl) ?_
       repeat (go_big_quiet_step (fail))
       refine wpQuiet_nil ?_
       rintro ⟨w3,ho3⟩
       dsimp only
       have HR3:=Hd (hR.out.only ho3)
       have HO3:=Hd (hO.out.tr0 ho3)
       clear hR hO ho3
       go_wp2_with fail
       go_roundw
       case rel => exact ⟨k + 1,f2,by go_num,by omega,by omega,HO3,hX,HS2,HR3⟩
       case measure => simp [intOf];omega
  · have hlt':decide ((k:Int) < (b:Int)) = false:=by simp;omega
    go_wp2_with fail
    go_end0
    exact ⟨rfl,hO.out,f1,hX.out,hS.out.sub (Nat.le_refl _) (by omega),hR.out⟩
def SortOk (n:Nat):Prop:=∀ (g cap:Nat) (f:Nat → Mk) (sp:List Value) (w:World),MkR w g n f sp →
 Calls Tryz.prog 113 #[.slice (some ⟨g,0,none⟩) n cap,.func (.func 114) #[] #[]] w fun e w' =>
  e = .returned (.tuple #[]) ∧ Only [g] w w' ∧ ∃ f',Ex 0 n f f' ∧ Srt f' 0 n ∧ MkR w' g n f' sp
theorem hi_stable_few (g cap n:Nat) (hn:n ≤ 19) (f:Nat → Mk) (sp:List Value) (w:World) (h:MkR w g n f sp):
 Calls Tryz.prog 189 #[.slice (some ⟨g,0,none⟩) n cap,.int .i64 n,.func (.func 114) #[] #[]] w fun e w' =>
  e = .returned (.tuple #[]) ∧ Only [g] w w' ∧ ∃ f',Ex 0 n f f' ∧ Srt f' 0 n ∧ MkR w' g n f' sp:=by
 have CI:=Hd (hi_ins g cap n 0 n (by omega) (Nat.le_refl _) (by omega) f sp w h)
 have d1:decide ((20:Int) ≤ (n:Int)) = false:=by simp;omega
 have d2:decide ((20:Int) < (n:Int)) = false:=by simp;omega
 clear h
 go_enter Tryz.func189,Tryz.ntmps189
 go_wp2_with fail
 go_loopw [7,8] (fun x y wr => x = .int .i64 0 ∧ y = .int .i64 20 ∧ wr = w) (fun _ _ _ => 0)
 case atStart => exact ⟨rfl,rfl,rfl⟩
 case round =>
  obtain ⟨rfl,rfl,rfl⟩:=hrel
  go_wp2_with fail
  refine CI.out.mono ?_
  rintro e w2 ⟨rfl,ho,f',hx,hs,hr⟩
  have HF:Hid (Only [g] wr w2 ∧ ∃ f',Ex 0 n f f' ∧ Srt f' 0 n ∧ MkR w2 g n f' sp):=Hd ⟨ho,f',hx,hs,hr⟩
  clear ho hx hs hr CI
  go_wp2_with fail
  go_loopw [6,7,8,9] (fun u x y z wr => u = .int .i64 20 ∧ wr = w2) (fun _ _ _ _ _ => 0)
  case atStart => exact ⟨rfl,rfl⟩
  case round =>
   obtain ⟨rfl,rfl⟩:=hrel
   go_wp2_with fail
   go_end0
   exact ⟨rfl,HF.out⟩
theorem hi_sort_few (n:Nat) (hn:n ≤ 19):SortOk n:=fun g cap f sp w h => by
 have C:=Hd (hi_stable_few g cap n hn f sp w h)
 clear h
 go_enter Tryz.func113,Tryz.ntmps113
 go_wp2_with fail
 refine C.out.mono ?_
 rintro e w2 ⟨rfl,hh⟩
 have HF:=Hd hh
 clear hh
 go_wp2_with fail
 go_end0
 exact ⟨rfl,HF.out⟩
theorem ins_nil (w:World):
 Calls Tryz.prog 230 #[.slice none 0 0,.int .i64 0,.int .i64 0,.func (.func 114) #[] #[]] w fun e w' => e = .returned (.tuple #[]) ∧ w = w':=by
 go_enter Tryz.func230,Tryz.ntmps230
 go_wp2_with fail
 go_loopw [8] (fun i wr => i = .int .i64 1 ∧ wr = w) (fun _ _ => 0)
 case atStart => exact ⟨rfl,rfl⟩
 case round =>
  obtain ⟨rfl,rfl⟩:=hrel
  go_wp2_with fail
  go_end0
  exact ⟨rfl,rfl⟩
theorem stable_nil (w:World):
 Calls Tryz.prog 189 #[.slice none 0 0,.int .i64 0,.func (.func 114) #[] #[]] w fun e w' => e = .returned (.tuple #[]) ∧ w = w':=by
 have CI:=Hd (ins_nil w)
 go_enter Tryz.func189,Tryz.ntmps189
 go_wp2_with fail
 go_loopw [7,8] (fun x y wr => x = .int .i64 0 ∧ y = .int .i64 20 ∧ wr = w) (fun _ _ _ => 0)
 case atStart => exact ⟨rfl,rfl,rfl⟩
 case round =>
  obtain ⟨rfl,rfl,rfl⟩:=hrel
  go_wp2_with fail
  refine CI.out.mono ?_
  rintro e w2 ⟨rfl,rfl⟩
  go_wp2_with fail
  go_loopw [6,7,8,9] (fun u x y z wr2 => u = .int .i64 20 ∧ wr2 = wr) (fun _ _ _ _ _ => 0)
  case atStart => exact ⟨rfl,rfl⟩
  case round =>
   obtain ⟨rfl,rfl⟩:=hrel
   go_wp2_with fail
   go_end0
   exact ⟨rfl,rfl⟩
theorem sort_nil (w:World):
 Calls Tryz.prog 113 #[.slice none 0 0,.func (.func 114) #[] #[]] w fun e w' => e = .returned (.tuple #[]) ∧ w = w':=by
 have CI:=Hd (stable_nil w)
 go_enter Tryz.func113,Tryz.ntmps113
 go_wp2_with fail
 refine CI.out.mono ?_
 rintro e w2 ⟨rfl,rfl⟩
 go_wp2_with fail
 go_end0
 exact ⟨rfl,rfl⟩
theorem hi_swapR (g cap n a b m:Nat) (h1:a + m ≤ b) (h2:b + m ≤ n) (hn:n ≤ 1000) (f:Nat → Mk) (sp:List Value) (w:World) (h:MkR w g n f sp):
 Calls Tryz.prog 260 #[.slice (some ⟨g,0,none⟩) n cap,.int .i64 a,.int .i64 b,.int .i64 m,.func (.func 114) #[] #[]] w fun e w' =>
  e = .returned (.tuple #[]) ∧ Only [g] w w' ∧ MkR w' g n (swR f a b m) sp:=by
 have H:=Hd h
 clear h
 go_enter Tryz.func260,Tryz.ntmps260
 go_wp2_with fail
 go_loopw [10] (fun i wr => ∃ (k:Nat),i = .int .i64 k ∧ k ≤ m ∧ Hid (Only [g] w wr) ∧ Hid (MkR wr g n (swR f a b k) sp)) (fun i _ => m - (intOf i).toNat)
 case atStart => exact ⟨0,by go_num,by omega,Hd oz,by rw [swR_zero];exact H⟩
 case round =>
  obtain ⟨k,rfl,hk,hO,hR⟩:=hrel
  obtain ⟨wq,rfl⟩:∃ wq,wq = wr:=⟨_,rfl⟩
  by_cases hlt:k < m
  · have hlt':(k:Int) < (m:Int):=by omega
    have HST:=Hd (swR_step f a b m k hlt h1)
    obtain ⟨f2,hf2⟩:∃ f2,swR f a b k = f2:=⟨_,rfl⟩
    rw [hf2] at hR HST
    have hwa:IntKind.i64.wrap ((a:Int) + (k:Int)) = ((a + k:Nat):Int):=by rw [IntKind.wrap_i64];omega
    have hwb:IntKind.i64.wrap ((b:Int) + (k:Int)) = ((b + k:Nat):Int):=by rw [IntKind.wrap_i64];omega
    have ja:((a + k:Nat):Int) < (n:Int):=by omega
    have jb:((b + k:Nat):Int) < (n:Int):=by omega
    have hna:a + k < n:=by omega
    have hnb:b + k < n:=by omega
    obtain ⟨x,hx⟩:∃ x,a + k = x:=⟨_,rfl⟩
    obtain ⟨y,hy⟩:∃ x,b + k = x:=⟨_,rfl⟩
    rw [hx] at hwa ja hna HST
    rw [hy] at hwb jb hnb HST
    obtain ⟨a0,a1,a2⟩:=hR.out.at3 (i:=x) hna
    obtain ⟨c0,c1,c2⟩:=hR.out.at3 (i:=y) hnb
    have fz:=fun k => hR.out.frozen k
    clear hf2
    go_wp2_with fail
    go_region
    all_goals
     clear a0 a1 a2 c0 c1 c2 fz
     go_wp2_with fail
     go_roundw
     case rel => exact ⟨k + 1,by go_num,by omega,Hd (((hO.out.setCells (b:=g) (.inl (by simp)) (x * 3) (f2 y).cells).setCells (b:=g) (.inl (by simp)) (y * 3) (f2 x).cells).drew),Hd (by rw [← HST.out];exact ⟨(hR.out.swap x y (by omega) (by omega)).c.drew⟩)⟩
     case measure => (try simp [intOf]) <;> omega
  · have hlt':decide ((k:Int) < (m:Int)) = false:=by simp;omega
    obtain rfl:k = m:=by omega
    go_wp2_with fail
    go_end0
    exact ⟨rfl,hO.out,hR.out⟩
theorem hi_rot (g cap n a m b:Nat) (h1:a < m) (h2:m < b) (h3:b ≤ n) (hn:n ≤ 1000) (f:Nat → Mk) (sp:List Value) (w:World) (h:MkR w g n f sp):
 Calls Tryz.prog 245 #[.slice (some ⟨g,0,none⟩) n cap,.int .i64 a,.int .i64 m,.int .i64 b,.func (.func 114) #[] #[]] w fun e w' =>
  e = .returned (.tuple #[]) ∧ Only [g] w w' ∧ Ex a b f (rotF f m (m - a) (b - m)) ∧ MkR w' g n (rotF f m (m - a) (b - m)) sp:=by
 have H:=Hd h
 have CS:=Hd (fun a b m h1 h2 f w h => hi_swapR g cap n a b m h1 h2 hn f sp w h)
 clear h
 go_enter Tryz.func245,Tryz.ntmps245
 have e1:(m:Int) - (a:Int) = ((m - a:Nat):Int):=by omega
 have e2:(b:Int) - (m:Int) = ((b - m:Nat):Int):=by omega
 have hw1:IntKind.i64.wrap ((m:Int) - (a:Int)) = ((m - a:Nat):Int):=by rw [IntKind.wrap_i64];omega
 have hw2:IntKind.i64.wrap ((b:Int) - (m:Int)) = ((b - m:Nat):Int):=by rw [IntKind.wrap_i64];omega
 obtain ⟨i0,hi0⟩:∃ i,m - a = i:=⟨_,rfl⟩
 obtain ⟨j0,hj0⟩:∃ j,b - m = j:=⟨_,rfl⟩
 rw [hi0] at hw1 e1 ⊢
 rw [hj0] at hw2 e2 ⊢
 clear e1 e2
 go_wp2_with fail
 go_loopw [10,11] (fun x y wr => ∃ (i j:Nat) (f1:Nat → Mk),x = .int .i64 i ∧ y = .int .i64 j ∧ 0 < i ∧ 0 < j ∧ i ≤ i0 ∧ j ≤ j0 ∧ Hid (Only [g] w wr) ∧ Hid (Ex a b f f1) ∧ Hid (rotF f1 m i j = rotF f m i0 j0) ∧ Hid (MkR wr g n f1 sp)) (fun x y _ => (intOf x).toNat + (intOf y).toNat)
 case atStart => exact ⟨i0,j0,f,by go_num,by go_num,by omega,by omega,Nat.le_refl _,Nat.le_refl _,Hd oz,Hd (Ex.refl _ _ _),Hd rfl,H⟩
 case round =>
  obtain ⟨i,j,f1,rfl,rfl,hi,hj,hi1,hj1,hO,hX,hE,hR⟩:=hrel
  obtain ⟨wq,rfl⟩:∃ wq,wq = wr:=⟨_,rfl⟩
  have hw1:IntKind.i64.wrap ((m:Int) - (i:Int)) = ((m - i:Nat):Int):=by rw [IntKind.wrap_i64];omega
  rcases Nat.lt_trichotomy i j with hij | hij | hij
  · have d1:((i:Int) != (j:Int)) = true:=by simp;omega
    have d2:decide ((j:Int) < (i:Int)) = false:=by simp;omega
    have hw2:IntKind.i64.wrap ((m:Int) + (j:Int)) = (m:Int) + (j:Int):=by rw [IntKind.wrap_i64];omega
    have hw3:IntKind.i64.wrap ((m:Int) + (j:Int) - (i:Int)) = ((m + j - i:Nat):Int):=by rw [IntKind.wrap_i64];omega
    have hw4:IntKind.i64.wrap ((j:Int) - (i:Int)) = ((j - i:Nat):Int):=by rw [IntKind.wrap_i64];omega
    have C1:=Hd (CS.out (m - i) (m + j - i) i (by omega) (by omega) f1 wq hR.out)
    have HE:=Hd ((rotF_lt f1 m i j (by omega) hij).trans hE.out)
    have HX:=Hd (hX.out.trans (Ex_swR f1 (m - i) (m + j - i) i (show a ≤ m - i by omega) (by omega) (show m + j - i + i ≤ b by omega) i (Nat.le_refl _)))
    clear hE hX hR
    go_wp2_with fail
    refine C1.out.mono ?_
    rintro e w2 ⟨rfl,ho2,hr2⟩
    have HO2:=Hd (hO.out.tr ho2)
    have HR2:=Hd hr2
    clear ho2 hr2 C1 hO
    go_wp2_with fail
    go_roundw
    case rel => exact ⟨i,j - i,_,by go_num,by go_num,by omega,by omega,by omega,by omega,HO2,HX,HE,HR2⟩
    case measure => (try simp [intOf]) <;> omega
  · subst hij
    have d1:((i:Int) != (i:Int)) = false:=by simp
    have C1:=Hd (CS.out (m - i) m i (by omega) (by omega) f1 wq hR.out)
    have HE:=Hd ((rotF_eq f1 m i (by omega)).trans hE.out)
    have HX:=Hd (hX.out.trans (Ex_swR f1 (m - i) m i (show a ≤ m - i by omega) (by omega) (show m + i ≤ b by omega) i (Nat.le_refl _)))
    clear hE hX hR
    rw [HE.out] at HX C1
    go_wp2_with fail
    refine C1.out.mono ?_
    rintro e w2 ⟨rfl,ho2,hr2⟩
    have HO2:=Hd (hO.out.tr ho2)
    have HR2:=Hd hr2
    clear ho2 hr2 C1 hO
    go_wp2_with fail
    go_end0
    exact ⟨rfl,HO2.out,HX.out,HR2.out⟩
  · have d1:((i:Int) != (j:Int)) = true:=by simp;omega
    have d2:decide ((j:Int) < (i:Int)) = true:=by simp;omega
    have hw4:IntKind.i64.wrap ((i:Int) - (j:Int)) = ((i - j:Nat):Int):=by rw [IntKind.wrap_i64];omega
    have C1:=Hd (CS.out (m - i) m j (by omega) (by omega) f1 wq hR.out)
    have HE:=Hd ((rotF_gt f1 m i j (by omega) hij).trans hE.out)
    have HX:=Hd (hX.out.trans (Ex_swR f1 (m - i) m j (show a ≤ m - i by omega) (by omega) (show m + j ≤ b by omega) j (Nat.le_refl _)))
    clear hE hX hR
    go_wp2_with fail
    refine C1.out.mono ?_
    rintro e w2 ⟨rfl,ho2,hr2⟩
    have HO2:=Hd (hO.out.tr ho2)
    have HR2:=Hd hr2
    clear ho2 hr2 C1 hO
    go_wp2_with fail
    go_roundw
    case rel => exact ⟨i - j,j,_,by go_num,by go_num,by omega,by omega,by omega,by omega,HO2,HX,HE,HR2⟩
    case measure => (try simp [intOf]) <;> omega
def MergeOk (g cap n a m b:Nat) (f:Nat → Mk) (sp:List Value) (w:World):Prop:=
 Calls Tryz.prog 231 #[.slice (some ⟨g,0,none⟩) n cap,.int .i64 a,.int .i64 m,.int .i64 b,.func (.func 114) #[] #[]] w fun e w' =>
  e = .returned (.tuple #[]) ∧ Only [g] w w' ∧ ∃ f',Ex a b f f' ∧ Srt f' a b ∧ MkR w' g n f' sp
theorem half_i64 (x y:Nat) (h:x + y ≤ 2000):(((x:Int) + (y:Int)) / 2) = (((x + y) / 2:Nat):Int):=by omega
theorem merge_up (g cap n a b:Nat) (hm:a + 1 < b) (hb:b ≤ n) (hn:n ≤ 1000) (f:Nat → Mk) (sp:List Value) (w:World) (h:MkR w g n f sp) (hs:Srt f (a + 1) b):MergeOk g cap n a (a + 1) b f sp w:=by
 unfold MergeOk
 have CC:=Hd (fun x y w => hi_cmp x y w)
 have H:=Hd h
 have HS:=Hd hs
 clear h hs
 have e1:((((a + 1:Nat):Int) - (a:Int)) == 1) = true:=by simp;omega
 have hw0:IntKind.i64.wrap (((a + 1:Nat):Int) - (a:Int)) = 1:=by rw [IntKind.wrap_i64];omega
 obtain ⟨m,hm'⟩:∃ m,a + 1 = m:=⟨_,rfl⟩
 have HM:=Hd hm'
 rw [hm'] at HS e1 hw0 ⊢
 have hma:a < m:=by omega
 go_enter Tryz.func231,Tryz.ntmps231
 go_wp2_with fail
 clear e1 hw0
 go_loopw [10,11] (fun x y wr => ∃ i j:Nat,x = .int .i64 i ∧ y = .int .i64 j ∧ m ≤ i ∧ i ≤ j ∧ j ≤ b ∧ Hid (i = m ∨ (f (i - 1)).key < (f a).key) ∧ Hid (j = b ∨ (f a).key ≤ (f j).key) ∧ Hid (Only [] w wr)) (fun x y _ => (intOf y).toNat - (intOf x).toNat)
 case atStart => exact ⟨m,b,rfl,rfl,by omega,by omega,by omega,Hd (.inl rfl),Hd (.inl rfl),Hd oz⟩
 case round =>
  obtain ⟨i,j,rfl,rfl,hi,hij,hj,HLO,HHI,HO⟩:=hrel
  obtain ⟨wq,rfl⟩:∃ wq,wq = wr:=⟨_,rfl⟩
  by_cases hlt:i < j
  · have hlt':(i:Int) < (j:Int):=by omega
    have hmid:=half_i64 i j (by omega)
    obtain ⟨c,hc⟩:∃ c,(i + j) / 2 = c:=⟨_,rfl⟩
    rw [hc] at hmid
    have hci:i ≤ c:=by omega
    have hcj:c < j:=by omega
    clear hc
    have hR:=H.out.only HO.out
    obtain ⟨p0,p1,p2⟩:=hR.at3 (i:=c) (by omega)
    have vp0:=fun u:Since wq => u.cell p0
    have vp1:=fun u:Since wq => u.cell p1
    have vp2:=fun u:Since wq => u.cell p2
    clear p0 p1 p2
    obtain ⟨q0,q1,q2⟩:=hR.at3 (i:=a) (by omega)
    have vq0:=fun u:Since wq => u.cell q0
    have vq1:=fun u:Since wq => u.cell q1
    have vq2:=fun u:Since wq => u.cell q2
    clear q0 q1 q2
    have hcn:(c:Int) < (n:Int):=by omega
    have han:(a:Int) < (n:Int):=by omega
    have HKY:=Hd (cmpM_lt (f c) (f a))
    clear hR
    go_wp2_with fail
    clear hmid
    by_cases hlv:cmpM (f c) (f a) < 0
    · have hlv':decide (cmpM (f c) (f a) < 0) = true:=by simpa using hlv
      have HN:=Hd (HKY.out.1 hlv)
      clear HKY
      refine wp_region_only wq oz (by kernel_rfl) (by kernel_rfl) ?_
      repeat (go_big_quiet_step ((go_at_call 114;refine Calls.only (CC.out _ _ _))))
      refine wpQuiet_nil ?_
      rintro ⟨w3,ho3⟩
      dsimp only
      have HO3:=Hd (HO.out.tr0 ho3)
      clear ho3
      go_wp2_with fail
      go_roundw
      case rel => exact ⟨c + 1,j,by go_num,rfl,by omega,by omega,by omega,Hd (.inr (by rw [Nat.add_sub_cancel];exact HN.out)),HHI,HO3⟩
      case measure => (try simp [intOf]) <;> omega
    · have hlv':decide (cmpM (f c) (f a) < 0) = false:=by simpa using hlv
      have HN:Hid (¬ (f c).key < (f a).key):=Hd (fun e => hlv (HKY.out.2 e))
      clear HKY
      refine wp_region_only wq oz (by kernel_rfl) (by kernel_rfl) ?_
      repeat (go_big_quiet_step ((go_at_call 114;refine Calls.only (CC.out _ _ _))))
      refine wpQuiet_nil ?_
      rintro ⟨w3,ho3⟩
      dsimp only
      have HO3:=Hd (HO.out.tr0 ho3)
      clear ho3
      go_wp2_with fail
      go_roundw
      case rel => exact ⟨i,c,rfl,by go_num,by omega,by omega,by omega,HLO,Hd (.inr (by have:=HN.out;omega)),HO3⟩
      case measure => (try simp [intOf]) <;> omega
  · have hlt':decide ((i:Int) < (j:Int)) = false:=by simp;omega
    obtain rfl:i = j:=by omega
    have HSRT:Hid (Srt (shU f a (i - 1)) a b):=Hd (up_srt (by rw [HM.out];exact HS.out) (by omega) hj
     (fun x h1 h2 => by
      rcases HLO.out with e | e
      · omega
      · have:=HS.out.le (x:=x) (y:=i - 1) (by omega) (by omega) (by omega)
        omega)
     (fun x h1 h2 => by
      rcases HHI.out with e | e
      · omega
      · have:=HS.out.le (x:=i) (y:=x) (by omega) h1 h2
        omega))
    clear HLO HHI
    go_wp2_with fail
    go_loopw [13] (fun x wr => ∃ k:Nat,x = .int .i64 k ∧ a ≤ k ∧ k ≤ i - 1 ∧ Hid (Only [g] w wr) ∧ Hid (MkR wr g n (shU f a k) sp)) (fun x _ => i - (intOf x).toNat)
    case atStart => exact ⟨a,rfl,by omega,by omega,Hd (HO.out.of0),by rw [shU_zero];exact Hd (H.out.only HO.out)⟩
    case round =>
     obtain ⟨k,rfl,hk1,hk2,hO,hR⟩:=hrel
     obtain ⟨wq,rfl⟩:∃ wq,wq = wr:=⟨_,rfl⟩
     have hw1:IntKind.i64.wrap ((i:Int) - 1) = ((i - 1:Nat):Int):=by rw [IntKind.wrap_i64];omega
     by_cases hlk:k < i - 1
     · have hlk':(k:Int) < ((i - 1:Nat):Int):=by omega
       have hlk2:decide ((k:Int) < (i:Int) - 1) = true:=by simp;omega
       have HST:=Hd (shU_step f a k hk1)
       obtain ⟨f2,hf2⟩:∃ f2,shU f a k = f2:=⟨_,rfl⟩
       rw [hf2] at hR HST
       have ja:(k:Int) < (n:Int):=by omega
       have jb:((k:Int) + 1) < (n:Int):=by omega
       obtain ⟨a0,a1,a2⟩:=hR.out.at3 (i:=k) (by omega)
       obtain ⟨c0,c1,c2⟩:=hR.out.at3 (i:=k + 1) (by omega)
       have e0:((k:Int) + 1).toNat = k + 1:=by omega
       have fz:=fun k => hR.out.frozen k
       clear hf2
       go_wp2_with fail
       go_region
       all_goals
        clear a0 a1 a2 c0 c1 c2 fz
        go_wp2_with fail
        go_roundw
        case rel => exact ⟨k + 1,by go_num,by omega,by omega,Hd (((hO.out.setCells (b:=g) (.inl (by simp)) (k * 3) (f2 (k + 1)).cells).setCells (b:=g) (.inl (by simp)) ((k + 1) * 3) (f2 k).cells).drew),Hd (by rw [← HST.out];exact ⟨(hR.out.swap k (k + 1) (by omega) (by omega)).c.drew⟩)⟩
        case measure => (try simp [intOf]) <;> omega
     · have hlk2:decide ((k:Int) < (i:Int) - 1) = false:=by simp;omega
       obtain rfl:k = i - 1:=by omega
       have HEX:Hid (Ex a b f (shU f a (i - 1))):=Hd (by have:=Ex_shU (f:=f) (a:=a) (b:=b) (i - 1 - a) (by omega);rwa [show a + (i - 1 - a) = i - 1 from by omega] at this)
       go_wp2_with fail
       (try simp only [Exit.inBlock,Exit.then])
       refine bodyPost_ret (results_none rfl _ _ _) rfl ?_
       exact ⟨rfl,hO.out,_,HEX.out,HSRT.out,hR.out⟩
theorem merge_down (g cap n a m:Nat) (ham:a + 1 < m) (hb:m + 1 ≤ n) (hn:n ≤ 1000) (f:Nat → Mk) (sp:List Value) (w:World) (h:MkR w g n f sp) (hs:Srt f a m):MergeOk g cap n a m (m + 1) f sp w:=by
 unfold MergeOk
 have CC:=Hd (fun x y w => hi_cmp x y w)
 have H:=Hd h
 have HS:=Hd hs
 clear h hs
 have hw0:IntKind.i64.wrap ((m:Int) - (a:Int)) = (m:Int) - (a:Int):=by rw [IntKind.wrap_i64];omega
 have e1:((m:Int) - (a:Int) == 1) = false:=beq_eq_false_iff_ne.2 (by omega)
 have hw1:IntKind.i64.wrap (((m + 1:Nat):Int) - (m:Int)) = 1:=by rw [IntKind.wrap_i64];omega
 obtain ⟨b,hb'⟩:∃ b,m + 1 = b:=⟨_,rfl⟩
 have HB:=Hd hb'
 rw [hb'] at hw1 hb ⊢
 go_enter Tryz.func231,Tryz.ntmps231
 go_wp2_with fail
 clear e1 hw0 hw1
 go_loopw [14,15] (fun x y wr => ∃ i j:Nat,x = .int .i64 i ∧ y = .int .i64 j ∧ a ≤ i ∧ i ≤ j ∧ j ≤ m ∧ Hid (i = a ∨ (f (i - 1)).key ≤ (f m).key) ∧ Hid (j = m ∨ (f m).key < (f j).key) ∧ Hid (Only [] w wr)) (fun x y _ => (intOf y).toNat - (intOf x).toNat)
 case atStart => exact ⟨a,m,rfl,rfl,by omega,by omega,by omega,Hd (.inl rfl),Hd (.inl rfl),Hd oz⟩
 case round =>
  obtain ⟨i,j,rfl,rfl,hi,hij,hj,HLO,HHI,HO⟩:=hrel
  obtain ⟨wq,rfl⟩:∃ wq,wq = wr:=⟨_,rfl⟩
  by_cases hlt:i < j
  · have hlt':(i:Int) < (j:Int):=by omega
    have hmid:=half_i64 i j (by omega)
    obtain ⟨c,hc⟩:∃ c,(i + j) / 2 = c:=⟨_,rfl⟩
    rw [hc] at hmid
    have hci:i ≤ c:=by omega
    have hcj:c < j:=by omega
    clear hc
    have hR:=H.out.only HO.out
    obtain ⟨p0,p1,p2⟩:=hR.at3 (i:=m) (by omega)
    have vp0:=fun u:Since wq => u.cell p0
    have vp1:=fun u:Since wq => u.cell p1
    have vp2:=fun u:Since wq => u.cell p2
    clear p0 p1 p2
    obtain ⟨q0,q1,q2⟩:=hR.at3 (i:=c) (by omega)
    have vq0:=fun u:Since wq => u.cell q0
    have vq1:=fun u:Since wq => u.cell q1
    have vq2:=fun u:Since wq => u.cell q2
    clear q0 q1 q2
    have hcn:(c:Int) < (n:Int):=by omega
    have han:(m:Int) < (n:Int):=by omega
    have HKY:=Hd (cmpM_lt (f m) (f c))
    clear hR
    go_wp2_with fail
    clear hmid
    by_cases hlv:cmpM (f m) (f c) < 0
    · have hlv':decide (cmpM (f m) (f c) < 0) = true:=by simpa using hlv
      have HN:=Hd (HKY.out.1 hlv)
      clear HKY
      refine wp_region_only wq oz (by kernel_rfl) (by kernel_rfl) ?_
      repeat (go_big_quiet_step ((go_at_call 114;refine Calls.only (CC.out _ _ _))))
      refine wpQuiet_nil ?_
      rintro ⟨w3,ho3⟩
      dsimp only
      have HO3:=Hd (HO.out.tr0 ho3)
      clear ho3
      go_wp2_with fail
      go_roundw
      case rel => exact ⟨i,c,rfl,by go_num,by omega,by omega,by omega,HLO,Hd (.inr HN.out),HO3⟩
      case measure => (try simp [intOf]) <;> omega
    · have hlv':decide (cmpM (f m) (f c) < 0) = false:=by simpa using hlv
      have HN:Hid (¬ (f m).key < (f c).key):=Hd (fun e => hlv (HKY.out.2 e))
      clear HKY
      refine wp_region_only wq oz (by kernel_rfl) (by kernel_rfl) ?_
      repeat (go_big_quiet_step ((go_at_call 114;refine Calls.only (CC.out _ _ _))))
      refine wpQuiet_nil ?_
      rintro ⟨w3,ho3⟩
      dsimp only
      have HO3:=Hd (HO.out.tr0 ho3)
      clear ho3
      go_wp2_with fail
      go_roundw
      case rel => exact ⟨c + 1,j,by go_num,rfl,by omega,by omega,by omega,Hd (.inr (by rw [Nat.add_sub_cancel];have:=HN.out;omega)),HHI,HO3⟩
      case measure => (try simp [intOf]) <;> omega
  · have hlt':decide ((i:Int) < (j:Int)) = false:=by simp;omega
    obtain rfl:i = j:=by omega
    have HSRT:Hid (Srt (shD f m i) a b):=Hd (by
     rw [← HB.out]
     exact down_srt HS.out hi hj
      (fun x h1 h2 => by
       rcases HLO.out with e | e
       · omega
       · have:=HS.out.le (x:=x) (y:=i - 1) h1 (by omega) (by omega)
         omega)
      (fun x h1 h2 => by
       rcases HHI.out with e | e
       · omega
       · have:=HS.out.le (x:=i) (y:=x) (by omega) h1 h2
         omega))
    clear HLO HHI
    go_wp2_with fail
    go_loopw [17] (fun x wr => ∃ k:Nat,x = .int .i64 k ∧ i ≤ k ∧ k ≤ m ∧ Hid (Only [g] w wr) ∧ Hid (MkR wr g n (shD f m k) sp)) (fun x _ => (intOf x).toNat)
    case atStart => exact ⟨m,rfl,by omega,by omega,Hd (HO.out.of0),by rw [shD_zero];exact Hd (H.out.only HO.out)⟩
    case round =>
     obtain ⟨k,rfl,hk1,hk2,hO,hR⟩:=hrel
     obtain ⟨wq,rfl⟩:∃ wq,wq = wr:=⟨_,rfl⟩
     by_cases hlk:i < k
     · obtain ⟨kp,rfl⟩:∃ kp,k = kp + 1:=⟨k - 1,by omega⟩
       have hlk':(i:Int) < (kp:Int) + 1:=by omega
       have hlk2:decide ((i:Int) < (kp:Int) + 1) = true:=by simp;omega
       have HST:=Hd (shD_step f m kp hk2)
       obtain ⟨f2,hf2⟩:∃ f2,shD f m (kp + 1) = f2:=⟨_,rfl⟩
       rw [hf2] at hR HST
       have ja:(kp:Int) < (n:Int):=by omega
       have jb:((kp:Int) + 1) < (n:Int):=by omega
       have hwp:IntKind.i64.wrap ((kp:Int) + 1 - 1) = (kp:Int):=by rw [IntKind.wrap_i64];omega
       obtain ⟨a0,a1,a2⟩:=hR.out.at3 (i:=kp) (by omega)
       obtain ⟨c0,c1,c2⟩:=hR.out.at3 (i:=kp + 1) (by omega)
       have e0:((kp:Int) + 1).toNat = kp + 1:=by omega
       have fz:=fun k => hR.out.frozen k
       clear hf2
       go_wp2_with fail
       go_region
       all_goals
        clear a0 a1 a2 c0 c1 c2 fz
        go_wp2_with fail
        go_roundw
        case rel => exact ⟨kp,by go_num,by omega,by omega,Hd (((hO.out.setCells (b:=g) (.inl (by simp)) ((kp + 1) * 3) (f2 kp).cells).setCells (b:=g) (.inl (by simp)) (kp * 3) (f2 (kp + 1)).cells).drew),Hd (by rw [← HST.out];exact ⟨(hR.out.swap (kp + 1) kp (by omega) (by omega)).c.drew⟩)⟩
        case measure => (try simp [intOf]) <;> omega
     · have hlk2:decide ((i:Int) < (k:Int)) = false:=by simp;omega
       obtain rfl:k = i:=by omega
       have HEX:Hid (Ex a b f (shD f m k)):=Hd (by rw [← HB.out];have:=Ex_shD (f:=f) (a:=a) (m:=m) (m - k) (by omega);rwa [show m - (m - k) = k from by omega] at this)
       go_wp2_with fail
       (try simp only [Exit.inBlock,Exit.then])
       refine bodyPost_ret (results_none rfl _ _ _) rfl ?_
       exact ⟨rfl,hO.out,_,HEX.out,HSRT.out,hR.out⟩
theorem merge_mid (g cap n a m b d:Nat) (hd:b - a ≤ d + 1) (ham:a + 1 < m) (hmb:m + 1 < b) (hb:b ≤ n) (hn:n ≤ 1000) (f:Nat → Mk) (sp:List Value) (w:World) (h:MkR w g n f sp) (hs1:Srt f a m) (hs2:Srt f m b)
 (ih:∀ (a m b:Nat) (f:Nat → Mk) (sp:List Value) (w:World),b - a ≤ d → a < m → m < b → b ≤ n → MkR w g n f sp → Srt f a m → Srt f m b → MergeOk g cap n a m b f sp w):MergeOk g cap n a m b f sp w:=by
 unfold MergeOk
 have CC:=Hd (fun x y w => hi_cmp x y w)
 have H:=Hd h
 have HS1:=Hd hs1
 have HS2:=Hd hs2
 have IH:=Hd ih
 clear h hs1 hs2 ih
 have hw0:IntKind.i64.wrap ((m:Int) - (a:Int)) = (m:Int) - (a:Int):=by rw [IntKind.wrap_i64];omega
 have e1:((m:Int) - (a:Int) == 1) = false:=beq_eq_false_iff_ne.2 (by omega)
 have hw1:IntKind.i64.wrap ((b:Int) - (m:Int)) = (b:Int) - (m:Int):=by rw [IntKind.wrap_i64];omega
 have e2:((b:Int) - (m:Int) == 1) = false:=beq_eq_false_iff_ne.2 (by omega)
 have hmid0:=half_i64 a b (by omega)
 obtain ⟨M,hM⟩:∃ c,(a + b) / 2 = c:=⟨_,rfl⟩
 rw [hM] at hmid0
 have hM1:2 * M ≤ a + b:=by omega
 have hM2:a + b ≤ 2 * M + 1:=by omega
 obtain ⟨N,hN⟩:∃ c,M + m = c:=⟨_,rfl⟩
 have hNz:(M:Int) + (m:Int) = (N:Int):=by omega
 have hNw:IntKind.i64.wrap ((M:Int) + (m:Int)) = (N:Int):=by rw [IntKind.wrap_i64];omega
 clear hM
 go_enter Tryz.func231,Tryz.ntmps231
 go_upto_if 140 with fail
 go_cut [20,21] (fun x y wx => ∃ s0 r0:Nat,x = .int .i64 s0 ∧ y = .int .i64 r0 ∧ (a ≤ s0) ∧ (s0 ≤ r0) ∧ (r0 ≤ m) ∧ (N ≤ s0 + b) ∧ (m + r0 ≤ N) ∧ (s0 = a ∨ N - s0 = b) ∧ (r0 = m ∨ N - r0 = m) ∧ (r0 ≤ M) ∧ (N - s0 ≤ b) ∧ (m ≤ N - r0) ∧ (M ≤ N - r0) ∧ wx = w)
 case first => as_aux_lemma =>
  by_cases hmM:M < m
  · have dM:decide ((M:Int) < (m:Int)) = true:=by simp;omega
    obtain ⟨s0,hs0⟩:∃ s,N - b = s:=⟨_,rfl⟩
    have hsz:(N:Int) - (b:Int) = (s0:Int):=by omega
    have hsw:IntKind.i64.wrap ((N:Int) - (b:Int)) = (s0:Int):=by rw [IntKind.wrap_i64];omega
    go_wp2_with fail
    go_meet
    exact ⟨s0,M,by go_num,by go_num,by omega,by omega,by omega,by omega,by omega,by omega,by omega,by omega,by omega,by omega,by omega,rfl⟩
  · have dM:decide ((M:Int) < (m:Int)) = false:=by simp;omega
    go_wp2_with fail
    go_meet
    exact ⟨a,m,by go_num,by go_num,by omega,by omega,by omega,by omega,by omega,by omega,by omega,by omega,by omega,by omega,by omega,rfl⟩
 case rest => as_aux_lemma =>
 obtain ⟨s0,r0,rfl,rfl,f1,f2,f3,f4,f5,f6,f7,f8,f9,f10,f11,hww⟩:=hcut
 have hww:=hww.symm
 subst hww
 go_wp2_with fail
 clear e1 e2 hw0 hw1 hmid0 hNz hNw
 go_loopw [20,21] (fun x y wr => ∃ i j:Nat,x = .int .i64 i ∧ y = .int .i64 j ∧ s0 ≤ i ∧ i ≤ j ∧ j ≤ r0 ∧ Hid (i = s0 ∨ (f (i - 1)).key ≤ (f (N - i)).key) ∧ Hid (j = r0 ∨ (f (N - 1 - j)).key < (f j).key) ∧ Hid (Only [] w wr)) (fun x y _ => (intOf y).toNat - (intOf x).toNat)
 case atStart => exact ⟨s0,r0,rfl,rfl,by omega,by omega,by omega,Hd (.inl rfl),Hd (.inl rfl),Hd oz⟩
 case round =>
  obtain ⟨i,j,rfl,rfl,hi,hij,hj,HLO,HHI,HO⟩:=hrel
  obtain ⟨wq,rfl⟩:∃ wq,wq = wr:=⟨_,rfl⟩
  by_cases hlt:i < j
  · have hlt':(i:Int) < (j:Int):=by omega
    have hmid:=half_i64 i j (by omega)
    obtain ⟨c,hc⟩:∃ c,(i + j) / 2 = c:=⟨_,rfl⟩
    rw [hc] at hmid
    have hci:i ≤ c:=by omega
    have hcj:c < j:=by omega
    clear hc
    obtain ⟨q,hqe⟩:∃ q,N - 1 - c = q:=⟨_,rfl⟩
    have hqz:(N:Int) - 1 - (c:Int) = (q:Int):=by omega
    have hqw:IntKind.i64.wrap ((N:Int) - 1 - (c:Int)) = (q:Int):=by rw [IntKind.wrap_i64];omega
    have hqn:q < n:=by omega
    have hqi:(q:Int) < (n:Int):=by omega
    have HQ:=Hd hqe
    have hR:=H.out.only HO.out
    obtain ⟨p0,p1,p2⟩:=hR.at3 (i:=q) (by omega)
    have vp0:=fun u:Since wq => u.cell p0
    have vp1:=fun u:Since wq => u.cell p1
    have vp2:=fun u:Since wq => u.cell p2
    clear p0 p1 p2
    obtain ⟨k0,k1,k2⟩:=hR.at3 (i:=c) (by omega)
    have vk0:=fun u:Since wq => u.cell k0
    have vk1:=fun u:Since wq => u.cell k1
    have vk2:=fun u:Since wq => u.cell k2
    clear k0 k1 k2
    have hcn:(c:Int) < (n:Int):=by omega
    have HKY:=Hd (cmpM_lt (f q) (f c))
    clear hR hqe
    go_wp2_with fail
    clear hmid
    by_cases hlv:cmpM (f q) (f c) < 0
    · as_aux_lemma =>
      have hlv':decide (cmpM (f q) (f c) < 0) = true:=by simpa using hlv
      have HN:=Hd (HKY.out.1 hlv)
      clear HKY
      refine wp_region_only wq oz (by kernel_rfl) (by kernel_rfl) ?_
      repeat (go_big_quiet_step ((go_at_call 114;refine Calls.only (CC.out _ _ _))))
      refine wpQuiet_nil ?_
      rintro ⟨w3,ho3⟩
      dsimp only
      have HO3:=Hd (HO.out.tr0 ho3)
      clear ho3
      go_wp2_with fail
      go_roundw
      case rel => exact ⟨i,c,rfl,by go_num,by omega,by omega,by omega,HLO,Hd (.inr (by rw [HQ.out];exact HN.out)),HO3⟩
      case measure => (try simp [intOf]) <;> omega
    · as_aux_lemma =>
      have hlv':decide (cmpM (f q) (f c) < 0) = false:=by simpa using hlv
      have HN:Hid (¬ (f q).key < (f c).key):=Hd (fun e => hlv (HKY.out.2 e))
      clear HKY
      refine wp_region_only wq oz (by kernel_rfl) (by kernel_rfl) ?_
      repeat (go_big_quiet_step ((go_at_call 114;refine Calls.only (CC.out _ _ _))))
      refine wpQuiet_nil ?_
      rintro ⟨w3,ho3⟩
      dsimp only
      have HO3:=Hd (HO.out.tr0 ho3)
      clear ho3
      go_wp2_with fail
      go_roundw
      case rel => exact ⟨c + 1,j,by go_num,rfl,by omega,by omega,by omega,Hd (.inr (by rw [Nat.add_sub_cancel,show N - (c + 1) = q from by have:=HQ.out;omega];have:=HN.out;omega)),HHI,HO3⟩
      case measure => (try simp [intOf]) <;> omega
  · have hlt':decide ((i:Int) < (j:Int)) = false:=by simp;omega
    obtain rfl:i = j:=by omega
    obtain ⟨e,he⟩:∃ e,N - i = e:=⟨_,rfl⟩
    have HSP:=Hd (Spl.of HS1.out HS2.out (s0:=s0) (r0:=r0) (s:=i) (n:=N) ⟨hi,hj⟩ (by omega) (by omega) (by omega) (by omega) (by omega) (by omega) HLO.out HHI.out)
    have hez:(N:Int) - (i:Int) = (e:Int):=by omega
    have hew:IntKind.i64.wrap ((N:Int) - (i:Int)) = (e:Int):=by rw [IntKind.wrap_i64];omega
    have hai:a ≤ i:=by omega
    have him:i ≤ m:=by omega
    have hiM:i ≤ M:=by omega
    have hme:m ≤ e:=by omega
    have heb:e ≤ b:=by omega
    have hMe:M ≤ e:=by omega
    have hsum:M + m = i + e:=by omega
    rw [he] at HSP
    have HHF:=Hd (Spl.half HS1.out HS2.out HSP.out hai him hme heb hsum)
    obtain ⟨g1,hg1⟩:∃ g1,rotF f m (m - i) (e - m) = g1:=⟨_,rfl⟩
    rw [hg1] at HHF
    have HG1:=Hd hg1
    clear hg1 he HLO HHI HSP
    obtain ⟨q1,hq1⟩:∃ b:Bool,(decide (i < m) && decide (m < e)) = b:=⟨_,rfl⟩
    have HQ1:=Hd hq1
    go_upto_region 39 with fail
    go_cut [185] (fun x wx => x = .bool q1 ∧ wx = wq)
    case first => as_aux_lemma =>
     clear hq1
     by_cases h1:i < m
     · have d1:decide ((i:Int) < (m:Int)) = true:=by simp;omega
       by_cases h2:m < e
       · have d2:decide ((m:Int) < (e:Int)) = true:=by simp;omega
         go_wp2_with fail
         go_meet
         exact ⟨by rw [← HQ1.out];simp [h1,h2],rfl⟩
       · have d2:decide ((m:Int) < (e:Int)) = false:=by simp;omega
         go_wp2_with fail
         go_meet
         exact ⟨by rw [← HQ1.out];simp [h1,h2],rfl⟩
     · have d1:decide ((i:Int) < (m:Int)) = false:=by simp;omega
       go_wp2_with fail
       go_meet
       exact ⟨by rw [← HQ1.out];simp [h1],rfl⟩
    case rest => as_aux_lemma =>
    obtain ⟨rfl,hww⟩:=hcut
    have hww:=hww.symm
    subst hww
    clear hq1
    go_upto_if 185 with fail
    go_cut [] (fun wx => Hid (Only [g] w wx) ∧ Hid (Ex a b f g1) ∧ Hid (MkR wx g n g1 sp))
    case first => as_aux_lemma =>
     cases q1 with
     | true =>
      have h1:i < m ∧ m < e:=by simpa using HQ1.out
      have CR:=Hd (hi_rot g cap n i m e h1.1 h1.2 (by omega) hn f sp wq (H.out.only HO.out))
      rw [HG1.out] at CR
      go_wp2_with fail
      refine CR.out.mono ?_
      rintro e' w4 ⟨rfl,ho4,hx4,hr4⟩
      have HF4:Hid (Only [g] w w4 ∧ Ex a b f g1 ∧ MkR w4 g n g1 sp):=Hd ⟨HO.out.of0.tr ho4,hx4.mono hai heb,hr4⟩
      clear ho4 hx4 hr4 CR
      go_wp2_with fail
      go_meet
      exact ⟨Hd HF4.out.1,Hd HF4.out.2.1,Hd HF4.out.2.2⟩
     | false =>
      have HF4:Hid (Only [g] w wq ∧ Ex a b f g1 ∧ MkR wq g n g1 sp):=Hd (by
       have hq:=HQ1.out
       simp at hq
       have e1:g1 = f:=by rw [← HG1.out];exact rotF_zero f m _ _ (by omega)
       rw [e1]
       exact ⟨HO.out.of0,Ex.refl _ _ _,H.out.only HO.out⟩)
      go_wp2_with fail
      go_meet
      exact ⟨Hd HF4.out.1,Hd HF4.out.2.1,Hd HF4.out.2.2⟩
    case rest => as_aux_lemma =>
    obtain ⟨hO5,hX5,hR5⟩:=hcut
    clear HG1 HO HQ1
    obtain ⟨w5,hw5⟩:∃ x,x = wc:=⟨_,rfl⟩
    rw [← hw5] at hO5 hR5 ⊢
    clear hw5
    obtain ⟨q2,hq2⟩:∃ b:Bool,(decide (a < i) && decide (i < M)) = b:=⟨_,rfl⟩
    have HQ2:=Hd hq2
    go_upto_region 41 with fail
    go_cut [199] (fun x wx => x = .bool q2 ∧ wx = w5)
    case first => as_aux_lemma =>
     clear hq2
     by_cases h1:a < i
     · have d1:decide ((a:Int) < (i:Int)) = true:=by simp;omega
       by_cases h2:i < M
       · have d2:decide ((i:Int) < (M:Int)) = true:=by simp;omega
         go_wp2_with fail
         go_meet
         exact ⟨by rw [← HQ2.out];simp [h1,h2],rfl⟩
       · have d2:decide ((i:Int) < (M:Int)) = false:=by simp;omega
         go_wp2_with fail
         go_meet
         exact ⟨by rw [← HQ2.out];simp [h1,h2],rfl⟩
     · have d1:decide ((a:Int) < (i:Int)) = false:=by simp;omega
       go_wp2_with fail
       go_meet
       exact ⟨by rw [← HQ2.out];simp [h1],rfl⟩
    case rest => as_aux_lemma =>
    obtain ⟨rfl,hww⟩:=hcut
    have hww:=hww.symm
    subst hww
    clear hq2
    go_upto_if 199 with fail
    go_cut [] (fun wx => ∃ f1,Hid (Only [g] w wx) ∧ Hid (Ex a M g1 f1) ∧ Hid (Srt f1 a M) ∧ Hid (MkR wx g n f1 sp))
    case first => as_aux_lemma =>
     cases q2 with
     | true =>
      have h1:a < i ∧ i < M:=by simpa using HQ2.out
      have CR:=Hd (IH.out a i M g1 sp _ (by omega) h1.1 h1.2 (by omega) hR5.out HHF.out.p1 HHF.out.p2)
      unfold MergeOk at CR
      go_wp2_with fail
      refine CR.out.mono ?_
      rintro e' w4 ⟨rfl,ho4,f1,hx4,hs4,hr4⟩
      have HF4:Hid (Only [g] w w4 ∧ Ex a M g1 f1 ∧ Srt f1 a M ∧ MkR w4 g n f1 sp):=Hd ⟨hO5.out.tr ho4,hx4,hs4,hr4⟩
      clear ho4 hx4 hs4 hr4 CR
      go_wp2_with fail
      go_meet
      exact ⟨f1,Hd HF4.out.1,Hd HF4.out.2.1,Hd HF4.out.2.2.1,Hd HF4.out.2.2.2⟩
     | false =>
      have HSR:Hid (Srt g1 a M):=Hd (by
       have hq:=HQ2.out
       simp at hq
       by_cases h2:a < i
       · have h3:i = M:=by have:=hq h2;omega
         rw [← h3]
         exact HHF.out.p1
       · have h3:i = a:=by omega
         have:=HHF.out.p2
         rwa [h3] at this)
      go_wp2_with fail
      go_meet
      exact ⟨g1,hO5,Hd (Ex.refl _ _ _),HSR,hR5⟩
    case rest => as_aux_lemma =>
    obtain ⟨f1,hO6,hX6,hS6,hR6⟩:=hcut
    clear hO5 hR5 HQ2
    have HP3:Hid (Srt f1 M e):=Hd (HHF.out.p3.congr (fun x h1 h2 => hX6.out.out x (by omega)))
    have HP4:Hid (Srt f1 e b):=Hd (HHF.out.p4.congr (fun x h1 h2 => hX6.out.out x (by omega)))
    have HXM:Hid (Ex a b f f1):=Hd (hX5.out.trans (hX6.out.mono (Nat.le_refl _) (by omega)))
    by_cases h1:M < e ∧ e < b
    · have d1:(M:Int) < (e:Int):=by omega
      have d2:(e:Int) < (b:Int):=by omega
      have CR:=Hd (IH.out M e b f1 sp _ (by omega) h1.1 h1.2 hb hR6.out HP3.out HP4.out)
      unfold MergeOk at CR
      go_wp2_with fail
      refine CR.out.mono ?_
      rintro e' w4 ⟨rfl,ho4,f2,hx4,hs4,hr4⟩
      have HFIN:Hid (Only [g] w w4 ∧ ∃ f',Ex a b f f' ∧ Srt f' a b ∧ MkR w4 g n f' sp):=Hd ⟨hO6.out.tr ho4,f2,HXM.out.trans (hx4.mono (by omega) (Nat.le_refl _)),Half.done HHF.out hX6.out hS6.out hx4 hs4,hr4⟩
      clear ho4 hx4 hs4 hr4 CR
      go_wp2_with fail
      go_end0
      exact ⟨rfl,HFIN.out⟩
    · have HSR:Hid (Srt f1 M b):=Hd (by
       by_cases h2:M < e
       · have h3:e = b:=by omega
         rw [← h3]
         exact HP3.out
       · have h3:e = M:=by omega
         have:=HP4.out
         rwa [h3] at this)
      have HFIN:Hid (Only [g] w _ ∧ ∃ f',Ex a b f f' ∧ Srt f' a b ∧ MkR _ g n f' sp):=Hd ⟨hO6.out,f1,HXM.out,Half.done HHF.out hX6.out hS6.out (Ex.refl _ _ _) HSR.out,hR6.out⟩
      by_cases h2:M < e
      · have d1:decide ((M:Int) < (e:Int)) = true:=by simp;omega
        have d2:decide ((e:Int) < (b:Int)) = false:=by simp;omega
        go_wp2_with fail
        go_end0
        exact ⟨rfl,HFIN.out⟩
      · have d1:decide ((M:Int) < (e:Int)) = false:=by simp;omega
        go_wp2_with fail
        go_end0
        exact ⟨rfl,HFIN.out⟩
theorem hi_merge (g cap n:Nat) (hn:n ≤ 1000):∀ (d a m b:Nat) (f:Nat → Mk) (sp:List Value) (w:World),b - a ≤ d → a < m → m < b → b ≤ n → MkR w g n f sp → Srt f a m → Srt f m b → MergeOk g cap n a m b f sp w:=by
 intro d
 induction d with
 | zero => intro a m b f sp w h h1 h2;omega
 | succ d ih =>
  intro a m b f sp w h h1 h2 h3 hR s1 s2
  by_cases e1:m = a + 1
  · subst e1
    exact merge_up g cap n a b h2 h3 hn f sp w hR s2
  · by_cases e2:b = m + 1
    · subst e2
      exact merge_down g cap n a m (by omega) h3 hn f sp w hR s1
    · exact merge_mid g cap n a m b d h (by omega) (by omega) h3 hn f sp w hR s1 s2 ih
inductive Runs (f:Nat → Mk) (s n:Nat):Nat → Prop
 | done {a:Nat} (h:n ≤ a):Runs f s n a
 | more {a:Nat} (h:Srt f a (min (a + s) n)) (r:Runs f s n (a + s)):Runs f s n a
inductive PRuns (f:Nat → Mk) (s:Nat):Nat → Prop
 | nil:PRuns f s 0
 | more {a:Nat} (r:PRuns f s a) (h:Srt f a (a + s)):PRuns f s (a + s)
theorem Runs.congr {f g:Nat → Mk} {s n a:Nat} (h:Runs f s n a):(∀ x,a ≤ x → g x = f x) → Runs g s n a:=by
 induction h with
 | done h => intro _;exact .done h
 | more h r ih => intro hg;exact .more (h.congr (fun x h1 h2 => hg x h1)) (ih (fun x hx => hg x (by omega)))
theorem PRuns.congr {f g:Nat → Mk} {s a:Nat} (h:PRuns f s a):(∀ x,x < a → g x = f x) → PRuns g s a:=by
 induction h with
 | nil => intro _;exact .nil
 | more r h ih => intro hg;exact .more (ih (fun x hx => hg x (by omega))) (h.congr (fun x h1 h2 => hg x h2))
theorem PRuns.runs {f:Nat → Mk} {s n a:Nat} (h:PRuns f s a) (ha:a ≤ n):Runs f s n a → Runs f s n 0:=by
 induction h with
 | nil => intro r;exact r
 | more r h ih => intro r2;exact ih (by omega) (.more (h.sub (Nat.le_refl _) (by omega)) r2)
theorem Runs.last {f:Nat → Mk} {s n a:Nat} (h:Srt f a n) (hn:n ≤ a + s):Runs f s n a:=.more (h.sub (Nat.le_refl _) (by omega)) (.done (by omega))
theorem Runs.two {f:Nat → Mk} {s n a:Nat} (h:Runs f s n a) (hn:a + s < n):Srt f a (a + s) ∧ Srt f (a + s) (min (a + s + s) n) ∧ Runs f s n (a + s + s):=by
 cases h with
 | done h => omega
 | more h r =>
  cases r with
  | done h => omega
  | more h2 r2 => exact ⟨h.sub (Nat.le_refl _) (by omega),h2,r2⟩
theorem Runs.one {f:Nat → Mk} {s n a:Nat} (h:Runs f s n a) (hn:n ≤ a + s):Srt f a n:=by
 cases h with
 | done h => intro x y h1 h2 h3;omega
 | more h r => exact h.sub (Nat.le_refl _) (by omega)
theorem hi_stable (g cap n:Nat) (hn:n ≤ 1000) (f:Nat → Mk) (sp:List Value) (w:World) (h:MkR w g n f sp):
 Calls Tryz.prog 189 #[.slice (some ⟨g,0,none⟩) n cap,.int .i64 n,.func (.func 114) #[] #[]] w fun e w' =>
  e = .returned (.tuple #[]) ∧ Only [g] w w' ∧ ∃ f',Ex 0 n f f' ∧ Srt f' 0 n ∧ MkR w' g n f' sp:=by
 have CI:=Hd (fun a b h1 h2 f w h => hi_ins g cap n a b h1 h2 hn f sp w h)
 have CM:=Hd (fun a m b h1 h2 h3 f w hR s1 s2 => hi_merge g cap n hn (b - a) a m b f sp w (Nat.le_refl _) h1 h2 h3 hR s1 s2)
 have H:=Hd h
 clear h
 go_enter Tryz.func189,Tryz.ntmps189
 go_wp2_with fail
 go_loopw [7,8] (fun x y wr => ∃ (a:Nat) (f1:Nat → Mk),x = .int .i64 a ∧ y = .int .i64 ((a + 20:Nat):Int) ∧ a ≤ n ∧ Hid (Only [g] w wr) ∧ Hid (Ex 0 n f f1) ∧ Hid (PRuns f1 20 a) ∧ Hid (MkR wr g n f1 sp)) (fun x _ _ => n - (intOf x).toNat)
 case atStart => exact ⟨0,f,rfl,rfl,by omega,Hd oz,Hd (Ex.refl _ _ _),Hd .nil,H⟩
 case round =>
  obtain ⟨a,f1,rfl,rfl,han,hO,hX,hP,hR⟩:=hrel
  obtain ⟨wq,rfl⟩:∃ wq,wq = wr:=⟨_,rfl⟩
  obtain ⟨b,hb⟩:∃ b,a + 20 = b:=⟨_,rfl⟩
  have HB:=Hd hb
  rw [hb]
  by_cases hbn:b ≤ n
  · have hbn':(b:Int) ≤ (n:Int):=by omega
    have hbw:IntKind.i64.wrap ((b:Int) + 20) = ((b + 20:Nat):Int):=by rw [IntKind.wrap_i64];omega
    have C:=Hd (CI.out a b (by omega) hbn f1 wq hR.out)
    clear hb
    go_wp2_with fail
    refine C.out.mono ?_
    rintro e w2 ⟨rfl,ho2,f2,hx2,hs2,hr2⟩
    have HO2:=Hd (hO.out.tr ho2)
    have HX2:=Hd (hX.out.trans (hx2.mono (by omega) hbn))
    have HP2:Hid (PRuns f2 20 b):=Hd (by
     rw [← HB.out]
     exact .more (hP.out.congr (fun x hx => hx2.out x (by omega))) (by rw [HB.out];exact hs2))
    have HR2:=Hd hr2
    clear ho2 hx2 hs2 hr2 C hO hX hP hR
    go_wp2_with fail
    go_roundw
    case rel => exact ⟨b,f2,by go_num,by go_num,hbn,HO2,HX2,HP2,HR2⟩
    case measure => (try simp [intOf]) <;> (have:=HB.out;omega)
  · have hbn':decide ((b:Int) ≤ (n:Int)) = false:=by simp;omega
    have C:=Hd (CI.out a n han (Nat.le_refl _) f1 wq hR.out)
    clear hb
    go_wp2_with fail
    refine C.out.mono ?_
    rintro e w2 ⟨rfl,ho2,f2,hx2,hs2,hr2⟩
    have HO2:=Hd (hO.out.tr ho2)
    have HX2:=Hd (hX.out.trans (hx2.mono (by omega) (Nat.le_refl _)))
    have HP2:Hid (Runs f2 20 n 0):=Hd ((hP.out.congr (fun x hx => hx2.out x (by omega))).runs han (Runs.last hs2 (by have:=HB.out;omega)))
    have HR2:=Hd hr2
    clear ho2 hx2 hs2 hr2 C hO hX hP hR
    go_wp2_with fail
    go_loopw [6] (fun x wr => ∃ (s:Nat) (f3:Nat → Mk),x = .int .i64 s ∧ 20 ≤ s ∧ s ≤ 2000 ∧ Hid (Only [g] w wr) ∧ Hid (Ex 0 n f f3) ∧ Hid (Runs f3 s n 0) ∧ Hid (MkR wr g n f3 sp)) (fun x _ => n - (intOf x).toNat)
    case atStart => exact ⟨20,f2,rfl,by omega,by omega,HO2,HX2,HP2,HR2⟩
    case round =>
     obtain ⟨s,f3,rfl,hs20,hs2k,hO,hX,hP,hR⟩:=hrel
     obtain ⟨wq,rfl⟩:∃ wq,wq = wr:=⟨_,rfl⟩
     by_cases hsn:s < n
     · have hsn':(s:Int) < (n:Int):=by omega
       obtain ⟨t,ht⟩:∃ t,2 * s = t:=⟨_,rfl⟩
       have ht1:(2:Int) * (s:Int) = (t:Int):=by omega
       have htw:IntKind.i64.wrap ((2:Int) * (s:Int)) = (t:Int):=by rw [IntKind.wrap_i64];omega
       have ht2:(s:Int) * (2:Int) = (t:Int):=by omega
       have htw2:IntKind.i64.wrap ((s:Int) * (2:Int)) = (t:Int):=by rw [IntKind.wrap_i64];omega
       have HT:=Hd ht
       clear ht
       go_wp2_with fail
       go_loopw [7,8] (fun x y wr => ∃ (a:Nat) (f4:Nat → Mk),x = .int .i64 a ∧ y = .int .i64 ((a + t:Nat):Int) ∧ a ≤ n ∧ Hid (Only [g] w wr) ∧ Hid (Ex 0 n f f4) ∧ Hid (PRuns f4 t a) ∧ Hid (Runs f4 s n a) ∧ Hid (MkR wr g n f4 sp)) (fun x _ _ => n - (intOf x).toNat)
       case atStart => exact ⟨0,f3,by go_num,by go_num,by omega,hO,hX,Hd .nil,hP,hR⟩
       case round =>
        obtain ⟨a,f4,rfl,rfl,han,hO,hX,hQ,hP,hR⟩:=hrel
        obtain ⟨wq,rfl⟩:∃ wq,wq = wr:=⟨_,rfl⟩
        obtain ⟨b,hb⟩:∃ b,a + t = b:=⟨_,rfl⟩
        have HB:=Hd hb
        rw [hb]
        obtain ⟨m,hm⟩:∃ m,a + s = m:=⟨_,rfl⟩
        have HM:=Hd hm
        have hmw:IntKind.i64.wrap ((a:Int) + (s:Int)) = (m:Int):=by rw [IntKind.wrap_i64];omega
        have hmz:(a:Int) + (s:Int) = (m:Int):=by omega
        by_cases hbn:b ≤ n
        · have hbn':(b:Int) ≤ (n:Int):=by omega
          obtain ⟨u,hu⟩:∃ u,b + t = u:=⟨_,rfl⟩
          have HU:=Hd hu
          have hbz:(b:Int) + (t:Int) = (u:Int):=by omega
          have hbw:IntKind.i64.wrap ((b:Int) + (t:Int)) = (u:Int):=by have:=HT.out;rw [IntKind.wrap_i64];omega
          clear hu
          obtain ⟨r1,r2,r3⟩:=hP.out.two (by have:=HT.out;omega)
          have eb:a + s + s = b:=by have:=HT.out;omega
          rw [eb] at r2 r3
          rw [hm] at r1 r2
          have C:=Hd (CM.out a m b (by omega) (by have:=HT.out;omega) hbn f4 wq hR.out r1 (r2.sub (Nat.le_refl _) (by omega)))
          have HR3:=Hd r3
          unfold MergeOk at C
          clear hb hm r1 r2 r3 eb
          go_wp2_with fail
          refine C.out.mono ?_
          rintro e w2 ⟨rfl,ho2,f5,hx2,hs2,hr2⟩
          have HO2:=Hd (hO.out.tr ho2)
          have HX2:=Hd (hX.out.trans (hx2.mono (by omega) hbn))
          have HQ2:Hid (PRuns f5 t b):=Hd (by
           rw [← HB.out]
           exact .more (hQ.out.congr (fun x hx => hx2.out x (by omega))) (by rw [HB.out];exact hs2))
          have HP2:Hid (Runs f5 s n b):=Hd (HR3.out.congr (fun x hx => hx2.out x (by omega)))
          have HR2:=Hd hr2
          clear ho2 hx2 hs2 hr2 C hO hX hP hR hQ
          go_wp2_with fail
          go_roundw
          case rel => exact ⟨b,f5,by go_num,by rw [HU.out],hbn,HO2,HX2,HQ2,HP2,HR2⟩
          case measure => (try simp [intOf]) <;> (have:=HB.out;have:=HT.out;omega)
        · have hbn':decide ((b:Int) ≤ (n:Int)) = false:=by simp;omega
          by_cases hmn:m < n
          · have hmn':(m:Int) < (n:Int):=by omega
            obtain ⟨r1,r2,r3⟩:=hP.out.two (by omega)
            rw [hm] at r1 r2
            have C:=Hd (CM.out a m n (by omega) hmn (Nat.le_refl _) f4 wq hR.out r1 (r2.sub (Nat.le_refl _) (by have:=HT.out;omega)))
            unfold MergeOk at C
            clear hb hm r1 r2 r3
            go_wp2_with fail
            refine C.out.mono ?_
            rintro e w2 ⟨rfl,ho2,f5,hx2,hs2,hr2⟩
            have HO2:=Hd (hO.out.tr ho2)
            have HX2:=Hd (hX.out.trans (hx2.mono (by omega) (Nat.le_refl _)))
            have HP2:Hid (Runs f5 t n 0):=Hd ((hQ.out.congr (fun x hx => hx2.out x (by omega))).runs han (Runs.last hs2 (by have:=HB.out;omega)))
            have HR2:=Hd hr2
            clear ho2 hx2 hs2 hr2 C hO hX hP hR hQ
            go_wp2_with fail
            go_roundw
            case rel => exact ⟨t,f5,by go_num,by have:=HT.out;omega,by have:=HT.out;omega,HO2,HX2,HP2,HR2⟩
            case measure => (try simp [intOf]) <;> (have:=HT.out;omega)
          · have hmn':decide ((m:Int) < (n:Int)) = false:=by simp;omega
            have HP2:Hid (Runs f4 t n 0):=Hd (hQ.out.runs han (Runs.last (hP.out.one (by omega)) (by have:=HB.out;omega)))
            clear hb hm
            go_wp2_with fail
            go_roundw
            case rel => exact ⟨t,f4,by go_num,by have:=HT.out;omega,by have:=HT.out;omega,hO,hX,HP2,hR⟩
            case measure => (try simp [intOf]) <;> (have:=HT.out;omega)
     · have hsn':decide ((s:Int) < (n:Int)) = false:=by simp;omega
       have HSRT:=Hd (hP.out.one (by omega))
       go_wp2_with fail
       go_end0
       exact ⟨rfl,hO.out,f3,hX.out,HSRT.out,hR.out⟩
theorem hi_sort (n:Nat) (hn:n ≤ 1000):SortOk n:=fun g cap f sp w h => by
 have C:=Hd (hi_stable g cap n hn f sp w h)
 clear h
 go_enter Tryz.func113,Tryz.ntmps113
 go_wp2_with fail
 refine C.out.mono ?_
 rintro e w2 ⟨rfl,hh⟩
 have HF:=Hd hh
 clear hh
 go_wp2_with fail
 go_end0
 exact ⟨rfl,HF.out⟩
end Go.Proofs.YtcjfmildalappaaGreat
