/-
  Contracts; each theorem bears its own conditions.
-/
import Derived.BigRegion
import Derived.Test.YtcjfmildalappaaGreatK24aa
import Derived.Test.YtcjfmildalappaaGreatK24ab
set_option linter.all false
set_option maxRecDepth 100000
set_option maxHeartbeats 8000000
namespace Go.Proofs.YtcjfmildalappaaGreat
open Go.RowKit
structure Mk where
 tm : Int
 st : Bool
 pl : Int
def Mk.cells (m : Mk) : List Value := [.int .i64 m.tm, .bool m.st, .int .i64 m.pl]
def Mk.key (m : Mk) : Int := 2 * m.tm + (if m.st = true then 0 else 1)
def mkF (f : Nat → Mk) (n : Nat) : List Value := ((List.range n).map f).flatMap Mk.cells
theorem mkF_get (f : Nat → Mk) (n i j : Nat) (hi : i < n) (hj : j < 3) : (mkF f n)[i * 3 + j]? = (f i).cells[j]? :=
 flat_get Mk.cells 3 (fun _ => rfl) _ i j (f i) (by simp [hi]) hj
theorem mkF_length (f : Nat → Mk) (n : Nat) : (mkF f n).length = n * 3 := by unfold mkF; rw [flat_length Mk.cells 3 (fun _ => rfl)]; simp
theorem mkF_congr {f g : Nat → Mk} {n : Nat} (h : ∀ i, i < n → f i = g i) : mkF f n = mkF g n := by
 unfold mkF
 congr 1
 exact List.map_congr_left (fun i hi => h i (by simpa using hi))
def swF (f : Nat → Mk) (i j : Nat) : Nat → Mk := fun x => if x = i then f j else if x = j then f i else f x
structure Ex (a b : Nat) (f g : Nat → Mk) : Prop where
 out : ∀ x, ¬(a ≤ x ∧ x < b) → g x = f x
 to_ : ∀ x, a ≤ x → x < b → ∃ y, a ≤ y ∧ y < b ∧ g y = f x
 of_ : ∀ x, a ≤ x → x < b → ∃ y, a ≤ y ∧ y < b ∧ f y = g x
theorem Ex.refl (a b : Nat) (f : Nat → Mk) : Ex a b f f := ⟨fun _ _ => rfl, fun x h1 h2 => ⟨x, h1, h2, rfl⟩, fun x h1 h2 => ⟨x, h1, h2, rfl⟩⟩
theorem Ex.trans {a b : Nat} {f g h : Nat → Mk} (p : Ex a b f g) (q : Ex a b g h) : Ex a b f h :=
 ⟨fun x hx => (q.out x hx).trans (p.out x hx),
  fun x h1 h2 => by
   obtain ⟨y, y1, y2, y3⟩ := p.to_ x h1 h2
   obtain ⟨z, z1, z2, z3⟩ := q.to_ y y1 y2
   exact ⟨z, z1, z2, z3.trans y3⟩,
  fun x h1 h2 => by
   obtain ⟨y, y1, y2, y3⟩ := q.of_ x h1 h2
   obtain ⟨z, z1, z2, z3⟩ := p.of_ y y1 y2
   exact ⟨z, z1, z2, z3.trans y3⟩⟩
theorem Ex.mono {a b a' b' : Nat} {f g : Nat → Mk} (p : Ex a b f g) (h1 : a' ≤ a) (h2 : b ≤ b') : Ex a' b' f g :=
 ⟨fun x hx => p.out x (by omega),
  fun x k1 k2 => by
   by_cases hx : a ≤ x ∧ x < b
   · obtain ⟨y, y1, y2, y3⟩ := p.to_ x hx.1 hx.2
     exact ⟨y, by omega, by omega, y3⟩
   · exact ⟨x, k1, k2, p.out x hx⟩,
  fun x k1 k2 => by
   by_cases hx : a ≤ x ∧ x < b
   · obtain ⟨y, y1, y2, y3⟩ := p.of_ x hx.1 hx.2
     exact ⟨y, by omega, by omega, y3⟩
   · exact ⟨x, k1, k2, (p.out x hx).symm⟩⟩
theorem Ex_sw {a b i j : Nat} (f : Nat → Mk) (hi : a ≤ i ∧ i < b) (hj : a ≤ j ∧ j < b) : Ex a b f (swF f i j) :=
 ⟨fun x hx => by unfold swF; rw [if_neg (by omega), if_neg (by omega)],
  fun x h1 h2 => by
   by_cases e : x = i
   · refine ⟨j, hj.1, hj.2, ?_⟩
     unfold swF
     split
     · rename_i e2; rw [e, e2]
     · rw [if_pos rfl, e]
   · by_cases e2 : x = j
     · exact ⟨i, hi.1, hi.2, by unfold swF; rw [if_pos rfl, e2]⟩
     · exact ⟨x, h1, h2, by unfold swF; rw [if_neg e, if_neg e2]⟩,
  fun x h1 h2 => by
   unfold swF
   split
   · exact ⟨j, hj.1, hj.2, rfl⟩
   · split
     · exact ⟨i, hi.1, hi.2, rfl⟩
     · exact ⟨x, h1, h2, rfl⟩⟩
def Srt (f : Nat → Mk) (a b : Nat) : Prop := ∀ x y, a ≤ x → x < y → y < b → (f x).key ≤ (f y).key
theorem Srt.le {f : Nat → Mk} {a b x y : Nat} (h : Srt f a b) (h1 : a ≤ x) (h2 : x ≤ y) (h3 : y < b) : (f x).key ≤ (f y).key := by
 rcases Nat.lt_or_eq_of_le h2 with e | e
 · exact h x y h1 e h3
 · rw [e]; exact Int.le_refl _
theorem Srt.congr {f g : Nat → Mk} {a b : Nat} (h : Srt f a b) (hg : ∀ x, a ≤ x → x < b → g x = f x) : Srt g a b := fun x y h1 h2 h3 => by
 rw [hg x h1 (by omega), hg y (by omega) h3]; exact h x y h1 h2 h3
theorem Srt.sub {f : Nat → Mk} {a b a' b' : Nat} (h : Srt f a b) (h1 : a ≤ a') (h2 : b' ≤ b) : Srt f a' b' := fun x y k1 k2 k3 => h x y (by omega) k2 (by omega)
structure Ins (f : Nat → Mk) (a j i : Nat) : Prop where
 lo : Srt f a j
 hi : Srt f j (i + 1)
 x : ∀ x y, a ≤ x → x < j → j < y → y ≤ i → (f x).key ≤ (f y).key
theorem Ins.start {f : Nat → Mk} {a i : Nat} (h : Srt f a i) : Ins f a i i :=
 ⟨h, fun x y h1 h2 h3 => by omega, fun x y h1 h2 h3 h4 => by omega⟩
theorem Ins.step {f : Nat → Mk} {a j i : Nat} (h : Ins f a (j + 1) i) (hj : a ≤ j) (hji : j + 1 ≤ i) (hlt : (f (j + 1)).key < (f j).key) : Ins (swF f (j + 1) j) a j i := by
 have e1 : swF f (j + 1) j (j + 1) = f j := by unfold swF; rw [if_pos rfl]
 have e2 : swF f (j + 1) j j = f (j + 1) := by unfold swF; rw [if_neg (by omega), if_pos rfl]
 have e3 : ∀ x, x ≠ j → x ≠ j + 1 → swF f (j + 1) j x = f x := fun x h1 h2 => by unfold swF; rw [if_neg h2, if_neg h1]
 refine ⟨fun x y h1 h2 h3 => ?_, fun x y h1 h2 h3 => ?_, fun x y h1 h2 h3 h4 => ?_⟩
 · rw [e3 x (by omega) (by omega), e3 y (by omega) (by omega)]
   exact h.lo x y h1 h2 (by omega)
 · by_cases hx : x = j
   · subst hx
     rw [e2]
     by_cases hy : y = x + 1
     · subst hy; rw [e1]; omega
     · rw [e3 y (by omega) hy]
       exact h.hi (x + 1) y (by omega) (by omega) h3
   · by_cases hx2 : x = j + 1
     · subst hx2
       rw [e1, e3 y (by omega) (by omega)]
       exact h.x j y hj (by omega) (by omega) (by omega)
     · rw [e3 x hx hx2, e3 y (by omega) (by omega)]
       exact h.hi x y (by omega) h2 h3
 · rw [e3 x (by omega) (by omega)]
   by_cases hy : y = j + 1
   · subst hy; rw [e1]; exact h.lo x j h1 h2 (by omega)
   · rw [e3 y (by omega) hy]
     exact h.x x y h1 (by omega) (by omega) h4
theorem Ins.stop {f : Nat → Mk} {a j i : Nat} (h : Ins f a j i) (hji : j ≤ i) (hs : j ≤ a ∨ ∃ k, j = k + 1 ∧ ¬ (f j).key < (f k).key) : Srt f a (i + 1) := by
 intro x y h1 h2 h3
 by_cases hy : y < j
 · exact h.lo x y h1 h2 hy
 · by_cases hx : j ≤ x
   · exact h.hi x y hx h2 h3
   · by_cases hyj : y = j
     · subst hyj
       rcases hs with hs | ⟨k, rfl, hs⟩
       · omega
       · have := h.lo.le (x := x) (y := k) h1 (by omega) (by omega)
         omega
     · exact h.x x y h1 (by omega) (by omega) (by omega)
def cmpM (x y : Mk) : Int := if x.tm = y.tm then (if x.st = y.st then 0 else if x.st = true then -1 else 1) else if x.tm < y.tm then -1 else 1
theorem cmpM_lt (x y : Mk) : cmpM x y < 0 ↔ x.key < y.key := by
 obtain ⟨t1, s1, p1⟩ := x
 obtain ⟨t2, s2, p2⟩ := y
 unfold cmpM Mk.key
 dsimp only
 by_cases h : t1 = t2
 · subst h
   cases s1 <;> cases s2 <;> simp <;> omega
 · rw [if_neg h]
   by_cases h2 : t1 < t2
   · rw [if_pos h2]
     cases s1 <;> cases s2 <;> simp <;> omega
   · rw [if_neg h2]
     cases s1 <;> cases s2 <;> simp <;> omega
def cmpI (a b : Int) : Int := if a < b then -1 else if b < a then 1 else 0
theorem nan_int (a : Int) (w : World) : Calls Tryz.prog 190 #[.int .i64 a] w fun e w' => e = .returned (.bool false) ∧ w = w' := by
 have h : (a != a) = false := by simp
 go_enter Tryz.func190, Tryz.ntmps190
 go_wp2_with fail
 go_ret
 exact ⟨rfl, rfl⟩
theorem cmp_int (a b : Int) (w : World) : Calls Tryz.prog 115 #[.int .i64 a, .int .i64 b] w fun e w' => e = .returned (.int .i64 (cmpI a b)) ∧ w = w' := by
 have CN := Hd (fun a => nan_int a w)
 by_cases h : a < b
 · rw [show cmpI a b = -1 from if_pos h]
   go_enter Tryz.func115, Tryz.ntmps115
   go_wp2_with (go_at_call 190; refine (CN.out _).mono ?_; rintro e w1 ⟨rfl, rfl⟩)
   go_ret
   exact ⟨rfl, rfl⟩
 · rw [show cmpI a b = if b < a then 1 else 0 from if_neg h]
   have hd : decide (a < b) = false := by simpa using h
   by_cases h2 : b < a
   · rw [if_pos h2]
     go_enter Tryz.func115, Tryz.ntmps115
     go_wp2_with (go_at_call 190; refine (CN.out _).mono ?_; rintro e w1 ⟨rfl, rfl⟩)
     go_ret
     exact ⟨rfl, rfl⟩
   · rw [if_neg h2]
     have hd2 : decide (b < a) = false := by simpa using h2
     go_enter Tryz.func115, Tryz.ntmps115
     go_wp2_with (go_at_call 190; refine (CN.out _).mono ?_; rintro e w1 ⟨rfl, rfl⟩)
     go_ret
     exact ⟨rfl, rfl⟩
theorem hi_cmp (x y : Mk) (w : World) : Calls Tryz.prog 114 #[.agg #[.int .i64 x.tm, .bool x.st, .int .i64 x.pl], .agg #[.int .i64 y.tm, .bool y.st, .int .i64 y.pl]] w fun e w' => e = .returned (.int .i64 (cmpM x y)) ∧ Only [] w w' := by
 obtain ⟨t1, s1, p1⟩ := x
 obtain ⟨t2, s2, p2⟩ := y
 dsimp only
 have CC := Hd (fun a b w => cmp_int a b w)
 have HO : Hid (Only [] w ((w.alloc (.cells #[.int .i64 t1, .bool s1, .int .i64 p1] 169)).alloc (.cells #[.int .i64 t2, .bool s2, .int .i64 p2] 169))) := Hd ((oz.alloc _).alloc _)
 by_cases h : t1 = t2
 · subst h
   have hb : (t1 == t1) = true := by simp
   cases s1 <;> cases s2
   all_goals
    go_enter Tryz.func114, Tryz.ntmps114
    go_wp2_with (go_at_call 115; refine (CC.out _ _ _).mono ?_; rintro e w1 ⟨rfl, rfl⟩)
    go_ret
    exact ⟨by simp [cmpM, cmpI], HO.out⟩
 · have hb : (t1 == t2) = false := by simpa using h
   have HE : Hid (cmpI t1 t2 = cmpM ⟨t1, s1, p1⟩ ⟨t2, s2, p2⟩) := Hd (by
    unfold cmpM cmpI
    dsimp only
    rw [if_neg h]
    split
    · rfl
    · rw [if_pos (by omega)])
   go_enter Tryz.func114, Tryz.ntmps114
   go_wp2_with (go_at_call 115; refine (CC.out _ _ _).mono ?_; rintro e w1 ⟨rfl, rfl⟩)
   go_ret
   exact ⟨by rw [← HE.out]; rfl, HO.out⟩
structure MkR (w : World) (g n : Nat) (f : Nat → Mk) (sp : List Value) : Prop where
 c : Cells w g 169 (mkF f n ++ sp)
theorem MkR.cell {w : World} {g n : Nat} {f : Nat → Mk} {sp : List Value} (h : MkR w g n f sp) {i j : Nat} (hi : i < n) (hj : j < 3) {v : Value} (hv : (f i).cells[j]? = some v) : w.cell? ⟨g, i * 3 + j, none⟩ = some v := by
 refine h.c.cell ?_
 rw [List.getElem?_append_left (by rw [mkF_length]; omega), mkF_get f n i j hi hj, hv]
theorem MkR.at3 {w : World} {g n : Nat} {f : Nat → Mk} {sp : List Value} (h : MkR w g n f sp) {i : Nat} (hi : i < n) :
 w.cell? ⟨g, i * 3, none⟩ = some (.int .i64 (f i).tm) ∧ w.cell? ⟨g, i * 3 + 1, none⟩ = some (.bool (f i).st) ∧ w.cell? ⟨g, i * 3 + 2, none⟩ = some (.int .i64 (f i).pl) :=
 ⟨h.cell hi (j := 0) (by omega) rfl, h.cell hi (j := 1) (by omega) rfl, h.cell hi (j := 2) (by omega) rfl⟩
theorem MkR.only {w w' : World} {g n : Nat} {f : Nat → Mk} {sp : List Value} (h : MkR w g n f sp) (ho : Only [] w w') : MkR w' g n f sp := ⟨h.c.only ho (by simp)⟩
theorem MkR.frozen {w : World} {g n : Nat} {f : Nat → Mk} {sp : List Value} (h : MkR w g n f sp) (k : Nat) : w.frozen? ⟨g, k, none⟩ = false := h.c.frozen k
theorem mkF_put (f : Nat → Mk) (n i : Nat) (x : Mk) (hi : i < n) : putL (mkF f n) (i * 3) x.cells = mkF (fun y => if y = i then x else f y) n := by
 obtain ⟨tm, st, pl⟩ := x
 have hg : ((List.range n).map f)[i]? = some (f i) := by simp [hi]
 have hlen : i < ((List.range n).map f).length := by simpa using hi
 have s1 := flat_set Mk.cells 3 (fun _ => rfl) ((List.range n).map f) i 0 (f i) ⟨tm, (f i).st, (f i).pl⟩ (.int .i64 tm) hg (by omega) rfl
 have s2 := flat_set Mk.cells 3 (fun _ => rfl) (((List.range n).map f).set i ⟨tm, (f i).st, (f i).pl⟩) i 1 _ ⟨tm, st, (f i).pl⟩ (.bool st) (List.getElem?_set_self hlen) (by omega) rfl
 have s3 := flat_set Mk.cells 3 (fun _ => rfl) ((((List.range n).map f).set i ⟨tm, (f i).st, (f i).pl⟩).set i ⟨tm, st, (f i).pl⟩) i 2 _ ⟨tm, st, pl⟩ (.int .i64 pl) (List.getElem?_set_self (by rw [List.length_set]; exact hlen)) (by omega) rfl
 show ((((((List.range n).map f).flatMap Mk.cells).set (i * 3) _).set (i * 3 + 1) _).set (i * 3 + 1 + 1) _) = _
 rw [Nat.add_zero] at s1
 rw [s1, s2, show i * 3 + 1 + 1 = i * 3 + 2 from rfl, s3, List.set_set, List.set_set]
 unfold mkF
 congr 1
 apply List.ext_getElem?
 intro y
 rw [List.getElem?_set]
 by_cases h : i = y
 · subst h
   rw [if_pos rfl, if_pos hlen]
   simp [hi]
 · rw [if_neg h]
   rw [List.getElem?_map, List.getElem?_map]
   by_cases hy : y < n
   · rw [List.getElem?_range hy]
     simp only [Option.map_some]
     rw [if_neg (fun e => h e.symm)]
   · rw [List.getElem?_eq_none (by simpa using hy)]
     rfl
theorem putL_app (l : List Value) (cs sp : List Value) (o : Nat) (h : o + l.length ≤ cs.length) : putL (cs ++ sp) o l = putL cs o l ++ sp := by
 rw [putL_eq _ _ _ (by rw [List.length_append]; omega), putL_eq _ _ _ h, List.take_append_of_le_length (by omega), List.drop_append_of_le_length h]
 simp
theorem MkR.swap {w : World} {g n : Nat} {f : Nat → Mk} {sp : List Value} (h : MkR w g n f sp) (i j : Nat) (hi : i < n) (hj : j < n) : MkR ((w.setCells g (i * 3) (f j).cells).setCells g (j * 3) (f i).cells) g n (swF f i j) sp := by
 constructor
 have h1 := (h.c.setMany (i * 3) (f j).cells).setMany (j * 3) (f i).cells
 have hl := mkF_length f n
 rw [putL_app _ _ _ _ (by rw [hl]; show i * 3 + 3 ≤ n * 3; omega), mkF_put f n i _ hi, putL_app _ _ _ _ (by rw [mkF_length]; show j * 3 + 3 ≤ n * 3; omega), mkF_put _ n j _ hj] at h1
 have e : (fun y => if y = j then f i else if y = i then f j else f y) = swF f i j := by
  funext y
  unfold swF
  by_cases e1 : y = i
  · subst e1
    by_cases e2 : y = j
    · subst e2; simp
    · simp [e2]
  · rw [if_neg e1, if_neg e1]
 rw [e] at h1
 exact h1
theorem hi_ins (g cap n a b : Nat) (hab : a ≤ b) (hb : b ≤ n) (hn : n ≤ 1000) (f : Nat → Mk) (sp : List Value) (w : World) (h : MkR w g n f sp) :
 Calls Tryz.prog 230 #[.slice (some ⟨g, 0, none⟩) n cap, .int .i64 a, .int .i64 b, .func (.func 114) #[] #[]] w fun e w' =>
  e = .returned (.tuple #[]) ∧ Only [g] w w' ∧ ∃ f', Ex a b f f' ∧ Srt f' a b ∧ MkR w' g n f' sp := by
 have CC := Hd (fun x y w => hi_cmp x y w)
 have H := Hd h
 clear h
 go_enter Tryz.func230, Tryz.ntmps230
 go_wp2_with fail
 go_loopw [8] (fun i wr => ∃ (k : Nat) (f1 : Nat → Mk), i = .int .i64 k ∧ a < k ∧ (k ≤ b ∨ k = a + 1) ∧ Hid (Only [g] w wr) ∧ Hid (Ex a b f f1) ∧ Hid (Srt f1 a k) ∧ Hid (MkR wr g n f1 sp)) (fun i _ => b + 1 - (intOf i).toNat)
 case atStart => exact ⟨a + 1, f, by go_num, by omega, by omega, Hd oz, Hd (Ex.refl _ _ _), Hd (fun x y h1 h2 h3 => by omega), H⟩
 case round =>
  obtain ⟨k, f1, rfl, hk1, hk2, hO, hX, hS, hR⟩ := hrel
  by_cases hlt : k < b
  · have hlt' : (k : Int) < (b : Int) := by omega
    have HI := Hd (Ins.start hS.out)
    go_wp2_with fail
    go_loopw [9] (fun i wr => ∃ (j : Nat) (f2 : Nat → Mk), i = .int .i64 j ∧ a ≤ j ∧ j ≤ k ∧ Hid (Only [g] w wr) ∧ Hid (Ex a b f f2) ∧ Hid (Ins f2 a j k) ∧ Hid (MkR wr g n f2 sp)) (fun i _ => (intOf i).toNat)
    case atStart => exact ⟨k, f1, rfl, by omega, by omega, hO, hX, HI, hR⟩
    case round =>
     obtain ⟨j, f2, rfl, hj1, hj2, hO, hX, hI, hR⟩ := hrel
     obtain ⟨wq, rfl⟩ : ∃ wq, wq = wr := ⟨_, rfl⟩
     by_cases hja : a < j
     · have hja' : (a : Int) < (j : Int) := by omega
       obtain ⟨jp, rfl⟩ : ∃ jp, j = jp + 1 := ⟨j - 1, by omega⟩
       have hja2 : decide ((a : Int) < (jp : Int) + 1) = true := by simp; omega
       have hwp : IntKind.i64.wrap ((jp : Int) + 1 - 1) = (jp : Int) := by rw [IntKind.wrap_i64]; omega
       have jz : ((jp : Int) + 1) < (n : Int) := by omega
       have jz1 : (jp : Int) < (n : Int) := by omega
       obtain ⟨a0, a1, a2⟩ := hR.out.at3 (i := jp) (by omega)
       obtain ⟨c0, c1, c2⟩ := hR.out.at3 (i := jp + 1) (by omega)
       have u0 := fun u : Since wq => u.cell a0
       have u1 := fun u : Since wq => u.cell a1
       have u2 := fun u : Since wq => u.cell a2
       have v0 := fun u : Since wq => u.cell c0
       have v1 := fun u : Since wq => u.cell c1
       have v2 := fun u : Since wq => u.cell c2
       have e0 : ((jp : Int) + 1).toNat = jp + 1 := by omega
       clear a0 a1 a2 c0 c1 c2
       have HST := Hd (fun (hlv : (f2 (jp + 1)).key < (f2 jp).key) => Ins.step hI.out (by omega) hj2 hlv)
       have HSP := Hd (fun (hlv : ¬ (f2 (jp + 1)).key < (f2 jp).key) => Ins.stop hI.out hj2 (.inr ⟨jp, rfl, hlv⟩))
       have HKY := Hd (cmpM_lt (f2 (jp + 1)) (f2 jp))
       by_cases hlv : cmpM (f2 (jp + 1)) (f2 jp) < 0
       · have hlv' : decide (cmpM (f2 (jp + 1)) (f2 jp) < 0) = true := by simpa using hlv
         have HI2 := Hd (HST.out (HKY.out.1 hlv))
         clear HST HSP HKY hI
         go_wp2_with fail
         refine wp_region_only wq oz (by kernel_rfl) (by kernel_rfl) ?_
         repeat (go_big_quiet_step ((go_at_call 114; refine Calls.only (CC.out _ _ _))))
         refine wpQuiet_nil ?_
         rintro ⟨w3, ho3⟩
         dsimp only
         have HR3 := Hd (hR.out.only ho3)
         have HO3 := Hd (hO.out.tr0 ho3)
         obtain ⟨a0, a1, a2⟩ := HR3.out.at3 (i := jp) (by omega)
         obtain ⟨c0, c1, c2⟩ := HR3.out.at3 (i := jp + 1) (by omega)
         have fz := fun k => HR3.out.frozen k
         clear u0 u1 u2 v0 v1 v2 hR hO ho3
         go_wp2_with fail
         go_region
         all_goals
          clear a0 a1 a2 c0 c1 c2 fz
          go_wp2_with fail
          go_roundw
          case rel => exact ⟨jp, swF f2 (jp + 1) jp, by go_num, by omega, by omega, Hd (((HO3.out.setCells (b := g) (.inl (by simp)) ((jp + 1) * 3) (f2 jp).cells).setCells (b := g) (.inl (by simp)) (jp * 3) (f2 (jp + 1)).cells).drew), Hd (hX.out.trans (Ex_sw _ (by omega) (by omega))), HI2, Hd ⟨(HR3.out.swap (jp + 1) jp (by omega) (by omega)).c.drew⟩⟩
          case measure => (try simp [intOf]) <;> omega
       · have hlv' : decide (cmpM (f2 (jp + 1)) (f2 jp) < 0) = false := by simpa using hlv
         have HS2 := Hd (HSP.out (fun e => hlv (HKY.out.2 e)))
         clear HST HSP HKY hI
         go_wp2_with fail
         refine wp_region_only wq oz (by kernel_rfl) (by kernel_rfl) ?_
         repeat (go_big_quiet_step ((go_at_call 114; refine Calls.only (CC.out _ _ _))))
         refine wpQuiet_nil ?_
         rintro ⟨w3, ho3⟩
         dsimp only
         have HR3 := Hd (hR.out.only ho3)
         have HO3 := Hd (hO.out.tr0 ho3)
         clear u0 u1 u2 v0 v1 v2 hR hO ho3
         go_wp2_with fail
         go_roundw
         case rel => exact ⟨k + 1, f2, by go_num, by omega, by omega, HO3, hX, HS2, HR3⟩
         case measure => simp [intOf]; omega
     · have hja2 : decide ((a : Int) < (j : Int)) = false := by simp; omega
       have HS2 := Hd (Ins.stop hI.out hj2 (.inl (by omega)))
       clear hI
       go_wp2_with fail
       refine wp_region_only wq oz (by kernel_rfl) (by kernel_rfl) ?_
       repeat (go_big_quiet_step (fail))
       refine wpQuiet_nil ?_
       rintro ⟨w3, ho3⟩
       dsimp only
       have HR3 := Hd (hR.out.only ho3)
       have HO3 := Hd (hO.out.tr0 ho3)
       clear hR hO ho3
       go_wp2_with fail
       go_roundw
       case rel => exact ⟨k + 1, f2, by go_num, by omega, by omega, HO3, hX, HS2, HR3⟩
       case measure => simp [intOf]; omega
  · have hlt' : decide ((k : Int) < (b : Int)) = false := by simp; omega
    go_wp2_with fail
    go_end0
    exact ⟨rfl, hO.out, f1, hX.out, hS.out.sub (Nat.le_refl _) (by omega), hR.out⟩
def SortOk (n : Nat) : Prop := ∀ (g cap : Nat) (f : Nat → Mk) (sp : List Value) (w : World), MkR w g n f sp →
 Calls Tryz.prog 113 #[.slice (some ⟨g, 0, none⟩) n cap, .func (.func 114) #[] #[]] w fun e w' =>
  e = .returned (.tuple #[]) ∧ Only [g] w w' ∧ ∃ f', Ex 0 n f f' ∧ Srt f' 0 n ∧ MkR w' g n f' sp
theorem hi_stable_few (g cap n : Nat) (hn : n ≤ 19) (f : Nat → Mk) (sp : List Value) (w : World) (h : MkR w g n f sp) :
 Calls Tryz.prog 189 #[.slice (some ⟨g, 0, none⟩) n cap, .int .i64 n, .func (.func 114) #[] #[]] w fun e w' =>
  e = .returned (.tuple #[]) ∧ Only [g] w w' ∧ ∃ f', Ex 0 n f f' ∧ Srt f' 0 n ∧ MkR w' g n f' sp := by
 have CI := Hd (hi_ins g cap n 0 n (by omega) (Nat.le_refl _) (by omega) f sp w h)
 have d1 : decide ((20 : Int) ≤ (n : Int)) = false := by simp; omega
 have d2 : decide ((20 : Int) < (n : Int)) = false := by simp; omega
 clear h
 go_enter Tryz.func189, Tryz.ntmps189
 go_wp2_with fail
 go_loopw [7, 8] (fun x y wr => x = .int .i64 0 ∧ y = .int .i64 20 ∧ wr = w) (fun _ _ _ => 0)
 case atStart => exact ⟨rfl, rfl, rfl⟩
 case round =>
  obtain ⟨rfl, rfl, rfl⟩ := hrel
  go_wp2_with fail
  refine CI.out.mono ?_
  rintro e w2 ⟨rfl, ho, f', hx, hs, hr⟩
  have HF : Hid (Only [g] wr w2 ∧ ∃ f', Ex 0 n f f' ∧ Srt f' 0 n ∧ MkR w2 g n f' sp) := Hd ⟨ho, f', hx, hs, hr⟩
  clear ho hx hs hr CI
  go_wp2_with fail
  go_loopw [6, 7, 8, 9] (fun u x y z wr => u = .int .i64 20 ∧ wr = w2) (fun _ _ _ _ _ => 0)
  case atStart => exact ⟨rfl, rfl⟩
  case round =>
   obtain ⟨rfl, rfl⟩ := hrel
   go_wp2_with fail
   go_end0
   exact ⟨rfl, HF.out⟩
theorem hi_sort_few (n : Nat) (hn : n ≤ 19) : SortOk n := fun g cap f sp w h => by
 have C := Hd (hi_stable_few g cap n hn f sp w h)
 clear h
 go_enter Tryz.func113, Tryz.ntmps113
 go_wp2_with fail
 refine C.out.mono ?_
 rintro e w2 ⟨rfl, hh⟩
 have HF := Hd hh
 clear hh
 go_wp2_with fail
 go_end0
 exact ⟨rfl, HF.out⟩
theorem ins_nil (w : World) :
 Calls Tryz.prog 230 #[.slice none 0 0, .int .i64 0, .int .i64 0, .func (.func 114) #[] #[]] w fun e w' => e = .returned (.tuple #[]) ∧ w = w' := by
 go_enter Tryz.func230, Tryz.ntmps230
 go_wp2_with fail
 go_loopw [8] (fun i wr => i = .int .i64 1 ∧ wr = w) (fun _ _ => 0)
 case atStart => exact ⟨rfl, rfl⟩
 case round =>
  obtain ⟨rfl, rfl⟩ := hrel
  go_wp2_with fail
  go_end0
  exact ⟨rfl, rfl⟩
theorem stable_nil (w : World) :
 Calls Tryz.prog 189 #[.slice none 0 0, .int .i64 0, .func (.func 114) #[] #[]] w fun e w' => e = .returned (.tuple #[]) ∧ w = w' := by
 have CI := Hd (ins_nil w)
 go_enter Tryz.func189, Tryz.ntmps189
 go_wp2_with fail
 go_loopw [7, 8] (fun x y wr => x = .int .i64 0 ∧ y = .int .i64 20 ∧ wr = w) (fun _ _ _ => 0)
 case atStart => exact ⟨rfl, rfl, rfl⟩
 case round =>
  obtain ⟨rfl, rfl, rfl⟩ := hrel
  go_wp2_with fail
  refine CI.out.mono ?_
  rintro e w2 ⟨rfl, rfl⟩
  go_wp2_with fail
  go_loopw [6, 7, 8, 9] (fun u x y z wr2 => u = .int .i64 20 ∧ wr2 = wr) (fun _ _ _ _ _ => 0)
  case atStart => exact ⟨rfl, rfl⟩
  case round =>
   obtain ⟨rfl, rfl⟩ := hrel
   go_wp2_with fail
   go_end0
   exact ⟨rfl, rfl⟩
theorem sort_nil (w : World) :
 Calls Tryz.prog 113 #[.slice none 0 0, .func (.func 114) #[] #[]] w fun e w' => e = .returned (.tuple #[]) ∧ w = w' := by
 have CI := Hd (stable_nil w)
 go_enter Tryz.func113, Tryz.ntmps113
 go_wp2_with fail
 refine CI.out.mono ?_
 rintro e w2 ⟨rfl, rfl⟩
 go_wp2_with fail
 go_end0
 exact ⟨rfl, rfl⟩
end Go.Proofs.YtcjfmildalappaaGreat
