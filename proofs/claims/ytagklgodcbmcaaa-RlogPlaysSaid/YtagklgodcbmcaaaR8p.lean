/-
  Chapter 8: a log that was made since W; its contracts.
-/
import Derived.Test.YtagklgodcbmcaaaR8o
namespace Go.Proofs.Ytagklgodcbmcaaa
open Go.RowKit
structure LogAt (W w : World) (K : List Nat) (b : Nat) (g : LG) : Prop where
  k : LogK w K b g
  ge : ∀ q, q ∈ K → W.heap.size ≤ q
  only : Only [] W w
  data : DOk g.l
theorem DOk.take {g : LG} {l : List En} (h : DOk g.l) (hl : DOk l) : DOk (takeL g l).l := by
  induction l generalizing g with
  | nil => exact h
  | cons e r ih =>
    have hr : DOk r := fun x hx => hl x (List.mem_cons_of_mem _ hx)
    unfold takeL
    split
    · exact h
    · split
      · exact ih (fun x hx => (List.mem_append.1 hx).elim (h x) fun hx => by simp at hx; subst hx; exact hl _ (by simp)) hr
      · exact ih h hr
variable {W w w' : World} {K : List Nat} {b : Nat} {g : LG}
theorem LogAt.to (h : LogAt W w K b g) (ho : Only [] w w') : LogAt W w' K b g := ⟨h.k.only ho, h.ge, h.only.tr ho, h.data⟩
theorem LogAt.keep {S : List Nat} (h : LogAt W w K b g) (ho : Only S w w') (hS : ∀ x, x ∈ S → x ∉ K) (hw : Only [] W w') : LogAt W w' K b g := ⟨h.k.keep ho hS, h.ge, hw, h.data⟩
theorem LogAt.does {g' : LG} (h : LogAt W w K b g) (hd : Does w w' K b g') (hl : DOk g'.l) : ∃ K', Hid (LogAt W w' K' b g') ∧ Hid (Grew w w' K K') := by
  obtain ⟨K', hk, hg⟩ := hd
  exact ⟨K', Lib.hid ⟨hk, fun q hq => (hg.blocks q hq).elim (h.ge q) fun h2 => Nat.le_trans h.only.size h2, h.only.trans hg.only (fun q hq => .inr (h.ge q hq)), hl⟩, Lib.hid hg⟩
theorem la_new (W w : World) (ho : Only [] W w) (x : Bas) (vv lv : Value) (l : List En) (hs : SlAt w w.heap.size vv 1 x.vs.length (gvs x.vs)) (hl : w.ownsRow 0 40 4 lv l.length (enL l)) (h0 : 0 ≤ x.ix) (h1 : x.ix + l.length ≤ 1000000) (h2 : x.vs.length ≤ 1000) (hd : DOk l) (g : LG) (hg : takeL ⟨x, []⟩ l = g) :
    Calls Try.prog 18 #[x.val vv, lv] w fun e w' => ∃ b K, e = .returned (.pointer (some ⟨b, 0, none⟩)) ∧ Hid (LogAt W w' K b g) ∧ Hid (Only [] w w') ∧ Hid (∀ q, q ∈ K → w.heap.size ≤ q) := by
  refine (log_new x vv lv l w hs hl h0 h1 h2).mono ?_
  rintro e w' ⟨b, K, rfl, hk, ho', hK⟩
  rw [hg] at hk
  exact ⟨b, K, rfl, Lib.hid ⟨hk, fun q hq => Nat.le_trans ho.size (hK q hq), ho.tr ho', hg ▸ DOk.take (by intro x hx; cases hx) hd⟩, Lib.hid ho', Lib.hid hK⟩
theorem la_last (h : Hid (LogAt W w K b g)) : Calls Try.prog 21 #[.pointer (some ⟨b, 0, none⟩)] w fun e w' => e = .returned (.int .i64 g.last) ∧ Hid (LogAt W w' K b g) ∧ Hid (Only [] w w') :=
  (logk_last b K g w h.out.k).mono fun _ _ ⟨he, ho⟩ => ⟨he, Lib.hid (h.out.to ho), Lib.hid ho⟩
theorem la_term (h : Hid (LogAt W w K b g)) (i : Int) (t : Int) (ok : Bool) (ht : g.term i = (t, ok)) : Calls Try.prog 27 #[.pointer (some ⟨b, 0, none⟩), .int .i64 i] w fun e w' => e = .returned (.tuple #[.int .i64 t, .bool ok]) ∧ Hid (LogAt W w' K b g) ∧ Hid (Only [] w w') :=
  (logk_term b K g i w h.out.k).mono fun _ _ ⟨he, ho⟩ => ⟨by rw [he, ht]; rfl, Lib.hid (h.out.to ho), Lib.hid ho⟩
theorem la_newer (h : Hid (LogAt W w K b g)) (i t : Int) (r : Bool) (hr : g.newer i t = r) : Calls Try.prog 32 #[.pointer (some ⟨b, 0, none⟩), .int .i64 i, .int .i64 t] w fun e w' => e = .returned (.bool r) ∧ Hid (LogAt W w' K b g) ∧ Hid (Only [] w w') :=
  (logk_newer b K g i t w h.out.k).mono fun _ _ ⟨he, ho⟩ => ⟨by rw [he, hr], Lib.hid (h.out.to ho), Lib.hid ho⟩
theorem la_slice (h : Hid (LogAt W w K b g)) (fr most : Int) (l : List En) (hl : g.slice fr most = l) :
    Calls Try.prog 20 #[.pointer (some ⟨b, 0, none⟩), .int .i64 fr, .int .i64 most] w fun e w' => ∃ A c, e = .returned (.slice A l.length c) ∧ Hid (w'.ownsRow w.heap.size 40 4 (.slice A l.length c) l.length (enL l)) ∧ Hid (LogAt W w' K b g) ∧ Hid (Only [] w w') := by
  refine (logk_slice b K g fr most w h.out.k).mono ?_
  rintro e w' ⟨v', rfl, hr, ho⟩
  rw [hl] at hr
  obtain ⟨A, c, rfl⟩ := (SlAt.of_own hr).shape
  exact ⟨A, c, rfl, Lib.hid hr, Lib.hid (h.out.to ho), Lib.hid ho⟩
theorem la_voters (h : Hid (LogAt W w K b g)) (i : Int) (l : List Int) (hl : g.voters i = l) :
    Calls Try.prog 29 #[.pointer (some ⟨b, 0, none⟩), .int .i64 i] w fun e w' => ∃ A c, e = .returned (.slice A l.length c) ∧ Hid (w'.ownsRow w.heap.size 3 1 (.slice A l.length c) l.length (gvs l)) ∧ Hid (LogAt W w' K b g) ∧ Hid (Only [] w w') := by
  obtain ⟨vv, ev, hv, _, _⟩ := h.out.k
  refine (log_voters b vv ev g i w hv h.out.data).mono ?_
  rintro e w' ⟨v', rfl, hr, ho⟩
  rw [hl] at hr
  obtain ⟨A, c, rfl⟩ := (SlAt.of_own hr).shape
  exact ⟨A, c, rfl, Lib.hid hr, Lib.hid (h.out.to ho), Lib.hid ho⟩
theorem la_base (h : Hid (LogAt W w K b g)) (x : Bas) (hx : g.b = x) :
    Calls Try.prog 26 #[.pointer (some ⟨b, 0, none⟩)] w fun e w' => ∃ A c, e = .returned (.agg #[.int .i64 x.ix, .int .i64 x.tm, .slice A x.vs.length c, .string x.d]) ∧ Hid (w'.ownsRow w.heap.size 3 1 (.slice A x.vs.length c) x.vs.length (gvs x.vs)) ∧ Hid (LogAt W w' K b g) ∧ Hid (Only [] w w') := by
  refine (logk_base b K g w h.out.k).mono ?_
  rintro e w' ⟨v', rfl, hr, ho⟩
  rw [hx] at hr ⊢
  obtain ⟨A, c, rfl⟩ := (SlAt.of_own hr).shape
  exact ⟨A, c, rfl, Lib.hid hr, Lib.hid (h.out.to ho), Lib.hid ho⟩
theorem DOk.snoc {l : List En} {x : En} (h : DOk l) (hx : x.d.size ≤ 1000000000000) : DOk (l ++ [x]) := fun y hy => (List.mem_append.1 hy).elim (h y) fun hy => by simp at hy; subst hy; exact hx
theorem la_add (h : Hid (LogAt W w K b g)) (t k : Int) (d : ByteArray) (hr : g.last < 1000000) (hd : d.size ≤ 1000000000000) (g' : LG) (hg : (⟨g.b, g.l ++ [g.new t k d]⟩ : LG) = g') :
    Calls Try.prog 31 #[.pointer (some ⟨b, 0, none⟩), .int .i64 t, .int .i64 k, .string d] w fun e w' => e = .returned (.agg #[.int .i64 (g.last + 1), .int .i64 t, .int .i64 k, .string d]) ∧ ∃ K', Hid (LogAt W w' K' b g') ∧ Hid (Grew w w' K K') := by
  refine (log_add b K g t k d w h.out.k hr).mono ?_
  rintro e w' ⟨rfl, hD⟩
  subst hg
  exact ⟨rfl, h.out.does hD (DOk.snoc h.out.data hd)⟩
theorem DOk.addAll {g : LG} {l : List En} (h : DOk g.l) (hl : DOk l) : DOk (g.addAll l).l := by
  induction l generalizing g with
  | nil => exact h
  | cons e r ih =>
    unfold LG.addAll
    rw [List.foldl_cons]
    exact ih (g := ⟨g.b, g.l ++ [g.new e.tm e.kd e.d]⟩) (DOk.snoc h (hl e (by simp))) fun x hx => hl x (List.mem_cons_of_mem _ hx)
theorem DOk.matchGo {g : LG} {l : List En} (h : DOk g.l) (hl : DOk l) (index fixed : Int) (k : Nat) : DOk (g.matchGo index fixed k l).1.l := by
  induction l generalizing k with
  | nil => exact h
  | cons e r ih =>
    unfold LG.matchGo
    split
    · exact ih (fun x hx => hl x (List.mem_cons_of_mem _ hx)) _
    · exact DOk.addAll (fun x hx => h x (List.mem_of_mem_take hx)) hl
theorem DOk.matchR {g : LG} {l : List En} (h : DOk g.l) (hl : DOk l) (index term fixed : Int) : DOk (g.matchR index term fixed l).g.l := by
  unfold LG.matchR
  split
  · exact h
  · split
    · exact h
    · exact DOk.matchGo h hl _ _ _
theorem la_match (h : Hid (LogAt W w K b g)) (index term fixed : Int) (lv : Value) (l : List En) (hl : EnR w K lv l) (hx0 : -9223372036854775808 ≤ index) (hf0 : g.b.ix ≤ fixed) (hf1 : fixed ≤ g.last) (hr : g.last + l.length ≤ 1000000) (hd : DOk l) (r : MR) (hR : g.matchR index term fixed l = r) :
    Calls Try.prog 23 #[.pointer (some ⟨b, 0, none⟩), .int .i64 index, .int .i64 term, .int .i64 fixed, lv] w fun e w' => e = .returned (.tuple #[.int .i64 r.x, .int .i64 r.y, .bool r.ok]) ∧ ∃ K', Hid (LogAt W w' K' b r.g) ∧ Hid (Grew w w' K K') := by
  refine (logk_match b K g index term fixed lv l w h.out.k hl hx0 hf0 hf1 hr).mono ?_
  rintro e w' ⟨rfl, hD⟩
  subst hR
  exact ⟨rfl, h.out.does hD (DOk.matchR h.out.data hd _ _ _)⟩
theorem la_compact (h : Hid (LogAt W w K b g)) (i : Int) (d : ByteArray) (g' : LG) (ok : Bool) (hg : g.compact i d = (g', ok)) :
    Calls Try.prog 25 #[.pointer (some ⟨b, 0, none⟩), .int .i64 i, .string d] w fun e w' => e = .returned (.int .i64 (cErr ok)) ∧ ∃ K', Hid (LogAt W w' K' b g') ∧ Hid (Grew w w' K K') := by
  refine (logk_compact b K g i d w h.out.k h.out.data).mono ?_
  rintro e w' ⟨rfl, hD⟩
  have hdl : DOk (g.compact i d).1.l := by
    unfold LG.compact
    split
    · exact h.out.data
    · exact fun x hx => h.out.data x (List.mem_of_mem_drop hx)
  rw [hg] at hD hdl ⊢
  exact ⟨rfl, h.out.does hD hdl⟩
theorem la_restore (h : Hid (LogAt W w K b g)) (x : Bas) (xv : Value) (hx : w.ownsRow 0 3 1 xv x.vs.length (gvs x.vs)) (hoff : ∀ q, xv.ownBlock = some q → q ∉ K) (h0 : 0 ≤ x.ix) (hi6 : x.ix ≤ 1000000) (hvx : x.vs.length ≤ 1000) (g' : LG) (ok : Bool) (hg : g.restore x = (g', ok)) :
    Calls Try.prog 39 #[.pointer (some ⟨b, 0, none⟩), x.val xv] w fun e w' => e = .returned (.bool ok) ∧ ∃ K', Hid (LogAt W w' K' b g') ∧ Hid (Grew w w' K K') := by
  refine (logk_restore b K g x xv w h.out.k hx hoff h0 hi6 hvx).mono ?_
  rintro e w' ⟨rfl, hD⟩
  have hdl : DOk (g.restore x).1.l := by
    unfold LG.restore
    split
    · exact fun x hx => h.out.data x (List.mem_of_mem_drop hx)
    · intro x hx; cases hx
  rw [hg] at hD hdl ⊢
  exact ⟨rfl, h.out.does hD hdl⟩
end Go.Proofs.Ytagklgodcbmcaaa
