/-
  Chapter 8: the log's shape; the library's Clone at []int and []api.Entry; Last, place, Term, own, Base.
-/
import Derived.Test.YtagklgodcbmcaaaGen
namespace Go.Proofs.Ytagklgodcbmcaaa
open Go.RowKit
structure En where
  ix : Int
  tm : Int
  kd : Int
  d : ByteArray
deriving DecidableEq
def En.cells (x : En) : List Value := [.int .i64 x.ix, .int .i64 x.tm, .int .i64 x.kd, .string x.d]
def En.val (x : En) : Value := .agg #[.int .i64 x.ix, .int .i64 x.tm, .int .i64 x.kd, .string x.d]
theorem En.cells_length (x : En) : x.cells.length = 4 := rfl
def enL (l : List En) : List Value := l.flatMap En.cells
theorem enL_length (l : List En) : (enL l).length = l.length * 4 := flat_length En.cells 4 En.cells_length l
theorem enL_one (l : List En) : ∀ u ∈ enL l, u.oneCell' = true := by
  intro u hu
  obtain ⟨x, _, hx⟩ := List.mem_flatMap.1 hu
  simp only [En.cells, List.mem_cons, List.mem_nil_iff, or_false] at hx
  rcases hx with rfl | rfl | rfl | rfl <;> rfl
theorem enL_append (a b : List En) : enL (a ++ b) = enL a ++ enL b := by simp [enL]
theorem enL_get {l : List En} {k : Nat} {x : En} (h : l[k]? = some x) (j : Nat) (hj : j < 4) : (enL l)[k * 4 + j]? = x.cells[j]? := flat_get En.cells 4 En.cells_length l k j x h hj
theorem enL_drop (l : List En) (j : Nat) : (enL l).drop (j * 4) = enL (l.drop j) := by
  induction l generalizing j with
  | nil => simp [enL]
  | cons x r ih =>
    cases j with
    | zero => simp
    | succ j => rw [Nat.succ_mul]; show (En.cells x ++ enL r).drop _ = _; rw [show j * 4 + 4 = (En.cells x).length + j * 4 from by rw [En.cells_length]; omega, List.drop_append]; simp [ih, En.cells_length]
theorem enL_take (l : List En) (j : Nat) : (enL l).take (j * 4) = enL (l.take j) := by
  induction l generalizing j with
  | nil => simp [enL]
  | cons x r ih =>
    cases j with
    | zero => simp [enL]
    | succ j => rw [Nat.succ_mul]; show (En.cells x ++ enL r).take _ = En.cells x ++ enL (r.take j); rw [show j * 4 + 4 = (En.cells x).length + j * 4 from by rw [En.cells_length]; omega, List.take_length_add_append, ih]
theorem info_ent : (Try.prog.info? 40).map (fun i => (i.zero, i.size, i.bytes)) = some (some (.agg #[.int .i64 0, .int .i64 0, .int .i64 0, .string ⟨#[]⟩]), 4, 40) := by kernel_rfl
structure Bas where
  ix : Int
  tm : Int
  vs : List Int
  d : ByteArray
structure LG where
  b : Bas
  l : List En
structure LogV (w : World) (b : Nat) (vv ev : Value) (g : LG) : Prop where
  cells : Cells w b 86 [.int .i64 g.b.ix, .int .i64 g.b.tm, vv, .string g.b.d, ev]
  ents : w.ownsRow 0 40 4 ev g.l.length (enL g.l)
  vots : w.ownsRow 0 3 1 vv g.b.vs.length (gvs g.b.vs)
  lo : 0 ≤ g.b.ix
  hi : g.b.ix + g.l.length ≤ 1000000
  vlen : g.b.vs.length ≤ 1000
def lk (b : Nat) (vv ev : Value) : List Nat := b :: (rb ev ++ rb vv)
theorem mem_rb {v : Value} {x : Nat} : x ∈ rb v ↔ v.ownBlock = some x := by simp [rb]
theorem LogV.keep {S : List Nat} {w w' : World} {b : Nat} {vv ev : Value} {g : LG} (h : LogV w b vv ev g) (ho : Only S w w') (hS : ∀ x, x ∈ S → x ∉ lk b vv ev) : LogV w' b vv ev g :=
  ⟨h.cells.only ho (fun hm => hS _ hm (by simp [lk])), own_keep h.ents ho (fun x hx he => hS _ hx (by simp [lk, mem_rb, he])), own_keep h.vots ho (fun x hx he => hS _ hx (by simp [lk, mem_rb, he])), h.lo, h.hi, h.vlen⟩
theorem LogV.only {w w' : World} {b : Nat} {vv ev : Value} {g : LG} (h : LogV w b vv ev g) (ho : Only [] w w') : LogV w' b vv ev g := h.keep ho (by simp)
theorem LogV.shape {w : World} {b : Nat} {vv ev : Value} {g : LG} (h : LogV w b vv ev g) : ∃ A c, ev = .slice A g.l.length c := (SlAt.of_own h.ents).shape
theorem LogV.vshape {w : World} {b : Nat} {vv ev : Value} {g : LG} (h : LogV w b vv ev g) : ∃ A c, vv = .slice A g.b.vs.length c := (SlAt.of_own h.vots).shape
/-- All blocks of a log are there. -/
theorem LogV.lt {w : World} {b : Nat} {vv ev : Value} {g : LG} (h : LogV w b vv ev g) : ∀ x, x ∈ lk b vv ev → x < w.heap.size := by
  intro x hx
  simp only [lk, List.mem_cons, List.mem_append, mem_rb] at hx
  rcases hx with rfl | hx | hx
  · exact h.cells.lt
  · exact (h.ents.lt x hx).2
  · exact (h.vots.lt x hx).2
theorem nil_int0 (c : Nat) (w : World) : (binOp .eql 25 (.slice none 0 c) (.slice none 0 0)).run Try.prog w = .ok (.bool true) w := by kernel_rfl
theorem nil_int1 (A : Addr) (n c : Nat) (w : World) : (binOp .eql 25 (.slice (some A) n c) (.slice none 0 0)).run Try.prog w = .ok (.bool false) w := by kernel_rfl
theorem nil_ent0 (c : Nat) (w : World) : (binOp .eql 31 (.slice none 0 c) (.slice none 0 0)).run Try.prog w = .ok (.bool true) w := by kernel_rfl
theorem nil_ent1 (A : Addr) (n c : Nat) (w : World) : (binOp .eql 31 (.slice (some A) n c) (.slice none 0 0)).run Try.prog w = .ok (.bool false) w := by kernel_rfl
attribute [local go_sem] nil_int0 nil_int1 nil_ent0 nil_ent1
set_option maxRecDepth 100000 in
theorem clone_int (v : Value) (l : List Int) (B : Nat) (w : World) (hB : B ≤ w.heap.size) (hl : l.length ≤ 1000000000) (hs : SlAt w B v 1 l.length (gvs l)) :
    Calls Try.prog 62 #[v] w fun e w' => ∃ v', e = .returned v' ∧ w'.ownsRow w.heap.size 3 1 v' l.length (gvs l) ∧ Only [] w w' := by
  obtain ⟨i0, hi0, hz0, hz1, hz2⟩ := info_parts info_int
  obtain ⟨A, c, rfl⟩ := hs.shape
  cases A with
  | none =>
    have h0 : l = [] := by
      rcases Nat.eq_zero_or_pos l.length with h | h
      · exact List.eq_nil_of_length_eq_zero h
      · obtain ⟨b, o, c', hv, _⟩ := hs.at_ (by omega); injection hv with hv; cases hv
    subst h0
    clear hs
    go_enter Try.func62, Try.ntmps62
    go_wp2_with fail
    go_ret
    exact ⟨_, rfl, World.ownsRow_nil _ _ _ _, Only.refl _ _⟩
  | some A =>
    have HS := Lib.hid hs
    clear hs
    go_enter Try.func62, Try.ntmps62
    go_wp2_with (at_builtin
                 refine wpList_appX rfl _ _ 25 rfl w.heap.size 3 i0 _ 1 8 Try.underlying25 hi0 hz0 hz1 hz2 rfl (by decide) (w.alloc (.cells #[] 3)) (.slice (some ⟨w.heap.size, 0, none⟩) 0 0) 0 [] rfl (World.ownsRow_lit (base := w.heap.size) (e := 3) (size := 1) w #[] 0 (Nat.le_refl _) (by decide) rfl) B l.length (gvs l) A c rfl (HS.out.only ((Only.refl [] w).alloc _) hB (by simp)) (gvs_one l) (by simp only [maxLen]; omega) (by omega) (by simp) ?_
                 intro v' w' hown' hgrow)
    go_ret
    exact ⟨_, rfl, by simpa using hown', ((Only.refl [] w).alloc _).own (World.ownsRow_lit (base := w.heap.size) (e := 3) (size := 1) w #[] 0 (Nat.le_refl _) (by decide) rfl) hgrow (Nat.le_refl _)⟩
set_option maxRecDepth 100000 in
theorem clone_ent (v : Value) (l : List En) (B : Nat) (w : World) (hB : B ≤ w.heap.size) (hl : l.length ≤ 1000000000) (hs : SlAt w B v 4 l.length (enL l)) :
    Calls Try.prog 60 #[v] w fun e w' => ∃ v', e = .returned v' ∧ w'.ownsRow w.heap.size 40 4 v' l.length (enL l) ∧ Only [] w w' := by
  obtain ⟨i0, hi0, hz0, hz1, hz2⟩ := info_parts info_ent
  obtain ⟨A, c, rfl⟩ := hs.shape
  cases A with
  | none =>
    have h0 : l = [] := by
      rcases Nat.eq_zero_or_pos l.length with h | h
      · exact List.eq_nil_of_length_eq_zero h
      · obtain ⟨b, o, c', hv, _⟩ := hs.at_ (by omega); injection hv with hv; cases hv
    subst h0
    clear hs
    go_enter Try.func60, Try.ntmps60
    go_wp2_with fail
    go_ret
    exact ⟨_, rfl, World.ownsRow_nil _ _ _ _, Only.refl _ _⟩
  | some A =>
    have HS := Lib.hid hs
    clear hs
    go_enter Try.func60, Try.ntmps60
    go_wp2_with (at_builtin
                 refine wpList_appX rfl _ _ 31 rfl w.heap.size 40 i0 _ 4 40 Try.underlying31 hi0 hz0 hz1 hz2 rfl (by decide) (w.alloc (.cells #[] 40)) (.slice (some ⟨w.heap.size, 0, none⟩) 0 0) 0 [] rfl (World.ownsRow_lit (base := w.heap.size) (e := 40) (size := 4) w #[] 0 (Nat.le_refl _) (by decide) rfl) B l.length (enL l) A c rfl (HS.out.only ((Only.refl [] w).alloc _) hB (by simp)) (enL_one l) (by simp only [maxLen]; omega) (by omega) (by simp) ?_
                 intro v' w' hown' hgrow)
    go_ret
    exact ⟨_, rfl, by simpa using hown', ((Only.refl [] w).alloc _).own (World.ownsRow_lit (base := w.heap.size) (e := 40) (size := 4) w #[] 0 (Nat.le_refl _) (by decide) rfl) hgrow (Nat.le_refl _)⟩
def LG.last (g : LG) : Int := g.b.ix + g.l.length
set_option maxRecDepth 100000 in
theorem log_last (b : Nat) (vv ev : Value) (g : LG) (w : World) (h : LogV w b vv ev g) :
    Calls Try.prog 21 #[.pointer (some ⟨b, 0, none⟩)] w fun e w' => e = .returned (.int .i64 g.last) ∧ Only [] w w' := by
  obtain ⟨A, c, rfl⟩ := h.shape
  have c0 := fun u : Since w => u.cell (h.cells.cell (k := 0) rfl)
  have c4 := fun u : Since w => u.cell (h.cells.cell (k := 4) rfl)
  have lo := h.lo
  have hi := h.hi
  clear h
  go_enter Try.func21, Try.ntmps21
  go_wp2_with fail
  refine wp_region_only w (Only.refl _ _) (by kernel_rfl) (by kernel_rfl) ?_
  repeat (go_big_quiet_step (fail))
  refine wpQuiet_nil ?_
  rintro ⟨w1, ho1⟩
  dsimp only
  go_wp2_with fail
  go_ret
  exact ⟨rfl, ho1⟩
set_option maxRecDepth 100000 in
theorem log_place (b : Nat) (vv ev : Value) (g : LG) (i : Int) (w : World) (h : LogV w b vv ev g) (h0 : -1000000000 ≤ i) (h1 : i ≤ 1000000000) :
    Calls Try.prog 59 #[.pointer (some ⟨b, 0, none⟩), .int .i64 i] w fun e w' => e = .returned (.int .i64 (i - g.b.ix - 1)) ∧ w = w' := by
  have c0 := h.cells.cell (k := 0) rfl
  have lo := h.lo
  have hi := h.hi
  clear h
  go_enter Try.func59, Try.ntmps59
  go_wp2_with fail
  go_ret
  exact ⟨rfl, rfl⟩
end Go.Proofs.Ytagklgodcbmcaaa
