/-
  Chapter 8: put, Add.
-/
import Derived.Test.YtagklgodcbmcaaaR8b
namespace Go.Proofs.Ytagklgodcbmcaaa
open Go.RowKit
theorem LogV.nev {w : World} {b : Nat} {vv ev : Value} {g : LG} (h : LogV w b vv ev g) : ev.ownBlock ≠ some b := own_ne_block h.ents h.cells (by decide)
theorem LogV.nvv {w : World} {b : Nat} {vv ev : Value} {g : LG} (h : LogV w b vv ev g) : vv.ownBlock ≠ some b := own_ne_block h.vots h.cells (by decide)
theorem LogV.nee {w : World} {b : Nat} {vv ev : Value} {g : LG} (h : LogV w b vv ev g) {q : Nat} (hq : ev.ownBlock = some q) : vv.ownBlock ≠ some q := own_own_ne h.ents h.vots (by decide) hq
/-- The entries are another row now. -/
theorem LogV.swap {w w' : World} {S : List Nat} {b : Nat} {vv ev ev' : Value} {g : LG} {l' : List En} (h : LogV w b vv ev g) (ho : Only S w w') (hS : ∀ x, x ∈ S → ev.ownBlock = some x ∨ w.heap.size ≤ x)
    (hr : w'.ownsRow 0 40 4 ev' l'.length (enL l')) (hl : g.b.ix + l'.length ≤ 1000000) : LogV (w'.setCell ⟨b, 4, none⟩ ev') b vv ev' ⟨g.b, l'⟩ ∧ Only (lk b vv ev) w (w'.setCell ⟨b, 4, none⟩ ev') := by
  have hc : Cells w' b _ _ := h.cells.only ho (fun hm => by rcases hS b hm with h1 | h1; exact h.nev h1; have := h.cells.lt; omega)
  have hv := own_keep h.vots ho (fun x hx he => by rcases hS x hx with h1 | h1; exact h.nee h1 he; have := (h.vots.lt x he).2; omega)
  have ho2 : Only [b] w' (w'.setCell ⟨b, 4, none⟩ ev') := (Only.refl _ _).setCell (.inl (by simp)) _
  refine ⟨⟨hc.set 4 _, own_keep hr ho2 (fun x hx => by simp at hx; subst hx; exact own_ne_block hr hc (by decide)), own_keep hv ho2 (fun x hx => by simp at hx; subst hx; exact own_ne_block hv hc (by decide)), h.lo, hl, h.vlen⟩, ?_⟩
  refine (ho.mono (S' := lk b vv ev) fun x hx => ?_).setCell (.inl (by simp [lk])) _
  rcases hS x hx with h1 | h1
  · exact .inl (by simp [lk, mem_rb, h1])
  · exact .inr h1
set_option maxRecDepth 100000 in
set_option maxHeartbeats 4000000 in
theorem log_put (b : Nat) (vv ev : Value) (g : LG) (x : En) (w : World) (h : LogV w b vv ev g) (hr : g.last < 1000000) :
    Calls Try.prog 58 #[.pointer (some ⟨b, 0, none⟩), x.val] w fun e w' => e = .returned (.tuple #[]) ∧ ∃ ev', LogV w' b vv ev' ⟨g.b, g.l ++ [x]⟩ ∧ Only (lk b vv ev) w w' ∧ NewOf w ev ev' := by
  obtain ⟨i0, hi0, hz0, hz1, hz2⟩ := info_parts info_ent
  have hi := h.hi
  have lo := h.lo
  have hoA : Only [] w (w.alloc (.cells #[.int .i64 x.ix, .int .i64 x.tm, .int .i64 x.kd, .string x.d] 40)) := (Only.refl _ _).alloc _
  have hX := Cells.new w 40 [.int .i64 x.ix, .int .i64 x.tm, .int .i64 x.kd, .string x.d]
  have hN := h.only hoA
  have hnz : ev.ownBlock ≠ some w.heap.size := fun hh => by have := (h.ents.lt _ hh).2; omega
  have hWs : (w.alloc (.cells #[.int .i64 x.ix, .int .i64 x.tm, .int .i64 x.kd, .string x.d] 40)).heap.size = w.heap.size + 1 := by simp
  clear h
  unfold En.val
  go_enter Try.func58, Try.ntmps58
  go_wp2_with fail
  obtain ⟨W0, hW0⟩ : ∃ W0, w.alloc (.cells #[.int .i64 x.ix, .int .i64 x.tm, .int .i64 x.kd, .string x.d] 40) = W0 := ⟨_, rfl⟩
  obtain ⟨z, hz⟩ : ∃ z, w.heap.size = z := ⟨_, rfl⟩
  rw [hW0] at hoA hX hN hWs ⊢
  have HZ := Lib.hid hz
  rw [hz] at hX hWs hnz ⊢
  clear hW0
  obtain ⟨A, vc, hv⟩ := hN.shape
  subst hv
  have r0 := hN.cells.cell (k := 4) rfl
  have rf := hN.cells.frozen 4
  have rl := hN.cells.lt
  have x0 := hX.cell (k := 0) rfl
  have x1 := hX.cell (k := 1) rfl
  have x2 := hX.cell (k := 2) rfl
  have x3 := hX.cell (k := 3) rfl
  have hown := hN.ents
  have HN := Lib.hid hN
  have HO := Lib.hid hown
  have hne : (Value.slice A g.l.length vc).ownBlock ≠ some b := hN.nev
  have HLit : Hid (Cells (W0.alloc (.cells #[.int .i64 x.ix, .int .i64 x.tm, .int .i64 x.kd, .string x.d] 40)) (z + 1) 40 [.int .i64 x.ix, .int .i64 x.tm, .int .i64 x.kd, .string x.d]) := by
    show Cells _ _ _ _
    rw [← hWs]; exact Cells.new W0 _ _
  have HX := Lib.hid hX
  clear hN hX hown
  have rn : b ≠ W0.heap.size := Nat.ne_of_lt rl
  have rn2 : b < W0.heap.size := rl
  have rz : z < W0.heap.size := by omega
  have rn3 : b ≠ z + 1 := by omega
  have rn4 : b < z + 1 := by omega
  go_region_law (first
    | (go_loud (refine step_append_lies _ (by rfl) _ _ 31 (by rfl) 0 40 i0 _ 4 40 Try.underlying31 hi0 hz0 hz1 hz2 rfl (by omega) (.slice A g.l.length vc) g.l.length (enL g.l) (by rfl) (by first | exact HO.out.alloc _ | exact (HO.out.alloc _).drew | exact HO.out.drew.alloc _) ⟨z + 1, 0, none⟩ 1 1 [.int .i64 x.ix, .int .i64 x.tm, .int .i64 x.kd, .string x.d] (by rfl) (by rfl) (by first | exact lit4 HLit.out | exact lit4 HLit.out.drew) (by simp [Value.oneCell']) (by omega) (by unfold maxLen; omega) (by omega) (by simp) (z + 2) (by simp [hWs]) ?_); intro g1 cap w5 hown5 hgrow hat hgl1; have hb3 : Cells w5 b 86 _ := Cells.grown (by first | exact HN.out.cells.alloc _ | exact (HN.out.cells.alloc _).drew | exact HN.out.cells.drew.alloc _) hgrow hne; have s0 := hb3.cell (k := 4) rfl; have s1 := hb3.frozen 4; have hz3 : Cells w5 z 40 _ := Cells.grown (by first | exact HX.out.alloc _ | exact (HX.out.alloc _).drew | exact HX.out.drew.alloc _) hgrow hnz; have t0 := hz3.cell (k := 0) rfl; have t1 := hz3.cell (k := 1) rfl; have t2 := hz3.cell (k := 2) rfl; have t3 := hz3.cell (k := 3) rfl))
  all_goals
    have hl1 : (g.l ++ [x]).length = g.l.length + 1 := by simp
    have hr9 : w5.ownsRow 0 40 4 (.slice (some ⟨g1, 0, none⟩) (g.l.length + 1) cap) (g.l ++ [x]).length (enL (g.l ++ [x])) := by
      rw [hl1, enL_append]; exact hown5
    have ho5 : Only (rb (.slice A g.l.length vc)) W0 w5 := (((Only.refl _ W0).alloc (.cells #[.int .i64 x.ix, .int .i64 x.tm, .int .i64 x.kd, .string x.d] 40)).drew).grown hgrow (fun g hh => .inl (by simp [rb, hh]))
    have hsw := HN.out.swap ho5 (fun y hy => .inl (mem_rb.1 hy)) hr9 (by rw [hl1]; unfold LG.last at hr; omega)
    have HFI := Lib.hid hsw.1
    have hoF := (hoA.of0 (S := lk b vv (.slice A g.l.length vc))).tr hsw.2
    have hwz : w.heap.size = z := HZ.out
    clear hsw hr9 ho5
    go_wp2_with fail
    go_end0
    refine ⟨rfl, _, HFI.out, hoF, fun g' hg' => ?_⟩
    have hg2 : g1 = g' := by simpa [Value.ownBlock] using hg'
    subst hg2
    rcases hat with h | h
    · exact .inl h
    · exact .inr (by omega)
/-- A log, all whose blocks are among K. -/
def LogK (w : World) (K : List Nat) (b : Nat) (g : LG) : Prop := ∃ vv ev, LogV w b vv ev g ∧ (∀ x, x ∈ lk b vv ev → x ∈ K) ∧ ∀ x, x ∈ K → x < w.heap.size
/-- What may have turned: blocks of K, and new ones; the new K has blocks of the old one, and new ones. -/
structure Grew (w w' : World) (K K' : List Nat) : Prop where
  only : Only K w w'
  blocks : ∀ x, x ∈ K' → x ∈ K ∨ w.heap.size ≤ x
theorem Grew.refl (w : World) (K : List Nat) : Grew w w K K := ⟨Only.refl _ _, fun _ h => .inl h⟩
theorem Grew.of0 {w w' : World} (K : List Nat) (h : Only [] w w') : Grew w w' K K := ⟨h.of0, fun _ h => .inl h⟩
theorem Grew.trans {w w1 w2 : World} {K K1 K2 : List Nat} (h : Grew w w1 K K1) (k : Grew w1 w2 K1 K2) : Grew w w2 K K2 :=
  ⟨h.only.trans k.only h.blocks, fun x hx => (k.blocks x hx).elim (h.blocks x) fun h2 => .inr (Nat.le_trans h.only.size h2)⟩
theorem Grew.tr0 {w w1 w2 : World} {K K1 : List Nat} (h : Grew w w1 K K1) (k : Only [] w1 w2) : Grew w w2 K K1 := h.trans (Grew.of0 _ k)
theorem Grew.of0l {w w1 w2 : World} {K K1 : List Nat} (h : Only [] w w1) (k : Grew w1 w2 K K1) : Grew w w2 K K1 := (Grew.of0 K h).trans k
theorem LogV.toK {w : World} {b : Nat} {vv ev : Value} {g : LG} (h : LogV w b vv ev g) : LogK w (lk b vv ev) b g := ⟨vv, ev, h, fun _ hx => hx, h.lt⟩
theorem LogK.keep {S K : List Nat} {w w' : World} {b : Nat} {g : LG} (h : LogK w K b g) (ho : Only S w w') (hS : ∀ x, x ∈ S → x ∉ K) : LogK w' K b g := by
  obtain ⟨vv, ev, h, hK, hl⟩ := h
  exact ⟨vv, ev, h.keep ho (fun x hx hm => hS x hx (hK x hm)), hK, fun x hx => Nat.lt_of_lt_of_le (hl x hx) ho.size⟩
theorem LogK.only {K : List Nat} {w w' : World} {b : Nat} {g : LG} (h : LogK w K b g) (ho : Only [] w w') : LogK w' K b g := h.keep ho (by simp)
theorem LogK.hi {K : List Nat} {w : World} {b : Nat} {g : LG} (h : LogK w K b g) : 0 ≤ g.b.ix ∧ 0 ≤ g.last ∧ g.last ≤ 1000000 := by
  obtain ⟨vv, ev, h, hK, _⟩ := h
  exact ⟨h.lo, by have := h.lo; unfold LG.last; omega, h.hi⟩
theorem LogK.below {K : List Nat} {w : World} {b : Nat} {g : LG} (h : LogK w K b g) : ∀ x, x ∈ K → x < w.heap.size := by
  obtain ⟨_, _, _, _, h⟩ := h
  exact h
theorem LogK.lt {K : List Nat} {w : World} {b : Nat} {g : LG} (h : LogK w K b g) : b < w.heap.size := by
  obtain ⟨vv, ev, h, hK, _⟩ := h
  exact h.cells.lt
theorem LogV.grew {w w' : World} {b : Nat} {vv ev vv' ev' : Value} {g' : LG} (h : LogV w' b vv' ev' g') (ho : Only (lk b vv ev) w w') (he : NewOf w ev ev') (hv : NewOf w vv vv') : LogK w' (lk b vv' ev') b g' ∧ Grew w w' (lk b vv ev) (lk b vv' ev') := by
  refine ⟨h.toK, ho, fun x hx => ?_⟩
  simp only [lk, List.mem_cons, List.mem_append, mem_rb] at hx
  rcases hx with rfl | hx | hx
  · exact .inl (by simp [lk])
  · exact (he x hx).imp_left fun h => by simp [lk, mem_rb, h]
  · exact (hv x hx).imp_left fun h => by simp [lk, mem_rb, h]
/-- The form in which all that is done is told. -/
def Does (w w' : World) (K : List Nat) (b : Nat) (g' : LG) : Prop := ∃ K', LogK w' K' b g' ∧ Grew w w' K K'
theorem Does.ofV {w w' : World} {K : List Nat} {b : Nat} {vv ev vv' ev' : Value} {g' : LG} (hK : ∀ x, x ∈ lk b vv ev → x ∈ K) (h : LogV w' b vv' ev' g') (ho : Only (lk b vv ev) w w') (he : NewOf w ev ev') (hv : NewOf w vv vv') : Does w w' K b g' := by
  obtain ⟨h1, h2⟩ := h.grew ho he hv
  exact ⟨_, h1, h2.only.mono fun x hx => .inl (hK x hx), fun x hx => (h2.blocks x hx).imp_left (hK x)⟩
theorem Does.refl {w : World} {K : List Nat} {b : Nat} {g : LG} (h : LogK w K b g) : Does w w K b g := ⟨K, h, Grew.refl _ _⟩
theorem Does.tr0 {w w1 w2 : World} {K : List Nat} {b : Nat} {g : LG} (h : Does w w1 K b g) (k : Only [] w1 w2) : Does w w2 K b g := by
  obtain ⟨K', h1, h2⟩ := h
  exact ⟨K', h1.only k, h2.tr0 k⟩
theorem Does.of0l {w w1 w2 : World} {K : List Nat} {b : Nat} {g : LG} (k : Only [] w w1) (h : Does w1 w2 K b g) : Does w w2 K b g := by
  obtain ⟨K', h1, h2⟩ := h
  exact ⟨K', h1, h2.of0l k⟩
theorem logk_put (b : Nat) (K : List Nat) (g : LG) (x : En) (w : World) (h : LogK w K b g) (hr : g.last < 1000000) :
    Calls Try.prog 58 #[.pointer (some ⟨b, 0, none⟩), x.val] w fun e w' => e = .returned (.tuple #[]) ∧ Does w w' K b ⟨g.b, g.l ++ [x]⟩ := by
  obtain ⟨vv, ev, h, hK, _⟩ := h
  refine (log_put b vv ev g x w h hr).mono ?_
  rintro e w' ⟨rfl, ev', h', ho, hn⟩
  exact ⟨rfl, Does.ofV hK h' ho hn (NewOf.refl _ _)⟩
theorem logk_last (b : Nat) (K : List Nat) (g : LG) (w : World) (h : LogK w K b g) : Calls Try.prog 21 #[.pointer (some ⟨b, 0, none⟩)] w fun e w' => e = .returned (.int .i64 g.last) ∧ Only [] w w' := by
  obtain ⟨vv, ev, h, hK, _⟩ := h
  exact log_last b vv ev g w h
theorem logk_term (b : Nat) (K : List Nat) (g : LG) (i : Int) (w : World) (h : LogK w K b g) : Calls Try.prog 27 #[.pointer (some ⟨b, 0, none⟩), .int .i64 i] w fun e w' => e = .returned (ibV (g.term i)) ∧ Only [] w w' := by
  obtain ⟨vv, ev, h, hK, _⟩ := h
  exact log_term b vv ev g i w h
theorem logk_slice (b : Nat) (K : List Nat) (g : LG) (fr most : Int) (w : World) (h : LogK w K b g) :
    Calls Try.prog 20 #[.pointer (some ⟨b, 0, none⟩), .int .i64 fr, .int .i64 most] w fun e w' => ∃ v', e = .returned v' ∧ w'.ownsRow w.heap.size 40 4 v' (g.slice fr most).length (enL (g.slice fr most)) ∧ Only [] w w' := by
  obtain ⟨vv, ev, h, hK, _⟩ := h
  exact log_slice b vv ev g fr most w h
def LG.new (g : LG) (t k : Int) (d : ByteArray) : En := ⟨g.last + 1, t, k, d⟩
set_option maxRecDepth 100000 in
set_option maxHeartbeats 2000000 in
theorem log_add (b : Nat) (K : List Nat) (g : LG) (t k : Int) (d : ByteArray) (w : World) (h : LogK w K b g) (hr : g.last < 1000000) :
    Calls Try.prog 31 #[.pointer (some ⟨b, 0, none⟩), .int .i64 t, .int .i64 k, .string d] w fun e w' => e = .returned (g.new t k d).val ∧ Does w w' K b ⟨g.b, g.l ++ [g.new t k d]⟩ := by
  have CL := Lib.hid (fun w' (ho : Only [] w w') => logk_last b K g w' (h.only ho))
  have CP := Lib.hid (fun w' (ho : Only [] w w') => logk_put b K g (g.new t k d) w' (h.only ho) hr)
  unfold En.val LG.new at CP ⊢
  obtain ⟨lo, l0, l1⟩ := h.hi
  have HB := Lib.hid h.below
  clear h
  go_enter Try.func31, Try.ntmps31
  go_wp2_with fail
  have hoA : Only [] w _ := (Only.refl _ w).alloc (.cells #[.int .i64 0, .int .i64 0, .int .i64 0, .string ⟨#[]⟩] 40)
  have hZ := Cells.new w 40 [.int .i64 0, .int .i64 0, .int .i64 0, .string ⟨#[]⟩]
  refine (CL.out _ hoA).mono ?_
  rintro e w1 ⟨rfl, ho1⟩
  have hoB := hoA.tr ho1
  have hZ1 := hZ.only ho1 (by simp)
  have z1 := hZ1.lt
  clear hoA ho1 hZ CL
  go_wp2_with fail
  have hoC := hoB.alloc (.cells #[.int .i64 (g.last + 1), .int .i64 t, .int .i64 k, .string d] 40)
  have hY := Cells.new w1 40 [.int .i64 (g.last + 1), .int .i64 t, .int .i64 k, .string d]
  have hZ2 := hZ1.alloc (.cells #[.int .i64 (g.last + 1), .int .i64 t, .int .i64 k, .string d] 40)
  refine (CP.out _ hoC).mono ?_
  rintro e w2 ⟨rfl, K', hK', hG⟩
  have hY1 := hY.only hG.only (fun hm => by have := HB.out _ hm; omega)
  have hZ3 := hZ2.only hG.only (fun hm => by have := HB.out _ hm; omega)
  have y0 := hY1.cell (k := 0) rfl
  have y1 := hY1.cell (k := 1) rfl
  have y2 := hY1.cell (k := 2) rfl
  have y3 := hY1.cell (k := 3) rfl
  have yl := hY1.lt
  have r0 := hZ3.cell (k := 0) rfl
  have r1 := hZ3.cell (k := 1) rfl
  have r2 := hZ3.cell (k := 2) rfl
  have r3 := hZ3.cell (k := 3) rfl
  have f0 := hZ3.frozen 0
  have f1 := hZ3.frozen 1
  have f2 := hZ3.frozen 2
  have f3 := hZ3.frozen 3
  have rl := hZ3.lt
  have hne : w.heap.size ∉ K' := fun hm => by
    rcases hG.blocks _ hm with h1 | h1
    · have := HB.out _ h1; omega
    · simp at h1; omega
  have hD := Grew.of0l hoC hG
  have hoF : ∀ u0 u1 u2 u3, Only [w.heap.size] w2 ((((w2.setCell ⟨w.heap.size, 0, none⟩ u0).setCell ⟨w.heap.size, 1, none⟩ u1).setCell ⟨w.heap.size, 2, none⟩ u2).setCell ⟨w.heap.size, 3, none⟩ u3) :=
    fun u0 u1 u2 u3 => ((((Only.refl _ w2).setCell (.inl (by simp)) _).setCell (.inl (by simp)) _).setCell (.inl (by simp)) _).setCell (.inl (by simp)) _
  have HK' := Lib.hid hK'
  have HG := Lib.hid hD
  clear hY1 hZ3 hZ2 hZ1 hY hoC hoB hK' hG HB CP hD
  go_wp2_with fail
  exact bodyPost_ret (v := .agg #[.int .i64 (g.last + 1), .int .i64 t, .int .i64 k, .string d]) (by simp [results, Try.results31, go_sem, *]) rfl ⟨rfl, K', HK'.out.keep (hoF _ _ _ _) (fun x hx => by simp at hx; subst hx; exact hne), HG.out.only.trans (hoF _ _ _ _) (fun x hx => .inr (by simp at hx; omega)), HG.out.blocks⟩
end Go.Proofs.Ytagklgodcbmcaaa
