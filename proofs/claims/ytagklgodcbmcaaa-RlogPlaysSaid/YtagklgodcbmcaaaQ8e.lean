/-
  Chapter 8: the document's log: Add.
-/
import Derived.Test.YtagklgodcbmcaaaQ8d
namespace Go.Proofs.Ytagklgodcbmcaaa
open Go.RowKit
def RlK (w : World) (K : List Nat) (r : Nat) (m : LG) : Prop := ∃ vv ev, RlV w r vv ev m ∧ (∀ x, x ∈ lk r vv ev → x ∈ K) ∧ ∀ x, x ∈ K → x < w.heap.size
def RDoes (w w' : World) (K : List Nat) (r : Nat) (m' : LG) : Prop := ∃ K', RlK w' K' r m' ∧ Grew w w' K K'
theorem RlV.lt {w : World} {r : Nat} {vv ev : Value} {m : LG} (h : RlV w r vv ev m) : ∀ x, x ∈ lk r vv ev → x < w.heap.size := by
  intro x hx
  simp only [lk, List.mem_cons, List.mem_append, mem_rb] at hx
  rcases hx with rfl | hx | hx
  · exact h.cells.lt
  · exact h.lte x hx
  · exact h.ltv x hx
theorem RlK.keep {S K : List Nat} {w w' : World} {r : Nat} {m : LG} (h : RlK w K r m) (ho : Only S w w') (hS : ∀ x, x ∈ S → x ∉ K) : RlK w' K r m := by
  obtain ⟨vv, ev, h, hK, hl⟩ := h
  exact ⟨vv, ev, h.keep ho (fun x hx hm => hS x hx (hK x hm)), hK, fun x hx => Nat.lt_of_lt_of_le (hl x hx) ho.size⟩
theorem RlK.only {K : List Nat} {w w' : World} {r : Nat} {m : LG} (h : RlK w K r m) (ho : Only [] w w') : RlK w' K r m := h.keep ho (by simp)
theorem RlK.below {K : List Nat} {w : World} {r : Nat} {m : LG} (h : RlK w K r m) : ∀ x, x ∈ K → x < w.heap.size := by
  obtain ⟨_, _, _, _, h⟩ := h
  exact h
theorem RDoes.refl {w : World} {K : List Nat} {r : Nat} {m : LG} (h : RlK w K r m) : RDoes w w K r m := ⟨K, h, Grew.refl _ _⟩
theorem RDoes.tr0 {w w1 w2 : World} {K : List Nat} {r : Nat} {m : LG} (h : RDoes w w1 K r m) (k : Only [] w1 w2) : RDoes w w2 K r m := by
  obtain ⟨K', h1, h2⟩ := h
  exact ⟨K', h1.only k, h2.tr0 k⟩
/-- A step that changes the log's own block alone, besides new ones. -/
theorem RDoes.ofV {w w' : World} {K : List Nat} {r : Nat} {vv ev vv' ev' : Value} {m' : LG} (hK : ∀ x, x ∈ lk r vv ev → x ∈ K) (h : RlV w' r vv' ev' m') (ho : Only [r] w w') (he : NewOf w ev ev') (hv : NewOf w vv vv') : RDoes w w' K r m' := by
  have hrK : r ∈ K := hK r (by simp [lk])
  refine ⟨lk r vv' ev', ⟨vv', ev', h, fun _ hx => hx, h.lt⟩, ho.mono fun x hx => .inl (by simp at hx; subst hx; exact hrK), fun x hx => ?_⟩
  simp only [lk, List.mem_cons, List.mem_append, mem_rb] at hx
  rcases hx with rfl | hx | hx
  · exact .inl hrK
  · exact (he x hx).imp_left fun h => hK x (by simp [lk, mem_rb, h])
  · exact (hv x hx).imp_left fun h => hK x (by simp [lk, mem_rb, h])
/-- The entries are others now. -/
theorem RlV.setE {w : World} {r : Nat} {vv ev ev' : Value} {m : LG} {l' : List En} (h : RlV w r vv ev m) (he : RfS w ev' 4 l'.length (enL l')) (hl : m.b.ix + l'.length ≤ 1000000) (hn : ev'.ownBlock ≠ some r) (hlt : ∀ q, ev'.ownBlock = some q → q < w.heap.size) :
    RlV (w.setCell ⟨r, 4, none⟩ ev') r vv ev' ⟨m.b, l'⟩ ∧ Only [r] w (w.setCell ⟨r, 4, none⟩ ev') := by
  have ho : Only [r] w (w.setCell ⟨r, 4, none⟩ ev') := (Only.refl _ _).setCell (.inl (by simp)) _
  exact ⟨⟨h.cells.set 4 _, he.keep ho (fun x hx => by simp at hx; subst hx; exact hn), h.vots.keep ho (fun x hx => by simp at hx; subst hx; exact h.nvv), hn, h.nvv, fun q hq => Nat.lt_of_lt_of_le (hlt q hq) ho.size, fun q hq => Nat.lt_of_lt_of_le (h.ltv q hq) ho.size, h.lo, hl, h.vlen⟩, ho⟩
set_option maxRecDepth 100000 in
set_option maxHeartbeats 4000000 in
theorem rl_add (r : Nat) (K : List Nat) (m : LG) (t k : Int) (d : ByteArray) (w : World) (h : RlK w K r m) (hr : m.last < 1000000) :
    Calls Try.prog 63 #[.pointer (some ⟨r, 0, none⟩), .int .i64 t, .int .i64 k, .string d] w fun e w' => e = .returned (m.new t k d).val ∧ RDoes w w' K r ⟨m.b, m.l ++ [m.new t k d]⟩ := by
  obtain ⟨i0, hi0, hz0, hz1, hz2⟩ := info_parts info_ent
  obtain ⟨vv, ev, h, hK, hKl⟩ := h
  obtain ⟨A, c, rfl, _, _⟩ := h.ents.shape
  have CL := Lib.hid (fun w' (ho : Only [] w w') => rl_last r vv _ m w' (h.only ho))
  have hlo := h.lo
  have hhi := h.hi
  have hlb : 0 ≤ m.last := by unfold LG.last; omega
  obtain ⟨y, hy⟩ : ∃ y, m.new t k d = y := ⟨_, rfl⟩
  have hy0 : y.ix = m.last + 1 := by rw [← hy]; rfl
  have hy1 : y.tm = t := by rw [← hy]; rfl
  have hy2 : y.kd = k := by rw [← hy]; rfl
  have hy3 : y.d = d := by rw [← hy]; rfl
  rw [hy]
  have HH := Lib.hid h
  have HK := Lib.hid hK
  obtain ⟨N, hN⟩ : ∃ N, m.l.length = N := ⟨_, rfl⟩
  have HN := Lib.hid hN
  rw [hN] at hhi
  have HY := Lib.hid hy0
  have hNb : N ≤ 1000000 := by omega
  have hlN : Hid (m.b.ix + (N : Int) < 1000000) := by show _ < _; unfold LG.last at hr; rw [hN] at hr; exact hr
  unfold En.val
  subst hy1
  subst hy2
  subst hy3
  clear h hK hKl hy hN hy0
  go_enter Try.func63, Try.ntmps63
  go_wp2_with fail
  have hoA : Only [] w _ := (Only.refl _ w).alloc (.cells #[.int .i64 0, .int .i64 0, .int .i64 0, .string ⟨#[]⟩] 40)
  have hZ := Cells.new w 40 [.int .i64 0, .int .i64 0, .int .i64 0, .string ⟨#[]⟩]
  refine (CL.out _ hoA).mono ?_
  rintro e w1 ⟨rfl, ho1⟩
  have hoB := hoA.tr ho1
  have hZ1 := hZ.only ho1 (by simp)
  obtain ⟨z8, hz8⟩ : ∃ z, w.heap.size = z := ⟨_, rfl⟩
  have hz8b : w.heap.size ≤ z8 := by omega
  rw [hz8] at hZ1 ⊢
  clear hoA ho1 hZ CL hz8
  go_wp2_with fail
  rw [← HY.out]
  have hoC := hoB.alloc (.cells #[.int .i64 y.ix, .int .i64 y.tm, .int .i64 y.kd, .string y.d] 40)
  have hY := Cells.new w1 40 [.int .i64 y.ix, .int .i64 y.tm, .int .i64 y.kd, .string y.d]
  have hZ2 := hZ1.alloc (.cells #[.int .i64 y.ix, .int .i64 y.tm, .int .i64 y.kd, .string y.d] 40)
  obtain ⟨W, hW⟩ : ∃ W, w1.alloc (.cells #[.int .i64 y.ix, .int .i64 y.tm, .int .i64 y.kd, .string y.d] 40) = W := ⟨_, rfl⟩
  have hz9b : w.heap.size ≤ w1.heap.size := hoB.size
  have hz89 : z8 ≠ w1.heap.size := by have := hZ1.lt; omega
  obtain ⟨z9, hz9⟩ : ∃ z, w1.heap.size = z := ⟨_, rfl⟩
  rw [hW] at hoC hY hZ2 ⊢
  rw [hz9] at hY hz9b hz89 ⊢
  have hN := HH.out.only hoC
  have HNW := Lib.hid hN
  have HYW := Lib.hid hY
  have HZW := Lib.hid hZ2
  have HOC := Lib.hid hoC
  have hrw := HH.out.cells.lt
  have hr8 : r ≠ z8 := by omega
  have hr9 : r ≠ z9 := by omega
  have hr8' : z8 ≠ r := by omega
  have hr9' : z9 ≠ r := by omega
  have t0 := fun u : Since W => u.cell (hN.cells.cell (k := 4) rfl)
  have x0 := fun u : Since W => u.cell (hY.cell (k := 0) rfl)
  have x1 := fun u : Since W => u.cell (hY.cell (k := 1) rfl)
  have x2 := fun u : Since W => u.cell (hY.cell (k := 2) rfl)
  have x3 := fun u : Since W => u.cell (hY.cell (k := 3) rfl)
  have HSrc := Lib.hid (hN.ents.src (by decide))
  rw [HN.out] at HSrc t0
  clear hW hz9 hoB hZ1 hY hZ2 hoC hN hr
  refine wp_region_pendN W (Only.refl _ _) [(18, OwW W.heap.size 40 4 0 []), (23, OwW W.heap.size 40 4 N (enL m.l)), (25, OwW W.heap.size 40 4 1 y.cells), (26, OwW W.heap.size 40 4 (N + 1) (enL m.l ++ y.cells))] [(23, 18), (26, 23)] 12 (by intro p hp; simp at hp; rcases hp with rfl | rfl | rfl | rfl <;> exact OwW.lasts _ _ _ _ _) (by kernel_rfl) (by kernel_rfl) (by decide) (fun val => ?_)
  simp only [List.take_succ_cons, List.take_zero, List.drop_succ_cons, List.drop_zero]
  refine fit_segN 1 (by kernel_rfl) ?_
  simp only [List.take_succ_cons, List.take_zero, List.drop_succ_cons, List.drop_zero]
  repeat (go_big_quiet_step (fail))
  refine wpQuiet_nil ?_
  refine fit_litO 18 40 4 [] 0 rfl rfl (by simp) (by simp) rfl (by decide) (fun w5 => by go_simp) rfl ?_
  simp only [Act.put, List.setIfInBounds_toArray, List.set_cons_zero, List.set_cons_succ]
  refine fit_segN 4 (by kernel_rfl) ?_
  simp only [List.take_succ_cons, List.take_zero, List.drop_succ_cons, List.drop_zero]
  repeat (go_big_quiet_step (fail))
  refine wpQuiet_nil ?_
  refine fit_append 23 18 (.tmp 22) 31 40 i0 (.agg #[.int .i64 0, .int .i64 0, .int .i64 0, .string ⟨#[]⟩]) 4 40 Try.underlying31 hi0 hz0 hz1 hz2 rfl (by decide) 0 N N [] (enL m.l) (enL m.l) (by omega) rfl rfl rfl rfl (by simp) (by simp) (by simp) (by decide) rfl rfl (fun w5 hw5 => HSrc.out.only hw5.1) (by unfold maxLen; omega) (by omega) rfl ?_
  simp only [Act.put, List.setIfInBounds_toArray, List.set_cons_zero, List.set_cons_succ]
  refine fit_segN 1 (by kernel_rfl) ?_
  simp only [List.take_succ_cons, List.take_zero, List.drop_succ_cons, List.drop_zero]
  repeat (go_big_quiet_step (fail))
  refine wpQuiet_nil ?_
  refine fit_litO 25 40 4 y.cells 1 rfl rfl (by simp) (by simp) rfl (by decide) (fun w5 => by unfold En.cells; go_simp) rfl ?_
  simp only [Act.put, List.setIfInBounds_toArray, List.set_cons_zero, List.set_cons_succ]
  refine fit_append 26 23 (.tmp 25) 31 40 i0 (.agg #[.int .i64 0, .int .i64 0, .int .i64 0, .string ⟨#[]⟩]) 4 40 Try.underlying31 hi0 hz0 hz1 hz2 rfl (by decide) N 1 (N + 1) (enL m.l) y.cells (enL m.l ++ y.cells) (by omega) rfl rfl rfl rfl (by simp) (by simp) (by simp) (by decide) rfl rfl (fun w5 hw5 => SrcA.own (hw5.2 (25, OwW W.heap.size 40 4 1 y.cells) (by simp) (by show 25 ∈ Oper.looksAt _ _; decide)) (by simp [En.cells, Value.oneCell'])) (by unfold maxLen; omega) (by omega) rfl ?_
  simp only [Act.put, List.setIfInBounds_toArray, List.set_cons_zero, List.set_cons_succ]
  refine fit_segN 2 (by kernel_rfl) ?_
  simp only [List.take_succ_cons, List.take_zero, List.drop_succ_cons, List.drop_zero]
  repeat (go_big_quiet_step (fail))
  refine wpQuiet_nil ?_
  intro w5 ho5 hV5
  have hown5 : w5.ownsRow W.heap.size 40 4 (val 26) (N + 1) (enL m.l ++ y.cells) := hV5 (by decide) (26, OwW W.heap.size 40 4 (N + 1) (enL m.l ++ y.cells)) (by simp) (by simp)
  obtain ⟨u, hu⟩ : ∃ u, val 26 = u := ⟨_, rfl⟩
  rw [hu] at hown5 ⊢
  obtain ⟨A5, c5, rfl⟩ := (SlAt.of_own hown5).shape
  have hR5 := HNW.out.only ho5
  have hY5 := HYW.out.only ho5 (by simp)
  have hZ5 := HZW.out.only ho5 (by simp)
  have hl5 : (m.l ++ [y]).length = N + 1 := by rw [List.length_append, HN.out]; rfl
  have he5 : enL (m.l ++ [y]) = enL m.l ++ y.cells := by rw [enL_append]; simp [enL]
  have hnr : ∀ q, (Value.slice A5 (N + 1) c5).ownBlock = some q → W.heap.size ≤ q ∧ q < w5.heap.size := fun q hq => hown5.lt q hq
  have hSet := hR5.setE (ev' := .slice A5 (N + 1) c5) (l' := m.l ++ [y]) (by rw [hl5, he5]; exact RfS.of_own hown5 (by rw [← he5]; exact enL_one _)) (by rw [hl5]; have := hlN.out; omega) (fun hq => by have := (hnr r hq).1; have := HNW.out.cells.lt; omega) (fun q hq => (hnr q hq).2)
  have HSET := Lib.hid hSet
  have HNR := Lib.hid hnr
  have HO5 := Lib.hid (HOC.out.tr ho5)
  have d0 := hR5.cells.cell (k := 4) rfl
  have f0 := hR5.cells.frozen 4
  have hb5 := hR5.cells.lt
  have y0 := hY5.cell (k := 0) rfl
  have y1 := hY5.cell (k := 1) rfl
  have y2 := hY5.cell (k := 2) rfl
  have y3 := hY5.cell (k := 3) rfl
  have yl := hY5.lt
  have q0 := hZ5.cell (k := 0) rfl
  have q1 := hZ5.cell (k := 1) rfl
  have q2 := hZ5.cell (k := 2) rfl
  have q3 := hZ5.cell (k := 3) rfl
  have g0 := hZ5.frozen 0
  have g1 := hZ5.frozen 1
  have g2 := hZ5.frozen 2
  have g3 := hZ5.frozen 3
  have ql := hZ5.lt
  have HOS := Lib.hid HOC.out.size
  clear hR5 hY5 hZ5 hown5 hV5 t0 x0 x1 x2 x3 hu hSet hnr ho5
  go_wp2_with fail
  have hF : ∀ (w' : World) u0 u1 u2 u3, Only [z8] w' ((((w'.setCell ⟨z8, 0, none⟩ u0).setCell ⟨z8, 1, none⟩ u1).setCell ⟨z8, 2, none⟩ u2).setCell ⟨z8, 3, none⟩ u3) :=
    fun w' u0 u1 u2 u3 => ((((Only.refl _ w').setCell (.inl (by simp)) _).setCell (.inl (by simp)) _).setCell (.inl (by simp)) _).setCell (.inl (by simp)) _
  have hz8n : ∀ x, x ∈ [z8] → x ∉ lk r vv (.slice A5 (N + 1) c5) := by
    intro x hx hm
    simp at hx
    subst hx
    simp only [lk, List.mem_cons, List.mem_append, mem_rb] at hm
    rcases hm with hm | hm | hm
    · exact hr8' hm
    · have := (HNR.out _ hm).1; have := HZW.out.lt; omega
    · have := HH.out.ltv _ hm; omega
  exact bodyPost_ret (v := .agg #[.int .i64 y.ix, .int .i64 y.tm, .int .i64 y.kd, .string y.d]) (by simp [results, Try.results63, go_sem, *]) rfl ⟨by first | rfl | rw [HY.out], RDoes.ofV HK.out (HSET.out.1.keep (hF _ _ _ _ _) hz8n) ((HO5.out.of0.tr HSET.out.2).trans (hF _ _ _ _ _) (fun q hq => .inr (by simp at hq; omega))) (fun q hq => .inr (by have := (HNR.out q hq).1; have := HOS.out; omega)) (NewOf.refl _ _)⟩
end Go.Proofs.Ytagklgodcbmcaaa
