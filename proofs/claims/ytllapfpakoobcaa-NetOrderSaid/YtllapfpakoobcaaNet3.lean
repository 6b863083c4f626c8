/-
  Chapter 6: package net: out, Send, Lose, Twice.
-/
import Derived.Test.YtllapfpakoobcaaNet2
namespace Go.Proofs.Ytllapfpakoobcaa
open Go.RowKit
theorem own_own_ne {w : World} {B B' : Nat} {e e' : TypeId} {sz sz' n n' : Nat} {v v' : Value} {xs xs' : List Value} (h : w.ownsRow B e sz v n xs) (h' : w.ownsRow B' e' sz' v' n' xs') (hne : e ≠ e') {g : Nat} (hg : v.ownBlock = some g) : v'.ownBlock ≠ some g := by
  intro hg'
  rcases h.2 with ⟨rfl, _⟩ | ⟨g1, cap, cur, rfl, _, hh, _⟩
  · simp [Value.ownBlock] at hg
  · rcases h'.2 with ⟨rfl, _⟩ | ⟨g2, cap2, cur2, rfl, _, hh2, _⟩
    · simp [Value.ownBlock] at hg'
    · simp only [Value.ownBlock, Option.some.injEq] at hg hg'
      subst hg; subst hg'
      rw [hh] at hh2
      injection hh2 with h1
      injection h1 with _ h2
      exact hne h2
/-- The group's function stays, whatever becomes of the net's own two blocks. -/
theorem InF.past {w w' : World} {B b n : Nat} {f v : Value} {grp : List Int} {cs xs : List Value} (h : InF w B f grp) (hc : Cells w b 57 cs) (ho' : w.ownsRow B 37 3 v n xs) (ho : Only (b :: rb v) w w') : InF w' B f grp := by
  rcases h with h | ⟨c, gv, hf, hB, hC, hr, hl⟩
  · exact .inl h
  · refine .inr ⟨c, gv, hf, hB, hC.only ho fun hm => ?_, own_keep hr ho fun x hx => ?_, hl⟩
    · rcases List.mem_cons.1 hm with e | hm
      · exact (hC.ne hc (by decide)) e
      · exact own_ne_block ho' hC (by decide) (by simpa [rb] using hm)
    · rcases List.mem_cons.1 hx with rfl | hx
      · exact own_ne_block hr hc (by decide)
      · exact own_own_ne ho' hr (by decide) (by simpa [rb] using hx)
theorem NetV.ges {w : World} {B b : Nat} {v f : Value} {s : NS} (h : NetV w B b v f s) : ∀ x, x ∈ b :: rb v → B ≤ x := by
  intro x hx
  rcases List.mem_cons.1 hx with rfl | hx
  · exact h.ge
  · exact (h.own.lt x (by simpa [rb] using hx)).1
theorem ltL_drop (l : List Lt) : ∀ k, (ltL l).drop (k * 3) = ltL (l.drop k) := by
  induction l with
  | nil => intro k; simp [ltL]
  | cons x l ih =>
    intro k
    cases k with
    | zero => simp
    | succ k =>
      rw [show (k + 1) * 3 = 3 + k * 3 from by omega, show ltL (x :: l) = x.cells ++ ltL l from rfl, List.drop_append]
      rw [show List.drop (3 + k * 3) x.cells = [] from List.drop_eq_nil_of_le (by rw [Lt.cells_length]; omega), Lt.cells_length, show 3 + k * 3 - 3 = k * 3 from by omega, List.nil_append, List.drop_succ_cons, ih]
theorem ltL_take (l : List Lt) : ∀ k, (ltL l).take (k * 3) = ltL (l.take k) := by
  induction l with
  | nil => intro k; simp [ltL]
  | cons x l ih =>
    intro k
    cases k with
    | zero => simp [ltL]
    | succ k =>
      rw [show (k + 1) * 3 = 3 + k * 3 from by omega, show ltL (x :: l) = x.cells ++ ltL l from rfl, List.take_append]
      rw [show List.take (3 + k * 3) x.cells = x.cells from List.take_of_length_le (by rw [Lt.cells_length]; omega), Lt.cells_length, show 3 + k * 3 - 3 = k * 3 from by omega, ih, List.take_succ_cons]
      rfl
theorem ltL_erase (l : List Lt) (k : Nat) : (ltL l).take (k * 3) ++ (ltL l).drop ((k + 1) * 3) = ltL (l.eraseIdx k) := by
  rw [List.eraseIdx_eq_take_drop_succ, ltL_append, ltL_take, ltL_drop]
def NS.out (s : NS) (k : Nat) : NS := ⟨s.l.eraseIdx k, s.grp, s.lost⟩
set_option maxRecDepth 100000 in
set_option maxHeartbeats 1000000 in
theorem net_out (B b k : Nat) (v f : Value) (s : NS) (x : Lt) (w : World) (h : NetV w B b v f s) (hk : k < s.l.length) (hx : s.l[k]? = some x) :
    Calls Try.prog 38 #[.pointer (some ⟨b, 0, none⟩), .int .i64 k] w fun e w' => e = .returned x.val ∧ ∃ v', NetV w' B b v' f (s.out k) ∧ Only (b :: rb v) w w' ∧ rb v' = rb v := by
  obtain ⟨g, cap, cs, rfl, hg, hC, hn, hcm, hcl, htk⟩ := own_block h.own (by omega)
  have hne : b ≠ g := h.cells.ne hC (by decide)
  have c0 := h.cells.cell (k := 0) rfl
  have f0 := h.cells.frozen 0
  have hbl := h.cells.lt
  have hgl := hC.lt
  have hl300 := h.len
  have hxc : ∀ j u, j < 3 → x.cells[j]? = some u → w.cell? ⟨g, k * 3 + j, none⟩ = some u := fun j u hj hu => hC.cell (by
    have := ltL_get s.l k j x hx hj
    rw [← htk, List.getElem?_take_of_lt (by omega)] at this
    rw [this]; exact hu)
  have q0 := hxc 0 _ (by omega) rfl
  have q1 := hxc 1 _ (by omega) rfl
  have q2 := hxc 2 _ (by omega) rfl
  simp only [Nat.add_zero] at q0
  have hk' : (k : Int) < (s.l.length : Int) := by omega
  have hk3 : (k : Int) ≤ 300 := by omega
  have HH := Lib.hid h
  have HC := Lib.hid hC
  have CD : Hid (∀ w', Cells w' g 37 cs → Calls Try.prog 42 #[.slice (some ⟨g, 0, none⟩) s.l.length cap, .int .i64 k, .int .i64 ((k : Int) + 1)] w' fun e w2 => e = .returned (.slice (some ⟨g, 0, none⟩) (s.l.length - 1) cap) ∧ ∃ cs', Cells w2 g 37 cs' ∧ cs'.length = cap * 3 ∧ cs'.take ((s.l.length - 1) * 3) = ltL (s.l.eraseIdx k) ∧ Only [g] w' w2) := fun w' hC' => by
    have := delete_let g cap s.l.length k (k + 1) cs w' hC' hcl hn hcm (by omega) (by omega) (by rw [htk]; exact ltL_one _)
    rw [show k + 1 - k = 1 from by omega] at this
    refine this.mono ?_
    rintro e w2 ⟨rfl, cs', h1, h2, h3, h4⟩
    refine ⟨rfl, cs', h1, h2, ?_, h4⟩
    rw [h3, htk, show cs.take (k * 3) = (ltL s.l).take (k * 3) from by rw [← htk, List.take_take, Nat.min_eq_left (by omega)], ltL_erase]
  clear h hC hxc
  go_enter Try.func38, Try.ntmps38
  go_wp2_with fail
  have hoA : Only [] w ((w.alloc (.cells #[.int .i64 0, .int .i64 0, .string ⟨#[]⟩] 37)).alloc (.cells #[.int .i64 x.fr, .int .i64 x.to, .string x.d] 37)) := ((Only.refl _ _).alloc _).alloc _
  have hA0 : Cells ((w.alloc (.cells #[.int .i64 0, .int .i64 0, .string ⟨#[]⟩] 37)).alloc (.cells #[.int .i64 x.fr, .int .i64 x.to, .string x.d] 37)) w.heap.size 37 [.int .i64 0, .int .i64 0, .string ⟨#[]⟩] := (Cells.new _ _ _).alloc _
  have hA1 : Cells ((w.alloc (.cells #[.int .i64 0, .int .i64 0, .string ⟨#[]⟩] 37)).alloc (.cells #[.int .i64 x.fr, .int .i64 x.to, .string x.d] 37)) (w.heap.size + 1) 37 [.int .i64 x.fr, .int .i64 x.to, .string x.d] := by
    have := Cells.new (w.alloc (.cells #[.int .i64 0, .int .i64 0, .string ⟨#[]⟩] 37)) 37 [.int .i64 x.fr, .int .i64 x.to, .string x.d]
    simpa using this
  obtain ⟨W0, hW0⟩ : ∃ W0, (w.alloc (.cells #[.int .i64 0, .int .i64 0, .string ⟨#[]⟩] 37)).alloc (.cells #[.int .i64 x.fr, .int .i64 x.to, .string x.d] 37) = W0 := ⟨_, rfl⟩
  rw [hW0] at hoA hA0 hA1 ⊢
  obtain ⟨z, hz⟩ : ∃ z, w.heap.size = z := ⟨_, rfl⟩
  have HZ := Lib.hid hz
  rw [hz] at hA0 hA1 hbl hgl ⊢
  clear hW0 hz q0 q1 q2
  refine (CD.out _ (HC.out.only hoA (by simp))).mono ?_
  rintro e w1 ⟨rfl, cs', hC1, hl1, ht1, ho1⟩
  have hzg : z ≠ g := by omega
  have hzg1 : z + 1 ≠ g := by omega
  have hbz : b ≠ z := by omega
  have hbz1 : b ≠ z + 1 := by omega
  have hB1 := (HH.out.cells.only hoA (by simp)).only ho1 (by simpa using hne)
  have hX0 := hA0.only ho1 (by simpa using hzg)
  have hX1 := hA1.only ho1 (by simpa using hzg1)
  have r0 := hB1.cell (k := 0) rfl
  have rf := hB1.frozen 0
  have x0 := hX1.cell (k := 0) rfl
  have x1 := hX1.cell (k := 1) rfl
  have x2 := hX1.cell (k := 2) rfl
  have y0 := hX0.cell (k := 0) rfl
  have y1 := hX0.cell (k := 1) rfl
  have y2 := hX0.cell (k := 2) rfl
  have g0 := hX0.frozen 0
  have g1 := hX0.frozen 1
  have g2 := hX0.frozen 2
  have zl := hX0.lt
  have HoA := Lib.hid hoA
  have Ho1 := Lib.hid ho1
  have HB1 := Lib.hid hB1
  have HC1 := Lib.hid hC1
  have HT1 := Lib.hid ht1
  clear hoA ho1 hB1 hC1 ht1 hX0 hX1 hA0 hA1 CD
  go_wp2_with fail
  have hlen1 : (s.l.eraseIdx k).length = s.l.length - 1 := by rw [List.length_eraseIdx, if_pos hk]
  have hOF : Only (b :: rb (.slice (some ⟨g, 0, none⟩) s.l.length cap)) w ((((w1.setCell ⟨b, 0, none⟩ (.slice (some ⟨g, 0, none⟩) (s.l.length - 1) cap)).setCell ⟨z, 0, none⟩ (.int .i64 x.fr)).setCell ⟨z, 1, none⟩ (.int .i64 x.to)).setCell ⟨z, 2, none⟩ (.string x.d)) :=
    ((((HoA.out.of0.trans Ho1.out (fun y hy => .inl (by simp at hy; subst hy; simp [rb, Value.ownBlock]))).setCell (p := ⟨b, 0, none⟩) (.inl (by simp)) _).setCell (p := ⟨z, 0, none⟩) (.inr (Nat.le_of_eq HZ.out)) _).setCell (p := ⟨z, 1, none⟩) (.inr (Nat.le_of_eq HZ.out)) _).setCell (p := ⟨z, 2, none⟩) (.inr (Nat.le_of_eq HZ.out)) _
  have hgz := Ne.symm hzg
  refine bodyPost_ret (v := x.val) (by simp [results, Try.results38, go_sem, Lt.val, *]) rfl ⟨rfl, .slice (some ⟨g, 0, none⟩) (s.l.length - 1) cap, ⟨HH.out.ge, ?_, ?_, ?_, ?_⟩, hOF, rfl⟩
  · exact (((HB1.out.set 0 _).far (p := ⟨z, 0, none⟩) hbz _).far (p := ⟨z, 1, none⟩) hbz _).far (p := ⟨z, 2, none⟩) hbz _
  · show World.ownsRow _ _ _ _ _ (s.l.eraseIdx k).length (ltL (s.l.eraseIdx k))
    rw [hlen1]
    exact block_own hg ((((HC1.out.far (p := ⟨b, 0, none⟩) (Ne.symm hne) _).far (p := ⟨z, 0, none⟩) hgz _).far (p := ⟨z, 1, none⟩) hgz _).far (p := ⟨z, 2, none⟩) hgz _) (by omega) hcm hl1 HT1.out
  · exact HH.out.inf.past HH.out.cells HH.out.own hOF
  · show (s.l.eraseIdx k).length ≤ 300
    omega
end Go.Proofs.Ytllapfpakoobcaa
