/-
  Chapter 6: package net: Late, Take, Split, Whole, New, Lost, Flight.
-/
import Derived.Test.YtllapfpakoobcaaNet4
import Derived.Deep.AppendLies
import Derived.Deep.RegionHeld3
namespace Go.Proofs.Ytllapfpakoobcaa
open Go.RowKit
theorem lit3 {w : World} {b : Nat} {t : TypeId} {x y z : Value} (h : Cells w b t [x, y, z]) : ∀ j u, [x, y, z][j]? = some u → w.cell? ((⟨b, 0, none⟩ : Addr).add j) = some u := fun j u hu => by
  rw [Addr.add_lit, Nat.zero_add]; exact h.cell hu
set_option maxRecDepth 100000 in
theorem net_late_out (B b : Nat) (k : Int) (v f : Value) (s : NS) (w : World) (h : NetV w B b v f s) (hk : k < 0 ∨ (s.l.length : Int) ≤ k) :
    Calls Try.prog 24 #[.pointer (some ⟨b, 0, none⟩), .int .i64 k] w fun e w' => e = .returned (.bool false) ∧ w = w' := by
  have CI := Lib.hid (net_is_out B b k v f s w h hk)
  clear h hk
  go_enter Try.func24, Try.ntmps24
  go_wp2_with fail
  refine CI.out.mono ?_
  rintro e w1 ⟨rfl, rfl⟩
  go_wp2_with fail
  go_ret
  exact ⟨rfl, rfl⟩
set_option maxRecDepth 100000 in
set_option maxHeartbeats 2000000 in
theorem net_late_in (B b k : Nat) (v f : Value) (s : NS) (x : Lt) (w : World) (h : NetV w B b v f s) (hk : k < s.l.length) (hx : s.l[k]? = some x) :
    Calls Try.prog 24 #[.pointer (some ⟨b, 0, none⟩), .int .i64 k] w fun e w' => e = .returned (.bool true) ∧ ∃ v', NetV w' B b v' f ⟨s.l.eraseIdx k ++ [x], s.grp, s.lost⟩ ∧ Only (b :: rb v) w w' ∧ NewOf w v v' := by
  obtain ⟨i0, hi0, hz0, hz1, hz2⟩ := info_parts info_let
  have CI := Lib.hid (net_is_in B b k v f s w h hk)
  have CO := Lib.hid (net_out B b k v f s x w h hk hx)
  have hk' : (k : Int) < s.l.length := by omega
  have hl300 := h.len
  have hlen : (s.l.eraseIdx k).length = s.l.length - 1 := by rw [List.length_eraseIdx, if_pos hk]
  have HL := Lib.hid hlen
  clear h hlen
  unfold Lt.val at CO
  go_enter Try.func24, Try.ntmps24
  go_wp2_with fail
  refine CI.out.mono ?_
  rintro e w1 ⟨rfl, rfl⟩
  go_wp2_with fail
  refine CO.out.mono ?_
  rintro e w1 ⟨rfl, v1, h1, ho1, hrb⟩
  have hoA : Only [] w1 (w1.alloc (.cells #[.int .i64 x.fr, .int .i64 x.to, .string x.d] 37)) := (Only.refl _ _).alloc _
  have hX := Cells.new w1 37 [.int .i64 x.fr, .int .i64 x.to, .string x.d]
  have hN := h1.only hoA
  have hnz : v1.ownBlock ≠ some w1.heap.size := fun hh => by have := (h1.own.lt _ hh).2; omega
  have hWs : (w1.alloc (.cells #[.int .i64 x.fr, .int .i64 x.to, .string x.d] 37)).heap.size = w1.heap.size + 1 := by simp
  clear h1
  go_wp2_with fail
  obtain ⟨W0, hW0⟩ : ∃ W0, w1.alloc (.cells #[.int .i64 x.fr, .int .i64 x.to, .string x.d] 37) = W0 := ⟨_, rfl⟩
  obtain ⟨z, hz⟩ : ∃ z, w1.heap.size = z := ⟨_, rfl⟩
  rw [hW0] at hoA hX hN hWs ⊢
  have HZ := Lib.hid hz
  rw [hz] at hX hWs hnz ⊢
  clear hW0
  obtain ⟨A, vc, hv⟩ := hN.shape
  rw [show (s.out k).l.length = s.l.length - 1 from HL.out] at hv
  subst hv
  have r0 := hN.cells.cell (k := 0) rfl
  have rf := hN.cells.frozen 0
  have rl := hN.cells.lt
  have x0 := hX.cell (k := 0) rfl
  have x1 := hX.cell (k := 1) rfl
  have x2 := hX.cell (k := 2) rfl
  have hown := hN.own
  rw [show (s.out k).l.length = s.l.length - 1 from HL.out] at hown
  have HN := Lib.hid hN
  have HO := Lib.hid hown
  have hBW : B ≤ W0.heap.size := by have := hN.ge; omega
  have hne : (Value.slice A (s.l.length - 1) vc).ownBlock ≠ some b := own_ne_block hN.own hN.cells (by decide)
  have HLit : Hid (Cells (W0.alloc (.cells #[.int .i64 x.fr, .int .i64 x.to, .string x.d] 37)) (z + 1) 37 [.int .i64 x.fr, .int .i64 x.to, .string x.d]) := by
    show Cells _ _ _ _
    rw [← hWs]; exact Cells.new W0 _ _
  have HX := Lib.hid hX
  clear hN hX hown
  have rn : b ≠ W0.heap.size := Nat.ne_of_lt rl
  have rn2 : b < W0.heap.size := rl
  have rz : z < W0.heap.size := by omega
  have rn3 : b ≠ z + 1 := by omega
  have rn4 : b < z + 1 := by omega
  go_region_law (first
    | (go_loud (refine step_append_lies _ (by rfl) _ _ 46 (by rfl) B 37 i0 _ 3 32 Try.underlying46 hi0 hz0 hz1 hz2 rfl (by omega) (.slice A (s.l.length - 1) vc) (s.l.length - 1) (ltL (s.l.eraseIdx k)) (by rfl) (by first | exact HO.out.alloc _ | exact (HO.out.alloc _).drew | exact HO.out.drew.alloc _) ⟨z + 1, 0, none⟩ 1 1 [.int .i64 x.fr, .int .i64 x.to, .string x.d] (by rfl) (by rfl) (by first | exact lit3 HLit.out | exact lit3 HLit.out.drew) (by simp [Value.oneCell']) (by omega) (by unfold maxLen; omega) (by omega) (by simp; omega) (z + 2) (by simp [hWs]) ?_); intro g cap w5 hown5 hgrow hat hgl1; have hb3 : Cells w5 b 57 _ := Cells.grown (by first | exact HN.out.cells.alloc _ | exact (HN.out.cells.alloc _).drew | exact HN.out.cells.drew.alloc _) hgrow hne; have s0 := hb3.cell (k := 0) rfl; have s1 := hb3.frozen 0; have hz3 : Cells w5 z 37 _ := Cells.grown (by first | exact HX.out.alloc _ | exact (HX.out.alloc _).drew | exact HX.out.drew.alloc _) hgrow hnz; have t0 := hz3.cell (k := 0) rfl; have t1 := hz3.cell (k := 1) rfl; have t2 := hz3.cell (k := 2) rfl))
  all_goals
    have hl1 : (s.l.eraseIdx k ++ [x]).length = s.l.length - 1 + 1 := by rw [List.length_append, HL.out]; rfl
    have hN2 : NetV _ B b (.slice A (s.l.length - 1) vc) f (s.out k) := HN.out.only (((Only.refl [] W0).alloc (.cells #[.int .i64 x.fr, .int .i64 x.to, .string x.d] 37)).drew)
    have hr9 : w5.ownsRow B 37 3 (.slice (some ⟨g, 0, none⟩) (s.l.length - 1 + 1) cap) (s.l.eraseIdx k ++ [x]).length (ltL (s.l.eraseIdx k ++ [x])) := by
      rw [hl1, ltL_append]; exact hown5
    have hres := hN2.grown hr9 hgrow (by rw [hl1]; omega) (by simp; omega)
    have hoF : Only (b :: rb v) w (w5.setCell ⟨b, 0, none⟩ (.slice (some ⟨g, 0, none⟩) (s.l.length - 1 + 1) cap)) := by
      have h2 := hres.2
      rw [hrb] at h2
      exact (ho1.tr0 ((hoA.alloc (.cells #[.int .i64 x.fr, .int .i64 x.to, .string x.d] 37)).drew)).tr h2
    have HFI := Lib.hid hres.1
    clear hres hN2 hr9
    go_wp2_with fail
    go_ret
    have hw1z : w.heap.size ≤ z := by rw [← HZ.out]; exact ho1.size
    refine ⟨rfl, _, HFI.out, hoF, fun g' hg' => ?_⟩
    have hg2 : g = g' := by simpa [Value.ownBlock] using hg'
    subst hg2
    rcases hat with h | h
    · exact NewOf.of_rb (w := w) hrb g h
    · exact .inr (by omega)
/-- A letter of one's own elsewhere is no part of the net. -/
theorem NetV.off {w w' : World} {B b z : Nat} {v f : Value} {s : NS} {cs : List Value} (h : NetV w B b v f s) (hz : Cells w z 37 cs) (hv : v.ownBlock ≠ some z) (ho : Only [z] w w') : NetV w' B b v f s := by
  refine ⟨h.ge, h.cells.only ho (by simpa using h.cells.ne hz (by decide)), own_keep h.own ho (fun x hx => by simp at hx; subst hx; exact hv), ?_, h.len⟩
  rcases h.inf with h | ⟨c, gv, hf, hB, hC, hr, hl⟩
  · exact .inl h
  · exact .inr ⟨c, gv, hf, hB, hC.only ho (by simpa using hC.ne hz (by decide)), own_keep hr ho (fun x hx => by simp at hx; subst hx; exact own_ne_block hr hz (by decide)), hl⟩
def NS.late (s : NS) (k : Int) : NS × Bool := match s.at k with
  | some x => (⟨s.l.eraseIdx k.toNat ++ [x], s.grp, s.lost⟩, true)
  | none => (s, false)
theorem net_late (B b : Nat) (k : Int) (v f : Value) (s : NS) (w : World) (h : NetV w B b v f s) :
    Calls Try.prog 24 #[.pointer (some ⟨b, 0, none⟩), .int .i64 k] w fun e w' => e = .returned (.bool (s.late k).2) ∧ ∃ v', NetV w' B b v' f (s.late k).1 ∧ Only (b :: rb v) w w' ∧ NewOf w v v' := by
  cases hx : s.at k with
  | none =>
    rw [show s.late k = (s, false) from by unfold NS.late; rw [hx]]
    exact (net_late_out B b k v f s w h (NS.at_out hx)).mono fun e w' ⟨h1, h2⟩ => by subst h2; exact ⟨h1, v, h, Only.refl _ _, NewOf.refl _ _⟩
  | some x =>
    obtain ⟨j, rfl, hj, hx'⟩ := NS.at_in hx
    rw [show s.late j = (⟨s.l.eraseIdx j ++ [x], s.grp, s.lost⟩, true) from by unfold NS.late; rw [hx]; rfl]
    exact net_late_in B b j v f s x w h hj hx'
def Lt.zero : Lt := ⟨0, 0, ⟨#[]⟩⟩
def Lt.res (x : Lt) (ok : Bool) : Value := .tuple #[.agg #[.int .i64 x.fr, .int .i64 x.to, .string x.d], .bool ok]
set_option maxRecDepth 100000 in
set_option maxHeartbeats 1000000 in
theorem net_take_out (B b : Nat) (k : Int) (v f : Value) (s : NS) (w : World) (h : NetV w B b v f s) (hk : k < 0 ∨ (s.l.length : Int) ≤ k) :
    Calls Try.prog 22 #[.pointer (some ⟨b, 0, none⟩), .int .i64 k] w fun e w' => e = .returned (Lt.zero.res false) ∧ Only [] w w' := by
  have hoA : Only [] w (w.alloc (.cells #[.int .i64 0, .int .i64 0, .string ⟨#[]⟩] 37)) := (Only.refl _ _).alloc _
  have CI := Lib.hid (fun w' (ho : Only [] w w') => net_is_out B b k v f s w' (h.only ho) hk)
  have hX : Hid (Cells (w.alloc (.cells #[.int .i64 0, .int .i64 0, .string ⟨#[]⟩] 37)) w.heap.size 37 [.int .i64 0, .int .i64 0, .string ⟨#[]⟩]) := Cells.new _ _ _
  clear h hk
  go_enter Try.func22, Try.ntmps22
  go_wp2_with fail
  refine wp_region_only _ (Only.refl _ _) (by kernel_rfl) (by kernel_rfl) ?_
  repeat (go_big_quiet_step ((go_at_call 37; refine Calls.only_same (CI.out _ (hoA.tr (Since.h _))))))
  refine wpQuiet_nil ?_
  rintro ⟨w1, ho1⟩
  dsimp only
  have hX1 := hX.out.only ho1 (by simp)
  have x0 := hX1.cell (k := 0) rfl
  have x1 := hX1.cell (k := 1) rfl
  have x2 := hX1.cell (k := 2) rfl
  have f0 := hX1.frozen 0
  have f1 := hX1.frozen 1
  have f2 := hX1.frozen 2
  have hl := hX1.lt
  have hoB := hoA.tr ho1
  clear hX1 ho1 hoA hX CI
  go_wp2_with fail
  exact bodyPost_ret (v := Lt.zero.res false) (by simp [results, Try.results22, go_sem, Lt.res, Lt.zero, *]) rfl ⟨rfl, ((hoB.setCell (p := ⟨w.heap.size, 0, none⟩) (.inr (Nat.le_refl _)) _).setCell (p := ⟨w.heap.size, 1, none⟩) (.inr (Nat.le_refl _)) _).setCell (p := ⟨w.heap.size, 2, none⟩) (.inr (Nat.le_refl _)) _⟩
set_option maxRecDepth 100000 in
set_option maxHeartbeats 2000000 in
theorem net_take_apart (B b k : Nat) (v f : Value) (s : NS) (x : Lt) (w : World) (h : NetV w B b v f s) (hk : k < s.l.length) (hx : s.l[k]? = some x) (ha : s.apart x.fr x.to = true) :
    Calls Try.prog 22 #[.pointer (some ⟨b, 0, none⟩), .int .i64 k] w fun e w' => e = .returned (Lt.zero.res false) ∧ Only [] w w' := by
  have hoA : Only [] w (w.alloc (.cells #[.int .i64 0, .int .i64 0, .string ⟨#[]⟩] 37)) := (Only.refl _ _).alloc _
  have CI := Lib.hid (fun w' (ho : Only [] w w') => net_is_in B b k v f s w' (h.only ho) hk)
  have CA : Hid (∀ w', Only [] w w' → Calls Try.prog 19 #[.pointer (some ⟨b, 0, none⟩), .int .i64 x.fr, .int .i64 x.to] w' fun e w2 => e = .returned (.bool true) ∧ Only [] w' w2) := fun w' ho => by rw [← ha]; exact net_apart B b v f s x.fr x.to w' (h.only ho)
  have hX : Hid (Cells (w.alloc (.cells #[.int .i64 0, .int .i64 0, .string ⟨#[]⟩] 37)) w.heap.size 37 [.int .i64 0, .int .i64 0, .string ⟨#[]⟩]) := Cells.new _ _ _
  obtain ⟨g, cap, hv, c0, q0, q1, q2, hg⟩ := let_cells h hx
  have hk' : (k : Int) < s.l.length := by omega
  have hl300 := h.len
  have d0 := fun u : Since (w.alloc (.cells #[.int .i64 0, .int .i64 0, .string ⟨#[]⟩] 37)) => (Since.mk u.w (hoA.tr u.h)).cell c0
  have d1 := fun u : Since (w.alloc (.cells #[.int .i64 0, .int .i64 0, .string ⟨#[]⟩] 37)) => (Since.mk u.w (hoA.tr u.h)).cell q0
  have d2 := fun u : Since (w.alloc (.cells #[.int .i64 0, .int .i64 0, .string ⟨#[]⟩] 37)) => (Since.mk u.w (hoA.tr u.h)).cell q1
  clear h c0 q0 q1 q2 ha
  go_enter Try.func22, Try.ntmps22
  go_wp2_with fail
  refine wp_region_only _ (Only.refl _ _) (by kernel_rfl) (by kernel_rfl) ?_
  repeat (go_big_quiet_step (first
    | (go_at_call 37; refine Calls.only_same (CI.out _ (hoA.tr (Since.h _))))
    | (go_at_call 19; refine Calls.only (CA.out _ (hoA.tr (Since.h _))))))
  refine wpQuiet_nil ?_
  rintro ⟨w1, ho1⟩
  dsimp only
  have hX1 := hX.out.only ho1 (by simp)
  have x0 := hX1.cell (k := 0) rfl
  have x1 := hX1.cell (k := 1) rfl
  have x2 := hX1.cell (k := 2) rfl
  have f0 := hX1.frozen 0
  have f1 := hX1.frozen 1
  have f2 := hX1.frozen 2
  have hl := hX1.lt
  have hoB := hoA.tr ho1
  clear hX1 ho1 hoA hX CI CA d0 d1 d2
  go_wp2_with fail
  exact bodyPost_ret (v := Lt.zero.res false) (by simp [results, Try.results22, go_sem, Lt.res, Lt.zero, *]) rfl ⟨rfl, ((hoB.setCell (p := ⟨w.heap.size, 0, none⟩) (.inr (Nat.le_refl _)) _).setCell (p := ⟨w.heap.size, 1, none⟩) (.inr (Nat.le_refl _)) _).setCell (p := ⟨w.heap.size, 2, none⟩) (.inr (Nat.le_refl _)) _⟩
set_option maxRecDepth 100000 in
set_option maxHeartbeats 2000000 in
theorem net_take_in (B b k : Nat) (v f : Value) (s : NS) (x : Lt) (w : World) (h : NetV w B b v f s) (hk : k < s.l.length) (hx : s.l[k]? = some x) (ha : s.apart x.fr x.to = false) :
    Calls Try.prog 22 #[.pointer (some ⟨b, 0, none⟩), .int .i64 k] w fun e w' => e = .returned (x.res true) ∧ ∃ v', NetV w' B b v' f (s.out k) ∧ Only (b :: rb v) w w' ∧ rb v' = rb v := by
  have hoA : Only [] w (w.alloc (.cells #[.int .i64 0, .int .i64 0, .string ⟨#[]⟩] 37)) := (Only.refl _ _).alloc _
  have CI := Lib.hid (fun w' (ho : Only [] w w') => net_is_in B b k v f s w' (h.only ho) hk)
  have CA : Hid (∀ w', Only [] w w' → Calls Try.prog 19 #[.pointer (some ⟨b, 0, none⟩), .int .i64 x.fr, .int .i64 x.to] w' fun e w2 => e = .returned (.bool false) ∧ Only [] w' w2) := fun w' ho => by rw [← ha]; exact net_apart B b v f s x.fr x.to w' (h.only ho)
  have CO := Lib.hid (fun w' (ho : Only [] w w') => net_out B b k v f s x w' (h.only ho) hk hx)
  unfold Lt.val at CO
  have hX : Hid (Cells (w.alloc (.cells #[.int .i64 0, .int .i64 0, .string ⟨#[]⟩] 37)) w.heap.size 37 [.int .i64 0, .int .i64 0, .string ⟨#[]⟩]) := Cells.new _ _ _
  obtain ⟨g, cap, hv, c0, q0, q1, q2, hg⟩ := let_cells h hx
  have hk' : (k : Int) < s.l.length := by omega
  have hl300 := h.len
  have d0 := fun u : Since (w.alloc (.cells #[.int .i64 0, .int .i64 0, .string ⟨#[]⟩] 37)) => (Since.mk u.w (hoA.tr u.h)).cell c0
  have d1 := fun u : Since (w.alloc (.cells #[.int .i64 0, .int .i64 0, .string ⟨#[]⟩] 37)) => (Since.mk u.w (hoA.tr u.h)).cell q0
  have d2 := fun u : Since (w.alloc (.cells #[.int .i64 0, .int .i64 0, .string ⟨#[]⟩] 37)) => (Since.mk u.w (hoA.tr u.h)).cell q1
  have hnz : ∀ y, y ∈ b :: rb v → y ≠ w.heap.size := fun y hy => by
    rcases List.mem_cons.1 hy with rfl | hy
    · exact Nat.ne_of_lt h.cells.lt
    · exact Nat.ne_of_lt (h.own.lt y (by simpa [rb] using hy)).2
  have HNZ := Lib.hid hnz
  clear h c0 q0 q1 q2 ha hnz
  go_enter Try.func22, Try.ntmps22
  go_wp2_with fail
  refine wp_region_only _ (Only.refl _ _) (by kernel_rfl) (by kernel_rfl) ?_
  repeat (go_big_quiet_step (first
    | (go_at_call 37; refine Calls.only_same (CI.out _ (hoA.tr (Since.h _))))
    | (go_at_call 19; refine Calls.only (CA.out _ (hoA.tr (Since.h _))))))
  refine wpQuiet_nil ?_
  rintro ⟨w1, ho1⟩
  dsimp only
  clear d0 d1 d2
  go_wp2_with fail
  refine (CO.out _ (hoA.tr ho1)).mono ?_
  rintro e w2 ⟨rfl, v2, h2, ho2, hrb⟩
  have hvz : v2.ownBlock ≠ some w.heap.size := fun hh => by
    have : w.heap.size ∈ rb v2 := by simp [rb, hh]
    rw [hrb] at this
    exact HNZ.out _ (List.mem_cons_of_mem _ this) rfl
  have hX1 := (hX.out.only ho1 (by simp)).only ho2 (fun hm => HNZ.out _ hm rfl)
  have x0 := hX1.cell (k := 0) rfl
  have x1 := hX1.cell (k := 1) rfl
  have x2 := hX1.cell (k := 2) rfl
  have f0 := hX1.frozen 0
  have f1 := hX1.frozen 1
  have f2 := hX1.frozen 2
  have hl := hX1.lt
  have H2 := Lib.hid h2
  have hoB := (hoA.tr ho1).of0.tr ho2
  have HX1 := Lib.hid hX1
  have hbz : b ≠ w.heap.size := HNZ.out b (by simp)
  clear hX1 ho1 hoA hX CI CA CO h2
  go_wp2_with fail
  have hoZ : Only [w.heap.size] w2 (((w2.setCell ⟨w.heap.size, 0, none⟩ (.int .i64 x.fr)).setCell ⟨w.heap.size, 1, none⟩ (.int .i64 x.to)).setCell ⟨w.heap.size, 2, none⟩ (.string x.d)) :=
    (((Only.refl _ _).setCell (.inl (by simp)) _).setCell (.inl (by simp)) _).setCell (.inl (by simp)) _
  have hF := H2.out.off HX1.out hvz hoZ
  have HRB := Lib.hid hrb
  clear hrb
  exact bodyPost_ret (v := x.res true) (by simp [results, Try.results22, go_sem, Lt.res, *]) rfl ⟨rfl, v2, hF, hoB.trans hoZ (fun y hy => .inr (by simp at hy; omega)), HRB.out⟩
def NS.take (s : NS) (k : Int) : NS × Lt × Bool := match s.at k with
  | some x => if s.apart x.fr x.to then (s, Lt.zero, false) else (s.out k.toNat, x, true)
  | none => (s, Lt.zero, false)
theorem net_take (B b : Nat) (k : Int) (v f : Value) (s : NS) (w : World) (h : NetV w B b v f s) :
    Calls Try.prog 22 #[.pointer (some ⟨b, 0, none⟩), .int .i64 k] w fun e w' => e = .returned ((s.take k).2.1.res (s.take k).2.2) ∧ ∃ v', NetV w' B b v' f (s.take k).1 ∧ Only (b :: rb v) w w' ∧ rb v' = rb v := by
  cases hx : s.at k with
  | none =>
    rw [show s.take k = (s, Lt.zero, false) from by unfold NS.take; rw [hx]]
    exact (net_take_out B b k v f s w h (NS.at_out hx)).mono fun e w' ⟨h1, h2⟩ => ⟨h1, v, h.only h2, h2.of0, rfl⟩
  | some x =>
    obtain ⟨j, rfl, hj, hx'⟩ := NS.at_in hx
    cases ha : s.apart x.fr x.to with
    | true =>
      rw [show s.take j = (s, Lt.zero, false) from by unfold NS.take; rw [hx]; dsimp only; rw [ha]; rfl]
      exact (net_take_apart B b j v f s x w h hj hx' ha).mono fun e w' ⟨h1, h2⟩ => ⟨h1, v, h.only h2, h2.of0, rfl⟩
    | false =>
      rw [show s.take j = (s.out j, x, true) from by unfold NS.take; rw [hx]; dsimp only; rw [ha]; rfl]
      exact net_take_in B b j v f s x w h hj hx' ha
end Go.Proofs.Ytllapfpakoobcaa
