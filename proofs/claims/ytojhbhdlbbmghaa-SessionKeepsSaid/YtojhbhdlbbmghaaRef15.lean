/-
  Chapter 15: the reference's table.
-/
import Derived.Test.YtojhbhdlbbmghaaPack15
import Derived.Test.YtojhbhdlbbmghaaApp
namespace Go.Proofs.Ytojhbhdlbbmghaa
open Go.RowKit
theorem info_rses : (Try.prog.info? 131).map (fun i => (i.zero, i.size, i.bytes)) = some (some (.agg #[.int .i64 0, .int .i64 0, .string .empty]), 3, 32) := by kernel_rfl
theorem own_base {w : World} {base base' : Nat} {e : TypeId} {sz n : Nat} {v : Value} {xs : List Value} (h : w.ownsRow base e sz v n xs) (hb : base' ≤ base) : w.ownsRow base' e sz v n xs := by
  obtain ⟨hl, h⟩ := h
  exact ⟨hl, h.imp_right fun ⟨g, cap, cur, hv, hg, r⟩ => ⟨g, cap, cur, hv, by omega, r⟩⟩
def RtV (w : World) (B b : Nat) (v : Value) (l : List Ses) (ever : Int) : Prop :=
  B ≤ b ∧ Cells w b 70 [v, .int .i64 ever] ∧ w.ownsRow B 131 3 v l.length (sesL l)
theorem sesL_append (l m : List Ses) : sesL (l ++ m) = sesL l ++ sesL m := by unfold sesL; rw [List.flatMap_append]
theorem sesL_len (l : List Ses) : (sesL l).length = l.length * 3 := flat_length Ses.cells 3 (fun _ => rfl) l
set_option maxRecDepth 100000 in
set_option maxHeartbeats 2000000 in
theorem rt_register (B b : Nat) (v : Value) (l : List Ses) (ever : Int) (w : World) (h : RtV w B b v l ever) (hl : l.length ≤ 8) (he : 0 ≤ ever ∧ ever ≤ 1000000000000) :
    Calls Try.prog 52 #[.pointer (some ⟨b, 0, none⟩)] w fun e w' => e = .returned (.int .i64 (ever + 1)) ∧ ∃ v', RtV w' B b v' (regL l ⟨ever + 1, 0, .empty⟩) (ever + 1) ∧ Only [b] w w' := by
  obtain ⟨i0, hi0, hz0, hz1, hz2⟩ := info_parts info_rses
  obtain ⟨hB, hc, hown⟩ := h
  have c0 := hc.cell (k := 0) rfl
  have c1 := hc.cell (k := 1) rfl
  have f0 := hc.frozen 0
  have f1 := hc.frozen 1
  have hlt := hc.lt
  obtain ⟨he0, he1⟩ := he
  obtain ⟨x, hx⟩ : ∃ x : Ses, x = ⟨ever + 1, 0, .empty⟩ := ⟨_, rfl⟩
  rw [← hx]
  have hxc : x.cells = [.int .i64 (ever + 1), .int .i64 0, .string .empty] := by rw [hx]; rfl
  by_cases h8 : l.length = 8
  case' pos =>
    obtain ⟨g, cap, cs, rfl, hg, hC, hn, hcm, hcl, htk⟩ := own_block hown (by omega)
    rw [h8] at htk hn c0 hc
    have hcm2 : cap ≤ 9223372036854775807 := by unfold maxLen at hcm; omega
    have hne : b ≠ g := hc.ne hC (by decide)
    have HR : Hid (regL l x = l.drop 1 ++ [x]) := by show _ = _; unfold regL; rw [if_pos h8]
    have hl' : (l.drop 1).length ≤ 8 := by simp; omega
    have hl1 : (l.drop 1).length = 7 := by simp; omega
    have hsrc : SrcA w (.slice (some ⟨g, 3, none⟩) 7 (cap - 1)) 3 (l.drop 1).length (sesL (l.drop 1)) := by
      rw [hl1]
      refine SrcA.piece hC (by rw [sesL_len, hl1]) (sesL_one _) fun j u hu => ?_
      have h1 := (sesL_take l 1 (by omega)).2
      rw [← h1, ← htk, List.getElem?_drop] at hu
      have hj : 1 * 3 + j < 8 * 3 := by
        rcases Nat.lt_or_ge (1 * 3 + j) (8 * 3) with h | h
        · exact h
        · rw [List.getElem?_eq_none (by rw [List.length_take]; omega)] at hu; cases hu
      rw [List.getElem?_take_of_lt hj] at hu
      exact hu
    have HC0 := Lib.hid ((hc.set 0 (.slice (some ⟨g, 3, none⟩) 7 (cap - 1))).set 1 (.int .i64 (ever + 1)))
    have ho0 : Only [b] w ((w.setCell ⟨b, 0, none⟩ (.slice (some ⟨g, 3, none⟩) 7 (cap - 1))).setCell ⟨b, 1, none⟩ (.int .i64 (ever + 1))) := ((Only.refl _ _).setCell (.inl (by simp)) _).setCell (.inl (by simp)) _
    have HS0 : Hid (SrcA ((w.setCell ⟨b, 0, none⟩ (.slice (some ⟨g, 3, none⟩) 7 (cap - 1))).setCell ⟨b, 1, none⟩ (.int .i64 (ever + 1))) (.slice (some ⟨g, 3, none⟩) 7 (cap - 1)) 3 (l.drop 1).length (sesL (l.drop 1))) := by
      obtain ⟨h1, h2, h3⟩ := hsrc
      refine ⟨h1, h2, h3.imp_right fun ⟨ad, c, e, h⟩ => ⟨ad, c, e, fun j u hu => ?_⟩⟩
      simp only [Value.slice.injEq, Option.some.injEq] at e
      obtain ⟨rfl, _⟩ := e
      have := h j u hu
      rw [Addr.add_lit] at this ⊢
      exact (ho0.cell (World.block_lt_of_cell? w _ this) (by simp; omega)).trans this
    clear hc hC hown hsrc htk
    go_enter Try.func52, Try.ntmps52
    go_wp2_with fail
    obtain ⟨W0, hW0⟩ : ∃ W0, (w.setCell ⟨b, 0, none⟩ (.slice (some ⟨g, 3, none⟩) 7 (cap - 1))).setCell ⟨b, 1, none⟩ (.int .i64 (ever + 1)) = W0 := ⟨_, rfl⟩
    obtain ⟨y, hy⟩ : ∃ y, Value.slice (some ⟨g, 3, none⟩) 7 (cap - 1) = y := ⟨_, rfl⟩
    obtain ⟨l', hll⟩ : ∃ l', l.drop 1 = l' := ⟨_, rfl⟩
    rw [hll] at HR hl' HS0
    rw [hW0] at HC0 ho0 HS0 ⊢
    rw [hy] at HS0 HC0 ⊢
    clear hW0 hy hll hl1
  case' neg =>
    have h8' : l.length < 8 := by omega
    have hs := SlAt.of_own hown
    obtain ⟨A, c, rfl⟩ := hs.shape
    have HR : Hid (regL l x = l ++ [x]) := by show _ = _; unfold regL; rw [if_neg h8]
    have hsrc : SrcA w (.slice A l.length c) 3 l.length (sesL l) := SrcA.own hown (sesL_one l)
    have HC0 := Lib.hid (hc.set 1 (.int .i64 (ever + 1)))
    have ho0 : Only [b] w (w.setCell ⟨b, 1, none⟩ (.int .i64 (ever + 1))) := (Only.refl _ _).setCell (.inl (by simp)) _
    have HS0 : Hid (SrcA (w.setCell ⟨b, 1, none⟩ (.int .i64 (ever + 1))) (.slice A l.length c) 3 l.length (sesL l)) :=
      SrcA.own (ownsRow_setCell_other hown (own_ne_block hown hc (by decide)) _) (sesL_one l)
    clear hc hown hsrc hs
    go_enter Try.func52, Try.ntmps52
    go_wp2_with fail
    obtain ⟨W0, hW0⟩ : ∃ W0, w.setCell ⟨b, 1, none⟩ (.int .i64 (ever + 1)) = W0 := ⟨_, rfl⟩
    obtain ⟨y, hy⟩ : ∃ y, Value.slice A l.length c = y := ⟨_, rfl⟩
    have hl' := hl
    obtain ⟨l', hll⟩ : ∃ l', l = l' := ⟨_, rfl⟩
    rw [hW0] at HC0 ho0 HS0 ⊢
    rw [hy] at HS0 HC0 ⊢
    have HR : Hid (regL l x = l' ++ [x]) := by show _ = _; rw [← hll]; exact HR.out
    rw [hll] at hl' HS0
    clear hW0 hy hll
  all_goals
    have HC1 : Hid (Cells W0 b 70 [y, .int .i64 (ever + 1)]) := HC0
    have hx1 : ∀ u ∈ x.cells, u.oneCell' = true := by rw [hxc]; simp [Value.oneCell']
    have HX := Lib.hid hx
    have HXC := Lib.hid hxc
    clear HC0 hx hxc c0 c1 f0 f1
    have t0 : ∀ u : Since W0, u.w.cell? ⟨b, 0, none⟩ = some y := fun u => u.cell (HC1.out.cell rfl)
    have t1 : ∀ u : Since W0, u.w.cell? ⟨b, 1, none⟩ = some (.int .i64 (ever + 1)) := fun u => u.cell (HC1.out.cell rfl)
    refine wp_region_pendN W0 (Only.refl _ _) [(25, OwW W0.heap.size 131 3 0 []), (30, OwW W0.heap.size 131 3 l'.length (sesL l')), (36, OwW W0.heap.size 131 3 1 x.cells), (37, OwW W0.heap.size 131 3 (l'.length + 1) (sesL l' ++ x.cells))] [(30, 25), (37, 30)] 16 (by intro p hp; simp at hp; rcases hp with rfl | rfl | rfl | rfl <;> exact OwW.lasts _ _ _ _ _) (by kernel_rfl) (by kernel_rfl) (by decide) (fun val => ?_)
    simp only [List.take_succ_cons, List.take_zero, List.drop_succ_cons, List.drop_zero]
    refine fit_segN 1 (by kernel_rfl) ?_
    simp only [List.take_succ_cons, List.take_zero, List.drop_succ_cons, List.drop_zero]
    repeat (go_big_quiet_step (fail))
    refine wpQuiet_nil ?_
    refine fit_litO 25 131 3 [] 0 rfl rfl (by simp) (by simp) rfl (by decide) (fun w5 => by go_simp) rfl ?_
    simp only [Act.put, List.setIfInBounds_toArray, List.set_cons_zero, List.set_cons_succ]
    refine fit_segN 4 (by kernel_rfl) ?_
    simp only [List.take_succ_cons, List.take_zero, List.drop_succ_cons, List.drop_zero]
    repeat (go_big_quiet_step (fail))
    refine wpQuiet_nil ?_
    refine fit_append 30 25 (.tmp 29) 68 131 i0 (.agg #[.int .i64 0, .int .i64 0, .string .empty]) 3 32 Try.underlying68 hi0 hz0 hz1 hz2 rfl (by decide) 0 l'.length l'.length [] (sesL l') (sesL l') (by omega) rfl rfl rfl rfl (by simp) (by simp) (by simp) (by decide) rfl rfl (fun w5 hw5 => HS0.out.only hw5.1) (by unfold maxLen; omega) (by omega) rfl ?_
    simp only [Act.put, List.setIfInBounds_toArray, List.set_cons_zero, List.set_cons_succ]
    refine fit_segN 5 (by kernel_rfl) ?_
    simp only [List.take_succ_cons, List.take_zero, List.drop_succ_cons, List.drop_zero]
    repeat (go_big_quiet_step (fail))
    refine wpQuiet_nil ?_
    refine fit_litO 36 131 3 x.cells 1 rfl rfl (by simp) (by simp) rfl (by decide) (fun w5 => by rw [HXC.out]; go_simp; rfl) rfl ?_
    simp only [Act.put, List.setIfInBounds_toArray, List.set_cons_zero, List.set_cons_succ]
    refine fit_append 37 30 (.tmp 36) 68 131 i0 (.agg #[.int .i64 0, .int .i64 0, .string .empty]) 3 32 Try.underlying68 hi0 hz0 hz1 hz2 rfl (by decide) l'.length 1 (l'.length + 1) (sesL l') x.cells (sesL l' ++ x.cells) rfl rfl rfl rfl rfl (by simp) (by simp) (by simp) (by decide) rfl rfl (fun w5 hw5 => SrcA.own (hw5.2 (36, OwW W0.heap.size 131 3 1 x.cells) (by simp) (by show 36 ∈ Oper.looksAt _ _; decide)) hx1) (by unfold maxLen; omega) (by omega) rfl ?_
    simp only [Act.put, List.setIfInBounds_toArray, List.set_cons_zero, List.set_cons_succ]
    refine fit_segN 2 (by kernel_rfl) ?_
    simp only [List.take_succ_cons, List.take_zero, List.drop_succ_cons, List.drop_zero]
    repeat (go_big_quiet_step (fail))
    refine wpQuiet_nil ?_
    intro w5 ho5 hV5
    have hown5 : w5.ownsRow W0.heap.size 131 3 (val 37) (l'.length + 1) (sesL l' ++ x.cells) := hV5 (by decide) (37, OwW W0.heap.size 131 3 (l'.length + 1) (sesL l' ++ x.cells)) (by simp) (by simp)
    obtain ⟨u, hu⟩ : ∃ u, val 37 = u := ⟨_, rfl⟩
    rw [hu] at hown5 ⊢
    obtain ⟨g5, cap5, hu5⟩ : ∃ g cap, u = .slice (some ⟨g, 0, none⟩) (l'.length + 1) cap := by
      obtain ⟨g, cap, _, h, _⟩ := own_block hown5 (by omega)
      exact ⟨g, cap, h⟩
    subst hu5
    have hC5 := HC1.out.only ho5 (by simp)
    have d0 := hC5.cell (k := 0) rfl
    have d1 := hC5.cell (k := 1) rfl
    have f0 := hC5.frozen 0
    have hb5 := hC5.lt
    have HC5 := Lib.hid hC5
    have HO5 := Lib.hid hown5
    clear hC5 hown5 hV5 t0 t1 hu
    go_wp2_with fail
    go_ret
    refine ⟨rfl, _, ⟨hB, HC5.out.set 0 _, ?_⟩, (ho0.tr0 ho5).setCell (.inl (by simp)) _⟩
    rw [HR.out, sesL_append, List.length_append]
    have h1 := ownsRow_setCell_other HO5.out (a := ⟨b, 0, none⟩) (own_ne_block HO5.out HC5.out (by decide)) (.slice (some ⟨g5, 0, none⟩) (l'.length + 1) cap5)
    have h2 : sesL [x] = x.cells := by simp [sesL]
    rw [h2]
    exact own_base h1 (by have := ho0.size; omega)
end Go.Proofs.Ytojhbhdlbbmghaa
