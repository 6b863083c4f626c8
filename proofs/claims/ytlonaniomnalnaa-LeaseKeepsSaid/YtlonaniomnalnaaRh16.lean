/-
  Chapter 16: the document's table: Check, Wants, New, Pack.
-/
import Derived.Test.YtlonaniomnalnaaRg16
namespace Go.Proofs.Ytlonaniomnalnaa
open Go.RowKit
set_option maxRecDepth 100000 in
theorem rf_check_in (B b k : Nat) (v : Value) (t : Tb) (x : Ls) (node epoch : Int) (w : World) (h : RfV w B b v t) (hx : t.l[k]? = some x) (hk : k < 8) (d1 d2 d3 : Bool)
    (hd : d1 = false ∨ (d1 = true ∧ d2 = true) ∨ (d1 = true ∧ d2 = false ∧ d3 = true) ∨ (d1 = true ∧ d2 = false ∧ d3 = false))
    (hd1 : decide (t.now < x.till) = d1) (hd2 : (x.node != node) = d2) (hd3 : (x.epoch != epoch) = d3) :
    Calls Try.prog 41 #[.pointer (some ⟨b, 0, none⟩), .int .i64 k, .int .i64 node, .int .i64 epoch] w fun e w' =>
      e = .returned (.int .i64 (if d1 && !d2 && !d3 then 0 else 15)) ∧ Only [] w w' := by
  have CI := Lib.hid (fun w => rf_is_in k hk w)
  have CL := Lib.hid (rf_live B b v t k x w h hk hx d1 hd1)
  have HR := Lib.hid h
  have HK := Lib.hid hx
  obtain ⟨g, cap, rfl, hB, hlt, hgb, hc⟩ := h.form
  have hk' : (k : Int) < 8 := by omega
  clear hc h hx hd1
  rcases hd with rfl | ⟨rfl, rfl⟩ | ⟨rfl, rfl, rfl⟩ | ⟨rfl, rfl, rfl⟩
  all_goals
    go_enter Try.func41, Try.ntmps41
    go_wp2_with (first
      | (go_at_call 52; refine (CI.out _).mono ?_; rintro e w' ⟨rfl, rfl⟩)
      | (go_at_call 53; refine CL.out.mono ?_; rintro e w1 ⟨rfl, ho1⟩; obtain ⟨g', cap', e', hB', hlt', hgb', hc'⟩ := (HR.out.only ho1).form; injection e' with e1' e2' e3'; injection e1' with e1'; injection e1' with e1'; subst e1'; subst e3'; obtain ⟨q0, q1, q2⟩ := hc' k x HK.out; have c1 := (HR.out.only ho1).cells.cell (k := 1) rfl; clear hc'))
    go_ret
    exact ⟨by simp, ho1⟩
theorem rf_check_out (b : Nat) (n node epoch : Int) (w : World) (hn : n < 0 ∨ 8 ≤ n) :
    Calls Try.prog 41 #[.pointer (some ⟨b, 0, none⟩), .int .i64 n, .int .i64 node, .int .i64 epoch] w fun e w' => e = .returned (.int .i64 15) ∧ Only [] w w' := by
  have CI := Lib.hid (fun w => rf_is_out n hn w)
  go_enter Try.func41, Try.ntmps41
  go_wp2_with (go_at_call 52; refine (CI.out _).mono ?_; rintro e w' ⟨rfl, rfl⟩)
  go_ret
  exact ⟨rfl, Only.refl _ _⟩
theorem rf_check (B b : Nat) (v : Value) (t : Tb) (n node epoch : Int) (w : World) (h : RfV w B b v t) :
    Calls Try.prog 41 #[.pointer (some ⟨b, 0, none⟩), .int .i64 n, .int .i64 node, .int .i64 epoch] w fun e w' => e = .returned (.int .i64 (t.check n node epoch)) ∧ Only [] w w' := by
  by_cases hn : 0 ≤ n ∧ n < 8
  · obtain ⟨k, rfl⟩ := Int.eq_ofNat_of_zero_le hn.1
    refine (rf_check_in B b k v t _ node epoch w h (t.get_in h.len k (by omega)) (by omega) _ _ _ ?_ rfl rfl rfl).mono ?_
    · cases decide (t.now < (t.get k).till) <;> cases ((t.get k).node != node) <;> cases ((t.get k).epoch != epoch) <;> simp
    · rintro e w' ⟨rfl, ho⟩
      refine ⟨?_, ho⟩
      unfold Tb.check
      by_cases h1 : t.now < (t.get k).till <;> by_cases h2 : (t.get k).node = node <;> by_cases h3 : (t.get k).epoch = epoch <;> simp [h1, h2, h3, hn.1, hn.2] <;> omega
  · rw [show t.check n node epoch = 15 from by unfold Tb.check; rw [if_neg (by omega)]]
    exact rf_check_out b n node epoch w (by omega)
set_option maxRecDepth 100000 in
theorem make_ls (w : World) : (Instr.makeSlice 61 (.int .i64 8) (.int .i64 8)).run Try.prog w = .ok (.slice (some ⟨w.heap.size, 0, none⟩) 8 8) (w.alloc (.cells (((List.replicate 8 (⟨0, 0, 0⟩ : Ls)).flatMap Ls.cells).toArray) 64)) := by kernel_rfl
set_option maxRecDepth 100000 in
theorem rf_new (w : World) : Calls Try.prog 37 #[] w fun e w' => ∃ b v, e = .returned (.pointer (some ⟨b, 0, none⟩)) ∧ Only [] w w' ∧ RfV w' w.heap.size b v Tb.empty := by
  have hmk := make_ls
  obtain ⟨cs, hcs⟩ : ∃ cs, (List.replicate 8 (⟨0, 0, 0⟩ : Ls)).flatMap Ls.cells = cs := ⟨_, rfl⟩
  rw [hcs] at hmk
  have HCS := Lib.hid hcs
  clear hcs
  go_enter Try.func37, Try.ntmps37
  go_wp2
  go_ret
  refine ⟨w.heap.size + 1, .slice (some ⟨w.heap.size, 0, none⟩) 8 8, rfl, ((Only.refl _ _).alloc _).alloc _, ⟨?_, ?_, ?_, rfl⟩⟩
  · simp
  · have := Cells.new (w.alloc (.cells cs.toArray 64)) 63 [.int .i64 0, .slice (some ⟨w.heap.size, 0, none⟩) 8 8]
    simpa [Tb.empty] using this
  · show World.ownsRow _ _ _ _ _ _ ((List.replicate 8 (⟨0, 0, 0⟩ : Ls)).flatMap Ls.cells)
    rw [HCS.out]
    refine own_only (World.ownsRow_lit (base := w.heap.size) (e := 64) (size := 3) w cs.toArray 8 (Nat.le_refl _) (by decide) (by rw [← HCS.out]; rfl)) ((Only.refl [] _).alloc _) (by simp)
set_option maxRecDepth 100000 in
set_option maxHeartbeats 1000000 in
theorem rf_wants (B b : Nat) (v : Value) (t : Tb) (node : Int) (w : World) (h : RfV w B b v t) (h0 : -4611686018427387904 ≤ t.now) (h1 : t.now ≤ 4611686018427387904) :
    Calls Try.prog 43 #[.pointer (some ⟨b, 0, none⟩), .int .i64 node] w fun e w' => ∃ v, e = .returned v ∧
      w'.ownsRow w.heap.size 3 1 v (t.wants node 8).length (ints (t.wants node 8)) ∧ Only [] w w' := by
  obtain ⟨i0, hi0, hz0, hz1, hz2⟩ := info_parts info_int
  have HR := Lib.hid h
  obtain ⟨g, cap, rfl, hB, hlt, hgb, hc⟩ := h.form
  have HC := Lib.hid hc
  clear h hc
  go_enter Try.func43, Try.ntmps43
  go_wp2_with fail
  go_loopw [5, 6] (fun v i wr => ∃ k : Nat, k ≤ 8 ∧ i = .int .i64 k ∧ wr.ownsRow w.heap.size 3 1 v (t.wants node k).length (ints (t.wants node k)) ∧ Only [] w wr) (fun _ i _ => 8 - (intOf i).toNat)
  case atStart => exact ⟨0, by omega, rfl, World.ownsRow_nil _ _ _ _, Only.refl _ _⟩
  case round =>
    obtain ⟨k, hk, rfl, hown, ho⟩ := hrel
    have hle := t.wants_le node k
    by_cases hk8 : k < 8
    · have hk8' : (k : Int) < 8 := by omega
      have hx := t.get_in HR.out.len k hk8
      have hS := t.wants_succ node k
      obtain ⟨x, hxe⟩ : ∃ x, t.get k = x := ⟨_, rfl⟩
      rw [hxe] at hx hS
      obtain ⟨q0, q1, q2⟩ := HC.out k x hx
      have CL := Lib.hid (rf_live B b _ t k x wr (HR.out.only ho) hk8 hx _ rfl)
      have HS := Lib.hid hS
      have c0 := fun (w' : World) (u : Since w') (ho' : Only [] w w') => (Since.mk u.w (ho'.tr0 u.h)).cell (HR.out.cells.cell (k := 0) rfl)
      have c1 := fun (w' : World) (u : Since w') (ho' : Only [] w w') => (Since.mk u.w (ho'.tr0 u.h)).cell (HR.out.cells.cell (k := 1) rfl)
      have p0 := fun (w' : World) (u : Since w') (ho' : Only [] w w') => (Since.mk u.w (ho'.tr0 u.h)).cell q0
      have p2 := fun (w' : World) (u : Since w') (ho' : Only [] w w') => (Since.mk u.w (ho'.tr0 u.h)).cell q2
      obtain ⟨d1, hd1⟩ : ∃ d, decide (t.now < x.till) = d := ⟨_, rfl⟩
      rw [hd1] at CL
      obtain ⟨d2, hd2⟩ : ∃ d, (x.node == node) = d := ⟨_, rfl⟩
      obtain ⟨d3, hd3⟩ : ∃ d, decide (x.till ≤ t.now + 2) = d := ⟨_, rfl⟩
      have hw : Hid (x.wanted t.now node = (!d1 || (d2 && d3))) := by show _ = _; rw [← hd1, ← hd2, ← hd3]; rfl
      have hcase : d1 = false ∨ (d1 = true ∧ d2 = false) ∨ (d1 = true ∧ d2 = true ∧ d3 = false) ∨ (d1 = true ∧ d2 = true ∧ d3 = true) := by cases d1 <;> cases d2 <;> cases d3 <;> simp
      clear hx hxe hS q0 q1 q2 hd1
      rcases hcase with rfl | ⟨rfl, rfl⟩ | ⟨rfl, rfl, rfl⟩ | ⟨rfl, rfl, rfl⟩
      all_goals
        go_wp2_with (go_at_call 53; refine CL.out.mono ?_; rintro e w1 ⟨rfl, ho1⟩)
        have t0 := fun u : Since w1 => c0 w1 u (ho.tr ho1)
        have t1 := fun u : Since w1 => c1 w1 u (ho.tr ho1)
        have t2 := fun u : Since w1 => p0 w1 u (ho.tr ho1)
        have t3 := fun u : Since w1 => p2 w1 u (ho.tr ho1)
        clear c0 c1 p0 p2
        refine wp_region_only w1 (Only.refl _ _) (by kernel_rfl) (by kernel_rfl) ?_
        repeat (go_big_quiet_step (fail))
        refine wpQuiet_nil ?_
        rintro ⟨w2, ho2⟩
        dsimp only
        clear t0 t1 t2 t3
        go_wp2_with (at_builtin
                     refine wpList_app rfl _ _ 54 rfl w.heap.size 3 i0 _ 1 8 Try.underlying54 hi0 hz0 hz1 hz2 rfl (by decide) w2 _ _ _ rfl (own_only (own_only hown ho1 (by simp)) ho2 (by simp)) 1 1 [.int .i64 (k : Int)] rfl rfl (by simp [Value.oneCell']) (by simp only [maxLen]; omega) (by omega) ((ho.tr ho1).tr ho2).size ?_
                     intro v' w' hown' hgrow _)
        go_roundw
        case rel =>
          first
            | exact ⟨k + 1, by omega, by go_num, by rw [HS.out, hw.out]; simpa [ints] using hown', ((ho.tr ho1).tr ho2).own (own_only (own_only hown ho1 (by simp)) ho2 (by simp)) hgrow (Nat.le_refl _)⟩
            | exact ⟨k + 1, by omega, by go_num, by rw [HS.out, hw.out]; exact own_only (own_only hown ho1 (by simp)) ho2 (by simp), (ho.tr ho1).tr ho2⟩
        case measure => simp [intOf]; omega
    · obtain rfl : k = 8 := by omega
      have hL : decide ((8 : Int) < 8) = false := by decide
      go_wp2
      go_ret
      exact ⟨_, rfl, hown, ho⟩
end Go.Proofs.Ytlonaniomnalnaa
