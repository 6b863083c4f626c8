/-
  Chapter 18: small words of the statements: pick, same, sameReply, small.
-/
import Derived.Test.YtjfnkjpnjiobjaaC18w
import Derived.Test.YtjfnkjpnjiobjaaC18q
import Derived.Test.YtjfnkjpnjiobjaaC18t
namespace Go.Proofs.Ytjfnkjpnjiobjaa
open Go.RowKit
def pkI (c n : Int) : Int := if c < 0 then -(c + 1) % n else c % n
theorem pkI_lt (c n : Int) (hn : 0 < n) : 0 ≤ pkI c n ∧ pkI c n < n := by
  unfold pkI
  split
  · exact ⟨Int.emod_nonneg _ (by omega), Int.emod_lt_of_pos _ hn⟩
  · exact ⟨Int.emod_nonneg _ (by omega), Int.emod_lt_of_pos _ hn⟩
theorem pick18 (c n : Int) (w : World) (hc : Wide64 c) (h0 : 1 ≤ n) (h1 : n ≤ 1000000000) :
    Calls Try.prog 39 #[.int .i64 c, .int .i64 n] w fun e w' => e = .returned (.int .i64 (pkI c n)) ∧ w = w' := by
  obtain ⟨c0, c1⟩ := hc
  have hn : (n == 0) = false := by simp; omega
  by_cases h : c < 0
  · have h2 : 0 ≤ -(c + 1) := by omega
    have h2' : c ≤ -1 := by omega
    go_enter Try.func39, Try.ntmps39
    go_wp2
    go_ret
    exact ⟨by unfold pkI; rw [if_pos (by omega), ← Int.tmod_eq_emod_of_nonneg h2]; first | rfl | simp, rfl⟩
  · have h2 : 0 ≤ c := by omega
    have hd : decide (c < 0) = false := by simpa using h
    go_enter Try.func39, Try.ntmps39
    go_wp2
    go_ret
    exact ⟨by unfold pkI; rw [if_neg (by omega)]; simp, rfl⟩
set_option maxRecDepth 100000 in
set_option maxHeartbeats 2000000 in
theorem same18 (iv iv' : Value) (c : Cm) (w : World) (h : CmAt w iv c) (h' : CmAt w iv' c) (hl : c.its.length ≤ 100000) :
    Calls Try.prog 43 #[c.val iv, c.val iv'] w fun e w' => e = .returned (.bool true) ∧ Only [] w w' := by
  obtain ⟨IA, ic, rfl⟩ := h.its.shape
  obtain ⟨JA, jc, rfl⟩ := h'.its.shape
  have H1 := Lib.hid h.its
  have H2 := Lib.hid h'.its
  obtain ⟨w1, hw1⟩ : ∃ w1, w.alloc (.cells #[.int .i64 c.kd, .int .i64 c.ss, .int .i64 c.sq, .int .i64 c.sh, .int .i64 c.nd, .int .i64 c.ep, .int .i64 c.n, .string ⟨c.fd.toArray⟩, .string ⟨c.id.toArray⟩, .slice IA c.its.length ic, .bool c.fl] 65) = w1 := ⟨_, rfl⟩
  obtain ⟨w2, hw2⟩ : ∃ w2, w1.alloc (.cells #[.int .i64 c.kd, .int .i64 c.ss, .int .i64 c.sq, .int .i64 c.sh, .int .i64 c.nd, .int .i64 c.ep, .int .i64 c.n, .string ⟨c.fd.toArray⟩, .string ⟨c.id.toArray⟩, .slice JA c.its.length jc, .bool c.fl] 65) = w2 := ⟨_, rfl⟩
  obtain ⟨z1, hz1⟩ : ∃ z, w.heap.size = z := ⟨_, rfl⟩
  obtain ⟨z2, hz2⟩ : ∃ z, w1.heap.size = z := ⟨_, rfl⟩
  have O1 : Only [] w w1 := hw1 ▸ (Only.refl _ _).alloc _
  have O2 : Only [] w1 w2 := hw2 ▸ (Only.refl _ _).alloc _
  have a1 : Cells w1 z1 65 (c.cells (.slice IA c.its.length ic)) := hw1 ▸ hz1 ▸ Cells.new w _ _
  have a2 : Cells w2 z2 65 (c.cells (.slice JA c.its.length jc)) := hw2 ▸ hz2 ▸ Cells.new w1 _ _
  have a1 := a1.only O2 (by simp)
  have HO := Lib.hid (O1.tr O2)
  have HZ1 := Lib.hid a1
  have HZ2 := Lib.hid a2
  obtain ⟨c0, c1, c2, c3, c4, c5, c6, c7, c8, c9, c10⟩ := cm_cells a1
  obtain ⟨d0, d1, d2, d3, d4, d5, d6, d7, d8, d9, d10⟩ := cm_cells a2
  have e0 : (!(c.kd == c.kd)) = false := by simp
  have e1 : (!(c.ss == c.ss)) = false := by simp
  have e2 : (!(c.sq == c.sq)) = false := by simp
  have e3 : (!(c.sh == c.sh)) = false := by simp
  have e4 : (!(c.nd == c.nd)) = false := by simp
  have e5 : (!(c.ep == c.ep)) = false := by simp
  have e6 : (!(c.n == c.n)) = false := by simp
  have e7 : (!(c.fd == c.fd)) = false := by simp
  have e8 : (!(c.id == c.id)) = false := by simp
  have e10 : (!(c.fl == c.fl)) = false := by simp
  have e9 : (!((c.its.length : Int) == (c.its.length : Int))) = false := by simp
  unfold Cm.val
  clear h h' a1 a2 O1 O2
  go_enter Try.func43, Try.ntmps43
  go_wp2_with fail
  clear c0 c1 c2 c3 c4 c5 c6 c7 c8 c9 c10 d0 d1 d2 d3 d4 d5 d6 d7 d8 d9 d10 hw1 hw2 hz1 hz2 e0 e1 e2 e3 e4 e5 e6 e7 e8 e9 e10
  go_loopw [5] (fun i wr => ∃ k : Nat, k ≤ c.its.length ∧ i = .int .i64 k ∧ Hid (Cells wr z1 65 (c.cells (.slice IA c.its.length ic))) ∧ Hid (Cells wr z2 65 (c.cells (.slice JA c.its.length jc))) ∧ Hid (Only [] w wr)) (fun i _ => c.its.length - (intOf i).toNat)
  case atStart => exact ⟨0, by omega, rfl, HZ1, HZ2, HO⟩
  case round =>
    obtain ⟨k, hk, rfl, hz1, hz2, ho⟩ := hrel
    have c9 := hz1.out.cell (k := 9) rfl
    have d9 := hz2.out.cell (k := 9) rfl
    by_cases hlt : k < c.its.length
    · have hlt' : (k : Int) < (c.its.length : Int) := by omega
      obtain ⟨x, hx⟩ : ∃ x, c.its[k]? = some x := ⟨_, List.getElem?_eq_getElem hlt⟩
      obtain ⟨b1, o1, c1', e1, q0, q1, q2⟩ := itL_at (H1.out.only ho.out (Nat.le_refl _) (by simp)) hx
      obtain ⟨b2, o2, c2', e2, s0, s1, s2⟩ := itL_at (H2.out.only ho.out (Nat.le_refl _) (by simp)) hx
      injection e1 with i1 i2 i3
      injection e2 with j1 j2 j3
      subst i1; subst i3; subst j1; subst j3
      have t_c9 := fun u : Since wr => u.cell c9
      have t_d9 := fun u : Since wr => u.cell d9
      have t_q0 := fun u : Since wr => u.cell q0
      have t_q1 := fun u : Since wr => u.cell q1
      have t_q2 := fun u : Since wr => u.cell q2
      have t_s0 := fun u : Since wr => u.cell s0
      have t_s1 := fun u : Since wr => u.cell s1
      have t_s2 := fun u : Since wr => u.cell s2
      clear hx i2 j2
      go_wp2_with fail
      clear c9 d9 q0 q1 q2 s0 s1 s2
      refine wp_region_only wr (Only.refl _ _) (by kernel_rfl) (by kernel_rfl) ?_
      repeat (go_big_quiet_step (fail))
      refine wpQuiet_nil ?_
      rintro ⟨w3, ho3⟩
      dsimp only
      have hz1' := Lib.hid (hz1.out.only ho3 (by simp))
      have hz2' := Lib.hid (hz2.out.only ho3 (by simp))
      have ho' := Lib.hid (ho.out.tr ho3)
      clear t_c9 t_d9 t_q0 t_q1 t_q2 t_s0 t_s1 t_s2 ho3
      go_wp2_with fail
      go_roundw
      case rel => exact ⟨k + 1, by omega, by go_num, hz1', hz2', ho'⟩
      case measure => simp [intOf]; omega
    · obtain rfl : k = c.its.length := by omega
      have hd2 : decide ((c.its.length : Int) < (c.its.length : Int)) = false := by simp
      go_wp2_with fail
      go_ret
      exact ⟨rfl, ho.out⟩
set_option maxRecDepth 100000 in
set_option maxHeartbeats 2000000 in
theorem sameRp18 (pv pv' : Value) (r : Rp) (w : World) (h : SlAt w w.heap.size pv 5 r.ps.length (poL r.ps)) (h' : SlAt w w.heap.size pv' 5 r.ps.length (poL r.ps)) (hl : r.ps.length ≤ 100000) :
    Calls Try.prog 45 #[r.val pv, r.val pv'] w fun e w' => e = .returned (.bool true) ∧ Only [] w w' := by
  obtain ⟨IA, ic, rfl⟩ := h.shape
  obtain ⟨JA, jc, rfl⟩ := h'.shape
  have H1 := Lib.hid h
  have H2 := Lib.hid h'
  obtain ⟨w1, hw1⟩ : ∃ w1, w.alloc (.cells #[.int .i64 r.er, .int .i64 r.n, .slice IA r.ps.length ic] 67) = w1 := ⟨_, rfl⟩
  obtain ⟨w2, hw2⟩ : ∃ w2, w1.alloc (.cells #[.int .i64 r.er, .int .i64 r.n, .slice JA r.ps.length jc] 67) = w2 := ⟨_, rfl⟩
  obtain ⟨z1, hz1⟩ : ∃ z, w.heap.size = z := ⟨_, rfl⟩
  obtain ⟨z2, hz2⟩ : ∃ z, w1.heap.size = z := ⟨_, rfl⟩
  have O1 : Only [] w w1 := hw1 ▸ (Only.refl _ _).alloc _
  have O2 : Only [] w1 w2 := hw2 ▸ (Only.refl _ _).alloc _
  have a1 : Cells w1 z1 67 [.int .i64 r.er, .int .i64 r.n, .slice IA r.ps.length ic] := hw1 ▸ hz1 ▸ Cells.new w _ _
  have a2 : Cells w2 z2 67 [.int .i64 r.er, .int .i64 r.n, .slice JA r.ps.length jc] := hw2 ▸ hz2 ▸ Cells.new w1 _ _
  have a1 := a1.only O2 (by simp)
  have HO := Lib.hid (O1.tr O2)
  have HZ1 := Lib.hid a1
  have HZ2 := Lib.hid a2
  have c0 := a1.cell (k := 0) rfl
  have c1 := a1.cell (k := 1) rfl
  have c2 := a1.cell (k := 2) rfl
  have d0 := a2.cell (k := 0) rfl
  have d1 := a2.cell (k := 1) rfl
  have d2 := a2.cell (k := 2) rfl
  have e0 : (!(r.er == r.er)) = false := by simp
  have e1 : (!(r.n == r.n)) = false := by simp
  have e2 : (!((r.ps.length : Int) == (r.ps.length : Int))) = false := by simp
  unfold Rp.val
  clear h h' a1 a2 O1 O2
  go_enter Try.func45, Try.ntmps45
  go_wp2_with fail
  clear c0 c1 c2 d0 d1 d2 hw1 hw2 hz1 hz2 e0 e1 e2
  go_loopw [5] (fun i wr => ∃ k : Nat, k ≤ r.ps.length ∧ i = .int .i64 k ∧ Hid (Cells wr z1 67 [.int .i64 r.er, .int .i64 r.n, .slice IA r.ps.length ic]) ∧ Hid (Cells wr z2 67 [.int .i64 r.er, .int .i64 r.n, .slice JA r.ps.length jc]) ∧ Hid (Only [] w wr)) (fun i _ => r.ps.length - (intOf i).toNat)
  case atStart => exact ⟨0, by omega, rfl, HZ1, HZ2, HO⟩
  case round =>
    obtain ⟨k, hk, rfl, hz1, hz2, ho⟩ := hrel
    have c9 := hz1.out.cell (k := 2) rfl
    have d9 := hz2.out.cell (k := 2) rfl
    by_cases hlt : k < r.ps.length
    · have hlt' : (k : Int) < (r.ps.length : Int) := by omega
      obtain ⟨x, hx⟩ : ∃ x, r.ps[k]? = some x := ⟨_, List.getElem?_eq_getElem hlt⟩
      obtain ⟨b1, o1, c1', e1, q0, q1, q2, q3, q4⟩ := poL_at (H1.out.only ho.out (Nat.le_refl _) (by simp)) rfl hx
      obtain ⟨b2, o2, c2', e2, s0, s1, s2, s3, s4⟩ := poL_at (H2.out.only ho.out (Nat.le_refl _) (by simp)) rfl hx
      injection e1 with i1 i2 i3
      injection e2 with j1 j2 j3
      subst i1; subst i3; subst j1; subst j3
      have t_c9 := fun u : Since wr => u.cell c9
      have t_d9 := fun u : Since wr => u.cell d9
      have t_q0 := fun u : Since wr => u.cell q0
      have t_q1 := fun u : Since wr => u.cell q1
      have t_q2 := fun u : Since wr => u.cell q2
      have t_q3 := fun u : Since wr => u.cell q3
      have t_q4 := fun u : Since wr => u.cell q4
      have t_s0 := fun u : Since wr => u.cell s0
      have t_s1 := fun u : Since wr => u.cell s1
      have t_s2 := fun u : Since wr => u.cell s2
      have t_s3 := fun u : Since wr => u.cell s3
      have t_s4 := fun u : Since wr => u.cell s4
      clear hx i2 j2
      go_wp2_with fail
      clear c9 d9 q0 q1 q2 q3 q4 s0 s1 s2 s3 s4
      refine wp_region_only wr (Only.refl _ _) (by kernel_rfl) (by kernel_rfl) ?_
      repeat (go_big_quiet_step (fail))
      refine wpQuiet_nil ?_
      rintro ⟨w3, ho3⟩
      dsimp only
      have hz1' := Lib.hid (hz1.out.only ho3 (by simp))
      have hz2' := Lib.hid (hz2.out.only ho3 (by simp))
      have ho' := Lib.hid (ho.out.tr ho3)
      clear t_c9 t_d9 t_q0 t_q1 t_q2 t_q3 t_q4 t_s0 t_s1 t_s2 t_s3 t_s4 ho3
      go_wp2_with fail
      go_roundw
      case rel => exact ⟨k + 1, by omega, by go_num, hz1', hz2', ho'⟩
      case measure => simp [intOf]; omega
    · obtain rfl : k = r.ps.length := by omega
      have hd2 : decide ((r.ps.length : Int) < (r.ps.length : Int)) = false := by simp
      go_wp2_with fail
      go_ret
      exact ⟨rfl, ho.out⟩
end Go.Proofs.Ytjfnkjpnjiobjaa
