/-
  Chapter 6: the document's net: is, in, Apart, out.
-/
import Derived.Test.YtllapfpakoobcaaNet9
import Derived.Test.YtllapfpakoobcaaApp
namespace Go.Proofs.Ytllapfpakoobcaa
open Go.RowKit
theorem info_rlt : (Try.prog.info? 36).map (fun i => (i.zero, i.size, i.bytes)) = some (some (.agg #[.int .i64 0, .int .i64 0, .string .empty]), 3, 32) := by kernel_rfl
/-- Block b is the document's net s: its row v, its group gv (that lies below block G). -/
structure RnV (w : World) (G B b : Nat) (v gv : Value) (s : NS) : Prop where
  ge : B ≤ b
  gle : G ≤ B
  cells : Cells w b 31 [v, gv, .int .i64 s.lost]
  own : w.ownsRow B 36 3 v s.l.length (ltL s.l)
  grp : SlAt w G gv 1 s.grp.length (gvs s.grp)
  len : s.l.length ≤ 300
  glen : s.grp.length ≤ 1000
theorem own_low {w : World} {B B' n sz : Nat} {e : TypeId} {v : Value} {xs : List Value} (h : w.ownsRow B e sz v n xs) (hB : B' ≤ B) : w.ownsRow B' e sz v n xs :=
  ⟨h.1, h.2.imp_right fun ⟨q, cap, cur, e1, e2, e3⟩ => ⟨q, cap, cur, e1, Nat.le_trans hB e2, e3⟩⟩
theorem RnV.lt {w : World} {G B b : Nat} {v gv : Value} {s : NS} (h : RnV w G B b v gv s) : B ≤ w.heap.size := Nat.le_of_lt (Nat.lt_of_le_of_lt h.ge h.cells.lt)
theorem RnV.only {w w' : World} {G B b : Nat} {v gv : Value} {s : NS} (h : RnV w G B b v gv s) (ho : Only [] w w') : RnV w' G B b v gv s :=
  ⟨h.ge, h.gle, h.cells.only ho (by simp), own_only h.own ho (by simp), h.grp.only ho (Nat.le_trans h.gle h.lt) (by simp), h.len, h.glen⟩
theorem RnV.ges {w : World} {G B b : Nat} {v gv : Value} {s : NS} (h : RnV w G B b v gv s) : ∀ x, x ∈ b :: rb v → B ≤ x := by
  intro x hx
  rcases List.mem_cons.1 hx with rfl | hx
  · exact h.ge
  · exact (h.own.lt x (by simpa [rb] using hx)).1
theorem RnV.shape {w : World} {G B b : Nat} {v gv : Value} {s : NS} (h : RnV w G B b v gv s) : ∃ A c, v = .slice A s.l.length c := (SlAt.of_own h.own).shape
set_option maxRecDepth 100000 in
theorem rn_is (G B b : Nat) (v gv : Value) (s : NS) (k : Int) (w : World) (h : RnV w G B b v gv s) :
    Calls Try.prog 40 #[.pointer (some ⟨b, 0, none⟩), .int .i64 k] w fun e w' => e = .returned (.bool (decide (0 ≤ k) && decide (k < s.l.length))) ∧ w = w' := by
  obtain ⟨A, c, rfl⟩ := h.shape
  have c0 := h.cells.cell (k := 0) rfl
  have hl := h.len
  by_cases hk : 0 ≤ k
  · have hd : decide (0 ≤ k) = true := by simpa using hk
    clear h
    go_enter Try.func40, Try.ntmps40
    go_wp2_with fail
    go_ret
    exact ⟨by simp [hk], rfl⟩
  · have hd : decide (0 ≤ k) = false := by simpa using hk
    clear h
    go_enter Try.func40, Try.ntmps40
    go_wp2_with fail
    go_ret
    exact ⟨by simp [hd], rfl⟩
theorem rn_is_in (G B b k : Nat) (v gv : Value) (s : NS) (w : World) (h : RnV w G B b v gv s) (hk : k < s.l.length) :
    Calls Try.prog 40 #[.pointer (some ⟨b, 0, none⟩), .int .i64 k] w fun e w' => e = .returned (.bool true) ∧ w = w' :=
  (rn_is G B b v gv s k w h).mono fun _ _ ⟨h1, h2⟩ => ⟨by rw [h1]; simp [hk], h2⟩
theorem rn_is_out (G B b : Nat) (k : Int) (v gv : Value) (s : NS) (w : World) (h : RnV w G B b v gv s) (hk : k < 0 ∨ (s.l.length : Int) ≤ k) :
    Calls Try.prog 40 #[.pointer (some ⟨b, 0, none⟩), .int .i64 k] w fun e w' => e = .returned (.bool false) ∧ w = w' :=
  (rn_is G B b v gv s k w h).mono fun _ _ ⟨h1, h2⟩ => ⟨by rw [h1]; simp; omega, h2⟩
set_option maxRecDepth 100000 in
theorem rn_in (G B b : Nat) (v gv : Value) (s : NS) (x : Int) (w : World) (h : RnV w G B b v gv s) :
    Calls Try.prog 33 #[.pointer (some ⟨b, 0, none⟩), .int .i64 x] w fun e w' => e = .returned (.bool (inG s.grp x)) ∧ w = w' := by
  obtain ⟨A, c, hgv⟩ := h.grp.shape
  subst hgv
  have c1 := h.cells.cell (k := 1) rfl
  have HS := Lib.hid h.grp
  have hl := h.glen
  clear h
  unfold inG
  obtain ⟨l, hle⟩ : ∃ l, s.grp = l := ⟨_, rfl⟩
  rw [hle] at c1 HS hl ⊢
  clear hle
  go_enter Try.func33, Try.ntmps33
  go_wp2_with fail
  go_loop [5] (fun i => ∃ k : Nat, k ≤ l.length ∧ i = .int .i64 k ∧ Hid (x ∉ l.take k)) (fun i => l.length - (intOf i).toNat)
  case atStart => exact ⟨0, by omega, rfl, by show _ ∉ _; simp⟩
  case round =>
    obtain ⟨k, hk, rfl, hno⟩ := hrel
    by_cases hlt : k < l.length
    · have hlt' : (k : Int) < (l.length : Int) := by omega
      obtain ⟨b1, o1, c1', e1, q1, -⟩ := gvs_cell HS.out hlt
      injection e1 with i1 i2 i3
      subst i1; subst i3
      have hk1 := List.getElem?_eq_getElem hlt
      obtain ⟨y, hy⟩ : ∃ y, l[k] = y := ⟨_, rfl⟩
      rw [hy] at q1 hk1
      have HK := Lib.hid hk1
      clear hy hk1
      by_cases hxy : y = x
      · have HM : Hid (decide (x ∈ l) = true) := by show _ = _; simpa [hxy] using List.mem_of_getElem? HK.out
        subst hxy
        go_wp2_with fail
        go_ret
        exact ⟨by rw [HM.out]; rfl, rfl⟩
      · have hne : (y == x) = false := by simpa using hxy
        have hn2 : Hid (x ∉ l.take (k + 1)) := by
          show _ ∉ _
          rw [List.take_add_one, HK.out]
          simp only [Option.toList_some, List.mem_append, List.mem_singleton, not_or]
          exact ⟨hno.out, fun h => hxy h.symm⟩
        clear hxy
        go_wp2_with fail
        go_round
        case rel => exact ⟨k + 1, by omega, by go_num, hn2⟩
        case measure => simp [intOf]; omega
    · have hd : decide ((k : Int) < (l.length : Int)) = false := by simp; omega
      have HM : Hid (decide (x ∈ l) = false) := by
        have := hno.out
        rw [List.take_of_length_le (by omega)] at this
        show _ = _
        simpa using this
      go_wp2_with fail
      go_ret
      exact ⟨by rw [HM.out]; rfl, rfl⟩
theorem rn_apart (G B b : Nat) (v gv : Value) (s : NS) (x y : Int) (w : World) (h : RnV w G B b v gv s) :
    Calls Try.prog 20 #[.pointer (some ⟨b, 0, none⟩), .int .i64 x, .int .i64 y] w fun e w' => e = .returned (.bool (s.apart x y)) ∧ w = w' := by
  have C1 := Lib.hid (rn_in G B b v gv s x w h)
  have C2 := Lib.hid (rn_in G B b v gv s y w h)
  clear h
  go_enter Try.func20, Try.ntmps20
  go_wp2_with fail
  refine C1.out.mono ?_
  rintro e w1 ⟨rfl, rfl⟩
  go_wp2_with fail
  refine C2.out.mono ?_
  rintro e w2 ⟨rfl, rfl⟩
  go_wp2_with fail
  go_ret
  exact ⟨by unfold NS.apart; first | rfl | simp, rfl⟩
set_option maxRecDepth 100000 in
set_option maxHeartbeats 2000000 in
theorem rn_out (G B b k : Nat) (v gv : Value) (s : NS) (w : World) (h : RnV w G B b v gv s) (hk : k < s.l.length) :
    Calls Try.prog 27 #[.pointer (some ⟨b, 0, none⟩), .int .i64 k] w fun e w' => e = .returned (.tuple #[]) ∧ ∃ v', RnV w' G B b v' gv (s.out k) ∧ Only [b] w w' ∧ NewOf w v v' := by
  obtain ⟨i0, hi0, hz0, hz1, hz2⟩ := info_parts info_rlt
  obtain ⟨g, cap, cs, rfl, hg, hC, hn, hcm, hcl, htk⟩ := own_block h.own (by omega)
  have hcm2 : cap ≤ 9223372036854775807 := by unfold maxLen at hcm; omega
  have hl300 := h.len
  have hkc : k ≤ cap := by omega
  have hkl : k ≤ s.l.length := by omega
  have hk1c : k + 1 ≤ cap := by omega
  have hk1l : k + 1 ≤ s.l.length := by omega
  have hS1 : SrcA w (.slice (some ⟨g, 0, none⟩) k cap) 3 k (ltL (s.l.take k)) := by
    refine SrcA.piece hC (by rw [ltL_length, List.length_take]; omega) (ltL_one _) fun j u hu => ?_
    rw [← ltL_take, ← htk] at hu
    have hj := (List.getElem?_eq_some_iff.1 hu).1
    simp only [List.length_take] at hj
    rw [List.getElem?_take_of_lt (by omega), List.getElem?_take_of_lt (by omega)] at hu
    rw [Nat.zero_add]; exact hu
  obtain ⟨A2, hA2, hS2⟩ : ∃ A2 : Addr, (if cap = k + 1 then some (⟨g, 0, none⟩ : Addr) else some ⟨g, (k + 1) * 3, none⟩) = some A2 ∧ Hid (SrcA w (.slice (some A2) (s.l.length - (k + 1)) (cap - (k + 1))) 3 (s.l.length - (k + 1)) (ltL (s.l.drop (k + 1)))) := by
    by_cases h : cap = k + 1
    · refine ⟨⟨g, 0, none⟩, by simp [h], by rw [ltL_length, List.length_drop], ltL_one _, .inr ⟨_, _, rfl, fun j u hu => ?_⟩⟩
      have : s.l.drop (k + 1) = [] := List.drop_eq_nil_of_le (by omega)
      rw [this] at hu
      simp [ltL] at hu
    · refine ⟨⟨g, (k + 1) * 3, none⟩, by simp [h], SrcA.piece hC (by rw [ltL_length, List.length_drop]) (ltL_one _) fun j u hu => ?_⟩
      rw [← ltL_drop, List.getElem?_drop, ← htk] at hu
      have hj := (List.getElem?_eq_some_iff.1 hu).1
      simp only [List.length_take] at hj
      rw [List.getElem?_take_of_lt (by omega)] at hu
      exact hu
  have HS1 := Lib.hid hS1
  have HH := Lib.hid h
  have t0 : ∀ u : Since w, u.w.cell? ⟨b, 0, none⟩ = some (.slice (some ⟨g, 0, none⟩) s.l.length cap) := fun u => u.cell (h.cells.cell (k := 0) rfl)
  have hkw : IntKind.i64.wrap ((k : Int) + 1) = (k : Int) + 1 := by rw [IntKind.wrap_i64]; omega
  have hlenE : (s.l.eraseIdx k).length = s.l.length - 1 := by rw [List.length_eraseIdx, if_pos hk]
  clear h hC htk hS1
  go_enter Try.func27, Try.ntmps27
  refine wp_region_pendN w (Only.refl _ _) [(5, OwW w.heap.size 36 3 0 []), (12, OwW w.heap.size 36 3 k (ltL (s.l.take k))), (20, OwW w.heap.size 36 3 (s.l.length - 1) (ltL (s.l.eraseIdx k)))] [(12, 5), (20, 12)] 19 (by intro p hp; simp at hp; rcases hp with rfl | rfl | rfl <;> exact OwW.lasts _ _ _ _ _) (by kernel_rfl) (by kernel_rfl) (by decide) (fun val => ?_)
  simp only [List.take_succ_cons, List.take_zero, List.drop_succ_cons, List.drop_zero]
  refine fit_segN 1 (by kernel_rfl) ?_
  simp only [List.take_succ_cons, List.take_zero, List.drop_succ_cons, List.drop_zero]
  repeat (go_big_quiet_step (fail))
  refine wpQuiet_nil ?_
  refine fit_litO 5 36 3 [] 0 rfl rfl (by simp) (by simp) rfl (by decide) (fun w5 => by go_simp) rfl ?_
  simp only [Act.put, List.setIfInBounds_toArray, List.set_cons_zero, List.set_cons_succ]
  refine fit_segN 6 (by kernel_rfl) ?_
  simp only [List.take_succ_cons, List.take_zero, List.drop_succ_cons, List.drop_zero]
  repeat (go_big_quiet_step (fail))
  refine wpQuiet_nil ?_
  refine fit_append 12 5 (.tmp 11) 28 36 i0 (.agg #[.int .i64 0, .int .i64 0, .string .empty]) 3 32 Try.underlying28 hi0 hz0 hz1 hz2 rfl (by decide) 0 k k [] (ltL (s.l.take k)) (ltL (s.l.take k)) (by omega) rfl rfl rfl rfl (by simp) (by simp) (by simp) (by decide) rfl rfl (fun w5 hw5 => HS1.out.only hw5.1) (by unfold maxLen; omega) (by omega) rfl ?_
  simp only [Act.put, List.setIfInBounds_toArray, List.set_cons_zero, List.set_cons_succ]
  refine fit_segN 7 (by kernel_rfl) ?_
  simp only [List.take_succ_cons, List.take_zero, List.drop_succ_cons, List.drop_zero]
  repeat (go_big_quiet_step (fail))
  refine wpQuiet_nil ?_
  refine fit_append 20 12 (.tmp 19) 28 36 i0 (.agg #[.int .i64 0, .int .i64 0, .string .empty]) 3 32 Try.underlying28 hi0 hz0 hz1 hz2 rfl (by decide) k (s.l.length - (k + 1)) (s.l.length - 1) (ltL (s.l.take k)) (ltL (s.l.drop (k + 1))) (ltL (s.l.eraseIdx k)) (by omega) (by rw [List.eraseIdx_eq_take_drop_succ, ltL_append]) rfl rfl rfl (by simp) (by simp) (by simp) (by decide) rfl rfl (fun w5 hw5 => hS2.out.only hw5.1) (by unfold maxLen; omega) (by omega) rfl ?_
  simp only [Act.put, List.setIfInBounds_toArray, List.set_cons_zero, List.set_cons_succ]
  refine fit_segN 2 (by kernel_rfl) ?_
  simp only [List.take_succ_cons, List.take_zero, List.drop_succ_cons, List.drop_zero]
  repeat (go_big_quiet_step (fail))
  refine wpQuiet_nil ?_
  intro w5 ho5 hV5
  have hown5 : w5.ownsRow w.heap.size 36 3 (val 20) (s.l.length - 1) (ltL (s.l.eraseIdx k)) := hV5 (by decide) (20, OwW w.heap.size 36 3 (s.l.length - 1) (ltL (s.l.eraseIdx k))) (by simp) (by simp)
  obtain ⟨u, hu⟩ : ∃ u, val 20 = u := ⟨_, rfl⟩
  rw [hu] at hown5 ⊢
  obtain ⟨A5, c5, rfl⟩ := (SlAt.of_own hown5).shape
  have hR5 := HH.out.only ho5
  have d0 := hR5.cells.cell (k := 0) rfl
  have f0 := hR5.cells.frozen 0
  have hb5 := hR5.cells.lt
  have HR5 := Lib.hid hR5
  have HO5 := Lib.hid hown5
  have hBw := HH.out.lt
  clear hR5 hown5 hV5 t0 hu hA2 hkw
  go_wp2_with fail
  go_end0
  have hoB : Only [b] w5 (w5.setCell ⟨b, 0, none⟩ (.slice A5 (s.l.length - 1) c5)) := (Only.refl _ _).setCell (.inl (by simp)) _
  have hoF : Only [b] w (w5.setCell ⟨b, 0, none⟩ (.slice A5 (s.l.length - 1) c5)) := (ho5.of0).tr hoB
  refine ⟨rfl, _, ⟨HH.out.ge, HH.out.gle, HR5.out.cells.set 0 _, ?_, ?_, ?_, HH.out.glen⟩, hoF, fun g' hg' => .inr (HO5.out.lt g' hg').1⟩
  · show World.ownsRow _ _ _ _ _ (s.l.eraseIdx k).length (ltL (s.l.eraseIdx k))
    rw [hlenE]
    exact own_low (own_keep HO5.out hoB (fun y hy => by simp at hy; subst hy; exact own_ne_block HO5.out HR5.out.cells (by decide))) hBw
  · exact HR5.out.grp.only hoB (Nat.le_trans HH.out.gle HR5.out.lt) (fun y hy => by simp at hy; subst hy; exact Nat.le_trans HH.out.gle HH.out.ge)
  · show (s.l.eraseIdx k).length ≤ 300
    omega
end Go.Proofs.Ytllapfpakoobcaa
