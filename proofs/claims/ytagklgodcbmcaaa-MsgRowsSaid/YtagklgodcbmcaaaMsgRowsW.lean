/-
  The walk over MsgRows.
-/
import Derived.Test.YtagklgodcbmcaaaZeros
import Derived.Test.YtagklgodcbmcaaaOpenI7
namespace Go.Proofs.Ytagklgodcbmcaaa
open Go.RowKit
theorem wrap10 : IntKind.i64.wrap ((10 : Nat) : Int) = ((10 : Nat) : Int) := by kernel_rfl
def ten (l : List Int) : List Int := l ++ List.replicate 10 0
theorem ten_len (l : List Int) : (ten l).length = l.length + 10 := by simp [ten]
theorem ten_at {w : World} {B : Nat} {v : Value} (l : List Int) (h : w.ownsRow B 3 1 v (l.length + 10) (gvs l ++ List.replicate 10 (.int .i64 0))) : SlAt w w.heap.size v 1 (ten l).length (gvs (ten l)) := by
  have e : gvs (ten l) = gvs l ++ List.replicate 10 (.int .i64 0) := by unfold gvs ten; rw [List.map_append, List.map_replicate]
  rw [e, ten_len]
  exact SlAt.of_own h
theorem vs_long {l : List Int} (h : 10 ≤ l.length) (h2 : l.length ≤ 100) : rdVs (vtx l) = none := by
  cases hr : rdVs (vtx l) with
  | none => rfl
  | some p =>
    obtain ⟨l', r⟩ := p
    obtain ⟨h3, _, e⟩ := (rdVs_iff _ _ _).1 hr
    unfold vtx at e
    rw [List.append_assoc] at e
    have := (ib_front ⟨by omega, by omega⟩ ⟨by omega, by omega⟩ e).1
    omega
theorem vtx_len {l : List Int} (hw : ∀ x ∈ l, Wide64 x) (h : l.length ≤ 19) : (vtx l).length ≤ 200 := by
  have h3 : (isb l).length ≤ 10 * 19 := isb_bound l hw 19 h
  have h4 := (ib_length (l.length : Int) ⟨by omega, by omega⟩).2
  unfold vtx
  rw [List.length_append]; omega
set_option maxRecDepth 100000 in
set_option maxHeartbeats 8000000 in
theorem msgRows_walk (W : World) (v0 : Value) (l0 : List Int) (s0 : SlAt W W.heap.size v0 1 l0.length (gvs l0)) (g0 : ∀ x ∈ l0, Wide64 x) (v1 : Value) (l1 : List Int) (s1 : SlAt W W.heap.size v1 1 l1.length (gvs l1)) (g1 : ∀ x ∈ l1, Wide64 x) (s : ByteArray) (hs0 : s.size ≤ maxLen) :
    Calls Try.prog 13 #[v0, v1, .string s] W fun e W' => e = .returned (.bool true) ∧ Only [] W W' := by
  obtain ⟨i0, hi0, hz0, hz1, hz2⟩ := info_parts info_int
  obtain ⟨ls, rfl, hls⟩ := str_of s
  rw [hls] at hs0
  unfold maxLen at hs0
  clear hls
  have hll0 : l0.length ≤ 9223372036854775807 := by obtain ⟨_, _, _, _, _, h2, _⟩ := s0; unfold maxLen at h2; omega
  have hll1 : l1.length ≤ 9223372036854775807 := by obtain ⟨_, _, _, _, _, h2, _⟩ := s1; unfold maxLen at h2; omega
  obtain ⟨LA, lc, rfl⟩ := s0.shape
  obtain ⟨LB, lb, rfl⟩ := s1.shape
  have HL0 := Lib.hid s0
  have HL1 := Lib.hid s1
  have C0 := Lib.hid (shown7 W)
  clear s0 s1
  have H0 : LA = none → l0 = [] := fun h => by
    subst h
    rcases Nat.eq_zero_or_pos l0.length with h | h
    · exact List.eq_nil_of_length_eq_zero h
    · obtain ⟨b, o, c', hv, _⟩ := HL0.out.at_ (by omega); injection hv with hv; cases hv
  have HH0 := Lib.hid H0
  clear H0
  go_enter Try.func13, Try.ntmps13
  go_wp2_with fail
  refine C0.out.mono ?_
  rintro e w1 ⟨rfl, ho1⟩
  have HO1 := Lib.hid ho1
  by_cases h0 : 9 < l0.length
  · have d0 : decide ((9 : Int) < (l0.length : Int)) = true := by simp; omega
    go_wp2_with fail
    go_ret
    exact ⟨rfl, HO1.out⟩
  have d0 : decide ((9 : Int) < (l0.length : Int)) = false := by simp; omega
  by_cases h1 : 9 < l1.length
  · have d1 : decide ((9 : Int) < (l1.length : Int)) = true := by simp; omega
    go_wp2_with fail
    go_ret
    exact ⟨rfl, HO1.out⟩
  have d1 : decide ((9 : Int) < (l1.length : Int)) = false := by simp; omega
  by_cases h2 : 300 < ls.length
  · have d2 : decide ((300 : Int) < (ls.length : Int)) = true := by simp; omega
    go_wp2_with fail
    go_ret
    exact ⟨rfl, HO1.out⟩
  have d2 : decide ((300 : Int) < (ls.length : Int)) = false := by simp; omega
  have hl0 : l0.length ≤ 9 := by omega
  have hl1 : l1.length ≤ 9 := by omega
  have hls : ls.length ≤ 300 := by omega
  have gz : ∀ x ∈ ten l0, Wide64 x := fun x hx => by
    rcases List.mem_append.1 hx with hx | hx
    · exact g0 x hx
    · rw [List.eq_of_mem_replicate hx]; exact wide0
  have CV0 := Lib.hid (fun w' (ho : Only [] W w') => msg_voters _ l0 w' ((HL0.out.only ho (Nat.le_refl _) (by simp)).more ho.size) g0 (by omega))
  have CV1 := Lib.hid (fun w' (ho : Only [] W w') => msg_voters _ l1 w' ((HL1.out.only ho (Nat.le_refl _) (by simp)).more ho.size) g1 (by omega))
  have CV2 := Lib.hid (fun v' w' (hs : SlAt w' w'.heap.size v' 1 (ten l0).length (gvs (ten l0))) => msg_voters v' _ w' hs gz (by rw [ten_len]; omega))
  have b0 := vtx_len g0 (by omega)
  have b1 := vtx_len g1 (by omega)
  have b2 := vtx_len gz (by rw [ten_len]; omega)
  have r2 := vs_long (l := ten l0) (by rw [ten_len]; omega) (by rw [ten_len]; omega)
  have r1 := vs_front (s := ls) hl1 g1
  have r0 := vs_front (s := vtx l1 ++ ls) hl0 g0
  obtain ⟨V0, hV0⟩ : ∃ V, vtx l0 = V := ⟨_, rfl⟩
  obtain ⟨V1, hV1⟩ : ∃ V, vtx l1 = V := ⟨_, rfl⟩
  obtain ⟨V2, hV2⟩ : ∃ V, vtx (ten l0) = V := ⟨_, rfl⟩
  rw [hV0] at b0 r0 CV0
  rw [hV1] at b1 r1 r0 CV1
  rw [hV2] at b2 r2 CV2
  rw [← List.append_assoc] at r0
  have CT0 := Lib.hid (fun w' => msg_toVoters (V0 ++ V1 ++ ls) w' (by simp; omega))
  have CT1 := Lib.hid (fun w' => msg_toVoters (V1 ++ ls) w' (by simp; omega))
  have CT2 := Lib.hid (fun w' => msg_toVoters V2 w' (by omega))
  rw [show vsL (V0 ++ V1 ++ ls) = l0 from by unfold vsL; rw [r0], show vsR (V0 ++ V1 ++ ls) = V1 ++ ls from by unfold vsR; rw [r0], r0] at CT0
  rw [show vsL (V1 ++ ls) = l1 from by unfold vsL; rw [r1], show vsR (V1 ++ ls) = ls from by unfold vsR; rw [r1], r1] at CT1
  rw [r2] at CT2
  clear r0 r1 r2 hV0 hV1 hV2 gz g0 g1 ho1 C0
  go_wp2_with fail
  refine (CV0.out _ HO1.out).mono ?_
  rintro e w2 ⟨rfl, ho2⟩
  have HO2 := Lib.hid (HO1.out.tr ho2)
  clear ho2 HO1
  go_wp2_with fail
  refine (CV1.out _ HO2.out).mono ?_
  rintro e w3 ⟨rfl, ho3⟩
  have HO3 := Lib.hid (HO2.out.tr ho3)
  clear ho3 HO2
  go_wp2_with fail
  refine (CT0.out _).mono ?_
  rintro e w4 ⟨x, rfl, hx, ho4⟩
  obtain ⟨XA, xc, rfl⟩ := (SlAt.of_own hx).shape
  have HX4 := Lib.hid hx
  have HO4 := Lib.hid (HO3.out.tr ho4)
  clear ho4 HO3 hx
  go_wp2_with fail
  refine (CT1.out _).mono ?_
  rintro e w8 ⟨y, rfl, hy, ho8⟩
  obtain ⟨YA, yc, rfl⟩ := (SlAt.of_own hy).shape
  have HX8 := Lib.hid (own_keep HX4.out ho8 (by simp))
  have HY8 := Lib.hid hy
  have HO8 := Lib.hid (HO4.out.tr ho8)
  have hW8 : W.heap.size ≤ w8.heap.size := HO8.out.size
  clear ho8 HO4 hy HX4
  have HG3 := HO8
  cases LA with
  | none =>
    obtain rfl := HH0.out rfl
    go_wp2_with (at_builtin
                 refine wpList_append_zeros _ rfl _ _ 25 3 rfl w8.heap.size 3 .i64 i0 _ 8 Try.underlying25 Try.underlying3 hi0 hz0 hz1 hz2 rfl rfl (.slice (some ⟨w8.heap.size, 0, none⟩) 0 0) 0 [] rfl (World.ownsRow_lit (base := w8.heap.size) (e := 3) (size := 1) w8 #[] 0 (Nat.le_refl _) (by decide) rfl) 10 rfl (by omega) wrap10 (by unfold maxLen; omega) (by omega) (by simp) ?_
                 intro v' w' hown' hgrow; have HSA := Lib.hid (ten_at [] hown'); have HO9 := Lib.hid (And.intro ((HO8.out.alloc (.cells #[] 3)).own (World.ownsRow_lit (base := w8.heap.size) (e := 3) (size := 1) w8 #[] 0 (Nat.le_refl _) (by decide) rfl) hgrow hW8) (((Only.refl [] w8).alloc (.cells #[] 3)).own (World.ownsRow_lit (base := w8.heap.size) (e := 3) (size := 1) w8 #[] 0 (Nat.le_refl _) (by decide) rfl) hgrow (Nat.le_refl _))); clear hown' hgrow)
    refine (CV2.out _ _ HSA.out).mono ?_
    rintro e w10 ⟨rfl, ho10⟩
    have HO10 := Lib.hid (HO9.out.1.tr ho10)
    have HX10 := Lib.hid (own_keep HX8.out (HO9.out.2.tr ho10) (by simp))
    have HY10 := Lib.hid (own_keep HY8.out (HO9.out.2.tr ho10) (by simp))
    clear ho10 HO9 CV2 HX8 HY8 HSA
    go_wp2_with fail
    refine (CT2.out _).mono ?_
    rintro e w11 ⟨q, rfl, hq, ho11⟩
    obtain ⟨QA, qc, rfl⟩ := (SlAt.of_own hq).shape
    have HO11 := Lib.hid (HO10.out.tr ho11)
    have HX11 := Lib.hid (SlAt.of_own (own_keep HX10.out ho11 (by simp)))
    have HY11 := Lib.hid (SlAt.of_own (own_keep HY10.out ho11 (by simp)))
    have CI := Lib.hid (ints7 _ _ [] [] w11 HX11.out ((HL0.out.only HO11.out (Nat.le_refl _) (by simp)).more HO11.out.size) (by simp) (by simp))
    rw [show decide (([] : List Int) = []) = true from decide_eq_true rfl] at CI
    clear ho11 HO10 CT2 hq HX10 HY10
    go_wp2_with fail
    refine CI.out.mono ?_
    rintro e w12 ⟨rfl, ho12⟩
    have HO12 := Lib.hid (HO11.out.tr ho12)
    have CJ := Lib.hid (ints7 _ _ l1 l1 w12 ((HY11.out.only ho12 (Nat.le_refl _) (by simp)).more ho12.size) ((HL1.out.only HO12.out (Nat.le_refl _) (by simp)).more HO12.out.size) (by omega) (by omega))
    rw [show decide (l1 = l1) = true from decide_eq_true rfl] at CJ
    have e1 : (ls == ls) = true := beq_self_eq_true _
    clear ho12 HO11 CI
    go_wp2_with fail
    refine CJ.out.mono ?_
    rintro e w13 ⟨rfl, ho13⟩
    have HO13 := Lib.hid (HO12.out.tr ho13)
    go_wp2_with fail
    go_ret
    exact ⟨rfl, HO13.out⟩
  | some A =>
    go_wp2_with (at_builtin; go_loud (first
      | (refine wpList_append_zeros _ rfl _ _ 25 3 rfl w8.heap.size 3 .i64 i0 _ 8 Try.underlying25 Try.underlying3 hi0 hz0 hz1 hz2 rfl rfl v9 _ _ rfl hown9 10 rfl (by omega) wrap10 (by unfold maxLen; omega) (by omega) hB9 ?_; intro v' w' hown' hgrow; have HSA := Lib.hid (ten_at l0 hown'); have HO9 := Lib.hid (And.intro (HO9a.out.own hown9 hgrow hW8) (HO8a.out.own hown9 hgrow (Nat.le_refl _))); clear hown' hgrow hown9)
      | (refine wpList_appX rfl _ _ 25 rfl w8.heap.size 3 i0 _ 1 8 Try.underlying25 hi0 hz0 hz1 hz2 rfl (by decide) (w8.alloc (.cells #[] 3)) (.slice (some ⟨w8.heap.size, 0, none⟩) 0 0) 0 [] rfl (World.ownsRow_lit (base := w8.heap.size) (e := 3) (size := 1) w8 #[] 0 (Nat.le_refl _) (by decide) rfl) W.heap.size l0.length (gvs l0) A lc rfl (HL0.out.only (HO8.out.alloc _) (Nat.le_refl _) (by simp)) (gvs_one l0) (by simp only [maxLen]; omega) (by omega) (by simp) ?_; intro v9 w9 hown9 hgrow9; rw [Nat.zero_add, List.nil_append] at hown9; have HO9a := Lib.hid ((HO8.out.alloc (.cells #[] 3)).own (World.ownsRow_lit (base := w8.heap.size) (e := 3) (size := 1) w8 #[] 0 (Nat.le_refl _) (by decide) rfl) hgrow9 hW8); have HO8a := Lib.hid (((Only.refl [] w8).alloc (.cells #[] 3)).own (World.ownsRow_lit (base := w8.heap.size) (e := 3) (size := 1) w8 #[] 0 (Nat.le_refl _) (by decide) rfl) hgrow9 (Nat.le_refl _)); have hB9 := HO8a.out.size; clear hgrow9)))
    refine (CV2.out _ _ HSA.out).mono ?_
    rintro e w10 ⟨rfl, ho10⟩
    have HO10 := Lib.hid (HO9.out.1.tr ho10)
    have HX10 := Lib.hid (own_keep HX8.out (HO9.out.2.tr ho10) (by simp))
    have HY10 := Lib.hid (own_keep HY8.out (HO9.out.2.tr ho10) (by simp))
    clear ho10 HO9 CV2 HX8 HY8 HSA
    go_wp2_with fail
    refine (CT2.out _).mono ?_
    rintro e w11 ⟨q, rfl, hq, ho11⟩
    obtain ⟨QA, qc, rfl⟩ := (SlAt.of_own hq).shape
    have HO11 := Lib.hid (HO10.out.tr ho11)
    have HX11 := Lib.hid (SlAt.of_own (own_keep HX10.out ho11 (by simp)))
    have HY11 := Lib.hid (SlAt.of_own (own_keep HY10.out ho11 (by simp)))
    have CI := Lib.hid (ints7 _ _ l0 l0 w11 HX11.out ((HL0.out.only HO11.out (Nat.le_refl _) (by simp)).more HO11.out.size) (by omega) (by omega))
    rw [show decide (l0 = l0) = true from decide_eq_true rfl] at CI
    clear ho11 HO10 CT2 hq HX10 HY10
    go_wp2_with fail
    refine CI.out.mono ?_
    rintro e w12 ⟨rfl, ho12⟩
    have HO12 := Lib.hid (HO11.out.tr ho12)
    have CJ := Lib.hid (ints7 _ _ l1 l1 w12 ((HY11.out.only ho12 (Nat.le_refl _) (by simp)).more ho12.size) ((HL1.out.only HO12.out (Nat.le_refl _) (by simp)).more HO12.out.size) (by omega) (by omega))
    rw [show decide (l1 = l1) = true from decide_eq_true rfl] at CJ
    have e1 : (ls == ls) = true := beq_self_eq_true _
    clear ho12 HO11 CI
    go_wp2_with fail
    refine CJ.out.mono ?_
    rintro e w13 ⟨rfl, ho13⟩
    have HO13 := Lib.hid (HO12.out.tr ho13)
    go_wp2_with fail
    go_ret
    exact ⟨rfl, HO13.out⟩
end Go.Proofs.Ytagklgodcbmcaaa
