/-
  Chapter 15's examples.
-/
import Derived.Test.YtojhbhdlbbmghaaLaw15c
namespace Go.Proofs.Ytojhbhdlbbmghaa
open Go.RowKit
theorem own_ge {w : World} {B b : Nat} {v : Value} {l : List Ses} {ever : Int} (h : TbV w B b v l ever) : ∀ x, x ∈ b :: rb v → B ≤ x := by
  intro x hx
  rcases List.mem_cons.1 hx with rfl | hx
  · exact h.1
  · unfold rb at hx
    exact (h.2.2.lt x (by simpa using hx)).1
/-- What only turns a table turns nothing that was there before the table. -/
theorem Only.past {S : List Nat} {a w w' : World} {B b : Nat} {v : Value} {l : List Ses} {ever : Int} (ho : Only S a w) (h : TbV w B b v l ever) (hB : a.heap.size ≤ B) (hw : Only (b :: rb v) w w') : Only S a w' :=
  ho.trans hw fun x hx => .inr (Nat.le_trans hB (own_ge h x hx))
theorem TbV.only {w w' : World} {B b : Nat} {v : Value} {l : List Ses} {ever : Int} (h : TbV w B b v l ever) (ho : Only [] w w') : TbV w' B b v l ever :=
  ⟨h.1, h.2.1.only ho (by simp), own_only h.2.2 ho (by simp)⟩
set_option maxRecDepth 100000 in
set_option maxHeartbeats 1000000 in
theorem shown15 (w : World) : Calls Try.prog 43 #[] w fun e w' => e = .returned (.bool true) ∧ Only [] w w' := by
  go_enter Try.func43, Try.ntmps43
  go_wp2_with fail
  refine (new15 w).mono ?_
  rintro e w1 ⟨rfl, h1, ho1, _⟩
  have hh1 : TbV w1 w.heap.size w.heap.size (.slice none 0 0) [] 0 := h1
  have H1 := Lib.hid hh1
  clear h1 hh1
  go_wp2_with fail
  refine (tbs_register _ _ _ _ _ _ H1.out (by simp) (by omega)).mono ?_
  rintro e w2 ⟨rfl, v2, h2, ho2, _⟩
  have hoA := ho1.past H1.out (Nat.le_refl _) ho2
  have hh2 : TbV w2 w.heap.size w.heap.size v2 [⟨1, 0, .empty⟩] 1 := h2
  have H2 := Lib.hid hh2
  clear h2 hh2 ho1 ho2 H1
  go_wp2_with fail
  refine (tbs_register _ _ _ _ _ _ H2.out (by simp) (by omega)).mono ?_
  rintro e w3 ⟨rfl, v3, h3, ho3, _⟩
  have hoB := hoA.past H2.out (Nat.le_refl _) ho3
  have hh3 : TbV w3 w.heap.size w.heap.size v3 [⟨1, 0, .empty⟩, ⟨2, 0, .empty⟩] 2 := h3
  have H3 := Lib.hid hh3
  clear h3 hh3 hoA ho3 H2
  go_wp2_with fail
  have a1 : askV (askS [⟨1, 0, .empty⟩, ⟨2, 0, .empty⟩] 1 5) = .tuple #[.int .i64 0, .string ⟨#[]⟩] := by rfl
  have c1 := tbs_ask _ _ _ _ 1 5 w3 H3.out.s (by simp)
  rw [a1] at c1
  refine c1.mono ?_
  clear c1 a1
  rintro e w4 ⟨rfl, ho4⟩
  have hoC := hoB.tr0 ho4
  have H4 := Lib.hid (H3.out.only ho4)
  clear hoB ho4 H3
  go_wp2_with fail
  have d1 : ((askS [⟨1, 0, .empty⟩, ⟨2, 0, .empty⟩] 1 5).1 == 0) = true := by rfl
  have c1 := tbs_done _ _ _ _ _ 1 5 ⟨#[97]⟩ w4 H4.out (by simp)
  rw [d1] at c1
  refine c1.mono ?_
  clear c1 d1
  rintro e w5 ⟨rfl, v5, h5, ho5, _⟩
  have hoD := hoC.past H4.out (Nat.le_refl _) ho5
  have hh5 : TbV w5 w.heap.size w.heap.size v5 [⟨2, 0, .empty⟩, ⟨1, 5, ⟨#[97]⟩⟩] 2 := h5
  have H5 := Lib.hid hh5
  clear h5 hh5 hoC ho5 H4
  go_wp2_with fail
  have a2 : askV (askS [⟨2, 0, .empty⟩, ⟨1, 5, ⟨#[97]⟩⟩] 1 5) = .tuple #[.int .i64 1, .string ⟨#[97]⟩] := by rfl
  have c2 := tbs_ask _ _ _ _ 1 5 w5 H5.out.s (by simp)
  rw [a2] at c2
  refine c2.mono ?_
  clear c2 a2
  rintro e w6 ⟨rfl, hx2⟩
  have hoE := hoD.tr0 hx2
  have H6 := Lib.hid (H5.out.only hx2)
  clear hoD hx2 H5
  go_wp2_with fail
  have a3 : askV (askS [⟨2, 0, .empty⟩, ⟨1, 5, ⟨#[97]⟩⟩] 1 4) = .tuple #[.int .i64 2, .string ⟨#[]⟩] := by rfl
  have c3 := tbs_ask _ _ _ _ 1 4 w6 H6.out.s (by simp)
  rw [a3] at c3
  refine c3.mono ?_
  clear c3 a3
  rintro e w7 ⟨rfl, hx3⟩
  have hoF := hoE.tr0 hx3
  have H7 := Lib.hid (H6.out.only hx3)
  clear hoE hx3 H6
  go_wp2_with fail
  have a4 : askV (askS [⟨2, 0, .empty⟩, ⟨1, 5, ⟨#[97]⟩⟩] 1 6) = .tuple #[.int .i64 0, .string ⟨#[]⟩] := by rfl
  have c4 := tbs_ask _ _ _ _ 1 6 w7 H7.out.s (by simp)
  rw [a4] at c4
  refine c4.mono ?_
  clear c4 a4
  rintro e w8 ⟨rfl, hx4⟩
  have hoG := hoF.tr0 hx4
  have H8 := Lib.hid (H7.out.only hx4)
  clear hoF hx4 H7
  go_wp2_with fail
  have a5 : askV (askS [⟨2, 0, .empty⟩, ⟨1, 5, ⟨#[97]⟩⟩] 9 1) = .tuple #[.int .i64 3, .string ⟨#[]⟩] := by rfl
  have c5 := tbs_ask _ _ _ _ 9 1 w8 H8.out.s (by simp)
  rw [a5] at c5
  refine c5.mono ?_
  clear c5 a5
  rintro e w9 ⟨rfl, hx5⟩
  have hoH := hoG.tr0 hx5
  have H9 := Lib.hid (H8.out.only hx5)
  clear hoG hx5 H8
  go_wp2_with fail
  refine (tbs_ids _ _ _ _ w9 H9.out.s (by simp)).mono ?_
  rintro e wi ⟨vi, rfl, hown, hoi⟩
  have hoI := hoH.tr0 hoi
  obtain ⟨g, cap, rfl, _, _, q0⟩ := own_cell (k := 0) hown rfl
  have q1 : wi.cell? ⟨g, 1, none⟩ = some (.int .i64 1) := by
    obtain ⟨g', cap', hv, _, _, q1⟩ := own_cell (k := 1) hown rfl
    injection hv with e1 _ _
    injection e1 with e1
    injection e1 with e1 _ _
    rw [e1]; exact q1
  have q0 : wi.cell? ⟨g, 0, none⟩ = some (.int .i64 2) := q0
  clear hown hoH hoi H9
  go_wp2_with fail
  go_ret
  exact ⟨rfl, hoI⟩
end Go.Proofs.Ytojhbhdlbbmghaa
