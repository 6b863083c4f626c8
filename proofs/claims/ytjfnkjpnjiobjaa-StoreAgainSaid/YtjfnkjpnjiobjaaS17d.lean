/-
  Chapter 17: shown. (Printed by gen_s17d.py.)
-/
import Derived.Test.YtjfnkjpnjiobjaaS17c
namespace Go.Proofs.Ytjfnkjpnjiobjaa
open Go.RowKit
/-- A store made since W. -/
structure StW (W w : World) (b : Nat) (O : List Nat) (S : Sv) : Prop where
  st : St w b O S
  ho : Only [] W w
  lo : ∀ x ∈ O, W.heap.size ≤ x
theorem StW.read {W w w' : World} {b : Nat} {O : List Nat} {S : Sv} (h : StW W w b O S) (ho : Only [] w w') : StW W w' b O S := ⟨h.st.keep ho (by simp), h.ho.tr ho, h.lo⟩
theorem StW.step {W w w' : World} {b : Nat} {O O' : List Nat} {S S' : Sv} (h : StW W w b O S) (h1 : St w' b O' S') (h2 : Only O w w') (h3 : ∀ x ∈ O', x ∈ O ∨ w.heap.size ≤ x) : StW W w' b O' S' :=
  ⟨h1, h.ho.trans h2 (fun x hx => .inr (h.lo x hx)), fun x hx => by
    rcases h3 x hx with h4 | h4
    · exact h.lo x h4
    · exact Nat.le_trans h.ho.size h4⟩
theorem StW.op {W w w' : World} {b : Nat} {O : List Nat} {S S' : Sv} (h : StW W w b O S) (h1 : OpS w w' b O S') : ∃ O', StW W w' b O' S' ∧ Only O w w' ∧ ∀ x ∈ O', x ∈ O ∨ w.heap.size ≤ x := by
  obtain ⟨O', h2, h3, h4⟩ := h1
  exact ⟨O', h.step h2 h3 h4, h3, h4⟩
def fF : List UInt8 := [102]
def iX : It := ⟨[120], [], []⟩
def iY : It := ⟨[121], [], []⟩
def sh1 : Sv := [(fF, ⟨-1, 0, []⟩)]
def sh2 : Sv := [(fF, ⟨3, 0, [⟨1, iX, false⟩, ⟨2, iY, false⟩]⟩)]
def sh3 : Sv := [(fF, ⟨3, 0, [⟨1, iX, false⟩, ⟨2, iY, true⟩]⟩)]
def sh4 : Sv := [(fF, ⟨5, 1, [⟨1, iX, false⟩, ⟨2, iY, true⟩]⟩)]
theorem e_s1 : subS [] [102] = (0, sh1) := by kernel_rfl
theorem e_s2 : subS sh1 [102] = (5, sh1) := by kernel_rfl
theorem e_s3 : subS sh1 [97, 32, 98] = (3, sh1) := by kernel_rfl
theorem e_i1 : ingR sh1 [102] [iX, iY, iX] 3 = (2, 0, sh2) := by kernel_rfl
theorem e_i2 : ingR sh2 [102] [iX, iY, iX] 3 = (0, 0, sh2) := by kernel_rfl
theorem e_l : listS sh2 [102] 1 = ([⟨2, iY, false⟩], 0) := by kernel_rfl
theorem e_m1 : markS sh2 [102] [121] = (0, sh3) := by kernel_rfl
theorem e_m2 : markS sh3 [102] [122] = (4, sh3) := by kernel_rfl
theorem e_f : failS sh3 [102] 5 = (0, sh4) := by kernel_rfl
theorem e_p : fnd sh4 [102] = some ⟨5, 1, [⟨1, iX, false⟩, ⟨2, iY, true⟩]⟩ := by kernel_rfl
theorem mx (n : Nat) (h : n ≤ 1000) : n ≤ maxLen := by unfold maxLen; omega
theorem len_xyx : ∀ x ∈ [iX, iY, iX], x.Len := by
  intro x hx
  simp only [List.mem_cons, List.not_mem_nil, or_false] at hx
  rcases hx with rfl | rfl | rfl <;> exact ⟨mx _ (by decide), mx _ (by decide), mx _ (by decide)⟩
set_option maxRecDepth 100000 in
set_option maxHeartbeats 4000000 in
theorem shown17 (w : World) : Calls Try.prog 15 #[] w fun e w' => e = .returned (.bool true) ∧ Only [] w w' := by
  have C0 := Lib.hid (st_new w)
  go_enter Try.func15, Try.ntmps15
  go_wp2_with fail
  refine C0.out.mono ?_
  rintro e w0 ⟨b, O0, rfl, hs0, hl0, ho0⟩
  have H0 : Hid (StW w w0 b O0 []) := Lib.hid ⟨hs0, ho0, hl0⟩
  clear C0 hs0 hl0 ho0
  have C1 := Lib.hid (st_sub b O0 [] [102] (mx _ (by decide)) w0 H0.out.st)
  rw [e_s1] at C1
  go_wp2_with fail
  refine C1.out.mono ?_
  rintro e w1 ⟨rfl, hop⟩
  obtain ⟨O1, hs1, hf1, _⟩ := H0.out.op hop
  have H1 := Lib.hid hs1
  clear hop hs1 hf1 C1
  have C2 := Lib.hid (st_sub b O1 sh1 [102] (mx _ (by decide)) w1 H1.out.st)
  rw [e_s2] at C2
  go_wp2_with fail
  refine C2.out.mono ?_
  rintro e w2 ⟨rfl, hop⟩
  obtain ⟨O2, hs2, hf2, _⟩ := H1.out.op hop
  have H2 := Lib.hid hs2
  clear hop hs2 hf2 C2
  have C3 := Lib.hid (st_sub b O2 sh1 [97, 32, 98] (mx _ (by decide)) w2 H2.out.st)
  rw [e_s3] at C3
  go_wp2_with fail
  refine C3.out.mono ?_
  rintro e w3 ⟨rfl, hop⟩
  obtain ⟨O3, hs3, hf3, _⟩ := H2.out.op hop
  have H3 := Lib.hid hs3
  clear hop hs3 hf3 C3
  obtain ⟨w4, hw4⟩ : ∃ w4, w3.alloc (.cells (itL [iX, iY, iX]).toArray 36) = w4 := ⟨_, rfl⟩
  obtain ⟨y, hy⟩ : ∃ y, w3.heap.size = y := ⟨_, rfl⟩
  have hO4 : Only [] w3 w4 := hw4 ▸ (Only.refl _ _).alloc _
  have hC4 : Cells w4 y 36 (itL [iX, iY, iX]) := hw4 ▸ hy ▸ Cells.new w3 _ _
  have H4 := Lib.hid (H3.out.read hO4)
  have HR4 : Hid (SlAt w4 w4.heap.size (.slice (some ⟨y, 0, none⟩) 3 3) 3 3 (itL [iX, iY, iX])) := Lib.hid (SlAt.cells (n := 3) (sz := 3) hC4 rfl (by unfold maxLen; omega))
  have HYO : Hid (∀ x ∈ O3, x ≠ y) := Lib.hid (fun x hx e => by have := H3.out.st.bw x hx; omega)
  have HC4 := Lib.hid hC4
  obtain ⟨O4, hO4e⟩ : ∃ O4, O3 = O4 := ⟨_, rfl⟩
  rw [hO4e] at H4 HYO
  have hw4' : w3.alloc (.cells #[.string ⟨#[120]⟩, .string ⟨#[]⟩, .string ⟨#[]⟩, .string ⟨#[121]⟩, .string ⟨#[]⟩, .string ⟨#[]⟩, .string ⟨#[120]⟩, .string ⟨#[]⟩, .string ⟨#[]⟩] 36) = w4 := hw4
  clear hw4 hC4 hO4 hO4e
  have hrow := Lib.hid (fun w' (X : List Nat) (ho : Only X w4 w') (hX : ∀ x ∈ X, x ≠ y) => (SlAt.cells (n := 3) (sz := 3) (HC4.out.only ho (fun h => hX y h rfl)) rfl (by unfold maxLen; omega) : SlAt w' w'.heap.size (.slice (some ⟨y, 0, none⟩) 3 3) 3 3 (itL [iX, iY, iX])))
  have C5 := Lib.hid (st_ingest b O4 sh1 [102] (mx _ (by decide)) (.slice (some ⟨y, 0, none⟩) 3 3) [iX, iY, iX] 3 w4 H4.out.st (fun w' ho => hrow.out w' O4 ho HYO.out) (by decide) len_xyx)
  rw [e_i1] at C5
  clear H0 H1 H2 H3 HR4
  go_wp2_with fail
  clear hw4' hy
  refine C5.out.mono ?_
  rintro e w5 ⟨rfl, hop⟩
  obtain ⟨O5, hs5, hf5, hn5⟩ := H4.out.op hop
  have H5 := Lib.hid hs5
  have hyl : y < w4.heap.size := HC4.out.lt
  have HYO5 : Hid (∀ x ∈ O5, x ≠ y) := Lib.hid (fun x hx => by
    rcases hn5 x hx with h | h
    · exact HYO.out x h
    · omega)
  have hrow5 := Lib.hid (fun w' (X : List Nat) (ho : Only X w5 w') (hX : ∀ x ∈ X, x ≠ y) => (SlAt.cells (n := 3) (sz := 3) ((HC4.out.only hf5 (fun h => HYO.out y h rfl)).only ho (fun h => hX y h rfl)) rfl (by unfold maxLen; omega) : SlAt w' w'.heap.size (.slice (some ⟨y, 0, none⟩) 3 3) 3 3 (itL [iX, iY, iX])))
  have C6 := Lib.hid (st_ingest b O5 sh2 [102] (mx _ (by decide)) (.slice (some ⟨y, 0, none⟩) 3 3) [iX, iY, iX] 3 w5 H5.out.st (fun w' ho => hrow5.out w' O5 ho HYO5.out) (by decide) len_xyx)
  rw [e_i2] at C6
  clear hop hs5 hf5 hn5 C5 hrow H4 HYO HC4
  go_wp2_with fail
  refine C6.out.mono ?_
  rintro e w6 ⟨rfl, hop⟩
  obtain ⟨O6, hs6, hf6, hn6⟩ := H5.out.op hop
  have H6 := Lib.hid hs6
  have C7 := Lib.hid (st_list b O6 sh2 [102] (mx _ (by decide)) 1 w6 H6.out.st)
  rw [e_l] at C7
  clear hop hs6 hf6 hn6 C6 hrow5 H5 HYO5
  go_wp2_with fail
  refine C7.out.mono ?_
  rintro e w7 ⟨v7, rfl, hown7, ho7⟩
  obtain ⟨A7, c7, rfl⟩ := (SlAt.of_own hown7).shape
  have H7 := Lib.hid (H6.out.read ho7)
  obtain ⟨w8, hw8⟩ : ∃ w8, w7.alloc (.cells (poL [⟨2, iY, false⟩]).toArray 38) = w8 := ⟨_, rfl⟩
  obtain ⟨y8, hy8⟩ : ∃ y, w7.heap.size = y := ⟨_, rfl⟩
  have hO8 : Only [] w7 w8 := hw8 ▸ (Only.refl _ _).alloc _
  have hC8 : Cells w8 y8 38 (poL [⟨2, iY, false⟩]) := hw8 ▸ hy8 ▸ Cells.new w7 _ _
  have C8 := Lib.hid (posts17 (.slice A7 1 c7) (.slice (some ⟨y8, 0, none⟩) 1 1) [⟨2, iY, false⟩] w8 (SlAt.of_own (own_keep hown7 hO8 (by simp))) (SlAt.cells (n := 1) (sz := 5) hC8 rfl (by unfold maxLen; omega)) (by decide))
  have H8 := Lib.hid (H7.out.read hO8)
  have hw8' : w7.alloc (.cells #[.int .i64 2, .string ⟨#[121]⟩, .string ⟨#[]⟩, .string ⟨#[]⟩, .bool false] 38) = w8 := hw8
  clear hown7 ho7 hw8 hO8 hC8 C7 H6
  go_wp2_with fail
  clear hw8' hy8
  refine C8.out.mono ?_
  rintro e w9 ⟨rfl, ho9⟩
  have H9 := Lib.hid (H8.out.read ho9)
  have C9 := Lib.hid (st_mark b O6 sh2 [102] (mx _ (by decide)) [121] (mx _ (by decide)) w9 H9.out.st)
  rw [e_m1] at C9
  clear ho9 C8 H7 H8
  go_wp2_with fail
  refine C9.out.mono ?_
  rintro e w10 ⟨rfl, hop⟩
  obtain ⟨O10, hs10, _, _⟩ := H9.out.op hop
  have H10 := Lib.hid hs10
  have C10 := Lib.hid (st_mark b O10 sh3 [102] (mx _ (by decide)) [122] (mx _ (by decide)) w10 H10.out.st)
  rw [e_m2] at C10
  clear hop hs10 C9 H9
  go_wp2_with fail
  refine C10.out.mono ?_
  rintro e w11 ⟨rfl, hop⟩
  obtain ⟨O11, hs11, _, _⟩ := H10.out.op hop
  have H11 := Lib.hid hs11
  have C11 := Lib.hid (st_fail b O11 sh3 [102] (mx _ (by decide)) 5 w11 H11.out.st)
  rw [e_f] at C11
  clear hop hs11 C10 H10
  go_wp2_with fail
  refine C11.out.mono ?_
  rintro e w12 ⟨rfl, hop⟩
  obtain ⟨O12, hs12, _, _⟩ := H11.out.op hop
  have H12 := Lib.hid hs12
  have C12 := Lib.hid (st_polled b O12 sh4 [102] (mx _ (by decide)) w12 H12.out.st)
  rw [e_p] at C12
  clear hop hs12 C11 H11
  go_wp2_with fail
  refine C12.out.mono ?_
  rintro e w13 ⟨rfl, ho13⟩
  have H13 := Lib.hid (H12.out.read ho13)
  clear ho13 C12 H12
  go_wp2_with fail
  go_ret
  exact ⟨rfl, H13.out.ho⟩
end Go.Proofs.Ytjfnkjpnjiobjaa
