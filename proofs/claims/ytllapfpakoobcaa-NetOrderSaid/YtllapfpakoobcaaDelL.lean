/-
  slices.Delete at net's rows.
-/
import Derived.Test.YtllapfpakoobcaaRow
namespace Go.Proofs.Ytllapfpakoobcaa
open Go.RowKit
theorem info_let : (Try.prog.info? 37).map (fun i => (i.zero, i.size, i.bytes)) = some (some (.agg #[.int .i64 0, .int .i64 0, .string .empty]), 3, 32) := by kernel_rfl

set_option maxRecDepth 100000 in
set_option maxHeartbeats 1000000 in
theorem delete_let (g cap n i j : Nat) (cs : List Value) (w : World) (hC : Cells w g 37 cs) (hl : cs.length = cap * 3) (hn : n ≤ cap) (hcm : cap ≤ maxLen) (hij : i < j) (hj : j ≤ n) (h1 : ∀ u ∈ cs.take (n * 3), u.oneCell' = true) :
    Calls Try.prog 42 #[.slice (some ⟨g, 0, none⟩) n cap, .int .i64 i, .int .i64 j] w fun e w' =>
      e = .returned (.slice (some ⟨g, 0, none⟩) (n - (j - i)) cap) ∧ ∃ cs', Cells w' g 37 cs' ∧ cs'.length = cap * 3 ∧ cs'.take ((n - (j - i)) * 3) = cs.take (i * 3) ++ (cs.take (n * 3)).drop (j * 3) ∧ Only [g] w w' := by
  obtain ⟨i0, hi0, hz0, hz1, hz2⟩ := info_parts info_let
  have hij2 : ((i : Int) == (j : Int)) = false := by simp; omega
  have hcm2 : cap ≤ 9223372036854775807 := by unfold maxLen at hcm; omega
  have hic : i ≤ cap := by omega
  have hjc : j ≤ cap := by omega
  have HC := Lib.hid hC
  clear hC
  go_enter Try.func42, Try.ntmps42
  go_wp2_with fail
  go_still_tail 6, (by kernel_rfl)
  change wpList _ _ _ _ _ w.drew
  obtain ⟨news, hnews⟩ : ∃ news, (cs.take (n * 3)).drop (j * 3) = news := ⟨_, rfl⟩
  have hnl : news.length = (n - j) * 3 := by rw [← hnews]; simp; omega
  obtain ⟨A, hA, hr⟩ : ∃ A : Addr, (if cap = j then some (⟨g, 0, none⟩ : Addr) else some ⟨g, j * 3, none⟩) = some A ∧ Hid (∀ t u, news[t]? = some u → w.drew.cell? (A.add t) = some u) := by
    by_cases h : cap = j
    · refine ⟨⟨g, 0, none⟩, by simp [h], fun t u hu => ?_⟩
      have h0 : news = [] := List.length_eq_zero_iff.1 (by rw [hnl]; omega)
      rw [h0] at hu; simp at hu
    · refine ⟨⟨g, j * 3, none⟩, by simp [h], fun t u hu => ?_⟩
      have ht := (List.getElem?_eq_some_iff.1 hu).1
      rw [← hnews, List.getElem?_drop, List.getElem?_take_of_lt (by omega)] at hu
      rw [Addr.add_lit]
      exact HC.out.drew.cell hu
  rw [hA]
  have h1n : ∀ u ∈ news, u.oneCell' = true := by
    intro u hu
    rw [← hnews] at hu
    exact h1 u (List.mem_of_mem_drop hu)
  refine wpList_room w.drew rfl _ _ 46 rfl 37 i0 3 Try.underlying46 hi0 hz1 g i cap cs HC.out.drew rfl A (n - j) (cap - j) news rfl hnl hr.out h1n (by omega) hl ?_
  have hC1 := HC.out.drew.setMany (i * 3) news
  have ho1 : Only [g] w (w.drew.setCells g (i * 3) news) := (Only.refl [g] w).drew.setCells (.inl (by simp)) _ _
  have hp1 := putL_eq news (i * 3) cs (by omega)
  have hpl := putL_length news (i * 3) cs
  obtain ⟨w1, hw1⟩ : ∃ w1, w.drew.setCells g (i * 3) news = w1 := ⟨_, rfl⟩
  obtain ⟨cs1, hcs1⟩ : ∃ cs1, putL cs (i * 3) news = cs1 := ⟨_, rfl⟩
  rw [hw1] at hC1 ho1 ⊢
  rw [hcs1] at hC1 hp1 hpl
  have HC1 := Lib.hid hC1
  have HP1 := Lib.hid hp1
  clear hw1 hcs1 hC1 hp1 hA hr HC
  go_wp2_with fail
  obtain ⟨zs, hzl, hz1c, hcl⟩ := run_clear_cells w1 46 37 0 (.agg #[.int .i64 0, .int .i64 0, .string .empty]) 3 Try.underlying46 (fun w => by simp [zeroValue, typeInfo, hi0, hz0]) rfl (by simp [Value.cells, Value.oneCell']) g ((i + (n - j)) * 3) (n - (i + (n - j))) (cap - (i + (n - j))) cs1 HC1.out (by omega) (by rw [hpl, hl]; omega)
  rw [hcl]
  simp only [Result.andThen]
  rw [Oper.upon_value]
  clear hcl
  have hC2 := HC1.out.setMany ((i + (n - j)) * 3) zs
  have ho2 := ho1.setCells (b := g) (.inl (by simp)) ((i + (n - j)) * 3) zs
  have hp2 := putL_eq zs ((i + (n - j)) * 3) cs1 (by rw [hpl, hl, hzl]; omega)
  have hpl2 := putL_length zs ((i + (n - j)) * 3) cs1
  go_wp2_with fail
  go_ret
  refine ⟨by rw [show n - (j - i) = i + (n - j) from by omega]; rfl, _, hC2, by omega, ?_, ho2⟩
  · rw [hp2, show n - (j - i) = i + (n - j) from by omega, List.append_assoc, List.take_append_of_le_length (by rw [List.length_take]; omega), List.take_take, Nat.min_self, HP1.out, hnews]
    rw [List.take_append_of_le_length (by rw [List.length_append, List.length_take, hnl]; omega), List.take_of_length_le (by rw [List.length_append, List.length_take, hnl]; omega)]
end Go.Proofs.Ytllapfpakoobcaa
