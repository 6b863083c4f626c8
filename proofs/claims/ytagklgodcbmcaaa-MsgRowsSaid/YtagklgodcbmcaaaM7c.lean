/-
  Chapter 7: Voters.
-/
import Derived.Test.YtagklgodcbmcaaaM7b
import Derived.Test.YtagklgodcbmcaaaR1t
import Derived.Test.YtagklgodcbmcaaaWr
namespace Go.Proofs.Ytagklgodcbmcaaa
open Go.RowKit
theorem isb_bound (l : List Int) (h : ∀ x ∈ l, Wide64 x) (n : Nat) (hl : l.length ≤ n) : (isb l).length ≤ 10 * n := by
  have := isb_length l h; omega
set_option maxRecDepth 100000 in
set_option maxHeartbeats 1000000 in
theorem msg_voters (v : Value) (l : List Int) (w : World) (hs : SlAt w w.heap.size v 1 l.length (gvs l)) (hw : ∀ x ∈ l, Wide64 x) (hl : l.length ≤ 1000000) :
    Calls Try.prog 46 #[v] w fun e w' => e = .returned (.string ⟨(vtx l).toArray⟩) ∧ Only [] w w' := by
  obtain ⟨A, c, rfl⟩ := hs.shape
  have hL := isb_bound l hw 1000000 hl
  have hN := (ib_length l.length ⟨by omega, by omega⟩).2
  have C1 := Lib.hid (codec_int (.slice (some ⟨w.heap.size, 0, none⟩) 1 1) [(l.length : Int)] _ (lit_ints w [(l.length : Int)] w.heap.size rfl (by simp)) (by intro x hx; simp at hx; subst hx; exact ⟨by omega, by omega⟩) (by simp))
  have C2 := Lib.hid (fun w' (ho : Only [] w w') => codec_int (.slice A l.length c) l w' ((hs.only ho (Nat.le_refl _) (by simp)).more ho.size) hw (by omega))
  have hV : Hid (vtx l = isb [(l.length : Int)] ++ isb l) := Lib.hid (by unfold vtx isb; simp)
  have h1 : Hid (isb [(l.length : Int)] = ib l.length) := Lib.hid (by unfold isb; simp)
  rw [h1.out] at C1 hV
  obtain ⟨I, hI⟩ : ∃ I, ib (l.length : Int) = I := ⟨_, rfl⟩
  obtain ⟨J, hJ⟩ : ∃ J, isb l = J := ⟨_, rfl⟩
  rw [hI] at C1 hV hN
  rw [hJ] at C2 hV hL
  have hIJ : I.length + J.length ≤ 9223372036854775807 := by omega
  have oA : Hid (Only [] w (w.alloc (.cells (gvs [(l.length : Int)]).toArray 3))) := Lib.hid ((Only.refl _ _).alloc _)
  clear hI hJ hs h1
  go_enter Try.func46, Try.ntmps46
  go_wp2_with fail
  refine C1.out.mono ?_
  rintro e w1 ⟨rfl, ho1⟩
  have oB := Lib.hid (oA.out.tr ho1)
  clear ho1
  go_wp2_with fail
  refine (C2.out _ oB.out).mono ?_
  rintro e w2 ⟨rfl, ho2⟩
  have oC := Lib.hid (oB.out.tr ho2)
  clear ho2 C1 C2
  go_wp2_with fail
  go_ret
  exact ⟨by rw [hV.out]; first | rfl | simp [ba_append], oC.out⟩
end Go.Proofs.Ytagklgodcbmcaaa
