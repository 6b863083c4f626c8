/-
  Chapter 18: the chapter's examples.
-/
import Derived.Test.YtjfnkjpnjiobjaaC18x
namespace Go.Proofs.Ytjfnkjpnjiobjaa
open Go.RowKit
def Cm.e1 : Cm := ⟨2, 1, 2, 0, 0, 0, 0, [102], [], [], false⟩
def Cm.e2 : Cm := ⟨2, 0, 0, 1, 0, 0, 0, [], [], [], false⟩
theorem e1_right : rightB Cm.e1 = true := by decide +kernel
theorem e2_wrong : rightB Cm.e2 = false := by decide +kernel
theorem e1_bytes : cmdb Cm.e1 = [4, 2, 4, 0, 0, 0, 0, 2, 102, 0, 0, 0] := by decide +kernel
theorem rp_zero_bytes : rpb Rp.zero = [0, 0, 0] := by decide +kernel
theorem cmdb_ne (c : Cm) : cmdb c ≠ [] := by unfold cmdb bb; simp
theorem unC_nil : unC [] = none := by
  cases h : unC [] with
  | none => rfl
  | some c => exact absurd ((unC_iff [] (by simp) c).1 h).2 (cmdb_ne c)
theorem lit_at (w : World) (c : Cm) (h1 : c.its = []) (h2 : c.fd.length ≤ 10) (h3 : c.id.length ≤ 10) (h4 : ∀ x ∈ [c.kd, c.ss, c.sq, c.sh, c.nd, c.ep, c.n], Wide64 x) : CmAt w (.slice none 0 0) c :=
  ⟨by rw [h1]; exact SlAt.of_own (World.ownsRow_nil w 0 36 3), by rw [h1]; simp, by unfold maxLen; omega, by unfold maxLen; omega, h4⟩
theorem small_wide {l : List Int} (h : (l.all fun x => decide (-100 ≤ x) && decide (x ≤ 100)) = true) : ∀ x ∈ l, Wide64 x := by
  intro x hx
  have := List.all_eq_true.1 h x hx
  simp only [Bool.and_eq_true, decide_eq_true_eq] at this
  exact ⟨by omega, by omega⟩
set_option maxRecDepth 100000 in
set_option maxHeartbeats 2000000 in
theorem shown18 (w : World) : Calls Try.prog 29 #[] w fun e w' => e = .returned (.bool true) ∧ Only [] w w' := by
  have C1 := Lib.hid (fun w' => cmd_pack Cm.e1 (.slice none 0 0) w' (lit_at w' Cm.e1 rfl (by decide) (by decide) (small_wide (by decide))))
  have C2 := Lib.hid (fun w' => cmd_pack Cm.e2 (.slice none 0 0) w' (lit_at w' Cm.e2 rfl (by decide) (by decide) (small_wide (by decide))))
  have C3 := Lib.hid (fun w' => cmd_unpack [] w' (by simp))
  have C4 := Lib.hid (fun w' => cmd_answer Rp.zero (.slice none 0 0) w' (rp_zero_at w'))
  have p1 : pkS Cm.e1 = [4, 2, 4, 0, 0, 0, 0, 2, 102, 0, 0, 0] := by unfold pkS; rw [e1_right, if_pos rfl, e1_bytes]
  have p2 : pkE Cm.e1 = 0 := by unfold pkE; rw [e1_right, if_pos rfl]
  have p3 : pkE Cm.e2 = 1 := by unfold pkE; rw [e2_wrong]; rfl
  have p4 : pkS Cm.e2 = [] := by unfold pkS; rw [e2_wrong]; rfl
  rw [p1, p2] at C1
  rw [p3, p4] at C2
  rw [rp_zero_bytes] at C4
  unfold UnCW at C3
  rw [unC_nil] at C3
  clear p1 p2 p3 p4
  go_enter Try.func29, Try.ntmps29
  go_wp2_with fail
  refine (C1.out _).mono ?_
  rintro e w1 ⟨rfl, ho1⟩
  dsimp only
  have HO1 := Lib.hid ho1
  clear ho1
  go_wp2_with fail
  refine (C2.out _).mono ?_
  rintro e w2 ⟨rfl, ho2⟩
  dsimp only
  have HO2 := Lib.hid (HO1.out.tr ho2)
  clear ho2
  go_wp2_with fail
  refine (C3.out _).mono ?_
  rintro e w3 ⟨iv, rfl, hc3, ho3⟩
  obtain ⟨IA, ic, rfl⟩ := hc3.its.shape
  dsimp only [Option.getD, Option.isSome, Cm.val, Cm.zero, List.length_nil]
  have HO3 := Lib.hid (HO2.out.tr ho3)
  clear ho3 hc3
  go_wp2_with fail
  refine (C4.out _).mono ?_
  rintro e w4 ⟨rfl, ho4⟩
  dsimp only
  have HO4 := Lib.hid ((HO3.out.alloc _).tr ho4)
  clear ho4
  go_wp2_with fail
  go_ret
  exact ⟨rfl, HO4.out⟩
end Go.Proofs.Ytjfnkjpnjiobjaa
