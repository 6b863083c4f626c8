/-
  Chapter 15: whether a table and the reference's are alike.
-/
import Derived.Test.YtojhbhdlbbmghaaRef15c
import Derived.Test.YtojhbhdlbbmghaaLaw15c
namespace Go.Proofs.Ytojhbhdlbbmghaa
open Go.RowKit
set_option maxRecDepth 100000 in
set_option maxHeartbeats 1000000 in
theorem alike15 (B b B' b' : Nat) (v' : Value) (l : List Ses) (ever : Int) (w : World) (h : TbS w B b l ever) (h' : RtV w B' b' v' l ever) (hl : l.length ≤ 1000) (he : Wide64 ever) (hf : ∀ s ∈ l, s.Fit) :
    Calls Try.prog 55 #[.pointer (some ⟨b, 0, none⟩), .pointer (some ⟨b', 0, none⟩)] w fun e w' => e = .returned (.bool true) ∧ Only [] w w' := by
  have HI := Lib.hid (tbs_ids B b l ever w h hl)
  have HT := Lib.hid h
  have HR := Lib.hid h'
  have HF := Lib.hid hf
  clear h h' hf
  go_enter Try.func55, Try.ntmps55
  go_wp2_with fail
  refine HI.out.mono ?_
  rintro e w1 ⟨vi, rfl, hown, ho1⟩
  have hRc := (HR.out.only ho1).2.1
  have hRo := (HR.out.only ho1).2.2
  obtain ⟨A', c', rfl⟩ := (SlAt.of_own hRo).shape
  obtain ⟨Ai, ci, rfl⟩ := (SlAt.of_own hown).shape
  have c0 := hRc.cell (k := 0) rfl
  have HS1 := Lib.hid (SlAt.of_own hRo)
  have HS2 := Lib.hid (SlAt.of_own hown)
  clear hRc hRo hown
  go_wp2_with fail
  go_loopw [6] (fun i wr => ∃ k : Nat, k ≤ l.length ∧ i = .int .i64 k ∧ Only [] w1 wr) (fun i _ => l.length - (intOf i).toNat)
  case atStart => exact ⟨0, by omega, rfl, Only.refl _ _⟩
  case round =>
    obtain ⟨k, hk, rfl, ho⟩ := hrel
    by_cases hlt : k < l.length
    · have hlt' : (k : Int) < (l.length : Int) := by omega
      have hk1 := List.getElem?_eq_getElem hlt
      obtain ⟨x, hx⟩ : ∃ x, l[k] = x := ⟨_, rfl⟩
      rw [hx] at hk1
      obtain ⟨ab, ao, ac, hv, hab, hc⟩ := (HS1.out.only ho (Nat.le_refl _) (by simp)).at_ (by omega)
      have q0 : wr.cell? ⟨ab, ao + k * 3, none⟩ = some (.int .i64 x.id) := hc (k * 3 + 0) _ (sesL_get l k 0 x hk1 (by omega))
      obtain ⟨bb, bo, bc, hv2, hbb, hc2⟩ := (HS2.out.only ho (Nat.le_refl _) (by simp)).at_ (by omega)
      have q1 : wr.cell? ⟨bb, bo + k, none⟩ = some (.int .i64 x.id) := hc2 k _ (by unfold idv; rw [List.getElem?_map, hk1]; rfl)
      have e0 : wr.cell? ⟨b', 0, none⟩ = some (.slice A' l.length c') := (Since.mk wr ho).cell c0
      injection hv with e1 e2 e3
      injection hv2 with e4 e5 e6
      subst e1; subst e3; subst e4; subst e6
      clear e2 e5 hc hc2 hx hk1
      go_wp2_with fail
      go_quiet (fail)
      go_wp2_with fail
      go_roundw
      case rel => exact ⟨k + 1, by omega, by go_num, ho.drewN _⟩
      case measure => simp [intOf]; omega
    · have hd0 : decide ((k : Int) < (l.length : Int)) = false := by simp; omega
      have hoA := ho1.tr0 ho
      have HP := Lib.hid (tbs_pack B b l ever wr (HT.out.only hoA) hl he HF.out)
      go_wp2_with fail
      refine HP.out.mono ?_
      rintro e w2 ⟨rfl, ho2⟩
      have HP2 := Lib.hid (rt_pack B' b' _ l ever w2 (HR.out.only (hoA.tr0 ho2)) hl he HF.out)
      go_wp2_with fail
      refine HP2.out.mono ?_
      rintro e w3 ⟨rfl, ho3⟩
      go_wp2_with fail
      go_ret
      exact ⟨by simp, (hoA.tr0 ho2).tr0 ho3⟩
end Go.Proofs.Ytojhbhdlbbmghaa
