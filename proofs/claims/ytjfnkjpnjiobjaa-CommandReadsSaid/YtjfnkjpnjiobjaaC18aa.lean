/-
  Chapter 18: the document's Pack.
-/
import Derived.Test.YtjfnkjpnjiobjaaC18l
import Derived.Test.YtjfnkjpnjiobjaaC18n
namespace Go.Proofs.Ytjfnkjpnjiobjaa
open Go.RowKit
set_option maxRecDepth 100000 in
set_option maxHeartbeats 2000000 in
theorem ref18_pack (c : Cm) (iv : Value) (w : World) (h : CmAt w iv c) (hs : c.Sm) :
    Calls Try.prog 32 #[c.val iv] w fun e w' => e = .returned (.tuple #[.string ⟨(pkS c).toArray⟩, .int .i64 (pkE c)]) ∧ Only [] w w' := by
  obtain ⟨IA, ic, rfl⟩ := h.its.shape
  obtain ⟨w0, hw0⟩ : ∃ w0, w.alloc (.cells #[.int .i64 c.kd, .int .i64 c.ss, .int .i64 c.sq, .int .i64 c.sh, .int .i64 c.nd, .int .i64 c.ep, .int .i64 c.n, .string ⟨c.fd.toArray⟩, .string ⟨c.id.toArray⟩, .slice IA c.its.length ic, .bool c.fl] 65) = w0 := ⟨_, rfl⟩
  obtain ⟨z0, hz0⟩ : ∃ z, w.heap.size = z := ⟨_, rfl⟩
  have O0 : Only [] w w0 := hw0 ▸ (Only.refl _ _).alloc _
  have HZ0 : Hid (Cells w0 z0 65 (c.cells (.slice IA c.its.length ic))) := Lib.hid (hw0 ▸ hz0 ▸ Cells.new w _ _)
  have CR := Lib.hid (ref18_right c (.slice IA c.its.length ic) w0 (h.only O0) hs)
  have CB := Lib.hid (fun w' (ho : Only [] w w') => ref18_bytes c (.slice IA c.its.length ic) w' (h.only ho) hs)
  have HO0 := Lib.hid O0
  have HP : Hid (∀ b, rightB c = b → pkS c = (if b = true then cmdb c else []) ∧ pkE c = if b = true then 0 else 1) := Lib.hid (fun b hb => by unfold pkS pkE; rw [hb]; exact ⟨rfl, rfl⟩)
  obtain ⟨R, hR⟩ : ∃ R, rightB c = R := ⟨_, rfl⟩
  obtain ⟨e1, e2⟩ := HP.out R hR
  rw [hR] at CR
  rw [e1, e2]
  unfold Cm.val at CR CB ⊢
  obtain ⟨c0, c1, c2, c3, c4, c5, c6, c7, c8, c9, c10⟩ := cm_cells HZ0.out
  clear h hs O0 HP hR e1 e2
  go_enter Try.func32, Try.ntmps32
  go_wp2_with fail
  refine CR.out.mono ?_
  rintro e w1 ⟨rfl, ho1⟩
  dsimp only
  have HZ1 := Lib.hid (HZ0.out.only ho1 (by simp))
  have HO1 := Lib.hid (HO0.out.tr ho1)
  clear ho1 CR hw0 hz0 HZ0 HO0 c0 c1 c2 c3 c4 c5 c6 c7 c8 c9 c10
  cases R with
  | false =>
    go_wp2_with fail
    go_ret2
    exact ⟨rfl, HO1.out⟩
  | true =>
    obtain ⟨c0, c1, c2, c3, c4, c5, c6, c7, c8, c9, c10⟩ := cm_cells HZ1.out
    have CB1 := Lib.hid (CB.out w1 HO1.out)
    clear CB
    go_wp2_with fail
    refine CB1.out.mono ?_
    rintro e w2 ⟨rfl, ho2⟩
    dsimp only
    have HO2 := Lib.hid (HO1.out.tr ho2)
    clear ho2
    go_wp2_with fail
    go_ret2
    exact ⟨rfl, HO2.out⟩
end Go.Proofs.Ytjfnkjpnjiobjaa
