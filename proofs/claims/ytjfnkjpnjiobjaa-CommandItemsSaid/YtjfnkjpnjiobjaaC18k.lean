/-
  Chapter 18: what a command may have, as the document tells it.
-/
import Derived.Test.YtjfnkjpnjiobjaaC18j
namespace Go.Proofs.Ytjfnkjpnjiobjaa
open Go.RowKit
def onlyC (c : Cm) : Cm :=
  ⟨c.kd, if clB c.kd then c.ss else 0, if clB c.kd then c.sq else 0, if c.kd = 7 ∨ c.kd = 8 ∨ c.kd = 9 then c.sh else 0, if c.kd = 7 ∨ c.kd = 8 then c.nd else 0, if c.kd = 8 then c.ep else 0,
    if c.kd = 5 then c.n else 0, if clB c.kd ∨ c.kd = 8 then c.fd else [], if c.kd = 4 then c.id else [], [], if c.kd = 8 then c.fl else false⟩
def Cm.bare (c : Cm) : Cm := ⟨c.kd, c.ss, c.sq, c.sh, c.nd, c.ep, c.n, c.fd, c.id, [], c.fl⟩
theorem only_iff (c : Cm) (h : numB c = true) : bareB c = true ↔ (onlyC c = c.bare ∧ ¬ (0 < c.its.length ∧ (c.kd ≠ 8 ∨ c.fl = true))) := by
  obtain ⟨h0, h1, h2, h3, h4, h5, h6⟩ := numB_iff.1 h
  obtain ⟨kd, ss, sq, sh, nd, ep, n, fd, id, its, fl⟩ := c
  have h1 := (inB_iff.1 h1).1
  have h2 := (inB_iff.1 h2).1
  have h3 := (inB_iff.1 h3).1
  have h4 := (inB_iff.1 h4).1
  have h5 := (inB_iff.1 h5).1
  have h6 := (inB_iff.1 h6).1
  dsimp only at h0 h1 h2 h3 h4 h5 h6
  have hk : kd = 1 ∨ kd = 2 ∨ kd = 3 ∨ kd = 4 ∨ kd = 5 ∨ kd = 6 ∨ kd = 7 ∨ kd = 8 ∨ kd = 9 := by omega
  clear h
  obtain ⟨L, hL⟩ : ∃ L, its.length = L := ⟨_, rfl⟩
  rcases hk with rfl | rfl | rfl | rfl | rfl | rfl | rfl | rfl | rfl
  all_goals
    clear h0
    unfold onlyC Cm.bare bareB clB
    simp only [hL]
    simp
    cases fl <;> cases fd <;> cases id <;> simp <;> omega
theorem cells_end (w : World) (o : Obj) (t : TypeId) (cs : List Value) : Cells ((w.alloc o).alloc (.cells cs.toArray t)) (w.heap.size + 1) t cs := by
  have := Cells.new (w.alloc o) t cs
  simpa using this
theorem cells_mid (w : World) (o o2 : Obj) (t : TypeId) (cs : List Value) : Cells (((w.alloc o).alloc (.cells cs.toArray t)).alloc o2) (w.heap.size + 1) t cs := (cells_end w o t cs).alloc o2
theorem only_k1 (c : Cm) (iv : Value) (w : World) (h : c.kd = 1) :
    Calls Try.prog 75 #[c.val iv] w fun e w' => e = .returned ((onlyC c).val (.slice none 0 0)) ∧ Only [] w w' := by
  have HV : (onlyC c).val (.slice none 0 0) = .agg #[.int .i64 1, .int .i64 0, .int .i64 0, .int .i64 0, .int .i64 0, .int .i64 0, .int .i64 0, .string ⟨([] : List UInt8).toArray⟩, .string ⟨([] : List UInt8).toArray⟩, .slice none 0 0, .bool false] := by unfold onlyC Cm.val clB; simp [h]
  rw [HV]
  unfold Cm.val
  rw [h]
  clear HV
  go_enter Try.func75, Try.ntmps75
  go_wp2_with fail
  (try simp only [Exit.inBlock, Exit.then])
  refine bodyPost_ret (v := .agg #[.int .i64 1, .int .i64 0, .int .i64 0, .int .i64 0, .int .i64 0, .int .i64 0, .int .i64 0, .string ⟨([] : List UInt8).toArray⟩, .string ⟨([] : List UInt8).toArray⟩, .slice none 0 0, .bool false]) ?_ rfl ⟨rfl, (((Only.refl _ _).alloc _).alloc _).alloc _⟩
  exact results_row Try.results75 _ _ (w.heap.size + 1) 65 [.int .i64 1, .int .i64 0, .int .i64 0, .int .i64 0, .int .i64 0, .int .i64 0, .int .i64 0, .string ⟨([] : List UInt8).toArray⟩, .string ⟨([] : List UInt8).toArray⟩, .slice none 0 0, .bool false] _ rfl (cells_mid w _ _ _ _) Try.underlying65 rfl (by kernel_rfl)
theorem only_k2 (c : Cm) (iv : Value) (w : World) (h : c.kd = 2) :
    Calls Try.prog 75 #[c.val iv] w fun e w' => e = .returned ((onlyC c).val (.slice none 0 0)) ∧ Only [] w w' := by
  have HV : (onlyC c).val (.slice none 0 0) = .agg #[.int .i64 2, .int .i64 c.ss, .int .i64 c.sq, .int .i64 0, .int .i64 0, .int .i64 0, .int .i64 0, .string ⟨c.fd.toArray⟩, .string ⟨([] : List UInt8).toArray⟩, .slice none 0 0, .bool false] := by unfold onlyC Cm.val clB; simp [h]
  rw [HV]
  unfold Cm.val
  rw [h]
  clear HV
  go_enter Try.func75, Try.ntmps75
  go_wp2_with fail
  (try simp only [Exit.inBlock, Exit.then])
  refine bodyPost_ret (v := .agg #[.int .i64 2, .int .i64 c.ss, .int .i64 c.sq, .int .i64 0, .int .i64 0, .int .i64 0, .int .i64 0, .string ⟨c.fd.toArray⟩, .string ⟨([] : List UInt8).toArray⟩, .slice none 0 0, .bool false]) ?_ rfl ⟨rfl, (((Only.refl _ _).alloc _).alloc _).alloc _⟩
  exact results_row Try.results75 _ _ (w.heap.size + 1) 65 [.int .i64 2, .int .i64 c.ss, .int .i64 c.sq, .int .i64 0, .int .i64 0, .int .i64 0, .int .i64 0, .string ⟨c.fd.toArray⟩, .string ⟨([] : List UInt8).toArray⟩, .slice none 0 0, .bool false] _ rfl (cells_mid w _ _ _ _) Try.underlying65 rfl (by kernel_rfl)
theorem only_k3 (c : Cm) (iv : Value) (w : World) (h : c.kd = 3) :
    Calls Try.prog 75 #[c.val iv] w fun e w' => e = .returned ((onlyC c).val (.slice none 0 0)) ∧ Only [] w w' := by
  have HV : (onlyC c).val (.slice none 0 0) = .agg #[.int .i64 3, .int .i64 c.ss, .int .i64 c.sq, .int .i64 0, .int .i64 0, .int .i64 0, .int .i64 0, .string ⟨c.fd.toArray⟩, .string ⟨([] : List UInt8).toArray⟩, .slice none 0 0, .bool false] := by unfold onlyC Cm.val clB; simp [h]
  rw [HV]
  unfold Cm.val
  rw [h]
  clear HV
  go_enter Try.func75, Try.ntmps75
  go_wp2_with fail
  (try simp only [Exit.inBlock, Exit.then])
  refine bodyPost_ret (v := .agg #[.int .i64 3, .int .i64 c.ss, .int .i64 c.sq, .int .i64 0, .int .i64 0, .int .i64 0, .int .i64 0, .string ⟨c.fd.toArray⟩, .string ⟨([] : List UInt8).toArray⟩, .slice none 0 0, .bool false]) ?_ rfl ⟨rfl, (((Only.refl _ _).alloc _).alloc _).alloc _⟩
  exact results_row Try.results75 _ _ (w.heap.size + 1) 65 [.int .i64 3, .int .i64 c.ss, .int .i64 c.sq, .int .i64 0, .int .i64 0, .int .i64 0, .int .i64 0, .string ⟨c.fd.toArray⟩, .string ⟨([] : List UInt8).toArray⟩, .slice none 0 0, .bool false] _ rfl (cells_mid w _ _ _ _) Try.underlying65 rfl (by kernel_rfl)
theorem only_k4 (c : Cm) (iv : Value) (w : World) (h : c.kd = 4) :
    Calls Try.prog 75 #[c.val iv] w fun e w' => e = .returned ((onlyC c).val (.slice none 0 0)) ∧ Only [] w w' := by
  have HV : (onlyC c).val (.slice none 0 0) = .agg #[.int .i64 4, .int .i64 c.ss, .int .i64 c.sq, .int .i64 0, .int .i64 0, .int .i64 0, .int .i64 0, .string ⟨c.fd.toArray⟩, .string ⟨c.id.toArray⟩, .slice none 0 0, .bool false] := by unfold onlyC Cm.val clB; simp [h]
  rw [HV]
  unfold Cm.val
  rw [h]
  clear HV
  go_enter Try.func75, Try.ntmps75
  go_wp2_with fail
  (try simp only [Exit.inBlock, Exit.then])
  refine bodyPost_ret (v := .agg #[.int .i64 4, .int .i64 c.ss, .int .i64 c.sq, .int .i64 0, .int .i64 0, .int .i64 0, .int .i64 0, .string ⟨c.fd.toArray⟩, .string ⟨c.id.toArray⟩, .slice none 0 0, .bool false]) ?_ rfl ⟨rfl, (((Only.refl _ _).alloc _).alloc _).alloc _⟩
  exact results_row Try.results75 _ _ (w.heap.size + 1) 65 [.int .i64 4, .int .i64 c.ss, .int .i64 c.sq, .int .i64 0, .int .i64 0, .int .i64 0, .int .i64 0, .string ⟨c.fd.toArray⟩, .string ⟨c.id.toArray⟩, .slice none 0 0, .bool false] _ rfl (cells_mid w _ _ _ _) Try.underlying65 rfl (by kernel_rfl)
theorem only_k5 (c : Cm) (iv : Value) (w : World) (h : c.kd = 5) :
    Calls Try.prog 75 #[c.val iv] w fun e w' => e = .returned ((onlyC c).val (.slice none 0 0)) ∧ Only [] w w' := by
  have HV : (onlyC c).val (.slice none 0 0) = .agg #[.int .i64 5, .int .i64 c.ss, .int .i64 c.sq, .int .i64 0, .int .i64 0, .int .i64 0, .int .i64 c.n, .string ⟨c.fd.toArray⟩, .string ⟨([] : List UInt8).toArray⟩, .slice none 0 0, .bool false] := by unfold onlyC Cm.val clB; simp [h]
  rw [HV]
  unfold Cm.val
  rw [h]
  clear HV
  go_enter Try.func75, Try.ntmps75
  go_wp2_with fail
  (try simp only [Exit.inBlock, Exit.then])
  refine bodyPost_ret (v := .agg #[.int .i64 5, .int .i64 c.ss, .int .i64 c.sq, .int .i64 0, .int .i64 0, .int .i64 0, .int .i64 c.n, .string ⟨c.fd.toArray⟩, .string ⟨([] : List UInt8).toArray⟩, .slice none 0 0, .bool false]) ?_ rfl ⟨rfl, (((Only.refl _ _).alloc _).alloc _).alloc _⟩
  exact results_row Try.results75 _ _ (w.heap.size + 1) 65 [.int .i64 5, .int .i64 c.ss, .int .i64 c.sq, .int .i64 0, .int .i64 0, .int .i64 0, .int .i64 c.n, .string ⟨c.fd.toArray⟩, .string ⟨([] : List UInt8).toArray⟩, .slice none 0 0, .bool false] _ rfl (cells_mid w _ _ _ _) Try.underlying65 rfl (by kernel_rfl)
theorem only_k6 (c : Cm) (iv : Value) (w : World) (h : c.kd = 6) :
    Calls Try.prog 75 #[c.val iv] w fun e w' => e = .returned ((onlyC c).val (.slice none 0 0)) ∧ Only [] w w' := by
  have HV : (onlyC c).val (.slice none 0 0) = .agg #[.int .i64 6, .int .i64 0, .int .i64 0, .int .i64 0, .int .i64 0, .int .i64 0, .int .i64 0, .string ⟨([] : List UInt8).toArray⟩, .string ⟨([] : List UInt8).toArray⟩, .slice none 0 0, .bool false] := by unfold onlyC Cm.val clB; simp [h]
  rw [HV]
  unfold Cm.val
  rw [h]
  clear HV
  go_enter Try.func75, Try.ntmps75
  go_wp2_with fail
  (try simp only [Exit.inBlock, Exit.then])
  refine bodyPost_ret (v := .agg #[.int .i64 6, .int .i64 0, .int .i64 0, .int .i64 0, .int .i64 0, .int .i64 0, .int .i64 0, .string ⟨([] : List UInt8).toArray⟩, .string ⟨([] : List UInt8).toArray⟩, .slice none 0 0, .bool false]) ?_ rfl ⟨rfl, (((Only.refl _ _).alloc _).alloc _).alloc _⟩
  exact results_row Try.results75 _ _ (w.heap.size + 1) 65 [.int .i64 6, .int .i64 0, .int .i64 0, .int .i64 0, .int .i64 0, .int .i64 0, .int .i64 0, .string ⟨([] : List UInt8).toArray⟩, .string ⟨([] : List UInt8).toArray⟩, .slice none 0 0, .bool false] _ rfl (cells_mid w _ _ _ _) Try.underlying65 rfl (by kernel_rfl)
theorem only_k7 (c : Cm) (iv : Value) (w : World) (h : c.kd = 7) :
    Calls Try.prog 75 #[c.val iv] w fun e w' => e = .returned ((onlyC c).val (.slice none 0 0)) ∧ Only [] w w' := by
  have HV : (onlyC c).val (.slice none 0 0) = .agg #[.int .i64 7, .int .i64 0, .int .i64 0, .int .i64 c.sh, .int .i64 c.nd, .int .i64 0, .int .i64 0, .string ⟨([] : List UInt8).toArray⟩, .string ⟨([] : List UInt8).toArray⟩, .slice none 0 0, .bool false] := by unfold onlyC Cm.val clB; simp [h]
  rw [HV]
  unfold Cm.val
  rw [h]
  clear HV
  go_enter Try.func75, Try.ntmps75
  go_wp2_with fail
  (try simp only [Exit.inBlock, Exit.then])
  refine bodyPost_ret (v := .agg #[.int .i64 7, .int .i64 0, .int .i64 0, .int .i64 c.sh, .int .i64 c.nd, .int .i64 0, .int .i64 0, .string ⟨([] : List UInt8).toArray⟩, .string ⟨([] : List UInt8).toArray⟩, .slice none 0 0, .bool false]) ?_ rfl ⟨rfl, (((Only.refl _ _).alloc _).alloc _).alloc _⟩
  exact results_row Try.results75 _ _ (w.heap.size + 1) 65 [.int .i64 7, .int .i64 0, .int .i64 0, .int .i64 c.sh, .int .i64 c.nd, .int .i64 0, .int .i64 0, .string ⟨([] : List UInt8).toArray⟩, .string ⟨([] : List UInt8).toArray⟩, .slice none 0 0, .bool false] _ rfl (cells_mid w _ _ _ _) Try.underlying65 rfl (by kernel_rfl)
theorem only_k8 (c : Cm) (iv : Value) (w : World) (h : c.kd = 8) :
    Calls Try.prog 75 #[c.val iv] w fun e w' => e = .returned ((onlyC c).val (.slice none 0 0)) ∧ Only [] w w' := by
  have HV : (onlyC c).val (.slice none 0 0) = .agg #[.int .i64 8, .int .i64 0, .int .i64 0, .int .i64 c.sh, .int .i64 c.nd, .int .i64 c.ep, .int .i64 0, .string ⟨c.fd.toArray⟩, .string ⟨([] : List UInt8).toArray⟩, .slice none 0 0, .bool c.fl] := by unfold onlyC Cm.val clB; simp [h]
  rw [HV]
  unfold Cm.val
  rw [h]
  clear HV
  go_enter Try.func75, Try.ntmps75
  go_wp2_with fail
  (try simp only [Exit.inBlock, Exit.then])
  refine bodyPost_ret (v := .agg #[.int .i64 8, .int .i64 0, .int .i64 0, .int .i64 c.sh, .int .i64 c.nd, .int .i64 c.ep, .int .i64 0, .string ⟨c.fd.toArray⟩, .string ⟨([] : List UInt8).toArray⟩, .slice none 0 0, .bool c.fl]) ?_ rfl ⟨rfl, (((Only.refl _ _).alloc _).alloc _).alloc _⟩
  exact results_row Try.results75 _ _ (w.heap.size + 1) 65 [.int .i64 8, .int .i64 0, .int .i64 0, .int .i64 c.sh, .int .i64 c.nd, .int .i64 c.ep, .int .i64 0, .string ⟨c.fd.toArray⟩, .string ⟨([] : List UInt8).toArray⟩, .slice none 0 0, .bool c.fl] _ rfl (cells_mid w _ _ _ _) Try.underlying65 rfl (by kernel_rfl)
theorem only_k9 (c : Cm) (iv : Value) (w : World) (h : c.kd = 9) :
    Calls Try.prog 75 #[c.val iv] w fun e w' => e = .returned ((onlyC c).val (.slice none 0 0)) ∧ Only [] w w' := by
  have HV : (onlyC c).val (.slice none 0 0) = .agg #[.int .i64 9, .int .i64 0, .int .i64 0, .int .i64 c.sh, .int .i64 0, .int .i64 0, .int .i64 0, .string ⟨([] : List UInt8).toArray⟩, .string ⟨([] : List UInt8).toArray⟩, .slice none 0 0, .bool false] := by unfold onlyC Cm.val clB; simp [h]
  rw [HV]
  unfold Cm.val
  rw [h]
  clear HV
  go_enter Try.func75, Try.ntmps75
  go_wp2_with fail
  (try simp only [Exit.inBlock, Exit.then])
  refine bodyPost_ret (v := .agg #[.int .i64 9, .int .i64 0, .int .i64 0, .int .i64 c.sh, .int .i64 0, .int .i64 0, .int .i64 0, .string ⟨([] : List UInt8).toArray⟩, .string ⟨([] : List UInt8).toArray⟩, .slice none 0 0, .bool false]) ?_ rfl ⟨rfl, (((Only.refl _ _).alloc _).alloc _).alloc _⟩
  exact results_row Try.results75 _ _ (w.heap.size + 1) 65 [.int .i64 9, .int .i64 0, .int .i64 0, .int .i64 c.sh, .int .i64 0, .int .i64 0, .int .i64 0, .string ⟨([] : List UInt8).toArray⟩, .string ⟨([] : List UInt8).toArray⟩, .slice none 0 0, .bool false] _ rfl (cells_mid w _ _ _ _) Try.underlying65 rfl (by kernel_rfl)
theorem only_call (c : Cm) (iv : Value) (w : World) (hk : 1 ≤ c.kd ∧ c.kd ≤ 9) :
    Calls Try.prog 75 #[c.val iv] w fun e w' => e = .returned ((onlyC c).val (.slice none 0 0)) ∧ Only [] w w' := by
  have hk : c.kd = 1 ∨ c.kd = 2 ∨ c.kd = 3 ∨ c.kd = 4 ∨ c.kd = 5 ∨ c.kd = 6 ∨ c.kd = 7 ∨ c.kd = 8 ∨ c.kd = 9 := by omega
  rcases hk with h | h | h | h | h | h | h | h | h
  · exact only_k1 c iv w h
  · exact only_k2 c iv w h
  · exact only_k3 c iv w h
  · exact only_k4 c iv w h
  · exact only_k5 c iv w h
  · exact only_k6 c iv w h
  · exact only_k7 c iv w h
  · exact only_k8 c iv w h
  · exact only_k9 c iv w h
theorem without_call (c : Cm) (iv : Value) (w : World) :
    Calls Try.prog 76 #[c.val iv] w fun e w' => e = .returned (c.bare.val (.slice none 0 0)) ∧ Only [] w w' := by
  unfold Cm.bare Cm.val
  dsimp only
  go_enter Try.func76, Try.ntmps76
  go_wp2_with fail
  (try simp only [Exit.inBlock, Exit.then])
  refine bodyPost_ret (v := .agg #[.int .i64 c.kd, .int .i64 c.ss, .int .i64 c.sq, .int .i64 c.sh, .int .i64 c.nd, .int .i64 c.ep, .int .i64 c.n, .string ⟨c.fd.toArray⟩, .string ⟨c.id.toArray⟩, .slice none 0 0, .bool c.fl]) ?_ rfl ⟨rfl, ((Only.refl _ _).alloc _).alloc _⟩
  exact results_row Try.results76 _ _ (w.heap.size + 1) 65 [.int .i64 c.kd, .int .i64 c.ss, .int .i64 c.sq, .int .i64 c.sh, .int .i64 c.nd, .int .i64 c.ep, .int .i64 c.n, .string ⟨c.fd.toArray⟩, .string ⟨c.id.toArray⟩, .slice none 0 0, .bool c.fl] _ rfl (cells_end w _ _ _) Try.underlying65 rfl (by kernel_rfl)
end Go.Proofs.Ytjfnkjpnjiobjaa
