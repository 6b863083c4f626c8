/-
  Chapter 18: bare of the kinds 7 to 9. (Printed by gen_c18.py.)
-/
import Derived.Test.YtjfnkjpnjiobjaaC18b
namespace Go.Proofs.Ytjfnkjpnjiobjaa
open Go.RowKit
set_option maxRecDepth 100000 in
set_option maxHeartbeats 4000000 in
theorem bare_7 (c : Cm) (IA : Option Addr) (m ic : Nat) (hm : m = c.its.length) (h1 : 0 ≤ c.ss ∧ c.ss ≤ 1099511627776) (h2 : 0 ≤ c.sq ∧ c.sq ≤ 1099511627776) (w : World) :
    Calls Try.prog 71 #[Cm.val ⟨7, c.ss, c.sq, c.sh, c.nd, c.ep, c.n, c.fd, c.id, c.its, c.fl⟩ (.slice IA m ic)] w fun e w' => e = .returned (.bool (bareB ⟨7, c.ss, c.sq, c.sh, c.nd, c.ep, c.n, c.fd, c.id, c.its, c.fl⟩)) ∧ Only [] w w' := by
  have HM := Lib.hid hm
  clear hm
  have HC := Lib.hid (fun w' => client_call ⟨7, c.ss, c.sq, c.sh, c.nd, c.ep, c.n, c.fd, c.id, c.its, c.fl⟩ (.slice IA m ic) w')
  rw [show clB 7 = false from rfl] at HC
  unfold Cm.val at HC ⊢
  dsimp only at HC ⊢
  have hws : IntKind.i64.wrap (c.ss + c.sq) = c.ss + c.sq := by rw [IntKind.wrap_i64]; omega
  obtain ⟨w1, hw1⟩ : ∃ w1, w.alloc (.cells #[.int .i64 7, .int .i64 c.ss, .int .i64 c.sq, .int .i64 c.sh, .int .i64 c.nd, .int .i64 c.ep, .int .i64 c.n, .string ⟨c.fd.toArray⟩, .string ⟨c.id.toArray⟩, .slice IA m ic, .bool c.fl] 65) = w1 := ⟨_, rfl⟩
  obtain ⟨z, hz⟩ : ∃ z, w.heap.size = z := ⟨_, rfl⟩
  have HZ : Cells w1 z 65 [.int .i64 7, .int .i64 c.ss, .int .i64 c.sq, .int .i64 c.sh, .int .i64 c.nd, .int .i64 c.ep, .int .i64 c.n, .string ⟨c.fd.toArray⟩, .string ⟨c.id.toArray⟩, .slice IA m ic, .bool c.fl] := hw1 ▸ hz ▸ Cells.new w _ _
  have HO : Hid (Only [] w w1) := Lib.hid (hw1 ▸ (Only.refl _ _).alloc _)
  have c0 := HZ.cell (k := 0) rfl
  have c1 := HZ.cell (k := 1) rfl
  have c2 := HZ.cell (k := 2) rfl
  have c3 := HZ.cell (k := 3) rfl
  have c4 := HZ.cell (k := 4) rfl
  have c5 := HZ.cell (k := 5) rfl
  have c6 := HZ.cell (k := 6) rfl
  have c7 := HZ.cell (k := 7) rfl
  have c8 := HZ.cell (k := 8) rfl
  have c9 := HZ.cell (k := 9) rfl
  have c10 := HZ.cell (k := 10) rfl
  go_enter Try.func71, Try.ntmps71
  go_wp2_with fail
  refine (HC.out _).mono ?_
  rintro e w2 ⟨rfl, ho⟩
  replace HZ := HZ.only ho (by simp)
  replace HO := Lib.hid (HO.out.tr ho)
  clear ho
  clear c0 c1 c2 c3 c4 c5 c6 c7 c8 c9 c10
  have c0 := HZ.cell (k := 0) rfl
  have c1 := HZ.cell (k := 1) rfl
  have c2 := HZ.cell (k := 2) rfl
  have c3 := HZ.cell (k := 3) rfl
  have c4 := HZ.cell (k := 4) rfl
  have c5 := HZ.cell (k := 5) rfl
  have c6 := HZ.cell (k := 6) rfl
  have c7 := HZ.cell (k := 7) rfl
  have c8 := HZ.cell (k := 8) rfl
  have c9 := HZ.cell (k := 9) rfl
  have c10 := HZ.cell (k := 10) rfl
  clear hw1 hz
  by_cases a1 : 0 < c.ss + c.sq
  · have da1 : decide (0 < c.ss + c.sq) = true := by simpa using a1
    go_wp2_with fail
    go_ret
    exact ⟨by rw [show bareB ⟨7, c.ss, c.sq, c.sh, c.nd, c.ep, c.n, c.fd, c.id, c.its, c.fl⟩ = false from by unfold bareB clB; simp [*]]; rfl, HO.out⟩
  have da1 : decide (0 < c.ss + c.sq) = false := by simpa using a1
  go_wp2_with fail
  refine (HC.out _).mono ?_
  rintro e w3 ⟨rfl, ho⟩
  replace HZ := HZ.only ho (by simp)
  replace HO := Lib.hid (HO.out.tr ho)
  clear ho
  clear c0 c1 c2 c3 c4 c5 c6 c7 c8 c9 c10
  have c0 := HZ.cell (k := 0) rfl
  have c1 := HZ.cell (k := 1) rfl
  have c2 := HZ.cell (k := 2) rfl
  have c3 := HZ.cell (k := 3) rfl
  have c4 := HZ.cell (k := 4) rfl
  have c5 := HZ.cell (k := 5) rfl
  have c6 := HZ.cell (k := 6) rfl
  have c7 := HZ.cell (k := 7) rfl
  have c8 := HZ.cell (k := 8) rfl
  have c9 := HZ.cell (k := 9) rfl
  have c10 := HZ.cell (k := 10) rfl
  go_wp2_with fail
  refine (is_call w3 z [8] 7 false HZ rfl (by decide)).mono ?_
  rintro e w4 ⟨rfl, ho⟩
  replace HZ := HZ.only ho (by simp)
  replace HO := Lib.hid (HO.out.tr ho)
  clear ho
  clear c0 c1 c2 c3 c4 c5 c6 c7 c8 c9 c10
  have c0 := HZ.cell (k := 0) rfl
  have c1 := HZ.cell (k := 1) rfl
  have c2 := HZ.cell (k := 2) rfl
  have c3 := HZ.cell (k := 3) rfl
  have c4 := HZ.cell (k := 4) rfl
  have c5 := HZ.cell (k := 5) rfl
  have c6 := HZ.cell (k := 6) rfl
  have c7 := HZ.cell (k := 7) rfl
  have c8 := HZ.cell (k := 8) rfl
  have c9 := HZ.cell (k := 9) rfl
  have c10 := HZ.cell (k := 10) rfl
  by_cases a2 : ¬ c.fd = []
  · have da2 : c.fd.isEmpty = false := by simpa using a2
    go_wp2_with fail
    go_ret
    exact ⟨by rw [show bareB ⟨7, c.ss, c.sq, c.sh, c.nd, c.ep, c.n, c.fd, c.id, c.its, c.fl⟩ = false from by unfold bareB clB; simp [*]]; rfl, HO.out⟩
  have a2 := Decidable.not_not.1 a2
  have da2 : c.fd.isEmpty = true := by simpa using a2
  go_wp2_with fail
  refine (is_call w4 z [4] 7 false HZ rfl (by decide)).mono ?_
  rintro e w5 ⟨rfl, ho⟩
  replace HZ := HZ.only ho (by simp)
  replace HO := Lib.hid (HO.out.tr ho)
  clear ho
  clear c0 c1 c2 c3 c4 c5 c6 c7 c8 c9 c10
  have c0 := HZ.cell (k := 0) rfl
  have c1 := HZ.cell (k := 1) rfl
  have c2 := HZ.cell (k := 2) rfl
  have c3 := HZ.cell (k := 3) rfl
  have c4 := HZ.cell (k := 4) rfl
  have c5 := HZ.cell (k := 5) rfl
  have c6 := HZ.cell (k := 6) rfl
  have c7 := HZ.cell (k := 7) rfl
  have c8 := HZ.cell (k := 8) rfl
  have c9 := HZ.cell (k := 9) rfl
  have c10 := HZ.cell (k := 10) rfl
  by_cases a3 : ¬ c.id = []
  · have da3 : c.id.isEmpty = false := by simpa using a3
    go_wp2_with fail
    go_ret
    exact ⟨by rw [show bareB ⟨7, c.ss, c.sq, c.sh, c.nd, c.ep, c.n, c.fd, c.id, c.its, c.fl⟩ = false from by unfold bareB clB; simp [*]]; rfl, HO.out⟩
  have a3 := Decidable.not_not.1 a3
  have da3 : c.id.isEmpty = true := by simpa using a3
  go_wp2_with fail
  refine (is_call w5 z [5] 7 false HZ rfl (by decide)).mono ?_
  rintro e w6 ⟨rfl, ho⟩
  replace HZ := HZ.only ho (by simp)
  replace HO := Lib.hid (HO.out.tr ho)
  clear ho
  clear c0 c1 c2 c3 c4 c5 c6 c7 c8 c9 c10
  have c0 := HZ.cell (k := 0) rfl
  have c1 := HZ.cell (k := 1) rfl
  have c2 := HZ.cell (k := 2) rfl
  have c3 := HZ.cell (k := 3) rfl
  have c4 := HZ.cell (k := 4) rfl
  have c5 := HZ.cell (k := 5) rfl
  have c6 := HZ.cell (k := 6) rfl
  have c7 := HZ.cell (k := 7) rfl
  have c8 := HZ.cell (k := 8) rfl
  have c9 := HZ.cell (k := 9) rfl
  have c10 := HZ.cell (k := 10) rfl
  by_cases a4 : 0 < c.n
  · have da4 : decide (0 < c.n) = true := by simpa using a4
    go_wp2_with fail
    go_ret
    exact ⟨by rw [show bareB ⟨7, c.ss, c.sq, c.sh, c.nd, c.ep, c.n, c.fd, c.id, c.its, c.fl⟩ = false from by unfold bareB clB; simp [*]]; rfl, HO.out⟩
  have da4 : decide (0 < c.n) = false := by simpa using a4
  go_wp2_with fail
  refine (is_call w6 z [7, 8] 7 true HZ rfl (by decide)).mono ?_
  rintro e w7 ⟨rfl, ho⟩
  replace HZ := HZ.only ho (by simp)
  replace HO := Lib.hid (HO.out.tr ho)
  clear ho
  clear c0 c1 c2 c3 c4 c5 c6 c7 c8 c9 c10
  have c0 := HZ.cell (k := 0) rfl
  have c1 := HZ.cell (k := 1) rfl
  have c2 := HZ.cell (k := 2) rfl
  have c3 := HZ.cell (k := 3) rfl
  have c4 := HZ.cell (k := 4) rfl
  have c5 := HZ.cell (k := 5) rfl
  have c6 := HZ.cell (k := 6) rfl
  have c7 := HZ.cell (k := 7) rfl
  have c8 := HZ.cell (k := 8) rfl
  have c9 := HZ.cell (k := 9) rfl
  have c10 := HZ.cell (k := 10) rfl
  go_wp2_with fail
  refine (is_call w7 z [7, 8, 9] 7 true HZ rfl (by decide)).mono ?_
  rintro e w8 ⟨rfl, ho⟩
  replace HZ := HZ.only ho (by simp)
  replace HO := Lib.hid (HO.out.tr ho)
  clear ho
  clear c0 c1 c2 c3 c4 c5 c6 c7 c8 c9 c10
  have c0 := HZ.cell (k := 0) rfl
  have c1 := HZ.cell (k := 1) rfl
  have c2 := HZ.cell (k := 2) rfl
  have c3 := HZ.cell (k := 3) rfl
  have c4 := HZ.cell (k := 4) rfl
  have c5 := HZ.cell (k := 5) rfl
  have c6 := HZ.cell (k := 6) rfl
  have c7 := HZ.cell (k := 7) rfl
  have c8 := HZ.cell (k := 8) rfl
  have c9 := HZ.cell (k := 9) rfl
  have c10 := HZ.cell (k := 10) rfl
  go_wp2_with fail
  refine (is_call w8 z [8] 7 false HZ rfl (by decide)).mono ?_
  rintro e w9 ⟨rfl, ho⟩
  replace HZ := HZ.only ho (by simp)
  replace HO := Lib.hid (HO.out.tr ho)
  clear ho
  clear c0 c1 c2 c3 c4 c5 c6 c7 c8 c9 c10
  have c0 := HZ.cell (k := 0) rfl
  have c1 := HZ.cell (k := 1) rfl
  have c2 := HZ.cell (k := 2) rfl
  have c3 := HZ.cell (k := 3) rfl
  have c4 := HZ.cell (k := 4) rfl
  have c5 := HZ.cell (k := 5) rfl
  have c6 := HZ.cell (k := 6) rfl
  have c7 := HZ.cell (k := 7) rfl
  have c8 := HZ.cell (k := 8) rfl
  have c9 := HZ.cell (k := 9) rfl
  have c10 := HZ.cell (k := 10) rfl
  by_cases a7 : 0 < c.ep
  · have da7 : decide (0 < c.ep) = true := by simpa using a7
    go_wp2_with fail
    go_ret
    exact ⟨by rw [show bareB ⟨7, c.ss, c.sq, c.sh, c.nd, c.ep, c.n, c.fd, c.id, c.its, c.fl⟩ = false from by unfold bareB clB; simp [*]]; rfl, HO.out⟩
  have da7 : decide (0 < c.ep) = false := by simpa using a7
  by_cases a8 : c.fl = true
  · have da8 := a8
    go_wp2_with fail
    go_ret
    exact ⟨by rw [show bareB ⟨7, c.ss, c.sq, c.sh, c.nd, c.ep, c.n, c.fd, c.id, c.its, c.fl⟩ = false from by unfold bareB clB; simp [*]]; rfl, HO.out⟩
  have da8 : c.fl = false := by simpa using a8
  by_cases a9 : 0 < m
  · have da9 : decide ((0 : Int) < (m : Int)) = true := by simpa using a9
    have la9 : 0 < c.its.length := HM.out ▸ a9
    have za9 : ((m : Int) == 0) = false := by simp; omega
    go_wp2_with fail
    go_ret
    exact ⟨by rw [show bareB ⟨7, c.ss, c.sq, c.sh, c.nd, c.ep, c.n, c.fd, c.id, c.its, c.fl⟩ = false from by unfold bareB clB; simp [*]]; rfl, HO.out⟩
  have da9 : decide ((0 : Int) < (m : Int)) = false := by simpa using a9
  have za9 : ((m : Int) == 0) = true := by simp; omega
  have la9 : ¬ 0 < c.its.length := HM.out ▸ a9
  go_wp2_with fail
  go_ret
  exact ⟨by rw [show bareB ⟨7, c.ss, c.sq, c.sh, c.nd, c.ep, c.n, c.fd, c.id, c.its, c.fl⟩ = true from by unfold bareB clB; simp [*]]; rfl, HO.out⟩
set_option maxRecDepth 100000 in
set_option maxHeartbeats 4000000 in
theorem bare_8 (c : Cm) (IA : Option Addr) (m ic : Nat) (hm : m = c.its.length) (h1 : 0 ≤ c.ss ∧ c.ss ≤ 1099511627776) (h2 : 0 ≤ c.sq ∧ c.sq ≤ 1099511627776) (w : World) :
    Calls Try.prog 71 #[Cm.val ⟨8, c.ss, c.sq, c.sh, c.nd, c.ep, c.n, c.fd, c.id, c.its, c.fl⟩ (.slice IA m ic)] w fun e w' => e = .returned (.bool (bareB ⟨8, c.ss, c.sq, c.sh, c.nd, c.ep, c.n, c.fd, c.id, c.its, c.fl⟩)) ∧ Only [] w w' := by
  have HM := Lib.hid hm
  clear hm
  have HC := Lib.hid (fun w' => client_call ⟨8, c.ss, c.sq, c.sh, c.nd, c.ep, c.n, c.fd, c.id, c.its, c.fl⟩ (.slice IA m ic) w')
  rw [show clB 8 = false from rfl] at HC
  unfold Cm.val at HC ⊢
  dsimp only at HC ⊢
  have hws : IntKind.i64.wrap (c.ss + c.sq) = c.ss + c.sq := by rw [IntKind.wrap_i64]; omega
  obtain ⟨w1, hw1⟩ : ∃ w1, w.alloc (.cells #[.int .i64 8, .int .i64 c.ss, .int .i64 c.sq, .int .i64 c.sh, .int .i64 c.nd, .int .i64 c.ep, .int .i64 c.n, .string ⟨c.fd.toArray⟩, .string ⟨c.id.toArray⟩, .slice IA m ic, .bool c.fl] 65) = w1 := ⟨_, rfl⟩
  obtain ⟨z, hz⟩ : ∃ z, w.heap.size = z := ⟨_, rfl⟩
  have HZ : Cells w1 z 65 [.int .i64 8, .int .i64 c.ss, .int .i64 c.sq, .int .i64 c.sh, .int .i64 c.nd, .int .i64 c.ep, .int .i64 c.n, .string ⟨c.fd.toArray⟩, .string ⟨c.id.toArray⟩, .slice IA m ic, .bool c.fl] := hw1 ▸ hz ▸ Cells.new w _ _
  have HO : Hid (Only [] w w1) := Lib.hid (hw1 ▸ (Only.refl _ _).alloc _)
  have c0 := HZ.cell (k := 0) rfl
  have c1 := HZ.cell (k := 1) rfl
  have c2 := HZ.cell (k := 2) rfl
  have c3 := HZ.cell (k := 3) rfl
  have c4 := HZ.cell (k := 4) rfl
  have c5 := HZ.cell (k := 5) rfl
  have c6 := HZ.cell (k := 6) rfl
  have c7 := HZ.cell (k := 7) rfl
  have c8 := HZ.cell (k := 8) rfl
  have c9 := HZ.cell (k := 9) rfl
  have c10 := HZ.cell (k := 10) rfl
  go_enter Try.func71, Try.ntmps71
  go_wp2_with fail
  refine (HC.out _).mono ?_
  rintro e w2 ⟨rfl, ho⟩
  replace HZ := HZ.only ho (by simp)
  replace HO := Lib.hid (HO.out.tr ho)
  clear ho
  clear c0 c1 c2 c3 c4 c5 c6 c7 c8 c9 c10
  have c0 := HZ.cell (k := 0) rfl
  have c1 := HZ.cell (k := 1) rfl
  have c2 := HZ.cell (k := 2) rfl
  have c3 := HZ.cell (k := 3) rfl
  have c4 := HZ.cell (k := 4) rfl
  have c5 := HZ.cell (k := 5) rfl
  have c6 := HZ.cell (k := 6) rfl
  have c7 := HZ.cell (k := 7) rfl
  have c8 := HZ.cell (k := 8) rfl
  have c9 := HZ.cell (k := 9) rfl
  have c10 := HZ.cell (k := 10) rfl
  clear hw1 hz
  by_cases a1 : 0 < c.ss + c.sq
  · have da1 : decide (0 < c.ss + c.sq) = true := by simpa using a1
    go_wp2_with fail
    go_ret
    exact ⟨by rw [show bareB ⟨8, c.ss, c.sq, c.sh, c.nd, c.ep, c.n, c.fd, c.id, c.its, c.fl⟩ = false from by unfold bareB clB; simp [*]]; rfl, HO.out⟩
  have da1 : decide (0 < c.ss + c.sq) = false := by simpa using a1
  go_wp2_with fail
  refine (HC.out _).mono ?_
  rintro e w3 ⟨rfl, ho⟩
  replace HZ := HZ.only ho (by simp)
  replace HO := Lib.hid (HO.out.tr ho)
  clear ho
  clear c0 c1 c2 c3 c4 c5 c6 c7 c8 c9 c10
  have c0 := HZ.cell (k := 0) rfl
  have c1 := HZ.cell (k := 1) rfl
  have c2 := HZ.cell (k := 2) rfl
  have c3 := HZ.cell (k := 3) rfl
  have c4 := HZ.cell (k := 4) rfl
  have c5 := HZ.cell (k := 5) rfl
  have c6 := HZ.cell (k := 6) rfl
  have c7 := HZ.cell (k := 7) rfl
  have c8 := HZ.cell (k := 8) rfl
  have c9 := HZ.cell (k := 9) rfl
  have c10 := HZ.cell (k := 10) rfl
  go_wp2_with fail
  refine (is_call w3 z [8] 8 true HZ rfl (by decide)).mono ?_
  rintro e w4 ⟨rfl, ho⟩
  replace HZ := HZ.only ho (by simp)
  replace HO := Lib.hid (HO.out.tr ho)
  clear ho
  clear c0 c1 c2 c3 c4 c5 c6 c7 c8 c9 c10
  have c0 := HZ.cell (k := 0) rfl
  have c1 := HZ.cell (k := 1) rfl
  have c2 := HZ.cell (k := 2) rfl
  have c3 := HZ.cell (k := 3) rfl
  have c4 := HZ.cell (k := 4) rfl
  have c5 := HZ.cell (k := 5) rfl
  have c6 := HZ.cell (k := 6) rfl
  have c7 := HZ.cell (k := 7) rfl
  have c8 := HZ.cell (k := 8) rfl
  have c9 := HZ.cell (k := 9) rfl
  have c10 := HZ.cell (k := 10) rfl
  go_wp2_with fail
  refine (is_call w4 z [4] 8 false HZ rfl (by decide)).mono ?_
  rintro e w5 ⟨rfl, ho⟩
  replace HZ := HZ.only ho (by simp)
  replace HO := Lib.hid (HO.out.tr ho)
  clear ho
  clear c0 c1 c2 c3 c4 c5 c6 c7 c8 c9 c10
  have c0 := HZ.cell (k := 0) rfl
  have c1 := HZ.cell (k := 1) rfl
  have c2 := HZ.cell (k := 2) rfl
  have c3 := HZ.cell (k := 3) rfl
  have c4 := HZ.cell (k := 4) rfl
  have c5 := HZ.cell (k := 5) rfl
  have c6 := HZ.cell (k := 6) rfl
  have c7 := HZ.cell (k := 7) rfl
  have c8 := HZ.cell (k := 8) rfl
  have c9 := HZ.cell (k := 9) rfl
  have c10 := HZ.cell (k := 10) rfl
  by_cases a3 : ¬ c.id = []
  · have da3 : c.id.isEmpty = false := by simpa using a3
    go_wp2_with fail
    go_ret
    exact ⟨by rw [show bareB ⟨8, c.ss, c.sq, c.sh, c.nd, c.ep, c.n, c.fd, c.id, c.its, c.fl⟩ = false from by unfold bareB clB; simp [*]]; rfl, HO.out⟩
  have a3 := Decidable.not_not.1 a3
  have da3 : c.id.isEmpty = true := by simpa using a3
  go_wp2_with fail
  refine (is_call w5 z [5] 8 false HZ rfl (by decide)).mono ?_
  rintro e w6 ⟨rfl, ho⟩
  replace HZ := HZ.only ho (by simp)
  replace HO := Lib.hid (HO.out.tr ho)
  clear ho
  clear c0 c1 c2 c3 c4 c5 c6 c7 c8 c9 c10
  have c0 := HZ.cell (k := 0) rfl
  have c1 := HZ.cell (k := 1) rfl
  have c2 := HZ.cell (k := 2) rfl
  have c3 := HZ.cell (k := 3) rfl
  have c4 := HZ.cell (k := 4) rfl
  have c5 := HZ.cell (k := 5) rfl
  have c6 := HZ.cell (k := 6) rfl
  have c7 := HZ.cell (k := 7) rfl
  have c8 := HZ.cell (k := 8) rfl
  have c9 := HZ.cell (k := 9) rfl
  have c10 := HZ.cell (k := 10) rfl
  by_cases a4 : 0 < c.n
  · have da4 : decide (0 < c.n) = true := by simpa using a4
    go_wp2_with fail
    go_ret
    exact ⟨by rw [show bareB ⟨8, c.ss, c.sq, c.sh, c.nd, c.ep, c.n, c.fd, c.id, c.its, c.fl⟩ = false from by unfold bareB clB; simp [*]]; rfl, HO.out⟩
  have da4 : decide (0 < c.n) = false := by simpa using a4
  go_wp2_with fail
  refine (is_call w6 z [7, 8] 8 true HZ rfl (by decide)).mono ?_
  rintro e w7 ⟨rfl, ho⟩
  replace HZ := HZ.only ho (by simp)
  replace HO := Lib.hid (HO.out.tr ho)
  clear ho
  clear c0 c1 c2 c3 c4 c5 c6 c7 c8 c9 c10
  have c0 := HZ.cell (k := 0) rfl
  have c1 := HZ.cell (k := 1) rfl
  have c2 := HZ.cell (k := 2) rfl
  have c3 := HZ.cell (k := 3) rfl
  have c4 := HZ.cell (k := 4) rfl
  have c5 := HZ.cell (k := 5) rfl
  have c6 := HZ.cell (k := 6) rfl
  have c7 := HZ.cell (k := 7) rfl
  have c8 := HZ.cell (k := 8) rfl
  have c9 := HZ.cell (k := 9) rfl
  have c10 := HZ.cell (k := 10) rfl
  go_wp2_with fail
  refine (is_call w7 z [7, 8, 9] 8 true HZ rfl (by decide)).mono ?_
  rintro e w8 ⟨rfl, ho⟩
  replace HZ := HZ.only ho (by simp)
  replace HO := Lib.hid (HO.out.tr ho)
  clear ho
  clear c0 c1 c2 c3 c4 c5 c6 c7 c8 c9 c10
  have c0 := HZ.cell (k := 0) rfl
  have c1 := HZ.cell (k := 1) rfl
  have c2 := HZ.cell (k := 2) rfl
  have c3 := HZ.cell (k := 3) rfl
  have c4 := HZ.cell (k := 4) rfl
  have c5 := HZ.cell (k := 5) rfl
  have c6 := HZ.cell (k := 6) rfl
  have c7 := HZ.cell (k := 7) rfl
  have c8 := HZ.cell (k := 8) rfl
  have c9 := HZ.cell (k := 9) rfl
  have c10 := HZ.cell (k := 10) rfl
  go_wp2_with fail
  refine (is_call w8 z [8] 8 true HZ rfl (by decide)).mono ?_
  rintro e w9 ⟨rfl, ho⟩
  replace HZ := HZ.only ho (by simp)
  replace HO := Lib.hid (HO.out.tr ho)
  clear ho
  clear c0 c1 c2 c3 c4 c5 c6 c7 c8 c9 c10
  have c0 := HZ.cell (k := 0) rfl
  have c1 := HZ.cell (k := 1) rfl
  have c2 := HZ.cell (k := 2) rfl
  have c3 := HZ.cell (k := 3) rfl
  have c4 := HZ.cell (k := 4) rfl
  have c5 := HZ.cell (k := 5) rfl
  have c6 := HZ.cell (k := 6) rfl
  have c7 := HZ.cell (k := 7) rfl
  have c8 := HZ.cell (k := 8) rfl
  have c9 := HZ.cell (k := 9) rfl
  have c10 := HZ.cell (k := 10) rfl
  by_cases a8 : c.fl = true
  · have da8 := a8
    by_cases a9 : 0 < m
    · have da9 : decide ((0 : Int) < (m : Int)) = true := by simpa using a9
      have la9 : 0 < c.its.length := HM.out ▸ a9
      have za9 : ((m : Int) == 0) = false := by simp; omega
      go_wp2_with fail
      go_ret
      exact ⟨by rw [show bareB ⟨8, c.ss, c.sq, c.sh, c.nd, c.ep, c.n, c.fd, c.id, c.its, c.fl⟩ = false from by unfold bareB clB; simp [*]]; rfl, HO.out⟩
    have da9 : decide ((0 : Int) < (m : Int)) = false := by simpa using a9
    have za9 : ((m : Int) == 0) = true := by simp; omega
    have la9 : ¬ 0 < c.its.length := HM.out ▸ a9
    go_wp2_with fail
    go_ret
    exact ⟨by rw [show bareB ⟨8, c.ss, c.sq, c.sh, c.nd, c.ep, c.n, c.fd, c.id, c.its, c.fl⟩ = true from by unfold bareB clB; simp [*]]; rfl, HO.out⟩
  have da8 : c.fl = false := by simpa using a8
  go_wp2_with fail
  go_ret
  exact ⟨by rw [show bareB ⟨8, c.ss, c.sq, c.sh, c.nd, c.ep, c.n, c.fd, c.id, c.its, c.fl⟩ = true from by unfold bareB clB; simp [*]]; rfl, HO.out⟩
set_option maxRecDepth 100000 in
set_option maxHeartbeats 4000000 in
theorem bare_9 (c : Cm) (IA : Option Addr) (m ic : Nat) (hm : m = c.its.length) (h1 : 0 ≤ c.ss ∧ c.ss ≤ 1099511627776) (h2 : 0 ≤ c.sq ∧ c.sq ≤ 1099511627776) (w : World) :
    Calls Try.prog 71 #[Cm.val ⟨9, c.ss, c.sq, c.sh, c.nd, c.ep, c.n, c.fd, c.id, c.its, c.fl⟩ (.slice IA m ic)] w fun e w' => e = .returned (.bool (bareB ⟨9, c.ss, c.sq, c.sh, c.nd, c.ep, c.n, c.fd, c.id, c.its, c.fl⟩)) ∧ Only [] w w' := by
  have HM := Lib.hid hm
  clear hm
  have HC := Lib.hid (fun w' => client_call ⟨9, c.ss, c.sq, c.sh, c.nd, c.ep, c.n, c.fd, c.id, c.its, c.fl⟩ (.slice IA m ic) w')
  rw [show clB 9 = false from rfl] at HC
  unfold Cm.val at HC ⊢
  dsimp only at HC ⊢
  have hws : IntKind.i64.wrap (c.ss + c.sq) = c.ss + c.sq := by rw [IntKind.wrap_i64]; omega
  obtain ⟨w1, hw1⟩ : ∃ w1, w.alloc (.cells #[.int .i64 9, .int .i64 c.ss, .int .i64 c.sq, .int .i64 c.sh, .int .i64 c.nd, .int .i64 c.ep, .int .i64 c.n, .string ⟨c.fd.toArray⟩, .string ⟨c.id.toArray⟩, .slice IA m ic, .bool c.fl] 65) = w1 := ⟨_, rfl⟩
  obtain ⟨z, hz⟩ : ∃ z, w.heap.size = z := ⟨_, rfl⟩
  have HZ : Cells w1 z 65 [.int .i64 9, .int .i64 c.ss, .int .i64 c.sq, .int .i64 c.sh, .int .i64 c.nd, .int .i64 c.ep, .int .i64 c.n, .string ⟨c.fd.toArray⟩, .string ⟨c.id.toArray⟩, .slice IA m ic, .bool c.fl] := hw1 ▸ hz ▸ Cells.new w _ _
  have HO : Hid (Only [] w w1) := Lib.hid (hw1 ▸ (Only.refl _ _).alloc _)
  have c0 := HZ.cell (k := 0) rfl
  have c1 := HZ.cell (k := 1) rfl
  have c2 := HZ.cell (k := 2) rfl
  have c3 := HZ.cell (k := 3) rfl
  have c4 := HZ.cell (k := 4) rfl
  have c5 := HZ.cell (k := 5) rfl
  have c6 := HZ.cell (k := 6) rfl
  have c7 := HZ.cell (k := 7) rfl
  have c8 := HZ.cell (k := 8) rfl
  have c9 := HZ.cell (k := 9) rfl
  have c10 := HZ.cell (k := 10) rfl
  go_enter Try.func71, Try.ntmps71
  go_wp2_with fail
  refine (HC.out _).mono ?_
  rintro e w2 ⟨rfl, ho⟩
  replace HZ := HZ.only ho (by simp)
  replace HO := Lib.hid (HO.out.tr ho)
  clear ho
  clear c0 c1 c2 c3 c4 c5 c6 c7 c8 c9 c10
  have c0 := HZ.cell (k := 0) rfl
  have c1 := HZ.cell (k := 1) rfl
  have c2 := HZ.cell (k := 2) rfl
  have c3 := HZ.cell (k := 3) rfl
  have c4 := HZ.cell (k := 4) rfl
  have c5 := HZ.cell (k := 5) rfl
  have c6 := HZ.cell (k := 6) rfl
  have c7 := HZ.cell (k := 7) rfl
  have c8 := HZ.cell (k := 8) rfl
  have c9 := HZ.cell (k := 9) rfl
  have c10 := HZ.cell (k := 10) rfl
  clear hw1 hz
  by_cases a1 : 0 < c.ss + c.sq
  · have da1 : decide (0 < c.ss + c.sq) = true := by simpa using a1
    go_wp2_with fail
    go_ret
    exact ⟨by rw [show bareB ⟨9, c.ss, c.sq, c.sh, c.nd, c.ep, c.n, c.fd, c.id, c.its, c.fl⟩ = false from by unfold bareB clB; simp [*]]; rfl, HO.out⟩
  have da1 : decide (0 < c.ss + c.sq) = false := by simpa using a1
  go_wp2_with fail
  refine (HC.out _).mono ?_
  rintro e w3 ⟨rfl, ho⟩
  replace HZ := HZ.only ho (by simp)
  replace HO := Lib.hid (HO.out.tr ho)
  clear ho
  clear c0 c1 c2 c3 c4 c5 c6 c7 c8 c9 c10
  have c0 := HZ.cell (k := 0) rfl
  have c1 := HZ.cell (k := 1) rfl
  have c2 := HZ.cell (k := 2) rfl
  have c3 := HZ.cell (k := 3) rfl
  have c4 := HZ.cell (k := 4) rfl
  have c5 := HZ.cell (k := 5) rfl
  have c6 := HZ.cell (k := 6) rfl
  have c7 := HZ.cell (k := 7) rfl
  have c8 := HZ.cell (k := 8) rfl
  have c9 := HZ.cell (k := 9) rfl
  have c10 := HZ.cell (k := 10) rfl
  go_wp2_with fail
  refine (is_call w3 z [8] 9 false HZ rfl (by decide)).mono ?_
  rintro e w4 ⟨rfl, ho⟩
  replace HZ := HZ.only ho (by simp)
  replace HO := Lib.hid (HO.out.tr ho)
  clear ho
  clear c0 c1 c2 c3 c4 c5 c6 c7 c8 c9 c10
  have c0 := HZ.cell (k := 0) rfl
  have c1 := HZ.cell (k := 1) rfl
  have c2 := HZ.cell (k := 2) rfl
  have c3 := HZ.cell (k := 3) rfl
  have c4 := HZ.cell (k := 4) rfl
  have c5 := HZ.cell (k := 5) rfl
  have c6 := HZ.cell (k := 6) rfl
  have c7 := HZ.cell (k := 7) rfl
  have c8 := HZ.cell (k := 8) rfl
  have c9 := HZ.cell (k := 9) rfl
  have c10 := HZ.cell (k := 10) rfl
  by_cases a2 : ¬ c.fd = []
  · have da2 : c.fd.isEmpty = false := by simpa using a2
    go_wp2_with fail
    go_ret
    exact ⟨by rw [show bareB ⟨9, c.ss, c.sq, c.sh, c.nd, c.ep, c.n, c.fd, c.id, c.its, c.fl⟩ = false from by unfold bareB clB; simp [*]]; rfl, HO.out⟩
  have a2 := Decidable.not_not.1 a2
  have da2 : c.fd.isEmpty = true := by simpa using a2
  go_wp2_with fail
  refine (is_call w4 z [4] 9 false HZ rfl (by decide)).mono ?_
  rintro e w5 ⟨rfl, ho⟩
  replace HZ := HZ.only ho (by simp)
  replace HO := Lib.hid (HO.out.tr ho)
  clear ho
  clear c0 c1 c2 c3 c4 c5 c6 c7 c8 c9 c10
  have c0 := HZ.cell (k := 0) rfl
  have c1 := HZ.cell (k := 1) rfl
  have c2 := HZ.cell (k := 2) rfl
  have c3 := HZ.cell (k := 3) rfl
  have c4 := HZ.cell (k := 4) rfl
  have c5 := HZ.cell (k := 5) rfl
  have c6 := HZ.cell (k := 6) rfl
  have c7 := HZ.cell (k := 7) rfl
  have c8 := HZ.cell (k := 8) rfl
  have c9 := HZ.cell (k := 9) rfl
  have c10 := HZ.cell (k := 10) rfl
  by_cases a3 : ¬ c.id = []
  · have da3 : c.id.isEmpty = false := by simpa using a3
    go_wp2_with fail
    go_ret
    exact ⟨by rw [show bareB ⟨9, c.ss, c.sq, c.sh, c.nd, c.ep, c.n, c.fd, c.id, c.its, c.fl⟩ = false from by unfold bareB clB; simp [*]]; rfl, HO.out⟩
  have a3 := Decidable.not_not.1 a3
  have da3 : c.id.isEmpty = true := by simpa using a3
  go_wp2_with fail
  refine (is_call w5 z [5] 9 false HZ rfl (by decide)).mono ?_
  rintro e w6 ⟨rfl, ho⟩
  replace HZ := HZ.only ho (by simp)
  replace HO := Lib.hid (HO.out.tr ho)
  clear ho
  clear c0 c1 c2 c3 c4 c5 c6 c7 c8 c9 c10
  have c0 := HZ.cell (k := 0) rfl
  have c1 := HZ.cell (k := 1) rfl
  have c2 := HZ.cell (k := 2) rfl
  have c3 := HZ.cell (k := 3) rfl
  have c4 := HZ.cell (k := 4) rfl
  have c5 := HZ.cell (k := 5) rfl
  have c6 := HZ.cell (k := 6) rfl
  have c7 := HZ.cell (k := 7) rfl
  have c8 := HZ.cell (k := 8) rfl
  have c9 := HZ.cell (k := 9) rfl
  have c10 := HZ.cell (k := 10) rfl
  by_cases a4 : 0 < c.n
  · have da4 : decide (0 < c.n) = true := by simpa using a4
    go_wp2_with fail
    go_ret
    exact ⟨by rw [show bareB ⟨9, c.ss, c.sq, c.sh, c.nd, c.ep, c.n, c.fd, c.id, c.its, c.fl⟩ = false from by unfold bareB clB; simp [*]]; rfl, HO.out⟩
  have da4 : decide (0 < c.n) = false := by simpa using a4
  go_wp2_with fail
  refine (is_call w6 z [7, 8] 9 false HZ rfl (by decide)).mono ?_
  rintro e w7 ⟨rfl, ho⟩
  replace HZ := HZ.only ho (by simp)
  replace HO := Lib.hid (HO.out.tr ho)
  clear ho
  clear c0 c1 c2 c3 c4 c5 c6 c7 c8 c9 c10
  have c0 := HZ.cell (k := 0) rfl
  have c1 := HZ.cell (k := 1) rfl
  have c2 := HZ.cell (k := 2) rfl
  have c3 := HZ.cell (k := 3) rfl
  have c4 := HZ.cell (k := 4) rfl
  have c5 := HZ.cell (k := 5) rfl
  have c6 := HZ.cell (k := 6) rfl
  have c7 := HZ.cell (k := 7) rfl
  have c8 := HZ.cell (k := 8) rfl
  have c9 := HZ.cell (k := 9) rfl
  have c10 := HZ.cell (k := 10) rfl
  by_cases a5 : 0 < c.nd
  · have da5 : decide (0 < c.nd) = true := by simpa using a5
    go_wp2_with fail
    go_ret
    exact ⟨by rw [show bareB ⟨9, c.ss, c.sq, c.sh, c.nd, c.ep, c.n, c.fd, c.id, c.its, c.fl⟩ = false from by unfold bareB clB; simp [*]]; rfl, HO.out⟩
  have da5 : decide (0 < c.nd) = false := by simpa using a5
  go_wp2_with fail
  refine (is_call w7 z [7, 8, 9] 9 true HZ rfl (by decide)).mono ?_
  rintro e w8 ⟨rfl, ho⟩
  replace HZ := HZ.only ho (by simp)
  replace HO := Lib.hid (HO.out.tr ho)
  clear ho
  clear c0 c1 c2 c3 c4 c5 c6 c7 c8 c9 c10
  have c0 := HZ.cell (k := 0) rfl
  have c1 := HZ.cell (k := 1) rfl
  have c2 := HZ.cell (k := 2) rfl
  have c3 := HZ.cell (k := 3) rfl
  have c4 := HZ.cell (k := 4) rfl
  have c5 := HZ.cell (k := 5) rfl
  have c6 := HZ.cell (k := 6) rfl
  have c7 := HZ.cell (k := 7) rfl
  have c8 := HZ.cell (k := 8) rfl
  have c9 := HZ.cell (k := 9) rfl
  have c10 := HZ.cell (k := 10) rfl
  go_wp2_with fail
  refine (is_call w8 z [8] 9 false HZ rfl (by decide)).mono ?_
  rintro e w9 ⟨rfl, ho⟩
  replace HZ := HZ.only ho (by simp)
  replace HO := Lib.hid (HO.out.tr ho)
  clear ho
  clear c0 c1 c2 c3 c4 c5 c6 c7 c8 c9 c10
  have c0 := HZ.cell (k := 0) rfl
  have c1 := HZ.cell (k := 1) rfl
  have c2 := HZ.cell (k := 2) rfl
  have c3 := HZ.cell (k := 3) rfl
  have c4 := HZ.cell (k := 4) rfl
  have c5 := HZ.cell (k := 5) rfl
  have c6 := HZ.cell (k := 6) rfl
  have c7 := HZ.cell (k := 7) rfl
  have c8 := HZ.cell (k := 8) rfl
  have c9 := HZ.cell (k := 9) rfl
  have c10 := HZ.cell (k := 10) rfl
  by_cases a7 : 0 < c.ep
  · have da7 : decide (0 < c.ep) = true := by simpa using a7
    go_wp2_with fail
    go_ret
    exact ⟨by rw [show bareB ⟨9, c.ss, c.sq, c.sh, c.nd, c.ep, c.n, c.fd, c.id, c.its, c.fl⟩ = false from by unfold bareB clB; simp [*]]; rfl, HO.out⟩
  have da7 : decide (0 < c.ep) = false := by simpa using a7
  by_cases a8 : c.fl = true
  · have da8 := a8
    go_wp2_with fail
    go_ret
    exact ⟨by rw [show bareB ⟨9, c.ss, c.sq, c.sh, c.nd, c.ep, c.n, c.fd, c.id, c.its, c.fl⟩ = false from by unfold bareB clB; simp [*]]; rfl, HO.out⟩
  have da8 : c.fl = false := by simpa using a8
  by_cases a9 : 0 < m
  · have da9 : decide ((0 : Int) < (m : Int)) = true := by simpa using a9
    have la9 : 0 < c.its.length := HM.out ▸ a9
    have za9 : ((m : Int) == 0) = false := by simp; omega
    go_wp2_with fail
    go_ret
    exact ⟨by rw [show bareB ⟨9, c.ss, c.sq, c.sh, c.nd, c.ep, c.n, c.fd, c.id, c.its, c.fl⟩ = false from by unfold bareB clB; simp [*]]; rfl, HO.out⟩
  have da9 : decide ((0 : Int) < (m : Int)) = false := by simpa using a9
  have za9 : ((m : Int) == 0) = true := by simp; omega
  have la9 : ¬ 0 < c.its.length := HM.out ▸ a9
  go_wp2_with fail
  go_ret
  exact ⟨by rw [show bareB ⟨9, c.ss, c.sq, c.sh, c.nd, c.ep, c.n, c.fd, c.id, c.its, c.fl⟩ = true from by unfold bareB clB; simp [*]]; rfl, HO.out⟩
end Go.Proofs.Ytjfnkjpnjiobjaa
