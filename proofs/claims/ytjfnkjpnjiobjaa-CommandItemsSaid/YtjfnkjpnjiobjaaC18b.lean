/-
  Chapter 18: commands; bare. (Printed by gen_c18.py.)
-/
import Derived.Test.YtjfnkjpnjiobjaaC18a
import Derived.Test.YtjfnkjpnjiobjaaShelf17
import Derived.Test.YtjfnkjpnjiobjaaWide
namespace Go.Proofs.Ytjfnkjpnjiobjaa
open Go.RowKit
structure Cm where
  kd : Int
  ss : Int
  sq : Int
  sh : Int
  nd : Int
  ep : Int
  n : Int
  fd : List UInt8
  id : List UInt8
  its : List It
  fl : Bool
def Cm.cells (c : Cm) (iv : Value) : List Value := [.int .i64 c.kd, .int .i64 c.ss, .int .i64 c.sq, .int .i64 c.sh, .int .i64 c.nd, .int .i64 c.ep, .int .i64 c.n, .string ⟨c.fd.toArray⟩, .string ⟨c.id.toArray⟩, iv, .bool c.fl]
def Cm.val (c : Cm) (iv : Value) : Value := .agg #[.int .i64 c.kd, .int .i64 c.ss, .int .i64 c.sq, .int .i64 c.sh, .int .i64 c.nd, .int .i64 c.ep, .int .i64 c.n, .string ⟨c.fd.toArray⟩, .string ⟨c.id.toArray⟩, iv, .bool c.fl]
def clB (k : Int) : Bool := k == 2 || (k == 3 || (k == 4 || k == 5))
def bareB (c : Cm) : Bool :=
  !(!clB c.kd && decide (0 < c.ss + c.sq)) && !(!clB c.kd && !(c.kd == 8) && !c.fd.isEmpty) && !(!(c.kd == 4) && !c.id.isEmpty) && !(!(c.kd == 5) && decide (0 < c.n)) &&
  !(!(c.kd == 7 || c.kd == 8) && decide (0 < c.nd)) && !(!(c.kd == 7 || c.kd == 8 || c.kd == 9) && decide (0 < c.sh)) && !(!(c.kd == 8) && (decide (0 < c.ep) || c.fl || decide (0 < c.its.length))) && (!c.fl || !decide (0 < c.its.length))
set_option maxRecDepth 100000 in
theorem client_call (c : Cm) (iv : Value) (w : World) : Calls Try.prog 35 #[c.val iv] w fun e w' => e = .returned (.bool (clB c.kd)) ∧ Only [] w w' := by
  unfold Cm.val clB
  have HO := Lib.hid (((Only.refl [] w).alloc (.cells #[.int .i64 c.kd, .int .i64 c.ss, .int .i64 c.sq, .int .i64 c.sh, .int .i64 c.nd, .int .i64 c.ep, .int .i64 c.n, .string ⟨c.fd.toArray⟩, .string ⟨c.id.toArray⟩, iv, .bool c.fl] 65)))
  by_cases h2 : c.kd = 2
  · rw [h2] at HO ⊢
    go_enter Try.func35, Try.ntmps35
    go_wp2_with fail
    go_ret
    exact ⟨rfl, HO.out⟩
  by_cases h3 : c.kd = 3
  · rw [h3] at HO ⊢
    go_enter Try.func35, Try.ntmps35
    go_wp2_with fail
    go_ret
    exact ⟨rfl, HO.out⟩
  by_cases h4 : c.kd = 4
  · rw [h4] at HO ⊢
    go_enter Try.func35, Try.ntmps35
    go_wp2_with fail
    go_ret
    exact ⟨rfl, HO.out⟩
  by_cases h5 : c.kd = 5
  · rw [h5] at HO ⊢
    go_enter Try.func35, Try.ntmps35
    go_wp2_with fail
    go_ret
    exact ⟨rfl, HO.out⟩
  have d2 : (c.kd == 2) = false := by simpa using h2
  have d3 : (c.kd == 3) = false := by simpa using h3
  have d4 : (c.kd == 4) = false := by simpa using h4
  have d5 : (c.kd == 5) = false := by simpa using h5
  have HR : Hid ((c.kd == 2 || (c.kd == 3 || (c.kd == 4 || c.kd == 5))) = false) := Lib.hid (by rw [d2, d3, d4, d5]; rfl)
  rw [HR.out]
  go_enter Try.func35, Try.ntmps35
  go_wp2_with fail
  go_ret
  exact ⟨rfl, HO.out⟩
set_option maxRecDepth 100000 in
/-- 'is' of some kinds: the closure over a command's box z. -/
theorem is_call (w : World) (z : Nat) (ks : List Int) (k : Int) (r : Bool) {cs : List Value} (hz : Cells w z 65 (.int .i64 k :: cs)) (hr : ks.contains k = r) (hl : ks.length ≤ 100) :
    Calls Try.prog 103 #[.slice (some ⟨w.heap.size, 0, none⟩) ks.length ks.length, .pointer (some ⟨z, 0, none⟩)] (w.alloc (.cells (ks.map (Value.int .i64)).toArray 3)) fun e w' => e = .returned (.bool r) ∧ Only [] w w' := by
  obtain ⟨b, hb⟩ : ∃ b, w.heap.size = b := ⟨_, rfl⟩
  obtain ⟨w1, hw1⟩ : ∃ w1, w.alloc (.cells (ks.map (Value.int .i64)).toArray 3) = w1 := ⟨_, rfl⟩
  have ho : Only [] w w1 := hw1 ▸ (Only.refl _ _).alloc _
  have hC : Cells w1 b 3 (ks.map (Value.int .i64)) := hw1 ▸ hb ▸ Cells.new w _ _
  have hz1 := hz.only ho (by simp)
  have c0 := hz1.cell (k := 0) rfl
  rw [hw1, hb]
  have CC := Lib.hid (Try.slices_Contains_int b 0 ks.length ks.length ks k w1 (Nat.le_refl _) (by omega) (fun j hj => by
    rw [Nat.zero_add]
    exact hC.cell (by rw [List.getElem?_map, List.getElem?_eq_getElem hj]; simp [List.getD, List.getElem?_eq_getElem hj])))
  rw [List.take_length, hr] at CC
  have HO := Lib.hid ho
  clear hw1 hb hC hz hz1 ho hr
  go_enter Try.func103, Try.ntmps103
  go_wp2_with fail
  refine CC.out.mono ?_
  rintro e w2 ⟨rfl, rfl⟩
  go_wp2_with fail
  go_ret
  exact ⟨rfl, HO.out⟩
set_option maxRecDepth 100000 in
set_option maxHeartbeats 4000000 in
theorem bare_1 (c : Cm) (IA : Option Addr) (m ic : Nat) (hm : m = c.its.length) (h1 : 0 ≤ c.ss ∧ c.ss ≤ 1099511627776) (h2 : 0 ≤ c.sq ∧ c.sq ≤ 1099511627776) (w : World) :
    Calls Try.prog 71 #[Cm.val ⟨1, c.ss, c.sq, c.sh, c.nd, c.ep, c.n, c.fd, c.id, c.its, c.fl⟩ (.slice IA m ic)] w fun e w' => e = .returned (.bool (bareB ⟨1, c.ss, c.sq, c.sh, c.nd, c.ep, c.n, c.fd, c.id, c.its, c.fl⟩)) ∧ Only [] w w' := by
  have HM := Lib.hid hm
  clear hm
  have HC := Lib.hid (fun w' => client_call ⟨1, c.ss, c.sq, c.sh, c.nd, c.ep, c.n, c.fd, c.id, c.its, c.fl⟩ (.slice IA m ic) w')
  rw [show clB 1 = false from rfl] at HC
  unfold Cm.val at HC ⊢
  dsimp only at HC ⊢
  have hws : IntKind.i64.wrap (c.ss + c.sq) = c.ss + c.sq := by rw [IntKind.wrap_i64]; omega
  obtain ⟨w1, hw1⟩ : ∃ w1, w.alloc (.cells #[.int .i64 1, .int .i64 c.ss, .int .i64 c.sq, .int .i64 c.sh, .int .i64 c.nd, .int .i64 c.ep, .int .i64 c.n, .string ⟨c.fd.toArray⟩, .string ⟨c.id.toArray⟩, .slice IA m ic, .bool c.fl] 65) = w1 := ⟨_, rfl⟩
  obtain ⟨z, hz⟩ : ∃ z, w.heap.size = z := ⟨_, rfl⟩
  have HZ : Cells w1 z 65 [.int .i64 1, .int .i64 c.ss, .int .i64 c.sq, .int .i64 c.sh, .int .i64 c.nd, .int .i64 c.ep, .int .i64 c.n, .string ⟨c.fd.toArray⟩, .string ⟨c.id.toArray⟩, .slice IA m ic, .bool c.fl] := hw1 ▸ hz ▸ Cells.new w _ _
  have HO : Hid (Only [] w w1) := Lib.hid (hw1 ▸ (Only.refl _ _).alloc _)
  have c0 := HZ.cell (k := 0) rfl
  have c1 := HZ.cell (k := 1) rfl
  have c2 := HZ.cell (k := 2) rfl
  have c3 := HZ.cell (k := 3) rfl
  have c4 := HZ.cell (k := 4) rfl
  have c5 := HZ.cell (k := 5) rfl
  have c6 := HZ.cell (k := 6) rfl
  have c7 := HZ.cell (k := 7) rfl
  have c8 := HZ.cell (k := 8) rfl
  have c9 := HZ.cell (k := 9) rfl
  have c10 := HZ.cell (k := 10) rfl
  go_enter Try.func71, Try.ntmps71
  go_wp2_with fail
  refine (HC.out _).mono ?_
  rintro e w2 ⟨rfl, ho⟩
  replace HZ := HZ.only ho (by simp)
  replace HO := Lib.hid (HO.out.tr ho)
  clear ho
  clear c0 c1 c2 c3 c4 c5 c6 c7 c8 c9 c10
  have c0 := HZ.cell (k := 0) rfl
  have c1 := HZ.cell (k := 1) rfl
  have c2 := HZ.cell (k := 2) rfl
  have c3 := HZ.cell (k := 3) rfl
  have c4 := HZ.cell (k := 4) rfl
  have c5 := HZ.cell (k := 5) rfl
  have c6 := HZ.cell (k := 6) rfl
  have c7 := HZ.cell (k := 7) rfl
  have c8 := HZ.cell (k := 8) rfl
  have c9 := HZ.cell (k := 9) rfl
  have c10 := HZ.cell (k := 10) rfl
  clear hw1 hz
  by_cases a1 : 0 < c.ss + c.sq
  · have da1 : decide (0 < c.ss + c.sq) = true := by simpa using a1
    go_wp2_with fail
    go_ret
    exact ⟨by rw [show bareB ⟨1, c.ss, c.sq, c.sh, c.nd, c.ep, c.n, c.fd, c.id, c.its, c.fl⟩ = false from by unfold bareB clB; simp [*]]; rfl, HO.out⟩
  have da1 : decide (0 < c.ss + c.sq) = false := by simpa using a1
  go_wp2_with fail
  refine (HC.out _).mono ?_
  rintro e w3 ⟨rfl, ho⟩
  replace HZ := HZ.only ho (by simp)
  replace HO := Lib.hid (HO.out.tr ho)
  clear ho
  clear c0 c1 c2 c3 c4 c5 c6 c7 c8 c9 c10
  have c0 := HZ.cell (k := 0) rfl
  have c1 := HZ.cell (k := 1) rfl
  have c2 := HZ.cell (k := 2) rfl
  have c3 := HZ.cell (k := 3) rfl
  have c4 := HZ.cell (k := 4) rfl
  have c5 := HZ.cell (k := 5) rfl
  have c6 := HZ.cell (k := 6) rfl
  have c7 := HZ.cell (k := 7) rfl
  have c8 := HZ.cell (k := 8) rfl
  have c9 := HZ.cell (k := 9) rfl
  have c10 := HZ.cell (k := 10) rfl
  go_wp2_with fail
  refine (is_call w3 z [8] 1 false HZ rfl (by decide)).mono ?_
  rintro e w4 ⟨rfl, ho⟩
  replace HZ := HZ.only ho (by simp)
  replace HO := Lib.hid (HO.out.tr ho)
  clear ho
  clear c0 c1 c2 c3 c4 c5 c6 c7 c8 c9 c10
  have c0 := HZ.cell (k := 0) rfl
  have c1 := HZ.cell (k := 1) rfl
  have c2 := HZ.cell (k := 2) rfl
  have c3 := HZ.cell (k := 3) rfl
  have c4 := HZ.cell (k := 4) rfl
  have c5 := HZ.cell (k := 5) rfl
  have c6 := HZ.cell (k := 6) rfl
  have c7 := HZ.cell (k := 7) rfl
  have c8 := HZ.cell (k := 8) rfl
  have c9 := HZ.cell (k := 9) rfl
  have c10 := HZ.cell (k := 10) rfl
  by_cases a2 : ¬ c.fd = []
  · have da2 : c.fd.isEmpty = false := by simpa using a2
    go_wp2_with fail
    go_ret
    exact ⟨by rw [show bareB ⟨1, c.ss, c.sq, c.sh, c.nd, c.ep, c.n, c.fd, c.id, c.its, c.fl⟩ = false from by unfold bareB clB; simp [*]]; rfl, HO.out⟩
  have a2 := Decidable.not_not.1 a2
  have da2 : c.fd.isEmpty = true := by simpa using a2
  go_wp2_with fail
  refine (is_call w4 z [4] 1 false HZ rfl (by decide)).mono ?_
  rintro e w5 ⟨rfl, ho⟩
  replace HZ := HZ.only ho (by simp)
  replace HO := Lib.hid (HO.out.tr ho)
  clear ho
  clear c0 c1 c2 c3 c4 c5 c6 c7 c8 c9 c10
  have c0 := HZ.cell (k := 0) rfl
  have c1 := HZ.cell (k := 1) rfl
  have c2 := HZ.cell (k := 2) rfl
  have c3 := HZ.cell (k := 3) rfl
  have c4 := HZ.cell (k := 4) rfl
  have c5 := HZ.cell (k := 5) rfl
  have c6 := HZ.cell (k := 6) rfl
  have c7 := HZ.cell (k := 7) rfl
  have c8 := HZ.cell (k := 8) rfl
  have c9 := HZ.cell (k := 9) rfl
  have c10 := HZ.cell (k := 10) rfl
  by_cases a3 : ¬ c.id = []
  · have da3 : c.id.isEmpty = false := by simpa using a3
    go_wp2_with fail
    go_ret
    exact ⟨by rw [show bareB ⟨1, c.ss, c.sq, c.sh, c.nd, c.ep, c.n, c.fd, c.id, c.its, c.fl⟩ = false from by unfold bareB clB; simp [*]]; rfl, HO.out⟩
  have a3 := Decidable.not_not.1 a3
  have da3 : c.id.isEmpty = true := by simpa using a3
  go_wp2_with fail
  refine (is_call w5 z [5] 1 false HZ rfl (by decide)).mono ?_
  rintro e w6 ⟨rfl, ho⟩
  replace HZ := HZ.only ho (by simp)
  replace HO := Lib.hid (HO.out.tr ho)
  clear ho
  clear c0 c1 c2 c3 c4 c5 c6 c7 c8 c9 c10
  have c0 := HZ.cell (k := 0) rfl
  have c1 := HZ.cell (k := 1) rfl
  have c2 := HZ.cell (k := 2) rfl
  have c3 := HZ.cell (k := 3) rfl
  have c4 := HZ.cell (k := 4) rfl
  have c5 := HZ.cell (k := 5) rfl
  have c6 := HZ.cell (k := 6) rfl
  have c7 := HZ.cell (k := 7) rfl
  have c8 := HZ.cell (k := 8) rfl
  have c9 := HZ.cell (k := 9) rfl
  have c10 := HZ.cell (k := 10) rfl
  by_cases a4 : 0 < c.n
  · have da4 : decide (0 < c.n) = true := by simpa using a4
    go_wp2_with fail
    go_ret
    exact ⟨by rw [show bareB ⟨1, c.ss, c.sq, c.sh, c.nd, c.ep, c.n, c.fd, c.id, c.its, c.fl⟩ = false from by unfold bareB clB; simp [*]]; rfl, HO.out⟩
  have da4 : decide (0 < c.n) = false := by simpa using a4
  go_wp2_with fail
  refine (is_call w6 z [7, 8] 1 false HZ rfl (by decide)).mono ?_
  rintro e w7 ⟨rfl, ho⟩
  replace HZ := HZ.only ho (by simp)
  replace HO := Lib.hid (HO.out.tr ho)
  clear ho
  clear c0 c1 c2 c3 c4 c5 c6 c7 c8 c9 c10
  have c0 := HZ.cell (k := 0) rfl
  have c1 := HZ.cell (k := 1) rfl
  have c2 := HZ.cell (k := 2) rfl
  have c3 := HZ.cell (k := 3) rfl
  have c4 := HZ.cell (k := 4) rfl
  have c5 := HZ.cell (k := 5) rfl
  have c6 := HZ.cell (k := 6) rfl
  have c7 := HZ.cell (k := 7) rfl
  have c8 := HZ.cell (k := 8) rfl
  have c9 := HZ.cell (k := 9) rfl
  have c10 := HZ.cell (k := 10) rfl
  by_cases a5 : 0 < c.nd
  · have da5 : decide (0 < c.nd) = true := by simpa using a5
    go_wp2_with fail
    go_ret
    exact ⟨by rw [show bareB ⟨1, c.ss, c.sq, c.sh, c.nd, c.ep, c.n, c.fd, c.id, c.its, c.fl⟩ = false from by unfold bareB clB; simp [*]]; rfl, HO.out⟩
  have da5 : decide (0 < c.nd) = false := by simpa using a5
  go_wp2_with fail
  refine (is_call w7 z [7, 8, 9] 1 false HZ rfl (by decide)).mono ?_
  rintro e w8 ⟨rfl, ho⟩
  replace HZ := HZ.only ho (by simp)
  replace HO := Lib.hid (HO.out.tr ho)
  clear ho
  clear c0 c1 c2 c3 c4 c5 c6 c7 c8 c9 c10
  have c0 := HZ.cell (k := 0) rfl
  have c1 := HZ.cell (k := 1) rfl
  have c2 := HZ.cell (k := 2) rfl
  have c3 := HZ.cell (k := 3) rfl
  have c4 := HZ.cell (k := 4) rfl
  have c5 := HZ.cell (k := 5) rfl
  have c6 := HZ.cell (k := 6) rfl
  have c7 := HZ.cell (k := 7) rfl
  have c8 := HZ.cell (k := 8) rfl
  have c9 := HZ.cell (k := 9) rfl
  have c10 := HZ.cell (k := 10) rfl
  by_cases a6 : 0 < c.sh
  · have da6 : decide (0 < c.sh) = true := by simpa using a6
    go_wp2_with fail
    go_ret
    exact ⟨by rw [show bareB ⟨1, c.ss, c.sq, c.sh, c.nd, c.ep, c.n, c.fd, c.id, c.its, c.fl⟩ = false from by unfold bareB clB; simp [*]]; rfl, HO.out⟩
  have da6 : decide (0 < c.sh) = false := by simpa using a6
  go_wp2_with fail
  refine (is_call w8 z [8] 1 false HZ rfl (by decide)).mono ?_
  rintro e w9 ⟨rfl, ho⟩
  replace HZ := HZ.only ho (by simp)
  replace HO := Lib.hid (HO.out.tr ho)
  clear ho
  clear c0 c1 c2 c3 c4 c5 c6 c7 c8 c9 c10
  have c0 := HZ.cell (k := 0) rfl
  have c1 := HZ.cell (k := 1) rfl
  have c2 := HZ.cell (k := 2) rfl
  have c3 := HZ.cell (k := 3) rfl
  have c4 := HZ.cell (k := 4) rfl
  have c5 := HZ.cell (k := 5) rfl
  have c6 := HZ.cell (k := 6) rfl
  have c7 := HZ.cell (k := 7) rfl
  have c8 := HZ.cell (k := 8) rfl
  have c9 := HZ.cell (k := 9) rfl
  have c10 := HZ.cell (k := 10) rfl
  by_cases a7 : 0 < c.ep
  · have da7 : decide (0 < c.ep) = true := by simpa using a7
    go_wp2_with fail
    go_ret
    exact ⟨by rw [show bareB ⟨1, c.ss, c.sq, c.sh, c.nd, c.ep, c.n, c.fd, c.id, c.its, c.fl⟩ = false from by unfold bareB clB; simp [*]]; rfl, HO.out⟩
  have da7 : decide (0 < c.ep) = false := by simpa using a7
  by_cases a8 : c.fl = true
  · have da8 := a8
    go_wp2_with fail
    go_ret
    exact ⟨by rw [show bareB ⟨1, c.ss, c.sq, c.sh, c.nd, c.ep, c.n, c.fd, c.id, c.its, c.fl⟩ = false from by unfold bareB clB; simp [*]]; rfl, HO.out⟩
  have da8 : c.fl = false := by simpa using a8
  by_cases a9 : 0 < m
  · have da9 : decide ((0 : Int) < (m : Int)) = true := by simpa using a9
    have la9 : 0 < c.its.length := HM.out ▸ a9
    have za9 : ((m : Int) == 0) = false := by simp; omega
    go_wp2_with fail
    go_ret
    exact ⟨by rw [show bareB ⟨1, c.ss, c.sq, c.sh, c.nd, c.ep, c.n, c.fd, c.id, c.its, c.fl⟩ = false from by unfold bareB clB; simp [*]]; rfl, HO.out⟩
  have da9 : decide ((0 : Int) < (m : Int)) = false := by simpa using a9
  have za9 : ((m : Int) == 0) = true := by simp; omega
  have la9 : ¬ 0 < c.its.length := HM.out ▸ a9
  go_wp2_with fail
  go_ret
  exact ⟨by rw [show bareB ⟨1, c.ss, c.sq, c.sh, c.nd, c.ep, c.n, c.fd, c.id, c.its, c.fl⟩ = true from by unfold bareB clB; simp [*]]; rfl, HO.out⟩
set_option maxRecDepth 100000 in
set_option maxHeartbeats 4000000 in
theorem bare_2 (c : Cm) (IA : Option Addr) (m ic : Nat) (hm : m = c.its.length) (h1 : 0 ≤ c.ss ∧ c.ss ≤ 1099511627776) (h2 : 0 ≤ c.sq ∧ c.sq ≤ 1099511627776) (w : World) :
    Calls Try.prog 71 #[Cm.val ⟨2, c.ss, c.sq, c.sh, c.nd, c.ep, c.n, c.fd, c.id, c.its, c.fl⟩ (.slice IA m ic)] w fun e w' => e = .returned (.bool (bareB ⟨2, c.ss, c.sq, c.sh, c.nd, c.ep, c.n, c.fd, c.id, c.its, c.fl⟩)) ∧ Only [] w w' := by
  have HM := Lib.hid hm
  clear hm
  have HC := Lib.hid (fun w' => client_call ⟨2, c.ss, c.sq, c.sh, c.nd, c.ep, c.n, c.fd, c.id, c.its, c.fl⟩ (.slice IA m ic) w')
  rw [show clB 2 = true from rfl] at HC
  unfold Cm.val at HC ⊢
  dsimp only at HC ⊢
  have hws : IntKind.i64.wrap (c.ss + c.sq) = c.ss + c.sq := by rw [IntKind.wrap_i64]; omega
  obtain ⟨w1, hw1⟩ : ∃ w1, w.alloc (.cells #[.int .i64 2, .int .i64 c.ss, .int .i64 c.sq, .int .i64 c.sh, .int .i64 c.nd, .int .i64 c.ep, .int .i64 c.n, .string ⟨c.fd.toArray⟩, .string ⟨c.id.toArray⟩, .slice IA m ic, .bool c.fl] 65) = w1 := ⟨_, rfl⟩
  obtain ⟨z, hz⟩ : ∃ z, w.heap.size = z := ⟨_, rfl⟩
  have HZ : Cells w1 z 65 [.int .i64 2, .int .i64 c.ss, .int .i64 c.sq, .int .i64 c.sh, .int .i64 c.nd, .int .i64 c.ep, .int .i64 c.n, .string ⟨c.fd.toArray⟩, .string ⟨c.id.toArray⟩, .slice IA m ic, .bool c.fl] := hw1 ▸ hz ▸ Cells.new w _ _
  have HO : Hid (Only [] w w1) := Lib.hid (hw1 ▸ (Only.refl _ _).alloc _)
  have c0 := HZ.cell (k := 0) rfl
  have c1 := HZ.cell (k := 1) rfl
  have c2 := HZ.cell (k := 2) rfl
  have c3 := HZ.cell (k := 3) rfl
  have c4 := HZ.cell (k := 4) rfl
  have c5 := HZ.cell (k := 5) rfl
  have c6 := HZ.cell (k := 6) rfl
  have c7 := HZ.cell (k := 7) rfl
  have c8 := HZ.cell (k := 8) rfl
  have c9 := HZ.cell (k := 9) rfl
  have c10 := HZ.cell (k := 10) rfl
  go_enter Try.func71, Try.ntmps71
  go_wp2_with fail
  refine (HC.out _).mono ?_
  rintro e w2 ⟨rfl, ho⟩
  replace HZ := HZ.only ho (by simp)
  replace HO := Lib.hid (HO.out.tr ho)
  clear ho
  clear c0 c1 c2 c3 c4 c5 c6 c7 c8 c9 c10
  have c0 := HZ.cell (k := 0) rfl
  have c1 := HZ.cell (k := 1) rfl
  have c2 := HZ.cell (k := 2) rfl
  have c3 := HZ.cell (k := 3) rfl
  have c4 := HZ.cell (k := 4) rfl
  have c5 := HZ.cell (k := 5) rfl
  have c6 := HZ.cell (k := 6) rfl
  have c7 := HZ.cell (k := 7) rfl
  have c8 := HZ.cell (k := 8) rfl
  have c9 := HZ.cell (k := 9) rfl
  have c10 := HZ.cell (k := 10) rfl
  clear hw1 hz
  go_wp2_with fail
  refine (HC.out _).mono ?_
  rintro e w3 ⟨rfl, ho⟩
  replace HZ := HZ.only ho (by simp)
  replace HO := Lib.hid (HO.out.tr ho)
  clear ho
  clear c0 c1 c2 c3 c4 c5 c6 c7 c8 c9 c10
  have c0 := HZ.cell (k := 0) rfl
  have c1 := HZ.cell (k := 1) rfl
  have c2 := HZ.cell (k := 2) rfl
  have c3 := HZ.cell (k := 3) rfl
  have c4 := HZ.cell (k := 4) rfl
  have c5 := HZ.cell (k := 5) rfl
  have c6 := HZ.cell (k := 6) rfl
  have c7 := HZ.cell (k := 7) rfl
  have c8 := HZ.cell (k := 8) rfl
  have c9 := HZ.cell (k := 9) rfl
  have c10 := HZ.cell (k := 10) rfl
  go_wp2_with fail
  refine (is_call w3 z [4] 2 false HZ rfl (by decide)).mono ?_
  rintro e w4 ⟨rfl, ho⟩
  replace HZ := HZ.only ho (by simp)
  replace HO := Lib.hid (HO.out.tr ho)
  clear ho
  clear c0 c1 c2 c3 c4 c5 c6 c7 c8 c9 c10
  have c0 := HZ.cell (k := 0) rfl
  have c1 := HZ.cell (k := 1) rfl
  have c2 := HZ.cell (k := 2) rfl
  have c3 := HZ.cell (k := 3) rfl
  have c4 := HZ.cell (k := 4) rfl
  have c5 := HZ.cell (k := 5) rfl
  have c6 := HZ.cell (k := 6) rfl
  have c7 := HZ.cell (k := 7) rfl
  have c8 := HZ.cell (k := 8) rfl
  have c9 := HZ.cell (k := 9) rfl
  have c10 := HZ.cell (k := 10) rfl
  by_cases a3 : ¬ c.id = []
  · have da3 : c.id.isEmpty = false := by simpa using a3
    go_wp2_with fail
    go_ret
    exact ⟨by rw [show bareB ⟨2, c.ss, c.sq, c.sh, c.nd, c.ep, c.n, c.fd, c.id, c.its, c.fl⟩ = false from by unfold bareB clB; simp [*]]; rfl, HO.out⟩
  have a3 := Decidable.not_not.1 a3
  have da3 : c.id.isEmpty = true := by simpa using a3
  go_wp2_with fail
  refine (is_call w4 z [5] 2 false HZ rfl (by decide)).mono ?_
  rintro e w5 ⟨rfl, ho⟩
  replace HZ := HZ.only ho (by simp)
  replace HO := Lib.hid (HO.out.tr ho)
  clear ho
  clear c0 c1 c2 c3 c4 c5 c6 c7 c8 c9 c10
  have c0 := HZ.cell (k := 0) rfl
  have c1 := HZ.cell (k := 1) rfl
  have c2 := HZ.cell (k := 2) rfl
  have c3 := HZ.cell (k := 3) rfl
  have c4 := HZ.cell (k := 4) rfl
  have c5 := HZ.cell (k := 5) rfl
  have c6 := HZ.cell (k := 6) rfl
  have c7 := HZ.cell (k := 7) rfl
  have c8 := HZ.cell (k := 8) rfl
  have c9 := HZ.cell (k := 9) rfl
  have c10 := HZ.cell (k := 10) rfl
  by_cases a4 : 0 < c.n
  · have da4 : decide (0 < c.n) = true := by simpa using a4
    go_wp2_with fail
    go_ret
    exact ⟨by rw [show bareB ⟨2, c.ss, c.sq, c.sh, c.nd, c.ep, c.n, c.fd, c.id, c.its, c.fl⟩ = false from by unfold bareB clB; simp [*]]; rfl, HO.out⟩
  have da4 : decide (0 < c.n) = false := by simpa using a4
  go_wp2_with fail
  refine (is_call w5 z [7, 8] 2 false HZ rfl (by decide)).mono ?_
  rintro e w6 ⟨rfl, ho⟩
  replace HZ := HZ.only ho (by simp)
  replace HO := Lib.hid (HO.out.tr ho)
  clear ho
  clear c0 c1 c2 c3 c4 c5 c6 c7 c8 c9 c10
  have c0 := HZ.cell (k := 0) rfl
  have c1 := HZ.cell (k := 1) rfl
  have c2 := HZ.cell (k := 2) rfl
  have c3 := HZ.cell (k := 3) rfl
  have c4 := HZ.cell (k := 4) rfl
  have c5 := HZ.cell (k := 5) rfl
  have c6 := HZ.cell (k := 6) rfl
  have c7 := HZ.cell (k := 7) rfl
  have c8 := HZ.cell (k := 8) rfl
  have c9 := HZ.cell (k := 9) rfl
  have c10 := HZ.cell (k := 10) rfl
  by_cases a5 : 0 < c.nd
  · have da5 : decide (0 < c.nd) = true := by simpa using a5
    go_wp2_with fail
    go_ret
    exact ⟨by rw [show bareB ⟨2, c.ss, c.sq, c.sh, c.nd, c.ep, c.n, c.fd, c.id, c.its, c.fl⟩ = false from by unfold bareB clB; simp [*]]; rfl, HO.out⟩
  have da5 : decide (0 < c.nd) = false := by simpa using a5
  go_wp2_with fail
  refine (is_call w6 z [7, 8, 9] 2 false HZ rfl (by decide)).mono ?_
  rintro e w7 ⟨rfl, ho⟩
  replace HZ := HZ.only ho (by simp)
  replace HO := Lib.hid (HO.out.tr ho)
  clear ho
  clear c0 c1 c2 c3 c4 c5 c6 c7 c8 c9 c10
  have c0 := HZ.cell (k := 0) rfl
  have c1 := HZ.cell (k := 1) rfl
  have c2 := HZ.cell (k := 2) rfl
  have c3 := HZ.cell (k := 3) rfl
  have c4 := HZ.cell (k := 4) rfl
  have c5 := HZ.cell (k := 5) rfl
  have c6 := HZ.cell (k := 6) rfl
  have c7 := HZ.cell (k := 7) rfl
  have c8 := HZ.cell (k := 8) rfl
  have c9 := HZ.cell (k := 9) rfl
  have c10 := HZ.cell (k := 10) rfl
  by_cases a6 : 0 < c.sh
  · have da6 : decide (0 < c.sh) = true := by simpa using a6
    go_wp2_with fail
    go_ret
    exact ⟨by rw [show bareB ⟨2, c.ss, c.sq, c.sh, c.nd, c.ep, c.n, c.fd, c.id, c.its, c.fl⟩ = false from by unfold bareB clB; simp [*]]; rfl, HO.out⟩
  have da6 : decide (0 < c.sh) = false := by simpa using a6
  go_wp2_with fail
  refine (is_call w7 z [8] 2 false HZ rfl (by decide)).mono ?_
  rintro e w8 ⟨rfl, ho⟩
  replace HZ := HZ.only ho (by simp)
  replace HO := Lib.hid (HO.out.tr ho)
  clear ho
  clear c0 c1 c2 c3 c4 c5 c6 c7 c8 c9 c10
  have c0 := HZ.cell (k := 0) rfl
  have c1 := HZ.cell (k := 1) rfl
  have c2 := HZ.cell (k := 2) rfl
  have c3 := HZ.cell (k := 3) rfl
  have c4 := HZ.cell (k := 4) rfl
  have c5 := HZ.cell (k := 5) rfl
  have c6 := HZ.cell (k := 6) rfl
  have c7 := HZ.cell (k := 7) rfl
  have c8 := HZ.cell (k := 8) rfl
  have c9 := HZ.cell (k := 9) rfl
  have c10 := HZ.cell (k := 10) rfl
  by_cases a7 : 0 < c.ep
  · have da7 : decide (0 < c.ep) = true := by simpa using a7
    go_wp2_with fail
    go_ret
    exact ⟨by rw [show bareB ⟨2, c.ss, c.sq, c.sh, c.nd, c.ep, c.n, c.fd, c.id, c.its, c.fl⟩ = false from by unfold bareB clB; simp [*]]; rfl, HO.out⟩
  have da7 : decide (0 < c.ep) = false := by simpa using a7
  by_cases a8 : c.fl = true
  · have da8 := a8
    go_wp2_with fail
    go_ret
    exact ⟨by rw [show bareB ⟨2, c.ss, c.sq, c.sh, c.nd, c.ep, c.n, c.fd, c.id, c.its, c.fl⟩ = false from by unfold bareB clB; simp [*]]; rfl, HO.out⟩
  have da8 : c.fl = false := by simpa using a8
  by_cases a9 : 0 < m
  · have da9 : decide ((0 : Int) < (m : Int)) = true := by simpa using a9
    have la9 : 0 < c.its.length := HM.out ▸ a9
    have za9 : ((m : Int) == 0) = false := by simp; omega
    go_wp2_with fail
    go_ret
    exact ⟨by rw [show bareB ⟨2, c.ss, c.sq, c.sh, c.nd, c.ep, c.n, c.fd, c.id, c.its, c.fl⟩ = false from by unfold bareB clB; simp [*]]; rfl, HO.out⟩
  have da9 : decide ((0 : Int) < (m : Int)) = false := by simpa using a9
  have za9 : ((m : Int) == 0) = true := by simp; omega
  have la9 : ¬ 0 < c.its.length := HM.out ▸ a9
  go_wp2_with fail
  go_ret
  exact ⟨by rw [show bareB ⟨2, c.ss, c.sq, c.sh, c.nd, c.ep, c.n, c.fd, c.id, c.its, c.fl⟩ = true from by unfold bareB clB; simp [*]]; rfl, HO.out⟩
end Go.Proofs.Ytjfnkjpnjiobjaa
