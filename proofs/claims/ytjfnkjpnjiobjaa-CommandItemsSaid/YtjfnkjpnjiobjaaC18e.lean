/-
  Chapter 18: Right of commands.
-/
import Derived.Test.YtjfnkjpnjiobjaaC18c
import Derived.Test.YtjfnkjpnjiobjaaC18d
namespace Go.Proofs.Ytjfnkjpnjiobjaa
open Go.RowKit
/-- What a command's parts may be, in memory. -/
structure CmAt (w : World) (iv : Value) (c : Cm) : Prop where
  its : SlAt w w.heap.size iv 3 c.its.length (itL c.its)
  len : ∀ x ∈ c.its, x.Len
  fd : c.fd.length ≤ maxLen
  id : c.id.length ≤ maxLen
  nums : ∀ x ∈ [c.kd, c.ss, c.sq, c.sh, c.nd, c.ep, c.n], Wide64 x
theorem CmAt.only {w w' : World} {iv : Value} {c : Cm} (h : CmAt w iv c) (ho : Only [] w w') : CmAt w' iv c := ⟨(h.its.only ho (Nat.le_refl _) (by simp)).more ho.size, h.len, h.fd, h.id, h.nums⟩
def inB (n top : Int) : Bool := decide (0 ≤ n) && decide (n ≤ top)
def numB (c : Cm) : Bool := decide (1 ≤ c.kd) && decide (c.kd ≤ 9) && inB c.ss 1099511627776 && inB c.sq 1099511627776 && inB c.ep 1099511627776 && inB c.n 1099511627776 && inB c.sh 7 && inB c.nd 9
def lenB (c : Cm) : Bool := decide (c.fd.length ≤ 200) && decide (c.id.length ≤ 200) && decide (c.its.length ≤ 100)
def rightB (c : Cm) : Bool := numB c && lenB c && bareB c && c.its.all itR
theorem inB_iff {n top : Int} : inB n top = true ↔ 0 ≤ n ∧ n ≤ top := by unfold inB; simp
theorem bare_call (c : Cm) (IA : Option Addr) (m ic : Nat) (hm : m = c.its.length) (hk : 1 ≤ c.kd ∧ c.kd ≤ 9) (h1 : 0 ≤ c.ss ∧ c.ss ≤ 1099511627776) (h2 : 0 ≤ c.sq ∧ c.sq ≤ 1099511627776) (w : World) :
    Calls Try.prog 71 #[c.val (.slice IA m ic)] w fun e w' => e = .returned (.bool (bareB c)) ∧ Only [] w w' := by
  obtain ⟨kd, ss, sq, sh, nd, ep, n, fd, id, its, fl⟩ := c
  have hk : kd = 1 ∨ kd = 2 ∨ kd = 3 ∨ kd = 4 ∨ kd = 5 ∨ kd = 6 ∨ kd = 7 ∨ kd = 8 ∨ kd = 9 := by dsimp only at hk; omega
  rcases hk with rfl | rfl | rfl | rfl | rfl | rfl | rfl | rfl | rfl
  · exact bare_1 ⟨1, ss, sq, sh, nd, ep, n, fd, id, its, fl⟩ IA m ic hm h1 h2 w
  · exact bare_2 ⟨2, ss, sq, sh, nd, ep, n, fd, id, its, fl⟩ IA m ic hm h1 h2 w
  · exact bare_3 ⟨3, ss, sq, sh, nd, ep, n, fd, id, its, fl⟩ IA m ic hm h1 h2 w
  · exact bare_4 ⟨4, ss, sq, sh, nd, ep, n, fd, id, its, fl⟩ IA m ic hm h1 h2 w
  · exact bare_5 ⟨5, ss, sq, sh, nd, ep, n, fd, id, its, fl⟩ IA m ic hm h1 h2 w
  · exact bare_6 ⟨6, ss, sq, sh, nd, ep, n, fd, id, its, fl⟩ IA m ic hm h1 h2 w
  · exact bare_7 ⟨7, ss, sq, sh, nd, ep, n, fd, id, its, fl⟩ IA m ic hm h1 h2 w
  · exact bare_8 ⟨8, ss, sq, sh, nd, ep, n, fd, id, its, fl⟩ IA m ic hm h1 h2 w
  · exact bare_9 ⟨9, ss, sq, sh, nd, ep, n, fd, id, its, fl⟩ IA m ic hm h1 h2 w
theorem within_call (n top : Int) (w : World) : Calls Try.prog 70 #[.int .i64 n, .int .i64 top] w fun e w' => e = .returned (.bool (inB n top)) ∧ w = w' := by
  by_cases h : 0 ≤ n
  · have d : decide (0 ≤ n) = true := by simpa using h
    have HR : Hid (inB n top = decide (n ≤ top)) := Lib.hid (by unfold inB; rw [d]; rfl)
    rw [HR.out]
    clear HR
    go_enter Try.func70, Try.ntmps70
    go_wp2_with fail
    go_ret
    exact ⟨rfl, rfl⟩
  · have d : decide (0 ≤ n) = false := by simpa using h
    have HR : Hid (inB n top = false) := Lib.hid (by unfold inB; rw [d]; rfl)
    rw [HR.out]
    clear HR
    go_enter Try.func70, Try.ntmps70
    go_wp2_with fail
    go_ret
    exact ⟨rfl, rfl⟩
set_option maxRecDepth 100000 in
set_option maxHeartbeats 4000000 in
theorem cmd_right (c : Cm) (iv : Value) (w : World) (h : CmAt w iv c) :
    Calls Try.prog 33 #[c.val iv] w fun e w' => e = .returned (.bool (rightB c)) ∧ Only [] w w' := by
  obtain ⟨IA, ic, rfl⟩ := h.its.shape
  have hil := sl_len h.its
  have hfl := h.fd
  have hdl := h.id
  obtain ⟨m, hm'⟩ : ∃ m, c.its.length = m := ⟨_, rfl⟩
  have hm := hm'
  have HB := Lib.hid (fun hk h1 h2 w' => bare_call c IA m ic hm'.symm hk h1 h2 w')
  have HCF := Lib.hid (fun (hl : c.its.length ≤ 100) w' (ho : Only [] w w') => containsFunc_it18 (.slice IA c.its.length ic) c.its w' (h.only ho).its (by omega) h.len)
  rw [hm] at HCF hil
  unfold Cm.val at HB ⊢
  rw [hm]
  obtain ⟨w1, hw1⟩ : ∃ w1, w.alloc (.cells #[.int .i64 c.kd, .int .i64 c.ss, .int .i64 c.sq, .int .i64 c.sh, .int .i64 c.nd, .int .i64 c.ep, .int .i64 c.n, .string ⟨c.fd.toArray⟩, .string ⟨c.id.toArray⟩, .slice IA m ic, .bool c.fl] 65) = w1 := ⟨_, rfl⟩
  obtain ⟨z, hz⟩ : ∃ z, w.heap.size = z := ⟨_, rfl⟩
  have HZ : Cells w1 z 65 [.int .i64 c.kd, .int .i64 c.ss, .int .i64 c.sq, .int .i64 c.sh, .int .i64 c.nd, .int .i64 c.ep, .int .i64 c.n, .string ⟨c.fd.toArray⟩, .string ⟨c.id.toArray⟩, .slice IA m ic, .bool c.fl] := hw1 ▸ hz ▸ Cells.new w _ _
  have HO : Hid (Only [] w w1) := Lib.hid (hw1 ▸ (Only.refl _ _).alloc _)
  have HM := Lib.hid hm
  have c0 := HZ.cell (k := 0) rfl
  have c1 := HZ.cell (k := 1) rfl
  have c2 := HZ.cell (k := 2) rfl
  have c3 := HZ.cell (k := 3) rfl
  have c4 := HZ.cell (k := 4) rfl
  have c5 := HZ.cell (k := 5) rfl
  have c6 := HZ.cell (k := 6) rfl
  have c7 := HZ.cell (k := 7) rfl
  have c8 := HZ.cell (k := 8) rfl
  have c9 := HZ.cell (k := 9) rfl
  have c10 := HZ.cell (k := 10) rfl
  clear h
  unfold maxLen at hfl hdl hil
  go_enter Try.func33, Try.ntmps33
  by_cases k1 : c.kd < 1
  · have d1 : decide (c.kd < 1) = true := by simpa using k1
    have HR : Hid (rightB c = false) := Lib.hid (by unfold rightB numB; rw [show decide (1 ≤ c.kd) = false from by simp; omega]; rfl)
    go_wp2_with fail
    go_ret
    exact ⟨by rw [HR.out]; rfl, HO.out⟩
  have d1 : decide (c.kd < 1) = false := by simpa using k1
  by_cases k2 : 9 < c.kd
  · have d2 : decide (9 < c.kd) = true := by simpa using k2
    have HR : Hid (rightB c = false) := Lib.hid (by unfold rightB numB; rw [show decide (c.kd ≤ 9) = false from by simp; omega]; simp)
    go_wp2_with fail
    go_ret
    exact ⟨by rw [HR.out]; rfl, HO.out⟩
  have d2 : decide (9 < c.kd) = false := by simpa using k2
  cases iss : inB c.ss 1099511627776 with
  | false =>
    have HR : Hid (rightB c = false) := Lib.hid (by unfold rightB numB; rw [iss]; simp)
    go_wp2_with fail
    repeat (refine (within_call _ _ _).mono ?_; rintro e w2 ⟨rfl, rfl⟩; go_wp2_with fail)
    go_ret
    exact ⟨by rw [HR.out]; rfl, HO.out⟩
  | true =>
  cases isq : inB c.sq 1099511627776 with
  | false =>
    have HR : Hid (rightB c = false) := Lib.hid (by unfold rightB numB; rw [isq]; simp)
    go_wp2_with fail
    repeat (refine (within_call _ _ _).mono ?_; rintro e w2 ⟨rfl, rfl⟩; go_wp2_with fail)
    go_ret
    exact ⟨by rw [HR.out]; rfl, HO.out⟩
  | true =>
  cases iep : inB c.ep 1099511627776 with
  | false =>
    have HR : Hid (rightB c = false) := Lib.hid (by unfold rightB numB; rw [iep]; simp)
    go_wp2_with fail
    repeat (refine (within_call _ _ _).mono ?_; rintro e w2 ⟨rfl, rfl⟩; go_wp2_with fail)
    go_ret
    exact ⟨by rw [HR.out]; rfl, HO.out⟩
  | true =>
  cases inn : inB c.n 1099511627776 with
  | false =>
    have HR : Hid (rightB c = false) := Lib.hid (by unfold rightB numB; rw [inn]; simp)
    go_wp2_with fail
    repeat (refine (within_call _ _ _).mono ?_; rintro e w2 ⟨rfl, rfl⟩; go_wp2_with fail)
    go_ret
    exact ⟨by rw [HR.out]; rfl, HO.out⟩
  | true =>
  cases ish : inB c.sh 7 with
  | false =>
    have HR : Hid (rightB c = false) := Lib.hid (by unfold rightB numB; rw [ish]; simp)
    go_wp2_with fail
    repeat (refine (within_call _ _ _).mono ?_; rintro e w2 ⟨rfl, rfl⟩; go_wp2_with fail)
    go_ret
    exact ⟨by rw [HR.out]; rfl, HO.out⟩
  | true =>
  cases ind : inB c.nd 9 with
  | false =>
    have HR : Hid (rightB c = false) := Lib.hid (by unfold rightB numB; rw [ind]; simp)
    go_wp2_with fail
    repeat (refine (within_call _ _ _).mono ?_; rintro e w2 ⟨rfl, rfl⟩; go_wp2_with fail)
    go_ret
    exact ⟨by rw [HR.out]; rfl, HO.out⟩
  | true =>
  by_cases l1 : 200 < max c.fd.length c.id.length
  · have e1 : decide ((200 : Int) < max (c.fd.length : Int) (c.id.length : Int)) = true := by simp; omega
    have HR : Hid (rightB c = false) := Lib.hid (by
      have : lenB c = false := by
        unfold lenB
        by_cases hq : c.fd.length ≤ 200
        · rw [show decide (c.id.length ≤ 200) = false from by simp; omega]; simp
        · rw [show decide (c.fd.length ≤ 200) = false from by simp; omega]; simp
      unfold rightB
      rw [this]; simp)
    go_wp2_with fail
    repeat (refine (within_call _ _ _).mono ?_; rintro e w2 ⟨rfl, rfl⟩; go_wp2_with fail)
    go_ret
    exact ⟨by rw [HR.out]; rfl, HO.out⟩
  have e1 : decide ((200 : Int) < max (c.fd.length : Int) (c.id.length : Int)) = false := by simp; omega
  by_cases l2 : 100 < m
  · have e2 : decide ((100 : Int) < (m : Int)) = true := by simp; omega
    have HR : Hid (rightB c = false) := Lib.hid (by
      have : lenB c = false := by
        unfold lenB
        rw [show decide (c.its.length ≤ 100) = false from by simp; omega]; simp
      unfold rightB
      rw [this]; simp)
    go_wp2_with fail
    repeat (refine (within_call _ _ _).mono ?_; rintro e w2 ⟨rfl, rfl⟩; go_wp2_with fail)
    go_ret
    exact ⟨by rw [HR.out]; rfl, HO.out⟩
  have e2 : decide ((100 : Int) < (m : Int)) = false := by simp; omega
  have HR : Hid (rightB c = (bareB c && c.its.all itR)) := Lib.hid (by
    have a1 : lenB c = true := by
      unfold lenB
      rw [hm, show decide (m ≤ 100) = true from by simp; omega, show decide (c.fd.length ≤ 200) = true from by simp; omega, show decide (c.id.length ≤ 200) = true from by simp; omega]; rfl
    have a2 : numB c = true := by
      unfold numB
      rw [iss, isq, iep, inn, ish, ind, show decide (1 ≤ c.kd) = true from by simp; omega, show decide (c.kd ≤ 9) = true from by simp; omega]; rfl
    unfold rightB
    rw [a1, a2]; rfl)
  have HB2 := Lib.hid (HB.out (by omega) (inB_iff.1 iss) (inB_iff.1 isq))
  have HF2 := Lib.hid (HCF.out (by omega))
  clear HB HCF
  go_wp2_with fail
  repeat (refine (within_call _ _ _).mono ?_; rintro e w2 ⟨rfl, rfl⟩; go_wp2_with fail)
  clear iss isq iep inn ish ind hfl hdl
  refine (HB2.out _).mono ?_
  rintro e w2 ⟨rfl, ho2⟩
  have HZ2 := HZ.only ho2 (by simp)
  have HO2 := Lib.hid (HO.out.tr ho2)
  clear ho2 hw1 hz HB2
  cases hb : bareB c with
  | false =>
    go_wp2_with fail
    go_ret
    exact ⟨by rw [HR.out, hb]; rfl, HO2.out⟩
  | true =>
    clear c0 c1 c2 c3 c4 c5 c6 c7 c8 c9 c10
    have c9 := HZ2.cell (k := 9) rfl
    have F := Lib.hid (HF2.out w2 HO2.out)
    clear HF2
    go_wp2_with fail
    refine F.out.mono ?_
    rintro e w3 ⟨rfl, ho3⟩
    have HO3 := Lib.hid (HO2.out.tr ho3)
    clear ho3
    obtain ⟨r, hr⟩ : ∃ r, c.its.all itR = r := ⟨_, rfl⟩
    rw [hr] at HR ⊢
    cases r
    all_goals
      go_wp2_with fail
      go_ret
      exact ⟨by rw [HR.out, hb]; rfl, HO3.out⟩
end Go.Proofs.Ytjfnkjpnjiobjaa
