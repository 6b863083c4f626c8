/-
  Chapter 18: what may be put into a right command: plain.
-/
import Derived.Test.YtjfnkjpnjiobjaaC18ac
namespace Go.Proofs.Ytjfnkjpnjiobjaa
open Go.RowKit
def Cm.setSs (c : Cm) (k : Int) : Cm := ⟨c.kd, k, c.sq, c.sh, c.nd, c.ep, c.n, c.fd, c.id, c.its, c.fl⟩
def Cm.setEp (c : Cm) (k : Int) : Cm := ⟨c.kd, c.ss, c.sq, c.sh, c.nd, k, c.n, c.fd, c.id, c.its, c.fl⟩
def Cm.setFl (c : Cm) (b : Bool) : Cm := ⟨c.kd, c.ss, c.sq, c.sh, c.nd, c.ep, c.n, c.fd, c.id, c.its, b⟩
def Cm.setId (c : Cm) (s : List UInt8) : Cm := ⟨c.kd, c.ss, c.sq, c.sh, c.nd, c.ep, c.n, c.fd, s, c.its, c.fl⟩
def Cm.setN (c : Cm) (k : Int) : Cm := ⟨c.kd, c.ss, c.sq, c.sh, c.nd, c.ep, k, c.fd, c.id, c.its, c.fl⟩
def Cm.setSh (c : Cm) (k : Int) : Cm := ⟨c.kd, c.ss, c.sq, k, c.nd, c.ep, c.n, c.fd, c.id, c.its, c.fl⟩
theorem inB_of {n t : Int} (h0 : 0 ≤ n) (h1 : n ≤ t) : inB n t = true := inB_iff.2 ⟨h0, h1⟩
/-- A right command's parts, in plain words. -/
structure RightP (c : Cm) : Prop where
  kd : 1 ≤ c.kd ∧ c.kd ≤ 9
  ss : 0 ≤ c.ss ∧ c.ss ≤ 1099511627776
  sq : 0 ≤ c.sq ∧ c.sq ≤ 1099511627776
  ep : 0 ≤ c.ep ∧ c.ep ≤ 1099511627776
  n : 0 ≤ c.n ∧ c.n ≤ 1099511627776
  sh : 0 ≤ c.sh ∧ c.sh ≤ 7
  nd : 0 ≤ c.nd ∧ c.nd ≤ 9
  len : lenB c = true
  bare : bareB c = true
  its : c.its.all itR = true
theorem right_parts {c : Cm} (h : rightB c = true) : RightP c := by
  obtain ⟨h1, h2, h3, h4⟩ := rightB_iff.1 h
  obtain ⟨a0, a1, a2, a3, a4, a5, a6⟩ := numB_iff.1 h1
  exact ⟨a0, inB_iff.1 a1, inB_iff.1 a2, inB_iff.1 a3, inB_iff.1 a4, inB_iff.1 a5, inB_iff.1 a6, h2, h3, List.all_eq_true.2 h4⟩
theorem right_of {c : Cm} (h1 : 1 ≤ c.kd ∧ c.kd ≤ 9) (h2 : 0 ≤ c.ss ∧ c.ss ≤ 1099511627776) (h3 : 0 ≤ c.sq ∧ c.sq ≤ 1099511627776) (h4 : 0 ≤ c.ep ∧ c.ep ≤ 1099511627776) (h5 : 0 ≤ c.n ∧ c.n ≤ 1099511627776) (h6 : 0 ≤ c.sh ∧ c.sh ≤ 7) (h7 : 0 ≤ c.nd ∧ c.nd ≤ 9) (h8 : lenB c = true) (h9 : c.its.all itR = true) : rightB c = bareB c := by
  have : numB c = true := numB_iff.2 ⟨h1, inB_iff.2 h2, inB_iff.2 h3, inB_iff.2 h4, inB_iff.2 h5, inB_iff.2 h6, inB_iff.2 h7⟩
  unfold rightB
  rw [this, h8, h9]
  simp
theorem bare_set (c : Cm) (h : RightP c) (k : Int) (hk : 1 ≤ k ∧ k ≤ 7) :
    bareB (c.setSs k) = clB c.kd ∧ bareB (c.setEp k) = (c.kd == 8) ∧ bareB (c.setFl true) = (c.kd == 8 && decide (c.its.length = 0)) ∧ bareB (c.setId [120]) = (c.kd == 4) ∧ bareB (c.setN k) = (c.kd == 5) ∧ bareB (c.setSh k) = decide (7 ≤ c.kd) := by
  have hb := h.bare
  have h0 := h.kd
  have h1 := h.ss.1
  have h2 := h.sq.1
  have h3 := h.ep.1
  have h4 := h.n.1
  have h5 := h.sh.1
  have h6 := h.nd.1
  obtain ⟨kd, ss, sq, sh, nd, ep, n, fd, id, its, fl⟩ := c
  dsimp only at h0 h1 h2 h3 h4 h5 h6
  have hkd : kd = 1 ∨ kd = 2 ∨ kd = 3 ∨ kd = 4 ∨ kd = 5 ∨ kd = 6 ∨ kd = 7 ∨ kd = 8 ∨ kd = 9 := by omega
  clear h
  obtain ⟨L, hL⟩ : ∃ L, its.length = L := ⟨_, rfl⟩
  unfold bareB at hb
  unfold bareB Cm.setSs Cm.setEp Cm.setFl Cm.setId Cm.setN Cm.setSh
  simp only [hL] at hb ⊢
  rcases hkd with rfl | rfl | rfl | rfl | rfl | rfl | rfl | rfl | rfl
  all_goals
    clear h0
    unfold clB at hb ⊢
    cases fl <;> cases fd <;> cases id <;> simp at hb ⊢ <;> (try omega) <;> (refine ⟨?_, ?_⟩ <;> first | omega | (rw [Bool.eq_iff_iff]; simp; omega) | (simp; omega) | trace_state)
end Go.Proofs.Ytjfnkjpnjiobjaa
