/-
  Chapter 18: bytes that are cut short, or that something stands behind: plain.
-/
import Derived.Test.YtjfnkjpnjiobjaaC18ab
namespace Go.Proofs.Ytjfnkjpnjiobjaa
open Go.RowKit
theorem rp_out' (r : Rp) (h1 : Wide64 r.er) (h2 : Wide64 r.n) (h3 : r.ps.length ≤ 1000000000000) (h4 : ∀ x ∈ r.ps, x.Ok) (t : List UInt8) : aK (rpb r ++ t) = r.ps.length ∧ (a3 (rpb r ++ t)).posts r.ps.length = (r.ps, ⟨t, false⟩) := by
  obtain ⟨s, hs⟩ : ∃ s, rpb r ++ t = s := ⟨_, rfl⟩
  have e0 : s = ib r.er ++ (ib r.n ++ (ib r.ps.length ++ (psB r.ps ++ t))) := by rw [← hs]; unfold rpb rpH; simp
  have g1 := int_out r.er h1 (ib r.n ++ (ib r.ps.length ++ (psB r.ps ++ t))) false
  rw [← e0] at g1
  have e1 : a1 s = ⟨ib r.n ++ (ib r.ps.length ++ (psB r.ps ++ t)), false⟩ := by unfold a1; rw [g1]
  have g2 := int_out r.n h2 (ib r.ps.length ++ (psB r.ps ++ t)) false
  rw [← e1] at g2
  have e2 : a2 s = ⟨ib r.ps.length ++ (psB r.ps ++ t), false⟩ := by unfold a2; rw [g2]
  have g3 := int_out r.ps.length ⟨by omega, by omega⟩ (psB r.ps ++ t) false
  rw [← e2] at g3
  have e3 : a3 s = ⟨psB r.ps ++ t, false⟩ := by unfold a3; rw [g3]
  rw [hs]
  refine ⟨by unfold aK; rw [g3], ?_⟩
  rw [e3]
  exact posts_out' r.ps t false h4
theorem rp_cut (r : Rp) (h1 : Wide64 r.er) (h2 : Wide64 r.n) (h3 : r.ps.length ≤ 1000000000000) (h4 : ∀ x ∈ r.ps, x.Ok) (hl : (rpb r).length ≤ 1000000000000) (p : Nat) (hp : p < (rpb r).length) : unA ((rpb r).take p) = none := by
  cases h : unA ((rpb r).take p) with
  | none => rfl
  | some q =>
    obtain ⟨hq, e⟩ := (unA_iff _ (by rw [List.length_take]; omega) q).1 h
    have he := hq.er
    have hn := hq.len
    obtain ⟨b1, b2⟩ := rp_out' q ⟨by omega, by omega⟩ hq.n (by omega) hq.ps ((rpb r).drop p)
    rw [e, List.take_append_drop] at b1 b2
    obtain ⟨c1, c2⟩ := rp_out' r h1 h2 h3 h4 []
    rw [List.append_nil] at c1 c2
    have hlen : q.ps.length = r.ps.length := by omega
    rw [hlen, c2] at b2
    have h5 : (rpb r).drop p = [] := by
      have := congrArg (fun x : List Po × Rd => x.2.s) b2
      exact this.symm
    have h6 : ((rpb r).drop p).length = 0 := by rw [h5]; rfl
    rw [List.length_drop] at h6
    omega
theorem cm_front {c d : Cm} (hc : c.Ok) (hd : d.Ok) {t : List UInt8} (h : cmdb c ++ t = cmdb d) : t = [] := by
  obtain ⟨a1, _, _, a2⟩ := cm_out c hc t
  obtain ⟨b1, _, _, b2⟩ := cm_out d hd []
  rw [List.append_nil] at b1 b2
  rw [h] at a1 a2
  have hlen : c.its.length = d.its.length := by omega
  rw [hlen, b2] at a2
  exact (congrArg Rd.s a2).symm
theorem cm_cut (c : Cm) (h : c.Ok) (hl : (cmdb c).length ≤ 1000000000000) (p : Nat) (hp : p < (cmdb c).length) : unC ((cmdb c).take p) = none := by
  cases hu : unC ((cmdb c).take p) with
  | none => rfl
  | some d =>
    obtain ⟨h1, h2⟩ := (unC_iff _ (by rw [List.length_take]; omega) d).1 hu
    have h3 := cm_front (right_ok h1) h (t := (cmdb c).drop p) (by rw [h2, List.take_append_drop])
    have h6 : ((cmdb c).drop p).length = 0 := by rw [h3]; rfl
    rw [List.length_drop] at h6
    omega
theorem cm_more (c : Cm) (h : c.Ok) (t : List UInt8) (ht : t ≠ []) (hl : (cmdb c ++ t).length ≤ 1000000000000) : unC (cmdb c ++ t) = none := by
  cases hu : unC (cmdb c ++ t) with
  | none => rfl
  | some d =>
    obtain ⟨h1, h2⟩ := (unC_iff _ hl d).1 hu
    exact absurd (cm_front h (right_ok h1) h2.symm) ht
end Go.Proofs.Ytjfnkjpnjiobjaa
