/-
  Chapter 17: a single act that comes in.
-/
import Derived.Test.YtjfnkjpnjiobjaaS17e
namespace Go.Proofs.Ytjfnkjpnjiobjaa
open Go.RowKit Go.ChangeShapes Go.WideShapes Go.Deep
theorem fld {H : Type} {enc : TypeId × Value → H} {P : Program} {w : World} {base : Nat} {spare : Nat → Bool} {held : Bool} {fs : Array Field} {cs : List Value} {n : Nat} {xs : List (DataW H × List MemPlace)} (hf : ∀ (i : Nat) (f : Field), fs[i]? = some f → DataW.trod enc P w base spare held n f.type ((cs.drop f.offset).take (P.cellsOf f.type)) = xs[i]?) (hl : xs.length = fs.size) (i : Nat) (f : Field) (hi : fs[i]? = some f) (k : Nat) (hk : P.cellsOf f.type = k) :
    ∃ y, DataW.trod enc P w base spare held n f.type ((cs.drop f.offset).take k) = some y := by
  have h := hf i f hi
  rw [hk] at h
  have : i < fs.size := (Array.getElem?_eq_some_iff.1 hi).1
  exact ⟨_, h.trans (List.getElem?_eq_getElem (by omega))⟩
set_option maxRecDepth 100000 in
set_option maxHeartbeats 1000000 in
theorem open_act17 {H : Type} {enc : TypeId × Value → H} {w : World} {base : Nat} {spare : Nat → Bool} {held : Bool} {r : Reach} {b0 : Nat} {v : Value} {d : DataW H} {p : List MemPlace}
    (hv : Value.okWide Try.prog w r b0 33 v) (h : DataW.Trod enc Try.prog w base spare held 33 v d p) :
    ∃ a : A17, (v = a.val ∧ a.Ok w) ∧ True := by
  obtain ⟨cs, rfl, hcs⟩ := okWide_struct Try.underlying33 hv
  rw [show Try.prog.cellsOf 33 = 5 from by kernel_rfl] at hcs
  obtain ⟨fuel, hf⟩ := h
  obtain ⟨l⟩ := cs
  have hl : l.length = 5 := hcs
  match l, hl with
  | [x0, x1, x2, x3, x4], _ =>
    have hf : DataW.trod enc Try.prog w base spare held fuel 33 [x0, x1, x2, x3, x4] = some (d, p) := hf
    obtain ⟨ys, n, -, -, -, hyl, hF⟩ := DataW.trod_struct Try.underlying33 hf
    obtain ⟨y0, h0⟩ := fld hF hyl 0 _ rfl 1 (by kernel_rfl)
    obtain ⟨y1, h1⟩ := fld hF hyl 1 _ rfl 1 (by kernel_rfl)
    obtain ⟨y2, h2⟩ := fld hF hyl 2 _ rfl 1 (by kernel_rfl)
    obtain ⟨y3, h3⟩ := fld hF hyl 3 _ rfl 1 (by kernel_rfl)
    obtain ⟨y4, h4⟩ := fld hF hyl 4 _ rfl 1 (by kernel_rfl)
    obtain ⟨z0, q0, _, w0⟩ := DataW.trod_int (cs := [x0]) Try.underlying3 h0
    obtain ⟨z1, q1, _, w1⟩ := DataW.trod_int (cs := [x1]) Try.underlying3 h1
    obtain ⟨z2, q2, _, w2⟩ := DataW.trod_string (cs := [x2]) Try.underlying9 h2
    obtain ⟨z3, q3, _, w3⟩ := DataW.trod_string (cs := [x3]) Try.underlying9 h3
    obtain ⟨its, hi1, hi2⟩ := open_items_in (v := x4) h4
    simp at q0 q1 q2 q3
    subst q0; subst q1; subst q2; subst q3
    exact ⟨⟨z0, z1, z2.data.toList, z3.data.toList, x4, its⟩, ⟨by simp [A17.val], ⟨wide64_of_wf w0, wide64_of_wf w1, by rw [ba_len]; exact w2, by rw [ba_len]; exact w3, hi1, hi2⟩⟩, trivial⟩
end Go.Proofs.Ytjfnkjpnjiobjaa
