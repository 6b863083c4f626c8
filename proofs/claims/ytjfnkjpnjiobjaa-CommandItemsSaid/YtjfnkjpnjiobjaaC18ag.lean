/-
  Chapter 18: an item more, an item less: plain; a command that comes in, with what a nil row is; an item that comes in.
-/
import Derived.Test.YtjfnkjpnjiobjaaC18ad
import Derived.Test.YtjfnkjpnjiobjaaC18w
import Derived.Test.YtjfnkjpnjiobjaaApp
namespace Go.Proofs.Ytjfnkjpnjiobjaa
open Go.RowKit Go.ChangeShapes Go.WideShapes Go.Deep
/-- The ingest that a command's parts make. -/
def Cm.ing (c : Cm) : Cm := ⟨8, c.ss, c.sq, c.sh, c.nd, c.ep, c.n, c.fd, c.id, c.its, false⟩
def Cm.more (c : Cm) (x : It) : Cm := ⟨8, c.ss, c.sq, c.sh, c.nd, c.ep, c.n, c.fd, c.id, c.its ++ [x], false⟩
def Cm.less (c : Cm) : Cm := ⟨8, c.ss, c.sq, c.sh, c.nd, c.ep, c.n, c.fd, c.id, c.its.drop 1, false⟩
def Cm.one (x : It) : Cm := ⟨8, 0, 0, 0, 0, 0, 0, [], [], [x], false⟩
theorem bare_its (c : Cm) (l : List It) (h : bareB c.ing = true) : bareB ⟨8, c.ss, c.sq, c.sh, c.nd, c.ep, c.n, c.fd, c.id, l, false⟩ = true := by
  unfold bareB clB Cm.ing at h
  unfold bareB clB
  simp at h ⊢
  exact h
theorem right_more (c : Cm) (x : It) (h : rightB c.ing = true) : rightB (c.more x) = (itR x && decide (c.its.length < 100)) := by
  have hp := right_parts h
  have hl := lenB_iff.1 hp.len
  have hb := bare_its c (c.its ++ [x]) hp.bare
  have hn : numB (c.more x) = true := numB_iff.2 ⟨hp.kd, inB_iff.2 hp.ss, inB_iff.2 hp.sq, inB_iff.2 hp.ep, inB_iff.2 hp.n, inB_iff.2 hp.sh, inB_iff.2 hp.nd⟩
  have ha : (c.more x).its.all itR = itR x := by
    have h1 : c.its.all itR = true := hp.its
    show (c.its ++ [x]).all itR = _
    rw [List.all_append, h1]
    simp
  have hlen : lenB (c.more x) = decide (c.its.length < 100) := by
    have e : (c.more x).its.length = c.its.length + 1 := by simp [Cm.more]
    by_cases hk : c.its.length < 100
    · have : lenB (c.more x) = true := lenB_iff.2 ⟨hl.1, hl.2.1, by omega⟩
      rw [this]; simp [hk]
    · cases hh : lenB (c.more x) with
      | false => simp [hk]
      | true => exact absurd (lenB_iff.1 hh).2.2 (by omega)
  unfold rightB
  rw [hn, hlen, ha]
  show ((true && decide (c.its.length < 100)) && bareB (c.more x) && itR x) = _
  rw [show bareB (c.more x) = true from hb]
  cases itR x <;> simp
theorem right_one (x : It) : rightB (Cm.one x) = itR x := by
  have h1 : numB (Cm.one x) = true := rfl
  have h2 : lenB (Cm.one x) = true := rfl
  have h3 : bareB (Cm.one x) = true := rfl
  unfold rightB
  rw [h1, h2, h3]
  simp [Cm.one]
theorem right_less (c : Cm) (h : rightB c.ing = true) : rightB c.less = true := by
  have hp := right_parts h
  have hl := lenB_iff.1 hp.len
  have hn : numB c.less = true := numB_iff.2 ⟨hp.kd, inB_iff.2 hp.ss, inB_iff.2 hp.sq, inB_iff.2 hp.ep, inB_iff.2 hp.n, inB_iff.2 hp.sh, inB_iff.2 hp.nd⟩
  refine rightB_iff.2 ⟨hn, lenB_iff.2 ⟨hl.1, hl.2.1, ?_⟩, bare_its c (c.its.drop 1) hp.bare, fun x hx => ?_⟩
  · show (c.its.drop 1).length ≤ 100
    have : c.its.length ≤ 100 := hl.2.2
    rw [List.length_drop]; omega
  · exact List.all_eq_true.1 hp.its x (List.mem_of_mem_drop hx)
theorem CmAt.of' {w : World} {iv : Value} {c d : Cm} (h : CmAt w iv c) (hi : d.its = c.its) (hf : d.fd.length ≤ maxLen) (hd : d.id.length ≤ maxLen) (hn : ∀ x ∈ [d.kd, d.ss, d.sq, d.sh, d.nd, d.ep, d.n], Wide64 x) : CmAt w iv d := ⟨hi ▸ h.its, hi ▸ h.len, hf, hd, hn⟩
theorem nil_slice {H : Type} {enc : TypeId × Value → H} {P : Program} {w : World} {base : Nat} {spare : Nat → Bool} {held : Bool} {t e : TypeId} {v : Value} {fuel : Nat} {yy : DataW H × List MemPlace} (ht : P.underlying t = some (.slice e)) (hf : DataW.trod enc P w base spare held fuel t [v] = some yy) :
    ∀ n k, v = .slice none n k → n = 0 ∧ k = 0 := by
  intro n k hv
  rcases open_slice ht hf with ⟨hcs, _⟩ | ⟨a, len, cap, m, n', D, Pl, hcs, _⟩
  · simp at hcs
    rw [hcs] at hv
    injection hv with _ h1 h2
    exact ⟨h1.symm, h2.symm⟩
  · simp at hcs
    rw [hcs] at hv
    injection hv with h1
    cases h1
theorem itL_one (l : List It) : ∀ u ∈ itL l, u.oneCell' = true := by
  intro u hu
  obtain ⟨x, _, hx⟩ := List.mem_flatMap.1 hu
  simp only [It.cells, List.mem_cons, List.not_mem_nil, or_false] at hx
  rcases hx with rfl | rfl | rfl <;> rfl
theorem src_items {w : World} {B : Nat} {v : Value} {l : List It} (h : SlAt w B v 3 l.length (itL l)) (hn : ∀ n k, v = .slice none n k → n = 0 ∧ k = 0) : SrcA w v 3 l.length (itL l) := by
  refine ⟨h.1, itL_one l, ?_⟩
  obtain ⟨A, c, hv⟩ := h.shape
  cases A with
  | none =>
    obtain ⟨h1, h2⟩ := hn _ _ hv
    exact .inl ⟨by rw [hv, h1, h2], h1⟩
  | some ad =>
    refine .inr ⟨ad, c, hv, fun j u hu => ?_⟩
    have hj := (List.getElem?_eq_some_iff.1 hu).1
    obtain ⟨b, o, c', hv', _, hc⟩ := h.at_ (by have := h.1; omega)
    rw [hv] at hv'
    injection hv' with e1
    injection e1 with e1
    subst e1
    rw [Addr.add_lit]
    exact hc j u hu
set_option maxRecDepth 100000 in
theorem open_item {H : Type} {enc : TypeId × Value → H} {w : World} {base : Nat} {spare : Nat → Bool} {held : Bool} {r : Reach} {b0 : Nat} {v : Value} {d : DataW H} {p : List MemPlace}
    (hv : Value.okWide Try.prog w r b0 36 v) (h : DataW.Trod enc Try.prog w base spare held 36 v d p) :
    ∃ x : It, (v = .agg #[.string ⟨x.id.toArray⟩, .string ⟨x.ti.toArray⟩, .string ⟨x.li.toArray⟩] ∧ x.Len) ∧ True := by
  obtain ⟨cs, rfl, hcs⟩ := okWide_struct Try.underlying36 hv
  rw [show Try.prog.cellsOf 36 = 3 from by kernel_rfl] at hcs
  obtain ⟨fuel, hf⟩ := h
  obtain ⟨l⟩ := cs
  have hl : l.length = 3 := hcs
  match l, hl with
  | [x0, x1, x2], _ =>
    have hf : DataW.trod enc Try.prog w base spare held fuel 36 [x0, x1, x2] = some (d, p) := hf
    obtain ⟨ys, n, -, -, -, hyl, hF⟩ := DataW.trod_struct Try.underlying36 hf
    obtain ⟨y0, h0⟩ := fld18 hF hyl 0 _ rfl 1 (by kernel_rfl)
    obtain ⟨y1, h1⟩ := fld18 hF hyl 1 _ rfl 1 (by kernel_rfl)
    obtain ⟨y2, h2⟩ := fld18 hF hyl 2 _ rfl 1 (by kernel_rfl)
    obtain ⟨z0, q0, _, w0⟩ := DataW.trod_string (cs := [x0]) Try.underlying9 h0
    obtain ⟨z1, q1, _, w1⟩ := DataW.trod_string (cs := [x1]) Try.underlying9 h1
    obtain ⟨z2, q2, _, w2⟩ := DataW.trod_string (cs := [x2]) Try.underlying9 h2
    simp at q0 q1 q2
    subst q0; subst q1; subst q2
    exact ⟨⟨z0.data.toList, z1.data.toList, z2.data.toList⟩, ⟨by simp, ⟨by rw [ba_len]; exact w0, by rw [ba_len]; exact w1, by rw [ba_len]; exact w2⟩⟩, trivial⟩
set_option maxRecDepth 100000 in
set_option maxHeartbeats 1000000 in
theorem open_cmd2 {H : Type} {enc : TypeId × Value → H} {w : World} {base : Nat} {spare : Nat → Bool} {held : Bool} {r : Reach} {b0 : Nat} {v : Value} {d : DataW H} {p : List MemPlace}
    (hv : Value.okWide Try.prog w r b0 65 v) (h : DataW.Trod enc Try.prog w base spare held 65 v d p) :
    ∃ c : Cm, (∃ iv, v = c.val iv ∧ CmAt w iv c ∧ ∀ n k, iv = .slice none n k → n = 0 ∧ k = 0) ∧ True := by
  obtain ⟨cs, rfl, hcs⟩ := okWide_struct Try.underlying65 hv
  rw [show Try.prog.cellsOf 65 = 11 from by kernel_rfl] at hcs
  obtain ⟨fuel, hf⟩ := h
  obtain ⟨l⟩ := cs
  have hl : l.length = 11 := hcs
  match l, hl with
  | [x0, x1, x2, x3, x4, x5, x6, x7, x8, x9, x10], _ =>
    have hf : DataW.trod enc Try.prog w base spare held fuel 65 [x0, x1, x2, x3, x4, x5, x6, x7, x8, x9, x10] = some (d, p) := hf
    obtain ⟨ys, n, -, -, -, hyl, hF⟩ := DataW.trod_struct Try.underlying65 hf
    obtain ⟨y0, h0⟩ := fld18 hF hyl 0 _ rfl 1 (by kernel_rfl)
    obtain ⟨y1, h1⟩ := fld18 hF hyl 1 _ rfl 1 (by kernel_rfl)
    obtain ⟨y2, h2⟩ := fld18 hF hyl 2 _ rfl 1 (by kernel_rfl)
    obtain ⟨y3, h3⟩ := fld18 hF hyl 3 _ rfl 1 (by kernel_rfl)
    obtain ⟨y4, h4⟩ := fld18 hF hyl 4 _ rfl 1 (by kernel_rfl)
    obtain ⟨y5, h5⟩ := fld18 hF hyl 5 _ rfl 1 (by kernel_rfl)
    obtain ⟨y6, h6⟩ := fld18 hF hyl 6 _ rfl 1 (by kernel_rfl)
    obtain ⟨y7, h7⟩ := fld18 hF hyl 7 _ rfl 1 (by kernel_rfl)
    obtain ⟨y8, h8⟩ := fld18 hF hyl 8 _ rfl 1 (by kernel_rfl)
    obtain ⟨y9, h9⟩ := fld18 hF hyl 9 _ rfl 1 (by kernel_rfl)
    obtain ⟨y10, h10⟩ := fld18 hF hyl 10 _ rfl 1 (by kernel_rfl)
    obtain ⟨z0, q0, _, w0⟩ := DataW.trod_int (cs := [x0]) Try.underlying3 h0
    obtain ⟨z1, q1, _, w1⟩ := DataW.trod_int (cs := [x1]) Try.underlying3 h1
    obtain ⟨z2, q2, _, w2⟩ := DataW.trod_int (cs := [x2]) Try.underlying3 h2
    obtain ⟨z3, q3, _, w3⟩ := DataW.trod_int (cs := [x3]) Try.underlying3 h3
    obtain ⟨z4, q4, _, w4⟩ := DataW.trod_int (cs := [x4]) Try.underlying3 h4
    obtain ⟨z5, q5, _, w5⟩ := DataW.trod_int (cs := [x5]) Try.underlying3 h5
    obtain ⟨z6, q6, _, w6⟩ := DataW.trod_int (cs := [x6]) Try.underlying3 h6
    obtain ⟨z7, q7, _, w7⟩ := DataW.trod_string (cs := [x7]) Try.underlying9 h7
    obtain ⟨z8, q8, _, w8⟩ := DataW.trod_string (cs := [x8]) Try.underlying9 h8
    obtain ⟨its, hi1, hi2⟩ := open_items_in (v := x9) h9
    have hnil := nil_slice Try.underlying31 h9
    obtain ⟨z10, q10, _⟩ := DataW.trod_bool (cs := [x10]) Try.underlying4 h10
    simp at q0 q1 q2 q3 q4 q5 q6 q7 q8 q10
    subst q0; subst q1; subst q2; subst q3; subst q4; subst q5; subst q6; subst q7; subst q8; subst q10
    refine ⟨⟨z0, z1, z2, z3, z4, z5, z6, z7.data.toList, z8.data.toList, its, z10⟩, ⟨x9, by simp [Cm.val], ⟨hi1, hi2, by rw [ba_len]; exact w7, by rw [ba_len]; exact w8, ?_⟩, hnil⟩, trivial⟩
    intro x hx
    simp only [List.mem_cons, List.not_mem_nil, or_false] at hx
    rcases hx with rfl | rfl | rfl | rfl | rfl | rfl | rfl
    · exact wide64_of_wf w0
    · exact wide64_of_wf w1
    · exact wide64_of_wf w2
    · exact wide64_of_wf w3
    · exact wide64_of_wf w4
    · exact wide64_of_wf w5
    · exact wide64_of_wf w6
end Go.Proofs.Ytjfnkjpnjiobjaa
