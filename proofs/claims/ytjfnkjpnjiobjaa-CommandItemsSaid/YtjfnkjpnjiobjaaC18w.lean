/-
  Chapter 18: the command and the reply that come in.
-/
import Derived.Test.YtjfnkjpnjiobjaaC18s
import Derived.Test.YtjfnkjpnjiobjaaOpnI17
namespace Go.Proofs.Ytjfnkjpnjiobjaa
open Go.RowKit Go.ChangeShapes Go.WideShapes Go.Deep
section
variable {H : Type} {enc : TypeId × Value → H} {P : Program} {w : World} {base : Nat} {spare : Nat → Bool} {held : Bool}
theorem open_elems_in {t e : TypeId} {v : Value} {fuel sz : Nat} {yy : DataW H × List MemPlace} (ht : P.underlying t = some (.slice e)) (hC : P.cellsOf e = sz) (hsz : 0 < sz) (hf : DataW.trod enc P w base spare held fuel t [v] = some yy) :
    ∃ n xs, SlAt w w.heap.size v sz n xs ∧ ∀ i, i < n → ((xs.drop (i * sz)).take sz).length = sz ∧ ∃ y m, DataW.trod enc P w base spare held m e ((xs.drop (i * sz)).take sz) = some y := by
  rcases open_slice ht hf with ⟨hcs, _⟩ | ⟨a, len, cap, m, n, D, Pl, hcs, hb, hl, hm, hmm, hx, hi⟩
  · simp at hcs
    subst hcs
    exact ⟨0, [], ⟨by simp, none, 0, rfl, by omega, by simp [maxLen], fun h => by simp at h⟩, fun i hi => by omega⟩
  · simp at hcs
    subst hcs
    have hlm : len ≤ m := by rw [hmm]; split <;> omega
    have key : ∀ i, i < len → ∃ (cs' : List Value) (y : DataW H × List MemPlace) (m : Nat), cs'.length = sz ∧ (∀ j, j < sz → w.cell? (a.add (i * sz + j)) = cs'[j]?) ∧ DataW.trod enc P w base spare held m e cs' = some y := by
      intro i hil
      obtain ⟨cs', hc, ht'⟩ := hi i (by omega)
      rw [hC] at hc
      obtain ⟨_, hcl, hat⟩ := World.cells?_some hc
      exact ⟨cs', _, _, hcl, fun j hj => by rw [← Go.Deep.add_add]; exact hat j hj, ht'⟩
    by_cases hz : 0 < len
    · obtain ⟨c0, _, _, hc0l, hc0, _⟩ := key 0 hz
      have h00 := hc0 0 hsz
      rw [List.getElem?_eq_getElem (by omega)] at h00
      have ha : a = ⟨a.block, a.off, none⟩ := by simpa [Addr.add] using cell_spot h00
      have hblt : a.block < w.heap.size := by simpa [Addr.add] using World.block_lt_of_cell? w _ h00
      have hadd : ∀ k, a.add k = ⟨a.block, a.off + k, none⟩ := by
        intro k; rw [ha]; unfold Addr.add; by_cases hk : k = 0 <;> simp [hk]
      refine ⟨len, (List.range (len * sz)).map fun k => (w.cell? ⟨a.block, a.off + k, none⟩).getD undef, ⟨by simp, some a, cap, rfl, hl, hm, fun _ => ⟨a.block, a.off, by rw [← ha], hblt, fun j u hu => ?_⟩⟩, fun i hil => ?_⟩
      · simp only [List.getElem?_map] at hu
        have hjl : j < len * sz := by
          rcases Nat.lt_or_ge j (len * sz) with h0 | h0
          · exact h0
          · rw [List.getElem?_eq_none (by simpa using h0)] at hu; simp at hu
        rw [List.getElem?_range hjl] at hu
        simp only [Option.map_some, Option.some.injEq] at hu
        obtain ⟨cs', _, _, hcl', hc', _⟩ := key (j / sz) ((Nat.div_lt_iff_lt_mul hsz).2 hjl)
        have hj' := hc' (j % sz) (Nat.mod_lt _ hsz)
        rw [Nat.mul_comm, Nat.div_add_mod, hadd, List.getElem?_eq_getElem (by rw [hcl']; exact Nat.mod_lt _ hsz)] at hj'
        rw [hj'] at hu ⊢
        simpa using hu
      · obtain ⟨cs', y, m', hcl', hc', hy⟩ := key i hil
        have hlt : i * sz + sz ≤ len * sz := by
          have : (i + 1) * sz ≤ len * sz := Nat.mul_le_mul_right _ hil
          rwa [Nat.succ_mul] at this
        have he : (((List.range (len * sz)).map fun k => (w.cell? ⟨a.block, a.off + k, none⟩).getD undef).drop (i * sz)).take sz = cs' := by
          apply List.ext_getElem?
          intro j
          by_cases hj : j < sz
          · rw [List.getElem?_take_of_lt hj, List.getElem?_drop, List.getElem?_map, List.getElem?_range (by omega)]
            have := hc' j hj
            rw [hadd, List.getElem?_eq_getElem (by omega)] at this
            rw [List.getElem?_eq_getElem (by omega)]
            simp [this]
          · rw [List.getElem?_eq_none (by simp; omega), List.getElem?_eq_none (by omega)]
        rw [he]
        exact ⟨hcl', y, m', hy⟩
    · obtain rfl : len = 0 := by omega
      exact ⟨0, [], ⟨by simp, some a, cap, rfl, hl, hm, fun h => by rw [Nat.zero_mul] at h; exact absurd h (Nat.lt_irrefl 0)⟩, fun i hil => by omega⟩
theorem fld18 {fs : Array Field} {cs : List Value} {n : Nat} {xs : List (DataW H × List MemPlace)} (hf : ∀ (i : Nat) (f : Field), fs[i]? = some f → DataW.trod enc P w base spare held n f.type ((cs.drop f.offset).take (P.cellsOf f.type)) = xs[i]?) (hl : xs.length = fs.size) (i : Nat) (f : Field) (hi : fs[i]? = some f) (k : Nat) (hk : P.cellsOf f.type = k) :
    ∃ y, DataW.trod enc P w base spare held n f.type ((cs.drop f.offset).take k) = some y := by
  have h := hf i f hi
  rw [hk] at h
  have : i < fs.size := (Array.getElem?_eq_some_iff.1 hi).1
  exact ⟨_, h.trans (List.getElem?_eq_getElem (by omega))⟩
end
/-- A post that comes in. -/
structure Po.In (x : Po) : Prop where
  sq : Wide64 x.sq
  it : x.it.Len
set_option maxRecDepth 100000 in
set_option maxHeartbeats 1000000 in
theorem open_post {H : Type} {enc : TypeId × Value → H} {w : World} {base : Nat} {spare : Nat → Bool} {held : Bool} {fuel : Nat} {yy : DataW H × List MemPlace} (cs : List Value) (hl : cs.length = 5)
    (hf : DataW.trod enc Try.prog w base spare held fuel 38 cs = some yy) : ∃ x : Po, cs = x.cells ∧ x.In := by
  match cs, hl with
  | [x0, x1, x2, x3, x4], _ =>
    obtain ⟨ys, n, -, -, -, hyl, hF⟩ := DataW.trod_struct Try.underlying38 hf
    obtain ⟨y0, h0⟩ := fld18 hF hyl 0 _ rfl 1 (by kernel_rfl)
    obtain ⟨y1, h1⟩ := fld18 hF hyl 1 _ rfl 3 (by kernel_rfl)
    obtain ⟨y2, h2⟩ := fld18 hF hyl 2 _ rfl 1 (by kernel_rfl)
    obtain ⟨z0, q0, _, w0⟩ := DataW.trod_int (cs := [x0]) Try.underlying3 h0
    obtain ⟨z4, q4, _⟩ := DataW.trod_bool (cs := [x4]) Try.underlying4 h2
    have h1 : DataW.trod enc Try.prog w base spare held n 36 [x1, x2, x3] = some y1 := h1
    obtain ⟨ys', n', -, -, -, hyl', hF'⟩ := DataW.trod_struct Try.underlying36 h1
    obtain ⟨k0, g0⟩ := fld18 hF' hyl' 0 _ rfl 1 (by kernel_rfl)
    obtain ⟨k1, g1⟩ := fld18 hF' hyl' 1 _ rfl 1 (by kernel_rfl)
    obtain ⟨k2, g2⟩ := fld18 hF' hyl' 2 _ rfl 1 (by kernel_rfl)
    obtain ⟨z1, q1, _, w1⟩ := DataW.trod_string (cs := [x1]) Try.underlying9 g0
    obtain ⟨z2, q2, _, w2⟩ := DataW.trod_string (cs := [x2]) Try.underlying9 g1
    obtain ⟨z3, q3, _, w3⟩ := DataW.trod_string (cs := [x3]) Try.underlying9 g2
    simp at q0 q1 q2 q3 q4
    subst q0; subst q1; subst q2; subst q3; subst q4
    exact ⟨⟨z0, ⟨z1.data.toList, z2.data.toList, z3.data.toList⟩, z4⟩, by simp [Po.cells], ⟨wide64_of_wf w0, ⟨by rw [ba_len]; exact w1, by rw [ba_len]; exact w2, by rw [ba_len]; exact w3⟩⟩⟩
theorem open_posts_in {H : Type} {enc : TypeId × Value → H} {w : World} {base : Nat} {spare : Nat → Bool} {held : Bool} {v : Value} {fuel : Nat} {yy : DataW H × List MemPlace}
    (h : DataW.trod enc Try.prog w base spare held fuel 27 [v] = some yy) : ∃ l : List Po, SlAt w w.heap.size v 5 l.length (poL l) ∧ ∀ x ∈ l, x.In := by
  obtain ⟨n, xs, hs, hx⟩ := open_elems_in (sz := 5) Try.underlying27 (by kernel_rfl) (by omega) h
  obtain ⟨l, hl, rfl, hg⟩ := flat_of Po.cells 5 (fun _ => rfl) Po.In n xs hs.1 fun i hi => by
    obtain ⟨hlen, y, m, hy⟩ := hx i hi
    obtain ⟨x, e, hin⟩ := open_post _ hlen hy
    refine ⟨x, hin, fun j hj => ?_⟩
    rw [← e, List.getElem?_take_of_lt hj, List.getElem?_drop]
  subst hl
  exact ⟨l, hs, hg⟩
/-- A reply that comes in. -/
structure RpIn (w : World) (pv : Value) (r : Rp) : Prop where
  ps : SlAt w w.heap.size pv 5 r.ps.length (poL r.ps)
  er : Wide64 r.er
  n : Wide64 r.n
  all : ∀ x ∈ r.ps, x.In
set_option maxRecDepth 100000 in
set_option maxHeartbeats 1000000 in
theorem open_reply {H : Type} {enc : TypeId × Value → H} {w : World} {base : Nat} {spare : Nat → Bool} {held : Bool} {r : Reach} {b0 : Nat} {v : Value} {d : DataW H} {p : List MemPlace}
    (hv : Value.okWide Try.prog w r b0 67 v) (h : DataW.Trod enc Try.prog w base spare held 67 v d p) :
    ∃ x : Rp, (∃ pv, v = x.val pv ∧ RpIn w pv x) ∧ True := by
  obtain ⟨cs, rfl, hcs⟩ := okWide_struct Try.underlying67 hv
  rw [show Try.prog.cellsOf 67 = 3 from by kernel_rfl] at hcs
  obtain ⟨fuel, hf⟩ := h
  obtain ⟨l⟩ := cs
  have hl : l.length = 3 := hcs
  match l, hl with
  | [x0, x1, x2], _ =>
    have hf : DataW.trod enc Try.prog w base spare held fuel 67 [x0, x1, x2] = some (d, p) := hf
    obtain ⟨ys, n, -, -, -, hyl, hF⟩ := DataW.trod_struct Try.underlying67 hf
    obtain ⟨y0, h0⟩ := fld18 hF hyl 0 _ rfl 1 (by kernel_rfl)
    obtain ⟨y1, h1⟩ := fld18 hF hyl 1 _ rfl 1 (by kernel_rfl)
    obtain ⟨y2, h2⟩ := fld18 hF hyl 2 _ rfl 1 (by kernel_rfl)
    obtain ⟨z0, q0, _, w0⟩ := DataW.trod_int (cs := [x0]) Try.underlying28 h0
    obtain ⟨z1, q1, _, w1⟩ := DataW.trod_int (cs := [x1]) Try.underlying3 h1
    obtain ⟨ps, hp1, hp2⟩ := open_posts_in (v := x2) h2
    simp at q0 q1
    subst q0; subst q1
    exact ⟨⟨z0, z1, ps⟩, ⟨x2, rfl, ⟨hp1, wide64_of_wf w0, wide64_of_wf w1, hp2⟩⟩, trivial⟩
set_option maxRecDepth 100000 in
set_option maxHeartbeats 1000000 in
theorem open_cmd {H : Type} {enc : TypeId × Value → H} {w : World} {base : Nat} {spare : Nat → Bool} {held : Bool} {r : Reach} {b0 : Nat} {v : Value} {d : DataW H} {p : List MemPlace}
    (hv : Value.okWide Try.prog w r b0 65 v) (h : DataW.Trod enc Try.prog w base spare held 65 v d p) :
    ∃ c : Cm, (∃ iv, v = c.val iv ∧ CmAt w iv c) ∧ True := by
  obtain ⟨cs, rfl, hcs⟩ := okWide_struct Try.underlying65 hv
  rw [show Try.prog.cellsOf 65 = 11 from by kernel_rfl] at hcs
  obtain ⟨fuel, hf⟩ := h
  obtain ⟨l⟩ := cs
  have hl : l.length = 11 := hcs
  match l, hl with
  | [x0, x1, x2, x3, x4, x5, x6, x7, x8, x9, x10], _ =>
    have hf : DataW.trod enc Try.prog w base spare held fuel 65 [x0, x1, x2, x3, x4, x5, x6, x7, x8, x9, x10] = some (d, p) := hf
    obtain ⟨ys, n, -, -, -, hyl, hF⟩ := DataW.trod_struct Try.underlying65 hf
    obtain ⟨y0, h0⟩ := fld18 hF hyl 0 _ rfl 1 (by kernel_rfl)
    obtain ⟨y1, h1⟩ := fld18 hF hyl 1 _ rfl 1 (by kernel_rfl)
    obtain ⟨y2, h2⟩ := fld18 hF hyl 2 _ rfl 1 (by kernel_rfl)
    obtain ⟨y3, h3⟩ := fld18 hF hyl 3 _ rfl 1 (by kernel_rfl)
    obtain ⟨y4, h4⟩ := fld18 hF hyl 4 _ rfl 1 (by kernel_rfl)
    obtain ⟨y5, h5⟩ := fld18 hF hyl 5 _ rfl 1 (by kernel_rfl)
    obtain ⟨y6, h6⟩ := fld18 hF hyl 6 _ rfl 1 (by kernel_rfl)
    obtain ⟨y7, h7⟩ := fld18 hF hyl 7 _ rfl 1 (by kernel_rfl)
    obtain ⟨y8, h8⟩ := fld18 hF hyl 8 _ rfl 1 (by kernel_rfl)
    obtain ⟨y9, h9⟩ := fld18 hF hyl 9 _ rfl 1 (by kernel_rfl)
    obtain ⟨y10, h10⟩ := fld18 hF hyl 10 _ rfl 1 (by kernel_rfl)
    obtain ⟨z0, q0, _, w0⟩ := DataW.trod_int (cs := [x0]) Try.underlying3 h0
    obtain ⟨z1, q1, _, w1⟩ := DataW.trod_int (cs := [x1]) Try.underlying3 h1
    obtain ⟨z2, q2, _, w2⟩ := DataW.trod_int (cs := [x2]) Try.underlying3 h2
    obtain ⟨z3, q3, _, w3⟩ := DataW.trod_int (cs := [x3]) Try.underlying3 h3
    obtain ⟨z4, q4, _, w4⟩ := DataW.trod_int (cs := [x4]) Try.underlying3 h4
    obtain ⟨z5, q5, _, w5⟩ := DataW.trod_int (cs := [x5]) Try.underlying3 h5
    obtain ⟨z6, q6, _, w6⟩ := DataW.trod_int (cs := [x6]) Try.underlying3 h6
    obtain ⟨z7, q7, _, w7⟩ := DataW.trod_string (cs := [x7]) Try.underlying9 h7
    obtain ⟨z8, q8, _, w8⟩ := DataW.trod_string (cs := [x8]) Try.underlying9 h8
    obtain ⟨its, hi1, hi2⟩ := open_items_in (v := x9) h9
    obtain ⟨z10, q10, _⟩ := DataW.trod_bool (cs := [x10]) Try.underlying4 h10
    simp at q0 q1 q2 q3 q4 q5 q6 q7 q8 q10
    subst q0; subst q1; subst q2; subst q3; subst q4; subst q5; subst q6; subst q7; subst q8; subst q10
    refine ⟨⟨z0, z1, z2, z3, z4, z5, z6, z7.data.toList, z8.data.toList, its, z10⟩, ⟨x9, by simp [Cm.val], ⟨hi1, hi2, by rw [ba_len]; exact w7, by rw [ba_len]; exact w8, ?_⟩⟩, trivial⟩
    intro x hx
    simp only [List.mem_cons, List.not_mem_nil, or_false] at hx
    rcases hx with rfl | rfl | rfl | rfl | rfl | rfl | rfl
    · exact wide64_of_wf w0
    · exact wide64_of_wf w1
    · exact wide64_of_wf w2
    · exact wide64_of_wf w3
    · exact wide64_of_wf w4
    · exact wide64_of_wf w5
    · exact wide64_of_wf w6
end Go.Proofs.Ytjfnkjpnjiobjaa
