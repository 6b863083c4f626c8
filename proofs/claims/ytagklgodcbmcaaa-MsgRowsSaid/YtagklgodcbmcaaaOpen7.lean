/-
  Chapter 7: the message that comes in.
-/
import Derived.Test.YtagklgodcbmcaaaM7m
namespace Go.Proofs.Ytagklgodcbmcaaa
open Go.RowKit Go.ChangeShapes Go.WideShapes Go.Deep
section
variable {H : Type} {enc : TypeId × Value → H} {P : Program} {w : World} {base : Nat} {spare : Nat → Bool} {held : Bool}
theorem open_ones_in {t e : TypeId} {v : Value} {f : Nat} {y : DataW H × List MemPlace} (ht : P.underlying t = some (.slice e)) (hC : P.cellsOf e = 1) (hf : DataW.trod enc P w base spare held f t [v] = some y) :
    ∃ n xs, SlAt w w.heap.size v 1 n xs ∧ ∀ i, i < n → ∃ u y m, xs[i]? = some u ∧ DataW.trod enc P w base spare held m e [u] = some y := by
  rcases open_slice ht hf with ⟨hcs, _⟩ | ⟨a, len, cap, m, n, D, Pl, hcs, hb, hl, hm, hmm, hx, hi⟩
  · simp at hcs
    subst hcs
    exact ⟨0, [], ⟨by simp, none, 0, rfl, by omega, by simp [maxLen], fun h => by simp at h⟩, fun i hi => by omega⟩
  · simp at hcs
    subst hcs
    have hlm : len ≤ m := by rw [hmm]; split <;> omega
    have key : ∀ i, i < len → ∃ u y m, w.cell? (a.add i) = some u ∧ DataW.trod enc P w base spare held m e [u] = some y := by
      intro i hil
      obtain ⟨cs', hc, ht'⟩ := hi i (by omega)
      rw [hC, Nat.mul_one] at hc
      obtain ⟨_, hcl, hat⟩ := World.cells?_some hc
      have hcell := hat 0 (by omega)
      match cs', hcl with
      | [u], _ => exact ⟨u, _, _, by simpa [Addr.add] using hcell, ht'⟩
    by_cases hz : 0 < len
    · obtain ⟨u0, _, _, hc0, _⟩ := key 0 hz
      have ha : a = ⟨a.block, a.off, none⟩ := by simpa [Addr.add] using cell_spot hc0
      have hblt : a.block < w.heap.size := by simpa [Addr.add] using World.block_lt_of_cell? w _ hc0
      have hadd : ∀ k, a.add k = ⟨a.block, a.off + k, none⟩ := by
        intro k; rw [ha]; unfold Addr.add; by_cases hk : k = 0 <;> simp [hk]
      refine ⟨len, (List.range len).map fun k => (w.cell? ⟨a.block, a.off + k, none⟩).getD undef, ⟨by simp, some a, cap, rfl, hl, hm, fun _ => ⟨a.block, a.off, by rw [← ha], hblt, fun j u hu => ?_⟩⟩, fun i hil => ?_⟩
      · simp only [List.getElem?_map] at hu
        have hjl : j < len := by
          rcases Nat.lt_or_ge j len with h0 | h0
          · exact h0
          · rw [List.getElem?_eq_none (by simpa using h0)] at hu; simp at hu
        rw [List.getElem?_range hjl] at hu
        simp only [Option.map_some, Option.some.injEq] at hu
        obtain ⟨u', _, _, hc', _⟩ := key j hjl
        rw [hadd] at hc'
        rw [hc'] at hu ⊢
        simpa using hu
      · obtain ⟨u, y, m', hc', hy⟩ := key i hil
        refine ⟨u, y, m', ?_, hy⟩
        rw [List.getElem?_map, List.getElem?_range hil]
        rw [hadd] at hc'
        simp [hc']
    · exact ⟨len, [], ⟨by simp; omega, some a, cap, rfl, hl, hm, fun h => by omega⟩, fun i hil => by omega⟩
theorem open_structs_in {t e : TypeId} {fs : Array Field} {v : Value} {fuel : Nat} {yy : DataW H × List MemPlace} (ht : P.underlying t = some (.slice e)) (he : P.underlying e = some (.struct fs))
    (hone : oneCellFields P fs = true) (hC : P.cellsOf e = fs.size) (hf : DataW.trod enc P w base spare held fuel t [v] = some yy) :
    ∃ n xs, SlAt w w.heap.size v fs.size n xs ∧ ∀ i, i < n → ∀ (j : Nat) (f : Field), fs[j]? = some f → ∃ u y m, xs[i * fs.size + j]? = some u ∧ DataW.trod enc P w base spare held m f.type [u] = some y := by
  rcases open_slice ht hf with ⟨hcs, _⟩ | ⟨a, len, cap, m, n, D, Pl, hcs, hb, hl, hm, hmm, hx, hi⟩
  · simp at hcs
    subst hcs
    exact ⟨0, [], ⟨by simp, none, 0, rfl, by omega, by simp [maxLen], fun h => by simp at h⟩, fun i hi => by omega⟩
  · simp at hcs
    subst hcs
    have hlm : len ≤ m := by rw [hmm]; split <;> omega
    have key : ∀ i, i < len → ∀ (j : Nat) (f : Field), fs[j]? = some f → ∃ u y m, w.cell? (a.add (i * fs.size + j)) = some u ∧ DataW.trod enc P w base spare held m f.type [u] = some y := by
      intro i hil j f hj
      obtain ⟨cs', hc, ht'⟩ := hi i (by omega)
      rw [hC] at hc
      obtain ⟨ys, n', hn', hy, hlen, hyl, hf'⟩ := DataW.trod_struct he ht'
      obtain ⟨_, hcl, hat⟩ := World.cells?_some hc
      obtain ⟨ho, hk⟩ := hone_of hone j f hj
      have hjl : j < fs.size := (Array.getElem?_eq_some_iff.1 hj).1
      have hcell := hat j hjl
      have hv : cs'[j]? = some (cs'[j]'(by omega)) := List.getElem?_eq_getElem (by omega)
      have h1 := hf' j f hj
      rw [ho, hk] at h1
      have hone' : (cs'.drop j).take 1 = [cs'[j]'(by omega)] := by
        rw [List.drop_eq_getElem_cons (by omega)]
        rfl
      rw [hone'] at h1
      have hys : ys[j]? = some (ys[j]'(by omega)) := List.getElem?_eq_getElem (by omega)
      refine ⟨cs'[j]'(by omega), _, _, ?_, h1.trans hys⟩
      rw [← Go.Deep.add_add, hcell, hv]
    by_cases hz : 0 < len * fs.size
    · have hfs : 0 < fs.size := by rcases Nat.eq_zero_or_pos fs.size with h0 | h0; · simp [h0] at hz
                                   · exact h0
      have hlen : 0 < len := by rcases Nat.eq_zero_or_pos len with h0 | h0; · simp [h0] at hz
                                · exact h0
      obtain ⟨u0, _, _, hc0, _⟩ := key 0 hlen 0 fs[0] (Array.getElem?_eq_getElem hfs)
      have ha : a = ⟨a.block, a.off, none⟩ := by simpa [Addr.add] using cell_spot hc0
      have hblt : a.block < w.heap.size := by simpa [Addr.add] using World.block_lt_of_cell? w _ hc0
      have hadd : ∀ k, a.add k = ⟨a.block, a.off + k, none⟩ := by
        intro k; rw [ha]; unfold Addr.add; by_cases hk : k = 0 <;> simp [hk]
      refine ⟨len, (List.range (len * fs.size)).map fun k => (w.cell? ⟨a.block, a.off + k, none⟩).getD undef, ⟨by simp, some a, cap, rfl, hl, hm, fun _ => ⟨a.block, a.off, by rw [← ha], hblt, fun j u hu => ?_⟩⟩, fun i hil j f hj => ?_⟩
      · simp only [List.getElem?_map] at hu
        have hjl : j < len * fs.size := by
          rcases Nat.lt_or_ge j (len * fs.size) with h0 | h0
          · exact h0
          · rw [List.getElem?_eq_none (by simpa using h0)] at hu; simp at hu
        rw [List.getElem?_range hjl] at hu
        simp only [Option.map_some, Option.some.injEq] at hu
        obtain ⟨u', _, _, hc', _⟩ := key (j / fs.size) ((Nat.div_lt_iff_lt_mul hfs).2 hjl) (j % fs.size) (fs[j % fs.size]'(Nat.mod_lt _ hfs)) (Array.getElem?_eq_getElem (Nat.mod_lt _ hfs))
        rw [Nat.mul_comm, Nat.div_add_mod, hadd] at hc'
        rw [hc'] at hu ⊢
        simpa using hu
      · obtain ⟨u, y, m', hc', hy⟩ := key i hil j f hj
        have hjl : j < fs.size := (Array.getElem?_eq_some_iff.1 hj).1
        have hlt : i * fs.size + j < len * fs.size := by
          have : (i + 1) * fs.size ≤ len * fs.size := Nat.mul_le_mul_right _ hil
          rw [Nat.succ_mul] at this; omega
        refine ⟨u, y, m', ?_, hy⟩
        rw [List.getElem?_map, List.getElem?_range hlt]
        rw [hadd] at hc'
        simp [hc']
    · refine ⟨len, [], ⟨by simp; omega, some a, cap, rfl, hl, hm, fun h => absurd h hz⟩, fun i hil j f hj => ?_⟩
      have hjl : j < fs.size := (Array.getElem?_eq_some_iff.1 hj).1
      exact absurd (Nat.mul_pos (by omega) (by omega)) hz
theorem fld {fs : Array Field} {cs : List Value} {n : Nat} {xs : List (DataW H × List MemPlace)} (hf : ∀ (i : Nat) (f : Field), fs[i]? = some f → DataW.trod enc P w base spare held n f.type ((cs.drop f.offset).take (P.cellsOf f.type)) = xs[i]?) (hl : xs.length = fs.size) (i : Nat) (f : Field) (hi : fs[i]? = some f) (k : Nat) (hk : P.cellsOf f.type = k) :
    ∃ y, DataW.trod enc P w base spare held n f.type ((cs.drop f.offset).take k) = some y := by
  have h := hf i f hi
  rw [hk] at h
  have : i < fs.size := (Array.getElem?_eq_some_iff.1 hi).1
  exact ⟨_, h.trans (List.getElem?_eq_getElem (by omega))⟩
end
set_option maxRecDepth 100000 in
set_option maxHeartbeats 1000000 in
theorem open_msg {H : Type} {enc : TypeId × Value → H} {w : World} {base : Nat} {spare : Nat → Bool} {held : Bool} {r : Reach} {b0 : Nat} {v : Value} {d : DataW H} {p : List MemPlace}
    (hv : Value.okWide Try.prog w r b0 67 v) (h : DataW.Trod enc Try.prog w base spare held 67 v d p) :
    ∃ m : Ms, (∃ ev vv, v = m.val ev vv ∧ MsAt w ev vv m) ∧ True := by
  obtain ⟨cs, rfl, hcs⟩ := okWide_struct Try.underlying67 hv
  rw [show Try.prog.cellsOf 67 = 14 from by kernel_rfl] at hcs
  obtain ⟨fuel, hf⟩ := h
  obtain ⟨l⟩ := cs
  have hl : l.length = 14 := hcs
  match l, hl with
  | [x0, x1, x2, x3, x4, x5, x6, x7, x8, x9, x10, x11, x12, x13], _ =>
    have hf : DataW.trod enc Try.prog w base spare held fuel 67 [x0, x1, x2, x3, x4, x5, x6, x7, x8, x9, x10, x11, x12, x13] = some (d, p) := hf
    obtain ⟨ys, n, -, -, -, hyl, hF⟩ := DataW.trod_struct Try.underlying67 hf
    obtain ⟨y0, h0⟩ := fld hF hyl 0 _ rfl 1 (by kernel_rfl)
    obtain ⟨y1, h1⟩ := fld hF hyl 1 _ rfl 1 (by kernel_rfl)
    obtain ⟨y2, h2⟩ := fld hF hyl 2 _ rfl 1 (by kernel_rfl)
    obtain ⟨y3, h3⟩ := fld hF hyl 3 _ rfl 1 (by kernel_rfl)
    obtain ⟨y4, h4⟩ := fld hF hyl 4 _ rfl 1 (by kernel_rfl)
    obtain ⟨y5, h5⟩ := fld hF hyl 5 _ rfl 1 (by kernel_rfl)
    obtain ⟨y6, h6⟩ := fld hF hyl 6 _ rfl 1 (by kernel_rfl)
    obtain ⟨y7, h7⟩ := fld hF hyl 7 _ rfl 1 (by kernel_rfl)
    obtain ⟨y8, h8⟩ := fld hF hyl 8 _ rfl 1 (by kernel_rfl)
    obtain ⟨y9, h9⟩ := fld hF hyl 9 _ rfl 4 (by kernel_rfl)
    obtain ⟨y10, h10⟩ := fld hF hyl 10 _ rfl 1 (by kernel_rfl)
    obtain ⟨z0, q0, _, w0⟩ := DataW.trod_int (cs := [x0]) Try.underlying3 h0
    obtain ⟨z1, q1, _, w1⟩ := DataW.trod_int (cs := [x1]) Try.underlying3 h1
    obtain ⟨z2, q2, _, w2⟩ := DataW.trod_int (cs := [x2]) Try.underlying3 h2
    obtain ⟨z3, q3, _, w3⟩ := DataW.trod_int (cs := [x3]) Try.underlying3 h3
    obtain ⟨z4, q4, _, w4⟩ := DataW.trod_int (cs := [x4]) Try.underlying3 h4
    obtain ⟨z5, q5, _, w5⟩ := DataW.trod_int (cs := [x5]) Try.underlying3 h5
    obtain ⟨z6, q6, _, w6⟩ := DataW.trod_int (cs := [x6]) Try.underlying3 h6
    obtain ⟨z7, q7, _⟩ := DataW.trod_bool (cs := [x7]) Try.underlying4 h7
    obtain ⟨z13, q13, _, w13⟩ := DataW.trod_string (cs := [x13]) Try.underlying9 h10
    have h9 : DataW.trod enc Try.prog w base spare held n 27 [x9, x10, x11, x12] = some y9 := h9
    obtain ⟨ys', n', -, -, -, hyl', hF'⟩ := DataW.trod_struct Try.underlying27 h9
    obtain ⟨k0, g0⟩ := fld hF' hyl' 0 _ rfl 1 (by kernel_rfl)
    obtain ⟨k1, g1⟩ := fld hF' hyl' 1 _ rfl 1 (by kernel_rfl)
    obtain ⟨k2, g2⟩ := fld hF' hyl' 2 _ rfl 1 (by kernel_rfl)
    obtain ⟨k3, g3⟩ := fld hF' hyl' 3 _ rfl 1 (by kernel_rfl)
    obtain ⟨z9, q9, _, w9⟩ := DataW.trod_int (cs := [x9]) Try.underlying3 g0
    obtain ⟨z10, q10, _, w10⟩ := DataW.trod_int (cs := [x10]) Try.underlying3 g1
    obtain ⟨z12, q12, _, w12⟩ := DataW.trod_string (cs := [x12]) Try.underlying9 g3
    obtain ⟨gn, gxs, hgs, hgx⟩ := open_ones_in (v := x11) (e := 3) Try.underlying25 (by kernel_rfl) g2
    obtain ⟨gl, hgl, rfl, hgw⟩ := flat_of (fun x : Int => [Value.int .i64 x]) 1 (fun _ => rfl) Wide64 gn gxs hgs.1 fun j hj => by
      obtain ⟨u, y, m, hu, hy⟩ := hgx j hj
      obtain ⟨z, hz, _, hw⟩ := DataW.trod_int Try.underlying3 hy
      simp at hz
      refine ⟨z, wide64_of_wf hw, fun jj hjj => ?_⟩
      obtain rfl : jj = 0 := by omega
      simp [hu, hz]
    obtain ⟨en, exs, hes, hex⟩ := open_structs_in (v := x8) Try.underlying31 Try.underlying40 (by kernel_rfl) (by kernel_rfl) h8
    obtain ⟨el, hel, rfl, hew⟩ := flat_of En.cells 4 (fun _ => rfl) (fun x : En => Wide64 x.ix ∧ Wide64 x.tm ∧ Wide64 x.kd ∧ x.d.size ≤ maxLen) en exs hes.1 fun i hi => by
      obtain ⟨u0, _, _, e0, t0⟩ := hex i hi 0 _ rfl
      obtain ⟨u1, _, _, e1, t1⟩ := hex i hi 1 _ rfl
      obtain ⟨u2, _, _, e2, t2⟩ := hex i hi 2 _ rfl
      obtain ⟨u3, _, _, e3, t3⟩ := hex i hi 3 _ rfl
      obtain ⟨a0, b0', _, c0⟩ := DataW.trod_int Try.underlying3 t0
      obtain ⟨a1, b1, _, c1⟩ := DataW.trod_int Try.underlying3 t1
      obtain ⟨a2, b2, _, c2⟩ := DataW.trod_int Try.underlying3 t2
      obtain ⟨a3, b3, _, c3⟩ := DataW.trod_string Try.underlying9 t3
      simp at b0' b1 b2 b3
      subst b0'; subst b1; subst b2; subst b3
      refine ⟨⟨a0, a1, a2, a3⟩, ⟨wide64_of_wf c0, wide64_of_wf c1, wide64_of_wf c2, c3⟩, fun j hj => ?_⟩
      match j, hj with
      | 0, _ => exact e0
      | 1, _ => exact e1
      | 2, _ => exact e2
      | 3, _ => exact e3
    subst hgl
    subst hel
    simp at q0 q1 q2 q3 q4 q5 q6 q7 q9 q10 q12 q13
    subst q0; subst q1; subst q2; subst q3; subst q4; subst q5; subst q6; subst q7; subst q9; subst q10; subst q12; subst q13
    refine ⟨⟨z0, z1, z2, z3, z4, z5, z6, z7, el, ⟨z9, z10, gl, z12⟩, z13⟩, ⟨x8, x11, rfl, ⟨hes, by rw [show gvs gl = gl.flatMap fun x => [Value.int .i64 x] from map_one _ _]; exact hgs, ?_, hew, hgw, w13, w12⟩⟩, trivial⟩
    intro x hx
    simp only [List.mem_cons, List.not_mem_nil, or_false] at hx
    rcases hx with rfl | rfl | rfl | rfl | rfl | rfl | rfl | rfl | rfl
    · exact wide64_of_wf w0
    · exact wide64_of_wf w1
    · exact wide64_of_wf w2
    · exact wide64_of_wf w3
    · exact wide64_of_wf w4
    · exact wide64_of_wf w5
    · exact wide64_of_wf w6
    · exact wide64_of_wf w9
    · exact wide64_of_wf w10
end Go.Proofs.Ytagklgodcbmcaaa
