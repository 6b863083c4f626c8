/-
  Chapter 6: the acts that come in.
-/
import Derived.Test.YtllapfpakoobcaaNet7
namespace Go.Proofs.Ytllapfpakoobcaa
open Go.RowKit Go.ChangeShapes Go.WideShapes Go.Deep
section
variable {H : Type} {enc : TypeId × Value → H} {P : Program} {w : World} {base : Nat} {spare : Nat → Bool} {held : Bool}
/-- A slice whose elements are one cell each, as one cell of something else. -/
theorem open_ones_in {t e : TypeId} {v : Value} {f : Nat} {y : DataW H × List MemPlace} (ht : P.underlying t = some (.slice e)) (hC : P.cellsOf e = 1) (hf : DataW.trod enc P w base spare held f t [v] = some y) :
    ∃ n xs, SlAt w w.heap.size v 1 n xs ∧ ∀ i, i < n → ∃ u y m, xs[i]? = some u ∧ DataW.trod enc P w base spare held m e [u] = some y := by
  rcases open_slice ht hf with ⟨hcs, _⟩ | ⟨a, len, cap, m, n, D, Pl, hcs, hb, hl, hm, hmm, hx, hi⟩
  · simp at hcs
    subst hcs
    exact ⟨0, [], ⟨by simp, none, 0, rfl, by omega, by simp [maxLen], fun h => by simp at h⟩, fun i hi => by omega⟩
  · simp at hcs
    subst hcs
    have hlm : len ≤ m := by rw [hmm]; split <;> omega
    have key : ∀ i, i < len → ∃ u y m, w.cell? (a.add i) = some u ∧ DataW.trod enc P w base spare held m e [u] = some y := by
      intro i hil
      obtain ⟨cs', hc, ht'⟩ := hi i (by omega)
      rw [hC, Nat.mul_one] at hc
      obtain ⟨_, hcl, hat⟩ := World.cells?_some hc
      have hcell := hat 0 (by omega)
      match cs', hcl with
      | [u], _ => exact ⟨u, _, _, by simpa [Addr.add] using hcell, ht'⟩
    by_cases hz : 0 < len
    · obtain ⟨u0, _, _, hc0, _⟩ := key 0 hz
      have ha : a = ⟨a.block, a.off, none⟩ := by simpa [Addr.add] using cell_spot hc0
      have hblt : a.block < w.heap.size := by simpa [Addr.add] using World.block_lt_of_cell? w _ hc0
      have hadd : ∀ k, a.add k = ⟨a.block, a.off + k, none⟩ := by
        intro k; rw [ha]; unfold Addr.add; by_cases hk : k = 0 <;> simp [hk]
      refine ⟨len, (List.range len).map fun k => (w.cell? ⟨a.block, a.off + k, none⟩).getD undef, ⟨by simp, some a, cap, rfl, hl, hm, fun _ => ⟨a.block, a.off, by rw [← ha], hblt, fun j u hu => ?_⟩⟩, fun i hil => ?_⟩
      · simp only [List.getElem?_map] at hu
        have hjl : j < len := by
          rcases Nat.lt_or_ge j len with h0 | h0
          · exact h0
          · rw [List.getElem?_eq_none (by simpa using h0)] at hu; simp at hu
        rw [List.getElem?_range hjl] at hu
        simp only [Option.map_some, Option.some.injEq] at hu
        obtain ⟨u', _, _, hc', _⟩ := key j hjl
        rw [hadd] at hc'
        rw [hc'] at hu ⊢
        simpa using hu
      · obtain ⟨u, y, m', hc', hy⟩ := key i hil
        refine ⟨u, y, m', ?_, hy⟩
        rw [List.getElem?_map, List.getElem?_range hil]
        rw [hadd] at hc'
        simp [hc']
    · exact ⟨len, [], ⟨by simp; omega, some a, cap, rfl, hl, hm, fun h => by omega⟩, fun i hil => by omega⟩
end
structure Act where
  op : Int
  k : Int
  fr : Int
  to : Int
  d : ByteArray
  gv : Value
  grp : List Int
def Act.cells (a : Act) : List Value := [.int .i64 a.op, .int .i64 a.k, .int .i64 a.fr, .int .i64 a.to, .string a.d, a.gv]
structure Act.Ok (W : World) (a : Act) : Prop where
  op : Wide a.op
  k : Wide a.k
  sl : SlAt W W.heap.size a.gv 1 a.grp.length (gvs a.grp)
  size : a.d.size ≤ maxLen
set_option maxRecDepth 100000 in
set_option maxHeartbeats 1000000 in
theorem open_acts {H : Type} {enc : TypeId × Value → H} {w : World} {base : Nat} {spare : Nat → Bool} {held : Bool} {r : Reach} {b0 : Nat} {v : Value} {d : DataW H} {p : List MemPlace}
    (hv : Value.okWide Try.prog w r b0 22 v) (h : DataW.Trod enc Try.prog w base spare held 22 v d p) :
    ∃ l : List Act, SlAt w w.heap.size v 6 l.length (l.flatMap Act.cells) ∧ ∀ a ∈ l, a.Ok w := by
  obtain ⟨n, xs, hs, hx⟩ := open_structs Try.underlying22 Try.underlying41 (by kernel_rfl) (by kernel_rfl) hv h
  obtain ⟨l, hl, rfl, hg⟩ := flat_of Act.cells 6 (fun _ => rfl) (Act.Ok w) n xs hs.1 fun i hi => by
    obtain ⟨u0, y0, m0, e0, h0⟩ := hx i hi 0 _ rfl
    obtain ⟨u1, y1, m1, e1, h1⟩ := hx i hi 1 _ rfl
    obtain ⟨u2, y2, m2, e2, h2⟩ := hx i hi 2 _ rfl
    obtain ⟨u3, y3, m3, e3, h3⟩ := hx i hi 3 _ rfl
    obtain ⟨u4, y4, m4, e4, h4⟩ := hx i hi 4 _ rfl
    obtain ⟨u5, y5, m5, e5, h5⟩ := hx i hi 5 _ rfl
    obtain ⟨z0, q0, _, w0⟩ := DataW.trod_int Try.underlying3 h0
    obtain ⟨z1, q1, _, w1⟩ := DataW.trod_int Try.underlying3 h1
    obtain ⟨z2, q2, _, w2⟩ := DataW.trod_int Try.underlying3 h2
    obtain ⟨z3, q3, _, w3⟩ := DataW.trod_int Try.underlying3 h3
    obtain ⟨z4, q4, _, w4⟩ := DataW.trod_string Try.underlying9 h4
    obtain ⟨gn, gxs, hgs, hgx⟩ := open_ones_in (e := 3) Try.underlying29 (by kernel_rfl) h5
    obtain ⟨gl, hgl, rfl, -⟩ := flat_of (fun x : Int => [Value.int .i64 x]) 1 (fun _ => rfl) (fun _ => True) gn gxs hgs.1 fun j hj => by
      obtain ⟨u, y, m, hu, hy⟩ := hgx j hj
      obtain ⟨z, hz, _, _⟩ := DataW.trod_int Try.underlying3 hy
      simp at hz
      refine ⟨z, trivial, fun jj hjj => ?_⟩
      obtain rfl : jj = 0 := by omega
      simp [hu, hz]
    subst hgl
    simp at q0 q1 q2 q3 q4
    subst q0; subst q1; subst q2; subst q3; subst q4
    refine ⟨⟨z0, z1, z2, z3, z4, u5, gl⟩, ⟨wide_of_wf w0, wide_of_wf w1, by rw [show gvs gl = gl.flatMap fun x => [Value.int .i64 x] from map_one _ _]; exact hgs, w4⟩, fun j hj => ?_⟩
    match j, hj with
    | 0, _ => exact e0
    | 1, _ => exact e1
    | 2, _ => exact e2
    | 3, _ => exact e3
    | 4, _ => exact e4
    | 5, _ => exact e5
  subst hl
  exact ⟨l, hs, hg⟩
end Go.Proofs.Ytllapfpakoobcaa
