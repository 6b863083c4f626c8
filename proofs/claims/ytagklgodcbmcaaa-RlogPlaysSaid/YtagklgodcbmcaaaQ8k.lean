/-
  Chapter 8: acts as they come in; the law's fixed. (Printed by gen_q8k.py.)
-/
import Derived.Test.YtagklgodcbmcaaaQ8i
namespace Go.Proofs.Ytagklgodcbmcaaa
open Go.RowKit Go.ChangeShapes Go.WideShapes Go.Deep
section
variable {H : Type} {enc : TypeId × Value → H} {P : Program} {w : World} {base : Nat} {spare : Nat → Bool} {held : Bool}
theorem open_structs_in {t e : TypeId} {fs : Array Field} {v : Value} {f0 : Nat} {y0 : DataW H × List MemPlace} (ht : P.underlying t = some (.slice e)) (he : P.underlying e = some (.struct fs))
    (hone : oneCellFields P fs = true) (hC : P.cellsOf e = fs.size) (hf : DataW.trod enc P w base spare held f0 t [v] = some y0) :
    ∃ n xs, SlAt w w.heap.size v fs.size n xs ∧ ∀ i, i < n → ∀ (j : Nat) (f : Field), fs[j]? = some f → ∃ u y m, xs[i * fs.size + j]? = some u ∧ DataW.trod enc P w base spare held m f.type [u] = some y := by
  rcases open_slice ht hf with ⟨hcs, _⟩ | ⟨a, len, cap, m, n, D, Pl, hcs, hb, hl, hm, hmm, hx, hi⟩
  · simp at hcs
    subst hcs
    exact ⟨0, [], ⟨by simp, none, 0, rfl, by omega, by simp [maxLen], fun h => by simp at h⟩, fun i hi => by omega⟩
  · simp at hcs
    subst hcs
    have hlm : len ≤ m := by rw [hmm]; split <;> omega
    have key : ∀ i, i < len → ∀ (j : Nat) (f : Field), fs[j]? = some f → ∃ u y m, w.cell? (a.add (i * fs.size + j)) = some u ∧ DataW.trod enc P w base spare held m f.type [u] = some y := by
      intro i hil j f hj
      obtain ⟨cs', hc, ht'⟩ := hi i (by omega)
      rw [hC] at hc
      obtain ⟨ys, n', hn', hy, hlen, hyl, hf'⟩ := DataW.trod_struct he ht'
      obtain ⟨_, hcl, hat⟩ := World.cells?_some hc
      obtain ⟨ho, hk⟩ := hone_of hone j f hj
      have hjl : j < fs.size := (Array.getElem?_eq_some_iff.1 hj).1
      have hcell := hat j hjl
      have hv : cs'[j]? = some (cs'[j]'(by omega)) := List.getElem?_eq_getElem (by omega)
      have h1 := hf' j f hj
      rw [ho, hk] at h1
      have hone' : (cs'.drop j).take 1 = [cs'[j]'(by omega)] := by
        rw [List.drop_eq_getElem_cons (by omega)]
        rfl
      rw [hone'] at h1
      have hys : ys[j]? = some (ys[j]'(by omega)) := List.getElem?_eq_getElem (by omega)
      refine ⟨cs'[j]'(by omega), _, _, ?_, h1.trans hys⟩
      rw [← Go.Deep.add_add, hcell, hv]
    by_cases hz : 0 < len * fs.size
    · have hfs : 0 < fs.size := by rcases Nat.eq_zero_or_pos fs.size with h0 | h0; · simp [h0] at hz
                                   · exact h0
      have hlen : 0 < len := by rcases Nat.eq_zero_or_pos len with h0 | h0; · simp [h0] at hz
                                · exact h0
      obtain ⟨u0, _, _, hc0, _⟩ := key 0 hlen 0 fs[0] (Array.getElem?_eq_getElem hfs)
      have ha : a = ⟨a.block, a.off, none⟩ := by simpa [Addr.add] using cell_spot hc0
      have hblt : a.block < w.heap.size := by simpa [Addr.add] using World.block_lt_of_cell? w _ hc0
      have hadd : ∀ k, a.add k = ⟨a.block, a.off + k, none⟩ := by
        intro k; rw [ha]; unfold Addr.add; by_cases hk : k = 0 <;> simp [hk]
      refine ⟨len, (List.range (len * fs.size)).map fun k => (w.cell? ⟨a.block, a.off + k, none⟩).getD undef, ⟨by simp, some a, cap, rfl, hl, hm, fun _ => ⟨a.block, a.off, by rw [← ha], hblt, fun j u hu => ?_⟩⟩, fun i hil j f hj => ?_⟩
      · simp only [List.getElem?_map] at hu
        have hjl : j < len * fs.size := by
          rcases Nat.lt_or_ge j (len * fs.size) with h0 | h0
          · exact h0
          · rw [List.getElem?_eq_none (by simpa using h0)] at hu; simp at hu
        rw [List.getElem?_range hjl] at hu
        simp only [Option.map_some, Option.some.injEq] at hu
        obtain ⟨u', _, _, hc', _⟩ := key (j / fs.size) ((Nat.div_lt_iff_lt_mul hfs).2 hjl) (j % fs.size) (fs[j % fs.size]'(Nat.mod_lt _ hfs)) (Array.getElem?_eq_getElem (Nat.mod_lt _ hfs))
        rw [Nat.mul_comm, Nat.div_add_mod, hadd] at hc'
        rw [hc'] at hu ⊢
        simpa using hu
      · obtain ⟨u, y, m', hc', hy⟩ := key i hil j f hj
        have hjl : j < fs.size := (Array.getElem?_eq_some_iff.1 hj).1
        have hlt : i * fs.size + j < len * fs.size := by
          have : (i + 1) * fs.size ≤ len * fs.size := Nat.mul_le_mul_right _ hil
          rw [Nat.succ_mul] at this; omega
        refine ⟨u, y, m', ?_, hy⟩
        rw [List.getElem?_map, List.getElem?_range hlt]
        rw [hadd] at hc'
        simp [hc']
    · refine ⟨len, [], ⟨by simp; omega, some a, cap, rfl, hl, hm, fun h => absurd h hz⟩, fun i hil j f hj => ?_⟩
      have hjl : j < fs.size := (Array.getElem?_eq_some_iff.1 hj).1
      exact absurd (Nat.mul_pos (by omega) (by omega)) hz
end
theorem toD {H : Type} {enc : TypeId × Value → H} {P : Program} {w : World} {base : Nat} {spare : Nat → Bool} {held : Bool} {t : TypeId} {v : Value} {f : Nat} {y : DataW H × List MemPlace} (hf : DataW.trod enc P w base spare held f t [v] = some y) : True := trivial
set_option maxRecDepth 100000 in
set_option maxHeartbeats 1000000 in
theorem open_parts_in {H : Type} {enc : TypeId × Value → H} {w : World} {base : Nat} {spare : Nat → Bool} {held : Bool} {v : Value} {f0 : Nat} {yy : DataW H × List MemPlace}
    (h : DataW.trod enc Try.prog w base spare held f0 22 [v] = some yy) : ∃ ps : List Pt, PtsAt w v ps := by
  obtain ⟨n, xs, hs, hx⟩ := open_structs_in Try.underlying22 Try.underlying52 (by kernel_rfl) (by kernel_rfl) h
  obtain ⟨l, hl, rfl, hg⟩ := flat_of Pt.cells 4 (fun _ => rfl) (Pt.Ok w) n xs hs.1 fun i hi => by
    obtain ⟨u0, y0, m0, e0, h0⟩ := hx i hi 0 _ rfl
    obtain ⟨u1, y1, m1, e1, h1⟩ := hx i hi 1 _ rfl
    obtain ⟨u2, y2, m2, e2, h2⟩ := hx i hi 2 _ rfl
    obtain ⟨u3, y3, m3, e3, h3⟩ := hx i hi 3 _ rfl
    obtain ⟨z0, q0, _, w0⟩ := DataW.trod_int Try.underlying3 h0
    obtain ⟨z1, q1, _, w1⟩ := DataW.trod_int Try.underlying3 h1
    obtain ⟨z2, q2, _, w2⟩ := DataW.trod_string Try.underlying9 h2
    obtain ⟨gn, gxs, hgs, hgx⟩ := open_ones_in (e := 3) Try.underlying25 (by kernel_rfl) h3
    obtain ⟨gl, hgl, rfl, hgw⟩ := flat_of (fun x : Int => [Value.int .i64 x]) 1 (fun _ => rfl) Wide64 gn gxs hgs.1 fun j hj => by
      obtain ⟨u, y, m, hu, hy⟩ := hgx j hj
      obtain ⟨z, hz, _, hzw⟩ := DataW.trod_int Try.underlying3 hy
      simp at hz
      refine ⟨z, wide64_of_wf hzw, fun jj hjj => ?_⟩
      obtain rfl : jj = 0 := by omega
      simp [hu, hz]
    subst hgl
    simp at q0 q1 q2
    subst q0; subst q1; subst q2
    refine ⟨⟨z0, z1, z2, u3, gl⟩, ⟨wide64_of_wf w0, wide64_of_wf w1, w2, by rw [show gvs gl = gl.flatMap fun x => [Value.int .i64 x] from map_one _ _]; exact hgs, hgw⟩, fun j hj => ?_⟩
    match j, hj with
    | 0, _ => exact e0
    | 1, _ => exact e1
    | 2, _ => exact e2
    | 3, _ => exact e3
  subst hl
  exact ⟨l, hs, hg⟩
structure A8 where
  op : Int
  ix : Int
  tm : Int
  fx : Int
  pv : Value
  ps : List Pt
def A8.cells (a : A8) : List Value := [.int .i64 a.op, .int .i64 a.ix, .int .i64 a.tm, .int .i64 a.fx, a.pv]
def A8.val (a : A8) : Value := .agg #[.int .i64 a.op, .int .i64 a.ix, .int .i64 a.tm, .int .i64 a.fx, a.pv]
structure A8.Ok (w : World) (a : A8) : Prop where
  op : Wide64 a.op
  ix : Wide64 a.ix
  tm : Wide64 a.tm
  fx : Wide64 a.fx
  ps : PtsAt w a.pv a.ps
theorem A8.Ok.only {w w' : World} {a : A8} (h : a.Ok w) (ho : Only [] w w') : a.Ok w' := ⟨h.op, h.ix, h.tm, h.fx, h.ps.only ho⟩
set_option maxRecDepth 100000 in
set_option maxHeartbeats 1000000 in
theorem open_acts8 {H : Type} {enc : TypeId × Value → H} {w : World} {base : Nat} {spare : Nat → Bool} {held : Bool} {r : Reach} {b0 : Nat} {v : Value} {d : DataW H} {p : List MemPlace}
    (hv : Value.okWide Try.prog w r b0 56 v) (h : DataW.Trod enc Try.prog w base spare held 56 v d p) :
    ∃ l : List A8, SlAt w w.heap.size v 5 l.length (l.flatMap A8.cells) ∧ ∀ a ∈ l, a.Ok w := by
  obtain ⟨n, xs, hs, hx⟩ := open_structs Try.underlying56 Try.underlying60 (by kernel_rfl) (by kernel_rfl) hv h
  obtain ⟨l, hl, rfl, hg⟩ := flat_of A8.cells 5 (fun _ => rfl) (A8.Ok w) n xs hs.1 fun i hi => by
    obtain ⟨u0, y0, m0, e0, h0⟩ := hx i hi 0 _ rfl
    obtain ⟨u1, y1, m1, e1, h1⟩ := hx i hi 1 _ rfl
    obtain ⟨u2, y2, m2, e2, h2⟩ := hx i hi 2 _ rfl
    obtain ⟨u3, y3, m3, e3, h3⟩ := hx i hi 3 _ rfl
    obtain ⟨u4, y4, m4, e4, h4⟩ := hx i hi 4 _ rfl
    obtain ⟨z0, q0, _, w0⟩ := DataW.trod_int Try.underlying3 h0
    obtain ⟨z1, q1, _, w1⟩ := DataW.trod_int Try.underlying3 h1
    obtain ⟨z2, q2, _, w2⟩ := DataW.trod_int Try.underlying3 h2
    obtain ⟨z3, q3, _, w3⟩ := DataW.trod_int Try.underlying3 h3
    obtain ⟨ps, hps⟩ := open_parts_in h4
    simp at q0 q1 q2 q3
    subst q0; subst q1; subst q2; subst q3
    refine ⟨⟨z0, z1, z2, z3, u4, ps⟩, ⟨wide64_of_wf w0, wide64_of_wf w1, wide64_of_wf w2, wide64_of_wf w3, hps⟩, fun j hj => ?_⟩
    match j, hj with
    | 0, _ => exact e0
    | 1, _ => exact e1
    | 2, _ => exact e2
    | 3, _ => exact e3
    | 4, _ => exact e4
  subst hl
  exact ⟨l, hs, hg⟩
set_option maxRecDepth 100000 in
theorem fixed8 (r : Nat) (vv ev : Value) (m : LG) (n : Int) (w : World) (h : RlV w r vv ev m) (hn : Wide64 n) :
    Calls Try.prog 66 #[.pointer (some ⟨r, 0, none⟩), .int .i64 n] w fun e w' => e = .returned (.int .i64 (m.b.ix + pickI n ((m.l.length : Int) + 1))) ∧ Only [] w w' := by
  obtain ⟨A, c, rfl, _, _⟩ := h.ents.shape
  have c0 := fun u : Since w => u.cell (h.cells.cell (k := 0) rfl)
  have c4 := fun u : Since w => u.cell (h.cells.cell (k := 4) rfl)
  have lo := h.lo
  have hi := h.hi
  have CP := Lib.hid (fun w' => pick8 n ((m.l.length : Int) + 1) w' hn (by omega) (by omega))
  have hp := pickI_lt n ((m.l.length : Int) + 1) (by omega)
  obtain ⟨q, hq⟩ : ∃ q, pickI n ((m.l.length : Int) + 1) = q := ⟨_, rfl⟩
  rw [hq] at CP hp ⊢
  obtain ⟨hp0, hp1⟩ := hp
  have sw1 : IntKind.i64.wrap ((m.l.length : Int) + 1) = (m.l.length : Int) + 1 := IntWalk.i64_in _ (by omega)
  have sw2 : IntKind.i64.wrap (m.b.ix + q) = m.b.ix + q := IntWalk.i64_in _ (by omega)
  clear h hq
  go_enter Try.func66, Try.ntmps66
  go_wp2_with fail
  refine wp_region_only w (Only.refl _ _) (by kernel_rfl) (by kernel_rfl) ?_
  repeat (go_big_quiet_step ((go_at_call 22; refine Calls.only_same (CP.out _))))
  refine wpQuiet_nil ?_
  rintro ⟨w2, ho2⟩
  dsimp only
  go_wp2_with fail
  go_ret
  exact ⟨rfl, ho2⟩
end Go.Proofs.Ytagklgodcbmcaaa
