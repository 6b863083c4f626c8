/-
  What comes in: a slice reads as a list of values; a slice of structs as a list of things.
-/
import Derived.Test.YtjfnkjpnjiobjaaBase
import Derived.ProofKit
import Derived.OpenShut
import Derived.ShutString
import Derived.ChangeOld
import Derived.Deep.Slices
import Derived.Deep.Fields
import Derived.ChangeSame
namespace Go.Proofs.Ytjfnkjpnjiobjaa
open Go.RowKit Go.ChangeShapes Go.WideShapes Go.Deep

/-- The slice value v has n elements of sz cells each, these cells; it lies below block B. -/
def SlAt (w : World) (B : Nat) (v : Value) (sz n : Nat) (xs : List Value) : Prop :=
  xs.length = n * sz ∧ ∃ A c, v = .slice A n c ∧ n ≤ c ∧ c ≤ maxLen ∧ (0 < n * sz → ∃ b o, A = some ⟨b, o, none⟩ ∧ b < B ∧ ∀ j u, xs[j]? = some u → w.cell? ⟨b, o + j, none⟩ = some u)

theorem SlAt.only {S : List Nat} {w w' : World} {B sz n : Nat} {v : Value} {xs : List Value} (h : SlAt w B v sz n xs) (ho : Only S w w') (hB : B ≤ w.heap.size) (hS : ∀ x, x ∈ S → B ≤ x) : SlAt w' B v sz n xs := by
  obtain ⟨hl, A, c, hv, hnc, hc, h⟩ := h
  refine ⟨hl, A, c, hv, hnc, hc, fun hn => ?_⟩
  obtain ⟨b, o, hA, hb, hh⟩ := h hn
  exact ⟨b, o, hA, hb, fun j u hu => (ho.cell (p := ⟨b, o + j, none⟩) (show b < _ by omega) (fun hm => by have := hS b hm; omega)).trans (hh j u hu)⟩
theorem SlAt.more {w : World} {B B' sz n : Nat} {v : Value} {xs : List Value} (h : SlAt w B v sz n xs) (hB : B ≤ B') : SlAt w B' v sz n xs := by
  obtain ⟨hl, A, c, hv, hnc, hc, h⟩ := h
  refine ⟨hl, A, c, hv, hnc, hc, fun hn => ?_⟩
  obtain ⟨b, o, hA, hb, hh⟩ := h hn
  exact ⟨b, o, hA, by omega, hh⟩
theorem SlAt.shape {w : World} {B sz n : Nat} {v : Value} {xs : List Value} (h : SlAt w B v sz n xs) : ∃ A c, v = .slice A n c := by
  obtain ⟨_, A, c, hv, _⟩ := h; exact ⟨A, c, hv⟩
theorem SlAt.at_ {w : World} {B sz n : Nat} {v : Value} {xs : List Value} (h : SlAt w B v sz n xs) (hn : 0 < n * sz) :
    ∃ b o c, v = .slice (some ⟨b, o, none⟩) n c ∧ b < B ∧ ∀ j u, xs[j]? = some u → w.cell? ⟨b, o + j, none⟩ = some u := by
  obtain ⟨_, A, c, hv, _, _, h⟩ := h
  obtain ⟨b, o, rfl, hb, hh⟩ := h hn
  exact ⟨b, o, c, hv, hb, hh⟩
theorem SlAt.of_own {w : World} {base : Nat} {e : TypeId} {sz n : Nat} {v : Value} {xs : List Value} (h : w.ownsRow base e sz v n xs) : SlAt w w.heap.size v sz n xs := by
  obtain ⟨hl, h⟩ := h
  refine ⟨hl, ?_⟩
  rcases h with ⟨rfl, rfl⟩ | ⟨g, cap, cur, hv, hb, hh, hnc, hcm, hsz, hxs⟩
  · exact ⟨none, 0, rfl, by omega, by simp [maxLen], fun hn => by simp at hn⟩
  · refine ⟨some ⟨g, 0, none⟩, cap, hv, hnc, hcm, fun hn => ⟨g, 0, rfl, ?_, fun j u hu => ?_⟩⟩
    · rcases Nat.lt_or_ge g w.heap.size with hlt | hge
      · exact hlt
      · rw [Array.getElem?_eq_none hge] at hh; cases hh
    · have hj : j < xs.length := (List.getElem?_eq_some_iff.1 hu).1
      rw [Nat.zero_add, cell_of_row w g j cur e (0, 0) hh, ← hu, ← hxs, List.getElem?_take_of_lt (by omega)]
      simp

theorem map_one {α : Type} (f : α → Value) (l : List α) : l.map f = l.flatMap fun x => [f x] := by
  induction l with
  | nil => rfl
  | cons x l ih => rw [List.map_cons, List.flatMap_cons, ih]; rfl
/-- A list out of its members. -/
theorem list_of {α : Type} (p : Nat → α → Prop) : ∀ n : Nat, (∀ i, i < n → ∃ x, p i x) → ∃ l : List α, l.length = n ∧ ∀ (i : Nat) (x : α), l[i]? = some x → p i x
  | 0, _ => ⟨[], rfl, fun i x h => by simp at h⟩
  | n + 1, h => by
    obtain ⟨l, hl, hp⟩ := list_of p n fun i hi => h i (by omega)
    obtain ⟨x, hx⟩ := h n (by omega)
    refine ⟨l ++ [x], by simp [hl], fun i y hy => ?_⟩
    by_cases hi : i < l.length
    · rw [List.getElem?_append_left hi] at hy; exact hp i y hy
    · rw [List.getElem?_append_right (by omega)] at hy
      by_cases h0 : i - l.length = 0
      · rw [h0] at hy; simp at hy; subst hy
        rw [show i = n from by omega]; exact hx
      · simp [h0] at hy
/-- Cells that read as structs, one by one, are the cells of a list. -/
theorem flat_of {α : Type} (f : α → List Value) (sz : Nat) (hf : ∀ x, (f x).length = sz) (good : α → Prop) (n : Nat) (xs : List Value) (hl : xs.length = n * sz)
    (h : ∀ i, i < n → ∃ x : α, good x ∧ ∀ j, j < sz → xs[i * sz + j]? = (f x)[j]?) : ∃ l : List α, l.length = n ∧ xs = l.flatMap f ∧ ∀ x ∈ l, good x := by
  obtain ⟨l, hln, hp⟩ := list_of (fun i x => good x ∧ ∀ j, j < sz → xs[i * sz + j]? = (f x)[j]?) n h
  refine ⟨l, hln, ?_, fun x hx => ?_⟩
  · apply List.ext_getElem?
    intro k
    by_cases hk : k < n * sz
    · have hsz : 0 < sz := by rcases Nat.eq_zero_or_pos sz with h0 | h0; · simp [h0] at hk
                              · exact h0
      have hi : k / sz < n := by rw [Nat.div_lt_iff_lt_mul hsz]; exact hk
      have hx : l[k / sz]? = some l[k / sz] := List.getElem?_eq_getElem (by omega)
      have hk2 : k = k / sz * sz + k % sz := by rw [Nat.mul_comm]; exact (Nat.div_add_mod k sz).symm
      rw [hk2, (hp _ _ hx).2 _ (Nat.mod_lt _ hsz), flat_get f sz hf l _ _ _ hx (Nat.mod_lt _ hsz)]
    · rw [List.getElem?_eq_none (by omega), List.getElem?_eq_none (by rw [flat_length f sz hf, hln]; omega)]
  · obtain ⟨i, hi⟩ := List.getElem?_of_mem hx
    exact (hp i x hi).1

section
variable {H : Type} {enc : TypeId × Value → H} {P : Program} {w : World} {base : Nat} {spare : Nat → Bool} {held : Bool}
theorem cell_spot {w : World} {a : Addr} {v : Value} (h : w.cell? a = some v) : a = ⟨a.block, a.off, none⟩ := by
  have := World.cell?_spot h
  cases a; simp_all
/-- A slice of structs whose fields are one cell each. -/
theorem open_structs {r : Reach} {b0 : Nat} {t e : TypeId} {fs : Array Field} {v : Value} {d : DataW H} {p : List MemPlace} (ht : P.underlying t = some (.slice e)) (he : P.underlying e = some (.struct fs))
    (hone : oneCellFields P fs = true) (hC : P.cellsOf e = fs.size) (hv : Value.okWide P w r b0 t v) (h : DataW.Trod enc P w base spare held t v d p) :
    ∃ n xs, SlAt w w.heap.size v fs.size n xs ∧ ∀ i, i < n → ∀ (j : Nat) (f : Field), fs[j]? = some f → ∃ u y m, xs[i * fs.size + j]? = some u ∧ DataW.trod enc P w base spare held m f.type [u] = some y := by
  obtain ⟨a0, len, cap, rfl⟩ := okWide_slice ht hv
  obtain ⟨fuel, hf⟩ := h
  simp only [Value.cells] at hf
  rcases open_slice ht hf with ⟨hcs, _⟩ | ⟨a, len', cap', m, n, D, Pl, hcs, hb, hl, hm, hmm, hx, hi⟩
  · simp at hcs
    obtain ⟨rfl, rfl, rfl⟩ := hcs
    exact ⟨0, [], ⟨by simp, none, 0, rfl, by omega, by simp [maxLen], fun h => by simp at h⟩, fun i hi => by omega⟩
  · simp at hcs
    obtain ⟨rfl, rfl, rfl⟩ := hcs
    have hlm : len ≤ m := by rw [hmm]; split <;> omega
    have key : ∀ i, i < len → ∀ (j : Nat) (f : Field), fs[j]? = some f → ∃ u y m, w.cell? (a.add (i * fs.size + j)) = some u ∧ DataW.trod enc P w base spare held m f.type [u] = some y := by
      intro i hil j f hj
      obtain ⟨cs', hc, ht'⟩ := hi i (by omega)
      rw [hC] at hc
      obtain ⟨ys, n', hn', hy, hlen, hyl, hf'⟩ := DataW.trod_struct he ht'
      obtain ⟨_, hcl, hat⟩ := World.cells?_some hc
      obtain ⟨ho, hk⟩ := hone_of hone j f hj
      have hjl : j < fs.size := (Array.getElem?_eq_some_iff.1 hj).1
      have hcell := hat j hjl
      have hv : cs'[j]? = some (cs'[j]'(by omega)) := List.getElem?_eq_getElem (by omega)
      have h1 := hf' j f hj
      rw [ho, hk] at h1
      have hone' : (cs'.drop j).take 1 = [cs'[j]'(by omega)] := by
        rw [List.drop_eq_getElem_cons (by omega)]
        rfl
      rw [hone'] at h1
      have hys : ys[j]? = some (ys[j]'(by omega)) := List.getElem?_eq_getElem (by omega)
      refine ⟨cs'[j]'(by omega), _, _, ?_, h1.trans hys⟩
      rw [← Go.Deep.add_add, hcell, hv]
    by_cases hz : 0 < len * fs.size
    · have hfs : 0 < fs.size := by rcases Nat.eq_zero_or_pos fs.size with h0 | h0; · simp [h0] at hz
                                   · exact h0
      have hlen : 0 < len := by rcases Nat.eq_zero_or_pos len with h0 | h0; · simp [h0] at hz
                                · exact h0
      obtain ⟨u0, _, _, hc0, _⟩ := key 0 hlen 0 fs[0] (Array.getElem?_eq_getElem hfs)
      have ha : a = ⟨a.block, a.off, none⟩ := by simpa [Addr.add] using cell_spot hc0
      have hblt : a.block < w.heap.size := by simpa [Addr.add] using World.block_lt_of_cell? w _ hc0
      have hadd : ∀ k, a.add k = ⟨a.block, a.off + k, none⟩ := by
        intro k; rw [ha]; unfold Addr.add; by_cases hk : k = 0 <;> simp [hk]
      refine ⟨len, (List.range (len * fs.size)).map fun k => (w.cell? ⟨a.block, a.off + k, none⟩).getD undef, ⟨by simp, some a, cap, rfl, hl, hm, fun _ => ⟨a.block, a.off, by rw [← ha], hblt, fun j u hu => ?_⟩⟩, fun i hil j f hj => ?_⟩
      · simp only [List.getElem?_map] at hu
        have hjl : j < len * fs.size := by
          rcases Nat.lt_or_ge j (len * fs.size) with h0 | h0
          · exact h0
          · rw [List.getElem?_eq_none (by simpa using h0)] at hu; simp at hu
        rw [List.getElem?_range hjl] at hu
        simp only [Option.map_some, Option.some.injEq] at hu
        obtain ⟨u', _, _, hc', _⟩ := key (j / fs.size) ((Nat.div_lt_iff_lt_mul hfs).2 hjl) (j % fs.size) (fs[j % fs.size]'(Nat.mod_lt _ hfs)) (Array.getElem?_eq_getElem (Nat.mod_lt _ hfs))
        rw [Nat.mul_comm, Nat.div_add_mod, hadd] at hc'
        rw [hc'] at hu ⊢
        simpa using hu
      · obtain ⟨u, y, m', hc', hy⟩ := key i hil j f hj
        have hjl : j < fs.size := (Array.getElem?_eq_some_iff.1 hj).1
        have hlt : i * fs.size + j < len * fs.size := by
          have : (i + 1) * fs.size ≤ len * fs.size := Nat.mul_le_mul_right _ hil
          rw [Nat.succ_mul] at this; omega
        refine ⟨u, y, m', ?_, hy⟩
        rw [List.getElem?_map, List.getElem?_range hlt]
        rw [hadd] at hc'
        simp [hc']
    · refine ⟨len, [], ⟨by simp; omega, some a, cap, rfl, hl, hm, fun h => absurd h hz⟩, fun i hil j f hj => ?_⟩
      have hjl : j < fs.size := (Array.getElem?_eq_some_iff.1 hj).1
      exact absurd (Nat.mul_pos (by omega) (by omega)) hz
/-- A slice whose elements are one cell each. -/
theorem open_ones {r : Reach} {b0 : Nat} {t e : TypeId} {v : Value} {d : DataW H} {p : List MemPlace} (ht : P.underlying t = some (.slice e)) (hC : P.cellsOf e = 1)
    (hv : Value.okWide P w r b0 t v) (h : DataW.Trod enc P w base spare held t v d p) :
    ∃ n xs, SlAt w w.heap.size v 1 n xs ∧ ∀ i, i < n → ∃ u y m, xs[i]? = some u ∧ DataW.trod enc P w base spare held m e [u] = some y := by
  obtain ⟨a0, len, cap, rfl⟩ := okWide_slice ht hv
  obtain ⟨fuel, hf⟩ := h
  simp only [Value.cells] at hf
  rcases open_slice ht hf with ⟨hcs, _⟩ | ⟨a, len', cap', m, n, D, Pl, hcs, hb, hl, hm, hmm, hx, hi⟩
  · simp at hcs
    obtain ⟨rfl, rfl, rfl⟩ := hcs
    exact ⟨0, [], ⟨by simp, none, 0, rfl, by omega, by simp [maxLen], fun h => by simp at h⟩, fun i hi => by omega⟩
  · simp at hcs
    obtain ⟨rfl, rfl, rfl⟩ := hcs
    have hlm : len ≤ m := by rw [hmm]; split <;> omega
    have key : ∀ i, i < len → ∃ u y m, w.cell? (a.add i) = some u ∧ DataW.trod enc P w base spare held m e [u] = some y := by
      intro i hil
      obtain ⟨cs', hc, ht'⟩ := hi i (by omega)
      rw [hC, Nat.mul_one] at hc
      obtain ⟨_, hcl, hat⟩ := World.cells?_some hc
      have hcell := hat 0 (by omega)
      match cs', hcl with
      | [u], _ => exact ⟨u, _, _, by simpa [Addr.add] using hcell, ht'⟩
    by_cases hz : 0 < len
    · obtain ⟨u0, _, _, hc0, _⟩ := key 0 hz
      have ha : a = ⟨a.block, a.off, none⟩ := by simpa [Addr.add] using cell_spot hc0
      have hblt : a.block < w.heap.size := by simpa [Addr.add] using World.block_lt_of_cell? w _ hc0
      have hadd : ∀ k, a.add k = ⟨a.block, a.off + k, none⟩ := by
        intro k; rw [ha]; unfold Addr.add; by_cases hk : k = 0 <;> simp [hk]
      refine ⟨len, (List.range len).map fun k => (w.cell? ⟨a.block, a.off + k, none⟩).getD undef, ⟨by simp, some a, cap, rfl, hl, hm, fun _ => ⟨a.block, a.off, by rw [← ha], hblt, fun j u hu => ?_⟩⟩, fun i hil => ?_⟩
      · simp only [List.getElem?_map] at hu
        have hjl : j < len := by
          rcases Nat.lt_or_ge j len with h0 | h0
          · exact h0
          · rw [List.getElem?_eq_none (by simpa using h0)] at hu; simp at hu
        rw [List.getElem?_range hjl] at hu
        simp only [Option.map_some, Option.some.injEq] at hu
        obtain ⟨u', _, _, hc', _⟩ := key j hjl
        rw [hadd] at hc'
        rw [hc'] at hu ⊢
        simpa using hu
      · obtain ⟨u, y, m', hc', hy⟩ := key i hil
        refine ⟨u, y, m', ?_, hy⟩
        rw [List.getElem?_map, List.getElem?_range hil]
        rw [hadd] at hc'
        simp [hc']
    · exact ⟨len, [], ⟨by simp; omega, some a, cap, rfl, hl, hm, fun h => by omega⟩, fun i hil => by omega⟩
/-- A slice of ints. -/
theorem open_intlist {r : Reach} {b0 : Nat} {t e : TypeId} {k : IntKind} {v : Value} {d : DataW H} {p : List MemPlace} (ht : P.underlying t = some (.slice e)) (he : P.underlying e = some (.int k)) (hC : P.cellsOf e = 1)
    (hv : Value.okWide P w r b0 t v) (h : DataW.Trod enc P w base spare held t v d p) :
    ∃ l : List Int, SlAt w w.heap.size v 1 l.length (l.map (Value.int k)) ∧ ∀ x ∈ l, (Lit.int k x).wf = true := by
  obtain ⟨n, xs, hs, hx⟩ := open_ones ht hC hv h
  obtain ⟨l, hl, rfl, hg⟩ := flat_of (fun x : Int => [Value.int k x]) 1 (fun _ => rfl) (fun x => (Lit.int k x).wf = true) n xs hs.1 fun i hi => by
    obtain ⟨u, y, m, hu, hy⟩ := hx i hi
    obtain ⟨z, hz, _, hw⟩ := DataW.trod_int he hy
    simp at hz
    refine ⟨z, hw, fun j hj => ?_⟩
    obtain rfl : j = 0 := by omega
    simp [hu, hz]
  subst hl
  refine ⟨l, ?_, hg⟩
  rw [map_one]
  exact hs
/-- A slice of strings. -/
theorem open_strlist {r : Reach} {b0 : Nat} {t e : TypeId} {v : Value} {d : DataW H} {p : List MemPlace} (ht : P.underlying t = some (.slice e)) (he : P.underlying e = some .string) (hC : P.cellsOf e = 1)
    (hv : Value.okWide P w r b0 t v) (h : DataW.Trod enc P w base spare held t v d p) :
    ∃ l : List ByteArray, SlAt w w.heap.size v 1 l.length (l.map Value.string) ∧ ∀ x ∈ l, x.size ≤ maxLen := by
  obtain ⟨n, xs, hs, hx⟩ := open_ones ht hC hv h
  obtain ⟨l, hl, rfl, hg⟩ := flat_of (fun x : ByteArray => [Value.string x]) 1 (fun _ => rfl) (fun x => x.size ≤ maxLen) n xs hs.1 fun i hi => by
    obtain ⟨u, y, m, hu, hy⟩ := hx i hi
    obtain ⟨z, hz, _, hw⟩ := DataW.trod_string he hy
    simp at hz
    refine ⟨z, hw, fun j hj => ?_⟩
    obtain rfl : j = 0 := by omega
    simp [hu, hz]
  subst hl
  refine ⟨l, ?_, hg⟩
  rw [map_one]
  exact hs
end
end Go.Proofs.Ytjfnkjpnjiobjaa
