/-
  A text with a byte more: string(append([]byte(s), c)).
-/
import Derived.ArgAppend
import Derived.Test.YtlonaniomnalnaaBuild
import Derived.Test.YtlonaniomnalnaaShown14
namespace Go.Proofs.Ytlonaniomnalnaa
open Go.RowKit

theorem u8_range {c : Int} (wc : (Lit.int .u8 c).wf = true) : 0 ≤ c ∧ c < 256 := by
  have h := wc
  simp only [Lit.wf, Bool.and_eq_true, decide_eq_true_eq] at h
  obtain ⟨h1, h2⟩ := h
  have e1 : IntKind.u8.min = 0 := by decide
  have e2 : IntKind.u8.max = 255 := by decide
  rw [e1] at h1; rw [e2] at h2
  omega
theorem u8_of (c : Int) (wc : (Lit.int .u8 c).wf = true) : ∃ b : UInt8, c = (b.toNat : Int) := by
  have h := u8_range wc
  exact ⟨UInt8.ofNat c.toNat, by rw [UInt8.toNat_ofNat']; omega⟩
theorem bytesRow_of (l : List UInt8) (cap : Nat) : bytesRow ⟨l.toArray⟩ cap = (bytes l ++ List.replicate (cap - l.length) (Value.int .u8 0)).toArray := by
  unfold bytesRow bytes
  apply Array.ext'
  simp [str_size]
/-- Block g is the row of bytes l, with room for cap of them. -/
def ByteRow (W : World) (g : Nat) (l : List UInt8) (cap : Nat) : Prop :=
  ∃ vs : List Value, vs.length = cap - l.length ∧ W.heap[g]? = some (.cells (bytes l ++ vs).toArray 5 ((bytes l ++ vs).length, (bytes l ++ vs).length + 1))
/-- []byte(s): its own row. -/
theorem conv_bytes (l : List UInt8) (w : World) : ∃ cap W0, l.length ≤ cap ∧ Hid (ByteRow W0 w.heap.size l cap) ∧ Hid (Only [] w W0) ∧
    (convert 9 27 (.string ⟨l.toArray⟩)).run Try.prog w = .ok (.slice (some ⟨w.heap.size, 0, none⟩) l.length cap) W0 := by
  have := run_bytes_of_string (P := Try.prog) w _ _ _ (⟨l.toArray⟩ : ByteArray) Try.underlying9 Try.underlying27 Try.underlying5
  rw [bytesRow_of, List.size_toArray] at this
  refine ⟨_, _, grownCap_ge _ _ _ _, ⟨_, ?_, World.alloc_heap_new w.drew _⟩, ((Only.refl [] w).drew).alloc _, this⟩
  simp [str_size]
theorem snoc_cells (l : List UInt8) (b : UInt8) (w : World) (A : Nat) (h : ∀ j u, (bytes (l ++ [b]))[j]? = some u → w.cell? ⟨A, j, none⟩ = some u) (cap : Nat) :
    (convert 27 9 (.slice (some ⟨A, 0, none⟩) (l.length + 1) cap)).run Try.prog w = .ok (.string ⟨(l ++ [b]).toArray⟩) w := by
  rw [show l.length + 1 = (l ++ [b]).length from by simp]
  refine run_convert_bytes_back _ _ _ _ _ _ (l ++ [b]) Try.underlying27 Try.underlying5 Try.underlying9 fun j hj => ?_
  have := h j (.int .u8 ((l ++ [b])[j].toNat : Int)) (by unfold bytes; rw [List.getElem?_map, List.getElem?_eq_getElem hj]; rfl)
  unfold Addr.add
  by_cases h : j = 0
  · subst h; simpa using this
  · simp only [h, if_false, Nat.zero_add]; exact this
set_option maxRecDepth 100000 in
theorem wpList_snoc {ops : Array Oper} {rest : List Oper} {o : Oper} {a : Act} {Q : Exit → Act → World → Prop}
    (hg : o.guard = none) (s x : Operand) (hop : o.op = Op.call { callee := Callee.builtin Builtin.append, args := #[s, x], argTypes := #[27, 27] })
    (w0 W0 : World) (l : List UInt8) (b : UInt8) (cap : Nat) (hl : l.length ≤ 100000) (hcap : l.length ≤ cap) (hrow : Hid (ByteRow W0 w0.heap.size l cap)) (hoW0 : Hid (Only [] w0 W0))
    (hs : a.eval s = .slice (some ⟨w0.heap.size, 0, none⟩) l.length cap) (hx : a.eval x = .slice (some ⟨W0.heap.size, 0, none⟩) 1 1)
    (hK : ∀ A cap' w', Only [] w0 w' → (convert 27 9 (.slice (some ⟨A, 0, none⟩) (l.length + 1) cap')).run Try.prog w' = .ok (.string ⟨(l ++ [b]).toArray⟩) w' →
      wpList Try.prog ops Q rest (a.put o.dst (.slice (some ⟨A, 0, none⟩) (l.length + 1) cap')) w') :
    wpList Try.prog ops Q (o :: rest) a (W0.alloc (.cells #[.int .u8 b.toNat] 5)) := by
  obtain ⟨vs, hvs, hh0⟩ := hrow.out
  obtain ⟨i0, hi0, hz0, hz1, hz2⟩ := info_parts info_byte
  have hbl := bytes_length l
  obtain ⟨W, hW⟩ : ∃ W, (W0.alloc (.cells #[.int .u8 b.toNat] 5)) = W := ⟨_, rfl⟩
  have hoW : Only [] w0 W := by rw [← hW]; exact hoW0.out.alloc _
  have hlt0 : w0.heap.size < W0.heap.size := (Array.getElem?_eq_some_iff.1 hh0).1
  have hh : W.heap[w0.heap.size]? = some (.cells (bytes l ++ vs).toArray 5 ((bytes l ++ vs).length, (bytes l ++ vs).length + 1)) := by
    rw [← hW]; exact (Below.heap_alloc _ _ _ hlt0).trans hh0
  have hsW : W.heap.size = W0.heap.size + 1 := by rw [← hW, World.size_alloc]
  have hcell : ∀ j u, (bytes l ++ vs)[j]? = some u → W.cell? ⟨w0.heap.size, j, none⟩ = some u := fun j u hu => by
    simp [World.cell?, hh]; simpa using hu
  have hlit : W.cell? ⟨W0.heap.size, 0, none⟩ = some (.int .u8 b.toNat) := by
    rw [← hW]
    exact (Cells.new W0 5 [.int .u8 (b.toNat : Int)]).cell (k := 0) rfl
  rw [hW]
  clear hW
  refine wpList_append_arg W hg s x 27 hop 5 i0 (.int .u8 0) 1 1 Try.underlying27 hi0 hz0 hz1 hz2 rfl (by decide) w0.heap.size 0 l.length cap (bytes l) hs (by omega)
    (fun j u hu => by rw [Nat.zero_add]; exact hcell j u (by rw [List.getElem?_append_left (List.getElem?_eq_some_iff.1 hu).1]; exact hu))
    ⟨W0.heap.size, 0, none⟩ 1 1 [.int .u8 b.toNat] hx rfl
    (fun j u hu => by
      have hj : j = 0 := by have := (List.getElem?_eq_some_iff.1 hu).1; simpa using this
      subst hj
      obtain rfl : Value.int .u8 (b.toNat : Int) = u := by simpa using hu
      exact hlit)
    (by simp [Value.oneCell'])
    (fun hroom j hj => by
      have hj : j = 0 := by simpa using hj
      subst hj
      have hlt : l.length < (bytes l ++ vs).length := by rw [List.length_append]; omega
      constructor
      · rw [show 0 + l.length * 1 + 0 = l.length from by omega, hcell l.length _ (List.getElem?_eq_getElem hlt)]; rfl
      · simp only [World.frozen?, hh]; simp; omega)
    (by simp only [maxLen]; omega) (by omega) ?_ ?_
  · intro hroom
    have hlt : l.length < (bytes l ++ vs).length := by rw [List.length_append]; omega
    refine hK w0.heap.size cap _ ?_ (snoc_cells l b _ _ (fun j u hu => ?_) cap)
    · exact hoW.setCell (.inr (Nat.le_refl _)) _
    · rw [bytes_append] at hu
      rw [show 0 + l.length * 1 = l.length from by omega]
      show (W.setCell ⟨w0.heap.size, l.length, none⟩ _).cell? _ = _
      by_cases hj : j < l.length
      · rw [List.getElem?_append_left (by omega)] at hu
        rw [World.cell?_setCell_other _ _ _ _ (by intro e; injection e with _ h; omega)]
        exact hcell j u (by rw [List.getElem?_append_left (by omega)]; exact hu)
      · have hje : j = l.length := by
          have := (List.getElem?_eq_some_iff.1 hu).1
          rw [List.length_append, hbl] at this
          have e1 : (bytes [b]).length = 1 := rfl
          omega
        subst hje
        rw [List.getElem?_append_right (by omega), hbl, Nat.sub_self] at hu
        obtain rfl : Value.int .u8 (b.toNat : Int) = u := by simpa [bytes] using hu
        exact World.cell?_setCell_same' _ _ _ (by rw [hcell l.length _ (List.getElem?_eq_getElem hlt)]; rfl)
  · intro hfull v' w' hown hgrow
    rcases hown.2 with ⟨_, h0⟩ | ⟨g, cap', cur, rfl, _⟩
    · omega
    refine hK g cap' w' (hoW.grown hgrow (fun g e => by cases e)) (snoc_cells l b _ _ (fun j u hu => ?_) cap')
    have := hown.cells (g := g) rfl j u (by rw [bytes_append] at hu; exact hu)
    unfold Addr.add at this
    by_cases h : j = 0
    · subst h; simpa using this
    · simp only [h, if_false, Nat.zero_add] at this; exact this
end Go.Proofs.Ytlonaniomnalnaa
