/-
  A text's bytes as a row of their own, one of them stored anew, and back.
-/
import Derived.Laws.IdiomStrings
import Derived.Test.YtjfnkjpnjiobjaaC18x
namespace Go.Proofs.Ytjfnkjpnjiobjaa
open Go.RowKit
/-- A block known whole, that bears the run-time's mark behind its cells. -/
def CellsZ (w : World) (b : Nat) (t : TypeId) (cs : List Value) : Prop := w.heap[b]? = some (.cells cs.toArray t (cs.length, cs.length + 1))
theorem CellsZ.lt {w : World} {b : Nat} {t : TypeId} {cs : List Value} (h : CellsZ w b t cs) : b < w.heap.size := by
  rcases Nat.lt_or_ge b w.heap.size with hlt | hge
  · exact hlt
  · unfold CellsZ at h; rw [Array.getElem?_eq_none hge] at h; cases h
theorem CellsZ.cell {w : World} {b : Nat} {t : TypeId} {cs : List Value} (h : CellsZ w b t cs) {k : Nat} {v : Value} (hv : cs[k]? = some v) : w.cell? ⟨b, k, none⟩ = some v := by
  have := cell_of_row w b k cs.toArray t _ h
  rw [this]; simpa using hv
theorem CellsZ.frozen {w : World} {b : Nat} {t : TypeId} {cs : List Value} (h : CellsZ w b t cs) (k : Nat) (hk : k < cs.length) : w.frozen? ⟨b, k, none⟩ = false := by
  unfold CellsZ at h
  simp [World.frozen?, h]
  omega
theorem CellsZ.set {w : World} {b : Nat} {t : TypeId} {cs : List Value} (h : CellsZ w b t cs) (i : Nat) (u : Value) : CellsZ (w.setCell ⟨b, i, none⟩ u) b t (cs.set i u) := by
  unfold CellsZ at h ⊢
  simp [World.setCell, Array.getElem?_modify, h]
theorem bytesRow_list (l : List UInt8) (cap : Nat) : bytesRow ⟨l.toArray⟩ cap = (bytes l ++ List.replicate (cap - l.length) (Value.int .u8 0)).toArray := by
  unfold bytesRow bytes
  apply Array.ext'
  simp [str_size]
theorem conv_row (f : List UInt8) (w : World) : ∃ cap zs W0, f.length ≤ cap ∧ CellsZ W0 w.heap.size 5 (bytes f ++ zs) ∧ Only [] w W0 ∧
    (convert 9 106 (.string ⟨f.toArray⟩)).run Try.prog w = .ok (.slice (some ⟨w.heap.size, 0, none⟩) f.length cap) W0 := by
  have := run_bytes_of_string (P := Try.prog) w _ _ _ (⟨f.toArray⟩ : ByteArray) Try.underlying9 Try.underlying106 Try.underlying5
  rw [bytesRow_list, List.size_toArray] at this
  exact ⟨_, _, _, grownCap_ge _ _ _ _, heap_alloc_new w.drew _, ((Only.refl [] w).drew).alloc _, this⟩
theorem conv_back (x : List UInt8) (zs : List Value) (g : Nat) (cap : Nat) (w : World) (h : CellsZ w g 5 (bytes x ++ zs)) :
    (convert 106 9 (.slice (some ⟨g, 0, none⟩) x.length cap)).run Try.prog w = .ok (.string ⟨x.toArray⟩) w := by
  refine run_convert_bytes_back _ _ _ _ _ _ x Try.underlying106 Try.underlying5 Try.underlying9 fun i hi => ?_
  have := h.cell (k := i) (v := .int .u8 (x[i].toNat : Int)) (by rw [List.getElem?_append_left (by rw [bytes_length]; exact hi)]; simp [bytes, List.getElem?_eq_getElem hi])
  unfold Addr.add
  by_cases h : i = 0
  · subst h; simpa using this
  · simp only [h, if_false, Nat.zero_add]; exact this
end Go.Proofs.Ytjfnkjpnjiobjaa
