/-
  Whole structs: a result's cell, a row that is stored whole.
-/
import Derived.Test.YtjfnkjpnjiobjaaBase
import Derived.Laws.Tables
import Derived.Laws.Rows
namespace Go.Proofs.Ytjfnkjpnjiobjaa
open Go.RowKit
theorem Cells.setRow {w : World} {b : Nat} {t : TypeId} {cs : List Value} (h : Cells w b t cs) (new : List Value) : Cells (w.setRow b new.toArray) b t new := setRow_heap w b _ _ t _ h
theorem Only.setRow {S : List Nat} {a w : World} (h : Only S a w) {b : Nat} (hb : b ∈ S ∨ a.heap.size ≤ b) (new : Array Value) : Only S a (w.setRow b new) := by
  refine ⟨h.os, h.tape, h.output, ?_, fun i hi hn => ?_⟩
  · unfold World.setRow; simpa using h.size
  · have hne : i ≠ b := by
      rintro rfl
      rcases hb with hb | hb
      · exact hn hb
      · omega
    refine Eq.trans ?_ (h.block i hi hn)
    unfold World.setRow
    simp [Array.getElem?_modify, Ne.symm hne]
theorem Cells.farRow {w : World} {b q : Nat} {t : TypeId} {cs : List Value} (h : Cells w b t cs) (hne : b ≠ q) (new : Array Value) : Cells (w.setRow q new) b t cs := by
  unfold Cells at h ⊢
  refine Eq.trans ?_ h
  unfold World.setRow
  simp [Array.getElem?_modify, Ne.symm hne]
theorem results_row_tmp {P : Program} {fn : Func} {p u : Tmp} {ty : TypeId} (h : fn.results = #[.cell p ty, .tmp u]) (tmps : Array Value) (w : World) (g : Nat) (t : TypeId) (cs : List Value) (d : TypeDesc)
    (hp : tmps.getD p undef = .pointer (some ⟨g, 0, none⟩)) (hg : Cells w g t cs)
    (hu : P.underlying ty = some d) (hd : (match d with | .struct _ | .array _ _ => true | _ => false) = true) (hi : (P.info? ty).map (·.size) = some cs.length) :
    (results fn tmps).run P w = .ok (.tuple #[.agg cs.toArray, tmps.getD u undef]) w := by
  have hp' : tmps[p]?.getD undef = .pointer (some ⟨g, 0, none⟩) := by simpa using hp
  simp [results, h, hp', asAddr, run_loadVar_row w g t ty cs.toArray (0, 0) d hg hu hd (by simpa using hi), Result.andThen]
theorem results_row {P : Program} {fn : Func} {p : Tmp} {ty : TypeId} (h : fn.results = #[.cell p ty]) (tmps : Array Value) (w : World) (g : Nat) (t : TypeId) (cs : List Value) (d : TypeDesc)
    (hp : tmps.getD p undef = .pointer (some ⟨g, 0, none⟩)) (hg : Cells w g t cs)
    (hu : P.underlying ty = some d) (hd : (match d with | .struct _ | .array _ _ => true | _ => false) = true) (hi : (P.info? ty).map (·.size) = some cs.length) :
    (results fn tmps).run P w = .ok (.agg cs.toArray) w :=
  results_cell_row h tmps w g t cs.toArray (0, 0) d hp hg hu hd (by simpa using hi)
end Go.Proofs.Ytjfnkjpnjiobjaa
