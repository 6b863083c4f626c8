/-
  Items and posts, and rows of them.
-/
import Derived.Test.YtjfnkjpnjiobjaaFeed17
import Derived.Test.YtjfnkjpnjiobjaaGen
namespace Go.Proofs.Ytjfnkjpnjiobjaa
open Go.RowKit
structure Po where
  sq : Int
  it : It
  rd : Bool
def Po.cells (x : Po) : List Value := [.int .i64 x.sq, .string ⟨x.it.id.toArray⟩, .string ⟨x.it.ti.toArray⟩, .string ⟨x.it.li.toArray⟩, .bool x.rd]
def poL (l : List Po) : List Value := l.flatMap Po.cells
theorem poL_length (l : List Po) : (poL l).length = l.length * 5 := by
  induction l with
  | nil => rfl
  | cons x r ih => simp [poL, List.flatMap_cons, Po.cells] at ih ⊢; omega
theorem poL_append (l r : List Po) : poL (l ++ r) = poL l ++ poL r := by unfold poL; rw [List.flatMap_append]
theorem poL_get (l : List Po) (i j : Nat) (x : Po) (h : l[i]? = some x) (hj : j < 5) : (poL l)[i * 5 + j]? = x.cells[j]? := flat_get Po.cells 5 (fun _ => rfl) l i j x h hj
theorem poL_one (l : List Po) : ∀ u ∈ poL l, u.oneCell' = true := by
  intro u hu
  obtain ⟨x, _, hx⟩ := List.mem_flatMap.1 hu
  simp only [Po.cells, List.mem_cons, List.not_mem_nil, or_false] at hx
  rcases hx with rfl | rfl | rfl | rfl | rfl <;> rfl
theorem info_post : (Try.prog.info? 38).map (fun i => (i.zero, i.size, i.bytes)) = some (some (.agg #[.int .i64 0, .string ⟨#[]⟩, .string ⟨#[]⟩, .string ⟨#[]⟩, .bool false]), 5, 64) := by kernel_rfl
def itL (l : List It) : List Value := l.flatMap It.cells
theorem itL_get (l : List It) (i j : Nat) (x : It) (h : l[i]? = some x) (hj : j < 3) : (itL l)[i * 3 + j]? = x.cells[j]? := flat_get It.cells 3 (fun _ => rfl) l i j x h hj
theorem itL_at {w : World} {B : Nat} {v : Value} {l : List It} (h : SlAt w B v 3 l.length (itL l)) {k : Nat} {x : It} (hk : l[k]? = some x) :
    ∃ b o c, v = .slice (some ⟨b, o, none⟩) l.length c ∧ w.cell? ⟨b, o + k * 3, none⟩ = some (.string ⟨x.id.toArray⟩) ∧ w.cell? ⟨b, o + k * 3 + 1, none⟩ = some (.string ⟨x.ti.toArray⟩) ∧ w.cell? ⟨b, o + k * 3 + 2, none⟩ = some (.string ⟨x.li.toArray⟩) := by
  have hlt : k < l.length := (List.getElem?_eq_some_iff.1 hk).1
  obtain ⟨b, o, c, hv, _, hc⟩ := h.at_ (by omega)
  exact ⟨b, o, c, hv, hc (k * 3 + 0) _ (itL_get l k 0 x hk (by omega)), hc (k * 3 + 1) _ (itL_get l k 1 x hk (by omega)), hc (k * 3 + 2) _ (itL_get l k 2 x hk (by omega))⟩
theorem sl_len {w : World} {B sz n : Nat} {v : Value} {xs : List Value} (h : SlAt w B v sz n xs) : n ≤ maxLen := by
  obtain ⟨_, _, _, _, h1, h2, _⟩ := h
  omega
theorem poL_at {w : World} {B n : Nat} {v : Value} {l : List Po} (h : SlAt w B v 5 n (poL l)) (hn : l.length = n) {k : Nat} {x : Po} (hk : l[k]? = some x) :
    ∃ b o c, v = .slice (some ⟨b, o, none⟩) n c ∧ w.cell? ⟨b, o + k * 5, none⟩ = some (.int .i64 x.sq) ∧ w.cell? ⟨b, o + k * 5 + 1, none⟩ = some (.string ⟨x.it.id.toArray⟩) ∧ w.cell? ⟨b, o + k * 5 + 2, none⟩ = some (.string ⟨x.it.ti.toArray⟩) ∧ w.cell? ⟨b, o + k * 5 + 3, none⟩ = some (.string ⟨x.it.li.toArray⟩) ∧ w.cell? ⟨b, o + k * 5 + 4, none⟩ = some (.bool x.rd) := by
  have hlt : k < l.length := (List.getElem?_eq_some_iff.1 hk).1
  subst hn
  obtain ⟨b, o, c, hv, _, hc⟩ := h.at_ (by omega)
  exact ⟨b, o, c, hv, hc (k * 5 + 0) _ (poL_get l k 0 x hk (by omega)), hc (k * 5 + 1) _ (poL_get l k 1 x hk (by omega)), hc (k * 5 + 2) _ (poL_get l k 2 x hk (by omega)), hc (k * 5 + 3) _ (poL_get l k 3 x hk (by omega)), hc (k * 5 + 4) _ (poL_get l k 4 x hk (by omega))⟩
end Go.Proofs.Ytjfnkjpnjiobjaa
