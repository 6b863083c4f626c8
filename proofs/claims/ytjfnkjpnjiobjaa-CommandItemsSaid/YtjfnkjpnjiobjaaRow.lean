/-
  Rows of structs: cells set beside one another, an append where there is room, clear, own rows as blocks known whole.
-/
import Derived.Test.YtjfnkjpnjiobjaaRows
import Derived.Test.YtjfnkjpnjiobjaaBase
import Derived.ArgAppend
import Derived.Lib.JoinLaws
import Derived.StillTailTactics
namespace Go.Proofs.Ytjfnkjpnjiobjaa
open Go.RowKit
def putL (cs : List Value) : Nat → List Value → List Value
  | _, [] => cs
  | o, v :: r => putL (cs.set o v) (o + 1) r
theorem putL_length : ∀ (l : List Value) (o : Nat) (cs : List Value), (putL cs o l).length = cs.length
  | [], _, _ => rfl
  | v :: r, o, cs => by unfold putL; rw [putL_length r, List.length_set]
theorem putL_eq : ∀ (l : List Value) (o : Nat) (cs : List Value), o + l.length ≤ cs.length → putL cs o l = cs.take o ++ l ++ cs.drop (o + l.length)
  | [], o, cs, _ => by simp [putL]
  | v :: r, o, cs, h => by
    rw [List.length_cons] at h
    unfold putL
    rw [putL_eq r (o + 1) _ (by rw [List.length_set]; omega)]
    have h1 : (cs.set o v).take (o + 1) = cs.take o ++ [v] := by
      rw [List.take_add_one, List.getElem?_set_self (by omega), List.take_set_of_le (Nat.le_refl _)]; rfl
    rw [h1, List.drop_set_of_lt (by omega), List.length_cons, show o + 1 + r.length = o + (r.length + 1) from by omega]
    simp
theorem Cells.setMany {w : World} {b : Nat} {t : TypeId} {cs : List Value} (h : Cells w b t cs) (o : Nat) (l : List Value) : Cells (w.setCells b o l) b t (putL cs o l) := by
  induction l generalizing w cs o with
  | nil => exact h
  | cons v r ih => exact ih (h.set o v) (o + 1)
theorem Only.setCells {S : List Nat} {a w : World} (h : Only S a w) {b : Nat} (hb : b ∈ S ∨ a.heap.size ≤ b) (o : Nat) (l : List Value) : Only S a (w.setCells b o l) := by
  induction l generalizing w o with
  | nil => exact h
  | cons v r ih => exact ih (h.setCell (p := ⟨b, o, none⟩) hb v) (o + 1)
/-- An append of cells that are read, where there is room. -/
theorem wpList_room {P : Program} (w : World) {ops : Array Oper} {rest : List Oper} {o : Oper} {a : Act} {Q : Exit → Act → World → Prop}
    (hg : o.guard = none) (s x : Operand) (t : TypeId) (hop : o.op = Op.call { callee := Callee.builtin Builtin.append, args := #[s, x], argTypes := #[t, t] })
    (e : TypeId) (i : TypeInfo) (k : Nat) (ht : P.underlying t = some (.slice e)) (hi : P.info? e = some i) (hk : i.size = k)
    (b n cap : Nat) (cs : List Value) (hC : Cells w b e cs) (hs : a.eval s = .slice (some ⟨b, 0, none⟩) n cap) (ad : Addr) (m c : Nat) (news : List Value) (hx : a.eval x = .slice (some ad) m c) (hn : news.length = m * k)
    (hc : ∀ j u, news[j]? = some u → w.cell? (ad.add j) = some u) (h1c : ∀ u ∈ news, u.oneCell' = true) (hroom : n + m ≤ cap) (hcap : cs.length = cap * k)
    (hK : wpList P ops Q rest (a.put o.dst (.slice (some ⟨b, 0, none⟩) (n + m) cap)) (w.setCells b (n * k) news)) :
    wpList P ops Q (o :: rest) a w := by
  refine wpList_plain hg fun K hK' => ?_
  subst hk
  have hle : n * i.size + news.length ≤ cs.length := by rw [hn, hcap, ← Nat.add_mul]; exact Nat.mul_le_mul_right _ hroom
  have hrun := run_append_room_cells (P := P) w t o.type e i ht hi b 0 n cap ad m c news hn hc h1c hroom
    (fun j hj => by rw [Nat.zero_add, hC.cell (List.getElem?_eq_getElem (by omega))]; rfl) (fun j hj => hC.frozen _)
  rw [Nat.zero_add] at hrun
  unfold Oper.wp
  simp [execOp, hop, resolve, invoke, builtin, hs, hx, hrun, Result.andThen]
  exact hK' _ _ hK
/-- clear of a slice of structs. -/
theorem run_clear_cells {P : Program} (w : World) (t e ty : TypeId) (z : Value) (k : Nat) (ht : P.underlying t = some (.slice e)) (hv : ∀ w, (zeroValue e).run P w = .ok z w) (hz : z.cells.size = k) (h1 : ∀ u ∈ z.cells.toList, u.oneCell' = true) (b o n c : Nat) (cs : List Value) (hC : Cells w b e cs)
    (hn : 0 < n) (hle : o + n * k ≤ cs.length) :
    ∃ zs : List Value, zs.length = n * k ∧ (∀ u ∈ zs, u.oneCell' = true) ∧ (Builtin.clear_ #[t] ty #[.slice (some ⟨b, o, none⟩) n c]).run P w = .ok (.tuple #[]) (w.setCells b o zs) := by
  have hlen : (Builtin.zeroCells z.cells n).toList.length = n * k := by simp [Builtin.zeroCells, hz]
  have hone : ∀ u ∈ (Builtin.zeroCells z.cells n).toList, u.oneCell' = true := by
    intro u hu
    obtain ⟨j, hj, hju⟩ := List.mem_iff_getElem.1 hu
    have hpos : 0 < z.cells.size := by
      rcases Nat.eq_zero_or_pos z.cells.size with h | h
      · rw [hlen, ← hz, h] at hj; omega
      · exact h
    simp [Builtin.zeroCells] at hju
    have hlt : j % z.cells.size < z.cells.size := Nat.mod_lt _ hpos
    rw [getElem!_pos z.cells (j % z.cells.size) hlt] at hju
    subst hju
    exact h1 _ (by simp)
  refine ⟨(Builtin.zeroCells z.cells n).toList, hlen, hone, ?_⟩
  have hst := run_storeCells_cells (P := P) b o (Builtin.zeroCells z.cells n).toList 0 w (fun j hj => by rw [Nat.add_zero, hC.cell (List.getElem?_eq_getElem (by omega))]; rfl) (fun j hj => hC.frozen _) hone
  simp only [Nat.add_zero] at hst
  obtain ⟨m, rfl⟩ : ∃ m, n = m + 1 := ⟨n - 1, by omega⟩
  simp [Builtin.clear_, run_underlying ht, hv, hst]
/-- An own row that holds something is a block known whole; and back. -/
theorem own_block {w : World} {base : Nat} {e : TypeId} {sz n : Nat} {v : Value} {xs : List Value} (h : w.ownsRow base e sz v n xs) (hn : 0 < n) :
    ∃ g cap cs, v = .slice (some ⟨g, 0, none⟩) n cap ∧ base ≤ g ∧ Cells w g e cs ∧ n ≤ cap ∧ cap ≤ maxLen ∧ cs.length = cap * sz ∧ cs.take (n * sz) = xs := by
  obtain ⟨_, h⟩ := h
  rcases h with ⟨_, h0⟩ | ⟨g, cap, cur, hv, hb, hh, hnc, hcm, hs, hx⟩
  · omega
  · exact ⟨g, cap, cur.toList, hv, hb, hh, hnc, hcm, by simpa using hs, hx⟩
theorem block_own {w : World} {base : Nat} {e : TypeId} {sz n g cap : Nat} {cs xs : List Value} (hb : base ≤ g) (hC : Cells w g e cs) (hnc : n ≤ cap) (hcm : cap ≤ maxLen) (hl : cs.length = cap * sz) (hx : cs.take (n * sz) = xs) :
    w.ownsRow base e sz (.slice (some ⟨g, 0, none⟩) n cap) n xs :=
  ⟨by rw [← hx, List.length_take, hl, Nat.min_eq_left (Nat.mul_le_mul_right _ hnc)], .inr ⟨g, cap, cs.toArray, rfl, hb, hC, hnc, hcm, by simpa using hl, by simpa using hx⟩⟩
end Go.Proofs.Ytjfnkjpnjiobjaa
