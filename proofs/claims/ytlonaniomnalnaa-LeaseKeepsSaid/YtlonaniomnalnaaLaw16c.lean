/-
  Chapter 16's laws: the loop over the acts that all of them begin with; rows of leases of the call's own.
-/
import Derived.Test.YtlonaniomnalnaaLaw16b
import Derived.StillTailTactics
namespace Go.Proofs.Ytlonaniomnalnaa
open Go.RowKit

/-- The table behind the first k acts. -/
def Tb.after (l : List Act) (k : Nat) : Tb := (l.take k).foldl Tb.does Tb.empty
theorem Tb.after_succ (l : List Act) (k : Nat) (a : Act) (h : l[k]? = some a) : Tb.after l (k + 1) = (Tb.after l k).does a := by
  unfold Tb.after
  rw [List.take_add_one, h, List.foldl_append]; rfl
theorem Tb.after_upto (l : List Act) (k : Nat) (hk : k ≤ l.length) : (Tb.after l k).upto k := by
  induction k with
  | zero => exact Tb.empty_upto
  | succ k ih =>
    have hk' : k < l.length := by omega
    rw [Tb.after_succ l k _ (List.getElem?_eq_getElem hk')]
    exact (ih (by omega)).does _
theorem act_cells {l : List Act} {k : Nat} {a : Act} (h : l[k]? = some a) : (l.flatMap Act.cells)[k * 3]? = some (.int .i64 a.op) ∧ (l.flatMap Act.cells)[k * 3 + 1]? = some (.int .i64 a.shard) ∧ (l.flatMap Act.cells)[k * 3 + 2]? = some (.int .i64 a.node) :=
  ⟨flat_get Act.cells 3 (fun _ => rfl) l k 0 a h (by omega), flat_get Act.cells 3 (fun _ => rfl) l k 1 a h (by omega), flat_get Act.cells 3 (fun _ => rfl) l k 2 a h (by omega)⟩
/-- The cells of the k-th act. -/
theorem act_at {W w : World} {v : Value} {l : List Act} (hs : SlAt W W.heap.size v 3 l.length (l.flatMap Act.cells)) (ho : Only [] W w) {k : Nat} {a : Act} (h : l[k]? = some a) :
    ∃ b o c, v = .slice (some ⟨b, o, none⟩) l.length c ∧ w.cell? ⟨b, o + k * 3, none⟩ = some (.int .i64 a.op) ∧ w.cell? ⟨b, o + k * 3 + 1, none⟩ = some (.int .i64 a.shard) ∧ w.cell? ⟨b, o + k * 3 + 2, none⟩ = some (.int .i64 a.node) ∧ b < w.heap.size := by
  have hk : k < l.length := (List.getElem?_eq_some_iff.1 h).1
  obtain ⟨b, o, c, hv, hb, hc⟩ := (hs.only ho (Nat.le_refl _) (by simp)).at_ (by omega)
  obtain ⟨h0, h1, h2⟩ := act_cells h
  exact ⟨b, o, c, hv, hc _ _ h0, by rw [Nat.add_assoc]; exact hc _ _ h1, by rw [Nat.add_assoc]; exact hc _ _ h2, Nat.lt_of_lt_of_le hb ho.size⟩
theorem tb_does {w0 w : World} {b : Nat} {t : Tb} (h : Hid (TbAt w0 w b t)) (a : Act) (ha : a.wide) (m : Int) (ht : t.upto m) (hm : m ≤ 4611686018427387904) :
    Calls Try.prog 34 #[.pointer (some ⟨b, 0, none⟩), .agg #[.int .i64 a.op, .int .i64 a.shard, .int .i64 a.node]] w fun e w' => e = .returned (.tuple #[]) ∧ Hid (TbAt w0 w' b (t.does a)) :=
  (does16 b t a w ha h.1 (ht.small hm)).mono fun _ _ ⟨h1, h2, h3⟩ => ⟨h1, h.out.turn h2 h3⟩

/-! ### A row of leases of the call's own -/
theorem ls_at {w : World} {base g cap n k : Nat} {ls : List Ls} {x : Ls} (h : w.ownsRow base 44 3 (.slice (some ⟨g, 0, none⟩) n cap) n (ls.flatMap Ls.cells)) (hk : ls[k]? = some x) :
    w.cell? ⟨g, k * 3, none⟩ = some (.int .i64 x.node) ∧ w.cell? ⟨g, k * 3 + 1, none⟩ = some (.int .i64 x.epoch) ∧ w.cell? ⟨g, k * 3 + 2, none⟩ = some (.int .i64 x.till) ∧
    w.frozen? ⟨g, k * 3, none⟩ = false ∧ w.frozen? ⟨g, k * 3 + 1, none⟩ = false ∧ w.frozen? ⟨g, k * 3 + 2, none⟩ = false ∧ base ≤ g ∧ g < w.heap.size := by
  have key : ∀ j, j < 3 → w.cell? ⟨g, k * 3 + j, none⟩ = x.cells[j]? := fun j hj => by
    have hx := flat_get Ls.cells 3 Ls.cells_length ls k j x hk hj
    have hlt : k * 3 + j < (ls.flatMap Ls.cells).length := by
      rw [flat_length Ls.cells 3 Ls.cells_length]
      have : k < ls.length := (List.getElem?_eq_some_iff.1 hk).1
      omega
    rw [h.cellAt _ (by rw [← h.1]; exact hlt), hx]
  have hg := h.lt g rfl
  exact ⟨key 0 (by omega), key 1 (by omega), key 2 (by omega), h.frozenAt _, h.frozenAt _, h.frozenAt _, hg.1, hg.2⟩
theorem ls_set {w : World} {base g cap n k : Nat} {ls : List Ls} {x : Ls} (h : w.ownsRow base 44 3 (.slice (some ⟨g, 0, none⟩) n cap) n (ls.flatMap Ls.cells)) (hk : ls[k]? = some x) (y : Ls) :
    (((w.setCell ⟨g, k * 3, none⟩ (.int .i64 y.node)).setCell ⟨g, k * 3 + 1, none⟩ (.int .i64 y.epoch)).setCell ⟨g, k * 3 + 2, none⟩ (.int .i64 y.till)).ownsRow base 44 3 (.slice (some ⟨g, 0, none⟩) n cap) n ((ls.set k y).flatMap Ls.cells) := by
  have hkl : k < ls.length := (List.getElem?_eq_some_iff.1 hk).1
  have h1 := (h.stored (k * 3) (.int .i64 y.node)).1
  rw [show k * 3 = k * 3 + 0 from rfl, flat_set Ls.cells 3 Ls.cells_length ls k 0 x ⟨y.node, x.epoch, x.till⟩ _ hk (by omega) rfl] at h1
  have h2 := (h1.stored (k * 3 + 1) (.int .i64 y.epoch)).1
  rw [flat_set Ls.cells 3 Ls.cells_length _ k 1 ⟨y.node, x.epoch, x.till⟩ ⟨y.node, y.epoch, x.till⟩ _ (by simp [hkl]) (by omega) rfl] at h2
  have h3 := (h2.stored (k * 3 + 2) (.int .i64 y.till)).1
  rw [flat_set Ls.cells 3 Ls.cells_length _ k 2 ⟨y.node, y.epoch, x.till⟩ ⟨y.node, y.epoch, y.till⟩ _ (by simp [hkl]) (by omega) rfl] at h3
  simpa using h3
theorem own_form {w : World} {base n sz : Nat} {e : TypeId} {v : Value} {xs : List Value} (h : w.ownsRow base e sz v n xs) (hn : 0 < n) : ∃ g cap, v = .slice (some ⟨g, 0, none⟩) n cap := by
  obtain ⟨_, h⟩ := h
  rcases h with ⟨_, h⟩ | ⟨g, cap, cur, hv, _⟩
  · omega
  · exact ⟨g, cap, hv⟩
theorem own_ne {w : World} {base g cap n : Nat} {sz : Nat} {e t : TypeId} {xs cs : List Value} {b : Nat} (h : w.ownsRow base e sz (.slice (some ⟨g, 0, none⟩) n cap) n xs) (hc : Cells w b t cs) (hne : e ≠ t) : g ≠ b := by
  obtain ⟨_, h⟩ := h
  rcases h with ⟨h, _⟩ | ⟨g', cap', cur, hv, _, hh, _⟩
  · cases h
  · injection hv with hv
    injection hv with hv
    have hgg : g = g' := by injection hv
    subst hgg
    rintro rfl
    unfold Cells at hc
    rw [hh] at hc
    injection hc with hc
    injection hc with _ h2
    exact hne h2
theorem tb_grant' {w0 w : World} {b : Nat} {t : Tb} (h : Hid (TbAt w0 w b t)) (n node : Int) (m : Int) (ht : t.upto m) (hm : m ≤ 4611686018427387904) (x : Int × Int) (hx : (t.grant n node).2 = x) (t' : Tb) (hx' : (t.grant n node).1 = t') :
    Calls Try.prog 32 #[.pointer (some ⟨b, 0, none⟩), .int .i64 n, .int .i64 node] w fun e w' => e = .returned (.tuple #[.int .i64 x.1, .int .i64 x.2]) ∧ Hid (TbAt w0 w' b t') ∧ Only [b] w w' :=
  (lease_grant b t n node w h.1 (ht.small hm)).mono fun _ _ ⟨h1, h2, h3⟩ => ⟨by rw [h1, ← hx], by rw [← hx']; exact h.out.turn h2 h3, h2⟩
theorem tb_tick' {w0 w : World} {b : Nat} {t : Tb} (h : Hid (TbAt w0 w b t)) (m : Int) (ht : t.upto m) (hm : m ≤ 4611686018427387904) :
    Calls Try.prog 31 #[.pointer (some ⟨b, 0, none⟩)] w fun e w' => e = .returned (.int .i64 (t.now + 1)) ∧ Hid (TbAt w0 w' b t.tick) ∧ Only [b] w w' :=
  (lease_tick b t w h.1 (by have := ht.n0; omega) (by have := ht.n1; omega)).mono fun _ _ ⟨h1, h2, h3⟩ => ⟨h1, h.out.turn h2 h3, h2⟩
theorem TbAt.alloc {w0 w : World} {b : Nat} {t : Tb} (h : Hid (TbAt w0 w b t)) (o : Obj) : Hid (TbAt w0 (w.alloc o) b t) := ⟨h.1.alloc o, h.out.2.1.alloc o, h.out.2.2⟩
end Go.Proofs.Ytlonaniomnalnaa
