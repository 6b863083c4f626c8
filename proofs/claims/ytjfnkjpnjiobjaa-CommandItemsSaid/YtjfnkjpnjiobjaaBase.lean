/-
  Small words on memory that all walks of this claim use: a block that is known whole, a world in which only some blocks have turned, rows of structs of one size.
-/
import Derived.WalkKit
import Derived.WalkSpells
import Derived.WalkLawsBesides
import Derived.Lib.Hide
import Derived.BigQuiet
import Derived.Deep.QuietTactic
namespace Go.Proofs.Ytjfnkjpnjiobjaa
open Go.RowKit

/-- Block b holds just these cells, none frozen. -/
def Cells (w : World) (b : Nat) (t : TypeId) (cs : List Value) : Prop := w.heap[b]? = some (.cells cs.toArray t (0, 0))

/-- Of what was there in a only the blocks of S may have turned in w. -/
structure Only (S : List Nat) (a w : World) : Prop where
  os : w.os = a.os
  tape : w.tape = a.tape
  output : w.output = a.output
  size : a.heap.size ≤ w.heap.size
  block : ∀ k, k < a.heap.size → k ∉ S → w.heap[k]? = a.heap[k]?

section
variable {S S' : List Nat} {a w w' : World} {b : Nat} {t : TypeId} {cs : List Value}

theorem Only.refl (S : List Nat) (w : World) : Only S w w := ⟨rfl, rfl, rfl, Nat.le_refl _, fun _ _ _ => rfl⟩
theorem Only.trans (h : Only S a w) (k : Only S' w w') (hS : ∀ x, x ∈ S' → x ∈ S ∨ a.heap.size ≤ x) : Only S a w' :=
  ⟨k.os.trans h.os, k.tape.trans h.tape, k.output.trans h.output, Nat.le_trans h.size k.size, fun i hi hn =>
    (k.block i (Nat.lt_of_lt_of_le hi h.size) (fun hm => by
      rcases hS i hm with h1 | h1
      · exact hn h1
      · omega)).trans (h.block i hi hn)⟩
theorem Only.tr (h : Only S a w) (k : Only S w w') : Only S a w' := h.trans k fun _ hx => .inl hx
theorem Only.tr0 (h : Only S a w) (k : Only [] w w') : Only S a w' := h.trans k fun _ hx => by cases hx
theorem Only.mono (h : Only S a w) (hS : ∀ x, x ∈ S → x ∈ S' ∨ a.heap.size ≤ x) : Only S' a w :=
  ⟨h.os, h.tape, h.output, h.size, fun i hi hn => h.block i hi (fun hm => by
      rcases hS i hm with h1 | h1
      · exact hn h1
      · omega)⟩
theorem Only.of0 (h : Only [] a w) : Only S a w := h.mono fun _ hx => by cases hx
theorem Only.drew (h : Only S a w) : Only S a w.drew := ⟨h.os, h.tape, h.output, h.size, h.block⟩
theorem Only.drewN (h : Only S a w) (n : Nat) : Only S a (w.drewN n) := ⟨h.os, h.tape, h.output, h.size, h.block⟩
theorem Only.alloc (h : Only S a w) (o : Obj) : Only S a (w.alloc o) :=
  ⟨h.os, h.tape, h.output, Nat.le_trans h.size (by simp), fun i hi hn => (Below.heap_alloc w o i (Nat.lt_of_lt_of_le hi h.size)).trans (h.block i hi hn)⟩
theorem Only.setCell (h : Only S a w) {p : Addr} (hp : p.block ∈ S ∨ a.heap.size ≤ p.block) (u : Value) : Only S a (w.setCell p u) :=
  ⟨h.os, h.tape, h.output, by simpa [World.setCell] using h.size, fun i hi hn => (Below.heap_setCell w p u i (by
    rintro rfl
    rcases hp with hp | hp
    · exact hn hp
    · omega)).trans (h.block i hi hn)⟩
theorem Only.below (h : Only [] a w) : Below a.heap.size a w := ⟨h.os, h.tape, h.output, h.size, fun k hk => h.block k hk (by simp)⟩
theorem Only.of_below (h : Below a.heap.size a w) : Only S a w := ⟨h.os, h.tape, h.output, h.size, fun k hk _ => h.block k hk⟩
theorem Only.grown {row : Option Nat} (h : Only S a w) (hg : w.grownBy w' row) (hr : ∀ g, row = some g → g ∈ S ∨ a.heap.size ≤ g) : Only S a w' :=
  ⟨hg.os.trans h.os, hg.tape.trans h.tape, hg.output.trans h.output, Nat.le_trans h.size hg.size, fun i hi hn =>
    (hg.block i (Nat.lt_of_lt_of_le hi h.size) (fun e => by
      rcases hr i e.symm with h1 | h1
      · exact hn h1
      · omega)).trans (h.block i hi hn)⟩
theorem Only.cell (h : Only S a w) {p : Addr} (hp : p.block < a.heap.size) (hn : p.block ∉ S) : w.cell? p = a.cell? p := World.cell?_of_block (w := a) (h.block p.block hp hn)
theorem Only.frozen (h : Only S a w) {p : Addr} (hp : p.block < a.heap.size) (hn : p.block ∉ S) : w.frozen? p = a.frozen? p := World.frozen?_of_block (w := a) (h.block p.block hp hn)

theorem Cells.lt (h : Cells w b t cs) : b < w.heap.size := by
  rcases Nat.lt_or_ge b w.heap.size with hlt | hge
  · exact hlt
  · unfold Cells at h; rw [Array.getElem?_eq_none hge] at h; cases h
theorem Cells.cell (h : Cells w b t cs) {k : Nat} {v : Value} (hv : cs[k]? = some v) : w.cell? ⟨b, k, none⟩ = some v := by
  have := cell_of_row w b k cs.toArray t (0, 0) h
  rw [this]; simpa using hv
theorem Cells.frozen (h : Cells w b t cs) (k : Nat) : w.frozen? ⟨b, k, none⟩ = false := by
  unfold Cells at h
  simp [World.frozen?, h]
theorem Cells.new (w : World) (t : TypeId) (cs : List Value) : Cells (w.alloc (.cells cs.toArray t)) w.heap.size t cs := heap_alloc_new w _
theorem Cells.drew (h : Cells w b t cs) : Cells w.drew b t cs := h
theorem Cells.drewN (h : Cells w b t cs) (n : Nat) : Cells (w.drewN n) b t cs := h
theorem Cells.alloc (h : Cells w b t cs) (o : Obj) : Cells (w.alloc o) b t cs := (Below.heap_alloc w o b h.lt).trans h
theorem Cells.set (h : Cells w b t cs) (i : Nat) (u : Value) : Cells (w.setCell ⟨b, i, none⟩ u) b t (cs.set i u) := by
  unfold Cells at h ⊢
  simp [World.setCell, Array.getElem?_modify, h]
theorem Cells.far (h : Cells w b t cs) {p : Addr} (hp : b ≠ p.block) (u : Value) : Cells (w.setCell p u) b t cs := (Below.heap_setCell w p u b hp).trans h
theorem Cells.only (h : Cells a b t cs) (ho : Only S a w) (hb : b ∉ S) : Cells w b t cs := (ho.block b h.lt hb).trans h
theorem Cells.ne {b' : Nat} {t' : TypeId} {cs' : List Value} (h : Cells w b t cs) (h' : Cells w b' t' cs') (hne : t ≠ t') : b ≠ b' := by
  rintro rfl
  unfold Cells at h h'
  rw [h] at h'
  injection h' with h'
  injection h' with _ ht
  exact hne ht
end

/-! ### Regions that draw their order, whose operations read and whose callees read and make memory -/
/-- A world in which nothing of W has turned. -/
structure Since (W : World) where
  w : World
  h : Only [] W w
instance (W : World) : Nonempty (Since W) := ⟨⟨W, Only.refl _ _⟩⟩
theorem wp_region_only {P : Program} {id : Nat} {Q : Exit → Act → World → Prop} {a : Act} {w : World} {l : List Oper} (W : World) (hw : Only [] W w) (hm : P.follows .mixedOrders = true) (hB : Region.lexB .any l.toArray = true)
    (h : wpQuiet P l.toArray (fun w' => ∃ u : Since W, w' = u.w) (fun a' => ∀ u : Since W, Q .normal a' u.w) l a) : (Code.region id l.toArray true).wp P Q a w := by
  refine wp_region_quiet (C := fun w' => ∃ u : Since W, w' = u.w) hm hB ⟨⟨_, hw.drew⟩, rfl⟩ ?_
  have : (fun a' => ∀ w', (∃ u : Since W, w' = u.w) → Q .normal a' w') = (fun a' => ∀ u : Since W, Q .normal a' u.w) := by
    funext a'
    exact propext ⟨fun h u => h _ ⟨u, rfl⟩, fun h w' ⟨u, hu⟩ => hu ▸ h u⟩
  rw [this]
  exact h
theorem Calls.only {P : Program} {f : FuncId} {args : Array Value} {W : World} {u : Since W} {v : Value} (h : Calls P f args u.w fun e w' => e = .returned v ∧ Only [] u.w w') :
    Calls P f args u.w fun e w'' => e = .returned v ∧ ∃ u' : Since W, w'' = u'.w :=
  h.mono fun _ w' ⟨he, ho⟩ => ⟨he, ⟨w', u.h.tr0 ho⟩, rfl⟩
theorem Calls.only_same {P : Program} {f : FuncId} {args : Array Value} {W : World} {u : Since W} {v : Value} (h : Calls P f args u.w fun e w' => e = .returned v ∧ u.w = w') :
    Calls P f args u.w fun e w'' => e = .returned v ∧ ∃ u' : Since W, w'' = u'.w :=
  h.mono fun _ _ ⟨he, ho⟩ => ⟨he, u, ho.symm⟩
theorem Since.cell {W : World} (u : Since W) {p : Addr} {v : Value} (h : W.cell? p = some v) : u.w.cell? p = some v :=
  (u.h.cell (World.block_lt_of_cell? W _ h) (by simp)).trans h

/-! ### Rows of the call's own -/
theorem own_only {S : List Nat} {w w' : World} {base : Nat} {e : TypeId} {sz n : Nat} {v : Value} {xs : List Value} (h : w.ownsRow base e sz v n xs) (ho : Only S w w') (hS : ∀ x, x ∈ S → x < base) : w'.ownsRow base e sz v n xs := by
  obtain ⟨hl, h⟩ := h
  refine ⟨hl, ?_⟩
  rcases h with h | ⟨g, cap, cur, hv, hb, hh, hr⟩
  · exact .inl h
  · refine .inr ⟨g, cap, cur, hv, hb, ?_, hr⟩
    have hlt : g < w.heap.size := by
      rcases Nat.lt_or_ge g w.heap.size with hlt | hge
      · exact hlt
      · rw [Array.getElem?_eq_none hge] at hh; cases hh
    rw [ho.block g hlt (fun hm => by have := hS g hm; omega)]
    exact hh
theorem Only.own {S : List Nat} {a w w' : World} {base : Nat} {e : TypeId} {sz n : Nat} {v : Value} {xs : List Value} (h : Only S a w) (hown : w.ownsRow base e sz v n xs) (hg : w.grownBy w' v.ownBlock) (hb : a.heap.size ≤ base) : Only S a w' :=
  h.grown hg fun g e => .inr (Nat.le_trans hb (hown.lt g e).1)
theorem own_cell {w : World} {base : Nat} {e : TypeId} {sz n k : Nat} {v u : Value} {xs : List Value} (h : w.ownsRow base e sz v n xs) (hk : xs[k]? = some u) : ∃ g cap, v = .slice (some ⟨g, 0, none⟩) n cap ∧ base ≤ g ∧ g < w.heap.size ∧ w.cell? ⟨g, k, none⟩ = some u := by
  obtain ⟨hl, h⟩ := h
  have hkl : k < xs.length := (List.getElem?_eq_some_iff.1 hk).1
  rcases h with ⟨_, rfl⟩ | ⟨g, cap, cur, hv, hb, hh, hnc, _, hsz, hxs⟩
  · simp at hl; rw [hl] at hkl; simp at hkl
  · refine ⟨g, cap, hv, hb, ?_, ?_⟩
    · rcases Nat.lt_or_ge g w.heap.size with hlt | hge
      · exact hlt
      · rw [Array.getElem?_eq_none hge] at hh; cases hh
    · rw [cell_of_row w g k cur e (0, 0) hh, ← hk, ← hxs, List.getElem?_take_of_lt (by omega)]
      simp
theorem own_ne_block {w : World} {base b : Nat} {e t : TypeId} {sz n : Nat} {v : Value} {xs cs : List Value} (h : w.ownsRow base e sz v n xs) (hc : Cells w b t cs) (hne : e ≠ t) : v.ownBlock ≠ some b := by
  intro hb
  obtain ⟨_, h⟩ := h
  rcases h with ⟨rfl, _⟩ | ⟨g, cap, cur, rfl, _, hh, _⟩
  · simp [Value.ownBlock] at hb
  · simp [Value.ownBlock] at hb
    subst hb
    unfold Cells at hc
    rw [hh] at hc
    injection hc with hc
    injection hc with _ h2
    exact hne h2
theorem Cells.grown {w w' : World} {b : Nat} {t : TypeId} {cs : List Value} {row : Option Nat} (h : Cells w b t cs) (hg : w.grownBy w' row) (hne : row ≠ some b) : Cells w' b t cs :=
  (hg.block b h.lt (fun e => hne e.symm)).trans h
/-- An append of elements that have just been laid in a block of their own. -/
theorem wpList_app {P : Program} {ops : Array Oper} {rest : List Oper} {o : Oper} {a : Act} {Q : Exit → Act → World → Prop} (hgd : o.guard = none) (s x : Operand) (t : TypeId)
    (ho : o.op = .call { callee := .builtin .append, args := #[s, x], argTypes := #[t, t] })
    (base : Nat) (e : TypeId) (i : TypeInfo) (z : Value) (size bytes : Nat) (ht : P.underlying t = some (.slice e)) (hi : P.info? e = some i) (hz : i.zero = some z)
    (hsize : i.size = size) (hby : i.bytes = bytes) (hzs : z.cells.size = size) (hsz : 0 < size) (w : World)
    (v : Value) (n : Nat) (xs : List Value) (hs : a.eval s = v) (hown : w.ownsRow base e size v n xs)
    (m c : Nat) (cs : List Value) (hx : a.eval x = .slice (some ⟨w.heap.size, 0, none⟩) m c) (hl : cs.length = m * size) (h1 : ∀ u ∈ cs, u.oneCell' = true)
    (h63 : n + m ≤ maxLen) (hbytes : (n + m) * bytes ≤ 140737488355328) (hbase : base ≤ w.heap.size)
    (h : ∀ v' w', w'.ownsRow base e size v' (n + m) (xs ++ cs) → w.grownBy w' v.ownBlock → (v' = .slice none 0 0 ↔ v = .slice none 0 0 ∧ m = 0) → wpList P ops Q rest (a.put o.dst v') w') :
    wpList P ops Q (o :: rest) a (w.alloc (.cells cs.toArray e)) := by
  refine wpList_append_own _ hgd s x t ho base e i z size bytes ht hi hz hsize hby hzs hsz v n xs hs (hown.alloc _) ⟨w.heap.size, 0, none⟩ m c cs hx hl (fun j u hu => ?_) h1 h63 hbytes (by simp; omega) fun v' w' h2 h3 h4 => h v' w' h2 ?_ h4
  · have := (Cells.new w e cs).cell hu
    unfold Addr.add
    by_cases hj : j = 0
    · subst hj; simpa using this
    · simp only [hj, if_false, Nat.zero_add]; exact this
  · exact ⟨h3.os, h3.tape, h3.output, Nat.le_trans (by simp) h3.size, fun k hk hne => (h3.block k (by simp; omega) hne).trans (Below.heap_alloc w _ k hk)⟩

/-! ### Rows of structs of n cells -/
theorem flat_get {α : Type} (f : α → List Value) (n : Nat) (hf : ∀ x, (f x).length = n) : ∀ (l : List α) (i j : Nat) (x : α), l[i]? = some x → j < n → (l.flatMap f)[i * n + j]? = (f x)[j]?
  | [], i, j, x, h, _ => by simp at h
  | y :: l, 0, j, x, h, hj => by
    simp at h; subst h
    rw [List.flatMap_cons, Nat.zero_mul, Nat.zero_add, List.getElem?_append_left (by rw [hf]; exact hj)]
  | y :: l, i + 1, j, x, h, hj => by
    rw [List.flatMap_cons, List.getElem?_append_right (by rw [hf, Nat.succ_mul]; omega), hf]
    rw [show (i + 1) * n + j - n = i * n + j from by rw [Nat.succ_mul]; omega]
    exact flat_get f n hf l i j x (by simpa using h) hj
theorem flat_set {α : Type} (f : α → List Value) (n : Nat) (hf : ∀ x, (f x).length = n) : ∀ (l : List α) (i j : Nat) (x x' : α) (v : Value), l[i]? = some x → j < n → (f x).set j v = f x' →
    (l.flatMap f).set (i * n + j) v = (l.set i x').flatMap f
  | [], i, j, x, x', v, h, _, _ => by simp at h
  | y :: l, 0, j, x, x', v, h, hj, hs => by
    simp at h; subst h
    rw [List.flatMap_cons, Nat.zero_mul, Nat.zero_add, List.set_append_left _ _ (by rw [hf]; exact hj), hs, List.set_cons_zero, List.flatMap_cons]
  | y :: l, i + 1, j, x, x', v, h, hj, hs => by
    rw [List.flatMap_cons, List.set_append_right _ _ (by rw [hf, Nat.succ_mul]; omega), hf]
    rw [show (i + 1) * n + j - n = i * n + j from by rw [Nat.succ_mul]; omega]
    rw [flat_set f n hf l i j x x' v (by simpa using h) hj hs, List.set_cons_succ, List.flatMap_cons]
theorem flat_length {α : Type} (f : α → List Value) (n : Nat) (hf : ∀ x, (f x).length = n) (l : List α) : (l.flatMap f).length = l.length * n := by
  induction l with
  | nil => simp
  | cons y l ih => rw [List.flatMap_cons, List.length_append, hf, ih, List.length_cons, Nat.succ_mul]; omega
end Go.Proofs.Ytjfnkjpnjiobjaa
