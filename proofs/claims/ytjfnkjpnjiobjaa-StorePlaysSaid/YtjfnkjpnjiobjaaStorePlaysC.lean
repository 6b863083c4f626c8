/-
  What StorePlays leans on, part 3: contracts of the functions that it reaches, and plain facts; each theorem bears its own conditions.
-/
import Derived.Laws.StructEq
import Derived.Test.YtjfnkjpnjiobjaaStorePlaysB
namespace Go.Proofs.Ytjfnkjpnjiobjaa
open Go.RowKit
/-- A feed and where it lies. -/
structure Pl where
  nm : List UInt8
  fd : Fd
  p : Nat
  m : Nat
  v : Value
def Pl.own (t : Pl) : List Nat := [t.p, t.m] ++ rb t.v
def fT (T : List Pl) (k : List UInt8) : Option Pl := T.find? (fun t => t.nm == k)
def ptT (T : List Pl) (k : List UInt8) : Option Value := (fT T k).map fun t => Value.pointer (some ⟨t.p, 0, none⟩)
def allX (b mb : Nat) (T : List Pl) : List Nat := b :: mb :: T.flatMap Pl.own
structure StX (w : World) (b mb : Nat) (T : List Pl) : Prop where
  cells : Cells w b 91 [.map (some mb)]
  map : MapF w mb T.length (ptT T)
  fds : ∀ t ∈ T, FdAt w t.p t.m t.v t.fd
  srt : T.Pairwise (fun a b => a.nm < b.nm)
  dis : ∀ t ∈ T, ∀ u ∈ T, t.nm ≠ u.nm → ∀ x ∈ t.own, x ∉ u.own
  dib : ∀ t ∈ T, b ∉ t.own ∧ mb ∉ t.own
  cap : T.length ≤ 20
  nml : ∀ t ∈ T, nmL t.nm = true
theorem nmL_len {k : List UInt8} (h : nmL k = true) : 1 ≤ k.length ∧ k.length ≤ 60 := by
  rw [nmL_eq] at h
  simp only [Bool.and_eq_true, decide_eq_true_eq] at h
  exact h.2
theorem fT_mem {T : List Pl} {k : List UInt8} {t : Pl} (h : fT T k = some t) : t ∈ T ∧ t.nm = k := by
  unfold fT at h
  exact ⟨List.mem_of_find?_eq_some h, by simpa using List.find?_some h⟩
theorem own_mem {b mb : Nat} {T : List Pl} {t : Pl} (ht : t ∈ T) {k : Nat} (hk : k ∈ t.own) : k ∈ allX b mb T := by
  unfold allX
  exact List.mem_cons_of_mem _ (List.mem_cons_of_mem _ (List.mem_flatMap.2 ⟨t, ht, hk⟩))
theorem FdAt.lts {w : World} {p m : Nat} {v : Value} {f : Fd} (h : FdAt w p m v f) : ∀ k ∈ [p, m] ++ rb v, k < w.heap.size := by
  intro k hk
  simp only [List.cons_append, List.nil_append, List.mem_cons] at hk
  rcases hk with rfl | rfl | hk
  · exact h.cells.lt
  · exact h.map.lt
  · exact (h.row.lt k (by simpa [rb] using hk)).2
theorem StX.lts {w : World} {b mb : Nat} {T : List Pl} (h : StX w b mb T) : ∀ k ∈ allX b mb T, k < w.heap.size := by
  intro k hk
  unfold allX at hk
  simp only [List.mem_cons] at hk
  rcases hk with rfl | rfl | hk
  · exact h.cells.lt
  · exact h.map.lt
  · obtain ⟨t, ht, hk⟩ := List.mem_flatMap.1 hk
    exact (h.fds t ht).lts k hk
theorem FdAt.keep {S : List Nat} {w w' : World} {t : Pl} (h : FdAt w t.p t.m t.v t.fd) (ho : Only S w w') (hS : ∀ k ∈ t.own, k ∉ S) : FdAt w' t.p t.m t.v t.fd :=
  h.only ho (hS _ (by simp [Pl.own])) (hS _ (by simp [Pl.own])) (fun g hg => hS g (by simp [Pl.own, rb, hg]))
theorem StX.keep {S : List Nat} {w w' : World} {b mb : Nat} {T : List Pl} (h : StX w b mb T) (ho : Only S w w') (hS : ∀ k ∈ allX b mb T, k ∉ S) : StX w' b mb T :=
  ⟨h.cells.only ho (hS _ (by simp [allX])), h.map.only ho (hS _ (by simp [allX])), fun t ht => (h.fds t ht).keep ho (fun k hk => hS k (own_mem ht hk)), h.srt, h.dis, h.dib, h.cap, h.nml⟩
/-- A store whose blocks are O. -/
def St (w : World) (b : Nat) (O : List Nat) (S : List (List UInt8 × Fd)) : Prop := ∃ mb T, StX w b mb T ∧ O = allX b mb T ∧ S = T.map fun t => (t.nm, t.fd)
theorem St.keep {X : List Nat} {w w' : World} {b : Nat} {O : List Nat} {S : List (List UInt8 × Fd)} (h : St w b O S) (ho : Only X w w') (hX : ∀ k ∈ O, k ∉ X) : St w' b O S := by
  obtain ⟨mb, T, h1, rfl, rfl⟩ := h
  exact ⟨mb, T, h1.keep ho hX, rfl, rfl⟩
def fnd (S : List (List UInt8 × Fd)) (k : List UInt8) : Option Fd := (S.find? (fun x => x.1 == k)).map (·.2)
theorem fnd_fT (T : List Pl) (k : List UInt8) : fnd (T.map fun t => (t.nm, t.fd)) k = (fT T k).map (·.fd) := by
  unfold fnd fT
  rw [List.find?_map, Option.map_map]
  rfl
def okT (now : Int) : Bool := decide (0 ≤ now) && decide (now ≤ 1099511627776)
def fndV (o : Option Pl) (now : Int) : Value := match o with
  | none => .tuple #[.pointer none, .int .i64 4]
  | some t => if okT now then .tuple #[.pointer (some ⟨t.p, 0, none⟩), .int .i64 0] else .tuple #[.pointer none, .int .i64 1]
set_option maxRecDepth 100000 in
theorem store_find (b mb : Nat) (T : List Pl) (k : List UInt8) (hk : k.length ≤ maxLen) (now : Int) (w : World) (h : StX w b mb T) :
    Calls Try.prog 49 #[.pointer (some ⟨b, 0, none⟩), .string ⟨k.toArray⟩, .int .i64 now] w fun e w' =>
      e = .returned (fndV (fT T k) now) ∧ w = w' := by
  have c0 := h.cells.cell (k := 0) rfl
  have hlk := h.map.look (t := 89) (e := 92) (z := .pointer none) Try.underlying89 (Try.zeroValue92 w) k hk
  cases hf : fT T k with
  | none =>
    rw [show (ptT T k) = none from by unfold ptT; rw [hf]; rfl] at hlk
    go_enter Try.func49, Try.ntmps49
    go_wp2_with fail
    go_ret2
    exact ⟨rfl, rfl⟩
  | some t =>
    rw [show (ptT T k) = some (.pointer (some ⟨t.p, 0, none⟩)) from by unfold ptT; rw [hf]; rfl] at hlk
    by_cases h0 : now < 0
    · have d0 : decide (now < 0) = true := decide_eq_true h0
      have hr : okT now = false := by unfold okT; rw [decide_eq_false (by omega)]; rfl
      go_enter Try.func49, Try.ntmps49
      go_wp2_with fail
      go_ret2
      exact ⟨by unfold fndV; rw [hr]; rfl, rfl⟩
    · have d0 : decide (now < 0) = false := decide_eq_false h0
      by_cases h1 : 1099511627776 < now
      · have d1 : decide (1099511627776 < now) = true := decide_eq_true h1
        have hr : okT now = false := by unfold okT; rw [decide_eq_false (p := now ≤ 1099511627776) (by omega)]; simp
        go_enter Try.func49, Try.ntmps49
        go_wp2_with fail
        go_ret2
        exact ⟨by unfold fndV; rw [hr]; rfl, rfl⟩
      · have d1 : decide (1099511627776 < now) = false := decide_eq_false h1
        have hr : okT now = true := by unfold okT; rw [decide_eq_true (p := 0 ≤ now) (by omega), decide_eq_true (p := now ≤ 1099511627776) (by omega)]; rfl
        go_enter Try.func49, Try.ntmps49
        go_wp2_with fail
        go_ret2
        exact ⟨by unfold fndV; rw [hr]; rfl, rfl⟩
set_option maxRecDepth 100000 in
theorem store_polled (b mb : Nat) (T : List Pl) (k : List UInt8) (hk : k.length ≤ maxLen) (w : World) (h : StX w b mb T) :
    Calls Try.prog 23 #[.pointer (some ⟨b, 0, none⟩), .string ⟨k.toArray⟩] w fun e w' =>
      e = .returned (.tuple #[.int .i64 ((fT T k).elim 0 (·.fd.pol)), .int .i64 ((fT T k).elim 0 (·.fd.fai)), .bool (fT T k).isSome]) ∧ Only [] w w' := by
  have c0 := h.cells.cell (k := 0) rfl
  have hlk := h.map.look (t := 89) (e := 92) (z := .pointer none) Try.underlying89 (Try.zeroValue92 w) k hk
  cases hf : fT T k with
  | none =>
    rw [show (ptT T k) = none from by unfold ptT; rw [hf]; rfl] at hlk
    go_enter Try.func23, Try.ntmps23
    go_wp2_with fail
    go_ret3
    exact ⟨rfl, Only.refl _ _⟩
  | some t =>
    rw [show (ptT T k) = some (.pointer (some ⟨t.p, 0, none⟩)) from by unfold ptT; rw [hf]; rfl] at hlk
    have hfd := h.fds t (fT_mem hf).1
    have p0 := hfd.cells.cell (k := 0) rfl
    have p1 := hfd.cells.cell (k := 1) rfl
    go_enter Try.func23, Try.ntmps23
    go_wp2_with fail
    go_region
    go_wp2_with fail
    go_ret3
    exact ⟨rfl, (Only.refl _ _).drew⟩
end Go.Proofs.Ytjfnkjpnjiobjaa
namespace Go.Proofs.Ytjfnkjpnjiobjaa
open Go.RowKit
section
variable {α β : Type} (key : α → List UInt8)
def insBy (x : α) : List α → List α
  | [] => [x]
  | a :: r => if key a < key x then a :: insBy x r else x :: a :: r
theorem insBy_perm (x : α) (l : List α) : (insBy key x l).Perm (x :: l) := by
  induction l with
  | nil => exact List.Perm.refl _
  | cons a r ih =>
    unfold insBy
    split
    · exact (ih.cons a).trans (List.Perm.swap x a r)
    · exact List.Perm.refl _
theorem insBy_length (x : α) (l : List α) : (insBy key x l).length = l.length + 1 := by rw [(insBy_perm key x l).length_eq]; rfl
theorem insBy_map (f : α → β) (key' : β → List UInt8) (h : ∀ a, key' (f a) = key a) (x : α) (l : List α) : (insBy key x l).map f = insBy key' (f x) (l.map f) := by
  induction l with
  | nil => rfl
  | cons a r ih =>
    simp only [insBy, List.map_cons, h]
    split
    · rw [List.map_cons, ih]
    · rfl
theorem lt_of_not {a b : List UInt8} (h : ¬ a < b) (hne : a ≠ b) : b < a := by
  by_cases h1 : b < a
  · exact h1
  · exact absurd (List.le_antisymm (List.not_lt.1 h1) (List.not_lt.1 h)) hne
theorem insBy_sorted (x : α) (l : List α) (hs : l.Pairwise (fun a b => key a < key b)) (hn : ∀ a ∈ l, key a ≠ key x) : (insBy key x l).Pairwise (fun a b => key a < key b) := by
  induction l with
  | nil => simp [insBy]
  | cons a r ih =>
    have h1 := List.pairwise_cons.1 hs
    unfold insBy
    split
    · rename_i hlt
      refine List.pairwise_cons.2 ⟨fun b hb => ?_, ih h1.2 (fun c hc => hn c (List.mem_cons_of_mem _ hc))⟩
      rcases List.mem_cons.1 ((insBy_perm key x r).mem_iff.1 hb) with rfl | hb
      · exact hlt
      · exact h1.1 b hb
    · rename_i hlt
      have hxa := lt_of_not hlt (hn a (by simp))
      refine List.pairwise_cons.2 ⟨fun b hb => ?_, hs⟩
      rcases List.mem_cons.1 hb with rfl | hb
      · exact hxa
      · exact List.lt_trans hxa (h1.1 b hb)
theorem insBy_find (x : α) (l : List α) (k : List UInt8) (hn : ∀ a ∈ l, key a ≠ key x) : (insBy key x l).find? (fun a => key a == k) = if k = key x then some x else l.find? (fun a => key a == k) := by
  induction l with
  | nil =>
    by_cases h : k = key x
    · subst h; simp [insBy]
    · have : ¬ key x = k := fun e => h e.symm
      simp [insBy, h, this]
  | cons a r ih =>
    have ih := ih (fun c hc => hn c (List.mem_cons_of_mem _ hc))
    have ha := hn a (by simp)
    unfold insBy
    split
    · rw [List.find?_cons, List.find?_cons, ih]
      by_cases h : k = key x
      · subst h
        have : (key a == key x) = false := by simpa using ha
        rw [this]
        try simp
      · rw [if_neg h, if_neg h]
    · rw [List.find?_cons (a := x)]
      by_cases h : k = key x
      · subst h; simp
      · have : (key x == k) = false := by simpa using fun e : key x = k => h e.symm
        rw [this, if_neg h]
/-- The one with key k is turned into another with that key. -/
def putBy (k : List UInt8) (x : α) (l : List α) : List α := l.map fun a => if key a == k then x else a
theorem putBy_find (k : List UInt8) (x : α) (l : List α) (hx : key x = k) (k' : List UInt8) : (putBy key k x l).find? (fun a => key a == k') = if k' = k then (l.find? (fun a => key a == k)).map (fun _ => x) else l.find? (fun a => key a == k') := by
  induction l with
  | nil => simp [putBy]
  | cons a r ih =>
    unfold putBy at ih ⊢
    rw [List.map_cons, List.find?_cons, ih, List.find?_cons, List.find?_cons]
    by_cases ha : key a = k
    · have e1 : (key a == k) = true := by simpa using ha
      rw [e1]
      simp only [if_true, hx]
      by_cases h : k' = k
      · subst h; simp
      · have : (k == k') = false := by simpa using fun e : k = k' => h e.symm
        have h3 : (key a == k') = false := by rw [ha]; exact this
        rw [this, if_neg h, if_neg h, h3]
    · have e1 : (key a == k) = false := by simpa using ha
      rw [e1]
      simp only [Bool.false_eq_true, if_false]
      by_cases h : k' = k
      · subst h; rw [e1]
      · rw [if_neg h, if_neg h]
theorem putBy_keys (k : List UInt8) (x : α) (l : List α) (hx : key x = k) : (putBy key k x l).map key = l.map key := by
  unfold putBy
  rw [List.map_map]
  apply List.map_congr_left
  intro a _
  show key (if key a == k then x else a) = key a
  split
  · rename_i h; rw [hx]; exact (by simpa using h : key a = k).symm
  · rfl
theorem sorted_keys (l : List α) : l.Pairwise (fun a b => key a < key b) ↔ (l.map key).Pairwise (· < ·) := by rw [List.pairwise_map]
theorem putBy_map (f : α → β) (key' : β → List UInt8) (h : ∀ a, key' (f a) = key a) (k : List UInt8) (x : α) (l : List α) : (putBy key k x l).map f = putBy key' k (f x) (l.map f) := by
  unfold putBy
  rw [List.map_map, List.map_map]
  apply List.map_congr_left
  intro a _
  show f (if key a == k then x else a) = if key' (f a) == k then f x else f a
  rw [h]
  split <;> rfl
def delBy (k : List UInt8) (l : List α) : List α := l.filter fun a => !(key a == k)
theorem delBy_find (k : List UInt8) (l : List α) (k' : List UInt8) : (delBy key k l).find? (fun a => key a == k') = if k' = k then none else l.find? (fun a => key a == k') := by
  unfold delBy
  induction l with
  | nil => simp
  | cons a r ih =>
    rw [List.filter_cons, List.find?_cons]
    by_cases ha : key a = k
    · have e1 : (key a == k) = true := by simpa using ha
      rw [e1]
      simp only [Bool.not_true, Bool.false_eq_true, if_false]
      rw [ih]
      by_cases h : k' = k
      · rw [if_pos h, if_pos h]
      · rw [if_neg h, if_neg h]
        have : (key a == k') = false := by rw [ha]; simpa using fun e : k = k' => h e.symm
        rw [this]
    · have e1 : (key a == k) = false := by simpa using ha
      rw [e1]
      simp only [Bool.not_false, if_true]
      rw [List.find?_cons, ih]
      by_cases h : k' = k
      · subst h; rw [e1]; try simp
      · rw [if_neg h, if_neg h]
theorem delBy_map (f : α → β) (key' : β → List UInt8) (h : ∀ a, key' (f a) = key a) (k : List UInt8) (l : List α) : (delBy key k l).map f = delBy key' k (l.map f) := by
  unfold delBy
  rw [List.filter_map]
  congr 1
  apply List.filter_congr
  intro a _
  show (!(key a == k)) = !(key' (f a) == k)
  rw [h]
theorem delBy_length (k : List UInt8) (l : List α) (hs : l.Pairwise (fun a b => key a < key b)) : (delBy key k l).length = if (l.find? (fun a => key a == k)).isSome then l.length - 1 else l.length := by
  unfold delBy
  induction l with
  | nil => simp
  | cons a r ih =>
    have h1 := List.pairwise_cons.1 hs
    rw [List.filter_cons, List.find?_cons]
    by_cases ha : key a = k
    · have e1 : (key a == k) = true := by simpa using ha
      rw [e1]
      simp only [Bool.not_true, Bool.false_eq_true, if_false, Option.isSome_some, if_true, List.length_cons, Nat.add_sub_cancel]
      rw [List.filter_eq_self.2]
      intro b hb
      have := h1.1 b hb
      rw [ha] at this
      simpa using fun e : key b = k => by rw [e] at this; exact List.lt_irrefl _ this
    · have e1 : (key a == k) = false := by simpa using ha
      rw [e1]
      simp only [Bool.not_false, if_true, List.length_cons]
      rw [ih h1.2]
      split
      · rename_i h
        have : 0 < r.length := by
          cases r with
          | nil => simp at h
          | cons _ _ => simp
        omega
      · rfl
end
end Go.Proofs.Ytjfnkjpnjiobjaa
namespace Go.Proofs.Ytjfnkjpnjiobjaa
open Go.RowKit
theorem nm_one {T : List Pl} (hs : T.Pairwise (fun a b => a.nm < b.nm)) {a b : Pl} (ha : a ∈ T) (hb : b ∈ T) (h : a.nm = b.nm) : a = b := by
  induction T with
  | nil => cases ha
  | cons c r ih =>
    have h1 := List.pairwise_cons.1 hs
    rcases List.mem_cons.1 ha with rfl | ha'
    · rcases List.mem_cons.1 hb with rfl | hb'
      · rfl
      · have := h1.1 b hb'; rw [h] at this; exact absurd this (List.lt_irrefl _)
    · rcases List.mem_cons.1 hb with rfl | hb'
      · have := h1.1 a ha'; rw [h] at this; exact absurd this (List.lt_irrefl _)
      · exact ih h1.2 ha' hb'
theorem StX.bm {w : World} {b mb : Nat} {T : List Pl} (h : StX w b mb T) : b ≠ mb := by
  intro e
  obtain ⟨D, ⟨es, clock, hh, _⟩, _⟩ := h.map.ex
  have := h.cells
  unfold Cells at this
  rw [e, hh] at this
  cases this
/-- What an operation on a store does to the world. -/
structure Op17 (w w' : World) (b mb : Nat) (T T' : List Pl) : Prop where
  st : StX w' b mb T'
  ho : Only (allX b mb T) w w'
  new : ∀ x ∈ allX b mb T', x ∈ allX b mb T ∨ w.heap.size ≤ x
theorem Op17.same {w w' : World} {b mb : Nat} {T : List Pl} (h : StX w b mb T) (ho : Only [] w w') : Op17 w w' b mb T T :=
  ⟨h.keep ho (by simp), ho.of0, fun x hx => .inl hx⟩
theorem mem_putBy {k : List UInt8} {t' a : Pl} {T : List Pl} (h : a ∈ putBy Pl.nm k t' T) : a = t' ∨ (a ∈ T ∧ a.nm ≠ k) := by
  unfold putBy at h
  obtain ⟨c, hc, rfl⟩ := List.mem_map.1 h
  by_cases hk : c.nm = k
  · left; rw [if_pos (by simpa using hk)]
  · right; rw [if_neg (by simpa using hk)]; exact ⟨hc, hk⟩
theorem StX.put {w w' : World} {b mb : Nat} {T : List Pl} {k : List UInt8} {t t' : Pl} (h : StX w b mb T) (hf : fT T k = some t) (hnm : t'.nm = t.nm) (hp : t'.p = t.p) (hm : t'.m = t.m) (hfd : FdAt w' t'.p t'.m t'.v t'.fd) (ho : Only t.own w w') (hnew : NewOf w t.v t'.v) :
    Op17 w w' b mb T (putBy Pl.nm k t' T) := by
  obtain ⟨ht, hk⟩ := fT_mem hf
  have hpo : ∀ x ∈ t'.own, x ∈ t.own ∨ w.heap.size ≤ x := by
    intro x hx
    simp only [Pl.own, List.cons_append, List.nil_append, List.mem_cons] at hx ⊢
    rcases hx with rfl | rfl | hx
    · left; left; exact hp
    · left; right; left; exact hm
    · rcases hnew x (by simpa [rb] using hx) with h | h
      · left; right; right; simpa [rb] using h
      · right; exact h
  have hlts := h.lts
  have hkeep : ∀ a ∈ T, a.nm ≠ k → ∀ x ∈ a.own, x ∉ t.own := fun a ha hne => h.dis a ha t ht (by rw [hk]; exact hne)
  have hlt' : ∀ a ∈ T, ∀ x ∈ a.own, x < w.heap.size := fun a ha x hx => hlts x (own_mem ha hx)
  refine ⟨⟨h.cells.only ho (h.dib t ht).1, ?_, ?_, ?_, ?_, ?_, ?_, ?_⟩, ?_, ?_⟩
  · have : ptT (putBy Pl.nm k t' T) = ptT T := by
      funext k'
      unfold ptT fT
      rw [putBy_find Pl.nm k t' T (by rw [hnm, hk])]
      by_cases he : k' = k
      · subst he
        rw [if_pos rfl]
        unfold fT at hf
        rw [hf]
        show some (Value.pointer (some ⟨t'.p, 0, none⟩)) = some (Value.pointer (some ⟨t.p, 0, none⟩))
        rw [hp]
      · rw [if_neg he]
    rw [this, show (putBy Pl.nm k t' T).length = T.length from by unfold putBy; simp]
    exact h.map.only ho (h.dib t ht).2
  · intro a ha
    rcases mem_putBy ha with rfl | ⟨ha, hne⟩
    · exact hfd
    · exact (h.fds a ha).keep ho (hkeep a ha hne)
  · rw [sorted_keys Pl.nm, putBy_keys Pl.nm k t' T (by rw [hnm, hk]), ← sorted_keys]; exact h.srt
  · intro a ha c hc hne x hx
    rcases mem_putBy ha with rfl | ⟨ha2, hna⟩
    · rcases mem_putBy hc with rfl | ⟨hc2, hnc⟩
      · exact absurd rfl hne
      · intro hxc
        rcases hpo x hx with h1 | h1
        · exact hkeep c hc2 hnc x hxc h1
        · have := hlt' c hc2 x hxc; omega
    · rcases mem_putBy hc with rfl | ⟨hc2, hnc⟩
      · intro hxc
        rcases hpo x hxc with h1 | h1
        · exact hkeep a ha2 hna x hx h1
        · have := hlt' a ha2 x hx; omega
      · exact h.dis a ha2 c hc2 hne x hx
  · intro a ha
    rcases mem_putBy ha with rfl | ⟨ha, _⟩
    · have hd := h.dib t ht
      have hb1 := h.cells.lt
      have hb2 := h.map.lt
      refine ⟨fun hx => ?_, fun hx => ?_⟩
      · rcases hpo _ hx with h1 | h1
        · exact hd.1 h1
        · omega
      · rcases hpo _ hx with h1 | h1
        · exact hd.2 h1
        · omega
    · exact h.dib a ha
  · unfold putBy; rw [List.length_map]; exact h.cap
  · intro a ha
    rcases mem_putBy ha with rfl | ⟨ha, _⟩
    · rw [hnm]; exact h.nml t ht
    · exact h.nml a ha
  · exact ho.mono fun x hx => .inl (own_mem ht hx)
  · intro x hx
    unfold allX at hx
    simp only [List.mem_cons] at hx
    rcases hx with rfl | rfl | hx
    · left; simp [allX]
    · left; simp [allX]
    · obtain ⟨a, ha, hxa⟩ := List.mem_flatMap.1 hx
      rcases mem_putBy ha with rfl | ⟨ha2, _⟩
      · exact (hpo x hxa).imp (own_mem ht) id
      · exact .inl (own_mem ha2 hxa)
set_option maxRecDepth 100000 in
theorem store_fresh (w : World) : Calls Try.prog 88 #[] w fun e w' => e = .returned (.pointer (some ⟨w.heap.size + 1, 0, none⟩)) ∧ w' = (w.alloc (.map #[] 0)).alloc (.cells #[.int .i64 (-1), .int .i64 0, .slice none 0 0, .map (some w.heap.size)] 99) := by
  have hmm := @run_makeMap Try.prog
  go_enter Try.func88, Try.ntmps88
  go_wp2_with fail
  go_ret
  exact ⟨by simp, rfl⟩
theorem fresh_at (w : World) : FdAt ((w.alloc (.map #[] 0)).alloc (.cells #[.int .i64 (-1), .int .i64 0, .slice none 0 0, .map (some w.heap.size)] 99)) (w.heap.size + 1) w.heap.size (.slice none 0 0) ⟨-1, 0, []⟩ := by
  refine ⟨?_, World.ownsRow_nil _ _ _ _, ?_, by simp, by simp⟩
  · have := Cells.new (w.alloc (.map #[] 0)) 99 [.int .i64 (-1), .int .i64 0, .slice none 0 0, .map (some w.heap.size)]
    rw [World.size_alloc] at this
    exact this
  · exact (MapF.made w).only ((Only.refl [] _).alloc _) (by simp)
set_option maxRecDepth 100000 in
theorem store_new (w : World) : Calls Try.prog 17 #[] w fun e w' => e = .returned (.pointer (some ⟨w.heap.size + 1, 0, none⟩)) ∧ StX w' (w.heap.size + 1) w.heap.size [] ∧ Only [] w w' := by
  have hmm := @run_makeMap Try.prog
  have hs : StX ((w.alloc (.map #[] 0)).alloc (.cells #[.map (some w.heap.size)] 91)) (w.heap.size + 1) w.heap.size [] := by
    refine ⟨?_, ?_, by simp, List.Pairwise.nil, by simp, by simp, by simp, by simp⟩
    · have := Cells.new (w.alloc (.map #[] 0)) 91 [.map (some w.heap.size)]
      rw [World.size_alloc] at this
      exact this
    · exact (MapF.made w).only ((Only.refl [] _).alloc _) (by simp)
  have HS := Lib.hid hs
  clear hs
  go_enter Try.func17, Try.ntmps17
  go_wp2_with fail
  go_ret
  exact ⟨by simp, HS.out, ((Only.refl [] w).alloc _).alloc _⟩
end Go.Proofs.Ytjfnkjpnjiobjaa
namespace Go.Proofs.Ytjfnkjpnjiobjaa
open Go.RowKit
def failF (f : Fd) (now : Int) : Fd := ⟨now, min (f.fai + 1) 1000, f.ps⟩
def withF (t : Pl) (f : Fd) : Pl := ⟨t.nm, f, t.p, t.m, t.v⟩
/-- The answer of an operation that asks find first. -/
def fndE (o : Option Pl) (now : Int) : Int := match o with
  | none => 4
  | some _ => if okT now then 0 else 1
theorem fndV_none {T : List Pl} {k : List UInt8} (now : Int) (h : fT T k = none) : fndV (fT T k) now = .tuple #[.pointer none, .int .i64 4] := by rw [h]; rfl
theorem fndV_bad {T : List Pl} {k : List UInt8} {t : Pl} {now : Int} (h : fT T k = some t) (hn : okT now = false) : fndV (fT T k) now = .tuple #[.pointer none, .int .i64 1] := by rw [h]; unfold fndV; rw [hn]; rfl
theorem fndV_ok {T : List Pl} {k : List UInt8} {t : Pl} {now : Int} (h : fT T k = some t) (hn : okT now = true) : fndV (fT T k) now = .tuple #[.pointer (some ⟨t.p, 0, none⟩), .int .i64 0] := by rw [h]; unfold fndV; rw [hn]; rfl
theorem okT_iff {now : Int} : okT now = true ↔ 0 ≤ now ∧ now ≤ 1099511627776 := by unfold okT; simp
def failT (T : List Pl) (k : List UInt8) (now : Int) : List Pl := match fT T k with
  | none => T
  | some t => if okT now then putBy Pl.nm k (withF t (failF t.fd now)) T else T
set_option maxRecDepth 100000 in
theorem store_fail (b mb : Nat) (T : List Pl) (k : List UInt8) (hk : k.length ≤ maxLen) (now : Int) (w : World) (h : StX w b mb T) :
    Calls Try.prog 47 #[.pointer (some ⟨b, 0, none⟩), .string ⟨k.toArray⟩, .int .i64 now] w fun e w' => e = .returned (.int .i64 (fndE (fT T k) now)) ∧ Op17 w w' b mb T (failT T k now) := by
  have CF := Lib.hid (store_find b mb T k hk now w h)
  have HX := Lib.hid h
  cases hf : fT T k with
  | none =>
    rw [fndV_none now hf] at CF
    have hT : failT T k now = T := by unfold failT; rw [hf]
    rw [hT]
    go_enter Try.func47, Try.ntmps47
    go_wp2_with fail
    refine CF.out.mono ?_
    rintro e w1 ⟨rfl, rfl⟩
    go_wp2_with fail
    go_ret
    exact ⟨rfl, Op17.same HX.out (Only.refl _ _)⟩
  | some t =>
    cases hn : okT now with
    | false =>
      rw [fndV_bad hf hn] at CF
      have hT : failT T k now = T := by unfold failT; rw [hf]; show (if okT now = true then _ else _) = _; rw [hn]; rfl
      have hE : fndE (some t) now = 1 := by unfold fndE; rw [hn]; rfl
      rw [hT, hE]
      go_enter Try.func47, Try.ntmps47
      go_wp2_with fail
      refine CF.out.mono ?_
      rintro e w1 ⟨rfl, rfl⟩
      go_wp2_with fail
      go_ret
      exact ⟨rfl, Op17.same HX.out (Only.refl _ _)⟩
    | true =>
      rw [fndV_ok hf hn] at CF
      have hT : failT T k now = putBy Pl.nm k (withF t (failF t.fd now)) T := by unfold failT; rw [hf]; show (if okT now = true then _ else _) = _; rw [hn]; rfl
      have hE : fndE (some t) now = 0 := by unfold fndE; rw [hn]; rfl
      rw [hT, hE]
      have ht := (fT_mem hf).1
      have hfd := h.fds t ht
      have hnb := hfd.nb
      obtain ⟨hn0, hn1⟩ := okT_iff.1 hn
      have p1 := hfd.cells.cell (k := 1) rfl
      have p0 := hfd.cells.cell (k := 0) rfl
      have f0 := hfd.cells.frozen 0
      have hlt := hfd.cells.lt
      obtain ⟨w2, hw2⟩ : ∃ w2, w.setCell ⟨t.p, 0, none⟩ (.int .i64 now) = w2 := ⟨_, rfl⟩
      have c2 : Cells w2 t.p 99 _ := hw2 ▸ hfd.cells.set 0 (.int .i64 now)
      have p2 := c2.cell (k := 1) rfl
      have f2 := c2.frozen 1
      have l2 := c2.lt
      obtain ⟨mn, hmn⟩ : ∃ mn, min (t.fd.fai + 1) 1000 = mn := ⟨_, rfl⟩
      obtain ⟨w3, hw3⟩ : ∃ w3, w2.setCell ⟨t.p, 1, none⟩ (.int .i64 mn) = w3 := ⟨_, rfl⟩
      have c3 : Cells w3 t.p 99 [.int .i64 now, .int .i64 mn, t.v, .map (some t.m)] := hw3 ▸ c2.set 1 (.int .i64 mn)
      have ho : Only [t.p] w w3 := hw3 ▸ (hw2 ▸ (Only.refl _ _).setCell (p := ⟨t.p, 0, none⟩) (.inl (by simp)) _).setCell (p := ⟨t.p, 1, none⟩) (.inl (by simp)) _
      have hvp := hfd.vp
      have hpm := hfd.pm
      have hfd3 : FdAt w3 t.p t.m t.v (failF t.fd now) := by
        refine ⟨?_, own_keep hfd.row ho (by simpa using hvp), hfd.map.only ho (by simpa using fun e => hpm e.symm), hfd.cap, ?_⟩
        · unfold failF
          rw [hmn]; exact c3
        · unfold failF
          exact ⟨by show -1 ≤ now; omega, by show now ≤ _; omega, by show 0 ≤ min _ _; omega, by show min _ _ ≤ _; omega⟩
      have HF := Lib.hid (HX.out.put (t' := withF t (failF t.fd now)) hf rfl rfl rfl hfd3 (ho.mono (fun x hx => .inl (by simp at hx; subst hx; simp [Pl.own]))) (NewOf.refl _ _))
      clear hfd3 ho hvp hpm c2 c3 hfd h
      go_enter Try.func47, Try.ntmps47
      go_wp2_with fail
      refine CF.out.mono ?_
      rintro e w1 ⟨rfl, rfl⟩
      go_wp2_with fail
      go_ret
      exact ⟨rfl, HF.out⟩
end Go.Proofs.Ytjfnkjpnjiobjaa
namespace Go.Proofs.Ytjfnkjpnjiobjaa
open Go.RowKit
def Po.mark (x : Po) : Po := ⟨x.sq, x.it, true⟩
def markAt (ps : List Po) (i : Nat) : List Po := match ps[i]? with
  | some x => ps.set i x.mark
  | none => ps
def markF (f : Fd) (i : Nat) : Fd := ⟨f.pol, f.fai, markAt f.ps i⟩
def markT (T : List Pl) (k id : List UInt8) : List Pl := match fT T k with
  | none => T
  | some t => match idx t.fd.ps id with
    | none => T
    | some i => putBy Pl.nm k (withF t (markF t.fd i)) T
def markE (o : Option Pl) (id : List UInt8) : Int := match o with
  | none => 4
  | some t => if (idx t.fd.ps id).isSome then 0 else 4
theorem markAt_some {ps : List Po} {i : Nat} {x : Po} (h : ps[i]? = some x) : markAt ps i = ps.set i x.mark := by unfold markAt; rw [h]
theorem markAt_length (ps : List Po) (i : Nat) : (markAt ps i).length = ps.length := by
  unfold markAt
  split <;> simp
theorem idx_ids {ps qs : List Po} (h : ps.map (·.it.id) = qs.map (·.it.id)) (k : List UInt8) : idx ps k = idx qs k := by
  have e : ∀ l : List Po, idx l k = (l.map (·.it.id)).findIdx? (fun s => s == k) := by
    intro l
    unfold idx
    rw [List.findIdx?_map]
    rfl
  rw [e, e, h]
theorem markAt_ids (ps : List Po) (i : Nat) : (markAt ps i).map (·.it.id) = ps.map (·.it.id) := by
  unfold markAt
  split
  · rename_i x hx
    obtain ⟨hi, rfl⟩ := List.getElem?_eq_some_iff.1 hx
    rw [List.map_set]
    apply List.ext_getElem
    · simp
    · intro j h1 h2
      rw [List.getElem_set]
      split
      · subst_vars; simp [Po.mark]
      · rfl
  · rfl
theorem atF_ids {ps qs : List Po} (h : ps.map (·.it.id) = qs.map (·.it.id)) : atF ps = atF qs := by
  funext k
  unfold atF
  rw [idx_ids h]
theorem idx_lt {ps : List Po} {k : List UInt8} {i : Nat} (h : idx ps k = some i) : i < ps.length := by
  unfold idx at h
  exact (List.findIdx?_eq_some_iff_getElem.1 h).1
set_option maxRecDepth 100000 in
set_option maxHeartbeats 1000000 in
theorem store_mark (b mb : Nat) (T : List Pl) (k : List UInt8) (hk : k.length ≤ maxLen) (id : List UInt8) (hid : id.length ≤ maxLen) (w : World) (h : StX w b mb T) :
    Calls Try.prog 25 #[.pointer (some ⟨b, 0, none⟩), .string ⟨k.toArray⟩, .string ⟨id.toArray⟩] w fun e w' => e = .returned (.int .i64 (markE (fT T k) id)) ∧ Op17 w w' b mb T (markT T k id) := by
  have CF := Lib.hid (store_find b mb T k hk 0 w h)
  have HX := Lib.hid h
  cases hf : fT T k with
  | none =>
    rw [fndV_none 0 hf] at CF
    have hT : markT T k id = T := by unfold markT; rw [hf]
    rw [hT]
    go_enter Try.func25, Try.ntmps25
    go_wp2_with fail
    refine CF.out.mono ?_
    rintro e w1 ⟨rfl, rfl⟩
    go_wp2_with fail
    go_ret
    exact ⟨rfl, Op17.same HX.out (Only.refl _ _)⟩
  | some t =>
    rw [fndV_ok hf (by decide)] at CF
    have ht := (fT_mem hf).1
    have hfd := h.fds t ht
    have p3 := hfd.cells.cell (k := 3) rfl
    have hlk := hfd.map.lookOk (t := 97) (e := 3) (z := .int .i64 0) Try.underlying97 (Try.zeroValue3 w) id hid
    cases hi : idx t.fd.ps id with
    | none =>
      rw [show atF t.fd.ps id = none from by unfold atF; rw [hi]; rfl] at hlk
      have hT : markT T k id = T := by unfold markT; rw [hf]; dsimp only; rw [hi]
      have hE : markE (some t) id = 4 := by unfold markE; dsimp only; rw [hi]; rfl
      rw [hT, hE]
      clear h
      go_enter Try.func25, Try.ntmps25
      go_wp2_with fail
      refine CF.out.mono ?_
      rintro e w1 ⟨rfl, rfl⟩
      go_wp2_with fail
      go_ret
      exact ⟨rfl, Op17.same HX.out (Only.refl _ _)⟩
    | some i =>
      rw [show atF t.fd.ps id = some (.int .i64 (i : Int)) from by unfold atF; rw [hi]; rfl] at hlk
      have hT : markT T k id = putBy Pl.nm k (withF t (markF t.fd i)) T := by unfold markT; rw [hf]; dsimp only; rw [hi]
      have hE : markE (some t) id = 0 := by unfold markE; dsimp only; rw [hi]; rfl
      have hil := idx_lt hi
      obtain ⟨x, hx⟩ : ∃ x, t.fd.ps[i]? = some x := ⟨_, List.getElem?_eq_getElem hil⟩
      obtain ⟨g, cap, hv⟩ := own_formX hfd.row (by omega)
      have hrow := hfd.row
      rw [hv] at hrow
      have p2 := hfd.cells.cell (k := 2) rfl
      rw [hv] at p2
      have q4 : w.cell? ⟨g, i * 5 + 4, none⟩ = some (.bool x.rd) := by
        have := hrow.cells (g := g) rfl (i * 5 + 4) _ (poL_get t.fd.ps i 4 x hx (by omega))
        rw [Addr.add_lit, Nat.zero_add] at this
        exact this
      have f4 : w.frozen? ⟨g, i * 5 + 4, none⟩ = false := hrow.frozenAt _
      have lg : g < w.heap.size := (hrow.lt g rfl).2
      obtain ⟨w3, hw3⟩ : ∃ w3, w.setCell ⟨g, i * 5 + 4, none⟩ (.bool true) = w3 := ⟨_, rfl⟩
      have ho : Only [g] w w3 := hw3 ▸ (Only.refl _ _).setCell (p := ⟨g, i * 5 + 4, none⟩) (.inl (by simp)) _
      have hvp := hfd.vp
      have hvm := hfd.vm
      rw [hv] at hvp hvm
      have hfd3 : FdAt w3 t.p t.m t.v (markF t.fd i) := by
        refine ⟨hfd.cells.only ho (by simpa [Value.ownBlock] using fun e => hvp (by simp [Value.ownBlock, e])), ?_, ?_, ?_, hfd.nb⟩
        · have h1 := (hrow.stored (i * 5 + 4) (.bool true)).1
          have hfs : (poL t.fd.ps).set (i * 5 + 4) (.bool true) = poL (t.fd.ps.set i x.mark) := flat_set Po.cells 5 (fun _ => rfl) t.fd.ps i 4 x x.mark (.bool true) hx (by omega) rfl
          rw [hfs, hw3] at h1
          show World.ownsRow w3 _ _ _ _ (markAt t.fd.ps i).length (poL (markAt t.fd.ps i))
          rw [markAt_length, markAt_some hx, hv]
          exact h1
        · show MapF w3 _ (markAt t.fd.ps i).length (atF (markAt t.fd.ps i))
          rw [markAt_length, atF_ids (markAt_ids _ _)]
          exact hfd.map.only ho (by simpa [Value.ownBlock] using fun e => hvm (by simp [Value.ownBlock, e]))
        · show (markAt t.fd.ps i).length ≤ 200
          rw [markAt_length]; exact hfd.cap
      have HF := Lib.hid (HX.out.put (t' := withF t (markF t.fd i)) hf rfl rfl rfl hfd3 (ho.mono (fun y hy => .inl (by simp at hy; subst hy; simp [Pl.own, hv, rb, Value.ownBlock]))) (NewOf.refl _ _))
      rw [hT, hE]
      clear hfd3 ho hvp hvm hfd hrow h
      go_enter Try.func25, Try.ntmps25
      go_wp2_with fail
      refine CF.out.mono ?_
      rintro e w1 ⟨rfl, rfl⟩
      have hil' : (i : Int) < (t.fd.ps.length : Int) := by omega
      go_wp2_with fail
      go_ret
      exact ⟨rfl, HF.out⟩
end Go.Proofs.Ytjfnkjpnjiobjaa
namespace Go.Proofs.Ytjfnkjpnjiobjaa
open Go.RowKit
theorem mem_delBy {k : List UInt8} {a : Pl} {T : List Pl} (h : a ∈ delBy Pl.nm k T) : a ∈ T := (List.mem_filter.1 h).1
theorem StX.del {w w' : World} {b mb : Nat} {T : List Pl} (h : StX w b mb T) (k : List UInt8) (hm : MapF w' mb (delBy Pl.nm k T).length (ptT (delBy Pl.nm k T))) (ho : Only [mb] w w') : Op17 w w' b mb T (delBy Pl.nm k T) := by
  have hbm := h.bm
  refine ⟨⟨h.cells.only ho (by simpa using hbm), hm, fun t ht => (h.fds t (mem_delBy ht)).keep ho (fun x hx => ?_), h.srt.sublist List.filter_sublist, fun t ht u hu => h.dis t (mem_delBy ht) u (mem_delBy hu), fun t ht => h.dib t (mem_delBy ht), Nat.le_trans (List.length_filter_le _ _) h.cap, fun t ht => h.nml t (mem_delBy ht)⟩, ho.mono (fun x hx => .inl (by simp at hx; subst hx; simp [allX])), fun x hx => ?_⟩
  · have := (h.dib t (mem_delBy ht)).2
    simp only [List.mem_cons, List.not_mem_nil, or_false]
    intro e
    subst e
    exact this hx
  · left
    unfold allX at hx
    simp only [List.mem_cons] at hx
    rcases hx with rfl | rfl | hx
    · simp [allX]
    · simp [allX]
    · obtain ⟨a, ha, hxa⟩ := List.mem_flatMap.1 hx
      exact own_mem (mem_delBy ha) hxa
def unT (T : List Pl) (k : List UInt8) : List Pl := match fT T k with
  | none => T
  | some _ => delBy Pl.nm k T
set_option maxRecDepth 100000 in
theorem store_unsub (b mb : Nat) (T : List Pl) (k : List UInt8) (hk : k.length ≤ maxLen) (w : World) (h : StX w b mb T) :
    Calls Try.prog 48 #[.pointer (some ⟨b, 0, none⟩), .string ⟨k.toArray⟩] w fun e w' => e = .returned (.int .i64 (if (fT T k).isSome = true then 0 else 4)) ∧ Op17 w w' b mb T (unT T k) := by
  have HX := Lib.hid h
  have c0 := h.cells.cell (k := 0) rfl
  have hlk := h.map.look (t := 89) (e := 92) (z := .pointer none) Try.underlying89 (Try.zeroValue92 w) k hk
  cases hf : fT T k with
  | none =>
    rw [show (ptT T k) = none from by unfold ptT; rw [hf]; rfl] at hlk
    have hT : unT T k = T := by unfold unT; rw [hf]
    rw [hT]
    clear h
    go_enter Try.func48, Try.ntmps48
    go_wp2_with fail
    go_ret
    exact ⟨rfl, Op17.same HX.out (Only.refl _ _)⟩
  | some t =>
    rw [show (ptT T k) = some (.pointer (some ⟨t.p, 0, none⟩)) from by unfold ptT; rw [hf]; rfl] at hlk
    have hT : unT T k = delBy Pl.nm k T := by unfold unT; rw [hf]
    obtain ⟨w3, hdr, hm3, ht3⟩ := h.map.drop (t := 89) (e := 92) Try.underlying89 k hk 0
    have hm3' : MapF w3 mb (delBy Pl.nm k T).length (ptT (delBy Pl.nm k T)) := by
      have e1 : ptT (delBy Pl.nm k T) = fun k' => if k' = k then none else ptT T k' := by
        funext k'
        unfold ptT fT
        rw [delBy_find]
        by_cases he : k' = k
        · rw [if_pos he, if_pos he]; rfl
        · rw [if_neg he, if_neg he]
      rw [e1, delBy_length Pl.nm k T h.srt]
      have e2 : (ptT T k).isSome = (T.find? (fun a => a.nm == k)).isSome := by unfold ptT fT; simp
      rw [← e2]
      exact hm3
    have HF := Lib.hid (h.del k hm3' (mapTurned_only ht3))
    rw [hT]
    clear hm3 hm3' ht3 h
    go_enter Try.func48, Try.ntmps48
    go_wp2_with fail
    go_ret
    exact ⟨rfl, HF.out⟩
theorem ptT_ins {T : List Pl} {t : Pl} (hn : fT T t.nm = none) : ptT (insBy Pl.nm t T) = fun k' => if k' = t.nm then some (.pointer (some ⟨t.p, 0, none⟩)) else ptT T k' := by
  have hne : ∀ a ∈ T, a.nm ≠ t.nm := fun a ha e => by
    have := List.find?_eq_none.1 hn a ha
    simp [e] at this
  funext k'
  unfold ptT fT
  rw [insBy_find Pl.nm t T k' hne]
  by_cases he : k' = t.nm
  · rw [if_pos he, if_pos he]; rfl
  · rw [if_neg he, if_neg he]
theorem StX.ins {w w2 w' : World} {b mb : Nat} {T : List Pl} {t : Pl} (h : StX w b mb T) (hn : fT T t.nm = none) (hnm : nmL t.nm = true) (hcap : T.length < 20) (h2 : Only [] w w2) (hfd : FdAt w2 t.p t.m t.v t.fd) (hnew : ∀ x ∈ t.own, w.heap.size ≤ x) (ho : Only [mb] w2 w') (hm : MapF w' mb (T.length + 1) (fun k' => if k' = t.nm then some (.pointer (some ⟨t.p, 0, none⟩)) else ptT T k')) :
    Op17 w w' b mb T (insBy Pl.nm t T) := by
  have hbm := h.bm
  have hne : ∀ a ∈ T, a.nm ≠ t.nm := fun a ha e => by
    have := List.find?_eq_none.1 hn a ha
    simp [e] at this
  have hmem : ∀ a, a ∈ insBy Pl.nm t T ↔ a = t ∨ a ∈ T := fun a => by rw [(insBy_perm Pl.nm t T).mem_iff, List.mem_cons]
  have hb := h.cells.lt
  have hml := h.map.lt
  have hlts := h.lts
  have hol : ∀ a ∈ T, ∀ x ∈ a.own, x < w.heap.size := fun a ha x hx => hlts x (own_mem ha hx)
  have k2 := h.keep h2 (by simp)
  refine ⟨⟨k2.cells.only ho (by simpa using hbm), ?_, ?_, insBy_sorted Pl.nm t T h.srt hne, ?_, ?_, ?_, ?_⟩, ?_, ?_⟩
  · rw [insBy_length, ptT_ins hn]; exact hm
  · intro a ha
    rcases (hmem a).1 ha with rfl | ha
    · exact hfd.keep ho (fun x hx => by have := hnew x hx; simp only [List.mem_cons, List.not_mem_nil, or_false]; omega)
    · exact (k2.fds a ha).keep ho (fun x hx => by
        have := (h.dib a ha).2
        simp only [List.mem_cons, List.not_mem_nil, or_false]
        intro e; subst e; exact this hx)
  · intro a ha c hc hac x hx
    rcases (hmem a).1 ha with rfl | ha2
    · rcases (hmem c).1 hc with rfl | hc2
      · exact absurd rfl hac
      · intro hxc
        have := hnew x hx
        have := hol c hc2 x hxc
        omega
    · rcases (hmem c).1 hc with rfl | hc2
      · intro hxc
        have := hnew x hxc
        have := hol a ha2 x hx
        omega
      · exact h.dis a ha2 c hc2 hac x hx
  · intro a ha
    rcases (hmem a).1 ha with rfl | ha2
    · exact ⟨fun hx => by have := hnew _ hx; omega, fun hx => by have := hnew _ hx; omega⟩
    · exact h.dib a ha2
  · rw [insBy_length]; omega
  · intro a ha
    rcases (hmem a).1 ha with rfl | ha2
    · exact hnm
    · exact h.nml a ha2
  · exact (h2.of0).trans ho (fun x hx => .inl (by simp at hx; subst hx; simp [allX]))
  · intro x hx
    unfold allX at hx
    simp only [List.mem_cons] at hx
    rcases hx with rfl | rfl | hx
    · left; simp [allX]
    · left; simp [allX]
    · obtain ⟨a, ha, hxa⟩ := List.mem_flatMap.1 hx
      rcases (hmem a).1 ha with rfl | ha2
      · exact .inr (hnew x hxa)
      · exact .inl (own_mem ha2 hxa)
def subE (T : List Pl) (k : List UInt8) : Int := if nmL k = true then (if (fT T k).isSome = true then 5 else if T.length = 20 then 11 else 0) else 3
set_option maxRecDepth 100000 in
set_option maxHeartbeats 1000000 in
theorem store_sub (b mb : Nat) (T : List Pl) (k : List UInt8) (hk : k.length ≤ maxLen) (w : World) (h : StX w b mb T) :
    Calls Try.prog 46 #[.pointer (some ⟨b, 0, none⟩), .string ⟨k.toArray⟩] w fun e w' => e = .returned (.int .i64 (subE T k)) ∧ ∃ T', Op17 w w' b mb T T' ∧ T'.map (fun t => (t.nm, t.fd)) = (if subE T k = 0 then insBy Prod.fst (k, (⟨-1, 0, []⟩ : Fd)) (T.map fun t => (t.nm, t.fd)) else T.map fun t => (t.nm, t.fd)) := by
  have HX := Lib.hid h
  have CN := Lib.hid (fun w' => shard_name k w' (by unfold maxLen at hk; omega))
  have c0 := h.cells.cell (k := 0) rfl
  have hlk := h.map.look (t := 89) (e := 92) (z := .pointer none) Try.underlying89 (Try.zeroValue92 w) k hk
  cases hn : nmL k with
  | false =>
    have hE : subE T k = 3 := by unfold subE; rw [hn]; rfl
    rw [hE]
    simp only [hn] at CN
    clear h hlk
    go_enter Try.func46, Try.ntmps46
    go_wp2_with fail
    refine (CN.out _).mono ?_
    rintro e w1 ⟨rfl, rfl⟩
    go_wp2_with fail
    go_ret
    exact ⟨rfl, T, Op17.same HX.out (Only.refl _ _), rfl⟩
  | true =>
  simp only [hn] at CN
  cases hf : fT T k with
  | some t =>
    rw [show (ptT T k) = some (.pointer (some ⟨t.p, 0, none⟩)) from by unfold ptT; rw [hf]; rfl] at hlk
    have hE : subE T k = 5 := by unfold subE; rw [hn, hf]; rfl
    rw [hE]
    clear h
    go_enter Try.func46, Try.ntmps46
    go_wp2_with fail
    refine (CN.out _).mono ?_
    rintro e w1 ⟨rfl, rfl⟩
    go_wp2_with fail
    go_ret
    exact ⟨rfl, T, Op17.same HX.out (Only.refl _ _), rfl⟩
  | none =>
    rw [show (ptT T k) = none from by unfold ptT; rw [hf]; rfl] at hlk
    have hlen := h.map.len (t := 89) (e := 92) Try.underlying89
    by_cases h20 : T.length = 20
    · have hE : subE T k = 11 := by unfold subE; rw [hn, hf, h20]; rfl
      rw [hE]
      rw [h20] at hlen
      clear h
      go_enter Try.func46, Try.ntmps46
      go_wp2_with fail
      refine (CN.out _).mono ?_
      rintro e w1 ⟨rfl, rfl⟩
      go_wp2_with fail
      go_ret
      exact ⟨rfl, T, Op17.same HX.out (Only.refl _ _), rfl⟩
    · have hE : subE T k = 0 := by unfold subE; rw [hn, hf, if_neg h20]; rfl
      have hcap : T.length < 20 := by have := h.cap; omega
      have e20 : ((T.length : Int) == 20) = false := by simp; omega
      rw [hE]
      have hb := h.cells.lt
      have hml := h.map.lt
      have CF := Lib.hid (fun w' => store_fresh w')
      obtain ⟨w2, hw2⟩ : ∃ w2, (w.drew.alloc (.map #[] 0)).alloc (.cells #[.int .i64 (-1), .int .i64 0, .slice none 0 0, .map (some w.drew.heap.size)] 99) = w2 := ⟨_, rfl⟩
      have hO2 : Only [] w w2 := hw2 ▸ (((Only.refl [] w).drew).alloc _).alloc _
      have hfr : FdAt w2 (w.heap.size + 1) w.heap.size (.slice none 0 0) ⟨-1, 0, []⟩ := hw2 ▸ fresh_at w.drew
      have h2 := h.keep hO2 (by simp)
      have c2 := h2.cells.cell (k := 0) rfl
      obtain ⟨w3, hst, hm3, ht3⟩ := h2.map.store (t := 89) (e := 92) Try.underlying89 (by unfold maxLen; omega) k hk (.pointer (some ⟨w.heap.size + 1, 0, none⟩))
      rw [show (ptT T k).isSome = false from by unfold ptT; rw [hf]; rfl] at hm3
      have hF := h.ins (t := ⟨k, ⟨-1, 0, []⟩, w.heap.size + 1, w.heap.size, .slice none 0 0⟩) hf hn hcap hO2 hfr (by intro x hx; simp [Pl.own, rb, Value.ownBlock] at hx; omega) (mapTurned_only ht3) hm3
      have HF := Lib.hid hF
      have HW2 := Lib.hid hw2
      clear h hw2 hO2 hfr h2 hm3 ht3 hF
      go_enter Try.func46, Try.ntmps46
      go_wp2_with fail
      refine (CN.out _).mono ?_
      rintro e w1 ⟨rfl, rfl⟩
      go_wp2_with fail
      go_region_law (go_simp; go_at_call 88; go_loud (refine (CF.out _).mono ?_; rintro e w4 ⟨rfl, hw4⟩; have hw5 := hw4.trans HW2.out; clear hw4; subst hw5))
      all_goals
        go_wp2_with fail
        go_ret
        exact ⟨rfl, _, HF.out, insBy_map Pl.nm (fun t => (t.nm, t.fd)) Prod.fst (fun _ => rfl) _ _⟩
end Go.Proofs.Ytjfnkjpnjiobjaa
namespace Go.Proofs.Ytjfnkjpnjiobjaa
open Go.RowKit
set_option maxRecDepth 100000 in
theorem ingest1 (x : It) (hx : x.Len) (w : World) : Calls Try.prog 51 #[.agg #[.string ⟨x.id.toArray⟩, .string ⟨x.ti.toArray⟩, .string ⟨x.li.toArray⟩]] w fun e w' => e = .returned (.bool (!itR x)) ∧ Only [] w w' := by
  have C := Lib.hid (fun w' => feed_right x hx w')
  obtain ⟨r, hr⟩ : ∃ r, itR x = r := ⟨_, rfl⟩
  rw [hr] at C ⊢
  clear hr
  go_enter Try.func51, Try.ntmps51
  go_wp2_with fail
  refine (C.out _).mono ?_
  rintro e w1 ⟨rfl, ho⟩
  have HO := Lib.hid (((Only.refl [] w).alloc _).tr ho)
  clear ho
  go_wp2_with fail
  go_ret
  exact ⟨rfl, HO.out⟩
set_option maxRecDepth 100000 in
set_option maxHeartbeats 1000000 in
theorem indexFunc_it (v : Value) (l : List It) (w : World) (hs : SlAt w w.heap.size v 3 l.length (itL l)) (hl : l.length ≤ 1000000) (hx : ∀ x ∈ l, x.Len) :
    Calls Try.prog 89 #[v, .func (.func 51) #[] #[]] w fun e w' => (∃ i : Int, e = .returned (.int .i64 i) ∧ (decide (0 ≤ i) = l.any (fun x => !itR x))) ∧ Only [] w w' := by
  obtain ⟨A, c, rfl⟩ := hs.shape
  have HS := Lib.hid hs
  have HX := Lib.hid hx
  clear hs hx
  go_enter Try.func89, Try.ntmps89
  go_wp2_with fail
  go_loopw [8] (fun i wr => ∃ k : Nat, k ≤ l.length ∧ i = .int .i64 k ∧ Hid ((l.take k).any (fun x => !itR x) = false) ∧ Only [] w wr) (fun i _ => l.length - (intOf i).toNat)
  case atStart => exact ⟨0, by omega, rfl, Lib.hid rfl, Only.refl _ _⟩
  case round =>
    obtain ⟨k, hk, rfl, hno, ho⟩ := hrel
    by_cases hlt : k < l.length
    · have hlt' : (k : Int) < (l.length : Int) := by omega
      have hk1 := List.getElem?_eq_getElem hlt
      obtain ⟨x, hx⟩ : ∃ x, l[k] = x := ⟨_, rfl⟩
      have hxl := HX.out l[k] (List.getElem_mem _)
      rw [hx] at hk1 hxl
      obtain ⟨ab, ao, ac, hv, hab, hc⟩ := (HS.out.only ho (Nat.le_refl _) (by simp)).at_ (by omega)
      have q0 : wr.cell? ⟨ab, ao + k * 3, none⟩ = some (.string ⟨x.id.toArray⟩) := hc (k * 3 + 0) _ (itL_get l k 0 x hk1 (by omega))
      have q1 : wr.cell? ⟨ab, ao + k * 3 + 1, none⟩ = some (.string ⟨x.ti.toArray⟩) := hc (k * 3 + 1) _ (itL_get l k 1 x hk1 (by omega))
      have q2 : wr.cell? ⟨ab, ao + k * 3 + 2, none⟩ = some (.string ⟨x.li.toArray⟩) := hc (k * 3 + 2) _ (itL_get l k 2 x hk1 (by omega))
      have F1 := Lib.hid (ingest1 x hxl wr)
      have HT : Hid ((l.take (k + 1)).any (fun x => !itR x) = !itR x) := by show _ = _; rw [List.take_add_one, hk1, List.any_append, hno.out]; simp
      have HA : Hid ((!itR x) = true → l.any (fun x => !itR x) = true) := fun h => List.any_eq_true.2 ⟨x, List.mem_of_getElem? hk1, h⟩
      injection hv with e1 e2 e3
      subst e1; subst e3
      clear e2 hc hx hk1 hno
      obtain ⟨rb1, hb⟩ : ∃ rb1, (!itR x) = rb1 := ⟨_, rfl⟩
      rw [hb] at F1 HA HT
      clear hb
      cases rb1 with
      | true =>
        have HR := Lib.hid (HA.out rfl)
        clear HT HA
        go_wp2_with (go_at_call 51; refine F1.out.mono ?_; rintro e w1 ⟨rfl, ho1⟩)
        go_ret
        exact ⟨⟨k, rfl, by rw [HR.out]; simp⟩, ho.tr0 ho1⟩
      | false =>
        clear HA
        go_wp2_with (go_at_call 51; refine F1.out.mono ?_; rintro e w1 ⟨rfl, ho1⟩)
        go_roundw
        case rel => exact ⟨k + 1, by omega, by go_num, HT, ho.tr0 ho1⟩
        case measure => simp [intOf]; omega
    · have hd0 : decide ((k : Int) < (l.length : Int)) = false := by simp; omega
      have HF : Hid (l.any (fun x => !itR x) = false) := by have := hno.out; rwa [List.take_of_length_le (by omega)] at this
      clear hno
      go_wp2_with fail
      go_ret
      exact ⟨⟨-1, rfl, by rw [HF.out]; simp⟩, ho⟩
set_option maxRecDepth 100000 in
theorem containsFunc_it (v : Value) (l : List It) (w : World) (hs : SlAt w w.heap.size v 3 l.length (itL l)) (hl : l.length ≤ 1000000) (hx : ∀ x ∈ l, x.Len) :
    Calls Try.prog 50 #[v, .func (.func 51) #[] #[]] w fun e w' => e = .returned (.bool (!l.all itR)) ∧ Only [] w w' := by
  have C := Lib.hid (indexFunc_it v l w hs hl hx)
  have hall : (l.any fun x => !itR x) = !l.all itR := by rw [List.not_all_eq_any_not]
  rw [hall] at C
  obtain ⟨A, c, rfl⟩ := hs.shape
  clear hs hx hall
  obtain ⟨r, hr⟩ : ∃ r, (!l.all itR) = r := ⟨_, rfl⟩
  rw [hr] at C ⊢
  clear hr
  go_enter Try.func50, Try.ntmps50
  go_wp2_with fail
  refine C.out.mono ?_
  rintro e w1 ⟨⟨i, rfl, hi⟩, ho⟩
  have HI := Lib.hid hi
  clear hi
  go_wp2_with fail
  go_ret
  exact ⟨by rw [← HI.out]; rfl, ho⟩
end Go.Proofs.Ytjfnkjpnjiobjaa
namespace Go.Proofs.Ytjfnkjpnjiobjaa
open Go.RowKit
abbrev Sv := List (List UInt8 × Fd)
def prT (T : List Pl) : Sv := T.map fun t => (t.nm, t.fd)
def ingS (s : Fd × Nat) (x : It) : Fd × Nat := (addF s.1 x, if addB s.1 x then s.2 + 1 else s.2)
def ingF (f : Fd) (l : List It) : Fd × Nat := l.foldl ingS (f, 0)
def ingR (S : Sv) (k : List UInt8) (l : List It) (now : Int) : Int × Int × Sv := match fnd S k with
  | none => (0, 4, S)
  | some f => if okT now then (if l.all itR then ((ingF f l).2, 0, putBy Prod.fst k (k, ⟨now, 0, (ingF f l).1.ps⟩) S) else (0, 1, S)) else (0, 1, S)
theorem ingF_step (f : Fd) (l : List It) (k : Nat) (x : It) (h : l[k]? = some x) : ingF f (l.take (k + 1)) = ingS (ingF f (l.take k)) x := by
  unfold ingF
  rw [List.take_add_one, h, List.foldl_append]; rfl
theorem ingF_nb (f : Fd) (l : List It) : (ingF f l).1.pol = f.pol ∧ (ingF f l).1.fai = f.fai ∧ (ingF f l).2 ≤ l.length := by
  unfold ingF
  have : ∀ (l : List It) (s : Fd × Nat), (l.foldl ingS s).1.pol = s.1.pol ∧ (l.foldl ingS s).1.fai = s.1.fai ∧ (l.foldl ingS s).2 ≤ s.2 + l.length := by
    intro l
    induction l with
    | nil => intro s; simp
    | cons x r ih =>
      intro s
      obtain ⟨h1, h2, h3⟩ := ih (ingS s x)
      rw [List.foldl_cons]
      refine ⟨h1.trans ?_, h2.trans ?_, Nat.le_trans h3 ?_⟩
      · unfold ingS addF; dsimp only; split <;> rfl
      · unfold ingS addF; dsimp only; split <;> rfl
      · unfold ingS; dsimp only [List.length_cons]; split <;> omega
  simpa using this l (f, 0)
set_option maxRecDepth 100000 in
set_option maxHeartbeats 2000000 in
theorem store_ingest (b mb : Nat) (T : List Pl) (k : List UInt8) (hk : k.length ≤ maxLen) (v : Value) (l : List It) (now : Int) (w : World) (h : StX w b mb T) (hs : ∀ w', Only (allX b mb T) w w' → SlAt w' w'.heap.size v 3 l.length (itL l)) (hl : l.length ≤ 1000000) (hx : ∀ x ∈ l, x.Len) :
    Calls Try.prog 21 #[.pointer (some ⟨b, 0, none⟩), .string ⟨k.toArray⟩, v, .int .i64 now] w fun e w' =>
      e = .returned (.tuple #[.int .i64 (ingR (prT T) k l now).1, .int .i64 (ingR (prT T) k l now).2.1]) ∧ ∃ T', Op17 w w' b mb T T' ∧ prT T' = (ingR (prT T) k l now).2.2 := by
  obtain ⟨A, c, rfl⟩ := (hs w (Only.refl _ _)).shape
  have CF := Lib.hid (store_find b mb T k hk now w h)
  have CI := Lib.hid (fun w' (ho : Only [] w w') => containsFunc_it _ l w' (hs w' ho.of0) hl hx)
  have HX := Lib.hid h
  have hfn : fnd (prT T) k = (fT T k).map (·.fd) := fnd_fT T k
  cases hf : fT T k with
  | none =>
    rw [fndV_none now hf] at CF
    have hR : ingR (prT T) k l now = (0, 4, prT T) := by unfold ingR; rw [hfn, hf]; rfl
    rw [hR]
    clear h hs
    go_enter Try.func21, Try.ntmps21
    go_wp2_with fail
    refine CF.out.mono ?_
    rintro e w1 ⟨rfl, rfl⟩
    go_wp2_with fail
    go_ret2
    exact ⟨rfl, T, Op17.same HX.out (Only.refl _ _), rfl⟩
  | some t =>
  cases hn : okT now with
  | false =>
    rw [fndV_bad hf hn] at CF
    have hR : ingR (prT T) k l now = (0, 1, prT T) := by unfold ingR; rw [hfn, hf]; show (if okT now = true then _ else _) = _; rw [hn]; rfl
    rw [hR]
    clear h hs
    go_enter Try.func21, Try.ntmps21
    go_wp2_with fail
    refine CF.out.mono ?_
    rintro e w1 ⟨rfl, rfl⟩
    go_wp2_with fail
    go_ret2
    exact ⟨rfl, T, Op17.same HX.out (Only.refl _ _), rfl⟩
  | true =>
  rw [fndV_ok hf hn] at CF
  cases ha : l.all itR with
  | false =>
    have hR : ingR (prT T) k l now = (0, 1, prT T) := by unfold ingR; rw [hfn, hf]; show (if okT now = true then _ else _) = _; rw [hn, if_pos rfl, ha]; rfl
    rw [hR]
    simp only [ha] at CI
    clear h hs
    go_enter Try.func21, Try.ntmps21
    go_wp2_with fail
    refine CF.out.mono ?_
    rintro e w1 ⟨rfl, rfl⟩
    go_wp2_with fail
    refine (CI.out _ (Only.refl _ _)).mono ?_
    rintro e w2 ⟨rfl, ho2⟩
    have HO2 := Lib.hid ho2
    clear ho2
    go_wp2_with fail
    go_ret2
    exact ⟨rfl, T, Op17.same HX.out HO2.out, rfl⟩
  | true =>
  have hR : ingR (prT T) k l now = (((ingF t.fd l).2 : Int), (0 : Int), putBy Prod.fst k (k, ⟨now, 0, (ingF t.fd l).1.ps⟩) (prT T)) := by unfold ingR; rw [hfn, hf]; show (if okT now = true then _ else _) = _; rw [hn, if_pos rfl, ha]; rfl
  rw [hR]
  simp only [ha] at CI
  have ht := (fT_mem hf).1
  have HS := Lib.hid (fun w' (ho : Only t.own w w') => hs w' (ho.mono fun x hx => .inl (own_mem ht hx)))
  have HF := Lib.hid (h.fds t ht)
  obtain ⟨hn0, hn1⟩ := okT_iff.1 hn
  have HXL := Lib.hid hx
  clear h hs hR hx
  go_enter Try.func21, Try.ntmps21
  go_wp2_with fail
  refine CF.out.mono ?_
  rintro e w1 ⟨rfl, rfl⟩
  go_wp2_with fail
  refine (CI.out _ (Only.refl _ _)).mono ?_
  rintro e w2 ⟨rfl, ho2⟩
  have HO2 := Lib.hid ho2
  clear ho2
  go_wp2_with fail
  go_loopw [12, 29] (fun cn i wr => ∃ (j : Nat) (v : Value) (s : Fd × Nat), j ≤ l.length ∧ i = .int .i64 j ∧ cn = .int .i64 s.2 ∧ Hid (ingF t.fd (l.take j) = s) ∧ s.2 ≤ j ∧ Hid (FdAt wr t.p t.m v s.1) ∧ Hid (Only t.own w wr) ∧ Hid (NewOf w t.v v)) (fun _ i _ => l.length - (intOf i).toNat)
  case atStart => exact ⟨0, t.v, (t.fd, 0), by omega, rfl, rfl, Lib.hid rfl, by simp, Lib.hid (HF.out.only HO2.out (by simp) (by simp) (by simp)), Lib.hid HO2.out.of0, Lib.hid (NewOf.refl _ _)⟩
  case round =>
    obtain ⟨j, v, s, hj, rfl, rfl, hst, hsj, hfd, ho, hnw⟩ := hrel
    by_cases hlt : j < l.length
    · have hlt' : (j : Int) < (l.length : Int) := by omega
      have hk1 := List.getElem?_eq_getElem hlt
      obtain ⟨x, hx⟩ : ∃ x, l[j] = x := ⟨_, rfl⟩
      have hxl := HXL.out l[j] (List.getElem_mem _)
      rw [hx] at hk1 hxl
      obtain ⟨ab, ao, ac, hv, hab, hc⟩ := (HS.out wr ho.out).at_ (by omega)
      have q0 : wr.cell? ⟨ab, ao + j * 3, none⟩ = some (.string ⟨x.id.toArray⟩) := hc (j * 3 + 0) _ (itL_get l j 0 x hk1 (by omega))
      have q1 : wr.cell? ⟨ab, ao + j * 3 + 1, none⟩ = some (.string ⟨x.ti.toArray⟩) := hc (j * 3 + 1) _ (itL_get l j 1 x hk1 (by omega))
      have q2 : wr.cell? ⟨ab, ao + j * 3 + 2, none⟩ = some (.string ⟨x.li.toArray⟩) := hc (j * 3 + 2) _ (itL_get l j 2 x hk1 (by omega))
      have HT : Hid (ingF t.fd (l.take (j + 1)) = ingS s x) := by show _ = _; rw [ingF_step t.fd l j x hk1, hst.out]
      injection hv with e1 e2 e3
      subst e1; subst e3
      obtain ⟨w2, hw2⟩ : ∃ w2, wr.alloc (.cells #[.string ⟨x.id.toArray⟩, .string ⟨x.ti.toArray⟩, .string ⟨x.li.toArray⟩] 36) = w2 := ⟨_, rfl⟩
      have hO2 : Only [] wr w2 := hw2 ▸ (Only.refl _ _).alloc _
      obtain ⟨z, hz⟩ : ∃ z, wr.heap.size = z := ⟨_, rfl⟩
      have hzc : Cells w2 z 36 x.cells := hw2 ▸ hz ▸ Cells.new wr _ _
      have z0 := hzc.cell (k := 0) rfl
      have z1 := hzc.cell (k := 1) rfl
      have z2 := hzc.cell (k := 2) rfl
      have hF2 := hfd.out.only hO2 (by simp) (by simp) (by simp)
      have CA := Lib.hid (source_add t.p t.m v s.1 x hxl w2 hF2)
      have HO2 := Lib.hid (ho.out.trans hO2 (by simp))
      have HZ2 := Lib.hid hO2.size
      clear e2 hc hx hk1 hst hO2 hF2 hzc
      go_wp2_with fail
      clear hw2 q0 q1 q2 z0 z1 z2 hz
      refine CA.out.mono ?_
      rintro e w3 ⟨v', rfl, hfd', ho', hn'⟩
      have HFD := Lib.hid hfd'
      have hsz : w.heap.size ≤ w2.heap.size := HO2.out.size
      have HO3 : Hid (Only t.own w w3) := Lib.hid (HO2.out.trans ho' (by
        intro y hy
        simp only [List.cons_append, List.nil_append, List.mem_cons] at hy
        rcases hy with rfl | rfl | hy
        · left; simp [Pl.own]
        · left; simp [Pl.own]
        · rcases hnw.out y (by simpa [rb] using hy) with h | h
          · left; simp [Pl.own, rb, h]
          · right; exact h))
      have HN3 : Hid (NewOf w t.v v') := Lib.hid (fun g hg => by
        rcases hn' g hg with h | h
        · exact hnw.out g h
        · right; omega)
      clear hfd' ho' hn'
      obtain ⟨f1, n1⟩ := s
      have hsj : n1 ≤ j := hsj
      cases hb : addB f1 x with
      | true =>
        have HT2 : Hid (ingF t.fd (l.take (j + 1)) = (addF f1 x, n1 + 1)) := by show _ = _; rw [HT.out]; unfold ingS; dsimp only; rw [hb]; rfl
        have hwr : IntKind.i64.wrap ((n1 : Int) + 1) = (n1 : Int) + 1 := by rw [IntKind.wrap_i64]; omega
        clear HT hb
        go_wp2_with fail
        go_roundw
        case rel => exact ⟨j + 1, v', (addF f1 x, n1 + 1), by omega, by go_num, by show _ = Value.int .i64 ((n1 + 1 : Nat) : Int); go_num, HT2, by show n1 + 1 ≤ _; omega, HFD, HO3, HN3⟩
        case measure => simp [intOf]; omega
      | false =>
        have HT2 : Hid (ingF t.fd (l.take (j + 1)) = (addF f1 x, n1)) := by show _ = _; rw [HT.out]; unfold ingS; dsimp only; rw [hb]; rfl
        clear HT hb
        go_wp2_with fail
        go_roundw
        case rel => exact ⟨j + 1, v', (addF f1 x, n1), by omega, by go_num, rfl, HT2, by show n1 ≤ _; omega, HFD, HO3, HN3⟩
        case measure => simp [intOf]; omega
    · have hd0 : decide ((j : Int) < (l.length : Int)) = false := by simp; omega
      obtain rfl : j = l.length := by omega
      have hst2 : ingF t.fd l = s := by have := hst.out; rwa [List.take_length] at this
      have hfd := hfd.out
      have p0 := hfd.cells.cell (k := 0) rfl
      have f0 := hfd.cells.frozen 0
      have hlp := hfd.cells.lt
      obtain ⟨w2, hw2⟩ : ∃ w2, wr.setCell ⟨t.p, 0, none⟩ (.int .i64 now) = w2 := ⟨_, rfl⟩
      have c2 : Cells w2 t.p 99 _ := hw2 ▸ hfd.cells.set 0 (.int .i64 now)
      have p2 := c2.cell (k := 1) rfl
      have f2 := c2.frozen 1
      have l2 := c2.lt
      obtain ⟨w3, hw3⟩ : ∃ w3, w2.setCell ⟨t.p, 1, none⟩ (.int .i64 0) = w3 := ⟨_, rfl⟩
      have c3 : Cells w3 t.p 99 [.int .i64 now, .int .i64 0, v, .map (some t.m)] := hw3 ▸ c2.set 1 (.int .i64 0)
      have ho3 : Only [t.p] wr w3 := hw3 ▸ (hw2 ▸ (Only.refl _ _).setCell (p := ⟨t.p, 0, none⟩) (.inl (by simp)) _).setCell (p := ⟨t.p, 1, none⟩) (.inl (by simp)) _
      have hvp := hfd.vp
      have hpm := hfd.pm
      have hfd3 : FdAt w3 t.p t.m v ⟨now, 0, s.1.ps⟩ := by
        refine ⟨c3, own_keep hfd.row ho3 (by simpa using hvp), hfd.map.only ho3 (by simpa using fun e => hpm e.symm), hfd.cap, ?_⟩
        exact ⟨by show -1 ≤ now; omega, by show now ≤ _; omega, by show (0 : Int) ≤ 0; omega, by show (0 : Int) ≤ _; omega⟩
      have HP := Lib.hid (HX.out.put (t' := ⟨t.nm, ⟨now, 0, s.1.ps⟩, t.p, t.m, v⟩) hf rfl rfl rfl hfd3 (ho.out.trans ho3 (fun y hy => .inl (by simp at hy; subst hy; simp [Pl.own]))) hnw.out)
      have HK := Lib.hid ((fT_mem hf).2)
      have HS2 := Lib.hid hst2
      clear hst hst2 hfd3 ho3 hvp hpm c2 c3 hfd
      go_wp2_with fail
      go_ret2
      refine ⟨by rw [HS2.out]; rfl, _, HP.out, ?_⟩
      rw [HS2.out]
      show prT (putBy Pl.nm k _ T) = putBy Prod.fst k _ (prT T)
      unfold prT
      rw [putBy_map Pl.nm (fun t => (t.nm, t.fd)) Prod.fst (fun _ => rfl), HK.out]
end Go.Proofs.Ytjfnkjpnjiobjaa
namespace Go.Proofs.Ytjfnkjpnjiobjaa
open Go.RowKit
theorem nil_post0 (c : Nat) (w : World) : (binOp .eql 27 (.slice none 0 c) (.slice none 0 0)).run Try.prog w = .ok (.bool true) w := by kernel_rfl
theorem nil_post1 (A : Addr) (n c : Nat) (w : World) : (binOp .eql 27 (.slice (some A) n c) (.slice none 0 0)).run Try.prog w = .ok (.bool false) w := by kernel_rfl
attribute [local go_sem] nil_post0 nil_post1
theorem sl_nil {w : World} {B sz n c : Nat} {xs : List Value} (h : SlAt w B (.slice none n c) sz n xs) (hsz : 0 < sz) : n = 0 := by
  rcases Nat.eq_zero_or_pos n with h0 | h0
  · exact h0
  · obtain ⟨b, o, c', hv, _⟩ := h.at_ (Nat.mul_pos h0 hsz); injection hv with hv; cases hv
set_option maxRecDepth 100000 in
theorem clone_post (v : Value) (l : List Po) (B : Nat) (w : World) (hB : B ≤ w.heap.size) (hl : l.length ≤ 1000000000) (hs : SlAt w B v 5 l.length (poL l)) :
    Calls Try.prog 54 #[v] w fun e w' => ∃ v', e = .returned v' ∧ w'.ownsRow w.heap.size 38 5 v' l.length (poL l) ∧ Only [] w w' := by
  obtain ⟨i0, hi0, hz0, hz1, hz2⟩ := info_parts info_post
  obtain ⟨A, c, rfl⟩ := hs.shape
  cases A with
  | none =>
    have h0 : l = [] := List.eq_nil_of_length_eq_zero (sl_nil hs (by omega))
    subst h0
    clear hs
    go_enter Try.func54, Try.ntmps54
    go_wp2_with fail
    go_ret
    exact ⟨_, rfl, World.ownsRow_nil _ _ _ _, Only.refl _ _⟩
  | some A =>
    have HS := Lib.hid hs
    clear hs
    go_enter Try.func54, Try.ntmps54
    go_wp2_with (at_builtin
                 refine wpList_appX rfl _ _ 27 rfl w.heap.size 38 i0 _ 5 64 Try.underlying27 hi0 hz0 hz1 hz2 rfl (by decide) (w.alloc (.cells #[] 38)) (.slice (some ⟨w.heap.size, 0, none⟩) 0 0) 0 [] rfl (World.ownsRow_lit (base := w.heap.size) (e := 38) (size := 5) w #[] 0 (Nat.le_refl _) (by decide) rfl) B l.length (poL l) A c rfl (HS.out.only ((Only.refl [] w).alloc _) hB (by simp)) (poL_one l) (by simp only [maxLen]; omega) (by omega) (by simp) ?_
                 intro v' w' hown' hgrow)
    go_ret
    exact ⟨_, rfl, by simpa using hown', ((Only.refl [] w).alloc _).own (World.ownsRow_lit (base := w.heap.size) (e := 38) (size := 5) w #[] 0 (Nat.le_refl _) (by decide) rfl) hgrow (Nat.le_refl _)⟩
/-- A part of a row of posts. -/
theorem sub_post {w : World} {B0 g n cap fr m : Nat} {ps : List Po} (h : w.ownsRow B0 38 5 (.slice (some ⟨g, 0, none⟩) n cap) n (poL ps)) (hn : ps.length = n) (hm : fr + m ≤ n) (c : Nat) (hc : m ≤ c) (hcm : c ≤ maxLen) :
    SlAt w w.heap.size (.slice (some ⟨g, fr * 5, none⟩) m c) 5 m (poL ((ps.drop fr).take m)) := by
  have hl : ((ps.drop fr).take m).length = m := by rw [List.length_take, List.length_drop]; omega
  have hg := (h.lt g rfl).2
  refine ⟨by rw [poL_length, hl], _, _, rfl, hc, hcm, fun _ => ⟨g, fr * 5, rfl, hg, fun j u hu => ?_⟩⟩
  have hj : j < m * 5 := by
    have := (List.getElem?_eq_some_iff.1 hu).1
    rwa [poL_length, hl] at this
  have e : (poL ps)[fr * 5 + j]? = some u := by
    have hi : j / 5 < ((ps.drop fr).take m).length := by rw [hl]; omega
    have h1 := List.getElem?_eq_getElem hi
    have hj5 : j % 5 < 5 := Nat.mod_lt _ (by omega)
    have h2 := poL_get _ (j / 5) (j % 5) _ h1 hj5
    rw [show j / 5 * 5 + j % 5 = j from by omega, hu] at h2
    have h3 : ps[fr + j / 5]? = some ((ps.drop fr).take m)[j / 5] := by
      rw [List.getElem_take, List.getElem_drop, List.getElem?_eq_getElem (by rw [hl] at hi; omega)]
    have h4 := poL_get ps (fr + j / 5) (j % 5) _ h3 hj5
    rw [show (fr + j / 5) * 5 + j % 5 = fr * 5 + j from by omega, ← h2] at h4
    exact h4
  have := h.cells (g := g) rfl (fr * 5 + j) u e
  rw [Addr.add_lit, Nat.zero_add] at this
  exact this
/-- A page of posts behind a number. -/
def pgF (ps : List Po) (after : Int) : List Po := (ps.drop (min (max after 0).toNat ps.length)).take 50
def lsV (o : Option Pl) (after : Int) : List Po := o.elim [] (fun t => pgF t.fd.ps after)
set_option maxRecDepth 100000 in
set_option maxHeartbeats 1000000 in
theorem store_list (b mb : Nat) (T : List Pl) (k : List UInt8) (hk : k.length ≤ maxLen) (after : Int) (w : World) (h : StX w b mb T) :
    Calls Try.prog 24 #[.pointer (some ⟨b, 0, none⟩), .string ⟨k.toArray⟩, .int .i64 after] w fun e w' => ∃ v', e = .returned (.tuple #[v', .int .i64 (if (fT T k).isSome = true then 0 else 4)]) ∧ w'.ownsRow w.heap.size 38 5 v' (lsV (fT T k) after).length (poL (lsV (fT T k) after)) ∧ Only [] w w' := by
  have CF := Lib.hid (store_find b mb T k hk 0 w h)
  cases hf : fT T k with
  | none =>
    rw [fndV_none 0 hf] at CF
    go_enter Try.func24, Try.ntmps24
    go_wp2_with fail
    refine CF.out.mono ?_
    rintro e w1 ⟨rfl, rfl⟩
    go_wp2_with fail
    go_ret2
    exact ⟨_, rfl, World.ownsRow_nil _ _ _ _, Only.refl _ _⟩
  | some t =>
    rw [fndV_ok hf (by decide)] at CF
    have hfd := h.fds t (fT_mem hf).1
    have p2 := hfd.cells.cell (k := 2) rfl
    have hcap := hfd.cap
    obtain ⟨A, c, hv⟩ := (SlAt.of_own hfd.row).shape
    have hrow := hfd.row
    rw [hv] at p2 hrow
    obtain ⟨n, hn⟩ : ∃ n, t.fd.ps.length = n := ⟨_, rfl⟩
    rw [hn] at p2 hrow hcap
    obtain ⟨fr, hfr⟩ : ∃ fr : Nat, min (max after 0) (n : Int) = fr := ⟨(min (max after 0) (n : Int)).toNat, by omega⟩
    have hfrn : fr ≤ n := by omega
    obtain ⟨tt, hto⟩ : ∃ tt : Nat, min (n : Int) ((fr : Int) + 50) = tt := ⟨(min (n : Int) ((fr : Int) + 50)).toNat, by omega⟩
    have hft : fr ≤ tt := by omega
    have htn : tt ≤ n := by omega
    have hpg : lsV (some t) after = (t.fd.ps.drop fr).take (tt - fr) := by
      show (t.fd.ps.drop (min (max after 0).toNat t.fd.ps.length)).take 50 = _
      rw [hn, show min (max after 0).toNat n = fr from by omega]
      by_cases h50 : fr + 50 ≤ n
      · rw [show tt - fr = 50 from by omega]
      · rw [List.take_of_length_le (by rw [List.length_drop]; omega), List.take_of_length_le (by rw [List.length_drop]; omega)]
    rw [hpg]
    have hll : ((t.fd.ps.drop fr).take (tt - fr)).length = tt - fr := by rw [List.length_take, List.length_drop]; omega
    have hnc : n ≤ c ∧ c ≤ maxLen := by
      obtain ⟨_, A', c', e, h1, h2, _⟩ := SlAt.of_own hrow
      injection e with e1 e2 e3
      subst e3
      exact ⟨h1, h2⟩
    have hwr : IntKind.i64.wrap ((fr : Int) + 50) = (fr : Int) + 50 := by rw [IntKind.wrap_i64]; omega
    have i1 : (fr : Int) ≤ (tt : Int) := by omega
    have i2 : (tt : Int) ≤ (c : Int) := by omega
    have i3 : (0 : Int) ≤ (fr : Int) := by omega
    have hrow1 : w.drew.ownsRow 0 38 5 (.slice A n c) n (poL t.fd.ps) := hrow
    have HO1 : Hid (Only [] w w.drew) := Lib.hid (Only.refl _ _).drew
    cases A with
    | none =>
      have h0 : n = 0 := sl_nil (SlAt.of_own hrow) (by omega)
      subst h0
      obtain rfl : fr = 0 := by omega
      obtain rfl : tt = 0 := by omega
      have hm0 : min (max after 0) 0 = 0 := by omega
      have hps : t.fd.ps = [] := List.eq_nil_of_length_eq_zero hn
      have hc0 : c = 0 := by
        rcases hrow.2 with ⟨h1, _⟩ | ⟨g, cap, cur, h1, _⟩
        · injection h1
        · cases h1
      subst hc0
      have CC := Lib.hid (clone_post (.slice none 0 0) [] w.drew.heap.size w.drew (Nat.le_refl _) (by simp) (SlAt.of_own (World.ownsRow_nil w.drew 0 38 5)))
      have hw50 : IntKind.i64.wrap 50 = 50 := by decide
      have hm1 : min (0 : Int) 50 = 0 := by decide
      have HPS := Lib.hid hps
      clear h hfd hpg hrow hn hv hrow1 hps
      go_enter Try.func24, Try.ntmps24
      go_wp2_with fail
      refine CF.out.mono ?_
      rintro e w2 ⟨rfl, rfl⟩
      go_wp2_with fail
      go_still_tail 14, (by kernel_rfl)
      change wpList _ _ _ _ _ w.drew
      go_wp2_with fail
      refine CC.out.mono ?_
      rintro e w3 ⟨v', rfl, hown, ho3⟩
      have HOW := Lib.hid hown
      have HO3 := Lib.hid (HO1.out.tr ho3)
      clear hown ho3
      go_wp2_with fail
      go_ret2
      exact ⟨v', rfl, HOW.out, HO3.out⟩
    | some A =>
      obtain ⟨g, hg⟩ : ∃ g, A = ⟨g, 0, none⟩ := by
        rcases hrow.2 with ⟨h1, _⟩ | ⟨g, cap, cur, h1, _⟩
        · cases h1
        · injection h1 with h1; injection h1 with h1; exact ⟨g, h1⟩
      subst hg
      obtain ⟨Ao, hAo⟩ : ∃ Ao : Option Addr, (if c = fr then some ⟨g, 0, none⟩ else some ⟨g, fr * 5, none⟩) = Ao := ⟨_, rfl⟩
      have hsl : SlAt w.drew w.drew.heap.size (.slice Ao (tt - fr) (c - fr)) 5 (tt - fr) (poL ((t.fd.ps.drop fr).take (tt - fr))) := by
        by_cases hcf : c = fr
        · rw [if_pos hcf] at hAo
          subst hAo
          have h0 : tt - fr = 0 := by omega
          refine ⟨by rw [poL_length, hll], _, _, rfl, by omega, by omega, fun h => by omega⟩
        · rw [if_neg hcf] at hAo
          subst hAo
          exact sub_post hrow1 hn (by omega) (c - fr) (by omega) (by omega)
      have CC := Lib.hid (clone_post (.slice Ao (tt - fr) (c - fr)) ((t.fd.ps.drop fr).take (tt - fr)) w.drew.heap.size w.drew (Nat.le_refl _) (by omega) (by rw [hll]; exact hsl))
      clear h hfd hpg hrow hn hv hrow1 hsl
      go_enter Try.func24, Try.ntmps24
      go_wp2_with fail
      refine CF.out.mono ?_
      rintro e w2 ⟨rfl, rfl⟩
      go_wp2_with fail
      go_still_tail 14, (by kernel_rfl)
      change wpList _ _ _ _ _ w.drew
      go_wp2_with fail
      refine CC.out.mono ?_
      rintro e w3 ⟨v', rfl, hown, ho3⟩
      have HOW := Lib.hid hown
      have HO3 := Lib.hid (HO1.out.tr ho3)
      clear hown ho3 hAo
      go_wp2_with fail
      go_ret2
      exact ⟨v', rfl, by have := HOW.out; rw [hll] at this; exact this, HO3.out⟩
end Go.Proofs.Ytjfnkjpnjiobjaa
namespace Go.Proofs.Ytjfnkjpnjiobjaa
open Go.RowKit
/-- Appending any slice, a nil one too, to an own row. -/
theorem wpList_appG {P : Program} {ops : Array Oper} {rest : List Oper} {o : Oper} {a : Act} {Q : Exit → Act → World → Prop} (hgd : o.guard = none) (s x : Operand) (t : TypeId)
    (ho : o.op = .call { callee := .builtin .append, args := #[s, x], argTypes := #[t, t] })
    (base : Nat) (e : TypeId) (i : TypeInfo) (z : Value) (size bytes : Nat) (ht : P.underlying t = some (.slice e)) (hi : P.info? e = some i) (hz : i.zero = some z)
    (hsize : i.size = size) (hby : i.bytes = bytes) (hzs : z.cells.size = size) (hsz : 0 < size) (w : World)
    (v : Value) (n : Nat) (xs : List Value) (hs : a.eval s = v) (hown : w.ownsRow base e size v n xs)
    (B m : Nat) (cs : List Value) (A : Option Addr) (c : Nat) (hx : a.eval x = .slice A m c) (hu : SlAt w B (.slice A m c) size m cs) (h1 : ∀ u ∈ cs, u.oneCell' = true)
    (h63 : n + m ≤ maxLen) (hbytes : (n + m) * bytes ≤ 140737488355328) (hbase : base ≤ w.heap.size)
    (h : ∀ v' w', w'.ownsRow base e size v' (n + m) (xs ++ cs) → w.grownBy w' v.ownBlock → wpList P ops Q rest (a.put o.dst v') w') :
    wpList P ops Q (o :: rest) a w := by
  cases A with
  | some A => exact wpList_appX hgd s x t ho base e i z size bytes ht hi hz hsize hby hzs hsz w v n xs hs hown B m cs A c hx hu h1 h63 hbytes hbase h
  | none =>
    have hm := sl_nil hu hsz
    subst hm
    have hcs : cs = [] := List.eq_nil_of_length_eq_zero (by simpa using hu.1)
    subst hcs
    have hr : (Builtin.append_ #[t, t] o.type #[v, .slice none 0 c]).run P w = .ok v w := by
      rcases hown.2 with ⟨rfl, rfl⟩ | ⟨g, cap, cur, rfl, _, _, hnc, _⟩
      · simp [Builtin.append_, run_underlying ht, sizeOf, typeInfo, hi, Builtin.lenOf, Builtin.firstCells, loadCells, loadCellsFrom]
      · have : n ≤ cap := hnc
        simp [Builtin.append_, run_underlying ht, sizeOf, typeInfo, hi, Builtin.lenOf, Builtin.firstCells, this, storeCells]
    refine wpList_plain hgd fun _ hK => ?_
    unfold Oper.wp execOp
    simp only [ho, resolve, invoke, builtin, Sem.run_bind, Sem.run_pure, Result.andThen_ok, List.map_toArray, List.map_cons, List.map_nil, hs, hx, hr]
    exact hK _ _ (h v w (by simpa using hown) ⟨rfl, rfl, rfl, Nat.le_refl _, fun _ _ _ => rfl⟩)
def allF (o : Option Pl) : List Po := o.elim [] (·.fd.ps)
theorem allF_page (o : Option Pl) (j : Nat) : (allF o).take (50 * j) ++ lsV o ((50 * j : Nat) : Int) = (allF o).take (50 * (j + 1)) := by
  cases o with
  | none => simp [allF, lsV]
  | some t =>
    show t.fd.ps.take (50 * j) ++ (t.fd.ps.drop (min (max ((50 * j : Nat) : Int) 0).toNat t.fd.ps.length)).take 50 = t.fd.ps.take (50 * (j + 1))
    rw [show (max ((50 * j : Nat) : Int) 0).toNat = 50 * j from by omega]
    by_cases h : 50 * j ≤ t.fd.ps.length
    · rw [Nat.min_eq_left h, show 50 * (j + 1) = 50 * j + 50 from by omega, List.take_add]
    · have e1 : t.fd.ps.take (50 * j) = t.fd.ps := List.take_of_length_le (by omega)
      have e2 : t.fd.ps.take (50 * (j + 1)) = t.fd.ps := List.take_of_length_le (by omega)
      rw [Nat.min_eq_right (by omega), List.drop_eq_nil_of_le (Nat.le_refl _), e1, e2]
      simp
theorem allF_len {w : World} {b mb : Nat} {T : List Pl} (h : StX w b mb T) (k : List UInt8) : (allF (fT T k)).length ≤ 200 := by
  cases hf : fT T k with
  | none => simp [allF]
  | some t => exact (h.fds t (fT_mem hf).1).cap
set_option maxRecDepth 100000 in
set_option maxHeartbeats 1000000 in
theorem law_all (b mb : Nat) (T : List Pl) (k : List UInt8) (hk : k.length ≤ maxLen) (w : World) (h : StX w b mb T) :
    Calls Try.prog 19 #[.pointer (some ⟨b, 0, none⟩), .string ⟨k.toArray⟩] w fun e w' => ∃ v', e = .returned v' ∧ w'.ownsRow w.heap.size 38 5 v' (allF (fT T k)).length (poL (allF (fT T k))) ∧ Only [] w w' := by
  obtain ⟨i0, hi0, hz0, hz1, hz2⟩ := info_parts info_post
  have hlen := allF_len h k
  obtain ⟨L, hL⟩ : ∃ L, allF (fT T k) = L := ⟨_, rfl⟩
  have HPG := Lib.hid (fun j => allF_page (fT T k) j)
  have HX := Lib.hid h
  rw [hL] at hlen ⊢
  have CL := Lib.hid (fun after w' (ho : Only [] w w') => store_list b mb T k hk after w' (HX.out.keep ho (by simp)))
  rw [hL] at HPG
  obtain ⟨pg, hpg⟩ : ∃ pg : Int → List Po, (fun after => lsV (fT T k) after) = pg := ⟨_, rfl⟩
  have hpg' : ∀ a, lsV (fT T k) a = pg a := fun a => by rw [← hpg]
  simp only [hpg'] at CL HPG
  obtain ⟨er, her⟩ : ∃ er : Int, (if (fT T k).isSome = true then 0 else 4) = er := ⟨_, rfl⟩
  rw [her] at CL
  clear h hL hpg hpg' her
  go_enter Try.func19, Try.ntmps19
  go_wp2_with fail
  go_loopw [5, 6] (fun v i wr => ∃ (j : Nat), j ≤ 4 ∧ i = .int .i64 ((50 * j : Nat) : Int) ∧ Hid (wr.ownsRow w.heap.size 38 5 v (L.take (50 * j)).length (poL (L.take (50 * j)))) ∧ Hid (Only [] w wr)) (fun _ i _ => 200 - (intOf i).toNat)
  case atStart => exact ⟨0, by omega, rfl, Lib.hid (World.ownsRow_nil _ _ _ _), Lib.hid (Only.refl _ _)⟩
  case round =>
    obtain ⟨j, hj, rfl, hown, ho⟩ := hrel
    by_cases hlt : j < 4
    · have d1 : decide (((50 * j : Nat) : Int) < 200) = true := by simp; omega
      have C := Lib.hid (CL.out ((50 * j : Nat) : Int) wr ho.out)
      have hpj := Lib.hid (HPG.out j)
      obtain ⟨a, ha⟩ : ∃ a : Nat, 50 * j = a := ⟨_, rfl⟩
      have hwr : IntKind.i64.wrap ((a : Int) + 50) = ((50 * (j + 1) : Nat) : Int) := by rw [IntKind.wrap_i64]; omega
      rw [ha] at d1 C hpj hown ⊢
      obtain ⟨P, hP⟩ : ∃ P, pg (a : Int) = P := ⟨_, rfl⟩
      rw [hP] at C hpj
      have hl1 : (L.take a).length ≤ 200 := by rw [List.length_take]; omega
      have hl2 : (L.take a).length + P.length ≤ 200 := by
        have := congrArg List.length hpj.out
        rw [List.length_append, List.length_take (i := 50 * (j + 1))] at this
        omega
      obtain ⟨Q, hQ⟩ : ∃ Q, L.take a = Q := ⟨_, rfl⟩
      rw [hQ] at hown hpj hl1 hl2
      clear hQ hP
      obtain ⟨VA, vc, rfl⟩ := (SlAt.of_own hown.out).shape
      go_wp2_with fail
      refine C.out.mono ?_
      rintro e w2 ⟨v2, rfl, hown2, ho2⟩
      obtain ⟨A2, c2, rfl⟩ := (SlAt.of_own hown2).shape
      have HS2 := Lib.hid (SlAt.of_own hown2)
      have hownK := own_keep hown.out ho2 (by simp)
      have HOK := Lib.hid hownK
      have HO2 := Lib.hid (ho.out.tr ho2)
      have hsz : w.heap.size ≤ w2.heap.size := HO2.out.size
      clear hown2 ho2 C
      go_wp2_with (at_builtin; go_loud (refine wpList_appG rfl _ _ 27 rfl w.heap.size 38 i0 _ 5 64 Try.underlying27 hi0 hz0 hz1 hz2 rfl (by decide) w2 (.slice VA Q.length vc) Q.length (poL Q) rfl HOK.out w2.heap.size P.length (poL P) A2 c2 rfl HS2.out (poL_one P) (by unfold maxLen; omega) (by omega) hsz ?_; intro v3 w3 hown3 hgrow3; have HW3 := Lib.hid hown3; have HO3 := Lib.hid (HO2.out.own HOK.out hgrow3 (Nat.le_refl _)); clear hown3 hgrow3))
      go_roundw
      case rel => exact ⟨j + 1, by omega, by go_num, by
        have h1 := HW3.out
        rw [← poL_append, hpj.out] at h1
        have h2 := congrArg List.length hpj.out
        rw [List.length_append] at h2
        rw [h2] at h1
        exact Lib.hid h1, HO3⟩
      case measure => simp [intOf]; omega
    · have d1 : decide (((50 * j : Nat) : Int) < 200) = false := by simp; omega
      have hj4 : j = 4 := by omega
      have HF : Hid (wr.ownsRow w.heap.size 38 5 _ L.length (poL L)) := Lib.hid (by
        have := hown.out
        rw [List.take_of_length_le (by omega)] at this
        exact this)
      clear hown
      go_wp2_with fail
      go_ret
      exact ⟨_, rfl, HF.out, ho.out⟩
end Go.Proofs.Ytjfnkjpnjiobjaa
namespace Go.Proofs.Ytjfnkjpnjiobjaa
theorem wide64_of_wf {n : Int} (h : (Lit.int .i64 n).wf = true) : Wide64 n := by
  simp [Lit.wf, IntKind.min, IntKind.max, IntKind.signed, IntKind.bits] at h
  exact ⟨by omega, by omega⟩
end Go.Proofs.Ytjfnkjpnjiobjaa
namespace Go.Proofs.Ytjfnkjpnjiobjaa
open Go.RowKit Go.ChangeShapes Go.WideShapes Go.Deep
section
variable {H : Type} {enc : TypeId × Value → H} {P : Program} {w : World} {base : Nat} {spare : Nat → Bool} {held : Bool}
theorem open_structs_in {t e : TypeId} {fs : Array Field} {v : Value} {fuel : Nat} {yy : DataW H × List MemPlace} (ht : P.underlying t = some (.slice e)) (he : P.underlying e = some (.struct fs))
    (hone : oneCellFields P fs = true) (hC : P.cellsOf e = fs.size) (hf : DataW.trod enc P w base spare held fuel t [v] = some yy) :
    ∃ n xs, SlAt w w.heap.size v fs.size n xs ∧ ∀ i, i < n → ∀ (j : Nat) (f : Field), fs[j]? = some f → ∃ u y m, xs[i * fs.size + j]? = some u ∧ DataW.trod enc P w base spare held m f.type [u] = some y := by
  rcases open_slice ht hf with ⟨hcs, _⟩ | ⟨a, len, cap, m, n, D, Pl, hcs, hb, hl, hm, hmm, hx, hi⟩
  · simp at hcs
    subst hcs
    exact ⟨0, [], ⟨by simp, none, 0, rfl, by omega, by simp [maxLen], fun h => by simp at h⟩, fun i hi => by omega⟩
  · simp at hcs
    subst hcs
    have hlm : len ≤ m := by rw [hmm]; split <;> omega
    have key : ∀ i, i < len → ∀ (j : Nat) (f : Field), fs[j]? = some f → ∃ u y m, w.cell? (a.add (i * fs.size + j)) = some u ∧ DataW.trod enc P w base spare held m f.type [u] = some y := by
      intro i hil j f hj
      obtain ⟨cs', hc, ht'⟩ := hi i (by omega)
      rw [hC] at hc
      obtain ⟨ys, n', hn', hy, hlen, hyl, hf'⟩ := DataW.trod_struct he ht'
      obtain ⟨_, hcl, hat⟩ := World.cells?_some hc
      obtain ⟨ho, hk⟩ := hone_of hone j f hj
      have hjl : j < fs.size := (Array.getElem?_eq_some_iff.1 hj).1
      have hcell := hat j hjl
      have hv : cs'[j]? = some (cs'[j]'(by omega)) := List.getElem?_eq_getElem (by omega)
      have h1 := hf' j f hj
      rw [ho, hk] at h1
      have hone' : (cs'.drop j).take 1 = [cs'[j]'(by omega)] := by
        rw [List.drop_eq_getElem_cons (by omega)]
        rfl
      rw [hone'] at h1
      have hys : ys[j]? = some (ys[j]'(by omega)) := List.getElem?_eq_getElem (by omega)
      refine ⟨cs'[j]'(by omega), _, _, ?_, h1.trans hys⟩
      rw [← Go.Deep.add_add, hcell, hv]
    by_cases hz : 0 < len * fs.size
    · have hfs : 0 < fs.size := by rcases Nat.eq_zero_or_pos fs.size with h0 | h0; · simp [h0] at hz
                                   · exact h0
      have hlen : 0 < len := by rcases Nat.eq_zero_or_pos len with h0 | h0; · simp [h0] at hz
                                · exact h0
      obtain ⟨u0, _, _, hc0, _⟩ := key 0 hlen 0 fs[0] (Array.getElem?_eq_getElem hfs)
      have ha : a = ⟨a.block, a.off, none⟩ := by simpa [Addr.add] using cell_spot hc0
      have hblt : a.block < w.heap.size := by simpa [Addr.add] using World.block_lt_of_cell? w _ hc0
      have hadd : ∀ k, a.add k = ⟨a.block, a.off + k, none⟩ := by
        intro k; rw [ha]; unfold Addr.add; by_cases hk : k = 0 <;> simp [hk]
      refine ⟨len, (List.range (len * fs.size)).map fun k => (w.cell? ⟨a.block, a.off + k, none⟩).getD undef, ⟨by simp, some a, cap, rfl, hl, hm, fun _ => ⟨a.block, a.off, by rw [← ha], hblt, fun j u hu => ?_⟩⟩, fun i hil j f hj => ?_⟩
      · simp only [List.getElem?_map] at hu
        have hjl : j < len * fs.size := by
          rcases Nat.lt_or_ge j (len * fs.size) with h0 | h0
          · exact h0
          · rw [List.getElem?_eq_none (by simpa using h0)] at hu; simp at hu
        rw [List.getElem?_range hjl] at hu
        simp only [Option.map_some, Option.some.injEq] at hu
        obtain ⟨u', _, _, hc', _⟩ := key (j / fs.size) ((Nat.div_lt_iff_lt_mul hfs).2 hjl) (j % fs.size) (fs[j % fs.size]'(Nat.mod_lt _ hfs)) (Array.getElem?_eq_getElem (Nat.mod_lt _ hfs))
        rw [Nat.mul_comm, Nat.div_add_mod, hadd] at hc'
        rw [hc'] at hu ⊢
        simpa using hu
      · obtain ⟨u, y, m', hc', hy⟩ := key i hil j f hj
        have hjl : j < fs.size := (Array.getElem?_eq_some_iff.1 hj).1
        have hlt : i * fs.size + j < len * fs.size := by
          have : (i + 1) * fs.size ≤ len * fs.size := Nat.mul_le_mul_right _ hil
          rw [Nat.succ_mul] at this; omega
        refine ⟨u, y, m', ?_, hy⟩
        rw [List.getElem?_map, List.getElem?_range hlt]
        rw [hadd] at hc'
        simp [hc']
    · refine ⟨len, [], ⟨by simp; omega, some a, cap, rfl, hl, hm, fun h => absurd h hz⟩, fun i hil j f hj => ?_⟩
      have hjl : j < fs.size := (Array.getElem?_eq_some_iff.1 hj).1
      exact absurd (Nat.mul_pos (by omega) (by omega)) hz
end
theorem ba_len (z : ByteArray) : z.data.toList.length = z.size := by simp
set_option maxRecDepth 100000 in
theorem open_items_in {H : Type} {enc : TypeId × Value → H} {w : World} {base : Nat} {spare : Nat → Bool} {held : Bool} {v : Value} {fuel : Nat} {yy : DataW H × List MemPlace}
    (h : DataW.trod enc Try.prog w base spare held fuel 31 [v] = some yy) : ∃ l : List It, SlAt w w.heap.size v 3 l.length (itL l) ∧ ∀ x ∈ l, x.Len := by
  obtain ⟨n, xs, hs, hx⟩ := open_structs_in Try.underlying31 Try.underlying36 (by kernel_rfl) (by kernel_rfl) h
  obtain ⟨l, hl, rfl, hg⟩ := flat_of It.cells 3 (fun _ => rfl) It.Len n xs hs.1 fun i hi => by
    obtain ⟨u0, y0, m0, e0, h0⟩ := hx i hi 0 _ rfl
    obtain ⟨u1, y1, m1, e1, h1⟩ := hx i hi 1 _ rfl
    obtain ⟨u2, y2, m2, e2, h2⟩ := hx i hi 2 _ rfl
    obtain ⟨z0, q0, _, w0⟩ := DataW.trod_string Try.underlying9 h0
    obtain ⟨z1, q1, _, w1⟩ := DataW.trod_string Try.underlying9 h1
    obtain ⟨z2, q2, _, w2⟩ := DataW.trod_string Try.underlying9 h2
    simp at q0 q1 q2
    subst q0; subst q1; subst q2
    refine ⟨⟨z0.data.toList, z1.data.toList, z2.data.toList⟩, ⟨by rw [ba_len]; exact w0, by rw [ba_len]; exact w1, by rw [ba_len]; exact w2⟩, fun j hj => ?_⟩
    match j, hj with
    | 0, _ => simpa [It.cells] using e0
    | 1, _ => simpa [It.cells] using e1
    | 2, _ => simpa [It.cells] using e2
  subst hl
  exact ⟨l, hs, hg⟩
end Go.Proofs.Ytjfnkjpnjiobjaa
namespace Go.Proofs.Ytjfnkjpnjiobjaa
open Go.RowKit Go.ChangeShapes Go.WideShapes Go.Deep
structure A17 where
  op : Int
  n : Int
  fd : List UInt8
  id : List UInt8
  iv : Value
  its : List It
def A17.cells (a : A17) : List Value := [.int .i64 a.op, .int .i64 a.n, .string ⟨a.fd.toArray⟩, .string ⟨a.id.toArray⟩, a.iv]
def A17.val (a : A17) : Value := .agg #[.int .i64 a.op, .int .i64 a.n, .string ⟨a.fd.toArray⟩, .string ⟨a.id.toArray⟩, a.iv]
structure A17.Ok (w : World) (a : A17) : Prop where
  op : Wide64 a.op
  n : Wide64 a.n
  fd : a.fd.length ≤ maxLen
  id : a.id.length ≤ maxLen
  its : SlAt w w.heap.size a.iv 3 a.its.length (itL a.its)
  len : ∀ x ∈ a.its, x.Len
def acL (l : List A17) : List Value := l.flatMap A17.cells
set_option maxRecDepth 100000 in
set_option maxHeartbeats 1000000 in
theorem open_acts17 {H : Type} {enc : TypeId × Value → H} {w : World} {base : Nat} {spare : Nat → Bool} {held : Bool} {r : Reach} {b0 : Nat} {v : Value} {d : DataW H} {p : List MemPlace}
    (hv : Value.okWide Try.prog w r b0 22 v) (h : DataW.Trod enc Try.prog w base spare held 22 v d p) :
    ∃ l : List A17, SlAt w w.heap.size v 5 l.length (acL l) ∧ ∀ a ∈ l, a.Ok w := by
  obtain ⟨n, xs, hs, hx⟩ := open_structs Try.underlying22 Try.underlying33 (by kernel_rfl) (by kernel_rfl) hv h
  obtain ⟨l, hl, rfl, hg⟩ := flat_of A17.cells 5 (fun _ => rfl) (A17.Ok w) n xs hs.1 fun i hi => by
    obtain ⟨u0, y0, m0, e0, h0⟩ := hx i hi 0 _ rfl
    obtain ⟨u1, y1, m1, e1, h1⟩ := hx i hi 1 _ rfl
    obtain ⟨u2, y2, m2, e2, h2⟩ := hx i hi 2 _ rfl
    obtain ⟨u3, y3, m3, e3, h3⟩ := hx i hi 3 _ rfl
    obtain ⟨u4, y4, m4, e4, h4⟩ := hx i hi 4 _ rfl
    obtain ⟨z0, q0, _, w0⟩ := DataW.trod_int Try.underlying3 h0
    obtain ⟨z1, q1, _, w1⟩ := DataW.trod_int Try.underlying3 h1
    obtain ⟨z2, q2, _, w2⟩ := DataW.trod_string Try.underlying9 h2
    obtain ⟨z3, q3, _, w3⟩ := DataW.trod_string Try.underlying9 h3
    obtain ⟨its, hi1, hi2⟩ := open_items_in h4
    simp at q0 q1 q2 q3
    subst q0; subst q1; subst q2; subst q3
    refine ⟨⟨z0, z1, z2.data.toList, z3.data.toList, u4, its⟩, ⟨wide64_of_wf w0, wide64_of_wf w1, by rw [ba_len]; exact w2, by rw [ba_len]; exact w3, hi1, hi2⟩, fun j hj => ?_⟩
    match j, hj with
    | 0, _ => exact e0
    | 1, _ => exact e1
    | 2, _ => simpa [A17.cells] using e2
    | 3, _ => simpa [A17.cells] using e3
    | 4, _ => exact e4
  subst hl
  exact ⟨l, hs, hg⟩
set_option maxRecDepth 100000 in
theorem open_items17 {H : Type} {enc : TypeId × Value → H} {w : World} {base : Nat} {spare : Nat → Bool} {held : Bool} {r : Reach} {b0 : Nat} {v : Value} {d : DataW H} {p : List MemPlace}
    (hv : Value.okWide Try.prog w r b0 31 v) (h : DataW.Trod enc Try.prog w base spare held 31 v d p) :
    ∃ l : List It, SlAt w w.heap.size v 3 l.length (itL l) ∧ ∀ x ∈ l, x.Len := by
  obtain ⟨a0, len, cap, rfl⟩ := okWide_slice Try.underlying31 hv
  obtain ⟨fuel, hf⟩ := h
  simp only [Value.cells] at hf
  exact open_items_in hf
end Go.Proofs.Ytjfnkjpnjiobjaa
namespace Go.Proofs.Ytjfnkjpnjiobjaa
open Go.RowKit
def subS (S : Sv) (k : List UInt8) : Int × Sv := if nmL k = true then (if (fnd S k).isSome = true then (5, S) else if S.length = 20 then (11, S) else (0, insBy Prod.fst (k, ⟨-1, 0, []⟩) S)) else (3, S)
def unS (S : Sv) (k : List UInt8) : Int × Sv := if (fnd S k).isSome = true then (0, delBy Prod.fst k S) else (4, S)
def failS (S : Sv) (k : List UInt8) (now : Int) : Int × Sv := match fnd S k with
  | none => (4, S)
  | some f => if okT now then (0, putBy Prod.fst k (k, failF f now) S) else (1, S)
def markS (S : Sv) (k id : List UInt8) : Int × Sv := match fnd S k with
  | none => (4, S)
  | some f => match idx f.ps id with
    | none => (4, S)
    | some i => (0, putBy Prod.fst k (k, markF f i) S)
def listS (S : Sv) (k : List UInt8) (after : Int) : List Po × Int := match fnd S k with
  | none => ([], 4)
  | some f => (pgF f.ps after, 0)
def allS (S : Sv) (k : List UInt8) : List Po := (fnd S k).elim [] (·.ps)
/-- An operation on a store: it is S now. -/
def OpS (w w' : World) (b : Nat) (O : List Nat) (S : Sv) : Prop := ∃ O', St w' b O' S ∧ Only O w w' ∧ ∀ x ∈ O', x ∈ O ∨ w.heap.size ≤ x
theorem Op17.ops {w w' : World} {b mb : Nat} {T T' : List Pl} {S : Sv} (h : Op17 w w' b mb T T') (hS : prT T' = S) : OpS w w' b (allX b mb T) S := ⟨_, ⟨mb, T', h.st, rfl, hS.symm⟩, h.ho, h.new⟩
theorem St.bw {w : World} {b : Nat} {O : List Nat} {S : Sv} (h : St w b O S) : ∀ x ∈ O, x < w.heap.size := by
  obtain ⟨mb, T, h, rfl, rfl⟩ := h
  exact h.lts
theorem st_new (w : World) : Calls Try.prog 17 #[] w fun e w' => ∃ b O, e = .returned (.pointer (some ⟨b, 0, none⟩)) ∧ St w' b O [] ∧ (∀ x ∈ O, w.heap.size ≤ x) ∧ Only [] w w' :=
  (store_new w).mono fun e w' ⟨h1, h2, h3⟩ => ⟨_, _, h1, ⟨_, [], h2, rfl, rfl⟩, by intro x hx; simp [allX] at hx; omega, h3⟩
theorem st_sub (b : Nat) (O : List Nat) (S : Sv) (k : List UInt8) (hk : k.length ≤ maxLen) (w : World) (h : St w b O S) :
    Calls Try.prog 46 #[.pointer (some ⟨b, 0, none⟩), .string ⟨k.toArray⟩] w fun e w' => e = .returned (.int .i64 (subS S k).1) ∧ OpS w w' b O (subS S k).2 := by
  obtain ⟨mb, T, h, rfl, rfl⟩ := h
  have hfn : (fnd (prT T) k).isSome = (fT T k).isSome := by rw [show fnd (prT T) k = _ from fnd_fT T k]; simp
  have e1 : (subS (prT T) k).1 = subE T k := by
    unfold subS subE
    rw [hfn, show (prT T).length = T.length from List.length_map _]
    split
    · split
      · rfl
      · split <;> rfl
    · rfl
  have e2 : (subS (prT T) k).2 = if subE T k = 0 then insBy Prod.fst (k, (⟨-1, 0, []⟩ : Fd)) (prT T) else prT T := by
    unfold subS subE
    rw [hfn, show (prT T).length = T.length from List.length_map _]
    split
    · split
      · rfl
      · split <;> rfl
    · rfl
  refine (store_sub b mb T k hk w h).mono fun e w' ⟨h1, T', h2, h3⟩ => ⟨by rw [h1]; show _ = Ending.returned (.int .i64 (subS (prT T) k).1); rw [e1], ?_⟩
  show OpS w w' b _ (subS (prT T) k).2
  rw [e2]
  exact h2.ops h3
theorem prT_put (T : List Pl) (k : List UInt8) (t : Pl) (f : Fd) (ht : t.nm = k) : prT (putBy Pl.nm k (withF t f) T) = putBy Prod.fst k (k, f) (prT T) := by
  unfold prT
  rw [putBy_map Pl.nm (fun t => (t.nm, t.fd)) Prod.fst (fun _ => rfl)]
  rw [show (withF t f).nm = k from ht, show (withF t f).fd = f from rfl]
theorem st_un (b : Nat) (O : List Nat) (S : Sv) (k : List UInt8) (hk : k.length ≤ maxLen) (w : World) (h : St w b O S) :
    Calls Try.prog 48 #[.pointer (some ⟨b, 0, none⟩), .string ⟨k.toArray⟩] w fun e w' => e = .returned (.int .i64 (unS S k).1) ∧ OpS w w' b O (unS S k).2 := by
  obtain ⟨mb, T, h, rfl, rfl⟩ := h
  have hfn : fnd (prT T) k = (fT T k).map (·.fd) := fnd_fT T k
  refine (store_unsub b mb T k hk w h).mono fun e w' ⟨h1, h2⟩ => ?_
  show e = .returned (.int .i64 (unS (prT T) k).1) ∧ OpS w w' b _ (unS (prT T) k).2
  unfold unS
  rw [hfn]
  unfold unT at h2
  cases hf : fT T k with
  | none =>
    rw [hf] at h1 h2
    exact ⟨by rw [h1]; rfl, h2.ops rfl⟩
  | some t =>
    rw [hf] at h1 h2
    exact ⟨by rw [h1]; rfl, h2.ops (delBy_map Pl.nm (fun t => (t.nm, t.fd)) Prod.fst (fun _ => rfl) k T)⟩
theorem st_fail (b : Nat) (O : List Nat) (S : Sv) (k : List UInt8) (hk : k.length ≤ maxLen) (now : Int) (w : World) (h : St w b O S) :
    Calls Try.prog 47 #[.pointer (some ⟨b, 0, none⟩), .string ⟨k.toArray⟩, .int .i64 now] w fun e w' => e = .returned (.int .i64 (failS S k now).1) ∧ OpS w w' b O (failS S k now).2 := by
  obtain ⟨mb, T, h, rfl, rfl⟩ := h
  have hfn : fnd (prT T) k = (fT T k).map (·.fd) := fnd_fT T k
  refine (store_fail b mb T k hk now w h).mono fun e w' ⟨h1, h2⟩ => ?_
  show e = .returned (.int .i64 (failS (prT T) k now).1) ∧ OpS w w' b _ (failS (prT T) k now).2
  unfold failS
  rw [hfn]
  unfold failT at h2
  cases hf : fT T k with
  | none =>
    rw [hf] at h1 h2
    exact ⟨h1, h2.ops rfl⟩
  | some t =>
    rw [hf] at h1 h2
    simp only [Option.map_some]
    unfold fndE at h1
    dsimp only at h1 h2
    cases hn : okT now with
    | false => rw [hn] at h1 h2; exact ⟨h1, h2.ops rfl⟩
    | true => rw [hn] at h1 h2; exact ⟨h1, h2.ops (prT_put T k t _ (fT_mem hf).2)⟩
theorem st_mark (b : Nat) (O : List Nat) (S : Sv) (k : List UInt8) (hk : k.length ≤ maxLen) (id : List UInt8) (hid : id.length ≤ maxLen) (w : World) (h : St w b O S) :
    Calls Try.prog 25 #[.pointer (some ⟨b, 0, none⟩), .string ⟨k.toArray⟩, .string ⟨id.toArray⟩] w fun e w' => e = .returned (.int .i64 (markS S k id).1) ∧ OpS w w' b O (markS S k id).2 := by
  obtain ⟨mb, T, h, rfl, rfl⟩ := h
  have hfn : fnd (prT T) k = (fT T k).map (·.fd) := fnd_fT T k
  refine (store_mark b mb T k hk id hid w h).mono fun e w' ⟨h1, h2⟩ => ?_
  show e = .returned (.int .i64 (markS (prT T) k id).1) ∧ OpS w w' b _ (markS (prT T) k id).2
  unfold markS
  rw [hfn]
  unfold markT at h2
  unfold markE at h1
  cases hf : fT T k with
  | none =>
    rw [hf] at h1 h2
    exact ⟨h1, h2.ops rfl⟩
  | some t =>
    rw [hf] at h1 h2
    simp only [Option.map_some]
    dsimp only at h1 h2
    cases hi : idx t.fd.ps id with
    | none => rw [hi] at h1 h2; exact ⟨h1, h2.ops rfl⟩
    | some i => rw [hi] at h1 h2; exact ⟨h1, h2.ops (prT_put T k t _ (fT_mem hf).2)⟩
theorem st_ingest (b : Nat) (O : List Nat) (S : Sv) (k : List UInt8) (hk : k.length ≤ maxLen) (v : Value) (l : List It) (now : Int) (w : World) (h : St w b O S) (hs : ∀ w', Only O w w' → SlAt w' w'.heap.size v 3 l.length (itL l)) (hl : l.length ≤ 1000000) (hx : ∀ x ∈ l, x.Len) :
    Calls Try.prog 21 #[.pointer (some ⟨b, 0, none⟩), .string ⟨k.toArray⟩, v, .int .i64 now] w fun e w' =>
      e = .returned (.tuple #[.int .i64 (ingR S k l now).1, .int .i64 (ingR S k l now).2.1]) ∧ OpS w w' b O (ingR S k l now).2.2 := by
  obtain ⟨mb, T, h, rfl, rfl⟩ := h
  exact (store_ingest b mb T k hk v l now w h hs hl hx).mono fun e w' ⟨h1, T', h2, h3⟩ => ⟨h1, h2.ops h3⟩
theorem st_list (b : Nat) (O : List Nat) (S : Sv) (k : List UInt8) (hk : k.length ≤ maxLen) (after : Int) (w : World) (h : St w b O S) :
    Calls Try.prog 24 #[.pointer (some ⟨b, 0, none⟩), .string ⟨k.toArray⟩, .int .i64 after] w fun e w' => ∃ v', e = .returned (.tuple #[v', .int .i64 (listS S k after).2]) ∧ w'.ownsRow w.heap.size 38 5 v' (listS S k after).1.length (poL (listS S k after).1) ∧ Only [] w w' := by
  obtain ⟨mb, T, h, rfl, rfl⟩ := h
  have hfn : fnd (prT T) k = (fT T k).map (·.fd) := fnd_fT T k
  refine (store_list b mb T k hk after w h).mono fun e w' ⟨v', h1, h2, h3⟩ => ⟨v', ?_, ?_, h3⟩
  · show e = .returned (.tuple #[v', .int .i64 (listS (prT T) k after).2])
    unfold listS
    rw [hfn, h1]
    cases fT T k <;> rfl
  · show w'.ownsRow _ _ 5 v' (listS (prT T) k after).1.length (poL (listS (prT T) k after).1)
    unfold listS
    rw [hfn]
    cases hf : fT T k <;> rw [hf] at h2 <;> exact h2
theorem st_polled (b : Nat) (O : List Nat) (S : Sv) (k : List UInt8) (hk : k.length ≤ maxLen) (w : World) (h : St w b O S) :
    Calls Try.prog 23 #[.pointer (some ⟨b, 0, none⟩), .string ⟨k.toArray⟩] w fun e w' =>
      e = .returned (.tuple #[.int .i64 ((fnd S k).elim 0 (·.pol)), .int .i64 ((fnd S k).elim 0 (·.fai)), .bool (fnd S k).isSome]) ∧ Only [] w w' := by
  obtain ⟨mb, T, h, rfl, rfl⟩ := h
  have hfn : fnd (prT T) k = (fT T k).map (·.fd) := fnd_fT T k
  refine (store_polled b mb T k hk w h).mono fun e w' ⟨h1, h2⟩ => ⟨?_, h2⟩
  show e = .returned (.tuple #[.int .i64 ((fnd (prT T) k).elim 0 (·.pol)), .int .i64 ((fnd (prT T) k).elim 0 (·.fai)), .bool (fnd (prT T) k).isSome])
  rw [hfn, h1]
  cases fT T k <;> rfl
end Go.Proofs.Ytjfnkjpnjiobjaa
namespace Go.Proofs.Ytjfnkjpnjiobjaa
open Go.RowKit
theorem st_all (b : Nat) (O : List Nat) (S : Sv) (k : List UInt8) (hk : k.length ≤ maxLen) (w : World) (h : St w b O S) :
    Calls Try.prog 19 #[.pointer (some ⟨b, 0, none⟩), .string ⟨k.toArray⟩] w fun e w' => ∃ v', e = .returned v' ∧ w'.ownsRow w.heap.size 38 5 v' (allS S k).length (poL (allS S k)) ∧ Only [] w w' := by
  obtain ⟨mb, T, h, rfl, rfl⟩ := h
  have hfn : fnd (prT T) k = (fT T k).map (·.fd) := fnd_fT T k
  have e1 : allS (prT T) k = allF (fT T k) := by unfold allS; rw [hfn]; cases fT T k <;> rfl
  refine (law_all b mb T k hk w h).mono fun e w' ⟨v', h1, h2, h3⟩ => ⟨v', h1, ?_, h3⟩
  show w'.ownsRow _ _ 5 v' (allS (prT T) k).length (poL (allS (prT T) k))
  rw [e1]; exact h2
end Go.Proofs.Ytjfnkjpnjiobjaa
namespace Go.Proofs.Ytjfnkjpnjiobjaa
open Go.RowKit
def pkI (c n : Int) : Int := if c < 0 then -(c + 1) % n else c % n
theorem pkI_lt (c n : Int) (hn : 0 < n) : 0 ≤ pkI c n ∧ pkI c n < n := by
  unfold pkI
  split
  · exact ⟨Int.emod_nonneg _ (by omega), Int.emod_lt_of_pos _ hn⟩
  · exact ⟨Int.emod_nonneg _ (by omega), Int.emod_lt_of_pos _ hn⟩
theorem pick17 (c n : Int) (w : World) (hc : Wide64 c) (h0 : 1 ≤ n) (h1 : n ≤ 1000000000) :
    Calls Try.prog 20 #[.int .i64 c, .int .i64 n] w fun e w' => e = .returned (.int .i64 (pkI c n)) ∧ w = w' := by
  obtain ⟨c0, c1⟩ := hc
  have hn : (n == 0) = false := by simp; omega
  by_cases h : c < 0
  · have h2 : 0 ≤ -(c + 1) := by omega
    have h2' : c ≤ -1 := by omega
    go_enter Try.func20, Try.ntmps20
    go_wp2
    go_ret
    exact ⟨by unfold pkI; rw [if_pos (by omega), ← Int.tmod_eq_emod_of_nonneg h2]; first | rfl | simp, rfl⟩
  · have h2 : 0 ≤ c := by omega
    have hd : decide (c < 0) = false := by simpa using h
    go_enter Try.func20, Try.ntmps20
    go_wp2
    go_ret
    exact ⟨by unfold pkI; rw [if_neg (by omega)]; simp, rfl⟩
set_option maxRecDepth 100000 in
set_option maxHeartbeats 1000000 in
theorem posts17 (v1 v2 : Value) (l : List Po) (w : World) (hs1 : SlAt w w.heap.size v1 5 l.length (poL l)) (hs2 : SlAt w w.heap.size v2 5 l.length (poL l)) (hl : l.length ≤ 1000000) :
    Calls Try.prog 22 #[v1, v2] w fun e w' => e = .returned (.bool true) ∧ Only [] w w' := by
  obtain ⟨A1, c1, rfl⟩ := hs1.shape
  obtain ⟨A2, c2, rfl⟩ := hs2.shape
  have H1 := Lib.hid hs1
  have H2 := Lib.hid hs2
  clear hs1 hs2
  go_enter Try.func22, Try.ntmps22
  go_wp2_with fail
  go_loopw [5] (fun i wr => ∃ k : Nat, k ≤ l.length ∧ i = .int .i64 k ∧ Hid (Only [] w wr)) (fun i _ => l.length - (intOf i).toNat)
  case atStart => exact ⟨0, by omega, rfl, Lib.hid (Only.refl _ _)⟩
  case round =>
    obtain ⟨k, hk, rfl, ho⟩ := hrel
    by_cases hlt : k < l.length
    · have hlt' : (k : Int) < (l.length : Int) := by omega
      obtain ⟨x, hx⟩ : ∃ x, l[k]? = some x := ⟨_, List.getElem?_eq_getElem hlt⟩
      obtain ⟨b1, o1, c1', e1, hb1, hc1⟩ := (H1.out.only ho.out (Nat.le_refl _) (by simp)).at_ (by omega)
      obtain ⟨b2, o2, c2', e2, hb2, hc2⟩ := (H2.out.only ho.out (Nat.le_refl _) (by simp)).at_ (by omega)
      injection e1 with i1 i2 i3
      injection e2 with j1 j2 j3
      subst i1; subst i3; subst j1; subst j3
      have q0 : wr.cell? ⟨b1, o1 + k * 5, none⟩ = some (.int .i64 x.sq) := hc1 (k * 5 + 0) _ (poL_get l k 0 x hx (by omega))
      have q1 : wr.cell? ⟨b1, o1 + k * 5 + 1, none⟩ = some (.string ⟨x.it.id.toArray⟩) := hc1 (k * 5 + 1) _ (poL_get l k 1 x hx (by omega))
      have q2 : wr.cell? ⟨b1, o1 + k * 5 + 2, none⟩ = some (.string ⟨x.it.ti.toArray⟩) := hc1 (k * 5 + 2) _ (poL_get l k 2 x hx (by omega))
      have q3 : wr.cell? ⟨b1, o1 + k * 5 + 3, none⟩ = some (.string ⟨x.it.li.toArray⟩) := hc1 (k * 5 + 3) _ (poL_get l k 3 x hx (by omega))
      have q4 : wr.cell? ⟨b1, o1 + k * 5 + 4, none⟩ = some (.bool x.rd) := hc1 (k * 5 + 4) _ (poL_get l k 4 x hx (by omega))
      have s0 : wr.cell? ⟨b2, o2 + k * 5, none⟩ = some (.int .i64 x.sq) := hc2 (k * 5 + 0) _ (poL_get l k 0 x hx (by omega))
      have s1 : wr.cell? ⟨b2, o2 + k * 5 + 1, none⟩ = some (.string ⟨x.it.id.toArray⟩) := hc2 (k * 5 + 1) _ (poL_get l k 1 x hx (by omega))
      have s2 : wr.cell? ⟨b2, o2 + k * 5 + 2, none⟩ = some (.string ⟨x.it.ti.toArray⟩) := hc2 (k * 5 + 2) _ (poL_get l k 2 x hx (by omega))
      have s3 : wr.cell? ⟨b2, o2 + k * 5 + 3, none⟩ = some (.string ⟨x.it.li.toArray⟩) := hc2 (k * 5 + 3) _ (poL_get l k 3 x hx (by omega))
      have s4 : wr.cell? ⟨b2, o2 + k * 5 + 4, none⟩ = some (.bool x.rd) := hc2 (k * 5 + 4) _ (poL_get l k 4 x hx (by omega))
      have p0 := fun u : Since wr => u.cell q0
      have p1 := fun u : Since wr => u.cell q1
      have p2 := fun u : Since wr => u.cell q2
      have p3 := fun u : Since wr => u.cell q3
      have p4 := fun u : Since wr => u.cell q4
      have r0 := fun u : Since wr => u.cell s0
      have r1 := fun u : Since wr => u.cell s1
      have r2 := fun u : Since wr => u.cell s2
      have r3 := fun u : Since wr => u.cell s3
      have r4 := fun u : Since wr => u.cell s4
      clear hx q0 q1 q2 q3 q4 s0 s1 s2 s3 s4 i2 j2 hc1 hc2
      go_wp2_with fail
      refine wp_region_only wr (Only.refl _ _) (by kernel_rfl) (by kernel_rfl) ?_
      repeat (go_big_quiet_step (fail))
      refine wpQuiet_nil ?_
      rintro ⟨w3, ho3⟩
      dsimp only
      have HO3 := Lib.hid (ho.out.tr ho3)
      clear p0 p1 p2 p3 p4 r0 r1 r2 r3 r4
      go_wp2_with fail
      go_roundw
      case rel => exact ⟨k + 1, by omega, by go_num, HO3⟩
      case measure => simp [intOf]; omega
    · have hd : decide ((k : Int) < (l.length : Int)) = false := by simp; omega
      go_wp2_with fail
      go_ret
      exact ⟨rfl, ho.out⟩
end Go.Proofs.Ytjfnkjpnjiobjaa
namespace Go.Proofs.Ytjfnkjpnjiobjaa
open Go.RowKit
structure SmI (x : It) : Prop where
  id : x.id.length ≤ 300
  ti : x.ti.length ≤ 300
  li : x.li.length ≤ 300
structure SmA (a : A17) : Prop where
  fd : a.fd.length ≤ 200
  id : a.id.length ≤ 500
  n : a.its.length ≤ 60
  its : ∀ x ∈ a.its, SmI x
structure Sm17 (l : List A17) : Prop where
  n : l.length ≤ 100
  al : ∀ a ∈ l, SmA a
theorem acL_get (l : List A17) (i j : Nat) (x : A17) (h : l[i]? = some x) (hj : j < 5) : (acL l)[i * 5 + j]? = x.cells[j]? := flat_get A17.cells 5 (fun _ => rfl) l i j x h hj
theorem A17.Ok.only {w w' : World} {a : A17} (h : a.Ok w) (ho : Only [] w w') : a.Ok w' := ⟨h.op, h.n, h.fd, h.id, (h.its.only ho (Nat.le_refl _) (by simp)).more ho.size, h.len⟩
theorem all_snoc {α : Type} {P : α → Prop} {l : List α} {k : Nat} {x : α} (h : l[k]? = some x) (h1 : ∀ a ∈ l.take k, P a) (hx : P x) : ∀ a ∈ l.take (k + 1), P a := by
  intro a ha
  rw [List.take_add_one, h] at ha
  rcases List.mem_append.1 ha with ha | ha
  · exact h1 a ha
  · simp at ha; subst ha; exact hx
theorem acL_at {w : World} {B : Nat} {v : Value} {l : List A17} (h : SlAt w B v 5 l.length (acL l)) {k : Nat} {a : A17} (hk : l[k]? = some a) :
    ∃ b o c, v = .slice (some ⟨b, o, none⟩) l.length c ∧ w.cell? ⟨b, o + k * 5, none⟩ = some (.int .i64 a.op) ∧ w.cell? ⟨b, o + k * 5 + 1, none⟩ = some (.int .i64 a.n) ∧ w.cell? ⟨b, o + k * 5 + 2, none⟩ = some (.string ⟨a.fd.toArray⟩) ∧ w.cell? ⟨b, o + k * 5 + 3, none⟩ = some (.string ⟨a.id.toArray⟩) ∧ w.cell? ⟨b, o + k * 5 + 4, none⟩ = some a.iv := by
  have hlt : k < l.length := (List.getElem?_eq_some_iff.1 hk).1
  obtain ⟨b, o, c, hv, _, hc⟩ := h.at_ (by omega)
  exact ⟨b, o, c, hv, hc (k * 5 + 0) _ (acL_get l k 0 a hk (by omega)), hc (k * 5 + 1) _ (acL_get l k 1 a hk (by omega)), hc (k * 5 + 2) _ (acL_get l k 2 a hk (by omega)), hc (k * 5 + 3) _ (acL_get l k 3 a hk (by omega)), hc (k * 5 + 4) _ (acL_get l k 4 a hk (by omega))⟩
def SmR (l : List A17) (w : World) (e : Ending) (w' : World) : Prop := ∃ bo, e = .returned (.bool bo) ∧ (bo = true → Sm17 l) ∧ Only [] w w'
theorem SmR.no {l : List A17} {w w' : World} (ho : Only [] w w') : SmR l w (.returned (.bool false)) w' := ⟨false, rfl, fun h => (by cases h), ho⟩
set_option maxRecDepth 100000 in
set_option maxHeartbeats 2000000 in
theorem small17 (v : Value) (l : List A17) (w : World) (hs : SlAt w w.heap.size v 5 l.length (acL l)) (hok : ∀ a ∈ l, a.Ok w) :
    Calls Try.prog 16 #[v] w (SmR l w) := by
  obtain ⟨A, c, rfl⟩ := hs.shape
  have hll : l.length ≤ 9223372036854775807 := by obtain ⟨_, _, _, _, h1, h2, _⟩ := hs; unfold maxLen at h2; omega
  have HS := Lib.hid hs
  have HK := Lib.hid hok
  clear hs hok
  by_cases h100 : 100 < l.length
  · have d1 : decide ((100 : Int) < (l.length : Int)) = true := by simp; omega
    go_enter Try.func16, Try.ntmps16
    go_wp2_with fail
    go_ret
    exact SmR.no (Only.refl _ _)
  have d1 : decide ((100 : Int) < (l.length : Int)) = false := by simp; omega
  go_enter Try.func16, Try.ntmps16
  go_wp2_with fail
  go_loopw [3] (fun i wr => ∃ k : Nat, k ≤ l.length ∧ i = .int .i64 k ∧ Hid (∀ a ∈ l.take k, SmA a) ∧ Hid (Only [] w wr)) (fun i _ => l.length - (intOf i).toNat)
  case atStart => exact ⟨0, by omega, rfl, Lib.hid (by simp), Lib.hid (Only.refl _ _)⟩
  case round =>
    obtain ⟨k, hk, rfl, hall, ho⟩ := hrel
    obtain ⟨wo, rfl⟩ : ∃ wo, wo = wr := ⟨_, rfl⟩
    by_cases hlt : k < l.length
    · have hlt' : decide ((k : Int) < (l.length : Int)) = true := by simp; omega
      have hlt2 : (k : Int) < (l.length : Int) := by omega
      obtain ⟨a, ha⟩ : ∃ a, l[k]? = some a := ⟨_, List.getElem?_eq_getElem hlt⟩
      have HA := Lib.hid ((HK.out a (List.mem_of_getElem? ha)).only ho.out)
      obtain ⟨b, o, c', hv, q0, q1, q2, q3, q4⟩ := acL_at (HS.out.only ho.out (Nat.le_refl _) (by simp)) ha
      obtain ⟨IA, ic, hiv⟩ := HA.out.its.shape
      have hil : a.its.length ≤ 9223372036854775807 := by obtain ⟨_, _, _, _, h1, h2, _⟩ := HA.out.its; unfold maxLen at h2; omega
      have hfl := HA.out.fd
      have hdl := HA.out.id
      unfold maxLen at hfl hdl
      have HAT := Lib.hid ha
      rw [hiv] at q4
      injection hv with e1 e2 e3
      subst e1; subst e3
      clear e2 ha
      by_cases h1 : 200 < a.fd.length
      · have f1 : decide ((200 : Int) < (a.fd.length : Int)) = true := by simp; omega
        go_wp2_with fail
        go_ret
        exact SmR.no ho.out
      have f1 : decide ((200 : Int) < (a.fd.length : Int)) = false := by simp; omega
      by_cases h2 : 500 < a.id.length
      · have f2 : decide ((500 : Int) < (a.id.length : Int)) = true := by simp; omega
        go_wp2_with fail
        go_ret
        exact SmR.no ho.out
      have f2 : decide ((500 : Int) < (a.id.length : Int)) = false := by simp; omega
      by_cases h3 : 60 < a.its.length
      · have f3 : decide ((60 : Int) < (a.its.length : Int)) = true := by simp; omega
        go_wp2_with fail
        go_ret
        exact SmR.no ho.out
      have f3 : decide ((60 : Int) < (a.its.length : Int)) = false := by simp; omega
      have HIV := Lib.hid hiv
      have HHS : Hid (SlAt wo w.heap.size (.slice (some ⟨b, o, none⟩) l.length c) 5 l.length (acL l)) := Lib.hid (HS.out.only ho.out (Nat.le_refl _) (by simp))
      clear q0 q1 hiv
      go_wp2_with fail
      go_loopw [4] (fun i wq => ∃ j : Nat, j ≤ a.its.length ∧ i = .int .i64 j ∧ Hid (∀ x ∈ a.its.take j, SmI x) ∧ Hid (Only [] wo wq)) (fun i _ => a.its.length - (intOf i).toNat)
      case atStart => exact ⟨0, by omega, rfl, Lib.hid (by simp), Lib.hid (Only.refl _ _)⟩
      case round =>
        obtain ⟨j, hj, rfl, hall2, hoq⟩ := hrel
        obtain ⟨wq, rfl⟩ : ∃ wq, wq = wr := ⟨_, rfl⟩
        obtain ⟨b2, o2, c2, hv2, _, _, _, _, s4⟩ := acL_at (HHS.out.only hoq.out ho.out.size (by simp)) HAT.out
        rw [HIV.out] at s4
        injection hv2 with g1 g2 g3
        injection g1 with g1
        injection g1 with g4 g5 g6
        subst g4; subst g5
        have hoo := Lib.hid (ho.out.tr hoq.out)
        by_cases hjl : j < a.its.length
        · have hj' : decide ((j : Int) < (a.its.length : Int)) = true := by simp; omega
          have hj2 : (j : Int) < (a.its.length : Int) := by omega
          obtain ⟨x, hx⟩ : ∃ x, a.its[j]? = some x := ⟨_, List.getElem?_eq_getElem hjl⟩
          obtain ⟨ib, io, ic', hv3, x0, x1, x2⟩ := itL_at (HA.out.only hoq.out).its hx
          rw [HIV.out] at hv3
          injection hv3 with k1 k2 k3
          subst k1; subst k3
          have hxl := HA.out.len x (List.mem_of_getElem? hx)
          have n0 := hxl.id
          have n1 := hxl.ti
          have n2 := hxl.li
          unfold maxLen at n0 n1 n2
          have HXT := Lib.hid hx
          clear hx k2 g3 g6 hxl q2 q3 q4
          obtain ⟨w2, hw2⟩ : ∃ w2, wq.alloc (.cells #[.string ⟨x.id.toArray⟩, .string ⟨x.ti.toArray⟩, .string ⟨x.li.toArray⟩] 36) = w2 := ⟨_, rfl⟩
          have hO2 : Only [] wq w2 := hw2 ▸ (Only.refl _ _).alloc _
          obtain ⟨z, hz⟩ : ∃ z, wq.heap.size = z := ⟨_, rfl⟩
          have hzc : Cells w2 z 36 x.cells := hw2 ▸ hz ▸ Cells.new wq _ _
          have z0 := hzc.cell (k := 0) rfl
          have z1 := hzc.cell (k := 1) rfl
          have z2 := hzc.cell (k := 2) rfl
          have HO2 := Lib.hid (hoq.out.tr hO2)
          have HOO := Lib.hid (hoo.out.tr hO2)
          clear hzc hO2
          by_cases m0 : 300 < x.id.length
          · have t0 : decide ((300 : Int) < (x.id.length : Int)) = true := by simp; omega
            go_wp2_with fail
            go_ret
            exact SmR.no HOO.out
          have t0 : decide ((300 : Int) < (x.id.length : Int)) = false := by simp; omega
          by_cases m1 : 300 < x.ti.length
          · have t1 : decide ((300 : Int) < (x.ti.length : Int)) = true := by simp; omega
            go_wp2_with fail
            go_ret
            exact SmR.no HOO.out
          have t1 : decide ((300 : Int) < (x.ti.length : Int)) = false := by simp; omega
          by_cases m2 : 300 < x.li.length
          · have t2 : decide ((300 : Int) < (x.li.length : Int)) = true := by simp; omega
            go_wp2_with fail
            go_ret
            exact SmR.no HOO.out
          have t2 : decide ((300 : Int) < (x.li.length : Int)) = false := by simp; omega
          have HX2 := Lib.hid (all_snoc HXT.out hall2.out ⟨by omega, by omega, by omega⟩)
          go_wp2_with fail
          go_roundw
          case rel => exact ⟨j + 1, by omega, by go_num, HX2, HO2⟩
          case measure => simp [intOf]; omega
        · have hj' : decide ((j : Int) < (a.its.length : Int)) = false := by simp; omega
          obtain rfl : j = a.its.length := by omega
          have HX2 := Lib.hid (all_snoc HAT.out hall.out ⟨by omega, by omega, by omega, by have := hall2.out; rwa [List.take_length] at this⟩)
          go_wp2_with fail
          go_roundw
          case rel => exact ⟨k + 1, by omega, by go_num, HX2, hoo⟩
          case measure => simp [intOf]; omega
    · have hlt' : decide ((k : Int) < (l.length : Int)) = false := by simp; omega
      obtain rfl : k = l.length := by omega
      have HF := Lib.hid (⟨by omega, by have := hall.out; rwa [List.take_length] at this⟩ : Sm17 l)
      go_wp2_with fail
      go_ret
      exact ⟨true, rfl, fun _ => HF.out, ho.out⟩
end Go.Proofs.Ytjfnkjpnjiobjaa
namespace Go.Proofs.Ytjfnkjpnjiobjaa
open Go.RowKit
def D17q (q : Int) (S : Sv) (a : A17) : Int × List Po × Int × Sv :=
  if q = 0 then (0, [], subS S a.fd)
  else if q = 1 then (0, [], subS S a.fd)
  else if q = 2 then (0, [], unS S a.fd)
  else if q = 7 then (0, [], failS S a.fd a.n)
  else if q = 8 then (0, [], markS S a.fd a.id)
  else if q = 9 then (0, (listS S a.fd a.n).1, (listS S a.fd a.n).2, S)
  else ((ingR S a.fd a.its a.n).1, [], (ingR S a.fd a.its a.n).2)
def D17 (S : Sv) (a : A17) : Int × List Po × Int × Sv := D17q (pkI a.op 10) S a
/-- What an act's answer is. -/
def DoesW (w : World) (b : Nat) (O : List Nat) (D : Int × List Po × Int × Sv) (e : Ending) (w' : World) : Prop :=
  ∃ v' O', e = .returned (.tuple #[.int .i64 D.1, v', .int .i64 D.2.2.1]) ∧ w'.ownsRow w.heap.size 38 5 v' D.2.1.length (poL D.2.1) ∧ (∀ g, v'.ownBlock = some g → g ∉ O') ∧ St w' b O' D.2.2.2 ∧ Only O w w' ∧ ∀ x ∈ O', x ∈ O ∨ w.heap.size ≤ x
theorem DoesW.of {w w' : World} {b : Nat} {O : List Nat} {n r : Int} {S : Sv} {e : Ending} (he : e = .returned (.tuple #[.int .i64 n, .slice none 0 0, .int .i64 r])) (h : OpS w w' b O S) : DoesW w b O (n, [], r, S) e w' := by
  obtain ⟨O', h1, h2, h3⟩ := h
  exact ⟨_, O', he, World.ownsRow_nil _ _ _ _, fun g hg => by simp [Value.ownBlock] at hg, h1, h2, h3⟩
theorem OpS.pre {w0 w w' : World} {b : Nat} {O : List Nat} {S : Sv} (h : OpS w w' b O S) (h0 : Only [] w0 w) : OpS w0 w' b O S := by
  obtain ⟨O', h1, h2, h3⟩ := h
  exact ⟨O', h1, (h0.of0).trans h2 (fun x hx => .inl hx), fun x hx => (h3 x hx).imp id (fun h => Nat.le_trans h0.size h)⟩
set_option maxRecDepth 100000 in
set_option maxHeartbeats 2000000 in
theorem does17 (b : Nat) (O : List Nat) (S : Sv) (a : A17) (w : World) (h : St w b O S) (ho : Wide64 a.op) (hfd : a.fd.length ≤ maxLen) (hid : a.id.length ≤ maxLen) (hl : a.its.length ≤ 1000000) (hx : ∀ x ∈ a.its, x.Len) (hs : ∀ w', Only O w w' → SlAt w' w'.heap.size a.iv 3 a.its.length (itL a.its)) :
    Calls Try.prog 18 #[.pointer (some ⟨b, 0, none⟩), .agg #[.int .i64 a.op, .int .i64 a.n, .string ⟨a.fd.toArray⟩, .string ⟨a.id.toArray⟩, a.iv]] w (DoesW w b O (D17 S a)) := by
  obtain ⟨IA, ic, hiv⟩ := (hs w (Only.refl _ _)).shape
  rw [hiv] at hs ⊢
  obtain ⟨w1, hw1⟩ : ∃ w1, w.alloc (.cells #[.int .i64 a.op, .int .i64 a.n, .string ⟨a.fd.toArray⟩, .string ⟨a.id.toArray⟩, .slice IA a.its.length ic] 33) = w1 := ⟨_, rfl⟩
  obtain ⟨z, hz⟩ : ∃ z, w.heap.size = z := ⟨_, rfl⟩
  have O1 : Only [] w w1 := hw1 ▸ (Only.refl _ _).alloc _
  have a1 : Cells w1 z 33 [.int .i64 a.op, .int .i64 a.n, .string ⟨a.fd.toArray⟩, .string ⟨a.id.toArray⟩, .slice IA a.its.length ic] := hw1 ▸ hz ▸ Cells.new w _ _
  have h1 := h.keep O1 (by simp)
  have c0 := a1.cell (k := 0) rfl
  have c1 := a1.cell (k := 1) rfl
  have c2 := a1.cell (k := 2) rfl
  have c3 := a1.cell (k := 3) rfl
  have c4 := a1.cell (k := 4) rfl
  have CK := Lib.hid (fun w' => pick17 a.op 10 w' ho (by omega) (by omega))
  have hq := pkI_lt a.op 10 (by omega)
  have hD : D17 S a = D17q (pkI a.op 10) S a := rfl
  rw [hD]
  obtain ⟨q, hqq⟩ : ∃ q, pkI a.op 10 = q := ⟨_, rfl⟩
  rw [hqq] at CK hq ⊢
  have CSub := Lib.hid (st_sub b O S a.fd hfd w1 h1)
  have CUn := Lib.hid (st_un b O S a.fd hfd w1 h1)
  have CFail := Lib.hid (st_fail b O S a.fd hfd a.n w1 h1)
  have CMark := Lib.hid (st_mark b O S a.fd hfd a.id hid w1 h1)
  have CList := Lib.hid (st_list b O S a.fd hfd a.n w1 h1)
  have CIng := Lib.hid (st_ingest b O S a.fd hfd _ a.its a.n w1 h1 (fun w' ho => hs w' (O1.of0.trans ho (fun x hx => .inl hx))) hl hx)
  have HO1 := Lib.hid O1
  have H1 := Lib.hid h1
  have HB := Lib.hid h.bw
  clear h h1 hs hx O1 a1 hD hqq hiv
  have hcase : q = 0 ∨ q = 1 ∨ q = 2 ∨ q = 7 ∨ q = 8 ∨ q = 9 ∨ q = 3 ∨ q = 4 ∨ q = 5 ∨ q = 6 := by omega
  clear hq
  rcases hcase with rfl | rfl | rfl | rfl | rfl | rfl | rfl | rfl | rfl | rfl
  · rw [show D17q 0 S a = (0, [], subS S a.fd) from rfl]
    obtain ⟨rr, SS⟩ : ∃ rr, subS S a.fd = rr := ⟨_, rfl⟩
    rw [SS] at CSub ⊢
    clear SS
    obtain ⟨r1, S1⟩ := rr
    go_enter Try.func18, Try.ntmps18
    go_wp2_with fail
    refine (CK.out _).mono ?_
    rintro e w2 ⟨rfl, rfl⟩
    go_wp2_with fail
    refine CSub.out.mono ?_
    rintro e w3 ⟨rfl, hop⟩
    have HOP := Lib.hid (hop.pre HO1.out)
    clear hop hw1 hz c0 c1 c2 c3 c4
    go_wp2_with fail
    go_ret3
    exact DoesW.of rfl HOP.out
  · rw [show D17q 1 S a = (0, [], subS S a.fd) from rfl]
    obtain ⟨rr, SS⟩ : ∃ rr, subS S a.fd = rr := ⟨_, rfl⟩
    rw [SS] at CSub ⊢
    clear SS
    obtain ⟨r1, S1⟩ := rr
    go_enter Try.func18, Try.ntmps18
    go_wp2_with fail
    refine (CK.out _).mono ?_
    rintro e w2 ⟨rfl, rfl⟩
    go_wp2_with fail
    refine CSub.out.mono ?_
    rintro e w3 ⟨rfl, hop⟩
    have HOP := Lib.hid (hop.pre HO1.out)
    clear hop hw1 hz c0 c1 c2 c3 c4
    go_wp2_with fail
    go_ret3
    exact DoesW.of rfl HOP.out
  · rw [show D17q 2 S a = (0, [], unS S a.fd) from rfl]
    obtain ⟨rr, SS⟩ : ∃ rr, unS S a.fd = rr := ⟨_, rfl⟩
    rw [SS] at CUn ⊢
    clear SS
    obtain ⟨r1, S1⟩ := rr
    go_enter Try.func18, Try.ntmps18
    go_wp2_with fail
    refine (CK.out _).mono ?_
    rintro e w2 ⟨rfl, rfl⟩
    go_wp2_with fail
    refine CUn.out.mono ?_
    rintro e w3 ⟨rfl, hop⟩
    have HOP := Lib.hid (hop.pre HO1.out)
    clear hop hw1 hz c0 c1 c2 c3 c4
    go_wp2_with fail
    go_ret3
    exact DoesW.of rfl HOP.out
  · rw [show D17q 7 S a = (0, [], failS S a.fd a.n) from rfl]
    obtain ⟨rr, SS⟩ : ∃ rr, failS S a.fd a.n = rr := ⟨_, rfl⟩
    rw [SS] at CFail ⊢
    clear SS
    obtain ⟨r1, S1⟩ := rr
    go_enter Try.func18, Try.ntmps18
    go_wp2_with fail
    refine (CK.out _).mono ?_
    rintro e w2 ⟨rfl, rfl⟩
    go_wp2_with fail
    refine CFail.out.mono ?_
    rintro e w3 ⟨rfl, hop⟩
    have HOP := Lib.hid (hop.pre HO1.out)
    clear hop hw1 hz c0 c1 c2 c3 c4
    go_wp2_with fail
    go_ret3
    exact DoesW.of rfl HOP.out
  · rw [show D17q 8 S a = (0, [], markS S a.fd a.id) from rfl]
    obtain ⟨rr, SS⟩ : ∃ rr, markS S a.fd a.id = rr := ⟨_, rfl⟩
    rw [SS] at CMark ⊢
    clear SS
    obtain ⟨r1, S1⟩ := rr
    go_enter Try.func18, Try.ntmps18
    go_wp2_with fail
    refine (CK.out _).mono ?_
    rintro e w2 ⟨rfl, rfl⟩
    go_wp2_with fail
    refine CMark.out.mono ?_
    rintro e w3 ⟨rfl, hop⟩
    have HOP := Lib.hid (hop.pre HO1.out)
    clear hop hw1 hz c0 c1 c2 c3 c4
    go_wp2_with fail
    go_ret3
    exact DoesW.of rfl HOP.out
  · rw [show D17q 9 S a = (0, (listS S a.fd a.n).1, (listS S a.fd a.n).2, S) from rfl]
    obtain ⟨rr, SS⟩ : ∃ rr, listS S a.fd a.n = rr := ⟨_, rfl⟩
    rw [SS] at CList ⊢
    clear SS
    obtain ⟨L1, r1⟩ := rr
    go_enter Try.func18, Try.ntmps18
    go_wp2_with fail
    refine (CK.out _).mono ?_
    rintro e w2 ⟨rfl, rfl⟩
    go_wp2_with fail
    refine CList.out.mono ?_
    rintro e w3 ⟨v', rfl, hown, ho3⟩
    have hlow : ∀ g, v'.ownBlock = some g → g ∉ O := fun g hg hx => by
      have h1 := HB.out g hx
      have h2 := (hown.lt g hg).1
      have h3 := HO1.out.size
      omega
    have HL := Lib.hid hlow
    have HW := Lib.hid (own_low hown HO1.out.size)
    have HS3 := Lib.hid (H1.out.keep ho3 (by simp))
    have HO3 := Lib.hid (HO1.out.tr ho3)
    clear hown ho3 hlow hw1 hz c0 c1 c2 c3 c4
    go_wp2_with fail
    go_ret3
    exact ⟨v', O, rfl, HW.out, HL.out, HS3.out, HO3.out.of0, fun x hx => .inl hx⟩
  · rw [show D17q 3 S a = ((ingR S a.fd a.its a.n).1, [], (ingR S a.fd a.its a.n).2) from rfl]
    obtain ⟨rr, SS⟩ : ∃ rr, ingR S a.fd a.its a.n = rr := ⟨_, rfl⟩
    rw [SS] at CIng ⊢
    clear SS
    obtain ⟨n1, r1, S1⟩ := rr
    go_enter Try.func18, Try.ntmps18
    go_wp2_with fail
    refine (CK.out _).mono ?_
    rintro e w2 ⟨rfl, rfl⟩
    go_wp2_with fail
    refine CIng.out.mono ?_
    rintro e w3 ⟨rfl, hop⟩
    have HOP := Lib.hid (hop.pre HO1.out)
    clear hop hw1 hz c0 c1 c2 c3 c4
    go_wp2_with fail
    go_ret3
    exact DoesW.of rfl HOP.out
  · rw [show D17q 4 S a = ((ingR S a.fd a.its a.n).1, [], (ingR S a.fd a.its a.n).2) from rfl]
    obtain ⟨rr, SS⟩ : ∃ rr, ingR S a.fd a.its a.n = rr := ⟨_, rfl⟩
    rw [SS] at CIng ⊢
    clear SS
    obtain ⟨n1, r1, S1⟩ := rr
    go_enter Try.func18, Try.ntmps18
    go_wp2_with fail
    refine (CK.out _).mono ?_
    rintro e w2 ⟨rfl, rfl⟩
    go_wp2_with fail
    refine CIng.out.mono ?_
    rintro e w3 ⟨rfl, hop⟩
    have HOP := Lib.hid (hop.pre HO1.out)
    clear hop hw1 hz c0 c1 c2 c3 c4
    go_wp2_with fail
    go_ret3
    exact DoesW.of rfl HOP.out
  · rw [show D17q 5 S a = ((ingR S a.fd a.its a.n).1, [], (ingR S a.fd a.its a.n).2) from rfl]
    obtain ⟨rr, SS⟩ : ∃ rr, ingR S a.fd a.its a.n = rr := ⟨_, rfl⟩
    rw [SS] at CIng ⊢
    clear SS
    obtain ⟨n1, r1, S1⟩ := rr
    go_enter Try.func18, Try.ntmps18
    go_wp2_with fail
    refine (CK.out _).mono ?_
    rintro e w2 ⟨rfl, rfl⟩
    go_wp2_with fail
    refine CIng.out.mono ?_
    rintro e w3 ⟨rfl, hop⟩
    have HOP := Lib.hid (hop.pre HO1.out)
    clear hop hw1 hz c0 c1 c2 c3 c4
    go_wp2_with fail
    go_ret3
    exact DoesW.of rfl HOP.out
  · rw [show D17q 6 S a = ((ingR S a.fd a.its a.n).1, [], (ingR S a.fd a.its a.n).2) from rfl]
    obtain ⟨rr, SS⟩ : ∃ rr, ingR S a.fd a.its a.n = rr := ⟨_, rfl⟩
    rw [SS] at CIng ⊢
    clear SS
    obtain ⟨n1, r1, S1⟩ := rr
    go_enter Try.func18, Try.ntmps18
    go_wp2_with fail
    refine (CK.out _).mono ?_
    rintro e w2 ⟨rfl, rfl⟩
    go_wp2_with fail
    refine CIng.out.mono ?_
    rintro e w3 ⟨rfl, hop⟩
    have HOP := Lib.hid (hop.pre HO1.out)
    clear hop hw1 hz c0 c1 c2 c3 c4
    go_wp2_with fail
    go_ret3
    exact DoesW.of rfl HOP.out
end Go.Proofs.Ytjfnkjpnjiobjaa
namespace Go.Proofs.Ytjfnkjpnjiobjaa
open Go.RowKit
set_option maxRecDepth 100000 in
theorem ref_text (s : List UInt8) (w : World) (hl : s.length ≤ 1000000000000) : Calls Try.prog 102 #[.string ⟨s.toArray⟩] w fun e w' => e = .returned (.string ⟨(tb s).toArray⟩) ∧ Only [] w w' := by
  have HI := Lib.hid (ref_int s.length w ⟨by omega, by omega⟩)
  have HL := Lib.hid (ib_length s.length ⟨by omega, by omega⟩)
  go_enter Try.func102, Try.ntmps102
  go_wp2_with fail
  refine HI.out.mono ?_
  rintro e w1 ⟨rfl, ho⟩
  have HL := HL.out
  go_wp2_with fail
  go_ret
  exact ⟨by unfold tb; rw [← ba_append]; rfl, ho⟩

set_option maxRecDepth 100000 in
theorem ref_toText (s : List UInt8) (w : World) (hl : s.length ≤ 1000000000000) :
    Calls Try.prog 133 #[.string ⟨s.toArray⟩] w fun e w' => e = .returned (rdTV (rdT s)) ∧ Only [] w w' := by
  have HC := Lib.hid (ref_toInt s w hl)
  go_enter Try.func133, Try.ntmps133
  go_wp2_with fail
  refine HC.out.mono ?_
  rintro e w1 ⟨he, ho⟩
  cases hr : rdI s with
  | none =>
    rw [hr] at he
    have he : e = .returned (.tuple #[.int .i64 0, .string ⟨#[]⟩, .bool false]) := he
    subst he
    have HR : Hid (rdT s = none) := by show _ = _; unfold rdT; rw [hr]
    clear hr
    go_wp2_with fail
    go_ret3
    exact ⟨by rw [HR.out]; rfl, ho⟩
  | some nr =>
    obtain ⟨n, r⟩ := nr
    rw [hr] at he
    have he : e = .returned (.tuple #[.int .i64 n, .string ⟨r.toArray⟩, .bool true]) := he
    subst he
    have hrl := rdI_length hr
    by_cases h0 : 0 ≤ n
    · by_cases h1 : n ≤ r.length
      · have HR : Hid (rdT s = some (r.take n.toNat, r.drop n.toNat)) := by show _ = _; unfold rdT; rw [hr]; exact if_pos ⟨h0, h1⟩
        obtain ⟨k, rfl⟩ : ∃ k : Nat, n = k := ⟨n.toNat, by omega⟩
        clear hr
        have hd : decide ((k : Int) < 0) = false := by simp
        have hd1 : decide ((r.length : Int) < k) = false := by simp; omega
        go_wp2_with fail
        go_quiet (fail)
        rw [str_to_end, str_from_start]
        go_wp2_with fail
        go_ret3
        exact ⟨by rw [HR.out]; rfl, ho.drewN _⟩
      · have HR : Hid (rdT s = none) := by show _ = _; unfold rdT; rw [hr]; exact if_neg fun h => h1 h.2
        clear hr
        have hd : decide (n < 0) = false := by simp; omega
        have hd1 : decide ((r.length : Int) < n) = true := by simp; omega
        go_wp2_with fail
        go_ret3
        exact ⟨by rw [HR.out]; rfl, ho⟩
    · have HR : Hid (rdT s = none) := by show _ = _; unfold rdT; rw [hr]; exact if_neg fun h => h0 h.1
      clear hr
      have hd : decide (n < 0) = true := by simp; omega
      go_wp2_with fail
      go_ret3
      exact ⟨by rw [HR.out]; rfl, ho⟩

def bb (b : Bool) : List UInt8 := [if b then 1 else 0]
def rdB : List UInt8 → Option (Bool × List UInt8)
  | [] => none
  | c :: r => if c.toNat ≤ 1 then some (c.toNat == 1, r) else none
def rdBV : Option (Bool × List UInt8) → Value
  | some (a, r) => .tuple #[.bool a, .string ⟨r.toArray⟩, .bool true]
  | none => .tuple #[.bool false, .string ⟨#[]⟩, .bool false]

set_option maxRecDepth 100000 in
theorem ref_bool (b : Bool) (w : World) : Calls Try.prog 79 #[.bool b] w fun e w' => e = .returned (.string ⟨(bb b).toArray⟩) ∧ w = w' := by
  cases b
  all_goals
    go_enter Try.func79, Try.ntmps79
    go_wp2_with fail
    go_ret
    exact ⟨rfl, rfl⟩
set_option maxRecDepth 100000 in
theorem ref_toBool (s : List UInt8) (w : World) (hl : s.length ≤ 1000000000000) :
    Calls Try.prog 134 #[.string ⟨s.toArray⟩] w fun e w' => e = .returned (rdBV (rdB s)) ∧ Only [] w w' := by
  match s, hl with
  | [], hl =>
    go_enter Try.func134, Try.ntmps134
    go_wp2_with fail
    go_ret3
    exact ⟨rfl, Only.refl _ _⟩
  | c :: r, hl =>
    have hix : ∀ h : 0 < (⟨(c :: r).toArray⟩ : ByteArray).size, (⟨(c :: r).toArray⟩ : ByteArray)[0]'h = c := fun _ => rfl
    have hne : ((c :: r) == ([] : List UInt8)) = false := rfl
    have hlen : 1 ≤ (c :: r).length := by simp
    have hdr : (c :: r).drop 1 = r := rfl
    have hc8 := c.toNat_lt
    by_cases h1 : c.toNat ≤ 1
    · have HR : Hid (rdB (c :: r) = some (c.toNat == 1, r)) := by show _ = _; unfold rdB; exact if_pos h1
      have hd : decide ((1 : Int) < c.toNat) = false := by simp; omega
      obtain ⟨s, hs⟩ : ∃ s, c :: r = s := ⟨_, rfl⟩
      rw [hs] at hix hne hlen hdr hl HR ⊢
      clear hs
      go_enter Try.func134, Try.ntmps134
      go_wp2_with fail
      have heq : ((c.toNat : Int) == 1) = (c.toNat == 1) := by
        rw [Bool.eq_iff_iff]; simp; omega
      go_quiet (fail)
      rw [str_to_end, hdr]
      go_wp2_with fail
      go_ret3
      exact ⟨by rw [HR.out]; rfl, (Only.refl _ _).drewN _⟩
    · have HR : Hid (rdB (c :: r) = none) := by show _ = _; unfold rdB; exact if_neg h1
      have hd : decide ((1 : Int) < c.toNat) = true := by simp; omega
      obtain ⟨s, hs⟩ : ∃ s, c :: r = s := ⟨_, rfl⟩
      rw [hs] at hix hne hlen hdr hl HR ⊢
      clear hs
      go_enter Try.func134, Try.ntmps134
      go_wp2_with fail
      go_ret3
      exact ⟨by rw [HR.out]; rfl, Only.refl _ _⟩

set_option maxRecDepth 100000 in
theorem codec_bool (b : Bool) (w : World) : Calls Try.prog 101 #[.bool b] w fun e w' => e = .returned (.string ⟨(bb b).toArray⟩) ∧ w = w' := by
  cases b
  all_goals
    go_enter Try.func101, Try.ntmps101
    go_wp2_with fail
    go_ret
    exact ⟨rfl, rfl⟩
set_option maxRecDepth 100000 in
theorem codec_toBool (s : List UInt8) (w : World) (hl : s.length ≤ 1000000000000) :
    Calls Try.prog 116 #[.string ⟨s.toArray⟩] w fun e w' => e = .returned (rdBV (rdB s)) ∧ Only [] w w' := by
  match s, hl with
  | [], hl =>
    go_enter Try.func116, Try.ntmps116
    go_wp2_with fail
    go_ret3
    exact ⟨rfl, Only.refl _ _⟩
  | c :: r, hl =>
    have hix : ∀ h : 0 < (⟨(c :: r).toArray⟩ : ByteArray).size, (⟨(c :: r).toArray⟩ : ByteArray)[0]'h = c := fun _ => rfl
    have hne : ((c :: r) == ([] : List UInt8)) = false := rfl
    have hlen : 1 ≤ (c :: r).length := by simp
    have hdr : (c :: r).drop 1 = r := rfl
    have hc8 := c.toNat_lt
    by_cases h1 : c.toNat ≤ 1
    · have HR : Hid (rdB (c :: r) = some (c.toNat == 1, r)) := by show _ = _; unfold rdB; exact if_pos h1
      have hd : decide ((1 : Int) < c.toNat) = false := by simp; omega
      obtain ⟨s, hs⟩ : ∃ s, c :: r = s := ⟨_, rfl⟩
      rw [hs] at hix hne hlen hdr hl HR ⊢
      clear hs
      go_enter Try.func116, Try.ntmps116
      go_wp2_with fail
      have heq : ((c.toNat : Int) == 1) = (c.toNat == 1) := by
        rw [Bool.eq_iff_iff]; simp; omega
      go_quiet (fail)
      rw [str_to_end, hdr]
      go_wp2_with fail
      go_ret3
      exact ⟨by rw [HR.out]; rfl, (Only.refl _ _).drewN _⟩
    · have HR : Hid (rdB (c :: r) = none) := by show _ = _; unfold rdB; exact if_neg h1
      have hd : decide ((1 : Int) < c.toNat) = true := by simp; omega
      obtain ⟨s, hs⟩ : ∃ s, c :: r = s := ⟨_, rfl⟩
      rw [hs] at hix hne hlen hdr hl HR ⊢
      clear hs
      go_enter Try.func116, Try.ntmps116
      go_wp2_with fail
      go_ret3
      exact ⟨by rw [HR.out]; rfl, Only.refl _ _⟩

end Go.Proofs.Ytjfnkjpnjiobjaa
namespace Go.Proofs.Ytjfnkjpnjiobjaa
open Go.RowKit
/-- An item whose texts are no longer than n. -/
structure It.Sh (n : Nat) (x : It) : Prop where
  id : x.id.length ≤ n
  ti : x.ti.length ≤ n
  li : x.li.length ≤ n
theorem tb_top (s : List UInt8) (n : Nat) (h : s.length ≤ n) (hn : n ≤ 1000000) : (tb s).length ≤ n + 10 := Nat.le_trans (tb_length s (by omega)).2 (by omega)
def itT (x : It) : List UInt8 := tb x.id ++ (tb x.ti ++ tb x.li)
def spB (p : Po) : List UInt8 := itT p.it ++ bb p.rd
def psB (l : List Po) : List UInt8 := l.flatMap spB
def fdH (x : List UInt8 × Fd) : List UInt8 := tb x.1 ++ isb [x.2.pol, x.2.fai, (x.2.ps.length : Int)]
def fdB (x : List UInt8 × Fd) : List UInt8 := fdH x ++ psB x.2.ps
def fsB (S : Sv) : List UInt8 := S.flatMap fdB
def stB (S : Sv) : List UInt8 := ib S.length ++ fsB S
theorem itT_le (x : It) (h : x.Sh 1000000) : (itT x).length ≤ 3000030 := by
  have h1 := tb_top x.id _ h.id (by omega)
  have h2 := tb_top x.ti _ h.ti (by omega)
  have h3 := tb_top x.li _ h.li (by omega)
  unfold itT
  rw [List.length_append, List.length_append]
  omega
theorem spB_le (p : Po) (h : p.it.Sh 1000000) : (spB p).length ≤ 3000031 := by
  have := itT_le p.it h
  unfold spB
  rw [List.length_append]
  show _ + 1 ≤ _
  omega
theorem flat_le {α : Type} (f : α → List UInt8) (n : Nat) : ∀ l : List α, (∀ x ∈ l, (f x).length ≤ n) → (l.flatMap f).length ≤ n * l.length
  | [], _ => by simp
  | x :: r, h => by
    have h1 := h x (by simp)
    have h2 := flat_le f n r (fun y hy => h y (List.mem_cons_of_mem _ hy))
    rw [List.flatMap_cons, List.length_append, List.length_cons, Nat.mul_succ]
    omega
theorem flat_snoc {α β : Type} (f : α → List β) (l : List α) (k : Nat) (x : α) (h : l[k]? = some x) : (l.take (k + 1)).flatMap f = (l.take k).flatMap f ++ f x := by
  rw [List.take_add_one, h, List.flatMap_append]; simp
/-- A feed that can be written down. -/
structure Fd.Sh (f : Fd) : Prop where
  cap : f.ps.length ≤ 200
  nb : -1 ≤ f.pol ∧ f.pol ≤ 1099511627776 ∧ 0 ≤ f.fai ∧ f.fai ≤ 1000
  its : ∀ p ∈ f.ps, p.it.Sh 1000000
theorem Fd.Sh.ws {f : Fd} (h : f.Sh) : ∀ x ∈ [f.pol, f.fai, (f.ps.length : Int)], Wide64 x := by
  obtain ⟨h1, h2, h3, h4⟩ := h.nb
  have := h.cap
  intro x hx
  simp only [List.mem_cons, List.not_mem_nil, or_false] at hx
  rcases hx with rfl | rfl | rfl <;> exact ⟨by omega, by omega⟩
theorem psB_le (l : List Po) (h : l.length ≤ 200) (hs : ∀ p ∈ l, p.it.Sh 1000000) : (psB l).length ≤ 600006200 := by
  have := flat_le spB 3000031 l (fun p hp => spB_le p (hs p hp))
  unfold psB
  have : 3000031 * l.length ≤ 3000031 * 200 := Nat.mul_le_mul_left _ h
  omega
theorem fdH_le (x : List UInt8 × Fd) (hn : x.1.length ≤ 1000) (h : x.2.Sh) : (fdH x).length ≤ 1040 := by
  have h1 := tb_top x.1 1000 hn (by omega)
  have h2 := isb_length [x.2.pol, x.2.fai, (x.2.ps.length : Int)] h.ws
  unfold fdH
  rw [List.length_append]
  simp at h2
  omega
theorem fdB_le (x : List UInt8 × Fd) (hn : x.1.length ≤ 1000) (h : x.2.Sh) : (fdB x).length ≤ 600008000 := by
  have h1 := fdH_le x hn h
  have h2 := psB_le x.2.ps h.cap h.its
  unfold fdB
  rw [List.length_append]
  omega
theorem fsB_le (S : Sv) (hl : S.length ≤ 20) (h : ∀ x ∈ S, x.1.length ≤ 1000 ∧ x.2.Sh) : (fsB S).length ≤ 12000160000 := by
  have := flat_le fdB 600008000 S (fun x hx => fdB_le x (h x hx).1 (h x hx).2)
  unfold fsB
  have : 600008000 * S.length ≤ 600008000 * 20 := Nat.mul_le_mul_left _ hl
  omega
end Go.Proofs.Ytjfnkjpnjiobjaa
