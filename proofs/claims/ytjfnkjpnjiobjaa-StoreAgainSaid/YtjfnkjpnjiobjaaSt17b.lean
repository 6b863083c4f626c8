/-
  Chapter 17: a store in memory; find, Polled.
-/
import Derived.Test.YtjfnkjpnjiobjaaSt17a
namespace Go.Proofs.Ytjfnkjpnjiobjaa
open Go.RowKit
/-- A feed and where it lies. -/
structure Pl where
  nm : List UInt8
  fd : Fd
  p : Nat
  m : Nat
  v : Value
def Pl.own (t : Pl) : List Nat := [t.p, t.m] ++ rb t.v
def fT (T : List Pl) (k : List UInt8) : Option Pl := T.find? (fun t => t.nm == k)
def ptT (T : List Pl) (k : List UInt8) : Option Value := (fT T k).map fun t => Value.pointer (some ⟨t.p, 0, none⟩)
def allX (b mb : Nat) (T : List Pl) : List Nat := b :: mb :: T.flatMap Pl.own
structure StX (w : World) (b mb : Nat) (T : List Pl) : Prop where
  cells : Cells w b 91 [.map (some mb)]
  map : MapF w mb T.length (ptT T)
  fds : ∀ t ∈ T, FdAt w t.p t.m t.v t.fd
  srt : T.Pairwise (fun a b => a.nm < b.nm)
  dis : ∀ t ∈ T, ∀ u ∈ T, t.nm ≠ u.nm → ∀ x ∈ t.own, x ∉ u.own
  dib : ∀ t ∈ T, b ∉ t.own ∧ mb ∉ t.own
  cap : T.length ≤ 20
  nml : ∀ t ∈ T, nmL t.nm = true
theorem nmL_len {k : List UInt8} (h : nmL k = true) : 1 ≤ k.length ∧ k.length ≤ 60 := by
  rw [nmL_eq] at h
  simp only [Bool.and_eq_true, decide_eq_true_eq] at h
  exact h.2
theorem fT_mem {T : List Pl} {k : List UInt8} {t : Pl} (h : fT T k = some t) : t ∈ T ∧ t.nm = k := by
  unfold fT at h
  exact ⟨List.mem_of_find?_eq_some h, by simpa using List.find?_some h⟩
theorem own_mem {b mb : Nat} {T : List Pl} {t : Pl} (ht : t ∈ T) {k : Nat} (hk : k ∈ t.own) : k ∈ allX b mb T := by
  unfold allX
  exact List.mem_cons_of_mem _ (List.mem_cons_of_mem _ (List.mem_flatMap.2 ⟨t, ht, hk⟩))
theorem FdAt.lts {w : World} {p m : Nat} {v : Value} {f : Fd} (h : FdAt w p m v f) : ∀ k ∈ [p, m] ++ rb v, k < w.heap.size := by
  intro k hk
  simp only [List.cons_append, List.nil_append, List.mem_cons] at hk
  rcases hk with rfl | rfl | hk
  · exact h.cells.lt
  · exact h.map.lt
  · exact (h.row.lt k (by simpa [rb] using hk)).2
theorem StX.lts {w : World} {b mb : Nat} {T : List Pl} (h : StX w b mb T) : ∀ k ∈ allX b mb T, k < w.heap.size := by
  intro k hk
  unfold allX at hk
  simp only [List.mem_cons] at hk
  rcases hk with rfl | rfl | hk
  · exact h.cells.lt
  · exact h.map.lt
  · obtain ⟨t, ht, hk⟩ := List.mem_flatMap.1 hk
    exact (h.fds t ht).lts k hk
theorem FdAt.keep {S : List Nat} {w w' : World} {t : Pl} (h : FdAt w t.p t.m t.v t.fd) (ho : Only S w w') (hS : ∀ k ∈ t.own, k ∉ S) : FdAt w' t.p t.m t.v t.fd :=
  h.only ho (hS _ (by simp [Pl.own])) (hS _ (by simp [Pl.own])) (fun g hg => hS g (by simp [Pl.own, rb, hg]))
theorem StX.keep {S : List Nat} {w w' : World} {b mb : Nat} {T : List Pl} (h : StX w b mb T) (ho : Only S w w') (hS : ∀ k ∈ allX b mb T, k ∉ S) : StX w' b mb T :=
  ⟨h.cells.only ho (hS _ (by simp [allX])), h.map.only ho (hS _ (by simp [allX])), fun t ht => (h.fds t ht).keep ho (fun k hk => hS k (own_mem ht hk)), h.srt, h.dis, h.dib, h.cap, h.nml⟩
/-- A store whose blocks are O. -/
def St (w : World) (b : Nat) (O : List Nat) (S : List (List UInt8 × Fd)) : Prop := ∃ mb T, StX w b mb T ∧ O = allX b mb T ∧ S = T.map fun t => (t.nm, t.fd)
theorem St.keep {X : List Nat} {w w' : World} {b : Nat} {O : List Nat} {S : List (List UInt8 × Fd)} (h : St w b O S) (ho : Only X w w') (hX : ∀ k ∈ O, k ∉ X) : St w' b O S := by
  obtain ⟨mb, T, h1, rfl, rfl⟩ := h
  exact ⟨mb, T, h1.keep ho hX, rfl, rfl⟩
def fnd (S : List (List UInt8 × Fd)) (k : List UInt8) : Option Fd := (S.find? (fun x => x.1 == k)).map (·.2)
theorem fnd_fT (T : List Pl) (k : List UInt8) : fnd (T.map fun t => (t.nm, t.fd)) k = (fT T k).map (·.fd) := by
  unfold fnd fT
  rw [List.find?_map, Option.map_map]
  rfl
def okT (now : Int) : Bool := decide (0 ≤ now) && decide (now ≤ 1099511627776)
def fndV (o : Option Pl) (now : Int) : Value := match o with
  | none => .tuple #[.pointer none, .int .i64 4]
  | some t => if okT now then .tuple #[.pointer (some ⟨t.p, 0, none⟩), .int .i64 0] else .tuple #[.pointer none, .int .i64 1]
set_option maxRecDepth 100000 in
theorem store_find (b mb : Nat) (T : List Pl) (k : List UInt8) (hk : k.length ≤ maxLen) (now : Int) (w : World) (h : StX w b mb T) :
    Calls Try.prog 49 #[.pointer (some ⟨b, 0, none⟩), .string ⟨k.toArray⟩, .int .i64 now] w fun e w' =>
      e = .returned (fndV (fT T k) now) ∧ w = w' := by
  have c0 := h.cells.cell (k := 0) rfl
  have hlk := h.map.look (t := 89) (e := 92) (z := .pointer none) Try.underlying89 (Try.zeroValue92 w) k hk
  cases hf : fT T k with
  | none =>
    rw [show (ptT T k) = none from by unfold ptT; rw [hf]; rfl] at hlk
    go_enter Try.func49, Try.ntmps49
    go_wp2_with fail
    go_ret2
    exact ⟨rfl, rfl⟩
  | some t =>
    rw [show (ptT T k) = some (.pointer (some ⟨t.p, 0, none⟩)) from by unfold ptT; rw [hf]; rfl] at hlk
    by_cases h0 : now < 0
    · have d0 : decide (now < 0) = true := decide_eq_true h0
      have hr : okT now = false := by unfold okT; rw [decide_eq_false (by omega)]; rfl
      go_enter Try.func49, Try.ntmps49
      go_wp2_with fail
      go_ret2
      exact ⟨by unfold fndV; rw [hr]; rfl, rfl⟩
    · have d0 : decide (now < 0) = false := decide_eq_false h0
      by_cases h1 : 1099511627776 < now
      · have d1 : decide (1099511627776 < now) = true := decide_eq_true h1
        have hr : okT now = false := by unfold okT; rw [decide_eq_false (p := now ≤ 1099511627776) (by omega)]; simp
        go_enter Try.func49, Try.ntmps49
        go_wp2_with fail
        go_ret2
        exact ⟨by unfold fndV; rw [hr]; rfl, rfl⟩
      · have d1 : decide (1099511627776 < now) = false := decide_eq_false h1
        have hr : okT now = true := by unfold okT; rw [decide_eq_true (p := 0 ≤ now) (by omega), decide_eq_true (p := now ≤ 1099511627776) (by omega)]; rfl
        go_enter Try.func49, Try.ntmps49
        go_wp2_with fail
        go_ret2
        exact ⟨by unfold fndV; rw [hr]; rfl, rfl⟩
set_option maxRecDepth 100000 in
theorem store_polled (b mb : Nat) (T : List Pl) (k : List UInt8) (hk : k.length ≤ maxLen) (w : World) (h : StX w b mb T) :
    Calls Try.prog 23 #[.pointer (some ⟨b, 0, none⟩), .string ⟨k.toArray⟩] w fun e w' =>
      e = .returned (.tuple #[.int .i64 ((fT T k).elim 0 (·.fd.pol)), .int .i64 ((fT T k).elim 0 (·.fd.fai)), .bool (fT T k).isSome]) ∧ Only [] w w' := by
  have c0 := h.cells.cell (k := 0) rfl
  have hlk := h.map.look (t := 89) (e := 92) (z := .pointer none) Try.underlying89 (Try.zeroValue92 w) k hk
  cases hf : fT T k with
  | none =>
    rw [show (ptT T k) = none from by unfold ptT; rw [hf]; rfl] at hlk
    go_enter Try.func23, Try.ntmps23
    go_wp2_with fail
    go_ret3
    exact ⟨rfl, Only.refl _ _⟩
  | some t =>
    rw [show (ptT T k) = some (.pointer (some ⟨t.p, 0, none⟩)) from by unfold ptT; rw [hf]; rfl] at hlk
    have hfd := h.fds t (fT_mem hf).1
    have p0 := hfd.cells.cell (k := 0) rfl
    have p1 := hfd.cells.cell (k := 1) rfl
    go_enter Try.func23, Try.ntmps23
    go_wp2_with fail
    go_region
    go_wp2_with fail
    go_ret3
    exact ⟨rfl, (Only.refl _ _).drew⟩
end Go.Proofs.Ytjfnkjpnjiobjaa
