/-
  The walks over package lease: what each function of a table of leases does.
-/
import Derived.Test.YtlonaniomnalnaaRows
import Derived.Test.YtlonaniomnalnaaBase
import Derived.BigQuiet
import Derived.Deep.QuietTactic
namespace Go.Proofs.Ytlonaniomnalnaa
open Go.RowKit

structure Ls where
  node : Int
  epoch : Int
  till : Int
structure Tb where
  now : Int
  l : List Ls
def Ls.cells (x : Ls) : List Value := [.int .i64 x.node, .int .i64 x.epoch, .int .i64 x.till]
def Tb.cells (t : Tb) : List Value := .int .i64 t.now :: t.l.flatMap Ls.cells
def Ls.val (x : Ls) : Value := .agg #[.int .i64 x.node, .int .i64 x.epoch, .int .i64 x.till]
theorem Ls.cells_length (x : Ls) : x.cells.length = 3 := rfl
theorem Tb.cell0 (t : Tb) : t.cells[0]? = some (.int .i64 t.now) := rfl
theorem Tb.cellj (t : Tb) {k : Nat} {x : Ls} (h : t.l[k]? = some x) (j : Nat) (hj : j < 3) : t.cells[1 + (k * 3 + j)]? = x.cells[j]? := by
  rw [Nat.add_comm 1]
  exact flat_get Ls.cells 3 Ls.cells_length t.l k j x h hj

theorem Tb.facts {t : Tb} {w : World} {b k : Nat} {x : Ls} (hs : Cells w b 81 t.cells) (hx : t.l[k]? = some x) :
    w.cell? ⟨b, 0, none⟩ = some (.int .i64 t.now) ∧ w.frozen? ⟨b, 0, none⟩ = false ∧ w.cell? ⟨b, 1 + k * 3, none⟩ = some (.int .i64 x.node) ∧ w.cell? ⟨b, 1 + k * 3 + 1, none⟩ = some (.int .i64 x.epoch) ∧
    w.cell? ⟨b, 1 + k * 3 + 2, none⟩ = some (.int .i64 x.till) ∧ w.frozen? ⟨b, 1 + k * 3, none⟩ = false ∧ w.frozen? ⟨b, 1 + k * 3 + 1, none⟩ = false ∧ w.frozen? ⟨b, 1 + k * 3 + 2, none⟩ = false ∧ b < w.heap.size := by
  have c0 := hs.cell (t.cellj hx 0 (by omega))
  have c1 := hs.cell (t.cellj hx 1 (by omega))
  have c2 := hs.cell (t.cellj hx 2 (by omega))
  simp only [Nat.add_zero, ← Nat.add_assoc] at c0 c1 c2
  exact ⟨hs.cell t.cell0, hs.frozen _, c0, c1, c2, hs.frozen _, hs.frozen _, hs.frozen _, hs.lt⟩

theorem lease_is (n : Int) (w : World) : Calls Try.prog 48 #[.int .i64 n] w fun e w' => e = .returned (.bool (decide (0 ≤ n) && decide (n < 8))) ∧ w = w' := by
  by_cases h0 : 0 ≤ n
  · by_cases h8 : n < 8
    all_goals
      go_enter Try.func48, Try.ntmps48
      go_wp2
      go_ret
      exact ⟨by simp [h0, h8], rfl⟩
  · have h0' : n < 0 := by omega
    clear h0
    go_enter Try.func48, Try.ntmps48
    go_wp2
    go_ret
    exact ⟨by simp; omega, rfl⟩

theorem lease_is_in (k : Nat) (hk : k < 8) (w : World) : Calls Try.prog 48 #[.int .i64 k] w fun e w' => e = .returned (.bool true) ∧ w = w' :=
  (lease_is k w).mono fun _ _ ⟨h, hw⟩ => ⟨by rw [h]; simp; omega, hw⟩

theorem lease_get_in (b k : Nat) (t : Tb) (x : Ls) (w : World) (hs : Cells w b 81 t.cells) (hx : t.l[k]? = some x) (hk : k < 8) :
    Calls Try.prog 30 #[.pointer (some ⟨b, 0, none⟩), .int .i64 k] w fun e w' => e = .returned x.val ∧ Only [] w w' := by
  have c0 := hs.cell (t.cellj hx 0 (by omega))
  have c1 := hs.cell (t.cellj hx 1 (by omega))
  have c2 := hs.cell (t.cellj hx 2 (by omega))
  have hb := hs.lt
  simp only [Nat.add_zero, ← Nat.add_assoc] at c0 c1 c2
  have hk' : (k : Int) < 8 := by omega
  clear hs hx hk
  go_enter Try.func30, Try.ntmps30
  go_wp2
  exact bodyPost_ret (v := x.val) (by simp [results, Try.results30, go_sem, Ls.val]) rfl ⟨rfl, (Only.refl _ _).alloc _⟩

theorem lease_get_out (b : Nat) (n : Int) (w : World) (hn : n < 0 ∨ 8 ≤ n) :
    Calls Try.prog 30 #[.pointer (some ⟨b, 0, none⟩), .int .i64 n] w fun e w' => e = .returned (Ls.mk 0 0 0).val ∧ Only [] w w' := by
  by_cases h : n < 0
  · go_enter Try.func30, Try.ntmps30
    go_wp2
    exact bodyPost_ret (v := (Ls.mk 0 0 0).val) (by simp [results, Try.results30, go_sem, Ls.val]) rfl ⟨rfl, (Only.refl _ _).alloc _⟩
  · have hd : decide (n < 8) = false := by simp; omega
    go_enter Try.func30, Try.ntmps30
    go_wp2
    exact bodyPost_ret (v := (Ls.mk 0 0 0).val) (by simp [results, Try.results30, go_sem, Ls.val]) rfl ⟨rfl, (Only.refl _ _).alloc _⟩

theorem lease_live (b : Nat) (t : Tb) (x : Ls) (w : World) (hs : Cells w b 81 t.cells) :
    Calls Try.prog 49 #[.pointer (some ⟨b, 0, none⟩), x.val] w fun e w' => e = .returned (.bool (decide (t.now < x.till))) ∧ Only [] w w' := by
  have c0 := hs.cell t.cell0
  have hb := hs.lt
  clear hs
  unfold Ls.val
  go_enter Try.func49, Try.ntmps49
  go_wp2
  go_quiet (fail)
  go_wp2
  go_ret
  exact ⟨rfl, ((Only.refl _ _).alloc _).drewN _⟩

theorem lease_now (b : Nat) (t : Tb) (w : World) (hs : Cells w b 81 t.cells) :
    Calls Try.prog 36 #[.pointer (some ⟨b, 0, none⟩)] w fun e w' => e = .returned (.int .i64 t.now) ∧ w = w' := by
  have c0 := hs.cell t.cell0
  clear hs
  go_enter Try.func36, Try.ntmps36
  go_wp2
  go_ret
  exact ⟨rfl, rfl⟩

theorem lease_tick (b : Nat) (t : Tb) (w : World) (hs : Cells w b 81 t.cells) (h0 : -4611686018427387904 ≤ t.now) (h1 : t.now ≤ 4611686018427387904) :
    Calls Try.prog 31 #[.pointer (some ⟨b, 0, none⟩)] w fun e w' => e = .returned (.int .i64 (t.now + 1)) ∧ Only [b] w w' ∧ Cells w' b 81 (Tb.mk (t.now + 1) t.l).cells := by
  have c0 := hs.cell t.cell0
  have f0 := hs.frozen 0
  have H := Lib.hid hs
  clear hs
  go_enter Try.func31, Try.ntmps31
  go_wp2
  go_ret
  exact ⟨rfl, (Only.refl _ _).setCell (.inl (by simp)) _, H.out.set 0 _⟩

/-- What a grant makes of a lease. -/
def Ls.grant (now : Int) (x : Ls) (node : Int) : Ls := if now < x.till then ⟨x.node, x.epoch, now + 6⟩ else ⟨node, x.epoch + 1, now + 6⟩

theorem lease_grant_err (b : Nat) (n node : Int) (w : World) (hn : n < 0 ∨ 8 ≤ n ∨ node < 1 ∨ 9 < node) :
    Calls Try.prog 32 #[.pointer (some ⟨b, 0, none⟩), .int .i64 n, .int .i64 node] w fun e w' => e = .returned (.tuple #[.int .i64 0, .int .i64 2]) ∧ w = w' := by
  by_cases h : n < 0
  · go_enter Try.func32, Try.ntmps32
    go_wp2
    go_ret2
    exact ⟨rfl, rfl⟩
  · by_cases h8 : 8 ≤ n
    · have hd : decide (n < 8) = false := by simp; omega
      go_enter Try.func32, Try.ntmps32
      go_wp2
      go_ret2
      exact ⟨rfl, rfl⟩
    · have hd : decide (n < 8) = true := by simp; omega
      by_cases h1 : node < 1
      · have hd1 : decide (node < 1) = true := by simpa using h1
        go_enter Try.func32, Try.ntmps32
        go_wp2
        go_ret2
        exact ⟨rfl, rfl⟩
      · have hd1 : decide (node < 1) = false := by simpa using h1
        have hd2 : decide (9 < node) = true := by simp; omega
        go_enter Try.func32, Try.ntmps32
        go_wp2
        go_ret2
        exact ⟨rfl, rfl⟩

theorem Tb.set_cells (t : Tb) {k : Nat} {x : Ls} (h : t.l[k]? = some x) (j : Nat) (hj : j < 3) (x' : Ls) (v : Value) (hv : x.cells.set j v = x'.cells) :
    t.cells.set (1 + (k * 3 + j)) v = (Tb.mk t.now (t.l.set k x')).cells := by
  unfold Tb.cells
  rw [Nat.add_comm 1, List.set_cons_succ]
  rw [flat_set Ls.cells 3 Ls.cells_length t.l k j x x' v h hj hv]

theorem Tb.set1 (t : Tb) {k : Nat} {x : Ls} (h : t.l[k]? = some x) (u : Int) :
    t.cells.set (1 + k * 3 + 2) (.int .i64 u) = (Tb.mk t.now (t.l.set k ⟨x.node, x.epoch, u⟩)).cells := by
  rw [Nat.add_assoc]; exact t.set_cells h 2 (by omega) _ _ rfl
theorem Tb.set3 (t : Tb) {k : Nat} {x : Ls} (h : t.l[k]? = some x) (n e u : Int) :
    ((t.cells.set (1 + k * 3) (.int .i64 n)).set (1 + k * 3 + 1) (.int .i64 e)).set (1 + k * 3 + 2) (.int .i64 u) = (Tb.mk t.now (t.l.set k ⟨n, e, u⟩)).cells := by
  have hk : k < t.l.length := (List.getElem?_eq_some_iff.1 h).1
  rw [show 1 + k * 3 = 1 + (k * 3 + 0) from rfl, t.set_cells h 0 (by omega) ⟨n, x.epoch, x.till⟩ _ rfl]
  rw [show 1 + (k * 3 + 0) + 1 = 1 + (k * 3 + 1) from rfl, (Tb.mk t.now (t.l.set k ⟨n, x.epoch, x.till⟩)).set_cells (k := k) (x := ⟨n, x.epoch, x.till⟩) (by simp [hk]) 1 (by omega) ⟨n, e, x.till⟩ _ rfl]
  rw [show 1 + (k * 3 + 0) + 2 = 1 + (k * 3 + 2) from rfl, (Tb.mk t.now ((t.l.set k ⟨n, x.epoch, x.till⟩).set k ⟨n, e, x.till⟩)).set_cells (k := k) (x := ⟨n, e, x.till⟩) (by simp [hk]) 2 (by omega) ⟨n, e, u⟩ _ rfl]
  simp

theorem lease_grant_new (b k : Nat) (t : Tb) (x : Ls) (node : Int) (w : World) (hs : Cells w b 81 t.cells) (hx : t.l[k]? = some x) (hk : k < 8) (n1 : 1 ≤ node) (n9 : node ≤ 9)
    (h0 : -4611686018427387904 ≤ t.now) (h1 : t.now ≤ 4611686018427387904) (e0 : -4611686018427387904 ≤ x.epoch) (e1 : x.epoch ≤ 4611686018427387904) (hl : x.till ≤ t.now) :
    Calls Try.prog 32 #[.pointer (some ⟨b, 0, none⟩), .int .i64 k, .int .i64 node] w fun e w' =>
      e = .returned (.tuple #[.int .i64 (x.epoch + 1), .int .i64 0]) ∧ Only [b] w w' ∧ Cells w' b 81 (Tb.mk t.now (t.l.set k ⟨node, x.epoch + 1, t.now + 6⟩)).cells := by
  obtain ⟨c00, f00, c0, c1, c2, f0, f1, f2, hb⟩ := Tb.facts hs hx
  have hk' : (k : Int) < 8 := by omega
  have d1 : decide (node < 1) = false := by simp; omega
  have d2 : decide (9 < node) = false := by simp; omega
  have d3 : decide (t.now < x.till) = false := by simp; omega
  have H := Lib.hid hs
  have HX := Lib.hid hx
  clear hs hx hk
  go_enter Try.func32, Try.ntmps32
  go_wp2_with (first
    | (go_at_call 48; refine (lease_is_in k (by omega) _).mono ?_; rintro e w1 ⟨rfl, rfl⟩)
    | (go_at_call 49; refine (lease_live b t x _ H.out).mono ?_; rintro e w1 ⟨rfl, ho⟩; obtain ⟨c00, f00, c0, c1, c2, f0, f1, f2, hb⟩ := Tb.facts (H.out.only ho (by simp)) HX.out))
  go_ret2
  have hC := (((H.out.only ho (by simp)).set (1 + k * 3) (.int .i64 node)).set (1 + k * 3 + 1) (.int .i64 (x.epoch + 1))).set (1 + k * 3 + 2) (.int .i64 (t.now + 6))
  rw [Tb.set3 t HX.out] at hC
  exact ⟨rfl, (((Only.of0 ho).setCell (.inl (by simp)) _).setCell (.inl (by simp)) _).setCell (.inl (by simp)) _, hC⟩

theorem lease_grant_again (b k : Nat) (t : Tb) (x : Ls) (w : World) (hs : Cells w b 81 t.cells) (hx : t.l[k]? = some x) (hk : k < 8) (n1 : 1 ≤ x.node) (n9 : x.node ≤ 9)
    (h0 : -4611686018427387904 ≤ t.now) (h1 : t.now ≤ 4611686018427387904) (hl : t.now < x.till) :
    Calls Try.prog 32 #[.pointer (some ⟨b, 0, none⟩), .int .i64 k, .int .i64 x.node] w fun e w' =>
      e = .returned (.tuple #[.int .i64 x.epoch, .int .i64 0]) ∧ Only [b] w w' ∧ Cells w' b 81 (Tb.mk t.now (t.l.set k ⟨x.node, x.epoch, t.now + 6⟩)).cells := by
  obtain ⟨c00, f00, c0, c1, c2, f0, f1, f2, hb⟩ := Tb.facts hs hx
  have hk' : (k : Int) < 8 := by omega
  have d1 : decide (x.node < 1) = false := by simp; omega
  have d2 : decide (9 < x.node) = false := by simp; omega
  have d3 : decide (t.now < x.till) = true := by simp; omega
  have H := Lib.hid hs
  have HX := Lib.hid hx
  clear hs hx hk
  go_enter Try.func32, Try.ntmps32
  go_wp2_with (first
    | (go_at_call 48; refine (lease_is_in k (by omega) _).mono ?_; rintro e w1 ⟨rfl, rfl⟩)
    | (go_at_call 49; refine (lease_live b t x _ H.out).mono ?_; rintro e w1 ⟨rfl, ho⟩; obtain ⟨c00, f00, c0, c1, c2, f0, f1, f2, hb⟩ := Tb.facts (H.out.only ho (by simp)) HX.out))
  go_ret2
  have hC := (H.out.only ho (by simp)).set (1 + k * 3 + 2) (.int .i64 (t.now + 6))
  rw [Tb.set1 t HX.out] at hC
  exact ⟨rfl, (Only.of0 ho).setCell (.inl (by simp)) _, hC⟩

theorem lease_grant_held (b k : Nat) (t : Tb) (x : Ls) (node : Int) (w : World) (hs : Cells w b 81 t.cells) (hx : t.l[k]? = some x) (hk : k < 8) (n1 : 1 ≤ node) (n9 : node ≤ 9)
    (hn : x.node ≠ node) (hl : t.now < x.till) :
    Calls Try.prog 32 #[.pointer (some ⟨b, 0, none⟩), .int .i64 k, .int .i64 node] w fun e w' =>
      e = .returned (.tuple #[.int .i64 0, .int .i64 16]) ∧ Only [] w w' := by
  obtain ⟨c00, f00, c0, c1, c2, f0, f1, f2, hb⟩ := Tb.facts hs hx
  have hk' : (k : Int) < 8 := by omega
  have d1 : decide (node < 1) = false := by simp; omega
  have d2 : decide (9 < node) = false := by simp; omega
  have d3 : decide (t.now < x.till) = true := by simp; omega
  have d4 : (x.node == node) = false := by simpa using hn
  have d5 : (x.node != node) = true := by simpa using hn
  have H := Lib.hid hs
  have HX := Lib.hid hx
  clear hs hx hk hn
  go_enter Try.func32, Try.ntmps32
  go_wp2_with (first
    | (go_at_call 48; refine (lease_is_in k (by omega) _).mono ?_; rintro e w1 ⟨rfl, rfl⟩)
    | (go_at_call 49; refine (lease_live b t x _ H.out).mono ?_; rintro e w1 ⟨rfl, ho⟩; obtain ⟨c00, f00, c0, c1, c2, f0, f1, f2, hb⟩ := Tb.facts (H.out.only ho (by simp)) HX.out))
  go_ret2
  exact ⟨rfl, ho⟩

/-! ### The table as a plain thing -/
def Tb.isOk (node : Int) (k : Int) : Bool := decide (0 ≤ k) && decide (k < 8) && (decide (1 ≤ node) && decide (node ≤ 9))
/-- The lease of a shard, as Get tells it. -/
def Tb.get (t : Tb) (k : Int) : Ls := if 0 ≤ k ∧ k < 8 then t.l.getD k.toNat ⟨0, 0, 0⟩ else ⟨0, 0, 0⟩
/-- The table behind a grant, what it tells, and its error. -/
def Tb.grant (t : Tb) (k node : Int) : Tb × Int × Int :=
  if 0 ≤ k ∧ k < 8 ∧ 1 ≤ node ∧ node ≤ 9 then
    if t.now < (t.get k).till then
      if (t.get k).node = node then (⟨t.now, t.l.set k.toNat ⟨node, (t.get k).epoch, t.now + 6⟩⟩, (t.get k).epoch, 0)
      else (t, 0, 16)
    else (⟨t.now, t.l.set k.toNat ⟨node, (t.get k).epoch + 1, t.now + 6⟩⟩, (t.get k).epoch + 1, 0)
  else (t, 0, 2)
def Tb.tick (t : Tb) : Tb := ⟨t.now + 1, t.l⟩
/-- All numbers are small. -/
structure Tb.small (t : Tb) : Prop where
  len : t.l.length = 8
  n0 : 0 ≤ t.now
  n1 : t.now ≤ 4611686018427387904
  e0 : ∀ x ∈ t.l, 0 ≤ x.epoch ∧ x.epoch ≤ 4611686018427387904
theorem Tb.get_in (t : Tb) (h : t.l.length = 8) (k : Nat) (hk : k < 8) : t.l[k]? = some (t.get k) := by
  unfold Tb.get
  rw [if_pos (by omega), List.getD_eq_getElem?_getD, Int.toNat_natCast, List.getElem?_eq_getElem (by omega)]; rfl

theorem lease_get (b : Nat) (t : Tb) (n : Int) (w : World) (hs : Cells w b 81 t.cells) (hl : t.l.length = 8) :
    Calls Try.prog 30 #[.pointer (some ⟨b, 0, none⟩), .int .i64 n] w fun e w' => e = .returned (t.get n).val ∧ Only [] w w' := by
  by_cases h : 0 ≤ n ∧ n < 8
  · obtain ⟨k, rfl⟩ := Int.eq_ofNat_of_zero_le h.1
    exact lease_get_in b k t _ w hs (t.get_in hl k (by omega)) (by omega)
  · rw [show t.get n = ⟨0, 0, 0⟩ from by unfold Tb.get; rw [if_neg h]]
    exact lease_get_out b n w (by omega)

theorem lease_grant (b : Nat) (t : Tb) (n node : Int) (w : World) (hs : Cells w b 81 t.cells) (ht : t.small) :
    Calls Try.prog 32 #[.pointer (some ⟨b, 0, none⟩), .int .i64 n, .int .i64 node] w fun e w' =>
      e = .returned (.tuple #[.int .i64 (t.grant n node).2.1, .int .i64 (t.grant n node).2.2]) ∧ Only [b] w w' ∧ Cells w' b 81 (t.grant n node).1.cells := by
  by_cases h : 0 ≤ n ∧ n < 8 ∧ 1 ≤ node ∧ node ≤ 9
  · obtain ⟨k, rfl⟩ := Int.eq_ofNat_of_zero_le h.1
    have hg := t.get_in ht.len k (by omega)
    have he := ht.e0 _ (List.mem_of_getElem? hg)
    have hn0 := ht.n0
    have hn1 := ht.n1
    by_cases hl : t.now < (t.get k).till
    · by_cases hn : (t.get k).node = node
      · subst hn
        rw [show t.grant k (t.get k).node = (⟨t.now, t.l.set k ⟨(t.get k).node, (t.get k).epoch, t.now + 6⟩⟩, (t.get k).epoch, 0) from by
          unfold Tb.grant; rw [if_pos h, if_pos hl, if_pos rfl, Int.toNat_natCast]]
        exact lease_grant_again b k t _ w hs hg (by omega) (by omega) (by omega) (by omega) (by omega) hl
      · rw [show t.grant k node = (t, 0, 16) from by unfold Tb.grant; rw [if_pos h, if_pos hl, if_neg hn]]
        exact (lease_grant_held b k t _ node w hs hg (by omega) (by omega) (by omega) hn hl).mono fun e w' ⟨h1, h2⟩ => ⟨h1, h2.of0, hs.only h2 (by simp)⟩
    · rw [show t.grant k node = (⟨t.now, t.l.set k ⟨node, (t.get k).epoch + 1, t.now + 6⟩⟩, (t.get k).epoch + 1, 0) from by
          unfold Tb.grant; rw [if_pos h, if_neg hl, Int.toNat_natCast]]
      exact lease_grant_new b k t _ node w hs hg (by omega) (by omega) (by omega) (by omega) (by omega) (by omega) (by omega) (by omega)
  · rw [show t.grant n node = (t, 0, 2) from by unfold Tb.grant; rw [if_neg h]]
    refine (lease_grant_err b n node w (by omega)).mono ?_
    rintro e w' ⟨h1, rfl⟩
    exact ⟨h1, Only.refl _ _, hs⟩
def Ls.wanted (now : Int) (x : Ls) (node : Int) : Bool := !decide (now < x.till) || (decide (x.node = node) && decide (x.till ≤ now + 2))
theorem lease_live_b (b : Nat) (t : Tb) (x : Ls) (w : World) {v : Bool} (hv : decide (t.now < x.till) = v) (hs : Cells w b 81 t.cells) :
    Calls Try.prog 49 #[.pointer (some ⟨b, 0, none⟩), x.val] w fun e w' => e = .returned (.bool v) ∧ Only [] w w' := by
  subst hv; exact lease_live b t x w hs

set_option maxHeartbeats 400000 in
theorem lease_wanted_of (b k : Nat) (t : Tb) (x : Ls) (node : Int) (w : World) (hs : Cells w b 81 t.cells) (hx : t.l[k]? = some x) (hk : k < 8)
    (h0 : -4611686018427387904 ≤ t.now) (h1 : t.now ≤ 4611686018427387904) (d1 d2 d3 : Bool) (h : d1 = false ∨ (d1 = true ∧ d2 = false) ∨ (d1 = true ∧ d2 = true))
    (hd1 : decide (t.now < x.till) = d1) (hd2 : (x.node == node) = d2) (hd3 : decide (x.till ≤ t.now + 2) = d3) :
    Calls Try.prog 51 #[.pointer (some ⟨b, 0, none⟩), .int .i64 k, .int .i64 node] w fun e w' =>
      e = .returned (.bool (!d1 || (d2 && d3))) ∧ Only [] w w' := by
  obtain ⟨c00, f00, c0, c1, c2, f0, f1, f2, hb⟩ := Tb.facts hs hx
  have hk' : (k : Int) < 8 := by omega
  have H := Lib.hid hs
  have HX := Lib.hid hx
  have r00 := fun u : Since (w.alloc (.cells #[.int .i64 x.node, .int .i64 x.epoch, .int .i64 x.till] 44)) => u.cell (p := ⟨b, 0, none⟩) (by simp [go_sem, hb]; exact c00)
  have r0 := fun u : Since (w.alloc (.cells #[.int .i64 x.node, .int .i64 x.epoch, .int .i64 x.till] 44)) => u.cell (p := ⟨w.heap.size, 0, none⟩) (by simp; rfl)
  have r1 := fun u : Since (w.alloc (.cells #[.int .i64 x.node, .int .i64 x.epoch, .int .i64 x.till] 44)) => u.cell (p := ⟨w.heap.size, 1, none⟩) (by simp; rfl)
  have r2 := fun u : Since (w.alloc (.cells #[.int .i64 x.node, .int .i64 x.epoch, .int .i64 x.till] 44)) => u.cell (p := ⟨w.heap.size, 2, none⟩) (by simp; rfl)
  have HD := Lib.hid hd1
  clear hs hx hk hd1
  rcases h with rfl | ⟨rfl, rfl⟩ | ⟨rfl, rfl⟩
  all_goals
    go_enter Try.func51, Try.ntmps51
    go_wp2_with fail
    refine wp_region_only _ (Only.refl _ _) (by kernel_rfl) (by kernel_rfl) ?_
    repeat (go_big_quiet_step ((go_at_call 49; exact Calls.only (lease_live_b b t x _ HD.out ((H.out.alloc _).only (Since.h _) (by simp))))))
    refine wpQuiet_nil ?_
    rintro ⟨w1, ho⟩
    dsimp only
    go_wp2
    go_ret
    exact ⟨by simp, ((Only.refl _ _).alloc _).tr0 ho⟩

theorem lease_wanted (b k : Nat) (t : Tb) (node : Int) (w : World) (hs : Cells w b 81 t.cells) (ht : t.small) (hk : k < 8) :
    Calls Try.prog 51 #[.pointer (some ⟨b, 0, none⟩), .int .i64 k, .int .i64 node] w fun e w' => e = .returned (.bool ((t.get k).wanted t.now node)) ∧ Only [] w w' := by
  have hn0 := ht.n0
  have hn1 := ht.n1
  refine (lease_wanted_of b k t _ node w hs (t.get_in ht.len k hk) hk (by omega) hn1 _ _ _ ?_ rfl rfl rfl).mono ?_
  · cases decide (t.now < (t.get k).till) <;> cases ((t.get k).node == node) <;> simp
  · rintro e w' ⟨rfl, h⟩
    exact ⟨by unfold Ls.wanted; rw [show ((t.get k).node == node) = decide ((t.get k).node = node) from rfl], h⟩

theorem info_int : (Try.prog.info? 3).map (fun i => (i.zero, i.size, i.bytes)) = some (some (.int .i64 0), 1, 8) := by kernel_rfl

/-- The shards below n that a node may ask for. -/
def Tb.wants (t : Tb) (node : Int) (n : Nat) : List Nat := (List.range n).filter fun k => (t.get k).wanted t.now node
theorem Tb.wants_succ (t : Tb) (node : Int) (n : Nat) : t.wants node (n + 1) = if (t.get n).wanted t.now node then t.wants node n ++ [n] else t.wants node n := by
  unfold Tb.wants
  rw [List.range_succ, List.filter_append]
  by_cases h : (t.get n).wanted t.now node <;> simp [h]
theorem Tb.wants_le (t : Tb) (node : Int) (n : Nat) : (t.wants node n).length ≤ n := by
  unfold Tb.wants
  have := List.length_filter_le (fun k : Nat => (t.get k).wanted t.now node) (List.range n)
  simpa using this
def ints (l : List Nat) : List Value := l.map fun (k : Nat) => Value.int .i64 (k : Int)
theorem ints_length (l : List Nat) : (ints l).length = l.length := by simp [ints]

set_option maxHeartbeats 400000 in
theorem lease_which (b : Nat) (t : Tb) (node : Int) (w : World) (hs : Cells w b 81 t.cells) (ht : t.small) :
    Calls Try.prog 50 #[.pointer (some ⟨b, 0, none⟩), .int .i64 node, .func (.func 51) #[] #[]] w fun e w' => ∃ v, e = .returned v ∧
      w'.ownsRow w.heap.size 3 1 v (t.wants node 8).length (ints (t.wants node 8)) ∧ Only [] w w' := by
  obtain ⟨i0, hi0, hz0, hz1, hz2⟩ := info_parts info_int
  have H := Lib.hid hs
  have HT := Lib.hid ht
  clear hs ht
  go_enter Try.func50, Try.ntmps50
  go_wp2_with fail
  go_loopw [7, 9] (fun v i wr => ∃ k : Nat, k ≤ 8 ∧ i = .int .i64 k ∧ wr.ownsRow w.heap.size 3 1 v (t.wants node k).length (ints (t.wants node k)) ∧ Only [] w wr) (fun _ i _ => 8 - (intOf i).toNat)
  case atStart => exact ⟨0, by omega, rfl, World.ownsRow_nil _ _ _ _, Only.refl _ _⟩
  case round =>
    obtain ⟨k, hk, rfl, hown, ho⟩ := hrel
    have hle := t.wants_le node k
    by_cases hk8 : k < 8
    · have hk8' : (k : Int) < 8 := by omega
      have hL := lease_wanted b k t node wr (H.out.only ho (by simp)) HT.out hk8
      have hS := t.wants_succ node k
      cases hw : (t.get k).wanted t.now node
      · rw [hw] at hL hS
        rw [if_neg (by simp)] at hS
        have HL := Lib.hid hL
        have HS := Lib.hid hS
        clear hL hw hS
        go_wp2_with (go_at_call 51; refine HL.out.mono ?_; rintro e w1 ⟨rfl, ho1⟩)
        go_roundw
        case rel => exact ⟨k + 1, by omega, by go_num, by rw [HS.out]; exact own_only hown ho1 (by simp), ho.tr ho1⟩
        case measure => simp [intOf]; omega
      · rw [hw] at hL hS
        rw [if_pos rfl] at hS
        have HL := Lib.hid hL
        have HS := Lib.hid hS
        clear hL hw hS
        go_wp2_with (first
          | (go_at_call 51; refine HL.out.mono ?_; rintro e w1 ⟨rfl, ho1⟩)
          | (at_builtin
             refine wpList_app rfl _ _ 54 rfl w.heap.size 3 i0 _ 1 8 Try.underlying54 hi0 hz0 hz1 hz2 rfl (by decide) w1 _ _ _ rfl (own_only hown ho1 (by simp)) 1 1 [.int .i64 (k : Int)] rfl rfl (by simp [Value.oneCell']) (by simp only [maxLen]; omega) (by omega) (ho.tr ho1).size ?_
             intro v' w' hown' hgrow _))
        go_roundw
        case rel => exact ⟨k + 1, by omega, by go_num, by rw [HS.out]; simpa [ints] using hown', (ho.tr ho1).own (own_only hown ho1 (by simp)) hgrow (Nat.le_refl _)⟩
        case measure => simp [intOf]; omega
    · obtain rfl : k = 8 := by omega
      have hL : decide ((8 : Int) < 8) = false := by decide
      go_wp2
      go_ret
      exact ⟨_, rfl, hown, ho⟩
theorem lease_wants (b : Nat) (t : Tb) (node : Int) (w : World) (hs : Cells w b 81 t.cells) (ht : t.small) :
    Calls Try.prog 35 #[.pointer (some ⟨b, 0, none⟩), .int .i64 node] w fun e w' => ∃ v, e = .returned v ∧
      w'.ownsRow w.heap.size 3 1 v (t.wants node 8).length (ints (t.wants node 8)) ∧ Only [] w w' := by
  have HL := Lib.hid (lease_which b t node w hs ht)
  clear hs ht
  go_enter Try.func35, Try.ntmps35
  go_wp2_with (go_at_call 50; refine HL.out.mono ?_; rintro e w1 ⟨v, rfl, hown, ho⟩)
  go_ret
  exact ⟨v, rfl, hown, ho⟩

theorem lease_new (w : World) : Calls Try.prog 28 #[] w fun e w' => e = .returned (.pointer (some ⟨w.heap.size, 0, none⟩)) ∧ Only [] w w' ∧
    Cells w' w.heap.size 81 (Tb.mk 0 (List.replicate 8 ⟨0, 0, 0⟩)).cells := by
  go_enter Try.func28, Try.ntmps28
  go_wp2
  go_ret
  exact ⟨rfl, (Only.refl _ _).alloc _, Cells.new w _ _⟩

def Tb.check (t : Tb) (k node epoch : Int) : Int :=
  if 0 ≤ k ∧ k < 8 ∧ t.now < (t.get k).till ∧ (t.get k).node = node ∧ (t.get k).epoch = epoch then 0 else 15

theorem lease_check_out (b : Nat) (t : Tb) (n node epoch : Int) (w : World) (hs : Cells w b 81 t.cells) (hl : t.l.length = 8) (hn : n < 0 ∨ 8 ≤ n) :
    Calls Try.prog 33 #[.pointer (some ⟨b, 0, none⟩), .int .i64 n, .int .i64 node, .int .i64 epoch] w fun e w' => e = .returned (.int .i64 15) ∧ Only [] w w' := by
  have HG := Lib.hid (lease_get b t n w hs hl)
  have HI : Hid (∀ w, Calls Try.prog 48 #[.int .i64 n] w fun e w' => e = .returned (.bool false) ∧ w = w') :=
    fun w => (lease_is n w).mono fun _ _ ⟨h, hw⟩ => ⟨by rw [h]; simp; omega, hw⟩
  clear hs hl
  go_enter Try.func33, Try.ntmps33
  unfold Ls.val at HG
  go_wp2_with (first
    | (go_at_call 30; refine HG.out.mono ?_; rintro e w1 ⟨rfl, ho⟩)
    | (go_at_call 48; refine (HI.out _).mono ?_; rintro e w2 ⟨rfl, rfl⟩))
  go_ret
  exact ⟨rfl, ho.alloc _⟩

set_option maxHeartbeats 400000 in
theorem lease_check_in (b k : Nat) (t : Tb) (node epoch : Int) (w : World) (hs : Cells w b 81 t.cells) (hl : t.l.length = 8) (hk : k < 8) (d1 d2 d3 : Bool)
    (h : d1 = false ∨ (d1 = true ∧ d2 = false) ∨ (d1 = true ∧ d2 = true ∧ d3 = false) ∨ (d1 = true ∧ d2 = true ∧ d3 = true)) (x : Ls) (hx : t.get k = x)
    (hd1 : decide (t.now < x.till) = d1) (hd2 : (x.node == node) = d2) (hd3 : (x.epoch == epoch) = d3) :
    Calls Try.prog 33 #[.pointer (some ⟨b, 0, none⟩), .int .i64 k, .int .i64 node, .int .i64 epoch] w fun e w' => e = .returned (.int .i64 (if d1 && d2 && d3 then 0 else 15)) ∧ Only [] w w' := by
  subst hx
  have HG := Lib.hid (lease_get b t k w hs hl)
  have H := Lib.hid hs
  have HD := Lib.hid hd1
  clear hs hl hd1
  obtain ⟨x, hx⟩ : ∃ x, t.get k = x := ⟨_, rfl⟩
  rw [hx] at HG HD hd2 hd3
  clear hx
  unfold Ls.val at HG
  rcases h with rfl | ⟨rfl, rfl⟩ | ⟨rfl, rfl, rfl⟩ | ⟨rfl, rfl, rfl⟩
  all_goals
    go_enter Try.func33, Try.ntmps33
    go_wp2_with (first
      | (go_at_call 30; refine HG.out.mono ?_; rintro e w1 ⟨rfl, ho⟩)
      | (go_at_call 48; refine (lease_is_in k hk _).mono ?_; rintro e w2 ⟨rfl, rfl⟩)
      | (go_at_call 49; refine (lease_live_b b t x _ HD.out ((H.out.only ho (by simp)).alloc _)).mono ?_; rintro e w3 ⟨rfl, ho3⟩
         have q0 := (ho3.cell (p := ⟨w1.heap.size, 0, none⟩) (by simp) (by simp))
         have q1 := (ho3.cell (p := ⟨w1.heap.size, 1, none⟩) (by simp) (by simp))
         have q2 := (ho3.cell (p := ⟨w1.heap.size, 2, none⟩) (by simp) (by simp))))
    go_ret
    exact ⟨by simp, (ho.alloc _).tr ho3⟩

theorem lease_check (b : Nat) (t : Tb) (n node epoch : Int) (w : World) (hs : Cells w b 81 t.cells) (hl : t.l.length = 8) :
    Calls Try.prog 33 #[.pointer (some ⟨b, 0, none⟩), .int .i64 n, .int .i64 node, .int .i64 epoch] w fun e w' => e = .returned (.int .i64 (t.check n node epoch)) ∧ Only [] w w' := by
  by_cases h : 0 ≤ n ∧ n < 8
  · obtain ⟨k, rfl⟩ := Int.eq_ofNat_of_zero_le h.1
    refine (lease_check_in b k t node epoch w hs hl (by omega) _ _ _ ?_ _ rfl rfl rfl rfl).mono ?_
    · cases decide (t.now < (t.get k).till) <;> cases ((t.get k).node == node) <;> cases ((t.get k).epoch == epoch) <;> simp
    · rintro e w' ⟨rfl, ho⟩
      refine ⟨?_, ho⟩
      unfold Tb.check
      by_cases h1 : t.now < (t.get k).till <;> by_cases h2 : (t.get k).node = node <;> by_cases h3 : (t.get k).epoch = epoch <;> simp [h1, h2, h3]
      omega
  · rw [show t.check n node epoch = 15 from by unfold Tb.check; rw [if_neg (by omega)]]
    exact lease_check_out b t n node epoch w hs hl (by omega)
end Go.Proofs.Ytlonaniomnalnaa
