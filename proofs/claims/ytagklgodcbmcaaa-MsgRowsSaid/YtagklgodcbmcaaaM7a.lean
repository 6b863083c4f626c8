/-
  Chapter 7: a message's shape; within, node, rising.
-/
import Derived.Test.YtagklgodcbmcaaaV7
namespace Go.Proofs.Ytagklgodcbmcaaa
open Go.RowKit
/-- A call's answer is yes just if Q. -/
def OkB (Q : Prop) (w : World) (e : Ending) (w' : World) : Prop := ∃ b, e = .returned (.bool b) ∧ (b = true ↔ Q) ∧ Only [] w w'
theorem OkB.t {Q : Prop} {w w' : World} {e : Ending} (hq : Q) (he : e = .returned (.bool true)) (ho : Only [] w w') : OkB Q w e w' := ⟨true, he, by simpa using hq, ho⟩
theorem OkB.f {Q : Prop} {w w' : World} {e : Ending} (hq : ¬ Q) (he : e = .returned (.bool false)) (ho : Only [] w w') : OkB Q w e w' := ⟨false, he, by simpa using hq, ho⟩
structure Ms where
  kd : Int
  fr : Int
  to : Int
  tm : Int
  ix : Int
  lt : Int
  cm : Int
  ok : Bool
  es : List En
  b : Bas
  d : ByteArray
def Ms.cells (m : Ms) (ev vv : Value) : List Value := [.int .i64 m.kd, .int .i64 m.fr, .int .i64 m.to, .int .i64 m.tm, .int .i64 m.ix, .int .i64 m.lt, .int .i64 m.cm, .bool m.ok, ev, .int .i64 m.b.ix, .int .i64 m.b.tm, vv, .string m.b.d, .string m.d]
def Ms.val (m : Ms) (ev vv : Value) : Value := .agg #[.int .i64 m.kd, .int .i64 m.fr, .int .i64 m.to, .int .i64 m.tm, .int .i64 m.ix, .int .i64 m.lt, .int .i64 m.cm, .bool m.ok, ev, .int .i64 m.b.ix, .int .i64 m.b.tm, vv, .string m.b.d, .string m.d]
/-- A message whose rows lie in memory. -/
structure MsAt (w : World) (ev vv : Value) (m : Ms) : Prop where
  ents : SlAt w w.heap.size ev 4 m.es.length (enL m.es)
  vots : SlAt w w.heap.size vv 1 m.b.vs.length (gvs m.b.vs)
  ws : ∀ x ∈ [m.kd, m.fr, m.to, m.tm, m.ix, m.lt, m.cm, m.b.ix, m.b.tm], Wide64 x
  we : ∀ x ∈ m.es, Wide64 x.ix ∧ Wide64 x.tm ∧ Wide64 x.kd ∧ x.d.size ≤ maxLen
  wv : ∀ x ∈ m.b.vs, Wide64 x
  wd : m.d.size ≤ maxLen
  wb : m.b.d.size ≤ maxLen
theorem MsAt.only {w w' : World} {ev vv : Value} {m : Ms} (h : MsAt w ev vv m) (ho : Only [] w w') : MsAt w' ev vv m :=
  ⟨(h.ents.only ho (Nat.le_refl _) (by simp)).more ho.size, (h.vots.only ho (Nat.le_refl _) (by simp)).more ho.size, h.ws, h.we, h.wv, h.wd, h.wb⟩
theorem MsAt.elen {w : World} {ev vv : Value} {m : Ms} (h : MsAt w ev vv m) : m.es.length ≤ 9223372036854775807 := by
  obtain ⟨_, _, _, _, h1, h2, _⟩ := h.ents
  unfold maxLen at h2; omega
theorem lit_ints (w : World) (l : List Int) (n : Nat) (hn : w.heap.size = n) (h : l.length ≤ 1000) : SlAt (w.alloc (.cells (gvs l).toArray 3)) (w.alloc (.cells (gvs l).toArray 3)).heap.size (.slice (some ⟨n, 0, none⟩) l.length l.length) 1 l.length (gvs l) := by
  subst hn
  exact SlAt.of_own (cells_own (n := l.length) (sz := 1) (Cells.new w 3 (gvs l)) (by unfold maxLen; omega) (by simp [gvs]))
def In40 (x : Int) : Prop := 0 ≤ x ∧ x ≤ 1099511627776
def Node (x : Int) : Prop := 1 ≤ x ∧ x ≤ 9
structure EnRight (x : En) : Prop where
  ix : In40 x.ix
  tm : In40 x.tm
  kd : 1 ≤ x.kd ∧ x.kd ≤ 3
  d : x.d.size ≤ 4000000
structure Ms.Right (m : Ms) : Prop where
  es : ∀ x ∈ m.es, EnRight x
  kd : 1 ≤ m.kd ∧ m.kd ≤ 6
  ln : m.es.length ≤ 8
  fr : Node m.fr
  to : Node m.to
  vs : Rise m.b.vs
  ns : ∀ x ∈ [m.tm, m.ix, m.lt, m.cm, m.b.ix, m.b.tm], In40 x
  d : m.d.size ≤ 4000000
  bd : m.b.d.size ≤ 4000000
theorem rise_len {l : List Int} (h : Rise l) : l.length ≤ 9 := by
  have key : ∀ (j : Nat) x, l[j]? = some x → (j : Int) + 1 ≤ x := by
    intro j
    induction j with
    | zero => intro x hx; have := (h 0 x hx).1; omega
    | succ j ih =>
      intro x hx
      have hlt := (List.getElem?_eq_some_iff.1 hx).1
      obtain ⟨y, hy⟩ : ∃ y, l[j]? = some y := ⟨_, List.getElem?_eq_getElem (by omega)⟩
      have := ih y hy
      have := (h (j + 1) x hx).2.2 (by omega) y (by simpa using hy)
      omega
  rcases Nat.lt_or_ge 9 l.length with h1 | h1
  · obtain ⟨x, hx⟩ : ∃ x, l[9]? = some x := ⟨_, List.getElem?_eq_getElem h1⟩
    have := key 9 x hx
    have := (h 9 x hx).2.1
    omega
  · exact h1
set_option maxRecDepth 100000 in
set_option maxHeartbeats 1000000 in
theorem msg_within (v : Value) (l : List Int) (w : World) (hs : SlAt w w.heap.size v 1 l.length (gvs l)) (hl : l.length ≤ 1000000) :
    Calls Try.prog 76 #[v] w (OkB (∀ x ∈ l, In40 x) w) := by
  obtain ⟨A, c, rfl⟩ := hs.shape
  have HS := Lib.hid hs
  clear hs
  go_enter Try.func76, Try.ntmps76
  go_wp2_with fail
  go_loop [7] (fun i => ∃ k : Nat, k ≤ l.length ∧ i = .int .i64 k ∧ Hid (∀ j x, j < k → l[j]? = some x → In40 x)) (fun i => l.length - (intOf i).toNat)
  case atStart => exact ⟨0, by omega, rfl, Lib.hid fun j x hj => by omega⟩
  case round =>
    obtain ⟨k, hk, rfl, hall⟩ := hrel
    by_cases hlt : k < l.length
    · have hlt' : (k : Int) < (l.length : Int) := by omega
      obtain ⟨x, hx⟩ : ∃ x, l[k]? = some x := ⟨_, List.getElem?_eq_getElem hlt⟩
      obtain ⟨b1, o1, c1', e1, q1⟩ := gvs_at HS.out hx
      injection e1 with i1 i2 i3
      subst i1
      subst i3
      have HX := Lib.hid hx
      clear i2 hx
      have hbad : ¬ In40 x → Hid (¬ ∀ x ∈ l, In40 x) := fun h => by show ¬ _; intro h1; exact h (h1 x (List.mem_of_getElem? HX.out))
      have HBAD := Lib.hid hbad
      clear hbad
      by_cases h0 : x < 0
      · have d1 : decide (x < 0) = true := by simpa using h0
        have hb := HBAD.out (fun h => by unfold In40 at h; omega)
        go_wp2_with fail
        go_ret
        exact OkB.f hb.out rfl (Only.refl _ _)
      · have d1 : decide (x < 0) = false := by simpa using h0
        by_cases h9 : 1099511627776 < x
        · have d2 : decide (1099511627776 < x) = true := by simpa using h9
          have hb := HBAD.out (fun h => by unfold In40 at h; omega)
          go_wp2_with fail
          go_ret
          exact OkB.f hb.out rfl (Only.refl _ _)
        · have d2 : decide (1099511627776 < x) = false := by simpa using h9
          have hn : Hid (∀ j y, j < k + 1 → l[j]? = some y → In40 y) := Lib.hid fun j y hj hy => by
            by_cases hjk : j < k
            · exact hall.out j y hjk hy
            · obtain rfl : j = k := by omega
              rw [HX.out] at hy
              injection hy with hy
              subst hy
              unfold In40
              omega
          go_wp2_with fail
          go_round
          case rel => exact ⟨k + 1, by omega, by go_num, hn⟩
          case measure => simp [intOf]; omega
    · have hd : decide ((k : Int) < (l.length : Int)) = false := by simp; omega
      have hR : Hid (∀ x ∈ l, In40 x) := Lib.hid fun x hx => by
        obtain ⟨j, hj⟩ := List.getElem?_of_mem hx
        exact hall.out j x (by have := (List.getElem?_eq_some_iff.1 hj).1; omega) hj
      go_wp2_with fail
      go_ret
      exact OkB.t hR.out rfl (Only.refl _ _)
set_option maxRecDepth 100000 in
theorem msg_node (n : Int) (w : World) : Calls Try.prog 77 #[.int .i64 n] w (OkB (Node n) w) := by
  by_cases h0 : 0 < n
  · have d1 : decide (0 < n) = true := by simpa using h0
    by_cases h9 : n ≤ 9
    · have d2 : decide (n ≤ 9) = true := by simpa using h9
      have hR : Hid (Node n) := Lib.hid ⟨by omega, h9⟩
      go_enter Try.func77, Try.ntmps77
      go_wp2_with fail
      go_ret
      exact OkB.t hR.out rfl (Only.refl _ _)
    · have d2 : decide (n ≤ 9) = false := by simpa using h9
      have hR : Hid (¬ Node n) := Lib.hid fun h => h9 h.2
      go_enter Try.func77, Try.ntmps77
      go_wp2_with fail
      go_ret
      exact OkB.f hR.out rfl (Only.refl _ _)
  · have d1 : decide (0 < n) = false := by simpa using h0
    have hR : Hid (¬ Node n) := Lib.hid fun h => by have := h.1; omega
    go_enter Try.func77, Try.ntmps77
    go_wp2_with fail
    go_ret
    exact OkB.f hR.out rfl (Only.refl _ _)
set_option maxRecDepth 100000 in
set_option maxHeartbeats 1000000 in
theorem msg_rising (v : Value) (l : List Int) (w : World) (hs : SlAt w w.heap.size v 1 l.length (gvs l)) (hl : l.length ≤ 9223372036854775807) :
    Calls Try.prog 78 #[v] w (OkB (Rise l) w) := by
  obtain ⟨A, c, rfl⟩ := hs.shape
  have HS := Lib.hid hs
  clear hs
  go_enter Try.func78, Try.ntmps78
  go_wp2_with fail
  go_loopw [3, 8] (fun q i wr => ∃ (k : Nat) (last : Int), Hid (Only [] w wr) ∧ k ≤ l.length ∧ i = .int .i64 k ∧ q = .int .i64 last ∧ 0 ≤ last ∧ last ≤ 9 ∧ Hid ((∀ j, j < k → RiseAt l j) ∧ ((k = 0 ∧ last = 0) ∨ (0 < k ∧ l[k - 1]? = some last)))) (fun _ i _ => l.length - (intOf i).toNat)
  case atStart => exact ⟨0, 0, Lib.hid (Only.refl _ _), by omega, rfl, rfl, by omega, by omega, Lib.hid ⟨fun j hj => by omega, .inl ⟨rfl, rfl⟩⟩⟩
  case round =>
    obtain ⟨k, last, ho, hk, rfl, rfl, hl0, hl9, hall⟩ := hrel
    by_cases hlt : k < l.length
    · have hlt' : (k : Int) < (l.length : Int) := by omega
      obtain ⟨x, hx⟩ : ∃ x, l[k]? = some x := ⟨_, List.getElem?_eq_getElem hlt⟩
      obtain ⟨b1, o1, c1', e1, q1⟩ := gvs_at (HS.out.only ho.out (Nat.le_refl _) (by simp)) hx
      injection e1 with i1 i2 i3
      subst i1
      subst i3
      have HX := Lib.hid hx
      clear i2 hx
      have hbad : ¬ RiseAt l k → Hid (¬ Rise l) := fun h => by show ¬ _; intro h1; exact h (h1 k)
      have HBAD := Lib.hid hbad
      clear hbad
      by_cases h0 : x ≤ last
      · have d1 : decide (x ≤ last) = true := by simpa using h0
        have hb := HBAD.out (fun h => by
          have := h x HX.out
          rcases hall.out.2 with ⟨_, h2⟩ | ⟨h2, h3⟩
          · omega
          · have := this.2.2 h2 last h3; omega)
        go_wp2_with fail
        go_ret
        exact OkB.f hb.out rfl ho.out
      · have d1 : decide (x ≤ last) = false := by simpa using h0
        go_wp2_with fail
        refine (msg_node x wr).mono ?_
        rintro e w1 ⟨b, rfl, hb, ho1⟩
        have HO1 := Lib.hid (ho.out.tr ho1)
        clear ho1
        have HB := Lib.hid hb
        clear hb
        cases b with
        | false =>
          have hb := HBAD.out (fun h => by
            have h1 := h x HX.out
            have := HB.out.2 ⟨h1.1, h1.2.1⟩
            cases this)
          go_wp2_with fail
          go_ret
          exact OkB.f hb.out rfl HO1.out
        | true =>
          have hnode := HB.out.1 rfl
          have hx0 : 0 ≤ x := by have := hnode.1; omega
          have hx9 : x ≤ 9 := hnode.2
          have hn : Hid ((∀ j, j < k + 1 → RiseAt l j) ∧ ((k + 1 = 0 ∧ x = 0) ∨ (0 < k + 1 ∧ l[k + 1 - 1]? = some x))) := Lib.hid ⟨fun j hj => by
            by_cases hjk : j < k
            · exact hall.out.1 j hjk
            · obtain rfl : j = k := by omega
              intro y hy
              rw [HX.out] at hy
              injection hy with hy
              subst hy
              refine ⟨hnode.1, hnode.2, fun hj0 z hz => ?_⟩
              rcases hall.out.2 with ⟨h2, _⟩ | ⟨h2, h3⟩
              · omega
              · rw [h3] at hz; injection hz with hz; omega, .inr ⟨by omega, HX.out⟩⟩
          clear hnode
          go_wp2_with fail
          go_roundw
          case rel => exact ⟨k + 1, x, HO1, by omega, by go_num, rfl, hx0, hx9, hn⟩
          case measure => simp [intOf]; omega
    · have hd : decide ((k : Int) < (l.length : Int)) = false := by simp; omega
      have hR : Hid (Rise l) := Lib.hid fun j x hx => hall.out.1 j (by have := (List.getElem?_eq_some_iff.1 hx).1; omega) x hx
      go_wp2_with fail
      go_ret
      exact OkB.t hR.out rfl ho.out
end Go.Proofs.Ytagklgodcbmcaaa
