/-
  Chapter 16's laws: what they lean on: the acts, pick, does, the examples.
-/
import Derived.Test.YtlonaniomnalnaaLease
import Derived.Test.YtlonaniomnalnaaOpen
namespace Go.Proofs.Ytlonaniomnalnaa
open Go.RowKit

structure Act where
  op : Int
  shard : Int
  node : Int
def Act.cells (a : Act) : List Value := [.int .i64 a.op, .int .i64 a.shard, .int .i64 a.node]
def Act.val (a : Act) : Value := .agg #[.int .i64 a.op, .int .i64 a.shard, .int .i64 a.node]
def Wide (x : Int) : Prop := -9223372036854775808 ≤ x ∧ x ≤ 9223372036854775807
theorem wide_of_wf {x : Int} (h : (Lit.int .i64 x).wf = true) : Wide x := by
  simp [Lit.wf, IntKind.min, IntKind.max, IntKind.signed, IntKind.bits] at h
  exact h
def Act.wide (a : Act) : Prop := Wide a.op ∧ Wide a.shard ∧ Wide a.node

set_option maxRecDepth 100000 in
theorem open_acts {H : Type} {enc : TypeId × Value → H} {w : World} {base : Nat} {spare : Nat → Bool} {held : Bool} {r : Reach} {b0 : Nat} {v : Value} {d : DataW H} {p : List MemPlace}
    (hv : Value.okWide Try.prog w r b0 37 v) (h : DataW.Trod enc Try.prog w base spare held 37 v d p) :
    ∃ l : List Act, SlAt w w.heap.size v 3 l.length (l.flatMap Act.cells) ∧ ∀ a ∈ l, a.wide := by
  obtain ⟨n, xs, hs, hx⟩ := open_structs Try.underlying37 Try.underlying42 (by kernel_rfl) (by kernel_rfl) hv h
  obtain ⟨l, hl, rfl, hg⟩ := flat_of Act.cells 3 (fun _ => rfl) Act.wide n xs hs.1 fun i hi => by
    obtain ⟨u0, y0, m0, e0, h0⟩ := hx i hi 0 _ rfl
    obtain ⟨u1, y1, m1, e1, h1⟩ := hx i hi 1 _ rfl
    obtain ⟨u2, y2, m2, e2, h2⟩ := hx i hi 2 _ rfl
    obtain ⟨z0, q0, _, w0⟩ := DataW.trod_int Try.underlying3 h0
    obtain ⟨z1, q1, _, w1⟩ := DataW.trod_int Try.underlying3 h1
    obtain ⟨z2, q2, _, w2⟩ := DataW.trod_int Try.underlying3 h2
    simp at q0 q1 q2
    subst q0; subst q1; subst q2
    refine ⟨⟨z0, z1, z2⟩, ⟨wide_of_wf w0, wide_of_wf w1, wide_of_wf w2⟩, fun j hj => ?_⟩
    match j, hj with
    | 0, _ => exact e0
    | 1, _ => exact e1
    | 2, _ => exact e2
  subst hl
  exact ⟨l, hs, hg⟩

def pickI (c n : Int) : Int := if c < 0 then -(c + 1) % n else c % n
theorem pickI_lt (c n : Int) (hn : 0 < n) : 0 ≤ pickI c n ∧ pickI c n < n := by
  unfold pickI
  split
  · exact ⟨Int.emod_nonneg _ (by omega), Int.emod_lt_of_pos _ hn⟩
  · exact ⟨Int.emod_nonneg _ (by omega), Int.emod_lt_of_pos _ hn⟩
theorem pick16 (c n : Int) (w : World) (hc : Wide c) (h0 : 1 ≤ n) (h1 : n ≤ 1000) :
    Calls Try.prog 29 #[.int .i64 c, .int .i64 n] w fun e w' => e = .returned (.int .i64 (pickI c n)) ∧ w = w' := by
  obtain ⟨c0, c1⟩ := hc
  have hn : (n == 0) = false := by simp; omega
  by_cases h : c < 0
  · have h2 : 0 ≤ -(c + 1) := by omega
    have h2' : c ≤ -1 := by omega
    go_enter Try.func29, Try.ntmps29
    go_wp2
    go_ret
    exact ⟨by unfold pickI; rw [if_pos (by omega), ← Int.tmod_eq_emod_of_nonneg h2]; first | rfl | simp, rfl⟩
  · have h2 : 0 ≤ c := by omega
    have hd : decide (c < 0) = false := by simpa using h
    go_enter Try.func29, Try.ntmps29
    go_wp2
    go_ret
    exact ⟨by unfold pickI; rw [if_neg (by omega)]; simp, rfl⟩

/-- What an act does to a table. -/
def Tb.does (t : Tb) (a : Act) : Tb := if pickI a.op 5 < 2 then t.tick else (t.grant a.shard a.node).1
/-- Small, up to a bound. -/
structure Tb.upto (t : Tb) (n : Int) : Prop where
  len : t.l.length = 8
  n0 : 0 ≤ t.now
  n1 : t.now ≤ n
  e0 : ∀ x ∈ t.l, 0 ≤ x.epoch ∧ x.epoch ≤ n
theorem Tb.upto.small {t : Tb} {n : Int} (h : t.upto n) (hn : n ≤ 4611686018427387904) : t.small :=
  ⟨h.len, h.n0, by have := h.n1; omega, fun x hx => by have := h.e0 x hx; omega⟩
theorem Tb.upto.mono {t : Tb} {n m : Int} (h : t.upto n) (hn : n ≤ m) : t.upto m :=
  ⟨h.len, h.n0, by have := h.n1; omega, fun x hx => by have := h.e0 x hx; omega⟩
theorem Tb.upto.tick {t : Tb} {n : Int} (h : t.upto n) : t.tick.upto (n + 1) :=
  ⟨h.len, by have := h.n0; show 0 ≤ t.now + 1; omega, by have := h.n1; show t.now + 1 ≤ _; omega, fun x hx => by have := h.e0 x hx; omega⟩
theorem Tb.get_epoch {t : Tb} {n : Int} (h : t.upto n) (hn : 0 ≤ n) (k : Int) : 0 ≤ (t.get k).epoch ∧ (t.get k).epoch ≤ n := by
  unfold Tb.get
  split
  · rename_i hk
    rw [List.getD_eq_getElem?_getD]
    have : k.toNat < t.l.length := by rw [h.len]; omega
    rw [List.getElem?_eq_getElem this]
    exact h.e0 _ (List.getElem_mem this)
  · exact ⟨Int.le_refl _, hn⟩
theorem Tb.upto.grant {t : Tb} {n : Int} (h : t.upto n) (k node : Int) : (t.grant k node).1.upto (n + 1) := by
  have hn : 0 ≤ n := by have := h.n0; have := h.n1; omega
  have hg := Tb.get_epoch h hn k
  have hs : ∀ (nd e u : Int), 0 ≤ e ∧ e ≤ n + 1 → (Tb.mk t.now (t.l.set k.toNat ⟨nd, e, u⟩)).upto (n + 1) := fun nd e u he =>
    ⟨by simpa using h.len, h.n0, by have := h.n1; show t.now ≤ _; omega, fun x hx => by
      rcases List.mem_or_eq_of_mem_set hx with hx | rfl
      · have := h.e0 x hx; omega
      · exact he⟩
  unfold Tb.grant
  split
  · split
    · split
      · exact hs _ _ _ (by omega)
      · exact h.mono (by omega)
    · exact hs _ _ _ (by omega)
  · exact h.mono (by omega)
theorem Tb.upto.does {t : Tb} {n : Int} (h : t.upto n) (a : Act) : (t.does a).upto (n + 1) := by
  unfold Tb.does
  split
  · exact h.tick
  · exact h.grant _ _
def Tb.empty : Tb := ⟨0, List.replicate 8 ⟨0, 0, 0⟩⟩
theorem Tb.empty_upto : Tb.empty.upto 0 := ⟨rfl, by decide, by decide, fun x hx => by
  have := List.eq_of_mem_replicate hx; subst this; exact ⟨by decide, by decide⟩⟩

theorem does16 (b : Nat) (t : Tb) (a : Act) (w : World) (ha : a.wide) (hs : Cells w b 81 t.cells) (ht : t.small) :
    Calls Try.prog 34 #[.pointer (some ⟨b, 0, none⟩), a.val] w fun e w' => e = .returned (.tuple #[]) ∧ Only [b] w w' ∧ Cells w' b 81 (t.does a).cells := by
  have HP : Hid (∀ w, Calls Try.prog 29 #[.int .i64 a.op, .int .i64 5] w fun e w' => e = .returned (.int .i64 (pickI a.op 5)) ∧ w = w') := fun w => pick16 _ _ w ha.1 (by omega) (by omega)
  have H := Lib.hid hs
  have HT := Lib.hid ht
  have hn0 := ht.n0
  have hn1 := ht.n1
  clear hs ht ha
  unfold Act.val
  by_cases h : pickI a.op 5 < 2
  · have hd : decide (pickI a.op 5 < 2) = true := by simpa using h
    have HD : Hid (t.does a = t.tick) := by unfold Tb.does; rw [if_pos h]; rfl
    clear h
    go_enter Try.func34, Try.ntmps34
    go_wp2_with (first
      | (go_at_call 29; refine (HP.out _).mono ?_; rintro e w1 ⟨rfl, rfl⟩)
      | (go_at_call 31; refine (lease_tick b t _ (H.out.alloc _) (by omega) (by omega)).mono ?_; rintro e w2 ⟨rfl, ho, hc⟩; have HC := Lib.hid hc; clear hc))
    refine bodyPost_ret (results_none rfl _ _ _) rfl ?_
    exact ⟨rfl, ((Only.refl _ _).alloc _).tr ho, by rw [HD.out]; exact HC.out⟩
  · have hd : decide (pickI a.op 5 < 2) = false := by simpa using h
    have HD : Hid (t.does a = (t.grant a.shard a.node).1) := by unfold Tb.does; rw [if_neg h]; rfl
    clear h
    go_enter Try.func34, Try.ntmps34
    go_wp2_with (first
      | (go_at_call 29; refine (HP.out _).mono ?_; rintro e w1 ⟨rfl, rfl⟩)
      | (go_at_call 32; refine (lease_grant b t _ _ _ (H.out.alloc _) HT.out).mono ?_; rintro e w2 ⟨rfl, ho, hc⟩; have HC := Lib.hid hc; clear hc))
    go_end0
    exact ⟨rfl, ((Only.refl _ _).alloc _).tr ho, by rw [HD.out]; exact HC.out⟩

/-! ### The plain law of a grant -/
theorem Tb.get_set (now : Int) (l : List Ls) (hl : l.length = 8) (k j : Int) (x : Ls) (hk : 0 ≤ k ∧ k < 8) : (Tb.mk now (l.set k.toNat x)).get j = if j = k then x else (Tb.mk now l).get j := by
  unfold Tb.get
  by_cases hj : 0 ≤ j ∧ j < 8
  · rw [if_pos hj, if_pos hj, List.getD_eq_getElem?_getD, List.getD_eq_getElem?_getD, List.getElem?_set]
    by_cases h : j = k
    · subst h
      have : j.toNat < l.length := by omega
      simp [this]
    · have : ¬ k.toNat = j.toNat := by omega
      simp [h, this]
  · rw [if_neg hj, if_neg hj, if_neg (by omega)]
/-- A grant within bounds: it is granted, or held by another one. -/
theorem Tb.grant_cases (t : Tb) (hl : t.l.length = 8) (k m : Int) (hk : 0 ≤ k ∧ k < 8) (hm : 1 ≤ m ∧ m ≤ 9) :
    (∃ t' ep, t.grant k m = (t', ep, 0) ∧ t'.now = t.now ∧ t'.l.length = 8 ∧ (∀ j, t'.get j = if j = k then ⟨m, ep, t.now + 6⟩ else t.get j) ∧
      ((t.now < (t.get k).till ∧ (t.get k).node = m ∧ ep = (t.get k).epoch) ∨ (¬ t.now < (t.get k).till ∧ ep = (t.get k).epoch + 1))) ∨
    (t.grant k m = (t, 0, 16) ∧ t.now < (t.get k).till ∧ (t.get k).node ≠ m) := by
  unfold Tb.grant
  rw [if_pos ⟨hk.1, hk.2, hm.1, hm.2⟩]
  by_cases h1 : t.now < (t.get k).till
  · rw [if_pos h1]
    by_cases h2 : (t.get k).node = m
    · rw [if_pos h2]
      exact .inl ⟨_, _, rfl, rfl, by simpa using hl, fun j => by rw [Tb.get_set _ _ hl _ _ _ hk], .inl ⟨h1, h2, rfl⟩⟩
    · rw [if_neg h2]; exact .inr ⟨rfl, h1, h2⟩
  · rw [if_neg h1]
    exact .inl ⟨_, _, rfl, rfl, by simpa using hl, fun j => by rw [Tb.get_set _ _ hl _ _ _ hk], .inr ⟨h1, rfl⟩⟩
def Tb.ticks (t : Tb) (n : Nat) : Tb := ⟨t.now + n, t.l⟩
theorem Tb.ticks_zero (t : Tb) : t.ticks 0 = t := by cases t; simp [Tb.ticks]
theorem Tb.ticks_get (t : Tb) (n : Nat) (j : Int) : (t.ticks n).get j = t.get j := rfl
theorem Tb.ticks_succ (t : Tb) (n : Nat) : (t.ticks n).tick = t.ticks (n + 1) := by simp [Tb.ticks, Tb.tick, Int.add_assoc]
theorem Tb.upto.ticks {t : Tb} {n : Int} (h : t.upto n) (k : Nat) : (t.ticks k).upto (n + k) :=
  ⟨h.len, by have := h.n0; show 0 ≤ t.now + k; omega, by have := h.n1; show t.now + k ≤ _; omega, fun x hx => by have := h.e0 x hx; omega⟩
end Go.Proofs.Ytlonaniomnalnaa
