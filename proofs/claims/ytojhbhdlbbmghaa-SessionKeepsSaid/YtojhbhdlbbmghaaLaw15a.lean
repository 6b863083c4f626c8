/-
  Chapter 15's acts: how they come in; which of n things; what an act does.
-/
import Derived.Test.YtojhbhdlbbmghaaSesD
import Derived.Test.YtojhbhdlbbmghaaWf
namespace Go.Proofs.Ytojhbhdlbbmghaa
open Go.RowKit
structure Act where
  op : Int
  id : Int
  seq : Int
  reply : ByteArray
def Act.cells (a : Act) : List Value := [.int .i64 a.op, .int .i64 a.id, .int .i64 a.seq, .string a.reply]
def Act.val (a : Act) : Value := .agg #[.int .i64 a.op, .int .i64 a.id, .int .i64 a.seq, .string a.reply]
def Act.wide (a : Act) : Prop := Wide64 a.op ∧ Wide64 a.id ∧ Wide64 a.seq ∧ a.reply.size ≤ maxLen
set_option maxRecDepth 100000 in
theorem open_acts {H : Type} {enc : TypeId × Value → H} {w : World} {base : Nat} {spare : Nat → Bool} {held : Bool} {r : Reach} {b0 : Nat} {v : Value} {d : DataW H} {p : List MemPlace}
    (hv : Value.okWide Try.prog w r b0 54 v) (h : DataW.Trod enc Try.prog w base spare held 54 v d p) :
    ∃ l : List Act, SlAt w w.heap.size v 4 l.length (l.flatMap Act.cells) ∧ ∀ a ∈ l, a.wide := by
  obtain ⟨n, xs, hs, hx⟩ := open_structs Try.underlying54 Try.underlying60 (by kernel_rfl) (by kernel_rfl) hv h
  obtain ⟨l, hl, rfl, hg⟩ := flat_of Act.cells 4 (fun _ => rfl) Act.wide n xs hs.1 fun i hi => by
    obtain ⟨u0, y0, m0, e0, h0⟩ := hx i hi 0 _ rfl
    obtain ⟨u1, y1, m1, e1, h1⟩ := hx i hi 1 _ rfl
    obtain ⟨u2, y2, m2, e2, h2⟩ := hx i hi 2 _ rfl
    obtain ⟨u3, y3, m3, e3, h3⟩ := hx i hi 3 _ rfl
    obtain ⟨z0, q0, _, w0⟩ := DataW.trod_int Try.underlying3 h0
    obtain ⟨z1, q1, _, w1⟩ := DataW.trod_int Try.underlying3 h1
    obtain ⟨z2, q2, _, w2⟩ := DataW.trod_int Try.underlying3 h2
    obtain ⟨z3, q3, _, w3⟩ := DataW.trod_string Try.underlying9 h3
    simp at q0 q1 q2 q3
    subst q0; subst q1; subst q2; subst q3
    refine ⟨⟨z0, z1, z2, z3⟩, ⟨wide64_of_wf w0, wide64_of_wf w1, wide64_of_wf w2, w3⟩, fun j hj => ?_⟩
    match j, hj with
    | 0, _ => exact e0
    | 1, _ => exact e1
    | 2, _ => exact e2
    | 3, _ => exact e3
  subst hl
  exact ⟨l, hs, hg⟩
def pickN (c : Int) (n : Nat) : Nat := (if c < 0 then -(c + 1) else c).toNat % n
theorem pickN_lt (c : Int) (n : Nat) (h : 0 < n) : pickN c n < n := Nat.mod_lt _ h
theorem pick15 (c : Int) (n : Nat) (w : World) (hc : Wide64 c) (hn : 0 < n) (hn2 : n ≤ 1000000000000) : Calls Try.prog 50 #[.int .i64 c, .int .i64 n] w fun e w' => e = .returned (.int .i64 (pickN c n : Nat)) ∧ w = w' := by
  obtain ⟨h0, h1⟩ := hc
  by_cases hneg : c < 0
  · have HP : Hid (-((c + 1).tmod (n : Int)) = (pickN c n : Nat)) := by
      show _ = _; unfold pickN; rw [if_pos hneg, ← Int.neg_tmod, Int.tmod_eq_emod_of_nonneg (by omega), Int.natCast_emod, Int.toNat_of_nonneg (by omega)]
    have hn' : (0 : Int) < n := by omega
    go_enter Try.func50, Try.ntmps50
    go_wp2_with fail
    go_ret
    exact ⟨by rw [← HP.out]; rfl, rfl⟩
  · have HP : Hid (c % (n : Int) = (pickN c n : Nat)) := by
      show _ = _; unfold pickN; rw [if_neg hneg, Int.natCast_emod, Int.toNat_of_nonneg (by omega)]
    have hd : decide (c < 0) = false := by simpa using hneg
    go_enter Try.func50, Try.ntmps50
    go_wp2_with fail
    go_ret
    exact ⟨by rw [← HP.out]; rfl, rfl⟩

/-- What a table holds; what an act does. -/
structure TS where
  l : List Ses
  ever : Int
def TS.does (t : TS) (a : Act) : TS :=
  if pickN a.op 5 = 0 then ⟨regL t.l ⟨t.ever + 1, 0, .empty⟩, t.ever + 1⟩
  else if pickN a.op 5 = 1 then t
  else ⟨doneL t.l a.id a.seq a.reply, t.ever⟩
def TbT (w : World) (B b : Nat) (v : Value) (t : TS) : Prop := TbV w B b v t.l t.ever
set_option maxRecDepth 100000 in
set_option maxHeartbeats 1000000 in
theorem does15 (B b : Nat) (v : Value) (t : TS) (a : Act) (w : World) (ha : a.wide) (h : TbT w B b v t) (hl : t.l.length ≤ 8) (he : 0 ≤ t.ever ∧ t.ever ≤ 1000000000000) :
    Calls Try.prog 46 #[.pointer (some ⟨b, 0, none⟩), a.val] w fun e w' => e = .returned (.tuple #[]) ∧ ∃ v', TbT w' B b v' (t.does a) ∧ Only (b :: rb v) w w' ∧ (∀ g, v'.ownBlock = some g → v.ownBlock = some g ∨ w.heap.size ≤ g) := by
  have HP : Hid (∀ w, Calls Try.prog 50 #[.int .i64 a.op, .int .i64 5] w fun e w' => e = .returned (.int .i64 (pickN a.op 5 : Nat)) ∧ w = w') := fun w => pick15 _ 5 w ha.1 (by omega) (by omega)
  obtain ⟨h1, h2, h3⟩ := h
  have hb0 := h2.lt
  have HV : Hid (TbV (w.alloc (.cells #[.int .i64 a.op, .int .i64 a.id, .int .i64 a.seq, .string a.reply] 60)) B b v t.l t.ever) := ⟨h1, h2.alloc _, h3.alloc _⟩
  have ho0 : Only (b :: rb v) w (w.alloc (.cells #[.int .i64 a.op, .int .i64 a.id, .int .i64 a.seq, .string a.reply] 60)) := (Only.refl _ _).alloc _
  have hsz : w.heap.size ≤ (w.alloc (.cells #[.int .i64 a.op, .int .i64 a.id, .int .i64 a.seq, .string a.reply] 60)).heap.size := by simp
  clear h1 h2 h3
  obtain ⟨n, hn⟩ : ∃ n, pickN a.op 5 = n := ⟨_, rfl⟩
  have HD : Hid (t.does a = if n = 0 then ⟨regL t.l ⟨t.ever + 1, 0, .empty⟩, t.ever + 1⟩ else if n = 1 then t else ⟨doneL t.l a.id a.seq a.reply, t.ever⟩) := by show _ = _; unfold TS.does; rw [hn]
  rw [hn] at HP
  clear hn
  unfold Act.val
  by_cases h0 : n = 0
  · subst h0
    have HR := Lib.hid (tbs_register B b v t.l t.ever _ HV.out hl he)
    go_enter Try.func46, Try.ntmps46
    go_wp2_with (first
      | (go_at_call 50; refine (HP.out _).mono ?_; rintro e w1 ⟨rfl, rfl⟩)
      | (go_at_call 49; refine HR.out.mono ?_; rintro e w2 ⟨rfl, v', hv', ho, hg⟩))
    go_end0
    exact ⟨rfl, v', by rw [HD.out]; exact hv', ho0.tr ho, fun g h => (hg g h).imp_right fun h => Nat.le_trans hsz h⟩
  · by_cases h1 : n = 1
    · subst h1
      have HR := Lib.hid (tbs_ask B b t.l t.ever a.id a.seq _ HV.out.s (by omega))
      go_enter Try.func46, Try.ntmps46
      go_wp2_with (first
        | (go_at_call 50; refine (HP.out _).mono ?_; rintro e w1 ⟨rfl, rfl⟩)
        | (go_at_call 47; refine HR.out.mono ?_; rintro e w2 ⟨rfl, ho⟩))
      go_end0
      obtain ⟨q1, q2, q3⟩ := HV.out
      exact ⟨rfl, v, by rw [HD.out]; exact ⟨q1, q2.only ho (by simp), own_only q3 ho (by simp)⟩, ho0.tr0 ho, fun g h => .inl h⟩
    · have d0 : ((n : Int) == 0) = false := by simp; omega
      have d1 : ((n : Int) == 1) = false := by simp; omega
      have HR := Lib.hid (tbs_done B b v t.l t.ever a.id a.seq a.reply _ HV.out hl)
      go_enter Try.func46, Try.ntmps46
      go_wp2_with (first
        | (go_at_call 50; refine (HP.out _).mono ?_; rintro e w1 ⟨rfl, rfl⟩)
        | (go_at_call 48; refine HR.out.mono ?_; rintro e w2 ⟨rfl, v', hv', ho, hg⟩))
      go_end0
      exact ⟨rfl, v', by rw [HD.out, if_neg h0, if_neg h1]; exact hv', ho0.tr ho, fun g h => (hg g h).imp_right fun h => Nat.le_trans hsz h⟩
end Go.Proofs.Ytojhbhdlbbmghaa
