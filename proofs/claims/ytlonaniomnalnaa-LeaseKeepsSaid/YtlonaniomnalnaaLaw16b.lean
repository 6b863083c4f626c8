/-
  Chapter 16's examples hold.
-/
import Derived.Test.YtlonaniomnalnaaLaw16a
namespace Go.Proofs.Ytlonaniomnalnaa
open Go.RowKit

def Tb.t1 : Tb := (Tb.empty.grant 3 1).1
def Tb.t2 : Tb := (Tb.t1.grant 3 2).1
def Tb.t3 : Tb := (Tb.t2.grant 3 1).1
def Tb.t4 : Tb := Tb.t3.ticks 6
def Tb.t5 : Tb := (Tb.t4.grant 3 2).1
theorem Tb.t1_upto : Tb.t1.upto 1 := Tb.empty_upto.grant 3 1
theorem Tb.t2_upto : Tb.t2.upto 2 := Tb.t1_upto.grant 3 2
theorem Tb.t3_upto : Tb.t3.upto 3 := Tb.t2_upto.grant 3 1
theorem Tb.t4_upto : Tb.t4.upto 9 := Tb.t3_upto.ticks 6
theorem Tb.t5_upto : Tb.t5.upto 10 := Tb.t4_upto.grant 3 2
theorem Tb.t0_wants : (Tb.empty.wants 2 8).length = 8 := by decide
theorem Tb.t0_grant : (Tb.empty.grant 3 1).2 = (1, 0) := by decide
theorem Tb.t1_grant : (Tb.t1.grant 3 2).2 = (0, 16) := by decide
theorem Tb.t2_grant : (Tb.t2.grant 3 1).2 = (1, 0) := by decide
theorem Tb.t3_check1 : Tb.t3.check 3 1 1 = 0 := by decide
theorem Tb.t3_check2 : Tb.t3.check 3 2 1 = 15 := by decide
theorem Tb.t4_check : Tb.t4.check 3 1 1 = 15 := by decide
theorem Tb.t4_grant : (Tb.t4.grant 3 2).2 = (2, 0) := by decide
theorem Tb.t5_get : Tb.t5.get 3 = ⟨2, 2, 12⟩ := by
  have : ((Tb.t5.get 3).node, (Tb.t5.get 3).epoch, (Tb.t5.get 3).till) = (2, 2, 12) := by decide
  generalize Tb.t5.get 3 = x at *
  cases x; simp_all

theorem field_lease0 (x y z : Int) (w : World) : (Instr.field 44 (.agg #[.int .i64 x, .int .i64 y, .int .i64 z]) 0).run Try.prog w = .ok (.int .i64 x) w := by kernel_rfl
theorem field_lease1 (x y z : Int) (w : World) : (Instr.field 44 (.agg #[.int .i64 x, .int .i64 y, .int .i64 z]) 1).run Try.prog w = .ok (.int .i64 y) w := by kernel_rfl
theorem field_lease2 (x y z : Int) (w : World) : (Instr.field 44 (.agg #[.int .i64 x, .int .i64 y, .int .i64 z]) 2).run Try.prog w = .ok (.int .i64 z) w := by kernel_rfl

/-- The table lies at b, and nothing of w0 has turned. -/
def TbAt (w0 w : World) (b : Nat) (t : Tb) : Prop := Cells w b 81 t.cells ∧ Only [] w0 w ∧ w0.heap.size ≤ b
theorem TbAt.only {w0 w w' : World} {b : Nat} {t : Tb} (h : TbAt w0 w b t) (ho : Only [] w w') : TbAt w0 w' b t := ⟨h.1.only ho (by simp), h.2.1.tr ho, h.2.2⟩
theorem TbAt.turn {w0 w w' : World} {b : Nat} {t t' : Tb} (h : TbAt w0 w b t) (ho : Only [b] w w') (hc : Cells w' b 81 t'.cells) : TbAt w0 w' b t' :=
  ⟨hc, h.2.1.trans ho fun x hx => by simp at hx; subst hx; exact .inr h.2.2, h.2.2⟩

theorem TbAt.drew {w0 w : World} {b : Nat} {t : Tb} (h : Hid (TbAt w0 w b t)) : Hid (TbAt w0 w.drew b t) := ⟨h.1, h.out.2.1.drew, h.out.2.2⟩
theorem TbAt.grown {w0 w w' : World} {b base : Nat} {t : Tb} {e : TypeId} {sz n : Nat} {v : Value} {xs : List Value} (h : Hid (TbAt w0 w b t)) (hown : w.ownsRow base e sz v n xs) (hg : w.grownBy w' v.ownBlock) (he : e ≠ 81) (hb : w0.heap.size ≤ base) : Hid (TbAt w0 w' b t) :=
  ⟨h.1.grown hg (own_ne_block hown h.1 he), h.out.2.1.own hown hg hb, h.out.2.2⟩
theorem TbAt.set {w0 w : World} {b : Nat} {t : Tb} (h : Hid (TbAt w0 w b t)) {p : Addr} (hp : b ≠ p.block) (hb : w0.heap.size ≤ p.block) (u : Value) : Hid (TbAt w0 (w.setCell p u) b t) :=
  ⟨h.1.far hp u, h.out.2.1.setCell (.inr hb) u, h.out.2.2⟩
theorem tb_new (w0 w : World) (h : Only [] w0 w) : Calls Try.prog 28 #[] w fun e w' => ∃ b, e = .returned (.pointer (some ⟨b, 0, none⟩)) ∧ Hid (TbAt w0 w' b Tb.empty) :=
  (lease_new w).mono fun _ _ ⟨h1, h2, h3⟩ => ⟨_, h1, h3, h.tr h2, h.size⟩
theorem tb_grant {w0 w : World} {b : Nat} {t : Tb} (h : Hid (TbAt w0 w b t)) (n node : Int) (m : Int) (ht : t.upto m) (hm : m ≤ 4611686018427387904) (x : Int × Int) (hx : (t.grant n node).2 = x) :
    Calls Try.prog 32 #[.pointer (some ⟨b, 0, none⟩), .int .i64 n, .int .i64 node] w fun e w' => e = .returned (.tuple #[.int .i64 x.1, .int .i64 x.2]) ∧ Hid (TbAt w0 w' b (t.grant n node).1) :=
  (lease_grant b t n node w h.1 (ht.small hm)).mono fun _ _ ⟨h1, h2, h3⟩ => ⟨by rw [h1, ← hx], h.out.turn h2 h3⟩
theorem tb_check {w0 w : World} {b : Nat} {t : Tb} (h : Hid (TbAt w0 w b t)) (n node epoch : Int) (hl : t.l.length = 8) (x : Int) (hx : t.check n node epoch = x) :
    Calls Try.prog 33 #[.pointer (some ⟨b, 0, none⟩), .int .i64 n, .int .i64 node, .int .i64 epoch] w fun e w' => e = .returned (.int .i64 x) ∧ Hid (TbAt w0 w' b t) ∧ Only [] w w' :=
  (lease_check b t n node epoch w h.1 hl).mono fun _ _ ⟨h1, h2⟩ => ⟨by rw [h1, hx], h.out.only h2, h2⟩
theorem tb_get {w0 w : World} {b : Nat} {t : Tb} (h : Hid (TbAt w0 w b t)) (n : Int) (hl : t.l.length = 8) (x : Ls) (hx : t.get n = x) :
    Calls Try.prog 30 #[.pointer (some ⟨b, 0, none⟩), .int .i64 n] w fun e w' => e = .returned (.agg #[.int .i64 x.node, .int .i64 x.epoch, .int .i64 x.till]) ∧ Hid (TbAt w0 w' b t) ∧ Only [] w w' :=
  (lease_get b t n w h.1 hl).mono fun _ _ ⟨h1, h2⟩ => ⟨by rw [h1, hx]; rfl, h.out.only h2, h2⟩
theorem tb_tick {w0 w : World} {b : Nat} {t : Tb} (h : Hid (TbAt w0 w b t)) (m : Int) (ht : t.upto m) (hm : m ≤ 4611686018427387904) :
    Calls Try.prog 31 #[.pointer (some ⟨b, 0, none⟩)] w fun e w' => e = .returned (.int .i64 (t.now + 1)) ∧ Hid (TbAt w0 w' b t.tick) :=
  (lease_tick b t w h.1 (by have := ht.n0; omega) (by have := ht.n1; omega)).mono fun _ _ ⟨h1, h2, h3⟩ => ⟨h1, h.out.turn h2 h3⟩
theorem tb_now {w0 w : World} {b : Nat} {t : Tb} (h : Hid (TbAt w0 w b t)) :
    Calls Try.prog 36 #[.pointer (some ⟨b, 0, none⟩)] w fun e w' => e = .returned (.int .i64 t.now) ∧ w = w' :=
  lease_now b t w h.1
theorem tb_wants {w0 w : World} {b : Nat} {t : Tb} (h : Hid (TbAt w0 w b t)) (node m : Int) (ht : t.upto m) (hm : m ≤ 4611686018427387904) (n : Nat) (hn : (t.wants node 8).length = n) :
    Calls Try.prog 35 #[.pointer (some ⟨b, 0, none⟩), .int .i64 node] w fun e w' => ∃ A c, e = .returned (.slice A n c) ∧ Hid (SlAt w' w'.heap.size (.slice A n c) 1 n (ints (t.wants node 8))) ∧ Hid (TbAt w0 w' b t) ∧ Only [] w w' :=
  (lease_wants b t node w h.1 (ht.small hm)).mono fun _ _ ⟨v, h1, h2, h3⟩ => by
    subst hn
    obtain ⟨_, A, c, hv, _⟩ := SlAt.of_own h2
    subst hv
    exact ⟨A, c, h1, SlAt.of_own h2, h.out.only h3, h3⟩

set_option maxRecDepth 100000 in
set_option maxHeartbeats 400000 in
theorem shown16 (w : World) : Calls Try.prog 27 #[] w fun e w' => e = .returned (.bool true) ∧ Only [] w w' := by
  go_enter Try.func27, Try.ntmps27
  go_wp2_with fail
  refine (tb_new w w (Only.refl _ _)).mono ?_
  rintro e w1 ⟨b, rfl, h1⟩
  go_wp2_with fail
  refine (tb_wants h1 2 0 Tb.empty_upto (by omega) 8 Tb.t0_wants).mono ?_
  rintro e w2 ⟨A, c, rfl, _, h2, _⟩
  go_wp2_with fail
  refine (tb_grant h2 3 1 0 Tb.empty_upto (by omega) _ Tb.t0_grant).mono ?_
  rintro e w3 ⟨rfl, h3⟩
  go_wp2_with fail
  refine (tb_grant h3 3 2 1 Tb.t1_upto (by omega) _ Tb.t1_grant).mono ?_
  rintro e w4 ⟨rfl, h4⟩
  go_wp2_with fail
  refine (tb_grant h4 3 1 2 Tb.t2_upto (by omega) _ Tb.t2_grant).mono ?_
  rintro e w5 ⟨rfl, h5⟩
  go_wp2_with fail
  refine (tb_check h5 3 1 1 Tb.t3_upto.len _ Tb.t3_check1).mono ?_
  rintro e w6 ⟨rfl, h6, _⟩
  go_wp2_with fail
  refine (tb_check h6 3 2 1 Tb.t3_upto.len _ Tb.t3_check2).mono ?_
  rintro e w7 ⟨rfl, h7, _⟩
  go_wp2_with fail
  go_loopw [8] (fun i wr => ∃ k : Nat, k ≤ 6 ∧ i = .int .i64 k ∧ Hid (TbAt w wr b (Tb.t3.ticks k))) (fun i _ => 6 - (intOf i).toNat)
  case atStart => exact ⟨0, by omega, rfl, by rw [Tb.ticks_zero]; exact h7⟩
  case round =>
    obtain ⟨k, hk, rfl, hr⟩ := hrel
    by_cases hlt : k < 6
    · have hlt' : (k : Int) < 6 := by omega
      go_wp2_with (go_at_call 31; refine (tb_tick hr (3 + k) (Tb.t3_upto.ticks k) (by omega)).mono ?_; rintro e w8 ⟨rfl, h8⟩)
      go_roundw
      case rel => exact ⟨k + 1, by omega, by go_num, by simpa [Tb.ticks, Tb.tick, Int.add_assoc] using h8⟩
      case measure => simp [intOf]; omega
    · obtain rfl : k = 6 := by omega
      go_wp2_with fail
      refine (tb_check hr 3 1 1 Tb.t4_upto.len _ Tb.t4_check).mono ?_
      rintro e w9 ⟨rfl, h9, _⟩
      go_wp2_with fail
      refine (tb_grant h9 3 2 9 Tb.t4_upto (by omega) _ Tb.t4_grant).mono ?_
      rintro e w10 ⟨rfl, h10⟩
      go_wp2_with fail
      refine (tb_get h10 3 Tb.t5_upto.len _ Tb.t5_get).mono ?_
      rintro e w11 ⟨rfl, h11, _⟩
      go_wp2_with fail
      go_ret
      exact ⟨rfl, h11.out.2.1⟩
end Go.Proofs.Ytlonaniomnalnaa
