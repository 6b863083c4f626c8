/-
  Chapter 6's laws: small; the acts one by one.
-/
import Derived.Test.YtllapfpakoobcaaNet8
namespace Go.Proofs.Ytllapfpakoobcaa
open Go.RowKit
/-- The cells of the k-th act. -/
theorem act_at {W w : World} {v : Value} {l : List Act} (hs : SlAt W W.heap.size v 6 l.length (l.flatMap Act.cells)) (hg : ∀ a ∈ l, a.Ok W) (ho : Only [] W w) {k : Nat} {a : Act} (h : l[k]? = some a) :
    ∃ b o c A cg, v = .slice (some ⟨b, o, none⟩) l.length c ∧ a.gv = .slice A a.grp.length cg ∧ w.cell? ⟨b, o + k * 6, none⟩ = some (.int .i64 a.op) ∧ w.cell? ⟨b, o + k * 6 + 1, none⟩ = some (.int .i64 a.k) ∧ w.cell? ⟨b, o + k * 6 + 2, none⟩ = some (.int .i64 a.fr) ∧
      w.cell? ⟨b, o + k * 6 + 3, none⟩ = some (.int .i64 a.to) ∧ w.cell? ⟨b, o + k * 6 + 4, none⟩ = some (.string a.d) ∧ w.cell? ⟨b, o + k * 6 + 5, none⟩ = some (.slice A a.grp.length cg) ∧ b < w.heap.size := by
  have hk : k < l.length := (List.getElem?_eq_some_iff.1 h).1
  obtain ⟨b, o, c, hv, hb, hc⟩ := (hs.only ho (Nat.le_refl _) (by simp)).at_ (by omega)
  obtain ⟨A, cg, hgv⟩ := (hg a (List.mem_of_getElem? h)).sl.shape
  have key : ∀ j u, j < 6 → a.cells[j]? = some u → w.cell? ⟨b, o + k * 6 + j, none⟩ = some u := fun j u hj hu => by
    rw [Nat.add_assoc]
    exact hc _ _ ((flat_get Act.cells 6 (fun _ => rfl) l k j a h hj).trans hu)
  exact ⟨b, o, c, A, cg, hv, hgv, key 0 _ (by omega) rfl, key 1 _ (by omega) rfl, key 2 _ (by omega) rfl, key 3 _ (by omega) rfl, key 4 _ (by omega) rfl, key 5 _ (by omega) (by rw [← hgv]; rfl), Nat.lt_of_lt_of_le hb ho.size⟩
def Act.small (a : Act) : Bool := decide (a.d.size ≤ 300) && decide (a.grp.length ≤ 40)
def smallB (l : List Act) : Bool := decide (l.length ≤ 500) && l.all Act.small
set_option maxRecDepth 100000 in
set_option maxHeartbeats 1000000 in
theorem small6 (W : World) (v : Value) (l : List Act) (hs : SlAt W W.heap.size v 6 l.length (l.flatMap Act.cells)) (hg : ∀ a ∈ l, a.Ok W) (w : World) (ho : Only [] W w) :
    Calls Try.prog 9 #[v] w fun e w' => e = .returned (.bool (smallB l)) ∧ w = w' := by
  obtain ⟨A, c, rfl⟩ := hs.shape
  have HS := Lib.hid hs
  have HG := Lib.hid hg
  clear hs hg
  by_cases h5 : 500 < l.length
  · have hd : decide ((500 : Int) < (l.length : Int)) = true := by simp; omega
    have HB : Hid (smallB l = false) := by show _ = _; unfold smallB; rw [show decide (l.length ≤ 500) = false from by simp; omega]; rfl
    clear h5
    go_enter Try.func9, Try.ntmps9
    go_wp2_with fail
    go_ret
    exact ⟨by rw [HB.out]; rfl, rfl⟩
  have hd : decide ((500 : Int) < (l.length : Int)) = false := by simp; omega
  have HB : Hid (smallB l = l.all Act.small) := by show _ = _; unfold smallB; rw [show decide (l.length ≤ 500) = true from by simp; omega]; rfl
  go_enter Try.func9, Try.ntmps9
  go_wp2_with fail
  go_loop [3] (fun i => ∃ k : Nat, k ≤ l.length ∧ i = .int .i64 k ∧ Hid ((l.take k).all Act.small = true)) (fun i => l.length - (intOf i).toNat)
  case atStart => exact ⟨0, by omega, rfl, rfl⟩
  case round =>
    obtain ⟨k, hk, rfl, hall⟩ := hrel
    by_cases hlt : k < l.length
    · have hlt' : (k : Int) < (l.length : Int) := by omega
      have hk1 := List.getElem?_eq_getElem hlt
      obtain ⟨x, hx⟩ : ∃ x, l[k] = x := ⟨_, rfl⟩
      rw [hx] at hk1
      obtain ⟨ab, ao, ac, gA, gc, hv, hgv, q0, q1, q2, q3, q4, q5, hb⟩ := act_at HS.out HG.out ho hk1
      have HK := Lib.hid hk1
      have HM := Lib.hid (List.mem_of_getElem? hk1)
      injection hv with e1 e2 e3
      subst e1; subst e3
      clear e2 hx hk1 hgv q0 q1 q2 q3
      by_cases hd3 : 300 < x.d.size
      · have e3 : decide ((300 : Int) < (x.d.size : Int)) = true := by simp; omega
        have HN : Hid (l.all Act.small = false) := by
          show _ = _
          rw [List.all_eq_false]
          exact ⟨x, HM.out, by unfold Act.small; rw [show decide (x.d.size ≤ 300) = false from by simp; omega]; simp⟩
        clear hd3
        go_wp2_with fail
        go_ret
        exact ⟨by rw [HB.out, HN.out]; rfl, rfl⟩
      have e3 : decide ((300 : Int) < (x.d.size : Int)) = false := by simp; omega
      by_cases hd4 : 40 < x.grp.length
      · have e4 : decide ((40 : Int) < (x.grp.length : Int)) = true := by simp; omega
        have HN : Hid (l.all Act.small = false) := by
          show _ = _
          rw [List.all_eq_false]
          exact ⟨x, HM.out, by unfold Act.small; rw [show decide (x.grp.length ≤ 40) = false from by simp; omega]; simp⟩
        clear hd4
        go_wp2_with fail
        go_ret
        exact ⟨by rw [HB.out, HN.out]; rfl, rfl⟩
      have e4 : decide ((40 : Int) < (x.grp.length : Int)) = false := by simp; omega
      have hall2 : Hid ((l.take (k + 1)).all Act.small = true) := by
        show _ = _
        rw [List.take_add_one, HK.out, List.all_append, hall.out]
        simp [Act.small]; omega
      go_wp2_with fail
      go_round
      case rel => exact ⟨k + 1, by omega, by go_num, hall2⟩
      case measure => simp [intOf]; omega
    · have hd0 : decide ((k : Int) < (l.length : Int)) = false := by simp; omega
      have HN : Hid (l.all Act.small = true) := by
        have := hall.out
        rw [List.take_of_length_le (by omega)] at this
        exact this
      go_wp2_with fail
      go_ret
      exact ⟨by rw [HB.out, HN.out]; rfl, rfl⟩
theorem smallB_spec {l : List Act} (h : smallB l = true) : l.length ≤ 500 ∧ ∀ a ∈ l, a.d.size ≤ 300 ∧ a.grp.length ≤ 40 := by
  unfold smallB at h
  simp only [Bool.and_eq_true, decide_eq_true_eq, List.all_eq_true] at h
  exact ⟨h.1, fun a ha => by have := h.2 a ha; unfold Act.small at this; simpa using this⟩
/-- The net behind the first k acts. -/
def NS.run (s : NS) (l : List Act) (k : Nat) : NS := (l.take k).foldl (fun s a => (s.does a).1) s
theorem NS.run_succ (s : NS) (l : List Act) (k : Nat) (a : Act) (h : l[k]? = some a) : s.run l (k + 1) = ((s.run l k).does a).1 := by
  unfold NS.run
  rw [List.take_add_one, h, List.foldl_append]; rfl
theorem NS.does_lost (s : NS) (a : Act) (h : 0 ≤ s.lost) : 0 ≤ (s.does a).1.lost ∧ (s.does a).1.lost ≤ s.lost + 1 := by
  have hsend : ∀ x, 0 ≤ (s.send x).lost ∧ (s.send x).lost ≤ s.lost + 1 := fun x => by
    unfold NS.send; split
    · exact ⟨by show 0 ≤ s.lost + 1; omega, by show s.lost + 1 ≤ _; omega⟩
    · exact ⟨h, by show s.lost ≤ _; omega⟩
  have key : ∀ t : NS, t.lost = s.lost → 0 ≤ t.lost ∧ t.lost ≤ s.lost + 1 := fun t ht => by omega
  unfold NS.does
  split
  · unfold NS.take; split
    · split
      · exact key _ rfl
      · exact key _ rfl
    · exact key _ rfl
  · split
    · unfold NS.twice; split
      · exact hsend _
      · exact key _ rfl
    · split
      · unfold NS.lose; split
        · exact ⟨by show 0 ≤ s.lost + 1; omega, by show s.lost + 1 ≤ _; omega⟩
        · exact key _ rfl
      · split
        · unfold NS.late; split
          · exact key _ rfl
          · exact key _ rfl
        · split
          · exact key _ rfl
          · split
            · exact key _ rfl
            · exact hsend _
theorem NS.run_lost {s : NS} (l : List Act) (m : Int) (h : 0 ≤ s.lost ∧ s.lost ≤ m) (k : Nat) (hk : k ≤ l.length) : 0 ≤ (s.run l k).lost ∧ (s.run l k).lost ≤ m + k := by
  induction k with
  | zero => simpa [NS.run] using h
  | succ k ih =>
    have hk' : k < l.length := by omega
    rw [NS.run_succ s l k _ (List.getElem?_eq_getElem hk')]
    have h1 := ih (by omega)
    have h2 := (s.run l k).does_lost l[k] h1.1
    omega
theorem na_does {W w : World} {b : Nat} {s : NS} (h : Hid (NetAt W w b s)) (a : Act) (ha : a.Ok W) (hs : a.grp.length ≤ 40) (hlo : s.lo) (r : NS × Lt × Bool) (hr : s.does a = r) (A : Option Addr) (cg : Nat) (hgv : a.gv = .slice A a.grp.length cg) :
    Calls Try.prog 14 #[.pointer (some ⟨b, 0, none⟩), .agg #[.int .i64 a.op, .int .i64 a.k, .int .i64 a.fr, .int .i64 a.to, .string a.d, .slice A a.grp.length cg]] w fun e w' =>
      e = .returned (.tuple #[.agg #[.int .i64 r.2.1.fr, .int .i64 r.2.1.to, .string r.2.1.d], .bool r.2.2]) ∧ Hid (NetAt W w' b r.1) := by
  obtain ⟨v, f, hn⟩ := h.out.net
  rw [← hgv]
  exact (does6 b b W.heap.size v f s a _ r w hn hlo ha.op h.out.only.size (ha.sl.only h.out.only (Nat.le_refl _) (by simp)) (by omega) rfl hr).mono fun e w' ⟨h1, v', f', h2, h3, _⟩ => ⟨h1, h.out.turn hn h2 h3⟩
end Go.Proofs.Ytllapfpakoobcaa
