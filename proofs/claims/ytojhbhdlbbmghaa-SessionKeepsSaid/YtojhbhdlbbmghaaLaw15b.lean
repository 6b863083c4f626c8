/-
  Chapter 15: a new table; whether acts are small; the sessions' numbers; the examples.
-/
import Derived.Test.YtojhbhdlbbmghaaLaw15a
namespace Go.Proofs.Ytojhbhdlbbmghaa
open Go.RowKit
theorem new15 (w : World) : Calls Try.prog 45 #[] w fun e w' => e = .returned (.pointer (some ⟨w.heap.size, 0, none⟩)) ∧ TbT w' w.heap.size w.heap.size (.slice none 0 0) ⟨[], 0⟩ ∧ Only [] w w' ∧ w'.heap.size = w.heap.size + 1 := by
  go_enter Try.func45, Try.ntmps45
  go_wp2_with fail
  go_ret
  exact ⟨rfl, ⟨Nat.le_refl _, Cells.new w _ _, World.ownsRow_nil _ _ _ _⟩, (Only.refl _ _).alloc _, by simp⟩
def small15 (l : List Act) : Bool := decide (l.length ≤ 200) && l.all fun a => decide (a.reply.size ≤ 300)
theorem acts_get (l : List Act) (i j : Nat) (x : Act) (h : l[i]? = some x) (hj : j < 4) : (l.flatMap Act.cells)[i * 4 + j]? = x.cells[j]? := flat_get Act.cells 4 (fun _ => rfl) l i j x h hj
set_option maxRecDepth 100000 in
theorem small_of (v : Value) (l : List Act) (w : World) (hs : SlAt w w.heap.size v 4 l.length (l.flatMap Act.cells)) (hg : ∀ a ∈ l, a.wide) :
    Calls Try.prog 44 #[v] w fun e w' => e = .returned (.bool (small15 l)) ∧ w = w' := by
  obtain ⟨A, c, rfl⟩ := hs.shape
  have HS := Lib.hid hs
  have HG := Lib.hid hg
  clear hs hg
  by_cases hn : l.length ≤ 200
  · have hd1 : decide ((200 : Int) < l.length) = false := by simp; omega
    have HB : Hid (small15 l = l.all fun a => decide (a.reply.size ≤ 300)) := by show _ = _; unfold small15; rw [decide_eq_true hn, Bool.true_and]
    go_enter Try.func44, Try.ntmps44
    go_wp2_with fail
    go_loop [3] (fun i => ∃ k : Nat, k ≤ l.length ∧ i = .int .i64 k ∧ Hid (∀ j x, j < k → l[j]? = some x → x.reply.size ≤ 300)) (fun i => l.length - (intOf i).toNat)
    case atStart => exact ⟨0, by omega, rfl, fun j x h => by omega⟩
    case round =>
      obtain ⟨k, hk, rfl, hA⟩ := hrel
      by_cases hlt : k < l.length
      · have hlt' : (k : Int) < (l.length : Int) := by omega
        have hk1 := List.getElem?_eq_getElem hlt
        obtain ⟨x, hx⟩ : ∃ x, l[k] = x := ⟨_, rfl⟩
        rw [hx] at hk1
        have hw := (HG.out x (List.mem_of_getElem? hk1)).2.2.2
        unfold maxLen at hw
        obtain ⟨ab, ao, ac, hv, hab, hc⟩ := HS.out.at_ (by omega)
        have q0 : w.cell? ⟨ab, ao + k * 4 + 3, none⟩ = some (.string x.reply) := hc (k * 4 + 3) _ (acts_get l k 3 x hk1 (by omega))
        injection hv with e1 e2 e3
        subst e1; subst e3
        by_cases h3 : x.reply.size ≤ 300
        · have hd2 : decide ((300 : Int) < x.reply.size) = false := by simp; omega
          have hA2 : Hid (∀ j x, j < k + 1 → l[j]? = some x → x.reply.size ≤ 300) := by
            intro j y h1 h2
            rcases Nat.lt_or_ge j k with h | h
            · exact hA.out j y h h2
            · obtain rfl : j = k := by omega
              rw [hk1] at h2
              injection h2 with h2
              subst h2
              exact h3
          clear e2 hc hx hk1 hA
          go_wp2_with fail
          go_round
          case rel => exact ⟨k + 1, by omega, by go_num, hA2⟩
          case measure => simp [intOf]; omega
        · have hd2 : decide ((300 : Int) < x.reply.size) = true := by simp; omega
          have HF : Hid ((l.all fun a => decide (a.reply.size ≤ 300)) = false) := by
            show _ = _
            rw [List.all_eq_false]
            exact ⟨x, List.mem_of_getElem? hk1, by simpa using h3⟩
          clear e2 hc hx hk1 hA
          go_wp2_with fail
          go_ret
          exact ⟨by rw [HB.out, HF.out]; rfl, rfl⟩
      · have hd0 : decide ((k : Int) < (l.length : Int)) = false := by simp; omega
        have HF : Hid ((l.all fun a => decide (a.reply.size ≤ 300)) = true) := by
          show _ = _
          rw [List.all_eq_true]
          intro a ha
          obtain ⟨j, hj, hja⟩ := List.mem_iff_getElem.1 ha
          exact decide_eq_true (hA.out j a (by omega) (by rw [List.getElem?_eq_getElem hj, hja]))
        go_wp2_with fail
        go_ret
        exact ⟨by rw [HB.out, HF.out]; rfl, rfl⟩
  · have hd1 : decide ((200 : Int) < l.length) = true := by simp; omega
    have HB : Hid (small15 l = false) := by show _ = _; unfold small15; rw [decide_eq_false hn, Bool.false_and]
    go_enter Try.func44, Try.ntmps44
    go_wp2_with fail
    go_ret
    exact ⟨by rw [HB.out]; rfl, rfl⟩
end Go.Proofs.Ytojhbhdlbbmghaa
