/-
  Chapter 18: are all items right. (Printed by gen_c18.py from XSt17g.)
-/
import Derived.Test.YtjfnkjpnjiobjaaItm17
namespace Go.Proofs.Ytjfnkjpnjiobjaa
open Go.RowKit
set_option maxRecDepth 100000 in
theorem cright1 (x : It) (hx : x.Len) (w : World) : Calls Try.prog 72 #[.agg #[.string ⟨x.id.toArray⟩, .string ⟨x.ti.toArray⟩, .string ⟨x.li.toArray⟩]] w fun e w' => e = .returned (.bool (!itR x)) ∧ Only [] w w' := by
  have C := Lib.hid (fun w' => feed_right x hx w')
  obtain ⟨r, hr⟩ : ∃ r, itR x = r := ⟨_, rfl⟩
  rw [hr] at C ⊢
  clear hr
  go_enter Try.func72, Try.ntmps72
  go_wp2_with fail
  refine (C.out _).mono ?_
  rintro e w1 ⟨rfl, ho⟩
  have HO := Lib.hid (((Only.refl [] w).alloc _).tr ho)
  clear ho
  go_wp2_with fail
  go_ret
  exact ⟨rfl, HO.out⟩
set_option maxRecDepth 100000 in
set_option maxHeartbeats 1000000 in
theorem indexFunc_it18 (v : Value) (l : List It) (w : World) (hs : SlAt w w.heap.size v 3 l.length (itL l)) (hl : l.length ≤ 1000000) (hx : ∀ x ∈ l, x.Len) :
    Calls Try.prog 89 #[v, .func (.func 72) #[] #[]] w fun e w' => (∃ i : Int, e = .returned (.int .i64 i) ∧ (decide (0 ≤ i) = l.any (fun x => !itR x))) ∧ Only [] w w' := by
  obtain ⟨A, c, rfl⟩ := hs.shape
  have HS := Lib.hid hs
  have HX := Lib.hid hx
  clear hs hx
  go_enter Try.func89, Try.ntmps89
  go_wp2_with fail
  go_loopw [8] (fun i wr => ∃ k : Nat, k ≤ l.length ∧ i = .int .i64 k ∧ Hid ((l.take k).any (fun x => !itR x) = false) ∧ Only [] w wr) (fun i _ => l.length - (intOf i).toNat)
  case atStart => exact ⟨0, by omega, rfl, Lib.hid rfl, Only.refl _ _⟩
  case round =>
    obtain ⟨k, hk, rfl, hno, ho⟩ := hrel
    by_cases hlt : k < l.length
    · have hlt' : (k : Int) < (l.length : Int) := by omega
      have hk1 := List.getElem?_eq_getElem hlt
      obtain ⟨x, hx⟩ : ∃ x, l[k] = x := ⟨_, rfl⟩
      have hxl := HX.out l[k] (List.getElem_mem _)
      rw [hx] at hk1 hxl
      obtain ⟨ab, ao, ac, hv, hab, hc⟩ := (HS.out.only ho (Nat.le_refl _) (by simp)).at_ (by omega)
      have q0 : wr.cell? ⟨ab, ao + k * 3, none⟩ = some (.string ⟨x.id.toArray⟩) := hc (k * 3 + 0) _ (itL_get l k 0 x hk1 (by omega))
      have q1 : wr.cell? ⟨ab, ao + k * 3 + 1, none⟩ = some (.string ⟨x.ti.toArray⟩) := hc (k * 3 + 1) _ (itL_get l k 1 x hk1 (by omega))
      have q2 : wr.cell? ⟨ab, ao + k * 3 + 2, none⟩ = some (.string ⟨x.li.toArray⟩) := hc (k * 3 + 2) _ (itL_get l k 2 x hk1 (by omega))
      have F1 := Lib.hid (cright1 x hxl wr)
      have HT : Hid ((l.take (k + 1)).any (fun x => !itR x) = !itR x) := by show _ = _; rw [List.take_add_one, hk1, List.any_append, hno.out]; simp
      have HA : Hid ((!itR x) = true → l.any (fun x => !itR x) = true) := fun h => List.any_eq_true.2 ⟨x, List.mem_of_getElem? hk1, h⟩
      injection hv with e1 e2 e3
      subst e1; subst e3
      clear e2 hc hx hk1 hno
      obtain ⟨rb1, hb⟩ : ∃ rb1, (!itR x) = rb1 := ⟨_, rfl⟩
      rw [hb] at F1 HA HT
      clear hb
      cases rb1 with
      | true =>
        have HR := Lib.hid (HA.out rfl)
        clear HT HA
        go_wp2_with (go_at_call 72; refine F1.out.mono ?_; rintro e w1 ⟨rfl, ho1⟩)
        go_ret
        exact ⟨⟨k, rfl, by rw [HR.out]; simp⟩, ho.tr0 ho1⟩
      | false =>
        clear HA
        go_wp2_with (go_at_call 72; refine F1.out.mono ?_; rintro e w1 ⟨rfl, ho1⟩)
        go_roundw
        case rel => exact ⟨k + 1, by omega, by go_num, HT, ho.tr0 ho1⟩
        case measure => simp [intOf]; omega
    · have hd0 : decide ((k : Int) < (l.length : Int)) = false := by simp; omega
      have HF : Hid (l.any (fun x => !itR x) = false) := by have := hno.out; rwa [List.take_of_length_le (by omega)] at this
      clear hno
      go_wp2_with fail
      go_ret
      exact ⟨⟨-1, rfl, by rw [HF.out]; simp⟩, ho⟩
set_option maxRecDepth 100000 in
theorem containsFunc_it18 (v : Value) (l : List It) (w : World) (hs : SlAt w w.heap.size v 3 l.length (itL l)) (hl : l.length ≤ 1000000) (hx : ∀ x ∈ l, x.Len) :
    Calls Try.prog 50 #[v, .func (.func 72) #[] #[]] w fun e w' => e = .returned (.bool (!l.all itR)) ∧ Only [] w w' := by
  have C := Lib.hid (indexFunc_it18 v l w hs hl hx)
  have hall : (l.any fun x => !itR x) = !l.all itR := by rw [List.not_all_eq_any_not]
  rw [hall] at C
  obtain ⟨A, c, rfl⟩ := hs.shape
  clear hs hx hall
  obtain ⟨r, hr⟩ : ∃ r, (!l.all itR) = r := ⟨_, rfl⟩
  rw [hr] at C ⊢
  clear hr
  go_enter Try.func50, Try.ntmps50
  go_wp2_with fail
  refine C.out.mono ?_
  rintro e w1 ⟨⟨i, rfl, hi⟩, ho⟩
  have HI := Lib.hid hi
  clear hi
  go_wp2_with fail
  go_ret
  exact ⟨by rw [← HI.out]; rfl, ho⟩
end Go.Proofs.Ytjfnkjpnjiobjaa
