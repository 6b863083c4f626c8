/-
  Chapter 15: the reference's table: find, Ask.
-/
import Derived.Test.YtojhbhdlbbmghaaRef15
namespace Go.Proofs.Ytojhbhdlbbmghaa
open Go.RowKit
theorem fnd_hit {l : List Ses} {id : Int} {k : Nat} {x : Ses} (hk : l[k]? = some x) (he : (x.id == id) = true) (hno : ∀ j y, j < k → l[j]? = some y → (y.id == id) = false) : fndI l id = k := by
  have hh := List.getElem?_eq_some_iff.1 hk
  obtain ⟨hlt, hx⟩ := hh
  have hS : fndS l id = k := by
    unfold fndS
    refine (List.findIdx_eq hlt).2 ⟨by rw [hx]; exact he, fun j hj => ?_⟩
    have := hno j _ hj (List.getElem?_eq_getElem (by omega))
    simpa using this
  unfold fndI
  rw [hS, if_pos hlt]
theorem fnd_none {l : List Ses} {id : Int} (hno : ∀ j y, j < l.length → l[j]? = some y → (y.id == id) = false) : fndI l id = -1 := by
  unfold fndI
  rw [if_neg]
  intro h
  unfold fndS at h
  have := hno _ _ h (List.getElem?_eq_getElem h)
  have h2 := List.findIdx_getElem (w := h)
  rw [this] at h2
  cases h2
set_option maxRecDepth 100000 in
theorem rt_find (B b : Nat) (v : Value) (l : List Ses) (ever : Int) (id : Int) (w : World) (h : RtV w B b v l ever) (hl : l.length ≤ 1000000) :
    Calls Try.prog 88 #[.pointer (some ⟨b, 0, none⟩), .int .i64 id] w fun e w' => e = .returned (.int .i64 (fndI l id)) ∧ w = w' := by
  obtain ⟨hB, hc, hown⟩ := h
  have hs := SlAt.of_own hown
  obtain ⟨A, c, rfl⟩ := hs.shape
  have c0 := hc.cell (k := 0) rfl
  have HS := Lib.hid hs
  clear hs hown hc
  go_enter Try.func88, Try.ntmps88
  go_wp2_with fail
  go_loop [5] (fun i => ∃ k : Nat, k ≤ l.length ∧ i = .int .i64 k ∧ Hid (∀ j y, j < k → l[j]? = some y → (y.id == id) = false)) (fun i => l.length - (intOf i).toNat)
  case atStart => exact ⟨0, by omega, rfl, fun j y h => by omega⟩
  case round =>
    obtain ⟨k, hk, rfl, hno⟩ := hrel
    by_cases hlt : k < l.length
    · have hlt' : (k : Int) < (l.length : Int) := by omega
      have hk1 := List.getElem?_eq_getElem hlt
      obtain ⟨x, hx⟩ : ∃ x, l[k] = x := ⟨_, rfl⟩
      rw [hx] at hk1
      obtain ⟨ab, ao, ac, hv, hab, hc⟩ := HS.out.at_ (by omega)
      have q0 : w.cell? ⟨ab, ao + k * 3, none⟩ = some (.int .i64 x.id) := hc (k * 3 + 0) _ (sesL_get l k 0 x hk1 (by omega))
      injection hv with e1 e2 e3
      subst e1; subst e3
      cases heq : (x.id == id) with
      | true =>
        have HF := Lib.hid (fnd_hit hk1 heq hno.out)
        clear e2 hc hx hk1 hno
        go_wp2_with fail
        go_ret
        exact ⟨by rw [HF.out]; rfl, rfl⟩
      | false =>
        have hno2 : Hid (∀ j y, j < k + 1 → l[j]? = some y → (y.id == id) = false) := by
          intro j y h1 h2
          rcases Nat.lt_or_ge j k with h | h
          · exact hno.out j y h h2
          · obtain rfl : j = k := by omega
            rw [hk1] at h2
            injection h2 with h2
            subst h2
            exact heq
        clear e2 hc hx hk1 hno
        go_wp2_with fail
        go_round
        case rel => exact ⟨k + 1, by omega, by go_num, hno2⟩
        case measure => simp [intOf]; omega
    · have hd0 : decide ((k : Int) < (l.length : Int)) = false := by simp; omega
      have HF : Hid (fndI l id = -1) := fnd_none fun j y h1 h2 => hno.out j y (by omega) h2
      go_wp2_with fail
      go_ret
      exact ⟨by rw [HF.out]; rfl, rfl⟩
set_option maxRecDepth 100000 in
set_option maxHeartbeats 1000000 in
theorem rt_ask (B b : Nat) (v : Value) (l : List Ses) (ever : Int) (id seq : Int) (w : World) (h : RtV w B b v l ever) (hl : l.length ≤ 1000000) (hp : ∀ s ∈ l, 0 ≤ s.seq) :
    Calls Try.prog 53 #[.pointer (some ⟨b, 0, none⟩), .int .i64 id, .int .i64 seq] w fun e w' => e = .returned (askV (askS l id seq)) ∧ Only [] w w' := by
  have HF := Lib.hid (rt_find B b v l ever id w h hl)
  obtain ⟨hB, hc, hown⟩ := h
  have hs := SlAt.of_own hown
  obtain ⟨A, c, rfl⟩ := hs.shape
  have c0 := hc.cell (k := 0) rfl
  have HS := Lib.hid hs
  clear hs hown hc
  by_cases hlt : fndS l id < l.length
  · have hfi : fndI l id = (fndS l id : Nat) := by unfold fndI; rw [if_pos hlt]
    have hk1 := List.getElem?_eq_getElem hlt
    obtain ⟨x, hx⟩ : ∃ x, l[fndS l id] = x := ⟨_, rfl⟩
    rw [hx] at hk1
    have hxp := hp x (List.mem_of_getElem? hk1)
    obtain ⟨k, hk⟩ : ∃ k, fndS l id = k := ⟨_, rfl⟩
    have hA : askS l id seq = if seq < 1 ∨ seq < x.seq then (2, .empty) else if seq = x.seq then (1, x.reply) else (0, .empty) := by unfold askS atS; rw [hk1]
    rw [hk] at hlt hk1 hfi
    rw [hfi] at HF
    obtain ⟨ab, ao, ac, hv, hab, hc⟩ := HS.out.at_ (by omega)
    have q1 : w.cell? ⟨ab, ao + k * 3 + 1, none⟩ = some (.int .i64 x.seq) := hc (k * 3 + 1) _ (sesL_get l k 1 x hk1 (by omega))
    have q2 : w.cell? ⟨ab, ao + k * 3 + 2, none⟩ = some (.string x.reply) := hc (k * 3 + 2) _ (sesL_get l k 2 x hk1 (by omega))
    injection hv with e1 e2 e3
    subst e1; subst e3
    have HA := Lib.hid hA
    have hd0 : decide ((k : Int) < 0) = false := by simp
    clear hx hk1 hfi hc hA e2 hp hk
    by_cases h1 : seq < 1
    · have d1 : decide (seq < 1) = true := by simpa using h1
      have HV : Hid (askS l id seq = (2, .empty)) := by show _ = _; rw [HA.out, if_pos (.inl h1)]
      by_cases hs0 : seq = x.seq
      · have d2 : (seq == x.seq) = true := by simpa using hs0
        have d3 : (seq == 0) = true := by simp; omega
        have d4 : decide (seq < x.seq) = false := by simp; omega
        clear HA hs0
        go_enter Try.func53, Try.ntmps53
        go_wp2_with (go_at_call 88; refine HF.out.mono ?_; rintro e w' ⟨rfl, rfl⟩)
        go_ret2
        exact ⟨by rw [HV.out]; rfl, Only.refl _ _⟩
      · have d2 : (seq == x.seq) = false := by simpa using hs0
        clear HA
        by_cases hs4 : seq < x.seq
        all_goals
          first
            | have d4 : decide (seq < x.seq) = true := by simpa using hs4
            | have d4 : decide (seq < x.seq) = false := by simpa using hs4
          clear hs0 hs4
          go_enter Try.func53, Try.ntmps53
          go_wp2_with (go_at_call 88; refine HF.out.mono ?_; rintro e w' ⟨rfl, rfl⟩)
          go_ret2
          exact ⟨by rw [HV.out]; rfl, Only.refl _ _⟩
    · have d1 : decide (seq < 1) = false := by simpa using h1
      have d3 : (seq == 0) = false := by simp; omega
      by_cases hs0 : seq = x.seq
      · have d2 : (seq == x.seq) = true := by simpa using hs0
        have HV : Hid (askS l id seq = (1, x.reply)) := by show _ = _; rw [HA.out, if_neg (by omega), if_pos hs0]
        clear HA hs0
        go_enter Try.func53, Try.ntmps53
        go_wp2_with (go_at_call 88; refine HF.out.mono ?_; rintro e w' ⟨rfl, rfl⟩)
        go_quiet (fail)
        go_wp2_with fail
        go_ret2
        exact ⟨by rw [HV.out]; rfl, (Only.refl _ _).drewN _⟩
      · have d2 : (seq == x.seq) = false := by simpa using hs0
        by_cases hs4 : seq < x.seq
        · have d4 : decide (seq < x.seq) = true := by simpa using hs4
          have HV : Hid (askS l id seq = (2, .empty)) := by show _ = _; rw [HA.out, if_pos (.inr hs4)]
          clear HA hs0 hs4
          go_enter Try.func53, Try.ntmps53
          go_wp2_with (go_at_call 88; refine HF.out.mono ?_; rintro e w' ⟨rfl, rfl⟩)
          go_ret2
          exact ⟨by rw [HV.out]; rfl, Only.refl _ _⟩
        · have d4 : decide (seq < x.seq) = false := by simpa using hs4
          have HV : Hid (askS l id seq = (0, .empty)) := by show _ = _; rw [HA.out, if_neg (by omega), if_neg hs0]
          clear HA hs0 hs4
          go_enter Try.func53, Try.ntmps53
          go_wp2_with (go_at_call 88; refine HF.out.mono ?_; rintro e w' ⟨rfl, rfl⟩)
          go_ret2
          exact ⟨by rw [HV.out]; rfl, Only.refl _ _⟩
  · have HFI : Hid (fndI l id = -1) := by show _ = _; unfold fndI; rw [if_neg hlt]
    have HV : Hid (askS l id seq = (3, .empty)) := by show _ = _; unfold askS atS; rw [List.getElem?_eq_none (by omega)]
    rw [HFI.out] at HF
    clear hlt
    go_enter Try.func53, Try.ntmps53
    go_wp2_with (go_at_call 88; refine HF.out.mono ?_; rintro e w' ⟨rfl, rfl⟩)
    go_ret2
    exact ⟨by rw [HV.out]; rfl, Only.refl _ _⟩
end Go.Proofs.Ytojhbhdlbbmghaa
