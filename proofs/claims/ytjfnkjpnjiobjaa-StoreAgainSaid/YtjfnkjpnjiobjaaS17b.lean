/-
  Chapter 17: small.
-/
import Derived.Test.YtjfnkjpnjiobjaaS17a
namespace Go.Proofs.Ytjfnkjpnjiobjaa
open Go.RowKit
structure SmI (x : It) : Prop where
  id : x.id.length ≤ 300
  ti : x.ti.length ≤ 300
  li : x.li.length ≤ 300
structure SmA (a : A17) : Prop where
  fd : a.fd.length ≤ 200
  id : a.id.length ≤ 500
  n : a.its.length ≤ 60
  its : ∀ x ∈ a.its, SmI x
structure Sm17 (l : List A17) : Prop where
  n : l.length ≤ 100
  al : ∀ a ∈ l, SmA a
theorem acL_get (l : List A17) (i j : Nat) (x : A17) (h : l[i]? = some x) (hj : j < 5) : (acL l)[i * 5 + j]? = x.cells[j]? := flat_get A17.cells 5 (fun _ => rfl) l i j x h hj
theorem A17.Ok.only {w w' : World} {a : A17} (h : a.Ok w) (ho : Only [] w w') : a.Ok w' := ⟨h.op, h.n, h.fd, h.id, (h.its.only ho (Nat.le_refl _) (by simp)).more ho.size, h.len⟩
theorem all_snoc {α : Type} {P : α → Prop} {l : List α} {k : Nat} {x : α} (h : l[k]? = some x) (h1 : ∀ a ∈ l.take k, P a) (hx : P x) : ∀ a ∈ l.take (k + 1), P a := by
  intro a ha
  rw [List.take_add_one, h] at ha
  rcases List.mem_append.1 ha with ha | ha
  · exact h1 a ha
  · simp at ha; subst ha; exact hx
theorem acL_at {w : World} {B : Nat} {v : Value} {l : List A17} (h : SlAt w B v 5 l.length (acL l)) {k : Nat} {a : A17} (hk : l[k]? = some a) :
    ∃ b o c, v = .slice (some ⟨b, o, none⟩) l.length c ∧ w.cell? ⟨b, o + k * 5, none⟩ = some (.int .i64 a.op) ∧ w.cell? ⟨b, o + k * 5 + 1, none⟩ = some (.int .i64 a.n) ∧ w.cell? ⟨b, o + k * 5 + 2, none⟩ = some (.string ⟨a.fd.toArray⟩) ∧ w.cell? ⟨b, o + k * 5 + 3, none⟩ = some (.string ⟨a.id.toArray⟩) ∧ w.cell? ⟨b, o + k * 5 + 4, none⟩ = some a.iv := by
  have hlt : k < l.length := (List.getElem?_eq_some_iff.1 hk).1
  obtain ⟨b, o, c, hv, _, hc⟩ := h.at_ (by omega)
  exact ⟨b, o, c, hv, hc (k * 5 + 0) _ (acL_get l k 0 a hk (by omega)), hc (k * 5 + 1) _ (acL_get l k 1 a hk (by omega)), hc (k * 5 + 2) _ (acL_get l k 2 a hk (by omega)), hc (k * 5 + 3) _ (acL_get l k 3 a hk (by omega)), hc (k * 5 + 4) _ (acL_get l k 4 a hk (by omega))⟩
theorem itL_at {w : World} {B : Nat} {v : Value} {l : List It} (h : SlAt w B v 3 l.length (itL l)) {k : Nat} {x : It} (hk : l[k]? = some x) :
    ∃ b o c, v = .slice (some ⟨b, o, none⟩) l.length c ∧ w.cell? ⟨b, o + k * 3, none⟩ = some (.string ⟨x.id.toArray⟩) ∧ w.cell? ⟨b, o + k * 3 + 1, none⟩ = some (.string ⟨x.ti.toArray⟩) ∧ w.cell? ⟨b, o + k * 3 + 2, none⟩ = some (.string ⟨x.li.toArray⟩) := by
  have hlt : k < l.length := (List.getElem?_eq_some_iff.1 hk).1
  obtain ⟨b, o, c, hv, _, hc⟩ := h.at_ (by omega)
  exact ⟨b, o, c, hv, hc (k * 3 + 0) _ (itL_get l k 0 x hk (by omega)), hc (k * 3 + 1) _ (itL_get l k 1 x hk (by omega)), hc (k * 3 + 2) _ (itL_get l k 2 x hk (by omega))⟩
def SmR (l : List A17) (w : World) (e : Ending) (w' : World) : Prop := ∃ bo, e = .returned (.bool bo) ∧ (bo = true → Sm17 l) ∧ Only [] w w'
theorem SmR.no {l : List A17} {w w' : World} (ho : Only [] w w') : SmR l w (.returned (.bool false)) w' := ⟨false, rfl, fun h => (by cases h), ho⟩
set_option maxRecDepth 100000 in
set_option maxHeartbeats 2000000 in
theorem small17 (v : Value) (l : List A17) (w : World) (hs : SlAt w w.heap.size v 5 l.length (acL l)) (hok : ∀ a ∈ l, a.Ok w) :
    Calls Try.prog 16 #[v] w (SmR l w) := by
  obtain ⟨A, c, rfl⟩ := hs.shape
  have hll : l.length ≤ 9223372036854775807 := by obtain ⟨_, _, _, _, h1, h2, _⟩ := hs; unfold maxLen at h2; omega
  have HS := Lib.hid hs
  have HK := Lib.hid hok
  clear hs hok
  by_cases h100 : 100 < l.length
  · have d1 : decide ((100 : Int) < (l.length : Int)) = true := by simp; omega
    go_enter Try.func16, Try.ntmps16
    go_wp2_with fail
    go_ret
    exact SmR.no (Only.refl _ _)
  have d1 : decide ((100 : Int) < (l.length : Int)) = false := by simp; omega
  go_enter Try.func16, Try.ntmps16
  go_wp2_with fail
  go_loopw [3] (fun i wr => ∃ k : Nat, k ≤ l.length ∧ i = .int .i64 k ∧ Hid (∀ a ∈ l.take k, SmA a) ∧ Hid (Only [] w wr)) (fun i _ => l.length - (intOf i).toNat)
  case atStart => exact ⟨0, by omega, rfl, Lib.hid (by simp), Lib.hid (Only.refl _ _)⟩
  case round =>
    obtain ⟨k, hk, rfl, hall, ho⟩ := hrel
    obtain ⟨wo, rfl⟩ : ∃ wo, wo = wr := ⟨_, rfl⟩
    by_cases hlt : k < l.length
    · have hlt' : decide ((k : Int) < (l.length : Int)) = true := by simp; omega
      have hlt2 : (k : Int) < (l.length : Int) := by omega
      obtain ⟨a, ha⟩ : ∃ a, l[k]? = some a := ⟨_, List.getElem?_eq_getElem hlt⟩
      have HA := Lib.hid ((HK.out a (List.mem_of_getElem? ha)).only ho.out)
      obtain ⟨b, o, c', hv, q0, q1, q2, q3, q4⟩ := acL_at (HS.out.only ho.out (Nat.le_refl _) (by simp)) ha
      obtain ⟨IA, ic, hiv⟩ := HA.out.its.shape
      have hil : a.its.length ≤ 9223372036854775807 := by obtain ⟨_, _, _, _, h1, h2, _⟩ := HA.out.its; unfold maxLen at h2; omega
      have hfl := HA.out.fd
      have hdl := HA.out.id
      unfold maxLen at hfl hdl
      have HAT := Lib.hid ha
      rw [hiv] at q4
      injection hv with e1 e2 e3
      subst e1; subst e3
      clear e2 ha
      by_cases h1 : 200 < a.fd.length
      · have f1 : decide ((200 : Int) < (a.fd.length : Int)) = true := by simp; omega
        go_wp2_with fail
        go_ret
        exact SmR.no ho.out
      have f1 : decide ((200 : Int) < (a.fd.length : Int)) = false := by simp; omega
      by_cases h2 : 500 < a.id.length
      · have f2 : decide ((500 : Int) < (a.id.length : Int)) = true := by simp; omega
        go_wp2_with fail
        go_ret
        exact SmR.no ho.out
      have f2 : decide ((500 : Int) < (a.id.length : Int)) = false := by simp; omega
      by_cases h3 : 60 < a.its.length
      · have f3 : decide ((60 : Int) < (a.its.length : Int)) = true := by simp; omega
        go_wp2_with fail
        go_ret
        exact SmR.no ho.out
      have f3 : decide ((60 : Int) < (a.its.length : Int)) = false := by simp; omega
      have HIV := Lib.hid hiv
      have HHS : Hid (SlAt wo w.heap.size (.slice (some ⟨b, o, none⟩) l.length c) 5 l.length (acL l)) := Lib.hid (HS.out.only ho.out (Nat.le_refl _) (by simp))
      clear q0 q1 hiv
      go_wp2_with fail
      go_loopw [4] (fun i wq => ∃ j : Nat, j ≤ a.its.length ∧ i = .int .i64 j ∧ Hid (∀ x ∈ a.its.take j, SmI x) ∧ Hid (Only [] wo wq)) (fun i _ => a.its.length - (intOf i).toNat)
      case atStart => exact ⟨0, by omega, rfl, Lib.hid (by simp), Lib.hid (Only.refl _ _)⟩
      case round =>
        obtain ⟨j, hj, rfl, hall2, hoq⟩ := hrel
        obtain ⟨wq, rfl⟩ : ∃ wq, wq = wr := ⟨_, rfl⟩
        obtain ⟨b2, o2, c2, hv2, _, _, _, _, s4⟩ := acL_at (HHS.out.only hoq.out ho.out.size (by simp)) HAT.out
        rw [HIV.out] at s4
        injection hv2 with g1 g2 g3
        injection g1 with g1
        injection g1 with g4 g5 g6
        subst g4; subst g5
        have hoo := Lib.hid (ho.out.tr hoq.out)
        by_cases hjl : j < a.its.length
        · have hj' : decide ((j : Int) < (a.its.length : Int)) = true := by simp; omega
          have hj2 : (j : Int) < (a.its.length : Int) := by omega
          obtain ⟨x, hx⟩ : ∃ x, a.its[j]? = some x := ⟨_, List.getElem?_eq_getElem hjl⟩
          obtain ⟨ib, io, ic', hv3, x0, x1, x2⟩ := itL_at (HA.out.only hoq.out).its hx
          rw [HIV.out] at hv3
          injection hv3 with k1 k2 k3
          subst k1; subst k3
          have hxl := HA.out.len x (List.mem_of_getElem? hx)
          have n0 := hxl.id
          have n1 := hxl.ti
          have n2 := hxl.li
          unfold maxLen at n0 n1 n2
          have HXT := Lib.hid hx
          clear hx k2 g3 g6 hxl q2 q3 q4
          obtain ⟨w2, hw2⟩ : ∃ w2, wq.alloc (.cells #[.string ⟨x.id.toArray⟩, .string ⟨x.ti.toArray⟩, .string ⟨x.li.toArray⟩] 36) = w2 := ⟨_, rfl⟩
          have hO2 : Only [] wq w2 := hw2 ▸ (Only.refl _ _).alloc _
          obtain ⟨z, hz⟩ : ∃ z, wq.heap.size = z := ⟨_, rfl⟩
          have hzc : Cells w2 z 36 x.cells := hw2 ▸ hz ▸ Cells.new wq _ _
          have z0 := hzc.cell (k := 0) rfl
          have z1 := hzc.cell (k := 1) rfl
          have z2 := hzc.cell (k := 2) rfl
          have HO2 := Lib.hid (hoq.out.tr hO2)
          have HOO := Lib.hid (hoo.out.tr hO2)
          clear hzc hO2
          by_cases m0 : 300 < x.id.length
          · have t0 : decide ((300 : Int) < (x.id.length : Int)) = true := by simp; omega
            go_wp2_with fail
            go_ret
            exact SmR.no HOO.out
          have t0 : decide ((300 : Int) < (x.id.length : Int)) = false := by simp; omega
          by_cases m1 : 300 < x.ti.length
          · have t1 : decide ((300 : Int) < (x.ti.length : Int)) = true := by simp; omega
            go_wp2_with fail
            go_ret
            exact SmR.no HOO.out
          have t1 : decide ((300 : Int) < (x.ti.length : Int)) = false := by simp; omega
          by_cases m2 : 300 < x.li.length
          · have t2 : decide ((300 : Int) < (x.li.length : Int)) = true := by simp; omega
            go_wp2_with fail
            go_ret
            exact SmR.no HOO.out
          have t2 : decide ((300 : Int) < (x.li.length : Int)) = false := by simp; omega
          have HX2 := Lib.hid (all_snoc HXT.out hall2.out ⟨by omega, by omega, by omega⟩)
          go_wp2_with fail
          go_roundw
          case rel => exact ⟨j + 1, by omega, by go_num, HX2, HO2⟩
          case measure => simp [intOf]; omega
        · have hj' : decide ((j : Int) < (a.its.length : Int)) = false := by simp; omega
          obtain rfl : j = a.its.length := by omega
          have HX2 := Lib.hid (all_snoc HAT.out hall.out ⟨by omega, by omega, by omega, by have := hall2.out; rwa [List.take_length] at this⟩)
          go_wp2_with fail
          go_roundw
          case rel => exact ⟨k + 1, by omega, by go_num, HX2, hoo⟩
          case measure => simp [intOf]; omega
    · have hlt' : decide ((k : Int) < (l.length : Int)) = false := by simp; omega
      obtain rfl : k = l.length := by omega
      have HF := Lib.hid (⟨by omega, by have := hall.out; rwa [List.take_length] at this⟩ : Sm17 l)
      go_wp2_with fail
      go_ret
      exact ⟨true, rfl, fun _ => HF.out, ho.out⟩
end Go.Proofs.Ytjfnkjpnjiobjaa
