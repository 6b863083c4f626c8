/-
  Contracts; each theorem bears its own conditions.
-/
import Derived.Test.YtcjfmildalappaaGreatK24ab
import Derived.Test.YtcjfmildalappaaGreatK24ap
set_option linter.all false
set_option maxRecDepth 100000
set_option maxHeartbeats 8000000
namespace Go.Proofs.YtcjfmildalappaaGreat
open Go.RowKit
section
variable {α : Type} (key : α → List UInt8)
end
structure RfS (w : World) (v : Value) (sz n : Nat) (xs : List Value) : Prop where
 sl : SlAt w w.heap.size v sz n xs
 nil : ∀ n c, v = .slice none n c → n = 0 ∧ c = 0
 one : ∀ u ∈ xs, u.oneCell' = true
theorem slat_keep {S : List Nat} {w w' : World} {B sz n : Nat} {v : Value} {xs : List Value} (h : SlAt w B v sz n xs) (hB : B ≤ w.heap.size) (ho : Only S w w') (hS : ∀ x, x ∈ S → v.ownBlock ≠ some x) : SlAt w' w'.heap.size v sz n xs := by
 obtain ⟨hl, A, c, hv, hnc, hc, h⟩ := h
 refine ⟨hl, A, c, hv, hnc, hc, fun hn => ?_⟩
 obtain ⟨b, o, hA, hb, hh⟩ := h hn
 subst hv
 subst hA
 exact ⟨b, o, rfl, Nat.lt_of_lt_of_le hb (Nat.le_trans hB ho.size), fun j u hu => (ho.cell (p := ⟨b, o + j, none⟩) (show b < _ by omega) (fun hm => hS b hm rfl)).trans (hh j u hu)⟩
theorem RfS.keep {S : List Nat} {w w' : World} {sz n : Nat} {v : Value} {xs : List Value} (h : RfS w v sz n xs) (ho : Only S w w') (hS : ∀ x, x ∈ S → v.ownBlock ≠ some x) : RfS w' v sz n xs :=
 ⟨slat_keep h.sl (Nat.le_refl _) ho hS, h.nil, h.one⟩
theorem RfS.only {w w' : World} {sz n : Nat} {v : Value} {xs : List Value} (h : RfS w v sz n xs) (ho : Only [] w w') : RfS w' v sz n xs := h.keep ho (by simp)
theorem RfS.shape {w : World} {sz n : Nat} {v : Value} {xs : List Value} (h : RfS w v sz n xs) : ∃ A c, v = .slice A n c ∧ n ≤ c ∧ c ≤ maxLen := by
 obtain ⟨_, A, c, hv, h1, h2, _⟩ := h.sl
 exact ⟨A, c, hv, h1, h2⟩
theorem RfS.of_own {w : World} {base : Nat} {e : TypeId} {sz n : Nat} {v : Value} {xs : List Value} (h : w.ownsRow base e sz v n xs) (h1 : ∀ u ∈ xs, u.oneCell' = true) : RfS w v sz n xs :=
 ⟨SlAt.of_own h, fun m c hv => by
  rcases h.2 with ⟨h2, _⟩ | ⟨g, cap, cur, h2, _⟩
  · rw [h2] at hv; injection hv with _ e1 e2; exact ⟨e1.symm, e2.symm⟩
  · rw [h2] at hv; injection hv with e1; (cases e1), h1⟩
theorem RfS.src {w : World} {sz n : Nat} {v : Value} {xs : List Value} (h : RfS w v sz n xs) (hsz : 0 < sz) : SrcA w v sz n xs := by
 refine ⟨h.sl.1, h.one, ?_⟩
 obtain ⟨A, c, hv, _, _⟩ := h.shape
 cases A with
 | none => obtain ⟨h1, h2⟩ := h.nil n c hv; exact .inl ⟨by rw [hv, h1, h2], h1⟩
 | some ad =>
  refine .inr ⟨ad, c, hv, fun j u hu => ?_⟩
  have hj := (List.getElem?_eq_some_iff.1 hu).1
  obtain ⟨b, o, c', hv', _, hc⟩ := h.sl.at_ (by have := h.sl.1; omega)
  rw [hv] at hv'
  injection hv' with e1
  injection e1 with e1
  subst e1
  rw [Addr.add_lit]
  exact hc j u hu
theorem RfS.drop {w : World} {sz n c j : Nat} {A : Option Addr} {xs : List Value} (h : RfS w (.slice A n c) sz n xs) (hj : j ≤ n) : RfS w (.slice (if c = j then A else Option.map (fun x => x.add (j * sz)) A) (n - j) (c - j)) sz (n - j) (xs.drop (j * sz)) := by
 obtain ⟨hl, A', c', hv, hnc, hcm, hh⟩ := h.sl
 injection hv with e1 _ e3
 subst e1
 subst e3
 refine ⟨⟨by rw [List.length_drop, hl, Nat.sub_mul], _, _, rfl, by omega, by omega, fun hp => ?_⟩, ?_, fun u hu => h.one u (List.mem_of_mem_drop hu)⟩
 · have hjn : j < n := by
    rcases Nat.lt_or_ge j n with h | h
    · exact h
    · rw [Nat.sub_eq_zero_of_le h] at hp; omega
   obtain ⟨b, o, hb, hlt, hc⟩ := hh (Nat.lt_of_lt_of_le hp (Nat.mul_le_mul_right _ (Nat.sub_le _ _)))
   subst hb
   refine ⟨b, o + j * sz, by rw [if_neg (by omega)]; simp [Addr.add_lit], hlt, fun i u hu => ?_⟩
   rw [List.getElem?_drop] at hu
   rw [Nat.add_assoc]
   exact hc _ u hu
 · intro m k hv
   injection hv with e1 e2 e3
   cases A with
   | none =>
    obtain ⟨h1, h2⟩ := h.nil n c rfl
    exact ⟨by rw [← e2, h1]; simp, by rw [← e3, h2]; simp⟩
   | some a => split at e1 <;> simp at e1
theorem RfS.take {w : World} {sz n c m : Nat} {A : Option Addr} {xs : List Value} (h : RfS w (.slice A n c) sz n xs) (hm : m ≤ n) : RfS w (.slice A m c) sz m (xs.take (m * sz)) := by
 obtain ⟨hl, A', c', hv, hnc, hcm, hh⟩ := h.sl
 injection hv with e1 _ e3
 subst e1
 subst e3
 have hms : m * sz ≤ n * sz := Nat.mul_le_mul_right _ hm
 refine ⟨⟨by rw [List.length_take, hl]; omega, _, _, rfl, by omega, hcm, fun hp => ?_⟩, ?_, fun u hu => h.one u (List.mem_of_mem_take hu)⟩
 · obtain ⟨b, o, hb, hlt, hc⟩ := hh (by omega)
   refine ⟨b, o, hb, hlt, fun i u hu => ?_⟩
   have hi : i < m * sz := by have := (List.getElem?_eq_some_iff.1 hu).1; rw [List.length_take] at this; omega
   rw [List.getElem?_take_of_lt hi] at hu
   exact hc i u hu
 · intro k q hv
   injection hv with e1 e2 e3
   subst e1
   obtain ⟨h1, h2⟩ := h.nil n c rfl
   omega
end Go.Proofs.YtcjfmildalappaaGreat
