/-
  Chapter 15: two tables beside one another: what turns one leaves the other.
-/
import Derived.Test.YtojhbhdlbbmghaaAlike15
import Derived.Test.YtojhbhdlbbmghaaPlain15c
import Derived.Test.YtojhbhdlbbmghaaShown15
namespace Go.Proofs.Ytojhbhdlbbmghaa
open Go.RowKit
theorem own_own_ne {w : World} {B B' : Nat} {e e' : TypeId} {sz sz' n n' : Nat} {v v' : Value} {xs xs' : List Value} (h : w.ownsRow B e sz v n xs) (h' : w.ownsRow B' e' sz' v' n' xs') (hne : e ≠ e') {g : Nat} (hg : v.ownBlock = some g) : v'.ownBlock ≠ some g := by
  intro hg'
  rcases h.2 with ⟨rfl, _⟩ | ⟨g1, cap, cur, rfl, _, hh, _⟩
  · simp [Value.ownBlock] at hg
  · rcases h'.2 with ⟨rfl, _⟩ | ⟨g2, cap2, cur2, rfl, _, hh2, _⟩
    · simp [Value.ownBlock] at hg'
    · simp only [Value.ownBlock, Option.some.injEq] at hg hg'
      subst hg; subst hg'
      rw [hh] at hh2
      injection hh2 with h1
      injection h1 with _ h2
      exact hne h2
theorem RtV.past {w w' : World} {B B' b b' : Nat} {v v' : Value} {l l' : List Ses} {ever ever' : Int} (h : RtV w B' b' v' l' ever') (ht : TbV w B b v l ever) (ho : Only (b :: rb v) w w') : RtV w' B' b' v' l' ever' := by
  obtain ⟨h1, h2, h3⟩ := h
  obtain ⟨t1, t2, t3⟩ := ht
  refine ⟨h1, h2.only ho fun hm => ?_, own_keep h3 ho fun x hx => ?_⟩
  · rcases List.mem_cons.1 hm with e | hm
    · exact (h2.ne t2 (by decide)) e
    · exact own_ne_block t3 h2 (by decide) (by simpa [rb] using hm)
  · rcases List.mem_cons.1 hx with rfl | hx
    · exact own_ne_block h3 t2 (by decide)
    · exact own_own_ne t3 h3 (by decide) (by simpa [rb] using hx)
theorem TbV.past {w w' : World} {B B' b b' : Nat} {v v' : Value} {l l' : List Ses} {ever ever' : Int} (ht : TbV w B b v l ever) (h : RtV w B' b' v' l' ever') (ho : Only [b'] w w') : TbV w' B b v l ever := by
  obtain ⟨h1, h2, h3⟩ := h
  obtain ⟨t1, t2, t3⟩ := ht
  refine ⟨t1, t2.only ho fun hm => ?_, own_keep t3 ho fun x hx => ?_⟩
  · rw [List.mem_singleton] at hm
    exact (t2.ne h2 (by decide)) hm
  · rw [List.mem_singleton] at hx
    subst hx
    exact own_ne_block t3 h2 (by decide)
theorem box4 {w : World} {b : Nat} {t : TypeId} {x y z u : Value} (h : Cells w b t [x, y, z, u]) : Hid (Cells w b t [x, y, z, u]) ∧ w.cell? ⟨b, 1, none⟩ = some y ∧ w.cell? ⟨b, 2, none⟩ = some z ∧ w.cell? ⟨b, 3, none⟩ = some u :=
  ⟨h, h.cell rfl, h.cell rfl, h.cell rfl⟩
end Go.Proofs.Ytojhbhdlbbmghaa
