/-
  Chapter 8: the examples.
-/
import Derived.Test.YtagklgodcbmcaaaR8p
namespace Go.Proofs.Ytagklgodcbmcaaa
open Go.RowKit
def e0 : ByteArray := ⟨#[]⟩
def x1 : En := ⟨1, 1, 1, e0⟩
def x2 : En := ⟨2, 1, 1, e0⟩
def x3 : En := ⟨3, 2, 1, e0⟩
def x3b : En := ⟨3, 3, 1, e0⟩
def b0 : Bas := ⟨0, 0, [], e0⟩
def e123 : Value → Prop := fun _ => True
def gS : LG := ⟨b0, [x1, x2, x3]⟩
def gT : LG := ⟨b0, [x1, x2, x3b]⟩
def gU : LG := ⟨⟨2, 1, [], ⟨#[120]⟩⟩, [x3b]⟩
theorem cells_own {w : World} {b : Nat} {t : TypeId} {cs : List Value} {n sz : Nat} (h : Cells w b t cs) (hn : n ≤ maxLen) (hl : cs.length = n * sz) : w.ownsRow 0 t sz (.slice (some ⟨b, 0, none⟩) n n) n cs :=
  block_own (Nat.zero_le _) h (Nat.le_refl _) hn hl (by rw [List.take_of_length_le (by omega)])
set_option maxRecDepth 100000 in
set_option maxHeartbeats 4000000 in
theorem shown8 (w : World) : Calls Try.prog 15 #[] w fun e w' => e = .returned (.bool true) ∧ Only [] w w' := by
  go_enter Try.func15, Try.ntmps15
  go_wp2_with fail
  have hC := Cells.new w 40 (enL [x1, x2, x3])
  have hoA : Only [] w _ := (Only.refl _ w).alloc (.cells (enL [x1, x2, x3]).toArray 40)
  have HC := Lib.hid hC
  have HA := Lib.hid hoA
  clear hC hoA
  refine (la_new w _ HA.out b0 (.slice none 0 0) _ [x1, x2, x3] (SlAt.of_own (World.ownsRow_nil _ 0 3 1)) (cells_own HC.out (by decide) rfl) (by decide) (by decide) (by decide) (by intro x hx; simp at hx; rcases hx with rfl | rfl | rfl <;> decide) gS rfl).mono ?_
  rintro e w1 ⟨b, K, rfl, h1, o1, k1⟩
  go_wp2_with fail
  refine (la_term h1 3 2 true rfl).mono ?_
  rintro e w2 ⟨rfl, h2, o2⟩
  go_wp2_with fail
  refine (la_slice h2 2 5 [x2, x3] rfl).mono ?_
  rintro e w3 ⟨A, c, rfl, r3, h3, o3⟩
  go_wp2_with fail
  refine (la_last h3).mono ?_
  rintro e w4 ⟨rfl, h4, o4⟩
  rw [show gS.last = 3 from rfl]
  go_wp2_with fail
  have hS4 := (SlAt.of_own r3.out).only o4.out (Nat.le_refl _) (by simp)
  have hL4 : SlAt w4 w4.heap.size (.slice (some ⟨w.heap.size, 4, none⟩) 2 2) 4 2 (enL [x2, x3]) := by
    have hc4 : Cells w4 w.heap.size 40 (enL [x1, x2, x3]) := (((HC.out.only o1.out (by simp)).only o2.out (by simp)).only o3.out (by simp)).only o4.out (by simp)
    have := (SlAt.of_own (cells_own (n := 3) (sz := 4) hc4 (by decide) rfl)).piece (ys := enL [x2, x3]) 1 2 2 (by omega) (by omega) (by decide) rfl
    simpa using this
  refine (same8 _ _ [x2, x3] [x2, x3] w4 (hS4.more o4.out.size) hL4 (by decide) (by decide)).mono ?_
  rintro e w5 ⟨rfl, o5⟩
  have h5 : Hid (LogAt w w5 K b gS) := Lib.hid (h4.out.to o5)
  clear hS4 hL4 HC HA o5
  rw [show decide ([x2, x3] = [x2, x3]) = true from rfl]
  go_wp2_with fail
  refine (la_newer h5 2 2 false rfl).mono ?_
  rintro e w6 ⟨rfl, h6, o6⟩
  go_wp2_with fail
  refine (la_newer h6 9 1 false rfl).mono ?_
  rintro e w7 ⟨rfl, h7, o7⟩
  go_wp2_with fail
  refine (la_newer h7 3 2 true rfl).mono ?_
  rintro e w8 ⟨rfl, h8, o8⟩
  go_wp2_with fail
  have hnil : ∀ w K, EnR w K (.slice none 0 0) [] := fun w K => ⟨World.ownsRow_nil _ _ _ _, fun q hq => by simp [Value.ownBlock] at hq⟩
  have HNIL := Lib.hid hnil
  clear hnil
  refine (la_match h8 3 2 0 _ [] (HNIL.out _ _) (by decide) (by decide) (by decide) (by decide) (by intro x hx; cases hx) ⟨gS, 3, 0, true⟩ rfl).mono ?_
  rintro e w9 ⟨rfl, K9, h9, g9⟩
  go_wp2_with fail
  refine (la_match h9 4 2 0 _ [] (HNIL.out _ _) (by decide) (by decide) (by decide) (by decide) (by intro x hx; cases hx) ⟨gS, 3, 0, false⟩ rfl).mono ?_
  rintro e w10 ⟨rfl, K10, h10, g10⟩
  go_wp2_with fail
  refine (la_match h10 2 2 0 _ [] (HNIL.out _ _) (by decide) (by decide) (by decide) (by decide) (by intro x hx; cases hx) ⟨gS, 1, 0, false⟩ rfl).mono ?_
  rintro e w11 ⟨rfl, K11, h11, g11⟩
  go_wp2_with fail
  have hY := Cells.new w11 40 (enL [⟨0, 3, 1, e0⟩])
  have hoY : Only [] w11 (w11.alloc (.cells (enL [⟨0, 3, 1, e0⟩]).toArray 40)) := (Only.refl _ w11).alloc _
  have h11' := Lib.hid (h11.out.to hoY)
  have hER : EnR (w11.alloc (.cells (enL [⟨0, 3, 1, e0⟩]).toArray 40)) K11 (.slice (some ⟨w11.heap.size, 0, none⟩) 1 1) [⟨0, 3, 1, e0⟩] :=
    ⟨cells_own hY (by decide) rfl, fun q hq hm => by simp [Value.ownBlock] at hq; have := h11.out.k.below q hm; omega⟩
  refine (la_match h11' 2 1 0 _ [⟨0, 3, 1, e0⟩] hER (by decide) (by decide) (by decide) (by decide) (by intro x hx; simp at hx; subst hx; decide) ⟨gT, 3, 3, true⟩ rfl).mono ?_
  clear hY hoY hER
  rintro e w12 ⟨rfl, K12, h12, g12⟩
  go_wp2_with fail
  refine (la_compact h12 2 ⟨#[120]⟩ gU true rfl).mono ?_
  rintro e w13 ⟨rfl, K13, h13, g13⟩
  unfold cErr
  go_wp2_with fail
  refine (la_base h13 ⟨2, 1, [], ⟨#[120]⟩⟩ rfl).mono ?_
  rintro e w14 ⟨A2, c2, rfl, r14, h14, o14⟩
  go_wp2_with fail
  have o14' : Hid (Only [] w14 (w14.alloc (.cells #[.int .i64 2, .int .i64 1, .slice A2 0 c2, .string ⟨#[120]⟩] 27))) := Lib.hid ((Only.refl _ _).alloc _)
  have hB := Lib.hid (Cells.new w14 27 [.int .i64 2, .int .i64 1, .slice A2 0 c2, .string ⟨#[120]⟩])
  have h14' := Lib.hid (h14.out.to o14'.out)
  refine (la_term h14' 1 0 false rfl).mono ?_
  rintro e w15 ⟨rfl, h15, o15⟩
  have hB15 := hB.out.only o15.out (by simp)
  have q0 := hB15.cell (k := 0) rfl
  have q1 := hB15.cell (k := 1) rfl
  clear hB15
  go_wp2_with fail
  refine (la_slice h15 1 9 [] rfl).mono ?_
  rintro e w16 ⟨A3, c3, rfl, r16, h16, o16⟩
  go_wp2_with fail
  go_ret
  exact ⟨rfl, h16.out.only⟩
end Go.Proofs.Ytagklgodcbmcaaa
