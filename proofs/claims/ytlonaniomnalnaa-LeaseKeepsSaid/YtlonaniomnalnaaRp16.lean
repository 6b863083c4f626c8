/-
  Chapter 16: the table's bytes: what the document's Pack writes.
-/
import Derived.Test.YtlonaniomnalnaaRh16
namespace Go.Proofs.Ytlonaniomnalnaa
open Go.RowKit
/-- All numbers fit 64 bits. -/
structure Tb.Fit (t : Tb) : Prop where
  now : Wide64 t.now
  node : ∀ x ∈ t.l, Wide64 x.node
  epoch : ∀ x ∈ t.l, Wide64 x.epoch
  till : ∀ x ∈ t.l, Wide64 x.till
def Ls.bytes (x : Ls) : List UInt8 := ib x.node ++ ib x.epoch ++ ib x.till
def lsB (l : List Ls) : List UInt8 := l.flatMap Ls.bytes
def Tb.bytes (t : Tb) : List UInt8 := ib t.now ++ lsB t.l
theorem lsB_snoc (l : List Ls) (k : Nat) (x : Ls) (h : l[k]? = some x) : lsB (l.take (k + 1)) = lsB (l.take k) ++ x.bytes := by
  unfold lsB
  rw [List.take_add_one, h, List.flatMap_append]; simp
theorem Ls.bytes_length {x : Ls} (h0 : Wide64 x.node) (h1 : Wide64 x.epoch) (h2 : Wide64 x.till) : x.bytes.length ≤ 30 := by
  have a := (ib_length _ h0).2
  have b := (ib_length _ h1).2
  have c := (ib_length _ h2).2
  unfold Ls.bytes
  rw [List.length_append, List.length_append]; omega
theorem lsB_length {l : List Ls} (h0 : ∀ x ∈ l, Wide64 x.node) (h1 : ∀ x ∈ l, Wide64 x.epoch) (h2 : ∀ x ∈ l, Wide64 x.till) : (lsB l).length ≤ 30 * l.length := by
  induction l with
  | nil => simp [lsB]
  | cons x l ih =>
    have a := Ls.bytes_length (h0 x (by simp)) (h1 x (by simp)) (h2 x (by simp))
    have b := ih (fun y hy => h0 y (by simp [hy])) (fun y hy => h1 y (by simp [hy])) (fun y hy => h2 y (by simp [hy]))
    unfold lsB at b ⊢
    rw [List.flatMap_cons, List.length_append, List.length_cons]; omega
set_option maxRecDepth 100000 in
set_option maxHeartbeats 1000000 in
theorem rf_pack (B b : Nat) (v : Value) (t : Tb) (w : World) (h : RfV w B b v t) (hf : t.Fit) :
    Calls Try.prog 54 #[.pointer (some ⟨b, 0, none⟩)] w fun e w' => e = .returned (.string ⟨t.bytes.toArray⟩) ∧ Only [] w w' := by
  have HR := Lib.hid h
  have HF := Lib.hid hf
  have hlen := h.len
  obtain ⟨g, cap, rfl, hB, hlt, hgb, hc⟩ := h.form
  have HC := Lib.hid hc
  have c0 := h.cells.cell (k := 0) rfl
  have CN : Hid (∀ w, Calls Try.prog 61 #[.int .i64 t.now] w fun e w' => e = .returned (.string ⟨(ib t.now).toArray⟩) ∧ Only [] w w') := fun w => ref_int _ w hf.now
  have l1 := (ib_length _ hf.now).2
  clear h hc hf
  go_enter Try.func54, Try.ntmps54
  go_wp2_with (go_at_call 61; refine (CN.out _).mono ?_; rintro e w1 ⟨rfl, ho1⟩)
  clear c0
  go_loopw [3, 4] (fun s i wr => ∃ k : Nat, k ≤ 8 ∧ i = .int .i64 k ∧ s = .string ⟨(ib t.now ++ lsB (t.l.take k)).toArray⟩ ∧ Only [] w wr) (fun _ i _ => 8 - (intOf i).toNat)
  case atStart => exact ⟨0, by omega, rfl, by simp [lsB], ho1⟩
  case round =>
    obtain ⟨k, hk, rfl, rfl, ho⟩ := hrel
    by_cases hk8 : k < 8
    · have hk8' : (k : Int) < 8 := by omega
      have hk1 := List.getElem?_eq_getElem (l := t.l) (i := k) (by omega)
      obtain ⟨x, hx⟩ : ∃ x, t.l[k]'(by omega) = x := ⟨_, rfl⟩
      rw [hx] at hk1
      have hm := List.mem_of_getElem? hk1
      have w1 := HF.out.node x hm
      have w2 := HF.out.epoch x hm
      have w3 := HF.out.till x hm
      have hxl := Ls.bytes_length w1 w2 w3
      obtain ⟨q0, q1, q2⟩ := HC.out k x hk1
      have u0 : ∀ u : Since wr, u.w.cell? ⟨g, k * 3, none⟩ = some (.int .i64 x.node) := fun u => (Since.mk u.w (ho.tr0 u.h)).cell q0
      have u1 : ∀ u : Since wr, u.w.cell? ⟨g, k * 3 + 1, none⟩ = some (.int .i64 x.epoch) := fun u => (Since.mk u.w (ho.tr0 u.h)).cell q1
      have u2 : ∀ u : Since wr, u.w.cell? ⟨g, k * 3 + 2, none⟩ = some (.int .i64 x.till) := fun u => (Since.mk u.w (ho.tr0 u.h)).cell q2
      have u3 : ∀ u : Since wr, u.w.cell? ⟨b, 1, none⟩ = some (.slice (some ⟨g, 0, none⟩) 8 cap) := fun u => (Since.mk u.w (ho.tr0 u.h)).cell (HR.out.cells.cell (k := 1) rfl)
      have hLl := lsB_length (l := t.l.take k) (fun s hs => HF.out.node s (List.mem_of_mem_take hs)) (fun s hs => HF.out.epoch s (List.mem_of_mem_take hs)) (fun s hs => HF.out.till s (List.mem_of_mem_take hs))
      have hLk : (t.l.take k).length ≤ 8 := by rw [List.length_take]; omega
      obtain ⟨L, hL⟩ : ∃ L, ib t.now ++ lsB (t.l.take k) = L := ⟨_, rfl⟩
      have hLL : L.length ≤ 2000000 := by rw [← hL, List.length_append]; omega
      have hSL : ib t.now ++ lsB (t.l.take (k + 1)) = L ++ ib x.node ++ ib x.epoch ++ ib x.till := by rw [lsB_snoc t.l k x hk1, ← List.append_assoc, hL]; simp [Ls.bytes]
      have HSL := Lib.hid hSL
      have l2 := (ib_length _ w1).2
      have l3 := (ib_length _ w2).2
      have l4 := (ib_length _ w3).2
      rw [hL]
      clear hx hk1 hm hL hSL hLl hLk hxl q0 q1 q2
      go_wp2_with fail
      refine wp_region_only wr (Only.refl _ _) (by kernel_rfl) (by kernel_rfl) ?_
      repeat (go_big_quiet_step ((go_at_call 61; refine Calls.only (ref_int _ _ (by assumption)))))
      refine wpQuiet_nil ?_
      rintro ⟨w8, ho8⟩
      dsimp only
      clear u0 u1 u2 u3
      go_wp2_with fail
      go_roundw
      case rel => exact ⟨k + 1, by omega, by go_num, by rw [HSL.out]; simp [ba_append], ho.tr0 ho8⟩
      case measure => simp [intOf]; omega
    · have hd0 : decide ((8 : Int) < 8) = false := by simp
      obtain rfl : k = 8 := by omega
      go_wp2_with fail
      go_ret
      exact ⟨by rw [List.take_of_length_le (by omega)]; rfl, ho⟩
end Go.Proofs.Ytlonaniomnalnaa
