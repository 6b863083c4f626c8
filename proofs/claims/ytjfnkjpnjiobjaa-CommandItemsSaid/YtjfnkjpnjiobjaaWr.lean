/-
  WriteString keeps whatever block is known whole and is neither the builder's nor one of bytes.
-/
import Derived.Test.YtjfnkjpnjiobjaaTx
import Derived.Test.YtjfnkjpnjiobjaaQTail
namespace Go.Proofs.Ytjfnkjpnjiobjaa
open Go.RowKit
def Keeps (b : Nat) (w w' : World) : Prop := ∀ (k : Nat) (t : TypeId) (cs : List Value), k ≠ b → t ≠ 5 → Cells w k t cs → Cells w' k t cs
theorem Keeps.refl (b : Nat) (w : World) : Keeps b w w := fun _ _ _ _ _ h => h
theorem Keeps.trans {b : Nat} {w w' w2 : World} (h : Keeps b w w') (k : Keeps b w' w2) : Keeps b w w2 := fun i t cs hi ht hC => k i t cs hi ht (h i t cs hi ht hC)
theorem Keeps.set {b : Nat} {w w' : World} (h : Keeps b w w') (i : Nat) (u : Value) : Keeps b w (w'.setCell ⟨b, i, none⟩ u) := fun k t cs hk ht hC => (h k t cs hk ht hC).far hk u
theorem holds_builder : Holds 108 := ⟨by kernel_rfl, by decide⟩
theorem SlAt.cells {w : World} {b n sz : Nat} {t : TypeId} {cs : List Value} (hC : Cells w b t cs) (hl : cs.length = n * sz) (hn : n ≤ maxLen) : SlAt w w.heap.size (.slice (some ⟨b, 0, none⟩) n n) sz n cs :=
  ⟨hl, _, _, rfl, Nat.le_refl _, hn, fun _ => ⟨b, 0, rfl, hC.lt, fun j u hu => by rw [Nat.zero_add]; exact hC.cell hu⟩⟩
theorem Cells.new' {w : World} {b : Nat} (h : w.heap.size = b) (t : TypeId) (cs : List Value) : Cells (w.alloc (.cells cs.toArray t)) b t cs := by subst h; exact Cells.new w t cs
theorem Bld.only {T : TypeId} {B b : Nat} {p : Value} {l : List UInt8} {w w' : World} (h : Bld T B b p l w) (ho : Only [] w w') : Bld T B b p l w' := by
  obtain ⟨hB, v, hc, hown, hn⟩ := h
  exact ⟨hB, v, hc.only ho (by simp), own_only hown ho (by simp), hn⟩
theorem IsBld.only {T : TypeId} {B b : Nat} {l : List UInt8} {w w' : World} (h : IsBld T B b l w) (ho : Only [] w w') : IsBld T B b l w' := h.imp (fun h => h.only ho) (fun h => h.only ho)
theorem Only.past_below {z : Nat} {a w w' : World} (h : Only [] a w) (hz : a.heap.size = z) (k : Below z w w') : Only [] a w' := by subst hz; exact Only.of_below (h.below.trans k)
theorem ba_list (s : ByteArray) : (⟨s.data.toList.toArray⟩ : ByteArray) = s := by cases s; simp
theorem copyCheck_k (T : TypeId) (hT : Holds T) (B b : Nat) (l : List UInt8) (w : World) (h : IsBld T B b l w) :
    Calls Try.prog 125 #[.pointer (some ⟨b, 0, none⟩)] w fun e w' => e = .returned (.tuple #[]) ∧ Bld T B b (.pointer (some ⟨b, 0, none⟩)) l w' ∧ Below B w w' ∧ w.heap.size = w'.heap.size ∧ Keeps b w w' := by
  rcases h with ⟨hB, v, hc, hown, hnil⟩ | ⟨hB, v, hc, hown, hnil⟩
  · refine (copyCheck_fresh T hT b w (hc.cell rfl) ?_ (hc.frozen 0)).mono ?_
    · unfold Cells at hc; simp [World.shape?, hc]
    · rintro e w' ⟨rfl, rfl⟩
      refine ⟨rfl, ⟨hB, v, hc.set 0 _, ?_, hnil⟩, (Below.refl B w).setCell (p := ⟨b, 0, none⟩) hB _, by simp [World.setCell], (Keeps.refl b w).set 0 _⟩
      exact ownsRow_setCell_other hown (own_ne_block hown hc hT.ne) _
  · refine (copyCheck_used b w (hc.cell rfl)).mono ?_
    rintro e w' ⟨rfl, rfl⟩
    exact ⟨rfl, ⟨hB, v, hc, hown, hnil⟩, Below.refl B w, rfl, Keeps.refl b w⟩

set_option maxHeartbeats 1000000 in
set_option maxRecDepth 100000 in
theorem writeString_k (T : TypeId) (hT : Holds T) (B b : Nat) (l s : List UInt8) (w : World) (h : IsBld T B b l w) (hlen : l.length + s.length ≤ 140737488355328) (hBw : B ≤ w.heap.size) :
    Calls Try.prog 98 #[.pointer (some ⟨b, 0, none⟩), .string ⟨s.toArray⟩] w fun e w' => e = .returned (.tuple #[.int .i64 s.length, .nilIface]) ∧ Bld T B b (.pointer (some ⟨b, 0, none⟩)) (l ++ s) w' ∧ Below B w w' ∧ Keeps b w w' := by
  obtain ⟨i0, hi, hz0, hz1, hz2⟩ := info_parts info_byte
  have HC := Lib.hid (copyCheck_k T hT B b l w h)
  have hbl := bytes_length l
  have HBL := Lib.hid hbl
  clear h hbl
  go_enter Try.func98, Try.ntmps98
  go_wp2_with fail
  refine HC.out.mono ?_
  rintro e w1 ⟨rfl, ⟨hB, v, hc, hown, hnil⟩, hb1, hsz, hk1⟩
  have HK1 := Lib.hid hk1
  clear hk1
  have hsz1 : B ≤ w1.heap.size := Nat.le_trans hBw hb1.size
  have c1 := hc.cell (k := 1) rfl
  have hlt := hc.lt
  have H := Lib.hid hc
  have hne := own_ne_block hown hc hT.ne
  clear hc hsz
  go_wp2_with (at_builtin; refine Lib.wpList_append_own_string w1 rfl _ _ 106 9 rfl B 5 i0 Try.underlying106 Try.underlying9 hi hz0 hz1 hz2 v l.length (bytes l) rfl hown ⟨s.toArray⟩ rfl (by rw [str_size]; unfold maxLen; omega) (by rw [str_size]; omega) hsz1 ?_)
  rw [strCells_bytes]
  intro v' w2 hown' hgrow hnil'
  obtain ⟨A', cap', hv⟩ : ∃ A cap, v' = .slice A (l.length + s.length) cap := by
    rcases hown'.2 with ⟨hv, h0⟩ | ⟨g, cap, cur, hv, _⟩
    · exact ⟨none, 0, by rw [hv, h0]⟩
    · exact ⟨_, cap, hv⟩
  subst hv
  have hc2 := H.out.grown hgrow hne
  have HK2 : Hid (Keeps b w w2) := HK1.out.trans fun k t cs hk ht hC => hC.grown hgrow (own_ne_block hown hC ht.symm)
  have d1 := hc2.cell (k := 1) rfl
  have f1 := hc2.frozen 1
  have hlt2 := hc2.lt
  have H2 := Lib.hid hc2
  clear hc2
  go_wp2
  go_ret2
  refine ⟨rfl, ⟨hB, _, H2.out.set 1 _, ?_, fun h => hnil'.2 ?_⟩, (hb1.grown hgrow hsz1 (fun k hk => (hown.lt k hk).1)).setCell (p := ⟨b, 1, none⟩) hB _, HK2.out.set 1 _⟩
  · have := ownsRow_setCell_other hown' (a := ⟨b, 1, none⟩) (own_ne_block hown' H2.out hT.ne) (.slice A' (l.length + s.length) cap')
    rw [List.length_append, bytes_append]
    exact this
  · obtain ⟨rfl, rfl⟩ := List.append_eq_nil_iff.1 h
    exact ⟨hnil rfl, rfl⟩

end Go.Proofs.Ytjfnkjpnjiobjaa
