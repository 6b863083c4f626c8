/-
  strings.Builder, alone or embedded at the head of a struct of its own: what its writers and String do.
-/
import Derived.Test.YtjfnkjpnjiobjaaRows
import Derived.Test.YtjfnkjpnjiobjaaBase
import Derived.Shelf.Strings.Builder1
namespace Go.Proofs.Ytjfnkjpnjiobjaa
open Go.RowKit

def bytes (l : List UInt8) : List Value := l.map fun c => Value.int .u8 c.toNat
theorem bytes_length (l : List UInt8) : (bytes l).length = l.length := by simp [bytes]
theorem bytes_append (l m : List UInt8) : bytes (l ++ m) = bytes l ++ bytes m := by simp [bytes]
theorem info_byte : (Try.prog.info? 5).map (fun i => (i.zero, i.size, i.bytes)) = some (some (.int .u8 0), 1, 1) := by kernel_rfl
theorem size_builder : (Try.prog.info? 108).map (·.size) = some 2 := by kernel_rfl

/-- A builder in block b of type T, holding the bytes l; 'p': what its first cell holds. -/
def Bld (T : TypeId) (B b : Nat) (p : Value) (l : List UInt8) (w : World) : Prop :=
  B ≤ b ∧ ∃ v, Cells w b T [p, v] ∧ w.ownsRow B 5 1 v l.length (bytes l) ∧ (l = [] → v = .slice none 0 0)
def IsBld (T : TypeId) (B b : Nat) (l : List UInt8) (w : World) : Prop := Bld T B b (.pointer none) l w ∨ Bld T B b (.pointer (some ⟨b, 0, none⟩)) l w
/-- What a type must be to hold a builder at its head. -/
structure Holds (T : TypeId) : Prop where
  lies : liesAt Try.prog Try.prog.depth T (2 / Try.prog.cellsOf T) 0 108 1 = true
  ne : 5 ≠ T

set_option maxRecDepth 100000 in
theorem copyCheck_used (b : Nat) (w : World) (h0 : w.cell? ⟨b, 0, none⟩ = some (.pointer (some ⟨b, 0, none⟩))) :
    Calls Try.prog 125 #[.pointer (some ⟨b, 0, none⟩)] w fun e w' => e = .returned (.tuple #[]) ∧ w = w' := by
  obtain ⟨j, hj, _⟩ := Option.map_eq_some_iff.1 size_builder
  go_enter Try.func125, Try.ntmps125
  go_wp2
  rw [Lib.run_neq_ptr_same w _ Try.underlying105 hj]
  go_wp2
  go_end0
  exact ⟨rfl, rfl⟩

set_option maxHeartbeats 1000000 in
set_option maxRecDepth 100000 in
theorem copyCheck_fresh (T : TypeId) (hT : Holds T) (b : Nat) (w : World) (h0 : w.cell? ⟨b, 0, none⟩ = some (.pointer none)) (hsh : w.shape? b = some (T, 2)) (hfz : w.frozen? ⟨b, 0, none⟩ = false) :
    Calls Try.prog 125 #[.pointer (some ⟨b, 0, none⟩)] w fun e w' => e = .returned (.tuple #[]) ∧ w' = w.setCell ⟨b, 0, none⟩ (.pointer (some ⟨b, 0, none⟩)) := by
  obtain ⟨j, hj, hjs⟩ := Option.map_eq_some_iff.1 size_builder
  go_enter Try.func125, Try.ntmps125
  go_wp2
  rw [Lib.run_to_unsafe w ⟨b, 0, none⟩ Try.underlying105 Try.underlying186 hj (by rw [hjs]; decide) hsh (Nat.zero_lt_succ 1)]
  simp only [Result.andThen]
  rw [Oper.upon_value]
  go_wp2
  rw [run_callFunc_extern Try.func140 (by kernel_rfl) (by kernel_rfl) (by kernel_rfl) (e := Extern.AbiNoEscape.same) (by kernel_rfl)]
  rw [Lib.run_noEscape]
  simp only [Result.andThen]
  rw [Oper.upon_value]
  go_wp2
  rw [Lib.run_from_unsafe w ⟨b, 0, none⟩ Try.underlying186 Try.underlying105 hj hsh hT.lies]
  simp only [Result.andThen]
  rw [Oper.upon_value]
  go_wp2
  go_end0
  exact ⟨rfl, rfl⟩

theorem copyCheck (T : TypeId) (hT : Holds T) (B b : Nat) (l : List UInt8) (w : World) (h : IsBld T B b l w) :
    Calls Try.prog 125 #[.pointer (some ⟨b, 0, none⟩)] w fun e w' => e = .returned (.tuple #[]) ∧ Bld T B b (.pointer (some ⟨b, 0, none⟩)) l w' ∧ Below B w w' ∧ w.heap.size = w'.heap.size := by
  rcases h with ⟨hB, v, hc, hown, hnil⟩ | ⟨hB, v, hc, hown, hnil⟩
  · refine (copyCheck_fresh T hT b w (hc.cell rfl) ?_ (hc.frozen 0)).mono ?_
    · unfold Cells at hc; simp [World.shape?, hc]
    · rintro e w' ⟨rfl, rfl⟩
      refine ⟨rfl, ⟨hB, v, hc.set 0 _, ?_, hnil⟩, (Below.refl B w).setCell (p := ⟨b, 0, none⟩) hB _, by simp [World.setCell]⟩
      exact ownsRow_setCell_other hown (own_ne_block hown hc hT.ne) _
  · refine (copyCheck_used b w (hc.cell rfl)).mono ?_
    rintro e w' ⟨rfl, rfl⟩
    exact ⟨rfl, ⟨hB, v, hc, hown, hnil⟩, Below.refl B w, rfl⟩

set_option maxHeartbeats 1000000 in
set_option maxRecDepth 100000 in
theorem writeByte (T : TypeId) (hT : Holds T) (B b : Nat) (l : List UInt8) (c : UInt8) (w : World) (h : IsBld T B b l w) (hlen : l.length + 1 ≤ 140737488355328) (hBw : B ≤ w.heap.size) :
    Calls Try.prog 155 #[.pointer (some ⟨b, 0, none⟩), .int .u8 c.toNat] w fun e w' => e = .returned .nilIface ∧ Bld T B b (.pointer (some ⟨b, 0, none⟩)) (l ++ [c]) w' ∧ Below B w w' := by
  obtain ⟨i0, hi, hz0, hz1, hz2⟩ := info_parts info_byte
  have HC := Lib.hid (copyCheck T hT B b l w h)
  have hbl := bytes_length l
  have HBL := Lib.hid hbl
  clear h hbl
  go_enter Try.func155, Try.ntmps155
  go_wp2_with fail
  refine HC.out.mono ?_
  rintro e w1 ⟨rfl, ⟨hB, v, hc, hown, _⟩, hb1, hsz⟩
  have hsz1 : B ≤ w1.heap.size := Nat.le_trans hBw hb1.size
  have c1 := hc.cell (k := 1) rfl
  have hlt := hc.lt
  have H := Lib.hid hc
  have hne := own_ne_block hown hc hT.ne
  clear hc hsz
  go_wp2_with (at_builtin; refine wpList_app rfl _ _ 106 rfl B 5 i0 (.int .u8 0) 1 1 Try.underlying106 hi hz0 hz1 hz2 rfl (by decide) w1 v l.length (bytes l) rfl hown 1 1 [.int .u8 (c.toNat : Int)] rfl rfl (by simp [Value.oneCell']) (by unfold maxLen; omega) (by omega) hsz1 ?_)
  intro v' w2 hown' hgrow _
  obtain ⟨g, cap, hv⟩ : ∃ g cap, v' = .slice (some ⟨g, 0, none⟩) (l.length + 1) cap := by
    rcases hown'.2 with ⟨_, h0⟩ | ⟨g, cap, cur, hv, _⟩
    · omega
    · exact ⟨g, cap, hv⟩
  subst hv
  have hc2 := H.out.grown hgrow hne
  have d1 := hc2.cell (k := 1) rfl
  have f1 := hc2.frozen 1
  have hlt2 := hc2.lt
  have H2 := Lib.hid hc2
  clear hc2
  go_wp2
  go_ret
  refine ⟨rfl, ⟨hB, _, H2.out.set 1 _, ?_, fun h => by simp at h⟩, (hb1.grown hgrow hsz1 (fun k hk => (hown.lt k hk).1)).setCell (p := ⟨b, 1, none⟩) hB _⟩
  have := ownsRow_setCell_other hown' (a := ⟨b, 1, none⟩) (own_ne_block hown' H2.out hT.ne) (.slice (some ⟨g, 0, none⟩) (l.length + 1) cap)
  rw [List.length_append, bytes_append]
  exact this

set_option maxHeartbeats 2000000 in
set_option maxRecDepth 100000 in
theorem builder_string (T : TypeId) (B b : Nat) (p : Value) (l : List UInt8) (w : World) (h : Bld T B b p l w) (h0 : l ≠ []) :
    Calls Try.prog 68 #[.pointer (some ⟨b, 0, none⟩)] w fun e w' => e = .returned (.string ⟨l.toArray⟩) ∧ Below B w w' := by
  obtain ⟨hB, v, hc, hown, _⟩ := h
  have hl0 : l.length ≠ 0 := by simpa using h0
  obtain ⟨g, cap, cur, rfl, hbg, hg, hnc, hcm, hcs, htake⟩ : ∃ g cap cur, v = .slice (some ⟨g, 0, none⟩) l.length cap ∧ B ≤ g ∧ w.heap[g]? = some (.cells cur 5 (0, 0)) ∧ l.length ≤ cap ∧ cap ≤ maxLen ∧ cur.size = cap * 1 ∧ cur.toList.take (l.length * 1) = bytes l := by
    rcases hown.2 with ⟨_, hz⟩ | ⟨g, cap, cur, hv, r⟩
    · exact absurd hz hl0
    · exact ⟨g, cap, cur, hv, r⟩
  have c1 : w.drew.cell? ⟨b, 1, none⟩ = some (.slice (some ⟨g, 0, none⟩) l.length cap) := hc.drew.cell (k := 1) rfl
  have hSD : (Builtin.unsafeSliceData_ #[106] 145 #[.slice (some ⟨g, 0, none⟩) l.length cap]).run Try.prog w.drew = .ok (.pointer (some ⟨g, 0, none⟩)) w.drew :=
    Lib.run_unsafeSliceData_row _ _ _ _ _ _ (by omega)
  have hUS : (Builtin.unsafeString_ #[145, 3] 9 #[.pointer (some ⟨g, 0, none⟩), .int .i64 l.length]).run Try.prog w.drew = .ok (.string ⟨l.toArray⟩) (w.drew.freeze ⟨g, 0, none⟩ l.length) := by
    refine Lib.run_unsafeString_row w.drew 145 3 9 5 Try.underlying145 (by kernel_rfl) g cur.size (by have hg' : w.drew.heap[g]? = some (.cells cur 5 (0, 0)) := hg; simp [World.shape?, hg']) l h0 (by omega) (by unfold maxLen at hcm; omega) ?_
    intro j x hx
    have := hown.cells (g := g) rfl j (.int .u8 x.toNat) (by simp [bytes, hx])
    exact this
  clear hc hown htake hcs hnc hcm h0 hl0
  go_enter Try.func68, Try.ntmps68
  go_wp2
  go_region
  all_goals (go_wp2; go_ret; exact ⟨rfl, Lib.below_freeze (Below.drew (Below.refl B w)) (p := ⟨g, 0, none⟩) hbg _⟩)

set_option maxHeartbeats 2000000 in
set_option maxRecDepth 100000 in
theorem builder_string_nil (T : TypeId) (B b : Nat) (p : Value) (w : World) (h : Bld T B b p [] w) :
    Calls Try.prog 68 #[.pointer (some ⟨b, 0, none⟩)] w fun e w' => e = .returned (.string ⟨#[]⟩) ∧ Below B w w' := by
  obtain ⟨hB, v, hc, hown, hnil⟩ := h
  obtain rfl := hnil rfl
  have hUS : ∀ W : World, (Builtin.unsafeString_ #[145, 3] 9 #[.pointer none, .int .i64 0]).run Try.prog W = .ok (.string .empty) W := fun W => Lib.run_unsafeString_none W _ _ _ none
  have c1 : w.drew.cell? ⟨b, 1, none⟩ = some (.slice none 0 0) := hc.drew.cell (k := 1) rfl
  have hSD : (Builtin.unsafeSliceData_ #[106] 145 #[.slice none 0 0]).run Try.prog w.drew = .ok (.pointer none) w.drew := rfl
  clear hc hown hnil
  go_enter Try.func68, Try.ntmps68
  go_wp2
  go_region
  all_goals (go_wp2; go_ret; exact ⟨rfl, Below.drew (Below.refl B w)⟩)
/-- String, whatever the builder holds. -/
theorem builder_string_any (T : TypeId) (B b : Nat) (l : List UInt8) (w : World) (h : IsBld T B b l w) :
    Calls Try.prog 68 #[.pointer (some ⟨b, 0, none⟩)] w fun e w' => e = .returned (.string ⟨l.toArray⟩) ∧ Below B w w' := by
  by_cases h0 : l = []
  · subst h0
    rcases h with h | h
    · exact builder_string_nil T B b _ w h
    · exact builder_string_nil T B b _ w h
  · rcases h with h | h
    · exact builder_string T B b _ l w h h0
    · exact builder_string T B b _ l w h h0
/-- A builder that has just been laid. -/
theorem Bld.new (T : TypeId) (w : World) : Bld T w.heap.size w.heap.size (.pointer none) [] (w.alloc (.cells #[.pointer none, .slice none 0 0] T)) :=
  ⟨Nat.le_refl _, .slice none 0 0, Cells.new w T _, World.ownsRow_nil _ _ _ _, fun _ => rfl⟩
end Go.Proofs.Ytjfnkjpnjiobjaa
