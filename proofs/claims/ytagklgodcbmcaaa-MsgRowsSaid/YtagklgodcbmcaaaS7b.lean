/-
  Chapter 7: shown.
-/
import Derived.Test.YtagklgodcbmcaaaS7a
import Derived.Laws.IdiomStrings
namespace Go.Proofs.Ytagklgodcbmcaaa
open Go.RowKit
def Ms.one : Ms := ⟨1, 1, 2, 3, 0, 0, 0, false, [], ⟨0, 0, [], ⟨#[]⟩⟩, ⟨#[]⟩⟩
theorem ms_one_at (w : World) : MsAt w (.slice none 0 0) (.slice none 0 0) Ms.one :=
  ⟨SlAt.of_own (World.ownsRow_nil w 0 40 4), SlAt.of_own (World.ownsRow_nil w 0 3 1), by
    intro x hx
    simp only [Ms.one, List.mem_cons, List.not_mem_nil, or_false] at hx
    rcases hx with rfl | rfl | rfl | rfl | rfl | rfl | rfl | rfl | rfl <;> exact ⟨by omega, by omega⟩, fun x hx => (List.not_mem_nil hx).elim, fun x hx => (List.not_mem_nil hx).elim, by simp [Ms.one, maxLen, ByteArray.size], by simp [Ms.one, maxLen, ByteArray.size]⟩
theorem ms_one_right : Ms.one.Right := by
  refine ⟨fun x hx => (List.not_mem_nil hx).elim, by simp [Ms.one], by simp [Ms.one], by simp [Ms.one, Node], by simp [Ms.one, Node], fun j x h => by simp [Ms.one] at h, ?_, by simp [Ms.one, ByteArray.size], by simp [Ms.one, ByteArray.size]⟩
  intro x hx
  simp only [Ms.one, List.mem_cons, List.not_mem_nil, or_false] at hx
  unfold In40
  rcases hx with rfl | rfl | rfl | rfl | rfl | rfl <;> omega
theorem ms_zero_wrong : ¬ Ms.zero.Right := fun h => by have := h.kd.1; simp [Ms.zero] at this
theorem msb_one : msb Ms.one = [2, 2, 4, 6, 0, 0, 0, 0, 0, 0, 0, 0, 0, 0] := by decide +kernel
theorem vtx_13 : vtx [1, 3] = [4, 2, 6] := by decide +kernel
theorem msb_nil (m : Ms) (hR : m.Right) : msb m ≠ [] := fun h => by
  have h1 : (msb m).length = 0 := by rw [h]; rfl
  unfold msb msA at h1
  simp only [List.length_append] at h1
  have := (ib_length (m.es.length : Int) ⟨by omega, by have := hR.ln; omega⟩).1
  omega
set_option maxRecDepth 100000 in
theorem make10 (w : World) : (Instr.makeSlice 73 (.int .i64 10) (.int .i64 10)).run Try.prog w = .ok (.slice (some ⟨w.heap.size, 0, none⟩) 10 10) (w.alloc (.cells #[.int .u8 0, .int .u8 0, .int .u8 0, .int .u8 0, .int .u8 0, .int .u8 0, .int .u8 0, .int .u8 0, .int .u8 0, .int .u8 0] 5)) := by kernel_rfl
theorem conv10 (w : World) (b : Nat) (h : Cells w b 5 [.int .u8 0, .int .u8 0, .int .u8 0, .int .u8 0, .int .u8 0, .int .u8 0, .int .u8 0, .int .u8 0, .int .u8 0, .int .u8 0]) :
    (convert 73 9 (.slice (some ⟨b, 0, none⟩) 10 10)).run Try.prog w = .ok (.string ⟨#[0, 0, 0, 0, 0, 0, 0, 0, 0, 0]⟩) w := by
  refine run_convert_bytes_back (P := Try.prog) w 73 9 5 ⟨b, 0, none⟩ 10 [0, 0, 0, 0, 0, 0, 0, 0, 0, 0] Try.underlying73 Try.underlying5 Try.underlying9 (fun j hj => ?_)
  have hj10 : j < 10 := hj
  have hc := lit4 h j (.int .u8 0) (by
    have : j = 0 ∨ j = 1 ∨ j = 2 ∨ j = 3 ∨ j = 4 ∨ j = 5 ∨ j = 6 ∨ j = 7 ∨ j = 8 ∨ j = 9 := by omega
    rcases this with rfl | rfl | rfl | rfl | rfl | rfl | rfl | rfl | rfl | rfl <;> rfl)
  rw [hc]
  have : j = 0 ∨ j = 1 ∨ j = 2 ∨ j = 3 ∨ j = 4 ∨ j = 5 ∨ j = 6 ∨ j = 7 ∨ j = 8 ∨ j = 9 := by omega
  rcases this with rfl | rfl | rfl | rfl | rfl | rfl | rfl | rfl | rfl | rfl <;> rfl
set_option maxRecDepth 100000 in
set_option maxHeartbeats 4000000 in
theorem shown7 (w : World) : Calls Try.prog 40 #[] w fun e w' => e = .returned (.bool true) ∧ Only [] w w' := by
  have C1 := Lib.hid (msg_pack _ _ Ms.one w (ms_one_at w))
  have C2 := Lib.hid (fun w' => msg_pack _ _ Ms.zero w' (ms_zero_at w'))
  have C3 := Lib.hid (fun w' => msg_unpack [] w' (by simp))
  go_enter Try.func40, Try.ntmps40
  go_wp2_with fail
  refine C1.out.mono ?_
  rintro e w1 ⟨b, hb, rfl, ho1⟩
  have hbt : b = true := hb.2 ms_one_right
  subst hbt
  simp only [if_true, msb_one]
  have HO1 := Lib.hid ho1
  clear C1 hb ho1
  go_wp2_with fail
  refine (C2.out w1).mono ?_
  rintro e w2 ⟨b, hb, rfl, ho2⟩
  cases b with
  | true => exact absurd (hb.1 rfl) ms_zero_wrong
  | false =>
  have HO2 := Lib.hid (HO1.out.tr ho2)
  clear C2 hb ho2 HO1
  go_wp2_with fail
  refine (C3.out w2).mono ?_
  rintro e w3 ⟨o, ev, vv, ho, rfl, hma, ho3⟩
  cases o with
  | some m => exact absurd ((ho m).1 rfl).2 (msb_nil m ((ho m).1 rfl).1)
  | none =>
  have HO3 := Lib.hid (HO2.out.tr ho3)
  obtain ⟨EA, ec, rfl⟩ := hma.ents.shape
  obtain ⟨VA, vc, rfl⟩ := hma.vots.shape
  have hval : ((none : Option Ms).getD Ms.zero).val (.slice EA ((none : Option Ms).getD Ms.zero).es.length ec) (.slice VA ((none : Option Ms).getD Ms.zero).b.vs.length vc) = .agg #[.int .i64 0, .int .i64 0, .int .i64 0, .int .i64 0, .int .i64 0, .int .i64 0, .int .i64 0, .bool false, .slice EA 0 ec, .int .i64 0, .int .i64 0, .slice VA 0 vc, .string ⟨#[]⟩, .string ⟨#[]⟩] := rfl
  rw [hval]
  obtain ⟨wA, hwA⟩ : ∃ wA, w3.alloc (.cells #[.int .i64 0, .int .i64 0, .int .i64 0, .int .i64 0, .int .i64 0, .int .i64 0, .int .i64 0, .bool false, .slice none 0 0, .int .i64 0, .int .i64 0, .slice none 0 0, .string ⟨#[]⟩, .string ⟨#[]⟩] 67) = wA := ⟨_, rfl⟩
  obtain ⟨z, hz⟩ : ∃ z, w3.heap.size = z := ⟨_, rfl⟩
  have hAz : Cells wA z 67 [.int .i64 0, .int .i64 0, .int .i64 0, .int .i64 0, .int .i64 0, .int .i64 0, .int .i64 0, .bool false, .slice none 0 0, .int .i64 0, .int .i64 0, .slice none 0 0, .string ⟨#[]⟩, .string ⟨#[]⟩] := hwA ▸ hz ▸ Cells.new w3 _ _
  obtain ⟨w4, hw4⟩ : ∃ w4, wA.setRow z #[.int .i64 0, .int .i64 0, .int .i64 0, .int .i64 0, .int .i64 0, .int .i64 0, .int .i64 0, .bool false, .slice EA 0 ec, .int .i64 0, .int .i64 0, .slice VA 0 vc, .string ⟨#[]⟩, .string ⟨#[]⟩] = w4 := ⟨_, rfl⟩
  have hone : (#[.int .i64 0, .int .i64 0, .int .i64 0, .int .i64 0, .int .i64 0, .int .i64 0, .int .i64 0, .bool false, .slice EA 0 ec, .int .i64 0, .int .i64 0, .slice VA 0 vc, .string ⟨#[]⟩, .string ⟨#[]⟩] : Array Value).all (·.oneCell') = true := by simp [Value.oneCell']
  have HO4 : Hid (Only [] w w4) := Lib.hid (hw4 ▸ Only.setRow (hwA ▸ HO3.out.alloc _) (.inr (by have := HO3.out.size; omega)) _)
  clear C3 ho ho3 HO2 hma hval
  obtain ⟨w5, hw5⟩ : ∃ w5, w4.alloc (.cells #[.int .u8 0, .int .u8 0, .int .u8 0, .int .u8 0, .int .u8 0, .int .u8 0, .int .u8 0, .int .u8 0, .int .u8 0, .int .u8 0] 5) = w5 := ⟨_, rfl⟩
  obtain ⟨z4, hz4⟩ : ∃ z4, w4.heap.size = z4 := ⟨_, rfl⟩
  have hmk := make10 w4
  rw [hw5, hz4] at hmk
  have hcv := conv10 w5 z4 (hw5 ▸ hz4 ▸ Cells.new w4 _ _)
  have HO5 : Hid (Only [] w w5) := Lib.hid (hw5 ▸ HO4.out.alloc _)
  have hcat : (⟨#[2, 2, 4, 6]⟩ ++ ⟨#[0, 0, 0, 0, 0, 0, 0, 0, 0, 0]⟩ : ByteArray) = ⟨#[2, 2, 4, 6, 0, 0, 0, 0, 0, 0, 0, 0, 0, 0]⟩ := by decide +kernel
  have C4 := Lib.hid (msg_voters (.slice (some ⟨w5.heap.size, 0, none⟩) 2 2) [1, 3] _ (lit_ints w5 [1, 3] w5.heap.size rfl (by simp)) (by intro x hx; simp at hx; rcases hx with rfl | rfl <;> exact ⟨by omega, by omega⟩) (by simp))
  rw [vtx_13] at C4
  clear hw5 hz4
  go_wp2_with (refine wpList_store_row rfl 67 _ _ rfl z #[.int .i64 0, .int .i64 0, .int .i64 0, .int .i64 0, .int .i64 0, .int .i64 0, .int .i64 0, .bool false, .slice EA 0 ec, .int .i64 0, .int .i64 0, .slice VA 0 vc, .string ⟨#[]⟩, .string ⟨#[]⟩] rfl rfl 67 _ hAz (by kernel_rfl) rfl hone ?_)
  refine C4.out.mono ?_
  rintro e w6 ⟨rfl, ho6⟩
  have HO6 : Hid (Only [] w w6) := Lib.hid ((HO5.out.alloc _).tr ho6)
  clear ho6 C4
  go_wp2_with fail
  go_ret
  exact ⟨rfl, HO6.out⟩
end Go.Proofs.Ytagklgodcbmcaaa
