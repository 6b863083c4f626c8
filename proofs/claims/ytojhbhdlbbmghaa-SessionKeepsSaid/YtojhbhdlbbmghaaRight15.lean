/-
  Chapter 15: whether a session that is read is right.
-/
import Derived.Test.YtojhbhdlbbmghaaPast15
namespace Go.Proofs.Ytojhbhdlbbmghaa
open Go.RowKit
theorem str_nil_beq (s : ByteArray) : (s.data.toList.isEmpty) = (s == ByteArray.empty) := by
  cases s with
  | mk d =>
    cases d with
    | mk l => cases l <;> rfl
theorem ba_isEmpty (s : ByteArray) : s.toList.isEmpty = (s == ByteArray.empty) := by
  cases s with
  | mk d =>
    cases d with
    | mk l => rw [show (⟨⟨l⟩⟩ : ByteArray) = ⟨l.toArray⟩ from rfl, ba_toList]; cases l <;> rfl
set_option maxRecDepth 100000 in
set_option maxHeartbeats 2000000 in
theorem ses_right (B b : Nat) (l : List Ses) (ever : Int) (x : Ses) (w : World) (h : TbS w B b l ever) (hl : l.length ≤ 1000000) :
    Calls Try.prog 91 #[.pointer (some ⟨b, 0, none⟩), .agg #[.int .i64 x.id, .int .i64 x.seq, .string x.reply]] w fun e w' => e = .returned (.bool (okSes ever l x)) ∧ Only [] w w' := by
  have hob : Only [] w (w.alloc (.cells #[.int .i64 x.id, .int .i64 x.seq, .string x.reply] 128)) := (Only.refl _ _).alloc _
  have HF : Hid (∀ w', Only [] w w' → Calls Try.prog 86 #[.pointer (some ⟨b, 0, none⟩), .int .i64 x.id] w' fun e w2 => e = .returned (.int .i64 (fndI l x.id)) ∧ Only [] w' w2) := fun w' ho => tbs_find B b l ever x.id w' (h.only ho) hl
  obtain ⟨hB, v, hc, hown⟩ := h
  have hlt := hc.lt
  have r0 : (w.alloc (.cells #[.int .i64 x.id, .int .i64 x.seq, .string x.reply] 128)).cell? ⟨w.heap.size, 0, none⟩ = some (.int .i64 x.id) := by simp
  have r1 : (w.alloc (.cells #[.int .i64 x.id, .int .i64 x.seq, .string x.reply] 128)).cell? ⟨w.heap.size, 1, none⟩ = some (.int .i64 x.seq) := by simp
  have r2 : (w.alloc (.cells #[.int .i64 x.id, .int .i64 x.seq, .string x.reply] 128)).cell? ⟨w.heap.size, 2, none⟩ = some (.string x.reply) := by simp
  have r3 := (hc.alloc (.cells #[.int .i64 x.id, .int .i64 x.seq, .string x.reply] 128)).cell (k := 1) rfl
  obtain ⟨W0, hW0⟩ : ∃ W0, w.alloc (.cells #[.int .i64 x.id, .int .i64 x.seq, .string x.reply] 128) = W0 := ⟨_, rfl⟩
  obtain ⟨b0, hb0⟩ : ∃ b0, w.heap.size = b0 := ⟨_, rfl⟩
  rw [hW0] at r0 r1 r2 r3 hob
  rw [hb0] at r0 r1 r2
  have HW0 := Lib.hid hW0
  have HB0 := Lib.hid hb0
  obtain ⟨fi, hfi⟩ : ∃ fi, fndI l x.id = fi := ⟨_, rfl⟩
  have hok : okSes ever l x = (decide (0 < x.id) && decide (x.id ≤ ever) && decide (fi < 0) && decide (0 ≤ x.seq) && (decide (0 < x.seq) || (x.reply == ByteArray.empty))) := by unfold okSes; rw [hfi, str_nil_beq]
  rw [hfi] at HF
  have HOK := Lib.hid hok
  have t0 : ∀ u : Since W0, u.w.cell? ⟨b0, 0, none⟩ = some (.int .i64 x.id) := fun u => u.cell r0
  have t1 : ∀ u : Since W0, u.w.cell? ⟨b0, 1, none⟩ = some (.int .i64 x.seq) := fun u => u.cell r1
  have t2 : ∀ u : Since W0, u.w.cell? ⟨b0, 2, none⟩ = some (.string x.reply) := fun u => u.cell r2
  have t3 : ∀ u : Since W0, u.w.cell? ⟨b, 1, none⟩ = some (.int .i64 ever) := fun u => u.cell r3
  clear hW0 hb0 hc hown hfi hok r0 r1 r2 r3
  cases d1 : decide (0 < x.id) with
  | false =>
    have HV : Hid (okSes ever l x = false) := by show _ = _; rw [HOK.out, d1]; simp
    clear HOK
    go_enter Try.func91, Try.ntmps91
    go_wp2_with fail
    rw [HW0.out, HB0.out]
    refine wp_region_only W0 (Only.refl _ _) (by kernel_rfl) (by kernel_rfl) ?_
    repeat (go_big_quiet_step ((go_at_call 86; refine Calls.only (HF.out _ (hob.tr0 (Since.h _))))))
    refine wpQuiet_nil ?_
    rintro ⟨w8, ho8⟩
    dsimp only
    go_wp2_with fail
    go_ret
    exact ⟨by rw [HV.out]; first | rfl | simp [ba_isEmpty], hob.tr0 ho8⟩
  | true =>
    cases d2 : decide (x.id ≤ ever) with
    | false =>
      have HV : Hid (okSes ever l x = false) := by show _ = _; rw [HOK.out, d1, d2]; simp
      clear HOK
      go_enter Try.func91, Try.ntmps91
      go_wp2_with fail
      rw [HW0.out, HB0.out]
      refine wp_region_only W0 (Only.refl _ _) (by kernel_rfl) (by kernel_rfl) ?_
      repeat (go_big_quiet_step ((go_at_call 86; refine Calls.only (HF.out _ (hob.tr0 (Since.h _))))))
      refine wpQuiet_nil ?_
      rintro ⟨w8, ho8⟩
      dsimp only
      go_wp2_with fail
      go_ret
      exact ⟨by rw [HV.out]; first | rfl | simp [ba_isEmpty], hob.tr0 ho8⟩
    | true =>
      cases d3 : decide (fi < 0) with
      | false =>
        have HV : Hid (okSes ever l x = false) := by show _ = _; rw [HOK.out, d1, d2, d3]; simp
        clear HOK
        go_enter Try.func91, Try.ntmps91
        go_wp2_with fail
        rw [HW0.out, HB0.out]
        refine wp_region_only W0 (Only.refl _ _) (by kernel_rfl) (by kernel_rfl) ?_
        repeat (go_big_quiet_step ((go_at_call 86; refine Calls.only (HF.out _ (hob.tr0 (Since.h _))))))
        refine wpQuiet_nil ?_
        rintro ⟨w8, ho8⟩
        dsimp only
        go_wp2_with fail
        go_ret
        exact ⟨by rw [HV.out]; first | rfl | simp [ba_isEmpty], hob.tr0 ho8⟩
      | true =>
        cases d4 : decide (0 ≤ x.seq) with
        | false =>
          have HV : Hid (okSes ever l x = false) := by show _ = _; rw [HOK.out, d1, d2, d3, d4]; simp
          clear HOK
          go_enter Try.func91, Try.ntmps91
          go_wp2_with fail
          rw [HW0.out, HB0.out]
          refine wp_region_only W0 (Only.refl _ _) (by kernel_rfl) (by kernel_rfl) ?_
          repeat (go_big_quiet_step ((go_at_call 86; refine Calls.only (HF.out _ (hob.tr0 (Since.h _))))))
          refine wpQuiet_nil ?_
          rintro ⟨w8, ho8⟩
          dsimp only
          go_wp2_with fail
          go_ret
          exact ⟨by rw [HV.out]; first | rfl | simp [ba_isEmpty], hob.tr0 ho8⟩
        | true =>
          cases d5 : decide (0 < x.seq) with
          | true =>
            have HV : Hid (okSes ever l x = true) := by show _ = _; rw [HOK.out, d1, d2, d3, d4, d5]; simp
            clear HOK
            go_enter Try.func91, Try.ntmps91
            go_wp2_with fail
            rw [HW0.out, HB0.out]
            refine wp_region_only W0 (Only.refl _ _) (by kernel_rfl) (by kernel_rfl) ?_
            repeat (go_big_quiet_step ((go_at_call 86; refine Calls.only (HF.out _ (hob.tr0 (Since.h _))))))
            refine wpQuiet_nil ?_
            rintro ⟨w8, ho8⟩
            dsimp only
            go_wp2_with fail
            go_ret
            exact ⟨by rw [HV.out]; first | rfl | simp [ba_isEmpty], hob.tr0 ho8⟩
          | false =>
            have HV : Hid (okSes ever l x = (x.reply == ByteArray.empty)) := by show _ = _; rw [HOK.out, d1, d2, d3, d4, d5]; simp
            clear HOK
            go_enter Try.func91, Try.ntmps91
            go_wp2_with fail
            rw [HW0.out, HB0.out]
            refine wp_region_only W0 (Only.refl _ _) (by kernel_rfl) (by kernel_rfl) ?_
            repeat (go_big_quiet_step ((go_at_call 86; refine Calls.only (HF.out _ (hob.tr0 (Since.h _))))))
            refine wpQuiet_nil ?_
            rintro ⟨w8, ho8⟩
            dsimp only
            go_wp2_with fail
            go_ret
            exact ⟨by rw [HV.out]; first | rfl | simp [ba_isEmpty], hob.tr0 ho8⟩
end Go.Proofs.Ytojhbhdlbbmghaa
