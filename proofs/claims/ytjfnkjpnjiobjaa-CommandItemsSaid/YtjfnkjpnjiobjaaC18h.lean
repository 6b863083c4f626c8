/-
  A reader: command.reader. (Printed by gen_rd.py.)
-/
import Derived.Test.YtjfnkjpnjiobjaaRd18
namespace Go.Proofs.Ytjfnkjpnjiobjaa
open Go.RowKit
def CrAt (w : World) (z : Nat) (r : Rd) : Prop := Cells w z 123 [.string ⟨r.s.toArray⟩, .bool r.bad] ∧ r.s.length ≤ 1000000000000
theorem CrAt.only {w w' : World} {z : Nat} {r : Rd} {S : List Nat} (h : CrAt w z r) (ho : Only S w w') (hz : z ∉ S) : CrAt w' z r := ⟨h.1.only ho hz, h.2⟩
theorem CrAt.lt {w : World} {z : Nat} {r : Rd} (h : CrAt w z r) : z < w.heap.size := h.1.lt
set_option maxRecDepth 100000 in
set_option maxHeartbeats 1000000 in
theorem cr_read_int (z : Nat) (r : Rd) (w : World) (h : CrAt w z r) :
    Calls Try.prog 111 #[.pointer (some ⟨z, 0, none⟩), .func (.func 112) #[] #[]] w fun e w' => e = .returned (.int .i64 r.int.1) ∧ CrAt w' z r.int.2 ∧ Only [z] w w' := by
  obtain ⟨hC, hl⟩ := h
  obtain ⟨s, bad⟩ := r
  have CT := Lib.hid (codec_toInt s w hl)
  have hlt := hC.lt
  cases hr : rdI s with
  | none =>
    have HR : Hid (Rd.int ⟨s, bad⟩ = (0, ⟨[], true⟩)) := by show _ = _; unfold Rd.int Rd.get; simp only [hr]
    rw [hr] at CT
    unfold rdV at CT
    have H := Lib.hid hC
    have c0 := hC.cell (k := 0) rfl
    have c1 := hC.cell (k := 1) rfl
    clear hr hC
    go_enter Try.func111, Try.ntmps111
    go_wp2_with fail
    refine CT.out.mono ?_
    rintro e w1 ⟨rfl, ho⟩
    have H1 := Lib.hid (H.out.only ho (by simp))
    have d0 := H1.out.cell (k := 0) rfl
    have d1 := H1.out.cell (k := 1) rfl
    have f0 := H1.out.frozen 0
    have f1 := H1.out.frozen 1
    have hlt1 := H1.out.lt
    have HO := Lib.hid ho
    clear c0 c1 H CT ho
    cases bad
    all_goals
      go_wp2_with fail
      go_ret
      rw [HR.out]
      exact ⟨rfl, ⟨(H1.out.set 0 _).set 1 _, by first | exact Nat.zero_le _ | exact Nat.le_trans hle hl⟩, ((HO.out.of0 (S := [z])).setCell (p := ⟨z, 0, none⟩) (.inl (by simp)) _).setCell (p := ⟨z, 1, none⟩) (.inl (by simp)) _⟩
  | some p =>
    obtain ⟨x, t⟩ := p
    have hle := rdI_length hr
    have HR : Hid (Rd.int ⟨s, bad⟩ = (x, ⟨t, bad⟩)) := by show _ = _; unfold Rd.int Rd.get; simp only [hr]
    rw [hr] at CT
    unfold rdV at CT
    have H := Lib.hid hC
    have c0 := hC.cell (k := 0) rfl
    have c1 := hC.cell (k := 1) rfl
    clear hr hC
    go_enter Try.func111, Try.ntmps111
    go_wp2_with fail
    refine CT.out.mono ?_
    rintro e w1 ⟨rfl, ho⟩
    have H1 := Lib.hid (H.out.only ho (by simp))
    have d0 := H1.out.cell (k := 0) rfl
    have d1 := H1.out.cell (k := 1) rfl
    have f0 := H1.out.frozen 0
    have f1 := H1.out.frozen 1
    have hlt1 := H1.out.lt
    have HO := Lib.hid ho
    clear c0 c1 H CT ho
    cases bad
    all_goals
      go_wp2_with fail
      go_ret
      rw [HR.out]
      exact ⟨rfl, ⟨(H1.out.set 0 _).set 1 _, by first | exact Nat.zero_le _ | exact Nat.le_trans hle hl⟩, ((HO.out.of0 (S := [z])).setCell (p := ⟨z, 0, none⟩) (.inl (by simp)) _).setCell (p := ⟨z, 1, none⟩) (.inl (by simp)) _⟩
set_option maxRecDepth 100000 in
theorem cr_int (z : Nat) (r : Rd) (w : World) (h : CrAt w z r) :
    Calls Try.prog 82 #[.pointer (some ⟨z, 0, none⟩)] w fun e w' => e = .returned (.int .i64 r.int.1) ∧ CrAt w' z r.int.2 ∧ Only [z] w w' := by
  have C := Lib.hid (cr_read_int z r w h)
  clear h
  go_enter Try.func82, Try.ntmps82
  go_wp2_with fail
  refine C.out.mono ?_
  rintro e w1 ⟨rfl, h1, ho⟩
  have H1 := Lib.hid h1
  have HO := Lib.hid ho
  clear h1 ho
  go_wp2_with fail
  go_ret
  exact ⟨rfl, H1.out, HO.out⟩
set_option maxRecDepth 100000 in
set_option maxHeartbeats 1000000 in
theorem cr_read_text (z : Nat) (r : Rd) (w : World) (h : CrAt w z r) :
    Calls Try.prog 113 #[.pointer (some ⟨z, 0, none⟩), .func (.func 114) #[] #[]] w fun e w' => e = .returned (.string ⟨r.text.1.toArray⟩) ∧ CrAt w' z r.text.2 ∧ Only [z] w w' := by
  obtain ⟨hC, hl⟩ := h
  obtain ⟨s, bad⟩ := r
  have CT := Lib.hid (codec_toText s w hl)
  have hlt := hC.lt
  cases hr : rdT s with
  | none =>
    have HR : Hid (Rd.text ⟨s, bad⟩ = ([], ⟨[], true⟩)) := by show _ = _; unfold Rd.text Rd.get; simp only [hr]
    rw [hr] at CT
    unfold rdTV at CT
    have H := Lib.hid hC
    have c0 := hC.cell (k := 0) rfl
    have c1 := hC.cell (k := 1) rfl
    clear hr hC
    go_enter Try.func113, Try.ntmps113
    go_wp2_with fail
    refine CT.out.mono ?_
    rintro e w1 ⟨rfl, ho⟩
    have H1 := Lib.hid (H.out.only ho (by simp))
    have d0 := H1.out.cell (k := 0) rfl
    have d1 := H1.out.cell (k := 1) rfl
    have f0 := H1.out.frozen 0
    have f1 := H1.out.frozen 1
    have hlt1 := H1.out.lt
    have HO := Lib.hid ho
    clear c0 c1 H CT ho
    cases bad
    all_goals
      go_wp2_with fail
      go_ret
      rw [HR.out]
      exact ⟨rfl, ⟨(H1.out.set 0 _).set 1 _, by first | exact Nat.zero_le _ | exact Nat.le_trans hle hl⟩, ((HO.out.of0 (S := [z])).setCell (p := ⟨z, 0, none⟩) (.inl (by simp)) _).setCell (p := ⟨z, 1, none⟩) (.inl (by simp)) _⟩
  | some p =>
    obtain ⟨x, t⟩ := p
    have hle := rdT_len hr
    have HR : Hid (Rd.text ⟨s, bad⟩ = (x, ⟨t, bad⟩)) := by show _ = _; unfold Rd.text Rd.get; simp only [hr]
    rw [hr] at CT
    unfold rdTV at CT
    have H := Lib.hid hC
    have c0 := hC.cell (k := 0) rfl
    have c1 := hC.cell (k := 1) rfl
    clear hr hC
    go_enter Try.func113, Try.ntmps113
    go_wp2_with fail
    refine CT.out.mono ?_
    rintro e w1 ⟨rfl, ho⟩
    have H1 := Lib.hid (H.out.only ho (by simp))
    have d0 := H1.out.cell (k := 0) rfl
    have d1 := H1.out.cell (k := 1) rfl
    have f0 := H1.out.frozen 0
    have f1 := H1.out.frozen 1
    have hlt1 := H1.out.lt
    have HO := Lib.hid ho
    clear c0 c1 H CT ho
    cases bad
    all_goals
      go_wp2_with fail
      go_ret
      rw [HR.out]
      exact ⟨rfl, ⟨(H1.out.set 0 _).set 1 _, by first | exact Nat.zero_le _ | exact Nat.le_trans hle hl⟩, ((HO.out.of0 (S := [z])).setCell (p := ⟨z, 0, none⟩) (.inl (by simp)) _).setCell (p := ⟨z, 1, none⟩) (.inl (by simp)) _⟩
set_option maxRecDepth 100000 in
theorem cr_text (z : Nat) (r : Rd) (w : World) (h : CrAt w z r) :
    Calls Try.prog 83 #[.pointer (some ⟨z, 0, none⟩)] w fun e w' => e = .returned (.string ⟨r.text.1.toArray⟩) ∧ CrAt w' z r.text.2 ∧ Only [z] w w' := by
  have C := Lib.hid (cr_read_text z r w h)
  clear h
  go_enter Try.func83, Try.ntmps83
  go_wp2_with fail
  refine C.out.mono ?_
  rintro e w1 ⟨rfl, h1, ho⟩
  have H1 := Lib.hid h1
  have HO := Lib.hid ho
  clear h1 ho
  go_wp2_with fail
  go_ret
  exact ⟨rfl, H1.out, HO.out⟩
set_option maxRecDepth 100000 in
set_option maxHeartbeats 1000000 in
theorem cr_read_bool (z : Nat) (r : Rd) (w : World) (h : CrAt w z r) :
    Calls Try.prog 115 #[.pointer (some ⟨z, 0, none⟩), .func (.func 116) #[] #[]] w fun e w' => e = .returned (.bool r.bool.1) ∧ CrAt w' z r.bool.2 ∧ Only [z] w w' := by
  obtain ⟨hC, hl⟩ := h
  obtain ⟨s, bad⟩ := r
  have CT := Lib.hid (codec_toBool s w hl)
  have hlt := hC.lt
  cases hr : rdB s with
  | none =>
    have HR : Hid (Rd.bool ⟨s, bad⟩ = (false, ⟨[], true⟩)) := by show _ = _; unfold Rd.bool Rd.get; simp only [hr]
    rw [hr] at CT
    unfold rdBV at CT
    have H := Lib.hid hC
    have c0 := hC.cell (k := 0) rfl
    have c1 := hC.cell (k := 1) rfl
    clear hr hC
    go_enter Try.func115, Try.ntmps115
    go_wp2_with fail
    refine CT.out.mono ?_
    rintro e w1 ⟨rfl, ho⟩
    have H1 := Lib.hid (H.out.only ho (by simp))
    have d0 := H1.out.cell (k := 0) rfl
    have d1 := H1.out.cell (k := 1) rfl
    have f0 := H1.out.frozen 0
    have f1 := H1.out.frozen 1
    have hlt1 := H1.out.lt
    have HO := Lib.hid ho
    clear c0 c1 H CT ho
    cases bad
    all_goals
      go_wp2_with fail
      go_ret
      rw [HR.out]
      exact ⟨rfl, ⟨(H1.out.set 0 _).set 1 _, by first | exact Nat.zero_le _ | exact Nat.le_trans hle hl⟩, ((HO.out.of0 (S := [z])).setCell (p := ⟨z, 0, none⟩) (.inl (by simp)) _).setCell (p := ⟨z, 1, none⟩) (.inl (by simp)) _⟩
  | some p =>
    obtain ⟨x, t⟩ := p
    have hle := rdB_len hr
    have HR : Hid (Rd.bool ⟨s, bad⟩ = (x, ⟨t, bad⟩)) := by show _ = _; unfold Rd.bool Rd.get; simp only [hr]
    rw [hr] at CT
    unfold rdBV at CT
    have H := Lib.hid hC
    have c0 := hC.cell (k := 0) rfl
    have c1 := hC.cell (k := 1) rfl
    clear hr hC
    go_enter Try.func115, Try.ntmps115
    go_wp2_with fail
    refine CT.out.mono ?_
    rintro e w1 ⟨rfl, ho⟩
    have H1 := Lib.hid (H.out.only ho (by simp))
    have d0 := H1.out.cell (k := 0) rfl
    have d1 := H1.out.cell (k := 1) rfl
    have f0 := H1.out.frozen 0
    have f1 := H1.out.frozen 1
    have hlt1 := H1.out.lt
    have HO := Lib.hid ho
    clear c0 c1 H CT ho
    cases bad
    all_goals
      go_wp2_with fail
      go_ret
      rw [HR.out]
      exact ⟨rfl, ⟨(H1.out.set 0 _).set 1 _, by first | exact Nat.zero_le _ | exact Nat.le_trans hle hl⟩, ((HO.out.of0 (S := [z])).setCell (p := ⟨z, 0, none⟩) (.inl (by simp)) _).setCell (p := ⟨z, 1, none⟩) (.inl (by simp)) _⟩
set_option maxRecDepth 100000 in
theorem cr_bool (z : Nat) (r : Rd) (w : World) (h : CrAt w z r) :
    Calls Try.prog 86 #[.pointer (some ⟨z, 0, none⟩)] w fun e w' => e = .returned (.bool r.bool.1) ∧ CrAt w' z r.bool.2 ∧ Only [z] w w' := by
  have C := Lib.hid (cr_read_bool z r w h)
  clear h
  go_enter Try.func86, Try.ntmps86
  go_wp2_with fail
  refine C.out.mono ?_
  rintro e w1 ⟨rfl, h1, ho⟩
  have H1 := Lib.hid h1
  have HO := Lib.hid ho
  clear h1 ho
  go_wp2_with fail
  go_ret
  exact ⟨rfl, H1.out, HO.out⟩
end Go.Proofs.Ytjfnkjpnjiobjaa
