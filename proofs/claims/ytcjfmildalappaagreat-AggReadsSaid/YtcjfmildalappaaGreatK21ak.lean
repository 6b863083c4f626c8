/-
  Contracts; each theorem bears its own conditions.
-/
import Derived.Test.YtcjfmildalappaaGreatK21ad
set_option linter.all false
set_option maxRecDepth 100000
set_option maxHeartbeats 8000000
namespace Go.Proofs.YtcjfmildalappaaGreat
open Go.RowKit
def TrAt (w : World) (z : Nat) (r : Rd) : Prop := Cells w z 283 [.string ⟨r.s.toArray⟩, .bool (!r.bad)] ∧ r.s.length ≤ 1000000000000
theorem TrAt.only {w w' : World} {z : Nat} {r : Rd} {S : List Nat} (h : TrAt w z r) (ho : Only S w w') (hz : z ∉ S) : TrAt w' z r := ⟨h.1.only ho hz, h.2⟩
theorem TrAt.lt {w : World} {z : Nat} {r : Rd} (h : TrAt w z r) : z < w.heap.size := h.1.lt
theorem tr_int (z : Nat) (r : Rd) (w : World) (h : TrAt w z r) :
 Calls Tryz.prog 223 #[.pointer (some ⟨z, 0, none⟩)] w fun e w' => e = .returned (.int .i64 r.int.1) ∧ TrAt w' z r.int.2 ∧ Only [z] w w' := by
 obtain ⟨hC, hl⟩ := h
 obtain ⟨s, bad⟩ := r
 have CT := Hd (ref_toInt s w hl)
 have hlt := hC.lt
 cases hr : rdI s with
 | none =>
  have HR : Hid (Rd.int ⟨s, bad⟩ = (0, ⟨[], true⟩)) := by show _ = _; unfold Rd.int Rd.get; simp only [hr]
  rw [hr] at CT
  unfold rdV at CT
  have H := Hd hC
  have c0 := hC.cell (k := 0) rfl
  have c1 := hC.cell (k := 1) rfl
  clear hr hC
  go_enter Tryz.func223, Tryz.ntmps223
  go_wp2_with fail
  refine CT.out.mono ?_
  rintro e w1 ⟨rfl, ho⟩
  have H1 := Hd (H.out.only ho (by simp))
  have d0 := H1.out.cell (k := 0) rfl
  have d1 := H1.out.cell (k := 1) rfl
  have f0 := H1.out.frozen 0
  have f1 := H1.out.frozen 1
  have hlt1 := H1.out.lt
  have HO := Hd ho
  clear c0 c1 H CT ho
  cases bad
  all_goals
   go_wp2_with fail
   go_ret
   rw [HR.out]
   exact ⟨rfl, ⟨(H1.out.set 1 _).set 0 _, by first | exact Nat.zero_le _ | exact Nat.le_trans hle hl⟩, ((HO.out.of0 (S := [z])).setCell (p := ⟨z, 1, none⟩) (.inl (by simp)) _).setCell (p := ⟨z, 0, none⟩) (.inl (by simp)) _⟩
 | some p =>
  obtain ⟨x, t⟩ := p
  have hle := rdI_length hr
  have HR : Hid (Rd.int ⟨s, bad⟩ = (x, ⟨t, bad⟩)) := by show _ = _; unfold Rd.int Rd.get; simp only [hr]
  rw [hr] at CT
  unfold rdV at CT
  have H := Hd hC
  have c0 := hC.cell (k := 0) rfl
  have c1 := hC.cell (k := 1) rfl
  clear hr hC
  go_enter Tryz.func223, Tryz.ntmps223
  go_wp2_with fail
  refine CT.out.mono ?_
  rintro e w1 ⟨rfl, ho⟩
  have H1 := Hd (H.out.only ho (by simp))
  have d0 := H1.out.cell (k := 0) rfl
  have d1 := H1.out.cell (k := 1) rfl
  have f0 := H1.out.frozen 0
  have f1 := H1.out.frozen 1
  have hlt1 := H1.out.lt
  have HO := Hd ho
  clear c0 c1 H CT ho
  cases bad
  all_goals
   go_wp2_with fail
   go_ret
   rw [HR.out]
   exact ⟨rfl, ⟨(H1.out.set 1 _).set 0 _, by first | exact Nat.zero_le _ | exact Nat.le_trans hle hl⟩, ((HO.out.of0 (S := [z])).setCell (p := ⟨z, 1, none⟩) (.inl (by simp)) _).setCell (p := ⟨z, 0, none⟩) (.inl (by simp)) _⟩
theorem tr_text (z : Nat) (r : Rd) (w : World) (h : TrAt w z r) :
 Calls Tryz.prog 243 #[.pointer (some ⟨z, 0, none⟩)] w fun e w' => e = .returned (.string ⟨r.text.1.toArray⟩) ∧ TrAt w' z r.text.2 ∧ Only [z] w w' := by
 obtain ⟨hC, hl⟩ := h
 obtain ⟨s, bad⟩ := r
 have CT := Hd (ref_toText s w hl)
 have hlt := hC.lt
 cases hr : rdT s with
 | none =>
  have HR : Hid (Rd.text ⟨s, bad⟩ = ([], ⟨[], true⟩)) := by show _ = _; unfold Rd.text Rd.get; simp only [hr]
  rw [hr] at CT
  unfold rdTV at CT
  have H := Hd hC
  have c0 := hC.cell (k := 0) rfl
  have c1 := hC.cell (k := 1) rfl
  clear hr hC
  go_enter Tryz.func243, Tryz.ntmps243
  go_wp2_with fail
  refine CT.out.mono ?_
  rintro e w1 ⟨rfl, ho⟩
  have H1 := Hd (H.out.only ho (by simp))
  have d0 := H1.out.cell (k := 0) rfl
  have d1 := H1.out.cell (k := 1) rfl
  have f0 := H1.out.frozen 0
  have f1 := H1.out.frozen 1
  have hlt1 := H1.out.lt
  have HO := Hd ho
  clear c0 c1 H CT ho
  cases bad
  all_goals
   go_wp2_with fail
   go_ret
   rw [HR.out]
   exact ⟨rfl, ⟨(H1.out.set 1 _).set 0 _, by first | exact Nat.zero_le _ | exact Nat.le_trans hle hl⟩, ((HO.out.of0 (S := [z])).setCell (p := ⟨z, 1, none⟩) (.inl (by simp)) _).setCell (p := ⟨z, 0, none⟩) (.inl (by simp)) _⟩
 | some p =>
  obtain ⟨x, t⟩ := p
  have hle := rdT_len hr
  have HR : Hid (Rd.text ⟨s, bad⟩ = (x, ⟨t, bad⟩)) := by show _ = _; unfold Rd.text Rd.get; simp only [hr]
  rw [hr] at CT
  unfold rdTV at CT
  have H := Hd hC
  have c0 := hC.cell (k := 0) rfl
  have c1 := hC.cell (k := 1) rfl
  clear hr hC
  go_enter Tryz.func243, Tryz.ntmps243
  go_wp2_with fail
  refine CT.out.mono ?_
  rintro e w1 ⟨rfl, ho⟩
  have H1 := Hd (H.out.only ho (by simp))
  have d0 := H1.out.cell (k := 0) rfl
  have d1 := H1.out.cell (k := 1) rfl
  have f0 := H1.out.frozen 0
  have f1 := H1.out.frozen 1
  have hlt1 := H1.out.lt
  have HO := Hd ho
  clear c0 c1 H CT ho
  cases bad
  all_goals
   go_wp2_with fail
   go_ret
   rw [HR.out]
   exact ⟨rfl, ⟨(H1.out.set 1 _).set 0 _, by first | exact Nat.zero_le _ | exact Nat.le_trans hle hl⟩, ((HO.out.of0 (S := [z])).setCell (p := ⟨z, 1, none⟩) (.inl (by simp)) _).setCell (p := ⟨z, 0, none⟩) (.inl (by simp)) _⟩
def SrAt (w : World) (z : Nat) (r : Rd) : Prop := Cells w z 253 [.string ⟨r.s.toArray⟩, .bool r.bad] ∧ r.s.length ≤ 1000000000000
theorem SrAt.only {w w' : World} {z : Nat} {r : Rd} {S : List Nat} (h : SrAt w z r) (ho : Only S w w') (hz : z ∉ S) : SrAt w' z r := ⟨h.1.only ho hz, h.2⟩
theorem SrAt.lt {w : World} {z : Nat} {r : Rd} (h : SrAt w z r) : z < w.heap.size := h.1.lt
theorem sr_read_int (z : Nat) (r : Rd) (w : World) (h : SrAt w z r) :
 Calls Tryz.prog 225 #[.pointer (some ⟨z, 0, none⟩), .func (.func 181) #[] #[]] w fun e w' => e = .returned (.int .i64 r.int.1) ∧ SrAt w' z r.int.2 ∧ Only [z] w w' := by
 obtain ⟨hC, hl⟩ := h
 obtain ⟨s, bad⟩ := r
 have CT := Hd (codec_toInt s w hl)
 have hlt := hC.lt
 cases hr : rdI s with
 | none =>
  have HR : Hid (Rd.int ⟨s, bad⟩ = (0, ⟨[], true⟩)) := by show _ = _; unfold Rd.int Rd.get; simp only [hr]
  rw [hr] at CT
  unfold rdV at CT
  have H := Hd hC
  have c0 := hC.cell (k := 0) rfl
  have c1 := hC.cell (k := 1) rfl
  clear hr hC
  go_enter Tryz.func225, Tryz.ntmps225
  go_wp2_with fail
  refine CT.out.mono ?_
  rintro e w1 ⟨rfl, ho⟩
  have H1 := Hd (H.out.only ho (by simp))
  have d0 := H1.out.cell (k := 0) rfl
  have d1 := H1.out.cell (k := 1) rfl
  have f0 := H1.out.frozen 0
  have f1 := H1.out.frozen 1
  have hlt1 := H1.out.lt
  have HO := Hd ho
  clear c0 c1 H CT ho
  cases bad
  all_goals
   go_wp2_with fail
   go_ret
   rw [HR.out]
   exact ⟨rfl, ⟨(H1.out.set 0 _).set 1 _, by first | exact Nat.zero_le _ | exact Nat.le_trans hle hl⟩, ((HO.out.of0 (S := [z])).setCell (p := ⟨z, 0, none⟩) (.inl (by simp)) _).setCell (p := ⟨z, 1, none⟩) (.inl (by simp)) _⟩
 | some p =>
  obtain ⟨x, t⟩ := p
  have hle := rdI_length hr
  have HR : Hid (Rd.int ⟨s, bad⟩ = (x, ⟨t, bad⟩)) := by show _ = _; unfold Rd.int Rd.get; simp only [hr]
  rw [hr] at CT
  unfold rdV at CT
  have H := Hd hC
  have c0 := hC.cell (k := 0) rfl
  have c1 := hC.cell (k := 1) rfl
  clear hr hC
  go_enter Tryz.func225, Tryz.ntmps225
  go_wp2_with fail
  refine CT.out.mono ?_
  rintro e w1 ⟨rfl, ho⟩
  have H1 := Hd (H.out.only ho (by simp))
  have d0 := H1.out.cell (k := 0) rfl
  have d1 := H1.out.cell (k := 1) rfl
  have f0 := H1.out.frozen 0
  have f1 := H1.out.frozen 1
  have hlt1 := H1.out.lt
  have HO := Hd ho
  clear c0 c1 H CT ho
  cases bad
  all_goals
   go_wp2_with fail
   go_ret
   rw [HR.out]
   exact ⟨rfl, ⟨(H1.out.set 0 _).set 1 _, by first | exact Nat.zero_le _ | exact Nat.le_trans hle hl⟩, ((HO.out.of0 (S := [z])).setCell (p := ⟨z, 0, none⟩) (.inl (by simp)) _).setCell (p := ⟨z, 1, none⟩) (.inl (by simp)) _⟩
theorem sr_read_text (z : Nat) (r : Rd) (w : World) (h : SrAt w z r) :
 Calls Tryz.prog 227 #[.pointer (some ⟨z, 0, none⟩), .func (.func 104) #[] #[]] w fun e w' => e = .returned (.string ⟨r.text.1.toArray⟩) ∧ SrAt w' z r.text.2 ∧ Only [z] w w' := by
 obtain ⟨hC, hl⟩ := h
 obtain ⟨s, bad⟩ := r
 have CT := Hd (codec_toText s w hl)
 have hlt := hC.lt
 cases hr : rdT s with
 | none =>
  have HR : Hid (Rd.text ⟨s, bad⟩ = ([], ⟨[], true⟩)) := by show _ = _; unfold Rd.text Rd.get; simp only [hr]
  rw [hr] at CT
  unfold rdTV at CT
  have H := Hd hC
  have c0 := hC.cell (k := 0) rfl
  have c1 := hC.cell (k := 1) rfl
  clear hr hC
  go_enter Tryz.func227, Tryz.ntmps227
  go_wp2_with fail
  refine CT.out.mono ?_
  rintro e w1 ⟨rfl, ho⟩
  have H1 := Hd (H.out.only ho (by simp))
  have d0 := H1.out.cell (k := 0) rfl
  have d1 := H1.out.cell (k := 1) rfl
  have f0 := H1.out.frozen 0
  have f1 := H1.out.frozen 1
  have hlt1 := H1.out.lt
  have HO := Hd ho
  clear c0 c1 H CT ho
  cases bad
  all_goals
   go_wp2_with fail
   go_ret
   rw [HR.out]
   exact ⟨rfl, ⟨(H1.out.set 0 _).set 1 _, by first | exact Nat.zero_le _ | exact Nat.le_trans hle hl⟩, ((HO.out.of0 (S := [z])).setCell (p := ⟨z, 0, none⟩) (.inl (by simp)) _).setCell (p := ⟨z, 1, none⟩) (.inl (by simp)) _⟩
 | some p =>
  obtain ⟨x, t⟩ := p
  have hle := rdT_len hr
  have HR : Hid (Rd.text ⟨s, bad⟩ = (x, ⟨t, bad⟩)) := by show _ = _; unfold Rd.text Rd.get; simp only [hr]
  rw [hr] at CT
  unfold rdTV at CT
  have H := Hd hC
  have c0 := hC.cell (k := 0) rfl
  have c1 := hC.cell (k := 1) rfl
  clear hr hC
  go_enter Tryz.func227, Tryz.ntmps227
  go_wp2_with fail
  refine CT.out.mono ?_
  rintro e w1 ⟨rfl, ho⟩
  have H1 := Hd (H.out.only ho (by simp))
  have d0 := H1.out.cell (k := 0) rfl
  have d1 := H1.out.cell (k := 1) rfl
  have f0 := H1.out.frozen 0
  have f1 := H1.out.frozen 1
  have hlt1 := H1.out.lt
  have HO := Hd ho
  clear c0 c1 H CT ho
  cases bad
  all_goals
   go_wp2_with fail
   go_ret
   rw [HR.out]
   exact ⟨rfl, ⟨(H1.out.set 0 _).set 1 _, by first | exact Nat.zero_le _ | exact Nat.le_trans hle hl⟩, ((HO.out.of0 (S := [z])).setCell (p := ⟨z, 0, none⟩) (.inl (by simp)) _).setCell (p := ⟨z, 1, none⟩) (.inl (by simp)) _⟩
theorem sr_read_bool (z : Nat) (r : Rd) (w : World) (h : SrAt w z r) :
 Calls Tryz.prog 244 #[.pointer (some ⟨z, 0, none⟩), .func (.func 217) #[] #[]] w fun e w' => e = .returned (.bool r.bool.1) ∧ SrAt w' z r.bool.2 ∧ Only [z] w w' := by
 obtain ⟨hC, hl⟩ := h
 obtain ⟨s, bad⟩ := r
 have CT := Hd (codec_toBool s w hl)
 have hlt := hC.lt
 cases hr : rdB s with
 | none =>
  have HR : Hid (Rd.bool ⟨s, bad⟩ = (false, ⟨[], true⟩)) := by show _ = _; unfold Rd.bool Rd.get; simp only [hr]
  rw [hr] at CT
  unfold rdBV at CT
  have H := Hd hC
  have c0 := hC.cell (k := 0) rfl
  have c1 := hC.cell (k := 1) rfl
  clear hr hC
  go_enter Tryz.func244, Tryz.ntmps244
  go_wp2_with fail
  refine CT.out.mono ?_
  rintro e w1 ⟨rfl, ho⟩
  have H1 := Hd (H.out.only ho (by simp))
  have d0 := H1.out.cell (k := 0) rfl
  have d1 := H1.out.cell (k := 1) rfl
  have f0 := H1.out.frozen 0
  have f1 := H1.out.frozen 1
  have hlt1 := H1.out.lt
  have HO := Hd ho
  clear c0 c1 H CT ho
  cases bad
  all_goals
   go_wp2_with fail
   go_ret
   rw [HR.out]
   exact ⟨rfl, ⟨(H1.out.set 0 _).set 1 _, by first | exact Nat.zero_le _ | exact Nat.le_trans hle hl⟩, ((HO.out.of0 (S := [z])).setCell (p := ⟨z, 0, none⟩) (.inl (by simp)) _).setCell (p := ⟨z, 1, none⟩) (.inl (by simp)) _⟩
 | some p =>
  obtain ⟨x, t⟩ := p
  have hle := rdB_len hr
  have HR : Hid (Rd.bool ⟨s, bad⟩ = (x, ⟨t, bad⟩)) := by show _ = _; unfold Rd.bool Rd.get; simp only [hr]
  rw [hr] at CT
  unfold rdBV at CT
  have H := Hd hC
  have c0 := hC.cell (k := 0) rfl
  have c1 := hC.cell (k := 1) rfl
  clear hr hC
  go_enter Tryz.func244, Tryz.ntmps244
  go_wp2_with fail
  refine CT.out.mono ?_
  rintro e w1 ⟨rfl, ho⟩
  have H1 := Hd (H.out.only ho (by simp))
  have d0 := H1.out.cell (k := 0) rfl
  have d1 := H1.out.cell (k := 1) rfl
  have f0 := H1.out.frozen 0
  have f1 := H1.out.frozen 1
  have hlt1 := H1.out.lt
  have HO := Hd ho
  clear c0 c1 H CT ho
  cases bad
  all_goals
   go_wp2_with fail
   go_ret
   rw [HR.out]
   exact ⟨rfl, ⟨(H1.out.set 0 _).set 1 _, by first | exact Nat.zero_le _ | exact Nat.le_trans hle hl⟩, ((HO.out.of0 (S := [z])).setCell (p := ⟨z, 0, none⟩) (.inl (by simp)) _).setCell (p := ⟨z, 1, none⟩) (.inl (by simp)) _⟩
end Go.Proofs.YtcjfmildalappaaGreat
