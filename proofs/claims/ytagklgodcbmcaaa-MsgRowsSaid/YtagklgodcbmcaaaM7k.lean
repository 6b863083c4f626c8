/-
  Chapter 7: the document's Pack, and its reader.
-/
import Derived.Test.YtagklgodcbmcaaaM7j
namespace Go.Proofs.Ytagklgodcbmcaaa
open Go.RowKit
set_option maxRecDepth 100000 in
set_option maxHeartbeats 2000000 in
theorem ref7_pack (ev vv : Value) (m : Ms) (w : World) (h : MsAt w ev vv m) (hvl : m.b.vs.length ≤ 1000000) :
    Calls Try.prog 43 #[m.val ev vv] w (PackW m w) := by
  obtain ⟨EA, ec, rfl⟩ := h.ents.shape
  obtain ⟨VA, vc, rfl⟩ := h.vots.shape
  have hoA : Only [] w (w.alloc (.cells (m.cells (.slice EA m.es.length ec) (.slice VA m.b.vs.length vc)).toArray 67)) := (Only.refl _ w).alloc _
  have hZ := Cells.new w 67 (m.cells (.slice EA m.es.length ec) (.slice VA m.b.vs.length vc))
  have CR := Lib.hid (ref7_right _ _ m _ (h.only hoA) hvl)
  have CB := Lib.hid (fun w' (ho : Only [] w w') (hR : m.Right) => ref7_bytes _ _ m w' (h.only ho) hR)
  have HZ := Lib.hid hZ
  have HA := Lib.hid hoA
  unfold Ms.val at CR CB ⊢
  unfold Ms.cells at hZ HZ HA CR
  clear h hoA
  go_enter Try.func43, Try.ntmps43
  go_wp2_with (refine wpList_load_row rfl 67 _ rfl w.heap.size rfl 67 #[.int .i64 m.kd, .int .i64 m.fr, .int .i64 m.to, .int .i64 m.tm, .int .i64 m.ix, .int .i64 m.lt, .int .i64 m.cm, .bool m.ok, .slice EA m.es.length ec, .int .i64 m.b.ix, .int .i64 m.b.tm, .slice VA m.b.vs.length vc, .string m.b.d, .string m.d] (0, 0) _ hZ Try.underlying67 rfl (by kernel_rfl) ?_)
  refine CR.out.mono ?_
  rintro e w2 ⟨b, rfl, hb, ho2⟩
  have HB := Lib.hid hb
  have HA2 := Lib.hid (HA.out.tr ho2)
  have hZ2 := HZ.out.only ho2 (by simp)
  clear CR HZ HA ho2 hb hZ
  cases b with
  | false =>
    go_wp2_with fail
    go_ret2
    exact ⟨false, HB.out, rfl, HA2.out⟩
  | true =>
    have CB2 := Lib.hid (CB.out w2 HA2.out (HB.out.1 rfl))
    clear CB
    go_wp2_with (refine wpList_load_row rfl 67 _ rfl w.heap.size rfl 67 #[.int .i64 m.kd, .int .i64 m.fr, .int .i64 m.to, .int .i64 m.tm, .int .i64 m.ix, .int .i64 m.lt, .int .i64 m.cm, .bool m.ok, .slice EA m.es.length ec, .int .i64 m.b.ix, .int .i64 m.b.tm, .slice VA m.b.vs.length vc, .string m.b.d, .string m.d] (0, 0) _ hZ2 Try.underlying67 rfl (by kernel_rfl) ?_)
    refine CB2.out.mono ?_
    rintro e w3 ⟨rfl, ho3⟩
    have HA3 := Lib.hid (HA2.out.tr ho3)
    clear ho3 CB2 hZ2 HA2
    go_wp2_with fail
    go_ret2
    exact ⟨true, by simpa using HB.out, rfl, HA3.out⟩
/-- The document's reader: ok, as long as all was there. -/
structure Rr where
  s : List UInt8
  ok : Bool
def Rr.cells (r : Rr) : List Value := [.string ⟨r.s.toArray⟩, .bool r.ok]
def Rr.get {α : Type} (f : List UInt8 → Option (α × List UInt8)) (d : α) (r : Rr) : α × Rr :=
  match f r.s with
  | some (x, t) => (x, ⟨t, r.ok⟩)
  | none => (d, ⟨r.s, false⟩)
def Rr.int (r : Rr) : Int × Rr := r.get rdI 0
def Rr.text (r : Rr) : List UInt8 × Rr := r.get rdT []
def RrAt (w : World) (b : Nat) (r : Rr) : Prop := Cells w b 137 r.cells ∧ r.s.length ≤ 1000000000000
set_option maxRecDepth 100000 in
set_option maxHeartbeats 1000000 in
theorem ref7_r_int (b : Nat) (r : Rr) (w : World) (h : RrAt w b r) :
    Calls Try.prog 102 #[.pointer (some ⟨b, 0, none⟩)] w fun e w' => e = .returned (.int .i64 r.int.1) ∧ RrAt w' b r.int.2 ∧ Only [b] w w' := by
  obtain ⟨hC, hl⟩ := h
  obtain ⟨s, ok⟩ := r
  have CT := Lib.hid (ref_toInt s w hl)
  have hlt := hC.lt
  cases hr : rdI s with
  | none =>
    have HR : Hid (Rr.int ⟨s, ok⟩ = (0, ⟨s, false⟩)) := by show _ = _; unfold Rr.int Rr.get; simp only [hr]
    rw [hr] at CT
    unfold rdV at CT
    have H := Lib.hid hC
    have c0 := hC.cell (k := 0) rfl
    clear hr hC
    go_enter Try.func102, Try.ntmps102
    go_wp2_with fail
    refine CT.out.mono ?_
    rintro e w1 ⟨rfl, ho⟩
    have H1 := Lib.hid (H.out.only ho (by simp))
    have c1 := H1.out.cell (k := 1) rfl
    have f1 := H1.out.frozen 1
    have hlt1 := H1.out.lt
    have HO := Lib.hid ho
    clear c0 H CT ho
    go_wp2_with fail
    go_ret
    rw [HR.out]
    exact ⟨rfl, ⟨H1.out.set 1 (.bool false), hl⟩, (HO.out.of0 (S := [b])).setCell (.inl (by simp)) _⟩
  | some p =>
    obtain ⟨x, t⟩ := p
    have hle := rdI_len hr
    have HR : Hid (Rr.int ⟨s, ok⟩ = (x, ⟨t, ok⟩)) := by show _ = _; unfold Rr.int Rr.get; simp only [hr]
    rw [hr] at CT
    unfold rdV at CT
    have H := Lib.hid hC
    have c0 := hC.cell (k := 0) rfl
    clear hr hC
    go_enter Try.func102, Try.ntmps102
    go_wp2_with fail
    refine CT.out.mono ?_
    rintro e w1 ⟨rfl, ho⟩
    have H1 := Lib.hid (H.out.only ho (by simp))
    have c2 := H1.out.cell (k := 0) rfl
    have f1 := H1.out.frozen 0
    have hlt1 := H1.out.lt
    have HO := Lib.hid ho
    clear c0 H CT ho
    go_wp2_with fail
    go_ret
    rw [HR.out]
    exact ⟨rfl, ⟨H1.out.set 0 (.string ⟨t.toArray⟩), Nat.le_trans hle hl⟩, (HO.out.of0 (S := [b])).setCell (.inl (by simp)) _⟩
set_option maxRecDepth 100000 in
set_option maxHeartbeats 1000000 in
theorem ref7_r_text (b : Nat) (r : Rr) (w : World) (h : RrAt w b r) :
    Calls Try.prog 104 #[.pointer (some ⟨b, 0, none⟩)] w fun e w' => e = .returned (.string ⟨(r.text.1).toArray⟩) ∧ RrAt w' b r.text.2 ∧ Only [b] w w' := by
  obtain ⟨hC, hl⟩ := h
  obtain ⟨s, ok⟩ := r
  have CT := Lib.hid (ref_toText s w hl)
  have hlt := hC.lt
  cases hr : rdT s with
  | none =>
    have HR : Hid (Rr.text ⟨s, ok⟩ = ([], ⟨s, false⟩)) := by show _ = _; unfold Rr.text Rr.get; simp only [hr]
    rw [hr] at CT
    unfold rdTV at CT
    have H := Lib.hid hC
    have c0 := hC.cell (k := 0) rfl
    clear hr hC
    go_enter Try.func104, Try.ntmps104
    go_wp2_with fail
    refine CT.out.mono ?_
    rintro e w1 ⟨rfl, ho⟩
    have H1 := Lib.hid (H.out.only ho (by simp))
    have c1 := H1.out.cell (k := 1) rfl
    have f1 := H1.out.frozen 1
    have hlt1 := H1.out.lt
    have HO := Lib.hid ho
    clear c0 H CT ho
    go_wp2_with fail
    go_ret
    rw [HR.out]
    exact ⟨rfl, ⟨H1.out.set 1 (.bool false), hl⟩, (HO.out.of0 (S := [b])).setCell (.inl (by simp)) _⟩
  | some p =>
    obtain ⟨x, t⟩ := p
    have hle := rdT_len hr
    have HR : Hid (Rr.text ⟨s, ok⟩ = (x, ⟨t, ok⟩)) := by show _ = _; unfold Rr.text Rr.get; simp only [hr]
    rw [hr] at CT
    unfold rdTV at CT
    have H := Lib.hid hC
    have c0 := hC.cell (k := 0) rfl
    clear hr hC
    go_enter Try.func104, Try.ntmps104
    go_wp2_with fail
    refine CT.out.mono ?_
    rintro e w1 ⟨rfl, ho⟩
    have H1 := Lib.hid (H.out.only ho (by simp))
    have c2 := H1.out.cell (k := 0) rfl
    have f1 := H1.out.frozen 0
    have hlt1 := H1.out.lt
    have HO := Lib.hid ho
    clear c0 H CT ho
    go_wp2_with fail
    go_ret
    rw [HR.out]
    exact ⟨rfl, ⟨H1.out.set 0 (.string ⟨t.toArray⟩), Nat.le_trans hle hl⟩, (HO.out.of0 (S := [b])).setCell (.inl (by simp)) _⟩
end Go.Proofs.Ytagklgodcbmcaaa
