/-
  Chapter 7: the reader. (Printed by gen_m7e.py.)
-/
import Derived.Test.YtagklgodcbmcaaaM7d
namespace Go.Proofs.Ytagklgodcbmcaaa
open Go.RowKit
structure Rs where
  s : List UInt8
  bad : Bool
def Rs.cells (r : Rs) : List Value := [.string ⟨r.s.toArray⟩, .bool r.bad]
def Rs.get {α : Type} (f : List UInt8 → Option (α × List UInt8)) (d : α) (r : Rs) : α × Rs :=
  match f r.s with
  | some (x, t) => if r.bad = true then (d, r) else (x, ⟨t, false⟩)
  | none => (d, ⟨r.s, true⟩)
def Rs.int (r : Rs) : Int × Rs := r.get rdI 0
def Rs.bool (r : Rs) : Bool × Rs := r.get rdB false
def Rs.text (r : Rs) : List UInt8 × Rs := r.get rdT []
def Rs.vots (r : Rs) : List Int × Rs := r.get rdVs []
def RAt (w : World) (b : Nat) (r : Rs) : Prop := Cells w b 116 r.cells ∧ r.s.length ≤ 1000000000000
theorem rdB_len {s r : List UInt8} {x : Bool} (h : rdB s = some (x, r)) : r.length ≤ s.length := by
  match s, h with
  | c :: t, h =>
    have h : (if c.toNat ≤ 1 then some (c.toNat == 1, t) else none) = some (x, r) := h
    split at h
    · injection h with h; injection h with _ h; subst h; simp
    · cases h
theorem rdT_len {s r x : List UInt8} (h : rdT s = some (x, r)) : r.length ≤ s.length := by
  unfold rdT at h
  split at h
  · rename_i n t hr
    split at h
    · injection h with h; injection h with _ h; subst h; have := rdI_len hr; rw [List.length_drop]; omega
    · cases h
  · cases h
theorem rdIs_le : ∀ (n : Nat) (s : List UInt8) (l : List Int) (r : List UInt8), rdIs n s = some (l, r) → r.length ≤ s.length
  | 0, s, l, r, h => by unfold rdIs at h; injection h with h; injection h with _ h; subst h; omega
  | n + 1, s, l, r, h => by
    unfold rdIs at h
    split at h
    · cases h
    · rename_i x t hx
      obtain ⟨⟨l', q⟩, h1, h2⟩ := Option.map_eq_some_iff.1 h
      injection h2 with _ h2
      subst h2
      have := rdIs_le n t l' q h1
      have := rdI_len hx
      omega
theorem rdVs_le {s r : List UInt8} {x : List Int} (h : rdVs s = some (x, r)) : r.length ≤ s.length := by
  unfold rdVs at h
  split at h
  · cases h
  · rename_i n t hx
    split at h
    · cases h
    · have := rdIs_le _ _ _ _ h
      have := rdI_len hx
      omega
set_option maxRecDepth 100000 in
set_option maxHeartbeats 1000000 in
theorem msg_read_int (b : Nat) (r : Rs) (w : World) (h : RAt w b r) :
    Calls Try.prog 106 #[.pointer (some ⟨b, 0, none⟩), .func (.func 90) #[] #[]] w fun e w' => e = .returned (.int .i64 r.int.1) ∧ RAt w' b r.int.2 ∧ Only [b] w w' := by
  obtain ⟨hC, hl⟩ := h
  obtain ⟨s, bad⟩ := r
  have CT := Lib.hid (codec_toInt s w hl)
  have hlt := hC.lt
  cases hr : rdI s with
  | none =>
    have HR : Hid (Rs.int ⟨s, bad⟩ = (0, ⟨s, true⟩)) := by show _ = _; unfold Rs.int Rs.get; simp only [hr]
    rw [hr] at CT
    unfold rdV at CT
    have H := Lib.hid hC
    have c0 := hC.cell (k := 0) rfl
    clear hr hC
    go_enter Try.func106, Try.ntmps106
    go_wp2_with fail
    refine CT.out.mono ?_
    rintro e w1 ⟨rfl, ho⟩
    have H1 := Lib.hid (H.out.only ho (by simp))
    have c1 := H1.out.cell (k := 1) rfl
    have f1 := H1.out.frozen 1
    have hlt1 := H1.out.lt
    have HO := Lib.hid ho
    clear c0 H CT ho
    cases bad
    all_goals
      go_wp2_with fail
      go_ret
      rw [HR.out]
      exact ⟨rfl, ⟨H1.out.set 1 (.bool true), hl⟩, (HO.out.of0 (S := [b])).setCell (.inl (by simp)) _⟩
  | some p =>
    obtain ⟨x, t⟩ := p
    have hle := rdI_len hr
    rw [hr] at CT
    unfold rdV at CT
    have H := Lib.hid hC
    have c0 := hC.cell (k := 0) rfl
    cases bad with
    | true =>
      have HR : Hid (Rs.int ⟨s, true⟩ = (0, ⟨s, true⟩)) := by show _ = _; unfold Rs.int Rs.get; simp only [hr]; rfl
      clear hr hC
      go_enter Try.func106, Try.ntmps106
      go_wp2_with fail
      refine CT.out.mono ?_
      rintro e w1 ⟨rfl, ho⟩
      have H1 := Lib.hid (H.out.only ho (by simp))
      have c1 := H1.out.cell (k := 1) rfl
      have f1 := H1.out.frozen 1
      have hlt1 := H1.out.lt
      have HO := Lib.hid ho
      clear c0 H CT ho
      go_wp2_with fail
      go_ret
      rw [HR.out]
      exact ⟨rfl, ⟨H1.out.set 1 (.bool true), hl⟩, (HO.out.of0 (S := [b])).setCell (.inl (by simp)) _⟩
    | false =>
      have HR : Hid (Rs.int ⟨s, false⟩ = (x, ⟨t, false⟩)) := by show _ = _; unfold Rs.int Rs.get; simp only [hr]; rfl
      clear hr hC
      go_enter Try.func106, Try.ntmps106
      go_wp2_with fail
      refine CT.out.mono ?_
      rintro e w1 ⟨rfl, ho⟩
      have H1 := Lib.hid (H.out.only ho (by simp))
      have c1 := H1.out.cell (k := 1) rfl
      have f1 := H1.out.frozen 0
      have c2 := H1.out.cell (k := 0) rfl
      have hlt1 := H1.out.lt
      have HO := Lib.hid ho
      clear c0 H CT ho
      go_wp2_with fail
      go_ret
      rw [HR.out]
      exact ⟨rfl, ⟨H1.out.set 0 (.string ⟨t.toArray⟩), Nat.le_trans hle hl⟩, (HO.out.of0 (S := [b])).setCell (.inl (by simp)) _⟩
set_option maxRecDepth 100000 in
theorem msg_r_int (b : Nat) (r : Rs) (w : World) (h : RAt w b r) :
    Calls Try.prog 85 #[.pointer (some ⟨b, 0, none⟩)] w fun e w' => e = .returned (.int .i64 r.int.1) ∧ RAt w' b r.int.2 ∧ Only [b] w w' := by
  have C := Lib.hid (msg_read_int b r w h)
  clear h
  go_enter Try.func85, Try.ntmps85
  go_wp2_with fail
  refine C.out.mono ?_
  rintro e w1 ⟨rfl, h1, h2⟩
  have H := Lib.hid (And.intro h1 h2)
  clear h1 h2
  go_wp2_with fail
  go_ret
  exact ⟨rfl, H.out.1, H.out.2⟩
set_option maxRecDepth 100000 in
set_option maxHeartbeats 1000000 in
theorem msg_read_bool (b : Nat) (r : Rs) (w : World) (h : RAt w b r) :
    Calls Try.prog 107 #[.pointer (some ⟨b, 0, none⟩), .func (.func 108) #[] #[]] w fun e w' => e = .returned (.bool r.bool.1) ∧ RAt w' b r.bool.2 ∧ Only [b] w w' := by
  obtain ⟨hC, hl⟩ := h
  obtain ⟨s, bad⟩ := r
  have CT := Lib.hid (codec_toBool s w hl)
  have hlt := hC.lt
  cases hr : rdB s with
  | none =>
    have HR : Hid (Rs.bool ⟨s, bad⟩ = (false, ⟨s, true⟩)) := by show _ = _; unfold Rs.bool Rs.get; simp only [hr]
    rw [hr] at CT
    unfold rdBV at CT
    have H := Lib.hid hC
    have c0 := hC.cell (k := 0) rfl
    clear hr hC
    go_enter Try.func107, Try.ntmps107
    go_wp2_with fail
    refine CT.out.mono ?_
    rintro e w1 ⟨rfl, ho⟩
    have H1 := Lib.hid (H.out.only ho (by simp))
    have c1 := H1.out.cell (k := 1) rfl
    have f1 := H1.out.frozen 1
    have hlt1 := H1.out.lt
    have HO := Lib.hid ho
    clear c0 H CT ho
    cases bad
    all_goals
      go_wp2_with fail
      go_ret
      rw [HR.out]
      exact ⟨rfl, ⟨H1.out.set 1 (.bool true), hl⟩, (HO.out.of0 (S := [b])).setCell (.inl (by simp)) _⟩
  | some p =>
    obtain ⟨x, t⟩ := p
    have hle := rdB_len hr
    rw [hr] at CT
    unfold rdBV at CT
    have H := Lib.hid hC
    have c0 := hC.cell (k := 0) rfl
    cases bad with
    | true =>
      have HR : Hid (Rs.bool ⟨s, true⟩ = (false, ⟨s, true⟩)) := by show _ = _; unfold Rs.bool Rs.get; simp only [hr]; rfl
      clear hr hC
      go_enter Try.func107, Try.ntmps107
      go_wp2_with fail
      refine CT.out.mono ?_
      rintro e w1 ⟨rfl, ho⟩
      have H1 := Lib.hid (H.out.only ho (by simp))
      have c1 := H1.out.cell (k := 1) rfl
      have f1 := H1.out.frozen 1
      have hlt1 := H1.out.lt
      have HO := Lib.hid ho
      clear c0 H CT ho
      go_wp2_with fail
      go_ret
      rw [HR.out]
      exact ⟨rfl, ⟨H1.out.set 1 (.bool true), hl⟩, (HO.out.of0 (S := [b])).setCell (.inl (by simp)) _⟩
    | false =>
      have HR : Hid (Rs.bool ⟨s, false⟩ = (x, ⟨t, false⟩)) := by show _ = _; unfold Rs.bool Rs.get; simp only [hr]; rfl
      clear hr hC
      go_enter Try.func107, Try.ntmps107
      go_wp2_with fail
      refine CT.out.mono ?_
      rintro e w1 ⟨rfl, ho⟩
      have H1 := Lib.hid (H.out.only ho (by simp))
      have c1 := H1.out.cell (k := 1) rfl
      have f1 := H1.out.frozen 0
      have c2 := H1.out.cell (k := 0) rfl
      have hlt1 := H1.out.lt
      have HO := Lib.hid ho
      clear c0 H CT ho
      go_wp2_with fail
      go_ret
      rw [HR.out]
      exact ⟨rfl, ⟨H1.out.set 0 (.string ⟨t.toArray⟩), Nat.le_trans hle hl⟩, (HO.out.of0 (S := [b])).setCell (.inl (by simp)) _⟩
set_option maxRecDepth 100000 in
theorem msg_r_bool (b : Nat) (r : Rs) (w : World) (h : RAt w b r) :
    Calls Try.prog 86 #[.pointer (some ⟨b, 0, none⟩)] w fun e w' => e = .returned (.bool r.bool.1) ∧ RAt w' b r.bool.2 ∧ Only [b] w w' := by
  have C := Lib.hid (msg_read_bool b r w h)
  clear h
  go_enter Try.func86, Try.ntmps86
  go_wp2_with fail
  refine C.out.mono ?_
  rintro e w1 ⟨rfl, h1, h2⟩
  have H := Lib.hid (And.intro h1 h2)
  clear h1 h2
  go_wp2_with fail
  go_ret
  exact ⟨rfl, H.out.1, H.out.2⟩
set_option maxRecDepth 100000 in
set_option maxHeartbeats 1000000 in
theorem msg_read_text (b : Nat) (r : Rs) (w : World) (h : RAt w b r) :
    Calls Try.prog 110 #[.pointer (some ⟨b, 0, none⟩), .func (.func 111) #[] #[]] w fun e w' => e = .returned (.string ⟨(r.text.1).toArray⟩) ∧ RAt w' b r.text.2 ∧ Only [b] w w' := by
  obtain ⟨hC, hl⟩ := h
  obtain ⟨s, bad⟩ := r
  have CT := Lib.hid (codec_toText s w hl)
  have hlt := hC.lt
  cases hr : rdT s with
  | none =>
    have HR : Hid (Rs.text ⟨s, bad⟩ = ([], ⟨s, true⟩)) := by show _ = _; unfold Rs.text Rs.get; simp only [hr]
    rw [hr] at CT
    unfold rdTV at CT
    have H := Lib.hid hC
    have c0 := hC.cell (k := 0) rfl
    clear hr hC
    go_enter Try.func110, Try.ntmps110
    go_wp2_with fail
    refine CT.out.mono ?_
    rintro e w1 ⟨rfl, ho⟩
    have H1 := Lib.hid (H.out.only ho (by simp))
    have c1 := H1.out.cell (k := 1) rfl
    have f1 := H1.out.frozen 1
    have hlt1 := H1.out.lt
    have HO := Lib.hid ho
    clear c0 H CT ho
    cases bad
    all_goals
      go_wp2_with fail
      go_ret
      rw [HR.out]
      exact ⟨rfl, ⟨H1.out.set 1 (.bool true), hl⟩, (HO.out.of0 (S := [b])).setCell (.inl (by simp)) _⟩
  | some p =>
    obtain ⟨x, t⟩ := p
    have hle := rdT_len hr
    rw [hr] at CT
    unfold rdTV at CT
    have H := Lib.hid hC
    have c0 := hC.cell (k := 0) rfl
    cases bad with
    | true =>
      have HR : Hid (Rs.text ⟨s, true⟩ = ([], ⟨s, true⟩)) := by show _ = _; unfold Rs.text Rs.get; simp only [hr]; rfl
      clear hr hC
      go_enter Try.func110, Try.ntmps110
      go_wp2_with fail
      refine CT.out.mono ?_
      rintro e w1 ⟨rfl, ho⟩
      have H1 := Lib.hid (H.out.only ho (by simp))
      have c1 := H1.out.cell (k := 1) rfl
      have f1 := H1.out.frozen 1
      have hlt1 := H1.out.lt
      have HO := Lib.hid ho
      clear c0 H CT ho
      go_wp2_with fail
      go_ret
      rw [HR.out]
      exact ⟨rfl, ⟨H1.out.set 1 (.bool true), hl⟩, (HO.out.of0 (S := [b])).setCell (.inl (by simp)) _⟩
    | false =>
      have HR : Hid (Rs.text ⟨s, false⟩ = (x, ⟨t, false⟩)) := by show _ = _; unfold Rs.text Rs.get; simp only [hr]; rfl
      clear hr hC
      go_enter Try.func110, Try.ntmps110
      go_wp2_with fail
      refine CT.out.mono ?_
      rintro e w1 ⟨rfl, ho⟩
      have H1 := Lib.hid (H.out.only ho (by simp))
      have c1 := H1.out.cell (k := 1) rfl
      have f1 := H1.out.frozen 0
      have c2 := H1.out.cell (k := 0) rfl
      have hlt1 := H1.out.lt
      have HO := Lib.hid ho
      clear c0 H CT ho
      go_wp2_with fail
      go_ret
      rw [HR.out]
      exact ⟨rfl, ⟨H1.out.set 0 (.string ⟨t.toArray⟩), Nat.le_trans hle hl⟩, (HO.out.of0 (S := [b])).setCell (.inl (by simp)) _⟩
set_option maxRecDepth 100000 in
theorem msg_r_text (b : Nat) (r : Rs) (w : World) (h : RAt w b r) :
    Calls Try.prog 89 #[.pointer (some ⟨b, 0, none⟩)] w fun e w' => e = .returned (.string ⟨(r.text.1).toArray⟩) ∧ RAt w' b r.text.2 ∧ Only [b] w w' := by
  have C := Lib.hid (msg_read_text b r w h)
  clear h
  go_enter Try.func89, Try.ntmps89
  go_wp2_with fail
  refine C.out.mono ?_
  rintro e w1 ⟨rfl, h1, h2⟩
  have H := Lib.hid (And.intro h1 h2)
  clear h1 h2
  go_wp2_with fail
  go_ret
  exact ⟨rfl, H.out.1, H.out.2⟩
set_option maxRecDepth 100000 in
set_option maxHeartbeats 1000000 in
theorem msg_read_voters (b : Nat) (r : Rs) (w : World) (h : RAt w b r) :
    Calls Try.prog 109 #[.pointer (some ⟨b, 0, none⟩), .func (.func 52) #[] #[]] w fun e w' => ∃ v, e = .returned v ∧ w'.ownsRow w.heap.size 3 1 v r.vots.1.length (gvs r.vots.1) ∧ RAt w' b r.vots.2 ∧ Only [b] w w' := by
  obtain ⟨hC, hl⟩ := h
  obtain ⟨s, bad⟩ := r
  have CT := Lib.hid (msg_toVoters s w hl)
  have hlt := hC.lt
  have H := Lib.hid hC
  have c0 := hC.cell (k := 0) rfl
  have hbad : (rdVs s = none ∨ bad = true) ∨ (∃ x t, rdVs s = some (x, t) ∧ bad = false) := by
    cases bad
    · cases hr : rdVs s with
      | none => exact .inl (.inl rfl)
      | some p => exact .inr ⟨p.1, p.2, rfl, rfl⟩
    · exact .inl (.inr rfl)
  rcases hbad with hbad | ⟨x, t, hr, rfl⟩
  · have HR : Hid (Rs.vots ⟨s, bad⟩ = ([], ⟨s, true⟩)) := by
      show _ = _; unfold Rs.vots Rs.get
      rcases hbad with h | rfl
      · simp only [h]
      · cases hr : rdVs s <;> simp only [hr] <;> rfl
    obtain ⟨ok, hok⟩ : ∃ ok, (rdVs s).isSome = ok := ⟨_, rfl⟩
    have hbo : bad = true ∨ ok = false := by
      rcases hbad with h | h
      · right; rw [← hok, h]; rfl
      · exact .inl h
    rw [hok] at CT
    clear hC hbad hok
    go_enter Try.func109, Try.ntmps109
    go_wp2_with fail
    refine CT.out.mono ?_
    rintro e w1 ⟨v', rfl, hown, ho⟩
    have H1 := Lib.hid (H.out.only ho (by simp))
    have c1 := H1.out.cell (k := 1) rfl
    have f1 := H1.out.frozen 1
    have hlt1 := H1.out.lt
    have HO := Lib.hid ho
    clear c0 H CT ho hown
    cases bad
    · have hok : ok = false := by rcases hbo with h | h; cases h; exact h
      subst hok
      clear hbo
      go_wp2_with fail
      go_ret
      rw [HR.out]
      exact ⟨_, rfl, World.ownsRow_nil _ _ _ _, ⟨H1.out.set 1 (.bool true), hl⟩, (HO.out.of0 (S := [b])).setCell (.inl (by simp)) _⟩
    · clear hbo
      go_wp2_with fail
      go_ret
      rw [HR.out]
      exact ⟨_, rfl, World.ownsRow_nil _ _ _ _, ⟨H1.out.set 1 (.bool true), hl⟩, (HO.out.of0 (S := [b])).setCell (.inl (by simp)) _⟩
  · have HR : Hid (Rs.vots ⟨s, false⟩ = (x, ⟨t, false⟩)) := by show _ = _; unfold Rs.vots Rs.get; simp only [hr]; rfl
    have hle := rdVs_le hr
    have hx : vsL s = x := by unfold vsL; rw [hr]
    have ht : vsR s = t := by unfold vsR; rw [hr]
    rw [hx, ht, hr] at CT
    clear hr hC hx ht
    go_enter Try.func109, Try.ntmps109
    go_wp2_with fail
    refine CT.out.mono ?_
    rintro e w1 ⟨v', rfl, hown, ho⟩
    have H1 := Lib.hid (H.out.only ho (by simp))
    have c1 := H1.out.cell (k := 1) rfl
    have f1 := H1.out.frozen 0
    have c2 := H1.out.cell (k := 0) rfl
    have hlt1 := H1.out.lt
    have HO := Lib.hid ho
    have hbn : v'.ownBlock ≠ some b := fun hb => by have := (hown.lt b hb).1; omega
    have HOW := Lib.hid (ownsRow_setCell_other (a := ⟨b, 0, none⟩) hown hbn (.string ⟨t.toArray⟩))
    clear c0 H CT ho hown hbn
    simp only [Option.isSome_some]
    go_wp2_with fail
    go_ret
    rw [HR.out]
    exact ⟨_, rfl, HOW.out, ⟨H1.out.set 0 (.string ⟨t.toArray⟩), Nat.le_trans hle hl⟩, (HO.out.of0 (S := [b])).setCell (.inl (by simp)) _⟩
set_option maxRecDepth 100000 in
theorem msg_r_voters (b : Nat) (r : Rs) (w : World) (h : RAt w b r) :
    Calls Try.prog 88 #[.pointer (some ⟨b, 0, none⟩)] w fun e w' => ∃ v, e = .returned v ∧ w'.ownsRow w.heap.size 3 1 v r.vots.1.length (gvs r.vots.1) ∧ RAt w' b r.vots.2 ∧ Only [b] w w' := by
  have C := Lib.hid (msg_read_voters b r w h)
  clear h
  go_enter Try.func88, Try.ntmps88
  go_wp2_with fail
  refine C.out.mono ?_
  rintro e w1 ⟨v, rfl, h1⟩
  have H := Lib.hid h1
  clear h1
  go_wp2_with fail
  go_ret
  exact ⟨_, rfl, H.out⟩
end Go.Proofs.Ytagklgodcbmcaaa
