/-
  Chapter 18: the writer, and Pack.
-/
import Derived.Test.YtjfnkjpnjiobjaaC18j
import Derived.Test.YtjfnkjpnjiobjaaQTail
namespace Go.Proofs.Ytjfnkjpnjiobjaa
open Go.RowKit
theorem holds_cw : Holds 110 := ⟨by kernel_rfl, by decide⟩
theorem codec_ints_at (l : List Int) (hl : l.length ≤ 100) (hw : ∀ x ∈ l, Wide64 x) (W : World) (b' : Nat) (hC : Cells W b' 3 (gvs l)) :
    Calls Try.prog 99 #[.slice (some ⟨b', 0, none⟩) l.length l.length] W fun e w' => e = .returned (.string ⟨(isb l).toArray⟩) ∧ Only [] W w' :=
  codec_int (.slice (some ⟨b', 0, none⟩) l.length l.length) l W (SlAt.cells (n := l.length) (sz := 1) hC (by simp [ivs]) (by unfold maxLen; omega)) hw (by omega)
theorem codec_texts_at (l : List (List UInt8)) (hl : l.length ≤ 10) (hb : (tsb l).length ≤ 70368744177600) (W : World) (b' : Nat) (hC : Cells W b' 9 (svs l)) :
    Calls Try.prog 100 #[.slice (some ⟨b', 0, none⟩) l.length l.length] W fun e w' => e = .returned (.string ⟨(tsb l).toArray⟩) ∧ Only [] W w' :=
  codec_text (.slice (some ⟨b', 0, none⟩) l.length l.length) l W (SlAt.cells (n := l.length) (sz := 1) hC (by simp [svs]) (by unfold maxLen; omega)) (by omega) hb
/-- What a writing call hands back. -/
def CwW (B z : Nat) (l : List UInt8) (w : World) (e : Ending) (w' : World) : Prop := e = .returned (.tuple #[]) ∧ IsBld 110 B z l w' ∧ Below B w w' ∧ Keeps z w w'
theorem Keeps.only (b : Nat) {w w' : World} (h : Only [] w w') : Keeps b w w' := fun _ _ _ _ _ hC => hC.only h (by simp)
set_option maxRecDepth 100000 in
set_option maxHeartbeats 1000000 in
theorem cw_ints (B z b' : Nat) (l : List UInt8) (ns : List Int) (n : Nat) (hn : ns.length = n) (w : World) (h : IsBld 110 B z l w) (hB : B ≤ w.heap.size) (hl : l.length ≤ 70368744177664) (hl2 : ns.length ≤ 100) (hw : ∀ x ∈ ns, Wide64 x) (hC : Cells w b' 3 (gvs ns)) :
    Calls Try.prog 64 #[.pointer (some ⟨z, 0, none⟩), .slice (some ⟨b', 0, none⟩) n n] w (CwW B z (l ++ isb ns) w) := by
  subst hn
  have CI := Lib.hid (fun (u : Since w) => codec_ints_at ns hl2 hw u.w b' (hC.only u.h (by simp)))
  have hle := isb_length ns hw
  have H := Lib.hid h
  obtain ⟨T, hT⟩ : ∃ T, isb ns = T := ⟨_, rfl⟩
  rw [hT] at CI hle ⊢
  clear h hC hw hT
  go_enter Try.func64, Try.ntmps64
  refine wp_region_only_tail w (Only.refl _ _) 5 (by kernel_rfl) (by kernel_rfl) ?_
  simp only [List.take_succ_cons, List.take_zero, List.drop_succ_cons, List.drop_zero]
  repeat (go_big_quiet_step (first
    | (go_at_call 99; refine Calls.only (CI.out _))))
  refine wpQuiet_nil ?_
  rintro ⟨w1, ho1⟩
  dsimp only
  have H1 := Lib.hid (H.out.only ho1)
  have HB := Lib.hid (ho1.below.mono hB)
  have HK1 := Lib.hid (Keeps.only z ho1)
  have hB1 : B ≤ w1.heap.size := Nat.le_trans hB ho1.size
  clear ho1 CI H
  go_wp2_with fail
  refine (writeString_k _ holds_cw B z l T w1 H1.out (by omega) hB1).mono ?_
  rintro e w2 ⟨rfl, hb, hbe, hk⟩
  have HK2 := Lib.hid (HK1.out.trans hk)
  have H2 := Lib.hid hb
  have HB2 := Lib.hid (HB.out.trans hbe)
  clear hb hbe hk
  go_wp2_with fail
  go_end0
  exact ⟨rfl, .inr H2.out, HB2.out, HK2.out⟩
set_option maxRecDepth 100000 in
set_option maxHeartbeats 1000000 in
theorem cw_texts (B z b' : Nat) (l : List UInt8) (ns : List (List UInt8)) (n : Nat) (hn : ns.length = n) (w : World) (h : IsBld 110 B z l w) (hB : B ≤ w.heap.size) (hl : l.length ≤ 70368744177664) (hl2 : ns.length ≤ 10) (hw : (tsb ns).length ≤ 70368744177600) (hC : Cells w b' 9 (svs ns)) :
    Calls Try.prog 65 #[.pointer (some ⟨z, 0, none⟩), .slice (some ⟨b', 0, none⟩) n n] w (CwW B z (l ++ tsb ns) w) := by
  subst hn
  have CI := Lib.hid (fun (u : Since w) => codec_texts_at ns hl2 hw u.w b' (hC.only u.h (by simp)))
  have H := Lib.hid h
  obtain ⟨T, hT⟩ : ∃ T, tsb ns = T := ⟨_, rfl⟩
  rw [hT] at CI hw ⊢
  clear h hC hT
  go_enter Try.func65, Try.ntmps65
  refine wp_region_only_tail w (Only.refl _ _) 5 (by kernel_rfl) (by kernel_rfl) ?_
  simp only [List.take_succ_cons, List.take_zero, List.drop_succ_cons, List.drop_zero]
  repeat (go_big_quiet_step (first
    | (go_at_call 100; refine Calls.only (CI.out _))))
  refine wpQuiet_nil ?_
  rintro ⟨w1, ho1⟩
  dsimp only
  have H1 := Lib.hid (H.out.only ho1)
  have HB := Lib.hid (ho1.below.mono hB)
  have HK1 := Lib.hid (Keeps.only z ho1)
  have hB1 : B ≤ w1.heap.size := Nat.le_trans hB ho1.size
  clear ho1 CI H
  go_wp2_with fail
  refine (writeString_k _ holds_cw B z l T w1 H1.out (by omega) hB1).mono ?_
  rintro e w2 ⟨rfl, hb, hbe, hk⟩
  have HK2 := Lib.hid (HK1.out.trans hk)
  have H2 := Lib.hid hb
  have HB2 := Lib.hid (HB.out.trans hbe)
  clear hb hbe hk
  go_wp2_with fail
  go_end0
  exact ⟨rfl, .inr H2.out, HB2.out, HK2.out⟩
set_option maxRecDepth 100000 in
set_option maxHeartbeats 1000000 in
theorem cw_bool (B z : Nat) (l : List UInt8) (b : Bool) (w : World) (h : IsBld 110 B z l w) (hB : B ≤ w.heap.size) (hl : l.length ≤ 70368744177664) :
    Calls Try.prog 67 #[.pointer (some ⟨z, 0, none⟩), .bool b] w (CwW B z (l ++ bb b) w) := by
  have CI := Lib.hid (fun (u : Since w) => codec_bool b u.w)
  have hle : (bb b).length = 1 := rfl
  have H := Lib.hid h
  obtain ⟨T, hT⟩ : ∃ T, bb b = T := ⟨_, rfl⟩
  rw [hT] at CI hle ⊢
  clear h hT
  go_enter Try.func67, Try.ntmps67
  refine wp_region_only_tail w (Only.refl _ _) 5 (by kernel_rfl) (by kernel_rfl) ?_
  simp only [List.take_succ_cons, List.take_zero, List.drop_succ_cons, List.drop_zero]
  repeat (go_big_quiet_step (first
    | (go_at_call 101; refine Calls.only_same (CI.out _))))
  refine wpQuiet_nil ?_
  rintro ⟨w1, ho1⟩
  dsimp only
  have H1 := Lib.hid (H.out.only ho1)
  have HB := Lib.hid (ho1.below.mono hB)
  have HK1 := Lib.hid (Keeps.only z ho1)
  have hB1 : B ≤ w1.heap.size := Nat.le_trans hB ho1.size
  clear ho1 CI H
  go_wp2_with fail
  refine (writeString_k _ holds_cw B z l T w1 H1.out (by omega) hB1).mono ?_
  rintro e w2 ⟨rfl, hb, hbe, hk⟩
  have HK2 := Lib.hid (HK1.out.trans hk)
  have H2 := Lib.hid hb
  have HB2 := Lib.hid (HB.out.trans hbe)
  clear hb hbe hk
  go_wp2_with fail
  go_end0
  exact ⟨rfl, .inr H2.out, HB2.out, HK2.out⟩
set_option maxRecDepth 100000 in
set_option maxHeartbeats 1000000 in
theorem cw_item (B z : Nat) (l : List UInt8) (x : It) (hx : x.Sm) (w : World) (h : IsBld 110 B z l w) (hB : B ≤ w.heap.size) (hl : l.length ≤ 70368744177664) :
    Calls Try.prog 66 #[.agg #[.string ⟨x.id.toArray⟩, .string ⟨x.ti.toArray⟩, .string ⟨x.li.toArray⟩], .func (.func 65) #[.pointer (some ⟨z, 0, none⟩)] #[]] w (CwW B z (l ++ itB x) w) := by
  have hT : tsb [x.id, x.ti, x.li] = itB x := by unfold tsb itB; simp
  have hle := itB_le x hx
  obtain ⟨w1, hw1⟩ : ∃ w1, w.alloc (.cells #[.string ⟨x.id.toArray⟩, .string ⟨x.ti.toArray⟩, .string ⟨x.li.toArray⟩] 36) = w1 := ⟨_, rfl⟩
  obtain ⟨w2, hw2⟩ : ∃ w2, w1.alloc (.cells #[.string ⟨x.id.toArray⟩, .string ⟨x.ti.toArray⟩, .string ⟨x.li.toArray⟩] 9) = w2 := ⟨_, rfl⟩
  have O1 : Only [] w w1 := hw1 ▸ (Only.refl _ _).alloc _
  have O2 : Only [] w w2 := hw2 ▸ O1.alloc _
  obtain ⟨b1, hb1⟩ : ∃ b, w.heap.size = b := ⟨_, rfl⟩
  obtain ⟨b2, hb2⟩ : ∃ b, w1.heap.size = b := ⟨_, rfl⟩
  have hC1 : Cells w1 b1 36 x.cells := hw1 ▸ hb1 ▸ Cells.new w _ _
  have hC2 : Cells w2 b2 9 (svs [x.id, x.ti, x.li]) := hw2 ▸ hb2 ▸ Cells.new w1 _ _
  have CT := Lib.hid (cw_texts B z b2 l [x.id, x.ti, x.li] 3 rfl w2 (h.only O2) (Nat.le_trans hB O2.size) hl (by simp) (by rw [hT]; omega) hC2)
  rw [hT] at CT
  have HO := Lib.hid (O2.below.mono hB)
  have HK1 := Lib.hid (Keeps.only z O2)
  have c0 := hC1.cell (k := 0) rfl
  have c1 := hC1.cell (k := 1) rfl
  have c2 := hC1.cell (k := 2) rfl
  clear hT h O1 O2 hC1 hC2
  go_enter Try.func66, Try.ntmps66
  go_wp2_with fail
  refine CT.out.mono ?_
  rintro e w3 ⟨rfl, h3, hb, hk⟩
  have HK2 := Lib.hid (HK1.out.trans hk)
  have H3 := Lib.hid h3
  have HB3 := Lib.hid (HO.out.trans hb)
  clear h3 hb hk
  go_wp2_with fail
  go_end0
  exact ⟨rfl, H3.out, HB3.out, HK2.out⟩
end Go.Proofs.Ytjfnkjpnjiobjaa
