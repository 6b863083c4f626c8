/-
  Chapter 18: bytes read both ways; a byte turned.
-/
import Derived.Test.YtjfnkjpnjiobjaaByt18
import Derived.Test.YtjfnkjpnjiobjaaC18u
import Derived.Test.YtjfnkjpnjiobjaaC18z
import Derived.Test.YtjfnkjpnjiobjaaC18y
namespace Go.Proofs.Ytjfnkjpnjiobjaa
open Go.RowKit
theorem rp_cells {w : World} {z : Nat} {pv : Value} {r : Rp} (h : Cells w z 67 [.int .i64 r.er, .int .i64 r.n, pv]) : w.cell? ⟨z, 0, none⟩ = some (.int .i64 r.er) ∧ w.cell? ⟨z, 1, none⟩ = some (.int .i64 r.n) ∧ w.cell? ⟨z, 2, none⟩ = some pv := ⟨h.cell (k := 0) rfl, h.cell (k := 1) rfl, h.cell (k := 2) rfl⟩
theorem unC_len (s : List UInt8) (hl : s.length ≤ 1000000000000) : ((unC s).getD Cm.zero).its.length ≤ 100 := by
  cases h : unC s with
  | none => simp [Cm.zero]
  | some c => exact (lenB_iff.1 (rightB_iff.1 ((unC_iff s hl c).1 h).1).2.1).2.2
set_option maxRecDepth 100000 in
set_option maxHeartbeats 4000000 in
theorem reads18 (s : List UInt8) (w : World) (hl : s.length ≤ 1000000) :
    Calls Try.prog 40 #[.string ⟨s.toArray⟩] w fun e w' => e = .returned (.bool true) ∧ Only [] w w' := by
  have C1 := Lib.hid (cmd_unpack s w (by omega))
  have C2 := Lib.hid (fun w' => ref18_unpack s w' hl)
  have C3 := Lib.hid (fun w' => cmd_toAnswer s w' hl)
  have C4 := Lib.hid (fun w' => ref18_toAnswer s w' hl)
  have hcl := unC_len s (by omega)
  unfold UnCW at C1 C2
  unfold UnAW at C3 C4
  obtain ⟨c, hc⟩ : ∃ c, (unC s).getD Cm.zero = c := ⟨_, rfl⟩
  obtain ⟨E, hE⟩ : ∃ c : Int, (if (unC s).isSome = true then 0 else 8) = c := ⟨_, rfl⟩
  obtain ⟨r, hr⟩ : ∃ c, (unA s).getD Rp.zero = c := ⟨_, rfl⟩
  obtain ⟨G, hG⟩ : ∃ c : Int, (if (unA s).isSome = true then 0 else 8) = c := ⟨_, rfl⟩
  rw [hc] at hcl
  simp only [hc, hE] at C1 C2
  simp only [hr, hG] at C3 C4
  clear hc hE hr hG
  go_enter Try.func40, Try.ntmps40
  go_wp2_with fail
  refine C1.out.mono ?_
  rintro e w1 ⟨iv, rfl, hc1, ho1⟩
  obtain ⟨IA, ic, rfl⟩ := hc1.its.shape
  dsimp only
  have HVC : Hid (∀ A k, c.val (.slice A c.its.length k) = .agg #[.int .i64 c.kd, .int .i64 c.ss, .int .i64 c.sq, .int .i64 c.sh, .int .i64 c.nd, .int .i64 c.ep, .int .i64 c.n, .string ⟨c.fd.toArray⟩, .string ⟨c.id.toArray⟩, .slice A c.its.length k, .bool c.fl]) := Lib.hid (fun _ _ => rfl)
  have HVR : Hid (∀ A k, r.val (.slice A r.ps.length k) = .agg #[.int .i64 r.er, .int .i64 r.n, .slice A r.ps.length k]) := Lib.hid (fun _ _ => rfl)
  rw [HVC.out]
  have HC1 := Lib.hid hc1
  have HO1 := Lib.hid ho1
  clear hc1 ho1 C1
  go_wp2_with fail
  obtain ⟨wa, hwa⟩ : ∃ wa, w1.alloc (.cells #[.int .i64 c.kd, .int .i64 c.ss, .int .i64 c.sq, .int .i64 c.sh, .int .i64 c.nd, .int .i64 c.ep, .int .i64 c.n, .string ⟨c.fd.toArray⟩, .string ⟨c.id.toArray⟩, .slice IA c.its.length ic, .bool c.fl] 65) = wa := ⟨_, rfl⟩
  obtain ⟨za, hza⟩ : ∃ za, w1.heap.size = za := ⟨_, rfl⟩
  have oa : Only [] w1 wa := hwa ▸ (Only.refl _ _).alloc _
  have ha : Cells wa za 65 (c.cells (.slice IA c.its.length ic)) := hwa ▸ hza ▸ Cells.new w1 _ _
  rw [hwa, hza]
  have HA := Lib.hid ha
  have HC2 := Lib.hid (HC1.out.only oa)
  have HO2 := Lib.hid (HO1.out.tr oa)
  clear oa ha hwa hza HC1 HO1
  refine (C2.out wa).mono ?_
  rintro e w2 ⟨iv2, rfl, hc2, ho2⟩
  obtain ⟨JA, jc, rfl⟩ := hc2.its.shape
  dsimp only
  rw [HVC.out]
  have HD2 := Lib.hid hc2
  have HC3 := Lib.hid (HC2.out.only ho2)
  have HA2 := Lib.hid (HA.out.only ho2 (by simp))
  have HO3 := Lib.hid (HO2.out.tr ho2)
  clear hc2 ho2 C2 HC2 HO2 HA
  go_wp2_with fail
  obtain ⟨wb, hwb⟩ : ∃ wa, w2.alloc (.cells #[.int .i64 c.kd, .int .i64 c.ss, .int .i64 c.sq, .int .i64 c.sh, .int .i64 c.nd, .int .i64 c.ep, .int .i64 c.n, .string ⟨c.fd.toArray⟩, .string ⟨c.id.toArray⟩, .slice JA c.its.length jc, .bool c.fl] 65) = wa := ⟨_, rfl⟩
  obtain ⟨zb, hzb⟩ : ∃ za, w2.heap.size = za := ⟨_, rfl⟩
  have oa : Only [] w2 wb := hwb ▸ (Only.refl _ _).alloc _
  have ha : Cells wb zb 65 (c.cells (.slice JA c.its.length jc)) := hwb ▸ hzb ▸ Cells.new w2 _ _
  rw [hwb, hzb]
  have HB := Lib.hid ha
  have HA3 := Lib.hid (HA2.out.only oa (by simp))
  have HC4 := Lib.hid (HC3.out.only oa)
  have HD4 := Lib.hid (HD2.out.only oa)
  have HO4 := Lib.hid (HO3.out.tr oa)
  clear oa ha hwb hzb HC3 HO3 HA2 HD2
  refine (C3.out wb).mono ?_
  rintro e w3 ⟨pv, rfl, hr3, ho3⟩
  obtain ⟨PA, pc, rfl⟩ := hr3.ps.shape
  dsimp only
  rw [HVR.out]
  have HR3 := Lib.hid hr3
  have HA4 := Lib.hid (HA3.out.only ho3 (by simp))
  have HB4 := Lib.hid (HB.out.only ho3 (by simp))
  have HC5 := Lib.hid (HC4.out.only ho3)
  have HD5 := Lib.hid (HD4.out.only ho3)
  have HO5 := Lib.hid (HO4.out.tr ho3)
  clear hr3 ho3 C3 HA3 HB HC4 HD4 HO4
  go_wp2_with fail
  obtain ⟨wc, hwc⟩ : ∃ wa, w3.alloc (.cells #[.int .i64 r.er, .int .i64 r.n, .slice PA r.ps.length pc] 67) = wa := ⟨_, rfl⟩
  obtain ⟨zc, hzc⟩ : ∃ za, w3.heap.size = za := ⟨_, rfl⟩
  have oa : Only [] w3 wc := hwc ▸ (Only.refl _ _).alloc _
  have ha : Cells wc zc 67 [.int .i64 r.er, .int .i64 r.n, .slice PA r.ps.length pc] := hwc ▸ hzc ▸ Cells.new w3 _ _
  rw [hwc, hzc]
  have HP := Lib.hid ha
  have HR4 := Lib.hid (HR3.out.only oa)
  have HA5 := Lib.hid (HA4.out.only oa (by simp))
  have HB5 := Lib.hid (HB4.out.only oa (by simp))
  have HC6 := Lib.hid (HC5.out.only oa)
  have HD6 := Lib.hid (HD5.out.only oa)
  have HO6 := Lib.hid (HO5.out.tr oa)
  clear oa ha hwc hzc HR3 HA4 HB4 HC5 HD5 HO5
  refine (C4.out wc).mono ?_
  rintro e w4 ⟨pv2, rfl, hr4, ho4⟩
  obtain ⟨QA, qc, rfl⟩ := hr4.ps.shape
  dsimp only
  rw [HVR.out]
  have HS4 := Lib.hid hr4
  have HP5 := Lib.hid (HP.out.only ho4 (by simp))
  have HR5 := Lib.hid (HR4.out.only ho4)
  have HA6 := Lib.hid (HA5.out.only ho4 (by simp))
  have HB6 := Lib.hid (HB5.out.only ho4 (by simp))
  have HC7 := Lib.hid (HC6.out.only ho4)
  have HD7 := Lib.hid (HD6.out.only ho4)
  have HO7 := Lib.hid (HO6.out.tr ho4)
  clear hr4 ho4 C4 HP HR4 HA5 HB5 HC6 HD6 HO6
  obtain ⟨wd, hwd⟩ : ∃ wa, w4.alloc (.cells #[.int .i64 r.er, .int .i64 r.n, .slice QA r.ps.length qc] 67) = wa := ⟨_, rfl⟩
  obtain ⟨zd, hzd⟩ : ∃ za, w4.heap.size = za := ⟨_, rfl⟩
  have oa : Only [] w4 wd := hwd ▸ (Only.refl _ _).alloc _
  have ha : Cells wd zd 67 [.int .i64 r.er, .int .i64 r.n, .slice QA r.ps.length qc] := hwd ▸ hzd ▸ Cells.new w4 _ _
  have HQ := Lib.hid ha
  have HS5 := Lib.hid (HS4.out.only oa)
  have HP6 := Lib.hid (HP5.out.only oa (by simp))
  have HR6 := Lib.hid (HR5.out.only oa)
  have HA7 := HA6.out.only oa (by simp)
  have HB7 := HB6.out.only oa (by simp)
  have HC8 := Lib.hid (HC7.out.only oa)
  have HD8 := Lib.hid (HD7.out.only oa)
  have HO8 := Lib.hid (HO7.out.tr oa)
  have CS := Lib.hid (same18 _ _ c wd HC8.out HD8.out (by omega))
  rw [HVC.out, HVC.out] at CS
  have hAl : za < w4.heap.size := HA6.out.lt
  have hBl : zb < w4.heap.size := HB6.out.lt
  obtain ⟨c0, c1, c2, c3, c4, c5, c6, c7, c8, c9, c10⟩ := cm_cells HA6.out
  obtain ⟨d0, d1, d2, d3, d4, d5, d6, d7, d8, d9, d10⟩ := cm_cells HB6.out
  clear oa ha HS4 HP5 HR5 HC7 HD7 HO7
  subst hwd hzd
  go_wp2_with fail
  refine CS.out.mono ?_
  obtain ⟨wd, hwd⟩ : ∃ wa, w4.alloc (.cells #[.int .i64 r.er, .int .i64 r.n, .slice QA r.ps.length qc] 67) = wa := ⟨_, rfl⟩
  obtain ⟨zd, hzd⟩ : ∃ za, w4.heap.size = za := ⟨_, rfl⟩
  simp only [hwd, hzd] at HQ HS5 HP6 HR6 HO8 ⊢
  rintro e w5 ⟨rfl, ho5⟩
  dsimp only
  have hP7 := HP6.out.only ho5 (by simp)
  have hQ7 := HQ.out.only ho5 (by simp)
  have g0 := hP7.cell (k := 0) rfl
  have g1 := hP7.cell (k := 1) rfl
  have g2 := hP7.cell (k := 2) rfl
  have k0 := hQ7.cell (k := 0) rfl
  have k1 := hQ7.cell (k := 1) rfl
  have k2 := hQ7.cell (k := 2) rfl
  have hRl := HR6.out.len
  have CT := Lib.hid (sameRp18 _ _ r w5 (HR6.out.only ho5).ps (HS5.out.only ho5).ps (by omega))
  rw [HVR.out, HVR.out] at CT
  have HO9 := Lib.hid (HO8.out.tr ho5)
  clear c0 c1 c2 c3 c4 c5 c6 c7 c8 c9 c10 d0 d1 d2 d3 d4 d5 d6 d7 d8 d9 d10 hP7 hQ7 ho5 HO8 hwd hzd CS HA6 HB6 HA7 HB7 hAl hBl
  go_wp2_with fail
  refine CT.out.mono ?_
  rintro e w6 ⟨rfl, ho6⟩
  dsimp only
  have HO10 := Lib.hid (HO9.out.tr ho6)
  clear ho6
  go_wp2_with fail
  go_ret
  exact ⟨by simp, HO10.out⟩
set_option maxRecDepth 100000 in
set_option maxHeartbeats 2000000 in
theorem turned18 (S : List UInt8) (at_ to_ : Int) (w : World) (hS : S.length ≤ 1000000) (wat : Wide64 at_) (hS0 : S ≠ []) :
    Calls Try.prog 41 #[.string ⟨S.toArray⟩, .int .i64 at_, .int .i64 to_] w fun e w' => ∃ X : List UInt8, e = .returned (.string ⟨X.toArray⟩) ∧ X.length = S.length ∧ Only [] w w' := by
  have hne : S.isEmpty = false := by cases S with
    | nil => exact absurd rfl hS0
    | cons a t => rfl
  have hpos : 0 < S.length := List.length_pos_iff.2 hS0
  have CK := Lib.hid (fun w' => pick18 at_ S.length w' wat (by omega) (by omega))
  obtain ⟨k0, k1⟩ := pkI_lt at_ S.length (by omega)
  obtain ⟨p, hp⟩ : ∃ p : Nat, pkI at_ S.length = p := ⟨(pkI at_ S.length).toNat, by omega⟩
  rw [hp] at CK k0 k1
  have kp : p < S.length := by omega
  obtain ⟨cap, zs, w5, hcap, hC5, ho5, hcv⟩ := conv_row S w
  have HO5 := Lib.hid ho5
  obtain ⟨g, hg⟩ : ∃ g, w.heap.size = g := ⟨_, rfl⟩
  have hgw : w.heap.size ≤ g := by omega
  rw [hg] at hC5 hcv
  have HC5 := Lib.hid hC5
  clear hp ho5 hC5 wat hS0
  go_enter Try.func41, Try.ntmps41
  go_wp2_with fail
  clear hcv hg
  refine (CK.out _).mono ?_
  rintro e w6 ⟨rfl, rfl⟩
  dsimp only
  have f5 := HC5.out.frozen p (by rw [List.length_append, bytes_length]; omega)
  have l5 := HC5.out.lt
  have hbk := HC5.out.cell (k := p) (v := .int .u8 (S[p].toNat : Int)) (by rw [List.getElem?_append_left (by rw [bytes_length]; exact kp)]; simp [bytes, List.getElem?_eq_getElem kp])
  obtain ⟨c, hc⟩ : ∃ c : UInt8, (c.toNat : Int) = to_ % 256 := ⟨UInt8.ofNat (to_ % 256).toNat, by
    rw [toNat_byte _ (by omega)]; omega⟩
  obtain ⟨w6, hw6⟩ : ∃ w6, w5.setCell ⟨g, p, none⟩ (.int .u8 (to_ % 256)) = w6 := ⟨_, rfl⟩
  have hC6 : CellsZ w6 g 5 (bytes (S.set p c) ++ zs) := by
    have h1 := HC5.out.set p (.int .u8 (to_ % 256))
    rw [hw6, List.set_append_left _ _ (by rw [bytes_length]; exact kp), ← hc] at h1
    rw [show bytes (S.set p c) = (bytes S).set p (.int .u8 c.toNat) from by unfold bytes; rw [List.map_set]]
    exact h1
  have HO6 : Hid (Only [] w w6) := Lib.hid (hw6 ▸ HO5.out.setCell (p := ⟨g, p, none⟩) (.inr hgw) _)
  obtain ⟨X, hX⟩ : ∃ X, S.set p c = X := ⟨_, rfl⟩
  have hXl : X.length = S.length := by rw [← hX, List.length_set]
  rw [hX] at hC6
  have hcv := conv_back X zs g cap w6 hC6
  rw [hXl] at hcv
  have HXL := Lib.hid hXl
  clear hX hC6 hXl hc
  go_wp2_with fail
  go_ret
  exact ⟨X, rfl, HXL.out, HO6.out⟩
theorem turned_any (S : List UInt8) (at_ to_ : Int) (w : World) (hS : S.length ≤ 1000000) (wat : Wide64 at_) :
    Calls Try.prog 41 #[.string ⟨S.toArray⟩, .int .i64 at_, .int .i64 to_] w fun e w' => ∃ X : List UInt8, e = .returned (.string ⟨X.toArray⟩) ∧ X.length = S.length ∧ Only [] w w' := by
  by_cases h : S = []
  · subst h
    go_enter Try.func41, Try.ntmps41
    go_wp2_with fail
    go_ret
    exact ⟨[], rfl, rfl, Only.refl _ _⟩
  · exact turned18 S at_ to_ w hS wat h
theorem cmdb_le (c : Cm) (h : c.Sm) (hn : c.its.length ≤ 100) (hw : ∀ x ∈ c.n7, Wide64 x) (hx : ∀ x ∈ c.its, x.To 800) (hf : c.fd.length ≤ 500) (hd : c.id.length ≤ 500) : (cmdb c).length ≤ 900000 := by
  have h1 := isb7_le c hw
  have h2 := tb_le c.fd 500 hf (by omega)
  have h3 := tb_le c.id 500 hd (by omega)
  have h4 := (ib_length (c.its.length : Int) ⟨by omega, by omega⟩).2
  have h5 : (itsB c.its).length ≤ 2430 * c.its.length := by
    have : ∀ (l : List It), (∀ x ∈ l, x.To 800) → (itsB l).length ≤ 2430 * l.length := by
      intro l
      induction l with
      | nil => intro _; simp [itsB]
      | cons x r ih =>
        intro hx
        obtain ⟨a1, a2, a3⟩ := hx x (by simp)
        have b1 := tb_le x.id 800 a1 (by omega)
        have b2 := tb_le x.ti 800 a2 (by omega)
        have b3 := tb_le x.li 800 a3 (by omega)
        have := ih (fun y hy => hx y (by simp [hy]))
        unfold itsB itB at this ⊢
        rw [List.flatMap_cons, List.length_append, List.length_append, List.length_append, List.length_cons]
        omega
    exact this _ hx
  have h6 : (bb c.fl).length = 1 := rfl
  unfold cmdb cmH
  simp only [List.length_append]
  omega
theorem pkS_le (c : Cm) {r : Rp} (h : Sm18 c r) : (pkS c).length ≤ 900000 := by
  unfold pkS
  split
  · rename_i hr
    obtain ⟨h1, h2, _, _⟩ := rightB_iff.1 hr
    exact cmdb_le c h.sm (lenB_iff.1 h2).2.2 (numB_wide h1) h.its h.fd h.id
  · simp
theorem rpb_le (r : Rp) {c : Cm} (h : Sm18 c r) (he : Wide64 r.er) (hn : Wide64 r.n) (hq : ∀ x ∈ r.ps, Wide64 x.sq) : (rpb r).length ≤ 900000 := by
  have h1 := (ib_length r.er he).2
  have h2 := (ib_length r.n hn).2
  have hm := h.m
  have h3 := (ib_length (r.ps.length : Int) ⟨by omega, by omega⟩).2
  have h5 : (psB r.ps).length ≤ 1000 * r.ps.length := by
    have : ∀ (l : List Po), (∀ x ∈ l, x.it.To 300 ∧ Wide64 x.sq) → (psB l).length ≤ 1000 * l.length := by
      intro l
      induction l with
      | nil => intro _; simp [psB]
      | cons x r ih =>
        intro hx
        obtain ⟨⟨a1, a2, a3⟩, a4⟩ := hx x (by simp)
        have b1 := tb_le x.it.id 300 a1 (by omega)
        have b2 := tb_le x.it.ti 300 a2 (by omega)
        have b3 := tb_le x.it.li 300 a3 (by omega)
        have b4 := (ib_length x.sq a4).2
        have b5 : (bb x.rd).length = 1 := rfl
        have := ih (fun y hy => hx y (by simp [hy]))
        unfold psB poB itB at this ⊢
        simp only [List.flatMap_cons, List.length_append, List.length_cons] at this ⊢
        omega
    exact this _ (fun x hx => ⟨h.ps x hx, hq x hx⟩)
  unfold rpb rpH
  simp only [List.length_append]
  omega
end Go.Proofs.Ytjfnkjpnjiobjaa
