/-
  NetSplits: the walk.
-/
import Derived.Test.YtllapfpakoobcaaNet9
namespace Go.Proofs.Ytllapfpakoobcaa
open Go.RowKit
theorem open_grp {H : Type} {enc : TypeId × Value → H} {w : World} {base : Nat} {spare : Nat → Bool} {held : Bool} {r : Reach} {b0 : Nat} {v : Value} {d : DataW H} {p : List MemPlace}
    (hv : Value.okWide Try.prog w r b0 29 v) (h : DataW.Trod enc Try.prog w base spare held 29 v d p) :
    ∃ l : List Int, SlAt w w.heap.size v 1 l.length (gvs l) ∧ ∀ x ∈ l, (Lit.int .i64 x).wf = true :=
  open_intlist Try.underlying29 Try.underlying3 (by kernel_rfl) hv h
theorem NS.apart_comm (s : NS) (a b : Int) : s.apart a b = s.apart b a := by unfold NS.apart; cases inG s.grp a <;> cases inG s.grp b <;> rfl
theorem NS.apart_self (s : NS) (a : Int) : s.apart a a = false := by unfold NS.apart; cases inG s.grp a <;> rfl
theorem NS.apart_three (s : NS) (a b c : Int) : s.apart a c = (s.apart a b != s.apart b c) := by unfold NS.apart; cases inG s.grp a <;> cases inG s.grp b <;> cases inG s.grp c <;> rfl
/-- What is left when the letters from j on have been tried. -/
def leftL (ap : Lt → Bool) (F : List Lt) (j : Nat) : List Lt := F.take j ++ (F.drop j).filter ap
theorem leftL_succ (ap : Lt → Bool) (F : List Lt) (j : Nat) (x : Lt) (hx : F[j]? = some x) : leftL ap F (j + 1) = F.take j ++ x :: (F.drop (j + 1)).filter ap := by
  unfold leftL
  rw [List.take_add_one, hx]; simp
theorem leftL_next (ap : Lt → Bool) (F : List Lt) (j : Nat) (x : Lt) (hx : F[j]? = some x) : leftL ap F j = F.take j ++ (x :: F.drop (j + 1)).filter ap := by
  obtain ⟨hj, hx'⟩ := List.getElem?_eq_some_iff.1 hx
  unfold leftL
  rw [List.drop_eq_getElem_cons hj, hx']
theorem split_take (F : List Lt) (grp : List Int) (lost : Int) (j : Nat) (x : Lt) (hx : F[j]? = some x) :
    (NS.mk (leftL (fun y => (inG grp y.fr != inG grp y.to)) F (j + 1)) grp lost).take (j : Int) =
      if (inG grp x.fr != inG grp x.to) then (⟨leftL (fun y => (inG grp y.fr != inG grp y.to)) F j, grp, lost⟩, Lt.zero, false) else (⟨leftL (fun y => (inG grp y.fr != inG grp y.to)) F j, grp, lost⟩, x, true) := by
  have hj : j < F.length := (List.getElem?_eq_some_iff.1 hx).1
  have hl : (F.take j).length = j := by rw [List.length_take]; omega
  have hat : (NS.mk (leftL (fun y => (inG grp y.fr != inG grp y.to)) F (j + 1)) grp lost).at (j : Int) = some x := by
    unfold NS.at
    rw [if_pos (by omega), Int.toNat_natCast, leftL_succ _ F j x hx, List.getElem?_append_right (by omega), hl]; simp
  unfold NS.take
  rw [hat]
  dsimp only
  unfold NS.apart
  dsimp only
  cases hap : (inG grp x.fr != inG grp x.to) with
  | true =>
    simp only [if_true]
    rw [leftL_succ _ F j x hx, leftL_next _ F j x hx, List.filter_cons_of_pos (by simpa using hap)]
  | false =>
    simp only [Bool.false_eq_true, if_false]
    unfold NS.out
    dsimp only
    rw [Int.toNat_natCast, leftL_succ _ F j x hx, leftL_next _ F j x hx, List.filter_cons_of_neg (by simpa using hap), List.eraseIdx_append_of_length_le (by omega), hl]
    simp
theorem whole_take (x : Lt) (L : List Lt) (lost : Int) : (NS.mk (x :: L) [] lost).take 0 = (⟨L, [], lost⟩, x, true) := by
  unfold NS.take NS.at NS.apart inG NS.out
  simp
set_option maxRecDepth 100000 in
set_option maxHeartbeats 4000000 in
theorem netSplits_walk (W : World) (v : Value) (l : List Act) (hs : SlAt W W.heap.size v 6 l.length (l.flatMap Act.cells)) (hg : ∀ a ∈ l, a.Ok W) (gv : Value) (grp : List Int) (hs2 : SlAt W W.heap.size gv 1 grp.length (gvs grp)) (hg2 : ∀ x ∈ grp, (Lit.int .i64 x).wf = true)
    (p1 : Int) (h1 : (Lit.int .i64 p1).wf = true) (p2 : Int) (h2 : (Lit.int .i64 p2).wf = true) (p3 : Int) (h3 : (Lit.int .i64 p3).wf = true) :
    Calls Try.prog 5 #[v, gv, .int .i64 p1, .int .i64 p2, .int .i64 p3] W fun e W' => e = .returned (.bool true) ∧ Only [] W W' := by
  have CS := Lib.hid (fun w (ho : Only [] W w) => small6 W v l hs hg w ho)
  obtain ⟨A, c, rfl⟩ := hs.shape
  obtain ⟨A2, c2, rfl⟩ := hs2.shape
  have HS := Lib.hid hs
  have HG := Lib.hid hg
  have HS2 := Lib.hid hs2
  clear hs hg hs2 hg2 h1 h2 h3
  cases hsm : smallB l with
  | false =>
    rw [hsm] at CS
    go_enter Try.func5, Try.ntmps5
    go_wp2_with fail
    refine (shown6 W).mono ?_
    rintro e w1 ⟨rfl, ho⟩
    go_wp2_with fail
    refine (CS.out _ ho).mono ?_
    rintro e w2 ⟨rfl, rfl⟩
    go_wp2_with fail
    go_ret
    exact ⟨rfl, ho⟩
  | true =>
  rw [hsm] at CS
  by_cases hg40 : 40 < grp.length
  · have hd : decide ((40 : Int) < (grp.length : Int)) = true := by simp; omega
    go_enter Try.func5, Try.ntmps5
    go_wp2_with fail
    refine (shown6 W).mono ?_
    rintro e w1 ⟨rfl, ho⟩
    go_wp2_with fail
    refine (CS.out _ ho).mono ?_
    rintro e w2 ⟨rfl, rfl⟩
    go_wp2_with fail
    go_ret
    exact ⟨rfl, ho⟩
  have hd : decide ((40 : Int) < (grp.length : Int)) = false := by simp; omega
  obtain ⟨h500, hgr⟩ := smallB_spec hsm
  have HGR := Lib.hid hgr
  clear hsm hgr
  go_enter Try.func5, Try.ntmps5
  go_wp2_with fail
  refine (shown6 W).mono ?_
  rintro e w1 ⟨rfl, ho⟩
  go_wp2_with fail
  refine (CS.out _ ho).mono ?_
  rintro e w2 ⟨rfl, rfl⟩
  go_wp2_with fail
  refine (na_new W w1 ho).mono ?_
  rintro e w2 ⟨b, rfl, h2⟩
  go_wp2_with fail
  go_loopw [14] (fun i wr => ∃ k : Nat, k ≤ l.length ∧ i = .int .i64 k ∧ Hid (NetAt W wr b (NS.run ⟨[], [], 0⟩ l k))) (fun i _ => l.length - (intOf i).toNat)
  case atStart => exact ⟨0, by omega, rfl, h2⟩
  case round =>
    obtain ⟨k, hk, rfl, hN⟩ := hrel
    have hlost := NS.run_lost (s := ⟨[], [], 0⟩) l 0 ⟨by decide, by decide⟩ k hk
    by_cases hlt : k < l.length
    · have hlt' : (k : Int) < (l.length : Int) := by omega
      have hk1 := List.getElem?_eq_getElem hlt
      obtain ⟨x, hx⟩ : ∃ x, l[k] = x := ⟨_, rfl⟩
      rw [hx] at hk1
      have HSU := Lib.hid (NS.run_succ ⟨[], [], 0⟩ l k x hk1)
      obtain ⟨s, hsn⟩ : ∃ s, NS.run ⟨[], [], 0⟩ l k = s := ⟨_, rfl⟩
      rw [hsn] at hlost hN HSU
      obtain ⟨ab, ao, ac, gA, gc, hv, hgv, q0, q1, q2, q3, q4, q5, hb⟩ := act_at HS.out HG.out hN.out.only hk1
      have hxm := List.mem_of_getElem? hk1
      have CD := Lib.hid (na_does hN x (HG.out x hxm) (HGR.out x hxm).2 ⟨hlost.1, by omega⟩ _ rfl gA gc hgv)
      injection hv with e1 e2 e3
      subst e1; subst e3
      clear e2 hx hk1 hsn hxm hgv hlost
      go_wp2_with fail
      refine CD.out.mono ?_
      rintro e w5 ⟨rfl, h5⟩
      go_wp2_with fail
      go_roundw
      case rel => exact ⟨k + 1, by omega, by go_num, by rw [HSU.out]; exact h5⟩
      case measure => simp [intOf]; omega
    · have hd0 : decide ((k : Int) < (l.length : Int)) = false := by simp; omega
      obtain ⟨s0, hsn⟩ : ∃ s, NS.run ⟨[], [], 0⟩ l k = s := ⟨_, rfl⟩
      rw [hsn] at hlost hN
      have hlen : s0.l.length ≤ 300 := by obtain ⟨v, f, hn⟩ := hN.out.net; exact hn.len
      clear hsn HS HG HGR CS
      go_wp2_with fail
      refine (na_split hN _ grp hN.out.only.size (HS2.out.only hN.out.only (Nat.le_refl _) (by simp)) (by omega)).mono ?_
      rintro e w5 ⟨rfl, h5⟩
      obtain ⟨s1, hs1⟩ : ∃ s1, NS.mk s0.l grp s0.lost = s1 := ⟨_, rfl⟩
      rw [hs1] at h5
      have EC := Lib.hid (s1.apart_comm p1 p2)
      have ES := Lib.hid (s1.apart_self p1)
      have E3 := Lib.hid (s1.apart_three p1 p2 p3)
      obtain ⟨d1, hd1⟩ : ∃ d, s1.apart p1 p2 = d := ⟨_, rfl⟩
      obtain ⟨d2, hd2⟩ : ∃ d, s1.apart p2 p3 = d := ⟨_, rfl⟩
      obtain ⟨d3, hd12⟩ : ∃ d3, (d1 != d2) = d3 := ⟨_, rfl⟩
      have hd3 : s1.apart p1 p3 = d3 := by rw [← hd12, ← hd1, ← hd2]; exact E3.out
      have hself : (d3 != d3) = false := by simp
      have hd4 : s1.apart p2 p1 = d1 := by rw [← hd1]; exact EC.out.symm
      go_wp2_with fail
      refine (na_apartE h5 p1 p2 hd1).mono ?_
      rintro e w6 ⟨rfl, h6, -⟩
      go_wp2_with fail
      refine (na_apartE h6 p2 p3 hd2).mono ?_
      rintro e w7 ⟨rfl, h7, -⟩
      go_wp2_with fail
      refine (na_apartE h7 p1 p3 hd3).mono ?_
      rintro e w8 ⟨rfl, h8, -⟩
      go_wp2_with fail
      refine (na_apartE h8 p2 p1 hd4).mono ?_
      rintro e w9 ⟨rfl, h9, -⟩
      clear h5 h6 h7 h8 hN h2
      go_wp2_with fail
      refine (na_apartE h9 p1 p1 ES.out).mono ?_
      rintro e w10 ⟨rfl, h10, -⟩
      go_wp2_with fail
      all_goals try (exfalso; rename_i hbad; clear hself hd1 hd2 hd3 hd4; revert hbad; subst hd12; cases d1 <;> cases d2 <;> decide)
      clear h9 EC ES E3 hd1 hd2 hd3 hd4
      obtain ⟨v0, f0, hn⟩ := h10.out.net
      have hlt0 : ∀ y, y ∈ b :: rb v0 → y < w10.heap.size := fun y hy => by
        rcases List.mem_cons.1 hy with rfl | hy
        · exact hn.cells.lt
        · exact (hn.own.lt y (by simpa [rb] using hy)).2
      have hge0 := hn.ges
      have HLT := Lib.hid hlt0
      have HGE := Lib.hid hge0
      have hWb := h10.out.ge
      have HO10 := Lib.hid h10.out.only
      have HN := Lib.hid hn
      have hF : s1.l = s0.l := by rw [← hs1]
      have hgrp : s1.grp = grp := by rw [← hs1]
      obtain ⟨F, hFF⟩ : ∃ F, s1.l = F := ⟨_, rfl⟩
      have hFl : F.length ≤ 300 := by rw [← hFF]; exact hn.len
      have CF := net_flight b b v0 f0 s1 w10 hn
      rw [hFF] at CF
      have HCF := Lib.hid CF
      clear CF hn hlt0 hge0 h10 hF
      refine HCF.out.mono ?_
      rintro e w11 ⟨fv, rfl, hr, ho11⟩
      obtain ⟨fA, fc, rfl⟩ := (SlAt.of_own hr).shape
      have HRow := Lib.hid hr
      have HN11 : Hid (NetV w11 b b v0 f0 ⟨leftL (fun y => (inG grp y.fr != inG grp y.to)) F F.length, grp, s1.lost⟩) := by
        have := HN.out.only ho11
        have e1 : s1 = ⟨leftL (fun y => (inG grp y.fr != inG grp y.to)) F F.length, grp, s1.lost⟩ := by
          unfold leftL
          rw [List.take_length, List.drop_length, List.filter_nil, List.append_nil, ← hFF, ← hgrp]
        rw [e1] at this
        exact this
      clear hr HN
      go_wp2_with fail
      go_loopw [19] (fun i wr => ∃ (j : Nat) (vj : Value), j ≤ F.length ∧ i = .int .i64 ((j : Int) - 1) ∧ Hid (NetV wr b b vj f0 ⟨leftL (fun y => (inG grp y.fr != inG grp y.to)) F j, grp, s1.lost⟩) ∧ rb vj = rb v0 ∧ Hid (Only (b :: rb v0) w11 wr)) (fun i _ => (intOf i + 1).toNat)
      case atStart => exact ⟨F.length, v0, by omega, rfl, HN11, rfl, Only.refl _ _⟩
      case round =>
        obtain ⟨j, vj, hj, rfl, hNj, hrbj, hOj⟩ := hrel
        have HRB := Lib.hid hrbj
        clear hrbj HN11
        by_cases hj0 : j = 0
        · subst hj0
          rw [show ((0 : Nat) : Int) - 1 = -1 from rfl]
          have hN0 : Hid (NetAt W wr b ⟨leftL (fun y => (inG grp y.fr != inG grp y.to)) F 0, grp, s1.lost⟩) := ⟨hWb, ⟨vj, f0, hNj.out⟩, (HO10.out.tr ho11).trans hOj.out (fun y hy => .inr (Nat.le_trans hWb (HGE.out y hy)))⟩
          obtain ⟨L, hL⟩ : ∃ L, leftL (fun y => (inG grp y.fr != inG grp y.to)) F 0 = L := ⟨_, rfl⟩
          rw [hL] at hN0
          have hLl : L.length ≤ 300 := by obtain ⟨v, f, hn⟩ := hN0.out.net; exact hn.len
          clear hNj hL
          go_wp2_with fail
          refine (na_whole hN0).mono ?_
          rintro e w13 ⟨rfl, h13⟩
          go_wp2_with fail
          refine (na_flight h13).mono ?_
          rintro e w14 ⟨lA, lc, rfl, -, h14, -⟩
          go_wp2_with fail
          go_loopw [23] (fun i wr => ∃ j : Nat, j ≤ L.length ∧ i = .int .i64 j ∧ Hid (NetAt W wr b ⟨L.drop j, [], s1.lost⟩)) (fun i _ => L.length - (intOf i).toNat)
          case atStart => exact ⟨0, by omega, rfl, h14⟩
          case round =>
            obtain ⟨j, hj, rfl, hNj⟩ := hrel
            by_cases hjl : j < L.length
            · have hjl' : (j : Int) < (L.length : Int) := by omega
              have hdr := List.drop_eq_getElem_cons hjl
              have CT : Hid (Calls Try.prog 22 #[.pointer (some ⟨b, 0, none⟩), .int .i64 0] wr fun e w' => e = .returned (.tuple #[.agg #[.int .i64 L[j].fr, .int .i64 L[j].to, .string L[j].d], .bool true]) ∧ Hid (NetAt W w' b ⟨L.drop (j + 1), [], s1.lost⟩)) :=
                na_takeE hNj 0 (by rw [hdr]; exact whole_take _ _ _)
              obtain ⟨y, hy⟩ : ∃ y, L[j] = y := ⟨_, rfl⟩
              rw [hy] at CT
              clear hdr hy
              go_wp2_with fail
              refine CT.out.mono ?_
              rintro e w15 ⟨rfl, h15⟩
              go_wp2_with fail
              go_roundw
              case rel => exact ⟨j + 1, by omega, by go_num, h15.out.keep ((Only.refl _ _).alloc _)⟩
              case measure => simp [intOf]; omega
            · have hjl' : decide ((j : Int) < (L.length : Int)) = false := by simp; omega
              have hdr : L.drop j = [] := List.drop_eq_nil_of_le (by omega)
              rw [hdr] at hNj
              have hz : decide ((0 : Int) = 0) = true := rfl
              go_wp2_with fail
              refine (na_flight hNj).mono ?_
              rintro e w15 ⟨lA', lc', rfl, -, h15, -⟩
              go_wp2_with fail
              refine (na_apartE h15 p1 p2 (ok := false) (by unfold NS.apart inG; simp)).mono ?_
              rintro e w16 ⟨rfl, h16, -⟩
              go_wp2_with fail
              go_ret
              exact ⟨by simp, h16.out.only⟩
        · obtain ⟨j, rfl⟩ : ∃ m, j = m + 1 := ⟨j - 1, by omega⟩
          rw [show ((j + 1 : Nat) : Int) - 1 = (j : Int) from by omega]
          have hjp : (0 : Int) ≤ (j : Int) := by omega
          have hjl : j < F.length := by omega
          have hx := List.getElem?_eq_getElem hjl
          obtain ⟨x, hxe⟩ : ∃ x, F[j] = x := ⟨_, rfl⟩
          rw [hxe] at hx
          have CT := net_take b b j vj f0 _ wr hNj.out
          rw [split_take F grp s1.lost j x hx, HRB.out] at CT
          obtain ⟨g, hA, p0, p1', p2', hgB, hgl⟩ := row_let HRow.out hx
          have hgn : g ∉ b :: rb v0 := fun hm => by have := HLT.out g hm; omega
          subst hA
          have hjF : (j : Int) < (F.length : Int) := by omega
          have hj300 : (j : Int) ≤ 300 := by omega
          have HX := Lib.hid hx
          clear hx hxe
          cases hap : (inG grp x.fr != inG grp x.to) with
          | true =>
            rw [hap] at CT
            simp only [if_true] at CT
            have HCT := Lib.hid CT
            unfold Lt.res at HCT
            clear CT
            go_wp2_with fail
            refine HCT.out.mono ?_
            rintro e w13 ⟨rfl, v13, h13, ho13, hrb13⟩
            have hoX : Only [] w13 (w13.alloc (.cells #[.int .i64 0, .int .i64 0, .string ⟨#[]⟩] 37)) := (Only.refl _ _).alloc _
            have HNX := Lib.hid (h13.only hoX)
            have HOX : Hid (Only (b :: rb v0) w11 (w13.alloc (.cells #[.int .i64 0, .int .i64 0, .string ⟨#[]⟩] 37))) := (hOj.out.tr ho13).tr0 hoX
            have hXB : Hid (Cells (w13.alloc (.cells #[.int .i64 0, .int .i64 0, .string ⟨#[]⟩] 37)) w13.heap.size 37 [.int .i64 0, .int .i64 0, .string ⟨#[]⟩]) := Cells.new _ _ _
            have f0' := fun u : Since (w13.alloc (.cells #[.int .i64 0, .int .i64 0, .string ⟨#[]⟩] 37)) => u.cell ((HOX.out.cell (p := ⟨g, j * 3, none⟩) hgl hgn).trans p0)
            have f1' := fun u : Since (w13.alloc (.cells #[.int .i64 0, .int .i64 0, .string ⟨#[]⟩] 37)) => u.cell ((HOX.out.cell (p := ⟨g, j * 3 + 1, none⟩) hgl hgn).trans p1')
            have f2' := fun u : Since (w13.alloc (.cells #[.int .i64 0, .int .i64 0, .string ⟨#[]⟩] 37)) => u.cell ((HOX.out.cell (p := ⟨g, j * 3 + 2, none⟩) hgl hgn).trans p2')
            have z0 := fun u : Since (w13.alloc (.cells #[.int .i64 0, .int .i64 0, .string ⟨#[]⟩] 37)) => u.cell (hXB.out.cell (k := 0) rfl)
            have z1 := fun u : Since (w13.alloc (.cells #[.int .i64 0, .int .i64 0, .string ⟨#[]⟩] 37)) => u.cell (hXB.out.cell (k := 1) rfl)
            have z2 := fun u : Since (w13.alloc (.cells #[.int .i64 0, .int .i64 0, .string ⟨#[]⟩] 37)) => u.cell (hXB.out.cell (k := 2) rfl)
            have CA : Hid (∀ u : Since (w13.alloc (.cells #[.int .i64 0, .int .i64 0, .string ⟨#[]⟩] 37)), Calls Try.prog 19 #[.pointer (some ⟨b, 0, none⟩), .int .i64 x.fr, .int .i64 x.to] u.w fun e w' => e = .returned (.bool true) ∧ Only [] u.w w') := fun u => by
              rw [← hap]; exact net_apart b b v13 f0 _ x.fr x.to u.w (HNX.out.only u.h)
            have HRB13 := Lib.hid hrb13
            clear h13 ho13 hrb13 p0 p1' p2'
            go_wp2_with fail
            refine wp_region_only (w13.alloc (.cells #[.int .i64 0, .int .i64 0, .string ⟨#[]⟩] 37)) (Only.refl _ _) (by kernel_rfl) (by kernel_rfl) ?_
            repeat (go_big_quiet_step ((go_at_call 19; refine Calls.only (CA.out _))))
            refine wpQuiet_nil ?_
            rintro ⟨w14, ho14⟩
            dsimp only
            clear z0 z1 z2 f0' f1' f2'
            go_wp2_with fail
            go_roundw
            case rel => exact ⟨j, v13, by omega, by go_num, HNX.out.only ho14, HRB13.out, HOX.out.tr0 ho14⟩
            case measure => simp [intOf]; try omega
          | false =>
            rw [hap] at CT
            simp only [Bool.false_eq_true, if_false] at CT
            have HCT := Lib.hid CT
            unfold Lt.res at HCT
            clear CT
            go_wp2_with fail
            refine HCT.out.mono ?_
            rintro e w13 ⟨rfl, v13, h13, ho13, hrb13⟩
            have hoX : Only [] w13 (w13.alloc (.cells #[.int .i64 x.fr, .int .i64 x.to, .string x.d] 37)) := (Only.refl _ _).alloc _
            have HNX := Lib.hid (h13.only hoX)
            have HOX : Hid (Only (b :: rb v0) w11 (w13.alloc (.cells #[.int .i64 x.fr, .int .i64 x.to, .string x.d] 37))) := (hOj.out.tr ho13).tr0 hoX
            have hXB : Hid (Cells (w13.alloc (.cells #[.int .i64 x.fr, .int .i64 x.to, .string x.d] 37)) w13.heap.size 37 [.int .i64 x.fr, .int .i64 x.to, .string x.d]) := Cells.new _ _ _
            have f0' := fun u : Since (w13.alloc (.cells #[.int .i64 x.fr, .int .i64 x.to, .string x.d] 37)) => u.cell ((HOX.out.cell (p := ⟨g, j * 3, none⟩) hgl hgn).trans p0)
            have f1' := fun u : Since (w13.alloc (.cells #[.int .i64 x.fr, .int .i64 x.to, .string x.d] 37)) => u.cell ((HOX.out.cell (p := ⟨g, j * 3 + 1, none⟩) hgl hgn).trans p1')
            have f2' := fun u : Since (w13.alloc (.cells #[.int .i64 x.fr, .int .i64 x.to, .string x.d] 37)) => u.cell ((HOX.out.cell (p := ⟨g, j * 3 + 2, none⟩) hgl hgn).trans p2')
            have z0 := fun u : Since (w13.alloc (.cells #[.int .i64 x.fr, .int .i64 x.to, .string x.d] 37)) => u.cell (hXB.out.cell (k := 0) rfl)
            have z1 := fun u : Since (w13.alloc (.cells #[.int .i64 x.fr, .int .i64 x.to, .string x.d] 37)) => u.cell (hXB.out.cell (k := 1) rfl)
            have z2 := fun u : Since (w13.alloc (.cells #[.int .i64 x.fr, .int .i64 x.to, .string x.d] 37)) => u.cell (hXB.out.cell (k := 2) rfl)
            have CA : Hid (∀ u : Since (w13.alloc (.cells #[.int .i64 x.fr, .int .i64 x.to, .string x.d] 37)), Calls Try.prog 19 #[.pointer (some ⟨b, 0, none⟩), .int .i64 x.fr, .int .i64 x.to] u.w fun e w' => e = .returned (.bool false) ∧ Only [] u.w w') := fun u => by
              rw [← hap]; exact net_apart b b v13 f0 _ x.fr x.to u.w (HNX.out.only u.h)
            have HRB13 := Lib.hid hrb13
            clear h13 ho13 hrb13 p0 p1' p2'
            go_wp2_with fail
            refine wp_region_only (w13.alloc (.cells #[.int .i64 x.fr, .int .i64 x.to, .string x.d] 37)) (Only.refl _ _) (by kernel_rfl) (by kernel_rfl) ?_
            repeat (go_big_quiet_step ((go_at_call 19; refine Calls.only (CA.out _))))
            refine wpQuiet_nil ?_
            rintro ⟨w14, ho14⟩
            dsimp only
            clear z0 z1 z2 f0' f1' f2'
            go_wp2_with fail
            go_roundw
            case rel => exact ⟨j, v13, by omega, by go_num, HNX.out.only ho14, HRB13.out, HOX.out.tr0 ho14⟩
            case measure => simp [intOf]; try omega
end Go.Proofs.Ytllapfpakoobcaa
