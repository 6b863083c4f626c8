/-
  Contracts; each theorem bears its own conditions.
-/
import Derived.Deep.RegionHeld3
import Derived.Test.YtcjfmildalappaaGreatK21ae
set_option linter.all false
set_option maxRecDepth 100000
set_option maxHeartbeats 8000000
namespace Go.Proofs.YtcjfmildalappaaGreat.L16
open Go.RowKit
theorem ok_cases (now : Int) (x : Ls) (h : Wide64 x.till) : (okLs now x = false ∧ (decide (x.node < 0) = true ∨ (decide (x.node < 0) = false ∧ decide (9 < x.node) = true) ∨
 (decide (x.node < 0) = false ∧ decide (9 < x.node) = false ∧ (x.node == 0) = true ∧ (x.epoch != 0) = true) ∨
 (decide (x.node < 0) = false ∧ decide (9 < x.node) = false ∧ (x.node == 0) = true ∧ (x.epoch != 0) = false ∧ (x.till != 0) = true) ∨
 (decide (x.node < 0) = false ∧ decide (9 < x.node) = false ∧ (x.node == 0) = false ∧ decide (0 < x.node) = true ∧ decide (x.epoch < 1) = true) ∨
 (decide (x.node < 0) = false ∧ decide (9 < x.node) = false ∧ (x.node == 0) = false ∧ decide (0 < x.node) = true ∧ decide (x.epoch < 1) = false ∧ decide (1099511627776 < x.epoch) = true) ∨
 (decide (x.node < 0) = false ∧ decide (9 < x.node) = false ∧ (x.node == 0) = false ∧ decide (0 < x.node) = true ∧ decide (x.epoch < 1) = false ∧ decide (1099511627776 < x.epoch) = false ∧ decide (x.till < 6) = true) ∨
 (decide (x.node < 0) = false ∧ decide (9 < x.node) = false ∧ (x.node == 0) = false ∧ decide (0 < x.node) = true ∧ decide (x.epoch < 1) = false ∧ decide (1099511627776 < x.epoch) = false ∧ decide (x.till < 6) = false ∧ decide (now < wrap64 (x.till - 6)) = true))) ∨
 (okLs now x = true ∧ ((decide (x.node < 0) = false ∧ decide (9 < x.node) = false ∧ (x.node == 0) = true ∧ (x.epoch != 0) = false ∧ (x.till != 0) = false ∧ decide (0 < x.node) = false) ∨
  (decide (x.node < 0) = false ∧ decide (9 < x.node) = false ∧ (x.node == 0) = false ∧ decide (0 < x.node) = true ∧ decide (x.epoch < 1) = false ∧ decide (1099511627776 < x.epoch) = false ∧ decide (x.till < 6) = false ∧ decide (now < wrap64 (x.till - 6)) = false))) := by
 by_cases h1 : x.node < 0
 · exact .inl ⟨by unfold okLs; rw [if_neg (by omega)]; simp; omega, .inl (by simpa using h1)⟩
 have e1 : decide (x.node < 0) = false := by simpa using h1
 by_cases h2 : 9 < x.node
 · exact .inl ⟨by unfold okLs; rw [if_neg (by omega)]; simp; omega, .inr (.inl ⟨e1, by simpa using h2⟩)⟩
 have e2 : decide (9 < x.node) = false := by simpa using h2
 by_cases h3 : x.node = 0
 · have e3 : (x.node == 0) = true := by simpa using h3
   have e : okLs now x = (decide (x.epoch = 0) && decide (x.till = 0)) := by unfold okLs; rw [if_pos h3]
   rw [e]
   by_cases h4 : x.epoch = 0
   · have e4 : (x.epoch != 0) = false := by simpa using h4
     by_cases h5 : x.till = 0
     · exact .inr ⟨by simp [h4, h5], .inl ⟨e1, e2, e3, e4, by simpa using h5, by simp; omega⟩⟩
     · exact .inl ⟨by simp [h5], .inr (.inr (.inr (.inl ⟨e1, e2, e3, e4, by simpa using h5⟩)))⟩
   · exact .inl ⟨by simp [h4], .inr (.inr (.inl ⟨e1, e2, e3, by simpa using h4⟩))⟩
 have e3 : (x.node == 0) = false := by simpa using h3
 have e4 : decide (0 < x.node) = true := by simp; omega
 by_cases h5 : x.epoch < 1
 · exact .inl ⟨by unfold okLs; rw [if_neg h3]; simp; omega, .inr (.inr (.inr (.inr (.inl ⟨e1, e2, e3, e4, by simpa using h5⟩))))⟩
 have e5 : decide (x.epoch < 1) = false := by simpa using h5
 by_cases h6 : 1099511627776 < x.epoch
 · exact .inl ⟨by unfold okLs; rw [if_neg h3]; simp; omega, .inr (.inr (.inr (.inr (.inr (.inl ⟨e1, e2, e3, e4, e5, by simpa using h6⟩)))))⟩
 have e6 : decide (1099511627776 < x.epoch) = false := by simpa using h6
 by_cases h7 : x.till < 6
 · exact .inl ⟨by unfold okLs; rw [if_neg h3]; simp; omega, .inr (.inr (.inr (.inr (.inr (.inr (.inl ⟨e1, e2, e3, e4, e5, e6, by simpa using h7⟩))))))⟩
 have e7 : decide (x.till < 6) = false := by simpa using h7
 have hw := wrap_six (by omega) h
 rw [hw]
 by_cases h8 : now < x.till - 6
 · exact .inl ⟨by unfold okLs; rw [if_neg h3]; simp; omega, .inr (.inr (.inr (.inr (.inr (.inr (.inr ⟨e1, e2, e3, e4, e5, e6, e7, by simpa using h8⟩))))))⟩
 · exact .inr ⟨by unfold okLs; rw [if_neg h3]; simp; omega, .inr ⟨e1, e2, e3, e4, e5, e6, e7, by simpa using h8⟩⟩
theorem half_rows (l : List Ls) (k : Nat) (x : Ls) (h : l[k]? = some x) (hl : l.length = 8) (hk : k < 8) : (l.take k ++ List.replicate (8 - k) (⟨0, 0, 0⟩ : Ls)).set k x = l.take (k + 1) ++ List.replicate (8 - (k + 1)) (⟨0, 0, 0⟩ : Ls) := by
 have hlk : (l.take k).length = k := by rw [List.length_take]; omega
 rw [List.set_append_right (h := by omega), hlk, Nat.sub_self, show 8 - k = (8 - (k + 1)) + 1 from by omega, List.replicate_succ, List.set_cons_zero, List.take_add_one, h]
 simp
theorem own_ne9 {w : World} {B B' g gn cap cn n m : Nat} {xs ys : List Value} (h : w.ownsRow B 3 1 (.slice (some ⟨gn, 0, none⟩) n cn) n xs) (h' : w.ownsRow B' 137 3 (.slice (some ⟨g, 0, none⟩) m cap) m ys) : g ≠ gn := by
 rintro rfl
 obtain ⟨_, h | ⟨g1, c1, cur1, e1, _, hh1, _⟩⟩ := h
 · exact absurd h.1 (by simp)
 obtain ⟨_, h' | ⟨g2, c2, cur2, e2, _, hh2, _⟩⟩ := h'
 · exact absurd h'.1 (by simp)
 injection e1 with e1 _ _
 injection e1 with e1
 injection e1 with e1
 injection e2 with e2 _ _
 injection e2 with e2
 injection e2 with e2
 subst e1
 subst e2
 rw [hh1] at hh2
 injection hh2 with hh2
 injection hh2 with _ hh2
 exact absurd hh2 (by decide)
theorem ref_unpack (s : List UInt8) (w : World) (hl : s.length ≤ 100000000) :
 Calls Tryz.prog 179 #[.string ⟨s.toArray⟩] w (UnT (fun w' B b t => ∃ v, RfV w' B b v t) w s) := by
 obtain ⟨i0, hi0, hz0, hz1, hz2⟩ := info_parts info_int
 go_enter Tryz.func179, Tryz.ntmps179
 go_wp2_with fail
 refine (rf_new _).mono ?_
 rintro e w1 ⟨b, v, rfl, ho1, hr1⟩
 have HO1 := Hd ho1
 have HR1 := Hd hr1
 have hlt1 := hr1.cells.lt
 clear ho1 hr1
 go_wp2_with fail
 go_loopw [5, 6, 7] (fun nv sv i wq => ∃ (k : Nat) (ns : List Int) (r : List UInt8), k ≤ 25 ∧ i = .int .i64 k ∧ sv = .string ⟨r.toArray⟩ ∧ Hid (rdN k s = some (ns, r)) ∧ wq.ownsRow w1.heap.size 3 1 nv k (ivals ns) ∧ Only [] w1 wq) (fun _ _ i _ => 25 - (intOf i).toNat)
 case atStart => exact ⟨0, [], s, by omega, rfl, rfl, rfl, World.ownsRow_nil _ _ _ _, Only.refl _ _⟩
 case round =>
  obtain ⟨k, ns, r, hk, rfl, rfl, HRD, hrow, ho⟩ := hrel
  obtain ⟨hns, hwd, hsr⟩ := (rdN_iff _ _ _ _).1 HRD.out
  have hrl : r.length ≤ 100000000 := by rw [hsr, List.length_append] at hl; omega
  by_cases hk25 : k < 25
  · have hk25' : (k : Int) < 25 := by omega
    clear hwd hsr
    cases h1 : rdI r with
    | none =>
     have HU : Hid (unT s = none) := unT_short (k := k + 1) (by omega) (rdN_bad HRD.out h1)
     have CT := ref_toInt r wr (by omega)
     rw [h1] at CT
     have HCT := Hd CT
     clear CT h1
     go_wp2_with fail
     refine HCT.out.mono ?_
     rintro e w5 ⟨rfl, ho5⟩
     unfold rdV
     go_wp2_with fail
     go_ret2
     exact ⟨HO1.out.tr (ho.tr ho5), .inl ⟨HU.out, rfl⟩⟩
    | some p =>
     obtain ⟨n, r2⟩ := p
     have HN : Hid (rdN (k + 1) s = some (ns ++ [n], r2)) := rdN_next HRD.out h1
     have CT := ref_toInt r wr (by omega)
     rw [h1] at CT
     have HCT := Hd CT
     clear CT h1
     go_wp2_with fail
     refine HCT.out.mono ?_
     rintro e w5 ⟨rfl, ho5⟩
     unfold rdV
     have hrow5 := own_only hrow ho5 (by simp)
     have ho15 := ho.tr ho5
     clear hrow
     go_wp2_with (at_builtin
                  refine wpList_app rfl _ _ 27 rfl w1.heap.size 3 i0 _ 1 8 Tryz.underlying27 hi0 hz0 hz1 hz2 rfl (by decide) w5 u5 k (ivals ns) rfl hrow5 1 1 [.int .i64 n] rfl rfl (by simp [Value.oneCell']) (by simp only [maxLen]; omega) (by omega) ho15.size ?_
                  intro v' w' hown' hgrow _)
     go_roundw
     case rel => exact ⟨k + 1, ns ++ [n], r2, by omega, by go_num, rfl, HN, by simpa [ivals] using hown', ho15.own hrow5 hgrow (Nat.le_refl _)⟩
     case measure => simp [intOf]; omega
  · obtain rfl : k = 25 := by omega
    have hd1 : decide ((25 : Int) < 25) = false := by simp
    rw [show ((25 : Nat) : Int) = (25 : Int) from rfl]
    have HRD2 := Hd (unT_of HRD.out)
    obtain ⟨hcl, hlen, -⟩ := tbOf_facts ns hns
    have HF := Hd (tbOf_fit ns hns hwd)
    obtain ⟨t, ht⟩ : ∃ t, tbOf ns = t := ⟨_, rfl⟩
    rw [← hcl, ht] at hrow
    rw [ht] at HRD2 HF hlen
    clear ht hcl HRD hwd hsr hns
    obtain ⟨gn, cn, hu5⟩ := own_form hrow (by omega)
    subst hu5
    have hgn := hrow.lt gn rfl
    have p0 : wr.cell? ⟨gn, 0, none⟩ = some (.int .i64 t.now) := by rw [hrow.cellAt 0 (by omega)]; exact t.cell0
    have HRW := Hd hrow
    have hR := Hd (HR1.out.only ho)
    have c0 := hR.out.cells.cell (k := 0) rfl
    have f0 := hR.out.cells.frozen 0
    clear hrow
    go_wp2_with fail
    have hR2 : Hid (RfV (wr.setCell ⟨b, 0, none⟩ (.int .i64 t.now)) w.heap.size b v ⟨t.now, t.l.take 0 ++ List.replicate (8 - 0) ⟨0, 0, 0⟩⟩) := by
     obtain ⟨g, cap, rfl, _, _, hne, _⟩ := hR.out.form
     exact ⟨hR.out.ge, hR.out.cells.set 0 _, own_keep (S := [b]) hR.out.own (oz.setCell (.inl (by simp)) _) (fun x hx => by simp at hx; subst hx; simpa [Value.ownBlock] using hne), rfl⟩
    have hO2 : Hid (Only [] w (wr.setCell ⟨b, 0, none⟩ (.int .i64 t.now))) := (HO1.out.tr ho).setCell (.inr hR.out.ge) _
    have hRW2 : Hid ((wr.setCell ⟨b, 0, none⟩ (.int .i64 t.now)).ownsRow w1.heap.size 3 1 (.slice (some ⟨gn, 0, none⟩) 25 cn) 25 t.cells) := own_only (S := [b]) HRW.out (oz.setCell (.inl (by simp)) _) (by simp; omega)
    obtain ⟨w2, hw2⟩ : ∃ w2, wr.setCell ⟨b, 0, none⟩ (.int .i64 t.now) = w2 := ⟨_, rfl⟩
    rw [hw2] at hR2 hO2 hRW2 ⊢
    clear hw2 hR HRW c0 f0 p0 HR1 HO1
    obtain ⟨g, cap, rfl, hgB, hg2, hgb, -⟩ := hR2.out.form
    have hgg : g < w1.heap.size ∨ True := .inr trivial
    go_loopw [11] (fun i wq => ∃ k : Nat, k ≤ 8 ∧ i = .int .i64 k ∧ (∀ x ∈ t.l.take k, okLs t.now x = true) ∧ Only [] w wq ∧ Hid (RfV wq w.heap.size b (.slice (some ⟨g, 0, none⟩) 8 cap) ⟨t.now, t.l.take k ++ List.replicate (8 - k) ⟨0, 0, 0⟩⟩) ∧ Hid (wq.ownsRow w1.heap.size 3 1 (.slice (some ⟨gn, 0, none⟩) 25 cn) 25 t.cells)) (fun i _ => 8 - (intOf i).toNat)
    case atStart => exact ⟨0, by omega, rfl, by simp, hO2.out, hR2, hRW2⟩
    case round =>
     obtain ⟨k, hk, rfl, hok, hO, hR, hRW⟩ := hrel
     have HOK := Hd hok
     clear hok hR2 hO2 hRW2
     by_cases hk8 : k < 8
     · have hk8' : (k : Int) < 8 := by omega
       have hk1 := List.getElem?_eq_getElem (l := t.l) (i := k) (by omega)
       obtain ⟨x, hx⟩ : ∃ x, t.l[k]'(by omega) = x := ⟨_, rfl⟩
       rw [hx] at hk1
       have HM := Hd (List.mem_of_getElem? hk1)
       have HK := Hd hk1
       clear hx
       have n0 : wr.cell? ⟨gn, 1 + 3 * k, none⟩ = some (.int .i64 x.node) := (show wr.cell? ⟨gn, 1 + 3 * k, none⟩ = some (.int .i64 x.node) by rw [hRW.out.cellAt _ (by omega)]; have := t.cellj hk1 0 (by omega); rw [show 1 + 3 * k = 1 + (k * 3 + 0) from by omega]; exact this)
       have n1 : wr.cell? ⟨gn, 2 + 3 * k, none⟩ = some (.int .i64 x.epoch) := (show wr.cell? ⟨gn, 2 + 3 * k, none⟩ = some (.int .i64 x.epoch) by rw [hRW.out.cellAt _ (by omega)]; have := t.cellj hk1 1 (by omega); rw [show 2 + 3 * k = 1 + (k * 3 + 1) from by omega]; exact this)
       have n2 : wr.cell? ⟨gn, 3 + 3 * k, none⟩ = some (.int .i64 x.till) := (show wr.cell? ⟨gn, 3 + 3 * k, none⟩ = some (.int .i64 x.till) by rw [hRW.out.cellAt _ (by omega)]; have := t.cellj hk1 2 (by omega); rw [show 3 + 3 * k = 1 + (k * 3 + 2) from by omega]; exact this)
       clear hk1
       go_wp2_with fail
       have m3 : IntKind.i64.wrap (3 * (k : Int)) = 3 * (k : Int) := by simp [IntKind.wrap, IntKind.signed, IntKind.bits]; omega
       have m4 : ∀ j : Int, 1 ≤ j → j ≤ 3 → IntKind.i64.wrap (j + 3 * (k : Int)) = j + 3 * (k : Int) := fun j h1 h2 => by simp [IntKind.wrap, IntKind.signed, IntKind.bits]; omega
       have m41 := m4 1 (by omega) (by omega)
       have m42 := m4 2 (by omega) (by omega)
       have m43 := m4 3 (by omega) (by omega)
       have m51 : (0 : Int) ≤ 1 + 3 * (k : Int) := by omega
       have m52 : (0 : Int) ≤ 2 + 3 * (k : Int) := by omega
       have m53 : (0 : Int) ≤ 3 + 3 * (k : Int) := by omega
       have m61 : 1 + 3 * (k : Int) < 25 := by omega
       have m62 : 2 + 3 * (k : Int) < 25 := by omega
       have m63 : 3 + 3 * (k : Int) < 25 := by omega
       have m71 : (1 + 3 * (k : Int)).toNat = 1 + 3 * k := by omega
       have m72 : (2 + 3 * (k : Int)).toNat = 2 + 3 * k := by omega
       have m73 : (3 + 3 * (k : Int)).toNat = 3 + 3 * k := by omega
       clear m4
       have hgw := World.block_lt_of_cell? wr ⟨gn, 1 + 3 * k, none⟩ n0
       have hgne : gn ≠ wr.heap.size := by have : gn < wr.heap.size := hgw; omega
       have hgne2 : wr.heap.size ≠ gn := Ne.symm hgne
       go_region_held3 (fun w' : World => w'.cell? ⟨gn, 1 + 3 * k, none⟩ = some (.int .i64 x.node) ∧ w'.cell? ⟨gn, 2 + 3 * k, none⟩ = some (.int .i64 x.epoch) ∧ w'.cell? ⟨gn, 3 + 3 * k, none⟩ = some (.int .i64 x.till)) (go_keep) (fail)
       obtain ⟨wX, hwX⟩ : ∃ wX, (wr.alloc (.cells #[.int .i64 x.node, .int .i64 x.epoch, .int .i64 x.till] 137)).drew = wX := ⟨_, rfl⟩
       have hoX : Only [] wr wX := by rw [← hwX]; exact (oz.alloc _).drew
       have hX : Hid (Cells wX wr.heap.size 137 [.int .i64 x.node, .int .i64 x.epoch, .int .i64 x.till]) := by show Cells _ _ _ _; rw [← hwX]; exact (Cells.new _ _ _).drew
       rename_i hHeld
       clear hHeld m3 m41 m42 m43 m51 m52 m53 m61 m62 m63 m71 m72 m73 n0 n1 n2
       rw [hwX]
       clear hwX
       have hRX := Hd (hR.out.only hoX)
       have hRWX : Hid (wX.ownsRow w1.heap.size 3 1 (.slice (some ⟨gn, 0, none⟩) 25 cn) 25 t.cells) := own_only hRW.out hoX (by simp)
       have hOX := hO.tr hoX
       have hgwr : g < wr.heap.size := by obtain ⟨g', cap', e', _, hlt', _⟩ := hR.out.form; injection e' with e1'; injection e1' with e1'; injection e1' with e1'; subst e1'; exact hlt'
       have hgs : g ≠ wr.heap.size := by omega
       obtain ⟨z, hz⟩ : ∃ z, wr.heap.size = z := ⟨_, rfl⟩
       rw [hz] at hX hgs ⊢
       clear hR hRW hO hoX hgw hgne hgne2 hz hgwr
       have z0 := fun u : Since wX => u.cell (hX.out.cell (k := 0) rfl)
       have z1 := fun u : Since wX => u.cell (hX.out.cell (k := 1) rfl)
       have z2 := fun u : Since wX => u.cell (hX.out.cell (k := 2) rfl)
       have z3 := fun u : Since wX => u.cell (hRX.out.cells.cell (k := 0) rfl)
       have hcase := ok_cases t.now x (HF.out.till x HM.out)
       rcases hcase with ⟨hno, hcase⟩ | ⟨hyes, hcase⟩
       · have HN : Hid (unT s = none) := by
          show _ = _
          rw [HRD2.out, if_neg]
          rintro ⟨-, h2⟩
          unfold okT at h2
          rw [Bool.and_eq_true, Bool.and_eq_true, List.all_eq_true] at h2
          have := h2.1.1 x HM.out
          rw [hno] at this
          cases this
         clear hno HRD2
         rcases hcase with h1 | ⟨h1, h2⟩ | ⟨h1, h2, h3, h4⟩ | ⟨h1, h2, h3, h4, h5⟩ | ⟨h1, h2, h3, h4, h5⟩ | ⟨h1, h2, h3, h4, h5, h6⟩ | ⟨h1, h2, h3, h4, h5, h6, h7⟩ | ⟨h1, h2, h3, h4, h5, h6, h7, h8⟩
         all_goals
          go_wp2_with fail
          refine wp_region_only wX oz (by kernel_rfl) (by kernel_rfl) ?_
          repeat (go_big_quiet_step (fail))
          refine wpQuiet_nil ?_
          rintro ⟨w8, ho8⟩
          dsimp only
          clear z0 z1 z2 z3
          go_wp2_with fail
          go_ret2
          exact ⟨hOX.tr ho8, .inl ⟨HN.out, rfl⟩⟩
       · have HY := Hd hyes
         clear hyes
         have HZ : Hid ((t.l.take k ++ List.replicate (8 - k) (⟨0, 0, 0⟩ : Ls))[k]? = some ⟨0, 0, 0⟩) := by
          show _ = _
          have hlk : (t.l.take k).length = k := by rw [List.length_take]; omega
          rw [List.getElem?_append_right (by omega), hlk, Nat.sub_self, List.getElem?_replicate, if_pos (by omega)]
         have HH := Hd (half_rows t.l k x HK.out hlen hk8)
         rcases hcase with ⟨h1, h2, h3, h4, h5, h6⟩ | ⟨h1, h2, h3, h4, h5, h6, h7, h8⟩
         all_goals
          go_wp2_with fail
          refine wp_region_only wX oz (by kernel_rfl) (by kernel_rfl) ?_
          repeat (go_big_quiet_step (fail))
          refine wpQuiet_nil ?_
          rintro ⟨w8, ho8⟩
          dsimp only
          clear z0 z1 z2 z3
          have hR8 := Hd (hRX.out.only ho8)
          have hX8 := hX.out.only ho8 (by simp)
          have hRW8 := own_only hRWX.out ho8 (by simp)
          have y0 := fun u : Since w8 => u.cell (hX8.cell (k := 0) rfl)
          have y1 := fun u : Since w8 => u.cell (hX8.cell (k := 1) rfl)
          have y2 := fun u : Since w8 => u.cell (hX8.cell (k := 2) rfl)
          have y3 := fun u : Since w8 => u.cell (hR8.out.cells.cell (k := 1) rfl)
          go_wp2_with fail
          refine wp_region_only_tail w8 oz 7 (by kernel_rfl) (by kernel_rfl) ?_
          simp only [tk1, tk0, dr1, dr0]
          repeat (go_big_quiet_step (fail))
          refine wpQuiet_nil ?_
          rintro ⟨w9, ho9⟩
          dsimp only
          clear y0 y1 y2 y3
          have hR9 := Hd (hR8.out.only ho9)
          have hRW9 := own_only hRW8 ho9 (by simp)
          have f0 := hR9.out.frozen (k * 3)
          have f1 := hR9.out.frozen (k * 3 + 1)
          have f2 := hR9.out.frozen (k * 3 + 2)
          obtain ⟨g', cap', e', hB', hlt', hgb', hc'⟩ := hR9.out.form
          injection e' with e1' e2' e3'
          injection e1' with e1'
          injection e1' with e1'
          subst e1'
          subst e3'
          obtain ⟨q0, q1, q2⟩ := hc' k _ HZ.out
          have hO9 : Only [] w w9 := (hOX.tr ho8).tr ho9
          have hP := hR9.out.put HZ.out hgb x
          rw [show (Tb.mk t.now (t.l.take k ++ List.replicate (8 - k) ⟨0, 0, 0⟩)).l = t.l.take k ++ List.replicate (8 - k) ⟨0, 0, 0⟩ from rfl, HH.out] at hP
          have HP := Hd hP
          have hggn : Hid (g ≠ gn) := own_ne9 hRW9 hR9.out.own
          have hO10 : Hid (Only [] w (((w9.setCell ⟨g, k * 3, none⟩ (.int .i64 x.node)).setCell ⟨g, k * 3 + 1, none⟩ (.int .i64 x.epoch)).setCell ⟨g, k * 3 + 2, none⟩ (.int .i64 x.till))) := ((hO9.setCell (.inr hgB) _).setCell (.inr hgB) _).setCell (.inr hgB) _
          have hRW10 : Hid ((((w9.setCell ⟨g, k * 3, none⟩ (.int .i64 x.node)).setCell ⟨g, k * 3 + 1, none⟩ (.int .i64 x.epoch)).setCell ⟨g, k * 3 + 2, none⟩ (.int .i64 x.till)).ownsRow w1.heap.size 3 1 (.slice (some ⟨gn, 0, none⟩) 25 cn) 25 t.cells) :=
           own_keep (S := [g]) hRW9 (((oz.setCell (.inl (by simp)) _).setCell (.inl (by simp)) _).setCell (.inl (by simp)) _) (fun y hy => by simp at hy; subst hy; simp [Value.ownBlock]; exact fun h => hggn.out h.symm)
          clear hc' hR8 hX8 hRW8 hR9 hRW9 hP hRX hX hRWX hOX hO9
          go_wp2_with fail
          go_roundw
          case rel =>
           refine ⟨k + 1, by omega, by go_num, fun y hy => ?_, hO10.out, HP, hRW10⟩
           rw [List.take_add_one, HK.out] at hy
           rcases List.mem_append.1 hy with hy | hy
           · exact HOK.out y hy
           · simp at hy; subst hy; exact HY.out
          case measure => simp [intOf]; omega
     · obtain rfl : k = 8 := by omega
       have hd2 : decide ((8 : Int) < 8) = false := by simp
       have hall : Hid (∀ x ∈ t.l, okLs t.now x = true) := fun x hx => HOK.out x (by rw [List.take_of_length_le (by omega)]; exact hx)
       have HU : Hid (unT s = if r = [] ∧ 0 ≤ t.now ∧ t.now ≤ 1099511627776 then some t else none) := by
        show _ = _
        rw [HRD2.out]
        have : okT t = true ↔ 0 ≤ t.now ∧ t.now ≤ 1099511627776 := by
         unfold okT
         rw [List.all_eq_true.2 hall.out]; simp
        simp only [this]
       have m0 := hR.out.cells.cell (k := 0) rfl
       have HRt : Hid (RfV wr w.heap.size b (.slice (some ⟨g, 0, none⟩) 8 cap) t) := by
        have := hR.out
        rw [List.take_of_length_le (by omega), Nat.sub_self, List.replicate_zero, List.append_nil] at this
        exact this
       have hwn := HF.out.now
       clear HOK hall HRD2 hR hRW
       cases r with
       | cons c r' =>
        have hne : ¬ (⟨(c :: r').toArray⟩ : ByteArray).toList = [] := by rw [ba_toList]; simp
        have HN : Hid (unT s = none) := by show _ = _; rw [HU.out, if_neg (by simp)]
        clear HU
        obtain ⟨R, hR⟩ : ∃ R : ByteArray, (⟨(c :: r').toArray⟩ : ByteArray) = R := ⟨_, rfl⟩
        rw [hR] at hne ⊢
        clear hR
        go_wp2_with fail
        go_ret2
        exact ⟨hO, .inl ⟨HN.out, rfl⟩⟩
       | nil =>
        by_cases h0 : 0 ≤ t.now
        · have e0 : decide (t.now < 0) = false := by simpa using h0
          by_cases h1 : t.now ≤ 1099511627776
          · have e1 : decide (1099511627776 < t.now) = false := by simpa using h1
            have HN : Hid (unT s = some t) := by show _ = _; rw [HU.out, if_pos ⟨rfl, h0, h1⟩]
            clear h0 h1 HU
            go_wp2_with fail
            go_ret2
            exact ⟨hO, .inr ⟨t, b, HN.out, rfl, _, HRt.out⟩⟩
          · have e1 : decide (1099511627776 < t.now) = true := by simp; omega
            have HN : Hid (unT s = none) := by show _ = _; rw [HU.out, if_neg (by omega)]
            clear h0 h1 HU
            go_wp2_with fail
            go_ret2
            exact ⟨hO, .inl ⟨HN.out, rfl⟩⟩
        · have e0 : decide (t.now < 0) = true := by simp; omega
          have HN : Hid (unT s = none) := by show _ = _; rw [HU.out, if_neg (by omega)]
          clear h0 HU
          go_wp2_with fail
          go_ret2
          exact ⟨hO, .inl ⟨HN.out, rfl⟩⟩
end Go.Proofs.YtcjfmildalappaaGreat.L16
