/-
  RlogAdds: the walk.
-/
import Derived.Test.YtagklgodcbmcaaaR8r
namespace Go.Proofs.Ytagklgodcbmcaaa
open Go.RowKit
set_option maxRecDepth 100000 in
set_option maxHeartbeats 8000000 in
theorem rlogAdds_walk (W : World) (b : Int) (wb : (Lit.int .i64 b).wf = true) (v : Value) (ps : List Pt) (hP : PtsAt W v ps) (_ : True) (size : Int) (ws : (Lit.int .i64 size).wf = true) :
    Calls Try.prog 5 #[.int .i64 b, v, .int .i64 size] W fun e W' => e = .returned (.bool true) ∧ Only [] W W' := by
  obtain ⟨i0, hi0, hz0, hz1, hz2⟩ := info_parts info_ent
  have CS := Lib.hid (fun w (ho : Only [] W w) => small8 v ps w (hP.only ho))
  have hwb := wide64_of_wf wb
  have hws := wide64_of_wf ws
  obtain ⟨A, c, rfl⟩ := hP.shape
  have HP := Lib.hid hP
  clear hP
  cases hsm : smallB ps with
  | false =>
    rw [hsm] at CS
    go_enter Try.func5, Try.ntmps5
    go_wp2_with fail
    refine (shown8 W).mono ?_
    rintro e w1 ⟨rfl, ho⟩
    go_wp2_with fail
    refine (CS.out _ ho).mono ?_
    rintro e w2 ⟨rfl, ho2⟩
    go_wp2_with fail
    go_ret
    exact ⟨rfl, ho.tr ho2⟩
  | true =>
    rw [hsm] at CS
    obtain ⟨h60, hsp⟩ := smallB_iff hsm
    have HSM := Lib.hid hsm
    have HSP := Lib.hid hsp
    clear hsm hsp
    go_enter Try.func5, Try.ntmps5
    go_wp2_with fail
    refine (shown8 W).mono ?_
    rintro e w1 ⟨rfl, ho1⟩
    go_wp2_with fail
    refine (CS.out _ ho1).mono ?_
    rintro e w2 ⟨rfl, ho2⟩
    have o2 := Lib.hid (ho1.tr ho2)
    clear ho1 ho2 CS
    go_wp2_with fail
    refine (base8 b 1 w2 hwb ⟨by omega, by omega⟩).mono ?_
    rintro e w3 ⟨v', rfl, hown, ho3⟩
    obtain ⟨hb0, hb30, hb3⟩ := bas_bound b 1
    obtain ⟨x, hx⟩ : ∃ x, bas b 1 = x := ⟨_, rfl⟩
    rw [hx] at hown hb0 hb30 hb3 ⊢
    have o3 := Lib.hid (o2.out.tr ho3)
    have HR := Lib.hid hown
    obtain ⟨A', c', rfl⟩ := (SlAt.of_own hown).shape
    have HB3 := Lib.hid hb3
    unfold Bas.val
    clear hown ho3 hx hb3
    go_wp2_with fail
    have HX := Lib.hid (Cells.new w3 27 [.int .i64 x.ix, .int .i64 x.tm, .slice A' x.vs.length c', .string x.d])
    have oA : Only [] w3 (w3.alloc (.cells #[.int .i64 x.ix, .int .i64 x.tm, .slice A' x.vs.length c', .string x.d] 27)) := (Only.refl _ w3).alloc _
    have o4 := Lib.hid (o3.out.tr oA)
    refine (la_new W _ o4.out x (.slice A' x.vs.length c') _ [] ((SlAt.of_own (HR.out.alloc _)).more (Nat.le_refl _)) (World.ownsRow_nil _ _ _ _) hb0 (by simp; omega) (by rw [HB3.out]; omega) (by intro y hy; cases hy) ⟨x, []⟩ rfl).mono ?_
    clear oA
    rintro e w5 ⟨bb, K, rfl, hL, oL, kL⟩
    have hzK : Hid (w3.heap.size ∉ K) := Lib.hid fun hm => by have := kL.out _ hm; simp at this; omega
    have HX5 := Lib.hid (HX.out.only oL.out (by simp))
    obtain ⟨z, hz⟩ : ∃ z, w3.heap.size = z := ⟨_, rfl⟩
    rw [hz] at hzK HX5 ⊢
    clear HX o4 kL hz oL HR o3
    go_wp2_with fail
    go_loopw [11, 12] (fun u i wr => ∃ (k : Nat) (K : List Nat), k ≤ ps.length ∧ i = .int .i64 k ∧ Hid (EnW W wr K u (entL (ps.take k) (x.ix + 1))) ∧ Hid (LogAt W wr K bb ⟨x, entL (ps.take k) (x.ix + 1)⟩) ∧ Hid (Cells wr z 27 [.int .i64 x.ix, .int .i64 x.tm, .slice A' x.vs.length c', .string x.d]) ∧ Hid (z ∉ K)) (fun _ i _ => ps.length - (intOf i).toNat)
    case atStart => exact ⟨0, K, by omega, rfl, Lib.hid (EnW.nil _ _ _), hL, HX5, hzK⟩
    case round =>
      obtain ⟨k, K, hk, rfl, hE, hL, HX, hzK⟩ := hrel
      by_cases hlt : k < ps.length
      · have hlt' : (k : Int) < (ps.length : Int) := by omega
        obtain ⟨p, hp⟩ : ∃ p, ps[k]? = some p := ⟨_, List.getElem?_eq_getElem hlt⟩
        have hPr := HP.out.only hL.out.only
        obtain ⟨b1, o1, c1', e1, hb1, q0, q1, q2, q3⟩ := hPr.at_ hp
        injection e1 with i1 i2 i3
        subst i1; subst i3
        have hpm := List.mem_of_getElem? hp
        have hok := hPr.ok p hpm
        obtain ⟨y, hy⟩ : ∃ y, p.en (x.ix + 1 + k) = y := ⟨_, rfl⟩
        have hyd : y.d.size ≤ 310 := by rw [← hy]; exact Pt.text_size ((HP.out.only hL.out.only).ok p hpm) (HSP.out p hpm).1 (HSP.out p hpm).2
        have htk : Hid (entL (ps.take (k + 1)) (x.ix + 1) = entL (ps.take k) (x.ix + 1) ++ [y]) := by
          show _ = _
          rw [List.take_add_one, hp]
          show entL (ps.take k ++ [p]) (x.ix + 1) = _
          rw [entL_append, List.length_take, Nat.min_eq_left hk, ← hy]
          rfl
        have hyl : Hid (y.ix = x.ix + k + 1) := by show _ = _; rw [← hy]; show x.ix + 1 + (k : Int) = _; omega
        have CE := Lib.hid (fun w' (ho : Only [] wr w') => entry8 p (x.ix + 1 + k) w' (hok.only ho) (HSP.out p hpm).2)
        rw [hy] at CE
        unfold Pt.val En.val at CE
        clear hy
        obtain ⟨vA, vc, hvv⟩ := hok.sl.shape
        rw [hvv] at q3 CE
        have HPK := Lib.hid hp
        have HS : Hid (∀ w', Only [] wr w' → w'.cell? ⟨b1, o1 + k * 4, none⟩ = some (.int .i64 p.tm) ∧ w'.cell? ⟨b1, o1 + k * 4 + 1, none⟩ = some (.int .i64 p.kd) ∧ w'.cell? ⟨b1, o1 + k * 4 + 2, none⟩ = some (.string p.d) ∧ w'.cell? ⟨b1, o1 + k * 4 + 3, none⟩ = some (.slice vA p.vs.length vc) ∧ w'.cell? ⟨z, 0, none⟩ = some (.int .i64 x.ix)) :=
          Lib.hid fun w' ho => ⟨(ho.cell hb1 (by simp)).trans q0, (ho.cell hb1 (by simp)).trans q1, (ho.cell hb1 (by simp)).trans q2, (ho.cell hb1 (by simp)).trans q3, (HX.out.only ho (by simp)).cell (k := 0) rfl⟩
        have sw1 : IntKind.i64.wrap (x.ix + 1) = x.ix + 1 := IntWalk.i64_in _ (by omega)
        have sw2 : IntKind.i64.wrap (x.ix + 1 + (k : Int)) = x.ix + 1 + (k : Int) := IntWalk.i64_in _ (by omega)
        have sk1 : (0 : Int) ≤ (k : Int) := by omega
        clear hPr hok q0 q1 q2 q3 i2 hvv hp
        go_wp2_with fail
        go_region_held3 (fun w' : World => w'.cell? ⟨b1, o1 + k * 4, none⟩ = some (.int .i64 p.tm) ∧ w'.cell? ⟨b1, o1 + k * 4 + 1, none⟩ = some (.int .i64 p.kd) ∧ w'.cell? ⟨b1, o1 + k * 4 + 2, none⟩ = some (.string p.d) ∧ w'.cell? ⟨b1, o1 + k * 4 + 3, none⟩ = some (.slice vA p.vs.length vc) ∧ w'.cell? ⟨z, 0, none⟩ = some (.int .i64 x.ix))
          (exact HS.out _ (by repeat (first | exact Only.refl _ _ | refine Only.drew ?_ | refine Only.alloc ?_ _ | refine Only.setCell ?_ (.inr ?_) _ | refine Only.tr ?_ (by assumption) | exact Nat.le_refl _ | (simp; done) | (simp; omega))))
          (first
            | (go_at_call 30; refine (CE.out wr.drew (Only.refl _ _).drew).mono ?_; rintro e w6 ⟨rfl, ho6⟩)
            | (go_at_call 30; refine (CE.out (wr.drew.alloc (.cells #[.int .i64 0, .int .i64 0, .int .i64 0, .string ⟨#[]⟩] 40)) ((Only.refl _ _).drew.alloc _)).mono ?_; rintro e w6 ⟨rfl, ho6⟩
               have hc6 : Cells w6 wr.heap.size 40 [.int .i64 0, .int .i64 0, .int .i64 0, .string ⟨#[]⟩] := (Cells.new wr.drew 40 [.int .i64 0, .int .i64 0, .int .i64 0, .string ⟨#[]⟩]).only ho6 (by simp)
               have k0 := hc6.cell (k := 0) rfl
               have k1 := hc6.cell (k := 1) rfl
               have k2 := hc6.cell (k := 2) rfl
               have k3 := hc6.cell (k := 3) rfl
               have f0 := hc6.frozen 0
               have f1 := hc6.frozen 1
               have f2 := hc6.frozen 2
               have f3 := hc6.frozen 3
               have l6 := hc6.lt
               have HC6 := Lib.hid hc6
               clear hc6))
        all_goals
          rename_i hHeld
          clear hHeld CE HS
        all_goals
          first
          | (have hYA : Cells (w6.alloc (.cells #[.int .i64 y.ix, .int .i64 y.tm, .int .i64 y.kd, .string y.d] 40)) w6.heap.size 40 y.cells := Cells.new w6 _ _
             have hoA : Only [] wr (w6.alloc (.cells #[.int .i64 y.ix, .int .i64 y.tm, .int .i64 y.kd, .string y.d] 40)) := (((Only.refl _ wr).drew).tr ho6).alloc _
             have hzw : wr.heap.size ≤ w6.heap.size := ho6.size
             obtain ⟨WA, hWA⟩ : ∃ WA, w6.alloc (.cells #[.int .i64 y.ix, .int .i64 y.tm, .int .i64 y.kd, .string y.d] 40) = WA := ⟨_, rfl⟩
             obtain ⟨z2, hz⟩ : ∃ z2, w6.heap.size = z2 := ⟨_, rfl⟩
             rw [hWA] at hYA hoA ⊢
             rw [hz] at hYA hzw ⊢
             clear hWA hz ho6)
          | (have hYA : Cells ((((w6.setCell ⟨wr.heap.size, 0, none⟩ (.int .i64 y.ix)).setCell ⟨wr.heap.size, 1, none⟩ (.int .i64 y.tm)).setCell ⟨wr.heap.size, 2, none⟩ (.int .i64 y.kd)).setCell ⟨wr.heap.size, 3, none⟩ (.string y.d)) wr.heap.size 40 y.cells := (((HC6.out.set 0 _).set 1 _).set 2 _).set 3 _
             have hoA : Only [] wr ((((w6.setCell ⟨wr.heap.size, 0, none⟩ (.int .i64 y.ix)).setCell ⟨wr.heap.size, 1, none⟩ (.int .i64 y.tm)).setCell ⟨wr.heap.size, 2, none⟩ (.int .i64 y.kd)).setCell ⟨wr.heap.size, 3, none⟩ (.string y.d)) := ((((((Only.refl _ wr).drew.alloc _).tr ho6).setCell (.inr (Nat.le_refl _)) _).setCell (.inr (Nat.le_refl _)) _).setCell (.inr (Nat.le_refl _)) _).setCell (.inr (Nat.le_refl _)) _
             have hzw : wr.heap.size ≤ wr.heap.size := Nat.le_refl _
             obtain ⟨WA, hWA⟩ : ∃ WA, (((w6.setCell ⟨wr.heap.size, 0, none⟩ (.int .i64 y.ix)).setCell ⟨wr.heap.size, 1, none⟩ (.int .i64 y.tm)).setCell ⟨wr.heap.size, 2, none⟩ (.int .i64 y.kd)).setCell ⟨wr.heap.size, 3, none⟩ (.string y.d) = WA := ⟨_, rfl⟩
             rw [hWA] at hYA hoA ⊢
             clear k0 k1 k2 k3 f0 f1 f2 f3 l6 hWA HC6 ho6
             obtain ⟨z2, hz⟩ : ∃ z2, z2 = wr.heap.size := ⟨_, rfl⟩
             rw [← hz] at hYA ⊢
             replace hzw : wr.heap.size ≤ z2 := Nat.le_of_eq hz.symm
             clear hz)
        all_goals
          obtain ⟨l, hl⟩ : ∃ l, entL (ps.take k) (x.ix + 1) = l := ⟨_, rfl⟩
          have hll : l.length = k := by rw [← hl, entL_length, List.length_take, Nat.min_eq_left hk]
          rw [hl] at hE hL htk
          have hEA := hE.out.keep hoA (by simp)
          have hLA := hL.out.to hoA
          have hXA := HX.out.only hoA (by simp)
          have hzy : z2 ∉ K := fun hm => by have := hL.out.k.below _ hm; omega
          have hzz : z2 ≠ z := fun h => by have := HX.out.lt; omega
          have hrow : ∀ q, u11.ownBlock = some q → q < z2 := fun q hq => Nat.lt_of_lt_of_le (hE.out.own.lt q hq).2 hzw
          have hz2l : z2 < WA.heap.size := hYA.lt
          have HEA := Lib.hid hEA
          have HLA := Lib.hid hLA
          have HXA := Lib.hid hXA
          have HYA := Lib.hid hYA
          have HROW := Lib.hid hrow
          have HZY := Lib.hid hzy
          have y0 := hYA.cell (k := 0) rfl
          have y1 := hYA.cell (k := 1) rfl
          have y2 := hYA.cell (k := 2) rfl
          have y3 := hYA.cell (k := 3) rfl
          clear hEA hLA hXA hYA hrow hzy hE hL HX hl hoA HPK hpm
          go_wp2_with (at_builtin
                       refine wpList_appA rfl _ _ 31 rfl W.heap.size 40 i0 _ 4 40 Try.underlying31 hi0 hz0 hz1 hz2 rfl (by decide) WA u11 l.length (enL l) rfl HEA.out.own 1 1 y.cells (by rfl) (by rfl) (by simp [En.cells, Value.oneCell']) (by simp only [maxLen]; omega) (by omega) HLA.out.only.size ?_
                       intro v' w' hown' hgrow hnew)
          have hoW : Only (rb u11) WA w' := (Only.refl _ WA).grown hgrow (fun g hg => .inl (by simp [rb, hg]))
          have hrK : ∀ q, q ∈ rb u11 → q ∉ K := fun q hq => HEA.out.off q (mem_rb.1 hq)
          have hoWW : Only [] W w' := HLA.out.only.trans hoW (fun q hq => .inr (HEA.out.own.lt q (mem_rb.1 hq)).1)
          have hLW := Lib.hid (HLA.out.keep hoW (fun q hq => hrK q hq) hoWW)
          have hEW : Hid (EnW W w' K v' (l ++ [y])) := Lib.hid ⟨by rw [List.length_append, List.length_singleton, enL_append]; exact hown', fun q hq hm => (hnew q hq).elim (fun h => HEA.out.off q h hm) (fun h => by have := HLA.out.k.below q hm; omega)⟩
          have hXW := Lib.hid (HXA.out.only hoW (fun hm => own_ne_block HEA.out.own HXA.out (by decide) (mem_rb.1 hm)))
          have hYW := Lib.hid (HYA.out.only hoW (fun hm => by have := HROW.out _ (mem_rb.1 hm); omega))
          have HNY : Hid (v'.ownBlock ≠ some z2) := Lib.hid fun h => (hnew z2 h).elim (fun h => by have := HROW.out _ h; omega) (fun h => by omega)
          clear y0 y1 y2 y3 HEA HXA HYA HLA hoW hrK hoWW hown' hgrow hnew HROW
          have d0 : (y.ix == y.ix) = true := beq_self_eq_true _
          have d1 : (y.tm == y.tm) = true := beq_self_eq_true _
          have d2 : (y.kd == y.kd) = true := beq_self_eq_true _
          have d3 : (y.d.toList == y.d.toList) = true := beq_self_eq_true _
          have dl : ((⟨x, l ++ [y]⟩ : LG).last == y.ix) = true := by rw [beq_iff_eq]; unfold LG.last; rw [hyl.out]; simp [hll]; omega
          have CA : Hid (∀ w1, Only [] w' w1 → Calls Try.prog 31 #[.pointer (some ⟨bb, 0, none⟩), .int .i64 y.tm, .int .i64 y.kd, .string y.d] w1 fun e w2 => e = .returned (.agg #[.int .i64 y.ix, .int .i64 y.tm, .int .i64 y.kd, .string y.d]) ∧ ∃ K', Hid (LogAt W w2 K' bb ⟨x, l ++ [y]⟩) ∧ Hid (Grew w1 w2 K K')) := Lib.hid fun w1 ho => by
            have hlast : (⟨x, l⟩ : LG).last + 1 = y.ix := by unfold LG.last; dsimp only; rw [hyl.out, hll]
            have hnew : (⟨x, l⟩ : LG).new y.tm y.kd y.d = y := by unfold LG.new; rw [hlast]
            have := la_add (Lib.hid (hLW.out.to ho)) y.tm y.kd y.d (by have := hyl.out; omega) (by omega) ⟨x, l ++ [y]⟩ (by rw [hnew])
            rw [hlast] at this
            exact this
          go_wp2_with fail
          go_region_held3 (fun w' : World => w'.cell? ⟨z2, 0, none⟩ = some (.int .i64 y.ix) ∧ w'.cell? ⟨z2, 1, none⟩ = some (.int .i64 y.tm) ∧ w'.cell? ⟨z2, 2, none⟩ = some (.int .i64 y.kd) ∧ w'.cell? ⟨z2, 3, none⟩ = some (.string y.d))
            (first
              | exact en_cells hYW.out.drew
              | exact en_cells (hYW.out.drew.only hG9.out.only HZY.out)
              | exact en_cells ((hYW.out.drew.only hG9.out.only HZY.out).only ho10.out (by simp)))
            (first
              | (go_at_call 31; refine (CA.out _ (Only.refl [] _).drew).mono ?_; rintro e w9 ⟨rfl, K9, hL9, hG9⟩)
              | (go_at_call 21; refine (la_last hL9).mono ?_; rintro e w10 ⟨rfl, hL10, ho10⟩))
          rename_i hHeld
          clear hHeld
          have HE10 : Hid (EnW W w10 K9 v' (entL (ps.take (k + 1)) (x.ix + 1))) := Lib.hid (by rw [htk.out]; exact ((hEW.out.only (Only.refl [] _).drew).grew hG9.out).only ho10.out)
          have HX10 := Lib.hid (((hXW.out.drew).only hG9.out.only hzK.out).only ho10.out (by simp))
          have HZ10 : Hid (z ∉ K9) := Lib.hid fun hm => (hG9.out.blocks z hm).elim hzK.out (fun h => by have := hXW.out.lt; simp at h; omega)
          rw [← htk.out] at hL10
          clear CA d0 d1 d2 d3 hEW hXW hYW hLW
          go_wp2_with fail
          go_roundw
          case rel => exact ⟨k + 1, K9, by omega, by go_num, HE10, hL10, HX10, HZ10⟩
          case measure => simp [intOf]; omega
      · obtain rfl : k = ps.length := by omega
        have hd : decide ((ps.length : Int) < (ps.length : Int)) = false := by simp
        rw [List.take_length] at hE hL
        have CP := Lib.hid (fun w' => pick8 size 7 w' hws (by omega) (by omega))
        obtain ⟨hp0, hp7⟩ := pickI_lt size 7 (by omega)
        obtain ⟨st, hst⟩ : ∃ st : Nat, pickI size 7 = st := ⟨(pickI size 7).toNat, by omega⟩
        rw [hst] at CP hp7
        clear hst hp0
        have x0 := HX.out.cell (k := 0) rfl
        go_wp2_with ((go_at_call 22; refine (CP.out _).mono ?_; rintro e w' ⟨rfl, rfl⟩))
        obtain ⟨wo, rfl⟩ : ∃ wo : World, wo = wr := ⟨_, rfl⟩
        obtain ⟨l, hl⟩ : ∃ l, entL ps (x.ix + 1) = l := ⟨_, rfl⟩
        have hll : Hid (l.length = ps.length) := by show _ = _; rw [← hl, entL_length]
        obtain ⟨N, hN⟩ : ∃ N, ps.length = N := ⟨_, rfl⟩
        rw [hl] at hE hL
        have hlast : Hid ((⟨x, l⟩ : LG).last = x.ix + (N : Int)) := by show _ = _; unfold LG.last; rw [hll.out, hN]
        rw [hN] at hll h60
        have HSA := Lib.hid (hE.out.sl)
        clear hl hN
        have HOK : Hid (∀ w', Only [] W w' → True) := Lib.hid fun _ _ => trivial
        go_loopw [15, 16] (fun u i wr => ∃ j : Nat, j ≤ 70 ∧ i = .int .i64 (x.ix + 1 + j) ∧ Hid (EnW W wr K u (l.take j)) ∧ Hid (LogAt W wr K bb ⟨x, l⟩) ∧ Hid (Cells wr z 27 [.int .i64 x.ix, .int .i64 x.tm, .slice A' x.vs.length c', .string x.d]) ∧ Hid (EnW W wr K u11 l) ∧ Hid (∀ q, u.ownBlock = some q → q ≠ z ∧ u11.ownBlock ≠ some q)) (fun _ i _ => (x.ix + 80 - intOf i).toNat)
        case atStart => exact ⟨0, by omega, by go_num, Lib.hid (EnW.nil _ _ _), hL, HX, hE, Lib.hid fun q hq => by simp [Value.ownBlock] at hq⟩
        case round =>
          obtain ⟨j, hj, rfl, hA, hL, HX, hE, hQ⟩ := hrel
          have x0 := HX.out.cell (k := 0) rfl
          have CL := Lib.hid (la_last hL)
          rw [hlast.out] at CL
          by_cases hlt : j < N
          · have hd : decide (x.ix + 1 + (j : Int) ≤ x.ix + (N : Int)) = true := by simp; omega
            go_wp2_with fail
            refine CL.out.mono ?_
            rintro e w6 ⟨rfl, hL6, ho6⟩
            go_wp2_with fail
            refine (la_slice hL6 _ _ ((l.drop j).take (1 + st)) ?_).mono ?_
            · unfold LG.slice
              rw [hlast.out, if_neg (by dsimp only; omega)]
              dsimp only
              rw [show (x.ix + 1 + (j : Int) - x.ix - 1).toNat = j from by omega, show (1 + (st : Int)).toNat = 1 + st from by omega]
            rintro e w7 ⟨A7, c7, rfl, hr7, hL7, ho7⟩
            obtain ⟨m, hm⟩ : ∃ m, (l.drop j).take (1 + st) = m := ⟨_, rfl⟩
            rw [hm] at hr7 ⊢
            have hml : m.length = min (1 + st) (N - j) := by rw [← hm, List.length_take, List.length_drop, hll.out]
            obtain ⟨q7, c7', hv7⟩ := own_formX hr7.out (by omega)
            injection hv7 with e1 e2 e3
            subst e1
            clear e2 e3
            have hA7 := Lib.hid ((hA.out.only ho6.out).only ho7.out)
            have HX7 := Lib.hid ((HX.out.only ho6.out (by simp)).only ho7.out (by simp))
            have HE7 := Lib.hid ((hE.out.only ho6.out).only ho7.out)
            have htl : (l.take j).length = j := by rw [List.length_take, hll.out]; omega
            have htk : Hid (l.take j ++ m = l.take (j + (1 + st))) := by show _ = _; rw [← hm]; exact (List.take_add).symm
            have HM := Lib.hid hm
            have HTL := Lib.hid htl
            have HSL := Lib.hid (SlAt.of_own hr7.out)
            have hjN : j + m.length ≤ 60 := by omega
            clear hm hml htl ho6 hL6 hA hE HX x0 CL
            go_wp2_with (at_builtin
                         go_loud (refine wpList_appXA rfl _ _ 31 rfl W.heap.size 40 i0 _ 4 40 Try.underlying31 hi0 hz0 hz1 hz2 rfl (by decide) w7 u15 (l.take j).length (enL (l.take j)) rfl hA7.out.own w7.heap.size m.length (enL m) ⟨q7, 0, none⟩ c7 rfl HSL.out (enL_one m) (by rw [HTL.out]; simp only [maxLen]; omega) (by rw [HTL.out]; omega) hL7.out.only.size ?_)
                         intro v' w' hown' hgrow hnew)
            obtain ⟨hA8, hL8, ho8⟩ := hA7.out.app hL7.out hown' hgrow hnew
            rw [htk.out] at hA8
            have HA8 := Lib.hid hA8
            have HL8 := Lib.hid hL8
            have HX8 := Lib.hid (HX7.out.only ho8 (fun hm => (hQ.out z (mem_rb.1 hm)).1 rfl))
            have HE8 : Hid (EnW W w' K u11 l) := Lib.hid ⟨own_keep HE7.out.own ho8 (fun q hq he => (hQ.out q (mem_rb.1 hq)).2 he), HE7.out.off⟩
            have HQ8 : Hid (∀ q, v'.ownBlock = some q → q ≠ z ∧ u11.ownBlock ≠ some q) := Lib.hid fun q hq => (hnew q hq).elim (hQ.out q) fun h => ⟨fun e => by have := HX7.out.lt; omega, fun e => by have := (HE7.out.own.lt q e).2; omega⟩
            clear hA7 HX7 HE7 hA8 hL8 ho8 hown' hgrow hnew hr7 HSL hQ hL7 ho7
            go_wp2_with fail
            go_roundw
            case rel => exact ⟨j + (1 + st), by omega, by go_num, HA8, HL8, HX8, HE8, HQ8⟩
            case measure => simp [intOf]; omega
          · have hd : decide (x.ix + 1 + (j : Int) ≤ x.ix + (N : Int)) = false := by simp; omega
            have hA2 : Hid (EnW W wr K u15 l) := by
              have := hA.out
              rw [List.take_of_length_le (by rw [hll.out]; omega)] at this
              exact Lib.hid this
            clear hA
            go_wp2_with fail
            refine CL.out.mono ?_
            rintro e w6 ⟨rfl, hL6, ho6⟩
            obtain ⟨Aa, ca, rfl⟩ := hA2.out.sl.shape
            obtain ⟨Ae, ce, rfl⟩ := hE.out.sl.shape
            have HE6 := Lib.hid (hE.out.only ho6.out)
            have CM := Lib.hid (same8 _ _ l l w6 ((hA2.out.only ho6.out).sl) HE6.out.sl (by rw [hll.out]; omega) (by rw [hll.out]; omega))
            rw [show decide (l = l) = true from by simp] at CM
            have HX6 := Lib.hid (HX.out.only ho6.out (by simp))
            have y0 := HX6.out.cell (k := 0) rfl
            clear HX x0 CL
            go_wp2_with fail
            refine CM.out.mono ?_
            rintro e w7 ⟨rfl, ho7⟩
            have z0 := (HX6.out.only ho7 (by simp)).cell (k := 0) rfl
            have hL7 := Lib.hid (hL6.out.to ho7)
            have HE7 := Lib.hid (HE6.out.only ho7)
            clear y0 CM
            go_wp2_with fail
            refine (la_slice hL7 _ _ l (slice_all x l (by rw [hll.out]; omega))).mono ?_
            rintro e w8 ⟨A8, c8, rfl, hr8, hL8, ho8⟩
            go_wp2_with fail
            refine (same8 _ _ l l w8 (SlAt.of_own hr8.out) (HE7.out.only ho8.out).sl (by rw [hll.out]; omega) (by rw [hll.out]; omega)).mono ?_
            rintro e w9 ⟨rfl, ho9⟩
            rw [show decide (l = l) = true from by simp]
            go_wp2_with fail
            go_ret
            exact ⟨rfl, hL8.out.only.tr ho9⟩
end Go.Proofs.Ytagklgodcbmcaaa
