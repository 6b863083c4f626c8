/-
  The walk over HistorySerial: ops that are done one after the other fit; fewer of them, too; two of them the other way round in time do not. (Printed by gen_hi23serial.py.)
-/
import Derived.Test.YtcjfmildalappaaGreatK26ae
import Derived.Test.YtcjfmildalappaaGreatK26az
import Derived.Test.YtcjfmildalappaaGreatK26ba
set_option linter.all false
namespace Go.Proofs.YtcjfmildalappaaGreat
open Go.RowKit
set_option maxRecDepth 100000 in
set_option maxHeartbeats 32000000 in
theorem historySerial_walk (W : World) (v0 : Value) (l : List C19) (s0 : SlAt W W.heap.size v0 11 l.length (cmL l)) (g0 : ∀ a ∈ l, CmAt W a.iv a.c) (a_ : Int) (wa_ : (Lit.int .i64 a_).wf = true) (b_ : Int) (wb_ : (Lit.int .i64 b_).wf = true) (v3 : Value) (l3 : List Bool) (s3 : SlAt W W.heap.size v3 1 l3.length (bvs l3)) (_ : ∀ x ∈ l3, True) :
    Calls Tryz.prog 14 #[v0, .int .i64 a_, .int .i64 b_, v3] W fun e W' => e = .returned (.bool true) ∧ Only [] W W' := by
  obtain ⟨i0, hi0, hz0, hz1, hz2⟩ := info_parts info_cop23
  obtain ⟨LA1, lc1, rfl⟩ := s0.shape
  have HS1 := Lib.hid s0
  have HG1 := Lib.hid g0
  have CS1 := Lib.hid (fun w' (ho : Only [] W w') => small23 (.slice LA1 l.length lc1) l w' ((s0.only ho (Nat.le_refl _) (by simp)).more ho.size) (fun a ha => (g0 a ha).only ho))
  have hll1 := sl_len s0
  unfold maxLen at hll1
  have CROW := Lib.hid (fun w' (ho : Only [] W w') (hm : Sm19 l) => row23 (.slice LA1 l.length lc1) l w' ((s0.only ho (Nat.le_refl _) (by simp)).more ho.size) (fun a ha => (g0 a ha).only ho) (fun a ha => (hm.al a ha).sm) (by have := hm.n; omega))
  clear s0 g0
  have C0 := Lib.hid (shown23 W)
  have hel := rowE_length l
  have HEK : Hid (l.length ≤ 80 → EyOk (rowE l)) := Lib.hid (fun h => rowE_ok (by omega))
  obtain ⟨QA1, qc1, rfl⟩ := s3.shape
  have HS2 := Lib.hid s3
  have hll2 := sl_len s3
  unfold maxLen at hll2
  clear s3
  go_enter Tryz.func14, Tryz.ntmps14
  go_wp2_with fail
  refine C0.out.mono ?_
  rintro e w1 ⟨rfl, ho1⟩
  have HO1 := Lib.hid ho1
  clear ho1 C0
  go_wp2_with fail
  refine (CS1.out _ HO1.out).mono ?_
  rintro e w2 ⟨ok1, rfl, hok, how⟩
  have HO := Lib.hid (HO1.out.tr how)
  have HMo1 := Lib.hid hok
  clear how hok
  cases ok1 with
  | false =>
    go_wp2_with fail
    go_ret
    exact ⟨rfl, HO.out⟩
  | true =>
  have HM1 := Lib.hid (HMo1.out rfl)
  have hn80 := HM1.out.n
  by_cases h40 : l3.length ≤ 100
  case neg =>
    have h41 : (100 : Int) < (l3.length : Int) := by omega
    clear h40
    go_wp2_with fail
    go_ret
    exact ⟨rfl, HO.out⟩
  have h41 : decide ((100 : Int) < (l3.length : Int)) = false := decide_eq_false (by omega)
  have HE := Lib.hid (HEK.out hn80)
  obtain ⟨E, hE⟩ : ∃ E, rowE l = E := ⟨_, rfl⟩
  rw [hE] at CROW HE hel
  clear hE HEK HMo1
  go_wp2_with fail
  refine (CROW.out _ HO.out HM1.out).mono ?_
  rintro e w3 ⟨rv, rfl, hrv, ho3⟩
  have HRV : Hid (SlAt w3 w3.heap.size rv 4 E.length (eyL E)) := Lib.hid (by rw [hel]; exact SlAt.of_own hrv)
  obtain ⟨RA, rc, rfl⟩ := HRV.out.shape
  have HO3 := Lib.hid (HO.out.tr ho3)
  have hE8 : E.length ≤ 80 := by omega
  clear hrv ho3 CROW HO hel
  have hrl := repE_length E AgS.new
  have CR := Lib.hid (hi_replies (.slice RA E.length rc) E w3 HRV.out HE.out)
  have HRSB := Lib.hid (repE_le (l := E) (by omega))
  obtain ⟨rs, hrs⟩ : ∃ r, repE AgS.new E = r := ⟨_, rfl⟩
  have HRS := Lib.hid hrs
  rw [hrs] at CR hrl HRSB
  have HRL := Lib.hid hrl
  clear hrs hrl
  go_wp2_with fail
  refine CR.out.mono ?_
  rintro e w4 ⟨pv, rfl, hpv, ho4⟩
  have HPV : Hid (SlAt w4 w4.heap.size pv 1 E.length (svs rs)) := Lib.hid (SlAt.of_own hpv)
  obtain ⟨PA, pc, rfl⟩ := HPV.out.shape
  have HO4 := Lib.hid (HO3.out.tr ho4)
  have HRV4 := Lib.hid ((HRV.out.only ho4 (Nat.le_refl _) (by simp)).more ho4.size)
  clear hpv ho4 CR HRV HO3
  have hnn : ((E.length : Int) != (E.length : Int)) = false := by simp
  go_wp2_with fail
  go_loopw [13, 14, 15] (fun xs ls i wr => ∃ (k : Nat) (xv lv : Value) (X L : List Oq), k ≤ E.length ∧ xv = xs ∧ lv = ls ∧ i = .int .i64 k ∧ X.length ≤ k ∧ L.length ≤ k ∧ Hid (SerX E rs k X) ∧ Hid (∀ o ∈ L, SerE E rs k o) ∧ Hid (wr.ownsRow w4.heap.size 88 5 xv X.length (oqL X)) ∧ Hid (wr.ownsRow w4.heap.size 88 5 lv L.length (oqL L)) ∧ Hid (∀ g, xv.ownBlock = some g → lv.ownBlock ≠ some g) ∧ Hid (Only [] w4 wr)) (fun _ _ i _ => E.length - (intOf i).toNat)
  case atStart => exact ⟨0, _, _, [], [], by omega, rfl, rfl, rfl, by simp, by simp, Lib.hid (SerX.nil _ _ _), Lib.hid (fun o ho => by cases ho), Lib.hid (World.ownsRow_nil _ _ _ _), Lib.hid (World.ownsRow_nil _ _ _ _), Lib.hid (fun g hg => by simp [Value.ownBlock] at hg), Lib.hid (Only.refl _ _)⟩
  case round =>
    obtain ⟨k, xv, lv, X, L, hk, rfl, rfl, rfl, hxk, hlk, HSX, HSE, HX, HL, HNE, HO⟩ := hrel
    obtain ⟨wq, rfl⟩ : ∃ wq, wq = wr := ⟨_, rfl⟩
    by_cases hlt : k < E.length
    · have hlt' : (k : Int) < (E.length : Int) := by omega
      obtain ⟨x, hx⟩ : ∃ x, E[k]? = some x := ⟨_, List.getElem?_eq_getElem hlt⟩
      obtain ⟨y, hy⟩ : ∃ y, rs[k]? = some y := ⟨_, List.getElem?_eq_getElem (by rw [HRL.out]; exact hlt)⟩
      have HXD := Lib.hid (HE.out.d x (List.mem_of_getElem? hx))
      have HYD : Hid (y.length ≤ 1000000) := Lib.hid (Nat.le_trans (HRSB.out y (List.mem_of_getElem? hy)) (by omega))
      have HY := Lib.hid hy
      have HEX := Lib.hid (fun (u : World) (h : Only [] w4 u) => eyL_at (HRV4.out.only h (Nat.le_refl _) (by simp)) hx)
      obtain ⟨ab, ao, ac, hv, _, _, q2, q3⟩ := HEX.out _ HO.out
      injection hv with e1 e2 e3
      subst e1
      clear e2 e3
      obtain ⟨pb, po, pc', hv, r0⟩ := svs_at23 (l := rs) (by rw [HRL.out]; exact HPV.out.only HO.out (Nat.le_refl _) (by simp)) hy
      injection hv with e1 e2 e3
      subst e1
      clear e2 e3 hx hy q2
      have HSK := Lib.hid HSX.out.skip
      have HSL : Hid (∀ o ∈ L, SerE E rs (k + 1) o) := Lib.hid (fun o ho => (HSE.out o ho).more (by omega))
      have hm1 : IntKind.i64.wrap ((2 : Int) * (k : Int)) = 2 * (k : Int) := by rw [IntKind.wrap_i64]; omega
      have hm2 : IntKind.i64.wrap (2 * (k : Int) + 1) = 2 * (k : Int) + 1 := by rw [IntKind.wrap_i64]; omega
      have hab : ab ≠ wq.heap.size := by have := World.block_lt_of_cell? wq _ q3; have : ab < wq.heap.size := this; omega
      have hab2 : wq.heap.size ≠ ab := Ne.symm hab
      have hpb : pb ≠ wq.heap.size := by have := World.block_lt_of_cell? wq _ r0; have : pb < wq.heap.size := this; omega
      have hpb2 : wq.heap.size ≠ pb := Ne.symm hpb
      go_upto_region 14 with fail
      go_region_held3 (fun w' : World => w'.cell? ⟨ab, ao + k * 4 + 3, none⟩ = some (.string ⟨x.d.toArray⟩) ∧ w'.cell? ⟨pb, po + k, none⟩ = some (.string ⟨y.toArray⟩)) (go_keep) (fail)
      obtain ⟨wX, hwX⟩ : ∃ wX, (wq.alloc (.cells #[.int .i64 0, .string ⟨x.d.toArray⟩, .string ⟨y.toArray⟩, .int .i64 (2 * (k : Int)), .int .i64 (2 * (k : Int) + 1)] 88)).drew = wX := ⟨_, rfl⟩
      have hoX : Only [] wq wX := by rw [← hwX]; exact ((Only.refl _ _).alloc _).drew
      have HZ : Hid (Cells wX wq.heap.size 88 [.int .i64 0, .string ⟨x.d.toArray⟩, .string ⟨y.toArray⟩, .int .i64 (2 * (k : Int)), .int .i64 (2 * (k : Int) + 1)]) := by show Cells _ _ _ _; rw [← hwX]; exact (Cells.new _ _ _).drew
      rename_i hHeld
      rw [hwX]
      clear hHeld hab hab2 hpb hpb2 q3 r0 hwX hm1 hm2
      have HX5 := Lib.hid (own_keep HX.out hoX (by simp))
      have HL5 := Lib.hid (own_keep HL.out hoX (by simp))
      have HO5 := Lib.hid (HO.out.tr hoX)
      obtain ⟨z, hz⟩ : ∃ z, wq.heap.size = z := ⟨_, rfl⟩
      rw [hz] at HZ ⊢
      have HNX : Hid (xv.ownBlock ≠ some z) := Lib.hid (fun e => by have := (HX.out.lt z e).2; omega)
      have HNL : Hid (lv.ownBlock ≠ some z) := Lib.hid (fun e => by have := (HL.out.lt z e).2; omega)
      clear hz hoX HX HL HO
      obtain ⟨_, _, _, hv, _, _, q2, _⟩ := HEX.out _ HO5.out
      injection hv with e1 e2 e3
      injection e1 with e1
      injection e1 with e1 e4 e5
      subst e1; subst e4
      clear e2 e3 e5
      obtain ⟨kd, hkd⟩ : ∃ v, x.kd = v := ⟨_, rfl⟩
      rw [hkd] at q2
      clear hkd
      cases hkd2 : (kd != 2) with
      | true =>
        go_wp2_with fail
        go_roundw
        case rel => exact ⟨k + 1, xv, lv, X, L, by omega, rfl, rfl, by go_num, by omega, by omega, HSK, HSL, HX5, HL5, HNE, HO5⟩
        case measure => simp [intOf]; omega
      | false =>
        have z0 := HZ.out.cell (k := 0) rfl
        have z1 := HZ.out.cell (k := 1) rfl
        have z2 := HZ.out.cell (k := 2) rfl
        have z3 := HZ.out.cell (k := 3) rfl
        have z4 := HZ.out.cell (k := 4) rfl
        have CF : Hid (Calls Tryz.prog 52 #[.slice (some ⟨ab, ao, none⟩) E.length rc, .slice (some ⟨pb, po, none⟩) E.length pc, .agg #[.int .i64 0, .string ⟨x.d.toArray⟩, .string ⟨y.toArray⟩, .int .i64 (2 * (k : Int)), .int .i64 (2 * (k : Int) + 1)]] wX fun e w2 => e = .returned (.int .i64 (fndQ x.d y E rs 0)) ∧ Only [] wX w2) := Lib.hid (by
          have := hi_find (.slice (some ⟨ab, ao, none⟩) E.length rc) (.slice (some ⟨pb, po, none⟩) E.length pc) E rs ⟨0, x.d, y, 2 * (k : Int), 2 * (k : Int) + 1, HXD.out, HYD.out⟩ wX ((HRV4.out.only HO5.out (Nat.le_refl _) (by simp)).more HO5.out.size) (by rw [HRL.out]; exact (HPV.out.only HO5.out (Nat.le_refl _) (by simp)).more HO5.out.size) HRL.out (by omega) HXD.out
          exact this)
        obtain ⟨F, hF⟩ : ∃ f, fndQ x.d y E rs 0 = f := ⟨_, rfl⟩
        have HF := Lib.hid hF
        rw [hF] at CF
        clear hF
        go_wp2_with fail
        refine CF.out.mono ?_
        rintro e w5 ⟨rfl, ho5⟩
        have HX6 := Lib.hid (own_keep HX5.out ho5 (by simp))
        have HL6 := Lib.hid (own_keep HL5.out ho5 (by simp))
        have HO6 := Lib.hid (HO5.out.tr ho5)
        have HZ6 := Lib.hid (HZ.out.only ho5 (by simp))
        clear ho5 CF q2 z0 z1 z2 z3 z4 HX5 HL5 HO5 HZ
        cases hFk : (F != (k : Int)) with
        | true =>
          go_wp2_with fail
          go_roundw
          case rel => exact ⟨k + 1, xv, lv, X, L, by omega, rfl, rfl, by go_num, by omega, by omega, HSK, HSL, HX6, HL6, HNE, HO6⟩
          case measure => simp [intOf]; omega
        | false =>
          obtain ⟨o, hoe⟩ : ∃ o : Oq, o = ⟨0, x.d, y, 2 * (k : Int), 2 * (k : Int) + 1, HXD.out, HYD.out⟩ := ⟨_, rfl⟩
          have HFK : Hid (F = (k : Int)) := Lib.hid (by simpa using hFk)
          have HADD : Hid (SerX E rs (k + 1) (X ++ [o])) := Lib.hid (HSX.out.add o (by rw [hoe]) (by rw [hoe]) (by rw [hoe]; exact HF.out.trans HFK.out) (by rw [hoe]; exact HY.out))
          have HADE : Hid (SerE E rs (k + 1) o) := Lib.hid (HADD.out.al o (by simp))
          have HOC : Hid (o.cells = [.int .i64 0, .string ⟨x.d.toArray⟩, .string ⟨y.toArray⟩, .int .i64 (2 * (k : Int)), .int .i64 (2 * (k : Int) + 1)]) := Lib.hid (by rw [hoe]; rfl)
          have hws := HO6.out.size
          have hld := HZ6.out
          clear hoe
          go_upto_region 17 with (first
            | (refine wpList_load_row rfl 88 _ rfl z rfl 88 #[.int .i64 0, .string ⟨x.d.toArray⟩, .string ⟨y.toArray⟩, .int .i64 (2 * (k : Int)), .int .i64 (2 * (k : Int) + 1)] (0, 0) _ hld Tryz.underlying88 rfl (by kernel_rfl) ?_)
            | (at_builtin; refine wpList_appA rfl _ _ 84 rfl w4.heap.size 88 i0 (.agg #[.int .i64 0, .string ⟨#[]⟩, .string ⟨#[]⟩, .int .i64 0, .int .i64 0]) 5 56 Tryz.underlying84 hi0 hz0 hz1 hz2 rfl (by decide) w5 xv X.length (oqL X) rfl HX6.out 1 1 [.int .i64 0, .string ⟨x.d.toArray⟩, .string ⟨y.toArray⟩, .int .i64 (2 * (k : Int)), .int .i64 (2 * (k : Int) + 1)] rfl rfl (by simp [Value.oneCell']) (by unfold maxLen; omega) (by omega) hws ?_; intro xv' w7 hown7 hgr7 hnew7))
          have ho7 : Only (rb xv) w5 w7 := (Only.refl _ w5).grown hgr7 (fun g e => .inl (by simp [rb, e]))
          have HX7 : Hid (w7.ownsRow w4.heap.size 88 5 xv' (X ++ [o]).length (oqL (X ++ [o]))) := Lib.hid (by rw [oqL_snoc, HOC.out, List.length_append]; exact hown7)
          have HL7 : Hid (w7.ownsRow w4.heap.size 88 5 lv L.length (oqL L)) := Lib.hid (own_keep HL6.out ho7 (fun b hb => HNE.out b (by simpa [rb] using hb)))
          have HZ7 := Lib.hid (HZ6.out.only ho7 (fun hm => HNX.out (by simpa [rb] using hm)))
          have HO7 := Lib.hid (Only.own HO6.out HX6.out hgr7 (Nat.le_refl _))
          have HNE7 : Hid (∀ g, xv'.ownBlock = some g → lv.ownBlock ≠ some g) := Lib.hid (fun g hg hl => by
            rcases hnew7 g hg with e | e
            · exact HNE.out g e hl
            · have := (HL6.out.lt g hl).2
              omega)
          have hXl : (X ++ [o]).length ≤ k + 1 := by rw [List.length_append, List.length_singleton]; omega
          obtain ⟨X', hX'⟩ : ∃ x, X ++ [o] = x := ⟨_, rfl⟩
          rw [hX'] at HX7 HADD hXl
          clear hX' hown7 hgr7 hnew7 ho7 hld hws HX6 HL6 HO6 HZ6 HNE HSK HSX
          by_cases hdk : k < l3.length
          · have hdk' : decide ((l3.length : Int) ≤ (k : Int)) = false := decide_eq_false (by omega)
            have hdk2 : (k : Int) < (l3.length : Int) := by omega
            obtain ⟨db, hdb⟩ : ∃ b, l3[k]? = some b := ⟨_, List.getElem?_eq_getElem hdk⟩
            obtain ⟨bb, bo, bc, hv, _, hcs⟩ := (HS2.out.only (HO4.out.tr HO7.out) (Nat.le_refl _) (by simp)).at_ (by omega)
            injection hv with e1 e2 e3
            subst e1
            have b0 := hcs k (.bool db) (by unfold bvs; rw [List.getElem?_map, hdb]; rfl)
            clear e2 e3 hcs hdb
            cases db with
            | true =>
              go_wp2_with fail
              go_roundw
              case rel => exact ⟨k + 1, xv', lv, X', L, by omega, rfl, rfl, by go_num, by omega, by omega, HADD, HSL, HX7, HL7, HNE7, HO7⟩
              case measure => simp [intOf]; omega
            | false =>
              have hws := HO7.out.size
              have hld := HZ7.out
              go_wp2_with (first
                | (refine wpList_load_row rfl 88 _ rfl z rfl 88 #[.int .i64 0, .string ⟨x.d.toArray⟩, .string ⟨y.toArray⟩, .int .i64 (2 * (k : Int)), .int .i64 (2 * (k : Int) + 1)] (0, 0) _ hld Tryz.underlying88 rfl (by kernel_rfl) ?_)
                | (at_builtin; refine wpList_appA rfl _ _ 84 rfl w4.heap.size 88 i0 (.agg #[.int .i64 0, .string ⟨#[]⟩, .string ⟨#[]⟩, .int .i64 0, .int .i64 0]) 5 56 Tryz.underlying84 hi0 hz0 hz1 hz2 rfl (by decide) w7 lv L.length (oqL L) rfl HL7.out 1 1 [.int .i64 0, .string ⟨x.d.toArray⟩, .string ⟨y.toArray⟩, .int .i64 (2 * (k : Int)), .int .i64 (2 * (k : Int) + 1)] rfl rfl (by simp [Value.oneCell']) (by unfold maxLen; omega) (by omega) hws ?_; intro lv' w8 hown8 hgr8 hnew8))
              have ho8 : Only (rb lv) w7 w8 := (Only.refl _ w7).grown hgr8 (fun g e => .inl (by simp [rb, e]))
              have HL8 : Hid (w8.ownsRow w4.heap.size 88 5 lv' (L ++ [o]).length (oqL (L ++ [o]))) := Lib.hid (by rw [oqL_snoc, HOC.out, List.length_append]; exact hown8)
              have HX8 : Hid (w8.ownsRow w4.heap.size 88 5 xv' X'.length (oqL X')) := Lib.hid (own_keep HX7.out ho8 (fun b hb hx => HNE7.out b hx (by simpa [rb] using hb)))
              have HO8 := Lib.hid (Only.own HO7.out HL7.out hgr8 (Nat.le_refl _))
              have HNE8 : Hid (∀ g, xv'.ownBlock = some g → lv'.ownBlock ≠ some g) := Lib.hid (fun g hg hl => by
                rcases hnew8 g hl with e | e
                · exact HNE7.out g hg e
                · have := (HX7.out.lt g hg).2
                  omega)
              have hLl : (L ++ [o]).length ≤ k + 1 := by rw [List.length_append, List.length_singleton]; omega
              have HSL8 : Hid (∀ u ∈ L ++ [o], SerE E rs (k + 1) u) := Lib.hid (fun u hu => by
                rcases List.mem_append.1 hu with hu | hu
                · exact HSL.out u hu
                · simp at hu
                  rw [hu]
                  exact HADE.out)
              obtain ⟨L', hL'⟩ : ∃ x, L ++ [o] = x := ⟨_, rfl⟩
              rw [hL'] at HL8 HSL8 hLl
              clear hL' hown8 hgr8 hnew8 ho8 hld hws HX7 HL7 HO7 HZ7 HNE7 HSL HADE
              go_wp2_with fail
              go_roundw
              case rel => exact ⟨k + 1, xv', lv', X', L', by omega, rfl, rfl, by go_num, by omega, by omega, HADD, HSL8, HX8, HL8, HNE8, HO8⟩
              case measure => simp [intOf]; omega
          · have hdk' : (l3.length : Int) ≤ (k : Int) := by omega
            clear hdk
            have hws := HO7.out.size
            have hld := HZ7.out
            go_wp2_with (first
              | (refine wpList_load_row rfl 88 _ rfl z rfl 88 #[.int .i64 0, .string ⟨x.d.toArray⟩, .string ⟨y.toArray⟩, .int .i64 (2 * (k : Int)), .int .i64 (2 * (k : Int) + 1)] (0, 0) _ hld Tryz.underlying88 rfl (by kernel_rfl) ?_)
              | (at_builtin; refine wpList_appA rfl _ _ 84 rfl w4.heap.size 88 i0 (.agg #[.int .i64 0, .string ⟨#[]⟩, .string ⟨#[]⟩, .int .i64 0, .int .i64 0]) 5 56 Tryz.underlying84 hi0 hz0 hz1 hz2 rfl (by decide) w7 lv L.length (oqL L) rfl HL7.out 1 1 [.int .i64 0, .string ⟨x.d.toArray⟩, .string ⟨y.toArray⟩, .int .i64 (2 * (k : Int)), .int .i64 (2 * (k : Int) + 1)] rfl rfl (by simp [Value.oneCell']) (by unfold maxLen; omega) (by omega) hws ?_; intro lv' w8 hown8 hgr8 hnew8))
            have ho8 : Only (rb lv) w7 w8 := (Only.refl _ w7).grown hgr8 (fun g e => .inl (by simp [rb, e]))
            have HL8 : Hid (w8.ownsRow w4.heap.size 88 5 lv' (L ++ [o]).length (oqL (L ++ [o]))) := Lib.hid (by rw [oqL_snoc, HOC.out, List.length_append]; exact hown8)
            have HX8 : Hid (w8.ownsRow w4.heap.size 88 5 xv' X'.length (oqL X')) := Lib.hid (own_keep HX7.out ho8 (fun b hb hx => HNE7.out b hx (by simpa [rb] using hb)))
            have HO8 := Lib.hid (Only.own HO7.out HL7.out hgr8 (Nat.le_refl _))
            have HNE8 : Hid (∀ g, xv'.ownBlock = some g → lv'.ownBlock ≠ some g) := Lib.hid (fun g hg hl => by
              rcases hnew8 g hl with e | e
              · exact HNE7.out g hg e
              · have := (HX7.out.lt g hg).2
                omega)
            have hLl : (L ++ [o]).length ≤ k + 1 := by rw [List.length_append, List.length_singleton]; omega
            have HSL8 : Hid (∀ u ∈ L ++ [o], SerE E rs (k + 1) u) := Lib.hid (fun u hu => by
              rcases List.mem_append.1 hu with hu | hu
              · exact HSL.out u hu
              · simp at hu
                rw [hu]
                exact HADE.out)
            obtain ⟨L', hL'⟩ : ∃ x, L ++ [o] = x := ⟨_, rfl⟩
            rw [hL'] at HL8 HSL8 hLl
            clear hL' hown8 hgr8 hnew8 ho8 hld hws HX7 HL7 HO7 HZ7 HNE7 HSL HADE
            go_wp2_with fail
            go_roundw
            case rel => exact ⟨k + 1, xv', lv', X', L', by omega, rfl, rfl, by go_num, by omega, by omega, HADD, HSL8, HX8, HL8, HNE8, HO8⟩
            case measure => simp [intOf]; omega
    · have hdd : decide ((k : Int) < (E.length : Int)) = false := decide_eq_false (by omega)
      obtain rfl : k = E.length := by omega
      have hEn := HE.out.n
      have HFX := Lib.hid (ser_fit HSX.out.al)
      have HFL := Lib.hid (ser_fit HSE.out)
      have HX0 := Lib.hid (SlAt.of_own HX.out)
      have HL0 := Lib.hid (SlAt.of_own HL.out)
      have HOW := Lib.hid (HO4.out.tr HO.out)
      have HRVq := Lib.hid ((HRV4.out.only HO.out (Nat.le_refl _) (by simp)).more HO.out.size)
      have CHF := Lib.hid (fun (w' : World) (ho : Only [] wq w') (v : Value) (xs : List Oq) (hx : SlAt w' w'.heap.size v 5 xs.length (oqL xs)) (hn : xs.length ≤ 80) => hi_fits (.slice RA E.length rc) v E xs w' ((HRVq.out.only ho (Nat.le_refl _) (by simp)).more ho.size) HE.out hx hn (hi_sort _ (by have := List.length_filter_le cntO xs; omega)))
      rw [HRS.out] at CHF
      have CX := Lib.hid (fun w' (ho : Only [] wq w') => CHF.out w' ho xv X ((HX0.out.only ho (Nat.le_refl _) (by simp)).more ho.size) (by omega))
      have CL := Lib.hid (fun w' (ho : Only [] wq w') => CHF.out w' ho lv L ((HL0.out.only ho (Nat.le_refl _) (by simp)).more ho.size) (by omega))
      rw [HFX.out] at CX
      rw [HFL.out] at CL
      obtain ⟨XA, xc, rfl⟩ := HX0.out.shape
      obtain ⟨LA9, lc9, rfl⟩ := HL0.out.shape
      clear HFX HFL HL HL0 HNE HSE HRV4 HPV hdd hlt hk
      go_wp2_with fail
      refine (CX.out _ (Only.refl _ _)).mono ?_
      rintro e wa ⟨rfl, hoa⟩
      have HQ1 := Lib.hid hoa
      clear hoa
      go_wp2_with fail
      refine (CL.out _ HQ1.out).mono ?_
      rintro e wb ⟨rfl, hob⟩
      have HQ2 := Lib.hid (HQ1.out.tr hob)
      clear hob HQ1
      by_cases hx2 : X.length < 2
      · have hx2' : (X.length : Int) < 2 := by omega
        clear hx2
        go_wp2_with fail
        refine (CX.out _ HQ2.out).mono ?_
        rintro e wc ⟨rfl, hoc⟩
        have HQ3 := Lib.hid (HQ2.out.tr hoc)
        clear hoc CX
        go_wp2_with fail
        refine (CL.out _ HQ3.out).mono ?_
        rintro e wd ⟨rfl, hod⟩
        have HF := Lib.hid (HOW.out.tr (HQ3.out.tr hod))
        clear hod CL
        go_wp2_with fail
        go_ret
        exact ⟨rfl, HF.out⟩
      have hx2' : decide ((X.length : Int) < 2) = false := decide_eq_false (by omega)
      clear CX CL
      obtain ⟨wr, rfl⟩ : ∃ u, u = wb := ⟨_, rfl⟩
      obtain ⟨ia0, ia1⟩ := pkI_lt a_ X.length (by omega)
      obtain ⟨ib0, ib1⟩ := pkI_lt b_ X.length (by omega)
      have CPA := Lib.hid (fun w' => pick23 a_ X.length w' (wide64_of_wf wa_) (by omega) (by omega))
      have CPB := Lib.hid (fun w' => pick23 b_ X.length w' (wide64_of_wf wb_) (by omega) (by omega))
      obtain ⟨i, hi⟩ : ∃ i : Nat, pkI a_ X.length = i := ⟨(pkI a_ X.length).toNat, by omega⟩
      obtain ⟨k, hk⟩ : ∃ i : Nat, pkI b_ X.length = i := ⟨(pkI b_ X.length).toNat, by omega⟩
      rw [hi] at CPA ia1
      rw [hk] at CPB ib1
      clear ia0 ib0 hi hk
      obtain ⟨p, hp⟩ : ∃ p, X[i]? = some p := ⟨_, List.getElem?_eq_getElem (by omega)⟩
      obtain ⟨q, hq⟩ : ∃ p, X[k]? = some p := ⟨_, List.getElem?_eq_getElem (by omega)⟩
      have Hi := Lib.hid hp
      have Hk := Lib.hid hq
      obtain ⟨gx, cx, spx, hxe, hBx, hcx1, hcx2, hCX⟩ := own_cells5 HX.out (by omega)
      injection hxe with e1 e2 e3
      subst e1
      have HXL := Lib.hid hCX.lt
      have HXC := Lib.hid (hCX.only HQ2.out (by simp))
      have HXW := Lib.hid (SrcA.own HX.out (oqL_one X))
      clear e2 e3 hBx hcx1 hcx2 hCX hp hq HX HX0
      have HLT : Hid ((wr.alloc (.cells #[] 88)).ownsRow wr.heap.size 88 5 (.slice (some ⟨wr.heap.size, 0, none⟩) 0 0) 0 []) := Lib.hid (World.ownsRow_lit wr #[] 0 (Nat.le_refl _) (by unfold maxLen; omega) rfl)
      have HA6 : Hid (Only [] wr (wr.alloc (.cells #[] 88))) := Lib.hid ((Only.refl _ _).alloc _)
      have HSRC : Hid (SrcA (wr.alloc (.cells #[] 88)) (.slice (some ⟨gx, 0, none⟩) X.length xc) 5 X.length (oqL X)) := Lib.hid (HXW.out.only (HQ2.out.tr HA6.out))
      go_wp2_with fail
      refine (CPA.out _).mono ?_
      rintro e wx ⟨rfl, rfl⟩
      go_wp2_with fail
      refine (CPB.out _).mono ?_
      rintro e wx ⟨rfl, rfl⟩
      clear CPA CPB
      go_upto_region 23 with fail
      go_upto_region 24 with (at_builtin; refine wpList_appS rfl (.tmp 139) (.tmp 140) 84 rfl wr.heap.size 88 i0 (.agg #[.int .i64 0, .string ⟨#[]⟩, .string ⟨#[]⟩, .int .i64 0, .int .i64 0]) 5 56 Tryz.underlying84 hi0 hz0 hz1 hz2 rfl (by decide) (wr.alloc (.cells #[] 88)) (.slice (some ⟨wr.heap.size, 0, none⟩) 0 0) 0 [] rfl HLT.out X.length X.length (oqL X) (oqL X) (by omega) rfl HSRC.out (by unfold maxLen; omega) (by omega) (by rw [World.size_alloc]; omega) ?_; intro yv wy0 howny hoy hnewy)
      obtain ⟨g, cy, sp, rfl, hBg, hcy1, hcy2, hCY⟩ := own_cells5 howny (by omega)
      have HOY0 : Hid (Only [] wr wy0) := Lib.hid (HA6.out.trans hoy (fun x hx => .inr (by simp [Value.ownBlock] at hx; omega)))
      have HC0 := Lib.hid hCY
      have HXC0 := Lib.hid (HXC.out.only HOY0.out (by simp))
      have HGW := Lib.hid hBg
      have HGX : Hid (gx ≠ g) := Lib.hid (by have := HXL.out; have := HQ2.out.size; omega)
      have HCAP : Hid (X.length ≤ cy ∧ cy ≤ maxLen) := Lib.hid ⟨hcy1, hcy2⟩
      have hii : (i : Int) < (X.length : Int) := by omega
      have hkk : (k : Int) < (X.length : Int) := by omega
      have HIL : Hid (i < X.length) := Lib.hid (by omega)
      have HKL : Hid (k < X.length) := Lib.hid (by omega)
      clear howny hoy hnewy hBg hcy1 hcy2 hCY HLT HA6 HSRC HXC HXW
      have c0 := HC0.out.cell (cell_at (m := 3) Hi.out rfl (by decide) sp)
      have cf := HC0.out.frozen (i * 5 + 3)
      have cl := HC0.out.lt
      have x0 := HXC0.out.cell (cell_at (m := 3) Hk.out rfl (by decide) spx)
      go_upto_region 25 with fail
      obtain ⟨wy1, hwy⟩ : ∃ u, wy0.setCell ⟨g, i * 5 + 3, none⟩ (.int .i64 q.st) = u := ⟨_, rfl⟩
      have HC1 : Hid (Cells wy1 g 88 (oqL (X.set i { p with st := q.st }) ++ sp)) := Lib.hid (by
        rw [← set_step (m := 3) (v := .int .i64 q.st) Hi.out rfl (by decide) sp]
        exact hwy ▸ HC0.out.set (i * 5 + 3) (.int .i64 q.st))
      have HXC1 : Hid (Cells wy1 gx 88 (oqL X ++ spx)) := Lib.hid (hwy ▸ HXC0.out.far (p := ⟨g, i * 5 + 3, none⟩) HGX.out _)
      have HOY1 : Hid (Only [] wr wy1) := Lib.hid (hwy ▸ HOY0.out.setCell (.inr HGW.out) _)
      rw [hwy]
      clear hwy c0 cf cl x0 HC0 HXC0 HOY0
      have HY1 : Hid ((X.set i { p with st := q.st })[i]? = some { p with st := q.st }) := Lib.hid (List.getElem?_set_self HIL.out)
      have c0 := HC1.out.cell (cell_at (m := 4) HY1.out rfl (by decide) sp)
      have cf := HC1.out.frozen (i * 5 + 4)
      have cl := HC1.out.lt
      have x0 := HXC1.out.cell (cell_at (m := 4) Hk.out rfl (by decide) spx)
      go_upto_region 26 with fail
      obtain ⟨wy2, hwy⟩ : ∃ u, wy1.setCell ⟨g, i * 5 + 4, none⟩ (.int .i64 q.en) = u := ⟨_, rfl⟩
      have HC2 : Hid (Cells wy2 g 88 (oqL ((X.set i { p with st := q.st }).set i (swO p q)) ++ sp)) := Lib.hid (by
        rw [← set_step (m := 4) (v := .int .i64 q.en) HY1.out rfl (by decide) sp]
        exact hwy ▸ HC1.out.set (i * 5 + 4) (.int .i64 q.en))
      have HXC2 : Hid (Cells wy2 gx 88 (oqL X ++ spx)) := Lib.hid (hwy ▸ HXC1.out.far (p := ⟨g, i * 5 + 4, none⟩) HGX.out _)
      have HOY2 : Hid (Only [] wr wy2) := Lib.hid (hwy ▸ HOY1.out.setCell (.inr HGW.out) _)
      rw [hwy]
      clear hwy c0 cf cl x0 HC1 HXC1 HOY1
      have HY2 : Hid (((X.set i { p with st := q.st }).set i (swO p q))[k]? = some q) := Lib.hid (swX_k Hi.out Hk.out)
      have c0 := HC2.out.cell (cell_at (m := 3) HY2.out rfl (by decide) sp)
      have cf := HC2.out.frozen (k * 5 + 3)
      have cl := HC2.out.lt
      have x0 := HXC2.out.cell (cell_at (m := 3) Hi.out rfl (by decide) spx)
      go_upto_region 27 with fail
      obtain ⟨wy3, hwy⟩ : ∃ u, wy2.setCell ⟨g, k * 5 + 3, none⟩ (.int .i64 p.st) = u := ⟨_, rfl⟩
      have HC3 : Hid (Cells wy3 g 88 (oqL (((X.set i { p with st := q.st }).set i (swO p q)).set k { q with st := p.st }) ++ sp)) := Lib.hid (by
        rw [← set_step (m := 3) (v := .int .i64 p.st) HY2.out rfl (by decide) sp]
        exact hwy ▸ HC2.out.set (k * 5 + 3) (.int .i64 p.st))
      have HXC3 : Hid (Cells wy3 gx 88 (oqL X ++ spx)) := Lib.hid (hwy ▸ HXC2.out.far (p := ⟨g, k * 5 + 3, none⟩) HGX.out _)
      have HOY3 : Hid (Only [] wr wy3) := Lib.hid (hwy ▸ HOY2.out.setCell (.inr HGW.out) _)
      rw [hwy]
      clear hwy c0 cf cl x0 HC2 HXC2 HOY2
      have HY3 : Hid ((((X.set i { p with st := q.st }).set i (swO p q)).set k { q with st := p.st })[k]? = some { q with st := p.st }) := Lib.hid (List.getElem?_set_self (by rw [List.length_set, List.length_set]; exact HKL.out))
      have c0 := HC3.out.cell (cell_at (m := 4) HY3.out rfl (by decide) sp)
      have cf := HC3.out.frozen (k * 5 + 4)
      have cl := HC3.out.lt
      have x0 := HXC3.out.cell (cell_at (m := 4) Hi.out rfl (by decide) spx)
      go_upto_region 28 with fail
      obtain ⟨wy4, hwy⟩ : ∃ u, wy3.setCell ⟨g, k * 5 + 4, none⟩ (.int .i64 p.en) = u := ⟨_, rfl⟩
      have HC4 : Hid (Cells wy4 g 88 (oqL ((((X.set i { p with st := q.st }).set i (swO p q)).set k { q with st := p.st }).set k (swO q p)) ++ sp)) := Lib.hid (by
        rw [← set_step (m := 4) (v := .int .i64 p.en) HY3.out rfl (by decide) sp]
        exact hwy ▸ HC3.out.set (k * 5 + 4) (.int .i64 p.en))
      have HXC4 : Hid (Cells wy4 gx 88 (oqL X ++ spx)) := Lib.hid (hwy ▸ HXC3.out.far (p := ⟨g, k * 5 + 4, none⟩) HGX.out _)
      have HOY4 : Hid (Only [] wr wy4) := Lib.hid (hwy ▸ HOY3.out.setCell (.inr HGW.out) _)
      rw [hwy]
      clear hwy c0 cf cl x0 HC3 HXC3 HOY3
      have c2 := HXC4.out.cell (cell_at (m := 2) Hi.out rfl (by decide) spx)
      have CTA := Lib.hid (ref18_toAnswer p.r wy4 p.hr)
      go_wp2_with fail
      refine CTA.out.mono ?_
      rintro e wt ⟨tv, rfl, htv, hot, _⟩
      obtain ⟨TA1, tc1, rfl⟩ := htv.ps.shape
      obtain ⟨r1, hr⟩ : ∃ r, (unA p.r).getD Rp.zero = r := ⟨_, rfl⟩
      have HR1 := Lib.hid hr
      obtain ⟨ec1, hec⟩ : ∃ ec : Int, (if (unA p.r).isSome = true then 0 else 8) = ec := ⟨_, rfl⟩
      rw [hr, hec]
      unfold Rp.val
      clear htv hr hec CTA c2
      go_upto_region 29 with fail
      have HOT : Hid (Only [] wy4 (wt.alloc (.cells #[.int .i64 r1.er, .int .i64 r1.n, .slice TA1 r1.ps.length tc1] 34))) := Lib.hid (hot.alloc _)
      have HT1 : Hid (Cells (wt.alloc (.cells #[.int .i64 r1.er, .int .i64 r1.n, .slice TA1 r1.ps.length tc1] 34)) wt.heap.size 34 [.int .i64 r1.er, .int .i64 r1.n, .slice TA1 r1.ps.length tc1]) := Lib.hid (Cells.new wt _ [_, _, _])
      obtain ⟨zt1, hzt⟩ : ∃ z, wt.heap.size = z := ⟨_, rfl⟩
      obtain ⟨wy5, hwn⟩ : ∃ u, wt.alloc (.cells #[.int .i64 r1.er, .int .i64 r1.n, .slice TA1 r1.ps.length tc1] 34) = u := ⟨_, rfl⟩
      rw [hwn] at HOT HT1 ⊢
      rw [hzt] at HT1 ⊢
      have HXC5 := Lib.hid (HXC4.out.only HOT.out (by simp))
      have HC5 := Lib.hid (HC4.out.only HOT.out (by simp))
      have HOY5 := Lib.hid (HOY4.out.tr HOT.out)
      clear hwn hzt hot HXC4 HC4 HOY4
      have c2 := HXC5.out.cell (cell_at (m := 2) Hk.out rfl (by decide) spx)
      have CTA := Lib.hid (ref18_toAnswer q.r wy5 q.hr)
      go_wp2_with fail
      refine CTA.out.mono ?_
      rintro e wt ⟨tv, rfl, htv, hot, _⟩
      obtain ⟨TA2, tc2, rfl⟩ := htv.ps.shape
      obtain ⟨r2, hr⟩ : ∃ r, (unA q.r).getD Rp.zero = r := ⟨_, rfl⟩
      have HR2 := Lib.hid hr
      obtain ⟨ec2, hec⟩ : ∃ ec : Int, (if (unA q.r).isSome = true then 0 else 8) = ec := ⟨_, rfl⟩
      rw [hr, hec]
      unfold Rp.val
      clear htv hr hec CTA c2
      go_upto_region 30 with fail
      have HOT : Hid (Only [] wy5 (wt.alloc (.cells #[.int .i64 r2.er, .int .i64 r2.n, .slice TA2 r2.ps.length tc2] 34))) := Lib.hid (hot.alloc _)
      have HT2 : Hid (Cells (wt.alloc (.cells #[.int .i64 r2.er, .int .i64 r2.n, .slice TA2 r2.ps.length tc2] 34)) wt.heap.size 34 [.int .i64 r2.er, .int .i64 r2.n, .slice TA2 r2.ps.length tc2]) := Lib.hid (Cells.new wt _ [_, _, _])
      obtain ⟨zt2, hzt⟩ : ∃ z, wt.heap.size = z := ⟨_, rfl⟩
      obtain ⟨wy6, hwn⟩ : ∃ u, wt.alloc (.cells #[.int .i64 r2.er, .int .i64 r2.n, .slice TA2 r2.ps.length tc2] 34) = u := ⟨_, rfl⟩
      rw [hwn] at HOT HT2 ⊢
      rw [hzt] at HT2 ⊢
      have HXC6 := Lib.hid (HXC5.out.only HOT.out (by simp))
      have HC6 := Lib.hid (HC5.out.only HOT.out (by simp))
      have HOY6 := Lib.hid (HOY5.out.tr HOT.out)
      clear hwn hzt hot HXC5 HC5 HOY5
      have HT1b := Lib.hid (HT1.out.only HOT.out (by simp))
      have t1 := HT1b.out.cell (k := 0) rfl
      have t2 := HT2.out.cell (k := 0) rfl
      obtain ⟨b1, hb1⟩ : ∃ b, (r1.er == 17) = b := ⟨_, rfl⟩
      obtain ⟨b2, hb2⟩ : ∃ b, (r1.er == 18) = b := ⟨_, rfl⟩
      obtain ⟨b3, hb3⟩ : ∃ b, (r2.er == 17) = b := ⟨_, rfl⟩
      obtain ⟨b4, hb4⟩ : ∃ b, (r2.er == 18) = b := ⟨_, rfl⟩
      obtain ⟨Y, hY⟩ : ∃ Y, (((X.set i { p with st := q.st }).set i (swO p q)).set k { q with st := p.st }).set k (swO q p) = Y := ⟨_, rfl⟩
      have HYE : Hid (swX X i k p q = Y) := Lib.hid hY
      rw [hY] at HC6
      have HFB : Hid (i ≠ k → (b1 || (b2 || (b3 || b4))) = false → fitP E rs Y = false) := Lib.hid (fun hne hb => by
        simp only [Bool.or_eq_false_iff] at hb
        obtain ⟨h1, h2, h3, h4⟩ := hb
        obtain ⟨y1, y2⟩ := swX_i Hi.out Hk.out hne
        rw [HYE.out] at y1 y2
        exact ser_swap HSX.out Hi.out Hk.out hne y1 y2 (by rw [HR1.out, hb1, h1]) (by rw [HR1.out, hb2, h2]) (by rw [HR2.out, hb3, h3]) (by rw [HR2.out, hb4, h4]))
      have HYL : Hid (Y.length = X.length) := Lib.hid (by rw [← HYE.out]; exact swX_length X i k p q)
      have CFY := Lib.hid (CHF.out wy6 (HQ2.out.tr HOY6.out) (.slice (some ⟨g, 0, none⟩) X.length cy) Y (by
        have := sl_cells HC6.out rfl (HYL.out ▸ HCAP.out.1) HCAP.out.2
        rw [HYL.out] at this ⊢
        exact this) (by rw [HYL.out]; omega))
      have HFIN := Lib.hid (HOW.out.tr (HQ2.out.tr HOY6.out))
      clear hY HT1 HT2 HOT HXC6 HC6 CHF
      go_cut [24] from 196 to 213 (fun x wx => x = .bool (b1 || (b2 || (b3 || b4))) ∧ wx = wy6)
      case first =>
        cases b1 with
        | true =>
          go_wp2_with fail
          go_meet
          exact ⟨rfl, rfl⟩
        | false =>
        cases b2 with
        | true =>
          go_wp2_with fail
          go_meet
          exact ⟨rfl, rfl⟩
        | false =>
        cases b3 with
        | true =>
          go_wp2_with fail
          go_meet
          exact ⟨rfl, rfl⟩
        | false =>
          go_wp2_with fail
          go_meet
          exact ⟨by first | rfl | simp, rfl⟩
      case rest =>
      obtain ⟨rfl, rfl⟩ := hcut
      obtain ⟨ob, hob⟩ : ∃ b, (b1 || (b2 || (b3 || b4))) = b := ⟨_, rfl⟩
      rw [hob] at HFB ⊢
      clear t1 t2 hb1 hb2 hb3 hb4 hob
      by_cases hik : i = k
      · have hik' : ((i : Int) == (k : Int)) = true := by simp [hik]
        clear hik
        go_wp2_with fail
        go_ret
        exact ⟨rfl, HFIN.out⟩
      have hik' : ((i : Int) == (k : Int)) = false := beq_eq_false_iff_ne.2 (by omega)
      cases ob with
      | true =>
        go_wp2_with fail
        go_ret
        exact ⟨rfl, HFIN.out⟩
      | false =>
        have HB := Lib.hid (HFB.out hik rfl)
        rw [HB.out] at CFY
        clear hik
        go_wp2_with fail
        refine CFY.out.mono ?_
        rintro e w9 ⟨rfl, ho9⟩
        have HF := Lib.hid (HFIN.out.tr ho9)
        clear ho9
        go_wp2_with fail
        go_ret
        exact ⟨rfl, HF.out⟩
end Go.Proofs.YtcjfmildalappaaGreat
