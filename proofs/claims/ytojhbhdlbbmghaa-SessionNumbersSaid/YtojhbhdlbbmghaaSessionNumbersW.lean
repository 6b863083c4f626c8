/-
  The walk over SessionNumbers.
-/
import Derived.Test.YtojhbhdlbbmghaaShown15
import Derived.Test.YtojhbhdlbbmghaaPlain15b
namespace Go.Proofs.Ytojhbhdlbbmghaa
open Go.RowKit
def Full (t : TS) : Prop := (t.l.length : Int) = min t.ever 8
theorem full_reg {t : TS} (h : t.Ok) (hf : Full t) : Full ⟨regL t.l ⟨t.ever + 1, 0, .empty⟩, t.ever + 1⟩ := by
  have he := h.ever
  have hl := h.len
  unfold Full at hf ⊢
  show ((regL t.l ⟨t.ever + 1, 0, .empty⟩).length : Int) = min (t.ever + 1) 8
  unfold regL
  split
  · simp; omega
  · simp; omega
theorem full_does {t : TS} (h : t.Ok) (hf : Full t) (a : Act) : Full (t.does a) := by
  unfold TS.does
  split
  · exact full_reg h hf
  · split
    · exact hf
    · unfold Full at hf ⊢
      show ((doneL t.l a.id a.seq a.reply).length : Int) = min t.ever 8
      unfold doneL
      split
      · rename_i h0
        obtain ⟨x, hx, hlt, _⟩ := askS_zero h0
        rw [List.length_append, List.length_eraseIdx_of_lt hlt]; simp; omega
      · exact hf
theorem does_ever {t : TS} (a : Act) (h : pickN a.op 5 ≠ 0) : (t.does a).ever = t.ever := by
  unfold TS.does
  rw [if_neg h]
  split <;> rfl
theorem does_reg {t : TS} (a : Act) (h : pickN a.op 5 = 0) : t.does a = ⟨regL t.l ⟨t.ever + 1, 0, .empty⟩, t.ever + 1⟩ := by
  unfold TS.does
  rw [if_pos h]
set_option maxRecDepth 100000 in
set_option maxHeartbeats 2000000 in
theorem sessionNumbers_walk (W : World) (v : Value) (l : List Act) (hs : SlAt W W.heap.size v 4 l.length (l.flatMap Act.cells)) (hg : ∀ a ∈ l, a.wide) :
    Calls Try.prog 13 #[v] W fun e W' => e = .returned (.bool true) ∧ Only [] W W' := by
  obtain ⟨A, c, rfl⟩ := hs.shape
  have HS := Lib.hid hs
  have HG := Lib.hid hg
  clear hs hg
  have CS : Hid (∀ w, Only [] W w → Calls Try.prog 44 #[.slice A l.length c] w fun e w' => e = .returned (.bool (small15 l)) ∧ w = w') := by
    intro w ho
    refine small_of _ l w ?_ HG.out
    obtain ⟨h1, a1, c1, h2, h3, h4, h5⟩ := HS.out.only ho (Nat.le_refl _) (by simp)
    exact ⟨h1, a1, c1, h2, h3, h4, fun h => by obtain ⟨b, o, e1, e2, e3⟩ := h5 h; exact ⟨b, o, e1, Nat.lt_of_lt_of_le e2 ho.size, e3⟩⟩
  cases hsm : small15 l with
  | false =>
    rw [hsm] at CS
    go_enter Try.func13, Try.ntmps13
    go_wp2_with fail
    refine (shown15 W).mono ?_
    rintro e w1 ⟨rfl, ho1⟩
    go_wp2_with fail
    refine (CS.out _ ho1).mono ?_
    rintro e w2 ⟨rfl, rfl⟩
    go_wp2_with fail
    go_ret
    exact ⟨rfl, ho1⟩
  | true =>
    have hl200 : l.length ≤ 200 := by
      unfold small15 at hsm
      simp at hsm
      exact hsm.1
    rw [hsm] at CS
    clear hsm
    go_enter Try.func13, Try.ntmps13
    go_wp2_with fail
    refine (shown15 W).mono ?_
    rintro e w1 ⟨rfl, ho1⟩
    go_wp2_with fail
    refine (CS.out _ ho1).mono ?_
    rintro e w2 ⟨rfl, rfl⟩
    go_wp2_with fail
    refine (new15 _).mono ?_
    rintro e w2 ⟨rfl, ht2, ho2, _⟩
    have hWB : W.heap.size ≤ w1.heap.size := ho1.size
    have hoA := ho1.tr0 ho2
    obtain ⟨b, hb⟩ : ∃ b, w1.heap.size = b := ⟨_, rfl⟩
    rw [hb] at ht2 hWB ⊢
    have HT2 := Lib.hid ht2
    clear ht2 ho1 ho2 hb
    go_wp2_with fail
    go_loopw [6, 7] (fun ev i wr => ∃ (k : Nat) (tv : Value) (t : TS), k ≤ l.length ∧ i = .int .i64 k ∧ ev = .int .i64 t.ever ∧ Hid (TbT wr b b tv t) ∧ Hid (t.Ok ∧ Full t ∧ Once t.l) ∧ t.ever ≤ k ∧ Only [] W wr) (fun _ i _ => l.length - (intOf i).toNat)
    case atStart => exact ⟨0, _, ⟨[], 0⟩, by omega, rfl, rfl, HT2, ⟨ok_new, by unfold Full; decide, by simp [Once]⟩, by simp, hoA⟩
    case round =>
      obtain ⟨k, tv, t, hk, rfl, rfl, ht, hok, hev, ho⟩ := hrel
      by_cases hlt : k < l.length
      · have hlt' : (k : Int) < (l.length : Int) := by omega
        have hk1 := List.getElem?_eq_getElem hlt
        obtain ⟨x, hx⟩ : ∃ x, l[k] = x := ⟨_, rfl⟩
        rw [hx] at hk1
        have hw := HG.out x (List.mem_of_getElem? hk1)
        obtain ⟨ab, ao, ac, hv, hab, hc⟩ := (HS.out.only ho (Nat.le_refl _) (by simp)).at_ (by omega)
        have q0 : wr.cell? ⟨ab, ao + k * 4, none⟩ = some (.int .i64 x.op) := hc (k * 4 + 0) _ (acts_get l k 0 x hk1 (by omega))
        have q1 : wr.cell? ⟨ab, ao + k * 4 + 1, none⟩ = some (.int .i64 x.id) := hc (k * 4 + 1) _ (acts_get l k 1 x hk1 (by omega))
        have q2 : wr.cell? ⟨ab, ao + k * 4 + 2, none⟩ = some (.int .i64 x.seq) := hc (k * 4 + 2) _ (acts_get l k 2 x hk1 (by omega))
        have q3 : wr.cell? ⟨ab, ao + k * 4 + 3, none⟩ = some (.string x.reply) := hc (k * 4 + 3) _ (acts_get l k 3 x hk1 (by omega))
        have hsz := ho.size
        have hev0 := hok.out.1.ever
        have hle8 := hok.out.1.len
        obtain ⟨p, hp⟩ : ∃ p, pickN x.op 5 = p := ⟨_, rfl⟩
        have CP : Hid (∀ w, Calls Try.prog 50 #[.int .i64 x.op, .int .i64 5] w fun e w' => e = .returned (.int .i64 p) ∧ w = w') := by
          intro w; rw [← hp]; exact pick15 x.op 5 w hw.1 (by omega) (by omega)
        injection hv with e1 e2 e3
        subst e1; subst e3
        by_cases hp0 : p = 0
        · subst hp0
          have CR := Lib.hid (tbs_register b b tv t.l t.ever wr ht.out hle8 ⟨hev0, by omega⟩)
          have HOK2 : Hid (TS.Ok ⟨regL t.l ⟨t.ever + 1, 0, .empty⟩, t.ever + 1⟩ ∧ Full ⟨regL t.l ⟨t.ever + 1, 0, .empty⟩, t.ever + 1⟩ ∧ Once (regL t.l ⟨t.ever + 1, 0, .empty⟩)) := ⟨ok_reg hok.out.1, full_reg hok.out.1 hok.out.2.1, once_reg hok.out.1 hok.out.2.2⟩
          clear e2 hc hx hk1 hw hp
          go_wp2_with (go_at_call 50; refine (CP.out _).mono ?_; rintro e w3 ⟨rfl, rfl⟩)
          refine CR.out.mono ?_
          rintro e w4 ⟨rfl, tv4, ht4, ho4, _⟩
          have HT4 := Lib.hid ht4
          have hoB := ho.past ht.out hWB ho4
          clear ht4 ho4
          go_wp2_with fail
          go_roundw
          case rel => exact ⟨k + 1, tv4, ⟨_, t.ever + 1⟩, by omega, by go_num, rfl, HT4.out, HOK2, by show t.ever + 1 ≤ ((k + 1 : Nat) : Int); omega, hoB⟩
          case measure => simp [intOf]; omega
        · have hp1 : ((p : Int) == 0) = false := by simp; omega
          have CD := Lib.hid (does15 b b tv t x wr hw ht.out hle8 ⟨hev0, by omega⟩)
          have HE : Hid ((t.does x).ever = t.ever) := does_ever x (by rw [hp]; exact hp0)
          have HOK2 : Hid ((t.does x).Ok ∧ Full (t.does x) ∧ Once (t.does x).l) := ⟨ok_does hok.out.1 x, full_does hok.out.1 hok.out.2.1 x, once_does hok.out.1 hok.out.2.2 x⟩
          obtain ⟨t2, ht2⟩ : ∃ t2, t.does x = t2 := ⟨_, rfl⟩
          rw [ht2] at CD HE HOK2
          clear e2 hc hx hk1 hw hp ht2
          unfold Act.val at CD
          go_wp2_with (first
            | (go_at_call 50; refine (CP.out _).mono ?_; rintro e w3 ⟨rfl, rfl⟩)
            | (go_at_call 46; refine CD.out.mono ?_; rintro e w4 ⟨rfl, tv4, ht4, ho4, _⟩; have HT4 := Lib.hid ht4; clear ht4))
          have hoB := ho.past ht.out hWB ho4
          refine (tbs_ids b b t2.l t2.ever w4 HT4.out.s (by have := HOK2.out.1.len; omega)).mono ?_
          rintro e w5 ⟨iv, rfl, hown, ho5⟩
          have hoC := hoB.tr0 ho5
          have HT5 := Lib.hid (TbV.only HT4.out ho5)
          have hs5 := SlAt.of_own hown
          obtain ⟨IA, ic, rfl⟩ := hs5.shape
          have HI := Lib.hid hs5
          have hN : ((t2.l.length : Int) == min t.ever 8) = true := by
            have := HOK2.out.2.1
            unfold Full at this
            rw [HE.out] at this
            simpa using this
          have hl8 := HOK2.out.1.len
          have hle : t2.ever = t.ever := HE.out
          have HIDS : Hid (∀ s ∈ t2.l, 1 ≤ s.id ∧ s.id ≤ t.ever) := by
            intro s hs
            have := HOK2.out.1.ids s hs
            rw [hle] at this
            exact this
          have HNE : Hid (∀ (i j : Nat) (x y : Ses), i < j → t2.l[i]? = some x → t2.l[j]? = some y → x.id ≠ y.id) := by
            intro i j x y hij hx hy he
            have hnd : (t2.l.map Ses.id).Nodup := HOK2.out.2.2
            obtain ⟨hi, rfl⟩ := List.getElem?_eq_some_iff.1 hx
            obtain ⟨hj, rfl⟩ := List.getElem?_eq_some_iff.1 hy
            refine List.pairwise_iff_getElem.1 hnd i j (by simpa using hi) (by simpa using hj) hij ?_
            rw [List.getElem_map, List.getElem_map, he]
          clear hown hs5 ht ho4 CD hoB ho5 hle q0 q1 q2 q3
          go_wp2_with fail
          all_goals
            obtain ⟨wo, rfl⟩ : ∃ wo : World, wo = wr := ⟨_, rfl⟩
            go_loopw [9] (fun i wr => ∃ m : Nat, m ≤ t2.l.length ∧ i = .int .i64 m ∧ Only [] w5 wr) (fun i _ => t2.l.length - (intOf i).toNat)
            case atStart => exact ⟨0, by omega, rfl, Only.refl _ _⟩
            case round =>
              obtain ⟨m, hm, rfl, ho6⟩ := hrel
              by_cases hlt6 : m < t2.l.length
              · have hlt6' : (m : Int) < t2.l.length := by omega
                have hm1 := List.getElem?_eq_getElem hlt6
                obtain ⟨y, hy⟩ : ∃ y, t2.l[m] = y := ⟨_, rfl⟩
                rw [hy] at hm1
                obtain ⟨y1, y2⟩ := HIDS.out y (List.mem_of_getElem? hm1)
                obtain ⟨jb, jo, jc, jv, hjb, hjc⟩ := HI.out.at_ (by omega)
                have g0 : w5.cell? ⟨jb, jo + m, none⟩ = some (.int .i64 y.id) := hjc m _ (by unfold idv; rw [List.getElem?_map, hm1]; rfl)
                have g1 := (ho6.cell (p := ⟨jb, jo + m, none⟩) hjb (by simp)).trans g0
                have hjl := Nat.lt_of_lt_of_le hjb ho6.size
                injection jv with e1 e2 e3
                subst e1; subst e3
                have dy1 : decide (y.id < 1) = false := by simp; omega
                have dy2 : decide (t.ever < y.id) = false := by simp; omega
                clear e2 hy
                have HJ := Lib.hid hjc
                clear hjc
                go_wp2_with fail
                obtain ⟨wp, hwp⟩ : ∃ wp : World, wp = wr := ⟨_, rfl⟩
                subst hwp
                go_loopw [10] (fun i wr => ∃ q : Nat, q ≤ m ∧ i = .int .i64 q ∧ Only [] w5 wr) (fun i _ => m - (intOf i).toNat)
                case atStart => exact ⟨0, by omega, rfl, ho6⟩
                case round =>
                  obtain ⟨q, hq, rfl, ho7⟩ := hrel
                  by_cases hltq : q < m
                  · have hltq' : (q : Int) < m := by omega
                    have hq1 := List.getElem?_eq_getElem (show q < t2.l.length by omega)
                    obtain ⟨z, hz⟩ : ∃ z, t2.l[q] = z := ⟨_, rfl⟩
                    rw [hz] at hq1
                    have hzy : (z.id == y.id) = false := by simpa using HNE.out q m z y hltq hq1 hm1
                    have g2 := (ho7.cell (p := ⟨jb, jo + q, none⟩) hjb (by simp)).trans (HJ.out q (.int .i64 z.id) (by unfold idv; rw [List.getElem?_map, hq1]; rfl))
                    have g3 := (ho7.cell (p := ⟨jb, jo + m, none⟩) hjb (by simp)).trans g0
                    have hql : q < t2.l.length := by omega
                    have hjl7 := Nat.lt_of_lt_of_le hjb ho7.size
                    clear hz hq1
                    go_wp2_with fail
                    go_quiet (fail)
                    go_wp2_with fail
                    go_roundw
                    case rel => exact ⟨q + 1, by omega, by go_num, ho7.drewN _⟩
                    case measure => simp [intOf]; omega
                  · have hdq : decide ((q : Int) < m) = false := by simp; omega
                    go_wp2_with fail
                    go_roundw
                    case rel => exact ⟨m + 1, by omega, by go_num, ho7⟩
                    case measure => simp [intOf]; omega
              · have hd6 : decide ((m : Int) < t2.l.length) = false := by simp; omega
                go_wp2_with fail
                go_roundw
                case rel => exact ⟨k + 1, tv4, t2, by omega, by go_num, by rw [HE.out], TbV.only HT5.out ho6, HOK2, by rw [HE.out]; omega, hoC.tr0 ho6⟩
                case measure => simp [intOf]; omega
      · have hd0 : decide ((k : Int) < (l.length : Int)) = false := by simp; omega
        go_wp2_with fail
        go_ret
        exact ⟨rfl, ho⟩
end Go.Proofs.Ytojhbhdlbbmghaa
