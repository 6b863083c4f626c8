/-
  The walk over SessionPlays.
-/
import Derived.Test.YtojhbhdlbbmghaaPast15
namespace Go.Proofs.Ytojhbhdlbbmghaa
open Go.RowKit
set_option maxRecDepth 100000 in
set_option maxHeartbeats 4000000 in
theorem sessionPlays_walk (W : World) (v : Value) (l : List Act) (hs : SlAt W W.heap.size v 4 l.length (l.flatMap Act.cells)) (hg : ∀ a ∈ l, a.wide) (id : Int) (hi' : (Lit.int .i64 id).wf = true) (seq : Int) (hq' : (Lit.int .i64 seq).wf = true) :
    Calls Try.prog 14 #[v, .int .i64 id, .int .i64 seq] W fun e W' => e = .returned (.bool true) ∧ Only [] W W' := by
  clear hi' hq'
  obtain ⟨A, c, rfl⟩ := hs.shape
  have HS := Lib.hid hs
  have HG := Lib.hid hg
  clear hs hg
  have CS : Hid (∀ w, Only [] W w → Calls Try.prog 44 #[.slice A l.length c] w fun e w' => e = .returned (.bool (small15 l)) ∧ w = w') := by
    intro w ho
    refine small_of _ l w ?_ HG.out
    obtain ⟨h1, a1, c1, h2, h3, h4, h5⟩ := HS.out.only ho (Nat.le_refl _) (by simp)
    exact ⟨h1, a1, c1, h2, h3, h4, fun h => by obtain ⟨b, o, e1, e2, e3⟩ := h5 h; exact ⟨b, o, e1, Nat.lt_of_lt_of_le e2 ho.size, e3⟩⟩
  cases hsm : small15 l with
  | false =>
    rw [hsm] at CS
    go_enter Try.func14, Try.ntmps14
    go_wp2_with fail
    refine (shown15 W).mono ?_
    rintro e w1 ⟨rfl, ho1⟩
    go_wp2_with fail
    refine (CS.out _ ho1).mono ?_
    rintro e w2 ⟨rfl, rfl⟩
    go_wp2_with fail
    go_ret
    exact ⟨rfl, ho1⟩
  | true =>
    obtain ⟨hl200, hrep⟩ := small_reply hsm
    have HREP := Lib.hid hrep
    clear hrep
    rw [hsm] at CS
    clear hsm
    go_enter Try.func14, Try.ntmps14
    go_wp2_with fail
    refine (shown15 W).mono ?_
    rintro e w1 ⟨rfl, ho1⟩
    go_wp2_with fail
    refine (CS.out _ ho1).mono ?_
    rintro e w2 ⟨rfl, rfl⟩
    go_wp2_with fail
    refine (new15 _).mono ?_
    rintro e w2 ⟨rfl, ht2, ho2, -⟩
    have hWB : W.heap.size ≤ w1.heap.size := ho1.size
    have hoA := ho1.tr0 ho2
    obtain ⟨b, hb⟩ : ∃ b, w1.heap.size = b := ⟨_, rfl⟩
    rw [hb] at ht2 hWB ⊢
    have HT2 := Lib.hid ht2
    clear ht2 ho1 ho2 hb
    have hlb := HT2.out.2.1.lt
    have hz2 : w2.heap.size ≤ (w2.alloc (.cells #[.slice none 0 0, .int .i64 0] 70)).heap.size := by simp
    have HT3 : Hid (TbT (w2.alloc (.cells #[.slice none 0 0, .int .i64 0] 70)) b b (.slice none 0 0) ⟨[], 0⟩) := TbV.only HT2.out ((Only.refl _ _).alloc _)
    have HR3 : Hid (RtV (w2.alloc (.cells #[.slice none 0 0, .int .i64 0] 70)) w2.heap.size w2.heap.size (.slice none 0 0) [] 0) := ⟨Nat.le_refl _, Cells.new _ _ _, World.ownsRow_nil _ _ _ _⟩
    have hoB : Only [] W (w2.alloc (.cells #[.slice none 0 0, .int .i64 0] 70)) := hoA.alloc _
    have hWB2 : W.heap.size ≤ w2.heap.size := hoA.size
    clear hz2 hlb HT2
    go_wp2_with fail
    obtain ⟨b2, hb2⟩ : ∃ b2, w2.heap.size = b2 := ⟨_, rfl⟩
    rw [hb2] at HR3 hWB2 ⊢
    clear hb2
    go_loopw [11] (fun i wr => ∃ (k : Nat) (tv rv : Value) (t : TS), k ≤ l.length ∧ i = .int .i64 k ∧ Hid (TbT wr b b tv t) ∧ Hid (RtV wr b2 b2 rv t.l t.ever) ∧ Hid (t.Ok ∧ AllG t) ∧ t.ever ≤ k ∧ Only [] W wr) (fun i _ => l.length - (intOf i).toNat)
    case atStart => exact ⟨0, _, _, ⟨[], 0⟩, by omega, rfl, HT3, HR3, ⟨ok_new, g_new⟩, by simp, hoB⟩
    case round =>
      obtain ⟨k, tv, rv, t, hk, rfl, ht, hr, hok, hev, ho⟩ := hrel
      have hev0 := hok.out.1.ever
      have hl8 := hok.out.1.len
      have hseq : ∀ s ∈ t.l, 0 ≤ s.seq := fun s hs => (hok.out.2 s hs).pos
      have HSQ := Lib.hid hseq
      clear hseq
      by_cases hlt : k < l.length
      · have hlt' : (k : Int) < (l.length : Int) := by omega
        have hk1 := List.getElem?_eq_getElem hlt
        obtain ⟨x, hx⟩ : ∃ x, l[k] = x := ⟨_, rfl⟩
        rw [hx] at hk1
        have hw := HG.out x (List.mem_of_getElem? hk1)
        have hrp := HREP.out x (List.mem_of_getElem? hk1)
        obtain ⟨ab, ao, ac, hv, hab, hc⟩ := (HS.out.only ho (Nat.le_refl _) (by simp)).at_ (by omega)
        have q0 : wr.cell? ⟨ab, ao + k * 4, none⟩ = some (.int .i64 x.op) := hc (k * 4 + 0) _ (acts_get l k 0 x hk1 (by omega))
        have q1 : wr.cell? ⟨ab, ao + k * 4 + 1, none⟩ = some (.int .i64 x.id) := hc (k * 4 + 1) _ (acts_get l k 1 x hk1 (by omega))
        have q2 : wr.cell? ⟨ab, ao + k * 4 + 2, none⟩ = some (.int .i64 x.seq) := hc (k * 4 + 2) _ (acts_get l k 2 x hk1 (by omega))
        have q3 : wr.cell? ⟨ab, ao + k * 4 + 3, none⟩ = some (.string x.reply) := hc (k * 4 + 3) _ (acts_get l k 3 x hk1 (by omega))
        have hsz := ho.size
        obtain ⟨n, hn⟩ : ∃ n, pickN x.op 5 = n := ⟨_, rfl⟩
        have CP : Hid (∀ w, Calls Try.prog 50 #[.int .i64 x.op, .int .i64 5] w fun e w' => e = .returned (.int .i64 n) ∧ w = w') := fun w => by rw [← hn]; exact pick15 x.op 5 w hw.1 (by omega) (by omega)
        have hoX : Only [] wr (wr.alloc (.cells #[.int .i64 x.op, .int .i64 x.id, .int .i64 x.seq, .string x.reply] 60)) := (Only.refl _ _).alloc _
        have HTX := Lib.hid (TbV.only ht.out hoX)
        have HRX := Lib.hid (hr.out.only hoX)
        have hoY := ho.tr0 hoX
        have HCX : Hid (Cells (wr.alloc (.cells #[.int .i64 x.op, .int .i64 x.id, .int .i64 x.seq, .string x.reply] 60)) wr.heap.size 60 [.int .i64 x.op, .int .i64 x.id, .int .i64 x.seq, .string x.reply]) := Cells.new _ _ _
        have HOK2 : Hid ((t.does x).Ok ∧ AllG (t.does x) ∧ (t.does x).ever ≤ k + 1) := ⟨ok_does hok.out.1 x, g_does hok.out.2 x hw hrp, by have := ever_does t x; omega⟩
        have HN := Lib.hid hn
        injection hv with e1 e2 e3
        subst e1; subst e3
        clear e2 hc hx hk1 hw hrp hn
        by_cases h0 : n = 0
        · subst h0
          have HD : Hid (t.does x = ⟨regL t.l ⟨t.ever + 1, 0, .empty⟩, t.ever + 1⟩) := by show _ = _; unfold TS.does; rw [if_pos HN.out]
          go_wp2_with (go_at_call 50; refine (CP.out _).mono ?_; rintro e w3 ⟨rfl, rfl⟩)
          refine (tbs_register b b tv t.l t.ever _ HTX.out hl8 ⟨hev0, by omega⟩).mono ?_
          rintro e w4 ⟨rfl, tv4, ht4, ho4, _⟩
          have HT4 := Lib.hid ht4
          have HR4 := Lib.hid (HRX.out.past HTX.out ho4)
          have hoZ := hoY.past HTX.out hWB ho4
          clear ht4 ho4
          go_wp2_with fail
          refine (rt_register b2 b2 rv t.l t.ever _ HR4.out hl8 ⟨hev0, by omega⟩).mono ?_
          rintro e w5 ⟨rfl, rv5, hr5, ho5⟩
          have HT5 := Lib.hid (HT4.out.past HR4.out ho5)
          have HR5 := Lib.hid hr5
          have hoF : Only [] W w5 := hoZ.trans ho5 fun y hy => .inr (by simp at hy; omega)
          clear hr5 ho5
          go_wp2_with fail
          go_roundw
          case rel => exact ⟨k + 1, tv4, rv5, t.does x, by omega, by go_num, by show TbT _ _ _ _ _; rw [HD.out]; exact HT5.out, by show RtV _ _ _ _ _ _; rw [HD.out]; exact HR5.out, ⟨HOK2.out.1, HOK2.out.2.1⟩, by have := HOK2.out.2.2; omega, hoF⟩
          case measure => simp [intOf]; omega
        · have hd0 : ((n : Int) == 0) = false := by simpa using h0
          by_cases h1 : n = 1
          · subst h1
            have HD : Hid (t.does x = t) := by show _ = _; unfold TS.does; rw [if_neg (by rw [HN.out]; decide), if_pos HN.out]
            obtain ⟨r, hrr⟩ : ∃ r, askS t.l x.id x.seq = r := ⟨_, rfl⟩
            obtain ⟨r1, r2⟩ := r
            have CA := tbs_ask b b t.l t.ever x.id x.seq _ HTX.out.s (by omega)
            rw [hrr, show askV (r1, r2) = .tuple #[.int .i64 r1, .string r2] from rfl] at CA
            have HCA := Lib.hid CA
            have CB : Hid (∀ w', Only [] (wr.alloc (.cells #[.int .i64 x.op, .int .i64 x.id, .int .i64 x.seq, .string x.reply] 60)) w' → Calls Try.prog 53 #[.pointer (some ⟨b2, 0, none⟩), .int .i64 x.id, .int .i64 x.seq] w' fun e w2 => e = .returned (.tuple #[.int .i64 r1, .string r2]) ∧ Only [] w' w2) := fun w' ho' => by
              have := rt_ask b2 b2 rv t.l t.ever x.id x.seq w' (HRX.out.only ho') (by omega) HSQ.out
              rw [hrr] at this; exact this
            clear CA hrr
            go_wp2_with (go_at_call 50; refine (CP.out _).mono ?_; rintro e w3 ⟨rfl, rfl⟩)
            refine HCA.out.mono ?_
            rintro e w4 ⟨rfl, ho4⟩
            have HX4 := Lib.hid (HCX.out.only ho4 (by simp))
            have x1 := HX4.out.cell (k := 1) rfl
            have x2 := HX4.out.cell (k := 2) rfl
            go_wp2_with fail
            refine (CB.out _ ho4).mono ?_
            rintro e w5 ⟨rfl, ho5⟩
            have hoN := ho4.tr0 ho5
            go_wp2_with fail
            go_roundw
            case rel => exact ⟨k + 1, tv, rv, t.does x, by omega, by go_num, by show TbT _ _ _ _ _; rw [HD.out]; exact TbV.only HTX.out hoN, by show RtV _ _ _ _ _ _; rw [HD.out]; exact HRX.out.only hoN, ⟨HOK2.out.1, HOK2.out.2.1⟩, by have := HOK2.out.2.2; omega, hoY.tr0 hoN⟩
            case measure => simp [intOf]; omega
          · have hd1 : ((n : Int) == 1) = false := by simp; omega
            have HD : Hid (t.does x = ⟨doneL t.l x.id x.seq x.reply, t.ever⟩) := by show _ = _; unfold TS.does; rw [if_neg (by rw [HN.out]; exact h0), if_neg (by rw [HN.out]; exact h1)]
            obtain ⟨db, hdb⟩ : ∃ db, ((askS t.l x.id x.seq).1 == 0) = db := ⟨_, rfl⟩
            have CT : Hid (∀ w', Only [] (wr.alloc (.cells #[.int .i64 x.op, .int .i64 x.id, .int .i64 x.seq, .string x.reply] 60)) w' → Calls Try.prog 48 #[.pointer (some ⟨b, 0, none⟩), .int .i64 x.id, .int .i64 x.seq, .string x.reply] w' fun e w2 => e = .returned (.bool db) ∧ ∃ v', TbV w2 b b v' (doneL t.l x.id x.seq x.reply) t.ever ∧ Only (b :: rb tv) w' w2 ∧ (∀ g, v'.ownBlock = some g → tv.ownBlock = some g ∨ w'.heap.size ≤ g)) := fun w' ho' => by
              rw [← hdb]; exact tbs_done b b tv t.l t.ever x.id x.seq x.reply w' (TbV.only HTX.out ho') hl8
            have CR : Hid (∀ w', RtV w' b2 b2 rv t.l t.ever → Calls Try.prog 54 #[.pointer (some ⟨b2, 0, none⟩), .int .i64 x.id, .int .i64 x.seq, .string x.reply] w' fun e w2 => e = .returned (.bool db) ∧ ∃ v', RtV w2 b2 b2 v' (doneL t.l x.id x.seq x.reply) t.ever ∧ Only [b2] w' w2) := fun w' hr' => by
              rw [← hdb]; exact rt_done b2 b2 rv t.l t.ever x.id x.seq x.reply w' hr' hl8 HSQ.out
            have hbx : b < wr.heap.size := ht.out.2.1.lt
            have hb2x : b2 < wr.heap.size := hr.out.2.1.lt
            have hgx : ∀ g, g ∈ rb tv → g < wr.heap.size := fun g hg => by
              rcases ht.out.2.2.2 with ⟨h, _⟩ | ⟨g1, cap, cur, h, _, hh, _⟩
              · rw [h] at hg; simp [rb, Value.ownBlock] at hg
              · rw [h] at hg; simp [rb, Value.ownBlock] at hg; subst hg
                rcases Nat.lt_or_ge g wr.heap.size with hlt | hge
                · exact hlt
                · rw [Array.getElem?_eq_none hge] at hh; cases hh
            clear hdb
            go_wp2_with (go_at_call 50; refine (CP.out _).mono ?_; rintro e w3 ⟨rfl, rfl⟩)
            obtain ⟨W3, hW3⟩ : ∃ W3, wr.alloc (.cells #[.int .i64 x.op, .int .i64 x.id, .int .i64 x.seq, .string x.reply] 60) = W3 := ⟨_, rfl⟩
            obtain ⟨b3, hb3⟩ : ∃ b3, wr.heap.size = b3 := ⟨_, rfl⟩
            rw [hW3] at hoX HTX HRX hoY HCX CT ⊢
            rw [hb3] at HCX hbx hb2x hgx ⊢
            have HX3 := Lib.hid (HCX.out.only (Only.refl [] _).drew (by simp))
            have hgx' := Lib.hid hgx
            have hN3 : b3 ∉ (b :: rb tv) := by
              intro hm
              rcases List.mem_cons.1 hm with e | hm
              · omega
              · have := hgx b3 hm; omega
            clear hW3 hgx
            go_region_held3 (fun w' => Hid (Cells w' b3 60 [.int .i64 x.op, .int .i64 x.id, .int .i64 x.seq, .string x.reply]) ∧ w'.cell? ⟨b3, 1, none⟩ = some (.int .i64 x.id) ∧ w'.cell? ⟨b3, 2, none⟩ = some (.int .i64 x.seq) ∧ w'.cell? ⟨b3, 3, none⟩ = some (.string x.reply))
              (first
                | (refine box4 ?_; exact HCX.out.only (S := []) (Only.refl _ _).drew (by simp))
                | (refine box4 ?_; exact (HX3.out.only (by assumption : Only (b :: rb tv) _ _) hN3))
                | (refine box4 ?_; exact ((HX3.out.only (by assumption : Only (b :: rb tv) _ _) hN3).only (by assumption : Only [b2] _ _) (by simp; omega))))
              (first
                | (go_at_call 48; refine (CT.out _ (Only.refl [] _).drew).mono ?_; rintro e w4 ⟨rfl, tv4, ht4, ho4, _⟩)
                | (go_at_call 54; refine (CR.out _ ((HRX.out.only (Only.refl [] _).drew).past (TbV.only HTX.out (Only.refl [] _).drew) ho4)).mono ?_; rintro e w5 ⟨rfl, rv5, hr5, ho5⟩))
            all_goals
              have hR4 := (HRX.out.only (Only.refl [] _).drew).past (TbV.only HTX.out (Only.refl [] _).drew) ho4
              have HT5 := Lib.hid (TbV.past ht4 hR4 ho5)
              have HR5 := Lib.hid hr5
              have hoF : Only [] W w5 := (hoY.drew.past (TbV.only HTX.out (Only.refl [] _).drew) hWB ho4).trans ho5 fun y hy => .inr (by simp at hy; omega)
              clear hR4 ht4 hr5 ho4 ho5
              go_wp2_with fail
              go_roundw
              case rel => exact ⟨k + 1, tv4, rv5, t.does x, by omega, by go_num, by show TbT _ _ _ _ _; rw [HD.out]; exact HT5.out, by show RtV _ _ _ _ _ _; rw [HD.out]; exact HR5.out, ⟨HOK2.out.1, HOK2.out.2.1⟩, by have := HOK2.out.2.2; omega, hoF⟩
              case measure => simp [intOf]; omega
      · have hd0 : decide ((k : Int) < (l.length : Int)) = false := by simp; omega
        obtain ⟨r, hrr⟩ : ∃ r, askS t.l id seq = r := ⟨_, rfl⟩
        obtain ⟨r1, r2⟩ := r
        have CA := tbs_ask b b t.l t.ever id seq _ ht.out.s (by omega)
        rw [hrr, show askV (r1, r2) = .tuple #[.int .i64 r1, .string r2] from rfl] at CA
        have HCA := Lib.hid CA
        have CB : Hid (∀ w', Only [] wr w' → Calls Try.prog 53 #[.pointer (some ⟨b2, 0, none⟩), .int .i64 id, .int .i64 seq] w' fun e w2 => e = .returned (.tuple #[.int .i64 r1, .string r2]) ∧ Only [] w' w2) := fun w' ho' => by
          have := rt_ask b2 b2 rv t.l t.ever id seq w' (hr.out.only ho') (by omega) HSQ.out
          rw [hrr] at this; exact this
        have hfit := g_fit hok.out.1 hok.out.2 (by omega)
        have CL : Hid (∀ w', Only [] wr w' → Calls Try.prog 55 #[.pointer (some ⟨b, 0, none⟩), .pointer (some ⟨b2, 0, none⟩)] w' fun e w2 => e = .returned (.bool true) ∧ Only [] w' w2) := fun w' ho' =>
          alike15 b b b2 b2 rv t.l t.ever w' (ht.out.s.only ho') (hr.out.only ho') (by omega) ⟨by omega, by omega⟩ hfit
        clear CA hrr hfit
        go_wp2_with fail
        refine HCA.out.mono ?_
        rintro e w4 ⟨rfl, ho4⟩
        go_wp2_with fail
        refine (CB.out _ ho4).mono ?_
        rintro e w5 ⟨rfl, ho5⟩
        have hoN := ho4.tr0 ho5
        go_wp2_with fail
        refine (CL.out _ hoN).mono ?_
        rintro e w6 ⟨rfl, ho6⟩
        go_wp2_with fail
        go_ret
        exact ⟨by simp, ho.tr0 (hoN.tr0 ho6)⟩
end Go.Proofs.Ytojhbhdlbbmghaa
