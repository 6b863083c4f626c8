/-
  The walk over SessionAsks.
-/
import Derived.Test.YtojhbhdlbbmghaaShown15
import Derived.Test.YtojhbhdlbbmghaaPlain15c
namespace Go.Proofs.Ytojhbhdlbbmghaa
open Go.RowKit
set_option maxRecDepth 100000 in
set_option maxHeartbeats 4000000 in
theorem sessionAsks_walk (W : World) (v : Value) (l : List Act) (hs : SlAt W W.heap.size v 4 l.length (l.flatMap Act.cells)) (hg : ∀ a ∈ l, a.wide) (id : Int) (hi' : (Lit.int .i64 id).wf = true) (seq : Int) (hq' : (Lit.int .i64 seq).wf = true) :
    Calls Try.prog 15 #[v, .int .i64 id, .int .i64 seq] W fun e W' => e = .returned (.bool true) ∧ Only [] W W' := by
  obtain ⟨hq0, hq1⟩ := wide64_of_wf hq'
  clear hi' hq'
  obtain ⟨A, c, rfl⟩ := hs.shape
  have HS := Lib.hid hs
  have HG := Lib.hid hg
  clear hs hg
  have CS : Hid (∀ w, Only [] W w → Calls Try.prog 44 #[.slice A l.length c] w fun e w' => e = .returned (.bool (small15 l)) ∧ w = w') := by
    intro w ho
    refine small_of _ l w ?_ HG.out
    obtain ⟨h1, a1, c1, h2, h3, h4, h5⟩ := HS.out.only ho (Nat.le_refl _) (by simp)
    exact ⟨h1, a1, c1, h2, h3, h4, fun h => by obtain ⟨b, o, e1, e2, e3⟩ := h5 h; exact ⟨b, o, e1, Nat.lt_of_lt_of_le e2 ho.size, e3⟩⟩
  cases hsm : small15 l with
  | false =>
    rw [hsm] at CS
    go_enter Try.func15, Try.ntmps15
    go_wp2_with fail
    refine (shown15 W).mono ?_
    rintro e w1 ⟨rfl, ho1⟩
    go_wp2_with fail
    refine (CS.out _ ho1).mono ?_
    rintro e w2 ⟨rfl, rfl⟩
    go_wp2_with fail
    go_ret
    exact ⟨rfl, ho1⟩
  | true =>
    obtain ⟨hl200, hrep⟩ := small_reply hsm
    have HREP := Lib.hid hrep
    clear hrep
    rw [hsm] at CS
    clear hsm
    go_enter Try.func15, Try.ntmps15
    go_wp2_with fail
    refine (shown15 W).mono ?_
    rintro e w1 ⟨rfl, ho1⟩
    go_wp2_with fail
    refine (CS.out _ ho1).mono ?_
    rintro e w2 ⟨rfl, rfl⟩
    go_wp2_with fail
    refine (new15 _).mono ?_
    rintro e w2 ⟨rfl, ht2, ho2, _⟩
    have hWB : W.heap.size ≤ w1.heap.size := ho1.size
    have hoA := ho1.tr0 ho2
    obtain ⟨b, hb⟩ : ∃ b, w1.heap.size = b := ⟨_, rfl⟩
    rw [hb] at ht2 hWB ⊢
    have HT2 := Lib.hid ht2
    clear ht2 ho1 ho2 hb
    go_wp2_with fail
    go_loopw [10] (fun i wr => ∃ (k : Nat) (tv : Value), k ≤ l.length ∧ i = .int .i64 k ∧ Hid (TbT wr b b tv (TS.after (l.take k))) ∧ Hid (AllG (TS.after (l.take k))) ∧ Only [] W wr) (fun i _ => l.length - (intOf i).toNat)
    case atStart => exact ⟨0, _, by omega, rfl, HT2, g_new, hoA⟩
    case round =>
      obtain ⟨k, tv, hk, rfl, ht, hag, ho⟩ := hrel
      obtain ⟨hok, hev⟩ := after_ok (l.take k)
      rw [List.length_take] at hev
      by_cases hlt : k < l.length
      · have hlt' : (k : Int) < (l.length : Int) := by omega
        have hk1 := List.getElem?_eq_getElem hlt
        obtain ⟨x, hx⟩ : ∃ x, l[k] = x := ⟨_, rfl⟩
        rw [hx] at hk1
        have hw := HG.out x (List.mem_of_getElem? hk1)
        obtain ⟨ab, ao, ac, hv, hab, hc⟩ := (HS.out.only ho (Nat.le_refl _) (by simp)).at_ (by omega)
        have q0 : wr.cell? ⟨ab, ao + k * 4, none⟩ = some (.int .i64 x.op) := hc (k * 4 + 0) _ (acts_get l k 0 x hk1 (by omega))
        have q1 : wr.cell? ⟨ab, ao + k * 4 + 1, none⟩ = some (.int .i64 x.id) := hc (k * 4 + 1) _ (acts_get l k 1 x hk1 (by omega))
        have q2 : wr.cell? ⟨ab, ao + k * 4 + 2, none⟩ = some (.int .i64 x.seq) := hc (k * 4 + 2) _ (acts_get l k 2 x hk1 (by omega))
        have q3 : wr.cell? ⟨ab, ao + k * 4 + 3, none⟩ = some (.string x.reply) := hc (k * 4 + 3) _ (acts_get l k 3 x hk1 (by omega))
        have hsz := ho.size
        have CD := Lib.hid (does15 b b tv _ x wr hw ht.out hok.len ⟨hok.ever, by omega⟩)
        have HE := Lib.hid (after_snoc l k x hk1)
        have HG2 : Hid (AllG (TS.after (l.take (k + 1)))) := by show AllG _; rw [HE.out]; exact g_does hag.out x hw (HREP.out x (List.mem_of_getElem? hk1))
        injection hv with e1 e2 e3
        subst e1; subst e3
        clear e2 hc hx hk1 hw hok hev
        unfold Act.val at CD
        go_wp2_with (go_at_call 46; refine CD.out.mono ?_; rintro e w3 ⟨rfl, tv3, ht3, ho3, _⟩; have HT3 := Lib.hid ht3; clear ht3)
        go_roundw
        case rel => exact ⟨k + 1, tv3, by omega, by go_num, by show TbT _ _ _ _ _; rw [HE.out]; exact HT3.out, HG2, ho.past ht.out hWB ho3⟩
        case measure => simp [intOf]; omega
      · have hd0 : decide ((k : Int) < (l.length : Int)) = false := by simp; omega
        obtain rfl : k = l.length := by omega
        rw [List.take_length] at ht hok hev hag
        obtain ⟨t, htt⟩ : ∃ t, TS.after l = t := ⟨_, rfl⟩
        rw [htt] at ht hok hev hag
        have hfit := g_fit hok hag.out (by omega)
        have hwe : Wide64 t.ever := by have := hok.ever; exact ⟨by omega, by omega⟩
        have hl8 := hok.len
        have PK : Hid (∀ w', Only [] wr w' → Calls Try.prog 56 #[.pointer (some ⟨b, 0, none⟩)] w' fun e w2 => e = .returned (.string ⟨(packL t.l t.ever).toArray⟩) ∧ Only [] w' w2) := fun w' ho' => tbs_pack b b t.l t.ever w' (ht.out.s.only ho') (by omega) hwe hfit
        have CA : Hid (∀ q w', Only [] wr w' → Calls Try.prog 47 #[.pointer (some ⟨b, 0, none⟩), .int .i64 id, .int .i64 q] w' fun e w2 => e = .returned (askV (askS t.l id q)) ∧ Only [] w' w2) := fun q w' ho' => tbs_ask b b t.l t.ever id q w' (ht.out.s.only ho') (by omega)
        obtain ⟨k0, k3, kz⟩ := ask_kind t.l id seq
        have HN := Lib.hid (fun h1 => ask_near t.l id seq h1)
        have HL := Lib.hid (ask_low t.l id seq)
        obtain ⟨P, hP⟩ : ∃ P, packL t.l t.ever = P := ⟨_, rfl⟩
        obtain ⟨r, hr⟩ : ∃ r, askS t.l id seq = r := ⟨_, rfl⟩
        obtain ⟨ru, hru⟩ : ∃ r, askS t.l id (seq + 1) = r := ⟨_, rfl⟩
        obtain ⟨rd, hrd⟩ : ∃ r, askS t.l id (seq - 1) = r := ⟨_, rfl⟩
        obtain ⟨r1, r2⟩ := r
        obtain ⟨u1, u2⟩ := ru
        obtain ⟨d1, d2⟩ := rd
        rw [hr] at k0 k3 kz HL
        rw [hr, hru, hrd] at HN
        rw [hP] at PK
        dsimp only at k0 k3 kz
        have HN2 : Hid (1 ≤ seq → r1 ≠ 3 → (r1 ≠ 2 → u1 = 0) ∧ (r1 ≠ 0 → d1 = 2)) := HN.out
        have HL2 : Hid (seq < 1 → r1 = 3 ∨ r1 = 2) := HL.out
        have A1 : Hid (∀ w', Only [] wr w' → Calls Try.prog 47 #[.pointer (some ⟨b, 0, none⟩), .int .i64 id, .int .i64 seq] w' fun e w2 => e = .returned (.tuple #[.int .i64 r1, .string r2]) ∧ Only [] w' w2) := fun w' ho' => by have := CA.out seq w' ho'; rw [hr] at this; exact this
        have A2 : Hid (∀ w', Only [] wr w' → Calls Try.prog 47 #[.pointer (some ⟨b, 0, none⟩), .int .i64 id, .int .i64 (seq + 1)] w' fun e w2 => e = .returned (.tuple #[.int .i64 u1, .string u2]) ∧ Only [] w' w2) := fun w' ho' => by have := CA.out (seq + 1) w' ho'; rw [hru] at this; exact this
        have A3 : Hid (∀ w', Only [] wr w' → Calls Try.prog 47 #[.pointer (some ⟨b, 0, none⟩), .int .i64 id, .int .i64 (seq - 1)] w' fun e w2 => e = .returned (.tuple #[.int .i64 d1, .string d2]) ∧ Only [] w' w2) := fun w' ho' => by have := CA.out (seq - 1) w' ho'; rw [hrd] at this; exact this
        clear CA hr hru hrd hP hok hev hag htt ht HN HL hfit hwe hl8
        go_wp2_with fail
        refine (PK.out _ (Only.refl _ _)).mono ?_
        rintro e w2 ⟨rfl, ho2⟩
        go_wp2_with fail
        refine (A1.out _ ho2).mono ?_
        rintro e w3 ⟨rfl, ho3'⟩
        have ho3 := ho2.tr0 ho3'
        clear ho3'
        go_wp2_with fail
        refine (A1.out _ ho3).mono ?_
        rintro e w4 ⟨rfl, ho4'⟩
        have ho4 := ho3.tr0 ho4'
        clear ho4'
        have hr4 : r1 = 0 ∨ r1 = 1 ∨ r1 = 2 ∨ r1 = 3 := by omega
        have HKZ := Lib.hid kz
        clear kz
        rcases hr4 with rfl | rfl | rfl | rfl
        · obtain rfl : r2 = .empty := HKZ.out (by decide)
          by_cases hs1 : seq < 1
          · rcases HL2.out hs1 with h | h <;> exact absurd h (by decide)
          · have dd1 : decide (seq < 1) = false := by simpa using hs1
            by_cases hs2 : 1099511627776 < seq
            · have dd2 : decide ((1099511627776 : Int) < seq) = true := by simpa using hs2
              go_wp2_with (go_at_call 56; refine (PK.out _ ho4).mono ?_; rintro e w5 ⟨rfl, ho5⟩; have ho6 := ho4.tr0 ho5)
              go_ret
              exact ⟨rfl, ho.tr0 ho6⟩
            · have dd2 : decide ((1099511627776 : Int) < seq) = false := by simpa using hs2
              obtain ⟨n1, n2⟩ := HN2.out (by omega) (by decide)
              obtain rfl := n1 (by decide)
              clear n1 n2
              go_wp2_with (go_at_call 56; refine (PK.out _ ho4).mono ?_; rintro e w5 ⟨rfl, ho5⟩; have ho6 := ho4.tr0 ho5)
              refine (A2.out _ ho6).mono ?_
              rintro e w7 ⟨rfl, ho7'⟩
              have ho7 := ho6.tr0 ho7'
              clear ho7'
              go_wp2_with fail
              refine (A3.out _ ho7).mono ?_
              rintro e w8 ⟨rfl, ho8'⟩
              have ho8 := ho7.tr0 ho8'
              clear ho8'
              go_wp2_with fail
              go_ret
              exact ⟨rfl, ho.tr0 ho8⟩
        · by_cases hs1 : seq < 1
          · rcases HL2.out hs1 with h | h <;> exact absurd h (by decide)
          · have dd1 : decide (seq < 1) = false := by simpa using hs1
            by_cases hs2 : 1099511627776 < seq
            · have dd2 : decide ((1099511627776 : Int) < seq) = true := by simpa using hs2
              go_wp2_with (go_at_call 56; refine (PK.out _ ho4).mono ?_; rintro e w5 ⟨rfl, ho5⟩; have ho6 := ho4.tr0 ho5)
              all_goals (go_ret; exact ⟨rfl, ho.tr0 ho6⟩)
            · have dd2 : decide ((1099511627776 : Int) < seq) = false := by simpa using hs2
              obtain ⟨n1, n2⟩ := HN2.out (by omega) (by decide)
              obtain rfl := n1 (by decide)
              obtain rfl := n2 (by decide)
              clear n1 n2
              go_wp2_with (go_at_call 56; refine (PK.out _ ho4).mono ?_; rintro e w5 ⟨rfl, ho5⟩; have ho6 := ho4.tr0 ho5)
              all_goals
                refine (A2.out _ ho6).mono ?_
                rintro e w7 ⟨rfl, ho7'⟩
                have ho7 := ho6.tr0 ho7'
                clear ho7'
                go_wp2_with fail
                refine (A3.out _ ho7).mono ?_
                rintro e w8 ⟨rfl, ho8'⟩
                have ho8 := ho7.tr0 ho8'
                clear ho8'
                go_wp2_with fail
                go_ret
                exact ⟨rfl, ho.tr0 ho8⟩
        · obtain rfl : r2 = .empty := HKZ.out (by decide)
          by_cases hs1 : seq < 1
          · have d1 : decide (seq < 1) = true := by simpa using hs1
            have d2 : decide ((1099511627776 : Int) < seq) = false := by simp; omega
            go_wp2_with (go_at_call 56; refine (PK.out _ ho4).mono ?_; rintro e w5 ⟨rfl, ho5⟩; have ho6 := ho4.tr0 ho5)
            go_ret
            exact ⟨rfl, ho.tr0 ho6⟩
          · have dd1 : decide (seq < 1) = false := by simpa using hs1
            by_cases hs2 : 1099511627776 < seq
            · have dd2 : decide ((1099511627776 : Int) < seq) = true := by simpa using hs2
              go_wp2_with (go_at_call 56; refine (PK.out _ ho4).mono ?_; rintro e w5 ⟨rfl, ho5⟩; have ho6 := ho4.tr0 ho5)
              go_ret
              exact ⟨rfl, ho.tr0 ho6⟩
            · have dd2 : decide ((1099511627776 : Int) < seq) = false := by simpa using hs2
              obtain ⟨n1, n2⟩ := HN2.out (by omega) (by decide)
              obtain rfl := n2 (by decide)
              clear n1 n2
              go_wp2_with (go_at_call 56; refine (PK.out _ ho4).mono ?_; rintro e w5 ⟨rfl, ho5⟩; have ho6 := ho4.tr0 ho5)
              refine (A2.out _ ho6).mono ?_
              rintro e w7 ⟨rfl, ho7'⟩
              have ho7 := ho6.tr0 ho7'
              clear ho7'
              go_wp2_with fail
              refine (A3.out _ ho7).mono ?_
              rintro e w8 ⟨rfl, ho8'⟩
              have ho8 := ho7.tr0 ho8'
              clear ho8'
              go_wp2_with fail
              go_ret
              exact ⟨rfl, ho.tr0 ho8⟩
        · obtain rfl : r2 = .empty := HKZ.out (by decide)
          go_wp2_with (go_at_call 56; refine (PK.out _ ho4).mono ?_; rintro e w5 ⟨rfl, ho5⟩; have ho6 := ho4.tr0 ho5)
          go_ret
          exact ⟨rfl, ho.tr0 ho6⟩
end Go.Proofs.Ytojhbhdlbbmghaa
