/-
  What the laws of the chapters 19 and 23 lean on, part K20ag: contracts of the functions that they reach, and plain facts; each theorem bears its own conditions.
-/
import Derived.Test.YtcjfmildalappaaGreatK20af
set_option linter.unusedVariables false
set_option linter.unusedSimpArgs false
namespace Go.Proofs.YtcjfmildalappaaGreat.S15
open Go.RowKit
def UnP (T : World → Nat → Nat → Value → List Ses → Int → Prop) (w : World) (s : List UInt8) (e : Ending) (w' : World) : Prop :=
  Only [] w w' ∧ ((unS s = none ∧ e = .returned (.tuple #[.pointer none, .bool false])) ∨ ∃ (t : TS) (b : Nat) (v : Value), unS s = some t ∧ e = .returned (.tuple #[.pointer (some ⟨b, 0, none⟩), .bool true]) ∧ T w' w.heap.size b v t.l t.ever)
theorem unG_bad1 {ever : Int} {n : Nat} {l : List Ses} {s : List UInt8} (h : rdS s = none) : unG ever (n + 1) l s = none := by unfold unG; rw [h]
theorem unG_bad2 {ever : Int} {n : Nat} {l : List Ses} {s r : List UInt8} {x : Ses} (h : rdS s = some (x, r)) (h2 : okSes ever l x = false) : unG ever (n + 1) l s = none := by unfold unG; rw [h]; dsimp only; rw [h2]; rfl
theorem unG_next {ever : Int} {n : Nat} {l : List Ses} {s r : List UInt8} {x : Ses} (h : rdS s = some (x, r)) (h2 : okSes ever l x = true) : unG ever (n + 1) l s = unG ever n (l ++ [x]) r := by
  rw [show unG ever (n + 1) l s = (match rdS s with | none => none | some (x, r) => if okSes ever l x then unG ever n (l ++ [x]) r else none) from rfl, h]
  dsimp only
  rw [if_pos h2]
theorem unS_of {s r r2 : List UInt8} {ever : Int} {m : Nat} (h1 : rdI s = some (ever, r)) (h2 : rdI r = some ((m : Int), r2)) (hb : 0 ≤ ever ∧ ever ≤ 1099511627776 ∧ m ≤ 8) :
    unS s = match unG ever m [] r2 with
      | some (l, []) => some ⟨l, ever⟩
      | _ => none := by
  unfold unS
  rw [h1]; dsimp only
  rw [h2]; dsimp only
  rw [if_pos ⟨hb.1, hb.2.1, by omega, by omega⟩, Int.toNat_natCast]
  cases unG ever m [] r2 with
  | none => rfl
  | some p =>
    obtain ⟨l, q⟩ := p
    cases q <;> rfl
theorem unS_out {s r r2 : List UInt8} {ever n : Int} (h1 : rdI s = some (ever, r)) (h2 : rdI r = some (n, r2)) (hb : ¬ (0 ≤ ever ∧ ever ≤ 1099511627776 ∧ 0 ≤ n ∧ n ≤ 8)) : unS s = none := by
  unfold unS
  rw [h1]; dsimp only
  rw [h2]; dsimp only
  rw [if_neg hb]
theorem rdS_parts (s : List UInt8) : (rdI s = none ∧ rdS s = none) ∨ (∃ id r1, rdI s = some (id, r1) ∧ ((rdI r1 = none ∧ rdS s = none) ∨ (∃ q r2, rdI r1 = some (q, r2) ∧ ((rdT r2 = none ∧ rdS s = none) ∨ (∃ t r3, rdT r2 = some (t, r3) ∧ rdS s = some (⟨id, q, ⟨t.toArray⟩⟩, r3)))))) := by
  unfold rdS
  cases h1 : rdI s with
  | none => exact .inl ⟨rfl, rfl⟩
  | some p =>
    refine .inr ⟨p.1, p.2, rfl, ?_⟩
    dsimp only
    cases h2 : rdI p.2 with
    | none => exact .inl ⟨rfl, rfl⟩
    | some q =>
      refine .inr ⟨q.1, q.2, rfl, ?_⟩
      dsimp only
      cases h3 : rdT q.2 with
      | none => exact .inl ⟨rfl, rfl⟩
      | some t => exact .inr ⟨t.1, t.2, rfl, rfl⟩
set_option maxRecDepth 100000 in
set_option maxHeartbeats 4000000 in
theorem ses_unpack (s : List UInt8) (w : World) (hl : s.length ≤ 100000000) :
    Calls Tryz.prog 105 #[.string ⟨s.toArray⟩] w (UnP TbV w s) := by
  obtain ⟨i0, hi0, hz0, hz1, hz2⟩ := info_parts info_ses
  have CN : Hid (∀ w', Calls Tryz.prog 181 #[.string ⟨#[]⟩] w' fun e w2 => e = .returned (.tuple #[.int .i64 0, .string ⟨#[]⟩, .bool false]) ∧ Only [] w' w2) := fun w' => codec_toInt [] w' (by decide)
  have CNT : Hid (∀ w', Calls Tryz.prog 104 #[.string ⟨#[]⟩] w' fun e w2 => e = .returned (.tuple #[.string ⟨#[]⟩, .string ⟨#[]⟩, .bool false]) ∧ Only [] w' w2) := fun w' => codec_toText [] w' (by decide)
  have C0 := codec_toInt s w (by omega)
  cases h1 : rdI s with
  | none =>
    have HU : Hid (unS s = none) := by show _ = _; unfold unS; rw [h1]
    rw [h1, show rdV none = .tuple #[.int .i64 0, .string ⟨#[]⟩, .bool false] from rfl] at C0
    have HC0 := Lib.hid C0
    clear C0 h1
    go_enter Tryz.func105, Tryz.ntmps105
    go_wp2_with fail
    refine HC0.out.mono ?_
    rintro e w1 ⟨rfl, ho1⟩
    go_wp2_with fail
    refine (CN.out _).mono ?_
    rintro e w2 ⟨rfl, ho2⟩
    go_wp2_with fail
    go_ret2
    exact ⟨ho1.tr0 ho2, .inl ⟨HU.out, rfl⟩⟩
  | some p =>
    obtain ⟨ever, r⟩ := p
    have hr := rdI_length h1
    rw [h1, show rdV (some (ever, r)) = .tuple #[.int .i64 ever, .string ⟨r.toArray⟩, .bool true] from rfl] at C0
    have HC0 := Lib.hid C0
    have C1 := fun w' => codec_toInt r w' (by omega)
    cases h2 : rdI r with
    | none =>
      have HU : Hid (unS s = none) := by show _ = _; unfold unS; rw [h1]; dsimp only; rw [h2]
      rw [h2, show rdV none = .tuple #[.int .i64 0, .string ⟨#[]⟩, .bool false] from rfl] at C1
      have HC1 := Lib.hid C1
      clear C0 C1 h1 h2
      go_enter Tryz.func105, Tryz.ntmps105
      go_wp2_with fail
      refine HC0.out.mono ?_
      rintro e w1 ⟨rfl, ho1⟩
      go_wp2_with fail
      refine (HC1.out _).mono ?_
      rintro e w2 ⟨rfl, ho2⟩
      go_wp2_with fail
      go_ret2
      exact ⟨ho1.tr0 ho2, .inl ⟨HU.out, rfl⟩⟩
    | some p =>
      obtain ⟨n, r2⟩ := p
      have hr2 := rdI_length h2
      rw [h2, show rdV (some (n, r2)) = .tuple #[.int .i64 n, .string ⟨r2.toArray⟩, .bool true] from rfl] at C1
      have HC1 := Lib.hid C1
      by_cases hb : 0 ≤ ever ∧ ever ≤ 1099511627776 ∧ 0 ≤ n ∧ n ≤ 8
      · obtain ⟨hb1, hb2, hb3, hb4⟩ := hb
        obtain ⟨m, rfl⟩ := Int.eq_ofNat_of_zero_le hb3
        have hm8 : m ≤ 8 := by omega
        have HU := Lib.hid (unS_of h1 h2 ⟨hb1, hb2, hm8⟩)
        have d1 : decide (ever < 0) = false := by simp; omega
        have d2 : decide ((1099511627776 : Int) < ever) = false := by simp; omega
        have d3 : decide ((m : Int) < 0) = false := by simp
        have d4 : decide ((8 : Int) < m) = false := by simp; omega
        clear C0 C1 h1 h2 hb3 hb4
        go_enter Tryz.func105, Tryz.ntmps105
        go_wp2_with fail
        refine HC0.out.mono ?_
        rintro e w1 ⟨rfl, ho1⟩
        go_wp2_with fail
        refine (HC1.out _).mono ?_
        rintro e w2 ⟨rfl, ho2⟩
        have HO2 := ho1.tr0 ho2
        have hoT : Only [] w (w2.alloc (.cells #[.slice none 0 0, .int .i64 ever] 178)) := HO2.alloc _
        have HT0 : Hid (TbV (w2.alloc (.cells #[.slice none 0 0, .int .i64 ever] 178)) w2.heap.size w2.heap.size (.slice none 0 0) [] ever) := ⟨Nat.le_refl _, Cells.new _ _ _, World.ownsRow_nil _ _ _ _⟩
        have hz := HO2.size
        clear ho1 ho2 HC0 HC1 HO2
        go_wp2_with fail
        obtain ⟨z, hzz⟩ : ∃ z, w2.heap.size = z := ⟨_, rfl⟩
        rw [hzz] at HT0 hz ⊢
        clear hzz
        go_loopw [0, 55] (fun sv i wr => ∃ (k : Nat) (l : List Ses) (s' : List UInt8) (tv : Value), k ≤ m ∧ i = .int .i64 k ∧ sv = .string ⟨s'.toArray⟩ ∧ Hid (TbV wr z z tv l ever) ∧ l.length = k ∧ s'.length ≤ 100000000 ∧ Hid (unG ever m [] r2 = unG ever (m - k) l s') ∧ Only [] w wr) (fun _ i _ => m - (intOf i).toNat)
        case atStart => exact ⟨0, [], r2, _, by omega, rfl, rfl, HT0, rfl, by omega, rfl, hoT⟩
        case round =>
          obtain ⟨k, l, s', tv, hk, rfl, rfl, ht, hlk, hs', hg, ho⟩ := hrel
          by_cases hlt : k < m
          · have hlt' : (k : Int) < (m : Int) := by omega
            obtain ⟨j, hj⟩ : ∃ j, m - k = j + 1 := ⟨m - k - 1, by omega⟩
            rw [hj] at hg
            have hbad : ∀ h : rdS s' = none, unS s = none := fun h => by
              have hg2 : unG ever m [] r2 = none := by rw [hg.out, unG_bad1 h]
              rw [HU.out, hg2]
            rcases rdS_parts s' with ⟨p1, pS⟩ | ⟨id, q1, p1, p2⟩
            · have HV := Lib.hid (hbad pS)
              have D0 := fun w' => codec_toInt s' w' (by omega)
              rw [p1, show rdV none = .tuple #[.int .i64 0, .string ⟨#[]⟩, .bool false] from rfl] at D0
              have HD0 := Lib.hid D0
              clear D0 p1 pS hbad hg
              go_wp2_with fail
              refine (HD0.out _).mono ?_
              rintro e w3 ⟨rfl, ho3⟩
              go_wp2_with fail
              refine (CN.out _).mono ?_
              rintro e w4 ⟨rfl, ho4⟩
              go_wp2_with fail
              refine (CNT.out _).mono ?_
              rintro e w5 ⟨rfl, ho5⟩
              go_wp2_with fail
              go_ret2
              exact ⟨(ho.tr0 ((ho3.tr0 ho4).tr0 ho5)).alloc _, .inl ⟨HV.out, rfl⟩⟩
            · have hq1 := rdI_length p1
              have D0 := fun w' => codec_toInt s' w' (by omega)
              rw [p1, show rdV (some (id, q1)) = .tuple #[.int .i64 id, .string ⟨q1.toArray⟩, .bool true] from rfl] at D0
              have HD0 := Lib.hid D0
              have D1 := fun w' => codec_toInt q1 w' (by omega)
              rcases p2 with ⟨p2, pS⟩ | ⟨q, q2, p2, p3⟩
              · have HV := Lib.hid (hbad pS)
                rw [p2, show rdV none = .tuple #[.int .i64 0, .string ⟨#[]⟩, .bool false] from rfl] at D1
                have HD1 := Lib.hid D1
                clear D0 D1 p1 p2 pS hbad hg
                go_wp2_with fail
                refine (HD0.out _).mono ?_
                rintro e w3 ⟨rfl, ho3⟩
                go_wp2_with fail
                refine (HD1.out _).mono ?_
                rintro e w4 ⟨rfl, ho4⟩
                go_wp2_with fail
                refine (CNT.out _).mono ?_
                rintro e w5 ⟨rfl, ho5⟩
                go_wp2_with fail
                go_ret2
                exact ⟨(ho.tr0 ((ho3.tr0 ho4).tr0 ho5)).alloc _, .inl ⟨HV.out, rfl⟩⟩
              · have hq2 := rdI_length p2
                rw [p2, show rdV (some (q, q2)) = .tuple #[.int .i64 q, .string ⟨q2.toArray⟩, .bool true] from rfl] at D1
                have HD1 := Lib.hid D1
                have D2 := fun w' => codec_toText q2 w' (by omega)
                rcases p3 with ⟨p3, pS⟩ | ⟨t, q3, p3, pS⟩
                · have HV := Lib.hid (hbad pS)
                  rw [p3, show rdTV none = .tuple #[.string ⟨#[]⟩, .string ⟨#[]⟩, .bool false] from rfl] at D2
                  have HD2 := Lib.hid D2
                  clear D0 D1 D2 p1 p2 p3 pS hbad hg
                  go_wp2_with fail
                  refine (HD0.out _).mono ?_
                  rintro e w3 ⟨rfl, ho3⟩
                  go_wp2_with fail
                  refine (HD1.out _).mono ?_
                  rintro e w4 ⟨rfl, ho4⟩
                  go_wp2_with fail
                  refine (HD2.out _).mono ?_
                  rintro e w5 ⟨rfl, ho5⟩
                  go_wp2_with fail
                  go_ret2
                  exact ⟨(ho.tr0 ((ho3.tr0 ho4).tr0 ho5)).alloc _, .inl ⟨HV.out, rfl⟩⟩
                · have hq3 := rdT_len p3
                  rw [p3, show rdTV (some (t, q3)) = .tuple #[.string ⟨t.toArray⟩, .string ⟨q3.toArray⟩, .bool true] from rfl] at D2
                  have HD2 := Lib.hid D2
                  obtain ⟨x, hx⟩ : ∃ x : Ses, x = ⟨id, q, ⟨t.toArray⟩⟩ := ⟨_, rfl⟩
                  rw [← hx] at pS
                  have hxc : x.cells = [.int .i64 id, .int .i64 q, .string ⟨t.toArray⟩] := by rw [hx]; rfl
                  have hx1 : ∀ u ∈ x.cells, u.oneCell' = true := by rw [hxc]; simp [Value.oneCell']
                  have HXC := Lib.hid hxc
                  have CR : Hid (∀ w', Only [] wr w' → Calls Tryz.prog 182 #[.pointer (some ⟨z, 0, none⟩), .agg #[.int .i64 id, .int .i64 q, .string ⟨t.toArray⟩]] w' fun e w2 => e = .returned (.bool (okSes ever l x)) ∧ Only [] w' w2) := fun w' ho' => by
                    have := ses_right z z l ever x w' (ht.out.s.only ho') (by omega)
                    rw [hx] at this ⊢
                    exact this
                  cases hok : okSes ever l x with
                  | false =>
                    have hg2 : unG ever m [] r2 = none := by rw [hg.out, unG_bad2 pS hok]
                    have HV : Hid (unS s = none) := by show _ = _; rw [HU.out, hg2]
                    rw [hok] at CR
                    clear D0 D1 D2 p1 p2 p3 pS hbad hg hg2 hx hxc hok
                    go_wp2_with fail
                    refine (HD0.out _).mono ?_
                    rintro e w3 ⟨rfl, ho3⟩
                    go_wp2_with fail
                    refine (HD1.out _).mono ?_
                    rintro e w4 ⟨rfl, ho4⟩
                    go_wp2_with fail
                    refine (HD2.out _).mono ?_
                    rintro e w5 ⟨rfl, ho5⟩
                    have hoB := ((ho3.tr0 ho4).tr0 ho5).alloc (.cells #[.int .i64 id, .int .i64 q, .string ⟨t.toArray⟩] 220)
                    go_wp2_with fail
                    refine (CR.out _ hoB).mono ?_
                    rintro e w6 ⟨rfl, ho6⟩
                    go_wp2_with fail
                    go_ret2
                    exact ⟨(ho.tr0 hoB).tr0 ho6, .inl ⟨HV.out, rfl⟩⟩
                  | true =>
                    have HG2 : Hid (unG ever m [] r2 = unG ever j (l ++ [x]) q3) := by show _ = _; rw [hg.out, unG_next pS hok]
                    rw [hok] at CR
                    clear D0 D1 D2 p1 p2 p3 pS hbad hg hx hxc hok
                    go_wp2_with fail
                    refine (HD0.out _).mono ?_
                    rintro e w3 ⟨rfl, ho3⟩
                    go_wp2_with fail
                    refine (HD1.out _).mono ?_
                    rintro e w4 ⟨rfl, ho4⟩
                    go_wp2_with fail
                    refine (HD2.out _).mono ?_
                    rintro e w5 ⟨rfl, ho5⟩
                    have hoB := ((ho3.tr0 ho4).tr0 ho5).alloc (.cells #[.int .i64 id, .int .i64 q, .string ⟨t.toArray⟩] 220)
                    have HXB : Hid (Cells (w5.alloc (.cells #[.int .i64 id, .int .i64 q, .string ⟨t.toArray⟩] 220)) w5.heap.size 220 [.int .i64 id, .int .i64 q, .string ⟨t.toArray⟩]) := Cells.new _ _ _
                    obtain ⟨bx, hbx⟩ : ∃ bx, w5.heap.size = bx := ⟨_, rfl⟩
                    rw [hbx] at HXB
                    go_wp2_with fail
                    refine (CR.out _ hoB).mono ?_
                    rintro e w6 ⟨rfl, ho6⟩
                    have hoC := hoB.tr0 ho6
                    have HX6 := Lib.hid (HXB.out.only ho6 (by simp))
                    have HBX : Hid (∀ y, tv.ownBlock = some y → y < bx) := fun y hy => Nat.lt_of_lt_of_le (ht.out.2.2.lt y hy).2 (by rw [← hbx]; exact ((ho3.tr0 ho4).tr0 ho5).size)
                    have HT6 := Lib.hid (TbV.only ht.out hoC)
                    have hoD := ho.tr0 hoC
                    clear hbx hoB HXB ho3 ho4 ho5 ho6 CR ht HD0 HD1 HD2 hoC
                    go_wp2_with fail
                    obtain ⟨-, hcT, hoT6⟩ := HT6.out
                    have hzn : z ∉ rb tv := by intro hm; exact own_ne_block hoT6 hcT (by decide) (by simpa [rb] using hm)
                    have hxn : bx ∉ rb tv := by intro hm; have := HBX.out bx (by simpa [rb] using hm); omega
                    have hMlt : ∀ b, b ∈ rb tv → b < w6.heap.size := fun b hb => (hoT6.lt b (by simpa [rb] using hb)).2
                    have HOT := Lib.hid hoT6
                    have HCT := Lib.hid hcT
                    have hb7 : ∀ y, y ∈ bsOf [rowOwn 7 tv, cellOwn 11 z 178 [tv, .int .i64 ever] 0 102] [7] → y ∈ rb tv := fun y hy => by simpa [bsOf, rowOwn, cellOwn, rb] using hy
                    have s0 : ∀ u : SinceS (bsOf [rowOwn 7 tv, cellOwn 11 z 178 [tv, .int .i64 ever] 0 102] [7]) w6, u.w.cell? ⟨z, 0, none⟩ = some tv := fun u => u.cell (HCT.out.cell rfl) (fun h => hzn (hb7 _ h))
                    have s1 : ∀ u : SinceS (bsOf [rowOwn 7 tv, cellOwn 11 z 178 [tv, .int .i64 ever] 0 102] [7]) w6, u.w.cell? ⟨bx, 0, none⟩ = some (.int .i64 id) := fun u => u.cell (HX6.out.cell rfl) (fun h => hxn (hb7 _ h))
                    have s2 : ∀ u : SinceS (bsOf [rowOwn 7 tv, cellOwn 11 z 178 [tv, .int .i64 ever] 0 102] [7]) w6, u.w.cell? ⟨bx, 1, none⟩ = some (.int .i64 q) := fun u => u.cell (HX6.out.cell rfl) (fun h => hxn (hb7 _ h))
                    have s3 : ∀ u : SinceS (bsOf [rowOwn 7 tv, cellOwn 11 z 178 [tv, .int .i64 ever] 0 102] [7]) w6, u.w.cell? ⟨bx, 2, none⟩ = some (.string ⟨t.toArray⟩) := fun u => u.cell (HX6.out.cell rfl) (fun h => hxn (hb7 _ h))
                    have HZN := Lib.hid hzn
                    have hzw : z ≤ w6.heap.size := Nat.le_of_lt hcT.lt
                    have hzw' : z < w6.heap.size := hcT.lt
                    clear hcT hoT6 hxn hb7
                    refine wp_region_pendM w6 (Only.refl _ _) [(101, OwW w6.heap.size 220 3 1 x.cells), (102, OwW z 220 3 (k + 1) (sesL (l ++ [x])))] [] [rowOwn 7 tv, cellOwn 11 z 178 [tv, .int .i64 ever] 0 102] 13 (by intro p hp; simp at hp; rcases hp with rfl | rfl <;> exact OwW.lasts _ _ _ _ _) (by intro y hy; simp at hy; rcases hy with rfl | rfl; exact rowOwn_ok HOT.out; exact cellOwn_ok hzw') (by intro y y' hy hy' hne b hb hb'; simp at hy hy'; rcases hy with rfl | rfl <;> rcases hy' with rfl | rfl <;> simp [rowOwn, cellOwn] at hne hb hb' <;> (first | exact HZN.out (by simpa [rb, hb'] using hb) | exact HZN.out (by simpa [rb, hb] using hb'))) (by kernel_rfl) (by kernel_rfl) (by decide) (fun val => ?_)
                    simp only [List.take_succ_cons, List.take_zero, List.drop_succ_cons, List.drop_zero]
                    refine fit_segM 6 [7] (by kernel_rfl) ?_
                    simp only [List.take_succ_cons, List.take_zero, List.drop_succ_cons, List.drop_zero]
                    repeat (go_big_quiet_step (fail))
                    refine wpQuiet_nil ?_
                    refine fit_litO 101 220 3 x.cells 1 rfl rfl (by simp) (by simp) rfl (by decide) (fun w7 => by rw [HXC.out]; go_simp) rfl ?_
                    simp only [Act.put, List.setIfInBounds_toArray, List.set_cons_zero, List.set_cons_succ]
                    refine fit_appendM 102 (.tmp 99) (.tmp 101) 176 220 i0 (.agg #[.int .i64 0, .int .i64 0, .string .empty]) 3 32 Tryz.underlying176 hi0 hz0 hz1 hz2 rfl (by decide) z tv k 1 (k + 1) (sesL l) x.cells (sesL (l ++ [x])) rfl (by rw [sesL_append]; simp [sesL]) rfl rfl rfl (by simp) (by simp) rfl (by have := HOT.out; rw [hlk] at this; exact this) (by simp [rows, rowOwn, cellOwn]) (by intro y hy hyi; simp at hy; rcases hy with rfl | rfl; rfl; exact absurd hyi (by simp [rowOwn, cellOwn])) [] (by kernel_rfl) (by intro b hb; simp [bsOf] at hb) hzw (fun w7 hw7 => SrcA.own (hw7.2 (101, OwW w6.heap.size 220 3 1 x.cells) (by simp) (by show 101 ∈ Oper.looksAt _ _; decide)) hx1) (by unfold maxLen; omega) (by omega) ?_
                    simp only [Act.put, List.setIfInBounds_toArray, List.set_cons_zero, List.set_cons_succ]
                    refine fit_segM 3 [7, 11] (by kernel_rfl) ?_
                    simp only [List.take_succ_cons, List.take_zero, List.drop_succ_cons, List.drop_zero]
                    repeat (go_big_quiet_step (fail))
                    refine wpQuiet_nil ?_
                    refine fit_storeW z 178 [tv, .int .i64 ever] 0 102 z 220 3 (k + 1) (sesL (l ++ [x])) rfl rfl (by simp) (by show 102 ∈ Oper.looksAt _ _; decide) HCT.out [7] (by kernel_rfl) (fun h => HZN.out (by simpa [bsOf, rowOwn, cellOwn, rb] using h)) (by simp [mine, rowOwn, cellOwn]) (by intro y hy hyi; simp at hy; rcases hy with rfl | rfl; exact absurd hyi (by simp [rowOwn, cellOwn]); rfl) (fun w7 A m c hA hC7 => by have d0 := hC7.cell (k := 0) rfl; have f0 := hC7.frozen 0; rw [hA]; go_simp) ?_
                    simp only [Act.put, List.setIfInBounds_toArray, List.set_cons_zero, List.set_cons_succ]
                    refine fit_segM 1 [7, 11] (by kernel_rfl) ?_
                    simp only [List.take_succ_cons, List.take_zero, List.drop_succ_cons, List.drop_zero]
                    repeat (go_big_quiet_step (fail))
                    refine wpQuiet_nil ?_
                    intro w7 ho7 hV7 hF7
                    have hown7 : w7.ownsRow z 220 3 (val 102) (k + 1) (sesL (l ++ [x])) := hV7 (102, OwW z 220 3 (k + 1) (sesL (l ++ [x]))) (by simp) (by simp)
                    have hC7 : Cells w7 z 178 [val 102, .int .i64 ever] := hF7 (cellOwn 11 z 178 [tv, .int .i64 ever] 0 102) (by simp) rfl
                    have hrbz : ∀ y, y ∈ rb tv → w.heap.size ≤ y := fun y hy => Nat.le_trans hz (HOT.out.lt y (by simpa [rb] using hy)).1
                    have hoE : Only [] w w7 := hoD.trans ho7 fun y hy => .inr (by simp [allM, rowOwn, cellOwn] at hy; rcases hy with h | h; exact hrbz y (by simpa [rb] using h); omega)
                    have HT7 : Hid (TbV w7 z z (val 102) (l ++ [x]) ever) := ⟨Nat.le_refl _, hC7, by rw [List.length_append, List.length_singleton, hlk]; exact hown7⟩
                    clear hC7 hown7 hV7 hF7 s0 s1 s2 s3 hrbz
                    go_wp2_with fail
                    go_roundw
                    case rel => exact ⟨k + 1, l ++ [x], q3, _, by omega, by go_num, rfl, HT7, by rw [List.length_append, hlk]; rfl, by omega, by show _ = _; rw [HG2.out, show m - (k + 1) = j from by omega], hoE⟩
                    case measure => simp [intOf]; omega
          · have hd0 : decide ((k : Int) < (m : Int)) = false := by simp; omega
            obtain rfl : k = m := by omega
            rw [Nat.sub_self] at hg
            have hg2 : unG ever k [] r2 = some (l, s') := hg.out
            have hu := HU.out
            rw [hg2] at hu
            cases s' with
            | nil =>
              have HV : Hid (unS s = some ⟨l, ever⟩) := hu
              clear hg hg2 hu HU
              go_wp2_with fail
              go_ret2
              exact ⟨ho, .inr ⟨_, z, tv, HV.out, rfl, hz, ht.out.2.1, own_base ht.out.2.2 hz⟩⟩
            | cons c s' =>
              have HV : Hid (unS s = none) := hu
              clear hg hg2 hu HU
              go_wp2_with fail
              go_ret2
              exact ⟨ho, .inl ⟨HV.out, rfl⟩⟩
      · have HU := Lib.hid (unS_out h1 h2 hb)
        clear C0 C1 h1 h2
        by_cases a1 : ever < 0
        · have d1 : decide (ever < 0) = true := by simpa using a1
          clear a1 hb
          go_enter Tryz.func105, Tryz.ntmps105
          go_wp2_with fail
          refine HC0.out.mono ?_
          rintro e w1 ⟨rfl, ho1⟩
          go_wp2_with fail
          refine (HC1.out _).mono ?_
          rintro e w2 ⟨rfl, ho2⟩
          go_wp2_with fail
          go_ret2
          exact ⟨ho1.tr0 ho2, .inl ⟨HU.out, rfl⟩⟩
        · have d1 : decide (ever < 0) = false := by simpa using a1
          by_cases a2 : 1099511627776 < ever
          · have d2 : decide ((1099511627776 : Int) < ever) = true := by simpa using a2
            clear a1 a2 hb
            go_enter Tryz.func105, Tryz.ntmps105
            go_wp2_with fail
            refine HC0.out.mono ?_
            rintro e w1 ⟨rfl, ho1⟩
            go_wp2_with fail
            refine (HC1.out _).mono ?_
            rintro e w2 ⟨rfl, ho2⟩
            go_wp2_with fail
            go_ret2
            exact ⟨ho1.tr0 ho2, .inl ⟨HU.out, rfl⟩⟩
          · have d2 : decide ((1099511627776 : Int) < ever) = false := by simpa using a2
            by_cases a3 : n < 0
            · have d3 : decide (n < 0) = true := by simpa using a3
              clear a1 a2 a3 hb
              go_enter Tryz.func105, Tryz.ntmps105
              go_wp2_with fail
              refine HC0.out.mono ?_
              rintro e w1 ⟨rfl, ho1⟩
              go_wp2_with fail
              refine (HC1.out _).mono ?_
              rintro e w2 ⟨rfl, ho2⟩
              go_wp2_with fail
              go_ret2
              exact ⟨ho1.tr0 ho2, .inl ⟨HU.out, rfl⟩⟩
            · have d3 : decide (n < 0) = false := by simpa using a3
              have d4 : decide ((8 : Int) < n) = true := by simp; omega
              clear a1 a2 a3 hb
              go_enter Tryz.func105, Tryz.ntmps105
              go_wp2_with fail
              refine HC0.out.mono ?_
              rintro e w1 ⟨rfl, ho1⟩
              go_wp2_with fail
              refine (HC1.out _).mono ?_
              rintro e w2 ⟨rfl, ho2⟩
              go_wp2_with fail
              go_ret2
              exact ⟨ho1.tr0 ho2, .inl ⟨HU.out, rfl⟩⟩
end Go.Proofs.YtcjfmildalappaaGreat.S15
