/-
  Chapter 15: a table's bytes, unpacked by the reference.
-/
import Derived.Test.YtojhbhdlbbmghaaUnp15
namespace Go.Proofs.Ytojhbhdlbbmghaa
open Go.RowKit
theorem unS_ofr {s r r2 : List UInt8} {ever : Int} {m : Nat} (h1 : rdI s = some (ever, r)) (h2 : rdI r = some ((m : Int), r2)) (hb : m ≤ 8) :
    unS s = if 0 ≤ ever ∧ ever ≤ 1099511627776 then (match unG ever m [] r2 with
      | some (l, []) => some ⟨l, ever⟩
      | _ => none) else none := by
  by_cases he : 0 ≤ ever ∧ ever ≤ 1099511627776
  · rw [if_pos he]; exact unS_of h1 h2 ⟨he.1, he.2, hb⟩
  · rw [if_neg he]; exact unS_out h1 h2 fun h => he ⟨h.1, h.2.1⟩
set_option maxRecDepth 100000 in
set_option maxHeartbeats 4000000 in
theorem ref_unpack (s : List UInt8) (w : World) (hl : s.length ≤ 1000000) :
    Calls Try.prog 58 #[.string ⟨s.toArray⟩] w (UnP RtV w s) := by
  obtain ⟨i0, hi0, hz0, hz1, hz2⟩ := info_parts info_rses
  have CN : Hid (∀ w', Calls Try.prog 25 #[.string ⟨#[]⟩] w' fun e w2 => e = .returned (.tuple #[.int .i64 0, .string ⟨#[]⟩, .bool false]) ∧ Only [] w' w2) := fun w' => ref_toInt [] w' (by decide)
  have CNT : Hid (∀ w', Calls Try.prog 36 #[.string ⟨#[]⟩] w' fun e w2 => e = .returned (.tuple #[.string ⟨#[]⟩, .string ⟨#[]⟩, .bool false]) ∧ Only [] w' w2) := fun w' => ref_toText [] w' (by decide)
  have C0 := ref_toInt s w (by omega)
  cases h1 : rdI s with
  | none =>
    have HU : Hid (unS s = none) := by show _ = _; unfold unS; rw [h1]
    rw [h1, show rdV none = .tuple #[.int .i64 0, .string ⟨#[]⟩, .bool false] from rfl] at C0
    have HC0 := Lib.hid C0
    clear C0 h1
    go_enter Try.func58, Try.ntmps58
    go_wp2_with fail
    refine HC0.out.mono ?_
    rintro e w1 ⟨rfl, ho1⟩
    go_wp2_with fail
    refine (CN.out _).mono ?_
    rintro e w2 ⟨rfl, ho2⟩
    go_wp2_with fail
    go_ret2
    exact ⟨ho1.tr0 ho2, .inl ⟨HU.out, rfl⟩⟩
  | some p =>
    obtain ⟨ever, r⟩ := p
    have hr := rdI_length h1
    rw [h1, show rdV (some (ever, r)) = .tuple #[.int .i64 ever, .string ⟨r.toArray⟩, .bool true] from rfl] at C0
    have HC0 := Lib.hid C0
    have C1 := fun w' => ref_toInt r w' (by omega)
    cases h2 : rdI r with
    | none =>
      have HU : Hid (unS s = none) := by show _ = _; unfold unS; rw [h1]; dsimp only; rw [h2]
      rw [h2, show rdV none = .tuple #[.int .i64 0, .string ⟨#[]⟩, .bool false] from rfl] at C1
      have HC1 := Lib.hid C1
      clear C0 C1 h1 h2
      go_enter Try.func58, Try.ntmps58
      go_wp2_with fail
      refine HC0.out.mono ?_
      rintro e w1 ⟨rfl, ho1⟩
      go_wp2_with fail
      refine (HC1.out _).mono ?_
      rintro e w2 ⟨rfl, ho2⟩
      go_wp2_with fail
      go_ret2
      exact ⟨ho1.tr0 ho2, .inl ⟨HU.out, rfl⟩⟩
    | some p =>
      obtain ⟨n, r2⟩ := p
      have hr2 := rdI_length h2
      rw [h2, show rdV (some (n, r2)) = .tuple #[.int .i64 n, .string ⟨r2.toArray⟩, .bool true] from rfl] at C1
      have HC1 := Lib.hid C1
      by_cases hb : 0 ≤ n ∧ n ≤ 8
      · obtain ⟨hb3, hb4⟩ := hb
        obtain ⟨m, rfl⟩ := Int.eq_ofNat_of_zero_le hb3
        have hm8 : m ≤ 8 := by omega
        have HU := Lib.hid (unS_ofr h1 h2 hm8)
        have d3 : decide ((m : Int) < 0) = false := by simp
        have d4 : decide ((8 : Int) < m) = false := by simp; omega
        clear C0 C1 h1 h2 hb3 hb4
        go_enter Try.func58, Try.ntmps58
        go_wp2_with fail
        refine HC0.out.mono ?_
        rintro e w1 ⟨rfl, ho1⟩
        go_wp2_with fail
        refine (HC1.out _).mono ?_
        rintro e w2 ⟨rfl, ho2⟩
        have HO2 := ho1.tr0 ho2
        have hoT : Only [] w (w2.alloc (.cells #[.slice none 0 0, .int .i64 ever] 70)) := HO2.alloc _
        have HT0 : Hid (RtV (w2.alloc (.cells #[.slice none 0 0, .int .i64 ever] 70)) w2.heap.size w2.heap.size (.slice none 0 0) [] ever) := ⟨Nat.le_refl _, Cells.new _ _ _, World.ownsRow_nil _ _ _ _⟩
        have hz := HO2.size
        clear ho1 ho2 HC0 HC1 HO2
        go_wp2_with fail
        obtain ⟨z, hzz⟩ : ∃ z, w2.heap.size = z := ⟨_, rfl⟩
        rw [hzz] at HT0 hz ⊢
        clear hzz
        go_loopw [5, 10] (fun sv i wr => ∃ (k : Nat) (l : List Ses) (s' : List UInt8) (tv : Value), k ≤ m ∧ i = .int .i64 k ∧ sv = .string ⟨s'.toArray⟩ ∧ Hid (RtV wr z z tv l ever) ∧ l.length = k ∧ s'.length ≤ 1000000 ∧ Hid (unG ever m [] r2 = unG ever (m - k) l s') ∧ Only [] w wr) (fun _ i _ => m - (intOf i).toNat)
        case atStart => exact ⟨0, [], r2, _, by omega, rfl, rfl, HT0, rfl, by omega, rfl, hoT⟩
        case round =>
          obtain ⟨k, l, s', tv, hk, rfl, rfl, ht, hlk, hs', hg, ho⟩ := hrel
          by_cases hlt : k < m
          · have hlt' : (k : Int) < (m : Int) := by omega
            obtain ⟨j, hj⟩ : ∃ j, m - k = j + 1 := ⟨m - k - 1, by omega⟩
            rw [hj] at hg
            have hnone : unG ever m [] r2 = none → unS s = none := fun h => by
              rw [HU.out, h]; split <;> rfl
            have hbad : ∀ h : rdS s' = none, unS s = none := fun h => hnone (by rw [hg.out, unG_bad1 h])
            have CF : Hid (∀ id' w', Only [] wr w' → Calls Try.prog 88 #[.pointer (some ⟨z, 0, none⟩), .int .i64 id'] w' fun e w2 => e = .returned (.int .i64 (fndI l id')) ∧ w' = w2) := fun id' w' ho' => rt_find z z tv l ever id' w' (ht.out.only ho') (by omega)
            rcases rdS_parts s' with ⟨p1, pS⟩ | ⟨id, q1, p1, p2⟩
            · have HV := Lib.hid (hbad pS)
              have D0 := fun w' => ref_toInt s' w' (by omega)
              rw [p1, show rdV none = .tuple #[.int .i64 0, .string ⟨#[]⟩, .bool false] from rfl] at D0
              have HD0 := Lib.hid D0
              clear D0 p1 pS hbad hnone hg
              go_wp2_with fail
              refine (HD0.out _).mono ?_
              rintro e w3 ⟨rfl, ho3⟩
              go_wp2_with fail
              refine (CN.out _).mono ?_
              rintro e w4 ⟨rfl, ho4⟩
              go_wp2_with fail
              refine (CNT.out _).mono ?_
              rintro e w5 ⟨rfl, ho5⟩
              have hoA := (ho3.tr0 ho4).tr0 ho5
              clear ho3 ho4 ho5
              go_wp2_with fail
              refine (CF.out _ _ hoA).mono ?_
              rintro e w6 ⟨rfl, rfl⟩
              go_wp2_with fail
              go_ret2
              exact ⟨ho.tr0 hoA, .inl ⟨HV.out, rfl⟩⟩
            · have hq1 := rdI_length p1
              have D0 := fun w' => ref_toInt s' w' (by omega)
              rw [p1, show rdV (some (id, q1)) = .tuple #[.int .i64 id, .string ⟨q1.toArray⟩, .bool true] from rfl] at D0
              have HD0 := Lib.hid D0
              have D1 := fun w' => ref_toInt q1 w' (by omega)
              rcases p2 with ⟨p2, pS⟩ | ⟨q, q2, p2, p3⟩
              · have HV := Lib.hid (hbad pS)
                rw [p2, show rdV none = .tuple #[.int .i64 0, .string ⟨#[]⟩, .bool false] from rfl] at D1
                have HD1 := Lib.hid D1
                clear D0 D1 p1 p2 pS hbad hnone hg
                go_wp2_with fail
                refine (HD0.out _).mono ?_
                rintro e w3 ⟨rfl, ho3⟩
                go_wp2_with fail
                refine (HD1.out _).mono ?_
                rintro e w4 ⟨rfl, ho4⟩
                go_wp2_with fail
                refine (CNT.out _).mono ?_
                rintro e w5 ⟨rfl, ho5⟩
                have hoA := (ho3.tr0 ho4).tr0 ho5
                clear ho3 ho4 ho5
                go_wp2_with fail
                refine (CF.out _ _ hoA).mono ?_
                rintro e w6 ⟨rfl, rfl⟩
                go_wp2_with fail
                go_ret2
                exact ⟨ho.tr0 hoA, .inl ⟨HV.out, rfl⟩⟩
              · have hq2 := rdI_length p2
                rw [p2, show rdV (some (q, q2)) = .tuple #[.int .i64 q, .string ⟨q2.toArray⟩, .bool true] from rfl] at D1
                have HD1 := Lib.hid D1
                have D2 := fun w' => ref_toText q2 w' (by omega)
                rcases p3 with ⟨p3, pS⟩ | ⟨t, q3, p3, pS⟩
                · have HV := Lib.hid (hbad pS)
                  rw [p3, show rdTV none = .tuple #[.string ⟨#[]⟩, .string ⟨#[]⟩, .bool false] from rfl] at D2
                  have HD2 := Lib.hid D2
                  clear D0 D1 D2 p1 p2 p3 pS hbad hnone hg
                  go_wp2_with fail
                  refine (HD0.out _).mono ?_
                  rintro e w3 ⟨rfl, ho3⟩
                  go_wp2_with fail
                  refine (HD1.out _).mono ?_
                  rintro e w4 ⟨rfl, ho4⟩
                  go_wp2_with fail
                  refine (HD2.out _).mono ?_
                  rintro e w5 ⟨rfl, ho5⟩
                  have hoA := (ho3.tr0 ho4).tr0 ho5
                  clear ho3 ho4 ho5
                  go_wp2_with fail
                  refine (CF.out _ _ hoA).mono ?_
                  rintro e w6 ⟨rfl, rfl⟩
                  go_wp2_with fail
                  go_ret2
                  exact ⟨ho.tr0 hoA, .inl ⟨HV.out, rfl⟩⟩
                · have hq3 := rdT_len p3
                  rw [p3, show rdTV (some (t, q3)) = .tuple #[.string ⟨t.toArray⟩, .string ⟨q3.toArray⟩, .bool true] from rfl] at D2
                  have HD2 := Lib.hid D2
                  obtain ⟨x, hx⟩ : ∃ x : Ses, x = ⟨id, q, ⟨t.toArray⟩⟩ := ⟨_, rfl⟩
                  rw [← hx] at pS
                  have hxc : x.cells = [.int .i64 id, .int .i64 q, .string ⟨t.toArray⟩] := by rw [hx]; rfl
                  have hx1 : ∀ u ∈ x.cells, u.oneCell' = true := by rw [hxc]; simp [Value.oneCell']
                  have HXC := Lib.hid hxc
                  obtain ⟨fi, hfi⟩ : ∃ fi, fndI l id = fi := ⟨_, rfl⟩
                  have hok : okSes ever l x = (decide (0 < id) && decide (id ≤ ever) && decide (fi < 0) && decide (0 ≤ q) && (decide (0 < q) || t.isEmpty)) := by rw [← hfi, hx]; rfl
                  have CF : Hid (∀ w', Only [] wr w' → Calls Try.prog 88 #[.pointer (some ⟨z, 0, none⟩), .int .i64 id] w' fun e w2 => e = .returned (.int .i64 fi) ∧ w' = w2) := fun w' ho' => by rw [← hfi]; exact CF.out id w' ho'
                  have hbad2 : okSes ever l x = false → unS s = none := fun h => hnone (by rw [hg.out, unG_bad2 pS h])
                  have hgood : okSes ever l x = true → unG ever m [] r2 = unG ever j (l ++ [x]) q3 := fun h => by rw [hg.out, unG_next pS h]
                  clear D0 D1 D2 p1 p2 p3 pS hbad hnone hg hx hxc hfi
                  by_cases c1 : id < 1
                  · have HV := Lib.hid (hbad2 (by rw [hok]; simp; omega))
                    have ec1 : decide (id < 1) = true := by simpa using c1
                    clear hbad2 hgood hok c1
                    go_wp2_with fail
                    refine (HD0.out _).mono ?_
                    rintro e w3 ⟨rfl, ho3⟩
                    go_wp2_with fail
                    refine (HD1.out _).mono ?_
                    rintro e w4 ⟨rfl, ho4⟩
                    go_wp2_with fail
                    refine (HD2.out _).mono ?_
                    rintro e w5 ⟨rfl, ho5⟩
                    have hoA := (ho3.tr0 ho4).tr0 ho5
                    clear ho3 ho4 ho5
                    go_wp2_with fail
                    refine (CF.out _ hoA).mono ?_
                    rintro e w6 ⟨rfl, rfl⟩
                    go_wp2_with fail
                    go_ret2
                    exact ⟨ho.tr0 hoA, .inl ⟨HV.out, rfl⟩⟩
                  have ec1 : decide (id < 1) = false := by simpa using c1
                  by_cases c2 : ever < id
                  · have HV := Lib.hid (hbad2 (by rw [hok]; simp; omega))
                    have ec2 : decide (ever < id) = true := by simpa using c2
                    clear hbad2 hgood hok c1 c2
                    go_wp2_with fail
                    refine (HD0.out _).mono ?_
                    rintro e w3 ⟨rfl, ho3⟩
                    go_wp2_with fail
                    refine (HD1.out _).mono ?_
                    rintro e w4 ⟨rfl, ho4⟩
                    go_wp2_with fail
                    refine (HD2.out _).mono ?_
                    rintro e w5 ⟨rfl, ho5⟩
                    have hoA := (ho3.tr0 ho4).tr0 ho5
                    clear ho3 ho4 ho5
                    go_wp2_with fail
                    refine (CF.out _ hoA).mono ?_
                    rintro e w6 ⟨rfl, rfl⟩
                    go_wp2_with fail
                    go_ret2
                    exact ⟨ho.tr0 hoA, .inl ⟨HV.out, rfl⟩⟩
                  have ec2 : decide (ever < id) = false := by simpa using c2
                  by_cases c3 : 0 ≤ fi
                  · have HV := Lib.hid (hbad2 (by rw [hok]; simp; omega))
                    have ec3 : decide (0 ≤ fi) = true := by simpa using c3
                    clear hbad2 hgood hok c1 c2 c3
                    go_wp2_with fail
                    refine (HD0.out _).mono ?_
                    rintro e w3 ⟨rfl, ho3⟩
                    go_wp2_with fail
                    refine (HD1.out _).mono ?_
                    rintro e w4 ⟨rfl, ho4⟩
                    go_wp2_with fail
                    refine (HD2.out _).mono ?_
                    rintro e w5 ⟨rfl, ho5⟩
                    have hoA := (ho3.tr0 ho4).tr0 ho5
                    clear ho3 ho4 ho5
                    go_wp2_with fail
                    refine (CF.out _ hoA).mono ?_
                    rintro e w6 ⟨rfl, rfl⟩
                    go_wp2_with fail
                    go_ret2
                    exact ⟨ho.tr0 hoA, .inl ⟨HV.out, rfl⟩⟩
                  have ec3 : decide (0 ≤ fi) = false := by simpa using c3
                  by_cases c4 : q < 0
                  · have HV := Lib.hid (hbad2 (by rw [hok]; simp; omega))
                    have ec4 : decide (q < 0) = true := by simpa using c4
                    clear hbad2 hgood hok c1 c2 c3 c4
                    go_wp2_with fail
                    refine (HD0.out _).mono ?_
                    rintro e w3 ⟨rfl, ho3⟩
                    go_wp2_with fail
                    refine (HD1.out _).mono ?_
                    rintro e w4 ⟨rfl, ho4⟩
                    go_wp2_with fail
                    refine (HD2.out _).mono ?_
                    rintro e w5 ⟨rfl, ho5⟩
                    have hoA := (ho3.tr0 ho4).tr0 ho5
                    clear ho3 ho4 ho5
                    go_wp2_with fail
                    refine (CF.out _ hoA).mono ?_
                    rintro e w6 ⟨rfl, rfl⟩
                    go_wp2_with fail
                    go_ret2
                    exact ⟨ho.tr0 hoA, .inl ⟨HV.out, rfl⟩⟩
                  have ec4 : decide (q < 0) = false := by simpa using c4
                  by_cases c5 : q = 0 ∧ t ≠ []
                  · obtain ⟨c5, c6⟩ := c5
                    obtain ⟨ch, t', rfl⟩ : ∃ ch t', t = ch :: t' := List.exists_cons_of_ne_nil c6
                    subst c5
                    have HV := Lib.hid (hbad2 (by rw [hok]; simp))
                    clear hbad2 hgood hok c1 c2 c3 c4 c6
                    go_wp2_with fail
                    refine (HD0.out _).mono ?_
                    rintro e w3 ⟨rfl, ho3⟩
                    go_wp2_with fail
                    refine (HD1.out _).mono ?_
                    rintro e w4 ⟨rfl, ho4⟩
                    go_wp2_with fail
                    refine (HD2.out _).mono ?_
                    rintro e w5 ⟨rfl, ho5⟩
                    have hoA := (ho3.tr0 ho4).tr0 ho5
                    clear ho3 ho4 ho5
                    go_wp2_with fail
                    refine (CF.out _ hoA).mono ?_
                    rintro e w6 ⟨rfl, rfl⟩
                    go_wp2_with fail
                    go_ret2
                    exact ⟨ho.tr0 hoA, .inl ⟨HV.out, rfl⟩⟩
                  have HG2 := Lib.hid (hgood (by rw [hok]; simp; refine ⟨⟨⟨⟨by omega, by omega⟩, by omega⟩, by omega⟩, ?_⟩; by_cases hq0 : q = 0; exact .inr (Classical.byContradiction fun h => c5 ⟨hq0, h⟩); exact .inl (by omega)))
                  obtain ⟨b5, e5, he5⟩ : ∃ b5, (q == 0) = b5 ∧ (b5 = false ∨ (b5 = true ∧ t = [])) := by
                    by_cases h : q = 0
                    · exact ⟨true, by simp [h], .inr ⟨rfl, Classical.byContradiction fun h2 => c5 ⟨h, h2⟩⟩⟩
                    · exact ⟨false, by simpa using h, .inl rfl⟩
                  clear hbad2 hgood hok c1 c2 c3 c4 c5
                  rcases he5 with rfl | ⟨rfl, rfl⟩
                  all_goals
                    go_wp2_with fail
                    refine (HD0.out _).mono ?_
                    rintro e w3 ⟨rfl, ho3⟩
                    go_wp2_with fail
                    refine (HD1.out _).mono ?_
                    rintro e w4 ⟨rfl, ho4⟩
                    go_wp2_with fail
                    refine (HD2.out _).mono ?_
                    rintro e w5 ⟨rfl, ho5⟩
                    have hoA := (ho3.tr0 ho4).tr0 ho5
                    clear ho3 ho4 ho5
                    go_wp2_with fail
                    refine (CF.out _ hoA).mono ?_
                    rintro e w6 ⟨rfl, rfl⟩
                    have HT6 := Lib.hid (ht.out.only hoA)
                    have hoD := ho.tr0 hoA
                    clear CF ht HD0 HD1 HD2 hoA
                    obtain ⟨-, hcT, hoT6⟩ := HT6.out
                    have hzn : z ∉ rb tv := by intro hm; exact own_ne_block hoT6 hcT (by decide) (by simpa [rb] using hm)
                    have HOT := Lib.hid hoT6
                    have HCT := Lib.hid hcT
                    have HZN := Lib.hid hzn
                    have hzw : z ≤ w5.heap.size := Nat.le_of_lt hcT.lt
                    have hzw' : z < w5.heap.size := hcT.lt
                    have e0 := HCT.out.cell (k := 0) rfl
                    have hown5 : w5.ownsRow z 131 3 tv k (sesL l) := by rw [← hlk]; exact hoT6
                    clear hcT hoT6 hzn
                    go_wp2_with (at_builtin; refine wpList_app rfl _ _ 68 rfl z 131 i0 (.agg #[.int .i64 0, .int .i64 0, .string .empty]) 3 32 Try.underlying68 hi0 hz0 hz1 hz2 rfl (by decide) w5 tv k (sesL l) rfl hown5 1 1 [.int .i64 id, .int .i64 q, .string _] rfl rfl (by simp [Value.oneCell']) (by unfold maxLen; omega) (by omega) hzw ?_)
                    intro v' w7 hown7 hgrow _
                    have hnez : tv.ownBlock ≠ some z := fun h => HZN.out (by simp [rb, h])
                    have hC7 := HCT.out.grown hgrow hnez
                    obtain ⟨g7, cap7, hv7⟩ : ∃ g cap, v' = .slice (some ⟨g, 0, none⟩) (k + 1) cap := by
                      obtain ⟨g, cap, _, h, _⟩ := own_block hown7 (by omega)
                      exact ⟨g, cap, h⟩
                    subst hv7
                    have d0 := hC7.cell (k := 0) rfl
                    have f0 := hC7.frozen 0
                    have hl7 := hC7.lt
                    have hoE : Only [] w w7 := hoD.grown hgrow fun y hy => .inr (Nat.le_trans hz (HOT.out.lt y hy).1)
                    have HT7 : Hid (RtV (w7.setCell ⟨z, 0, none⟩ (.slice (some ⟨g7, 0, none⟩) (k + 1) cap7)) z z (.slice (some ⟨g7, 0, none⟩) (k + 1) cap7) (l ++ [x]) ever) := by
                      refine ⟨Nat.le_refl _, hC7.set 0 _, ?_⟩
                      rw [List.length_append, List.length_singleton, hlk, sesL_append]
                      have h2 : sesL [x] = x.cells := by simp [sesL]
                      rw [h2, HXC.out]
                      exact ownsRow_setCell_other hown7 (a := ⟨z, 0, none⟩) (own_ne_block hown7 hC7 (by decide)) _
                    clear hC7 hown7 hgrow e0 hown5
                    go_wp2_with fail
                    go_roundw
                    case rel => exact ⟨k + 1, l ++ [x], q3, _, by omega, by go_num, rfl, HT7, by rw [List.length_append, hlk]; rfl, by simp at *; omega, by show _ = _; rw [HG2.out, show m - (k + 1) = j from by omega], hoE.setCell (.inr (by simp; omega)) _⟩
                    case measure => simp [intOf]; omega
          · have hd0 : decide ((k : Int) < (m : Int)) = false := by simp; omega
            obtain rfl : k = m := by omega
            rw [Nat.sub_self] at hg
            have hg2 : unG ever k [] r2 = some (l, s') := hg.out
            have hu := HU.out
            rw [hg2] at hu
            cases s' with
            | nil =>
              have hu : unS s = if 0 ≤ ever ∧ ever ≤ 1099511627776 then some ⟨l, ever⟩ else none := hu
              by_cases a1 : ever < 0
              · have HV : Hid (unS s = none) := by show _ = _; rw [hu, if_neg (by omega)]
                have d1 : decide (ever < 0) = true := by simpa using a1
                clear hg hg2 hu HU a1
                go_wp2_with fail
                go_ret2
                exact ⟨ho, .inl ⟨HV.out, rfl⟩⟩
              · have d1 : decide (ever < 0) = false := by simpa using a1
                by_cases a2 : 1099511627776 < ever
                · have HV : Hid (unS s = none) := by show _ = _; rw [hu, if_neg (by omega)]
                  have d2 : decide ((1099511627776 : Int) < ever) = true := by simpa using a2
                  clear hg hg2 hu HU a1 a2
                  go_wp2_with fail
                  go_ret2
                  exact ⟨ho, .inl ⟨HV.out, rfl⟩⟩
                · have HV : Hid (unS s = some ⟨l, ever⟩) := by show _ = _; rw [hu, if_pos (by omega)]
                  have d2 : decide ((1099511627776 : Int) < ever) = false := by simpa using a2
                  clear hg hg2 hu HU a1 a2
                  go_wp2_with fail
                  go_ret2
                  exact ⟨ho, .inr ⟨_, z, tv, HV.out, rfl, hz, ht.out.2.1, own_base ht.out.2.2 hz⟩⟩
            | cons c s' =>
              have HV : Hid (unS s = none) := by show _ = _; rw [hu]; split <;> rfl
              clear hg hg2 hu HU
              go_wp2_with fail
              go_ret2
              exact ⟨ho, .inl ⟨HV.out, rfl⟩⟩
      · have HU := Lib.hid (unS_out h1 h2 fun h => hb ⟨h.2.2.1, h.2.2.2⟩)
        clear C0 C1 h1 h2
        by_cases a3 : n < 0
        · have d3 : decide (n < 0) = true := by simpa using a3
          clear a3 hb
          go_enter Try.func58, Try.ntmps58
          go_wp2_with fail
          refine HC0.out.mono ?_
          rintro e w1 ⟨rfl, ho1⟩
          go_wp2_with fail
          refine (HC1.out _).mono ?_
          rintro e w2 ⟨rfl, ho2⟩
          go_wp2_with fail
          go_ret2
          exact ⟨ho1.tr0 ho2, .inl ⟨HU.out, rfl⟩⟩
        · have d3 : decide (n < 0) = false := by simpa using a3
          have d4 : decide ((8 : Int) < n) = true := by simp; omega
          clear a3 hb
          go_enter Try.func58, Try.ntmps58
          go_wp2_with fail
          refine HC0.out.mono ?_
          rintro e w1 ⟨rfl, ho1⟩
          go_wp2_with fail
          refine (HC1.out _).mono ?_
          rintro e w2 ⟨rfl, ho2⟩
          go_wp2_with fail
          go_ret2
          exact ⟨ho1.tr0 ho2, .inl ⟨HU.out, rfl⟩⟩
end Go.Proofs.Ytojhbhdlbbmghaa
