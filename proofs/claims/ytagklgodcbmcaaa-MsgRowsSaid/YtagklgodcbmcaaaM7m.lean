/-
  Chapter 7: the document's Unpack. (Printed by gen_m7m.py.)
-/
import Derived.Test.YtagklgodcbmcaaaM7l
namespace Go.Proofs.Ytagklgodcbmcaaa
open Go.RowKit
set_option maxRecDepth 100000 in
set_option maxHeartbeats 8000000 in
theorem ref7_unpack (s : List UInt8) (w : World) (hl : s.length ≤ 1000000000000) :
    Calls Try.prog 82 #[.string ⟨s.toArray⟩] w (UnW s w) := by
  obtain ⟨i0, hi0, hz0, hz1, hz2⟩ := info_parts info_ent
  obtain ⟨w1, hw1⟩ : ∃ w1, w.alloc (.cells #[.int .i64 0, .int .i64 0, .int .i64 0, .int .i64 0, .int .i64 0, .int .i64 0, .int .i64 0, .bool false, .slice none 0 0, .int .i64 0, .int .i64 0, .slice none 0 0, .string ⟨#[]⟩, .string ⟨#[]⟩] 67) = w1 := ⟨_, rfl⟩
  obtain ⟨w2, hw2⟩ : ∃ w2, w1.alloc (.cells #[.string ⟨s.toArray⟩, .bool true] 137) = w2 := ⟨_, rfl⟩
  obtain ⟨w3, hw3⟩ : ∃ w3, w2.alloc (.cells #[.int .i64 0, .int .i64 0, .int .i64 0, .int .i64 0, .int .i64 0, .int .i64 0, .int .i64 0] 138) = w3 := ⟨_, rfl⟩
  have s1 : w1.heap.size = w.heap.size + 1 := by rw [← hw1]; simp
  have s2 : w2.heap.size = w.heap.size + 1 + 1 := by rw [← hw2]; simp [s1]
  have O1 : Only [] w w1 := hw1 ▸ (Only.refl _ _).alloc _
  have O2 : Only [] w w2 := hw2 ▸ O1.alloc _
  have O3 : Only [] w w3 := hw3 ▸ O2.alloc _
  have a1 : Cells w1 w.heap.size 67 [.int .i64 0, .int .i64 0, .int .i64 0, .int .i64 0, .int .i64 0, .int .i64 0, .int .i64 0, .bool false, .slice none 0 0, .int .i64 0, .int .i64 0, .slice none 0 0, .string ⟨#[]⟩, .string ⟨#[]⟩] := hw1 ▸ Cells.new w _ _
  have a2 : Cells w2 (w.heap.size + 1) 137 [.string ⟨s.toArray⟩, .bool true] := by
    have := Cells.new w1 137 [.string ⟨s.toArray⟩, .bool true]
    rw [s1] at this
    exact hw2 ▸ this
  have a3 : Cells w3 (w.heap.size + 1 + 1) 138 [.int .i64 0, .int .i64 0, .int .i64 0, .int .i64 0, .int .i64 0, .int .i64 0, .int .i64 0] := by
    have := Cells.new w2 138 [.int .i64 0, .int .i64 0, .int .i64 0, .int .i64 0, .int .i64 0, .int .i64 0, .int .i64 0]
    rw [s2] at this
    exact hw3 ▸ this
  have B1 : Hid (Cells w3 w.heap.size 67 [.int .i64 0, .int .i64 0, .int .i64 0, .int .i64 0, .int .i64 0, .int .i64 0, .int .i64 0, .bool false, .slice none 0 0, .int .i64 0, .int .i64 0, .slice none 0 0, .string ⟨#[]⟩, .string ⟨#[]⟩]) := Lib.hid (hw3 ▸ (hw2 ▸ a1.alloc _ : Cells w2 _ _ _).alloc _)
  have B2 : Hid (RrAt w3 (w.heap.size + 1) ⟨s, true⟩) := Lib.hid ⟨hw3 ▸ a2.alloc _, hl⟩
  have B3 := Lib.hid a3
  have HO := Lib.hid O3
  obtain ⟨r0, hr0⟩ : ∃ r : Rr, r = ⟨s, true⟩ := ⟨_, rfl⟩
  have HR0 := Lib.hid hr0
  rw [← hr0] at B2
  have l0 : r0.s.length ≤ 1000000000000 := by rw [hr0]; exact hl
  obtain ⟨R, hR⟩ : ∃ R, w.heap.size = R := ⟨_, rfl⟩
  clear a1 a2 a3 O1 O2 O3 hr0
  go_enter Try.func82, Try.ntmps82
  go_wp2_with fail
  rw [hR] at B1 B2 B3
  try rw [hR] at hw3
  try rw [hw3]
  clear hw1 hw2 hw3 s1 s2
  go_loopw [6] (fun i wr => ∃ k : Nat, k ≤ 7 ∧ i = .int .i64 k ∧ Hid (Cells wr R 67 [.int .i64 0, .int .i64 0, .int .i64 0, .int .i64 0, .int .i64 0, .int .i64 0, .int .i64 0, .bool false, .slice none 0 0, .int .i64 0, .int .i64 0, .slice none 0 0, .string ⟨#[]⟩, .string ⟨#[]⟩]) ∧ Hid (RrAt wr (R + 1) (r0.after k)) ∧ Hid (Cells wr (R + 1 + 1) 138 (gvs (r0.ints k) ++ (List.replicate (7 - k) (.int .i64 0)))) ∧ Hid (Only [] w wr)) (fun i _ => 7 - (intOf i).toNat)
  case atStart => exact ⟨0, by omega, rfl, B1, B2, B3, HO⟩
  case round =>
    obtain ⟨k, hk, rfl, hb, hr, hq, ho⟩ := hrel
    have sz := ho.out.size
    by_cases hlt : k < 7
    · have hlt' : (k : Int) < 7 := by omega
      have CI := Lib.hid (ref7_r_int (R + 1) (r0.after k) wr hr.out)
      go_wp2_with fail
      refine CI.out.mono ?_
      rintro e w5 ⟨rfl, hr5, ho5⟩
      have hq5 := hq.out.only ho5 (by simp)
      have hlen : k < (gvs (r0.ints k) ++ (List.replicate (7 - k) (Value.int .i64 0))).length := by
        rw [List.length_append, List.length_replicate]
        unfold gvs
        rw [List.length_map, Rr.ints_length]; omega
      obtain ⟨u0, z0⟩ : ∃ u, w5.cell? ⟨R + 1 + 1, k, none⟩ = some u := ⟨_, hq5.cell (List.getElem?_eq_getElem hlen)⟩
      have z1 := hq5.frozen k
      have z2 := hq5.lt
      have hset := hq5.set k (.int .i64 (r0.after k).int.1)
      have hrow : (gvs (r0.ints k) ++ (List.replicate (7 - k) (Value.int .i64 0))).set k (.int .i64 (r0.after k).int.1) = gvs (r0.ints (k + 1)) ++ (List.replicate (7 - (k + 1)) (.int .i64 0)) := by
        have h2 : (gvs (r0.ints k)).length = k := by unfold gvs; rw [List.length_map, Rr.ints_length]
        rw [List.set_append, if_neg (by omega), h2, Nat.sub_self, show 7 - k = (7 - (k + 1)) + 1 from by omega, List.replicate_succ, List.set_cons_zero]
        show _ = gvs (r0.ints k ++ [r0.nth k]) ++ _
        unfold gvs
        rw [List.map_append, List.append_assoc]
        rfl
      rw [hrow] at hset
      have HQ6 := Lib.hid hset
      have HB6 := Lib.hid ((hb.out.only ho5 (by simp)).far (p := ⟨R + 1 + 1, k, none⟩) (by simp <;> omega) (.int .i64 (r0.after k).int.1))
      have HR6 : Hid (RrAt (w5.setCell ⟨R + 1 + 1, k, none⟩ (.int .i64 (r0.after k).int.1)) (R + 1) (r0.after (k + 1))) := Lib.hid ⟨hr5.1.far (p := ⟨R + 1 + 1, k, none⟩) (by simp) _, hr5.2⟩
      have HO6 := Lib.hid ((ho.out.trans ho5 (by intro x hx; simp at hx; exact .inr (by omega))).setCell (p := ⟨R + 1 + 1, k, none⟩) (.inr (by simp; omega)) (.int .i64 (r0.after k).int.1))
      clear hset hrow hq5 hr5 ho5 CI hlen
      go_wp2_with fail
      go_roundw
      case rel => exact ⟨k + 1, by omega, by go_num, HB6, HR6, HQ6, HO6⟩
      case measure => simp [intOf]; omega
    · obtain rfl : k = 7 := by omega
      have hd : decide ((7 : Int) < 7) = false := by simp
      obtain ⟨n0, g0⟩ : ∃ x, r0.nth 0 = x := ⟨_, rfl⟩
      obtain ⟨n1, g1⟩ : ∃ x, r0.nth 1 = x := ⟨_, rfl⟩
      obtain ⟨n2, g2⟩ : ∃ x, r0.nth 2 = x := ⟨_, rfl⟩
      obtain ⟨n3, g3⟩ : ∃ x, r0.nth 3 = x := ⟨_, rfl⟩
      obtain ⟨n4, g4⟩ : ∃ x, r0.nth 4 = x := ⟨_, rfl⟩
      obtain ⟨n5, g5⟩ : ∃ x, r0.nth 5 = x := ⟨_, rfl⟩
      obtain ⟨n6, g6⟩ : ∃ x, r0.nth 6 = x := ⟨_, rfl⟩
      have G7 : Hid (r0.ints 7 = [n0, n1, n2, n3, n4, n5, n6]) := Lib.hid (by rw [← g0, ← g1, ← g2, ← g3, ← g4, ← g5, ← g6]; rfl)
      have W7 : Hid (Wide64 n0 ∧ Wide64 n1 ∧ Wide64 n2 ∧ Wide64 n3 ∧ Wide64 n4 ∧ Wide64 n5 ∧ Wide64 n6) := by
        rw [← g0, ← g1, ← g2, ← g3, ← g4, ← g5, ← g6]
        exact Lib.hid ⟨intR_wide _, intR_wide _, intR_wide _, intR_wide _, intR_wide _, intR_wide _, intR_wide _⟩
      have hq7 := hq.out
      rw [G7.out] at hq7
      have hq7 : Cells wr (R + 1 + 1) 138 [.int .i64 n0, .int .i64 n1, .int .i64 n2, .int .i64 n3, .int .i64 n4, .int .i64 n5, .int .i64 n6] := hq7
      have q0 := hq7.cell (k := 0) rfl
      have q1 := hq7.cell (k := 1) rfl
      have q2 := hq7.cell (k := 2) rfl
      have q3 := hq7.cell (k := 3) rfl
      have q4 := hq7.cell (k := 4) rfl
      have q5 := hq7.cell (k := 5) rfl
      have q6 := hq7.cell (k := 6) rfl
      have l7 := afterR_len l0 7
      obtain ⟨r7, h7⟩ : ∃ r7, r0.after 7 = r7 := ⟨_, rfl⟩
      rw [h7] at hr l7
      have H7 := Lib.hid h7
      have rc := hr.out.1.cell (k := 0) rfl
      obtain ⟨wA, hwA⟩ : ∃ wA, wr.alloc (.cells #[.int .i64 0, .int .i64 0, .int .i64 0, .int .i64 0, .int .i64 0, .int .i64 0, .int .i64 0, .bool false, .slice none 0 0, .int .i64 0, .int .i64 0, .slice none 0 0, .string ⟨#[]⟩, .string ⟨#[]⟩] 67) = wA := ⟨_, rfl⟩
      obtain ⟨z, hz⟩ : ∃ z, wr.heap.size = z := ⟨_, rfl⟩
      obtain ⟨w4, hw4⟩ : ∃ w4, wA.setRow z #[.int .i64 n0, .int .i64 n1, .int .i64 n2, .int .i64 n3, .int .i64 n4, .int .i64 n5, .int .i64 n6, .bool false, .slice none 0 0, .int .i64 0, .int .i64 0, .slice none 0 0, .string ⟨#[]⟩, .string ⟨#[]⟩] = w4 := ⟨_, rfl⟩
      have hAz : Cells wA z 67 [.int .i64 0, .int .i64 0, .int .i64 0, .int .i64 0, .int .i64 0, .int .i64 0, .int .i64 0, .bool false, .slice none 0 0, .int .i64 0, .int .i64 0, .slice none 0 0, .string ⟨#[]⟩, .string ⟨#[]⟩] := hwA ▸ hz ▸ Cells.new wr _ _
      have oA : Only [] wr w4 := hw4 ▸ (Only.setRow (hwA ▸ (Only.refl _ _).alloc _) (.inr (by omega)) _)
      have HM4 : Hid (Cells w4 z 67 [.int .i64 n0, .int .i64 n1, .int .i64 n2, .int .i64 n3, .int .i64 n4, .int .i64 n5, .int .i64 n6, .bool false, .slice none 0 0, .int .i64 0, .int .i64 0, .slice none 0 0, .string ⟨#[]⟩, .string ⟨#[]⟩]) := Lib.hid (hw4 ▸ hAz.setRow [.int .i64 n0, .int .i64 n1, .int .i64 n2, .int .i64 n3, .int .i64 n4, .int .i64 n5, .int .i64 n6, .bool false, .slice none 0 0, .int .i64 0, .int .i64 0, .slice none 0 0, .string ⟨#[]⟩, .string ⟨#[]⟩])
      have HB4 := Lib.hid (hb.out.only oA (by simp))
      have HR4 : Hid (RrAt w4 (R + 1) r7) := Lib.hid ⟨hr.out.1.only oA (by simp), hr.out.2⟩
      have HO4 := Lib.hid (ho.out.tr oA)
      have hRz : R + 1 + 1 < z := by rw [← hz]; exact hq7.lt
      have rc4 := HR4.out.1.cell (k := 0) rfl
      have CB := Lib.hid (ref_toBool r7.s w4 l7)
      have HMH := Lib.hid (fun x => afterR_len (r := ⟨x, r7.ok⟩) (n := 1000000000000))
      have hone : (#[.int .i64 n0, .int .i64 n1, .int .i64 n2, .int .i64 n3, .int .i64 n4, .int .i64 n5, .int .i64 n6, .bool false, .slice none 0 0, .int .i64 0, .int .i64 0, .slice none 0 0, .string ⟨#[]⟩, .string ⟨#[]⟩] : Array Value).all (·.oneCell') = true := by simp [Value.oneCell']
      clear g0 g1 g2 g3 g4 g5 g6 hq7 h7 hb hr hq ho oA
      go_wp2_with (refine wpList_store_row rfl 67 _ _ rfl z #[.int .i64 n0, .int .i64 n1, .int .i64 n2, .int .i64 n3, .int .i64 n4, .int .i64 n5, .int .i64 n6, .bool false, .slice none 0 0, .int .i64 0, .int .i64 0, .slice none 0 0, .string ⟨#[]⟩, .string ⟨#[]⟩] rfl rfl 67 _ hAz (by kernel_rfl) rfl hone ?_)
      clear hone hAz
      have V7 : Hid (∀ m : Ms, m.Right ∧ msb m = s → r7 = ⟨m.t7, true⟩ ∧ [n0, n1, n2, n3, n4, n5, n6] = m.l7) := Lib.hid fun m h => by
        have q := rr_out h.1 h.2
        have q1 := q.r7
        have q2 := q.i7
        rw [← HR0.out] at q1 q2
        rw [H7.out] at q1
        rw [G7.out] at q2
        exact ⟨q1, q2⟩
      clear H7 G7
      cases hbo : rdB r7.s with
      | none =>
        rw [hbo] at CB
        unfold rdBV at CB
        refine CB.out.mono ?_
        rintro e w5 ⟨rfl, ho5⟩
        have HB5 := Lib.hid (HB4.out.only ho5 (by simp))
        have HO5 := Lib.hid (HO4.out.tr ho5)
        clear CB
        have HNO : Hid (∀ m : Ms, ¬ (m.Right ∧ msb m = s)) := Lib.hid (fun m h => by have q := (rr_out h.1 h.2).ok; rw [(V7.out m h).1] at hbo; dsimp only at hbo; rw [q] at hbo; cases hbo)
        have hst := HB5.out
        have hone : (#[.int .i64 0, .int .i64 0, .int .i64 0, .int .i64 0, .int .i64 0, .int .i64 0, .int .i64 0, .bool false, .slice none 0 0, .int .i64 0, .int .i64 0, .slice none 0 0, .string ⟨#[]⟩, .string ⟨#[]⟩] : Array Value).all (·.oneCell') = true := by simp [Value.oneCell']
        go_wp2_with (refine wpList_store_row rfl 67 _ _ rfl R #[.int .i64 0, .int .i64 0, .int .i64 0, .int .i64 0, .int .i64 0, .int .i64 0, .int .i64 0, .bool false, .slice none 0 0, .int .i64 0, .int .i64 0, .slice none 0 0, .string ⟨#[]⟩, .string ⟨#[]⟩] rfl rfl 67 _ hst (by kernel_rfl) rfl hone ?_)
        (try simp only [Exit.inBlock, Exit.then])
        refine bodyPost_ret (v := .tuple #[.agg #[.int .i64 0, .int .i64 0, .int .i64 0, .int .i64 0, .int .i64 0, .int .i64 0, .int .i64 0, .bool false, .slice none 0 0, .int .i64 0, .int .i64 0, .slice none 0 0, .string ⟨#[]⟩, .string ⟨#[]⟩], .int .i64 8]) ?_ rfl ⟨none, .slice none 0 0, .slice none 0 0, fun m => ⟨fun h => by (cases h), fun h => absurd h (HNO.out m)⟩, rfl, ms_zero_at _, ?_⟩
        · exact results_row_tmp Try.results82 _ _ R 67 [.int .i64 0, .int .i64 0, .int .i64 0, .int .i64 0, .int .i64 0, .int .i64 0, .int .i64 0, .bool false, .slice none 0 0, .int .i64 0, .int .i64 0, .slice none 0 0, .string ⟨#[]⟩, .string ⟨#[]⟩] _ rfl (Cells.setRow HB5.out [.int .i64 0, .int .i64 0, .int .i64 0, .int .i64 0, .int .i64 0, .int .i64 0, .int .i64 0, .bool false, .slice none 0 0, .int .i64 0, .int .i64 0, .slice none 0 0, .string ⟨#[]⟩, .string ⟨#[]⟩]) Try.underlying67 rfl (by kernel_rfl)
        exact HO5.out.setRow (.inr (by omega)) _
      | some p =>
        obtain ⟨bo, t8⟩ := p
        rw [hbo] at CB
        unfold rdBV at CB
        refine CB.out.mono ?_
        rintro e w5 ⟨rfl, ho5⟩
        have V8 : Hid (∀ m : Ms, m.Right ∧ msb m = s → (⟨t8, r7.ok⟩ : Rr) = ⟨m.t8, true⟩ ∧ bo = m.ok) := Lib.hid fun m h => by
          have q := (rr_out h.1 h.2).ok
          have e := (V7.out m h).1
          rw [e] at hbo
          dsimp only at hbo
          rw [q] at hbo
          simp only [Option.some.injEq, Prod.mk.injEq] at hbo
          rw [e]
          exact ⟨by rw [hbo.2], hbo.1.symm⟩
        have lt8 : t8.length ≤ 1000000000000 := Nat.le_trans (rdB_len hbo) l7
        have hm5 := HM4.out.only ho5 (by simp)
        have hr5 := HR4.out.1.only ho5 (by simp)
        have p7 := hm5.cell (k := 7) rfl
        have f7 := hm5.frozen 7
        have lz5 := hm5.lt
        have pc0 := hr5.cell (k := 0) rfl
        have fc0 := hr5.frozen 0
        have lr5 := hr5.lt
        obtain ⟨w6, hw6⟩ : ∃ w6, (w5.setCell ⟨z, 7, none⟩ (.bool bo)).setCell ⟨R + 1, 0, none⟩ (.string ⟨t8.toArray⟩) = w6 := ⟨_, rfl⟩
        have HM6 : Hid (Cells w6 z 67 [.int .i64 n0, .int .i64 n1, .int .i64 n2, .int .i64 n3, .int .i64 n4, .int .i64 n5, .int .i64 n6, .bool bo, .slice none 0 0, .int .i64 0, .int .i64 0, .slice none 0 0, .string ⟨#[]⟩, .string ⟨#[]⟩]) := Lib.hid (hw6 ▸ (hm5.set 7 (.bool bo)).far (p := ⟨R + 1, 0, none⟩) (by simp; omega) _)
        have HR6 : Hid (RrAt w6 (R + 1) ⟨t8, r7.ok⟩) := Lib.hid ⟨hw6 ▸ (hr5.far (p := ⟨z, 7, none⟩) (by simp; omega) (.bool bo)).set 0 (.string ⟨t8.toArray⟩), lt8⟩
        have oW : Only [z, R + 1] w5 w6 := hw6 ▸ ((Only.refl _ _).setCell (.inl (by simp)) _).setCell (.inl (by simp)) _
        have HB6 := Lib.hid ((HB4.out.only ho5 (by simp)).only oW (by simp; omega))
        have HO6 := Lib.hid ((HO4.out.tr ho5).trans oW (by intro x hx; simp at hx; exact .inr (by omega)))
        obtain ⟨r8, h8⟩ : ∃ r8 : Rr, (⟨t8, r7.ok⟩ : Rr) = r8 := ⟨_, rfl⟩
        rw [h8] at V8 HR6
        have l8 : r8.s.length ≤ 1000000000000 := by rw [← h8]; exact lt8
        have CI := Lib.hid (ref7_r_int (R + 1) r8 w6 HR6.out)
        clear h8 hbo hm5 hr5 oW ho5 CB HM4 HR4 HB4 HO4 HMH rc4 rc
        go_wp2_with fail
        clear hw6 p7 f7 lz5 pc0 fc0 lr5
        refine CI.out.mono ?_
        rintro e w7 ⟨rfl, hr7, ho7⟩
        obtain ⟨n, hn⟩ : ∃ n, r8.int.1 = n := ⟨_, rfl⟩
        obtain ⟨r9, h9⟩ : ∃ r9, r8.int.2 = r9 := ⟨_, rfl⟩
        rw [hn]
        rw [h9] at hr7
        have l9 : r9.s.length ≤ 1000000000000 := by rw [← h9]; exact intR_len l8
        have wn : Wide64 n := hn ▸ intR_wide r8
        have V9 : Hid (∀ m : Ms, m.Right ∧ msb m = s → n = m.es.length ∧ r9 = ⟨m.t9, true⟩) := Lib.hid fun m h => by
          have q := (rr_out h.1 h.2).n
          rw [← (V8.out m h).1] at q
          exact ⟨by rw [← hn, q], by rw [← h9, q]⟩
        have HM7 := Lib.hid (HM6.out.only ho7 (by simp; omega))
        have HR7 := Lib.hid hr7
        have HB7 := Lib.hid (HB6.out.only ho7 (by simp))
        have HO7 := Lib.hid (HO6.out.trans ho7 (by intro x hx; simp at hx; exact .inr (by omega)))
        clear hr7 ho7 hn h9 CI HM6 HR6 HB6 HO6
        go_wp2_with fail
        go_loopw [12] (fun i wq => ∃ (k : Nat) (ev : Value), k ≤ 9 ∧ ((k : Int) ≤ n ∨ k = 0) ∧ i = .int .i64 k ∧ Hid (RrAt wq (R + 1) (r9.ens k).2) ∧ Hid (Cells wq z 67 [.int .i64 n0, .int .i64 n1, .int .i64 n2, .int .i64 n3, .int .i64 n4, .int .i64 n5, .int .i64 n6, .bool bo, ev, .int .i64 0, .int .i64 0, .slice none 0 0, .string ⟨#[]⟩, .string ⟨#[]⟩]) ∧ Hid (wq.ownsRow R 40 4 ev k (enL (r9.ens k).1)) ∧ Hid (Cells wq R 67 [.int .i64 0, .int .i64 0, .int .i64 0, .int .i64 0, .int .i64 0, .int .i64 0, .int .i64 0, .bool false, .slice none 0 0, .int .i64 0, .int .i64 0, .slice none 0 0, .string ⟨#[]⟩, .string ⟨#[]⟩]) ∧ Hid (Only [] w wq)) (fun i _ => 9 - (intOf i).toNat)
        case atStart => exact ⟨0, .slice none 0 0, by omega, .inr rfl, rfl, HR7, HM7, Lib.hid (World.ownsRow_nil _ _ _ _), HB7, HO7⟩
        case round =>
          rename_i wr0
          obtain ⟨k, ev, hk, hkn, rfl, hr, hz', hown, hb, ho⟩ := hrel
          obtain ⟨A, cap, rfl⟩ := (SlAt.of_own hown.out).shape
          have hw0 := ho.out.size
          have ok0 := hr.out.1.cell (k := 1) rfl
          have hne : (Value.slice A k cap).ownBlock ≠ some (R + 1) := own_ne_block hown.out hr.out.1 (by decide)
          have hne2 : (Value.slice A k cap).ownBlock ≠ some z := own_ne_block hown.out hz'.out (by decide)
          have hne3 : (Value.slice A k cap).ownBlock ≠ some R := own_ne_block hown.out hb.out (by decide)
          go_upto_region 15 with fail
          go_cut [79] from 67 to 99 (fun c wx => c = .bool (decide (((k : Int) < n ∧ k ≤ 8) ∧ (r9.ens k).2.ok = true)) ∧ wx = wr)
          case first =>
            by_cases h1 : (k : Int) < n
            case neg =>
              have d1 : decide ((k : Int) < n) = false := by simpa using h1
              go_wp2_with fail
              go_meet
              exact ⟨congrArg Value.bool (decide_eq_false (p := ((k : Int) < n ∧ k ≤ 8) ∧ (r9.ens k).2.ok = true) (by omega)).symm, rfl⟩
            have d1 : decide ((k : Int) < n) = true := by simpa using h1
            by_cases h2 : k ≤ 8
            case neg =>
              have d2 : decide ((k : Int) ≤ 8) = false := by simp; omega
              go_wp2_with fail
              go_meet
              exact ⟨congrArg Value.bool (decide_eq_false (p := ((k : Int) < n ∧ k ≤ 8) ∧ (r9.ens k).2.ok = true) (by omega)).symm, rfl⟩
            have d2 : decide ((k : Int) ≤ 8) = true := by simp; omega
            cases hok : (r9.ens k).2.ok with
            | false =>
              rw [hok] at ok0
              go_wp2_with fail
              go_meet
              exact ⟨congrArg Value.bool (decide_eq_false (p := ((k : Int) < n ∧ k ≤ 8) ∧ (r9.ens k).2.ok = true) (fun h => by rw [hok] at h; cases h.2)).symm, rfl⟩
            | true =>
              rw [hok] at ok0
              go_wp2_with fail
              go_meet
              exact ⟨congrArg Value.bool (decide_eq_true (p := ((k : Int) < n ∧ k ≤ 8) ∧ (r9.ens k).2.ok = true) ⟨⟨h1, h2⟩, hok⟩).symm, rfl⟩
          case rest =>
            obtain ⟨rfl, rfl⟩ := hcut
            by_cases hc : ((k : Int) < n ∧ k ≤ 8) ∧ (r9.ens k).2.ok = true
            · have dc : decide (((k : Int) < n ∧ k ≤ 8) ∧ (r9.ens k).2.ok = true) = true := decide_eq_true hc
              rw [dc]
              have hk1 := hc.1.1
              have hk8 := hc.1.2
              obtain ⟨rk, hrk⟩ : ∃ rk, (r9.ens k).2 = rk := ⟨_, rfl⟩
              have hen : (r9.ens (k + 1)) = ((r9.ens k).1 ++ [rk.en.1], rk.en.2) := by rw [← hrk]; rfl
              obtain ⟨x, hx⟩ : ∃ x, rk.en.1 = x := ⟨_, rfl⟩
              have hx0 : rk.nth 0 = x.ix := by rw [← hx]; rfl
              have hx1 : rk.nth 1 = x.tm := by rw [← hx]; rfl
              have hx2 : rk.nth 2 = x.kd := by rw [← hx]; rfl
              have hx3 : (⟨(rk.after 3).text.1.toArray⟩ : ByteArray) = x.d := by rw [← hx]; rfl
              rw [hrk] at hr
              have C0 := Lib.hid (ref7_r_int (R + 1) rk wc hr.out)
              rw [show rk.int.1 = x.ix from hx0] at C0
              have HEN := Lib.hid hen
              have HX1 := Lib.hid hx1
              have HX2 := Lib.hid hx2
              have HX3 := Lib.hid hx3
              have HXX := Lib.hid hx
              clear dc hc hen hx0 hx1 hx2 hx3 hx hrk ok0
              go_wp2_with fail
              refine C0.out.mono ?_
              rintro e w8 ⟨rfl, hr8, ho8⟩
              have C1 := Lib.hid (ref7_r_int (R + 1) (rk.after 1) w8 hr8)
              rw [show (rk.after 1).int.1 = x.tm from HX1.out] at C1
              have hoA := ho8
              clear C0 hr8 ho8
              go_wp2_with fail
              refine C1.out.mono ?_
              rintro e w9 ⟨rfl, hr9, ho9⟩
              have C2 := Lib.hid (ref7_r_int (R + 1) (rk.after 2) w9 hr9)
              rw [show (rk.after 2).int.1 = x.kd from HX2.out] at C2
              have hoB := hoA.tr ho9
              clear C1 hr9 ho9 hoA
              go_wp2_with fail
              refine C2.out.mono ?_
              rintro e w10 ⟨rfl, hr10, ho10⟩
              have C3 := Lib.hid (ref7_r_text (R + 1) (rk.after 3) w10 hr10)
              rw [HX3.out] at C3
              have hoC := hoB.tr ho10
              clear C2 hr10 ho10 hoB
              go_wp2_with fail
              refine C3.out.mono ?_
              rintro e w11 ⟨rfl, hr11, ho11⟩
              have hoD := hoC.tr ho11
              have hz11 := hz'.out.only hoD (by simp; omega)
              have hb11 := hb.out.only hoD (by simp)
              have hw11 := own_keep hown.out hoD (by simpa using hne)
              have p8 := hz11.cell (k := 8) rfl
              have hs11 := hoD.size
              have HO11 := Lib.hid (ho.out.trans hoD (by intro y hy; simp at hy; exact .inr (by omega)))
              have HR11 := Lib.hid hr11
              have HZ11 := Lib.hid hz11
              have HB11 := Lib.hid hb11
              clear C3 hr11 ho11 hoC hoD hz11 hb11 hz' hb hown hr ho
              go_wp2_with (at_builtin
                           refine wpList_app rfl _ _ 31 rfl R 40 i0 _ 4 40 Try.underlying31 hi0 hz0 hz1 hz2 rfl (by decide) w11 (.slice A k cap) k (enL (r9.ens k).1) rfl hw11 1 1 [.int .i64 x.ix, .int .i64 x.tm, .int .i64 x.kd, .string x.d] rfl rfl (by simp [Value.oneCell']) (by simp only [maxLen]; omega) (by omega) (by omega) ?_
                           intro v' w12 hown' hgrow _
                           have hz12 := HZ11.out.grown hgrow hne2
                           have p12 := hz12.cell (k := 8) rfl
                           have f12 := hz12.frozen 8
                           have l12 := hz12.lt
                           obtain ⟨A', c', rfl⟩ := (SlAt.of_own hown').shape)
              have hg9 : (Value.slice A' (k + 1) c').ownBlock ≠ some z := own_ne_block hown' hz12 (by decide)
              have hoW : Only [z] w12 (w12.setCell ⟨z, 8, none⟩ (.slice A' (k + 1) c')) := (Only.refl _ _).setCell (.inl (by simp)) _
              have hE1 : (r9.ens (k + 1)).1 = (r9.ens k).1 ++ [x] := by rw [HEN.out, ← HXX.out]
              have hE2 : (r9.ens (k + 1)).2 = rk.en.2 := by rw [HEN.out]
              have hown10 := own_keep hown' hoW (by simpa using hg9)
              have HOWN : Hid ((w12.setCell ⟨z, 8, none⟩ (.slice A' (k + 1) c')).ownsRow R 40 4 (.slice A' (k + 1) c') (k + 1) (enL (r9.ens (k + 1)).1)) := Lib.hid (by rw [hE1, enL_append]; exact hown10)
              have HR12 : Hid (RrAt (w12.setCell ⟨z, 8, none⟩ (.slice A' (k + 1) c')) (R + 1) (r9.ens (k + 1)).2) := Lib.hid (by rw [hE2]; exact ⟨(HR11.out.1.grown hgrow hne).only hoW (by simp; omega), HR11.out.2⟩)
              have HB12 := Lib.hid ((HB11.out.grown hgrow hne3).only hoW (by simp; omega))
              have HZ12 := Lib.hid (hz12.set 8 (.slice A' (k + 1) c'))
              have HO12 := Lib.hid ((Only.own HO11.out hw11 hgrow (by omega)).trans hoW (by intro y hy; simp at hy; exact .inr (by omega)))
              clear hown' hgrow hz12 hoW hE1 hE2 hown10 hw11
              go_roundw
              case rel => exact ⟨k + 1, .slice A' (k + 1) c', by omega, .inl (by omega), by go_num, HR12, HZ12, HOWN, HB12, HO12⟩
              case measure => simp [intOf]; omega
            · have dc : decide (((k : Int) < n ∧ k ≤ 8) ∧ (r9.ens k).2.ok = true) = false := decide_eq_false hc
              rw [dc]
              obtain ⟨es, hes⟩ : ∃ es, (r9.ens k).1 = es := ⟨_, rfl⟩
              obtain ⟨rE, hrE⟩ : ∃ rE, (r9.ens k).2 = rE := ⟨_, rfl⟩
              have VE : Hid (∀ m : Ms, m.Right ∧ msb m = s → es = m.es ∧ rE = ⟨m.tE, true⟩) := Lib.hid fun m h => by
                have q := (rr_out h.1 h.2).es
                obtain ⟨v1, v2⟩ := V9.out m h
                rw [← v2] at q
                have h8 := h.1.ln
                have hkle : k ≤ m.es.length := by omega
                have hq := q k hkle
                have hke : k = m.es.length := by
                  rcases Nat.lt_or_ge k m.es.length with hlt | hge
                  · exact absurd ⟨⟨by omega, by omega⟩, by rw [hq]⟩ hc
                  · omega
                rw [hke, List.take_length, List.drop_length] at hq
                rw [← hes, ← hrE, hke, hq]
                exact ⟨rfl, rfl⟩
              have HLE : Hid (es.length = k) := Lib.hid (by rw [← hes, ensR_length])
              have WES : Hid (∀ x ∈ es, Wide64 x.ix ∧ Wide64 x.tm ∧ Wide64 x.kd ∧ x.d.size ≤ 1000000000000) := Lib.hid (by rw [← hes]; exact ensR_wide l9 k)
              have lE : rE.s.length ≤ 1000000000000 := by rw [← hrE]; exact ensR_len l9 k
              rw [hes] at hown
              rw [hrE] at hr
              have C0 := Lib.hid (ref7_r_int (R + 1) rE wc hr.out)
              clear dc hc ok0 hes hrE
              go_wp2_with fail
              refine C0.out.mono ?_
              rintro e w8 ⟨rfl, hr8, ho8⟩
              obtain ⟨m1, hm1⟩ : ∃ x, rE.int.1 = x := ⟨_, rfl⟩
              obtain ⟨rA, hrA⟩ : ∃ x, rE.int.2 = x := ⟨_, rfl⟩
              rw [hm1]
              rw [hrA] at hr8
              have hz8 := hz'.out.only ho8 (by simp; omega)
              have p9 := hz8.cell (k := 9) rfl
              have f9 := hz8.frozen 9
              have lz := hz8.lt
              have oW : Only [z] w8 (w8.setCell ⟨z, 9, none⟩ (.int .i64 m1)) := (Only.refl _ _).setCell (.inl (by simp)) _
              have HZ8 : Hid (Cells (w8.setCell ⟨z, 9, none⟩ (.int .i64 m1)) z 67 [.int .i64 n0, .int .i64 n1, .int .i64 n2, .int .i64 n3, .int .i64 n4, .int .i64 n5, .int .i64 n6, .bool bo, .slice A k cap, .int .i64 m1, .int .i64 0, .slice none 0 0, .string ⟨#[]⟩, .string ⟨#[]⟩]) := Lib.hid (hz8.set 9 (.int .i64 m1))
              have HR8 : Hid (RrAt (w8.setCell ⟨z, 9, none⟩ (.int .i64 m1)) (R + 1) rA) := Lib.hid ⟨hr8.1.only oW (by simp; omega), hr8.2⟩
              have HB8 := Lib.hid ((hb.out.only ho8 (by simp)).only oW (by simp; omega))
              have HE8 := Lib.hid (own_keep (own_keep hown.out ho8 (by simpa using hne)) oW (by simpa using hne2))
              have HO8 := Lib.hid ((ho.out.trans ho8 (by intro y hy; simp at hy; exact .inr (by omega))).trans oW (by intro y hy; simp at hy; exact .inr (by omega)))
              have C1 := Lib.hid (ref7_r_int (R + 1) rA _ HR8.out)
              have HM1 := Lib.hid hm1
              have HRA := Lib.hid hrA
              clear hm1 hrA hr8 ho8 hz8 oW C0 hz' hb hown hr ho
              go_wp2_with fail
              refine C1.out.mono ?_
              rintro e w9 ⟨rfl, hr9, ho9⟩
              obtain ⟨m2, hm2⟩ : ∃ x, rA.int.1 = x := ⟨_, rfl⟩
              obtain ⟨rB, hrB⟩ : ∃ x, rA.int.2 = x := ⟨_, rfl⟩
              rw [hm2]
              rw [hrB] at hr9
              have hz9 := HZ8.out.only ho9 (by simp; omega)
              have p10 := hz9.cell (k := 10) rfl
              have f10 := hz9.frozen 10
              have lz2 := hz9.lt
              have oW : Only [z] w9 (w9.setCell ⟨z, 10, none⟩ (.int .i64 m2)) := (Only.refl _ _).setCell (.inl (by simp)) _
              have HZ9 : Hid (Cells (w9.setCell ⟨z, 10, none⟩ (.int .i64 m2)) z 67 [.int .i64 n0, .int .i64 n1, .int .i64 n2, .int .i64 n3, .int .i64 n4, .int .i64 n5, .int .i64 n6, .bool bo, .slice A k cap, .int .i64 m1, .int .i64 m2, .slice none 0 0, .string ⟨#[]⟩, .string ⟨#[]⟩]) := Lib.hid (hz9.set 10 (.int .i64 m2))
              have HR9 : Hid (RrAt (w9.setCell ⟨z, 10, none⟩ (.int .i64 m2)) (R + 1) rB) := Lib.hid ⟨hr9.1.only oW (by simp; omega), hr9.2⟩
              have HB9 := Lib.hid ((HB8.out.only ho9 (by simp)).only oW (by simp; omega))
              have HE9 := Lib.hid (own_keep (own_keep HE8.out ho9 (by simpa using hne)) oW (by simpa using hne2))
              have HO9 := Lib.hid ((HO8.out.trans ho9 (by intro y hy; simp at hy; exact .inr (by omega))).trans oW (by intro y hy; simp at hy; exact .inr (by omega)))
              have lB : rB.s.length ≤ 1000000000000 := by rw [← hrB, ← HRA.out]; exact intR_len (intR_len lE)
              have VB : Hid (∀ m : Ms, m.Right ∧ msb m = s → m1 = m.b.ix ∧ m2 = m.b.tm ∧ rB = ⟨m.tV, true⟩) := Lib.hid fun m h => by
                have q := rr_out h.1 h.2
                have q1 := nthR_of q.i2
                have q2 := q.r2
                rw [← (VE.out m h).2] at q1 q2
                have e1 := q1 0 (by omega)
                have e2 := q1 1 (by omega)
                simp only [List.getElem?_cons_zero, List.getElem?_cons_succ, Option.some.injEq] at e1 e2
                have e3 : rE.int.2.int.1 = m.b.tm := e2
                have e4 : rE.int.2.int.2 = _ := q2
                rw [HRA.out] at e3 e4
                rw [hm2] at e3
                rw [hrB] at e4
                exact ⟨by rw [← HM1.out]; exact e1, e3, e4⟩
              have W2 : Hid (Wide64 m1 ∧ Wide64 m2) := Lib.hid ⟨by rw [← HM1.out]; exact intR_wide _, by rw [← hm2]; exact intR_wide _⟩
              have rc := HR9.out.1.cell (k := 0) rfl
              have CV := Lib.hid (fun W => ref7_toVoters rB.s W lB)
              clear hm2 hrB hr9 ho9 hz9 oW C1 HZ8 HR8 HB8 HE8 HO8 HM1 HRA p9 f9 lz
              go_wp2_with fail
              refine (CV.out _).mono ?_
              rintro e w10 ⟨vv, rfl, hv10, ho10⟩
              have hs9 := HO9.out.size
              have hvo := own_low hv10 (B' := R) (by omega)
              have VV : Hid (∀ m : Ms, m.Right ∧ msb m = s → vsL rB.s = m.b.vs ∧ (rdVs rB.s).isSome = true ∧ (⟨vsR rB.s, rB.ok⟩ : Rr) = ⟨m.t0, true⟩) := Lib.hid fun m h => by
                have q := (rr_out h.1 h.2).vs
                rw [(VB.out m h).2.2]
                unfold vsL vsR
                dsimp only
                rw [q]
                exact ⟨rfl, rfl, rfl⟩
              have lV0 := Nat.le_trans (vsR_le rB.s) lB
              have WV : Hid ((∀ x ∈ vsL rB.s, Wide64 x) ∧ (vsL rB.s).length ≤ 9) := Lib.hid ⟨vsL_wide _, vsL_len _⟩
              obtain ⟨vs, hvs⟩ : ∃ vs, vsL rB.s = vs := ⟨_, rfl⟩
              obtain ⟨fine, hfine⟩ : ∃ f, (rdVs rB.s).isSome = f := ⟨_, rfl⟩
              obtain ⟨tV, htV⟩ : ∃ t, vsR rB.s = t := ⟨_, rfl⟩
              rw [hvs] at hvo VV WV
              rw [hfine] at VV ⊢
              rw [htV] at VV lV0 ⊢
              obtain ⟨vA, vc, rfl⟩ := (SlAt.of_own hvo).shape
              have hz10 := HZ9.out.only ho10 (by simp)
              have hb10 := HB9.out.only ho10 (by simp)
              have hr10 := HR9.out.1.only ho10 (by simp)
              have he10 := own_keep HE9.out ho10 (by simp)
              have vne1 : (Value.slice vA vs.length vc).ownBlock ≠ some (R + 1) := own_ne_block hvo hr10 (by decide)
              have vne2 : (Value.slice vA vs.length vc).ownBlock ≠ some z := own_ne_block hvo hz10 (by decide)
              have vne3 : (Value.slice vA vs.length vc).ownBlock ≠ some R := own_ne_block hvo hb10 (by decide)
              have p11 := hz10.cell (k := 11) rfl
              have f11 := hz10.frozen 11
              have lz := hz10.lt
              have pc0 := hr10.cell (k := 0) rfl
              have fc0 := hr10.frozen 0
              have lr := hr10.lt
              obtain ⟨w11, hw11⟩ : ∃ w11, (w10.setCell ⟨z, 11, none⟩ (.slice vA vs.length vc)).setCell ⟨R + 1, 0, none⟩ (.string ⟨tV.toArray⟩) = w11 := ⟨_, rfl⟩
              have oW : Only [z, R + 1] w10 w11 := hw11 ▸ ((Only.refl _ _).setCell (.inl (by simp)) _).setCell (.inl (by simp)) _
              obtain ⟨rV, hrV⟩ : ∃ rV : Rr, (⟨tV, rB.ok⟩ : Rr) = rV := ⟨_, rfl⟩
              have lV : rV.s.length ≤ 1000000000000 := by rw [← hrV]; exact lV0
              have hnz : R + 1 ≠ z := by omega
              have HZ10 : Hid (Cells w11 z 67 [.int .i64 n0, .int .i64 n1, .int .i64 n2, .int .i64 n3, .int .i64 n4, .int .i64 n5, .int .i64 n6, .bool bo, .slice A k cap, .int .i64 m1, .int .i64 m2, .slice vA vs.length vc, .string ⟨#[]⟩, .string ⟨#[]⟩]) := Lib.hid (hw11 ▸ (hz10.set 11 (.slice vA vs.length vc)).far (p := ⟨R + 1, 0, none⟩) (Ne.symm hnz) _)
              have HR10 : Hid (RrAt w11 (R + 1) rV) := Lib.hid (hrV ▸ ⟨hw11 ▸ (hr10.far (p := ⟨z, 11, none⟩) hnz (.slice vA vs.length vc)).set 0 (.string ⟨tV.toArray⟩), lV0⟩)
              have HB10 := Lib.hid (hb10.only oW (by simp; omega))
              have hboth : ∀ (v : Value), v.ownBlock ≠ some (R + 1) → v.ownBlock ≠ some z → ∀ q, q ∈ [z, R + 1] → v.ownBlock ≠ some q := fun v a1 a2 q hq => by
                simp only [List.mem_cons, List.not_mem_nil, or_false] at hq
                rcases hq with rfl | rfl <;> assumption
              have HE10 := Lib.hid (own_keep he10 oW (hboth _ hne hne2))
              have HV10 := Lib.hid (own_keep hvo oW (hboth _ vne1 vne2))
              have HO10 := Lib.hid ((HO9.out.tr ho10).trans oW (by intro y hy; simp at hy; exact .inr (by omega)))
              rw [hrV] at VV
              have CT := Lib.hid (ref7_r_text (R + 1) rV _ HR10.out)
              clear hv10 hvo hvs hfine htV hz10 hb10 hr10 he10 oW hrV ho10 hboth HZ9 HR9 HB9 HE9 HO9 CV rc
              go_wp2_with fail
              clear hw11 p11 f11 lz pc0 fc0 lr p10 f10 lz2
              refine CT.out.mono ?_
              rintro e w12 ⟨rfl, hr12, ho12⟩
              obtain ⟨bd, hbd⟩ : ∃ x, rV.text.1 = x := ⟨_, rfl⟩
              obtain ⟨rD, hrD⟩ : ∃ x, rV.text.2 = x := ⟨_, rfl⟩
              rw [hbd]
              rw [hrD] at hr12
              have hz12 := HZ10.out.only ho12 (by simp; omega)
              have p12 := hz12.cell (k := 12) rfl
              have f12 := hz12.frozen 12
              have lz := hz12.lt
              have oW : Only [z] w12 (w12.setCell ⟨z, 12, none⟩ (.string ⟨bd.toArray⟩)) := (Only.refl _ _).setCell (.inl (by simp)) _
              have HZ12 : Hid (Cells (w12.setCell ⟨z, 12, none⟩ (.string ⟨bd.toArray⟩)) z 67 [.int .i64 n0, .int .i64 n1, .int .i64 n2, .int .i64 n3, .int .i64 n4, .int .i64 n5, .int .i64 n6, .bool bo, .slice A k cap, .int .i64 m1, .int .i64 m2, .slice vA vs.length vc, .string ⟨bd.toArray⟩, .string ⟨#[]⟩]) := Lib.hid (hz12.set 12 (.string ⟨bd.toArray⟩))
              have HR12 : Hid (RrAt (w12.setCell ⟨z, 12, none⟩ (.string ⟨bd.toArray⟩)) (R + 1) rD) := Lib.hid ⟨hr12.1.only oW (by simp; omega), hr12.2⟩
              have HB12 := Lib.hid ((HB10.out.only ho12 (by simp)).only oW (by simp; omega))
              have HE12 := Lib.hid (own_keep (own_keep HE10.out ho12 (by simpa using hne)) oW (by simpa using hne2))
              have HV12 := Lib.hid (own_keep (own_keep HV10.out ho12 (by simpa using vne1)) oW (by simpa using vne2))
              have HO12 := Lib.hid ((HO10.out.trans ho12 (by intro y hy; simp at hy; exact .inr (by omega))).trans oW (by intro y hy; simp at hy; exact .inr (by omega)))
              have lD : rD.s.length ≤ 1000000000000 := by rw [← hrD]; exact textR_len lV
              have LBD : Hid (bd.length ≤ 1000000000000) := Lib.hid (hbd ▸ textR_short lV)
              have VD : Hid (∀ m : Ms, m.Right ∧ msb m = s → bd = bl m.b.d ∧ rD = ⟨tb (bl m.d) ++ [], true⟩) := Lib.hid fun m h => by
                have q := (rr_out h.1 h.2).bd
                rw [← (VV.out m h).2.2] at q
                exact ⟨by rw [← hbd, q], by rw [← hrD, q]⟩
              have CT2 := Lib.hid (ref7_r_text (R + 1) rD _ HR12.out)
              clear hbd hrD hr12 hz12 ho12 oW HZ10 HR10 HB10 HE10 HV10 HO10 CT
              go_wp2_with fail
              refine CT2.out.mono ?_
              rintro e w13 ⟨rfl, hr13, ho13⟩
              obtain ⟨dd, hdd⟩ : ∃ x, rD.text.1 = x := ⟨_, rfl⟩
              obtain ⟨rF, hrF⟩ : ∃ x, rD.text.2 = x := ⟨_, rfl⟩
              rw [hdd]
              rw [hrF] at hr13
              have hz13 := HZ12.out.only ho13 (by simp; omega)
              have p13 := hz13.cell (k := 13) rfl
              have f13 := hz13.frozen 13
              have lz3 := hz13.lt
              obtain ⟨w14, hw14⟩ : ∃ w14, w13.setCell ⟨z, 13, none⟩ (.string ⟨dd.toArray⟩) = w14 := ⟨_, rfl⟩
              have oW : Only [z] w13 w14 := hw14 ▸ (Only.refl _ _).setCell (.inl (by simp)) _
              have hz14 : Cells w14 z 67 [.int .i64 n0, .int .i64 n1, .int .i64 n2, .int .i64 n3, .int .i64 n4, .int .i64 n5, .int .i64 n6, .bool bo, .slice A k cap, .int .i64 m1, .int .i64 m2, .slice vA vs.length vc, .string ⟨bd.toArray⟩, .string ⟨dd.toArray⟩] := hw14 ▸ hz13.set 13 (.string ⟨dd.toArray⟩)
              have HR14 : Hid (RrAt w14 (R + 1) rF) := Lib.hid ⟨hr13.1.only oW (by simp; omega), hr13.2⟩
              have HB14 := Lib.hid ((HB12.out.only ho13 (by simp)).only oW (by simp; omega))
              have he14 := own_keep (own_keep HE12.out ho13 (by simpa using hne)) oW (by simpa using hne2)
              have hv14 := own_keep (own_keep HV12.out ho13 (by simpa using vne1)) oW (by simpa using vne2)
              have HO14 := Lib.hid ((HO12.out.trans ho13 (by intro y hy; simp at hy; exact .inr (by omega))).trans oW (by intro y hy; simp at hy; exact .inr (by omega)))
              have LDD : Hid (dd.length ≤ 1000000000000) := Lib.hid (hdd ▸ textR_short lD)
              obtain ⟨M, hM⟩ : ∃ M : Ms, M = ⟨n0, n1, n2, n3, n4, n5, n6, bo, es, ⟨m1, m2, vs, ⟨bd.toArray⟩⟩, ⟨dd.toArray⟩⟩ := ⟨_, rfl⟩
              have HMM := Lib.hid hM
              have VM : Hid (∀ m : Ms, m.Right ∧ msb m = s → m = M ∧ rF.ok = true ∧ fine = true) := Lib.hid fun m h => by
                have q := (rr_out h.1 h.2).d
                obtain ⟨_, a1⟩ := V7.out m h
                obtain ⟨_, a2⟩ := V8.out m h
                obtain ⟨a3, _⟩ := VE.out m h
                obtain ⟨a4, a5, _⟩ := VB.out m h
                obtain ⟨a6, a7, _⟩ := VV.out m h
                obtain ⟨a8, a9⟩ := VD.out m h
                rw [← a9] at q
                have e1 : dd = bl m.d := by rw [← hdd, q]
                have e2 : rF = ⟨[], true⟩ := by rw [← hrF, q]
                refine ⟨?_, by rw [e2], a7⟩
                rw [hM, a2, a3, a4, a5, a6, a8, e1, bl_ba, bl_ba]
                unfold Ms.l7 at a1
                simp only [List.cons.injEq, and_true] at a1
                obtain ⟨rfl, rfl, rfl, rfl, rfl, rfl, rfl⟩ := a1
                rfl
              have HMA : Hid (MsAt w14 (.slice A k cap) (.slice vA vs.length vc) M) := by
                rw [hM]
                refine Lib.hid ⟨?_, SlAt.of_own hv14, ?_, ?_, WV.out.1, ?_, ?_⟩
                · show SlAt _ _ _ 4 es.length _
                  rw [HLE.out]; exact SlAt.of_own he14
                · obtain ⟨a0, a1, a2, a3, a4, a5, a6⟩ := W7.out
                  obtain ⟨e1, e2⟩ := W2.out
                  intro y hy
                  simp only [List.mem_cons, List.not_mem_nil, or_false] at hy
                  rcases hy with rfl | rfl | rfl | rfl | rfl | rfl | rfl | rfl | rfl <;> assumption
                · intro y hy
                  obtain ⟨a, b, c', d⟩ := WES.out y hy
                  exact ⟨a, b, c', Nat.le_trans d (by unfold maxLen; omega)⟩
                · have := LDD.out
                  show (⟨dd.toArray⟩ : ByteArray).size ≤ maxLen
                  simp [ByteArray.size, maxLen]; omega
                · have := LBD.out
                  show (⟨bd.toArray⟩ : ByteArray).size ≤ maxLen
                  simp [ByteArray.size, maxLen]; omega
              have hvl : M.b.vs.length ≤ 1000000 := by rw [hM]; have := WV.out.2; show vs.length ≤ _; omega
              have CR := Lib.hid (ref7_right _ _ M w14 HMA.out hvl)
              have CBY := Lib.hid (fun w' (h : Only [] w14 w') (hR : M.Right) => ref7_bytes _ _ M w' (HMA.out.only h) hR)
              have hval : M.val (.slice A k cap) (.slice vA vs.length vc) = .agg #[.int .i64 n0, .int .i64 n1, .int .i64 n2, .int .i64 n3, .int .i64 n4, .int .i64 n5, .int .i64 n6, .bool bo, .slice A k cap, .int .i64 m1, .int .i64 m2, .slice vA vs.length vc, .string ⟨bd.toArray⟩, .string ⟨dd.toArray⟩] := by rw [hM]; rfl
              rw [hval] at CR CBY
              have HVAL := Lib.hid hval
              have HZ14 := Lib.hid hz14
              have HE14 := Lib.hid he14
              have HV14 := Lib.hid hv14
              clear hM hdd hrF hr13 hz13 ho13 oW hval he14 hv14 HZ12 HR12 HB12 HE12 HV12 HO12 CT2 p12 f12 lz
              go_wp2_with (refine wpList_load_row rfl 67 _ rfl z rfl 67 #[.int .i64 n0, .int .i64 n1, .int .i64 n2, .int .i64 n3, .int .i64 n4, .int .i64 n5, .int .i64 n6, .bool bo, .slice A k cap, .int .i64 m1, .int .i64 m2, .slice vA vs.length vc, .string ⟨bd.toArray⟩, .string ⟨dd.toArray⟩] (0, 0) _ hz14 Try.underlying67 rfl (by kernel_rfl) ?_)
              clear hw14 p13 f13 lz3 hz14
              refine CR.out.mono ?_
              rintro e w15 ⟨b, rfl, hb15, ho15⟩
              have HBQ := Lib.hid hb15
              have hr15 := HR14.out.1.only ho15 (by simp)
              have ok15 := hr15.cell (k := 1) rfl
              have HB15 := Lib.hid (HB14.out.only ho15 (by simp))
              have HO15 := Lib.hid (HO14.out.tr0 ho15)
              have HZ15 := Lib.hid (HZ14.out.only ho15 (by simp))
              have HO145 := Lib.hid ho15
              clear hb15 hr15 ho15 CR HB14 HO14 HZ14 HR14
              cases hok : rF.ok with
              | false =>
                rw [hok] at ok15
                have HNO : Hid (∀ m : Ms, ¬ (m.Right ∧ msb m = s)) := Lib.hid (fun m h => by have q := (VM.out m h).2.1; rw [hok] at q; cases q)
                have hst := HB15.out
                have hone : (#[.int .i64 0, .int .i64 0, .int .i64 0, .int .i64 0, .int .i64 0, .int .i64 0, .int .i64 0, .bool false, .slice none 0 0, .int .i64 0, .int .i64 0, .slice none 0 0, .string ⟨#[]⟩, .string ⟨#[]⟩] : Array Value).all (·.oneCell') = true := by simp [Value.oneCell']
                go_wp2_with (refine wpList_store_row rfl 67 _ _ rfl R #[.int .i64 0, .int .i64 0, .int .i64 0, .int .i64 0, .int .i64 0, .int .i64 0, .int .i64 0, .bool false, .slice none 0 0, .int .i64 0, .int .i64 0, .slice none 0 0, .string ⟨#[]⟩, .string ⟨#[]⟩] rfl rfl 67 _ hst (by kernel_rfl) rfl hone ?_)
                (try simp only [Exit.inBlock, Exit.then])
                refine bodyPost_ret (v := .tuple #[.agg #[.int .i64 0, .int .i64 0, .int .i64 0, .int .i64 0, .int .i64 0, .int .i64 0, .int .i64 0, .bool false, .slice none 0 0, .int .i64 0, .int .i64 0, .slice none 0 0, .string ⟨#[]⟩, .string ⟨#[]⟩], .int .i64 8]) ?_ rfl ⟨none, .slice none 0 0, .slice none 0 0, fun m => ⟨fun h => by (cases h), fun h => absurd h (HNO.out m)⟩, rfl, ms_zero_at _, ?_⟩
                · exact results_row_tmp Try.results82 _ _ R 67 [.int .i64 0, .int .i64 0, .int .i64 0, .int .i64 0, .int .i64 0, .int .i64 0, .int .i64 0, .bool false, .slice none 0 0, .int .i64 0, .int .i64 0, .slice none 0 0, .string ⟨#[]⟩, .string ⟨#[]⟩] _ rfl (Cells.setRow HB15.out [.int .i64 0, .int .i64 0, .int .i64 0, .int .i64 0, .int .i64 0, .int .i64 0, .int .i64 0, .bool false, .slice none 0 0, .int .i64 0, .int .i64 0, .slice none 0 0, .string ⟨#[]⟩, .string ⟨#[]⟩]) Try.underlying67 rfl (by kernel_rfl)
                exact HO15.out.setRow (.inr (by omega)) _
              | true =>
                rw [hok] at ok15
                cases hf : fine with
                | false =>
                  have HNO : Hid (∀ m : Ms, ¬ (m.Right ∧ msb m = s)) := Lib.hid (fun m h => by have q := (VM.out m h).2.2; rw [hf] at q; cases q)
                  have hst := HB15.out
                  have hone : (#[.int .i64 0, .int .i64 0, .int .i64 0, .int .i64 0, .int .i64 0, .int .i64 0, .int .i64 0, .bool false, .slice none 0 0, .int .i64 0, .int .i64 0, .slice none 0 0, .string ⟨#[]⟩, .string ⟨#[]⟩] : Array Value).all (·.oneCell') = true := by simp [Value.oneCell']
                  go_wp2_with (refine wpList_store_row rfl 67 _ _ rfl R #[.int .i64 0, .int .i64 0, .int .i64 0, .int .i64 0, .int .i64 0, .int .i64 0, .int .i64 0, .bool false, .slice none 0 0, .int .i64 0, .int .i64 0, .slice none 0 0, .string ⟨#[]⟩, .string ⟨#[]⟩] rfl rfl 67 _ hst (by kernel_rfl) rfl hone ?_)
                  (try simp only [Exit.inBlock, Exit.then])
                  refine bodyPost_ret (v := .tuple #[.agg #[.int .i64 0, .int .i64 0, .int .i64 0, .int .i64 0, .int .i64 0, .int .i64 0, .int .i64 0, .bool false, .slice none 0 0, .int .i64 0, .int .i64 0, .slice none 0 0, .string ⟨#[]⟩, .string ⟨#[]⟩], .int .i64 8]) ?_ rfl ⟨none, .slice none 0 0, .slice none 0 0, fun m => ⟨fun h => by (cases h), fun h => absurd h (HNO.out m)⟩, rfl, ms_zero_at _, ?_⟩
                  · exact results_row_tmp Try.results82 _ _ R 67 [.int .i64 0, .int .i64 0, .int .i64 0, .int .i64 0, .int .i64 0, .int .i64 0, .int .i64 0, .bool false, .slice none 0 0, .int .i64 0, .int .i64 0, .slice none 0 0, .string ⟨#[]⟩, .string ⟨#[]⟩] _ rfl (Cells.setRow HB15.out [.int .i64 0, .int .i64 0, .int .i64 0, .int .i64 0, .int .i64 0, .int .i64 0, .int .i64 0, .bool false, .slice none 0 0, .int .i64 0, .int .i64 0, .slice none 0 0, .string ⟨#[]⟩, .string ⟨#[]⟩]) Try.underlying67 rfl (by kernel_rfl)
                  exact HO15.out.setRow (.inr (by omega)) _
                | true =>
                  cases b with
                  | false =>
                    have HNO : Hid (∀ m : Ms, ¬ (m.Right ∧ msb m = s)) := Lib.hid (fun m h => by have q := h.1; rw [(VM.out m h).1] at q; have := HBQ.out.2 q; cases this)
                    have hst := HB15.out
                    have hone : (#[.int .i64 0, .int .i64 0, .int .i64 0, .int .i64 0, .int .i64 0, .int .i64 0, .int .i64 0, .bool false, .slice none 0 0, .int .i64 0, .int .i64 0, .slice none 0 0, .string ⟨#[]⟩, .string ⟨#[]⟩] : Array Value).all (·.oneCell') = true := by simp [Value.oneCell']
                    go_wp2_with (refine wpList_store_row rfl 67 _ _ rfl R #[.int .i64 0, .int .i64 0, .int .i64 0, .int .i64 0, .int .i64 0, .int .i64 0, .int .i64 0, .bool false, .slice none 0 0, .int .i64 0, .int .i64 0, .slice none 0 0, .string ⟨#[]⟩, .string ⟨#[]⟩] rfl rfl 67 _ hst (by kernel_rfl) rfl hone ?_)
                    (try simp only [Exit.inBlock, Exit.then])
                    refine bodyPost_ret (v := .tuple #[.agg #[.int .i64 0, .int .i64 0, .int .i64 0, .int .i64 0, .int .i64 0, .int .i64 0, .int .i64 0, .bool false, .slice none 0 0, .int .i64 0, .int .i64 0, .slice none 0 0, .string ⟨#[]⟩, .string ⟨#[]⟩], .int .i64 8]) ?_ rfl ⟨none, .slice none 0 0, .slice none 0 0, fun m => ⟨fun h => by (cases h), fun h => absurd h (HNO.out m)⟩, rfl, ms_zero_at _, ?_⟩
                    · exact results_row_tmp Try.results82 _ _ R 67 [.int .i64 0, .int .i64 0, .int .i64 0, .int .i64 0, .int .i64 0, .int .i64 0, .int .i64 0, .bool false, .slice none 0 0, .int .i64 0, .int .i64 0, .slice none 0 0, .string ⟨#[]⟩, .string ⟨#[]⟩] _ rfl (Cells.setRow HB15.out [.int .i64 0, .int .i64 0, .int .i64 0, .int .i64 0, .int .i64 0, .int .i64 0, .int .i64 0, .bool false, .slice none 0 0, .int .i64 0, .int .i64 0, .slice none 0 0, .string ⟨#[]⟩, .string ⟨#[]⟩]) Try.underlying67 rfl (by kernel_rfl)
                    exact HO15.out.setRow (.inr (by omega)) _
                  | true =>
                    have hRI : M.Right := by simpa using HBQ.out
                    have CB5 := Lib.hid (CBY.out w15 HO145.out hRI)
                    have HRI := Lib.hid hRI
                    have p0 := HZ15.out.cell (k := 0) rfl
                    have p1 := HZ15.out.cell (k := 1) rfl
                    have p2 := HZ15.out.cell (k := 2) rfl
                    have p3 := HZ15.out.cell (k := 3) rfl
                    have p4 := HZ15.out.cell (k := 4) rfl
                    have p5 := HZ15.out.cell (k := 5) rfl
                    have p6 := HZ15.out.cell (k := 6) rfl
                    have p7 := HZ15.out.cell (k := 7) rfl
                    have p8 := HZ15.out.cell (k := 8) rfl
                    have p9 := HZ15.out.cell (k := 9) rfl
                    have p10 := HZ15.out.cell (k := 10) rfl
                    have p11 := HZ15.out.cell (k := 11) rfl
                    have p12 := HZ15.out.cell (k := 12) rfl
                    have p13 := HZ15.out.cell (k := 13) rfl
                    clear CBY hRI
                    go_wp2_with fail
                    refine CB5.out.mono ?_
                    rintro e w16 ⟨rfl, ho16⟩
                    have HB16 := Lib.hid (HB15.out.only ho16 (by simp))
                    have HO16 := Lib.hid (HO15.out.tr0 ho16)
                    have HZ16 := Lib.hid (HZ15.out.only ho16 (by simp))
                    have HE16 := Lib.hid (own_keep (own_keep HE14.out HO145.out (by simp)) ho16 (by simp))
                    have HV16 := Lib.hid (own_keep (own_keep HV14.out HO145.out (by simp)) ho16 (by simp))
                    have HMA16 := Lib.hid ((HMA.out.only HO145.out).only ho16)
                    clear p0 p1 p2 p3 p4 p5 p6 p7 p8 p9 p10 p11 p12 p13 HB15 HO15 HZ15 HE14 HV14 HMA CB5 ho16
                    by_cases hms : msb M = s
                    · rw [hms]
                      have HMS := Lib.hid hms
                      have hst := HB16.out
                      have hld := HZ16.out
                      have hone : (#[.int .i64 n0, .int .i64 n1, .int .i64 n2, .int .i64 n3, .int .i64 n4, .int .i64 n5, .int .i64 n6, .bool bo, .slice A k cap, .int .i64 m1, .int .i64 m2, .slice vA vs.length vc, .string ⟨bd.toArray⟩, .string ⟨dd.toArray⟩] : Array Value).all (·.oneCell') = true := by simp [Value.oneCell']
                      clear hms
                      go_wp2_with (first
                        | refine wpList_load_row rfl 67 _ rfl z rfl 67 #[.int .i64 n0, .int .i64 n1, .int .i64 n2, .int .i64 n3, .int .i64 n4, .int .i64 n5, .int .i64 n6, .bool bo, .slice A k cap, .int .i64 m1, .int .i64 m2, .slice vA vs.length vc, .string ⟨bd.toArray⟩, .string ⟨dd.toArray⟩] (0, 0) _ hld Try.underlying67 rfl (by kernel_rfl) ?_
                        | refine wpList_store_row rfl 67 _ _ rfl R #[.int .i64 n0, .int .i64 n1, .int .i64 n2, .int .i64 n3, .int .i64 n4, .int .i64 n5, .int .i64 n6, .bool bo, .slice A k cap, .int .i64 m1, .int .i64 m2, .slice vA vs.length vc, .string ⟨bd.toArray⟩, .string ⟨dd.toArray⟩] rfl rfl 67 _ hst (by kernel_rfl) rfl hone ?_)
                      (try simp only [Exit.inBlock, Exit.then])
                      have hF : Only [R] w16 (w16.setRow R #[.int .i64 n0, .int .i64 n1, .int .i64 n2, .int .i64 n3, .int .i64 n4, .int .i64 n5, .int .i64 n6, .bool bo, .slice A k cap, .int .i64 m1, .int .i64 m2, .slice vA vs.length vc, .string ⟨bd.toArray⟩, .string ⟨dd.toArray⟩]) := (Only.refl _ _).setRow (.inl (by simp)) _
                      have hMF : MsAt (w16.setRow R #[.int .i64 n0, .int .i64 n1, .int .i64 n2, .int .i64 n3, .int .i64 n4, .int .i64 n5, .int .i64 n6, .bool bo, .slice A k cap, .int .i64 m1, .int .i64 m2, .slice vA vs.length vc, .string ⟨bd.toArray⟩, .string ⟨dd.toArray⟩]) (.slice A k cap) (.slice vA vs.length vc) M := by
                        have he := own_keep HE16.out hF (by simpa using hne3)
                        have hv := own_keep HV16.out hF (by simpa using vne3)
                        obtain ⟨_, _, a3, a4, a5, a6, a7⟩ := HMA16.out
                        refine ⟨?_, ?_, a3, a4, a5, a6, a7⟩
                        · rw [HMM.out]; show SlAt _ _ _ 4 es.length _; rw [HLE.out]; exact SlAt.of_own he
                        · rw [HMM.out]; exact SlAt.of_own hv
                      refine bodyPost_ret (v := .tuple #[.agg #[.int .i64 n0, .int .i64 n1, .int .i64 n2, .int .i64 n3, .int .i64 n4, .int .i64 n5, .int .i64 n6, .bool bo, .slice A k cap, .int .i64 m1, .int .i64 m2, .slice vA vs.length vc, .string ⟨bd.toArray⟩, .string ⟨dd.toArray⟩], .int .i64 0]) ?_ rfl ⟨some M, .slice A k cap, .slice vA vs.length vc, fun m => ⟨fun h => ?_, fun h => ?_⟩, ?_, hMF, ?_⟩
                      · exact results_row_tmp Try.results82 _ _ R 67 [.int .i64 n0, .int .i64 n1, .int .i64 n2, .int .i64 n3, .int .i64 n4, .int .i64 n5, .int .i64 n6, .bool bo, .slice A k cap, .int .i64 m1, .int .i64 m2, .slice vA vs.length vc, .string ⟨bd.toArray⟩, .string ⟨dd.toArray⟩] _ rfl (Cells.setRow HB16.out [.int .i64 n0, .int .i64 n1, .int .i64 n2, .int .i64 n3, .int .i64 n4, .int .i64 n5, .int .i64 n6, .bool bo, .slice A k cap, .int .i64 m1, .int .i64 m2, .slice vA vs.length vc, .string ⟨bd.toArray⟩, .string ⟨dd.toArray⟩]) Try.underlying67 rfl (by kernel_rfl)
                      · injection h with h; subst h; exact ⟨HRI.out, HMS.out⟩
                      · rw [(VM.out m h).1]
                      · show _ = Ending.returned (.tuple #[M.val _ _, .int .i64 0])
                        rw [HVAL.out]
                      · exact HO16.out.setRow (.inr (by omega)) _
                    · have hne5 : ¬ (⟨(msb M).toArray⟩ : ByteArray) = ⟨s.toArray⟩ := fun h => hms (by simpa using h)
                      obtain ⟨Q1, hQ1⟩ : ∃ Q : ByteArray, (⟨(msb M).toArray⟩ : ByteArray) = Q := ⟨_, rfl⟩
                      rw [hQ1] at hne5 ⊢
                      have hne6 : ¬ Q1.toList = s := fun h => hms (by rw [← hQ1, ba_toList] at h; simpa using h)
                      have hne7 : (Q1.toList == s) = false := by simpa using hne6
                      clear hQ1
                      have HNO : Hid (∀ m : Ms, ¬ (m.Right ∧ msb m = s)) := Lib.hid (fun m h => hms (by rw [← (VM.out m h).1]; exact h.2))
                      have hst := HB16.out
                      have hone : (#[.int .i64 0, .int .i64 0, .int .i64 0, .int .i64 0, .int .i64 0, .int .i64 0, .int .i64 0, .bool false, .slice none 0 0, .int .i64 0, .int .i64 0, .slice none 0 0, .string ⟨#[]⟩, .string ⟨#[]⟩] : Array Value).all (·.oneCell') = true := by simp [Value.oneCell']
                      go_wp2_with (refine wpList_store_row rfl 67 _ _ rfl R #[.int .i64 0, .int .i64 0, .int .i64 0, .int .i64 0, .int .i64 0, .int .i64 0, .int .i64 0, .bool false, .slice none 0 0, .int .i64 0, .int .i64 0, .slice none 0 0, .string ⟨#[]⟩, .string ⟨#[]⟩] rfl rfl 67 _ hst (by kernel_rfl) rfl hone ?_)
                      (try simp only [Exit.inBlock, Exit.then])
                      refine bodyPost_ret (v := .tuple #[.agg #[.int .i64 0, .int .i64 0, .int .i64 0, .int .i64 0, .int .i64 0, .int .i64 0, .int .i64 0, .bool false, .slice none 0 0, .int .i64 0, .int .i64 0, .slice none 0 0, .string ⟨#[]⟩, .string ⟨#[]⟩], .int .i64 8]) ?_ rfl ⟨none, .slice none 0 0, .slice none 0 0, fun m => ⟨fun h => by (cases h), fun h => absurd h (HNO.out m)⟩, rfl, ms_zero_at _, ?_⟩
                      · exact results_row_tmp Try.results82 _ _ R 67 [.int .i64 0, .int .i64 0, .int .i64 0, .int .i64 0, .int .i64 0, .int .i64 0, .int .i64 0, .bool false, .slice none 0 0, .int .i64 0, .int .i64 0, .slice none 0 0, .string ⟨#[]⟩, .string ⟨#[]⟩] _ rfl (Cells.setRow HB16.out [.int .i64 0, .int .i64 0, .int .i64 0, .int .i64 0, .int .i64 0, .int .i64 0, .int .i64 0, .bool false, .slice none 0 0, .int .i64 0, .int .i64 0, .slice none 0 0, .string ⟨#[]⟩, .string ⟨#[]⟩]) Try.underlying67 rfl (by kernel_rfl)
                      exact HO16.out.setRow (.inr (by omega)) _
end Go.Proofs.Ytagklgodcbmcaaa
