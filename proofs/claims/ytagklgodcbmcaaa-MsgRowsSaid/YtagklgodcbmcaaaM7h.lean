/-
  Chapter 7: Unpack.
-/
import Derived.Test.YtagklgodcbmcaaaM7g
import Derived.Test.YtagklgodcbmcaaaWide
namespace Go.Proofs.Ytagklgodcbmcaaa
open Go.RowKit
def Ms.zero : Ms := ⟨0, 0, 0, 0, 0, 0, 0, false, [], ⟨0, 0, [], ⟨#[]⟩⟩, ⟨#[]⟩⟩
/-- What unpacking hands back. -/
def UnW (s : List UInt8) (w : World) (e : Ending) (w' : World) : Prop :=
  ∃ (o : Option Ms) (ev vv : Value), (∀ m, o = some m ↔ m.Right ∧ msb m = s) ∧ e = .returned (.tuple #[(o.getD Ms.zero).val ev vv, .int .i64 (if o.isSome = true then 0 else 8)]) ∧ MsAt w' ev vv (o.getD Ms.zero) ∧ Only [] w w'
theorem wide0 : Wide64 0 := ⟨by omega, by omega⟩
theorem int_wide (r : Rs) : Wide64 r.int.1 := by
  unfold Rs.int Rs.get
  split
  · rename_i x t hx
    split
    · exact wide0
    · exact ((rdI_iff _ _ _).1 hx).1
  · exact wide0
theorem vots_wide (r : Rs) : (∀ x ∈ r.vots.1, Wide64 x) ∧ r.vots.1.length ≤ 9 := by
  unfold Rs.vots Rs.get
  split
  · rename_i x t hx
    split
    · exact ⟨fun x hx => (List.not_mem_nil hx).elim, by simp⟩
    · obtain ⟨a, b, _⟩ := (rdVs_iff _ _ _).1 hx
      exact ⟨b, a⟩
  · exact ⟨fun x hx => (List.not_mem_nil hx).elim, by simp⟩
theorem text_short {r : Rs} {n : Nat} (h : r.s.length ≤ n) : r.text.1.length ≤ n := by
  unfold Rs.text Rs.get
  split
  · rename_i x t hx
    split
    · simp
    · unfold rdT at hx
      split at hx
      · rename_i k q hi
        split at hx
        · simp only [Option.some.injEq, Prod.mk.injEq] at hx
          have := rdI_len hi
          rw [← hx.1, List.length_take]; omega
        · cases hx
      · cases hx
  · simp
theorem ens_wide {r : Rs} {n : Nat} (h : r.s.length ≤ n) : ∀ k, ∀ x ∈ (r.ens k).1, Wide64 x.ix ∧ Wide64 x.tm ∧ Wide64 x.kd ∧ x.d.size ≤ n
  | 0 => fun x hx => (List.not_mem_nil hx).elim
  | k + 1 => fun x hx => by
    rcases List.mem_append.1 hx with hx | hx
    · exact ens_wide h k x hx
    · obtain rfl := List.mem_singleton.1 hx
      refine ⟨int_wide _, int_wide _, int_wide _, ?_⟩
      have := text_short (r := (r.ens k).2.after 3) (after_len _ n (ens_len h k) 3)
      show (⟨((r.ens k).2.after 3).text.1.toArray⟩ : ByteArray).size ≤ n
      simpa [ByteArray.size] using this
theorem ms_zero_at (w : World) : MsAt w (.slice none 0 0) (.slice none 0 0) Ms.zero :=
  ⟨SlAt.of_own (World.ownsRow_nil w 0 40 4), SlAt.of_own (World.ownsRow_nil w 0 3 1), by
    intro x hx
    simp only [Ms.zero, List.mem_cons, List.not_mem_nil, or_false] at hx
    have : x = 0 := by rcases hx with h | h | h | h | h | h | h | h | h <;> exact h
    rw [this]; exact wide0, fun x hx => (List.not_mem_nil hx).elim, fun x hx => (List.not_mem_nil hx).elim, by simp [Ms.zero, maxLen, ByteArray.size], by simp [Ms.zero, maxLen, ByteArray.size]⟩
theorem chn_ex (s : List UInt8) : ∃ c : Chn, c.r7 = Rs.after ⟨s, false⟩ 7 ∧ c.r8 = c.r7.bool.2 ∧ c.n = c.r8.int.1 ∧ c.r9 = c.r8.int.2 ∧ c.es = (c.r9.ens c.n.toNat).1 ∧ c.rE = (c.r9.ens c.n.toNat).2 ∧ c.rB = c.rE.after 2 ∧ c.rV = c.rB.vots.2 ∧ c.rD = c.rV.text.2 ∧ c.rF = c.rD.text.2 := by
  obtain ⟨r7, h7⟩ : ∃ r, r = Rs.after ⟨s, false⟩ 7 := ⟨_, rfl⟩
  obtain ⟨r8, h8⟩ : ∃ r, r = r7.bool.2 := ⟨_, rfl⟩
  obtain ⟨n, hn⟩ : ∃ r, r = r8.int.1 := ⟨_, rfl⟩
  obtain ⟨r9, h9⟩ : ∃ r, r = r8.int.2 := ⟨_, rfl⟩
  obtain ⟨es, hes⟩ : ∃ r, r = (r9.ens n.toNat).1 := ⟨_, rfl⟩
  obtain ⟨rE, hE⟩ : ∃ r, r = (r9.ens n.toNat).2 := ⟨_, rfl⟩
  obtain ⟨rB, hB⟩ : ∃ r, r = rE.after 2 := ⟨_, rfl⟩
  obtain ⟨rV, hV⟩ : ∃ r, r = rB.vots.2 := ⟨_, rfl⟩
  obtain ⟨rD, hD⟩ : ∃ r, r = rV.text.2 := ⟨_, rfl⟩
  obtain ⟨rF, hF⟩ : ∃ r, r = rD.text.2 := ⟨_, rfl⟩
  exact ⟨⟨r7, r8, r9, rE, rB, rV, rD, rF, n, es⟩, h7, h8, hn, h9, hes, hE, hB, hV, hD, hF⟩
set_option maxRecDepth 100000 in
set_option maxHeartbeats 8000000 in
theorem msg_unpack (s : List UInt8) (w : World) (hl : s.length ≤ 1000000000000) :
    Calls Try.prog 50 #[.string ⟨s.toArray⟩] w (UnW s w) := by
  have hmf : ∀ (fn : Fn) (first cap : Array Value) (w : World), (Instr.makeFunc fn first cap).run Try.prog w = .ok (.func fn first cap) w := fun _ _ _ _ => rfl
  obtain ⟨i0, hi0, hz0, hz1, hz2⟩ := info_parts info_ent
  obtain ⟨w1, hw1⟩ : ∃ w1, w.alloc (.cells #[.int .i64 0, .int .i64 0, .int .i64 0, .int .i64 0, .int .i64 0, .int .i64 0, .int .i64 0, .bool false, .slice none 0 0, .int .i64 0, .int .i64 0, .slice none 0 0, .string ⟨#[]⟩, .string ⟨#[]⟩] 67) = w1 := ⟨_, rfl⟩
  obtain ⟨w2, hw2⟩ : ∃ w2, w1.alloc (.cells #[.string ⟨s.toArray⟩, .bool false] 116) = w2 := ⟨_, rfl⟩
  obtain ⟨w3, hw3⟩ : ∃ w3, w2.alloc (.cells #[.int .i64 0, .int .i64 0, .int .i64 0, .int .i64 0, .int .i64 0, .int .i64 0, .int .i64 0, .bool false, .slice none 0 0, .int .i64 0, .int .i64 0, .slice none 0 0, .string ⟨#[]⟩, .string ⟨#[]⟩] 67) = w3 := ⟨_, rfl⟩
  obtain ⟨w4, hw4⟩ : ∃ w4, w3.alloc (.cells #[.pointer (some ⟨w.heap.size + 1 + 1, 0, none⟩), .pointer (some ⟨w.heap.size + 1 + 1, 1, none⟩), .pointer (some ⟨w.heap.size + 1 + 1, 2, none⟩), .pointer (some ⟨w.heap.size + 1 + 1, 3, none⟩), .pointer (some ⟨w.heap.size + 1 + 1, 4, none⟩), .pointer (some ⟨w.heap.size + 1 + 1, 5, none⟩), .pointer (some ⟨w.heap.size + 1 + 1, 6, none⟩)] 118) = w4 := ⟨_, rfl⟩
  have s1 : w1.heap.size = w.heap.size + 1 := by rw [← hw1]; simp
  have s2 : w2.heap.size = w.heap.size + 1 + 1 := by rw [← hw2]; simp [s1]
  have s3 : w3.heap.size = w.heap.size + 1 + 1 + 1 := by rw [← hw3]; simp [s2]
  have O1 : Only [] w w1 := hw1 ▸ (Only.refl _ _).alloc _
  have O2 : Only [] w w2 := hw2 ▸ O1.alloc _
  have O3 : Only [] w w3 := hw3 ▸ O2.alloc _
  have O4 : Only [] w w4 := hw4 ▸ O3.alloc _
  have a1 : Cells w1 w.heap.size 67 [.int .i64 0, .int .i64 0, .int .i64 0, .int .i64 0, .int .i64 0, .int .i64 0, .int .i64 0, .bool false, .slice none 0 0, .int .i64 0, .int .i64 0, .slice none 0 0, .string ⟨#[]⟩, .string ⟨#[]⟩] := hw1 ▸ Cells.new w _ _
  have a2 : Cells w2 (w.heap.size + 1) 116 [.string ⟨s.toArray⟩, .bool false] := by
    have := Cells.new w1 116 [.string ⟨s.toArray⟩, .bool false]
    rw [s1] at this
    exact hw2 ▸ this
  have a3 : Cells w3 (w.heap.size + 1 + 1) 67 [.int .i64 0, .int .i64 0, .int .i64 0, .int .i64 0, .int .i64 0, .int .i64 0, .int .i64 0, .bool false, .slice none 0 0, .int .i64 0, .int .i64 0, .slice none 0 0, .string ⟨#[]⟩, .string ⟨#[]⟩] := by
    have := Cells.new w2 67 [.int .i64 0, .int .i64 0, .int .i64 0, .int .i64 0, .int .i64 0, .int .i64 0, .int .i64 0, .bool false, .slice none 0 0, .int .i64 0, .int .i64 0, .slice none 0 0, .string ⟨#[]⟩, .string ⟨#[]⟩]
    rw [s2] at this
    exact hw3 ▸ this
  have a4 : Cells w4 (w.heap.size + 1 + 1 + 1) 118 (ptrs (w.heap.size + 1 + 1) 0 7) := by
    have := Cells.new w3 118 (ptrs (w.heap.size + 1 + 1) 0 7)
    rw [s3] at this
    exact hw4 ▸ this
  have b1 : Cells w4 w.heap.size 67 _ := hw4 ▸ (hw3 ▸ (hw2 ▸ a1.alloc _ : Cells w2 _ _ _).alloc _ : Cells w3 _ _ _).alloc _
  have b2 : Cells w4 (w.heap.size + 1) 116 _ := hw4 ▸ (hw3 ▸ a2.alloc _ : Cells w3 _ _ _).alloc _
  have b3 : Cells w4 (w.heap.size + 1 + 1) 67 _ := hw4 ▸ a3.alloc _
  obtain ⟨c, hc⟩ : ∃ c : Chn, c.r7 = Rs.after ⟨s, false⟩ 7 ∧ c.r8 = c.r7.bool.2 ∧ c.n = c.r8.int.1 ∧ c.r9 = c.r8.int.2 ∧ c.es = (c.r9.ens c.n.toNat).1 ∧ c.rE = (c.r9.ens c.n.toNat).2 ∧ c.rB = c.rE.after 2 ∧ c.rV = c.rB.vots.2 ∧ c.rD = c.rV.text.2 ∧ c.rF = c.rD.text.2 :=
    chn_ex s
  obtain ⟨h7, h8, hn, h9, hes, hE, hB, hV, hD, hF⟩ := hc
  have CH : Hid (c.Is s) := Lib.hid ⟨h7.symm, h8.symm, hn.symm, h9.symm, by rw [hes, hE], hB.symm, hV.symm, hD.symm, hF.symm⟩
  have C := msg_ints (w.heap.size + 1) (w.heap.size + 1 + 1) (w.heap.size + 1 + 1 + 1) 7 0 ⟨s, false⟩ [] [.int .i64 0, .int .i64 0, .int .i64 0, .int .i64 0, .int .i64 0, .int .i64 0, .int .i64 0] [.bool false, .slice none 0 0, .int .i64 0, .int .i64 0, .slice none 0 0, .string ⟨#[]⟩, .string ⟨#[]⟩] 67 w4 ⟨b2, hl⟩ a4 b3 rfl rfl (by omega) (by decide) (by omega)
  rw [← h7] at C
  have C := Lib.hid C
  have l7 : c.r7.s.length ≤ 1000000000000 := by rw [h7]; exact after_len ⟨s, false⟩ _ hl 7
  have l8 : c.r8.s.length ≤ 1000000000000 := by rw [h8]; exact bool_len l7
  have l9 : c.r9.s.length ≤ 1000000000000 := by rw [h9]; exact int_len l8
  have lE : c.rE.s.length ≤ 1000000000000 := by rw [hE]; exact ens_len l9 _
  have lB : c.rB.s.length ≤ 1000000000000 := by rw [hB]; exact after_len _ _ lE 2
  have lV : c.rV.s.length ≤ 1000000000000 := by rw [hV]; exact vots_len lB
  have lD : c.rD.s.length ≤ 1000000000000 := by rw [hD]; exact text_len lV
  have lF : c.rF.s.length ≤ 1000000000000 := by rw [hF]; exact text_len lD
  have wn : Wide64 c.n := by rw [hn]; exact int_wide _
  have LES : Hid (c.es.length = c.n.toNat) := Lib.hid (by rw [hes, ens_length])
  have WES : Hid (∀ x ∈ c.es, Wide64 x.ix ∧ Wide64 x.tm ∧ Wide64 x.kd ∧ x.d.size ≤ 1000000000000) := Lib.hid (by rw [hes]; exact ens_wide l9 _)
  have H8 := Lib.hid h8; have HN := Lib.hid hn; have H9 := Lib.hid h9; have HES := Lib.hid hes; have HE := Lib.hid hE; have HBB := Lib.hid hB; have HV := Lib.hid hV; have HD := Lib.hid hD; have HF := Lib.hid hF
  obtain ⟨n0, g0⟩ : ∃ x, Rs.nth ⟨s, false⟩ 0 = x := ⟨_, rfl⟩
  obtain ⟨n1, g1⟩ : ∃ x, Rs.nth ⟨s, false⟩ 1 = x := ⟨_, rfl⟩
  obtain ⟨n2, g2⟩ : ∃ x, Rs.nth ⟨s, false⟩ 2 = x := ⟨_, rfl⟩
  obtain ⟨n3, g3⟩ : ∃ x, Rs.nth ⟨s, false⟩ 3 = x := ⟨_, rfl⟩
  obtain ⟨n4, g4⟩ : ∃ x, Rs.nth ⟨s, false⟩ 4 = x := ⟨_, rfl⟩
  obtain ⟨n5, g5⟩ : ∃ x, Rs.nth ⟨s, false⟩ 5 = x := ⟨_, rfl⟩
  obtain ⟨n6, g6⟩ : ∃ x, Rs.nth ⟨s, false⟩ 6 = x := ⟨_, rfl⟩
  have W7 : Hid (Wide64 n0 ∧ Wide64 n1 ∧ Wide64 n2 ∧ Wide64 n3 ∧ Wide64 n4 ∧ Wide64 n5 ∧ Wide64 n6) := by
    rw [← g0, ← g1, ← g2, ← g3, ← g4, ← g5, ← g6]
    exact Lib.hid ⟨int_wide _, int_wide _, int_wide _, int_wide _, int_wide _, int_wide _, int_wide _⟩
  have HM : Hid (c.ms s = ⟨n0, n1, n2, n3, n4, n5, n6, c.r7.bool.1, c.es, ⟨c.rE.nth 0, c.rE.nth 1, c.rB.vots.1, ⟨c.rV.text.1.toArray⟩⟩, ⟨c.rD.text.1.toArray⟩⟩) := Lib.hid (by unfold Chn.ms; rw [g0, g1, g2, g3, g4, g5, g6])
  have G7 : Hid (Rs.ints ⟨s, false⟩ 7 = [n0, n1, n2, n3, n4, n5, n6]) := Lib.hid (by rw [← g0, ← g1, ← g2, ← g3, ← g4, ← g5, ← g6]; rfl)
  have B1 := Lib.hid b1
  have HO := Lib.hid O4
  obtain ⟨R, hR⟩ : ∃ R, w.heap.size = R := ⟨_, rfl⟩
  clear a1 a2 a3 a4 b1 b2 b3 O1 O2 O3 O4 h7 h8 hn h9 hes hE hB hV hD hF g0 g1 g2 g3 g4 g5 g6
  go_enter Try.func50, Try.ntmps50
  go_wp2_with fail
  rw [hR] at hw4 C B1
  rw [hw4]
  clear hw1 hw2 hw3 hw4 s1 s2 s3
  refine C.out.mono ?_
  rintro e w5 ⟨rfl, hr5, hz5, ho5⟩
  rw [G7.out] at hz5
  have hz5 : Cells w5 (R + 1 + 1) 67 [.int .i64 n0, .int .i64 n1, .int .i64 n2, .int .i64 n3, .int .i64 n4, .int .i64 n5, .int .i64 n6, .bool false, .slice none 0 0, .int .i64 0, .int .i64 0, .slice none 0 0, .string ⟨#[]⟩, .string ⟨#[]⟩] := hz5
  have HB1 := Lib.hid (B1.out.only ho5 (by simp <;> omega))
  have HO5 := Lib.hid ((HO.out.of0 (S := [])).trans ho5 (by intro x hx; simp at hx; exact .inr (by omega)))
  have C2 := Lib.hid (msg_r_bool (R + 1) c.r7 w5 hr5)
  have HZ5 := Lib.hid hz5
  clear C B1 HO hr5 hz5 ho5 G7
  go_wp2_with fail
  refine C2.out.mono ?_
  rintro e w6 ⟨rfl, hr6, ho6⟩
  rw [← H8.out] at hr6
  have hz6 := HZ5.out.only ho6 (by simp)
  have p7 := hz6.cell (k := 7) rfl
  have f7 := hz6.frozen 7
  have l6 := hz6.lt
  obtain ⟨bo, hbo⟩ : ∃ bo, c.r7.bool.1 = bo := ⟨_, rfl⟩
  rw [hbo]
  have HZ6 : Hid (Cells (w6.setCell ⟨R + 1 + 1, 7, none⟩ (.bool bo)) (R + 1 + 1) 67 [.int .i64 n0, .int .i64 n1, .int .i64 n2, .int .i64 n3, .int .i64 n4, .int .i64 n5, .int .i64 n6, .bool bo, .slice none 0 0, .int .i64 0, .int .i64 0, .slice none 0 0, .string ⟨#[]⟩, .string ⟨#[]⟩]) := Lib.hid (hz6.set 7 (.bool bo))
  have HB6 := Lib.hid ((HB1.out.only ho6 (by simp)).far (p := ⟨R + 1 + 1, 7, none⟩) (by simp <;> omega) (.bool bo))
  have HO6 := Lib.hid ((HO5.out.trans ho6 (by intro x hx; simp at hx; exact .inr (by omega))).setCell (p := ⟨R + 1 + 1, 7, none⟩) (.inr (by simp; omega)) (.bool bo))
  have hr6b : RAt (w6.setCell ⟨R + 1 + 1, 7, none⟩ (.bool bo)) (R + 1) c.r8 := ⟨hr6.1.far (p := ⟨R + 1 + 1, 7, none⟩) (by simp) _, hr6.2⟩
  have C3 := Lib.hid (msg_r_int (R + 1) c.r8 _ hr6b)
  have HBO := Lib.hid hbo
  clear C2 HB1 HO5 HZ5 hr6 hz6 ho6 hbo hr6b
  go_wp2_with fail
  refine C3.out.mono ?_
  rintro e w7 ⟨rfl, hr7, ho7⟩
  rw [← HN.out, ← H9.out] at *
  have HZ7 := Lib.hid (HZ6.out.only ho7 (by simp))
  have HB7 := Lib.hid (HB6.out.only ho7 (by simp))
  have HO7 := Lib.hid (HO6.out.trans ho7 (by intro x hx; simp at hx; exact .inr (by omega)))
  have HR7 := Lib.hid hr7
  clear C3 HB6 HO6 HZ6 p7 f7 l6 hr7 ho7
  by_cases h0 : c.n < 0
  · have d0 : decide (c.n < 0) = true := by simpa using h0
    have HNO : Hid (∀ m : Ms, ¬ (m.Right ∧ msb m = s)) := Lib.hid (fun m h => by have := chn_out CH.out h.1 h.2; omega)
    have hst := HB7.out
    have hone : (#[.int .i64 0, .int .i64 0, .int .i64 0, .int .i64 0, .int .i64 0, .int .i64 0, .int .i64 0, .bool false, .slice none 0 0, .int .i64 0, .int .i64 0, .slice none 0 0, .string ⟨#[]⟩, .string ⟨#[]⟩] : Array Value).all (·.oneCell') = true := by simp [Value.oneCell']
    go_wp2_with (refine wpList_store_row rfl 67 _ _ rfl R #[.int .i64 0, .int .i64 0, .int .i64 0, .int .i64 0, .int .i64 0, .int .i64 0, .int .i64 0, .bool false, .slice none 0 0, .int .i64 0, .int .i64 0, .slice none 0 0, .string ⟨#[]⟩, .string ⟨#[]⟩] rfl rfl 67 _ hst (by kernel_rfl) rfl hone ?_)
    (try simp only [Exit.inBlock, Exit.then])
    refine bodyPost_ret (v := .tuple #[.agg #[.int .i64 0, .int .i64 0, .int .i64 0, .int .i64 0, .int .i64 0, .int .i64 0, .int .i64 0, .bool false, .slice none 0 0, .int .i64 0, .int .i64 0, .slice none 0 0, .string ⟨#[]⟩, .string ⟨#[]⟩], .int .i64 8]) ?_ rfl ⟨none, .slice none 0 0, .slice none 0 0, fun m => ⟨fun h => by (cases h), fun h => absurd h (HNO.out m)⟩, rfl, ms_zero_at _, ?_⟩
    · exact results_row_tmp Try.results50 _ _ R 67 [.int .i64 0, .int .i64 0, .int .i64 0, .int .i64 0, .int .i64 0, .int .i64 0, .int .i64 0, .bool false, .slice none 0 0, .int .i64 0, .int .i64 0, .slice none 0 0, .string ⟨#[]⟩, .string ⟨#[]⟩] _ rfl (Cells.setRow HB7.out [.int .i64 0, .int .i64 0, .int .i64 0, .int .i64 0, .int .i64 0, .int .i64 0, .int .i64 0, .bool false, .slice none 0 0, .int .i64 0, .int .i64 0, .slice none 0 0, .string ⟨#[]⟩, .string ⟨#[]⟩]) Try.underlying67 rfl (by kernel_rfl)
    exact HO7.out.setRow (.inr (by omega)) _
  have d0 : decide (c.n < 0) = false := by simpa using h0
  by_cases h9 : 8 < c.n
  · have d1 : decide (8 < c.n) = true := by simpa using h9
    have HNO : Hid (∀ m : Ms, ¬ (m.Right ∧ msb m = s)) := Lib.hid (fun m h => by have := chn_out CH.out h.1 h.2; omega)
    have hst := HB7.out
    have hone : (#[.int .i64 0, .int .i64 0, .int .i64 0, .int .i64 0, .int .i64 0, .int .i64 0, .int .i64 0, .bool false, .slice none 0 0, .int .i64 0, .int .i64 0, .slice none 0 0, .string ⟨#[]⟩, .string ⟨#[]⟩] : Array Value).all (·.oneCell') = true := by simp [Value.oneCell']
    go_wp2_with (refine wpList_store_row rfl 67 _ _ rfl R #[.int .i64 0, .int .i64 0, .int .i64 0, .int .i64 0, .int .i64 0, .int .i64 0, .int .i64 0, .bool false, .slice none 0 0, .int .i64 0, .int .i64 0, .slice none 0 0, .string ⟨#[]⟩, .string ⟨#[]⟩] rfl rfl 67 _ hst (by kernel_rfl) rfl hone ?_)
    (try simp only [Exit.inBlock, Exit.then])
    refine bodyPost_ret (v := .tuple #[.agg #[.int .i64 0, .int .i64 0, .int .i64 0, .int .i64 0, .int .i64 0, .int .i64 0, .int .i64 0, .bool false, .slice none 0 0, .int .i64 0, .int .i64 0, .slice none 0 0, .string ⟨#[]⟩, .string ⟨#[]⟩], .int .i64 8]) ?_ rfl ⟨none, .slice none 0 0, .slice none 0 0, fun m => ⟨fun h => by (cases h), fun h => absurd h (HNO.out m)⟩, rfl, ms_zero_at _, ?_⟩
    · exact results_row_tmp Try.results50 _ _ R 67 [.int .i64 0, .int .i64 0, .int .i64 0, .int .i64 0, .int .i64 0, .int .i64 0, .int .i64 0, .bool false, .slice none 0 0, .int .i64 0, .int .i64 0, .slice none 0 0, .string ⟨#[]⟩, .string ⟨#[]⟩] _ rfl (Cells.setRow HB7.out [.int .i64 0, .int .i64 0, .int .i64 0, .int .i64 0, .int .i64 0, .int .i64 0, .int .i64 0, .bool false, .slice none 0 0, .int .i64 0, .int .i64 0, .slice none 0 0, .string ⟨#[]⟩, .string ⟨#[]⟩]) Try.underlying67 rfl (by kernel_rfl)
    exact HO7.out.setRow (.inr (by omega)) _
  have d1 : decide (8 < c.n) = false := by simpa using h9
  obtain ⟨N, hN⟩ : ∃ N : Nat, c.n = N := ⟨c.n.toNat, by omega⟩
  have hNt : c.n.toNat = N := by omega
  have hN8 : N ≤ 8 := by omega
  rw [hN] at d0 d1 ⊢
  have HNN := Lib.hid hN
  have HNT := Lib.hid hNt
  clear hN hNt
  go_wp2_with fail
  go_loopw [34] (fun i wr => ∃ (k : Nat) (ev : Value), k ≤ N ∧ i = .int .i64 k ∧ Hid (RAt wr (R + 1) (c.r9.ens k).2) ∧ Hid (Cells wr (R + 1 + 1) 67 [.int .i64 n0, .int .i64 n1, .int .i64 n2, .int .i64 n3, .int .i64 n4, .int .i64 n5, .int .i64 n6, .bool bo, ev, .int .i64 0, .int .i64 0, .slice none 0 0, .string ⟨#[]⟩, .string ⟨#[]⟩]) ∧ Hid (wr.ownsRow R 40 4 ev k (enL (c.r9.ens k).1)) ∧ Hid (Cells wr R 67 [.int .i64 0, .int .i64 0, .int .i64 0, .int .i64 0, .int .i64 0, .int .i64 0, .int .i64 0, .bool false, .slice none 0 0, .int .i64 0, .int .i64 0, .slice none 0 0, .string ⟨#[]⟩, .string ⟨#[]⟩]) ∧ Hid (Only [] w wr)) (fun i _ => N - (intOf i).toNat)
  case atStart => exact ⟨0, .slice none 0 0, by omega, rfl, HR7, HZ7, Lib.hid (World.ownsRow_nil _ _ _ _), HB7, HO7⟩
  case round =>
    obtain ⟨k, ev, hk, rfl, hr, hz, hown, hb, ho⟩ := hrel
    by_cases hlt : k < N
    · have hlt' : (k : Int) < (N : Int) := by omega
      obtain ⟨A, cap, rfl⟩ := (SlAt.of_own hown.out).shape
      have p8 := hz.out.cell (k := 8) rfl
      have f8 := hz.out.frozen 8
      have lz := hz.out.lt
      have hne : (Value.slice A k cap).ownBlock ≠ some (R + 1) := own_ne_block hown.out hr.out.1 (by decide)
      have hne2 : (Value.slice A k cap).ownBlock ≠ some (R + 1 + 1) := own_ne_block hown.out hz.out (by decide)
      have hne3 : (Value.slice A k cap).ownBlock ≠ some R := own_ne_block hown.out hb.out (by decide)
      obtain ⟨x, hx⟩ : ∃ x, (c.r9.ens k).2.en.1 = x := ⟨_, rfl⟩
      have HX := Lib.hid hx
      have ms := hr.out
      have CE := Lib.hid (fun w' (h : RAt w' (R + 1) (c.r9.ens k).2) => msg_entry (R + 1) (c.r9.ens k).2 w' h)
      rw [hx] at CE
      unfold En.cells at CE
      clear hx ms
      go_wp2_with fail
      go_region_law (first
        | (go_simp; go_at_call 87; go_loud (refine (CE.out _ (by first | exact ⟨hr.out.1.drew, hr.out.2⟩ | exact hr.out)).mono ?_); rintro e w8 ⟨rfl, hr8, ho8⟩; have hz8 : Cells w8 (R + 1 + 1) 67 _ := Cells.only (S := [R + 1]) hz.out.drew ho8 (by simp); have p88 := hz8.cell (k := 8) rfl; have l88 := hz8.lt)
        | (go_loud (refine step_append_lies _ (by rfl) _ _ 31 (by rfl) R 40 i0 _ 4 40 Try.underlying31 hi0 hz0 hz1 hz2 rfl (by omega) (.slice A k cap) k (enL (c.r9.ens k).1) (by rfl) (World.ownsRow.alloc (own_keep (w := wr.drew) hown.out ho8 (by simpa using hne)) _) ⟨w8.heap.size, 0, none⟩ 1 1 [.int .i64 x.ix, .int .i64 x.tm, .int .i64 x.kd, .string x.d] (by rfl) (by rfl) (lit4 (Cells.new w8 40 [.int .i64 x.ix, .int .i64 x.tm, .int .i64 x.kd, .string x.d])) (by simp [Value.oneCell', En.cells]) (by omega) (by unfold maxLen; omega) (by omega) (by have := ho8.size; have := hz8.lt; simp; omega) (w8.heap.size + 1) (by simp) ?_); intro g1 cap1 w9 hown9 hgrow hat hgl1; have hz9 : Cells w9 (R + 1 + 1) 67 _ := Cells.grown (hz8.alloc _) hgrow hne2; have p9 := hz9.cell (k := 8) rfl; have f9 := hz9.frozen 8; have l9 := hz9.lt))
      all_goals
        have hS8 := ho8.size
        have hr9 : RAt w9 (R + 1) (c.r9.ens (k + 1)).2 := ⟨(hr8.1.alloc _).grown hgrow hne, hr8.2⟩
        have hb9 : Cells w9 R 67 _ := ((Cells.only (S := [R + 1]) hb.out.drew ho8 (by simp)).alloc _).grown hgrow hne3
        have ho9 : Only [] w w9 := Only.own (((ho.out.drew.trans ho8 (by intro y hy; simp at hy; exact .inr (by omega)))).alloc (.cells #[.int .i64 x.ix, .int .i64 x.tm, .int .i64 x.kd, .string x.d] 40)) (World.ownsRow.alloc (own_keep (w := wr.drew) hown.out ho8 (by simpa using hne)) _) hgrow (by omega)
        have hen : enL (c.r9.ens (k + 1)).1 = enL (c.r9.ens k).1 ++ [.int .i64 x.ix, .int .i64 x.tm, .int .i64 x.kd, .string x.d] := by
          show enL ((c.r9.ens k).1 ++ [(c.r9.ens k).2.en.1]) = _
          rw [HX.out, enL_append]
          rfl
        have hg9 : (Value.slice (some ⟨g1, 0, none⟩) (k + 1) cap1).ownBlock ≠ some (R + 1 + 1) := own_ne_block hown9 hz9 (by decide)
        have hoW : Only [R + 1 + 1] w9 (w9.setCell ⟨R + 1 + 1, 8, none⟩ (.slice (some ⟨g1, 0, none⟩) (k + 1) cap1)) := (Only.refl _ _).setCell (.inl (by simp)) _
        have hown10 := own_keep hown9 hoW (by simpa using hg9)
        rw [← hen] at hown10
        have HOWN := Lib.hid hown10
        have HR10 : Hid (RAt (w9.setCell ⟨R + 1 + 1, 8, none⟩ (.slice (some ⟨g1, 0, none⟩) (k + 1) cap1)) (R + 1) (c.r9.ens (k + 1)).2) := Lib.hid ⟨hr9.1.only hoW (by simp), hr9.2⟩
        have HB10 := Lib.hid (hb9.only hoW (by simp <;> omega))
        have HZ10 := Lib.hid (hz9.set 8 (.slice (some ⟨g1, 0, none⟩) (k + 1) cap1))
        have HO10 := Lib.hid (ho9.trans hoW (by intro y hy; simp at hy; exact .inr (by omega)))
        clear hown9 hgrow hat hr9 hb9 ho9 hz9 hz8 hr8 ho8 hen hown10 hoW p9 f9 l9 p8 f8 lz p88 l88
        go_wp2_with fail
        go_roundw
        case rel => exact ⟨k + 1, .slice (some ⟨g1, 0, none⟩) (k + 1) cap1, by omega, by go_num, HR10, HZ10, HOWN, HB10, HO10⟩
        case measure => simp [intOf]; omega
    · have hd : decide ((k : Int) < (N : Int)) = false := by simp; omega
      obtain rfl : k = N := by omega
      have he1 : (c.r9.ens k).1 = c.es := by rw [HES.out, HNT.out]
      have he2 : (c.r9.ens k).2 = c.rE := by rw [HE.out, HNT.out]
      rw [he1] at hown
      rw [he2] at hr
      obtain ⟨A, cap, rfl⟩ := (SlAt.of_own hown.out).shape
      have hne : (Value.slice A k cap).ownBlock ≠ some (R + 1) := own_ne_block hown.out hr.out.1 (by decide)
      have hne2 : (Value.slice A k cap).ownBlock ≠ some (R + 1 + 1) := own_ne_block hown.out hz.out (by decide)
      have hne3 : (Value.slice A k cap).ownBlock ≠ some R := own_ne_block hown.out hb.out (by decide)
      obtain ⟨m1, g1⟩ : ∃ x, c.rE.nth 0 = x := ⟨_, rfl⟩
      obtain ⟨m2, g2⟩ : ∃ x, c.rE.nth 1 = x := ⟨_, rfl⟩
      have G2 : Hid (c.rE.ints 2 = [m1, m2]) := Lib.hid (by rw [← g1, ← g2]; rfl)
      have W2 : Hid (Wide64 m1 ∧ Wide64 m2) := Lib.hid (by rw [← g1, ← g2]; exact ⟨int_wide _, int_wide _⟩)
      obtain ⟨w8, hw8⟩ : ∃ w8, wr.alloc (.cells #[.pointer (some ⟨R + 1 + 1, 9, none⟩), .pointer (some ⟨R + 1 + 1, 10, none⟩)] 118) = w8 := ⟨_, rfl⟩
      have oA : Only [] wr w8 := hw8 ▸ (Only.refl _ _).alloc _
      have hq8 : Cells w8 wr.heap.size 118 (ptrs (R + 1 + 1) 9 2) := hw8 ▸ Cells.new wr _ _
      have hz8 : Cells w8 (R + 1 + 1) 67 ([.int .i64 n0, .int .i64 n1, .int .i64 n2, .int .i64 n3, .int .i64 n4, .int .i64 n5, .int .i64 n6, .bool bo, .slice A k cap] ++ ([.int .i64 0, .int .i64 0] ++ [.slice none 0 0, .string ⟨#[]⟩, .string ⟨#[]⟩])) := hz.out.only oA (by simp)
      have C := Lib.hid (msg_ints (R + 1) (R + 1 + 1) wr.heap.size 2 9 c.rE [.int .i64 n0, .int .i64 n1, .int .i64 n2, .int .i64 n3, .int .i64 n4, .int .i64 n5, .int .i64 n6, .bool bo, .slice A k cap] [.int .i64 0, .int .i64 0] [.slice none 0 0, .string ⟨#[]⟩, .string ⟨#[]⟩] 67 w8 ⟨hr.out.1.only oA (by simp), hr.out.2⟩ hq8 hz8 rfl rfl (by omega) (by decide) (by omega))
      have HOA := Lib.hid oA
      have HWS := Lib.hid hw8
      clear oA hq8 hz8 he1 he2 hlt
      go_wp2_with fail
      try rw [hw8]
      refine C.out.mono ?_
      rintro e w9 ⟨rfl, hr9, hz9, ho9⟩
      rw [← HBB.out] at hr9
      rw [G2.out] at hz9
      have hz9 : Cells w9 (R + 1 + 1) 67 [.int .i64 n0, .int .i64 n1, .int .i64 n2, .int .i64 n3, .int .i64 n4, .int .i64 n5, .int .i64 n6, .bool bo, .slice A k cap, .int .i64 m1, .int .i64 m2, .slice none 0 0, .string ⟨#[]⟩, .string ⟨#[]⟩] := hz9
      have HZ9 := Lib.hid hz9
      have HB9 := Lib.hid ((hb.out.only HOA.out (by simp)).only ho9 (by simp <;> omega))
      have HO9 := Lib.hid ((ho.out.tr HOA.out).trans ho9 (by intro y hy; simp at hy; exact .inr (by omega)))
      have HE9 := Lib.hid (own_keep (own_keep hown.out HOA.out (by simp)) ho9 (by intro q hq; simp only [List.mem_cons, List.not_mem_nil, or_false] at hq; rcases hq with rfl | rfl <;> assumption))
      have CV := Lib.hid (msg_r_voters (R + 1) c.rB w9 hr9)
      clear C hz9 ho9 hr9 hz hb ho hown hr HOA HWS hw8
      go_wp2_with fail
      refine CV.out.mono ?_
      rintro e w10 ⟨vv, rfl, hv10, hr10, ho10⟩
      rw [← HV.out] at hr10
      have hs9 := HO9.out.size
      have hvo := own_low hv10 (B' := R) (by omega)
      obtain ⟨vs, hvs⟩ : ∃ vs, c.rB.vots.1 = vs := ⟨_, rfl⟩
      have WV : Hid ((∀ x ∈ vs, Wide64 x) ∧ vs.length ≤ 9) := Lib.hid (hvs ▸ vots_wide _)
      rw [hvs] at hvo
      obtain ⟨vA, vc, rfl⟩ := (SlAt.of_own hvo).shape
      have hz10 := HZ9.out.only ho10 (by simp)
      have hb10 := HB9.out.only ho10 (by simp)
      have he10 := own_keep HE9.out ho10 (by simpa using hne)
      have vne1 : (Value.slice vA vs.length vc).ownBlock ≠ some (R + 1) := own_ne_block hvo hr10.1 (by decide)
      have vne2 : (Value.slice vA vs.length vc).ownBlock ≠ some (R + 1 + 1) := own_ne_block hvo hz10 (by decide)
      have vne3 : (Value.slice vA vs.length vc).ownBlock ≠ some R := own_ne_block hvo hb10 (by decide)
      have pv := hz10.cell (k := 11) rfl
      have fv := hz10.frozen 11
      have lv := hz10.lt
      have hoW : Only [R + 1 + 1] w10 (w10.setCell ⟨R + 1 + 1, 11, none⟩ (.slice vA vs.length vc)) := (Only.refl _ _).setCell (.inl (by simp)) _
      have HZ10 : Hid (Cells (w10.setCell ⟨R + 1 + 1, 11, none⟩ (.slice vA vs.length vc)) (R + 1 + 1) 67 [.int .i64 n0, .int .i64 n1, .int .i64 n2, .int .i64 n3, .int .i64 n4, .int .i64 n5, .int .i64 n6, .bool bo, .slice A k cap, .int .i64 m1, .int .i64 m2, .slice vA vs.length vc, .string ⟨#[]⟩, .string ⟨#[]⟩]) := Lib.hid (hz10.set 11 _)
      have HB10 := Lib.hid (hb10.only hoW (by simp <;> omega))
      have HE10 := Lib.hid (own_keep he10 hoW (by simpa using hne2))
      have HV10 := Lib.hid (own_keep hvo hoW (by simpa using vne2))
      have HO10 := Lib.hid ((HO9.out.trans ho10 (by intro y hy; simp at hy; exact .inr (by omega))).trans hoW (by intro y hy; simp at hy; exact .inr (by omega)))
      have hr10b : RAt (w10.setCell ⟨R + 1 + 1, 11, none⟩ (.slice vA vs.length vc)) (R + 1) c.rV := ⟨hr10.1.only hoW (by simp), hr10.2⟩
      have CT := Lib.hid (msg_r_text (R + 1) c.rV _ hr10b)
      have HVS := Lib.hid hvs
      clear hvs hvo hz10 hb10 he10 hv10 hr10 ho10 hoW hr10b HZ9 HB9 HO9 HE9 CV
      go_wp2_with fail
      refine CT.out.mono ?_
      rintro e w11 ⟨rfl, hr11, ho11⟩
      rw [← HD.out] at hr11
      obtain ⟨bd, hbd⟩ : ∃ bd, c.rV.text.1 = bd := ⟨_, rfl⟩
      rw [hbd]
      have hz11 := HZ10.out.only ho11 (by simp)
      have pv2 := hz11.cell (k := 12) rfl
      have fv2 := hz11.frozen 12
      have lv2 := hz11.lt
      have hoW : Only [R + 1 + 1] w11 (w11.setCell ⟨R + 1 + 1, 12, none⟩ (.string ⟨bd.toArray⟩)) := (Only.refl _ _).setCell (.inl (by simp)) _
      have HZ11 : Hid (Cells (w11.setCell ⟨R + 1 + 1, 12, none⟩ (.string ⟨bd.toArray⟩)) (R + 1 + 1) 67 [.int .i64 n0, .int .i64 n1, .int .i64 n2, .int .i64 n3, .int .i64 n4, .int .i64 n5, .int .i64 n6, .bool bo, .slice A k cap, .int .i64 m1, .int .i64 m2, .slice vA vs.length vc, .string ⟨bd.toArray⟩, .string ⟨#[]⟩]) := Lib.hid (hz11.set 12 _)
      have HB11 := Lib.hid ((HB10.out.only ho11 (by simp)).only hoW (by simp <;> omega))
      have HE11 := Lib.hid (own_keep (own_keep HE10.out ho11 (by simpa using hne)) hoW (by simpa using hne2))
      have HV11 := Lib.hid (own_keep (own_keep HV10.out ho11 (by simpa using vne1)) hoW (by simpa using vne2))
      have HO11 := Lib.hid ((HO10.out.trans ho11 (by intro y hy; simp at hy; exact .inr (by omega))).trans hoW (by intro y hy; simp at hy; exact .inr (by omega)))
      have hr11b : RAt (w11.setCell ⟨R + 1 + 1, 12, none⟩ (.string ⟨bd.toArray⟩)) (R + 1) c.rD := ⟨hr11.1.only hoW (by simp), hr11.2⟩
      have CT2 := Lib.hid (msg_r_text (R + 1) c.rD _ hr11b)
      have HBD := Lib.hid hbd
      have LBD : Hid (bd.length ≤ 1000000000000) := Lib.hid (hbd ▸ text_short lV)
      clear hbd hz11 hr11 ho11 hoW hr11b HZ10 HB10 HO10 HE10 HV10 CT pv fv lv
      go_wp2_with fail
      refine CT2.out.mono ?_
      rintro e w12 ⟨rfl, hr12, ho12⟩
      rw [← HF.out] at hr12
      obtain ⟨dd, hdd⟩ : ∃ dd, c.rD.text.1 = dd := ⟨_, rfl⟩
      rw [hdd]
      have hz12 := HZ11.out.only ho12 (by simp)
      have pv := hz12.cell (k := 13) rfl
      have fv := hz12.frozen 13
      have lv := hz12.lt
      obtain ⟨w13, hw13⟩ : ∃ w13, w12.setCell ⟨R + 1 + 1, 13, none⟩ (.string ⟨dd.toArray⟩) = w13 := ⟨_, rfl⟩
      have hoW : Only [R + 1 + 1] w12 w13 := hw13 ▸ (Only.refl _ _).setCell (.inl (by simp)) _
      have hz13 : Cells w13 (R + 1 + 1) 67 [.int .i64 n0, .int .i64 n1, .int .i64 n2, .int .i64 n3, .int .i64 n4, .int .i64 n5, .int .i64 n6, .bool bo, .slice A k cap, .int .i64 m1, .int .i64 m2, .slice vA vs.length vc, .string ⟨bd.toArray⟩, .string ⟨dd.toArray⟩] := hw13 ▸ hz12.set 13 (.string ⟨dd.toArray⟩)
      have HB13 := Lib.hid ((HB11.out.only ho12 (by simp)).only hoW (by simp <;> omega))
      have he13 := own_keep (own_keep HE11.out ho12 (by simpa using hne)) hoW (by simpa using hne2)
      have hv13 := own_keep (own_keep HV11.out ho12 (by simpa using vne1)) hoW (by simpa using vne2)
      have HO13 := Lib.hid ((HO11.out.trans ho12 (by intro y hy; simp at hy; exact .inr (by omega))).trans hoW (by intro y hy; simp at hy; exact .inr (by omega)))
      have hr13 : RAt w13 (R + 1) c.rF := ⟨hr12.1.only hoW (by simp), hr12.2⟩
      have HM2 : Hid (c.ms s = ⟨n0, n1, n2, n3, n4, n5, n6, bo, c.es, ⟨m1, m2, vs, ⟨bd.toArray⟩⟩, ⟨dd.toArray⟩⟩) := Lib.hid (by rw [HM.out, HBO.out, g1, g2, HVS.out, HBD.out, hdd])
      have LDD : Hid (dd.length ≤ 1000000000000) := Lib.hid (hdd ▸ text_short lD)
      have HLE : Hid (c.es.length = k) := Lib.hid (by rw [LES.out, HNT.out])
      have HMA : Hid (MsAt w13 (.slice A k cap) (.slice vA vs.length vc) (c.ms s)) := by
        rw [HM2.out]
        refine Lib.hid ⟨?_, SlAt.of_own hv13, ?_, ?_, WV.out.1, ?_, ?_⟩
        · show SlAt _ _ _ 4 c.es.length _
          rw [HLE.out]; exact SlAt.of_own he13
        · obtain ⟨a0, a1, a2, a3, a4, a5, a6⟩ := W7.out
          obtain ⟨e1, e2⟩ := W2.out
          intro y hy
          simp only [List.mem_cons, List.not_mem_nil, or_false] at hy
          rcases hy with rfl | rfl | rfl | rfl | rfl | rfl | rfl | rfl | rfl <;> assumption
        · intro y hy
          obtain ⟨a, b, c', d⟩ := WES.out y hy
          exact ⟨a, b, c', Nat.le_trans d (by unfold maxLen; omega)⟩
        · have := LDD.out
          show (⟨dd.toArray⟩ : ByteArray).size ≤ maxLen
          simp [ByteArray.size, maxLen]; omega
        · have := LBD.out
          show (⟨bd.toArray⟩ : ByteArray).size ≤ maxLen
          simp [ByteArray.size, maxLen]; omega
      have CR := Lib.hid (fun w' (h : Only [] w13 w') => msg_right _ _ _ w' (HMA.out.only h))
      unfold Ms.val at CR
      rw [HM2.out] at CR
      have HR13 := Lib.hid hr13
      have rb := hr13.1.cell (k := 1) rfl
      have rs := hr13.1.cell (k := 0) rfl
      have HZ13 := Lib.hid hz13
      have HE13 := Lib.hid he13
      have HV13 := Lib.hid hv13
      have HDD := Lib.hid hdd
      clear hdd hz12 hr12 ho12 hoW hr13 he13 hv13 HZ11 HB11 HO11 HE11 HV11 CT2 pv2 fv2 lv2 hz13 g1 g2
      cases hbad : c.rF.bad with
      | true =>
        rw [hbad] at rb
        have HNO : Hid (∀ m : Ms, ¬ (m.Right ∧ msb m = s)) := Lib.hid (fun m h => by have := (chn_out CH.out h.1 h.2).2.2.2.1; rw [hbad] at this; cases this)
        have hst := HB13.out
        have hone : (#[.int .i64 0, .int .i64 0, .int .i64 0, .int .i64 0, .int .i64 0, .int .i64 0, .int .i64 0, .bool false, .slice none 0 0, .int .i64 0, .int .i64 0, .slice none 0 0, .string ⟨#[]⟩, .string ⟨#[]⟩] : Array Value).all (·.oneCell') = true := by simp [Value.oneCell']
        go_wp2_with (refine wpList_store_row rfl 67 _ _ rfl R #[.int .i64 0, .int .i64 0, .int .i64 0, .int .i64 0, .int .i64 0, .int .i64 0, .int .i64 0, .bool false, .slice none 0 0, .int .i64 0, .int .i64 0, .slice none 0 0, .string ⟨#[]⟩, .string ⟨#[]⟩] rfl rfl 67 _ hst (by kernel_rfl) rfl hone ?_)
        (try simp only [Exit.inBlock, Exit.then])
        refine bodyPost_ret (v := .tuple #[.agg #[.int .i64 0, .int .i64 0, .int .i64 0, .int .i64 0, .int .i64 0, .int .i64 0, .int .i64 0, .bool false, .slice none 0 0, .int .i64 0, .int .i64 0, .slice none 0 0, .string ⟨#[]⟩, .string ⟨#[]⟩], .int .i64 8]) ?_ rfl ⟨none, .slice none 0 0, .slice none 0 0, fun m => ⟨fun h => by (cases h), fun h => absurd h (HNO.out m)⟩, rfl, ms_zero_at _, ?_⟩
        · exact results_row_tmp Try.results50 _ _ R 67 [.int .i64 0, .int .i64 0, .int .i64 0, .int .i64 0, .int .i64 0, .int .i64 0, .int .i64 0, .bool false, .slice none 0 0, .int .i64 0, .int .i64 0, .slice none 0 0, .string ⟨#[]⟩, .string ⟨#[]⟩] _ rfl (Cells.setRow HB13.out [.int .i64 0, .int .i64 0, .int .i64 0, .int .i64 0, .int .i64 0, .int .i64 0, .int .i64 0, .bool false, .slice none 0 0, .int .i64 0, .int .i64 0, .slice none 0 0, .string ⟨#[]⟩, .string ⟨#[]⟩]) Try.underlying67 rfl (by kernel_rfl)
        exact HO13.out.setRow (.inr (by omega)) _
      | false =>
        rw [hbad] at rb
        cases hss : c.rF.s with
        | cons q qs =>
          have hqne : ¬ (⟨(q :: qs).toArray⟩ : ByteArray).toList = [] := by rw [ba_toList]; simp
          rw [hss] at rs
          obtain ⟨Q, hQ⟩ : ∃ Q : ByteArray, (⟨(q :: qs).toArray⟩ : ByteArray) = Q := ⟨_, rfl⟩
          rw [hQ] at hqne rs
          have HNO : Hid (∀ m : Ms, ¬ (m.Right ∧ msb m = s)) := Lib.hid (fun m h => by have := (chn_out CH.out h.1 h.2).2.2.2.2; rw [hss] at this; cases this)
          have hst := HB13.out
          have hone : (#[.int .i64 0, .int .i64 0, .int .i64 0, .int .i64 0, .int .i64 0, .int .i64 0, .int .i64 0, .bool false, .slice none 0 0, .int .i64 0, .int .i64 0, .slice none 0 0, .string ⟨#[]⟩, .string ⟨#[]⟩] : Array Value).all (·.oneCell') = true := by simp [Value.oneCell']
          go_wp2_with (refine wpList_store_row rfl 67 _ _ rfl R #[.int .i64 0, .int .i64 0, .int .i64 0, .int .i64 0, .int .i64 0, .int .i64 0, .int .i64 0, .bool false, .slice none 0 0, .int .i64 0, .int .i64 0, .slice none 0 0, .string ⟨#[]⟩, .string ⟨#[]⟩] rfl rfl 67 _ hst (by kernel_rfl) rfl hone ?_)
          (try simp only [Exit.inBlock, Exit.then])
          refine bodyPost_ret (v := .tuple #[.agg #[.int .i64 0, .int .i64 0, .int .i64 0, .int .i64 0, .int .i64 0, .int .i64 0, .int .i64 0, .bool false, .slice none 0 0, .int .i64 0, .int .i64 0, .slice none 0 0, .string ⟨#[]⟩, .string ⟨#[]⟩], .int .i64 8]) ?_ rfl ⟨none, .slice none 0 0, .slice none 0 0, fun m => ⟨fun h => by (cases h), fun h => absurd h (HNO.out m)⟩, rfl, ms_zero_at _, ?_⟩
          · exact results_row_tmp Try.results50 _ _ R 67 [.int .i64 0, .int .i64 0, .int .i64 0, .int .i64 0, .int .i64 0, .int .i64 0, .int .i64 0, .bool false, .slice none 0 0, .int .i64 0, .int .i64 0, .slice none 0 0, .string ⟨#[]⟩, .string ⟨#[]⟩] _ rfl (Cells.setRow HB13.out [.int .i64 0, .int .i64 0, .int .i64 0, .int .i64 0, .int .i64 0, .int .i64 0, .int .i64 0, .bool false, .slice none 0 0, .int .i64 0, .int .i64 0, .slice none 0 0, .string ⟨#[]⟩, .string ⟨#[]⟩]) Try.underlying67 rfl (by kernel_rfl)
          exact HO13.out.setRow (.inr (by omega)) _
        | nil =>
          rw [hss] at rs
          have p0 := HZ13.out.cell (k := 0) rfl
          have p1 := HZ13.out.cell (k := 1) rfl
          have p2 := HZ13.out.cell (k := 2) rfl
          have p3 := HZ13.out.cell (k := 3) rfl
          have p4 := HZ13.out.cell (k := 4) rfl
          have p5 := HZ13.out.cell (k := 5) rfl
          have p6 := HZ13.out.cell (k := 6) rfl
          have p7 := HZ13.out.cell (k := 7) rfl
          have p8 := HZ13.out.cell (k := 8) rfl
          have p9 := HZ13.out.cell (k := 9) rfl
          have p10 := HZ13.out.cell (k := 10) rfl
          have p11 := HZ13.out.cell (k := 11) rfl
          have p12 := HZ13.out.cell (k := 12) rfl
          have p13 := HZ13.out.cell (k := 13) rfl
          have h0n : 0 ≤ c.n := by rw [HNN.out]; omega
          have HIN : Hid (msb (c.ms s) = s) := Lib.hid (chn_in CH.out hl h0n hbad hss)
          go_wp2_with fail
          clear hw13
          refine (CR.out w13 (Only.refl _ _)).mono ?_
          rintro e w14 ⟨b, rfl, hb, ho14⟩
          have HBQ := Lib.hid hb
          have HB14 := Lib.hid (HB13.out.only ho14 (by simp))
          have HO14 := Lib.hid (HO13.out.tr0 ho14)
          have HZ14 := Lib.hid (HZ13.out.only ho14 (by simp))
          have HMA14 := Lib.hid (HMA.out.only ho14)
          clear p0 p1 p2 p3 p4 p5 p6 p7 p8 p9 p10 p11 p12 p13 HB13 HO13 HZ13 HMA CR hb
          cases b with
          | false =>
            have HNO : Hid (∀ m : Ms, ¬ (m.Right ∧ msb m = s)) := Lib.hid (fun m h => by have h1 := (chn_out CH.out h.1 h.2).1; have h2 := h.1; rw [h1, HM2.out] at h2; cases HBQ.out.2 h2)
            have hst := HB14.out
            have hone : (#[.int .i64 0, .int .i64 0, .int .i64 0, .int .i64 0, .int .i64 0, .int .i64 0, .int .i64 0, .bool false, .slice none 0 0, .int .i64 0, .int .i64 0, .slice none 0 0, .string ⟨#[]⟩, .string ⟨#[]⟩] : Array Value).all (·.oneCell') = true := by simp [Value.oneCell']
            go_wp2_with (refine wpList_store_row rfl 67 _ _ rfl R #[.int .i64 0, .int .i64 0, .int .i64 0, .int .i64 0, .int .i64 0, .int .i64 0, .int .i64 0, .bool false, .slice none 0 0, .int .i64 0, .int .i64 0, .slice none 0 0, .string ⟨#[]⟩, .string ⟨#[]⟩] rfl rfl 67 _ hst (by kernel_rfl) rfl hone ?_)
            (try simp only [Exit.inBlock, Exit.then])
            refine bodyPost_ret (v := .tuple #[.agg #[.int .i64 0, .int .i64 0, .int .i64 0, .int .i64 0, .int .i64 0, .int .i64 0, .int .i64 0, .bool false, .slice none 0 0, .int .i64 0, .int .i64 0, .slice none 0 0, .string ⟨#[]⟩, .string ⟨#[]⟩], .int .i64 8]) ?_ rfl ⟨none, .slice none 0 0, .slice none 0 0, fun m => ⟨fun h => by (cases h), fun h => absurd h (HNO.out m)⟩, rfl, ms_zero_at _, ?_⟩
            · exact results_row_tmp Try.results50 _ _ R 67 [.int .i64 0, .int .i64 0, .int .i64 0, .int .i64 0, .int .i64 0, .int .i64 0, .int .i64 0, .bool false, .slice none 0 0, .int .i64 0, .int .i64 0, .slice none 0 0, .string ⟨#[]⟩, .string ⟨#[]⟩] _ rfl (Cells.setRow HB14.out [.int .i64 0, .int .i64 0, .int .i64 0, .int .i64 0, .int .i64 0, .int .i64 0, .int .i64 0, .bool false, .slice none 0 0, .int .i64 0, .int .i64 0, .slice none 0 0, .string ⟨#[]⟩, .string ⟨#[]⟩]) Try.underlying67 rfl (by kernel_rfl)
            exact HO14.out.setRow (.inr (by omega)) _
          | true =>
            have HRI := Lib.hid (HBQ.out.1 rfl)
            have hst := HB14.out
            have hld := HZ14.out
            have hone : (#[.int .i64 n0, .int .i64 n1, .int .i64 n2, .int .i64 n3, .int .i64 n4, .int .i64 n5, .int .i64 n6, .bool bo, .slice A k cap, .int .i64 m1, .int .i64 m2, .slice vA vs.length vc, .string ⟨bd.toArray⟩, .string ⟨dd.toArray⟩] : Array Value).all (·.oneCell') = true := by simp [Value.oneCell']
            go_wp2_with (first
              | refine wpList_load_row rfl 67 _ rfl (R + 1 + 1) rfl 67 #[.int .i64 n0, .int .i64 n1, .int .i64 n2, .int .i64 n3, .int .i64 n4, .int .i64 n5, .int .i64 n6, .bool bo, .slice A k cap, .int .i64 m1, .int .i64 m2, .slice vA vs.length vc, .string ⟨bd.toArray⟩, .string ⟨dd.toArray⟩] (0, 0) _ hld Try.underlying67 rfl (by kernel_rfl) ?_
              | refine wpList_store_row rfl 67 _ _ rfl R #[.int .i64 n0, .int .i64 n1, .int .i64 n2, .int .i64 n3, .int .i64 n4, .int .i64 n5, .int .i64 n6, .bool bo, .slice A k cap, .int .i64 m1, .int .i64 m2, .slice vA vs.length vc, .string ⟨bd.toArray⟩, .string ⟨dd.toArray⟩] rfl rfl 67 _ hst (by kernel_rfl) rfl hone ?_)
            (try simp only [Exit.inBlock, Exit.then])
            have hF : Only [R] w14 (w14.setRow R #[.int .i64 n0, .int .i64 n1, .int .i64 n2, .int .i64 n3, .int .i64 n4, .int .i64 n5, .int .i64 n6, .bool bo, .slice A k cap, .int .i64 m1, .int .i64 m2, .slice vA vs.length vc, .string ⟨bd.toArray⟩, .string ⟨dd.toArray⟩]) := (Only.refl _ _).setRow (.inl (by simp)) _
            have hMF : MsAt (w14.setRow R #[.int .i64 n0, .int .i64 n1, .int .i64 n2, .int .i64 n3, .int .i64 n4, .int .i64 n5, .int .i64 n6, .bool bo, .slice A k cap, .int .i64 m1, .int .i64 m2, .slice vA vs.length vc, .string ⟨bd.toArray⟩, .string ⟨dd.toArray⟩]) (.slice A k cap) (.slice vA vs.length vc) (c.ms s) := by
              have he := own_keep (own_keep HE13.out ho14 (by simp)) hF (by simpa using hne3)
              have hv := own_keep (own_keep HV13.out ho14 (by simp)) hF (by simpa using vne3)
              obtain ⟨_, _, a3, a4, a5, a6, a7⟩ := HMA14.out
              refine ⟨?_, ?_, a3, a4, a5, a6, a7⟩
              · have h1 : (c.ms s).es = c.es := rfl
                rw [h1, HLE.out]; exact SlAt.of_own he
              · rw [HM2.out]; exact SlAt.of_own hv
            have hRR : Hid (Ms.Right (c.ms s)) := by rw [HM2.out]; exact HRI
            refine bodyPost_ret (v := .tuple #[.agg #[.int .i64 n0, .int .i64 n1, .int .i64 n2, .int .i64 n3, .int .i64 n4, .int .i64 n5, .int .i64 n6, .bool bo, .slice A k cap, .int .i64 m1, .int .i64 m2, .slice vA vs.length vc, .string ⟨bd.toArray⟩, .string ⟨dd.toArray⟩], .int .i64 0]) ?_ rfl ⟨some (c.ms s), .slice A k cap, .slice vA vs.length vc, fun m => ⟨fun h => ?_, fun h => ?_⟩, ?_, hMF, ?_⟩
            · exact results_row_tmp Try.results50 _ _ R 67 [.int .i64 n0, .int .i64 n1, .int .i64 n2, .int .i64 n3, .int .i64 n4, .int .i64 n5, .int .i64 n6, .bool bo, .slice A k cap, .int .i64 m1, .int .i64 m2, .slice vA vs.length vc, .string ⟨bd.toArray⟩, .string ⟨dd.toArray⟩] _ rfl (Cells.setRow HB14.out [.int .i64 n0, .int .i64 n1, .int .i64 n2, .int .i64 n3, .int .i64 n4, .int .i64 n5, .int .i64 n6, .bool bo, .slice A k cap, .int .i64 m1, .int .i64 m2, .slice vA vs.length vc, .string ⟨bd.toArray⟩, .string ⟨dd.toArray⟩]) Try.underlying67 rfl (by kernel_rfl)
            · injection h with h; subst h; exact ⟨hRR.out, HIN.out⟩
            · rw [(chn_out CH.out h.1 h.2).1]
            · show _ = Ending.returned (.tuple #[(c.ms s).val _ _, .int .i64 0])
              rw [HM2.out]; rfl
            · exact HO14.out.setRow (.inr (by omega)) _
end Go.Proofs.Ytagklgodcbmcaaa
