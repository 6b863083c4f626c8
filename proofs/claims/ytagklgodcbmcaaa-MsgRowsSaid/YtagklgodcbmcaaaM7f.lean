/-
  Chapter 7: ints, entry.
-/
import Derived.Test.YtagklgodcbmcaaaM7e
namespace Go.Proofs.Ytagklgodcbmcaaa
open Go.RowKit
def Rs.after (r : Rs) : Nat → Rs
  | 0 => r
  | k + 1 => (r.after k).int.2
def Rs.nth (r : Rs) (k : Nat) : Int := (r.after k).int.1
def Rs.ints (r : Rs) : Nat → List Int
  | 0 => []
  | k + 1 => r.ints k ++ [r.nth k]
theorem Rs.ints_length (r : Rs) (n : Nat) : (r.ints n).length = n := by
  induction n with
  | zero => rfl
  | succ n ih => unfold Rs.ints; rw [List.length_append, ih]; rfl
def ptrs (z o : Nat) : Nat → List Value
  | 0 => []
  | k + 1 => ptrs z o k ++ [.pointer (some ⟨z, o + k, none⟩)]
theorem ptrs_length (z o n : Nat) : (ptrs z o n).length = n := by
  induction n with
  | zero => rfl
  | succ n ih => unfold ptrs; rw [List.length_append, ih]; rfl
theorem ptrs_at (z o n k : Nat) (h : k < n) : (ptrs z o n)[k]? = some (.pointer (some ⟨z, o + k, none⟩)) := by
  induction n with
  | zero => omega
  | succ n ih =>
    unfold ptrs
    by_cases hk : k < n
    · rw [List.getElem?_append_left (by rw [ptrs_length]; exact hk)]
      exact ih hk
    · obtain rfl : k = n := by omega
      rw [List.getElem?_append_right (by rw [ptrs_length]; omega), ptrs_length, Nat.sub_self]; rfl
theorem put_nth (r : Rs) (A B C : List Value) (k : Nat) (hk : k < B.length) : (A ++ (gvs (r.ints k) ++ (B.drop k ++ C))).set (A.length + k) (.int .i64 (r.nth k)) = A ++ (gvs (r.ints (k + 1)) ++ (B.drop (k + 1) ++ C)) := by
  have h1 : B.drop k = B[k] :: B.drop (k + 1) := List.drop_eq_getElem_cons hk
  have h2 : (gvs (r.ints k)).length = k := by unfold gvs; rw [List.length_map, Rs.ints_length]
  rw [List.set_append, if_neg (by omega), Nat.add_sub_cancel_left, List.set_append, if_neg (by omega), h2, Nat.sub_self, h1]
  show A ++ (gvs (r.ints k) ++ (Value.int .i64 (r.nth k) :: (B.drop (k + 1) ++ C))) = _
  rw [Rs.ints]
  unfold gvs
  rw [List.map_append, List.append_assoc]
  rfl
set_option maxRecDepth 100000 in
set_option maxHeartbeats 1000000 in
theorem msg_ints (b z q n o : Nat) (r : Rs) (A B C : List Value) (T : TypeId) (w : World) (h : RAt w b r) (hq : Cells w q 118 (ptrs z o n)) (hz : Cells w z T (A ++ (B ++ C))) (hA : A.length = o) (hB : B.length = n) (hzb : z ≠ b) (hT : T ≠ 118) (hn : n ≤ 100) :
    Calls Try.prog 84 #[.func (.func 85) #[.pointer (some ⟨b, 0, none⟩)] #[], .slice (some ⟨q, 0, none⟩) n n] w fun e w' => e = .returned (.tuple #[]) ∧ RAt w' b (r.after n) ∧ Cells w' z T (A ++ (gvs (r.ints n) ++ C)) ∧ Only [b, z] w w' := by
  have hqb : q ≠ b := hq.ne h.1 (by decide)
  have hqz : q ≠ z := hq.ne hz (fun h => hT h.symm)
  have HR := Lib.hid h
  have HQ := Lib.hid hq
  have HZ := Lib.hid hz
  have HA := Lib.hid hA
  have HB := Lib.hid hB
  have C1 := Lib.hid (fun (W : World) (r' : Rs) => msg_r_int b r' W)
  clear h hq hz hA hB
  go_enter Try.func84, Try.ntmps84
  go_wp2_with fail
  go_loopw [5, 8] (fun _ i wr => ∃ k : Nat, k ≤ n ∧ i = .int .i64 k ∧ Hid (RAt wr b (r.after k)) ∧ Hid (Cells wr q 118 (ptrs z o n)) ∧ Hid (Cells wr z T (A ++ (gvs (r.ints k) ++ (B.drop k ++ C)))) ∧ Hid (Only [b, z] w wr)) (fun _ i _ => n - (intOf i).toNat)
  case atStart => exact ⟨0, by omega, rfl, HR, HQ, by rw [List.drop_zero]; exact HZ, Lib.hid (Only.refl _ _)⟩
  case round =>
    obtain ⟨k, hk, rfl, hr, hq, hz, ho⟩ := hrel
    by_cases hlt : k < n
    · have hlt' : (k : Int) < (n : Int) := by omega
      have q0 := hq.out.cell (ptrs_at z o n k hlt)
      have CR := Lib.hid (C1.out wr (r.after k) hr.out)
      go_wp2_with fail
      refine CR.out.mono ?_
      rintro e w1 ⟨rfl, hr1, ho1⟩
      have HR1 := Lib.hid hr1
      have HQ1 := Lib.hid (hq.out.only ho1 (by simpa using hqb))
      have HZ1 := Lib.hid (hz.out.only ho1 (by simpa using hzb))
      have HO1 := Lib.hid (ho.out.tr (ho1.mono (S' := [b, z]) (by intro x hx; simp at hx; subst hx; exact .inl (by simp))))
      have hlen : o + k < (A ++ (gvs (r.ints k) ++ (B.drop k ++ C))).length := by
        have h1 := HA.out
        have h2 := HB.out
        have h3 : (gvs (r.ints k)).length = k := by unfold gvs; rw [List.length_map, Rs.ints_length]
        rw [List.length_append, List.length_append, List.length_append, List.length_drop]
        omega
      obtain ⟨u0, z0⟩ : ∃ u, w1.cell? ⟨z, o + k, none⟩ = some u := ⟨_, HZ1.out.cell (List.getElem?_eq_getElem hlen)⟩
      have z1 := HZ1.out.frozen (o + k)
      have z2 := HZ1.out.lt
      have hset := HZ1.out.set (o + k) (.int .i64 (r.after k).int.1)
      have hset2 : (A ++ (gvs (r.ints k) ++ (B.drop k ++ C))).set (o + k) (.int .i64 (r.after k).int.1) = A ++ (gvs (r.ints (k + 1)) ++ (B.drop (k + 1) ++ C)) := by
        have := put_nth r A B C k (by rw [HB.out]; exact hlt)
        rw [HA.out] at this
        exact this
      rw [hset2] at hset
      have HS := Lib.hid hset
      have HS2 := Lib.hid (HQ1.out.far (p := ⟨z, o + k, none⟩) hqz (.int .i64 (r.after k).int.1))
      have HS3 : Hid (RAt (w1.setCell ⟨z, o + k, none⟩ (.int .i64 (r.after k).int.1)) b (r.after (k + 1))) := Lib.hid ⟨HR1.out.1.far (p := ⟨z, o + k, none⟩) (Ne.symm hzb) _, HR1.out.2⟩
      have HS4 := Lib.hid (HO1.out.setCell (p := ⟨z, o + k, none⟩) (.inl (by simp)) (.int .i64 (r.after k).int.1))
      clear hset hset2 q0 CR ho1 hr1 hlen
      go_wp2_with fail
      go_roundw
      case rel => exact ⟨k + 1, by omega, by go_num, HS3, HS2, HS, HS4⟩
      case measure => simp [intOf]; omega
    · have hd : decide ((k : Int) < (n : Int)) = false := by simp; omega
      obtain rfl : k = n := by omega
      have hz' := hz.out
      rw [List.drop_of_length_le (by rw [HB.out]; omega), List.nil_append] at hz'
      have HZ' := Lib.hid hz'
      clear hz'
      go_wp2_with fail
      go_end0
      exact ⟨rfl, hr.out, HZ'.out, ho.out⟩

def Rs.en (r : Rs) : En × Rs := (⟨r.nth 0, r.nth 1, r.nth 2, ⟨(r.after 3).text.1.toArray⟩⟩, (r.after 3).text.2)
set_option maxRecDepth 100000 in
set_option maxHeartbeats 1000000 in
theorem msg_entry (b : Nat) (r : Rs) (w : World) (h : RAt w b r) :
    Calls Try.prog 87 #[.pointer (some ⟨b, 0, none⟩)] w fun e w' => e = .returned (.agg r.en.1.cells.toArray) ∧ RAt w' b r.en.2 ∧ Only [b] w w' := by
  have hmf : ∀ (fn : Fn) (first cap : Array Value) (w : World), (Instr.makeFunc fn first cap).run Try.prog w = .ok (.func fn first cap) w := fun _ _ _ _ => rfl
  have hb := h.1.lt
  obtain ⟨w1, hw1⟩ : ∃ w1, w.alloc (.cells #[.int .i64 0, .int .i64 0, .int .i64 0, .string ⟨#[]⟩] 40) = w1 := ⟨_, rfl⟩
  obtain ⟨w2, hw2⟩ : ∃ w2, w1.alloc (.cells #[.int .i64 0, .int .i64 0, .int .i64 0, .string ⟨#[]⟩] 40) = w2 := ⟨_, rfl⟩
  obtain ⟨w3, hw3⟩ : ∃ w3, w2.alloc (.cells #[.pointer (some ⟨w.heap.size + 1, 0, none⟩), .pointer (some ⟨w.heap.size + 1, 1, none⟩), .pointer (some ⟨w.heap.size + 1, 2, none⟩)] 118) = w3 := ⟨_, rfl⟩
  have s1 : w1.heap.size = w.heap.size + 1 := by rw [← hw1]; simp
  have s2 : w2.heap.size = w.heap.size + 1 + 1 := by rw [← hw2]; simp [s1]
  have O1 : Only [] w w1 := hw1 ▸ (Only.refl _ _).alloc _
  have O2 : Only [] w w2 := hw2 ▸ O1.alloc _
  have O3 : Only [] w w3 := hw3 ▸ O2.alloc _
  have a1 : Cells w1 w.heap.size 40 [.int .i64 0, .int .i64 0, .int .i64 0, .string ⟨#[]⟩] := hw1 ▸ Cells.new w _ _
  have a2 : Cells w2 (w.heap.size + 1) 40 [.int .i64 0, .int .i64 0, .int .i64 0, .string ⟨#[]⟩] := by
    have := Cells.new w1 40 [.int .i64 0, .int .i64 0, .int .i64 0, .string ⟨#[]⟩]
    rw [s1] at this
    exact hw2 ▸ this
  have a3 : Cells w3 (w.heap.size + 1 + 1) 118 (ptrs (w.heap.size + 1) 0 3) := by
    have := Cells.new w2 118 (ptrs (w.heap.size + 1) 0 3)
    rw [s2] at this
    exact hw3 ▸ this
  have r3 : RAt w3 b r := ⟨h.1.only O3 (by simp), h.2⟩
  have e1 : Cells w3 w.heap.size 40 [.int .i64 0, .int .i64 0, .int .i64 0, .string ⟨#[]⟩] := by
    have := (hw2 ▸ a1.alloc _ : Cells w2 w.heap.size _ _)
    exact hw3 ▸ this.alloc _
  have e2 : Cells w3 (w.heap.size + 1) 40 [.int .i64 0, .int .i64 0, .int .i64 0, .string ⟨#[]⟩] := hw3 ▸ a2.alloc _
  have C := Lib.hid (msg_ints b (w.heap.size + 1) (w.heap.size + 1 + 1) 3 0 r [] [.int .i64 0, .int .i64 0, .int .i64 0] [.string ⟨#[]⟩] 40 w3 r3 a3 e2 rfl rfl (by omega) (by decide) (by omega))
  have E1 := Lib.hid e1
  have HO := Lib.hid O3
  obtain ⟨z, hz⟩ : ∃ z, w.heap.size = z := ⟨_, rfl⟩
  clear e1 e2 r3 a1 a2 a3 h O1 O2 O3
  go_enter Try.func87, Try.ntmps87
  go_wp2_with fail
  rw [hz] at hw3 C E1 hb
  rw [hw3]
  clear hw1 hw2 hw3 s1 s2
  refine C.out.mono ?_
  rintro e w4 ⟨rfl, hr4, hz4, ho4⟩
  have HT := Lib.hid (msg_r_text b (r.after 3) w4 hr4)
  have HE1 := Lib.hid (E1.out.only ho4 (by simp; omega))
  have HZ4 := Lib.hid hz4
  have HO4 := Lib.hid (HO.out.of0 (S := [b]) |>.trans ho4 (by intro x hx; simp at hx; rcases hx with rfl | rfl
                                                              · exact .inl (by simp)
                                                              · exact .inr (by omega)))
  clear C E1 HO hr4 hz4 ho4
  go_wp2_with fail
  refine HT.out.mono ?_
  rintro e w5 ⟨rfl, hr5, ho5⟩
  have HR5 := Lib.hid hr5
  have HZ5 := Lib.hid (HZ4.out.only ho5 (by simp; omega))
  have HE5 := Lib.hid (HE1.out.only ho5 (by simp; omega))
  have HO5 := Lib.hid (HO4.out.tr ho5)
  have f3 := HZ5.out.frozen 3
  have c3 := HZ5.out.cell (k := 3) rfl
  have c0 : w5.cell? ⟨z + 1, 0, none⟩ = some (.int .i64 (r.nth 0)) := HZ5.out.cell (k := 0) rfl
  have c1 : w5.cell? ⟨z + 1, 1, none⟩ = some (.int .i64 (r.nth 1)) := HZ5.out.cell (k := 1) rfl
  have c2 : w5.cell? ⟨z + 1, 2, none⟩ = some (.int .i64 (r.nth 2)) := HZ5.out.cell (k := 2) rfl
  have d0 := HE5.out.cell (k := 0) rfl
  have d1 := HE5.out.cell (k := 1) rfl
  have d2 := HE5.out.cell (k := 2) rfl
  have d3 := HE5.out.cell (k := 3) rfl
  have g0 := HE5.out.frozen 0
  have g1 := HE5.out.frozen 1
  have g2 := HE5.out.frozen 2
  have g3 := HE5.out.frozen 3
  have l1 := HZ5.out.lt
  have l2 := HE5.out.lt
  clear HT HE1 HZ4 HO4 hr5 ho5
  go_wp2_with fail
  refine bodyPost_ret (v := .agg #[.int .i64 (r.nth 0), .int .i64 (r.nth 1), .int .i64 (r.nth 2), .string ⟨((r.after 3).text.1).toArray⟩]) (by simp [results, Try.results87, go_sem, *]) rfl ⟨rfl, ⟨?_, HR5.out.2⟩, ?_⟩
  · exact ((((HR5.out.1.far (p := ⟨z + 1, 3, none⟩) (by simp; omega) _).far (p := ⟨z, 0, none⟩) (by simp; omega) _).far (p := ⟨z, 1, none⟩) (by simp; omega) _).far (p := ⟨z, 2, none⟩) (by simp; omega) _).far (p := ⟨z, 3, none⟩) (by simp; omega) _
  · exact ((((HO5.out.setCell (p := ⟨z + 1, 3, none⟩) (.inr (by simp; omega)) _).setCell (p := ⟨z, 0, none⟩) (.inr (by simp; omega)) _).setCell (p := ⟨z, 1, none⟩) (.inr (by simp; omega)) _).setCell (p := ⟨z, 2, none⟩) (.inr (by simp; omega)) _).setCell (p := ⟨z, 3, none⟩) (.inr (by simp; omega)) _
end Go.Proofs.Ytagklgodcbmcaaa
