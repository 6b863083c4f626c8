/-
  NetCounts: the walk.
-/
import Derived.Test.YtllapfpakoobcaaNet9
namespace Go.Proofs.Ytllapfpakoobcaa
open Go.RowKit
def NS.total (s : NS) : Int := s.l.length + s.lost
def incOf (n : Int) (ok : Bool) : Nat := if n < 3 ∨ (n = 5 ∧ ok = true) then 1 else 0
def decOf (n : Int) (ok : Bool) : Nat := if (n = 3 ∨ n = 4) ∧ ok = true then 1 else 0
theorem NS.at_some {s : NS} {k : Int} {x : Lt} (h : s.at k = some x) : k.toNat < s.l.length := by
  obtain ⟨j, rfl, hj, _⟩ := NS.at_in h
  simpa using hj
theorem NS.send_total (s : NS) (x : Lt) : (s.send x).total = s.total + 1 := by
  unfold NS.send NS.total
  split
  · show ((s.l.eraseIdx 0 ++ [x]).length : Int) + (s.lost + 1) = _
    rw [List.length_append, List.length_eraseIdx, if_pos (by omega)]
    simp; omega
  · show ((s.l ++ [x]).length : Int) + s.lost = _
    rw [List.length_append]; simp; omega
theorem NS.does_total (s : NS) (a : Act) (n : Int) (hn : pickI a.op 10 = n) (hb : 0 ≤ n ∧ n < 10) : (s.does a).1.total = s.total + incOf n (s.does a).2.2 - decOf n (s.does a).2.2 := by
  unfold NS.does incOf decOf
  rw [hn]
  by_cases h34 : n = 3 ∨ n = 4
  · simp only [if_pos h34]
    rw [if_neg (by omega)]
    unfold NS.take
    cases hx : s.at a.k with
    | none => simp
    | some x =>
      have hk := NS.at_some hx
      dsimp only
      split
      · simp
      · rw [if_pos ⟨h34, rfl⟩]
        unfold NS.out NS.total
        dsimp only
        rw [List.length_eraseIdx, if_pos hk]; omega
  simp only [if_neg h34]
  by_cases h5 : n = 5
  · simp only [if_pos h5]
    unfold NS.twice
    cases hx : s.at a.k with
    | none => simp [h5]
    | some x => simp [h5, NS.send_total]
  simp only [if_neg h5]
  by_cases h6 : n = 6
  · simp only [if_pos h6]
    rw [if_neg (by omega), if_neg (by omega)]
    unfold NS.lose
    cases hx : s.at a.k with
    | none => simp
    | some x =>
      have hk := NS.at_some hx
      unfold NS.total
      dsimp only
      rw [List.length_eraseIdx, if_pos hk]; omega
  simp only [if_neg h6]
  by_cases h7 : n = 7
  · simp only [if_pos h7]
    rw [if_neg (by omega), if_neg (by omega)]
    unfold NS.late
    cases hx : s.at a.k with
    | none => simp
    | some x =>
      have hk := NS.at_some hx
      unfold NS.total
      dsimp only
      rw [List.length_append, List.length_eraseIdx, if_pos hk]; simp; omega
  simp only [if_neg h7]
  by_cases h8 : n = 8
  · simp only [if_pos h8]
    rw [if_neg (by omega), if_neg (by omega)]
    simp [NS.total]
  simp only [if_neg h8]
  by_cases h9 : n = 9
  · simp only [if_pos h9]
    rw [if_neg (by omega), if_neg (by omega)]
    simp [NS.total]
  simp only [if_neg h9]
  rw [if_pos (by omega), if_neg (by omega), NS.send_total]
  omega
set_option maxRecDepth 100000 in
set_option maxHeartbeats 2000000 in
theorem netCounts_walk (W : World) (v : Value) (l : List Act) (hs : SlAt W W.heap.size v 6 l.length (l.flatMap Act.cells)) (hg : ∀ a ∈ l, a.Ok W) :
    Calls Try.prog 4 #[v] W fun e W' => e = .returned (.bool true) ∧ Only [] W W' := by
  have CS := Lib.hid (fun w (ho : Only [] W w) => small6 W v l hs hg w ho)
  obtain ⟨A, c, rfl⟩ := hs.shape
  have HS := Lib.hid hs
  have HG := Lib.hid hg
  clear hs hg
  cases hsm : smallB l with
  | false =>
    rw [hsm] at CS
    go_enter Try.func4, Try.ntmps4
    go_wp2_with fail
    refine (shown6 W).mono ?_
    rintro e w1 ⟨rfl, ho⟩
    go_wp2_with fail
    refine (CS.out _ ho).mono ?_
    rintro e w2 ⟨rfl, rfl⟩
    go_wp2_with fail
    go_ret
    exact ⟨rfl, ho⟩
  | true =>
    rw [hsm] at CS
    obtain ⟨h500, hgr⟩ := smallB_spec hsm
    have HGR := Lib.hid hgr
    clear hsm hgr
    go_enter Try.func4, Try.ntmps4
    go_wp2_with fail
    refine (shown6 W).mono ?_
    rintro e w1 ⟨rfl, ho⟩
    go_wp2_with fail
    refine (CS.out _ ho).mono ?_
    rintro e w2 ⟨rfl, rfl⟩
    go_wp2_with fail
    refine (na_new W w1 ho).mono ?_
    rintro e w2 ⟨b, rfl, h2⟩
    go_wp2_with fail
    go_loopw [6, 7, 8] (fun mv tv i wr => ∃ k mk tk : Nat, k ≤ l.length ∧ mk ≤ k ∧ tk ≤ k ∧ i = .int .i64 k ∧ mv = .int .i64 mk ∧ tv = .int .i64 tk ∧ Hid ((mk : Int) = tk + (NS.run ⟨[], [], 0⟩ l k).total) ∧ Hid (NetAt W wr b (NS.run ⟨[], [], 0⟩ l k))) (fun _ _ i _ => l.length - (intOf i).toNat)
    case atStart => exact ⟨0, 0, 0, by omega, by omega, by omega, rfl, rfl, rfl, rfl, h2⟩
    case round =>
      obtain ⟨k, mk, tk, hk, hmk, htk, rfl, rfl, rfl, htot, hN⟩ := hrel
      have hlost := NS.run_lost (s := ⟨[], [], 0⟩) l 0 ⟨by decide, by decide⟩ k hk
      by_cases hlt : k < l.length
      · have hlt' : (k : Int) < (l.length : Int) := by omega
        have hk1 := List.getElem?_eq_getElem hlt
        obtain ⟨x, hx⟩ : ∃ x, l[k] = x := ⟨_, rfl⟩
        rw [hx] at hk1
        have HSU := Lib.hid (NS.run_succ ⟨[], [], 0⟩ l k x hk1)
        obtain ⟨s, hsn⟩ : ∃ s, NS.run ⟨[], [], 0⟩ l k = s := ⟨_, rfl⟩
        rw [hsn] at hlost htot hN HSU
        obtain ⟨ab, ao, ac, gA, gc, hv, hgv, q0, q1, q2, q3, q4, q5, hb⟩ := act_at HS.out HG.out hN.out.only hk1
        have hxm := List.mem_of_getElem? hk1
        have hok := HG.out x hxm
        obtain ⟨n, hn⟩ : ∃ n, pickI x.op 10 = n := ⟨_, rfl⟩
        have hnb : 0 ≤ n ∧ n < 10 := by have := pickI_lt x.op 10 (by omega); omega
        have CP : Hid (∀ w, Calls Try.prog 11 #[.int .i64 x.op, .int .i64 10] w fun e w' => e = .returned (.int .i64 n) ∧ w = w') := fun w => by rw [← hn]; exact pick6 x.op 10 w hok.op (by omega) (by omega)
        obtain ⟨r, hr⟩ : ∃ r, s.does x = r := ⟨_, rfl⟩
        have CD := Lib.hid (na_does hN x hok (HGR.out x hxm).2 ⟨hlost.1, by omega⟩ r hr gA gc hgv)
        have HT : Hid (r.1.total = s.total + incOf n r.2.2 - decOf n r.2.2) := by rw [← hr]; exact s.does_total x n hn hnb
        have HR := Lib.hid hr
        have HK := Lib.hid hk1
        injection hv with e1 e2 e3
        subst e1; subst e3
        clear e2 hx hk1 hsn hxm hok hn hr hgv hlost
        obtain ⟨r1, rl, rok⟩ := r
        go_wp2_with fail
        refine CD.out.mono ?_
        rintro e w5 ⟨rfl, h5⟩
        have h5' : Hid (NetAt W (w5.alloc (.cells #[.int .i64 rl.fr, .int .i64 rl.to, .string rl.d] 37)) b r1) := h5.out.keep ((Only.refl _ _).alloc _)
        obtain ⟨ab', ao', ac', gA', gc', hv, -, p0, -, -, -, -, -, hb5⟩ := act_at HS.out HG.out h5.out.only HK.out
        injection hv with e1 e2 e3
        injection e1 with e1
        injection e1 with e4 e5
        subst e4; subst e5
        clear e2 e3 q0 q1 q2 q3 q4 q5 hN CD h5
        have hcase : (decide (n < 3) = true ∧ (n == 3) = false ∧ (n == 4) = false) ∨ (decide (n < 3) = false ∧ (n == 5) = true ∧ rok = true ∧ (n == 3) = false ∧ (n == 4) = false) ∨
            (decide (n < 3) = false ∧ (n == 5) = true ∧ rok = false ∧ (n == 3) = false ∧ (n == 4) = false) ∨ (decide (n < 3) = false ∧ (n == 5) = false ∧ (n == 3) = true ∧ rok = true) ∨ (decide (n < 3) = false ∧ (n == 5) = false ∧ (n == 3) = true ∧ rok = false) ∨
            (decide (n < 3) = false ∧ (n == 5) = false ∧ (n == 3) = false ∧ (n == 4) = true ∧ rok = true) ∨ (decide (n < 3) = false ∧ (n == 5) = false ∧ (n == 3) = false ∧ (n == 4) = true ∧ rok = false) ∨ (decide (n < 3) = false ∧ (n == 5) = false ∧ (n == 3) = false ∧ (n == 4) = false) := by
          simp only [decide_eq_true_eq, decide_eq_false_iff_not, beq_iff_eq, beq_eq_false_iff_ne, ne_eq]
          cases rok <;> simp <;> omega
        rcases hcase with ⟨c1, c2, c3⟩ | ⟨c1, c2, rfl, c3, c4⟩ | ⟨c1, c2, rfl, c3, c4⟩ | ⟨c1, c2, c3, rfl⟩ | ⟨c1, c2, c3, rfl⟩ | ⟨c1, c2, c3, c4, rfl⟩ | ⟨c1, c2, c3, c4, rfl⟩ | ⟨c1, c2, c3, c4⟩
        all_goals
          go_wp2_with (go_at_call 11; refine (CP.out _).mono ?_; rintro e w6 ⟨rfl, rfl⟩)
          go_roundw
          case rel =>
            have h1 := HT.out
            have h2 := htot.out
            try simp only [decide_eq_true_eq, decide_eq_false_iff_not, beq_iff_eq, beq_eq_false_iff_ne, ne_eq] at c1
            try simp only [decide_eq_true_eq, decide_eq_false_iff_not, beq_iff_eq, beq_eq_false_iff_ne, ne_eq] at c2
            try simp only [decide_eq_true_eq, decide_eq_false_iff_not, beq_iff_eq, beq_eq_false_iff_ne, ne_eq] at c3
            try simp only [decide_eq_true_eq, decide_eq_false_iff_not, beq_iff_eq, beq_eq_false_iff_ne, ne_eq] at c4
            unfold incOf decOf at h1
            try simp at h1
            first
              | exact ⟨k + 1, mk + 1, tk, by omega, by omega, by omega, by go_num, by go_num, rfl, by show _ = _; rw [HSU.out, HR.out]; first | (simp_all; done) | (simp_all; omega), by rw [HSU.out, HR.out]; exact h5'⟩
              | exact ⟨k + 1, mk, tk + 1, by omega, by omega, by omega, by go_num, rfl, by go_num, by show _ = _; rw [HSU.out, HR.out]; first | (simp_all; done) | (simp_all; omega), by rw [HSU.out, HR.out]; exact h5'⟩
              | exact ⟨k + 1, mk, tk, by omega, by omega, by omega, by go_num, rfl, rfl, by show _ = _; rw [HSU.out, HR.out]; first | (simp_all; done) | (simp_all; omega), by rw [HSU.out, HR.out]; exact h5'⟩
          case measure => simp [intOf]; omega
      · have hd0 : decide ((k : Int) < (l.length : Int)) = false := by simp; omega
        obtain ⟨s, hsn⟩ : ∃ s, NS.run ⟨[], [], 0⟩ l k = s := ⟨_, rfl⟩
        rw [hsn] at hlost htot hN
        have hlen : s.l.length ≤ 300 := by obtain ⟨v, f, hn⟩ := hN.out.net; exact hn.len
        clear hsn
        go_wp2_with fail
        refine (na_lost hN).mono ?_
        rintro e w5 ⟨rfl, rfl⟩
        go_wp2_with fail
        refine (na_flight hN).mono ?_
        rintro e w6 ⟨fA, fc, rfl, hr, h6, ho6⟩
        go_wp2_with fail
        have ht := htot.out
        unfold NS.total at ht
        go_ret
        exact ⟨by simp; omega, h6.out.only⟩
end Go.Proofs.Ytllapfpakoobcaa
