/-
  NetFull: the walk.
-/
import Derived.Test.YtllapfpakoobcaaNet7
namespace Go.Proofs.Ytllapfpakoobcaa
open Go.RowKit
theorem row_letN {w : World} {B k n : Nat} {A : Option Addr} {c : Nat} {l : List Lt} {x : Lt} (hn : n = l.length) (h : w.ownsRow B 37 3 (.slice A n c) n (ltL l)) (hx : l[k]? = some x) :
    ∃ g, A = some ⟨g, 0, none⟩ ∧ w.cell? ⟨g, k * 3, none⟩ = some (.int .i64 x.fr) ∧ w.cell? ⟨g, k * 3 + 1, none⟩ = some (.int .i64 x.to) ∧ w.cell? ⟨g, k * 3 + 2, none⟩ = some (.string x.d) ∧ B ≤ g ∧ g < w.heap.size := by
  subst hn; exact row_let h hx
def fullLt (i : Nat) : Lt := ⟨i, i + 1, ⟨#[120]⟩⟩
/-- The net behind k letters. -/
def fullS (k : Nat) : NS := ⟨(List.range' (k - 300) (min k 300)).map fullLt, [], ((k - 300 : Nat) : Int)⟩
theorem fullS_len (k : Nat) : (fullS k).l.length = min k 300 := by simp [fullS]
theorem fullS_get (k i : Nat) (h : i < min k 300) : (fullS k).l[i]? = some (fullLt (k - 300 + i)) := by
  show ((List.range' (k - 300) (min k 300)).map fullLt)[i]? = _
  rw [List.getElem?_map, List.getElem?_range' h]
  simp
theorem fullS_succ (k : Nat) : (fullS k).send (fullLt k) = fullS (k + 1) := by
  unfold NS.send
  rw [fullS_len]
  by_cases h : k < 300
  · rw [if_neg (by omega)]
    unfold fullS
    rw [show k - 300 = 0 from by omega, show k + 1 - 300 = 0 from by omega, show min k 300 = k from by omega, show min (k + 1) 300 = k + 1 from by omega, List.range'_concat, List.map_append]
    simp
  · rw [if_pos (by omega)]
    unfold fullS
    rw [show min k 300 = 300 from by omega, show min (k + 1) 300 = 300 from by omega, show k + 1 - 300 = (k - 300) + 1 from by omega]
    rw [show List.range' (k - 300) 300 = (k - 300) :: List.range' (k - 300 + 1) 299 from rfl, List.map_cons, List.eraseIdx_cons_zero]
    rw [show List.range' (k - 300 + 1) 300 = List.range' (k - 300 + 1) 299 ++ [k - 300 + 1 + 1 * 299] from List.range'_concat, List.map_append]
    rw [show k - 300 + 1 + 1 * 299 = k from by omega]
    simp
set_option maxRecDepth 100000 in
set_option maxHeartbeats 1000000 in
theorem netFull_walk (W : World) (many : Int) (h1 : (Lit.int .i64 many).wf = true) :
    Calls Try.prog 7 #[.int .i64 many] W fun e W' => e = .returned (.bool true) ∧ Only [] W W' := by
  have hw := wide_of_wf h1
  have hp := pickI_lt many 700 (by omega)
  have CP : Hid (∀ w, Calls Try.prog 11 #[.int .i64 many, .int .i64 700] w fun e w' => e = .returned (.int .i64 (pickI many 700)) ∧ w = w') := fun w => pick6 many 700 w hw (by omega) (by omega)
  obtain ⟨kk, hkk⟩ := Int.eq_ofNat_of_zero_le hp.1
  rw [hkk] at CP
  have hk7 : kk < 700 := by omega
  clear h1 hw hp hkk
  go_enter Try.func7, Try.ntmps7
  go_wp2_with fail
  refine (shown6 W).mono ?_
  rintro e w1 ⟨rfl, ho1⟩
  go_wp2_with fail
  refine (na_new W w1 ho1).mono ?_
  rintro e w2 ⟨b, rfl, h2⟩
  go_wp2_with (go_at_call 11; refine (CP.out _).mono ?_; rintro e w3 ⟨rfl, rfl⟩)
  go_loopw [6] (fun i wr => ∃ k : Nat, k ≤ kk ∧ i = .int .i64 k ∧ Hid (NetAt W wr b (fullS k))) (fun i _ => kk - (intOf i).toNat)
  case atStart => exact ⟨0, by omega, rfl, h2⟩
  case round =>
    obtain ⟨k, hk, rfl, hN⟩ := hrel
    by_cases hlt : k < kk
    · have hlt' : (k : Int) < (kk : Int) := by omega
      have CS := Lib.hid (na_sendE hN (fullLt k) ⟨by show (0 : Int) ≤ ((k - 300 : Nat) : Int); omega, by show ((k - 300 : Nat) : Int) ≤ 1000000000000; omega⟩ (fullS_succ k))
      go_wp2_with fail
      refine CS.out.mono ?_
      rintro e w5 ⟨rfl, h5⟩
      go_wp2_with fail
      go_roundw
      case rel => exact ⟨k + 1, by omega, by go_num, h5⟩
      case measure => simp [intOf]; omega
    · obtain rfl : k = kk := by omega
      have hlt' : decide ((k : Int) < (k : Int)) = false := by simp
      rcases Nat.lt_or_ge 300 k with h300 | h300
      · have hq : (300 : Int) < (k : Int) := by omega
        have hq2 : decide ((k : Int) ≤ 300) = false := by simp; omega
        have hlen : (fullS k).l.length = 300 := by rw [fullS_len]; omega
        have hlo : (fullS k).lost = (k : Int) - 300 := by show ((k - 300 : Nat) : Int) = _; omega
        have CF := na_flight hN
        have CL := fun w (h : Hid (NetAt W w b (fullS k))) => na_lost h
        rw [hlen] at CF
        rw [hlo] at CL
        have HCF := Lib.hid CF
        have HCL := Lib.hid CL
        have HLEN := Lib.hid hlen
        clear CF CL hlen hlo
        go_wp2_with fail
        refine HCF.out.mono ?_
        rintro e w5 ⟨A, c, rfl, hr, h5, ho5⟩
        go_wp2_with fail
        refine (HCL.out _ h5).mono ?_
        rintro e w6 ⟨rfl, rfl⟩
        go_wp2_with fail
        go_loop [8] (fun i => ∃ j : Nat, j ≤ 300 ∧ i = .int .i64 j) (fun i => 300 - (intOf i).toNat)
        case atStart => exact ⟨0, by omega, rfl⟩
        case round =>
          obtain ⟨j, hj, rfl⟩ := hrel
          by_cases hjm : j < 300
          · have hjm' : (j : Int) < 300 := by omega
            have hx := fullS_get k j (by omega)
            obtain ⟨g, hA, p0, -, -, -, hgl⟩ := row_letN HLEN.out.symm hr.out hx
            subst hA
            have p0' : w5.cell? ⟨g, j * 3, none⟩ = some (.int .i64 ((k : Int) - 300 + j)) := by
              rw [p0]; show some (Value.int .i64 ((k - 300 + j : Nat) : Int)) = _; congr 2; omega
            clear p0 hx
            go_wp2_with fail
            go_round
            case rel => exact ⟨j + 1, by omega, by go_num⟩
            case measure => simp [intOf]; omega
          · have hjm' : decide ((j : Int) < 300) = false := by simp; omega
            go_wp2_with fail
            go_ret
            exact ⟨rfl, h5.out.only⟩
      · have hq : (k : Int) ≤ 300 := by omega
        have hlen : (fullS k).l.length = k := by rw [fullS_len]; omega
        have hlo : (fullS k).lost = 0 := by show ((k - 300 : Nat) : Int) = _; omega
        have CF := na_flight hN
        have CL := fun w (h : Hid (NetAt W w b (fullS k))) => na_lost h
        rw [hlen] at CF
        rw [hlo] at CL
        have HCF := Lib.hid CF
        have HCL := Lib.hid CL
        have HLEN := Lib.hid hlen
        clear CF CL hlen hlo
        go_wp2_with fail
        refine HCF.out.mono ?_
        rintro e w5 ⟨A, c, rfl, hr, h5, ho5⟩
        go_wp2_with fail
        refine (HCL.out _ h5).mono ?_
        rintro e w6 ⟨rfl, rfl⟩
        go_wp2_with fail
        all_goals
          go_loop [8] (fun i => ∃ j : Nat, j ≤ k ∧ i = .int .i64 j) (fun i => k - (intOf i).toNat)
          case atStart => exact ⟨0, by omega, rfl⟩
          case round =>
            obtain ⟨j, hj, rfl⟩ := hrel
            by_cases hjm : j < k
            · have hjm' : (j : Int) < (k : Int) := by omega
              have hx := fullS_get k j (by omega)
              obtain ⟨g, hA, p0, -, -, -, hgl⟩ := row_letN HLEN.out.symm hr.out hx
              subst hA
              have p0' : w5.cell? ⟨g, j * 3, none⟩ = some (.int .i64 ((k : Int) - (k : Int) + j)) := by
                rw [p0]; show some (Value.int .i64 ((k - 300 + j : Nat) : Int)) = _; congr 2; omega
              clear p0 hx
              go_wp2_with fail
              go_round
              case rel => exact ⟨j + 1, by omega, by go_num⟩
              case measure => simp [intOf]; omega
            · have hjm' : decide ((j : Int) < (k : Int)) = false := by simp; omega
              go_wp2_with fail
              go_ret
              exact ⟨rfl, h5.out.only⟩
end Go.Proofs.Ytllapfpakoobcaa
