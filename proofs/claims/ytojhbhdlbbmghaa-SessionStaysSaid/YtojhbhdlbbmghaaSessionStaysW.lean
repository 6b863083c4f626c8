/-
  The walk over SessionStays.
-/
import Derived.Test.YtojhbhdlbbmghaaShown15
import Derived.Test.YtojhbhdlbbmghaaPlain15
namespace Go.Proofs.Ytojhbhdlbbmghaa
open Go.RowKit
set_option maxRecDepth 100000 in
set_option maxHeartbeats 2000000 in
theorem sessionStays_walk (W : World) (v : Value) (l : List Act) (hs : SlAt W W.heap.size v 4 l.length (l.flatMap Act.cells)) (hg : ∀ a ∈ l, a.wide) (many : Int) (hm' : (Lit.int .i64 many).wf = true) :
    Calls Try.prog 12 #[v, .int .i64 many] W fun e W' => e = .returned (.bool true) ∧ Only [] W W' := by
  have hm := wide64_of_wf hm'
  clear hm'
  obtain ⟨A, c, rfl⟩ := hs.shape
  have HS := Lib.hid hs
  have HG := Lib.hid hg
  clear hs hg
  have CS : Hid (∀ w, Only [] W w → Calls Try.prog 44 #[.slice A l.length c] w fun e w' => e = .returned (.bool (small15 l)) ∧ w = w') := by
    intro w ho
    refine small_of _ l w ?_ HG.out
    obtain ⟨h1, a1, c1, h2, h3, h4, h5⟩ := HS.out.only ho (Nat.le_refl _) (by simp)
    exact ⟨h1, a1, c1, h2, h3, h4, fun h => by obtain ⟨b, o, e1, e2, e3⟩ := h5 h; exact ⟨b, o, e1, Nat.lt_of_lt_of_le e2 ho.size, e3⟩⟩
  cases hsm : small15 l with
  | false =>
    rw [hsm] at CS
    go_enter Try.func12, Try.ntmps12
    go_wp2_with fail
    refine (shown15 W).mono ?_
    rintro e w1 ⟨rfl, ho1⟩
    go_wp2_with fail
    refine (CS.out _ ho1).mono ?_
    rintro e w2 ⟨rfl, rfl⟩
    go_wp2_with fail
    go_ret
    exact ⟨rfl, ho1⟩
  | true =>
    have hl200 : l.length ≤ 200 := by
      unfold small15 at hsm
      simp at hsm
      exact hsm.1
    rw [hsm] at CS
    clear hsm
    obtain ⟨n, hn⟩ : ∃ n, pickN many 12 = n := ⟨_, rfl⟩
    have hn12 : n < 12 := by rw [← hn]; exact pickN_lt _ _ (by omega)
    have CP : Hid (∀ w, Calls Try.prog 50 #[.int .i64 many, .int .i64 12] w fun e w' => e = .returned (.int .i64 n) ∧ w = w') := by
      intro w; rw [← hn]; exact pick15 many 12 w hm (by omega) (by omega)
    clear hn hm
    go_enter Try.func12, Try.ntmps12
    go_wp2_with fail
    refine (shown15 W).mono ?_
    rintro e w1 ⟨rfl, ho1⟩
    go_wp2_with fail
    refine (CS.out _ ho1).mono ?_
    rintro e w2 ⟨rfl, rfl⟩
    go_wp2_with fail
    refine (new15 _).mono ?_
    rintro e w2 ⟨rfl, ht2, ho2, _⟩
    have hWB : W.heap.size ≤ w1.heap.size := ho1.size
    have hoA := ho1.tr0 ho2
    obtain ⟨b, hb⟩ : ∃ b, w1.heap.size = b := ⟨_, rfl⟩
    rw [hb] at ht2 hWB ⊢
    have HT2 := Lib.hid ht2
    clear ht2 ho1 ho2 hb
    go_wp2_with fail
    go_loopw [8] (fun i wr => ∃ (k : Nat) (tv : Value), k ≤ l.length ∧ i = .int .i64 k ∧ Hid (TbT wr b b tv (TS.after (l.take k))) ∧ Only [] W wr) (fun i _ => l.length - (intOf i).toNat)
    case atStart => exact ⟨0, _, by omega, rfl, HT2, hoA⟩
    case round =>
      obtain ⟨k, tv, hk, rfl, ht, ho⟩ := hrel
      obtain ⟨hok, hev⟩ := after_ok (l.take k)
      rw [List.length_take] at hev
      by_cases hlt : k < l.length
      · have hlt' : (k : Int) < (l.length : Int) := by omega
        have hk1 := List.getElem?_eq_getElem hlt
        obtain ⟨x, hx⟩ : ∃ x, l[k] = x := ⟨_, rfl⟩
        rw [hx] at hk1
        have hw := HG.out x (List.mem_of_getElem? hk1)
        obtain ⟨ab, ao, ac, hv, hab, hc⟩ := (HS.out.only ho (Nat.le_refl _) (by simp)).at_ (by omega)
        have q0 : wr.cell? ⟨ab, ao + k * 4, none⟩ = some (.int .i64 x.op) := hc (k * 4 + 0) _ (acts_get l k 0 x hk1 (by omega))
        have q1 : wr.cell? ⟨ab, ao + k * 4 + 1, none⟩ = some (.int .i64 x.id) := hc (k * 4 + 1) _ (acts_get l k 1 x hk1 (by omega))
        have q2 : wr.cell? ⟨ab, ao + k * 4 + 2, none⟩ = some (.int .i64 x.seq) := hc (k * 4 + 2) _ (acts_get l k 2 x hk1 (by omega))
        have q3 : wr.cell? ⟨ab, ao + k * 4 + 3, none⟩ = some (.string x.reply) := hc (k * 4 + 3) _ (acts_get l k 3 x hk1 (by omega))
        have hsz := ho.size
        have CD := Lib.hid (does15 b b tv _ x wr hw ht.out hok.len ⟨hok.ever, by omega⟩)
        have HE := Lib.hid (after_snoc l k x hk1)
        injection hv with e1 e2 e3
        subst e1; subst e3
        clear e2 hc hx hk1 hw hok hev
        unfold Act.val at CD
        go_wp2_with (go_at_call 46; refine CD.out.mono ?_; rintro e w3 ⟨rfl, tv3, ht3, ho3, _⟩; have HT3 := Lib.hid ht3; clear ht3)
        go_roundw
        case rel => exact ⟨k + 1, tv3, by omega, by go_num, by show TbT _ _ _ _ _; rw [HE.out]; exact HT3.out, ho.past ht.out hWB ho3⟩
        case measure => simp [intOf]; omega
      · have hd0 : decide ((k : Int) < (l.length : Int)) = false := by simp; omega
        obtain rfl : k = l.length := by omega
        rw [List.take_length] at ht hok hev
        obtain ⟨t, htt⟩ : ∃ t, TS.after l = t := ⟨_, rfl⟩
        rw [htt] at ht hok hev
        have CR := Lib.hid (tbs_register b b tv t.l t.ever wr ht.out hok.len ⟨hok.ever, by omega⟩)
        have HST := Lib.hid (stay_first hok)
        have he0 := hok.ever
        have he1 : t.ever ≤ 200 := by omega
        clear hok hev htt
        go_wp2_with fail
        refine CR.out.mono ?_
        rintro e w3 ⟨rfl, tv3, ht3, ho3, _⟩
        have hoB := ho.past ht.out hWB ho3
        have HT3 := Lib.hid ht3
        clear ht3 ho3 ho ht CR
        go_wp2_with fail
        refine (CP.out _).mono ?_
        rintro e w4 ⟨rfl, rfl⟩
        go_wp2_with fail
        obtain ⟨id, hid⟩ : ∃ id, t.ever + 1 = id := ⟨_, rfl⟩
        rw [hid] at HST HT3 ⊢
        have hi0 : 1 ≤ id := by omega
        have hi1 : id ≤ 201 := by omega
        obtain ⟨L0, hL0⟩ : ∃ L0, regL t.l ⟨id, 0, .empty⟩ = L0 := ⟨_, rfl⟩
        rw [hL0] at HST HT3
        clear hL0 hid he0 he1
        go_loopw [11] (fun i wr => ∃ (m : Nat) (tv : Value) (L : List Ses), m ≤ n ∧ i = .int .i64 m ∧ Hid (TbV wr b b tv L (id + m)) ∧ Hid (Stay id m L) ∧ Only [] W wr) (fun i _ => n - (intOf i).toNat)
        case atStart => exact ⟨0, _, _, by omega, rfl, by show TbV _ _ _ _ _ _; rw [show id + ((0 : Nat) : Int) = id from by omega]; exact HT3.out, HST, hoB⟩
        case round =>
          obtain ⟨m, tv5, L, hm, rfl, ht5, hst, ho5⟩ := hrel
          by_cases hlt5 : m < n
          · have hlt5' : (m : Int) < n := by omega
            have CR := Lib.hid (tbs_register b b tv5 L (id + m) _ ht5.out hst.out.len (by omega))
            have HN := Lib.hid (stay_next hst.out ⟨id + m + 1, 0, .empty⟩ (by show id + m + 1 ≠ id; omega))
            have heq : (id + (m : Int) + 1 == id + 1 + m) = true := by simp; omega
            go_wp2_with (go_at_call 49; refine CR.out.mono ?_; rintro e w6 ⟨rfl, tv6, ht6, ho6, _⟩; have HT6 := Lib.hid ht6; clear ht6)
            go_roundw
            case rel => exact ⟨m + 1, tv6, _, by omega, by go_num, by show TbV _ _ _ _ _ _; rw [show id + ((m + 1 : Nat) : Int) = id + m + 1 from by omega]; exact HT6.out, HN, ho5.past ht5.out hWB ho6⟩
            case measure => simp [intOf]; omega
          · have hd5 : decide ((m : Int) < n) = false := by simp; omega
            obtain rfl : m = n := by omega
            have CA := tbs_ask b b L (id + m) id 1 _ ht5.out.s (by have := hst.out.len; omega)
            rw [stay_ask hst.out] at CA
            by_cases h8 : m < 8
            · rw [if_pos h8] at CA
              have CA : Calls Try.prog 47 #[.pointer (some ⟨b, 0, none⟩), .int .i64 id, .int .i64 1] _ fun e w' => e = .returned (.tuple #[.int .i64 0, .string .empty]) ∧ Only [] _ w' := CA
              have HCA := Lib.hid CA
              have h81 : decide ((8 : Int) ≤ m) = false := by simp; omega
              have h82 : decide ((m : Int) < 8) = true := by simp; omega
              clear CA
              go_wp2_with fail
              refine HCA.out.mono ?_
              rintro e w7 ⟨rfl, ho7⟩
              go_wp2_with fail
              go_ret
              exact ⟨rfl, ho5.tr0 ho7⟩
            · rw [if_neg h8] at CA
              have CA : Calls Try.prog 47 #[.pointer (some ⟨b, 0, none⟩), .int .i64 id, .int .i64 1] _ fun e w' => e = .returned (.tuple #[.int .i64 3, .string .empty]) ∧ Only [] _ w' := CA
              have HCA := Lib.hid CA
              have h81 : decide ((8 : Int) ≤ m) = true := by simp; omega
              have h82 : decide ((m : Int) < 8) = false := by simp; omega
              clear CA
              go_wp2_with fail
              refine HCA.out.mono ?_
              rintro e w7 ⟨rfl, ho7⟩
              go_wp2_with fail
              go_ret
              exact ⟨rfl, ho5.tr0 ho7⟩
end Go.Proofs.Ytojhbhdlbbmghaa
