/-
  Chapter 18: the reader's items, and how many there are.
-/
import Derived.Test.YtjfnkjpnjiobjaaC18h
import Derived.Test.YtjfnkjpnjiobjaaC18j
import Derived.Test.YtjfnkjpnjiobjaaWide
namespace Go.Proofs.Ytjfnkjpnjiobjaa
open Go.RowKit
theorem index_p3 (l : List Value) (k : Nat) (v : Value) (hk : k < 3) (hv : l[k]? = some v) (w : World) :
    (Instr.index 159 (.agg l.toArray) (.int .i64 k)).run Try.prog w = .ok v w := by
  have hu : (underlying 159).run Try.prog w = .ok (.array 3 158) w := by kernel_rfl
  have hs : (sizeOf 158).run Try.prog w = .ok 1 w := by kernel_rfl
  have ha : (isAgg 158).run Try.prog w = .ok false w := by kernel_rfl
  have hk' : (0 : Int) ≤ k ∧ (k : Int) < (3 : Nat) := ⟨by omega, by omega⟩
  have hv' : l.toArray[k]? = some v := by simpa using hv
  simp only [Instr.index, asIntOf, Sem.run_bind, Sem.run_pure, Result.andThen_ok, hu]
  rw [if_pos hk']
  simp only [part, Sem.run_bind, Result.andThen_ok, hs, ha, Int.toNat_natCast, Nat.mul_one, hv']
  rfl
theorem index_p7 (l : List Value) (k : Nat) (v : Value) (hk : k < 7) (hv : l[k]? = some v) (w : World) :
    (Instr.index 125 (.agg l.toArray) (.int .i64 k)).run Try.prog w = .ok v w := by
  have hu : (underlying 125).run Try.prog w = .ok (.array 7 124) w := by kernel_rfl
  have hs : (sizeOf 124).run Try.prog w = .ok 1 w := by kernel_rfl
  have ha : (isAgg 124).run Try.prog w = .ok false w := by kernel_rfl
  have hk' : (0 : Int) ≤ k ∧ (k : Int) < (7 : Nat) := ⟨by omega, by omega⟩
  have hv' : l.toArray[k]? = some v := by simpa using hv
  simp only [Instr.index, asIntOf, Sem.run_bind, Sem.run_pure, Result.andThen_ok, hu]
  rw [if_pos hk']
  simp only [part, Sem.run_bind, Result.andThen_ok, hs, ha, Int.toNat_natCast, Nat.mul_one, hv']
  rfl

/-- The k-th text of an item, and the reader ahead of it. -/
def Rd.tx (r : Rd) : Nat → Rd
  | 0 => r
  | k + 1 => (r.tx k).text.2
def txL (r : Rd) (k : Nat) : List Value := ((List.range k).map fun j => Value.string ⟨((r.tx j).text.1).toArray⟩) ++ List.replicate (3 - k) (.string ⟨([] : List UInt8).toArray⟩)
theorem txL_set (r : Rd) (k : Nat) (hk : k < 3) : (txL r k).set k (.string ⟨((r.tx k).text.1).toArray⟩) = txL r (k + 1) := by
  have hk : k = 0 ∨ k = 1 ∨ k = 2 := by omega
  rcases hk with rfl | rfl | rfl
  all_goals simp [txL, List.range_succ, List.replicate]
theorem txL_len (r : Rd) (k : Nat) (hk : k ≤ 3) : (txL r k).length = 3 := by unfold txL; simp; omega
theorem pt3_get (z k : Nat) (hk : k < 3) : ([.pointer (some ⟨z, 0, none⟩), .pointer (some ⟨z, 1, none⟩), .pointer (some ⟨z, 2, none⟩)] : List Value)[k]? = some (.pointer (some ⟨z, k, none⟩)) := by
  have hk : k = 0 ∨ k = 1 ∨ k = 2 := by omega
  rcases hk with rfl | rfl | rfl <;> rfl
set_option maxRecDepth 100000 in
set_option maxHeartbeats 2000000 in
theorem cr_item (z : Nat) (r : Rd) (w : World) (h : CrAt w z r) :
    Calls Try.prog 85 #[.pointer (some ⟨z, 0, none⟩)] w fun e w' => e = .returned (.agg #[.string ⟨r.item.1.id.toArray⟩, .string ⟨r.item.1.ti.toArray⟩, .string ⟨r.item.1.li.toArray⟩]) ∧ CrAt w' z r.item.2 ∧ Only [z] w w' := by
  have x0 : r.item.1.id = (r.tx 0).text.1 := rfl
  have x1 : r.item.1.ti = (r.tx 1).text.1 := rfl
  have x2 : r.item.1.li = (r.tx 2).text.1 := rfl
  obtain ⟨t0, ht0⟩ : ∃ t, (r.tx 0).text.1 = t := ⟨_, rfl⟩
  obtain ⟨t1, ht1⟩ : ∃ t, (r.tx 1).text.1 = t := ⟨_, rfl⟩
  obtain ⟨t2, ht2⟩ : ∃ t, (r.tx 2).text.1 = t := ⟨_, rfl⟩
  have HT0 := Lib.hid ht0
  have HT1 := Lib.hid ht1
  have HT2 := Lib.hid ht2
  rw [x0, x1, x2, ht0, ht1, ht2]
  clear x0 x1 x2 ht0 ht1 ht2
  obtain ⟨w1, hw1⟩ : ∃ w1, w.alloc (.cells #[.string ⟨#[]⟩, .string ⟨#[]⟩, .string ⟨#[]⟩] 36) = w1 := ⟨_, rfl⟩
  obtain ⟨w2, hw2⟩ : ∃ w2, w1.alloc (.cells #[.string ⟨#[]⟩, .string ⟨#[]⟩, .string ⟨#[]⟩] 36) = w2 := ⟨_, rfl⟩
  obtain ⟨a, ha⟩ : ∃ a, w.heap.size = a := ⟨_, rfl⟩
  obtain ⟨b, hb⟩ : ∃ b, w1.heap.size = b := ⟨_, rfl⟩
  have O1 : Only [] w w1 := hw1 ▸ (Only.refl _ _).alloc _
  have O2 : Only [] w1 w2 := hw2 ▸ (Only.refl _ _).alloc _
  have hA1 : Cells w1 a 36 (txL r 0) := hw1 ▸ ha ▸ Cells.new w _ _
  have hB2 : Cells w2 b 36 (txL r 0) := hw2 ▸ hb ▸ Cells.new w1 _ _
  have hA2 := hA1.only O2 (by simp)
  have hR2 := h.only (O1.tr O2) (by simp)
  have hzl := h.lt
  have hab : a < b := by have := hA1.lt; omega
  have hza : z < a := by omega
  have HA2 := Lib.hid hA2
  have HB2 := Lib.hid hB2
  have HR2 := Lib.hid hR2
  have HO2 := Lib.hid (O1.tr O2)
  have HAS := Lib.hid ha
  have HIX := Lib.hid (fun k hk w' => index_p3 [.pointer (some ⟨b, 0, none⟩), .pointer (some ⟨b, 1, none⟩), .pointer (some ⟨b, 2, none⟩)] k _ hk (pt3_get b k hk) w')
  clear h hA1 hB2 hA2 hR2 O1 O2 hzl
  go_enter Try.func85, Try.ntmps85
  go_wp2_with fail
  go_loopw [5, 10] (fun _ i wr => ∃ k : Nat, k ≤ 3 ∧ i = .int .i64 k ∧ Hid (CrAt wr z (r.tx k)) ∧ Hid (Cells wr b 36 (txL r k)) ∧ Hid (Cells wr a 36 (txL r 0)) ∧ Hid (Only [z] w wr)) (fun _ i _ => 3 - (intOf i).toNat)
  case atStart => exact ⟨0, by omega, rfl, HR2, HB2, HA2, Lib.hid (HO2.out.of0)⟩
  case round =>
    obtain ⟨k, hk, rfl, hR, hB, hA, ho⟩ := hrel
    by_cases hlt : k < 3
    · have hlt' : (k : Int) < 3 := by omega
      have hix := HIX.out k hlt
      have hix := fun w' => by have := hix w'; simpa using this
      have CT := Lib.hid (cr_text z (r.tx k) wr hR.out)
      go_wp2_with fail
      refine CT.out.mono ?_
      rintro e w3 ⟨rfl, hR3, ho3⟩
      have hB3 := hB.out.only ho3 (by simp; omega)
      have HA3 := Lib.hid (hA.out.only ho3 (by simp; omega))
      obtain ⟨u0, d0⟩ : ∃ u, w3.cell? ⟨b, k, none⟩ = some u := ⟨_, hB3.cell (List.getElem?_eq_getElem (by rw [txL_len r k hk]; exact hlt))⟩
      have f0 := hB3.frozen k
      have HB4 : Hid (Cells (w3.setCell ⟨b, k, none⟩ (.string ⟨((r.tx k).text.1).toArray⟩)) b 36 (txL r (k + 1))) := Lib.hid (by rw [← txL_set r k hlt]; exact hB3.set k _)
      have HR4 : Hid (CrAt (w3.setCell ⟨b, k, none⟩ (.string ⟨((r.tx k).text.1).toArray⟩)) z (r.tx (k + 1))) := Lib.hid ⟨hR3.1.far (p := ⟨b, k, none⟩) (by show z ≠ b; omega) _, hR3.2⟩
      have HA4 := Lib.hid (HA3.out.far (p := ⟨b, k, none⟩) (by show a ≠ b; omega) (.string ⟨((r.tx k).text.1).toArray⟩))
      have HO4 := Lib.hid ((ho.out.tr ho3).setCell (p := ⟨b, k, none⟩) (.inr (by show w.heap.size ≤ b; omega)) (.string ⟨((r.tx k).text.1).toArray⟩))
      have hbl := hB3.lt
      clear hR3 ho3 hB3 HA3 CT hR hB hA ho hix
      go_wp2_with fail
      go_roundw
      case rel => exact ⟨k + 1, by omega, by go_num, HR4, HB4, HA4, HO4⟩
      case measure => simp [intOf]; omega
    · obtain rfl : k = 3 := by omega
      have hB' : Cells wr b 36 [.string ⟨((r.tx 0).text.1).toArray⟩, .string ⟨((r.tx 1).text.1).toArray⟩, .string ⟨((r.tx 2).text.1).toArray⟩] := hB.out
      have hA' : Cells wr a 36 [.string ⟨([] : List UInt8).toArray⟩, .string ⟨([] : List UInt8).toArray⟩, .string ⟨([] : List UInt8).toArray⟩] := hA.out
      have HR : Hid (CrAt wr z r.item.2) := Lib.hid hR.out
      rw [HT0.out, HT1.out, HT2.out] at hB'
      have b0 := hB'.cell (k := 0) rfl
      have b1 := hB'.cell (k := 1) rfl
      have b2 := hB'.cell (k := 2) rfl
      have hone : (#[.string ⟨t0.toArray⟩, .string ⟨t1.toArray⟩, .string ⟨t2.toArray⟩] : Array Value).all (·.oneCell') = true := by simp [Value.oneCell']
      have hst := hA'
      clear hR hB hA
      go_wp2_with (refine wpList_store_row rfl 36 _ _ rfl a #[.string ⟨t0.toArray⟩, .string ⟨t1.toArray⟩, .string ⟨t2.toArray⟩] rfl rfl 36 _ hst (by kernel_rfl) rfl hone ?_)
      (try simp only [Exit.inBlock, Exit.then])
      refine bodyPost_ret (v := .agg #[.string ⟨t0.toArray⟩, .string ⟨t1.toArray⟩, .string ⟨t2.toArray⟩]) ?_ rfl ⟨rfl, ⟨HR.out.1.farRow (by omega) _, HR.out.2⟩, ho.out.setRow (.inr (by omega)) _⟩
      exact results_row Try.results85 _ _ a 36 [.string ⟨t0.toArray⟩, .string ⟨t1.toArray⟩, .string ⟨t2.toArray⟩] _ rfl (Cells.setRow hA' [.string ⟨t0.toArray⟩, .string ⟨t1.toArray⟩, .string ⟨t2.toArray⟩]) Try.underlying36 rfl (by kernel_rfl)
/-- How many items or posts there are. -/
def Rd.many (r : Rd) : Int × Rd := if r.int.2.bad = true ∨ r.int.1 < 0 ∨ 100 < r.int.1 then (0, ⟨r.int.2.s, true⟩) else (r.int.1, r.int.2)
set_option maxRecDepth 100000 in
set_option maxHeartbeats 2000000 in
theorem cr_many (z : Nat) (r : Rd) (w : World) (h : CrAt w z r) :
    Calls Try.prog 84 #[.pointer (some ⟨z, 0, none⟩)] w fun e w' => e = .returned (.int .i64 r.many.1) ∧ CrAt w' z r.many.2 ∧ Only [z] w w' := by
  have C := Lib.hid (cr_int z r w h)
  have HM : Hid (∀ q n, r.int = (n, q) → r.many = if q.bad = true ∨ n < 0 ∨ 100 < n then (0, ⟨q.s, true⟩) else (n, q)) := Lib.hid (fun q n hq => by unfold Rd.many; rw [hq])
  obtain ⟨⟨n, q⟩, hq⟩ : ∃ p, r.int = p := ⟨_, rfl⟩
  have hm := HM.out q n hq
  rw [hq] at C
  dsimp only at C
  obtain ⟨⟨mv, mq⟩, hmm⟩ : ∃ p, r.many = p := ⟨_, rfl⟩
  rw [hmm] at hm ⊢
  have HM2 := Lib.hid hm
  clear h HM hq hm hmm
  go_enter Try.func84, Try.ntmps84
  go_wp2_with fail
  refine C.out.mono ?_
  rintro e w1 ⟨rfl, hR, ho⟩
  have c1 := hR.1.cell (k := 1) rfl
  have f1 := hR.1.frozen 1
  have hzl := hR.lt
  have HR := Lib.hid hR
  have HO := Lib.hid ho
  clear C hR ho
  by_cases k1 : n < 0
  · obtain ⟨rfl, rfl⟩ : mv = 0 ∧ mq = ⟨q.s, true⟩ := by have := HM2.out; rw [if_pos (.inr (.inl k1))] at this; simpa using this
    go_wp2_with fail
    go_ret
    exact ⟨rfl, ⟨HR.out.1.set 1 _, HR.out.2⟩, HO.out.setCell (p := ⟨z, 1, none⟩) (.inl (by simp)) _⟩
  by_cases k2 : 100 < n
  · obtain ⟨rfl, rfl⟩ : mv = 0 ∧ mq = ⟨q.s, true⟩ := by have := HM2.out; rw [if_pos (.inr (.inr k2))] at this; simpa using this
    go_wp2_with fail
    go_ret
    exact ⟨rfl, ⟨HR.out.1.set 1 _, HR.out.2⟩, HO.out.setCell (p := ⟨z, 1, none⟩) (.inl (by simp)) _⟩
  cases hb : q.bad with
  | true =>
    rw [hb] at c1
    obtain ⟨rfl, rfl⟩ : mv = 0 ∧ mq = ⟨q.s, true⟩ := by have := HM2.out; rw [if_pos (.inl hb)] at this; simpa using this
    have HQ : Hid ((⟨q.s, true⟩ : Rd) = q) := Lib.hid (by cases q; simp_all)
    clear hb
    go_wp2_with fail
    go_ret
    exact ⟨rfl, by rw [HQ.out]; exact HR.out, HO.out⟩
  | false =>
    rw [hb] at c1
    obtain ⟨rfl, rfl⟩ : mv = n ∧ mq = q := by have := HM2.out; rw [if_neg (by rw [hb]; simp; omega)] at this; simpa using this
    clear hb
    go_wp2_with fail
    go_ret
    exact ⟨rfl, HR.out, HO.out⟩
end Go.Proofs.Ytjfnkjpnjiobjaa
