/-
  Chapter 18: the document's Unpack.
-/
import Derived.Test.YtjfnkjpnjiobjaaC18i
import Derived.Test.YtjfnkjpnjiobjaaC18l
import Derived.Test.YtjfnkjpnjiobjaaC18p
namespace Go.Proofs.Ytjfnkjpnjiobjaa
open Go.RowKit
/-- In the branch that leaves a loop the round's own end need not be looked at. -/
theorem hideM {P : Program} {c : Code} {M : Act → World → Prop} {Q : Exit → Act → World → Prop} {a : Act} {w : World} (h : ∀ M', c.wp P (Exit.then M' Q) a w) : c.wp P (Exit.then M Q) a w := h M
theorem unC_loop (s : List UInt8) (hl : s.length ≤ 1000000000000) (k : Nat) (hk : (k : Int) ≤ cN s ∨ k = 0) (hex : ¬ ((k : Int) < cN s ∧ k ≤ 100 ∧ (cI s k).2.bad = false)) :
    unC s = if (cE s k).bad = false ∧ 0 ≤ cN s ∧ rightB (cC s k) = true ∧ cmdb (cC s k) = s then some (cC s k) else none := by
  by_cases hc : (cE s k).bad = false ∧ 0 ≤ cN s ∧ rightB (cC s k) = true ∧ cmdb (cC s k) = s
  · rw [if_pos hc]
    exact (unC_iff s hl _).2 ⟨hc.2.2.1, hc.2.2.2⟩
  · rw [if_neg hc]
    cases hu : unC s with
    | none => rfl
    | some c =>
      obtain ⟨h1, h2⟩ := (unC_iff s hl c).1 hu
      have h3 := (lenB_iff.1 (rightB_iff.1 h1).2.1).2.2
      obtain ⟨a1, a2, a3, a4⟩ := cm_out c (right_ok h1) []
      rw [List.append_nil, h2] at a1 a2 a3 a4
      have hkn : k = c.its.length := by
        rcases Nat.lt_trichotomy k c.its.length with h | h | h
        · exact absurd ⟨by omega, by omega, a2 k (by omega)⟩ hex
        · exact h
        · rcases hk with hk | hk <;> omega
      rw [hkn, a3, a4] at hc
      exact absurd ⟨rfl, by omega, h1, h2⟩ hc
set_option maxRecDepth 100000 in
set_option maxHeartbeats 2000000 in
theorem qr_item (z : Nat) (r : Rd) (w : World) (h : QrAt w z r) :
    Calls Try.prog 109 #[.pointer (some ⟨z, 0, none⟩)] w fun e w' => e = .returned (.agg #[.string ⟨r.item.1.id.toArray⟩, .string ⟨r.item.1.ti.toArray⟩, .string ⟨r.item.1.li.toArray⟩]) ∧ QrAt w' z r.item.2 ∧ Only [z] w w' := by
  obtain ⟨a, ha⟩ : ∃ a, w.heap.size = a := ⟨_, rfl⟩
  obtain ⟨w1, hw1⟩ : ∃ w1, w.alloc (.cells #[.string ⟨#[]⟩, .string ⟨#[]⟩, .string ⟨#[]⟩] 36) = w1 := ⟨_, rfl⟩
  have O1 : Only [] w w1 := hw1 ▸ (Only.refl _ _).alloc _
  have hA1 : Cells w1 a 36 [.string ⟨([] : List UInt8).toArray⟩, .string ⟨([] : List UInt8).toArray⟩, .string ⟨([] : List UInt8).toArray⟩] := hw1 ▸ ha ▸ Cells.new w _ _
  have hzl := h.lt
  have C0 := Lib.hid (qr_text z r w1 (h.only O1 (by simp)))
  obtain ⟨t0, ht0⟩ : ∃ t, r.text.1 = t := ⟨_, rfl⟩
  obtain ⟨t1, ht1⟩ : ∃ t, r.text.2.text.1 = t := ⟨_, rfl⟩
  obtain ⟨t2, ht2⟩ : ∃ t, r.text.2.text.2.text.1 = t := ⟨_, rfl⟩
  have x0 : r.item.1.id = t0 := ht0
  have x1 : r.item.1.ti = t1 := ht1
  have x2 : r.item.1.li = t2 := ht2
  have C1 := Lib.hid (fun w' h => qr_text z r.text.2 w' h)
  have C2 := Lib.hid (fun w' h => qr_text z r.text.2.text.2 w' h)
  rw [x0, x1, x2]
  rw [ht0] at C0
  rw [ht1] at C1
  rw [ht2] at C2
  have HA := Lib.hid hA1
  have HO := Lib.hid O1
  clear x0 x1 x2 ht0 ht1 ht2 h hA1 O1
  go_enter Try.func109, Try.ntmps109
  go_wp2_with fail
  refine C0.out.mono ?_
  rintro e w2 ⟨rfl, hr2, ho2⟩
  have D1 := Lib.hid (C1.out w2 hr2)
  have HA2 := Lib.hid (HA.out.only ho2 (by simp; omega))
  have HO2 := Lib.hid ((HO.out.of0 (S := [z])).tr ho2)
  clear hr2 ho2 C0 C1 HA HO hw1
  go_wp2_with fail
  refine D1.out.mono ?_
  rintro e w3 ⟨rfl, hr3, ho3⟩
  have D2 := Lib.hid (C2.out w3 hr3)
  have HA3 := Lib.hid (HA2.out.only ho3 (by simp; omega))
  have HO3 := Lib.hid (HO2.out.tr ho3)
  clear hr3 ho3 D1 C2 HA2 HO2
  go_wp2_with fail
  refine D2.out.mono ?_
  rintro e w4 ⟨rfl, hr4, ho4⟩
  have HR4 := Lib.hid hr4
  have HA4 := HA3.out.only ho4 (by simp; omega)
  have HO4 := Lib.hid (HO3.out.tr ho4)
  have hone : (#[.string ⟨t0.toArray⟩, .string ⟨t1.toArray⟩, .string ⟨t2.toArray⟩] : Array Value).all (·.oneCell') = true := by simp [Value.oneCell']
  have hst := HA4
  clear hr4 ho4 D2 HA3 HO3
  go_wp2_with (refine wpList_store_row rfl 36 _ _ rfl a #[.string ⟨t0.toArray⟩, .string ⟨t1.toArray⟩, .string ⟨t2.toArray⟩] rfl rfl 36 _ hst (by kernel_rfl) rfl hone ?_)
  (try simp only [Exit.inBlock, Exit.then])
  refine bodyPost_ret (v := .agg #[.string ⟨t0.toArray⟩, .string ⟨t1.toArray⟩, .string ⟨t2.toArray⟩]) ?_ rfl ⟨rfl, ⟨HR4.out.1.farRow (by omega) _, HR4.out.2⟩, HO4.out.setRow (.inr (by omega)) _⟩
  exact results_row Try.results109 _ _ a 36 [.string ⟨t0.toArray⟩, .string ⟨t1.toArray⟩, .string ⟨t2.toArray⟩] _ rfl (Cells.setRow HA4 [.string ⟨t0.toArray⟩, .string ⟨t1.toArray⟩, .string ⟨t2.toArray⟩]) Try.underlying36 rfl (by kernel_rfl)
set_option maxRecDepth 100000 in
set_option maxHeartbeats 8000000 in
theorem ref18_unpack (s : List UInt8) (w : World) (hl0 : s.length ≤ 1000000) :
    Calls Try.prog 80 #[.string ⟨s.toArray⟩] w (UnCW s w) := by
  have hl : s.length ≤ 1000000000000 := by omega
  obtain ⟨i0, hi0, hz0, hz1, hz2⟩ := info_parts info_item
  obtain ⟨w1, hw1⟩ : ∃ w1, w.alloc (.cells #[.int .i64 0, .int .i64 0, .int .i64 0, .int .i64 0, .int .i64 0, .int .i64 0, .int .i64 0, .string ⟨#[]⟩, .string ⟨#[]⟩, .slice none 0 0, .bool false] 65) = w1 := ⟨_, rfl⟩
  obtain ⟨w2, hw2⟩ : ∃ w2, w1.alloc (.cells #[.string ⟨s.toArray⟩, .bool true] 152) = w2 := ⟨_, rfl⟩
  obtain ⟨w3, hw3⟩ : ∃ w3, w2.alloc (.cells #[.int .i64 0, .int .i64 0, .int .i64 0, .int .i64 0, .int .i64 0, .int .i64 0, .int .i64 0] 153) = w3 := ⟨_, rfl⟩
  obtain ⟨R, hR⟩ : ∃ R, w.heap.size = R := ⟨_, rfl⟩
  obtain ⟨z, hz⟩ : ∃ R, w1.heap.size = R := ⟨_, rfl⟩
  obtain ⟨v, hv⟩ : ∃ R, w2.heap.size = R := ⟨_, rfl⟩
  have O1 : Only [] w w1 := hw1 ▸ (Only.refl _ _).alloc _
  have O2 : Only [] w1 w2 := hw2 ▸ (Only.refl _ _).alloc _
  have O3 : Only [] w2 w3 := hw3 ▸ (Only.refl _ _).alloc _
  have a1 : Cells w1 R 65 [.int .i64 0, .int .i64 0, .int .i64 0, .int .i64 0, .int .i64 0, .int .i64 0, .int .i64 0, .string ⟨([] : List UInt8).toArray⟩, .string ⟨([] : List UInt8).toArray⟩, .slice none 0 0, .bool false] := hw1 ▸ hR ▸ Cells.new w _ _
  have a2 : Cells w2 z 152 [.string ⟨s.toArray⟩, .bool true] := hw2 ▸ hz ▸ Cells.new w1 _ _
  have a3 : Cells w3 v 153 (List.replicate 7 (.int .i64 0)) := hw3 ▸ hv ▸ Cells.new w2 _ _
  have hRz : R < z := by have := a1.lt; omega
  have hzv : z < v := by have := a2.lt; omega
  have HB : Hid (Cells w3 R 65 [.int .i64 0, .int .i64 0, .int .i64 0, .int .i64 0, .int .i64 0, .int .i64 0, .int .i64 0, .string ⟨([] : List UInt8).toArray⟩, .string ⟨([] : List UInt8).toArray⟩, .slice none 0 0, .bool false]) := Lib.hid ((a1.only O2 (by simp)).only O3 (by simp))
  have HR3 : Hid (QrAt w3 z (Rd.after ⟨s, false⟩ 0)) := Lib.hid ⟨a2.only O3 (by simp), hl⟩
  have HV3 : Hid (Cells w3 v 153 ([] ++ (gvs (Rd.ints ⟨s, false⟩ 0) ++ ((List.replicate 7 (Value.int .i64 0)).drop 0 ++ [])))) := Lib.hid (by rw [List.append_nil]; exact a3)
  have HO3 := Lib.hid ((O1.tr O2).tr O3)
  have HC7 : Hid (Rd.after ⟨s, false⟩ 7 = c7 s) := Lib.hid rfl
  have hwR : w.heap.size = R := hR
  clear a1 a2 a3 O1 O2 O3
  go_enter Try.func80, Try.ntmps80
  go_wp2_with fail
  clear hw1 hw2 hw3 hR hz hv
  go_loopw [6] (fun i wr => ∃ k : Nat, k ≤ 7 ∧ i = .int .i64 k ∧ Hid (QrAt wr z (Rd.after ⟨s, false⟩ k)) ∧ Hid (Cells wr v 153 ([] ++ (gvs (Rd.ints ⟨s, false⟩ k) ++ ((List.replicate 7 (Value.int .i64 0)).drop k ++ [])))) ∧ Hid (Cells wr R 65 [.int .i64 0, .int .i64 0, .int .i64 0, .int .i64 0, .int .i64 0, .int .i64 0, .int .i64 0, .string ⟨([] : List UInt8).toArray⟩, .string ⟨([] : List UInt8).toArray⟩, .slice none 0 0, .bool false]) ∧ Hid (Only [] w wr)) (fun i _ => 7 - (intOf i).toNat)
  case atStart => exact ⟨0, by omega, rfl, HR3, HV3, HB, HO3⟩
  case round =>
    obtain ⟨k, hk, rfl, hr, hc, hb, ho⟩ := hrel
    by_cases hlt : k < 7
    · have hlt' : (k : Int) < 7 := by omega
      have CT := Lib.hid (qr_int z (Rd.after ⟨s, false⟩ k) wr hr.out)
      have vl0 := hc.out.lt
      go_wp2_with fail
      refine CT.out.mono ?_
      rintro e w4 ⟨rfl, hr4, ho4⟩
      have hc4 := hc.out.only ho4 (by simp; omega)
      have hb4 := hb.out.only ho4 (by simp; omega)
      have hlen : k < (([] : List Value) ++ (gvs (Rd.ints ⟨s, false⟩ k) ++ ((List.replicate 7 (Value.int .i64 0)).drop k ++ []))).length := by
        simp [gvs_length, Rd.ints_length] <;> omega
      obtain ⟨u0, d0⟩ : ∃ u, w4.cell? ⟨v, k, none⟩ = some u := ⟨_, hc4.cell (List.getElem?_eq_getElem hlen)⟩
      have f0 := hc4.frozen k
      have hcl := hc4.lt
      have hset := put_nth ⟨s, false⟩ [] (List.replicate 7 (Value.int .i64 0)) [] k (by simp; omega)
      rw [show (([] : List Value).length + k) = k from by simp] at hset
      have HC5 := Lib.hid (hset ▸ hc4.set k (.int .i64 (Rd.nth ⟨s, false⟩ k)))
      have HR5 : Hid (QrAt (w4.setCell ⟨v, k, none⟩ (.int .i64 (Rd.nth ⟨s, false⟩ k))) z (Rd.after ⟨s, false⟩ (k + 1))) := Lib.hid ⟨hr4.1.far (p := ⟨v, k, none⟩) (by show z ≠ v; omega) _, hr4.2⟩
      have HB5 := Lib.hid (hb4.far (p := ⟨v, k, none⟩) (by show R ≠ v; omega) (.int .i64 (Rd.nth ⟨s, false⟩ k)))
      have HO5 := Lib.hid ((ho.out.trans ho4 (by intro q hq; simp at hq; exact .inr (by omega))).setCell (p := ⟨v, k, none⟩) (.inr (by show w.heap.size ≤ v; omega)) (.int .i64 (Rd.nth ⟨s, false⟩ k)))
      have HNT : Hid ((Rd.after ⟨s, false⟩ k).int.1 = Rd.nth ⟨s, false⟩ k) := Lib.hid rfl
      rw [HNT.out]
      clear hr4 ho4 hc4 hb4 hset CT hr hc hb ho hlen
      go_wp2_with fail
      go_roundw
      case rel => exact ⟨k + 1, by omega, by go_num, HR5, HC5, HB5, HO5⟩
      case measure => simp [intOf]; omega
    · obtain rfl : k = 7 := by omega
      rw [HC7.out] at hr
      obtain ⟨n0, n1, n2, n3, n4, n5, n6, hn⟩ : ∃ n0 n1 n2 n3 n4 n5 n6, Rd.ints ⟨s, false⟩ 7 = [n0, n1, n2, n3, n4, n5, n6] := ⟨_, _, _, _, _, _, _, ints7 _⟩
      have HN := Lib.hid hn
      rw [hn] at hc
      have HVa : Cells wr v 153 [.int .i64 n0, .int .i64 n1, .int .i64 n2, .int .i64 n3, .int .i64 n4, .int .i64 n5, .int .i64 n6] := hc.out
      have v0 := HVa.cell (k := 0) rfl
      have v1 := HVa.cell (k := 1) rfl
      have v2 := HVa.cell (k := 2) rfl
      have v3 := HVa.cell (k := 3) rfl
      have v4 := HVa.cell (k := 4) rfl
      have v5 := HVa.cell (k := 5) rfl
      have v6 := HVa.cell (k := 6) rfl
      obtain ⟨w3b, hw3b⟩ : ∃ w3b, wr.alloc (.cells #[.int .i64 n0, .int .i64 n1, .int .i64 n2, .int .i64 n3, .int .i64 n4, .int .i64 n5, .int .i64 n6, .string ⟨#[]⟩, .string ⟨#[]⟩, .slice none 0 0, .bool false] 65) = w3b := ⟨_, rfl⟩
      obtain ⟨y, hy⟩ : ∃ y, wr.heap.size = y := ⟨_, rfl⟩
      have O3b : Only [] wr w3b := hw3b ▸ (Only.refl _ _).alloc _
      have HCa : Hid (Cells w3b y 65 [.int .i64 n0, .int .i64 n1, .int .i64 n2, .int .i64 n3, .int .i64 n4, .int .i64 n5, .int .i64 n6, .string ⟨([] : List UInt8).toArray⟩, .string ⟨([] : List UInt8).toArray⟩, .slice none 0 0, .bool false]) := Lib.hid (hw3b ▸ hy ▸ Cells.new wr _ _)
      have hb := Lib.hid (hb.out.only O3b (by simp))
      have hzy : z < y := by have := hr.out.lt; omega
      have CT := Lib.hid (qr_text z (c7 s) w3b (hr.out.only O3b (by simp)))
      have ho := Lib.hid (ho.out.tr O3b)
      clear hn hc hr HC7 HR3 HV3 HB HO3 HVa O3b
      subst hw3b hy
      go_wp2_with fail
      obtain ⟨y, hy⟩ : ∃ y, wr.heap.size = y := ⟨_, rfl⟩
      obtain ⟨w3b, hw3b⟩ : ∃ w3b, wr.alloc (.cells #[.int .i64 n0, .int .i64 n1, .int .i64 n2, .int .i64 n3, .int .i64 n4, .int .i64 n5, .int .i64 n6, .string ⟨#[]⟩, .string ⟨#[]⟩, .slice none 0 0, .bool false] 65) = w3b := ⟨_, rfl⟩
      simp only [hw3b, hy] at HCa hb ho CT hzy ⊢
      refine CT.out.mono ?_
      rintro e w4 ⟨rfl, hr4, ho4⟩
      have hF : (c7 s).text.2 = cF s := rfl
      rw [hF] at hr4
      obtain ⟨F, hF⟩ : ∃ F, (c7 s).text.1 = F := ⟨_, rfl⟩
      rw [hF]
      have HF := Lib.hid hF
      clear hw3b v0 v1 v2 v3 v4 v5 v6
      have hc4 := HCa.out.only ho4 (by simp; omega)
      have hb4 := hb.out.only ho4 (by simp; omega)
      have d7 := hc4.cell (k := 7) rfl
      have f7 := hc4.frozen 7
      have yl := hc4.lt
      have HC5 : Hid (Cells (w4.setCell ⟨y, 7, none⟩ (.string ⟨F.toArray⟩)) y 65 [.int .i64 n0, .int .i64 n1, .int .i64 n2, .int .i64 n3, .int .i64 n4, .int .i64 n5, .int .i64 n6, .string ⟨F.toArray⟩, .string ⟨([] : List UInt8).toArray⟩, .slice none 0 0, .bool false]) := Lib.hid (hc4.set 7 _)
      have hr5 : QrAt (w4.setCell ⟨y, 7, none⟩ (.string ⟨F.toArray⟩)) z (cF s) := ⟨hr4.1.far (p := ⟨y, 7, none⟩) (by show z ≠ y; omega) _, hr4.2⟩
      have HB5 := Lib.hid (hb4.far (p := ⟨y, 7, none⟩) (by show R ≠ y; omega) (.string ⟨F.toArray⟩))
      have HO5 := Lib.hid ((ho.out.trans ho4 (by intro q hq; simp at hq; exact .inr (by omega))).setCell (p := ⟨y, 7, none⟩) (.inr (by show w.heap.size ≤ y; omega)) (.string ⟨F.toArray⟩))
      have CT2 := Lib.hid (qr_text z (cF s) _ hr5)
      clear hF hr4 ho4 hc4 hb4 hr5 CT HCa hb ho
      go_wp2_with fail
      refine CT2.out.mono ?_
      rintro e w6 ⟨rfl, hr6, ho6⟩
      have hG : (cF s).text.2 = cG s := rfl
      rw [hG] at hr6
      obtain ⟨I, hI⟩ : ∃ I, (cF s).text.1 = I := ⟨_, rfl⟩
      rw [hI]
      have HI := Lib.hid hI
      have hc6 := HC5.out.only ho6 (by simp; omega)
      have hb6 := HB5.out.only ho6 (by simp; omega)
      have d8 := hc6.cell (k := 8) rfl
      have f8 := hc6.frozen 8
      have yl6 := hc6.lt
      have HC7 : Hid (Cells (w6.setCell ⟨y, 8, none⟩ (.string ⟨I.toArray⟩)) y 65 [.int .i64 n0, .int .i64 n1, .int .i64 n2, .int .i64 n3, .int .i64 n4, .int .i64 n5, .int .i64 n6, .string ⟨F.toArray⟩, .string ⟨I.toArray⟩, .slice none 0 0, .bool false]) := Lib.hid (hc6.set 8 _)
      have hr7 : QrAt (w6.setCell ⟨y, 8, none⟩ (.string ⟨I.toArray⟩)) z (cG s) := ⟨hr6.1.far (p := ⟨y, 8, none⟩) (by show z ≠ y; omega) _, hr6.2⟩
      have HB7 := Lib.hid (hb6.far (p := ⟨y, 8, none⟩) (by show R ≠ y; omega) (.string ⟨I.toArray⟩))
      have HO7 := Lib.hid ((HO5.out.trans ho6 (by intro q hq; simp at hq; exact .inr (by omega))).setCell (p := ⟨y, 8, none⟩) (.inr (by show w.heap.size ≤ y; omega)) (.string ⟨I.toArray⟩))
      have CM := Lib.hid (qr_int z (cG s) _ hr7)
      clear hG hI hr6 ho6 hc6 hb6 hr7 CT2 HC5 HB5 HO5 d7 f7 yl
      go_wp2_with fail
      refine CM.out.mono ?_
      rintro e w8 ⟨rfl, hr8, ho8⟩
      have hnn : (cG s).int.1 = cN s := rfl
      have hmm : (cG s).int.2 = cM s := rfl
      have hnw : Wide64 (cN s) := hnn ▸ int_wide _
      rw [hmm] at hr8
      rw [hnn]
      obtain ⟨nn, hN⟩ : ∃ n, cN s = n := ⟨_, rfl⟩
      obtain ⟨mq, hM⟩ : ∃ q, cM s = q := ⟨_, rfl⟩
      have HNN := Lib.hid hN
      have HMM := Lib.hid hM
      rw [hN] at hnw ⊢
      rw [hM] at hr8
      have HR8 : Hid (QrAt w8 z (mq.items 0).2) := Lib.hid hr8
      have HC8 := Lib.hid (HC7.out.only ho8 (by simp; omega))
      have HB8 := Lib.hid (HB7.out.only ho8 (by simp; omega))
      have HO8 := Lib.hid (HO7.out.trans ho8 (by intro q hq; simp at hq; exact .inr (by omega)))
      obtain ⟨hw1, hw2⟩ := hnw
      clear hN hM hnn hmm hr8 ho8 CM HC7 HB7 HO7 d8 f8 yl6
      go_wp2_with fail
      go_loopw [9, 10] (fun i _ wr => ∃ (k : Nat) (iv : Value), k ≤ 101 ∧ ((k : Int) ≤ nn ∨ k = 0) ∧ i = .int .i64 k ∧ Hid (QrAt wr z (mq.items k).2) ∧ Hid (Cells wr y 65 [.int .i64 n0, .int .i64 n1, .int .i64 n2, .int .i64 n3, .int .i64 n4, .int .i64 n5, .int .i64 n6, .string ⟨F.toArray⟩, .string ⟨I.toArray⟩, iv, .bool false]) ∧ Hid (wr.ownsRow R 36 3 iv k (itL (mq.items k).1)) ∧ Hid (Cells wr R 65 [.int .i64 0, .int .i64 0, .int .i64 0, .int .i64 0, .int .i64 0, .int .i64 0, .int .i64 0, .string ⟨([] : List UInt8).toArray⟩, .string ⟨([] : List UInt8).toArray⟩, .slice none 0 0, .bool false]) ∧ Hid (Only [] w wr)) (fun i _ _ => 101 - (intOf i).toNat)
      case atStart => exact ⟨0, .slice none 0 0, by omega, .inr rfl, rfl, HR8, HC8, Lib.hid (World.ownsRow_nil _ _ _ _), HB8, HO8⟩
      case round =>
        obtain ⟨k, iv, hk, hkn, rfl, hr, hz, hown, hb, ho⟩ := hrel
        have r1 := hr.out.1.cell (k := 1) rfl
        by_cases hgo : (k : Int) < nn ∧ k ≤ 100 ∧ (mq.items k).2.bad = false
        · obtain ⟨g1, g2, g3⟩ := hgo
          rw [g3] at r1
          replace r1 : wr.cell? ⟨z, 1, none⟩ = some (.bool true) := r1
          have g2' : (k : Int) ≤ 100 := by omega
          obtain ⟨A, cap, rfl⟩ := (SlAt.of_own hown.out).shape
          obtain ⟨x, hx⟩ : ∃ x, (mq.items k).2.item.1 = x := ⟨_, rfl⟩
          have HX := Lib.hid hx
          have CE := Lib.hid (qr_item z (mq.items k).2 wr hr.out)
          rw [hx] at CE
          clear hx g3
          go_wp2_with fail
          refine CE.out.mono ?_
          rintro e w9 ⟨rfl, hr9, ho9⟩
          have hne : (Value.slice A k cap).ownBlock ≠ some z := own_ne_block hown.out hr.out.1 (by decide)
          have hne2 : (Value.slice A k cap).ownBlock ≠ some y := own_ne_block hown.out hz.out (by decide)
          have hne3 : (Value.slice A k cap).ownBlock ≠ some R := own_ne_block hown.out hb.out (by decide)
          obtain ⟨wb, hwb⟩ : ∃ wb, w9.alloc (.cells #[.string ⟨x.id.toArray⟩, .string ⟨x.ti.toArray⟩, .string ⟨x.li.toArray⟩] 36) = wb := ⟨_, rfl⟩
          obtain ⟨bb', hbb⟩ : ∃ b, w9.heap.size = b := ⟨_, rfl⟩
          have ob : Only [] w9 wb := hwb ▸ (Only.refl _ _).alloc _
          have hbx : Cells wb bb' 36 [.string ⟨x.id.toArray⟩, .string ⟨x.ti.toArray⟩, .string ⟨x.li.toArray⟩] := hwb ▸ hbb ▸ Cells.new w9 _ _
          have hwn := (own_keep hown.out ho9 (by simpa using hne))
          have hwn := own_keep hwn ob (by simp)
          have hz9' := hz.out.only ho9 (by simp; omega)
          have hz9 := hz9'.only ob (by simp)
          have z9 := hz9.cell (k := 9) rfl
          have zl := hz9.lt
          have b0 := hbx.cell (k := 0) rfl
          have b1 := hbx.cell (k := 1) rfl
          have b2 := hbx.cell (k := 2) rfl
          have HB9 := Lib.hid ((hb.out.only ho9 (by simp; omega)).only ob (by simp))
          have HR9 : Hid (QrAt wb z (mq.items (k + 1)).2) := Lib.hid (QrAt.only hr9 ob (by simp))
          have HO9 := Lib.hid ((ho.out.trans ho9 (by intro q hq; simp at hq; exact .inr (by omega))).tr ob)
          have hRw : R ≤ wb.heap.size := by have := HO9.out.size; omega
          have HZ9 := Lib.hid hz9
          have hen : itL (mq.items (k + 1)).1 = itL (mq.items k).1 ++ [.string ⟨x.id.toArray⟩, .string ⟨x.ti.toArray⟩, .string ⟨x.li.toArray⟩] := by
            show itL ((mq.items k).1 ++ [(mq.items k).2.item.1]) = _
            rw [HX.out, itL_append]
            rfl
          have HEN := Lib.hid hen
          clear hen hr9 ho9 hr hz hown hb ho CE ob hz9 r1
          clear hbx hz9'
          dsimp only
          go_wp2_with (at_builtin; go_loud (refine wpList_appA rfl _ _ 31 rfl R 36 i0 _ 3 48 Try.underlying31 hi0 hz0 hz1 hz2 rfl (by decide) wb (.slice A k cap) k _ rfl hwn 1 1 [.string ⟨x.id.toArray⟩, .string ⟨x.ti.toArray⟩, .string ⟨x.li.toArray⟩] rfl rfl (by simp [Value.oneCell']) (by simp only [maxLen]; omega) (by omega) hRw ?_); intro v' w10 hown10 hgrow hnew; have hz10 := HZ9.out.grown hgrow hne2; have q9 := hz10.cell (k := 9) rfl; have f9 := hz10.frozen 9; have l9 := hz10.lt; obtain ⟨A', cap', rfl⟩ := (SlAt.of_own hown10).shape)
          have hg9 : (Value.slice A' (k + 1) cap').ownBlock ≠ some y := own_ne_block hown10 hz10 (by decide)
          have hoW : Only [y] w10 (w10.setCell ⟨y, 9, none⟩ (.slice A' (k + 1) cap')) := (Only.refl _ _).setCell (.inl (by simp)) _
          have hown11 := own_keep hown10 hoW (by simpa using hg9)
          rw [← HEN.out] at hown11
          have HOWN := Lib.hid hown11
          have hr10 : QrAt w10 z (mq.items (k + 1)).2 := ⟨HR9.out.1.grown hgrow hne, HR9.out.2⟩
          have HR10 : Hid (QrAt (w10.setCell ⟨y, 9, none⟩ (.slice A' (k + 1) cap')) z (mq.items (k + 1)).2) := Lib.hid (QrAt.only hr10 hoW (by simp; omega))
          have HB10 := Lib.hid ((HB9.out.grown hgrow hne3).only hoW (by simp; omega))
          have HZ10 := Lib.hid (hz10.set 9 (.slice A' (k + 1) cap'))
          have HO10 := Lib.hid ((HO9.out.own hwn hgrow (by omega)).trans hoW (by intro q hq; simp at hq; exact .inr (by omega)))
          clear hown10 hgrow hnew hz10 hr10 hown11 hoW HB9 HR9 HO9 HZ9 hwn HEN
          go_wp2_with fail
          go_roundw
          case rel => exact ⟨k + 1, .slice A' (k + 1) cap', by omega, .inl (by omega), by go_num, HR10, HZ10, HOWN, HB10, HO10⟩
          case measure => simp [intOf]; omega
        · obtain ⟨A, cap, rfl⟩ := (SlAt.of_own hown.out).shape
          have hex : ¬ ((k : Int) < cN s ∧ k ≤ 100 ∧ (cI s k).2.bad = false) := by
            unfold cI
            rw [HNN.out, HMM.out]
            exact hgo
          have HU0 := Lib.hid (unC_loop s hl k (by rw [HNN.out]; exact hkn) hex)
          obtain ⟨its, hits⟩ : ∃ its, (mq.items k).1 = its := ⟨_, rfl⟩
          obtain ⟨rI, hrI⟩ : ∃ r, (mq.items k).2 = r := ⟨_, rfl⟩
          rw [hrI] at hr r1 hgo
          have hitl : its.length = k := by rw [← hits]; exact items_length mq k
          rw [hits] at hown
          have hlc7 : (c7 s).s.length ≤ 1000000 := by unfold c7; exact after_len (r := ⟨s, false⟩) hl0 7
          have hlF : (cF s).s.length ≤ 1000000 := by unfold cF; exact text_len hlc7
          have hlG : (cG s).s.length ≤ 1000000 := by unfold cG; exact text_len hlF
          have hlM : mq.s.length ≤ 1000000 := by rw [← HMM.out]; unfold cM; exact int_len hlG
          have HOK : Hid (∀ x ∈ its, x.Sm) := Lib.hid (by rw [← hits]; exact items_all (fun q hq => item_sm hq) hlM k)
          have hFl : F.length ≤ 1000000 := by rw [← HF.out]; exact text_short hlc7
          have hIl : I.length ≤ 1000000 := by rw [← HI.out]; exact text_short hlF
          have hcI : cI s k = (its, rI) := by unfold cI; rw [HMM.out, ← hits, ← hrI]
          obtain ⟨⟨fl, re⟩, hre⟩ : ∃ p, rI.bool = p := ⟨_, rfl⟩
          have hcE : cE s k = re := by unfold cE; rw [hcI]; dsimp only; rw [hre]
          have g := fun j (hj : j < 7) => nth_of (k := 7) HN.out j hj
          have g0 := g 0 (by omega); have g1 := g 1 (by omega); have g2 := g 2 (by omega); have g3 := g 3 (by omega); have g4 := g 4 (by omega); have g5 := g 5 (by omega); have g6 := g 6 (by omega)
          simp only [List.getElem?_cons_zero, List.getElem?_cons_succ, Option.some.injEq] at g0 g1 g2 g3 g4 g5 g6
          have hcC : cC s k = ⟨n0, n1, n2, n3, n4, n5, n6, F, I, its, fl⟩ := by
            unfold cC
            rw [g0, g1, g2, g3, g4, g5, g6, hcI, HF.out, HI.out]
            dsimp only
            rw [hre]
          have HU : Hid (unC s = if re.bad = false ∧ 0 ≤ nn ∧ rightB ⟨n0, n1, n2, n3, n4, n5, n6, F, I, its, fl⟩ = true ∧ cmdb ⟨n0, n1, n2, n3, n4, n5, n6, F, I, its, fl⟩ = s then some ⟨n0, n1, n2, n3, n4, n5, n6, F, I, its, fl⟩ else none) := Lib.hid (by
            have := HU0.out
            rw [hcE, hcC, HNN.out] at this
            exact this)
          have CB := Lib.hid (qr_bool z rI wr hr.out)
          have HNW : Hid (∀ x ∈ [n0, n1, n2, n3, n4, n5, n6], Wide64 x) := Lib.hid (by rw [← HN.out]; exact ints_wide _ 7)
          rw [hre] at CB
          dsimp only at CB
          have hex2 : decide ((k : Int) < nn) = false ∨ (decide ((k : Int) < nn) = true ∧ decide ((k : Int) ≤ 100) = false) ∨ (decide ((k : Int) < nn) = true ∧ decide ((k : Int) ≤ 100) = true ∧ rI.bad = true) := by
            by_cases e1 : (k : Int) < nn
            · by_cases e2 : k ≤ 100
              · refine .inr (.inr ⟨by simpa using e1, by simp; omega, ?_⟩)
                cases hb : rI.bad with
                | true => rfl
                | false => exact absurd ⟨e1, e2, hb⟩ hgo
              · exact .inr (.inl ⟨by simpa using e1, by simp; omega⟩)
            · exact .inl (by simpa using e1)
          clear hgo hex HU0 hits hrI hlc7 hlF hlG hlM hcI hre hcE g g0 g1 g2 g3 g4 g5 g6 hcC HN HF HI HMM HNN HR8 HC8 HB8 HO8
          have hex3 : ¬ (k : Int) < nn ∨ ((k : Int) < nn ∧ ¬ (k : Int) ≤ 100) ∨ ((k : Int) < nn ∧ (k : Int) ≤ 100 ∧ rI.bad = true) := by
            rcases hex2 with e1 | ⟨e1, e2⟩ | ⟨e1, e2, e3⟩
            · exact .inl (by simpa using e1)
            · exact .inr (.inl ⟨by simpa using e1, by simpa using e2⟩)
            · exact .inr (.inr ⟨by simpa using e1, by simpa using e2, e3⟩)
          have hkm : k ≤ 1000 := by omega
          refine hideM (fun M' => ?_)
          clear hex2
          rcases hex3 with e1 | ⟨e1, e2⟩ | ⟨e1, e2, e3⟩
          rotate_left 2
          · rw [e3] at r1
            replace r1 : wr.cell? ⟨z, 1, none⟩ = some (.bool false) := r1
            clear e3
            go_wp2_with fail
            refine CB.out.mono ?_
            rintro e w11 ⟨rfl, hr11, ho11⟩
            dsimp only
            (try clear e2)
            clear e1
            (try clear r1)
            have hne : (Value.slice A k cap).ownBlock ≠ some z := own_ne_block hown.out hr.out.1 (by decide)
            have hne2 : (Value.slice A k cap).ownBlock ≠ some y := own_ne_block hown.out hz.out (by decide)
            have hown11 := own_keep hown.out ho11 (by simpa using hne)
            have hc11 := hz.out.only ho11 (by simp; omega)
            have hb11 := hb.out.only ho11 (by simp; omega)
            have d10 := hc11.cell (k := 10) rfl
            have f10 := hc11.frozen 10
            have yl11 := hc11.lt
            have hoW : Only [y] w11 (w11.setCell ⟨y, 10, none⟩ (.bool fl)) := (Only.refl _ _).setCell (.inl (by simp)) _
            have HCf : Hid (Cells (w11.setCell ⟨y, 10, none⟩ (.bool fl)) y 65 [.int .i64 n0, .int .i64 n1, .int .i64 n2, .int .i64 n3, .int .i64 n4, .int .i64 n5, .int .i64 n6, .string ⟨F.toArray⟩, .string ⟨I.toArray⟩, .slice A k cap, .bool fl]) := Lib.hid (hc11.set 10 _)
            have HRf : Hid (QrAt (w11.setCell ⟨y, 10, none⟩ (.bool fl)) z re) := Lib.hid ⟨hr11.1.only hoW (by simp; omega), hr11.2⟩
            have HBf := Lib.hid (hb11.only hoW (by simp; omega))
            have HOf := Lib.hid ((ho.out.trans ho11 (by intro q hq; simp at hq; exact .inr (by omega))).trans hoW (by intro q hq; simp at hq; exact .inr (by omega)))
            have HWf := Lib.hid (own_keep hown11 hoW (by simpa using hne2))
            have hRf : R ≤ (w11.setCell ⟨y, 10, none⟩ (.bool fl)).heap.size := by have := HOf.out.size; omega
            obtain ⟨wf, hwf⟩ : ∃ wf, w11.setCell ⟨y, 10, none⟩ (.bool fl) = wf := ⟨_, rfl⟩
            rw [hwf] at HCf HRf HBf HOf HWf hRf
            have hsm : Cm.Sm ⟨n0, n1, n2, n3, n4, n5, n6, F, I, its, fl⟩ := ⟨hFl, hIl, by dsimp only; omega, HOK.out⟩
            have hat : CmAt wf (.slice A k cap) ⟨n0, n1, n2, n3, n4, n5, n6, F, I, its, fl⟩ := by
              refine ⟨?_, fun x hx => (HOK.out x hx).ok.len, ?_, ?_, HNW.out⟩
              · have := SlAt.of_own HWf.out
                rw [← hitl] at this ⊢
                exact this
              · unfold maxLen; dsimp only; omega
              · unfold maxLen; dsimp only; omega
            have CR := Lib.hid (ref18_right ⟨n0, n1, n2, n3, n4, n5, n6, F, I, its, fl⟩ (.slice A k cap) wf hat hsm)
            have HAT := Lib.hid hat
            have HSM := Lib.hid hsm
            unfold Cm.val at CR
            dsimp only at CR
            have g0 := HCf.out.cell (k := 0) rfl
            have g1 := HCf.out.cell (k := 1) rfl
            have g2 := HCf.out.cell (k := 2) rfl
            have g3 := HCf.out.cell (k := 3) rfl
            have g4 := HCf.out.cell (k := 4) rfl
            have g5 := HCf.out.cell (k := 5) rfl
            have g6 := HCf.out.cell (k := 6) rfl
            have g7 := HCf.out.cell (k := 7) rfl
            have g8 := HCf.out.cell (k := 8) rfl
            have g9 := HCf.out.cell (k := 9) rfl
            have g10 := HCf.out.cell (k := 10) rfl
            clear hr11 ho11 hown11 hc11 hb11 hoW CB hr hz hown hb ho hne hne2 hat hsm
            obtain ⟨q, hq⟩ : ∃ q, rightB ⟨n0, n1, n2, n3, n4, n5, n6, F, I, its, fl⟩ = q := ⟨_, rfl⟩
            rw [hq] at CR
            have HQ := Lib.hid hq
            clear hq
            go_wp2_with fail
            refine CR.out.mono ?_
            rintro e w12 ⟨rfl, ho12⟩
            dsimp only
            have HCg := Lib.hid (HCf.out.only ho12 (by simp))
            have HBg := Lib.hid (HBf.out.only ho12 (by simp))
            have HRg := Lib.hid (HRf.out.only ho12 (by simp))
            have HOg := Lib.hid (HOf.out.tr ho12)
            have HATg := Lib.hid (HAT.out.only ho12)
            have HWg := Lib.hid (own_keep HWf.out ho12 (by simp))
            clear ho12 CR g0 g1 g2 g3 g4 g5 g6 g7 g8 g9 g10 HCf HBf HOf HAT HRf HWf hwf d10 f10 yl11
            have HBf := HBg
            have HOf := HOg
            have r0 := HRg.out.1.cell (k := 0) rfl
            have r1 := HRg.out.1.cell (k := 1) rfl
            cases hbad : re.bad with
            | true =>
              have HU : Hid (unC s = none) := Lib.hid (by rw [HU.out, if_neg (by rw [hbad]; simp)])
              rw [hbad] at r1
              replace r1 : w12.cell? ⟨z, 1, none⟩ = some (.bool false) := r1
              clear hbad
              have hst := HBf.out
              have hone : (#[.int .i64 0, .int .i64 0, .int .i64 0, .int .i64 0, .int .i64 0, .int .i64 0, .int .i64 0, .string ⟨([] : List UInt8).toArray⟩, .string ⟨([] : List UInt8).toArray⟩, .slice none 0 0, .bool false] : Array Value).all (·.oneCell') = true := by simp [Value.oneCell']
              go_wp2_with (refine wpList_store_row rfl 65 _ _ rfl R #[.int .i64 0, .int .i64 0, .int .i64 0, .int .i64 0, .int .i64 0, .int .i64 0, .int .i64 0, .string ⟨([] : List UInt8).toArray⟩, .string ⟨([] : List UInt8).toArray⟩, .slice none 0 0, .bool false] rfl rfl 65 _ hst (by kernel_rfl) rfl hone ?_)
              (try simp only [Exit.inBlock, Exit.then])
              refine bodyPost_ret (v := .tuple #[.agg #[.int .i64 0, .int .i64 0, .int .i64 0, .int .i64 0, .int .i64 0, .int .i64 0, .int .i64 0, .string ⟨([] : List UInt8).toArray⟩, .string ⟨([] : List UInt8).toArray⟩, .slice none 0 0, .bool false], .int .i64 8]) ?_ rfl ⟨.slice none 0 0, by rw [HU.out]; rfl, by rw [HU.out]; exact cm_zero_at _, HOf.out.setRow (.inr (by omega)) _⟩
              exact results_row_tmp Try.results80 _ _ R 65 [.int .i64 0, .int .i64 0, .int .i64 0, .int .i64 0, .int .i64 0, .int .i64 0, .int .i64 0, .string ⟨([] : List UInt8).toArray⟩, .string ⟨([] : List UInt8).toArray⟩, .slice none 0 0, .bool false] _ rfl (Cells.setRow HBf.out [.int .i64 0, .int .i64 0, .int .i64 0, .int .i64 0, .int .i64 0, .int .i64 0, .int .i64 0, .string ⟨([] : List UInt8).toArray⟩, .string ⟨([] : List UInt8).toArray⟩, .slice none 0 0, .bool false]) Try.underlying65 rfl (by kernel_rfl)
            | false =>
              rw [hbad] at r1
              replace r1 : w12.cell? ⟨z, 1, none⟩ = some (.bool true) := r1
              by_cases h0 : nn < 0
              · have HU : Hid (unC s = none) := Lib.hid (by rw [HU.out, if_neg (by rintro ⟨_, h, _⟩; omega)])
                clear hbad
                have hst := HBf.out
                have hone : (#[.int .i64 0, .int .i64 0, .int .i64 0, .int .i64 0, .int .i64 0, .int .i64 0, .int .i64 0, .string ⟨([] : List UInt8).toArray⟩, .string ⟨([] : List UInt8).toArray⟩, .slice none 0 0, .bool false] : Array Value).all (·.oneCell') = true := by simp [Value.oneCell']
                go_wp2_with (refine wpList_store_row rfl 65 _ _ rfl R #[.int .i64 0, .int .i64 0, .int .i64 0, .int .i64 0, .int .i64 0, .int .i64 0, .int .i64 0, .string ⟨([] : List UInt8).toArray⟩, .string ⟨([] : List UInt8).toArray⟩, .slice none 0 0, .bool false] rfl rfl 65 _ hst (by kernel_rfl) rfl hone ?_)
                (try simp only [Exit.inBlock, Exit.then])
                refine bodyPost_ret (v := .tuple #[.agg #[.int .i64 0, .int .i64 0, .int .i64 0, .int .i64 0, .int .i64 0, .int .i64 0, .int .i64 0, .string ⟨([] : List UInt8).toArray⟩, .string ⟨([] : List UInt8).toArray⟩, .slice none 0 0, .bool false], .int .i64 8]) ?_ rfl ⟨.slice none 0 0, by rw [HU.out]; rfl, by rw [HU.out]; exact cm_zero_at _, HOf.out.setRow (.inr (by omega)) _⟩
                exact results_row_tmp Try.results80 _ _ R 65 [.int .i64 0, .int .i64 0, .int .i64 0, .int .i64 0, .int .i64 0, .int .i64 0, .int .i64 0, .string ⟨([] : List UInt8).toArray⟩, .string ⟨([] : List UInt8).toArray⟩, .slice none 0 0, .bool false] _ rfl (Cells.setRow HBf.out [.int .i64 0, .int .i64 0, .int .i64 0, .int .i64 0, .int .i64 0, .int .i64 0, .int .i64 0, .string ⟨([] : List UInt8).toArray⟩, .string ⟨([] : List UInt8).toArray⟩, .slice none 0 0, .bool false]) Try.underlying65 rfl (by kernel_rfl)
              · cases q with
                | false =>
                  have HU : Hid (unC s = none) := Lib.hid (by rw [HU.out, if_neg (by rw [HQ.out]; simp)])
                  clear hbad
                  have hst := HBf.out
                  have hone : (#[.int .i64 0, .int .i64 0, .int .i64 0, .int .i64 0, .int .i64 0, .int .i64 0, .int .i64 0, .string ⟨([] : List UInt8).toArray⟩, .string ⟨([] : List UInt8).toArray⟩, .slice none 0 0, .bool false] : Array Value).all (·.oneCell') = true := by simp [Value.oneCell']
                  go_wp2_with (refine wpList_store_row rfl 65 _ _ rfl R #[.int .i64 0, .int .i64 0, .int .i64 0, .int .i64 0, .int .i64 0, .int .i64 0, .int .i64 0, .string ⟨([] : List UInt8).toArray⟩, .string ⟨([] : List UInt8).toArray⟩, .slice none 0 0, .bool false] rfl rfl 65 _ hst (by kernel_rfl) rfl hone ?_)
                  (try simp only [Exit.inBlock, Exit.then])
                  refine bodyPost_ret (v := .tuple #[.agg #[.int .i64 0, .int .i64 0, .int .i64 0, .int .i64 0, .int .i64 0, .int .i64 0, .int .i64 0, .string ⟨([] : List UInt8).toArray⟩, .string ⟨([] : List UInt8).toArray⟩, .slice none 0 0, .bool false], .int .i64 8]) ?_ rfl ⟨.slice none 0 0, by rw [HU.out]; rfl, by rw [HU.out]; exact cm_zero_at _, HOf.out.setRow (.inr (by omega)) _⟩
                  exact results_row_tmp Try.results80 _ _ R 65 [.int .i64 0, .int .i64 0, .int .i64 0, .int .i64 0, .int .i64 0, .int .i64 0, .int .i64 0, .string ⟨([] : List UInt8).toArray⟩, .string ⟨([] : List UInt8).toArray⟩, .slice none 0 0, .bool false] _ rfl (Cells.setRow HBf.out [.int .i64 0, .int .i64 0, .int .i64 0, .int .i64 0, .int .i64 0, .int .i64 0, .int .i64 0, .string ⟨([] : List UInt8).toArray⟩, .string ⟨([] : List UInt8).toArray⟩, .slice none 0 0, .bool false]) Try.underlying65 rfl (by kernel_rfl)
                | true =>
                  have CY := Lib.hid (ref18_bytes ⟨n0, n1, n2, n3, n4, n5, n6, F, I, its, fl⟩ (.slice A k cap) w12 HATg.out HSM.out)
                  unfold Cm.val at CY
                  dsimp only at CY
                  have g0 := HCg.out.cell (k := 0) rfl
                  have g1 := HCg.out.cell (k := 1) rfl
                  have g2 := HCg.out.cell (k := 2) rfl
                  have g3 := HCg.out.cell (k := 3) rfl
                  have g4 := HCg.out.cell (k := 4) rfl
                  have g5 := HCg.out.cell (k := 5) rfl
                  have g6 := HCg.out.cell (k := 6) rfl
                  have g7 := HCg.out.cell (k := 7) rfl
                  have g8 := HCg.out.cell (k := 8) rfl
                  have g9 := HCg.out.cell (k := 9) rfl
                  have g10 := HCg.out.cell (k := 10) rfl
                  obtain ⟨B, hB⟩ : ∃ B, cmdb ⟨n0, n1, n2, n3, n4, n5, n6, F, I, its, fl⟩ = B := ⟨_, rfl⟩
                  rw [hB] at CY
                  have HBB := Lib.hid hB
                  have HBD := Lib.hid hbad
                  clear hB hbad
                  go_wp2_with fail
                  refine CY.out.mono ?_
                  rintro e w13 ⟨rfl, ho13⟩
                  dsimp only
                  have HCh := Lib.hid (HCg.out.only ho13 (by simp))
                  have HBh := Lib.hid (HBg.out.only ho13 (by simp))
                  have HOh := Lib.hid (HOg.out.tr ho13)
                  have HATh := Lib.hid (HATg.out.only ho13)
                  have HWh := Lib.hid (own_keep HWg.out ho13 (by simp))
                  clear ho13 CY g0 g1 g2 g3 g4 g5 g6 g7 g8 g9 g10 HCg HBg HOg HATg HWg HBf HOf r1 HRg
                  by_cases hBs : B = s
                  · have HU : Hid (unC s = some ⟨n0, n1, n2, n3, n4, n5, n6, F, I, its, fl⟩) := Lib.hid (by rw [HU.out, if_pos ⟨HBD.out, by omega, HQ.out, HBB.out.trans hBs⟩])
                    have hBe : (!(B == s)) = false := by simp [hBs]
                    have hoR : Only [R] w13 (w13.setRow R #[.int .i64 n0, .int .i64 n1, .int .i64 n2, .int .i64 n3, .int .i64 n4, .int .i64 n5, .int .i64 n6, .string ⟨F.toArray⟩, .string ⟨I.toArray⟩, .slice A k cap, .bool fl]) := (Only.refl _ _).setRow (.inl (by simp)) _
                    have HATR : Hid (CmAt (w13.setRow R #[.int .i64 n0, .int .i64 n1, .int .i64 n2, .int .i64 n3, .int .i64 n4, .int .i64 n5, .int .i64 n6, .string ⟨F.toArray⟩, .string ⟨I.toArray⟩, .slice A k cap, .bool fl]) (.slice A k cap) ⟨n0, n1, n2, n3, n4, n5, n6, F, I, its, fl⟩) := Lib.hid (by
                      refine ⟨?_, HATh.out.len, HATh.out.fd, HATh.out.id, HATh.out.nums⟩
                      have hnR : (Value.slice A k cap).ownBlock ≠ some R := own_ne_block HWh.out HBh.out (by decide)
                      have hsz := HOh.out.size
                      have := SlAt.of_own (own_keep HWh.out hoR (by simpa using hnR))
                      rw [← hitl] at this ⊢
                      refine this.more ?_
                      have := hoR.size
                      omega)
                    clear hoR hBs
                    have g0 := HCh.out.cell (k := 0) rfl
                    have g1 := HCh.out.cell (k := 1) rfl
                    have g2 := HCh.out.cell (k := 2) rfl
                    have g3 := HCh.out.cell (k := 3) rfl
                    have g4 := HCh.out.cell (k := 4) rfl
                    have g5 := HCh.out.cell (k := 5) rfl
                    have g6 := HCh.out.cell (k := 6) rfl
                    have g7 := HCh.out.cell (k := 7) rfl
                    have g8 := HCh.out.cell (k := 8) rfl
                    have g9 := HCh.out.cell (k := 9) rfl
                    have g10 := HCh.out.cell (k := 10) rfl
                    have hst := HBh.out
                    have hone : (#[.int .i64 n0, .int .i64 n1, .int .i64 n2, .int .i64 n3, .int .i64 n4, .int .i64 n5, .int .i64 n6, .string ⟨F.toArray⟩, .string ⟨I.toArray⟩, .slice A k cap, .bool fl] : Array Value).all (·.oneCell') = true := by simp [Value.oneCell']
                    go_wp2_with (refine wpList_store_row rfl 65 _ _ rfl R #[.int .i64 n0, .int .i64 n1, .int .i64 n2, .int .i64 n3, .int .i64 n4, .int .i64 n5, .int .i64 n6, .string ⟨F.toArray⟩, .string ⟨I.toArray⟩, .slice A k cap, .bool fl] rfl rfl 65 _ hst (by kernel_rfl) rfl hone ?_)
                    (try simp only [Exit.inBlock, Exit.then])
                    refine bodyPost_ret (v := .tuple #[.agg #[.int .i64 n0, .int .i64 n1, .int .i64 n2, .int .i64 n3, .int .i64 n4, .int .i64 n5, .int .i64 n6, .string ⟨F.toArray⟩, .string ⟨I.toArray⟩, .slice A k cap, .bool fl], .int .i64 0]) ?_ rfl ⟨.slice A k cap, by rw [HU.out]; rfl, by rw [HU.out]; exact HATR.out, HOh.out.setRow (.inr (by omega)) _⟩
                    exact results_row_tmp Try.results80 _ _ R 65 [.int .i64 n0, .int .i64 n1, .int .i64 n2, .int .i64 n3, .int .i64 n4, .int .i64 n5, .int .i64 n6, .string ⟨F.toArray⟩, .string ⟨I.toArray⟩, .slice A k cap, .bool fl] _ rfl (Cells.setRow HBh.out [.int .i64 n0, .int .i64 n1, .int .i64 n2, .int .i64 n3, .int .i64 n4, .int .i64 n5, .int .i64 n6, .string ⟨F.toArray⟩, .string ⟨I.toArray⟩, .slice A k cap, .bool fl]) Try.underlying65 rfl (by kernel_rfl)
                  · have HU : Hid (unC s = none) := Lib.hid (by rw [HU.out, if_neg (by rintro ⟨_, _, _, h⟩; exact hBs (HBB.out.symm.trans h))])
                    have hBe : (!(B == s)) = true := by simp [hBs]
                    have HBf := HBh
                    have HOf := HOh
                    clear hBs
                    have hst := HBf.out
                    have hone : (#[.int .i64 0, .int .i64 0, .int .i64 0, .int .i64 0, .int .i64 0, .int .i64 0, .int .i64 0, .string ⟨([] : List UInt8).toArray⟩, .string ⟨([] : List UInt8).toArray⟩, .slice none 0 0, .bool false] : Array Value).all (·.oneCell') = true := by simp [Value.oneCell']
                    go_wp2_with (refine wpList_store_row rfl 65 _ _ rfl R #[.int .i64 0, .int .i64 0, .int .i64 0, .int .i64 0, .int .i64 0, .int .i64 0, .int .i64 0, .string ⟨([] : List UInt8).toArray⟩, .string ⟨([] : List UInt8).toArray⟩, .slice none 0 0, .bool false] rfl rfl 65 _ hst (by kernel_rfl) rfl hone ?_)
                    (try simp only [Exit.inBlock, Exit.then])
                    refine bodyPost_ret (v := .tuple #[.agg #[.int .i64 0, .int .i64 0, .int .i64 0, .int .i64 0, .int .i64 0, .int .i64 0, .int .i64 0, .string ⟨([] : List UInt8).toArray⟩, .string ⟨([] : List UInt8).toArray⟩, .slice none 0 0, .bool false], .int .i64 8]) ?_ rfl ⟨.slice none 0 0, by rw [HU.out]; rfl, by rw [HU.out]; exact cm_zero_at _, HOf.out.setRow (.inr (by omega)) _⟩
                    exact results_row_tmp Try.results80 _ _ R 65 [.int .i64 0, .int .i64 0, .int .i64 0, .int .i64 0, .int .i64 0, .int .i64 0, .int .i64 0, .string ⟨([] : List UInt8).toArray⟩, .string ⟨([] : List UInt8).toArray⟩, .slice none 0 0, .bool false] _ rfl (Cells.setRow HBf.out [.int .i64 0, .int .i64 0, .int .i64 0, .int .i64 0, .int .i64 0, .int .i64 0, .int .i64 0, .string ⟨([] : List UInt8).toArray⟩, .string ⟨([] : List UInt8).toArray⟩, .slice none 0 0, .bool false]) Try.underlying65 rfl (by kernel_rfl)
          all_goals
            clear r1
            go_wp2_with fail
            refine CB.out.mono ?_
            rintro e w11 ⟨rfl, hr11, ho11⟩
            dsimp only
            (try clear e2)
            clear e1
            (try clear r1)
            have hne : (Value.slice A k cap).ownBlock ≠ some z := own_ne_block hown.out hr.out.1 (by decide)
            have hne2 : (Value.slice A k cap).ownBlock ≠ some y := own_ne_block hown.out hz.out (by decide)
            have hown11 := own_keep hown.out ho11 (by simpa using hne)
            have hc11 := hz.out.only ho11 (by simp; omega)
            have hb11 := hb.out.only ho11 (by simp; omega)
            have d10 := hc11.cell (k := 10) rfl
            have f10 := hc11.frozen 10
            have yl11 := hc11.lt
            have hoW : Only [y] w11 (w11.setCell ⟨y, 10, none⟩ (.bool fl)) := (Only.refl _ _).setCell (.inl (by simp)) _
            have HCf : Hid (Cells (w11.setCell ⟨y, 10, none⟩ (.bool fl)) y 65 [.int .i64 n0, .int .i64 n1, .int .i64 n2, .int .i64 n3, .int .i64 n4, .int .i64 n5, .int .i64 n6, .string ⟨F.toArray⟩, .string ⟨I.toArray⟩, .slice A k cap, .bool fl]) := Lib.hid (hc11.set 10 _)
            have HRf : Hid (QrAt (w11.setCell ⟨y, 10, none⟩ (.bool fl)) z re) := Lib.hid ⟨hr11.1.only hoW (by simp; omega), hr11.2⟩
            have HBf := Lib.hid (hb11.only hoW (by simp; omega))
            have HOf := Lib.hid ((ho.out.trans ho11 (by intro q hq; simp at hq; exact .inr (by omega))).trans hoW (by intro q hq; simp at hq; exact .inr (by omega)))
            have HWf := Lib.hid (own_keep hown11 hoW (by simpa using hne2))
            have hRf : R ≤ (w11.setCell ⟨y, 10, none⟩ (.bool fl)).heap.size := by have := HOf.out.size; omega
            obtain ⟨wf, hwf⟩ : ∃ wf, w11.setCell ⟨y, 10, none⟩ (.bool fl) = wf := ⟨_, rfl⟩
            rw [hwf] at HCf HRf HBf HOf HWf hRf
            have hsm : Cm.Sm ⟨n0, n1, n2, n3, n4, n5, n6, F, I, its, fl⟩ := ⟨hFl, hIl, by dsimp only; omega, HOK.out⟩
            have hat : CmAt wf (.slice A k cap) ⟨n0, n1, n2, n3, n4, n5, n6, F, I, its, fl⟩ := by
              refine ⟨?_, fun x hx => (HOK.out x hx).ok.len, ?_, ?_, HNW.out⟩
              · have := SlAt.of_own HWf.out
                rw [← hitl] at this ⊢
                exact this
              · unfold maxLen; dsimp only; omega
              · unfold maxLen; dsimp only; omega
            have CR := Lib.hid (ref18_right ⟨n0, n1, n2, n3, n4, n5, n6, F, I, its, fl⟩ (.slice A k cap) wf hat hsm)
            have HAT := Lib.hid hat
            have HSM := Lib.hid hsm
            unfold Cm.val at CR
            dsimp only at CR
            have g0 := HCf.out.cell (k := 0) rfl
            have g1 := HCf.out.cell (k := 1) rfl
            have g2 := HCf.out.cell (k := 2) rfl
            have g3 := HCf.out.cell (k := 3) rfl
            have g4 := HCf.out.cell (k := 4) rfl
            have g5 := HCf.out.cell (k := 5) rfl
            have g6 := HCf.out.cell (k := 6) rfl
            have g7 := HCf.out.cell (k := 7) rfl
            have g8 := HCf.out.cell (k := 8) rfl
            have g9 := HCf.out.cell (k := 9) rfl
            have g10 := HCf.out.cell (k := 10) rfl
            clear hr11 ho11 hown11 hc11 hb11 hoW CB hr hz hown hb ho hne hne2 hat hsm
            obtain ⟨q, hq⟩ : ∃ q, rightB ⟨n0, n1, n2, n3, n4, n5, n6, F, I, its, fl⟩ = q := ⟨_, rfl⟩
            rw [hq] at CR
            have HQ := Lib.hid hq
            clear hq
            go_wp2_with fail
            refine CR.out.mono ?_
            rintro e w12 ⟨rfl, ho12⟩
            dsimp only
            have HCg := Lib.hid (HCf.out.only ho12 (by simp))
            have HBg := Lib.hid (HBf.out.only ho12 (by simp))
            have HRg := Lib.hid (HRf.out.only ho12 (by simp))
            have HOg := Lib.hid (HOf.out.tr ho12)
            have HATg := Lib.hid (HAT.out.only ho12)
            have HWg := Lib.hid (own_keep HWf.out ho12 (by simp))
            clear ho12 CR g0 g1 g2 g3 g4 g5 g6 g7 g8 g9 g10 HCf HBf HOf HAT HRf HWf hwf d10 f10 yl11
            have HBf := HBg
            have HOf := HOg
            have r0 := HRg.out.1.cell (k := 0) rfl
            have r1 := HRg.out.1.cell (k := 1) rfl
            cases hbad : re.bad with
            | true =>
              have HU : Hid (unC s = none) := Lib.hid (by rw [HU.out, if_neg (by rw [hbad]; simp)])
              rw [hbad] at r1
              replace r1 : w12.cell? ⟨z, 1, none⟩ = some (.bool false) := r1
              clear hbad
              have hst := HBf.out
              have hone : (#[.int .i64 0, .int .i64 0, .int .i64 0, .int .i64 0, .int .i64 0, .int .i64 0, .int .i64 0, .string ⟨([] : List UInt8).toArray⟩, .string ⟨([] : List UInt8).toArray⟩, .slice none 0 0, .bool false] : Array Value).all (·.oneCell') = true := by simp [Value.oneCell']
              go_wp2_with (refine wpList_store_row rfl 65 _ _ rfl R #[.int .i64 0, .int .i64 0, .int .i64 0, .int .i64 0, .int .i64 0, .int .i64 0, .int .i64 0, .string ⟨([] : List UInt8).toArray⟩, .string ⟨([] : List UInt8).toArray⟩, .slice none 0 0, .bool false] rfl rfl 65 _ hst (by kernel_rfl) rfl hone ?_)
              (try simp only [Exit.inBlock, Exit.then])
              refine bodyPost_ret (v := .tuple #[.agg #[.int .i64 0, .int .i64 0, .int .i64 0, .int .i64 0, .int .i64 0, .int .i64 0, .int .i64 0, .string ⟨([] : List UInt8).toArray⟩, .string ⟨([] : List UInt8).toArray⟩, .slice none 0 0, .bool false], .int .i64 8]) ?_ rfl ⟨.slice none 0 0, by rw [HU.out]; rfl, by rw [HU.out]; exact cm_zero_at _, HOf.out.setRow (.inr (by omega)) _⟩
              exact results_row_tmp Try.results80 _ _ R 65 [.int .i64 0, .int .i64 0, .int .i64 0, .int .i64 0, .int .i64 0, .int .i64 0, .int .i64 0, .string ⟨([] : List UInt8).toArray⟩, .string ⟨([] : List UInt8).toArray⟩, .slice none 0 0, .bool false] _ rfl (Cells.setRow HBf.out [.int .i64 0, .int .i64 0, .int .i64 0, .int .i64 0, .int .i64 0, .int .i64 0, .int .i64 0, .string ⟨([] : List UInt8).toArray⟩, .string ⟨([] : List UInt8).toArray⟩, .slice none 0 0, .bool false]) Try.underlying65 rfl (by kernel_rfl)
            | false =>
              rw [hbad] at r1
              replace r1 : w12.cell? ⟨z, 1, none⟩ = some (.bool true) := r1
              by_cases h0 : nn < 0
              · have HU : Hid (unC s = none) := Lib.hid (by rw [HU.out, if_neg (by rintro ⟨_, h, _⟩; omega)])
                clear hbad
                have hst := HBf.out
                have hone : (#[.int .i64 0, .int .i64 0, .int .i64 0, .int .i64 0, .int .i64 0, .int .i64 0, .int .i64 0, .string ⟨([] : List UInt8).toArray⟩, .string ⟨([] : List UInt8).toArray⟩, .slice none 0 0, .bool false] : Array Value).all (·.oneCell') = true := by simp [Value.oneCell']
                go_wp2_with (refine wpList_store_row rfl 65 _ _ rfl R #[.int .i64 0, .int .i64 0, .int .i64 0, .int .i64 0, .int .i64 0, .int .i64 0, .int .i64 0, .string ⟨([] : List UInt8).toArray⟩, .string ⟨([] : List UInt8).toArray⟩, .slice none 0 0, .bool false] rfl rfl 65 _ hst (by kernel_rfl) rfl hone ?_)
                (try simp only [Exit.inBlock, Exit.then])
                refine bodyPost_ret (v := .tuple #[.agg #[.int .i64 0, .int .i64 0, .int .i64 0, .int .i64 0, .int .i64 0, .int .i64 0, .int .i64 0, .string ⟨([] : List UInt8).toArray⟩, .string ⟨([] : List UInt8).toArray⟩, .slice none 0 0, .bool false], .int .i64 8]) ?_ rfl ⟨.slice none 0 0, by rw [HU.out]; rfl, by rw [HU.out]; exact cm_zero_at _, HOf.out.setRow (.inr (by omega)) _⟩
                exact results_row_tmp Try.results80 _ _ R 65 [.int .i64 0, .int .i64 0, .int .i64 0, .int .i64 0, .int .i64 0, .int .i64 0, .int .i64 0, .string ⟨([] : List UInt8).toArray⟩, .string ⟨([] : List UInt8).toArray⟩, .slice none 0 0, .bool false] _ rfl (Cells.setRow HBf.out [.int .i64 0, .int .i64 0, .int .i64 0, .int .i64 0, .int .i64 0, .int .i64 0, .int .i64 0, .string ⟨([] : List UInt8).toArray⟩, .string ⟨([] : List UInt8).toArray⟩, .slice none 0 0, .bool false]) Try.underlying65 rfl (by kernel_rfl)
              · cases q with
                | false =>
                  have HU : Hid (unC s = none) := Lib.hid (by rw [HU.out, if_neg (by rw [HQ.out]; simp)])
                  clear hbad
                  have hst := HBf.out
                  have hone : (#[.int .i64 0, .int .i64 0, .int .i64 0, .int .i64 0, .int .i64 0, .int .i64 0, .int .i64 0, .string ⟨([] : List UInt8).toArray⟩, .string ⟨([] : List UInt8).toArray⟩, .slice none 0 0, .bool false] : Array Value).all (·.oneCell') = true := by simp [Value.oneCell']
                  go_wp2_with (refine wpList_store_row rfl 65 _ _ rfl R #[.int .i64 0, .int .i64 0, .int .i64 0, .int .i64 0, .int .i64 0, .int .i64 0, .int .i64 0, .string ⟨([] : List UInt8).toArray⟩, .string ⟨([] : List UInt8).toArray⟩, .slice none 0 0, .bool false] rfl rfl 65 _ hst (by kernel_rfl) rfl hone ?_)
                  (try simp only [Exit.inBlock, Exit.then])
                  refine bodyPost_ret (v := .tuple #[.agg #[.int .i64 0, .int .i64 0, .int .i64 0, .int .i64 0, .int .i64 0, .int .i64 0, .int .i64 0, .string ⟨([] : List UInt8).toArray⟩, .string ⟨([] : List UInt8).toArray⟩, .slice none 0 0, .bool false], .int .i64 8]) ?_ rfl ⟨.slice none 0 0, by rw [HU.out]; rfl, by rw [HU.out]; exact cm_zero_at _, HOf.out.setRow (.inr (by omega)) _⟩
                  exact results_row_tmp Try.results80 _ _ R 65 [.int .i64 0, .int .i64 0, .int .i64 0, .int .i64 0, .int .i64 0, .int .i64 0, .int .i64 0, .string ⟨([] : List UInt8).toArray⟩, .string ⟨([] : List UInt8).toArray⟩, .slice none 0 0, .bool false] _ rfl (Cells.setRow HBf.out [.int .i64 0, .int .i64 0, .int .i64 0, .int .i64 0, .int .i64 0, .int .i64 0, .int .i64 0, .string ⟨([] : List UInt8).toArray⟩, .string ⟨([] : List UInt8).toArray⟩, .slice none 0 0, .bool false]) Try.underlying65 rfl (by kernel_rfl)
                | true =>
                  have CY := Lib.hid (ref18_bytes ⟨n0, n1, n2, n3, n4, n5, n6, F, I, its, fl⟩ (.slice A k cap) w12 HATg.out HSM.out)
                  unfold Cm.val at CY
                  dsimp only at CY
                  have g0 := HCg.out.cell (k := 0) rfl
                  have g1 := HCg.out.cell (k := 1) rfl
                  have g2 := HCg.out.cell (k := 2) rfl
                  have g3 := HCg.out.cell (k := 3) rfl
                  have g4 := HCg.out.cell (k := 4) rfl
                  have g5 := HCg.out.cell (k := 5) rfl
                  have g6 := HCg.out.cell (k := 6) rfl
                  have g7 := HCg.out.cell (k := 7) rfl
                  have g8 := HCg.out.cell (k := 8) rfl
                  have g9 := HCg.out.cell (k := 9) rfl
                  have g10 := HCg.out.cell (k := 10) rfl
                  obtain ⟨B, hB⟩ : ∃ B, cmdb ⟨n0, n1, n2, n3, n4, n5, n6, F, I, its, fl⟩ = B := ⟨_, rfl⟩
                  rw [hB] at CY
                  have HBB := Lib.hid hB
                  have HBD := Lib.hid hbad
                  clear hB hbad
                  go_wp2_with fail
                  refine CY.out.mono ?_
                  rintro e w13 ⟨rfl, ho13⟩
                  dsimp only
                  have HCh := Lib.hid (HCg.out.only ho13 (by simp))
                  have HBh := Lib.hid (HBg.out.only ho13 (by simp))
                  have HOh := Lib.hid (HOg.out.tr ho13)
                  have HATh := Lib.hid (HATg.out.only ho13)
                  have HWh := Lib.hid (own_keep HWg.out ho13 (by simp))
                  clear ho13 CY g0 g1 g2 g3 g4 g5 g6 g7 g8 g9 g10 HCg HBg HOg HATg HWg HBf HOf r1 HRg
                  by_cases hBs : B = s
                  · have HU : Hid (unC s = some ⟨n0, n1, n2, n3, n4, n5, n6, F, I, its, fl⟩) := Lib.hid (by rw [HU.out, if_pos ⟨HBD.out, by omega, HQ.out, HBB.out.trans hBs⟩])
                    have hBe : (!(B == s)) = false := by simp [hBs]
                    have hoR : Only [R] w13 (w13.setRow R #[.int .i64 n0, .int .i64 n1, .int .i64 n2, .int .i64 n3, .int .i64 n4, .int .i64 n5, .int .i64 n6, .string ⟨F.toArray⟩, .string ⟨I.toArray⟩, .slice A k cap, .bool fl]) := (Only.refl _ _).setRow (.inl (by simp)) _
                    have HATR : Hid (CmAt (w13.setRow R #[.int .i64 n0, .int .i64 n1, .int .i64 n2, .int .i64 n3, .int .i64 n4, .int .i64 n5, .int .i64 n6, .string ⟨F.toArray⟩, .string ⟨I.toArray⟩, .slice A k cap, .bool fl]) (.slice A k cap) ⟨n0, n1, n2, n3, n4, n5, n6, F, I, its, fl⟩) := Lib.hid (by
                      refine ⟨?_, HATh.out.len, HATh.out.fd, HATh.out.id, HATh.out.nums⟩
                      have hnR : (Value.slice A k cap).ownBlock ≠ some R := own_ne_block HWh.out HBh.out (by decide)
                      have hsz := HOh.out.size
                      have := SlAt.of_own (own_keep HWh.out hoR (by simpa using hnR))
                      rw [← hitl] at this ⊢
                      refine this.more ?_
                      have := hoR.size
                      omega)
                    clear hoR hBs
                    have g0 := HCh.out.cell (k := 0) rfl
                    have g1 := HCh.out.cell (k := 1) rfl
                    have g2 := HCh.out.cell (k := 2) rfl
                    have g3 := HCh.out.cell (k := 3) rfl
                    have g4 := HCh.out.cell (k := 4) rfl
                    have g5 := HCh.out.cell (k := 5) rfl
                    have g6 := HCh.out.cell (k := 6) rfl
                    have g7 := HCh.out.cell (k := 7) rfl
                    have g8 := HCh.out.cell (k := 8) rfl
                    have g9 := HCh.out.cell (k := 9) rfl
                    have g10 := HCh.out.cell (k := 10) rfl
                    have hst := HBh.out
                    have hone : (#[.int .i64 n0, .int .i64 n1, .int .i64 n2, .int .i64 n3, .int .i64 n4, .int .i64 n5, .int .i64 n6, .string ⟨F.toArray⟩, .string ⟨I.toArray⟩, .slice A k cap, .bool fl] : Array Value).all (·.oneCell') = true := by simp [Value.oneCell']
                    go_wp2_with (refine wpList_store_row rfl 65 _ _ rfl R #[.int .i64 n0, .int .i64 n1, .int .i64 n2, .int .i64 n3, .int .i64 n4, .int .i64 n5, .int .i64 n6, .string ⟨F.toArray⟩, .string ⟨I.toArray⟩, .slice A k cap, .bool fl] rfl rfl 65 _ hst (by kernel_rfl) rfl hone ?_)
                    (try simp only [Exit.inBlock, Exit.then])
                    refine bodyPost_ret (v := .tuple #[.agg #[.int .i64 n0, .int .i64 n1, .int .i64 n2, .int .i64 n3, .int .i64 n4, .int .i64 n5, .int .i64 n6, .string ⟨F.toArray⟩, .string ⟨I.toArray⟩, .slice A k cap, .bool fl], .int .i64 0]) ?_ rfl ⟨.slice A k cap, by rw [HU.out]; rfl, by rw [HU.out]; exact HATR.out, HOh.out.setRow (.inr (by omega)) _⟩
                    exact results_row_tmp Try.results80 _ _ R 65 [.int .i64 n0, .int .i64 n1, .int .i64 n2, .int .i64 n3, .int .i64 n4, .int .i64 n5, .int .i64 n6, .string ⟨F.toArray⟩, .string ⟨I.toArray⟩, .slice A k cap, .bool fl] _ rfl (Cells.setRow HBh.out [.int .i64 n0, .int .i64 n1, .int .i64 n2, .int .i64 n3, .int .i64 n4, .int .i64 n5, .int .i64 n6, .string ⟨F.toArray⟩, .string ⟨I.toArray⟩, .slice A k cap, .bool fl]) Try.underlying65 rfl (by kernel_rfl)
                  · have HU : Hid (unC s = none) := Lib.hid (by rw [HU.out, if_neg (by rintro ⟨_, _, _, h⟩; exact hBs (HBB.out.symm.trans h))])
                    have hBe : (!(B == s)) = true := by simp [hBs]
                    have HBf := HBh
                    have HOf := HOh
                    clear hBs
                    have hst := HBf.out
                    have hone : (#[.int .i64 0, .int .i64 0, .int .i64 0, .int .i64 0, .int .i64 0, .int .i64 0, .int .i64 0, .string ⟨([] : List UInt8).toArray⟩, .string ⟨([] : List UInt8).toArray⟩, .slice none 0 0, .bool false] : Array Value).all (·.oneCell') = true := by simp [Value.oneCell']
                    go_wp2_with (refine wpList_store_row rfl 65 _ _ rfl R #[.int .i64 0, .int .i64 0, .int .i64 0, .int .i64 0, .int .i64 0, .int .i64 0, .int .i64 0, .string ⟨([] : List UInt8).toArray⟩, .string ⟨([] : List UInt8).toArray⟩, .slice none 0 0, .bool false] rfl rfl 65 _ hst (by kernel_rfl) rfl hone ?_)
                    (try simp only [Exit.inBlock, Exit.then])
                    refine bodyPost_ret (v := .tuple #[.agg #[.int .i64 0, .int .i64 0, .int .i64 0, .int .i64 0, .int .i64 0, .int .i64 0, .int .i64 0, .string ⟨([] : List UInt8).toArray⟩, .string ⟨([] : List UInt8).toArray⟩, .slice none 0 0, .bool false], .int .i64 8]) ?_ rfl ⟨.slice none 0 0, by rw [HU.out]; rfl, by rw [HU.out]; exact cm_zero_at _, HOf.out.setRow (.inr (by omega)) _⟩
                    exact results_row_tmp Try.results80 _ _ R 65 [.int .i64 0, .int .i64 0, .int .i64 0, .int .i64 0, .int .i64 0, .int .i64 0, .int .i64 0, .string ⟨([] : List UInt8).toArray⟩, .string ⟨([] : List UInt8).toArray⟩, .slice none 0 0, .bool false] _ rfl (Cells.setRow HBf.out [.int .i64 0, .int .i64 0, .int .i64 0, .int .i64 0, .int .i64 0, .int .i64 0, .int .i64 0, .string ⟨([] : List UInt8).toArray⟩, .string ⟨([] : List UInt8).toArray⟩, .slice none 0 0, .bool false]) Try.underlying65 rfl (by kernel_rfl)
end Go.Proofs.Ytjfnkjpnjiobjaa
