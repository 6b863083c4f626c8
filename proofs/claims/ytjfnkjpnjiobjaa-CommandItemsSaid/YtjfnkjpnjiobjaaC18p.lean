/-
  Chapter 18: Unpack.
-/
import Derived.Test.YtjfnkjpnjiobjaaC18o
import Derived.Test.YtjfnkjpnjiobjaaC18n
namespace Go.Proofs.Ytjfnkjpnjiobjaa
open Go.RowKit
def Cm.zero : Cm := ⟨0, 0, 0, 0, 0, 0, 0, [], [], [], false⟩
/-- What unpacking hands back. -/
def UnCW (s : List UInt8) (w : World) (e : Ending) (w' : World) : Prop :=
  ∃ iv, e = .returned (.tuple #[((unC s).getD Cm.zero).val iv, .int .i64 (if (unC s).isSome = true then 0 else 8)]) ∧ CmAt w' iv ((unC s).getD Cm.zero) ∧ Only [] w w'
theorem cm_zero_at (w : World) : CmAt w (.slice none 0 0) Cm.zero := ⟨SlAt.of_own (World.ownsRow_nil w 0 36 3), by simp [Cm.zero], by simp [Cm.zero], by simp [Cm.zero], by
  intro x hx
  simp only [Cm.zero, List.mem_cons, List.not_mem_nil, or_false] at hx
  rcases hx with rfl | rfl | rfl | rfl | rfl | rfl | rfl <;> exact ⟨by omega, by omega⟩⟩
theorem pt7_get (y k : Nat) (hk : k < 7) : ([.pointer (some ⟨y, 0, none⟩), .pointer (some ⟨y, 1, none⟩), .pointer (some ⟨y, 2, none⟩), .pointer (some ⟨y, 3, none⟩), .pointer (some ⟨y, 4, none⟩), .pointer (some ⟨y, 5, none⟩), .pointer (some ⟨y, 6, none⟩)] : List Value)[k]? = some (.pointer (some ⟨y, k, none⟩)) := by
  have hk : k = 0 ∨ k = 1 ∨ k = 2 ∨ k = 3 ∨ k = 4 ∨ k = 5 ∨ k = 6 := by omega
  rcases hk with rfl | rfl | rfl | rfl | rfl | rfl | rfl <;> rfl
theorem itL_append (l r : List It) : itL (l ++ r) = itL l ++ itL r := by unfold itL; rw [List.flatMap_append]
theorem info_item : (Try.prog.info? 36).map (fun i => (i.zero, i.size, i.bytes)) = some (some (.agg #[.string ⟨#[]⟩, .string ⟨#[]⟩, .string ⟨#[]⟩]), 3, 48) := by kernel_rfl
theorem unC_many (s : List UInt8) (mv : Int) (mq ri re : Rd) (its : List It) (fl : Bool) (n0 n1 n2 n3 n4 n5 n6 : Int) (hm : (cG s).many = (mv, mq)) (hi : mq.items mv.toNat = (its, ri)) (hb : ri.bool = (fl, re)) (hn : Rd.ints ⟨s, false⟩ 7 = [n0, n1, n2, n3, n4, n5, n6]) :
    unC s = if re.bad = false ∧ re.s = [] ∧ rightB ⟨n0, n1, n2, n3, n4, n5, n6, (c7 s).text.1, (cF s).text.1, its, fl⟩ = true then some ⟨n0, n1, n2, n3, n4, n5, n6, (c7 s).text.1, (cF s).text.1, its, fl⟩ else none := by
  have g := fun j (hj : j < 7) => nth_of (k := 7) hn j hj
  have g0 := g 0 (by omega); have g1 := g 1 (by omega); have g2 := g 2 (by omega); have g3 := g 3 (by omega); have g4 := g 4 (by omega); have g5 := g 5 (by omega); have g6 := g 6 (by omega)
  simp only [List.getElem?_cons_zero, List.getElem?_cons_succ, Option.some.injEq] at g0 g1 g2 g3 g4 g5 g6
  have hcm : (cG s).int = (cN s, cM s) := by unfold cN cM; exact (Prod.eta _).symm
  unfold Rd.many at hm
  rw [hcm] at hm
  dsimp only at hm
  split at hm
  · rename_i hbad
    simp only [Prod.mk.injEq] at hm
    obtain ⟨rfl, rfl⟩ := hm
    have hrb : re.bad = true := by
      have h1 := items_bad (r := ⟨(cM s).s, true⟩) rfl (0 : Int).toNat
      rw [hi] at h1
      have h2 : ri.bool.2.bad = true := get_bad h1
      rw [hb] at h2
      exact h2
    rw [if_neg (by rw [hrb]; simp)]
    unfold unC
    rw [if_neg]
    rintro ⟨h0, h1, h2, h3⟩
    unfold cE at h2
    obtain ⟨b1, _⟩ := bool_in (r := (cI s (cN s).toNat).2) h2
    have b2 : (cM s).bad = false := by
      cases hb' : (cM s).bad with
      | false => rfl
      | true =>
        have := items_bad hb' (cN s).toNat
        unfold cI at b1
        rw [b1] at this
        cases this
    have hl := (lenB_iff.1 (rightB_iff.1 h1).2.1).2.2
    have hlen : (cC s (cN s).toNat).its.length = (cN s).toNat := by unfold cC cI; dsimp only; exact items_length (cM s) (cN s).toNat
    rw [hlen] at hl
    rcases hbad with hbad | hbad | hbad
    · rw [b2] at hbad; cases hbad
    · omega
    · omega
  · rename_i hbad
    simp only [Prod.mk.injEq] at hm
    obtain ⟨rfl, rfl⟩ := hm
    have e1 : cI s (cN s).toNat = (its, ri) := by unfold cI; exact hi
    have e2 : cE s (cN s).toNat = re := by unfold cE; rw [e1]; dsimp only; rw [hb]
    have e3 : cC s (cN s).toNat = ⟨n0, n1, n2, n3, n4, n5, n6, (c7 s).text.1, (cF s).text.1, its, fl⟩ := by
      unfold cC
      rw [g0, g1, g2, g3, g4, g5, g6, e1]
      dsimp only
      rw [hb]
    have h0 : 0 ≤ cN s := by
      rcases Int.lt_or_le (cN s) 0 with h | h
      · exact absurd (.inr (.inl h)) hbad
      · exact h
    unfold unC
    rw [e2, e3]
    by_cases hc : re.bad = false ∧ re.s = [] ∧ rightB ⟨n0, n1, n2, n3, n4, n5, n6, (c7 s).text.1, (cF s).text.1, its, fl⟩ = true
    · rw [if_pos hc, if_pos ⟨h0, hc.2.2, hc.1, hc.2.1⟩]
    · rw [if_neg hc, if_neg (fun h => hc ⟨h.2.2.1, h.2.2.2, h.2.1⟩)]
theorem many_le (r : Rd) : 0 ≤ r.many.1 ∧ r.many.1 ≤ 100 := by
  unfold Rd.many
  split
  · exact ⟨Int.le_refl 0, by show (0 : Int) ≤ 100; omega⟩
  · rename_i h
    constructor
    · rcases Int.lt_or_le r.int.1 0 with h1 | h1
      · exact absurd (.inr (.inl h1)) h
      · exact h1
    · rcases Int.lt_or_le 100 r.int.1 with h1 | h1
      · exact absurd (.inr (.inr h1)) h
      · exact h1
theorem many_len {r : Rd} {n : Nat} (h : r.s.length ≤ n) : r.many.2.s.length ≤ n := by
  unfold Rd.many
  split
  · exact int_len h
  · exact int_len h
set_option maxRecDepth 100000 in
set_option maxHeartbeats 8000000 in
theorem cmd_unpack (s : List UInt8) (w : World) (hl : s.length ≤ 1000000000000) :
    Calls Try.prog 42 #[.string ⟨s.toArray⟩] w (UnCW s w) := by
  obtain ⟨i0, hi0, hz0, hz1, hz2⟩ := info_parts info_item
  obtain ⟨w1, hw1⟩ : ∃ w1, w.alloc (.cells #[.int .i64 0, .int .i64 0, .int .i64 0, .int .i64 0, .int .i64 0, .int .i64 0, .int .i64 0, .string ⟨#[]⟩, .string ⟨#[]⟩, .slice none 0 0, .bool false] 65) = w1 := ⟨_, rfl⟩
  obtain ⟨w2, hw2⟩ : ∃ w2, w1.alloc (.cells #[.string ⟨s.toArray⟩, .bool false] 123) = w2 := ⟨_, rfl⟩
  obtain ⟨w3, hw3⟩ : ∃ w3, w2.alloc (.cells #[.int .i64 0, .int .i64 0, .int .i64 0, .int .i64 0, .int .i64 0, .int .i64 0, .int .i64 0, .string ⟨#[]⟩, .string ⟨#[]⟩, .slice none 0 0, .bool false] 65) = w3 := ⟨_, rfl⟩
  obtain ⟨R, hR⟩ : ∃ R, w.heap.size = R := ⟨_, rfl⟩
  obtain ⟨z, hz⟩ : ∃ R, w1.heap.size = R := ⟨_, rfl⟩
  obtain ⟨y, hy⟩ : ∃ R, w2.heap.size = R := ⟨_, rfl⟩
  have O1 : Only [] w w1 := hw1 ▸ (Only.refl _ _).alloc _
  have O2 : Only [] w1 w2 := hw2 ▸ (Only.refl _ _).alloc _
  have O3 : Only [] w2 w3 := hw3 ▸ (Only.refl _ _).alloc _
  have a1 : Cells w1 R 65 [.int .i64 0, .int .i64 0, .int .i64 0, .int .i64 0, .int .i64 0, .int .i64 0, .int .i64 0, .string ⟨([] : List UInt8).toArray⟩, .string ⟨([] : List UInt8).toArray⟩, .slice none 0 0, .bool false] := hw1 ▸ hR ▸ Cells.new w _ _
  have a2 : Cells w2 z 123 [.string ⟨s.toArray⟩, .bool false] := hw2 ▸ hz ▸ Cells.new w1 _ _
  have a3 : Cells w3 y 65 [.int .i64 0, .int .i64 0, .int .i64 0, .int .i64 0, .int .i64 0, .int .i64 0, .int .i64 0, .string ⟨([] : List UInt8).toArray⟩, .string ⟨([] : List UInt8).toArray⟩, .slice none 0 0, .bool false] := hw3 ▸ hy ▸ Cells.new w2 _ _
  have hRz : R < z := by have := a1.lt; omega
  have hzy : z < y := by have := a2.lt; omega
  have HB : Hid (Cells w3 R 65 [.int .i64 0, .int .i64 0, .int .i64 0, .int .i64 0, .int .i64 0, .int .i64 0, .int .i64 0, .string ⟨([] : List UInt8).toArray⟩, .string ⟨([] : List UInt8).toArray⟩, .slice none 0 0, .bool false]) := Lib.hid ((a1.only O2 (by simp)).only O3 (by simp))
  have HR3 : Hid (CrAt w3 z (Rd.after ⟨s, false⟩ 0)) := Lib.hid ⟨a2.only O3 (by simp), hl⟩
  have HZ3 : Hid (Cells w3 y 65 ([] ++ (gvs (Rd.ints ⟨s, false⟩ 0) ++ ((List.replicate 7 (Value.int .i64 0)).drop 0 ++ [.string ⟨([] : List UInt8).toArray⟩, .string ⟨([] : List UInt8).toArray⟩, .slice none 0 0, .bool false])))) := Lib.hid a3
  have HO3 := Lib.hid ((O1.tr O2).tr O3)
  have HIX := Lib.hid (fun k hk w' => index_p7 [.pointer (some ⟨y, 0, none⟩), .pointer (some ⟨y, 1, none⟩), .pointer (some ⟨y, 2, none⟩), .pointer (some ⟨y, 3, none⟩), .pointer (some ⟨y, 4, none⟩), .pointer (some ⟨y, 5, none⟩), .pointer (some ⟨y, 6, none⟩)] k _ hk (pt7_get y k hk) w')
  have HC7 : Hid (Rd.after ⟨s, false⟩ 7 = c7 s) := Lib.hid rfl
  have hwR : w.heap.size = R := hR
  clear a1 a2 a3 O1 O2 O3
  go_enter Try.func42, Try.ntmps42
  go_wp2_with fail
  clear hw1 hw2 hw3 hR hz hy
  go_loopw [7, 19] (fun _ i wr => ∃ k : Nat, k ≤ 7 ∧ i = .int .i64 k ∧ Hid (CrAt wr z (Rd.after ⟨s, false⟩ k)) ∧ Hid (Cells wr y 65 ([] ++ (gvs (Rd.ints ⟨s, false⟩ k) ++ ((List.replicate 7 (Value.int .i64 0)).drop k ++ [.string ⟨([] : List UInt8).toArray⟩, .string ⟨([] : List UInt8).toArray⟩, .slice none 0 0, .bool false])))) ∧ Hid (Cells wr R 65 [.int .i64 0, .int .i64 0, .int .i64 0, .int .i64 0, .int .i64 0, .int .i64 0, .int .i64 0, .string ⟨([] : List UInt8).toArray⟩, .string ⟨([] : List UInt8).toArray⟩, .slice none 0 0, .bool false]) ∧ Hid (Only [] w wr)) (fun _ i _ => 7 - (intOf i).toNat)
  case atStart => exact ⟨0, by omega, rfl, HR3, HZ3, HB, HO3⟩
  case round =>
    obtain ⟨k, hk, rfl, hr, hc, hb, ho⟩ := hrel
    by_cases hlt : k < 7
    · have hlt' : (k : Int) < 7 := by omega
      have hix := HIX.out k hlt
      have hix := fun w' => by have := hix w'; simpa using this
      have CT := Lib.hid (cr_int z (Rd.after ⟨s, false⟩ k) wr hr.out)
      go_wp2_with fail
      refine CT.out.mono ?_
      rintro e w4 ⟨rfl, hr4, ho4⟩
      have hc4 := hc.out.only ho4 (by simp; omega)
      have hb4 := hb.out.only ho4 (by simp; omega)
      have hlen : k < (([] : List Value) ++ (gvs (Rd.ints ⟨s, false⟩ k) ++ ((List.replicate 7 (Value.int .i64 0)).drop k ++ [Value.string ⟨([] : List UInt8).toArray⟩, .string ⟨([] : List UInt8).toArray⟩, .slice none 0 0, .bool false]))).length := by
        simp [gvs_length, Rd.ints_length] <;> omega
      obtain ⟨u0, d0⟩ : ∃ u, w4.cell? ⟨y, k, none⟩ = some u := ⟨_, hc4.cell (List.getElem?_eq_getElem hlen)⟩
      have f0 := hc4.frozen k
      have hcl := hc4.lt
      have hset := put_nth ⟨s, false⟩ [] (List.replicate 7 (Value.int .i64 0)) [.string ⟨([] : List UInt8).toArray⟩, .string ⟨([] : List UInt8).toArray⟩, .slice none 0 0, .bool false] k (by simp; omega)
      rw [show (([] : List Value).length + k) = k from by simp] at hset
      have HC5 := Lib.hid (hset ▸ hc4.set k (.int .i64 (Rd.nth ⟨s, false⟩ k)))
      have HR5 : Hid (CrAt (w4.setCell ⟨y, k, none⟩ (.int .i64 (Rd.nth ⟨s, false⟩ k))) z (Rd.after ⟨s, false⟩ (k + 1))) := Lib.hid ⟨hr4.1.far (p := ⟨y, k, none⟩) (by show z ≠ y; omega) _, hr4.2⟩
      have HB5 := Lib.hid (hb4.far (p := ⟨y, k, none⟩) (by show R ≠ y; omega) (.int .i64 (Rd.nth ⟨s, false⟩ k)))
      have HO5 := Lib.hid ((ho.out.trans ho4 (by intro q hq; simp at hq; exact .inr (by omega))).setCell (p := ⟨y, k, none⟩) (.inr (by show w.heap.size ≤ y; omega)) (.int .i64 (Rd.nth ⟨s, false⟩ k)))
      have HNT : Hid ((Rd.after ⟨s, false⟩ k).int.1 = Rd.nth ⟨s, false⟩ k) := Lib.hid rfl
      rw [HNT.out]
      clear hr4 ho4 hc4 hb4 hset CT hr hc hb ho hix hlen
      go_wp2_with fail
      go_roundw
      case rel => exact ⟨k + 1, by omega, by go_num, HR5, HC5, HB5, HO5⟩
      case measure => simp [intOf]; omega
    · obtain rfl : k = 7 := by omega
      rw [HC7.out] at hr
      obtain ⟨n0, n1, n2, n3, n4, n5, n6, hn⟩ : ∃ n0 n1 n2 n3 n4 n5 n6, Rd.ints ⟨s, false⟩ 7 = [n0, n1, n2, n3, n4, n5, n6] := ⟨_, _, _, _, _, _, _, ints7 _⟩
      have HN := Lib.hid hn
      rw [hn] at hc
      have HCa : Hid (Cells wr y 65 [.int .i64 n0, .int .i64 n1, .int .i64 n2, .int .i64 n3, .int .i64 n4, .int .i64 n5, .int .i64 n6, .string ⟨([] : List UInt8).toArray⟩, .string ⟨([] : List UInt8).toArray⟩, .slice none 0 0, .bool false]) := Lib.hid hc.out
      have CT := Lib.hid (cr_text z (c7 s) wr hr.out)
      clear hn hc hr HIX HC7 HR3 HZ3 HB HO3
      go_wp2_with fail
      refine CT.out.mono ?_
      rintro e w4 ⟨rfl, hr4, ho4⟩
      have hF : (c7 s).text.2 = cF s := rfl
      rw [hF] at hr4
      obtain ⟨F, hF⟩ : ∃ F, (c7 s).text.1 = F := ⟨_, rfl⟩
      rw [hF]
      have HF := Lib.hid hF
      have hc4 := HCa.out.only ho4 (by simp; omega)
      have hb4 := hb.out.only ho4 (by simp; omega)
      have d7 := hc4.cell (k := 7) rfl
      have f7 := hc4.frozen 7
      have yl := hc4.lt
      have HC5 : Hid (Cells (w4.setCell ⟨y, 7, none⟩ (.string ⟨F.toArray⟩)) y 65 [.int .i64 n0, .int .i64 n1, .int .i64 n2, .int .i64 n3, .int .i64 n4, .int .i64 n5, .int .i64 n6, .string ⟨F.toArray⟩, .string ⟨([] : List UInt8).toArray⟩, .slice none 0 0, .bool false]) := Lib.hid (hc4.set 7 _)
      have hr5 : CrAt (w4.setCell ⟨y, 7, none⟩ (.string ⟨F.toArray⟩)) z (cF s) := ⟨hr4.1.far (p := ⟨y, 7, none⟩) (by show z ≠ y; omega) _, hr4.2⟩
      have HB5 := Lib.hid (hb4.far (p := ⟨y, 7, none⟩) (by show R ≠ y; omega) (.string ⟨F.toArray⟩))
      have HO5 := Lib.hid ((ho.out.trans ho4 (by intro q hq; simp at hq; exact .inr (by omega))).setCell (p := ⟨y, 7, none⟩) (.inr (by show w.heap.size ≤ y; omega)) (.string ⟨F.toArray⟩))
      have CT2 := Lib.hid (cr_text z (cF s) _ hr5)
      clear hF hr4 ho4 hc4 hb4 hr5 CT HCa hb ho
      go_wp2_with fail
      refine CT2.out.mono ?_
      rintro e w6 ⟨rfl, hr6, ho6⟩
      have hG : (cF s).text.2 = cG s := rfl
      rw [hG] at hr6
      obtain ⟨I, hI⟩ : ∃ I, (cF s).text.1 = I := ⟨_, rfl⟩
      rw [hI]
      have HI := Lib.hid hI
      have hc6 := HC5.out.only ho6 (by simp; omega)
      have hb6 := HB5.out.only ho6 (by simp; omega)
      have d8 := hc6.cell (k := 8) rfl
      have f8 := hc6.frozen 8
      have yl6 := hc6.lt
      have HC7 : Hid (Cells (w6.setCell ⟨y, 8, none⟩ (.string ⟨I.toArray⟩)) y 65 [.int .i64 n0, .int .i64 n1, .int .i64 n2, .int .i64 n3, .int .i64 n4, .int .i64 n5, .int .i64 n6, .string ⟨F.toArray⟩, .string ⟨I.toArray⟩, .slice none 0 0, .bool false]) := Lib.hid (hc6.set 8 _)
      have hr7 : CrAt (w6.setCell ⟨y, 8, none⟩ (.string ⟨I.toArray⟩)) z (cG s) := ⟨hr6.1.far (p := ⟨y, 8, none⟩) (by show z ≠ y; omega) _, hr6.2⟩
      have HB7 := Lib.hid (hb6.far (p := ⟨y, 8, none⟩) (by show R ≠ y; omega) (.string ⟨I.toArray⟩))
      have HO7 := Lib.hid ((HO5.out.trans ho6 (by intro q hq; simp at hq; exact .inr (by omega))).setCell (p := ⟨y, 8, none⟩) (.inr (by show w.heap.size ≤ y; omega)) (.string ⟨I.toArray⟩))
      have CM := Lib.hid (cr_many z (cG s) _ hr7)
      clear hG hI hr6 ho6 hc6 hb6 hr7 CT2 HC5 HB5 HO5 d7 f7 yl
      go_wp2_with fail
      refine CM.out.mono ?_
      rintro e w8 ⟨rfl, hr8, ho8⟩
      obtain ⟨h0, h100⟩ := many_le (cG s)
      obtain ⟨⟨mv, mq⟩, hm⟩ : ∃ p, (cG s).many = p := ⟨_, rfl⟩
      have HM := Lib.hid hm
      rw [hm] at hr8 h0 h100 ⊢
      dsimp only at hr8 h0 h100 ⊢
      obtain ⟨N, rfl⟩ : ∃ N : Nat, mv = N := ⟨mv.toNat, by omega⟩
      have HR8 : Hid (CrAt w8 z (mq.items 0).2) := Lib.hid hr8
      have HC8 := Lib.hid (HC7.out.only ho8 (by simp; omega))
      have HB8 := Lib.hid (HB7.out.only ho8 (by simp; omega))
      have HO8 := Lib.hid (HO7.out.trans ho8 (by intro q hq; simp at hq; exact .inr (by omega)))
      clear hm hr8 ho8 CM HC7 HB7 HO7 d8 f8 yl6
      go_wp2_with fail
      go_loopw [35] (fun i wr => ∃ (k : Nat) (iv : Value), k ≤ N ∧ i = .int .i64 k ∧ Hid (CrAt wr z (mq.items k).2) ∧ Hid (Cells wr y 65 [.int .i64 n0, .int .i64 n1, .int .i64 n2, .int .i64 n3, .int .i64 n4, .int .i64 n5, .int .i64 n6, .string ⟨F.toArray⟩, .string ⟨I.toArray⟩, iv, .bool false]) ∧ Hid (wr.ownsRow R 36 3 iv k (itL (mq.items k).1)) ∧ Hid (Cells wr R 65 [.int .i64 0, .int .i64 0, .int .i64 0, .int .i64 0, .int .i64 0, .int .i64 0, .int .i64 0, .string ⟨([] : List UInt8).toArray⟩, .string ⟨([] : List UInt8).toArray⟩, .slice none 0 0, .bool false]) ∧ Hid (Only [] w wr)) (fun i _ => N - (intOf i).toNat)
      case atStart => exact ⟨0, .slice none 0 0, by omega, rfl, HR8, HC8, Lib.hid (World.ownsRow_nil _ _ _ _), HB8, HO8⟩
      case round =>
        obtain ⟨k, iv, hk, rfl, hr, hz, hown, hb, ho⟩ := hrel
        by_cases hlt : k < N
        · have hlt' : (k : Int) < (N : Int) := by omega
          obtain ⟨A, cap, rfl⟩ := (SlAt.of_own hown.out).shape
          have p8 := hz.out.cell (k := 9) rfl
          have f8 := hz.out.frozen 9
          have lz := hz.out.lt
          have hne : (Value.slice A k cap).ownBlock ≠ some z := own_ne_block hown.out hr.out.1 (by decide)
          have hne2 : (Value.slice A k cap).ownBlock ≠ some y := own_ne_block hown.out hz.out (by decide)
          have hne3 : (Value.slice A k cap).ownBlock ≠ some R := own_ne_block hown.out hb.out (by decide)
          obtain ⟨x, hx⟩ : ∃ x, (mq.items k).2.item.1 = x := ⟨_, rfl⟩
          have HX := Lib.hid hx
          have CE := Lib.hid (fun w' (h : CrAt w' z (mq.items k).2) => cr_item z (mq.items k).2 w' h)
          rw [hx] at CE
          clear hx
          go_wp2_with fail
          go_region_law (first
            | (go_simp; go_at_call 85; go_loud (refine (CE.out _ (by first | exact ⟨hr.out.1.drew, hr.out.2⟩ | exact hr.out)).mono ?_); rintro e w8 ⟨rfl, hr8, ho8⟩; have hz8 : Cells w8 y 65 _ := Cells.only (S := [z]) hz.out.drew ho8 (by simp; omega); have p88 := hz8.cell (k := 9) rfl; have l88 := hz8.lt)
            | (go_loud (refine step_append_lies _ (by rfl) _ _ 31 (by rfl) R 36 i0 _ 3 48 Try.underlying31 hi0 hz0 hz1 hz2 rfl (by omega) (.slice A k cap) k (itL (mq.items k).1) (by rfl) (World.ownsRow.alloc (own_keep (w := wr.drew) hown.out ho8 (by simpa using hne)) _) ⟨w8.heap.size, 0, none⟩ 1 1 [.string ⟨x.id.toArray⟩, .string ⟨x.ti.toArray⟩, .string ⟨x.li.toArray⟩] (by rfl) (by rfl) (lit4 (Cells.new w8 36 [.string ⟨x.id.toArray⟩, .string ⟨x.ti.toArray⟩, .string ⟨x.li.toArray⟩])) (by simp [Value.oneCell']) (by omega) (by unfold maxLen; omega) (by omega) (by have := ho8.size; have := hz8.lt; simp; omega) (w8.heap.size + 1) (by simp) ?_); intro g1 cap1 w9 hown9 hgrow hat hgl1; have hz9 : Cells w9 y 65 _ := Cells.grown (hz8.alloc _) hgrow hne2; have p9 := hz9.cell (k := 9) rfl; have f9 := hz9.frozen 9; have l9 := hz9.lt))
          all_goals
            have hS8 := ho8.size
            have hr9 : CrAt w9 z (mq.items (k + 1)).2 := ⟨(hr8.1.alloc _).grown hgrow hne, hr8.2⟩
            have hb9 : Cells w9 R 65 _ := ((Cells.only (S := [z]) hb.out.drew ho8 (by simp; omega)).alloc _).grown hgrow hne3
            have ho9 : Only [] w w9 := Only.own (((ho.out.drew.trans ho8 (by intro q hq; simp at hq; exact .inr (by omega)))).alloc (.cells #[.string ⟨x.id.toArray⟩, .string ⟨x.ti.toArray⟩, .string ⟨x.li.toArray⟩] 36)) (World.ownsRow.alloc (own_keep (w := wr.drew) hown.out ho8 (by simpa using hne)) _) hgrow (by omega)
            have hen : itL (mq.items (k + 1)).1 = itL (mq.items k).1 ++ [.string ⟨x.id.toArray⟩, .string ⟨x.ti.toArray⟩, .string ⟨x.li.toArray⟩] := by
              show itL ((mq.items k).1 ++ [(mq.items k).2.item.1]) = _
              rw [HX.out, itL_append]
              rfl
            have hg9 : (Value.slice (some ⟨g1, 0, none⟩) (k + 1) cap1).ownBlock ≠ some y := own_ne_block hown9 hz9 (by decide)
            have hoW : Only [y] w9 (w9.setCell ⟨y, 9, none⟩ (.slice (some ⟨g1, 0, none⟩) (k + 1) cap1)) := (Only.refl _ _).setCell (.inl (by simp)) _
            have hown10 := own_keep hown9 hoW (by simpa using hg9)
            rw [← hen] at hown10
            have HOWN := Lib.hid hown10
            have HR10 : Hid (CrAt (w9.setCell ⟨y, 9, none⟩ (.slice (some ⟨g1, 0, none⟩) (k + 1) cap1)) z (mq.items (k + 1)).2) := Lib.hid ⟨hr9.1.only hoW (by simp; omega), hr9.2⟩
            have HB10 := Lib.hid (hb9.only hoW (by simp; omega))
            have HZ10 := Lib.hid (hz9.set 9 (.slice (some ⟨g1, 0, none⟩) (k + 1) cap1))
            have HO10 := Lib.hid (ho9.trans hoW (by intro q hq; simp at hq; exact .inr (by omega)))
            clear hown9 hgrow hat hr9 hb9 ho9 hz9 hz8 hr8 ho8 hen hown10 hoW p9 f9 l9 p8 f8 lz p88 l88
            go_wp2_with fail
            go_roundw
            case rel => exact ⟨k + 1, .slice (some ⟨g1, 0, none⟩) (k + 1) cap1, by omega, by go_num, HR10, HZ10, HOWN, HB10, HO10⟩
            case measure => simp [intOf]; omega
        · have hd : decide ((k : Int) < (N : Int)) = false := by simp; omega
          obtain rfl : k = N := by omega
          obtain ⟨A, cap, rfl⟩ := (SlAt.of_own hown.out).shape
          obtain ⟨its, hits⟩ : ∃ its, (mq.items k).1 = its := ⟨_, rfl⟩
          obtain ⟨rI, hrI⟩ : ∃ r, (mq.items k).2 = r := ⟨_, rfl⟩
          rw [hrI] at hr
          have hitl : its.length = k := by rw [← hits]; exact items_length mq k
          rw [hits] at hown
          have HIT : Hid (mq.items (k : Int).toNat = (its, rI)) := Lib.hid (by rw [Int.toNat_natCast, ← hits, ← hrI])
          have hlc7 : (c7 s).s.length ≤ 1000000000000 := by unfold c7; exact after_len (r := ⟨s, false⟩) hl 7
          have hlF : (cF s).s.length ≤ 1000000000000 := by unfold cF; exact text_len hlc7
          have hlG : (cG s).s.length ≤ 1000000000000 := by unfold cG; exact text_len hlF
          have hlM : mq.s.length ≤ 1000000000000 := by have := many_len hlG; rw [HM.out] at this; exact this
          have HOK : Hid (∀ x ∈ its, x.Ok) := Lib.hid (by rw [← hits]; exact items_all (fun q hq => item_ok hq) hlM k)
          have hFl : F.length ≤ 1000000000000 := by rw [← HF.out]; exact text_short hlc7
          have hIl : I.length ≤ 1000000000000 := by rw [← HI.out]; exact text_short hlF
          have CB := Lib.hid (cr_bool z rI wr hr.out)
          obtain ⟨⟨fl, re⟩, hre⟩ : ∃ p, rI.bool = p := ⟨_, rfl⟩
          have HU : Hid (unC s = if re.bad = false ∧ re.s = [] ∧ rightB ⟨n0, n1, n2, n3, n4, n5, n6, F, I, its, fl⟩ = true then some ⟨n0, n1, n2, n3, n4, n5, n6, F, I, its, fl⟩ else none) := Lib.hid (by
            have := unC_many s k mq rI re its fl n0 n1 n2 n3 n4 n5 n6 HM.out HIT.out hre HN.out
            rw [HF.out, HI.out] at this
            exact this)
          have HNW : Hid (∀ x ∈ [n0, n1, n2, n3, n4, n5, n6], Wide64 x) := Lib.hid (by rw [← HN.out]; exact ints_wide _ 7)
          rw [hre] at CB
          dsimp only at CB
          clear hits hrI hre hlc7 hlF hlG hlM HIT HM HN HF HI hlt HR8 HC8 HB8 HO8
          go_wp2_with fail
          refine CB.out.mono ?_
          rintro e w11 ⟨rfl, hr11, ho11⟩
          have hne : (Value.slice A k cap).ownBlock ≠ some z := own_ne_block hown.out hr.out.1 (by decide)
          have hne2 : (Value.slice A k cap).ownBlock ≠ some y := own_ne_block hown.out hz.out (by decide)
          have hown11 := own_keep hown.out ho11 (by simpa using hne)
          have hc11 := hz.out.only ho11 (by simp; omega)
          have hb11 := hb.out.only ho11 (by simp; omega)
          have d10 := hc11.cell (k := 10) rfl
          have f10 := hc11.frozen 10
          have yl11 := hc11.lt
          have hoW : Only [y] w11 (w11.setCell ⟨y, 10, none⟩ (.bool fl)) := (Only.refl _ _).setCell (.inl (by simp)) _
          have HCf : Hid (Cells (w11.setCell ⟨y, 10, none⟩ (.bool fl)) y 65 [.int .i64 n0, .int .i64 n1, .int .i64 n2, .int .i64 n3, .int .i64 n4, .int .i64 n5, .int .i64 n6, .string ⟨F.toArray⟩, .string ⟨I.toArray⟩, .slice A k cap, .bool fl]) := Lib.hid (hc11.set 10 _)
          have HRf : Hid (CrAt (w11.setCell ⟨y, 10, none⟩ (.bool fl)) z re) := Lib.hid ⟨hr11.1.only hoW (by simp; omega), hr11.2⟩
          have HBf := Lib.hid (hb11.only hoW (by simp; omega))
          have HOf := Lib.hid ((ho.out.trans ho11 (by intro q hq; simp at hq; exact .inr (by omega))).trans hoW (by intro q hq; simp at hq; exact .inr (by omega)))
          have HWf := Lib.hid (own_keep hown11 hoW (by simpa using hne2))
          clear hr11 ho11 hown11 hc11 hb11 hoW CB hr hz hown hb ho hne hne2
          obtain ⟨wf, hwf⟩ : ∃ wf, w11.setCell ⟨y, 10, none⟩ (.bool fl) = wf := ⟨_, rfl⟩
          rw [hwf] at HCf HRf HBf HOf HWf
          have r0 := HRf.out.1.cell (k := 0) rfl
          have r1 := HRf.out.1.cell (k := 1) rfl
          cases hbad : re.bad with
          | true =>
            have HU : Hid (unC s = none) := Lib.hid (by rw [HU.out, if_neg (by rw [hbad]; simp)])
            rw [hbad] at r1
            clear hbad
            have hst := HBf.out
            have hone : (#[.int .i64 0, .int .i64 0, .int .i64 0, .int .i64 0, .int .i64 0, .int .i64 0, .int .i64 0, .string ⟨([] : List UInt8).toArray⟩, .string ⟨([] : List UInt8).toArray⟩, .slice none 0 0, .bool false] : Array Value).all (·.oneCell') = true := by simp [Value.oneCell']
            go_wp2_with (refine wpList_store_row rfl 65 _ _ rfl R #[.int .i64 0, .int .i64 0, .int .i64 0, .int .i64 0, .int .i64 0, .int .i64 0, .int .i64 0, .string ⟨([] : List UInt8).toArray⟩, .string ⟨([] : List UInt8).toArray⟩, .slice none 0 0, .bool false] rfl rfl 65 _ hst (by kernel_rfl) rfl hone ?_)
            (try simp only [Exit.inBlock, Exit.then])
            refine bodyPost_ret (v := .tuple #[.agg #[.int .i64 0, .int .i64 0, .int .i64 0, .int .i64 0, .int .i64 0, .int .i64 0, .int .i64 0, .string ⟨([] : List UInt8).toArray⟩, .string ⟨([] : List UInt8).toArray⟩, .slice none 0 0, .bool false], .int .i64 8]) ?_ rfl ⟨.slice none 0 0, by rw [HU.out]; rfl, by rw [HU.out]; exact cm_zero_at _, HOf.out.setRow (.inr (by omega)) _⟩
            exact results_row_tmp Try.results42 _ _ R 65 [.int .i64 0, .int .i64 0, .int .i64 0, .int .i64 0, .int .i64 0, .int .i64 0, .int .i64 0, .string ⟨([] : List UInt8).toArray⟩, .string ⟨([] : List UInt8).toArray⟩, .slice none 0 0, .bool false] _ rfl (Cells.setRow HBf.out [.int .i64 0, .int .i64 0, .int .i64 0, .int .i64 0, .int .i64 0, .int .i64 0, .int .i64 0, .string ⟨([] : List UInt8).toArray⟩, .string ⟨([] : List UInt8).toArray⟩, .slice none 0 0, .bool false]) Try.underlying65 rfl (by kernel_rfl)
          | false =>
            rw [hbad] at r1
            by_cases hs : re.s = []
            · rw [hs] at r0
              have HU1 : Hid (unC s = if rightB ⟨n0, n1, n2, n3, n4, n5, n6, F, I, its, fl⟩ = true then some ⟨n0, n1, n2, n3, n4, n5, n6, F, I, its, fl⟩ else none) := Lib.hid (by rw [HU.out]; simp [hbad, hs])
              have hat : CmAt wf (.slice A k cap) ⟨n0, n1, n2, n3, n4, n5, n6, F, I, its, fl⟩ := by
                refine ⟨?_, fun x hx => (HOK.out x hx).len, ?_, ?_, HNW.out⟩
                · have := SlAt.of_own HWf.out
                  rw [← hitl] at this ⊢
                  exact this.more (by omega)
                · unfold maxLen; dsimp only; omega
                · unfold maxLen; dsimp only; omega
              have CR := Lib.hid (cmd_right ⟨n0, n1, n2, n3, n4, n5, n6, F, I, its, fl⟩ (.slice A k cap) wf hat)
              have HAT := Lib.hid hat
              unfold Cm.val at CR
              dsimp only at CR
              have g0 := HCf.out.cell (k := 0) rfl
              have g1 := HCf.out.cell (k := 1) rfl
              have g2 := HCf.out.cell (k := 2) rfl
              have g3 := HCf.out.cell (k := 3) rfl
              have g4 := HCf.out.cell (k := 4) rfl
              have g5 := HCf.out.cell (k := 5) rfl
              have g6 := HCf.out.cell (k := 6) rfl
              have g7 := HCf.out.cell (k := 7) rfl
              have g8 := HCf.out.cell (k := 8) rfl
              have g9 := HCf.out.cell (k := 9) rfl
              have g10 := HCf.out.cell (k := 10) rfl
              obtain ⟨q, hq⟩ : ∃ q, rightB ⟨n0, n1, n2, n3, n4, n5, n6, F, I, its, fl⟩ = q := ⟨_, rfl⟩
              rw [hq] at CR
              have HQ := Lib.hid hq
              clear hbad hs hat hq HU
              go_wp2_with fail
              refine CR.out.mono ?_
              rintro e w12 ⟨rfl, ho12⟩
              have HCg := Lib.hid (HCf.out.only ho12 (by simp))
              have HBg := Lib.hid (HBf.out.only ho12 (by simp))
              have HOg := Lib.hid (HOf.out.tr ho12)
              have HATg := Lib.hid (HAT.out.only ho12)
              have HWg := Lib.hid (own_keep HWf.out ho12 (by simp))
              clear ho12 CR g0 g1 g2 g3 g4 g5 g6 g7 g8 g9 g10 HCf HBf HOf HAT
              cases q with
              | false =>
                have HU : Hid (unC s = none) := Lib.hid (by rw [HU1.out, HQ.out]; rfl)
                have HBf := HBg
                have HOf := HOg
                have hst := HBf.out
                have hone : (#[.int .i64 0, .int .i64 0, .int .i64 0, .int .i64 0, .int .i64 0, .int .i64 0, .int .i64 0, .string ⟨([] : List UInt8).toArray⟩, .string ⟨([] : List UInt8).toArray⟩, .slice none 0 0, .bool false] : Array Value).all (·.oneCell') = true := by simp [Value.oneCell']
                go_wp2_with (refine wpList_store_row rfl 65 _ _ rfl R #[.int .i64 0, .int .i64 0, .int .i64 0, .int .i64 0, .int .i64 0, .int .i64 0, .int .i64 0, .string ⟨([] : List UInt8).toArray⟩, .string ⟨([] : List UInt8).toArray⟩, .slice none 0 0, .bool false] rfl rfl 65 _ hst (by kernel_rfl) rfl hone ?_)
                (try simp only [Exit.inBlock, Exit.then])
                refine bodyPost_ret (v := .tuple #[.agg #[.int .i64 0, .int .i64 0, .int .i64 0, .int .i64 0, .int .i64 0, .int .i64 0, .int .i64 0, .string ⟨([] : List UInt8).toArray⟩, .string ⟨([] : List UInt8).toArray⟩, .slice none 0 0, .bool false], .int .i64 8]) ?_ rfl ⟨.slice none 0 0, by rw [HU.out]; rfl, by rw [HU.out]; exact cm_zero_at _, HOf.out.setRow (.inr (by omega)) _⟩
                exact results_row_tmp Try.results42 _ _ R 65 [.int .i64 0, .int .i64 0, .int .i64 0, .int .i64 0, .int .i64 0, .int .i64 0, .int .i64 0, .string ⟨([] : List UInt8).toArray⟩, .string ⟨([] : List UInt8).toArray⟩, .slice none 0 0, .bool false] _ rfl (Cells.setRow HBf.out [.int .i64 0, .int .i64 0, .int .i64 0, .int .i64 0, .int .i64 0, .int .i64 0, .int .i64 0, .string ⟨([] : List UInt8).toArray⟩, .string ⟨([] : List UInt8).toArray⟩, .slice none 0 0, .bool false]) Try.underlying65 rfl (by kernel_rfl)
              | true =>
                have HU : Hid (unC s = some ⟨n0, n1, n2, n3, n4, n5, n6, F, I, its, fl⟩) := Lib.hid (by rw [HU1.out, HQ.out]; rfl)
                have g0 := HCg.out.cell (k := 0) rfl
                have g1 := HCg.out.cell (k := 1) rfl
                have g2 := HCg.out.cell (k := 2) rfl
                have g3 := HCg.out.cell (k := 3) rfl
                have g4 := HCg.out.cell (k := 4) rfl
                have g5 := HCg.out.cell (k := 5) rfl
                have g6 := HCg.out.cell (k := 6) rfl
                have g7 := HCg.out.cell (k := 7) rfl
                have g8 := HCg.out.cell (k := 8) rfl
                have g9 := HCg.out.cell (k := 9) rfl
                have g10 := HCg.out.cell (k := 10) rfl
                have hoR : Only [R] w12 (w12.setRow R #[.int .i64 n0, .int .i64 n1, .int .i64 n2, .int .i64 n3, .int .i64 n4, .int .i64 n5, .int .i64 n6, .string ⟨F.toArray⟩, .string ⟨I.toArray⟩, .slice A k cap, .bool fl]) := (Only.refl _ _).setRow (.inl (by simp)) _
                have HATR : Hid (CmAt (w12.setRow R #[.int .i64 n0, .int .i64 n1, .int .i64 n2, .int .i64 n3, .int .i64 n4, .int .i64 n5, .int .i64 n6, .string ⟨F.toArray⟩, .string ⟨I.toArray⟩, .slice A k cap, .bool fl]) (.slice A k cap) ⟨n0, n1, n2, n3, n4, n5, n6, F, I, its, fl⟩) := Lib.hid (by
                  refine ⟨?_, HATg.out.len, HATg.out.fd, HATg.out.id, HATg.out.nums⟩
                  have hnR : (Value.slice A k cap).ownBlock ≠ some R := own_ne_block HWg.out HBg.out (by decide)
                  have hsz := HOg.out.size
                  have := SlAt.of_own (own_keep HWg.out hoR (by simpa using hnR))
                  rw [← hitl] at this ⊢
                  refine this.more ?_
                  have := hoR.size
                  omega)
                clear hoR
                have hst := HBg.out
                have hone : (#[.int .i64 n0, .int .i64 n1, .int .i64 n2, .int .i64 n3, .int .i64 n4, .int .i64 n5, .int .i64 n6, .string ⟨F.toArray⟩, .string ⟨I.toArray⟩, .slice A k cap, .bool fl] : Array Value).all (·.oneCell') = true := by simp [Value.oneCell']
                go_wp2_with (refine wpList_store_row rfl 65 _ _ rfl R #[.int .i64 n0, .int .i64 n1, .int .i64 n2, .int .i64 n3, .int .i64 n4, .int .i64 n5, .int .i64 n6, .string ⟨F.toArray⟩, .string ⟨I.toArray⟩, .slice A k cap, .bool fl] rfl rfl 65 _ hst (by kernel_rfl) rfl hone ?_)
                (try simp only [Exit.inBlock, Exit.then])
                refine bodyPost_ret (v := .tuple #[.agg #[.int .i64 n0, .int .i64 n1, .int .i64 n2, .int .i64 n3, .int .i64 n4, .int .i64 n5, .int .i64 n6, .string ⟨F.toArray⟩, .string ⟨I.toArray⟩, .slice A k cap, .bool fl], .int .i64 0]) ?_ rfl ⟨.slice A k cap, by rw [HU.out]; rfl, by rw [HU.out]; exact HATR.out, HOg.out.setRow (.inr (by omega)) _⟩
                exact results_row_tmp Try.results42 _ _ R 65 [.int .i64 n0, .int .i64 n1, .int .i64 n2, .int .i64 n3, .int .i64 n4, .int .i64 n5, .int .i64 n6, .string ⟨F.toArray⟩, .string ⟨I.toArray⟩, .slice A k cap, .bool fl] _ rfl (Cells.setRow HBg.out [.int .i64 n0, .int .i64 n1, .int .i64 n2, .int .i64 n3, .int .i64 n4, .int .i64 n5, .int .i64 n6, .string ⟨F.toArray⟩, .string ⟨I.toArray⟩, .slice A k cap, .bool fl]) Try.underlying65 rfl (by kernel_rfl)
            · have HU : Hid (unC s = none) := Lib.hid (by rw [HU.out, if_neg (by simp [hs])])
              have hse : re.s.isEmpty = false := by simpa using hs
              clear hbad
              have hst := HBf.out
              have hone : (#[.int .i64 0, .int .i64 0, .int .i64 0, .int .i64 0, .int .i64 0, .int .i64 0, .int .i64 0, .string ⟨([] : List UInt8).toArray⟩, .string ⟨([] : List UInt8).toArray⟩, .slice none 0 0, .bool false] : Array Value).all (·.oneCell') = true := by simp [Value.oneCell']
              go_wp2_with (refine wpList_store_row rfl 65 _ _ rfl R #[.int .i64 0, .int .i64 0, .int .i64 0, .int .i64 0, .int .i64 0, .int .i64 0, .int .i64 0, .string ⟨([] : List UInt8).toArray⟩, .string ⟨([] : List UInt8).toArray⟩, .slice none 0 0, .bool false] rfl rfl 65 _ hst (by kernel_rfl) rfl hone ?_)
              (try simp only [Exit.inBlock, Exit.then])
              refine bodyPost_ret (v := .tuple #[.agg #[.int .i64 0, .int .i64 0, .int .i64 0, .int .i64 0, .int .i64 0, .int .i64 0, .int .i64 0, .string ⟨([] : List UInt8).toArray⟩, .string ⟨([] : List UInt8).toArray⟩, .slice none 0 0, .bool false], .int .i64 8]) ?_ rfl ⟨.slice none 0 0, by rw [HU.out]; rfl, by rw [HU.out]; exact cm_zero_at _, HOf.out.setRow (.inr (by omega)) _⟩
              exact results_row_tmp Try.results42 _ _ R 65 [.int .i64 0, .int .i64 0, .int .i64 0, .int .i64 0, .int .i64 0, .int .i64 0, .int .i64 0, .string ⟨([] : List UInt8).toArray⟩, .string ⟨([] : List UInt8).toArray⟩, .slice none 0 0, .bool false] _ rfl (Cells.setRow HBf.out [.int .i64 0, .int .i64 0, .int .i64 0, .int .i64 0, .int .i64 0, .int .i64 0, .int .i64 0, .string ⟨([] : List UInt8).toArray⟩, .string ⟨([] : List UInt8).toArray⟩, .slice none 0 0, .bool false]) Try.underlying65 rfl (by kernel_rfl)
end Go.Proofs.Ytjfnkjpnjiobjaa
