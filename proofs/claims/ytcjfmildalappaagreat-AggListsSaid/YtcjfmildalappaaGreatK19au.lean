/-
  What the laws of the chapters 19 and 23 lean on, part K19au: contracts of the functions that they reach, and plain facts; each theorem bears its own conditions.
-/
import Derived.Test.YtcjfmildalappaaGreatK19aq
import Derived.Test.YtcjfmildalappaaGreatK19as
import Derived.Test.YtcjfmildalappaaGreatK19at
set_option linter.unusedVariables false
set_option linter.unusedSimpArgs false
namespace Go.Proofs.YtcjfmildalappaaGreat
open Go.RowKit
theorem small_nums {l : List Int} (h : (l.all fun x => decide (-100 ≤ x) && decide (x ≤ 100)) = true) : ∀ x ∈ l, Wide64 x := fun x hx => by
  have := List.all_eq_true.1 h x hx
  simp only [Bool.and_eq_true, decide_eq_true_eq] at this
  exact ⟨by omega, by omega⟩
theorem slat_box {w : World} {ib : Nat} (h : Cells w ib 99 [.string ⟨#[120]⟩, .string ⟨#[]⟩, .string ⟨#[]⟩]) : SlAt w w.heap.size (.slice (some ⟨ib, 0, none⟩) 1 1) 3 1 (itL [iX]) := SlAt.cells (n := 1) (sz := 3) h rfl (by unfold maxLen; omega)
theorem len_iX : ∀ x ∈ [iX], x.Len := fun x hx => by
  simp at hx
  subst hx
  exact ⟨by decide +kernel, by decide +kernel, by decide +kernel⟩
theorem cmat_box {w : World} {ib : Nat} (h : Cells w ib 99 [.string ⟨#[120]⟩, .string ⟨#[]⟩, .string ⟨#[]⟩]) (c : Cm) (hc : c.its = [iX]) (h1 : c.fd.length ≤ maxLen) (h2 : c.id.length ≤ maxLen) (h3 : ∀ x ∈ [c.kd, c.ss, c.sq, c.sh, c.nd, c.ep, c.n], Wide64 x) : CmAt w (.slice (some ⟨ib, 0, none⟩) 1 1) c :=
  ⟨by rw [hc]; exact slat_box h, by rw [hc]; exact len_iX, h1, h2, h3⟩
theorem itk_box {w : World} {K : List Nat} {ib : Nat} (h : Bx w K ib 99 [.string ⟨#[120]⟩, .string ⟨#[]⟩, .string ⟨#[]⟩]) (c : Cm) (hc : c.its = [iX]) : ItK w K (.slice (some ⟨ib, 0, none⟩) 1 1) c := fun w' ho => by
  rw [hc]
  exact slat_box (h.1.only ho h.2)
set_option maxRecDepth 100000 in
set_option maxHeartbeats 8000000 in
theorem shown19 (w : World) : Calls Tryz.prog 16 #[] w fun e w' => e = .returned (.bool true) ∧ Only [] w w' := by
  have C0 := Lib.hid (agw_new w w (Only.refl _ _))
  go_enter Tryz.func16, Tryz.ntmps16
  go_wp2_with fail
  refine C0.out.mono ?_
  rintro e w0 ⟨p, K0, rfl, hA0, hl0, ho0⟩
  have H0 := Lib.hid hA0
  clear hA0 hl0 ho0 C0
  have CD1 : Hid (Calls Tryz.prog 20 #[.pointer (some ⟨p, 0, none⟩), .agg #[.int .i64 1, .int .i64 0, .int .i64 0, .int .i64 0, .int .i64 0, .int .i64 0, .int .i64 0, .string ⟨#[]⟩, .string ⟨#[]⟩, .slice none 0 0, .bool false]] w0 fun e w' => DoW w w0 w' p K0 1 sa1 (⟨0, 1, []⟩) e) := Lib.hid (by
    have := agw_do p K0 AgS.new 0 (by omega) ⟨1, 0, 0, 0, 0, 0, 0, [], [], [], false⟩ (.slice none 0 0) w w0 H0.out ⟨SlAt.of_own (World.ownsRow_nil _ 0 99 3), (fun x hx => by cases hx), by decide +kernel, by decide +kernel, small_nums (by decide)⟩ (by decide) (itk_nil _ _ _ rfl)
    rw [e19_1] at this
    exact this)
  go_wp2_with fail
  refine CD1.out.mono ?_
  rintro e u1 ⟨pv, K1, he, hp, hg, hA, ho, hN, hk⟩
  have he : e = .returned (.agg #[.int .i64 0, .int .i64 1, pv]) := he
  subst he
  obtain ⟨PA, pc, rfl⟩ := hp.ps.shape
  have HO1 : Hid (Only K0 w0 u1) := Lib.hid ho
  have HN1 : Hid (∀ x ∈ K1, x ∈ K0 ∨ w0.heap.size ≤ x) := Lib.hid hN
  have HP1 := Lib.hid hp
  have HA1 := Lib.hid hA
  have HG1 := Lib.hid hg
  obtain ⟨b1, b2, b3⟩ := box_row u1 34 [.int .i64 0, .int .i64 0, .slice none 0 0] [.int .i64 0, .int .i64 1, .slice PA 0 pc]
  have hone : (#[.int .i64 0, .int .i64 1, .slice PA 0 pc] : Array Value).all (·.oneCell') = true := by simp [Value.oneCell']
  have hbw := hA.at_.bw
  have hnew : u1.heap.size ∉ K1 := fun hm => by have := hbw _ hm; omega
  clear hp hg hA ho hN hk hbw CD1  H0
  go_upto_region 5 with (refine wpList_store_row rfl 34 _ _ rfl u1.heap.size #[.int .i64 0, .int .i64 1, .slice PA 0 pc] rfl rfl 34 _ b2 (by kernel_rfl) rfl hone ?_)
  (try simp only [Act.put])
  obtain ⟨v1, hv1⟩ : ∃ u, (u1.alloc (.cells #[.int .i64 0, .int .i64 0, .slice none 0 0] 34)).setRow u1.heap.size #[.int .i64 0, .int .i64 1, .slice PA 0 pc] = u := ⟨_, rfl⟩
  rw [hv1]
  have b1 : Only [] u1 v1 := hv1 ▸ b1
  have b3 : Cells v1 u1.heap.size 34 [.int .i64 0, .int .i64 1, .slice PA 0 pc] := hv1 ▸ b3
  obtain ⟨z1, hz1⟩ : ∃ z, u1.heap.size = z := ⟨_, rfl⟩
  rw [hz1] at b3 hnew ⊢
  have B1 : Hid (Bx v1 K1 z1 34 [.int .i64 0, .int .i64 1, .slice PA 0 pc]) := Lib.hid ⟨b3, hnew⟩
  have H1 := Lib.hid (HA1.out.read b1)
  have HQ1 := Lib.hid (HP1.out.only b1)
  clear b1 b2 b3 hone hnew hv1 hz1 HA1 HP1 HG1 HO1 HN1 
  obtain ⟨b1, b2, b3⟩ := box_row v1 38 [.int .i64 0, .int .i64 0, .int .i64 0, .int .i64 0, .int .i64 0, .int .i64 0, .int .i64 0, .string ⟨#[]⟩, .string ⟨#[]⟩, .slice none 0 0, .bool false] [.int .i64 2, .int .i64 1, .int .i64 1, .int .i64 0, .int .i64 0, .int .i64 0, .int .i64 0, .string ⟨#[97]⟩, .string ⟨#[]⟩, .slice none 0 0, .bool false]
  have hone : (#[.int .i64 2, .int .i64 1, .int .i64 1, .int .i64 0, .int .i64 0, .int .i64 0, .int .i64 0, .string ⟨#[97]⟩, .string ⟨#[]⟩, .slice none 0 0, .bool false] : Array Value).all (·.oneCell') = true := by simp [Value.oneCell']
  have hnew : v1.heap.size ∉ K1 := fun hm => by have := H1.out.at_.bw _ hm; omega
  go_upto_region 6 with (refine wpList_store_row rfl 38 _ _ rfl v1.heap.size #[.int .i64 2, .int .i64 1, .int .i64 1, .int .i64 0, .int .i64 0, .int .i64 0, .int .i64 0, .string ⟨#[97]⟩, .string ⟨#[]⟩, .slice none 0 0, .bool false] rfl rfl 38 _ b2 (by kernel_rfl) rfl hone ?_)
  (try simp only [Act.put])
  obtain ⟨ys, hy⟩ : ∃ u, (v1.alloc (.cells #[.int .i64 0, .int .i64 0, .int .i64 0, .int .i64 0, .int .i64 0, .int .i64 0, .int .i64 0, .string ⟨#[]⟩, .string ⟨#[]⟩, .slice none 0 0, .bool false] 38)).setRow v1.heap.size #[.int .i64 2, .int .i64 1, .int .i64 1, .int .i64 0, .int .i64 0, .int .i64 0, .int .i64 0, .string ⟨#[97]⟩, .string ⟨#[]⟩, .slice none 0 0, .bool false] = u := ⟨_, rfl⟩
  rw [hy]
  have b1 : Only [] v1 ys := hy ▸ b1
  have b3 : Cells ys v1.heap.size 38 [.int .i64 2, .int .i64 1, .int .i64 1, .int .i64 0, .int .i64 0, .int .i64 0, .int .i64 0, .string ⟨#[97]⟩, .string ⟨#[]⟩, .slice none 0 0, .bool false] := hy ▸ b3
  obtain ⟨qs, hz⟩ : ∃ z, v1.heap.size = z := ⟨_, rfl⟩
  rw [hz] at b3 hnew ⊢
  have HLs : Hid (w.heap.size ≤ qs) := Lib.hid (hz ▸ H1.out.ho.size)
  have B2 : Hid (Bx ys K1 qs 38 [.int .i64 2, .int .i64 1, .int .i64 1, .int .i64 0, .int .i64 0, .int .i64 0, .int .i64 0, .string ⟨#[97]⟩, .string ⟨#[]⟩, .slice none 0 0, .bool false]) := Lib.hid ⟨b3, hnew⟩
  have HYs := Lib.hid (H1.out.read b1)
  have B3 := Lib.hid (B1.out.read b1)
  clear b1 b2 b3 hone hnew hy hz H1 B1
  have CD2 : Hid (Calls Tryz.prog 20 #[.pointer (some ⟨p, 0, none⟩), .agg #[.int .i64 2, .int .i64 1, .int .i64 1, .int .i64 0, .int .i64 0, .int .i64 0, .int .i64 0, .string ⟨#[97]⟩, .string ⟨#[]⟩, .slice none 0 0, .bool false]] ys fun e w' => DoW w ys w' p K1 2 sa2 (errR 0) e) := Lib.hid (by
    have := agw_do p K1 sa1 1 (by omega) ⟨2, 1, 1, 0, 0, 0, 0, [97], [], [], false⟩ (.slice none 0 0) w ys HYs.out ⟨SlAt.of_own (World.ownsRow_nil _ 0 99 3), (fun x hx => by cases hx), by decide +kernel, by decide +kernel, small_nums (by decide)⟩ (by decide) (itk_nil _ _ _ rfl)
    rw [e19_2] at this
    exact this)
  have hld := B2.out.1
  go_wp2_with (refine wpList_load_row rfl 38 _ rfl qs rfl 38 #[.int .i64 2, .int .i64 1, .int .i64 1, .int .i64 0, .int .i64 0, .int .i64 0, .int .i64 0, .string ⟨#[97]⟩, .string ⟨#[]⟩, .slice none 0 0, .bool false] (0, 0) _ hld Tryz.underlying38 rfl (by kernel_rfl) ?_)
  clear hld
  refine CD2.out.mono ?_
  rintro e u2 ⟨pv, K2, he, hp, hg, hA, ho, hN, hk⟩
  have he : e = .returned (.agg #[.int .i64 0, .int .i64 0, pv]) := he
  subst he
  obtain ⟨PA, pc, rfl⟩ := hp.ps.shape
  have HO2 : Hid (Only K1 ys u2) := Lib.hid ho
  have HN2 : Hid (∀ x ∈ K2, x ∈ K1 ∨ ys.heap.size ≤ x) := Lib.hid hN
  have HP2 := Lib.hid hp
  have HA2 := Lib.hid hA
  have HG2 := Lib.hid hg
  have B4 := Lib.hid (B3.out.does HO2.out HN2.out)
  have B5 := Lib.hid (B2.out.does HO2.out HN2.out)
  obtain ⟨b1, b2, b3⟩ := box_row u2 34 [.int .i64 0, .int .i64 0, .slice none 0 0] [.int .i64 0, .int .i64 0, .slice PA 0 pc]
  have hone : (#[.int .i64 0, .int .i64 0, .slice PA 0 pc] : Array Value).all (·.oneCell') = true := by simp [Value.oneCell']
  have hbw := hA.at_.bw
  have hnew : u2.heap.size ∉ K2 := fun hm => by have := hbw _ hm; omega
  clear hp hg hA ho hN hk hbw CD2 B3 B2 HYs
  go_upto_region 7 with (refine wpList_store_row rfl 34 _ _ rfl u2.heap.size #[.int .i64 0, .int .i64 0, .slice PA 0 pc] rfl rfl 34 _ b2 (by kernel_rfl) rfl hone ?_)
  (try simp only [Act.put])
  obtain ⟨v2, hv2⟩ : ∃ u, (u2.alloc (.cells #[.int .i64 0, .int .i64 0, .slice none 0 0] 34)).setRow u2.heap.size #[.int .i64 0, .int .i64 0, .slice PA 0 pc] = u := ⟨_, rfl⟩
  rw [hv2]
  have b1 : Only [] u2 v2 := hv2 ▸ b1
  have b3 : Cells v2 u2.heap.size 34 [.int .i64 0, .int .i64 0, .slice PA 0 pc] := hv2 ▸ b3
  obtain ⟨z2, hz2⟩ : ∃ z, u2.heap.size = z := ⟨_, rfl⟩
  rw [hz2] at b3 hnew ⊢
  have B6 : Hid (Bx v2 K2 z2 34 [.int .i64 0, .int .i64 0, .slice PA 0 pc]) := Lib.hid ⟨b3, hnew⟩
  have H2 := Lib.hid (HA2.out.read b1)
  have HQ2 := Lib.hid (HP2.out.only b1)
  have B7 := Lib.hid (B4.out.read b1)
  have B8 := Lib.hid (B5.out.read b1)
  clear b1 b2 b3 hone hnew hv2 hz2 HA2 HP2 HG2 HO2 HN2 B4 B5
  have CD3 : Hid (Calls Tryz.prog 20 #[.pointer (some ⟨p, 0, none⟩), .agg #[.int .i64 2, .int .i64 1, .int .i64 1, .int .i64 0, .int .i64 0, .int .i64 0, .int .i64 0, .string ⟨#[97]⟩, .string ⟨#[]⟩, .slice none 0 0, .bool false]] v2 fun e w' => DoW w v2 w' p K2 3 sa2 (errR 0) e) := Lib.hid (by
    have := agw_do p K2 sa2 2 (by omega) ⟨2, 1, 1, 0, 0, 0, 0, [97], [], [], false⟩ (.slice none 0 0) w v2 H2.out ⟨SlAt.of_own (World.ownsRow_nil _ 0 99 3), (fun x hx => by cases hx), by decide +kernel, by decide +kernel, small_nums (by decide)⟩ (by decide) (itk_nil _ _ _ rfl)
    rw [e19_3] at this
    exact this)
  have hld := B8.out.1
  go_wp2_with (refine wpList_load_row rfl 38 _ rfl qs rfl 38 #[.int .i64 2, .int .i64 1, .int .i64 1, .int .i64 0, .int .i64 0, .int .i64 0, .int .i64 0, .string ⟨#[97]⟩, .string ⟨#[]⟩, .slice none 0 0, .bool false] (0, 0) _ hld Tryz.underlying38 rfl (by kernel_rfl) ?_)
  clear hld
  refine CD3.out.mono ?_
  rintro e u3 ⟨pv, K3, he, hp, hg, hA, ho, hN, hk⟩
  have he : e = .returned (.agg #[.int .i64 0, .int .i64 0, pv]) := he
  subst he
  obtain ⟨PA, pc, rfl⟩ := hp.ps.shape
  have HO3 : Hid (Only K2 v2 u3) := Lib.hid ho
  have HN3 : Hid (∀ x ∈ K3, x ∈ K2 ∨ v2.heap.size ≤ x) := Lib.hid hN
  have HP3 := Lib.hid hp
  have HA3 := Lib.hid hA
  have HG3 := Lib.hid hg
  have B9 := Lib.hid (B7.out.does HO3.out HN3.out)
  have B10 := Lib.hid (B8.out.does HO3.out HN3.out)
  have B11 := Lib.hid (B6.out.does HO3.out HN3.out)
  obtain ⟨b1, b2, b3⟩ := box_row u3 34 [.int .i64 0, .int .i64 0, .slice none 0 0] [.int .i64 0, .int .i64 0, .slice PA 0 pc]
  have hone : (#[.int .i64 0, .int .i64 0, .slice PA 0 pc] : Array Value).all (·.oneCell') = true := by simp [Value.oneCell']
  have hbw := hA.at_.bw
  have hnew : u3.heap.size ∉ K3 := fun hm => by have := hbw _ hm; omega
  clear hp hg hA ho hN hk hbw CD3 B7 B8 B6 H2
  go_upto_region 8 with (refine wpList_store_row rfl 34 _ _ rfl u3.heap.size #[.int .i64 0, .int .i64 0, .slice PA 0 pc] rfl rfl 34 _ b2 (by kernel_rfl) rfl hone ?_)
  (try simp only [Act.put])
  obtain ⟨v3, hv3⟩ : ∃ u, (u3.alloc (.cells #[.int .i64 0, .int .i64 0, .slice none 0 0] 34)).setRow u3.heap.size #[.int .i64 0, .int .i64 0, .slice PA 0 pc] = u := ⟨_, rfl⟩
  rw [hv3]
  have b1 : Only [] u3 v3 := hv3 ▸ b1
  have b3 : Cells v3 u3.heap.size 34 [.int .i64 0, .int .i64 0, .slice PA 0 pc] := hv3 ▸ b3
  obtain ⟨z3, hz3⟩ : ∃ z, u3.heap.size = z := ⟨_, rfl⟩
  rw [hz3] at b3 hnew ⊢
  have B12 : Hid (Bx v3 K3 z3 34 [.int .i64 0, .int .i64 0, .slice PA 0 pc]) := Lib.hid ⟨b3, hnew⟩
  have H3 := Lib.hid (HA3.out.read b1)
  have HQ3 := Lib.hid (HP3.out.only b1)
  have B13 := Lib.hid (B9.out.read b1)
  have B14 := Lib.hid (B10.out.read b1)
  have B15 := Lib.hid (B11.out.read b1)
  clear b1 b2 b3 hone hnew hv3 hz3 HA3 HP3 HG3 HO3 HN3 B9 B10 B11
  have hs0 := B14.out.1.cell (k := 2) rfl
  have hf0 := B14.out.1.frozen 2
  have hl0 := B14.out.1.lt
  go_upto_region 9 with fail
  obtain ⟨ys2, hy⟩ : ∃ u, v3.setCell ⟨qs, 2, none⟩ (.int .i64 2) = u := ⟨_, rfl⟩
  rw [hy]
  have b1 : Only [qs] v3 ys2 := hy ▸ (Only.refl _ _).setCell (.inl (by simp)) _
  have B16 : Hid (Bx ys2 K3 qs 38 [.int .i64 2, .int .i64 1, .int .i64 2, .int .i64 0, .int .i64 0, .int .i64 0, .int .i64 0, .string ⟨#[97]⟩, .string ⟨#[]⟩, .slice none 0 0, .bool false]) := Lib.hid ⟨hy ▸ B14.out.1.set 2 _, B14.out.2⟩
  have HZs := Lib.hid (H3.out.far b1 (fun x hx => by simp at hx; subst hx; exact ⟨B14.out.2, HLs.out⟩))
  have B17 := Lib.hid (B13.out.far b1 (B13.out.1.ne B14.out.1 (by decide)))
  have B18 := Lib.hid (B15.out.far b1 (B15.out.1.ne B14.out.1 (by decide)))
  have B19 := Lib.hid (B12.out.far b1 (B12.out.1.ne B14.out.1 (by decide)))
  clear hs0 hf0 hl0 b1 hy H3 B14 B13 B15 B12
  have CD4 : Hid (Calls Tryz.prog 20 #[.pointer (some ⟨p, 0, none⟩), .agg #[.int .i64 2, .int .i64 1, .int .i64 2, .int .i64 0, .int .i64 0, .int .i64 0, .int .i64 0, .string ⟨#[97]⟩, .string ⟨#[]⟩, .slice none 0 0, .bool false]] ys2 fun e w' => DoW w ys2 w' p K3 4 sa4 (errR 5) e) := Lib.hid (by
    have := agw_do p K3 sa2 3 (by omega) ⟨2, 1, 2, 0, 0, 0, 0, [97], [], [], false⟩ (.slice none 0 0) w ys2 HZs.out ⟨SlAt.of_own (World.ownsRow_nil _ 0 99 3), (fun x hx => by cases hx), by decide +kernel, by decide +kernel, small_nums (by decide)⟩ (by decide) (itk_nil _ _ _ rfl)
    rw [e19_4] at this
    exact this)
  have hld := B16.out.1
  go_wp2_with (refine wpList_load_row rfl 38 _ rfl qs rfl 38 #[.int .i64 2, .int .i64 1, .int .i64 2, .int .i64 0, .int .i64 0, .int .i64 0, .int .i64 0, .string ⟨#[97]⟩, .string ⟨#[]⟩, .slice none 0 0, .bool false] (0, 0) _ hld Tryz.underlying38 rfl (by kernel_rfl) ?_)
  clear hld
  refine CD4.out.mono ?_
  rintro e u4 ⟨pv, K4, he, hp, hg, hA, ho, hN, hk⟩
  have he : e = .returned (.agg #[.int .i64 5, .int .i64 0, pv]) := he
  subst he
  obtain ⟨PA, pc, rfl⟩ := hp.ps.shape
  have HO4 : Hid (Only K3 ys2 u4) := Lib.hid ho
  have HN4 : Hid (∀ x ∈ K4, x ∈ K3 ∨ ys2.heap.size ≤ x) := Lib.hid hN
  have HP4 := Lib.hid hp
  have HA4 := Lib.hid hA
  have HG4 := Lib.hid hg
  have B20 := Lib.hid (B17.out.does HO4.out HN4.out)
  have B21 := Lib.hid (B16.out.does HO4.out HN4.out)
  have B22 := Lib.hid (B18.out.does HO4.out HN4.out)
  have B23 := Lib.hid (B19.out.does HO4.out HN4.out)
  obtain ⟨b1, b2, b3⟩ := box_row u4 34 [.int .i64 0, .int .i64 0, .slice none 0 0] [.int .i64 5, .int .i64 0, .slice PA 0 pc]
  have hone : (#[.int .i64 5, .int .i64 0, .slice PA 0 pc] : Array Value).all (·.oneCell') = true := by simp [Value.oneCell']
  have hbw := hA.at_.bw
  have hnew : u4.heap.size ∉ K4 := fun hm => by have := hbw _ hm; omega
  clear hp hg hA ho hN hk hbw CD4 B17 B16 B18 B19 HZs
  go_upto_region 10 with (refine wpList_store_row rfl 34 _ _ rfl u4.heap.size #[.int .i64 5, .int .i64 0, .slice PA 0 pc] rfl rfl 34 _ b2 (by kernel_rfl) rfl hone ?_)
  (try simp only [Act.put])
  obtain ⟨v4, hv4⟩ : ∃ u, (u4.alloc (.cells #[.int .i64 0, .int .i64 0, .slice none 0 0] 34)).setRow u4.heap.size #[.int .i64 5, .int .i64 0, .slice PA 0 pc] = u := ⟨_, rfl⟩
  rw [hv4]
  have b1 : Only [] u4 v4 := hv4 ▸ b1
  have b3 : Cells v4 u4.heap.size 34 [.int .i64 5, .int .i64 0, .slice PA 0 pc] := hv4 ▸ b3
  obtain ⟨z4, hz4⟩ : ∃ z, u4.heap.size = z := ⟨_, rfl⟩
  rw [hz4] at b3 hnew ⊢
  have B24 : Hid (Bx v4 K4 z4 34 [.int .i64 5, .int .i64 0, .slice PA 0 pc]) := Lib.hid ⟨b3, hnew⟩
  have H4 := Lib.hid (HA4.out.read b1)
  have HQ4 := Lib.hid (HP4.out.only b1)
  have B25 := Lib.hid (B20.out.read b1)
  have B26 := Lib.hid (B21.out.read b1)
  have B27 := Lib.hid (B22.out.read b1)
  have B28 := Lib.hid (B23.out.read b1)
  clear b1 b2 b3 hone hnew hv4 hz4 HA4 HP4 HG4 HO4 HN4 B20 B21 B22 B23
  have CD5 : Hid (Calls Tryz.prog 20 #[.pointer (some ⟨p, 0, none⟩), .agg #[.int .i64 2, .int .i64 9, .int .i64 1, .int .i64 0, .int .i64 0, .int .i64 0, .int .i64 0, .string ⟨#[98]⟩, .string ⟨#[]⟩, .slice none 0 0, .bool false]] v4 fun e w' => DoW w v4 w' p K4 5 sa4 (errR 17) e) := Lib.hid (by
    have := agw_do p K4 sa4 4 (by omega) ⟨2, 9, 1, 0, 0, 0, 0, [98], [], [], false⟩ (.slice none 0 0) w v4 H4.out ⟨SlAt.of_own (World.ownsRow_nil _ 0 99 3), (fun x hx => by cases hx), by decide +kernel, by decide +kernel, small_nums (by decide)⟩ (by decide) (itk_nil _ _ _ rfl)
    rw [e19_5] at this
    exact this)
  go_wp2_with fail
  refine CD5.out.mono ?_
  rintro e u5 ⟨pv, K5, he, hp, hg, hA, ho, hN, hk⟩
  have he : e = .returned (.agg #[.int .i64 17, .int .i64 0, pv]) := he
  subst he
  obtain ⟨PA, pc, rfl⟩ := hp.ps.shape
  have HO5 : Hid (Only K4 v4 u5) := Lib.hid ho
  have HN5 : Hid (∀ x ∈ K5, x ∈ K4 ∨ v4.heap.size ≤ x) := Lib.hid hN
  have HP5 := Lib.hid hp
  have HA5 := Lib.hid hA
  have HG5 := Lib.hid hg
  have B29 := Lib.hid (B25.out.does HO5.out HN5.out)
  have B30 := Lib.hid (B26.out.does HO5.out HN5.out)
  have B31 := Lib.hid (B27.out.does HO5.out HN5.out)
  have B32 := Lib.hid (B28.out.does HO5.out HN5.out)
  have B33 := Lib.hid (B24.out.does HO5.out HN5.out)
  obtain ⟨b1, b2, b3⟩ := box_row u5 34 [.int .i64 0, .int .i64 0, .slice none 0 0] [.int .i64 17, .int .i64 0, .slice PA 0 pc]
  have hone : (#[.int .i64 17, .int .i64 0, .slice PA 0 pc] : Array Value).all (·.oneCell') = true := by simp [Value.oneCell']
  have hbw := hA.at_.bw
  have hnew : u5.heap.size ∉ K5 := fun hm => by have := hbw _ hm; omega
  clear hp hg hA ho hN hk hbw CD5 B25 B26 B27 B28 B24 H4
  go_upto_region 11 with (refine wpList_store_row rfl 34 _ _ rfl u5.heap.size #[.int .i64 17, .int .i64 0, .slice PA 0 pc] rfl rfl 34 _ b2 (by kernel_rfl) rfl hone ?_)
  (try simp only [Act.put])
  obtain ⟨v5, hv5⟩ : ∃ u, (u5.alloc (.cells #[.int .i64 0, .int .i64 0, .slice none 0 0] 34)).setRow u5.heap.size #[.int .i64 17, .int .i64 0, .slice PA 0 pc] = u := ⟨_, rfl⟩
  rw [hv5]
  have b1 : Only [] u5 v5 := hv5 ▸ b1
  have b3 : Cells v5 u5.heap.size 34 [.int .i64 17, .int .i64 0, .slice PA 0 pc] := hv5 ▸ b3
  obtain ⟨z5, hz5⟩ : ∃ z, u5.heap.size = z := ⟨_, rfl⟩
  rw [hz5] at b3 hnew ⊢
  have B34 : Hid (Bx v5 K5 z5 34 [.int .i64 17, .int .i64 0, .slice PA 0 pc]) := Lib.hid ⟨b3, hnew⟩
  have H5 := Lib.hid (HA5.out.read b1)
  have HQ5 := Lib.hid (HP5.out.only b1)
  have B35 := Lib.hid (B29.out.read b1)
  have B36 := Lib.hid (B30.out.read b1)
  have B37 := Lib.hid (B31.out.read b1)
  have B38 := Lib.hid (B32.out.read b1)
  have B39 := Lib.hid (B33.out.read b1)
  clear b1 b2 b3 hone hnew hv5 hz5 HA5 HP5 HG5 HO5 HN5 B29 B30 B31 B32 B33
  have CD6 : Hid (Calls Tryz.prog 20 #[.pointer (some ⟨p, 0, none⟩), .agg #[.int .i64 7, .int .i64 0, .int .i64 0, .int .i64 4, .int .i64 2, .int .i64 0, .int .i64 0, .string ⟨#[]⟩, .string ⟨#[]⟩, .slice none 0 0, .bool false]] v5 fun e w' => DoW w v5 w' p K5 6 sa6 (⟨0, 1, []⟩) e) := Lib.hid (by
    have := agw_do p K5 sa4 5 (by omega) ⟨7, 0, 0, 4, 2, 0, 0, [], [], [], false⟩ (.slice none 0 0) w v5 H5.out ⟨SlAt.of_own (World.ownsRow_nil _ 0 99 3), (fun x hx => by cases hx), by decide +kernel, by decide +kernel, small_nums (by decide)⟩ (by decide) (itk_nil _ _ _ rfl)
    rw [e19_6] at this
    exact this)
  go_wp2_with fail
  refine CD6.out.mono ?_
  rintro e u6 ⟨pv, K6, he, hp, hg, hA, ho, hN, hk⟩
  have he : e = .returned (.agg #[.int .i64 0, .int .i64 1, pv]) := he
  subst he
  obtain ⟨PA, pc, rfl⟩ := hp.ps.shape
  have HO6 : Hid (Only K5 v5 u6) := Lib.hid ho
  have HN6 : Hid (∀ x ∈ K6, x ∈ K5 ∨ v5.heap.size ≤ x) := Lib.hid hN
  have HP6 := Lib.hid hp
  have HA6 := Lib.hid hA
  have HG6 := Lib.hid hg
  have B40 := Lib.hid (B35.out.does HO6.out HN6.out)
  have B41 := Lib.hid (B36.out.does HO6.out HN6.out)
  have B42 := Lib.hid (B37.out.does HO6.out HN6.out)
  have B43 := Lib.hid (B38.out.does HO6.out HN6.out)
  have B44 := Lib.hid (B39.out.does HO6.out HN6.out)
  have B45 := Lib.hid (B34.out.does HO6.out HN6.out)
  obtain ⟨b1, b2, b3⟩ := box_row u6 34 [.int .i64 0, .int .i64 0, .slice none 0 0] [.int .i64 0, .int .i64 1, .slice PA 0 pc]
  have hone : (#[.int .i64 0, .int .i64 1, .slice PA 0 pc] : Array Value).all (·.oneCell') = true := by simp [Value.oneCell']
  have hbw := hA.at_.bw
  have hnew : u6.heap.size ∉ K6 := fun hm => by have := hbw _ hm; omega
  clear hp hg hA ho hN hk hbw CD6 B35 B36 B37 B38 B39 B34 H5
  go_upto_region 12 with (refine wpList_store_row rfl 34 _ _ rfl u6.heap.size #[.int .i64 0, .int .i64 1, .slice PA 0 pc] rfl rfl 34 _ b2 (by kernel_rfl) rfl hone ?_)
  (try simp only [Act.put])
  obtain ⟨v6, hv6⟩ : ∃ u, (u6.alloc (.cells #[.int .i64 0, .int .i64 0, .slice none 0 0] 34)).setRow u6.heap.size #[.int .i64 0, .int .i64 1, .slice PA 0 pc] = u := ⟨_, rfl⟩
  rw [hv6]
  have b1 : Only [] u6 v6 := hv6 ▸ b1
  have b3 : Cells v6 u6.heap.size 34 [.int .i64 0, .int .i64 1, .slice PA 0 pc] := hv6 ▸ b3
  obtain ⟨z6, hz6⟩ : ∃ z, u6.heap.size = z := ⟨_, rfl⟩
  rw [hz6] at b3 hnew ⊢
  have B46 : Hid (Bx v6 K6 z6 34 [.int .i64 0, .int .i64 1, .slice PA 0 pc]) := Lib.hid ⟨b3, hnew⟩
  have H6 := Lib.hid (HA6.out.read b1)
  have HQ6 := Lib.hid (HP6.out.only b1)
  have B47 := Lib.hid (B40.out.read b1)
  have B48 := Lib.hid (B41.out.read b1)
  have B49 := Lib.hid (B42.out.read b1)
  have B50 := Lib.hid (B43.out.read b1)
  have B51 := Lib.hid (B44.out.read b1)
  have B52 := Lib.hid (B45.out.read b1)
  clear b1 b2 b3 hone hnew hv6 hz6 HA6 HP6 HG6 HO6 HN6 B40 B41 B42 B43 B44 B45
  obtain ⟨wi, hwi⟩ : ∃ u, v6.alloc (.cells #[.string ⟨#[120]⟩, .string ⟨#[]⟩, .string ⟨#[]⟩] 99) = u := ⟨_, rfl⟩
  have hsz : wi.heap.size = v6.heap.size + 1 := by rw [← hwi, World.size_alloc]
  obtain ⟨b1, b2, b3⟩ := box_row wi 38 [.int .i64 0, .int .i64 0, .int .i64 0, .int .i64 0, .int .i64 0, .int .i64 0, .int .i64 0, .string ⟨#[]⟩, .string ⟨#[]⟩, .slice none 0 0, .bool false] [.int .i64 8, .int .i64 0, .int .i64 0, .int .i64 4, .int .i64 2, .int .i64 1, .int .i64 0, .string ⟨#[97]⟩, .string ⟨#[]⟩, .slice (some ⟨v6.heap.size, 0, none⟩) 1 1, .bool false]
  rw [hsz, ← hwi] at b1 b2 b3
  have hone : (#[.int .i64 8, .int .i64 0, .int .i64 0, .int .i64 4, .int .i64 2, .int .i64 1, .int .i64 0, .string ⟨#[97]⟩, .string ⟨#[]⟩, .slice (some ⟨v6.heap.size, 0, none⟩) 1 1, .bool false] : Array Value).all (·.oneCell') = true := by simp [Value.oneCell']
  have hnew : v6.heap.size + 1 ∉ K6 := fun hm => by have := H6.out.at_.bw _ hm; omega
  have hnew2 : v6.heap.size ∉ K6 := fun hm => by have := H6.out.at_.bw _ hm; omega
  clear hwi hsz wi
  go_upto_region 13 with (refine wpList_store_row rfl 38 _ _ rfl (v6.heap.size + 1) #[.int .i64 8, .int .i64 0, .int .i64 0, .int .i64 4, .int .i64 2, .int .i64 1, .int .i64 0, .string ⟨#[97]⟩, .string ⟨#[]⟩, .slice (some ⟨v6.heap.size, 0, none⟩) 1 1, .bool false] rfl rfl 38 _ b2 (by kernel_rfl) rfl hone ?_)
  (try simp only [Act.put])
  obtain ⟨yi, hy⟩ : ∃ u, ((v6.alloc (.cells #[.string ⟨#[120]⟩, .string ⟨#[]⟩, .string ⟨#[]⟩] 99)).alloc (.cells #[.int .i64 0, .int .i64 0, .int .i64 0, .int .i64 0, .int .i64 0, .int .i64 0, .int .i64 0, .string ⟨#[]⟩, .string ⟨#[]⟩, .slice none 0 0, .bool false] 38)).setRow (v6.heap.size + 1) #[.int .i64 8, .int .i64 0, .int .i64 0, .int .i64 4, .int .i64 2, .int .i64 1, .int .i64 0, .string ⟨#[97]⟩, .string ⟨#[]⟩, .slice (some ⟨v6.heap.size, 0, none⟩) 1 1, .bool false] = u := ⟨_, rfl⟩
  rw [hy]
  have b0 : Only [] (v6.alloc (.cells #[.string ⟨#[120]⟩, .string ⟨#[]⟩, .string ⟨#[]⟩] 99)) yi := hy ▸ b1
  have b1 : Only [] v6 yi := Only.tr0 ((Only.refl _ _).alloc _) b0
  have b3 : Cells yi (v6.heap.size + 1) 38 [.int .i64 8, .int .i64 0, .int .i64 0, .int .i64 4, .int .i64 2, .int .i64 1, .int .i64 0, .string ⟨#[97]⟩, .string ⟨#[]⟩, .slice (some ⟨v6.heap.size, 0, none⟩) 1 1, .bool false] := hy ▸ b3
  have b4 : Cells yi v6.heap.size 99 [.string ⟨#[120]⟩, .string ⟨#[]⟩, .string ⟨#[]⟩] := (Cells.new v6 _ _).only b0 (by simp)
  obtain ⟨qi, hz⟩ : ∃ z, v6.heap.size + 1 = z := ⟨_, rfl⟩
  obtain ⟨ib, hib⟩ : ∃ z, v6.heap.size = z := ⟨_, rfl⟩
  have hbase := H6.out.ho.size
  rw [hz, hib] at b3
  rw [hib] at b4 hnew2 hbase
  rw [hz] at hnew
  rw [hz, hib]
  rw [hib] at hz
  have HLi : Hid (w.heap.size ≤ qi) := Lib.hid (by omega)
  have B53 : Hid (Bx yi K6 qi 38 [.int .i64 8, .int .i64 0, .int .i64 0, .int .i64 4, .int .i64 2, .int .i64 1, .int .i64 0, .string ⟨#[97]⟩, .string ⟨#[]⟩, .slice (some ⟨ib, 0, none⟩) 1 1, .bool false]) := Lib.hid ⟨b3, hnew⟩
  have B54 : Hid (Bx yi K6 ib 99 [.string ⟨#[120]⟩, .string ⟨#[]⟩, .string ⟨#[]⟩]) := Lib.hid ⟨b4, hnew2⟩
  have HYi := Lib.hid (H6.out.read b1)
  have B55 := Lib.hid (B47.out.read b1)
  have B56 := Lib.hid (B49.out.read b1)
  have B57 := Lib.hid (B50.out.read b1)
  have B58 := Lib.hid (B51.out.read b1)
  have B59 := Lib.hid (B52.out.read b1)
  have B60 := Lib.hid (B46.out.read b1)
  clear b0 b1 b2 b3 b4 hone hnew hnew2 hy hz hib hbase H6 B47 B49 B50 B51 B52 B46
  have CD7 : Hid (Calls Tryz.prog 20 #[.pointer (some ⟨p, 0, none⟩), .agg #[.int .i64 8, .int .i64 0, .int .i64 0, .int .i64 4, .int .i64 2, .int .i64 1, .int .i64 0, .string ⟨#[97]⟩, .string ⟨#[]⟩, .slice (some ⟨ib, 0, none⟩) 1 1, .bool false]] yi fun e w' => DoW w yi w' p K6 7 sa7 (⟨0, 1, []⟩) e) := Lib.hid (by
    have := agw_do p K6 sa6 6 (by omega) ⟨8, 0, 0, 4, 2, 1, 0, [97], [], [iX], false⟩ (.slice (some ⟨ib, 0, none⟩) 1 1) w yi HYi.out (cmat_box B54.out.1 _ rfl (by decide +kernel) (by decide +kernel) (small_nums (by decide))) (by decide) (itk_box B54.out _ rfl)
    rw [e19_7] at this
    exact this)
  have hld := B53.out.1
  go_wp2_with (refine wpList_load_row rfl 38 _ rfl qi rfl 38 #[.int .i64 8, .int .i64 0, .int .i64 0, .int .i64 4, .int .i64 2, .int .i64 1, .int .i64 0, .string ⟨#[97]⟩, .string ⟨#[]⟩, .slice (some ⟨ib, 0, none⟩) 1 1, .bool false] (0, 0) _ hld Tryz.underlying38 rfl (by kernel_rfl) ?_)
  clear hld
  refine CD7.out.mono ?_
  rintro e u7 ⟨pv, K7, he, hp, hg, hA, ho, hN, hk⟩
  have he : e = .returned (.agg #[.int .i64 0, .int .i64 1, pv]) := he
  subst he
  obtain ⟨PA, pc, rfl⟩ := hp.ps.shape
  have HO7 : Hid (Only K6 yi u7) := Lib.hid ho
  have HN7 : Hid (∀ x ∈ K7, x ∈ K6 ∨ yi.heap.size ≤ x) := Lib.hid hN
  have HP7 := Lib.hid hp
  have HA7 := Lib.hid hA
  have HG7 := Lib.hid hg
  have B61 := Lib.hid (B55.out.does HO7.out HN7.out)
  have B62 := Lib.hid (B56.out.does HO7.out HN7.out)
  have B63 := Lib.hid (B57.out.does HO7.out HN7.out)
  have B64 := Lib.hid (B58.out.does HO7.out HN7.out)
  have B65 := Lib.hid (B59.out.does HO7.out HN7.out)
  have B66 := Lib.hid (B60.out.does HO7.out HN7.out)
  have B67 := Lib.hid (B53.out.does HO7.out HN7.out)
  have B68 := Lib.hid (B54.out.does HO7.out HN7.out)
  obtain ⟨b1, b2, b3⟩ := box_row u7 34 [.int .i64 0, .int .i64 0, .slice none 0 0] [.int .i64 0, .int .i64 1, .slice PA 0 pc]
  have hone : (#[.int .i64 0, .int .i64 1, .slice PA 0 pc] : Array Value).all (·.oneCell') = true := by simp [Value.oneCell']
  have hbw := hA.at_.bw
  have hnew : u7.heap.size ∉ K7 := fun hm => by have := hbw _ hm; omega
  clear hp hg hA ho hN hk hbw CD7 B55 B56 B57 B58 B59 B60 B53 B54 HYi
  go_upto_region 14 with (refine wpList_store_row rfl 34 _ _ rfl u7.heap.size #[.int .i64 0, .int .i64 1, .slice PA 0 pc] rfl rfl 34 _ b2 (by kernel_rfl) rfl hone ?_)
  (try simp only [Act.put])
  obtain ⟨v7, hv7⟩ : ∃ u, (u7.alloc (.cells #[.int .i64 0, .int .i64 0, .slice none 0 0] 34)).setRow u7.heap.size #[.int .i64 0, .int .i64 1, .slice PA 0 pc] = u := ⟨_, rfl⟩
  rw [hv7]
  have b1 : Only [] u7 v7 := hv7 ▸ b1
  have b3 : Cells v7 u7.heap.size 34 [.int .i64 0, .int .i64 1, .slice PA 0 pc] := hv7 ▸ b3
  obtain ⟨z7, hz7⟩ : ∃ z, u7.heap.size = z := ⟨_, rfl⟩
  rw [hz7] at b3 hnew ⊢
  have B69 : Hid (Bx v7 K7 z7 34 [.int .i64 0, .int .i64 1, .slice PA 0 pc]) := Lib.hid ⟨b3, hnew⟩
  have H7 := Lib.hid (HA7.out.read b1)
  have HQ7 := Lib.hid (HP7.out.only b1)
  have B70 := Lib.hid (B61.out.read b1)
  have B71 := Lib.hid (B62.out.read b1)
  have B72 := Lib.hid (B63.out.read b1)
  have B73 := Lib.hid (B64.out.read b1)
  have B74 := Lib.hid (B65.out.read b1)
  have B75 := Lib.hid (B66.out.read b1)
  have B76 := Lib.hid (B67.out.read b1)
  have B77 := Lib.hid (B68.out.read b1)
  clear b1 b2 b3 hone hnew hv7 hz7 HA7 HP7 HG7 HO7 HN7 B61 B62 B63 B64 B65 B66 B67 B68
  have hs0 := B76.out.1.cell (k := 5) rfl
  have hf0 := B76.out.1.frozen 5
  have hl0 := B76.out.1.lt
  go_upto_region 15 with fail
  obtain ⟨yi2, hy⟩ : ∃ u, v7.setCell ⟨qi, 5, none⟩ (.int .i64 2) = u := ⟨_, rfl⟩
  rw [hy]
  have b1 : Only [qi] v7 yi2 := hy ▸ (Only.refl _ _).setCell (.inl (by simp)) _
  have B78 : Hid (Bx yi2 K7 qi 38 [.int .i64 8, .int .i64 0, .int .i64 0, .int .i64 4, .int .i64 2, .int .i64 2, .int .i64 0, .string ⟨#[97]⟩, .string ⟨#[]⟩, .slice (some ⟨ib, 0, none⟩) 1 1, .bool false]) := Lib.hid ⟨hy ▸ B76.out.1.set 5 _, B76.out.2⟩
  have HZi := Lib.hid (H7.out.far b1 (fun x hx => by simp at hx; subst hx; exact ⟨B76.out.2, HLi.out⟩))
  have B79 := Lib.hid (B70.out.far b1 (B70.out.1.ne B76.out.1 (by decide)))
  have B80 := Lib.hid (B71.out.far b1 (B71.out.1.ne B76.out.1 (by decide)))
  have B81 := Lib.hid (B72.out.far b1 (B72.out.1.ne B76.out.1 (by decide)))
  have B82 := Lib.hid (B73.out.far b1 (B73.out.1.ne B76.out.1 (by decide)))
  have B83 := Lib.hid (B74.out.far b1 (B74.out.1.ne B76.out.1 (by decide)))
  have B84 := Lib.hid (B75.out.far b1 (B75.out.1.ne B76.out.1 (by decide)))
  have B85 := Lib.hid (B77.out.far b1 (B77.out.1.ne B76.out.1 (by decide)))
  have B86 := Lib.hid (B69.out.far b1 (B69.out.1.ne B76.out.1 (by decide)))
  clear hs0 hf0 hl0 b1 hy H7 B76 B70 B71 B72 B73 B74 B75 B77 B69
  have CD8 : Hid (Calls Tryz.prog 20 #[.pointer (some ⟨p, 0, none⟩), .agg #[.int .i64 8, .int .i64 0, .int .i64 0, .int .i64 4, .int .i64 2, .int .i64 2, .int .i64 0, .string ⟨#[97]⟩, .string ⟨#[]⟩, .slice (some ⟨ib, 0, none⟩) 1 1, .bool false]] yi2 fun e w' => DoW w yi2 w' p K7 8 sa7 (errR 15) e) := Lib.hid (by
    have := agw_do p K7 sa7 7 (by omega) ⟨8, 0, 0, 4, 2, 2, 0, [97], [], [iX], false⟩ (.slice (some ⟨ib, 0, none⟩) 1 1) w yi2 HZi.out (cmat_box B85.out.1 _ rfl (by decide +kernel) (by decide +kernel) (small_nums (by decide))) (by decide) (itk_box B85.out _ rfl)
    rw [e19_8] at this
    exact this)
  have hld := B78.out.1
  go_wp2_with (refine wpList_load_row rfl 38 _ rfl qi rfl 38 #[.int .i64 8, .int .i64 0, .int .i64 0, .int .i64 4, .int .i64 2, .int .i64 2, .int .i64 0, .string ⟨#[97]⟩, .string ⟨#[]⟩, .slice (some ⟨ib, 0, none⟩) 1 1, .bool false] (0, 0) _ hld Tryz.underlying38 rfl (by kernel_rfl) ?_)
  clear hld
  refine CD8.out.mono ?_
  rintro e u8 ⟨pv, K8, he, hp, hg, hA, ho, hN, hk⟩
  have he : e = .returned (.agg #[.int .i64 15, .int .i64 0, pv]) := he
  subst he
  obtain ⟨PA, pc, rfl⟩ := hp.ps.shape
  have HO8 : Hid (Only K7 yi2 u8) := Lib.hid ho
  have HN8 : Hid (∀ x ∈ K8, x ∈ K7 ∨ yi2.heap.size ≤ x) := Lib.hid hN
  have HP8 := Lib.hid hp
  have HA8 := Lib.hid hA
  have HG8 := Lib.hid hg
  have B87 := Lib.hid (B79.out.does HO8.out HN8.out)
  have B88 := Lib.hid (B80.out.does HO8.out HN8.out)
  have B89 := Lib.hid (B81.out.does HO8.out HN8.out)
  have B90 := Lib.hid (B82.out.does HO8.out HN8.out)
  have B91 := Lib.hid (B83.out.does HO8.out HN8.out)
  have B92 := Lib.hid (B84.out.does HO8.out HN8.out)
  have B93 := Lib.hid (B78.out.does HO8.out HN8.out)
  have B94 := Lib.hid (B85.out.does HO8.out HN8.out)
  have B95 := Lib.hid (B86.out.does HO8.out HN8.out)
  obtain ⟨b1, b2, b3⟩ := box_row u8 34 [.int .i64 0, .int .i64 0, .slice none 0 0] [.int .i64 15, .int .i64 0, .slice PA 0 pc]
  have hone : (#[.int .i64 15, .int .i64 0, .slice PA 0 pc] : Array Value).all (·.oneCell') = true := by simp [Value.oneCell']
  have hbw := hA.at_.bw
  have hnew : u8.heap.size ∉ K8 := fun hm => by have := hbw _ hm; omega
  clear hp hg hA ho hN hk hbw CD8 B79 B80 B81 B82 B83 B84 B78 B85 B86 HZi
  go_upto_region 16 with (refine wpList_store_row rfl 34 _ _ rfl u8.heap.size #[.int .i64 15, .int .i64 0, .slice PA 0 pc] rfl rfl 34 _ b2 (by kernel_rfl) rfl hone ?_)
  (try simp only [Act.put])
  obtain ⟨v8, hv8⟩ : ∃ u, (u8.alloc (.cells #[.int .i64 0, .int .i64 0, .slice none 0 0] 34)).setRow u8.heap.size #[.int .i64 15, .int .i64 0, .slice PA 0 pc] = u := ⟨_, rfl⟩
  rw [hv8]
  have b1 : Only [] u8 v8 := hv8 ▸ b1
  have b3 : Cells v8 u8.heap.size 34 [.int .i64 15, .int .i64 0, .slice PA 0 pc] := hv8 ▸ b3
  obtain ⟨z8, hz8⟩ : ∃ z, u8.heap.size = z := ⟨_, rfl⟩
  rw [hz8] at b3 hnew ⊢
  have B96 : Hid (Bx v8 K8 z8 34 [.int .i64 15, .int .i64 0, .slice PA 0 pc]) := Lib.hid ⟨b3, hnew⟩
  have H8 := Lib.hid (HA8.out.read b1)
  have HQ8 := Lib.hid (HP8.out.only b1)
  have B97 := Lib.hid (B87.out.read b1)
  have B98 := Lib.hid (B88.out.read b1)
  have B99 := Lib.hid (B89.out.read b1)
  have B100 := Lib.hid (B90.out.read b1)
  have B101 := Lib.hid (B91.out.read b1)
  have B102 := Lib.hid (B92.out.read b1)
  have B103 := Lib.hid (B93.out.read b1)
  have B104 := Lib.hid (B94.out.read b1)
  have B105 := Lib.hid (B95.out.read b1)
  clear b1 b2 b3 hone hnew hv8 hz8 HA8 HP8 HG8 HO8 HN8 B87 B88 B89 B90 B91 B92 B93 B94 B95
  have CD9 : Hid (Calls Tryz.prog 20 #[.pointer (some ⟨p, 0, none⟩), .agg #[.int .i64 5, .int .i64 1, .int .i64 3, .int .i64 0, .int .i64 0, .int .i64 0, .int .i64 0, .string ⟨#[97]⟩, .string ⟨#[]⟩, .slice none 0 0, .bool false]] v8 fun e w' => DoW w v8 w' p K8 9 sa9 (⟨0, 0, [⟨1, iX, false⟩]⟩) e) := Lib.hid (by
    have := agw_do p K8 sa7 8 (by omega) ⟨5, 1, 3, 0, 0, 0, 0, [97], [], [], false⟩ (.slice none 0 0) w v8 H8.out ⟨SlAt.of_own (World.ownsRow_nil _ 0 99 3), (fun x hx => by cases hx), by decide +kernel, by decide +kernel, small_nums (by decide)⟩ (by decide) (itk_nil _ _ _ rfl)
    rw [e19_9] at this
    exact this)
  go_wp2_with fail
  refine CD9.out.mono ?_
  rintro e u9 ⟨pv, K9, he, hp, hg, hA, ho, hN, hk⟩
  have he : e = .returned (.agg #[.int .i64 0, .int .i64 0, pv]) := he
  subst he
  obtain ⟨PA, pc, rfl⟩ := hp.ps.shape
  have HO9 : Hid (Only K8 v8 u9) := Lib.hid ho
  have HN9 : Hid (∀ x ∈ K9, x ∈ K8 ∨ v8.heap.size ≤ x) := Lib.hid hN
  have HP9 := Lib.hid hp
  have HA9 := Lib.hid hA
  have HG9 := Lib.hid hg
  have B106 := Lib.hid (B97.out.does HO9.out HN9.out)
  have B107 := Lib.hid (B98.out.does HO9.out HN9.out)
  have B108 := Lib.hid (B99.out.does HO9.out HN9.out)
  have B109 := Lib.hid (B100.out.does HO9.out HN9.out)
  have B110 := Lib.hid (B101.out.does HO9.out HN9.out)
  have B111 := Lib.hid (B102.out.does HO9.out HN9.out)
  have B112 := Lib.hid (B105.out.does HO9.out HN9.out)
  have B113 := Lib.hid (B96.out.does HO9.out HN9.out)
  obtain ⟨b1, b2, b3⟩ := box_row u9 34 [.int .i64 0, .int .i64 0, .slice none 0 0] [.int .i64 0, .int .i64 0, .slice PA 1 pc]
  have hone : (#[.int .i64 0, .int .i64 0, .slice PA 1 pc] : Array Value).all (·.oneCell') = true := by simp [Value.oneCell']
  have hbw := hA.at_.bw
  have hnew : u9.heap.size ∉ K9 := fun hm => by have := hbw _ hm; omega
  clear hp hg hA ho hN hk hbw CD9 B97 B98 B99 B100 B101 B102 B105 B96 H8
  go_upto_region 17 with (refine wpList_store_row rfl 34 _ _ rfl u9.heap.size #[.int .i64 0, .int .i64 0, .slice PA 1 pc] rfl rfl 34 _ b2 (by kernel_rfl) rfl hone ?_)
  (try simp only [Act.put])
  obtain ⟨v9, hv9⟩ : ∃ u, (u9.alloc (.cells #[.int .i64 0, .int .i64 0, .slice none 0 0] 34)).setRow u9.heap.size #[.int .i64 0, .int .i64 0, .slice PA 1 pc] = u := ⟨_, rfl⟩
  rw [hv9]
  have b1 : Only [] u9 v9 := hv9 ▸ b1
  have b3 : Cells v9 u9.heap.size 34 [.int .i64 0, .int .i64 0, .slice PA 1 pc] := hv9 ▸ b3
  obtain ⟨z9, hz9⟩ : ∃ z, u9.heap.size = z := ⟨_, rfl⟩
  rw [hz9] at b3 hnew ⊢
  have B114 : Hid (Bx v9 K9 z9 34 [.int .i64 0, .int .i64 0, .slice PA 1 pc]) := Lib.hid ⟨b3, hnew⟩
  have H9 := Lib.hid (HA9.out.read b1)
  have HQ9 := Lib.hid (HP9.out.only b1)
  have B115 := Lib.hid (B106.out.read b1)
  have B116 := Lib.hid (B107.out.read b1)
  have B117 := Lib.hid (B108.out.read b1)
  have B118 := Lib.hid (B109.out.read b1)
  have B119 := Lib.hid (B110.out.read b1)
  have B120 := Lib.hid (B111.out.read b1)
  have B121 := Lib.hid (B112.out.read b1)
  have B122 := Lib.hid (B113.out.read b1)
  clear b1 b2 b3 hone hnew hv9 hz9 HA9 HP9 HG9 HO9 HN9 B106 B107 B108 B109 B110 B111 B112 B113
  have eb1 := B115.out.1.cell (k := 1) rfl
  have lb1 := B115.out.1.lt
  have eb2 := B116.out.1.cell (k := 0) rfl
  have lb2 := B116.out.1.lt
  have eb3 := B117.out.1.cell (k := 0) rfl
  have lb3 := B117.out.1.lt
  have eb4 := B118.out.1.cell (k := 0) rfl
  have lb4 := B118.out.1.lt
  have eb5 := B119.out.1.cell (k := 0) rfl
  have lb5 := B119.out.1.lt
  have eb6 := B120.out.1.cell (k := 1) rfl
  have lb6 := B120.out.1.lt
  have eb7 := B121.out.1.cell (k := 1) rfl
  have lb7 := B121.out.1.lt
  have eb8 := B122.out.1.cell (k := 0) rfl
  have lb8 := B122.out.1.lt
  have eb9 := B114.out.1.cell (k := 2) rfl
  have lb9 := B114.out.1.lt
  have oP : Only [] v9 (v9.alloc (.cells #[.int .i64 1, .string ⟨#[120]⟩, .string ⟨#[]⟩, .string ⟨#[]⟩, .bool false] 101)) := (Only.refl _ _).alloc _
  have CP : Hid (Calls Tryz.prog 25 #[.slice PA 1 pc, .slice (some ⟨v9.heap.size, 0, none⟩) 1 1] (v9.alloc (.cells #[.int .i64 1, .string ⟨#[120]⟩, .string ⟨#[]⟩, .string ⟨#[]⟩, .bool false] 101)) fun e w' => e = .returned (.bool true) ∧ Only [] (v9.alloc (.cells #[.int .i64 1, .string ⟨#[120]⟩, .string ⟨#[]⟩, .string ⟨#[]⟩, .bool false] 101)) w') := Lib.hid (posts19 _ _ [⟨1, iX, false⟩] _ (HQ9.out.only oP).ps (SlAt.cells (n := 1) (sz := 5) (Cells.new v9 _ [.int .i64 1, .string ⟨#[120]⟩, .string ⟨#[]⟩, .string ⟨#[]⟩, .bool false]) rfl (by unfold maxLen; omega)) (by decide))
  have HF : Hid (Only [] w (v9.alloc (.cells #[.int .i64 1, .string ⟨#[120]⟩, .string ⟨#[]⟩, .string ⟨#[]⟩, .bool false] 101))) := Lib.hid (H9.out.ho.tr oP)
  clear oP
  go_wp2_with fail
  refine CP.out.mono ?_
  rintro e wz ⟨rfl, hoz⟩
  go_wp2_with fail
  go_ret
  exact ⟨rfl, HF.out.tr hoz⟩
end Go.Proofs.YtcjfmildalappaaGreat
namespace Go.Proofs.YtcjfmildalappaaGreat
open Go.RowKit
theorem grant_now (t : L16.Tb) (k m : Int) : (t.grant k m).1.now = t.now := by
  unfold L16.Tb.grant
  split
  · split
    · split <;> rfl
    · rfl
  · rfl
theorem grant_epoch {t : L16.Tb} (hl : t.l.length = 8) (k m j : Int) : (t.get j).epoch ≤ ((t.grant k m).1.get j).epoch := by
  by_cases h : 0 ≤ k ∧ k < 8 ∧ 1 ≤ m ∧ m ≤ 9
  · rcases L16.Tb.grant_cases t hl k m ⟨h.1, h.2.1⟩ ⟨h.2.2.1, h.2.2.2⟩ with ⟨t', ep, he, _, _, hg, hc⟩ | ⟨he, _⟩
    · rw [he]
      show _ ≤ (t'.get j).epoch
      rw [hg]
      by_cases hj : j = k
      · rw [if_pos hj]
        show _ ≤ ep
        rw [hj]
        omega
      · rw [if_neg hj]; exact Int.le_refl _
    · rw [he]; exact Int.le_refl _
  · unfold L16.Tb.grant
    rw [if_neg h]; exact Int.le_refl _
theorem ingA_d (a : AgS) (c : Cm) : (ingA a c).2.d = a.d ∧ (ingA a c).2.t = a.t := by
  unfold ingA
  split
  · exact ⟨rfl, rfl⟩
  · split <;> exact ⟨rfl, rfl⟩
theorem doA_d (a : AgS) (c : Cm) : (doA a c).2.d = if rightB c = true ∧ c.kd = 6 then a.d.tick else if rightB c = true ∧ c.kd = 7 then (a.d.grant c.sh c.nd).1 else a.d := by
  unfold doA
  by_cases hr : rightB c = false
  · rw [if_pos hr, if_neg (by simp [hr]), if_neg (by simp [hr])]
  · have hr' : rightB c = true := by simpa using hr
    rw [if_neg hr]
    by_cases hc : clB c.kd = false
    · rw [if_pos hc]
      unfold othA
      by_cases h1 : c.kd = 1
      · rw [if_pos h1, if_neg (c := rightB c = true ∧ c.kd = 6) (by omega), if_neg (c := rightB c = true ∧ c.kd = 7) (by omega)]
      · rw [if_neg h1]
        by_cases h6 : c.kd = 6
        · rw [if_pos h6, if_pos ⟨hr', h6⟩]
        · rw [if_neg h6, if_neg (c := rightB c = true ∧ c.kd = 6) (fun h => h6 h.2)]
          by_cases h7 : c.kd = 7
          · rw [if_pos h7, if_pos ⟨hr', h7⟩]
          · rw [if_neg h7, if_neg (c := rightB c = true ∧ c.kd = 7) (fun h => h7 h.2)]
            by_cases h9 : c.kd = 9
            · rw [if_pos h9]
            · rw [if_neg h9]; exact (ingA_d a c).1
    · rw [if_neg hc]
      have h6 : ¬ c.kd = 6 := fun h => hc (by rw [h]; rfl)
      have h7 : ¬ c.kd = 7 := fun h => hc (by rw [h]; rfl)
      rw [if_neg (c := rightB c = true ∧ c.kd = 6) (fun h => h6 h.2), if_neg (c := rightB c = true ∧ c.kd = 7) (fun h => h7 h.2)]
      split
      · rfl
      · split
        · rfl
        · split <;> rfl
/-- The time is how many ticks were done. -/
theorem doA_now (a : AgS) (c : Cm) : (doA a c).2.d.now = a.d.now + (if c.kd = 6 ∧ (doA a c).1.er = 0 then 1 else 0) ∧ (c.kd = 6 → (doA a c).1.er = 0 → (doA a c).1.n = a.d.now + 1) := by
  rw [doA_d]
  by_cases h6 : c.kd = 6
  · have hcl : clB c.kd = false := by rw [h6]; rfl
    by_cases hr : rightB c = true
    · have e : doA a c = (⟨0, a.d.now + 1, []⟩, ⟨a.t, a.d.tick, a.s⟩) := by
        unfold doA
        rw [if_neg (by simp [hr]), if_pos hcl]
        unfold othA
        rw [if_neg (by omega), if_pos h6]
      rw [e, if_pos ⟨hr, h6⟩, if_pos ⟨h6, rfl⟩]
      exact ⟨rfl, fun _ _ => rfl⟩
    · have e : doA a c = (errR 1, a) := by
        unfold doA
        rw [if_pos (by simpa using hr)]
      rw [e, if_neg (fun h => hr h.1), if_neg (fun h => hr h.1), if_neg (fun h => by have : (1 : Int) = 0 := h.2; omega)]
      exact ⟨by omega, fun _ h => by have : (1 : Int) = 0 := h; omega⟩
  · rw [if_neg (fun h => h6 h.2), if_neg (c := c.kd = 6 ∧ _) (fun h => h6 h.1)]
    refine ⟨?_, fun h => absurd h h6⟩
    split
    · rw [grant_now]; omega
    · omega
/-- Epochs never go down. -/
theorem doA_epoch {a : AgS} (hl : a.d.l.length = 8) (c : Cm) (k : Int) : (a.d.get k).epoch ≤ ((doA a c).2.d.get k).epoch ∧ (c.kd ≠ 7 → ((doA a c).2.d.get k).epoch = (a.d.get k).epoch) := by
  rw [doA_d]
  split
  · exact ⟨Int.le_refl _, fun _ => rfl⟩
  · split
    · rename_i h
      exact ⟨grant_epoch hl _ _ _, fun h' => absurd h.2 h'⟩
    · exact ⟨Int.le_refl _, fun _ => rfl⟩
theorem once_eq {l : List S15.Ses} (ho : S15.Once l) {x y : S15.Ses} (hx : x ∈ l) (hy : y ∈ l) (h : x.id = y.id) : x = y := by
  unfold S15.Once at ho
  induction l with
  | nil => cases hx
  | cons a l ih =>
    rw [List.map_cons, List.nodup_cons] at ho
    rcases List.mem_cons.1 hx with rfl | hx'
    · rcases List.mem_cons.1 hy with rfl | hy'
      · rfl
      · exact absurd (List.mem_map.2 ⟨y, hy', h.symm⟩) ho.1
    · rcases List.mem_cons.1 hy with e | hy'
      · subst e
        exact absurd (List.mem_map.2 ⟨x, hx', h⟩) ho.1
      · exact ih ho.2 hx' hy'
theorem atS_of {l : List S15.Ses} (ho : S15.Once l) {x : S15.Ses} (hx : x ∈ l) : S15.atS l x.id = some x := by
  have hlt : S15.fndS l x.id < l.length := List.findIdx_lt_length_of_exists ⟨x, hx, by simp⟩
  obtain ⟨y, hy, hyi⟩ := S15.fndS_id hlt
  unfold S15.atS
  rw [hy, once_eq ho (List.mem_of_getElem? hy) hx hyi]
theorem did_reg {id seq : Int} {r : ByteArray} {t : S15.TS} (h : S15.Did id seq r t) : S15.Did id seq r ⟨S15.regL t.l ⟨t.ever + 1, 0, .empty⟩, t.ever + 1⟩ := S15.did_does h ⟨0, 0, 0, .empty⟩
theorem did_done {id seq : Int} {r : ByteArray} {t : S15.TS} (h : S15.Did id seq r t) (i s : Int) (q : ByteArray) : S15.Did id seq r ⟨S15.doneL t.l i s q, t.ever⟩ := S15.did_does h ⟨2, i, s, q⟩
theorem othA_t (a : AgS) (c : Cm) : (othA a c).2.t = if c.kd = 1 then ⟨S15.regL a.t.l ⟨a.t.ever + 1, 0, .empty⟩, a.t.ever + 1⟩ else a.t := by
  unfold othA
  split
  · rfl
  · split
    · rfl
    · split
      · rfl
      · split
        · rfl
        · exact (ingA_d a c).2
theorem doA_did {id seq : Int} {r : ByteArray} {a : AgS} (h : S15.Did id seq r a.t) (c : Cm) : S15.Did id seq r (doA a c).2.t := by
  unfold doA
  split
  · exact h
  · split
    · rw [othA_t]
      split
      · exact did_reg h
      · exact h
    · split
      · exact h
      · split
        · exact h
        · split
          · exact h
          · exact did_done h _ _ _
/-- A client's command, done. -/
theorem once19 {n : Nat} {a : AgS} (hI : AgI n a) (c : Cm) (hr : rightB c = true) (hc : clB c.kd = true) (h17 : (doA a c).1.er ≠ 17) (h18 : (doA a c).1.er ≠ 18) :
    RpK (doA a c).1 ∧ S15.Did c.ss c.sq ⟨(rpb (doA a c).1).toArray⟩ (doA a c).2.t := by
  have e0 : doA a c = if (S15.askS a.t.l c.ss c.sq).1 = 3 then (errR 17, a)
      else if (S15.askS a.t.l c.ss c.sq).1 = 2 then (errR 18, a)
      else if (S15.askS a.t.l c.ss c.sq).1 = 1 then (keptR (S15.askS a.t.l c.ss c.sq).2, a)
      else ((cliA a.s c).1, ⟨⟨S15.doneL a.t.l c.ss c.sq ⟨(rpb (cliA a.s c).1).toArray⟩, a.t.ever⟩, a.d, (cliA a.s c).2⟩) := by
    show doA a c = _
    unfold doA
    rw [if_neg (by simp [hr]), if_neg (by simp [hc])]
  by_cases h3 : (S15.askS a.t.l c.ss c.sq).1 = 3
  · rw [if_pos h3] at e0
    exact absurd (by rw [e0]; rfl) h17
  rw [if_neg h3] at e0
  by_cases h2 : (S15.askS a.t.l c.ss c.sq).1 = 2
  · rw [if_pos h2] at e0
    exact absurd (by rw [e0]; rfl) h18
  rw [if_neg h2] at e0
  by_cases h1 : (S15.askS a.t.l c.ss c.sq).1 = 1
  · rw [if_pos h1] at e0
    rw [e0]
    unfold S15.askS at h1 ⊢
    cases hx : S15.atS a.t.l c.ss with
    | none => rw [hx] at h1; simp at h1
    | some x =>
      rw [hx] at h1
      dsimp only at h1 ⊢
      have hlt : S15.fndS a.t.l c.ss < a.t.l.length := (List.getElem?_eq_some_iff.1 hx).1
      obtain ⟨y, hy, hyi⟩ := S15.fndS_id hlt
      have hm : x ∈ a.t.l := List.mem_of_getElem? hx
      have exy : y = x := by
        have hx : a.t.l[S15.fndS a.t.l c.ss]? = some x := hx
        rw [hx] at hy
        exact (Option.some.inj hy).symm
      subst exy
      by_cases g1 : c.sq < 1 ∨ c.sq < y.seq
      · rw [if_pos g1] at h1; simp at h1
      rw [if_neg g1] at h1 ⊢
      by_cases g2 : c.sq = y.seq
      · rw [if_pos g2]
        obtain ⟨r, hr', er⟩ := hI.kept y hm (by omega)
        show RpK (keptR y.reply) ∧ S15.Did _ _ ⟨(rpb (keptR y.reply)).toArray⟩ _
        rw [er, keptR_of hr']
        refine ⟨hr', hI.ok, by omega, by rw [← hyi]; exact (hI.ok.ids y hm).2, fun s hs he => ?_⟩
        obtain rfl := once_eq hI.once hs hm (he.trans hyi.symm)
        exact ⟨by omega, fun _ => er⟩
      · rw [if_neg g2] at h1; simp at h1
  rw [if_neg h1] at e0
  rw [e0]
  have hk := S15.ask_kind a.t.l c.ss c.sq
  exact ⟨cliA_k hI.si c, S15.did_first hI.ok hI.once _ _ _ (by omega)⟩
/-- The same again. -/
theorem again19 {a : AgS} (c : Cm) (hr : rightB c = true) (hc : clB c.kd = true) {r : Rp} (hk : RpK r) (h : S15.Did c.ss c.sq ⟨(rpb r).toArray⟩ a.t) :
    (doA a c).2 = a ∧ ((doA a c).1 = r ∨ (doA a c).1 = errR 18 ∨ (doA a c).1 = errR 17) := by
  unfold doA
  rw [if_neg (by simp [hr]), if_neg (by simp [hc])]
  rcases S15.did_ask h with e | e | e
  · rw [e]
    refine ⟨rfl, .inl ?_⟩
    show keptR ⟨(rpb r).toArray⟩ = r
    exact keptR_of hk
  · rw [e]; exact ⟨rfl, .inr (.inl rfl)⟩
  · rw [e]; exact ⟨rfl, .inr (.inr rfl)⟩
/-- An ingest. -/
theorem doA_ing {a : AgS} {c : Cm} (hr : rightB c = true) (h8 : c.kd = 8) : doA a c = ingA a c := by
  unfold doA
  rw [if_neg (by simp [hr]), if_pos (by rw [h8]; rfl)]
  unfold othA
  rw [if_neg (by omega), if_neg (by omega), if_neg (by omega), if_neg (by omega)]
def mayA (a : AgS) (c : Cm) : Bool := decide ((a.d.get c.sh).node = c.nd) && (decide ((a.d.get c.sh).epoch = c.ep) && (decide (a.d.now < (a.d.get c.sh).till) && decide ((shardL c.fd : Int) = c.sh)))
theorem may_iff {a : AgS} {c : Cm} (hs : 0 ≤ c.sh ∧ c.sh ≤ 7) : mayA a c = true ↔ ¬ (¬ a.d.check c.sh c.nd c.ep = 0 ∨ ¬ (shardL c.fd : Int) = c.sh) := by
  unfold mayA L16.Tb.check
  simp only [Bool.and_eq_true, decide_eq_true_eq]
  constructor
  · rintro ⟨h1, h2, h3, h4⟩ (h | h)
    · rw [if_pos ⟨hs.1, by omega, h3, h1, h2⟩] at h; exact h rfl
    · exact h h4
  · intro h
    have h4 : (shardL c.fd : Int) = c.sh := by
      by_cases g : (shardL c.fd : Int) = c.sh
      · exact g
      · exact absurd (.inr g) h
    by_cases g : 0 ≤ c.sh ∧ c.sh < 8 ∧ a.d.now < (a.d.get c.sh).till ∧ (a.d.get c.sh).node = c.nd ∧ (a.d.get c.sh).epoch = c.ep
    · exact ⟨g.2.2.2.1, g.2.2.2.2, g.2.2.1, h4⟩
    · rw [if_neg g] at h; exact absurd (.inl (by omega)) h
theorem fence19 {n : Nat} {a : AgS} (hI : AgI n a) (hn : n ≤ 1000000) (c : Cm) (hr : rightB c = true) (h8 : c.kd = 8) (hs : 0 ≤ c.sh ∧ c.sh ≤ 7) (hit : c.its.all itR = true) :
    (mayA a c = false → doA a c = (errR 15, a)) ∧
    (mayA a c = true → fnd a.s c.fd = none → (doA a c).1.er = 4 ∧ (doA a c).2 = a) ∧
    (mayA a c = true → ∀ f, fnd a.s c.fd = some f → (doA a c).1.er = 0 ∧ (doA a c).2.d = a.d ∧ (doA a c).1.n ≤ c.its.length ∧ ∃ g, fnd (doA a c).2.s c.fd = some g ∧ g.pol = a.d.now ∧ decide (0 < g.fai) = c.fl) := by
  rw [doA_ing hr h8]
  have hm := may_iff (a := a) hs
  have h0 := hI.d.up.n0
  have h1 := hI.d.up.n1
  have hot : okT a.d.now = true := okT_iff.2 ⟨h0, by omega⟩
  unfold ingA
  refine ⟨fun h => ?_, fun h hf => ?_, fun h f hf => ?_⟩
  · rw [if_pos]
    by_cases g : (¬ a.d.check c.sh c.nd c.ep = 0 ∨ ¬ (shardL c.fd : Int) = c.sh)
    · exact g
    · rw [hm.2 g] at h; cases h
  · rw [if_neg (hm.1 h)]
    by_cases hfl : c.fl = true
    · rw [if_pos hfl]
      unfold failS
      rw [hf]
      exact ⟨rfl, rfl⟩
    · rw [if_neg hfl]
      unfold ingR
      rw [hf]
      exact ⟨rfl, rfl⟩
  · rw [if_neg (hm.1 h)]
    by_cases hfl : c.fl = true
    · rw [if_pos hfl]
      have hFI := (hI.si _ (fnd_mem hf)).nb
      dsimp only at hFI
      have e : failS a.s c.fd a.d.now = (0, putBy Prod.fst c.fd (c.fd, failF f a.d.now) a.s) := by
        unfold failS
        rw [hf]
        dsimp only
        rw [if_pos hot]
      rw [e]
      refine ⟨rfl, rfl, by show (0 : Int) ≤ _; omega, failF f a.d.now, ?_, rfl, ?_⟩
      · show fnd (putBy Prod.fst c.fd (c.fd, failF f a.d.now) a.s) c.fd = _
        rw [fnd_put _ hf, if_pos rfl]
      · rw [hfl]
        show decide (0 < min (f.fai + 1) 1000) = true
        simp
        omega
    · rw [if_neg hfl]
      have e : ingR a.s c.fd c.its a.d.now = (((ingF f c.its).2 : Int), 0, putBy Prod.fst c.fd (c.fd, ⟨a.d.now, 0, (ingF f c.its).1.ps⟩) a.s) := by
        unfold ingR
        rw [hf]
        dsimp only
        rw [if_pos hot, if_pos hit]
      have hnb := (ingF_nb f c.its).2.2
      rw [e]
      refine ⟨rfl, rfl, by show (((ingF f c.its).2 : Nat) : Int) ≤ _; omega, ⟨a.d.now, 0, (ingF f c.its).1.ps⟩, ?_, rfl, ?_⟩
      · show fnd (putBy Prod.fst c.fd _ a.s) c.fd = _
        rw [fnd_put _ hf, if_pos rfl]
      · have : c.fl = false := by simpa using hfl
        rw [this]
        rfl
end Go.Proofs.YtcjfmildalappaaGreat
namespace Go.Proofs.YtcjfmildalappaaGreat
open Go.RowKit
def agB (a : AgS) : List UInt8 := tsb [S15.packL a.t.l a.t.ever, a.d.bytes, stB a.s]
theorem St.sorted {w : World} {b : Nat} {O : List Nat} {S : Sv} (h : St w b O S) : S.Pairwise (fun a b => a.1 < b.1) ∧ S.length ≤ 20 ∧ ∀ x ∈ S, nmL x.1 = true := by
  obtain ⟨mb, T, h, rfl, rfl⟩ := h
  refine ⟨List.pairwise_map.2 h.srt, by rw [List.length_map]; exact h.cap, fun x hx => ?_⟩
  obtain ⟨t, ht, rfl⟩ := List.mem_map.1 hx
  exact h.nml t ht
theorem AgAt.sj {w : World} {p : Nat} {K : List Nat} {a : AgS} {n : Nat} (h : AgAt w p K a) (hI : AgI n a) : SvJ a.s := by
  obtain ⟨tb, tv, lb, sb, O, B, h, rfl⟩ := h
  obtain ⟨h1, h2, h3⟩ := h.s.sorted
  exact SvJ.of hI.si hI.sz h1 h2 h3
theorem AgI.fit {n : Nat} {a : AgS} (h : AgI n a) (hn : n ≤ 1000000000) : Wide64 a.t.ever ∧ a.t.l.length ≤ 8 ∧ (∀ x ∈ a.t.l, x.Fit) := by
  have h1 := h.ok.ever
  have h2 := h.ever
  exact ⟨⟨by omega, by omega⟩, h.ok.len, S15.g_fit h.ok h.g (by omega)⟩
theorem packL_le {n : Nat} {a : AgS} (h : AgI n a) (hn : n ≤ 1000000000) : (S15.packL a.t.l a.t.ever).length ≤ 900000 := by
  obtain ⟨h1, h2, h3⟩ := h.fit hn
  have i1 := (ib_length a.t.ever h1).2
  have i2 := (ib_length (a.t.l.length : Int) ⟨by omega, by omega⟩).2
  have key : ∀ l : List S15.Ses, (∀ s ∈ l, s.Fit ∧ S15.SesG s) → (S15.sesB l).length ≤ 100040 * l.length := by
    intro l
    induction l with
    | nil => intro _; simp [S15.sesB]
    | cons x l ih =>
      intro hl
      obtain ⟨hx, hg⟩ := hl x (by simp)
      have j1 := (ib_length x.id hx.id).2
      have j2 := (ib_length x.seq hx.seq).2
      have hs := hg.size
      have e : x.reply.data.toList.length = x.reply.size := by rw [Array.length_toList]; rfl
      have hm : 100040 * (l.length + 1) = 100040 * l.length + 100040 := by omega
      have j3 := (tb_length x.reply.data.toList (by omega)).2
      have hih := ih (fun y hy => hl y (by simp [hy]))
      have hb : x.bytes.length ≤ 100040 := by
        unfold S15.Ses.bytes
        simp only [List.length_append]
        omega
      unfold S15.sesB at hih ⊢
      rw [List.flatMap_cons, List.length_append, List.length_cons]
      omega
  have h4 := key a.t.l (fun s hs => ⟨h3 s hs, h.g s hs⟩)
  unfold S15.packL
  simp only [List.length_append]
  omega
theorem dbytes_le {n : Nat} {a : AgS} (h : AgI n a) (hn : n ≤ 1000000000) : a.d.bytes.length ≤ 1000 := by
  have hf := h.d.fit (by omega)
  have h8 := h.d.up.len
  have i1 := (ib_length a.d.now hf.now).2
  have key : ∀ l : List L16.Ls, (∀ x ∈ l, x ∈ a.d.l) → (L16.lsB l).length ≤ 30 * l.length := by
    intro l
    induction l with
    | nil => intro _; simp [L16.lsB]
    | cons x l ih =>
      intro hl
      have hx := hl x (by simp)
      have j := L16.Ls.bytes_length (hf.node x hx) (hf.epoch x hx) (hf.till x hx)
      have := ih (fun y hy => hl y (by simp [hy]))
      unfold L16.lsB at this ⊢
      rw [List.flatMap_cons, List.length_append, List.length_cons]
      omega
  have := key a.d.l (fun x hx => hx)
  unfold L16.Tb.bytes
  rw [List.length_append]
  omega
theorem stB_le {S : Sv} (h : SvJ S) : (stB S).length ≤ 4000000 := by
  have key : ∀ x ∈ S, (fdB x).length ≤ 130000 := fun x hx => by
    have hj := (h.all x hx).1
    have hn := (h.all x hx).2
    have h1 := fdH_le x (by have := (nmL_len hn).2; omega) hj.i.sh
    have h2 := flat_le spB 631 x.2.ps (fun p hp => by
      have hs := itR_sh (hj.i.its p hp)
      have t1 := tb_top p.it.id 200 hs.id (by omega)
      have t2 := tb_top p.it.ti 200 hs.ti (by omega)
      have t3 := tb_top p.it.li 200 hs.li (by omega)
      have hb : (bb p.rd).length = 1 := rfl
      unfold spB itT
      simp only [List.length_append]
      omega)
    have h3 := hj.i.ps.n
    have h4 : 631 * x.2.ps.length ≤ 631 * 200 := Nat.mul_le_mul_left _ h3
    unfold fdB psB
    rw [List.length_append]
    omega
  have h1 := flat_le fdB 130000 S key
  have h2 := h.n
  have i := (ib_length (S.length : Int) ⟨by omega, by omega⟩).2
  unfold stB fsB
  rw [List.length_append]
  omega
theorem agB_le {n : Nat} {a : AgS} (h : AgI n a) (hn : n ≤ 1000000000) (hj : SvJ a.s) : (agB a).length ≤ 5000000 := by
  have h1 := packL_le h hn
  have h2 := dbytes_le h hn
  have h3 := stB_le hj
  have t1 := (tb_length (S15.packL a.t.l a.t.ever) (by omega)).2
  have t2 := (tb_length a.d.bytes (by omega)).2
  have t3 := (tb_length (stB a.s) (by omega)).2
  unfold agB tsb
  simp only [List.flatMap_cons, List.flatMap_nil, List.length_append, List.length_nil]
  omega
set_option maxRecDepth 100000 in
set_option maxHeartbeats 1000000 in
theorem ag_save (p : Nat) (K : List Nat) (a : AgS) (n : Nat) (hn : n ≤ 1000000000) (w : World) (h : AgAt w p K a) (hI : AgI n a) :
    Calls Tryz.prog 28 #[.pointer (some ⟨p, 0, none⟩)] w fun e w' => e = .returned (.string ⟨(agB a).toArray⟩) ∧ Only [] w w' := by
  have hle := agB_le hI hn (h.sj hI)
  obtain ⟨f1, f2, f3⟩ := hI.fit hn
  have f4 := hI.d.fit (n := n) (by omega)
  have f5 := hI.d.up.len
  obtain ⟨tb, tv, lb, sb, O, B, hX, rfl⟩ := h
  have q0 := hX.cells.cell (k := 0) rfl
  have q1 := hX.cells.cell (k := 1) rfl
  have q2 := hX.cells.cell (k := 2) rfl
  have hpl := hX.cells.lt
  have CT := Lib.hid (fun v : Since w => S15.tbs_pack B tb a.t.l a.t.ever v.w (hX.keep v.2 (by simp)).t.s (by omega) f1 f3)
  have CL := Lib.hid (fun v : Since w => L16.lease_pack lb a.d v.w (hX.d.only v.2 (by simp)) f5 f4)
  have CS := Lib.hid (fun v : Since w => st_pack sb O a.s v.w (hX.s.keep v.2 (by simp)) hI.si.sh)
  have HB := Lib.hid hle
  obtain ⟨X, hX0⟩ : ∃ X, S15.packL a.t.l a.t.ever = X := ⟨_, rfl⟩
  obtain ⟨Y, hY0⟩ : ∃ X, a.d.bytes = X := ⟨_, rfl⟩
  obtain ⟨Z, hZ0⟩ : ∃ X, stB a.s = X := ⟨_, rfl⟩
  have hag : agB a = tsb [X, Y, Z] := by unfold agB; rw [hX0, hY0, hZ0]
  rw [hX0] at CT
  rw [hY0] at CL
  rw [hZ0] at CS
  rw [hag] at HB
  have HAG := Lib.hid hag
  have v0 := fun u : Since w => u.cell q0
  have v1 := fun u : Since w => u.cell q1
  have v2 := fun u : Since w => u.cell q2
  clear hle f1 f2 f3 f4 f5 hX0 hY0 hZ0 hag q0 q1 q2 hX hI hn
  go_enter Tryz.func28, Tryz.ntmps28
  go_upto_region 1 with fail
  refine wp_region_only_tail w (Only.refl _ _) 15 (by kernel_rfl) (by kernel_rfl) ?_
  simp only [List.take_succ_cons, List.take_zero, List.drop_succ_cons, List.drop_zero]
  repeat (go_big_quiet_step (first | (go_at_call 76; refine Calls.only (CT.out _)) | (go_at_call 77; refine Calls.only (CL.out _)) | (go_at_call 78; refine Calls.only (CS.out _))))
  refine wpQuiet_nil ?_
  rintro ⟨w3, ho3⟩
  dsimp only
  have CX := Lib.hid (codec_texts_w [X, Y, Z] (by simp) (by have := HB.out; omega) 3 rfl (w3.alloc (.cells #[.string ⟨X.toArray⟩, .string ⟨Y.toArray⟩, .string ⟨Z.toArray⟩] 9)) w3.heap.size (Cells.new w3 _ _))
  have HO3 := Lib.hid ((ho3.alloc (.cells #[.string ⟨X.toArray⟩, .string ⟨Y.toArray⟩, .string ⟨Z.toArray⟩] 9)))
  clear v0 v1 v2 CT CL CS ho3
  go_wp2_with fail
  refine CX.out.mono ?_
  rintro e w4 ⟨rfl, ho4⟩
  go_wp2_with fail
  go_ret
  exact ⟨by rw [HAG.out]; rfl, HO3.out.tr ho4⟩
end Go.Proofs.YtcjfmildalappaaGreat
namespace Go.Proofs.YtcjfmildalappaaGreat
open Go.RowKit
def runB (a : AgS) (l : List C19) : AgS := l.foldl (fun a c => (doA a c.c).2) a
def runA (l : List C19) : AgS := runB AgS.new l
theorem runB_step (a : AgS) (l : List C19) (k : Nat) (x : C19) (h : l[k]? = some x) : runB a (l.take (k + 1)) = (doA (runB a (l.take k)) x.c).2 := by
  unfold runB
  rw [List.take_add_one, h, List.foldl_append]; rfl
theorem runA_step (l : List C19) (k : Nat) (x : C19) (h : l[k]? = some x) : runA (l.take (k + 1)) = (doA (runA (l.take k)) x.c).2 := runB_step _ l k x h
/-- A reply that is kept while K turns. -/
def Pv (w : World) (K : List Nat) (pv : Value) (r : Rp) : Prop := RpAt w pv r ∧ (0 < r.ps.length → ∀ g, pv.ownBlock = some g → g ∉ K)
theorem RpAt.lt {w : World} {pv : Value} {r : Rp} (h : RpAt w pv r) (h0 : 0 < r.ps.length) {g : Nat} (hg : pv.ownBlock = some g) : g < w.heap.size := by
  obtain ⟨b, o, c, rfl, hb, _⟩ := h.ps.at_ (by omega)
  simp [Value.ownBlock] at hg
  omega
theorem RpAt.past' {S : List Nat} {w w' : World} {pv : Value} {r : Rp} (h : RpAt w pv r) (ho : Only S w w') (hS : 0 < r.ps.length → ∀ g, pv.ownBlock = some g → g ∉ S) : RpAt w' pv r := by
  refine ⟨?_, h.er, h.n, h.sm, h.len⟩
  by_cases h0 : 0 < r.ps.length
  · exact (h.ps.past ho (Nat.le_refl _) (hS h0)).more ho.size
  · obtain ⟨z1, z2, z3, z4, z5, z6, z7⟩ := h.ps
    exact ⟨z1, z2, z3, z4, z5, z6, fun hh => by omega⟩
theorem Pv.does {w w' : World} {K K' : List Nat} {pv : Value} {r : Rp} (h : Pv w K pv r) (ho : Only K w w') (hN : ∀ x ∈ K', x ∈ K ∨ w.heap.size ≤ x) : Pv w' K' pv r :=
  ⟨h.1.past' ho h.2, fun h0 g hg hm => by
    rcases hN g hm with e | e
    · exact h.2 h0 g hg e
    · have := h.1.lt h0 hg; omega⟩
theorem Pv.read {w w' : World} {K : List Nat} {pv : Value} {r : Rp} (h : Pv w K pv r) (ho : Only [] w w') : Pv w' K pv r := ⟨h.1.only ho, h.2⟩
theorem DoW.of {W w w' : World} {p : Nat} {K : List Nat} {n : Nat} {a : AgS} {r : Rp} {e : Ending} (h : DoW W w w' p K n a r e) : ∃ pv K', e = .returned (r.val pv) ∧ Pv w' K' pv r ∧ AgW W w' p K' n a ∧ Only K w w' ∧ (∀ x ∈ K', x ∈ K ∨ w.heap.size ≤ x) ∧ RpK r ∧ ∃ PA pc, pv = .slice PA r.ps.length pc := by
  obtain ⟨pv, K', he, hp, hg, hA, ho, hN, hk⟩ := h
  obtain ⟨PA, pc, rfl⟩ := hp.ps.shape
  exact ⟨_, K', he, ⟨hp, fun h0 g hgg => (hg h0 g hgg).2⟩, hA, ho, hN, hk, PA, pc, rfl⟩
theorem agw_save {W w : World} {p : Nat} {K : List Nat} {n : Nat} {a : AgS} (hn : n ≤ 1000000000) (h : AgW W w p K n a) :
    Calls Tryz.prog 28 #[.pointer (some ⟨p, 0, none⟩)] w fun e w' => e = .returned (.string ⟨(agB a).toArray⟩) ∧ Only [] w w' := ag_save p K a n hn w h.at_ h.i
theorem slat_one (w : World) (a : C19) : SlAt (w.alloc (.cells (a.c.cells a.iv).toArray 38)) (w.alloc (.cells (a.c.cells a.iv).toArray 38)).heap.size (.slice (some ⟨w.heap.size, 0, none⟩) 1 1) 11 [a].length (cmL [a]) := by
  have : cmL [a] = a.c.cells a.iv := by unfold cmL; simp
  rw [this]
  exact SlAt.cells (n := 1) (sz := 11) (Cells.new w _ _) rfl (by unfold maxLen; omega)
end Go.Proofs.YtcjfmildalappaaGreat
namespace Go.Proofs.YtcjfmildalappaaGreat
open Go.RowKit
def cReg : Cm := ⟨1, 0, 0, 0, 0, 0, 0, [], [], [], false⟩
def cCl (kd id seq k : Int) (fd : List UInt8) : Cm := ⟨kd, id, seq, 0, 0, 0, k, fd, [], [], false⟩
theorem right_cl (kd id seq k : Int) (fd : List UInt8) (hk : kd = 2 ∧ k = 0 ∨ kd = 3 ∧ k = 0 ∨ kd = 5) (h1 : 0 ≤ id ∧ id ≤ 1099511627776) (h2 : 0 ≤ seq ∧ seq ≤ 1099511627776) (h3 : 0 ≤ k ∧ k ≤ 1099511627776) (hf : fd.length ≤ 200) : rightB (cCl kd id seq k fd) = true := by
  unfold rightB
  have e1 : numB (cCl kd id seq k fd) = true := by
    unfold numB
    simp only [Bool.and_eq_true, decide_eq_true_eq, inB_iff]
    dsimp only [cCl]
    omega
  have e2 : lenB (cCl kd id seq k fd) = true := by
    unfold lenB
    simp only [Bool.and_eq_true, decide_eq_true_eq]
    dsimp only [cCl]
    simp
    exact hf
  have e3 : bareB (cCl kd id seq k fd) = true := by
    unfold bareB cCl
    rcases hk with ⟨rfl, rfl⟩ | ⟨rfl, rfl⟩ | rfl <;> simp [clB]
  rw [e1, e2, e3]
  rfl
theorem reg19 (a : AgS) : doA a cReg = (⟨0, a.t.ever + 1, []⟩, ⟨⟨S15.regL a.t.l ⟨a.t.ever + 1, 0, .empty⟩, a.t.ever + 1⟩, a.d, a.s⟩) := by
  unfold doA
  rw [if_neg (by decide +kernel), if_pos (by rfl)]
  unfold othA
  rw [if_pos (show cReg.kd = 1 from rfl)]
theorem ask_second {l : List S15.Ses} (ho : S15.Once l) {id : Int} {x : S15.Ses} (hx : x ∈ l) (hi : x.id = id) (hs : x.seq = 1) : (S15.askS l id 2).1 = 0 := by
  have := atS_of ho hx
  rw [hi] at this
  unfold S15.askS
  rw [this]
  dsimp only
  rw [hs, if_neg (by omega), if_neg (by omega)]
theorem doA_fresh {a : AgS} {c : Cm} (hr : rightB c = true) (hc : clB c.kd = true) (h0 : (S15.askS a.t.l c.ss c.sq).1 = 0) : doA a c = ((cliA a.s c).1, ⟨⟨S15.doneL a.t.l c.ss c.sq ⟨(rpb (cliA a.s c).1).toArray⟩, a.t.ever⟩, a.d, (cliA a.s c).2⟩) := by
  rw [doA_cl hr hc]
  unfold clA
  rw [if_neg (by omega), if_neg (by omega), if_neg (by omega)]
theorem lists19 {n : Nat} {a : AgS} (hI : AgI n a) (hn : n ≤ 1000000) (fd : List UInt8) (hf : fd.length ≤ 200) (k : Int) (hk : 0 ≤ k ∧ k < 60) :
    ∃ a1 a2, doA a cReg = (⟨0, a.t.ever + 1, []⟩, a1) ∧ a1.s = a.s ∧ doA a1 (cCl 5 (a.t.ever + 1) 1 k fd) = (⟨(listS a.s fd k).2, 0, (listS a.s fd k).1⟩, a2) ∧
      (doA a2 (cCl 3 (a.t.ever + 1) 2 0 fd)).1 = errR (unS a.s fd).1 ∧ (doA a2 (cCl 2 (a.t.ever + 1) 2 0 fd)).1 = errR (subS a.s fd).1 := by
  have hv := hI.ever
  have hv0 := hI.ok.ever
  have h1 : (S15.askS (S15.regL a.t.l ⟨a.t.ever + 1, 0, .empty⟩) (a.t.ever + 1) 1).1 = 0 := by
    rw [S15.stay_ask (S15.stay_first hI.ok)]; rfl
  have hr5 := right_cl 5 (a.t.ever + 1) 1 k fd (.inr (.inr rfl)) (by omega) (by omega) (by omega) hf
  have e5 := doA_fresh (a := ⟨⟨S15.regL a.t.l ⟨a.t.ever + 1, 0, .empty⟩, a.t.ever + 1⟩, a.d, a.s⟩) hr5 rfl h1
  have ec : cliA a.s (cCl 5 (a.t.ever + 1) 1 k fd) = (⟨(listS a.s fd k).2, 0, (listS a.s fd k).1⟩, a.s) := by
    unfold cliA cCl
    rfl
  dsimp only at e5
  rw [ec] at e5
  have ho1 : S15.Once (S15.regL a.t.l ⟨a.t.ever + 1, 0, .empty⟩) := S15.once_reg hI.ok hI.once
  obtain ⟨q, hq⟩ : ∃ q : ByteArray, ⟨(rpb ⟨(listS a.s fd k).2, 0, (listS a.s fd k).1⟩).toArray⟩ = q := ⟨_, rfl⟩
  have ho2 := S15.once_done ho1 (a.t.ever + 1) 1 q
  have hm : (⟨a.t.ever + 1, 1, q⟩ : S15.Ses) ∈ S15.doneL (S15.regL a.t.l ⟨a.t.ever + 1, 0, .empty⟩) (a.t.ever + 1) 1 q := by
    unfold S15.doneL
    rw [if_pos h1]
    exact List.mem_append.2 (.inr (List.mem_singleton.2 rfl))
  have h2 := ask_second ho2 hm rfl rfl
  refine ⟨_, _, reg19 a, rfl, e5, ?_, ?_⟩
  · have hr3 := right_cl 3 (a.t.ever + 1) 2 0 fd (.inr (.inl ⟨rfl, rfl⟩)) (by omega) (by omega) (by omega) hf
    rw [doA_fresh hr3 rfl (by
      show (S15.askS (S15.doneL (S15.regL a.t.l ⟨a.t.ever + 1, 0, .empty⟩) (a.t.ever + 1) 1 _) (a.t.ever + 1) 2).1 = 0
      rw [hq]
      exact h2)]
    rfl
  · have hr2 := right_cl 2 (a.t.ever + 1) 2 0 fd (.inl ⟨rfl, rfl⟩) (by omega) (by omega) (by omega) hf
    rw [doA_fresh hr2 rfl (by
      show (S15.askS (S15.doneL (S15.regL a.t.l ⟨a.t.ever + 1, 0, .empty⟩) (a.t.ever + 1) 1 _) (a.t.ever + 1) 2).1 = 0
      rw [hq]
      exact h2)]
    rfl
/-- What a store has, told by its names. -/
theorem any_fnd (S : Sv) (k : List UInt8) : (S.map (·.1)).any (fun x => x == k) = (fnd S k).isSome := by
  unfold fnd
  induction S with
  | nil => rfl
  | cons a l ih =>
    rw [List.map_cons, List.any_cons, List.find?_cons]
    cases h : (a.1 == k) with
    | true => rfl
    | false => rw [Bool.false_or]; exact ih
end Go.Proofs.YtcjfmildalappaaGreat
