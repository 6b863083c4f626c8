/-
  Contracts; each theorem bears its own conditions.
-/
import Derived.Test.YtcjfmildalappaaGreatK21ax
import Derived.Test.YtcjfmildalappaaGreatK21ay
import Derived.Test.YtcjfmildalappaaGreatK21az
set_option linter.all false
set_option maxRecDepth 100000
set_option maxHeartbeats 8000000
namespace Go.Proofs.YtcjfmildalappaaGreat
open Go.RowKit
theorem small_nums {l : List Int} (h : (l.all fun x => decide (-100 ≤ x) && decide (x ≤ 100)) = true) : ∀ x ∈ l, Wide64 x := fun x hx => by
 have := List.all_eq_true.1 h x hx
 simp only [Bool.and_eq_true, decide_eq_true_eq] at this
 exact ⟨by omega, by omega⟩
theorem slat_box {w : World} {ib : Nat} (h : Cells w ib 99 [.string ⟨#[120]⟩, .string ⟨#[]⟩, .string ⟨#[]⟩]) : SlAt w w.heap.size (.slice (some ⟨ib, 0, none⟩) 1 1) 3 1 (itL [iX]) := SlAt.cells (n := 1) (sz := 3) h rfl (by unfold maxLen; omega)
theorem len_iX : ∀ x ∈ [iX], x.Len := fun x hx => by
 simp at hx
 subst hx
 exact ⟨by decide +kernel, by decide +kernel, by decide +kernel⟩
theorem cmat_box {w : World} {ib : Nat} (h : Cells w ib 99 [.string ⟨#[120]⟩, .string ⟨#[]⟩, .string ⟨#[]⟩]) (c : Cm) (hc : c.its = [iX]) (h1 : c.fd.length ≤ maxLen) (h2 : c.id.length ≤ maxLen) (h3 : ∀ x ∈ [c.kd, c.ss, c.sq, c.sh, c.nd, c.ep, c.n], Wide64 x) : CmAt w (.slice (some ⟨ib, 0, none⟩) 1 1) c :=
 ⟨by rw [hc]; exact slat_box h, by rw [hc]; exact len_iX, h1, h2, h3⟩
theorem itk_box {w : World} {K : List Nat} {ib : Nat} (h : Bx w K ib 99 [.string ⟨#[120]⟩, .string ⟨#[]⟩, .string ⟨#[]⟩]) (c : Cm) (hc : c.its = [iX]) : ItK w K (.slice (some ⟨ib, 0, none⟩) 1 1) c := fun w' ho => by
 rw [hc]
 exact slat_box (h.1.only ho h.2)
theorem shown19 (w : World) : Calls Tryz.prog 16 #[] w fun e w' => e = .returned (.bool true) ∧ Only [] w w' := by
 have C0 := Hd (agw_new w w oz)
 go_enter Tryz.func16, Tryz.ntmps16
 go_wp2_with fail
 refine C0.out.mono ?_
 rintro e w0 ⟨p, K0, rfl, hA0, hl0, ho0⟩
 have H0 := Hd hA0
 clear hA0 hl0 ho0 C0
 have CD1 : Hid (Calls Tryz.prog 20 #[.pointer (some ⟨p, 0, none⟩), .agg #[.int .i64 1, .int .i64 0, .int .i64 0, .int .i64 0, .int .i64 0, .int .i64 0, .int .i64 0, .string ⟨#[]⟩, .string ⟨#[]⟩, .slice none 0 0, .bool false]] w0 fun e w' => DoW w w0 w' p K0 1 sa1 (⟨0, 1, []⟩) e) := Hd (by
  have := agw_do p K0 AgS.new 0 (by omega) ⟨1, 0, 0, 0, 0, 0, 0, [], [], [], false⟩ (.slice none 0 0) w w0 H0.out ⟨SlAt.of_own (World.ownsRow_nil _ 0 99 3), (fun x hx => by cases hx), by decide +kernel, by decide +kernel, small_nums (by decide)⟩ (by decide) (itk_nil _ _ _ rfl)
  rw [e19_1] at this
  exact this)
 go_wp2_with fail
 refine CD1.out.mono ?_
 rintro e u1 ⟨pv, K1, he, hp, hg, hA, ho, hN, hk⟩
 have he : e = .returned (.agg #[.int .i64 0, .int .i64 1, pv]) := he
 subst he
 obtain ⟨PA, pc, rfl⟩ := hp.ps.shape
 have HO1 : Hid (Only K0 w0 u1) := Hd ho
 have HN1 : Hid (∀ x ∈ K1, x ∈ K0 ∨ w0.heap.size ≤ x) := Hd hN
 have HP1 := Hd hp
 have HA1 := Hd hA
 have HG1 := Hd hg
 obtain ⟨b1, b2, b3⟩ := box_row u1 34 [.int .i64 0, .int .i64 0, .slice none 0 0] [.int .i64 0, .int .i64 1, .slice PA 0 pc]
 have hone : (#[.int .i64 0, .int .i64 1, .slice PA 0 pc] : Array Value).all (·.oneCell') = true := by simp [Value.oneCell']
 have hbw := hA.at_.bw
 have hnew : u1.heap.size ∉ K1 := fun hm => by have := hbw _ hm; omega
 clear hp hg hA ho hN hk hbw CD1  H0
 go_upto_region 5 with (refine wpList_store_row rfl 34 _ _ rfl u1.heap.size #[.int .i64 0, .int .i64 1, .slice PA 0 pc] rfl rfl 34 _ b2 (by kernel_rfl) rfl hone ?_)
 (try simp only [Act.put])
 obtain ⟨v1, hv1⟩ : ∃ u, (u1.alloc (.cells #[.int .i64 0, .int .i64 0, .slice none 0 0] 34)).setRow u1.heap.size #[.int .i64 0, .int .i64 1, .slice PA 0 pc] = u := ⟨_, rfl⟩
 rw [hv1]
 have b1 : Only [] u1 v1 := hv1 ▸ b1
 have b3 : Cells v1 u1.heap.size 34 [.int .i64 0, .int .i64 1, .slice PA 0 pc] := hv1 ▸ b3
 obtain ⟨z1, hz1⟩ : ∃ z, u1.heap.size = z := ⟨_, rfl⟩
 rw [hz1] at b3 hnew ⊢
 have B1 : Hid (Bx v1 K1 z1 34 [.int .i64 0, .int .i64 1, .slice PA 0 pc]) := Hd ⟨b3, hnew⟩
 have H1 := Hd (HA1.out.read b1)
 have HQ1 := Hd (HP1.out.only b1)
 clear b1 b2 b3 hone hnew hv1 hz1 HA1 HP1 HG1 HO1 HN1
 obtain ⟨b1, b2, b3⟩ := box_row v1 38 [.int .i64 0, .int .i64 0, .int .i64 0, .int .i64 0, .int .i64 0, .int .i64 0, .int .i64 0, .string ⟨#[]⟩, .string ⟨#[]⟩, .slice none 0 0, .bool false] [.int .i64 2, .int .i64 1, .int .i64 1, .int .i64 0, .int .i64 0, .int .i64 0, .int .i64 0, .string ⟨#[97]⟩, .string ⟨#[]⟩, .slice none 0 0, .bool false]
 have hone : (#[.int .i64 2, .int .i64 1, .int .i64 1, .int .i64 0, .int .i64 0, .int .i64 0, .int .i64 0, .string ⟨#[97]⟩, .string ⟨#[]⟩, .slice none 0 0, .bool false] : Array Value).all (·.oneCell') = true := by simp [Value.oneCell']
 have hnew : v1.heap.size ∉ K1 := fun hm => by have := H1.out.at_.bw _ hm; omega
 go_upto_region 6 with (refine wpList_store_row rfl 38 _ _ rfl v1.heap.size #[.int .i64 2, .int .i64 1, .int .i64 1, .int .i64 0, .int .i64 0, .int .i64 0, .int .i64 0, .string ⟨#[97]⟩, .string ⟨#[]⟩, .slice none 0 0, .bool false] rfl rfl 38 _ b2 (by kernel_rfl) rfl hone ?_)
 (try simp only [Act.put])
 obtain ⟨ys, hy⟩ : ∃ u, (v1.alloc (.cells #[.int .i64 0, .int .i64 0, .int .i64 0, .int .i64 0, .int .i64 0, .int .i64 0, .int .i64 0, .string ⟨#[]⟩, .string ⟨#[]⟩, .slice none 0 0, .bool false] 38)).setRow v1.heap.size #[.int .i64 2, .int .i64 1, .int .i64 1, .int .i64 0, .int .i64 0, .int .i64 0, .int .i64 0, .string ⟨#[97]⟩, .string ⟨#[]⟩, .slice none 0 0, .bool false] = u := ⟨_, rfl⟩
 rw [hy]
 have b1 : Only [] v1 ys := hy ▸ b1
 have b3 : Cells ys v1.heap.size 38 [.int .i64 2, .int .i64 1, .int .i64 1, .int .i64 0, .int .i64 0, .int .i64 0, .int .i64 0, .string ⟨#[97]⟩, .string ⟨#[]⟩, .slice none 0 0, .bool false] := hy ▸ b3
 obtain ⟨qs, hz⟩ : ∃ z, v1.heap.size = z := ⟨_, rfl⟩
 rw [hz] at b3 hnew ⊢
 have HLs : Hid (w.heap.size ≤ qs) := Hd (hz ▸ H1.out.ho.size)
 have B2 : Hid (Bx ys K1 qs 38 [.int .i64 2, .int .i64 1, .int .i64 1, .int .i64 0, .int .i64 0, .int .i64 0, .int .i64 0, .string ⟨#[97]⟩, .string ⟨#[]⟩, .slice none 0 0, .bool false]) := Hd ⟨b3, hnew⟩
 have HYs := Hd (H1.out.read b1)
 have B3 := Hd (B1.out.read b1)
 clear b1 b2 b3 hone hnew hy hz H1 B1
 have CD2 : Hid (Calls Tryz.prog 20 #[.pointer (some ⟨p, 0, none⟩), .agg #[.int .i64 2, .int .i64 1, .int .i64 1, .int .i64 0, .int .i64 0, .int .i64 0, .int .i64 0, .string ⟨#[97]⟩, .string ⟨#[]⟩, .slice none 0 0, .bool false]] ys fun e w' => DoW w ys w' p K1 2 sa2 (errR 0) e) := Hd (by
  have := agw_do p K1 sa1 1 (by omega) ⟨2, 1, 1, 0, 0, 0, 0, [97], [], [], false⟩ (.slice none 0 0) w ys HYs.out ⟨SlAt.of_own (World.ownsRow_nil _ 0 99 3), (fun x hx => by cases hx), by decide +kernel, by decide +kernel, small_nums (by decide)⟩ (by decide) (itk_nil _ _ _ rfl)
  rw [e19_2] at this
  exact this)
 have hld := B2.out.1
 go_wp2_with (refine wpList_load_row rfl 38 _ rfl qs rfl 38 #[.int .i64 2, .int .i64 1, .int .i64 1, .int .i64 0, .int .i64 0, .int .i64 0, .int .i64 0, .string ⟨#[97]⟩, .string ⟨#[]⟩, .slice none 0 0, .bool false] (0, 0) _ hld Tryz.underlying38 rfl (by kernel_rfl) ?_)
 clear hld
 refine CD2.out.mono ?_
 rintro e u2 ⟨pv, K2, he, hp, hg, hA, ho, hN, hk⟩
 have he : e = .returned (.agg #[.int .i64 0, .int .i64 0, pv]) := he
 subst he
 obtain ⟨PA, pc, rfl⟩ := hp.ps.shape
 have HO2 : Hid (Only K1 ys u2) := Hd ho
 have HN2 : Hid (∀ x ∈ K2, x ∈ K1 ∨ ys.heap.size ≤ x) := Hd hN
 have HP2 := Hd hp
 have HA2 := Hd hA
 have HG2 := Hd hg
 have B4 := Hd (B3.out.does HO2.out HN2.out)
 have B5 := Hd (B2.out.does HO2.out HN2.out)
 obtain ⟨b1, b2, b3⟩ := box_row u2 34 [.int .i64 0, .int .i64 0, .slice none 0 0] [.int .i64 0, .int .i64 0, .slice PA 0 pc]
 have hone : (#[.int .i64 0, .int .i64 0, .slice PA 0 pc] : Array Value).all (·.oneCell') = true := by simp [Value.oneCell']
 have hbw := hA.at_.bw
 have hnew : u2.heap.size ∉ K2 := fun hm => by have := hbw _ hm; omega
 clear hp hg hA ho hN hk hbw CD2 B3 B2 HYs
 go_upto_region 7 with (refine wpList_store_row rfl 34 _ _ rfl u2.heap.size #[.int .i64 0, .int .i64 0, .slice PA 0 pc] rfl rfl 34 _ b2 (by kernel_rfl) rfl hone ?_)
 (try simp only [Act.put])
 obtain ⟨v2, hv2⟩ : ∃ u, (u2.alloc (.cells #[.int .i64 0, .int .i64 0, .slice none 0 0] 34)).setRow u2.heap.size #[.int .i64 0, .int .i64 0, .slice PA 0 pc] = u := ⟨_, rfl⟩
 rw [hv2]
 have b1 : Only [] u2 v2 := hv2 ▸ b1
 have b3 : Cells v2 u2.heap.size 34 [.int .i64 0, .int .i64 0, .slice PA 0 pc] := hv2 ▸ b3
 obtain ⟨z2, hz2⟩ : ∃ z, u2.heap.size = z := ⟨_, rfl⟩
 rw [hz2] at b3 hnew ⊢
 have B6 : Hid (Bx v2 K2 z2 34 [.int .i64 0, .int .i64 0, .slice PA 0 pc]) := Hd ⟨b3, hnew⟩
 have H2 := Hd (HA2.out.read b1)
 have HQ2 := Hd (HP2.out.only b1)
 have B7 := Hd (B4.out.read b1)
 have B8 := Hd (B5.out.read b1)
 clear b1 b2 b3 hone hnew hv2 hz2 HA2 HP2 HG2 HO2 HN2 B4 B5
 have CD3 : Hid (Calls Tryz.prog 20 #[.pointer (some ⟨p, 0, none⟩), .agg #[.int .i64 2, .int .i64 1, .int .i64 1, .int .i64 0, .int .i64 0, .int .i64 0, .int .i64 0, .string ⟨#[97]⟩, .string ⟨#[]⟩, .slice none 0 0, .bool false]] v2 fun e w' => DoW w v2 w' p K2 3 sa2 (errR 0) e) := Hd (by
  have := agw_do p K2 sa2 2 (by omega) ⟨2, 1, 1, 0, 0, 0, 0, [97], [], [], false⟩ (.slice none 0 0) w v2 H2.out ⟨SlAt.of_own (World.ownsRow_nil _ 0 99 3), (fun x hx => by cases hx), by decide +kernel, by decide +kernel, small_nums (by decide)⟩ (by decide) (itk_nil _ _ _ rfl)
  rw [e19_3] at this
  exact this)
 have hld := B8.out.1
 go_wp2_with (refine wpList_load_row rfl 38 _ rfl qs rfl 38 #[.int .i64 2, .int .i64 1, .int .i64 1, .int .i64 0, .int .i64 0, .int .i64 0, .int .i64 0, .string ⟨#[97]⟩, .string ⟨#[]⟩, .slice none 0 0, .bool false] (0, 0) _ hld Tryz.underlying38 rfl (by kernel_rfl) ?_)
 clear hld
 refine CD3.out.mono ?_
 rintro e u3 ⟨pv, K3, he, hp, hg, hA, ho, hN, hk⟩
 have he : e = .returned (.agg #[.int .i64 0, .int .i64 0, pv]) := he
 subst he
 obtain ⟨PA, pc, rfl⟩ := hp.ps.shape
 have HO3 : Hid (Only K2 v2 u3) := Hd ho
 have HN3 : Hid (∀ x ∈ K3, x ∈ K2 ∨ v2.heap.size ≤ x) := Hd hN
 have HP3 := Hd hp
 have HA3 := Hd hA
 have HG3 := Hd hg
 have B9 := Hd (B7.out.does HO3.out HN3.out)
 have B10 := Hd (B8.out.does HO3.out HN3.out)
 have B11 := Hd (B6.out.does HO3.out HN3.out)
 obtain ⟨b1, b2, b3⟩ := box_row u3 34 [.int .i64 0, .int .i64 0, .slice none 0 0] [.int .i64 0, .int .i64 0, .slice PA 0 pc]
 have hone : (#[.int .i64 0, .int .i64 0, .slice PA 0 pc] : Array Value).all (·.oneCell') = true := by simp [Value.oneCell']
 have hbw := hA.at_.bw
 have hnew : u3.heap.size ∉ K3 := fun hm => by have := hbw _ hm; omega
 clear hp hg hA ho hN hk hbw CD3 B7 B8 B6 H2
 go_upto_region 8 with (refine wpList_store_row rfl 34 _ _ rfl u3.heap.size #[.int .i64 0, .int .i64 0, .slice PA 0 pc] rfl rfl 34 _ b2 (by kernel_rfl) rfl hone ?_)
 (try simp only [Act.put])
 obtain ⟨v3, hv3⟩ : ∃ u, (u3.alloc (.cells #[.int .i64 0, .int .i64 0, .slice none 0 0] 34)).setRow u3.heap.size #[.int .i64 0, .int .i64 0, .slice PA 0 pc] = u := ⟨_, rfl⟩
 rw [hv3]
 have b1 : Only [] u3 v3 := hv3 ▸ b1
 have b3 : Cells v3 u3.heap.size 34 [.int .i64 0, .int .i64 0, .slice PA 0 pc] := hv3 ▸ b3
 obtain ⟨z3, hz3⟩ : ∃ z, u3.heap.size = z := ⟨_, rfl⟩
 rw [hz3] at b3 hnew ⊢
 have B12 : Hid (Bx v3 K3 z3 34 [.int .i64 0, .int .i64 0, .slice PA 0 pc]) := Hd ⟨b3, hnew⟩
 have H3 := Hd (HA3.out.read b1)
 have HQ3 := Hd (HP3.out.only b1)
 have B13 := Hd (B9.out.read b1)
 have B14 := Hd (B10.out.read b1)
 have B15 := Hd (B11.out.read b1)
 clear b1 b2 b3 hone hnew hv3 hz3 HA3 HP3 HG3 HO3 HN3 B9 B10 B11
 have hs0 := B14.out.1.cell (k := 2) rfl
 have hf0 := B14.out.1.frozen 2
 have hl0 := B14.out.1.lt
 go_upto_region 9 with fail
 obtain ⟨ys2, hy⟩ : ∃ u, v3.setCell ⟨qs, 2, none⟩ (.int .i64 2) = u := ⟨_, rfl⟩
 rw [hy]
 have b1 : Only [qs] v3 ys2 := hy ▸ oz.setCell (.inl (by simp)) _
 have B16 : Hid (Bx ys2 K3 qs 38 [.int .i64 2, .int .i64 1, .int .i64 2, .int .i64 0, .int .i64 0, .int .i64 0, .int .i64 0, .string ⟨#[97]⟩, .string ⟨#[]⟩, .slice none 0 0, .bool false]) := Hd ⟨hy ▸ B14.out.1.set 2 _, B14.out.2⟩
 have HZs := Hd (H3.out.far b1 (fun x hx => by simp at hx; subst hx; exact ⟨B14.out.2, HLs.out⟩))
 have B17 := Hd (B13.out.far b1 (B13.out.1.ne B14.out.1 (by decide)))
 have B18 := Hd (B15.out.far b1 (B15.out.1.ne B14.out.1 (by decide)))
 have B19 := Hd (B12.out.far b1 (B12.out.1.ne B14.out.1 (by decide)))
 clear hs0 hf0 hl0 b1 hy H3 B14 B13 B15 B12
 have CD4 : Hid (Calls Tryz.prog 20 #[.pointer (some ⟨p, 0, none⟩), .agg #[.int .i64 2, .int .i64 1, .int .i64 2, .int .i64 0, .int .i64 0, .int .i64 0, .int .i64 0, .string ⟨#[97]⟩, .string ⟨#[]⟩, .slice none 0 0, .bool false]] ys2 fun e w' => DoW w ys2 w' p K3 4 sa4 (errR 5) e) := Hd (by
  have := agw_do p K3 sa2 3 (by omega) ⟨2, 1, 2, 0, 0, 0, 0, [97], [], [], false⟩ (.slice none 0 0) w ys2 HZs.out ⟨SlAt.of_own (World.ownsRow_nil _ 0 99 3), (fun x hx => by cases hx), by decide +kernel, by decide +kernel, small_nums (by decide)⟩ (by decide) (itk_nil _ _ _ rfl)
  rw [e19_4] at this
  exact this)
 have hld := B16.out.1
 go_wp2_with (refine wpList_load_row rfl 38 _ rfl qs rfl 38 #[.int .i64 2, .int .i64 1, .int .i64 2, .int .i64 0, .int .i64 0, .int .i64 0, .int .i64 0, .string ⟨#[97]⟩, .string ⟨#[]⟩, .slice none 0 0, .bool false] (0, 0) _ hld Tryz.underlying38 rfl (by kernel_rfl) ?_)
 clear hld
 refine CD4.out.mono ?_
 rintro e u4 ⟨pv, K4, he, hp, hg, hA, ho, hN, hk⟩
 have he : e = .returned (.agg #[.int .i64 5, .int .i64 0, pv]) := he
 subst he
 obtain ⟨PA, pc, rfl⟩ := hp.ps.shape
 have HO4 : Hid (Only K3 ys2 u4) := Hd ho
 have HN4 : Hid (∀ x ∈ K4, x ∈ K3 ∨ ys2.heap.size ≤ x) := Hd hN
 have HP4 := Hd hp
 have HA4 := Hd hA
 have HG4 := Hd hg
 have B20 := Hd (B17.out.does HO4.out HN4.out)
 have B21 := Hd (B16.out.does HO4.out HN4.out)
 have B22 := Hd (B18.out.does HO4.out HN4.out)
 have B23 := Hd (B19.out.does HO4.out HN4.out)
 obtain ⟨b1, b2, b3⟩ := box_row u4 34 [.int .i64 0, .int .i64 0, .slice none 0 0] [.int .i64 5, .int .i64 0, .slice PA 0 pc]
 have hone : (#[.int .i64 5, .int .i64 0, .slice PA 0 pc] : Array Value).all (·.oneCell') = true := by simp [Value.oneCell']
 have hbw := hA.at_.bw
 have hnew : u4.heap.size ∉ K4 := fun hm => by have := hbw _ hm; omega
 clear hp hg hA ho hN hk hbw CD4 B17 B16 B18 B19 HZs
 go_upto_region 10 with (refine wpList_store_row rfl 34 _ _ rfl u4.heap.size #[.int .i64 5, .int .i64 0, .slice PA 0 pc] rfl rfl 34 _ b2 (by kernel_rfl) rfl hone ?_)
 (try simp only [Act.put])
 obtain ⟨v4, hv4⟩ : ∃ u, (u4.alloc (.cells #[.int .i64 0, .int .i64 0, .slice none 0 0] 34)).setRow u4.heap.size #[.int .i64 5, .int .i64 0, .slice PA 0 pc] = u := ⟨_, rfl⟩
 rw [hv4]
 have b1 : Only [] u4 v4 := hv4 ▸ b1
 have b3 : Cells v4 u4.heap.size 34 [.int .i64 5, .int .i64 0, .slice PA 0 pc] := hv4 ▸ b3
 obtain ⟨z4, hz4⟩ : ∃ z, u4.heap.size = z := ⟨_, rfl⟩
 rw [hz4] at b3 hnew ⊢
 have B24 : Hid (Bx v4 K4 z4 34 [.int .i64 5, .int .i64 0, .slice PA 0 pc]) := Hd ⟨b3, hnew⟩
 have H4 := Hd (HA4.out.read b1)
 have HQ4 := Hd (HP4.out.only b1)
 have B25 := Hd (B20.out.read b1)
 have B26 := Hd (B21.out.read b1)
 have B27 := Hd (B22.out.read b1)
 have B28 := Hd (B23.out.read b1)
 clear b1 b2 b3 hone hnew hv4 hz4 HA4 HP4 HG4 HO4 HN4 B20 B21 B22 B23
 have CD5 : Hid (Calls Tryz.prog 20 #[.pointer (some ⟨p, 0, none⟩), .agg #[.int .i64 2, .int .i64 9, .int .i64 1, .int .i64 0, .int .i64 0, .int .i64 0, .int .i64 0, .string ⟨#[98]⟩, .string ⟨#[]⟩, .slice none 0 0, .bool false]] v4 fun e w' => DoW w v4 w' p K4 5 sa4 (errR 17) e) := Hd (by
  have := agw_do p K4 sa4 4 (by omega) ⟨2, 9, 1, 0, 0, 0, 0, [98], [], [], false⟩ (.slice none 0 0) w v4 H4.out ⟨SlAt.of_own (World.ownsRow_nil _ 0 99 3), (fun x hx => by cases hx), by decide +kernel, by decide +kernel, small_nums (by decide)⟩ (by decide) (itk_nil _ _ _ rfl)
  rw [e19_5] at this
  exact this)
 go_wp2_with fail
 refine CD5.out.mono ?_
 rintro e u5 ⟨pv, K5, he, hp, hg, hA, ho, hN, hk⟩
 have he : e = .returned (.agg #[.int .i64 17, .int .i64 0, pv]) := he
 subst he
 obtain ⟨PA, pc, rfl⟩ := hp.ps.shape
 have HO5 : Hid (Only K4 v4 u5) := Hd ho
 have HN5 : Hid (∀ x ∈ K5, x ∈ K4 ∨ v4.heap.size ≤ x) := Hd hN
 have HP5 := Hd hp
 have HA5 := Hd hA
 have HG5 := Hd hg
 have B29 := Hd (B25.out.does HO5.out HN5.out)
 have B30 := Hd (B26.out.does HO5.out HN5.out)
 have B31 := Hd (B27.out.does HO5.out HN5.out)
 have B32 := Hd (B28.out.does HO5.out HN5.out)
 have B33 := Hd (B24.out.does HO5.out HN5.out)
 obtain ⟨b1, b2, b3⟩ := box_row u5 34 [.int .i64 0, .int .i64 0, .slice none 0 0] [.int .i64 17, .int .i64 0, .slice PA 0 pc]
 have hone : (#[.int .i64 17, .int .i64 0, .slice PA 0 pc] : Array Value).all (·.oneCell') = true := by simp [Value.oneCell']
 have hbw := hA.at_.bw
 have hnew : u5.heap.size ∉ K5 := fun hm => by have := hbw _ hm; omega
 clear hp hg hA ho hN hk hbw CD5 B25 B26 B27 B28 B24 H4
 go_upto_region 11 with (refine wpList_store_row rfl 34 _ _ rfl u5.heap.size #[.int .i64 17, .int .i64 0, .slice PA 0 pc] rfl rfl 34 _ b2 (by kernel_rfl) rfl hone ?_)
 (try simp only [Act.put])
 obtain ⟨v5, hv5⟩ : ∃ u, (u5.alloc (.cells #[.int .i64 0, .int .i64 0, .slice none 0 0] 34)).setRow u5.heap.size #[.int .i64 17, .int .i64 0, .slice PA 0 pc] = u := ⟨_, rfl⟩
 rw [hv5]
 have b1 : Only [] u5 v5 := hv5 ▸ b1
 have b3 : Cells v5 u5.heap.size 34 [.int .i64 17, .int .i64 0, .slice PA 0 pc] := hv5 ▸ b3
 obtain ⟨z5, hz5⟩ : ∃ z, u5.heap.size = z := ⟨_, rfl⟩
 rw [hz5] at b3 hnew ⊢
 have B34 : Hid (Bx v5 K5 z5 34 [.int .i64 17, .int .i64 0, .slice PA 0 pc]) := Hd ⟨b3, hnew⟩
 have H5 := Hd (HA5.out.read b1)
 have HQ5 := Hd (HP5.out.only b1)
 have B35 := Hd (B29.out.read b1)
 have B36 := Hd (B30.out.read b1)
 have B37 := Hd (B31.out.read b1)
 have B38 := Hd (B32.out.read b1)
 have B39 := Hd (B33.out.read b1)
 clear b1 b2 b3 hone hnew hv5 hz5 HA5 HP5 HG5 HO5 HN5 B29 B30 B31 B32 B33
 have CD6 : Hid (Calls Tryz.prog 20 #[.pointer (some ⟨p, 0, none⟩), .agg #[.int .i64 7, .int .i64 0, .int .i64 0, .int .i64 4, .int .i64 2, .int .i64 0, .int .i64 0, .string ⟨#[]⟩, .string ⟨#[]⟩, .slice none 0 0, .bool false]] v5 fun e w' => DoW w v5 w' p K5 6 sa6 (⟨0, 1, []⟩) e) := Hd (by
  have := agw_do p K5 sa4 5 (by omega) ⟨7, 0, 0, 4, 2, 0, 0, [], [], [], false⟩ (.slice none 0 0) w v5 H5.out ⟨SlAt.of_own (World.ownsRow_nil _ 0 99 3), (fun x hx => by cases hx), by decide +kernel, by decide +kernel, small_nums (by decide)⟩ (by decide) (itk_nil _ _ _ rfl)
  rw [e19_6] at this
  exact this)
 go_wp2_with fail
 refine CD6.out.mono ?_
 rintro e u6 ⟨pv, K6, he, hp, hg, hA, ho, hN, hk⟩
 have he : e = .returned (.agg #[.int .i64 0, .int .i64 1, pv]) := he
 subst he
 obtain ⟨PA, pc, rfl⟩ := hp.ps.shape
 have HO6 : Hid (Only K5 v5 u6) := Hd ho
 have HN6 : Hid (∀ x ∈ K6, x ∈ K5 ∨ v5.heap.size ≤ x) := Hd hN
 have HP6 := Hd hp
 have HA6 := Hd hA
 have HG6 := Hd hg
 have B40 := Hd (B35.out.does HO6.out HN6.out)
 have B41 := Hd (B36.out.does HO6.out HN6.out)
 have B42 := Hd (B37.out.does HO6.out HN6.out)
 have B43 := Hd (B38.out.does HO6.out HN6.out)
 have B44 := Hd (B39.out.does HO6.out HN6.out)
 have B45 := Hd (B34.out.does HO6.out HN6.out)
 obtain ⟨b1, b2, b3⟩ := box_row u6 34 [.int .i64 0, .int .i64 0, .slice none 0 0] [.int .i64 0, .int .i64 1, .slice PA 0 pc]
 have hone : (#[.int .i64 0, .int .i64 1, .slice PA 0 pc] : Array Value).all (·.oneCell') = true := by simp [Value.oneCell']
 have hbw := hA.at_.bw
 have hnew : u6.heap.size ∉ K6 := fun hm => by have := hbw _ hm; omega
 clear hp hg hA ho hN hk hbw CD6 B35 B36 B37 B38 B39 B34 H5
 go_upto_region 12 with (refine wpList_store_row rfl 34 _ _ rfl u6.heap.size #[.int .i64 0, .int .i64 1, .slice PA 0 pc] rfl rfl 34 _ b2 (by kernel_rfl) rfl hone ?_)
 (try simp only [Act.put])
 obtain ⟨v6, hv6⟩ : ∃ u, (u6.alloc (.cells #[.int .i64 0, .int .i64 0, .slice none 0 0] 34)).setRow u6.heap.size #[.int .i64 0, .int .i64 1, .slice PA 0 pc] = u := ⟨_, rfl⟩
 rw [hv6]
 have b1 : Only [] u6 v6 := hv6 ▸ b1
 have b3 : Cells v6 u6.heap.size 34 [.int .i64 0, .int .i64 1, .slice PA 0 pc] := hv6 ▸ b3
 obtain ⟨z6, hz6⟩ : ∃ z, u6.heap.size = z := ⟨_, rfl⟩
 rw [hz6] at b3 hnew ⊢
 have B46 : Hid (Bx v6 K6 z6 34 [.int .i64 0, .int .i64 1, .slice PA 0 pc]) := Hd ⟨b3, hnew⟩
 have H6 := Hd (HA6.out.read b1)
 have HQ6 := Hd (HP6.out.only b1)
 have B47 := Hd (B40.out.read b1)
 have B48 := Hd (B41.out.read b1)
 have B49 := Hd (B42.out.read b1)
 have B50 := Hd (B43.out.read b1)
 have B51 := Hd (B44.out.read b1)
 have B52 := Hd (B45.out.read b1)
 clear b1 b2 b3 hone hnew hv6 hz6 HA6 HP6 HG6 HO6 HN6 B40 B41 B42 B43 B44 B45
 obtain ⟨wi, hwi⟩ : ∃ u, v6.alloc (.cells #[.string ⟨#[120]⟩, .string ⟨#[]⟩, .string ⟨#[]⟩] 99) = u := ⟨_, rfl⟩
 have hsz : wi.heap.size = v6.heap.size + 1 := by rw [← hwi, World.size_alloc]
 obtain ⟨b1, b2, b3⟩ := box_row wi 38 [.int .i64 0, .int .i64 0, .int .i64 0, .int .i64 0, .int .i64 0, .int .i64 0, .int .i64 0, .string ⟨#[]⟩, .string ⟨#[]⟩, .slice none 0 0, .bool false] [.int .i64 8, .int .i64 0, .int .i64 0, .int .i64 4, .int .i64 2, .int .i64 1, .int .i64 0, .string ⟨#[97]⟩, .string ⟨#[]⟩, .slice (some ⟨v6.heap.size, 0, none⟩) 1 1, .bool false]
 rw [hsz, ← hwi] at b1 b2 b3
 have hone : (#[.int .i64 8, .int .i64 0, .int .i64 0, .int .i64 4, .int .i64 2, .int .i64 1, .int .i64 0, .string ⟨#[97]⟩, .string ⟨#[]⟩, .slice (some ⟨v6.heap.size, 0, none⟩) 1 1, .bool false] : Array Value).all (·.oneCell') = true := by simp [Value.oneCell']
 have hnew : v6.heap.size + 1 ∉ K6 := fun hm => by have := H6.out.at_.bw _ hm; omega
 have hnew2 : v6.heap.size ∉ K6 := fun hm => by have := H6.out.at_.bw _ hm; omega
 clear hwi hsz wi
 go_upto_region 13 with (refine wpList_store_row rfl 38 _ _ rfl (v6.heap.size + 1) #[.int .i64 8, .int .i64 0, .int .i64 0, .int .i64 4, .int .i64 2, .int .i64 1, .int .i64 0, .string ⟨#[97]⟩, .string ⟨#[]⟩, .slice (some ⟨v6.heap.size, 0, none⟩) 1 1, .bool false] rfl rfl 38 _ b2 (by kernel_rfl) rfl hone ?_)
 (try simp only [Act.put])
 obtain ⟨yi, hy⟩ : ∃ u, ((v6.alloc (.cells #[.string ⟨#[120]⟩, .string ⟨#[]⟩, .string ⟨#[]⟩] 99)).alloc (.cells #[.int .i64 0, .int .i64 0, .int .i64 0, .int .i64 0, .int .i64 0, .int .i64 0, .int .i64 0, .string ⟨#[]⟩, .string ⟨#[]⟩, .slice none 0 0, .bool false] 38)).setRow (v6.heap.size + 1) #[.int .i64 8, .int .i64 0, .int .i64 0, .int .i64 4, .int .i64 2, .int .i64 1, .int .i64 0, .string ⟨#[97]⟩, .string ⟨#[]⟩, .slice (some ⟨v6.heap.size, 0, none⟩) 1 1, .bool false] = u := ⟨_, rfl⟩
 rw [hy]
 have b0 : Only [] (v6.alloc (.cells #[.string ⟨#[120]⟩, .string ⟨#[]⟩, .string ⟨#[]⟩] 99)) yi := hy ▸ b1
 have b1 : Only [] v6 yi := Only.tr0 (oz.alloc _) b0
 have b3 : Cells yi (v6.heap.size + 1) 38 [.int .i64 8, .int .i64 0, .int .i64 0, .int .i64 4, .int .i64 2, .int .i64 1, .int .i64 0, .string ⟨#[97]⟩, .string ⟨#[]⟩, .slice (some ⟨v6.heap.size, 0, none⟩) 1 1, .bool false] := hy ▸ b3
 have b4 : Cells yi v6.heap.size 99 [.string ⟨#[120]⟩, .string ⟨#[]⟩, .string ⟨#[]⟩] := (Cells.new v6 _ _).only b0 (by simp)
 obtain ⟨qi, hz⟩ : ∃ z, v6.heap.size + 1 = z := ⟨_, rfl⟩
 obtain ⟨ib, hib⟩ : ∃ z, v6.heap.size = z := ⟨_, rfl⟩
 have hbase := H6.out.ho.size
 rw [hz, hib] at b3
 rw [hib] at b4 hnew2 hbase
 rw [hz] at hnew
 rw [hz, hib]
 rw [hib] at hz
 have HLi : Hid (w.heap.size ≤ qi) := Hd (by omega)
 have B53 : Hid (Bx yi K6 qi 38 [.int .i64 8, .int .i64 0, .int .i64 0, .int .i64 4, .int .i64 2, .int .i64 1, .int .i64 0, .string ⟨#[97]⟩, .string ⟨#[]⟩, .slice (some ⟨ib, 0, none⟩) 1 1, .bool false]) := Hd ⟨b3, hnew⟩
 have B54 : Hid (Bx yi K6 ib 99 [.string ⟨#[120]⟩, .string ⟨#[]⟩, .string ⟨#[]⟩]) := Hd ⟨b4, hnew2⟩
 have HYi := Hd (H6.out.read b1)
 have B55 := Hd (B47.out.read b1)
 have B56 := Hd (B49.out.read b1)
 have B57 := Hd (B50.out.read b1)
 have B58 := Hd (B51.out.read b1)
 have B59 := Hd (B52.out.read b1)
 have B60 := Hd (B46.out.read b1)
 clear b0 b1 b2 b3 b4 hone hnew hnew2 hy hz hib hbase H6 B47 B49 B50 B51 B52 B46
 have CD7 : Hid (Calls Tryz.prog 20 #[.pointer (some ⟨p, 0, none⟩), .agg #[.int .i64 8, .int .i64 0, .int .i64 0, .int .i64 4, .int .i64 2, .int .i64 1, .int .i64 0, .string ⟨#[97]⟩, .string ⟨#[]⟩, .slice (some ⟨ib, 0, none⟩) 1 1, .bool false]] yi fun e w' => DoW w yi w' p K6 7 sa7 (⟨0, 1, []⟩) e) := Hd (by
  have := agw_do p K6 sa6 6 (by omega) ⟨8, 0, 0, 4, 2, 1, 0, [97], [], [iX], false⟩ (.slice (some ⟨ib, 0, none⟩) 1 1) w yi HYi.out (cmat_box B54.out.1 _ rfl (by decide +kernel) (by decide +kernel) (small_nums (by decide))) (by decide) (itk_box B54.out _ rfl)
  rw [e19_7] at this
  exact this)
 have hld := B53.out.1
 go_wp2_with (refine wpList_load_row rfl 38 _ rfl qi rfl 38 #[.int .i64 8, .int .i64 0, .int .i64 0, .int .i64 4, .int .i64 2, .int .i64 1, .int .i64 0, .string ⟨#[97]⟩, .string ⟨#[]⟩, .slice (some ⟨ib, 0, none⟩) 1 1, .bool false] (0, 0) _ hld Tryz.underlying38 rfl (by kernel_rfl) ?_)
 clear hld
 refine CD7.out.mono ?_
 rintro e u7 ⟨pv, K7, he, hp, hg, hA, ho, hN, hk⟩
 have he : e = .returned (.agg #[.int .i64 0, .int .i64 1, pv]) := he
 subst he
 obtain ⟨PA, pc, rfl⟩ := hp.ps.shape
 have HO7 : Hid (Only K6 yi u7) := Hd ho
 have HN7 : Hid (∀ x ∈ K7, x ∈ K6 ∨ yi.heap.size ≤ x) := Hd hN
 have HP7 := Hd hp
 have HA7 := Hd hA
 have HG7 := Hd hg
 have B61 := Hd (B55.out.does HO7.out HN7.out)
 have B62 := Hd (B56.out.does HO7.out HN7.out)
 have B63 := Hd (B57.out.does HO7.out HN7.out)
 have B64 := Hd (B58.out.does HO7.out HN7.out)
 have B65 := Hd (B59.out.does HO7.out HN7.out)
 have B66 := Hd (B60.out.does HO7.out HN7.out)
 have B67 := Hd (B53.out.does HO7.out HN7.out)
 have B68 := Hd (B54.out.does HO7.out HN7.out)
 obtain ⟨b1, b2, b3⟩ := box_row u7 34 [.int .i64 0, .int .i64 0, .slice none 0 0] [.int .i64 0, .int .i64 1, .slice PA 0 pc]
 have hone : (#[.int .i64 0, .int .i64 1, .slice PA 0 pc] : Array Value).all (·.oneCell') = true := by simp [Value.oneCell']
 have hbw := hA.at_.bw
 have hnew : u7.heap.size ∉ K7 := fun hm => by have := hbw _ hm; omega
 clear hp hg hA ho hN hk hbw CD7 B55 B56 B57 B58 B59 B60 B53 B54 HYi
 go_upto_region 14 with (refine wpList_store_row rfl 34 _ _ rfl u7.heap.size #[.int .i64 0, .int .i64 1, .slice PA 0 pc] rfl rfl 34 _ b2 (by kernel_rfl) rfl hone ?_)
 (try simp only [Act.put])
 obtain ⟨v7, hv7⟩ : ∃ u, (u7.alloc (.cells #[.int .i64 0, .int .i64 0, .slice none 0 0] 34)).setRow u7.heap.size #[.int .i64 0, .int .i64 1, .slice PA 0 pc] = u := ⟨_, rfl⟩
 rw [hv7]
 have b1 : Only [] u7 v7 := hv7 ▸ b1
 have b3 : Cells v7 u7.heap.size 34 [.int .i64 0, .int .i64 1, .slice PA 0 pc] := hv7 ▸ b3
 obtain ⟨z7, hz7⟩ : ∃ z, u7.heap.size = z := ⟨_, rfl⟩
 rw [hz7] at b3 hnew ⊢
 have B69 : Hid (Bx v7 K7 z7 34 [.int .i64 0, .int .i64 1, .slice PA 0 pc]) := Hd ⟨b3, hnew⟩
 have H7 := Hd (HA7.out.read b1)
 have HQ7 := Hd (HP7.out.only b1)
 have B70 := Hd (B61.out.read b1)
 have B71 := Hd (B62.out.read b1)
 have B72 := Hd (B63.out.read b1)
 have B73 := Hd (B64.out.read b1)
 have B74 := Hd (B65.out.read b1)
 have B75 := Hd (B66.out.read b1)
 have B76 := Hd (B67.out.read b1)
 have B77 := Hd (B68.out.read b1)
 clear b1 b2 b3 hone hnew hv7 hz7 HA7 HP7 HG7 HO7 HN7 B61 B62 B63 B64 B65 B66 B67 B68
 have hs0 := B76.out.1.cell (k := 5) rfl
 have hf0 := B76.out.1.frozen 5
 have hl0 := B76.out.1.lt
 go_upto_region 15 with fail
 obtain ⟨yi2, hy⟩ : ∃ u, v7.setCell ⟨qi, 5, none⟩ (.int .i64 2) = u := ⟨_, rfl⟩
 rw [hy]
 have b1 : Only [qi] v7 yi2 := hy ▸ oz.setCell (.inl (by simp)) _
 have B78 : Hid (Bx yi2 K7 qi 38 [.int .i64 8, .int .i64 0, .int .i64 0, .int .i64 4, .int .i64 2, .int .i64 2, .int .i64 0, .string ⟨#[97]⟩, .string ⟨#[]⟩, .slice (some ⟨ib, 0, none⟩) 1 1, .bool false]) := Hd ⟨hy ▸ B76.out.1.set 5 _, B76.out.2⟩
 have HZi := Hd (H7.out.far b1 (fun x hx => by simp at hx; subst hx; exact ⟨B76.out.2, HLi.out⟩))
 have B79 := Hd (B70.out.far b1 (B70.out.1.ne B76.out.1 (by decide)))
 have B80 := Hd (B71.out.far b1 (B71.out.1.ne B76.out.1 (by decide)))
 have B81 := Hd (B72.out.far b1 (B72.out.1.ne B76.out.1 (by decide)))
 have B82 := Hd (B73.out.far b1 (B73.out.1.ne B76.out.1 (by decide)))
 have B83 := Hd (B74.out.far b1 (B74.out.1.ne B76.out.1 (by decide)))
 have B84 := Hd (B75.out.far b1 (B75.out.1.ne B76.out.1 (by decide)))
 have B85 := Hd (B77.out.far b1 (B77.out.1.ne B76.out.1 (by decide)))
 have B86 := Hd (B69.out.far b1 (B69.out.1.ne B76.out.1 (by decide)))
 clear hs0 hf0 hl0 b1 hy H7 B76 B70 B71 B72 B73 B74 B75 B77 B69
 have CD8 : Hid (Calls Tryz.prog 20 #[.pointer (some ⟨p, 0, none⟩), .agg #[.int .i64 8, .int .i64 0, .int .i64 0, .int .i64 4, .int .i64 2, .int .i64 2, .int .i64 0, .string ⟨#[97]⟩, .string ⟨#[]⟩, .slice (some ⟨ib, 0, none⟩) 1 1, .bool false]] yi2 fun e w' => DoW w yi2 w' p K7 8 sa7 (errR 15) e) := Hd (by
  have := agw_do p K7 sa7 7 (by omega) ⟨8, 0, 0, 4, 2, 2, 0, [97], [], [iX], false⟩ (.slice (some ⟨ib, 0, none⟩) 1 1) w yi2 HZi.out (cmat_box B85.out.1 _ rfl (by decide +kernel) (by decide +kernel) (small_nums (by decide))) (by decide) (itk_box B85.out _ rfl)
  rw [e19_8] at this
  exact this)
 have hld := B78.out.1
 go_wp2_with (refine wpList_load_row rfl 38 _ rfl qi rfl 38 #[.int .i64 8, .int .i64 0, .int .i64 0, .int .i64 4, .int .i64 2, .int .i64 2, .int .i64 0, .string ⟨#[97]⟩, .string ⟨#[]⟩, .slice (some ⟨ib, 0, none⟩) 1 1, .bool false] (0, 0) _ hld Tryz.underlying38 rfl (by kernel_rfl) ?_)
 clear hld
 refine CD8.out.mono ?_
 rintro e u8 ⟨pv, K8, he, hp, hg, hA, ho, hN, hk⟩
 have he : e = .returned (.agg #[.int .i64 15, .int .i64 0, pv]) := he
 subst he
 obtain ⟨PA, pc, rfl⟩ := hp.ps.shape
 have HO8 : Hid (Only K7 yi2 u8) := Hd ho
 have HN8 : Hid (∀ x ∈ K8, x ∈ K7 ∨ yi2.heap.size ≤ x) := Hd hN
 have HP8 := Hd hp
 have HA8 := Hd hA
 have HG8 := Hd hg
 have B87 := Hd (B79.out.does HO8.out HN8.out)
 have B88 := Hd (B80.out.does HO8.out HN8.out)
 have B89 := Hd (B81.out.does HO8.out HN8.out)
 have B90 := Hd (B82.out.does HO8.out HN8.out)
 have B91 := Hd (B83.out.does HO8.out HN8.out)
 have B92 := Hd (B84.out.does HO8.out HN8.out)
 have B93 := Hd (B78.out.does HO8.out HN8.out)
 have B94 := Hd (B85.out.does HO8.out HN8.out)
 have B95 := Hd (B86.out.does HO8.out HN8.out)
 obtain ⟨b1, b2, b3⟩ := box_row u8 34 [.int .i64 0, .int .i64 0, .slice none 0 0] [.int .i64 15, .int .i64 0, .slice PA 0 pc]
 have hone : (#[.int .i64 15, .int .i64 0, .slice PA 0 pc] : Array Value).all (·.oneCell') = true := by simp [Value.oneCell']
 have hbw := hA.at_.bw
 have hnew : u8.heap.size ∉ K8 := fun hm => by have := hbw _ hm; omega
 clear hp hg hA ho hN hk hbw CD8 B79 B80 B81 B82 B83 B84 B78 B85 B86 HZi
 go_upto_region 16 with (refine wpList_store_row rfl 34 _ _ rfl u8.heap.size #[.int .i64 15, .int .i64 0, .slice PA 0 pc] rfl rfl 34 _ b2 (by kernel_rfl) rfl hone ?_)
 (try simp only [Act.put])
 obtain ⟨v8, hv8⟩ : ∃ u, (u8.alloc (.cells #[.int .i64 0, .int .i64 0, .slice none 0 0] 34)).setRow u8.heap.size #[.int .i64 15, .int .i64 0, .slice PA 0 pc] = u := ⟨_, rfl⟩
 rw [hv8]
 have b1 : Only [] u8 v8 := hv8 ▸ b1
 have b3 : Cells v8 u8.heap.size 34 [.int .i64 15, .int .i64 0, .slice PA 0 pc] := hv8 ▸ b3
 obtain ⟨z8, hz8⟩ : ∃ z, u8.heap.size = z := ⟨_, rfl⟩
 rw [hz8] at b3 hnew ⊢
 have B96 : Hid (Bx v8 K8 z8 34 [.int .i64 15, .int .i64 0, .slice PA 0 pc]) := Hd ⟨b3, hnew⟩
 have H8 := Hd (HA8.out.read b1)
 have HQ8 := Hd (HP8.out.only b1)
 have B97 := Hd (B87.out.read b1)
 have B98 := Hd (B88.out.read b1)
 have B99 := Hd (B89.out.read b1)
 have B100 := Hd (B90.out.read b1)
 have B101 := Hd (B91.out.read b1)
 have B102 := Hd (B92.out.read b1)
 have B103 := Hd (B93.out.read b1)
 have B104 := Hd (B94.out.read b1)
 have B105 := Hd (B95.out.read b1)
 clear b1 b2 b3 hone hnew hv8 hz8 HA8 HP8 HG8 HO8 HN8 B87 B88 B89 B90 B91 B92 B93 B94 B95
 have CD9 : Hid (Calls Tryz.prog 20 #[.pointer (some ⟨p, 0, none⟩), .agg #[.int .i64 5, .int .i64 1, .int .i64 3, .int .i64 0, .int .i64 0, .int .i64 0, .int .i64 0, .string ⟨#[97]⟩, .string ⟨#[]⟩, .slice none 0 0, .bool false]] v8 fun e w' => DoW w v8 w' p K8 9 sa9 (⟨0, 0, [⟨1, iX, false⟩]⟩) e) := Hd (by
  have := agw_do p K8 sa7 8 (by omega) ⟨5, 1, 3, 0, 0, 0, 0, [97], [], [], false⟩ (.slice none 0 0) w v8 H8.out ⟨SlAt.of_own (World.ownsRow_nil _ 0 99 3), (fun x hx => by cases hx), by decide +kernel, by decide +kernel, small_nums (by decide)⟩ (by decide) (itk_nil _ _ _ rfl)
  rw [e19_9] at this
  exact this)
 go_wp2_with fail
 refine CD9.out.mono ?_
 rintro e u9 ⟨pv, K9, he, hp, hg, hA, ho, hN, hk⟩
 have he : e = .returned (.agg #[.int .i64 0, .int .i64 0, pv]) := he
 subst he
 obtain ⟨PA, pc, rfl⟩ := hp.ps.shape
 have HO9 : Hid (Only K8 v8 u9) := Hd ho
 have HN9 : Hid (∀ x ∈ K9, x ∈ K8 ∨ v8.heap.size ≤ x) := Hd hN
 have HP9 := Hd hp
 have HA9 := Hd hA
 have HG9 := Hd hg
 have B106 := Hd (B97.out.does HO9.out HN9.out)
 have B107 := Hd (B98.out.does HO9.out HN9.out)
 have B108 := Hd (B99.out.does HO9.out HN9.out)
 have B109 := Hd (B100.out.does HO9.out HN9.out)
 have B110 := Hd (B101.out.does HO9.out HN9.out)
 have B111 := Hd (B102.out.does HO9.out HN9.out)
 have B112 := Hd (B105.out.does HO9.out HN9.out)
 have B113 := Hd (B96.out.does HO9.out HN9.out)
 obtain ⟨b1, b2, b3⟩ := box_row u9 34 [.int .i64 0, .int .i64 0, .slice none 0 0] [.int .i64 0, .int .i64 0, .slice PA 1 pc]
 have hone : (#[.int .i64 0, .int .i64 0, .slice PA 1 pc] : Array Value).all (·.oneCell') = true := by simp [Value.oneCell']
 have hbw := hA.at_.bw
 have hnew : u9.heap.size ∉ K9 := fun hm => by have := hbw _ hm; omega
 clear hp hg hA ho hN hk hbw CD9 B97 B98 B99 B100 B101 B102 B105 B96 H8
 go_upto_region 17 with (refine wpList_store_row rfl 34 _ _ rfl u9.heap.size #[.int .i64 0, .int .i64 0, .slice PA 1 pc] rfl rfl 34 _ b2 (by kernel_rfl) rfl hone ?_)
 (try simp only [Act.put])
 obtain ⟨v9, hv9⟩ : ∃ u, (u9.alloc (.cells #[.int .i64 0, .int .i64 0, .slice none 0 0] 34)).setRow u9.heap.size #[.int .i64 0, .int .i64 0, .slice PA 1 pc] = u := ⟨_, rfl⟩
 rw [hv9]
 have b1 : Only [] u9 v9 := hv9 ▸ b1
 have b3 : Cells v9 u9.heap.size 34 [.int .i64 0, .int .i64 0, .slice PA 1 pc] := hv9 ▸ b3
 obtain ⟨z9, hz9⟩ : ∃ z, u9.heap.size = z := ⟨_, rfl⟩
 rw [hz9] at b3 hnew ⊢
 have B114 : Hid (Bx v9 K9 z9 34 [.int .i64 0, .int .i64 0, .slice PA 1 pc]) := Hd ⟨b3, hnew⟩
 have H9 := Hd (HA9.out.read b1)
 have HQ9 := Hd (HP9.out.only b1)
 have B115 := Hd (B106.out.read b1)
 have B116 := Hd (B107.out.read b1)
 have B117 := Hd (B108.out.read b1)
 have B118 := Hd (B109.out.read b1)
 have B119 := Hd (B110.out.read b1)
 have B120 := Hd (B111.out.read b1)
 have B121 := Hd (B112.out.read b1)
 have B122 := Hd (B113.out.read b1)
 clear b1 b2 b3 hone hnew hv9 hz9 HA9 HP9 HG9 HO9 HN9 B106 B107 B108 B109 B110 B111 B112 B113
 have eb1 := B115.out.1.cell (k := 1) rfl
 have lb1 := B115.out.1.lt
 have eb2 := B116.out.1.cell (k := 0) rfl
 have lb2 := B116.out.1.lt
 have eb3 := B117.out.1.cell (k := 0) rfl
 have lb3 := B117.out.1.lt
 have eb4 := B118.out.1.cell (k := 0) rfl
 have lb4 := B118.out.1.lt
 have eb5 := B119.out.1.cell (k := 0) rfl
 have lb5 := B119.out.1.lt
 have eb6 := B120.out.1.cell (k := 1) rfl
 have lb6 := B120.out.1.lt
 have eb7 := B121.out.1.cell (k := 1) rfl
 have lb7 := B121.out.1.lt
 have eb8 := B122.out.1.cell (k := 0) rfl
 have lb8 := B122.out.1.lt
 have eb9 := B114.out.1.cell (k := 2) rfl
 have lb9 := B114.out.1.lt
 have oP : Only [] v9 (v9.alloc (.cells #[.int .i64 1, .string ⟨#[120]⟩, .string ⟨#[]⟩, .string ⟨#[]⟩, .bool false] 101)) := oz.alloc _
 have CP : Hid (Calls Tryz.prog 25 #[.slice PA 1 pc, .slice (some ⟨v9.heap.size, 0, none⟩) 1 1] (v9.alloc (.cells #[.int .i64 1, .string ⟨#[120]⟩, .string ⟨#[]⟩, .string ⟨#[]⟩, .bool false] 101)) fun e w' => e = .returned (.bool true) ∧ Only [] (v9.alloc (.cells #[.int .i64 1, .string ⟨#[120]⟩, .string ⟨#[]⟩, .string ⟨#[]⟩, .bool false] 101)) w') := Hd (posts19 _ _ [⟨1, iX, false⟩] _ (HQ9.out.only oP).ps (SlAt.cells (n := 1) (sz := 5) (Cells.new v9 _ [.int .i64 1, .string ⟨#[120]⟩, .string ⟨#[]⟩, .string ⟨#[]⟩, .bool false]) rfl (by unfold maxLen; omega)) (by decide))
 have HF : Hid (Only [] w (v9.alloc (.cells #[.int .i64 1, .string ⟨#[120]⟩, .string ⟨#[]⟩, .string ⟨#[]⟩, .bool false] 101))) := Hd (H9.out.ho.tr oP)
 clear oP
 go_wp2_with fail
 refine CP.out.mono ?_
 rintro e wz ⟨rfl, hoz⟩
 go_wp2_with fail
 go_ret
 exact ⟨rfl, HF.out.tr hoz⟩
def runB (a : AgS) (l : List C19) : AgS := l.foldl (fun a c => (doA a c.c).2) a
theorem runB_step (a : AgS) (l : List C19) (k : Nat) (x : C19) (h : l[k]? = some x) : runB a (l.take (k + 1)) = (doA (runB a (l.take k)) x.c).2 := by
 unfold runB
 rw [List.take_add_one, h, List.foldl_append]; rfl
def Pv (w : World) (K : List Nat) (pv : Value) (r : Rp) : Prop := RpAt w pv r ∧ (0 < r.ps.length → ∀ g, pv.ownBlock = some g → g ∉ K)
theorem RpAt.lt {w : World} {pv : Value} {r : Rp} (h : RpAt w pv r) (h0 : 0 < r.ps.length) {g : Nat} (hg : pv.ownBlock = some g) : g < w.heap.size := by
 obtain ⟨b, o, c, rfl, hb, _⟩ := h.ps.at_ (by omega)
 simp [Value.ownBlock] at hg
 omega
theorem RpAt.past' {S : List Nat} {w w' : World} {pv : Value} {r : Rp} (h : RpAt w pv r) (ho : Only S w w') (hS : 0 < r.ps.length → ∀ g, pv.ownBlock = some g → g ∉ S) : RpAt w' pv r := by
 refine ⟨?_, h.er, h.n, h.sm, h.len⟩
 by_cases h0 : 0 < r.ps.length
 · exact (h.ps.past ho (Nat.le_refl _) (hS h0)).more ho.size
 · obtain ⟨z1, z2, z3, z4, z5, z6, z7⟩ := h.ps
   exact ⟨z1, z2, z3, z4, z5, z6, fun hh => by omega⟩
theorem Pv.does {w w' : World} {K K' : List Nat} {pv : Value} {r : Rp} (h : Pv w K pv r) (ho : Only K w w') (hN : ∀ x ∈ K', x ∈ K ∨ w.heap.size ≤ x) : Pv w' K' pv r :=
 ⟨h.1.past' ho h.2, fun h0 g hg hm => by
  rcases hN g hm with e | e
  · exact h.2 h0 g hg e
  · have := h.1.lt h0 hg; omega⟩
theorem Pv.read {w w' : World} {K : List Nat} {pv : Value} {r : Rp} (h : Pv w K pv r) (ho : Only [] w w') : Pv w' K pv r := ⟨h.1.only ho, h.2⟩
theorem DoW.of {W w w' : World} {p : Nat} {K : List Nat} {n : Nat} {a : AgS} {r : Rp} {e : Ending} (h : DoW W w w' p K n a r e) : ∃ pv K', e = .returned (r.val pv) ∧ Pv w' K' pv r ∧ AgW W w' p K' n a ∧ Only K w w' ∧ (∀ x ∈ K', x ∈ K ∨ w.heap.size ≤ x) ∧ RpK r ∧ ∃ PA pc, pv = .slice PA r.ps.length pc := by
 obtain ⟨pv, K', he, hp, hg, hA, ho, hN, hk⟩ := h
 obtain ⟨PA, pc, rfl⟩ := hp.ps.shape
 exact ⟨_, K', he, ⟨hp, fun h0 g hgg => (hg h0 g hgg).2⟩, hA, ho, hN, hk, PA, pc, rfl⟩
structure AgF (a : AgS) : Prop where
 ever : Wide64 a.t.ever
 n : a.t.l.length ≤ 8
 ses : ∀ x ∈ a.t.l, x.Fit
 d : a.d.Fit
 d8 : a.d.l.length = 8
 sj : SvJ a.s
 le : (agB a).length ≤ 1000000000
theorem agB_ge (a : AgS) (h : (agB a).length ≤ 1000000000) : (S15.packL a.t.l a.t.ever).length ≤ 1000000000 ∧ a.d.bytes.length ≤ 1000000000 ∧ (stB a.s).length ≤ 1000000000 := by
 rw [agB_parts] at h
 unfold tb at h
 simp only [List.length_append] at h
 omega
theorem ag_saveF (p : Nat) (K : List Nat) (a : AgS) (w : World) (h : AgAt w p K a) (hf : AgF a) :
 Calls Tryz.prog 28 #[.pointer (some ⟨p, 0, none⟩)] w fun e w' => e = .returned (.string ⟨(agB a).toArray⟩) ∧ Only [] w w' := by
 have hle := hf.le
 have f1 := hf.ever
 have f2 := hf.n
 have f3 := hf.ses
 have f4 := hf.d
 have f5 := hf.d8
 have f6 := hf.sj
 obtain ⟨tb, tv, lb, sb, O, B, hX, rfl⟩ := h
 have q0 := hX.cells.cell (k := 0) rfl
 have q1 := hX.cells.cell (k := 1) rfl
 have q2 := hX.cells.cell (k := 2) rfl
 have hpl := hX.cells.lt
 have CT := Hd (fun v : Since w => S15.tbs_pack B tb a.t.l a.t.ever v.w (hX.keep v.2 (by simp)).t.s (by omega) f1 f3)
 have CL := Hd (fun v : Since w => L16.lease_pack lb a.d v.w (hX.d.only v.2 (by simp)) f5 f4)
 have CS := Hd (fun v : Since w => st_pack sb O a.s v.w (hX.s.keep v.2 (by simp)) (SvI.sh (fun x hx => (f6.all x hx).1.i)))
 have HB := Hd hle
 obtain ⟨X, hX0⟩ : ∃ X, S15.packL a.t.l a.t.ever = X := ⟨_, rfl⟩
 obtain ⟨Y, hY0⟩ : ∃ X, a.d.bytes = X := ⟨_, rfl⟩
 obtain ⟨Z, hZ0⟩ : ∃ X, stB a.s = X := ⟨_, rfl⟩
 have hag : agB a = tsb [X, Y, Z] := by unfold agB; rw [hX0, hY0, hZ0]
 rw [hX0] at CT
 rw [hY0] at CL
 rw [hZ0] at CS
 rw [hag] at HB
 have HAG := Hd hag
 have v0 := fun u : Since w => u.cell q0
 have v1 := fun u : Since w => u.cell q1
 have v2 := fun u : Since w => u.cell q2
 clear hle f1 f2 f3 f4 f5 f6 hX0 hY0 hZ0 hag q0 q1 q2 hX hf
 go_enter Tryz.func28, Tryz.ntmps28
 go_upto_region 1 with fail
 refine wp_region_only_tail w oz 15 (by kernel_rfl) (by kernel_rfl) ?_
 simp only [tk1, tk0, dr1, dr0]
 repeat (go_big_quiet_step (first | (go_at_call 76; refine Calls.only (CT.out _)) | (go_at_call 77; refine Calls.only (CL.out _)) | (go_at_call 78; refine Calls.only (CS.out _))))
 refine wpQuiet_nil ?_
 rintro ⟨w3, ho3⟩
 dsimp only
 have CX := Hd (codec_texts_w [X, Y, Z] (by simp) (by have := HB.out; omega) 3 rfl (w3.alloc (.cells #[.string ⟨X.toArray⟩, .string ⟨Y.toArray⟩, .string ⟨Z.toArray⟩] 9)) w3.heap.size (Cells.new w3 _ _))
 have HO3 := Hd ((ho3.alloc (.cells #[.string ⟨X.toArray⟩, .string ⟨Y.toArray⟩, .string ⟨Z.toArray⟩] 9)))
 clear v0 v1 v2 CT CL CS ho3
 go_wp2_with fail
 refine CX.out.mono ?_
 rintro e w4 ⟨rfl, ho4⟩
 go_wp2_with fail
 go_ret
 exact ⟨by rw [HAG.out]; rfl, HO3.out.tr ho4⟩
theorem rg_saveF (p : Nat) (K : List Nat) (a : AgS) (w : World) (h : RgAt w p K a) (hf : AgF a) :
 Calls Tryz.prog 38 #[.pointer (some ⟨p, 0, none⟩)] w fun e w' => e = .returned (.string ⟨(agB a).toArray⟩) ∧ Only [] w w' := by
 have hle := hf.le
 have f1 := hf.ever
 have f2 := hf.n
 have f3 := hf.ses
 have f4 := hf.d
 have f6 := hf.sj
 obtain ⟨hx1, hx2, hx3⟩ := agB_ge a hle
 obtain ⟨tb', tv, lb, lv, sb, O, B, BL, hX, rfl⟩ := h
 have q0 := hX.cells.cell (k := 0) rfl
 have q1 := hX.cells.cell (k := 1) rfl
 have q2 := hX.cells.cell (k := 2) rfl
 have hpl := hX.cells.lt
 have CT := Hd (fun v : Since w => S15.rt_pack B tb' tv a.t.l a.t.ever v.w (hX.keep v.2 (by simp)).t (by omega) f1 f3)
 have CL := Hd (fun v : Since w => L16.rf_pack BL lb lv a.d v.w (hX.keep v.2 (by simp)).d f4)
 have CS := Hd (fun v : Since w => rr_pack sb O a.s v.w (hX.s.keep v.2 (by simp)) (fun x hx => (f6.all x hx).1.i))
 obtain ⟨X, hX0⟩ : ∃ X, S15.packL a.t.l a.t.ever = X := ⟨_, rfl⟩
 obtain ⟨Y, hY0⟩ : ∃ X, a.d.bytes = X := ⟨_, rfl⟩
 obtain ⟨Z, hZ0⟩ : ∃ X, stB a.s = X := ⟨_, rfl⟩
 have hag : agB a = tb X ++ (tb Y ++ (tb Z ++ [])) := by rw [← hX0, ← hY0, ← hZ0]; unfold agB tsb; simp
 rw [hX0] at CT hx1
 rw [hY0] at CL hx2
 rw [hZ0] at CS hx3
 have HAG := Hd hag
 have CX := Hd (fun v : Since w => ref_text X v.w (by omega))
 have CY := Hd (fun v : Since w => ref_text Y v.w (by omega))
 have CZ := Hd (fun v : Since w => ref_text Z v.w (by omega))
 have tx := (tb_length X (by omega)).2
 have ty := (tb_length Y (by omega)).2
 have tz := (tb_length Z (by omega)).2
 obtain ⟨X', hX'⟩ : ∃ X', tb X = X' := ⟨_, rfl⟩
 obtain ⟨Y', hY'⟩ : ∃ X', tb Y = X' := ⟨_, rfl⟩
 obtain ⟨Z', hZ'⟩ : ∃ X', tb Z = X' := ⟨_, rfl⟩
 rw [hX'] at CX tx HAG
 rw [hY'] at CY ty HAG
 rw [hZ'] at CZ tz HAG
 have bx : X'.length ≤ 2000000000 := by omega
 have by' : Y'.length ≤ 2000000000 := by omega
 have bz : Z'.length ≤ 2000000000 := by omega
 have v0 := fun u : Since w => u.cell q0
 have v1 := fun u : Since w => u.cell q1
 have v2 := fun u : Since w => u.cell q2
 clear hle f1 f2 f3 f4 f6 hX0 hY0 hZ0 hag q0 q1 q2 hX hf hx1 hx2 hx3 tx ty tz hX' hY' hZ'
 go_enter Tryz.func38, Tryz.ntmps38
 go_upto_region 1 with fail
 refine wp_region_only w oz (by kernel_rfl) (by kernel_rfl) ?_
 repeat (go_big_quiet_step (first | (go_at_call 100; refine Calls.only (CT.out _)) | (go_at_call 101; refine Calls.only (CL.out _)) | (go_at_call 102; refine Calls.only (CS.out _)) | (go_at_call 99; with_reducible refine Calls.only (CX.out _)) | (go_at_call 99; with_reducible refine Calls.only (CY.out _)) | (go_at_call 99; with_reducible refine Calls.only (CZ.out _))))
 refine wpQuiet_nil ?_
 rintro ⟨w3, ho3⟩
 dsimp only
 have HO3 := Hd ho3
 clear v0 v1 v2 CT CL CS CX CY CZ ho3
 go_wp2_with fail
 go_ret
 exact ⟨by rw [HAG.out, List.append_nil, ← ba_append, ← ba_append, ByteArray.append_assoc]; rfl, HO3.out⟩
theorem unAg_f {s : List UInt8} {a : AgS} (hs : s.length ≤ 100000000) (h : unAg s = some a) : AgF a ∧ agB a = s := by
 unfold unAg at h
 split at h
 · rename_i hc
   obtain ⟨h1, h2, h3, h4⟩ := hc
   have key : ∀ u : List UInt8, (rdTt u).2.2 = true → (rdTt u).1.length ≤ 1000000000000 → u = tb (rdTt u).1 ++ (rdTt u).2.1 := fun u hu hl => by
    unfold rdTt at hu hl ⊢
    cases hr : rdT u with
    | none => rw [hr] at hu; cases hu
    | some p =>
     obtain ⟨x, y⟩ := p
     rw [hr] at hl
     dsimp only at hl ⊢
     exact (S15.rdT_iff u x y hl).1 hr
   have l1 := rdTt_le s
   have l2 := rdTt_le (rdTt s).2.1
   have l3 := rdTt_le (rdTt (rdTt s).2.1).2.1
   have k1 := key s h1 (by omega)
   have k2 := key _ h2 (by omega)
   have k3 := key _ h3 (by omega)
   rw [h4] at k3
   cases e1 : S15.unS (rdTt s).1 with
   | none => rw [e1] at h; cases h
   | some p =>
    cases e2 : L16.unT (rdTt (rdTt s).2.1).1 with
    | none => rw [e1, e2] at h; cases h
    | some q =>
     cases e3 : unSt (rdTt (rdTt (rdTt s).2.1).2.1).1 with
     | none => rw [e1, e2, e3] at h; cases h
     | some r =>
      rw [e1, e2, e3] at h
      obtain rfl := Option.some.inj h
      obtain ⟨a1, a2, a3, a4⟩ := S15.unS_fit (by omega) e1
      obtain ⟨b1, b2, b3, b4⟩ := L16.unT_some e2
      obtain ⟨c1, c2⟩ := (unSt_iff _ _ (by omega)).1 e3
      have hB : agB ⟨p, q, r⟩ = s := by
       rw [agB_parts]
       dsimp only
       rw [a4, ← b1, ← c2, ← k3, ← k2, ← k1]
      exact ⟨⟨a1, a2, a3, b2, b3, c1, by rw [hB]; omega⟩, hB⟩
 · cases h
theorem reads19 (s : List UInt8) (hl : s.length ≤ 100000000) (w : World) :
 Calls Tryz.prog 39 #[.string ⟨s.toArray⟩] w fun e w' => e = .returned (.bool true) ∧ Only [] w w' := by
 have CA := Hd (fun w' => ag_load s w' hl)
 have CG := Hd (fun w' => rg_load s w' hl)
 have HF := Hd (fun a (h : unAg s = some a) => unAg_f hl h)
 clear hl
 go_enter Tryz.func39, Tryz.ntmps39
 go_wp2_with fail
 refine (CA.out _).mono ?_
 rintro e w1 ⟨ho1, hu1⟩
 cases hu : unAg s with
 | none =>
  rw [hu] at hu1
  subst hu1
  have HO1 := Hd ho1
  have HU := Hd hu
  clear ho1 hu CA HF
  go_wp2_with fail
  refine (CG.out _).mono ?_
  rintro e w2 ⟨ho2, hu2⟩
  rw [HU.out] at hu2
  subst hu2
  have HO2 := Hd (HO1.out.tr ho2)
  clear ho2 HO1 CG
  go_wp2_with fail
  go_ret
  exact ⟨rfl, HO2.out⟩
 | some a =>
  rw [hu] at hu1
  obtain ⟨p, K, rfl, hA, hl1⟩ := hu1
  obtain ⟨hfa, hB⟩ := HF.out a hu
  have HO1 := Hd ho1
  have HU := Hd hu
  have HA1 := Hd hA
  have HFA := Hd hfa
  have HB := Hd hB
  clear ho1 hu CA HF hA hl1 hfa hB
  go_wp2_with fail
  refine (CG.out _).mono ?_
  rintro e w2 ⟨ho2, hu2⟩
  rw [HU.out] at hu2
  obtain ⟨p2, K2, rfl, hG, hl2⟩ := hu2
  have HO2 := Hd (HO1.out.tr ho2)
  have HA2 := Hd (HA1.out.keep ho2 (by simp))
  have HG2 := Hd hG
  have CV := Hd (ag_saveF p K a w2 HA2.out HFA.out)
  rw [HB.out] at CV
  clear ho2 HO1 CG hG hl2 HA1
  go_wp2_with fail
  refine CV.out.mono ?_
  rintro e w3 ⟨rfl, ho3⟩
  have HO3 := Hd (HO2.out.tr ho3)
  have CR := Hd (rg_saveF p2 K2 a w3 (HG2.out.keep ho3 (by simp)) HFA.out)
  rw [HB.out] at CR
  clear ho3 HO2 CV HA2
  go_wp2_with fail
  refine CR.out.mono ?_
  rintro e w4 ⟨rfl, ho4⟩
  have HO4 := Hd (HO3.out.tr ho4)
  clear ho4 HO3 CR
  go_wp2_with fail
  go_ret
  exact ⟨by simp, HO4.out⟩
structure RgW (W w : World) (p : Nat) (K : List Nat) (n : Nat) (a : AgS) : Prop where
 at_ : RgAt w p K a
 ho : Only [] W w
 lo : ∀ x ∈ K, W.heap.size ≤ x
 i : AgI n a
theorem RgW.read {W w w' : World} {p : Nat} {K : List Nat} {n : Nat} {a : AgS} (h : RgW W w p K n a) (ho : Only [] w w') : RgW W w' p K n a := ⟨h.at_.keep ho (by simp), h.ho.tr ho, h.lo, h.i⟩
theorem RgW.far {W w w' : World} {p : Nat} {K X : List Nat} {n : Nat} {a : AgS} (h : RgW W w p K n a) (ho : Only X w w') (hX : ∀ x ∈ X, x ∉ K ∧ W.heap.size ≤ x) : RgW W w' p K n a :=
 ⟨h.at_.keep ho (fun k hk hm => (hX k hm).1 hk), h.ho.trans ho (fun x hx => .inr (hX x hx).2), h.lo, h.i⟩
theorem RgAt.sj {w : World} {p : Nat} {K : List Nat} {a : AgS} {n : Nat} (h : RgAt w p K a) (hI : AgI n a) : SvJ a.s := by
 obtain ⟨tb, tv, lb, lv, sb, O, B, BL, h, rfl⟩ := h
 obtain ⟨h1, h2, h3⟩ := h.s.sorted
 exact SvJ.of hI.si hI.sz h1 h2 h3
theorem SmC.sm {c : Cm} (h : SmC c) : c.Sm := ⟨Nat.le_trans h.fd (by omega), Nat.le_trans h.id (by omega), Nat.le_trans h.n (by omega), fun x hx => by
 have := h.its x hx
 exact ⟨Nat.le_trans this.id (by omega), Nat.le_trans this.ti (by omega), Nat.le_trans this.li (by omega)⟩⟩
def DgW (W w w' : World) (p : Nat) (K : List Nat) (n : Nat) (a : AgS) (r : Rp) (e : Ending) : Prop := ∃ pv K', e = .returned (r.val pv) ∧ RpAt w' pv r ∧ (0 < r.ps.length → ∀ g, pv.ownBlock = some g → w.heap.size ≤ g ∧ g ∉ K') ∧ RgW W w' p K' n a ∧ Only K w w' ∧ (∀ x ∈ K', x ∈ K ∨ w.heap.size ≤ x) ∧ RpK r
theorem itk_baseG {W w : World} {p : Nat} {K : List Nat} {n : Nat} {a : AgS} {c : Cm} {iv : Value} (hc : CmAt W iv c) (h : RgW W w p K n a) : ItK w K iv c :=
 fun _ ho => (((hc.its.only h.ho (Nat.le_refl _) (by simp)).only ho h.ho.size h.lo)).more (Nat.le_trans h.ho.size ho.size)
theorem rgw_do (p : Nat) (K : List Nat) (a : AgS) (n : Nat) (hn : n ≤ 1000000) (c : Cm) (iv : Value) (W w : World) (h : RgW W w p K n a) (hc : CmAt w iv c) (hsm : c.Sm) (hs : ItK w K iv c) :
 Calls Tryz.prog 36 #[.pointer (some ⟨p, 0, none⟩), c.val iv] w fun e w' => DgW W w w' p K (n + 1) (doA a c).2 (doA a c).1 e := by
 refine (rg_do p K a n (by omega) c iv w h.at_ h.i hc hsm hs).mono ?_
 rintro e w' ⟨pv, K', he, hp, hg, hA, ho, hN⟩
 have hst := doA_step h.i (by omega) c (hc.nums _ (by simp)) (by have := hsm.n; omega)
 exact ⟨pv, K', he, hp, hg, ⟨hA, h.ho.trans ho (fun x hx => .inr (h.lo x hx)), fun x hx => by
  rcases hN x hx with e | e
  · exact h.lo x e
  · exact Nat.le_trans h.ho.size e, hst.1⟩, ho, hN, hst.2⟩
theorem rgw_new (W w : World) (h : Only [] W w) : Calls Tryz.prog 32 #[] w fun e w' => ∃ p K, e = .returned (.pointer (some ⟨p, 0, none⟩)) ∧ RgW W w' p K 0 AgS.new ∧ (∀ x ∈ K, w.heap.size ≤ x) ∧ Only [] w w' := by
 refine (rg_new w).mono ?_
 rintro e w' ⟨p, K, he, hA, hl, ho⟩
 exact ⟨p, K, he, ⟨hA, h.tr ho, fun x hx => Nat.le_trans h.size (hl x hx), AgI.new⟩, hl, ho⟩
theorem rgw_save {W w : World} {p : Nat} {K : List Nat} {n : Nat} {a : AgS} (hn : n ≤ 1000000000) (h : RgW W w p K n a) :
 Calls Tryz.prog 38 #[.pointer (some ⟨p, 0, none⟩)] w fun e w' => e = .returned (.string ⟨(agB a).toArray⟩) ∧ Only [] w w' := rg_save p K a n hn w h.at_ h.i (h.at_.sj h.i)
end Go.Proofs.YtcjfmildalappaaGreat
