/-
  Chapter 18: Pack.
-/
import Derived.Test.YtjfnkjpnjiobjaaC18m
namespace Go.Proofs.Ytjfnkjpnjiobjaa
open Go.RowKit
def pkS (c : Cm) : List UInt8 := if rightB c = true then cmdb c else []
def pkE (c : Cm) : Int := if rightB c = true then 0 else 1
set_option maxRecDepth 100000 in
set_option maxHeartbeats 4000000 in
theorem cmd_pack (c : Cm) (iv : Value) (w : World) (h : CmAt w iv c) :
    Calls Try.prog 31 #[c.val iv] w fun e w' => e = .returned (.tuple #[.string ⟨(pkS c).toArray⟩, .int .i64 (pkE c)]) ∧ Only [] w w' := by
  have hmf : ∀ (fn : Fn) (first cap : Array Value) (w : World), (Instr.makeFunc fn first cap).run Try.prog w = .ok (.func fn first cap) w := fun _ _ _ _ => rfl
  obtain ⟨IA, ic, rfl⟩ := h.its.shape
  have H := Lib.hid h
  obtain ⟨w0, hw0⟩ : ∃ w0, w.alloc (.cells #[.int .i64 c.kd, .int .i64 c.ss, .int .i64 c.sq, .int .i64 c.sh, .int .i64 c.nd, .int .i64 c.ep, .int .i64 c.n, .string ⟨c.fd.toArray⟩, .string ⟨c.id.toArray⟩, .slice IA c.its.length ic, .bool c.fl] 65) = w0 := ⟨_, rfl⟩
  obtain ⟨z0, hz0⟩ : ∃ z, w.heap.size = z := ⟨_, rfl⟩
  have O0 : Only [] w w0 := hw0 ▸ (Only.refl _ _).alloc _
  have HZ0 : Hid (Cells w0 z0 65 (c.cells (.slice IA c.its.length ic))) := Lib.hid (hw0 ▸ hz0 ▸ Cells.new w _ _)
  have CR := Lib.hid (cmd_right c (.slice IA c.its.length ic) w0 (h.only O0))
  have hsz0 : z0 < w0.heap.size := HZ0.out.lt
  have HO0 := Lib.hid O0
  unfold Cm.val at CR ⊢
  obtain ⟨c0, c1, c2, c3, c4, c5, c6, c7, c8, c9, c10⟩ := cm_cells HZ0.out
  have HP : Hid (∀ b, rightB c = b → pkS c = (if b = true then cmdb c else []) ∧ pkE c = if b = true then 0 else 1) := Lib.hid (fun b hb => by unfold pkS pkE; rw [hb]; exact ⟨rfl, rfl⟩)
  have HQ : Hid (∀ b, rightB c = b → b = true → c.Sm ∧ (∀ x ∈ c.n7, Wide64 x)) := Lib.hid (fun b hb h => ⟨right_sm (hb.trans h), (right_ok (hb.trans h)).nums⟩)
  obtain ⟨R, hR⟩ : ∃ R, rightB c = R := ⟨_, rfl⟩
  rw [hR] at CR
  obtain ⟨e1, e2⟩ := HP.out R hR
  rw [e1, e2]
  have HQ := Lib.hid (HQ.out R hR)
  clear h HP hR e1 e2
  go_enter Try.func31, Try.ntmps31
  go_wp2_with fail
  refine CR.out.mono ?_
  rintro e w1 ⟨rfl, ho1⟩
  have HZ1 := Lib.hid (HZ0.out.only ho1 (by simp))
  have HO1 := Lib.hid (HO0.out.tr ho1)
  have hz01 : z0 < w1.heap.size := HZ1.out.lt
  clear ho1 CR hw0 hz0 HZ0 HO0 c0 c1 c2 c3 c4 c5 c6 c7 c8 c9 c10
  cases R with
  | false =>
    go_wp2_with fail
    go_ret2
    exact ⟨rfl, HO1.out⟩
  | true =>
  obtain ⟨hsm, hnw⟩ := HQ.out rfl
  have HSM := Lib.hid hsm
  have HNW := Lib.hid hnw
  clear HQ hsm hnw
  -- the writer
  obtain ⟨w2, hw2⟩ : ∃ w2, w1.alloc (.cells #[.pointer none, .slice none 0 0] 110) = w2 := ⟨_, rfl⟩
  obtain ⟨z, hz⟩ : ∃ z, w1.heap.size = z := ⟨_, rfl⟩
  have O2 : Only [] w1 w2 := hw2 ▸ (Only.refl _ _).alloc _
  have HB2 : Hid (IsBld 110 z z [] w2) := Lib.hid (.inl (hw2 ▸ hz ▸ Bld.new 110 w1))
  have hz2 : z ≤ w2.heap.size := hz ▸ O2.size
  have HZ2 := Lib.hid (HZ1.out.only O2 (by simp))
  have hz0z : z0 < z := hz ▸ hz01
  have hzw : w1.heap.size = z := hz
  obtain ⟨c0, c1, c2, c3, c4, c5, c6, c7, c8, c9, c10⟩ := cm_cells HZ2.out
  -- the seven numbers
  obtain ⟨w3, hw3⟩ : ∃ w3, w2.alloc (.cells #[.int .i64 c.kd, .int .i64 c.ss, .int .i64 c.sq, .int .i64 c.sh, .int .i64 c.nd, .int .i64 c.ep, .int .i64 c.n] 3) = w3 := ⟨_, rfl⟩
  obtain ⟨y3, hy3⟩ : ∃ y, w2.heap.size = y := ⟨_, rfl⟩
  have O3 : Only [] w2 w3 := hw3 ▸ (Only.refl _ _).alloc _
  have hC3 : Cells w3 y3 3 (gvs c.n7) := hw3 ▸ hy3 ▸ Cells.new w2 _ _
  have h7 := isb7_le c HNW.out
  have CI := Lib.hid (cw_ints z z y3 [] c.n7 7 rfl w3 (HB2.out.only O3) (Nat.le_trans hz2 O3.size) (by simp) (by simp [Cm.n7]) HNW.out hC3)
  rw [List.nil_append] at CI
  have HB23 : Hid (Below z w1 w3) := Lib.hid ((O2.tr O3).below.mono (by rw [hz]; exact Nat.le_refl _))
  obtain ⟨I7, hI7⟩ : ∃ I, isb c.n7 = I := ⟨_, rfl⟩
  have HH : Hid (cmH c = I7 ++ (tb c.fd ++ (tb c.id ++ ib c.its.length))) := Lib.hid (by unfold cmH; rw [hI7])
  rw [hI7] at CI h7
  clear O3 hC3 hI7 O2
  go_wp2_with fail
  refine CI.out.mono ?_
  rintro e w4 ⟨rfl, hb4, hbe4, _⟩
  have HB4 := Lib.hid hb4
  have HBE4 := Lib.hid (HB23.out.trans hbe4)
  have hz4 : z ≤ w4.heap.size := Nat.le_trans (by omega) HBE4.out.size
  have HZ4 : Hid (Cells w4 z0 65 (c.cells (.slice IA c.its.length ic))) := Lib.hid ((HBE4.out.block z0 hz0z).trans HZ1.out)
  clear hb4 hbe4 CI HB23 hw2 hz hw3 hy3 c0 c1 c2 c3 c4 c5 c6 c7 c8 c9 c10
  obtain ⟨c0, c1, c2, c3, c4, c5, c6, c7, c8, c9, c10⟩ := cm_cells HZ4.out
  -- the two texts
  obtain ⟨w5, hw5⟩ : ∃ w5, w4.alloc (.cells #[.string ⟨c.fd.toArray⟩, .string ⟨c.id.toArray⟩] 9) = w5 := ⟨_, rfl⟩
  obtain ⟨y5, hy5⟩ : ∃ y, w4.heap.size = y := ⟨_, rfl⟩
  have O5 : Only [] w4 w5 := hw5 ▸ (Only.refl _ _).alloc _
  have hC5 : Cells w5 y5 9 (svs [c.fd, c.id]) := hw5 ▸ hy5 ▸ Cells.new w4 _ _
  have l1 := tb_le c.fd 1000000 HSM.out.fd (by omega)
  have l2 := tb_le c.id 1000000 HSM.out.id (by omega)
  have l3 := (ib_length (c.its.length : Int) ⟨by omega, by have := HSM.out.n; omega⟩).2
  have hTS : tsb [c.fd, c.id] = tb c.fd ++ tb c.id := by unfold tsb; simp
  have CT := Lib.hid (cw_texts z z y5 I7 [c.fd, c.id] 2 rfl w5 (HB4.out.only O5) (Nat.le_trans hz4 O5.size) (by omega) (by simp) (by rw [hTS, List.length_append]; omega) hC5)
  rw [hTS] at CT
  have HB45 : Hid (Below z w4 w5) := Lib.hid (O5.below.mono hz4)
  clear O5 hC5 hTS
  go_wp2_with fail
  refine CT.out.mono ?_
  rintro e w6 ⟨rfl, hb6, hbe6, _⟩
  have HB6 := Lib.hid hb6
  have HBE6 := Lib.hid (HBE4.out.trans (HB45.out.trans hbe6))
  have hz6 : z ≤ w6.heap.size := Nat.le_trans (by omega) HBE6.out.size
  have HZ6 : Hid (Cells w6 z0 65 (c.cells (.slice IA c.its.length ic))) := Lib.hid ((HBE6.out.block z0 hz0z).trans HZ1.out)
  clear hb6 hbe6 CT HB45 hw5 hy5 HB4 HBE4 HZ4 hz4 c0 c1 c2 c3 c4 c5 c6 c7 c8 c9 c10
  obtain ⟨c0, c1, c2, c3, c4, c5, c6, c7, c8, c9, c10⟩ := cm_cells HZ6.out
  -- how many items
  obtain ⟨w7, hw7⟩ : ∃ w7, w6.alloc (.cells #[.int .i64 (c.its.length : Int)] 3) = w7 := ⟨_, rfl⟩
  obtain ⟨y7, hy7⟩ : ∃ y, w6.heap.size = y := ⟨_, rfl⟩
  have O7 : Only [] w6 w7 := hw7 ▸ (Only.refl _ _).alloc _
  have hC7 : Cells w7 y7 3 (gvs [(c.its.length : Int)]) := hw7 ▸ hy7 ▸ Cells.new w6 _ _
  have CN := Lib.hid (cw_ints z z y7 (I7 ++ (tb c.fd ++ tb c.id)) [(c.its.length : Int)] 1 rfl w7 (HB6.out.only O7) (Nat.le_trans hz6 O7.size) (by rw [List.length_append, List.length_append]; omega) (by simp) (by intro x hx; simp at hx; subst hx; exact ⟨by omega, by have := HSM.out.n; omega⟩) hC7)
  have hHE : I7 ++ (tb c.fd ++ tb c.id) ++ isb [(c.its.length : Int)] = cmH c := by rw [HH.out]; unfold isb; simp
  rw [hHE] at CN
  have hHl : (cmH c).length ≤ 3000000 := by rw [HH.out]; simp only [List.length_append]; omega
  have HB67 : Hid (Below z w6 w7) := Lib.hid (O7.below.mono hz6)
  clear O7 hC7 hHE l1 l2 l3 h7
  go_wp2_with fail
  refine CN.out.mono ?_
  rintro e w8 ⟨rfl, hb8, hbe8, _⟩
  have HBE8 := Lib.hid (HBE6.out.trans (HB67.out.trans hbe8))
  have HB8 : Hid (IsBld 110 z z (cmH c ++ itsB (c.its.take 0)) w8) := Lib.hid (by rw [List.take_zero]; simpa [itsB] using hb8)
  have HZ8 : Hid (Cells w8 z0 65 (c.cells (.slice IA c.its.length ic))) := Lib.hid ((HBE8.out.block z0 hz0z).trans HZ1.out)
  clear hb8 hbe8 CN HB67 hw7 hy7 HB6 HBE6 HZ6 hz6 c0 c1 c2 c3 c4 c5 c6 c7 c8 c9 c10 HH
  obtain ⟨c0, c1, c2, c3, c4, c5, c6, c7, c8, c9, c10⟩ := cm_cells HZ8.out
  have hnl := HSM.out.n
  have HT := Lib.hid (itsB_take c.its HSM.out.its)
  have HSI := Lib.hid HSM.out.its
  have HCM : Hid (cmdb c = cmH c ++ itsB c.its ++ bb c.fl) := Lib.hid (by unfold cmdb; simp)
  obtain ⟨MA, hMA⟩ : ∃ M, cmH c = M := ⟨_, rfl⟩
  rw [hMA] at HB8 hHl HCM
  clear hMA HSM
  go_wp2_with fail
  clear c0 c1 c2 c3 c4 c5 c6 c7 c8 c9 c10 HZ2
  go_loopw [45] (fun n wr => ∃ k : Nat, k ≤ c.its.length ∧ n = .int .i64 k ∧ Hid (IsBld 110 z z (MA ++ itsB (c.its.take k)) wr) ∧ Hid (Below z w1 wr)) (fun n _ => c.its.length - (intOf n).toNat)
  case atStart => exact ⟨0, by omega, rfl, HB8, HBE8⟩
  case round =>
    obtain ⟨k, hk, rfl, hb, hbe⟩ := hrel
    have hln := HT.out k
    have hsz : 3000030 * c.its.length ≤ 3000030000 := by omega
    have hzr : z ≤ wr.heap.size := Nat.le_trans (by omega) hbe.out.size
    have hor : Only [] w1 wr := Only.of_below (hbe.out.mono (by omega))
    by_cases hlt : k < c.its.length
    · have hlt' : (k : Int) < (c.its.length : Int) := by omega
      obtain ⟨x, hx⟩ : ∃ x, c.its[k]? = some x := ⟨_, List.getElem?_eq_getElem hlt⟩
      obtain ⟨b1, o1, c1', e1, q0, q1, q2⟩ := itL_at (H.out.only (HO1.out.tr hor)).its hx
      have hxs := HSI.out x (List.mem_of_getElem? hx)
      have hsn := itsB_snoc c.its k x hx
      injection e1 with i1 i2 i3
      subst i1
      subst i3
      obtain ⟨wx, hwx⟩ : ∃ wx, wr.alloc (.cells #[.string ⟨x.id.toArray⟩, .string ⟨x.ti.toArray⟩, .string ⟨x.li.toArray⟩] 36) = wx := ⟨_, rfl⟩
      obtain ⟨bx, hbx⟩ : ∃ b, wr.heap.size = b := ⟨_, rfl⟩
      have OX : Only [] wr wx := hwx ▸ (Only.refl _ _).alloc _
      have hCX : Cells wx bx 36 x.cells := hwx ▸ hbx ▸ Cells.new wr _ _
      have CX := Lib.hid (cw_item z z (MA ++ itsB (c.its.take k)) x hxs wx (hb.out.only OX) (Nat.le_trans hzr OX.size) (by rw [List.length_append]; omega))
      have HBX := Lib.hid (hbe.out.trans (OX.below.mono hzr))
      have p0 := hCX.cell (k := 0) rfl
      have p1 := hCX.cell (k := 1) rfl
      have p2 := hCX.cell (k := 2) rfl
      have HSN : Hid (MA ++ itsB (c.its.take (k + 1)) = MA ++ itsB (c.its.take k) ++ itB x) := Lib.hid (by rw [hsn, List.append_assoc])
      clear hx i2 hsn hxs hor OX hCX hb hbe
      go_wp2_with fail
      refine CX.out.mono ?_
      rintro e w9 ⟨rfl, hb9, hbe9, _⟩
      have HB9 : Hid (IsBld 110 z z (MA ++ itsB (c.its.take (k + 1))) w9) := Lib.hid (by rw [HSN.out]; exact hb9)
      have HBE9 := Lib.hid (HBX.out.trans hbe9)
      clear hb9 hbe9 CX HBX HSN q0 q1 q2 p0 p1 p2 hwx hbx
      go_wp2_with fail
      go_roundw
      case rel => exact ⟨k + 1, by omega, by go_num, HB9, HBE9⟩
      case measure => simp [intOf]; omega
    · obtain rfl : k = c.its.length := by omega
      have hd2 : decide ((c.its.length : Int) < (c.its.length : Int)) = false := by simp
      rw [List.take_length] at hb hln
      have HZr : Hid (Cells wr z0 65 (c.cells (.slice IA c.its.length ic))) := Lib.hid ((hbe.out.block z0 hz0z).trans HZ1.out)
      obtain ⟨c0, c1, c2, c3, c4, c5, c6, c7, c8, c9, c10⟩ := cm_cells HZr.out
      have CB := Lib.hid (cw_bool z z (MA ++ itsB c.its) c.fl wr hb.out hzr (by rw [List.length_append]; omega))
      rw [← HCM.out] at CB
      clear HT hor hsz
      go_wp2_with fail
      refine CB.out.mono ?_
      rintro e w9 ⟨rfl, hb9, hbe9, _⟩
      have HB9 := Lib.hid hb9
      have HBE9 := Lib.hid (hbe.out.trans hbe9)
      clear hb9 hbe9 CB c0 c1 c2 c3 c4 c5 c6 c7 c8 c9 c10 hb hbe
      go_wp2_with fail
      refine (builder_string_any 110 z z (cmdb c) w9 HB9.out).mono ?_
      rintro e w10 ⟨rfl, hbe10⟩
      have HBX := Lib.hid (HBE9.out.trans hbe10)
      clear hbe10
      go_wp2_with fail
      go_ret2
      exact ⟨rfl, HO1.out.tr (Only.of_below (HBX.out.mono (by omega)))⟩
end Go.Proofs.Ytjfnkjpnjiobjaa
