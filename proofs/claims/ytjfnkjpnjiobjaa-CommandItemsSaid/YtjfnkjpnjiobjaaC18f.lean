/-
  Chapter 18: a command's bytes, as the document makes them.
-/
import Derived.Test.YtjfnkjpnjiobjaaC18e
import Derived.Test.YtjfnkjpnjiobjaaR1t
namespace Go.Proofs.Ytjfnkjpnjiobjaa
open Go.RowKit
def itB (x : It) : List UInt8 := tb x.id ++ (tb x.ti ++ tb x.li)
def itsB (l : List It) : List UInt8 := l.flatMap itB
def Cm.n7 (c : Cm) : List Int := [c.kd, c.ss, c.sq, c.sh, c.nd, c.ep, c.n]
def cmH (c : Cm) : List UInt8 := isb c.n7 ++ (tb c.fd ++ (tb c.id ++ ib c.its.length))
def cmdb (c : Cm) : List UInt8 := cmH c ++ (itsB c.its ++ bb c.fl)
/-- Texts and rows that can be gone through. -/
structure It.Sm (x : It) : Prop where
  id : x.id.length ≤ 1000000
  ti : x.ti.length ≤ 1000000
  li : x.li.length ≤ 1000000
structure Cm.Sm (c : Cm) : Prop where
  fd : c.fd.length ≤ 1000000
  id : c.id.length ≤ 1000000
  n : c.its.length ≤ 1000
  its : ∀ x ∈ c.its, x.Sm
theorem tb_le (s : List UInt8) (n : Nat) (h : s.length ≤ n) (hn : n ≤ 1000000) : (tb s).length ≤ n + 10 := Nat.le_trans (tb_length s (by omega)).2 (by omega)
theorem itB_le (x : It) (h : x.Sm) : (itB x).length ≤ 3000030 := by
  have h1 := tb_le x.id 1000000 h.id (by omega)
  have h2 := tb_le x.ti 1000000 h.ti (by omega)
  have h3 := tb_le x.li 1000000 h.li (by omega)
  unfold itB
  rw [List.length_append, List.length_append]
  omega
theorem itsB_le : ∀ (l : List It), (∀ x ∈ l, x.Sm) → (itsB l).length ≤ 3000030 * l.length
  | [], _ => by simp [itsB]
  | x :: r, h => by
    have h1 := itB_le x (h x (by simp))
    have h2 := itsB_le r (fun y hy => h y (by simp [hy]))
    unfold itsB at h2 ⊢
    rw [List.flatMap_cons, List.length_append, List.length_cons]
    omega
theorem itsB_snoc (l : List It) (k : Nat) (x : It) (h : l[k]? = some x) : itsB (l.take (k + 1)) = itsB (l.take k) ++ itB x := by
  unfold itsB
  rw [List.take_add_one, h, List.flatMap_append]
  simp
theorem itsB_take (l : List It) (h : ∀ x ∈ l, x.Sm) (k : Nat) : (itsB (l.take k)).length ≤ 3000030 * l.length := by
  have h1 := itsB_le (l.take k) (fun x hx => h x (List.mem_of_mem_take hx))
  rw [List.length_take] at h1
  have h2 : min k l.length ≤ l.length := Nat.min_le_right _ _
  have := Nat.mul_le_mul_left 3000030 h2
  omega
theorem isb7_le (c : Cm) (h : ∀ x ∈ c.n7, Wide64 x) : (isb c.n7).length ≤ 70 := by
  have := isb_length c.n7 h
  have e : c.n7.length = 7 := rfl
  omega
theorem cm_cells {w : World} {z : Nat} {c : Cm} {iv : Value} (h : Cells w z 65 (c.cells iv)) :
    w.cell? ⟨z, 0, none⟩ = some (.int .i64 c.kd) ∧ w.cell? ⟨z, 1, none⟩ = some (.int .i64 c.ss) ∧ w.cell? ⟨z, 2, none⟩ = some (.int .i64 c.sq) ∧ w.cell? ⟨z, 3, none⟩ = some (.int .i64 c.sh) ∧ w.cell? ⟨z, 4, none⟩ = some (.int .i64 c.nd) ∧ w.cell? ⟨z, 5, none⟩ = some (.int .i64 c.ep) ∧ w.cell? ⟨z, 6, none⟩ = some (.int .i64 c.n) ∧ w.cell? ⟨z, 7, none⟩ = some (.string ⟨c.fd.toArray⟩) ∧ w.cell? ⟨z, 8, none⟩ = some (.string ⟨c.id.toArray⟩) ∧ w.cell? ⟨z, 9, none⟩ = some iv ∧ w.cell? ⟨z, 10, none⟩ = some (.bool c.fl) := by
  unfold Cm.cells at h
  have c0 := h.cell (k := 0) rfl
  have c1 := h.cell (k := 1) rfl
  have c2 := h.cell (k := 2) rfl
  have c3 := h.cell (k := 3) rfl
  have c4 := h.cell (k := 4) rfl
  have c5 := h.cell (k := 5) rfl
  have c6 := h.cell (k := 6) rfl
  have c7 := h.cell (k := 7) rfl
  have c8 := h.cell (k := 8) rfl
  have c9 := h.cell (k := 9) rfl
  have c10 := h.cell (k := 10) rfl
  exact ⟨c0, c1, c2, c3, c4, c5, c6, c7, c8, c9, c10⟩
set_option maxRecDepth 100000 in
set_option maxHeartbeats 1000000 in
theorem ref18_item (x : It) (hx : x.Sm) (w : World) : Calls Try.prog 78 #[.agg #[.string ⟨x.id.toArray⟩, .string ⟨x.ti.toArray⟩, .string ⟨x.li.toArray⟩]] w fun e w' => e = .returned (.string ⟨(itB x).toArray⟩) ∧ Only [] w w' := by
  have h1 := hx.id
  have h2 := hx.ti
  have h3 := hx.li
  have l1 := tb_le x.id 1000000 h1 (by omega)
  have l2 := tb_le x.ti 1000000 h2 (by omega)
  have l3 := tb_le x.li 1000000 h3 (by omega)
  obtain ⟨w1, hw1⟩ : ∃ w1, w.alloc (.cells #[.string ⟨x.id.toArray⟩, .string ⟨x.ti.toArray⟩, .string ⟨x.li.toArray⟩] 36) = w1 := ⟨_, rfl⟩
  obtain ⟨z, hz⟩ : ∃ z, w.heap.size = z := ⟨_, rfl⟩
  have O1 : Only [] w w1 := hw1 ▸ (Only.refl _ _).alloc _
  have hC : Cells w1 z 36 x.cells := hw1 ▸ hz ▸ Cells.new w _ _
  have t0 := fun u : Since w1 => u.cell (hC.cell (k := 0) rfl)
  have t1 := fun u : Since w1 => u.cell (hC.cell (k := 1) rfl)
  have t2 := fun u : Since w1 => u.cell (hC.cell (k := 2) rfl)
  have C0 := Lib.hid (fun (s : List UInt8) w' (h : s.length ≤ 1000000) => ref_text s w' (by omega))
  have HB : Hid (itB x = tb x.id ++ tb x.ti ++ tb x.li) := Lib.hid (by unfold itB; simp)
  have HO := Lib.hid O1
  clear O1 hC
  go_enter Try.func78, Try.ntmps78
  go_wp2_with fail
  clear hw1 hz
  refine wp_region_only w1 (Only.refl _ _) (by kernel_rfl) (by kernel_rfl) ?_
  repeat (go_big_quiet_step (first
    | (go_at_call 102; refine Calls.only (C0.out _ _ (by assumption)))))
  refine wpQuiet_nil ?_
  rintro ⟨w8, ho8⟩
  dsimp only
  go_wp2_with fail
  go_ret
  exact ⟨by rw [HB.out]; simp [ba_append], HO.out.tr ho8⟩
set_option maxRecDepth 100000 in
set_option maxHeartbeats 4000000 in
theorem ref18_bytes (c : Cm) (iv : Value) (w : World) (h : CmAt w iv c) (hs : c.Sm) :
    Calls Try.prog 69 #[c.val iv] w fun e w' => e = .returned (.string ⟨(cmdb c).toArray⟩) ∧ Only [] w w' := by
  obtain ⟨IA, ic, rfl⟩ := h.its.shape
  have W7 : ∀ x ∈ c.n7, Wide64 x := h.nums
  have h7 := isb7_le c W7
  have hf1 := hs.fd
  have hd1 := hs.id
  have hn1 := hs.n
  have wen : Wide64 (c.its.length : Int) := ⟨by omega, by omega⟩
  have l1 := tb_le c.fd 1000000 hf1 (by omega)
  have l2 := tb_le c.id 1000000 hd1 (by omega)
  have l3 := (ib_length _ wen).2
  have l4 : (bb c.fl).length = 1 := rfl
  have HT := Lib.hid (itsB_take c.its hs.its)
  have H := Lib.hid h
  have HW7 := Lib.hid W7
  have HSI := Lib.hid hs.its
  have CT := Lib.hid (fun (s : List UInt8) w' (h : s.length ≤ 1000000) => ref_text s w' (by omega))
  have HH : Hid (cmH c = isb c.n7 ++ tb c.fd ++ tb c.id ++ ib c.its.length) := Lib.hid (by unfold cmH; simp)
  have HCM : Hid (cmdb c = cmH c ++ itsB c.its ++ bb c.fl) := Lib.hid (by unfold cmdb; simp)
  have HN7 : Hid (c.n7 = [c.kd, c.ss, c.sq, c.sh, c.nd, c.ep, c.n]) := Lib.hid rfl
  obtain ⟨w0, hw0⟩ : ∃ w0, w.alloc (.cells #[.int .i64 c.kd, .int .i64 c.ss, .int .i64 c.sq, .int .i64 c.sh, .int .i64 c.nd, .int .i64 c.ep, .int .i64 c.n, .string ⟨c.fd.toArray⟩, .string ⟨c.id.toArray⟩, .slice IA c.its.length ic, .bool c.fl] 65) = w0 := ⟨_, rfl⟩
  obtain ⟨z, hz⟩ : ∃ z, w.heap.size = z := ⟨_, rfl⟩
  have O0 : Only [] w w0 := hw0 ▸ (Only.refl _ _).alloc _
  have hZ : Cells w0 z 65 (c.cells (.slice IA c.its.length ic)) := hw0 ▸ hz ▸ Cells.new w _ _
  obtain ⟨w1, hw1⟩ : ∃ w1, w0.alloc (.cells #[.int .i64 c.kd, .int .i64 c.ss, .int .i64 c.sq, .int .i64 c.sh, .int .i64 c.nd, .int .i64 c.ep, .int .i64 c.n] 3) = w1 := ⟨_, rfl⟩
  obtain ⟨y, hy⟩ : ∃ y, w0.heap.size = y := ⟨_, rfl⟩
  have O1 : Only [] w0 w1 := hw1 ▸ (Only.refl _ _).alloc _
  have hQ1 : Cells w1 y 3 (gvs c.n7) := hw1 ▸ hy ▸ Cells.new w0 _ _
  have HZ1 := Lib.hid (hZ.only O1 (by simp))
  have HQ1 := Lib.hid hQ1
  have HB1 := Lib.hid (O0.tr O1)
  obtain ⟨c0, c1, c2, c3, c4, c5, c6, c7, c8, c9, c10⟩ := cm_cells hZ
  unfold Cm.val
  clear h hs W7 hQ1 O0 O1 hZ
  go_enter Try.func69, Try.ntmps69
  go_wp2_with fail
  clear hw0 hz hw1 hy c0 c1 c2 c3 c4 c5 c6 c7 c8 c9 c10
  go_loopw [4, 5] (fun q i wr => ∃ k : Nat, k ≤ 7 ∧ i = .int .i64 k ∧ q = .string ⟨(isb (c.n7.take k)).toArray⟩ ∧ Hid (Only [] w1 wr)) (fun _ i _ => 7 - (intOf i).toNat)
  case atStart => exact ⟨0, by omega, rfl, by simp [isb], Lib.hid (Only.refl _ _)⟩
  case round =>
    obtain ⟨k, hk, rfl, rfl, ho⟩ := hrel
    by_cases hlt : k < 7
    · have hlt' : (k : Int) < 7 := by omega
      obtain ⟨x, hx⟩ : ∃ x, c.n7[k]? = some x := ⟨_, List.getElem?_eq_getElem (show k < 7 from hlt)⟩
      have q0 : wr.cell? ⟨y, k, none⟩ = some (.int .i64 x) := (HQ1.out.only ho.out (by simp)).cell (by unfold gvs; rw [List.getElem?_map, hx]; rfl)
      have hxw := HW7.out x (List.mem_of_getElem? hx)
      have hsn := isb_snoc c.n7 k x hx
      have hlen : (isb (c.n7.take k)).length ≤ 70 := by
        have := isb_length (c.n7.take k) (fun y hy => HW7.out y (List.mem_of_mem_take hy))
        rw [List.length_take] at this; omega
      have hxl := (ib_length x hxw).2
      have HSN := Lib.hid hsn
      have CX := Lib.hid (ref_int x wr hxw)
      clear hx hsn hxw
      go_wp2_with fail
      refine CX.out.mono ?_
      rintro e w2 ⟨rfl, ho2⟩
      have hoD := Lib.hid (ho.out.tr ho2)
      clear ho2 CX
      go_wp2_with fail
      go_roundw
      case rel => exact ⟨k + 1, by omega, by go_num, by rw [HSN.out]; simp [ba_append], hoD⟩
      case measure => simp [intOf]; omega
    · obtain rfl : k = 7 := by omega
      have hd : decide ((7 : Int) < 7) = false := by simp
      rw [show c.n7.take 7 = c.n7 from rfl, show ((7 : Nat) : Int) = 7 from rfl]
      obtain ⟨I7, hI7⟩ : ∃ I, isb c.n7 = I := ⟨_, rfl⟩
      rw [hI7] at h7 HH ⊢
      have HZr := Lib.hid (HZ1.out.only ho.out (by simp))
      obtain ⟨c0, c1, c2, c3, c4, c5, c6, c7, c8, c9, c10⟩ := cm_cells HZr.out
      have t7 := fun u : Since wr => u.cell c7
      have t8 := fun u : Since wr => u.cell c8
      have t9 := fun u : Since wr => u.cell c9
      clear c0 c1 c2 c3 c4 c5 c6 c7 c8 c9 c10 hI7
      go_wp2_with fail
      refine wp_region_only wr (Only.refl _ _) (by kernel_rfl) (by kernel_rfl) ?_
      repeat (go_big_quiet_step (first
        | (go_at_call 102; refine Calls.only (CT.out _ _ (by assumption)))
        | (go_at_call 77; refine Calls.only (ref_int _ _ (by assumption)))))
      refine wpQuiet_nil ?_
      rintro ⟨w8, ho8⟩
      dsimp only
      have hs : (⟨I7.toArray⟩ ++ ⟨(tb c.fd).toArray⟩ ++ ⟨(tb c.id).toArray⟩ ++ ⟨(ib (c.its.length : Int)).toArray⟩ : ByteArray) = ⟨(cmH c).toArray⟩ := by rw [HH.out]; simp [ba_append]
      rw [hs]
      have hla : (cmH c).length ≤ 3000000 := by rw [HH.out, List.length_append, List.length_append, List.length_append]; omega
      obtain ⟨MA, hMA⟩ : ∃ MA, cmH c = MA := ⟨_, rfl⟩
      rw [hMA] at hla HCM ⊢
      have HZ8 := Lib.hid (HZr.out.only ho8 (by simp))
      have HO8 := Lib.hid ((HB1.out.tr ho.out).tr ho8)
      clear hs hMA HH ho8 ho HZr t7 t8 t9 HZ1 HQ1 HB1
      go_wp2_with fail
      go_loopw [4, 6] (fun q i wq => ∃ k : Nat, k ≤ c.its.length ∧ i = .int .i64 k ∧ q = .string ⟨(MA ++ itsB (c.its.take k)).toArray⟩ ∧ Hid (Cells wq z 65 (c.cells (.slice IA c.its.length ic))) ∧ Hid (Only [] w wq)) (fun _ i _ => c.its.length - (intOf i).toNat)
      case atStart => exact ⟨0, by omega, rfl, by simp [itsB], HZ8, HO8⟩
      case round =>
        obtain ⟨k, hk, rfl, rfl, hZ, ho⟩ := hrel
        obtain ⟨c0, c1, c2, c3, c4, c5, c6, c7, c8, c9, c10⟩ := cm_cells hZ.out
        have hln := HT.out k
        have hsz : 3000030 * c.its.length ≤ 3000030000 := by omega
        by_cases hlt : k < c.its.length
        · have hlt' : (k : Int) < (c.its.length : Int) := by omega
          obtain ⟨x, hx⟩ : ∃ x, c.its[k]? = some x := ⟨_, List.getElem?_eq_getElem hlt⟩
          obtain ⟨b1, o1, c1', e1, q0, q1, q2⟩ := itL_at (H.out.only ho.out).its hx
          have hxs := HSI.out x (List.mem_of_getElem? hx)
          have hxl := itB_le x hxs
          have hsn := itsB_snoc c.its k x hx
          have CX := Lib.hid (ref18_item x hxs wr)
          injection e1 with i1 i2 i3
          subst i1
          subst i3
          obtain ⟨EB, hEB⟩ : ∃ T, itsB (c.its.take k) = T := ⟨_, rfl⟩
          obtain ⟨XB, hXB⟩ : ∃ T, itB x = T := ⟨_, rfl⟩
          rw [hEB] at hsn hln ⊢
          rw [hXB] at hsn hxl CX
          have HSN := Lib.hid hsn
          clear hx i2 hsn hEB hXB hxs
          go_wp2_with fail
          clear c0 c1 c2 c3 c4 c5 c6 c7 c8 c9 c10 q0 q1 q2
          refine CX.out.mono ?_
          rintro e w9 ⟨rfl, ho9⟩
          have hZ' := Lib.hid (hZ.out.only ho9 (by simp))
          have ho' := Lib.hid (ho.out.tr ho9)
          clear ho9 CX
          go_wp2_with fail
          go_roundw
          case rel => exact ⟨k + 1, by omega, by go_num, by rw [HSN.out]; simp [ba_append], hZ', ho'⟩
          case measure => simp [intOf]; omega
        · obtain rfl : k = c.its.length := by omega
          have hd2 : decide ((c.its.length : Int) < (c.its.length : Int)) = false := by simp
          rw [List.take_length] at hln ⊢
          have CB := Lib.hid (ref_bool c.fl wr)
          obtain ⟨EB, hEB⟩ : ∃ T, itsB c.its = T := ⟨_, rfl⟩
          obtain ⟨FB, hFB⟩ : ∃ T, bb c.fl = T := ⟨_, rfl⟩
          rw [hEB] at HCM hln ⊢
          rw [hFB] at HCM l4 CB
          clear hEB hFB HT
          go_wp2_with fail
          refine CB.out.mono ?_
          rintro e w9 ⟨rfl, rfl⟩
          go_wp2_with fail
          go_ret
          exact ⟨by rw [HCM.out]; simp [ba_append], ho.out⟩
end Go.Proofs.Ytjfnkjpnjiobjaa
