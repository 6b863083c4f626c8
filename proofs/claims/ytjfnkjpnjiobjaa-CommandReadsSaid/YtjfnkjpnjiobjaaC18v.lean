/-
  Chapter 18: the document's Answer; a client's kind.
-/
import Derived.Test.YtjfnkjpnjiobjaaC18r
namespace Go.Proofs.Ytjfnkjpnjiobjaa
open Go.RowKit
set_option maxRecDepth 100000 in
set_option maxHeartbeats 4000000 in
theorem ref18_answer (r : Rp) (pv : Value) (w : World) (h : RpAt w pv r) :
    Calls Try.prog 38 #[r.val pv] w fun e w' => e = .returned (.string ⟨(rpb r).toArray⟩) ∧ Only [] w w' := by
  obtain ⟨IA, ic, rfl⟩ := h.ps.shape
  have H := Lib.hid h
  have hnl := h.len
  have hwl : Wide64 (r.ps.length : Int) := ⟨by omega, by omega⟩
  obtain ⟨w0, hw0⟩ : ∃ w0, w.alloc (.cells #[.int .i64 r.er, .int .i64 r.n, .slice IA r.ps.length ic] 67) = w0 := ⟨_, rfl⟩
  obtain ⟨z0, hz0⟩ : ∃ z, w.heap.size = z := ⟨_, rfl⟩
  have O0 : Only [] w w0 := hw0 ▸ (Only.refl _ _).alloc _
  have HZ0 : Hid (Cells w0 z0 67 [.int .i64 r.er, .int .i64 r.n, .slice IA r.ps.length ic]) := Lib.hid (hw0 ▸ hz0 ▸ Cells.new w _ _)
  have HO0 := Lib.hid O0
  have hHH : rpH r = ib r.er ++ ib r.n ++ ib r.ps.length := by unfold rpH; simp
  have hHl : (rpH r).length ≤ 100 := by
    have h1 := (ib_length r.er h.er).2
    have h2 := (ib_length r.n h.n).2
    have h3 := (ib_length _ hwl).2
    unfold rpH
    rw [List.length_append, List.length_append]
    omega
  have l1 := (ib_length r.er h.er).2
  have l2 := (ib_length r.n h.n).2
  have l3 := (ib_length _ hwl).2
  have C1 := Lib.hid (fun w' => ref_int r.er w' h.er)
  have C2 := Lib.hid (fun w' => ref_int r.n w' h.n)
  have C3 := Lib.hid (fun w' => ref_int (r.ps.length : Int) w' hwl)
  have c0 := HZ0.out.cell (k := 0) rfl
  have c1 := HZ0.out.cell (k := 1) rfl
  have c2 := HZ0.out.cell (k := 2) rfl
  have t0 := fun u : Since w0 => u.cell c0
  have t1 := fun u : Since w0 => u.cell c1
  have t2 := fun u : Since w0 => u.cell c2
  have HT := Lib.hid (psB_take r.ps h.sm)
  have HSI := Lib.hid h.sm
  have HCM : Hid (rpb r = rpH r ++ psB r.ps) := Lib.hid rfl
  have HHH := Lib.hid hHH
  unfold Rp.val
  clear h O0 c0 c1 c2 hHH
  go_enter Try.func38, Try.ntmps38
  go_wp2_with fail
  clear hw0 hz0
  refine wp_region_only w0 (Only.refl _ _) (by kernel_rfl) (by kernel_rfl) ?_
  repeat (go_big_quiet_step (first
    | (go_at_call 77; with_reducible refine Calls.only (C1.out _))
    | (go_at_call 77; with_reducible refine Calls.only (C2.out _))
    | (go_at_call 77; with_reducible refine Calls.only (C3.out _))))
  refine wpQuiet_nil ?_
  rintro ⟨w8, ho8⟩
  dsimp only
  have hs : (⟨(ib r.er).toArray⟩ ++ ⟨(ib r.n).toArray⟩ ++ ⟨(ib (r.ps.length : Int)).toArray⟩ : ByteArray) = ⟨(rpH r).toArray⟩ := by rw [HHH.out]; simp [ba_append]
  rw [hs]
  obtain ⟨MA, hMA⟩ : ∃ MA, rpH r = MA := ⟨_, rfl⟩
  rw [hMA] at hHl HCM ⊢
  have HZ8 := Lib.hid (HZ0.out.only ho8 (by simp))
  have HO8 := Lib.hid (HO0.out.tr ho8)
  clear hs hMA HHH ho8 C1 C2 C3 t0 t1 t2 HZ0 l1 l2 l3
  go_wp2_with fail
  go_loopw [3, 4] (fun q i wq => ∃ k : Nat, k ≤ r.ps.length ∧ i = .int .i64 k ∧ q = .string ⟨(MA ++ psB (r.ps.take k)).toArray⟩ ∧ Hid (Cells wq z0 67 [.int .i64 r.er, .int .i64 r.n, .slice IA r.ps.length ic]) ∧ Hid (Only [] w wq)) (fun _ i _ => r.ps.length - (intOf i).toNat)
  case atStart => exact ⟨0, by omega, rfl, by simp [psB], HZ8, HO8⟩
  case round =>
    obtain ⟨k, hk, rfl, rfl, hZ, ho⟩ := hrel
    have c2 := hZ.out.cell (k := 2) rfl
    have hln := HT.out k
    have hsz : 3000041 * r.ps.length ≤ 3000041000 := by omega
    by_cases hlt : k < r.ps.length
    · have hlt' : (k : Int) < (r.ps.length : Int) := by omega
      obtain ⟨x, hx⟩ : ∃ x, r.ps[k]? = some x := ⟨_, List.getElem?_eq_getElem hlt⟩
      obtain ⟨b1, o1, c1', e1, q0, q1, q2, q3, q4⟩ := poL_at (H.out.only ho.out).ps rfl hx
      have hxs := HSI.out x (List.mem_of_getElem? hx)
      have hsn := psB_snoc r.ps k x hx
      have lq := (ib_length x.sq hxs.sq).2
      have li := itB_le x.it hxs.it
      have lb : (bb x.rd).length = 1 := rfl
      have C1 := Lib.hid (fun w' => ref_int x.sq w' hxs.sq)
      have C2 := Lib.hid (fun w' => ref18_item x.it hxs.it w')
      have C3 := Lib.hid (fun w' => ref_bool x.rd w')
      injection e1 with i1 i2 i3
      subst i1
      subst i3
      obtain ⟨EB, hEB⟩ : ∃ T, psB (r.ps.take k) = T := ⟨_, rfl⟩
      obtain ⟨QB, hQB⟩ : ∃ T, ib x.sq = T := ⟨_, rfl⟩
      obtain ⟨XB, hXB⟩ : ∃ T, itB x.it = T := ⟨_, rfl⟩
      obtain ⟨RB, hRB⟩ : ∃ T, bb x.rd = T := ⟨_, rfl⟩
      have HSN : Hid (psB (r.ps.take (k + 1)) = EB ++ (QB ++ (XB ++ RB))) := Lib.hid (by rw [hsn, hEB]; unfold poB; rw [hQB, hXB, hRB])
      rw [hEB] at hln ⊢
      rw [hQB] at lq C1
      rw [hXB] at li C2
      rw [hRB] at lb C3
      have t2 := fun u : Since wr => u.cell c2
      have s0 := fun u : Since wr => u.cell q0
      have s1 := fun u : Since wr => u.cell q1
      have s2 := fun u : Since wr => u.cell q2
      have s3 := fun u : Since wr => u.cell q3
      have s4 := fun u : Since wr => u.cell q4
      clear hx i2 hsn hxs hEB hQB hXB hRB
      go_wp2_with fail
      clear c2 q0 q1 q2 q3 q4
      refine wp_region_only wr (Only.refl _ _) (by kernel_rfl) (by kernel_rfl) ?_
      repeat (go_big_quiet_step (first
        | (go_at_call 77; refine Calls.only (C1.out _))
        | (go_at_call 78; refine Calls.only (C2.out _))
        | (go_at_call 79; refine Calls.only_same (C3.out _))))
      refine wpQuiet_nil ?_
      rintro ⟨w9, ho9⟩
      dsimp only
      have hZ' := Lib.hid (hZ.out.only ho9 (by simp))
      have ho' := Lib.hid (ho.out.tr ho9)
      clear ho9 C1 C2 C3 t2 s0 s1 s2 s3 s4
      go_wp2_with fail
      go_roundw
      case rel => exact ⟨k + 1, by omega, by go_num, by rw [HSN.out]; simp [ba_append], hZ', ho'⟩
      case measure => simp [intOf]; omega
    · obtain rfl : k = r.ps.length := by omega
      have hd2 : decide ((r.ps.length : Int) < (r.ps.length : Int)) = false := by simp
      rw [List.take_length] at hln ⊢
      obtain ⟨EB, hEB⟩ : ∃ T, psB r.ps = T := ⟨_, rfl⟩
      rw [hEB] at HCM hln ⊢
      clear hEB HT
      go_wp2_with fail
      go_ret
      exact ⟨by rw [HCM.out]; simp [ba_append], ho.out⟩
set_option maxRecDepth 100000 in
theorem ref18_client (c : Cm) (iv : Value) (w : World) : Calls Try.prog 36 #[c.val iv] w fun e w' => e = .returned (.bool (clB c.kd)) ∧ Only [] w w' := by
  unfold Cm.val clB
  have HO := Lib.hid (((Only.refl [] w).alloc (.cells #[.int .i64 c.kd, .int .i64 c.ss, .int .i64 c.sq, .int .i64 c.sh, .int .i64 c.nd, .int .i64 c.ep, .int .i64 c.n, .string ⟨c.fd.toArray⟩, .string ⟨c.id.toArray⟩, iv, .bool c.fl] 65)))
  by_cases h2 : c.kd = 2
  · rw [h2] at HO ⊢
    go_enter Try.func36, Try.ntmps36
    go_wp2_with fail
    go_ret
    exact ⟨rfl, HO.out⟩
  by_cases h3 : c.kd = 3
  · rw [h3] at HO ⊢
    go_enter Try.func36, Try.ntmps36
    go_wp2_with fail
    go_ret
    exact ⟨rfl, HO.out⟩
  by_cases h4 : c.kd = 4
  · rw [h4] at HO ⊢
    go_enter Try.func36, Try.ntmps36
    go_wp2_with fail
    go_ret
    exact ⟨rfl, HO.out⟩
  by_cases h5 : c.kd = 5
  · rw [h5] at HO ⊢
    go_enter Try.func36, Try.ntmps36
    go_wp2_with fail
    go_ret
    exact ⟨rfl, HO.out⟩
  have d2 : (c.kd == 2) = false := by simpa using h2
  have d3 : (c.kd == 3) = false := by simpa using h3
  have d4 : (c.kd == 4) = false := by simpa using h4
  have d5 : (c.kd == 5) = false := by simpa using h5
  have HR : Hid ((c.kd == 2 || (c.kd == 3 || (c.kd == 4 || c.kd == 5))) = false) := Lib.hid (by rw [d2, d3, d4, d5]; rfl)
  rw [HR.out]
  go_enter Try.func36, Try.ntmps36
  go_wp2_with fail
  go_ret
  exact ⟨rfl, HO.out⟩
end Go.Proofs.Ytjfnkjpnjiobjaa
