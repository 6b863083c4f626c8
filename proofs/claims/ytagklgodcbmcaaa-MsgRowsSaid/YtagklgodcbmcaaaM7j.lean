/-
  Chapter 7: the document's bytes, Pack.
-/
import Derived.Test.YtagklgodcbmcaaaM7i
namespace Go.Proofs.Ytagklgodcbmcaaa
open Go.RowKit
theorem ref_textB (d : ByteArray) (w : World) (hl : d.size ≤ 1000000000000) : Calls Try.prog 100 #[.string d] w fun e w' => e = .returned (.string ⟨(tb (bl d)).toArray⟩) ∧ Only [] w w' := by
  have := ref_text (bl d) w (by rw [bl_size]; exact hl)
  rw [bl_ba] at this
  exact this
theorem esb_take (l : List En) (k : Nat) : (esb (l.take k)).length ≤ (esb l).length := by
  have : esb l = esb (l.take k) ++ esb (l.drop k) := by unfold esb; rw [← List.flatMap_append, List.take_append_drop]
  rw [this, List.length_append]; omega
theorem vtx_bound (l : List Int) (h : ∀ x ∈ l, Wide64 x) (hl : l.length ≤ 9) : (vtx l).length ≤ 100 := by
  unfold vtx
  rw [List.length_append]
  have := isb_length l h
  have := (ib_length (l.length : Int) ⟨by omega, by omega⟩).2
  omega
set_option maxRecDepth 100000 in
set_option maxHeartbeats 8000000 in
theorem ref7_bytes (ev vv : Value) (m : Ms) (w : World) (h : MsAt w ev vv m) (hR : m.Right) :
    Calls Try.prog 75 #[m.val ev vv] w fun e w' => e = .returned (.string ⟨(msb m).toArray⟩) ∧ Only [] w w' := by
  obtain ⟨EA, ec, rfl⟩ := h.ents.shape
  obtain ⟨VA, vc, rfl⟩ := h.vots.shape
  have H := Lib.hid h
  have HRR := Lib.hid hR
  have hel : m.es.length ≤ 8 := hR.ln
  have hoA : Only [] w (w.alloc (.cells (m.cells (.slice EA m.es.length ec) (.slice VA m.b.vs.length vc)).toArray 67)) := (Only.refl _ w).alloc _
  have hZ := Cells.new w 67 (m.cells (.slice EA m.es.length ec) (.slice VA m.b.vs.length vc))
  have HZ := Lib.hid hZ
  have HA := Lib.hid hoA
  have CI := Lib.hid (fun n w' (h : Wide64 n) => ref_int n w' h)
  have hd1 := hR.d
  have hd2 := hR.bd
  have wb1 : Wide64 m.b.ix := (hR.ns _ (by simp)).w
  have wb2 : Wide64 m.b.tm := (hR.ns _ (by simp)).w
  have wen : Wide64 (m.es.length : Int) := ⟨by omega, by omega⟩
  have W7 := Lib.hid hR.w7
  have h7 : (isb [m.kd, m.fr, m.to, m.tm, m.ix, m.lt, m.cm]).length ≤ 70 := isb_bound _ hR.w7 7 (by simp)
  have hvt := vtx_bound m.b.vs hR.wv (rise_len hR.vs)
  have HEB := Lib.hid (esb_bound m.es hR.es 8 hR.ln)
  have l1 := (ib_length _ wb1).2
  have l2 := (ib_length _ wb2).2
  have l3 := (ib_length _ wen).2
  have l4 := tb_bound m.b.d 4000000 hd2 (by omega)
  have l5 := tb_bound m.d 4000000 hd1 (by omega)
  have l6 : (bb m.ok).length ≤ 1 := by unfold bb; simp
  obtain ⟨V, hV⟩ : ∃ V, vtx m.b.vs = V := ⟨_, rfl⟩
  obtain ⟨T1, hT1⟩ : ∃ T, tb (bl m.b.d) = T := ⟨_, rfl⟩
  obtain ⟨T2, hT2⟩ : ∃ T, tb (bl m.d) = T := ⟨_, rfl⟩
  obtain ⟨O, hO⟩ : ∃ O, bb m.ok = O := ⟨_, rfl⟩
  have CT1 := Lib.hid (fun w' => ref_textB m.b.d w' (by omega))
  have CT2 := Lib.hid (fun w' => ref_textB m.d w' (by omega))
  have CV := Lib.hid (fun w' (ho : Only [] w w') => ref7_voters _ m.b.vs w' (h.only ho).vots (by have := rise_len hR.vs; omega) hR.wv)
  have CB := Lib.hid (fun w' => ref_bool m.ok w')
  have HMA : Hid (msA m = isb [m.kd, m.fr, m.to, m.tm, m.ix, m.lt, m.cm] ++ (O ++ ib m.es.length)) := Lib.hid (by unfold msA; rw [hO])
  have HMC : Hid (msC m = ib m.b.ix ++ ib m.b.tm ++ V ++ T1 ++ T2) := Lib.hid (by unfold msC isb; rw [hV, hT1, hT2]; simp)
  rw [hT1] at CT1
  rw [hT2] at CT2
  rw [hV] at CV
  rw [hO] at CB
  rw [hV] at hvt; rw [hT1] at l4; rw [hT2] at l5; rw [hO] at l6
  unfold Ms.val
  clear h hZ hoA hR hV hT1 hT2 hO
  go_enter Try.func75, Try.ntmps75
  unfold Ms.cells at HZ HA
  obtain ⟨c0, c1, c2, c3, c4, c5, c6, c7, c8, c9, c10, c11, c12, c13⟩ := ms_cells HZ.out
  go_wp2_with fail
  obtain ⟨w1, hw1⟩ : ∃ w1, (w.alloc (.cells #[.int .i64 m.kd, .int .i64 m.fr, .int .i64 m.to, .int .i64 m.tm, .int .i64 m.ix, .int .i64 m.lt, .int .i64 m.cm, .bool m.ok, .slice EA m.es.length ec, .int .i64 m.b.ix, .int .i64 m.b.tm, .slice VA m.b.vs.length vc, .string m.b.d, .string m.d] 67)).alloc (.cells #[.int .i64 m.kd, .int .i64 m.fr, .int .i64 m.to, .int .i64 m.tm, .int .i64 m.ix, .int .i64 m.lt, .int .i64 m.cm] 3) = w1 := ⟨_, rfl⟩
  obtain ⟨z, hz⟩ : ∃ z, w.heap.size = z := ⟨_, rfl⟩
  have oB : Only [] w w1 := hw1 ▸ HA.out.alloc _
  have hZ1 : Cells w1 z 67 (m.cells (.slice EA m.es.length ec) (.slice VA m.b.vs.length vc)) := by rw [← hw1, ← hz]; exact HZ.out.alloc _
  have hQ1 : Cells w1 (z + 1) 3 (gvs [m.kd, m.fr, m.to, m.tm, m.ix, m.lt, m.cm]) := by
    have := Cells.new (w.alloc (.cells #[.int .i64 m.kd, .int .i64 m.fr, .int .i64 m.to, .int .i64 m.tm, .int .i64 m.ix, .int .i64 m.lt, .int .i64 m.cm, .bool m.ok, .slice EA m.es.length ec, .int .i64 m.b.ix, .int .i64 m.b.tm, .slice VA m.b.vs.length vc, .string m.b.d, .string m.d] 67)) 3 (gvs [m.kd, m.fr, m.to, m.tm, m.ix, m.lt, m.cm])
    rw [show (w.alloc (.cells #[.int .i64 m.kd, .int .i64 m.fr, .int .i64 m.to, .int .i64 m.tm, .int .i64 m.ix, .int .i64 m.lt, .int .i64 m.cm, .bool m.ok, .slice EA m.es.length ec, .int .i64 m.b.ix, .int .i64 m.b.tm, .slice VA m.b.vs.length vc, .string m.b.d, .string m.d] 67)).heap.size = z + 1 from by rw [← hz]; simp] at this
    rw [← hw1]; exact this
  have HZ1 := Lib.hid hZ1
  have HQ1 := Lib.hid hQ1
  have HB1 := Lib.hid oB
  rw [hw1, hz]
  clear hw1 hz HZ HA oB hZ1 hQ1 c0 c1 c2 c3 c4 c5 c6 c7 c8 c9 c10 c11 c12 c13
  go_loopw [3, 5] (fun q i wr => ∃ k : Nat, k ≤ 7 ∧ i = .int .i64 k ∧ q = .string ⟨(isb ([m.kd, m.fr, m.to, m.tm, m.ix, m.lt, m.cm].take k)).toArray⟩ ∧ Hid (Only [] w1 wr)) (fun _ i _ => 7 - (intOf i).toNat)
  case atStart => exact ⟨0, by omega, rfl, by simp [isb], Lib.hid (Only.refl _ _)⟩
  case round =>
    obtain ⟨k, hk, rfl, rfl, ho⟩ := hrel
    by_cases hlt : k < 7
    · have hlt' : (k : Int) < 7 := by omega
      obtain ⟨x, hx⟩ : ∃ x, [m.kd, m.fr, m.to, m.tm, m.ix, m.lt, m.cm][k]? = some x := ⟨_, List.getElem?_eq_getElem (by simpa using hlt)⟩
      have q0 : wr.cell? ⟨z + 1, k, none⟩ = some (.int .i64 x) := (HQ1.out.only ho.out (by simp)).cell (by unfold gvs; rw [List.getElem?_map, hx]; rfl)
      have hxw := W7.out x (List.mem_of_getElem? hx)
      have hsn := isb_snoc [m.kd, m.fr, m.to, m.tm, m.ix, m.lt, m.cm] k x hx
      have hlen : (isb ([m.kd, m.fr, m.to, m.tm, m.ix, m.lt, m.cm].take k)).length ≤ 70 := by
        have := isb_length ([m.kd, m.fr, m.to, m.tm, m.ix, m.lt, m.cm].take k) (fun y hy => W7.out y (List.mem_of_mem_take hy))
        rw [List.length_take] at this; omega
      have hxl := (ib_length x hxw).2
      have HSN := Lib.hid hsn
      have CX := Lib.hid (CI.out x wr hxw)
      clear hx hsn hxw
      go_wp2_with fail
      refine CX.out.mono ?_
      rintro e w2 ⟨rfl, ho2⟩
      have hoD := Lib.hid (ho.out.tr ho2)
      clear ho2 CX
      go_wp2_with fail
      go_roundw
      case rel => exact ⟨k + 1, by omega, by go_num, by rw [HSN.out]; simp [ba_append], hoD⟩
      case measure => simp [intOf]; omega
    · obtain rfl : k = 7 := by omega
      have hd : decide ((7 : Int) < 7) = false := by simp
      have HI7 : Hid (isb ([m.kd, m.fr, m.to, m.tm, m.ix, m.lt, m.cm].take 7) = isb [m.kd, m.fr, m.to, m.tm, m.ix, m.lt, m.cm]) := Lib.hid rfl
      rw [HI7.out]
      obtain ⟨I7, hI7⟩ : ∃ I, isb [m.kd, m.fr, m.to, m.tm, m.ix, m.lt, m.cm] = I := ⟨_, rfl⟩
      rw [hI7] at h7 HMA ⊢
      have HZr := Lib.hid (HZ1.out.only ho.out (by simp))
      obtain ⟨c0, c1, c2, c3, c4, c5, c6, c7, c8, c9, c10, c11, c12, c13⟩ := ms_cells HZr.out
      have t7 := fun u : Since wr => u.cell c7
      have t8 := fun u : Since wr => u.cell c8
      clear c0 c1 c2 c3 c4 c5 c6 c7 c8 c9 c10 c11 c12 c13 HI7 hI7
      go_wp2_with fail
      refine wp_region_only wr (Only.refl _ _) (by kernel_rfl) (by kernel_rfl) ?_
      repeat (go_big_quiet_step (first
        | (go_at_call 99; refine Calls.only_same (CB.out _))
        | (go_at_call 81; refine Calls.only (ref_int _ _ (by assumption)))))
      refine wpQuiet_nil ?_
      rintro ⟨w8, ho8⟩
      dsimp only
      have hs : (⟨I7.toArray⟩ ++ ⟨O.toArray⟩ ++ ⟨(ib (m.es.length : Int)).toArray⟩ : ByteArray) = ⟨(msA m).toArray⟩ := by rw [HMA.out]; simp [ba_append]
      rw [hs]
      have hla : (msA m).length ≤ 81 := by rw [HMA.out, List.length_append, List.length_append]; omega
      have HMM : Hid (msb m = msA m ++ (esb m.es ++ msC m)) := Lib.hid rfl
      obtain ⟨MA, hMA⟩ : ∃ MA, msA m = MA := ⟨_, rfl⟩
      rw [hMA] at hla HMM ⊢
      have HZ8 := Lib.hid (HZr.out.only ho8 (by simp))
      have HO8 := Lib.hid ((HB1.out.tr ho.out).tr ho8)
      clear hs hMA HMA ho8 ho HZr t7 t8 HZ1 HQ1 HB1
      go_wp2_with fail
      go_loopw [3, 6] (fun q i wq => ∃ k : Nat, k ≤ m.es.length ∧ i = .int .i64 k ∧ q = .string ⟨(MA ++ esb (m.es.take k)).toArray⟩ ∧ Hid (Cells wq z 67 (m.cells (.slice EA m.es.length ec) (.slice VA m.b.vs.length vc))) ∧ Hid (Only [] w wq)) (fun _ i _ => m.es.length - (intOf i).toNat)
      case atStart => exact ⟨0, by omega, rfl, by simp [esb], HZ8, HO8⟩
      case round =>
        rename_i wr0
        obtain ⟨k, hk, rfl, rfl, hZ, ho⟩ := hrel
        obtain ⟨c0, c1, c2, c3, c4, c5, c6, c7, c8, c9, c10, c11, c12, c13⟩ := ms_cells hZ.out
        by_cases hlt : k < m.es.length
        · have hlt' : (k : Int) < (m.es.length : Int) := by omega
          obtain ⟨x, hx⟩ : ∃ x, m.es[k]? = some x := ⟨_, List.getElem?_eq_getElem hlt⟩
          obtain ⟨b1, o1, c1', e1, q0, q1, q2, q3⟩ := enL_at (H.out.only ho.out).ents hx
          injection e1 with i1 i2 i3
          subst i1
          subst i3
          have hxr := HRR.out.es x (List.mem_of_getElem? hx)
          have hsn := esb_snoc m.es k x hx
          have hln := Nat.le_trans (esb_take m.es k) HEB.out
          have xw1 := hxr.w.ix
          have xw2 := hxr.w.tm
          have xw3 := hxr.w.kd
          have xd := hxr.d
          have y1 := (ib_length _ xw1).2
          have y2 := (ib_length _ xw2).2
          have y3 := (ib_length _ xw3).2
          have y4 := tb_bound x.d 4000000 xd (by omega)
          have CTX := Lib.hid (fun w' => ref_textB x.d w' (by omega))
          have hxb : enb x = ib x.ix ++ ib x.tm ++ ib x.kd ++ tb (bl x.d) := by unfold enb isb; simp
          obtain ⟨TX, hTX⟩ : ∃ T, tb (bl x.d) = T := ⟨_, rfl⟩
          obtain ⟨EB, hEB⟩ : ∃ T, esb (m.es.take k) = T := ⟨_, rfl⟩
          rw [hTX] at y4 hxb CTX
          rw [hEB] at hsn hln ⊢
          rw [hxb] at hsn
          have HSN := Lib.hid hsn
          have hE := Cells.new wr 40 x.cells
          have hoE : Only [] wr (wr.alloc (.cells #[.int .i64 x.ix, .int .i64 x.tm, .int .i64 x.kd, .string x.d] 40)) := (Only.refl _ wr).alloc _
          obtain ⟨wE, hwE⟩ : ∃ wE, wr.alloc (.cells #[.int .i64 x.ix, .int .i64 x.tm, .int .i64 x.kd, .string x.d] 40) = wE := ⟨_, rfl⟩
          have hE2 : Cells wE wr.heap.size 40 x.cells := hwE ▸ hE
          rw [hwE] at hoE
          have t0 := fun u : Since wE => u.cell (hE2.cell (k := 0) rfl)
          have t1 := fun u : Since wE => u.cell (hE2.cell (k := 1) rfl)
          have t2 := fun u : Since wE => u.cell (hE2.cell (k := 2) rfl)
          have t3 := fun u : Since wE => u.cell (hE2.cell (k := 3) rfl)
          have HZE := Lib.hid (hZ.out.only hoE (by simp))
          have HOE := Lib.hid (ho.out.tr hoE)
          clear hx hsn hxr hTX hEB hxb hE hE2 hoE i2 c0 c1 c2 c3 c4 c5 c6 c7 c9 c10 c11 c12 c13
          go_wp2_with fail
          try rw [hwE]
          clear hwE q0 q1 q2 q3
          refine wp_region_only wE (Only.refl _ _) (by kernel_rfl) (by kernel_rfl) ?_
          repeat (go_big_quiet_step (first
            | (go_at_call 100; refine Calls.only (CTX.out _))
            | (go_at_call 81; refine Calls.only (ref_int _ _ (by assumption)))))
          refine wpQuiet_nil ?_
          rintro ⟨w9, ho9⟩
          dsimp only
          have HZ9 := Lib.hid (HZE.out.only ho9 (by simp))
          have HO9 := Lib.hid (HOE.out.tr ho9)
          clear t0 t1 t2 t3 CTX HZE HOE ho9
          go_wp2_with fail
          go_roundw
          case rel => exact ⟨k + 1, by omega, by go_num, by rw [HSN.out]; simp [ba_append], HZ9, HO9⟩
          case measure => simp [intOf]; omega
        · have hd : decide ((k : Int) < (m.es.length : Int)) = false := by simp; omega
          have HF : Hid (esb (m.es.take k) = esb m.es) := Lib.hid (by rw [List.take_of_length_le (by omega)])
          have hln := HEB.out
          rw [HF.out]
          obtain ⟨EB, hEB⟩ : ∃ T, esb m.es = T := ⟨_, rfl⟩
          rw [hEB] at hln HMM ⊢
          rw [HMC.out] at HMM
          have t9 := fun u : Since wr => u.cell c9
          have t10 := fun u : Since wr => u.cell c10
          have t11 := fun u : Since wr => u.cell c11
          have t12 := fun u : Since wr => u.cell c12
          have t13 := fun u : Since wr => u.cell c13
          have CV2 := Lib.hid (fun u : Since wr => CV.out u.w (ho.out.tr u.h))
          clear HF hEB c0 c1 c2 c3 c4 c5 c6 c7 c9 c10 c11 c12 c13
          go_wp2_with fail
          refine wp_region_only wr (Only.refl _ _) (by kernel_rfl) (by kernel_rfl) ?_
          repeat (go_big_quiet_step (first
            | (go_at_call 100; first | refine Calls.only (CT1.out _) | refine Calls.only (CT2.out _))
            | (go_at_call 47; refine Calls.only (CV2.out _))
            | (go_at_call 81; refine Calls.only (ref_int _ _ (by assumption)))))
          refine wpQuiet_nil ?_
          rintro ⟨w9, ho9⟩
          dsimp only
          have HO9 := Lib.hid (ho.out.tr ho9)
          go_wp2_with fail
          go_ret
          exact ⟨by rw [HMM.out]; simp [ba_append], HO9.out⟩
end Go.Proofs.Ytagklgodcbmcaaa
