/-
  Chapter 7: Pack. (Printed by gen_m7d.py.)
-/
import Derived.Test.YtagklgodcbmcaaaM7c
namespace Go.Proofs.Ytagklgodcbmcaaa
open Go.RowKit
def bl (d : ByteArray) : List UInt8 := d.data.toList
theorem bl_size (d : ByteArray) : (bl d).length = d.size := by unfold bl; simp
theorem bl_ba (d : ByteArray) : (⟨(bl d).toArray⟩ : ByteArray) = d := by unfold bl; simp
def enb (x : En) : List UInt8 := isb [x.ix, x.tm, x.kd] ++ tb (bl x.d)
def esb (l : List En) : List UInt8 := l.flatMap enb
def msA (m : Ms) : List UInt8 := isb [m.kd, m.fr, m.to, m.tm, m.ix, m.lt, m.cm] ++ (bb m.ok ++ ib m.es.length)
def msC (m : Ms) : List UInt8 := isb [m.b.ix, m.b.tm] ++ (vtx m.b.vs ++ (tb (bl m.b.d) ++ tb (bl m.d)))
def msb (m : Ms) : List UInt8 := msA m ++ (esb m.es ++ msC m)
theorem esb_snoc (l : List En) (k : Nat) (x : En) (h : l[k]? = some x) : esb (l.take (k + 1)) = esb (l.take k) ++ enb x := by
  unfold esb
  rw [List.take_add_one, h, List.flatMap_append]; simp
theorem codec_ints_at (l : List Int) (T : List UInt8) (hT : isb l = T) (hl : l.length ≤ 100) (hw : ∀ x ∈ l, Wide64 x) (W : World) (b' : Nat) (hC : Cells W b' 3 (gvs l)) :
    Calls Try.prog 71 #[.slice (some ⟨b', 0, none⟩) l.length l.length] W fun e w' => e = .returned (.string ⟨T.toArray⟩) ∧ Only [] W w' := by
  subst hT
  exact codec_int (.slice (some ⟨b', 0, none⟩) l.length l.length) l W (SlAt.cells (n := l.length) (sz := 1) hC (by simp [ivs]) (by unfold maxLen; omega)) hw (by omega)
theorem codec_texts_at (l : List ByteArray) (T : List UInt8) (hT : tsb (l.map bl) = T) (hl : l.length ≤ 10) (hb : T.length ≤ 70368744177600) (W : World) (b' : Nat) (hC : Cells W b' 9 (l.map Value.string)) :
    Calls Try.prog 73 #[.slice (some ⟨b', 0, none⟩) l.length l.length] W fun e w' => e = .returned (.string ⟨T.toArray⟩) ∧ Only [] W w' := by
  subst hT
  have := codec_text (.slice (some ⟨b', 0, none⟩) l.length l.length) (l.map bl) W (by
    have := SlAt.cells (n := l.length) (sz := 1) hC (by simp) (by unfold maxLen; omega)
    have h2 : svs (l.map bl) = l.map Value.string := by
      unfold svs; rw [List.map_map]
      apply List.map_congr_left
      intro x _
      simp [bl_ba]
    rw [h2, List.length_map]; exact this) (by simp; omega) hb
  exact this
/-- What packing hands back. -/
def PackW (m : Ms) (w : World) (e : Ending) (w' : World) : Prop := ∃ b, (b = true ↔ m.Right) ∧ e = .returned (.tuple #[.string ⟨(if b = true then msb m else []).toArray⟩, .int .i64 (if b = true then 0 else 1)]) ∧ Only [] w w'
theorem tb_bound (d : ByteArray) (n : Nat) (h : d.size ≤ n) (hn : n ≤ 70368744177664) : (tb (bl d)).length ≤ n + 10 := by
  have := (tb_length (bl d) (by rw [bl_size]; omega)).2
  rw [bl_size] at this
  omega
theorem esb_bound (l : List En) (h : ∀ x ∈ l, EnRight x) (k : Nat) (hk : l.length ≤ k) : (esb l).length ≤ k * 4000040 := by
  induction l generalizing k with
  | nil => simp [esb]
  | cons x r ih =>
    have h1 := h x (by simp)
    obtain ⟨k, rfl⟩ : ∃ q, k = q + 1 := ⟨k - 1, by simp at hk; omega⟩
    have h2 := ih (fun y hy => h y (List.mem_cons_of_mem _ hy)) k (by simpa using hk)
    have h3 := isb_bound [x.ix, x.tm, x.kd] (by
      have := h1.ix; have := h1.tm; have := h1.kd
      unfold In40 at *
      intro y hy; simp at hy
      unfold Wide64
      rcases hy with rfl | rfl | rfl <;> omega) 3 (by simp)
    have h4 := tb_bound x.d 4000000 h1.d (by omega)
    show ((enb x) ++ esb r).length ≤ _
    unfold enb
    rw [List.length_append, List.length_append]
    omega
set_option maxRecDepth 100000 in
set_option maxHeartbeats 8000000 in
theorem msg_pack (ev vv : Value) (m : Ms) (w : World) (h : MsAt w ev vv m) :
    Calls Try.prog 42 #[m.val ev vv] w (PackW m w) := by
  obtain ⟨EA, ec, rfl⟩ := h.ents.shape
  obtain ⟨VA, vc, rfl⟩ := h.vots.shape
  have H := Lib.hid h
  have hoA : Only [] w (w.alloc (.cells (m.cells (.slice EA m.es.length ec) (.slice VA m.b.vs.length vc)).toArray 67)) := (Only.refl _ w).alloc _
  have hZ := Cells.new w 67 (m.cells (.slice EA m.es.length ec) (.slice VA m.b.vs.length vc))
  have CR := Lib.hid (msg_right _ _ m _ (h.only hoA))
  have HZ := Lib.hid hZ
  have HA := Lib.hid hoA
  have hel := h.elen
  unfold Ms.val at CR ⊢
  clear h hZ hoA
  go_enter Try.func42, Try.ntmps42
  go_wp2_with fail
  refine CR.out.mono ?_
  rintro e w2 ⟨b, rfl, hb, ho2⟩
  have HB := Lib.hid hb
  have HA2 := Lib.hid (HA.out.tr ho2)
  have HZ2 := Lib.hid (HZ.out.only ho2 (by simp))
  clear CR HZ HA ho2 hb
  cases b with
  | false =>
    go_wp2_with fail
    go_ret2
    exact ⟨false, HB.out, rfl, HA2.out⟩
  | true =>
  have hR := HB.out.1 rfl
  have HR := Lib.hid hR
  obtain ⟨z0, hz0⟩ : ∃ z, w.heap.size = z := ⟨_, rfl⟩
  rw [hz0] at HZ2 ⊢
  clear hR hz0
  go_wp2_with fail
  have HBl := Bld.new 100 w2
  have hoB : Only [] w2 (w2.alloc (.cells #[.pointer none, .slice none 0 0] 100)) := (Only.refl _ _).alloc _
  obtain ⟨w3, hw3⟩ : ∃ w3, w2.alloc (.cells #[.pointer none, .slice none 0 0] 100) = w3 := ⟨_, rfl⟩
  obtain ⟨z, hz⟩ : ∃ z, w2.heap.size = z := ⟨_, rfl⟩
  have HZZ := Lib.hid hz
  rw [hw3] at HBl hoB ⊢
  rw [hz] at HBl ⊢
  have HB1 : Hid (IsBld 100 z z [] w3) := Lib.hid (.inl HBl)
  have HoB := Lib.hid hoB
  have HZ3 := Lib.hid (HZ2.out.only hoB (by simp))
  clear hw3 hz HBl hoB
  have HW : Hid (∀ x ∈ [m.kd, m.fr, m.to, m.tm, m.ix, m.lt, m.cm, m.b.ix, m.b.tm], Wide64 x) := Lib.hid H.out.ws
  have hw7 : Hid (∀ x ∈ [m.kd, m.fr, m.to, m.tm, m.ix, m.lt, m.cm], Wide64 x) := Lib.hid fun x hx => HW.out x (by simp at hx ⊢; rcases hx with h | h | h | h | h | h | h <;> simp [h])
  have hb7 : (isb [m.kd, m.fr, m.to, m.tm, m.ix, m.lt, m.cm]).length ≤ 70 := isb_bound _ hw7.out 7 (by simp)
  have hbn : (ib (m.es.length : Int)).length ≤ 10 := (ib_length _ ⟨by omega, by omega⟩).2
  have hbo : (bb m.ok).length = 1 := by unfold bb; rfl
  obtain ⟨I, hI⟩ : ∃ I, isb [m.kd, m.fr, m.to, m.tm, m.ix, m.lt, m.cm] = I := ⟨_, rfl⟩
  obtain ⟨J, hJ⟩ : ∃ J, ib (m.es.length : Int) = J := ⟨_, rfl⟩
  obtain ⟨O, hO⟩ : ∃ O, bb m.ok = O := ⟨_, rfl⟩
  have hMA : Hid (msA m = I ++ (O ++ J)) := Lib.hid (by unfold msA; rw [hI, hO, hJ])
  have C7 := Lib.hid (fun W b' h5 => codec_ints_at [m.kd, m.fr, m.to, m.tm, m.ix, m.lt, m.cm] I hI (by simp) hw7.out W b' h5)
  have CJ := Lib.hid (fun W b' h5 => codec_ints_at [(m.es.length : Int)] J (by rw [← hJ]; simp [isb]) (by simp) (by intro x hx; simp at hx; subst hx; exact ⟨by omega, by omega⟩) W b' h5)
  have CO := Lib.hid (fun W => codec_bool m.ok W)
  rw [hO] at CO hbo
  rw [hI] at hb7
  rw [hJ] at hbn
  have hOle : O.length ≤ 1 := by omega
  have hs1 : I.length + O.length ≤ 9223372036854775807 := by omega
  have hs2 : I.length + O.length + J.length ≤ 9223372036854775807 := by omega
  have hs3 : (I ++ O).length + J.length ≤ 9223372036854775807 := by rw [List.length_append]; omega
  obtain ⟨q0, q1, q2, q3, q4, q5, q6, q7, q8, q9, q10, q11, q12, q13⟩ := ms_cells HZ3.out
  have t0 := fun u : Since w3 => u.cell q0
  have t1 := fun u : Since w3 => u.cell q1
  have t2 := fun u : Since w3 => u.cell q2
  have t3 := fun u : Since w3 => u.cell q3
  have t4 := fun u : Since w3 => u.cell q4
  have t5 := fun u : Since w3 => u.cell q5
  have t6 := fun u : Since w3 => u.cell q6
  have t7 := fun u : Since w3 => u.cell q7
  have t8 := fun u : Since w3 => u.cell q8
  clear hI hJ hO q0 q1 q2 q3 q4 q5 q6 q7 q8 q9 q10 q11 q12 q13 hbo
  refine wp_region_pendN w3 (Only.refl _ _) [(24, SlW w3.heap.size 3 [.int .i64 m.kd, .int .i64 m.fr, .int .i64 m.to, .int .i64 m.tm, .int .i64 m.ix, .int .i64 m.lt, .int .i64 m.cm] 7), (33, SlW w3.heap.size 3 [.int .i64 (m.es.length : Int)] 1)] [] 26 (by intro p hp; simp at hp; rcases hp with rfl | rfl <;> exact SlW.lasts _ _ _ _) (by kernel_rfl) (by kernel_rfl) (by decide) (fun val => ?_)
  simp only [List.take_succ_cons, List.take_zero, List.drop_succ_cons, List.drop_zero]
  refine fit_segN 14 (by kernel_rfl) ?_
  simp only [List.take_succ_cons, List.take_zero, List.drop_succ_cons, List.drop_zero]
  repeat (go_big_quiet_step (fail))
  refine wpQuiet_nil ?_
  refine fit_lit 24 3 [.int .i64 m.kd, .int .i64 m.fr, .int .i64 m.to, .int .i64 m.tm, .int .i64 m.ix, .int .i64 m.lt, .int .i64 m.cm] 7 rfl rfl (by simp) (by simp) (fun w5 => by go_simp) rfl ?_
  simp only [Act.put, List.setIfInBounds_toArray, List.set_cons_zero, List.set_cons_succ]
  refine fit_call1 (.string ⟨I.toArray⟩) 71 24 3 [.int .i64 m.kd, .int .i64 m.fr, .int .i64 m.to, .int .i64 m.tm, .int .i64 m.ix, .int .i64 m.lt, .int .i64 m.cm] 7 (by simp) (by decide) rfl (by simp) (fun w5 => by go_simp) rfl (by kernel_rfl) (fun w5 b5 _ h5 => C7.out w5 b5 h5) ?_
  simp only [Act.put, List.setIfInBounds_toArray, List.set_cons_zero, List.set_cons_succ]
  refine fit_segN 2 (by kernel_rfl) ?_
  simp only [List.take_succ_cons, List.take_zero, List.drop_succ_cons, List.drop_zero]
  repeat (go_big_quiet_step (fail))
  refine wpQuiet_nil ?_
  refine fit_call (.string ⟨O.toArray⟩) 72 #[.bool m.ok] rfl (by simp) (fun w5 => by go_simp) rfl (by kernel_rfl) (fun w5 hw5 => (CO.out w5).mono fun e w' ⟨h1, h2⟩ => ⟨h1, h2 ▸ Only.refl _ _⟩) ?_
  simp only [Act.put, List.setIfInBounds_toArray, List.set_cons_zero, List.set_cons_succ]
  refine fit_segN 4 (by kernel_rfl) ?_
  simp only [List.take_succ_cons, List.take_zero, List.drop_succ_cons, List.drop_zero]
  repeat (go_big_quiet_step (fail))
  refine wpQuiet_nil ?_
  refine fit_lit 33 3 [.int .i64 (m.es.length : Int)] 1 rfl rfl (by simp) (by simp) (fun w5 => by go_simp) rfl ?_
  simp only [Act.put, List.setIfInBounds_toArray, List.set_cons_zero, List.set_cons_succ]
  refine fit_call1 (.string ⟨J.toArray⟩) 71 33 3 [.int .i64 (m.es.length : Int)] 1 (by simp) (by decide) rfl (by simp) (fun w5 => by go_simp) rfl (by kernel_rfl) (fun w5 b5 _ h5 => CJ.out w5 b5 h5) ?_
  simp only [Act.put, List.setIfInBounds_toArray, List.set_cons_zero, List.set_cons_succ]
  refine fit_segN 1 (by kernel_rfl) ?_
  simp only [List.take_succ_cons, List.take_zero, List.drop_succ_cons, List.drop_zero]
  repeat (go_big_quiet_step (fail))
  refine wpQuiet_nil ?_
  intro w5 ho5 _
  clear t0 t1 t2 t3 t4 t5 t6 t7 t8
  go_wp2_with fail
  rw [ba_append, ba_append]
  have hl0 : (I ++ O ++ J).length ≤ 100 := by rw [List.length_append, List.length_append]; omega
  have ho25 := HoB.out.tr ho5
  refine (writeString_k _ holds_builder z z [] (I ++ O ++ J) w5 (HB1.out.only ho5) (by simp only [List.length_nil]; omega) (by have := ho25.size; have := HZZ.out; omega)).mono ?_
  rintro e w6 ⟨rfl, hb6, hbe6, _⟩
  have HO6 := Lib.hid (ho25.past_below HZZ.out hbe6)
  have HB6 : Hid (IsBld 100 z z (msA m ++ esb []) w6) := Lib.hid (by rw [hMA.out]; have := hb6; rw [List.nil_append, List.append_assoc] at this; simp only [esb, List.flatMap_nil, List.append_nil]; exact .inr this)
  have hAl : (msA m).length ≤ 100 := by rw [hMA.out, ← List.append_assoc]; exact hl0
  clear hb6 hbe6 ho25 ho5 hs1 hs2 hs3 C7 CJ CO hMA hb7 hbn hOle hl0 HB1 HZ3 HoB
  have HZ6 := Lib.hid (HZ2.out.only HO6.out (by simp))
  have q8 := HZ6.out.cell (k := 8) rfl
  go_wp2_with fail
  clear q8
  go_loopw [40] (fun n wr => ∃ k : Nat, k ≤ m.es.length ∧ n = .int .i64 k ∧ Hid (IsBld 100 z z (msA m ++ esb (m.es.take k)) wr) ∧ Hid (Only [] w2 wr)) (fun n _ => m.es.length - (intOf n).toNat)
  case atStart => exact ⟨0, by omega, rfl, by rw [List.take_zero]; exact HB6, HO6⟩
  case round =>
    obtain ⟨k, hk, rfl, hb, ho⟩ := hrel
    have hbL : (esb (m.es.take k)).length ≤ 8 * 4000040 := esb_bound _ (fun x hx => HR.out.es x (List.mem_of_mem_take hx)) 8 (by have := HR.out.ln; rw [List.length_take]; omega)
    by_cases hlt : k < m.es.length
    case pos =>
      have hlt' : (k : Int) < (m.es.length : Int) := by omega
      obtain ⟨x, hx⟩ : ∃ x, m.es[k]? = some x := ⟨_, List.getElem?_eq_getElem hlt⟩
      have hM := H.out.only (HA2.out.tr ho.out)
      obtain ⟨b1, o1, c1', e1, q0, q1, q2, q3⟩ := enL_at hM.ents hx
      injection e1 with i1 i2 i3
      subst i1
      subst i3
      have hwe := H.out.we x (List.mem_of_getElem? hx)
      have hre := HR.out.es x (List.mem_of_getElem? hx)
      have hsn := Lib.hid (esb_snoc m.es k x hx)
      have hw3 : Hid (∀ y ∈ [x.ix, x.tm, x.kd], Wide64 y) := Lib.hid fun y hy => by simp at hy; rcases hy with rfl | rfl | rfl; exact hwe.1; exact hwe.2.1; exact hwe.2.2.1
      have hbi : (isb [x.ix, x.tm, x.kd]).length ≤ 30 := isb_bound _ hw3.out 3 (by simp)
      have hbt := tb_bound x.d 4000000 hre.d (by omega)
      obtain ⟨I, hI⟩ : ∃ I, isb [x.ix, x.tm, x.kd] = I := ⟨_, rfl⟩
      obtain ⟨T, hT⟩ : ∃ T, tb (bl x.d) = T := ⟨_, rfl⟩
      have HX : Hid (enb x = I ++ T) := Lib.hid (by unfold enb; rw [hI, hT])
      rw [hI] at hbi
      rw [hT] at hbt
      have CI := Lib.hid (fun W b' h5 => codec_ints_at [x.ix, x.tm, x.kd] I hI (by simp) hw3.out W b' h5)
      have CT := Lib.hid (fun W b' h5 => codec_texts_at [x.d] T (by rw [← hT]; simp [tsb]) (by simp) (by omega) W b' h5)
      have hIT : I.length + T.length ≤ 9223372036854775807 := by omega
      obtain ⟨L, hL⟩ : ∃ L, msA m ++ esb (m.es.take k) = L := ⟨_, rfl⟩
      have hLL : L.length ≤ 40000000 := by rw [← hL, List.length_append]; omega
      have HSL : Hid (msA m ++ esb (m.es.take (k + 1)) = L ++ (I ++ T)) := Lib.hid (by rw [hsn.out, ← List.append_assoc, hL, HX.out])
      rw [hL] at hb
      have hoX : Only [] wr (wr.alloc (.cells #[.int .i64 x.ix, .int .i64 x.tm, .int .i64 x.kd, .string x.d] 40)) := (Only.refl _ _).alloc _
      have hXC := Cells.new wr 40 [.int .i64 x.ix, .int .i64 x.tm, .int .i64 x.kd, .string x.d]
      clear i2 hx hM hwe hre hI hT hL
      go_wp2_with fail
      clear q0 q1 q2 q3
      obtain ⟨W3, hW3⟩ : ∃ W3, wr.alloc (.cells #[.int .i64 x.ix, .int .i64 x.tm, .int .i64 x.kd, .string x.d] 40) = W3 := ⟨_, rfl⟩
      have hXC : Cells (wr.alloc (.cells #[.int .i64 x.ix, .int .i64 x.tm, .int .i64 x.kd, .string x.d] 40)) wr.heap.size 40 [.int .i64 x.ix, .int .i64 x.tm, .int .i64 x.kd, .string x.d] := hXC
      obtain ⟨b3, hb3⟩ : ∃ b3, wr.heap.size = b3 := ⟨_, rfl⟩
      rw [hW3] at hoX hXC ⊢
      rw [hb3] at hXC ⊢
      have t0 := fun u : Since W3 => u.cell (hXC.cell (k := 0) rfl)
      have t1 := fun u : Since W3 => u.cell (hXC.cell (k := 1) rfl)
      have t2 := fun u : Since W3 => u.cell (hXC.cell (k := 2) rfl)
      have t3 := fun u : Since W3 => u.cell (hXC.cell (k := 3) rfl)
      have HoX := Lib.hid (ho.out.tr hoX)
      have HBX := Lib.hid (hb.out.only hoX)
      clear hW3 hb3 hXC hoX hb ho
      refine wp_region_pendN W3 (Only.refl _ _) [(50, SlW W3.heap.size 3 [.int .i64 x.ix, .int .i64 x.tm, .int .i64 x.kd] 3), (54, SlW W3.heap.size 9 [.string x.d] 1)] [] 13 (by intro p hp; simp at hp; rcases hp with rfl | rfl <;> exact SlW.lasts _ _ _ _) (by kernel_rfl) (by kernel_rfl) (by decide) (fun val => ?_)
      simp only [List.take_succ_cons, List.take_zero, List.drop_succ_cons, List.drop_zero]
      refine fit_segN 6 (by kernel_rfl) ?_
      simp only [List.take_succ_cons, List.take_zero, List.drop_succ_cons, List.drop_zero]
      repeat (go_big_quiet_step (fail))
      refine wpQuiet_nil ?_
      refine fit_lit 50 3 [.int .i64 x.ix, .int .i64 x.tm, .int .i64 x.kd] 3 rfl rfl (by simp) (by simp) (fun w5 => by go_simp) rfl ?_
      simp only [Act.put, List.setIfInBounds_toArray, List.set_cons_zero, List.set_cons_succ]
      refine fit_call1 (.string ⟨I.toArray⟩) 71 50 3 [.int .i64 x.ix, .int .i64 x.tm, .int .i64 x.kd] 3 (by simp) (by decide) rfl (by simp) (fun w5 => by go_simp) rfl (by kernel_rfl) (fun w5 b5 _ h5 => CI.out w5 b5 h5) ?_
      simp only [Act.put, List.setIfInBounds_toArray, List.set_cons_zero, List.set_cons_succ]
      refine fit_segN 2 (by kernel_rfl) ?_
      simp only [List.take_succ_cons, List.take_zero, List.drop_succ_cons, List.drop_zero]
      repeat (go_big_quiet_step (fail))
      refine wpQuiet_nil ?_
      refine fit_lit 54 9 [.string x.d] 1 rfl rfl (by simp) (by simp) (fun w5 => by go_simp) rfl ?_
      simp only [Act.put, List.setIfInBounds_toArray, List.set_cons_zero, List.set_cons_succ]
      refine fit_call1 (.string ⟨T.toArray⟩) 73 54 9 [.string x.d] 1 (by simp) (by decide) rfl (by simp) (fun w5 => by go_simp) rfl (by kernel_rfl) (fun w5 b5 _ h5 => CT.out w5 b5 h5) ?_
      simp only [Act.put, List.setIfInBounds_toArray, List.set_cons_zero, List.set_cons_succ]
      refine fit_segN 1 (by kernel_rfl) ?_
      simp only [List.take_succ_cons, List.take_zero, List.drop_succ_cons, List.drop_zero]
      repeat (go_big_quiet_step (fail))
      refine wpQuiet_nil ?_
      intro w5 ho5 _
      clear t0 t1 t2 t3
      go_wp2_with fail
      rw [ba_append]
      have hlI : (I ++ T).length ≤ 5000000 := by rw [List.length_append]; omega
      have ho25 := HoX.out.tr ho5
      refine (writeString_k _ holds_builder z z L (I ++ T) w5 (HBX.out.only ho5) (by omega) (by have := ho25.size; have := HZZ.out; omega)).mono ?_
      rintro e w6 ⟨rfl, hb6, hbe6, _⟩
      have HO7 := Lib.hid (ho25.past_below HZZ.out hbe6)
      have HB7 : Hid (IsBld 100 z z (msA m ++ esb (m.es.take (k + 1))) w6) := Lib.hid (by rw [HSL.out]; exact .inr hb6)
      clear hb6 hbe6 ho25 ho5 CI CT hIT
      go_wp2_with fail
      go_roundw
      case rel => exact ⟨k + 1, by omega, by go_num, HB7, HO7⟩
      case measure => simp [intOf]; omega
    case neg =>
      have hd : decide ((k : Int) < (m.es.length : Int)) = false := by simp; omega
      rw [List.take_of_length_le (by omega)] at hb hbL
      have hM := H.out.only (HA2.out.tr ho.out)
      have hvl : m.b.vs.length ≤ 9 := rise_len HR.out.vs
      have hw2 : Hid (∀ y ∈ [m.b.ix, m.b.tm], Wide64 y) := Lib.hid fun y hy => HW.out y (by simp at hy ⊢; rcases hy with h | h <;> simp [h])
      have hbi : (isb [m.b.ix, m.b.tm]).length ≤ 20 := isb_bound _ hw2.out 2 (by simp)
      have hbv : (vtx m.b.vs).length ≤ 100 := by
        have h1 := isb_bound m.b.vs H.out.wv 9 hvl
        have h2 := (ib_length (m.b.vs.length : Int) ⟨by omega, by omega⟩).2
        unfold vtx
        rw [List.length_append]
        omega
      have hbt : (tb (bl m.b.d) ++ tb (bl m.d)).length ≤ 8000020 := by
        have h1 := tb_bound m.b.d 4000000 HR.out.bd (by omega)
        have h2 := tb_bound m.d 4000000 HR.out.d (by omega)
        rw [List.length_append]
        omega
      have CV := Lib.hid (fun W (hW : Only [] wr W) => msg_voters (.slice VA m.b.vs.length vc) m.b.vs W ((hM.vots.only hW (Nat.le_refl _) (by simp)).more hW.size) H.out.wv (by omega))
      obtain ⟨I, hI⟩ : ∃ I, isb [m.b.ix, m.b.tm] = I := ⟨_, rfl⟩
      obtain ⟨J, hJ⟩ : ∃ J, vtx m.b.vs = J := ⟨_, rfl⟩
      obtain ⟨T, hT⟩ : ∃ T, tb (bl m.b.d) ++ tb (bl m.d) = T := ⟨_, rfl⟩
      have HX : Hid (msC m = I ++ (J ++ T)) := Lib.hid (by unfold msC; rw [hI, hJ, hT])
      rw [hI] at hbi
      rw [hJ] at hbv CV
      rw [hT] at hbt
      have CI := Lib.hid (fun W b' h5 => codec_ints_at [m.b.ix, m.b.tm] I hI (by simp) hw2.out W b' h5)
      have CT := Lib.hid (fun W b' h5 => codec_texts_at [m.b.d, m.d] T (by rw [← hT]; simp [tsb]) (by simp) (by omega) W b' h5)
      have hs1 : I.length + J.length ≤ 9223372036854775807 := by omega
      have hs2 : I.length + J.length + T.length ≤ 9223372036854775807 := by omega
      have hs3 : (I ++ J).length + T.length ≤ 9223372036854775807 := by rw [List.length_append]; omega
      obtain ⟨L, hL⟩ : ∃ L, msA m ++ esb m.es = L := ⟨_, rfl⟩
      have hLL : L.length ≤ 40000000 := by rw [← hL, List.length_append]; omega
      have HSL : Hid (msb m = L ++ (I ++ (J ++ T))) := Lib.hid (by unfold msb; rw [← List.append_assoc, hL, HX.out])
      rw [hL] at hb
      have HZr := HZ2.out.only ho.out (by simp)
      obtain ⟨q0, q1, q2, q3, q4, q5, q6, q7, q8, q9, q10, q11, q12, q13⟩ := ms_cells HZr
      have t0 := fun u : Since wr => u.cell q9
      have t1 := fun u : Since wr => u.cell q10
      have t2 := fun u : Since wr => u.cell q11
      have t3 := fun u : Since wr => u.cell q12
      have t4 := fun u : Since wr => u.cell q13
      clear q0 q1 q2 q3 q4 q5 q6 q7 q8 q9 q10 q11 q12 q13 hI hJ hT hL hM HZr hw2
      go_wp2_with fail
      refine wp_region_pendN wr (Only.refl _ _) [(65, SlW wr.heap.size 3 [.int .i64 m.b.ix, .int .i64 m.b.tm] 2), (77, SlW wr.heap.size 9 [.string m.b.d, .string m.d] 2)] [] 21 (by intro p hp; simp at hp; rcases hp with rfl | rfl <;> exact SlW.lasts _ _ _ _) (by kernel_rfl) (by kernel_rfl) (by decide) (fun val => ?_)
      simp only [List.take_succ_cons, List.take_zero, List.drop_succ_cons, List.drop_zero]
      refine fit_segN 6 (by kernel_rfl) ?_
      simp only [List.take_succ_cons, List.take_zero, List.drop_succ_cons, List.drop_zero]
      repeat (go_big_quiet_step (fail))
      refine wpQuiet_nil ?_
      refine fit_lit 65 3 [.int .i64 m.b.ix, .int .i64 m.b.tm] 2 rfl rfl (by simp) (by simp) (fun w5 => by go_simp) rfl ?_
      simp only [Act.put, List.setIfInBounds_toArray, List.set_cons_zero, List.set_cons_succ]
      refine fit_call1 (.string ⟨I.toArray⟩) 71 65 3 [.int .i64 m.b.ix, .int .i64 m.b.tm] 2 (by simp) (by decide) rfl (by simp) (fun w5 => by go_simp) rfl (by kernel_rfl) (fun w5 b5 _ h5 => CI.out w5 b5 h5) ?_
      simp only [Act.put, List.setIfInBounds_toArray, List.set_cons_zero, List.set_cons_succ]
      refine fit_segN 3 (by kernel_rfl) ?_
      simp only [List.take_succ_cons, List.take_zero, List.drop_succ_cons, List.drop_zero]
      repeat (go_big_quiet_step (fail))
      refine wpQuiet_nil ?_
      refine fit_call (.string ⟨J.toArray⟩) 46 #[.slice VA m.b.vs.length vc] rfl (by simp) (fun w5 => by go_simp) rfl (by kernel_rfl) (fun w5 hw5 => CV.out w5 hw5.1) ?_
      simp only [Act.put, List.setIfInBounds_toArray, List.set_cons_zero, List.set_cons_succ]
      refine fit_segN 6 (by kernel_rfl) ?_
      simp only [List.take_succ_cons, List.take_zero, List.drop_succ_cons, List.drop_zero]
      repeat (go_big_quiet_step (fail))
      refine wpQuiet_nil ?_
      refine fit_lit 77 9 [.string m.b.d, .string m.d] 2 rfl rfl (by simp) (by simp) (fun w5 => by go_simp) rfl ?_
      simp only [Act.put, List.setIfInBounds_toArray, List.set_cons_zero, List.set_cons_succ]
      refine fit_call1 (.string ⟨T.toArray⟩) 73 77 9 [.string m.b.d, .string m.d] 2 (by simp) (by decide) rfl (by simp) (fun w5 => by go_simp) rfl (by kernel_rfl) (fun w5 b5 _ h5 => CT.out w5 b5 h5) ?_
      simp only [Act.put, List.setIfInBounds_toArray, List.set_cons_zero, List.set_cons_succ]
      refine fit_segN 1 (by kernel_rfl) ?_
      simp only [List.take_succ_cons, List.take_zero, List.drop_succ_cons, List.drop_zero]
      repeat (go_big_quiet_step (fail))
      refine wpQuiet_nil ?_
      intro w5 ho5 _
      clear t0 t1 t2 t3 t4
      go_wp2_with fail
      rw [ba_append, ba_append]
      have hlI : (I ++ J ++ T).length ≤ 9000000 := by rw [List.length_append, List.length_append]; omega
      have ho25 := ho.out.tr ho5
      refine (writeString_k _ holds_builder z z L (I ++ J ++ T) w5 (hb.out.only ho5) (by omega) (by have := ho25.size; have := HZZ.out; omega)).mono ?_
      rintro e w6 ⟨rfl, hb6, hbe6, _⟩
      have HO7 := Lib.hid (ho25.past_below HZZ.out hbe6)
      have CS := Lib.hid (builder_string_any _ _ _ _ _ (.inr hb6))
      clear hb6 hbe6 ho25 ho5 CI CT CV
      go_wp2_with fail
      refine CS.out.mono ?_
      rintro e w7 ⟨rfl, hbe7⟩
      have HO8 := Lib.hid (HA2.out.tr (HO7.out.past_below HZZ.out hbe7))
      clear hbe7 CS
      go_wp2_with fail
      go_ret2
      exact ⟨true, by simpa using HB.out, by rw [HSL.out]; simp, HO8.out⟩
end Go.Proofs.Ytagklgodcbmcaaa
