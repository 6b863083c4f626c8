/-
  The walk over MsgPacks.
-/
import Derived.Test.YtagklgodcbmcaaaS7b
namespace Go.Proofs.Ytagklgodcbmcaaa
open Go.RowKit Go.ChangeShapes Go.WideShapes Go.Deep
set_option maxRecDepth 100000 in
theorem open_ints7 {H : Type} {enc : TypeId × Value → H} {w : World} {base : Nat} {spare : Nat → Bool} {held : Bool} {r : Reach} {b0 : Nat} {v : Value} {d : DataW H} {p : List MemPlace}
    (hv : Value.okWide Try.prog w r b0 25 v) (h : DataW.Trod enc Try.prog w base spare held 25 v d p) :
    ∃ l : List Int, SlAt w w.heap.size v 1 l.length (gvs l) ∧ ∀ x ∈ l, Wide64 x := by
  obtain ⟨l, hs, hl⟩ := open_intlist Try.underlying25 Try.underlying3 (by kernel_rfl) hv h
  exact ⟨l, hs, fun x hx => wide64_of_wf (hl x hx)⟩
theorem okB_is {Q : Prop} {b : Bool} {w w' : World} {e : Ending} (h : OkB Q w e w') (hb : b = true ↔ Q) : e = .returned (.bool b) ∧ Only [] w w' := by
  obtain ⟨b', rfl, hb', ho⟩ := h
  have : b' = b := by
    rw [Bool.eq_iff_iff]
    exact hb'.trans hb.symm
  exact ⟨by rw [this], ho⟩
theorem bool_same {a b : Bool} {Q : Prop} (h : a = true ↔ Q) (k : b = true ↔ Q) : b = a := by
  rw [Bool.eq_iff_iff]
  exact k.trans h.symm
set_option maxRecDepth 100000 in
set_option maxHeartbeats 4000000 in
theorem msgPacks_walk (W : World) (v0 : Value) (m : Ms) (s0 : ∃ ev vv, v0 = m.val ev vv ∧ MsAt W ev vv m) (_ : True) (v1 : Value) (l : List Int) (s1 : SlAt W W.heap.size v1 1 l.length (gvs l)) (g1 : ∀ x ∈ l, Wide64 x) :
    Calls Try.prog 9 #[v0, v1] W fun e W' => e = .returned (.bool true) ∧ Only [] W W' := by
  obtain ⟨ev, vv, rfl, h⟩ := s0
  obtain ⟨EA, ec, rfl⟩ := h.ents.shape
  obtain ⟨VA, vc, rfl⟩ := h.vots.shape
  obtain ⟨LA, lc, rfl⟩ := s1.shape
  have H := Lib.hid h
  have HL := Lib.hid s1
  have HG := Lib.hid g1
  have hll : l.length ≤ 9223372036854775807 := by obtain ⟨_, _, _, _, _, h2, _⟩ := s1; unfold maxLen at h2; omega
  obtain ⟨w1, hw1⟩ : ∃ w1, W.alloc (.cells #[.int .i64 m.kd, .int .i64 m.fr, .int .i64 m.to, .int .i64 m.tm, .int .i64 m.ix, .int .i64 m.lt, .int .i64 m.cm, .bool m.ok, .slice EA m.es.length ec, .int .i64 m.b.ix, .int .i64 m.b.tm, .slice VA m.b.vs.length vc, .string m.b.d, .string m.d] 67) = w1 := ⟨_, rfl⟩
  obtain ⟨z, hz⟩ : ∃ z, W.heap.size = z := ⟨_, rfl⟩
  have O1 : Only [] W w1 := hw1 ▸ (Only.refl _ _).alloc _
  have a1 : Cells w1 z 67 (m.cells (.slice EA m.es.length ec) (.slice VA m.b.vs.length vc)) := hw1 ▸ hz ▸ Cells.new W _ _
  have C0 := Lib.hid (shown7 w1)
  have HO := Lib.hid O1
  have HZ := Lib.hid a1
  have CS := Lib.hid (fun w' (ho : Only [] W w') => small7 _ _ m w' (h.only ho))
  have CP := Lib.hid (fun w' (ho : Only [] W w') => msg_pack _ _ m w' (h.only ho))
  have CQ := Lib.hid (fun w' (ho : Only [] W w') (hv : m.b.vs.length ≤ 1000000) => ref7_pack _ _ m w' (h.only ho) hv)
  have CR := Lib.hid (fun w' (ho : Only [] W w') => msg_right _ _ m w' (h.only ho))
  have CT := Lib.hid (fun w' (ho : Only [] W w') (hv : m.b.vs.length ≤ 1000000) => ref7_right _ _ m w' (h.only ho) hv)
  have hval : m.val (.slice EA m.es.length ec) (.slice VA m.b.vs.length vc) = .agg #[.int .i64 m.kd, .int .i64 m.fr, .int .i64 m.to, .int .i64 m.tm, .int .i64 m.ix, .int .i64 m.lt, .int .i64 m.cm, .bool m.ok, .slice EA m.es.length ec, .int .i64 m.b.ix, .int .i64 m.b.tm, .slice VA m.b.vs.length vc, .string m.b.d, .string m.d] := rfl
  rw [hval] at CS CP CQ CR CT ⊢
  clear h s1 g1 a1 O1
  go_enter Try.func9, Try.ntmps9
  go_wp2_with fail
  clear hw1 hz
  refine C0.out.mono ?_
  rintro e w2 ⟨rfl, ho2⟩
  have HO2 := Lib.hid (HO.out.tr ho2)
  have hz2 := HZ.out.only ho2 (by simp)
  clear C0 HO HZ ho2
  go_wp2_with (refine wpList_load_row rfl 67 _ rfl z rfl 67 #[.int .i64 m.kd, .int .i64 m.fr, .int .i64 m.to, .int .i64 m.tm, .int .i64 m.ix, .int .i64 m.lt, .int .i64 m.cm, .bool m.ok, .slice EA m.es.length ec, .int .i64 m.b.ix, .int .i64 m.b.tm, .slice VA m.b.vs.length vc, .string m.b.d, .string m.d] (0, 0) _ hz2 Try.underlying67 rfl (by kernel_rfl) ?_)
  refine (CS.out w2 HO2.out).mono ?_
  rintro e w3 ⟨ok, rfl, hok, ho3⟩
  have HOK := Lib.hid hok
  have HO3 := Lib.hid (HO2.out.tr ho3)
  have hz3 := hz2.only ho3 (by simp)
  clear hz2 HO2 hok ho3 CS
  cases ok with
  | false =>
    go_wp2_with fail
    go_ret
    exact ⟨rfl, HO3.out⟩
  | true =>
  have HSM := Lib.hid (HOK.out.1 rfl)
  have hvl : m.b.vs.length ≤ 1000000 := by have := HSM.out.vs; omega
  by_cases h1 : 100 < l.length
  · have d1 : decide ((100 : Int) < (l.length : Int)) = true := by simp; omega
    go_wp2_with fail
    go_ret
    exact ⟨rfl, HO3.out⟩
  have d1 : decide ((100 : Int) < (l.length : Int)) = false := by simp; omega
  go_wp2_with (refine wpList_load_row rfl 67 _ rfl z rfl 67 #[.int .i64 m.kd, .int .i64 m.fr, .int .i64 m.to, .int .i64 m.tm, .int .i64 m.ix, .int .i64 m.lt, .int .i64 m.cm, .bool m.ok, .slice EA m.es.length ec, .int .i64 m.b.ix, .int .i64 m.b.tm, .slice VA m.b.vs.length vc, .string m.b.d, .string m.d] (0, 0) _ hz3 Try.underlying67 rfl (by kernel_rfl) ?_)
  refine (CP.out w3 HO3.out).mono ?_
  rintro e w4 ⟨b, hb, rfl, ho4⟩
  have HB := Lib.hid hb
  obtain ⟨SM, hSM⟩ : ∃ S, (if b = true then msb m else []) = S := ⟨_, rfl⟩
  obtain ⟨EM, hEM⟩ : ∃ S : Int, (if b = true then 0 else 1) = S := ⟨_, rfl⟩
  rw [hSM, hEM]
  have HSM2 := Lib.hid hSM
  have HEM := Lib.hid hEM
  clear hSM hEM
  have HO4 := Lib.hid (HO3.out.tr ho4)
  have hz4 := hz3.only ho4 (by simp)
  clear hz3 HO3 hb ho4 CP
  go_wp2_with (refine wpList_load_row rfl 67 _ rfl z rfl 67 #[.int .i64 m.kd, .int .i64 m.fr, .int .i64 m.to, .int .i64 m.tm, .int .i64 m.ix, .int .i64 m.lt, .int .i64 m.cm, .bool m.ok, .slice EA m.es.length ec, .int .i64 m.b.ix, .int .i64 m.b.tm, .slice VA m.b.vs.length vc, .string m.b.d, .string m.d] (0, 0) _ hz4 Try.underlying67 rfl (by kernel_rfl) ?_)
  refine (CQ.out w4 HO4.out hvl).mono ?_
  rintro e w5 ⟨b2, hb2, rfl, ho5⟩
  have hbb := bool_same HB.out hb2
  rw [hbb, HSM2.out, HEM.out]
  clear hbb
  have HO5 := Lib.hid (HO4.out.tr ho5)
  have hz5 := hz4.only ho5 (by simp)
  obtain ⟨c0, c1, c2, c3, c4, c5, c6, c7, c8, c9, c10, c11, c12, c13⟩ := ms_cells hz5
  have t0 := fun u : Since w5 => u.cell c0
  have t1 := fun u : Since w5 => u.cell c1
  have t2 := fun u : Since w5 => u.cell c2
  have t3 := fun u : Since w5 => u.cell c3
  have t4 := fun u : Since w5 => u.cell c4
  have t5 := fun u : Since w5 => u.cell c5
  have t6 := fun u : Since w5 => u.cell c6
  have t7 := fun u : Since w5 => u.cell c7
  have t8 := fun u : Since w5 => u.cell c8
  have t9 := fun u : Since w5 => u.cell c9
  have t10 := fun u : Since w5 => u.cell c10
  have t11 := fun u : Since w5 => u.cell c11
  have t12 := fun u : Since w5 => u.cell c12
  have t13 := fun u : Since w5 => u.cell c13
  have CR2 := Lib.hid (fun u : Since w5 => (CR.out u.w (HO5.out.tr u.h)).mono fun e w' h => okB_is h HB.out)
  have CT2 := Lib.hid (fun u : Since w5 => (CT.out u.w (HO5.out.tr u.h) hvl).mono fun e w' h => okB_is h HB.out)
  have CV1 := Lib.hid (fun u : Since w5 => msg_voters _ l u.w (((HL.out.only HO5.out (Nat.le_refl _) (by simp)).more HO5.out.size).only u.h (Nat.le_refl _) (by simp) |>.more u.h.size) HG.out (by omega))
  have CV2 := Lib.hid (fun u : Since w5 => ref7_voters _ l u.w (((HL.out.only HO5.out (Nat.le_refl _) (by simp)).more HO5.out.size).only u.h (Nat.le_refl _) (by simp) |>.more u.h.size) (by omega) HG.out)
  obtain ⟨VX, hVX⟩ : ∃ S, vtx l = S := ⟨_, rfl⟩
  rw [hVX] at CV1 CV2
  clear hz4 HO4 hb2 ho5 CQ CR CT hz5 c0 c1 c2 c3 c4 c5 c6 c7 c8 c9 c10 c11 c12 c13 hVX
  go_wp2_with fail
  refine wp_region_only w5 (Only.refl _ _) (by kernel_rfl) (by kernel_rfl) ?_
  repeat (go_big_quiet_step (first
    | (go_at_call 44; refine Calls.only (CR2.out _))
    | (go_at_call 45; refine Calls.only (CT2.out _))
    | (go_at_call 46; refine Calls.only (CV1.out _))
    | (go_at_call 47; refine Calls.only (CV2.out _))))
  refine wpQuiet_nil ?_
  rintro ⟨w9, ho9⟩
  dsimp only
  have HO9 := Lib.hid (HO5.out.tr ho9)
  go_wp2_with fail
  go_ret
  exact ⟨rfl, HO9.out⟩
end Go.Proofs.Ytagklgodcbmcaaa
