/-
  The walk over MsgReads.
-/
import Derived.Test.YtagklgodcbmcaaaPlain7
import Derived.Test.YtagklgodcbmcaaaBytes7
namespace Go.Proofs.Ytagklgodcbmcaaa
open Go.RowKit
set_option maxRecDepth 100000 in
set_option maxHeartbeats 8000000 in
theorem msgReads_walk (W : World) (s : ByteArray) (hs0 : s.size ≤ maxLen) (v0 : Value) (m : Ms) (s0 : ∃ ev vv, v0 = m.val ev vv ∧ MsAt W ev vv m) (_ : True) (at_ : Int) (wat : (Lit.int .i64 at_).wf = true) (to_ : Int) (wto : (Lit.int .i64 to_).wf = true) :
    Calls Try.prog 10 #[.string s, v0, .int .i64 at_, .int .i64 to_] W fun e W' => e = .returned (.bool true) ∧ Only [] W W' := by
  obtain ⟨ev, vv, rfl, h⟩ := s0
  obtain ⟨EA, ec, rfl⟩ := h.ents.shape
  obtain ⟨VA, vc, rfl⟩ := h.vots.shape
  have wat := wide64_of_wf wat
  obtain ⟨ls, rfl, hls⟩ := str_of s
  rw [hls] at hs0
  unfold maxLen at hs0
  clear hls
  have H := Lib.hid h
  obtain ⟨w1, hw1⟩ : ∃ w1, W.alloc (.cells #[.int .i64 m.kd, .int .i64 m.fr, .int .i64 m.to, .int .i64 m.tm, .int .i64 m.ix, .int .i64 m.lt, .int .i64 m.cm, .bool m.ok, .slice EA m.es.length ec, .int .i64 m.b.ix, .int .i64 m.b.tm, .slice VA m.b.vs.length vc, .string m.b.d, .string m.d] 67) = w1 := ⟨_, rfl⟩
  obtain ⟨z, hz⟩ : ∃ z, W.heap.size = z := ⟨_, rfl⟩
  have O1 : Only [] W w1 := hw1 ▸ (Only.refl _ _).alloc _
  have a1 : Cells w1 z 67 (m.cells (.slice EA m.es.length ec) (.slice VA m.b.vs.length vc)) := hw1 ▸ hz ▸ Cells.new W _ _
  have C0 := Lib.hid (shown7 w1)
  have HO := Lib.hid O1
  have HZ := Lib.hid a1
  have CS := Lib.hid (fun w' (ho : Only [] W w') => small7 _ _ m w' (h.only ho))
  have CP := Lib.hid (fun w' (ho : Only [] W w') => msg_pack _ _ m w' (h.only ho))
  have CQ := Lib.hid (fun w' (ho : Only [] W w') (hv : m.b.vs.length ≤ 1000000) => ref7_pack _ _ m w' (h.only ho) hv)
  have hval : m.val (.slice EA m.es.length ec) (.slice VA m.b.vs.length vc) = .agg #[.int .i64 m.kd, .int .i64 m.fr, .int .i64 m.to, .int .i64 m.tm, .int .i64 m.ix, .int .i64 m.lt, .int .i64 m.cm, .bool m.ok, .slice EA m.es.length ec, .int .i64 m.b.ix, .int .i64 m.b.tm, .slice VA m.b.vs.length vc, .string m.b.d, .string m.d] := rfl
  rw [hval] at CS CQ ⊢
  clear CP
  clear h a1 O1
  go_enter Try.func10, Try.ntmps10
  go_wp2_with fail
  clear hw1 hz
  refine C0.out.mono ?_
  rintro e w2 ⟨rfl, ho2⟩
  have HO2 := Lib.hid (HO.out.tr ho2)
  have hz2 := HZ.out.only ho2 (by simp)
  clear C0 HO HZ ho2
  go_wp2_with (refine wpList_load_row rfl 67 _ rfl z rfl 67 #[.int .i64 m.kd, .int .i64 m.fr, .int .i64 m.to, .int .i64 m.tm, .int .i64 m.ix, .int .i64 m.lt, .int .i64 m.cm, .bool m.ok, .slice EA m.es.length ec, .int .i64 m.b.ix, .int .i64 m.b.tm, .slice VA m.b.vs.length vc, .string m.b.d, .string m.d] (0, 0) _ hz2 Try.underlying67 rfl (by kernel_rfl) ?_)
  refine (CS.out w2 HO2.out).mono ?_
  rintro e w3 ⟨ok, rfl, hok, ho3⟩
  have HOK := Lib.hid hok
  have HO3 := Lib.hid (HO2.out.tr ho3)
  have hz3 := hz2.only ho3 (by simp)
  clear hz2 HO2 hok ho3 CS
  cases ok with
  | false =>
    go_wp2_with fail
    go_ret
    exact ⟨rfl, HO3.out⟩
  | true =>
  by_cases h1 : 3000 < ls.length
  · have d1 : decide ((3000 : Int) < (ls.length : Int)) = true := by simp; omega
    go_wp2_with fail
    go_ret
    exact ⟨rfl, HO3.out⟩
  have d1 : decide ((3000 : Int) < (ls.length : Int)) = false := by simp; omega
  have hvl : m.b.vs.length ≤ 1000000 := by have := (HOK.out.1 rfl).vs; omega
  have CR1 := Lib.hid (fun w' => reads7 ls w' (by omega))
  go_wp2_with (refine wpList_load_row rfl 67 _ rfl z rfl 67 #[.int .i64 m.kd, .int .i64 m.fr, .int .i64 m.to, .int .i64 m.tm, .int .i64 m.ix, .int .i64 m.lt, .int .i64 m.cm, .bool m.ok, .slice EA m.es.length ec, .int .i64 m.b.ix, .int .i64 m.b.tm, .slice VA m.b.vs.length vc, .string m.b.d, .string m.d] (0, 0) _ hz3 Try.underlying67 rfl (by kernel_rfl) ?_)
  refine (CQ.out w3 HO3.out hvl).mono ?_
  rintro e w4 ⟨b, hb, rfl, ho4⟩
  have HO4 := Lib.hid (HO3.out.tr ho4)
  clear HO3 ho4 CQ hz3
  cases b with
  | false =>
    simp only [Bool.false_eq_true, if_false]
    go_wp2_with fail
    refine (CR1.out _).mono ?_
    rintro e u1 ⟨rfl, hu1⟩
    have HU1 := Lib.hid (HO4.out.tr hu1)
    go_wp2_with fail
    refine (reads7 [] u1 (by simp)).mono ?_
    rintro e u2 ⟨rfl, hu2⟩
    have HU2 := Lib.hid (HU1.out.tr hu2)
    go_wp2_with fail
    go_ret
    exact ⟨rfl, HU2.out⟩
  | true =>
  have hR := hb.1 rfl
  simp only [if_true]
  obtain ⟨hb1, hb2⟩ := msb_bound hR
  obtain ⟨S, hS⟩ : ∃ S, msb m = S := ⟨_, rfl⟩
  rw [hS] at hb1 hb2 ⊢
  have e1 : (S == []) = false := by
    cases S with
    | nil => simp at hb1
    | cons a t => rfl
  have CK := Lib.hid (fun w' => pick7 at_ S.length w' wat (by omega) (by omega))
  obtain ⟨k0, k1⟩ := pickI_lt at_ S.length (by omega)
  obtain ⟨p, hp⟩ : ∃ p : Nat, pickI at_ S.length = p := ⟨(pickI at_ S.length).toNat, by omega⟩
  rw [hp] at CK k0 k1
  have kp : p < S.length := by omega
  obtain ⟨cap, zs, w5, hcap, hC5, ho5, hcv⟩ := conv_row S w4
  have HO5 := Lib.hid (HO4.out.tr ho5)
  have hgW : W.heap.size ≤ w4.heap.size := HO4.out.size
  obtain ⟨g, hg⟩ : ∃ g, w4.heap.size = g := ⟨_, rfl⟩
  rw [hg] at hC5 hcv hgW
  have HC5 := Lib.hid hC5
  clear hS hb hR wat hp ho5 hC5
  go_wp2_with fail
  clear hcv hg
  refine (CK.out _).mono ?_
  rintro e w6 ⟨rfl, rfl⟩
  have f5 := HC5.out.frozen p (by rw [List.length_append, bytes_length]; omega)
  have l5 := HC5.out.lt
  have hbk := HC5.out.cell (k := p) (v := .int .u8 (S[p].toNat : Int)) (by rw [List.getElem?_append_left (by rw [bytes_length]; exact kp)]; simp [bytes, List.getElem?_eq_getElem kp])
  obtain ⟨c, hc⟩ : ∃ c : UInt8, (c.toNat : Int) = to_ % 256 := ⟨UInt8.ofNat (to_ % 256).toNat, by
    rw [toNat_byte _ (by omega)]; omega⟩
  obtain ⟨w6, hw6⟩ : ∃ w6, w5.setCell ⟨g, p, none⟩ (.int .u8 (to_ % 256)) = w6 := ⟨_, rfl⟩
  have hC6 : CellsZ w6 g 5 (bytes (S.set p c) ++ zs) := by
    have h1 := HC5.out.set p (.int .u8 (to_ % 256))
    rw [hw6, List.set_append_left _ _ (by rw [bytes_length]; exact kp), ← hc] at h1
    rw [show bytes (S.set p c) = (bytes S).set p (.int .u8 c.toNat) from by unfold bytes; rw [List.map_set]]
    exact h1
  have HO6 : Hid (Only [] W w6) := Lib.hid (hw6 ▸ HO5.out.setCell (p := ⟨g, p, none⟩) (.inr hgW) _)
  obtain ⟨X, hX⟩ : ∃ X, S.set p c = X := ⟨_, rfl⟩
  have hXl : X.length = S.length := by rw [← hX, List.length_set]
  rw [hX] at hC6
  have hcv := conv_back X zs g cap w6 hC6
  rw [hXl] at hcv
  have CR2 := Lib.hid (fun w' => reads7 X w' (by omega))
  clear hX hC6 hXl hc
  go_wp2_with fail
  clear hcv hw6 hbk f5 l5
  refine (CR1.out _).mono ?_
  rintro e u1 ⟨rfl, hu1⟩
  have HU1 := Lib.hid (HO6.out.tr hu1)
  go_wp2_with fail
  refine (CR2.out _).mono ?_
  rintro e u2 ⟨rfl, hu2⟩
  have HU2 := Lib.hid (HU1.out.tr hu2)
  go_wp2_with fail
  go_ret
  exact ⟨rfl, HU2.out⟩
end Go.Proofs.Ytagklgodcbmcaaa
