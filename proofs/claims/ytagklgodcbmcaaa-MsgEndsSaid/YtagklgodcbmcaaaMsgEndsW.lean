/-
  The walk over MsgEnds.
-/
import Derived.Test.YtagklgodcbmcaaaPlain7
namespace Go.Proofs.Ytagklgodcbmcaaa
open Go.RowKit
set_option maxRecDepth 100000 in
set_option maxHeartbeats 8000000 in
theorem msgEnds_walk (W : World) (v0 : Value) (m : Ms) (s0 : ∃ ev vv, v0 = m.val ev vv ∧ MsAt W ev vv m) (_ : True) (at_ : Int) (wat : (Lit.int .i64 at_).wf = true) (more : ByteArray) (hm0 : more.size ≤ maxLen) :
    Calls Try.prog 12 #[v0, .int .i64 at_, .string more] W fun e W' => e = .returned (.bool true) ∧ Only [] W W' := by
  obtain ⟨ev, vv, rfl, h⟩ := s0
  obtain ⟨EA, ec, rfl⟩ := h.ents.shape
  obtain ⟨VA, vc, rfl⟩ := h.vots.shape
  have wat := wide64_of_wf wat
  obtain ⟨lm, rfl, hlm⟩ := str_of more
  rw [hlm] at hm0
  unfold maxLen at hm0
  clear hlm
  have H := Lib.hid h
  obtain ⟨w1, hw1⟩ : ∃ w1, W.alloc (.cells #[.int .i64 m.kd, .int .i64 m.fr, .int .i64 m.to, .int .i64 m.tm, .int .i64 m.ix, .int .i64 m.lt, .int .i64 m.cm, .bool m.ok, .slice EA m.es.length ec, .int .i64 m.b.ix, .int .i64 m.b.tm, .slice VA m.b.vs.length vc, .string m.b.d, .string m.d] 67) = w1 := ⟨_, rfl⟩
  obtain ⟨z, hz⟩ : ∃ z, W.heap.size = z := ⟨_, rfl⟩
  have O1 : Only [] W w1 := hw1 ▸ (Only.refl _ _).alloc _
  have a1 : Cells w1 z 67 (m.cells (.slice EA m.es.length ec) (.slice VA m.b.vs.length vc)) := hw1 ▸ hz ▸ Cells.new W _ _
  have C0 := Lib.hid (shown7 w1)
  have HO := Lib.hid O1
  have HZ := Lib.hid a1
  have CS := Lib.hid (fun w' (ho : Only [] W w') => small7 _ _ m w' (h.only ho))
  have CP := Lib.hid (fun w' (ho : Only [] W w') => msg_pack _ _ m w' (h.only ho))
  have hval : m.val (.slice EA m.es.length ec) (.slice VA m.b.vs.length vc) = .agg #[.int .i64 m.kd, .int .i64 m.fr, .int .i64 m.to, .int .i64 m.tm, .int .i64 m.ix, .int .i64 m.lt, .int .i64 m.cm, .bool m.ok, .slice EA m.es.length ec, .int .i64 m.b.ix, .int .i64 m.b.tm, .slice VA m.b.vs.length vc, .string m.b.d, .string m.d] := rfl
  rw [hval] at CS CP ⊢
  clear h a1 O1
  go_enter Try.func12, Try.ntmps12
  go_wp2_with fail
  clear hw1 hz
  refine C0.out.mono ?_
  rintro e w2 ⟨rfl, ho2⟩
  have HO2 := Lib.hid (HO.out.tr ho2)
  have hz2 := HZ.out.only ho2 (by simp)
  clear C0 HO HZ ho2
  go_wp2_with (refine wpList_load_row rfl 67 _ rfl z rfl 67 #[.int .i64 m.kd, .int .i64 m.fr, .int .i64 m.to, .int .i64 m.tm, .int .i64 m.ix, .int .i64 m.lt, .int .i64 m.cm, .bool m.ok, .slice EA m.es.length ec, .int .i64 m.b.ix, .int .i64 m.b.tm, .slice VA m.b.vs.length vc, .string m.b.d, .string m.d] (0, 0) _ hz2 Try.underlying67 rfl (by kernel_rfl) ?_)
  refine (CS.out w2 HO2.out).mono ?_
  rintro e w3 ⟨ok, rfl, hok, ho3⟩
  have HOK := Lib.hid hok
  have HO3 := Lib.hid (HO2.out.tr ho3)
  have hz3 := hz2.only ho3 (by simp)
  clear hz2 HO2 hok ho3 CS
  cases ok with
  | false =>
    go_wp2_with fail
    go_ret
    exact ⟨rfl, HO3.out⟩
  | true =>
  by_cases h1 : 100 < lm.length
  · have d1 : decide ((100 : Int) < (lm.length : Int)) = true := by simp; omega
    go_wp2_with fail
    go_ret
    exact ⟨rfl, HO3.out⟩
  have d1 : decide ((100 : Int) < (lm.length : Int)) = false := by simp; omega
  by_cases h2 : lm = []
  · subst h2
    go_wp2_with fail
    go_ret
    exact ⟨rfl, HO3.out⟩
  have d2 : lm.isEmpty = false := by
    cases lm with
    | nil => exact absurd rfl h2
    | cons a l => rfl
  go_wp2_with (refine wpList_load_row rfl 67 _ rfl z rfl 67 #[.int .i64 m.kd, .int .i64 m.fr, .int .i64 m.to, .int .i64 m.tm, .int .i64 m.ix, .int .i64 m.lt, .int .i64 m.cm, .bool m.ok, .slice EA m.es.length ec, .int .i64 m.b.ix, .int .i64 m.b.tm, .slice VA m.b.vs.length vc, .string m.b.d, .string m.d] (0, 0) _ hz3 Try.underlying67 rfl (by kernel_rfl) ?_)
  refine (CP.out w3 HO3.out).mono ?_
  rintro e w4 ⟨b, hb, rfl, ho4⟩
  have HO4 := Lib.hid (HO3.out.tr ho4)
  clear HO3 ho4 CP hz3
  cases b with
  | false =>
    simp only [Bool.false_eq_true, if_false]
    go_wp2_with fail
    go_ret
    exact ⟨rfl, HO4.out⟩
  | true =>
  have hR := hb.1 rfl
  simp only [if_true]
  obtain ⟨hb1, hb2⟩ := msb_bound hR
  have K1 : ∀ p, p < (msb m).length → ∀ o : Option Ms, (∀ m', o = some m' ↔ m'.Right ∧ msb m' = (msb m).take p) → o = none := fun p hp o ho => cut_none hR hp ho
  have K2 : ∀ o : Option Ms, (∀ m', o = some m' ↔ m'.Right ∧ msb m' = msb m ++ lm) → o = none := fun o ho => more_none hR h2 ho
  obtain ⟨S, hS⟩ : ∃ S, msb m = S := ⟨_, rfl⟩
  rw [hS] at hb1 hb2 K1 K2 ⊢
  have HK1 := Lib.hid K1
  have HK2 := Lib.hid K2
  have CK := Lib.hid (fun w' => pick7 at_ S.length w' wat (by omega) (by omega))
  obtain ⟨k0, k1⟩ := pickI_lt at_ S.length (by omega)
  obtain ⟨p, hp⟩ : ∃ p : Nat, pickI at_ S.length = p := ⟨(pickI at_ S.length).toNat, by omega⟩
  rw [hp] at CK k0 k1
  have kp : p < S.length := by omega
  have C5 := Lib.hid (fun w' => msg_unpack (S.take p) w' (by rw [List.length_take]; omega))
  have C6 := Lib.hid (fun w' => msg_unpack (S ++ lm) w' (by rw [List.length_append]; omega))
  clear K1 K2 hS hb hR wat hp
  go_wp2_with fail
  refine (CK.out _).mono ?_
  rintro e w5 ⟨rfl, rfl⟩
  go_wp2_with fail
  rw [str_from_start]
  refine (C5.out _).mono ?_
  rintro e w6 ⟨o, ev, vv, ho, rfl, hma, ho6⟩
  obtain rfl := HK1.out p kp o ho
  have HO6 := Lib.hid (HO4.out.tr ho6)
  obtain ⟨EB, eb, rfl⟩ := hma.ents.shape
  obtain ⟨VB, vb, rfl⟩ := hma.vots.shape
  have hval : ((none : Option Ms).getD Ms.zero).val (.slice EB ((none : Option Ms).getD Ms.zero).es.length eb) (.slice VB ((none : Option Ms).getD Ms.zero).b.vs.length vb) = .agg #[.int .i64 0, .int .i64 0, .int .i64 0, .int .i64 0, .int .i64 0, .int .i64 0, .int .i64 0, .bool false, .slice EB 0 eb, .int .i64 0, .int .i64 0, .slice VB 0 vb, .string ⟨#[]⟩, .string ⟨#[]⟩] := rfl
  rw [hval]
  obtain ⟨wA, hwA⟩ : ∃ wA, w6.alloc (.cells #[.int .i64 0, .int .i64 0, .int .i64 0, .int .i64 0, .int .i64 0, .int .i64 0, .int .i64 0, .bool false, .slice none 0 0, .int .i64 0, .int .i64 0, .slice none 0 0, .string ⟨#[]⟩, .string ⟨#[]⟩] 67) = wA := ⟨_, rfl⟩
  obtain ⟨z1, hzz1⟩ : ∃ z, w6.heap.size = z := ⟨_, rfl⟩
  have hAz : Cells wA z1 67 [.int .i64 0, .int .i64 0, .int .i64 0, .int .i64 0, .int .i64 0, .int .i64 0, .int .i64 0, .bool false, .slice none 0 0, .int .i64 0, .int .i64 0, .slice none 0 0, .string ⟨#[]⟩, .string ⟨#[]⟩] := hwA ▸ hzz1 ▸ Cells.new w6 _ _
  obtain ⟨w7, hw7⟩ : ∃ w', wA.setRow z1 #[.int .i64 0, .int .i64 0, .int .i64 0, .int .i64 0, .int .i64 0, .int .i64 0, .int .i64 0, .bool false, .slice EB 0 eb, .int .i64 0, .int .i64 0, .slice VB 0 vb, .string ⟨#[]⟩, .string ⟨#[]⟩] = w' := ⟨_, rfl⟩
  have hone : (#[.int .i64 0, .int .i64 0, .int .i64 0, .int .i64 0, .int .i64 0, .int .i64 0, .int .i64 0, .bool false, .slice EB 0 eb, .int .i64 0, .int .i64 0, .slice VB 0 vb, .string ⟨#[]⟩, .string ⟨#[]⟩] : Array Value).all (·.oneCell') = true := by simp [Value.oneCell']
  have oA : Only [] w6 w7 := hw7 ▸ Only.setRow (hwA ▸ (Only.refl _ _).alloc _) (.inr (by omega)) _
  have HZ1 : Hid (Cells w7 z1 67 [.int .i64 0, .int .i64 0, .int .i64 0, .int .i64 0, .int .i64 0, .int .i64 0, .int .i64 0, .bool false, .slice EB 0 eb, .int .i64 0, .int .i64 0, .slice VB 0 vb, .string ⟨#[]⟩, .string ⟨#[]⟩]) := Lib.hid (hw7 ▸ hAz.setRow [.int .i64 0, .int .i64 0, .int .i64 0, .int .i64 0, .int .i64 0, .int .i64 0, .int .i64 0, .bool false, .slice EB 0 eb, .int .i64 0, .int .i64 0, .slice VB 0 vb, .string ⟨#[]⟩, .string ⟨#[]⟩])
  have HO7 := Lib.hid (HO6.out.tr oA)
  clear hma hval C5 HO4 ho6 HK1 CK
  go_wp2_with (refine wpList_store_row rfl 67 _ _ rfl z1 #[.int .i64 0, .int .i64 0, .int .i64 0, .int .i64 0, .int .i64 0, .int .i64 0, .int .i64 0, .bool false, .slice EB 0 eb, .int .i64 0, .int .i64 0, .slice VB 0 vb, .string ⟨#[]⟩, .string ⟨#[]⟩] rfl rfl 67 _ hAz (by kernel_rfl) rfl hone ?_)
  clear hwA hzz1 hw7 hAz hone oA
  refine (C6.out _).mono ?_
  rintro e w8 ⟨o, ev, vv, ho, rfl, hma, ho8⟩
  obtain rfl := HK2.out o ho
  have HO8 := Lib.hid (HO7.out.tr ho8)
  obtain ⟨EC, eb, rfl⟩ := hma.ents.shape
  obtain ⟨VC, vb, rfl⟩ := hma.vots.shape
  have hval : ((none : Option Ms).getD Ms.zero).val (.slice EC ((none : Option Ms).getD Ms.zero).es.length eb) (.slice VC ((none : Option Ms).getD Ms.zero).b.vs.length vb) = .agg #[.int .i64 0, .int .i64 0, .int .i64 0, .int .i64 0, .int .i64 0, .int .i64 0, .int .i64 0, .bool false, .slice EC 0 eb, .int .i64 0, .int .i64 0, .slice VC 0 vb, .string ⟨#[]⟩, .string ⟨#[]⟩] := rfl
  rw [hval]
  obtain ⟨wA, hwA⟩ : ∃ wA, w8.alloc (.cells #[.int .i64 0, .int .i64 0, .int .i64 0, .int .i64 0, .int .i64 0, .int .i64 0, .int .i64 0, .bool false, .slice none 0 0, .int .i64 0, .int .i64 0, .slice none 0 0, .string ⟨#[]⟩, .string ⟨#[]⟩] 67) = wA := ⟨_, rfl⟩
  obtain ⟨z2, hzz2⟩ : ∃ z, w8.heap.size = z := ⟨_, rfl⟩
  have hAz : Cells wA z2 67 [.int .i64 0, .int .i64 0, .int .i64 0, .int .i64 0, .int .i64 0, .int .i64 0, .int .i64 0, .bool false, .slice none 0 0, .int .i64 0, .int .i64 0, .slice none 0 0, .string ⟨#[]⟩, .string ⟨#[]⟩] := hwA ▸ hzz2 ▸ Cells.new w8 _ _
  obtain ⟨w9, hw9⟩ : ∃ w', wA.setRow z2 #[.int .i64 0, .int .i64 0, .int .i64 0, .int .i64 0, .int .i64 0, .int .i64 0, .int .i64 0, .bool false, .slice EC 0 eb, .int .i64 0, .int .i64 0, .slice VC 0 vb, .string ⟨#[]⟩, .string ⟨#[]⟩] = w' := ⟨_, rfl⟩
  have hone : (#[.int .i64 0, .int .i64 0, .int .i64 0, .int .i64 0, .int .i64 0, .int .i64 0, .int .i64 0, .bool false, .slice EC 0 eb, .int .i64 0, .int .i64 0, .slice VC 0 vb, .string ⟨#[]⟩, .string ⟨#[]⟩] : Array Value).all (·.oneCell') = true := by simp [Value.oneCell']
  have oA : Only [] w8 w9 := hw9 ▸ Only.setRow (hwA ▸ (Only.refl _ _).alloc _) (.inr (by omega)) _
  have HZ2 : Hid (Cells w9 z2 67 [.int .i64 0, .int .i64 0, .int .i64 0, .int .i64 0, .int .i64 0, .int .i64 0, .int .i64 0, .bool false, .slice EC 0 eb, .int .i64 0, .int .i64 0, .slice VC 0 vb, .string ⟨#[]⟩, .string ⟨#[]⟩]) := Lib.hid (hw9 ▸ hAz.setRow [.int .i64 0, .int .i64 0, .int .i64 0, .int .i64 0, .int .i64 0, .int .i64 0, .int .i64 0, .bool false, .slice EC 0 eb, .int .i64 0, .int .i64 0, .slice VC 0 vb, .string ⟨#[]⟩, .string ⟨#[]⟩])
  have HO9 := Lib.hid (HO8.out.tr oA)
  clear hma hval C6 HO7 ho8 HK2
  go_wp2_with (refine wpList_store_row rfl 67 _ _ rfl z2 #[.int .i64 0, .int .i64 0, .int .i64 0, .int .i64 0, .int .i64 0, .int .i64 0, .int .i64 0, .bool false, .slice EC 0 eb, .int .i64 0, .int .i64 0, .slice VC 0 vb, .string ⟨#[]⟩, .string ⟨#[]⟩] rfl rfl 67 _ hAz (by kernel_rfl) rfl hone ?_)
  go_ret
  exact ⟨rfl, HO9.out⟩
end Go.Proofs.Ytagklgodcbmcaaa
