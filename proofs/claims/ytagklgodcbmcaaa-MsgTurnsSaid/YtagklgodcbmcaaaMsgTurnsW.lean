/-
  The walk over MsgTurns.
-/
import Derived.Test.YtagklgodcbmcaaaPlain7
namespace Go.Proofs.Ytagklgodcbmcaaa
open Go.RowKit
theorem MsAt.turn {w : World} {ev vv : Value} {m : Ms} (h : MsAt w ev vv m) : MsAt w ev vv m.turn := by
  refine ⟨h.ents, h.vots, ?_, h.we, h.wv, h.wd, h.wb⟩
  intro x hx
  refine h.ws x ?_
  simp only [Ms.turn, List.mem_cons, List.not_mem_nil, or_false] at hx ⊢
  rcases hx with rfl | rfl | rfl | rfl | rfl | rfl | rfl | rfl | rfl <;> simp
theorem MsAt.next {w : World} {ev vv : Value} {m : Ms} (h : MsAt w ev vv m) (hR : m.Right) : MsAt w ev vv m.next := by
  refine ⟨h.ents, h.vots, ?_, h.we, h.wv, h.wd, h.wb⟩
  intro x hx
  have ht := hR.ns m.tm (by simp)
  unfold In40 at ht
  simp only [Ms.next, List.mem_cons, List.not_mem_nil, or_false] at hx
  rcases hx with rfl | rfl | rfl | rfl | rfl | rfl | rfl | rfl | rfl
  case inr.inr.inr.inl => exact ⟨by omega, by omega⟩
  all_goals exact h.ws _ (by simp)
set_option maxRecDepth 100000 in
set_option maxHeartbeats 8000000 in
theorem msgTurns_walk (W : World) (v0 : Value) (m : Ms) (s0 : ∃ ev vv, v0 = m.val ev vv ∧ MsAt W ev vv m) (_ : True) :
    Calls Try.prog 14 #[v0] W fun e W' => e = .returned (.bool true) ∧ Only [] W W' := by
  obtain ⟨ev, vv, rfl, h⟩ := s0
  obtain ⟨EA, ec, rfl⟩ := h.ents.shape
  obtain ⟨VA, vc, rfl⟩ := h.vots.shape
  have H := Lib.hid h
  obtain ⟨w1, hw1⟩ : ∃ w1, W.alloc (.cells #[.int .i64 m.kd, .int .i64 m.fr, .int .i64 m.to, .int .i64 m.tm, .int .i64 m.ix, .int .i64 m.lt, .int .i64 m.cm, .bool m.ok, .slice EA m.es.length ec, .int .i64 m.b.ix, .int .i64 m.b.tm, .slice VA m.b.vs.length vc, .string m.b.d, .string m.d] 67) = w1 := ⟨_, rfl⟩
  obtain ⟨z, hz⟩ : ∃ z, W.heap.size = z := ⟨_, rfl⟩
  have O1 : Only [] W w1 := hw1 ▸ (Only.refl _ _).alloc _
  have a1 : Cells w1 z 67 (m.cells (.slice EA m.es.length ec) (.slice VA m.b.vs.length vc)) := hw1 ▸ hz ▸ Cells.new W _ _
  have C0 := Lib.hid (shown7 w1)
  have HO := Lib.hid O1
  have HZ := Lib.hid a1
  have CS := Lib.hid (fun w' (ho : Only [] W w') => small7 _ _ m w' (h.only ho))
  have CP := Lib.hid (fun w' (ho : Only [] W w') => msg_pack _ _ m w' (h.only ho))
  have CR := Lib.hid (fun w' (ho : Only [] W w') => msg_right _ _ m w' (h.only ho))
  have CX := Lib.hid (fun w' (ho : Only [] W w') => msg_pack _ _ m.turn w' (h.only ho).turn)
  have CY := Lib.hid (fun w' (ho : Only [] W w') (hR : m.Right) => msg_pack _ _ m.next w' ((h.only ho).next hR))
  have hval : m.val (.slice EA m.es.length ec) (.slice VA m.b.vs.length vc) = .agg #[.int .i64 m.kd, .int .i64 m.fr, .int .i64 m.to, .int .i64 m.tm, .int .i64 m.ix, .int .i64 m.lt, .int .i64 m.cm, .bool m.ok, .slice EA m.es.length ec, .int .i64 m.b.ix, .int .i64 m.b.tm, .slice VA m.b.vs.length vc, .string m.b.d, .string m.d] := rfl
  have hvx : m.turn.val (.slice EA m.turn.es.length ec) (.slice VA m.turn.b.vs.length vc) = .agg #[.int .i64 m.kd, .int .i64 m.to, .int .i64 m.fr, .int .i64 m.tm, .int .i64 m.ix, .int .i64 m.lt, .int .i64 m.cm, .bool (!m.ok), .slice EA m.es.length ec, .int .i64 m.b.ix, .int .i64 m.b.tm, .slice VA m.b.vs.length vc, .string m.b.d, .string m.d] := rfl
  have hvy : m.next.val (.slice EA m.next.es.length ec) (.slice VA m.next.b.vs.length vc) = .agg #[.int .i64 m.kd, .int .i64 m.fr, .int .i64 m.to, .int .i64 (m.tm + 1), .int .i64 m.ix, .int .i64 m.lt, .int .i64 m.cm, .bool m.ok, .slice EA m.es.length ec, .int .i64 m.b.ix, .int .i64 m.b.tm, .slice VA m.b.vs.length vc, .string m.b.d, .string m.d] := rfl
  have CX : Hid (∀ w' (_ : Only [] W w'), Calls Try.prog 42 #[m.turn.val (.slice EA m.turn.es.length ec) (.slice VA m.turn.b.vs.length vc)] w' (PackW m.turn w')) := CX
  have CY : Hid (∀ w' (_ : Only [] W w') (_ : m.Right), Calls Try.prog 42 #[m.next.val (.slice EA m.next.es.length ec) (.slice VA m.next.b.vs.length vc)] w' (PackW m.next w')) := CY
  rw [hval] at CS CP CR ⊢
  rw [hvx] at CX
  rw [hvy] at CY
  clear h a1 O1
  go_enter Try.func14, Try.ntmps14
  go_wp2_with fail
  clear hw1 hz
  refine C0.out.mono ?_
  rintro e w2 ⟨rfl, ho2⟩
  have HO2 := Lib.hid (HO.out.tr ho2)
  have hz2 := HZ.out.only ho2 (by simp)
  clear C0 HO HZ ho2
  go_wp2_with (refine wpList_load_row rfl 67 _ rfl z rfl 67 #[.int .i64 m.kd, .int .i64 m.fr, .int .i64 m.to, .int .i64 m.tm, .int .i64 m.ix, .int .i64 m.lt, .int .i64 m.cm, .bool m.ok, .slice EA m.es.length ec, .int .i64 m.b.ix, .int .i64 m.b.tm, .slice VA m.b.vs.length vc, .string m.b.d, .string m.d] (0, 0) _ hz2 Try.underlying67 rfl (by kernel_rfl) ?_)
  refine (CS.out w2 HO2.out).mono ?_
  rintro e w3 ⟨ok, rfl, hok, ho3⟩
  have HOK := Lib.hid hok
  have HO3 := Lib.hid (HO2.out.tr ho3)
  have hz3 := hz2.only ho3 (by simp)
  clear hz2 HO2 hok ho3 CS
  go_wp2_with (refine wpList_load_row rfl 67 _ rfl z rfl 67 #[.int .i64 m.kd, .int .i64 m.fr, .int .i64 m.to, .int .i64 m.tm, .int .i64 m.ix, .int .i64 m.lt, .int .i64 m.cm, .bool m.ok, .slice EA m.es.length ec, .int .i64 m.b.ix, .int .i64 m.b.tm, .slice VA m.b.vs.length vc, .string m.b.d, .string m.d] (0, 0) _ hz3 Try.underlying67 rfl (by kernel_rfl) ?_)
  refine (CR.out w3 HO3.out).mono ?_
  rintro e w4 ⟨rt, rfl, hrt, ho4⟩
  have HRT := Lib.hid hrt
  have HO4 := Lib.hid (HO3.out.tr ho4)
  have hz4 := hz3.only ho4 (by simp)
  clear hz3 HO3 hrt ho4 CR
  cases ok with
  | false =>
    go_wp2_with fail
    go_ret
    exact ⟨rfl, HO4.out⟩
  | true =>
  cases rt with
  | false =>
    go_wp2_with fail
    go_ret
    exact ⟨rfl, HO4.out⟩
  | true =>
  have hR := HRT.out.1 rfl
  have htm := hR.ns m.tm (by simp)
  unfold In40 at htm
  have hz4lt := hz4.lt
  obtain ⟨wA, hwA⟩ : ∃ wA, w4.alloc (.cells #[.int .i64 0, .int .i64 0, .int .i64 0, .int .i64 0, .int .i64 0, .int .i64 0, .int .i64 0, .bool false, .slice none 0 0, .int .i64 0, .int .i64 0, .slice none 0 0, .string ⟨#[]⟩, .string ⟨#[]⟩] 67) = wA := ⟨_, rfl⟩
  obtain ⟨x, hzx⟩ : ∃ z, w4.heap.size = z := ⟨_, rfl⟩
  have hAz : Cells wA x 67 [.int .i64 0, .int .i64 0, .int .i64 0, .int .i64 0, .int .i64 0, .int .i64 0, .int .i64 0, .bool false, .slice none 0 0, .int .i64 0, .int .i64 0, .slice none 0 0, .string ⟨#[]⟩, .string ⟨#[]⟩] := hwA ▸ hzx ▸ Cells.new w4 _ _
  obtain ⟨w5, hw5⟩ : ∃ w', wA.setRow x #[.int .i64 m.kd, .int .i64 m.fr, .int .i64 m.to, .int .i64 m.tm, .int .i64 m.ix, .int .i64 m.lt, .int .i64 m.cm, .bool m.ok, .slice EA m.es.length ec, .int .i64 m.b.ix, .int .i64 m.b.tm, .slice VA m.b.vs.length vc, .string m.b.d, .string m.d] = w' := ⟨_, rfl⟩
  have hone : (#[.int .i64 m.kd, .int .i64 m.fr, .int .i64 m.to, .int .i64 m.tm, .int .i64 m.ix, .int .i64 m.lt, .int .i64 m.cm, .bool m.ok, .slice EA m.es.length ec, .int .i64 m.b.ix, .int .i64 m.b.tm, .slice VA m.b.vs.length vc, .string m.b.d, .string m.d] : Array Value).all (·.oneCell') = true := by simp [Value.oneCell']
  have oA : Only [] w4 w5 := hw5 ▸ Only.setRow (hwA ▸ (Only.refl _ _).alloc _) (.inr (by omega)) _
  have HX5 : Hid (Cells w5 x 67 [.int .i64 m.kd, .int .i64 m.fr, .int .i64 m.to, .int .i64 m.tm, .int .i64 m.ix, .int .i64 m.lt, .int .i64 m.cm, .bool m.ok, .slice EA m.es.length ec, .int .i64 m.b.ix, .int .i64 m.b.tm, .slice VA m.b.vs.length vc, .string m.b.d, .string m.d]) := Lib.hid (hw5 ▸ hAz.setRow [.int .i64 m.kd, .int .i64 m.fr, .int .i64 m.to, .int .i64 m.tm, .int .i64 m.ix, .int .i64 m.lt, .int .i64 m.cm, .bool m.ok, .slice EA m.es.length ec, .int .i64 m.b.ix, .int .i64 m.b.tm, .slice VA m.b.vs.length vc, .string m.b.d, .string m.d])
  have HO5 := Lib.hid (HO4.out.tr oA)
  have hz5 := hz4.only oA (by simp)
  have hxz : z ≠ x := by omega
  have hWx : W.heap.size ≤ x := by have := HO4.out.size; omega
  obtain ⟨w6, hw6⟩ : ∃ w', w5.setCell ⟨x, 1, none⟩ (.int .i64 m.to) = w' := ⟨_, rfl⟩
  have hx6 : Cells w6 x 67 _ := hw6 ▸ HX5.out.set 1 (.int .i64 m.to)
  have hz6 : Cells w6 z 67 [.int .i64 m.kd, .int .i64 m.fr, .int .i64 m.to, .int .i64 m.tm, .int .i64 m.ix, .int .i64 m.lt, .int .i64 m.cm, .bool m.ok, .slice EA m.es.length ec, .int .i64 m.b.ix, .int .i64 m.b.tm, .slice VA m.b.vs.length vc, .string m.b.d, .string m.d] := hw6 ▸ hz5.far (p := ⟨x, 1, none⟩) hxz _
  have HO6 : Hid (Only [] W w6) := Lib.hid (hw6 ▸ HO5.out.setCell (p := ⟨x, 1, none⟩) (.inr hWx) _)
  obtain ⟨w7, hw7⟩ : ∃ w', w6.setCell ⟨x, 2, none⟩ (.int .i64 m.fr) = w' := ⟨_, rfl⟩
  have hx7 : Cells w7 x 67 _ := hw7 ▸ hx6.set 2 (.int .i64 m.fr)
  have hz7 : Cells w7 z 67 [.int .i64 m.kd, .int .i64 m.fr, .int .i64 m.to, .int .i64 m.tm, .int .i64 m.ix, .int .i64 m.lt, .int .i64 m.cm, .bool m.ok, .slice EA m.es.length ec, .int .i64 m.b.ix, .int .i64 m.b.tm, .slice VA m.b.vs.length vc, .string m.b.d, .string m.d] := hw7 ▸ hz6.far (p := ⟨x, 2, none⟩) hxz _
  have HO7 : Hid (Only [] W w7) := Lib.hid (hw7 ▸ HO6.out.setCell (p := ⟨x, 2, none⟩) (.inr hWx) _)
  obtain ⟨w8, hw8⟩ : ∃ w', w7.setCell ⟨x, 7, none⟩ (.bool (!m.ok)) = w' := ⟨_, rfl⟩
  have hx8 : Cells w8 x 67 [.int .i64 m.kd, .int .i64 m.to, .int .i64 m.fr, .int .i64 m.tm, .int .i64 m.ix, .int .i64 m.lt, .int .i64 m.cm, .bool (!m.ok), .slice EA m.es.length ec, .int .i64 m.b.ix, .int .i64 m.b.tm, .slice VA m.b.vs.length vc, .string m.b.d, .string m.d] := hw8 ▸ hx7.set 7 (.bool (!m.ok))
  have hz8 : Cells w8 z 67 [.int .i64 m.kd, .int .i64 m.fr, .int .i64 m.to, .int .i64 m.tm, .int .i64 m.ix, .int .i64 m.lt, .int .i64 m.cm, .bool m.ok, .slice EA m.es.length ec, .int .i64 m.b.ix, .int .i64 m.b.tm, .slice VA m.b.vs.length vc, .string m.b.d, .string m.d] := hw8 ▸ hz7.far (p := ⟨x, 7, none⟩) hxz _
  have HO8 : Hid (Only [] W w8) := Lib.hid (hw8 ▸ HO7.out.setCell (p := ⟨x, 7, none⟩) (.inr hWx) _)
  have r5 : w5.cell? ⟨z, 2, none⟩ = some (.int .i64 m.to) := hz5.cell (k := 2) rfl
  have r6 : w6.cell? ⟨z, 1, none⟩ = some (.int .i64 m.fr) := hz6.cell (k := 1) rfl
  have r7 : w7.cell? ⟨z, 7, none⟩ = some (.bool m.ok) := hz7.cell (k := 7) rfl
  have g5 := HX5.out.cell (k := 1) rfl
  have g6 := hx6.cell (k := 2) rfl
  have g7 := hx7.cell (k := 7) rfl
  have f5 := HX5.out.frozen 1
  have f6 := hx6.frozen 2
  have f7 := hx7.frozen 7
  have l5 := HX5.out.lt
  have l6 := hx6.lt
  have l7 := hx7.lt
  go_wp2_with (first
    | (refine wpList_load_row rfl 67 _ rfl z rfl 67 #[.int .i64 m.kd, .int .i64 m.fr, .int .i64 m.to, .int .i64 m.tm, .int .i64 m.ix, .int .i64 m.lt, .int .i64 m.cm, .bool m.ok, .slice EA m.es.length ec, .int .i64 m.b.ix, .int .i64 m.b.tm, .slice VA m.b.vs.length vc, .string m.b.d, .string m.d] (0, 0) _ hz4 Try.underlying67 rfl (by kernel_rfl) ?_)
    | (refine wpList_store_row rfl 67 _ _ rfl x #[.int .i64 m.kd, .int .i64 m.fr, .int .i64 m.to, .int .i64 m.tm, .int .i64 m.ix, .int .i64 m.lt, .int .i64 m.cm, .bool m.ok, .slice EA m.es.length ec, .int .i64 m.b.ix, .int .i64 m.b.tm, .slice VA m.b.vs.length vc, .string m.b.d, .string m.d] rfl rfl 67 _ hAz (by kernel_rfl) rfl hone ?_)
    | (refine wpList_load_row rfl 67 _ rfl z rfl 67 #[.int .i64 m.kd, .int .i64 m.fr, .int .i64 m.to, .int .i64 m.tm, .int .i64 m.ix, .int .i64 m.lt, .int .i64 m.cm, .bool m.ok, .slice EA m.es.length ec, .int .i64 m.b.ix, .int .i64 m.b.tm, .slice VA m.b.vs.length vc, .string m.b.d, .string m.d] (0, 0) _ hz8 Try.underlying67 rfl (by kernel_rfl) ?_))
  clear hwA hzx hw5 hw6 hw7 hw8 r5 r6 r7 g5 g6 g7 f5 f6 f7 l5 l6 l7 hAz hone oA hz4 hz5 hz6 hz7 hx6 hx7
  refine (CP.out w8 HO8.out).mono ?_
  rintro e w9 ⟨b, hb, rfl, ho9⟩
  obtain rfl : b = true := hb.2 hR
  simp only [if_true]
  have HO9 := Lib.hid (HO8.out.tr ho9)
  have hz9 := hz8.only ho9 (by simp)
  have hx9 := hx8.only ho9 (by simp)
  clear hb ho9 hz8 hx8 HO4 HO5 HO6 HO7 HO8 CP
  go_wp2_with (refine wpList_load_row rfl 67 _ rfl x rfl 67 #[.int .i64 m.kd, .int .i64 m.to, .int .i64 m.fr, .int .i64 m.tm, .int .i64 m.ix, .int .i64 m.lt, .int .i64 m.cm, .bool (!m.ok), .slice EA m.es.length ec, .int .i64 m.b.ix, .int .i64 m.b.tm, .slice VA m.b.vs.length vc, .string m.b.d, .string m.d] (0, 0) _ hx9 Try.underlying67 rfl (by kernel_rfl) ?_)
  refine (CX.out w9 HO9.out).mono ?_
  rintro e w10 ⟨b, hb, rfl, ho10⟩
  obtain rfl : b = true := hb.2 (turn_right hR)
  simp only [if_true]
  have HO10 := Lib.hid (HO9.out.tr ho10)
  have hz10 := hz9.only ho10 (by simp)
  have hln := turn_len m
  have hne := turn_ne hR
  obtain ⟨S, hS⟩ : ∃ S, msb m = S := ⟨_, rfl⟩
  obtain ⟨S2, hS2⟩ : ∃ S, msb m.turn = S := ⟨_, rfl⟩
  rw [hS, hS2] at hln hne
  rw [hS2]
  rw [hS]
  have hzl := hz10.lt
  clear hb ho10 hz9 hx9 HO9 CX hS hS2
  obtain ⟨wA, hwA⟩ : ∃ wA, w10.alloc (.cells #[.int .i64 0, .int .i64 0, .int .i64 0, .int .i64 0, .int .i64 0, .int .i64 0, .int .i64 0, .bool false, .slice none 0 0, .int .i64 0, .int .i64 0, .slice none 0 0, .string ⟨#[]⟩, .string ⟨#[]⟩] 67) = wA := ⟨_, rfl⟩
  obtain ⟨y, hzy⟩ : ∃ z, w10.heap.size = z := ⟨_, rfl⟩
  have hAz : Cells wA y 67 [.int .i64 0, .int .i64 0, .int .i64 0, .int .i64 0, .int .i64 0, .int .i64 0, .int .i64 0, .bool false, .slice none 0 0, .int .i64 0, .int .i64 0, .slice none 0 0, .string ⟨#[]⟩, .string ⟨#[]⟩] := hwA ▸ hzy ▸ Cells.new w10 _ _
  obtain ⟨w11, hw11⟩ : ∃ w', wA.setRow y #[.int .i64 m.kd, .int .i64 m.fr, .int .i64 m.to, .int .i64 m.tm, .int .i64 m.ix, .int .i64 m.lt, .int .i64 m.cm, .bool m.ok, .slice EA m.es.length ec, .int .i64 m.b.ix, .int .i64 m.b.tm, .slice VA m.b.vs.length vc, .string m.b.d, .string m.d] = w' := ⟨_, rfl⟩
  have hone : (#[.int .i64 m.kd, .int .i64 m.fr, .int .i64 m.to, .int .i64 m.tm, .int .i64 m.ix, .int .i64 m.lt, .int .i64 m.cm, .bool m.ok, .slice EA m.es.length ec, .int .i64 m.b.ix, .int .i64 m.b.tm, .slice VA m.b.vs.length vc, .string m.b.d, .string m.d] : Array Value).all (·.oneCell') = true := by simp [Value.oneCell']
  have oA : Only [] w10 w11 := hw11 ▸ Only.setRow (hwA ▸ (Only.refl _ _).alloc _) (.inr (by omega)) _
  have HY11 : Hid (Cells w11 y 67 [.int .i64 m.kd, .int .i64 m.fr, .int .i64 m.to, .int .i64 m.tm, .int .i64 m.ix, .int .i64 m.lt, .int .i64 m.cm, .bool m.ok, .slice EA m.es.length ec, .int .i64 m.b.ix, .int .i64 m.b.tm, .slice VA m.b.vs.length vc, .string m.b.d, .string m.d]) := Lib.hid (hw11 ▸ hAz.setRow [.int .i64 m.kd, .int .i64 m.fr, .int .i64 m.to, .int .i64 m.tm, .int .i64 m.ix, .int .i64 m.lt, .int .i64 m.cm, .bool m.ok, .slice EA m.es.length ec, .int .i64 m.b.ix, .int .i64 m.b.tm, .slice VA m.b.vs.length vc, .string m.b.d, .string m.d])
  have HO11 := Lib.hid (HO10.out.tr oA)
  have hz11 := hz10.only oA (by simp)
  have hyz : z ≠ y := by omega
  have hWy : W.heap.size ≤ y := by have := HO10.out.size; omega
  obtain ⟨w12, hw12⟩ : ∃ w', w11.setCell ⟨y, 3, none⟩ (.int .i64 (m.tm + 1)) = w' := ⟨_, rfl⟩
  have hy12 : Cells w12 y 67 [.int .i64 m.kd, .int .i64 m.fr, .int .i64 m.to, .int .i64 (m.tm + 1), .int .i64 m.ix, .int .i64 m.lt, .int .i64 m.cm, .bool m.ok, .slice EA m.es.length ec, .int .i64 m.b.ix, .int .i64 m.b.tm, .slice VA m.b.vs.length vc, .string m.b.d, .string m.d] := hw12 ▸ HY11.out.set 3 (.int .i64 (m.tm + 1))
  have hz12 : Cells w12 z 67 [.int .i64 m.kd, .int .i64 m.fr, .int .i64 m.to, .int .i64 m.tm, .int .i64 m.ix, .int .i64 m.lt, .int .i64 m.cm, .bool m.ok, .slice EA m.es.length ec, .int .i64 m.b.ix, .int .i64 m.b.tm, .slice VA m.b.vs.length vc, .string m.b.d, .string m.d] := hw12 ▸ hz11.far (p := ⟨y, 3, none⟩) hyz _
  have HO12 : Hid (Only [] W w12) := Lib.hid (hw12 ▸ HO11.out.setCell (p := ⟨y, 3, none⟩) (.inr hWy) _)
  have r11 : w11.cell? ⟨z, 3, none⟩ = some (.int .i64 m.tm) := hz11.cell (k := 3) rfl
  have g11 := HY11.out.cell (k := 3) rfl
  have f11 := HY11.out.frozen 3
  have l11 := HY11.out.lt
  go_wp2_with (first
    | (refine wpList_load_row rfl 67 _ rfl z rfl 67 #[.int .i64 m.kd, .int .i64 m.fr, .int .i64 m.to, .int .i64 m.tm, .int .i64 m.ix, .int .i64 m.lt, .int .i64 m.cm, .bool m.ok, .slice EA m.es.length ec, .int .i64 m.b.ix, .int .i64 m.b.tm, .slice VA m.b.vs.length vc, .string m.b.d, .string m.d] (0, 0) _ hz10 Try.underlying67 rfl (by kernel_rfl) ?_)
    | (refine wpList_store_row rfl 67 _ _ rfl y #[.int .i64 m.kd, .int .i64 m.fr, .int .i64 m.to, .int .i64 m.tm, .int .i64 m.ix, .int .i64 m.lt, .int .i64 m.cm, .bool m.ok, .slice EA m.es.length ec, .int .i64 m.b.ix, .int .i64 m.b.tm, .slice VA m.b.vs.length vc, .string m.b.d, .string m.d] rfl rfl 67 _ hAz (by kernel_rfl) rfl hone ?_)
    | (refine wpList_load_row rfl 67 _ rfl y rfl 67 #[.int .i64 m.kd, .int .i64 m.fr, .int .i64 m.to, .int .i64 (m.tm + 1), .int .i64 m.ix, .int .i64 m.lt, .int .i64 m.cm, .bool m.ok, .slice EA m.es.length ec, .int .i64 m.b.ix, .int .i64 m.b.tm, .slice VA m.b.vs.length vc, .string m.b.d, .string m.d] (0, 0) _ hy12 Try.underlying67 rfl (by kernel_rfl) ?_))
  clear hwA hzy hw11 hw12 r11 g11 f11 l11 hAz hone oA hz10 hz11
  refine (CY.out w12 HO12.out hR).mono ?_
  rintro e w13 ⟨b, hb, rfl, ho13⟩
  have hb2 := hb.trans (next_right hR)
  have HO13 := Lib.hid (HO12.out.tr ho13)
  have r13 : w13.cell? ⟨z, 3, none⟩ = some (.int .i64 m.tm) := (hz12.only ho13 (by simp)).cell (k := 3) rfl
  obtain ⟨U, hU⟩ : ∃ U, (if b = true then msb m.next else []) = U := ⟨_, rfl⟩
  rw [hU]
  clear hU hb ho13 hz12 hy12 HO10 HO11 HO12 CY
  have e1 : ((S.length : Int) == (S2.length : Int)) = true := by rw [hln]; exact beq_self_eq_true _
  have e2 : (S == S2) = false := by simpa using hne
  cases b with
  | false =>
    simp only [Bool.false_eq_true, if_false]
    have e3 : decide (m.tm < 1099511627776) = false := by
      have : ¬ m.tm < 1099511627776 := fun h => by cases hb2.2 h
      simpa using this
    clear hb2 htm
    go_wp2_with fail
    go_ret
    exact ⟨rfl, HO13.out⟩
  | true =>
    simp only [if_true]
    have e3 : decide (m.tm < 1099511627776) = true := decide_eq_true (hb2.1 rfl)
    clear hb2 htm
    go_wp2_with fail
    go_ret
    exact ⟨rfl, HO13.out⟩
end Go.Proofs.Ytagklgodcbmcaaa
