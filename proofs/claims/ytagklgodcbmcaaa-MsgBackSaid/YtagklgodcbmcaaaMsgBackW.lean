/-
  The walk over MsgBack.
-/
import Derived.Test.YtagklgodcbmcaaaPlain7
import Derived.Test.YtagklgodcbmcaaaReads7
import Derived.Test.YtagklgodcbmcaaaOpenI7
namespace Go.Proofs.Ytagklgodcbmcaaa
open Go.RowKit
set_option maxRecDepth 100000 in
set_option maxHeartbeats 8000000 in
theorem msgBack_walk (W : World) (v0 : Value) (m : Ms) (s0 : ∃ ev vv, v0 = m.val ev vv ∧ MsAt W ev vv m) (_ : True) (s : ByteArray) (hs0 : s.size ≤ maxLen) (v1 : Value) (l : List Int) (s1 : SlAt W W.heap.size v1 1 l.length (gvs l)) (g1 : ∀ x ∈ l, Wide64 x) :
    Calls Try.prog 11 #[v0, .string s, v1] W fun e W' => e = .returned (.bool true) ∧ Only [] W W' := by
  obtain ⟨ev, vv, rfl, h⟩ := s0
  obtain ⟨EA, ec, rfl⟩ := h.ents.shape
  obtain ⟨VA, vc, rfl⟩ := h.vots.shape
  obtain ⟨ls, rfl, hls⟩ := str_of s
  rw [hls] at hs0
  unfold maxLen at hs0
  clear hls
  have HL := Lib.hid s1
  have HG := Lib.hid g1
  have hll : l.length ≤ 9223372036854775807 := by obtain ⟨_, _, _, _, _, h2, _⟩ := s1; unfold maxLen at h2; omega
  obtain ⟨LA, lc, rfl⟩ := s1.shape
  clear s1 g1
  have H := Lib.hid h
  obtain ⟨w1, hw1⟩ : ∃ w1, W.alloc (.cells #[.int .i64 m.kd, .int .i64 m.fr, .int .i64 m.to, .int .i64 m.tm, .int .i64 m.ix, .int .i64 m.lt, .int .i64 m.cm, .bool m.ok, .slice EA m.es.length ec, .int .i64 m.b.ix, .int .i64 m.b.tm, .slice VA m.b.vs.length vc, .string m.b.d, .string m.d] 67) = w1 := ⟨_, rfl⟩
  obtain ⟨z, hz⟩ : ∃ z, W.heap.size = z := ⟨_, rfl⟩
  have O1 : Only [] W w1 := hw1 ▸ (Only.refl _ _).alloc _
  have a1 : Cells w1 z 67 (m.cells (.slice EA m.es.length ec) (.slice VA m.b.vs.length vc)) := hw1 ▸ hz ▸ Cells.new W _ _
  have C0 := Lib.hid (shown7 w1)
  have HO := Lib.hid O1
  have HZ := Lib.hid a1
  have CS := Lib.hid (fun w' (ho : Only [] W w') => small7 _ _ m w' (h.only ho))
  have CP := Lib.hid (fun w' (ho : Only [] W w') => msg_pack _ _ m w' (h.only ho))
  have hval : m.val (.slice EA m.es.length ec) (.slice VA m.b.vs.length vc) = .agg #[.int .i64 m.kd, .int .i64 m.fr, .int .i64 m.to, .int .i64 m.tm, .int .i64 m.ix, .int .i64 m.lt, .int .i64 m.cm, .bool m.ok, .slice EA m.es.length ec, .int .i64 m.b.ix, .int .i64 m.b.tm, .slice VA m.b.vs.length vc, .string m.b.d, .string m.d] := rfl
  rw [hval] at CS CP ⊢
  clear h a1 O1
  go_enter Try.func11, Try.ntmps11
  go_wp2_with fail
  clear hw1 hz
  refine C0.out.mono ?_
  rintro e w2 ⟨rfl, ho2⟩
  have HO2 := Lib.hid (HO.out.tr ho2)
  have hz2 := HZ.out.only ho2 (by simp)
  clear C0 HO HZ ho2
  go_wp2_with (refine wpList_load_row rfl 67 _ rfl z rfl 67 #[.int .i64 m.kd, .int .i64 m.fr, .int .i64 m.to, .int .i64 m.tm, .int .i64 m.ix, .int .i64 m.lt, .int .i64 m.cm, .bool m.ok, .slice EA m.es.length ec, .int .i64 m.b.ix, .int .i64 m.b.tm, .slice VA m.b.vs.length vc, .string m.b.d, .string m.d] (0, 0) _ hz2 Try.underlying67 rfl (by kernel_rfl) ?_)
  refine (CS.out w2 HO2.out).mono ?_
  rintro e w3 ⟨ok, rfl, hok, ho3⟩
  have HOK := Lib.hid hok
  have HO3 := Lib.hid (HO2.out.tr ho3)
  have hz3 := hz2.only ho3 (by simp)
  clear hz2 HO2 hok ho3 CS
  cases ok with
  | false =>
    go_wp2_with fail
    go_ret
    exact ⟨rfl, HO3.out⟩
  | true =>
  by_cases h1 : 3000 < ls.length
  · have d1 : decide ((3000 : Int) < (ls.length : Int)) = true := by simp; omega
    go_wp2_with fail
    go_ret
    exact ⟨rfl, HO3.out⟩
  have d1 : decide ((3000 : Int) < (ls.length : Int)) = false := by simp; omega
  by_cases h2 : 9 < l.length
  · have d2 : decide ((9 : Int) < (l.length : Int)) = true := by simp; omega
    go_wp2_with fail
    go_ret
    exact ⟨rfl, HO3.out⟩
  have d2 : decide ((9 : Int) < (l.length : Int)) = false := by simp; omega
  have hsm := HOK.out.1 rfl
  have hvf := vs_front (s := ls) (l := l) (by omega) HG.out
  have hVl : (vtx l).length ≤ 100 := by
    have h3 : (isb l).length ≤ 10 * 9 := isb_bound l HG.out 9 (by omega)
    have h4 := (ib_length (l.length : Int) ⟨by omega, by omega⟩).2
    unfold vtx
    rw [List.length_append]; omega
  have hls : ls.length ≤ 3000 := by omega
  have CV2 := Lib.hid (fun w' => msg_toVoters (vtx l ++ ls) w' (by rw [List.length_append]; omega))
  rw [show vsL (vtx l ++ ls) = l from by unfold vsL; rw [hvf], show vsR (vtx l ++ ls) = ls from by unfold vsR; rw [hvf], hvf] at CV2
  have CU2 := Lib.hid (fun w' => msg_unpack ls w' (by omega))
  have CV1 := Lib.hid (fun w' (ho : Only [] W w') => msg_voters _ l w' ((HL.out.only ho (Nat.le_refl _) (by simp)).more ho.size) HG.out (by omega))
  obtain ⟨V, hV⟩ : ∃ V, vtx l = V := ⟨_, rfl⟩
  rw [hV] at hVl CV1 CV2
  go_wp2_with (refine wpList_load_row rfl 67 _ rfl z rfl 67 #[.int .i64 m.kd, .int .i64 m.fr, .int .i64 m.to, .int .i64 m.tm, .int .i64 m.ix, .int .i64 m.lt, .int .i64 m.cm, .bool m.ok, .slice EA m.es.length ec, .int .i64 m.b.ix, .int .i64 m.b.tm, .slice VA m.b.vs.length vc, .string m.b.d, .string m.d] (0, 0) _ hz3 Try.underlying67 rfl (by kernel_rfl) ?_)
  refine (CP.out w3 HO3.out).mono ?_
  rintro e w4 ⟨b, hb, rfl, ho4⟩
  have HO4 := Lib.hid (HO3.out.tr ho4)
  have hz4 := hz3.only ho4 (by simp)
  clear HO3 ho4 CP hz3 hvf hV
  cases b with
  | false =>
    simp only [Bool.false_eq_true, if_false]
    go_wp2_with fail
    refine (CV1.out w4 HO4.out).mono ?_
    rintro e u1 ⟨rfl, hu1⟩
    have HU1 := Lib.hid (HO4.out.tr hu1)
    clear hu1
    go_wp2_with fail
    refine (CV2.out u1).mono ?_
    rintro e u2 ⟨v2, rfl, hv2, hu2⟩
    obtain ⟨BA, bc, rfl⟩ := (SlAt.of_own hv2).shape
    have HV2 := Lib.hid (SlAt.of_own hv2)
    have HU2 := Lib.hid (HU1.out.tr hu2)
    have CI := Lib.hid (ints7 _ _ l l u2 HV2.out ((HL.out.only HU2.out (Nat.le_refl _) (by simp)).more HU2.out.size) (by omega) (by omega))
    rw [show decide (l = l) = true from decide_eq_true rfl] at CI
    have e1 : (ls == ls) = true := beq_self_eq_true _
    clear hv2 hu2 HU1
    go_wp2_with fail
    refine CI.out.mono ?_
    rintro e u3 ⟨rfl, hu3⟩
    have HU3 := Lib.hid (HU2.out.tr hu3)
    clear HU2 hu3 CI e1 HV2
    go_wp2_with fail
    refine (CU2.out u3).mono ?_
    rintro e u4 ⟨o, ev, vv, ho, rfl, hma, hu4⟩
    have HU4 := Lib.hid (HU3.out.tr hu4)
    cases o with
    | none =>
      obtain ⟨EC, ed, rfl⟩ := hma.ents.shape
      obtain ⟨VC, vd, rfl⟩ := hma.vots.shape
      have hval : ((none : Option Ms).getD Ms.zero).val (.slice EC ((none : Option Ms).getD Ms.zero).es.length ed) (.slice VC ((none : Option Ms).getD Ms.zero).b.vs.length vd) = .agg #[.int .i64 0, .int .i64 0, .int .i64 0, .int .i64 0, .int .i64 0, .int .i64 0, .int .i64 0, .bool false, .slice EC 0 ed, .int .i64 0, .int .i64 0, .slice VC 0 vd, .string ⟨#[]⟩, .string ⟨#[]⟩] := rfl
      rw [hval]
      obtain ⟨wA, hwA⟩ : ∃ wA, u4.alloc (.cells #[.int .i64 0, .int .i64 0, .int .i64 0, .int .i64 0, .int .i64 0, .int .i64 0, .int .i64 0, .bool false, .slice none 0 0, .int .i64 0, .int .i64 0, .slice none 0 0, .string ⟨#[]⟩, .string ⟨#[]⟩] 67) = wA := ⟨_, rfl⟩
      obtain ⟨y, hzy⟩ : ∃ z, u4.heap.size = z := ⟨_, rfl⟩
      have hAz : Cells wA y 67 [.int .i64 0, .int .i64 0, .int .i64 0, .int .i64 0, .int .i64 0, .int .i64 0, .int .i64 0, .bool false, .slice none 0 0, .int .i64 0, .int .i64 0, .slice none 0 0, .string ⟨#[]⟩, .string ⟨#[]⟩] := hwA ▸ hzy ▸ Cells.new u4 _ _
      obtain ⟨u5, hu5⟩ : ∃ w', wA.setRow y #[.int .i64 0, .int .i64 0, .int .i64 0, .int .i64 0, .int .i64 0, .int .i64 0, .int .i64 0, .bool false, .slice EC 0 ed, .int .i64 0, .int .i64 0, .slice VC 0 vd, .string ⟨#[]⟩, .string ⟨#[]⟩] = w' := ⟨_, rfl⟩
      have hone : (#[.int .i64 0, .int .i64 0, .int .i64 0, .int .i64 0, .int .i64 0, .int .i64 0, .int .i64 0, .bool false, .slice EC 0 ed, .int .i64 0, .int .i64 0, .slice VC 0 vd, .string ⟨#[]⟩, .string ⟨#[]⟩] : Array Value).all (·.oneCell') = true := by simp [Value.oneCell']
      have oA : Only [] u4 u5 := hu5 ▸ Only.setRow (hwA ▸ (Only.refl _ _).alloc _) (.inr (by omega)) _
      have HY5 : Hid (Cells u5 y 67 [.int .i64 0, .int .i64 0, .int .i64 0, .int .i64 0, .int .i64 0, .int .i64 0, .int .i64 0, .bool false, .slice EC 0 ed, .int .i64 0, .int .i64 0, .slice VC 0 vd, .string ⟨#[]⟩, .string ⟨#[]⟩]) := Lib.hid (hu5 ▸ hAz.setRow [.int .i64 0, .int .i64 0, .int .i64 0, .int .i64 0, .int .i64 0, .int .i64 0, .int .i64 0, .bool false, .slice EC 0 ed, .int .i64 0, .int .i64 0, .slice VC 0 vd, .string ⟨#[]⟩, .string ⟨#[]⟩])
      have HU5 := Lib.hid (HU4.out.tr oA)
      have r0 := HY5.out.cell (k := 0) rfl
      have r8 := HY5.out.cell (k := 8) rfl
      clear hma hval HU3 hu4
      go_wp2_with (refine wpList_store_row rfl 67 _ _ rfl y #[.int .i64 0, .int .i64 0, .int .i64 0, .int .i64 0, .int .i64 0, .int .i64 0, .int .i64 0, .bool false, .slice EC 0 ed, .int .i64 0, .int .i64 0, .slice VC 0 vd, .string ⟨#[]⟩, .string ⟨#[]⟩] rfl rfl 67 _ hAz (by kernel_rfl) rfl hone ?_)
      go_ret
      exact ⟨rfl, HU5.out⟩
    | some n =>
      have hn := (ho n).1 rfl
      have hma : MsAt u4 ev vv n := hma
      have hgd : ((some n : Option Ms).getD Ms.zero).val ev vv = n.val ev vv := rfl
      rw [hgd]
      clear hgd
      obtain ⟨EC, ed, rfl⟩ := hma.ents.shape
      obtain ⟨VC, vd, rfl⟩ := hma.vots.shape
      have hval : n.val (.slice EC n.es.length ed) (.slice VC n.b.vs.length vd) = .agg #[.int .i64 n.kd, .int .i64 n.fr, .int .i64 n.to, .int .i64 n.tm, .int .i64 n.ix, .int .i64 n.lt, .int .i64 n.cm, .bool n.ok, .slice EC n.es.length ed, .int .i64 n.b.ix, .int .i64 n.b.tm, .slice VC n.b.vs.length vd, .string n.b.d, .string n.d] := rfl
      rw [hval]
      obtain ⟨wA, hwA⟩ : ∃ wA, u4.alloc (.cells #[.int .i64 0, .int .i64 0, .int .i64 0, .int .i64 0, .int .i64 0, .int .i64 0, .int .i64 0, .bool false, .slice none 0 0, .int .i64 0, .int .i64 0, .slice none 0 0, .string ⟨#[]⟩, .string ⟨#[]⟩] 67) = wA := ⟨_, rfl⟩
      obtain ⟨y, hzy⟩ : ∃ z, u4.heap.size = z := ⟨_, rfl⟩
      have hAz : Cells wA y 67 [.int .i64 0, .int .i64 0, .int .i64 0, .int .i64 0, .int .i64 0, .int .i64 0, .int .i64 0, .bool false, .slice none 0 0, .int .i64 0, .int .i64 0, .slice none 0 0, .string ⟨#[]⟩, .string ⟨#[]⟩] := hwA ▸ hzy ▸ Cells.new u4 _ _
      obtain ⟨u5, hu5⟩ : ∃ w', wA.setRow y #[.int .i64 n.kd, .int .i64 n.fr, .int .i64 n.to, .int .i64 n.tm, .int .i64 n.ix, .int .i64 n.lt, .int .i64 n.cm, .bool n.ok, .slice EC n.es.length ed, .int .i64 n.b.ix, .int .i64 n.b.tm, .slice VC n.b.vs.length vd, .string n.b.d, .string n.d] = w' := ⟨_, rfl⟩
      have hone : (#[.int .i64 n.kd, .int .i64 n.fr, .int .i64 n.to, .int .i64 n.tm, .int .i64 n.ix, .int .i64 n.lt, .int .i64 n.cm, .bool n.ok, .slice EC n.es.length ed, .int .i64 n.b.ix, .int .i64 n.b.tm, .slice VC n.b.vs.length vd, .string n.b.d, .string n.d] : Array Value).all (·.oneCell') = true := by simp [Value.oneCell']
      have oA : Only [] u4 u5 := hu5 ▸ Only.setRow (hwA ▸ (Only.refl _ _).alloc _) (.inr (by omega)) _
      have HY5 : Hid (Cells u5 y 67 [.int .i64 n.kd, .int .i64 n.fr, .int .i64 n.to, .int .i64 n.tm, .int .i64 n.ix, .int .i64 n.lt, .int .i64 n.cm, .bool n.ok, .slice EC n.es.length ed, .int .i64 n.b.ix, .int .i64 n.b.tm, .slice VC n.b.vs.length vd, .string n.b.d, .string n.d]) := Lib.hid (hu5 ▸ hAz.setRow [.int .i64 n.kd, .int .i64 n.fr, .int .i64 n.to, .int .i64 n.tm, .int .i64 n.ix, .int .i64 n.lt, .int .i64 n.cm, .bool n.ok, .slice EC n.es.length ed, .int .i64 n.b.ix, .int .i64 n.b.tm, .slice VC n.b.vs.length vd, .string n.b.d, .string n.d])
      have HU5 := Lib.hid (HU4.out.tr oA)
      have CQ := Lib.hid (msg_pack _ _ n u5 (hma.only oA))
      rw [hval] at CQ
      have hy5 := HY5.out
      clear hma hval HU3 hu4
      go_wp2_with (first
        | (refine wpList_load_row rfl 67 _ rfl y rfl 67 #[.int .i64 n.kd, .int .i64 n.fr, .int .i64 n.to, .int .i64 n.tm, .int .i64 n.ix, .int .i64 n.lt, .int .i64 n.cm, .bool n.ok, .slice EC n.es.length ed, .int .i64 n.b.ix, .int .i64 n.b.tm, .slice VC n.b.vs.length vd, .string n.b.d, .string n.d] (0, 0) _ hy5 Try.underlying67 rfl (by kernel_rfl) ?_)
        | (refine wpList_store_row rfl 67 _ _ rfl y #[.int .i64 n.kd, .int .i64 n.fr, .int .i64 n.to, .int .i64 n.tm, .int .i64 n.ix, .int .i64 n.lt, .int .i64 n.cm, .bool n.ok, .slice EC n.es.length ed, .int .i64 n.b.ix, .int .i64 n.b.tm, .slice VC n.b.vs.length vd, .string n.b.d, .string n.d] rfl rfl 67 _ hAz (by kernel_rfl) rfl hone ?_))
      clear hwA hzy hu5 hAz hone oA
      refine CQ.out.mono ?_
      rintro e u6 ⟨b, hb, rfl, hu6⟩
      obtain rfl : b = true := hb.2 hn.1
      have HU6 := Lib.hid (HU5.out.tr hu6)
      simp only [if_true, hn.2]
      have e1 : (ls == ls) = true := beq_self_eq_true _
      clear hb hu6 CQ
      go_wp2_with fail
      go_ret
      exact ⟨rfl, HU6.out⟩
  | true =>
  have hR := hb.1 rfl
  simp only [if_true]
  have CU := Lib.hid (fun w' => msg_unpack (msb m) w' (by have := (msb_bound hR).2; omega))
  have KU : Hid (∀ o : Option Ms, (∀ m', o = some m' ↔ m'.Right ∧ msb m' = msb m) → o = some m) := Lib.hid (fun o ho => (ho m).2 ⟨hR, rfl⟩)
  obtain ⟨S, hS⟩ : ∃ S, msb m = S := ⟨_, rfl⟩
  rw [hS] at CU KU ⊢
  clear hS
  go_wp2_with fail
  refine (CU.out w4).mono ?_
  rintro e w5 ⟨o, ev, vv, ho, rfl, hma, ho5⟩
  obtain rfl := KU.out o ho
  have HO5 := Lib.hid (HO4.out.tr ho5)
  have hz5 := hz4.only ho5 (by simp)
  have hma : MsAt w5 ev vv m := hma
  have hgd : ((some m : Option Ms).getD Ms.zero).val ev vv = m.val ev vv := rfl
  rw [hgd]
  clear hgd ho
  obtain ⟨EB, eb, rfl⟩ := hma.ents.shape
  obtain ⟨VB, vb, rfl⟩ := hma.vots.shape
  have hval : m.val (.slice EB m.es.length eb) (.slice VB m.b.vs.length vb) = .agg #[.int .i64 m.kd, .int .i64 m.fr, .int .i64 m.to, .int .i64 m.tm, .int .i64 m.ix, .int .i64 m.lt, .int .i64 m.cm, .bool m.ok, .slice EB m.es.length eb, .int .i64 m.b.ix, .int .i64 m.b.tm, .slice VB m.b.vs.length vb, .string m.b.d, .string m.d] := rfl
  rw [hval]
  obtain ⟨wA, hwA⟩ : ∃ wA, w5.alloc (.cells #[.int .i64 0, .int .i64 0, .int .i64 0, .int .i64 0, .int .i64 0, .int .i64 0, .int .i64 0, .bool false, .slice none 0 0, .int .i64 0, .int .i64 0, .slice none 0 0, .string ⟨#[]⟩, .string ⟨#[]⟩] 67) = wA := ⟨_, rfl⟩
  obtain ⟨x, hzx⟩ : ∃ z, w5.heap.size = z := ⟨_, rfl⟩
  have hAz : Cells wA x 67 [.int .i64 0, .int .i64 0, .int .i64 0, .int .i64 0, .int .i64 0, .int .i64 0, .int .i64 0, .bool false, .slice none 0 0, .int .i64 0, .int .i64 0, .slice none 0 0, .string ⟨#[]⟩, .string ⟨#[]⟩] := hwA ▸ hzx ▸ Cells.new w5 _ _
  obtain ⟨w6, hw6⟩ : ∃ w', wA.setRow x #[.int .i64 m.kd, .int .i64 m.fr, .int .i64 m.to, .int .i64 m.tm, .int .i64 m.ix, .int .i64 m.lt, .int .i64 m.cm, .bool m.ok, .slice EB m.es.length eb, .int .i64 m.b.ix, .int .i64 m.b.tm, .slice VB m.b.vs.length vb, .string m.b.d, .string m.d] = w' := ⟨_, rfl⟩
  have hone : (#[.int .i64 m.kd, .int .i64 m.fr, .int .i64 m.to, .int .i64 m.tm, .int .i64 m.ix, .int .i64 m.lt, .int .i64 m.cm, .bool m.ok, .slice EB m.es.length eb, .int .i64 m.b.ix, .int .i64 m.b.tm, .slice VB m.b.vs.length vb, .string m.b.d, .string m.d] : Array Value).all (·.oneCell') = true := by simp [Value.oneCell']
  have oA : Only [] w5 w6 := hw6 ▸ Only.setRow (hwA ▸ (Only.refl _ _).alloc _) (.inr (by omega)) _
  have HX6 : Hid (Cells w6 x 67 [.int .i64 m.kd, .int .i64 m.fr, .int .i64 m.to, .int .i64 m.tm, .int .i64 m.ix, .int .i64 m.lt, .int .i64 m.cm, .bool m.ok, .slice EB m.es.length eb, .int .i64 m.b.ix, .int .i64 m.b.tm, .slice VB m.b.vs.length vb, .string m.b.d, .string m.d]) := Lib.hid (hw6 ▸ hAz.setRow [.int .i64 m.kd, .int .i64 m.fr, .int .i64 m.to, .int .i64 m.tm, .int .i64 m.ix, .int .i64 m.lt, .int .i64 m.cm, .bool m.ok, .slice EB m.es.length eb, .int .i64 m.b.ix, .int .i64 m.b.tm, .slice VB m.b.vs.length vb, .string m.b.d, .string m.d])
  have HO6 := Lib.hid (HO5.out.tr oA)
  have hx6 := HX6.out
  have hz6 := hz5.only oA (by simp)
  have CZ := Lib.hid (same7 _ _ _ _ m w6 (hma.only oA) (H.out.only HO6.out) (by have := hsm.es; omega) (by have := hsm.vs; omega))
  rw [hval, show m.val (.slice EA m.es.length ec) (.slice VA m.b.vs.length vc) = .agg #[.int .i64 m.kd, .int .i64 m.fr, .int .i64 m.to, .int .i64 m.tm, .int .i64 m.ix, .int .i64 m.lt, .int .i64 m.cm, .bool m.ok, .slice EA m.es.length ec, .int .i64 m.b.ix, .int .i64 m.b.tm, .slice VA m.b.vs.length vc, .string m.b.d, .string m.d] from rfl] at CZ
  clear hma hval CU KU HO4 ho5 hb hR hsm
  go_wp2_with (first
    | (refine wpList_load_row rfl 67 _ rfl x rfl 67 #[.int .i64 m.kd, .int .i64 m.fr, .int .i64 m.to, .int .i64 m.tm, .int .i64 m.ix, .int .i64 m.lt, .int .i64 m.cm, .bool m.ok, .slice EB m.es.length eb, .int .i64 m.b.ix, .int .i64 m.b.tm, .slice VB m.b.vs.length vb, .string m.b.d, .string m.d] (0, 0) _ hx6 Try.underlying67 rfl (by kernel_rfl) ?_)
    | (refine wpList_store_row rfl 67 _ _ rfl x #[.int .i64 m.kd, .int .i64 m.fr, .int .i64 m.to, .int .i64 m.tm, .int .i64 m.ix, .int .i64 m.lt, .int .i64 m.cm, .bool m.ok, .slice EB m.es.length eb, .int .i64 m.b.ix, .int .i64 m.b.tm, .slice VB m.b.vs.length vb, .string m.b.d, .string m.d] rfl rfl 67 _ hAz (by kernel_rfl) rfl hone ?_)
    | (refine wpList_load_row rfl 67 _ rfl z rfl 67 #[.int .i64 m.kd, .int .i64 m.fr, .int .i64 m.to, .int .i64 m.tm, .int .i64 m.ix, .int .i64 m.lt, .int .i64 m.cm, .bool m.ok, .slice EA m.es.length ec, .int .i64 m.b.ix, .int .i64 m.b.tm, .slice VA m.b.vs.length vc, .string m.b.d, .string m.d] (0, 0) _ hz6 Try.underlying67 rfl (by kernel_rfl) ?_))
  clear hwA hzx hw6 hAz hone oA hz4 hz5 hz6 hx6
  refine CZ.out.mono ?_
  rintro e w7 ⟨rfl, ho7⟩
  have HO7 := Lib.hid (HO6.out.tr ho7)
  clear CZ ho7 HO5 HO6
  go_wp2_with fail
  refine (CV1.out w7 HO7.out).mono ?_
  rintro e u1 ⟨rfl, hu1⟩
  have HU1 := Lib.hid (HO7.out.tr hu1)
  clear hu1
  go_wp2_with fail
  refine (CV2.out u1).mono ?_
  rintro e u2 ⟨v2, rfl, hv2, hu2⟩
  obtain ⟨BA, bc, rfl⟩ := (SlAt.of_own hv2).shape
  have HV2 := Lib.hid (SlAt.of_own hv2)
  have HU2 := Lib.hid (HU1.out.tr hu2)
  have CI := Lib.hid (ints7 _ _ l l u2 HV2.out ((HL.out.only HU2.out (Nat.le_refl _) (by simp)).more HU2.out.size) (by omega) (by omega))
  rw [show decide (l = l) = true from decide_eq_true rfl] at CI
  have e1 : (ls == ls) = true := beq_self_eq_true _
  clear hv2 hu2 HU1
  go_wp2_with fail
  refine CI.out.mono ?_
  rintro e u3 ⟨rfl, hu3⟩
  have HU3 := Lib.hid (HU2.out.tr hu3)
  clear HU2 hu3 CI e1 HV2
  go_wp2_with fail
  refine (CU2.out u3).mono ?_
  rintro e u4 ⟨o, ev, vv, ho, rfl, hma, hu4⟩
  have HU4 := Lib.hid (HU3.out.tr hu4)
  cases o with
  | none =>
    obtain ⟨EC, ed, rfl⟩ := hma.ents.shape
    obtain ⟨VC, vd, rfl⟩ := hma.vots.shape
    have hval : ((none : Option Ms).getD Ms.zero).val (.slice EC ((none : Option Ms).getD Ms.zero).es.length ed) (.slice VC ((none : Option Ms).getD Ms.zero).b.vs.length vd) = .agg #[.int .i64 0, .int .i64 0, .int .i64 0, .int .i64 0, .int .i64 0, .int .i64 0, .int .i64 0, .bool false, .slice EC 0 ed, .int .i64 0, .int .i64 0, .slice VC 0 vd, .string ⟨#[]⟩, .string ⟨#[]⟩] := rfl
    rw [hval]
    obtain ⟨wA, hwA⟩ : ∃ wA, u4.alloc (.cells #[.int .i64 0, .int .i64 0, .int .i64 0, .int .i64 0, .int .i64 0, .int .i64 0, .int .i64 0, .bool false, .slice none 0 0, .int .i64 0, .int .i64 0, .slice none 0 0, .string ⟨#[]⟩, .string ⟨#[]⟩] 67) = wA := ⟨_, rfl⟩
    obtain ⟨y, hzy⟩ : ∃ z, u4.heap.size = z := ⟨_, rfl⟩
    have hAz : Cells wA y 67 [.int .i64 0, .int .i64 0, .int .i64 0, .int .i64 0, .int .i64 0, .int .i64 0, .int .i64 0, .bool false, .slice none 0 0, .int .i64 0, .int .i64 0, .slice none 0 0, .string ⟨#[]⟩, .string ⟨#[]⟩] := hwA ▸ hzy ▸ Cells.new u4 _ _
    obtain ⟨u5, hu5⟩ : ∃ w', wA.setRow y #[.int .i64 0, .int .i64 0, .int .i64 0, .int .i64 0, .int .i64 0, .int .i64 0, .int .i64 0, .bool false, .slice EC 0 ed, .int .i64 0, .int .i64 0, .slice VC 0 vd, .string ⟨#[]⟩, .string ⟨#[]⟩] = w' := ⟨_, rfl⟩
    have hone : (#[.int .i64 0, .int .i64 0, .int .i64 0, .int .i64 0, .int .i64 0, .int .i64 0, .int .i64 0, .bool false, .slice EC 0 ed, .int .i64 0, .int .i64 0, .slice VC 0 vd, .string ⟨#[]⟩, .string ⟨#[]⟩] : Array Value).all (·.oneCell') = true := by simp [Value.oneCell']
    have oA : Only [] u4 u5 := hu5 ▸ Only.setRow (hwA ▸ (Only.refl _ _).alloc _) (.inr (by omega)) _
    have HY5 : Hid (Cells u5 y 67 [.int .i64 0, .int .i64 0, .int .i64 0, .int .i64 0, .int .i64 0, .int .i64 0, .int .i64 0, .bool false, .slice EC 0 ed, .int .i64 0, .int .i64 0, .slice VC 0 vd, .string ⟨#[]⟩, .string ⟨#[]⟩]) := Lib.hid (hu5 ▸ hAz.setRow [.int .i64 0, .int .i64 0, .int .i64 0, .int .i64 0, .int .i64 0, .int .i64 0, .int .i64 0, .bool false, .slice EC 0 ed, .int .i64 0, .int .i64 0, .slice VC 0 vd, .string ⟨#[]⟩, .string ⟨#[]⟩])
    have HU5 := Lib.hid (HU4.out.tr oA)
    have r0 := HY5.out.cell (k := 0) rfl
    have r8 := HY5.out.cell (k := 8) rfl
    clear hma hval HU3 hu4
    go_wp2_with (refine wpList_store_row rfl 67 _ _ rfl y #[.int .i64 0, .int .i64 0, .int .i64 0, .int .i64 0, .int .i64 0, .int .i64 0, .int .i64 0, .bool false, .slice EC 0 ed, .int .i64 0, .int .i64 0, .slice VC 0 vd, .string ⟨#[]⟩, .string ⟨#[]⟩] rfl rfl 67 _ hAz (by kernel_rfl) rfl hone ?_)
    go_ret
    exact ⟨rfl, HU5.out⟩
  | some n =>
    have hn := (ho n).1 rfl
    have hma : MsAt u4 ev vv n := hma
    have hgd : ((some n : Option Ms).getD Ms.zero).val ev vv = n.val ev vv := rfl
    rw [hgd]
    clear hgd
    obtain ⟨EC, ed, rfl⟩ := hma.ents.shape
    obtain ⟨VC, vd, rfl⟩ := hma.vots.shape
    have hval : n.val (.slice EC n.es.length ed) (.slice VC n.b.vs.length vd) = .agg #[.int .i64 n.kd, .int .i64 n.fr, .int .i64 n.to, .int .i64 n.tm, .int .i64 n.ix, .int .i64 n.lt, .int .i64 n.cm, .bool n.ok, .slice EC n.es.length ed, .int .i64 n.b.ix, .int .i64 n.b.tm, .slice VC n.b.vs.length vd, .string n.b.d, .string n.d] := rfl
    rw [hval]
    obtain ⟨wA, hwA⟩ : ∃ wA, u4.alloc (.cells #[.int .i64 0, .int .i64 0, .int .i64 0, .int .i64 0, .int .i64 0, .int .i64 0, .int .i64 0, .bool false, .slice none 0 0, .int .i64 0, .int .i64 0, .slice none 0 0, .string ⟨#[]⟩, .string ⟨#[]⟩] 67) = wA := ⟨_, rfl⟩
    obtain ⟨y, hzy⟩ : ∃ z, u4.heap.size = z := ⟨_, rfl⟩
    have hAz : Cells wA y 67 [.int .i64 0, .int .i64 0, .int .i64 0, .int .i64 0, .int .i64 0, .int .i64 0, .int .i64 0, .bool false, .slice none 0 0, .int .i64 0, .int .i64 0, .slice none 0 0, .string ⟨#[]⟩, .string ⟨#[]⟩] := hwA ▸ hzy ▸ Cells.new u4 _ _
    obtain ⟨u5, hu5⟩ : ∃ w', wA.setRow y #[.int .i64 n.kd, .int .i64 n.fr, .int .i64 n.to, .int .i64 n.tm, .int .i64 n.ix, .int .i64 n.lt, .int .i64 n.cm, .bool n.ok, .slice EC n.es.length ed, .int .i64 n.b.ix, .int .i64 n.b.tm, .slice VC n.b.vs.length vd, .string n.b.d, .string n.d] = w' := ⟨_, rfl⟩
    have hone : (#[.int .i64 n.kd, .int .i64 n.fr, .int .i64 n.to, .int .i64 n.tm, .int .i64 n.ix, .int .i64 n.lt, .int .i64 n.cm, .bool n.ok, .slice EC n.es.length ed, .int .i64 n.b.ix, .int .i64 n.b.tm, .slice VC n.b.vs.length vd, .string n.b.d, .string n.d] : Array Value).all (·.oneCell') = true := by simp [Value.oneCell']
    have oA : Only [] u4 u5 := hu5 ▸ Only.setRow (hwA ▸ (Only.refl _ _).alloc _) (.inr (by omega)) _
    have HY5 : Hid (Cells u5 y 67 [.int .i64 n.kd, .int .i64 n.fr, .int .i64 n.to, .int .i64 n.tm, .int .i64 n.ix, .int .i64 n.lt, .int .i64 n.cm, .bool n.ok, .slice EC n.es.length ed, .int .i64 n.b.ix, .int .i64 n.b.tm, .slice VC n.b.vs.length vd, .string n.b.d, .string n.d]) := Lib.hid (hu5 ▸ hAz.setRow [.int .i64 n.kd, .int .i64 n.fr, .int .i64 n.to, .int .i64 n.tm, .int .i64 n.ix, .int .i64 n.lt, .int .i64 n.cm, .bool n.ok, .slice EC n.es.length ed, .int .i64 n.b.ix, .int .i64 n.b.tm, .slice VC n.b.vs.length vd, .string n.b.d, .string n.d])
    have HU5 := Lib.hid (HU4.out.tr oA)
    have CQ := Lib.hid (msg_pack _ _ n u5 (hma.only oA))
    rw [hval] at CQ
    have hy5 := HY5.out
    clear hma hval HU3 hu4
    go_wp2_with (first
      | (refine wpList_load_row rfl 67 _ rfl y rfl 67 #[.int .i64 n.kd, .int .i64 n.fr, .int .i64 n.to, .int .i64 n.tm, .int .i64 n.ix, .int .i64 n.lt, .int .i64 n.cm, .bool n.ok, .slice EC n.es.length ed, .int .i64 n.b.ix, .int .i64 n.b.tm, .slice VC n.b.vs.length vd, .string n.b.d, .string n.d] (0, 0) _ hy5 Try.underlying67 rfl (by kernel_rfl) ?_)
      | (refine wpList_store_row rfl 67 _ _ rfl y #[.int .i64 n.kd, .int .i64 n.fr, .int .i64 n.to, .int .i64 n.tm, .int .i64 n.ix, .int .i64 n.lt, .int .i64 n.cm, .bool n.ok, .slice EC n.es.length ed, .int .i64 n.b.ix, .int .i64 n.b.tm, .slice VC n.b.vs.length vd, .string n.b.d, .string n.d] rfl rfl 67 _ hAz (by kernel_rfl) rfl hone ?_))
    clear hwA hzy hu5 hAz hone oA
    refine CQ.out.mono ?_
    rintro e u6 ⟨b, hb, rfl, hu6⟩
    obtain rfl : b = true := hb.2 hn.1
    have HU6 := Lib.hid (HU5.out.tr hu6)
    simp only [if_true, hn.2]
    have e1 : (ls == ls) = true := beq_self_eq_true _
    clear hb hu6 CQ
    go_wp2_with fail
    go_ret
    exact ⟨rfl, HU6.out⟩
end Go.Proofs.Ytagklgodcbmcaaa
