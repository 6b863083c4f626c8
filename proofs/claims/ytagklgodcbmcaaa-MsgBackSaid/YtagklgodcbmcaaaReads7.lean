/-
  Chapter 7: reads.
-/
import Derived.Test.YtagklgodcbmcaaaS7b
namespace Go.Proofs.Ytagklgodcbmcaaa
open Go.RowKit
theorem opt_same {s : List UInt8} {o o' : Option Ms} (h : ∀ m, o = some m ↔ m.Right ∧ msb m = s) (h' : ∀ m, o' = some m ↔ m.Right ∧ msb m = s) : o' = o := by
  cases o with
  | none =>
    cases o' with
    | none => rfl
    | some m => exact absurd ((h m).2 ((h' m).1 rfl)) (by simp)
  | some m => exact (h' m).2 ((h m).1 rfl)
theorem opt_small {o : Option Ms} {s : List UInt8} (h : ∀ m, o = some m ↔ m.Right ∧ msb m = s) : (o.getD Ms.zero).es.length ≤ 1000000 ∧ (o.getD Ms.zero).b.vs.length ≤ 1000000 := by
  cases o with
  | none => exact ⟨by simp [Ms.zero], by simp [Ms.zero]⟩
  | some m =>
    have hr := ((h m).1 rfl).1
    exact ⟨by have := hr.ln; show m.es.length ≤ _; omega, by have := rise_len hr.vs; show m.b.vs.length ≤ _; omega⟩
set_option maxRecDepth 100000 in
set_option maxHeartbeats 4000000 in
theorem reads7 (s : List UInt8) (w : World) (hl : s.length ≤ 1000000000) :
    Calls Try.prog 49 #[.string ⟨s.toArray⟩] w fun e w' => e = .returned (.bool true) ∧ Only [] w w' := by
  have C1 := Lib.hid (msg_unpack s w (by omega))
  have C2 := Lib.hid (fun w' => ref7_unpack s w' (by omega))
  have C3 := Lib.hid (fun w' => msg_toVoters s w' (by omega))
  have C4 := Lib.hid (fun w' => ref7_toVoters s w' (by omega))
  go_enter Try.func49, Try.ntmps49
  go_wp2_with fail
  refine C1.out.mono ?_
  rintro e w1 ⟨o, ev, vv, ho, rfl, hma, ho1⟩
  obtain ⟨m, hm⟩ : ∃ m, o.getD Ms.zero = m := ⟨_, rfl⟩
  obtain ⟨er, her⟩ : ∃ er : Int, (if o.isSome = true then 0 else 8) = er := ⟨_, rfl⟩
  obtain ⟨sm1, sm2⟩ := opt_small ho
  rw [hm] at hma sm1 sm2 ⊢
  rw [her]
  obtain ⟨EA, ec, rfl⟩ := hma.ents.shape
  obtain ⟨VA, vc, rfl⟩ := hma.vots.shape
  have hval : m.val (.slice EA m.es.length ec) (.slice VA m.b.vs.length vc) = .agg #[.int .i64 m.kd, .int .i64 m.fr, .int .i64 m.to, .int .i64 m.tm, .int .i64 m.ix, .int .i64 m.lt, .int .i64 m.cm, .bool m.ok, .slice EA m.es.length ec, .int .i64 m.b.ix, .int .i64 m.b.tm, .slice VA m.b.vs.length vc, .string m.b.d, .string m.d] := rfl
  rw [hval]
  obtain ⟨wA, hwA⟩ : ∃ wA, w1.alloc (.cells #[.int .i64 0, .int .i64 0, .int .i64 0, .int .i64 0, .int .i64 0, .int .i64 0, .int .i64 0, .bool false, .slice none 0 0, .int .i64 0, .int .i64 0, .slice none 0 0, .string ⟨#[]⟩, .string ⟨#[]⟩] 67) = wA := ⟨_, rfl⟩
  obtain ⟨z, hz⟩ : ∃ z, w1.heap.size = z := ⟨_, rfl⟩
  have hAz : Cells wA z 67 [.int .i64 0, .int .i64 0, .int .i64 0, .int .i64 0, .int .i64 0, .int .i64 0, .int .i64 0, .bool false, .slice none 0 0, .int .i64 0, .int .i64 0, .slice none 0 0, .string ⟨#[]⟩, .string ⟨#[]⟩] := hwA ▸ hz ▸ Cells.new w1 _ _
  obtain ⟨w2, hw2⟩ : ∃ w2, wA.setRow z #[.int .i64 m.kd, .int .i64 m.fr, .int .i64 m.to, .int .i64 m.tm, .int .i64 m.ix, .int .i64 m.lt, .int .i64 m.cm, .bool m.ok, .slice EA m.es.length ec, .int .i64 m.b.ix, .int .i64 m.b.tm, .slice VA m.b.vs.length vc, .string m.b.d, .string m.d] = w2 := ⟨_, rfl⟩
  have hone : (#[.int .i64 m.kd, .int .i64 m.fr, .int .i64 m.to, .int .i64 m.tm, .int .i64 m.ix, .int .i64 m.lt, .int .i64 m.cm, .bool m.ok, .slice EA m.es.length ec, .int .i64 m.b.ix, .int .i64 m.b.tm, .slice VA m.b.vs.length vc, .string m.b.d, .string m.d] : Array Value).all (·.oneCell') = true := by simp [Value.oneCell']
  have oA : Only [] w1 w2 := hw2 ▸ Only.setRow (hwA ▸ (Only.refl _ _).alloc _) (.inr (by omega)) _
  have HZ2 : Hid (Cells w2 z 67 [.int .i64 m.kd, .int .i64 m.fr, .int .i64 m.to, .int .i64 m.tm, .int .i64 m.ix, .int .i64 m.lt, .int .i64 m.cm, .bool m.ok, .slice EA m.es.length ec, .int .i64 m.b.ix, .int .i64 m.b.tm, .slice VA m.b.vs.length vc, .string m.b.d, .string m.d]) := Lib.hid (hw2 ▸ hAz.setRow [.int .i64 m.kd, .int .i64 m.fr, .int .i64 m.to, .int .i64 m.tm, .int .i64 m.ix, .int .i64 m.lt, .int .i64 m.cm, .bool m.ok, .slice EA m.es.length ec, .int .i64 m.b.ix, .int .i64 m.b.tm, .slice VA m.b.vs.length vc, .string m.b.d, .string m.d])
  have HMB := Lib.hid (hma.only oA)
  have HO2 := Lib.hid (ho1.tr oA)
  have HOO := Lib.hid ho
  have HEQ := Lib.hid hm
  have HER := Lib.hid her
  clear hma oA ho1 ho hm her hval C1
  go_wp2_with (refine wpList_store_row rfl 67 _ _ rfl z #[.int .i64 m.kd, .int .i64 m.fr, .int .i64 m.to, .int .i64 m.tm, .int .i64 m.ix, .int .i64 m.lt, .int .i64 m.cm, .bool m.ok, .slice EA m.es.length ec, .int .i64 m.b.ix, .int .i64 m.b.tm, .slice VA m.b.vs.length vc, .string m.b.d, .string m.d] rfl rfl 67 _ hAz (by kernel_rfl) rfl hone ?_)
  clear hwA hz hw2 hAz hone
  refine (C2.out w2).mono ?_
  rintro e w3 ⟨o', ev', vv', ho', rfl, hma', ho3⟩
  obtain rfl := (opt_same HOO.out ho').symm
  rw [HEQ.out] at hma' ⊢
  rw [HER.out]
  obtain ⟨EA', ec', rfl⟩ := hma'.ents.shape
  obtain ⟨VA', vc', rfl⟩ := hma'.vots.shape
  have hval : m.val (.slice EA' m.es.length ec') (.slice VA' m.b.vs.length vc') = .agg #[.int .i64 m.kd, .int .i64 m.fr, .int .i64 m.to, .int .i64 m.tm, .int .i64 m.ix, .int .i64 m.lt, .int .i64 m.cm, .bool m.ok, .slice EA' m.es.length ec', .int .i64 m.b.ix, .int .i64 m.b.tm, .slice VA' m.b.vs.length vc', .string m.b.d, .string m.d] := rfl
  rw [hval]
  obtain ⟨wA, hwA⟩ : ∃ wA, w3.alloc (.cells #[.int .i64 0, .int .i64 0, .int .i64 0, .int .i64 0, .int .i64 0, .int .i64 0, .int .i64 0, .bool false, .slice none 0 0, .int .i64 0, .int .i64 0, .slice none 0 0, .string ⟨#[]⟩, .string ⟨#[]⟩] 67) = wA := ⟨_, rfl⟩
  obtain ⟨z', hz'⟩ : ∃ z, w3.heap.size = z := ⟨_, rfl⟩
  have hAz : Cells wA z' 67 [.int .i64 0, .int .i64 0, .int .i64 0, .int .i64 0, .int .i64 0, .int .i64 0, .int .i64 0, .bool false, .slice none 0 0, .int .i64 0, .int .i64 0, .slice none 0 0, .string ⟨#[]⟩, .string ⟨#[]⟩] := hwA ▸ hz' ▸ Cells.new w3 _ _
  obtain ⟨w4, hw4⟩ : ∃ w4, wA.setRow z' #[.int .i64 m.kd, .int .i64 m.fr, .int .i64 m.to, .int .i64 m.tm, .int .i64 m.ix, .int .i64 m.lt, .int .i64 m.cm, .bool m.ok, .slice EA' m.es.length ec', .int .i64 m.b.ix, .int .i64 m.b.tm, .slice VA' m.b.vs.length vc', .string m.b.d, .string m.d] = w4 := ⟨_, rfl⟩
  have hone : (#[.int .i64 m.kd, .int .i64 m.fr, .int .i64 m.to, .int .i64 m.tm, .int .i64 m.ix, .int .i64 m.lt, .int .i64 m.cm, .bool m.ok, .slice EA' m.es.length ec', .int .i64 m.b.ix, .int .i64 m.b.tm, .slice VA' m.b.vs.length vc', .string m.b.d, .string m.d] : Array Value).all (·.oneCell') = true := by simp [Value.oneCell']
  have oA : Only [] w3 w4 := hw4 ▸ Only.setRow (hwA ▸ (Only.refl _ _).alloc _) (.inr (by omega)) _
  have HZ4' : Hid (Cells w4 z' 67 [.int .i64 m.kd, .int .i64 m.fr, .int .i64 m.to, .int .i64 m.tm, .int .i64 m.ix, .int .i64 m.lt, .int .i64 m.cm, .bool m.ok, .slice EA' m.es.length ec', .int .i64 m.b.ix, .int .i64 m.b.tm, .slice VA' m.b.vs.length vc', .string m.b.d, .string m.d]) := Lib.hid (hw4 ▸ hAz.setRow [.int .i64 m.kd, .int .i64 m.fr, .int .i64 m.to, .int .i64 m.tm, .int .i64 m.ix, .int .i64 m.lt, .int .i64 m.cm, .bool m.ok, .slice EA' m.es.length ec', .int .i64 m.b.ix, .int .i64 m.b.tm, .slice VA' m.b.vs.length vc', .string m.b.d, .string m.d])
  have HZ4 := Lib.hid ((HZ2.out.only ho3 (by simp)).only oA (by simp))
  have HM4' := Lib.hid (hma'.only oA)
  have HM4 := Lib.hid ((HMB.out.only ho3).only oA)
  have HO4 := Lib.hid ((HO2.out.tr ho3).tr oA)
  clear hma' oA ho3 ho' hval C2 HZ2 HMB HO2
  go_wp2_with (refine wpList_store_row rfl 67 _ _ rfl z' #[.int .i64 m.kd, .int .i64 m.fr, .int .i64 m.to, .int .i64 m.tm, .int .i64 m.ix, .int .i64 m.lt, .int .i64 m.cm, .bool m.ok, .slice EA' m.es.length ec', .int .i64 m.b.ix, .int .i64 m.b.tm, .slice VA' m.b.vs.length vc', .string m.b.d, .string m.d] rfl rfl 67 _ hAz (by kernel_rfl) rfl hone ?_)
  clear hwA hz' hw4 hAz hone
  refine (C3.out w4).mono ?_
  rintro e w5 ⟨l1, rfl, hl1, ho5⟩
  obtain ⟨A1, c1, rfl⟩ := (SlAt.of_own hl1).shape
  have HL1 := Lib.hid hl1
  have HO5 := Lib.hid ho5
  clear C3 hl1 ho5
  go_wp2_with fail
  refine (C4.out w5).mono ?_
  rintro e w6 ⟨l2, rfl, hl2, ho6⟩
  obtain ⟨A2, c2, rfl⟩ := (SlAt.of_own hl2).shape
  have HL2 := Lib.hid (SlAt.of_own hl2)
  have HL1' := Lib.hid (SlAt.of_own (own_keep HL1.out ho6 (by simp)))
  have o46 := HO5.out.tr ho6
  have hz6 := HZ4.out.only o46 (by simp)
  have hz6' := HZ4'.out.only o46 (by simp)
  have cs := same7 _ _ _ _ m w6 (HM4.out.only o46) (HM4'.out.only o46) sm1 sm2
  rw [show m.val (.slice EA m.es.length ec) (.slice VA m.b.vs.length vc) = .agg #[.int .i64 m.kd, .int .i64 m.fr, .int .i64 m.to, .int .i64 m.tm, .int .i64 m.ix, .int .i64 m.lt, .int .i64 m.cm, .bool m.ok, .slice EA m.es.length ec, .int .i64 m.b.ix, .int .i64 m.b.tm, .slice VA m.b.vs.length vc, .string m.b.d, .string m.d] from rfl, show m.val (.slice EA' m.es.length ec') (.slice VA' m.b.vs.length vc') = .agg #[.int .i64 m.kd, .int .i64 m.fr, .int .i64 m.to, .int .i64 m.tm, .int .i64 m.ix, .int .i64 m.lt, .int .i64 m.cm, .bool m.ok, .slice EA' m.es.length ec', .int .i64 m.b.ix, .int .i64 m.b.tm, .slice VA' m.b.vs.length vc', .string m.b.d, .string m.d] from rfl] at cs
  have CS := Lib.hid cs
  have HO6 := Lib.hid (HO4.out.tr o46)
  clear C4 hl2 ho6 o46 cs HL1 HO5 HZ4 HZ4' HM4 HM4' HO4
  go_wp2_with (first
    | refine wpList_load_row rfl 67 _ rfl z rfl 67 #[.int .i64 m.kd, .int .i64 m.fr, .int .i64 m.to, .int .i64 m.tm, .int .i64 m.ix, .int .i64 m.lt, .int .i64 m.cm, .bool m.ok, .slice EA m.es.length ec, .int .i64 m.b.ix, .int .i64 m.b.tm, .slice VA m.b.vs.length vc, .string m.b.d, .string m.d] (0, 0) _ hz6 Try.underlying67 rfl (by kernel_rfl) ?_
    | refine wpList_load_row rfl 67 _ rfl z' rfl 67 #[.int .i64 m.kd, .int .i64 m.fr, .int .i64 m.to, .int .i64 m.tm, .int .i64 m.ix, .int .i64 m.lt, .int .i64 m.cm, .bool m.ok, .slice EA' m.es.length ec', .int .i64 m.b.ix, .int .i64 m.b.tm, .slice VA' m.b.vs.length vc', .string m.b.d, .string m.d] (0, 0) _ hz6' Try.underlying67 rfl (by kernel_rfl) ?_)
  refine CS.out.mono ?_
  rintro e w7 ⟨rfl, ho7⟩
  have hvl := vsL_len s
  have ci := ints7 _ _ (vsL s) (vsL s) w7 ((HL1'.out.only ho7 (Nat.le_refl _) (by simp)).more ho7.size) ((HL2.out.only ho7 (Nat.le_refl _) (by simp)).more ho7.size) (by omega) (by omega)
  rw [show decide (vsL s = vsL s) = true from decide_eq_true rfl] at ci
  have CI := Lib.hid ci
  have HO7 := Lib.hid (HO6.out.tr ho7)
  clear ci ho7 CS HO6 hz6 hz6' HL2 HL1'
  go_wp2_with fail
  refine CI.out.mono ?_
  rintro e w8 ⟨rfl, ho8⟩
  have HO8 := Lib.hid (HO7.out.tr ho8)
  go_wp2_with fail
  go_ret
  exact ⟨rfl, HO8.out⟩
end Go.Proofs.Ytagklgodcbmcaaa
