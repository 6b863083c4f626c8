/-
  Chapter 8: the document's log: Match. (Printed by gen_q8h.py.)
-/
import Derived.Test.YtagklgodcbmcaaaQ8g
namespace Go.Proofs.Ytagklgodcbmcaaa
open Go.RowKit
theorem addAll_cons (g : LG) (e : En) (r : List En) : g.addAll (e :: r) = (⟨g.b, g.l ++ [g.new e.tm e.kd e.d]⟩ : LG).addAll r := rfl
theorem matchGo_cons (g : LG) (index fixed : Int) (k : Nat) (e : En) (r : List En) : g.matchGo index fixed k (e :: r) = if index + 1 + (k : Int) ≤ fixed ∨ (g.term (index + 1 + (k : Int))).2 = true ∧ (g.term (index + 1 + (k : Int))).1 = e.tm then LG.matchGo g index fixed (k + 1) r
    else ((⟨g.b, g.l.take (index + 1 + (k : Int) - g.b.ix - 1).toNat⟩ : LG).addAll (e :: r), index + 1 + (k : Int)) := rfl
/-- Where a match stands. -/
def Ph (m : LG) (index fixed : Int) (l : List En) (k : Nat) (first : Int) (gl : List En) : Prop :=
  (first = 0 ∧ gl = m.l ∧ m.matchGo index fixed 0 l = m.matchGo index fixed k (l.drop k) ∧ index + (k : Int) ≤ m.last) ∨
  (0 < first ∧ m.matchGo index fixed 0 l = ((⟨m.b, gl⟩ : LG).addAll (l.drop k), first) ∧ m.b.ix + (gl.length : Int) = index + (k : Int) ∧ fixed < index + 1 + (k : Int))
set_option maxRecDepth 100000 in
set_option maxHeartbeats 16000000 in
theorem rl_match (r : Nat) (K : List Nat) (m : LG) (index term fixed : Int) (lv : Value) (l : List En) (w : World) (h : RlK w K r m) (hl : RfS w lv 4 l.length (enL l)) (hlr : lv.ownBlock ≠ some r) (hx0 : -9223372036854775808 ≤ index) (hf0 : m.b.ix ≤ fixed) (hf1 : fixed ≤ m.last) (hr : m.last + l.length ≤ 900000) :
    Calls Try.prog 67 #[.pointer (some ⟨r, 0, none⟩), .int .i64 index, .int .i64 term, .int .i64 fixed, lv] w fun e w' => e = .returned (m.matchR index term fixed l).val ∧ RDoes w w' K r (m.matchR index term fixed l).g := by
  obtain ⟨i0, hi0, hz0, hz1, hz2⟩ := info_parts info_ent
  have HKK := Lib.hid h
  obtain ⟨vv, ev, h, hK, hKl⟩ := h
  obtain ⟨EA, ec, rfl, _, _⟩ := h.ents.shape
  obtain ⟨LA, lc, rfl, _, _⟩ := hl.shape
  have CL := Lib.hid (fun w' (ho : Only [] w w') => rl_last r vv _ m w' (h.only ho))
  have CT := Lib.hid (fun w' (ho : Only [] w w') => rl_term r vv _ m index w' (h.only ho))
  have lo := h.lo
  have hlast : 0 ≤ m.last := by unfold LG.last; omega
  have hLdef : Hid (m.last = m.b.ix + (m.l.length : Int)) := Lib.hid rfl
  have H := Lib.hid h
  have HK := Lib.hid hK
  have HL := Lib.hid hl
  have HLR := Lib.hid hlr
  have hbw := h.cells.lt
  obtain ⟨M, hM⟩ : ∃ M, l.length = M := ⟨_, rfl⟩
  have HM := Lib.hid hM
  rw [hM] at hr ⊢
  clear h hK hKl hl hlr hM
  by_cases h1 : m.last < index
  · have d1 : decide (m.last < index) = true := by simpa using h1
    have hR : Hid (m.matchR index term fixed l = ⟨m, m.last, 0, false⟩) := by show _ = _; unfold LG.matchR; rw [if_pos h1]
    go_enter Try.func67, Try.ntmps67
    go_wp2_with fail
    refine (CL.out _ (Only.refl _ _)).mono ?_
    rintro e w1 ⟨rfl, ho1⟩
    go_wp2_with fail
    refine (CL.out _ ho1).mono ?_
    rintro e w2 ⟨rfl, ho2⟩
    go_wp2_with fail
    go_ret3
    rw [hR.out]
    exact ⟨rfl, RDoes.tr0 (RDoes.refl HKK.out) (ho1.tr ho2)⟩
  have d1 : decide (m.last < index) = false := by simpa using h1
  obtain ⟨t, ht⟩ : ∃ t, (m.term index).1 = t := ⟨_, rfl⟩
  obtain ⟨tb, htb⟩ : ∃ t, (m.term index).2 = t := ⟨_, rfl⟩
  have HTT := Lib.hid ht
  unfold ibV at CT
  rw [ht, htb] at CT
  clear ht htb
  by_cases h2 : fixed < index ∧ t ≠ term
  · obtain ⟨h2a, h2b⟩ := h2
    have d2 : decide (fixed < index) = true := by simpa using h2a
    have d3 : (t == term) = false := by simpa using h2b
    have hR : Hid (m.matchR index term fixed l = ⟨m, index - 1, 0, false⟩) := by show _ = _; unfold LG.matchR; rw [if_neg h1, if_pos ⟨h2a, by rw [HTT.out]; exact h2b⟩]
    go_enter Try.func67, Try.ntmps67
    go_wp2_with fail
    refine (CL.out _ (Only.refl _ _)).mono ?_
    rintro e w1 ⟨rfl, ho1⟩
    go_wp2_with fail
    refine (CT.out _ ho1).mono ?_
    rintro e w2 ⟨rfl, ho2⟩
    go_wp2_with fail
    go_ret3
    rw [hR.out]
    exact ⟨rfl, RDoes.tr0 (RDoes.refl HKK.out) (ho1.tr ho2)⟩
  have hR : Hid (m.matchR index term fixed l = ⟨(m.matchGo index fixed 0 l).1, index + (M : Int), (m.matchGo index fixed 0 l).2, true⟩) := by show _ = _; unfold LG.matchR; rw [if_neg h1, if_neg (by rw [HTT.out]; exact h2), HM.out]
  have hcase : Hid (decide (fixed < index) = false ∨ (decide (fixed < index) = true ∧ (t != term) = false)) := by
    show _ ∨ _
    by_cases h3 : fixed < index
    · right
      refine ⟨by simpa using h3, ?_⟩
      by_cases h4 : t = term
      · simpa using h4
      · exact absurd ⟨h3, h4⟩ h2
    · left; simpa using h3
  have hil : index ≤ m.last := by omega
  clear h1 h2 HTT
  go_enter Try.func67, Try.ntmps67
  go_wp2_with fail
  refine (CL.out _ (Only.refl _ _)).mono ?_
  rintro e w1 ⟨rfl, ho1⟩
  go_wp2_with fail
  refine (CT.out _ ho1).mono ?_
  rintro e w2 ⟨rfl, ho2⟩
  have HO2 := Lib.hid (ho1.tr ho2)
  clear ho1 ho2 CT CL d1
  rcases hcase.out with d2 | ⟨d2, d3⟩
  all_goals
    go_wp2_with fail
    clear d2
    go_loopw [15, 16] (fun fv n wr => ∃ (k : Nat) (first : Int) (gl : List En) (ev : Value), k ≤ M ∧ n = .int .i64 k ∧ fv = .int .i64 first ∧ Hid (RlV wr r vv ev ⟨m.b, gl⟩) ∧ Hid (∀ q, ev.ownBlock = some q → (Value.slice EA m.l.length ec).ownBlock = some q ∨ w.heap.size ≤ q) ∧ Hid (Only [r] w wr) ∧ m.b.ix + (gl.length : Int) ≤ m.last + (k : Int) ∧ Hid (Ph m index fixed l k first gl)) (fun _ n _ => M - (intOf n).toNat)
    case atStart => exact ⟨0, 0, m.l, _, by omega, rfl, rfl, Lib.hid (H.out.only HO2.out), Lib.hid (fun q hq => .inl hq), Lib.hid HO2.out.of0, by have := hLdef.out; omega, Lib.hid (.inl ⟨rfl, rfl, rfl, by simpa using hil⟩)⟩
    case round =>
      obtain ⟨k, first, gl, ev, hk, rfl, rfl, hRV, hQ, ho, hlen, hph⟩ := hrel
      by_cases hlt : k < M
      case neg =>
        have hd : decide ((k : Int) < (M : Int)) = false := by simp; omega
        have hfin : Hid (m.matchGo index fixed 0 l = (⟨m.b, gl⟩, first)) := by
          show _ = _
          have hdr : l.drop k = [] := List.drop_eq_nil_of_le (by rw [HM.out]; omega)
          rcases hph.out with ⟨h1, h2, h3, _⟩ | ⟨_, h3, _⟩
          · rw [h3, hdr, h1, h2]; rfl
          · rw [h3, hdr]; rfl
        go_wp2_with fail
        go_ret3
        rw [hR.out, hfin.out]
        exact ⟨rfl, RDoes.ofV HK.out hRV.out ho.out hQ.out (NewOf.refl _ _)⟩
      have hlt' : (k : Int) < (M : Int) := by omega
      obtain ⟨y0, hy⟩ : ∃ y, l[k]? = some y := ⟨_, List.getElem?_eq_getElem (by rw [HM.out]; exact hlt)⟩
      have hdr : l.drop k = y0 :: l.drop (k + 1) := by
        have hk1 := (List.getElem?_eq_some_iff.1 hy).1
        rw [List.drop_eq_getElem_cons hk1]
        rw [List.getElem?_eq_getElem hk1] at hy
        injection hy with hy; rw [hy]
      have HDR := Lib.hid hdr
      have hLr := HL.out.keep ho.out (fun q hq => by simp at hq; subst hq; exact HLR.out)
      obtain ⟨q, o, c', hv, e0, e1, e2, e3⟩ := enL_at hLr.sl hy
      rw [HM.out] at hv
      injection hv with i1 i2 i3
      subst i1
      subst i3
      obtain ⟨y, hyd⟩ : ∃ y : En, (⟨index + 1 + (k : Int), y0.tm, y0.kd, y0.d⟩ : En) = y := ⟨_, rfl⟩
      have hy0 : y.ix = index + 1 + (k : Int) := by rw [← hyd]
      have hy1 : y0.tm = y.tm := by rw [← hyd]
      have hy2 : y0.kd = y.kd := by rw [← hyd]
      have hy3 : y0.d = y.d := by rw [← hyd]
      have HY0 := Lib.hid hy0
      have HY1 := Lib.hid hy1
      have HYD : Hid (∀ g : LG, g.last = index + (k : Int) → g.new y0.tm y0.kd y0.d = y) := Lib.hid fun g hg => by unfold LG.new; rw [hg, ← hyd, show index + (k : Int) + 1 = index + 1 + (k : Int) from by omega]
      rw [hy1] at e1
      rw [hy2] at e2
      rw [hy3] at e3
      clear i2 hy hyd hy0 hy1 hy2 hy3 hdr hLr
      have hoX : Only [] wr (wr.alloc (.cells #[.int .i64 (index + 1 + (k : Int)), .int .i64 y.tm, .int .i64 y.kd, .string y.d] 40)) := (Only.refl _ wr).alloc _
      have hYC : Cells (wr.alloc (.cells #[.int .i64 (index + 1 + (k : Int)), .int .i64 y.tm, .int .i64 y.kd, .string y.d] 40)) wr.heap.size 40 y.cells := by
        have := Cells.new wr 40 [.int .i64 (index + 1 + (k : Int)), .int .i64 y.tm, .int .i64 y.kd, .string y.d]
        rw [← HY0.out] at this ⊢
        exact this
      have HoX := Lib.hid hoX
      have HYC := Lib.hid hYC
      have HRX := Lib.hid (hRV.out.only hoX)
      have hON := Lib.hid (ho.out.tr0 hoX)
      have hQ2 := hQ
      have CT := Lib.hid (fun w' (ho : Only [] (wr.alloc (.cells #[.int .i64 (index + 1 + (k : Int)), .int .i64 y.tm, .int .i64 y.kd, .string y.d] 40)) w') => rl_term r vv ev ⟨m.b, gl⟩ (index + 1 + (k : Int)) w' ((hRV.out.only hoX).only ho))
      have hatb : index + 1 + (k : Int) ≤ 900000 := by
        rcases hph.out with ⟨_, _, _, h4⟩ | ⟨_, _, h4, _⟩
        · omega
        · omega
      have hatl : -9223372036854775808 ≤ index + 1 := by omega
      have hkM : (k : Int) ≤ 900000 := by omega
      clear hoX hYC
      rcases hph.out with ⟨rfl, rfl, hgo, hin⟩ | ⟨hfp, hgo, hgl, hfx⟩
      case inl =>
        rw [HDR.out] at hgo
        rw [matchGo_cons] at hgo
        have HGO := Lib.hid hgo
        by_cases hfx : index + 1 + (k : Int) ≤ fixed
        · have d4 : decide (index + 1 + (k : Int) ≤ fixed) = true := by simpa using hfx
          have HPH : Hid (Ph m index fixed l (k + 1) 0 m.l) := Lib.hid (.inl ⟨rfl, rfl, by rw [HGO.out, if_pos (.inl hfx)], by omega⟩)
          clear hgo hph HGO
          go_wp2_with fail
          go_roundw
          case rel => first | exact ⟨k + 1, 0, m.l, ev, by omega, by go_num, rfl, HRX, hQ, hON, by omega, HPH⟩ | ((repeat apply Exists.intro); refine And.intro ?_ rfl; exact ⟨k + 1, 0, m.l, ev, by omega, by go_num, rfl, HRX, hQ, hON, by omega, HPH⟩)
          case measure => simp [intOf]; omega
        have d4 : decide (index + 1 + (k : Int) ≤ fixed) = false := by simpa using hfx
        obtain ⟨u, hu⟩ : ∃ u, (m.term (index + 1 + (k : Int))).1 = u := ⟨_, rfl⟩
        obtain ⟨ub, hub⟩ : ∃ u, (m.term (index + 1 + (k : Int))).2 = u := ⟨_, rfl⟩
        have HTE : Hid ((⟨m.b, m.l⟩ : LG).term (index + 1 + (k : Int)) = (u, ub)) := by show m.term _ = _; rw [← hu, ← hub]
        rw [hu, hub] at HGO
        rw [HTE.out] at CT
        unfold ibV at CT
        have hgoin : Hid (ub = true → index + 1 + (k : Int) ≤ m.last) := Lib.hid fun h => (LG.term_ok (by rw [hub]; exact h)).2
        have hsk : Hid ((ub = true ∧ (u == y.tm) = true ∧ m.matchGo index fixed 0 l = m.matchGo index fixed (k + 1) (l.drop (k + 1))) ∨
          ((ub = false ∨ (ub = true ∧ (u == y.tm) = false)) ∧ m.matchGo index fixed 0 l = ((⟨m.b, m.l.take (index + 1 + (k : Int) - m.b.ix - 1).toNat⟩ : LG).addAll (y0 :: l.drop (k + 1)), index + 1 + (k : Int)))) := by
          show _ ∨ _
          have h1 := HGO.out
          rw [HY1.out] at h1
          by_cases hc : ub = true ∧ u = y.tm
          · left
            exact ⟨hc.1, by simpa using hc.2, by rw [h1, if_pos (.inr hc)]⟩
          · right
            refine ⟨?_, by rw [h1, if_neg (fun h => h.elim hfx hc)]⟩
            cases ub with
            | false => exact .inl rfl
            | true => right; exact ⟨rfl, by simpa using hc⟩
        clear hgo hph HGO hu hub HTE
        go_wp2_with fail
        refine (CT.out _ (Only.refl _ _)).mono ?_
        rintro e w5 ⟨rfl, ho5⟩
        have HY5 := Lib.hid (HYC.out.only ho5 (by simp))
        have HR5 := Lib.hid (HRX.out.only ho5)
        have HO5 := Lib.hid (hON.out.tr0 ho5)
        have y0c := HY5.out.cell (k := 0) rfl
        have y1c := HY5.out.cell (k := 1) rfl
        obtain ⟨z, hz⟩ : ∃ z, wr.heap.size = z := ⟨_, rfl⟩
        have hzr : r < z := by rw [← hz]; exact hRV.out.cells.lt
        rw [hz] at HY5 y0c y1c ⊢
        rw [← HY0.out]
        clear ho5 CT hz HYC HoX HRX hON
        rcases hsk.out with ⟨rfl, d5, hg⟩ | ⟨hno, hg⟩
        · have HPH : Hid (Ph m index fixed l (k + 1) 0 m.l) := Lib.hid (.inl ⟨rfl, rfl, hg, by have := hgoin.out rfl; omega⟩)
          clear hg hsk
          go_wp2_with fail
          go_roundw
          case rel => first | exact ⟨k + 1, 0, m.l, ev, by omega, by go_num, rfl, HR5, hQ, HO5, by omega, HPH⟩ | ((repeat apply Exists.intro); refine And.intro ?_ rfl; exact ⟨k + 1, 0, m.l, ev, by omega, by go_num, rfl, HR5, hQ, HO5, by omega, HPH⟩)
          case measure => simp [intOf]; omega
        -- here the log is cut
        have HG := Lib.hid hg
        obtain ⟨P, hPn⟩ : ∃ P : Nat, y.ix - m.b.ix - 1 = P := ⟨(y.ix - m.b.ix - 1).toNat, by have := HY0.out; omega⟩
        have hP0 : y.ix = m.b.ix + 1 + (P : Int) := by omega
        have HPN := Lib.hid hP0
        have hPl : P ≤ m.l.length := by have := HY0.out; have := hLdef.out; omega
        obtain ⟨gl, hgl⟩ : ∃ gl, m.l.take P = gl := ⟨_, rfl⟩
        have HP : Hid (gl.length = P) := by show _ = _; rw [← hgl, List.length_take, Nat.min_eq_left hPl]
        have hfirst : 0 < y.ix := by omega
        have HPH : Hid (Ph m index fixed l (k + 1) y.ix (gl ++ [y])) := Lib.hid (by
          refine .inr ⟨hfirst, ?_, ?_, ?_⟩
          · rw [HG.out, ← HY0.out, hPn, Int.toNat_natCast, hgl, addAll_cons, HYD.out ⟨m.b, gl⟩ (by unfold LG.last; rw [HP.out]; dsimp only; have := HY0.out; omega)]
          · rw [List.length_append, HP.out]; have := HY0.out; simp; omega
          · omega)
        obtain ⟨A1, c1, rfl, hc1, hc2⟩ := HR5.out.ents.shape
        obtain ⟨N, hN⟩ : ∃ N, m.l.length = N := ⟨_, rfl⟩
        have HN := Lib.hid hN
        have hNc : P ≤ N := by rw [← hN]; exact hPl
        have hNc1 : N ≤ c1 := by rw [← hN]; exact hc1
        have g4 := fun u : Since w5 => u.cell (HR5.out.cells.cell (k := 4) rfl)
        have g0 := fun u : Since w5 => u.cell (HR5.out.cells.cell (k := 0) rfl)
        rw [show (⟨m.b, m.l⟩ : LG).l.length = N from hN] at g4
        have sw1 : IntKind.i64.wrap (y.ix - m.b.ix) = y.ix - m.b.ix := IntWalk.i64_in _ (by omega)
        have sw2 : IntKind.i64.wrap (y.ix - m.b.ix - 1) = (P : Int) := by rw [hPn]; exact IntWalk.i64_in _ (by omega)
        have hyb0 : 0 ≤ y.ix - m.b.ix := by omega
        have hyb1 : y.ix ≤ 900000 := by have := HY0.out; omega
        have hPN : (P : Int) ≤ (N : Int) := by omega
        have HGL := Lib.hid hgl
        clear hg hsk hP0 hgl hN hPl
        have hno' := hno
        clear hno
        rcases hno' with rfl | ⟨rfl, d5⟩
        all_goals
          go_wp2_with fail
          refine wp_region_only_tail w5 (Only.refl _ _) 16 (by kernel_rfl) (by kernel_rfl) ?_
          simp only [List.take_succ_cons, List.take_zero, List.drop_succ_cons, List.drop_zero]
          repeat (go_big_quiet_step (fail))
          refine wpQuiet_nil ?_
          rintro ⟨w6, ho6⟩
          dsimp only
          clear g4 g0 y0c y1c sw1 sw2
          have hR6 := HR5.out.only ho6
          have hY6 := HY5.out.only ho6 (by simp)
          have hTk := hR6.ents
          rw [show (⟨m.b, m.l⟩ : LG).l.length = N from HN.out] at hTk
          have hTk2 := hTk.take (m := P) hNc
          rw [show (⟨m.b, m.l⟩ : LG).l = m.l from rfl, enL_take, HGL.out] at hTk2
          obtain ⟨hS1, hS2⟩ := hR6.setE (ev' := .slice A1 P c1) (l' := gl) (by rw [HP.out]; exact hTk2) (by rw [HP.out]; show m.b.ix + (P : Int) ≤ _; have := HPN.out; omega) (fun h => hR6.nev (by cases A1 <;> exact h)) (fun q hq => hR6.lte q (by cases A1 <;> exact hq))
          have c4 := hR6.cells.cell (k := 4) rfl
          have f4 := hR6.cells.frozen 4
          have l4 := hR6.cells.lt
          have HRW := Lib.hid hS1
          have HYW := Lib.hid (hY6.far (p := ⟨r, 4, none⟩) (by show z ≠ r; omega) (.slice A1 P c1))
          have HOW := Lib.hid ((HO5.out.tr0 ho6).setCell (p := ⟨r, 4, none⟩) (.inl (by simp)) (.slice A1 P c1))
          obtain ⟨W6, hW6⟩ : ∃ W6, w6.setCell ⟨r, 4, none⟩ (.slice A1 P c1) = W6 := ⟨_, rfl⟩
          rw [hW6] at HRW HYW HOW
          have HW6 := Lib.hid hW6
          clear hR6 hY6 hTk hTk2 hS1 hS2 ho6 hW6
          have hbnd : m.b.ix + (P : Int) + 1 ≤ m.last + (k : Int) + 1 := by have := HPN.out; have := HY0.out; omega
          go_wp2_with fail
          rw [HW6.out]
          clear c4 f4 l4 HW6
          have HRoom : Hid (m.b.ix + ((P + 1 : Nat) : Int) ≤ 1000000) := by show _ ≤ _; omega
          have k4 := fun u : Since W6 => u.cell (HRW.out.cells.cell (k := 4) rfl)
          have HSrc := Lib.hid (HRW.out.ents.src (by decide))
          try rw [show (⟨m.b, gl⟩ : LG).l.length = P from HP.out] at k4
          rw [show (⟨m.b, gl⟩ : LG).l.length = P from HP.out] at HSrc
          have z0 := fun u : Since W6 => u.cell (HYW.out.cell (k := 0) rfl)
          have z1 := fun u : Since W6 => u.cell (HYW.out.cell (k := 1) rfl)
          have z2 := fun u : Since W6 => u.cell (HYW.out.cell (k := 2) rfl)
          have z3 := fun u : Since W6 => u.cell (HYW.out.cell (k := 3) rfl)
          refine wp_region_pendN W6 (Only.refl _ _) [(100, OwW W6.heap.size 40 4 0 []), (105, OwW W6.heap.size 40 4 P (enL gl)), (107, OwW W6.heap.size 40 4 1 y.cells), (108, OwW W6.heap.size 40 4 (P + 1) (enL gl ++ y.cells))] [(105, 100), (108, 105)] 12 (by intro p hp; simp at hp; rcases hp with rfl | rfl | rfl | rfl <;> exact OwW.lasts _ _ _ _ _) (by kernel_rfl) (by kernel_rfl) (by decide) (fun val => ?_)
          simp only [List.take_succ_cons, List.take_zero, List.drop_succ_cons, List.drop_zero]
          refine fit_segN 1 (by kernel_rfl) ?_
          simp only [List.take_succ_cons, List.take_zero, List.drop_succ_cons, List.drop_zero]
          repeat (go_big_quiet_step (fail))
          refine wpQuiet_nil ?_
          refine fit_litO 100 40 4 [] 0 rfl rfl (by simp) (by simp) rfl (by decide) (fun w5 => by go_simp) rfl ?_
          simp only [Act.put, List.setIfInBounds_toArray, List.set_cons_zero, List.set_cons_succ]
          refine fit_segN 4 (by kernel_rfl) ?_
          simp only [List.take_succ_cons, List.take_zero, List.drop_succ_cons, List.drop_zero]
          repeat (go_big_quiet_step (fail))
          refine wpQuiet_nil ?_
          refine fit_append 105 100 (.tmp 104) 31 40 i0 (.agg #[.int .i64 0, .int .i64 0, .int .i64 0, .string ⟨#[]⟩]) 4 40 Try.underlying31 hi0 hz0 hz1 hz2 rfl (by decide) 0 P P [] (enL gl) (enL gl) (by omega) rfl rfl rfl rfl (by simp) (by simp) (by simp) (by decide) rfl rfl (fun w5 hw5 => HSrc.out.only hw5.1) (by unfold maxLen; omega) (by omega) rfl ?_
          simp only [Act.put, List.setIfInBounds_toArray, List.set_cons_zero, List.set_cons_succ]
          refine fit_segN 1 (by kernel_rfl) ?_
          simp only [List.take_succ_cons, List.take_zero, List.drop_succ_cons, List.drop_zero]
          repeat (go_big_quiet_step (fail))
          refine wpQuiet_nil ?_
          refine fit_litO 107 40 4 y.cells 1 rfl rfl (by simp) (by simp) rfl (by decide) (fun w5 => by unfold En.cells; go_simp) rfl ?_
          simp only [Act.put, List.setIfInBounds_toArray, List.set_cons_zero, List.set_cons_succ]
          refine fit_append 108 105 (.tmp 107) 31 40 i0 (.agg #[.int .i64 0, .int .i64 0, .int .i64 0, .string ⟨#[]⟩]) 4 40 Try.underlying31 hi0 hz0 hz1 hz2 rfl (by decide) P 1 (P + 1) (enL gl) y.cells (enL gl ++ y.cells) (by omega) rfl rfl rfl rfl (by simp) (by simp) (by simp) (by decide) rfl rfl (fun w5 hw5 => SrcA.own (hw5.2 (107, OwW W6.heap.size 40 4 1 y.cells) (by simp) (by show 107 ∈ Oper.looksAt _ _; decide)) (by simp [En.cells, Value.oneCell'])) (by unfold maxLen; omega) (by omega) rfl ?_
          simp only [Act.put, List.setIfInBounds_toArray, List.set_cons_zero, List.set_cons_succ]
          refine fit_segN 2 (by kernel_rfl) ?_
          simp only [List.take_succ_cons, List.take_zero, List.drop_succ_cons, List.drop_zero]
          repeat (go_big_quiet_step (fail))
          refine wpQuiet_nil ?_
          intro w5 ho5 hV5
          have hown5 : w5.ownsRow W6.heap.size 40 4 (val 108) (P + 1) (enL gl ++ y.cells) := hV5 (by decide) (108, OwW W6.heap.size 40 4 (P + 1) (enL gl ++ y.cells)) (by simp) (by simp)
          obtain ⟨uu, huu⟩ : ∃ u, val 108 = u := ⟨_, rfl⟩
          rw [huu] at hown5 ⊢
          obtain ⟨A5, c5, rfl⟩ := (SlAt.of_own hown5).shape
          have hR5 := HRW.out.only ho5
          have hl5 : (gl ++ [y]).length = P + 1 := by rw [List.length_append, HP.out]; rfl
          have he5 : enL (gl ++ [y]) = enL gl ++ y.cells := by rw [enL_append]; simp [enL]
          have hnr : ∀ q, (Value.slice A5 (P + 1) c5).ownBlock = some q → W6.heap.size ≤ q ∧ q < w5.heap.size := fun q hq => hown5.lt q hq
          have hSet := hR5.setE (ev' := .slice A5 (P + 1) c5) (l' := gl ++ [y]) (by rw [hl5, he5]; exact RfS.of_own hown5 (by rw [← he5]; exact enL_one _)) (by rw [hl5]; exact HRoom.out) (fun hq => by have := (hnr r hq).1; have := HRW.out.cells.lt; omega) (fun q hq => (hnr q hq).2)
          have HSET := Lib.hid hSet
          have HNR := Lib.hid hnr
          have d4 := hR5.cells.cell (k := 4) rfl
          have f4 := hR5.cells.frozen 4
          have hb5 := hR5.cells.lt
          have HO5 := Lib.hid ho5
          clear hR5 hown5 hV5 huu hSet hnr ho5
          clear z0 z1 z2 z3 k4
          have HRN : Hid (RlV (w5.setCell ⟨r, 4, none⟩ (.slice A5 (P + 1) c5)) r vv (.slice A5 (P + 1) c5) ⟨m.b, gl ++ [y]⟩) := Lib.hid HSET.out.1
          have HQN : Hid (∀ q, (Value.slice A5 (P + 1) c5).ownBlock = some q → (Value.slice EA m.l.length ec).ownBlock = some q ∨ w.heap.size ≤ q) := Lib.hid fun q hq => .inr (Nat.le_trans HOW.out.size (HNR.out q hq).1)
          have HON : Hid (Only [r] w (w5.setCell ⟨r, 4, none⟩ (.slice A5 (P + 1) c5))) := Lib.hid ((HOW.out.tr HO5.out.of0).setCell (.inl (by simp)) _)
          go_wp2_with fail
          go_roundw
          case rel => first | exact ⟨k + 1, y.ix, gl ++ [y], _, by omega, by go_num, rfl, HRN, HQN, HON, by rw [hl5]; omega, HPH⟩ | ((repeat apply Exists.intro); refine And.intro ?_ rfl; exact ⟨k + 1, y.ix, gl ++ [y], _, by omega, by go_num, rfl, HRN, HQN, HON, by rw [hl5]; omega, HPH⟩)
          case measure => simp [intOf]; omega

      case inr =>
        have HGO : Hid (m.matchGo index fixed 0 l = ((⟨m.b, gl⟩ : LG).addAll (y0 :: l.drop (k + 1)), first)) := by show _ = _; rw [hgo, HDR.out]
        have d4 : decide (index + 1 + (k : Int) ≤ fixed) = false := by simp; omega
        have d6 : (first == 0) = false := by simp; omega
        obtain ⟨P, hPn⟩ : ∃ P, gl.length = P := ⟨_, rfl⟩
        have HP := Lib.hid hPn
        rw [hPn] at hgl hlen
        have HPH : Hid (Ph m index fixed l (k + 1) first (gl ++ [y])) := Lib.hid (by
          refine .inr ⟨hfp, ?_, ?_, ?_⟩
          · rw [HGO.out, addAll_cons, HYD.out ⟨m.b, gl⟩ (by unfold LG.last; rw [HP.out]; exact hgl)]
          · rw [List.length_append, HP.out]; simp; omega
          · omega)
        obtain ⟨u, hu⟩ : ∃ u, ((⟨m.b, gl⟩ : LG).term (index + 1 + (k : Int))).1 = u := ⟨_, rfl⟩
        obtain ⟨ub, hub⟩ : ∃ u, ((⟨m.b, gl⟩ : LG).term (index + 1 + (k : Int))).2 = u := ⟨_, rfl⟩
        unfold ibV at CT
        rw [hu, hub] at CT
        clear hgo hph hu hub hPn
        go_wp2_with fail
        refine (CT.out _ (Only.refl _ _)).mono ?_
        rintro e W6 ⟨rfl, ho5⟩
        have HYW := Lib.hid (HYC.out.only ho5 (by simp))
        have HRW := Lib.hid (HRX.out.only ho5)
        have HOW := Lib.hid (hON.out.tr0 ho5)
        have y0c := HYW.out.cell (k := 0) rfl
        have y1c := HYW.out.cell (k := 1) rfl
        obtain ⟨z, hz⟩ : ∃ z, wr.heap.size = z := ⟨_, rfl⟩
        have hzr : r < z := by rw [← hz]; exact hRV.out.cells.lt
        rw [hz] at HYW y0c y1c ⊢
        rw [← HY0.out]
        clear ho5 CT hz HYC HoX HRX hON
        obtain ⟨A1, c1, rfl, _, _⟩ := HRW.out.ents.shape
        have hbnd : m.b.ix + (P : Int) + 1 ≤ m.last + (k : Int) + 1 := by omega
        go_wp2_with fail
        clear y0c y1c
        have HRoom : Hid (m.b.ix + ((P + 1 : Nat) : Int) ≤ 1000000) := by show _ ≤ _; omega
        have k4 := fun u : Since W6 => u.cell (HRW.out.cells.cell (k := 4) rfl)
        have HSrc := Lib.hid (HRW.out.ents.src (by decide))
        try rw [show (⟨m.b, gl⟩ : LG).l.length = P from HP.out] at k4
        rw [show (⟨m.b, gl⟩ : LG).l.length = P from HP.out] at HSrc
        have z0 := fun u : Since W6 => u.cell (HYW.out.cell (k := 0) rfl)
        have z1 := fun u : Since W6 => u.cell (HYW.out.cell (k := 1) rfl)
        have z2 := fun u : Since W6 => u.cell (HYW.out.cell (k := 2) rfl)
        have z3 := fun u : Since W6 => u.cell (HYW.out.cell (k := 3) rfl)
        refine wp_region_pendN W6 (Only.refl _ _) [(100, OwW W6.heap.size 40 4 0 []), (105, OwW W6.heap.size 40 4 P (enL gl)), (107, OwW W6.heap.size 40 4 1 y.cells), (108, OwW W6.heap.size 40 4 (P + 1) (enL gl ++ y.cells))] [(105, 100), (108, 105)] 12 (by intro p hp; simp at hp; rcases hp with rfl | rfl | rfl | rfl <;> exact OwW.lasts _ _ _ _ _) (by kernel_rfl) (by kernel_rfl) (by decide) (fun val => ?_)
        simp only [List.take_succ_cons, List.take_zero, List.drop_succ_cons, List.drop_zero]
        refine fit_segN 1 (by kernel_rfl) ?_
        simp only [List.take_succ_cons, List.take_zero, List.drop_succ_cons, List.drop_zero]
        repeat (go_big_quiet_step (fail))
        refine wpQuiet_nil ?_
        refine fit_litO 100 40 4 [] 0 rfl rfl (by simp) (by simp) rfl (by decide) (fun w5 => by go_simp) rfl ?_
        simp only [Act.put, List.setIfInBounds_toArray, List.set_cons_zero, List.set_cons_succ]
        refine fit_segN 4 (by kernel_rfl) ?_
        simp only [List.take_succ_cons, List.take_zero, List.drop_succ_cons, List.drop_zero]
        repeat (go_big_quiet_step (fail))
        refine wpQuiet_nil ?_
        refine fit_append 105 100 (.tmp 104) 31 40 i0 (.agg #[.int .i64 0, .int .i64 0, .int .i64 0, .string ⟨#[]⟩]) 4 40 Try.underlying31 hi0 hz0 hz1 hz2 rfl (by decide) 0 P P [] (enL gl) (enL gl) (by omega) rfl rfl rfl rfl (by simp) (by simp) (by simp) (by decide) rfl rfl (fun w5 hw5 => HSrc.out.only hw5.1) (by unfold maxLen; omega) (by omega) rfl ?_
        simp only [Act.put, List.setIfInBounds_toArray, List.set_cons_zero, List.set_cons_succ]
        refine fit_segN 1 (by kernel_rfl) ?_
        simp only [List.take_succ_cons, List.take_zero, List.drop_succ_cons, List.drop_zero]
        repeat (go_big_quiet_step (fail))
        refine wpQuiet_nil ?_
        refine fit_litO 107 40 4 y.cells 1 rfl rfl (by simp) (by simp) rfl (by decide) (fun w5 => by unfold En.cells; go_simp) rfl ?_
        simp only [Act.put, List.setIfInBounds_toArray, List.set_cons_zero, List.set_cons_succ]
        refine fit_append 108 105 (.tmp 107) 31 40 i0 (.agg #[.int .i64 0, .int .i64 0, .int .i64 0, .string ⟨#[]⟩]) 4 40 Try.underlying31 hi0 hz0 hz1 hz2 rfl (by decide) P 1 (P + 1) (enL gl) y.cells (enL gl ++ y.cells) (by omega) rfl rfl rfl rfl (by simp) (by simp) (by simp) (by decide) rfl rfl (fun w5 hw5 => SrcA.own (hw5.2 (107, OwW W6.heap.size 40 4 1 y.cells) (by simp) (by show 107 ∈ Oper.looksAt _ _; decide)) (by simp [En.cells, Value.oneCell'])) (by unfold maxLen; omega) (by omega) rfl ?_
        simp only [Act.put, List.setIfInBounds_toArray, List.set_cons_zero, List.set_cons_succ]
        refine fit_segN 2 (by kernel_rfl) ?_
        simp only [List.take_succ_cons, List.take_zero, List.drop_succ_cons, List.drop_zero]
        repeat (go_big_quiet_step (fail))
        refine wpQuiet_nil ?_
        intro w5 ho5 hV5
        have hown5 : w5.ownsRow W6.heap.size 40 4 (val 108) (P + 1) (enL gl ++ y.cells) := hV5 (by decide) (108, OwW W6.heap.size 40 4 (P + 1) (enL gl ++ y.cells)) (by simp) (by simp)
        obtain ⟨uu, huu⟩ : ∃ u, val 108 = u := ⟨_, rfl⟩
        rw [huu] at hown5 ⊢
        obtain ⟨A5, c5, rfl⟩ := (SlAt.of_own hown5).shape
        have hR5 := HRW.out.only ho5
        have hl5 : (gl ++ [y]).length = P + 1 := by rw [List.length_append, HP.out]; rfl
        have he5 : enL (gl ++ [y]) = enL gl ++ y.cells := by rw [enL_append]; simp [enL]
        have hnr : ∀ q, (Value.slice A5 (P + 1) c5).ownBlock = some q → W6.heap.size ≤ q ∧ q < w5.heap.size := fun q hq => hown5.lt q hq
        have hSet := hR5.setE (ev' := .slice A5 (P + 1) c5) (l' := gl ++ [y]) (by rw [hl5, he5]; exact RfS.of_own hown5 (by rw [← he5]; exact enL_one _)) (by rw [hl5]; exact HRoom.out) (fun hq => by have := (hnr r hq).1; have := HRW.out.cells.lt; omega) (fun q hq => (hnr q hq).2)
        have HSET := Lib.hid hSet
        have HNR := Lib.hid hnr
        have d4 := hR5.cells.cell (k := 4) rfl
        have f4 := hR5.cells.frozen 4
        have hb5 := hR5.cells.lt
        have HO5 := Lib.hid ho5
        clear hR5 hown5 hV5 huu hSet hnr ho5
        clear z0 z1 z2 z3 k4
        have HRN : Hid (RlV (w5.setCell ⟨r, 4, none⟩ (.slice A5 (P + 1) c5)) r vv (.slice A5 (P + 1) c5) ⟨m.b, gl ++ [y]⟩) := Lib.hid HSET.out.1
        have HQN : Hid (∀ q, (Value.slice A5 (P + 1) c5).ownBlock = some q → (Value.slice EA m.l.length ec).ownBlock = some q ∨ w.heap.size ≤ q) := Lib.hid fun q hq => .inr (Nat.le_trans HOW.out.size (HNR.out q hq).1)
        have HON : Hid (Only [r] w (w5.setCell ⟨r, 4, none⟩ (.slice A5 (P + 1) c5))) := Lib.hid ((HOW.out.tr HO5.out.of0).setCell (.inl (by simp)) _)
        go_wp2_with fail
        go_roundw
        case rel => first | exact ⟨k + 1, first, gl ++ [y], _, by omega, by go_num, rfl, HRN, HQN, HON, by rw [hl5]; omega, HPH⟩ | ((repeat apply Exists.intro); refine And.intro ?_ rfl; exact ⟨k + 1, first, gl ++ [y], _, by omega, by go_num, rfl, HRN, HQN, HON, by rw [hl5]; omega, HPH⟩)
        case measure => simp [intOf]; omega
end Go.Proofs.Ytagklgodcbmcaaa
