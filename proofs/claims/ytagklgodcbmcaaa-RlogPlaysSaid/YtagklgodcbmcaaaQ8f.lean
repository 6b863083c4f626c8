/-
  Chapter 8: the document's log: Compact, Restore.
-/
import Derived.Test.YtagklgodcbmcaaaQ8e
namespace Go.Proofs.Ytagklgodcbmcaaa
open Go.RowKit
theorem rlk_last (r : Nat) (K : List Nat) (m : LG) (w : World) (h : RlK w K r m) : Calls Try.prog 38 #[.pointer (some ⟨r, 0, none⟩)] w fun e w' => e = .returned (.int .i64 m.last) ∧ Only [] w w' := by
  obtain ⟨vv, ev, h, _, _⟩ := h
  exact rl_last r vv ev m w h
theorem rlk_term (r : Nat) (K : List Nat) (m : LG) (i : Int) (w : World) (h : RlK w K r m) : Calls Try.prog 68 #[.pointer (some ⟨r, 0, none⟩), .int .i64 i] w fun e w' => e = .returned (ibV (m.term i)) ∧ Only [] w w' := by
  obtain ⟨vv, ev, h, _, _⟩ := h
  exact rl_term r vv ev m i w h
/-- The base is another one now. -/
theorem RlV.setB {w : World} {r : Nat} {vv ev vv' : Value} {m : LG} (x : Bas) (h : RlV w r vv ev m) (hv : RfS w vv' 1 x.vs.length (gvs x.vs)) (hn : vv'.ownBlock ≠ some r) (hlt : ∀ q, vv'.ownBlock = some q → q < w.heap.size) (h0 : 0 ≤ x.ix) (hl : x.ix + m.l.length ≤ 1000000) (hvl : x.vs.length ≤ 1000) :
    RlV ((((w.setCell ⟨r, 0, none⟩ (.int .i64 x.ix)).setCell ⟨r, 1, none⟩ (.int .i64 x.tm)).setCell ⟨r, 2, none⟩ vv').setCell ⟨r, 3, none⟩ (.string x.d)) r vv' ev ⟨x, m.l⟩ ∧ Only [r] w ((((w.setCell ⟨r, 0, none⟩ (.int .i64 x.ix)).setCell ⟨r, 1, none⟩ (.int .i64 x.tm)).setCell ⟨r, 2, none⟩ vv').setCell ⟨r, 3, none⟩ (.string x.d)) := by
  have ho : Only [r] w ((((w.setCell ⟨r, 0, none⟩ (.int .i64 x.ix)).setCell ⟨r, 1, none⟩ (.int .i64 x.tm)).setCell ⟨r, 2, none⟩ vv').setCell ⟨r, 3, none⟩ (.string x.d)) :=
    ((((Only.refl _ w).setCell (.inl (by simp)) _).setCell (.inl (by simp)) _).setCell (.inl (by simp)) _).setCell (.inl (by simp)) _
  exact ⟨⟨(((h.cells.set 0 _).set 1 _).set 2 _).set 3 _, h.ents.keep ho (fun q hq => by simp at hq; subst hq; exact h.nev), hv.keep ho (fun q hq => by simp at hq; subst hq; exact hn), h.nev, hn, fun q hq => Nat.lt_of_lt_of_le (h.lte q hq) ho.size, fun q hq => Nat.lt_of_lt_of_le (hlt q hq) ho.size, h0, hl, hvl⟩, ho⟩
set_option maxRecDepth 100000 in
set_option maxHeartbeats 4000000 in
theorem rl_compact (r : Nat) (K : List Nat) (m : LG) (i : Int) (d : ByteArray) (w : World) (h : RlK w K r m) (hd : DOk m.l) (hx : IxOk m) :
    Calls Try.prog 64 #[.pointer (some ⟨r, 0, none⟩), .int .i64 i, .string d] w fun e w' => e = .returned (.int .i64 (cErr (m.compact i d).2)) ∧ RDoes w w' K r (m.compact i d).1 := by
  obtain ⟨vv, ev, h, hK, hKl⟩ := h
  have CL := Lib.hid (fun w' (ho : Only [] w w') => rl_last r vv ev m w' (h.only ho))
  have c0 := h.cells.cell (k := 0) rfl
  have lo := h.lo
  have hi := h.hi
  have HK := Lib.hid (⟨vv, ev, h, hK, hKl⟩ : RlK w K r m)
  by_cases h1 : i ≤ m.b.ix
  · have ht : Hid (m.compact i d = (m, false)) := by show _ = _; unfold LG.compact; rw [if_pos (.inl h1)]
    have d1 : decide (i ≤ m.b.ix) = true := by simpa using h1
    clear h hK hKl
    go_enter Try.func64, Try.ntmps64
    go_wp2_with fail
    go_ret
    rw [ht.out]
    exact ⟨rfl, RDoes.refl HK.out⟩
  have d1 : decide (i ≤ m.b.ix) = false := by simpa using h1
  by_cases h2 : m.last < i
  · have ht : Hid (m.compact i d = (m, false)) := by show _ = _; unfold LG.compact; rw [if_pos (.inr h2)]
    have d2 : decide (m.last < i) = true := by simpa using h2
    clear h hK hKl
    go_enter Try.func64, Try.ntmps64
    go_wp2_with fail
    refine (CL.out _ (Only.refl _ _)).mono ?_
    rintro e w1 ⟨rfl, ho1⟩
    go_wp2_with fail
    go_ret
    rw [ht.out]
    exact ⟨rfl, RDoes.tr0 (RDoes.refl HK.out) ho1⟩
  have d2 : decide (m.last < i) = false := by simpa using h2
  obtain ⟨j, hj⟩ : ∃ j : Nat, i - m.b.ix = j := ⟨(i - m.b.ix).toNat, by omega⟩
  obtain ⟨N, hN⟩ : ∃ N, m.l.length = N := ⟨_, rfl⟩
  have hjN : 1 ≤ j ∧ j ≤ N := by unfold LG.last at h2; omega
  obtain ⟨hj1, hjN⟩ := hjN
  obtain ⟨t, htt⟩ : ∃ t, (m.term i).1 = t := ⟨_, rfl⟩
  obtain ⟨tb, htb⟩ : ∃ t, (m.term i).2 = t := ⟨_, rfl⟩
  obtain ⟨vl, hvl⟩ : ∃ v, m.voters i = v := ⟨_, rfl⟩
  have ht : Hid (m.compact i d = (⟨⟨i, t, vl, d⟩, m.l.drop j⟩, true)) := by
    show _ = _; unfold LG.compact; rw [if_neg (by omega), hj, Int.toNat_natCast, htt, hvl]
  have CT := Lib.hid (fun w' (ho : Only [] w w') => rl_term r vv ev m i w' (h.only ho))
  have CV := Lib.hid (fun w' (ho : Only [] w w') => rl_voters r vv ev m i w' (h.only ho) hd hx)
  have hvlen : vl.length ≤ 1000 := by rw [← hvl]; exact lastV_len _ _ h.vlen
  unfold ibV at CT
  rw [htt, htb] at CT
  rw [hvl] at CV
  obtain ⟨A, c, rfl, hnc, hcm⟩ := h.ents.shape
  obtain ⟨q, o, hA⟩ : ∃ q o, A = some ⟨q, o, none⟩ := by
    obtain ⟨b, o, c', hv, _⟩ := h.ents.sl.at_ (by omega)
    injection hv with e1
    exact ⟨b, o, e1⟩
  subst hA
  have H := Lib.hid h
  have HKK := Lib.hid hK
  have HN := Lib.hid hN
  rw [hN] at hnc
  have hjN' : (j : Int) ≤ (N : Int) := by omega
  have hjb : (j : Int) ≤ 1000000 := by omega
  clear h hK hKl hd hx htt htb hvl h1 h2 hN
  go_enter Try.func64, Try.ntmps64
  go_wp2_with fail
  refine (CL.out _ (Only.refl _ _)).mono ?_
  rintro e w1 ⟨rfl, ho1⟩
  go_wp2_with fail
  refine (CT.out _ ho1).mono ?_
  rintro e w2 ⟨rfl, ho2⟩
  have ho12 := ho1.tr ho2
  clear ho1 ho2
  go_wp2_with fail
  refine (CV.out _ ho12).mono ?_
  rintro e w3 ⟨v', rfl, hrv, hrb, ho3⟩
  obtain ⟨A', c', rfl, _, _⟩ := hrv.shape
  have HRV := Lib.hid hrv
  have HRB := Lib.hid hrb
  have ho13 := Lib.hid (ho12.tr ho3)
  have hs12 := ho12.size
  clear hrv hrb ho12 ho3 CL CT CV
  go_wp2_with fail
  have hX := Cells.new w3 27 [.int .i64 i, .int .i64 t, .slice A' vl.length c', .string d]
  have hoX : Only [] w3 (w3.alloc (.cells #[.int .i64 i, .int .i64 t, .slice A' vl.length c', .string d] 27)) := (Only.refl _ w3).alloc _
  obtain ⟨W, hW⟩ : ∃ W, w3.alloc (.cells #[.int .i64 i, .int .i64 t, .slice A' vl.length c', .string d] 27) = W := ⟨_, rfl⟩
  have hzr : r < w3.heap.size := Nat.lt_of_lt_of_le H.out.cells.lt ho13.out.size
  obtain ⟨z, hz⟩ : ∃ z, w3.heap.size = z := ⟨_, rfl⟩
  rw [hW] at hX hoX ⊢
  rw [hz] at hX hzr ⊢
  clear hW hz
  have hN4 := H.out.only (ho13.out.tr hoX)
  have c4 := fun u : Since W => u.cell (hN4.cells.cell (k := 4) rfl)
  have k0 := fun u : Since W => u.cell (hN4.cells.cell (k := 0) rfl)
  rw [HN.out] at c4
  have HN4 := Lib.hid hN4
  have HX := Lib.hid hX
  have HoX := Lib.hid hoX
  clear hN4 hX hoX
  refine wp_region_only_tail W (Only.refl _ _) 15 (by kernel_rfl) (by kernel_rfl) ?_
  simp only [List.take_succ_cons, List.take_zero, List.drop_succ_cons, List.drop_zero]
  repeat (go_big_quiet_step (fail))
  refine wpQuiet_nil ?_
  rintro ⟨w5, ho5⟩
  dsimp only
  clear c4 k0
  have hN5 := HN4.out.only ho5
  have hX5 := HX.out.only ho5 (by simp)
  have hRV5 := Lib.hid ((HRV.out.only HoX.out).only ho5)
  have hO5 := Lib.hid ((ho13.out.tr HoX.out).tr ho5)
  have HN5 := Lib.hid hN5
  have e0 := hX5.cell (k := 0) rfl
  have e1 := hX5.cell (k := 1) rfl
  have e2 := hX5.cell (k := 2) rfl
  have e3 := hX5.cell (k := 3) rfl
  have zl := hX5.lt
  have g0 := hN5.cells.cell (k := 0) rfl
  have g1 := hN5.cells.cell (k := 1) rfl
  have g2 := hN5.cells.cell (k := 2) rfl
  have g3 := hN5.cells.cell (k := 3) rfl
  have g4 := hN5.cells.cell (k := 4) rfl
  have f0 := hN5.cells.frozen 0
  have f1 := hN5.cells.frozen 1
  have f2 := hN5.cells.frozen 2
  have f3 := hN5.cells.frozen 3
  have f4 := hN5.cells.frozen 4
  have rl := hN5.cells.lt
  have hne : z ≠ r := by omega
  have hne2 : r ≠ z := by omega
  have hEn := HN5.out.ents
  rw [HN.out] at hEn
  have hDr := hEn.drop (j := j) hjN
  rw [enL_drop] at hDr
  have hdl : (m.l.drop j).length = N - j := by rw [List.length_drop, HN.out]
  have hpost : ∀ ev', RfS w5 ev' 4 (N - j) (enL (m.l.drop j)) → ev'.ownBlock = some q → RDoes w (((((w5.setCell ⟨r, 4, none⟩ ev').setCell ⟨r, 0, none⟩ (.int .i64 i)).setCell ⟨r, 1, none⟩ (.int .i64 t)).setCell ⟨r, 2, none⟩ (.slice A' vl.length c')).setCell ⟨r, 3, none⟩ (.string d)) K r ⟨⟨i, t, vl, d⟩, m.l.drop j⟩ := by
    intro ev' hev hob
    have hq1 : q ≠ r := fun h => H.out.nev (by rw [← h]; rfl)
    have hqv : ∀ q', (Value.slice A' vl.length c').ownBlock = some q' → q' ≠ r ∧ q' < w3.heap.size ∧ (vv.ownBlock = some q' ∨ w.heap.size ≤ q') := fun q' hq' => by
      obtain ⟨h1, h2⟩ := HRB.out q' hq'
      refine ⟨?_, h1, h2.imp_right fun h => by omega⟩
      rintro rfl
      rcases h2 with h2 | h2
      · exact H.out.nvv h2
      · have := H.out.cells.lt; omega
    obtain ⟨hA1, hA2⟩ := HN5.out.setE (ev' := ev') (l' := m.l.drop j) (by rw [hdl]; exact hev) (by rw [hdl]; have := HN.out; omega) (by rw [hob]; intro h; injection h with h; exact hq1 h) (fun q' hq' => by rw [hob] at hq'; injection hq' with hq'; subst hq'; exact HN5.out.lte q rfl)
    obtain ⟨hB1, hB2⟩ := hA1.setB ⟨i, t, vl, d⟩ (vv' := .slice A' vl.length c') (hRV5.out.keep hA2 (fun x hx => by simp at hx; subst hx; exact fun h => (hqv x h).1 rfl)) (fun h => (hqv r h).1 rfl) (fun q' hq' => Nat.lt_of_lt_of_le (hqv q' hq').2.1 (Nat.le_trans HoX.out.size (Nat.le_trans ho5.size hA2.size))) (by show 0 ≤ i; omega) (by show i + ((m.l.drop j).length : Int) ≤ 1000000; rw [hdl]; have := HN.out; omega) hvlen
    exact RDoes.ofV HKK.out hB1 ((hO5.out.of0.tr hA2).tr hB2) (fun q' hq' => .inl (by rw [hob] at hq'; exact hq')) (fun q' hq' => (hqv q' hq').2.2)
  have HP := Lib.hid hpost
  have HDr := Lib.hid hDr
  clear hN5 hX5 hEn hDr hpost hRV5 hO5 HRV HRB ho13
  by_cases hcj : c = j
  · rw [if_pos hcj] at HDr
    subst hcj
    obtain rfl : N = c := by omega
    rw [Nat.sub_self] at HDr HP
    go_wp2_with fail
    go_ret
    rw [ht.out]
    exact ⟨rfl, HP.out _ HDr.out rfl⟩
  · rw [if_neg hcj] at HDr
    simp only [Option.map_some, Addr.add_lit] at HDr
    go_wp2_with fail
    go_ret
    rw [ht.out]
    exact ⟨rfl, HP.out _ HDr.out rfl⟩
set_option maxRecDepth 100000 in
set_option maxHeartbeats 4000000 in
theorem rl_restore (r : Nat) (K : List Nat) (m : LG) (x : Bas) (xv : Value) (w0 w : World) (hw : Only [] w0 w) (h : RlK w0 K r m) (hx : IxOk m) (hxv : RfS w xv 1 x.vs.length (gvs x.vs)) (hxb : ∀ q, xv.ownBlock = some q → w0.heap.size ≤ q ∧ q < w.heap.size) (h0 : 0 ≤ x.ix) (hi6 : x.ix + m.l.length ≤ 1000000) (hvx : x.vs.length ≤ 1000) :
    Calls Try.prog 65 #[.pointer (some ⟨r, 0, none⟩), x.val xv] w fun e w' => e = .returned (.bool (m.restore x).2) ∧ RDoes w0 w' K r (m.restore x).1 := by
  obtain ⟨i0, hi0, hz0, hz1, hz2⟩ := info_parts info_ent
  obtain ⟨vv, ev, h, hK, hKl⟩ := h
  obtain ⟨XA, xc, rfl, _, _⟩ := hxv.shape
  obtain ⟨A, c, rfl, _, _⟩ := h.ents.shape
  have hw0 := h.only hw
  have CT := Lib.hid (fun w' (ho : Only [] w w') => rl_term r vv _ m x.ix w' (hw0.only ho))
  have lo := h.lo
  have hi := h.hi
  obtain ⟨t, htt⟩ : ∃ t, (m.term x.ix).1 = t := ⟨_, rfl⟩
  obtain ⟨ok, hok⟩ : ∃ ok, (m.term x.ix).2 = ok := ⟨_, rfl⟩
  unfold ibV at CT
  rw [htt, hok] at CT
  have HKK := Lib.hid hK
  have HXB := Lib.hid hxb
  have hA : Only [] w (w.alloc (.cells #[.int .i64 x.ix, .int .i64 x.tm, .slice XA x.vs.length xc, .string x.d] 27)) := (Only.refl _ w).alloc _
  have hX := Cells.new w 27 [.int .i64 x.ix, .int .i64 x.tm, .slice XA x.vs.length xc, .string x.d]
  have hbw := h.cells.lt
  have hbw2 := Nat.lt_of_lt_of_le hbw hw.size
  have H := Lib.hid h
  have HW := Lib.hid hw
  have HXV := Lib.hid hxv
  have HIX := Lib.hid hx
  have HTO : Hid (ok = true → m.b.ix ≤ x.ix ∧ x.ix ≤ m.last) := by show _ → _; rw [← hok]; exact LG.term_ok
  have HRS : Hid (m.restore x = if ok = true ∧ t = x.tm then (⟨x, m.l.drop (x.ix - m.b.ix).toNat⟩, true) else (⟨x, []⟩, false)) := by show _ = _; unfold LG.restore; rw [htt, hok]
  obtain ⟨N, hN⟩ : ∃ N, m.l.length = N := ⟨_, rfl⟩
  have HN := Lib.hid hN
  rw [hN] at hi hi6
  obtain ⟨kb, hkb⟩ : ∃ kb : Bool, (ok && (t == x.tm)) = kb := ⟨_, rfl⟩
  have HKB : Hid ((kb = true ∧ m.restore x = (⟨x, m.l.drop (x.ix - m.b.ix).toNat⟩, true) ∧ m.b.ix ≤ x.ix ∧ x.ix ≤ m.last) ∨ (kb = false ∧ m.restore x = (⟨x, []⟩, false))) := by
    show _ ∨ _
    by_cases hc : ok = true ∧ t = x.tm
    · left
      refine ⟨?_, by rw [HRS.out, if_pos hc], HTO.out hc.1⟩
      rw [← hkb, hc.1, hc.2]; simp
    · right
      refine ⟨?_, by rw [HRS.out, if_neg hc]⟩
      rw [← hkb]
      cases ok with
      | false => rfl
      | true => simp at hc; simpa using hc
  have HKQ : Hid ((ok = true ∧ (t == x.tm) = kb) ∨ (ok = false ∧ kb = false)) := by
    show _ ∨ _
    cases ok with
    | true => left; exact ⟨rfl, by simpa using hkb⟩
    | false => right; exact ⟨rfl, by simpa using hkb.symm⟩
  unfold Bas.val
  clear h hK hKl hxv hx hxb htt hok hw hw0 hN hkb
  go_enter Try.func65, Try.ntmps65
  go_wp2_with fail
  refine (CT.out _ hA).mono ?_
  rintro e w1 ⟨rfl, ho1⟩
  have hX1 := hX.only ho1 (by simp)
  have hoB := hA.tr ho1
  obtain ⟨z, hz⟩ : ∃ z, w.heap.size = z := ⟨_, rfl⟩
  have hzr : r ≠ z := by omega
  have hzr' : z ≠ r := by omega
  have hzw : w0.heap.size ≤ z := by rw [← hz]; exact HW.out.size
  rw [hz] at hX1 ⊢
  have HX1 := Lib.hid hX1
  have HoB := Lib.hid hoB
  have x1 := hX1.cell (k := 1) rfl
  clear hX hX1 hoB ho1 hA CT hz HRS HTO
  have key : ∀ (wr : World) (u : Value) (l' : List En) (kb : Bool), m.restore x = (⟨x, l'⟩, kb) → w1.heap.size ≤ wr.heap.size → Only [] w wr → wr.ownsRow w.heap.size 40 4 u l'.length (enL l') → l'.length ≤ N ∧ x.ix + (l'.length : Int) ≤ 1000000 →
      RDoes w0 (((((wr.setCell ⟨r, 0, none⟩ (.int .i64 x.ix)).setCell ⟨r, 1, none⟩ (.int .i64 x.tm)).setCell ⟨r, 2, none⟩ (.slice XA x.vs.length xc)).setCell ⟨r, 3, none⟩ (.string x.d)).setCell ⟨r, 4, none⟩ u) K r (m.restore x).1 := by
    intro wr u l' kb hres hsz ho hown hlen
    rw [hres]
    have hR := (H.out.only HW.out).only ho
    have hXr := HXV.out.only ho
    have hoW := HW.out.tr ho
    obtain ⟨hB1, hB2⟩ := hR.setB x (vv' := .slice XA x.vs.length xc) hXr (fun h => by have := (HXB.out r h).1; omega) (fun q hq => Nat.lt_of_lt_of_le (HXB.out q hq).2 ho.size) h0 (by rw [HN.out]; exact hi6) hvx
    have hown' := own_keep hown hB2 (fun y hy => by simp at hy; subst hy; intro hu; have := (hown.lt _ hu).1; omega)
    obtain ⟨hE1, hE2⟩ := hB1.setE (ev' := u) (l' := l') (RfS.of_own hown' (enL_one _)) hlen.2 (fun hu => by have := (hown.lt _ hu).1; omega) (fun q hq => (hown'.lt q hq).2)
    exact RDoes.ofV HKK.out hE1 ((hoW.of0.tr hB2).tr hE2) (fun q hq => .inr (by have := (hown.lt q hq).1; have := HW.out.size; omega)) (fun q hq => .inr (HXB.out q hq).1)
  have KEY := Lib.hid key
  clear key
  rcases HKB.out with ⟨rfl, hres, hin0, hin1⟩ | ⟨rfl, hres⟩
  case inr =>
    have HRES := Lib.hid hres
    have hsz := HoB.out.size
    have hown0 := World.ownsRow_nil w1 w.heap.size 40 4
    have hR1 := (H.out.only HW.out).only HoB.out
    have k4 := hR1.cells.cell (k := 4) rfl
    rw [HN.out] at k4
    have g0 := hR1.cells.cell (k := 0) rfl
    have g1 := hR1.cells.cell (k := 1) rfl
    have g2 := hR1.cells.cell (k := 2) rfl
    have g3 := hR1.cells.cell (k := 3) rfl
    have f0 := hR1.cells.frozen 0
    have f1 := hR1.cells.frozen 1
    have f2 := hR1.cells.frozen 2
    have f3 := hR1.cells.frozen 3
    have f4 := hR1.cells.frozen 4
    have rl := hR1.cells.lt
    have x0 := HX1.out.cell (k := 0) rfl
    have x2 := HX1.out.cell (k := 2) rfl
    have x3 := HX1.out.cell (k := 3) rfl
    have zl := HX1.out.lt
    have HFIN := Lib.hid (KEY.out w1 (.slice none 0 0) [] false hres (Nat.le_refl _) HoB.out (World.ownsRow_nil _ _ _ _) ⟨Nat.zero_le _, by simp; omega⟩)
    clear hR1 hres KEY hown0 HKB
    rcases HKQ.out with ⟨rfl, hq⟩ | ⟨rfl, _⟩
    all_goals
      go_wp2_with fail
      go_loop [8, 9] (fun u n => u = .slice none 0 0 ∧ n = .int .i64 0) (fun _ _ => 0)
      case atStart => exact ⟨rfl, rfl⟩
      case round =>
        obtain ⟨rfl, rfl⟩ := hrel
        by_cases hN0 : 0 < N
        · have hd : decide ((0 : Int) < (N : Int)) = true := by simp; omega
          go_wp2_with fail
          go_ret
          exact ⟨by rw [HRES.out]; rfl, HFIN.out⟩
        · have hd : decide ((0 : Int) < (N : Int)) = false := by simp; omega
          go_wp2_with fail
          go_ret
          exact ⟨by rw [HRES.out]; rfl, HFIN.out⟩
  case inl =>
    obtain ⟨n0, hn0⟩ : ∃ n : Nat, x.ix - m.b.ix = n := ⟨(x.ix - m.b.ix).toNat, by omega⟩
    rw [hn0, Int.toNat_natCast] at hres
    have HRES := Lib.hid hres
    have HN0 := Lib.hid hn0
    have hn0N : Hid (n0 ≤ N) := by show _ ≤ _; unfold LG.last at hin1; rw [HN.out] at hin1; omega
    obtain ⟨hok, htk⟩ : ok = true ∧ (t == x.tm) = true := by
      rcases HKQ.out with ⟨h1, h2⟩ | ⟨_, h2⟩
      · exact ⟨h1, h2⟩
      · cases h2
    subst hok
    have hR1 := (H.out.only HW.out).only HoB.out
    have k4 := hR1.cells.cell (k := 4) rfl
    rw [HN.out] at k4
    clear hres hn0 hin0 hin1 HKB HKQ
    go_wp2_with fail
    clear k4 x1 hR1
    go_loopw [8, 9] (fun u i wr => ∃ (j n : Nat), j ≤ N ∧ n = ((m.l.take j).drop n0).length ∧ (∃ A c, u = .slice A n c) ∧ i = .int .i64 j ∧ Hid (wr.ownsRow w.heap.size 40 4 u n (enL ((m.l.take j).drop n0))) ∧ Hid (Only [] w wr) ∧ Hid (Cells wr z 27 [.int .i64 x.ix, .int .i64 x.tm, .slice XA x.vs.length xc, .string x.d]) ∧ Hid (w1.heap.size ≤ wr.heap.size)) (fun _ i _ => N - (intOf i).toNat)
    case atStart => exact ⟨0, 0, by omega, by simp, ⟨_, _, rfl⟩, rfl, Lib.hid (by simpa [enL] using World.ownsRow_nil _ _ _ _), HoB, HX1, Lib.hid (Nat.le_refl _)⟩
    case round =>
      obtain ⟨j, n, hj, hn, ⟨Au, cu, rfl⟩, rfl, hown, ho, hX, hsz⟩ := hrel
      have HNN := Lib.hid hn
      have hRV := (H.out.only HW.out).only ho.out
      have c4 := hRV.cells.cell (k := 4) rfl
      rw [HN.out] at c4
      have hnN : n ≤ N := by rw [hn, List.length_drop, List.length_take, HN.out]; omega
      clear hn
      by_cases hlt : j < N
      · have hlt' : (j : Int) < (N : Int) := by omega
        obtain ⟨y, hy⟩ : ∃ y, m.l[j]? = some y := ⟨_, List.getElem?_eq_getElem (by rw [HN.out]; exact hlt)⟩
        have HYI := Lib.hid (HIX.out j y hy)
        obtain ⟨q, o, c', hv, e0, e1, e2, e3⟩ := hRV.ent hy
        injection hv with i1 i2 i3
        subst i1
        subst i3
        have htk' := Lib.hid (take_drop_snoc m.l j n0 y hy)
        have z0 := fun u : Since wr => u.cell (hX.out.cell (k := 0) rfl)
        have r4 := fun u : Since wr => u.cell c4
        have r0 := fun u : Since wr => u.cell e0
        have hqw := hRV.lte q rfl
        have HRV := Lib.hid hRV
        clear i2 hRV hy
        have hstep : ∀ (w5 : World), Only [] wr w5 → w5.cell? ⟨r, 4, none⟩ = some (.slice (some ⟨q, o, none⟩) N c) ∧ w5.cell? ⟨q, o + j * 4, none⟩ = some (.int .i64 y.ix) ∧ w5.cell? ⟨q, o + j * 4 + 1, none⟩ = some (.int .i64 y.tm) ∧ w5.cell? ⟨q, o + j * 4 + 2, none⟩ = some (.int .i64 y.kd) ∧ w5.cell? ⟨q, o + j * 4 + 3, none⟩ = some (.string y.d) := fun w5 ho5 =>
          ⟨r4 ⟨w5, ho5⟩, (ho5.cell (p := ⟨q, o + j * 4, none⟩) hqw (by simp)).trans e0, (ho5.cell (p := ⟨q, o + j * 4 + 1, none⟩) hqw (by simp)).trans e1, (ho5.cell (p := ⟨q, o + j * 4 + 2, none⟩) hqw (by simp)).trans e2, (ho5.cell (p := ⟨q, o + j * 4 + 3, none⟩) hqw (by simp)).trans e3⟩
        have HST := Lib.hid hstep
        clear hstep e0 e1 e2 e3
        obtain ⟨db, hdb⟩ : ∃ b, decide (x.ix < y.ix) = b := ⟨_, rfl⟩
        have HDB : Hid ((db = true ∧ n0 ≤ j) ∨ (db = false ∧ ¬ n0 ≤ j)) := by
          show _ ∨ _
          have h1 := HN0.out
          have h2 := HYI.out
          by_cases hk : n0 ≤ j
          · left; exact ⟨by rw [← hdb]; simp; omega, hk⟩
          · right; exact ⟨by rw [← hdb]; simp; omega, hk⟩
        go_wp2_with fail
        refine wp_region_only wr (Only.refl _ _) (by kernel_rfl) (by kernel_rfl) ?_
        repeat (go_big_quiet_step (fail))
        refine wpQuiet_nil ?_
        rintro ⟨w5, ho5⟩
        dsimp only
        clear z0 r4 r0 hqw c4
        obtain ⟨c4, e0, e1, e2, e3⟩ := HST.out w5 ho5
        have hown5 := Lib.hid (own_only hown.out ho5 (by simp))
        have ho5' := Lib.hid (ho.out.tr ho5)
        have hX5 := Lib.hid (hX.out.only ho5 (by simp))
        have hsz5 : Hid (w1.heap.size ≤ w5.heap.size) := Lib.hid (Nat.le_trans hsz.out ho5.size)
        clear hown ho hX hsz ho5 HST HRV
        clear hdb
        rcases HDB.out with ⟨rfl, hk⟩ | ⟨rfl, hk⟩
        · rw [if_pos hk] at htk'
          go_wp2_with (at_builtin
                       refine wpList_app rfl _ _ 31 rfl w.heap.size 40 i0 _ 4 40 Try.underlying31 hi0 hz0 hz1 hz2 rfl (by decide) w5 (.slice Au n cu) n (enL ((m.l.take j).drop n0)) rfl hown5.out 1 1 y.cells rfl rfl (by simp [En.cells, Value.oneCell']) (by simp only [maxLen]; omega) (by omega) ho5'.out.size ?_
                       intro v' w' hown' hgrow _)
          have hzo : (Value.slice Au n cu).ownBlock ≠ some z := own_ne_block hown5.out hX5.out (by decide)
          have hX6 := Lib.hid (hX5.out.grown hgrow hzo)
          have hsz6 : Hid (w1.heap.size ≤ w'.heap.size) := Lib.hid (Nat.le_trans hsz5.out hgrow.size)
          go_roundw
          case rel => exact ⟨j + 1, n + 1, by omega, by rw [htk'.out, HNN.out]; simp, (SlAt.of_own hown').shape, by go_num, Lib.hid (by rw [htk'.out, enL_append]; simpa [enL] using hown'), Lib.hid (ho5'.out.own hown5.out hgrow (Nat.le_refl _)), hX6, hsz6⟩
          case measure => simp [intOf]; omega
        · rw [if_neg hk, List.append_nil] at htk'
          go_wp2_with fail
          go_roundw
          case rel => exact ⟨j + 1, n, by omega, by rw [htk'.out]; exact HNN.out, ⟨_, _, rfl⟩, by go_num, by rw [htk'.out]; exact hown5, ho5', hX5, hsz5⟩
          case measure => simp [intOf]; omega
      · have hd : decide ((j : Int) < (N : Int)) = false := by simp; omega
        have hfin : Hid ((m.l.take j).drop n0 = m.l.drop n0) := by show _ = _; rw [List.take_of_length_le (by rw [HN.out]; omega)]
        have hlen : n = (m.l.drop n0).length := by rw [HNN.out, hfin.out]
        rw [hfin.out] at hown
        have hdn : (m.l.drop n0).length = N - n0 := by rw [List.length_drop, HN.out]
        have HFIN := Lib.hid (KEY.out wr (.slice Au n cu) (m.l.drop n0) true HRES.out hsz.out ho.out (by rw [← hlen]; exact hown.out) ⟨by rw [hdn]; omega, by rw [hdn]; have := HN0.out; have := hn0N.out; omega⟩)
        have g0 := hRV.cells.cell (k := 0) rfl
        have g1 := hRV.cells.cell (k := 1) rfl
        have g2 := hRV.cells.cell (k := 2) rfl
        have g3 := hRV.cells.cell (k := 3) rfl
        have f0 := hRV.cells.frozen 0
        have f1 := hRV.cells.frozen 1
        have f2 := hRV.cells.frozen 2
        have f3 := hRV.cells.frozen 3
        have f4 := hRV.cells.frozen 4
        have rl := hRV.cells.lt
        have x0 := hX.out.cell (k := 0) rfl
        have x1 := hX.out.cell (k := 1) rfl
        have x2 := hX.out.cell (k := 2) rfl
        have x3 := hX.out.cell (k := 3) rfl
        have zl := hX.out.lt
        clear hRV hlen hdn
        go_wp2_with fail
        go_ret
        exact ⟨by rw [HRES.out]; rfl, HFIN.out⟩
end Go.Proofs.Ytagklgodcbmcaaa
