/-
  Chapter 8: the document's log: which voters an entry sets, and Voters.
-/
import Derived.Test.YtagklgodcbmcaaaQ8c
namespace Go.Proofs.Ytagklgodcbmcaaa
open Go.RowKit
theorem rise_mono {l : List Int} (h : Rise l) : ∀ (k i : Nat) x y, l[i]? = some x → l[i + k]? = some y → x ≤ y
  | 0, i, x, y, hx, hy => by rw [Nat.add_zero, hx] at hy; injection hy with hy; omega
  | k + 1, i, x, y, hx, hy => by
    have hlt := (List.getElem?_eq_some_iff.1 hy).1
    obtain ⟨z, hz⟩ : ∃ z, l[i + k]? = some z := ⟨_, List.getElem?_eq_getElem (by omega)⟩
    have h1 := rise_mono h k i x z hx hz
    have h2 := (h (i + (k + 1)) y hy).2.2 (by omega) z (by rw [show i + (k + 1) - 1 = i + k from by omega]; exact hz)
    omega
theorem srt_mono {l : List Int} (h : ∀ j x y, l[j]? = some x → l[j + 1]? = some y → x ≤ y) : ∀ (k i : Nat) x y, l[i]? = some x → l[i + k]? = some y → x ≤ y
  | 0, i, x, y, hx, hy => by rw [Nat.add_zero, hx] at hy; injection hy with hy; omega
  | k + 1, i, x, y, hx, hy => by
    have hlt := (List.getElem?_eq_some_iff.1 hy).1
    obtain ⟨z, hz⟩ : ∃ z, l[i + k]? = some z := ⟨_, List.getElem?_eq_getElem (by omega)⟩
    have h1 := srt_mono h k i x z hx hz
    have h2 := h (i + k) z y hz (by rw [show i + k + 1 = i + (k + 1) from by omega]; exact hy)
    omega
theorem inV_iff (l : List Int) (h : l ≠ []) : inV l = true ↔ ∃ x y, l[0]? = some x ∧ l[l.length - 1]? = some y ∧ 1 ≤ x ∧ y ≤ 9 := by
  unfold inV
  rw [List.head?_eq_getElem?, List.getLast?_eq_getElem?]
  have hl : 0 < l.length := List.length_pos_iff.2 h
  rw [List.getElem?_eq_getElem hl, List.getElem?_eq_getElem (show l.length - 1 < l.length by omega)]
  simp
theorem rise_iff (l : List Int) : (srtB l = true ∧ dupB l = false ∧ inV l = true) ↔ Rise l := by
  constructor
  · rintro ⟨h1, h2, h3⟩
    have hs := (srtB_iff l).1 h1
    have hd : ∀ j x, l[j]? = some x → l[j + 1]? = some x → False := fun j x a b => by
      have := (dupB_iff l).2 ⟨j, x, a, b⟩
      rw [h2] at this; cases this
    intro j x hx
    have hlt := (List.getElem?_eq_some_iff.1 hx).1
    obtain ⟨a, b, ha, hb, h4, h5⟩ := (inV_iff l (fun h => by rw [h] at hlt; simp at hlt)).1 h3
    have m1 := srt_mono hs j 0 a x ha (by rw [Nat.zero_add]; exact hx)
    have m2 := srt_mono hs (l.length - 1 - j) j x b hx (by rw [show j + (l.length - 1 - j) = l.length - 1 from by omega]; exact hb)
    refine ⟨by omega, by omega, fun h0 y hy => ?_⟩
    have hle := hs (j - 1) y x hy (by rw [show j - 1 + 1 = j from by omega]; exact hx)
    have hne : y ≠ x := fun h => by subst h; exact hd (j - 1) y hy (by rw [show j - 1 + 1 = j from by omega]; exact hx)
    omega
  · intro h
    refine ⟨(srtB_iff l).2 fun j x y hx hy => rise_mono h 1 j x y hx hy, ?_, ?_⟩
    · rw [Bool.eq_false_iff]
      intro hd
      obtain ⟨j, x, h1, h2⟩ := (dupB_iff l).1 hd
      have := (h (j + 1) x h2).2.2 (by omega) x (by simpa using h1)
      omega
    · by_cases hl : l = []
      · subst hl; rfl
      · have hlen : 0 < l.length := List.length_pos_iff.2 hl
        rw [inV_iff l hl]
        exact ⟨_, _, List.getElem?_eq_getElem hlen, List.getElem?_eq_getElem (show l.length - 1 < l.length by omega), (h 0 _ (List.getElem?_eq_getElem hlen)).1, (h _ _ (List.getElem?_eq_getElem (show l.length - 1 < l.length by omega))).2.1⟩
set_option maxRecDepth 100000 in
set_option maxHeartbeats 4000000 in
theorem ref8_sets (x : En) (w : World) (hd : x.d.size ≤ 1000000000000) :
    Calls Try.prog 93 #[x.val] w fun e w' => ∃ v' ok l, e = .returned (.tuple #[v', .bool ok]) ∧ setV x = (if ok = true then some l else none) ∧ w'.ownsRow w.heap.size 3 1 v' l.length (gvs l) ∧ Only [] w w' := by
  obtain ⟨s, hs, hss⟩ := str_of x.d
  have hst : x.d.toList = s := by rw [hs, ba_toList]
  obtain ⟨ix, tm, kd, d⟩ := x
  simp only at hs hss hst hd
  subst hs
  unfold En.val
  simp only
  have hoA : Only [] w (w.alloc (.cells #[.int .i64 ix, .int .i64 tm, .int .i64 kd, .string ⟨s.toArray⟩] 40)) := (Only.refl _ _).alloc _
  have hX := Cells.new w 40 [.int .i64 ix, .int .i64 tm, .int .i64 kd, .string ⟨s.toArray⟩]
  have HX := Lib.hid hX
  have CV := Lib.hid (ref7_toVoters s (w.alloc (.cells #[.int .i64 ix, .int .i64 tm, .int .i64 kd, .string ⟨s.toArray⟩] 40)) (by rw [← hss]; exact hd))
  have HS : Hid (setV ⟨ix, tm, kd, ⟨s.toArray⟩⟩ = if kd = 3 then match rdVs s with
    | none => none
    | some (l, r) => if r = [] ∧ srtB l = true ∧ dupB l = false ∧ inV l = true then some l else none
    else none) := by show _ = _; unfold setV; simp only; rw [hst]; rfl
  have hE : ∀ ok : Bool, (rdVs s).isSome = ok → (ok = true → rdVs s = some (vsL s, vsR s)) ∧ (ok = false → rdVs s = none) := by
    intro ok h
    unfold vsL vsR
    cases hr : rdVs s with
    | none => rw [hr] at h; subst h; simp
    | some p => rw [hr] at h; subst h; simp
  have HE := Lib.hid hE
  have x2 := hX.cell (k := 2) rfl
  have x3 := hX.cell (k := 3) rfl
  clear hX hst hE hd hss
  by_cases hk : kd = 3
  case neg =>
    have d1 : (kd == 3) = false := by simpa using hk
    have hR : Hid (setV ⟨ix, tm, kd, ⟨s.toArray⟩⟩ = none) := by show _ = _; rw [HS.out, if_neg hk]
    have HO := Lib.hid hoA
    clear hoA CV HX HE x2 x3
    go_enter Try.func93, Try.ntmps93
    go_wp2_with fail
    go_ret2
    exact ⟨_, false, [], rfl, by rw [hR.out]; rfl, World.ownsRow_nil _ _ _ _, HO.out⟩
  subst hk
  have HO := Lib.hid hoA
  clear hoA
  go_enter Try.func93, Try.ntmps93
  go_wp2_with fail
  refine CV.out.mono ?_
  rintro e w1 ⟨v', rfl, hown, ho1⟩
  obtain ⟨ok, hok⟩ : ∃ ok, (rdVs s).isSome = ok := ⟨_, rfl⟩
  obtain ⟨l, hl⟩ : ∃ l, vsL s = l := ⟨_, rfl⟩
  obtain ⟨r, hr⟩ : ∃ r, vsR s = r := ⟨_, rfl⟩
  obtain ⟨h1, h2⟩ := HE.out ok hok
  rw [hl] at hown
  rw [hl, hr] at h1
  rw [hok, hr]
  have hlen : l.length ≤ 9 := by rw [← hl]; exact vsL_len s
  have HOW := Lib.hid (own_low hown (B' := w.heap.size) HO.out.size)
  have hoB := Lib.hid (HO.out.tr ho1)
  obtain ⟨A, c, rfl⟩ := (SlAt.of_own hown).shape
  have H1 := Lib.hid h1
  have H2 := Lib.hid h2
  have CR := Lib.hid (ref7_rising (.slice A l.length c) l w1 (SlAt.of_own hown) (by omega))
  clear hok hl hr hown HX HE CV ho1 h1 h2 HO x2 x3
  go_wp2_with fail
  refine CR.out.mono ?_
  rintro e w2 ⟨b, rfl, hb, ho2⟩
  have HOW2 := Lib.hid (own_only HOW.out ho2 (by simp))
  have hoC := Lib.hid (hoB.out.tr ho2)
  have HB := Lib.hid hb
  clear hb ho2 CR
  cases ok with
  | false =>
    have hR : Hid (setV ⟨ix, tm, 3, ⟨s.toArray⟩⟩ = none) := by show _ = _; rw [HS.out, if_pos (by first | exact trivial | rfl), H2.out rfl]
    go_wp2_with fail
    go_ret2
    exact ⟨_, false, l, rfl, by rw [hR.out]; rfl, HOW2.out, hoC.out⟩
  | true =>
    have hR : Hid (setV ⟨ix, tm, 3, ⟨s.toArray⟩⟩ = if r = [] ∧ b = true then some l else none) := by
      show _ = _
      rw [HS.out, if_pos (by first | exact trivial | rfl), H1.out rfl]
      simp only
      have : (r = [] ∧ srtB l = true ∧ dupB l = false ∧ inV l = true) ↔ (r = [] ∧ b = true) := by
        rw [rise_iff, HB.out]
        exact ⟨fun h => ⟨h.1, h.2, hlen⟩, fun h => ⟨h.1, h.2.1⟩⟩
      simp only [this]
    by_cases hre : r = []
    case neg =>
      have d1 : r.isEmpty = false := by cases r with
        | nil => exact absurd rfl hre
        | cons x y => rfl
      have hR2 : Hid (setV ⟨ix, tm, 3, ⟨s.toArray⟩⟩ = none) := by show _ = _; rw [hR.out, if_neg (fun h => hre h.1)]
      go_wp2_with fail
      go_ret2
      exact ⟨_, false, l, rfl, by rw [hR2.out]; rfl, HOW2.out, hoC.out⟩
    case pos =>
      subst hre
      have hR2 : Hid (setV ⟨ix, tm, 3, ⟨s.toArray⟩⟩ = if b = true then some l else none) := by show _ = _; rw [hR.out]; simp
      go_wp2_with fail
      go_ret2
      exact ⟨_, b, l, rfl, hR2.out, HOW2.out, hoC.out⟩
set_option maxRecDepth 100000 in
set_option maxHeartbeats 4000000 in
theorem rl_voters (r : Nat) (vv ev : Value) (m : LG) (i : Int) (w : World) (h : RlV w r vv ev m) (hd : DOk m.l) (hx : IxOk m) :
    Calls Try.prog 69 #[.pointer (some ⟨r, 0, none⟩), .int .i64 i] w fun e w' => ∃ v', e = .returned v' ∧ RfS w' v' 1 (m.voters i).length (gvs (m.voters i)) ∧ (∀ q, v'.ownBlock = some q → q < w'.heap.size ∧ (vv.ownBlock = some q ∨ w.heap.size ≤ q)) ∧ Only [] w w' := by
  obtain ⟨A, c, rfl, _, _⟩ := h.ents.shape
  obtain ⟨Av, cv, rfl, _, _⟩ := h.vots.shape
  have lo := h.lo
  have hi := h.hi
  obtain ⟨p, hp⟩ : ∃ p : Nat, max m.b.ix (min i m.last) - m.b.ix = p := ⟨(max m.b.ix (min i m.last) - m.b.ix).toNat, by omega⟩
  have hpl : Hid (p ≤ m.l.length ∧ ∀ k : Nat, k < m.l.length → (m.b.ix + 1 + (k : Int) ≤ i ↔ k < p)) := by
    show _ ∧ _
    unfold LG.last at hp
    exact ⟨by omega, fun k hk => by omega⟩
  have HV : Hid (m.voters i = lastV m.b.vs (m.l.take p)) := by show _ = _; unfold LG.voters; rw [hp, Int.toNat_natCast]
  have H := Lib.hid h
  have HX := Lib.hid hx
  have HD := Lib.hid hd
  have c2 := h.cells.cell (k := 2) rfl
  obtain ⟨N, hN⟩ : ∃ N, m.l.length = N := ⟨_, rfl⟩
  have HN := Lib.hid hN
  rw [hN] at hi
  clear h hx hd hp hN
  go_enter Try.func69, Try.ntmps69
  go_wp2_with fail
  clear c2
  go_loopw [5, 6, 7, 8] (fun u n _ _ wr => ∃ (k : Nat) (l : List Int), k ≤ N ∧ n = .int .i64 k ∧ Hid (RfS wr u 1 l.length (gvs l)) ∧ Hid (∀ q, u.ownBlock = some q → q < wr.heap.size ∧ ((Value.slice Av m.b.vs.length cv).ownBlock = some q ∨ w.heap.size ≤ q)) ∧ Hid (l = lastV m.b.vs (m.l.take (min k p))) ∧ Hid (Only [] w wr)) (fun _ n _ _ _ => N - (intOf n).toNat)
  case atStart => exact ⟨0, m.b.vs, by omega, rfl, Lib.hid H.out.vots, Lib.hid (fun q hq => ⟨H.out.ltv q hq, .inl hq⟩), by show _ = _; simp [lastV], Lib.hid (Only.refl _ _)⟩
  case round =>
    obtain ⟨k, l, hk, rfl, hR, hQ, hL, ho⟩ := hrel
    have hRV := H.out.only ho.out
    have c4 := hRV.cells.cell (k := 4) rfl
    rw [HN.out] at c4
    by_cases hlt : k < N
    · have hlt' : (k : Int) < (N : Int) := by omega
      obtain ⟨y, hy⟩ : ∃ y, m.l[k]? = some y := ⟨_, List.getElem?_eq_getElem (by rw [HN.out]; exact hlt)⟩
      have hyi := HX.out k y hy
      have CS := Lib.hid (ref8_sets y wr (HD.out y (List.mem_of_getElem? hy)))
      unfold En.val at CS
      obtain ⟨q, o, c', hv, e0, e1, e2, e3⟩ := hRV.ent hy
      injection hv with i1 i2 i3
      subst i1
      subst i3
      have HY := Lib.hid hy
      have htk : Hid (∀ l', setV y = some l' → k < p → l' = lastV m.b.vs (m.l.take (min (k + 1) p))) := Lib.hid fun l' h1 h2 => by
        rw [show min (k + 1) p = k + 1 from by omega, List.take_add_one, HY.out, Option.toList_some, lastV_snoc, h1]
      have htk2 : Hid (setV y = none ∨ ¬ k < p → l = lastV m.b.vs (m.l.take (min (k + 1) p))) := Lib.hid fun h1 => by
        have h0 := hL.out
        by_cases h2 : k < p
        · have h3 : setV y = none := h1.resolve_right (by omega)
          rw [show min (k + 1) p = k + 1 from by omega, List.take_add_one, HY.out, Option.toList_some, lastV_snoc, h3]
          rw [show min k p = k from by omega] at h0
          exact h0
        · rw [show min (k + 1) p = p from by omega]
          rw [show min k p = p from by omega] at h0
          exact h0
      have hki := Lib.hid (hpl.out.2 k (by rw [HN.out]; exact hlt))
      have HYI := Lib.hid hyi
      have HE0 := Lib.hid (hRV)
      clear i2 hRV hy hyi
      go_wp2_with fail
      refine CS.out.mono ?_
      rintro e w2 ⟨v', ok, l', rfl, hset, hown, ho2⟩
      have HO2 := Lib.hid (ho.out.tr ho2)
      have HOW := Lib.hid hown
      have HSET := Lib.hid hset
      have hR2 := HE0.out.only ho2
      have c4 := hR2.cells.cell (k := 4) rfl
      rw [HN.out] at c4
      obtain ⟨q', o', c'', hv, e0, _, _, _⟩ := hR2.ent HY.out
      injection hv with i1 i2 i3
      injection i1 with i1
      injection i1 with i4 i5
      subst i4
      subst i5
      have HRl := Lib.hid (hR.out.only ho2)
      have HQl : Hid (∀ q, u5.ownBlock = some q → q < w2.heap.size ∧ ((Value.slice Av m.b.vs.length cv).ownBlock = some q ∨ w.heap.size ≤ q)) := Lib.hid fun q hq => ⟨Nat.lt_of_lt_of_le (hQ.out q hq).1 ho2.size, (hQ.out q hq).2⟩
      have hsz := ho.out.size
      clear i2 i3 hR2 hset hown ho2 CS
      cases ok with
      | false =>
        have hl2 : Hid (l = lastV m.b.vs (m.l.take (min (k + 1) p))) := Lib.hid (htk2.out (.inl HSET.out))
        go_wp2_with fail
        go_roundw
        case rel => exact ⟨k + 1, l, by omega, by go_num, HRl, HQl, hl2, HO2⟩
        case measure => simp [intOf]; omega
      | true =>
        by_cases hkp : k < p
        · have d1 : decide (y.ix ≤ i) = true := by have := hki.out.2 hkp; have := HYI.out; simp; omega
          have hl2 : Hid (l' = lastV m.b.vs (m.l.take (min (k + 1) p))) := Lib.hid (htk.out l' HSET.out hkp)
          have hR3 : Hid (RfS w2 v' 1 l'.length (gvs l')) := Lib.hid (RfS.of_own HOW.out (gvs_one l'))
          have hQ3 : Hid (∀ q, v'.ownBlock = some q → q < w2.heap.size ∧ ((Value.slice Av m.b.vs.length cv).ownBlock = some q ∨ w.heap.size ≤ q)) := Lib.hid fun q hq => ⟨(HOW.out.lt q hq).2, .inr (Nat.le_trans hsz (HOW.out.lt q hq).1)⟩
          go_wp2_with fail
          go_roundw
          case rel => exact ⟨k + 1, l', by omega, by go_num, hR3, hQ3, hl2, HO2⟩
          case measure => simp [intOf]; omega
        · have d1 : decide (y.ix ≤ i) = false := by have := hki.out.1; have := HYI.out; simp; omega
          have hl2 : Hid (l = lastV m.b.vs (m.l.take (min (k + 1) p))) := Lib.hid (htk2.out (.inr hkp))
          go_wp2_with fail
          go_roundw
          case rel => exact ⟨k + 1, l, by omega, by go_num, HRl, HQl, hl2, HO2⟩
          case measure => simp [intOf]; omega
    · have hd : decide ((k : Int) < (N : Int)) = false := by simp; omega
      have hfin : Hid (m.voters i = l) := by
        show _ = _
        rw [HV.out, hL.out, show min k p = p from by have := hpl.out.1; rw [HN.out] at this; omega]
      clear hRV
      go_wp2_with fail
      go_ret
      exact ⟨_, rfl, by rw [hfin.out]; exact hR.out, hQ.out, ho.out⟩
end Go.Proofs.Ytagklgodcbmcaaa
