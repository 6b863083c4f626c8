/-
  RlogPlays: the walk.
-/
import Derived.Test.YtagklgodcbmcaaaQ8j
import Derived.Test.YtagklgodcbmcaaaQ8l
namespace Go.Proofs.Ytagklgodcbmcaaa
open Go.RowKit
attribute [local go_sem] bfld0 bfld1 bfld2 bfld3
theorem two_does (W w : World) (b r : Nat) (g : LG) (a : A8) (K KR : List Nat) (h : TwoE W w K KR b r g) (ha : a.Ok W) (hs : smallB a.ps = true) (hb : g.last ≤ 10000) :
    Calls Try.prog 34 #[.pointer (some ⟨b, 0, none⟩), .pointer (some ⟨r, 0, none⟩), a.val] w fun e w' => e = .returned (.bool true) ∧ Two W w' b r (g.does8 a) ∧ Kept K KR w w' := by
  unfold LG.does8
  by_cases h01 : pickI a.op 7 = 0 ∨ pickI a.op 7 = 1
  · rw [if_pos h01]
    exact does_add W w b r g a K KR h ha hs hb _ rfl h01
  rw [if_neg h01]
  by_cases h5 : pickI a.op 7 = 5
  · rw [if_pos h5]
    exact does_compact W w b r g a K KR h ha hs hb h5
  rw [if_neg h5]
  by_cases h6 : pickI a.op 7 = 6
  · rw [if_pos h6]
    exact does_restore W w b r g a K KR h ha hs hb h6
  rw [if_neg h6]
  exact does_match W w b r g a K KR h ha hs hb _ rfl (fun h => h01 (.inl h)) (fun h => h01 (.inr h)) h5 h6
theorem does8_last (g : LG) (a : A8) (hs : smallB a.ps = true) : (g.does8 a).last ≤ max g.last 30 + 60 := by
  obtain ⟨h60, _⟩ := smallB_iff hs
  unfold LG.does8
  split
  · split
    · omega
    · unfold LG.add8 LG.last; simp; omega
  · split
    · rw [compact_last]; omega
    · split
      · have := restore_last g (bas a.ix a.tm)
        have := bas_bound a.ix a.tm
        omega
      · have := matchR_last g (ix8 a.ix) a.tm (g.fix8 a) (entL a.ps 0)
        rw [entL_length] at this
        omega
def runL (g : LG) (l : List A8) (k : Nat) : LG := (l.take k).foldl LG.does8 g
theorem runL_succ (g : LG) (l : List A8) (k : Nat) (a : A8) (h : l[k]? = some a) : runL g l (k + 1) = (runL g l k).does8 a := by
  unfold runL
  rw [List.take_add_one, h, Option.toList_some, List.foldl_append]; rfl
theorem act_at8 {W w : World} {v : Value} {l : List A8} (hs : SlAt W W.heap.size v 5 l.length (l.flatMap A8.cells)) (ho : Only [] W w) {k : Nat} {a : A8} (hk : l[k]? = some a) :
    ∃ q o c, v = .slice (some ⟨q, o, none⟩) l.length c ∧ w.cell? ⟨q, o + k * 5, none⟩ = some (.int .i64 a.op) ∧ w.cell? ⟨q, o + k * 5 + 1, none⟩ = some (.int .i64 a.ix) ∧ w.cell? ⟨q, o + k * 5 + 2, none⟩ = some (.int .i64 a.tm) ∧ w.cell? ⟨q, o + k * 5 + 3, none⟩ = some (.int .i64 a.fx) ∧ w.cell? ⟨q, o + k * 5 + 4, none⟩ = some a.pv := by
  have hn := (List.getElem?_eq_some_iff.1 hk).1
  obtain ⟨q, o, c, hv, hb, hc⟩ := hs.at_ (by omega)
  have key : ∀ j u, j < 5 → a.cells[j]? = some u → w.cell? ⟨q, o + k * 5 + j, none⟩ = some u := by
    intro j u hj hu
    refine (ho.cell (p := ⟨q, o + k * 5 + j, none⟩) hb (by simp)).trans ?_
    rw [Nat.add_assoc]
    exact hc _ u (by rw [flat_get A8.cells 5 (fun _ => rfl) l k j a hk hj]; exact hu)
  exact ⟨q, o, c, hv, key 0 _ (by omega) rfl, key 1 _ (by omega) rfl, key 2 _ (by omega) rfl, key 3 _ (by omega) rfl, key 4 _ (by omega) rfl⟩
set_option maxRecDepth 100000 in
set_option maxHeartbeats 8000000 in
theorem rlogPlays_walk (W : World) (b : Int) (wb : (Lit.int .i64 b).wf = true) (t : Int) (wt : (Lit.int .i64 t).wf = true) (v : Value) (ps : List Pt) (hps : PtsAt W v ps) (_ : True) (first : Int) (wfirst : (Lit.int .i64 first).wf = true) (va : Value) (l : List A8) (hsl : SlAt W W.heap.size va 5 l.length (l.flatMap A8.cells)) (hok : ∀ a ∈ l, a.Ok W) (i : Int) (wi : (Lit.int .i64 i).wf = true) (most : Int) (wmost : (Lit.int .i64 most).wf = true) :
    Calls Try.prog 7 #[.int .i64 b, .int .i64 t, v, .int .i64 first, va, .int .i64 i, .int .i64 most] W fun e W' => e = .returned (.bool true) ∧ Only [] W W' := by
  have hwb := wide64_of_wf wb
  have hwt := wide64_of_wf wt
  have hwfirst := wide64_of_wf wfirst
  have hwi := wide64_of_wf wi
  have CSps := Lib.hid (fun w (ho : Only [] W w) => small8 v ps w (hps.only ho))
  obtain ⟨Ap, cp, rfl⟩ := hps.shape
  have HPps := Lib.hid hps
  clear hps
  obtain ⟨AA, ac, rfl⟩ := hsl.shape
  have HSL := Lib.hid hsl
  have HOK := Lib.hid hok
  clear hsl hok
  obtain ⟨M, hM⟩ : ∃ M, l.length = M := ⟨_, rfl⟩
  have HM := Lib.hid hM
  rw [hM] at HSL ⊢
  clear hM
  cases hsm : smallB ps with
  | false =>
    rw [hsm] at CSps
    go_enter Try.func7, Try.ntmps7
    go_wp2_with fail
    refine (shown8 W).mono ?_
    rintro e w1 ⟨rfl, ho1⟩
    have o1 := Lib.hid ho1
    clear ho1
    go_wp2_with fail
    refine (CSps.out _ o1.out).mono ?_
    rintro e w2 ⟨rfl, ho⟩
    have o2 := Lib.hid (o1.out.tr ho)
    clear ho CSps
    go_wp2_with fail
    go_ret
    exact ⟨rfl, o2.out⟩
  | true =>
    rw [hsm] at CSps
    have h60ps := (smallB_iff hsm).1
    have HSMps := Lib.hid hsm
    clear hsm
    by_cases h30 : M ≤ 30
    case neg =>
      have d30 : decide ((30 : Int) < (M : Int)) = true := by simp; omega
      go_enter Try.func7, Try.ntmps7
      go_wp2_with fail
      refine (shown8 W).mono ?_
      rintro e w1 ⟨rfl, ho1⟩
      have o1 := Lib.hid ho1
      clear ho1
      go_wp2_with fail
      refine (CSps.out _ o1.out).mono ?_
      rintro e w2 ⟨rfl, ho⟩
      have o2 := Lib.hid (o1.out.tr ho)
      clear ho CSps
      go_wp2_with fail
      go_ret
      exact ⟨rfl, o2.out⟩
    have d30 : decide ((30 : Int) < (M : Int)) = false := by simp; omega
    go_enter Try.func7, Try.ntmps7
    go_wp2_with fail
    refine (shown8 W).mono ?_
    rintro e w1 ⟨rfl, ho1⟩
    have o1 := Lib.hid ho1
    clear ho1
    go_wp2_with fail
    refine (CSps.out _ o1.out).mono ?_
    rintro e w2 ⟨rfl, ho⟩
    have o2 := Lib.hid (o1.out.tr ho)
    clear ho CSps
    have CPF := Lib.hid (fun w' => pick8 first 40 w' hwfirst (by omega) (by omega))
    obtain ⟨hf0, hf1⟩ := pickI_lt first 40 (by omega)
    obtain ⟨f, hf⟩ : ∃ f, pickI first 40 = f := ⟨_, rfl⟩
    rw [hf] at CPF hf0 hf1
    clear hf
    have CE := Lib.hid (entries8 (.slice Ap ps.length cp) ps f w2 (HPps.out.only o2.out) HSMps.out (by omega) (by omega))
    go_wp2_with ((go_at_call 22; refine (CPF.out _).mono ?_; rintro e w' ⟨rfl, rfl⟩))
    refine CE.out.mono ?_
    rintro e w3 ⟨v3, rfl, hr3, ho3⟩
    obtain ⟨el, hel⟩ : ∃ e, entL ps f = e := ⟨_, rfl⟩
    have hell : el.length = ps.length := by rw [← hel, entL_length]
    have hDE : Hid (DOk el) := Lib.hid (by rw [← hel]; exact entL_dok HPps.out HSMps.out f)
    rw [hel, ← hell] at hr3
    obtain ⟨Ae, ce, rfl⟩ := (SlAt.of_own hr3).shape
    have HR3 := Lib.hid (own_low hr3 o2.out.size)
    have o3 := Lib.hid (o2.out.tr ho3)
    have h60e : el.length ≤ 60 := by omega
    clear hr3 ho3 CE CPF hel hell
    have CB := Lib.hid (fun w' => base8 b t w' hwb hwt)
    obtain ⟨hxb0, hxb30, hxb3⟩ := bas_bound b t
    obtain ⟨x, hx⟩ : ∃ x, bas b t = x := ⟨_, rfl⟩
    rw [hx] at CB hxb0 hxb30 hxb3
    have HXB3 := Lib.hid hxb3
    unfold Bas.val at CB
    clear hx hxb3
    obtain ⟨g, hg⟩ : ∃ g, takeL ⟨x, []⟩ el = g := ⟨_, rfl⟩
    have hgl : g.last ≤ 100 := by
      have := takeL_last ⟨x, []⟩ el
      rw [hg] at this
      unfold LG.last at this ⊢
      simp at this
      omega
    have hgix : Hid (IxOk g) := Lib.hid (by rw [← hg]; exact IxOk.takeL (g := ⟨x, []⟩) (by intro j y hy; simp at hy) el)
    have HGL := Lib.hid hgl
    have HGD := Lib.hid hg
    clear hg hgl
    go_wp2_with fail
    refine (CB.out w3).mono ?_
    rintro e w4 ⟨v4, rfl, hr4, ho4⟩
    obtain ⟨A4, c4, rfl⟩ := (SlAt.of_own hr4).shape
    have o4 := Lib.hid (o3.out.tr ho4)
    have CN := Lib.hid (la_new W w4 o4.out x (.slice A4 x.vs.length c4) (.slice Ae el.length ce) el (SlAt.of_own hr4) (own_low (own_only HR3.out ho4 (by simp)) (Nat.zero_le _)) hxb0 (by omega) (by rw [HXB3.out]; omega) hDE.out g HGD.out)
    unfold Bas.val at CN
    have HR4 := Lib.hid (own_only HR3.out ho4 (by simp))
    clear hr4 ho4
    go_wp2_with fail
    refine CN.out.mono ?_
    rintro e w5 ⟨bb, K, rfl, hL, ho5, hK5⟩
    have HR5 := Lib.hid (own_only HR4.out ho5.out (by simp))
    have o5 := hL.out.only
    have HO5 := Lib.hid o5
    clear CN hK5 o5 ho5
    go_wp2_with fail
    refine (CB.out w5).mono ?_
    rintro e w6 ⟨v6, rfl, hr6, ho6⟩
    obtain ⟨A6, c6, rfl⟩ := (SlAt.of_own hr6).shape
    have CR := Lib.hid (rl_new x (.slice A6 x.vs.length c6) (.slice Ae el.length ce) el w5 w6 ho6 (RfS.of_own hr6 (gvs_one _)) (fun q hq => hr6.lt q hq) (RfS.of_own (own_only HR5.out ho6 (by simp)) (enL_one _)) hxb0 (by omega) (by rw [HXB3.out]; omega))
    rw [HGD.out] at CR
    unfold Bas.val at CR
    have HL6 := Lib.hid (hL.out.to ho6)
    have hKb := Lib.hid hL.out.k.below
    clear hr6 ho6 hL
    go_wp2_with fail
    refine CR.out.mono ?_
    rintro e w7 ⟨r, KR, rfl, hR, ho7, hKR⟩
    have hTW : Hid (Two W w7 bb r g) := Lib.hid ⟨K, KR, HL6.out.to ho7, hR, fun q hq => Nat.le_trans HO5.out.size (hKR q hq), fun q hq hm => by have := hKb.out q hq; have := hKR q hm; omega, hgix.out⟩
    clear CR hR ho7 hKR HL6 hKb CB
    go_wp2_with fail
    go_loopw [20] (fun n wr => ∃ k : Nat, k ≤ M ∧ n = .int .i64 k ∧ Hid (Two W wr bb r (runL g l k)) ∧ Hid ((runL g l k).last ≤ 100 + 60 * (k : Int))) (fun n _ => M - (intOf n).toNat)
    case atStart => exact ⟨0, by omega, rfl, hTW, Lib.hid (by have := HGL.out; simpa [runL] using this)⟩
    case round =>
      obtain ⟨k, hk, rfl, hT, hlast⟩ := hrel
      by_cases hlt : k < M
      · have hlt' : (k : Int) < (M : Int) := by omega
        obtain ⟨a, ha⟩ : ∃ a, l[k]? = some a := ⟨_, List.getElem?_eq_getElem (by rw [HM.out]; exact hlt)⟩
        have hsu := Lib.hid (runL_succ g l k a ha)
        have haok := HOK.out a (List.mem_of_getElem? ha)
        have hsl' := HSL.out
        rw [← HM.out] at hsl'
        obtain ⟨q, o, c', hv, e0, e1, e2, e3, e4⟩ := act_at8 hsl' hT.out.W ha
        rw [HM.out] at hv
        injection hv with i1 i2 i3
        subst i1
        subst i3
        obtain ⟨PA, pc, hpv⟩ := haok.ps.shape
        have HAOK := Lib.hid haok
        have HPV := Lib.hid hpv
        rw [hpv] at e4
        obtain ⟨gk, hgk⟩ : ∃ gk, runL g l k = gk := ⟨_, rfl⟩
        rw [hgk] at hT hlast hsu
        have hlb : gk.last ≤ 5000 := by have := hlast.out; omega
        clear i2 hsl' ha haok hpv hgk
        have hoX : Only [] wr (wr.alloc (.cells #[.int .i64 a.op, .int .i64 a.ix, .int .i64 a.tm, .int .i64 a.fx, .slice PA a.ps.length pc] 60)) := (Only.refl _ wr).alloc _
        have HXC := Lib.hid (Cells.new wr 60 [.int .i64 a.op, .int .i64 a.ix, .int .i64 a.tm, .int .i64 a.fx, .slice PA a.ps.length pc])
        have HoX := Lib.hid hoX
        clear hoX
        go_wp2_with fail
        clear e0 e1 e2 e3 e4
        obtain ⟨wx, hwx⟩ : ∃ wx, wr.alloc (.cells #[.int .i64 a.op, .int .i64 a.ix, .int .i64 a.tm, .int .i64 a.fx, .slice PA a.ps.length pc] 60) = wx := ⟨_, rfl⟩
        have HXC : Hid (Cells (wr.alloc (.cells #[.int .i64 a.op, .int .i64 a.ix, .int .i64 a.tm, .int .i64 a.fx, .slice PA a.ps.length pc] 60)) wr.heap.size 60 [.int .i64 a.op, .int .i64 a.ix, .int .i64 a.tm, .int .i64 a.fx, .slice PA a.ps.length pc]) := HXC
        obtain ⟨z, hz⟩ : ∃ z, wr.heap.size = z := ⟨_, rfl⟩
        rw [hwx] at HXC HoX ⊢
        rw [hz] at HXC ⊢
        have hTX := Lib.hid (hT.out.only HoX.out)
        obtain ⟨K2, KR2, t1, t2, t3, t4, t5⟩ := hT.out
        have HZP : Hid (z ∉ K2 ∧ z ∉ KR2) := Lib.hid ⟨fun hm => by have := t1.k.below z hm; omega, fun hm => by have := t2.below z hm; omega⟩
        have HTE := Lib.hid ((fun w' ho => ⟨t1.to ho, t2.only ho, t3, t4, t5⟩) : ∀ w', Only [] wr w' → TwoE W w' K2 KR2 bb r gk)
        clear t1 t2 t3 t4 t5
        clear hwx
        have CS := Lib.hid (small8 (.slice PA a.ps.length pc) a.ps wx (by have := (HAOK.out.only hTX.out.W).ps; rw [HPV.out] at this; exact this))
        refine CS.out.mono ?_
        rintro e w8 ⟨rfl, ho8⟩
        have hT8 := Lib.hid (hTX.out.only ho8)
        have HX8 := Lib.hid (HXC.out.only ho8 (by simp))
        have HO8 := Lib.hid (HoX.out.tr ho8)
        clear CS HXC
        cases hsa : smallB a.ps with
        | false =>
          go_wp2_with fail
          go_ret
          exact ⟨rfl, hT8.out.W⟩
        | true =>
          have CD := Lib.hid (two_does W w8 bb r gk a K2 KR2 (HTE.out w8 HO8.out) HAOK.out hsa (by omega))
          have HSA := Lib.hid hsa
          unfold A8.val at CD
          rw [HPV.out] at CD
          have k0 := HX8.out.cell (k := 0) rfl
          have k1 := HX8.out.cell (k := 1) rfl
          have k2 := HX8.out.cell (k := 2) rfl
          have k3 := HX8.out.cell (k := 3) rfl
          have k4 := HX8.out.cell (k := 4) rfl
          clear hsa
          go_wp2_with fail
          refine CD.out.mono ?_
          rintro e w9 ⟨rfl, hT9, hK9⟩
          have HT9 := Lib.hid hT9
          have hX9 := hK9 z _ _ HX8.out HZP.out.1 HZP.out.2
          have hglen : (gk.does8 a).l.length ≤ 10000 := by
            have h1 := does8_last gk a HSA.out
            obtain ⟨_, _, h2, _, _, _, _⟩ := hT9
            have h3 := h2.k.hi
            unfold LG.last at h1 h3
            unfold LG.last at hlb
            omega
          have CA := Lib.hid (two_alike W w9 bb r (gk.does8 a) a.ix hT9 hglen)
          have hlast2 : Hid ((runL g l (k + 1)).last ≤ 100 + 60 * ((k + 1 : Nat) : Int)) := Lib.hid (by
            have h1 := does8_last gk a HSA.out
            have h2 := hlast.out
            rw [hsu.out]
            omega)
          have k1 := hX9.cell (k := 1) rfl
          clear k0 k2 k3 k4 CD hT9 hK9 hX9 HX8 hglen
          go_wp2_with fail
          refine CA.out.mono ?_
          rintro e w10 ⟨rfl, ho10⟩
          have HT10 : Hid (Two W w10 bb r (runL g l (k + 1))) := Lib.hid (by rw [hsu.out]; exact HT9.out.only ho10)
          clear CA k1 ho10
          go_wp2_with fail
          go_roundw
          case rel => exact ⟨k + 1, by omega, by go_num, HT10, hlast2⟩
          case measure => simp [intOf]; omega
      · have hd : decide ((k : Int) < (M : Int)) = false := by simp; omega
        obtain ⟨gk, hgk⟩ : ∃ gk, runL g l k = gk := ⟨_, rfl⟩
        rw [hgk] at hT hlast
        obtain ⟨K2, KR2, h1, h2, h3, h4, h5⟩ := hT.out
        have hkh := h1.k.hi
        have hgl : gk.l.length ≤ 10000 := by have := hlast.out; unfold LG.last at this hkh; omega
        obtain ⟨lst, hlst⟩ : ∃ q, gk.last = q := ⟨_, rfl⟩
        obtain ⟨sl, hsl⟩ : ∃ q, gk.slice i most = q := ⟨_, rfl⟩
        have hsll : sl.length ≤ 10000 := by
          rw [← hsl]; unfold LG.slice
          split
          · simp
          · rw [List.length_take, List.length_drop]; omega
        obtain ⟨nw, hnw⟩ : ∃ q, gk.newer i most = q := ⟨_, rfl⟩
        obtain ⟨vv2, ev2, hrv, _, _⟩ := h2
        have HL := Lib.hid h1
        have HRV := Lib.hid hrv
        have HIX := Lib.hid h5
        have HSLI := Lib.hid hsl
        have HNW := Lib.hid hnw
        have CA := Lib.hid (fun w' (ho : Only [] wr w') j => two_alike W w' bb r gk j (hT.out.only ho) hgl)
        have CP := Lib.hid (fun w' => pick8 i 50 w' hwi (by omega) (by omega))
        have CRL := Lib.hid (fun w' (ho : Only [] wr w') => rl_last r vv2 ev2 gk w' (hrv.only ho))
        rw [hlst] at CRL
        have q0 : (nw == nw) = true := beq_self_eq_true _
        clear h1 h3 h4 h5 hrv hsl hnw hkh hlst hgk
        go_wp2_with fail
        refine (CA.out _ (Only.refl _ _) i).mono ?_
        rintro e w8 ⟨rfl, o8⟩
        have O8 := Lib.hid o8
        clear o8
        go_wp2_with fail
        refine (la_slice (Lib.hid (HL.out.to O8.out)) i most sl HSLI.out).mono ?_
        rintro e w9 ⟨A9, c9, rfl, hr9, hL9, p9⟩
        have O9 := Lib.hid (O8.out.tr p9.out)
        have CRS := Lib.hid (rl_slice r vv2 ev2 gk i most w9 (HRV.out.only O9.out) HIX.out)
        rw [HSLI.out] at CRS
        clear hL9 p9
        go_wp2_with fail
        refine CRS.out.mono ?_
        rintro e w10 ⟨v10, rfl, hr10, p10⟩
        obtain ⟨A10, c10, rfl⟩ := (SlAt.of_own hr10).shape
        have O10 := Lib.hid (O9.out.tr p10)
        have CM := Lib.hid (same8 _ _ sl sl w10 (((SlAt.of_own hr9.out).only p10 (Nat.le_refl _) (by simp)).more p10.size) (SlAt.of_own hr10) (by omega) (by omega))
        rw [show decide (sl = sl) = true from by simp] at CM
        clear CRS hr9 hr10 p10
        go_wp2_with fail
        refine CM.out.mono ?_
        rintro e w11 ⟨rfl, p11⟩
        have O11 := Lib.hid (O10.out.tr p11)
        clear CM p11
        go_wp2_with fail
        refine (la_newer (Lib.hid (HL.out.to O11.out)) i most nw HNW.out).mono ?_
        rintro e w12 ⟨rfl, hL12, p12⟩
        have O12 := Lib.hid (O11.out.tr p12.out)
        have CN := Lib.hid (rl_newer r vv2 ev2 gk i most w12 (HRV.out.only O12.out))
        rw [HNW.out] at CN
        clear hL12 p12
        go_wp2_with fail
        refine CN.out.mono ?_
        rintro e w13 ⟨rfl, p13⟩
        have O13 := Lib.hid (O12.out.tr p13)
        clear CN p13
        go_wp2_with fail
        refine (CRL.out _ O13.out).mono ?_
        rintro e w14 ⟨rfl, p14⟩
        have O14 := Lib.hid (O13.out.tr p14)
        clear p14
        go_wp2_with fail
        refine (CA.out _ O14.out lst).mono ?_
        rintro e w15 ⟨rfl, p15⟩
        have O15 := Lib.hid (O14.out.tr p15)
        clear p15
        go_wp2_with fail
        refine (CP.out _).mono ?_
        rintro e w' ⟨rfl, rfl⟩
        go_wp2_with fail
        refine (CA.out _ O15.out (pickI i 50)).mono ?_
        rintro e w16 ⟨rfl, p16⟩
        have O16 := Lib.hid (O15.out.tr p16)
        clear p16
        go_wp2_with fail
        go_ret
        exact ⟨rfl, hT.out.W.tr O16.out⟩
end Go.Proofs.Ytagklgodcbmcaaa
