/-
  Chapter 8: Base, Newer, follows, beyond, take, New.
-/
import Derived.Test.YtagklgodcbmcaaaR8c
namespace Go.Proofs.Ytagklgodcbmcaaa
open Go.RowKit
set_option maxRecDepth 100000 in
set_option maxHeartbeats 1000000 in
theorem logk_base (b : Nat) (K : List Nat) (g : LG) (w : World) (h : LogK w K b g) :
    Calls Try.prog 26 #[.pointer (some ⟨b, 0, none⟩)] w fun e w' => ∃ v', e = .returned (g.b.val v') ∧ w'.ownsRow w.heap.size 3 1 v' g.b.vs.length (gvs g.b.vs) ∧ Only [] w w' := by
  obtain ⟨vv, ev, h, -, -⟩ := h
  have hA : Only [] w (w.alloc (.cells #[.int .i64 0, .int .i64 0, .slice none 0 0, .string ⟨#[]⟩] 27)) := (Only.refl _ w).alloc _
  have hN := h.only hA
  have hvl := h.vlen
  have CO := Lib.hid (log_own g.b vv _ _ (Nat.le_refl _) (by omega) (SlAt.of_own hN.vots))
  have hC2 := Cells.new w 27 [.int .i64 0, .int .i64 0, .slice none 0 0, .string ⟨#[]⟩]
  have e0 := hN.cells.cell (k := 0) rfl
  have e1 := hN.cells.cell (k := 1) rfl
  have e2 := hN.cells.cell (k := 2) rfl
  have e3 := hN.cells.cell (k := 3) rfl
  unfold Bas.val at CO ⊢
  clear hN h
  go_enter Try.func26, Try.ntmps26
  go_wp2_with fail
  refine CO.out.mono ?_
  rintro e w1 ⟨v', rfl, hown, ho1⟩
  have d2 := hC2.only ho1 (by simp)
  have hoB := hA.tr ho1
  have hown := own_low hown (B' := w.heap.size) hA.size
  obtain ⟨A', c', hv'⟩ := (SlAt.of_own hown).shape
  subst hv'
  clear hA hC2 ho1 CO e0 e1 e2 e3
  have l2 := d2.lt
  have r0 := d2.cell (k := 0) rfl
  have r1 := d2.cell (k := 1) rfl
  have r2 := d2.cell (k := 2) rfl
  have r3 := d2.cell (k := 3) rfl
  have g0 := d2.frozen 0
  have g1 := d2.frozen 1
  have g2 := d2.frozen 2
  have g3 := d2.frozen 3
  have hne2 := own_ne_block hown d2 (by decide)
  have HO := Lib.hid hown
  clear hown d2
  go_wp2_with fail
  have hF : ∀ u0 u1 u2 u3, Only [w.heap.size] w1 ((((w1.setCell ⟨w.heap.size, 0, none⟩ u0).setCell ⟨w.heap.size, 1, none⟩ u1).setCell ⟨w.heap.size, 2, none⟩ u2).setCell ⟨w.heap.size, 3, none⟩ u3) :=
    fun u0 u1 u2 u3 => ((((Only.refl _ w1).setCell (.inl (by simp)) _).setCell (.inl (by simp)) _).setCell (.inl (by simp)) _).setCell (.inl (by simp)) _
  exact bodyPost_ret (v := .agg #[.int .i64 g.b.ix, .int .i64 g.b.tm, .slice A' g.b.vs.length c', .string g.b.d]) (by simp [results, Try.results26, go_sem, *]) rfl ⟨_, rfl, own_keep HO.out (hF _ _ _ _) (fun y hy => by simp at hy; subst hy; exact hne2), hoB.trans (hF _ _ _ _) (fun y hy => .inr (by simp at hy; omega))⟩
def LG.newer (g : LG) (ix tm : Int) : Bool := decide ((g.term g.last).1 < tm) || (tm == (g.term g.last).1 && decide (g.last ≤ ix))
set_option maxRecDepth 100000 in
theorem logk_newer (b : Nat) (K : List Nat) (g : LG) (ix tm : Int) (w : World) (h : LogK w K b g) :
    Calls Try.prog 32 #[.pointer (some ⟨b, 0, none⟩), .int .i64 ix, .int .i64 tm] w fun e w' => e = .returned (.bool (g.newer ix tm)) ∧ Only [] w w' := by
  have CL := Lib.hid (fun w' (ho : Only [] w w') => logk_last b K g w' (h.only ho))
  have CT := Lib.hid (fun w' (ho : Only [] w w') => logk_term b K g g.last w' (h.only ho))
  clear h
  unfold LG.newer
  obtain ⟨t, ht⟩ : ∃ t, g.term g.last = t := ⟨_, rfl⟩
  rw [ht] at CT ⊢
  clear ht
  obtain ⟨t, ok⟩ := t
  unfold ibV at CT
  simp only at CT ⊢
  by_cases h1 : t < tm
  · have d1 : decide (t < tm) = true := by simpa using h1
    go_enter Try.func32, Try.ntmps32
    go_wp2_with fail
    refine (CL.out _ (Only.refl _ _)).mono ?_
    rintro e w1 ⟨rfl, ho1⟩
    go_wp2_with fail
    refine (CT.out _ ho1).mono ?_
    rintro e w2 ⟨rfl, ho2⟩
    go_wp2_with fail
    go_ret
    exact ⟨by simp [h1], ho1.tr ho2⟩
  · have d1 : decide (t < tm) = false := by simpa using h1
    by_cases h2 : tm = t
    · have d2 : (tm == t) = true := by simpa using h2
      go_enter Try.func32, Try.ntmps32
      go_wp2_with fail
      refine (CL.out _ (Only.refl _ _)).mono ?_
      rintro e w1 ⟨rfl, ho1⟩
      go_wp2_with fail
      refine (CT.out _ ho1).mono ?_
      rintro e w2 ⟨rfl, ho2⟩
      go_wp2_with fail
      refine (CL.out _ (ho1.tr ho2)).mono ?_
      rintro e w3 ⟨rfl, ho3⟩
      go_wp2_with fail
      go_ret
      exact ⟨by simp [h2], (ho1.tr ho2).tr ho3⟩
    · have d2 : (tm == t) = false := by simpa using h2
      go_enter Try.func32, Try.ntmps32
      go_wp2_with fail
      refine (CL.out _ (Only.refl _ _)).mono ?_
      rintro e w1 ⟨rfl, ho1⟩
      go_wp2_with fail
      refine (CT.out _ ho1).mono ?_
      rintro e w2 ⟨rfl, ho2⟩
      go_wp2_with fail
      go_ret
      exact ⟨by simp [h1, h2], ho1.tr ho2⟩
set_option maxRecDepth 100000 in
theorem logk_follows (b : Nat) (K : List Nat) (g : LG) (x : En) (w : World) (h : LogK w K b g) :
    Calls Try.prog 57 #[.pointer (some ⟨b, 0, none⟩), x.val] w fun e w' => e = .returned (.bool (x.ix == g.last + 1)) ∧ Only [] w w' := by
  have CL := Lib.hid (fun w' (ho : Only [] w w') => logk_last b K g w' (h.only ho))
  obtain ⟨lo, l0, l1⟩ := h.hi
  clear h
  unfold En.val
  have hoA : Only [] w (w.alloc (.cells #[.int .i64 x.ix, .int .i64 x.tm, .int .i64 x.kd, .string x.d] 40)) := (Only.refl _ _).alloc _
  have hX := Cells.new w 40 [.int .i64 x.ix, .int .i64 x.tm, .int .i64 x.kd, .string x.d]
  go_enter Try.func57, Try.ntmps57
  go_wp2_with fail
  have x0 := fun u : Since (w.alloc (.cells #[.int .i64 x.ix, .int .i64 x.tm, .int .i64 x.kd, .string x.d] 40)) => u.cell (hX.cell (k := 0) rfl)
  refine wp_region_only _ (Only.refl _ _) (by kernel_rfl) (by kernel_rfl) ?_
  repeat (go_big_quiet_step ((go_at_call 21; refine Calls.only (CL.out _ (hoA.tr (Since.h _))))))
  refine wpQuiet_nil ?_
  rintro ⟨w1, ho1⟩
  dsimp only
  go_wp2_with fail
  go_ret
  exact ⟨rfl, hoA.tr ho1⟩
set_option maxRecDepth 100000 in
theorem logk_beyond (b : Nat) (K : List Nat) (g : LG) (x : En) (w : World) (h : LogK w K b g) :
    Calls Try.prog 56 #[.pointer (some ⟨b, 0, none⟩), x.val] w fun e w' => e = .returned (.bool (decide (g.last + 1 < x.ix))) ∧ Only [] w w' := by
  have CL := Lib.hid (fun w' (ho : Only [] w w') => logk_last b K g w' (h.only ho))
  obtain ⟨lo, l0, l1⟩ := h.hi
  clear h
  unfold En.val
  have hoA : Only [] w (w.alloc (.cells #[.int .i64 x.ix, .int .i64 x.tm, .int .i64 x.kd, .string x.d] 40)) := (Only.refl _ _).alloc _
  have hX := Cells.new w 40 [.int .i64 x.ix, .int .i64 x.tm, .int .i64 x.kd, .string x.d]
  go_enter Try.func56, Try.ntmps56
  go_wp2_with fail
  have x0 := fun u : Since (w.alloc (.cells #[.int .i64 x.ix, .int .i64 x.tm, .int .i64 x.kd, .string x.d] 40)) => u.cell (hX.cell (k := 0) rfl)
  refine wp_region_only _ (Only.refl _ _) (by kernel_rfl) (by kernel_rfl) ?_
  repeat (go_big_quiet_step ((go_at_call 21; refine Calls.only (CL.out _ (hoA.tr (Since.h _))))))
  refine wpQuiet_nil ?_
  rintro ⟨w1, ho1⟩
  dsimp only
  go_wp2_with fail
  go_ret
  exact ⟨rfl, hoA.tr ho1⟩
/-- A row of entries that somebody else holds. -/
structure EnR (w : World) (K : List Nat) (v : Value) (l : List En) : Prop where
  own : w.ownsRow 0 40 4 v l.length (enL l)
  off : ∀ q, v.ownBlock = some q → q ∉ K
theorem EnR.keep {S K : List Nat} {w w' : World} {v : Value} {l : List En} (h : EnR w K v l) (ho : Only S w w') (hS : ∀ x, x ∈ S → x ∈ K) : EnR w' K v l :=
  ⟨own_keep h.own ho (fun x hx he => h.off x he (hS x hx)), h.off⟩
theorem EnR.grew {K K' : List Nat} {w w' : World} {v : Value} {l : List En} (h : EnR w K v l) (hg : Grew w w' K K') : EnR w' K' v l :=
  ⟨own_keep h.own hg.only (fun x hx he => h.off x he hx), fun q hq hm => (hg.blocks q hm).elim (h.off q hq) fun h2 => by have := (h.own.lt q hq).2; omega⟩
theorem EnR.shape {K : List Nat} {w : World} {v : Value} {l : List En} (h : EnR w K v l) : ∃ A c, v = .slice A l.length c := (SlAt.of_own h.own).shape
theorem EnR.ent {K : List Nat} {w : World} {v : Value} {l : List En} (h : EnR w K v l) {k : Nat} {x : En} (hx : l[k]? = some x) :
    ∃ q c, v = .slice (some ⟨q, 0, none⟩) l.length c ∧ q < w.heap.size ∧ w.cell? ⟨q, k * 4, none⟩ = some (.int .i64 x.ix) ∧ w.cell? ⟨q, k * 4 + 1, none⟩ = some (.int .i64 x.tm) ∧ w.cell? ⟨q, k * 4 + 2, none⟩ = some (.int .i64 x.kd) ∧ w.cell? ⟨q, k * 4 + 3, none⟩ = some (.string x.d) := by
  have hk : k < l.length := (List.getElem?_eq_some_iff.1 hx).1
  obtain ⟨q, c, hev⟩ := own_formX h.own (by omega)
  have key : ∀ j u, j < 4 → x.cells[j]? = some u → w.cell? ⟨q, k * 4 + j, none⟩ = some u := by
    intro j u hj hu
    obtain ⟨q', c', e2, _, _, hc⟩ := own_cell (k := k * 4 + j) (u := u) h.own (by rw [enL_get hx j hj]; exact hu)
    rw [hev] at e2; injection e2 with e2; injection e2 with e2; injection e2 with e2; subst e2
    exact hc
  refine ⟨q, c, hev, ?_, key 0 _ (by omega) rfl, key 1 _ (by omega) rfl, key 2 _ (by omega) rfl, key 3 _ (by omega) rfl⟩
  exact (h.own.lt q (by rw [hev]; rfl)).2
def takeL (g : LG) : List En → LG
  | [] => g
  | e :: r => if g.last + 1 < e.ix then g else if e.ix = g.last + 1 then takeL ⟨g.b, g.l ++ [e]⟩ r else takeL g r
def metV (b n : Nat) : Value := .func (.func n) #[.pointer (some ⟨b, 0, none⟩)] #[]
set_option maxRecDepth 100000 in
set_option maxHeartbeats 8000000 in
theorem log_take (b : Nat) (K : List Nat) (v : Value) (l : List En) (g : LG) (w : World) (h : LogK w K b g) (hl : EnR w K v l) (hr : g.last + l.length ≤ 1000000) :
    Calls Try.prog 55 #[v, .func (.func 56) #[.pointer (some ⟨b, 0, none⟩)] #[], .func (.func 57) #[.pointer (some ⟨b, 0, none⟩)] #[], .func (.func 58) #[.pointer (some ⟨b, 0, none⟩)] #[]] w fun e w' => e = .returned (.tuple #[]) ∧ Does w w' K b (takeL g l) := by
  obtain ⟨A, c, rfl⟩ := hl.shape
  have hl6 : l.length ≤ 1000000 := by have := h.hi; omega
  have H := Lib.hid h
  have HL := Lib.hid hl
  clear h hl
  go_enter Try.func55, Try.ntmps55
  go_wp2_with fail
  go_loopw [12] (fun i wr => ∃ k : Nat, k ≤ l.length ∧ i = .int .i64 k ∧ ∃ K' g', Hid (LogK wr K' b g') ∧ Hid (Grew w wr K K') ∧ Hid (takeL g l = takeL g' (l.drop k)) ∧ Hid (g'.last ≤ g.last + k)) (fun i _ => l.length - (intOf i).toNat)
  case atStart => exact ⟨0, by omega, rfl, K, g, H, Lib.hid (Grew.refl _ _), Lib.hid rfl, Lib.hid (by show g.last ≤ g.last + ((0 : Nat) : Int); omega)⟩
  case round =>
    obtain ⟨k, hk, rfl, K', g', hK, hG, hT, hla⟩ := hrel
    by_cases hlt : k < l.length
    · have hlt' : (k : Int) < (l.length : Int) := by omega
      obtain ⟨x, hx⟩ : ∃ x, l[k]? = some x := ⟨_, List.getElem?_eq_getElem hlt⟩
      have hdr : l.drop k = x :: l.drop (k + 1) := by
        rw [List.drop_eq_getElem_cons hlt]
        rw [List.getElem?_eq_getElem hlt] at hx
        injection hx with hx; rw [hx]
      have hT2 : Hid (takeL g l = if g'.last + 1 < x.ix then g' else if x.ix = g'.last + 1 then takeL ⟨g'.b, g'.l ++ [x]⟩ (l.drop (k + 1)) else takeL g' (l.drop (k + 1))) := by show _ = _; rw [hT.out, hdr]; rfl
      have hE := HL.out.grew hG.out
      obtain ⟨q, c', hv, hq, e0, e1, e2, e3⟩ := hE.ent hx
      injection hv with i1 i2 i3
      subst i1; subst i3
      clear hE hx hdr hT
      have hhi := hK.out.hi
      obtain ⟨lo', l0', l1'⟩ := hhi
      have hoX : Only [] wr (wr.alloc (.cells #[.int .i64 x.ix, .int .i64 x.tm, .int .i64 x.kd, .string x.d] 40)) := (Only.refl _ _).alloc _
      have hX := Cells.new wr 40 [.int .i64 x.ix, .int .i64 x.tm, .int .i64 x.kd, .string x.d]
      have HX := Lib.hid hX
      clear hX
      go_wp2_with fail
      have CB := Lib.hid (fun w' (ho : Only [] wr w') => logk_beyond b K' g' x w' (hK.out.only ho))
      have CF := Lib.hid (fun w' (ho : Only [] wr w') => logk_follows b K' g' x w' (hK.out.only ho))
      have CP := Lib.hid (fun w' (ho : Only [] wr w') => logk_put b K' g' x w' (hK.out.only ho))
      unfold En.val at CB CF CP
      refine (CB.out _ hoX).mono ?_
      rintro e w1 ⟨rfl, ho1⟩
      have hX1 := HX.out.only ho1 (by simp)
      have hoB := hoX.tr ho1
      by_cases h1 : g'.last + 1 < x.ix
      · have d1 : decide (g'.last + 1 < x.ix) = true := by simpa using h1
        have hT3 : Hid (takeL g l = g') := by show _ = _; rw [hT2.out, if_pos h1]
        have hG2 := Lib.hid (hG.out.tr0 hoB)
        have hK2 := Lib.hid (hK.out.only hoB)
        clear hX1 hoX ho1 hoB CB CF CP
        go_wp2_with fail
        refine bodyPost_ret (results_none rfl _ _ _) rfl ?_
        exact ⟨rfl, K', by rw [hT3.out]; exact hK2.out, hG2.out⟩
      · have d1 : decide (g'.last + 1 < x.ix) = false := by simpa using h1
        have x0 := hX1.cell (k := 0) rfl
        have x1 := hX1.cell (k := 1) rfl
        have x2 := hX1.cell (k := 2) rfl
        have x3 := hX1.cell (k := 3) rfl
        go_wp2_with fail
        refine (CF.out _ hoB).mono ?_
        rintro e w2 ⟨rfl, ho2⟩
        have hX2 := hX1.only ho2 (by simp)
        have hoC := hoB.tr ho2
        by_cases h2 : x.ix = g'.last + 1
        · have d2 : (x.ix == g'.last + 1) = true := by simpa using h2
          have hT3 : Hid (takeL g l = takeL ⟨g'.b, g'.l ++ [x]⟩ (l.drop (k + 1))) := by show _ = _; rw [hT2.out, if_neg (by omega), if_pos h2]
          have x0 := hX2.cell (k := 0) rfl
          have x1 := hX2.cell (k := 1) rfl
          have x2 := hX2.cell (k := 2) rfl
          have x3 := hX2.cell (k := 3) rfl
          have CP' := Lib.hid (CP.out w2 hoC (by have := hla.out; omega))
          rw [h2] at CP'
          have hG2 := Lib.hid (hG.out.tr0 hoC)
          clear hX1 hX2 hoX ho1 hoB CB CF CP ho2
          go_wp2_with fail
          refine CP'.out.mono ?_
          rintro e w3 ⟨rfl, K3, hK3, hG3⟩
          have hG4 := Lib.hid (hG2.out.trans hG3)
          have hK4 := Lib.hid hK3
          clear hK3 hG3 CP'
          go_wp2_with fail
          go_roundw
          case rel => exact ⟨k + 1, by omega, by go_num, K3, ⟨g'.b, g'.l ++ [x]⟩, hK4, hG4, hT3, Lib.hid (by have := hla.out; unfold LG.last at this ⊢; simp only [List.length_append, List.length_singleton] at this ⊢; omega)⟩
          case measure => simp [intOf]; omega
        · have d2 : (x.ix == g'.last + 1) = false := by simpa using h2
          have hT3 : Hid (takeL g l = takeL g' (l.drop (k + 1))) := by show _ = _; rw [hT2.out, if_neg (by omega), if_neg h2]
          have hG4 := Lib.hid (hG.out.tr0 hoC)
          have hK4 := Lib.hid (hK.out.only hoC)
          clear hX1 hX2 hoX ho1 hoB CB CF CP ho2
          go_wp2_with fail
          go_roundw
          case rel => exact ⟨k + 1, by omega, by go_num, K', g', hK4, hG4, hT3, Lib.hid (by have := hla.out; omega)⟩
          case measure => simp [intOf]; omega
    · have hd : decide ((k : Int) < (l.length : Int)) = false := by simp; omega
      have hT2 : Hid (takeL g l = g') := by show _ = _; rw [hT.out, List.drop_eq_nil_of_le (by omega)]; rfl
      go_wp2_with fail
      go_end0
      exact ⟨rfl, K', by rw [hT2.out]; exact hK.out, hG.out⟩
end Go.Proofs.Ytagklgodcbmcaaa
