/-
  Chapter 8: Match. (Printed by gen_r8l.py.)
-/
import Derived.Test.YtagklgodcbmcaaaR8k
namespace Go.Proofs.Ytagklgodcbmcaaa
open Go.RowKit
theorem own_upto {w : World} {e : TypeId} {n sz c m : Nat} {A : Option Addr} {xs : List Value} (h : w.ownsRow 0 e sz (.slice A n c) n xs) (hm : m ≤ n) :
    SlAt w w.heap.size (.slice A m c) sz m (xs.take (m * sz)) := by
  obtain ⟨hl, A', c', hv, hnc, hcm, hh⟩ := SlAt.of_own h
  injection hv with e1 e2 e3
  subst e1; subst e3
  have hms : m * sz ≤ n * sz := Nat.mul_le_mul_right _ hm
  refine ⟨by rw [List.length_take, hl]; omega, _, _, rfl, by omega, hcm, fun hp => ?_⟩
  obtain ⟨b, o, hb, hlt, hc⟩ := hh (by omega)
  refine ⟨b, o, hb, hlt, fun j u hu => hc j u ?_⟩
  have hj : j < m * sz := by
    have := (List.getElem?_eq_some_iff.1 hu).1
    rw [List.length_take] at this; omega
  rwa [List.getElem?_take_of_lt hj] at hu
def LG.addAll (g : LG) (l : List En) : LG := l.foldl (fun g e => ⟨g.b, g.l ++ [g.new e.tm e.kd e.d]⟩) g
def LG.matchGo (g : LG) (index fixed : Int) : Nat → List En → LG × Int
  | _, [] => (g, 0)
  | k, e :: r => if index + 1 + (k : Int) ≤ fixed ∨ (g.term (index + 1 + (k : Int))).2 = true ∧ (g.term (index + 1 + (k : Int))).1 = e.tm then LG.matchGo g index fixed (k + 1) r
    else ((⟨g.b, g.l.take (index + 1 + (k : Int) - g.b.ix - 1).toNat⟩ : LG).addAll (e :: r), index + 1 + (k : Int))
structure MR where
  g : LG
  x : Int
  y : Int
  ok : Bool
def LG.matchR (g : LG) (index term fixed : Int) (l : List En) : MR :=
  if g.last < index then ⟨g, g.last, 0, false⟩
  else if fixed < index ∧ (g.term index).1 ≠ term then ⟨g, index - 1, 0, false⟩
  else ⟨(g.matchGo index fixed 0 l).1, index + (l.length : Int), (g.matchGo index fixed 0 l).2, true⟩
def MR.val (r : MR) : Value := .tuple #[.int .i64 r.x, .int .i64 r.y, .bool r.ok]
set_option maxRecDepth 100000 in
set_option maxHeartbeats 16000000 in
theorem logk_match (b : Nat) (K : List Nat) (g : LG) (index term fixed : Int) (lv : Value) (l : List En) (w : World) (h : LogK w K b g) (hl : EnR w K lv l) (hx0 : -9223372036854775808 ≤ index) (hf0 : g.b.ix ≤ fixed) (hf1 : fixed ≤ g.last) (hr : g.last + l.length ≤ 1000000) :
    Calls Try.prog 23 #[.pointer (some ⟨b, 0, none⟩), .int .i64 index, .int .i64 term, .int .i64 fixed, lv] w fun e w' => e = .returned (g.matchR index term fixed l).val ∧ Does w w' K b (g.matchR index term fixed l).g := by
  obtain ⟨lo, l0, l1⟩ := h.hi
  have HKG := Lib.hid h
  obtain ⟨vv, ev, h, hK, hKl⟩ := h
  have CL := Lib.hid (fun w' (ho : Only [] w w') => log_last b vv ev g w' (h.only ho))
  have CT := Lib.hid (fun i w' (ho : Only [] w w') => log_term b vv ev g i w' (h.only ho))
  obtain ⟨LA, lc, rfl⟩ := hl.shape
  have hHlo := h.hi
  have H := Lib.hid h
  have HKK := Lib.hid hK
  have HL := Lib.hid hl
  have hlc : l.length ≤ lc := by
    obtain ⟨_, A, c', hv, h3, h4, _⟩ := SlAt.of_own hl.own
    injection hv with _ _ hv; subst hv; exact h3
  obtain ⟨A, c, hev⟩ := h.shape
  subst hev
  have hnc : g.l.length ≤ c ∧ c ≤ maxLen := by
    obtain ⟨_, A, c', hv, h3, h4, _⟩ := SlAt.of_own h.ents
    injection hv with _ _ hv; subst hv; exact ⟨h3, h4⟩
  obtain ⟨hnc, hcm⟩ := hnc
  have hev2 : ∃ ev, ev = Value.slice A g.l.length c := ⟨_, rfl⟩
  unfold ibV at CT
  clear h hK hKl hl
  by_cases h1 : g.last < index
  · have d1 : decide (g.last < index) = true := by simpa using h1
    have HR : Hid (g.matchR index term fixed l = ⟨g, g.last, 0, false⟩) := by show _ = _; unfold LG.matchR; rw [if_pos h1]
    unfold MR.val
    go_enter Try.func23, Try.ntmps23
    go_wp2_with fail
    refine (CL.out _ (Only.refl _ _)).mono ?_
    rintro e w1 ⟨rfl, ho1⟩
    go_wp2_with fail
    refine (CL.out _ ho1).mono ?_
    rintro e w2 ⟨rfl, ho2⟩
    go_wp2_with fail
    go_ret3
    rw [HR.out]
    exact ⟨rfl, (Does.refl HKG.out).tr0 (ho1.tr ho2)⟩
  · have d1 : decide (g.last < index) = false := by simpa using h1
    by_cases h2 : fixed < index ∧ (g.term index).1 ≠ term
    · obtain ⟨h2, h3⟩ := h2
      have d2 : decide (fixed < index) = true := by simpa using h2
      have d3 : ((g.term index).1 == term) = false := by simpa using h3
      have HR : Hid (g.matchR index term fixed l = ⟨g, index - 1, 0, false⟩) := by show _ = _; unfold LG.matchR; rw [if_neg h1, if_pos ⟨h2, h3⟩]
      unfold MR.val
      have hw1 : -9223372036854775808 ≤ index - 1 := by omega
      go_enter Try.func23, Try.ntmps23
      go_wp2_with fail
      refine (CL.out _ (Only.refl _ _)).mono ?_
      rintro e w1 ⟨rfl, ho1⟩
      go_wp2_with fail
      refine (CT.out _ _ ho1).mono ?_
      rintro e w2 ⟨rfl, ho2⟩
      go_wp2_with fail
      go_ret3
      rw [HR.out]
      exact ⟨rfl, (Does.refl HKG.out).tr0 (ho1.tr ho2)⟩
    · have hR : Hid (g.matchR index term fixed l = ⟨(g.matchGo index fixed 0 l).1, index + (l.length : Int), (g.matchGo index fixed 0 l).2, true⟩) := by show _ = _; unfold LG.matchR; rw [if_neg h1, if_neg h2]
      have h23 : decide (fixed < index) = false ∨ (decide (fixed < index) = true ∧ ((g.term index).1 != term) = false) := by
        by_cases h3 : fixed < index
        · exact .inr ⟨by simpa using h3, by simpa using fun h4 => h2 ⟨h3, h4⟩⟩
        · exact .inl (by simpa using h3)
      have HR : Hid (g.matchR index term fixed l = ⟨(g.matchGo index fixed 0 l).1, index + (l.length : Int), (g.matchGo index fixed 0 l).2, true⟩) := hR
      unfold MR.val
      clear hR
      have key : ∀ w2, Only [] w w2 → True := fun _ _ => trivial
      clear h2
      go_enter Try.func23, Try.ntmps23
      go_wp2_with fail
      refine (CL.out _ (Only.refl _ _)).mono ?_
      rintro e w1 ⟨rfl, ho1⟩
      go_wp2_with fail
      refine (CT.out _ _ ho1).mono ?_
      rintro e w2 ⟨rfl, ho2⟩
      have HO2 := Lib.hid (ho1.tr ho2)
      clear ho1 ho2
      rcases h23 with d2 | ⟨d2, d3⟩

      · skip
        go_wp2_with fail
        go_loopw [46] (fun i wr => ∃ k : Nat, k ≤ l.length ∧ i = .int .i64 k ∧ Hid (Only [] w wr) ∧ Hid (g.matchGo index fixed 0 l = g.matchGo index fixed k (l.drop k)) ∧ (0 < k → index + (k : Int) ≤ g.last)) (fun i _ => l.length - (intOf i).toNat)
        case atStart => exact ⟨0, by omega, rfl, HO2, Lib.hid rfl, by omega⟩
        case round =>
          clear HO2
          obtain ⟨k, hk, rfl, ho, hgo, hkl⟩ := hrel
          by_cases hlt : k < l.length
          · have hlt' : (k : Int) < (l.length : Int) := by omega
            obtain ⟨x, hx⟩ : ∃ x, l[k]? = some x := ⟨_, List.getElem?_eq_getElem hlt⟩
            have hdr : Hid (l.drop k = x :: l.drop (k + 1)) := by
              show _ = _
              rw [List.drop_eq_getElem_cons hlt]
              rw [List.getElem?_eq_getElem hlt] at hx
              injection hx with hx; rw [hx]
            have hE := HL.out.grew (Grew.of0 K ho.out)
            obtain ⟨q, c', hv, hq, e0, e1, e2, e3⟩ := hE.ent hx
            injection hv with i1 i2 i3
            subst i1; subst i3
            have hX := Cells.new wr 40 [.int .i64 x.ix, .int .i64 x.tm, .int .i64 x.kd, .string x.d]
            have hoX := ho.out.alloc (.cells #[.int .i64 x.ix, .int .i64 x.tm, .int .i64 x.kd, .string x.d] 40)
            have HX := Lib.hid hX
            have hoXX : Only [] wr (wr.alloc (.cells #[.int .i64 x.ix, .int .i64 x.tm, .int .i64 x.kd, .string x.d] 40)) := (Only.refl _ _).alloc _
            have hi1 : -9223372036854775808 ≤ index + 1 := by omega
            have hi2 : index + 1 + (k : Int) ≤ 10000000 := by omega
            have CT2 := Lib.hid (CT.out (index + 1 + (k : Int)) _ hoX)
            have HOX := Lib.hid hoX
            clear hE hx hX hoX hoXX i2
            go_wp2_with fail
            refine CT2.out.mono ?_
            rintro e w2 ⟨rfl, ho2⟩
            have hX2 := HX.out.only ho2 (by simp)
            have HO2 := Lib.hid (HOX.out.tr ho2)
            have z0 := hX2.cell (k := 0) rfl
            have z1 := hX2.cell (k := 1) rfl
            have z2 := hX2.cell (k := 2) rfl
            have z3 := hX2.cell (k := 3) rfl
            obtain ⟨t, htt⟩ : ∃ t, (g.term (index + 1 + (k : Int))).1 = t := ⟨_, rfl⟩
            obtain ⟨ok, hok⟩ : ∃ ok, (g.term (index + 1 + (k : Int))).2 = ok := ⟨_, rfl⟩
            rw [htt, hok]
            clear hX2 ho2 HX HOX CT2 e0 e1 e2 e3
            by_cases hat : index + 1 + (k : Int) ≤ fixed
            · have d4 : decide (index + 1 + (k : Int) ≤ fixed) = true := by simpa using hat
              have hgo2 : Hid (g.matchGo index fixed 0 l = g.matchGo index fixed (k + 1) (l.drop (k + 1))) := by
                show _ = _
                rw [hgo.out, hdr.out]
                rw [LG.matchGo, if_pos (.inl hat)]
              go_wp2_with fail
              go_roundw
              case rel => exact ⟨k + 1, by omega, by go_num, HO2, hgo2, fun _ => by omega⟩
              case measure => simp [intOf]; omega
            · have d4 : decide (index + 1 + (k : Int) ≤ fixed) = false := by simpa using hat
              have hat1 : g.b.ix + 1 ≤ index + 1 + (k : Int) := by omega
              have hat2 : index + 1 + (k : Int) ≤ g.last + 1 := by
                rcases Nat.eq_zero_or_pos k with h | h
                · omega
                · have := hkl h; omega
              cases ok with
              | false =>
                have hne : t ≠ x.tm ∨ True := .inr trivial
                have hm : ∃ m : Nat, index + 1 + (k : Int) - g.b.ix - 1 = m ∧ m ≤ g.l.length := ⟨(index + 1 + (k : Int) - g.b.ix - 1).toNat, by omega, by have := hat2; unfold LG.last at this; omega⟩
                obtain ⟨m, hm, hml⟩ := hm
                have hML : Hid (g.matchGo index fixed 0 l = ((⟨g.b, g.l.take m⟩ : LG).addAll (l.drop k), index + 1 + (k : Int))) := by
                  show _ = _
                  rw [hgo.out, hdr.out]
                  unfold LG.matchGo
                  rw [if_neg (by rintro (h | ⟨h3, h4⟩); omega; first | (exact Bool.noConfusion (show false = true from hok.symm.trans h3)) | (exact hne (htt.symm.trans h4))), hm, Int.toNat_natCast]
                have CP := Lib.hid (fun w' (ho : Only [] w w') => log_place b vv (.slice A g.l.length c) g (index + 1 + (k : Int)) w' (H.out.only ho) (by omega) (by omega))
                rw [hm] at CP
                clear hgo hdr hok htt
                go_wp2_with fail
                have c4 : ∀ u : Since w2, u.w.cell? ⟨b, 4, none⟩ = some (.slice A g.l.length c) := fun u => u.cell ((H.out.only HO2.out).cells.cell (k := 4) rfl)
                have hmc : m ≤ c := by omega
                refine wp_region_pendN w2 (Only.refl _ _) [(82, OwW w2.heap.size 40 4 m (enL (g.l.take m)))] [] 12 (by intro p hp; simp at hp; subst hp; exact OwW.lasts _ _ _ _ _) (by kernel_rfl) (by kernel_rfl) (by decide) (fun val => ?_)
                simp only [List.take_succ_cons, List.take_zero, List.drop_succ_cons, List.drop_zero]
                refine fit_segN 7 (by kernel_rfl) ?_
                simp only [List.take_succ_cons, List.take_zero, List.drop_succ_cons, List.drop_zero]
                repeat (go_big_quiet_step (fail))
                refine wpQuiet_nil ?_
                refine fit_call (.int .i64 m) 59 #[.pointer (some ⟨b, 0, none⟩), .int .i64 (index + 1 + (k : Int))] rfl (by simp) (fun w5 => by go_simp) rfl (by kernel_rfl) (fun w5 hw5 => (CP.out w5 (HO2.out.tr hw5.1)).mono fun e w' ⟨h1, h2⟩ => ⟨h1, h2 ▸ Only.refl _ _⟩) ?_
                simp only [Act.put, List.setIfInBounds_toArray, List.set_cons_zero, List.set_cons_succ]
                refine fit_segN 1 (by kernel_rfl) ?_
                simp only [List.take_succ_cons, List.take_zero, List.drop_succ_cons, List.drop_zero]
                repeat (go_big_quiet_step (fail))
                refine wpQuiet_nil ?_
                refine fit_callW (82, OwW w2.heap.size 40 4 m (enL (g.l.take m))) rfl rfl (by simp) (by simp) 60 #[.slice A m c] (fun w5 => by go_simp) rfl (by kernel_rfl) (fun w5 hw5 => ?_) ?_
                · have ho5 : Only [] w2 w5 := hw5.1
                  have hq := own_upto (H.out.only (HO2.out.tr ho5)).ents hml
                  rw [enL_take] at hq
                  have htl : (g.l.take m).length = m := by rw [List.length_take]; omega
                  refine (clone_ent _ (g.l.take m) w5.heap.size w5 (Nat.le_refl _) (by rw [htl]; omega) (by rw [htl]; exact hq)).mono ?_
                  rintro e w6 ⟨u, rfl, hu, ho6⟩
                  rw [htl] at hu
                  exact ⟨u, rfl, ho6, own_low hu ho5.size, fun y hy => (hu.lt y hy).1⟩
                simp only [Act.put, List.setIfInBounds_toArray, List.set_cons_zero, List.set_cons_succ]
                refine fit_segN 2 (by kernel_rfl) ?_
                simp only [List.take_succ_cons, List.take_zero, List.drop_succ_cons, List.drop_zero]
                repeat (go_big_quiet_step (fail))
                refine wpQuiet_nil ?_
                intro w5 ho5 hV5
                have hown5 : w5.ownsRow w2.heap.size 40 4 (val 82) m (enL (g.l.take m)) := hV5 (by decide) (82, OwW w2.heap.size 40 4 m (enL (g.l.take m))) (by simp) (by simp)
                obtain ⟨u, hu⟩ : ∃ u, val 82 = u := ⟨_, rfl⟩
                rw [hu] at hown5 ⊢
                have hN5 := H.out.only (HO2.out.tr ho5)
                have e4 := hN5.cells.cell (k := 4) rfl
                have k4 := hN5.cells.frozen 4
                have l4 := hN5.cells.lt
                have htl : (g.l.take m).length = m := by rw [List.length_take]; omega
                have hS := hN5.swap (l' := g.l.take m) (Only.refl [] _) (by simp) (by rw [htl]; exact own_low hown5 (Nat.zero_le _)) (by rw [htl]; have := H.out.hi; omega)
                have hD6 : Does w (w5.setCell ⟨b, 4, none⟩ u) K b ⟨g.b, g.l.take m⟩ := Does.ofV HKK.out hS.1 (((HO2.out.tr ho5).of0).tr hS.2) (fun q hq => .inr (Nat.le_trans HO2.out.size (hown5.lt q hq).1)) (NewOf.refl _ _)
                obtain ⟨A5, c5, rfl⟩ := (SlAt.of_own hown5).shape
                obtain ⟨K6, hK6, hG6⟩ := hD6
                have HK6 := Lib.hid hK6
                have HG6 := Lib.hid hG6
                clear hS hN5 hown5 hV5 c4 hu CP ho5 hK6 hG6
                obtain ⟨N, hN⟩ : ∃ N, l.length - k = N := ⟨_, rfl⟩
                have hNl : k + N = l.length := by omega
                have hkc : (k : Int) ≤ l.length := by omega
                go_wp2_with fail
                obtain ⟨w6, hw6⟩ : ∃ w6, w5.setCell ⟨b, 4, none⟩ (.slice A5 m c5) = w6 := ⟨_, rfl⟩
                rw [hw6] at HK6 HG6 ⊢
                try rw [hN]
                clear e4 k4 l4 hw6
                go_loopw [89] (fun i wr => ∃ j : Nat, j ≤ N ∧ i = .int .i64 j ∧ ∃ K' g', Hid (LogK wr K' b g') ∧ Hid (Grew w wr K K') ∧ Hid ((⟨g.b, g.l.take m⟩ : LG).addAll (l.drop k) = g'.addAll (l.drop (k + j))) ∧ Hid (g'.last ≤ g.last + j)) (fun i _ => N - (intOf i).toNat)
                case atStart => exact ⟨0, by omega, rfl, K6, _, HK6, HG6, Lib.hid rfl, Lib.hid (by unfold LG.last; simp only [htl]; omega)⟩
                case round =>
                  obtain ⟨j, hj, rfl, K', g', hK, hG, hT, hla⟩ := hrel
                  by_cases hlt : j < N
                  · have hlt' : (j : Int) < (N : Int) := by omega
                    obtain ⟨y, hy⟩ : ∃ y, l[k + j]? = some y := ⟨_, List.getElem?_eq_getElem (by omega)⟩
                    have hT2 : Hid ((⟨g.b, g.l.take m⟩ : LG).addAll (l.drop k) = (⟨g'.b, g'.l ++ [g'.new y.tm y.kd y.d]⟩ : LG).addAll (l.drop (k + (j + 1)))) := by
                      show _ = _
                      rw [hT.out, List.drop_eq_getElem_cons (show k + j < l.length by omega)]
                      rw [List.getElem?_eq_getElem (show k + j < l.length by omega)] at hy
                      injection hy with hy
                      rw [hy]; rfl
                    have hE := HL.out.grew hG.out
                    obtain ⟨q', c', hv, hq, e0, e1, e2, e3⟩ := hE.ent hy
                    injection hv with i1 i2 i3
                    injection i1 with i1
                    injection i1 with i1
                    subst i1; subst i3
                    have hr' : g'.last < 1000000 := by have := hla.out; omega
                    have hX := Cells.new wr 40 [.int .i64 y.ix, .int .i64 y.tm, .int .i64 y.kd, .string y.d]
                    have hoX : Only [] wr (wr.alloc (.cells #[.int .i64 y.ix, .int .i64 y.tm, .int .i64 y.kd, .string y.d] 40)) := (Only.refl _ _).alloc _
                    have CA := Lib.hid (log_add b K' g' y.tm y.kd y.d _ (hK.out.only hoX) hr')
                    have HGX := Lib.hid (hG.out.tr0 hoX)
                    have hkj : (k + j) * 4 = k * 4 + j * 4 := by omega
                    rw [hkj] at e0 e1 e2 e3
                    have z0 := hX.cell (k := 0) rfl
                    have z1 := hX.cell (k := 1) rfl
                    have z2 := hX.cell (k := 2) rfl
                    have z3 := hX.cell (k := 3) rfl
                    have e1 : wr.cell? ⟨q, k * 4 + j * 4 + 1, none⟩ = some (.int .i64 y.tm) := e1
                    clear hE hy hT hX hoX hkj hK hG i2
                    go_wp2_with fail
                    refine CA.out.mono ?_
                    rintro e w7 ⟨rfl, K7, hK7, hG7⟩
                    have HK7 := Lib.hid hK7
                    have HG7 := Lib.hid (HGX.out.trans hG7)
                    clear hK7 hG7 CA
                    go_wp2_with fail
                    go_roundw
                    case rel => exact ⟨j + 1, by omega, by go_num, K7, _, HK7, HG7, hT2, Lib.hid (by have := hla.out; unfold LG.last at this ⊢; simp only [List.length_append, List.length_singleton] at this ⊢; omega)⟩
                    case measure => simp [intOf]; omega
                  · have hd : decide ((j : Int) < (N : Int)) = false := by simp; omega
                    have hT2 : Hid ((⟨g.b, g.l.take m⟩ : LG).addAll (l.drop k) = g') := by show _ = _; rw [hT.out, List.drop_eq_nil_of_le (by omega)]; rfl
                    go_wp2_with fail
                    go_ret3
                    rw [HR.out, hML.out]
                    exact ⟨rfl, K', by show LogK _ _ _ (LG.addAll _ _); rw [hT2.out]; exact hK.out, hG.out⟩
              | true =>
                by_cases hne : t = x.tm
                · have d5 : (t == x.tm) = true := by simpa using hne
                  have hgo2 : Hid (g.matchGo index fixed 0 l = g.matchGo index fixed (k + 1) (l.drop (k + 1))) := by
                    show _ = _
                    rw [hgo.out, hdr.out]
                    rw [LG.matchGo, if_pos (.inr ⟨hok, by rw [htt]; exact hne⟩)]
                  have hkl2 := (LG.term_ok hok).2
                  go_wp2_with fail
                  go_roundw
                  case rel => exact ⟨k + 1, by omega, by go_num, HO2, hgo2, fun _ => by omega⟩
                  case measure => simp [intOf]; omega
                · have d5 : (t == x.tm) = false := by simpa using hne
                  have hm : ∃ m : Nat, index + 1 + (k : Int) - g.b.ix - 1 = m ∧ m ≤ g.l.length := ⟨(index + 1 + (k : Int) - g.b.ix - 1).toNat, by omega, by have := hat2; unfold LG.last at this; omega⟩
                  obtain ⟨m, hm, hml⟩ := hm
                  have hML : Hid (g.matchGo index fixed 0 l = ((⟨g.b, g.l.take m⟩ : LG).addAll (l.drop k), index + 1 + (k : Int))) := by
                    show _ = _
                    rw [hgo.out, hdr.out]
                    unfold LG.matchGo
                    rw [if_neg (by rintro (h | ⟨h3, h4⟩); omega; first | (exact Bool.noConfusion (show false = true from hok.symm.trans h3)) | (exact hne (htt.symm.trans h4))), hm, Int.toNat_natCast]
                  have CP := Lib.hid (fun w' (ho : Only [] w w') => log_place b vv (.slice A g.l.length c) g (index + 1 + (k : Int)) w' (H.out.only ho) (by omega) (by omega))
                  rw [hm] at CP
                  clear hgo hdr hok htt
                  go_wp2_with fail
                  have c4 : ∀ u : Since w2, u.w.cell? ⟨b, 4, none⟩ = some (.slice A g.l.length c) := fun u => u.cell ((H.out.only HO2.out).cells.cell (k := 4) rfl)
                  have hmc : m ≤ c := by omega
                  refine wp_region_pendN w2 (Only.refl _ _) [(82, OwW w2.heap.size 40 4 m (enL (g.l.take m)))] [] 12 (by intro p hp; simp at hp; subst hp; exact OwW.lasts _ _ _ _ _) (by kernel_rfl) (by kernel_rfl) (by decide) (fun val => ?_)
                  simp only [List.take_succ_cons, List.take_zero, List.drop_succ_cons, List.drop_zero]
                  refine fit_segN 7 (by kernel_rfl) ?_
                  simp only [List.take_succ_cons, List.take_zero, List.drop_succ_cons, List.drop_zero]
                  repeat (go_big_quiet_step (fail))
                  refine wpQuiet_nil ?_
                  refine fit_call (.int .i64 m) 59 #[.pointer (some ⟨b, 0, none⟩), .int .i64 (index + 1 + (k : Int))] rfl (by simp) (fun w5 => by go_simp) rfl (by kernel_rfl) (fun w5 hw5 => (CP.out w5 (HO2.out.tr hw5.1)).mono fun e w' ⟨h1, h2⟩ => ⟨h1, h2 ▸ Only.refl _ _⟩) ?_
                  simp only [Act.put, List.setIfInBounds_toArray, List.set_cons_zero, List.set_cons_succ]
                  refine fit_segN 1 (by kernel_rfl) ?_
                  simp only [List.take_succ_cons, List.take_zero, List.drop_succ_cons, List.drop_zero]
                  repeat (go_big_quiet_step (fail))
                  refine wpQuiet_nil ?_
                  refine fit_callW (82, OwW w2.heap.size 40 4 m (enL (g.l.take m))) rfl rfl (by simp) (by simp) 60 #[.slice A m c] (fun w5 => by go_simp) rfl (by kernel_rfl) (fun w5 hw5 => ?_) ?_
                  · have ho5 : Only [] w2 w5 := hw5.1
                    have hq := own_upto (H.out.only (HO2.out.tr ho5)).ents hml
                    rw [enL_take] at hq
                    have htl : (g.l.take m).length = m := by rw [List.length_take]; omega
                    refine (clone_ent _ (g.l.take m) w5.heap.size w5 (Nat.le_refl _) (by rw [htl]; omega) (by rw [htl]; exact hq)).mono ?_
                    rintro e w6 ⟨u, rfl, hu, ho6⟩
                    rw [htl] at hu
                    exact ⟨u, rfl, ho6, own_low hu ho5.size, fun y hy => (hu.lt y hy).1⟩
                  simp only [Act.put, List.setIfInBounds_toArray, List.set_cons_zero, List.set_cons_succ]
                  refine fit_segN 2 (by kernel_rfl) ?_
                  simp only [List.take_succ_cons, List.take_zero, List.drop_succ_cons, List.drop_zero]
                  repeat (go_big_quiet_step (fail))
                  refine wpQuiet_nil ?_
                  intro w5 ho5 hV5
                  have hown5 : w5.ownsRow w2.heap.size 40 4 (val 82) m (enL (g.l.take m)) := hV5 (by decide) (82, OwW w2.heap.size 40 4 m (enL (g.l.take m))) (by simp) (by simp)
                  obtain ⟨u, hu⟩ : ∃ u, val 82 = u := ⟨_, rfl⟩
                  rw [hu] at hown5 ⊢
                  have hN5 := H.out.only (HO2.out.tr ho5)
                  have e4 := hN5.cells.cell (k := 4) rfl
                  have k4 := hN5.cells.frozen 4
                  have l4 := hN5.cells.lt
                  have htl : (g.l.take m).length = m := by rw [List.length_take]; omega
                  have hS := hN5.swap (l' := g.l.take m) (Only.refl [] _) (by simp) (by rw [htl]; exact own_low hown5 (Nat.zero_le _)) (by rw [htl]; have := H.out.hi; omega)
                  have hD6 : Does w (w5.setCell ⟨b, 4, none⟩ u) K b ⟨g.b, g.l.take m⟩ := Does.ofV HKK.out hS.1 (((HO2.out.tr ho5).of0).tr hS.2) (fun q hq => .inr (Nat.le_trans HO2.out.size (hown5.lt q hq).1)) (NewOf.refl _ _)
                  obtain ⟨A5, c5, rfl⟩ := (SlAt.of_own hown5).shape
                  obtain ⟨K6, hK6, hG6⟩ := hD6
                  have HK6 := Lib.hid hK6
                  have HG6 := Lib.hid hG6
                  clear hS hN5 hown5 hV5 c4 hu CP ho5 hK6 hG6
                  obtain ⟨N, hN⟩ : ∃ N, l.length - k = N := ⟨_, rfl⟩
                  have hNl : k + N = l.length := by omega
                  have hkc : (k : Int) ≤ l.length := by omega
                  go_wp2_with fail
                  obtain ⟨w6, hw6⟩ : ∃ w6, w5.setCell ⟨b, 4, none⟩ (.slice A5 m c5) = w6 := ⟨_, rfl⟩
                  rw [hw6] at HK6 HG6 ⊢
                  try rw [hN]
                  clear e4 k4 l4 hw6
                  go_loopw [89] (fun i wr => ∃ j : Nat, j ≤ N ∧ i = .int .i64 j ∧ ∃ K' g', Hid (LogK wr K' b g') ∧ Hid (Grew w wr K K') ∧ Hid ((⟨g.b, g.l.take m⟩ : LG).addAll (l.drop k) = g'.addAll (l.drop (k + j))) ∧ Hid (g'.last ≤ g.last + j)) (fun i _ => N - (intOf i).toNat)
                  case atStart => exact ⟨0, by omega, rfl, K6, _, HK6, HG6, Lib.hid rfl, Lib.hid (by unfold LG.last; simp only [htl]; omega)⟩
                  case round =>
                    obtain ⟨j, hj, rfl, K', g', hK, hG, hT, hla⟩ := hrel
                    by_cases hlt : j < N
                    · have hlt' : (j : Int) < (N : Int) := by omega
                      obtain ⟨y, hy⟩ : ∃ y, l[k + j]? = some y := ⟨_, List.getElem?_eq_getElem (by omega)⟩
                      have hT2 : Hid ((⟨g.b, g.l.take m⟩ : LG).addAll (l.drop k) = (⟨g'.b, g'.l ++ [g'.new y.tm y.kd y.d]⟩ : LG).addAll (l.drop (k + (j + 1)))) := by
                        show _ = _
                        rw [hT.out, List.drop_eq_getElem_cons (show k + j < l.length by omega)]
                        rw [List.getElem?_eq_getElem (show k + j < l.length by omega)] at hy
                        injection hy with hy
                        rw [hy]; rfl
                      have hE := HL.out.grew hG.out
                      obtain ⟨q', c', hv, hq, e0, e1, e2, e3⟩ := hE.ent hy
                      injection hv with i1 i2 i3
                      injection i1 with i1
                      injection i1 with i1
                      subst i1; subst i3
                      have hr' : g'.last < 1000000 := by have := hla.out; omega
                      have hX := Cells.new wr 40 [.int .i64 y.ix, .int .i64 y.tm, .int .i64 y.kd, .string y.d]
                      have hoX : Only [] wr (wr.alloc (.cells #[.int .i64 y.ix, .int .i64 y.tm, .int .i64 y.kd, .string y.d] 40)) := (Only.refl _ _).alloc _
                      have CA := Lib.hid (log_add b K' g' y.tm y.kd y.d _ (hK.out.only hoX) hr')
                      have HGX := Lib.hid (hG.out.tr0 hoX)
                      have hkj : (k + j) * 4 = k * 4 + j * 4 := by omega
                      rw [hkj] at e0 e1 e2 e3
                      have z0 := hX.cell (k := 0) rfl
                      have z1 := hX.cell (k := 1) rfl
                      have z2 := hX.cell (k := 2) rfl
                      have z3 := hX.cell (k := 3) rfl
                      have e1 : wr.cell? ⟨q, k * 4 + j * 4 + 1, none⟩ = some (.int .i64 y.tm) := e1
                      clear hE hy hT hX hoX hkj hK hG i2
                      go_wp2_with fail
                      refine CA.out.mono ?_
                      rintro e w7 ⟨rfl, K7, hK7, hG7⟩
                      have HK7 := Lib.hid hK7
                      have HG7 := Lib.hid (HGX.out.trans hG7)
                      clear hK7 hG7 CA
                      go_wp2_with fail
                      go_roundw
                      case rel => exact ⟨j + 1, by omega, by go_num, K7, _, HK7, HG7, hT2, Lib.hid (by have := hla.out; unfold LG.last at this ⊢; simp only [List.length_append, List.length_singleton] at this ⊢; omega)⟩
                      case measure => simp [intOf]; omega
                    · have hd : decide ((j : Int) < (N : Int)) = false := by simp; omega
                      have hT2 : Hid ((⟨g.b, g.l.take m⟩ : LG).addAll (l.drop k) = g') := by show _ = _; rw [hT.out, List.drop_eq_nil_of_le (by omega)]; rfl
                      go_wp2_with fail
                      go_ret3
                      rw [HR.out, hML.out]
                      exact ⟨rfl, K', by show LogK _ _ _ (LG.addAll _ _); rw [hT2.out]; exact hK.out, hG.out⟩
          · have hd : decide ((k : Int) < (l.length : Int)) = false := by simp; omega
            have hML : Hid (g.matchGo index fixed 0 l = (g, 0)) := by show _ = _; rw [hgo.out, List.drop_eq_nil_of_le (by omega)]; rfl
            have hil : index + (l.length : Int) ≤ 10000000 := by omega
            go_wp2_with fail
            go_ret3
            rw [HR.out, hML.out]
            exact ⟨rfl, (Does.refl HKG.out).tr0 ho.out⟩
      · skip
        go_wp2_with fail
        go_loopw [46] (fun i wr => ∃ k : Nat, k ≤ l.length ∧ i = .int .i64 k ∧ Hid (Only [] w wr) ∧ Hid (g.matchGo index fixed 0 l = g.matchGo index fixed k (l.drop k)) ∧ (0 < k → index + (k : Int) ≤ g.last)) (fun i _ => l.length - (intOf i).toNat)
        case atStart => exact ⟨0, by omega, rfl, HO2, Lib.hid rfl, by omega⟩
        case round =>
          clear HO2
          obtain ⟨k, hk, rfl, ho, hgo, hkl⟩ := hrel
          by_cases hlt : k < l.length
          · have hlt' : (k : Int) < (l.length : Int) := by omega
            obtain ⟨x, hx⟩ : ∃ x, l[k]? = some x := ⟨_, List.getElem?_eq_getElem hlt⟩
            have hdr : Hid (l.drop k = x :: l.drop (k + 1)) := by
              show _ = _
              rw [List.drop_eq_getElem_cons hlt]
              rw [List.getElem?_eq_getElem hlt] at hx
              injection hx with hx; rw [hx]
            have hE := HL.out.grew (Grew.of0 K ho.out)
            obtain ⟨q, c', hv, hq, e0, e1, e2, e3⟩ := hE.ent hx
            injection hv with i1 i2 i3
            subst i1; subst i3
            have hX := Cells.new wr 40 [.int .i64 x.ix, .int .i64 x.tm, .int .i64 x.kd, .string x.d]
            have hoX := ho.out.alloc (.cells #[.int .i64 x.ix, .int .i64 x.tm, .int .i64 x.kd, .string x.d] 40)
            have HX := Lib.hid hX
            have hoXX : Only [] wr (wr.alloc (.cells #[.int .i64 x.ix, .int .i64 x.tm, .int .i64 x.kd, .string x.d] 40)) := (Only.refl _ _).alloc _
            have hi1 : -9223372036854775808 ≤ index + 1 := by omega
            have hi2 : index + 1 + (k : Int) ≤ 10000000 := by omega
            have CT2 := Lib.hid (CT.out (index + 1 + (k : Int)) _ hoX)
            have HOX := Lib.hid hoX
            clear hE hx hX hoX hoXX i2
            go_wp2_with fail
            refine CT2.out.mono ?_
            rintro e w2 ⟨rfl, ho2⟩
            have hX2 := HX.out.only ho2 (by simp)
            have HO2 := Lib.hid (HOX.out.tr ho2)
            have z0 := hX2.cell (k := 0) rfl
            have z1 := hX2.cell (k := 1) rfl
            have z2 := hX2.cell (k := 2) rfl
            have z3 := hX2.cell (k := 3) rfl
            obtain ⟨t, htt⟩ : ∃ t, (g.term (index + 1 + (k : Int))).1 = t := ⟨_, rfl⟩
            obtain ⟨ok, hok⟩ : ∃ ok, (g.term (index + 1 + (k : Int))).2 = ok := ⟨_, rfl⟩
            rw [htt, hok]
            clear hX2 ho2 HX HOX CT2 e0 e1 e2 e3
            by_cases hat : index + 1 + (k : Int) ≤ fixed
            · have d4 : decide (index + 1 + (k : Int) ≤ fixed) = true := by simpa using hat
              have hgo2 : Hid (g.matchGo index fixed 0 l = g.matchGo index fixed (k + 1) (l.drop (k + 1))) := by
                show _ = _
                rw [hgo.out, hdr.out]
                rw [LG.matchGo, if_pos (.inl hat)]
              go_wp2_with fail
              go_roundw
              case rel => exact ⟨k + 1, by omega, by go_num, HO2, hgo2, fun _ => by omega⟩
              case measure => simp [intOf]; omega
            · have d4 : decide (index + 1 + (k : Int) ≤ fixed) = false := by simpa using hat
              have hat1 : g.b.ix + 1 ≤ index + 1 + (k : Int) := by omega
              have hat2 : index + 1 + (k : Int) ≤ g.last + 1 := by
                rcases Nat.eq_zero_or_pos k with h | h
                · omega
                · have := hkl h; omega
              cases ok with
              | false =>
                have hne : t ≠ x.tm ∨ True := .inr trivial
                have hm : ∃ m : Nat, index + 1 + (k : Int) - g.b.ix - 1 = m ∧ m ≤ g.l.length := ⟨(index + 1 + (k : Int) - g.b.ix - 1).toNat, by omega, by have := hat2; unfold LG.last at this; omega⟩
                obtain ⟨m, hm, hml⟩ := hm
                have hML : Hid (g.matchGo index fixed 0 l = ((⟨g.b, g.l.take m⟩ : LG).addAll (l.drop k), index + 1 + (k : Int))) := by
                  show _ = _
                  rw [hgo.out, hdr.out]
                  unfold LG.matchGo
                  rw [if_neg (by rintro (h | ⟨h3, h4⟩); omega; first | (exact Bool.noConfusion (show false = true from hok.symm.trans h3)) | (exact hne (htt.symm.trans h4))), hm, Int.toNat_natCast]
                have CP := Lib.hid (fun w' (ho : Only [] w w') => log_place b vv (.slice A g.l.length c) g (index + 1 + (k : Int)) w' (H.out.only ho) (by omega) (by omega))
                rw [hm] at CP
                clear hgo hdr hok htt
                go_wp2_with fail
                have c4 : ∀ u : Since w2, u.w.cell? ⟨b, 4, none⟩ = some (.slice A g.l.length c) := fun u => u.cell ((H.out.only HO2.out).cells.cell (k := 4) rfl)
                have hmc : m ≤ c := by omega
                refine wp_region_pendN w2 (Only.refl _ _) [(82, OwW w2.heap.size 40 4 m (enL (g.l.take m)))] [] 12 (by intro p hp; simp at hp; subst hp; exact OwW.lasts _ _ _ _ _) (by kernel_rfl) (by kernel_rfl) (by decide) (fun val => ?_)
                simp only [List.take_succ_cons, List.take_zero, List.drop_succ_cons, List.drop_zero]
                refine fit_segN 7 (by kernel_rfl) ?_
                simp only [List.take_succ_cons, List.take_zero, List.drop_succ_cons, List.drop_zero]
                repeat (go_big_quiet_step (fail))
                refine wpQuiet_nil ?_
                refine fit_call (.int .i64 m) 59 #[.pointer (some ⟨b, 0, none⟩), .int .i64 (index + 1 + (k : Int))] rfl (by simp) (fun w5 => by go_simp) rfl (by kernel_rfl) (fun w5 hw5 => (CP.out w5 (HO2.out.tr hw5.1)).mono fun e w' ⟨h1, h2⟩ => ⟨h1, h2 ▸ Only.refl _ _⟩) ?_
                simp only [Act.put, List.setIfInBounds_toArray, List.set_cons_zero, List.set_cons_succ]
                refine fit_segN 1 (by kernel_rfl) ?_
                simp only [List.take_succ_cons, List.take_zero, List.drop_succ_cons, List.drop_zero]
                repeat (go_big_quiet_step (fail))
                refine wpQuiet_nil ?_
                refine fit_callW (82, OwW w2.heap.size 40 4 m (enL (g.l.take m))) rfl rfl (by simp) (by simp) 60 #[.slice A m c] (fun w5 => by go_simp) rfl (by kernel_rfl) (fun w5 hw5 => ?_) ?_
                · have ho5 : Only [] w2 w5 := hw5.1
                  have hq := own_upto (H.out.only (HO2.out.tr ho5)).ents hml
                  rw [enL_take] at hq
                  have htl : (g.l.take m).length = m := by rw [List.length_take]; omega
                  refine (clone_ent _ (g.l.take m) w5.heap.size w5 (Nat.le_refl _) (by rw [htl]; omega) (by rw [htl]; exact hq)).mono ?_
                  rintro e w6 ⟨u, rfl, hu, ho6⟩
                  rw [htl] at hu
                  exact ⟨u, rfl, ho6, own_low hu ho5.size, fun y hy => (hu.lt y hy).1⟩
                simp only [Act.put, List.setIfInBounds_toArray, List.set_cons_zero, List.set_cons_succ]
                refine fit_segN 2 (by kernel_rfl) ?_
                simp only [List.take_succ_cons, List.take_zero, List.drop_succ_cons, List.drop_zero]
                repeat (go_big_quiet_step (fail))
                refine wpQuiet_nil ?_
                intro w5 ho5 hV5
                have hown5 : w5.ownsRow w2.heap.size 40 4 (val 82) m (enL (g.l.take m)) := hV5 (by decide) (82, OwW w2.heap.size 40 4 m (enL (g.l.take m))) (by simp) (by simp)
                obtain ⟨u, hu⟩ : ∃ u, val 82 = u := ⟨_, rfl⟩
                rw [hu] at hown5 ⊢
                have hN5 := H.out.only (HO2.out.tr ho5)
                have e4 := hN5.cells.cell (k := 4) rfl
                have k4 := hN5.cells.frozen 4
                have l4 := hN5.cells.lt
                have htl : (g.l.take m).length = m := by rw [List.length_take]; omega
                have hS := hN5.swap (l' := g.l.take m) (Only.refl [] _) (by simp) (by rw [htl]; exact own_low hown5 (Nat.zero_le _)) (by rw [htl]; have := H.out.hi; omega)
                have hD6 : Does w (w5.setCell ⟨b, 4, none⟩ u) K b ⟨g.b, g.l.take m⟩ := Does.ofV HKK.out hS.1 (((HO2.out.tr ho5).of0).tr hS.2) (fun q hq => .inr (Nat.le_trans HO2.out.size (hown5.lt q hq).1)) (NewOf.refl _ _)
                obtain ⟨A5, c5, rfl⟩ := (SlAt.of_own hown5).shape
                obtain ⟨K6, hK6, hG6⟩ := hD6
                have HK6 := Lib.hid hK6
                have HG6 := Lib.hid hG6
                clear hS hN5 hown5 hV5 c4 hu CP ho5 hK6 hG6
                obtain ⟨N, hN⟩ : ∃ N, l.length - k = N := ⟨_, rfl⟩
                have hNl : k + N = l.length := by omega
                have hkc : (k : Int) ≤ l.length := by omega
                go_wp2_with fail
                obtain ⟨w6, hw6⟩ : ∃ w6, w5.setCell ⟨b, 4, none⟩ (.slice A5 m c5) = w6 := ⟨_, rfl⟩
                rw [hw6] at HK6 HG6 ⊢
                try rw [hN]
                clear e4 k4 l4 hw6
                go_loopw [89] (fun i wr => ∃ j : Nat, j ≤ N ∧ i = .int .i64 j ∧ ∃ K' g', Hid (LogK wr K' b g') ∧ Hid (Grew w wr K K') ∧ Hid ((⟨g.b, g.l.take m⟩ : LG).addAll (l.drop k) = g'.addAll (l.drop (k + j))) ∧ Hid (g'.last ≤ g.last + j)) (fun i _ => N - (intOf i).toNat)
                case atStart => exact ⟨0, by omega, rfl, K6, _, HK6, HG6, Lib.hid rfl, Lib.hid (by unfold LG.last; simp only [htl]; omega)⟩
                case round =>
                  obtain ⟨j, hj, rfl, K', g', hK, hG, hT, hla⟩ := hrel
                  by_cases hlt : j < N
                  · have hlt' : (j : Int) < (N : Int) := by omega
                    obtain ⟨y, hy⟩ : ∃ y, l[k + j]? = some y := ⟨_, List.getElem?_eq_getElem (by omega)⟩
                    have hT2 : Hid ((⟨g.b, g.l.take m⟩ : LG).addAll (l.drop k) = (⟨g'.b, g'.l ++ [g'.new y.tm y.kd y.d]⟩ : LG).addAll (l.drop (k + (j + 1)))) := by
                      show _ = _
                      rw [hT.out, List.drop_eq_getElem_cons (show k + j < l.length by omega)]
                      rw [List.getElem?_eq_getElem (show k + j < l.length by omega)] at hy
                      injection hy with hy
                      rw [hy]; rfl
                    have hE := HL.out.grew hG.out
                    obtain ⟨q', c', hv, hq, e0, e1, e2, e3⟩ := hE.ent hy
                    injection hv with i1 i2 i3
                    injection i1 with i1
                    injection i1 with i1
                    subst i1; subst i3
                    have hr' : g'.last < 1000000 := by have := hla.out; omega
                    have hX := Cells.new wr 40 [.int .i64 y.ix, .int .i64 y.tm, .int .i64 y.kd, .string y.d]
                    have hoX : Only [] wr (wr.alloc (.cells #[.int .i64 y.ix, .int .i64 y.tm, .int .i64 y.kd, .string y.d] 40)) := (Only.refl _ _).alloc _
                    have CA := Lib.hid (log_add b K' g' y.tm y.kd y.d _ (hK.out.only hoX) hr')
                    have HGX := Lib.hid (hG.out.tr0 hoX)
                    have hkj : (k + j) * 4 = k * 4 + j * 4 := by omega
                    rw [hkj] at e0 e1 e2 e3
                    have z0 := hX.cell (k := 0) rfl
                    have z1 := hX.cell (k := 1) rfl
                    have z2 := hX.cell (k := 2) rfl
                    have z3 := hX.cell (k := 3) rfl
                    have e1 : wr.cell? ⟨q, k * 4 + j * 4 + 1, none⟩ = some (.int .i64 y.tm) := e1
                    clear hE hy hT hX hoX hkj hK hG i2
                    go_wp2_with fail
                    refine CA.out.mono ?_
                    rintro e w7 ⟨rfl, K7, hK7, hG7⟩
                    have HK7 := Lib.hid hK7
                    have HG7 := Lib.hid (HGX.out.trans hG7)
                    clear hK7 hG7 CA
                    go_wp2_with fail
                    go_roundw
                    case rel => exact ⟨j + 1, by omega, by go_num, K7, _, HK7, HG7, hT2, Lib.hid (by have := hla.out; unfold LG.last at this ⊢; simp only [List.length_append, List.length_singleton] at this ⊢; omega)⟩
                    case measure => simp [intOf]; omega
                  · have hd : decide ((j : Int) < (N : Int)) = false := by simp; omega
                    have hT2 : Hid ((⟨g.b, g.l.take m⟩ : LG).addAll (l.drop k) = g') := by show _ = _; rw [hT.out, List.drop_eq_nil_of_le (by omega)]; rfl
                    go_wp2_with fail
                    go_ret3
                    rw [HR.out, hML.out]
                    exact ⟨rfl, K', by show LogK _ _ _ (LG.addAll _ _); rw [hT2.out]; exact hK.out, hG.out⟩
              | true =>
                by_cases hne : t = x.tm
                · have d5 : (t == x.tm) = true := by simpa using hne
                  have hgo2 : Hid (g.matchGo index fixed 0 l = g.matchGo index fixed (k + 1) (l.drop (k + 1))) := by
                    show _ = _
                    rw [hgo.out, hdr.out]
                    rw [LG.matchGo, if_pos (.inr ⟨hok, by rw [htt]; exact hne⟩)]
                  have hkl2 := (LG.term_ok hok).2
                  go_wp2_with fail
                  go_roundw
                  case rel => exact ⟨k + 1, by omega, by go_num, HO2, hgo2, fun _ => by omega⟩
                  case measure => simp [intOf]; omega
                · have d5 : (t == x.tm) = false := by simpa using hne
                  have hm : ∃ m : Nat, index + 1 + (k : Int) - g.b.ix - 1 = m ∧ m ≤ g.l.length := ⟨(index + 1 + (k : Int) - g.b.ix - 1).toNat, by omega, by have := hat2; unfold LG.last at this; omega⟩
                  obtain ⟨m, hm, hml⟩ := hm
                  have hML : Hid (g.matchGo index fixed 0 l = ((⟨g.b, g.l.take m⟩ : LG).addAll (l.drop k), index + 1 + (k : Int))) := by
                    show _ = _
                    rw [hgo.out, hdr.out]
                    unfold LG.matchGo
                    rw [if_neg (by rintro (h | ⟨h3, h4⟩); omega; first | (exact Bool.noConfusion (show false = true from hok.symm.trans h3)) | (exact hne (htt.symm.trans h4))), hm, Int.toNat_natCast]
                  have CP := Lib.hid (fun w' (ho : Only [] w w') => log_place b vv (.slice A g.l.length c) g (index + 1 + (k : Int)) w' (H.out.only ho) (by omega) (by omega))
                  rw [hm] at CP
                  clear hgo hdr hok htt
                  go_wp2_with fail
                  have c4 : ∀ u : Since w2, u.w.cell? ⟨b, 4, none⟩ = some (.slice A g.l.length c) := fun u => u.cell ((H.out.only HO2.out).cells.cell (k := 4) rfl)
                  have hmc : m ≤ c := by omega
                  refine wp_region_pendN w2 (Only.refl _ _) [(82, OwW w2.heap.size 40 4 m (enL (g.l.take m)))] [] 12 (by intro p hp; simp at hp; subst hp; exact OwW.lasts _ _ _ _ _) (by kernel_rfl) (by kernel_rfl) (by decide) (fun val => ?_)
                  simp only [List.take_succ_cons, List.take_zero, List.drop_succ_cons, List.drop_zero]
                  refine fit_segN 7 (by kernel_rfl) ?_
                  simp only [List.take_succ_cons, List.take_zero, List.drop_succ_cons, List.drop_zero]
                  repeat (go_big_quiet_step (fail))
                  refine wpQuiet_nil ?_
                  refine fit_call (.int .i64 m) 59 #[.pointer (some ⟨b, 0, none⟩), .int .i64 (index + 1 + (k : Int))] rfl (by simp) (fun w5 => by go_simp) rfl (by kernel_rfl) (fun w5 hw5 => (CP.out w5 (HO2.out.tr hw5.1)).mono fun e w' ⟨h1, h2⟩ => ⟨h1, h2 ▸ Only.refl _ _⟩) ?_
                  simp only [Act.put, List.setIfInBounds_toArray, List.set_cons_zero, List.set_cons_succ]
                  refine fit_segN 1 (by kernel_rfl) ?_
                  simp only [List.take_succ_cons, List.take_zero, List.drop_succ_cons, List.drop_zero]
                  repeat (go_big_quiet_step (fail))
                  refine wpQuiet_nil ?_
                  refine fit_callW (82, OwW w2.heap.size 40 4 m (enL (g.l.take m))) rfl rfl (by simp) (by simp) 60 #[.slice A m c] (fun w5 => by go_simp) rfl (by kernel_rfl) (fun w5 hw5 => ?_) ?_
                  · have ho5 : Only [] w2 w5 := hw5.1
                    have hq := own_upto (H.out.only (HO2.out.tr ho5)).ents hml
                    rw [enL_take] at hq
                    have htl : (g.l.take m).length = m := by rw [List.length_take]; omega
                    refine (clone_ent _ (g.l.take m) w5.heap.size w5 (Nat.le_refl _) (by rw [htl]; omega) (by rw [htl]; exact hq)).mono ?_
                    rintro e w6 ⟨u, rfl, hu, ho6⟩
                    rw [htl] at hu
                    exact ⟨u, rfl, ho6, own_low hu ho5.size, fun y hy => (hu.lt y hy).1⟩
                  simp only [Act.put, List.setIfInBounds_toArray, List.set_cons_zero, List.set_cons_succ]
                  refine fit_segN 2 (by kernel_rfl) ?_
                  simp only [List.take_succ_cons, List.take_zero, List.drop_succ_cons, List.drop_zero]
                  repeat (go_big_quiet_step (fail))
                  refine wpQuiet_nil ?_
                  intro w5 ho5 hV5
                  have hown5 : w5.ownsRow w2.heap.size 40 4 (val 82) m (enL (g.l.take m)) := hV5 (by decide) (82, OwW w2.heap.size 40 4 m (enL (g.l.take m))) (by simp) (by simp)
                  obtain ⟨u, hu⟩ : ∃ u, val 82 = u := ⟨_, rfl⟩
                  rw [hu] at hown5 ⊢
                  have hN5 := H.out.only (HO2.out.tr ho5)
                  have e4 := hN5.cells.cell (k := 4) rfl
                  have k4 := hN5.cells.frozen 4
                  have l4 := hN5.cells.lt
                  have htl : (g.l.take m).length = m := by rw [List.length_take]; omega
                  have hS := hN5.swap (l' := g.l.take m) (Only.refl [] _) (by simp) (by rw [htl]; exact own_low hown5 (Nat.zero_le _)) (by rw [htl]; have := H.out.hi; omega)
                  have hD6 : Does w (w5.setCell ⟨b, 4, none⟩ u) K b ⟨g.b, g.l.take m⟩ := Does.ofV HKK.out hS.1 (((HO2.out.tr ho5).of0).tr hS.2) (fun q hq => .inr (Nat.le_trans HO2.out.size (hown5.lt q hq).1)) (NewOf.refl _ _)
                  obtain ⟨A5, c5, rfl⟩ := (SlAt.of_own hown5).shape
                  obtain ⟨K6, hK6, hG6⟩ := hD6
                  have HK6 := Lib.hid hK6
                  have HG6 := Lib.hid hG6
                  clear hS hN5 hown5 hV5 c4 hu CP ho5 hK6 hG6
                  obtain ⟨N, hN⟩ : ∃ N, l.length - k = N := ⟨_, rfl⟩
                  have hNl : k + N = l.length := by omega
                  have hkc : (k : Int) ≤ l.length := by omega
                  go_wp2_with fail
                  obtain ⟨w6, hw6⟩ : ∃ w6, w5.setCell ⟨b, 4, none⟩ (.slice A5 m c5) = w6 := ⟨_, rfl⟩
                  rw [hw6] at HK6 HG6 ⊢
                  try rw [hN]
                  clear e4 k4 l4 hw6
                  go_loopw [89] (fun i wr => ∃ j : Nat, j ≤ N ∧ i = .int .i64 j ∧ ∃ K' g', Hid (LogK wr K' b g') ∧ Hid (Grew w wr K K') ∧ Hid ((⟨g.b, g.l.take m⟩ : LG).addAll (l.drop k) = g'.addAll (l.drop (k + j))) ∧ Hid (g'.last ≤ g.last + j)) (fun i _ => N - (intOf i).toNat)
                  case atStart => exact ⟨0, by omega, rfl, K6, _, HK6, HG6, Lib.hid rfl, Lib.hid (by unfold LG.last; simp only [htl]; omega)⟩
                  case round =>
                    obtain ⟨j, hj, rfl, K', g', hK, hG, hT, hla⟩ := hrel
                    by_cases hlt : j < N
                    · have hlt' : (j : Int) < (N : Int) := by omega
                      obtain ⟨y, hy⟩ : ∃ y, l[k + j]? = some y := ⟨_, List.getElem?_eq_getElem (by omega)⟩
                      have hT2 : Hid ((⟨g.b, g.l.take m⟩ : LG).addAll (l.drop k) = (⟨g'.b, g'.l ++ [g'.new y.tm y.kd y.d]⟩ : LG).addAll (l.drop (k + (j + 1)))) := by
                        show _ = _
                        rw [hT.out, List.drop_eq_getElem_cons (show k + j < l.length by omega)]
                        rw [List.getElem?_eq_getElem (show k + j < l.length by omega)] at hy
                        injection hy with hy
                        rw [hy]; rfl
                      have hE := HL.out.grew hG.out
                      obtain ⟨q', c', hv, hq, e0, e1, e2, e3⟩ := hE.ent hy
                      injection hv with i1 i2 i3
                      injection i1 with i1
                      injection i1 with i1
                      subst i1; subst i3
                      have hr' : g'.last < 1000000 := by have := hla.out; omega
                      have hX := Cells.new wr 40 [.int .i64 y.ix, .int .i64 y.tm, .int .i64 y.kd, .string y.d]
                      have hoX : Only [] wr (wr.alloc (.cells #[.int .i64 y.ix, .int .i64 y.tm, .int .i64 y.kd, .string y.d] 40)) := (Only.refl _ _).alloc _
                      have CA := Lib.hid (log_add b K' g' y.tm y.kd y.d _ (hK.out.only hoX) hr')
                      have HGX := Lib.hid (hG.out.tr0 hoX)
                      have hkj : (k + j) * 4 = k * 4 + j * 4 := by omega
                      rw [hkj] at e0 e1 e2 e3
                      have z0 := hX.cell (k := 0) rfl
                      have z1 := hX.cell (k := 1) rfl
                      have z2 := hX.cell (k := 2) rfl
                      have z3 := hX.cell (k := 3) rfl
                      have e1 : wr.cell? ⟨q, k * 4 + j * 4 + 1, none⟩ = some (.int .i64 y.tm) := e1
                      clear hE hy hT hX hoX hkj hK hG i2
                      go_wp2_with fail
                      refine CA.out.mono ?_
                      rintro e w7 ⟨rfl, K7, hK7, hG7⟩
                      have HK7 := Lib.hid hK7
                      have HG7 := Lib.hid (HGX.out.trans hG7)
                      clear hK7 hG7 CA
                      go_wp2_with fail
                      go_roundw
                      case rel => exact ⟨j + 1, by omega, by go_num, K7, _, HK7, HG7, hT2, Lib.hid (by have := hla.out; unfold LG.last at this ⊢; simp only [List.length_append, List.length_singleton] at this ⊢; omega)⟩
                      case measure => simp [intOf]; omega
                    · have hd : decide ((j : Int) < (N : Int)) = false := by simp; omega
                      have hT2 : Hid ((⟨g.b, g.l.take m⟩ : LG).addAll (l.drop k) = g') := by show _ = _; rw [hT.out, List.drop_eq_nil_of_le (by omega)]; rfl
                      go_wp2_with fail
                      go_ret3
                      rw [HR.out, hML.out]
                      exact ⟨rfl, K', by show LogK _ _ _ (LG.addAll _ _); rw [hT2.out]; exact hK.out, hG.out⟩
          · have hd : decide ((k : Int) < (l.length : Int)) = false := by simp; omega
            have hML : Hid (g.matchGo index fixed 0 l = (g, 0)) := by show _ = _; rw [hgo.out, List.drop_eq_nil_of_le (by omega)]; rfl
            have hil : index + (l.length : Int) ≤ 10000000 := by omega
            go_wp2_with fail
            go_ret3
            rw [HR.out, hML.out]
            exact ⟨rfl, (Does.refl HKG.out).tr0 ho.out⟩
end Go.Proofs.Ytagklgodcbmcaaa
