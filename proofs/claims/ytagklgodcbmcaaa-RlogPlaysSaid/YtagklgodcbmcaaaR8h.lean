/-
  Chapter 8: sets, Voters.
-/
import Derived.Test.YtagklgodcbmcaaaR8c
import Derived.Test.YtagklgodcbmcaaaR8f
import Derived.Test.YtagklgodcbmcaaaR8g
import Derived.Test.YtagklgodcbmcaaaRef1i
namespace Go.Proofs.Ytagklgodcbmcaaa
open Go.RowKit
theorem rdIs_len : ∀ (n : Nat) (s : List UInt8) (l : List Int) (r : List UInt8), rdIs n s = some (l, r) → l.length = n
  | 0, s, l, r, h => by simp [rdIs] at h; simp [← h.1]
  | n + 1, s, l, r, h => by
    unfold rdIs at h
    cases h1 : rdI s with
    | none => rw [h1] at h; simp at h
    | some p =>
      rw [h1] at h
      obtain ⟨x, q⟩ := p
      dsimp only at h
      cases h2 : rdIs n q with
      | none => rw [h2] at h; simp at h
      | some p2 =>
        obtain ⟨l2, r2⟩ := p2
        rw [h2] at h
        simp only [Option.map_some, Option.some.injEq, Prod.mk.injEq] at h
        obtain ⟨rfl, rfl⟩ := h
        simp [rdIs_len n q l2 r2 h2]
theorem rdVs_len {s : List UInt8} {l : List Int} {r : List UInt8} (h : rdVs s = some (l, r)) : l.length ≤ 9 := by
  unfold rdVs at h
  cases h1 : rdI s with
  | none => rw [h1] at h; simp at h
  | some p =>
    rw [h1] at h
    obtain ⟨n, q⟩ := p
    dsimp only at h
    split at h
    · simp at h
    · have := rdIs_len _ _ _ _ h; omega
theorem vsL_len (s : List UInt8) : (vsL s).length ≤ 9 := by
  unfold vsL
  cases h : rdVs s with
  | none => simp
  | some p => exact rdVs_len (l := p.1) (r := p.2) h
def inV (l : List Int) : Bool := match l.head?, l.getLast? with
  | some x, some y => decide (1 ≤ x) && decide (y ≤ 9)
  | _, _ => true
def setV (x : En) : Option (List Int) :=
  if x.kd = 3 then match rdVs x.d.toList with
    | none => none
    | some (l, r) => if r = [] ∧ srtB l = true ∧ dupB l = false ∧ inV l = true then some l else none
  else none
set_option maxRecDepth 100000 in
set_option maxHeartbeats 4000000 in
theorem log_sets (x : En) (w : World) (hd : x.d.size ≤ 1000000000000) :
    Calls Try.prog 61 #[x.val] w fun e w' => ∃ v' ok l, e = .returned (.tuple #[v', .bool ok]) ∧ setV x = (if ok = true then some l else none) ∧ w'.ownsRow w.heap.size 3 1 v' l.length (gvs l) ∧ Only [] w w' := by
  obtain ⟨s, hs, hss⟩ := str_of x.d
  have hst : x.d.toList = s := by rw [hs, ba_toList]
  obtain ⟨ix, tm, kd, d⟩ := x
  simp only at hs hss hst hd
  subst hs
  unfold En.val
  simp only
  have hoA : Only [] w (w.alloc (.cells #[.int .i64 ix, .int .i64 tm, .int .i64 kd, .string ⟨s.toArray⟩] 40)) := (Only.refl _ _).alloc _
  have hX := Cells.new w 40 [.int .i64 ix, .int .i64 tm, .int .i64 kd, .string ⟨s.toArray⟩]
  have HX := Lib.hid hX
  have CV := Lib.hid (msg_toVoters s (w.alloc (.cells #[.int .i64 ix, .int .i64 tm, .int .i64 kd, .string ⟨s.toArray⟩] 40)) (by rw [← hss]; exact hd))
  have HS : Hid (setV ⟨ix, tm, kd, ⟨s.toArray⟩⟩ = if kd = 3 then match rdVs s with
    | none => none
    | some (l, r) => if r = [] ∧ srtB l = true ∧ dupB l = false ∧ inV l = true then some l else none
    else none) := by show _ = _; unfold setV; simp only; rw [hst]
  have hE : ∀ ok : Bool, (rdVs s).isSome = ok → (ok = true → rdVs s = some (vsL s, vsR s)) ∧ (ok = false → rdVs s = none) := by
    intro ok h
    unfold vsL vsR
    cases hr : rdVs s with
    | none => rw [hr] at h; subst h; simp
    | some p => rw [hr] at h; subst h; simp
  have HE := Lib.hid hE
  clear hX hst hE hd hss
  go_enter Try.func61, Try.ntmps61
  go_wp2_with fail
  refine CV.out.mono ?_
  rintro e w1 ⟨v', rfl, hown, ho1⟩
  obtain ⟨ok, hok⟩ : ∃ ok, (rdVs s).isSome = ok := ⟨_, rfl⟩
  obtain ⟨l, hl⟩ : ∃ l, vsL s = l := ⟨_, rfl⟩
  obtain ⟨r, hr⟩ : ∃ r, vsR s = r := ⟨_, rfl⟩
  obtain ⟨h1, h2⟩ := HE.out ok hok
  rw [hl] at hown
  rw [hl, hr] at h1
  rw [hok, hr]
  have hlen : l.length ≤ 9 := by rw [← hl]; exact vsL_len s
  have HO := Lib.hid (own_low hown (B' := w.heap.size) hoA.size)
  have hoB := Lib.hid (hoA.tr ho1)
  obtain ⟨A, c, rfl⟩ := (SlAt.of_own hown).shape
  have hX1 := HX.out.only ho1 (by simp)
  have x2 := hX1.cell (k := 2) rfl
  have H1 := Lib.hid h1
  have H2 := Lib.hid h2
  clear hok hl hr hown HX HE CV ho1 hX1 h1 h2 hoA
  have HN : ∀ w' : World, Only [] w w' → w'.ownsRow w.heap.size 3 1 (.slice none 0 0) ([] : List Int).length (gvs []) := fun w' _ => World.ownsRow_nil _ _ _ _
  have HN := Lib.hid HN
  by_cases hk : kd = 3
  case neg =>
    have d1 : (kd == 3) = false := by simpa using hk
    have hR : Hid (setV ⟨ix, tm, kd, ⟨s.toArray⟩⟩ = none) := by show _ = _; rw [HS.out, if_neg hk]
    go_wp2_with fail
    go_ret2
    exact ⟨_, false, [], rfl, by rw [hR.out]; rfl, HN.out _ hoB.out, hoB.out⟩
  case pos =>
    subst hk
    cases ok with
    | false =>
      have hR : Hid (setV ⟨ix, tm, 3, ⟨s.toArray⟩⟩ = none) := by show _ = _; rw [HS.out, if_pos rfl, H2.out rfl]
      go_wp2_with fail
      go_ret2
      exact ⟨_, false, [], rfl, by rw [hR.out]; rfl, HN.out _ hoB.out, hoB.out⟩
    | true =>
      have hR : Hid (setV ⟨ix, tm, 3, ⟨s.toArray⟩⟩ = if r = [] ∧ srtB l = true ∧ dupB l = false ∧ inV l = true then some l else none) := by show _ = _; rw [HS.out, if_pos rfl, H1.out rfl]
      by_cases hre : r = []
      case neg =>
        have d1 : r.isEmpty = false := by cases r with
          | nil => exact absurd rfl hre
          | cons x y => rfl
        have hR2 : Hid (setV ⟨ix, tm, 3, ⟨s.toArray⟩⟩ = none) := by show _ = _; rw [hR.out, if_neg (fun h => hre h.1)]
        go_wp2_with fail
        go_ret2
        exact ⟨_, false, [], rfl, by rw [hR2.out]; rfl, HN.out _ hoB.out, hoB.out⟩
      case pos =>
        subst hre
        have CS := Lib.hid (sorted_int (.slice A l.length c) l w1 (by omega) (SlAt.of_own HO.out))
        go_wp2_with fail
        refine CS.out.mono ?_
        rintro e w2 ⟨rfl, ho2⟩
        cases hsr : srtB l with
        | false =>
          have hR2 : Hid (setV ⟨ix, tm, 3, ⟨s.toArray⟩⟩ = none) := by show _ = _; rw [hR.out, if_neg (fun h => by rw [hsr] at h; exact absurd h.2.1 (by simp))]
          go_wp2_with fail
          go_ret2
          exact ⟨_, false, [], rfl, by rw [hR2.out]; rfl, HN.out _ (hoB.out.tr ho2), hoB.out.tr ho2⟩
        | true =>
          have HSR := Lib.hid hsr
          have hO2 := own_only HO.out ho2 (by simp)
          have CC := Lib.hid (clone_int (.slice A l.length c) l w2.heap.size w2 (Nat.le_refl _) (by omega) (SlAt.of_own hO2))
          have HO2 := Lib.hid hO2
          have hAl := Lib.hid (fun q hq => (hO2.lt q hq).2)
          have hoC := Lib.hid (hoB.out.tr ho2)
          clear hO2 hsr ho2 CS HO hoB
          go_wp2_with fail
          refine CC.out.mono ?_
          rintro e w3 ⟨v3, rfl, hown3, ho3⟩
          have CK := Lib.hid (compact_int w2.heap.size v3 l w3 (by omega) hown3)
          have HO3 := Lib.hid hown3
          have hlt3 := Lib.hid (fun q hq => (hown3.lt q hq).1)
          have hO33 := Lib.hid (own_only HO2.out ho3 (by simp))
          have hoD := Lib.hid (hoC.out.tr ho3)
          obtain ⟨A3, c3, rfl⟩ := (SlAt.of_own hown3).shape
          have hsz := hoC.out.size
          clear hown3 ho3 CC HO2 hoC
          go_wp2_with fail
          refine CK.out.mono ?_
          rintro e w4 ⟨A4, n4, c4, rfl, hn4, hn5, ho4⟩
          have hoE := Lib.hid (hoD.out.trans ho4 (fun q hq => .inr (by have := hlt3.out q (mem_rb.1 hq); omega)))
          cases hdp : dupB l with
          | true =>
            have hR2 : Hid (setV ⟨ix, tm, 3, ⟨s.toArray⟩⟩ = none) := by show _ = _; rw [hR.out, if_neg (fun h => by rw [hdp] at h; exact absurd h.2.2.1 (by simp))]
            have hn6 : n4 < l.length := by rw [hdp] at hn4; simpa using hn4
            have hn7 : (n4 : Int) < (l.length : Int) := by omega
            clear hn4
            go_wp2_with fail
            go_ret2
            exact ⟨_, false, [], rfl, by rw [hR2.out]; rfl, HN.out _ hoE.out, hoE.out⟩
          | false =>
            have hn6 : n4 = l.length := by rw [hdp] at hn4; have : ¬ n4 < l.length := by simpa using hn4
                                           omega
            have hO5 := own_keep hO33.out ho4 (fun q hq he => by have h1 := hAl.out q he; have h2 := hlt3.out q (mem_rb.1 hq); omega)
            have hR2 : Hid (setV ⟨ix, tm, 3, ⟨s.toArray⟩⟩ = if inV l = true then some l else none) := by show _ = _; rw [hR.out]; simp [HSR.out, hdp]
            subst hn6
            have HO5 := Lib.hid hO5
            clear hn4 hn5 hO33 hR HSR HS H1 H2 CK HO3 hlt3 hdp ho4 hAl hO5
            rcases Nat.eq_zero_or_pos l.length with h0 | h0
            · have hl0 : l = [] := List.eq_nil_of_length_eq_zero h0
              subst hl0
              go_wp2_with fail
              refine wp_region_only w4 (Only.refl _ _) (by kernel_rfl) (by kernel_rfl) ?_
              repeat (go_big_quiet_step (fail))
              refine wpQuiet_nil ?_
              rintro ⟨w5, ho5⟩
              dsimp only
              go_wp2_with fail
              go_ret2
              exact ⟨_, true, [], rfl, by rw [hR2.out]; rfl, own_only HO5.out ho5 (by simp), hoE.out.tr ho5⟩
            · obtain ⟨n, hn⟩ : ∃ n, l.length = n + 1 := ⟨l.length - 1, by omega⟩
              obtain ⟨x, hx⟩ : ∃ x, l[0]? = some x := ⟨_, List.getElem?_eq_getElem (by omega)⟩
              obtain ⟨y, hy⟩ : ∃ y, l[n]? = some y := ⟨_, List.getElem?_eq_getElem (by omega)⟩
              have hIV : inV l = (decide (1 ≤ x) && decide (y ≤ 9)) := by
                unfold inV
                rw [List.head?_eq_getElem?, List.getLast?_eq_getElem?, hx, hn, Nat.add_sub_cancel, hy]
              obtain ⟨q, cq, hq, _, hq5, hc0⟩ := own_cell (k := 0) (u := .int .i64 x) HO5.out (by simp [gvs, hx])
              obtain ⟨q', cq', hq', _, _, hcn⟩ := own_cell (k := n) (u := .int .i64 y) HO5.out (by simp [gvs, hy])
              injection hq with e1 e2 e3
              subst e1; subst e3
              injection hq' with e1 e2 e3
              injection e1 with e1
              injection e1 with e1
              subst e1; subst e3
              have c0 := fun u : Since w4 => u.cell hc0
              have cn := fun u : Since w4 => u.cell hcn
              rw [hIV] at hR2
              have HO6 : Hid (w4.ownsRow w.heap.size 3 1 (.slice (some ⟨q, 0, none⟩) (n + 1) c) l.length (gvs l)) := by rw [← hn]; exact HO5
              have hd0 : ((n : Int) + 1 == 0) = false := by rw [beq_eq_false_iff_ne]; omega
              have hn1 : (n : Int) + 1 - 1 = n := by omega
              have hn2 : (n : Int) < (n : Int) + 1 := by omega
              have h00 : (0 : Int) < (n : Int) + 1 := by omega
              clear hx hy hIV hc0 hcn e2
              by_cases hx1 : 1 ≤ x
              · have d1 : decide (1 ≤ x) = true := by simpa using hx1
                go_wp2_with fail
                refine wp_region_only w4 (Only.refl _ _) (by kernel_rfl) (by kernel_rfl) ?_
                repeat (go_big_quiet_step (fail))
                refine wpQuiet_nil ?_
                rintro ⟨w5, ho5⟩
                dsimp only
                go_wp2_with fail
                go_ret2
                exact ⟨_, decide (y ≤ 9), l, rfl, by rw [hR2.out, show decide (1 ≤ x) = true from by simp; omega, Bool.true_and], own_only HO6.out ho5 (by simp), hoE.out.tr ho5⟩
              · have d1 : decide (1 ≤ x) = false := by simpa using hx1
                go_wp2_with fail
                refine wp_region_only w4 (Only.refl _ _) (by kernel_rfl) (by kernel_rfl) ?_
                repeat (go_big_quiet_step (fail))
                refine wpQuiet_nil ?_
                rintro ⟨w5, ho5⟩
                dsimp only
                go_wp2_with fail
                go_ret2
                exact ⟨_, false, l, rfl, by rw [hR2.out, show decide (1 ≤ x) = false from by simp; omega, Bool.false_and], own_only HO6.out ho5 (by simp), hoE.out.tr ho5⟩
end Go.Proofs.Ytagklgodcbmcaaa
