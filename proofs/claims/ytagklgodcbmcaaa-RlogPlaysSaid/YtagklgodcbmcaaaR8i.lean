/-
  Chapter 8: Voters.
-/
import Derived.Test.YtagklgodcbmcaaaR8h
import Derived.Test.YtagklgodcbmcaaaR8d
namespace Go.Proofs.Ytagklgodcbmcaaa
open Go.RowKit
def lastV (vs : List Int) (l : List En) : List Int := l.foldl (fun acc x => match setV x with
  | some v => v
  | none => acc) vs
theorem lastV_snoc (vs : List Int) (l : List En) (x : En) : lastV vs (l ++ [x]) = match setV x with
  | some v => v
  | none => lastV vs l := by simp [lastV]
def LG.voters (g : LG) (i : Int) : List Int := lastV g.b.vs (g.l.take (max g.b.ix (min i g.last) - g.b.ix).toNat)
def DOk (l : List En) : Prop := ∀ x ∈ l, x.d.size ≤ 1000000000000
set_option maxRecDepth 100000 in
set_option maxHeartbeats 2000000 in
theorem log_voters (b : Nat) (vv ev : Value) (g : LG) (i : Int) (w : World) (h : LogV w b vv ev g) (hd : DOk g.l) :
    Calls Try.prog 29 #[.pointer (some ⟨b, 0, none⟩), .int .i64 i] w fun e w' => ∃ v', e = .returned v' ∧ w'.ownsRow w.heap.size 3 1 v' (g.voters i).length (gvs (g.voters i)) ∧ Only [] w w' := by
  have lo := h.lo
  have hi := h.hi
  have hvl := h.vlen
  have CL := Lib.hid (fun w' (ho : Only [] w w') => log_last b vv ev g w' (h.only ho))
  obtain ⟨m, hm⟩ : ∃ m : Nat, max g.b.ix (min i g.last) - g.b.ix = m := ⟨(max g.b.ix (min i g.last) - g.b.ix).toNat, by omega⟩
  have hml : m ≤ g.l.length := by unfold LG.last at hm; omega
  have CP := Lib.hid (fun w' (ho : Only [] w w') => log_place b vv ev g (max g.b.ix (min i g.last)) w' (h.only ho) (by omega) (by unfold LG.last at hm ⊢; omega))
  rw [hm] at CP
  have HV : Hid (g.voters i = lastV g.b.vs (g.l.take m)) := by show _ = _; unfold LG.voters; rw [hm, Int.toNat_natCast]
  have HD := Lib.hid hd
  have H := Lib.hid h
  have c0 := fun u : Since w => u.cell (h.cells.cell (k := 0) rfl)
  clear h hm hd
  go_enter Try.func29, Try.ntmps29
  go_wp2_with fail
  refine wp_region_only w (Only.refl _ _) (by kernel_rfl) (by kernel_rfl) ?_
  repeat (go_big_quiet_step (first
    | (go_at_call 21; refine Calls.only (CL.out _ (Since.h _)))
    | (go_at_call 59; refine Calls.only_same (CP.out _ (Since.h _)))))
  refine wpQuiet_nil ?_
  rintro ⟨w1, ho1⟩
  dsimp only
  go_wp2_with fail
  go_loopw [5] (fun n wr => ∃ k : Nat, k ≤ m ∧ n = .int .i64 ((k : Int) - 1) ∧ Hid (Only [] w wr) ∧ Hid (g.voters i = lastV g.b.vs (g.l.take k))) (fun n _ => (intOf n + 1).toNat)
  case atStart => exact ⟨m, by omega, rfl, Lib.hid ho1, HV⟩
  case round =>
    obtain ⟨k, hk, rfl, ho, hgo⟩ := hrel
    have hN := H.out.only ho.out
    by_cases hk0 : 0 < k
    · obtain ⟨j, rfl⟩ : ∃ j, k = j + 1 := ⟨k - 1, by omega⟩
      obtain ⟨x, hx⟩ : ∃ x, g.l[j]? = some x := ⟨_, List.getElem?_eq_getElem (by omega)⟩
      have hdx := HD.out x (List.mem_of_getElem? hx)
      have CS := Lib.hid (log_sets x wr hdx)
      unfold En.val at CS
      obtain ⟨q, c, hev, hq, e0, e1, e2, e3⟩ := hN.ent hx
      subst hev
      have c4 := hN.cells.cell (k := 4) rfl
      have hj1 : ((j + 1 : Nat) : Int) - 1 = j := by omega
      rw [hj1]
      have hjl : (j : Int) < (g.l.length : Int) := by omega
      have hg2 : Hid (g.voters i = match setV x with
        | some v => v
        | none => lastV g.b.vs (g.l.take j)) := by
        show _ = _
        rw [hgo.out, List.take_add_one, hx]
        exact lastV_snoc _ _ _
      clear hN hx hgo hdx hj1
      go_wp2_with fail
      refine CS.out.mono ?_
      rintro e w2 ⟨v', ok, l', rfl, hset, hown, ho2⟩
      have HO2 := Lib.hid (ho.out.tr ho2)
      have HOW := Lib.hid (own_low hown ho.out.size)
      have HSET := Lib.hid hset
      clear hset hown ho2 CS ho
      cases ok with
      | true =>
        have hr : Hid (g.voters i = l') := by show _ = _; rw [hg2.out, HSET.out]; rfl
        go_wp2_with fail
        go_ret
        rw [hr.out]
        exact ⟨_, rfl, HOW.out, HO2.out⟩
      | false =>
        have hr : Hid (g.voters i = lastV g.b.vs (g.l.take j)) := by show _ = _; rw [hg2.out, HSET.out]; rfl
        go_wp2_with fail
        go_roundw
        case rel => exact ⟨j, by omega, by go_num, HO2, hr⟩
        case measure => simp [intOf]
    · obtain rfl : k = 0 := by omega
      have hr : Hid (g.voters i = g.b.vs) := by show _ = _; rw [hgo.out, List.take_zero]; rfl
      have c2 := hN.cells.cell (k := 2) rfl
      have CC := Lib.hid (clone_int vv g.b.vs wr.heap.size wr (Nat.le_refl _) (by omega) (SlAt.of_own hN.vots))
      have hsz := ho.out.size
      clear hN hgo
      rw [show ((0 : Nat) : Int) - 1 = -1 from rfl]
      go_wp2_with fail
      refine CC.out.mono ?_
      rintro e w2 ⟨v', rfl, hown, ho2⟩
      have HO2 := Lib.hid (ho.out.tr ho2)
      have HOW := Lib.hid (own_low hown hsz)
      clear hown ho2 CC ho
      go_wp2_with fail
      go_ret
      rw [hr.out]
      exact ⟨_, rfl, HOW.out, HO2.out⟩
end Go.Proofs.Ytagklgodcbmcaaa
