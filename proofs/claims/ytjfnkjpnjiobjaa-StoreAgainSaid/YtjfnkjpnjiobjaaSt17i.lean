/-
  Chapter 17: List, and all of a feed's posts.
-/
import Derived.Test.YtjfnkjpnjiobjaaSt17h
namespace Go.Proofs.Ytjfnkjpnjiobjaa
open Go.RowKit
theorem nil_post0 (c : Nat) (w : World) : (binOp .eql 27 (.slice none 0 c) (.slice none 0 0)).run Try.prog w = .ok (.bool true) w := by kernel_rfl
theorem nil_post1 (A : Addr) (n c : Nat) (w : World) : (binOp .eql 27 (.slice (some A) n c) (.slice none 0 0)).run Try.prog w = .ok (.bool false) w := by kernel_rfl
attribute [local go_sem] nil_post0 nil_post1
theorem sl_nil {w : World} {B sz n c : Nat} {xs : List Value} (h : SlAt w B (.slice none n c) sz n xs) (hsz : 0 < sz) : n = 0 := by
  rcases Nat.eq_zero_or_pos n with h0 | h0
  · exact h0
  · obtain ⟨b, o, c', hv, _⟩ := h.at_ (Nat.mul_pos h0 hsz); injection hv with hv; cases hv
set_option maxRecDepth 100000 in
theorem clone_post (v : Value) (l : List Po) (B : Nat) (w : World) (hB : B ≤ w.heap.size) (hl : l.length ≤ 1000000000) (hs : SlAt w B v 5 l.length (poL l)) :
    Calls Try.prog 54 #[v] w fun e w' => ∃ v', e = .returned v' ∧ w'.ownsRow w.heap.size 38 5 v' l.length (poL l) ∧ Only [] w w' := by
  obtain ⟨i0, hi0, hz0, hz1, hz2⟩ := info_parts info_post
  obtain ⟨A, c, rfl⟩ := hs.shape
  cases A with
  | none =>
    have h0 : l = [] := List.eq_nil_of_length_eq_zero (sl_nil hs (by omega))
    subst h0
    clear hs
    go_enter Try.func54, Try.ntmps54
    go_wp2_with fail
    go_ret
    exact ⟨_, rfl, World.ownsRow_nil _ _ _ _, Only.refl _ _⟩
  | some A =>
    have HS := Lib.hid hs
    clear hs
    go_enter Try.func54, Try.ntmps54
    go_wp2_with (at_builtin
                 refine wpList_appX rfl _ _ 27 rfl w.heap.size 38 i0 _ 5 64 Try.underlying27 hi0 hz0 hz1 hz2 rfl (by decide) (w.alloc (.cells #[] 38)) (.slice (some ⟨w.heap.size, 0, none⟩) 0 0) 0 [] rfl (World.ownsRow_lit (base := w.heap.size) (e := 38) (size := 5) w #[] 0 (Nat.le_refl _) (by decide) rfl) B l.length (poL l) A c rfl (HS.out.only ((Only.refl [] w).alloc _) hB (by simp)) (poL_one l) (by simp only [maxLen]; omega) (by omega) (by simp) ?_
                 intro v' w' hown' hgrow)
    go_ret
    exact ⟨_, rfl, by simpa using hown', ((Only.refl [] w).alloc _).own (World.ownsRow_lit (base := w.heap.size) (e := 38) (size := 5) w #[] 0 (Nat.le_refl _) (by decide) rfl) hgrow (Nat.le_refl _)⟩
/-- A part of a row of posts. -/
theorem sub_post {w : World} {B0 g n cap fr m : Nat} {ps : List Po} (h : w.ownsRow B0 38 5 (.slice (some ⟨g, 0, none⟩) n cap) n (poL ps)) (hn : ps.length = n) (hm : fr + m ≤ n) (c : Nat) (hc : m ≤ c) (hcm : c ≤ maxLen) :
    SlAt w w.heap.size (.slice (some ⟨g, fr * 5, none⟩) m c) 5 m (poL ((ps.drop fr).take m)) := by
  have hl : ((ps.drop fr).take m).length = m := by rw [List.length_take, List.length_drop]; omega
  have hg := (h.lt g rfl).2
  refine ⟨by rw [poL_length, hl], _, _, rfl, hc, hcm, fun _ => ⟨g, fr * 5, rfl, hg, fun j u hu => ?_⟩⟩
  have hj : j < m * 5 := by
    have := (List.getElem?_eq_some_iff.1 hu).1
    rwa [poL_length, hl] at this
  have e : (poL ps)[fr * 5 + j]? = some u := by
    have hi : j / 5 < ((ps.drop fr).take m).length := by rw [hl]; omega
    have h1 := List.getElem?_eq_getElem hi
    have hj5 : j % 5 < 5 := Nat.mod_lt _ (by omega)
    have h2 := poL_get _ (j / 5) (j % 5) _ h1 hj5
    rw [show j / 5 * 5 + j % 5 = j from by omega, hu] at h2
    have h3 : ps[fr + j / 5]? = some ((ps.drop fr).take m)[j / 5] := by
      rw [List.getElem_take, List.getElem_drop, List.getElem?_eq_getElem (by rw [hl] at hi; omega)]
    have h4 := poL_get ps (fr + j / 5) (j % 5) _ h3 hj5
    rw [show (fr + j / 5) * 5 + j % 5 = fr * 5 + j from by omega, ← h2] at h4
    exact h4
  have := h.cells (g := g) rfl (fr * 5 + j) u e
  rw [Addr.add_lit, Nat.zero_add] at this
  exact this
/-- A page of posts behind a number. -/
def pgF (ps : List Po) (after : Int) : List Po := (ps.drop (min (max after 0).toNat ps.length)).take 50
def lsV (o : Option Pl) (after : Int) : List Po := o.elim [] (fun t => pgF t.fd.ps after)
set_option maxRecDepth 100000 in
set_option maxHeartbeats 1000000 in
theorem store_list (b mb : Nat) (T : List Pl) (k : List UInt8) (hk : k.length ≤ maxLen) (after : Int) (w : World) (h : StX w b mb T) :
    Calls Try.prog 24 #[.pointer (some ⟨b, 0, none⟩), .string ⟨k.toArray⟩, .int .i64 after] w fun e w' => ∃ v', e = .returned (.tuple #[v', .int .i64 (if (fT T k).isSome = true then 0 else 4)]) ∧ w'.ownsRow w.heap.size 38 5 v' (lsV (fT T k) after).length (poL (lsV (fT T k) after)) ∧ Only [] w w' := by
  have CF := Lib.hid (store_find b mb T k hk 0 w h)
  cases hf : fT T k with
  | none =>
    rw [fndV_none 0 hf] at CF
    go_enter Try.func24, Try.ntmps24
    go_wp2_with fail
    refine CF.out.mono ?_
    rintro e w1 ⟨rfl, rfl⟩
    go_wp2_with fail
    go_ret2
    exact ⟨_, rfl, World.ownsRow_nil _ _ _ _, Only.refl _ _⟩
  | some t =>
    rw [fndV_ok hf (by decide)] at CF
    have hfd := h.fds t (fT_mem hf).1
    have p2 := hfd.cells.cell (k := 2) rfl
    have hcap := hfd.cap
    obtain ⟨A, c, hv⟩ := (SlAt.of_own hfd.row).shape
    have hrow := hfd.row
    rw [hv] at p2 hrow
    obtain ⟨n, hn⟩ : ∃ n, t.fd.ps.length = n := ⟨_, rfl⟩
    rw [hn] at p2 hrow hcap
    obtain ⟨fr, hfr⟩ : ∃ fr : Nat, min (max after 0) (n : Int) = fr := ⟨(min (max after 0) (n : Int)).toNat, by omega⟩
    have hfrn : fr ≤ n := by omega
    obtain ⟨tt, hto⟩ : ∃ tt : Nat, min (n : Int) ((fr : Int) + 50) = tt := ⟨(min (n : Int) ((fr : Int) + 50)).toNat, by omega⟩
    have hft : fr ≤ tt := by omega
    have htn : tt ≤ n := by omega
    have hpg : lsV (some t) after = (t.fd.ps.drop fr).take (tt - fr) := by
      show (t.fd.ps.drop (min (max after 0).toNat t.fd.ps.length)).take 50 = _
      rw [hn, show min (max after 0).toNat n = fr from by omega]
      by_cases h50 : fr + 50 ≤ n
      · rw [show tt - fr = 50 from by omega]
      · rw [List.take_of_length_le (by rw [List.length_drop]; omega), List.take_of_length_le (by rw [List.length_drop]; omega)]
    rw [hpg]
    have hll : ((t.fd.ps.drop fr).take (tt - fr)).length = tt - fr := by rw [List.length_take, List.length_drop]; omega
    have hnc : n ≤ c ∧ c ≤ maxLen := by
      obtain ⟨_, A', c', e, h1, h2, _⟩ := SlAt.of_own hrow
      injection e with e1 e2 e3
      subst e3
      exact ⟨h1, h2⟩
    have hwr : IntKind.i64.wrap ((fr : Int) + 50) = (fr : Int) + 50 := by rw [IntKind.wrap_i64]; omega
    have i1 : (fr : Int) ≤ (tt : Int) := by omega
    have i2 : (tt : Int) ≤ (c : Int) := by omega
    have i3 : (0 : Int) ≤ (fr : Int) := by omega
    have hrow1 : w.drew.ownsRow 0 38 5 (.slice A n c) n (poL t.fd.ps) := hrow
    have HO1 : Hid (Only [] w w.drew) := Lib.hid (Only.refl _ _).drew
    cases A with
    | none =>
      have h0 : n = 0 := sl_nil (SlAt.of_own hrow) (by omega)
      subst h0
      obtain rfl : fr = 0 := by omega
      obtain rfl : tt = 0 := by omega
      have hm0 : min (max after 0) 0 = 0 := by omega
      have hps : t.fd.ps = [] := List.eq_nil_of_length_eq_zero hn
      have hc0 : c = 0 := by
        rcases hrow.2 with ⟨h1, _⟩ | ⟨g, cap, cur, h1, _⟩
        · injection h1
        · cases h1
      subst hc0
      have CC := Lib.hid (clone_post (.slice none 0 0) [] w.drew.heap.size w.drew (Nat.le_refl _) (by simp) (SlAt.of_own (World.ownsRow_nil w.drew 0 38 5)))
      have hw50 : IntKind.i64.wrap 50 = 50 := by decide
      have hm1 : min (0 : Int) 50 = 0 := by decide
      have HPS := Lib.hid hps
      clear h hfd hpg hrow hn hv hrow1 hps
      go_enter Try.func24, Try.ntmps24
      go_wp2_with fail
      refine CF.out.mono ?_
      rintro e w2 ⟨rfl, rfl⟩
      go_wp2_with fail
      go_still_tail 14, (by kernel_rfl)
      change wpList _ _ _ _ _ w.drew
      go_wp2_with fail
      refine CC.out.mono ?_
      rintro e w3 ⟨v', rfl, hown, ho3⟩
      have HOW := Lib.hid hown
      have HO3 := Lib.hid (HO1.out.tr ho3)
      clear hown ho3
      go_wp2_with fail
      go_ret2
      exact ⟨v', rfl, HOW.out, HO3.out⟩
    | some A =>
      obtain ⟨g, hg⟩ : ∃ g, A = ⟨g, 0, none⟩ := by
        rcases hrow.2 with ⟨h1, _⟩ | ⟨g, cap, cur, h1, _⟩
        · cases h1
        · injection h1 with h1; injection h1 with h1; exact ⟨g, h1⟩
      subst hg
      obtain ⟨Ao, hAo⟩ : ∃ Ao : Option Addr, (if c = fr then some ⟨g, 0, none⟩ else some ⟨g, fr * 5, none⟩) = Ao := ⟨_, rfl⟩
      have hsl : SlAt w.drew w.drew.heap.size (.slice Ao (tt - fr) (c - fr)) 5 (tt - fr) (poL ((t.fd.ps.drop fr).take (tt - fr))) := by
        by_cases hcf : c = fr
        · rw [if_pos hcf] at hAo
          subst hAo
          have h0 : tt - fr = 0 := by omega
          refine ⟨by rw [poL_length, hll], _, _, rfl, by omega, by omega, fun h => by omega⟩
        · rw [if_neg hcf] at hAo
          subst hAo
          exact sub_post hrow1 hn (by omega) (c - fr) (by omega) (by omega)
      have CC := Lib.hid (clone_post (.slice Ao (tt - fr) (c - fr)) ((t.fd.ps.drop fr).take (tt - fr)) w.drew.heap.size w.drew (Nat.le_refl _) (by omega) (by rw [hll]; exact hsl))
      clear h hfd hpg hrow hn hv hrow1 hsl
      go_enter Try.func24, Try.ntmps24
      go_wp2_with fail
      refine CF.out.mono ?_
      rintro e w2 ⟨rfl, rfl⟩
      go_wp2_with fail
      go_still_tail 14, (by kernel_rfl)
      change wpList _ _ _ _ _ w.drew
      go_wp2_with fail
      refine CC.out.mono ?_
      rintro e w3 ⟨v', rfl, hown, ho3⟩
      have HOW := Lib.hid hown
      have HO3 := Lib.hid (HO1.out.tr ho3)
      clear hown ho3 hAo
      go_wp2_with fail
      go_ret2
      exact ⟨v', rfl, by have := HOW.out; rw [hll] at this; exact this, HO3.out⟩
end Go.Proofs.Ytjfnkjpnjiobjaa
