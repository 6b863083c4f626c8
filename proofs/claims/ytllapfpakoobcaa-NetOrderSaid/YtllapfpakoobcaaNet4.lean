/-
  Chapter 6: package net: Lose, Send, Twice.
-/
import Derived.Test.YtllapfpakoobcaaNet3
import Derived.Maps.AppendAt
namespace Go.Proofs.Ytllapfpakoobcaa
open Go.RowKit
/-- The new row is the old one, or one that was made since. -/
def NewOf (w : World) (v v' : Value) : Prop := ∀ g, v'.ownBlock = some g → v.ownBlock = some g ∨ w.heap.size ≤ g
theorem NewOf.refl (w : World) (v : Value) : NewOf w v v := fun _ h => .inl h
theorem NewOf.of_rb {w : World} {v v' : Value} (h : rb v' = rb v) : NewOf w v v' := fun g hg => .inl (by
  have : g ∈ rb v' := by simp [rb, hg]
  rw [h] at this
  simpa [rb] using this)
theorem wpList_appA {P : Program} {ops : Array Oper} {rest : List Oper} {o : Oper} {a : Act} {Q : Exit → Act → World → Prop} (hgd : o.guard = none) (s x : Operand) (t : TypeId)
    (ho : o.op = .call { callee := .builtin .append, args := #[s, x], argTypes := #[t, t] })
    (base : Nat) (e : TypeId) (i : TypeInfo) (z : Value) (size bytes : Nat) (ht : P.underlying t = some (.slice e)) (hi : P.info? e = some i) (hz : i.zero = some z)
    (hsize : i.size = size) (hby : i.bytes = bytes) (hzs : z.cells.size = size) (hsz : 0 < size) (w : World)
    (v : Value) (n : Nat) (xs : List Value) (hs : a.eval s = v) (hown : w.ownsRow base e size v n xs)
    (m c : Nat) (cs : List Value) (hx : a.eval x = .slice (some ⟨w.heap.size, 0, none⟩) m c) (hl : cs.length = m * size) (h1 : ∀ u ∈ cs, u.oneCell' = true)
    (h63 : n + m ≤ maxLen) (hbytes : (n + m) * bytes ≤ 140737488355328) (hbase : base ≤ w.heap.size)
    (h : ∀ v' w', w'.ownsRow base e size v' (n + m) (xs ++ cs) → w.grownBy w' v.ownBlock → NewOf w v v' → wpList P ops Q rest (a.put o.dst v') w') :
    wpList P ops Q (o :: rest) a (w.alloc (.cells cs.toArray e)) := by
  refine wpList_append_own_at (w := w.alloc (.cells cs.toArray e)) hgd s x t ho base e i z size bytes ht hi hz hsize hby hzs hsz v n xs hs (hown.alloc _) ⟨w.heap.size, 0, none⟩ m c cs hx hl (fun j u hu => ?_) h1 h63 hbytes (by simp; omega) fun v' w' h2 h3 _ h5 => h v' w' h2 ?_ ?_
  · have := (Cells.new w e cs).cell hu
    unfold Addr.add
    by_cases hj : j = 0
    · subst hj; simpa using this
    · simp only [hj, if_false, Nat.zero_add]; exact this
  · exact ⟨h3.os, h3.tape, h3.output, Nat.le_trans (by simp) h3.size, fun k hk hne => (h3.block k (by simp; omega) hne).trans (Below.heap_alloc w _ k hk)⟩
  · intro g hg
    rcases h5 with h5 | h5
    · exact .inl (by rw [← h5]; exact hg)
    · rw [h5] at hg
      injection hg with hg
      simp at hg
      exact .inr (by omega)
theorem net_is_in (B b k : Nat) (v f : Value) (s : NS) (w : World) (h : NetV w B b v f s) (hk : k < s.l.length) :
    Calls Try.prog 37 #[.pointer (some ⟨b, 0, none⟩), .int .i64 k] w fun e w' => e = .returned (.bool true) ∧ w = w' :=
  (net_is B b v f s k w h).mono fun _ _ ⟨h1, h2⟩ => ⟨by rw [h1]; simp [hk], h2⟩
theorem net_is_out (B b : Nat) (k : Int) (v f : Value) (s : NS) (w : World) (h : NetV w B b v f s) (hk : k < 0 ∨ (s.l.length : Int) ≤ k) :
    Calls Try.prog 37 #[.pointer (some ⟨b, 0, none⟩), .int .i64 k] w fun e w' => e = .returned (.bool false) ∧ w = w' :=
  (net_is B b v f s k w h).mono fun _ _ ⟨h1, h2⟩ => ⟨by rw [h1]; simp; omega, h2⟩
set_option maxRecDepth 100000 in
theorem net_lose_out (B b : Nat) (k : Int) (v f : Value) (s : NS) (w : World) (h : NetV w B b v f s) (hk : k < 0 ∨ (s.l.length : Int) ≤ k) :
    Calls Try.prog 26 #[.pointer (some ⟨b, 0, none⟩), .int .i64 k] w fun e w' => e = .returned (.bool false) ∧ w = w' := by
  have CI := Lib.hid (net_is_out B b k v f s w h hk)
  clear h hk
  go_enter Try.func26, Try.ntmps26
  go_wp2_with fail
  refine CI.out.mono ?_
  rintro e w1 ⟨rfl, rfl⟩
  go_wp2_with fail
  go_ret
  exact ⟨rfl, rfl⟩
set_option maxRecDepth 100000 in
theorem net_lose_in (B b k : Nat) (v f : Value) (s : NS) (w : World) (h : NetV w B b v f s) (hk : k < s.l.length) (hlo : 0 ≤ s.lost ∧ s.lost ≤ 1000000000000) :
    Calls Try.prog 26 #[.pointer (some ⟨b, 0, none⟩), .int .i64 k] w fun e w' => e = .returned (.bool true) ∧ ∃ v', NetV w' B b v' f ⟨s.l.eraseIdx k, s.grp, s.lost + 1⟩ ∧ Only (b :: rb v) w w' ∧ rb v' = rb v := by
  have CI := Lib.hid (net_is_in B b k v f s w h hk)
  have CO := Lib.hid (net_out B b k v f s _ w h hk (List.getElem?_eq_getElem hk))
  have hk' : (k : Int) < s.l.length := by omega
  have HH := Lib.hid h
  clear h
  go_enter Try.func26, Try.ntmps26
  go_wp2_with fail
  refine CI.out.mono ?_
  rintro e w1 ⟨rfl, rfl⟩
  go_wp2_with fail
  refine CO.out.mono ?_
  rintro e w1 ⟨rfl, v', h', ho, hrb⟩
  have c2 : w1.cell? ⟨b, 2, none⟩ = some (.int .i64 s.lost) := h'.cells.cell (k := 2) rfl
  have f2 := h'.cells.frozen 2
  have H' := Lib.hid h'
  clear h'
  go_wp2_with fail
  go_ret
  have hoB : Only [b] w1 (w1.setCell ⟨b, 2, none⟩ (.int .i64 (s.lost + 1))) := (Only.refl _ _).setCell (.inl (by simp)) _
  have hoB2 : Only (b :: rb v') w1 (w1.setCell ⟨b, 2, none⟩ (.int .i64 (s.lost + 1))) := (Only.refl _ _).setCell (.inl (by simp)) _
  refine ⟨rfl, v', ⟨H'.out.ge, ?_, own_keep H'.out.own hoB (fun x hx => by simp at hx; subst hx; exact own_ne_block H'.out.own H'.out.cells (by decide)), H'.out.inf.past H'.out.cells H'.out.own hoB2, H'.out.len⟩, ho.setCell (.inl (by simp)) _, hrb⟩
  exact H'.out.cells.set 2 _
def NS.send (s : NS) (x : Lt) : NS := if s.l.length = 300 then ⟨s.l.eraseIdx 0 ++ [x], s.grp, s.lost + 1⟩ else ⟨s.l ++ [x], s.grp, s.lost⟩
/-- A net whose row is another one that an append has made. -/
theorem NetV.grown {w w' : World} {B b : Nat} {v f v' : Value} {s : NS} {l' : List Lt} (h : NetV w B b v f s) (hr : w'.ownsRow B 37 3 v' l'.length (ltL l')) (hg : w.grownBy w' v.ownBlock) (hl : l'.length ≤ 300) (hw : B ≤ w.heap.size) :
    NetV (w'.setCell ⟨b, 0, none⟩ v') B b v' f ⟨l', s.grp, s.lost⟩ ∧ Only (b :: rb v) w (w'.setCell ⟨b, 0, none⟩ v') := by
  have hvb : v.ownBlock ≠ some b := own_ne_block h.own h.cells (by decide)
  have hc' := h.cells.grown hg hvb
  have ho : Only (b :: rb v) w w' := (Only.refl _ w).grown hg (fun g hh => .inl (by simp [rb, hh]))
  have hoF := ho.setCell (p := ⟨b, 0, none⟩) (.inl (by simp)) v'
  exact ⟨⟨h.ge, hc'.set 0 _, own_keep (S := [b]) hr ((Only.refl _ _).setCell (.inl (by simp)) _) (fun x hx => by simp at hx; subst hx; exact own_ne_block hr hc' (by decide)), h.inf.past h.cells h.own hoF, hl⟩, hoF⟩
set_option maxRecDepth 100000 in
set_option maxHeartbeats 1000000 in
theorem net_send (B b : Nat) (v f : Value) (s : NS) (x : Lt) (w : World) (h : NetV w B b v f s) (hlo : 0 ≤ s.lost ∧ s.lost ≤ 1000000000000) :
    Calls Try.prog 12 #[.pointer (some ⟨b, 0, none⟩), .int .i64 x.fr, .int .i64 x.to, .string x.d] w fun e w' => e = .returned (.tuple #[]) ∧ ∃ v', NetV w' B b v' f (s.send x) ∧ Only (b :: rb v) w w' ∧ NewOf w v v' := by
  obtain ⟨i0, hi0, hz0, hz1, hz2⟩ := info_parts info_let
  obtain ⟨A, c, hv⟩ := h.shape
  have hl300 := h.len
  by_cases h3 : s.l.length = 300
  · have hd : ((s.l.length : Int) == 300) = true := by simp; omega
    have HS : Hid (s.send x = ⟨s.l.eraseIdx 0 ++ [x], s.grp, s.lost + 1⟩) := by show _ = _; unfold NS.send; rw [if_pos h3]
    rw [h3] at hv
    have c0 := h.cells.cell (k := 0) rfl
    rw [hv] at c0
    have CL := Lib.hid (net_lose_in B b 0 v f s w h (by omega) hlo)
    have hlen : (s.l.eraseIdx 0).length = 299 := by rw [List.length_eraseIdx, if_pos (by omega), h3]
    have hBw : B < w.heap.size := Nat.lt_of_le_of_lt h.ge h.cells.lt
    have HL := Lib.hid hlen
    clear h hlen
    go_enter Try.func12, Try.ntmps12
    go_wp2_with fail
    refine CL.out.mono ?_
    rintro e w1 ⟨rfl, v1, h1, ho1, hrb⟩
    have r0 := h1.cells.cell (k := 0) rfl
    have r0f := h1.cells.frozen 0
    have rl := h1.cells.lt
    have hw1 : B ≤ w1.heap.size := by have := ho1.size; omega
    have H1 := Lib.hid h1
    have hown1 := h1.own
    rw [show (NS.mk (s.l.eraseIdx 0) s.grp (s.lost + 1)).l = s.l.eraseIdx 0 from rfl, HL.out] at hown1
    clear h1
    go_wp2_with (at_builtin
                 refine wpList_appA rfl _ _ 46 rfl B 37 i0 _ 3 32 Try.underlying46 hi0 hz0 hz1 hz2 rfl (by decide) w1 v1 299 _ rfl hown1 1 1 x.cells rfl rfl (by simp [Lt.cells, Value.oneCell']) (by simp only [maxLen]; omega) (by omega) hw1 ?_
                 intro v9 w9 hown9 hgrow hnew9
                 obtain ⟨A9, c9, rfl⟩ := (SlAt.of_own hown9).shape
                 have hf9 := H1.out.cells.grown hgrow (own_ne_block H1.out.own H1.out.cells (by decide))
                 have s0 := hf9.cell (k := 0) rfl
                 have s1 := hf9.frozen 0)
    have hr9 : w9.ownsRow B 37 3 (.slice A9 (299 + 1) c9) (s.l.eraseIdx 0 ++ [x]).length (ltL (s.l.eraseIdx 0 ++ [x])) := by
      rw [List.length_append, HL.out, ltL_append]; simpa [ltL] using hown9
    have hres := H1.out.grown hr9 hgrow (by rw [List.length_append, HL.out]; simp) hw1
    rw [hrb] at hres
    go_end0
    have hF := ho1.tr hres.2
    have hNF : NewOf w v (.slice A9 (299 + 1) c9) := fun g hg => by
      rcases hnew9 g hg with h | h
      · exact NewOf.of_rb hrb g h
      · exact .inr (Nat.le_trans ho1.size h)
    have HN1 := Lib.hid hres.1
    have HNF := Lib.hid hNF
    have HF := Lib.hid hF
    subst hv
    exact ⟨rfl, _, by rw [HS.out]; exact HN1.out, HF.out, HNF.out⟩
  · have hd : ((s.l.length : Int) == 300) = false := by simp; omega
    have HS : Hid (s.send x = ⟨s.l ++ [x], s.grp, s.lost⟩) := by show _ = _; unfold NS.send; rw [if_neg h3]
    subst hv
    have r0 := h.cells.cell (k := 0) rfl
    have r0f := h.cells.frozen 0
    have hBw : B ≤ w.heap.size := Nat.le_of_lt (Nat.lt_of_le_of_lt h.ge h.cells.lt)
    have H1 := Lib.hid h
    have hown1 := h.own
    clear h
    go_enter Try.func12, Try.ntmps12
    go_wp2_with (at_builtin
                 refine wpList_appA rfl _ _ 46 rfl B 37 i0 _ 3 32 Try.underlying46 hi0 hz0 hz1 hz2 rfl (by decide) w (.slice A s.l.length c) s.l.length _ rfl hown1 1 1 x.cells rfl rfl (by simp [Lt.cells, Value.oneCell']) (by simp only [maxLen]; omega) (by omega) hBw ?_
                 intro v9 w9 hown9 hgrow hnew9
                 obtain ⟨A9, c9, rfl⟩ := (SlAt.of_own hown9).shape
                 have hf9 := H1.out.cells.grown hgrow (own_ne_block H1.out.own H1.out.cells (by decide))
                 have s0 := hf9.cell (k := 0) rfl
                 have s1 := hf9.frozen 0)
    have hr9 : w9.ownsRow B 37 3 (.slice A9 (s.l.length + 1) c9) (s.l ++ [x]).length (ltL (s.l ++ [x])) := by
      rw [List.length_append, ltL_append]; simpa [ltL] using hown9
    have hres := H1.out.grown hr9 hgrow (by rw [List.length_append]; simp; omega) hBw
    go_end0
    exact ⟨rfl, _, by rw [HS.out]; exact hres.1, hres.2, hnew9⟩
theorem NetV.wide {w : World} {B b : Nat} {v f : Value} {s : NS} (h : NetV w B b v f s) : s.l.length ≤ 300 := h.len
theorem let_cells {w : World} {B b k : Nat} {v f : Value} {s : NS} {x : Lt} (h : NetV w B b v f s) (hx : s.l[k]? = some x) : ∃ g cap, v = .slice (some ⟨g, 0, none⟩) s.l.length cap ∧ w.cell? ⟨b, 0, none⟩ = some (.slice (some ⟨g, 0, none⟩) s.l.length cap) ∧ w.cell? ⟨g, k * 3, none⟩ = some (.int .i64 x.fr) ∧ w.cell? ⟨g, k * 3 + 1, none⟩ = some (.int .i64 x.to) ∧ w.cell? ⟨g, k * 3 + 2, none⟩ = some (.string x.d) ∧ g < w.heap.size := by
  have hk : k < s.l.length := (List.getElem?_eq_some_iff.1 hx).1
  obtain ⟨g, cap, cs, rfl, hg, hC, hn, hcm, hcl, htk⟩ := own_block h.own (by omega)
  have hxc : ∀ j u, j < 3 → x.cells[j]? = some u → w.cell? ⟨g, k * 3 + j, none⟩ = some u := fun j u hj hu => hC.cell (by
    have := ltL_get s.l k j x hx hj
    rw [← htk, List.getElem?_take_of_lt (by omega)] at this
    rw [this]; exact hu)
  exact ⟨g, cap, rfl, h.cells.cell (k := 0) rfl, hxc 0 _ (by omega) rfl, hxc 1 _ (by omega) rfl, hxc 2 _ (by omega) rfl, hC.lt⟩
set_option maxRecDepth 100000 in
theorem net_twice_out (B b : Nat) (k : Int) (v f : Value) (s : NS) (w : World) (h : NetV w B b v f s) (hk : k < 0 ∨ (s.l.length : Int) ≤ k) :
    Calls Try.prog 25 #[.pointer (some ⟨b, 0, none⟩), .int .i64 k] w fun e w' => e = .returned (.bool false) ∧ w = w' := by
  have CI := Lib.hid (net_is_out B b k v f s w h hk)
  clear h hk
  go_enter Try.func25, Try.ntmps25
  go_wp2_with fail
  refine CI.out.mono ?_
  rintro e w1 ⟨rfl, rfl⟩
  go_wp2_with fail
  go_ret
  exact ⟨rfl, rfl⟩
set_option maxRecDepth 100000 in
theorem net_twice_in (B b k : Nat) (v f : Value) (s : NS) (x : Lt) (w : World) (h : NetV w B b v f s) (hk : k < s.l.length) (hx : s.l[k]? = some x) (hlo : 0 ≤ s.lost ∧ s.lost ≤ 1000000000000) :
    Calls Try.prog 25 #[.pointer (some ⟨b, 0, none⟩), .int .i64 k] w fun e w' => e = .returned (.bool true) ∧ ∃ v', NetV w' B b v' f (s.send x) ∧ Only (b :: rb v) w w' ∧ NewOf w v v' := by
  have CI := Lib.hid (net_is_in B b k v f s w h hk)
  have CS := Lib.hid (fun w' (ho : Only [] w w') => net_send B b v f s x w' (h.only ho) hlo)
  have hk' : (k : Int) < s.l.length := by omega
  obtain ⟨g, cap, hv, c0, q0, q1, q2, hg⟩ := let_cells h hx
  have hl300 := h.len
  clear h
  go_enter Try.func25, Try.ntmps25
  go_wp2_with fail
  refine CI.out.mono ?_
  rintro e w1 ⟨rfl, rfl⟩
  go_wp2_with fail
  have hoA : Only [] w (w.alloc (.cells #[.int .i64 x.fr, .int .i64 x.to, .string x.d] 37)) := (Only.refl _ _).alloc _
  refine (CS.out _ hoA).mono ?_
  rintro e w2 ⟨rfl, v2, h2, ho2, hn2⟩
  go_wp2_with fail
  go_ret
  exact ⟨rfl, v2, h2, hoA.of0.tr ho2, fun g hg => (hn2 g hg).imp_right fun h => Nat.le_trans hoA.size h⟩
def NS.at (s : NS) (k : Int) : Option Lt := if 0 ≤ k then s.l[k.toNat]? else none
theorem NS.at_in {s : NS} {k : Int} {x : Lt} (h : s.at k = some x) : ∃ j : Nat, k = j ∧ j < s.l.length ∧ s.l[j]? = some x := by
  unfold NS.at at h
  split at h
  · exact ⟨k.toNat, by omega, (List.getElem?_eq_some_iff.1 h).1, h⟩
  · cases h
theorem NS.at_out {s : NS} {k : Int} (h : s.at k = none) : k < 0 ∨ (s.l.length : Int) ≤ k := by
  unfold NS.at at h
  split at h
  · rw [List.getElem?_eq_none_iff] at h; omega
  · omega
def NS.twice (s : NS) (k : Int) : NS × Bool := match s.at k with
  | some x => (s.send x, true)
  | none => (s, false)
def NS.lose (s : NS) (k : Int) : NS × Bool := match s.at k with
  | some _ => (⟨s.l.eraseIdx k.toNat, s.grp, s.lost + 1⟩, true)
  | none => (s, false)
theorem net_twice (B b : Nat) (k : Int) (v f : Value) (s : NS) (w : World) (h : NetV w B b v f s) (hlo : 0 ≤ s.lost ∧ s.lost ≤ 1000000000000) :
    Calls Try.prog 25 #[.pointer (some ⟨b, 0, none⟩), .int .i64 k] w fun e w' => e = .returned (.bool (s.twice k).2) ∧ ∃ v', NetV w' B b v' f (s.twice k).1 ∧ Only (b :: rb v) w w' ∧ NewOf w v v' := by
  cases hx : s.at k with
  | none =>
    rw [show s.twice k = (s, false) from by unfold NS.twice; rw [hx]]
    exact (net_twice_out B b k v f s w h (NS.at_out hx)).mono fun e w' ⟨h1, h2⟩ => by subst h2; exact ⟨h1, v, h, Only.refl _ _, NewOf.refl _ _⟩
  | some x =>
    obtain ⟨j, rfl, hj, hx'⟩ := NS.at_in hx
    rw [show s.twice j = (s.send x, true) from by unfold NS.twice; rw [hx]]
    exact net_twice_in B b j v f s x w h hj hx' hlo
theorem net_lose (B b : Nat) (k : Int) (v f : Value) (s : NS) (w : World) (h : NetV w B b v f s) (hlo : 0 ≤ s.lost ∧ s.lost ≤ 1000000000000) :
    Calls Try.prog 26 #[.pointer (some ⟨b, 0, none⟩), .int .i64 k] w fun e w' => e = .returned (.bool (s.lose k).2) ∧ ∃ v', NetV w' B b v' f (s.lose k).1 ∧ Only (b :: rb v) w w' ∧ NewOf w v v' := by
  cases hx : s.at k with
  | none =>
    rw [show s.lose k = (s, false) from by unfold NS.lose; rw [hx]]
    exact (net_lose_out B b k v f s w h (NS.at_out hx)).mono fun e w' ⟨h1, h2⟩ => by subst h2; exact ⟨h1, v, h, Only.refl _ _, NewOf.refl _ _⟩
  | some x =>
    obtain ⟨j, rfl, hj, hx'⟩ := NS.at_in hx
    rw [show s.lose j = (⟨s.l.eraseIdx j, s.grp, s.lost + 1⟩, true) from by unfold NS.lose; rw [hx]; rfl]
    exact (net_lose_in B b j v f s w h hj hlo).mono fun e w' ⟨h1, v', h2, h3, h4⟩ => ⟨h1, v', h2, h3, NewOf.of_rb h4⟩
end Go.Proofs.Ytllapfpakoobcaa
