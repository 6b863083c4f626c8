/-
  NetPlays: the walk.
-/
import Derived.Test.YtllapfpakoobcaaRn6c
namespace Go.Proofs.Ytllapfpakoobcaa
open Go.RowKit
/-- The net s and the document's net t, both made since W. -/
structure Two6 (W w : World) (b b2 : Nat) (s t : NS) : Prop where
  ge : W.heap.size ≤ b
  ge2 : W.heap.size ≤ b2
  net : ∃ v f, NetV w b b v f s
  rn : ∃ v gv, RnV w W.heap.size b2 b2 v gv t
  only : Only [] W w
theorem Two6.keep {W w w' : World} {b b2 : Nat} {s t : NS} (h : Two6 W w b b2 s t) (ho : Only [] w w') : Two6 W w' b b2 s t := by
  obtain ⟨v, f, hn⟩ := h.net
  obtain ⟨v2, g2, hr⟩ := h.rn
  exact ⟨h.ge, h.ge2, ⟨v, f, hn.only ho⟩, ⟨v2, g2, hr.only ho⟩, h.only.tr ho⟩
theorem Two6.first {W w w' : World} {b b2 : Nat} {s s' t : NS} {v f v' f' : Value} (h : Two6 W w b b2 s t) (hn : NetV w b b v f s) (h' : NetV w' b b v' f' s') (ho : Only (b :: rb v) w w') : Two6 W w' b b2 s' t := by
  obtain ⟨v2, g2, hr⟩ := h.rn
  exact ⟨h.ge, h.ge2, ⟨v', f', h'⟩, ⟨v2, g2, hr.past hn h.ge ho⟩, h.only.trans ho fun x hx => .inr (Nat.le_trans h.ge (hn.ges x hx))⟩
theorem Two6.second {W w w' : World} {b b2 : Nat} {s t t' : NS} {v gv v' gv' : Value} (h : Two6 W w b b2 s t) (hr : RnV w W.heap.size b2 b2 v gv t) (h' : RnV w' W.heap.size b2 b2 v' gv' t') (ho : Only [b2] w w') : Two6 W w' b b2 s t' := by
  obtain ⟨v1, f1, hn⟩ := h.net
  exact ⟨h.ge, h.ge2, ⟨v1, f1, hn.past hr.cells ho⟩, ⟨v', gv', h'⟩, h.only.trans ho fun x hx => by simp at hx; subst hx; exact .inr h.ge2⟩
theorem two_send {W w : World} {b b2 : Nat} {s t : NS} (h : Hid (Two6 W w b b2 s t)) (x : Lt) (hlo : s.lo) :
    Calls Try.prog 12 #[.pointer (some ⟨b, 0, none⟩), .int .i64 x.fr, .int .i64 x.to, .string x.d] w fun e w' => e = .returned (.tuple #[]) ∧ Hid (Two6 W w' b b2 (s.send x) t) := by
  obtain ⟨v, f, hn⟩ := h.out.net
  exact (net_send b b v f s x w hn hlo).mono fun e w' ⟨h1, v', h2, h3, _⟩ => ⟨h1, h.out.first hn h2 h3⟩
theorem two_rsend {W w : World} {b b2 : Nat} {s t : NS} (h : Hid (Two6 W w b b2 s t)) (x : Lt) (hlo : t.lo) :
    Calls Try.prog 13 #[.pointer (some ⟨b2, 0, none⟩), .agg #[.int .i64 x.fr, .int .i64 x.to, .string x.d]] w fun e w' => e = .returned (.tuple #[]) ∧ Hid (Two6 W w' b b2 s (t.send x)) := by
  obtain ⟨v, gv, hr⟩ := h.out.rn
  exact (rn_send W.heap.size b2 b2 v gv t x w hr hlo).mono fun e w' ⟨h1, v', h2, h3, _⟩ => ⟨h1, h.out.second hr h2 h3⟩
theorem two_does {W w : World} {b b2 : Nat} {s t : NS} (h : Hid (Two6 W w b b2 s t)) (a : Act) (ha : a.Ok W) (hs : a.grp.length ≤ 40) (hlo : s.lo) (r : NS × Lt × Bool) (hr : s.does a = r) (A : Option Addr) (cg : Nat) (hgv : a.gv = .slice A a.grp.length cg) :
    Calls Try.prog 14 #[.pointer (some ⟨b, 0, none⟩), .agg #[.int .i64 a.op, .int .i64 a.k, .int .i64 a.fr, .int .i64 a.to, .string a.d, .slice A a.grp.length cg]] w fun e w' =>
      e = .returned (.tuple #[.agg #[.int .i64 r.2.1.fr, .int .i64 r.2.1.to, .string r.2.1.d], .bool r.2.2]) ∧ Hid (Two6 W w' b b2 r.1 t) := by
  obtain ⟨v, f, hn⟩ := h.out.net
  rw [← hgv]
  exact (does6 b b W.heap.size v f s a _ r w hn hlo ha.op h.out.only.size (ha.sl.only h.out.only (Nat.le_refl _) (by simp)) (by omega) rfl hr).mono fun e w' ⟨h1, v', f', h2, h3, _⟩ => ⟨h1, h.out.first hn h2 h3⟩
theorem two_model {W w : World} {b b2 : Nat} {s t : NS} (h : Hid (Two6 W w b b2 s t)) (a : Act) (ha : a.Ok W) (hs : a.grp.length ≤ 40) (hlo : t.lo) (r : NS × Lt × Bool) (hr : t.does a = r) (A : Option Addr) (cg : Nat) (hgv : a.gv = .slice A a.grp.length cg) :
    Calls Try.prog 15 #[.pointer (some ⟨b2, 0, none⟩), .agg #[.int .i64 a.op, .int .i64 a.k, .int .i64 a.fr, .int .i64 a.to, .string a.d, .slice A a.grp.length cg]] w fun e w' =>
      e = .returned (.tuple #[.agg #[.int .i64 r.2.1.fr, .int .i64 r.2.1.to, .string r.2.1.d], .bool r.2.2]) ∧ Hid (Two6 W w' b b2 s r.1) ∧ Only [b2] w w' := by
  obtain ⟨v, gv, hn⟩ := h.out.rn
  rw [← hgv]
  exact (model6 W.heap.size b2 b2 v gv t a _ r w hn hlo ha.op (ha.sl.only h.out.only (Nat.le_refl _) (by simp)) (by omega) rfl hr).mono fun e w' ⟨h1, v', f', h2, h3⟩ => ⟨h1, h.out.second hn h2 h3, h3⟩
def aheadLt (i : Nat) : Lt := ⟨1, i, ⟨#[120]⟩⟩
def aheadS (k : Nat) : NS := (List.range k).foldl (fun s i => s.send (aheadLt i)) ⟨[], [], 0⟩
theorem aheadS_succ (k : Nat) : aheadS (k + 1) = (aheadS k).send (aheadLt k) := by
  unfold aheadS
  rw [List.range_succ, List.foldl_append]; rfl
theorem aheadS_lost (k : Nat) : 0 ≤ (aheadS k).lost ∧ (aheadS k).lost ≤ k := by
  induction k with
  | zero => exact ⟨by decide, by decide⟩
  | succ k ih =>
    rw [aheadS_succ]
    unfold NS.send
    split
    · exact ⟨by show 0 ≤ (aheadS k).lost + 1; omega, by show (aheadS k).lost + 1 ≤ _; omega⟩
    · exact ⟨by show 0 ≤ (aheadS k).lost; omega, by show (aheadS k).lost ≤ _; omega⟩
set_option maxRecDepth 100000 in
set_option maxHeartbeats 4000000 in
theorem netPlays_walk (W : World) (v : Value) (l : List Act) (hs : SlAt W W.heap.size v 6 l.length (l.flatMap Act.cells)) (hg : ∀ a ∈ l, a.Ok W) (p1 : Int) (h1 : (Lit.int .i64 p1).wf = true) (p2 : Int) (h2 : (Lit.int .i64 p2).wf = true) (ahead : Int) (h3 : (Lit.int .i64 ahead).wf = true) :
    Calls Try.prog 3 #[v, .int .i64 p1, .int .i64 p2, .int .i64 ahead] W fun e W' => e = .returned (.bool true) ∧ Only [] W W' := by
  have CS := Lib.hid (fun w (ho : Only [] W w) => small6 W v l hs hg w ho)
  obtain ⟨A, c, rfl⟩ := hs.shape
  have HS := Lib.hid hs
  have HG := Lib.hid hg
  have hwa := wide_of_wf h3
  have CP : Hid (∀ w, Calls Try.prog 11 #[.int .i64 ahead, .int .i64 310] w fun e w' => e = .returned (.int .i64 (pickI ahead 310)) ∧ w = w') := fun w => pick6 ahead 310 w hwa (by omega) (by omega)
  have hp := pickI_lt ahead 310 (by omega)
  obtain ⟨m, hm⟩ := Int.eq_ofNat_of_zero_le hp.1
  rw [hm] at CP
  have hm310 : m < 310 := by omega
  clear hs hg h1 h2 h3 hwa hp hm
  cases hsm : smallB l with
  | false =>
    rw [hsm] at CS
    go_enter Try.func3, Try.ntmps3
    go_wp2_with fail
    refine (shown6 W).mono ?_
    rintro e w1 ⟨rfl, ho⟩
    go_wp2_with fail
    refine (CS.out _ ho).mono ?_
    rintro e w2 ⟨rfl, rfl⟩
    go_wp2_with fail
    go_ret
    exact ⟨rfl, ho⟩
  | true =>
  rw [hsm] at CS
  obtain ⟨h500, hgr⟩ := smallB_spec hsm
  have HGR := Lib.hid hgr
  clear hsm hgr
  go_enter Try.func3, Try.ntmps3
  go_wp2_with fail
  refine (shown6 W).mono ?_
  rintro e w1 ⟨rfl, ho⟩
  go_wp2_with fail
  refine (CS.out _ ho).mono ?_
  rintro e w2 ⟨rfl, rfl⟩
  go_wp2_with fail
  refine (na_new W w1 ho).mono ?_
  rintro e w2 ⟨b, rfl, h2⟩
  have hT : Hid (Two6 W (w2.alloc (.cells #[.slice none 0 0, .slice none 0 0, .int .i64 0] 31)) b w2.heap.size (aheadS 0) (aheadS 0)) := by
    have h2' := h2.out.keep ((Only.refl [] w2).alloc (.cells #[.slice none 0 0, .slice none 0 0, .int .i64 0] 31))
    refine ⟨h2'.ge, h2.out.only.size, h2'.net, ⟨_, _, Nat.le_refl _, h2.out.only.size, Cells.new _ _ _, World.ownsRow_nil _ _ _ _, ⟨rfl, none, 0, rfl, by simp [aheadS], by simp [maxLen], fun h => by simp [aheadS] at h⟩, by simp [aheadS], by simp [aheadS]⟩, h2'.only⟩
  obtain ⟨b2, hb2⟩ : ∃ b2, w2.heap.size = b2 := ⟨_, rfl⟩
  rw [hb2] at hT
  go_wp2_with fail
  clear hb2 h2 CS
  go_loopw [13] (fun i wr => ∃ k : Nat, k ≤ m ∧ i = .int .i64 k ∧ Hid (Two6 W wr b b2 (aheadS k) (aheadS k))) (fun i _ => m - (intOf i).toNat)
  case atStart => exact ⟨0, by omega, rfl, hT⟩
  case round =>
    obtain ⟨k, hk, rfl, hN⟩ := hrel
    have hlost := aheadS_lost k
    by_cases hlt : k < m
    · have hlt' : (k : Int) < (m : Int) := by omega
      have C1 := Lib.hid (two_send hN (aheadLt k) ⟨hlost.1, by omega⟩)
      have C2 := Lib.hid (fun w' (h : Hid (Two6 W w' b b2 ((aheadS k).send (aheadLt k)) (aheadS k))) => two_rsend h (aheadLt k) ⟨hlost.1, by omega⟩)
      have HSU := Lib.hid (aheadS_succ k)
      clear hlost
      go_wp2_with (go_at_call 11; refine (CP.out _).mono ?_; rintro e w3 ⟨rfl, rfl⟩)
      refine C1.out.mono ?_
      rintro e w5 ⟨rfl, h5⟩
      go_wp2_with fail
      refine (C2.out _ h5).mono ?_
      rintro e w6 ⟨rfl, h6⟩
      go_wp2_with fail
      go_roundw
      case rel => exact ⟨k + 1, by omega, by go_num, by rw [HSU.out]; exact h6⟩
      case measure => simp [intOf]; omega
    · obtain rfl : k = m := by omega
      have hlt' : decide ((k : Int) < (k : Int)) = false := by simp
      obtain ⟨s0, hs0⟩ : ∃ s0, aheadS k = s0 := ⟨_, rfl⟩
      rw [hs0] at hN hlost
      clear hs0 hT
      go_wp2_with (go_at_call 11; refine (CP.out _).mono ?_; rintro e w3 ⟨rfl, rfl⟩)
      go_loopw [14] (fun i wr => ∃ j : Nat, j ≤ l.length ∧ i = .int .i64 j ∧ Hid (Two6 W wr b b2 (s0.run l j) (s0.run l j))) (fun i _ => l.length - (intOf i).toNat)
      case atStart => exact ⟨0, by omega, rfl, hN⟩
      case round =>
        obtain ⟨j, hj, rfl, hT⟩ := hrel
        have hlost2 := NS.run_lost (s := s0) l k hlost j hj
        by_cases hjl : j < l.length
        · have hjl' : (j : Int) < (l.length : Int) := by omega
          have hk1 := List.getElem?_eq_getElem hjl
          obtain ⟨x, hx⟩ : ∃ x, l[j] = x := ⟨_, rfl⟩
          rw [hx] at hk1
          have HSU := Lib.hid (NS.run_succ s0 l j x hk1)
          obtain ⟨s, hsn⟩ : ∃ s, s0.run l j = s := ⟨_, rfl⟩
          rw [hsn] at hlost2 hT HSU
          obtain ⟨ab, ao, ac, gA, gc, hv, hgv, q0, q1, q2, q3, q4, q5, hb⟩ := act_at HS.out HG.out hT.out.only hk1
          have hxm := List.mem_of_getElem? hk1
          obtain ⟨r, hr⟩ : ∃ r, s.does x = r := ⟨_, rfl⟩
          have C1 := Lib.hid (two_does hT x (HG.out x hxm) (HGR.out x hxm).2 ⟨hlost2.1, by omega⟩ r hr gA gc hgv)
          have C2 := Lib.hid (fun w' (h : Hid (Two6 W w' b b2 r.1 s)) => two_model h x (HG.out x hxm) (HGR.out x hxm).2 ⟨hlost2.1, by omega⟩ r hr gA gc hgv)
          have HR := Lib.hid hr
          have HK := Lib.hid hk1
          injection hv with e1 e2 e3
          subst e1; subst e3
          have HGV := Lib.hid hgv
          clear e2 hx hk1 hsn hxm hr hgv hlost2
          obtain ⟨r1, rl, rok⟩ := r
          go_wp2_with fail
          refine C1.out.mono ?_
          rintro e w5 ⟨rfl, h5⟩
          have hoX : Only [] w5 (w5.alloc (.cells #[.int .i64 rl.fr, .int .i64 rl.to, .string rl.d] 37)) := (Only.refl _ _).alloc _
          have h5' : Hid (Two6 W (w5.alloc (.cells #[.int .i64 rl.fr, .int .i64 rl.to, .string rl.d] 37)) b b2 r1 s) := h5.out.keep hoX
          have hX := Cells.new w5 37 [.int .i64 rl.fr, .int .i64 rl.to, .string rl.d]
          have hzb : w5.heap.size ≠ b2 := by
            obtain ⟨_, _, hr⟩ := h5.out.rn
            exact Ne.symm (Nat.ne_of_lt hr.cells.lt)
          obtain ⟨ab', ao', ac', gA', gc', hv, hgv2, p0, p1', p2', p3, p4, p5, hb5⟩ := act_at HS.out HG.out h5'.out.only HK.out
          injection hv with e1 e2 e3
          injection e1 with e1
          injection e1 with e4 e5
          subst e4; subst e5
          rw [HGV.out] at hgv2
          injection hgv2 with g1 g2 g3
          subst g1; subst g3
          clear e2 e3 g2 q0 q1 q2 q3 q4 q5 hT C1 h5
          go_wp2_with fail
          refine (C2.out _ h5').mono ?_
          rintro e w6 ⟨rfl, h6, ho6⟩
          have hX6 := hX.only ho6 (by simpa using hzb)
          have hoY : Only [] w6 (w6.alloc (.cells #[.int .i64 rl.fr, .int .i64 rl.to, .string rl.d] 36)) := (Only.refl _ _).alloc _
          have hX7 := hX6.only hoY (by simp)
          have hY7 := Cells.new w6 36 [.int .i64 rl.fr, .int .i64 rl.to, .string rl.d]
          have h7 : Hid (Two6 W (w6.alloc (.cells #[.int .i64 rl.fr, .int .i64 rl.to, .string rl.d] 36)) b b2 r1 r1) := h6.out.keep hoY
          have z0 := hX7.cell (k := 0) rfl
          have z1 := hX7.cell (k := 1) rfl
          have z2 := hX7.cell (k := 2) rfl
          have zl := hX6.lt
          have zne : w5.heap.size ≠ w6.heap.size := Nat.ne_of_lt zl
          clear hX6 hX7 hX p0 p1' p2' p3 p4 p5 C2 h6 ho6
          go_wp2_with fail
          clear z0 z1 z2 hY7
          refine (alike6 rl _).mono ?_
          rintro e w8 ⟨rfl, ho8⟩
          have h8 : Hid (Two6 W w8 b b2 r1 r1) := h7.out.keep ho8
          clear h7 ho8 hoY hoX h5'
          obtain ⟨nv, nf, hn8⟩ := h8.out.net
          obtain ⟨mv, mg, hm8⟩ := h8.out.rn
          have CL : Hid (∀ u : Since w8, Calls Try.prog 17 #[.pointer (some ⟨b, 0, none⟩)] u.w fun e w' => e = .returned (.int .i64 r1.lost) ∧ u.w = w') := fun u => net_lost b b nv nf r1 u.w (hn8.only u.h)
          have c2 : ∀ u : Since w8, u.w.cell? ⟨b2, 2, none⟩ = some (.int .i64 r1.lost) := fun u => u.cell (hm8.cells.cell (k := 2) rfl)
          clear hn8 hm8
          go_wp2_with fail
          refine wp_region_only w8 (Only.refl _ _) (by kernel_rfl) (by kernel_rfl) ?_
          repeat (go_big_quiet_step ((go_at_call 17; refine Calls.only_same (CL.out _))))
          refine wpQuiet_nil ?_
          rintro ⟨w9, ho9⟩
          dsimp only
          clear c2 CL
          go_wp2_with fail
          go_roundw
          case rel => exact ⟨j + 1, by omega, by go_num, by show Two6 _ _ _ _ _ _; rw [HSU.out, HR.out]; exact h8.out.keep ho9⟩
          case measure => simp [intOf]; omega
        · have hjl' : decide ((j : Int) < (l.length : Int)) = false := by simp; omega
          obtain ⟨s, hsn⟩ : ∃ s, s0.run l j = s := ⟨_, rfl⟩
          rw [hsn] at hlost2 hT
          obtain ⟨nv, nf, hn⟩ := hT.out.net
          obtain ⟨mv, mg, hm⟩ := hT.out.rn
          have hO := Lib.hid hT.out.only
          have hlen : s.l.length ≤ 300 := hn.len
          obtain ⟨mA, mc, rfl⟩ := hm.shape
          have HNn := Lib.hid hn
          have HMm := Lib.hid hm
          have HF := Lib.hid (net_flight b b nv nf s wr hn)
          clear hn hm hT hsn CP
          go_wp2_with fail
          refine HF.out.mono ?_
          rintro e w5 ⟨fv, rfl, hr, ho5⟩
          obtain ⟨fA, fc, rfl⟩ := (SlAt.of_own hr).shape
          have hn5 := HNn.out.only ho5
          have hm5 := HMm.out.only ho5
          have c0 := hm5.cells.cell (k := 0) rfl
          have HRow := Lib.hid hr
          have HN5 := Lib.hid hn5
          have HM5 := Lib.hid hm5
          clear hr hn5 hm5 HNn HMm
          go_wp2_with fail
          refine (net_apart b b nv nf s p1 p2 _ HN5.out).mono ?_
          rintro e w6 ⟨rfl, ho6⟩
          go_wp2_with fail
          refine (rn_apart W.heap.size b2 b2 _ mg s p1 p2 _ (HM5.out.only ho6)).mono ?_
          rintro e w7 ⟨rfl, rfl⟩
          go_wp2_with fail
          go_loopw [21] (fun i wr => ∃ t : Nat, t ≤ s.l.length ∧ i = .int .i64 t ∧ Hid (Only [] w5 wr)) (fun i _ => s.l.length - (intOf i).toNat)
          case atStart => exact ⟨0, by omega, rfl, ho6⟩
          case round =>
            obtain ⟨t, ht, rfl, hot⟩ := hrel
            by_cases htl : t < s.l.length
            · have htl' : (t : Int) < (s.l.length : Int) := by omega
              have ht300 : (t : Int) ≤ 300 := by omega
              have hx := List.getElem?_eq_getElem htl
              obtain ⟨x, hxe⟩ : ∃ x, s.l[t] = x := ⟨_, rfl⟩
              rw [hxe] at hx
              obtain ⟨g, hA, q0, q1, q2, -, -⟩ := row_let HRow.out hx
              obtain ⟨g2, cap2, hv2, d0, r0, r1, r2, -⟩ := rn_let HM5.out hx
              subst hA
              injection hv2 with e1 e2 e3
              subst e1; subst e3
              have y0 := fun u : Since wr => (Since.mk u.w (hot.out.tr u.h)).cell q0
              have y1 := fun u : Since wr => (Since.mk u.w (hot.out.tr u.h)).cell q1
              have y2 := fun u : Since wr => (Since.mk u.w (hot.out.tr u.h)).cell q2
              have u0 := fun u : Since wr => (Since.mk u.w (hot.out.tr u.h)).cell r0
              have u1 := fun u : Since wr => (Since.mk u.w (hot.out.tr u.h)).cell r1
              have u2 := fun u : Since wr => (Since.mk u.w (hot.out.tr u.h)).cell r2
              have u3 := fun u : Since wr => (Since.mk u.w (hot.out.tr u.h)).cell d0
              clear e2 q0 q1 q2 r0 r1 r2 d0 hx hxe
              go_wp2_with fail
              refine wp_region_only wr (Only.refl _ _) (by kernel_rfl) (by kernel_rfl) ?_
              repeat (go_big_quiet_step ((go_at_call 16; refine Calls.only (alike6 _ _))))
              refine wpQuiet_nil ?_
              rintro ⟨w9, ho9⟩
              dsimp only
              clear y0 y1 y2 u0 u1 u2 u3
              go_wp2_with fail
              go_roundw
              case rel => exact ⟨t + 1, by omega, by go_num, hot.out.tr ho9⟩
              case measure => simp [intOf]; omega
            · have htl' : decide ((t : Int) < (s.l.length : Int)) = false := by simp; omega
              go_wp2_with fail
              go_ret
              exact ⟨rfl, (hO.out.tr ho5).tr hot.out⟩
end Go.Proofs.Ytllapfpakoobcaa
