/-
  What the laws of the chapters 19 and 23 lean on, part K20at: contracts of the functions that they reach, and plain facts; each theorem bears its own conditions.
-/
import Derived.Test.YtcjfmildalappaaGreatK20ah
import Derived.Test.YtcjfmildalappaaGreatK20aj
import Derived.Test.YtcjfmildalappaaGreatK20ao
import Derived.Test.YtcjfmildalappaaGreatK20ar
import Derived.Test.YtcjfmildalappaaGreatK20as
set_option linter.unusedVariables false
set_option linter.unusedSimpArgs false
namespace Go.Proofs.YtcjfmildalappaaGreat
open Go.RowKit
set_option maxRecDepth 100000 in
set_option maxHeartbeats 1000000 in
theorem sr_number (z : Nat) (r : Rd) (lo hi : Int) (w : World) (h : SrAt w z r) :
    Calls Tryz.prog 184 #[.pointer (some ⟨z, 0, none⟩), .int .i64 lo, .int .i64 hi] w fun e w' => e = .returned (.int .i64 r.int.1) ∧ SrAt w' z (r.num lo hi) ∧ Only [z] w w' := by
  have C := Lib.hid (sr_read_int z r w h)
  have HN : Hid (r.num lo hi = ⟨r.int.2.s, r.int.2.bad || decide (r.int.1 < lo) || decide (hi < r.int.1)⟩) := Lib.hid rfl
  clear h
  obtain ⟨n, hn⟩ : ∃ n, r.int.1 = n := ⟨_, rfl⟩
  obtain ⟨q, hq⟩ : ∃ q, r.int.2 = q := ⟨_, rfl⟩
  rw [hn, hq] at C HN
  rw [hn, HN.out]
  clear HN hn hq
  obtain ⟨s, bad⟩ := q
  go_enter Tryz.func184, Tryz.ntmps184
  go_wp2_with fail
  refine C.out.mono ?_
  rintro e w1 ⟨rfl, ⟨hC, hl⟩, ho⟩
  have c1 := hC.cell (k := 1) rfl
  have f1 := hC.frozen 1
  have hlt := hC.lt
  have H := Lib.hid hC
  have HO := Lib.hid ho
  clear C hC ho
  obtain ⟨b1, h1⟩ : ∃ b, decide (n < lo) = b := ⟨_, rfl⟩
  obtain ⟨b2, h2⟩ : ∃ b, decide (hi < n) = b := ⟨_, rfl⟩
  cases bad <;> cases b1 <;> cases b2 <;> (
    go_wp2_with fail
    go_ret
    refine ⟨rfl, ⟨?_, hl⟩, HO.out.setCell (.inl (by simp)) _⟩
    dsimp only
    rw [h1, h2]
    exact H.out.set 1 _)
theorem Rd.len_text {r : Rd} (h : r.s.length ≤ 1000000000000) : r.text.1.length ≤ maxLen := by
  have := text_short h
  unfold maxLen
  omega
/-- A feed's last post is read, or not. -/
theorem row_read {w : World} {base g cap n : Nat} {e : TypeId} {ps : List Po} {x : Po} (h : w.ownsRow base e 5 (.slice (some ⟨g, 0, none⟩) n cap) n (poL (ps ++ [x]))) (q : Bool) :
    (w.setCell ⟨g, ps.length * 5 + 4, none⟩ (.bool q)).ownsRow base e 5 (.slice (some ⟨g, 0, none⟩) n cap) n (poL (ps ++ [⟨x.sq, x.it, q⟩])) := by
  have h1 := (h.stored (ps.length * 5 + 4) (.bool q)).1
  unfold poL at h1 ⊢
  rw [flat_set Po.cells 5 (fun _ => rfl) (ps ++ [x]) ps.length 4 x ⟨x.sq, x.it, q⟩ (.bool q) (by simp) (by omega) rfl] at h1
  rwa [List.set_append_right _ _ (Nat.le_refl _), Nat.sub_self, List.set_cons_zero] at h1
def SrP (w w' : World) (z p m : Nat) (v : Value) (r : Rd) (f : Fd) : Prop := ∃ r' f' v', SrAt w' z r' ∧ FdAt w' p m v' f' ∧ Only ([z, p, m] ++ rb v) w w' ∧ NewOf w v v' ∧ match rdPo f.ps r.s with
  | none => r'.bad = true
  | some (qs, t) => r' = ⟨t, false⟩ ∧ f' = ⟨f.pol, f.fai, qs⟩
set_option maxRecDepth 100000 in
set_option maxHeartbeats 4000000 in
theorem sr_post (z p m : Nat) (v : Value) (r : Rd) (f : Fd) (w : World) (h : SrAt w z r) (hf : FdAt w p m v f) (hb : r.bad = false) (hn : f.ps.length < 200) (hz : z ≠ p ∧ z ≠ m ∧ v.ownBlock ≠ some z) :
    Calls Tryz.prog 229 #[.pointer (some ⟨z, 0, none⟩), .pointer (some ⟨p, 0, none⟩)] w fun e w' => e = .returned (.tuple #[]) ∧ SrP w w' z p m v r f := by
  obtain ⟨hzp, hzm, hzv⟩ := hz
  have HZV := Lib.hid hzv
  have hl := h.2
  have hzw := h.1.lt
  obtain ⟨r1, h1⟩ : ∃ q, r.text.2 = q := ⟨_, rfl⟩
  obtain ⟨r2, h2⟩ : ∃ q, r1.text.2 = q := ⟨_, rfl⟩
  obtain ⟨r3, h3⟩ : ∃ q, r2.text.2 = q := ⟨_, rfl⟩
  obtain ⟨r4, h4⟩ : ∃ q, r3.bool.2 = q := ⟨_, rfl⟩
  have hl1 : r1.s.length ≤ 1000000000000 := h1 ▸ text_len hl
  have hl2 : r2.s.length ≤ 1000000000000 := h2 ▸ text_len hl1
  have hl3 : r3.s.length ≤ 1000000000000 := h3 ▸ text_len hl2
  have HCH := Lib.hid (po_chain r r1 r2 r3 r4 f.ps hb h1.symm h2.symm h3.symm h4.symm)
  have HL : Hid (It.Len ⟨r.text.1, r1.text.1, r2.text.1⟩) := Lib.hid ⟨Rd.len_text hl, Rd.len_text hl1, Rd.len_text hl2⟩
  have C1 := Lib.hid (sr_read_text z r w h)
  rw [h1] at C1
  have C2 := Lib.hid (fun w' hh => sr_read_text z r1 w' hh)
  have C3 := Lib.hid (fun w' hh => sr_read_text z r2 w' hh)
  have C4 := Lib.hid (fun w' hh => sr_read_bool z r3 w' hh)
  rw [h2] at C2
  rw [h3] at C3
  rw [h4] at C4
  obtain ⟨a, ha⟩ : ∃ q, r.text.1 = q := ⟨_, rfl⟩
  obtain ⟨b, hb'⟩ : ∃ q, r1.text.1 = q := ⟨_, rfl⟩
  obtain ⟨c, hc⟩ : ∃ q, r2.text.1 = q := ⟨_, rfl⟩
  obtain ⟨d, hd⟩ : ∃ q, r3.bool.1 = q := ⟨_, rfl⟩
  rw [ha] at C1 HCH HL
  rw [hb'] at C2 HCH HL
  rw [hc] at C3 HCH HL
  rw [hd] at C4 HCH
  have HF := Lib.hid hf
  clear h hf h1 h2 h3 h4 ha hb' hc hd
  go_enter Tryz.func229, Tryz.ntmps229
  go_wp2_with fail
  refine C1.out.mono ?_
  rintro e w1 ⟨rfl, hA, ho⟩
  have HA1 := Lib.hid hA
  have HO1 := Lib.hid ho
  clear hA ho C1
  go_wp2_with fail
  refine (C2.out w1 HA1.out).mono ?_
  rintro e w2 ⟨rfl, hA, ho⟩
  have HA2 := Lib.hid hA
  have HO2 := Lib.hid (HO1.out.tr ho)
  clear hA ho C2 HA1 HO1
  go_wp2_with fail
  refine (C3.out w2 HA2.out).mono ?_
  rintro e w3 ⟨rfl, hA, ho⟩
  have HA3 := Lib.hid hA
  have HO3 := Lib.hid (HO2.out.tr ho)
  clear hA ho C3 HA2 HO2
  obtain ⟨w4, hw4⟩ : ∃ w4, w3.alloc (.cells #[.string ⟨a.toArray⟩, .string ⟨b.toArray⟩, .string ⟨c.toArray⟩] 99) = w4 := ⟨_, rfl⟩
  obtain ⟨y, hy⟩ : ∃ z, w3.heap.size = z := ⟨_, rfl⟩
  have o4 : Only [] w3 w4 := hw4 ▸ (Only.refl _ _).alloc _
  have hC4 : Cells w4 y 99 [.string ⟨a.toArray⟩, .string ⟨b.toArray⟩, .string ⟨c.toArray⟩] := hw4 ▸ hy ▸ Cells.new w3 _ _
  have HA4 := Lib.hid (HA3.out.only o4 (by simp))
  have HO4 := Lib.hid (HO3.out.tr0 o4)
  have HC4 := Lib.hid hC4
  have hyz : y ≠ z := by have := HA3.out.lt; omega
  clear o4 hC4 HA3 HO3
  go_wp2_with fail
  clear hw4 hy
  refine (C4.out w4 HA4.out).mono ?_
  rintro e w5 ⟨rfl, hA, ho⟩
  have HC5 := Lib.hid (HC4.out.only ho (by simpa using hyz))
  have HA5 := Lib.hid hA
  have HO5 := Lib.hid (HO4.out.tr ho)
  have HF5 : Hid (FdAt w5 p m v f) := Lib.hid (HF.out.only (HO4.out.tr ho) (by simpa using fun e => hzp e.symm) (by simpa using fun e => hzm e.symm) (fun g hg hm => by simp at hm; subst hm; exact HZV.out hg))
  have s1 := hA.1.cell (k := 1) rfl
  have y0 := HC5.out.cell (k := 0) rfl
  have y1 := HC5.out.cell (k := 1) rfl
  have y2 := HC5.out.cell (k := 2) rfl
  clear hA ho C4 HA4 HO4 HC4
  obtain ⟨s4, b4⟩ := r4
  dsimp only at s1 HCH
  cases b4 with
  | true =>
    have hz1 := HA5.out.1.frozen 1
    have hzl := HA5.out.lt
    have hR : Hid (rdPo f.ps r.s = none) := Lib.hid HCH.out
    have HFIN : Hid (SrP w (w5.setCell ⟨z, 1, none⟩ (.bool true)) z p m v r f) := Lib.hid (by
      have o : Only [z] w5 (w5.setCell ⟨z, 1, none⟩ (.bool true)) := (Only.refl _ _).setCell (.inl (by simp)) _
      refine ⟨⟨s4, true⟩, f, v, ⟨HA5.out.1.set 1 _, HA5.out.2⟩, HF5.out.only o (by simpa using fun e => hzp e.symm) (by simpa using fun e => hzm e.symm) (fun g hg hm => by simp at hm; subst hm; exact HZV.out hg), (HO5.out.tr o).mono (by simp), NewOf.refl _ _, ?_⟩
      rw [hR.out])
    go_wp2_with fail
    refine bodyPost_ret (results_none rfl _ _ _) rfl ?_
    exact ⟨rfl, HFIN.out⟩
  | false =>
  have CR := Lib.hid (feed_right ⟨a, b, c⟩ HL.out w5)
  obtain ⟨q, hq⟩ : ∃ q, itR ⟨a, b, c⟩ = q := ⟨_, rfl⟩
  rw [hq] at CR HCH
  clear hq
  go_wp2_with fail
  refine CR.out.mono ?_
  rintro e w6 ⟨rfl, ho6⟩
  have HC6 := HC5.out.only ho6 (by simp)
  have HA6 := Lib.hid (HA5.out.only ho6 (by simp))
  have HO6 := Lib.hid (HO5.out.tr0 ho6)
  have HF6 := Lib.hid (HF5.out.only ho6 (by simp) (by simp) (by simp))
  have y0 := HC6.cell (k := 0) rfl
  have y1 := HC6.cell (k := 1) rfl
  have y2 := HC6.cell (k := 2) rfl
  have t1 := HA6.out.1.cell (k := 1) rfl
  have hz1 := HA6.out.1.frozen 1
  have hzl := HA6.out.lt
  have HCC6 := Lib.hid HC6
  clear HC5 HA5 HO5 HF5 s1 ho6 CR HC6
  have HBAD : Hid (rdPo f.ps r.s = none → ∀ (w7 : World) (v' : Value), SrAt w7 z ⟨s4, true⟩ → FdAt w7 p m v' f → Only ([z, p, m] ++ rb v) w w7 → NewOf w v v' → SrP w w7 z p m v r f) := Lib.hid (fun hR w7 v' a b c d => ⟨⟨s4, true⟩, f, v', a, b, c, d, by rw [hR]⟩)
  have oz : ∀ (w' : World), Only [z] w' (w'.setCell ⟨z, 1, none⟩ (.bool true)) := fun w' => (Only.refl _ _).setCell (.inl (by simp)) _
  have hpz : p ∉ [z] := by simpa using fun e => hzp e.symm
  have hmz : m ∉ [z] := by simpa using fun e => hzm e.symm
  cases q with
  | false =>
    have hR : rdPo f.ps r.s = none := by rw [HCH.out]; simp
    have HFIN := Lib.hid (HBAD.out hR (w6.setCell ⟨z, 1, none⟩ (.bool true)) v ⟨HA6.out.1.set 1 _, HA6.out.2⟩ (HF6.out.only (oz _) hpz hmz (fun g hg hm => by simp at hm; subst hm; exact HZV.out hg)) ((HO6.out.tr (oz _)).mono (by simp)) (NewOf.refl _ _))
    clear y0 y1 y2 HBAD hR oz
    go_wp2_with fail
    refine bodyPost_ret (results_none rfl _ _ _) rfl ?_
    exact ⟨rfl, HFIN.out⟩
  | true =>
  have CA := Lib.hid (source_add p m v f ⟨a, b, c⟩ HL.out w6 HF6.out)
  have hab : addB f ⟨a, b, c⟩ = (idx f.ps a).isNone := by
    unfold addB
    rw [show (f.ps.length == 200) = false from by simp; omega]
    simp
  obtain ⟨ab, hab2⟩ : ∃ q, addB f ⟨a, b, c⟩ = q := ⟨_, rfl⟩
  rw [hab2] at CA
  clear oz
  go_wp2_with fail
  refine CA.out.mono ?_
  rintro e w7 ⟨v', rfl, hf7, ho7, hn7⟩
  have hps : addF f ⟨a, b, c⟩ = if ab = true then ⟨f.pol, f.fai, f.ps ++ [⟨(f.ps.length : Int) + 1, ⟨a, b, c⟩, false⟩]⟩ else f := by
    unfold addF
    rw [hab2]
  have hzv' : z ∉ [p, m] ++ rb v := by
    simp only [List.cons_append, List.nil_append, List.mem_cons, not_or]
    exact ⟨hzp, hzm, fun hm => HZV.out (by simpa [rb] using hm)⟩
  have HA7 := Lib.hid (HA6.out.only ho7 hzv')
  have HO7 : Hid (Only ([z, p, m] ++ rb v) w w7) := Lib.hid ((HO6.out.mono (by simp)).tr (ho7.mono (by intro k hk; simp at hk ⊢; grind)))
  have HN7 := Lib.hid hn7
  have hzv7 : v'.ownBlock ≠ some z := fun e => (hn7 z e).elim HZV.out (fun hh => by have := HA6.out.1.lt; omega)
  have t1 := HA7.out.1.cell (k := 1) rfl
  have hz1 := HA7.out.1.frozen 1
  have hzl := HA7.out.lt
  have oz : ∀ (w' : World), Only [z] w' (w'.setCell ⟨z, 1, none⟩ (.bool true)) := fun w' => (Only.refl _ _).setCell (.inl (by simp)) _
  cases ab with
  | false =>
    have hR : rdPo f.ps r.s = none := by
      rw [HCH.out, if_neg (by simp), if_neg]
      rintro ⟨_, hi⟩
      rw [hi] at hab
      rw [hab2] at hab
      cases hab
    have hf7' : FdAt w7 p m v' f := by rw [hps] at hf7; exact hf7
    have HF7 := Lib.hid hf7'
    have HN : Hid (NewOf w v v') := Lib.hid (fun g hg => (HN7.out g hg).elim .inl (fun hh => .inr (Nat.le_trans HO6.out.size hh)))
    have HFIN := Lib.hid (HBAD.out hR (w7.setCell ⟨z, 1, none⟩ (.bool true)) v' ⟨HA7.out.1.set 1 _, HA7.out.2⟩ (HF7.out.only (oz _) hpz hmz (fun g hg hm => by simp at hm; subst hm; exact hzv7 hg)) (HO7.out.tr ((oz _).mono (by simp))) HN.out)
    clear y0 y1 y2 HBAD hR oz hf7 hf7' ho7 hn7 hps hab hab2
    go_wp2_with fail
    refine bodyPost_ret (results_none rfl _ _ _) rfl ?_
    exact ⟨rfl, HFIN.out⟩
  | true =>
  have hR : rdPo f.ps r.s = some (f.ps ++ [⟨(f.ps.length : Int) + 1, ⟨a, b, c⟩, d⟩], s4) := by
    rw [HCH.out, if_neg (by simp), if_pos]
    refine ⟨by trivial, ?_⟩
    rw [hab2] at hab
    exact Option.isNone_iff_eq_none.1 hab.symm
  have hf7' : FdAt w7 p m v' ⟨f.pol, f.fai, f.ps ++ [⟨(f.ps.length : Int) + 1, ⟨a, b, c⟩, false⟩]⟩ := by rw [hps] at hf7; exact hf7
  have HR := Lib.hid hR
  clear hR hps hf7 hab hab2 HBAD HCH oz t1 hz1
  have HN : Hid (NewOf w v v') := Lib.hid (fun g hg => (HN7.out g hg).elim .inl (fun hh => .inr (Nat.le_trans HO6.out.size hh)))
  clear CA y0 y1 y2 HCC6 ho7 hn7 hzv' hzv7
  have hlen : (f.ps ++ [(⟨(f.ps.length : Int) + 1, ⟨a, b, c⟩, false⟩ : Po)]).length = f.ps.length + 1 := by simp
  have hrow7 := hf7'.row
  have hat7 : (poL (f.ps ++ [⟨(f.ps.length : Int) + 1, ⟨a, b, c⟩, false⟩]))[f.ps.length * 5 + 4]? = some (.bool false) := by
    unfold poL
    rw [flat_get Po.cells 5 (fun _ => rfl) _ f.ps.length 4 ⟨(f.ps.length : Int) + 1, ⟨a, b, c⟩, false⟩ (by simp) (by omega)]
    rfl
  obtain ⟨g, cc, rfl, hgl, _, q4⟩ := own_cell hrow7 hat7
  have c2 := hf7'.cells.cell (k := 2) rfl
  have hplt := hf7'.cells.lt
  dsimp only at c2 hrow7
  rw [hlen] at c2 hrow7
  have HF7 := Lib.hid hf7'
  have HROW7 := Lib.hid hrow7
  have hgp : g ≠ p := fun e => hf7'.vp (by rw [e]; rfl)
  have hgm : g ≠ m := fun e => hf7'.vm (by rw [e]; rfl)
  have hgz : g ≠ z := fun e => (HN.out g rfl).elim (fun hh => HZV.out (e ▸ hh)) (fun hh => by omega)
  clear hf7' hrow7
  obtain ⟨n, hn'⟩ : ∃ n, f.ps.length = n := ⟨_, rfl⟩
  rw [hn'] at c2 hn q4
  have u2 := fun u : Since w7 => u.cell c2
  have hi0 : IntKind.i64.wrap (((n + 1 : Nat) : Int) - 1) = (n : Int) := by rw [IntKind.wrap_i64]; omega
  have hi1 : (n : Int) < ((n + 1 : Nat) : Int) := by omega
  have hi2 : (0 : Int) ≤ (n : Int) := by omega
  go_upto_region 4 with fail
  refine wp_region_only_tail w7 (Only.refl _ _) 13 (by kernel_rfl) (by kernel_rfl) ?_
  simp only [List.take_succ_cons, List.take_zero, List.drop_succ_cons, List.drop_zero]
  repeat (go_big_quiet_step (fail))
  refine wpQuiet_nil ?_
  rintro ⟨w8, ho8⟩
  dsimp only
  have hrow8 := own_keep HROW7.out ho8 (by simp)
  have z4 : w8.frozen? ⟨g, n * 5 + 4, none⟩ = false := hrow8.frozenAt _
  have q5 := (ho8.cell (p := ⟨g, n * 5 + 4, none⟩) (World.block_lt_of_cell? w7 _ q4) (by simp)).trans q4
  have hg8 : g < w8.heap.size := World.block_lt_of_cell? w8 _ q5
  have HFIN : Hid (SrP w (w8.setCell ⟨g, n * 5 + 4, none⟩ (.bool d)) z p m v r f) := Lib.hid (by
    subst hn'
    have o9 : Only [g] w8 (w8.setCell ⟨g, f.ps.length * 5 + 4, none⟩ (.bool d)) := (Only.refl _ _).setCell (.inl (by simp)) _
    have hF8 := HF7.out.only ho8 (by simp) (by simp) (by simp)
    have hr9 := row_read (x := ⟨(f.ps.length : Int) + 1, ⟨a, b, c⟩, false⟩) hrow8 d
    have hl2 : (f.ps ++ [(⟨(f.ps.length : Int) + 1, ⟨a, b, c⟩, d⟩ : Po)]).length = f.ps.length + 1 := by simp
    refine ⟨⟨s4, false⟩, ⟨f.pol, f.fai, f.ps ++ [⟨(f.ps.length : Int) + 1, ⟨a, b, c⟩, d⟩]⟩, .slice (some ⟨g, 0, none⟩) (f.ps.length + 1) cc, (HA7.out.only (ho8.of0.tr o9) (by simpa using fun e => hgz e.symm)), ⟨?_, ?_, ?_, ?_, ?_⟩, ?_, HN.out, ?_⟩
    · have := hF8.cells.only o9 (by simpa using fun e => hgp e.symm)
      dsimp only at this ⊢
      rw [hlen] at this
      exact this
    · show World.ownsRow _ _ _ _ _ (f.ps ++ [(⟨(f.ps.length : Int) + 1, ⟨a, b, c⟩, d⟩ : Po)]).length _
      rw [hl2]
      exact hr9
    · show MapF _ m (f.ps ++ [(⟨(f.ps.length : Int) + 1, ⟨a, b, c⟩, d⟩ : Po)]).length (atF (f.ps ++ [(⟨(f.ps.length : Int) + 1, ⟨a, b, c⟩, d⟩ : Po)]))
      have hm := hF8.map.only o9 (by simpa using fun e => hgm e.symm)
      rw [hl2]
      rw [hlen] at hm
      rw [show atF (f.ps ++ [(⟨(f.ps.length : Int) + 1, ⟨a, b, c⟩, d⟩ : Po)]) = atF (f.ps ++ [(⟨(f.ps.length : Int) + 1, ⟨a, b, c⟩, false⟩ : Po)]) from by funext k; unfold atF idx; rw [List.findIdx?_append, List.findIdx?_append]; rfl]
      exact hm
    · have := hF8.cap; simpa using this
    · exact hF8.nb
    · by_cases hv : v.ownBlock = some g
      · exact (HO7.out.tr0 ho8).tr (o9.mono (by intro k hk; simp at hk; subst hk; simp [rb, hv]))
      · have hgw : w.heap.size ≤ g := (HN.out g rfl).elim (fun h => absurd h hv) id
        exact (HO7.out.tr0 ho8).trans o9 (fun x hx => by simp at hx; subst hx; exact .inr hgw)
    · rw [HR.out]; exact ⟨rfl, rfl⟩)
  go_wp2_with fail
  go_end0
  exact ⟨rfl, HFIN.out⟩
end Go.Proofs.YtcjfmildalappaaGreat
namespace Go.Proofs.YtcjfmildalappaaGreat
open Go.RowKit
theorem num_ok {r : Rd} {lo hi : Int} (h : (r.num lo hi).bad = false) : r.bad = false ∧ lo ≤ r.int.1 ∧ r.int.1 ≤ hi := by
  unfold Rd.num at h
  simp only [Bool.or_eq_false_iff, decide_eq_false_iff_not] at h
  obtain ⟨⟨h1, h2⟩, h3⟩ := h
  refine ⟨?_, by omega, by omega⟩
  cases hb : r.bad with
  | false => rfl
  | true =>
    have : r.int.2.bad = true := get_bad hb
    rw [this] at h1
    cases h1
def SrS (w w' : World) (z : Nat) (r : Rd) (e : Ending) : Prop := ∃ r' nm p, e = .returned (.tuple #[.string ⟨nm.toArray⟩, .pointer (some ⟨p, 0, none⟩)]) ∧ SrAt w' z r' ∧ Only [z] w w' ∧ nm.length ≤ maxLen ∧ match rdFd r.s with
  | none => r'.bad = true
  | some (x, t) => r' = ⟨t, false⟩ ∧ nm = x.1 ∧ nmL nm = true ∧ ∃ m v, FdAt w' p m v x.2 ∧ ∀ g ∈ [p, m] ++ rb v, w.heap.size ≤ g
set_option maxRecDepth 100000 in
set_option maxHeartbeats 4000000 in
theorem sr_source (z : Nat) (r : Rd) (w : World) (h : SrAt w z r) (hb : r.bad = false) :
    Calls Tryz.prog 185 #[.pointer (some ⟨z, 0, none⟩)] w fun e w' => SrS w w' z r e := by
  have hl := h.2
  have hzw := h.1.lt
  obtain ⟨r1, h1⟩ : ∃ q, r.text.2 = q := ⟨_, rfl⟩
  obtain ⟨r2, h2⟩ : ∃ q, r1.num (-1) 1099511627776 = q := ⟨_, rfl⟩
  obtain ⟨r3, h3⟩ : ∃ q, r2.num 0 1000 = q := ⟨_, rfl⟩
  obtain ⟨r4, h4⟩ : ∃ q, r3.num 0 200 = q := ⟨_, rfl⟩
  have HCH := Lib.hid (hd_chain r r1 r2 r3 r4 hb h1.symm h2.symm h3.symm h4.symm)
  have HOK := Lib.hid (fun nm pol fai n => hdB_ok (r4 := r4) (nm := nm) (pol := pol) (fai := fai) (n := n) hl)
  have HNB : Hid (r4.bad = false → (-1 ≤ r1.int.1 ∧ r1.int.1 ≤ 1099511627776) ∧ (0 ≤ r2.int.1 ∧ r2.int.1 ≤ 1000) ∧ 0 ≤ r3.int.1 ∧ r3.int.1 ≤ 200) := Lib.hid (fun hq => by
    rw [← h4] at hq
    obtain ⟨k3, n3⟩ := num_ok hq
    rw [← h3] at k3
    obtain ⟨k2, n2⟩ := num_ok k3
    rw [← h2] at k2
    exact ⟨(num_ok k2).2, n2, n3⟩)
  have hnl := Rd.len_text hl
  have C1 := Lib.hid (fun w' hh => sr_read_text z r w' hh)
  rw [h1] at C1
  have C2 := Lib.hid (fun w' hh => sr_number z r1 (-1) 1099511627776 w' hh)
  have C3 := Lib.hid (fun w' hh => sr_number z r2 0 1000 w' hh)
  have C4 := Lib.hid (fun w' hh => sr_number z r3 0 200 w' hh)
  rw [h2] at C2
  rw [h3] at C3
  rw [h4] at C4
  obtain ⟨nm, ha⟩ : ∃ q, r.text.1 = q := ⟨_, rfl⟩
  obtain ⟨pol, hb'⟩ : ∃ q, r1.int.1 = q := ⟨_, rfl⟩
  obtain ⟨fai, hc⟩ : ∃ q, r2.int.1 = q := ⟨_, rfl⟩
  obtain ⟨n, hd⟩ : ∃ q, r3.int.1 = q := ⟨_, rfl⟩
  rw [ha] at C1 HCH hnl
  rw [hb'] at C2 HCH HNB
  rw [hc] at C3 HCH HNB
  rw [hd] at C4 HCH HNB
  have HS := Lib.hid h
  have CN := Lib.hid (fun w' => shard_name nm w' (by unfold maxLen at hnl; omega))
  have HF0 := Lib.hid (fun w' => fresh_at w')
  have CF := Lib.hid (fun w' => store_fresh w')
  clear h h1 h2 h3 h4 ha hb' hc hd
  go_enter Tryz.func185, Tryz.ntmps185
  go_wp2_with fail
  refine (CF.out _).mono ?_
  rintro e w1 ⟨rfl, hw1⟩
  obtain ⟨p, hp⟩ : ∃ p, w.heap.size + 1 = p := ⟨_, rfl⟩
  obtain ⟨m, hm⟩ : ∃ m, w.heap.size = m := ⟨_, rfl⟩
  have hf1 := HF0.out w
  rw [← hw1] at hf1
  have ho1 : Only [] w w1 := hw1 ▸ ((Only.refl [] w).alloc _).alloc _
  rw [hp, hm] at hf1
  rw [hp]
  have HA1 := Lib.hid (HS.out.only ho1 (by simp))
  have HO1 := Lib.hid ho1
  have HF1 := Lib.hid hf1
  have hmp : m < p := by omega
  have hzm : z < m := by omega
  have HM := Lib.hid hm
  clear hw1 hf1 ho1 CF HF0 hp hm
  go_wp2_with fail
  refine (C1.out _ HA1.out).mono ?_
  rintro e w2 ⟨rfl, hA, ho⟩
  have HA2 := Lib.hid hA
  have HO2 := Lib.hid (HO1.out.of0.tr ho)
  have HF2 := Lib.hid (HF1.out.only ho (by simp; omega) (by simp; omega) (by simp [Value.ownBlock]))
  clear hA ho C1 HA1 HO1 HF1
  go_wp2_with fail
  refine (C2.out _ HA2.out).mono ?_
  rintro e w3 ⟨rfl, hA, ho⟩
  have HA3 := Lib.hid hA
  have HO3 := Lib.hid (HO2.out.tr ho)
  have HF3 := Lib.hid (HF2.out.only ho (by simp; omega) (by simp; omega) (by simp [Value.ownBlock]))
  clear hA ho C2 HA2 HO2 HF2
  go_wp2_with fail
  refine (C3.out _ HA3.out).mono ?_
  rintro e w4 ⟨rfl, hA, ho⟩
  have HA4 := Lib.hid hA
  have HO4 := Lib.hid (HO3.out.tr ho)
  have hF4 := HF3.out.only ho (by simp; omega) (by simp; omega) (by simp [Value.ownBlock])
  have hplt := hF4.cells.lt
  have p0 := hF4.cells.cell (k := 0) rfl
  have p1 := hF4.cells.cell (k := 1) rfl
  have pz0 := hF4.cells.frozen 0
  have pz1 := hF4.cells.frozen 1
  have HF4 := Lib.hid hF4
  clear hA ho C3 HA3 HO3 HF3 hF4
  go_upto_region 3 with fail
  obtain ⟨w5, hw5⟩ : ∃ u, (w4.setCell ⟨p, 0, none⟩ (.int .i64 pol)).setCell ⟨p, 1, none⟩ (.int .i64 fai) = u := ⟨_, rfl⟩
  have o5 : Only [p] w4 w5 := hw5 ▸ ((Only.refl _ _).setCell (.inl (by simp)) _).setCell (.inl (by simp)) _
  have hwp : w.heap.size ≤ p := by have := HM.out; omega
  have hc5 : Cells w5 p 196 [.int .i64 pol, .int .i64 fai, .slice none 0 0, .map (some m)] := hw5 ▸ (HF4.out.cells.set 0 (.int .i64 pol)).set 1 (.int .i64 fai)
  have hm5 : MapF w5 m 0 (atF []) := HF4.out.map.only o5 (by simp; omega)
  have hr5 : w5.ownsRow 0 101 5 (.slice none 0 0) 0 (poL []) := own_keep HF4.out.row o5 (by simp [Value.ownBlock])
  have HA5 := Lib.hid (HA4.out.only o5 (by simp; omega))
  have HO5 := Lib.hid (HO4.out.trans o5 (fun x hx => by simp at hx; subst hx; exact .inr hwp))
  have HC5 := Lib.hid hc5
  have HM5 := Lib.hid hm5
  have HR5 := Lib.hid hr5
  rw [hw5]
  clear hw5 o5 hc5 hm5 hr5 HF4 HA4 HO4 p0 p1 pz0 pz1 hplt
  go_wp2_with fail
  refine (C4.out _ HA5.out).mono ?_
  rintro e w6 ⟨rfl, hA, ho⟩
  have HA6 := Lib.hid hA
  have HO6 := Lib.hid (HO5.out.tr ho)
  have HC6 := Lib.hid (HC5.out.only ho (by simp; omega))
  have HF6 : Hid (-1 ≤ pol ∧ pol ≤ 1099511627776 ∧ 0 ≤ fai ∧ fai ≤ 1000 → FdAt w6 p m (.slice none 0 0) ⟨pol, fai, []⟩) := Lib.hid (fun hnb => ⟨HC6.out, own_keep HR5.out ho (by simp [Value.ownBlock]), HM5.out.only ho (by simp; omega), by simp, hnb⟩)
  have p0 := HC6.out.cell (k := 0) rfl
  have p1 := HC6.out.cell (k := 1) rfl
  have s1 := hA.1.cell (k := 1) rfl
  have sz1 := hA.1.frozen 1
  have hzl := hA.1.lt
  clear hA ho C4 HA5 HO5 HC5 HM5 HR5
  obtain ⟨s4, b4⟩ := r4
  dsimp only at s1
  obtain ⟨q, hq⟩ : ∃ q, hdB ⟨s4, b4⟩ nm pol fai n = q := ⟨_, rfl⟩
  have HQ := Lib.hid hq
  clear hq
  go_upto_region 4 with fail
  go_cut [] from 22 (fun wx => wx = w6.setCell ⟨z, 1, none⟩ (.bool q))
  case first =>
    cases b4 with
    | true =>
      have e : Hid (true = q) := Lib.hid (by rw [← HQ.out]; unfold hdB; simp)
      go_wp2_with fail
      go_meet
      rw [← e.out]
    | false =>
    obtain ⟨⟨n0, n1⟩, ⟨n2, n3⟩, n4, n5⟩ := HNB.out rfl
    go_wp2_with fail
    refine (CN.out _).mono ?_
    rintro e w7 ⟨rfl, rfl⟩
    obtain ⟨ok, hok⟩ : ∃ b, nmL nm = b := ⟨_, rfl⟩
    rw [hok]
    cases ok with
    | false =>
      have e : Hid (true = q) := Lib.hid (by rw [← HQ.out]; unfold hdB; simp [hok])
      go_wp2_with fail
      go_meet
      rw [← e.out]
    | true =>
    obtain ⟨pm, hpm⟩ : ∃ b, (pol == -1) = b := ⟨_, rfl⟩
    have hok : Hid (nmL nm = true) := Lib.hid hok
    cases pm with
    | false =>
      have e : Hid (false = q) := Lib.hid (by rw [← HQ.out]; unfold hdB; simp [hok.out, hpm])
      go_wp2_with fail
      go_meet
      rw [← e.out]
    | true =>
    have e : Hid (decide (0 < fai + n) = q) := Lib.hid (by rw [← HQ.out]; unfold hdB; simp [hok.out, hpm])
    have hw : IntKind.i64.wrap (fai + n) = fai + n := by rw [IntKind.wrap_i64]; omega
    generalize hd : decide (0 < fai + n) = d at e
    go_wp2_with fail
    go_meet
    rw [← e.out]
  case rest =>
  subst hcut
  have HO7 : Hid (Only [z] w (w6.setCell ⟨z, 1, none⟩ (.bool q))) := Lib.hid (HO6.out.setCell (.inl (by simp)) _)
  have o67 : Only [z] w6 (w6.setCell ⟨z, 1, none⟩ (.bool q)) := (Only.refl _ _).setCell (.inl (by simp)) _
  have HA7 : Hid (SrAt (w6.setCell ⟨z, 1, none⟩ (.bool q)) z ⟨s4, q⟩) := Lib.hid ⟨HA6.out.1.set 1 _, HA6.out.2⟩
  obtain ⟨w7, hw7⟩ : ∃ u, w6.setCell ⟨z, 1, none⟩ (.bool q) = u := ⟨_, rfl⟩
  rw [hw7] at HO7 o67 HA7 ⊢
  have HF7 : Hid (-1 ≤ pol ∧ pol ≤ 1099511627776 ∧ 0 ≤ fai ∧ fai ≤ 1000 → FdAt w7 p m (.slice none 0 0) ⟨pol, fai, []⟩) := Lib.hid (fun hnb => (HF6.out hnb).only o67 (by simp; omega) (by simp; omega) (by simp [Value.ownBlock]))
  clear hw7 o67 HA6 HF6 HC6 HO6 p0 p1 s1 sz1 hzl CN
  cases q with
  | true =>
    have hR : rdFd r.s = none := by
      have := HCH.out
      rw [HQ.out, if_pos rfl] at this
      unfold rdFd
      rw [this]
    have HFIN : Hid (SrS w w7 z r (.returned (.tuple #[.string ⟨nm.toArray⟩, .pointer (some ⟨p, 0, none⟩)]))) := Lib.hid ⟨⟨s4, true⟩, nm, p, rfl, HA7.out, HO7.out, hnl, by rw [hR]⟩
    have s1 := HA7.out.1.cell (k := 1) rfl
    dsimp only at s1
    clear hR HO7
    go_wp2_with fail
    go_loopw [51] (fun i wr => i = .int .i64 0 ∧ w7 = wr) (fun _ _ => 0)
    case atStart => exact ⟨rfl, rfl⟩
    case round =>
      obtain ⟨rfl, rfl⟩ := hrel
      go_wp2_with fail
      all_goals
        go_ret2
        exact HFIN.out
  | false =>
  obtain ⟨hnm, b0⟩ : nmL nm = true ∧ b4 = false := by
    have := HQ.out
    unfold hdB at this
    simp only [Bool.or_eq_false_iff, Bool.not_eq_false'] at this
    exact ⟨this.1.2, this.1.1⟩
  obtain ⟨⟨n0, n1⟩, ⟨n2, n3⟩, n4, n5⟩ := HNB.out b0
  have hH : rdHd r.s = some ((nm, pol, fai, n), s4) := by
    have := HCH.out
    rw [HQ.out] at this
    exact this
  obtain ⟨N, hN⟩ : ∃ N : Nat, n.toNat = N := ⟨_, rfl⟩
  have hn : n = (N : Int) := by omega
  have hN2 : N ≤ 200 := by omega
  have HR : Hid (rdFd r.s = match rdPs N [] s4 with | none => none | some (ps, u) => some ((nm, ⟨pol, fai, ps⟩), u)) := Lib.hid (by unfold rdFd; rw [hH]; dsimp only; rw [hN]; all_goals (cases rdPs N [] s4 with | none => rfl | some x => (cases x; rfl)))
  have hF7 := HF7.out ⟨n0, n1, n2, n3⟩
  have HFF := Lib.hid hF7
  have HNM := Lib.hid hnm
  subst hn
  have hzpm : z ≠ p ∧ z ≠ m := ⟨by omega, by omega⟩
  have HW := HM.out
  clear hF7 hH hnm b0 HNB HOK HCH HQ HF7 hN hb
  go_wp2_with fail
  go_loopw [51] (fun i wr => ∃ (k : Nat) (r' : Rd) (v : Value) (f : Fd), k ≤ N ∧ i = .int .i64 k ∧ Hid (SrAt wr z r') ∧ Hid (Only [z] w wr) ∧ Hid (FdAt wr p m v f) ∧ Hid (∀ g ∈ rb v, w.heap.size ≤ g) ∧ (r'.bad = true ∧ Hid (rdPs N [] s4 = none) ∨ r'.bad = false ∧ f.ps.length = k ∧ f.pol = pol ∧ f.fai = fai ∧ Hid (rdPs N [] s4 = rdPs (N - k) f.ps r'.s))) (fun i _ => N - (intOf i).toNat)
  case atStart => exact ⟨0, ⟨s4, false⟩, _, _, by omega, rfl, HA7, HO7, HFF, Lib.hid (by simp [rb, Value.ownBlock]), .inr ⟨rfl, rfl, rfl, rfl, Lib.hid rfl⟩⟩
  case round =>
    obtain ⟨k, ⟨t, bad⟩, v, f, hk, rfl, HA, HO, HF, HV, hcase⟩ := hrel
    by_cases hlt : k < N
    · have hlt' : (k : Int) < (N : Int) := by omega
      have s1 := HA.out.1.cell (k := 1) rfl
      dsimp only at s1 hcase
      rcases hcase with ⟨rfl, HN⟩ | ⟨rfl, hkl, hpo, hfa, HN⟩
      · have HFIN : Hid (SrS w wr z r (.returned (.tuple #[.string ⟨nm.toArray⟩, .pointer (some ⟨p, 0, none⟩)]))) := Lib.hid ⟨⟨t, true⟩, nm, p, rfl, HA.out, HO.out, hnl, by rw [HR.out, HN.out]⟩
        clear HR HN
        go_wp2_with fail
        go_ret2
        exact HFIN.out
      · have CP := Lib.hid (sr_post z p m v ⟨t, false⟩ f wr HA.out HF.out rfl (by omega) ⟨hzpm.1, hzpm.2, fun e => by have := HV.out z (by simp [rb, e]); omega⟩)
        go_wp2_with fail
        refine CP.out.mono ?_
        rintro e w8 ⟨rfl, r', f', v', hA, hf, ho, hnw, hm⟩
        have hv' : ∀ g ∈ rb v', w.heap.size ≤ g := by
          intro g hg
          simp only [rb, Option.mem_toList] at hg
          rcases hnw g hg with h1 | h1
          · exact HV.out g (by simp [rb, h1])
          · exact Nat.le_trans HO.out.size h1
        have hOo : Only [z] w w8 := HO.out.trans ho (by
          intro x hx
          simp only [List.cons_append, List.nil_append, List.mem_cons] at hx ⊢
          rcases hx with rfl | rfl | rfl | hx
          · exact .inl (.inl rfl)
          · exact .inr (by omega)
          · exact .inr (by omega)
          · exact .inr (HV.out x hx))
        have hnext : rdPs N [] s4 = match rdPo f.ps t with | none => none | some (qs, u) => rdPs (N - (k + 1)) qs u := by
          rw [HN.out, show N - k = (N - (k + 1)) + 1 from by omega]
          rfl
        have hrel' : Hid (r'.bad = true ∧ Hid (rdPs N [] s4 = none) ∨ r'.bad = false ∧ f'.ps.length = k + 1 ∧ f'.pol = pol ∧ f'.fai = fai ∧ Hid (rdPs N [] s4 = rdPs (N - (k + 1)) f'.ps r'.s)) := Lib.hid (by
          dsimp only at hm
          cases hp : rdPo f.ps t with
          | none =>
            rw [hp] at hm hnext
            exact .inl ⟨hm, Lib.hid hnext⟩
          | some x =>
            obtain ⟨qs, u⟩ := x
            rw [hp] at hm hnext
            obtain ⟨rfl, rfl⟩ := hm
            exact .inr ⟨rfl, by have := (rdPo_len hp).2; dsimp only; omega, hpo, hfa, Lib.hid hnext⟩)
        have HA8 := Lib.hid hA
        have HF8 := Lib.hid hf
        have HO8 := Lib.hid hOo
        have HV8 := Lib.hid hv'
        have hw : IntKind.i64.wrap ((k : Int) + 1) = ((k + 1 : Nat) : Int) := by rw [IntKind.wrap_i64]; omega
        clear hA hf ho hnw hm hv' hOo hnext CP HN hpo hfa
        go_wp2_with fail
        go_roundw
        case rel => exact ⟨k + 1, r', v', f', by omega, rfl, HA8, HO8, HF8, HV8, hrel'.out⟩
        case measure => simp [intOf]; omega
    · have hlt' : ¬ (k : Int) < (N : Int) := by omega
      have hkN : k = N := by omega
      have HFIN : Hid (SrS w wr z r (.returned (.tuple #[.string ⟨nm.toArray⟩, .pointer (some ⟨p, 0, none⟩)]))) := Lib.hid (by
        refine ⟨⟨t, bad⟩, nm, p, rfl, HA.out, HO.out, hnl, ?_⟩
        rcases hcase with ⟨hb, HN⟩ | ⟨hb, hkl, hpo, hfa, HN⟩
        · rw [HR.out, HN.out]; exact hb
        · rw [HR.out, HN.out, hkN, Nat.sub_self]
          refine ⟨by dsimp only at hb; rw [hb], rfl, HNM.out, m, v, ?_, ?_⟩
          · have : (⟨pol, fai, f.ps⟩ : Fd) = f := by rw [← hpo, ← hfa]
            rw [this]; exact HF.out
          · intro g hg
            simp only [List.cons_append, List.nil_append, List.mem_cons] at hg
            rcases hg with rfl | rfl | hg
            · omega
            · omega
            · exact HV.out g hg)
      clear hcase HR HNM HA HF
      go_wp2_with fail
      go_ret2
      exact HFIN.out
end Go.Proofs.YtcjfmildalappaaGreat
namespace Go.Proofs.YtcjfmildalappaaGreat
open Go.RowKit
theorem unSt_num (s : List UInt8) : unSt s = if ((⟨s, false⟩ : Rd).num 0 20).bad = true then none else match rdFs (⟨s, false⟩ : Rd).int.1.toNat [] ((⟨s, false⟩ : Rd).num 0 20).s with | none => none | some (S, u) => if u = [] then some S else none := by
  unfold unSt
  cases h : rdI s with
  | none =>
    have : (⟨s, false⟩ : Rd).int = (0, ⟨[], true⟩) := by unfold Rd.int Rd.get; simp only [h]
    unfold Rd.num
    rw [this]
    rfl
  | some p =>
    obtain ⟨n, t⟩ := p
    have : (⟨s, false⟩ : Rd).int = (n, ⟨t, false⟩) := get_out h
    unfold Rd.num
    rw [this]
    dsimp only
    by_cases hn : 0 ≤ n ∧ n ≤ 20
    · rw [if_pos hn, if_neg (by simp; omega)]
      all_goals (cases rdFs n.toNat [] t with | none => rfl | some x => (cases x; rfl))
    · rw [if_neg hn, if_pos (by simp; omega)]
theorem insBy_end {α : Type} (key : α → List UInt8) (x : α) : ∀ (l : List α), (∀ a ∈ l, key a < key x) → insBy key x l = l ++ [x]
  | [], _ => rfl
  | a :: l, h => by
    have h1 := h a (by simp)
    have h2 := insBy_end key x l (fun b hb => h b (by simp [hb]))
    unfold insBy
    rw [if_pos h1, h2]
    rfl
theorem last_lt {S : Sv} (hs : S.Pairwise (fun a b => a.1 < b.1)) {k : List UInt8} (h : lastN S < k) : ∀ a ∈ S, a.1 < k := by
  intro a ha
  obtain ⟨y, hy⟩ : ∃ y, S.getLast? = some y := by
    cases hq : S.getLast? with
    | none => rw [List.getLast?_eq_none_iff] at hq; subst hq; cases ha
    | some y => exact ⟨y, rfl⟩
  have hl : y.1 < k := by
    unfold lastN at h
    rw [hy] at h
    exact h
  obtain ⟨ys, rfl⟩ := List.getLast?_eq_some_iff.1 hy
  rcases List.mem_append.1 ha with ha | ha
  · exact List.lt_trans ((List.pairwise_append.1 hs).2.2 a ha y (by simp)) hl
  · obtain rfl := List.mem_singleton.1 ha; exact hl
theorem StX.insN {w2 w' : World} {b mb : Nat} {T : List Pl} {t : Pl} (k2 : StX w2 b mb T) (hn : fT T t.nm = none) (hnm : nmL t.nm = true) (hcap : T.length < 20) (hfd : FdAt w2 t.p t.m t.v t.fd) (hnew : ∀ x ∈ t.own, x ∉ allX b mb T) (ho : Only [mb] w2 w') (hm : MapF w' mb (T.length + 1) (fun k' => if k' = t.nm then some (.pointer (some ⟨t.p, 0, none⟩)) else ptT T k')) :
    StX w' b mb (insBy Pl.nm t T) := by
  have hbm := k2.bm
  have hne : ∀ a ∈ T, a.nm ≠ t.nm := fun a ha e => by
    have := List.find?_eq_none.1 hn a ha
    simp [e] at this
  have hmem : ∀ a, a ∈ insBy Pl.nm t T ↔ a = t ∨ a ∈ T := fun a => by rw [(insBy_perm Pl.nm t T).mem_iff, List.mem_cons]
  refine ⟨k2.cells.only ho (by simpa using hbm), ?_, ?_, insBy_sorted Pl.nm t T k2.srt hne, ?_, ?_, ?_, ?_⟩
  · rw [insBy_length, ptT_ins hn]; exact hm
  · intro a ha
    rcases (hmem a).1 ha with rfl | ha
    · exact hfd.keep ho (fun x hx => by
        simp only [List.mem_cons, List.not_mem_nil, or_false]
        intro e; subst e; exact hnew _ hx (by simp [allX]))
    · exact (k2.fds a ha).keep ho (fun x hx => by
        have := (k2.dib a ha).2
        simp only [List.mem_cons, List.not_mem_nil, or_false]
        intro e; subst e; exact this hx)
  · intro a ha c hc hac x hx
    rcases (hmem a).1 ha with rfl | ha2
    · rcases (hmem c).1 hc with rfl | hc2
      · exact absurd rfl hac
      · intro hxc
        exact hnew x hx (own_mem hc2 hxc)
    · rcases (hmem c).1 hc with rfl | hc2
      · intro hxc
        exact hnew x hxc (own_mem ha2 hx)
      · exact k2.dis a ha2 c hc2 hac x hx
  · intro a ha
    rcases (hmem a).1 ha with rfl | ha2
    · exact ⟨fun hx => hnew _ hx (by simp [allX]), fun hx => hnew _ hx (by simp [allX])⟩
    · exact k2.dib a ha2
  · rw [insBy_length]; omega
  · intro a ha
    rcases (hmem a).1 ha with rfl | ha2
    · exact hnm
    · exact k2.nml a ha2
def UnV (w w' : World) (s : List UInt8) (e : Ending) : Prop := Only [] w w' ∧ match unSt s with
  | none => e = .returned (.tuple #[.pointer none, .bool false])
  | some S => ∃ b O, e = .returned (.tuple #[.pointer (some ⟨b, 0, none⟩), .bool true]) ∧ St w' b O S ∧ ∀ x ∈ O, w.heap.size ≤ x
set_option maxRecDepth 100000 in
set_option maxHeartbeats 4000000 in
theorem store_unpack (s : List UInt8) (hs : s.length ≤ 1000000000000) (w : World) :
    Calls Tryz.prog 107 #[.string ⟨s.toArray⟩] w fun e w' => UnV w w' s e := by
  obtain ⟨w1, hw1⟩ : ∃ u, w.alloc (.cells #[.string ⟨s.toArray⟩, .bool false] 253) = u := ⟨_, rfl⟩
  obtain ⟨z, hz⟩ : ∃ z, w.heap.size = z := ⟨_, rfl⟩
  have HA1 : Hid (SrAt w1 z ⟨s, false⟩) := Lib.hid ⟨hw1 ▸ hz ▸ Cells.new w _ _, hs⟩
  have HO1 : Hid (Only [] w w1) := Lib.hid (hw1 ▸ (Only.refl _ _).alloc _)
  have HZ := Lib.hid hz
  have HU := Lib.hid (unSt_num s)
  have HIW := Lib.hid (fun (h : ((⟨s, false⟩ : Rd).num 0 20).bad = false) => num_ok h)
  obtain ⟨r1, hr1⟩ : ∃ q, (⟨s, false⟩ : Rd).num 0 20 = q := ⟨_, rfl⟩
  obtain ⟨n, hn⟩ : ∃ q, (⟨s, false⟩ : Rd).int.1 = q := ⟨_, rfl⟩
  have C1 := Lib.hid (fun w' hh => sr_number z ⟨s, false⟩ 0 20 w' hh)
  rw [hr1] at C1 HU HIW
  rw [hn] at C1 HU HIW
  have CN := Lib.hid (fun w' => store_new w')
  clear hr1 hn
  go_enter Tryz.func107, Tryz.ntmps107
  go_upto_region 2 with fail
  clear hw1 hz
  go_wp2_with fail
  refine (CN.out _).mono ?_
  rintro e w2 ⟨rfl, hX, ho⟩
  obtain ⟨b, hb⟩ : ∃ b, w1.heap.size + 1 = b := ⟨_, rfl⟩
  obtain ⟨mb, hmb⟩ : ∃ b, w1.heap.size = b := ⟨_, rfl⟩
  rw [hb, hmb] at hX
  rw [hb]
  have hzb : z < mb ∧ mb < b := by have := HA1.out.lt; omega
  have hwz : w.heap.size ≤ z := by have := HZ.out; omega
  have HA2 := Lib.hid (HA1.out.only ho (by simp))
  have HO2 := Lib.hid (HO1.out.tr0 ho)
  have HX2 := Lib.hid hX
  clear hX ho CN HA1 HO1 HZ hb hmb
  go_wp2_with fail
  refine (C1.out _ HA2.out).mono ?_
  rintro e w3 ⟨rfl, hA, ho⟩
  have HA3 := Lib.hid hA
  have HO3 : Hid (Only [] w w3) := Lib.hid (HO2.out.trans ho (fun x hx => by simp at hx; subst hx; exact .inr hwz))
  have HX3 := Lib.hid (HX2.out.keep ho (by intro k hk; simp [allX] at hk ⊢; omega))
  have s1 := hA.1.cell (k := 1) rfl
  clear hA ho C1 HA2 HO2 HX2
  obtain ⟨t0, b0⟩ := r1
  dsimp only at s1
  cases b0 with
  | true =>
    have HFIN : Hid (UnV w w3 s (.returned (.tuple #[.pointer none, .bool false]))) := Lib.hid ⟨HO3.out, by rw [HU.out]; exact rfl⟩
    clear HU
    go_wp2_with fail
    go_ret2
    exact HFIN.out
  | false =>
  obtain ⟨_, n0, n1⟩ := HIW.out rfl
  obtain ⟨N, hN⟩ : ∃ N : Nat, n.toNat = N := ⟨_, rfl⟩
  have hn : n = (N : Int) := by omega
  have hN2 : N ≤ 20 := by omega
  have HR : Hid (unSt s = match rdFs N [] t0 with | none => none | some (S, u) => if u = [] then some S else none) := Lib.hid (by rw [HU.out, if_neg (by simp), hN])
  subst hn
  clear HU HIW hN
  go_wp2_with fail
  go_loopw [6, 21] (fun l i wr => ∃ (k : Nat) (t : List UInt8) (T : List Pl), k ≤ N ∧ i = .int .i64 k ∧ l = .string ⟨(lastN (prT T)).toArray⟩ ∧ T.length = k ∧ Hid (SrAt wr z ⟨t, false⟩) ∧ Hid (Only [] w wr) ∧ Hid (StX wr b mb T) ∧ Hid (∀ x ∈ allX b mb T, z < x) ∧ Hid (rdFs N [] t0 = rdFs (N - k) (prT T) t)) (fun _ i _ => N - (intOf i).toNat)
  case atStart => exact ⟨0, t0, [], by omega, rfl, rfl, rfl, HA3, HO3, HX3, Lib.hid (by intro x hx; simp [allX] at hx; omega), Lib.hid rfl⟩
  case round =>
    obtain ⟨k, t, T, hk, rfl, rfl, hT, HA, HO, HX, HV, HN⟩ := hrel
    by_cases hlt : k < N
    · have hlt' : (k : Int) < (N : Int) := by omega
      have CS := Lib.hid (sr_source z ⟨t, false⟩ wr HA.out rfl)
      have hnext : rdFs N [] t0 = match rdFd t with | none => none | some (x, u) => if lastN (prT T) < x.1 then rdFs (N - (k + 1)) (prT T ++ [x]) u else none := by
        rw [HN.out, show N - k = (N - (k + 1)) + 1 from by omega]
        rfl
      have HNX := Lib.hid hnext
      clear hnext HN
      go_wp2_with fail
      refine CS.out.mono ?_
      rintro e w4 ⟨⟨t4, bad⟩, nm, p, rfl, hA, ho, hnl, hm⟩
      have hO4 : Only [] w w4 := HO.out.trans ho (fun x hx => by simp at hx; subst hx; exact .inr hwz)
      have hX4 := HX.out.keep ho (by intro x hx hz; simp at hz; subst hz; exact absurd (HV.out x hx) (Nat.lt_irrefl _))
      have s1 := hA.1.cell (k := 1) rfl
      have HA4 := Lib.hid hA
      have HO4 := Lib.hid hO4
      have HX4 := Lib.hid hX4
      have b0 := hX4.cells.cell (k := 0) rfl
      dsimp only at s1 hm
      clear hA ho hO4 hX4 CS HA HO
      cases hrd : rdFd t with
      | none =>
        rw [hrd] at hm
        dsimp only at hm
        subst hm
        have HFIN : Hid (UnV w w4 s (.returned (.tuple #[.pointer none, .bool false]))) := Lib.hid ⟨HO4.out, by rw [HR.out, HNX.out, hrd]⟩
        clear HR HNX hrd
        go_wp2_with fail
        go_ret2
        exact HFIN.out
      | some x =>
      obtain ⟨⟨nm', fd⟩, u⟩ := x
      rw [hrd] at hm
      obtain ⟨hr', rfl, hnm, m, v, hfd, hnew⟩ := hm
      injection hr' with e1 e2
      subst e1; subst e2
      dsimp only at hfd hnm hnl
      by_cases hls : lastN (prT T) < nm
      case neg =>
        have HFIN : Hid (UnV w w4 s (.returned (.tuple #[.pointer none, .bool false]))) := Lib.hid ⟨HO4.out, by rw [HR.out, HNX.out, hrd]; dsimp only; rw [if_neg hls]⟩
        by_cases hlt2 : nm < lastN (prT T)
        · have hless : Op.bytesLess nm (lastN (prT T)) = true := by rw [bytesLess_eq]; simpa using hlt2
          clear HR HNX hrd
          go_wp2_with fail
          go_ret2
          exact HFIN.out
        · have hless : Op.bytesLess nm (lastN (prT T)) = false := by rw [bytesLess_eq]; simpa using hlt2
          have heq : (nm == lastN (prT T)) = true := by simpa using List.le_antisymm (List.not_lt.1 hls) (List.not_lt.1 hlt2)
          clear HR HNX hrd
          go_wp2_with fail
          go_ret2
          exact HFIN.out
      have hless : Op.bytesLess nm (lastN (prT T)) = false := by rw [bytesLess_eq]; simpa using List.not_lt.2 (List.le_of_lt hls)
      have heq : (nm == lastN (prT T)) = false := by simpa using fun e => List.lt_irrefl _ (e ▸ hls)
      have hall : ∀ a ∈ T, a.nm < nm := fun a ha => last_lt (S := prT T) (by unfold prT; rw [List.pairwise_map]; exact HX4.out.srt) hls (a.nm, a.fd) (List.mem_map_of_mem (f := fun t : Pl => (t.nm, t.fd)) ha)
      have hfn : fT T nm = none := by
        unfold fT
        refine List.find?_eq_none.2 fun a ha h => ?_
        have := hall a ha
        rw [show a.nm = nm from by simpa using h] at this
        exact List.lt_irrefl _ this
      have hcap : T.length < 20 := by omega
      have hnl60 := (nmL_len hnm).2
      obtain ⟨v0, st, w5, w6, hE1, hE2, hm6, ht6⟩ := MapF.entry (t := 182) (e := 191) HX4.out.map Tryz.underlying182 (Tryz.zeroValue191) (by unfold maxLen; omega) nm hnl (.pointer (some ⟨p, 0, none⟩))
      rw [show (ptT T nm).isSome = false from by unfold ptT; rw [hfn]; rfl] at hm6
      have hX4 := HX4.out
      have hltw : ∀ x ∈ allX b mb T, x < wr.heap.size := HX.out.lts
      have hdis : ∀ x ∈ (⟨nm, fd, p, m, v⟩ : Pl).own, x ∉ allX b mb T := fun x hx hm => by have h1 := hnew x hx; have h2 := hltw x hm; omega
      have hF := StX.insN (t := ⟨nm, fd, p, m, v⟩) hX4 hfn hnm hcap hfd hdis (mapTurned_only ht6) hm6
      rw [insBy_end Pl.nm ⟨nm, fd, p, m, v⟩ T hall] at hF
      have HF6 := Lib.hid hF
      have HA6 := Lib.hid (HA4.out.only (mapTurned_only ht6) (by simp; omega))
      have HO6 : Hid (Only [] w w6) := Lib.hid (HO4.out.trans (mapTurned_only ht6) (fun x hx => by simp at hx; subst hx; exact .inr (by omega)))
      have HV6 : Hid (∀ x ∈ allX b mb (T ++ [(⟨nm, fd, p, m, v⟩ : Pl)]), z < x) := Lib.hid (fun x hx => by
        unfold allX at hx
        rw [List.flatMap_append] at hx
        simp only [List.mem_cons, List.mem_append] at hx
        rcases hx with rfl | rfl | hx | hx
        · omega
        · omega
        · exact HV.out x (by simp [allX, hx])
        · have h1 := hnew x (by simpa [Pl.own] using hx)
          have h2 := hltw b (by simp [allX])
          omega)
      have hpr : prT (T ++ [(⟨nm, fd, p, m, v⟩ : Pl)]) = prT T ++ [(nm, fd)] := by unfold prT; rw [List.map_append]; rfl
      have HN6 : Hid (rdFs N [] t0 = rdFs (N - (k + 1)) (prT (T ++ [(⟨nm, fd, p, m, v⟩ : Pl)])) t4) := Lib.hid (by rw [HNX.out, hrd, hpr]; dsimp only; rw [if_pos hls])
      have HL6 : Hid (lastN (prT (T ++ [(⟨nm, fd, p, m, v⟩ : Pl)])) = nm) := Lib.hid (by rw [hpr]; unfold lastN; simp)
      have HT : Hid ((T ++ [(⟨nm, fd, p, m, v⟩ : Pl)]).length = k + 1) := Lib.hid (by simp [hT])
      clear hF ht6 hm6 hX4 hfd hnew hltw hdis hpr hall hfn HA4 HO4 HX4 HNX hrd HV HX hls
      have hw : IntKind.i64.wrap ((k : Int) + 1) = ((k + 1 : Nat) : Int) := by rw [IntKind.wrap_i64]; omega
      go_wp2_with fail
      go_roundw
      case rel => exact ⟨k + 1, t4, T ++ [(⟨nm, fd, p, m, v⟩ : Pl)], by omega, by go_num, by rw [HL6.out], HT.out, HA6, HO6, HF6, HV6, HN6⟩
      case measure => simp [intOf]; omega
    · have hlt' : ¬ (k : Int) < (N : Int) := by omega
      have hkN : k = N := by omega
      have hend : unSt s = if t = [] then some (prT T) else none := by
        rw [HR.out, HN.out, hkN, Nat.sub_self]
        rfl
      have s0 := HA.out.1.cell (k := 0) rfl
      have s1 := HA.out.1.cell (k := 1) rfl
      dsimp only at s0 s1
      by_cases ht : t = []
      · have HFIN : Hid (UnV w wr s (.returned (.tuple #[.pointer (some ⟨b, 0, none⟩), .bool true]))) := Lib.hid (by
          refine ⟨HO.out, ?_⟩
          rw [hend, if_pos ht]
          exact ⟨b, allX b mb T, rfl, ⟨mb, T, HX.out, rfl, rfl⟩, fun x hx => by have := HV.out x hx; omega⟩)
        subst ht
        clear hend HR HN
        go_wp2_with fail
        go_ret2
        exact HFIN.out
      · have HFIN : Hid (UnV w wr s (.returned (.tuple #[.pointer none, .bool false]))) := Lib.hid ⟨HO.out, by rw [hend, if_neg ht]⟩
        have hte : t.isEmpty = false := by cases t with | nil => exact absurd rfl ht | cons => rfl
        clear hend HR HN
        go_wp2_with fail
        go_ret2
        exact HFIN.out
end Go.Proofs.YtcjfmildalappaaGreat
