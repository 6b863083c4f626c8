/-
  Contracts; each theorem bears its own conditions.
-/
import Derived.Test.YtcjfmildalappaaGreatK21aa
import Derived.Test.YtcjfmildalappaaGreatK21ab
import Derived.Test.YtcjfmildalappaaGreatK21ai
import Derived.Test.YtcjfmildalappaaGreatK21ak
import Derived.Test.YtcjfmildalappaaGreatK21aq
import Derived.Test.YtcjfmildalappaaGreatK21as
import Derived.Test.YtcjfmildalappaaGreatK21at
import Derived.Test.YtcjfmildalappaaGreatK21au
import Derived.Test.YtcjfmildalappaaGreatK21av
set_option linter.all false
set_option maxRecDepth 100000
set_option maxHeartbeats 8000000
namespace Go.Proofs.YtcjfmildalappaaGreat
open Go.RowKit
theorem sr_number (z : Nat) (r : Rd) (lo hi : Int) (w : World) (h : SrAt w z r) :
 Calls Tryz.prog 184 #[.pointer (some ⟨z, 0, none⟩), .int .i64 lo, .int .i64 hi] w fun e w' => e = .returned (.int .i64 r.int.1) ∧ SrAt w' z (r.num lo hi) ∧ Only [z] w w' := by
 have C := Hd (sr_read_int z r w h)
 have HN : Hid (r.num lo hi = ⟨r.int.2.s, r.int.2.bad || decide (r.int.1 < lo) || decide (hi < r.int.1)⟩) := Hd rfl
 clear h
 obtain ⟨n, hn⟩ : ∃ n, r.int.1 = n := ⟨_, rfl⟩
 obtain ⟨q, hq⟩ : ∃ q, r.int.2 = q := ⟨_, rfl⟩
 rw [hn, hq] at C HN
 rw [hn, HN.out]
 clear HN hn hq
 obtain ⟨s, bad⟩ := q
 go_enter Tryz.func184, Tryz.ntmps184
 go_wp2_with fail
 refine C.out.mono ?_
 rintro e w1 ⟨rfl, ⟨hC, hl⟩, ho⟩
 have c1 := hC.cell (k := 1) rfl
 have f1 := hC.frozen 1
 have hlt := hC.lt
 have H := Hd hC
 have HO := Hd ho
 clear C hC ho
 obtain ⟨b1, h1⟩ : ∃ b, decide (n < lo) = b := ⟨_, rfl⟩
 obtain ⟨b2, h2⟩ : ∃ b, decide (hi < n) = b := ⟨_, rfl⟩
 cases bad <;> cases b1 <;> cases b2 <;> (
  go_wp2_with fail
  go_ret
  refine ⟨rfl, ⟨?_, hl⟩, HO.out.setCell (.inl (by simp)) _⟩
  dsimp only
  rw [h1, h2]
  exact H.out.set 1 _)
theorem Rd.len_text {r : Rd} (h : r.s.length ≤ 1000000000000) : r.text.1.length ≤ maxLen := by
 have := text_short h
 unfold maxLen
 omega
theorem row_read {w : World} {base g cap n : Nat} {e : TypeId} {ps : List Po} {x : Po} (h : w.ownsRow base e 5 (.slice (some ⟨g, 0, none⟩) n cap) n (poL (ps ++ [x]))) (q : Bool) :
 (w.setCell ⟨g, ps.length * 5 + 4, none⟩ (.bool q)).ownsRow base e 5 (.slice (some ⟨g, 0, none⟩) n cap) n (poL (ps ++ [⟨x.sq, x.it, q⟩])) := by
 have h1 := (h.stored (ps.length * 5 + 4) (.bool q)).1
 unfold poL at h1 ⊢
 rw [flat_set Po.cells 5 (fun _ => rfl) (ps ++ [x]) ps.length 4 x ⟨x.sq, x.it, q⟩ (.bool q) (by simp) (by omega) rfl] at h1
 rwa [List.set_append_right _ _ (Nat.le_refl _), Nat.sub_self, List.set_cons_zero] at h1
def SrP (w w' : World) (z p m : Nat) (v : Value) (r : Rd) (f : Fd) : Prop := ∃ r' f' v', SrAt w' z r' ∧ FdAt w' p m v' f' ∧ Only ([z, p, m] ++ rb v) w w' ∧ NewOf w v v' ∧ match rdPo f.ps r.s with
 | none => r'.bad = true
 | some (qs, t) => r' = ⟨t, false⟩ ∧ f' = ⟨f.pol, f.fai, qs⟩
theorem sr_post (z p m : Nat) (v : Value) (r : Rd) (f : Fd) (w : World) (h : SrAt w z r) (hf : FdAt w p m v f) (hb : r.bad = false) (hn : f.ps.length < 200) (hz : z ≠ p ∧ z ≠ m ∧ v.ownBlock ≠ some z) :
 Calls Tryz.prog 229 #[.pointer (some ⟨z, 0, none⟩), .pointer (some ⟨p, 0, none⟩)] w fun e w' => e = .returned (.tuple #[]) ∧ SrP w w' z p m v r f := by
 obtain ⟨hzp, hzm, hzv⟩ := hz
 have HZV := Hd hzv
 have hl := h.2
 have hzw := h.1.lt
 obtain ⟨r1, h1⟩ : ∃ q, r.text.2 = q := ⟨_, rfl⟩
 obtain ⟨r2, h2⟩ : ∃ q, r1.text.2 = q := ⟨_, rfl⟩
 obtain ⟨r3, h3⟩ : ∃ q, r2.text.2 = q := ⟨_, rfl⟩
 obtain ⟨r4, h4⟩ : ∃ q, r3.bool.2 = q := ⟨_, rfl⟩
 have hl1 : r1.s.length ≤ 1000000000000 := h1 ▸ text_len hl
 have hl2 : r2.s.length ≤ 1000000000000 := h2 ▸ text_len hl1
 have hl3 : r3.s.length ≤ 1000000000000 := h3 ▸ text_len hl2
 have HCH := Hd (po_chain r r1 r2 r3 r4 f.ps hb h1.symm h2.symm h3.symm h4.symm)
 have HL : Hid (It.Len ⟨r.text.1, r1.text.1, r2.text.1⟩) := Hd ⟨Rd.len_text hl, Rd.len_text hl1, Rd.len_text hl2⟩
 have C1 := Hd (sr_read_text z r w h)
 rw [h1] at C1
 have C2 := Hd (fun w' hh => sr_read_text z r1 w' hh)
 have C3 := Hd (fun w' hh => sr_read_text z r2 w' hh)
 have C4 := Hd (fun w' hh => sr_read_bool z r3 w' hh)
 rw [h2] at C2
 rw [h3] at C3
 rw [h4] at C4
 obtain ⟨a, ha⟩ : ∃ q, r.text.1 = q := ⟨_, rfl⟩
 obtain ⟨b, hb'⟩ : ∃ q, r1.text.1 = q := ⟨_, rfl⟩
 obtain ⟨c, hc⟩ : ∃ q, r2.text.1 = q := ⟨_, rfl⟩
 obtain ⟨d, hd⟩ : ∃ q, r3.bool.1 = q := ⟨_, rfl⟩
 rw [ha] at C1 HCH HL
 rw [hb'] at C2 HCH HL
 rw [hc] at C3 HCH HL
 rw [hd] at C4 HCH
 have HF := Hd hf
 clear h hf h1 h2 h3 h4 ha hb' hc hd
 go_enter Tryz.func229, Tryz.ntmps229
 go_wp2_with fail
 refine C1.out.mono ?_
 rintro e w1 ⟨rfl, hA, ho⟩
 have HA1 := Hd hA
 have HO1 := Hd ho
 clear hA ho C1
 go_wp2_with fail
 refine (C2.out w1 HA1.out).mono ?_
 rintro e w2 ⟨rfl, hA, ho⟩
 have HA2 := Hd hA
 have HO2 := Hd (HO1.out.tr ho)
 clear hA ho C2 HA1 HO1
 go_wp2_with fail
 refine (C3.out w2 HA2.out).mono ?_
 rintro e w3 ⟨rfl, hA, ho⟩
 have HA3 := Hd hA
 have HO3 := Hd (HO2.out.tr ho)
 clear hA ho C3 HA2 HO2
 obtain ⟨w4, hw4⟩ : ∃ w4, w3.alloc (.cells #[.string ⟨a.toArray⟩, .string ⟨b.toArray⟩, .string ⟨c.toArray⟩] 99) = w4 := ⟨_, rfl⟩
 obtain ⟨y, hy⟩ : ∃ z, w3.heap.size = z := ⟨_, rfl⟩
 have o4 : Only [] w3 w4 := hw4 ▸ oz.alloc _
 have hC4 : Cells w4 y 99 [.string ⟨a.toArray⟩, .string ⟨b.toArray⟩, .string ⟨c.toArray⟩] := hw4 ▸ hy ▸ Cells.new w3 _ _
 have HA4 := Hd (HA3.out.only o4 (by simp))
 have HO4 := Hd (HO3.out.tr0 o4)
 have HC4 := Hd hC4
 have hyz : y ≠ z := by have := HA3.out.lt; omega
 clear o4 hC4 HA3 HO3
 go_wp2_with fail
 clear hw4 hy
 refine (C4.out w4 HA4.out).mono ?_
 rintro e w5 ⟨rfl, hA, ho⟩
 have HC5 := Hd (HC4.out.only ho (by simpa using hyz))
 have HA5 := Hd hA
 have HO5 := Hd (HO4.out.tr ho)
 have HF5 : Hid (FdAt w5 p m v f) := Hd (HF.out.only (HO4.out.tr ho) (by simpa using fun e => hzp e.symm) (by simpa using fun e => hzm e.symm) (fun g hg hm => by simp at hm; subst hm; exact HZV.out hg))
 have s1 := hA.1.cell (k := 1) rfl
 have y0 := HC5.out.cell (k := 0) rfl
 have y1 := HC5.out.cell (k := 1) rfl
 have y2 := HC5.out.cell (k := 2) rfl
 clear hA ho C4 HA4 HO4 HC4
 obtain ⟨s4, b4⟩ := r4
 dsimp only at s1 HCH
 cases b4 with
 | true =>
  have hz1 := HA5.out.1.frozen 1
  have hzl := HA5.out.lt
  have hR : Hid (rdPo f.ps r.s = none) := Hd HCH.out
  have HFIN : Hid (SrP w (w5.setCell ⟨z, 1, none⟩ (.bool true)) z p m v r f) := Hd (by
   have o : Only [z] w5 (w5.setCell ⟨z, 1, none⟩ (.bool true)) := oz.setCell (.inl (by simp)) _
   refine ⟨⟨s4, true⟩, f, v, ⟨HA5.out.1.set 1 _, HA5.out.2⟩, HF5.out.only o (by simpa using fun e => hzp e.symm) (by simpa using fun e => hzm e.symm) (fun g hg hm => by simp at hm; subst hm; exact HZV.out hg), (HO5.out.tr o).mono (by simp), NewOf.refl _ _, ?_⟩
   rw [hR.out])
  go_wp2_with fail
  refine bodyPost_ret (results_none rfl _ _ _) rfl ?_
  exact ⟨rfl, HFIN.out⟩
 | false =>
 have CR := Hd (feed_right ⟨a, b, c⟩ HL.out w5)
 obtain ⟨q, hq⟩ : ∃ q, itR ⟨a, b, c⟩ = q := ⟨_, rfl⟩
 rw [hq] at CR HCH
 clear hq
 go_wp2_with fail
 refine CR.out.mono ?_
 rintro e w6 ⟨rfl, ho6⟩
 have HC6 := HC5.out.only ho6 (by simp)
 have HA6 := Hd (HA5.out.only ho6 (by simp))
 have HO6 := Hd (HO5.out.tr0 ho6)
 have HF6 := Hd (HF5.out.only ho6 (by simp) (by simp) (by simp))
 have y0 := HC6.cell (k := 0) rfl
 have y1 := HC6.cell (k := 1) rfl
 have y2 := HC6.cell (k := 2) rfl
 have t1 := HA6.out.1.cell (k := 1) rfl
 have hz1 := HA6.out.1.frozen 1
 have hzl := HA6.out.lt
 have HCC6 := Hd HC6
 clear HC5 HA5 HO5 HF5 s1 ho6 CR HC6
 have HBAD : Hid (rdPo f.ps r.s = none → ∀ (w7 : World) (v' : Value), SrAt w7 z ⟨s4, true⟩ → FdAt w7 p m v' f → Only ([z, p, m] ++ rb v) w w7 → NewOf w v v' → SrP w w7 z p m v r f) := Hd (fun hR w7 v' a b c d => ⟨⟨s4, true⟩, f, v', a, b, c, d, by rw [hR]⟩)
 have oz : ∀ (w' : World), Only [z] w' (w'.setCell ⟨z, 1, none⟩ (.bool true)) := fun w' => oz.setCell (.inl (by simp)) _
 have hpz : p ∉ [z] := by simpa using fun e => hzp e.symm
 have hmz : m ∉ [z] := by simpa using fun e => hzm e.symm
 cases q with
 | false =>
  have hR : rdPo f.ps r.s = none := by rw [HCH.out]; simp
  have HFIN := Hd (HBAD.out hR (w6.setCell ⟨z, 1, none⟩ (.bool true)) v ⟨HA6.out.1.set 1 _, HA6.out.2⟩ (HF6.out.only (oz _) hpz hmz (fun g hg hm => by simp at hm; subst hm; exact HZV.out hg)) ((HO6.out.tr (oz _)).mono (by simp)) (NewOf.refl _ _))
  clear y0 y1 y2 HBAD hR oz
  go_wp2_with fail
  refine bodyPost_ret (results_none rfl _ _ _) rfl ?_
  exact ⟨rfl, HFIN.out⟩
 | true =>
 have CA := Hd (source_add p m v f ⟨a, b, c⟩ HL.out w6 HF6.out)
 have hab : addB f ⟨a, b, c⟩ = (idx f.ps a).isNone := by
  unfold addB
  rw [show (f.ps.length == 200) = false from by simp; omega]
  simp
 obtain ⟨ab, hab2⟩ : ∃ q, addB f ⟨a, b, c⟩ = q := ⟨_, rfl⟩
 rw [hab2] at CA
 clear oz
 go_wp2_with fail
 refine CA.out.mono ?_
 rintro e w7 ⟨v', rfl, hf7, ho7, hn7⟩
 have hps : addF f ⟨a, b, c⟩ = if ab = true then ⟨f.pol, f.fai, f.ps ++ [⟨(f.ps.length : Int) + 1, ⟨a, b, c⟩, false⟩]⟩ else f := by
  unfold addF
  rw [hab2]
 have hzv' : z ∉ [p, m] ++ rb v := by
  simp only [List.cons_append, List.nil_append, List.mem_cons, not_or]
  exact ⟨hzp, hzm, fun hm => HZV.out (by simpa [rb] using hm)⟩
 have HA7 := Hd (HA6.out.only ho7 hzv')
 have HO7 : Hid (Only ([z, p, m] ++ rb v) w w7) := Hd ((HO6.out.mono (by simp)).tr (ho7.mono (by intro k hk; simp at hk ⊢; grind)))
 have HN7 := Hd hn7
 have hzv7 : v'.ownBlock ≠ some z := fun e => (hn7 z e).elim HZV.out (fun hh => by have := HA6.out.1.lt; omega)
 have t1 := HA7.out.1.cell (k := 1) rfl
 have hz1 := HA7.out.1.frozen 1
 have hzl := HA7.out.lt
 have oz : ∀ (w' : World), Only [z] w' (w'.setCell ⟨z, 1, none⟩ (.bool true)) := fun w' => oz.setCell (.inl (by simp)) _
 cases ab with
 | false =>
  have hR : rdPo f.ps r.s = none := by
   rw [HCH.out, if_neg (by simp), if_neg]
   rintro ⟨_, hi⟩
   rw [hi] at hab
   rw [hab2] at hab
   cases hab
  have hf7' : FdAt w7 p m v' f := by rw [hps] at hf7; exact hf7
  have HF7 := Hd hf7'
  have HN : Hid (NewOf w v v') := Hd (fun g hg => (HN7.out g hg).elim .inl (fun hh => .inr (Nat.le_trans HO6.out.size hh)))
  have HFIN := Hd (HBAD.out hR (w7.setCell ⟨z, 1, none⟩ (.bool true)) v' ⟨HA7.out.1.set 1 _, HA7.out.2⟩ (HF7.out.only (oz _) hpz hmz (fun g hg hm => by simp at hm; subst hm; exact hzv7 hg)) (HO7.out.tr ((oz _).mono (by simp))) HN.out)
  clear y0 y1 y2 HBAD hR oz hf7 hf7' ho7 hn7 hps hab hab2
  go_wp2_with fail
  refine bodyPost_ret (results_none rfl _ _ _) rfl ?_
  exact ⟨rfl, HFIN.out⟩
 | true =>
 have hR : rdPo f.ps r.s = some (f.ps ++ [⟨(f.ps.length : Int) + 1, ⟨a, b, c⟩, d⟩], s4) := by
  rw [HCH.out, if_neg (by simp), if_pos]
  refine ⟨by trivial, ?_⟩
  rw [hab2] at hab
  exact Option.isNone_iff_eq_none.1 hab.symm
 have hf7' : FdAt w7 p m v' ⟨f.pol, f.fai, f.ps ++ [⟨(f.ps.length : Int) + 1, ⟨a, b, c⟩, false⟩]⟩ := by rw [hps] at hf7; exact hf7
 have HR := Hd hR
 clear hR hps hf7 hab hab2 HBAD HCH oz t1 hz1
 have HN : Hid (NewOf w v v') := Hd (fun g hg => (HN7.out g hg).elim .inl (fun hh => .inr (Nat.le_trans HO6.out.size hh)))
 clear CA y0 y1 y2 HCC6 ho7 hn7 hzv' hzv7
 have hlen : (f.ps ++ [(⟨(f.ps.length : Int) + 1, ⟨a, b, c⟩, false⟩ : Po)]).length = f.ps.length + 1 := by simp
 have hrow7 := hf7'.row
 have hat7 : (poL (f.ps ++ [⟨(f.ps.length : Int) + 1, ⟨a, b, c⟩, false⟩]))[f.ps.length * 5 + 4]? = some (.bool false) := by
  unfold poL
  rw [flat_get Po.cells 5 (fun _ => rfl) _ f.ps.length 4 ⟨(f.ps.length : Int) + 1, ⟨a, b, c⟩, false⟩ (by simp) (by omega)]
  rfl
 obtain ⟨g, cc, rfl, hgl, _, q4⟩ := own_cell hrow7 hat7
 have c2 := hf7'.cells.cell (k := 2) rfl
 have hplt := hf7'.cells.lt
 dsimp only at c2 hrow7
 rw [hlen] at c2 hrow7
 have HF7 := Hd hf7'
 have HROW7 := Hd hrow7
 have hgp : g ≠ p := fun e => hf7'.vp (by rw [e]; rfl)
 have hgm : g ≠ m := fun e => hf7'.vm (by rw [e]; rfl)
 have hgz : g ≠ z := fun e => (HN.out g rfl).elim (fun hh => HZV.out (e ▸ hh)) (fun hh => by omega)
 clear hf7' hrow7
 obtain ⟨n, hn'⟩ : ∃ n, f.ps.length = n := ⟨_, rfl⟩
 rw [hn'] at c2 hn q4
 have u2 := fun u : Since w7 => u.cell c2
 have hi0 : IntKind.i64.wrap (((n + 1 : Nat) : Int) - 1) = (n : Int) := by rw [IntKind.wrap_i64]; omega
 have hi1 : (n : Int) < ((n + 1 : Nat) : Int) := by omega
 have hi2 : (0 : Int) ≤ (n : Int) := by omega
 go_upto_region 4 with fail
 refine wp_region_only_tail w7 oz 13 (by kernel_rfl) (by kernel_rfl) ?_
 simp only [tk1, tk0, dr1, dr0]
 repeat (go_big_quiet_step (fail))
 refine wpQuiet_nil ?_
 rintro ⟨w8, ho8⟩
 dsimp only
 have hrow8 := own_keep HROW7.out ho8 (by simp)
 have z4 : w8.frozen? ⟨g, n * 5 + 4, none⟩ = false := hrow8.frozenAt _
 have q5 := (ho8.cell (p := ⟨g, n * 5 + 4, none⟩) (World.block_lt_of_cell? w7 _ q4) (by simp)).trans q4
 have hg8 : g < w8.heap.size := World.block_lt_of_cell? w8 _ q5
 have HFIN : Hid (SrP w (w8.setCell ⟨g, n * 5 + 4, none⟩ (.bool d)) z p m v r f) := Hd (by
  subst hn'
  have o9 : Only [g] w8 (w8.setCell ⟨g, f.ps.length * 5 + 4, none⟩ (.bool d)) := oz.setCell (.inl (by simp)) _
  have hF8 := HF7.out.only ho8 (by simp) (by simp) (by simp)
  have hr9 := row_read (x := ⟨(f.ps.length : Int) + 1, ⟨a, b, c⟩, false⟩) hrow8 d
  have hl2 : (f.ps ++ [(⟨(f.ps.length : Int) + 1, ⟨a, b, c⟩, d⟩ : Po)]).length = f.ps.length + 1 := by simp
  refine ⟨⟨s4, false⟩, ⟨f.pol, f.fai, f.ps ++ [⟨(f.ps.length : Int) + 1, ⟨a, b, c⟩, d⟩]⟩, .slice (some ⟨g, 0, none⟩) (f.ps.length + 1) cc, (HA7.out.only (ho8.of0.tr o9) (by simpa using fun e => hgz e.symm)), ⟨?_, ?_, ?_, ?_, ?_⟩, ?_, HN.out, ?_⟩
  · have := hF8.cells.only o9 (by simpa using fun e => hgp e.symm)
    dsimp only at this ⊢
    rw [hlen] at this
    exact this
  · show World.ownsRow _ _ _ _ _ (f.ps ++ [(⟨(f.ps.length : Int) + 1, ⟨a, b, c⟩, d⟩ : Po)]).length _
    rw [hl2]
    exact hr9
  · show MapF _ m (f.ps ++ [(⟨(f.ps.length : Int) + 1, ⟨a, b, c⟩, d⟩ : Po)]).length (atF (f.ps ++ [(⟨(f.ps.length : Int) + 1, ⟨a, b, c⟩, d⟩ : Po)]))
    have hm := hF8.map.only o9 (by simpa using fun e => hgm e.symm)
    rw [hl2]
    rw [hlen] at hm
    rw [show atF (f.ps ++ [(⟨(f.ps.length : Int) + 1, ⟨a, b, c⟩, d⟩ : Po)]) = atF (f.ps ++ [(⟨(f.ps.length : Int) + 1, ⟨a, b, c⟩, false⟩ : Po)]) from by funext k; unfold atF idx; rw [List.findIdx?_append, List.findIdx?_append]; rfl]
    exact hm
  · have := hF8.cap; simpa using this
  · exact hF8.nb
  · by_cases hv : v.ownBlock = some g
    · exact (HO7.out.tr0 ho8).tr (o9.mono (by intro k hk; simp at hk; subst hk; simp [rb, hv]))
    · have hgw : w.heap.size ≤ g := (HN.out g rfl).elim (fun h => absurd h hv) id
      exact (HO7.out.tr0 ho8).trans o9 (fun x hx => by simp at hx; subst hx; exact .inr hgw)
  · rw [HR.out]; exact ⟨rfl, rfl⟩)
 go_wp2_with fail
 go_end0
 exact ⟨rfl, HFIN.out⟩
theorem num_ok {r : Rd} {lo hi : Int} (h : (r.num lo hi).bad = false) : r.bad = false ∧ lo ≤ r.int.1 ∧ r.int.1 ≤ hi := by
 unfold Rd.num at h
 simp only [Bool.or_eq_false_iff, decide_eq_false_iff_not] at h
 obtain ⟨⟨h1, h2⟩, h3⟩ := h
 refine ⟨?_, by omega, by omega⟩
 cases hb : r.bad with
 | false => rfl
 | true =>
  have : r.int.2.bad = true := get_bad hb
  rw [this] at h1
  cases h1
def SrS (w w' : World) (z : Nat) (r : Rd) (e : Ending) : Prop := ∃ r' nm p, e = .returned (.tuple #[.string ⟨nm.toArray⟩, .pointer (some ⟨p, 0, none⟩)]) ∧ SrAt w' z r' ∧ Only [z] w w' ∧ nm.length ≤ maxLen ∧ match rdFd r.s with
 | none => r'.bad = true
 | some (x, t) => r' = ⟨t, false⟩ ∧ nm = x.1 ∧ nmL nm = true ∧ ∃ m v, FdAt w' p m v x.2 ∧ ∀ g ∈ [p, m] ++ rb v, w.heap.size ≤ g
theorem sr_source (z : Nat) (r : Rd) (w : World) (h : SrAt w z r) (hb : r.bad = false) :
 Calls Tryz.prog 185 #[.pointer (some ⟨z, 0, none⟩)] w fun e w' => SrS w w' z r e := by
 have hl := h.2
 have hzw := h.1.lt
 obtain ⟨r1, h1⟩ : ∃ q, r.text.2 = q := ⟨_, rfl⟩
 obtain ⟨r2, h2⟩ : ∃ q, r1.num (-1) 1099511627776 = q := ⟨_, rfl⟩
 obtain ⟨r3, h3⟩ : ∃ q, r2.num 0 1000 = q := ⟨_, rfl⟩
 obtain ⟨r4, h4⟩ : ∃ q, r3.num 0 200 = q := ⟨_, rfl⟩
 have HCH := Hd (hd_chain r r1 r2 r3 r4 hb h1.symm h2.symm h3.symm h4.symm)
 have HOK := Hd (fun nm pol fai n => hdB_ok (r4 := r4) (nm := nm) (pol := pol) (fai := fai) (n := n) hl)
 have HNB : Hid (r4.bad = false → (-1 ≤ r1.int.1 ∧ r1.int.1 ≤ 1099511627776) ∧ (0 ≤ r2.int.1 ∧ r2.int.1 ≤ 1000) ∧ 0 ≤ r3.int.1 ∧ r3.int.1 ≤ 200) := Hd (fun hq => by
  rw [← h4] at hq
  obtain ⟨k3, n3⟩ := num_ok hq
  rw [← h3] at k3
  obtain ⟨k2, n2⟩ := num_ok k3
  rw [← h2] at k2
  exact ⟨(num_ok k2).2, n2, n3⟩)
 have hnl := Rd.len_text hl
 have C1 := Hd (fun w' hh => sr_read_text z r w' hh)
 rw [h1] at C1
 have C2 := Hd (fun w' hh => sr_number z r1 (-1) 1099511627776 w' hh)
 have C3 := Hd (fun w' hh => sr_number z r2 0 1000 w' hh)
 have C4 := Hd (fun w' hh => sr_number z r3 0 200 w' hh)
 rw [h2] at C2
 rw [h3] at C3
 rw [h4] at C4
 obtain ⟨nm, ha⟩ : ∃ q, r.text.1 = q := ⟨_, rfl⟩
 obtain ⟨pol, hb'⟩ : ∃ q, r1.int.1 = q := ⟨_, rfl⟩
 obtain ⟨fai, hc⟩ : ∃ q, r2.int.1 = q := ⟨_, rfl⟩
 obtain ⟨n, hd⟩ : ∃ q, r3.int.1 = q := ⟨_, rfl⟩
 rw [ha] at C1 HCH hnl
 rw [hb'] at C2 HCH HNB
 rw [hc] at C3 HCH HNB
 rw [hd] at C4 HCH HNB
 have HS := Hd h
 have CN := Hd (fun w' => shard_name nm w' (by unfold maxLen at hnl; omega))
 have HF0 := Hd (fun w' => fresh_at w')
 have CF := Hd (fun w' => store_fresh w')
 clear h h1 h2 h3 h4 ha hb' hc hd
 go_enter Tryz.func185, Tryz.ntmps185
 go_wp2_with fail
 refine (CF.out _).mono ?_
 rintro e w1 ⟨rfl, hw1⟩
 obtain ⟨p, hp⟩ : ∃ p, w.heap.size + 1 = p := ⟨_, rfl⟩
 obtain ⟨m, hm⟩ : ∃ m, w.heap.size = m := ⟨_, rfl⟩
 have hf1 := HF0.out w
 rw [← hw1] at hf1
 have ho1 : Only [] w w1 := hw1 ▸ ((Only.refl [] w).alloc _).alloc _
 rw [hp, hm] at hf1
 rw [hp]
 have HA1 := Hd (HS.out.only ho1 (by simp))
 have HO1 := Hd ho1
 have HF1 := Hd hf1
 have hmp : m < p := by omega
 have hzm : z < m := by omega
 have HM := Hd hm
 clear hw1 hf1 ho1 CF HF0 hp hm
 go_wp2_with fail
 refine (C1.out _ HA1.out).mono ?_
 rintro e w2 ⟨rfl, hA, ho⟩
 have HA2 := Hd hA
 have HO2 := Hd (HO1.out.of0.tr ho)
 have HF2 := Hd (HF1.out.only ho (by simp; omega) (by simp; omega) (by simp [Value.ownBlock]))
 clear hA ho C1 HA1 HO1 HF1
 go_wp2_with fail
 refine (C2.out _ HA2.out).mono ?_
 rintro e w3 ⟨rfl, hA, ho⟩
 have HA3 := Hd hA
 have HO3 := Hd (HO2.out.tr ho)
 have HF3 := Hd (HF2.out.only ho (by simp; omega) (by simp; omega) (by simp [Value.ownBlock]))
 clear hA ho C2 HA2 HO2 HF2
 go_wp2_with fail
 refine (C3.out _ HA3.out).mono ?_
 rintro e w4 ⟨rfl, hA, ho⟩
 have HA4 := Hd hA
 have HO4 := Hd (HO3.out.tr ho)
 have hF4 := HF3.out.only ho (by simp; omega) (by simp; omega) (by simp [Value.ownBlock])
 have hplt := hF4.cells.lt
 have p0 := hF4.cells.cell (k := 0) rfl
 have p1 := hF4.cells.cell (k := 1) rfl
 have pz0 := hF4.cells.frozen 0
 have pz1 := hF4.cells.frozen 1
 have HF4 := Hd hF4
 clear hA ho C3 HA3 HO3 HF3 hF4
 go_upto_region 3 with fail
 obtain ⟨w5, hw5⟩ : ∃ u, (w4.setCell ⟨p, 0, none⟩ (.int .i64 pol)).setCell ⟨p, 1, none⟩ (.int .i64 fai) = u := ⟨_, rfl⟩
 have o5 : Only [p] w4 w5 := hw5 ▸ (oz.setCell (.inl (by simp)) _).setCell (.inl (by simp)) _
 have hwp : w.heap.size ≤ p := by have := HM.out; omega
 have hc5 : Cells w5 p 196 [.int .i64 pol, .int .i64 fai, .slice none 0 0, .map (some m)] := hw5 ▸ (HF4.out.cells.set 0 (.int .i64 pol)).set 1 (.int .i64 fai)
 have hm5 : MapF w5 m 0 (atF []) := HF4.out.map.only o5 (by simp; omega)
 have hr5 : w5.ownsRow 0 101 5 (.slice none 0 0) 0 (poL []) := own_keep HF4.out.row o5 (by simp [Value.ownBlock])
 have HA5 := Hd (HA4.out.only o5 (by simp; omega))
 have HO5 := Hd (HO4.out.trans o5 (fun x hx => by simp at hx; subst hx; exact .inr hwp))
 have HC5 := Hd hc5
 have HM5 := Hd hm5
 have HR5 := Hd hr5
 rw [hw5]
 clear hw5 o5 hc5 hm5 hr5 HF4 HA4 HO4 p0 p1 pz0 pz1 hplt
 go_wp2_with fail
 refine (C4.out _ HA5.out).mono ?_
 rintro e w6 ⟨rfl, hA, ho⟩
 have HA6 := Hd hA
 have HO6 := Hd (HO5.out.tr ho)
 have HC6 := Hd (HC5.out.only ho (by simp; omega))
 have HF6 : Hid (-1 ≤ pol ∧ pol ≤ 1099511627776 ∧ 0 ≤ fai ∧ fai ≤ 1000 → FdAt w6 p m (.slice none 0 0) ⟨pol, fai, []⟩) := Hd (fun hnb => ⟨HC6.out, own_keep HR5.out ho (by simp [Value.ownBlock]), HM5.out.only ho (by simp; omega), by simp, hnb⟩)
 have p0 := HC6.out.cell (k := 0) rfl
 have p1 := HC6.out.cell (k := 1) rfl
 have s1 := hA.1.cell (k := 1) rfl
 have sz1 := hA.1.frozen 1
 have hzl := hA.1.lt
 clear hA ho C4 HA5 HO5 HC5 HM5 HR5
 obtain ⟨s4, b4⟩ := r4
 dsimp only at s1
 obtain ⟨q, hq⟩ : ∃ q, hdB ⟨s4, b4⟩ nm pol fai n = q := ⟨_, rfl⟩
 have HQ := Hd hq
 clear hq
 go_upto_region 4 with fail
 go_cut [] from 22 (fun wx => wx = w6.setCell ⟨z, 1, none⟩ (.bool q))
 case first =>
  cases b4 with
  | true =>
   have e : Hid (true = q) := Hd (by rw [← HQ.out]; unfold hdB; simp)
   go_wp2_with fail
   go_meet
   rw [← e.out]
  | false =>
  obtain ⟨⟨n0, n1⟩, ⟨n2, n3⟩, n4, n5⟩ := HNB.out rfl
  go_wp2_with fail
  refine (CN.out _).mono ?_
  rintro e w7 ⟨rfl, rfl⟩
  obtain ⟨ok, hok⟩ : ∃ b, nmL nm = b := ⟨_, rfl⟩
  rw [hok]
  cases ok with
  | false =>
   have e : Hid (true = q) := Hd (by rw [← HQ.out]; unfold hdB; simp [hok])
   go_wp2_with fail
   go_meet
   rw [← e.out]
  | true =>
  obtain ⟨pm, hpm⟩ : ∃ b, (pol == -1) = b := ⟨_, rfl⟩
  have hok : Hid (nmL nm = true) := Hd hok
  cases pm with
  | false =>
   have e : Hid (false = q) := Hd (by rw [← HQ.out]; unfold hdB; simp [hok.out, hpm])
   go_wp2_with fail
   go_meet
   rw [← e.out]
  | true =>
  have e : Hid (decide (0 < fai + n) = q) := Hd (by rw [← HQ.out]; unfold hdB; simp [hok.out, hpm])
  have hw : IntKind.i64.wrap (fai + n) = fai + n := by rw [IntKind.wrap_i64]; omega
  generalize hd : decide (0 < fai + n) = d at e
  go_wp2_with fail
  go_meet
  rw [← e.out]
 case rest =>
 subst hcut
 have HO7 : Hid (Only [z] w (w6.setCell ⟨z, 1, none⟩ (.bool q))) := Hd (HO6.out.setCell (.inl (by simp)) _)
 have o67 : Only [z] w6 (w6.setCell ⟨z, 1, none⟩ (.bool q)) := oz.setCell (.inl (by simp)) _
 have HA7 : Hid (SrAt (w6.setCell ⟨z, 1, none⟩ (.bool q)) z ⟨s4, q⟩) := Hd ⟨HA6.out.1.set 1 _, HA6.out.2⟩
 obtain ⟨w7, hw7⟩ : ∃ u, w6.setCell ⟨z, 1, none⟩ (.bool q) = u := ⟨_, rfl⟩
 rw [hw7] at HO7 o67 HA7 ⊢
 have HF7 : Hid (-1 ≤ pol ∧ pol ≤ 1099511627776 ∧ 0 ≤ fai ∧ fai ≤ 1000 → FdAt w7 p m (.slice none 0 0) ⟨pol, fai, []⟩) := Hd (fun hnb => (HF6.out hnb).only o67 (by simp; omega) (by simp; omega) (by simp [Value.ownBlock]))
 clear hw7 o67 HA6 HF6 HC6 HO6 p0 p1 s1 sz1 hzl CN
 cases q with
 | true =>
  have hR : rdFd r.s = none := by
   have := HCH.out
   rw [HQ.out, if_pos rfl] at this
   unfold rdFd
   rw [this]
  have HFIN : Hid (SrS w w7 z r (.returned (.tuple #[.string ⟨nm.toArray⟩, .pointer (some ⟨p, 0, none⟩)]))) := Hd ⟨⟨s4, true⟩, nm, p, rfl, HA7.out, HO7.out, hnl, by rw [hR]⟩
  have s1 := HA7.out.1.cell (k := 1) rfl
  dsimp only at s1
  clear hR HO7
  go_wp2_with fail
  go_loopw [51] (fun i wr => i = .int .i64 0 ∧ w7 = wr) (fun _ _ => 0)
  case atStart => exact ⟨rfl, rfl⟩
  case round =>
   obtain ⟨rfl, rfl⟩ := hrel
   go_wp2_with fail
   all_goals
    go_ret2
    exact HFIN.out
 | false =>
 obtain ⟨hnm, b0⟩ : nmL nm = true ∧ b4 = false := by
  have := HQ.out
  unfold hdB at this
  simp only [Bool.or_eq_false_iff, Bool.not_eq_false'] at this
  exact ⟨this.1.2, this.1.1⟩
 obtain ⟨⟨n0, n1⟩, ⟨n2, n3⟩, n4, n5⟩ := HNB.out b0
 have hH : rdHd r.s = some ((nm, pol, fai, n), s4) := by
  have := HCH.out
  rw [HQ.out] at this
  exact this
 obtain ⟨N, hN⟩ : ∃ N : Nat, n.toNat = N := ⟨_, rfl⟩
 have hn : n = (N : Int) := by omega
 have hN2 : N ≤ 200 := by omega
 have HR : Hid (rdFd r.s = match rdPs N [] s4 with | none => none | some (ps, u) => some ((nm, ⟨pol, fai, ps⟩), u)) := Hd (by unfold rdFd; rw [hH]; dsimp only; rw [hN]; all_goals (cases rdPs N [] s4 with | none => rfl | some x => (cases x; rfl)))
 have hF7 := HF7.out ⟨n0, n1, n2, n3⟩
 have HFF := Hd hF7
 have HNM := Hd hnm
 subst hn
 have hzpm : z ≠ p ∧ z ≠ m := ⟨by omega, by omega⟩
 have HW := HM.out
 clear hF7 hH hnm b0 HNB HOK HCH HQ HF7 hN hb
 go_wp2_with fail
 go_loopw [51] (fun i wr => ∃ (k : Nat) (r' : Rd) (v : Value) (f : Fd), k ≤ N ∧ i = .int .i64 k ∧ Hid (SrAt wr z r') ∧ Hid (Only [z] w wr) ∧ Hid (FdAt wr p m v f) ∧ Hid (∀ g ∈ rb v, w.heap.size ≤ g) ∧ (r'.bad = true ∧ Hid (rdPs N [] s4 = none) ∨ r'.bad = false ∧ f.ps.length = k ∧ f.pol = pol ∧ f.fai = fai ∧ Hid (rdPs N [] s4 = rdPs (N - k) f.ps r'.s))) (fun i _ => N - (intOf i).toNat)
 case atStart => exact ⟨0, ⟨s4, false⟩, _, _, by omega, rfl, HA7, HO7, HFF, Hd (by simp [rb, Value.ownBlock]), .inr ⟨rfl, rfl, rfl, rfl, Hd rfl⟩⟩
 case round =>
  obtain ⟨k, ⟨t, bad⟩, v, f, hk, rfl, HA, HO, HF, HV, hcase⟩ := hrel
  by_cases hlt : k < N
  · have hlt' : (k : Int) < (N : Int) := by omega
    have s1 := HA.out.1.cell (k := 1) rfl
    dsimp only at s1 hcase
    rcases hcase with ⟨rfl, HN⟩ | ⟨rfl, hkl, hpo, hfa, HN⟩
    · have HFIN : Hid (SrS w wr z r (.returned (.tuple #[.string ⟨nm.toArray⟩, .pointer (some ⟨p, 0, none⟩)]))) := Hd ⟨⟨t, true⟩, nm, p, rfl, HA.out, HO.out, hnl, by rw [HR.out, HN.out]⟩
      clear HR HN
      go_wp2_with fail
      go_ret2
      exact HFIN.out
    · have CP := Hd (sr_post z p m v ⟨t, false⟩ f wr HA.out HF.out rfl (by omega) ⟨hzpm.1, hzpm.2, fun e => by have := HV.out z (by simp [rb, e]); omega⟩)
      go_wp2_with fail
      refine CP.out.mono ?_
      rintro e w8 ⟨rfl, r', f', v', hA, hf, ho, hnw, hm⟩
      have hv' : ∀ g ∈ rb v', w.heap.size ≤ g := by
       intro g hg
       simp only [rb, Option.mem_toList] at hg
       rcases hnw g hg with h1 | h1
       · exact HV.out g (by simp [rb, h1])
       · exact Nat.le_trans HO.out.size h1
      have hOo : Only [z] w w8 := HO.out.trans ho (by
       intro x hx
       simp only [List.cons_append, List.nil_append, List.mem_cons] at hx ⊢
       rcases hx with rfl | rfl | rfl | hx
       · exact .inl (.inl rfl)
       · exact .inr (by omega)
       · exact .inr (by omega)
       · exact .inr (HV.out x hx))
      have hnext : rdPs N [] s4 = match rdPo f.ps t with | none => none | some (qs, u) => rdPs (N - (k + 1)) qs u := by
       rw [HN.out, show N - k = (N - (k + 1)) + 1 from by omega]
       rfl
      have hrel' : Hid (r'.bad = true ∧ Hid (rdPs N [] s4 = none) ∨ r'.bad = false ∧ f'.ps.length = k + 1 ∧ f'.pol = pol ∧ f'.fai = fai ∧ Hid (rdPs N [] s4 = rdPs (N - (k + 1)) f'.ps r'.s)) := Hd (by
       dsimp only at hm
       cases hp : rdPo f.ps t with
       | none =>
        rw [hp] at hm hnext
        exact .inl ⟨hm, Hd hnext⟩
       | some x =>
        obtain ⟨qs, u⟩ := x
        rw [hp] at hm hnext
        obtain ⟨rfl, rfl⟩ := hm
        exact .inr ⟨rfl, by have := (rdPo_len hp).2; dsimp only; omega, hpo, hfa, Hd hnext⟩)
      have HA8 := Hd hA
      have HF8 := Hd hf
      have HO8 := Hd hOo
      have HV8 := Hd hv'
      have hw : IntKind.i64.wrap ((k : Int) + 1) = ((k + 1 : Nat) : Int) := by rw [IntKind.wrap_i64]; omega
      clear hA hf ho hnw hm hv' hOo hnext CP HN hpo hfa
      go_wp2_with fail
      go_roundw
      case rel => exact ⟨k + 1, r', v', f', by omega, rfl, HA8, HO8, HF8, HV8, hrel'.out⟩
      case measure => simp [intOf]; omega
  · have hlt' : ¬ (k : Int) < (N : Int) := by omega
    have hkN : k = N := by omega
    have HFIN : Hid (SrS w wr z r (.returned (.tuple #[.string ⟨nm.toArray⟩, .pointer (some ⟨p, 0, none⟩)]))) := Hd (by
     refine ⟨⟨t, bad⟩, nm, p, rfl, HA.out, HO.out, hnl, ?_⟩
     rcases hcase with ⟨hb, HN⟩ | ⟨hb, hkl, hpo, hfa, HN⟩
     · rw [HR.out, HN.out]; exact hb
     · rw [HR.out, HN.out, hkN, Nat.sub_self]
       refine ⟨by dsimp only at hb; rw [hb], rfl, HNM.out, m, v, ?_, ?_⟩
       · have : (⟨pol, fai, f.ps⟩ : Fd) = f := by rw [← hpo, ← hfa]
         rw [this]; exact HF.out
       · intro g hg
         simp only [List.cons_append, List.nil_append, List.mem_cons] at hg
         rcases hg with rfl | rfl | hg
         · omega
         · omega
         · exact HV.out g hg)
    clear hcase HR HNM HA HF
    go_wp2_with fail
    go_ret2
    exact HFIN.out
theorem hd_int (r r1 r2 r3 r4 : Rd) (hb : r.bad = false) (h1 : r1 = r.text.2) (h2 : r2 = r1.int.2) (h3 : r3 = r2.int.2) (h4 : r4 = r3.int.2) :
 rdHd r.s = if r4.bad = false ∧ okHd r.text.1 r1.int.1 r2.int.1 r3.int.1 = true then some ((r.text.1, r1.int.1, r2.int.1, r3.int.1), r4.s) else none := by
 cases hb4 : r4.bad with
 | false =>
  rw [h4] at hb4
  obtain ⟨k3, e3⟩ := get_in hb4
  rw [h3] at k3
  obtain ⟨k2, e2⟩ := get_in k3
  rw [h2] at k2
  obtain ⟨k1, e1⟩ := get_in k2
  rw [h1] at k1
  obtain ⟨_, e0⟩ := get_in k1
  have e0' : rdT r.s = some (r.text.1, r1.s) := h1 ▸ e0
  have e1' : rdI r1.s = some (r1.int.1, r2.s) := h2 ▸ e1
  have e2' : rdI r2.s = some (r2.int.1, r3.s) := h3 ▸ e2
  have e3' : rdI r3.s = some (r3.int.1, r4.s) := h4 ▸ e3
  unfold rdHd
  rw [e0']; dsimp only
  rw [e1']; dsimp only
  rw [e2']; dsimp only
  rw [e3']; dsimp only
  simp
 | true =>
  rw [if_neg (by simp)]
  cases hx : rdHd r.s with
  | none => rfl
  | some x =>
   exfalso
   unfold rdHd at hx
   obtain ⟨s, b⟩ := r
   dsimp only at hb hx
   subst hb
   split at hx
   · cases hx
   · rename_i nm s1 g1
     have f1 : Rd.text ⟨s, false⟩ = (nm, ⟨s1, false⟩) := get_out g1
     rw [f1] at h1
     subst h1
     split at hx
     · cases hx
     · rename_i p s2 g2
       have f2 : Rd.int ⟨s1, false⟩ = (p, ⟨s2, false⟩) := get_out g2
       dsimp only at h2
       rw [f2] at h2
       subst h2
       split at hx
       · cases hx
       · rename_i f s3 g3
         have f3 : Rd.int ⟨s2, false⟩ = (f, ⟨s3, false⟩) := get_out g3
         dsimp only at h3
         rw [f3] at h3
         subst h3
         split at hx
         · cases hx
         · rename_i n s4 g4
           have f4 : Rd.int ⟨s3, false⟩ = (n, ⟨s4, false⟩) := get_out g4
           dsimp only at h4
           rw [f4] at h4
           subst h4
           cases hb4
theorem own_cells {w : World} {base : Nat} {e : TypeId} {sz n : Nat} {v : Value} {xs : List Value} (h : w.ownsRow base e sz v n xs) {g : Nat} (hg : v.ownBlock = some g) : ∃ cs, Cells w g e cs := by
 obtain ⟨_, ⟨rfl, _⟩ | ⟨b, cap, cur, rfl, _, hh, _⟩⟩ := h
 · cases hg
 · injection hg with hg
   subst hg
   exact ⟨cur.toList, hh⟩
def TrF (w w' : World) (z : Nat) (r : Rd) (e : Ending) : Prop := ∃ r' nm pol fai A m c ok, e = .returned (.tuple #[.agg #[.string ⟨nm.toArray⟩, .int .i64 pol, .int .i64 fai, .slice A m c], .bool ok]) ∧ TrAt w' z r' ∧ Only [z] w w' ∧ nm.length ≤ maxLen ∧ match rdFd r.s with
 | none => ok = false
 | some (x, t) => ok = true ∧ r' = ⟨t, false⟩ ∧ nm = x.1 ∧ pol = x.2.pol ∧ fai = x.2.fai ∧ RfS w' (.slice A m c) 5 x.2.ps.length (poL x.2.ps) ∧ ∀ g, (Value.slice A m c).ownBlock = some g → w.heap.size ≤ g ∧ g < w'.heap.size ∧ ∃ cs, Cells w' g 101 cs
theorem tr_feed (z : Nat) (r : Rd) (w : World) (h : TrAt w z r) (hb : r.bad = false) :
 Calls Tryz.prog 224 #[.pointer (some ⟨z, 0, none⟩)] w fun e w' => TrF w w' z r e := by
 have hl := h.2
 have hzw := h.1.lt
 obtain ⟨r1, h1⟩ : ∃ q, r.text.2 = q := ⟨_, rfl⟩
 obtain ⟨r2, h2⟩ : ∃ q, r1.int.2 = q := ⟨_, rfl⟩
 obtain ⟨r3, h3⟩ : ∃ q, r2.int.2 = q := ⟨_, rfl⟩
 obtain ⟨r4, h4⟩ : ∃ q, r3.int.2 = q := ⟨_, rfl⟩
 have HCH := Hd (hd_int r r1 r2 r3 r4 hb h1.symm h2.symm h3.symm h4.symm)
 have hnl := Rd.len_text hl
 have C1 := Hd (fun w' hh => tr_text z r w' hh)
 rw [h1] at C1
 have C2 := Hd (fun w' hh => tr_int z r1 w' hh)
 have C3 := Hd (fun w' hh => tr_int z r2 w' hh)
 have C4 := Hd (fun w' hh => tr_int z r3 w' hh)
 rw [h2] at C2
 rw [h3] at C3
 rw [h4] at C4
 obtain ⟨nm, ha⟩ : ∃ q, r.text.1 = q := ⟨_, rfl⟩
 obtain ⟨pol, hb'⟩ : ∃ q, r1.int.1 = q := ⟨_, rfl⟩
 obtain ⟨fai, hc⟩ : ∃ q, r2.int.1 = q := ⟨_, rfl⟩
 obtain ⟨n, hd⟩ : ∃ q, r3.int.1 = q := ⟨_, rfl⟩
 rw [ha] at C1 HCH hnl
 rw [hb'] at C2 HCH
 rw [hc] at C3 HCH
 rw [hd] at C4 HCH
 have HS := Hd h
 have CN := Hd (fun w' => ref_name14 nm w' (by unfold maxLen at hnl; omega))
 clear h h1 h2 h3 h4 ha hb' hc hd
 go_enter Tryz.func224, Tryz.ntmps224
 go_wp2_with fail
 obtain ⟨w1, hw1⟩ : ∃ u, w.alloc (.cells #[.string ⟨#[]⟩, .int .i64 0, .int .i64 0, .slice none 0 0] 142) = u := ⟨_, rfl⟩
 obtain ⟨R, hR⟩ : ∃ R, w.heap.size = R := ⟨_, rfl⟩
 have o1 : Only [] w w1 := hw1 ▸ oz.alloc _
 have hR1 : Cells w1 R 142 [.string ⟨#[]⟩, .int .i64 0, .int .i64 0, .slice none 0 0] := hw1 ▸ hR ▸ Cells.new w _ _
 rw [hw1, hR]
 have HT1 := Hd (HS.out.only o1 (by simp))
 have HO1 : Hid (Only [z] w w1) := Hd o1.of0
 have HR1 := Hd hR1
 have hzR : z < R := by omega
 have HRW := Hd hR
 clear hw1 hR o1 hR1
 refine (C1.out _ HT1.out).mono ?_
 rintro e w2 ⟨rfl, hA, ho⟩
 have HT2 := Hd hA
 have HO2 := Hd (HO1.out.tr ho)
 have HR2 := Hd (HR1.out.only ho (by simp; omega))
 clear hA ho C1 HT1 HO1 HR1
 go_upto_region 2 with fail
 obtain ⟨w3, hw3⟩ : ∃ u, w2.alloc (.cells #[.string ⟨nm.toArray⟩, .int .i64 0, .int .i64 0, .slice none 0 0] 142) = u := ⟨_, rfl⟩
 obtain ⟨y, hy⟩ : ∃ y, w2.heap.size = y := ⟨_, rfl⟩
 have o3 : Only [] w2 w3 := hw3 ▸ oz.alloc _
 have hY3 : Cells w3 y 142 [.string ⟨nm.toArray⟩, .int .i64 0, .int .i64 0, .slice none 0 0] := hw3 ▸ hy ▸ Cells.new w2 _ _
 rw [hw3, hy]
 have HT3 := Hd (HT2.out.only o3 (by simp))
 have HO3 := Hd (HO2.out.tr0 o3)
 have HR3 := Hd (HR2.out.only o3 (by simp))
 have HY3 := Hd hY3
 have hRy : R < y := by have := HR2.out.lt; omega
 clear hw3 hy o3 hY3 HT2 HO2 HR2
 go_wp2_with fail
 refine (C2.out _ HT3.out).mono ?_
 rintro e w4 ⟨rfl, hA, ho⟩
 have HT4 := Hd hA
 have HO4 := Hd (HO3.out.tr ho)
 have HR4 := Hd (HR3.out.only ho (by simp; omega))
 have HY4 := Hd (HY3.out.only ho (by simp; omega))
 have hyl := HY4.out.lt
 have y1 := HY4.out.cell (k := 1) rfl
 have fz1 := HY4.out.frozen 1
 clear hA ho C2 HT3 HO3 HR3 HY3
 go_upto_region 3 with fail
 obtain ⟨w5, hw5⟩ : ∃ u, w4.setCell ⟨y, 1, none⟩ (.int .i64 pol) = u := ⟨_, rfl⟩
 have hwy : w.heap.size ≤ y := by have := HRW.out; omega
 have o5 : Only [y] w4 w5 := hw5 ▸ oz.setCell (.inl (by simp)) _
 rw [hw5]
 have HT5 := Hd (HT4.out.only o5 (by simp; omega))
 have HO5 := Hd (HO4.out.trans o5 (fun x hx => by simp at hx; subst hx; exact .inr hwy))
 have HR5 := Hd (HR4.out.only o5 (by simp; omega))
 have HY5 : Hid (Cells w5 y 142 [.string ⟨nm.toArray⟩, .int .i64 pol, .int .i64 0, .slice none 0 0]) := Hd (hw5 ▸ HY4.out.set 1 _)
 clear hw5 o5 HT4 HO4 HR4 HY4 y1 fz1 hyl
 go_wp2_with fail
 refine (C3.out _ HT5.out).mono ?_
 rintro e w6 ⟨rfl, hA, ho⟩
 have HT6 := Hd hA
 have HO6 := Hd (HO5.out.tr ho)
 have HR6 := Hd (HR5.out.only ho (by simp; omega))
 have HY6 := Hd (HY5.out.only ho (by simp; omega))
 have hyl := HY6.out.lt
 have y2 := HY6.out.cell (k := 2) rfl
 have fz2 := HY6.out.frozen 2
 clear hA ho C3 HT5 HO5 HR5 HY5
 go_upto_region 4 with fail
 obtain ⟨w7, hw7⟩ : ∃ u, w6.setCell ⟨y, 2, none⟩ (.int .i64 fai) = u := ⟨_, rfl⟩
 have o7 : Only [y] w6 w7 := hw7 ▸ oz.setCell (.inl (by simp)) _
 rw [hw7]
 have HT7 := Hd (HT6.out.only o7 (by simp; omega))
 have HO7 := Hd (HO6.out.trans o7 (fun x hx => by simp at hx; subst hx; exact .inr hwy))
 have HR7 := Hd (HR6.out.only o7 (by simp; omega))
 have HY7 : Hid (Cells w7 y 142 [.string ⟨nm.toArray⟩, .int .i64 pol, .int .i64 fai, .slice none 0 0]) := Hd (hw7 ▸ HY6.out.set 2 _)
 clear hw7 o7 HT6 HO6 HR6 HY6 y2 fz2 hyl
 go_wp2_with fail
 refine (C4.out _ HT7.out).mono ?_
 rintro e w8 ⟨rfl, hA, ho⟩
 have HT8 := Hd hA
 have HO8 := Hd (HO7.out.tr ho)
 have HR8 := Hd (HR7.out.only ho (by simp; omega))
 have HY8 := Hd (HY7.out.only ho (by simp; omega))
 have y0 := HY8.out.cell (k := 0) rfl
 have y1 := HY8.out.cell (k := 1) rfl
 have y2 := HY8.out.cell (k := 2) rfl
 have z1 := hA.1.cell (k := 1) rfl
 clear hA ho C4 HT7 HO7 HR7 HY7
 go_wp2_with fail
 refine (CN.out _).mono ?_
 rintro e w9 ⟨rfl, rfl⟩
 obtain ⟨ok, hok⟩ : ∃ b, nmL nm = b := ⟨_, rfl⟩
 have HNM := Hd hok
 rw [hok]
 clear hok CN
 obtain ⟨s4, b4⟩ := r4
 dsimp only at z1
 obtain ⟨q, hq⟩ : ∃ q, (b4 || !okHd nm pol fai n) = q := ⟨_, rfl⟩
 have HQ := Hd hq
 clear hq
 go_upto_region 6 with fail
 go_cut [79] from 29 (fun v wx => v = .bool q ∧ wx = w8)
 case first =>
  cases b4 with
  | true =>
   have e : Hid (true = q) := Hd (by rw [← HQ.out]; rfl)
   go_wp2_with fail
   go_meet
   exact ⟨by rw [← e.out], rfl⟩
  | false =>
  cases ok with
  | false =>
   have e : Hid (true = q) := Hd (by rw [← HQ.out]; cases hk : okHd nm pol fai n with | false => simp | true => (exfalso; have := (okHd_iff _ _ _ _).1 hk; rw [HNM.out] at this; exact absurd this.1 (by simp)))
   go_wp2_with fail
   go_meet
   exact ⟨by rw [← e.out], rfl⟩
  | true =>
  by_cases t0 : pol < -1
  · have e : Hid (true = q) := Hd (by rw [← HQ.out]; cases hk : okHd nm pol fai n with | false => simp | true => (exfalso; have := (okHd_iff _ _ _ _).1 hk; omega))
    have d0 : decide (pol < -1) = true := decide_eq_true t0
    go_wp2_with fail
    go_meet
    exact ⟨by rw [← e.out], rfl⟩
  have d0 : decide (pol < -1) = false := decide_eq_false t0
  by_cases t1 : 1099511627776 < pol
  · have e : Hid (true = q) := Hd (by rw [← HQ.out]; cases hk : okHd nm pol fai n with | false => simp | true => (exfalso; have := (okHd_iff _ _ _ _).1 hk; omega))
    have d1 : decide (1099511627776 < pol) = true := decide_eq_true t1
    go_wp2_with fail
    go_meet
    exact ⟨by rw [← e.out], rfl⟩
  have d1 : decide (1099511627776 < pol) = false := decide_eq_false t1
  by_cases t2 : fai < 0
  · have e : Hid (true = q) := Hd (by rw [← HQ.out]; cases hk : okHd nm pol fai n with | false => simp | true => (exfalso; have := (okHd_iff _ _ _ _).1 hk; omega))
    have d2 : decide (fai < 0) = true := decide_eq_true t2
    go_wp2_with fail
    go_meet
    exact ⟨by rw [← e.out], rfl⟩
  have d2 : decide (fai < 0) = false := decide_eq_false t2
  by_cases t3 : 1000 < fai
  · have e : Hid (true = q) := Hd (by rw [← HQ.out]; cases hk : okHd nm pol fai n with | false => simp | true => (exfalso; have := (okHd_iff _ _ _ _).1 hk; omega))
    have d3 : decide (1000 < fai) = true := decide_eq_true t3
    go_wp2_with fail
    go_meet
    exact ⟨by rw [← e.out], rfl⟩
  have d3 : decide (1000 < fai) = false := decide_eq_false t3
  by_cases t4 : n < 0
  · have e : Hid (true = q) := Hd (by rw [← HQ.out]; cases hk : okHd nm pol fai n with | false => simp | true => (exfalso; have := (okHd_iff _ _ _ _).1 hk; omega))
    have d4 : decide (n < 0) = true := decide_eq_true t4
    go_wp2_with fail
    go_meet
    exact ⟨by rw [← e.out], rfl⟩
  have d4 : decide (n < 0) = false := decide_eq_false t4
  by_cases t5 : 200 < n
  · have e : Hid (true = q) := Hd (by rw [← HQ.out]; cases hk : okHd nm pol fai n with | false => simp | true => (exfalso; have := (okHd_iff _ _ _ _).1 hk; omega))
    have d5 : decide (200 < n) = true := decide_eq_true t5
    go_wp2_with fail
    go_meet
    exact ⟨by rw [← e.out], rfl⟩
  have d5 : decide (200 < n) = false := decide_eq_false t5
  by_cases t6 : pol < 0
  · have d6 : decide (pol < 0) = true := decide_eq_true t6
    by_cases t7 : 0 < fai
    · have e : Hid (true = q) := Hd (by rw [← HQ.out]; cases hk : okHd nm pol fai n with | false => simp | true => (exfalso; have := (okHd_iff _ _ _ _).1 hk; omega))
      have d7 : decide (0 < fai) = true := decide_eq_true t7
      go_wp2_with fail
      go_meet
      exact ⟨by rw [← e.out], rfl⟩
    · have d7 : decide (0 < fai) = false := decide_eq_false t7
      by_cases t8 : 0 < n
      · have e : Hid (true = q) := Hd (by rw [← HQ.out]; cases hk : okHd nm pol fai n with | false => simp | true => (exfalso; have := (okHd_iff _ _ _ _).1 hk; omega))
        have d8 : decide (0 < n) = true := decide_eq_true t8
        go_wp2_with fail
        go_meet
        exact ⟨by rw [← e.out], rfl⟩
      · have e : Hid (false = q) := Hd (by rw [← HQ.out, (okHd_iff nm pol fai n).2 ⟨HNM.out, by omega, by omega, by omega, by omega, by omega, by omega, by omega⟩]; rfl)
        have d8 : decide (0 < n) = false := decide_eq_false t8
        go_wp2_with fail
        go_meet
        exact ⟨by rw [← e.out], rfl⟩
  · have d6 : decide (pol < 0) = false := decide_eq_false t6
    have e : Hid (false = q) := Hd (by rw [← HQ.out, (okHd_iff nm pol fai n).2 ⟨HNM.out, by omega, by omega, by omega, by omega, by omega, by omega, by omega⟩]; rfl)
    go_wp2_with fail
    go_meet
    exact ⟨by rw [← e.out], rfl⟩
 case rest =>
 obtain ⟨rfl, rfl⟩ := hcut
 have hsetR : ∀ (w' : World) (row : Array Value), Only [R] w' (w'.setRow R row) := fun w' row => oz.setRow (.inl (by simp)) _
 cases q with
 | true =>
  have hR : rdFd r.s = none := by
   have := HCH.out
   rw [if_neg (by
    rintro ⟨k1, k2⟩
    have hq := HQ.out
    replace k1 : b4 = false := k1
    rw [k1, k2] at hq
    cases hq)] at this
   unfold rdFd
   rw [this]
  have HFIN : Hid (∀ row, TrF w (wc.setRow R row) z r (.returned (.tuple #[.agg #[.string ⟨nm.toArray⟩, .int .i64 pol, .int .i64 fai, .slice none 0 0], .bool false]))) := Hd (fun row => ⟨⟨s4, b4⟩, nm, pol, fai, none, 0, 0, false, rfl, HT8.out.only (hsetR _ _) (by simp; omega), HO8.out.trans (hsetR _ _) (fun x hx => by simp at hx; subst hx; exact .inr (by have := HRW.out; omega)), hnl, by rw [hR]⟩)
  clear hsetR hR
  have g0 := HY8.out.cell (k := 0) rfl
  have g1 := HY8.out.cell (k := 1) rfl
  have g2 := HY8.out.cell (k := 2) rfl
  have g3 := HY8.out.cell (k := 3) rfl
  have hst := HR8.out
  have hone : (#[.string ⟨nm.toArray⟩, .int .i64 pol, .int .i64 fai, .slice none 0 0] : Array Value).all (·.oneCell') = true := by simp [Value.oneCell']
  go_wp2_with (refine wpList_store_row rfl 142 _ _ rfl R #[.string ⟨nm.toArray⟩, .int .i64 pol, .int .i64 fai, .slice none 0 0] rfl rfl 142 _ hst (by kernel_rfl) rfl hone ?_)
  (try simp only [Exit.inBlock, Exit.then])
  refine bodyPost_ret (v := .tuple #[.agg #[.string ⟨nm.toArray⟩, .int .i64 pol, .int .i64 fai, .slice none 0 0], .bool false]) ?_ rfl (HFIN.out _)
  exact results_row_tmp Tryz.results224 _ _ R 142 [.string ⟨nm.toArray⟩, .int .i64 pol, .int .i64 fai, .slice none 0 0] _ rfl (Cells.setRow HR8.out [.string ⟨nm.toArray⟩, .int .i64 pol, .int .i64 fai, .slice none 0 0]) Tryz.underlying142 rfl (by kernel_rfl)
 | false =>
 -- THE LOOP
 obtain ⟨b0, hok⟩ : b4 = false ∧ okHd nm pol fai n = true := by
  have := HQ.out
  simp only [Bool.or_eq_false_iff, Bool.not_eq_false'] at this
  exact this
 obtain ⟨hnm, n0, n1, n2, n3, n4, n5, _⟩ := (okHd_iff _ _ _ _).1 hok
 have hH : rdHd r.s = some ((nm, pol, fai, n), s4) := by
  have := HCH.out
  rw [if_pos ⟨b0, hok⟩] at this
  exact this
 obtain ⟨N, hN⟩ : ∃ N : Nat, n.toNat = N := ⟨_, rfl⟩
 have hn : n = (N : Int) := by omega
 have hN2 : N ≤ 200 := by omega
 have HR : Hid (rdFd r.s = match rdPs N [] s4 with | none => none | some (ps, u) => some ((nm, ⟨pol, fai, ps⟩), u)) := Hd (by
  unfold rdFd; rw [hH]; dsimp only; rw [hN]
  all_goals (cases rdPs N [] s4 with | none => rfl | some x => (cases x; rfl)))
 obtain ⟨i0, hi0, hz0, hz1, hz2⟩ := info_parts info_post
 subst hn
 subst b0
 have hRW := HRW.out
 clear hH hok HNM HCH HQ hN hb hwy HRW HS y0 y1 y2 z1 hsetR
 go_wp2_with fail
 go_loopw [7] (fun i wr => ∃ (k : Nat) (t : List UInt8) (pv : Value) (ps : List Po), k ≤ N ∧ i = .int .i64 k ∧ Hid (TrAt wr z ⟨t, false⟩) ∧ Hid (Only [z] w wr) ∧ Hid (Cells wr R 142 [.string ⟨#[]⟩, .int .i64 0, .int .i64 0, .slice none 0 0]) ∧ Hid (Cells wr y 142 [.string ⟨nm.toArray⟩, .int .i64 pol, .int .i64 fai, pv]) ∧ Hid (wr.ownsRow R 101 5 pv k (poL ps)) ∧ ps.length = k ∧ Hid (rdPs N [] s4 = rdPs (N - k) ps t)) (fun i _ => N - (intOf i).toNat)
 case atStart => exact ⟨0, s4, .slice none 0 0, [], by omega, rfl, HT8, HO8, HR8, HY8, Hd (World.ownsRow_nil _ _ _ _), rfl, Hd rfl⟩
 case round =>
  obtain ⟨k, t, pv, ps, hk, rfl, HT, HO, HRR, HY, HOW, hpl, HN⟩ := hrel
  obtain ⟨A, cap, rfl⟩ := (SlAt.of_own HOW.out).shape
  have hne : (Value.slice A k cap).ownBlock ≠ some z := own_ne_block HOW.out HT.out.1 (by decide)
  have hne2 : (Value.slice A k cap).ownBlock ≠ some y := own_ne_block HOW.out HY.out (by decide)
  have hne3 : (Value.slice A k cap).ownBlock ≠ some R := own_ne_block HOW.out HRR.out (by decide)
  by_cases hlt : k < N
  · have hlt' : (k : Int) < (N : Int) := by omega
    have hl0 := HT.out.2
    obtain ⟨p1, e1⟩ : ∃ q, (⟨t, false⟩ : Rd).text.2 = q := ⟨_, rfl⟩
    obtain ⟨p2, e2⟩ : ∃ q, p1.text.2 = q := ⟨_, rfl⟩
    obtain ⟨p3, e3⟩ : ∃ q, p2.text.2 = q := ⟨_, rfl⟩
    have hl1 : p1.s.length ≤ 1000000000000 := e1 ▸ text_len hl0
    have hl2 : p2.s.length ≤ 1000000000000 := e2 ▸ text_len hl1
    have hl3 : p3.s.length ≤ 1000000000000 := e3 ▸ text_len hl2
    have HCH := Hd (po_chain ⟨t, false⟩ p1 p2 p3 p3.bool.2 ps rfl e1.symm e2.symm e3.symm rfl)
    have HL : Hid (It.Len ⟨(⟨t, false⟩ : Rd).text.1, p1.text.1, p2.text.1⟩) := Hd ⟨Rd.len_text hl0, Rd.len_text hl1, Rd.len_text hl2⟩
    have D1 := Hd (tr_text z ⟨t, false⟩ wr HT.out)
    rw [e1] at D1
    have D2 := Hd (fun w' hh => tr_text z p1 w' hh)
    have D3 := Hd (fun w' hh => tr_text z p2 w' hh)
    rw [e2] at D2
    rw [e3] at D3
    have D4 := Hd (fun w' => ref_toBool p3.s w' hl3)
    obtain ⟨a, ha⟩ : ∃ q, (⟨t, false⟩ : Rd).text.1 = q := ⟨_, rfl⟩
    obtain ⟨b, hb'⟩ : ∃ q, p1.text.1 = q := ⟨_, rfl⟩
    obtain ⟨c, hc⟩ : ∃ q, p2.text.1 = q := ⟨_, rfl⟩
    rw [ha] at D1 HCH HL
    rw [hb'] at D2 HCH HL
    rw [hc] at D3 HCH HL
    have CR := Hd (ref13_right ⟨a, b, c⟩ HL.out)
    obtain ⟨ir, hir⟩ : ∃ q, itR ⟨a, b, c⟩ = q := ⟨_, rfl⟩
    rw [hir] at CR HCH
    clear e1 e2 e3 ha hb' hc hir
    go_wp2_with fail
    refine D1.out.mono ?_
    rintro e wa ⟨rfl, hA, ho⟩
    have HTa := Hd hA
    have HOa := Hd (HO.out.tr ho)
    have HRa := Hd (HRR.out.only ho (by simp; omega))
    have HYa := Hd (HY.out.only ho (by simp; omega))
    have HWa := Hd (own_keep HOW.out ho (by simpa using hne))
    clear hA ho D1 HT HO HRR HY HOW
    go_wp2_with fail
    refine (D2.out _ HTa.out).mono ?_
    rintro e wb ⟨rfl, hA, ho⟩
    have HTb := Hd hA
    have HOb := Hd (HOa.out.tr ho)
    have HRb := Hd (HRa.out.only ho (by simp; omega))
    have HYb := Hd (HYa.out.only ho (by simp; omega))
    have HWb := Hd (own_keep HWa.out ho (by simpa using hne))
    clear hA ho D2 HTa HOa HRa HYa HWa
    go_wp2_with fail
    refine (D3.out _ HTb.out).mono ?_
    rintro e wc ⟨rfl, hA, ho⟩
    have HTc := Hd hA
    have HOc := Hd (HOb.out.tr ho)
    have HRc := Hd (HRb.out.only ho (by simp; omega))
    have HYc := Hd (HYb.out.only ho (by simp; omega))
    have HWc := Hd (own_keep HWb.out ho (by simpa using hne))
    clear hA ho D3 HTb HOb HRb HYb HWb
    obtain ⟨wd, hwd⟩ : ∃ u, wc.alloc (.cells #[.string ⟨a.toArray⟩, .string ⟨b.toArray⟩, .string ⟨c.toArray⟩] 99) = u := ⟨_, rfl⟩
    obtain ⟨v, hv⟩ : ∃ y, wc.heap.size = y := ⟨_, rfl⟩
    have od : Only [] wc wd := hwd ▸ oz.alloc _
    have HVd : Hid (Cells wd v 99 [.string ⟨a.toArray⟩, .string ⟨b.toArray⟩, .string ⟨c.toArray⟩]) := Hd (hwd ▸ hv ▸ Cells.new wc _ _)
    have HTd := Hd (HTc.out.only od (by simp))
    have HOd := Hd (HOc.out.tr0 od)
    have HRd := Hd (HRc.out.only od (by simp))
    have HYd := Hd (HYc.out.only od (by simp))
    have HWd := Hd (own_keep HWc.out od (by simp))
    have hyv : y < v := by have := HYc.out.lt; omega
    have t0 := HTd.out.1.cell (k := 0) rfl
    have hztl := HTd.out.lt
    clear od HTc HOc HRc HYc HWc
    go_wp2_with fail
    clear hwd hv
    obtain ⟨s3, b3⟩ := p3
    obtain ⟨d, rest, is, hrd, hrl, hpo⟩ : ∃ (d : Bool) (rest : List UInt8) (is : Bool), rdBV (rdB s3) = .tuple #[.bool d, .string ⟨rest.toArray⟩, .bool is] ∧ rest.length ≤ 1000000000000 ∧ rdPo ps t = if (b3 = false ∧ is = true) ∧ ir = true ∧ idx ps a = none then some (ps ++ [⟨(ps.length : Int) + 1, ⟨a, b, c⟩, d⟩], rest) else none := by
     have hp := HCH.out
     dsimp only at hl3 hp
     cases hB : rdB s3 with
     | none =>
      have e : (⟨s3, b3⟩ : Rd).bool = (false, ⟨[], true⟩) := by unfold Rd.bool Rd.get; simp only [hB]
      rw [e] at hp
      exact ⟨false, [], false, rfl, by simp, by rw [hp]; simp⟩
     | some x =>
      obtain ⟨d, u⟩ := x
      have e : (⟨s3, b3⟩ : Rd).bool = (d, ⟨u, b3⟩) := by unfold Rd.bool Rd.get; simp only [hB]
      rw [e] at hp
      have hu := rdB_len hB
      refine ⟨d, u, true, rfl, by omega, ?_⟩
      rw [hp]
      cases b3 <;> simp
    have HPO := Hd hpo
    dsimp only at D4
    rw [hrd] at D4
    clear hrd hpo HCH
    refine (D4.out _).mono ?_
    rintro e we ⟨rfl, ho⟩
    have HTe := Hd (HTd.out.only ho (by simp))
    have HOe := Hd (HOd.out.tr0 ho)
    have HRe := Hd (HRd.out.only ho (by simp))
    have HYe := Hd (HYd.out.only ho (by simp))
    have HWe := Hd (own_keep HWd.out ho (by simp))
    have HVe := Hd (HVd.out.only ho (by simp))
    have t0 := HTe.out.1.cell (k := 0) rfl
    have tz0 := HTe.out.1.frozen 0
    have hztl := HTe.out.lt
    clear ho D4 HTd HOd HRd HYd HWd HVd
    go_upto_region 16 with fail
    obtain ⟨wf, hwf⟩ : ∃ u, we.setCell ⟨z, 0, none⟩ (.string ⟨rest.toArray⟩) = u := ⟨_, rfl⟩
    have of' : Only [z] we wf := hwf ▸ oz.setCell (.inl (by simp)) _
    rw [hwf]
    have HTf : Hid (TrAt wf z ⟨rest, b3⟩) := Hd ⟨hwf ▸ HTe.out.1.set 0 _, hrl⟩
    have HOf := Hd (HOe.out.tr of')
    have HRf := Hd (HRe.out.only of' (by simp; omega))
    have HYf := Hd (HYe.out.only of' (by simp; omega))
    have HWf := Hd (own_keep HWe.out of' (by simpa using hne))
    have HVf := Hd (HVe.out.only of' (by simp; omega))
    clear hwf of' HTe HOe HRe HYe HWe HVe t0 tz0 hztl
    have v0 := HVf.out.cell (k := 0) rfl
    have v1 := HVf.out.cell (k := 1) rfl
    have v2 := HVf.out.cell (k := 2) rfl
    go_wp2_with fail
    refine (CR.out _).mono ?_
    rintro e wg ⟨rfl, ho⟩
    have HTg := Hd (HTf.out.only ho (by simp))
    have HOg := Hd (HOf.out.tr0 ho)
    have HRg := Hd (HRf.out.only ho (by simp))
    have HYg := Hd (HYf.out.only ho (by simp))
    have HWg := Hd (own_keep HWf.out ho (by simp))
    have HVg := Hd (HVf.out.only ho (by simp))
    have t1 := HTg.out.1.cell (k := 1) rfl
    clear ho CR HTf HOf HRf HYf HWf HVf v0 v1 v2
    subst hpl
    have hrfs := RfS.of_own HWg.out (poL_one ps)
    have CP := Hd (ref17_post nm pol fai _ ps a wg hrfs (by omega))
    have g0 := HYg.out.cell (k := 0) rfl
    have g1 := HYg.out.cell (k := 1) rfl
    have g2 := HYg.out.cell (k := 2) rfl
    have g3 := HYg.out.cell (k := 3) rfl
    dsimp only at t1
    obtain ⟨q, hq⟩ : ∃ q, (b3 || !is || !ir || (idx ps a).isSome) = q := ⟨_, rfl⟩
    have HQ := Hd hq
    have HI : Hid (decide (0 ≤ idxI ps a) = (idx ps a).isSome) := Hd (by unfold idxI; cases idx ps a <;> simp)
    clear hq hrfs
    go_upto_region 17 with fail
    go_cut [128] from 81 to 139 (fun u wx => u = .bool q ∧ Hid (Only [] wg wx))
    case first =>
     cases b3 with
     | true =>
      have e : Hid (true = q) := Hd (by rw [← HQ.out]; rfl)
      go_wp2_with fail
      go_meet
      exact ⟨by rw [← e.out], Hd oz⟩
     | false =>
     cases is with
     | false =>
      have e : Hid (true = q) := Hd (by rw [← HQ.out]; rfl)
      go_wp2_with fail
      go_meet
      exact ⟨by rw [← e.out], Hd oz⟩
     | true =>
     cases ir with
     | false =>
      have e : Hid (true = q) := Hd (by rw [← HQ.out]; rfl)
      go_wp2_with fail
      go_meet
      exact ⟨by rw [← e.out], Hd oz⟩
     | true =>
     obtain ⟨j, hj⟩ : ∃ j, idxI ps a = j := ⟨_, rfl⟩
     have e : Hid (decide (0 ≤ j) = q) := Hd (by rw [← hj, HI.out, ← HQ.out]; rfl)
     rw [hj] at CP
     clear hj
     go_wp2_with fail
     refine CP.out.mono ?_
     rintro e2 wh ⟨rfl, ho⟩
     have HO2 := Hd ho
     clear ho
     go_wp2_with fail
     go_meet
     exact ⟨by rw [← e.out], HO2⟩
    case rest =>
    obtain ⟨rfl, HX⟩ := hcut
    have HTh := Hd (HTg.out.only HX.out (by simp))
    have HOh := Hd (HOg.out.tr0 HX.out)
    have HRh := Hd (HRg.out.only HX.out (by simp))
    have HYh := Hd (HYg.out.only HX.out (by simp))
    have HWh := Hd (own_keep HWg.out HX.out (by simp))
    have HVh := Hd (HVg.out.only HX.out (by simp))
    have hsetR : ∀ (w' : World) (row : Array Value), Only [R] w' (w'.setRow R row) := fun w' row => oz.setRow (.inl (by simp)) _
    clear HTg HOg HRg HYg HWg HVg HX g0 g1 g2 g3 t1 CP
    have hnext : rdPs N [] s4 = match rdPo ps t with | none => none | some (qs, u) => rdPs (N - (ps.length + 1)) qs u := by
     rw [HN.out, show N - ps.length = (N - (ps.length + 1)) + 1 from by omega]
     rfl
    cases q with
    | true =>
     have hno : rdPo ps t = none := by
      rw [HPO.out, if_neg]
      rintro ⟨⟨k1, k2⟩, k3, k4⟩
      have := HQ.out
      rw [k1, k2, k3, k4] at this
      cases this
     have hRn : rdFd r.s = none := by rw [HR.out, hnext, hno]
     have HFIN : Hid (∀ row, TrF w (wc.setRow R row) z r (.returned (.tuple #[.agg #[.string ⟨nm.toArray⟩, .int .i64 pol, .int .i64 fai, .slice A ps.length cap], .bool false]))) := Hd (fun row => ⟨⟨rest, b3⟩, nm, pol, fai, A, ps.length, cap, false, rfl, HTh.out.only (hsetR _ _) (by simp; omega), HOh.out.trans (hsetR _ _) (fun x hx => by simp at hx; subst hx; exact .inr (by omega)), hnl, by rw [hRn]⟩)
     clear hsetR hno hRn hnext HR HN HPO HQ
     have g0 := HYh.out.cell (k := 0) rfl
     have g1 := HYh.out.cell (k := 1) rfl
     have g2 := HYh.out.cell (k := 2) rfl
     have g3 := HYh.out.cell (k := 3) rfl
     have hst := HRh.out
     have hone : (#[.string ⟨nm.toArray⟩, .int .i64 pol, .int .i64 fai, .slice A ps.length cap] : Array Value).all (·.oneCell') = true := by simp [Value.oneCell']
     go_wp2_with (refine wpList_store_row rfl 142 _ _ rfl R #[.string ⟨nm.toArray⟩, .int .i64 pol, .int .i64 fai, .slice A ps.length cap] rfl rfl 142 _ hst (by kernel_rfl) rfl hone ?_)
     (try simp only [Exit.inBlock, Exit.then])
     refine bodyPost_ret (v := .tuple #[.agg #[.string ⟨nm.toArray⟩, .int .i64 pol, .int .i64 fai, .slice A ps.length cap], .bool false]) ?_ rfl (HFIN.out _)
     exact results_row_tmp Tryz.results224 _ _ R 142 [.string ⟨nm.toArray⟩, .int .i64 pol, .int .i64 fai, .slice A ps.length cap] _ rfl (Cells.setRow HRh.out [.string ⟨nm.toArray⟩, .int .i64 pol, .int .i64 fai, .slice A ps.length cap]) Tryz.underlying142 rfl (by kernel_rfl)
    | false =>
    obtain ⟨⟨⟨rfl, rfl⟩, rfl⟩, hix⟩ : ((b3 = false ∧ is = true) ∧ ir = true) ∧ idx ps a = none := by
     have := HQ.out
     simp only [Bool.or_eq_false_iff, Bool.not_eq_false', Option.isSome_eq_false_iff, Option.isNone_iff_eq_none] at this
     exact this
    have hpo : rdPo ps t = some (ps ++ [⟨(ps.length : Int) + 1, ⟨a, b, c⟩, d⟩], rest) := by
     rw [HPO.out, if_pos ⟨⟨rfl, rfl⟩, rfl, hix⟩]
    rw [hpo] at hnext
    dsimp only at hnext
    have HNX := Hd hnext
    have v0 := HVh.out.cell (k := 0) rfl
    have v1 := HVh.out.cell (k := 1) rfl
    have v2 := HVh.out.cell (k := 2) rfl
    have y3 := HYh.out.cell (k := 3) rfl
    have hwrap : IntKind.i64.wrap ((ps.length : Int) + 1) = (ps.length : Int) + 1 := by rw [IntKind.wrap_i64]; omega
    have hown := HWh.out
    have hRw : R ≤ wc.heap.size := Nat.le_of_lt HRh.out.lt
    clear hix hpo hnext HPO HN HQ HI hsetR
    go_wp2_with (at_builtin; go_loud (refine wpList_appA rfl _ _ 32 rfl R 101 i0 _ 5 64 Tryz.underlying32 hi0 hz0 hz1 hz2 rfl (by decide) wc (.slice A ps.length cap) ps.length _ rfl hown 1 1 [.int .i64 ((ps.length : Int) + 1), .string ⟨a.toArray⟩, .string ⟨b.toArray⟩, .string ⟨c.toArray⟩, .bool d] rfl rfl (by simp [Value.oneCell']) (by simp only [maxLen]; omega) (by omega) hRw ?_); intro v' w14 hown14 hgrow hnew; have hz14 := HYh.out.grown hgrow hne2; have y14 := hz14.cell (k := 3) rfl; have f14 := hz14.frozen 3; have l14 := hz14.lt; obtain ⟨A', cap', rfl⟩ := (SlAt.of_own hown14).shape)
    have hg9 : (Value.slice A' (ps.length + 1) cap').ownBlock ≠ some y := own_ne_block hown14 hz14 (by decide)
    have hoW : Only [y] w14 (w14.setCell ⟨y, 3, none⟩ (.slice A' (ps.length + 1) cap')) := oz.setCell (.inl (by simp)) _
    have hown15 := own_keep hown14 hoW (by simpa using hg9)
    have hpo : poL (ps ++ [⟨(ps.length : Int) + 1, ⟨a, b, c⟩, d⟩]) = poL ps ++ [.int .i64 ((ps.length : Int) + 1), .string ⟨a.toArray⟩, .string ⟨b.toArray⟩, .string ⟨c.toArray⟩, .bool d] := by unfold poL; rw [List.flatMap_append]; rfl
    rw [← hpo] at hown15
    have HOWN := Hd hown15
    have hr14 : TrAt w14 z ⟨rest, false⟩ := ⟨HTh.out.1.grown hgrow hne, HTh.out.2⟩
    have HT15 := Hd (hr14.only hoW (by simp; omega))
    have HR15 := Hd ((HRh.out.grown hgrow hne3).only hoW (by simp; omega))
    have HY15 := Hd (hz14.set 3 (.slice A' (ps.length + 1) cap'))
    have HO15 := Hd ((HOh.out.own hown hgrow (by omega)).trans hoW (by intro q hq; simp at hq; exact .inr (by omega)))
    have hl15 : (ps ++ [(⟨(ps.length : Int) + 1, ⟨a, b, c⟩, d⟩ : Po)]).length = ps.length + 1 := by simp
    clear hown14 hgrow hnew hz14 hr14 hown15 hoW HTh HRh HYh HOh hown hpo v0 v1 v2 y3
    go_wp2_with fail
    go_roundw
    case rel => exact ⟨ps.length + 1, rest, .slice A' (ps.length + 1) cap', _, by omega, by go_num, HT15, HO15, HR15, HY15, HOWN, hl15, HNX⟩
    case measure => simp [intOf]; omega
  · have hlt' : ¬ (k : Int) < (N : Int) := by omega
    have hkN : k = N := by omega
    subst hkN
    have hsetR : ∀ (w' : World) (row : Array Value), Only [R] w' (w'.setRow R row) := fun w' row => oz.setRow (.inl (by simp)) _
    have hRS : rdFd r.s = some ((nm, ⟨pol, fai, ps⟩), t) := by
     rw [HR.out, HN.out, Nat.sub_self]
     rfl
    have hlts := HOW.out.lt
    have HFIN : Hid (∀ row, TrF w (wr.setRow R row) z r (.returned (.tuple #[.agg #[.string ⟨nm.toArray⟩, .int .i64 pol, .int .i64 fai, .slice A k cap], .bool true]))) := Hd (fun row => by
     refine ⟨⟨t, false⟩, nm, pol, fai, A, k, cap, true, rfl, HT.out.only (hsetR _ _) (by simp; omega), HO.out.trans (hsetR _ _) (fun x hx => by simp at hx; subst hx; exact .inr (by omega)), hnl, ?_⟩
     rw [hRS]
     refine ⟨rfl, rfl, rfl, rfl, rfl, ?_, ?_⟩
     · show RfS _ (.slice A k cap) 5 ps.length (poL ps)
       rw [hpl]
       exact (RfS.of_own HOW.out (poL_one ps)).keep (hsetR _ _) (fun x hx => by simp at hx; subst hx; exact hne3)
     · intro g hg
       have := hlts g hg
       obtain ⟨cs, hcs⟩ := own_cells HOW.out hg
       exact ⟨by omega, Nat.lt_of_lt_of_le this.2 (hsetR wr row).size, cs, hcs.only (hsetR _ _) (by simp; rintro rfl; exact hne3 hg)⟩)
    clear hsetR hRS HR HN hlts
    have g0 := HY.out.cell (k := 0) rfl
    have g1 := HY.out.cell (k := 1) rfl
    have g2 := HY.out.cell (k := 2) rfl
    have g3 := HY.out.cell (k := 3) rfl
    have hst := HRR.out
    have hone : (#[.string ⟨nm.toArray⟩, .int .i64 pol, .int .i64 fai, .slice A k cap] : Array Value).all (·.oneCell') = true := by simp [Value.oneCell']
    go_wp2_with (refine wpList_store_row rfl 142 _ _ rfl R #[.string ⟨nm.toArray⟩, .int .i64 pol, .int .i64 fai, .slice A k cap] rfl rfl 142 _ hst (by kernel_rfl) rfl hone ?_)
    (try simp only [Exit.inBlock, Exit.then])
    refine bodyPost_ret (v := .tuple #[.agg #[.string ⟨nm.toArray⟩, .int .i64 pol, .int .i64 fai, .slice A k cap], .bool true]) ?_ rfl (HFIN.out _)
    exact results_row_tmp Tryz.results224 _ _ R 142 [.string ⟨nm.toArray⟩, .int .i64 pol, .int .i64 fai, .slice A k cap] _ rfl (Cells.setRow HRR.out [.string ⟨nm.toArray⟩, .int .i64 pol, .int .i64 fai, .slice A k cap]) Tryz.underlying142 rfl (by kernel_rfl)
theorem unSt_num (s : List UInt8) : unSt s = if ((⟨s, false⟩ : Rd).num 0 20).bad = true then none else match rdFs (⟨s, false⟩ : Rd).int.1.toNat [] ((⟨s, false⟩ : Rd).num 0 20).s with | none => none | some (S, u) => if u = [] then some S else none := by
 unfold unSt
 cases h : rdI s with
 | none =>
  have : (⟨s, false⟩ : Rd).int = (0, ⟨[], true⟩) := by unfold Rd.int Rd.get; simp only [h]
  unfold Rd.num
  rw [this]
  rfl
 | some p =>
  obtain ⟨n, t⟩ := p
  have : (⟨s, false⟩ : Rd).int = (n, ⟨t, false⟩) := get_out h
  unfold Rd.num
  rw [this]
  dsimp only
  by_cases hn : 0 ≤ n ∧ n ≤ 20
  · rw [if_pos hn, if_neg (by simp; omega)]
    all_goals (cases rdFs n.toNat [] t with | none => rfl | some x => (cases x; rfl))
  · rw [if_neg hn, if_pos (by simp; omega)]
theorem insBy_end {α : Type} (key : α → List UInt8) (x : α) : ∀ (l : List α), (∀ a ∈ l, key a < key x) → insBy key x l = l ++ [x]
 | [], _ => rfl
 | a :: l, h => by
  have h1 := h a (by simp)
  have h2 := insBy_end key x l (fun b hb => h b (by simp [hb]))
  unfold insBy
  rw [if_pos h1, h2]
  rfl
theorem last_lt {S : Sv} (hs : S.Pairwise (fun a b => a.1 < b.1)) {k : List UInt8} (h : lastN S < k) : ∀ a ∈ S, a.1 < k := by
 intro a ha
 obtain ⟨y, hy⟩ : ∃ y, S.getLast? = some y := by
  cases hq : S.getLast? with
  | none => rw [List.getLast?_eq_none_iff] at hq; subst hq; cases ha
  | some y => exact ⟨y, rfl⟩
 have hl : y.1 < k := by
  unfold lastN at h
  rw [hy] at h
  exact h
 obtain ⟨ys, rfl⟩ := List.getLast?_eq_some_iff.1 hy
 rcases List.mem_append.1 ha with ha | ha
 · exact List.lt_trans ((List.pairwise_append.1 hs).2.2 a ha y (by simp)) hl
 · obtain rfl := List.mem_singleton.1 ha; exact hl
theorem StX.insN {w2 w' : World} {b mb : Nat} {T : List Pl} {t : Pl} (k2 : StX w2 b mb T) (hn : fT T t.nm = none) (hnm : nmL t.nm = true) (hcap : T.length < 20) (hfd : FdAt w2 t.p t.m t.v t.fd) (hnew : ∀ x ∈ t.own, x ∉ allX b mb T) (ho : Only [mb] w2 w') (hm : MapF w' mb (T.length + 1) (fun k' => if k' = t.nm then some (.pointer (some ⟨t.p, 0, none⟩)) else ptT T k')) :
 StX w' b mb (insBy Pl.nm t T) := by
 have hbm := k2.bm
 have hne : ∀ a ∈ T, a.nm ≠ t.nm := fun a ha e => by
  have := List.find?_eq_none.1 hn a ha
  simp [e] at this
 have hmem : ∀ a, a ∈ insBy Pl.nm t T ↔ a = t ∨ a ∈ T := fun a => by rw [(insBy_perm Pl.nm t T).mem_iff, List.mem_cons]
 refine ⟨k2.cells.only ho (by simpa using hbm), ?_, ?_, insBy_sorted Pl.nm t T k2.srt hne, ?_, ?_, ?_, ?_⟩
 · rw [insBy_length, ptT_ins hn]; exact hm
 · intro a ha
   rcases (hmem a).1 ha with rfl | ha
   · exact hfd.keep ho (fun x hx => by
      simp only [List.mem_cons, List.not_mem_nil, or_false]
      intro e; subst e; exact hnew _ hx (by simp [allX]))
   · exact (k2.fds a ha).keep ho (fun x hx => by
      have := (k2.dib a ha).2
      simp only [List.mem_cons, List.not_mem_nil, or_false]
      intro e; subst e; exact this hx)
 · intro a ha c hc hac x hx
   rcases (hmem a).1 ha with rfl | ha2
   · rcases (hmem c).1 hc with rfl | hc2
     · exact absurd rfl hac
     · intro hxc
       exact hnew x hx (own_mem hc2 hxc)
   · rcases (hmem c).1 hc with rfl | hc2
     · intro hxc
       exact hnew x hxc (own_mem ha2 hx)
     · exact k2.dis a ha2 c hc2 hac x hx
 · intro a ha
   rcases (hmem a).1 ha with rfl | ha2
   · exact ⟨fun hx => hnew _ hx (by simp [allX]), fun hx => hnew _ hx (by simp [allX])⟩
   · exact k2.dib a ha2
 · rw [insBy_length]; omega
 · intro a ha
   rcases (hmem a).1 ha with rfl | ha2
   · exact hnm
   · exact k2.nml a ha2
def UnV (w w' : World) (s : List UInt8) (e : Ending) : Prop := Only [] w w' ∧ match unSt s with
 | none => e = .returned (.tuple #[.pointer none, .bool false])
 | some S => ∃ b O, e = .returned (.tuple #[.pointer (some ⟨b, 0, none⟩), .bool true]) ∧ St w' b O S ∧ ∀ x ∈ O, w.heap.size ≤ x
theorem store_unpack (s : List UInt8) (hs : s.length ≤ 1000000000000) (w : World) :
 Calls Tryz.prog 107 #[.string ⟨s.toArray⟩] w fun e w' => UnV w w' s e := by
 obtain ⟨w1, hw1⟩ : ∃ u, w.alloc (.cells #[.string ⟨s.toArray⟩, .bool false] 253) = u := ⟨_, rfl⟩
 obtain ⟨z, hz⟩ : ∃ z, w.heap.size = z := ⟨_, rfl⟩
 have HA1 : Hid (SrAt w1 z ⟨s, false⟩) := Hd ⟨hw1 ▸ hz ▸ Cells.new w _ _, hs⟩
 have HO1 : Hid (Only [] w w1) := Hd (hw1 ▸ oz.alloc _)
 have HZ := Hd hz
 have HU := Hd (unSt_num s)
 have HIW := Hd (fun (h : ((⟨s, false⟩ : Rd).num 0 20).bad = false) => num_ok h)
 obtain ⟨r1, hr1⟩ : ∃ q, (⟨s, false⟩ : Rd).num 0 20 = q := ⟨_, rfl⟩
 obtain ⟨n, hn⟩ : ∃ q, (⟨s, false⟩ : Rd).int.1 = q := ⟨_, rfl⟩
 have C1 := Hd (fun w' hh => sr_number z ⟨s, false⟩ 0 20 w' hh)
 rw [hr1] at C1 HU HIW
 rw [hn] at C1 HU HIW
 have CN := Hd (fun w' => store_new w')
 clear hr1 hn
 go_enter Tryz.func107, Tryz.ntmps107
 go_upto_region 2 with fail
 clear hw1 hz
 go_wp2_with fail
 refine (CN.out _).mono ?_
 rintro e w2 ⟨rfl, hX, ho⟩
 obtain ⟨b, hb⟩ : ∃ b, w1.heap.size + 1 = b := ⟨_, rfl⟩
 obtain ⟨mb, hmb⟩ : ∃ b, w1.heap.size = b := ⟨_, rfl⟩
 rw [hb, hmb] at hX
 rw [hb]
 have hzb : z < mb ∧ mb < b := by have := HA1.out.lt; omega
 have hwz : w.heap.size ≤ z := by have := HZ.out; omega
 have HA2 := Hd (HA1.out.only ho (by simp))
 have HO2 := Hd (HO1.out.tr0 ho)
 have HX2 := Hd hX
 clear hX ho CN HA1 HO1 HZ hb hmb
 go_wp2_with fail
 refine (C1.out _ HA2.out).mono ?_
 rintro e w3 ⟨rfl, hA, ho⟩
 have HA3 := Hd hA
 have HO3 : Hid (Only [] w w3) := Hd (HO2.out.trans ho (fun x hx => by simp at hx; subst hx; exact .inr hwz))
 have HX3 := Hd (HX2.out.keep ho (by intro k hk; simp [allX] at hk ⊢; omega))
 have s1 := hA.1.cell (k := 1) rfl
 clear hA ho C1 HA2 HO2 HX2
 obtain ⟨t0, b0⟩ := r1
 dsimp only at s1
 cases b0 with
 | true =>
  have HFIN : Hid (UnV w w3 s (.returned (.tuple #[.pointer none, .bool false]))) := Hd ⟨HO3.out, by rw [HU.out]; exact rfl⟩
  clear HU
  go_wp2_with fail
  go_ret2
  exact HFIN.out
 | false =>
 obtain ⟨_, n0, n1⟩ := HIW.out rfl
 obtain ⟨N, hN⟩ : ∃ N : Nat, n.toNat = N := ⟨_, rfl⟩
 have hn : n = (N : Int) := by omega
 have hN2 : N ≤ 20 := by omega
 have HR : Hid (unSt s = match rdFs N [] t0 with | none => none | some (S, u) => if u = [] then some S else none) := Hd (by rw [HU.out, if_neg (by simp), hN])
 subst hn
 clear HU HIW hN
 go_wp2_with fail
 go_loopw [6, 21] (fun l i wr => ∃ (k : Nat) (t : List UInt8) (T : List Pl), k ≤ N ∧ i = .int .i64 k ∧ l = .string ⟨(lastN (prT T)).toArray⟩ ∧ T.length = k ∧ Hid (SrAt wr z ⟨t, false⟩) ∧ Hid (Only [] w wr) ∧ Hid (StX wr b mb T) ∧ Hid (∀ x ∈ allX b mb T, z < x) ∧ Hid (rdFs N [] t0 = rdFs (N - k) (prT T) t)) (fun _ i _ => N - (intOf i).toNat)
 case atStart => exact ⟨0, t0, [], by omega, rfl, rfl, rfl, HA3, HO3, HX3, Hd (by intro x hx; simp [allX] at hx; omega), Hd rfl⟩
 case round =>
  obtain ⟨k, t, T, hk, rfl, rfl, hT, HA, HO, HX, HV, HN⟩ := hrel
  by_cases hlt : k < N
  · have hlt' : (k : Int) < (N : Int) := by omega
    have CS := Hd (sr_source z ⟨t, false⟩ wr HA.out rfl)
    have hnext : rdFs N [] t0 = match rdFd t with | none => none | some (x, u) => if lastN (prT T) < x.1 then rdFs (N - (k + 1)) (prT T ++ [x]) u else none := by
     rw [HN.out, show N - k = (N - (k + 1)) + 1 from by omega]
     rfl
    have HNX := Hd hnext
    clear hnext HN
    go_wp2_with fail
    refine CS.out.mono ?_
    rintro e w4 ⟨⟨t4, bad⟩, nm, p, rfl, hA, ho, hnl, hm⟩
    have hO4 : Only [] w w4 := HO.out.trans ho (fun x hx => by simp at hx; subst hx; exact .inr hwz)
    have hX4 := HX.out.keep ho (by intro x hx hz; simp at hz; subst hz; exact absurd (HV.out x hx) (Nat.lt_irrefl _))
    have s1 := hA.1.cell (k := 1) rfl
    have HA4 := Hd hA
    have HO4 := Hd hO4
    have HX4 := Hd hX4
    have b0 := hX4.cells.cell (k := 0) rfl
    dsimp only at s1 hm
    clear hA ho hO4 hX4 CS HA HO
    cases hrd : rdFd t with
    | none =>
     rw [hrd] at hm
     dsimp only at hm
     subst hm
     have HFIN : Hid (UnV w w4 s (.returned (.tuple #[.pointer none, .bool false]))) := Hd ⟨HO4.out, by rw [HR.out, HNX.out, hrd]⟩
     clear HR HNX hrd
     go_wp2_with fail
     go_ret2
     exact HFIN.out
    | some x =>
    obtain ⟨⟨nm', fd⟩, u⟩ := x
    rw [hrd] at hm
    obtain ⟨hr', rfl, hnm, m, v, hfd, hnew⟩ := hm
    injection hr' with e1 e2
    subst e1; subst e2
    dsimp only at hfd hnm hnl
    by_cases hls : lastN (prT T) < nm
    case neg =>
     have HFIN : Hid (UnV w w4 s (.returned (.tuple #[.pointer none, .bool false]))) := Hd ⟨HO4.out, by rw [HR.out, HNX.out, hrd]; dsimp only; rw [if_neg hls]⟩
     by_cases hlt2 : nm < lastN (prT T)
     · have hless : Op.bytesLess nm (lastN (prT T)) = true := by rw [bytesLess_eq]; simpa using hlt2
       clear HR HNX hrd
       go_wp2_with fail
       go_ret2
       exact HFIN.out
     · have hless : Op.bytesLess nm (lastN (prT T)) = false := by rw [bytesLess_eq]; simpa using hlt2
       have heq : (nm == lastN (prT T)) = true := by simpa using List.le_antisymm (List.not_lt.1 hls) (List.not_lt.1 hlt2)
       clear HR HNX hrd
       go_wp2_with fail
       go_ret2
       exact HFIN.out
    have hless : Op.bytesLess nm (lastN (prT T)) = false := by rw [bytesLess_eq]; simpa using List.not_lt.2 (List.le_of_lt hls)
    have heq : (nm == lastN (prT T)) = false := by simpa using fun e => List.lt_irrefl _ (e ▸ hls)
    have hall : ∀ a ∈ T, a.nm < nm := fun a ha => last_lt (S := prT T) (by unfold prT; rw [List.pairwise_map]; exact HX4.out.srt) hls (a.nm, a.fd) (List.mem_map_of_mem (f := fun t : Pl => (t.nm, t.fd)) ha)
    have hfn : fT T nm = none := by
     unfold fT
     refine List.find?_eq_none.2 fun a ha h => ?_
     have := hall a ha
     rw [show a.nm = nm from by simpa using h] at this
     exact List.lt_irrefl _ this
    have hcap : T.length < 20 := by omega
    have hnl60 := (nmL_len hnm).2
    obtain ⟨v0, st, w5, w6, hE1, hE2, hm6, ht6⟩ := MapF.entry (t := 182) (e := 191) HX4.out.map Tryz.underlying182 (Tryz.zeroValue191) (by unfold maxLen; omega) nm hnl (.pointer (some ⟨p, 0, none⟩))
    rw [show (ptT T nm).isSome = false from by unfold ptT; rw [hfn]; rfl] at hm6
    have hX4 := HX4.out
    have hltw : ∀ x ∈ allX b mb T, x < wr.heap.size := HX.out.lts
    have hdis : ∀ x ∈ (⟨nm, fd, p, m, v⟩ : Pl).own, x ∉ allX b mb T := fun x hx hm => by have h1 := hnew x hx; have h2 := hltw x hm; omega
    have hF := StX.insN (t := ⟨nm, fd, p, m, v⟩) hX4 hfn hnm hcap hfd hdis (mapTurned_only ht6) hm6
    rw [insBy_end Pl.nm ⟨nm, fd, p, m, v⟩ T hall] at hF
    have HF6 := Hd hF
    have HA6 := Hd (HA4.out.only (mapTurned_only ht6) (by simp; omega))
    have HO6 : Hid (Only [] w w6) := Hd (HO4.out.trans (mapTurned_only ht6) (fun x hx => by simp at hx; subst hx; exact .inr (by omega)))
    have HV6 : Hid (∀ x ∈ allX b mb (T ++ [(⟨nm, fd, p, m, v⟩ : Pl)]), z < x) := Hd (fun x hx => by
     unfold allX at hx
     rw [List.flatMap_append] at hx
     simp only [List.mem_cons, List.mem_append] at hx
     rcases hx with rfl | rfl | hx | hx
     · omega
     · omega
     · exact HV.out x (by simp [allX, hx])
     · have h1 := hnew x (by simpa [Pl.own] using hx)
       have h2 := hltw b (by simp [allX])
       omega)
    have hpr : prT (T ++ [(⟨nm, fd, p, m, v⟩ : Pl)]) = prT T ++ [(nm, fd)] := by unfold prT; rw [List.map_append]; rfl
    have HN6 : Hid (rdFs N [] t0 = rdFs (N - (k + 1)) (prT (T ++ [(⟨nm, fd, p, m, v⟩ : Pl)])) t4) := Hd (by rw [HNX.out, hrd, hpr]; dsimp only; rw [if_pos hls])
    have HL6 : Hid (lastN (prT (T ++ [(⟨nm, fd, p, m, v⟩ : Pl)])) = nm) := Hd (by rw [hpr]; unfold lastN; simp)
    have HT : Hid ((T ++ [(⟨nm, fd, p, m, v⟩ : Pl)]).length = k + 1) := Hd (by simp [hT])
    clear hF ht6 hm6 hX4 hfd hnew hltw hdis hpr hall hfn HA4 HO4 HX4 HNX hrd HV HX hls
    have hw : IntKind.i64.wrap ((k : Int) + 1) = ((k + 1 : Nat) : Int) := by rw [IntKind.wrap_i64]; omega
    go_wp2_with fail
    go_roundw
    case rel => exact ⟨k + 1, t4, T ++ [(⟨nm, fd, p, m, v⟩ : Pl)], by omega, by go_num, by rw [HL6.out], HT.out, HA6, HO6, HF6, HV6, HN6⟩
    case measure => simp [intOf]; omega
  · have hlt' : ¬ (k : Int) < (N : Int) := by omega
    have hkN : k = N := by omega
    have hend : unSt s = if t = [] then some (prT T) else none := by
     rw [HR.out, HN.out, hkN, Nat.sub_self]
     rfl
    have s0 := HA.out.1.cell (k := 0) rfl
    have s1 := HA.out.1.cell (k := 1) rfl
    dsimp only at s0 s1
    by_cases ht : t = []
    · have HFIN : Hid (UnV w wr s (.returned (.tuple #[.pointer (some ⟨b, 0, none⟩), .bool true]))) := Hd (by
       refine ⟨HO.out, ?_⟩
       rw [hend, if_pos ht]
       exact ⟨b, allX b mb T, rfl, ⟨mb, T, HX.out, rfl, rfl⟩, fun x hx => by have := HV.out x hx; omega⟩)
      subst ht
      clear hend HR HN
      go_wp2_with fail
      go_ret2
      exact HFIN.out
    · have HFIN : Hid (UnV w wr s (.returned (.tuple #[.pointer none, .bool false]))) := Hd ⟨HO.out, by rw [hend, if_neg ht]⟩
      have hte : t.isEmpty = false := by cases t with | nil => exact absurd rfl ht | cons => rfl
      clear hend HR HN
      go_wp2_with fail
      go_ret2
      exact HFIN.out
theorem unSt_int (s : List UInt8) : unSt s = if (⟨s, false⟩ : Rd).int.2.bad = false ∧ 0 ≤ (⟨s, false⟩ : Rd).int.1 ∧ (⟨s, false⟩ : Rd).int.1 ≤ 20 then (match rdFs (⟨s, false⟩ : Rd).int.1.toNat [] (⟨s, false⟩ : Rd).int.2.s with | none => none | some (S, u) => if u = [] then some S else none) else none := by
 unfold unSt
 cases h : rdI s with
 | none =>
  have : (⟨s, false⟩ : Rd).int = (0, ⟨[], true⟩) := by unfold Rd.int Rd.get; simp only [h]
  rw [this]
  rfl
 | some p =>
  obtain ⟨n, t⟩ := p
  have : (⟨s, false⟩ : Rd).int = (n, ⟨t, false⟩) := get_out h
  rw [this]
  dsimp only
  by_cases hn : 0 ≤ n ∧ n ≤ 20
  · rw [if_pos hn, if_pos ⟨rfl, hn⟩]
    all_goals (cases rdFs n.toNat [] t with | none => rfl | some x => (cases x; rfl))
  · rw [if_neg hn, if_neg (fun h => hn h.2)]
theorem own_up {w : World} {base B : Nat} {e : TypeId} {sz n : Nat} {v : Value} {xs : List Value} (h : w.ownsRow base e sz v n xs) (hg : ∀ g, v.ownBlock = some g → B ≤ g) : w.ownsRow B e sz v n xs := by
 obtain ⟨h0, h1 | ⟨b, cap, cur, rfl, _, hh⟩⟩ := h
 · exact ⟨h0, .inl h1⟩
 · exact ⟨h0, .inr ⟨b, cap, cur, rfl, hg b rfl, hh⟩⟩
def UnR (w w' : World) (s : List UInt8) (e : Ending) : Prop := Only [] w w' ∧ match unSt s with
 | none => e = .returned (.tuple #[.pointer none, .bool false])
 | some S => ∃ b K, e = .returned (.tuple #[.pointer (some ⟨b, 0, none⟩), .bool true]) ∧ Rs w' b K S ∧ ∀ x ∈ K, w.heap.size ≤ x
theorem rs_unpack (s : List UInt8) (hs : s.length ≤ 1000000000000) (w : World) :
 Calls Tryz.prog 180 #[.string ⟨s.toArray⟩] w fun e w' => UnR w w' s e := by
 obtain ⟨w1, hw1⟩ : ∃ u, w.alloc (.cells #[.string ⟨s.toArray⟩, .bool true] 283) = u := ⟨_, rfl⟩
 obtain ⟨z, hz⟩ : ∃ z, w.heap.size = z := ⟨_, rfl⟩
 have HA1 : Hid (TrAt w1 z ⟨s, false⟩) := Hd ⟨hw1 ▸ hz ▸ Cells.new w _ _, hs⟩
 have HO1 : Hid (Only [] w w1) := Hd (hw1 ▸ oz.alloc _)
 have HZ := Hd hz
 have HU := Hd (unSt_int s)
 obtain ⟨r1, hr1⟩ : ∃ q, (⟨s, false⟩ : Rd).int.2 = q := ⟨_, rfl⟩
 obtain ⟨n, hn⟩ : ∃ q, (⟨s, false⟩ : Rd).int.1 = q := ⟨_, rfl⟩
 have C1 := Hd (tr_int z ⟨s, false⟩ w1 HA1.out)
 rw [hr1] at C1 HU
 rw [hn] at C1 HU
 clear hr1 hn
 go_enter Tryz.func180, Tryz.ntmps180
 go_wp2_with fail
 clear hw1 hz
 refine C1.out.mono ?_
 rintro e w3 ⟨rfl, hA, ho⟩
 have hwz : w.heap.size ≤ z := by have := HZ.out; omega
 have HA3 := Hd hA
 have HO3 : Hid (Only [] w w3) := Hd (HO1.out.trans ho (fun x hx => by simp at hx; subst hx; exact .inr hwz))
 have s1 := hA.1.cell (k := 1) rfl
 clear hA ho C1 HA1 HO1 HZ
 obtain ⟨t0, b0⟩ := r1
 dsimp only at s1
 have HBAD : Hid (unSt s = none → UnR w w3 s (.returned (.tuple #[.pointer none, .bool false]))) := Hd (fun h => ⟨HO3.out, by rw [h]⟩)
 cases b0 with
 | true =>
  have hu : unSt s = none := by rw [HU.out, if_neg (by simp)]
  have HFIN := Hd (HBAD.out hu)
  clear HU hu HBAD
  go_wp2_with fail
  go_ret2
  exact HFIN.out
 | false =>
 by_cases n0 : n < 0
 · have hu : unSt s = none := by rw [HU.out, if_neg (fun h => by have := h.2.1; omega)]
   have HFIN := Hd (HBAD.out hu)
   have d0 : decide (n < 0) = true := decide_eq_true n0
   clear HU hu HBAD
   go_wp2_with fail
   go_ret2
   exact HFIN.out
 have d0 : decide (n < 0) = false := decide_eq_false n0
 by_cases n1 : 20 < n
 · have hu : unSt s = none := by rw [HU.out, if_neg (fun h => by have := h.2.2; omega)]
   have HFIN := Hd (HBAD.out hu)
   have d1 : decide (20 < n) = true := decide_eq_true n1
   clear HU hu HBAD
   go_wp2_with fail
   go_ret2
   exact HFIN.out
 have d1 : decide (20 < n) = false := decide_eq_false n1
 obtain ⟨N, hN⟩ : ∃ N : Nat, n.toNat = N := ⟨_, rfl⟩
 have hn : n = (N : Int) := by omega
 have hN2 : N ≤ 20 := by omega
 have HR : Hid (unSt s = match rdFs N [] t0 with | none => none | some (S, u) => if u = [] then some S else none) := Hd (by rw [HU.out, if_pos ⟨rfl, by omega, by omega⟩, hN])
 subst hn
 clear HU HBAD hN
 go_upto_region 7 with fail
 obtain ⟨w5, hw5⟩ : ∃ u, w3.alloc (.cells #[.slice none 0 0] 128) = u := ⟨_, rfl⟩
 obtain ⟨o, ho⟩ : ∃ o, w3.heap.size = o := ⟨_, rfl⟩
 have o5 : Only [] w3 w5 := hw5 ▸ oz.alloc _
 have hX5 : RsX w5 o (.slice none 0 0) [] := hw5 ▸ ho ▸ ⟨Cells.new w3 _ _, World.ownsRow_nil _ _ _ _, by simp, by simp, List.Pairwise.nil, by simp, by simp, by simp⟩
 rw [hw5, ho]
 have HA5 := Hd (HA3.out.only o5 (by simp))
 have HO5 := Hd (HO3.out.tr0 o5)
 have HX5 := Hd hX5
 have hzo : z < o := by have := HA3.out.lt; omega
 clear hw5 ho o5 hX5 HA3 HO3 s1 d0 d1
 obtain ⟨i0, hi0, hz0, hz1, hz2⟩ := info_parts info_rfeed
 go_loopw [7] (fun i wr => ∃ (k : Nat) (t : List UInt8) (lv : Value) (T : List Rf), k ≤ N ∧ i = .int .i64 k ∧ T.length = k ∧ Hid (TrAt wr z ⟨t, false⟩) ∧ Hid (Only [] w wr) ∧ Hid (RsX wr o lv T) ∧ Hid (∀ t ∈ T, ∀ g, t.v.ownBlock = some g → ∃ cs, Cells wr g 101 cs) ∧ Hid (∀ x ∈ allR o lv T, z < x) ∧ Hid (rdFs N [] t0 = rdFs (N - k) (pR T) t)) (fun i _ => N - (intOf i).toNat)
 case atStart => exact ⟨0, t0, .slice none 0 0, [], by omega, rfl, rfl, HA5, HO5, HX5, Hd (by simp), Hd (by intro x hx; simp [allR, rb, Value.ownBlock] at hx; omega), Hd rfl⟩
 case round =>
  obtain ⟨k, t, lv, T, hk, rfl, hT, HA, HO, HX, HP, HV, HN⟩ := hrel
  by_cases hlt : k < N
  · have hlt' : (k : Int) < (N : Int) := by omega
    have CS := Hd (tr_feed z ⟨t, false⟩ wr HA.out rfl)
    have htl := HA.out.2
    have hnext : rdFs N [] t0 = match rdFd t with | none => none | some (x, u) => if lastN (pR T) < x.1 then rdFs (N - (k + 1)) (pR T ++ [x]) u else none := by
     rw [HN.out, show N - k = (N - (k + 1)) + 1 from by omega]
     rfl
    have HNX := Hd hnext
    clear hnext HN
    go_wp2_with fail
    refine CS.out.mono ?_
    rintro e w4 ⟨⟨t4, bad⟩, nm, pol, fai, PA, pm, pc, ok, rfl, hA, ho, hnl, hm⟩
    obtain ⟨w6, hw6⟩ : ∃ u, w4.alloc (.cells #[.string ⟨nm.toArray⟩, .int .i64 pol, .int .i64 fai, .slice PA pm pc] 142) = u := ⟨_, rfl⟩
    obtain ⟨y, hy⟩ : ∃ y, w4.heap.size = y := ⟨_, rfl⟩
    have o6 : Only [] w4 w6 := hw6 ▸ oz.alloc _
    have hY : Cells w6 y 142 [.string ⟨nm.toArray⟩, .int .i64 pol, .int .i64 fai, .slice PA pm pc] := hw6 ▸ hy ▸ Cells.new w4 _ _
    have HO6 := Hd ((HO.out.trans ho (fun x hx => by simp at hx; subst hx; exact .inr hwz)).tr0 o6)
    have HA6 := Hd (hA.only o6 (by simp))
    have HX6 := Hd ((HX.out.keep ho (by intro x hx hz; simp at hz; subst hz; exact absurd (HV.out x hx) (Nat.lt_irrefl _))).only o6)
    have HY6 := Hd hY
    have HYL : Hid (∀ x ∈ allR o lv T, x < y) := Hd (fun x hx => by have := HX.out.lts x hx; have := ho.size; omega)
    have HXL : Hid (∀ x ∈ allR o lv T, x < wr.heap.size) := Hd HX.out.lts
    have HP6 : Hid (∀ t ∈ T, ∀ g, t.v.ownBlock = some g → ∃ cs, Cells w6 g 101 cs) := Hd (fun t ht g hg => by
     obtain ⟨cs, h1⟩ := HP.out t ht g hg
     exact ⟨cs, (h1.only ho (by have := HV.out g (mem_allR ht hg); simp; omega)).only o6 (by simp)⟩)
    have HWS : Hid (wr.heap.size ≤ y) := Hd (by have := ho.size; omega)
    have hyl : y < w6.heap.size := hY.lt
    dsimp only at hm
    have HM : Hid (match rdFd t with | none => ok = false | some (x, t') => ok = true ∧ (⟨t4, bad⟩ : Rd) = ⟨t', false⟩ ∧ nm = x.1 ∧ pol = x.2.pol ∧ fai = x.2.fai ∧ RfS w6 (.slice PA pm pc) 5 x.2.ps.length (poL x.2.ps) ∧ ∀ g, (Value.slice PA pm pc).ownBlock = some g → wr.heap.size ≤ g ∧ g < y ∧ ∃ cs, Cells w6 g 101 cs) := Hd (by
     cases hrd : rdFd t with
     | none => rw [hrd] at hm; exact hm
     | some x =>
      rw [hrd] at hm
      obtain ⟨a1, a2, a3, a4, a5, a6, a7⟩ := hm
      exact ⟨a1, a2, a3, a4, a5, a6.only o6, fun g hg => by
       obtain ⟨b1, b2, cs, b3⟩ := a7 g hg
       exact ⟨b1, by rw [← hy]; exact b2, cs, b3.only o6 (by simp)⟩⟩)
    clear hm hA ho o6 hY CS HA HO HX HP
    go_upto_region 10 with fail
    clear hw6 hy
    cases hrd : rdFd t with
    | none =>
     have hM := HM.out
     rw [hrd] at hM
     dsimp only at hM
     subst hM
     have hu : unSt s = none := by rw [HR.out, HNX.out, hrd]
     have HFIN : Hid (∀ w', Only [] w6 w' → UnR w w' s (.returned (.tuple #[.pointer none, .bool false]))) := Hd (fun w' ho => ⟨HO6.out.tr0 ho, by rw [hu]⟩)
     clear hu HR HNX HM hrd
     refine wp_region_only w6 oz (by kernel_rfl) (by kernel_rfl) ?_
     repeat (go_big_quiet_step (fail))
     refine wpQuiet_nil ?_
     rintro ⟨w7, ho7⟩
     dsimp only
     go_wp2_with fail
     go_ret2
     exact HFIN.out _ ho7
    | some x =>
    obtain ⟨⟨nm', fd⟩, u⟩ := x
    have hM := HM.out
    rw [hrd] at hM
    obtain ⟨rfl, hr', rfl, rfl, rfl, hrf, hfl⟩ := hM
    injection hr' with e1 e2
    subst e1; subst e2
    dsimp only at hrf hfl hnl HY6
    have hfd := (rdFd_iff t _ _ htl).1 hrd
    have hnm : nmL nm = true := hfd.2.1
    obtain ⟨q, hq⟩ : ∃ q, (!decide (lastN (pR T) < nm)) = q := ⟨_, rfl⟩
    have HQ := Hd hq
    have HRD := Hd hrd
    have HFJ := Hd hfd.1
    have HRF := Hd hrf
    have HFL := Hd hfl
    clear hq hrd hfd hrf hfl HM
    go_cut [59] from 30 to 69 (fun v wx => v = .bool q ∧ Hid (Only [] w6 wx))
    case first =>
     have y0 := fun u : Since w6 => u.cell (HY6.out.cell (k := 0) rfl)
     have x0 := fun u : Since w6 => u.cell (HX6.out.cells.cell (k := 0) rfl)
     by_cases hk0 : k = 0
     · have dk : decide (0 < k) = false := by simp; omega
       have e : Hid (false = q) := Hd (by
        rw [← HQ.out]
        have hT0 : T = [] := List.length_eq_zero_iff.1 (by omega)
        rw [hT0]
        have : ([] : List UInt8) < nm := by
         have h1 := (nmL_len hnm).1
         cases nm with
         | nil => simp at h1
         | cons a b => exact List.nil_lt_cons a b
        unfold lastN pR
        simp [this])
       clear hk0
       refine wp_region_only w6 oz (by kernel_rfl) (by kernel_rfl) ?_
       repeat (go_big_quiet_step (fail))
       refine wpQuiet_nil ?_
       rintro ⟨w7, ho7⟩
       dsimp only
       go_wp2_with fail
       go_meet
       exact ⟨by rw [← e.out], Hd ho7⟩
     · have dk : decide (0 < k) = true := by simp; omega
       obtain ⟨tl, htl⟩ : ∃ t, T[k - 1]? = some t := ⟨_, List.getElem?_eq_getElem (by omega)⟩
       obtain ⟨g, c', rfl, hg, q0, _⟩ := HX6.out.at_ htl
       have hks : (k : Int) - 1 = ((k - 1 : Nat) : Int) := by omega
       have hwr : IntKind.i64.wrap ((k : Int) - 1) = ((k - 1 : Nat) : Int) := by rw [IntKind.wrap_i64]; omega
       have u1 := fun u : Since w6 => u.cell q0
       have hlast : lastN (pR T) = tl.nm := by
        unfold lastN pR
        rw [List.getLast?_map, List.getLast?_eq_getElem?, hT, htl]
        rfl
       have hk1 : ((k - 1 : Nat) : Int) < (k : Int) := by omega
       rw [hT] at x0
       by_cases hls : lastN (pR T) < nm
       · have e : Hid (false = q) := Hd (by rw [← HQ.out]; simp [hls])
         rw [hlast] at hls
         have hless : Op.bytesLess nm tl.nm = false := by rw [bytesLess_eq]; simpa using List.not_lt.2 (List.le_of_lt hls)
         have heq : (nm == tl.nm) = false := by simpa using fun e => List.lt_irrefl _ (e ▸ hls)
         clear hlast hls hks
         refine wp_region_only w6 oz (by kernel_rfl) (by kernel_rfl) ?_
         repeat (go_big_quiet_step (fail))
         refine wpQuiet_nil ?_
         rintro ⟨w7, ho7⟩
         dsimp only
         go_wp2_with fail
         go_meet
         exact ⟨by rw [← e.out], Hd ho7⟩
       · have e : Hid (true = q) := Hd (by rw [← HQ.out]; simp [hls])
         rw [hlast] at hls
         by_cases hlt2 : nm < tl.nm
         · have hless : Op.bytesLess nm tl.nm = true := by rw [bytesLess_eq]; simpa using hlt2
           clear hlast hls hks
           refine wp_region_only w6 oz (by kernel_rfl) (by kernel_rfl) ?_
           repeat (go_big_quiet_step (fail))
           refine wpQuiet_nil ?_
           rintro ⟨w7, ho7⟩
           dsimp only
           go_wp2_with fail
           go_meet
           exact ⟨by rw [← e.out], Hd ho7⟩
         · have hless : Op.bytesLess nm tl.nm = false := by rw [bytesLess_eq]; simpa using hlt2
           have heq : (nm == tl.nm) = true := by simpa using List.le_antisymm (List.not_lt.1 hls) (List.not_lt.1 hlt2)
           clear hlast hls hks
           refine wp_region_only w6 oz (by kernel_rfl) (by kernel_rfl) ?_
           repeat (go_big_quiet_step (fail))
           refine wpQuiet_nil ?_
           rintro ⟨w7, ho7⟩
           dsimp only
           go_wp2_with fail
           go_meet
           exact ⟨by rw [← e.out], Hd ho7⟩
    case rest =>
    obtain ⟨rfl, HWC⟩ := hcut
    have HO7 := Hd (HO6.out.tr0 HWC.out)
    have HA7 := Hd (HA6.out.only HWC.out (by simp))
    have HX7 := Hd (HX6.out.only HWC.out)
    have HY7 := Hd (HY6.out.only HWC.out (by simp))
    have HRF7 := Hd (HRF.out.only HWC.out)
    have hyl7 : y < wc.heap.size := HY7.out.lt
    have HP7 : Hid (∀ t ∈ T, ∀ g, t.v.ownBlock = some g → ∃ cs, Cells wc g 101 cs) := Hd (fun t ht g hg => by
     obtain ⟨cs, h1⟩ := HP6.out t ht g hg
     exact ⟨cs, h1.only HWC.out (by simp)⟩)
    have HFL7 : Hid (∀ g, (Value.slice PA pm pc).ownBlock = some g → wr.heap.size ≤ g ∧ g < y ∧ ∃ cs, Cells wc g 101 cs) := Hd (fun g hg => by
     obtain ⟨b1, b2, cs, b3⟩ := HFL.out g hg
     exact ⟨b1, b2, cs, b3.only HWC.out (by simp)⟩)
    clear HO6 HA6 HX6 HY6 HRF HWC hyl HP6 HFL
    cases q with
    | true =>
     have hls : ¬ lastN (pR T) < nm := by simpa using HQ.out
     have hu : unSt s = none := by rw [HR.out, HNX.out, HRD.out]; dsimp only; rw [if_neg hls]
     have HFIN : Hid (UnR w wc s (.returned (.tuple #[.pointer none, .bool false]))) := Hd ⟨HO7.out, by rw [hu]⟩
     clear hls hu HR HNX HRD HQ
     go_wp2_with fail
     go_ret2
     exact HFIN.out
    | false =>
    have hls : lastN (pR T) < nm := by simpa using HQ.out
    have hHN : rdFs N [] t0 = rdFs (N - (k + 1)) (pR T ++ [(nm, fd)]) t4 := by rw [HNX.out, HRD.out]; dsimp only; rw [if_pos hls]
    have HN8 := Hd hHN
    have HLS := Hd hls
    have HNM := Hd hnm
    clear hls hHN HNX HRD HQ hnm
    go_upto_region 12 with fail
    have hX7 := HX7.out
    have HROW := Hd (own_up (B := z + 1) hX7.row (fun g hg => HV.out g (by unfold allR; exact List.mem_cons_of_mem _ (List.mem_append_left _ (mem_rb'.2 hg)))))
    have hlv : lv.ownBlock ≠ some y := fun e => by have := HYL.out y (by unfold allR; exact List.mem_cons_of_mem _ (List.mem_append_left _ (mem_rb'.2 e))); omega
    have hoy : o ≠ y := fun e => by have := HYL.out o (by simp [allR]); omega
    have hvb := hX7.vb
    have HVB := Hd hvb
    have hb7 : ∀ y, y ∈ bsOf [rowOwn 7 lv, cellOwn 10 o 128 [lv] 0 67] [7] → y ∈ rb lv := fun y hy => by simpa [bsOf, rowOwn, cellOwn, rb] using hy
    have hon : o ∉ rb lv := fun hm => hvb (mem_rb'.1 hm)
    have hyn : y ∉ rb lv := fun hm => hlv (mem_rb'.1 hm)
    have s0 : ∀ u : SinceS (bsOf [rowOwn 7 lv, cellOwn 10 o 128 [lv] 0 67] [7]) wc, u.w.cell? ⟨o, 0, none⟩ = some lv := fun u => u.cell (hX7.cells.cell (k := 0) rfl) (fun h => hon (hb7 _ h))
    have q0 : ∀ u : SinceS (bsOf [rowOwn 7 lv, cellOwn 10 o 128 [lv] 0 67] [7]) wc, u.w.cell? ⟨y, 0, none⟩ = some (.string ⟨nm.toArray⟩) := fun u => u.cell (HY7.out.cell (k := 0) rfl) (fun h => hyn (hb7 _ h))
    have q1 : ∀ u : SinceS (bsOf [rowOwn 7 lv, cellOwn 10 o 128 [lv] 0 67] [7]) wc, u.w.cell? ⟨y, 1, none⟩ = some (.int .i64 fd.pol) := fun u => u.cell (HY7.out.cell (k := 1) rfl) (fun h => hyn (hb7 _ h))
    have q2 : ∀ u : SinceS (bsOf [rowOwn 7 lv, cellOwn 10 o 128 [lv] 0 67] [7]) wc, u.w.cell? ⟨y, 2, none⟩ = some (.int .i64 fd.fai) := fun u => u.cell (HY7.out.cell (k := 2) rfl) (fun h => hyn (hb7 _ h))
    have q3 : ∀ u : SinceS (bsOf [rowOwn 7 lv, cellOwn 10 o 128 [lv] 0 67] [7]) wc, u.w.cell? ⟨y, 3, none⟩ = some (.slice PA pm pc) := fun u => u.cell (HY7.out.cell (k := 3) rfl) (fun h => hyn (hb7 _ h))
    have HCT := Hd hX7.cells
    have how : o < wc.heap.size := hX7.cells.lt
    have HZN := Hd hon
    clear hon hyn hX7 hb7
    refine wp_region_pendM wc oz [(66, OwW wc.heap.size 142 4 1 [.string ⟨nm.toArray⟩, .int .i64 fd.pol, .int .i64 fd.fai, .slice PA pm pc]), (67, OwW (z + 1) 142 4 (k + 1) (rfL T ++ [.string ⟨nm.toArray⟩, .int .i64 fd.pol, .int .i64 fd.fai, .slice PA pm pc]))] [] [rowOwn 7 lv, cellOwn 10 o 128 [lv] 0 67] 11 (by intro p hp; simp at hp; rcases hp with rfl | rfl <;> exact OwW.lasts _ _ _ _ _) (by intro y hy; simp at hy; rcases hy with rfl | rfl; exact rowOwn_ok HROW.out; exact cellOwn_ok how) (by intro y y' hy hy' hne b hb hb'; simp at hy hy'; rcases hy with rfl | rfl <;> rcases hy' with rfl | rfl <;> simp [rowOwn, cellOwn] at hne hb hb' <;> (first | exact HZN.out (by simpa [rb, hb'] using hb) | exact HZN.out (by simpa [rb, hb] using hb'))) (by kernel_rfl) (by kernel_rfl) (by decide) (fun val => ?_)
    simp only [tk1, tk0, dr1, dr0]
    refine fit_segM 6 [7] (by kernel_rfl) ?_
    simp only [tk1, tk0, dr1, dr0]
    repeat (go_big_quiet_step (fail))
    refine wpQuiet_nil ?_
    refine fit_litO 66 142 4 [.string ⟨nm.toArray⟩, .int .i64 fd.pol, .int .i64 fd.fai, .slice PA pm pc] 1 rfl rfl (by simp) (by simp) rfl (by decide) (fun w7 => by go_simp) rfl ?_
    simp only [Act.put, sia, sc0, sc1]
    refine fit_appendM 67 (.tmp 64) (.tmp 66) 126 142 i0 (.agg #[.string .empty, .int .i64 0, .int .i64 0, .slice none 0 0]) 4 56 Tryz.underlying126 hi0 hz0 hz1 hz2 rfl (by decide) (z + 1) lv k 1 (k + 1) (rfL T) [.string ⟨nm.toArray⟩, .int .i64 fd.pol, .int .i64 fd.fai, .slice PA pm pc] (rfL T ++ [.string ⟨nm.toArray⟩, .int .i64 fd.pol, .int .i64 fd.fai, .slice PA pm pc]) rfl rfl rfl rfl rfl (by simp) (by simp) rfl (by have := HROW.out; rw [hT] at this; exact this) (by simp [rows, rowOwn, cellOwn]) (by intro y hy hyi; simp at hy; rcases hy with rfl | rfl; rfl; exact absurd hyi (by simp [rowOwn, cellOwn])) [] (by kernel_rfl) (by intro b hb; simp [bsOf] at hb) (by omega) (fun w7 hw7 => SrcA.own (hw7.2 (66, OwW wc.heap.size 142 4 1 [.string ⟨nm.toArray⟩, .int .i64 fd.pol, .int .i64 fd.fai, .slice PA pm pc]) (by simp) (by show 66 ∈ Oper.looksAt _ _; decide)) (by simp [Value.oneCell'])) (by unfold maxLen; omega) (by omega) ?_
    simp only [Act.put, sia, sc0, sc1]
    refine fit_segM 2 [7, 10] (by kernel_rfl) ?_
    simp only [tk1, tk0, dr1, dr0]
    repeat (go_big_quiet_step (fail))
    refine wpQuiet_nil ?_
    refine fit_storeW o 128 [lv] 0 67 (z + 1) 142 4 (k + 1) (rfL T ++ [.string ⟨nm.toArray⟩, .int .i64 fd.pol, .int .i64 fd.fai, .slice PA pm pc]) rfl rfl (by simp) (by show 67 ∈ Oper.looksAt _ _; decide) HCT.out [7] (by kernel_rfl) (fun h => HZN.out (by simpa [bsOf, rowOwn, cellOwn, rb] using h)) (by simp [mine, rowOwn, cellOwn]) (by intro y hy hyi; simp at hy; rcases hy with rfl | rfl; exact absurd hyi (by simp [rowOwn, cellOwn]); rfl) (fun w7 A m c hA hC7 => by have d0 := hC7.cell (k := 0) rfl; have f0 := hC7.frozen 0; rw [hA]; go_simp) ?_
    simp only [Act.put, sia, sc0, sc1]
    intro w8 ho8 hV8 hF8
    have hown8 := hV8 (67, OwW (z + 1) 142 4 (k + 1) (rfL T ++ [.string ⟨nm.toArray⟩, .int .i64 fd.pol, .int .i64 fd.fai, .slice PA pm pc])) (by simp) (by simp)
    have hown8 : w8.ownsRow (z + 1) 142 4 (val 67) (k + 1) (rfL T ++ [.string ⟨nm.toArray⟩, .int .i64 fd.pol, .int .i64 fd.fai, .slice PA pm pc]) := hown8
    have hC8 : Cells w8 o 128 [val 67] := hF8 (cellOwn 10 o 128 [lv] 0 67) (by simp) rfl
    obtain ⟨lv', hlv'⟩ : ∃ u, val 67 = u := ⟨_, rfl⟩
    rw [hlv'] at hown8 hC8
    clear hV8 hF8 hlv' s0 q0 q1 q2 q3
    have hmem : ∀ x, x ∈ allM [rowOwn 7 lv, cellOwn 10 o 128 [lv] 0 67] → lv.ownBlock = some x ∨ x = o := fun x hx => by
     simp [allM, rowOwn, cellOwn] at hx
     exact hx
    have hX7 := HX7.out
    have hTne : ∀ t ∈ T, ∀ g, t.v.ownBlock = some g → g ∉ allM [rowOwn 7 lv, cellOwn 10 o 128 [lv] 0 67] := fun t ht g hg hm => by
     have := hX7.pb t ht g hg
     rcases hmem g hm with h | h
     · exact this.2.2 h
     · exact this.2.1 h
    have hPne : ∀ g, (Value.slice PA pm pc).ownBlock = some g → g ∉ allM [rowOwn 7 lv, cellOwn 10 o 128 [lv] 0 67] := fun g hg hm => by
     have h1 := (HFL7.out g hg).1
     rcases hmem g hm with h | h
     · have := HXL.out g (by unfold allR; exact List.mem_cons_of_mem _ (List.mem_append_left _ (mem_rb'.2 h))); omega
     · have := HXL.out g (by rw [h]; simp [allR]); omega
    have hPT : ∀ t ∈ T ++ [(⟨nm, fd, .slice PA pm pc⟩ : Rf)], ∀ g, t.v.ownBlock = some g → ∃ cs, Cells w8 g 101 cs := fun t ht g hg => by
     rcases List.mem_append.1 ht with ht | ht
     · obtain ⟨cs, h1⟩ := HP7.out t ht g hg
       exact ⟨cs, h1.only ho8 (hTne t ht g hg)⟩
     · obtain rfl := List.mem_singleton.1 ht
       obtain ⟨_, _, cs, h1⟩ := HFL7.out g hg
       exact ⟨cs, h1.only ho8 (hPne g hg)⟩
    have hall : ∀ a ∈ T, a.nm < nm := fun a ha => last_lt (S := pR T) (by unfold pR; rw [List.pairwise_map]; exact hX7.srt) HLS.out (a.nm, a.fd) (List.mem_map_of_mem (f := fun t : Rf => (t.nm, t.fd)) ha)
    have hX8 : RsX w8 o lv' (T ++ [⟨nm, fd, .slice PA pm pc⟩]) := by
     refine ⟨hC8, ?_, ?_, ?_, ?_, ?_, ?_, ?_⟩
     · have : rfL (T ++ [(⟨nm, fd, .slice PA pm pc⟩ : Rf)]) = rfL T ++ [.string ⟨nm.toArray⟩, .int .i64 fd.pol, .int .i64 fd.fai, .slice PA pm pc] := by unfold rfL; rw [List.flatMap_append]; rfl
       rw [this, List.length_append, hT]
       exact own_low hown8 (Nat.zero_le _)
     · intro t ht
       rcases List.mem_append.1 ht with ht | ht
       · exact (hX7.ps t ht).keep ho8 (fun x hx e => hTne t ht x e hx)
       · obtain rfl := List.mem_singleton.1 ht
         exact HRF7.out.keep ho8 (fun x hx e => hPne x e hx)
     · intro t ht g hg
       obtain ⟨cs, h1⟩ := hPT t ht g hg
       refine ⟨h1.lt, ?_, own_ne_block hown8 h1 (by decide)⟩
       rintro rfl
       have := h1.symm.trans hC8
       injection this with this
       injection this with _ h2
       exact absurd h2 (by decide)
     · refine List.pairwise_append.2 ⟨hX7.srt, List.pairwise_singleton _ _, fun a ha b hb => ?_⟩
       obtain rfl := List.mem_singleton.1 hb
       exact hall a ha
     · rw [List.length_append, hT]; show k + 1 ≤ 20; omega
     · intro t ht
       rcases List.mem_append.1 ht with ht | ht
       · exact hX7.nml t ht
       · obtain rfl := List.mem_singleton.1 ht
         exact HNM.out
     · intro t ht
       rcases List.mem_append.1 ht with ht | ht
       · exact hX7.fg t ht
       · obtain rfl := List.mem_singleton.1 ht
         exact ⟨HFJ.out.i.ps.n, HFJ.out.i.nb⟩
    have hoz : z ∉ allM [rowOwn 7 lv, cellOwn 10 o 128 [lv] 0 67] := fun hm => by
     rcases hmem z hm with h | h
     · exact absurd (HV.out z (by unfold allR; exact List.mem_cons_of_mem _ (List.mem_append_left _ (mem_rb'.2 h)))) (Nat.lt_irrefl _)
     · omega
    have HX8 := Hd hX8
    have HP8 := Hd hPT
    have HA8 := Hd (HA7.out.only ho8 hoz)
    have HO8 : Hid (Only [] w w8) := Hd (HO7.out.trans ho8 (fun x hx => by
     rcases hmem x hx with h | h
     · have := HV.out x (by unfold allR; exact List.mem_cons_of_mem _ (List.mem_append_left _ (mem_rb'.2 h))); exact .inr (by omega)
     · exact .inr (by omega)))
    have hl8 : (T ++ [(⟨nm, fd, .slice PA pm pc⟩ : Rf)]).length = k + 1 := by simp [hT]
    have HV8 : Hid (∀ x ∈ allR o lv' (T ++ [(⟨nm, fd, .slice PA pm pc⟩ : Rf)]), z < x) := Hd (fun x hx => by
     unfold allR at hx
     rw [List.flatMap_append] at hx
     simp only [List.mem_cons, List.mem_append] at hx
     rcases hx with rfl | hx | hx | hx
     · omega
     · exact (hown8.lt x (mem_rb'.1 hx)).1
     · exact HV.out x (by unfold allR; exact List.mem_cons_of_mem _ (List.mem_append_right _ hx))
     · have h1 := (HFL7.out x (mem_rb'.1 (by simpa using hx))).1
       have h2 := HXL.out o (by simp [allR])
       omega)
    have HN9 : Hid (rdFs N [] t0 = rdFs (N - (k + 1)) (pR (T ++ [(⟨nm, fd, .slice PA pm pc⟩ : Rf)])) t4) := Hd (by rw [HN8.out]; unfold pR; rw [List.map_append]; rfl)
    clear hown8 hC8 hmem hX7 hTne hPne hPT hall hX8 hoz ho8
    go_wp2_with fail
    go_roundw
    case rel => exact ⟨k + 1, t4, lv', _, by omega, by go_num, hl8, HA8, HO8, HX8, HP8, HV8, HN9⟩
    case measure => simp [intOf]; omega
  · have hlt' : ¬ (k : Int) < (N : Int) := by omega
    have hkN : k = N := by omega
    have hend : unSt s = if t = [] then some (pR T) else none := by
     rw [HR.out, HN.out, hkN, Nat.sub_self]
     rfl
    have s0 := HA.out.1.cell (k := 0) rfl
    dsimp only at s0
    by_cases ht : t = []
    · have HFIN : Hid (UnR w wr s (.returned (.tuple #[.pointer (some ⟨o, 0, none⟩), .bool true]))) := Hd (by
       refine ⟨HO.out, ?_⟩
       rw [hend, if_pos ht]
       exact ⟨o, allR o lv T, rfl, ⟨lv, T, HX.out, rfl, rfl⟩, fun x hx => by have := HV.out x hx; omega⟩)
      subst ht
      clear hend HR HN
      go_wp2_with fail
      go_ret2
      exact HFIN.out
    · have HFIN : Hid (UnR w wr s (.returned (.tuple #[.pointer none, .bool false]))) := Hd ⟨HO.out, by rw [hend, if_neg ht]⟩
      have hte : t.isEmpty = false := by cases t with | nil => exact absurd rfl ht | cons => rfl
      clear hend HR HN
      go_wp2_with fail
      go_ret2
      exact HFIN.out
end Go.Proofs.YtcjfmildalappaaGreat
