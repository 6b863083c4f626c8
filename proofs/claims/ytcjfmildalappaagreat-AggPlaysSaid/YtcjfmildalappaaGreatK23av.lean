/-
  Contracts; each theorem bears its own conditions.
-/
import Derived.Laws.StructEq
import Derived.Test.YtcjfmildalappaaGreatK23al
import Derived.Test.YtcjfmildalappaaGreatK23au
set_option linter.all false
set_option maxRecDepth 100000
set_option maxHeartbeats 8000000
namespace Go.Proofs.YtcjfmildalappaaGreat
open Go.RowKit
theorem SlAt.past {S : List Nat} {w w' : World} {B sz n : Nat} {v : Value} {xs : List Value} (h : SlAt w B v sz n xs) (ho : Only S w w') (hB : B ≤ w.heap.size) (hS : ∀ g, v.ownBlock = some g → g ∉ S) : SlAt w' B v sz n xs := by
 obtain ⟨hl, A, c, rfl, hnc, hc, h⟩ := h
 refine ⟨hl, A, c, rfl, hnc, hc, fun hn => ?_⟩
 obtain ⟨b, o, rfl, hb, hh⟩ := h hn
 exact ⟨b, o, rfl, hb, fun j u hu => (ho.cell (p := ⟨b, o + j, none⟩) (show b < _ by omega) (fun hm => hS b rfl hm)).trans (hh j u hu)⟩
theorem RpAt.past {S : List Nat} {w w' : World} {pv : Value} {r : Rp} (h : RpAt w pv r) (ho : Only S w w') (hS : ∀ g, pv.ownBlock = some g → g ∉ S) : RpAt w' pv r := ⟨(h.ps.past ho (Nat.le_refl _) hS).more ho.size, h.er, h.n, h.sm, h.len⟩
def clA (a : AgS) (c : Cm) : Rp × AgS :=
 if (S15.askS a.t.l c.ss c.sq).1 = 3 then (errR 17, a)
 else if (S15.askS a.t.l c.ss c.sq).1 = 2 then (errR 18, a)
 else if (S15.askS a.t.l c.ss c.sq).1 = 1 then (keptR (S15.askS a.t.l c.ss c.sq).2, a)
 else ((cliA a.s c).1, ⟨⟨S15.doneL a.t.l c.ss c.sq ⟨(rpb (cliA a.s c).1).toArray⟩, a.t.ever⟩, a.d, (cliA a.s c).2⟩)
theorem doA_cl {a : AgS} {c : Cm} (hr : rightB c = true) (hc : clB c.kd = true) : doA a c = clA a c := by
 unfold doA clA
 rw [if_neg (by simp [hr]), if_neg (by simp [hc])]
theorem ag_one (p : Nat) (K : List Nat) (a : AgS) (n : Nat) (c : Cm) (iv : Value) (hI : AgI n a) (hfd : c.fd.length ≤ maxLen) (hid : c.id.length ≤ maxLen) :
 (c.kd = 2 → ∀ w, AgAt w p K a → Calls Tryz.prog 124 #[.pointer (some ⟨p, 0, none⟩), c.val iv] w fun e w' => ReO w w' p K (cliA a.s c).1 ⟨a.t, a.d, (cliA a.s c).2⟩ e) ∧
 (c.kd = 3 → ∀ w, AgAt w p K a → Calls Tryz.prog 125 #[.pointer (some ⟨p, 0, none⟩), c.val iv] w fun e w' => ReO w w' p K (cliA a.s c).1 ⟨a.t, a.d, (cliA a.s c).2⟩ e) ∧
 (c.kd = 4 → ∀ w, AgAt w p K a → Calls Tryz.prog 126 #[.pointer (some ⟨p, 0, none⟩), c.val iv] w fun e w' => ReO w w' p K (cliA a.s c).1 ⟨a.t, a.d, (cliA a.s c).2⟩ e) ∧
 (c.kd ≠ 2 → c.kd ≠ 3 → c.kd ≠ 4 → ∀ w, AgAt w p K a → Calls Tryz.prog 123 #[.pointer (some ⟨p, 0, none⟩), c.val iv] w fun e w' => ReO w w' p K (cliA a.s c).1 ⟨a.t, a.d, (cliA a.s c).2⟩ e) := by
 unfold cliA
 refine ⟨fun h w hA => ?_, fun h w hA => ?_, fun h w hA => ?_, fun h2 h3 h4 w hA => ?_⟩
 · rw [if_pos h]; exact ag_subscribe p K a c iv w hA hfd hid
 · rw [if_neg (by omega), if_pos h]; exact ag_unsubscribe p K a c iv w hA hfd hid
 · rw [if_neg (by omega), if_neg (by omega), if_pos h]; exact ag_mark p K a c iv w hA hfd hid
 · rw [if_neg h2, if_neg h3, if_neg h4]; exact ag_list p K a n c iv w hA hI hfd
theorem kept_read {r : Rp} (h : RpK r) (w : World) : Calls Tryz.prog 122 #[.string ⟨(rpb r).toArray⟩] w fun e w' => ∃ pv, e = .returned (.tuple #[r.val pv, .int .i64 0]) ∧ RpAt w' pv r ∧ Only [] w w' ∧ ∀ g, pv.ownBlock = some g → w.heap.size ≤ g := by
 refine (cmd_toAnswer (rpb r) w (by have := h.le; omega)).mono ?_
 rintro e w' ⟨pv, he, hp, ho, hn⟩
 have hu : unA (rpb r) = some r := (unA_iff _ (by have := h.le; omega) r).2 ⟨h.ok, rfl⟩
 rw [hu] at he hp
 exact ⟨pv, he, hp, ho, hn⟩
theorem ag_client (p : Nat) (K : List Nat) (a : AgS) (n : Nat) (c : Cm) (iv : Value) (w : World) (h : AgAt w p K a) (hI : AgI n a) (hfd : c.fd.length ≤ maxLen) (hid : c.id.length ≤ maxLen) :
 Calls Tryz.prog 61 #[.pointer (some ⟨p, 0, none⟩), c.val iv] w fun e w' => ReO w w' p K (clA a c).1 (clA a c).2 e := by
 have hONE := ag_one p K a n c iv hI hfd hid
 obtain ⟨tb, tv, lb, sb, O, B, hX, rfl⟩ := h
 have hkind := S15.ask_kind a.t.l c.ss c.sq
 have hlen := hI.ok.len
 have CA0 := Hd (fun w' ht => S15.tbs_ask B tb a.t.l a.t.ever c.ss c.sq w' ht (by omega))
 have hk1 : (S15.askS a.t.l c.ss c.sq).1 = 1 → ∃ r, RpK r ∧ (S15.askS a.t.l c.ss c.sq).2 = ⟨(rpb r).toArray⟩ := fun h1 => by
  obtain ⟨x, hx, hs, h2, e⟩ := ask_one h1
  obtain ⟨r, hr, er⟩ := hI.kept x hx (by omega)
  exact ⟨r, hr, e.trans er⟩
 have HK1 := Hd hk1
 have hRK := cliA_k hI.si c
 unfold S15.askV at CA0
 have hE3 : (S15.askS a.t.l c.ss c.sq).1 = 3 → clA a c = (errR 17, a) := fun h => by unfold clA; rw [if_pos h]
 have hE2 : (S15.askS a.t.l c.ss c.sq).1 = 2 → clA a c = (errR 18, a) := fun h => by unfold clA; rw [h]; rfl
 have hE1 : (S15.askS a.t.l c.ss c.sq).1 = 1 → clA a c = (keptR (S15.askS a.t.l c.ss c.sq).2, a) := fun h => by unfold clA; rw [h]; rfl
 have hE0 : (S15.askS a.t.l c.ss c.sq).1 = 0 → clA a c = ((cliA a.s c).1, ⟨⟨S15.doneL a.t.l c.ss c.sq ⟨(rpb (cliA a.s c).1).toArray⟩, a.t.ever⟩, a.d, (cliA a.s c).2⟩) := fun h => by unfold clA; rw [h]; rfl
 obtain ⟨qq, hq⟩ : ∃ q, S15.askS a.t.l c.ss c.sq = q := ⟨_, rfl⟩
 rw [hq] at CA0 hkind HK1 hE3 hE2 hE1 hE0
 clear hq hk1
 obtain ⟨q, kb⟩ := qq
 dsimp only at CA0 hkind HK1 hE3 hE2 hE1 hE0
 have HLEN := Hd hlen
 have HONE := Hd hONE
 have HRK := Hd hRK
 have HE3 := Hd hE3
 have HE2 := Hd hE2
 have HE1 := Hd hE1
 have HE0 := Hd hE0
 unfold Cm.val at HONE ⊢
 clear hI hONE hRK hlen hE3 hE2 hE1 hE0
 go_enter Tryz.func61, Tryz.ntmps61
 go_upto_region 1 with fail
 obtain ⟨w1, hw1⟩ : ∃ u, w.alloc (.cells #[.int .i64 c.kd, .int .i64 c.ss, .int .i64 c.sq, .int .i64 c.sh, .int .i64 c.nd, .int .i64 c.ep, .int .i64 c.n, .string ⟨c.fd.toArray⟩, .string ⟨c.id.toArray⟩, iv, .bool c.fl] 38) = u := ⟨_, rfl⟩
 have hR : w.heap.size + 1 = w1.heap.size := by rw [← hw1, World.size_alloc]
 obtain ⟨z, hz⟩ : ∃ z, w.heap.size = z := ⟨_, rfl⟩
 have hcz : Cells w1 z 38 (c.cells iv) := hw1 ▸ hz ▸ Cells.new w _ _
 rw [hw1, hR, hz]
 obtain ⟨w2, hw2⟩ : ∃ u, w1.alloc (.cells #[.int .i64 0, .int .i64 0, .slice none 0 0] 34) = u := ⟨_, rfl⟩
 obtain ⟨R, hRR⟩ : ∃ R, w1.heap.size = R := ⟨_, rfl⟩
 have o12 : Only [] w1 w2 := hw2 ▸ oz.alloc _
 have o2 : Only [] w w2 := Only.tr0 (hw1 ▸ oz.alloc _) o12
 have hcR : Cells w2 R 34 [.int .i64 0, .int .i64 0, .slice none 0 0] := hw2 ▸ hRR ▸ Cells.new w1 _ _
 rw [hw2, hRR]
 have hwR : w.heap.size ≤ R := by omega
 have hwz : w.heap.size ≤ z := by omega
 have hX2 := hX.keep o2 (by simp)
 have hcz2 := hcz.only o12 (by simp)
 have HCZ := Hd hcz2
 have hpl := hX2.cells.lt
 have HX := Hd hX
 have HX2 := Hd hX2
 have HO2 := Hd o2
 have HR := Hd hcR
 have hRn : Hid (R ∉ allA p tb tv lb O) := Hd (fun hm => by have := HX.out.lts R hm; omega)
 have hzn : Hid (z ∉ allA p tb tv lb O) := Hd (fun hm => by have := HX.out.lts z hm; omega)
 have CA := Hd (fun v : Since w2 => CA0.out v.w (HX2.out.keep v.2 (by simp)).t.s)
 obtain ⟨c0, c1, c2, c3, c4, c5, c6, c7, c8, c9, c10⟩ := cm_cells hcz2
 have p1 := hX2.cells.cell (k := 0) rfl
 have v1 := fun u : Since w2 => u.cell p1
 have u1 := fun u : Since w2 => u.cell c1
 have u2 := fun u : Since w2 => u.cell c2
 clear hw1 hw2 hR hRR hz o2 o12 hcR hX hX2 hcz hcz2 CA0 c0 c1 c2 c3 c4 c5 c6 c7 c8 c9 c10 p1
 refine wp_region_only w2 oz (by kernel_rfl) (by kernel_rfl) ?_
 repeat (go_big_quiet_step ((go_at_call 121; refine Calls.only (CA.out _))))
 refine wpQuiet_nil ?_
 rintro ⟨w3, ho3⟩
 dsimp only
 have HX3 := Hd (HX2.out.keep ho3 (by simp))
 have HO3 := Hd (HO2.out.tr ho3)
 have HR3 := Hd (HR.out.only ho3 (by simp))
 have HCZ3 := Hd (HCZ.out.only ho3 (by simp))
 clear ho3 v1 u1 u2 CA HX2 HO2 HR HCZ
 have hq4 : q = 3 ∨ q = 2 ∨ q = 1 ∨ q = 0 := by omega
 clear hkind
 rcases hq4 with rfl | rfl | rfl | rfl
 · have HE := Hd (HE3.out rfl)
   clear HCZ3 hzn
   have oR : ∀ row, Only [R] w3 (w3.setRow R row) := fun row => oz.setRow (.inl (by simp)) _
   have HFIN : Hid (∀ row, ReO w (w3.setRow R row) p (allA p tb tv lb O) (clA a c).1 (clA a c).2 (.returned (.agg #[.int .i64 17, .int .i64 0, .slice none 0 0]))) := Hd (fun row => HE.out ▸ ReO.nil rfl (wide_lt (by omega) (by omega)) (wide_lt (by omega) (by omega)) ⟨tb, tv, lb, sb, O, B, HX3.out.keep (oR row) (fun k hk hm => by simp at hm; subst hm; exact hRn.out hk), rfl⟩ (HO3.out.of0.trans (oR row) (fun x hx => by simp at hx; subst hx; exact .inr hwR)) (fun x hx => .inl hx))
   have HRF := Hd HR3.out
   have hst := HRF.out
   have hone : (#[.int .i64 17, .int .i64 0, .slice none 0 0] : Array Value).all (·.oneCell') = true := by simp [Value.oneCell']
   clear oR HK1
   go_wp2_with (refine wpList_store_row rfl 34 _ _ rfl R #[.int .i64 17, .int .i64 0, .slice none 0 0] rfl rfl 34 _ hst (by kernel_rfl) rfl hone ?_)
   (try simp only [Exit.inBlock, Exit.then])
   refine bodyPost_ret (v := .agg #[.int .i64 17, .int .i64 0, .slice none 0 0]) ?_ rfl (HFIN.out _)
   exact results_row Tryz.results61 _ _ R 34 [.int .i64 17, .int .i64 0, .slice none 0 0] _ rfl (Cells.setRow HRF.out [.int .i64 17, .int .i64 0, .slice none 0 0]) Tryz.underlying34 rfl (by kernel_rfl)
 · have HE := Hd (HE2.out rfl)
   clear HCZ3 hzn
   have oR : ∀ row, Only [R] w3 (w3.setRow R row) := fun row => oz.setRow (.inl (by simp)) _
   have HFIN : Hid (∀ row, ReO w (w3.setRow R row) p (allA p tb tv lb O) (clA a c).1 (clA a c).2 (.returned (.agg #[.int .i64 18, .int .i64 0, .slice none 0 0]))) := Hd (fun row => HE.out ▸ ReO.nil rfl (wide_lt (by omega) (by omega)) (wide_lt (by omega) (by omega)) ⟨tb, tv, lb, sb, O, B, HX3.out.keep (oR row) (fun k hk hm => by simp at hm; subst hm; exact hRn.out hk), rfl⟩ (HO3.out.of0.trans (oR row) (fun x hx => by simp at hx; subst hx; exact .inr hwR)) (fun x hx => .inl hx))
   have HRF := Hd HR3.out
   have hst := HRF.out
   have hone : (#[.int .i64 18, .int .i64 0, .slice none 0 0] : Array Value).all (·.oneCell') = true := by simp [Value.oneCell']
   clear oR HK1
   go_wp2_with (refine wpList_store_row rfl 34 _ _ rfl R #[.int .i64 18, .int .i64 0, .slice none 0 0] rfl rfl 34 _ hst (by kernel_rfl) rfl hone ?_)
   (try simp only [Exit.inBlock, Exit.then])
   refine bodyPost_ret (v := .agg #[.int .i64 18, .int .i64 0, .slice none 0 0]) ?_ rfl (HFIN.out _)
   exact results_row Tryz.results61 _ _ R 34 [.int .i64 18, .int .i64 0, .slice none 0 0] _ rfl (Cells.setRow HRF.out [.int .i64 18, .int .i64 0, .slice none 0 0]) Tryz.underlying34 rfl (by kernel_rfl)
 · have hE := HE1.out rfl
   obtain ⟨r, hr, rfl⟩ := HK1.out rfl
   rw [keptR_of hr] at hE
   have HE := Hd hE
   clear hE
   have CT := Hd (kept_read hr w3)
   unfold Rp.val at CT
   clear HK1 hr HCZ3 hzn
   go_wp2_with fail
   refine CT.out.mono ?_
   rintro e w4 ⟨pv, rfl, hp4, ho4, hn4⟩
   obtain ⟨PA, pc, rfl⟩ := hp4.ps.shape
   obtain ⟨w5, hw5⟩ : ∃ u, w4.alloc (.cells #[.int .i64 0, .int .i64 0, .slice none 0 0] 34) = u := ⟨_, rfl⟩
   have hst5 : Cells (w4.alloc (.cells #[.int .i64 0, .int .i64 0, .slice none 0 0] 34)) w4.heap.size 34 [.int .i64 0, .int .i64 0, .slice none 0 0] := Cells.new w4 _ _
   have o45 : Only [] w4 (w4.alloc (.cells #[.int .i64 0, .int .i64 0, .slice none 0 0] 34)) := oz.alloc _
   have hR4 := HR3.out.only ho4 (by simp)
   have hRQ : R ≠ w4.heap.size := fun e => by have := hR4.lt; omega
   have hR3s := HR3.out.lt
   rw [hw5] at hst5 o45
   have o46 : Only [] w4 (w5.setRow w4.heap.size #[.int .i64 r.er, .int .i64 r.n, .slice PA r.ps.length pc]) := o45.trans ((Only.refl [w4.heap.size] _).setRow (.inl (by simp)) _) (fun x hx => by simp at hx; subst hx; exact .inr (Nat.le_refl _))
   have hld6 : Cells (w5.setRow w4.heap.size #[.int .i64 r.er, .int .i64 r.n, .slice PA r.ps.length pc]) w4.heap.size 34 [.int .i64 r.er, .int .i64 r.n, .slice PA r.ps.length pc] := hst5.setRow [.int .i64 r.er, .int .i64 r.n, .slice PA r.ps.length pc]
   have hst6 : Cells (w5.setRow w4.heap.size #[.int .i64 r.er, .int .i64 r.n, .slice PA r.ps.length pc]) R 34 [.int .i64 0, .int .i64 0, .slice none 0 0] := hR4.only o46 (by simp)
   have hp6 : RpAt (w5.setRow w4.heap.size #[.int .i64 r.er, .int .i64 r.n, .slice PA r.ps.length pc]) (.slice PA r.ps.length pc) r := hp4.only o46
   have hX6 := HX3.out.keep (ho4.tr o46) (by simp)
   have hO6 := HO3.out.tr (ho4.tr o46)
   obtain ⟨w6, hw6⟩ : ∃ u, w5.setRow w4.heap.size #[.int .i64 r.er, .int .i64 r.n, .slice PA r.ps.length pc] = u := ⟨_, rfl⟩
   rw [hw6] at hld6 hst6 hp6 hX6 hO6
   have oR : ∀ row, Only [R] w6 (w6.setRow R row) := fun row => oz.setRow (.inl (by simp)) _
   have hgR : ∀ g, (Value.slice PA r.ps.length pc).ownBlock = some g → w.heap.size ≤ g ∧ w3.heap.size ≤ g := fun g hg => ⟨by have := hn4 g hg; have := HO3.out.size; omega, hn4 g hg⟩
   have HFIN : Hid (∀ row, ReO w (w6.setRow R row) p (allA p tb tv lb O) (clA a c).1 (clA a c).2 (.returned (.agg #[.int .i64 r.er, .int .i64 r.n, .slice PA r.ps.length pc]))) := Hd (fun row => HE.out ▸ ⟨.slice PA r.ps.length pc, _, rfl, hp6.past (oR row) (fun g hg hm => by simp at hm; subst hm; have := (hgR _ hg).2; omega), fun _ g hg => ⟨(hgR g hg).1, fun hm => by have := (hgR g hg).2; have := HX3.out.lts g hm; omega⟩, ⟨tb, tv, lb, sb, O, B, hX6.keep (oR row) (fun k hk hm => by simp at hm; subst hm; exact hRn.out hk), rfl⟩, hO6.of0.trans (oR row) (fun x hx => by simp at hx; subst hx; exact .inr hwR), fun x hx => .inl hx⟩)
   have HRF := Hd hst6
   have hone : (#[.int .i64 r.er, .int .i64 r.n, .slice PA r.ps.length pc] : Array Value).all (·.oneCell') = true := by simp [Value.oneCell']
   clear hp4 ho4 hn4 o45 hR4 hRQ hR3s o46 hp6 hX6 hO6 oR hgR CT
   go_wp2_with (first
    | ((try rw [hw5]); refine wpList_store_row rfl 34 _ _ rfl w4.heap.size #[.int .i64 r.er, .int .i64 r.n, .slice PA r.ps.length pc] rfl rfl 34 _ hst5 (by kernel_rfl) rfl hone ?_; (try rw [hw6]))
    | refine wpList_load_row rfl 34 _ rfl w4.heap.size rfl 34 #[.int .i64 r.er, .int .i64 r.n, .slice PA r.ps.length pc] (0, 0) _ hld6 Tryz.underlying34 rfl (by kernel_rfl) ?_
    | refine wpList_store_row rfl 34 _ _ rfl R #[.int .i64 r.er, .int .i64 r.n, .slice PA r.ps.length pc] rfl rfl 34 _ hst6 (by kernel_rfl) rfl hone ?_)
   (try simp only [Exit.inBlock, Exit.then])
   refine bodyPost_ret (v := .agg #[.int .i64 r.er, .int .i64 r.n, .slice PA r.ps.length pc]) ?_ rfl (HFIN.out _)
   exact results_row Tryz.results61 _ _ R 34 [.int .i64 r.er, .int .i64 r.n, .slice PA r.ps.length pc] _ rfl (Cells.setRow HRF.out [.int .i64 r.er, .int .i64 r.n, .slice PA r.ps.length pc]) Tryz.underlying34 rfl (by kernel_rfl)
 · have hE := HE0.out rfl
   obtain ⟨r, hr⟩ : ∃ r, (cliA a.s c).1 = r := ⟨_, rfl⟩
   obtain ⟨s', hs'⟩ : ∃ s', (cliA a.s c).2 = s' := ⟨_, rfl⟩
   rw [hr] at hE HRK HONE
   rw [hs'] at hE HONE
   have HE := Hd hE
   clear hE hr hs' HE0 HE1 HE2 HE3 HK1
   obtain ⟨c0, c1, c2, c3, c4, c5, c6, c7, c8, c9, c10⟩ := cm_cells HCZ3.out
   clear c1 c2 c3 c4 c5 c6 c7 c8 c9 c10
   go_upto_block 1 with fail
   go_cut [9] (fun x wx => ∃ fd, x = .func (.func fd) #[] #[] ∧ (∀ (ys : Array Value) (w' : World), (callFunc fd ys).run Tryz.prog w' = .ok (.enter fd ys) w') ∧ Hid (Only [] w3 wx ∧ ∀ w', AgAt w' p (allA p tb tv lb O) a → Calls Tryz.prog fd #[.pointer (some ⟨p, 0, none⟩), .agg #[.int .i64 c.kd, .int .i64 c.ss, .int .i64 c.sq, .int .i64 c.sh, .int .i64 c.nd, .int .i64 c.ep, .int .i64 c.n, .string ⟨c.fd.toArray⟩, .string ⟨c.id.toArray⟩, iv, .bool c.fl]] w' fun e w'' => ReO w' w'' p (allA p tb tv lb O) r ⟨a.t, a.d, s'⟩ e))
   case first =>
    by_cases k2 : c.kd = 2
    · have HF := Hd (HONE.out.1 k2)
      have t2 : (c.kd == 2) = true := by simpa using k2
      clear k2 HONE
      go_wp2_with fail
      go_meet
      exact ⟨_, rfl, fun _ _ => rfl, Hd ⟨Only.refl _ _, HF.out⟩⟩
    by_cases k3 : c.kd = 3
    · have HF := Hd (HONE.out.2.1 k3)
      have t2 : (c.kd == 2) = false := by simpa using k2
      have t3 : (c.kd == 3) = true := by simpa using k3
      clear k2 k3 HONE
      go_wp2_with fail
      go_meet
      exact ⟨_, rfl, fun _ _ => rfl, Hd ⟨Only.refl _ _, HF.out⟩⟩
    by_cases k4 : c.kd = 4
    · have HF := Hd (HONE.out.2.2.1 k4)
      have t2 : (c.kd == 2) = false := by simpa using k2
      have t3 : (c.kd == 3) = false := by simpa using k3
      have t4 : (c.kd == 4) = true := by simpa using k4
      clear k2 k3 k4 HONE
      go_wp2_with fail
      go_meet
      exact ⟨_, rfl, fun _ _ => rfl, Hd ⟨Only.refl _ _, HF.out⟩⟩
    · have HF := Hd (HONE.out.2.2.2 k2 k3 k4)
      have t2 : (c.kd == 2) = false := by simpa using k2
      have t3 : (c.kd == 3) = false := by simpa using k3
      have t4 : (c.kd == 4) = false := by simpa using k4
      clear k2 k3 k4 HONE
      go_wp2_with fail
      go_meet
      exact ⟨_, rfl, fun _ _ => rfl, Hd ⟨Only.refl _ _, HF.out⟩⟩
   case rest =>
   obtain ⟨fd, rfl, hcf, HW⟩ := hcut
   have HXC := Hd (HX3.out.keep HW.out.1 (by simp))
   have HOC := Hd (HO3.out.tr HW.out.1)
   have HRC := Hd (HR3.out.only HW.out.1 (by simp))
   have HCZC := Hd (HCZ3.out.only HW.out.1 (by simp))
   have CF := Hd (HW.out.2 wc ⟨tb, tv, lb, sb, O, B, HXC.out, rfl⟩)
   obtain ⟨c0, c1, c2, c3, c4, c5, c6, c7, c8, c9, c10⟩ := cm_cells HCZC.out
   clear HW HONE HX3 HO3 HR3 HCZ3
   go_wp2_with fail
   refine CF.out.mono ?_
   rintro e w4 ⟨pv, K', rfl, hp4, hn4, ⟨tb2, tv2, lb2, sb2, O2, B2, hX4, rfl⟩, ho4, hN4⟩
   obtain ⟨PA, pc, rfl⟩ := hp4.ps.shape
   clear c0 c1 c2 c3 c4 c5 c6 c7 c8 c9 c10 CF
   have hR4 := HRC.out.only ho4 hRn.out
   have hcz4 := HCZC.out.only ho4 hzn.out
   have hRsz := HRC.out.lt
   have hRn2 : R ∉ allA p tb2 tv2 lb2 O2 := fun hm => by
    rcases hN4 R hm with e | e
    · exact hRn.out e
    · omega
   obtain ⟨w5, hw5⟩ : ∃ u, w4.alloc (.cells #[.int .i64 0, .int .i64 0, .slice none 0 0] 34) = u := ⟨_, rfl⟩
   obtain ⟨Q, hQ⟩ : ∃ Q, w4.heap.size = Q := ⟨_, rfl⟩
   have hst5 : Cells w5 Q 34 [.int .i64 0, .int .i64 0, .slice none 0 0] := hw5 ▸ hQ ▸ Cells.new w4 _ _
   have o45 : Only [] w4 w5 := hw5 ▸ oz.alloc _
   have o46 : Only [] w4 (w5.setRow Q #[.int .i64 r.er, .int .i64 r.n, .slice PA r.ps.length pc]) := o45.trans ((Only.refl [Q] _).setRow (.inl (by simp)) _) (fun x hx => by simp at hx; subst hx; exact .inr (Nat.le_of_eq hQ))
   have hld6 : Cells (w5.setRow Q #[.int .i64 r.er, .int .i64 r.n, .slice PA r.ps.length pc]) Q 34 [.int .i64 r.er, .int .i64 r.n, .slice PA r.ps.length pc] := hst5.setRow [.int .i64 r.er, .int .i64 r.n, .slice PA r.ps.length pc]
   obtain ⟨w6, hw6⟩ : ∃ u, w5.setRow Q #[.int .i64 r.er, .int .i64 r.n, .slice PA r.ps.length pc] = u := ⟨_, rfl⟩
   rw [hw6] at hld6 o46
   have hX6 := hX4.keep o46 (by simp)
   have hQn : Q ∉ allA p tb2 tv2 lb2 O2 := fun hm => by have := hX4.lts Q hm; omega
   have hone : (#[.int .i64 r.er, .int .i64 r.n, .slice PA r.ps.length pc] : Array Value).all (·.oneCell') = true := by simp [Value.oneCell']
   have HR6 := Hd (hR4.only o46 (by simp))
   have HCZ6 := Hd (hcz4.only o46 (by simp))
   have HQ6 := Hd hld6
   have HP6 := Hd (hp4.only o46)
   have HX6 := Hd hX6
   have HO6 := Hd ((HOC.out.of0.trans ho4 (fun x hx => .inl hx)).trans o46 (fun x hx => by cases hx))
   have HN4 := Hd hN4
   have HRN2 := Hd hRn2
   have HQN := Hd hQn
   have HGE : Hid (0 < r.ps.length → ∀ g, (Value.slice PA r.ps.length pc).ownBlock = some g → wc.heap.size ≤ g ∧ g ∉ allA p tb2 tv2 lb2 O2) := Hd hn4
   have HS4 : Hid (wc.heap.size ≤ w4.heap.size ∧ w4.heap.size ≤ w6.heap.size ∧ w.heap.size ≤ wc.heap.size ∧ R < wc.heap.size) := Hd ⟨ho4.size, o46.size, HOC.out.size, hRsz⟩
   clear hp4 hn4 hX4 ho4 hN4 hR4 hcz4 hRsz hRn2 o45 o46 hX6 hQn HXC HOC HRC HCZC
   go_wp2_with (first
    | ((try rw [hw5]); (try rw [hQ]); refine wpList_store_row rfl 34 _ _ rfl Q #[.int .i64 r.er, .int .i64 r.n, .slice PA r.ps.length pc] rfl rfl 34 _ hst5 (by kernel_rfl) rfl hone ?_; (try rw [hw6])))
   clear hw5 hQ hst5 hw6
   (try simp only [Act.put])
   obtain ⟨c0, c1, c2, c3, c4, c5, c6, c7, c8, c9, c10⟩ := cm_cells HCZ6.out
   have p0 := HX6.out.cells.cell (k := 0) rfl
   have q0 := HQ6.out.cell (k := 0) rfl
   have q1 := HQ6.out.cell (k := 1) rfl
   have q2 := HQ6.out.cell (k := 2) rfl
   have hpl6 := HX6.out.cells.lt
   have hQl6 := HQ6.out.lt
   have v0 := fun u : Since w6 => u.cell p0
   have u1 := fun u : Since w6 => u.cell c1
   have u2 := fun u : Since w6 => u.cell c2
   have y0 := fun u : Since w6 => u.cell q0
   have y1 := fun u : Since w6 => u.cell q1
   have y2 := fun u : Since w6 => u.cell q2
   have CW : Hid (∀ u : Since w6, Calls Tryz.prog 85 #[.agg #[.int .i64 r.er, .int .i64 r.n, .slice PA r.ps.length pc]] u.w fun e w' => e = .returned (.string ⟨(rpb r).toArray⟩) ∧ Only [] u.w w') := Hd (fun u => cmd_answer r (.slice PA r.ps.length pc) u.w (HP6.out.only u.2))
   clear c0 c1 c2 c3 c4 c5 c6 c7 c8 c9 c10 p0 q0 q1 q2
   refine wp_region_only_tail w6 oz 10 (by kernel_rfl) (by kernel_rfl) ?_
   simp only [tk1, tk0, dr1, dr0]
   repeat (go_big_quiet_step ((go_at_call 85; refine Calls.only (CW.out _))))
   refine wpQuiet_nil ?_
   rintro ⟨w7, ho7⟩
   dsimp only
   have HX7 := Hd (HX6.out.keep ho7 (by simp))
   have HO7 := Hd (HO6.out.trans ho7 (fun x hx => by cases hx))
   have HR7 := Hd (HR6.out.only ho7 (by simp))
   have HQ7 := Hd (HQ6.out.only ho7 (by simp))
   have HP7 := Hd (HP6.out.only ho7)
   have HS7 : Hid (w6.heap.size ≤ w7.heap.size) := Hd ho7.size
   have CD := Hd (S15.tbs_done B2 tb2 tv2 a.t.l a.t.ever c.ss c.sq ⟨(rpb r).toArray⟩ w7 HX7.out.t HLEN.out)
   clear ho7 v0 u1 u2 y0 y1 y2 CW HX6 HO6 HR6 HCZ6 HQ6 HP6 hpl6 hQl6
   go_wp2_with fail
   refine CD.out.mono ?_
   rintro e w8 ⟨rfl, tv3, ht8, ho8, hn8⟩
   obtain ⟨hX8, hO8, hN8⟩ := HX7.out.tdo (t' := ⟨S15.doneL a.t.l c.ss c.sq ⟨(rpb r).toArray⟩, a.t.ever⟩) ht8 ho8 hn8
   have hst8 := HR7.out.only hO8 HRN2.out
   have hld8 := HQ7.out.only hO8 HQN.out
   have hp8 : RpAt w8 (.slice PA r.ps.length pc) r := by
    refine ⟨?_, HP7.out.er, HP7.out.n, HP7.out.sm, HP7.out.len⟩
    by_cases h0 : 0 < r.ps.length
    · exact (HP7.out.ps.past hO8 (Nat.le_refl _) (fun g hg => (HGE.out h0 g hg).2)).more hO8.size
    · obtain ⟨z1, z2, z3, z4, z5, z6, z7⟩ := HP7.out.ps
      exact ⟨z1, z2, z3, z4, z5, z6, fun hh => by omega⟩
   have oR : ∀ row, Only [R] w8 (w8.setRow R row) := fun row => oz.setRow (.inl (by simp)) _
   have hRn8 : R ∉ allA p tb2 tv3 lb2 O2 := fun hm => by
    rcases hN8 R hm with e | e
    · exact HRN2.out e
    · have := HR7.out.lt; omega
   have hgR : 0 < r.ps.length → ∀ g, (Value.slice PA r.ps.length pc).ownBlock = some g → w.heap.size ≤ g ∧ g ≠ R ∧ g < w7.heap.size := fun h0 g hg => by
    obtain ⟨h1, h2, h3, h4⟩ := HS4.out
    have hg1 := (HGE.out h0 g hg).1
    refine ⟨by omega, by omega, ?_⟩
    obtain ⟨bb, oo, cc, e, hb, _⟩ := HP7.out.ps.at_ (by omega)
    injection e with e1
    subst e1
    simp [Value.ownBlock] at hg
    omega
   have hpF : ∀ row, RpAt (w8.setRow R row) (.slice PA r.ps.length pc) r := fun row => by
    refine ⟨?_, hp8.er, hp8.n, hp8.sm, hp8.len⟩
    by_cases h0 : 0 < r.ps.length
    · exact (hp8.ps.past (oR row) (Nat.le_refl _) (fun g hg hm => by simp at hm; exact (hgR h0 g hg).2.1 hm)).more (oR row).size
    · obtain ⟨z1, z2, z3, z4, z5, z6, z7⟩ := hp8.ps
      exact ⟨z1, z2, z3, z4, z5, z6, fun hh => by omega⟩
   have HFIN : Hid (∀ row, ReO w (w8.setRow R row) p (allA p tb tv lb O) (clA a c).1 (clA a c).2 (.returned (.agg #[.int .i64 r.er, .int .i64 r.n, .slice PA r.ps.length pc]))) := Hd (fun row => by
    rw [HE.out]
    refine ⟨.slice PA r.ps.length pc, _, rfl, hpF row, fun h0 g hg => ⟨(hgR h0 g hg).1, fun hm => ?_⟩, ⟨tb2, tv3, lb2, sb2, O2, B2, hX8.keep (oR row) (fun k hk hm => by simp at hm; subst hm; exact hRn8 hk), rfl⟩, ?_, fun x hx => ?_⟩
    · rcases hN8 g hm with e | e
      · exact (HGE.out h0 g hg).2 e
      · have := (hgR h0 g hg).2.2; omega
    · refine (HO7.out.trans hO8 (fun x hx => ?_)).trans (oR row) (fun x hx => by simp at hx; subst hx; exact .inr hwR)
      rcases HN4.out x hx with e | e
      · exact .inl e
      · exact .inr (by have := HS4.out; omega)
    · rcases hN8 x hx with e | e
      · rcases HN4.out x e with e | e
        · exact .inl e
        · exact .inr (by have := HS4.out; omega)
      · exact .inr (by have := HS4.out; have := HS7.out; omega))
   have HRF := Hd hst8
   clear ht8 ho8 hn8 hX8 hO8 hN8 hp8 oR hRn8 hgR hpF CD
   go_wp2_with (first
    | refine wpList_load_row rfl 34 _ rfl Q rfl 34 #[.int .i64 r.er, .int .i64 r.n, .slice PA r.ps.length pc] (0, 0) _ hld8 Tryz.underlying34 rfl (by kernel_rfl) ?_
    | refine wpList_store_row rfl 34 _ _ rfl R #[.int .i64 r.er, .int .i64 r.n, .slice PA r.ps.length pc] rfl rfl 34 _ hst8 (by kernel_rfl) rfl hone ?_)
   (try simp only [Exit.inBlock, Exit.then])
   refine bodyPost_ret (v := .agg #[.int .i64 r.er, .int .i64 r.n, .slice PA r.ps.length pc]) ?_ rfl (HFIN.out _)
   exact results_row Tryz.results61 _ _ R 34 [.int .i64 r.er, .int .i64 r.n, .slice PA r.ps.length pc] _ rfl (Cells.setRow HRF.out [.int .i64 r.er, .int .i64 r.n, .slice PA r.ps.length pc]) Tryz.underlying34 rfl (by kernel_rfl)
theorem ag_five (p : Nat) (K : List Nat) (a : AgS) (n : Nat) (hn : n ≤ 1000000000) (c : Cm) (iv : Value) (hI : AgI n a) (hfd : c.fd.length ≤ maxLen) (hil : c.its.length ≤ 1000000) (hit : ∀ x ∈ c.its, x.Len) :
 (c.kd = 1 → ∀ w, AgAt w p K a → Calls Tryz.prog 63 #[.pointer (some ⟨p, 0, none⟩), c.val iv] w fun e w' => ReO w w' p K (othA a c).1 (othA a c).2 e) ∧
 (c.kd ≠ 1 → c.kd = 6 → ∀ w, AgAt w p K a → Calls Tryz.prog 64 #[.pointer (some ⟨p, 0, none⟩), c.val iv] w fun e w' => ReO w w' p K (othA a c).1 (othA a c).2 e) ∧
 (c.kd ≠ 1 → c.kd ≠ 6 → c.kd = 7 → ∀ w, AgAt w p K a → Calls Tryz.prog 65 #[.pointer (some ⟨p, 0, none⟩), c.val iv] w fun e w' => ReO w w' p K (othA a c).1 (othA a c).2 e) ∧
 (c.kd ≠ 1 → c.kd ≠ 6 → c.kd ≠ 7 → c.kd = 9 → ∀ w, AgAt w p K a → Calls Tryz.prog 66 #[.pointer (some ⟨p, 0, none⟩), c.val iv] w fun e w' => ReO w w' p K (othA a c).1 (othA a c).2 e) ∧
 (c.kd ≠ 1 → c.kd ≠ 6 → c.kd ≠ 7 → c.kd ≠ 9 → ∀ w, AgAt w p K a → ItK w K iv c → Calls Tryz.prog 62 #[.pointer (some ⟨p, 0, none⟩), c.val iv] w fun e w' => ReO w w' p K (othA a c).1 (othA a c).2 e) := by
 unfold othA
 refine ⟨fun h w hA => ?_, fun h1 h w hA => ?_, fun h1 h6 h w hA => ?_, fun h1 h6 h7 h w hA => ?_, fun h1 h6 h7 h9 w hA hs => ?_⟩
 · rw [if_pos h]; exact ag_register p K a n hn c iv w hA hI
 · rw [if_neg h1, if_pos h]; exact ag_tick p K a n hn c iv w hA hI
 · rw [if_neg h1, if_neg h6, if_pos h]; exact ag_grant p K a n hn c iv w hA hI
 · rw [if_neg h1, if_neg h6, if_neg h7, if_pos h]; exact ag_show p K a n hn c iv w hA hI
 · rw [if_neg h1, if_neg h6, if_neg h7, if_neg h9]; exact ag_ingest p K a n hn c iv w hA hI hfd hil hit hs
theorem ag_do (p : Nat) (K : List Nat) (a : AgS) (n : Nat) (hn : n ≤ 1000000000) (c : Cm) (iv : Value) (w : World) (h : AgAt w p K a) (hI : AgI n a) (hc : CmAt w iv c) (hil : c.its.length ≤ 1000000) (hsl : ItK w K iv c) :
 Calls Tryz.prog 20 #[.pointer (some ⟨p, 0, none⟩), c.val iv] w fun e w' => ReO w w' p K (doA a c).1 (doA a c).2 e := by
 have hFIVE := ag_five p K a n hn c iv hI hc.fd hil hc.len
 have hCL := fun w' (hA : AgAt w' p K a) => ag_client p K a n c iv w' hA hI hc.fd hc.id
 have hRT := fun w' (ho : Only [] w w') => cmd_right c iv w' (hc.only ho)
 have hCC := fun w' => client_call c iv w'
 obtain ⟨tb, tv, lb, sb, O, B, hX, rfl⟩ := h
 have hE1 : rightB c = false → doA a c = (errR 1, a) := fun h => by unfold doA; rw [if_pos h]
 have hE2 : rightB c = true → clB c.kd = true → doA a c = clA a c := doA_cl
 have hE3 : rightB c = true → clB c.kd = false → doA a c = othA a c := fun h h2 => by unfold doA; rw [if_neg (by simp [h]), if_pos h2]
 have HE1 := Hd hE1
 have HE2 := Hd hE2
 have HE3 := Hd hE3
 have HSL := Hd hsl
 unfold Cm.val at hFIVE hCL hRT hCC ⊢
 have HFIVE := Hd hFIVE
 have HCL := Hd hCL
 have HRT := Hd hRT
 have HCC := Hd hCC
 clear hI hc hil hsl hFIVE hCL hRT hCC hE1 hE2 hE3 hn
 go_enter Tryz.func20, Tryz.ntmps20
 go_upto_region 1 with fail
 obtain ⟨w1, hw1⟩ : ∃ u, w.alloc (.cells #[.int .i64 c.kd, .int .i64 c.ss, .int .i64 c.sq, .int .i64 c.sh, .int .i64 c.nd, .int .i64 c.ep, .int .i64 c.n, .string ⟨c.fd.toArray⟩, .string ⟨c.id.toArray⟩, iv, .bool c.fl] 38) = u := ⟨_, rfl⟩
 have hR : w.heap.size + 1 = w1.heap.size := by rw [← hw1, World.size_alloc]
 obtain ⟨z, hz⟩ : ∃ z, w.heap.size = z := ⟨_, rfl⟩
 have hcz : Cells w1 z 38 (c.cells iv) := hw1 ▸ hz ▸ Cells.new w _ _
 rw [hw1, hR, hz]
 obtain ⟨w2, hw2⟩ : ∃ u, w1.alloc (.cells #[.int .i64 0, .int .i64 0, .slice none 0 0] 34) = u := ⟨_, rfl⟩
 obtain ⟨R, hRR⟩ : ∃ R, w1.heap.size = R := ⟨_, rfl⟩
 have o12 : Only [] w1 w2 := hw2 ▸ oz.alloc _
 have o2 : Only [] w w2 := Only.tr0 (hw1 ▸ oz.alloc _) o12
 have hcR : Cells w2 R 34 [.int .i64 0, .int .i64 0, .slice none 0 0] := hw2 ▸ hRR ▸ Cells.new w1 _ _
 rw [hw2, hRR]
 have hwR : w.heap.size ≤ R := by omega
 have hwz : w.heap.size ≤ z := by omega
 have hX2 := hX.keep o2 (by simp)
 have hcz2 := hcz.only o12 (by simp)
 have HCZ := Hd hcz2
 have hpl := hX2.cells.lt
 have HX := Hd hX
 have HX2 := Hd hX2
 have HO2 := Hd o2
 have HR := Hd hcR
 have hRn : Hid (R ∉ allA p tb tv lb O) := Hd (fun hm => by have := HX.out.lts R hm; omega)
 have hzn : Hid (z ∉ allA p tb tv lb O) := Hd (fun hm => by have := HX.out.lts z hm; omega)
 obtain ⟨c0, c1, c2, c3, c4, c5, c6, c7, c8, c9, c10⟩ := cm_cells hcz2
 have CR := Hd (HRT.out w2 o2)
 clear hw1 hw2 hR hRR hz o2 o12 hcR hX hX2 hcz hcz2
 go_wp2_with fail
 refine CR.out.mono ?_
 rintro e w3 ⟨rfl, ho3⟩
 have HX3 := Hd (HX2.out.keep ho3 (by simp))
 have HO3 := Hd (HO2.out.tr ho3)
 have HR3 := Hd (HR.out.only ho3 (by simp))
 have HCZ3 := Hd (HCZ.out.only ho3 (by simp))
 clear c0 c1 c2 c3 c4 c5 c6 c7 c8 c9 c10 ho3 CR HRT HX2 HO2 HR HCZ
 cases hb : rightB c with
 | false =>
  have HE := Hd (HE1.out hb)
  clear hb HE1 HE2 HE3 HCZ3 hzn HFIVE HCL HCC HSL
  have oR : ∀ row, Only [R] w3 (w3.setRow R row) := fun row => oz.setRow (.inl (by simp)) _
  have HFIN : Hid (∀ row, ReO w (w3.setRow R row) p (allA p tb tv lb O) (doA a c).1 (doA a c).2 (.returned (.agg #[.int .i64 1, .int .i64 0, .slice none 0 0]))) := Hd (fun row => HE.out ▸ ReO.nil rfl (wide_lt (by omega) (by omega)) (wide_lt (by omega) (by omega)) ⟨tb, tv, lb, sb, O, B, HX3.out.keep (oR row) (fun k hk hm => by simp at hm; subst hm; exact hRn.out hk), rfl⟩ (HO3.out.of0.trans (oR row) (fun x hx => by simp at hx; subst hx; exact .inr hwR)) (fun x hx => .inl hx))
  have HRF := Hd HR3.out
  have hst := HRF.out
  have hone : (#[.int .i64 1, .int .i64 0, .slice none 0 0] : Array Value).all (·.oneCell') = true := by simp [Value.oneCell']
  clear oR
  go_wp2_with (refine wpList_store_row rfl 34 _ _ rfl R #[.int .i64 1, .int .i64 0, .slice none 0 0] rfl rfl 34 _ hst (by kernel_rfl) rfl hone ?_)
  (try simp only [Exit.inBlock, Exit.then])
  refine bodyPost_ret (v := .agg #[.int .i64 1, .int .i64 0, .slice none 0 0]) ?_ rfl (HFIN.out _)
  exact results_row Tryz.results20 _ _ R 34 [.int .i64 1, .int .i64 0, .slice none 0 0] _ rfl (Cells.setRow HRF.out [.int .i64 1, .int .i64 0, .slice none 0 0]) Tryz.underlying34 rfl (by kernel_rfl)
 | true =>
  obtain ⟨c0, c1, c2, c3, c4, c5, c6, c7, c8, c9, c10⟩ := cm_cells HCZ3.out
  have CC := Hd (HCC.out w3)
  have HB := Hd hb
  clear hb HCC HE1
  go_wp2_with fail
  refine CC.out.mono ?_
  rintro e w4 ⟨rfl, ho4⟩
  have HX4 := Hd (HX3.out.keep ho4 (by simp))
  have HO4 := Hd (HO3.out.tr ho4)
  have HR4 := Hd (HR3.out.only ho4 (by simp))
  have HCZ4 := Hd (HCZ3.out.only ho4 (by simp))
  clear c0 c1 c2 c3 c4 c5 c6 c7 c8 c9 c10 ho4 CC HX3 HO3 HR3 HCZ3
  cases hcl : clB c.kd with
  | true =>
   have HE := Hd (HE2.out HB.out hcl)
   obtain ⟨c0, c1, c2, c3, c4, c5, c6, c7, c8, c9, c10⟩ := cm_cells HCZ4.out
   have CX := Hd (HCL.out w4 ⟨tb, tv, lb, sb, O, B, HX4.out, rfl⟩)
   rw [← HE.out] at CX
   clear hcl HE2 HE3 HFIVE HCL HSL
   go_wp2_with fail
   refine CX.out.mono ?_
   rintro e w5 ⟨pv, K', rfl, hp5, hn5, hA5, ho5, hN5⟩
   obtain ⟨r, hr⟩ : ∃ r, (doA a c).1 = r := ⟨_, rfl⟩
   rw [hr] at hp5 hn5 ⊢
   obtain ⟨PA, pc, rfl⟩ := hp5.ps.shape
   have hR5 := HR4.out.only ho5 hRn.out
   have hRs := HR4.out.lt
   have hRK : R ∉ K' := fun hm => by
    rcases hN5 R hm with e | e
    · exact hRn.out e
    · omega
   have oR : ∀ row, Only [R] w5 (w5.setRow R row) := fun row => oz.setRow (.inl (by simp)) _
   have hws := HO4.out.size
   have hpF : ∀ row, RpAt (w5.setRow R row) (.slice PA r.ps.length pc) r := fun row => by
    refine ⟨?_, hp5.er, hp5.n, hp5.sm, hp5.len⟩
    by_cases h0 : 0 < r.ps.length
    · exact (hp5.ps.past (oR row) (Nat.le_refl _) (fun g hg hm => by simp at hm; have := (hn5 h0 g hg).1; omega)).more (oR row).size
    · obtain ⟨z1, z2, z3, z4, z5, z6, z7⟩ := hp5.ps
      exact ⟨z1, z2, z3, z4, z5, z6, fun hh => by omega⟩
   have HFIN : Hid (∀ row, ReO w (w5.setRow R row) p (allA p tb tv lb O) (doA a c).1 (doA a c).2 (.returned (.agg #[.int .i64 r.er, .int .i64 r.n, .slice PA r.ps.length pc]))) := Hd (fun row => by
    rw [hr]
    exact ⟨.slice PA r.ps.length pc, K', rfl, hpF row, fun h0 g hg => ⟨by have := (hn5 h0 g hg).1; omega, (hn5 h0 g hg).2⟩, hA5.keep (oR row) (fun k hk hm => by simp at hm; subst hm; exact hRK hk), (HO4.out.of0.trans ho5 (fun x hx => .inl hx)).trans (oR row) (fun x hx => by simp at hx; subst hx; exact .inr hwR), fun x hx => (hN5 x hx).imp id (fun h => by omega)⟩)
   have HRF := Hd hR5
   have hst := HRF.out
   have hone : (#[.int .i64 r.er, .int .i64 r.n, .slice PA r.ps.length pc] : Array Value).all (·.oneCell') = true := by simp [Value.oneCell']
   clear hp5 hn5 hA5 ho5 hN5 hR5 hRs hRK oR hws hpF CX hr c0 c1 c2 c3 c4 c5 c6 c7 c8 c9 c10
   go_wp2_with (refine wpList_store_row rfl 34 _ _ rfl R #[.int .i64 r.er, .int .i64 r.n, .slice PA r.ps.length pc] rfl rfl 34 _ hst (by kernel_rfl) rfl hone ?_)
   (try simp only [Exit.inBlock, Exit.then])
   refine bodyPost_ret (v := .agg #[.int .i64 r.er, .int .i64 r.n, .slice PA r.ps.length pc]) ?_ rfl (HFIN.out _)
   exact results_row Tryz.results20 _ _ R 34 [.int .i64 r.er, .int .i64 r.n, .slice PA r.ps.length pc] _ rfl (Cells.setRow HRF.out [.int .i64 r.er, .int .i64 r.n, .slice PA r.ps.length pc]) Tryz.underlying34 rfl (by kernel_rfl)
  | false =>
   have HE := Hd (HE3.out HB.out hcl)
   obtain ⟨c0, c1, c2, c3, c4, c5, c6, c7, c8, c9, c10⟩ := cm_cells HCZ4.out
   clear hcl HE2 HE3 HCL c1 c2 c3 c4 c5 c6 c7 c8 c9 c10
   rw [← HE.out] at HFIVE
   go_upto_block 1 with fail
   go_cut [5] (fun x wx => ∃ fd, x = .func (.func fd) #[] #[] ∧ (∀ (ys : Array Value) (w' : World), (callFunc fd ys).run Tryz.prog w' = .ok (.enter fd ys) w') ∧ Hid (Only [] w4 wx ∧ ∀ w', AgAt w' p (allA p tb tv lb O) a → ItK w' (allA p tb tv lb O) iv c → Calls Tryz.prog fd #[.pointer (some ⟨p, 0, none⟩), .agg #[.int .i64 c.kd, .int .i64 c.ss, .int .i64 c.sq, .int .i64 c.sh, .int .i64 c.nd, .int .i64 c.ep, .int .i64 c.n, .string ⟨c.fd.toArray⟩, .string ⟨c.id.toArray⟩, iv, .bool c.fl]] w' fun e w'' => ReO w' w'' p (allA p tb tv lb O) (doA a c).1 (doA a c).2 e))
   case first =>
    by_cases k1 : c.kd = 1
    · have HF := Hd (HFIVE.out.1 k1)
      have t1 : (c.kd == 1) = true := by simpa using k1
      clear k1 HFIVE
      go_wp2_with fail
      go_meet
      exact ⟨_, rfl, fun _ _ => rfl, Hd ⟨Only.refl _ _, fun w' h1 _ => HF.out w' h1⟩⟩
    by_cases k6 : c.kd = 6
    · have HF := Hd (HFIVE.out.2.1 k1 k6)
      have t1 : (c.kd == 1) = false := by simpa using k1
      have t6 : (c.kd == 6) = true := by simpa using k6
      clear k1 k6 HFIVE
      go_wp2_with fail
      go_meet
      exact ⟨_, rfl, fun _ _ => rfl, Hd ⟨Only.refl _ _, fun w' h1 _ => HF.out w' h1⟩⟩
    by_cases k7 : c.kd = 7
    · have HF := Hd (HFIVE.out.2.2.1 k1 k6 k7)
      have t1 : (c.kd == 1) = false := by simpa using k1
      have t6 : (c.kd == 6) = false := by simpa using k6
      have t7 : (c.kd == 7) = true := by simpa using k7
      clear k1 k6 k7 HFIVE
      go_wp2_with fail
      go_meet
      exact ⟨_, rfl, fun _ _ => rfl, Hd ⟨Only.refl _ _, fun w' h1 _ => HF.out w' h1⟩⟩
    by_cases k9 : c.kd = 9
    · have HF := Hd (HFIVE.out.2.2.2.1 k1 k6 k7 k9)
      have t1 : (c.kd == 1) = false := by simpa using k1
      have t6 : (c.kd == 6) = false := by simpa using k6
      have t7 : (c.kd == 7) = false := by simpa using k7
      have t9 : (c.kd == 9) = true := by simpa using k9
      clear k1 k6 k7 k9 HFIVE
      go_wp2_with fail
      go_meet
      exact ⟨_, rfl, fun _ _ => rfl, Hd ⟨Only.refl _ _, fun w' h1 _ => HF.out w' h1⟩⟩
    have HF := Hd (HFIVE.out.2.2.2.2 k1 k6 k7 k9)
    have t1 : (c.kd == 1) = false := by simpa using k1
    have t6 : (c.kd == 6) = false := by simpa using k6
    have t7 : (c.kd == 7) = false := by simpa using k7
    have t9 : (c.kd == 9) = false := by simpa using k9
    clear k1 k6 k7 k9 HFIVE
    go_wp2_with fail
    go_meet
    exact ⟨_, rfl, fun _ _ => rfl, Hd ⟨Only.refl _ _, HF.out⟩⟩
   case rest =>
   obtain ⟨fd, rfl, hcf, HW⟩ := hcut
   obtain ⟨wa, hwa⟩ : ∃ u, u = wc := ⟨wc, rfl⟩
   subst hwa
   obtain ⟨c0, c1, c2, c3, c4, c5, c6, c7, c8, c9, c10⟩ := cm_cells (HCZ4.out.only HW.out.1 (by simp))
   have CX := Hd (HW.out.2 wa ⟨tb, tv, lb, sb, O, B, HX4.out.keep HW.out.1 (by simp), rfl⟩ (HSL.out.only ((HO4.out.tr HW.out.1).of0)))
   have HO4b := Hd (HO4.out.tr HW.out.1)
   have HR4b := Hd (HR4.out.only HW.out.1 (by simp))
   clear HO4 HR4 HX4 HCZ4 HFIVE HSL
   go_wp2_with fail
   refine CX.out.mono ?_
   rintro e w5 ⟨pv, K', rfl, hp5, hn5, hA5, ho5, hN5⟩
   obtain ⟨r, hr⟩ : ∃ r, (doA a c).1 = r := ⟨_, rfl⟩
   rw [hr] at hp5 hn5 ⊢
   obtain ⟨PA, pc, rfl⟩ := hp5.ps.shape
   have hR5 := HR4b.out.only ho5 hRn.out
   have hRs := HR4b.out.lt
   have hRK : R ∉ K' := fun hm => by
    rcases hN5 R hm with e | e
    · exact hRn.out e
    · omega
   have oR : ∀ row, Only [R] w5 (w5.setRow R row) := fun row => oz.setRow (.inl (by simp)) _
   have hws := HO4b.out.size
   have hpF : ∀ row, RpAt (w5.setRow R row) (.slice PA r.ps.length pc) r := fun row => by
    refine ⟨?_, hp5.er, hp5.n, hp5.sm, hp5.len⟩
    by_cases h0 : 0 < r.ps.length
    · exact (hp5.ps.past (oR row) (Nat.le_refl _) (fun g hg hm => by simp at hm; have := (hn5 h0 g hg).1; omega)).more (oR row).size
    · obtain ⟨z1, z2, z3, z4, z5, z6, z7⟩ := hp5.ps
      exact ⟨z1, z2, z3, z4, z5, z6, fun hh => by omega⟩
   have HFIN : Hid (∀ row, ReO w (w5.setRow R row) p (allA p tb tv lb O) (doA a c).1 (doA a c).2 (.returned (.agg #[.int .i64 r.er, .int .i64 r.n, .slice PA r.ps.length pc]))) := Hd (fun row => by
    rw [hr]
    exact ⟨.slice PA r.ps.length pc, K', rfl, hpF row, fun h0 g hg => ⟨by have := (hn5 h0 g hg).1; omega, (hn5 h0 g hg).2⟩, hA5.keep (oR row) (fun k hk hm => by simp at hm; subst hm; exact hRK hk), (HO4b.out.of0.trans ho5 (fun x hx => .inl hx)).trans (oR row) (fun x hx => by simp at hx; subst hx; exact .inr hwR), fun x hx => (hN5 x hx).imp id (fun h => by omega)⟩)
   have HRF := Hd hR5
   have hst := HRF.out
   have hone : (#[.int .i64 r.er, .int .i64 r.n, .slice PA r.ps.length pc] : Array Value).all (·.oneCell') = true := by simp [Value.oneCell']
   clear hp5 hn5 hA5 ho5 hN5 hR5 hRs hRK oR hws hpF CX hr c0 c1 c2 c3 c4 c5 c6 c7 c8 c9 c10
   go_wp2_with (refine wpList_store_row rfl 34 _ _ rfl R #[.int .i64 r.er, .int .i64 r.n, .slice PA r.ps.length pc] rfl rfl 34 _ hst (by kernel_rfl) rfl hone ?_)
   (try simp only [Exit.inBlock, Exit.then])
   refine bodyPost_ret (v := .agg #[.int .i64 r.er, .int .i64 r.n, .slice PA r.ps.length pc]) ?_ rfl (HFIN.out _)
   exact results_row Tryz.results20 _ _ R 34 [.int .i64 r.er, .int .i64 r.n, .slice PA r.ps.length pc] _ rfl (Cells.setRow HRF.out [.int .i64 r.er, .int .i64 r.n, .slice PA r.ps.length pc]) Tryz.underlying34 rfl (by kernel_rfl)
end Go.Proofs.YtcjfmildalappaaGreat
namespace Go.Proofs.YtcjfmildalappaaGreat
open Go.RowKit Go.ChangeShapes Go.WideShapes Go.Deep
structure C19 where
 c : Cm
 iv : Value
def cmL (l : List C19) : List Value := l.flatMap fun a => a.c.cells a.iv
theorem cmL_get (l : List C19) (i j : Nat) (x : C19) (h : l[i]? = some x) (hj : j < 11) : (cmL l)[i * 11 + j]? = (x.c.cells x.iv)[j]? := flat_get (fun a : C19 => a.c.cells a.iv) 11 (fun _ => rfl) l i j x h hj
theorem cmL_at {w : World} {B : Nat} {v : Value} {l : List C19} (h : SlAt w B v 11 l.length (cmL l)) {k : Nat} {a : C19} (hk : l[k]? = some a) :
 ∃ b o c, v = .slice (some ⟨b, o, none⟩) l.length c ∧ w.cell? ⟨b, o + k * 11, none⟩ = some (.int .i64 a.c.kd) ∧ w.cell? ⟨b, o + k * 11 + 1, none⟩ = some (.int .i64 a.c.ss) ∧ w.cell? ⟨b, o + k * 11 + 2, none⟩ = some (.int .i64 a.c.sq) ∧ w.cell? ⟨b, o + k * 11 + 3, none⟩ = some (.int .i64 a.c.sh) ∧ w.cell? ⟨b, o + k * 11 + 4, none⟩ = some (.int .i64 a.c.nd) ∧ w.cell? ⟨b, o + k * 11 + 5, none⟩ = some (.int .i64 a.c.ep) ∧ w.cell? ⟨b, o + k * 11 + 6, none⟩ = some (.int .i64 a.c.n) ∧ w.cell? ⟨b, o + k * 11 + 7, none⟩ = some (.string ⟨a.c.fd.toArray⟩) ∧ w.cell? ⟨b, o + k * 11 + 8, none⟩ = some (.string ⟨a.c.id.toArray⟩) ∧ w.cell? ⟨b, o + k * 11 + 9, none⟩ = some (a.iv) ∧ w.cell? ⟨b, o + k * 11 + 10, none⟩ = some (.bool a.c.fl) := by
 have hlt : k < l.length := (List.getElem?_eq_some_iff.1 hk).1
 obtain ⟨b, o, c, hv, _, hc⟩ := h.at_ (by omega)
 exact ⟨b, o, c, hv, hc (k * 11 + 0) _ (cmL_get l k 0 a hk (by omega)), hc (k * 11 + 1) _ (cmL_get l k 1 a hk (by omega)), hc (k * 11 + 2) _ (cmL_get l k 2 a hk (by omega)), hc (k * 11 + 3) _ (cmL_get l k 3 a hk (by omega)), hc (k * 11 + 4) _ (cmL_get l k 4 a hk (by omega)), hc (k * 11 + 5) _ (cmL_get l k 5 a hk (by omega)), hc (k * 11 + 6) _ (cmL_get l k 6 a hk (by omega)), hc (k * 11 + 7) _ (cmL_get l k 7 a hk (by omega)), hc (k * 11 + 8) _ (cmL_get l k 8 a hk (by omega)), hc (k * 11 + 9) _ (cmL_get l k 9 a hk (by omega)), hc (k * 11 + 10) _ (cmL_get l k 10 a hk (by omega))⟩
theorem open_cmds {H : Type} {enc : TypeId × Value → H} {w : World} {base : Nat} {spare : Nat → Bool} {held : Bool} {r : Reach} {b0 : Nat} {v : Value} {d : DataW H} {p : List MemPlace}
 (hv : Value.okWide Tryz.prog w r b0 22 v) (h : DataW.Trod enc Tryz.prog w base spare held 22 v d p) :
 ∃ l : List C19, SlAt w w.heap.size v 11 l.length (cmL l) ∧ ∀ a ∈ l, CmAt w a.iv a.c := by
 obtain ⟨n, xs, hs, hx⟩ := open_structs Tryz.underlying22 Tryz.underlying38 (by kernel_rfl) (by kernel_rfl) hv h
 obtain ⟨l, hl, rfl, hg⟩ := flat_of (fun a : C19 => a.c.cells a.iv) 11 (fun _ => rfl) (fun a => CmAt w a.iv a.c) n xs hs.1 fun i hi => by
  obtain ⟨u0, y0, m0, e0, h0⟩ := hx i hi 0 _ rfl
  obtain ⟨u1, y1, m1, e1, h1⟩ := hx i hi 1 _ rfl
  obtain ⟨u2, y2, m2, e2, h2⟩ := hx i hi 2 _ rfl
  obtain ⟨u3, y3, m3, e3, h3⟩ := hx i hi 3 _ rfl
  obtain ⟨u4, y4, m4, e4, h4⟩ := hx i hi 4 _ rfl
  obtain ⟨u5, y5, m5, e5, h5⟩ := hx i hi 5 _ rfl
  obtain ⟨u6, y6, m6, e6, h6⟩ := hx i hi 6 _ rfl
  obtain ⟨u7, y7, m7, e7, h7⟩ := hx i hi 7 _ rfl
  obtain ⟨u8, y8, m8, e8, h8⟩ := hx i hi 8 _ rfl
  obtain ⟨u9, y9, m9, e9, h9⟩ := hx i hi 9 _ rfl
  obtain ⟨u10, y10, m10, e10, h10⟩ := hx i hi 10 _ rfl
  obtain ⟨z0, q0, _, w0⟩ := DataW.trod_int Tryz.underlying3 h0
  obtain ⟨z1, q1, _, w1⟩ := DataW.trod_int Tryz.underlying3 h1
  obtain ⟨z2, q2, _, w2⟩ := DataW.trod_int Tryz.underlying3 h2
  obtain ⟨z3, q3, _, w3⟩ := DataW.trod_int Tryz.underlying3 h3
  obtain ⟨z4, q4, _, w4⟩ := DataW.trod_int Tryz.underlying3 h4
  obtain ⟨z5, q5, _, w5⟩ := DataW.trod_int Tryz.underlying3 h5
  obtain ⟨z6, q6, _, w6⟩ := DataW.trod_int Tryz.underlying3 h6
  obtain ⟨z7, q7, _, w7⟩ := DataW.trod_string Tryz.underlying9 h7
  obtain ⟨z8, q8, _, w8⟩ := DataW.trod_string Tryz.underlying9 h8
  obtain ⟨its, hi1, hi2⟩ := open_items_in h9
  obtain ⟨z10, q10, _⟩ := DataW.trod_bool Tryz.underlying4 h10
  simp at q0 q1 q2 q3 q4 q5 q6 q7 q8 q10
  subst q0; subst q1; subst q2; subst q3; subst q4; subst q5; subst q6; subst q7; subst q8; subst q10
  refine ⟨⟨⟨z0, z1, z2, z3, z4, z5, z6, z7.data.toList, z8.data.toList, its, z10⟩, u9⟩, ⟨hi1, hi2, by rw [ba_len]; exact w7, by rw [ba_len]; exact w8, ?_⟩, fun j hj => ?_⟩
  · intro x hx
    simp only [List.mem_cons, List.not_mem_nil, or_false] at hx
    rcases hx with rfl | rfl | rfl | rfl | rfl | rfl | rfl
    · exact wide64_of_wf w0
    · exact wide64_of_wf w1
    · exact wide64_of_wf w2
    · exact wide64_of_wf w3
    · exact wide64_of_wf w4
    · exact wide64_of_wf w5
    · exact wide64_of_wf w6
  · match j, hj with
    | 0, _ => exact e0
    | 1, _ => exact e1
    | 2, _ => exact e2
    | 3, _ => exact e3
    | 4, _ => exact e4
    | 5, _ => exact e5
    | 6, _ => exact e6
    | 7, _ => simpa [Cm.cells] using e7
    | 8, _ => simpa [Cm.cells] using e8
    | 9, _ => exact e9
    | 10, _ => exact e10
 subst hl
 exact ⟨l, hs, hg⟩
structure SmI (x : It) : Prop where
 id : x.id.length ≤ 300
 ti : x.ti.length ≤ 300
 li : x.li.length ≤ 300
structure SmC (a : Cm) : Prop where
 fd : a.fd.length ≤ 300
 id : a.id.length ≤ 300
 n : a.its.length ≤ 30
 its : ∀ x ∈ a.its, SmI x
structure Sm19 (l : List C19) : Prop where
 n : l.length ≤ 80
 al : ∀ a ∈ l, SmC a.c
theorem all_snoc {α : Type} {P : α → Prop} {l : List α} {k : Nat} {x : α} (h : l[k]? = some x) (h1 : ∀ a ∈ l.take k, P a) (hx : P x) : ∀ a ∈ l.take (k + 1), P a := by
 intro a ha
 rw [List.take_add_one, h] at ha
 rcases List.mem_append.1 ha with ha | ha
 · exact h1 a ha
 · simp at ha; subst ha; exact hx
def SmR (l : List C19) (w : World) (e : Ending) (w' : World) : Prop := ∃ bo, e = .returned (.bool bo) ∧ (bo = true → Sm19 l) ∧ Only [] w w'
theorem SmR.no {l : List C19} {w w' : World} (ho : Only [] w w') : SmR l w (.returned (.bool false)) w' := ⟨false, rfl, fun h => (by cases h), ho⟩
theorem posts19 (v1 v2 : Value) (l : List Po) (w : World) (hs1 : SlAt w w.heap.size v1 5 l.length (poL l)) (hs2 : SlAt w w.heap.size v2 5 l.length (poL l)) (hl : l.length ≤ 1000000) :
 Calls Tryz.prog 25 #[v1, v2] w fun e w' => e = .returned (.bool true) ∧ Only [] w w' := by
 obtain ⟨A1, c1, rfl⟩ := hs1.shape
 obtain ⟨A2, c2, rfl⟩ := hs2.shape
 have H1 := Hd hs1
 have H2 := Hd hs2
 clear hs1 hs2
 go_enter Tryz.func25, Tryz.ntmps25
 go_wp2_with fail
 go_loopw [5] (fun i wr => ∃ k : Nat, k ≤ l.length ∧ i = .int .i64 k ∧ Hid (Only [] w wr)) (fun i _ => l.length - (intOf i).toNat)
 case atStart => exact ⟨0, by omega, rfl, Hd oz⟩
 case round =>
  obtain ⟨k, hk, rfl, ho⟩ := hrel
  by_cases hlt : k < l.length
  · have hlt' : (k : Int) < (l.length : Int) := by omega
    obtain ⟨x, hx⟩ : ∃ x, l[k]? = some x := ⟨_, List.getElem?_eq_getElem hlt⟩
    obtain ⟨b1, o1, c1', e1, hb1, hc1⟩ := (H1.out.only ho.out (Nat.le_refl _) (by simp)).at_ (by omega)
    obtain ⟨b2, o2, c2', e2, hb2, hc2⟩ := (H2.out.only ho.out (Nat.le_refl _) (by simp)).at_ (by omega)
    injection e1 with i1 i2 i3
    injection e2 with j1 j2 j3
    subst i1; subst i3; subst j1; subst j3
    have q0 : wr.cell? ⟨b1, o1 + k * 5, none⟩ = some (.int .i64 x.sq) := hc1 (k * 5 + 0) _ (poL_get l k 0 x hx (by omega))
    have q1 : wr.cell? ⟨b1, o1 + k * 5 + 1, none⟩ = some (.string ⟨x.it.id.toArray⟩) := hc1 (k * 5 + 1) _ (poL_get l k 1 x hx (by omega))
    have q2 : wr.cell? ⟨b1, o1 + k * 5 + 2, none⟩ = some (.string ⟨x.it.ti.toArray⟩) := hc1 (k * 5 + 2) _ (poL_get l k 2 x hx (by omega))
    have q3 : wr.cell? ⟨b1, o1 + k * 5 + 3, none⟩ = some (.string ⟨x.it.li.toArray⟩) := hc1 (k * 5 + 3) _ (poL_get l k 3 x hx (by omega))
    have q4 : wr.cell? ⟨b1, o1 + k * 5 + 4, none⟩ = some (.bool x.rd) := hc1 (k * 5 + 4) _ (poL_get l k 4 x hx (by omega))
    have s0 : wr.cell? ⟨b2, o2 + k * 5, none⟩ = some (.int .i64 x.sq) := hc2 (k * 5 + 0) _ (poL_get l k 0 x hx (by omega))
    have s1 : wr.cell? ⟨b2, o2 + k * 5 + 1, none⟩ = some (.string ⟨x.it.id.toArray⟩) := hc2 (k * 5 + 1) _ (poL_get l k 1 x hx (by omega))
    have s2 : wr.cell? ⟨b2, o2 + k * 5 + 2, none⟩ = some (.string ⟨x.it.ti.toArray⟩) := hc2 (k * 5 + 2) _ (poL_get l k 2 x hx (by omega))
    have s3 : wr.cell? ⟨b2, o2 + k * 5 + 3, none⟩ = some (.string ⟨x.it.li.toArray⟩) := hc2 (k * 5 + 3) _ (poL_get l k 3 x hx (by omega))
    have s4 : wr.cell? ⟨b2, o2 + k * 5 + 4, none⟩ = some (.bool x.rd) := hc2 (k * 5 + 4) _ (poL_get l k 4 x hx (by omega))
    have p0 := fun u : Since wr => u.cell q0
    have p1 := fun u : Since wr => u.cell q1
    have p2 := fun u : Since wr => u.cell q2
    have p3 := fun u : Since wr => u.cell q3
    have p4 := fun u : Since wr => u.cell q4
    have r0 := fun u : Since wr => u.cell s0
    have r1 := fun u : Since wr => u.cell s1
    have r2 := fun u : Since wr => u.cell s2
    have r3 := fun u : Since wr => u.cell s3
    have r4 := fun u : Since wr => u.cell s4
    clear hx q0 q1 q2 q3 q4 s0 s1 s2 s3 s4 i2 j2 hc1 hc2
    go_wp2_with fail
    refine wp_region_only wr oz (by kernel_rfl) (by kernel_rfl) ?_
    repeat (go_big_quiet_step (fail))
    refine wpQuiet_nil ?_
    rintro ⟨w3, ho3⟩
    dsimp only
    have HO3 := Hd (ho.out.tr ho3)
    clear p0 p1 p2 p3 p4 r0 r1 r2 r3 r4
    go_wp2_with fail
    go_roundw
    case rel => exact ⟨k + 1, by omega, by go_num, HO3⟩
    case measure => simp [intOf]; omega
  · have hd : decide ((k : Int) < (l.length : Int)) = false := by simp; omega
    go_wp2_with fail
    go_ret
    exact ⟨rfl, ho.out⟩
theorem small19 (v : Value) (l : List C19) (w : World) (hs : SlAt w w.heap.size v 11 l.length (cmL l)) (hok : ∀ a ∈ l, CmAt w a.iv a.c) :
 Calls Tryz.prog 17 #[v] w (SmR l w) := by
 obtain ⟨A, c, rfl⟩ := hs.shape
 have hll : l.length ≤ 9223372036854775807 := by obtain ⟨_, _, _, _, h1, h2, _⟩ := hs; unfold maxLen at h2; omega
 have HS := Hd hs
 have HK := Hd hok
 clear hs hok
 by_cases h80 : 80 < l.length
 · have d1 : decide ((80 : Int) < (l.length : Int)) = true := by simp; omega
   go_enter Tryz.func17, Tryz.ntmps17
   go_wp2_with fail
   go_ret
   exact SmR.no oz
 have d1 : decide ((80 : Int) < (l.length : Int)) = false := by simp; omega
 go_enter Tryz.func17, Tryz.ntmps17
 go_wp2_with fail
 go_loopw [3] (fun i wr => ∃ k : Nat, k ≤ l.length ∧ i = .int .i64 k ∧ Hid (∀ a ∈ l.take k, SmC a.c) ∧ Hid (Only [] w wr)) (fun i _ => l.length - (intOf i).toNat)
 case atStart => exact ⟨0, by omega, rfl, Hd (by simp), Hd oz⟩
 case round =>
  obtain ⟨k, hk, rfl, hall, ho⟩ := hrel
  obtain ⟨wo, rfl⟩ : ∃ wo, wo = wr := ⟨_, rfl⟩
  by_cases hlt : k < l.length
  · have hlt' : decide ((k : Int) < (l.length : Int)) = true := by simp; omega
    have hlt2 : (k : Int) < (l.length : Int) := by omega
    obtain ⟨a, ha⟩ : ∃ a, l[k]? = some a := ⟨_, List.getElem?_eq_getElem hlt⟩
    have HA := Hd ((HK.out a (List.mem_of_getElem? ha)).only ho.out)
    obtain ⟨b, o, c', hv, q0, q1, q2, q3, q4, q5, q6, q7, q8, q9, q10⟩ := cmL_at (HS.out.only ho.out (Nat.le_refl _) (by simp)) ha
    obtain ⟨IA, ic, hiv⟩ := HA.out.its.shape
    have hil : a.c.its.length ≤ 9223372036854775807 := by obtain ⟨_, _, _, _, h1, h2, _⟩ := HA.out.its; unfold maxLen at h2; omega
    have hfl := HA.out.fd
    have hdl := HA.out.id
    unfold maxLen at hfl hdl
    have HAT := Hd ha
    rw [hiv] at q9
    injection hv with e1 e2 e3
    subst e1; subst e3
    clear e2 ha
    by_cases h1 : 300 < a.c.fd.length
    · have f1 : decide ((300 : Int) < (a.c.fd.length : Int)) = true := by simp; omega
      go_wp2_with fail
      go_ret
      exact SmR.no ho.out
    have f1 : decide ((300 : Int) < (a.c.fd.length : Int)) = false := by simp; omega
    by_cases h2 : 300 < a.c.id.length
    · have f2 : decide ((300 : Int) < (a.c.id.length : Int)) = true := by simp; omega
      go_wp2_with fail
      go_ret
      exact SmR.no ho.out
    have f2 : decide ((300 : Int) < (a.c.id.length : Int)) = false := by simp; omega
    by_cases h3 : 30 < a.c.its.length
    · have f3 : decide ((30 : Int) < (a.c.its.length : Int)) = true := by simp; omega
      go_wp2_with fail
      go_ret
      exact SmR.no ho.out
    have f3 : decide ((30 : Int) < (a.c.its.length : Int)) = false := by simp; omega
    have HIV := Hd hiv
    have HHS : Hid (SlAt wo w.heap.size (.slice (some ⟨b, o, none⟩) l.length c) 11 l.length (cmL l)) := Hd (HS.out.only ho.out (Nat.le_refl _) (by simp))
    clear q0 q1 q2 q3 q4 q5 q6 q10 hiv
    go_wp2_with fail
    go_loopw [4] (fun i wq => ∃ j : Nat, j ≤ a.c.its.length ∧ i = .int .i64 j ∧ Hid (∀ x ∈ a.c.its.take j, SmI x) ∧ Hid (Only [] wo wq)) (fun i _ => a.c.its.length - (intOf i).toNat)
    case atStart => exact ⟨0, by omega, rfl, Hd (by simp), Hd oz⟩
    case round =>
     obtain ⟨j, hj, rfl, hall2, hoq⟩ := hrel
     obtain ⟨wq, rfl⟩ : ∃ wq, wq = wr := ⟨_, rfl⟩
     obtain ⟨b2, o2, c2, hv2, _, _, _, _, _, _, _, _, _, s4, _⟩ := cmL_at (HHS.out.only hoq.out ho.out.size (by simp)) HAT.out
     rw [HIV.out] at s4
     injection hv2 with g1 g2 g3
     injection g1 with g1
     injection g1 with g4 g5 g6
     subst g4; subst g5
     have hoo := Hd (ho.out.tr hoq.out)
     by_cases hjl : j < a.c.its.length
     · have hj' : decide ((j : Int) < (a.c.its.length : Int)) = true := by simp; omega
       have hj2 : (j : Int) < (a.c.its.length : Int) := by omega
       obtain ⟨x, hx⟩ : ∃ x, a.c.its[j]? = some x := ⟨_, List.getElem?_eq_getElem hjl⟩
       obtain ⟨ib, io, ic', hv3, x0, x1, x2⟩ := itL_at (HA.out.only hoq.out).its hx
       rw [HIV.out] at hv3
       injection hv3 with k1 k2 k3
       subst k1; subst k3
       have hxl := HA.out.len x (List.mem_of_getElem? hx)
       have n0 := hxl.id
       have n1 := hxl.ti
       have n2 := hxl.li
       unfold maxLen at n0 n1 n2
       have HXT := Hd hx
       clear hx k2 g3 g6 hxl q7 q8 q9
       obtain ⟨w2, hw2⟩ : ∃ w2, wq.alloc (.cells #[.string ⟨x.id.toArray⟩, .string ⟨x.ti.toArray⟩, .string ⟨x.li.toArray⟩] 99) = w2 := ⟨_, rfl⟩
       have hO2 : Only [] wq w2 := hw2 ▸ oz.alloc _
       obtain ⟨z, hz⟩ : ∃ z, wq.heap.size = z := ⟨_, rfl⟩
       have hzc : Cells w2 z 99 x.cells := hw2 ▸ hz ▸ Cells.new wq _ _
       have z0 := hzc.cell (k := 0) rfl
       have z1 := hzc.cell (k := 1) rfl
       have z2 := hzc.cell (k := 2) rfl
       have HO2 := Hd (hoq.out.tr hO2)
       have HOO := Hd (hoo.out.tr hO2)
       clear hzc hO2
       by_cases m0 : 300 < x.id.length
       · have t0 : decide ((300 : Int) < (x.id.length : Int)) = true := by simp; omega
         go_wp2_with fail
         go_ret
         exact SmR.no HOO.out
       have t0 : decide ((300 : Int) < (x.id.length : Int)) = false := by simp; omega
       by_cases m1 : 300 < x.ti.length
       · have t1 : decide ((300 : Int) < (x.ti.length : Int)) = true := by simp; omega
         go_wp2_with fail
         go_ret
         exact SmR.no HOO.out
       have t1 : decide ((300 : Int) < (x.ti.length : Int)) = false := by simp; omega
       by_cases m2 : 300 < x.li.length
       · have t2 : decide ((300 : Int) < (x.li.length : Int)) = true := by simp; omega
         go_wp2_with fail
         go_ret
         exact SmR.no HOO.out
       have t2 : decide ((300 : Int) < (x.li.length : Int)) = false := by simp; omega
       have HX2 := Hd (all_snoc HXT.out hall2.out ⟨by omega, by omega, by omega⟩)
       go_wp2_with fail
       go_roundw
       case rel => exact ⟨j + 1, by omega, by go_num, HX2, HO2⟩
       case measure => simp [intOf]; omega
     · have hj' : decide ((j : Int) < (a.c.its.length : Int)) = false := by simp; omega
       obtain rfl : j = a.c.its.length := by omega
       have HX2 := Hd (all_snoc HAT.out hall.out ⟨by omega, by omega, by omega, by have := hall2.out; rwa [List.take_length] at this⟩)
       go_wp2_with fail
       go_roundw
       case rel => exact ⟨k + 1, by omega, by go_num, HX2, hoo⟩
       case measure => simp [intOf]; omega
  · have hlt' : decide ((k : Int) < (l.length : Int)) = false := by simp; omega
    obtain rfl : k = l.length := by omega
    have HF := Hd (⟨by omega, by have := hall.out; rwa [List.take_length] at this⟩ : Sm19 l)
    go_wp2_with fail
    go_ret
    exact ⟨true, rfl, fun _ => HF.out, ho.out⟩
end Go.Proofs.YtcjfmildalappaaGreat
namespace Go.Proofs.YtcjfmildalappaaGreat
open Go.RowKit
structure AgW (W w : World) (p : Nat) (K : List Nat) (n : Nat) (a : AgS) : Prop where
 at_ : AgAt w p K a
 ho : Only [] W w
 lo : ∀ x ∈ K, W.heap.size ≤ x
 i : AgI n a
theorem AgW.read {W w w' : World} {p : Nat} {K : List Nat} {n : Nat} {a : AgS} (h : AgW W w p K n a) (ho : Only [] w w') : AgW W w' p K n a := ⟨h.at_.keep ho (by simp), h.ho.tr ho, h.lo, h.i⟩
theorem AgW.far {W w w' : World} {p : Nat} {K X : List Nat} {n : Nat} {a : AgS} (h : AgW W w p K n a) (ho : Only X w w') (hX : ∀ x ∈ X, x ∉ K ∧ W.heap.size ≤ x) : AgW W w' p K n a :=
 ⟨h.at_.keep ho (fun k hk hm => (hX k hm).1 hk), h.ho.trans ho (fun x hx => .inr (hX x hx).2), h.lo, h.i⟩
def DoW (W w w' : World) (p : Nat) (K : List Nat) (n : Nat) (a : AgS) (r : Rp) (e : Ending) : Prop := ∃ pv K', e = .returned (r.val pv) ∧ RpAt w' pv r ∧ (0 < r.ps.length → ∀ g, pv.ownBlock = some g → w.heap.size ≤ g ∧ g ∉ K') ∧ AgW W w' p K' n a ∧ Only K w w' ∧ (∀ x ∈ K', x ∈ K ∨ w.heap.size ≤ x) ∧ RpK r
theorem agw_do (p : Nat) (K : List Nat) (a : AgS) (n : Nat) (hn : n ≤ 1000000) (c : Cm) (iv : Value) (W w : World) (h : AgW W w p K n a) (hc : CmAt w iv c) (hil : c.its.length ≤ 1000000) (hs : ItK w K iv c) :
 Calls Tryz.prog 20 #[.pointer (some ⟨p, 0, none⟩), c.val iv] w fun e w' => DoW W w w' p K (n + 1) (doA a c).2 (doA a c).1 e := by
 refine (ag_do p K a n (by omega) c iv w h.at_ h.i hc hil hs).mono ?_
 rintro e w' ⟨pv, K', he, hp, hg, hA, ho, hN⟩
 have hst := doA_step h.i (by omega) c (hc.nums _ (by simp)) hil
 exact ⟨pv, K', he, hp, hg, ⟨hA, h.ho.trans ho (fun x hx => .inr (h.lo x hx)), fun x hx => by
  rcases hN x hx with e | e
  · exact h.lo x e
  · exact Nat.le_trans h.ho.size e, hst.1⟩, ho, hN, hst.2⟩
theorem agw_new (W w : World) (h : Only [] W w) : Calls Tryz.prog 18 #[] w fun e w' => ∃ p K, e = .returned (.pointer (some ⟨p, 0, none⟩)) ∧ AgW W w' p K 0 AgS.new ∧ (∀ x ∈ K, w.heap.size ≤ x) ∧ Only [] w w' := by
 refine (ag_new w).mono ?_
 rintro e w' ⟨p, K, he, hA, hl, ho⟩
 exact ⟨p, K, he, ⟨hA, h.tr ho, fun x hx => Nat.le_trans h.size (hl x hx), AgI.new⟩, hl, ho⟩
theorem itk_base {W w : World} {p : Nat} {K : List Nat} {n : Nat} {a : AgS} {c : Cm} {iv : Value} (hc : CmAt W iv c) (h : AgW W w p K n a) : ItK w K iv c :=
 fun _ ho => (((hc.its.only h.ho (Nat.le_refl _) (by simp)).only ho h.ho.size h.lo)).more (Nat.le_trans h.ho.size ho.size)
theorem itk_nil (w : World) (K : List Nat) (c : Cm) (h : c.its = []) : ItK w K (.slice none 0 0) c := fun w' _ => by rw [h]; exact SlAt.of_own (World.ownsRow_nil w' 0 99 3)
def Bx (w : World) (K : List Nat) (z : Nat) (t : TypeId) (cs : List Value) : Prop := Cells w z t cs ∧ z ∉ K
theorem Bx.does {w w' : World} {K K' : List Nat} {z : Nat} {t : TypeId} {cs : List Value} (h : Bx w K z t cs) (ho : Only K w w') (hN : ∀ x ∈ K', x ∈ K ∨ w.heap.size ≤ x) : Bx w' K' z t cs :=
 ⟨h.1.only ho h.2, fun hm => by
  rcases hN z hm with e | e
  · exact h.2 e
  · have := h.1.lt; omega⟩
theorem Bx.read {w w' : World} {K : List Nat} {z : Nat} {t : TypeId} {cs : List Value} (h : Bx w K z t cs) (ho : Only [] w w') : Bx w' K z t cs := ⟨h.1.only ho (by simp), h.2⟩
theorem Bx.far {w w' : World} {K : List Nat} {z y : Nat} {t : TypeId} {cs : List Value} (h : Bx w K z t cs) (ho : Only [y] w w') (hy : z ≠ y) : Bx w' K z t cs := ⟨h.1.only ho (by simpa using hy), h.2⟩
theorem box_row (w : World) (t : TypeId) (z c : List Value) : Only [] w ((w.alloc (.cells z.toArray t)).setRow w.heap.size c.toArray) ∧ Cells (w.alloc (.cells z.toArray t)) w.heap.size t z ∧ Cells ((w.alloc (.cells z.toArray t)).setRow w.heap.size c.toArray) w.heap.size t c :=
 ⟨((Only.refl [] w).alloc _).trans ((Only.refl [w.heap.size] _).setRow (.inl (by simp)) _) (fun x hx => by simp at hx; subst hx; exact .inr (Nat.le_refl _)), Cells.new w _ _, (Cells.new w t z).setRow c⟩
theorem same19_eq (v1 v2 : Value) (r : Rp) (w : World) (h1 : RpAt w v1 r) (h2 : RpAt w v2 r) :
 Calls Tryz.prog 29 #[r.val v1, r.val v2] w fun e w' => e = .returned (.bool true) ∧ Only [] w w' := by
 have hl := h1.len
 obtain ⟨A1, c1, rfl⟩ := h1.ps.shape
 obtain ⟨A2, c2, rfl⟩ := h2.ps.shape
 have o1 : Only [] w ((w.alloc (.cells #[.int .i64 r.er, .int .i64 r.n, .slice A1 r.ps.length c1] 34)).alloc (.cells #[.int .i64 r.er, .int .i64 r.n, .slice A2 r.ps.length c2] 34)) := (oz.alloc _).alloc _
 have CP := Hd (posts19 _ _ r.ps _ (h1.only o1).ps (h2.only o1).ps (by omega))
 have HO := Hd o1
 unfold Rp.val
 clear h1 h2 o1 hl
 go_enter Tryz.func29, Tryz.ntmps29
 go_wp2_with fail
 refine CP.out.mono ?_
 rintro e w2 ⟨rfl, ho2⟩
 go_wp2_with fail
 go_ret
 exact ⟨rfl, HO.out.tr ho2⟩
def iX : It := ⟨[120], [], []⟩
def rbs (r : Rp) : ByteArray := ⟨(rpb r).toArray⟩
def sa1 : AgS := ⟨⟨[⟨1, 0, .empty⟩], 1⟩, L16.Tb.empty, []⟩
def sa2 : AgS := ⟨⟨[⟨1, 1, rbs (errR 0)⟩], 1⟩, L16.Tb.empty, [([97], ⟨-1, 0, []⟩)]⟩
def sa4 : AgS := ⟨⟨[⟨1, 2, rbs (errR 5)⟩], 1⟩, L16.Tb.empty, [([97], ⟨-1, 0, []⟩)]⟩
def sa6 : AgS := ⟨⟨[⟨1, 2, rbs (errR 5)⟩], 1⟩, (L16.Tb.empty.grant 4 2).1, [([97], ⟨-1, 0, []⟩)]⟩
def sa7 : AgS := ⟨⟨[⟨1, 2, rbs (errR 5)⟩], 1⟩, (L16.Tb.empty.grant 4 2).1, [([97], ⟨0, 0, [⟨1, iX, false⟩]⟩)]⟩
def sa9 : AgS := ⟨⟨[⟨1, 3, rbs ⟨0, 0, [⟨1, iX, false⟩]⟩⟩], 1⟩, (L16.Tb.empty.grant 4 2).1, [([97], ⟨0, 0, [⟨1, iX, false⟩]⟩)]⟩
theorem e19_1 : doA AgS.new ⟨1, 0, 0, 0, 0, 0, 0, [], [], [], false⟩ = (⟨0, 1, []⟩, sa1) := by kernel_rfl
theorem e19_2 : doA sa1 ⟨2, 1, 1, 0, 0, 0, 0, [97], [], [], false⟩ = (errR 0, sa2) := by kernel_rfl
theorem e19_3 : doA sa2 ⟨2, 1, 1, 0, 0, 0, 0, [97], [], [], false⟩ = (errR 0, sa2) := by kernel_rfl
theorem e19_4 : doA sa2 ⟨2, 1, 2, 0, 0, 0, 0, [97], [], [], false⟩ = (errR 5, sa4) := by kernel_rfl
theorem e19_5 : doA sa4 ⟨2, 9, 1, 0, 0, 0, 0, [98], [], [], false⟩ = (errR 17, sa4) := by kernel_rfl
theorem e19_6 : doA sa4 ⟨7, 0, 0, 4, 2, 0, 0, [], [], [], false⟩ = (⟨0, 1, []⟩, sa6) := by kernel_rfl
theorem e19_7 : doA sa6 ⟨8, 0, 0, 4, 2, 1, 0, [97], [], [iX], false⟩ = (⟨0, 1, []⟩, sa7) := by kernel_rfl
theorem e19_8 : doA sa7 ⟨8, 0, 0, 4, 2, 2, 0, [97], [], [iX], false⟩ = (errR 15, sa7) := by kernel_rfl
theorem e19_9 : doA sa7 ⟨5, 1, 3, 0, 0, 0, 0, [97], [], [], false⟩ = (⟨0, 0, [⟨1, iX, false⟩]⟩, sa9) := by kernel_rfl
theorem small_nums {l : List Int} (h : (l.all fun x => decide (-100 ≤ x) && decide (x ≤ 100)) = true) : ∀ x ∈ l, Wide64 x := fun x hx => by
 have := List.all_eq_true.1 h x hx
 simp only [Bool.and_eq_true, decide_eq_true_eq] at this
 exact ⟨by omega, by omega⟩
theorem slat_box {w : World} {ib : Nat} (h : Cells w ib 99 [.string ⟨#[120]⟩, .string ⟨#[]⟩, .string ⟨#[]⟩]) : SlAt w w.heap.size (.slice (some ⟨ib, 0, none⟩) 1 1) 3 1 (itL [iX]) := SlAt.cells (n := 1) (sz := 3) h rfl (by unfold maxLen; omega)
theorem len_iX : ∀ x ∈ [iX], x.Len := fun x hx => by
 simp at hx
 subst hx
 exact ⟨by decide +kernel, by decide +kernel, by decide +kernel⟩
theorem cmat_box {w : World} {ib : Nat} (h : Cells w ib 99 [.string ⟨#[120]⟩, .string ⟨#[]⟩, .string ⟨#[]⟩]) (c : Cm) (hc : c.its = [iX]) (h1 : c.fd.length ≤ maxLen) (h2 : c.id.length ≤ maxLen) (h3 : ∀ x ∈ [c.kd, c.ss, c.sq, c.sh, c.nd, c.ep, c.n], Wide64 x) : CmAt w (.slice (some ⟨ib, 0, none⟩) 1 1) c :=
 ⟨by rw [hc]; exact slat_box h, by rw [hc]; exact len_iX, h1, h2, h3⟩
theorem itk_box {w : World} {K : List Nat} {ib : Nat} (h : Bx w K ib 99 [.string ⟨#[120]⟩, .string ⟨#[]⟩, .string ⟨#[]⟩]) (c : Cm) (hc : c.its = [iX]) : ItK w K (.slice (some ⟨ib, 0, none⟩) 1 1) c := fun w' ho => by
 rw [hc]
 exact slat_box (h.1.only ho h.2)
theorem shown19 (w : World) : Calls Tryz.prog 16 #[] w fun e w' => e = .returned (.bool true) ∧ Only [] w w' := by
 have C0 := Hd (agw_new w w oz)
 go_enter Tryz.func16, Tryz.ntmps16
 go_wp2_with fail
 refine C0.out.mono ?_
 rintro e w0 ⟨p, K0, rfl, hA0, hl0, ho0⟩
 have H0 := Hd hA0
 clear hA0 hl0 ho0 C0
 have CD1 : Hid (Calls Tryz.prog 20 #[.pointer (some ⟨p, 0, none⟩), .agg #[.int .i64 1, .int .i64 0, .int .i64 0, .int .i64 0, .int .i64 0, .int .i64 0, .int .i64 0, .string ⟨#[]⟩, .string ⟨#[]⟩, .slice none 0 0, .bool false]] w0 fun e w' => DoW w w0 w' p K0 1 sa1 (⟨0, 1, []⟩) e) := Hd (by
  have := agw_do p K0 AgS.new 0 (by omega) ⟨1, 0, 0, 0, 0, 0, 0, [], [], [], false⟩ (.slice none 0 0) w w0 H0.out ⟨SlAt.of_own (World.ownsRow_nil _ 0 99 3), (fun x hx => by cases hx), by decide +kernel, by decide +kernel, small_nums (by decide)⟩ (by decide) (itk_nil _ _ _ rfl)
  rw [e19_1] at this
  exact this)
 go_wp2_with fail
 refine CD1.out.mono ?_
 rintro e u1 ⟨pv, K1, he, hp, hg, hA, ho, hN, hk⟩
 have he : e = .returned (.agg #[.int .i64 0, .int .i64 1, pv]) := he
 subst he
 obtain ⟨PA, pc, rfl⟩ := hp.ps.shape
 have HO1 : Hid (Only K0 w0 u1) := Hd ho
 have HN1 : Hid (∀ x ∈ K1, x ∈ K0 ∨ w0.heap.size ≤ x) := Hd hN
 have HP1 := Hd hp
 have HA1 := Hd hA
 have HG1 := Hd hg
 obtain ⟨b1, b2, b3⟩ := box_row u1 34 [.int .i64 0, .int .i64 0, .slice none 0 0] [.int .i64 0, .int .i64 1, .slice PA 0 pc]
 have hone : (#[.int .i64 0, .int .i64 1, .slice PA 0 pc] : Array Value).all (·.oneCell') = true := by simp [Value.oneCell']
 have hbw := hA.at_.bw
 have hnew : u1.heap.size ∉ K1 := fun hm => by have := hbw _ hm; omega
 clear hp hg hA ho hN hk hbw CD1  H0
 go_upto_region 5 with (refine wpList_store_row rfl 34 _ _ rfl u1.heap.size #[.int .i64 0, .int .i64 1, .slice PA 0 pc] rfl rfl 34 _ b2 (by kernel_rfl) rfl hone ?_)
 (try simp only [Act.put])
 obtain ⟨v1, hv1⟩ : ∃ u, (u1.alloc (.cells #[.int .i64 0, .int .i64 0, .slice none 0 0] 34)).setRow u1.heap.size #[.int .i64 0, .int .i64 1, .slice PA 0 pc] = u := ⟨_, rfl⟩
 rw [hv1]
 have b1 : Only [] u1 v1 := hv1 ▸ b1
 have b3 : Cells v1 u1.heap.size 34 [.int .i64 0, .int .i64 1, .slice PA 0 pc] := hv1 ▸ b3
 obtain ⟨z1, hz1⟩ : ∃ z, u1.heap.size = z := ⟨_, rfl⟩
 rw [hz1] at b3 hnew ⊢
 have B1 : Hid (Bx v1 K1 z1 34 [.int .i64 0, .int .i64 1, .slice PA 0 pc]) := Hd ⟨b3, hnew⟩
 have H1 := Hd (HA1.out.read b1)
 have HQ1 := Hd (HP1.out.only b1)
 clear b1 b2 b3 hone hnew hv1 hz1 HA1 HP1 HG1 HO1 HN1
 obtain ⟨b1, b2, b3⟩ := box_row v1 38 [.int .i64 0, .int .i64 0, .int .i64 0, .int .i64 0, .int .i64 0, .int .i64 0, .int .i64 0, .string ⟨#[]⟩, .string ⟨#[]⟩, .slice none 0 0, .bool false] [.int .i64 2, .int .i64 1, .int .i64 1, .int .i64 0, .int .i64 0, .int .i64 0, .int .i64 0, .string ⟨#[97]⟩, .string ⟨#[]⟩, .slice none 0 0, .bool false]
 have hone : (#[.int .i64 2, .int .i64 1, .int .i64 1, .int .i64 0, .int .i64 0, .int .i64 0, .int .i64 0, .string ⟨#[97]⟩, .string ⟨#[]⟩, .slice none 0 0, .bool false] : Array Value).all (·.oneCell') = true := by simp [Value.oneCell']
 have hnew : v1.heap.size ∉ K1 := fun hm => by have := H1.out.at_.bw _ hm; omega
 go_upto_region 6 with (refine wpList_store_row rfl 38 _ _ rfl v1.heap.size #[.int .i64 2, .int .i64 1, .int .i64 1, .int .i64 0, .int .i64 0, .int .i64 0, .int .i64 0, .string ⟨#[97]⟩, .string ⟨#[]⟩, .slice none 0 0, .bool false] rfl rfl 38 _ b2 (by kernel_rfl) rfl hone ?_)
 (try simp only [Act.put])
 obtain ⟨ys, hy⟩ : ∃ u, (v1.alloc (.cells #[.int .i64 0, .int .i64 0, .int .i64 0, .int .i64 0, .int .i64 0, .int .i64 0, .int .i64 0, .string ⟨#[]⟩, .string ⟨#[]⟩, .slice none 0 0, .bool false] 38)).setRow v1.heap.size #[.int .i64 2, .int .i64 1, .int .i64 1, .int .i64 0, .int .i64 0, .int .i64 0, .int .i64 0, .string ⟨#[97]⟩, .string ⟨#[]⟩, .slice none 0 0, .bool false] = u := ⟨_, rfl⟩
 rw [hy]
 have b1 : Only [] v1 ys := hy ▸ b1
 have b3 : Cells ys v1.heap.size 38 [.int .i64 2, .int .i64 1, .int .i64 1, .int .i64 0, .int .i64 0, .int .i64 0, .int .i64 0, .string ⟨#[97]⟩, .string ⟨#[]⟩, .slice none 0 0, .bool false] := hy ▸ b3
 obtain ⟨qs, hz⟩ : ∃ z, v1.heap.size = z := ⟨_, rfl⟩
 rw [hz] at b3 hnew ⊢
 have HLs : Hid (w.heap.size ≤ qs) := Hd (hz ▸ H1.out.ho.size)
 have B2 : Hid (Bx ys K1 qs 38 [.int .i64 2, .int .i64 1, .int .i64 1, .int .i64 0, .int .i64 0, .int .i64 0, .int .i64 0, .string ⟨#[97]⟩, .string ⟨#[]⟩, .slice none 0 0, .bool false]) := Hd ⟨b3, hnew⟩
 have HYs := Hd (H1.out.read b1)
 have B3 := Hd (B1.out.read b1)
 clear b1 b2 b3 hone hnew hy hz H1 B1
 have CD2 : Hid (Calls Tryz.prog 20 #[.pointer (some ⟨p, 0, none⟩), .agg #[.int .i64 2, .int .i64 1, .int .i64 1, .int .i64 0, .int .i64 0, .int .i64 0, .int .i64 0, .string ⟨#[97]⟩, .string ⟨#[]⟩, .slice none 0 0, .bool false]] ys fun e w' => DoW w ys w' p K1 2 sa2 (errR 0) e) := Hd (by
  have := agw_do p K1 sa1 1 (by omega) ⟨2, 1, 1, 0, 0, 0, 0, [97], [], [], false⟩ (.slice none 0 0) w ys HYs.out ⟨SlAt.of_own (World.ownsRow_nil _ 0 99 3), (fun x hx => by cases hx), by decide +kernel, by decide +kernel, small_nums (by decide)⟩ (by decide) (itk_nil _ _ _ rfl)
  rw [e19_2] at this
  exact this)
 have hld := B2.out.1
 go_wp2_with (refine wpList_load_row rfl 38 _ rfl qs rfl 38 #[.int .i64 2, .int .i64 1, .int .i64 1, .int .i64 0, .int .i64 0, .int .i64 0, .int .i64 0, .string ⟨#[97]⟩, .string ⟨#[]⟩, .slice none 0 0, .bool false] (0, 0) _ hld Tryz.underlying38 rfl (by kernel_rfl) ?_)
 clear hld
 refine CD2.out.mono ?_
 rintro e u2 ⟨pv, K2, he, hp, hg, hA, ho, hN, hk⟩
 have he : e = .returned (.agg #[.int .i64 0, .int .i64 0, pv]) := he
 subst he
 obtain ⟨PA, pc, rfl⟩ := hp.ps.shape
 have HO2 : Hid (Only K1 ys u2) := Hd ho
 have HN2 : Hid (∀ x ∈ K2, x ∈ K1 ∨ ys.heap.size ≤ x) := Hd hN
 have HP2 := Hd hp
 have HA2 := Hd hA
 have HG2 := Hd hg
 have B4 := Hd (B3.out.does HO2.out HN2.out)
 have B5 := Hd (B2.out.does HO2.out HN2.out)
 obtain ⟨b1, b2, b3⟩ := box_row u2 34 [.int .i64 0, .int .i64 0, .slice none 0 0] [.int .i64 0, .int .i64 0, .slice PA 0 pc]
 have hone : (#[.int .i64 0, .int .i64 0, .slice PA 0 pc] : Array Value).all (·.oneCell') = true := by simp [Value.oneCell']
 have hbw := hA.at_.bw
 have hnew : u2.heap.size ∉ K2 := fun hm => by have := hbw _ hm; omega
 clear hp hg hA ho hN hk hbw CD2 B3 B2 HYs
 go_upto_region 7 with (refine wpList_store_row rfl 34 _ _ rfl u2.heap.size #[.int .i64 0, .int .i64 0, .slice PA 0 pc] rfl rfl 34 _ b2 (by kernel_rfl) rfl hone ?_)
 (try simp only [Act.put])
 obtain ⟨v2, hv2⟩ : ∃ u, (u2.alloc (.cells #[.int .i64 0, .int .i64 0, .slice none 0 0] 34)).setRow u2.heap.size #[.int .i64 0, .int .i64 0, .slice PA 0 pc] = u := ⟨_, rfl⟩
 rw [hv2]
 have b1 : Only [] u2 v2 := hv2 ▸ b1
 have b3 : Cells v2 u2.heap.size 34 [.int .i64 0, .int .i64 0, .slice PA 0 pc] := hv2 ▸ b3
 obtain ⟨z2, hz2⟩ : ∃ z, u2.heap.size = z := ⟨_, rfl⟩
 rw [hz2] at b3 hnew ⊢
 have B6 : Hid (Bx v2 K2 z2 34 [.int .i64 0, .int .i64 0, .slice PA 0 pc]) := Hd ⟨b3, hnew⟩
 have H2 := Hd (HA2.out.read b1)
 have HQ2 := Hd (HP2.out.only b1)
 have B7 := Hd (B4.out.read b1)
 have B8 := Hd (B5.out.read b1)
 clear b1 b2 b3 hone hnew hv2 hz2 HA2 HP2 HG2 HO2 HN2 B4 B5
 have CD3 : Hid (Calls Tryz.prog 20 #[.pointer (some ⟨p, 0, none⟩), .agg #[.int .i64 2, .int .i64 1, .int .i64 1, .int .i64 0, .int .i64 0, .int .i64 0, .int .i64 0, .string ⟨#[97]⟩, .string ⟨#[]⟩, .slice none 0 0, .bool false]] v2 fun e w' => DoW w v2 w' p K2 3 sa2 (errR 0) e) := Hd (by
  have := agw_do p K2 sa2 2 (by omega) ⟨2, 1, 1, 0, 0, 0, 0, [97], [], [], false⟩ (.slice none 0 0) w v2 H2.out ⟨SlAt.of_own (World.ownsRow_nil _ 0 99 3), (fun x hx => by cases hx), by decide +kernel, by decide +kernel, small_nums (by decide)⟩ (by decide) (itk_nil _ _ _ rfl)
  rw [e19_3] at this
  exact this)
 have hld := B8.out.1
 go_wp2_with (refine wpList_load_row rfl 38 _ rfl qs rfl 38 #[.int .i64 2, .int .i64 1, .int .i64 1, .int .i64 0, .int .i64 0, .int .i64 0, .int .i64 0, .string ⟨#[97]⟩, .string ⟨#[]⟩, .slice none 0 0, .bool false] (0, 0) _ hld Tryz.underlying38 rfl (by kernel_rfl) ?_)
 clear hld
 refine CD3.out.mono ?_
 rintro e u3 ⟨pv, K3, he, hp, hg, hA, ho, hN, hk⟩
 have he : e = .returned (.agg #[.int .i64 0, .int .i64 0, pv]) := he
 subst he
 obtain ⟨PA, pc, rfl⟩ := hp.ps.shape
 have HO3 : Hid (Only K2 v2 u3) := Hd ho
 have HN3 : Hid (∀ x ∈ K3, x ∈ K2 ∨ v2.heap.size ≤ x) := Hd hN
 have HP3 := Hd hp
 have HA3 := Hd hA
 have HG3 := Hd hg
 have B9 := Hd (B7.out.does HO3.out HN3.out)
 have B10 := Hd (B8.out.does HO3.out HN3.out)
 have B11 := Hd (B6.out.does HO3.out HN3.out)
 obtain ⟨b1, b2, b3⟩ := box_row u3 34 [.int .i64 0, .int .i64 0, .slice none 0 0] [.int .i64 0, .int .i64 0, .slice PA 0 pc]
 have hone : (#[.int .i64 0, .int .i64 0, .slice PA 0 pc] : Array Value).all (·.oneCell') = true := by simp [Value.oneCell']
 have hbw := hA.at_.bw
 have hnew : u3.heap.size ∉ K3 := fun hm => by have := hbw _ hm; omega
 clear hp hg hA ho hN hk hbw CD3 B7 B8 B6 H2
 go_upto_region 8 with (refine wpList_store_row rfl 34 _ _ rfl u3.heap.size #[.int .i64 0, .int .i64 0, .slice PA 0 pc] rfl rfl 34 _ b2 (by kernel_rfl) rfl hone ?_)
 (try simp only [Act.put])
 obtain ⟨v3, hv3⟩ : ∃ u, (u3.alloc (.cells #[.int .i64 0, .int .i64 0, .slice none 0 0] 34)).setRow u3.heap.size #[.int .i64 0, .int .i64 0, .slice PA 0 pc] = u := ⟨_, rfl⟩
 rw [hv3]
 have b1 : Only [] u3 v3 := hv3 ▸ b1
 have b3 : Cells v3 u3.heap.size 34 [.int .i64 0, .int .i64 0, .slice PA 0 pc] := hv3 ▸ b3
 obtain ⟨z3, hz3⟩ : ∃ z, u3.heap.size = z := ⟨_, rfl⟩
 rw [hz3] at b3 hnew ⊢
 have B12 : Hid (Bx v3 K3 z3 34 [.int .i64 0, .int .i64 0, .slice PA 0 pc]) := Hd ⟨b3, hnew⟩
 have H3 := Hd (HA3.out.read b1)
 have HQ3 := Hd (HP3.out.only b1)
 have B13 := Hd (B9.out.read b1)
 have B14 := Hd (B10.out.read b1)
 have B15 := Hd (B11.out.read b1)
 clear b1 b2 b3 hone hnew hv3 hz3 HA3 HP3 HG3 HO3 HN3 B9 B10 B11
 have hs0 := B14.out.1.cell (k := 2) rfl
 have hf0 := B14.out.1.frozen 2
 have hl0 := B14.out.1.lt
 go_upto_region 9 with fail
 obtain ⟨ys2, hy⟩ : ∃ u, v3.setCell ⟨qs, 2, none⟩ (.int .i64 2) = u := ⟨_, rfl⟩
 rw [hy]
 have b1 : Only [qs] v3 ys2 := hy ▸ oz.setCell (.inl (by simp)) _
 have B16 : Hid (Bx ys2 K3 qs 38 [.int .i64 2, .int .i64 1, .int .i64 2, .int .i64 0, .int .i64 0, .int .i64 0, .int .i64 0, .string ⟨#[97]⟩, .string ⟨#[]⟩, .slice none 0 0, .bool false]) := Hd ⟨hy ▸ B14.out.1.set 2 _, B14.out.2⟩
 have HZs := Hd (H3.out.far b1 (fun x hx => by simp at hx; subst hx; exact ⟨B14.out.2, HLs.out⟩))
 have B17 := Hd (B13.out.far b1 (B13.out.1.ne B14.out.1 (by decide)))
 have B18 := Hd (B15.out.far b1 (B15.out.1.ne B14.out.1 (by decide)))
 have B19 := Hd (B12.out.far b1 (B12.out.1.ne B14.out.1 (by decide)))
 clear hs0 hf0 hl0 b1 hy H3 B14 B13 B15 B12
 have CD4 : Hid (Calls Tryz.prog 20 #[.pointer (some ⟨p, 0, none⟩), .agg #[.int .i64 2, .int .i64 1, .int .i64 2, .int .i64 0, .int .i64 0, .int .i64 0, .int .i64 0, .string ⟨#[97]⟩, .string ⟨#[]⟩, .slice none 0 0, .bool false]] ys2 fun e w' => DoW w ys2 w' p K3 4 sa4 (errR 5) e) := Hd (by
  have := agw_do p K3 sa2 3 (by omega) ⟨2, 1, 2, 0, 0, 0, 0, [97], [], [], false⟩ (.slice none 0 0) w ys2 HZs.out ⟨SlAt.of_own (World.ownsRow_nil _ 0 99 3), (fun x hx => by cases hx), by decide +kernel, by decide +kernel, small_nums (by decide)⟩ (by decide) (itk_nil _ _ _ rfl)
  rw [e19_4] at this
  exact this)
 have hld := B16.out.1
 go_wp2_with (refine wpList_load_row rfl 38 _ rfl qs rfl 38 #[.int .i64 2, .int .i64 1, .int .i64 2, .int .i64 0, .int .i64 0, .int .i64 0, .int .i64 0, .string ⟨#[97]⟩, .string ⟨#[]⟩, .slice none 0 0, .bool false] (0, 0) _ hld Tryz.underlying38 rfl (by kernel_rfl) ?_)
 clear hld
 refine CD4.out.mono ?_
 rintro e u4 ⟨pv, K4, he, hp, hg, hA, ho, hN, hk⟩
 have he : e = .returned (.agg #[.int .i64 5, .int .i64 0, pv]) := he
 subst he
 obtain ⟨PA, pc, rfl⟩ := hp.ps.shape
 have HO4 : Hid (Only K3 ys2 u4) := Hd ho
 have HN4 : Hid (∀ x ∈ K4, x ∈ K3 ∨ ys2.heap.size ≤ x) := Hd hN
 have HP4 := Hd hp
 have HA4 := Hd hA
 have HG4 := Hd hg
 have B20 := Hd (B17.out.does HO4.out HN4.out)
 have B21 := Hd (B16.out.does HO4.out HN4.out)
 have B22 := Hd (B18.out.does HO4.out HN4.out)
 have B23 := Hd (B19.out.does HO4.out HN4.out)
 obtain ⟨b1, b2, b3⟩ := box_row u4 34 [.int .i64 0, .int .i64 0, .slice none 0 0] [.int .i64 5, .int .i64 0, .slice PA 0 pc]
 have hone : (#[.int .i64 5, .int .i64 0, .slice PA 0 pc] : Array Value).all (·.oneCell') = true := by simp [Value.oneCell']
 have hbw := hA.at_.bw
 have hnew : u4.heap.size ∉ K4 := fun hm => by have := hbw _ hm; omega
 clear hp hg hA ho hN hk hbw CD4 B17 B16 B18 B19 HZs
 go_upto_region 10 with (refine wpList_store_row rfl 34 _ _ rfl u4.heap.size #[.int .i64 5, .int .i64 0, .slice PA 0 pc] rfl rfl 34 _ b2 (by kernel_rfl) rfl hone ?_)
 (try simp only [Act.put])
 obtain ⟨v4, hv4⟩ : ∃ u, (u4.alloc (.cells #[.int .i64 0, .int .i64 0, .slice none 0 0] 34)).setRow u4.heap.size #[.int .i64 5, .int .i64 0, .slice PA 0 pc] = u := ⟨_, rfl⟩
 rw [hv4]
 have b1 : Only [] u4 v4 := hv4 ▸ b1
 have b3 : Cells v4 u4.heap.size 34 [.int .i64 5, .int .i64 0, .slice PA 0 pc] := hv4 ▸ b3
 obtain ⟨z4, hz4⟩ : ∃ z, u4.heap.size = z := ⟨_, rfl⟩
 rw [hz4] at b3 hnew ⊢
 have B24 : Hid (Bx v4 K4 z4 34 [.int .i64 5, .int .i64 0, .slice PA 0 pc]) := Hd ⟨b3, hnew⟩
 have H4 := Hd (HA4.out.read b1)
 have HQ4 := Hd (HP4.out.only b1)
 have B25 := Hd (B20.out.read b1)
 have B26 := Hd (B21.out.read b1)
 have B27 := Hd (B22.out.read b1)
 have B28 := Hd (B23.out.read b1)
 clear b1 b2 b3 hone hnew hv4 hz4 HA4 HP4 HG4 HO4 HN4 B20 B21 B22 B23
 have CD5 : Hid (Calls Tryz.prog 20 #[.pointer (some ⟨p, 0, none⟩), .agg #[.int .i64 2, .int .i64 9, .int .i64 1, .int .i64 0, .int .i64 0, .int .i64 0, .int .i64 0, .string ⟨#[98]⟩, .string ⟨#[]⟩, .slice none 0 0, .bool false]] v4 fun e w' => DoW w v4 w' p K4 5 sa4 (errR 17) e) := Hd (by
  have := agw_do p K4 sa4 4 (by omega) ⟨2, 9, 1, 0, 0, 0, 0, [98], [], [], false⟩ (.slice none 0 0) w v4 H4.out ⟨SlAt.of_own (World.ownsRow_nil _ 0 99 3), (fun x hx => by cases hx), by decide +kernel, by decide +kernel, small_nums (by decide)⟩ (by decide) (itk_nil _ _ _ rfl)
  rw [e19_5] at this
  exact this)
 go_wp2_with fail
 refine CD5.out.mono ?_
 rintro e u5 ⟨pv, K5, he, hp, hg, hA, ho, hN, hk⟩
 have he : e = .returned (.agg #[.int .i64 17, .int .i64 0, pv]) := he
 subst he
 obtain ⟨PA, pc, rfl⟩ := hp.ps.shape
 have HO5 : Hid (Only K4 v4 u5) := Hd ho
 have HN5 : Hid (∀ x ∈ K5, x ∈ K4 ∨ v4.heap.size ≤ x) := Hd hN
 have HP5 := Hd hp
 have HA5 := Hd hA
 have HG5 := Hd hg
 have B29 := Hd (B25.out.does HO5.out HN5.out)
 have B30 := Hd (B26.out.does HO5.out HN5.out)
 have B31 := Hd (B27.out.does HO5.out HN5.out)
 have B32 := Hd (B28.out.does HO5.out HN5.out)
 have B33 := Hd (B24.out.does HO5.out HN5.out)
 obtain ⟨b1, b2, b3⟩ := box_row u5 34 [.int .i64 0, .int .i64 0, .slice none 0 0] [.int .i64 17, .int .i64 0, .slice PA 0 pc]
 have hone : (#[.int .i64 17, .int .i64 0, .slice PA 0 pc] : Array Value).all (·.oneCell') = true := by simp [Value.oneCell']
 have hbw := hA.at_.bw
 have hnew : u5.heap.size ∉ K5 := fun hm => by have := hbw _ hm; omega
 clear hp hg hA ho hN hk hbw CD5 B25 B26 B27 B28 B24 H4
 go_upto_region 11 with (refine wpList_store_row rfl 34 _ _ rfl u5.heap.size #[.int .i64 17, .int .i64 0, .slice PA 0 pc] rfl rfl 34 _ b2 (by kernel_rfl) rfl hone ?_)
 (try simp only [Act.put])
 obtain ⟨v5, hv5⟩ : ∃ u, (u5.alloc (.cells #[.int .i64 0, .int .i64 0, .slice none 0 0] 34)).setRow u5.heap.size #[.int .i64 17, .int .i64 0, .slice PA 0 pc] = u := ⟨_, rfl⟩
 rw [hv5]
 have b1 : Only [] u5 v5 := hv5 ▸ b1
 have b3 : Cells v5 u5.heap.size 34 [.int .i64 17, .int .i64 0, .slice PA 0 pc] := hv5 ▸ b3
 obtain ⟨z5, hz5⟩ : ∃ z, u5.heap.size = z := ⟨_, rfl⟩
 rw [hz5] at b3 hnew ⊢
 have B34 : Hid (Bx v5 K5 z5 34 [.int .i64 17, .int .i64 0, .slice PA 0 pc]) := Hd ⟨b3, hnew⟩
 have H5 := Hd (HA5.out.read b1)
 have HQ5 := Hd (HP5.out.only b1)
 have B35 := Hd (B29.out.read b1)
 have B36 := Hd (B30.out.read b1)
 have B37 := Hd (B31.out.read b1)
 have B38 := Hd (B32.out.read b1)
 have B39 := Hd (B33.out.read b1)
 clear b1 b2 b3 hone hnew hv5 hz5 HA5 HP5 HG5 HO5 HN5 B29 B30 B31 B32 B33
 have CD6 : Hid (Calls Tryz.prog 20 #[.pointer (some ⟨p, 0, none⟩), .agg #[.int .i64 7, .int .i64 0, .int .i64 0, .int .i64 4, .int .i64 2, .int .i64 0, .int .i64 0, .string ⟨#[]⟩, .string ⟨#[]⟩, .slice none 0 0, .bool false]] v5 fun e w' => DoW w v5 w' p K5 6 sa6 (⟨0, 1, []⟩) e) := Hd (by
  have := agw_do p K5 sa4 5 (by omega) ⟨7, 0, 0, 4, 2, 0, 0, [], [], [], false⟩ (.slice none 0 0) w v5 H5.out ⟨SlAt.of_own (World.ownsRow_nil _ 0 99 3), (fun x hx => by cases hx), by decide +kernel, by decide +kernel, small_nums (by decide)⟩ (by decide) (itk_nil _ _ _ rfl)
  rw [e19_6] at this
  exact this)
 go_wp2_with fail
 refine CD6.out.mono ?_
 rintro e u6 ⟨pv, K6, he, hp, hg, hA, ho, hN, hk⟩
 have he : e = .returned (.agg #[.int .i64 0, .int .i64 1, pv]) := he
 subst he
 obtain ⟨PA, pc, rfl⟩ := hp.ps.shape
 have HO6 : Hid (Only K5 v5 u6) := Hd ho
 have HN6 : Hid (∀ x ∈ K6, x ∈ K5 ∨ v5.heap.size ≤ x) := Hd hN
 have HP6 := Hd hp
 have HA6 := Hd hA
 have HG6 := Hd hg
 have B40 := Hd (B35.out.does HO6.out HN6.out)
 have B41 := Hd (B36.out.does HO6.out HN6.out)
 have B42 := Hd (B37.out.does HO6.out HN6.out)
 have B43 := Hd (B38.out.does HO6.out HN6.out)
 have B44 := Hd (B39.out.does HO6.out HN6.out)
 have B45 := Hd (B34.out.does HO6.out HN6.out)
 obtain ⟨b1, b2, b3⟩ := box_row u6 34 [.int .i64 0, .int .i64 0, .slice none 0 0] [.int .i64 0, .int .i64 1, .slice PA 0 pc]
 have hone : (#[.int .i64 0, .int .i64 1, .slice PA 0 pc] : Array Value).all (·.oneCell') = true := by simp [Value.oneCell']
 have hbw := hA.at_.bw
 have hnew : u6.heap.size ∉ K6 := fun hm => by have := hbw _ hm; omega
 clear hp hg hA ho hN hk hbw CD6 B35 B36 B37 B38 B39 B34 H5
 go_upto_region 12 with (refine wpList_store_row rfl 34 _ _ rfl u6.heap.size #[.int .i64 0, .int .i64 1, .slice PA 0 pc] rfl rfl 34 _ b2 (by kernel_rfl) rfl hone ?_)
 (try simp only [Act.put])
 obtain ⟨v6, hv6⟩ : ∃ u, (u6.alloc (.cells #[.int .i64 0, .int .i64 0, .slice none 0 0] 34)).setRow u6.heap.size #[.int .i64 0, .int .i64 1, .slice PA 0 pc] = u := ⟨_, rfl⟩
 rw [hv6]
 have b1 : Only [] u6 v6 := hv6 ▸ b1
 have b3 : Cells v6 u6.heap.size 34 [.int .i64 0, .int .i64 1, .slice PA 0 pc] := hv6 ▸ b3
 obtain ⟨z6, hz6⟩ : ∃ z, u6.heap.size = z := ⟨_, rfl⟩
 rw [hz6] at b3 hnew ⊢
 have B46 : Hid (Bx v6 K6 z6 34 [.int .i64 0, .int .i64 1, .slice PA 0 pc]) := Hd ⟨b3, hnew⟩
 have H6 := Hd (HA6.out.read b1)
 have HQ6 := Hd (HP6.out.only b1)
 have B47 := Hd (B40.out.read b1)
 have B48 := Hd (B41.out.read b1)
 have B49 := Hd (B42.out.read b1)
 have B50 := Hd (B43.out.read b1)
 have B51 := Hd (B44.out.read b1)
 have B52 := Hd (B45.out.read b1)
 clear b1 b2 b3 hone hnew hv6 hz6 HA6 HP6 HG6 HO6 HN6 B40 B41 B42 B43 B44 B45
 obtain ⟨wi, hwi⟩ : ∃ u, v6.alloc (.cells #[.string ⟨#[120]⟩, .string ⟨#[]⟩, .string ⟨#[]⟩] 99) = u := ⟨_, rfl⟩
 have hsz : wi.heap.size = v6.heap.size + 1 := by rw [← hwi, World.size_alloc]
 obtain ⟨b1, b2, b3⟩ := box_row wi 38 [.int .i64 0, .int .i64 0, .int .i64 0, .int .i64 0, .int .i64 0, .int .i64 0, .int .i64 0, .string ⟨#[]⟩, .string ⟨#[]⟩, .slice none 0 0, .bool false] [.int .i64 8, .int .i64 0, .int .i64 0, .int .i64 4, .int .i64 2, .int .i64 1, .int .i64 0, .string ⟨#[97]⟩, .string ⟨#[]⟩, .slice (some ⟨v6.heap.size, 0, none⟩) 1 1, .bool false]
 rw [hsz, ← hwi] at b1 b2 b3
 have hone : (#[.int .i64 8, .int .i64 0, .int .i64 0, .int .i64 4, .int .i64 2, .int .i64 1, .int .i64 0, .string ⟨#[97]⟩, .string ⟨#[]⟩, .slice (some ⟨v6.heap.size, 0, none⟩) 1 1, .bool false] : Array Value).all (·.oneCell') = true := by simp [Value.oneCell']
 have hnew : v6.heap.size + 1 ∉ K6 := fun hm => by have := H6.out.at_.bw _ hm; omega
 have hnew2 : v6.heap.size ∉ K6 := fun hm => by have := H6.out.at_.bw _ hm; omega
 clear hwi hsz wi
 go_upto_region 13 with (refine wpList_store_row rfl 38 _ _ rfl (v6.heap.size + 1) #[.int .i64 8, .int .i64 0, .int .i64 0, .int .i64 4, .int .i64 2, .int .i64 1, .int .i64 0, .string ⟨#[97]⟩, .string ⟨#[]⟩, .slice (some ⟨v6.heap.size, 0, none⟩) 1 1, .bool false] rfl rfl 38 _ b2 (by kernel_rfl) rfl hone ?_)
 (try simp only [Act.put])
 obtain ⟨yi, hy⟩ : ∃ u, ((v6.alloc (.cells #[.string ⟨#[120]⟩, .string ⟨#[]⟩, .string ⟨#[]⟩] 99)).alloc (.cells #[.int .i64 0, .int .i64 0, .int .i64 0, .int .i64 0, .int .i64 0, .int .i64 0, .int .i64 0, .string ⟨#[]⟩, .string ⟨#[]⟩, .slice none 0 0, .bool false] 38)).setRow (v6.heap.size + 1) #[.int .i64 8, .int .i64 0, .int .i64 0, .int .i64 4, .int .i64 2, .int .i64 1, .int .i64 0, .string ⟨#[97]⟩, .string ⟨#[]⟩, .slice (some ⟨v6.heap.size, 0, none⟩) 1 1, .bool false] = u := ⟨_, rfl⟩
 rw [hy]
 have b0 : Only [] (v6.alloc (.cells #[.string ⟨#[120]⟩, .string ⟨#[]⟩, .string ⟨#[]⟩] 99)) yi := hy ▸ b1
 have b1 : Only [] v6 yi := Only.tr0 (oz.alloc _) b0
 have b3 : Cells yi (v6.heap.size + 1) 38 [.int .i64 8, .int .i64 0, .int .i64 0, .int .i64 4, .int .i64 2, .int .i64 1, .int .i64 0, .string ⟨#[97]⟩, .string ⟨#[]⟩, .slice (some ⟨v6.heap.size, 0, none⟩) 1 1, .bool false] := hy ▸ b3
 have b4 : Cells yi v6.heap.size 99 [.string ⟨#[120]⟩, .string ⟨#[]⟩, .string ⟨#[]⟩] := (Cells.new v6 _ _).only b0 (by simp)
 obtain ⟨qi, hz⟩ : ∃ z, v6.heap.size + 1 = z := ⟨_, rfl⟩
 obtain ⟨ib, hib⟩ : ∃ z, v6.heap.size = z := ⟨_, rfl⟩
 have hbase := H6.out.ho.size
 rw [hz, hib] at b3
 rw [hib] at b4 hnew2 hbase
 rw [hz] at hnew
 rw [hz, hib]
 rw [hib] at hz
 have HLi : Hid (w.heap.size ≤ qi) := Hd (by omega)
 have B53 : Hid (Bx yi K6 qi 38 [.int .i64 8, .int .i64 0, .int .i64 0, .int .i64 4, .int .i64 2, .int .i64 1, .int .i64 0, .string ⟨#[97]⟩, .string ⟨#[]⟩, .slice (some ⟨ib, 0, none⟩) 1 1, .bool false]) := Hd ⟨b3, hnew⟩
 have B54 : Hid (Bx yi K6 ib 99 [.string ⟨#[120]⟩, .string ⟨#[]⟩, .string ⟨#[]⟩]) := Hd ⟨b4, hnew2⟩
 have HYi := Hd (H6.out.read b1)
 have B55 := Hd (B47.out.read b1)
 have B56 := Hd (B49.out.read b1)
 have B57 := Hd (B50.out.read b1)
 have B58 := Hd (B51.out.read b1)
 have B59 := Hd (B52.out.read b1)
 have B60 := Hd (B46.out.read b1)
 clear b0 b1 b2 b3 b4 hone hnew hnew2 hy hz hib hbase H6 B47 B49 B50 B51 B52 B46
 have CD7 : Hid (Calls Tryz.prog 20 #[.pointer (some ⟨p, 0, none⟩), .agg #[.int .i64 8, .int .i64 0, .int .i64 0, .int .i64 4, .int .i64 2, .int .i64 1, .int .i64 0, .string ⟨#[97]⟩, .string ⟨#[]⟩, .slice (some ⟨ib, 0, none⟩) 1 1, .bool false]] yi fun e w' => DoW w yi w' p K6 7 sa7 (⟨0, 1, []⟩) e) := Hd (by
  have := agw_do p K6 sa6 6 (by omega) ⟨8, 0, 0, 4, 2, 1, 0, [97], [], [iX], false⟩ (.slice (some ⟨ib, 0, none⟩) 1 1) w yi HYi.out (cmat_box B54.out.1 _ rfl (by decide +kernel) (by decide +kernel) (small_nums (by decide))) (by decide) (itk_box B54.out _ rfl)
  rw [e19_7] at this
  exact this)
 have hld := B53.out.1
 go_wp2_with (refine wpList_load_row rfl 38 _ rfl qi rfl 38 #[.int .i64 8, .int .i64 0, .int .i64 0, .int .i64 4, .int .i64 2, .int .i64 1, .int .i64 0, .string ⟨#[97]⟩, .string ⟨#[]⟩, .slice (some ⟨ib, 0, none⟩) 1 1, .bool false] (0, 0) _ hld Tryz.underlying38 rfl (by kernel_rfl) ?_)
 clear hld
 refine CD7.out.mono ?_
 rintro e u7 ⟨pv, K7, he, hp, hg, hA, ho, hN, hk⟩
 have he : e = .returned (.agg #[.int .i64 0, .int .i64 1, pv]) := he
 subst he
 obtain ⟨PA, pc, rfl⟩ := hp.ps.shape
 have HO7 : Hid (Only K6 yi u7) := Hd ho
 have HN7 : Hid (∀ x ∈ K7, x ∈ K6 ∨ yi.heap.size ≤ x) := Hd hN
 have HP7 := Hd hp
 have HA7 := Hd hA
 have HG7 := Hd hg
 have B61 := Hd (B55.out.does HO7.out HN7.out)
 have B62 := Hd (B56.out.does HO7.out HN7.out)
 have B63 := Hd (B57.out.does HO7.out HN7.out)
 have B64 := Hd (B58.out.does HO7.out HN7.out)
 have B65 := Hd (B59.out.does HO7.out HN7.out)
 have B66 := Hd (B60.out.does HO7.out HN7.out)
 have B67 := Hd (B53.out.does HO7.out HN7.out)
 have B68 := Hd (B54.out.does HO7.out HN7.out)
 obtain ⟨b1, b2, b3⟩ := box_row u7 34 [.int .i64 0, .int .i64 0, .slice none 0 0] [.int .i64 0, .int .i64 1, .slice PA 0 pc]
 have hone : (#[.int .i64 0, .int .i64 1, .slice PA 0 pc] : Array Value).all (·.oneCell') = true := by simp [Value.oneCell']
 have hbw := hA.at_.bw
 have hnew : u7.heap.size ∉ K7 := fun hm => by have := hbw _ hm; omega
 clear hp hg hA ho hN hk hbw CD7 B55 B56 B57 B58 B59 B60 B53 B54 HYi
 go_upto_region 14 with (refine wpList_store_row rfl 34 _ _ rfl u7.heap.size #[.int .i64 0, .int .i64 1, .slice PA 0 pc] rfl rfl 34 _ b2 (by kernel_rfl) rfl hone ?_)
 (try simp only [Act.put])
 obtain ⟨v7, hv7⟩ : ∃ u, (u7.alloc (.cells #[.int .i64 0, .int .i64 0, .slice none 0 0] 34)).setRow u7.heap.size #[.int .i64 0, .int .i64 1, .slice PA 0 pc] = u := ⟨_, rfl⟩
 rw [hv7]
 have b1 : Only [] u7 v7 := hv7 ▸ b1
 have b3 : Cells v7 u7.heap.size 34 [.int .i64 0, .int .i64 1, .slice PA 0 pc] := hv7 ▸ b3
 obtain ⟨z7, hz7⟩ : ∃ z, u7.heap.size = z := ⟨_, rfl⟩
 rw [hz7] at b3 hnew ⊢
 have B69 : Hid (Bx v7 K7 z7 34 [.int .i64 0, .int .i64 1, .slice PA 0 pc]) := Hd ⟨b3, hnew⟩
 have H7 := Hd (HA7.out.read b1)
 have HQ7 := Hd (HP7.out.only b1)
 have B70 := Hd (B61.out.read b1)
 have B71 := Hd (B62.out.read b1)
 have B72 := Hd (B63.out.read b1)
 have B73 := Hd (B64.out.read b1)
 have B74 := Hd (B65.out.read b1)
 have B75 := Hd (B66.out.read b1)
 have B76 := Hd (B67.out.read b1)
 have B77 := Hd (B68.out.read b1)
 clear b1 b2 b3 hone hnew hv7 hz7 HA7 HP7 HG7 HO7 HN7 B61 B62 B63 B64 B65 B66 B67 B68
 have hs0 := B76.out.1.cell (k := 5) rfl
 have hf0 := B76.out.1.frozen 5
 have hl0 := B76.out.1.lt
 go_upto_region 15 with fail
 obtain ⟨yi2, hy⟩ : ∃ u, v7.setCell ⟨qi, 5, none⟩ (.int .i64 2) = u := ⟨_, rfl⟩
 rw [hy]
 have b1 : Only [qi] v7 yi2 := hy ▸ oz.setCell (.inl (by simp)) _
 have B78 : Hid (Bx yi2 K7 qi 38 [.int .i64 8, .int .i64 0, .int .i64 0, .int .i64 4, .int .i64 2, .int .i64 2, .int .i64 0, .string ⟨#[97]⟩, .string ⟨#[]⟩, .slice (some ⟨ib, 0, none⟩) 1 1, .bool false]) := Hd ⟨hy ▸ B76.out.1.set 5 _, B76.out.2⟩
 have HZi := Hd (H7.out.far b1 (fun x hx => by simp at hx; subst hx; exact ⟨B76.out.2, HLi.out⟩))
 have B79 := Hd (B70.out.far b1 (B70.out.1.ne B76.out.1 (by decide)))
 have B80 := Hd (B71.out.far b1 (B71.out.1.ne B76.out.1 (by decide)))
 have B81 := Hd (B72.out.far b1 (B72.out.1.ne B76.out.1 (by decide)))
 have B82 := Hd (B73.out.far b1 (B73.out.1.ne B76.out.1 (by decide)))
 have B83 := Hd (B74.out.far b1 (B74.out.1.ne B76.out.1 (by decide)))
 have B84 := Hd (B75.out.far b1 (B75.out.1.ne B76.out.1 (by decide)))
 have B85 := Hd (B77.out.far b1 (B77.out.1.ne B76.out.1 (by decide)))
 have B86 := Hd (B69.out.far b1 (B69.out.1.ne B76.out.1 (by decide)))
 clear hs0 hf0 hl0 b1 hy H7 B76 B70 B71 B72 B73 B74 B75 B77 B69
 have CD8 : Hid (Calls Tryz.prog 20 #[.pointer (some ⟨p, 0, none⟩), .agg #[.int .i64 8, .int .i64 0, .int .i64 0, .int .i64 4, .int .i64 2, .int .i64 2, .int .i64 0, .string ⟨#[97]⟩, .string ⟨#[]⟩, .slice (some ⟨ib, 0, none⟩) 1 1, .bool false]] yi2 fun e w' => DoW w yi2 w' p K7 8 sa7 (errR 15) e) := Hd (by
  have := agw_do p K7 sa7 7 (by omega) ⟨8, 0, 0, 4, 2, 2, 0, [97], [], [iX], false⟩ (.slice (some ⟨ib, 0, none⟩) 1 1) w yi2 HZi.out (cmat_box B85.out.1 _ rfl (by decide +kernel) (by decide +kernel) (small_nums (by decide))) (by decide) (itk_box B85.out _ rfl)
  rw [e19_8] at this
  exact this)
 have hld := B78.out.1
 go_wp2_with (refine wpList_load_row rfl 38 _ rfl qi rfl 38 #[.int .i64 8, .int .i64 0, .int .i64 0, .int .i64 4, .int .i64 2, .int .i64 2, .int .i64 0, .string ⟨#[97]⟩, .string ⟨#[]⟩, .slice (some ⟨ib, 0, none⟩) 1 1, .bool false] (0, 0) _ hld Tryz.underlying38 rfl (by kernel_rfl) ?_)
 clear hld
 refine CD8.out.mono ?_
 rintro e u8 ⟨pv, K8, he, hp, hg, hA, ho, hN, hk⟩
 have he : e = .returned (.agg #[.int .i64 15, .int .i64 0, pv]) := he
 subst he
 obtain ⟨PA, pc, rfl⟩ := hp.ps.shape
 have HO8 : Hid (Only K7 yi2 u8) := Hd ho
 have HN8 : Hid (∀ x ∈ K8, x ∈ K7 ∨ yi2.heap.size ≤ x) := Hd hN
 have HP8 := Hd hp
 have HA8 := Hd hA
 have HG8 := Hd hg
 have B87 := Hd (B79.out.does HO8.out HN8.out)
 have B88 := Hd (B80.out.does HO8.out HN8.out)
 have B89 := Hd (B81.out.does HO8.out HN8.out)
 have B90 := Hd (B82.out.does HO8.out HN8.out)
 have B91 := Hd (B83.out.does HO8.out HN8.out)
 have B92 := Hd (B84.out.does HO8.out HN8.out)
 have B93 := Hd (B78.out.does HO8.out HN8.out)
 have B94 := Hd (B85.out.does HO8.out HN8.out)
 have B95 := Hd (B86.out.does HO8.out HN8.out)
 obtain ⟨b1, b2, b3⟩ := box_row u8 34 [.int .i64 0, .int .i64 0, .slice none 0 0] [.int .i64 15, .int .i64 0, .slice PA 0 pc]
 have hone : (#[.int .i64 15, .int .i64 0, .slice PA 0 pc] : Array Value).all (·.oneCell') = true := by simp [Value.oneCell']
 have hbw := hA.at_.bw
 have hnew : u8.heap.size ∉ K8 := fun hm => by have := hbw _ hm; omega
 clear hp hg hA ho hN hk hbw CD8 B79 B80 B81 B82 B83 B84 B78 B85 B86 HZi
 go_upto_region 16 with (refine wpList_store_row rfl 34 _ _ rfl u8.heap.size #[.int .i64 15, .int .i64 0, .slice PA 0 pc] rfl rfl 34 _ b2 (by kernel_rfl) rfl hone ?_)
 (try simp only [Act.put])
 obtain ⟨v8, hv8⟩ : ∃ u, (u8.alloc (.cells #[.int .i64 0, .int .i64 0, .slice none 0 0] 34)).setRow u8.heap.size #[.int .i64 15, .int .i64 0, .slice PA 0 pc] = u := ⟨_, rfl⟩
 rw [hv8]
 have b1 : Only [] u8 v8 := hv8 ▸ b1
 have b3 : Cells v8 u8.heap.size 34 [.int .i64 15, .int .i64 0, .slice PA 0 pc] := hv8 ▸ b3
 obtain ⟨z8, hz8⟩ : ∃ z, u8.heap.size = z := ⟨_, rfl⟩
 rw [hz8] at b3 hnew ⊢
 have B96 : Hid (Bx v8 K8 z8 34 [.int .i64 15, .int .i64 0, .slice PA 0 pc]) := Hd ⟨b3, hnew⟩
 have H8 := Hd (HA8.out.read b1)
 have HQ8 := Hd (HP8.out.only b1)
 have B97 := Hd (B87.out.read b1)
 have B98 := Hd (B88.out.read b1)
 have B99 := Hd (B89.out.read b1)
 have B100 := Hd (B90.out.read b1)
 have B101 := Hd (B91.out.read b1)
 have B102 := Hd (B92.out.read b1)
 have B103 := Hd (B93.out.read b1)
 have B104 := Hd (B94.out.read b1)
 have B105 := Hd (B95.out.read b1)
 clear b1 b2 b3 hone hnew hv8 hz8 HA8 HP8 HG8 HO8 HN8 B87 B88 B89 B90 B91 B92 B93 B94 B95
 have CD9 : Hid (Calls Tryz.prog 20 #[.pointer (some ⟨p, 0, none⟩), .agg #[.int .i64 5, .int .i64 1, .int .i64 3, .int .i64 0, .int .i64 0, .int .i64 0, .int .i64 0, .string ⟨#[97]⟩, .string ⟨#[]⟩, .slice none 0 0, .bool false]] v8 fun e w' => DoW w v8 w' p K8 9 sa9 (⟨0, 0, [⟨1, iX, false⟩]⟩) e) := Hd (by
  have := agw_do p K8 sa7 8 (by omega) ⟨5, 1, 3, 0, 0, 0, 0, [97], [], [], false⟩ (.slice none 0 0) w v8 H8.out ⟨SlAt.of_own (World.ownsRow_nil _ 0 99 3), (fun x hx => by cases hx), by decide +kernel, by decide +kernel, small_nums (by decide)⟩ (by decide) (itk_nil _ _ _ rfl)
  rw [e19_9] at this
  exact this)
 go_wp2_with fail
 refine CD9.out.mono ?_
 rintro e u9 ⟨pv, K9, he, hp, hg, hA, ho, hN, hk⟩
 have he : e = .returned (.agg #[.int .i64 0, .int .i64 0, pv]) := he
 subst he
 obtain ⟨PA, pc, rfl⟩ := hp.ps.shape
 have HO9 : Hid (Only K8 v8 u9) := Hd ho
 have HN9 : Hid (∀ x ∈ K9, x ∈ K8 ∨ v8.heap.size ≤ x) := Hd hN
 have HP9 := Hd hp
 have HA9 := Hd hA
 have HG9 := Hd hg
 have B106 := Hd (B97.out.does HO9.out HN9.out)
 have B107 := Hd (B98.out.does HO9.out HN9.out)
 have B108 := Hd (B99.out.does HO9.out HN9.out)
 have B109 := Hd (B100.out.does HO9.out HN9.out)
 have B110 := Hd (B101.out.does HO9.out HN9.out)
 have B111 := Hd (B102.out.does HO9.out HN9.out)
 have B112 := Hd (B105.out.does HO9.out HN9.out)
 have B113 := Hd (B96.out.does HO9.out HN9.out)
 obtain ⟨b1, b2, b3⟩ := box_row u9 34 [.int .i64 0, .int .i64 0, .slice none 0 0] [.int .i64 0, .int .i64 0, .slice PA 1 pc]
 have hone : (#[.int .i64 0, .int .i64 0, .slice PA 1 pc] : Array Value).all (·.oneCell') = true := by simp [Value.oneCell']
 have hbw := hA.at_.bw
 have hnew : u9.heap.size ∉ K9 := fun hm => by have := hbw _ hm; omega
 clear hp hg hA ho hN hk hbw CD9 B97 B98 B99 B100 B101 B102 B105 B96 H8
 go_upto_region 17 with (refine wpList_store_row rfl 34 _ _ rfl u9.heap.size #[.int .i64 0, .int .i64 0, .slice PA 1 pc] rfl rfl 34 _ b2 (by kernel_rfl) rfl hone ?_)
 (try simp only [Act.put])
 obtain ⟨v9, hv9⟩ : ∃ u, (u9.alloc (.cells #[.int .i64 0, .int .i64 0, .slice none 0 0] 34)).setRow u9.heap.size #[.int .i64 0, .int .i64 0, .slice PA 1 pc] = u := ⟨_, rfl⟩
 rw [hv9]
 have b1 : Only [] u9 v9 := hv9 ▸ b1
 have b3 : Cells v9 u9.heap.size 34 [.int .i64 0, .int .i64 0, .slice PA 1 pc] := hv9 ▸ b3
 obtain ⟨z9, hz9⟩ : ∃ z, u9.heap.size = z := ⟨_, rfl⟩
 rw [hz9] at b3 hnew ⊢
 have B114 : Hid (Bx v9 K9 z9 34 [.int .i64 0, .int .i64 0, .slice PA 1 pc]) := Hd ⟨b3, hnew⟩
 have H9 := Hd (HA9.out.read b1)
 have HQ9 := Hd (HP9.out.only b1)
 have B115 := Hd (B106.out.read b1)
 have B116 := Hd (B107.out.read b1)
 have B117 := Hd (B108.out.read b1)
 have B118 := Hd (B109.out.read b1)
 have B119 := Hd (B110.out.read b1)
 have B120 := Hd (B111.out.read b1)
 have B121 := Hd (B112.out.read b1)
 have B122 := Hd (B113.out.read b1)
 clear b1 b2 b3 hone hnew hv9 hz9 HA9 HP9 HG9 HO9 HN9 B106 B107 B108 B109 B110 B111 B112 B113
 have eb1 := B115.out.1.cell (k := 1) rfl
 have lb1 := B115.out.1.lt
 have eb2 := B116.out.1.cell (k := 0) rfl
 have lb2 := B116.out.1.lt
 have eb3 := B117.out.1.cell (k := 0) rfl
 have lb3 := B117.out.1.lt
 have eb4 := B118.out.1.cell (k := 0) rfl
 have lb4 := B118.out.1.lt
 have eb5 := B119.out.1.cell (k := 0) rfl
 have lb5 := B119.out.1.lt
 have eb6 := B120.out.1.cell (k := 1) rfl
 have lb6 := B120.out.1.lt
 have eb7 := B121.out.1.cell (k := 1) rfl
 have lb7 := B121.out.1.lt
 have eb8 := B122.out.1.cell (k := 0) rfl
 have lb8 := B122.out.1.lt
 have eb9 := B114.out.1.cell (k := 2) rfl
 have lb9 := B114.out.1.lt
 have oP : Only [] v9 (v9.alloc (.cells #[.int .i64 1, .string ⟨#[120]⟩, .string ⟨#[]⟩, .string ⟨#[]⟩, .bool false] 101)) := oz.alloc _
 have CP : Hid (Calls Tryz.prog 25 #[.slice PA 1 pc, .slice (some ⟨v9.heap.size, 0, none⟩) 1 1] (v9.alloc (.cells #[.int .i64 1, .string ⟨#[120]⟩, .string ⟨#[]⟩, .string ⟨#[]⟩, .bool false] 101)) fun e w' => e = .returned (.bool true) ∧ Only [] (v9.alloc (.cells #[.int .i64 1, .string ⟨#[120]⟩, .string ⟨#[]⟩, .string ⟨#[]⟩, .bool false] 101)) w') := Hd (posts19 _ _ [⟨1, iX, false⟩] _ (HQ9.out.only oP).ps (SlAt.cells (n := 1) (sz := 5) (Cells.new v9 _ [.int .i64 1, .string ⟨#[120]⟩, .string ⟨#[]⟩, .string ⟨#[]⟩, .bool false]) rfl (by unfold maxLen; omega)) (by decide))
 have HF : Hid (Only [] w (v9.alloc (.cells #[.int .i64 1, .string ⟨#[120]⟩, .string ⟨#[]⟩, .string ⟨#[]⟩, .bool false] 101))) := Hd (H9.out.ho.tr oP)
 clear oP
 go_wp2_with fail
 refine CP.out.mono ?_
 rintro e wz ⟨rfl, hoz⟩
 go_wp2_with fail
 go_ret
 exact ⟨rfl, HF.out.tr hoz⟩
end Go.Proofs.YtcjfmildalappaaGreat
