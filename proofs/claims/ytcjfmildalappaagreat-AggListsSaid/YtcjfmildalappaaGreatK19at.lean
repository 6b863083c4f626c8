/-
  What the laws of the chapters 19 and 23 lean on, part K19at: contracts of the functions that they reach, and plain facts; each theorem bears its own conditions.
-/
import Derived.Laws.StructEq
import Derived.Test.YtcjfmildalappaaGreatK19ak
import Derived.Test.YtcjfmildalappaaGreatK19as
set_option linter.unusedVariables false
set_option linter.unusedSimpArgs false
namespace Go.Proofs.YtcjfmildalappaaGreat
open Go.RowKit
theorem SlAt.past {S : List Nat} {w w' : World} {B sz n : Nat} {v : Value} {xs : List Value} (h : SlAt w B v sz n xs) (ho : Only S w w') (hB : B ≤ w.heap.size) (hS : ∀ g, v.ownBlock = some g → g ∉ S) : SlAt w' B v sz n xs := by
  obtain ⟨hl, A, c, rfl, hnc, hc, h⟩ := h
  refine ⟨hl, A, c, rfl, hnc, hc, fun hn => ?_⟩
  obtain ⟨b, o, rfl, hb, hh⟩ := h hn
  exact ⟨b, o, rfl, hb, fun j u hu => (ho.cell (p := ⟨b, o + j, none⟩) (show b < _ by omega) (fun hm => hS b rfl hm)).trans (hh j u hu)⟩
theorem RpAt.past {S : List Nat} {w w' : World} {pv : Value} {r : Rp} (h : RpAt w pv r) (ho : Only S w w') (hS : ∀ g, pv.ownBlock = some g → g ∉ S) : RpAt w' pv r := ⟨(h.ps.past ho (Nat.le_refl _) hS).more ho.size, h.er, h.n, h.sm, h.len⟩
/-- A client's command. -/
def clA (a : AgS) (c : Cm) : Rp × AgS :=
  if (S15.askS a.t.l c.ss c.sq).1 = 3 then (errR 17, a)
  else if (S15.askS a.t.l c.ss c.sq).1 = 2 then (errR 18, a)
  else if (S15.askS a.t.l c.ss c.sq).1 = 1 then (keptR (S15.askS a.t.l c.ss c.sq).2, a)
  else ((cliA a.s c).1, ⟨⟨S15.doneL a.t.l c.ss c.sq ⟨(rpb (cliA a.s c).1).toArray⟩, a.t.ever⟩, a.d, (cliA a.s c).2⟩)
theorem doA_cl {a : AgS} {c : Cm} (hr : rightB c = true) (hc : clB c.kd = true) : doA a c = clA a c := by
  unfold doA clA
  rw [if_neg (by simp [hr]), if_neg (by simp [hc])]
/-- What one of the four comes to. -/
theorem ag_one (p : Nat) (K : List Nat) (a : AgS) (n : Nat) (c : Cm) (iv : Value) (hI : AgI n a) (hfd : c.fd.length ≤ maxLen) (hid : c.id.length ≤ maxLen) :
    (c.kd = 2 → ∀ w, AgAt w p K a → Calls Tryz.prog 124 #[.pointer (some ⟨p, 0, none⟩), c.val iv] w fun e w' => ReO w w' p K (cliA a.s c).1 ⟨a.t, a.d, (cliA a.s c).2⟩ e) ∧
    (c.kd = 3 → ∀ w, AgAt w p K a → Calls Tryz.prog 125 #[.pointer (some ⟨p, 0, none⟩), c.val iv] w fun e w' => ReO w w' p K (cliA a.s c).1 ⟨a.t, a.d, (cliA a.s c).2⟩ e) ∧
    (c.kd = 4 → ∀ w, AgAt w p K a → Calls Tryz.prog 126 #[.pointer (some ⟨p, 0, none⟩), c.val iv] w fun e w' => ReO w w' p K (cliA a.s c).1 ⟨a.t, a.d, (cliA a.s c).2⟩ e) ∧
    (c.kd ≠ 2 → c.kd ≠ 3 → c.kd ≠ 4 → ∀ w, AgAt w p K a → Calls Tryz.prog 123 #[.pointer (some ⟨p, 0, none⟩), c.val iv] w fun e w' => ReO w w' p K (cliA a.s c).1 ⟨a.t, a.d, (cliA a.s c).2⟩ e) := by
  unfold cliA
  refine ⟨fun h w hA => ?_, fun h w hA => ?_, fun h w hA => ?_, fun h2 h3 h4 w hA => ?_⟩
  · rw [if_pos h]; exact ag_subscribe p K a c iv w hA hfd hid
  · rw [if_neg (by omega), if_pos h]; exact ag_unsubscribe p K a c iv w hA hfd hid
  · rw [if_neg (by omega), if_neg (by omega), if_pos h]; exact ag_mark p K a c iv w hA hfd hid
  · rw [if_neg h2, if_neg h3, if_neg h4]; exact ag_list p K a n c iv w hA hI hfd
/-- What is kept, read again. -/
theorem kept_read {r : Rp} (h : RpK r) (w : World) : Calls Tryz.prog 122 #[.string ⟨(rpb r).toArray⟩] w fun e w' => ∃ pv, e = .returned (.tuple #[r.val pv, .int .i64 0]) ∧ RpAt w' pv r ∧ Only [] w w' ∧ ∀ g, pv.ownBlock = some g → w.heap.size ≤ g := by
  refine (cmd_toAnswer (rpb r) w (by have := h.le; omega)).mono ?_
  rintro e w' ⟨pv, he, hp, ho, hn⟩
  have hu : unA (rpb r) = some r := (unA_iff _ (by have := h.le; omega) r).2 ⟨h.ok, rfl⟩
  rw [hu] at he hp
  exact ⟨pv, he, hp, ho, hn⟩
set_option maxRecDepth 100000 in
set_option maxHeartbeats 4000000 in
theorem ag_client (p : Nat) (K : List Nat) (a : AgS) (n : Nat) (c : Cm) (iv : Value) (w : World) (h : AgAt w p K a) (hI : AgI n a) (hfd : c.fd.length ≤ maxLen) (hid : c.id.length ≤ maxLen) :
    Calls Tryz.prog 61 #[.pointer (some ⟨p, 0, none⟩), c.val iv] w fun e w' => ReO w w' p K (clA a c).1 (clA a c).2 e := by
  have hONE := ag_one p K a n c iv hI hfd hid
  obtain ⟨tb, tv, lb, sb, O, B, hX, rfl⟩ := h
  have hkind := S15.ask_kind a.t.l c.ss c.sq
  have hlen := hI.ok.len
  have CA0 := Lib.hid (fun w' ht => S15.tbs_ask B tb a.t.l a.t.ever c.ss c.sq w' ht (by omega))
  have hk1 : (S15.askS a.t.l c.ss c.sq).1 = 1 → ∃ r, RpK r ∧ (S15.askS a.t.l c.ss c.sq).2 = ⟨(rpb r).toArray⟩ := fun h1 => by
    obtain ⟨x, hx, hs, h2, e⟩ := ask_one h1
    obtain ⟨r, hr, er⟩ := hI.kept x hx (by omega)
    exact ⟨r, hr, e.trans er⟩
  have HK1 := Lib.hid hk1
  have hRK := cliA_k hI.si c
  unfold S15.askV at CA0
  have hE3 : (S15.askS a.t.l c.ss c.sq).1 = 3 → clA a c = (errR 17, a) := fun h => by unfold clA; rw [if_pos h]
  have hE2 : (S15.askS a.t.l c.ss c.sq).1 = 2 → clA a c = (errR 18, a) := fun h => by unfold clA; rw [h]; rfl
  have hE1 : (S15.askS a.t.l c.ss c.sq).1 = 1 → clA a c = (keptR (S15.askS a.t.l c.ss c.sq).2, a) := fun h => by unfold clA; rw [h]; rfl
  have hE0 : (S15.askS a.t.l c.ss c.sq).1 = 0 → clA a c = ((cliA a.s c).1, ⟨⟨S15.doneL a.t.l c.ss c.sq ⟨(rpb (cliA a.s c).1).toArray⟩, a.t.ever⟩, a.d, (cliA a.s c).2⟩) := fun h => by unfold clA; rw [h]; rfl
  obtain ⟨qq, hq⟩ : ∃ q, S15.askS a.t.l c.ss c.sq = q := ⟨_, rfl⟩
  rw [hq] at CA0 hkind HK1 hE3 hE2 hE1 hE0
  clear hq hk1
  obtain ⟨q, kb⟩ := qq
  dsimp only at CA0 hkind HK1 hE3 hE2 hE1 hE0
  have HLEN := Lib.hid hlen
  have HONE := Lib.hid hONE
  have HRK := Lib.hid hRK
  have HE3 := Lib.hid hE3
  have HE2 := Lib.hid hE2
  have HE1 := Lib.hid hE1
  have HE0 := Lib.hid hE0
  unfold Cm.val at HONE ⊢
  clear hI hONE hRK hlen hE3 hE2 hE1 hE0
  go_enter Tryz.func61, Tryz.ntmps61
  go_upto_region 1 with fail
  obtain ⟨w1, hw1⟩ : ∃ u, w.alloc (.cells #[.int .i64 c.kd, .int .i64 c.ss, .int .i64 c.sq, .int .i64 c.sh, .int .i64 c.nd, .int .i64 c.ep, .int .i64 c.n, .string ⟨c.fd.toArray⟩, .string ⟨c.id.toArray⟩, iv, .bool c.fl] 38) = u := ⟨_, rfl⟩
  have hR : w.heap.size + 1 = w1.heap.size := by rw [← hw1, World.size_alloc]
  obtain ⟨z, hz⟩ : ∃ z, w.heap.size = z := ⟨_, rfl⟩
  have hcz : Cells w1 z 38 (c.cells iv) := hw1 ▸ hz ▸ Cells.new w _ _
  rw [hw1, hR, hz]
  obtain ⟨w2, hw2⟩ : ∃ u, w1.alloc (.cells #[.int .i64 0, .int .i64 0, .slice none 0 0] 34) = u := ⟨_, rfl⟩
  obtain ⟨R, hRR⟩ : ∃ R, w1.heap.size = R := ⟨_, rfl⟩
  have o12 : Only [] w1 w2 := hw2 ▸ (Only.refl _ _).alloc _
  have o2 : Only [] w w2 := Only.tr0 (hw1 ▸ (Only.refl _ _).alloc _) o12
  have hcR : Cells w2 R 34 [.int .i64 0, .int .i64 0, .slice none 0 0] := hw2 ▸ hRR ▸ Cells.new w1 _ _
  rw [hw2, hRR]
  have hwR : w.heap.size ≤ R := by omega
  have hwz : w.heap.size ≤ z := by omega
  have hX2 := hX.keep o2 (by simp)
  have hcz2 := hcz.only o12 (by simp)
  have HCZ := Lib.hid hcz2
  have hpl := hX2.cells.lt
  have HX := Lib.hid hX
  have HX2 := Lib.hid hX2
  have HO2 := Lib.hid o2
  have HR := Lib.hid hcR
  have hRn : Hid (R ∉ allA p tb tv lb O) := Lib.hid (fun hm => by have := HX.out.lts R hm; omega)
  have hzn : Hid (z ∉ allA p tb tv lb O) := Lib.hid (fun hm => by have := HX.out.lts z hm; omega)
  have CA := Lib.hid (fun v : Since w2 => CA0.out v.w (HX2.out.keep v.2 (by simp)).t.s)
  obtain ⟨c0, c1, c2, c3, c4, c5, c6, c7, c8, c9, c10⟩ := cm_cells hcz2
  have p1 := hX2.cells.cell (k := 0) rfl
  have v1 := fun u : Since w2 => u.cell p1
  have u1 := fun u : Since w2 => u.cell c1
  have u2 := fun u : Since w2 => u.cell c2
  clear hw1 hw2 hR hRR hz o2 o12 hcR hX hX2 hcz hcz2 CA0 c0 c1 c2 c3 c4 c5 c6 c7 c8 c9 c10 p1
  refine wp_region_only w2 (Only.refl _ _) (by kernel_rfl) (by kernel_rfl) ?_
  repeat (go_big_quiet_step ((go_at_call 121; refine Calls.only (CA.out _))))
  refine wpQuiet_nil ?_
  rintro ⟨w3, ho3⟩
  dsimp only
  have HX3 := Lib.hid (HX2.out.keep ho3 (by simp))
  have HO3 := Lib.hid (HO2.out.tr ho3)
  have HR3 := Lib.hid (HR.out.only ho3 (by simp))
  have HCZ3 := Lib.hid (HCZ.out.only ho3 (by simp))
  clear ho3 v1 u1 u2 CA HX2 HO2 HR HCZ
  have hq4 : q = 3 ∨ q = 2 ∨ q = 1 ∨ q = 0 := by omega
  clear hkind
  rcases hq4 with rfl | rfl | rfl | rfl
  · have HE := Lib.hid (HE3.out rfl)
    clear HCZ3 hzn
    have oR : ∀ row, Only [R] w3 (w3.setRow R row) := fun row => (Only.refl _ _).setRow (.inl (by simp)) _
    have HFIN : Hid (∀ row, ReO w (w3.setRow R row) p (allA p tb tv lb O) (clA a c).1 (clA a c).2 (.returned (.agg #[.int .i64 17, .int .i64 0, .slice none 0 0]))) := Lib.hid (fun row => HE.out ▸ ReO.nil rfl (wide_lt (by omega) (by omega)) (wide_lt (by omega) (by omega)) ⟨tb, tv, lb, sb, O, B, HX3.out.keep (oR row) (fun k hk hm => by simp at hm; subst hm; exact hRn.out hk), rfl⟩ (HO3.out.of0.trans (oR row) (fun x hx => by simp at hx; subst hx; exact .inr hwR)) (fun x hx => .inl hx))
    have HRF := Lib.hid HR3.out
    have hst := HRF.out
    have hone : (#[.int .i64 17, .int .i64 0, .slice none 0 0] : Array Value).all (·.oneCell') = true := by simp [Value.oneCell']
    clear oR HK1
    go_wp2_with (refine wpList_store_row rfl 34 _ _ rfl R #[.int .i64 17, .int .i64 0, .slice none 0 0] rfl rfl 34 _ hst (by kernel_rfl) rfl hone ?_)
    (try simp only [Exit.inBlock, Exit.then])
    refine bodyPost_ret (v := .agg #[.int .i64 17, .int .i64 0, .slice none 0 0]) ?_ rfl (HFIN.out _)
    exact results_row Tryz.results61 _ _ R 34 [.int .i64 17, .int .i64 0, .slice none 0 0] _ rfl (Cells.setRow HRF.out [.int .i64 17, .int .i64 0, .slice none 0 0]) Tryz.underlying34 rfl (by kernel_rfl)
  · have HE := Lib.hid (HE2.out rfl)
    clear HCZ3 hzn
    have oR : ∀ row, Only [R] w3 (w3.setRow R row) := fun row => (Only.refl _ _).setRow (.inl (by simp)) _
    have HFIN : Hid (∀ row, ReO w (w3.setRow R row) p (allA p tb tv lb O) (clA a c).1 (clA a c).2 (.returned (.agg #[.int .i64 18, .int .i64 0, .slice none 0 0]))) := Lib.hid (fun row => HE.out ▸ ReO.nil rfl (wide_lt (by omega) (by omega)) (wide_lt (by omega) (by omega)) ⟨tb, tv, lb, sb, O, B, HX3.out.keep (oR row) (fun k hk hm => by simp at hm; subst hm; exact hRn.out hk), rfl⟩ (HO3.out.of0.trans (oR row) (fun x hx => by simp at hx; subst hx; exact .inr hwR)) (fun x hx => .inl hx))
    have HRF := Lib.hid HR3.out
    have hst := HRF.out
    have hone : (#[.int .i64 18, .int .i64 0, .slice none 0 0] : Array Value).all (·.oneCell') = true := by simp [Value.oneCell']
    clear oR HK1
    go_wp2_with (refine wpList_store_row rfl 34 _ _ rfl R #[.int .i64 18, .int .i64 0, .slice none 0 0] rfl rfl 34 _ hst (by kernel_rfl) rfl hone ?_)
    (try simp only [Exit.inBlock, Exit.then])
    refine bodyPost_ret (v := .agg #[.int .i64 18, .int .i64 0, .slice none 0 0]) ?_ rfl (HFIN.out _)
    exact results_row Tryz.results61 _ _ R 34 [.int .i64 18, .int .i64 0, .slice none 0 0] _ rfl (Cells.setRow HRF.out [.int .i64 18, .int .i64 0, .slice none 0 0]) Tryz.underlying34 rfl (by kernel_rfl)
  · have hE := HE1.out rfl
    obtain ⟨r, hr, rfl⟩ := HK1.out rfl
    rw [keptR_of hr] at hE
    have HE := Lib.hid hE
    clear hE
    have CT := Lib.hid (kept_read hr w3)
    unfold Rp.val at CT
    clear HK1 hr HCZ3 hzn
    go_wp2_with fail
    refine CT.out.mono ?_
    rintro e w4 ⟨pv, rfl, hp4, ho4, hn4⟩
    obtain ⟨PA, pc, rfl⟩ := hp4.ps.shape
    obtain ⟨w5, hw5⟩ : ∃ u, w4.alloc (.cells #[.int .i64 0, .int .i64 0, .slice none 0 0] 34) = u := ⟨_, rfl⟩
    have hst5 : Cells (w4.alloc (.cells #[.int .i64 0, .int .i64 0, .slice none 0 0] 34)) w4.heap.size 34 [.int .i64 0, .int .i64 0, .slice none 0 0] := Cells.new w4 _ _
    have o45 : Only [] w4 (w4.alloc (.cells #[.int .i64 0, .int .i64 0, .slice none 0 0] 34)) := (Only.refl _ _).alloc _
    have hR4 := HR3.out.only ho4 (by simp)
    have hRQ : R ≠ w4.heap.size := fun e => by have := hR4.lt; omega
    have hR3s := HR3.out.lt
    rw [hw5] at hst5 o45
    have o46 : Only [] w4 (w5.setRow w4.heap.size #[.int .i64 r.er, .int .i64 r.n, .slice PA r.ps.length pc]) := o45.trans ((Only.refl [w4.heap.size] _).setRow (.inl (by simp)) _) (fun x hx => by simp at hx; subst hx; exact .inr (Nat.le_refl _))
    have hld6 : Cells (w5.setRow w4.heap.size #[.int .i64 r.er, .int .i64 r.n, .slice PA r.ps.length pc]) w4.heap.size 34 [.int .i64 r.er, .int .i64 r.n, .slice PA r.ps.length pc] := hst5.setRow [.int .i64 r.er, .int .i64 r.n, .slice PA r.ps.length pc]
    have hst6 : Cells (w5.setRow w4.heap.size #[.int .i64 r.er, .int .i64 r.n, .slice PA r.ps.length pc]) R 34 [.int .i64 0, .int .i64 0, .slice none 0 0] := hR4.only o46 (by simp)
    have hp6 : RpAt (w5.setRow w4.heap.size #[.int .i64 r.er, .int .i64 r.n, .slice PA r.ps.length pc]) (.slice PA r.ps.length pc) r := hp4.only o46
    have hX6 := HX3.out.keep (ho4.tr o46) (by simp)
    have hO6 := HO3.out.tr (ho4.tr o46)
    obtain ⟨w6, hw6⟩ : ∃ u, w5.setRow w4.heap.size #[.int .i64 r.er, .int .i64 r.n, .slice PA r.ps.length pc] = u := ⟨_, rfl⟩
    rw [hw6] at hld6 hst6 hp6 hX6 hO6
    have oR : ∀ row, Only [R] w6 (w6.setRow R row) := fun row => (Only.refl _ _).setRow (.inl (by simp)) _
    have hgR : ∀ g, (Value.slice PA r.ps.length pc).ownBlock = some g → w.heap.size ≤ g ∧ w3.heap.size ≤ g := fun g hg => ⟨by have := hn4 g hg; have := HO3.out.size; omega, hn4 g hg⟩
    have HFIN : Hid (∀ row, ReO w (w6.setRow R row) p (allA p tb tv lb O) (clA a c).1 (clA a c).2 (.returned (.agg #[.int .i64 r.er, .int .i64 r.n, .slice PA r.ps.length pc]))) := Lib.hid (fun row => HE.out ▸ ⟨.slice PA r.ps.length pc, _, rfl, hp6.past (oR row) (fun g hg hm => by simp at hm; subst hm; have := (hgR _ hg).2; omega), fun _ g hg => ⟨(hgR g hg).1, fun hm => by have := (hgR g hg).2; have := HX3.out.lts g hm; omega⟩, ⟨tb, tv, lb, sb, O, B, hX6.keep (oR row) (fun k hk hm => by simp at hm; subst hm; exact hRn.out hk), rfl⟩, hO6.of0.trans (oR row) (fun x hx => by simp at hx; subst hx; exact .inr hwR), fun x hx => .inl hx⟩)
    have HRF := Lib.hid hst6
    have hone : (#[.int .i64 r.er, .int .i64 r.n, .slice PA r.ps.length pc] : Array Value).all (·.oneCell') = true := by simp [Value.oneCell']
    clear hp4 ho4 hn4 o45 hR4 hRQ hR3s o46 hp6 hX6 hO6 oR hgR CT
    go_wp2_with (first
      | ((try rw [hw5]); refine wpList_store_row rfl 34 _ _ rfl w4.heap.size #[.int .i64 r.er, .int .i64 r.n, .slice PA r.ps.length pc] rfl rfl 34 _ hst5 (by kernel_rfl) rfl hone ?_; (try rw [hw6]))
      | refine wpList_load_row rfl 34 _ rfl w4.heap.size rfl 34 #[.int .i64 r.er, .int .i64 r.n, .slice PA r.ps.length pc] (0, 0) _ hld6 Tryz.underlying34 rfl (by kernel_rfl) ?_
      | refine wpList_store_row rfl 34 _ _ rfl R #[.int .i64 r.er, .int .i64 r.n, .slice PA r.ps.length pc] rfl rfl 34 _ hst6 (by kernel_rfl) rfl hone ?_)
    (try simp only [Exit.inBlock, Exit.then])
    refine bodyPost_ret (v := .agg #[.int .i64 r.er, .int .i64 r.n, .slice PA r.ps.length pc]) ?_ rfl (HFIN.out _)
    exact results_row Tryz.results61 _ _ R 34 [.int .i64 r.er, .int .i64 r.n, .slice PA r.ps.length pc] _ rfl (Cells.setRow HRF.out [.int .i64 r.er, .int .i64 r.n, .slice PA r.ps.length pc]) Tryz.underlying34 rfl (by kernel_rfl)
  · have hE := HE0.out rfl
    obtain ⟨r, hr⟩ : ∃ r, (cliA a.s c).1 = r := ⟨_, rfl⟩
    obtain ⟨s', hs'⟩ : ∃ s', (cliA a.s c).2 = s' := ⟨_, rfl⟩
    rw [hr] at hE HRK HONE
    rw [hs'] at hE HONE
    have HE := Lib.hid hE
    clear hE hr hs' HE0 HE1 HE2 HE3 HK1
    obtain ⟨c0, c1, c2, c3, c4, c5, c6, c7, c8, c9, c10⟩ := cm_cells HCZ3.out
    clear c1 c2 c3 c4 c5 c6 c7 c8 c9 c10
    go_upto_block 1 with fail
    go_cut [9] (fun x wx => ∃ fd, x = .func (.func fd) #[] #[] ∧ (∀ (ys : Array Value) (w' : World), (callFunc fd ys).run Tryz.prog w' = .ok (.enter fd ys) w') ∧ Hid (Only [] w3 wx ∧ ∀ w', AgAt w' p (allA p tb tv lb O) a → Calls Tryz.prog fd #[.pointer (some ⟨p, 0, none⟩), .agg #[.int .i64 c.kd, .int .i64 c.ss, .int .i64 c.sq, .int .i64 c.sh, .int .i64 c.nd, .int .i64 c.ep, .int .i64 c.n, .string ⟨c.fd.toArray⟩, .string ⟨c.id.toArray⟩, iv, .bool c.fl]] w' fun e w'' => ReO w' w'' p (allA p tb tv lb O) r ⟨a.t, a.d, s'⟩ e))
    case first =>
      by_cases k2 : c.kd = 2
      · have HF := Lib.hid (HONE.out.1 k2)
        have t2 : (c.kd == 2) = true := by simpa using k2
        clear k2 HONE
        go_wp2_with fail
        go_meet
        exact ⟨_, rfl, fun _ _ => rfl, Lib.hid ⟨Only.refl _ _, HF.out⟩⟩
      by_cases k3 : c.kd = 3
      · have HF := Lib.hid (HONE.out.2.1 k3)
        have t2 : (c.kd == 2) = false := by simpa using k2
        have t3 : (c.kd == 3) = true := by simpa using k3
        clear k2 k3 HONE
        go_wp2_with fail
        go_meet
        exact ⟨_, rfl, fun _ _ => rfl, Lib.hid ⟨Only.refl _ _, HF.out⟩⟩
      by_cases k4 : c.kd = 4
      · have HF := Lib.hid (HONE.out.2.2.1 k4)
        have t2 : (c.kd == 2) = false := by simpa using k2
        have t3 : (c.kd == 3) = false := by simpa using k3
        have t4 : (c.kd == 4) = true := by simpa using k4
        clear k2 k3 k4 HONE
        go_wp2_with fail
        go_meet
        exact ⟨_, rfl, fun _ _ => rfl, Lib.hid ⟨Only.refl _ _, HF.out⟩⟩
      · have HF := Lib.hid (HONE.out.2.2.2 k2 k3 k4)
        have t2 : (c.kd == 2) = false := by simpa using k2
        have t3 : (c.kd == 3) = false := by simpa using k3
        have t4 : (c.kd == 4) = false := by simpa using k4
        clear k2 k3 k4 HONE
        go_wp2_with fail
        go_meet
        exact ⟨_, rfl, fun _ _ => rfl, Lib.hid ⟨Only.refl _ _, HF.out⟩⟩
    case rest =>
    obtain ⟨fd, rfl, hcf, HW⟩ := hcut
    have HXC := Lib.hid (HX3.out.keep HW.out.1 (by simp))
    have HOC := Lib.hid (HO3.out.tr HW.out.1)
    have HRC := Lib.hid (HR3.out.only HW.out.1 (by simp))
    have HCZC := Lib.hid (HCZ3.out.only HW.out.1 (by simp))
    have CF := Lib.hid (HW.out.2 wc ⟨tb, tv, lb, sb, O, B, HXC.out, rfl⟩)
    obtain ⟨c0, c1, c2, c3, c4, c5, c6, c7, c8, c9, c10⟩ := cm_cells HCZC.out
    clear HW HONE HX3 HO3 HR3 HCZ3
    go_wp2_with fail
    refine CF.out.mono ?_
    rintro e w4 ⟨pv, K', rfl, hp4, hn4, ⟨tb2, tv2, lb2, sb2, O2, B2, hX4, rfl⟩, ho4, hN4⟩
    obtain ⟨PA, pc, rfl⟩ := hp4.ps.shape
    clear c0 c1 c2 c3 c4 c5 c6 c7 c8 c9 c10 CF
    have hR4 := HRC.out.only ho4 hRn.out
    have hcz4 := HCZC.out.only ho4 hzn.out
    have hRsz := HRC.out.lt
    have hRn2 : R ∉ allA p tb2 tv2 lb2 O2 := fun hm => by
      rcases hN4 R hm with e | e
      · exact hRn.out e
      · omega
    obtain ⟨w5, hw5⟩ : ∃ u, w4.alloc (.cells #[.int .i64 0, .int .i64 0, .slice none 0 0] 34) = u := ⟨_, rfl⟩
    obtain ⟨Q, hQ⟩ : ∃ Q, w4.heap.size = Q := ⟨_, rfl⟩
    have hst5 : Cells w5 Q 34 [.int .i64 0, .int .i64 0, .slice none 0 0] := hw5 ▸ hQ ▸ Cells.new w4 _ _
    have o45 : Only [] w4 w5 := hw5 ▸ (Only.refl _ _).alloc _
    have o46 : Only [] w4 (w5.setRow Q #[.int .i64 r.er, .int .i64 r.n, .slice PA r.ps.length pc]) := o45.trans ((Only.refl [Q] _).setRow (.inl (by simp)) _) (fun x hx => by simp at hx; subst hx; exact .inr (Nat.le_of_eq hQ))
    have hld6 : Cells (w5.setRow Q #[.int .i64 r.er, .int .i64 r.n, .slice PA r.ps.length pc]) Q 34 [.int .i64 r.er, .int .i64 r.n, .slice PA r.ps.length pc] := hst5.setRow [.int .i64 r.er, .int .i64 r.n, .slice PA r.ps.length pc]
    obtain ⟨w6, hw6⟩ : ∃ u, w5.setRow Q #[.int .i64 r.er, .int .i64 r.n, .slice PA r.ps.length pc] = u := ⟨_, rfl⟩
    rw [hw6] at hld6 o46
    have hX6 := hX4.keep o46 (by simp)
    have hQn : Q ∉ allA p tb2 tv2 lb2 O2 := fun hm => by have := hX4.lts Q hm; omega
    have hone : (#[.int .i64 r.er, .int .i64 r.n, .slice PA r.ps.length pc] : Array Value).all (·.oneCell') = true := by simp [Value.oneCell']
    have HR6 := Lib.hid (hR4.only o46 (by simp))
    have HCZ6 := Lib.hid (hcz4.only o46 (by simp))
    have HQ6 := Lib.hid hld6
    have HP6 := Lib.hid (hp4.only o46)
    have HX6 := Lib.hid hX6
    have HO6 := Lib.hid ((HOC.out.of0.trans ho4 (fun x hx => .inl hx)).trans o46 (fun x hx => by cases hx))
    have HN4 := Lib.hid hN4
    have HRN2 := Lib.hid hRn2
    have HQN := Lib.hid hQn
    have HGE : Hid (0 < r.ps.length → ∀ g, (Value.slice PA r.ps.length pc).ownBlock = some g → wc.heap.size ≤ g ∧ g ∉ allA p tb2 tv2 lb2 O2) := Lib.hid hn4
    have HS4 : Hid (wc.heap.size ≤ w4.heap.size ∧ w4.heap.size ≤ w6.heap.size ∧ w.heap.size ≤ wc.heap.size ∧ R < wc.heap.size) := Lib.hid ⟨ho4.size, o46.size, HOC.out.size, hRsz⟩
    clear hp4 hn4 hX4 ho4 hN4 hR4 hcz4 hRsz hRn2 o45 o46 hX6 hQn HXC HOC HRC HCZC
    go_wp2_with (first
      | ((try rw [hw5]); (try rw [hQ]); refine wpList_store_row rfl 34 _ _ rfl Q #[.int .i64 r.er, .int .i64 r.n, .slice PA r.ps.length pc] rfl rfl 34 _ hst5 (by kernel_rfl) rfl hone ?_; (try rw [hw6])))
    clear hw5 hQ hst5 hw6
    (try simp only [Act.put])
    obtain ⟨c0, c1, c2, c3, c4, c5, c6, c7, c8, c9, c10⟩ := cm_cells HCZ6.out
    have p0 := HX6.out.cells.cell (k := 0) rfl
    have q0 := HQ6.out.cell (k := 0) rfl
    have q1 := HQ6.out.cell (k := 1) rfl
    have q2 := HQ6.out.cell (k := 2) rfl
    have hpl6 := HX6.out.cells.lt
    have hQl6 := HQ6.out.lt
    have v0 := fun u : Since w6 => u.cell p0
    have u1 := fun u : Since w6 => u.cell c1
    have u2 := fun u : Since w6 => u.cell c2
    have y0 := fun u : Since w6 => u.cell q0
    have y1 := fun u : Since w6 => u.cell q1
    have y2 := fun u : Since w6 => u.cell q2
    have CW : Hid (∀ u : Since w6, Calls Tryz.prog 85 #[.agg #[.int .i64 r.er, .int .i64 r.n, .slice PA r.ps.length pc]] u.w fun e w' => e = .returned (.string ⟨(rpb r).toArray⟩) ∧ Only [] u.w w') := Lib.hid (fun u => cmd_answer r (.slice PA r.ps.length pc) u.w (HP6.out.only u.2))
    clear c0 c1 c2 c3 c4 c5 c6 c7 c8 c9 c10 p0 q0 q1 q2
    refine wp_region_only_tail w6 (Only.refl _ _) 10 (by kernel_rfl) (by kernel_rfl) ?_
    simp only [List.take_succ_cons, List.take_zero, List.drop_succ_cons, List.drop_zero]
    repeat (go_big_quiet_step ((go_at_call 85; refine Calls.only (CW.out _))))
    refine wpQuiet_nil ?_
    rintro ⟨w7, ho7⟩
    dsimp only
    have HX7 := Lib.hid (HX6.out.keep ho7 (by simp))
    have HO7 := Lib.hid (HO6.out.trans ho7 (fun x hx => by cases hx))
    have HR7 := Lib.hid (HR6.out.only ho7 (by simp))
    have HQ7 := Lib.hid (HQ6.out.only ho7 (by simp))
    have HP7 := Lib.hid (HP6.out.only ho7)
    have HS7 : Hid (w6.heap.size ≤ w7.heap.size) := Lib.hid ho7.size
    have CD := Lib.hid (S15.tbs_done B2 tb2 tv2 a.t.l a.t.ever c.ss c.sq ⟨(rpb r).toArray⟩ w7 HX7.out.t HLEN.out)
    clear ho7 v0 u1 u2 y0 y1 y2 CW HX6 HO6 HR6 HCZ6 HQ6 HP6 hpl6 hQl6
    go_wp2_with fail
    refine CD.out.mono ?_
    rintro e w8 ⟨rfl, tv3, ht8, ho8, hn8⟩
    obtain ⟨hX8, hO8, hN8⟩ := HX7.out.tdo (t' := ⟨S15.doneL a.t.l c.ss c.sq ⟨(rpb r).toArray⟩, a.t.ever⟩) ht8 ho8 hn8
    have hst8 := HR7.out.only hO8 HRN2.out
    have hld8 := HQ7.out.only hO8 HQN.out
    have hp8 : RpAt w8 (.slice PA r.ps.length pc) r := by
      refine ⟨?_, HP7.out.er, HP7.out.n, HP7.out.sm, HP7.out.len⟩
      by_cases h0 : 0 < r.ps.length
      · exact (HP7.out.ps.past hO8 (Nat.le_refl _) (fun g hg => (HGE.out h0 g hg).2)).more hO8.size
      · obtain ⟨z1, z2, z3, z4, z5, z6, z7⟩ := HP7.out.ps
        exact ⟨z1, z2, z3, z4, z5, z6, fun hh => by omega⟩
    have oR : ∀ row, Only [R] w8 (w8.setRow R row) := fun row => (Only.refl _ _).setRow (.inl (by simp)) _
    have hRn8 : R ∉ allA p tb2 tv3 lb2 O2 := fun hm => by
      rcases hN8 R hm with e | e
      · exact HRN2.out e
      · have := HR7.out.lt; omega
    have hgR : 0 < r.ps.length → ∀ g, (Value.slice PA r.ps.length pc).ownBlock = some g → w.heap.size ≤ g ∧ g ≠ R ∧ g < w7.heap.size := fun h0 g hg => by
      obtain ⟨h1, h2, h3, h4⟩ := HS4.out
      have hg1 := (HGE.out h0 g hg).1
      refine ⟨by omega, by omega, ?_⟩
      obtain ⟨bb, oo, cc, e, hb, _⟩ := HP7.out.ps.at_ (by omega)
      injection e with e1
      subst e1
      simp [Value.ownBlock] at hg
      omega
    have hpF : ∀ row, RpAt (w8.setRow R row) (.slice PA r.ps.length pc) r := fun row => by
      refine ⟨?_, hp8.er, hp8.n, hp8.sm, hp8.len⟩
      by_cases h0 : 0 < r.ps.length
      · exact (hp8.ps.past (oR row) (Nat.le_refl _) (fun g hg hm => by simp at hm; exact (hgR h0 g hg).2.1 hm)).more (oR row).size
      · obtain ⟨z1, z2, z3, z4, z5, z6, z7⟩ := hp8.ps
        exact ⟨z1, z2, z3, z4, z5, z6, fun hh => by omega⟩
    have HFIN : Hid (∀ row, ReO w (w8.setRow R row) p (allA p tb tv lb O) (clA a c).1 (clA a c).2 (.returned (.agg #[.int .i64 r.er, .int .i64 r.n, .slice PA r.ps.length pc]))) := Lib.hid (fun row => by
      rw [HE.out]
      refine ⟨.slice PA r.ps.length pc, _, rfl, hpF row, fun h0 g hg => ⟨(hgR h0 g hg).1, fun hm => ?_⟩, ⟨tb2, tv3, lb2, sb2, O2, B2, hX8.keep (oR row) (fun k hk hm => by simp at hm; subst hm; exact hRn8 hk), rfl⟩, ?_, fun x hx => ?_⟩
      · rcases hN8 g hm with e | e
        · exact (HGE.out h0 g hg).2 e
        · have := (hgR h0 g hg).2.2; omega
      · refine (HO7.out.trans hO8 (fun x hx => ?_)).trans (oR row) (fun x hx => by simp at hx; subst hx; exact .inr hwR)
        rcases HN4.out x hx with e | e
        · exact .inl e
        · exact .inr (by have := HS4.out; omega)
      · rcases hN8 x hx with e | e
        · rcases HN4.out x e with e | e
          · exact .inl e
          · exact .inr (by have := HS4.out; omega)
        · exact .inr (by have := HS4.out; have := HS7.out; omega))
    have HRF := Lib.hid hst8
    clear ht8 ho8 hn8 hX8 hO8 hN8 hp8 oR hRn8 hgR hpF CD
    go_wp2_with (first
      | refine wpList_load_row rfl 34 _ rfl Q rfl 34 #[.int .i64 r.er, .int .i64 r.n, .slice PA r.ps.length pc] (0, 0) _ hld8 Tryz.underlying34 rfl (by kernel_rfl) ?_
      | refine wpList_store_row rfl 34 _ _ rfl R #[.int .i64 r.er, .int .i64 r.n, .slice PA r.ps.length pc] rfl rfl 34 _ hst8 (by kernel_rfl) rfl hone ?_)
    (try simp only [Exit.inBlock, Exit.then])
    refine bodyPost_ret (v := .agg #[.int .i64 r.er, .int .i64 r.n, .slice PA r.ps.length pc]) ?_ rfl (HFIN.out _)
    exact results_row Tryz.results61 _ _ R 34 [.int .i64 r.er, .int .i64 r.n, .slice PA r.ps.length pc] _ rfl (Cells.setRow HRF.out [.int .i64 r.er, .int .i64 r.n, .slice PA r.ps.length pc]) Tryz.underlying34 rfl (by kernel_rfl)
end Go.Proofs.YtcjfmildalappaaGreat
namespace Go.Proofs.YtcjfmildalappaaGreat
open Go.RowKit
/-- What one of the five comes to. -/
theorem ag_five (p : Nat) (K : List Nat) (a : AgS) (n : Nat) (hn : n ≤ 1000000000) (c : Cm) (iv : Value) (hI : AgI n a) (hfd : c.fd.length ≤ maxLen) (hil : c.its.length ≤ 1000000) (hit : ∀ x ∈ c.its, x.Len) :
    (c.kd = 1 → ∀ w, AgAt w p K a → Calls Tryz.prog 63 #[.pointer (some ⟨p, 0, none⟩), c.val iv] w fun e w' => ReO w w' p K (othA a c).1 (othA a c).2 e) ∧
    (c.kd ≠ 1 → c.kd = 6 → ∀ w, AgAt w p K a → Calls Tryz.prog 64 #[.pointer (some ⟨p, 0, none⟩), c.val iv] w fun e w' => ReO w w' p K (othA a c).1 (othA a c).2 e) ∧
    (c.kd ≠ 1 → c.kd ≠ 6 → c.kd = 7 → ∀ w, AgAt w p K a → Calls Tryz.prog 65 #[.pointer (some ⟨p, 0, none⟩), c.val iv] w fun e w' => ReO w w' p K (othA a c).1 (othA a c).2 e) ∧
    (c.kd ≠ 1 → c.kd ≠ 6 → c.kd ≠ 7 → c.kd = 9 → ∀ w, AgAt w p K a → Calls Tryz.prog 66 #[.pointer (some ⟨p, 0, none⟩), c.val iv] w fun e w' => ReO w w' p K (othA a c).1 (othA a c).2 e) ∧
    (c.kd ≠ 1 → c.kd ≠ 6 → c.kd ≠ 7 → c.kd ≠ 9 → ∀ w, AgAt w p K a → ItK w K iv c → Calls Tryz.prog 62 #[.pointer (some ⟨p, 0, none⟩), c.val iv] w fun e w' => ReO w w' p K (othA a c).1 (othA a c).2 e) := by
  unfold othA
  refine ⟨fun h w hA => ?_, fun h1 h w hA => ?_, fun h1 h6 h w hA => ?_, fun h1 h6 h7 h w hA => ?_, fun h1 h6 h7 h9 w hA hs => ?_⟩
  · rw [if_pos h]; exact ag_register p K a n hn c iv w hA hI
  · rw [if_neg h1, if_pos h]; exact ag_tick p K a n hn c iv w hA hI
  · rw [if_neg h1, if_neg h6, if_pos h]; exact ag_grant p K a n hn c iv w hA hI
  · rw [if_neg h1, if_neg h6, if_neg h7, if_pos h]; exact ag_show p K a n hn c iv w hA hI
  · rw [if_neg h1, if_neg h6, if_neg h7, if_neg h9]; exact ag_ingest p K a n hn c iv w hA hI hfd hil hit hs
set_option maxRecDepth 100000 in
set_option maxHeartbeats 4000000 in
theorem ag_do (p : Nat) (K : List Nat) (a : AgS) (n : Nat) (hn : n ≤ 1000000000) (c : Cm) (iv : Value) (w : World) (h : AgAt w p K a) (hI : AgI n a) (hc : CmAt w iv c) (hil : c.its.length ≤ 1000000) (hsl : ItK w K iv c) :
    Calls Tryz.prog 20 #[.pointer (some ⟨p, 0, none⟩), c.val iv] w fun e w' => ReO w w' p K (doA a c).1 (doA a c).2 e := by
  have hFIVE := ag_five p K a n hn c iv hI hc.fd hil hc.len
  have hCL := fun w' (hA : AgAt w' p K a) => ag_client p K a n c iv w' hA hI hc.fd hc.id
  have hRT := fun w' (ho : Only [] w w') => cmd_right c iv w' (hc.only ho)
  have hCC := fun w' => client_call c iv w'
  obtain ⟨tb, tv, lb, sb, O, B, hX, rfl⟩ := h
  have hE1 : rightB c = false → doA a c = (errR 1, a) := fun h => by unfold doA; rw [if_pos h]
  have hE2 : rightB c = true → clB c.kd = true → doA a c = clA a c := doA_cl
  have hE3 : rightB c = true → clB c.kd = false → doA a c = othA a c := fun h h2 => by unfold doA; rw [if_neg (by simp [h]), if_pos h2]
  have HE1 := Lib.hid hE1
  have HE2 := Lib.hid hE2
  have HE3 := Lib.hid hE3
  have HSL := Lib.hid hsl
  unfold Cm.val at hFIVE hCL hRT hCC ⊢
  have HFIVE := Lib.hid hFIVE
  have HCL := Lib.hid hCL
  have HRT := Lib.hid hRT
  have HCC := Lib.hid hCC
  clear hI hc hil hsl hFIVE hCL hRT hCC hE1 hE2 hE3 hn
  go_enter Tryz.func20, Tryz.ntmps20
  go_upto_region 1 with fail
  obtain ⟨w1, hw1⟩ : ∃ u, w.alloc (.cells #[.int .i64 c.kd, .int .i64 c.ss, .int .i64 c.sq, .int .i64 c.sh, .int .i64 c.nd, .int .i64 c.ep, .int .i64 c.n, .string ⟨c.fd.toArray⟩, .string ⟨c.id.toArray⟩, iv, .bool c.fl] 38) = u := ⟨_, rfl⟩
  have hR : w.heap.size + 1 = w1.heap.size := by rw [← hw1, World.size_alloc]
  obtain ⟨z, hz⟩ : ∃ z, w.heap.size = z := ⟨_, rfl⟩
  have hcz : Cells w1 z 38 (c.cells iv) := hw1 ▸ hz ▸ Cells.new w _ _
  rw [hw1, hR, hz]
  obtain ⟨w2, hw2⟩ : ∃ u, w1.alloc (.cells #[.int .i64 0, .int .i64 0, .slice none 0 0] 34) = u := ⟨_, rfl⟩
  obtain ⟨R, hRR⟩ : ∃ R, w1.heap.size = R := ⟨_, rfl⟩
  have o12 : Only [] w1 w2 := hw2 ▸ (Only.refl _ _).alloc _
  have o2 : Only [] w w2 := Only.tr0 (hw1 ▸ (Only.refl _ _).alloc _) o12
  have hcR : Cells w2 R 34 [.int .i64 0, .int .i64 0, .slice none 0 0] := hw2 ▸ hRR ▸ Cells.new w1 _ _
  rw [hw2, hRR]
  have hwR : w.heap.size ≤ R := by omega
  have hwz : w.heap.size ≤ z := by omega
  have hX2 := hX.keep o2 (by simp)
  have hcz2 := hcz.only o12 (by simp)
  have HCZ := Lib.hid hcz2
  have hpl := hX2.cells.lt
  have HX := Lib.hid hX
  have HX2 := Lib.hid hX2
  have HO2 := Lib.hid o2
  have HR := Lib.hid hcR
  have hRn : Hid (R ∉ allA p tb tv lb O) := Lib.hid (fun hm => by have := HX.out.lts R hm; omega)
  have hzn : Hid (z ∉ allA p tb tv lb O) := Lib.hid (fun hm => by have := HX.out.lts z hm; omega)
  obtain ⟨c0, c1, c2, c3, c4, c5, c6, c7, c8, c9, c10⟩ := cm_cells hcz2
  have CR := Lib.hid (HRT.out w2 o2)
  clear hw1 hw2 hR hRR hz o2 o12 hcR hX hX2 hcz hcz2
  go_wp2_with fail
  refine CR.out.mono ?_
  rintro e w3 ⟨rfl, ho3⟩
  have HX3 := Lib.hid (HX2.out.keep ho3 (by simp))
  have HO3 := Lib.hid (HO2.out.tr ho3)
  have HR3 := Lib.hid (HR.out.only ho3 (by simp))
  have HCZ3 := Lib.hid (HCZ.out.only ho3 (by simp))
  clear c0 c1 c2 c3 c4 c5 c6 c7 c8 c9 c10 ho3 CR HRT HX2 HO2 HR HCZ
  cases hb : rightB c with
  | false =>
    have HE := Lib.hid (HE1.out hb)
    clear hb HE1 HE2 HE3 HCZ3 hzn HFIVE HCL HCC HSL
    have oR : ∀ row, Only [R] w3 (w3.setRow R row) := fun row => (Only.refl _ _).setRow (.inl (by simp)) _
    have HFIN : Hid (∀ row, ReO w (w3.setRow R row) p (allA p tb tv lb O) (doA a c).1 (doA a c).2 (.returned (.agg #[.int .i64 1, .int .i64 0, .slice none 0 0]))) := Lib.hid (fun row => HE.out ▸ ReO.nil rfl (wide_lt (by omega) (by omega)) (wide_lt (by omega) (by omega)) ⟨tb, tv, lb, sb, O, B, HX3.out.keep (oR row) (fun k hk hm => by simp at hm; subst hm; exact hRn.out hk), rfl⟩ (HO3.out.of0.trans (oR row) (fun x hx => by simp at hx; subst hx; exact .inr hwR)) (fun x hx => .inl hx))
    have HRF := Lib.hid HR3.out
    have hst := HRF.out
    have hone : (#[.int .i64 1, .int .i64 0, .slice none 0 0] : Array Value).all (·.oneCell') = true := by simp [Value.oneCell']
    clear oR
    go_wp2_with (refine wpList_store_row rfl 34 _ _ rfl R #[.int .i64 1, .int .i64 0, .slice none 0 0] rfl rfl 34 _ hst (by kernel_rfl) rfl hone ?_)
    (try simp only [Exit.inBlock, Exit.then])
    refine bodyPost_ret (v := .agg #[.int .i64 1, .int .i64 0, .slice none 0 0]) ?_ rfl (HFIN.out _)
    exact results_row Tryz.results20 _ _ R 34 [.int .i64 1, .int .i64 0, .slice none 0 0] _ rfl (Cells.setRow HRF.out [.int .i64 1, .int .i64 0, .slice none 0 0]) Tryz.underlying34 rfl (by kernel_rfl)
  | true =>
    obtain ⟨c0, c1, c2, c3, c4, c5, c6, c7, c8, c9, c10⟩ := cm_cells HCZ3.out
    have CC := Lib.hid (HCC.out w3)
    have HB := Lib.hid hb
    clear hb HCC HE1
    go_wp2_with fail
    refine CC.out.mono ?_
    rintro e w4 ⟨rfl, ho4⟩
    have HX4 := Lib.hid (HX3.out.keep ho4 (by simp))
    have HO4 := Lib.hid (HO3.out.tr ho4)
    have HR4 := Lib.hid (HR3.out.only ho4 (by simp))
    have HCZ4 := Lib.hid (HCZ3.out.only ho4 (by simp))
    clear c0 c1 c2 c3 c4 c5 c6 c7 c8 c9 c10 ho4 CC HX3 HO3 HR3 HCZ3
    cases hcl : clB c.kd with
    | true =>
      have HE := Lib.hid (HE2.out HB.out hcl)
      obtain ⟨c0, c1, c2, c3, c4, c5, c6, c7, c8, c9, c10⟩ := cm_cells HCZ4.out
      have CX := Lib.hid (HCL.out w4 ⟨tb, tv, lb, sb, O, B, HX4.out, rfl⟩)
      rw [← HE.out] at CX
      clear hcl HE2 HE3 HFIVE HCL HSL
      go_wp2_with fail
      refine CX.out.mono ?_
      rintro e w5 ⟨pv, K', rfl, hp5, hn5, hA5, ho5, hN5⟩
      obtain ⟨r, hr⟩ : ∃ r, (doA a c).1 = r := ⟨_, rfl⟩
      rw [hr] at hp5 hn5 ⊢
      obtain ⟨PA, pc, rfl⟩ := hp5.ps.shape
      have hR5 := HR4.out.only ho5 hRn.out
      have hRs := HR4.out.lt
      have hRK : R ∉ K' := fun hm => by
        rcases hN5 R hm with e | e
        · exact hRn.out e
        · omega
      have oR : ∀ row, Only [R] w5 (w5.setRow R row) := fun row => (Only.refl _ _).setRow (.inl (by simp)) _
      have hws := HO4.out.size
      have hpF : ∀ row, RpAt (w5.setRow R row) (.slice PA r.ps.length pc) r := fun row => by
        refine ⟨?_, hp5.er, hp5.n, hp5.sm, hp5.len⟩
        by_cases h0 : 0 < r.ps.length
        · exact (hp5.ps.past (oR row) (Nat.le_refl _) (fun g hg hm => by simp at hm; have := (hn5 h0 g hg).1; omega)).more (oR row).size
        · obtain ⟨z1, z2, z3, z4, z5, z6, z7⟩ := hp5.ps
          exact ⟨z1, z2, z3, z4, z5, z6, fun hh => by omega⟩
      have HFIN : Hid (∀ row, ReO w (w5.setRow R row) p (allA p tb tv lb O) (doA a c).1 (doA a c).2 (.returned (.agg #[.int .i64 r.er, .int .i64 r.n, .slice PA r.ps.length pc]))) := Lib.hid (fun row => by
        rw [hr]
        exact ⟨.slice PA r.ps.length pc, K', rfl, hpF row, fun h0 g hg => ⟨by have := (hn5 h0 g hg).1; omega, (hn5 h0 g hg).2⟩, hA5.keep (oR row) (fun k hk hm => by simp at hm; subst hm; exact hRK hk), (HO4.out.of0.trans ho5 (fun x hx => .inl hx)).trans (oR row) (fun x hx => by simp at hx; subst hx; exact .inr hwR), fun x hx => (hN5 x hx).imp id (fun h => by omega)⟩)
      have HRF := Lib.hid hR5
      have hst := HRF.out
      have hone : (#[.int .i64 r.er, .int .i64 r.n, .slice PA r.ps.length pc] : Array Value).all (·.oneCell') = true := by simp [Value.oneCell']
      clear hp5 hn5 hA5 ho5 hN5 hR5 hRs hRK oR hws hpF CX hr c0 c1 c2 c3 c4 c5 c6 c7 c8 c9 c10
      go_wp2_with (refine wpList_store_row rfl 34 _ _ rfl R #[.int .i64 r.er, .int .i64 r.n, .slice PA r.ps.length pc] rfl rfl 34 _ hst (by kernel_rfl) rfl hone ?_)
      (try simp only [Exit.inBlock, Exit.then])
      refine bodyPost_ret (v := .agg #[.int .i64 r.er, .int .i64 r.n, .slice PA r.ps.length pc]) ?_ rfl (HFIN.out _)
      exact results_row Tryz.results20 _ _ R 34 [.int .i64 r.er, .int .i64 r.n, .slice PA r.ps.length pc] _ rfl (Cells.setRow HRF.out [.int .i64 r.er, .int .i64 r.n, .slice PA r.ps.length pc]) Tryz.underlying34 rfl (by kernel_rfl)
    | false =>
      have HE := Lib.hid (HE3.out HB.out hcl)
      obtain ⟨c0, c1, c2, c3, c4, c5, c6, c7, c8, c9, c10⟩ := cm_cells HCZ4.out
      clear hcl HE2 HE3 HCL c1 c2 c3 c4 c5 c6 c7 c8 c9 c10
      rw [← HE.out] at HFIVE
      go_upto_block 1 with fail
      go_cut [5] (fun x wx => ∃ fd, x = .func (.func fd) #[] #[] ∧ (∀ (ys : Array Value) (w' : World), (callFunc fd ys).run Tryz.prog w' = .ok (.enter fd ys) w') ∧ Hid (Only [] w4 wx ∧ ∀ w', AgAt w' p (allA p tb tv lb O) a → ItK w' (allA p tb tv lb O) iv c → Calls Tryz.prog fd #[.pointer (some ⟨p, 0, none⟩), .agg #[.int .i64 c.kd, .int .i64 c.ss, .int .i64 c.sq, .int .i64 c.sh, .int .i64 c.nd, .int .i64 c.ep, .int .i64 c.n, .string ⟨c.fd.toArray⟩, .string ⟨c.id.toArray⟩, iv, .bool c.fl]] w' fun e w'' => ReO w' w'' p (allA p tb tv lb O) (doA a c).1 (doA a c).2 e))
      case first =>
        by_cases k1 : c.kd = 1
        · have HF := Lib.hid (HFIVE.out.1 k1)
          have t1 : (c.kd == 1) = true := by simpa using k1
          clear k1 HFIVE
          go_wp2_with fail
          go_meet
          exact ⟨_, rfl, fun _ _ => rfl, Lib.hid ⟨Only.refl _ _, fun w' h1 _ => HF.out w' h1⟩⟩
        by_cases k6 : c.kd = 6
        · have HF := Lib.hid (HFIVE.out.2.1 k1 k6)
          have t1 : (c.kd == 1) = false := by simpa using k1
          have t6 : (c.kd == 6) = true := by simpa using k6
          clear k1 k6 HFIVE
          go_wp2_with fail
          go_meet
          exact ⟨_, rfl, fun _ _ => rfl, Lib.hid ⟨Only.refl _ _, fun w' h1 _ => HF.out w' h1⟩⟩
        by_cases k7 : c.kd = 7
        · have HF := Lib.hid (HFIVE.out.2.2.1 k1 k6 k7)
          have t1 : (c.kd == 1) = false := by simpa using k1
          have t6 : (c.kd == 6) = false := by simpa using k6
          have t7 : (c.kd == 7) = true := by simpa using k7
          clear k1 k6 k7 HFIVE
          go_wp2_with fail
          go_meet
          exact ⟨_, rfl, fun _ _ => rfl, Lib.hid ⟨Only.refl _ _, fun w' h1 _ => HF.out w' h1⟩⟩
        by_cases k9 : c.kd = 9
        · have HF := Lib.hid (HFIVE.out.2.2.2.1 k1 k6 k7 k9)
          have t1 : (c.kd == 1) = false := by simpa using k1
          have t6 : (c.kd == 6) = false := by simpa using k6
          have t7 : (c.kd == 7) = false := by simpa using k7
          have t9 : (c.kd == 9) = true := by simpa using k9
          clear k1 k6 k7 k9 HFIVE
          go_wp2_with fail
          go_meet
          exact ⟨_, rfl, fun _ _ => rfl, Lib.hid ⟨Only.refl _ _, fun w' h1 _ => HF.out w' h1⟩⟩
        have HF := Lib.hid (HFIVE.out.2.2.2.2 k1 k6 k7 k9)
        have t1 : (c.kd == 1) = false := by simpa using k1
        have t6 : (c.kd == 6) = false := by simpa using k6
        have t7 : (c.kd == 7) = false := by simpa using k7
        have t9 : (c.kd == 9) = false := by simpa using k9
        clear k1 k6 k7 k9 HFIVE
        go_wp2_with fail
        go_meet
        exact ⟨_, rfl, fun _ _ => rfl, Lib.hid ⟨Only.refl _ _, HF.out⟩⟩
      case rest =>
      obtain ⟨fd, rfl, hcf, HW⟩ := hcut
      obtain ⟨wa, hwa⟩ : ∃ u, u = wc := ⟨wc, rfl⟩
      subst hwa
      obtain ⟨c0, c1, c2, c3, c4, c5, c6, c7, c8, c9, c10⟩ := cm_cells (HCZ4.out.only HW.out.1 (by simp))
      have CX := Lib.hid (HW.out.2 wa ⟨tb, tv, lb, sb, O, B, HX4.out.keep HW.out.1 (by simp), rfl⟩ (HSL.out.only ((HO4.out.tr HW.out.1).of0)))
      have HO4b := Lib.hid (HO4.out.tr HW.out.1)
      have HR4b := Lib.hid (HR4.out.only HW.out.1 (by simp))
      clear HO4 HR4 HX4 HCZ4 HFIVE HSL
      go_wp2_with fail
      refine CX.out.mono ?_
      rintro e w5 ⟨pv, K', rfl, hp5, hn5, hA5, ho5, hN5⟩
      obtain ⟨r, hr⟩ : ∃ r, (doA a c).1 = r := ⟨_, rfl⟩
      rw [hr] at hp5 hn5 ⊢
      obtain ⟨PA, pc, rfl⟩ := hp5.ps.shape
      have hR5 := HR4b.out.only ho5 hRn.out
      have hRs := HR4b.out.lt
      have hRK : R ∉ K' := fun hm => by
        rcases hN5 R hm with e | e
        · exact hRn.out e
        · omega
      have oR : ∀ row, Only [R] w5 (w5.setRow R row) := fun row => (Only.refl _ _).setRow (.inl (by simp)) _
      have hws := HO4b.out.size
      have hpF : ∀ row, RpAt (w5.setRow R row) (.slice PA r.ps.length pc) r := fun row => by
        refine ⟨?_, hp5.er, hp5.n, hp5.sm, hp5.len⟩
        by_cases h0 : 0 < r.ps.length
        · exact (hp5.ps.past (oR row) (Nat.le_refl _) (fun g hg hm => by simp at hm; have := (hn5 h0 g hg).1; omega)).more (oR row).size
        · obtain ⟨z1, z2, z3, z4, z5, z6, z7⟩ := hp5.ps
          exact ⟨z1, z2, z3, z4, z5, z6, fun hh => by omega⟩
      have HFIN : Hid (∀ row, ReO w (w5.setRow R row) p (allA p tb tv lb O) (doA a c).1 (doA a c).2 (.returned (.agg #[.int .i64 r.er, .int .i64 r.n, .slice PA r.ps.length pc]))) := Lib.hid (fun row => by
        rw [hr]
        exact ⟨.slice PA r.ps.length pc, K', rfl, hpF row, fun h0 g hg => ⟨by have := (hn5 h0 g hg).1; omega, (hn5 h0 g hg).2⟩, hA5.keep (oR row) (fun k hk hm => by simp at hm; subst hm; exact hRK hk), (HO4b.out.of0.trans ho5 (fun x hx => .inl hx)).trans (oR row) (fun x hx => by simp at hx; subst hx; exact .inr hwR), fun x hx => (hN5 x hx).imp id (fun h => by omega)⟩)
      have HRF := Lib.hid hR5
      have hst := HRF.out
      have hone : (#[.int .i64 r.er, .int .i64 r.n, .slice PA r.ps.length pc] : Array Value).all (·.oneCell') = true := by simp [Value.oneCell']
      clear hp5 hn5 hA5 ho5 hN5 hR5 hRs hRK oR hws hpF CX hr c0 c1 c2 c3 c4 c5 c6 c7 c8 c9 c10
      go_wp2_with (refine wpList_store_row rfl 34 _ _ rfl R #[.int .i64 r.er, .int .i64 r.n, .slice PA r.ps.length pc] rfl rfl 34 _ hst (by kernel_rfl) rfl hone ?_)
      (try simp only [Exit.inBlock, Exit.then])
      refine bodyPost_ret (v := .agg #[.int .i64 r.er, .int .i64 r.n, .slice PA r.ps.length pc]) ?_ rfl (HFIN.out _)
      exact results_row Tryz.results20 _ _ R 34 [.int .i64 r.er, .int .i64 r.n, .slice PA r.ps.length pc] _ rfl (Cells.setRow HRF.out [.int .i64 r.er, .int .i64 r.n, .slice PA r.ps.length pc]) Tryz.underlying34 rfl (by kernel_rfl)
end Go.Proofs.YtcjfmildalappaaGreat
namespace Go.Proofs.YtcjfmildalappaaGreat
open Go.RowKit Go.ChangeShapes Go.WideShapes Go.Deep
structure C19 where
  c : Cm
  iv : Value
def cmL (l : List C19) : List Value := l.flatMap fun a => a.c.cells a.iv
theorem cmL_get (l : List C19) (i j : Nat) (x : C19) (h : l[i]? = some x) (hj : j < 11) : (cmL l)[i * 11 + j]? = (x.c.cells x.iv)[j]? := flat_get (fun a : C19 => a.c.cells a.iv) 11 (fun _ => rfl) l i j x h hj
theorem cmL_at {w : World} {B : Nat} {v : Value} {l : List C19} (h : SlAt w B v 11 l.length (cmL l)) {k : Nat} {a : C19} (hk : l[k]? = some a) :
    ∃ b o c, v = .slice (some ⟨b, o, none⟩) l.length c ∧ w.cell? ⟨b, o + k * 11, none⟩ = some (.int .i64 a.c.kd) ∧ w.cell? ⟨b, o + k * 11 + 1, none⟩ = some (.int .i64 a.c.ss) ∧ w.cell? ⟨b, o + k * 11 + 2, none⟩ = some (.int .i64 a.c.sq) ∧ w.cell? ⟨b, o + k * 11 + 3, none⟩ = some (.int .i64 a.c.sh) ∧ w.cell? ⟨b, o + k * 11 + 4, none⟩ = some (.int .i64 a.c.nd) ∧ w.cell? ⟨b, o + k * 11 + 5, none⟩ = some (.int .i64 a.c.ep) ∧ w.cell? ⟨b, o + k * 11 + 6, none⟩ = some (.int .i64 a.c.n) ∧ w.cell? ⟨b, o + k * 11 + 7, none⟩ = some (.string ⟨a.c.fd.toArray⟩) ∧ w.cell? ⟨b, o + k * 11 + 8, none⟩ = some (.string ⟨a.c.id.toArray⟩) ∧ w.cell? ⟨b, o + k * 11 + 9, none⟩ = some (a.iv) ∧ w.cell? ⟨b, o + k * 11 + 10, none⟩ = some (.bool a.c.fl) := by
  have hlt : k < l.length := (List.getElem?_eq_some_iff.1 hk).1
  obtain ⟨b, o, c, hv, _, hc⟩ := h.at_ (by omega)
  exact ⟨b, o, c, hv, hc (k * 11 + 0) _ (cmL_get l k 0 a hk (by omega)), hc (k * 11 + 1) _ (cmL_get l k 1 a hk (by omega)), hc (k * 11 + 2) _ (cmL_get l k 2 a hk (by omega)), hc (k * 11 + 3) _ (cmL_get l k 3 a hk (by omega)), hc (k * 11 + 4) _ (cmL_get l k 4 a hk (by omega)), hc (k * 11 + 5) _ (cmL_get l k 5 a hk (by omega)), hc (k * 11 + 6) _ (cmL_get l k 6 a hk (by omega)), hc (k * 11 + 7) _ (cmL_get l k 7 a hk (by omega)), hc (k * 11 + 8) _ (cmL_get l k 8 a hk (by omega)), hc (k * 11 + 9) _ (cmL_get l k 9 a hk (by omega)), hc (k * 11 + 10) _ (cmL_get l k 10 a hk (by omega))⟩
set_option maxRecDepth 100000 in
set_option maxHeartbeats 2000000 in
theorem open_cmds {H : Type} {enc : TypeId × Value → H} {w : World} {base : Nat} {spare : Nat → Bool} {held : Bool} {r : Reach} {b0 : Nat} {v : Value} {d : DataW H} {p : List MemPlace}
    (hv : Value.okWide Tryz.prog w r b0 22 v) (h : DataW.Trod enc Tryz.prog w base spare held 22 v d p) :
    ∃ l : List C19, SlAt w w.heap.size v 11 l.length (cmL l) ∧ ∀ a ∈ l, CmAt w a.iv a.c := by
  obtain ⟨n, xs, hs, hx⟩ := open_structs Tryz.underlying22 Tryz.underlying38 (by kernel_rfl) (by kernel_rfl) hv h
  obtain ⟨l, hl, rfl, hg⟩ := flat_of (fun a : C19 => a.c.cells a.iv) 11 (fun _ => rfl) (fun a => CmAt w a.iv a.c) n xs hs.1 fun i hi => by
    obtain ⟨u0, y0, m0, e0, h0⟩ := hx i hi 0 _ rfl
    obtain ⟨u1, y1, m1, e1, h1⟩ := hx i hi 1 _ rfl
    obtain ⟨u2, y2, m2, e2, h2⟩ := hx i hi 2 _ rfl
    obtain ⟨u3, y3, m3, e3, h3⟩ := hx i hi 3 _ rfl
    obtain ⟨u4, y4, m4, e4, h4⟩ := hx i hi 4 _ rfl
    obtain ⟨u5, y5, m5, e5, h5⟩ := hx i hi 5 _ rfl
    obtain ⟨u6, y6, m6, e6, h6⟩ := hx i hi 6 _ rfl
    obtain ⟨u7, y7, m7, e7, h7⟩ := hx i hi 7 _ rfl
    obtain ⟨u8, y8, m8, e8, h8⟩ := hx i hi 8 _ rfl
    obtain ⟨u9, y9, m9, e9, h9⟩ := hx i hi 9 _ rfl
    obtain ⟨u10, y10, m10, e10, h10⟩ := hx i hi 10 _ rfl
    obtain ⟨z0, q0, _, w0⟩ := DataW.trod_int Tryz.underlying3 h0
    obtain ⟨z1, q1, _, w1⟩ := DataW.trod_int Tryz.underlying3 h1
    obtain ⟨z2, q2, _, w2⟩ := DataW.trod_int Tryz.underlying3 h2
    obtain ⟨z3, q3, _, w3⟩ := DataW.trod_int Tryz.underlying3 h3
    obtain ⟨z4, q4, _, w4⟩ := DataW.trod_int Tryz.underlying3 h4
    obtain ⟨z5, q5, _, w5⟩ := DataW.trod_int Tryz.underlying3 h5
    obtain ⟨z6, q6, _, w6⟩ := DataW.trod_int Tryz.underlying3 h6
    obtain ⟨z7, q7, _, w7⟩ := DataW.trod_string Tryz.underlying9 h7
    obtain ⟨z8, q8, _, w8⟩ := DataW.trod_string Tryz.underlying9 h8
    obtain ⟨its, hi1, hi2⟩ := open_items_in h9
    obtain ⟨z10, q10, _⟩ := DataW.trod_bool Tryz.underlying4 h10
    simp at q0 q1 q2 q3 q4 q5 q6 q7 q8 q10
    subst q0; subst q1; subst q2; subst q3; subst q4; subst q5; subst q6; subst q7; subst q8; subst q10
    refine ⟨⟨⟨z0, z1, z2, z3, z4, z5, z6, z7.data.toList, z8.data.toList, its, z10⟩, u9⟩, ⟨hi1, hi2, by rw [ba_len]; exact w7, by rw [ba_len]; exact w8, ?_⟩, fun j hj => ?_⟩
    · intro x hx
      simp only [List.mem_cons, List.not_mem_nil, or_false] at hx
      rcases hx with rfl | rfl | rfl | rfl | rfl | rfl | rfl
      · exact wide64_of_wf w0
      · exact wide64_of_wf w1
      · exact wide64_of_wf w2
      · exact wide64_of_wf w3
      · exact wide64_of_wf w4
      · exact wide64_of_wf w5
      · exact wide64_of_wf w6
    · match j, hj with
      | 0, _ => exact e0
      | 1, _ => exact e1
      | 2, _ => exact e2
      | 3, _ => exact e3
      | 4, _ => exact e4
      | 5, _ => exact e5
      | 6, _ => exact e6
      | 7, _ => simpa [Cm.cells] using e7
      | 8, _ => simpa [Cm.cells] using e8
      | 9, _ => exact e9
      | 10, _ => exact e10
  subst hl
  exact ⟨l, hs, hg⟩
structure SmI (x : It) : Prop where
  id : x.id.length ≤ 300
  ti : x.ti.length ≤ 300
  li : x.li.length ≤ 300
structure SmC (a : Cm) : Prop where
  fd : a.fd.length ≤ 300
  id : a.id.length ≤ 300
  n : a.its.length ≤ 30
  its : ∀ x ∈ a.its, SmI x
structure Sm19 (l : List C19) : Prop where
  n : l.length ≤ 80
  al : ∀ a ∈ l, SmC a.c
theorem all_snoc {α : Type} {P : α → Prop} {l : List α} {k : Nat} {x : α} (h : l[k]? = some x) (h1 : ∀ a ∈ l.take k, P a) (hx : P x) : ∀ a ∈ l.take (k + 1), P a := by
  intro a ha
  rw [List.take_add_one, h] at ha
  rcases List.mem_append.1 ha with ha | ha
  · exact h1 a ha
  · simp at ha; subst ha; exact hx
def SmR (l : List C19) (w : World) (e : Ending) (w' : World) : Prop := ∃ bo, e = .returned (.bool bo) ∧ (bo = true → Sm19 l) ∧ Only [] w w'
theorem SmR.no {l : List C19} {w w' : World} (ho : Only [] w w') : SmR l w (.returned (.bool false)) w' := ⟨false, rfl, fun h => (by cases h), ho⟩
def pkI (c n : Int) : Int := if c < 0 then -(c + 1) % n else c % n
theorem pkI_lt (c n : Int) (hn : 0 < n) : 0 ≤ pkI c n ∧ pkI c n < n := by
  unfold pkI
  split
  · exact ⟨Int.emod_nonneg _ (by omega), Int.emod_lt_of_pos _ hn⟩
  · exact ⟨Int.emod_nonneg _ (by omega), Int.emod_lt_of_pos _ hn⟩
theorem pick19 (c n : Int) (w : World) (hc : Wide64 c) (h0 : 1 ≤ n) (h1 : n ≤ 1000000000000) :
    Calls Tryz.prog 22 #[.int .i64 c, .int .i64 n] w fun e w' => e = .returned (.int .i64 (pkI c n)) ∧ w = w' := by
  obtain ⟨c0, c1⟩ := hc
  have hn : (n == 0) = false := by simp; omega
  by_cases h : c < 0
  · have h2 : 0 ≤ -(c + 1) := by omega
    have h2' : c ≤ -1 := by omega
    go_enter Tryz.func22, Tryz.ntmps22
    go_wp2
    go_ret
    exact ⟨by unfold pkI; rw [if_pos (by omega), ← Int.tmod_eq_emod_of_nonneg h2]; first | rfl | simp, rfl⟩
  · have h2 : 0 ≤ c := by omega
    have hd : decide (c < 0) = false := by simpa using h
    go_enter Tryz.func22, Tryz.ntmps22
    go_wp2
    go_ret
    exact ⟨by unfold pkI; rw [if_neg (by omega)]; simp, rfl⟩
set_option maxRecDepth 100000 in
set_option maxHeartbeats 1000000 in
theorem posts19 (v1 v2 : Value) (l : List Po) (w : World) (hs1 : SlAt w w.heap.size v1 5 l.length (poL l)) (hs2 : SlAt w w.heap.size v2 5 l.length (poL l)) (hl : l.length ≤ 1000000) :
    Calls Tryz.prog 25 #[v1, v2] w fun e w' => e = .returned (.bool true) ∧ Only [] w w' := by
  obtain ⟨A1, c1, rfl⟩ := hs1.shape
  obtain ⟨A2, c2, rfl⟩ := hs2.shape
  have H1 := Lib.hid hs1
  have H2 := Lib.hid hs2
  clear hs1 hs2
  go_enter Tryz.func25, Tryz.ntmps25
  go_wp2_with fail
  go_loopw [5] (fun i wr => ∃ k : Nat, k ≤ l.length ∧ i = .int .i64 k ∧ Hid (Only [] w wr)) (fun i _ => l.length - (intOf i).toNat)
  case atStart => exact ⟨0, by omega, rfl, Lib.hid (Only.refl _ _)⟩
  case round =>
    obtain ⟨k, hk, rfl, ho⟩ := hrel
    by_cases hlt : k < l.length
    · have hlt' : (k : Int) < (l.length : Int) := by omega
      obtain ⟨x, hx⟩ : ∃ x, l[k]? = some x := ⟨_, List.getElem?_eq_getElem hlt⟩
      obtain ⟨b1, o1, c1', e1, hb1, hc1⟩ := (H1.out.only ho.out (Nat.le_refl _) (by simp)).at_ (by omega)
      obtain ⟨b2, o2, c2', e2, hb2, hc2⟩ := (H2.out.only ho.out (Nat.le_refl _) (by simp)).at_ (by omega)
      injection e1 with i1 i2 i3
      injection e2 with j1 j2 j3
      subst i1; subst i3; subst j1; subst j3
      have q0 : wr.cell? ⟨b1, o1 + k * 5, none⟩ = some (.int .i64 x.sq) := hc1 (k * 5 + 0) _ (poL_get l k 0 x hx (by omega))
      have q1 : wr.cell? ⟨b1, o1 + k * 5 + 1, none⟩ = some (.string ⟨x.it.id.toArray⟩) := hc1 (k * 5 + 1) _ (poL_get l k 1 x hx (by omega))
      have q2 : wr.cell? ⟨b1, o1 + k * 5 + 2, none⟩ = some (.string ⟨x.it.ti.toArray⟩) := hc1 (k * 5 + 2) _ (poL_get l k 2 x hx (by omega))
      have q3 : wr.cell? ⟨b1, o1 + k * 5 + 3, none⟩ = some (.string ⟨x.it.li.toArray⟩) := hc1 (k * 5 + 3) _ (poL_get l k 3 x hx (by omega))
      have q4 : wr.cell? ⟨b1, o1 + k * 5 + 4, none⟩ = some (.bool x.rd) := hc1 (k * 5 + 4) _ (poL_get l k 4 x hx (by omega))
      have s0 : wr.cell? ⟨b2, o2 + k * 5, none⟩ = some (.int .i64 x.sq) := hc2 (k * 5 + 0) _ (poL_get l k 0 x hx (by omega))
      have s1 : wr.cell? ⟨b2, o2 + k * 5 + 1, none⟩ = some (.string ⟨x.it.id.toArray⟩) := hc2 (k * 5 + 1) _ (poL_get l k 1 x hx (by omega))
      have s2 : wr.cell? ⟨b2, o2 + k * 5 + 2, none⟩ = some (.string ⟨x.it.ti.toArray⟩) := hc2 (k * 5 + 2) _ (poL_get l k 2 x hx (by omega))
      have s3 : wr.cell? ⟨b2, o2 + k * 5 + 3, none⟩ = some (.string ⟨x.it.li.toArray⟩) := hc2 (k * 5 + 3) _ (poL_get l k 3 x hx (by omega))
      have s4 : wr.cell? ⟨b2, o2 + k * 5 + 4, none⟩ = some (.bool x.rd) := hc2 (k * 5 + 4) _ (poL_get l k 4 x hx (by omega))
      have p0 := fun u : Since wr => u.cell q0
      have p1 := fun u : Since wr => u.cell q1
      have p2 := fun u : Since wr => u.cell q2
      have p3 := fun u : Since wr => u.cell q3
      have p4 := fun u : Since wr => u.cell q4
      have r0 := fun u : Since wr => u.cell s0
      have r1 := fun u : Since wr => u.cell s1
      have r2 := fun u : Since wr => u.cell s2
      have r3 := fun u : Since wr => u.cell s3
      have r4 := fun u : Since wr => u.cell s4
      clear hx q0 q1 q2 q3 q4 s0 s1 s2 s3 s4 i2 j2 hc1 hc2
      go_wp2_with fail
      refine wp_region_only wr (Only.refl _ _) (by kernel_rfl) (by kernel_rfl) ?_
      repeat (go_big_quiet_step (fail))
      refine wpQuiet_nil ?_
      rintro ⟨w3, ho3⟩
      dsimp only
      have HO3 := Lib.hid (ho.out.tr ho3)
      clear p0 p1 p2 p3 p4 r0 r1 r2 r3 r4
      go_wp2_with fail
      go_roundw
      case rel => exact ⟨k + 1, by omega, by go_num, HO3⟩
      case measure => simp [intOf]; omega
    · have hd : decide ((k : Int) < (l.length : Int)) = false := by simp; omega
      go_wp2_with fail
      go_ret
      exact ⟨rfl, ho.out⟩
set_option maxRecDepth 80000 in
set_option maxHeartbeats 4000000 in
theorem small19 (v : Value) (l : List C19) (w : World) (hs : SlAt w w.heap.size v 11 l.length (cmL l)) (hok : ∀ a ∈ l, CmAt w a.iv a.c) :
    Calls Tryz.prog 17 #[v] w (SmR l w) := by
  obtain ⟨A, c, rfl⟩ := hs.shape
  have hll : l.length ≤ 9223372036854775807 := by obtain ⟨_, _, _, _, h1, h2, _⟩ := hs; unfold maxLen at h2; omega
  have HS := Lib.hid hs
  have HK := Lib.hid hok
  clear hs hok
  by_cases h80 : 80 < l.length
  · have d1 : decide ((80 : Int) < (l.length : Int)) = true := by simp; omega
    go_enter Tryz.func17, Tryz.ntmps17
    go_wp2_with fail
    go_ret
    exact SmR.no (Only.refl _ _)
  have d1 : decide ((80 : Int) < (l.length : Int)) = false := by simp; omega
  go_enter Tryz.func17, Tryz.ntmps17
  go_wp2_with fail
  go_loopw [3] (fun i wr => ∃ k : Nat, k ≤ l.length ∧ i = .int .i64 k ∧ Hid (∀ a ∈ l.take k, SmC a.c) ∧ Hid (Only [] w wr)) (fun i _ => l.length - (intOf i).toNat)
  case atStart => exact ⟨0, by omega, rfl, Lib.hid (by simp), Lib.hid (Only.refl _ _)⟩
  case round =>
    obtain ⟨k, hk, rfl, hall, ho⟩ := hrel
    obtain ⟨wo, rfl⟩ : ∃ wo, wo = wr := ⟨_, rfl⟩
    by_cases hlt : k < l.length
    · have hlt' : decide ((k : Int) < (l.length : Int)) = true := by simp; omega
      have hlt2 : (k : Int) < (l.length : Int) := by omega
      obtain ⟨a, ha⟩ : ∃ a, l[k]? = some a := ⟨_, List.getElem?_eq_getElem hlt⟩
      have HA := Lib.hid ((HK.out a (List.mem_of_getElem? ha)).only ho.out)
      obtain ⟨b, o, c', hv, q0, q1, q2, q3, q4, q5, q6, q7, q8, q9, q10⟩ := cmL_at (HS.out.only ho.out (Nat.le_refl _) (by simp)) ha
      obtain ⟨IA, ic, hiv⟩ := HA.out.its.shape
      have hil : a.c.its.length ≤ 9223372036854775807 := by obtain ⟨_, _, _, _, h1, h2, _⟩ := HA.out.its; unfold maxLen at h2; omega
      have hfl := HA.out.fd
      have hdl := HA.out.id
      unfold maxLen at hfl hdl
      have HAT := Lib.hid ha
      rw [hiv] at q9
      injection hv with e1 e2 e3
      subst e1; subst e3
      clear e2 ha
      by_cases h1 : 300 < a.c.fd.length
      · have f1 : decide ((300 : Int) < (a.c.fd.length : Int)) = true := by simp; omega
        go_wp2_with fail
        go_ret
        exact SmR.no ho.out
      have f1 : decide ((300 : Int) < (a.c.fd.length : Int)) = false := by simp; omega
      by_cases h2 : 300 < a.c.id.length
      · have f2 : decide ((300 : Int) < (a.c.id.length : Int)) = true := by simp; omega
        go_wp2_with fail
        go_ret
        exact SmR.no ho.out
      have f2 : decide ((300 : Int) < (a.c.id.length : Int)) = false := by simp; omega
      by_cases h3 : 30 < a.c.its.length
      · have f3 : decide ((30 : Int) < (a.c.its.length : Int)) = true := by simp; omega
        go_wp2_with fail
        go_ret
        exact SmR.no ho.out
      have f3 : decide ((30 : Int) < (a.c.its.length : Int)) = false := by simp; omega
      have HIV := Lib.hid hiv
      have HHS : Hid (SlAt wo w.heap.size (.slice (some ⟨b, o, none⟩) l.length c) 11 l.length (cmL l)) := Lib.hid (HS.out.only ho.out (Nat.le_refl _) (by simp))
      clear q0 q1 q2 q3 q4 q5 q6 q10 hiv
      go_wp2_with fail
      go_loopw [4] (fun i wq => ∃ j : Nat, j ≤ a.c.its.length ∧ i = .int .i64 j ∧ Hid (∀ x ∈ a.c.its.take j, SmI x) ∧ Hid (Only [] wo wq)) (fun i _ => a.c.its.length - (intOf i).toNat)
      case atStart => exact ⟨0, by omega, rfl, Lib.hid (by simp), Lib.hid (Only.refl _ _)⟩
      case round =>
        obtain ⟨j, hj, rfl, hall2, hoq⟩ := hrel
        obtain ⟨wq, rfl⟩ : ∃ wq, wq = wr := ⟨_, rfl⟩
        obtain ⟨b2, o2, c2, hv2, _, _, _, _, _, _, _, _, _, s4, _⟩ := cmL_at (HHS.out.only hoq.out ho.out.size (by simp)) HAT.out
        rw [HIV.out] at s4
        injection hv2 with g1 g2 g3
        injection g1 with g1
        injection g1 with g4 g5 g6
        subst g4; subst g5
        have hoo := Lib.hid (ho.out.tr hoq.out)
        by_cases hjl : j < a.c.its.length
        · have hj' : decide ((j : Int) < (a.c.its.length : Int)) = true := by simp; omega
          have hj2 : (j : Int) < (a.c.its.length : Int) := by omega
          obtain ⟨x, hx⟩ : ∃ x, a.c.its[j]? = some x := ⟨_, List.getElem?_eq_getElem hjl⟩
          obtain ⟨ib, io, ic', hv3, x0, x1, x2⟩ := itL_at (HA.out.only hoq.out).its hx
          rw [HIV.out] at hv3
          injection hv3 with k1 k2 k3
          subst k1; subst k3
          have hxl := HA.out.len x (List.mem_of_getElem? hx)
          have n0 := hxl.id
          have n1 := hxl.ti
          have n2 := hxl.li
          unfold maxLen at n0 n1 n2
          have HXT := Lib.hid hx
          clear hx k2 g3 g6 hxl q7 q8 q9
          obtain ⟨w2, hw2⟩ : ∃ w2, wq.alloc (.cells #[.string ⟨x.id.toArray⟩, .string ⟨x.ti.toArray⟩, .string ⟨x.li.toArray⟩] 99) = w2 := ⟨_, rfl⟩
          have hO2 : Only [] wq w2 := hw2 ▸ (Only.refl _ _).alloc _
          obtain ⟨z, hz⟩ : ∃ z, wq.heap.size = z := ⟨_, rfl⟩
          have hzc : Cells w2 z 99 x.cells := hw2 ▸ hz ▸ Cells.new wq _ _
          have z0 := hzc.cell (k := 0) rfl
          have z1 := hzc.cell (k := 1) rfl
          have z2 := hzc.cell (k := 2) rfl
          have HO2 := Lib.hid (hoq.out.tr hO2)
          have HOO := Lib.hid (hoo.out.tr hO2)
          clear hzc hO2
          by_cases m0 : 300 < x.id.length
          · have t0 : decide ((300 : Int) < (x.id.length : Int)) = true := by simp; omega
            go_wp2_with fail
            go_ret
            exact SmR.no HOO.out
          have t0 : decide ((300 : Int) < (x.id.length : Int)) = false := by simp; omega
          by_cases m1 : 300 < x.ti.length
          · have t1 : decide ((300 : Int) < (x.ti.length : Int)) = true := by simp; omega
            go_wp2_with fail
            go_ret
            exact SmR.no HOO.out
          have t1 : decide ((300 : Int) < (x.ti.length : Int)) = false := by simp; omega
          by_cases m2 : 300 < x.li.length
          · have t2 : decide ((300 : Int) < (x.li.length : Int)) = true := by simp; omega
            go_wp2_with fail
            go_ret
            exact SmR.no HOO.out
          have t2 : decide ((300 : Int) < (x.li.length : Int)) = false := by simp; omega
          have HX2 := Lib.hid (all_snoc HXT.out hall2.out ⟨by omega, by omega, by omega⟩)
          go_wp2_with fail
          go_roundw
          case rel => exact ⟨j + 1, by omega, by go_num, HX2, HO2⟩
          case measure => simp [intOf]; omega
        · have hj' : decide ((j : Int) < (a.c.its.length : Int)) = false := by simp; omega
          obtain rfl : j = a.c.its.length := by omega
          have HX2 := Lib.hid (all_snoc HAT.out hall.out ⟨by omega, by omega, by omega, by have := hall2.out; rwa [List.take_length] at this⟩)
          go_wp2_with fail
          go_roundw
          case rel => exact ⟨k + 1, by omega, by go_num, HX2, hoo⟩
          case measure => simp [intOf]; omega
    · have hlt' : decide ((k : Int) < (l.length : Int)) = false := by simp; omega
      obtain rfl : k = l.length := by omega
      have HF := Lib.hid (⟨by omega, by have := hall.out; rwa [List.take_length] at this⟩ : Sm19 l)
      go_wp2_with fail
      go_ret
      exact ⟨true, rfl, fun _ => HF.out, ho.out⟩
end Go.Proofs.YtcjfmildalappaaGreat
namespace Go.Proofs.YtcjfmildalappaaGreat
open Go.RowKit
/-- An automaton made since W, behind n commands. -/
structure AgW (W w : World) (p : Nat) (K : List Nat) (n : Nat) (a : AgS) : Prop where
  at_ : AgAt w p K a
  ho : Only [] W w
  lo : ∀ x ∈ K, W.heap.size ≤ x
  i : AgI n a
theorem AgW.read {W w w' : World} {p : Nat} {K : List Nat} {n : Nat} {a : AgS} (h : AgW W w p K n a) (ho : Only [] w w') : AgW W w' p K n a := ⟨h.at_.keep ho (by simp), h.ho.tr ho, h.lo, h.i⟩
theorem AgW.far {W w w' : World} {p : Nat} {K X : List Nat} {n : Nat} {a : AgS} (h : AgW W w p K n a) (ho : Only X w w') (hX : ∀ x ∈ X, x ∉ K ∧ W.heap.size ≤ x) : AgW W w' p K n a :=
  ⟨h.at_.keep ho (fun k hk hm => (hX k hm).1 hk), h.ho.trans ho (fun x hx => .inr (hX x hx).2), h.lo, h.i⟩
def DoW (W w w' : World) (p : Nat) (K : List Nat) (n : Nat) (a : AgS) (r : Rp) (e : Ending) : Prop := ∃ pv K', e = .returned (r.val pv) ∧ RpAt w' pv r ∧ (0 < r.ps.length → ∀ g, pv.ownBlock = some g → w.heap.size ≤ g ∧ g ∉ K') ∧ AgW W w' p K' n a ∧ Only K w w' ∧ (∀ x ∈ K', x ∈ K ∨ w.heap.size ≤ x) ∧ RpK r
theorem agw_do (p : Nat) (K : List Nat) (a : AgS) (n : Nat) (hn : n ≤ 1000000) (c : Cm) (iv : Value) (W w : World) (h : AgW W w p K n a) (hc : CmAt w iv c) (hil : c.its.length ≤ 1000000) (hs : ItK w K iv c) :
    Calls Tryz.prog 20 #[.pointer (some ⟨p, 0, none⟩), c.val iv] w fun e w' => DoW W w w' p K (n + 1) (doA a c).2 (doA a c).1 e := by
  refine (ag_do p K a n (by omega) c iv w h.at_ h.i hc hil hs).mono ?_
  rintro e w' ⟨pv, K', he, hp, hg, hA, ho, hN⟩
  have hst := doA_step h.i (by omega) c (hc.nums _ (by simp)) hil
  exact ⟨pv, K', he, hp, hg, ⟨hA, h.ho.trans ho (fun x hx => .inr (h.lo x hx)), fun x hx => by
    rcases hN x hx with e | e
    · exact h.lo x e
    · exact Nat.le_trans h.ho.size e, hst.1⟩, ho, hN, hst.2⟩
theorem agw_new (W w : World) (h : Only [] W w) : Calls Tryz.prog 18 #[] w fun e w' => ∃ p K, e = .returned (.pointer (some ⟨p, 0, none⟩)) ∧ AgW W w' p K 0 AgS.new ∧ (∀ x ∈ K, w.heap.size ≤ x) ∧ Only [] w w' := by
  refine (ag_new w).mono ?_
  rintro e w' ⟨p, K, he, hA, hl, ho⟩
  exact ⟨p, K, he, ⟨hA, h.tr ho, fun x hx => Nat.le_trans h.size (hl x hx), AgI.new⟩, hl, ho⟩
theorem itk_base {W w : World} {p : Nat} {K : List Nat} {n : Nat} {a : AgS} {c : Cm} {iv : Value} (hc : CmAt W iv c) (h : AgW W w p K n a) : ItK w K iv c :=
  fun _ ho => (((hc.its.only h.ho (Nat.le_refl _) (by simp)).only ho h.ho.size h.lo)).more (Nat.le_trans h.ho.size ho.size)
theorem itk_nil (w : World) (K : List Nat) (c : Cm) (h : c.its = []) : ItK w K (.slice none 0 0) c := fun w' _ => by rw [h]; exact SlAt.of_own (World.ownsRow_nil w' 0 99 3)
/-- A box whose content stays. -/
def Bx (w : World) (K : List Nat) (z : Nat) (t : TypeId) (cs : List Value) : Prop := Cells w z t cs ∧ z ∉ K
theorem Bx.does {w w' : World} {K K' : List Nat} {z : Nat} {t : TypeId} {cs : List Value} (h : Bx w K z t cs) (ho : Only K w w') (hN : ∀ x ∈ K', x ∈ K ∨ w.heap.size ≤ x) : Bx w' K' z t cs :=
  ⟨h.1.only ho h.2, fun hm => by
    rcases hN z hm with e | e
    · exact h.2 e
    · have := h.1.lt; omega⟩
theorem Bx.read {w w' : World} {K : List Nat} {z : Nat} {t : TypeId} {cs : List Value} (h : Bx w K z t cs) (ho : Only [] w w') : Bx w' K z t cs := ⟨h.1.only ho (by simp), h.2⟩
theorem Bx.far {w w' : World} {K : List Nat} {z y : Nat} {t : TypeId} {cs : List Value} (h : Bx w K z t cs) (ho : Only [y] w w') (hy : z ≠ y) : Bx w' K z t cs := ⟨h.1.only ho (by simpa using hy), h.2⟩
theorem box_row (w : World) (t : TypeId) (z c : List Value) : Only [] w ((w.alloc (.cells z.toArray t)).setRow w.heap.size c.toArray) ∧ Cells (w.alloc (.cells z.toArray t)) w.heap.size t z ∧ Cells ((w.alloc (.cells z.toArray t)).setRow w.heap.size c.toArray) w.heap.size t c :=
  ⟨((Only.refl [] w).alloc _).trans ((Only.refl [w.heap.size] _).setRow (.inl (by simp)) _) (fun x hx => by simp at hx; subst hx; exact .inr (Nat.le_refl _)), Cells.new w _ _, (Cells.new w t z).setRow c⟩
set_option maxRecDepth 100000 in
set_option maxHeartbeats 1000000 in
theorem same19_eq (v1 v2 : Value) (r : Rp) (w : World) (h1 : RpAt w v1 r) (h2 : RpAt w v2 r) :
    Calls Tryz.prog 29 #[r.val v1, r.val v2] w fun e w' => e = .returned (.bool true) ∧ Only [] w w' := by
  have hl := h1.len
  obtain ⟨A1, c1, rfl⟩ := h1.ps.shape
  obtain ⟨A2, c2, rfl⟩ := h2.ps.shape
  have o1 : Only [] w ((w.alloc (.cells #[.int .i64 r.er, .int .i64 r.n, .slice A1 r.ps.length c1] 34)).alloc (.cells #[.int .i64 r.er, .int .i64 r.n, .slice A2 r.ps.length c2] 34)) := ((Only.refl _ _).alloc _).alloc _
  have CP := Lib.hid (posts19 _ _ r.ps _ (h1.only o1).ps (h2.only o1).ps (by omega))
  have HO := Lib.hid o1
  unfold Rp.val
  clear h1 h2 o1 hl
  go_enter Tryz.func29, Tryz.ntmps29
  go_wp2_with fail
  refine CP.out.mono ?_
  rintro e w2 ⟨rfl, ho2⟩
  go_wp2_with fail
  go_ret
  exact ⟨rfl, HO.out.tr ho2⟩
set_option maxRecDepth 100000 in
set_option maxHeartbeats 1000000 in
theorem same19_ne (v1 v2 : Value) (r1 r2 : Rp) (w : World) (h : (r1.er == r2.er) = false) :
    Calls Tryz.prog 29 #[r1.val v1, r2.val v2] w fun e w' => e = .returned (.bool false) ∧ Only [] w w' := by
  have o1 : Only [] w ((w.alloc (.cells #[.int .i64 r1.er, .int .i64 r1.n, v1] 34)).alloc (.cells #[.int .i64 r2.er, .int .i64 r2.n, v2] 34)) := ((Only.refl _ _).alloc _).alloc _
  have HO := Lib.hid o1
  unfold Rp.val
  clear o1
  go_enter Tryz.func29, Tryz.ntmps29
  go_wp2_with fail
  go_ret
  exact ⟨rfl, HO.out⟩
def iX : It := ⟨[120], [], []⟩
def rbs (r : Rp) : ByteArray := ⟨(rpb r).toArray⟩
def sa1 : AgS := ⟨⟨[⟨1, 0, .empty⟩], 1⟩, L16.Tb.empty, []⟩
def sa2 : AgS := ⟨⟨[⟨1, 1, rbs (errR 0)⟩], 1⟩, L16.Tb.empty, [([97], ⟨-1, 0, []⟩)]⟩
def sa4 : AgS := ⟨⟨[⟨1, 2, rbs (errR 5)⟩], 1⟩, L16.Tb.empty, [([97], ⟨-1, 0, []⟩)]⟩
def sa6 : AgS := ⟨⟨[⟨1, 2, rbs (errR 5)⟩], 1⟩, (L16.Tb.empty.grant 4 2).1, [([97], ⟨-1, 0, []⟩)]⟩
def sa7 : AgS := ⟨⟨[⟨1, 2, rbs (errR 5)⟩], 1⟩, (L16.Tb.empty.grant 4 2).1, [([97], ⟨0, 0, [⟨1, iX, false⟩]⟩)]⟩
def sa9 : AgS := ⟨⟨[⟨1, 3, rbs ⟨0, 0, [⟨1, iX, false⟩]⟩⟩], 1⟩, (L16.Tb.empty.grant 4 2).1, [([97], ⟨0, 0, [⟨1, iX, false⟩]⟩)]⟩
theorem e19_1 : doA AgS.new ⟨1, 0, 0, 0, 0, 0, 0, [], [], [], false⟩ = (⟨0, 1, []⟩, sa1) := by kernel_rfl
theorem e19_2 : doA sa1 ⟨2, 1, 1, 0, 0, 0, 0, [97], [], [], false⟩ = (errR 0, sa2) := by kernel_rfl
theorem e19_3 : doA sa2 ⟨2, 1, 1, 0, 0, 0, 0, [97], [], [], false⟩ = (errR 0, sa2) := by kernel_rfl
theorem e19_4 : doA sa2 ⟨2, 1, 2, 0, 0, 0, 0, [97], [], [], false⟩ = (errR 5, sa4) := by kernel_rfl
theorem e19_5 : doA sa4 ⟨2, 9, 1, 0, 0, 0, 0, [98], [], [], false⟩ = (errR 17, sa4) := by kernel_rfl
theorem e19_6 : doA sa4 ⟨7, 0, 0, 4, 2, 0, 0, [], [], [], false⟩ = (⟨0, 1, []⟩, sa6) := by kernel_rfl
theorem e19_7 : doA sa6 ⟨8, 0, 0, 4, 2, 1, 0, [97], [], [iX], false⟩ = (⟨0, 1, []⟩, sa7) := by kernel_rfl
theorem e19_8 : doA sa7 ⟨8, 0, 0, 4, 2, 2, 0, [97], [], [iX], false⟩ = (errR 15, sa7) := by kernel_rfl
theorem e19_9 : doA sa7 ⟨5, 1, 3, 0, 0, 0, 0, [97], [], [], false⟩ = (⟨0, 0, [⟨1, iX, false⟩]⟩, sa9) := by kernel_rfl
end Go.Proofs.YtcjfmildalappaaGreat
