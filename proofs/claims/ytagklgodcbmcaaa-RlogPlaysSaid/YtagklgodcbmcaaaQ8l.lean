/-
  Chapter 8: the law's does. (Printed by gen_q8l.py.)
-/
import Derived.Test.YtagklgodcbmcaaaQ8k
namespace Go.Proofs.Ytagklgodcbmcaaa
open Go.RowKit
def ix8 (i : Int) : Int := if i.tmod 7 = 0 then i else pickI i 40
def LG.fix8 (g : LG) (a : A8) : Int := g.b.ix + pickI a.fx ((g.l.length : Int) + 1)
def LG.add8 (g : LG) (p : Pt) : LG := ⟨g.b, g.l ++ [g.new (p.en 0).tm (p.en 0).kd (p.en 0).d]⟩
def LG.does8 (g : LG) (a : A8) : LG :=
  if pickI a.op 7 = 0 ∨ pickI a.op 7 = 1 then (match a.ps with
    | [] => g
    | p :: _ => g.add8 p)
  else if pickI a.op 7 = 5 then (g.compact a.ix ⟨#[99]⟩).1
  else if pickI a.op 7 = 6 then (g.restore (bas a.ix a.tm)).1
  else (g.matchR (ix8 a.ix) a.tm (g.fix8 a) (entL a.ps 0)).g
theorem act_cells {w : World} {z : Nat} {a : A8} (h : Cells w z 60 a.cells) : w.cell? ⟨z, 0, none⟩ = some (.int .i64 a.op) ∧ w.cell? ⟨z, 1, none⟩ = some (.int .i64 a.ix) ∧ w.cell? ⟨z, 2, none⟩ = some (.int .i64 a.tm) ∧ w.cell? ⟨z, 3, none⟩ = some (.int .i64 a.fx) ∧ w.cell? ⟨z, 4, none⟩ = some a.pv :=
  ⟨h.cell (k := 0) rfl, h.cell (k := 1) rfl, h.cell (k := 2) rfl, h.cell (k := 3) rfl, h.cell (k := 4) rfl⟩
/-- What lay beside two logs is as it was. -/
def Kept (K KR : List Nat) (w w' : World) : Prop := ∀ z t cs, Cells w z t cs → z ∉ K → z ∉ KR → Cells w' z t cs
/-- Two, with their blocks. -/
structure TwoE (W w : World) (K KR : List Nat) (b r : Nat) (g : LG) : Prop where
  l : LogAt W w K b g
  r : RlK w KR r g
  ge : ∀ q, q ∈ KR → W.heap.size ≤ q
  ap : ∀ q, q ∈ K → q ∉ KR
  ix : IxOk g
theorem two12 {w : World} {z : Nat} {a : A8} (h : Cells w z 60 a.cells) : w.cell? ⟨z, 1, none⟩ = some (.int .i64 a.ix) ∧ w.cell? ⟨z, 2, none⟩ = some (.int .i64 a.tm) := ⟨h.cell (k := 1) rfl, h.cell (k := 2) rfl⟩
/-- Two, opened. -/
structure TwoO (W w0 w : World) (K KR : List Nat) (b r : Nat) (g : LG) : Prop where
  fr : Only [] w0 w
  l : LogAt W w K b g
  r : RlK w KR r g
  ge : ∀ q, q ∈ KR → W.heap.size ≤ q
  ap : ∀ q, q ∈ K → q ∉ KR
  ix : IxOk g
theorem TwoO.to {W w0 w w' : World} {K KR : List Nat} {b r : Nat} {g : LG} (h : TwoO W w0 w K KR b r g) (ho : Only [] w w') : TwoO W w0 w' K KR b r g := ⟨h.fr.tr ho, h.l.to ho, h.r.only ho, h.ge, h.ap, h.ix⟩
theorem TwoO.two {W w0 w : World} {K KR : List Nat} {b r : Nat} {g : LG} (h : TwoO W w0 w K KR b r g) : Two W w b r g := ⟨K, KR, h.l, h.r, h.ge, h.ap, h.ix⟩
theorem TwoO.kept {W w0 w : World} {K KR : List Nat} {b r : Nat} {g : LG} (h : TwoO W w0 w K KR b r g) : Kept K KR w0 w := fun z t cs hc _ _ => hc.only h.fr (by simp)
theorem TwoO.step {W w0 w w1 w2 : World} {K KR K' : List Nat} {b r : Nat} {g g' : LG} (h : TwoO W w0 w K KR b r g) (h6 : LogAt W w1 K' b g') (h7 : Grew w w1 K K') (h8 : RDoes w1 w2 KR r g') (h5 : IxOk g') : Two W w2 b r g' ∧ Kept K KR w0 w2 := by
  refine ⟨Two.step h.l h.ge h.ap h.r.below h6 h7 h8 h5, fun z t cs hc h1 h2 => ?_⟩
  obtain ⟨K2, _, k2⟩ := h8
  exact ((hc.only h.fr (by simp)).only h7.only h1).only k2.only h2
theorem TwoO.ref {W w0 w w1 : World} {K KR K' : List Nat} {b r : Nat} {g : LG} (h : TwoO W w0 w K KR b r g) (h7 : Grew w w1 K K') : RlK w1 KR r g := h.r.keep h7.only h.ap
set_option maxRecDepth 100000 in
set_option maxHeartbeats 8000000 in
theorem does_add (W w : World) (b r : Nat) (g : LG) (a : A8) (K KR : List Nat) (h : TwoE W w K KR b r g) (ha0 : a.Ok W) (hs : smallB a.ps = true) (hb : g.last ≤ 10000) (n : Int) (hn : pickI a.op 7 = n) (hn01 : n = 0 ∨ n = 1) :
    Calls Try.prog 34 #[.pointer (some ⟨b, 0, none⟩), .pointer (some ⟨r, 0, none⟩), a.val] w fun e w' => e = .returned (.bool true) ∧ Two W w' b r (match a.ps with | [] => g | p :: _ => g.add8 p) ∧ Kept K KR w w' := by
  obtain ⟨h1, h2, h3, h4, h5⟩ := h
  have HT := Lib.hid (TwoO.mk (Only.refl [] w) h1 h2 h3 h4 h5)
  have ha := ha0.only h1.only
  have HA0 := Lib.hid ha0
  obtain ⟨PA, pc, hpv⟩ := ha.ps.shape
  obtain ⟨PN, hPN⟩ : ∃ n, a.ps.length = n := ⟨_, rfl⟩
  rw [hPN] at hpv
  have HPN := Lib.hid hPN
  obtain ⟨hs60, hsp⟩ := smallB_iff hs
  have HSP := Lib.hid hsp
  have HSM := Lib.hid hs
  obtain ⟨hglo, hgl0, hgl1⟩ := h1.k.hi
  have hbK := Lib.hid h1.k.below
  have HA := Lib.hid ha
  have CP := Lib.hid (fun w' => pick8 a.op 7 w' ha.op (by omega) (by omega))
  have hoA : Only [] w (w.alloc (.cells #[.int .i64 a.op, .int .i64 a.ix, .int .i64 a.tm, .int .i64 a.fx, .slice PA PN pc] 60)) := (Only.refl _ w).alloc _
  have hZ : Cells (w.alloc (.cells #[.int .i64 a.op, .int .i64 a.ix, .int .i64 a.tm, .int .i64 a.fx, .slice PA PN pc] 60)) w.heap.size 60 a.cells := by
    have := Cells.new w 60 [.int .i64 a.op, .int .i64 a.ix, .int .i64 a.tm, .int .i64 a.fx, .slice PA PN pc]
    unfold A8.cells
    rw [hpv]
    exact this
  have HZ := Lib.hid hZ
  have HT1 := Lib.hid (HT.out.to hoA)
  have HA1 := Lib.hid (ha.only hoA)
  have HZK : Hid (w.heap.size ∉ K) := Lib.hid fun hm => by have := h1.k.below _ hm; omega
  have HZR : Hid (w.heap.size ∉ KR) := Lib.hid fun hm => by have := h2.below _ hm; omega
  have HPV := Lib.hid hpv
  unfold A8.val
  rw [hpv]
  rw [hn] at CP
  have HN01 := Lib.hid hn01
  cases hps : a.ps with
  | nil =>
    obtain rfl : PN = 0 := by rw [← hPN, hps]; rfl
    have HPS := Lib.hid hps
    clear hps hn
    rcases hn01 with rfl | rfl
    all_goals
      clear h1 h2 h3 h4 h5 hs hsp hZ hpv ha ha0 hPN
      go_enter Try.func34, Try.ntmps34
      go_wp2_with fail
      obtain ⟨w1, hw1⟩ : ∃ w1, w.alloc (.cells #[.int .i64 a.op, .int .i64 a.ix, .int .i64 a.tm, .int .i64 a.fx, .slice PA 0 pc] 60) = w1 := ⟨_, rfl⟩
      obtain ⟨z, hz⟩ : ∃ z, w.heap.size = z := ⟨_, rfl⟩
      rw [hw1] at HZ HT1 HA1 hoA ⊢
      rw [hz] at HZ HZK HZR ⊢
      clear hw1 hz
      refine (CP.out _).mono ?_
      rintro e w' ⟨rfl, rfl⟩
      clear CP
      have y1 := HZ.out.cell (k := 1) rfl
      have y2 := HZ.out.cell (k := 2) rfl
      have y3 := HZ.out.cell (k := 3) rfl
      have y4 := HZ.out.cell (k := 4) rfl
      rw [HPV.out] at y4
      go_wp2_with fail
      go_ret
      exact ⟨rfl, HT1.out.two, HT1.out.kept⟩
  | cons p rest =>
    have hl00 : 0 < PN := by rw [← hPN, hps]; simp
    have hl0' : ((PN : Int) == 0) = false := by simp; omega
    have hl1 : (0 : Int) < (PN : Int) := by omega
    have HPS := Lib.hid hps
    clear hps hn
    rcases hn01 with rfl | rfl
    all_goals
      clear h1 h2 h3 h4 h5 hs hsp hZ hpv ha ha0 hPN
      go_enter Try.func34, Try.ntmps34
      go_wp2_with fail
      obtain ⟨w1, hw1⟩ : ∃ w1, w.alloc (.cells #[.int .i64 a.op, .int .i64 a.ix, .int .i64 a.tm, .int .i64 a.fx, .slice PA PN pc] 60) = w1 := ⟨_, rfl⟩
      obtain ⟨z, hz⟩ : ∃ z, w.heap.size = z := ⟨_, rfl⟩
      rw [hw1] at HZ HT1 HA1 hoA ⊢
      rw [hz] at HZ HZK HZR ⊢
      clear hw1 hz
      refine (CP.out _).mono ?_
      rintro e w' ⟨rfl, rfl⟩
      clear CP
      have y1 := HZ.out.cell (k := 1) rfl
      have y2 := HZ.out.cell (k := 2) rfl
      have y3 := HZ.out.cell (k := 3) rfl
      have y4 := HZ.out.cell (k := 4) rfl
      rw [HPV.out] at y4
      have hp0 : a.ps[0]? = some p := by rw [HPS.out]; rfl
      obtain ⟨b1, o1, c1', e1, hb1, q0, q1, q2, q3⟩ := HA1.out.ps.at_ hp0
      rw [HPV.out] at e1
      injection e1 with i1 i2 i3
      subst i1
      subst i3
      simp only [Nat.zero_mul, Nat.add_zero] at q0 q1 q2 q3
      have hpm := List.mem_of_getElem? hp0
      have hok := HA1.out.ps.ok p hpm
      obtain ⟨vA, vc, hvv⟩ := hok.sl.shape
      have CE := Lib.hid (entry8 p 0 w1 hok (HSP.out p hpm).2)
      have hyd : (p.en 0).d.size ≤ 310 := Pt.text_size hok (HSP.out p hpm).1 (HSP.out p hpm).2
      obtain ⟨y, hy⟩ : ∃ y, p.en 0 = y := ⟨_, rfl⟩
      have HY := Lib.hid hy
      rw [hy] at CE hyd
      unfold Pt.val En.val at CE
      rw [hvv] at q3 CE
      clear hok hp0 i2 hvv hy hpm
      go_wp2_with fail
      refine CE.out.mono ?_
      rintro e w2 ⟨rfl, ho2⟩
      clear q0 q1 q2 q3 CE y1 y2 y3 y4
      go_wp2_with fail
      have ho3 : Only [] w1 (w2.alloc (.cells #[.int .i64 y.ix, .int .i64 y.tm, .int .i64 y.kd, .string y.d] 40)) := ho2.alloc _
      have HYC := Lib.hid (Cells.new w2 40 y.cells)
      have HYZ : Hid (w2.heap.size ∉ K ∧ w2.heap.size ∉ KR) := Lib.hid ⟨fun hm => by have := HT1.out.l.k.below _ hm; have := ho2.size; omega, fun hm => by have := HT1.out.r.below _ hm; have := ho2.size; omega⟩
      obtain ⟨w3, hw3⟩ : ∃ w3, w2.alloc (.cells #[.int .i64 y.ix, .int .i64 y.tm, .int .i64 y.kd, .string y.d] 40) = w3 := ⟨_, rfl⟩
      obtain ⟨z7, hz7⟩ : ∃ z, w2.heap.size = z := ⟨_, rfl⟩
      have HYC : Hid (Cells (w2.alloc (.cells #[.int .i64 y.ix, .int .i64 y.tm, .int .i64 y.kd, .string y.d] 40)) w2.heap.size 40 y.cells) := HYC
      rw [hw3] at ho3 HYC ⊢
      rw [hz7] at HYC HYZ ⊢
      have HT3 := Lib.hid (HT1.out.to ho3.drew)
      clear hw3 hz7 ho2 ho3
      have hnewd : Hid (g.new y.tm y.kd y.d = ⟨g.last + 1, y.tm, y.kd, y.d⟩) := Lib.hid rfl
      have CA := Lib.hid (la_add (Lib.hid HT3.out.l) y.tm y.kd y.d (by omega) (by omega) (g.add8 p) (by unfold LG.add8; rw [HY.out]))
      have CR : Hid (∀ (w9 : World), RlK w9 KR r g → Calls Try.prog 63 #[.pointer (some ⟨r, 0, none⟩), .int .i64 y.tm, .int .i64 y.kd, .string y.d] w9 fun e w' => e = .returned (.agg #[.int .i64 (g.last + 1), .int .i64 y.tm, .int .i64 y.kd, .string y.d]) ∧ RDoes w9 w' KR r (g.add8 p)) := Lib.hid fun w9 h9 => by
        have := rl_add r KR g y.tm y.kd y.d w9 h9 (by omega)
        unfold LG.add8
        rw [HY.out]
        exact this
      have f0 : (g.last + 1 == g.last + 1) = true := beq_self_eq_true _
      have f1 : (y.tm == y.tm) = true := beq_self_eq_true _
      have f2 : (y.kd == y.kd) = true := beq_self_eq_true _
      have f3 : (y.d.toList == y.d.toList) = true := beq_self_eq_true _
      go_region_held3 (fun w' : World => w'.cell? ⟨z7, 0, none⟩ = some (.int .i64 y.ix) ∧ w'.cell? ⟨z7, 1, none⟩ = some (.int .i64 y.tm) ∧ w'.cell? ⟨z7, 2, none⟩ = some (.int .i64 y.kd) ∧ w'.cell? ⟨z7, 3, none⟩ = some (.string y.d))
        (first
          | exact en_cells HYC.out.drew
          | exact en_cells (HYC.out.drew.only hG9.out.only HYZ.out.1)
          | exact en_cells ((HYC.out.drew.only hG9.out.only HYZ.out.1).only hD.2.only HYZ.out.2))
        (first
          | (go_at_call 31; refine CA.out.mono ?_; rintro e w9 ⟨rfl, K9, hL9, hG9⟩)
          | (go_at_call 63; refine (CR.out _ (HT3.out.ref hG9.out)).mono ?_; rintro e w10 ⟨rfl, K10, hD⟩))
      have hFIN := Lib.hid (HT3.out.step hL9.out hG9.out ⟨K10, hD⟩ (by unfold LG.add8; exact HT3.out.ix.snoc _ rfl))
      clear hL9 hG9 hD CA CR
      go_wp2_with fail
      go_ret
      exact ⟨rfl, hFIN.out⟩
set_option maxRecDepth 100000 in
set_option maxHeartbeats 8000000 in
theorem does_compact (W w : World) (b r : Nat) (g : LG) (a : A8) (K KR : List Nat) (h : TwoE W w K KR b r g) (ha0 : a.Ok W) (hs : smallB a.ps = true) (hb : g.last ≤ 10000) (hn : pickI a.op 7 = 5) :
    Calls Try.prog 34 #[.pointer (some ⟨b, 0, none⟩), .pointer (some ⟨r, 0, none⟩), a.val] w fun e w' => e = .returned (.bool true) ∧ Two W w' b r (g.compact a.ix ⟨#[99]⟩).1 ∧ Kept K KR w w' := by
  obtain ⟨h1, h2, h3, h4, h5⟩ := h
  have HT := Lib.hid (TwoO.mk (Only.refl [] w) h1 h2 h3 h4 h5)
  have ha := ha0.only h1.only
  have HA0 := Lib.hid ha0
  obtain ⟨PA, pc, hpv⟩ := ha.ps.shape
  obtain ⟨PN, hPN⟩ : ∃ n, a.ps.length = n := ⟨_, rfl⟩
  rw [hPN] at hpv
  have HPN := Lib.hid hPN
  obtain ⟨hs60, hsp⟩ := smallB_iff hs
  have HSP := Lib.hid hsp
  have HSM := Lib.hid hs
  obtain ⟨hglo, hgl0, hgl1⟩ := h1.k.hi
  have hbK := Lib.hid h1.k.below
  have HA := Lib.hid ha
  have CP := Lib.hid (fun w' => pick8 a.op 7 w' ha.op (by omega) (by omega))
  have hoA : Only [] w (w.alloc (.cells #[.int .i64 a.op, .int .i64 a.ix, .int .i64 a.tm, .int .i64 a.fx, .slice PA PN pc] 60)) := (Only.refl _ w).alloc _
  have hZ : Cells (w.alloc (.cells #[.int .i64 a.op, .int .i64 a.ix, .int .i64 a.tm, .int .i64 a.fx, .slice PA PN pc] 60)) w.heap.size 60 a.cells := by
    have := Cells.new w 60 [.int .i64 a.op, .int .i64 a.ix, .int .i64 a.tm, .int .i64 a.fx, .slice PA PN pc]
    unfold A8.cells
    rw [hpv]
    exact this
  have HZ := Lib.hid hZ
  have HT1 := Lib.hid (HT.out.to hoA)
  have HA1 := Lib.hid (ha.only hoA)
  have HZK : Hid (w.heap.size ∉ K) := Lib.hid fun hm => by have := h1.k.below _ hm; omega
  have HZR : Hid (w.heap.size ∉ KR) := Lib.hid fun hm => by have := h2.below _ hm; omega
  have HPV := Lib.hid hpv
  unfold A8.val
  rw [hpv]
  rw [hn] at CP
  clear hn
  clear h1 h2 h3 h4 h5 hs hsp hZ hpv ha ha0 hPN
  go_enter Try.func34, Try.ntmps34
  go_wp2_with fail
  obtain ⟨w1, hw1⟩ : ∃ w1, w.alloc (.cells #[.int .i64 a.op, .int .i64 a.ix, .int .i64 a.tm, .int .i64 a.fx, .slice PA PN pc] 60) = w1 := ⟨_, rfl⟩
  obtain ⟨z, hz⟩ : ∃ z, w.heap.size = z := ⟨_, rfl⟩
  rw [hw1] at HZ HT1 HA1 hoA ⊢
  rw [hz] at HZ HZK HZR ⊢
  clear hw1 hz
  refine (CP.out _).mono ?_
  rintro e w' ⟨rfl, rfl⟩
  clear CP
  have y1 := HZ.out.cell (k := 1) rfl
  have y2 := HZ.out.cell (k := 2) rfl
  have y3 := HZ.out.cell (k := 3) rfl
  have y4 := HZ.out.cell (k := 4) rfl
  rw [HPV.out] at y4
  clear y1 y2 y3 y4
  obtain ⟨gc, ok, hgc⟩ : ∃ gc ok, g.compact a.ix ⟨#[99]⟩ = (gc, ok) := ⟨_, _, rfl⟩
  have HGC := Lib.hid hgc
  have HTD := Lib.hid (HT1.out.to (Only.refl [] w1).drew)
  have CA := Lib.hid (la_compact (Lib.hid HTD.out.l) a.ix ⟨#[99]⟩ gc ok hgc)
  have CR : Hid (∀ (w9 : World), RlK w9 KR r g → Calls Try.prog 64 #[.pointer (some ⟨r, 0, none⟩), .int .i64 a.ix, .string ⟨#[99]⟩] w9 fun e w' => e = .returned (.int .i64 (cErr ok)) ∧ RDoes w9 w' KR r gc) := Lib.hid fun w9 h9 => by
    have := rl_compact r KR g a.ix ⟨#[99]⟩ w9 h9 HTD.out.l.data HTD.out.ix
    rw [HGC.out] at this
    exact this
  have f0 : (cErr ok == cErr ok) = true := beq_self_eq_true _
  clear hgc
  go_wp2_with fail
  go_region_held3 (fun w' : World => w'.cell? ⟨z, 1, none⟩ = some (.int .i64 a.ix))
    (first
      | exact HZ.out.drew.cell (k := 1) rfl
      | exact (HZ.out.drew.only hG9.out.only HZK.out).cell (k := 1) rfl
      | exact ((HZ.out.drew.only hG9.out.only HZK.out).only hD.2.only HZR.out).cell (k := 1) rfl)
    (first
      | (go_at_call 25; refine CA.out.mono ?_; rintro e w9 ⟨rfl, K9, hL9, hG9⟩)
      | (go_at_call 64; refine (CR.out _ (HTD.out.ref hG9.out)).mono ?_; rintro e w10 ⟨rfl, K10, hD⟩))
  have hFIN := Lib.hid (HTD.out.step hL9.out hG9.out ⟨K10, hD⟩ (by have := HTD.out.ix.compact a.ix ⟨#[99]⟩; rw [HGC.out] at this; exact this))
  clear hL9 hG9 hD CA CR
  go_wp2_with fail
  go_ret
  exact ⟨rfl, by rw [HGC.out]; exact hFIN.out⟩
set_option maxRecDepth 100000 in
set_option maxHeartbeats 8000000 in
theorem does_restore (W w : World) (b r : Nat) (g : LG) (a : A8) (K KR : List Nat) (h : TwoE W w K KR b r g) (ha0 : a.Ok W) (hs : smallB a.ps = true) (hb : g.last ≤ 10000) (hn : pickI a.op 7 = 6) :
    Calls Try.prog 34 #[.pointer (some ⟨b, 0, none⟩), .pointer (some ⟨r, 0, none⟩), a.val] w fun e w' => e = .returned (.bool true) ∧ Two W w' b r (g.restore (bas a.ix a.tm)).1 ∧ Kept K KR w w' := by
  obtain ⟨h1, h2, h3, h4, h5⟩ := h
  have HT := Lib.hid (TwoO.mk (Only.refl [] w) h1 h2 h3 h4 h5)
  have ha := ha0.only h1.only
  have HA0 := Lib.hid ha0
  obtain ⟨PA, pc, hpv⟩ := ha.ps.shape
  obtain ⟨PN, hPN⟩ : ∃ n, a.ps.length = n := ⟨_, rfl⟩
  rw [hPN] at hpv
  have HPN := Lib.hid hPN
  obtain ⟨hs60, hsp⟩ := smallB_iff hs
  have HSP := Lib.hid hsp
  have HSM := Lib.hid hs
  obtain ⟨hglo, hgl0, hgl1⟩ := h1.k.hi
  have hbK := Lib.hid h1.k.below
  have HA := Lib.hid ha
  have CP := Lib.hid (fun w' => pick8 a.op 7 w' ha.op (by omega) (by omega))
  have hoA : Only [] w (w.alloc (.cells #[.int .i64 a.op, .int .i64 a.ix, .int .i64 a.tm, .int .i64 a.fx, .slice PA PN pc] 60)) := (Only.refl _ w).alloc _
  have hZ : Cells (w.alloc (.cells #[.int .i64 a.op, .int .i64 a.ix, .int .i64 a.tm, .int .i64 a.fx, .slice PA PN pc] 60)) w.heap.size 60 a.cells := by
    have := Cells.new w 60 [.int .i64 a.op, .int .i64 a.ix, .int .i64 a.tm, .int .i64 a.fx, .slice PA PN pc]
    unfold A8.cells
    rw [hpv]
    exact this
  have HZ := Lib.hid hZ
  have HT1 := Lib.hid (HT.out.to hoA)
  have HA1 := Lib.hid (ha.only hoA)
  have HZK : Hid (w.heap.size ∉ K) := Lib.hid fun hm => by have := h1.k.below _ hm; omega
  have HZR : Hid (w.heap.size ∉ KR) := Lib.hid fun hm => by have := h2.below _ hm; omega
  have HPV := Lib.hid hpv
  unfold A8.val
  rw [hpv]
  rw [hn] at CP
  clear hn
  clear h1 h2 h3 h4 h5 hs hsp hZ hpv ha ha0 hPN
  go_enter Try.func34, Try.ntmps34
  go_wp2_with fail
  obtain ⟨w1, hw1⟩ : ∃ w1, w.alloc (.cells #[.int .i64 a.op, .int .i64 a.ix, .int .i64 a.tm, .int .i64 a.fx, .slice PA PN pc] 60) = w1 := ⟨_, rfl⟩
  obtain ⟨z, hz⟩ : ∃ z, w.heap.size = z := ⟨_, rfl⟩
  rw [hw1] at HZ HT1 HA1 hoA ⊢
  rw [hz] at HZ HZK HZR ⊢
  clear hw1 hz
  refine (CP.out _).mono ?_
  rintro e w' ⟨rfl, rfl⟩
  clear CP
  have y1 := HZ.out.cell (k := 1) rfl
  have y2 := HZ.out.cell (k := 2) rfl
  have y3 := HZ.out.cell (k := 3) rfl
  have y4 := HZ.out.cell (k := 4) rfl
  rw [HPV.out] at y4
  clear y1 y2 y3 y4
  obtain ⟨hxb0, hxb30, hxb3⟩ := bas_bound a.ix a.tm
  have CB := Lib.hid (fun w' => base8 a.ix a.tm w' HA1.out.ix HA1.out.tm)
  obtain ⟨x, hx⟩ : ∃ x, bas a.ix a.tm = x := ⟨_, rfl⟩
  rw [hx] at CB hxb0 hxb30 hxb3
  have HBX := Lib.hid hx
  obtain ⟨gc, ok, hgc⟩ : ∃ gc ok, g.restore x = (gc, ok) := ⟨_, _, rfl⟩
  have HGC := Lib.hid hgc
  have HTD := Lib.hid (HT1.out.to (Only.refl [] w1).drew)
  have HXB3 := Lib.hid hxb3
  have HGL : Hid (x.ix + (g.l.length : Int) ≤ 1000000) := by show _ ≤ _; unfold LG.last at hb; omega
  have hixc : Hid (IxOk gc) := Lib.hid (by have := HTD.out.ix.restore x; rw [hgc] at this; exact this)
  have f0 : (ok == ok) = true := beq_self_eq_true _
  clear hx hgc hxb3
  unfold Bas.val at CB
  go_wp2_with fail
  go_region_held3 (fun w' : World => w'.cell? ⟨z, 1, none⟩ = some (.int .i64 a.ix) ∧ w'.cell? ⟨z, 2, none⟩ = some (.int .i64 a.tm))
    (first
      | exact two12 HZ.out.drew
      | exact two12 (HZ.out.drew.only ho5 (by simp))
      | exact two12 ((HZ.out.drew.only ho5 (by simp)).only hG6.out.only HZK.out)
      | exact two12 (((HZ.out.drew.only ho5 (by simp)).only hG6.out.only HZK.out).only ho7 (by simp))
      | exact two12 (((HZ.out.drew.only ho5 (by simp)).only hG6.out.only HZK.out).only hD.2.only HZR.out))
    (first
      | (go_at_call 65; refine (CR.out.mono ?_); rintro e w8 ⟨rfl, K8, hD⟩)
      | (go_at_call 17; refine (CB.out w6).mono ?_; rintro e w7 ⟨v7, rfl, hr7, ho7⟩
         have hR6 := HT5.out.ref hG6.out
         obtain ⟨A7, c7, rfl⟩ := (SlAt.of_own hr7).shape
         have CR : Hid (Calls Try.prog 65 #[.pointer (some ⟨r, 0, none⟩), .agg #[.int .i64 x.ix, .int .i64 x.tm, .slice A7 x.vs.length c7, .string x.d]] w7 fun e w' => e = .returned (.bool ok) ∧ RDoes w6 w' KR r gc) := Lib.hid (by
           have := rl_restore r KR g x (.slice A7 x.vs.length c7) w6 w7 ho7 hR6 HTD.out.ix (RfS.of_own hr7 (gvs_one _)) (fun q hq => hr7.lt q hq) hxb0 HGL.out (by rw [HXB3.out]; omega)
           rw [HGC.out] at this
           exact this)
         clear hR6 hr7)
      | (go_at_call 39; refine (CA.out).mono ?_; rintro e w6 ⟨rfl, K6, hL6, hG6⟩)
      | (go_at_call 17; refine (CB.out w1.drew).mono ?_; rintro e w5 ⟨v5, rfl, hr5, ho5⟩
         obtain ⟨A5, c5, rfl⟩ := (SlAt.of_own hr5).shape
         have HT5 := Lib.hid (HTD.out.to ho5)
         have CA := Lib.hid (la_restore (Lib.hid HT5.out.l) x (.slice A5 x.vs.length c5) (own_low hr5 (Nat.zero_le _)) (fun q hq hm => by have := (hr5.lt q hq).1; have := HTD.out.l.k.below q hm; omega) hxb0 (by omega) (by rw [HXB3.out]; omega) gc ok HGC.out)
         unfold Bas.val at CA
         clear hr5))
  have hFIN := Lib.hid (HT5.out.step hL6.out hG6.out ⟨K8, hD⟩ hixc.out)
  clear hL6 hG6 hD CA CR
  go_wp2_with fail
  go_ret
  exact ⟨rfl, by rw [HBX.out, HGC.out]; exact hFIN.out⟩
theorem two24 {w : World} {z : Nat} {a : A8} {v : Value} (hv : a.pv = v) (h : Cells w z 60 a.cells) : w.cell? ⟨z, 2, none⟩ = some (.int .i64 a.tm) ∧ w.cell? ⟨z, 4, none⟩ = some v := ⟨h.cell (k := 2) rfl, by rw [← hv]; exact h.cell (k := 4) rfl⟩
theorem ix8_bound (i : Int) (h : Wide64 i) : -9223372036854775808 ≤ ix8 i := by
  unfold ix8
  split
  · exact h.1
  · have := (pickI_lt i 40 (by omega)).1; omega
set_option maxRecDepth 100000 in
set_option maxHeartbeats 8000000 in
theorem does_match (W w : World) (b r : Nat) (g : LG) (a : A8) (K KR : List Nat) (h : TwoE W w K KR b r g) (ha0 : a.Ok W) (hs : smallB a.ps = true) (hb : g.last ≤ 10000) (n : Int) (hn : pickI a.op 7 = n) (h0 : n ≠ 0) (h1' : n ≠ 1) (h5' : n ≠ 5) (h6' : n ≠ 6) :
    Calls Try.prog 34 #[.pointer (some ⟨b, 0, none⟩), .pointer (some ⟨r, 0, none⟩), a.val] w fun e w' => e = .returned (.bool true) ∧ Two W w' b r (g.matchR (ix8 a.ix) a.tm (g.fix8 a) (entL a.ps 0)).g ∧ Kept K KR w w' := by
  obtain ⟨h1, h2, h3, h4, h5⟩ := h
  have HT := Lib.hid (TwoO.mk (Only.refl [] w) h1 h2 h3 h4 h5)
  have ha := ha0.only h1.only
  have HA0 := Lib.hid ha0
  obtain ⟨PA, pc, hpv⟩ := ha.ps.shape
  obtain ⟨PN, hPN⟩ : ∃ n, a.ps.length = n := ⟨_, rfl⟩
  rw [hPN] at hpv
  have HPN := Lib.hid hPN
  obtain ⟨hs60, hsp⟩ := smallB_iff hs
  have HSP := Lib.hid hsp
  have HSM := Lib.hid hs
  obtain ⟨hglo, hgl0, hgl1⟩ := h1.k.hi
  have hbK := Lib.hid h1.k.below
  have HA := Lib.hid ha
  have CP := Lib.hid (fun w' => pick8 a.op 7 w' ha.op (by omega) (by omega))
  have hoA : Only [] w (w.alloc (.cells #[.int .i64 a.op, .int .i64 a.ix, .int .i64 a.tm, .int .i64 a.fx, .slice PA PN pc] 60)) := (Only.refl _ w).alloc _
  have hZ : Cells (w.alloc (.cells #[.int .i64 a.op, .int .i64 a.ix, .int .i64 a.tm, .int .i64 a.fx, .slice PA PN pc] 60)) w.heap.size 60 a.cells := by
    have := Cells.new w 60 [.int .i64 a.op, .int .i64 a.ix, .int .i64 a.tm, .int .i64 a.fx, .slice PA PN pc]
    unfold A8.cells
    rw [hpv]
    exact this
  have HZ := Lib.hid hZ
  have HT1 := Lib.hid (HT.out.to hoA)
  have HA1 := Lib.hid (ha.only hoA)
  have HZK : Hid (w.heap.size ∉ K) := Lib.hid fun hm => by have := h1.k.below _ hm; omega
  have HZR : Hid (w.heap.size ∉ KR) := Lib.hid fun hm => by have := h2.below _ hm; omega
  have HPV := Lib.hid hpv
  unfold A8.val
  rw [hpv]
  rw [hn] at CP
  have d0 : (n == 0) = false := by simpa using h0
  have d1 : (n == 1) = false := by simpa using h1'
  have d5 : (n == 5) = false := by simpa using h5'
  have d6 : (n == 6) = false := by simpa using h6'
  have HIB := Lib.hid (ix8_bound a.ix ha.ix)
  obtain ⟨f, hf⟩ : ∃ f, g.fix8 a = f := ⟨_, rfl⟩
  have hfb : g.b.ix ≤ f ∧ f ≤ g.last := by
    have := pickI_lt a.fx ((g.l.length : Int) + 1) (by omega)
    rw [← hf]; unfold LG.fix8 LG.last; omega
  have HFB := Lib.hid hfb
  have HF := Lib.hid hf
  obtain ⟨l, hl⟩ : ∃ l, entL a.ps 0 = l := ⟨_, rfl⟩
  have hll : Hid (l.length = PN) := by show _ = _; rw [← hl, entL_length, hPN]
  have HLL := Lib.hid hl
  have hPN60 : PN ≤ 60 := by rw [← hPN]; exact hs60
  have HDL : Hid (DOk l) := Lib.hid (by rw [← hl]; exact entL_dok ha.ps hs 0)
  obtain ⟨idx, hidx⟩ : ∃ i, ix8 a.ix = i := ⟨_, rfl⟩
  have HIDX := Lib.hid hidx
  rw [hidx] at HIB
  obtain ⟨g', xx, yy, ok, hR⟩ : ∃ g' xx yy ok, g.matchR idx a.tm f l = ⟨g', xx, yy, ok⟩ := ⟨_, _, _, _, rfl⟩
  have HR := Lib.hid hR
  have hcase : Hid (((a.ix.tmod 7 == 0) = true ∧ (a.ix.tmod 7 != 0) = false ∧ idx = a.ix) ∨ ((a.ix.tmod 7 == 0) = false ∧ (a.ix.tmod 7 != 0) = true ∧ pickI a.ix 40 = idx)) := by
    show _ ∨ _
    rw [← hidx]
    unfold ix8
    by_cases h7 : a.ix.tmod 7 = 0
    · left; exact ⟨by simpa using h7, by simpa using h7, by rw [if_pos h7]⟩
    · right; exact ⟨by simpa using h7, by simpa using h7, by rw [if_neg h7]⟩
  have HWX := Lib.hid ha.ix
  clear hn h0 h1' h5' h6' hf hfb hl hidx hR
  rcases hcase.out with ⟨d7, d8, hix⟩ | ⟨d7, d8, hix⟩
  all_goals
    have HIX8 := Lib.hid hix
    clear hix
    clear h1 h2 h3 h4 h5 hs hsp hZ hpv ha ha0 hPN
    go_enter Try.func34, Try.ntmps34
    go_wp2_with fail
    obtain ⟨w1, hw1⟩ : ∃ w1, w.alloc (.cells #[.int .i64 a.op, .int .i64 a.ix, .int .i64 a.tm, .int .i64 a.fx, .slice PA PN pc] 60) = w1 := ⟨_, rfl⟩
    obtain ⟨z, hz⟩ : ∃ z, w.heap.size = z := ⟨_, rfl⟩
    rw [hw1] at HZ HT1 HA1 hoA ⊢
    rw [hz] at HZ HZK HZR ⊢
    clear hw1 hz
    refine (CP.out _).mono ?_
    rintro e w' ⟨rfl, rfl⟩
    clear CP
    have y1 := HZ.out.cell (k := 1) rfl
    have y2 := HZ.out.cell (k := 2) rfl
    have y3 := HZ.out.cell (k := 3) rfl
    have y4 := HZ.out.cell (k := 4) rfl
    rw [HPV.out] at y4
    go_wp2_with fail
    obtain ⟨vv, ev, hrv, _, _⟩ := HT1.out.r
    have CF := Lib.hid (fixed8 r vv ev g a.fx w1 hrv HA1.out.fx)
    rw [show g.b.ix + pickI a.fx ((g.l.length : Int) + 1) = f from HF.out] at CF
    clear hrv
    refine CF.out.mono ?_
    rintro e w2 ⟨rfl, ho2⟩
    have HT2 := Lib.hid (HT1.out.to ho2)
    have HA2 := Lib.hid (HA1.out.only ho2)
    have HZ2 := Lib.hid (HZ.out.only ho2 (by simp))
    clear y1 y2 y3 y4 CF ho2
    have y1 := HZ2.out.cell (k := 1) rfl
    have CPX := Lib.hid (fun w' => pick8 a.ix 40 w' HWX.out (by omega) (by omega))
    first
    | (rw [HIX8.out] at CPX
       go_wp2_with ((go_at_call 22; refine (CPX.out _).mono ?_; rintro e w' ⟨rfl, rfl⟩)))
    | (go_wp2_with fail
       rw [← HIX8.out])
    clear y1 CPX
    have HTD := Lib.hid (HT2.out.to (Only.refl [] w2).drew)
    have CE := Lib.hid (fun w' (ho : Only [] W w') => entries8 (.slice PA PN pc) a.ps 0 w' (by have := (HA0.out.only ho).ps; rw [HPV.out] at this; exact this) HSM.out (by omega) (by omega))
    go_region_held3 (fun w' : World => w'.cell? ⟨z, 2, none⟩ = some (.int .i64 a.tm) ∧ w'.cell? ⟨z, 4, none⟩ = some (.slice PA PN pc))
      (first
        | exact two24 HPV.out HZ2.out.drew
        | exact two24 HPV.out (HZ2.out.drew.only ho5 (by simp))
        | exact two24 HPV.out ((HZ2.out.drew.only ho5 (by simp)).only hG6.out.only HZK.out))
      (first
        | (go_at_call 23; refine CM.out.mono ?_; rintro e w6 ⟨rfl, K6, hL6, hG6⟩)
        | (go_at_call 19; refine (CE.out _ HTD.out.l.only).mono ?_; rintro e w5 ⟨v5, rfl, hr5, ho5⟩
           have hr5' := hr5
           rw [HLL.out, show a.ps.length = l.length from by rw [hll.out, HPN.out]] at hr5'
           obtain ⟨A5, c5, rfl⟩ := (SlAt.of_own hr5').shape
           have HT5 := Lib.hid (HTD.out.to ho5)
           have CM := Lib.hid (la_match (Lib.hid HT5.out.l) idx a.tm f (.slice A5 l.length c5) l ⟨own_low hr5' (Nat.zero_le _), fun q hq hm => by have := (hr5'.lt q hq).1; have := HTD.out.l.k.below q hm; omega⟩ HIB.out HFB.out.1 HFB.out.2 (by have := hll.out; omega) HDL.out _ HR.out)
           clear hr5 hr5'))
    rename_i hHeld
    clear hHeld
    have HZ6 := Lib.hid ((HZ2.out.drew.only ho5 (by simp)).only hG6.out.only HZK.out)
    have HR6 := Lib.hid (HT5.out.ref hG6.out)
    have hW6 := Lib.hid hL6.out.only
    have q0 : (xx == xx) = true := beq_self_eq_true _
    have q1 : (yy == yy) = true := beq_self_eq_true _
    have q2 : (ok == ok) = true := beq_self_eq_true _
    clear CM ho5
    go_wp2_with fail
    go_region_held3 (fun w' : World => w'.cell? ⟨z, 2, none⟩ = some (.int .i64 a.tm) ∧ w'.cell? ⟨z, 4, none⟩ = some (.slice PA PN pc))
      (first
        | exact two24 HPV.out HZ6.out.drew
        | exact two24 HPV.out (HZ6.out.drew.only ho7 (by simp))
        | exact two24 HPV.out ((HZ6.out.drew.only ho7 (by simp)).only hD.2.only HZR.out))
      (first
        | (go_at_call 67; refine CR.out.mono ?_; rintro e w8 ⟨rfl, K8, hD⟩)
        | (go_at_call 19; refine (CE.out _ hW6.out.drew).mono ?_; rintro e w7 ⟨v7, rfl, hr7, ho7⟩
           have hr7' := hr7
           rw [HLL.out, show a.ps.length = l.length from by rw [hll.out, HPN.out]] at hr7'
           obtain ⟨A7, c7, rfl⟩ := (SlAt.of_own hr7').shape
           have hR7 := (HR6.out.only (Only.refl [] w6).drew).only ho7
           have CR := Lib.hid (rl_match r KR g idx a.tm f (.slice A7 l.length c7) l w7 hR7 (RfS.of_own hr7' (enL_one l)) (fun hq => by have h1 : w6.heap.size ≤ r := (hr7'.lt r hq).1; obtain ⟨_, _, hv, _, _⟩ := HR6.out; have := hv.cells.lt; omega) HIB.out HFB.out.1 HFB.out.2 (by have := hll.out; omega))
           rw [HR.out] at CR
           unfold MR.val at CR
           clear hr7 hr7' hR7))
    have hFIN := Lib.hid (HT5.out.step hL6.out hG6.out ⟨K8, hD.1, Grew.of0l ((Only.refl [] w6).drew.tr ho7) hD.2⟩ (by have := HT5.out.ix.matchR idx a.tm f l; rw [HR.out] at this; exact this))
    clear hL6 hG6 hD CR ho7
    go_wp2_with fail
    go_ret
    exact ⟨rfl, by rw [HF.out, HLL.out, HIDX.out, HR.out]; exact hFIN.out⟩
end Go.Proofs.Ytagklgodcbmcaaa
