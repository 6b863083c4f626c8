/-
  Contracts; each theorem bears its own conditions.
-/
import Derived.RangeFuncNested
import Derived.RangeFuncBound
import Derived.RangeFuncCalls
import Derived.RangeFuncLeaves
import Derived.Shelf.Abstract
import Derived.Shelf.RegionOpen
import Derived.WalkKit
import Derived.OwnWalkIn
import Derived.TacticsInMore
import Derived.LoopNIn
import Derived.LoopIn
import Derived.Maps.AppendAt
import Derived.Test.YtcjfmildalappaaGreatK24aa
import Derived.Test.YtcjfmildalappaaGreatK24ab
import Derived.Test.YtcjfmildalappaaGreatK24ae
import Derived.Test.YtcjfmildalappaaGreatK24ak
import Derived.Test.YtcjfmildalappaaGreatK24au
set_option linter.all false
set_option maxRecDepth 100000
set_option maxHeartbeats 8000000
namespace Go.Proofs.YtcjfmildalappaaGreat
open Go.RowKit Go.Shelf
attribute [local go_sem] Oper.semAt_some
abbrev ov (o : Oq) : Value := .agg #[.int .i64 o.cl, .string ⟨o.d.toArray⟩, .string ⟨o.r.toArray⟩, .int .i64 o.st, .int .i64 o.en]
theorem oqL_get (l : List Oq) (i j : Nat) (x : Oq) (h : l[i]? = some x) (hj : j < 5) : (oqL l)[i * 5 + j]? = x.cells[j]? := flat_get Oq.cells 5 (fun _ => rfl) l i j x h hj
theorem oqL_at {w : World} {B : Nat} {v : Value} {l : List Oq} (h : SlAt w B v 5 l.length (oqL l)) {k : Nat} {x : Oq} (hk : l[k]? = some x) :
 ∃ b o c, v = .slice (some ⟨b, o, none⟩) l.length c ∧ b < B ∧ w.cell? ⟨b, o + k * 5, none⟩ = some (.int .i64 x.cl) ∧ w.cell? ⟨b, o + k * 5 + 1, none⟩ = some (.string ⟨x.d.toArray⟩) ∧ w.cell? ⟨b, o + k * 5 + 2, none⟩ = some (.string ⟨x.r.toArray⟩) ∧ w.cell? ⟨b, o + k * 5 + 3, none⟩ = some (.int .i64 x.st) ∧ w.cell? ⟨b, o + k * 5 + 4, none⟩ = some (.int .i64 x.en) := by
 have hlt : k < l.length := (List.getElem?_eq_some_iff.1 hk).1
 obtain ⟨b, o, c, hv, hb, hc⟩ := h.at_ (by omega)
 exact ⟨b, o, c, hv, hb, hc (k * 5 + 0) _ (oqL_get l k 0 x hk (by omega)), hc (k * 5 + 1) _ (oqL_get l k 1 x hk (by omega)), hc (k * 5 + 2) _ (oqL_get l k 2 x hk (by omega)), hc (k * 5 + 3) _ (oqL_get l k 3 x hk (by omega)), hc (k * 5 + 4) _ (oqL_get l k 4 x hk (by omega))⟩
theorem Only.grown0 {w w' : World} (h : Only [] w w') : w.grownBy w' none := ⟨h.os, h.tape, h.output, h.size, fun k hk _ => h.block k hk (by simp)⟩
def cntK (l : List Oq) (k : Nat) : List Oq := (l.take k).filter cntO
theorem cntK_len (l : List Oq) (k : Nat) : (cntK l k).length ≤ k := by
 unfold cntK
 exact Nat.le_trans (List.length_filter_le _ _) (by rw [List.length_take]; omega)
theorem cntK_hit {l : List Oq} {k : Nat} {x : Oq} (h : l[k]? = some x) (hc : cntO x = true) : cntK l (k + 1) = cntK l k ++ [x] := by
 unfold cntK
 rw [List.take_add_one, h, List.filter_append]
 simp [hc]
theorem cntK_miss {l : List Oq} {k : Nat} {x : Oq} (h : l[k]? = some x) (hc : cntO x = false) : cntK l (k + 1) = cntK l k := by
 unfold cntK
 rw [List.take_add_one, h, List.filter_append]
 simp [hc]
theorem ended1 (n l Bs n₀ : Nat) (v : Value) (zs : List Oq) (hreach : zs.length ≤ 1000000) (J Jx : List Oq → World → Prop) (W : World) (hn₀ : n₀ ≤ W.heap.size)
 (hJ : ∀ s A B, J s A → Only [] A B → J s B)
 (hY : ∀ pre x W, J pre W → pre.length < zs.length → YieldAt Fence.wide (n + 3 - 1) Tryz.prog l #[ov x] W fun e W' =>
  (e = .returned (.bool true) ∧ J (pre ++ [x]) W' ∧ Below n₀ W W') ∨ (e = .returned (.bool false) ∧ Jx (pre ++ [x]) W'))
 (hBs : W.cell? ⟨Bs, 0, none⟩ = some v) (hI : SlAt W n₀ v 5 zs.length (oqL zs)) (h0 : J [] W) :
 CallsIn Fence.wide (n + 3) Tryz.prog 188 #[.func (.yield l) #[] #[], .pointer (some ⟨Bs, 0, none⟩)] W fun e W' => (∃ v, e = .returned v) ∧
  ((∃ ys, ys = zs.filter cntO ∧ J ys W') ∨ (∃ pre, pre <+: zs.filter cntO ∧ Jx pre W')) := by
 have HI := Hd hI
 have CA := Hd (fun s w h => (callsIn_wide (n := n + 3 - 1)).2 (cmd_toAnswer s w h))
 obtain ⟨A, cap, rfl⟩ := hI.shape
 clear hI
 refine callsIn_of_wp Tryz.func188 rfl trivial ?_ rfl
 simp only [Tryz.ntmps188, List.size_toArray, List.length_cons, List.length_nil, Nat.reduceAdd, Nat.reduceSub, Array.replicate_succ, Array.replicate_zero, List.push_toArray, List.append_toArray, List.nil_append, List.cons_append]
 gi_wp2
 gi_loopw [9] (fun i wr => ∃ k : Nat, k ≤ zs.length ∧ i = .int .i64 k ∧ J (cntK zs k) wr ∧ Below n₀ W wr)
  (fun i _ => zs.length - (intOf i).toNat)
 case atStart => exact ⟨0, Nat.zero_le _, rfl, h0, Below.refl _ _⟩
 case round =>
  obtain ⟨k, hk, rfl, hJs, hnx⟩ := hrel
  by_cases hlt : k < zs.length
  · obtain ⟨x, hx⟩ : ∃ x, zs[k]? = some x := ⟨_, List.getElem?_eq_getElem hlt⟩
    have hxr := x.hr
    obtain ⟨b, o, c, hv, hb, q0, q1, q2, q3, q4⟩ := oqL_at HI.out hx
    injection hv with e1 e2 e3
    subst e1; subst e3
    have hcl : ∀ j u, W.cell? ⟨b, j, none⟩ = some u → wr.cell? ⟨b, j, none⟩ = some u := fun j u h => (hnx.cell (p := ⟨b, j, none⟩) hb).trans h
    have p0 := hcl _ _ q0
    have p1 := hcl _ _ q1
    have p2 := hcl _ _ q2
    have p3 := hcl _ _ q3
    have p4 := hcl _ _ q4
    clear hcl q0 q1 q2 q3 q4 e2
    have HXK := Hd (fun h => cntK_hit hx h)
    have HXM := Hd (fun h => cntK_miss hx h)
    have HLN := Hd (Nat.lt_of_le_of_lt (cntK_len zs k) hlt)
    have HCN : Hid (cntO x = (decide (0 ≤ x.en) && ((((unA x.r).getD Rp.zero).er != 17) && (((unA x.r).getD Rp.zero).er != 18)))) := Hd rfl
    gi_wp2
    obtain ⟨w0, hw0⟩ : ∃ u, wr.alloc (.cells #[.int .i64 x.cl, .string ⟨x.d.toArray⟩, .string ⟨x.r.toArray⟩, .int .i64 x.st, .int .i64 x.en] 88) = u := ⟨_, rfl⟩
    obtain ⟨z, hz⟩ : ∃ z, wr.heap.size = z := ⟨_, rfl⟩
    have HZ : Hid (Cells w0 z 88 [.int .i64 x.cl, .string ⟨x.d.toArray⟩, .string ⟨x.r.toArray⟩, .int .i64 x.st, .int .i64 x.en]) := Hd (hw0 ▸ hz ▸ Cells.new wr _ _)
    have HO0 : Hid (Only [] wr w0) := Hd (hw0 ▸ oz.alloc _)
    rw [hw0]
    clear p0 p1 p2 p3 p4
    refine ⟨trivial, ?_⟩
    refine (CA.out x.r w0 hxr).mono ?_
    rintro e w1 ⟨pv, rfl, hrp, ho1, _⟩
    obtain ⟨PA, pc, rfl⟩ := hrp.ps.shape
    obtain ⟨r, hr⟩ : ∃ r, (unA x.r).getD Rp.zero = r := ⟨_, rfl⟩
    rw [hr] at HCN ⊢
    obtain ⟨ec, hec⟩ : ∃ ec : Int, (if (unA x.r).isSome = true then 0 else 8) = ec := ⟨_, rfl⟩
    rw [hec]
    unfold Rp.val
    have HZ1 := Hd (HZ.out.only ho1 (by simp))
    have HO1 := Hd (HO0.out.tr ho1)
    clear hrp ho1 hr hec HZ HO0
    have c4 := HZ1.out.cell (k := 4) rfl
    have hlt1 := HZ1.out.lt
    obtain ⟨b1, hb1⟩ : ∃ q, decide (0 ≤ x.en) = q := ⟨_, rfl⟩
    obtain ⟨b2, hb2⟩ : ∃ q, (r.er != 17) = q := ⟨_, rfl⟩
    obtain ⟨b3, hb3⟩ : ∃ q, (r.er != 18) = q := ⟨_, rfl⟩
    rw [hb1, hb2, hb3] at HCN
    have O2 : Only [] wr (w1.alloc (.cells #[.int .i64 r.er, .int .i64 r.n, .slice PA r.ps.length pc] 34)) := HO1.out.alloc _
    have HJ2 := Hd (hJ _ _ _ hJs O2)
    have HB2 := Hd (hnx.trans (O2.below.mono (Nat.le_trans hn₀ hnx.size)))
    clear O2 HO1 hJs
    cases b1 with
    | false =>
     gi_wp2
     (try refine ⟨fun _ h => (by cases h), ?_⟩)
     gi_wp2
     go_roundw
     case rel => exact ⟨k + 1, by omega, by simp, by rw [HXM.out (by rw [HCN.out]; rfl)]; exact HJ2.out, HB2.out⟩
     case measure => simp [intOf]; omega
    | true =>
    cases b2 with
    | false =>
     gi_wp2
     (try refine ⟨fun _ h => (by cases h), ?_⟩)
     gi_wp2
     go_roundw
     case rel => exact ⟨k + 1, by omega, by simp, by rw [HXM.out (by rw [HCN.out]; rfl)]; exact HJ2.out, HB2.out⟩
     case measure => simp [intOf]; omega
    | true =>
    cases b3 with
    | false =>
     gi_wp2
     (try refine ⟨fun _ h => (by cases h), ?_⟩)
     gi_wp2
     go_roundw
     case rel => exact ⟨k + 1, by omega, by simp, by rw [HXM.out (by rw [HCN.out]; rfl)]; exact HJ2.out, HB2.out⟩
     case measure => simp [intOf]; omega
    | true =>
     obtain ⟨fn, tmps, assign, body, hy, hR⟩ := hY _ x _ HJ2.out HLN.out
     have HK := Hd (HXK.out (by rw [HCN.out]; rfl))
     have c0 := HZ1.out.cell (k := 0) rfl
     have c1 := HZ1.out.cell (k := 1) rfl
     have c2 := HZ1.out.cell (k := 2) rfl
     have c3 := HZ1.out.cell (k := 3) rfl
     gi_wp2
     refine RoundIn.mono (show RoundIn Fence.wide (n + 2) _ _ _ _ _ _ _ _ from hR) ?_
     rintro e W3 (⟨rfl, hJ3, hk3⟩ | ⟨rfl, hJx3⟩)
     · gi_wp2
       go_roundw
       case rel => exact ⟨k + 1, by omega, by simp, by rw [HK.out]; exact hJ3, HB2.out.trans hk3⟩
       case measure => simp [intOf]; omega
     · gi_wp2
       refine bodyPost_ret (results_none rfl _ _ _) rfl ?_
       refine ⟨⟨_, rfl⟩, .inr ⟨_, ?_, hJx3⟩⟩
       rw [← HK.out]
       unfold cntK
       exact List.IsPrefix.filter _ (List.take_prefix _ _)
  · obtain rfl : k = zs.length := by omega
    have e : cntK zs zs.length = zs.filter cntO := by unfold cntK; rw [List.take_length]
    rw [e] at hJs
    gi_wp2
    go_end0
    exact ⟨⟨_, rfl⟩, .inl ⟨_, rfl, hJs⟩⟩
end Go.Proofs.YtcjfmildalappaaGreat
namespace Go.Proofs.YtcjfmildalappaaGreat
open Go.RowKit
theorem apA_step {n : Nat} {a : AgS} (h : AgI n a) (hn : n ≤ 1000000000) (s : List UInt8) : AgI (n + 1) (apA s a).2 ∧ ∃ r, RpK r ∧ (apA s a).1 = rpb r := by
 unfold apA
 cases hu : unC s with
 | none => exact ⟨h.mono (by omega), errR 8, RpK.err 8 (by omega), rfl⟩
 | some c =>
  have hr := unC_right hu
  obtain ⟨k1, k2, _, k4⟩ := rightB_iff.1 hr
  have := doA_step h hn c (numB_wide k1 _ (by simp [Cm.n7])) (by have := (right_its hr).1; omega)
  exact ⟨this.1, _, this.2, rfl⟩
theorem stepE_step {n : Nat} {a : AgS} (h : AgI n a) (hn : n ≤ 1000000000) (x : Ey) : AgI (n + 1) (stepE a x).2 ∧ ((stepE a x).1 = [] ∨ ∃ r, RpK r ∧ (stepE a x).1 = rpb r) := by
 unfold stepE
 split
 · exact ⟨(apA_step h hn x.d).1, .inr (apA_step h hn x.d).2⟩
 · exact ⟨h.mono (by omega), .inl rfl⟩
theorem repE_k (l : List Ey) : ∀ (n : Nat) (a : AgS), AgI n a → n + l.length ≤ 1000000000 → ∀ y ∈ repE a l, y = [] ∨ ∃ r, RpK r ∧ y = rpb r := by
 induction l with
 | nil => intro n a _ _ y hy; cases hy
 | cons x l ih =>
  intro n a h hn y hy
  rw [List.length_cons] at hn
  obtain ⟨h1, h2⟩ := stepE_step h (by omega) x
  unfold repE at hy
  rcases List.mem_cons.1 hy with rfl | hy
  · exact h2
  · exact ih (n + 1) _ h1 (by omega) y hy
theorem repE_new {l : List Ey} (h : l.length ≤ 1000) : ∀ y ∈ repE AgS.new l, y = [] ∨ ∃ r, RpK r ∧ y = rpb r := repE_k l 0 AgS.new AgI.new (by omega)
theorem repE_le {l : List Ey} (h : l.length ≤ 1000) : ∀ y ∈ repE AgS.new l, y.length ≤ 100000 := fun y hy => by
 rcases repE_new h y hy with rfl | ⟨r, hr, rfl⟩
 · simp
 · exact hr.le
theorem unA_k {r : Rp} (h : RpK r) : unA (rpb r) = some r := (unA_iff _ (by have := h.le; omega) r).2 ⟨h.ok, rfl⟩
end Go.Proofs.YtcjfmildalappaaGreat
namespace Go.Proofs.YtcjfmildalappaaGreat
open Go.RowKit Go.Shelf
attribute [local go_sem] Oper.semAt_some
theorem hi_ended (n : Nat) (a : Option Addr) (len cap : Nat) (w : World) :
 CallsIn Fence.wide n Tryz.prog 112 #[.slice a len cap] w fun e w' => e = .returned (.func (.func 188) #[] #[.pointer (some ⟨w.heap.size, 0, none⟩)]) ∧ w' = w.alloc (.cells #[.slice a len cap] 84) := by
 refine callsIn_of_wp Tryz.func112 rfl trivial ?_ rfl
 simp only [Tryz.ntmps112, List.size_toArray, List.length_cons, List.length_nil, Nat.reduceAdd, Nat.reduceSub, Array.replicate_succ, Array.replicate_zero, List.push_toArray, List.append_toArray, List.nil_append, List.cons_append]
 gi_wp2
 go_ret
 exact ⟨rfl, rfl⟩
theorem ended_stops (n Bs n₀ : Nat) (v : Value) (zs : List Oq) (hreach : zs.length ≤ 1000000) (w : World) (hBs : Bs < w.heap.size) (hn₀ : n₀ ≤ w.heap.size)
 (hc : w.cell? ⟨Bs, 0, none⟩ = some v) (hI : SlAt w n₀ v 5 zs.length (oqL zs)) :
 SeqStopsK Fence.wide (n + 3) Tryz.prog 188 #[.pointer (some ⟨Bs, 0, none⟩)] (fun x : Oq => #[ov x]) (Below n₀) (fun ys => ys = zs.filter cntO) (fun pre => pre <+: zs.filter cntO) zs.length w := fun l J Jx W hW hJ _ hY h0 =>
 ended1 n l Bs n₀ v zs hreach J Jx W (Nat.le_trans hn₀ hW.size) (fun s A B hs ho => hJ s A B none hs ho.grown0 (fun r h => by cases h)) hY ((hW.cell (p := ⟨Bs, 0, none⟩) hBs).trans hc) (hI.only (S := []) (Only.of_below hW) hn₀ (by simp)) h0
theorem Cells.abide {W W' : World} {row : Option Nat} {b : Nat} {t : TypeId} {cs : List Value} (h : Cells W b t cs) (hg : W.grownBy W' row) (hr : ∀ r, row = some r → ∃ o : Obj, W.heap[r]? = some o ∧ o.isCells = false) : Cells W' b t cs := by
 refine (hg.block b h.lt (fun e => ?_)).trans h
 obtain ⟨o, ho, hc⟩ := hr b e.symm
 have h2 : W.heap[b]? = _ := h
 rw [h2] at ho
 cases ho
 cases hc
theorem own_abide {W W' : World} {row : Option Nat} {B : Nat} {e : TypeId} {sz n : Nat} {v : Value} {xs : List Value} (h : W.ownsRow B e sz v n xs) (hg : W.grownBy W' row) (hr : ∀ r, row = some r → ∃ o : Obj, W.heap[r]? = some o ∧ o.isCells = false) : W'.ownsRow B e sz v n xs := by
 refine ⟨h.1, h.2.imp id ?_⟩
 rintro ⟨g, cap, cur, hv, hb, hc, rest⟩
 refine ⟨g, cap, cur, hv, hb, (hg.block g (Array.getElem?_eq_some_iff.1 hc).1 (fun e => ?_)).trans hc, rest⟩
 obtain ⟨o, ho, hcc⟩ := hr g e.symm
 rw [hc] at ho
 cases ho
 cases hcc
theorem Only.abide {w0 W W' : World} {row : Option Nat} {B : Nat} (h : Only [] w0 W) (hB : w0.heap.size ≤ B) (hg : W.grownBy W' row) (hr : ∀ r, row = some r → B ≤ r ∧ ∃ o : Obj, W.heap[r]? = some o ∧ o.isCells = false) : Only [] w0 W' :=
 h.grown hg (fun g e => .inr (Nat.le_trans hB (hr g e).1))
structure FitI (w2 : World) (P M : Nat) (rv : Value) (l : List Ey) (rs : List (List UInt8)) (pre : List Oq) (W : World) : Prop where
 ho : Only [] w2 W
 p : Cells W P 42 [rv]
 m : ∃ mv, Cells W M 164 [mv] ∧ W.ownsRow w2.heap.size 169 3 mv (2 * pre.length) (mkF (mkO l rs pre) (2 * pre.length))
 ok : pre.all (okP l rs) = true
theorem FitI.own (w2 : World) (P M : Nat) (rv : Value) (l : List Ey) (rs : List (List UInt8)) (B : Nat) (hB : w2.heap.size ≤ B) : OwnFrom B (FitI w2 P M rv l rs) := fun s W W' row h hg hr =>
 have hr' : ∀ r, row = some r → ∃ o : Obj, W.heap[r]? = some o ∧ o.isCells = false := fun r e => (hr r e).2
 ⟨h.ho.abide hB hg hr, h.p.abide hg hr', by obtain ⟨mv, h1, h2⟩ := h.m; exact ⟨mv, h1.abide hg hr', own_abide h2 hg hr'⟩, h.ok⟩
structure FitX (w : World) (Z : Nat) (l : List Ey) (rs : List (List UInt8)) (pre : List Oq) (W : World) : Prop where
 ho : Only [] w W
 z : Cells W Z 4 [.bool false]
 no : pre.all (okP l rs) = false
theorem FitX.own (w : World) (Z : Nat) (l : List Ey) (rs : List (List UInt8)) (B : Nat) (hB : w.heap.size ≤ B) : OwnFrom B (FitX w Z l rs) := fun s W W' row h hg hr =>
 ⟨h.ho.abide hB hg hr, h.z.abide hg (fun r e => (hr r e).2), h.no⟩
theorem info_mark23 : (Tryz.prog.info? 169).map (fun i => (i.zero, i.size, i.bytes)) = some (some (.agg #[.int .i64 0, .bool false, .int .i64 0]), 3, 24) := by kernel_rfl
theorem fndQ_rng (d r : List UInt8) : ∀ (l : List Ey) (rs : List (List UInt8)) (n : Nat), fndQ d r l rs n = -1 ∨ ∃ (j : Nat) (y : List UInt8), fndQ d r l rs n = ((n + j : Nat) : Int) ∧ rs[j]? = some y := by
 intro l
 induction l with
 | nil => intro rs n; exact .inl rfl
 | cons x l ih =>
  intro rs n
  cases rs with
  | nil => exact .inl rfl
  | cons y rs =>
   unfold fndQ
   split
   · exact .inr ⟨0, y, rfl, rfl⟩
   · rcases ih rs (n + 1) with e | ⟨j, z, e, hz⟩
     · exact .inl e
     · exact .inr ⟨j + 1, z, by rw [e]; congr 1; omega, hz⟩
theorem plc_rng (l : List Ey) (rs : List (List UInt8)) (o : Oq) : plc l rs o = -1 ∨ ∃ (j : Nat) (y : List UInt8), plc l rs o = (j : Int) ∧ rs[j]? = some y := by
 rcases fndQ_rng o.d o.r l rs 0 with e | ⟨j, y, e, hy⟩
 · exact .inl e
 · exact .inr ⟨j, y, by rw [show plc l rs o = _ from e]; congr 1; omega, hy⟩
theorem Only.keepsFrom {S : List Nat} {W W' : World} (B : Nat) (h : Only S W W') (hS : ∀ x ∈ S, ∀ o, W.heap[x]? = some o → o.isCells = true) : KeepsFrom B W W' :=
 ⟨h.size, fun k o _ hk ho => (h.block k (Array.getElem?_eq_some_iff.1 hk).1 (fun hm => by rw [hS k hm o hk] at ho; cases ho)).trans hk⟩
theorem Only.belowN {S : List Nat} {W W' : World} {n : Nat} (h : Only S W W') (hn : n ≤ W.heap.size) (hS : ∀ x ∈ S, n ≤ x) : Below n W W' :=
 ⟨h.os, h.tape, h.output, h.size, fun k hk => h.block k (by omega) (fun hm => by have := hS k hm; omega)⟩
theorem Cells.isC {W : World} {b : Nat} {t : TypeId} {cs : List Value} (h : Cells W b t cs) : ∀ o, W.heap[b]? = some o → o.isCells = true := fun o ho => by
 have h2 : W.heap[b]? = _ := h
 rw [h2] at ho
 cases ho
 rfl
theorem own_isC {W : World} {B : Nat} {e : TypeId} {sz n : Nat} {v : Value} {xs : List Value} (h : W.ownsRow B e sz v n xs) : ∀ x ∈ rb v, ∀ o, W.heap[x]? = some o → o.isCells = true := fun x hx o ho => by
 rcases h.2 with ⟨rfl, _⟩ | ⟨g, cap, cur, rfl, _, hc, _⟩
 · simp [rb, Value.ownBlock] at hx
 · have hxg : x = g := by simpa [rb, Value.ownBlock, eq_comm] using hx
   subst hxg
   rw [hc] at ho
   cases ho
   rfl
theorem own_some {W : World} {B : Nat} {e : TypeId} {sz n : Nat} {v : Value} {xs : List Value} (h : W.ownsRow B e sz v n xs) (hn : 0 < n) : ∃ g c, v = .slice (some ⟨g, 0, none⟩) n c := by
 rcases h.2 with ⟨_, h⟩ | ⟨g, c, _, h, _⟩
 · omega
 · exact ⟨g, c, h⟩
theorem mkS_at {w : World} {B n : Nat} {v : Value} {f : Nat → Mk} (h : SlAt w B v 3 n (mkF f n)) {k : Nat} (hk : k < n) :
 ∃ b o c, v = .slice (some ⟨b, o, none⟩) n c ∧ w.cell? ⟨b, o + k * 3, none⟩ = some (.int .i64 (f k).tm) ∧ w.cell? ⟨b, o + k * 3 + 1, none⟩ = some (.bool (f k).st) ∧ w.cell? ⟨b, o + k * 3 + 2, none⟩ = some (.int .i64 (f k).pl) := by
 obtain ⟨b, o, c, hv, _, hc⟩ := h.at_ (by omega)
 exact ⟨b, o, c, hv, hc (k * 3 + 0) _ (mkF_get f n k 0 hk (by omega)), hc (k * 3 + 1) _ (mkF_get f n k 1 hk (by omega)), hc (k * 3 + 2) _ (mkF_get f n k 2 hk (by omega))⟩
theorem sort_row (n : Nat) (hs : SortOk n) (B : Nat) (v : Value) (f : Nat → Mk) (W : World) (h : W.ownsRow B 169 3 v n (mkF f n)) :
 Calls Tryz.prog 113 #[v, .func (.func 114) #[] #[]] W fun e w' => e = .returned (.tuple #[]) ∧ Only (rb v) W w' ∧
  ∃ f', Ex 0 n f f' ∧ Srt f' 0 n ∧ SlAt w' w'.heap.size v 3 n (mkF f' n) := by
 rcases h.2 with ⟨rfl, rfl⟩ | ⟨g, cap, cur, rfl, hB, hc, h1, h2, h3, h4⟩
 · refine (sort_nil W).mono ?_
   rintro e w' ⟨rfl, rfl⟩
   exact ⟨rfl, Only.refl _ _, f, Ex.refl _ _ _, fun x y h1 h2 h3 => by omega, SlAt.of_own h⟩
 · have hl := mkF_length f n
   have e : cur.toList = mkF f n ++ cur.toList.drop (n * 3) := by rw [← h4, List.take_append_drop]
   obtain ⟨sp, hsp⟩ : ∃ sp, cur.toList.drop (n * 3) = sp := ⟨_, rfl⟩
   rw [hsp] at e
   have hC : MkR W g n f sp := ⟨by show W.heap[g]? = _; rw [hc, ← e]⟩
   refine (hs g cap f sp W hC).mono ?_
   rintro e' w' ⟨rfl, ho, f', hx, hs', hr⟩
   refine ⟨rfl, ho.mono (fun x hx => .inl (by simp [rb, Value.ownBlock] at hx ⊢; exact hx)), f', hx, hs', ?_⟩
   have hl' := mkF_length f' n
   have hls : (mkF f n ++ sp).length = cap * 3 := by rw [← e]; simpa using h3
   refine SlAt.of_own (base := B) (e := 169) ⟨hl', .inr ⟨g, cap, (mkF f' n ++ sp).toArray, rfl, hB, hr.c, h1, h2, ?_, ?_⟩⟩
   · rw [List.length_append] at hls
     simp only [List.size_toArray, List.length_append]
     omega
   · rw [show ((mkF f' n ++ sp).toArray).toList = mkF f' n ++ sp from rfl, ← hl', List.take_left]
theorem hi_fits (v lv : Value) (l : List Ey) (os : List Oq) (w : World) (hs : SlAt w w.heap.size v 4 l.length (eyL l)) (hk : EyOk l) (ho : SlAt w w.heap.size lv 5 os.length (oqL os)) (hn : os.length ≤ 60)
 (hsort : SortOk (2 * (os.filter cntO).length)) :
 Calls Tryz.prog 54 #[v, lv] w fun e w' => e = .returned (.bool (fitP l (repE AgS.new l) os)) ∧ Only [] w w' := by
 refine (callsIn_wide (n := 9)).1 ?_
 obtain ⟨i0, hi0, hz0, hz1, hz2⟩ := info_parts info_mark23
 obtain ⟨LA, lc, rfl⟩ := hs.shape
 obtain ⟨OA, oc, rfl⟩ := ho.shape
 have HS := Hd hs
 have HOS := Hd ho
 have HSORT := Hd hsort
 have CR := Hd (fun w' (ho : Only [] w w') => (callsIn_wide (n := 8)).2 (hi_replies (.slice LA l.length lc) l w' ((hs.only ho (Nat.le_refl _) (by simp)).more ho.size) hk))
 have hkn := hk.n
 have hrl := repE_length l AgS.new
 obtain ⟨rs, hrs⟩ : ∃ r, repE AgS.new l = r := ⟨_, rfl⟩
 rw [hrs] at CR hrl ⊢
 clear hs ho hsort hk hrs
 refine callsIn_of_wp_marks Tryz.func54 rfl trivial ?_ rfl
 simp only [Tryz.ntmps54, List.size_toArray, List.length_cons, List.length_nil, Nat.reduceAdd, Nat.reduceSub, Array.replicate_succ, Array.replicate_zero, List.push_toArray, List.append_toArray, List.nil_append, List.cons_append]
 gi_wp2
 obtain ⟨wA, hwA⟩ : ∃ u, (w.alloc (.cells #[.slice LA l.length lc] 67)).alloc (.cells #[.bool false] 4) = u := ⟨_, rfl⟩
 have HOA : Hid (Only [] w wA) := Hd (hwA ▸ (oz.alloc _).alloc _)
 have HRA : Hid (Cells wA w.heap.size 67 [.slice LA l.length lc]) := Hd (hwA ▸ (Cells.new w _ [_]).alloc _)
 have HZA : Hid (Cells wA (w.heap.size + 1) 4 [.bool false]) := Hd (by
  have := Cells.new (w.alloc (.cells #[.slice LA l.length lc] 67)) 4 [.bool false]
  rw [World.size_alloc] at this
  rw [← hwA]
  exact this)
 obtain ⟨R, hR⟩ : ∃ z, w.heap.size = z := ⟨_, rfl⟩
 have hRs : w.heap.size ≤ R := by omega
 rw [hwA]
 rw [hR] at HRA HZA ⊢
 refine ⟨trivial, ?_⟩
 refine (CR.out wA HOA.out).mono ?_
 rintro e w2 ⟨rv, rfl, hrv, ho2⟩
 have HRV := Hd (SlAt.of_own hrv)
 obtain ⟨RA, rc, rfl⟩ := (SlAt.of_own hrv).shape
 have HO2 := Hd (HOA.out.tr ho2)
 have HR2 := Hd (HRA.out.only ho2 (by simp))
 have HZ2 := Hd (HZA.out.only ho2 (by simp))
 clear hrv ho2 hwA HOA HRA HZA CR
 gi_wp2
 refine ⟨trivial, ?_⟩
 refine (hi_ended _ _ _ _ _).mono ?_
 rintro e w' ⟨rfl, rfl⟩
 obtain ⟨P, hP⟩ : ∃ z, w2.heap.size = z := ⟨_, rfl⟩
 have hPs : w2.heap.size ≤ P := by omega
 obtain ⟨w3, hw3⟩ : ∃ u, ((w2.alloc (.cells #[.slice RA l.length rc] 42)).alloc (.cells #[.slice none 0 0] 164)).alloc (.cells #[.slice OA os.length oc] 84) = u := ⟨_, rfl⟩
 have hE : ((w2.alloc (.cells #[.slice RA l.length rc] 42)).alloc (.cells #[.slice none 0 0] 164)).heap.size = P + 2 := by rw [World.size_alloc, World.size_alloc, hP]
 rw [hE, hw3, hP]
 gi_wp2
 have HO3 : Hid (Only [] w2 w3) := Hd (hw3 ▸ ((oz.alloc _).alloc _).alloc _)
 have HP3 : Hid (Cells w3 P 42 [.slice RA l.length rc]) := Hd (hw3 ▸ hP ▸ ((Cells.new w2 _ [_]).alloc _).alloc _)
 have HM3 : Hid (Cells w3 (P + 1) 164 [.slice none 0 0]) := Hd (by
  have := (Cells.new (w2.alloc (.cells #[.slice RA l.length rc] 42)) 164 [.slice none 0 0]).alloc (.cells #[.slice OA os.length oc] 84)
  rw [World.size_alloc, hP] at this
  rw [← hw3]
  exact this)
 have HE3 : Hid (w3.cell? ⟨P + 2, 0, none⟩ = some (.slice OA os.length oc)) := Hd (by
  have := (Cells.new ((w2.alloc (.cells #[.slice RA l.length rc] 42)).alloc (.cells #[.slice none 0 0] 164)) 84 [.slice OA os.length oc]).cell (k := 0) rfl
  rw [World.size_alloc, World.size_alloc, hP] at this
  rw [← hw3]
  exact this)
 have hs3 : w3.heap.size = P + 3 := by rw [← hw3, World.size_alloc, World.size_alloc, World.size_alloc, hP]
 have hP2 : w2.heap.size = P := hP
 have hR2 : R + 2 ≤ w2.heap.size := HZ2.out.lt
 clear hE hw3 hPs hP
 refine wpIn_rangeFunc_ownH rfl (by omega) (gf := 188) (lb := #[.pointer (some ⟨P + 2, 0, none⟩)]) rfl trivial (enters_of Tryz.func188 (by kernel_rfl) rfl)
  (ended_stops 5 (P + 2) R _ os (by omega) w3 (by omega) (by omega) HE3.out (hR ▸ HOS.out.only (HO2.out.tr HO3.out) (Nat.le_refl _) (by simp)))
  belowK_t (belowK_b (by omega)) (Below.refl _ _) (fun _ => rfl)
  (FitI w2 P (P + 1) (.slice RA l.length rc) l rs) (fun c pre W => c = .ret ∧ FitX w (R + 1) l rs pre W)
  (FitI.own _ _ _ _ _ _ _ (by omega)) (fun c s W W' row h hg hr => ⟨h.1, FitX.own w (R + 1) l rs w3.heap.size (by omega) s W W' row h.2 hg hr⟩)
  ⟨HO3.out, HP3.out, ⟨_, HM3.out, World.ownsRow_nil _ _ _ _⟩, rfl⟩
  (fun x a' W => ∃ b, a' = { tmps := #[.slice LA l.length lc, .slice OA os.length oc, .pointer (some ⟨R, 0, none⟩), undef, .pointer (some ⟨R + 1, 0, none⟩), .pointer (some ⟨P, 0, none⟩), .pointer (some ⟨P + 1, 0, none⟩), .pointer (some ⟨b, 0, none⟩), undef, undef, undef, undef, .slice LA l.length lc, .slice RA l.length rc, .slice OA os.length oc, .func (.func 188) #[] #[.pointer (some ⟨P + 2, 0, none⟩)], ov x, undef, undef, undef, undef, undef, undef, undef, undef, undef, undef, undef, undef, undef, undef, undef, undef, undef, undef, undef, undef, undef, undef, undef, undef, undef, undef, undef, undef, undef, undef, undef, undef, undef, undef, undef, undef, undef, undef, undef, undef, undef, undef, undef, undef, undef, undef, undef, undef, undef, undef], defers := [] } ∧ Cells W b 88 x.cells)
  (fun x a' s W W' row h hg hr => by obtain ⟨b, e, h⟩ := h; exact ⟨b, e, h.abide hg (fun r e => (hr r e).2)⟩) ?assign ?body ?done ?stop
 case assign =>
  intro l' pre x W K hi hK
  gi_wp2
  exact hK _ _ (KeepsFrom.of_grownBy (World.grownBy_alloc W _ none) (fun j h => by cases h)) ((Below.refl _ W).alloc (by have := hi.ho.size; omega) _) ((FitI.own w2 P (P + 1) (.slice RA l.length rc) l rs w3.heap.size (by omega)).alloc _ hi) ⟨W.heap.size, rfl, Cells.new W _ _⟩
 case body =>
  rintro l' pre x a' W - - hi ⟨b, rfl, hb⟩ hlen
  have HRW := HR2.out.only hi.ho (by simp)
  have r0 := HRW.cell (k := 0) rfl
  have r1 := hi.p.cell (k := 0) rfl
  have r2 : W.cell? ⟨b, 0, none⟩ = some (.int .i64 x.cl) := hb.cell (k := 0) rfl
  have r3 : W.cell? ⟨b, 1, none⟩ = some (.string ⟨x.d.toArray⟩) := hb.cell (k := 1) rfl
  have r4 : W.cell? ⟨b, 2, none⟩ = some (.string ⟨x.r.toArray⟩) := hb.cell (k := 2) rfl
  have r5 : W.cell? ⟨b, 3, none⟩ = some (.int .i64 x.st) := hb.cell (k := 3) rfl
  have r6 : W.cell? ⟨b, 4, none⟩ = some (.int .i64 x.en) := hb.cell (k := 4) rfl
  have HI := Hd hi
  have HB := Hd hb
  clear hi hb HRW
  have hxd := x.hd
  have CF := CallsIn.inRound l' ((callsIn_wide (n := 6)).2 (hi_find (.slice LA l.length lc) (.slice RA l.length rc) l rs x W
   ((HS.out.only (HO2.out.tr HI.out.ho) (Nat.le_refl _) (by simp)).more (HO2.out.tr HI.out.ho).size) (hrl ▸ ((HRV.out.only HI.out.ho (Nat.le_refl _) (by simp)).more HI.out.ho.size)) hrl hkn x.hd))
  gi_wp2
  refine ⟨trivial, ?_⟩
  refine CF.mono ?_
  rintro e W1 ⟨rfl, ho1⟩
  clear CF r0 r1 r2 r3 r4 r5 r6
  have HI1 := Hd (FitI.own w2 P (P + 1) (.slice RA l.length rc) l rs w3.heap.size (by omega) pre W W1 none HI.out ho1.grown0 (fun r h => by cases h))
  have hb1 := HB.out.only ho1 (by simp)
  have HO1 := Hd ho1
  have q0 := HI1.out.p.cell (k := 0) rfl
  have q2 : W1.cell? ⟨b, 2, none⟩ = some (.string ⟨x.r.toArray⟩) := hb1.cell (k := 2) rfl
  have q3 : W1.cell? ⟨b, 3, none⟩ = some (.int .i64 x.st) := hb1.cell (k := 3) rfl
  have q4 : W1.cell? ⟨b, 4, none⟩ = some (.int .i64 x.en) := hb1.cell (k := 4) rfl
  rw [show fndQ x.d x.r l rs 0 = plc l rs x from rfl]
  have HOK : Hid (okP l rs x = (decide (0 ≤ plc l rs x) && decide (rs[(plc l rs x).toNat]? = some x.r))) := Hd rfl
  have HZW := Hd ((HZ2.out.only HI1.out.ho (by simp)))
  obtain ⟨mv, hm0, hrow0⟩ := HI.out.m
  have HM0 := Hd hm0
  have HROW0 := Hd hrow0
  have HM := Hd (hm0.only ho1 (by simp))
  have HROW := Hd (own_keep hrow0 ho1 (by simp))
  obtain ⟨MA, mc, rfl⟩ := (SlAt.of_own hrow0).shape
  have HRET : Hid (∀ nq, okP l rs x = false → (KeepsFrom w3.heap.size W ((W1.drewN nq).setCell ⟨R + 1, 0, none⟩ (.bool false)) ∧ Code.ret = Code.ret ∧ FitX w (R + 1) l rs (pre ++ [x]) ((W1.drewN nq).setCell ⟨R + 1, 0, none⟩ (.bool false)))) := Hd (fun nq hno => by
   have hoW : Only [R + 1] W ((W1.drewN nq).setCell ⟨R + 1, 0, none⟩ (.bool false)) := ((HO1.out.of0).drewN nq).setCell (.inl (by simp)) _
   refine ⟨hoW.keepsFrom _ (fun x hx => ?_), rfl, (HO2.out.tr HI.out.ho).trans hoW (fun x hx => .inr ?_), (HZW.out.drewN nq).set 0 _, by rw [List.all_append]; simp [hno]⟩
   · simp at hx
     subst hx
     exact (HZ2.out.only HI.out.ho (by simp)).isC
   · simp at hx
     omega)
  clear hm0 hrow0 ho1
  rcases plc_rng l rs x with hp | ⟨j, y, hp, hy⟩
  · rw [hp] at HOK ⊢
    have HNO : Hid (okP l rs x = false) := Hd (by rw [HOK.out]; rfl)
    have z0 := HZW.out.cell (k := 0) rfl
    have zf := HZW.out.frozen 0
    gi_wp2
    refine wpIn_region_quietR (by kernel_rfl) (by kernel_rfl) (by kernel_rfl) ?_
    repeat (gi_big_quiet_step (fail))
    refine wpQuietIn_nil ?_
    rintro _ ⟨nq, rfl⟩
    gi_wp2
    exact ⟨(HRET.out _ HNO.out).1, rfl, (HRET.out _ HNO.out).2.2⟩
  · have hjn : j < l.length := by have := (List.getElem?_eq_some_iff.1 hy).1; omega
    have hji : (j : Int) < (l.length : Int) := by omega
    obtain ⟨b2, o2, c2, hv2, s0⟩ := svs_at23 (hrl ▸ (HRV.out.only HI1.out.ho (Nat.le_refl _) (by simp))) hy
    injection hv2 with e1 e2 e3
    subst e1
    clear e2 e3
    have hj0 : decide ((j : Int) < 0) = false := by simp
    rw [hp] at HOK ⊢
    by_cases hyr : y = x.r
    · have hb : (y == x.r) = true := by simp [hyr]
      have HYES : Hid (okP l rs x = true) := Hd (by rw [HOK.out]; simp [hy, hyr])
      have m0 := HM.out.cell (k := 0) rfl
      have mf := HM.out.frozen 0
      have hple := Nat.le_trans HI1.out.ho.size (Nat.le_refl _)
      have hpl : pre.length < 60 := by omega
      have HNE := Hd (own_ne_block HROW.out HM.out (by decide))
      clear HRET HZW
      gi_wp2
      refine wpIn_region_quietR (by kernel_rfl) (by kernel_rfl) (by kernel_rfl) ?_
      repeat (gi_big_quiet_step (fail))
      refine wpQuietIn_nil ?_
      rintro _ ⟨nq, rfl⟩
      have HNEWS : Hid (∀ j' u, ([.int .i64 x.st, .bool true, .int .i64 (j : Int), .int .i64 x.en, .bool false, .int .i64 (j : Int)] : List Value)[j']? = some u → ((W1.drewN nq).alloc (.cells #[.int .i64 x.st, .bool true, .int .i64 (j : Int), .int .i64 x.en, .bool false, .int .i64 (j : Int)] 169)).cell? ((⟨W1.heap.size, 0, none⟩ : Addr).add j') = some u) := Hd (fun j' u h => by
       have := (Cells.new (W1.drewN nq) 169 [.int .i64 x.st, .bool true, .int .i64 (j : Int), .int .i64 x.en, .bool false, .int .i64 (j : Int)]).cell h
       rw [Addr.add_lit, Nat.zero_add]
       exact this)
      have HOWN5 : Hid (((W1.drewN nq).alloc (.cells #[.int .i64 x.st, .bool true, .int .i64 (j : Int), .int .i64 x.en, .bool false, .int .i64 (j : Int)] 169)).ownsRow w2.heap.size 169 3 (.slice MA (2 * pre.length) mc) (2 * pre.length) (mkF (mkO l rs pre) (2 * pre.length))) := Hd (own_keep HROW.out (((Only.refl [] W1).drewN nq).alloc _) (by simp))
      have hb5 : w2.heap.size ≤ ((W1.drewN nq).alloc (.cells #[.int .i64 x.st, .bool true, .int .i64 (j : Int), .int .i64 x.en, .bool false, .int .i64 (j : Int)] 169)).heap.size := by rw [World.size_alloc]; exact Nat.le_succ_of_le hple
      have hb3 : 2 * pre.length + 2 ≤ maxLen := by unfold maxLen; omega
      have hone : ∀ u ∈ ([.int .i64 x.st, .bool true, .int .i64 (j : Int), .int .i64 x.en, .bool false, .int .i64 (j : Int)] : List Value), u.oneCell' = true := by simp [Value.oneCell']
      gi_wp2_with (gi_at_builtin; refine wpListIn_append_own _ rfl _ _ 164 rfl w2.heap.size 169 i0 _ 3 24 Tryz.underlying164 hi0 hz0 hz1 hz2 rfl (by decide) _ _ _ rfl HOWN5.out ⟨W1.heap.size, 0, none⟩ 2 2 [.int .i64 x.st, .bool true, .int .i64 (j : Int), .int .i64 x.en, .bool false, .int .i64 (j : Int)] rfl rfl HNEWS.out hone hb3 (by omega) hb5 ?_; intro v' w6 hown' hgrow _; obtain ⟨g6, c6, rfl⟩ : ∃ g c, v' = .slice (some ⟨g, 0, none⟩) (2 * pre.length + 2) c := own_some hown' (by omega); have M6 := Hd (((HM.out.drewN nq).alloc _).grown hgrow HNE.out); have m6 := M6.out.cell (k := 0) rfl; have f6 := M6.out.frozen 0)
      have hoW : Only ((P + 1) :: rb (.slice MA (2 * pre.length) mc)) W (w6.setCell ⟨P + 1, 0, none⟩ (.slice (some ⟨g6, 0, none⟩) (2 * pre.length + 2) c6)) := ((((HO1.out.of0.drewN nq).alloc _).grown hgrow (fun g e => .inl (List.mem_cons_of_mem _ (by have e2 : (Value.slice MA (2 * pre.length) mc).ownBlock = some g := e; unfold rb; rw [e2]; simp))))).setCell (.inl (by simp)) _
      have hlo : ∀ x ∈ (P + 1) :: rb (.slice MA (2 * pre.length) mc), w2.heap.size ≤ x := fun x hx => by
       rcases List.mem_cons.1 hx with rfl | hx
       · omega
       · exact (HROW.out.lt x (by simpa [rb] using hx)).1
      have hWs := HI.out.ho.size
      refine ⟨hoW.keepsFrom _ (fun x hx => ?_), hoW.belowN (by omega) (fun x hx => by have := hlo x hx; omega), HI.out.ho.trans hoW (fun x hx => .inr (hlo x hx)), HI.out.p.only hoW (fun hm => ?_), ⟨_, M6.out.set 0 _, ?_⟩, by rw [List.all_append, HI.out.ok]; simp [HYES.out]⟩
      · rcases List.mem_cons.1 hx with rfl | hx
        · exact HM0.out.isC
        · exact own_isC HROW0.out x hx
      · rcases List.mem_cons.1 hm with e | hm
        · omega
        · exact own_ne_block HROW0.out HI.out.p (by decide) (by simpa [rb] using hm)
      · have hsn := mkO_snoc l rs pre x
        rw [hp] at hsn
        rw [List.length_append, List.length_singleton, hsn]
        exact own_keep hown' ((Only.refl [P + 1] w6).setCell (.inl (by simp)) _) (fun b hb => by simp at hb; subst hb; exact own_ne_block hown' M6.out (by decide))
    · have hb : (y == x.r) = false := by simp [hyr]
      have HNO : Hid (okP l rs x = false) := Hd (by rw [HOK.out]; simp [hy, hyr])
      have z0 := HZW.out.cell (k := 0) rfl
      have zf := HZW.out.frozen 0
      gi_wp2
      refine wpIn_region_quietR (by kernel_rfl) (by kernel_rfl) (by kernel_rfl) ?_
      repeat (gi_big_quiet_step (fail))
      refine wpQuietIn_nil ?_
      rintro _ ⟨nq, rfl⟩
      gi_wp2
      exact ⟨(HRET.out _ HNO.out).1, rfl, (HRET.out _ HNO.out).2.2⟩
 case done =>
  rintro D xs W4 hD rfl hi hK
  obtain ⟨c, hc⟩ : ∃ c, os.filter cntO = c := ⟨_, rfl⟩
  rw [hc] at hi HSORT
  have HFP : Hid (fitP l rs os = prP l rs c) := Hd (by
   unfold fitP
   rw [hc, hi.ok]
   rfl)
  have hc60 : c.length ≤ 60 := by rw [← hc]; exact Nat.le_trans (List.length_filter_le _ _) hn
  obtain ⟨mv, hm, hrow⟩ := hi.m
  obtain ⟨MA, mc, rfl⟩ := (SlAt.of_own hrow).shape
  have m0 := hm.cell (k := 0) rfl
  have CS := Hd ((callsIn_wide (n := 8)).2 (sort_row _ HSORT.out _ _ _ W4 hrow))
  have HROW := Hd hrow
  have HM4 := Hd hm
  have HO4 := Hd hi.ho
  have HPL : Hid (∀ x, x < 2 * c.length → 0 ≤ (mkO l rs c x).pl) := Hd (fun x hx => by
   obtain ⟨o, ho⟩ : ∃ o, c[x / 2]? = some o := ⟨_, List.getElem?_eq_getElem (by omega)⟩
   obtain ⟨a1, a2⟩ := mkO_end l rs c _ o ho
   have hok := List.all_eq_true.1 hi.ok o (List.mem_of_getElem? ho)
   unfold okP at hok
   simp only [Bool.and_eq_true, decide_eq_true_eq] at hok
   by_cases e : x = 2 * (x / 2)
   · rw [e, a1]; exact hok.1
   · rw [show x = 2 * (x / 2) + 1 from by omega, a2]; exact hok.1)
  have HK := Hd hK
  clear hi hm hrow hK hc HSORT
  gi_wp2
  refine ⟨trivial, ?_⟩
  refine CS.out.mono ?_
  rintro e W5 ⟨rfl, ho5, f', hx5, hs5, hsl5⟩
  have HSC := Hd (okG_iff l rs c f' hx5 hs5)
  have HPF : Hid (∀ x, x < 2 * c.length → 0 ≤ (f' x).pl) := Hd (fun x hx => by
   obtain ⟨y, _, y2, y3⟩ := hx5.of_ x (by omega) hx
   rw [← y3]
   exact HPL.out y y2)
  have HSL := Hd hsl5
  have hlo5 : ∀ x ∈ rb (.slice MA (2 * c.length) mc), w2.heap.size ≤ x := fun x hx => (HROW.out.lt x (by simpa [rb] using hx)).1
  have HO5 : Hid (Only [] w2 W5) := Hd (HO4.out.trans ho5 (fun x hx => .inr (hlo5 x hx)))
  have HK5 : Hid (W5.heap[D]? = some (.deferred (some []))) := Hd ((ho5.block D (Array.getElem?_eq_some_iff.1 HK.out).1 (fun hm => by
   have := own_isC HROW.out D hm _ HK.out
   cases this)).trans HK.out)
  have HM5 := Hd (HM4.out.only ho5 (fun hm => own_ne_block HROW.out HM4.out (by decide) (by simpa [rb] using hm)))
  have m5 := HM5.out.cell (k := 0) rfl
  obtain ⟨n, hnn⟩ : ∃ n, 2 * c.length = n := ⟨_, rfl⟩
  have hn120 : n ≤ 120 := by omega
  rw [hnn] at HSC HPF HSL m5 ⊢
  clear HM4 HM5 ho5 hx5 hs5 hsl5 hlo5 CS HROW HO4 HPL HK m0
  gi_wp2
  gi_loopw [9, 47] (fun G i wr => ∃ (k : Nat) (gr : Int), k ≤ n ∧ G = .int .i64 gr ∧ i = .int .i64 k ∧ Hid (Sc f' k gr) ∧ Hid (Only [] W5 wr)) (fun _ i _ => n - (intOf i).toNat)
  case atStart => exact ⟨0, -1, by omega, rfl, rfl, Hd (Sc.start f'), Hd oz⟩
  case round =>
   obtain ⟨k, gr, hk, rfl, rfl, HS, HO⟩ := hrel
   obtain ⟨wq, rfl⟩ : ∃ wq, wq = wr := ⟨_, rfl⟩
   have HZ := Hd ((HZ2.out.only (HO5.out.tr HO.out) (by simp)))
   have HKD : Hid (wq.heap[D]? = some (.deferred (some []))) := Hd ((HO.out.block D (Array.getElem?_eq_some_iff.1 HK5.out).1 (by simp)).trans HK5.out)
   by_cases hlt : k < n
   · have hlt' : (k : Int) < (n : Int) := by omega
     obtain ⟨b3, o3, c3, hv3, q0, q1, q2⟩ := mkS_at (HSL.out.only HO.out (Nat.le_refl _) (by simp)) hlt
     injection hv3 with e1 e2 e3
     subst e1; subst e3
     clear e2
     have HP0 := Hd (HPF.out k hlt)
     obtain ⟨fk, hfk⟩ : ∃ x, f' k = x := ⟨_, rfl⟩
     obtain ⟨tm, st, pl⟩ := fk
     rw [hfk] at q0 q1 q2 HP0
     have HFK := Hd hfk
     dsimp only at q0 q1 q2
     clear hfk
     cases st with
     | true =>
      by_cases hle : pl ≤ gr
      · have HZ6 := Hd (HZ.out.alloc (.cells #[.int .i64 tm, .bool true, .int .i64 pl] 169))
        have z0 := HZ6.out.cell (k := 0) rfl
        have zf := HZ6.out.frozen 0
        have HRES : Hid (fitP l rs os = false) := Hd (by
         have h1 := HS.out.not_ hlt (by rw [HFK.out]) (by rw [HFK.out]; exact hle) (by rw [HFK.out]; exact HP0.out)
         rw [HSC.out] at h1
         rw [HFP.out]
         simpa using h1)
        have HDN := Hd (Array.getElem?_eq_some_iff.1 HKD.out).1
        have HDR : Hid (D ≠ R + 1) := Hd (fun e => by omega)
        gi_wp2
        have HZX := Hd (HZ6.out.set 0 (.bool false))
        have HKX : Hid (((wq.alloc (.cells #[.int .i64 tm, .bool true, .int .i64 pl] 169)).setCell ⟨R + 1, 0, none⟩ (.bool false)).heap[D]? = some (.deferred (some []))) := Hd ((Below.heap_setCell _ _ _ D HDR.out).trans ((Below.heap_alloc wq _ D HDN.out).trans HKD.out))
        have HOX : Hid (Only [] w ((wq.alloc (.cells #[.int .i64 tm, .bool true, .int .i64 pl] 169)).setCell ⟨R + 1, 0, none⟩ (.bool false))) := Hd (((HO2.out.tr (HO5.out.tr HO.out)).alloc _).setCell (.inr (by show w.heap.size ≤ R + 1; omega)) _)
        refine ⟨by simp, .inl ⟨_, _, rfl, run_takeDeferred HKX.out, ?_⟩⟩
        have hc5 := ((HZX.out.abide (grownBy_putObj' _ D (.deferred none)) (fun r e => by cases e; exact ⟨_, HKX.out, rfl⟩)).cell (k := 0) rfl)
        refine ⟨.bool false, ?_, by rw [HRES.out], Only.of_below (HOX.out.below.trans (belowK_b (w := w) (Nat.le_refl _) _ D _ _ (by omega) HKX.out rfl rfl))⟩
        simp [results, Tryz.f54, go_sem, hc5]
      · have hle' : decide (pl ≤ gr) = false := by simpa using hle
        have HSN := Hd (HS.out.more (by rw [HFK.out]) (by rw [HFK.out]; exact hle))
        gi_wp2
        go_roundw
        case rel => exact ⟨k + 1, gr, by omega, rfl, by go_num, HSN, Hd (HO.out.alloc _)⟩
        case measure => (try simp [intOf]) <;> omega
     | false =>
      have HSN := Hd (HS.out.less (by rw [HFK.out]))
      rw [HFK.out] at HSN
      gi_wp2
      go_roundw
      case rel => exact ⟨k + 1, max gr pl, by omega, by go_num, by go_num, HSN, Hd (HO.out.alloc _)⟩
      case measure => (try simp [intOf]) <;> omega
   · have hdd : decide ((k : Int) < (n : Int)) = false := by simp; omega
     obtain rfl : k = n := by omega
     have z0 := HZ.out.cell (k := 0) rfl
     have zf := HZ.out.frozen 0
     have HRES : Hid (fitP l rs os = true) := Hd (by
      rw [HFP.out]
      exact HSC.out.1 HS.out.ok)
     have HDR : Hid (D ≠ R + 1) := Hd (fun e => by omega)
     gi_wp2
     have HZX := Hd (HZ.out.set 0 (.bool true))
     have HKX : Hid ((wq.setCell ⟨R + 1, 0, none⟩ (.bool true)).heap[D]? = some (.deferred (some []))) := Hd ((Below.heap_setCell _ _ _ D HDR.out).trans HKD.out)
     have HOX : Hid (Only [] w (wq.setCell ⟨R + 1, 0, none⟩ (.bool true))) := Hd ((HO2.out.tr (HO5.out.tr HO.out)).setCell (.inr (by show w.heap.size ≤ R + 1; omega)) _)
     refine ⟨by simp, .inl ⟨_, _, rfl, run_takeDeferred HKX.out, ?_⟩⟩
     have hc5 := ((HZX.out.abide (grownBy_putObj' _ D (.deferred none)) (fun r e => by cases e; exact ⟨_, HKX.out, rfl⟩)).cell (k := 0) rfl)
     refine ⟨.bool true, ?_, by rw [HRES.out], Only.of_below (HOX.out.below.trans (belowK_b (w := w) (Nat.le_refl _) _ D _ _ (by omega) HKX.out rfl rfl))⟩
     simp [results, Tryz.f54, go_sem, hc5]
 case stop =>
  rintro D c pre W hD hpre ⟨rfl, hx⟩ hK
  have hF : fitP l rs os = false := by
   unfold fitP
   have : (os.filter cntO).all (okP l rs) = false := by
    have h1 := hx.no
    rw [List.all_eq_false] at h1 ⊢
    obtain ⟨o, hm, ho⟩ := h1
    exact ⟨o, hpre.subset hm, ho⟩
   rw [this]
   rfl
  have hc5 := ((hx.z.abide (grownBy_putObj' W D (.deferred none)) (fun r e => by cases e; exact ⟨_, hK, rfl⟩)).cell (k := 0) rfl)
  gi_wp2
  refine ⟨by simp, .inl ⟨_, _, rfl, run_takeDeferred hK, ?_⟩⟩
  refine ⟨.bool false, ?_, by rw [hF], Only.of_below (hx.ho.below.trans (belowK_b (w := w) (Nat.le_refl _) W D _ _ (by omega) hK rfl rfl))⟩
  simp [results, Tryz.f54, go_sem, hc5]
end Go.Proofs.YtcjfmildalappaaGreat
namespace Go.Proofs.YtcjfmildalappaaGreat
open Go.RowKit
def cm23 : Cm := ⟨1, 0, 0, 0, 0, 0, 0, [], [], [], false⟩
def c23 : C19 := { c := cm23, iv := .slice none 0 0 }
def rpA : Rp := ⟨0, 1, []⟩
def rpB : Rp := ⟨0, 2, []⟩
def oqA : Oq := ⟨0, pkS cm23, rpb rpA, 1, 2, by decide +kernel, by decide +kernel⟩
def oqB : Oq := ⟨0, pkS cm23, rpb rpB, 1, 2, by decide +kernel, by decide +kernel⟩
def oqC : Oq := ⟨0, [], [], 0, -1, by decide, by decide⟩
theorem fitA : fitP (rowE [c23]) (repE AgS.new (rowE [c23])) [oqA] = true := by decide +kernel
theorem fitB : fitP (rowE [c23]) (repE AgS.new (rowE [c23])) [oqB] = false := by decide +kernel
theorem fitC : fitP [] (repE AgS.new []) [oqC] = true := by decide +kernel
theorem stNil : (agB (runE AgS.new [])).isEmpty = false := by decide +kernel
theorem slat_op (w : World) (o : Oq) : SlAt (w.alloc (.cells o.cells.toArray 88)) (w.alloc (.cells o.cells.toArray 88)).heap.size (.slice (some ⟨w.heap.size, 0, none⟩) 1 1) 5 [o].length (oqL [o]) := by
 have e : oqL [o] = o.cells := by unfold oqL; simp
 rw [e]
 exact ⟨rfl, some ⟨w.heap.size, 0, none⟩, 1, rfl, Nat.le_refl _, by decide, fun _ => ⟨w.heap.size, 0, rfl, by simp, fun j u h => by rw [Nat.zero_add]; exact (Cells.new w 88 o.cells).cell h⟩⟩
theorem rpat_nil (w : World) (r : Rp) (h : r.ps = []) (h1 : Wide64 r.er) (h2 : Wide64 r.n) : RpAt w (.slice none 0 0) r := ⟨by rw [h]; exact SlAt.of_own (World.ownsRow_nil w 0 101 5), h1, h2, by rw [h]; simp, by rw [h]; simp⟩
theorem shown23 (w : World) : Calls Tryz.prog 41 #[] w fun e w' => e = .returned (.bool true) ∧ Only [] w w' := by
 have o0 : Only [] w (w.alloc (.cells #[.int .i64 1, .int .i64 0, .int .i64 0, .int .i64 0, .int .i64 0, .int .i64 0, .int .i64 0, .string ⟨#[]⟩, .string ⟨#[]⟩, .slice none 0 0, .bool false] 38)) := oz.alloc _
 have CROW : Hid (Calls Tryz.prog 43 #[.slice (some ⟨w.heap.size, 0, none⟩) 1 1] (w.alloc (.cells #[.int .i64 1, .int .i64 0, .int .i64 0, .int .i64 0, .int .i64 0, .int .i64 0, .int .i64 0, .string ⟨#[]⟩, .string ⟨#[]⟩, .slice none 0 0, .bool false] 38)) fun e w' => ∃ rv, e = .returned rv ∧ w'.ownsRow (w.alloc (.cells #[.int .i64 1, .int .i64 0, .int .i64 0, .int .i64 0, .int .i64 0, .int .i64 0, .int .i64 0, .string ⟨#[]⟩, .string ⟨#[]⟩, .slice none 0 0, .bool false] 38)).heap.size 72 4 rv [c23].length (eyL (rowE [c23])) ∧ Only [] (w.alloc (.cells #[.int .i64 1, .int .i64 0, .int .i64 0, .int .i64 0, .int .i64 0, .int .i64 0, .int .i64 0, .string ⟨#[]⟩, .string ⟨#[]⟩, .slice none 0 0, .bool false] 38)) w') := Hd
  (row23 _ [c23] _ (slat_one w c23) (fun a ha => by
   simp at ha
   subst ha
   exact ⟨SlAt.of_own (World.ownsRow_nil _ 0 99 3), (fun x hx => by cases hx), by decide +kernel, by decide +kernel, small_nums (by decide)⟩) (fun a ha => by
   simp at ha
   subst ha
   exact ⟨by decide, by decide, by decide, fun x hx => by cases hx⟩) (by decide))
 have CA1 := Hd (fun w' => ref18_answer rpA (.slice none 0 0) w' (rpat_nil w' rpA rfl ⟨by decide, by decide⟩ ⟨by decide, by decide⟩))
 have CA2 := Hd (fun w' => ref18_answer rpB (.slice none 0 0) w' (rpat_nil w' rpB rfl ⟨by decide, by decide⟩ ⟨by decide, by decide⟩))
 have HOK : Hid (EyOk (rowE [c23])) := Hd (rowE_ok (by decide))
 have HO0 := Hd o0
 obtain ⟨l0, hl0⟩ : ∃ l, rowE [c23] = l := ⟨_, rfl⟩
 have hlen : l0.length = 1 := by rw [← hl0]; rfl
 have hg0 : l0[0]? = some ⟨1, 1, 2, pkS cm23⟩ := by rw [← hl0, rowE_get [c23] 0 c23 rfl]; unfold rowF; rw [if_pos (by decide +kernel)]; rfl
 rw [hl0] at CROW HOK
 have FA := fitA
 have FB := fitB
 rw [hl0] at FA FB
 have HFA := Hd FA
 have HFB := Hd FB
 obtain ⟨ra, hra⟩ : ∃ r, rpb rpA = r := ⟨_, rfl⟩
 obtain ⟨rb', hrb⟩ : ∃ r, rpb rpB = r := ⟨_, rfl⟩
 obtain ⟨pk, hpk⟩ : ∃ r, pkS cm23 = r := ⟨_, rfl⟩
 have HEA : Hid (oqA.cells = [.int .i64 0, .string ⟨pk.toArray⟩, .string ⟨ra.toArray⟩, .int .i64 1, .int .i64 2]) := Hd (by rw [← hpk, ← hra]; rfl)
 have HEB : Hid (oqB.cells = [.int .i64 0, .string ⟨pk.toArray⟩, .string ⟨rb'.toArray⟩, .int .i64 1, .int .i64 2]) := Hd (by rw [← hpk, ← hrb]; rfl)
 rw [hra] at CA1
 rw [hrb] at CA2
 rw [hpk] at hg0
 have CA1 : Hid (∀ w', Calls Tryz.prog 56 #[.agg #[.int .i64 0, .int .i64 1, .slice none 0 0]] w' fun e w2 => e = .returned (.string ⟨ra.toArray⟩) ∧ Only [] w' w2) := CA1
 have CA2 : Hid (∀ w', Calls Tryz.prog 56 #[.agg #[.int .i64 0, .int .i64 2, .slice none 0 0]] w' fun e w2 => e = .returned (.string ⟨rb'.toArray⟩) ∧ Only [] w' w2) := CA2
 clear hl0 FA FB hra hrb hpk o0
 go_enter Tryz.func41, Tryz.ntmps41
 go_wp2_with fail
 refine CROW.out.mono ?_
 rintro e w1 ⟨rv, rfl, hrv, ho1⟩
 have HO1 := Hd (HO0.out.tr ho1)
 have HRV : Hid (SlAt w1 w1.heap.size rv 4 l0.length (eyL l0)) := Hd (by have := SlAt.of_own hrv; rw [hlen]; exact this)
 obtain ⟨RA, rc, rfl⟩ := HRV.out.shape
 clear hrv ho1 CROW HO0
 obtain ⟨rb0, ro0, rc0, hv0, q0, q1, q2, q3⟩ := eyL_at HRV.out hg0
 injection hv0 with e1 e2 e3
 subst e1; subst e3
 clear e2
 have t3 := fun u : Since w1 => u.cell q3
 rw [hlen]
 go_wp2_with fail
 have HS : Hid (∀ w', Only [] w1 w' → w'.cell? ⟨rb0, ro0 + 3, none⟩ = some (.string ⟨pk.toArray⟩)) := Hd (fun w' ho => (ho.cell (p := ⟨rb0, ro0 + 3, none⟩) (World.block_lt_of_cell? w1 _ q3) (by simp)).trans q3)
 clear t3 q0 q1 q2 q3
 go_region_held3 (fun w' : World => w'.cell? ⟨rb0, ro0 + 3, none⟩ = some (.string ⟨pk.toArray⟩))
  (exact HS.out _ (by repeat (first | exact Only.refl _ _ | refine Only.drew ?_ | refine Only.alloc ?_ _ | refine Only.setCell ?_ (.inr (Nat.le_refl _)) _ | refine Only.tr ?_ (by assumption))))
  (first
   | (go_at_call 56; refine (CA1.out _).mono ?_; rintro e w2 ⟨rfl, ho2⟩; (try have hb := (Cells.new w1.drew 88 [.int .i64 0, .string ⟨#[]⟩, .string ⟨#[]⟩, .int .i64 0, .int .i64 0]).only ho2 (by simp)); (try have z0 : w2.cell? ⟨w1.heap.size, 0, none⟩ = some (.int .i64 0) := hb.cell (k := 0) rfl); (try have z1 : w2.cell? ⟨w1.heap.size, 1, none⟩ = some (.string ⟨#[]⟩) := hb.cell (k := 1) rfl); (try have z2 : w2.cell? ⟨w1.heap.size, 2, none⟩ = some (.string ⟨#[]⟩) := hb.cell (k := 2) rfl); (try have z3 : w2.cell? ⟨w1.heap.size, 3, none⟩ = some (.int .i64 0) := hb.cell (k := 3) rfl); (try have z4 : w2.cell? ⟨w1.heap.size, 4, none⟩ = some (.int .i64 0) := hb.cell (k := 4) rfl); (try have zf : ∀ k, w2.frozen? ⟨w1.heap.size, k, none⟩ = false := fun k => hb.frozen k)))
 · have HZ : Hid (Cells (w2.alloc (.cells #[.int .i64 0, .string ⟨pk.toArray⟩, .string ⟨ra.toArray⟩, .int .i64 1, .int .i64 2] 88)) w2.heap.size 88 [.int .i64 0, .string ⟨pk.toArray⟩, .string ⟨ra.toArray⟩, .int .i64 1, .int .i64 2]) := Hd (Cells.new w2 _ [_, _, _, _, _])
   have HW : Hid (Only [] w1 (w2.alloc (.cells #[.int .i64 0, .string ⟨pk.toArray⟩, .string ⟨ra.toArray⟩, .int .i64 1, .int .i64 2] 88))) := Hd ((((Only.refl [] w1).drew).tr ho2).alloc _)
   obtain ⟨z, hz⟩ : ∃ z, w2.heap.size = z := ⟨_, rfl⟩
   obtain ⟨w3, hw3⟩ : ∃ u, w2.alloc (.cells #[.int .i64 0, .string ⟨pk.toArray⟩, .string ⟨ra.toArray⟩, .int .i64 1, .int .i64 2] 88) = u := ⟨_, rfl⟩
   rw [hz, hw3] at HZ ⊢
   rw [hw3] at HW
   have HO3 := Hd (HO1.out.tr HW.out)
   clear hw3 hz ho2
   have a0 := HZ.out.cell (k := 0) rfl
   have a1 := HZ.out.cell (k := 1) rfl
   have a2 := HZ.out.cell (k := 2) rfl
   have a3 := HZ.out.cell (k := 3) rfl
   have a4 := HZ.out.cell (k := 4) rfl
   go_wp2_with fail
   refine (CA2.out _).mono ?_
   rintro e w4 ⟨rfl, ho4⟩
   clear a0 a1 a2 a3 a4
   have HB4 : Hid (Cells w4 w3.heap.size 88 [.int .i64 0, .string ⟨pk.toArray⟩, .string ⟨ra.toArray⟩, .int .i64 1, .int .i64 2]) := Hd ((Cells.new w3 88 [.int .i64 0, .string ⟨pk.toArray⟩, .string ⟨ra.toArray⟩, .int .i64 1, .int .i64 2]).only ho4 (by simp))
   have HA4 := Hd ((HZ.out.alloc (.cells #[.int .i64 0, .string ⟨pk.toArray⟩, .string ⟨ra.toArray⟩, .int .i64 1, .int .i64 2] 88)).only ho4 (by simp))
   have hzl := HZ.out.lt
   have hne : z ≠ w3.heap.size := by omega
   have O4 : Only [] w1 w4 := (HW.out.alloc (.cells #[.int .i64 0, .string ⟨pk.toArray⟩, .string ⟨ra.toArray⟩, .int .i64 1, .int .i64 2] 88)).tr ho4
   have hW3 := HW.out.size
   obtain ⟨y, hy⟩ : ∃ y, w3.heap.size = y := ⟨_, rfl⟩
   rw [hy] at HB4 hne hW3 ⊢
   have b2 := HB4.out.cell (k := 2) rfl
   have bf := HB4.out.frozen 2
   go_upto_region 5 with fail
   have HB5 : Hid (Cells (w4.setCell ⟨y, 2, none⟩ (.string ⟨rb'.toArray⟩)) y 88 [.int .i64 0, .string ⟨pk.toArray⟩, .string ⟨rb'.toArray⟩, .int .i64 1, .int .i64 2]) := Hd (HB4.out.set 2 _)
   have HA5 : Hid (Cells (w4.setCell ⟨y, 2, none⟩ (.string ⟨rb'.toArray⟩)) z 88 [.int .i64 0, .string ⟨pk.toArray⟩, .string ⟨ra.toArray⟩, .int .i64 1, .int .i64 2]) := Hd (HA4.out.far (p := ⟨y, 2, none⟩) hne _)
   have O5 : Only [] w1 (w4.setCell ⟨y, 2, none⟩ (.string ⟨rb'.toArray⟩)) := O4.setCell (.inr hW3) _
   obtain ⟨w5, hw5⟩ : ∃ u, w4.setCell ⟨y, 2, none⟩ (.string ⟨rb'.toArray⟩) = u := ⟨_, rfl⟩
   rw [hw5] at HB5 HA5 O5 ⊢
   clear hw5 b2 bf HB4 HA4 ho4 hzl hne O4 hW3 hy HZ HW HO3
   have HO5 := Hd O5
   have a0 := HA5.out.cell (k := 0) rfl
   have a1 := HA5.out.cell (k := 1) rfl
   have a2 := HA5.out.cell (k := 2) rfl
   have a3 := HA5.out.cell (k := 3) rfl
   have a4 := HA5.out.cell (k := 4) rfl
   have HFIT : Hid (∀ (w' : World) (o : Oq) (r : Bool), Only [] w1 w' → fitP l0 (repE AgS.new l0) [o] = r → Calls Tryz.prog 54 #[.slice (some ⟨rb0, ro0, none⟩) 1 rc, .slice (some ⟨w'.heap.size, 0, none⟩) 1 1] (w'.alloc (.cells o.cells.toArray 88)) fun e w2 => e = .returned (.bool r) ∧ Only [] (w'.alloc (.cells o.cells.toArray 88)) w2) := Hd (fun w' o r ho hr => by
    rw [← hr]
    have h2 := ho.alloc (.cells o.cells.toArray 88)
    exact hi_fits _ _ l0 [o] _ (hlen ▸ ((HRV.out.only h2 (Nat.le_refl _) (by simp)).more h2.size)) HOK.out (slat_op w' o) (by simp) (hi_sort_few _ (by have := List.length_filter_le cntO [o]; simp at this ⊢; omega)))
   have CF1 := HFIT.out w5 oqA true HO5.out HFA.out
   rw [HEA.out] at CF1
   go_wp2_with fail
   refine CF1.mono ?_
   rintro e w6 ⟨rfl, ho6⟩
   have O6 : Only [] w1 w6 := (HO5.out.alloc _).tr ho6
   have HO6 := Hd O6
   have HB6 := Hd ((HB5.out.alloc (.cells #[.int .i64 0, .string ⟨pk.toArray⟩, .string ⟨ra.toArray⟩, .int .i64 1, .int .i64 2] 88)).only ho6 (by simp))
   clear a0 a1 a2 a3 a4 CF1 ho6 O6 O5 HO5 HA5 HB5
   have a0 := HB6.out.cell (k := 0) rfl
   have a1 := HB6.out.cell (k := 1) rfl
   have a2 := HB6.out.cell (k := 2) rfl
   have a3 := HB6.out.cell (k := 3) rfl
   have a4 := HB6.out.cell (k := 4) rfl
   have CF2 := HFIT.out w6 oqB false HO6.out HFB.out
   rw [HEB.out] at CF2
   go_wp2_with fail
   refine CF2.mono ?_
   rintro e w7 ⟨rfl, ho7⟩
   have HO7 : Hid (Only [] w1 w7) := Hd ((HO6.out.alloc _).tr ho7)
   clear a0 a1 a2 a3 a4 CF2 ho7 HO6 HB6 HFIT
   have CF3 : Calls Tryz.prog 54 #[.slice none 0 0, .slice (some ⟨w7.heap.size, 0, none⟩) 1 1] (w7.alloc (.cells #[.int .i64 0, .string ⟨#[]⟩, .string ⟨#[]⟩, .int .i64 0, .int .i64 (-1)] 88)) fun e w2 => e = .returned (.bool true) ∧ Only [] (w7.alloc (.cells #[.int .i64 0, .string ⟨#[]⟩, .string ⟨#[]⟩, .int .i64 0, .int .i64 (-1)] 88)) w2 := by
    have := hi_fits (.slice none 0 0) _ [] [oqC] _ (SlAt.of_own (World.ownsRow_nil _ 0 72 4)) ⟨by simp, fun x hx => by cases hx⟩ (slat_op w7 oqC) (by simp) (hi_sort_few _ (by have := List.length_filter_le cntO [oqC]; simp at this ⊢; omega))
    rw [fitC] at this
    exact this
   go_wp2_with fail
   refine CF3.mono ?_
   rintro e w8 ⟨rfl, ho8⟩
   have HO8 : Hid (Only [] w1 w8) := Hd ((HO7.out.alloc _).tr ho8)
   clear CF3 ho8 HO7
   have CR : Calls Tryz.prog 45 #[.slice (some ⟨rb0, ro0, none⟩) 1 rc] w8 fun e w' => ∃ rv, e = .returned rv ∧ w'.ownsRow w8.heap.size 9 1 rv l0.length (svs (repE AgS.new l0)) ∧ Only [] w8 w' := hi_replies _ l0 w8 (hlen ▸ ((HRV.out.only HO8.out (Nat.le_refl _) (by simp)).more HO8.out.size)) HOK.out
   go_wp2_with fail
   refine CR.mono ?_
   rintro e w9 ⟨rv, rfl, hrv, ho9⟩
   obtain ⟨VA, vc, rfl⟩ := (SlAt.of_own hrv).shape
   have HO9 := Hd (HO8.out.tr ho9)
   rw [hlen]
   have CST := Hd (hi_state (.slice none 0 0) [] w9 (SlAt.of_own (World.ownsRow_nil _ 0 72 4)) ⟨by simp, fun x hx => by cases hx⟩)
   obtain ⟨sb, hsb⟩ : ∃ x, agB (runE AgS.new []) = x := ⟨_, rfl⟩
   rw [hsb] at CST
   have hsn : sb.isEmpty = false := hsb ▸ stNil
   clear CR hrv ho9 hsb
   go_wp2_with fail
   refine CST.out.mono ?_
   rintro e w10 ⟨rfl, ho10⟩
   have HF := Hd (HO1.out.tr (HO9.out.tr ho10))
   clear CST ho10
   go_wp2_with fail
   go_ret
   exact ⟨rfl, HF.out⟩
 · have HZ : Hid (Cells (((((w2.setCell ⟨w1.heap.size, 0, none⟩ (.int .i64 0)).setCell ⟨w1.heap.size, 1, none⟩ (.string ⟨pk.toArray⟩)).setCell ⟨w1.heap.size, 2, none⟩ (.string ⟨ra.toArray⟩)).setCell ⟨w1.heap.size, 3, none⟩ (.int .i64 1)).setCell ⟨w1.heap.size, 4, none⟩ (.int .i64 2)) w1.heap.size 88 [.int .i64 0, .string ⟨pk.toArray⟩, .string ⟨ra.toArray⟩, .int .i64 1, .int .i64 2]) := Hd (hb.setMany 0 [.int .i64 0, .string ⟨pk.toArray⟩, .string ⟨ra.toArray⟩, .int .i64 1, .int .i64 2])
   have HW : Hid (Only [] w1 (((((w2.setCell ⟨w1.heap.size, 0, none⟩ (.int .i64 0)).setCell ⟨w1.heap.size, 1, none⟩ (.string ⟨pk.toArray⟩)).setCell ⟨w1.heap.size, 2, none⟩ (.string ⟨ra.toArray⟩)).setCell ⟨w1.heap.size, 3, none⟩ (.int .i64 1)).setCell ⟨w1.heap.size, 4, none⟩ (.int .i64 2))) := Hd ((((((((Only.refl [] w1).drew.alloc (.cells #[.int .i64 0, .string ⟨#[]⟩, .string ⟨#[]⟩, .int .i64 0, .int .i64 0] 88)).tr ho2)).setCell (.inr (Nat.le_refl _)) _).setCell (.inr (Nat.le_refl _)) _).setCell (.inr (Nat.le_refl _)) _).setCell (.inr (Nat.le_refl _)) _ |>.setCell (.inr (Nat.le_refl _)) _)
   obtain ⟨z, hz⟩ : ∃ z, w1.heap.size = z := ⟨_, rfl⟩
   clear z0 z1 z2 z3 z4 zf hb
   obtain ⟨w3, hw3⟩ : ∃ u, (((((w2.setCell ⟨w1.heap.size, 0, none⟩ (.int .i64 0)).setCell ⟨w1.heap.size, 1, none⟩ (.string ⟨pk.toArray⟩)).setCell ⟨w1.heap.size, 2, none⟩ (.string ⟨ra.toArray⟩)).setCell ⟨w1.heap.size, 3, none⟩ (.int .i64 1)).setCell ⟨w1.heap.size, 4, none⟩ (.int .i64 2)) = u := ⟨_, rfl⟩
   rw [hw3] at HZ HW ⊢
   rw [hz] at HZ ⊢
   have HO3 := Hd (HO1.out.tr HW.out)
   clear hw3 hz ho2
   have a0 := HZ.out.cell (k := 0) rfl
   have a1 := HZ.out.cell (k := 1) rfl
   have a2 := HZ.out.cell (k := 2) rfl
   have a3 := HZ.out.cell (k := 3) rfl
   have a4 := HZ.out.cell (k := 4) rfl
   go_wp2_with fail
   refine (CA2.out _).mono ?_
   rintro e w4 ⟨rfl, ho4⟩
   clear a0 a1 a2 a3 a4
   have HB4 : Hid (Cells w4 w3.heap.size 88 [.int .i64 0, .string ⟨pk.toArray⟩, .string ⟨ra.toArray⟩, .int .i64 1, .int .i64 2]) := Hd ((Cells.new w3 88 [.int .i64 0, .string ⟨pk.toArray⟩, .string ⟨ra.toArray⟩, .int .i64 1, .int .i64 2]).only ho4 (by simp))
   have HA4 := Hd ((HZ.out.alloc (.cells #[.int .i64 0, .string ⟨pk.toArray⟩, .string ⟨ra.toArray⟩, .int .i64 1, .int .i64 2] 88)).only ho4 (by simp))
   have hzl := HZ.out.lt
   have hne : z ≠ w3.heap.size := by omega
   have O4 : Only [] w1 w4 := (HW.out.alloc (.cells #[.int .i64 0, .string ⟨pk.toArray⟩, .string ⟨ra.toArray⟩, .int .i64 1, .int .i64 2] 88)).tr ho4
   have hW3 := HW.out.size
   obtain ⟨y, hy⟩ : ∃ y, w3.heap.size = y := ⟨_, rfl⟩
   rw [hy] at HB4 hne hW3 ⊢
   have b2 := HB4.out.cell (k := 2) rfl
   have bf := HB4.out.frozen 2
   go_upto_region 5 with fail
   have HB5 : Hid (Cells (w4.setCell ⟨y, 2, none⟩ (.string ⟨rb'.toArray⟩)) y 88 [.int .i64 0, .string ⟨pk.toArray⟩, .string ⟨rb'.toArray⟩, .int .i64 1, .int .i64 2]) := Hd (HB4.out.set 2 _)
   have HA5 : Hid (Cells (w4.setCell ⟨y, 2, none⟩ (.string ⟨rb'.toArray⟩)) z 88 [.int .i64 0, .string ⟨pk.toArray⟩, .string ⟨ra.toArray⟩, .int .i64 1, .int .i64 2]) := Hd (HA4.out.far (p := ⟨y, 2, none⟩) hne _)
   have O5 : Only [] w1 (w4.setCell ⟨y, 2, none⟩ (.string ⟨rb'.toArray⟩)) := O4.setCell (.inr hW3) _
   obtain ⟨w5, hw5⟩ : ∃ u, w4.setCell ⟨y, 2, none⟩ (.string ⟨rb'.toArray⟩) = u := ⟨_, rfl⟩
   rw [hw5] at HB5 HA5 O5 ⊢
   clear hw5 b2 bf HB4 HA4 ho4 hzl hne O4 hW3 hy HZ HW HO3
   have HO5 := Hd O5
   have a0 := HA5.out.cell (k := 0) rfl
   have a1 := HA5.out.cell (k := 1) rfl
   have a2 := HA5.out.cell (k := 2) rfl
   have a3 := HA5.out.cell (k := 3) rfl
   have a4 := HA5.out.cell (k := 4) rfl
   have HFIT : Hid (∀ (w' : World) (o : Oq) (r : Bool), Only [] w1 w' → fitP l0 (repE AgS.new l0) [o] = r → Calls Tryz.prog 54 #[.slice (some ⟨rb0, ro0, none⟩) 1 rc, .slice (some ⟨w'.heap.size, 0, none⟩) 1 1] (w'.alloc (.cells o.cells.toArray 88)) fun e w2 => e = .returned (.bool r) ∧ Only [] (w'.alloc (.cells o.cells.toArray 88)) w2) := Hd (fun w' o r ho hr => by
    rw [← hr]
    have h2 := ho.alloc (.cells o.cells.toArray 88)
    exact hi_fits _ _ l0 [o] _ (hlen ▸ ((HRV.out.only h2 (Nat.le_refl _) (by simp)).more h2.size)) HOK.out (slat_op w' o) (by simp) (hi_sort_few _ (by have := List.length_filter_le cntO [o]; simp at this ⊢; omega)))
   have CF1 := HFIT.out w5 oqA true HO5.out HFA.out
   rw [HEA.out] at CF1
   go_wp2_with fail
   refine CF1.mono ?_
   rintro e w6 ⟨rfl, ho6⟩
   have O6 : Only [] w1 w6 := (HO5.out.alloc _).tr ho6
   have HO6 := Hd O6
   have HB6 := Hd ((HB5.out.alloc (.cells #[.int .i64 0, .string ⟨pk.toArray⟩, .string ⟨ra.toArray⟩, .int .i64 1, .int .i64 2] 88)).only ho6 (by simp))
   clear a0 a1 a2 a3 a4 CF1 ho6 O6 O5 HO5 HA5 HB5
   have a0 := HB6.out.cell (k := 0) rfl
   have a1 := HB6.out.cell (k := 1) rfl
   have a2 := HB6.out.cell (k := 2) rfl
   have a3 := HB6.out.cell (k := 3) rfl
   have a4 := HB6.out.cell (k := 4) rfl
   have CF2 := HFIT.out w6 oqB false HO6.out HFB.out
   rw [HEB.out] at CF2
   go_wp2_with fail
   refine CF2.mono ?_
   rintro e w7 ⟨rfl, ho7⟩
   have HO7 : Hid (Only [] w1 w7) := Hd ((HO6.out.alloc _).tr ho7)
   clear a0 a1 a2 a3 a4 CF2 ho7 HO6 HB6 HFIT
   have CF3 : Calls Tryz.prog 54 #[.slice none 0 0, .slice (some ⟨w7.heap.size, 0, none⟩) 1 1] (w7.alloc (.cells #[.int .i64 0, .string ⟨#[]⟩, .string ⟨#[]⟩, .int .i64 0, .int .i64 (-1)] 88)) fun e w2 => e = .returned (.bool true) ∧ Only [] (w7.alloc (.cells #[.int .i64 0, .string ⟨#[]⟩, .string ⟨#[]⟩, .int .i64 0, .int .i64 (-1)] 88)) w2 := by
    have := hi_fits (.slice none 0 0) _ [] [oqC] _ (SlAt.of_own (World.ownsRow_nil _ 0 72 4)) ⟨by simp, fun x hx => by cases hx⟩ (slat_op w7 oqC) (by simp) (hi_sort_few _ (by have := List.length_filter_le cntO [oqC]; simp at this ⊢; omega))
    rw [fitC] at this
    exact this
   go_wp2_with fail
   refine CF3.mono ?_
   rintro e w8 ⟨rfl, ho8⟩
   have HO8 : Hid (Only [] w1 w8) := Hd ((HO7.out.alloc _).tr ho8)
   clear CF3 ho8 HO7
   have CR : Calls Tryz.prog 45 #[.slice (some ⟨rb0, ro0, none⟩) 1 rc] w8 fun e w' => ∃ rv, e = .returned rv ∧ w'.ownsRow w8.heap.size 9 1 rv l0.length (svs (repE AgS.new l0)) ∧ Only [] w8 w' := hi_replies _ l0 w8 (hlen ▸ ((HRV.out.only HO8.out (Nat.le_refl _) (by simp)).more HO8.out.size)) HOK.out
   go_wp2_with fail
   refine CR.mono ?_
   rintro e w9 ⟨rv, rfl, hrv, ho9⟩
   obtain ⟨VA, vc, rfl⟩ := (SlAt.of_own hrv).shape
   have HO9 := Hd (HO8.out.tr ho9)
   rw [hlen]
   have CST := Hd (hi_state (.slice none 0 0) [] w9 (SlAt.of_own (World.ownsRow_nil _ 0 72 4)) ⟨by simp, fun x hx => by cases hx⟩)
   obtain ⟨sb, hsb⟩ : ∃ x, agB (runE AgS.new []) = x := ⟨_, rfl⟩
   rw [hsb] at CST
   have hsn : sb.isEmpty = false := hsb ▸ stNil
   clear CR hrv ho9 hsb
   go_wp2_with fail
   refine CST.out.mono ?_
   rintro e w10 ⟨rfl, ho10⟩
   have HF := Hd (HO1.out.tr (HO9.out.tr ho10))
   clear CST ho10
   go_wp2_with fail
   go_ret
   exact ⟨rfl, HF.out⟩
theorem unC_pk23 {c : Cm} (h : rightB c = true) : unC (pkS c) = some c := by
 have e : pkS c = cmdb c := by unfold pkS; rw [if_pos h]
 rw [e]
 exact (unC_iff _ (by have := right_short h; omega) c).2 ⟨h, rfl⟩
theorem apA_pk {c : Cm} {a : AgS} (h : rightB c = true) : apA (pkS c) a = (rpb (doA a c).1, (doA a c).2) := by
 unfold apA
 rw [unC_pk23 h]
theorem runE_I (l : List Ey) : ∀ (n : Nat) (a : AgS), AgI n a → n + l.length ≤ 1000000000 → AgI (n + l.length) (runE a l) := by
 induction l with
 | nil => intro n a h _; exact h
 | cons x l ih =>
  intro n a h hn
  rw [List.length_cons] at hn ⊢
  have := ih (n + 1) _ (stepE_step h (by omega) x).1 (by omega)
  rw [show n + (l.length + 1) = n + 1 + l.length from by omega]
  exact this
theorem stepE_did {id seq : Int} {r : ByteArray} {a : AgS} (h : S15.Did id seq r a.t) (x : Ey) : S15.Did id seq r (stepE a x).2.t := by
 unfold stepE
 split
 · unfold apA
   cases unC x.d with
   | none => exact h
   | some c => exact doA_did h c
 · exact h
theorem runE_did {id seq : Int} {r : ByteArray} (l : List Ey) : ∀ a : AgS, S15.Did id seq r a.t → S15.Did id seq r (runE a l).t := by
 induction l with
 | nil => intro a h; exact h
 | cons x l ih => intro a h; exact ih _ (stepE_did h x)
theorem low19 {a : AgS} (c : Cm) (hr : rightB c = true) (hc : clB c.kd = true) (h : c.sq < 1) : (doA a c).2 = a := by
 unfold doA
 rw [if_neg (by simp [hr]), if_neg (by simp [hc])]
 have e : (S15.askS a.t.l c.ss c.sq).1 = 3 ∨ (S15.askS a.t.l c.ss c.sq).1 = 2 := by
  unfold S15.askS
  cases S15.atS a.t.l c.ss with
  | none => exact .inl rfl
  | some x => exact .inr (by dsimp only; rw [if_pos (.inl h)])
 rcases e with e | e
 · rw [if_pos e]
 · rw [if_neg (by omega), if_pos e]
theorem past19 {n : Nat} {a : AgS} (hI : AgI n a) (c : Cm) (hr : rightB c = true) (hc : clB c.kd = true) (h17 : (doA a c).1.er ≠ 17) :
 c.sq < 1 ∨ ∃ r, RpK r ∧ S15.Did c.ss c.sq ⟨(rpb r).toArray⟩ (doA a c).2.t := by
 have e0 : doA a c = if (S15.askS a.t.l c.ss c.sq).1 = 3 then (errR 17, a)
  else if (S15.askS a.t.l c.ss c.sq).1 = 2 then (errR 18, a)
  else if (S15.askS a.t.l c.ss c.sq).1 = 1 then (keptR (S15.askS a.t.l c.ss c.sq).2, a)
  else ((cliA a.s c).1, ⟨⟨S15.doneL a.t.l c.ss c.sq ⟨(rpb (cliA a.s c).1).toArray⟩, a.t.ever⟩, a.d, (cliA a.s c).2⟩) := by
  show doA a c = _
  unfold doA
  rw [if_neg (by simp [hr]), if_neg (by simp [hc])]
 have hat : ∀ x, S15.atS a.t.l c.ss = some x → x ∈ a.t.l ∧ x.id = c.ss := fun x hx => by
  have hlt : S15.fndS a.t.l c.ss < a.t.l.length := (List.getElem?_eq_some_iff.1 hx).1
  obtain ⟨y, hy, hyi⟩ := S15.fndS_id hlt
  have hx : a.t.l[S15.fndS a.t.l c.ss]? = some x := hx
  rw [hx] at hy
  obtain rfl := Option.some.inj hy
  exact ⟨List.mem_of_getElem? hx, hyi⟩
 by_cases h3 : (S15.askS a.t.l c.ss c.sq).1 = 3
 · rw [if_pos h3] at e0
   exact absurd (by rw [e0]; rfl) h17
 rw [if_neg h3] at e0
 by_cases hlow : c.sq < 1
 · exact .inl hlow
 refine .inr ?_
 by_cases h2 : (S15.askS a.t.l c.ss c.sq).1 = 2
 · rw [if_pos h2] at e0
   rw [e0]
   refine ⟨errR 18, RpK.err 18 (by omega), ?_⟩
   unfold S15.askS at h2
   cases hx : S15.atS a.t.l c.ss with
   | none => rw [hx] at h2; simp at h2
   | some x =>
    rw [hx] at h2
    dsimp only at h2
    obtain ⟨hm, hid⟩ := hat x hx
    have hlt : c.sq < x.seq := by
     by_cases g1 : c.sq < 1 ∨ c.sq < x.seq
     · omega
     · rw [if_neg g1] at h2
       split at h2 <;> simp at h2
    refine ⟨hI.ok, by omega, by rw [← hid]; exact (hI.ok.ids x hm).2, fun s hs he => ?_⟩
    obtain rfl := once_eq hI.once hs hm (he.trans hid.symm)
    exact ⟨by omega, fun e => by omega⟩
 rw [if_neg h2] at e0
 by_cases h1 : (S15.askS a.t.l c.ss c.sq).1 = 1
 · rw [if_pos h1] at e0
   rw [e0]
   unfold S15.askS at h1
   cases hx : S15.atS a.t.l c.ss with
   | none => rw [hx] at h1; simp at h1
   | some x =>
    rw [hx] at h1
    dsimp only at h1
    obtain ⟨hm, hid⟩ := hat x hx
    by_cases g1 : c.sq < 1 ∨ c.sq < x.seq
    · rw [if_pos g1] at h1; simp at h1
    rw [if_neg g1] at h1
    by_cases g2 : c.sq = x.seq
    · obtain ⟨r, hr', er⟩ := hI.kept x hm (by omega)
      refine ⟨r, hr', hI.ok, by omega, by rw [← hid]; exact (hI.ok.ids x hm).2, fun s hs he => ?_⟩
      obtain rfl := once_eq hI.once hs hm (he.trans hid.symm)
      exact ⟨by omega, fun _ => er⟩
    · rw [if_neg g2] at h1; simp at h1
 rw [if_neg h1] at e0
 rw [e0]
 have hk := S15.ask_kind a.t.l c.ss c.sq
 exact ⟨_, cliA_k hI.si c, S15.did_first hI.ok hI.once _ _ _ (by omega)⟩
theorem rowE_snoc (l : List C19) (a : C19) : rowE (l ++ [a]) = rowE l ++ [rowF l.length a.c] := by
 unfold rowE
 rw [List.mapIdx_concat]
theorem twice23 (l : List C19) (k : Nat) (a : C19) (h : l[k]? = some a) (hn : l.length ≤ 1000) (hr : rightB a.c = true) (hc : clB a.c.kd = true) (y : List UInt8) (hy : (repE AgS.new (rowE l))[k]? = some y) (he : ((unA y).getD Rp.zero).er ≠ 17) :
 runE AgS.new (rowE (l ++ [a])) = runE AgS.new (rowE l) := by
 have hk : k < l.length := (List.getElem?_eq_some_iff.1 h).1
 have hx := rowE_get l k a h
 have hkE : k < (rowE l).length := by rw [rowE_length]; exact hk
 have hsplit : rowE l = (rowE l).take k ++ (rowF k a.c :: (rowE l).drop (k + 1)) := by
  conv => lhs; rw [← List.take_append_drop k (rowE l)]
  congr 1
  rw [List.drop_eq_getElem_cons hkE]
  congr 1
  exact (List.getElem?_eq_some_iff.1 hx).2
 obtain ⟨st, hst⟩ : ∃ st, runE AgS.new ((rowE l).take k) = st := ⟨_, rfl⟩
 have hlt : ((rowE l).take k).length = k := by rw [List.length_take]; omega
 have hI : AgI (0 + k) st := by
  have := runE_I ((rowE l).take k) 0 AgS.new AgI.new (by omega)
  rw [hlt, hst] at this
  exact this
 have hkd : (rowF k a.c).kd = 2 := by unfold rowF; rw [if_pos hr]
 have hd : (rowF k a.c).d = pkS a.c := rfl
 have hstep : stepE st (rowF k a.c) = (rpb (doA st a.c).1, (doA st a.c).2) := by
  unfold stepE
  rw [if_pos hkd, hd, apA_pk hr]
 have hyE : y = rpb (doA st a.c).1 := by
  rw [hsplit, repE_append, List.getElem?_append_right (by rw [repE_length, hlt]; exact Nat.le_refl _), repE_length, hlt, Nat.sub_self, hst] at hy
  unfold repE at hy
  rw [hstep] at hy
  exact (Option.some.inj hy).symm
 have hnum := (rightB_iff.1 hr).1
 have hits := (right_its hr).1
 obtain ⟨_, hRK⟩ := doA_step hI (by omega) a.c (numB_wide hnum _ (by simp [Cm.n7])) (by omega)
 rw [hyE, unA_k hRK] at he
 have hend : runE AgS.new (rowE l) = runE (doA st a.c).2 ((rowE l).drop (k + 1)) := by
  conv => lhs; rw [hsplit]
  rw [runE_append, hst]
  show runE (stepE st (rowF k a.c)).2 _ = _
  rw [hstep]
 rw [rowE_snoc, runE_append]
 obtain ⟨fin, hfin⟩ : ∃ f, runE AgS.new (rowE l) = f := ⟨_, rfl⟩
 rw [hfin]
 have hkd2 : (rowF l.length a.c).kd = 2 := by unfold rowF; rw [if_pos hr]
 show (stepE fin (rowF l.length a.c)).2 = fin
 unfold stepE
 rw [if_pos hkd2, show (rowF l.length a.c).d = pkS a.c from rfl, apA_pk hr]
 show (doA fin a.c).2 = fin
 rcases past19 hI a.c hr hc he with hlow | ⟨r, hrk, hdid⟩
 · exact low19 a.c hr hc hlow
 · have := runE_did ((rowE l).drop (k + 1)) _ hdid
   rw [← hend, hfin] at this
   exact (again19 a.c hr hc hrk this).1
end Go.Proofs.YtcjfmildalappaaGreat
