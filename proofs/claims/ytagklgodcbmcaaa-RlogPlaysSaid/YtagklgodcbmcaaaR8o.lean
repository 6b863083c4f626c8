/-
  Chapter 8: the law's own helpers: entries, small, base; the parts that come in.
-/
import Derived.Test.YtagklgodcbmcaaaR8n
namespace Go.Proofs.Ytagklgodcbmcaaa
open Go.RowKit Go.ChangeShapes Go.WideShapes Go.Deep
section
variable {H : Type} {enc : TypeId × Value → H} {P : Program} {w : World} {base : Nat} {spare : Nat → Bool} {held : Bool}
/-- A slice whose elements are one cell each, as one cell of something else. -/
theorem open_ones_in {t e : TypeId} {v : Value} {f : Nat} {y : DataW H × List MemPlace} (ht : P.underlying t = some (.slice e)) (hC : P.cellsOf e = 1) (hf : DataW.trod enc P w base spare held f t [v] = some y) :
    ∃ n xs, SlAt w w.heap.size v 1 n xs ∧ ∀ i, i < n → ∃ u y m, xs[i]? = some u ∧ DataW.trod enc P w base spare held m e [u] = some y := by
  rcases open_slice ht hf with ⟨hcs, _⟩ | ⟨a, len, cap, m, n, D, Pl, hcs, hb, hl, hm, hmm, hx, hi⟩
  · simp at hcs
    subst hcs
    exact ⟨0, [], ⟨by simp, none, 0, rfl, by omega, by simp [maxLen], fun h => by simp at h⟩, fun i hi => by omega⟩
  · simp at hcs
    subst hcs
    have hlm : len ≤ m := by rw [hmm]; split <;> omega
    have key : ∀ i, i < len → ∃ u y m, w.cell? (a.add i) = some u ∧ DataW.trod enc P w base spare held m e [u] = some y := by
      intro i hil
      obtain ⟨cs', hc, ht'⟩ := hi i (by omega)
      rw [hC, Nat.mul_one] at hc
      obtain ⟨_, hcl, hat⟩ := World.cells?_some hc
      have hcell := hat 0 (by omega)
      match cs', hcl with
      | [u], _ => exact ⟨u, _, _, by simpa [Addr.add] using hcell, ht'⟩
    by_cases hz : 0 < len
    · obtain ⟨u0, _, _, hc0, _⟩ := key 0 hz
      have ha : a = ⟨a.block, a.off, none⟩ := by simpa [Addr.add] using cell_spot hc0
      have hblt : a.block < w.heap.size := by simpa [Addr.add] using World.block_lt_of_cell? w _ hc0
      have hadd : ∀ k, a.add k = ⟨a.block, a.off + k, none⟩ := by
        intro k; rw [ha]; unfold Addr.add; by_cases hk : k = 0 <;> simp [hk]
      refine ⟨len, (List.range len).map fun k => (w.cell? ⟨a.block, a.off + k, none⟩).getD undef, ⟨by simp, some a, cap, rfl, hl, hm, fun _ => ⟨a.block, a.off, by rw [← ha], hblt, fun j u hu => ?_⟩⟩, fun i hil => ?_⟩
      · simp only [List.getElem?_map] at hu
        have hjl : j < len := by
          rcases Nat.lt_or_ge j len with h0 | h0
          · exact h0
          · rw [List.getElem?_eq_none (by simpa using h0)] at hu; simp at hu
        rw [List.getElem?_range hjl] at hu
        simp only [Option.map_some, Option.some.injEq] at hu
        obtain ⟨u', _, _, hc', _⟩ := key j hjl
        rw [hadd] at hc'
        rw [hc'] at hu ⊢
        simpa using hu
      · obtain ⟨u, y, m', hc', hy⟩ := key i hil
        refine ⟨u, y, m', ?_, hy⟩
        rw [List.getElem?_map, List.getElem?_range hil]
        rw [hadd] at hc'
        simp [hc']
    · exact ⟨len, [], ⟨by simp; omega, some a, cap, rfl, hl, hm, fun h => by omega⟩, fun i hil => by omega⟩
end
def ptL (ps : List Pt) : List Value := ps.flatMap Pt.cells
/-- The parts, as they came in. -/
structure PtsAt (w : World) (v : Value) (ps : List Pt) : Prop where
  sl : SlAt w w.heap.size v 4 ps.length (ptL ps)
  ok : ∀ p ∈ ps, p.Ok w
theorem PtsAt.only {w w' : World} {v : Value} {ps : List Pt} (h : PtsAt w v ps) (ho : Only [] w w') : PtsAt w' v ps :=
  ⟨(h.sl.only ho (Nat.le_refl _) (by simp)).more ho.size, fun p hp => (h.ok p hp).only ho⟩
theorem PtsAt.shape {w : World} {v : Value} {ps : List Pt} (h : PtsAt w v ps) : ∃ A c, v = .slice A ps.length c := h.sl.shape
theorem PtsAt.at_ {w : World} {v : Value} {ps : List Pt} {n : Nat} (h : PtsAt w v ps) {x : Pt} (hx : ps[n]? = some x) :
    ∃ b o c, v = .slice (some ⟨b, o, none⟩) ps.length c ∧ b < w.heap.size ∧ w.cell? ⟨b, o + n * 4, none⟩ = some (.int .i64 x.tm) ∧ w.cell? ⟨b, o + n * 4 + 1, none⟩ = some (.int .i64 x.kd) ∧ w.cell? ⟨b, o + n * 4 + 2, none⟩ = some (.string x.d) ∧ w.cell? ⟨b, o + n * 4 + 3, none⟩ = some x.vv := by
  have hn := (List.getElem?_eq_some_iff.1 hx).1
  obtain ⟨b, o, c, hv, hb, hc⟩ := h.sl.at_ (by omega)
  have key : ∀ j u, j < 4 → x.cells[j]? = some u → w.cell? ⟨b, o + n * 4 + j, none⟩ = some u := by
    intro j u hj hu
    rw [Nat.add_assoc]
    exact hc _ u (by rw [ptL, flat_get Pt.cells 4 (fun _ => rfl) ps n j x hx hj]; exact hu)
  exact ⟨b, o, c, hv, hb, key 0 _ (by omega) rfl, key 1 _ (by omega) rfl, key 2 _ (by omega) rfl, key 3 _ (by omega) rfl⟩
def entL : List Pt → Int → List En
  | [], _ => []
  | p :: r, f => p.en f :: entL r (f + 1)
theorem entL_length : ∀ (ps : List Pt) (f : Int), (entL ps f).length = ps.length
  | [], _ => rfl
  | p :: r, f => by simp [entL, entL_length r]
theorem entL_append : ∀ (a b : List Pt) (f : Int), entL (a ++ b) f = entL a f ++ entL b (f + a.length)
  | [], b, f => by simp [entL]
  | p :: r, b, f => by simp only [List.cons_append, entL, entL_append r b, List.length_cons]; rw [show f + 1 + (r.length : Int) = f + ((r.length + 1 : Nat) : Int) from by omega]
theorem entL_get : ∀ (ps : List Pt) (f : Int) (k : Nat), (entL ps f)[k]? = (ps[k]?).map fun p => p.en (f + k)
  | [], f, k => by simp [entL]
  | p :: r, f, 0 => by simp [entL]
  | p :: r, f, k + 1 => by simp only [entL, List.getElem?_cons_succ, entL_get r]; rw [show f + 1 + (k : Int) = f + ((k + 1 : Nat) : Int) from by omega]
def partB (p : Pt) : Bool := decide (p.d.size ≤ 300) && decide (p.vs.length ≤ 30)
def smallB (ps : List Pt) : Bool := decide (ps.length ≤ 60) && ps.all partB
theorem smallB_iff {ps : List Pt} (h : smallB ps = true) : ps.length ≤ 60 ∧ ∀ p ∈ ps, p.d.size ≤ 300 ∧ p.vs.length ≤ 30 := by
  unfold smallB partB at h
  simp only [Bool.and_eq_true, decide_eq_true_eq, List.all_eq_true] at h
  exact h
set_option maxRecDepth 100000 in
set_option maxHeartbeats 2000000 in
theorem small8 (v : Value) (ps : List Pt) (w : World) (h : PtsAt w v ps) :
    Calls Try.prog 16 #[v] w fun e w' => e = .returned (.bool (smallB ps)) ∧ Only [] w w' := by
  obtain ⟨A, c, rfl⟩ := h.shape
  have H := Lib.hid h
  clear h
  by_cases h60 : ps.length ≤ 60
  case neg =>
    have hd : decide ((60 : Int) < (ps.length : Int)) = true := by simp; omega
    have hr : Hid (smallB ps = false) := by show _ = _; unfold smallB; rw [show decide (ps.length ≤ 60) = false from by simpa using h60]; rfl
    go_enter Try.func16, Try.ntmps16
    go_wp2_with fail
    go_ret
    exact ⟨by rw [hr.out]; rfl, Only.refl _ _⟩
  case pos =>
    have hd : decide ((60 : Int) < (ps.length : Int)) = false := by simp; omega
    go_enter Try.func16, Try.ntmps16
    go_wp2_with fail
    go_loop [3] (fun i => ∃ k : Nat, k ≤ ps.length ∧ i = .int .i64 k ∧ Hid ((ps.take k).all partB = true)) (fun i => ps.length - (intOf i).toNat)
    case atStart => exact ⟨0, by omega, rfl, Lib.hid (by simp)⟩
    case round =>
      obtain ⟨k, hk, rfl, hall⟩ := hrel
      by_cases hlt : k < ps.length
      · have hlt' : (k : Int) < (ps.length : Int) := by omega
        obtain ⟨x, hx⟩ : ∃ x, ps[k]? = some x := ⟨_, List.getElem?_eq_getElem hlt⟩
        obtain ⟨b1, o1, c1', e1, _, q0, q1, q2, q3⟩ := H.out.at_ hx
        injection e1 with i1 i2 i3
        subst i1; subst i3
        have hxm := List.mem_of_getElem? hx
        have hok := H.out.ok x hxm
        obtain ⟨vA, vc, hvv⟩ := hok.sl.shape
        have hvlen : x.vs.length ≤ maxLen := by
          obtain ⟨_, A, c, hv, h1, h2, _⟩ := hok.sl
          omega
        have hdlen := hok.size
        have hvlen2 : x.vs.length ≤ 9223372036854775807 := by unfold maxLen at hvlen; omega
        have hdlen2 : x.d.size ≤ 9223372036854775807 := by unfold maxLen at hdlen; omega
        rw [hvv] at q3
        have HX := Lib.hid hx
        have HXM := Lib.hid hxm
        clear hx hok hxm i2 hvlen hdlen
        have hfalse : partB x = false → Hid (smallB ps = false) := fun hp => by
          show _ = _
          unfold smallB
          rw [Bool.and_eq_false_iff]
          right
          rw [Bool.eq_false_iff]
          intro h
          have := List.all_eq_true.1 h x HXM.out
          rw [hp] at this
          simp at this
        have HF := Lib.hid hfalse
        clear hfalse
        by_cases h300 : x.d.size ≤ 300
        · have d1 : decide ((300 : Int) < (x.d.size : Int)) = false := by simp; omega
          by_cases h30 : x.vs.length ≤ 30
          · have d2 : decide ((30 : Int) < (x.vs.length : Int)) = false := by simp; omega
            have hall2 : Hid ((ps.take (k + 1)).all partB = true) := by
              show _ = _
              rw [List.take_add_one, HX.out, List.all_append, hall.out]
              simp [partB, h300, h30]
            go_wp2_with fail
            go_round
            case rel => exact ⟨k + 1, by omega, by go_num, hall2⟩
            case measure => simp [intOf]; omega
          · have d2 : decide ((30 : Int) < (x.vs.length : Int)) = true := by simp; omega
            have hr := HF.out (by unfold partB; rw [show decide (x.vs.length ≤ 30) = false from by simpa using h30, Bool.and_false])
            go_wp2_with fail
            go_ret
            exact ⟨by rw [hr.out]; rfl, Only.refl _ _⟩
        · have d1 : decide ((300 : Int) < (x.d.size : Int)) = true := by simp; omega
          have hr := HF.out (by unfold partB; rw [show decide (x.d.size ≤ 300) = false from by simpa using h300, Bool.false_and])
          go_wp2_with fail
          go_ret
          exact ⟨by rw [hr.out]; rfl, Only.refl _ _⟩
      · have hd2 : decide ((k : Int) < (ps.length : Int)) = false := by simp; omega
        have hr : Hid (smallB ps = true) := by
          show _ = _
          unfold smallB
          have := hall.out
          rw [List.take_of_length_le (by omega)] at this
          rw [this, show decide (ps.length ≤ 60) = true from by simpa using h60]
          rfl
        go_wp2_with fail
        go_ret
        exact ⟨by rw [hr.out]; rfl, Only.refl _ _⟩
set_option maxRecDepth 100000 in
set_option maxHeartbeats 2000000 in
theorem entries8 (v : Value) (ps : List Pt) (f : Int) (w : World) (h : PtsAt w v ps) (hs : smallB ps = true) (hf0 : -1000000000 ≤ f) (hf1 : f ≤ 1000000000) :
    Calls Try.prog 19 #[v, .int .i64 f] w fun e w' => ∃ v', e = .returned v' ∧ w'.ownsRow w.heap.size 40 4 v' ps.length (enL (entL ps f)) ∧ Only [] w w' := by
  obtain ⟨i0, hi0, hz0, hz1, hz2⟩ := info_parts info_ent
  obtain ⟨hs60, hsp⟩ := smallB_iff hs
  have HSP := Lib.hid hsp
  obtain ⟨A, c, rfl⟩ := h.shape
  have H := Lib.hid h
  clear h hs hsp
  go_enter Try.func19, Try.ntmps19
  go_wp2_with fail
  go_loopw [5, 6] (fun u i wr => ∃ k : Nat, k ≤ ps.length ∧ i = .int .i64 k ∧ Hid (wr.ownsRow w.heap.size 40 4 u k (enL (entL (ps.take k) f))) ∧ Hid (Only [] w wr)) (fun _ i _ => ps.length - (intOf i).toNat)
  case atStart => exact ⟨0, by omega, rfl, Lib.hid (World.ownsRow_nil _ _ _ _), Lib.hid (Only.refl _ _)⟩
  case round =>
    obtain ⟨k, hk, rfl, hown, ho⟩ := hrel
    by_cases hlt : k < ps.length
    · have hlt' : (k : Int) < (ps.length : Int) := by omega
      obtain ⟨x, hx⟩ : ∃ x, ps[k]? = some x := ⟨_, List.getElem?_eq_getElem hlt⟩
      have hP := H.out.only ho.out
      obtain ⟨b1, o1, c1', e1, _, q0, q1, q2, q3⟩ := hP.at_ hx
      injection e1 with i1 i2 i3
      subst i1; subst i3
      have hxm := List.mem_of_getElem? hx
      have CE := Lib.hid (entry8 x (f + k) wr (hP.ok x hxm) (HSP.out x hxm).2)
      have htk : Hid (entL (ps.take (k + 1)) f = entL (ps.take k) f ++ [x.en (f + k)]) := by
        show _ = _
        rw [List.take_add_one, hx]
        show entL (ps.take k ++ [x]) f = _
        rw [entL_append, List.length_take, Nat.min_eq_left hk]
        rfl
      unfold Pt.val En.val at CE
      clear hP hx hxm i2
      go_wp2_with fail
      refine CE.out.mono ?_
      rintro e w2 ⟨rfl, ho2⟩
      have hown2 := Lib.hid (own_only hown.out ho2 (by simp))
      have hoD := Lib.hid (ho.out.tr ho2)
      have hsz := hoD.out.size
      clear CE hown ho2
      go_wp2_with (at_builtin
                   refine wpList_app rfl _ _ 31 rfl w.heap.size 40 i0 _ 4 40 Try.underlying31 hi0 hz0 hz1 hz2 rfl (by decide) w2 u5 k (enL (entL (ps.take k) f)) rfl hown2.out 1 1 [.int .i64 (x.en (f + k)).ix, .int .i64 (x.en (f + k)).tm, .int .i64 (x.en (f + k)).kd, .string (x.en (f + k)).d] rfl rfl (by simp [Value.oneCell']) (by simp only [maxLen]; omega) (by omega) hsz ?_
                   intro v' w' hown' hgrow _)
      go_roundw
      case rel => exact ⟨k + 1, by omega, by go_num, Lib.hid (by rw [htk.out, enL_append]; exact hown'), Lib.hid (hoD.out.own hown2.out hgrow (Nat.le_refl _))⟩
      case measure => simp [intOf]; omega
    · have hd : decide ((k : Int) < (ps.length : Int)) = false := by simp; omega
      obtain rfl : k = ps.length := by omega
      rw [List.take_length] at hown
      go_wp2_with fail
      go_ret
      exact ⟨_, rfl, hown.out, ho.out⟩
def bas (ix tm : Int) : Bas := ⟨pickI ix 30, pickI tm 9, [1, 2, 3], ⟨#[98]⟩⟩
set_option maxRecDepth 100000 in
set_option maxHeartbeats 2000000 in
theorem base8 (ix tm : Int) (w : World) (h1 : Wide64 ix) (h2 : Wide64 tm) :
    Calls Try.prog 17 #[.int .i64 ix, .int .i64 tm] w fun e w' => ∃ v', e = .returned ((bas ix tm).val v') ∧ w'.ownsRow w.heap.size 3 1 v' (bas ix tm).vs.length (gvs (bas ix tm).vs) ∧ Only [] w w' := by
  go_enter Try.func17, Try.ntmps17
  go_wp2_with ((go_at_call 22; refine (pick8 _ _ _ (by assumption) (by omega) (by omega)).mono ?_; rintro e w' ⟨rfl, rfl⟩))
  have hown : ((w.alloc (.cells #[.int .i64 (pickI ix 30), .int .i64 (pickI tm 9), .slice (some ⟨w.heap.size + 1, 0, none⟩) 3 3, .string ⟨#[98]⟩] 27)).alloc (.cells #[.int .i64 1, .int .i64 2, .int .i64 3] 3)).ownsRow w.heap.size 3 1 (.slice (some ⟨w.heap.size + 1, 0, none⟩) 3 3) 3 [.int .i64 1, .int .i64 2, .int .i64 3] := by
    have := World.ownsRow_lit (base := w.heap.size) (e := 3) (size := 1) (w.alloc (.cells #[.int .i64 (pickI ix 30), .int .i64 (pickI tm 9), .slice (some ⟨w.heap.size + 1, 0, none⟩) 3 3, .string ⟨#[98]⟩] 27)) #[.int .i64 1, .int .i64 2, .int .i64 3] 3 (by simp) (by decide) rfl
    simpa using this
  exact bodyPost_ret (v := .agg #[.int .i64 (pickI ix 30), .int .i64 (pickI tm 9), .slice (some ⟨w.heap.size + 1, 0, none⟩) 3 3, .string ⟨#[98]⟩]) (by simp [results, Try.results17, go_sem, *]) rfl ⟨_, rfl, hown, ((Only.refl _ _).alloc _).alloc _⟩
set_option maxRecDepth 100000 in
set_option maxHeartbeats 1000000 in
theorem open_parts {H : Type} {enc : TypeId × Value → H} {w : World} {base : Nat} {spare : Nat → Bool} {held : Bool} {r : Reach} {b0 : Nat} {v : Value} {d : DataW H} {p : List MemPlace}
    (hv : Value.okWide Try.prog w r b0 22 v) (h : DataW.Trod enc Try.prog w base spare held 22 v d p) : ∃ ps : List Pt, PtsAt w v ps := by
  obtain ⟨n, xs, hs, hx⟩ := open_structs Try.underlying22 Try.underlying52 (by kernel_rfl) (by kernel_rfl) hv h
  obtain ⟨l, hl, rfl, hg⟩ := flat_of Pt.cells 4 (fun _ => rfl) (Pt.Ok w) n xs hs.1 fun i hi => by
    obtain ⟨u0, y0, m0, e0, h0⟩ := hx i hi 0 _ rfl
    obtain ⟨u1, y1, m1, e1, h1⟩ := hx i hi 1 _ rfl
    obtain ⟨u2, y2, m2, e2, h2⟩ := hx i hi 2 _ rfl
    obtain ⟨u3, y3, m3, e3, h3⟩ := hx i hi 3 _ rfl
    obtain ⟨z0, q0, _, w0⟩ := DataW.trod_int Try.underlying3 h0
    obtain ⟨z1, q1, _, w1⟩ := DataW.trod_int Try.underlying3 h1
    obtain ⟨z2, q2, _, w2⟩ := DataW.trod_string Try.underlying9 h2
    obtain ⟨gn, gxs, hgs, hgx⟩ := open_ones_in (e := 3) Try.underlying25 (by kernel_rfl) h3
    obtain ⟨gl, hgl, rfl, hgw⟩ := flat_of (fun x : Int => [Value.int .i64 x]) 1 (fun _ => rfl) Wide64 gn gxs hgs.1 fun j hj => by
      obtain ⟨u, y, m, hu, hy⟩ := hgx j hj
      obtain ⟨z, hz, _, hzw⟩ := DataW.trod_int Try.underlying3 hy
      simp at hz
      refine ⟨z, wide64_of_wf hzw, fun jj hjj => ?_⟩
      obtain rfl : jj = 0 := by omega
      simp [hu, hz]
    subst hgl
    simp at q0 q1 q2
    subst q0; subst q1; subst q2
    refine ⟨⟨z0, z1, z2, u3, gl⟩, ⟨wide64_of_wf w0, wide64_of_wf w1, w2, by rw [show gvs gl = gl.flatMap fun x => [Value.int .i64 x] from map_one _ _]; exact hgs, hgw⟩, fun j hj => ?_⟩
    match j, hj with
    | 0, _ => exact e0
    | 1, _ => exact e1
    | 2, _ => exact e2
    | 3, _ => exact e3
  subst hl
  exact ⟨l, hs, hg⟩
end Go.Proofs.Ytagklgodcbmcaaa
