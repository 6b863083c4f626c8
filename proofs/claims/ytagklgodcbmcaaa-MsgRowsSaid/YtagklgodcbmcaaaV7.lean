/-
  Chapter 7: voters. (Printed by gen_v7.py out of XR8h, XR8m, XR8n, XQ8c.)
-/
import Derived.Test.YtagklgodcbmcaaaR8f
import Derived.Test.YtagklgodcbmcaaaRef1i
import Derived.Test.YtagklgodcbmcaaaWf
import Derived.Laws.StructEq
namespace Go.Proofs.Ytagklgodcbmcaaa
open Go.RowKit
theorem rdIs_len : ∀ (n : Nat) (s : List UInt8) (l : List Int) (r : List UInt8), rdIs n s = some (l, r) → l.length = n
  | 0, s, l, r, h => by simp [rdIs] at h; simp [← h.1]
  | n + 1, s, l, r, h => by
    unfold rdIs at h
    cases h1 : rdI s with
    | none => rw [h1] at h; simp at h
    | some p =>
      rw [h1] at h
      obtain ⟨x, q⟩ := p
      dsimp only at h
      cases h2 : rdIs n q with
      | none => rw [h2] at h; simp at h
      | some p2 =>
        obtain ⟨l2, r2⟩ := p2
        rw [h2] at h
        simp only [Option.map_some, Option.some.injEq, Prod.mk.injEq] at h
        obtain ⟨rfl, rfl⟩ := h
        simp [rdIs_len n q l2 r2 h2]
theorem rdVs_len {s : List UInt8} {l : List Int} {r : List UInt8} (h : rdVs s = some (l, r)) : l.length ≤ 9 := by
  unfold rdVs at h
  cases h1 : rdI s with
  | none => rw [h1] at h; simp at h
  | some p =>
    rw [h1] at h
    obtain ⟨n, q⟩ := p
    dsimp only at h
    split at h
    · simp at h
    · have := rdIs_len _ _ _ _ h; omega
theorem vsL_len (s : List UInt8) : (vsL s).length ≤ 9 := by
  unfold vsL
  cases h : rdVs s with
  | none => simp
  | some p => exact rdVs_len (l := p.1) (r := p.2) h
def pickI (c n : Int) : Int := if c < 0 then -(c + 1) % n else c % n
theorem pickI_lt (c n : Int) (hn : 0 < n) : 0 ≤ pickI c n ∧ pickI c n < n := by
  unfold pickI
  split
  · exact ⟨Int.emod_nonneg _ (by omega), Int.emod_lt_of_pos _ hn⟩
  · exact ⟨Int.emod_nonneg _ (by omega), Int.emod_lt_of_pos _ hn⟩
theorem gvs_inj {a b : List Int} (h : gvs a = gvs b) : a = b := by
  induction a generalizing b with
  | nil => cases b with
    | nil => rfl
    | cons => simp [gvs] at h
  | cons x r ih => cases b with
    | nil => simp [gvs] at h
    | cons y t => simp only [gvs, List.map_cons, List.cons.injEq, Value.int.injEq, true_and] at h; rw [h.1, ih h.2]
theorem gvs_at {w : World} {B n : Nat} {v : Value} {l : List Int} (h : SlAt w B v 1 l.length (gvs l)) {x : Int} (hx : l[n]? = some x) : ∃ b o c, v = .slice (some ⟨b, o, none⟩) l.length c ∧ w.cell? ⟨b, o + n, none⟩ = some (.int .i64 x) := by
  have hn := (List.getElem?_eq_some_iff.1 hx).1
  obtain ⟨b, o, c, hv, hc, _⟩ := gvs_cell h hn
  refine ⟨b, o, c, hv, ?_⟩
  rw [List.getElem?_eq_getElem hn] at hx
  injection hx with hx
  rw [← hx]; exact hc
theorem toList_inj {a b : ByteArray} (h : a.toList = b.toList) : a = b := by
  rw [ByteArray.toList_eq, ByteArray.toList_eq] at h
  obtain ⟨⟨a⟩⟩ := a
  obtain ⟨⟨b⟩⟩ := b
  simp at h
  rw [h]
theorem enL_at {w : World} {B n : Nat} {v : Value} {l : List En} (h : SlAt w B v 4 l.length (enL l)) {x : En} (hx : l[n]? = some x) :
    ∃ b o c, v = .slice (some ⟨b, o, none⟩) l.length c ∧ w.cell? ⟨b, o + n * 4, none⟩ = some (.int .i64 x.ix) ∧ w.cell? ⟨b, o + n * 4 + 1, none⟩ = some (.int .i64 x.tm) ∧ w.cell? ⟨b, o + n * 4 + 2, none⟩ = some (.int .i64 x.kd) ∧ w.cell? ⟨b, o + n * 4 + 3, none⟩ = some (.string x.d) := by
  have hn := (List.getElem?_eq_some_iff.1 hx).1
  obtain ⟨b, o, c, hv, _, hc⟩ := h.at_ (by omega)
  have key : ∀ j u, j < 4 → x.cells[j]? = some u → w.cell? ⟨b, o + n * 4 + j, none⟩ = some u := by
    intro j u hj hu
    rw [Nat.add_assoc]
    exact hc _ u (by rw [enL_get hx j hj]; exact hu)
  exact ⟨b, o, c, hv, key 0 _ (by omega) rfl, key 1 _ (by omega) rfl, key 2 _ (by omega) rfl, key 3 _ (by omega) rfl⟩
theorem cells_own {w : World} {b : Nat} {t : TypeId} {cs : List Value} {n sz : Nat} (h : Cells w b t cs) (hn : n ≤ maxLen) (hl : cs.length = n * sz) : w.ownsRow 0 t sz (.slice (some ⟨b, 0, none⟩) n n) n cs :=
  block_own (Nat.zero_le _) h (Nat.le_refl _) hn hl (by rw [List.take_of_length_le (by omega)])
def vtx (l : List Int) : List UInt8 := ib l.length ++ isb l
set_option maxRecDepth 100000 in
set_option maxHeartbeats 1000000 in
theorem ref7_voters (v : Value) (l : List Int) (w : World) (hs : SlAt w w.heap.size v 1 l.length (gvs l)) (hl : l.length ≤ 1000000) (hw : ∀ x ∈ l, Wide64 x) :
    Calls Try.prog 47 #[v] w fun e w' => e = .returned (.string ⟨(vtx l).toArray⟩) ∧ Only [] w w' := by
  obtain ⟨A, c, rfl⟩ := hs.shape
  have HS := Lib.hid hs
  have CI := Lib.hid (fun n w' (h : Wide64 n) => ref_int n w' h)
  have HW := Lib.hid hw
  have hil : (ib (l.length : Int)).length ≤ 10 := (ib_length _ ⟨by omega, by omega⟩).2
  clear hs hw
  go_enter Try.func47, Try.ntmps47
  go_wp2_with fail
  refine (CI.out _ _ ⟨by omega, by omega⟩).mono ?_
  rintro e w1 ⟨rfl, ho1⟩
  go_wp2_with fail
  go_loopw [3, 4] (fun s i wr => ∃ k : Nat, k ≤ l.length ∧ i = .int .i64 k ∧ s = .string ⟨(ib (l.length : Int) ++ isb (l.take k)).toArray⟩ ∧ Only [] w wr) (fun _ i _ => l.length - (intOf i).toNat)
  case atStart => exact ⟨0, by omega, rfl, by simp [isb], ho1⟩
  case round =>
    obtain ⟨k, hk, rfl, rfl, ho⟩ := hrel
    by_cases hlt : k < l.length
    · have hlt' : (k : Int) < (l.length : Int) := by omega
      obtain ⟨x, hx⟩ : ∃ x, l[k]? = some x := ⟨_, List.getElem?_eq_getElem hlt⟩
      obtain ⟨b1, o1, c1', e1, q1⟩ := gvs_at (HS.out.only ho (Nat.le_refl _) (by simp)) hx
      injection e1 with i1 i2 i3
      subst i1; subst i3
      have hxw := HW.out x (List.mem_of_getElem? hx)
      have hsn := isb_snoc l k x hx
      have hlen : (isb (l.take k)).length ≤ 10 * k := by
        have := isb_length (l.take k) (fun y hy => HW.out y (List.mem_of_mem_take hy))
        rw [List.length_take] at this; omega
      have hxl := (ib_length x hxw).2
      have HSN := Lib.hid hsn
      have CX := Lib.hid (CI.out x wr hxw)
      clear hx hsn hxw i2
      go_wp2_with fail
      refine CX.out.mono ?_
      rintro e w2 ⟨rfl, ho2⟩
      have hoD := ho.tr ho2
      clear ho2 CX
      go_wp2_with fail
      go_roundw
      case rel => exact ⟨k + 1, by omega, by go_num, by rw [HSN.out]; simp [ba_append], hoD⟩
      case measure => simp [intOf]; omega
    · have hd : decide ((k : Int) < (l.length : Int)) = false := by simp; omega
      go_wp2_with fail
      go_ret
      exact ⟨by rw [List.take_of_length_le (by omega)]; rfl, ho⟩
set_option maxRecDepth 100000 in
set_option maxHeartbeats 2000000 in
theorem ref7_toVoters (s : List UInt8) (w : World) (hl : s.length ≤ 1000000000000) :
    Calls Try.prog 83 #[.string ⟨s.toArray⟩] w fun e w' => ∃ v', e = .returned (.tuple #[v', .string ⟨(vsR s).toArray⟩, .bool (rdVs s).isSome]) ∧ w'.ownsRow w.heap.size 3 1 v' (vsL s).length (gvs (vsL s)) ∧ Only [] w w' := by
  obtain ⟨i0, hi0, hz0, hz1, hz2⟩ := info_parts info_int
  have CT := Lib.hid (fun (s' : List UInt8) (hs : s'.length ≤ s.length) w' => ref_toInt s' w' (by omega))
  cases hr : rdI s with
  | none =>
    have hv : Hid (rdVs s = none) := by show _ = _; unfold rdVs; rw [hr]
    have C0 := CT.out s (Nat.le_refl _) w
    rw [hr] at C0
    unfold rdV at C0
    clear hr CT
    go_enter Try.func83, Try.ntmps83
    go_wp2_with fail
    refine C0.mono ?_
    clear C0
    rintro e w1 ⟨rfl, ho1⟩
    go_wp2_with fail
    go_ret3
    refine ⟨.slice none 0 0, ?_, ?_, ho1⟩
    · unfold vsR; rw [hv.out]; rfl
    · unfold vsL; rw [hv.out]; exact World.ownsRow_nil _ _ _ _
  | some p =>
    obtain ⟨n, r⟩ := p
    have hrl := rdI_len hr
    have C0 := CT.out s (Nat.le_refl _) w
    rw [hr] at C0
    unfold rdV at C0
    by_cases hn0 : n < 0
    · have hv : Hid (rdVs s = none) := by show _ = _; unfold rdVs; rw [hr]; simp [hn0]
      have d0 : decide (n < 0) = true := by simpa using hn0
      clear hr CT hn0
      go_enter Try.func83, Try.ntmps83
      go_wp2_with fail
      refine C0.mono ?_
      clear C0
      rintro e w1 ⟨rfl, ho1⟩
      go_wp2_with fail
      go_ret3
      refine ⟨.slice none 0 0, ?_, ?_, ho1⟩
      · unfold vsR; rw [hv.out]; rfl
      · unfold vsL; rw [hv.out]; exact World.ownsRow_nil _ _ _ _
    · have d0 : decide (n < 0) = false := by simpa using hn0
      by_cases hn9 : 9 < n
      · have hv : Hid (rdVs s = none) := by show _ = _; unfold rdVs; rw [hr]; simp [hn9]
        have d1 : decide (9 < n) = true := by simpa using hn9
        clear hr CT hn0 hn9
        go_enter Try.func83, Try.ntmps83
        go_wp2_with fail
        refine C0.mono ?_
        clear C0
        rintro e w1 ⟨rfl, ho1⟩
        go_wp2_with fail
        go_ret3
        refine ⟨.slice none 0 0, ?_, ?_, ho1⟩
        · unfold vsR; rw [hv.out]; rfl
        · unfold vsL; rw [hv.out]; exact World.ownsRow_nil _ _ _ _
      · have d1 : decide (9 < n) = false := by simpa using hn9
        obtain ⟨m, rfl⟩ : ∃ m : Nat, n = m := ⟨n.toNat, by omega⟩
        have hm9 : m ≤ 9 := by omega
        have hv : Hid (rdVs s = rdIs m r) := by show _ = _; unfold rdVs; rw [hr]; show (if _ then _ else _) = _; rw [if_neg (by omega), Int.toNat_natCast]
        clear hr hn0 hn9
        go_enter Try.func83, Try.ntmps83
        go_wp2_with fail
        refine C0.mono ?_
        clear C0
        rintro e w1 ⟨rfl, ho1⟩
        go_wp2_with fail
        go_loopw [6, 8, 9] (fun t u i wr => ∃ (k : Nat) (l : List Int) (q : List UInt8), k ≤ m ∧ i = .int .i64 k ∧ t = .string ⟨q.toArray⟩ ∧ q.length ≤ s.length ∧ l.length = k ∧ Hid (wr.ownsRow w.heap.size 3 1 u k (gvs l)) ∧ Only [] w wr ∧ Hid (rdIs m r = (rdIs (m - k) q).map fun (l', z) => (l ++ l', z))) (fun t u i _ => m - (intOf i).toNat)
        case atStart => exact ⟨0, [], r, by omega, rfl, rfl, hrl, rfl, Lib.hid (World.ownsRow_nil _ _ _ _), ho1, by show _ = _; cases rdIs m r <;> simp⟩
        case round =>
          obtain ⟨k, l, q, hk, rfl, rfl, hq, hlk, hown, ho, hgo⟩ := hrel
          by_cases hlt : k < m
          · have hlt' : (k : Int) < (m : Int) := by omega
            have hg2 : Hid (rdIs (m - k) q = match rdI q with | none => none | some (x, r) => (rdIs (m - (k + 1)) r).map fun (l, q) => (x :: l, q)) := by show _ = _; rw [show m - k = (m - (k + 1)) + 1 from by omega]; rfl
            have C1 := Lib.hid (CT.out q hq wr)
            cases hr2 : rdI q with
            | none =>
              rw [hr2] at C1 hg2
              have hv2 : Hid (rdVs s = none) := by show _ = _; rw [hv.out, hgo.out, hg2.out]; rfl
              unfold rdV at C1
              clear hr2 hgo hg2
              go_wp2_with fail
              refine C1.out.mono ?_
              rintro e w2 ⟨rfl, ho2⟩
              go_wp2_with fail
              go_ret3
              refine ⟨.slice none 0 0, ?_, ?_, ho.tr ho2⟩
              · unfold vsR; rw [hv2.out]; rfl
              · unfold vsL; rw [hv2.out]; exact World.ownsRow_nil _ _ _ _
            | some p =>
              obtain ⟨x, r2⟩ := p
              have hrl2 := rdI_len hr2
              rw [hr2] at C1 hg2
              unfold rdV at C1
              clear hr2
              have hg3 : Hid (rdIs m r = (rdIs (m - (k + 1)) r2).map fun (l', z) => ((l ++ [x]) ++ l', z)) := by
                show _ = _
                rw [hgo.out, hg2.out]
                dsimp only
                cases rdIs (m - (k + 1)) r2 <;> simp
              clear hgo hg2
              go_wp2_with fail
              refine C1.out.mono ?_
              rintro e w2 ⟨rfl, ho2⟩
              have hown2 := Lib.hid (own_only hown.out ho2 (by simp))
              have hsz := (ho.tr ho2).size
              have hoD := ho.tr ho2
              clear C1 hown ho2
              go_wp2_with (at_builtin
                           refine wpList_app rfl _ _ 25 rfl w.heap.size 3 i0 _ 1 8 Try.underlying25 hi0 hz0 hz1 hz2 rfl (by decide) w2 u8 k (gvs l) rfl hown2.out 1 1 [.int .i64 x] rfl rfl (by simp [Value.oneCell']) (by simp only [maxLen]; omega) (by omega) hsz ?_
                           intro v' w' hown' hgrow _)
              go_roundw
              case rel => exact ⟨k + 1, l ++ [x], r2, by omega, by go_num, rfl, by omega, by simp [hlk], Lib.hid (by rw [show gvs (l ++ [x]) = gvs l ++ [.int .i64 x] from by simp [gvs]]; exact hown'), hoD.own hown2.out hgrow (Nat.le_refl _), hg3⟩
              case measure => simp [intOf]; omega
          · have hd : decide ((k : Int) < (m : Int)) = false := by simp; omega
            have hkm : k = m := by omega
            have hv2 : Hid (rdVs s = some (l, q)) := by show _ = _; rw [hv.out, hgo.out, hkm, Nat.sub_self]; simp [rdIs]
            go_wp2_with fail
            go_ret3
            refine ⟨u8, ?_, ?_, ho⟩
            · unfold vsR; rw [hv2.out]; rfl
            · unfold vsL; rw [hv2.out]; show World.ownsRow _ _ _ _ _ l.length _; rw [hlk]; exact hown.out
def RiseAt (l : List Int) (j : Nat) : Prop := ∀ x, l[j]? = some x → 1 ≤ x ∧ x ≤ 9 ∧ (0 < j → ∀ y, l[j - 1]? = some y → y < x)
def Rise (l : List Int) : Prop := ∀ j, RiseAt l j
set_option maxRecDepth 100000 in
set_option maxHeartbeats 2000000 in
theorem ref7_rising (v : Value) (l : List Int) (w : World) (hs : SlAt w w.heap.size v 1 l.length (gvs l)) (hl : l.length ≤ 1000000) :
    Calls Try.prog 80 #[v] w fun e w' => ∃ b, e = .returned (.bool b) ∧ (b = true ↔ Rise l ∧ l.length ≤ 9) ∧ Only [] w w' := by
  obtain ⟨A, c, rfl⟩ := hs.shape
  have HS := Lib.hid hs
  clear hs
  go_enter Try.func80, Try.ntmps80
  go_wp2_with fail
  go_loopw [3] (fun i wr => ∃ k : Nat, k ≤ l.length ∧ i = .int .i64 k ∧ Only [] w wr ∧ Hid (∀ j, j < k → RiseAt l j)) (fun i _ => l.length - (intOf i).toNat)
  case atStart => exact ⟨0, by omega, rfl, Only.refl _ _, Lib.hid fun j hj => by omega⟩
  case round =>
    obtain ⟨k, hk, rfl, ho, hall⟩ := hrel
    by_cases hlt : k < l.length
    · have hlt' : (k : Int) < (l.length : Int) := by omega
      obtain ⟨x, hx⟩ : ∃ x, l[k]? = some x := ⟨_, List.getElem?_eq_getElem hlt⟩
      have hS := HS.out.only ho (Nat.le_refl _) (by simp)
      obtain ⟨b1, o1, c1', e1, q1⟩ := gvs_at hS hx
      have hv1 := e1
      injection e1 with i1 i2 i3
      subst i1
      subst i3
      have p1 := fun u : Since wr => u.cell q1
      have HX := Lib.hid hx
      clear i2 hx hv1
      have hbad : ¬ RiseAt l k → Hid (¬ (Rise l ∧ l.length ≤ 9)) := fun h => by show ¬ _; intro ⟨h1, _⟩; exact h (h1 k)
      have HBAD := Lib.hid hbad
      clear hbad
      by_cases h1 : x < 1
      · have d1 : decide (x < 1) = true := by simpa using h1
        have hb := HBAD.out (fun h => by have := h x HX.out; omega)
        clear q1 hS
        go_wp2_with fail
        refine wp_region_only wr (Only.refl _ _) (by kernel_rfl) (by kernel_rfl) ?_
        repeat (go_big_quiet_step (fail))
        refine wpQuiet_nil ?_
        rintro ⟨w2, ho2⟩
        dsimp only
        go_wp2_with fail
        go_ret
        exact ⟨false, rfl, by simpa using hb.out, ho.tr ho2⟩
      · have d1 : decide (x < 1) = false := by simpa using h1
        by_cases h9 : 9 < x
        · have d2 : decide (9 < x) = true := by simpa using h9
          have hb := HBAD.out (fun h => by have := h x HX.out; omega)
          clear q1 hS
          go_wp2_with fail
          refine wp_region_only wr (Only.refl _ _) (by kernel_rfl) (by kernel_rfl) ?_
          repeat (go_big_quiet_step (fail))
          refine wpQuiet_nil ?_
          rintro ⟨w2, ho2⟩
          dsimp only
          go_wp2_with fail
          go_ret
          exact ⟨false, rfl, by simpa using hb.out, ho.tr ho2⟩
        · have d2 : decide (9 < x) = false := by simpa using h9
          cases k with
          | zero =>
            have hr0 : Hid (∀ j, j < 0 + 1 → RiseAt l j) := Lib.hid fun j hj => by
              obtain rfl : j = 0 := by omega
              intro z hz
              rw [HX.out] at hz
              injection hz with hz
              subst hz
              exact ⟨by omega, by omega, fun h => by omega⟩
            have d3 : decide ((0 : Int) < ((0 : Nat) : Int)) = false := by simp
            have p1' : ∀ u : Since wr, u.w.cell? ⟨b1, o1, none⟩ = some (.int .i64 x) := p1
            clear q1 hS p1
            go_wp2_with fail
            refine wp_region_only wr (Only.refl _ _) (by kernel_rfl) (by kernel_rfl) ?_
            repeat (go_big_quiet_step (fail))
            refine wpQuiet_nil ?_
            rintro ⟨w2, ho2⟩
            dsimp only
            go_wp2_with fail
            go_roundw
            case rel => exact ⟨0 + 1, by omega, by go_num, ho.tr ho2, hr0⟩
            case measure => simp [intOf]; omega
          | succ k =>
            obtain ⟨y, hy⟩ : ∃ y, l[k]? = some y := ⟨_, List.getElem?_eq_getElem (by omega)⟩
            obtain ⟨b2, o2, c2', e2, q2⟩ := gvs_at hS hy
            injection e2 with i1 i2 i3
            injection i1 with i1
            injection i1 with i4 i5
            subst i4
            subst i5
            have p2 := fun u : Since wr => u.cell q2
            have HY := Lib.hid hy
            have sk : ((k + 1 : Nat) : Int) - 1 = (k : Int) := by omega
            have sk1 : (0 : Int) < ((k + 1 : Nat) : Int) := by omega
            have sk2 : (k : Int) < (l.length : Int) := by omega
            clear q1 q2 hS i2 i3 hy
            by_cases hxy : x ≤ y
            · have d3 : decide (x ≤ y) = true := by simpa using hxy
              have hb := HBAD.out (fun h => by have := (h x HX.out).2.2 (by omega) y HY.out; omega)
              go_wp2_with fail
              refine wp_region_only wr (Only.refl _ _) (by kernel_rfl) (by kernel_rfl) ?_
              repeat (go_big_quiet_step (fail))
              refine wpQuiet_nil ?_
              rintro ⟨w2, ho2⟩
              dsimp only
              go_wp2_with fail
              go_ret
              exact ⟨false, rfl, by simpa using hb.out, ho.tr ho2⟩
            · have d3 : decide (x ≤ y) = false := by simpa using hxy
              have hr1 : Hid (∀ j, j < k + 1 + 1 → RiseAt l j) := Lib.hid fun j hj => by
                by_cases hjk : j < k + 1
                · exact hall.out j hjk
                · obtain rfl : j = k + 1 := by omega
                  intro z hz
                  rw [HX.out] at hz
                  injection hz with hz
                  subst hz
                  refine ⟨by omega, by omega, fun _ y' hy' => ?_⟩
                  rw [show k + 1 - 1 = k from rfl, HY.out] at hy'
                  injection hy' with hy'
                  omega
              go_wp2_with fail
              refine wp_region_only wr (Only.refl _ _) (by kernel_rfl) (by kernel_rfl) ?_
              repeat (go_big_quiet_step (fail))
              refine wpQuiet_nil ?_
              rintro ⟨w2, ho2⟩
              dsimp only
              go_wp2_with fail
              go_roundw
              case rel => exact ⟨k + 1 + 1, by omega, by go_num, ho.tr ho2, hr1⟩
              case measure => simp [intOf]; omega
    · have hd : decide ((k : Int) < (l.length : Int)) = false := by simp; omega
      have hR : Hid (Rise l) := Lib.hid fun j x hx => hall.out j (by have := (List.getElem?_eq_some_iff.1 hx).1; omega) x hx
      go_wp2_with fail
      go_ret
      refine ⟨decide ((l.length : Int) ≤ 9), rfl, ?_, ho⟩
      rw [decide_eq_true_eq]
      exact ⟨fun h => ⟨hR.out, by omega⟩, fun h => by omega⟩
end Go.Proofs.Ytagklgodcbmcaaa
