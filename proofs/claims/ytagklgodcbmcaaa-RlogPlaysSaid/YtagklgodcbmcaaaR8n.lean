/-
  Chapter 8: the law's own helpers: kioskref7.Voters, entry, entries, small, base.
-/
import Derived.Test.YtagklgodcbmcaaaR8m
namespace Go.Proofs.Ytagklgodcbmcaaa
open Go.RowKit
def vtx (l : List Int) : List UInt8 := ib l.length ++ isb l
set_option maxRecDepth 100000 in
set_option maxHeartbeats 1000000 in
theorem ref7_voters (v : Value) (l : List Int) (w : World) (hs : SlAt w w.heap.size v 1 l.length (gvs l)) (hl : l.length ≤ 1000000) (hw : ∀ x ∈ l, Wide64 x) :
    Calls Try.prog 47 #[v] w fun e w' => e = .returned (.string ⟨(vtx l).toArray⟩) ∧ Only [] w w' := by
  obtain ⟨A, c, rfl⟩ := hs.shape
  have HS := Lib.hid hs
  have CI := Lib.hid (fun n w' (h : Wide64 n) => ref_int n w' h)
  have HW := Lib.hid hw
  have hil : (ib (l.length : Int)).length ≤ 10 := (ib_length _ ⟨by omega, by omega⟩).2
  clear hs hw
  go_enter Try.func47, Try.ntmps47
  go_wp2_with fail
  refine (CI.out _ _ ⟨by omega, by omega⟩).mono ?_
  rintro e w1 ⟨rfl, ho1⟩
  go_wp2_with fail
  go_loopw [3, 4] (fun s i wr => ∃ k : Nat, k ≤ l.length ∧ i = .int .i64 k ∧ s = .string ⟨(ib (l.length : Int) ++ isb (l.take k)).toArray⟩ ∧ Only [] w wr) (fun _ i _ => l.length - (intOf i).toNat)
  case atStart => exact ⟨0, by omega, rfl, by simp [isb], ho1⟩
  case round =>
    obtain ⟨k, hk, rfl, rfl, ho⟩ := hrel
    by_cases hlt : k < l.length
    · have hlt' : (k : Int) < (l.length : Int) := by omega
      obtain ⟨x, hx⟩ : ∃ x, l[k]? = some x := ⟨_, List.getElem?_eq_getElem hlt⟩
      obtain ⟨b1, o1, c1', e1, q1⟩ := gvs_at (HS.out.only ho (Nat.le_refl _) (by simp)) hx
      injection e1 with i1 i2 i3
      subst i1; subst i3
      have hxw := HW.out x (List.mem_of_getElem? hx)
      have hsn := isb_snoc l k x hx
      have hlen : (isb (l.take k)).length ≤ 10 * k := by
        have := isb_length (l.take k) (fun y hy => HW.out y (List.mem_of_mem_take hy))
        rw [List.length_take] at this; omega
      have hxl := (ib_length x hxw).2
      have HSN := Lib.hid hsn
      have CX := Lib.hid (CI.out x wr hxw)
      clear hx hsn hxw i2
      go_wp2_with fail
      refine CX.out.mono ?_
      rintro e w2 ⟨rfl, ho2⟩
      have hoD := ho.tr ho2
      clear ho2 CX
      go_wp2_with fail
      go_roundw
      case rel => exact ⟨k + 1, by omega, by go_num, by rw [HSN.out]; simp [ba_append], hoD⟩
      case measure => simp [intOf]; omega
    · have hd : decide ((k : Int) < (l.length : Int)) = false := by simp; omega
      go_wp2_with fail
      go_ret
      exact ⟨by rw [List.take_of_length_le (by omega)]; rfl, ho⟩
structure Pt where
  tm : Int
  kd : Int
  d : ByteArray
  vv : Value
  vs : List Int
def Pt.cells (p : Pt) : List Value := [.int .i64 p.tm, .int .i64 p.kd, .string p.d, p.vv]
def Pt.val (p : Pt) : Value := .agg #[.int .i64 p.tm, .int .i64 p.kd, .string p.d, p.vv]
structure Pt.Ok (W : World) (p : Pt) : Prop where
  tm : Wide64 p.tm
  kd : Wide64 p.kd
  size : p.d.size ≤ maxLen
  sl : SlAt W W.heap.size p.vv 1 p.vs.length (gvs p.vs)
  wide : ∀ x ∈ p.vs, Wide64 x
theorem Pt.Ok.only {w w' : World} {p : Pt} (h : p.Ok w) (ho : Only [] w w') : p.Ok w' :=
  ⟨h.tm, h.kd, h.size, (h.sl.only ho (Nat.le_refl _) (by simp)).more ho.size, h.wide⟩
def Pt.text (p : Pt) : ByteArray := if p.vs = [] then p.d else ⟨(vtx p.vs).toArray⟩
def Pt.en (p : Pt) (ix : Int) : En := ⟨ix, pickI p.tm 9, 1 + pickI p.kd 3, p.text⟩
set_option maxRecDepth 100000 in
set_option maxHeartbeats 2000000 in
theorem entry8 (p : Pt) (ix : Int) (w : World) (hp : p.Ok w) (hv : p.vs.length ≤ 30) :
    Calls Try.prog 30 #[p.val, .int .i64 ix] w fun e w' => e = .returned (p.en ix).val ∧ Only [] w w' := by
  obtain ⟨A, c, hvv⟩ := hp.sl.shape
  have htw := hp.tm
  have hkw := hp.kd
  obtain ⟨hpk0, hpk1⟩ := pickI_lt p.kd 3 (by omega)
  have HP := Lib.hid hp
  unfold Pt.val Pt.en
  rw [hvv]
  have hvlen : p.vs.length = p.vs.length := rfl
  have hA : Only [] w (((w.alloc (.cells #[.int .i64 p.tm, .int .i64 p.kd, .string p.d, .slice A p.vs.length c] 52))).alloc (.cells #[.int .i64 0, .int .i64 0, .int .i64 0, .string ⟨#[]⟩] 40)) := ((Only.refl _ w).alloc _).alloc _
  have hX := (Cells.new w 52 [.int .i64 p.tm, .int .i64 p.kd, .string p.d, .slice A p.vs.length c]).alloc (.cells #[.int .i64 0, .int .i64 0, .int .i64 0, .string ⟨#[]⟩] 40)
  have hZ := Cells.new (w.alloc (.cells #[.int .i64 p.tm, .int .i64 p.kd, .string p.d, .slice A p.vs.length c] 52)) 40 [.int .i64 0, .int .i64 0, .int .i64 0, .string ⟨#[]⟩]
  rw [show (w.alloc (.cells #[.int .i64 p.tm, .int .i64 p.kd, .string p.d, .slice A p.vs.length c] 52)).heap.size = w.heap.size + 1 from by simp] at hZ
  clear hp
  unfold En.val
  go_enter Try.func30, Try.ntmps30
  go_wp2_with fail
  obtain ⟨W0, hW0⟩ : ∃ W0, ((w.alloc (.cells #[.int .i64 p.tm, .int .i64 p.kd, .string p.d, .slice A p.vs.length c] 52)).alloc (.cells #[.int .i64 0, .int .i64 0, .int .i64 0, .string ⟨#[]⟩] 40)) = W0 := ⟨_, rfl⟩
  rw [hW0] at hA hX hZ ⊢
  clear hW0
  have x0 := hX.cell (k := 0) rfl
  have x1 := hX.cell (k := 1) rfl
  have x2 := hX.cell (k := 2) rfl
  have xl := hX.lt
  have xn : w.heap.size ≠ W0.heap.size := Nat.ne_of_lt xl
  have HXX := Lib.hid hX
  have HZZ := Lib.hid hZ
  have HAA := Lib.hid hA
  clear hX hZ hA
  go_region_held3 (fun w' => w'.cell? ⟨w.heap.size, 0, none⟩ = some (.int .i64 p.tm) ∧ w'.cell? ⟨w.heap.size, 1, none⟩ = some (.int .i64 p.kd) ∧ w'.cell? ⟨w.heap.size, 2, none⟩ = some (.string p.d)) (go_keep) ((go_at_call 22; refine (pick8 _ _ _ (by assumption) (by omega) (by omega)).mono ?_; rintro e w' ⟨rfl, rfl⟩))
  all_goals
    rename_i hHeld
    clear hHeld x0 x1 x2
    have hwr : IntKind.i64.wrap (1 + pickI p.kd 3) = 1 + pickI p.kd 3 := by rw [IntKind.wrap_i64]; omega
    rw [hwr]
    clear hwr
    have hC : Only [] w (W0.alloc (.cells #[.int .i64 ix, .int .i64 (pickI p.tm 9), .int .i64 (1 + pickI p.kd 3), .string p.d] 40)).drew := (HAA.out.alloc _).drew
    have hY : Cells (W0.alloc (.cells #[.int .i64 ix, .int .i64 (pickI p.tm 9), .int .i64 (1 + pickI p.kd 3), .string p.d] 40)).drew W0.heap.size 40 [.int .i64 ix, .int .i64 (pickI p.tm 9), .int .i64 (1 + pickI p.kd 3), .string p.d] := (Cells.new _ _ _).drew
    have hZ := (HZZ.out.alloc (.cells #[.int .i64 ix, .int .i64 (pickI p.tm 9), .int .i64 (1 + pickI p.kd 3), .string p.d] 40)).drew
    have hX := (HXX.out.alloc (.cells #[.int .i64 ix, .int .i64 (pickI p.tm 9), .int .i64 (1 + pickI p.kd 3), .string p.d] 40)).drew
    obtain ⟨W1, hW1⟩ : ∃ W1, (W0.alloc (.cells #[.int .i64 ix, .int .i64 (pickI p.tm 9), .int .i64 (1 + pickI p.kd 3), .string p.d] 40)).drew = W1 := ⟨_, rfl⟩
    obtain ⟨z, hz⟩ : ∃ z, W0.heap.size = z := ⟨_, rfl⟩
    have hsz : w.heap.size + 1 < z := by rw [← hz]; exact HZZ.out.lt
    rw [hW1] at hC hY hZ hX ⊢
    rw [hz] at hY xl xn ⊢
    clear hW1 hz
    have x3 := hX.cell (k := 3) rfl
    rcases Nat.eq_zero_or_pos p.vs.length with h0 | h0
    · have ht : Hid (p.text = p.d) := by show _ = _; unfold Pt.text; rw [if_pos (List.eq_nil_of_length_eq_zero h0)]
      have hd : decide ((0 : Int) < (p.vs.length : Int)) = false := by rw [h0]; rfl
      have y0 := hY.cell (k := 0) rfl
      have y1 := hY.cell (k := 1) rfl
      have y2 := hY.cell (k := 2) rfl
      have y3 := hY.cell (k := 3) rfl
      have r0 := hZ.cell (k := 0) rfl
      have r1 := hZ.cell (k := 1) rfl
      have r2 := hZ.cell (k := 2) rfl
      have r3 := hZ.cell (k := 3) rfl
      have g0 := hZ.frozen 0
      have g1 := hZ.frozen 1
      have g2 := hZ.frozen 2
      have g3 := hZ.frozen 3
      have zl := hZ.lt
      clear hZ hY hX
      go_wp2_with fail
      rw [ht.out]
      exact bodyPost_ret (v := .agg #[.int .i64 ix, .int .i64 (pickI p.tm 9), .int .i64 (1 + pickI p.kd 3), .string p.d]) (by simp [results, Try.results30, go_sem, *]) rfl ⟨rfl, (((hC.setCell (.inr (by simp)) _).setCell (.inr (by simp)) _).setCell (.inr (by simp)) _).setCell (.inr (by simp)) _⟩
    · have ht : Hid (p.text = ⟨(vtx p.vs).toArray⟩) := by show _ = _; unfold Pt.text; rw [if_neg (fun h => by rw [h] at h0; simp at h0)]
      have hd : decide ((0 : Int) < (p.vs.length : Int)) = true := by rw [decide_eq_true_eq]; omega
      have hPC := HP.out.only hC
      have hsl := hPC.sl
      rw [hvv] at hsl
      have CV := Lib.hid (ref7_voters (.slice A p.vs.length c) p.vs _ hsl (by omega) hPC.wide)
      have hzne : w.heap.size + 1 ≠ z := by omega
      have hnez : z ≠ w.heap.size + 1 := by omega
      have hwz : w.heap.size ≤ z := by omega
      clear hsl hPC
      go_wp2_with fail
      refine CV.out.mono ?_
      rintro e w2 ⟨rfl, ho2⟩
      have hY2 := hY.only ho2 (by simp)
      have hZ3 := hZ.only ho2 (by simp)
      have hD := hC.tr ho2
      have y0 := hY2.cell (k := 0) rfl
      have y1 := hY2.cell (k := 1) rfl
      have y2 := hY2.cell (k := 2) rfl
      have y3 := hY2.cell (k := 3) rfl
      have k3 := hY2.frozen 3
      have yl := hY2.lt
      have r0 := hZ3.cell (k := 0) rfl
      have r1 := hZ3.cell (k := 1) rfl
      have r2 := hZ3.cell (k := 2) rfl
      have r3 := hZ3.cell (k := 3) rfl
      have g0 := hZ3.frozen 0
      have g1 := hZ3.frozen 1
      have g2 := hZ3.frozen 2
      have g3 := hZ3.frozen 3
      have zl3 := hZ3.lt
      clear hZ hY hY2 hZ3 x3 hC CV hX
      go_wp2_with fail
      rw [ht.out]
      exact bodyPost_ret (v := .agg #[.int .i64 ix, .int .i64 (pickI p.tm 9), .int .i64 (1 + pickI p.kd 3), .string ⟨(vtx p.vs).toArray⟩]) (by simp [results, Try.results30, go_sem, *]) rfl ⟨rfl, ((((hD.setCell (.inr hwz) _).setCell (.inr (by simp)) _).setCell (.inr (by simp)) _).setCell (.inr (by simp)) _).setCell (.inr (by simp)) _⟩
end Go.Proofs.Ytagklgodcbmcaaa
