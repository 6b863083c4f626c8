/-
  Chapter 18: replies: plain; the program's Answer.
-/
import Derived.Test.YtjfnkjpnjiobjaaC18n
import Derived.Test.YtjfnkjpnjiobjaaItm17
namespace Go.Proofs.Ytjfnkjpnjiobjaa
open Go.RowKit
structure Rp where
  er : Int
  n : Int
  ps : List Po
def Rp.val (r : Rp) (pv : Value) : Value := .agg #[.int .i64 r.er, .int .i64 r.n, pv]
def poB (x : Po) : List UInt8 := ib x.sq ++ (itB x.it ++ bb x.rd)
def psB (l : List Po) : List UInt8 := l.flatMap poB
def rpH (r : Rp) : List UInt8 := ib r.er ++ (ib r.n ++ ib r.ps.length)
def rpb (r : Rp) : List UInt8 := rpH r ++ psB r.ps
structure Po.Sm (x : Po) : Prop where
  sq : Wide64 x.sq
  it : x.it.Sm
theorem poB_le (x : Po) (h : x.Sm) : (poB x).length ≤ 3000041 := by
  have h1 := itB_le x.it h.it
  have h2 := (ib_length x.sq h.sq).2
  have h3 : (bb x.rd).length = 1 := rfl
  unfold poB
  rw [List.length_append, List.length_append]
  omega
theorem psB_le : ∀ (l : List Po), (∀ x ∈ l, x.Sm) → (psB l).length ≤ 3000041 * l.length
  | [], _ => by simp [psB]
  | x :: r, h => by
    have h1 := poB_le x (h x (by simp))
    have h2 := psB_le r (fun y hy => h y (by simp [hy]))
    unfold psB at h2 ⊢
    rw [List.flatMap_cons, List.length_append, List.length_cons]
    omega
theorem psB_snoc (l : List Po) (k : Nat) (x : Po) (h : l[k]? = some x) : psB (l.take (k + 1)) = psB (l.take k) ++ poB x := by
  unfold psB
  rw [List.take_add_one, h, List.flatMap_append]
  simp
theorem psB_take (l : List Po) (h : ∀ x ∈ l, x.Sm) (k : Nat) : (psB (l.take k)).length ≤ 3000041 * l.length := by
  have h1 := psB_le (l.take k) (fun x hx => h x (List.mem_of_mem_take hx))
  rw [List.length_take] at h1
  have h2 : min k l.length ≤ l.length := Nat.min_le_right _ _
  have := Nat.mul_le_mul_left 3000041 h2
  omega
/-- A reply whose posts lie in memory. -/
structure RpAt (w : World) (pv : Value) (r : Rp) : Prop where
  ps : SlAt w w.heap.size pv 5 r.ps.length (poL r.ps)
  er : Wide64 r.er
  n : Wide64 r.n
  sm : ∀ x ∈ r.ps, x.Sm
  len : r.ps.length ≤ 1000
theorem RpAt.only {w w' : World} {pv : Value} {r : Rp} (h : RpAt w pv r) (ho : Only [] w w') : RpAt w' pv r := ⟨(h.ps.only ho (Nat.le_refl _) (by simp)).more ho.size, h.er, h.n, h.sm, h.len⟩
theorem IsBld.lt' {T : TypeId} {B b : Nat} {l : List UInt8} {w : World} (h : IsBld T B b l w) : b < w.heap.size := by
  rcases h with ⟨_, v, hc, _⟩ | ⟨_, v, hc, _⟩ <;> exact hc.lt
set_option maxRecDepth 100000 in
set_option maxHeartbeats 4000000 in
theorem cmd_answer (r : Rp) (pv : Value) (w : World) (h : RpAt w pv r) :
    Calls Try.prog 37 #[r.val pv] w fun e w' => e = .returned (.string ⟨(rpb r).toArray⟩) ∧ Only [] w w' := by
  have hmf : ∀ (fn : Fn) (first cap : Array Value) (w : World), (Instr.makeFunc fn first cap).run Try.prog w = .ok (.func fn first cap) w := fun _ _ _ _ => rfl
  obtain ⟨IA, ic, rfl⟩ := h.ps.shape
  have H := Lib.hid h
  have hnl := h.len
  have hwl : Wide64 (r.ps.length : Int) := ⟨by omega, by omega⟩
  obtain ⟨w0, hw0⟩ : ∃ w0, w.alloc (.cells #[.int .i64 r.er, .int .i64 r.n, .slice IA r.ps.length ic] 67) = w0 := ⟨_, rfl⟩
  obtain ⟨z0, hz0⟩ : ∃ z, w.heap.size = z := ⟨_, rfl⟩
  have O0 : Only [] w w0 := hw0 ▸ (Only.refl _ _).alloc _
  have HZ0 : Hid (Cells w0 z0 67 [.int .i64 r.er, .int .i64 r.n, .slice IA r.ps.length ic]) := Lib.hid (hw0 ▸ hz0 ▸ Cells.new w _ _)
  have hz00 : z0 < w0.heap.size := HZ0.out.lt
  have HO0 := Lib.hid O0
  unfold Rp.val
  obtain ⟨w2, hw2⟩ : ∃ w2, w0.alloc (.cells #[.pointer none, .slice none 0 0] 110) = w2 := ⟨_, rfl⟩
  obtain ⟨z, hz⟩ : ∃ z, w0.heap.size = z := ⟨_, rfl⟩
  have O2 : Only [] w0 w2 := hw2 ▸ (Only.refl _ _).alloc _
  have HB2 : Hid (IsBld 110 z z [] w2) := Lib.hid (.inl (hw2 ▸ hz ▸ Bld.new 110 w0))
  have hz2 : z ≤ w2.heap.size := hz ▸ O2.size
  have HZ2 := Lib.hid (HZ0.out.only O2 (by simp))
  have hz0z : z0 < z := hz ▸ hz00
  have hzw : w0.heap.size = z := hz
  have c0 := HZ2.out.cell (k := 0) rfl
  have c1 := HZ2.out.cell (k := 1) rfl
  have c2 := HZ2.out.cell (k := 2) rfl
  obtain ⟨w3, hw3⟩ : ∃ w3, w2.alloc (.cells #[.int .i64 r.er, .int .i64 r.n, .int .i64 (r.ps.length : Int)] 3) = w3 := ⟨_, rfl⟩
  obtain ⟨y3, hy3⟩ : ∃ y, w2.heap.size = y := ⟨_, rfl⟩
  have O3 : Only [] w2 w3 := hw3 ▸ (Only.refl _ _).alloc _
  have hC3 : Cells w3 y3 3 (gvs [r.er, r.n, (r.ps.length : Int)]) := hw3 ▸ hy3 ▸ Cells.new w2 _ _
  have CI := Lib.hid (cw_ints z z y3 [] [r.er, r.n, (r.ps.length : Int)] 3 rfl w3 (HB2.out.only O3) (Nat.le_trans hz2 O3.size) (by simp) (by simp) (by intro x hx; simp at hx; rcases hx with rfl | rfl | rfl; exact h.er; exact h.n; exact hwl) hC3)
  rw [List.nil_append] at CI
  have hHH : isb [r.er, r.n, (r.ps.length : Int)] = rpH r := by unfold isb rpH; simp
  have hHl : (rpH r).length ≤ 100 := by
    have h1 := (ib_length r.er h.er).2
    have h2 := (ib_length r.n h.n).2
    have h3 := (ib_length _ hwl).2
    unfold rpH
    rw [List.length_append, List.length_append]
    omega
  rw [hHH] at CI
  have HB23 : Hid (Below z w0 w3) := Lib.hid ((O2.tr O3).below.mono (by rw [hz]; exact Nat.le_refl _))
  have HT := Lib.hid (psB_take r.ps h.sm)
  have HSI := Lib.hid h.sm
  have HCM : Hid (rpb r = rpH r ++ psB r.ps) := Lib.hid rfl
  obtain ⟨MA, hMA⟩ : ∃ M, rpH r = M := ⟨_, rfl⟩
  rw [hMA] at CI hHl HCM
  clear O3 hC3 O2 hHH hMA h
  go_enter Try.func37, Try.ntmps37
  go_wp2_with fail
  refine CI.out.mono ?_
  rintro e w8 ⟨rfl, hb8, hbe8, _⟩
  have HBE8 := Lib.hid (HB23.out.trans hbe8)
  have HB8 : Hid (IsBld 110 z z (MA ++ psB (r.ps.take 0)) w8) := Lib.hid (by rw [List.take_zero]; simpa [psB] using hb8)
  have HZ8 : Hid (Cells w8 z0 67 [.int .i64 r.er, .int .i64 r.n, .slice IA r.ps.length ic]) := Lib.hid ((HBE8.out.block z0 hz0z).trans HZ0.out)
  clear hb8 hbe8 CI HB23 hw0 hz0 hw2 hz hw3 hy3 c0 c1 c2 HZ2
  have c2 := HZ8.out.cell (k := 2) rfl
  go_wp2_with fail
  clear c2
  go_loopw [21] (fun n wr => ∃ k : Nat, k ≤ r.ps.length ∧ n = .int .i64 k ∧ Hid (IsBld 110 z z (MA ++ psB (r.ps.take k)) wr) ∧ Hid (Below z w0 wr)) (fun n _ => r.ps.length - (intOf n).toNat)
  case atStart => exact ⟨0, by omega, rfl, HB8, HBE8⟩
  case round =>
    obtain ⟨k, hk, rfl, hb, hbe⟩ := hrel
    have hln := HT.out k
    have hsz : 3000041 * r.ps.length ≤ 3000041000 := by omega
    have hzr : z ≤ wr.heap.size := Nat.le_trans (by omega) hbe.out.size
    have hor : Only [] w0 wr := Only.of_below (hbe.out.mono (by omega))
    by_cases hlt : k < r.ps.length
    · have hlt' : (k : Int) < (r.ps.length : Int) := by omega
      obtain ⟨x, hx⟩ : ∃ x, r.ps[k]? = some x := ⟨_, List.getElem?_eq_getElem hlt⟩
      obtain ⟨b1, o1, c1', e1, q0, q1, q2, q3, q4⟩ := poL_at (H.out.only (HO0.out.tr hor)).ps rfl hx
      have hxs := HSI.out x (List.mem_of_getElem? hx)
      have hsn := psB_snoc r.ps k x hx
      injection e1 with i1 i2 i3
      subst i1
      subst i3
      obtain ⟨wx, hwx⟩ : ∃ wx, wr.alloc (.cells #[.int .i64 x.sq, .string ⟨x.it.id.toArray⟩, .string ⟨x.it.ti.toArray⟩, .string ⟨x.it.li.toArray⟩, .bool x.rd] 38) = wx := ⟨_, rfl⟩
      obtain ⟨bx, hbx⟩ : ∃ b, wr.heap.size = b := ⟨_, rfl⟩
      have OX : Only [] wr wx := hwx ▸ (Only.refl _ _).alloc _
      have hCX : Cells wx bx 38 [.int .i64 x.sq, .string ⟨x.it.id.toArray⟩, .string ⟨x.it.ti.toArray⟩, .string ⟨x.it.li.toArray⟩, .bool x.rd] := hwx ▸ hbx ▸ Cells.new wr _ _
      obtain ⟨wy, hwy⟩ : ∃ wy, wx.alloc (.cells #[.int .i64 x.sq] 3) = wy := ⟨_, rfl⟩
      obtain ⟨by_, hby⟩ : ∃ b, wx.heap.size = b := ⟨_, rfl⟩
      have OY : Only [] wx wy := hwy ▸ (Only.refl _ _).alloc _
      have hCY : Cells wy by_ 3 (gvs [x.sq]) := hwy ▸ hby ▸ Cells.new wx _ _
      have hzx : z ≤ wx.heap.size := Nat.le_trans hzr OX.size
      have hzy : z ≤ wy.heap.size := Nat.le_trans hzx OY.size
      have hxq := (ib_length x.sq hxs.sq).2
      have hxi := itB_le x.it hxs.it
      obtain ⟨L, hL⟩ : ∃ L, MA ++ psB (r.ps.take k) = L := ⟨_, rfl⟩
      have hLl : L.length ≤ 3000041200 := by rw [← hL, List.length_append]; omega
      have HSN : Hid (MA ++ psB (r.ps.take (k + 1)) = L ++ isb [x.sq] ++ itB x.it ++ bb x.rd) := Lib.hid (by rw [hsn, ← List.append_assoc, hL]; unfold poB isb; simp)
      rw [hL] at hb
      have CX := Lib.hid (cw_ints z z by_ L [x.sq] 1 rfl wy ((hb.out.only OX).only OY) hzy (by omega) (by simp) (by intro u hu; simp at hu; subst hu; exact hxs.sq) hCY)
      have HBY := Lib.hid (hbe.out.trans ((OX.tr OY).below.mono hzr))
      have HCX := Lib.hid (hCX.only OY (by simp))
      have hbz : z < bx := by have := IsBld.lt' hb.out; omega
      have p0 := hCX.cell (k := 0) rfl
      have hI1 : isb [x.sq] = ib x.sq := by unfold isb; simp
      have HIS := Lib.hid hxs.it
      clear hx i2 hsn hxs hor OX hCX OY hCY hb hbe hL
      go_wp2_with fail
      refine CX.out.mono ?_
      rintro e w9 ⟨rfl, hb9, hbe9, hk9⟩
      dsimp only
      have hC9 : Cells w9 bx 38 [.int .i64 x.sq, .string ⟨x.it.id.toArray⟩, .string ⟨x.it.ti.toArray⟩, .string ⟨x.it.li.toArray⟩, .bool x.rd] := hk9 bx _ _ (by omega) (by decide) HCX.out
      have HBE9 := Lib.hid (HBY.out.trans hbe9)
      have hz9 : z ≤ w9.heap.size := by have := HBE9.out.size; omega
      have C2 := Lib.hid (cw_item z z (L ++ isb [x.sq]) x.it HIS.out w9 hb9 hz9 (by rw [List.length_append, hI1]; omega))
      have HC9 := Lib.hid hC9
      have r1 := hC9.cell (k := 1) rfl
      have r2 := hC9.cell (k := 2) rfl
      have r3 := hC9.cell (k := 3) rfl
      clear hb9 hbe9 hk9 CX hC9 HBY HCX p0 hwx hbx hwy hby q0 q1 q2 q3 q4
      go_wp2_with fail
      refine C2.out.mono ?_
      rintro e w10 ⟨rfl, hb10, hbe10, hk10⟩
      dsimp only
      have hC10 : Cells w10 bx 38 [.int .i64 x.sq, .string ⟨x.it.id.toArray⟩, .string ⟨x.it.ti.toArray⟩, .string ⟨x.it.li.toArray⟩, .bool x.rd] := hk10 bx _ _ (by omega) (by decide) HC9.out
      have HBE10 := Lib.hid (HBE9.out.trans hbe10)
      have hz10 : z ≤ w10.heap.size := by have := HBE10.out.size; omega
      have C3 := Lib.hid (cw_bool z z (L ++ isb [x.sq] ++ itB x.it) x.rd w10 hb10 hz10 (by rw [List.length_append, List.length_append, hI1]; omega))
      have r4 := hC10.cell (k := 4) rfl
      clear hb10 hbe10 hk10 C2 hC10 HBE9 HC9 r1 r2 r3
      go_wp2_with fail
      refine C3.out.mono ?_
      rintro e w11 ⟨rfl, hb11, hbe11, _⟩
      dsimp only
      have HB11 : Hid (IsBld 110 z z (MA ++ psB (r.ps.take (k + 1))) w11) := Lib.hid (by rw [HSN.out]; exact hb11)
      have HBE11 := Lib.hid (HBE10.out.trans hbe11)
      clear hb11 hbe11 C3 HBE10 HSN r4
      go_wp2_with fail
      go_roundw
      case rel => exact ⟨k + 1, by omega, by go_num, HB11, HBE11⟩
      case measure => simp [intOf]; omega
    · obtain rfl : k = r.ps.length := by omega
      have hd2 : decide ((r.ps.length : Int) < (r.ps.length : Int)) = false := by simp
      rw [List.take_length] at hb hln
      clear HT hor hsz
      go_wp2_with fail
      refine (builder_string_any 110 z z (MA ++ psB r.ps) wr hb.out).mono ?_
      rintro e w10 ⟨rfl, hbe10⟩
      have HBX := Lib.hid (hbe.out.trans hbe10)
      clear hbe10
      go_wp2_with fail
      go_ret
      exact ⟨by rw [HCM.out]; rfl, HO0.out.tr (Only.of_below (HBX.out.mono (by omega)))⟩
end Go.Proofs.Ytjfnkjpnjiobjaa
