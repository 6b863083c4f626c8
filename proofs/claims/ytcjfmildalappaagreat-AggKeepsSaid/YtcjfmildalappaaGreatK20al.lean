/-
  What the laws of the chapters 19 and 23 lean on, part K20al: contracts of the functions that they reach, and plain facts; each theorem bears its own conditions.
-/
import Derived.Test.YtcjfmildalappaaGreatK20aa
import Derived.Test.YtcjfmildalappaaGreatK20ab
import Derived.Test.YtcjfmildalappaaGreatK20ad
import Derived.Test.YtcjfmildalappaaGreatK20ai
import Derived.Test.YtcjfmildalappaaGreatK20ak
set_option linter.unusedVariables false
set_option linter.unusedSimpArgs false
namespace Go.Proofs.YtcjfmildalappaaGreat
open Go.RowKit
def Rd.item (r : Rd) : It × Rd := (⟨r.text.1, r.text.2.text.1, r.text.2.text.2.text.1⟩, r.text.2.text.2.text.2)
def Rd.items (r : Rd) : Nat → List It × Rd
  | 0 => ([], r)
  | k + 1 => ((r.items k).1 ++ [(r.items k).2.item.1], (r.items k).2.item.2)
theorem item_in {r : Rd} (h : r.item.2.bad = false) (hl : r.s.length ≤ 1000000000000) : r.bad = false ∧ r.s = itB r.item.1 ++ r.item.2.s := by
  have l1 := text_len hl
  have l2 := text_len l1
  obtain ⟨a1, a2⟩ := text_in (r := r.text.2.text.2) h l2
  obtain ⟨b1, b2⟩ := text_in (r := r.text.2) a1 l1
  obtain ⟨c1, c2⟩ := text_in (r := r) b1 hl
  refine ⟨c1, ?_⟩
  show r.s = tb r.text.1 ++ (tb r.text.2.text.1 ++ tb r.text.2.text.2.text.1) ++ r.text.2.text.2.text.2.s
  rw [List.append_assoc, List.append_assoc, ← a2, ← b2, ← c2]
/-- An item whose texts can be written at all. -/
structure It.Ok (x : It) : Prop where
  id : x.id.length ≤ 1000000000000
  ti : x.ti.length ≤ 1000000000000
  li : x.li.length ≤ 1000000000000
theorem It.Sm.ok {x : It} (h : x.Sm) : x.Ok := by
  have := h.id; have := h.ti; have := h.li
  exact ⟨by omega, by omega, by omega⟩
theorem It.Ok.len {x : It} (h : x.Ok) : x.Len := by
  have := h.id; have := h.ti; have := h.li
  constructor <;> unfold maxLen <;> omega
theorem item_out (x : It) (hx : x.Ok) (t : List UInt8) (q : Bool) : Rd.item ⟨itB x ++ t, q⟩ = (x, ⟨t, q⟩) := by
  have h1 := text_out x.id (tb x.ti ++ (tb x.li ++ t)) hx.id q
  have h2 := text_out x.ti (tb x.li ++ t) hx.ti q
  have h3 := text_out x.li t hx.li q
  have e : itB x ++ t = tb x.id ++ (tb x.ti ++ (tb x.li ++ t)) := by unfold itB; simp
  unfold Rd.item
  rw [e, h1]
  dsimp only
  rw [h2]
  dsimp only
  rw [h3]
theorem item_len {r : Rd} {n : Nat} (h : r.s.length ≤ n) : r.item.2.s.length ≤ n := text_len (text_len (text_len h))
theorem item_ok {r : Rd} (h : r.s.length ≤ 1000000000000) : r.item.1.Ok := ⟨text_short h, text_short (text_len h), text_short (text_len (text_len h))⟩
theorem item_sm {r : Rd} (h : r.s.length ≤ 1000000) : r.item.1.Sm := ⟨text_short h, text_short (text_len h), text_short (text_len (text_len h))⟩
/-! What is read of a command's bytes, one thing after the other. -/
def c7 (s : List UInt8) : Rd := Rd.after ⟨s, false⟩ 7
/-- A command whose bytes can be read again. -/
structure Cm.Ok (c : Cm) : Prop where
  nums : ∀ x ∈ c.n7, Wide64 x
  fd : c.fd.length ≤ 1000000000000
  id : c.id.length ≤ 1000000000000
  n : c.its.length ≤ 1000000000000
  its : ∀ x ∈ c.its, x.Ok
end Go.Proofs.YtcjfmildalappaaGreat
namespace Go.Proofs.YtcjfmildalappaaGreat
open Go.RowKit
theorem holds_cw : Holds 229 := ⟨by kernel_rfl, by decide⟩
theorem codec_ints_at (l : List Int) (hl : l.length ≤ 100) (hw : ∀ x ∈ l, Wide64 x) (W : World) (b' : Nat) (hC : Cells W b' 3 (gvs l)) :
    Calls Tryz.prog 149 #[.slice (some ⟨b', 0, none⟩) l.length l.length] W fun e w' => e = .returned (.string ⟨(isb l).toArray⟩) ∧ Only [] W w' :=
  codec_int (.slice (some ⟨b', 0, none⟩) l.length l.length) l W (SlAt.cells (n := l.length) (sz := 1) hC (by simp [ivs]) (by unfold maxLen; omega)) hw (by omega)
theorem codec_texts_at (l : List (List UInt8)) (hl : l.length ≤ 10) (hb : (tsb l).length ≤ 70368744177600) (W : World) (b' : Nat) (hC : Cells W b' 9 (svs l)) :
    Calls Tryz.prog 75 #[.slice (some ⟨b', 0, none⟩) l.length l.length] W fun e w' => e = .returned (.string ⟨(tsb l).toArray⟩) ∧ Only [] W w' :=
  codec_text (.slice (some ⟨b', 0, none⟩) l.length l.length) l W (SlAt.cells (n := l.length) (sz := 1) hC (by simp [svs]) (by unfold maxLen; omega)) (by omega) hb
/-- What a writing call hands back. -/
def CwW (B z : Nat) (l : List UInt8) (w : World) (e : Ending) (w' : World) : Prop := e = .returned (.tuple #[]) ∧ IsBld 229 B z l w' ∧ Below B w w' ∧ Keeps z w w'
theorem Keeps.only (b : Nat) {w w' : World} (h : Only [] w w') : Keeps b w w' := fun _ _ _ _ _ hC => hC.only h (by simp)
set_option maxRecDepth 100000 in
set_option maxHeartbeats 1000000 in
theorem cw_ints (B z b' : Nat) (l : List UInt8) (ns : List Int) (n : Nat) (hn : ns.length = n) (w : World) (h : IsBld 229 B z l w) (hB : B ≤ w.heap.size) (hl : l.length ≤ 70368744177664) (hl2 : ns.length ≤ 100) (hw : ∀ x ∈ ns, Wide64 x) (hC : Cells w b' 3 (gvs ns)) :
    Calls Tryz.prog 160 #[.pointer (some ⟨z, 0, none⟩), .slice (some ⟨b', 0, none⟩) n n] w (CwW B z (l ++ isb ns) w) := by
  subst hn
  have CI := Lib.hid (fun (u : Since w) => codec_ints_at ns hl2 hw u.w b' (hC.only u.h (by simp)))
  have hle := isb_length ns hw
  have H := Lib.hid h
  obtain ⟨T, hT⟩ : ∃ T, isb ns = T := ⟨_, rfl⟩
  rw [hT] at CI hle ⊢
  clear h hC hw hT
  go_enter Tryz.func160, Tryz.ntmps160
  refine wp_region_only_tail w (Only.refl _ _) 5 (by kernel_rfl) (by kernel_rfl) ?_
  simp only [List.take_succ_cons, List.take_zero, List.drop_succ_cons, List.drop_zero]
  repeat (go_big_quiet_step (first
    | (go_at_call 149; refine Calls.only (CI.out _))))
  refine wpQuiet_nil ?_
  rintro ⟨w1, ho1⟩
  dsimp only
  have H1 := Lib.hid (H.out.only ho1)
  have HB := Lib.hid (ho1.below.mono hB)
  have HK1 := Lib.hid (Keeps.only z ho1)
  have hB1 : B ≤ w1.heap.size := Nat.le_trans hB ho1.size
  clear ho1 CI H
  go_wp2_with fail
  refine (writeString_k _ holds_cw B z l T w1 H1.out (by omega) hB1).mono ?_
  rintro e w2 ⟨rfl, hb, hbe, hk⟩
  have HK2 := Lib.hid (HK1.out.trans hk)
  have H2 := Lib.hid hb
  have HB2 := Lib.hid (HB.out.trans hbe)
  clear hb hbe hk
  go_wp2_with fail
  go_end0
  exact ⟨rfl, .inr H2.out, HB2.out, HK2.out⟩
set_option maxRecDepth 100000 in
set_option maxHeartbeats 1000000 in
theorem cw_texts (B z b' : Nat) (l : List UInt8) (ns : List (List UInt8)) (n : Nat) (hn : ns.length = n) (w : World) (h : IsBld 229 B z l w) (hB : B ≤ w.heap.size) (hl : l.length ≤ 70368744177664) (hl2 : ns.length ≤ 10) (hw : (tsb ns).length ≤ 70368744177600) (hC : Cells w b' 9 (svs ns)) :
    Calls Tryz.prog 162 #[.pointer (some ⟨z, 0, none⟩), .slice (some ⟨b', 0, none⟩) n n] w (CwW B z (l ++ tsb ns) w) := by
  subst hn
  have CI := Lib.hid (fun (u : Since w) => codec_texts_at ns hl2 hw u.w b' (hC.only u.h (by simp)))
  have H := Lib.hid h
  obtain ⟨T, hT⟩ : ∃ T, tsb ns = T := ⟨_, rfl⟩
  rw [hT] at CI hw ⊢
  clear h hC hT
  go_enter Tryz.func162, Tryz.ntmps162
  refine wp_region_only_tail w (Only.refl _ _) 5 (by kernel_rfl) (by kernel_rfl) ?_
  simp only [List.take_succ_cons, List.take_zero, List.drop_succ_cons, List.drop_zero]
  repeat (go_big_quiet_step (first
    | (go_at_call 75; refine Calls.only (CI.out _))))
  refine wpQuiet_nil ?_
  rintro ⟨w1, ho1⟩
  dsimp only
  have H1 := Lib.hid (H.out.only ho1)
  have HB := Lib.hid (ho1.below.mono hB)
  have HK1 := Lib.hid (Keeps.only z ho1)
  have hB1 : B ≤ w1.heap.size := Nat.le_trans hB ho1.size
  clear ho1 CI H
  go_wp2_with fail
  refine (writeString_k _ holds_cw B z l T w1 H1.out (by omega) hB1).mono ?_
  rintro e w2 ⟨rfl, hb, hbe, hk⟩
  have HK2 := Lib.hid (HK1.out.trans hk)
  have H2 := Lib.hid hb
  have HB2 := Lib.hid (HB.out.trans hbe)
  clear hb hbe hk
  go_wp2_with fail
  go_end0
  exact ⟨rfl, .inr H2.out, HB2.out, HK2.out⟩
set_option maxRecDepth 100000 in
set_option maxHeartbeats 1000000 in
theorem cw_bool (B z : Nat) (l : List UInt8) (b : Bool) (w : World) (h : IsBld 229 B z l w) (hB : B ≤ w.heap.size) (hl : l.length ≤ 70368744177664) :
    Calls Tryz.prog 163 #[.pointer (some ⟨z, 0, none⟩), .bool b] w (CwW B z (l ++ bb b) w) := by
  have CI := Lib.hid (fun (u : Since w) => codec_bool b u.w)
  have hle : (bb b).length = 1 := rfl
  have H := Lib.hid h
  obtain ⟨T, hT⟩ : ∃ T, bb b = T := ⟨_, rfl⟩
  rw [hT] at CI hle ⊢
  clear h hT
  go_enter Tryz.func163, Tryz.ntmps163
  refine wp_region_only_tail w (Only.refl _ _) 5 (by kernel_rfl) (by kernel_rfl) ?_
  simp only [List.take_succ_cons, List.take_zero, List.drop_succ_cons, List.drop_zero]
  repeat (go_big_quiet_step (first
    | (go_at_call 150; refine Calls.only_same (CI.out _))))
  refine wpQuiet_nil ?_
  rintro ⟨w1, ho1⟩
  dsimp only
  have H1 := Lib.hid (H.out.only ho1)
  have HB := Lib.hid (ho1.below.mono hB)
  have HK1 := Lib.hid (Keeps.only z ho1)
  have hB1 : B ≤ w1.heap.size := Nat.le_trans hB ho1.size
  clear ho1 CI H
  go_wp2_with fail
  refine (writeString_k _ holds_cw B z l T w1 H1.out (by omega) hB1).mono ?_
  rintro e w2 ⟨rfl, hb, hbe, hk⟩
  have HK2 := Lib.hid (HK1.out.trans hk)
  have H2 := Lib.hid hb
  have HB2 := Lib.hid (HB.out.trans hbe)
  clear hb hbe hk
  go_wp2_with fail
  go_end0
  exact ⟨rfl, .inr H2.out, HB2.out, HK2.out⟩
set_option maxRecDepth 100000 in
set_option maxHeartbeats 1000000 in
theorem cw_item (B z : Nat) (l : List UInt8) (x : It) (hx : x.Sm) (w : World) (h : IsBld 229 B z l w) (hB : B ≤ w.heap.size) (hl : l.length ≤ 70368744177664) :
    Calls Tryz.prog 161 #[.agg #[.string ⟨x.id.toArray⟩, .string ⟨x.ti.toArray⟩, .string ⟨x.li.toArray⟩], .func (.func 162) #[.pointer (some ⟨z, 0, none⟩)] #[]] w (CwW B z (l ++ itB x) w) := by
  have hT : tsb [x.id, x.ti, x.li] = itB x := by unfold tsb itB; simp
  have hle := itB_le x hx
  obtain ⟨w1, hw1⟩ : ∃ w1, w.alloc (.cells #[.string ⟨x.id.toArray⟩, .string ⟨x.ti.toArray⟩, .string ⟨x.li.toArray⟩] 99) = w1 := ⟨_, rfl⟩
  obtain ⟨w2, hw2⟩ : ∃ w2, w1.alloc (.cells #[.string ⟨x.id.toArray⟩, .string ⟨x.ti.toArray⟩, .string ⟨x.li.toArray⟩] 9) = w2 := ⟨_, rfl⟩
  have O1 : Only [] w w1 := hw1 ▸ (Only.refl _ _).alloc _
  have O2 : Only [] w w2 := hw2 ▸ O1.alloc _
  obtain ⟨b1, hb1⟩ : ∃ b, w.heap.size = b := ⟨_, rfl⟩
  obtain ⟨b2, hb2⟩ : ∃ b, w1.heap.size = b := ⟨_, rfl⟩
  have hC1 : Cells w1 b1 99 x.cells := hw1 ▸ hb1 ▸ Cells.new w _ _
  have hC2 : Cells w2 b2 9 (svs [x.id, x.ti, x.li]) := hw2 ▸ hb2 ▸ Cells.new w1 _ _
  have CT := Lib.hid (cw_texts B z b2 l [x.id, x.ti, x.li] 3 rfl w2 (h.only O2) (Nat.le_trans hB O2.size) hl (by simp) (by rw [hT]; omega) hC2)
  rw [hT] at CT
  have HO := Lib.hid (O2.below.mono hB)
  have HK1 := Lib.hid (Keeps.only z O2)
  have c0 := hC1.cell (k := 0) rfl
  have c1 := hC1.cell (k := 1) rfl
  have c2 := hC1.cell (k := 2) rfl
  clear hT h O1 O2 hC1 hC2
  go_enter Tryz.func161, Tryz.ntmps161
  go_wp2_with fail
  refine CT.out.mono ?_
  rintro e w3 ⟨rfl, h3, hb, hk⟩
  have HK2 := Lib.hid (HK1.out.trans hk)
  have H3 := Lib.hid h3
  have HB3 := Lib.hid (HO.out.trans hb)
  clear h3 hb hk
  go_wp2_with fail
  go_end0
  exact ⟨rfl, H3.out, HB3.out, HK2.out⟩
end Go.Proofs.YtcjfmildalappaaGreat
namespace Go.Proofs.YtcjfmildalappaaGreat
open Go.RowKit
structure Rp where
  er : Int
  n : Int
  ps : List Po
def Rp.val (r : Rp) (pv : Value) : Value := .agg #[.int .i64 r.er, .int .i64 r.n, pv]
def poB (x : Po) : List UInt8 := ib x.sq ++ (itB x.it ++ bb x.rd)
def psB18 (l : List Po) : List UInt8 := l.flatMap poB
def rpH (r : Rp) : List UInt8 := ib r.er ++ (ib r.n ++ ib r.ps.length)
def rpb (r : Rp) : List UInt8 := rpH r ++ psB18 r.ps
structure Po.Sm (x : Po) : Prop where
  sq : Wide64 x.sq
  it : x.it.Sm
theorem poB_le (x : Po) (h : x.Sm) : (poB x).length ≤ 3000041 := by
  have h1 := itB_le x.it h.it
  have h2 := (ib_length x.sq h.sq).2
  have h3 : (bb x.rd).length = 1 := rfl
  unfold poB
  rw [List.length_append, List.length_append]
  omega
theorem psB18_le : ∀ (l : List Po), (∀ x ∈ l, x.Sm) → (psB18 l).length ≤ 3000041 * l.length
  | [], _ => by simp [psB18]
  | x :: r, h => by
    have h1 := poB_le x (h x (by simp))
    have h2 := psB18_le r (fun y hy => h y (by simp [hy]))
    unfold psB18 at h2 ⊢
    rw [List.flatMap_cons, List.length_append, List.length_cons]
    omega
theorem psB_snoc (l : List Po) (k : Nat) (x : Po) (h : l[k]? = some x) : psB18 (l.take (k + 1)) = psB18 (l.take k) ++ poB x := by
  unfold psB18
  rw [List.take_add_one, h, List.flatMap_append]
  simp
theorem psB_take (l : List Po) (h : ∀ x ∈ l, x.Sm) (k : Nat) : (psB18 (l.take k)).length ≤ 3000041 * l.length := by
  have h1 := psB18_le (l.take k) (fun x hx => h x (List.mem_of_mem_take hx))
  rw [List.length_take] at h1
  have h2 : min k l.length ≤ l.length := Nat.min_le_right _ _
  have := Nat.mul_le_mul_left 3000041 h2
  omega
/-- A reply whose posts lie in memory. -/
structure RpAt (w : World) (pv : Value) (r : Rp) : Prop where
  ps : SlAt w w.heap.size pv 5 r.ps.length (poL r.ps)
  er : Wide64 r.er
  n : Wide64 r.n
  sm : ∀ x ∈ r.ps, x.Sm
  len : r.ps.length ≤ 1000
theorem RpAt.only {w w' : World} {pv : Value} {r : Rp} (h : RpAt w pv r) (ho : Only [] w w') : RpAt w' pv r := ⟨(h.ps.only ho (Nat.le_refl _) (by simp)).more ho.size, h.er, h.n, h.sm, h.len⟩
theorem IsBld.lt' {T : TypeId} {B b : Nat} {l : List UInt8} {w : World} (h : IsBld T B b l w) : b < w.heap.size := by
  rcases h with ⟨_, v, hc, _⟩ | ⟨_, v, hc, _⟩ <;> exact hc.lt
set_option maxRecDepth 100000 in
set_option maxHeartbeats 4000000 in
theorem cmd_answer (r : Rp) (pv : Value) (w : World) (h : RpAt w pv r) :
    Calls Tryz.prog 85 #[r.val pv] w fun e w' => e = .returned (.string ⟨(rpb r).toArray⟩) ∧ Only [] w w' := by
  have hmf : ∀ (fn : Fn) (first cap : Array Value) (w : World), (Instr.makeFunc fn first cap).run Tryz.prog w = .ok (.func fn first cap) w := fun _ _ _ _ => rfl
  obtain ⟨IA, ic, rfl⟩ := h.ps.shape
  have H := Lib.hid h
  have hnl := h.len
  have hwl : Wide64 (r.ps.length : Int) := ⟨by omega, by omega⟩
  obtain ⟨w0, hw0⟩ : ∃ w0, w.alloc (.cells #[.int .i64 r.er, .int .i64 r.n, .slice IA r.ps.length ic] 34) = w0 := ⟨_, rfl⟩
  obtain ⟨z0, hz0⟩ : ∃ z, w.heap.size = z := ⟨_, rfl⟩
  have O0 : Only [] w w0 := hw0 ▸ (Only.refl _ _).alloc _
  have HZ0 : Hid (Cells w0 z0 34 [.int .i64 r.er, .int .i64 r.n, .slice IA r.ps.length ic]) := Lib.hid (hw0 ▸ hz0 ▸ Cells.new w _ _)
  have hz00 : z0 < w0.heap.size := HZ0.out.lt
  have HO0 := Lib.hid O0
  unfold Rp.val
  obtain ⟨w2, hw2⟩ : ∃ w2, w0.alloc (.cells #[.pointer none, .slice none 0 0] 229) = w2 := ⟨_, rfl⟩
  obtain ⟨z, hz⟩ : ∃ z, w0.heap.size = z := ⟨_, rfl⟩
  have O2 : Only [] w0 w2 := hw2 ▸ (Only.refl _ _).alloc _
  have HB2 : Hid (IsBld 229 z z [] w2) := Lib.hid (.inl (hw2 ▸ hz ▸ Bld.new 229 w0))
  have hz2 : z ≤ w2.heap.size := hz ▸ O2.size
  have HZ2 := Lib.hid (HZ0.out.only O2 (by simp))
  have hz0z : z0 < z := hz ▸ hz00
  have hzw : w0.heap.size = z := hz
  have c0 := HZ2.out.cell (k := 0) rfl
  have c1 := HZ2.out.cell (k := 1) rfl
  have c2 := HZ2.out.cell (k := 2) rfl
  obtain ⟨w3, hw3⟩ : ∃ w3, w2.alloc (.cells #[.int .i64 r.er, .int .i64 r.n, .int .i64 (r.ps.length : Int)] 3) = w3 := ⟨_, rfl⟩
  obtain ⟨y3, hy3⟩ : ∃ y, w2.heap.size = y := ⟨_, rfl⟩
  have O3 : Only [] w2 w3 := hw3 ▸ (Only.refl _ _).alloc _
  have hC3 : Cells w3 y3 3 (gvs [r.er, r.n, (r.ps.length : Int)]) := hw3 ▸ hy3 ▸ Cells.new w2 _ _
  have CI := Lib.hid (cw_ints z z y3 [] [r.er, r.n, (r.ps.length : Int)] 3 rfl w3 (HB2.out.only O3) (Nat.le_trans hz2 O3.size) (by simp) (by simp) (by intro x hx; simp at hx; rcases hx with rfl | rfl | rfl; exact h.er; exact h.n; exact hwl) hC3)
  rw [List.nil_append] at CI
  have hHH : isb [r.er, r.n, (r.ps.length : Int)] = rpH r := by unfold isb rpH; simp
  have hHl : (rpH r).length ≤ 100 := by
    have h1 := (ib_length r.er h.er).2
    have h2 := (ib_length r.n h.n).2
    have h3 := (ib_length _ hwl).2
    unfold rpH
    rw [List.length_append, List.length_append]
    omega
  rw [hHH] at CI
  have HB23 : Hid (Below z w0 w3) := Lib.hid ((O2.tr O3).below.mono (by rw [hz]; exact Nat.le_refl _))
  have HT := Lib.hid (psB_take r.ps h.sm)
  have HSI := Lib.hid h.sm
  have HCM : Hid (rpb r = rpH r ++ psB18 r.ps) := Lib.hid rfl
  obtain ⟨MA, hMA⟩ : ∃ M, rpH r = M := ⟨_, rfl⟩
  rw [hMA] at CI hHl HCM
  clear O3 hC3 O2 hHH hMA h
  go_enter Tryz.func85, Tryz.ntmps85
  go_wp2_with fail
  refine CI.out.mono ?_
  rintro e w8 ⟨rfl, hb8, hbe8, _⟩
  have HBE8 := Lib.hid (HB23.out.trans hbe8)
  have HB8 : Hid (IsBld 229 z z (MA ++ psB18 (r.ps.take 0)) w8) := Lib.hid (by rw [List.take_zero]; simpa [psB18] using hb8)
  have HZ8 : Hid (Cells w8 z0 34 [.int .i64 r.er, .int .i64 r.n, .slice IA r.ps.length ic]) := Lib.hid ((HBE8.out.block z0 hz0z).trans HZ0.out)
  clear hb8 hbe8 CI HB23 hw0 hz0 hw2 hz hw3 hy3 c0 c1 c2 HZ2
  have c2 := HZ8.out.cell (k := 2) rfl
  go_wp2_with fail
  clear c2
  go_loopw [21] (fun n wr => ∃ k : Nat, k ≤ r.ps.length ∧ n = .int .i64 k ∧ Hid (IsBld 229 z z (MA ++ psB18 (r.ps.take k)) wr) ∧ Hid (Below z w0 wr)) (fun n _ => r.ps.length - (intOf n).toNat)
  case atStart => exact ⟨0, by omega, rfl, HB8, HBE8⟩
  case round =>
    obtain ⟨k, hk, rfl, hb, hbe⟩ := hrel
    have hln := HT.out k
    have hsz : 3000041 * r.ps.length ≤ 3000041000 := by omega
    have hzr : z ≤ wr.heap.size := Nat.le_trans (by omega) hbe.out.size
    have hor : Only [] w0 wr := Only.of_below (hbe.out.mono (by omega))
    by_cases hlt : k < r.ps.length
    · have hlt' : (k : Int) < (r.ps.length : Int) := by omega
      obtain ⟨x, hx⟩ : ∃ x, r.ps[k]? = some x := ⟨_, List.getElem?_eq_getElem hlt⟩
      obtain ⟨b1, o1, c1', e1, q0, q1, q2, q3, q4⟩ := poL_at (H.out.only (HO0.out.tr hor)).ps rfl hx
      have hxs := HSI.out x (List.mem_of_getElem? hx)
      have hsn := psB_snoc r.ps k x hx
      injection e1 with i1 i2 i3
      subst i1
      subst i3
      obtain ⟨wx, hwx⟩ : ∃ wx, wr.alloc (.cells #[.int .i64 x.sq, .string ⟨x.it.id.toArray⟩, .string ⟨x.it.ti.toArray⟩, .string ⟨x.it.li.toArray⟩, .bool x.rd] 101) = wx := ⟨_, rfl⟩
      obtain ⟨bx, hbx⟩ : ∃ b, wr.heap.size = b := ⟨_, rfl⟩
      have OX : Only [] wr wx := hwx ▸ (Only.refl _ _).alloc _
      have hCX : Cells wx bx 101 [.int .i64 x.sq, .string ⟨x.it.id.toArray⟩, .string ⟨x.it.ti.toArray⟩, .string ⟨x.it.li.toArray⟩, .bool x.rd] := hwx ▸ hbx ▸ Cells.new wr _ _
      obtain ⟨wy, hwy⟩ : ∃ wy, wx.alloc (.cells #[.int .i64 x.sq] 3) = wy := ⟨_, rfl⟩
      obtain ⟨by_, hby⟩ : ∃ b, wx.heap.size = b := ⟨_, rfl⟩
      have OY : Only [] wx wy := hwy ▸ (Only.refl _ _).alloc _
      have hCY : Cells wy by_ 3 (gvs [x.sq]) := hwy ▸ hby ▸ Cells.new wx _ _
      have hzx : z ≤ wx.heap.size := Nat.le_trans hzr OX.size
      have hzy : z ≤ wy.heap.size := Nat.le_trans hzx OY.size
      have hxq := (ib_length x.sq hxs.sq).2
      have hxi := itB_le x.it hxs.it
      obtain ⟨L, hL⟩ : ∃ L, MA ++ psB18 (r.ps.take k) = L := ⟨_, rfl⟩
      have hLl : L.length ≤ 3000041200 := by rw [← hL, List.length_append]; omega
      have HSN : Hid (MA ++ psB18 (r.ps.take (k + 1)) = L ++ isb [x.sq] ++ itB x.it ++ bb x.rd) := Lib.hid (by rw [hsn, ← List.append_assoc, hL]; unfold poB isb; simp)
      rw [hL] at hb
      have CX := Lib.hid (cw_ints z z by_ L [x.sq] 1 rfl wy ((hb.out.only OX).only OY) hzy (by omega) (by simp) (by intro u hu; simp at hu; subst hu; exact hxs.sq) hCY)
      have HBY := Lib.hid (hbe.out.trans ((OX.tr OY).below.mono hzr))
      have HCX := Lib.hid (hCX.only OY (by simp))
      have hbz : z < bx := by have := IsBld.lt' hb.out; omega
      have p0 := hCX.cell (k := 0) rfl
      have hI1 : isb [x.sq] = ib x.sq := by unfold isb; simp
      have HIS := Lib.hid hxs.it
      clear hx i2 hsn hxs hor OX hCX OY hCY hb hbe hL
      go_wp2_with fail
      refine CX.out.mono ?_
      rintro e w9 ⟨rfl, hb9, hbe9, hk9⟩
      dsimp only
      have hC9 : Cells w9 bx 101 [.int .i64 x.sq, .string ⟨x.it.id.toArray⟩, .string ⟨x.it.ti.toArray⟩, .string ⟨x.it.li.toArray⟩, .bool x.rd] := hk9 bx _ _ (by omega) (by decide) HCX.out
      have HBE9 := Lib.hid (HBY.out.trans hbe9)
      have hz9 : z ≤ w9.heap.size := by have := HBE9.out.size; omega
      have C2 := Lib.hid (cw_item z z (L ++ isb [x.sq]) x.it HIS.out w9 hb9 hz9 (by rw [List.length_append, hI1]; omega))
      have HC9 := Lib.hid hC9
      have r1 := hC9.cell (k := 1) rfl
      have r2 := hC9.cell (k := 2) rfl
      have r3 := hC9.cell (k := 3) rfl
      clear hb9 hbe9 hk9 CX hC9 HBY HCX p0 hwx hbx hwy hby q0 q1 q2 q3 q4
      go_wp2_with fail
      refine C2.out.mono ?_
      rintro e w10 ⟨rfl, hb10, hbe10, hk10⟩
      dsimp only
      have hC10 : Cells w10 bx 101 [.int .i64 x.sq, .string ⟨x.it.id.toArray⟩, .string ⟨x.it.ti.toArray⟩, .string ⟨x.it.li.toArray⟩, .bool x.rd] := hk10 bx _ _ (by omega) (by decide) HC9.out
      have HBE10 := Lib.hid (HBE9.out.trans hbe10)
      have hz10 : z ≤ w10.heap.size := by have := HBE10.out.size; omega
      have C3 := Lib.hid (cw_bool z z (L ++ isb [x.sq] ++ itB x.it) x.rd w10 hb10 hz10 (by rw [List.length_append, List.length_append, hI1]; omega))
      have r4 := hC10.cell (k := 4) rfl
      clear hb10 hbe10 hk10 C2 hC10 HBE9 HC9 r1 r2 r3
      go_wp2_with fail
      refine C3.out.mono ?_
      rintro e w11 ⟨rfl, hb11, hbe11, _⟩
      dsimp only
      have HB11 : Hid (IsBld 229 z z (MA ++ psB18 (r.ps.take (k + 1))) w11) := Lib.hid (by rw [HSN.out]; exact hb11)
      have HBE11 := Lib.hid (HBE10.out.trans hbe11)
      clear hb11 hbe11 C3 HBE10 HSN r4
      go_wp2_with fail
      go_roundw
      case rel => exact ⟨k + 1, by omega, by go_num, HB11, HBE11⟩
      case measure => simp [intOf]; omega
    · obtain rfl : k = r.ps.length := by omega
      have hd2 : decide ((r.ps.length : Int) < (r.ps.length : Int)) = false := by simp
      rw [List.take_length] at hb hln
      clear HT hor hsz
      go_wp2_with fail
      refine (builder_string_any 229 z z (MA ++ psB18 r.ps) wr hb.out).mono ?_
      rintro e w10 ⟨rfl, hbe10⟩
      have HBX := Lib.hid (hbe.out.trans hbe10)
      clear hbe10
      go_wp2_with fail
      go_ret
      exact ⟨by rw [HCM.out]; rfl, HO0.out.tr (Only.of_below (HBX.out.mono (by omega)))⟩
end Go.Proofs.YtcjfmildalappaaGreat
namespace Go.Proofs.YtcjfmildalappaaGreat
open Go.RowKit
theorem index_p3 (l : List Value) (k : Nat) (v : Value) (hk : k < 3) (hv : l[k]? = some v) (w : World) :
    (Instr.index 276 (.agg l.toArray) (.int .i64 k)).run Tryz.prog w = .ok v w := by
  have hu : (underlying 276).run Tryz.prog w = .ok (.array 3 275) w := by kernel_rfl
  have hs : (sizeOf 275).run Tryz.prog w = .ok 1 w := by kernel_rfl
  have ha : (isAgg 275).run Tryz.prog w = .ok false w := by kernel_rfl
  have hk' : (0 : Int) ≤ k ∧ (k : Int) < (3 : Nat) := ⟨by omega, by omega⟩
  have hv' : l.toArray[k]? = some v := by simpa using hv
  simp only [Instr.index, asIntOf, Sem.run_bind, Sem.run_pure, Result.andThen_ok, hu]
  rw [if_pos hk']
  simp only [part, Sem.run_bind, Result.andThen_ok, hs, ha, Int.toNat_natCast, Nat.mul_one, hv']
  rfl
/-- The k-th text of an item, and the reader ahead of it. -/
def Rd.tx (r : Rd) : Nat → Rd
  | 0 => r
  | k + 1 => (r.tx k).text.2
def txL (r : Rd) (k : Nat) : List Value := ((List.range k).map fun j => Value.string ⟨((r.tx j).text.1).toArray⟩) ++ List.replicate (3 - k) (.string ⟨([] : List UInt8).toArray⟩)
theorem txL_set (r : Rd) (k : Nat) (hk : k < 3) : (txL r k).set k (.string ⟨((r.tx k).text.1).toArray⟩) = txL r (k + 1) := by
  have hk : k = 0 ∨ k = 1 ∨ k = 2 := by omega
  rcases hk with rfl | rfl | rfl
  all_goals simp [txL, List.range_succ, List.replicate]
theorem txL_len (r : Rd) (k : Nat) (hk : k ≤ 3) : (txL r k).length = 3 := by unfold txL; simp; omega
theorem pt3_get (z k : Nat) (hk : k < 3) : ([.pointer (some ⟨z, 0, none⟩), .pointer (some ⟨z, 1, none⟩), .pointer (some ⟨z, 2, none⟩)] : List Value)[k]? = some (.pointer (some ⟨z, k, none⟩)) := by
  have hk : k = 0 ∨ k = 1 ∨ k = 2 := by omega
  rcases hk with rfl | rfl | rfl <;> rfl
set_option maxRecDepth 100000 in
set_option maxHeartbeats 2000000 in
theorem cr_item (z : Nat) (r : Rd) (w : World) (h : CrAt w z r) :
    Calls Tryz.prog 158 #[.pointer (some ⟨z, 0, none⟩)] w fun e w' => e = .returned (.agg #[.string ⟨r.item.1.id.toArray⟩, .string ⟨r.item.1.ti.toArray⟩, .string ⟨r.item.1.li.toArray⟩]) ∧ CrAt w' z r.item.2 ∧ Only [z] w w' := by
  have x0 : r.item.1.id = (r.tx 0).text.1 := rfl
  have x1 : r.item.1.ti = (r.tx 1).text.1 := rfl
  have x2 : r.item.1.li = (r.tx 2).text.1 := rfl
  obtain ⟨t0, ht0⟩ : ∃ t, (r.tx 0).text.1 = t := ⟨_, rfl⟩
  obtain ⟨t1, ht1⟩ : ∃ t, (r.tx 1).text.1 = t := ⟨_, rfl⟩
  obtain ⟨t2, ht2⟩ : ∃ t, (r.tx 2).text.1 = t := ⟨_, rfl⟩
  have HT0 := Lib.hid ht0
  have HT1 := Lib.hid ht1
  have HT2 := Lib.hid ht2
  rw [x0, x1, x2, ht0, ht1, ht2]
  clear x0 x1 x2 ht0 ht1 ht2
  obtain ⟨w1, hw1⟩ : ∃ w1, w.alloc (.cells #[.string ⟨#[]⟩, .string ⟨#[]⟩, .string ⟨#[]⟩] 99) = w1 := ⟨_, rfl⟩
  obtain ⟨w2, hw2⟩ : ∃ w2, w1.alloc (.cells #[.string ⟨#[]⟩, .string ⟨#[]⟩, .string ⟨#[]⟩] 99) = w2 := ⟨_, rfl⟩
  obtain ⟨a, ha⟩ : ∃ a, w.heap.size = a := ⟨_, rfl⟩
  obtain ⟨b, hb⟩ : ∃ b, w1.heap.size = b := ⟨_, rfl⟩
  have O1 : Only [] w w1 := hw1 ▸ (Only.refl _ _).alloc _
  have O2 : Only [] w1 w2 := hw2 ▸ (Only.refl _ _).alloc _
  have hA1 : Cells w1 a 99 (txL r 0) := hw1 ▸ ha ▸ Cells.new w _ _
  have hB2 : Cells w2 b 99 (txL r 0) := hw2 ▸ hb ▸ Cells.new w1 _ _
  have hA2 := hA1.only O2 (by simp)
  have hR2 := h.only (O1.tr O2) (by simp)
  have hzl := h.lt
  have hab : a < b := by have := hA1.lt; omega
  have hza : z < a := by omega
  have HA2 := Lib.hid hA2
  have HB2 := Lib.hid hB2
  have HR2 := Lib.hid hR2
  have HO2 := Lib.hid (O1.tr O2)
  have HAS := Lib.hid ha
  have HIX := Lib.hid (fun k hk w' => index_p3 [.pointer (some ⟨b, 0, none⟩), .pointer (some ⟨b, 1, none⟩), .pointer (some ⟨b, 2, none⟩)] k _ hk (pt3_get b k hk) w')
  clear h hA1 hB2 hA2 hR2 O1 O2 hzl
  go_enter Tryz.func158, Tryz.ntmps158
  go_wp2_with fail
  go_loopw [5, 10] (fun _ i wr => ∃ k : Nat, k ≤ 3 ∧ i = .int .i64 k ∧ Hid (CrAt wr z (r.tx k)) ∧ Hid (Cells wr b 99 (txL r k)) ∧ Hid (Cells wr a 99 (txL r 0)) ∧ Hid (Only [z] w wr)) (fun _ i _ => 3 - (intOf i).toNat)
  case atStart => exact ⟨0, by omega, rfl, HR2, HB2, HA2, Lib.hid (HO2.out.of0)⟩
  case round =>
    obtain ⟨k, hk, rfl, hR, hB, hA, ho⟩ := hrel
    by_cases hlt : k < 3
    · have hlt' : (k : Int) < 3 := by omega
      have hix := HIX.out k hlt
      have hix := fun w' => by have := hix w'; simpa using this
      have CT := Lib.hid (cr_text z (r.tx k) wr hR.out)
      go_wp2_with fail
      refine CT.out.mono ?_
      rintro e w3 ⟨rfl, hR3, ho3⟩
      have hB3 := hB.out.only ho3 (by simp; omega)
      have HA3 := Lib.hid (hA.out.only ho3 (by simp; omega))
      obtain ⟨u0, d0⟩ : ∃ u, w3.cell? ⟨b, k, none⟩ = some u := ⟨_, hB3.cell (List.getElem?_eq_getElem (by rw [txL_len r k hk]; exact hlt))⟩
      have f0 := hB3.frozen k
      have HB4 : Hid (Cells (w3.setCell ⟨b, k, none⟩ (.string ⟨((r.tx k).text.1).toArray⟩)) b 99 (txL r (k + 1))) := Lib.hid (by rw [← txL_set r k hlt]; exact hB3.set k _)
      have HR4 : Hid (CrAt (w3.setCell ⟨b, k, none⟩ (.string ⟨((r.tx k).text.1).toArray⟩)) z (r.tx (k + 1))) := Lib.hid ⟨hR3.1.far (p := ⟨b, k, none⟩) (by show z ≠ b; omega) _, hR3.2⟩
      have HA4 := Lib.hid (HA3.out.far (p := ⟨b, k, none⟩) (by show a ≠ b; omega) (.string ⟨((r.tx k).text.1).toArray⟩))
      have HO4 := Lib.hid ((ho.out.tr ho3).setCell (p := ⟨b, k, none⟩) (.inr (by show w.heap.size ≤ b; omega)) (.string ⟨((r.tx k).text.1).toArray⟩))
      have hbl := hB3.lt
      clear hR3 ho3 hB3 HA3 CT hR hB hA ho hix
      go_wp2_with fail
      go_roundw
      case rel => exact ⟨k + 1, by omega, by go_num, HR4, HB4, HA4, HO4⟩
      case measure => simp [intOf]; omega
    · obtain rfl : k = 3 := by omega
      have hB' : Cells wr b 99 [.string ⟨((r.tx 0).text.1).toArray⟩, .string ⟨((r.tx 1).text.1).toArray⟩, .string ⟨((r.tx 2).text.1).toArray⟩] := hB.out
      have hA' : Cells wr a 99 [.string ⟨([] : List UInt8).toArray⟩, .string ⟨([] : List UInt8).toArray⟩, .string ⟨([] : List UInt8).toArray⟩] := hA.out
      have HR : Hid (CrAt wr z r.item.2) := Lib.hid hR.out
      rw [HT0.out, HT1.out, HT2.out] at hB'
      have b0 := hB'.cell (k := 0) rfl
      have b1 := hB'.cell (k := 1) rfl
      have b2 := hB'.cell (k := 2) rfl
      have hone : (#[.string ⟨t0.toArray⟩, .string ⟨t1.toArray⟩, .string ⟨t2.toArray⟩] : Array Value).all (·.oneCell') = true := by simp [Value.oneCell']
      have hst := hA'
      clear hR hB hA
      go_wp2_with (refine wpList_store_row rfl 99 _ _ rfl a #[.string ⟨t0.toArray⟩, .string ⟨t1.toArray⟩, .string ⟨t2.toArray⟩] rfl rfl 99 _ hst (by kernel_rfl) rfl hone ?_)
      (try simp only [Exit.inBlock, Exit.then])
      refine bodyPost_ret (v := .agg #[.string ⟨t0.toArray⟩, .string ⟨t1.toArray⟩, .string ⟨t2.toArray⟩]) ?_ rfl ⟨rfl, ⟨HR.out.1.farRow (by omega) _, HR.out.2⟩, ho.out.setRow (.inr (by omega)) _⟩
      exact results_row Tryz.results158 _ _ a 99 [.string ⟨t0.toArray⟩, .string ⟨t1.toArray⟩, .string ⟨t2.toArray⟩] _ rfl (Cells.setRow hA' [.string ⟨t0.toArray⟩, .string ⟨t1.toArray⟩, .string ⟨t2.toArray⟩]) Tryz.underlying99 rfl (by kernel_rfl)
/-- How many items or posts there are. -/
def Rd.many (r : Rd) : Int × Rd := if r.int.2.bad = true ∨ r.int.1 < 0 ∨ 100 < r.int.1 then (0, ⟨r.int.2.s, true⟩) else (r.int.1, r.int.2)
set_option maxRecDepth 100000 in
set_option maxHeartbeats 2000000 in
theorem cr_many (z : Nat) (r : Rd) (w : World) (h : CrAt w z r) :
    Calls Tryz.prog 157 #[.pointer (some ⟨z, 0, none⟩)] w fun e w' => e = .returned (.int .i64 r.many.1) ∧ CrAt w' z r.many.2 ∧ Only [z] w w' := by
  have C := Lib.hid (cr_int z r w h)
  have HM : Hid (∀ q n, r.int = (n, q) → r.many = if q.bad = true ∨ n < 0 ∨ 100 < n then (0, ⟨q.s, true⟩) else (n, q)) := Lib.hid (fun q n hq => by unfold Rd.many; rw [hq])
  obtain ⟨⟨n, q⟩, hq⟩ : ∃ p, r.int = p := ⟨_, rfl⟩
  have hm := HM.out q n hq
  rw [hq] at C
  dsimp only at C
  obtain ⟨⟨mv, mq⟩, hmm⟩ : ∃ p, r.many = p := ⟨_, rfl⟩
  rw [hmm] at hm ⊢
  have HM2 := Lib.hid hm
  clear h HM hq hm hmm
  go_enter Tryz.func157, Tryz.ntmps157
  go_wp2_with fail
  refine C.out.mono ?_
  rintro e w1 ⟨rfl, hR, ho⟩
  have c1 := hR.1.cell (k := 1) rfl
  have f1 := hR.1.frozen 1
  have hzl := hR.lt
  have HR := Lib.hid hR
  have HO := Lib.hid ho
  clear C hR ho
  by_cases k1 : n < 0
  · obtain ⟨rfl, rfl⟩ : mv = 0 ∧ mq = ⟨q.s, true⟩ := by have := HM2.out; rw [if_pos (.inr (.inl k1))] at this; simpa using this
    go_wp2_with fail
    go_ret
    exact ⟨rfl, ⟨HR.out.1.set 1 _, HR.out.2⟩, HO.out.setCell (p := ⟨z, 1, none⟩) (.inl (by simp)) _⟩
  by_cases k2 : 100 < n
  · obtain ⟨rfl, rfl⟩ : mv = 0 ∧ mq = ⟨q.s, true⟩ := by have := HM2.out; rw [if_pos (.inr (.inr k2))] at this; simpa using this
    go_wp2_with fail
    go_ret
    exact ⟨rfl, ⟨HR.out.1.set 1 _, HR.out.2⟩, HO.out.setCell (p := ⟨z, 1, none⟩) (.inl (by simp)) _⟩
  cases hb : q.bad with
  | true =>
    rw [hb] at c1
    obtain ⟨rfl, rfl⟩ : mv = 0 ∧ mq = ⟨q.s, true⟩ := by have := HM2.out; rw [if_pos (.inl hb)] at this; simpa using this
    have HQ : Hid ((⟨q.s, true⟩ : Rd) = q) := Lib.hid (by cases q; simp_all)
    clear hb
    go_wp2_with fail
    go_ret
    exact ⟨rfl, by rw [HQ.out]; exact HR.out, HO.out⟩
  | false =>
    rw [hb] at c1
    obtain ⟨rfl, rfl⟩ : mv = n ∧ mq = q := by have := HM2.out; rw [if_neg (by rw [hb]; simp; omega)] at this; simpa using this
    clear hb
    go_wp2_with fail
    go_ret
    exact ⟨rfl, HR.out, HO.out⟩
end Go.Proofs.YtcjfmildalappaaGreat
namespace Go.Proofs.YtcjfmildalappaaGreat
open Go.RowKit
def Cm.zero : Cm := ⟨0, 0, 0, 0, 0, 0, 0, [], [], [], false⟩
theorem many_le (r : Rd) : 0 ≤ r.many.1 ∧ r.many.1 ≤ 100 := by
  unfold Rd.many
  split
  · exact ⟨Int.le_refl 0, by show (0 : Int) ≤ 100; omega⟩
  · rename_i h
    constructor
    · rcases Int.lt_or_le r.int.1 0 with h1 | h1
      · exact absurd (.inr (.inl h1)) h
      · exact h1
    · rcases Int.lt_or_le 100 r.int.1 with h1 | h1
      · exact absurd (.inr (.inr h1)) h
      · exact h1
theorem many_len {r : Rd} {n : Nat} (h : r.s.length ≤ n) : r.many.2.s.length ≤ n := by
  unfold Rd.many
  split
  · exact int_len h
  · exact int_len h
end Go.Proofs.YtcjfmildalappaaGreat
namespace Go.Proofs.YtcjfmildalappaaGreat
open Go.RowKit
def Rd.post (r : Rd) : Po × Rd := (⟨r.int.1, r.int.2.item.1, r.int.2.item.2.bool.1⟩, r.int.2.item.2.bool.2)
def Rd.posts (r : Rd) : Nat → List Po × Rd
  | 0 => ([], r)
  | k + 1 => ((r.posts k).1 ++ [(r.posts k).2.post.1], (r.posts k).2.post.2)
theorem post_in {r : Rd} (h : r.post.2.bad = false) (hl : r.s.length ≤ 1000000000000) : r.bad = false ∧ r.s = poB r.post.1 ++ r.post.2.s := by
  have l1 := int_len hl
  obtain ⟨a1, a2⟩ := bool_in (r := r.int.2.item.2) h
  obtain ⟨b1, b2⟩ := item_in (r := r.int.2) a1 l1
  obtain ⟨c1, _, c2⟩ := int_in (r := r) b1
  refine ⟨c1, ?_⟩
  show r.s = ib r.int.1 ++ (itB r.int.2.item.1 ++ bb r.int.2.item.2.bool.1) ++ r.int.2.item.2.bool.2.s
  rw [List.append_assoc, List.append_assoc, ← a2, ← b2, ← c2]
structure Po.Ok (x : Po) : Prop where
  sq : Wide64 x.sq
  it : x.it.Ok
theorem Po.Sm.ok {x : Po} (h : x.Sm) : x.Ok := ⟨h.sq, h.it.ok⟩
theorem post_out (x : Po) (hx : x.Ok) (t : List UInt8) (q : Bool) : Rd.post ⟨poB x ++ t, q⟩ = (x, ⟨t, q⟩) := by
  have h1 := int_out x.sq hx.sq (itB x.it ++ (bb x.rd ++ t)) q
  have h2 := item_out x.it hx.it (bb x.rd ++ t) q
  have h3 := bool_out x.rd t q
  have e : poB x ++ t = ib x.sq ++ (itB x.it ++ (bb x.rd ++ t)) := by unfold poB; simp
  unfold Rd.post
  rw [e, h1]
  dsimp only
  rw [h2]
  dsimp only
  rw [h3]
theorem post_len {r : Rd} {n : Nat} (h : r.s.length ≤ n) : r.post.2.s.length ≤ n := bool_len (item_len (int_len h))
theorem post_ok {r : Rd} (h : r.s.length ≤ 1000000000000) : r.post.1.Ok := ⟨int_wide _, item_ok (int_len h)⟩
theorem post_sm {r : Rd} (h : r.s.length ≤ 1000000) : r.post.1.Sm := ⟨int_wide _, item_sm (int_len h)⟩
theorem posts_len {r : Rd} {n : Nat} (h : r.s.length ≤ n) : ∀ k, (r.posts k).2.s.length ≤ n
  | 0 => h
  | k + 1 => post_len (posts_len h k)
theorem posts_length (r : Rd) : ∀ k, (r.posts k).1.length = k
  | 0 => rfl
  | k + 1 => by show ((r.posts k).1 ++ [_]).length = _; rw [List.length_append, posts_length r k]; rfl
theorem posts_all {r : Rd} {n : Nat} {p : Po → Prop} (hp : ∀ q : Rd, q.s.length ≤ n → p q.post.1) (h : r.s.length ≤ n) : ∀ k, ∀ x ∈ (r.posts k).1, p x
  | 0 => fun x hx => (List.not_mem_nil hx).elim
  | k + 1 => fun x hx => by
    rcases List.mem_append.1 hx with hx | hx
    · exact posts_all hp h k x hx
    · obtain rfl := List.mem_singleton.1 hx
      exact hp _ (posts_len h k)
theorem psB_end (l : List Po) (x : Po) : psB18 (l ++ [x]) = psB18 l ++ poB x := by unfold psB18; rw [List.flatMap_append]; simp
theorem posts_in (r : Rd) (hl : r.s.length ≤ 1000000000000) : ∀ k : Nat, (r.posts k).2.bad = false → r.bad = false ∧ r.s = psB18 (r.posts k).1 ++ (r.posts k).2.s
  | 0, h => ⟨h, rfl⟩
  | k + 1, h => by
    obtain ⟨a1, a2⟩ := post_in (r := (r.posts k).2) h (posts_len hl k)
    obtain ⟨b1, b2⟩ := posts_in r hl k a1
    refine ⟨b1, ?_⟩
    rw [b2, a2]
    show _ = psB18 ((r.posts k).1 ++ [(r.posts k).2.post.1]) ++ (r.posts k).2.post.2.s
    rw [psB_end, List.append_assoc]
theorem posts_out (l : List Po) (t : List UInt8) (q : Bool) (hw : ∀ x ∈ l, x.Ok) : ∀ k, k ≤ l.length → Rd.posts ⟨psB18 l ++ t, q⟩ k = (l.take k, ⟨psB18 (l.drop k) ++ t, q⟩) := by
  intro k
  induction k with
  | zero => intro _; rfl
  | succ k ih =>
    intro hk
    have a1 := ih (by omega)
    have h1 : l.drop k = l[k] :: l.drop (k + 1) := List.drop_eq_getElem_cons (by omega)
    show ((Rd.posts ⟨psB18 l ++ t, q⟩ k).1 ++ [(Rd.posts ⟨psB18 l ++ t, q⟩ k).2.post.1], (Rd.posts ⟨psB18 l ++ t, q⟩ k).2.post.2) = _
    rw [a1]
    dsimp only
    have h2 : psB18 (l.drop k) ++ t = poB l[k] ++ (psB18 (l.drop (k + 1)) ++ t) := by rw [h1, ← List.append_assoc]; rfl
    rw [h2, post_out _ (hw _ (List.getElem_mem _)), List.take_add_one, List.getElem?_eq_getElem (by omega)]
    rfl
theorem post_bad {r : Rd} (h : r.bad = true) : r.post.2.bad = true := get_bad (get_bad (get_bad (get_bad (get_bad h))))
theorem posts_bad {r : Rd} (h : r.bad = true) : ∀ k, (r.posts k).2.bad = true
  | 0 => h
  | k + 1 => post_bad (posts_bad h k)
/-! What is read of a reply's bytes. -/
def aE (s : List UInt8) : Int := (Rd.int ⟨s, false⟩).1
def a1 (s : List UInt8) : Rd := (Rd.int ⟨s, false⟩).2
def aN (s : List UInt8) : Int := (a1 s).int.1
def a2 (s : List UInt8) : Rd := (a1 s).int.2
def aK (s : List UInt8) : Int := (a2 s).int.1
def a3 (s : List UInt8) : Rd := (a2 s).int.2
structure Rp.Ok (r : Rp) : Prop where
  er : 0 ≤ r.er ∧ r.er ≤ 19
  n : Wide64 r.n
  len : r.ps.length ≤ 100
  ps : ∀ x ∈ r.ps, x.Ok
def unA (s : List UInt8) : Option Rp :=
  if (0 ≤ aK s ∧ aK s ≤ 100) ∧ ((a3 s).posts (aK s).toNat).2.bad = false ∧ ((a3 s).posts (aK s).toNat).2.s = [] ∧ 0 ≤ aE s ∧ aE s ≤ 19 then some ⟨aE s, aN s, ((a3 s).posts (aK s).toNat).1⟩ else none
theorem a1_len {s : List UInt8} {n : Nat} (h : s.length ≤ n) : (a1 s).s.length ≤ n := by unfold a1; exact int_len h
theorem a2_len {s : List UInt8} {n : Nat} (h : s.length ≤ n) : (a2 s).s.length ≤ n := by unfold a2; exact int_len (a1_len h)
theorem a3_len {s : List UInt8} {n : Nat} (h : s.length ≤ n) : (a3 s).s.length ≤ n := by unfold a3; exact int_len (a2_len h)
theorem rp_out (r : Rp) (h1 : Wide64 r.er) (h2 : Wide64 r.n) (h3 : r.ps.length ≤ 1000000000000) (h4 : ∀ x ∈ r.ps, x.Ok) : aE (rpb r) = r.er ∧ aN (rpb r) = r.n ∧ aK (rpb r) = r.ps.length ∧ (∀ k, k ≤ r.ps.length → (a3 (rpb r)).posts k = (r.ps.take k, ⟨psB18 (r.ps.drop k), false⟩)) := by
  obtain ⟨s, hs⟩ : ∃ s, rpb r = s := ⟨_, rfl⟩
  have e0 : s = ib r.er ++ (ib r.n ++ (ib r.ps.length ++ psB18 r.ps)) := by rw [← hs]; unfold rpb rpH; simp
  have g1 := int_out r.er h1 (ib r.n ++ (ib r.ps.length ++ psB18 r.ps)) false
  rw [← e0] at g1
  have e1 : a1 s = ⟨ib r.n ++ (ib r.ps.length ++ psB18 r.ps), false⟩ := by unfold a1; rw [g1]
  have g2 := int_out r.n h2 (ib r.ps.length ++ psB18 r.ps) false
  rw [← e1] at g2
  have e2 : a2 s = ⟨ib r.ps.length ++ psB18 r.ps, false⟩ := by unfold a2; rw [g2]
  have g3 := int_out r.ps.length ⟨by omega, by omega⟩ (psB18 r.ps) false
  rw [← e2] at g3
  have e3 : a3 s = ⟨psB18 r.ps, false⟩ := by unfold a3; rw [g3]
  rw [hs]
  refine ⟨by unfold aE; rw [g1], by unfold aN; rw [g2], by unfold aK; rw [g3], fun k hk => ?_⟩
  rw [e3]
  have := posts_out r.ps [] false h4 k hk
  rw [List.append_nil, List.append_nil] at this
  exact this
theorem unA_iff (s : List UInt8) (hl : s.length ≤ 1000000000000) (r : Rp) : unA s = some r ↔ r.Ok ∧ rpb r = s := by
  unfold unA
  constructor
  · intro h
    split at h
    · rename_i hc
      obtain ⟨⟨h0, h1⟩, h2, h3, h4, h5⟩ := hc
      injection h with h
      subst h
      have hpl := posts_length (a3 s) (aK s).toNat
      obtain ⟨b1, e1⟩ := posts_in (a3 s) (a3_len hl) _ h2
      rw [h3, List.append_nil] at e1
      unfold a3 at b1
      obtain ⟨b2, _, e2⟩ := int_in (r := a2 s) b1
      unfold a2 at b2
      obtain ⟨b3, w3, e3⟩ := int_in (r := a1 s) b2
      unfold a1 at b3
      obtain ⟨b4, _, e4⟩ := int_in (r := ⟨s, false⟩) b3
      refine ⟨⟨⟨h4, h5⟩, ?_, by dsimp only; omega, posts_all (fun q hq => post_ok hq) (a3_len hl) _⟩, ?_⟩
      · unfold aN; exact w3
      · unfold rpb rpH
        dsimp only
        have f2 : (a2 s).s = ib (aK s) ++ (a3 s).s := by unfold aK a3; exact e2
        have f3 : (a1 s).s = ib (aN s) ++ (a2 s).s := by unfold aN a2; exact e3
        have f4 : s = ib (aE s) ++ (a1 s).s := by unfold aE a1; exact e4
        rw [hpl, show (((aK s).toNat : Nat) : Int) = aK s from by omega]
        simp only [List.append_assoc]
        rw [← e1, ← f2, ← f3, ← f4]
    · cases h
  · rintro ⟨h1, rfl⟩
    have he := h1.er
    have hn := h1.len
    obtain ⟨b1, b2, b3, b4⟩ := rp_out r ⟨by omega, by omega⟩ h1.n (by omega) h1.ps
    have e : (aK (rpb r)).toNat = r.ps.length := by rw [b3]; simp
    have := b4 r.ps.length (Nat.le_refl _)
    rw [List.take_length, List.drop_length] at this
    rw [e, this, b1, b2, b3]
    rw [if_pos ⟨⟨by omega, by omega⟩, rfl, rfl, he⟩]
theorem unA_many (s : List UInt8) (mv : Int) (mq re : Rd) (ps : List Po) (hm : (a2 s).many = (mv, mq)) (hi : mq.posts mv.toNat = (ps, re)) :
    unA s = if re.bad = false ∧ re.s = [] ∧ 0 ≤ aE s ∧ aE s ≤ 19 then some ⟨aE s, aN s, ps⟩ else none := by
  have hcm : (a2 s).int = (aK s, a3 s) := by unfold aK a3; exact (Prod.eta _).symm
  unfold Rd.many at hm
  rw [hcm] at hm
  dsimp only at hm
  split at hm
  · rename_i hbad
    simp only [Prod.mk.injEq] at hm
    obtain ⟨rfl, rfl⟩ := hm
    have hrb : re.bad = true := by
      have h1 := posts_bad (r := ⟨(a3 s).s, true⟩) rfl (0 : Int).toNat
      rw [hi] at h1
      exact h1
    rw [if_neg (by rw [hrb]; simp)]
    unfold unA
    rw [if_neg]
    rintro ⟨h0, h1, _⟩
    rcases hbad with hbad | hbad | hbad
    · have := posts_bad hbad (aK s).toNat
      rw [h1] at this
      cases this
    · omega
    · omega
  · rename_i hbad
    simp only [Prod.mk.injEq] at hm
    obtain ⟨rfl, rfl⟩ := hm
    have h0 : 0 ≤ aK s ∧ aK s ≤ 100 := by
      constructor
      · rcases Int.lt_or_le (aK s) 0 with h | h
        · exact absurd (.inr (.inl h)) hbad
        · exact h
      · rcases Int.lt_or_le 100 (aK s) with h | h
        · exact absurd (.inr (.inr h)) hbad
        · exact h
    unfold unA
    rw [hi]
    by_cases hc : re.bad = false ∧ re.s = [] ∧ 0 ≤ aE s ∧ aE s ≤ 19
    · rw [if_pos hc, if_pos ⟨h0, hc⟩]
    · rw [if_neg hc, if_neg (fun h => hc h.2)]
end Go.Proofs.YtcjfmildalappaaGreat
namespace Go.Proofs.YtcjfmildalappaaGreat
open Go.RowKit
/-- What unpacking of a reply hands back. -/
def Rp.zero : Rp := ⟨0, 0, []⟩
def UnAW (s : List UInt8) (w : World) (e : Ending) (w' : World) : Prop :=
  ∃ pv, e = .returned (.tuple #[((unA s).getD Rp.zero).val pv, .int .i64 (if (unA s).isSome = true then 0 else 8)]) ∧ RpAt w' pv ((unA s).getD Rp.zero) ∧ Only [] w w' ∧ ∀ g, pv.ownBlock = some g → w.heap.size ≤ g
theorem rp_zero_at (w : World) : RpAt w (.slice none 0 0) Rp.zero := ⟨SlAt.of_own (World.ownsRow_nil w 0 101 5), ⟨by decide, by decide⟩, ⟨by decide, by decide⟩, by simp [Rp.zero], by simp [Rp.zero]⟩
set_option maxRecDepth 100000 in
set_option maxHeartbeats 8000000 in
theorem cmd_toAnswer (s : List UInt8) (w : World) (hl : s.length ≤ 1000000) :
    Calls Tryz.prog 122 #[.string ⟨s.toArray⟩] w (UnAW s w) := by
  obtain ⟨i0, hi0, hz0, hz1, hz2⟩ := info_parts info_post
  obtain ⟨w1, hw1⟩ : ∃ w1, w.alloc (.cells #[.int .i64 0, .int .i64 0, .slice none 0 0] 34) = w1 := ⟨_, rfl⟩
  obtain ⟨w2, hw2⟩ : ∃ w2, w1.alloc (.cells #[.string ⟨s.toArray⟩, .bool false] 225) = w2 := ⟨_, rfl⟩
  obtain ⟨R, hR⟩ : ∃ R, w.heap.size = R := ⟨_, rfl⟩
  obtain ⟨z, hz⟩ : ∃ R, w1.heap.size = R := ⟨_, rfl⟩
  have O1 : Only [] w w1 := hw1 ▸ (Only.refl _ _).alloc _
  have O2 : Only [] w1 w2 := hw2 ▸ (Only.refl _ _).alloc _
  have a1' : Cells w1 R 34 [.int .i64 0, .int .i64 0, .slice none 0 0] := hw1 ▸ hR ▸ Cells.new w _ _
  have a2' : Cells w2 z 225 [.string ⟨s.toArray⟩, .bool false] := hw2 ▸ hz ▸ Cells.new w1 _ _
  have hRz : R < z := by have := a1'.lt; omega
  have HB2 : Hid (Cells w2 R 34 [.int .i64 0, .int .i64 0, .slice none 0 0]) := Lib.hid (a1'.only O2 (by simp))
  have hr2 : CrAt w2 z ⟨s, false⟩ := ⟨a2', by show s.length ≤ _; omega⟩
  have HO2 := Lib.hid (O1.tr O2)
  have hwR : w.heap.size = R := hR
  have hs1 : (Rd.int ⟨s, false⟩).2 = a1 s := rfl
  have hs2 : (a1 s).int.2 = a2 s := rfl
  have hE : (Rd.int ⟨s, false⟩).1 = aE s := rfl
  have hN : (a1 s).int.1 = aN s := rfl
  have CE := Lib.hid (cr_int z ⟨s, false⟩ w2 hr2)
  rw [hs1, hE] at CE
  have CN := Lib.hid (fun w' h => cr_int z (a1 s) w' h)
  rw [hs2, hN] at CN
  have WE : Wide64 (aE s) := hE ▸ int_wide _
  have WN : Wide64 (aN s) := hN ▸ int_wide _
  obtain ⟨E, hE'⟩ : ∃ E, aE s = E := ⟨_, rfl⟩
  obtain ⟨N0, hN'⟩ : ∃ E, aN s = E := ⟨_, rfl⟩
  have HE := Lib.hid hE'
  have HN := Lib.hid hN'
  rw [hE'] at CE WE
  rw [hN'] at CN WN
  have HWN := Lib.hid WN
  clear a1' a2' O1 O2 hr2 hs1 hs2 hE hN hE' hN' WN
  go_enter Tryz.func122, Tryz.ntmps122
  go_wp2_with fail
  clear hw1 hw2 hR hz
  refine CE.out.mono ?_
  rintro e w3 ⟨rfl, hr3, ho3⟩
  dsimp only
  have HB3 := Lib.hid (HB2.out.only ho3 (by simp; omega))
  have HO3 := Lib.hid (HO2.out.trans ho3 (by intro q hq; simp at hq; exact .inr (by omega)))
  have CN3 := Lib.hid (CN.out w3 hr3)
  clear hr3 ho3 CE CN HB2 HO2
  go_wp2_with fail
  refine CN3.out.mono ?_
  rintro e w4 ⟨rfl, hr4, ho4⟩
  dsimp only
  have HB4 := HB3.out.only ho4 (by simp; omega)
  have HO4 := HO3.out.trans ho4 (by intro q hq; simp at hq; exact .inr (by omega))
  obtain ⟨w5, hw5⟩ : ∃ w5, w4.alloc (.cells #[.int .i64 E, .int .i64 N0, .slice none 0 0] 34) = w5 := ⟨_, rfl⟩
  obtain ⟨y, hy⟩ : ∃ y, w4.heap.size = y := ⟨_, rfl⟩
  have O5 : Only [] w4 w5 := hw5 ▸ (Only.refl _ _).alloc _
  have HY5 : Hid (Cells w5 y 34 [.int .i64 E, .int .i64 N0, .slice none 0 0]) := Lib.hid (hw5 ▸ hy ▸ Cells.new w4 _ _)
  have hzy : z < y := by have := hr4.lt; omega
  have HR5 := Lib.hid (hr4.only O5 (by simp))
  have HB5 := Lib.hid (HB4.only O5 (by simp))
  have HO5 := Lib.hid (HO4.tr O5)
  clear hr4 ho4 CN3 HB3 HO3 HB4 HO4 O5
  subst hw5 hy
  go_wp2_with fail
  obtain ⟨y, hy⟩ : ∃ y, w4.heap.size = y := ⟨_, rfl⟩
  obtain ⟨w5, hw5⟩ : ∃ w5, w4.alloc (.cells #[.int .i64 E, .int .i64 N0, .slice none 0 0] 34) = w5 := ⟨_, rfl⟩
  simp only [hw5, hy] at HY5 HR5 HB5 HO5 hzy ⊢
  clear hw5
  have CM := Lib.hid (cr_many z (a2 s) w5 HR5.out)
  refine CM.out.mono ?_
  rintro e w6 ⟨rfl, hr6, ho6⟩
  dsimp only
  obtain ⟨h0, h100⟩ := many_le (a2 s)
  have hml := many_len (a2_len hl)
  obtain ⟨⟨mv, mq⟩, hm⟩ : ∃ p, (a2 s).many = p := ⟨_, rfl⟩
  have HM := Lib.hid hm
  rw [hm] at hr6 h0 h100 hml ⊢
  dsimp only at hr6 h0 h100 hml ⊢
  obtain ⟨N, rfl⟩ : ∃ N : Nat, mv = N := ⟨mv.toNat, by omega⟩
  clear hm CM
  have HR6 : Hid (CrAt w6 z (mq.posts 0).2) := Lib.hid hr6
  have HY6 := Lib.hid (HY5.out.only ho6 (by simp; omega))
  have HB6 := Lib.hid (HB5.out.only ho6 (by simp; omega))
  have HO6 := Lib.hid (HO5.out.trans ho6 (by intro q hq; simp at hq; exact .inr (by omega)))
  clear hr6 ho6 HR5 HY5 HB5 HO5 hy
  go_wp2_with fail
  go_loopw [7, 19] (fun _ i wr => ∃ (k : Nat) (pv : Value), k ≤ N ∧ i = .int .i64 k ∧ Hid (CrAt wr z (mq.posts k).2) ∧ Hid (Cells wr y 34 [.int .i64 E, .int .i64 N0, pv]) ∧ Hid (wr.ownsRow R 101 5 pv k (poL (mq.posts k).1)) ∧ Hid (Cells wr R 34 [.int .i64 0, .int .i64 0, .slice none 0 0]) ∧ Hid (Only [] w wr)) (fun _ i _ => N - (intOf i).toNat)
  case atStart => exact ⟨0, .slice none 0 0, by omega, rfl, HR6, HY6, Lib.hid (World.ownsRow_nil _ _ _ _), HB6, HO6⟩
  case round =>
    obtain ⟨k, pv, hk, rfl, hr, hz, hown, hb, ho⟩ := hrel
    by_cases hlt : k < N
    · have hlt' : (k : Int) < (N : Int) := by omega
      have hkb : k ≤ 200 := by omega
      obtain ⟨A, cap, rfl⟩ := (SlAt.of_own hown.out).shape
      have hne : (Value.slice A k cap).ownBlock ≠ some z := own_ne_block hown.out hr.out.1 (by decide)
      have hne2 : (Value.slice A k cap).ownBlock ≠ some y := own_ne_block hown.out hz.out (by decide)
      have hne3 : (Value.slice A k cap).ownBlock ≠ some R := own_ne_block hown.out hb.out (by decide)
      obtain ⟨q, hq⟩ : ∃ q, (mq.posts k).2 = q := ⟨_, rfl⟩
      have HP : Hid ((mq.posts (k + 1)).1 = (mq.posts k).1 ++ [q.post.1] ∧ (mq.posts (k + 1)).2 = q.post.2) := Lib.hid (by rw [← hq]; exact ⟨rfl, rfl⟩)
      have hrq := hr.out
      rw [hq] at hrq
      obtain ⟨sq, hsq⟩ : ∃ n, q.int.1 = n := ⟨_, rfl⟩
      obtain ⟨q1, hq1⟩ : ∃ n, q.int.2 = n := ⟨_, rfl⟩
      obtain ⟨x, hx⟩ : ∃ n, q1.item.1 = n := ⟨_, rfl⟩
      obtain ⟨q2, hq2⟩ : ∃ n, q1.item.2 = n := ⟨_, rfl⟩
      obtain ⟨rd, hrd⟩ : ∃ n, q2.bool.1 = n := ⟨_, rfl⟩
      obtain ⟨q3, hq3⟩ : ∃ n, q2.bool.2 = n := ⟨_, rfl⟩
      have hpo : q.post = (⟨sq, x, rd⟩, q3) := by unfold Rd.post; rw [hsq, hq1, hx, hq2, hrd, hq3]
      have hp1 : (mq.posts (k + 1)).1 = (mq.posts k).1 ++ [⟨sq, x, rd⟩] := by rw [HP.out.1, hpo]
      have hp2 : (mq.posts (k + 1)).2 = q3 := by rw [HP.out.2, hpo]
      have HP1 := Lib.hid hp1
      have HP2 := Lib.hid hp2
      have C0 := Lib.hid (cr_int z q wr hrq)
      have C1 := Lib.hid (fun w' h => cr_item z q1 w' h)
      have C2 := Lib.hid (fun w' h => cr_bool z q2 w' h)
      rw [hsq, hq1] at C0
      rw [hx, hq2] at C1
      rw [hrd, hq3] at C2
      clear hp1 hp2 hpo HP hq hsq hq1 hx hq2 hrd hq3 hrq
      go_wp2_with fail
      refine C0.out.mono ?_
      rintro e w9 ⟨rfl, hr9, ho9⟩
      dsimp only
      have hwn9 := own_keep hown.out ho9 (by simpa using hne)
      have hz9 := hz.out.only ho9 (by simp; omega)
      have hb9 := hb.out.only ho9 (by simp; omega)
      have ho9' := ho.out.trans ho9 (by intro q hq; simp at hq; exact .inr (by omega))
      obtain ⟨wb, hwb⟩ : ∃ wb, w9.alloc (.cells #[.int .i64 sq, .string ⟨#[]⟩, .string ⟨#[]⟩, .string ⟨#[]⟩, .bool false] 101) = wb := ⟨_, rfl⟩
      obtain ⟨p, hp⟩ : ∃ b, w9.heap.size = b := ⟨_, rfl⟩
      have ob : Only [] w9 wb := hwb ▸ (Only.refl _ _).alloc _
      have HPb : Hid (Cells wb p 101 [.int .i64 sq, .string ⟨([] : List UInt8).toArray⟩, .string ⟨([] : List UInt8).toArray⟩, .string ⟨([] : List UInt8).toArray⟩, .bool false]) := Lib.hid (hwb ▸ hp ▸ Cells.new w9 _ _)
      have hyp : y < p := by have := hz9.lt; omega
      have HNP : Hid ((Value.slice A k cap).ownBlock ≠ some p) := Lib.hid (fun h => by have := (hwn9.lt _ h).2; omega)
      have hpw : Hid (p < wb.heap.size) := Lib.hid HPb.out.lt
      have HRb := Lib.hid (hr9.only ob (by simp))
      have HZb := Lib.hid (hz9.only ob (by simp))
      have HBb := Lib.hid (hb9.only ob (by simp))
      have HOb := Lib.hid (ho9'.tr ob)
      have HWb := Lib.hid (own_keep hwn9 ob (by simp))
      clear hr9 ho9 hwn9 hz9 hb9 ho9' ob hr hz hown hb ho C0 
      subst hwb hp
      go_wp2_with fail
      obtain ⟨p, hp⟩ : ∃ y, w9.heap.size = y := ⟨_, rfl⟩
      obtain ⟨wb, hwb⟩ : ∃ w5, w9.alloc (.cells #[.int .i64 sq, .string ⟨#[]⟩, .string ⟨#[]⟩, .string ⟨#[]⟩, .bool false] 101) = w5 := ⟨_, rfl⟩
      simp only [hwb, hp] at HPb HRb HZb HBb HOb HWb hyp hpw HNP ⊢
      clear hwb hp
      refine (C1.out wb HRb.out).mono ?_
      rintro e w10 ⟨rfl, hr10, ho10⟩
      dsimp only
      have hp10 := HPb.out.only ho10 (by simp; omega)
      have z1 := hp10.cell (k := 1) rfl
      have z2 := hp10.cell (k := 2) rfl
      have z3 := hp10.cell (k := 3) rfl
      have f1 := hp10.frozen 1
      have f2 := hp10.frozen 2
      have f3 := hp10.frozen 3
      have pl := hp10.lt
      obtain ⟨w11, hw11⟩ : ∃ w11, ((w10.setCell ⟨p, 1, none⟩ (.string ⟨x.id.toArray⟩)).setCell ⟨p, 2, none⟩ (.string ⟨x.ti.toArray⟩)).setCell ⟨p, 3, none⟩ (.string ⟨x.li.toArray⟩) = w11 := ⟨_, rfl⟩
      have oW : Only [p] w10 w11 := hw11 ▸ ((((Only.refl _ _).setCell (.inl (by simp)) _).setCell (.inl (by simp)) _).setCell (.inl (by simp)) _)
      have HP11 : Hid (Cells w11 p 101 [.int .i64 sq, .string ⟨x.id.toArray⟩, .string ⟨x.ti.toArray⟩, .string ⟨x.li.toArray⟩, .bool false]) := Lib.hid (hw11 ▸ ((hp10.set 1 _).set 2 _).set 3 _)
      have hr11 : CrAt w11 z q2 := hr10.only oW (by simp; omega)
      have hnp := HNP.out
      have HZ11 := Lib.hid ((HZb.out.only ho10 (by simp; omega)).only oW (by simp; omega))
      have HB11 := Lib.hid ((HBb.out.only ho10 (by simp; omega)).only oW (by simp; omega))
      have HO11 := Lib.hid ((HOb.out.trans ho10 (by intro q hq; simp at hq; exact .inr (by omega))).trans oW (by intro q hq; simp at hq; exact .inr (by omega)))
      have HW11 := Lib.hid (own_keep (own_keep HWb.out ho10 (by simpa using hne)) oW (by simpa using hnp))
      have C11 := Lib.hid (C2.out w11 hr11)
      clear hr10 ho10 hp10 oW hr11 C1 C2 HPb HRb HZb HBb HOb HWb hpw
      go_wp2_with fail
      clear hw11 z1 z2 z3 f1 f2 f3 pl
      refine C11.out.mono ?_
      rintro e w12 ⟨rfl, hr12, ho12⟩
      dsimp only
      have hp12 := HP11.out.only ho12 (by simp; omega)
      have z4 := hp12.cell (k := 4) rfl
      have f4 := hp12.frozen 4
      have pl := hp12.lt
      obtain ⟨w13, hw13⟩ : ∃ w13, w12.setCell ⟨p, 4, none⟩ (.bool rd) = w13 := ⟨_, rfl⟩
      have oW : Only [p] w12 w13 := hw13 ▸ (Only.refl _ _).setCell (.inl (by simp)) _
      have HP13 : Cells w13 p 101 [.int .i64 sq, .string ⟨x.id.toArray⟩, .string ⟨x.ti.toArray⟩, .string ⟨x.li.toArray⟩, .bool rd] := hw13 ▸ hp12.set 4 _
      have HR13 := Lib.hid (hr12.only oW (by simp; omega))
      have hz13 := (HZ11.out.only ho12 (by simp; omega)).only oW (by simp; omega)
      have HB13 := Lib.hid ((HB11.out.only ho12 (by simp; omega)).only oW (by simp; omega))
      have HO13 := Lib.hid ((HO11.out.trans ho12 (by intro q hq; simp at hq; exact .inr (by omega))).trans oW (by intro q hq; simp at hq; exact .inr (by omega)))
      have hwn := own_keep (own_keep HW11.out ho12 (by simpa using hne)) oW (by simpa using hnp)
      have hRw : R ≤ w13.heap.size := by have := HO13.out.size; omega
      have p0 := HP13.cell (k := 0) rfl
      have p1 := HP13.cell (k := 1) rfl
      have p2 := HP13.cell (k := 2) rfl
      have p3 := HP13.cell (k := 3) rfl
      have p4 := HP13.cell (k := 4) rfl
      have y2 := hz13.cell (k := 2) rfl
      have zl := hz13.lt
      have HZ13 := Lib.hid hz13
      clear hr12 ho12 hp12 oW C11 HP11 HZ11 HB11 HO11 HW11 HP13 hz13
      go_wp2_with (at_builtin; go_loud (refine wpList_appA rfl _ _ 32 rfl R 101 i0 _ 5 64 Tryz.underlying32 hi0 hz0 hz1 hz2 rfl (by decide) w13 (.slice A k cap) k _ rfl hwn 1 1 [.int .i64 sq, .string ⟨x.id.toArray⟩, .string ⟨x.ti.toArray⟩, .string ⟨x.li.toArray⟩, .bool rd] rfl rfl (by simp [Value.oneCell']) (by simp only [maxLen]; omega) (by omega) hRw ?_); intro v' w14 hown14 hgrow hnew; have hz14 := HZ13.out.grown hgrow hne2; have y14 := hz14.cell (k := 2) rfl; have f14 := hz14.frozen 2; have l14 := hz14.lt; obtain ⟨A', cap', rfl⟩ := (SlAt.of_own hown14).shape)
      have hg9 : (Value.slice A' (k + 1) cap').ownBlock ≠ some y := own_ne_block hown14 hz14 (by decide)
      have hoW : Only [y] w14 (w14.setCell ⟨y, 2, none⟩ (.slice A' (k + 1) cap')) := (Only.refl _ _).setCell (.inl (by simp)) _
      have hown15 := own_keep hown14 hoW (by simpa using hg9)
      have hpo : poL (mq.posts (k + 1)).1 = poL (mq.posts k).1 ++ [.int .i64 sq, .string ⟨x.id.toArray⟩, .string ⟨x.ti.toArray⟩, .string ⟨x.li.toArray⟩, .bool rd] := by rw [HP1.out, poL_append]; rfl
      rw [← hpo] at hown15
      have HOWN := Lib.hid hown15
      have hr14 : CrAt w14 z (mq.posts (k + 1)).2 := by rw [HP2.out]; exact ⟨HR13.out.1.grown hgrow hne, HR13.out.2⟩
      have HR15 := Lib.hid (CrAt.only hr14 hoW (by simp; omega))
      have HB15 := Lib.hid ((HB13.out.grown hgrow hne3).only hoW (by simp; omega))
      have HZ15 := Lib.hid (hz14.set 2 (.slice A' (k + 1) cap'))
      have HO15 := Lib.hid ((HO13.out.own hwn hgrow (by omega)).trans hoW (by intro q hq; simp at hq; exact .inr (by omega)))
      clear hown14 hgrow hnew hz14 hr14 hown15 hoW HB13 HR13 HO13 HZ13 hwn hpo hw13 HP1 HP2 z4 f4 pl p0 p1 p2 p3 p4 y2 zl
      go_wp2_with fail
      go_roundw
      case rel => exact ⟨k + 1, .slice A' (k + 1) cap', by omega, by go_num, HR15, HZ15, HOWN, HB15, HO15⟩
      case measure => simp [intOf]; omega
    · have hd : decide ((k : Int) < (N : Int)) = false := by simp; omega
      obtain rfl : k = N := by omega
      obtain ⟨A, cap, rfl⟩ := (SlAt.of_own hown.out).shape
      obtain ⟨ps, hps⟩ : ∃ ps, (mq.posts k).1 = ps := ⟨_, rfl⟩
      obtain ⟨re, hre⟩ : ∃ r, (mq.posts k).2 = r := ⟨_, rfl⟩
      have hpsl : ps.length = k := by rw [← hps]; exact posts_length mq k
      have HSM : Hid (∀ x ∈ ps, x.Sm) := Lib.hid (by rw [← hps]; exact posts_all (fun q hq => post_sm hq) hml k)
      have HU0 : Hid (unA s = if re.bad = false ∧ re.s = [] ∧ 0 ≤ E ∧ E ≤ 19 then some ⟨E, N0, ps⟩ else none) := Lib.hid (by
        have := unA_many s k mq re ps HM.out (by rw [Int.toNat_natCast, ← hps, ← hre])
        rw [HE.out, HN.out] at this
        exact this)
      rw [hre] at hr
      rw [hps] at hown
      have HZf := hz
      have HBf := hb
      have HOf := ho
      have HWf := hown
      have r0 := hr.out.1.cell (k := 0) rfl
      have r1 := hr.out.1.cell (k := 1) rfl
      clear hps hre HM HE HN hz hb ho hown hlt HR6 HY6 HB6 HO6
      cases hbad : re.bad with
      | true =>
        have HU : Hid (unA s = none) := Lib.hid (by rw [HU0.out, if_neg (by rw [hbad]; simp)])
        rw [hbad] at r1
        clear hbad
        have hst := HBf.out
        have hone : (#[.int .i64 0, .int .i64 0, .slice none 0 0] : Array Value).all (·.oneCell') = true := by simp [Value.oneCell']
        go_wp2_with (refine wpList_store_row rfl 34 _ _ rfl R #[.int .i64 0, .int .i64 0, .slice none 0 0] rfl rfl 34 _ hst (by kernel_rfl) rfl hone ?_)
        (try simp only [Exit.inBlock, Exit.then])
        refine bodyPost_ret (v := .tuple #[.agg #[.int .i64 0, .int .i64 0, .slice none 0 0], .int .i64 8]) ?_ rfl ⟨.slice none 0 0, by rw [HU.out]; rfl, by rw [HU.out]; exact rp_zero_at _, HOf.out.setRow (.inr (by omega)) _, fun g hg => by simp [Value.ownBlock] at hg⟩
        exact results_row_tmp Tryz.results122 _ _ R 34 [.int .i64 0, .int .i64 0, .slice none 0 0] _ rfl (Cells.setRow HBf.out [.int .i64 0, .int .i64 0, .slice none 0 0]) Tryz.underlying34 rfl (by kernel_rfl)
      | false =>
        rw [hbad] at r1
        by_cases hs : re.s = []
        · rw [hs] at r0
          have HIN : Hid (inB E 19 = true ↔ 0 ≤ E ∧ E ≤ 19) := Lib.hid inB_iff
          obtain ⟨q, hq⟩ : ∃ q, inB E 19 = q := ⟨_, rfl⟩
          have CW := Lib.hid (fun w' => within_call E 19 w')
          rw [hq] at CW HIN
          have HU1 : Hid (unA s = if 0 ≤ E ∧ E ≤ 19 then some ⟨E, N0, ps⟩ else none) := Lib.hid (by rw [HU0.out]; simp [hbad, hs])
          clear hbad hs hq HU0
          cases q with
          | false =>
            have HU : Hid (unA s = none) := Lib.hid (by rw [HU1.out, if_neg (fun h => by have := HIN.out.2 h; cases this)])
            clear HIN HU1
            go_wp2_with fail
            refine (CW.out _).mono ?_
            rintro e w12 ⟨rfl, rfl⟩
            dsimp only
            clear CW
            have hst := HBf.out
            have hone : (#[.int .i64 0, .int .i64 0, .slice none 0 0] : Array Value).all (·.oneCell') = true := by simp [Value.oneCell']
            go_wp2_with (refine wpList_store_row rfl 34 _ _ rfl R #[.int .i64 0, .int .i64 0, .slice none 0 0] rfl rfl 34 _ hst (by kernel_rfl) rfl hone ?_)
            (try simp only [Exit.inBlock, Exit.then])
            refine bodyPost_ret (v := .tuple #[.agg #[.int .i64 0, .int .i64 0, .slice none 0 0], .int .i64 8]) ?_ rfl ⟨.slice none 0 0, by rw [HU.out]; rfl, by rw [HU.out]; exact rp_zero_at _, HOf.out.setRow (.inr (by omega)) _, fun g hg => by simp [Value.ownBlock] at hg⟩
            exact results_row_tmp Tryz.results122 _ _ R 34 [.int .i64 0, .int .i64 0, .slice none 0 0] _ rfl (Cells.setRow HBf.out [.int .i64 0, .int .i64 0, .slice none 0 0]) Tryz.underlying34 rfl (by kernel_rfl)
          | true =>
            have HU : Hid (unA s = some ⟨E, N0, ps⟩) := Lib.hid (by rw [HU1.out, if_pos (HIN.out.1 rfl)])
            clear HIN HU1
            go_wp2_with fail
            refine (CW.out _).mono ?_
            rintro e w12 ⟨rfl, rfl⟩
            dsimp only
            clear CW
            have hoR : Only [R] wr (wr.setRow R #[.int .i64 E, .int .i64 N0, .slice A k cap]) := (Only.refl _ _).setRow (.inl (by simp)) _
            have HATR : Hid (RpAt (wr.setRow R #[.int .i64 E, .int .i64 N0, .slice A k cap]) (.slice A k cap) ⟨E, N0, ps⟩) := Lib.hid (by
              refine ⟨?_, WE, HWN.out, HSM.out, by dsimp only; omega⟩
              have hnR : (Value.slice A k cap).ownBlock ≠ some R := own_ne_block HWf.out HBf.out (by decide)
              have hsz := HOf.out.size
              have := SlAt.of_own (own_keep HWf.out hoR (by simpa using hnR))
              rw [← hpsl] at this ⊢
              refine this.more ?_
              have := hoR.size
              omega)
            have g0 := HZf.out.cell (k := 0) rfl
            have g1 := HZf.out.cell (k := 1) rfl
            have g2 := HZf.out.cell (k := 2) rfl
            clear hoR
            have hst := HBf.out
            have hone : (#[.int .i64 E, .int .i64 N0, .slice A k cap] : Array Value).all (·.oneCell') = true := by simp [Value.oneCell']
            go_wp2_with (refine wpList_store_row rfl 34 _ _ rfl R #[.int .i64 E, .int .i64 N0, .slice A k cap] rfl rfl 34 _ hst (by kernel_rfl) rfl hone ?_)
            (try simp only [Exit.inBlock, Exit.then])
            refine bodyPost_ret (v := .tuple #[.agg #[.int .i64 E, .int .i64 N0, .slice A k cap], .int .i64 0]) ?_ rfl ⟨.slice A k cap, by rw [HU.out]; rfl, by rw [HU.out]; exact HATR.out, HOf.out.setRow (.inr (by omega)) _, fun g hg => by have := (HWf.out.lt g hg).1; omega⟩
            exact results_row_tmp Tryz.results122 _ _ R 34 [.int .i64 E, .int .i64 N0, .slice A k cap] _ rfl (Cells.setRow HBf.out [.int .i64 E, .int .i64 N0, .slice A k cap]) Tryz.underlying34 rfl (by kernel_rfl)
        · have HU : Hid (unA s = none) := Lib.hid (by rw [HU0.out, if_neg (by simp [hs])])
          have hse : re.s.isEmpty = false := by simpa using hs
          clear hbad
          have hst := HBf.out
          have hone : (#[.int .i64 0, .int .i64 0, .slice none 0 0] : Array Value).all (·.oneCell') = true := by simp [Value.oneCell']
          go_wp2_with (refine wpList_store_row rfl 34 _ _ rfl R #[.int .i64 0, .int .i64 0, .slice none 0 0] rfl rfl 34 _ hst (by kernel_rfl) rfl hone ?_)
          (try simp only [Exit.inBlock, Exit.then])
          refine bodyPost_ret (v := .tuple #[.agg #[.int .i64 0, .int .i64 0, .slice none 0 0], .int .i64 8]) ?_ rfl ⟨.slice none 0 0, by rw [HU.out]; rfl, by rw [HU.out]; exact rp_zero_at _, HOf.out.setRow (.inr (by omega)) _, fun g hg => by simp [Value.ownBlock] at hg⟩
          exact results_row_tmp Tryz.results122 _ _ R 34 [.int .i64 0, .int .i64 0, .slice none 0 0] _ rfl (Cells.setRow HBf.out [.int .i64 0, .int .i64 0, .slice none 0 0]) Tryz.underlying34 rfl (by kernel_rfl)
end Go.Proofs.YtcjfmildalappaaGreat
