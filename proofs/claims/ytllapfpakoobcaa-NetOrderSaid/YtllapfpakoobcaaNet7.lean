/-
  Chapter 6's laws: what they lean on: a net since the law began; the examples.
-/
import Derived.Test.YtllapfpakoobcaaNet6
namespace Go.Proofs.Ytllapfpakoobcaa
open Go.RowKit
def Wide (x : Int) : Prop := -9223372036854775808 ≤ x ∧ x ≤ 9223372036854775807
theorem wide_of_wf {x : Int} (h : (Lit.int .i64 x).wf = true) : Wide x := by
  simp [Lit.wf, IntKind.min, IntKind.max, IntKind.signed, IntKind.bits] at h
  exact h
def pickI (c n : Int) : Int := if c < 0 then -(c + 1) % n else c % n
theorem pickI_lt (c n : Int) (hn : 0 < n) : 0 ≤ pickI c n ∧ pickI c n < n := by
  unfold pickI
  split
  · exact ⟨Int.emod_nonneg _ (by omega), Int.emod_lt_of_pos _ hn⟩
  · exact ⟨Int.emod_nonneg _ (by omega), Int.emod_lt_of_pos _ hn⟩
theorem pick6 (c n : Int) (w : World) (hc : Wide c) (h0 : 1 ≤ n) (h1 : n ≤ 1000) :
    Calls Try.prog 11 #[.int .i64 c, .int .i64 n] w fun e w' => e = .returned (.int .i64 (pickI c n)) ∧ w = w' := by
  obtain ⟨c0, c1⟩ := hc
  have hn : (n == 0) = false := by simp; omega
  by_cases h : c < 0
  · have h2 : 0 ≤ -(c + 1) := by omega
    have h2' : c ≤ -1 := by omega
    go_enter Try.func11, Try.ntmps11
    go_wp2
    go_ret
    exact ⟨by unfold pickI; rw [if_pos (by omega), ← Int.tmod_eq_emod_of_nonneg h2]; first | rfl | simp, rfl⟩
  · have h2 : 0 ≤ c := by omega
    have hd : decide (c < 0) = false := by simpa using h
    go_enter Try.func11, Try.ntmps11
    go_wp2
    go_ret
    exact ⟨by unfold pickI; rw [if_neg (by omega)]; simp, rfl⟩
/-- A net that was made since W, and nothing of W has turned. -/
structure NetAt (W w : World) (b : Nat) (s : NS) : Prop where
  ge : W.heap.size ≤ b
  net : ∃ v f, NetV w b b v f s
  only : Only [] W w
theorem NetAt.keep {W w w' : World} {b : Nat} {s : NS} (h : NetAt W w b s) (ho : Only [] w w') : NetAt W w' b s := by
  obtain ⟨v, f, hn⟩ := h.net
  exact ⟨h.ge, ⟨v, f, hn.only ho⟩, h.only.tr ho⟩
theorem NetAt.turn {W w w' : World} {b : Nat} {s s' : NS} {v v' f f' : Value} (h : NetAt W w b s) (hn : NetV w b b v f s) (h' : NetV w' b b v' f' s') (ho : Only (b :: rb v) w w') : NetAt W w' b s' :=
  ⟨h.ge, ⟨v', f', h'⟩, h.only.trans ho fun x hx => .inr (Nat.le_trans h.ge (hn.ges x hx))⟩
theorem na_new (W w : World) (h : Only [] W w) : Calls Try.prog 10 #[] w fun e w' => ∃ b, e = .returned (.pointer (some ⟨b, 0, none⟩)) ∧ Hid (NetAt W w' b ⟨[], [], 0⟩) :=
  (net_new w).mono fun e w' ⟨f, h1, h2, h3⟩ => ⟨_, h1, h.size, ⟨_, _, h2⟩, h.tr h3⟩
def NS.lo (s : NS) : Prop := 0 ≤ s.lost ∧ s.lost ≤ 1000000000000
theorem na_send {W w : World} {b : Nat} {s : NS} (h : Hid (NetAt W w b s)) (x : Lt) (hlo : s.lo) :
    Calls Try.prog 12 #[.pointer (some ⟨b, 0, none⟩), .int .i64 x.fr, .int .i64 x.to, .string x.d] w fun e w' => e = .returned (.tuple #[]) ∧ Hid (NetAt W w' b (s.send x)) := by
  obtain ⟨v, f, hn⟩ := h.out.net
  exact (net_send b b v f s x w hn hlo).mono fun e w' ⟨h1, v', h2, h3, _⟩ => ⟨h1, h.out.turn hn h2 h3⟩
theorem na_twice {W w : World} {b : Nat} {s : NS} (h : Hid (NetAt W w b s)) (k : Int) (hlo : s.lo) :
    Calls Try.prog 25 #[.pointer (some ⟨b, 0, none⟩), .int .i64 k] w fun e w' => e = .returned (.bool (s.twice k).2) ∧ Hid (NetAt W w' b (s.twice k).1) := by
  obtain ⟨v, f, hn⟩ := h.out.net
  exact (net_twice b b k v f s w hn hlo).mono fun e w' ⟨h1, v', h2, h3, _⟩ => ⟨h1, h.out.turn hn h2 h3⟩
theorem na_lose {W w : World} {b : Nat} {s : NS} (h : Hid (NetAt W w b s)) (k : Int) (hlo : s.lo) :
    Calls Try.prog 26 #[.pointer (some ⟨b, 0, none⟩), .int .i64 k] w fun e w' => e = .returned (.bool (s.lose k).2) ∧ Hid (NetAt W w' b (s.lose k).1) := by
  obtain ⟨v, f, hn⟩ := h.out.net
  exact (net_lose b b k v f s w hn hlo).mono fun e w' ⟨h1, v', h2, h3, _⟩ => ⟨h1, h.out.turn hn h2 h3⟩
theorem na_late {W w : World} {b : Nat} {s : NS} (h : Hid (NetAt W w b s)) (k : Int) :
    Calls Try.prog 24 #[.pointer (some ⟨b, 0, none⟩), .int .i64 k] w fun e w' => e = .returned (.bool (s.late k).2) ∧ Hid (NetAt W w' b (s.late k).1) := by
  obtain ⟨v, f, hn⟩ := h.out.net
  exact (net_late b b k v f s w hn).mono fun e w' ⟨h1, v', h2, h3, _⟩ => ⟨h1, h.out.turn hn h2 h3⟩
theorem na_take {W w : World} {b : Nat} {s : NS} (h : Hid (NetAt W w b s)) (k : Int) :
    Calls Try.prog 22 #[.pointer (some ⟨b, 0, none⟩), .int .i64 k] w fun e w' => e = .returned ((s.take k).2.1.res (s.take k).2.2) ∧ Hid (NetAt W w' b (s.take k).1) := by
  obtain ⟨v, f, hn⟩ := h.out.net
  exact (net_take b b k v f s w hn).mono fun e w' ⟨h1, v', h2, h3, _⟩ => ⟨h1, h.out.turn hn h2 h3⟩
theorem na_whole {W w : World} {b : Nat} {s : NS} (h : Hid (NetAt W w b s)) :
    Calls Try.prog 23 #[.pointer (some ⟨b, 0, none⟩)] w fun e w' => e = .returned (.tuple #[]) ∧ Hid (NetAt W w' b ⟨s.l, [], s.lost⟩) := by
  obtain ⟨v, f, hn⟩ := h.out.net
  exact (net_whole b b v f s w hn).mono fun e w' ⟨h1, f', h2, h3⟩ => ⟨h1, h.out.turn hn h2 h3⟩
theorem na_split {W w : World} {b B' : Nat} {s : NS} (h : Hid (NetAt W w b s)) (gv : Value) (g : List Int) (hB : B' ≤ w.heap.size) (hg : SlAt w B' gv 1 g.length (gvs g)) (hgl : g.length ≤ 1000000) :
    Calls Try.prog 21 #[.pointer (some ⟨b, 0, none⟩), gv] w fun e w' => e = .returned (.tuple #[]) ∧ Hid (NetAt W w' b ⟨s.l, g, s.lost⟩) := by
  obtain ⟨v, f, hn⟩ := h.out.net
  exact (net_split b b B' v f gv g s w hn hB hg hgl).mono fun e w' ⟨h1, f', h2, h3⟩ => ⟨h1, h.out.turn hn h2 h3⟩
theorem na_apart {W w : World} {b : Nat} {s : NS} (h : Hid (NetAt W w b s)) (x y : Int) :
    Calls Try.prog 19 #[.pointer (some ⟨b, 0, none⟩), .int .i64 x, .int .i64 y] w fun e w' => e = .returned (.bool (s.apart x y)) ∧ Hid (NetAt W w' b s) ∧ Only [] w w' := by
  obtain ⟨v, f, hn⟩ := h.out.net
  exact (net_apart b b v f s x y w hn).mono fun e w' ⟨h1, h2⟩ => ⟨h1, h.out.keep h2, h2⟩
theorem na_lost {W w : World} {b : Nat} {s : NS} (h : Hid (NetAt W w b s)) :
    Calls Try.prog 17 #[.pointer (some ⟨b, 0, none⟩)] w fun e w' => e = .returned (.int .i64 s.lost) ∧ w = w' := by
  obtain ⟨v, f, hn⟩ := h.out.net
  exact net_lost b b v f s w hn
theorem na_flight {W w : World} {b : Nat} {s : NS} (h : Hid (NetAt W w b s)) :
    Calls Try.prog 18 #[.pointer (some ⟨b, 0, none⟩)] w fun e w' => ∃ A c, e = .returned (.slice A s.l.length c) ∧ Hid (w'.ownsRow w.heap.size 37 3 (.slice A s.l.length c) s.l.length (ltL s.l)) ∧ Hid (NetAt W w' b s) ∧ Only [] w w' := by
  obtain ⟨v, f, hn⟩ := h.out.net
  refine (net_flight b b v f s w hn).mono fun e w' ⟨v', h1, h2, h3⟩ => ?_
  obtain ⟨A, c, rfl⟩ := (SlAt.of_own h2).shape
  exact ⟨A, c, h1, h2, h.out.keep h3, h3⟩
theorem na_sendE {W w : World} {b : Nat} {s s' : NS} (h : Hid (NetAt W w b s)) (x : Lt) (hlo : s.lo) (he : s.send x = s') :
    Calls Try.prog 12 #[.pointer (some ⟨b, 0, none⟩), .int .i64 x.fr, .int .i64 x.to, .string x.d] w fun e w' => e = .returned (.tuple #[]) ∧ Hid (NetAt W w' b s') := he ▸ na_send h x hlo
theorem na_twiceE {W w : World} {b : Nat} {s s' : NS} {ok : Bool} (h : Hid (NetAt W w b s)) (k : Int) (hlo : s.lo) (he : s.twice k = (s', ok)) :
    Calls Try.prog 25 #[.pointer (some ⟨b, 0, none⟩), .int .i64 k] w fun e w' => e = .returned (.bool ok) ∧ Hid (NetAt W w' b s') := by
  have := na_twice h k hlo; rw [he] at this; exact this
theorem na_loseE {W w : World} {b : Nat} {s s' : NS} {ok : Bool} (h : Hid (NetAt W w b s)) (k : Int) (hlo : s.lo) (he : s.lose k = (s', ok)) :
    Calls Try.prog 26 #[.pointer (some ⟨b, 0, none⟩), .int .i64 k] w fun e w' => e = .returned (.bool ok) ∧ Hid (NetAt W w' b s') := by
  have := na_lose h k hlo; rw [he] at this; exact this
theorem na_lateE {W w : World} {b : Nat} {s s' : NS} {ok : Bool} (h : Hid (NetAt W w b s)) (k : Int) (he : s.late k = (s', ok)) :
    Calls Try.prog 24 #[.pointer (some ⟨b, 0, none⟩), .int .i64 k] w fun e w' => e = .returned (.bool ok) ∧ Hid (NetAt W w' b s') := by
  have := na_late h k; rw [he] at this; exact this
theorem na_takeE {W w : World} {b : Nat} {s s' : NS} {x : Lt} {ok : Bool} (h : Hid (NetAt W w b s)) (k : Int) (he : s.take k = (s', x, ok)) :
    Calls Try.prog 22 #[.pointer (some ⟨b, 0, none⟩), .int .i64 k] w fun e w' => e = .returned (.tuple #[.agg #[.int .i64 x.fr, .int .i64 x.to, .string x.d], .bool ok]) ∧ Hid (NetAt W w' b s') := by
  have := na_take h k; rw [he] at this; exact this
theorem na_apartE {W w : World} {b : Nat} {s : NS} {ok : Bool} (h : Hid (NetAt W w b s)) (x y : Int) (he : s.apart x y = ok) :
    Calls Try.prog 19 #[.pointer (some ⟨b, 0, none⟩), .int .i64 x, .int .i64 y] w fun e w' => e = .returned (.bool ok) ∧ Hid (NetAt W w' b s) ∧ Only [] w w' := he ▸ na_apart h x y
/-- The cells of the k-th letter of a row. -/
theorem row_let {w : World} {B k n : Nat} {A : Option Addr} {c : Nat} {l : List Lt} {x : Lt} (h : w.ownsRow B 37 3 (.slice A n c) l.length (ltL l)) (hx : l[k]? = some x) :
    ∃ g, A = some ⟨g, 0, none⟩ ∧ w.cell? ⟨g, k * 3, none⟩ = some (.int .i64 x.fr) ∧ w.cell? ⟨g, k * 3 + 1, none⟩ = some (.int .i64 x.to) ∧ w.cell? ⟨g, k * 3 + 2, none⟩ = some (.string x.d) ∧ B ≤ g ∧ g < w.heap.size := by
  have hk : k < l.length := (List.getElem?_eq_some_iff.1 hx).1
  obtain ⟨g, cap, cs, hv, hg, hC, hn, hcm, hcl, htk⟩ := own_block h (by omega)
  injection hv with hv _ _
  subst hv
  have hxc : ∀ j u, j < 3 → x.cells[j]? = some u → w.cell? ⟨g, k * 3 + j, none⟩ = some u := fun j u hj hu => hC.cell (by
    have := ltL_get l k j x hx hj
    rw [← htk, List.getElem?_take_of_lt (by omega)] at this
    rw [this]; exact hu)
  exact ⟨g, rfl, hxc 0 _ (by omega) rfl, hxc 1 _ (by omega) rfl, hxc 2 _ (by omega) rfl, hg, hC.lt⟩
set_option maxRecDepth 100000 in
set_option maxHeartbeats 1000000 in
theorem shown6 (w : World) : Calls Try.prog 8 #[] w fun e w' => e = .returned (.bool true) ∧ Only [] w w' := by
  go_enter Try.func8, Try.ntmps8
  go_wp2_with fail
  refine (na_new w w (Only.refl _ _)).mono ?_
  rintro e w1 ⟨b, rfl, h1⟩
  go_wp2_with fail
  refine (na_sendE h1 ⟨1, 2, ⟨#[97]⟩⟩ ⟨by decide, by decide⟩ (s' := ⟨[⟨1, 2, ⟨#[97]⟩⟩], [], 0⟩) rfl).mono ?_
  rintro e w2 ⟨rfl, h2⟩
  go_wp2_with fail
  refine (na_sendE h2 ⟨1, 3, ⟨#[98]⟩⟩ ⟨by decide, by decide⟩ (s' := ⟨[⟨1, 2, ⟨#[97]⟩⟩, ⟨1, 3, ⟨#[98]⟩⟩], [], 0⟩) rfl).mono ?_
  rintro e w3 ⟨rfl, h3⟩
  go_wp2_with fail
  refine (na_twiceE h3 0 ⟨by decide, by decide⟩ (s' := ⟨[⟨1, 2, ⟨#[97]⟩⟩, ⟨1, 3, ⟨#[98]⟩⟩, ⟨1, 2, ⟨#[97]⟩⟩], [], 0⟩) (ok := true) rfl).mono ?_
  rintro e w4 ⟨rfl, h4⟩
  go_wp2_with fail
  refine (na_lateE h4 0 (s' := ⟨[⟨1, 3, ⟨#[98]⟩⟩, ⟨1, 2, ⟨#[97]⟩⟩, ⟨1, 2, ⟨#[97]⟩⟩], [], 0⟩) (ok := true) rfl).mono ?_
  rintro e w5 ⟨rfl, h5⟩
  go_wp2_with fail
  refine (na_flight h5).mono ?_
  rintro e w6 ⟨A, c, rfl, hr, h6, ho6⟩
  obtain ⟨g, rfl, p0, p1, p2, -, -⟩ := row_let (k := 0) hr.out rfl
  obtain ⟨g', e', q0, q1, q2, -, -⟩ := row_let (k := 1) hr.out rfl
  injection e' with e'
  injection e' with e'
  subst e'
  obtain ⟨g', e', r0, r1, r2, -, -⟩ := row_let (k := 2) hr.out rfl
  injection e' with e'
  injection e' with e'
  subst e'
  go_wp2_with fail
  have hlit : SlAt (w6.alloc (.cells #[.int .i64 1] 3)) (w6.alloc (.cells #[.int .i64 1] 3)).heap.size (.slice (some ⟨w6.heap.size, 0, none⟩) 1 1) 1 1 (gvs [1]) :=
    SlAt.of_own (World.ownsRow_lit (base := w6.heap.size) (e := 3) (size := 1) w6 #[.int .i64 1] 1 (Nat.le_refl _) (by decide) rfl)
  have h7 : Hid (NetAt w (w6.alloc (.cells #[.int .i64 1] 3)) b _) := h6.out.keep ((Only.refl _ _).alloc _)
  clear h6 hr p0 p1 p2 q0 q1 q2 r0 r1 r2
  refine (na_split h7 _ [1] (Nat.le_refl _) hlit (by decide)).mono ?_
  rintro e w8 ⟨rfl, h8⟩
  go_wp2_with fail
  refine (na_takeE h8 0 (s' := ⟨[⟨1, 3, ⟨#[98]⟩⟩, ⟨1, 2, ⟨#[97]⟩⟩, ⟨1, 2, ⟨#[97]⟩⟩], [1], 0⟩) (x := Lt.zero) (ok := false) rfl).mono ?_
  rintro e w9 ⟨rfl, h9⟩
  go_wp2_with fail
  have h9' : Hid (NetAt w (w9.alloc (.cells #[.int .i64 0, .int .i64 0, .string ⟨#[]⟩] 37)) b _) := h9.out.keep ((Only.refl _ _).alloc _)
  refine (na_apartE h9' 2 3 (ok := false) rfl).mono ?_
  rintro e w10 ⟨rfl, h10, -⟩
  go_wp2_with fail
  refine (na_whole h10).mono ?_
  rintro e w11 ⟨rfl, h11⟩
  go_wp2_with fail
  refine (na_takeE h11 0 (s' := ⟨[⟨1, 2, ⟨#[97]⟩⟩, ⟨1, 2, ⟨#[97]⟩⟩], [], 0⟩) (x := ⟨1, 3, ⟨#[98]⟩⟩) (ok := true) rfl).mono ?_
  rintro e w12 ⟨rfl, h12⟩
  go_wp2_with fail
  obtain ⟨v, f, hn⟩ := h12.out.net
  have hlt : ∀ y, y ∈ b :: rb v → y ≠ w12.heap.size := fun y hy => by
    rcases List.mem_cons.1 hy with rfl | hy
    · exact Nat.ne_of_lt hn.cells.lt
    · exact Nat.ne_of_lt (hn.own.lt y (by simpa [rb] using hy)).2
  have hn' := hn.only ((Only.refl [] w12).alloc (.cells #[.int .i64 1, .int .i64 3, .string ⟨#[98]⟩] 37))
  have hge := hn'.ges
  have hbx : Cells (w12.alloc (.cells #[.int .i64 1, .int .i64 3, .string ⟨#[98]⟩] 37)) w12.heap.size 37 [.int .i64 1, .int .i64 3, .string ⟨#[98]⟩] := Cells.new _ _ _
  have HLT := Lib.hid hlt
  have HGE := Lib.hid hge
  have CL := Lib.hid (net_lose b b 0 v f _ _ hn' ⟨by decide, by decide⟩)
  clear hn hn' hlt hge
  refine CL.out.mono ?_
  rintro e w13 ⟨rfl, v', h13, ho13, -⟩
  have hb13 := hbx.only ho13 (fun hm => HLT.out _ hm rfl)
  have z2 := hb13.cell (k := 2) rfl
  have h14 : Hid (NetAt w w13 b ⟨[⟨1, 2, ⟨#[97]⟩⟩], [], 1⟩) := ⟨h12.out.ge, ⟨v', f, h13⟩, ((h12.out.only.alloc _).trans ho13 fun y hy => .inr (Nat.le_trans h12.out.ge (HGE.out y hy)))⟩
  clear h13 ho13
  go_wp2_with fail
  refine (na_lost h14).mono ?_
  rintro e w15 ⟨rfl, rfl⟩
  go_wp2_with fail
  go_ret
  exact ⟨by first | rfl | simp, h14.out.only⟩
end Go.Proofs.Ytllapfpakoobcaa
