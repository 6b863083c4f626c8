/-
  Chapter 16: two tables side by side; same, alike; the leases that a table may have.
-/
import Derived.Test.YtlonaniomnalnaaLp16
import Derived.Test.YtlonaniomnalnaaPend
namespace Go.Proofs.Ytlonaniomnalnaa
open Go.RowKit
theorem RfV.tick {w : World} {B b : Nat} {v : Value} {t : Tb} (h : RfV w B b v t) : RfV (w.setCell ⟨b, 0, none⟩ (.int .i64 (t.now + 1))) B b v t.tick := by
  obtain ⟨g, cap, rfl, _, _, hne, _⟩ := h.form
  exact ⟨h.ge, h.cells.set 0 _, own_keep (S := [b]) h.own ((Only.refl _ _).setCell (.inl (by simp)) _) (fun x hx => by simp at hx; subst hx; simpa [Value.ownBlock] using hne), h.len⟩
theorem RfV.drew {w : World} {B b : Nat} {v : Value} {t : Tb} (h : RfV w B b v t) : RfV w.drew B b v t := h.only ((Only.refl _ _).drew)
/-- The leases that a table may have. -/
def Ls.Right (now : Int) (x : Ls) : Prop := x = ⟨0, 0, 0⟩ ∨ (1 ≤ x.node ∧ x.node ≤ 9 ∧ 1 ≤ x.epoch ∧ 6 ≤ x.till ∧ x.till ≤ now + 6)
structure Tb.Good (t : Tb) (n : Int) : Prop where
  up : t.upto n
  right : ∀ x ∈ t.l, x.Right t.now
theorem Tb.empty_good : Tb.empty.Good 0 := ⟨Tb.empty_upto, fun x hx => .inl (List.eq_of_mem_replicate hx)⟩
theorem Tb.Good.get {t : Tb} {n : Int} (h : t.Good n) (k : Int) : (t.get k).Right t.now := by
  unfold Tb.get
  split
  · rename_i hk
    rw [List.getD_eq_getElem?_getD]
    have : k.toNat < t.l.length := by rw [h.up.len]; omega
    rw [List.getElem?_eq_getElem this]
    exact h.right _ (List.getElem_mem this)
  · exact .inl rfl
theorem Tb.Good.grant {t : Tb} {n : Int} (h : t.Good n) (k node : Int) : (t.grant k node).1.Good (n + 1) := by
  refine ⟨h.up.grant k node, ?_⟩
  have hg := h.get k
  have he := Tb.get_epoch h.up (by have := h.up.n0; have := h.up.n1; omega) k
  have h0 := h.up.n0
  have hs : ∀ (nd e : Int), 1 ≤ nd → nd ≤ 9 → 1 ≤ e → ∀ x ∈ t.l.set k.toNat ⟨nd, e, t.now + 6⟩, x.Right t.now := fun nd e h1 h2 h3 x hx => by
    rcases List.mem_or_eq_of_mem_set hx with hx | rfl
    · exact h.right x hx
    · exact .inr ⟨h1, h2, h3, by show 6 ≤ t.now + 6; omega, Int.le_refl _⟩
  unfold Tb.grant
  split
  · rename_i hk
    split
    · rename_i hl
      split
      · rename_i hn
        refine hs _ _ hk.2.2.1 hk.2.2.2 ?_
        rcases hg with hg | hg
        · rw [hg] at hl; exact absurd hl (by show ¬ t.now < 0; omega)
        · exact hg.2.2.1
      · exact h.right
    · exact hs _ _ hk.2.2.1 hk.2.2.2 (by omega)
  · exact h.right
theorem Tb.Good.tick {t : Tb} {n : Int} (h : t.Good n) : t.tick.Good (n + 1) :=
  ⟨h.up.tick, fun x hx => (h.right x hx).imp_right fun ⟨a, b, c, d, e⟩ => ⟨a, b, c, d, by show x.till ≤ t.now + 1 + 6; omega⟩⟩
theorem Tb.Good.does {t : Tb} {n : Int} (h : t.Good n) (a : Act) : (t.does a).Good (n + 1) := by
  unfold Tb.does
  split
  · exact h.tick
  · exact h.grant _ _
theorem Tb.after_good (l : List Act) (k : Nat) (hk : k ≤ l.length) : (Tb.after l k).Good k := by
  induction k with
  | zero => exact Tb.empty_good
  | succ k ih =>
    have hk' : k < l.length := by omega
    rw [Tb.after_succ l k _ (List.getElem?_eq_getElem hk')]
    exact (ih (by omega)).does _
theorem Tb.Good.fit {t : Tb} {n : Int} (h : t.Good n) (hn : n ≤ 1099511627776) : t.Fit := by
  have h0 := h.up.n0
  have h1 := h.up.n1
  refine ⟨⟨by omega, by omega⟩, fun x hx => ?_, fun x hx => ?_, fun x hx => ?_⟩
  · rcases h.right x hx with rfl | hr
    · exact ⟨by decide, by decide⟩
    · exact ⟨by omega, by omega⟩
  · have := h.up.e0 x hx
    exact ⟨by omega, by omega⟩
  · rcases h.right x hx with rfl | hr
    · exact ⟨by decide, by decide⟩
    · exact ⟨by omega, by omega⟩
/-- Two rows of the same numbers are the same. -/
theorem ints_cell {w : World} {B n : Nat} {v : Value} {l : List Nat} (h : SlAt w B v 1 l.length (ints l)) (hn : n < l.length) : ∃ b o c, v = .slice (some ⟨b, o, none⟩) l.length c ∧ w.cell? ⟨b, o + n, none⟩ = some (.int .i64 ((l[n]'hn : Nat) : Int)) ∧ b < B := by
  obtain ⟨b, o, c, hv, hb, hc⟩ := h.at_ (by omega)
  exact ⟨b, o, c, hv, hc n _ (by simp [ints, List.getElem?_eq_getElem hn]), hb⟩
set_option maxRecDepth 100000 in
theorem same16 (v u : Value) (l : List Nat) (w : World) (hl : l.length ≤ 1000) (hv : SlAt w w.heap.size v 1 l.length (ints l)) (hu : SlAt w w.heap.size u 1 l.length (ints l)) :
    Calls Try.prog 42 #[v, u] w fun e w' => e = .returned (.bool true) ∧ Only [] w w' := by
  obtain ⟨A, c, rfl⟩ := hv.shape
  obtain ⟨B, d, rfl⟩ := hu.shape
  have HV := Lib.hid hv
  have HU := Lib.hid hu
  clear hv hu
  go_enter Try.func42, Try.ntmps42
  go_wp2_with fail
  go_loopw [5] (fun i wr => ∃ k : Nat, k ≤ l.length ∧ i = .int .i64 k ∧ Only [] w wr) (fun i _ => l.length - (intOf i).toNat)
  case atStart => exact ⟨0, by omega, rfl, Only.refl _ _⟩
  case round =>
    obtain ⟨k, hk, rfl, ho⟩ := hrel
    by_cases hlt : k < l.length
    · have hlt' : (k : Int) < (l.length : Int) := by omega
      obtain ⟨b1, o1, c1, e1, q1, hb1⟩ := ints_cell HV.out hlt
      injection e1 with i1 i2 i3
      subst i1; subst i3
      obtain ⟨b2, o2, c2, e2, q2, hb2⟩ := ints_cell HU.out hlt
      injection e2 with j1 j2 j3
      subst j1; subst j3
      have q3 := (Since.mk wr ho).cell q1
      have q4 := (Since.mk wr ho).cell q2
      clear q1 q2
      go_wp2_with fail
      go_quiet (fail)
      go_wp2_with fail
      go_roundw
      case rel => exact ⟨k + 1, by omega, by go_num, ho.drewN _⟩
      case measure => simp [intOf]; omega
    · have hd : decide ((k : Int) < (l.length : Int)) = false := by simp; omega
      go_wp2_with fail
      go_ret
      exact ⟨rfl, ho⟩
set_option maxRecDepth 100000 in
set_option maxHeartbeats 1000000 in
theorem alike16 (B b b2 : Nat) (v : Value) (t : Tb) (w : World) (hs : Cells w b 81 t.cells) (hr : RfV w B b2 v t) (hf : t.Fit) :
    Calls Try.prog 40 #[.pointer (some ⟨b, 0, none⟩), .pointer (some ⟨b2, 0, none⟩)] w fun e w' => e = .returned (.bool true) ∧ Only [] w w' := by
  have H := Lib.hid hs
  have HR := Lib.hid hr
  have HF := Lib.hid hf
  have hlen := hr.len
  clear hs hr hf
  go_enter Try.func40, Try.ntmps40
  go_wp2_with fail
  go_loopw [5] (fun i wr => ∃ k : Nat, k ≤ 8 ∧ i = .int .i64 k ∧ Only [] w wr) (fun i _ => 8 - (intOf i).toNat)
  case atStart => exact ⟨0, by omega, rfl, Only.refl _ _⟩
  case round =>
    obtain ⟨k, hk, rfl, ho⟩ := hrel
    by_cases hk8 : k < 8
    · have hk8' : (k : Int) < 8 := by omega
      obtain ⟨x, hx⟩ : ∃ x, t.get k = x := ⟨_, rfl⟩
      have CG := lease_get b t k wr (H.out.only ho (by simp)) hlen
      have CF : Hid (∀ w' : World, Only [] w w' → Calls Try.prog 39 #[.pointer (some ⟨b2, 0, none⟩), .int .i64 k] w' fun e w2 => e = .returned (.agg #[.int .i64 x.node, .int .i64 x.epoch, .int .i64 x.till]) ∧ Only [] w' w2) :=
        fun w' ho' => by have := rf_get B b2 v t k w' (HR.out.only ho'); rw [hx] at this; exact this
      rw [hx] at CG
      have HG := Lib.hid CG
      unfold Ls.val at HG
      clear CG hx
      go_wp2_with fail
      refine HG.out.mono ?_
      rintro e w1 ⟨rfl, ho1⟩
      go_wp2_with fail
      refine (CF.out _ ((ho.tr ho1).alloc _)).mono ?_
      rintro e w2 ⟨rfl, ho2⟩
      have HX := Lib.hid (Cells.new w1 44 [.int .i64 x.node, .int .i64 x.epoch, .int .i64 x.till])
      have r0 := (HX.out.only ho2 (by simp)).cell (k := 0) rfl
      have r1 := (HX.out.only ho2 (by simp)).cell (k := 1) rfl
      have r2 := (HX.out.only ho2 (by simp)).cell (k := 2) rfl
      have hlt := (HX.out.only ho2 (by simp)).lt
      go_wp2_with fail
      go_roundw
      case rel => exact ⟨k + 1, by omega, by go_num, (((ho.tr ho1).alloc _).tr ho2).alloc _⟩
      case measure => simp [intOf]; omega
    · obtain rfl : k = 8 := by omega
      have hd : decide ((8 : Int) < 8) = false := by simp
      have c0 : ∀ u : Since wr, u.w.cell? ⟨b2, 0, none⟩ = some (.int .i64 t.now) := fun u => (Since.mk u.w (ho.tr0 u.h)).cell (HR.out.cells.cell (k := 0) rfl)
      have C1 : Hid (∀ u : Since wr, Calls Try.prog 36 #[.pointer (some ⟨b, 0, none⟩)] u.w fun e w' => e = .returned (.int .i64 t.now) ∧ u.w = w') := fun u => lease_now b t u.w (H.out.only (ho.tr0 u.h) (by simp))
      have C2 : Hid (∀ u : Since wr, Calls Try.prog 46 #[.pointer (some ⟨b, 0, none⟩)] u.w fun e w' => e = .returned (.string ⟨t.bytes.toArray⟩) ∧ Only [] u.w w') := fun u => lease_pack b t u.w (H.out.only (ho.tr0 u.h) (by simp)) hlen HF.out
      have C3 : Hid (∀ u : Since wr, Calls Try.prog 54 #[.pointer (some ⟨b2, 0, none⟩)] u.w fun e w' => e = .returned (.string ⟨t.bytes.toArray⟩) ∧ Only [] u.w w') := fun u => rf_pack B b2 v t u.w (HR.out.only (ho.tr0 u.h)) HF.out
      go_wp2_with fail
      refine wp_region_only wr (Only.refl _ _) (by kernel_rfl) (by kernel_rfl) ?_
      repeat (go_big_quiet_step (first
        | (go_at_call 36; refine Calls.only_same (C1.out _))
        | (go_at_call 46; refine Calls.only (C2.out _))
        | (go_at_call 54; refine Calls.only (C3.out _))))
      refine wpQuiet_nil ?_
      rintro ⟨w9, ho9⟩
      dsimp only
      go_wp2_with fail
      go_ret
      exact ⟨by simp, ho.tr0 ho9⟩
end Go.Proofs.Ytlonaniomnalnaa
