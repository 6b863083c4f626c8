/-
  Chapter 8: the document's log: its shape; Last, Term, Newer, Slice.
-/
import Derived.Test.YtagklgodcbmcaaaMatch8
namespace Go.Proofs.Ytagklgodcbmcaaa
open Go.RowKit
/-- A slice that nobody writes to. -/
structure RfS (w : World) (v : Value) (sz n : Nat) (xs : List Value) : Prop where
  sl : SlAt w w.heap.size v sz n xs
  nil : ∀ n c, v = .slice none n c → n = 0 ∧ c = 0
  one : ∀ u ∈ xs, u.oneCell' = true
theorem slat_keep {S : List Nat} {w w' : World} {B sz n : Nat} {v : Value} {xs : List Value} (h : SlAt w B v sz n xs) (hB : B ≤ w.heap.size) (ho : Only S w w') (hS : ∀ x, x ∈ S → v.ownBlock ≠ some x) : SlAt w' w'.heap.size v sz n xs := by
  obtain ⟨hl, A, c, hv, hnc, hc, h⟩ := h
  refine ⟨hl, A, c, hv, hnc, hc, fun hn => ?_⟩
  obtain ⟨b, o, hA, hb, hh⟩ := h hn
  subst hv
  subst hA
  exact ⟨b, o, rfl, Nat.lt_of_lt_of_le hb (Nat.le_trans hB ho.size), fun j u hu => (ho.cell (p := ⟨b, o + j, none⟩) (show b < _ by omega) (fun hm => hS b hm rfl)).trans (hh j u hu)⟩
theorem RfS.keep {S : List Nat} {w w' : World} {sz n : Nat} {v : Value} {xs : List Value} (h : RfS w v sz n xs) (ho : Only S w w') (hS : ∀ x, x ∈ S → v.ownBlock ≠ some x) : RfS w' v sz n xs :=
  ⟨slat_keep h.sl (Nat.le_refl _) ho hS, h.nil, h.one⟩
theorem RfS.only {w w' : World} {sz n : Nat} {v : Value} {xs : List Value} (h : RfS w v sz n xs) (ho : Only [] w w') : RfS w' v sz n xs := h.keep ho (by simp)
theorem RfS.shape {w : World} {sz n : Nat} {v : Value} {xs : List Value} (h : RfS w v sz n xs) : ∃ A c, v = .slice A n c ∧ n ≤ c ∧ c ≤ maxLen := by
  obtain ⟨_, A, c, hv, h1, h2, _⟩ := h.sl
  exact ⟨A, c, hv, h1, h2⟩
theorem RfS.of_own {w : World} {base : Nat} {e : TypeId} {sz n : Nat} {v : Value} {xs : List Value} (h : w.ownsRow base e sz v n xs) (h1 : ∀ u ∈ xs, u.oneCell' = true) : RfS w v sz n xs :=
  ⟨SlAt.of_own h, fun m c hv => by
    rcases h.2 with ⟨h2, _⟩ | ⟨g, cap, cur, h2, _⟩
    · rw [h2] at hv; injection hv with _ e1 e2; exact ⟨e1.symm, e2.symm⟩
    · rw [h2] at hv; injection hv with e1; (cases e1), h1⟩
theorem RfS.src {w : World} {sz n : Nat} {v : Value} {xs : List Value} (h : RfS w v sz n xs) (hsz : 0 < sz) : SrcA w v sz n xs := by
  refine ⟨h.sl.1, h.one, ?_⟩
  obtain ⟨A, c, hv, _, _⟩ := h.shape
  cases A with
  | none => obtain ⟨h1, h2⟩ := h.nil n c hv; exact .inl ⟨by rw [hv, h1, h2], h1⟩
  | some ad =>
    refine .inr ⟨ad, c, hv, fun j u hu => ?_⟩
    have hj := (List.getElem?_eq_some_iff.1 hu).1
    obtain ⟨b, o, c', hv', _, hc⟩ := h.sl.at_ (by have := h.sl.1; omega)
    rw [hv] at hv'
    injection hv' with e1
    injection e1 with e1
    subst e1
    rw [Addr.add_lit]
    exact hc j u hu
/-- A slice from a place on. -/
theorem RfS.drop {w : World} {sz n c j : Nat} {A : Option Addr} {xs : List Value} (h : RfS w (.slice A n c) sz n xs) (hj : j ≤ n) : RfS w (.slice (if c = j then A else Option.map (fun x => x.add (j * sz)) A) (n - j) (c - j)) sz (n - j) (xs.drop (j * sz)) := by
  obtain ⟨hl, A', c', hv, hnc, hcm, hh⟩ := h.sl
  injection hv with e1 _ e3
  subst e1
  subst e3
  refine ⟨⟨by rw [List.length_drop, hl, Nat.sub_mul], _, _, rfl, by omega, by omega, fun hp => ?_⟩, ?_, fun u hu => h.one u (List.mem_of_mem_drop hu)⟩
  · have hjn : j < n := by
      rcases Nat.lt_or_ge j n with h | h
      · exact h
      · rw [Nat.sub_eq_zero_of_le h] at hp; omega
    obtain ⟨b, o, hb, hlt, hc⟩ := hh (Nat.lt_of_lt_of_le hp (Nat.mul_le_mul_right _ (Nat.sub_le _ _)))
    subst hb
    refine ⟨b, o + j * sz, by rw [if_neg (by omega)]; simp [Addr.add_lit], hlt, fun i u hu => ?_⟩
    rw [List.getElem?_drop] at hu
    rw [Nat.add_assoc]
    exact hc _ u hu
  · intro m k hv
    injection hv with e1 e2 e3
    cases A with
    | none =>
      obtain ⟨h1, h2⟩ := h.nil n c rfl
      exact ⟨by rw [← e2, h1]; simp, by rw [← e3, h2]; simp⟩
    | some a => split at e1 <;> simp at e1
/-- A slice up to a place. -/
theorem RfS.take {w : World} {sz n c m : Nat} {A : Option Addr} {xs : List Value} (h : RfS w (.slice A n c) sz n xs) (hm : m ≤ n) : RfS w (.slice A m c) sz m (xs.take (m * sz)) := by
  obtain ⟨hl, A', c', hv, hnc, hcm, hh⟩ := h.sl
  injection hv with e1 _ e3
  subst e1
  subst e3
  have hms : m * sz ≤ n * sz := Nat.mul_le_mul_right _ hm
  refine ⟨⟨by rw [List.length_take, hl]; omega, _, _, rfl, by omega, hcm, fun hp => ?_⟩, ?_, fun u hu => h.one u (List.mem_of_mem_take hu)⟩
  · obtain ⟨b, o, hb, hlt, hc⟩ := hh (by omega)
    refine ⟨b, o, hb, hlt, fun i u hu => ?_⟩
    have hi : i < m * sz := by have := (List.getElem?_eq_some_iff.1 hu).1; rw [List.length_take] at this; omega
    rw [List.getElem?_take_of_lt hi] at hu
    exact hc i u hu
  · intro k q hv
    injection hv with e1 e2 e3
    subst e1
    obtain ⟨h1, h2⟩ := h.nil n c rfl
    omega
structure RlV (w : World) (r : Nat) (vv ev : Value) (m : LG) : Prop where
  cells : Cells w r 96 [.int .i64 m.b.ix, .int .i64 m.b.tm, vv, .string m.b.d, ev]
  ents : RfS w ev 4 m.l.length (enL m.l)
  vots : RfS w vv 1 m.b.vs.length (gvs m.b.vs)
  nev : ev.ownBlock ≠ some r
  nvv : vv.ownBlock ≠ some r
  lte : ∀ q, ev.ownBlock = some q → q < w.heap.size
  ltv : ∀ q, vv.ownBlock = some q → q < w.heap.size
  lo : 0 ≤ m.b.ix
  hi : m.b.ix + m.l.length ≤ 1000000
  vlen : m.b.vs.length ≤ 1000
theorem RlV.keep {S : List Nat} {w w' : World} {r : Nat} {vv ev : Value} {m : LG} (h : RlV w r vv ev m) (ho : Only S w w') (hS : ∀ x, x ∈ S → x ∉ lk r vv ev) : RlV w' r vv ev m :=
  ⟨h.cells.only ho (fun hm => hS _ hm (by simp [lk])), h.ents.keep ho (fun x hx he => hS _ hx (by simp [lk, mem_rb, he])), h.vots.keep ho (fun x hx he => hS _ hx (by simp [lk, mem_rb, he])), h.nev, h.nvv, fun q hq => Nat.lt_of_lt_of_le (h.lte q hq) ho.size, fun q hq => Nat.lt_of_lt_of_le (h.ltv q hq) ho.size, h.lo, h.hi, h.vlen⟩
theorem RlV.only {w w' : World} {r : Nat} {vv ev : Value} {m : LG} (h : RlV w r vv ev m) (ho : Only [] w w') : RlV w' r vv ev m := h.keep ho (by simp)
theorem RlV.ent {w : World} {r : Nat} {vv ev : Value} {m : LG} (h : RlV w r vv ev m) {k : Nat} {x : En} (hx : m.l[k]? = some x) :
    ∃ q o c, ev = .slice (some ⟨q, o, none⟩) m.l.length c ∧ w.cell? ⟨q, o + k * 4, none⟩ = some (.int .i64 x.ix) ∧ w.cell? ⟨q, o + k * 4 + 1, none⟩ = some (.int .i64 x.tm) ∧ w.cell? ⟨q, o + k * 4 + 2, none⟩ = some (.int .i64 x.kd) ∧ w.cell? ⟨q, o + k * 4 + 3, none⟩ = some (.string x.d) := enL_at h.ents.sl hx
set_option maxRecDepth 100000 in
theorem rl_last (r : Nat) (vv ev : Value) (m : LG) (w : World) (h : RlV w r vv ev m) :
    Calls Try.prog 38 #[.pointer (some ⟨r, 0, none⟩)] w fun e w' => e = .returned (.int .i64 m.last) ∧ Only [] w w' := by
  obtain ⟨A, c, rfl, _, _⟩ := h.ents.shape
  have c0 := fun u : Since w => u.cell (h.cells.cell (k := 0) rfl)
  have c4 := fun u : Since w => u.cell (h.cells.cell (k := 4) rfl)
  have lo := h.lo
  have hi := h.hi
  clear h
  go_enter Try.func38, Try.ntmps38
  go_wp2_with fail
  refine wp_region_only w (Only.refl _ _) (by kernel_rfl) (by kernel_rfl) ?_
  repeat (go_big_quiet_step (fail))
  refine wpQuiet_nil ?_
  rintro ⟨w2, ho2⟩
  dsimp only
  go_wp2_with fail
  go_ret
  exact ⟨rfl, ho2⟩
set_option maxRecDepth 100000 in
theorem rl_term (r : Nat) (vv ev : Value) (m : LG) (i : Int) (w : World) (h : RlV w r vv ev m) :
    Calls Try.prog 68 #[.pointer (some ⟨r, 0, none⟩), .int .i64 i] w fun e w' => e = .returned (ibV (m.term i)) ∧ Only [] w w' := by
  have CL := Lib.hid (fun w' (ho : Only [] w w') => rl_last r vv ev m w' (h.only ho))
  have c0 := h.cells.cell (k := 0) rfl
  have c1 := h.cells.cell (k := 1) rfl
  have lo := h.lo
  have hi := h.hi
  by_cases h3 : i = m.b.ix
  · have ht : Hid (m.term i = (m.b.tm, true)) := by show _ = _; unfold LG.term LG.last; rw [if_neg (by omega), if_pos h3]
    subst h3
    have d0 : (m.b.ix == m.b.ix) = true := beq_self_eq_true _
    clear h
    go_enter Try.func68, Try.ntmps68
    go_wp2_with fail
    go_ret2
    exact ⟨by rw [ht.out]; rfl, Only.refl _ _⟩
  · have d3 : (i == m.b.ix) = false := by simpa using h3
    by_cases h1 : i < m.b.ix
    · have ht : Hid (m.term i = (0, false)) := by show _ = _; unfold LG.term; rw [if_pos (.inl h1)]
      have d1 : decide (i < m.b.ix) = true := by simpa using h1
      clear h
      go_enter Try.func68, Try.ntmps68
      go_wp2_with fail
      go_ret2
      exact ⟨by rw [ht.out]; rfl, Only.refl _ _⟩
    · have d1 : decide (i < m.b.ix) = false := by simpa using h1
      by_cases h2 : m.last < i
      · have ht : Hid (m.term i = (0, false)) := by show _ = _; unfold LG.term; rw [if_pos (.inr h2)]
        have d2 : decide (m.last < i) = true := by simpa using h2
        clear h
        go_enter Try.func68, Try.ntmps68
        go_wp2_with fail
        refine (CL.out _ (Only.refl _ _)).mono ?_
        rintro e w1 ⟨rfl, ho1⟩
        go_wp2_with fail
        go_ret2
        exact ⟨by rw [ht.out]; rfl, ho1⟩
      · have d2 : decide (m.last < i) = false := by simpa using h2
        obtain ⟨k, hk⟩ : ∃ k : Nat, i - m.b.ix - 1 = k := ⟨(i - m.b.ix - 1).toNat, by omega⟩
        have hkl : k < m.l.length := by unfold LG.last at h2; omega
        obtain ⟨x, hx⟩ : ∃ x, m.l[k]? = some x := ⟨_, List.getElem?_eq_getElem hkl⟩
        have ht : Hid (m.term i = (x.tm, true)) := by show _ = _; unfold LG.term; rw [if_neg (by omega), if_neg h3, hk, Int.toNat_natCast, hx]
        obtain ⟨q, o, c, hv, _, e1, _, _⟩ := h.ent hx
        subst hv
        have hkl' : (k : Int) < m.l.length := by omega
        have hq := h.lte q rfl
        have H := Lib.hid h
        have c0' := fun w' (ho : Only [] w w') => (h.only ho).cells.cell (k := 0) rfl
        clear h hx
        go_enter Try.func68, Try.ntmps68
        go_wp2_with fail
        refine (CL.out _ (Only.refl _ _)).mono ?_
        rintro e w1 ⟨rfl, ho1⟩
        have hN := H.out.only ho1
        have k0 := fun u : Since w1 => u.cell (hN.cells.cell (k := 0) rfl)
        have k4 := fun u : Since w1 => u.cell (hN.cells.cell (k := 4) rfl)
        have k1 := fun u : Since w1 => u.cell ((ho1.cell (p := ⟨q, o + k * 4 + 1, none⟩) hq (by simp)).trans e1)
        clear hN c0 c1 c0' e1 hq
        go_wp2_with fail
        refine wp_region_only w1 (Only.refl _ _) (by kernel_rfl) (by kernel_rfl) ?_
        repeat (go_big_quiet_step (fail))
        refine wpQuiet_nil ?_
        rintro ⟨w2, ho2⟩
        dsimp only
        go_wp2_with fail
        go_ret2
        exact ⟨by rw [ht.out]; rfl, ho1.tr ho2⟩
end Go.Proofs.Ytagklgodcbmcaaa
