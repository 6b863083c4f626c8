/-
  Chapter 16: a table's bytes, read: the plain law.
-/
import Derived.Test.YtlonaniomnalnaaAlike16
namespace Go.Proofs.Ytlonaniomnalnaa
open Go.RowKit
/-- k numbers, one behind the other. -/
def rdN : Nat → List UInt8 → Option (List Int × List UInt8)
  | 0, s => some ([], s)
  | k + 1, s => match rdN k s with
    | none => none
    | some (ns, r) => match rdI r with
      | none => none
      | some (n, r2) => some (ns ++ [n], r2)
theorem rdN_next {k : Nat} {s r r2 : List UInt8} {ns : List Int} {n : Int} (h : rdN k s = some (ns, r)) (h2 : rdI r = some (n, r2)) : rdN (k + 1) s = some (ns ++ [n], r2) := by
  unfold rdN; rw [h]; dsimp only; rw [h2]
theorem rdN_bad {k : Nat} {s r : List UInt8} {ns : List Int} (h : rdN k s = some (ns, r)) (h2 : rdI r = none) : rdN (k + 1) s = none := by
  unfold rdN; rw [h]; dsimp only; rw [h2]
theorem rdN_none {k : Nat} {s : List UInt8} (h : rdN k s = none) : ∀ m, k ≤ m → rdN m s = none
  | 0, hm => by
    obtain rfl : k = 0 := by omega
    exact h
  | m + 1, hm => by
    rcases Nat.lt_or_ge k (m + 1) with hlt | hge
    · have := rdN_none h m (by omega)
      unfold rdN; rw [this]
    · obtain rfl : k = m + 1 := by omega
      exact h
theorem isb_end (ns : List Int) (n : Int) : isb (ns ++ [n]) = isb ns ++ ib n := by unfold isb; rw [List.flatMap_append]; simp
theorem rdN_iff (k : Nat) (s : List UInt8) : ∀ (ns : List Int) (r : List UInt8), rdN k s = some (ns, r) ↔ ns.length = k ∧ (∀ n ∈ ns, Wide64 n) ∧ s = isb ns ++ r := by
  induction k with
  | zero =>
    intro ns r
    constructor
    · intro h
      unfold rdN at h
      simp only [Option.some.injEq, Prod.mk.injEq] at h
      obtain ⟨rfl, rfl⟩ := h
      exact ⟨rfl, by simp, rfl⟩
    · rintro ⟨h1, -, h3⟩
      obtain rfl : ns = [] := List.eq_nil_of_length_eq_zero h1
      rw [h3]; rfl
  | succ k ih =>
    intro ns r
    constructor
    · intro h
      cases h1 : rdN k s with
      | none => rw [rdN_none h1 (k + 1) (by omega)] at h; cases h
      | some p =>
        obtain ⟨ms, q⟩ := p
        cases h2 : rdI q with
        | none => rw [rdN_bad h1 h2] at h; cases h
        | some z =>
          obtain ⟨n, q2⟩ := z
          rw [rdN_next h1 h2] at h
          simp only [Option.some.injEq, Prod.mk.injEq] at h
          obtain ⟨rfl, rfl⟩ := h
          obtain ⟨a1, a2, a3⟩ := (ih ms q).1 h1
          obtain ⟨b1, b2⟩ := (rdI_iff _ _ _).1 h2
          refine ⟨by simp [a1], fun m hm => ?_, by rw [a3, b2, isb_end, List.append_assoc]⟩
          rcases List.mem_append.1 hm with hm | hm
          · exact a2 m hm
          · simp at hm; subst hm; exact b1
    · rintro ⟨h1, h2, h3⟩
      have hne : ns ≠ [] := by rintro rfl; simp at h1
      have hsp := (List.dropLast_concat_getLast hne).symm
      revert hsp
      generalize ns.dropLast = ms
      generalize ns.getLast hne = n
      rintro rfl
      have e1 : rdN k s = some (ms, ib n ++ r) := (ih _ _).2 ⟨by simpa using h1, fun m hm => h2 m (by simp [hm]), by rw [h3, isb_end, List.append_assoc]⟩
      exact rdN_next e1 ((rdI_iff _ _ _).2 ⟨h2 n (by simp), rfl⟩)
def chunk3 : List Int → List Ls
  | a :: b :: c :: l => ⟨a, b, c⟩ :: chunk3 l
  | _ => []
def ivals (l : List Int) : List Value := l.map fun n => Value.int .i64 n
theorem chunk3_cells : ∀ (m : Nat) (l : List Int), l.length = 3 * m → (chunk3 l).flatMap Ls.cells = ivals l ∧ (chunk3 l).length = m ∧ lsB (chunk3 l) = isb l
  | 0, l, h => by
    obtain rfl : l = [] := List.eq_nil_of_length_eq_zero h
    exact ⟨rfl, rfl, rfl⟩
  | m + 1, a :: b :: c :: l, h => by
    obtain ⟨h1, h2, h3⟩ := chunk3_cells m l (by simp at h; omega)
    refine ⟨?_, ?_, ?_⟩
    · unfold chunk3
      rw [List.flatMap_cons, h1]; rfl
    · unfold chunk3
      rw [List.length_cons, h2]
    · unfold chunk3 lsB
      unfold lsB at h3
      rw [List.flatMap_cons, h3]
      simp [isb, Ls.bytes]
  | m + 1, [], h => by simp at h
  | m + 1, [_], h => by simp at h; omega
  | m + 1, [_, _], h => by simp at h; omega
def Ls.nums (x : Ls) : List Int := [x.node, x.epoch, x.till]
theorem chunk3_nums (l : List Ls) : chunk3 (l.flatMap Ls.nums) = l := by
  induction l with
  | nil => rfl
  | cons x l ih => rw [List.flatMap_cons]; show ⟨x.node, x.epoch, x.till⟩ :: chunk3 (l.flatMap Ls.nums) = _; rw [ih]
def tbOf : List Int → Tb
  | n :: ns => ⟨n, chunk3 ns⟩
  | [] => ⟨0, []⟩
def Tb.nums (t : Tb) : List Int := t.now :: t.l.flatMap Ls.nums
theorem tbOf_nums (t : Tb) : tbOf t.nums = t := by
  show Tb.mk t.now (chunk3 (t.l.flatMap Ls.nums)) = t
  rw [chunk3_nums]
theorem nums_length (l : List Ls) : (l.flatMap Ls.nums).length = 3 * l.length := by
  induction l with
  | nil => rfl
  | cons x l ih => rw [List.flatMap_cons, List.length_append, ih, List.length_cons]; show 3 + _ = _; omega
theorem tbOf_facts (ns : List Int) (h : ns.length = 25) : (tbOf ns).cells = ivals ns ∧ (tbOf ns).l.length = 8 ∧ (tbOf ns).bytes = isb ns := by
  cases ns with
  | nil => simp at h
  | cons n ns =>
    obtain ⟨h1, h2, h3⟩ := chunk3_cells 8 ns (by simp at h; omega)
    refine ⟨?_, h2, ?_⟩
    · show _ :: _ = _; rw [show (tbOf (n :: ns)).l = chunk3 ns from rfl, h1]; rfl
    · show ib n ++ lsB (chunk3 ns) = _; rw [h3]; simp [isb]
theorem tbOf_fit (ns : List Int) (h : ns.length = 25) (hw : ∀ n ∈ ns, Wide64 n) : (tbOf ns).Fit := by
  have key : ∀ v ∈ (tbOf ns).cells, ∀ n, v = Value.int .i64 n → Wide64 n := fun v hv n hn => by
    rw [(tbOf_facts ns h).1] at hv
    obtain ⟨m, hm, rfl⟩ := List.mem_map.1 hv
    injection hn with _ hn
    subst hn
    exact hw m hm
  have hx : ∀ x ∈ (tbOf ns).l, ∀ u ∈ x.cells, u ∈ (tbOf ns).cells := fun x hx u hu => List.mem_cons_of_mem _ (List.mem_flatMap.2 ⟨x, hx, hu⟩)
  exact ⟨key _ (by simp [Tb.cells]) _ rfl, fun x h' => key _ (hx x h' (.int .i64 x.node) (by simp [Ls.cells])) _ rfl, fun x h' => key _ (hx x h' (.int .i64 x.epoch) (by simp [Ls.cells])) _ rfl, fun x h' => key _ (hx x h' (.int .i64 x.till) (by simp [Ls.cells])) _ rfl⟩
def okLs (now : Int) (x : Ls) : Bool :=
  if x.node = 0 then decide (x.epoch = 0) && decide (x.till = 0)
  else decide (0 < x.node) && decide (x.node ≤ 9) && decide (0 < x.epoch) && decide (x.epoch ≤ 1099511627776) && decide (6 ≤ x.till) && decide (x.till - 6 ≤ now)
def okT (t : Tb) : Bool := t.l.all (okLs t.now) && decide (0 ≤ t.now) && decide (t.now ≤ 1099511627776)
/-- A table's bytes, read. -/
def unT (s : List UInt8) : Option Tb :=
  match rdN 25 s with
  | none => none
  | some (ns, r) => if r = [] ∧ okT (tbOf ns) = true then some (tbOf ns) else none
theorem unT_short {s : List UInt8} {k : Nat} (hk : k ≤ 25) (h : rdN k s = none) : unT s = none := by unfold unT; rw [rdN_none h 25 hk]
theorem unT_of {s r : List UInt8} {ns : List Int} (h : rdN 25 s = some (ns, r)) : unT s = if r = [] ∧ okT (tbOf ns) = true then some (tbOf ns) else none := by unfold unT; rw [h]
theorem unT_some {s : List UInt8} {t : Tb} (h : unT s = some t) : s = t.bytes ∧ t.Fit ∧ t.l.length = 8 ∧ okT t = true := by
  cases h1 : rdN 25 s with
  | none => rw [unT_short (Nat.le_refl _) h1] at h; cases h
  | some p =>
    obtain ⟨ns, r⟩ := p
    rw [unT_of h1] at h
    split at h
    · rename_i hh
      injection h with h
      subst h
      obtain ⟨a1, a2, a3⟩ := (rdN_iff _ _ _ _).1 h1
      obtain ⟨b1, b2, b3⟩ := tbOf_facts ns a1
      exact ⟨by rw [a3, hh.1, b3]; simp, tbOf_fit ns a1 a2, b2, hh.2⟩
    · cases h
theorem unT_bytes {t : Tb} (hl : t.l.length = 8) (hf : t.Fit) (ho : okT t = true) : unT t.bytes = some t := by
  have hn : t.nums.length = 25 := by show (_ :: _).length = 25; rw [List.length_cons, nums_length, hl]
  have hw : ∀ n ∈ t.nums, Wide64 n := fun n hn => by
    rcases List.mem_cons.1 hn with rfl | hn
    · exact hf.now
    · obtain ⟨x, hx, hn⟩ := List.mem_flatMap.1 hn
      simp [Ls.nums] at hn
      rcases hn with rfl | rfl | rfl
      · exact hf.node x hx
      · exact hf.epoch x hx
      · exact hf.till x hx
  have hb := (tbOf_facts _ hn).2.2
  rw [tbOf_nums] at hb
  rw [unT_of ((rdN_iff 25 _ t.nums []).2 ⟨hn, hw, by rw [hb]; simp⟩), tbOf_nums, if_pos ⟨rfl, ho⟩]
theorem Tb.Good.ok {t : Tb} {n : Int} (h : t.Good n) (hn : n ≤ 1099511627776) : okT t = true := by
  have h0 := h.up.n0
  have h1 := h.up.n1
  unfold okT
  rw [Bool.and_eq_true, Bool.and_eq_true, List.all_eq_true]
  refine ⟨⟨fun x hx => ?_, by simpa using h0⟩, by simp; omega⟩
  have he := h.up.e0 x hx
  unfold okLs
  rcases h.right x hx with rfl | ⟨a, b, c, d, e⟩
  · rfl
  · rw [if_neg (by omega)]
    simp; omega
end Go.Proofs.Ytlonaniomnalnaa
