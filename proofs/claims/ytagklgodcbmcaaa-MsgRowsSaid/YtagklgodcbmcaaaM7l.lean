/-
  Chapter 7: what the document's reader reads: plain.
-/
import Derived.Test.YtagklgodcbmcaaaM7k
namespace Go.Proofs.Ytagklgodcbmcaaa
open Go.RowKit
theorem getR_out {α : Type} {f : List UInt8 → Option (α × List UInt8)} {d : α} {s : List UInt8} {x : α} {t : List UInt8} (h : f s = some (x, t)) : Rr.get f d ⟨s, true⟩ = (x, ⟨t, true⟩) := by
  unfold Rr.get; rw [h]
def Rr.after (r : Rr) : Nat → Rr
  | 0 => r
  | k + 1 => (r.after k).int.2
def Rr.nth (r : Rr) (k : Nat) : Int := (r.after k).int.1
def Rr.ints (r : Rr) : Nat → List Int
  | 0 => []
  | k + 1 => r.ints k ++ [r.nth k]
theorem Rr.ints_length (r : Rr) (n : Nat) : (r.ints n).length = n := by
  induction n with
  | zero => rfl
  | succ n ih => unfold Rr.ints; rw [List.length_append, ih]; rfl
def Rr.en (r : Rr) : En × Rr := (⟨r.nth 0, r.nth 1, r.nth 2, ⟨(r.after 3).text.1.toArray⟩⟩, (r.after 3).text.2)
def Rr.ens (r : Rr) : Nat → List En × Rr
  | 0 => ([], r)
  | k + 1 => ((r.ens k).1 ++ [(r.ens k).2.en.1], (r.ens k).2.en.2)
theorem intR_out (n : Int) (h : Wide64 n) (t : List UInt8) : Rr.int ⟨ib n ++ t, true⟩ = (n, ⟨t, true⟩) := getR_out ((rdI_iff _ _ _).2 ⟨h, rfl⟩)
theorem textR_out (x t : List UInt8) (h : x.length ≤ 1000000000000) : Rr.text ⟨tb x ++ t, true⟩ = (x, ⟨t, true⟩) := getR_out ((rdT_iff _ _ _ h).2 rfl)
theorem afterR_out : ∀ (l : List Int) (t : List UInt8), (∀ x ∈ l, Wide64 x) → ∀ k, k ≤ l.length → Rr.ints ⟨isb l ++ t, true⟩ k = l.take k ∧ Rr.after ⟨isb l ++ t, true⟩ k = ⟨isb (l.drop k) ++ t, true⟩ := by
  intro l t hw k
  induction k with
  | zero => intro _; exact ⟨rfl, rfl⟩
  | succ k ih =>
    intro hk
    obtain ⟨a1, a2⟩ := ih (by omega)
    have h1 : l.drop k = l[k] :: l.drop (k + 1) := List.drop_eq_getElem_cons (by omega)
    have h2 : Rr.int (Rr.after ⟨isb l ++ t, true⟩ k) = (l[k], ⟨isb (l.drop (k + 1)) ++ t, true⟩) := by
      rw [a2, h1]
      have := intR_out l[k] (hw _ (List.getElem_mem _)) (isb (l.drop (k + 1)) ++ t)
      rw [← List.append_assoc] at this
      exact this
    constructor
    · show Rr.ints ⟨isb l ++ t, true⟩ k ++ [(Rr.int (Rr.after ⟨isb l ++ t, true⟩ k)).1] = _
      rw [a1, h2, List.take_add_one, List.getElem?_eq_getElem (by omega)]
      rfl
    · show (Rr.int (Rr.after ⟨isb l ++ t, true⟩ k)).2 = _
      rw [h2]
theorem afterR_out' (l : List Int) (t : List UInt8) (hw : ∀ x ∈ l, Wide64 x) : Rr.ints ⟨isb l ++ t, true⟩ l.length = l ∧ Rr.after ⟨isb l ++ t, true⟩ l.length = ⟨t, true⟩ := by
  have := afterR_out l t hw l.length (Nat.le_refl _)
  simpa [isb] using this
theorem nthR_of {r : Rr} {k : Nat} {l : List Int} (h : r.ints k = l) : ∀ j, j < k → some (r.nth j) = l[j]? := by
  subst h
  intro j hj
  induction k with
  | zero => omega
  | succ k ih =>
    show _ = (r.ints k ++ [r.nth k])[j]?
    by_cases hk : j < k
    · rw [List.getElem?_append_left (by rw [Rr.ints_length]; exact hk)]
      exact ih hk
    · obtain rfl : j = k := by omega
      rw [List.getElem?_append_right (by rw [Rr.ints_length]; omega), Rr.ints_length, Nat.sub_self]
      rfl
theorem enR_out (x : En) (t : List UInt8) (h : EnOk x) : Rr.en ⟨enb x ++ t, true⟩ = (x, ⟨t, true⟩) := by
  have h3 : ∀ y ∈ [x.ix, x.tm, x.kd], Wide64 y := by
    intro y hy; simp at hy; rcases hy with rfl | rfl | rfl
    · exact h.ix
    · exact h.tm
    · exact h.kd
  obtain ⟨a1, a2⟩ := afterR_out' [x.ix, x.tm, x.kd] (tb (bl x.d) ++ t) h3
  rw [← List.append_assoc] at a1 a2
  have a1 : Rr.ints ⟨enb x ++ t, true⟩ 3 = [x.ix, x.tm, x.kd] := a1
  have a2 : Rr.after ⟨enb x ++ t, true⟩ 3 = ⟨tb (bl x.d) ++ t, true⟩ := a2
  have n0 := nthR_of a1 0 (by omega)
  have n1 := nthR_of a1 1 (by omega)
  have n2 := nthR_of a1 2 (by omega)
  simp only [List.getElem?_cons_zero, List.getElem?_cons_succ, Option.some.injEq] at n0 n1 n2
  unfold Rr.en
  rw [n0, n1, n2, a2, textR_out (bl x.d) t (by rw [bl_size]; exact h.d), bl_ba]
theorem ensR_out : ∀ (l : List En) (t : List UInt8), (∀ x ∈ l, EnOk x) → ∀ k, k ≤ l.length → Rr.ens ⟨esb l ++ t, true⟩ k = (l.take k, ⟨esb (l.drop k) ++ t, true⟩) := by
  intro l t hw k
  induction k with
  | zero => intro _; rfl
  | succ k ih =>
    intro hk
    have a1 := ih (by omega)
    have h1 : l.drop k = l[k] :: l.drop (k + 1) := List.drop_eq_getElem_cons (by omega)
    show ((Rr.ens ⟨esb l ++ t, true⟩ k).1 ++ [(Rr.ens ⟨esb l ++ t, true⟩ k).2.en.1], (Rr.ens ⟨esb l ++ t, true⟩ k).2.en.2) = _
    rw [a1]
    dsimp only
    have h2 : esb (l.drop k) ++ t = enb l[k] ++ (esb (l.drop (k + 1)) ++ t) := by rw [h1, ← List.append_assoc]; rfl
    rw [h2, enR_out _ _ (hw _ (List.getElem_mem _)), List.take_add_one, List.getElem?_eq_getElem (by omega)]
    rfl
def Ms.l7 (m : Ms) : List Int := [m.kd, m.fr, m.to, m.tm, m.ix, m.lt, m.cm]
def Ms.t0 (m : Ms) : List UInt8 := tb (bl m.b.d) ++ (tb (bl m.d) ++ [])
def Ms.tV (m : Ms) : List UInt8 := vtx m.b.vs ++ m.t0
def Ms.tE (m : Ms) : List UInt8 := isb [m.b.ix, m.b.tm] ++ m.tV
def Ms.t9 (m : Ms) : List UInt8 := esb m.es ++ m.tE
def Ms.t8 (m : Ms) : List UInt8 := ib m.es.length ++ m.t9
def Ms.t7 (m : Ms) : List UInt8 := bb m.ok ++ m.t8
theorem msb_split (m : Ms) : msb m = isb m.l7 ++ m.t7 := by
  unfold msb msA msC Ms.t7 Ms.t8 Ms.t9 Ms.tE Ms.tV Ms.t0 Ms.l7
  simp only [List.append_assoc, List.append_nil]
/-- What a right message's bytes are read as. -/
structure RrOut (m : Ms) (s : List UInt8) : Prop where
  i7 : Rr.ints ⟨s, true⟩ 7 = m.l7
  r7 : Rr.after ⟨s, true⟩ 7 = ⟨m.t7, true⟩
  ok : rdB m.t7 = some (m.ok, m.t8)
  n : Rr.int ⟨m.t8, true⟩ = ((m.es.length : Int), ⟨m.t9, true⟩)
  es : ∀ k, k ≤ m.es.length → Rr.ens ⟨m.t9, true⟩ k = (m.es.take k, ⟨esb (m.es.drop k) ++ m.tE, true⟩)
  i2 : Rr.ints ⟨m.tE, true⟩ 2 = [m.b.ix, m.b.tm]
  r2 : Rr.after ⟨m.tE, true⟩ 2 = ⟨m.tV, true⟩
  vs : rdVs m.tV = some (m.b.vs, m.t0)
  bd : Rr.text ⟨m.t0, true⟩ = (bl m.b.d, ⟨tb (bl m.d) ++ [], true⟩)
  d : Rr.text ⟨tb (bl m.d) ++ [], true⟩ = (bl m.d, ⟨[], true⟩)
theorem rr_out {m : Ms} {s : List UInt8} (hR : m.Right) (hm : msb m = s) : RrOut m s := by
  subst hm
  have h2 : ∀ x ∈ [m.b.ix, m.b.tm], Wide64 x := by
    intro x hx
    simp only [List.mem_cons, List.not_mem_nil, or_false] at hx
    rcases hx with rfl | rfl <;> exact (hR.ns _ (by simp)).w
  rw [msb_split]
  obtain ⟨a1, a2⟩ := afterR_out' m.l7 m.t7 hR.w7
  obtain ⟨a6, a7⟩ := afterR_out' [m.b.ix, m.b.tm] m.tV h2
  exact ⟨a1, a2, (rdB_iff _ _ _).2 rfl, intR_out (m.es.length : Int) ⟨by omega, by have := hR.ln; omega⟩ m.t9, ensR_out m.es m.tE (fun x hx => (hR.es x hx).w), a6, a7,
    (rdVs_iff _ _ _).2 ⟨rise_len hR.vs, hR.wv, rfl⟩, textR_out (bl m.b.d) _ (by rw [bl_size]; have := hR.bd; omega), textR_out (bl m.d) [] (by rw [bl_size]; have := hR.d; omega)⟩
theorem getR_len {α : Type} {f : List UInt8 → Option (α × List UInt8)} {d : α} {r : Rr} {n : Nat} (hf : ∀ x t, f r.s = some (x, t) → t.length ≤ r.s.length) (h : r.s.length ≤ n) : (r.get f d).2.s.length ≤ n := by
  unfold Rr.get
  split
  · rename_i x t hx
    exact Nat.le_trans (hf x t hx) h
  · exact h
theorem intR_len {r : Rr} {n : Nat} (h : r.s.length ≤ n) : r.int.2.s.length ≤ n := getR_len (fun _ _ hx => rdI_len hx) h
theorem textR_len {r : Rr} {n : Nat} (h : r.s.length ≤ n) : r.text.2.s.length ≤ n := getR_len (fun _ _ hx => rdT_len hx) h
theorem afterR_len {r : Rr} {n : Nat} (h : r.s.length ≤ n) : ∀ k, (r.after k).s.length ≤ n
  | 0 => h
  | k + 1 => intR_len (afterR_len h k)
theorem enR_len {r : Rr} {n : Nat} (h : r.s.length ≤ n) : r.en.2.s.length ≤ n := textR_len (afterR_len h 3)
theorem ensR_len {r : Rr} {n : Nat} (h : r.s.length ≤ n) : ∀ k, (r.ens k).2.s.length ≤ n
  | 0 => h
  | k + 1 => enR_len (ensR_len h k)
theorem ensR_length (r : Rr) : ∀ k, (r.ens k).1.length = k
  | 0 => rfl
  | k + 1 => by show ((r.ens k).1 ++ [_]).length = _; rw [List.length_append, ensR_length r k]; rfl
theorem intR_wide (r : Rr) : Wide64 r.int.1 := by
  unfold Rr.int Rr.get
  split
  · rename_i x t hx
    exact ((rdI_iff _ _ _).1 hx).1
  · exact wide0
theorem textR_short {r : Rr} {n : Nat} (h : r.s.length ≤ n) : r.text.1.length ≤ n := by
  unfold Rr.text Rr.get
  split
  · rename_i x t hx
    unfold rdT at hx
    split at hx
    · rename_i k q hi
      split at hx
      · simp only [Option.some.injEq, Prod.mk.injEq] at hx
        have := rdI_len hi
        rw [← hx.1, List.length_take]; omega
      · cases hx
    · cases hx
  · simp
theorem ensR_wide {r : Rr} {n : Nat} (h : r.s.length ≤ n) : ∀ k, ∀ x ∈ (r.ens k).1, Wide64 x.ix ∧ Wide64 x.tm ∧ Wide64 x.kd ∧ x.d.size ≤ n
  | 0 => fun x hx => (List.not_mem_nil hx).elim
  | k + 1 => fun x hx => by
    rcases List.mem_append.1 hx with hx | hx
    · exact ensR_wide h k x hx
    · obtain rfl := List.mem_singleton.1 hx
      refine ⟨intR_wide _, intR_wide _, intR_wide _, ?_⟩
      have := textR_short (r := (r.ens k).2.after 3) (afterR_len (ensR_len h k) 3)
      show (⟨((r.ens k).2.after 3).text.1.toArray⟩ : ByteArray).size ≤ n
      simpa [ByteArray.size] using this
theorem vsL_wide (s : List UInt8) : ∀ x ∈ vsL s, Wide64 x := by
  unfold vsL
  cases h : rdVs s with
  | none => exact fun x hx => (List.not_mem_nil hx).elim
  | some p => exact ((rdVs_iff s p.1 p.2).1 h).2.1
theorem vsR_le (s : List UInt8) : (vsR s).length ≤ s.length := by
  unfold vsR
  cases h : rdVs s with
  | none => simp
  | some p => exact rdVs_le (r := p.2) (x := p.1) h
end Go.Proofs.Ytagklgodcbmcaaa
