/-
  Chapter 7: what the reader reads is what was written: plain.
-/
import Derived.Test.YtagklgodcbmcaaaM7f
namespace Go.Proofs.Ytagklgodcbmcaaa
open Go.RowKit
theorem rdT_iff (s t r : List UInt8) (hs : t.length ≤ 1000000000000) : rdT s = some (t, r) ↔ s = tb t ++ r := by
  unfold rdT tb
  constructor
  · intro h
    cases hi : rdI s with
    | none => rw [hi] at h; cases h
    | some p =>
      obtain ⟨n, q⟩ := p
      rw [hi] at h
      dsimp only at h
      obtain ⟨hw, e⟩ := (rdI_iff s n q).1 hi
      split at h
      · rename_i hn
        simp only [Option.some.injEq, Prod.mk.injEq] at h
        obtain ⟨h1, h2⟩ := h
        have hl : (t.length : Int) = n := by rw [← h1, List.length_take]; omega
        rw [hl, e, ← h1, ← h2, List.append_assoc, List.take_append_drop]
      · cases h
  · intro h
    have hi : rdI s = some ((t.length : Int), t ++ r) := (rdI_iff s _ _).2 ⟨⟨by omega, by omega⟩, by rw [h, List.append_assoc]⟩
    rw [hi]
    dsimp only
    rw [if_pos (by rw [List.length_append]; omega)]
    simp
theorem rdB_iff (s : List UInt8) (b : Bool) (r : List UInt8) : rdB s = some (b, r) ↔ s = bb b ++ r := by
  constructor
  · intro h
    match s, h with
    | c :: t, h =>
      have h : (if c.toNat ≤ 1 then some (c.toNat == 1, t) else none) = some (b, r) := h
      split at h
      · rename_i hc
        simp only [Option.some.injEq, Prod.mk.injEq] at h
        obtain ⟨h1, rfl⟩ := h
        have hc2 : c = 0 ∨ c = 1 := by
          rcases Nat.lt_or_ge c.toNat 1 with h2 | h2
          · left; apply UInt8.toNat_inj.1; show _ = 0; omega
          · right; apply UInt8.toNat_inj.1; show _ = 1; omega
        rcases hc2 with rfl | rfl
        · subst h1; rfl
        · subst h1; rfl
      · cases h
  · rintro rfl
    cases b <;> rfl
theorem rdIs_iff : ∀ (n : Nat) (s : List UInt8) (l : List Int) (r : List UInt8), rdIs n s = some (l, r) ↔ l.length = n ∧ (∀ x ∈ l, Wide64 x) ∧ s = isb l ++ r
  | 0, s, l, r => by
    constructor
    · intro h
      have h : some (([] : List Int), s) = some (l, r) := h
      simp only [Option.some.injEq, Prod.mk.injEq] at h
      obtain ⟨rfl, rfl⟩ := h
      exact ⟨rfl, by simp, rfl⟩
    · rintro ⟨h1, _, h3⟩
      obtain rfl : l = [] := List.eq_nil_of_length_eq_zero h1
      rw [h3]; rfl
  | n + 1, s, l, r => by
    constructor
    · intro h
      unfold rdIs at h
      split at h
      · cases h
      · rename_i x t hx
        obtain ⟨⟨l', q⟩, h1, h2⟩ := Option.map_eq_some_iff.1 h
        simp only [Prod.mk.injEq] at h2
        obtain ⟨rfl, rfl⟩ := h2
        obtain ⟨a1, a2, a3⟩ := (rdIs_iff n t l' q).1 h1
        obtain ⟨b1, b2⟩ := (rdI_iff _ _ _).1 hx
        refine ⟨by simp [a1], ?_, by rw [b2, a3, ← List.append_assoc]; rfl⟩
        intro y hy
        rcases List.mem_cons.1 hy with rfl | hy
        · exact b1
        · exact a2 y hy
    · rintro ⟨h1, h2, h3⟩
      match l, h1, h2, h3 with
      | x :: l', h1, h2, h3 =>
        have e1 : rdI s = some (x, isb l' ++ r) := (rdI_iff _ _ _).2 ⟨h2 x (by simp), by rw [h3, ← List.append_assoc]; rfl⟩
        have e2 := (rdIs_iff n (isb l' ++ r) l' r).2 ⟨by simpa using h1, fun y hy => h2 y (List.mem_cons_of_mem _ hy), rfl⟩
        unfold rdIs
        rw [e1]
        dsimp only
        rw [e2]
        rfl
theorem rdVs_iff (s : List UInt8) (l : List Int) (r : List UInt8) : rdVs s = some (l, r) ↔ l.length ≤ 9 ∧ (∀ x ∈ l, Wide64 x) ∧ s = vtx l ++ r := by
  unfold rdVs vtx
  constructor
  · intro h
    split at h
    · cases h
    · rename_i n t hx
      split at h
      · cases h
      · rename_i hn
        obtain ⟨a1, a2, a3⟩ := (rdIs_iff _ _ _ _).1 h
        obtain ⟨b1, b2⟩ := (rdI_iff _ _ _).1 hx
        have : (l.length : Int) = n := by omega
        exact ⟨by omega, a2, by rw [b2, a3, this, List.append_assoc]⟩
  · rintro ⟨h1, h2, h3⟩
    have e1 : rdI s = some ((l.length : Int), isb l ++ r) := (rdI_iff _ _ _).2 ⟨⟨by omega, by omega⟩, by rw [h3, List.append_assoc]⟩
    rw [e1]
    dsimp only
    rw [if_neg (by omega)]
    exact (rdIs_iff _ _ _ _).2 ⟨by omega, h2, rfl⟩

theorem get_in {α : Type} {f : List UInt8 → Option (α × List UInt8)} {d : α} {r : Rs} (h : (r.get f d).2.bad = false) : r.bad = false ∧ f r.s = some ((r.get f d).1, (r.get f d).2.s) := by
  unfold Rs.get at h ⊢
  cases hf : f r.s with
  | none => rw [hf] at h; cases h
  | some p =>
    obtain ⟨x, t⟩ := p
    rw [hf] at h
    dsimp only at h ⊢
    cases hb : r.bad with
    | true => rw [hb, if_pos rfl] at h; rw [hb] at h; cases h
    | false => exact ⟨rfl, by simp⟩
theorem get_out {α : Type} {f : List UInt8 → Option (α × List UInt8)} {d : α} {s : List UInt8} {x : α} {t : List UInt8} (h : f s = some (x, t)) : Rs.get f d ⟨s, false⟩ = (x, ⟨t, false⟩) := by
  unfold Rs.get; rw [h]; rfl
theorem Rs.ext' {r : Rs} {s : List UInt8} (h1 : r.s = s) (h2 : r.bad = false) : r = ⟨s, false⟩ := by cases r; simp_all
theorem int_in {r : Rs} (h : r.int.2.bad = false) : r.bad = false ∧ Wide64 r.int.1 ∧ r.s = ib r.int.1 ++ r.int.2.s := by
  obtain ⟨h1, h2⟩ := get_in h
  exact ⟨h1, (rdI_iff _ _ _).1 h2⟩
theorem int_out (n : Int) (h : Wide64 n) (t : List UInt8) : Rs.int ⟨ib n ++ t, false⟩ = (n, ⟨t, false⟩) := get_out ((rdI_iff _ _ _).2 ⟨h, rfl⟩)
theorem after_in (r : Rs) : ∀ k : Nat, (r.after k).bad = false → r.bad = false ∧ (∀ x ∈ r.ints k, Wide64 x) ∧ r.s = isb (r.ints k) ++ (r.after k).s
  | 0, h => ⟨h, fun x hx => (List.not_mem_nil hx).elim, rfl⟩
  | k + 1, h => by
    obtain ⟨a1, a2, a3⟩ := int_in (r := r.after k) h
    obtain ⟨b1, b2, b3⟩ := after_in r k a1
    refine ⟨b1, fun x hx => ?_, ?_⟩
    · rcases List.mem_append.1 hx with hx | hx
      · exact b2 x hx
      · obtain rfl := List.mem_singleton.1 hx
        exact a2
    · rw [b3, a3]
      show _ = isb (r.ints k ++ [r.nth k]) ++ (r.after (k + 1)).s
      unfold isb
      rw [List.flatMap_append, List.append_assoc]
      simp only [List.flatMap_cons, List.flatMap_nil, List.append_nil]
      rfl
theorem after_out : ∀ (l : List Int) (t : List UInt8), (∀ x ∈ l, Wide64 x) → ∀ k, k ≤ l.length → Rs.ints ⟨isb l ++ t, false⟩ k = l.take k ∧ Rs.after ⟨isb l ++ t, false⟩ k = ⟨isb (l.drop k) ++ t, false⟩ := by
  intro l t hw k
  induction k with
  | zero => intro _; exact ⟨rfl, rfl⟩
  | succ k ih =>
    intro hk
    obtain ⟨a1, a2⟩ := ih (by omega)
    have h1 : l.drop k = l[k] :: l.drop (k + 1) := List.drop_eq_getElem_cons (by omega)
    have h2 : Rs.int (Rs.after ⟨isb l ++ t, false⟩ k) = (l[k], ⟨isb (l.drop (k + 1)) ++ t, false⟩) := by
      rw [a2, h1]
      have := int_out l[k] (hw _ (List.getElem_mem _)) (isb (l.drop (k + 1)) ++ t)
      rw [← List.append_assoc] at this
      exact this
    constructor
    · show Rs.ints ⟨isb l ++ t, false⟩ k ++ [(Rs.int (Rs.after ⟨isb l ++ t, false⟩ k)).1] = _
      rw [a1, h2, List.take_add_one, List.getElem?_eq_getElem (by omega)]
      rfl
    · show (Rs.int (Rs.after ⟨isb l ++ t, false⟩ k)).2 = _
      rw [h2]
theorem after_out' (l : List Int) (t : List UInt8) (hw : ∀ x ∈ l, Wide64 x) : Rs.ints ⟨isb l ++ t, false⟩ l.length = l ∧ Rs.after ⟨isb l ++ t, false⟩ l.length = ⟨t, false⟩ := by
  have := after_out l t hw l.length (Nat.le_refl _)
  simpa [isb] using this
theorem nth_of {r : Rs} {k : Nat} {l : List Int} (h : r.ints k = l) : ∀ j, j < k → some (r.nth j) = l[j]? := by
  subst h
  intro j hj
  induction k with
  | zero => omega
  | succ k ih =>
    show _ = (r.ints k ++ [r.nth k])[j]?
    by_cases hk : j < k
    · rw [List.getElem?_append_left (by rw [Rs.ints_length]; exact hk)]
      exact ih hk
    · obtain rfl : j = k := by omega
      rw [List.getElem?_append_right (by rw [Rs.ints_length]; omega), Rs.ints_length, Nat.sub_self]
      rfl
theorem text_in {r : Rs} (h : r.text.2.bad = false) (hl : r.s.length ≤ 1000000000000) : r.bad = false ∧ r.s = tb r.text.1 ++ r.text.2.s := by
  obtain ⟨h1, h2⟩ := get_in h
  refine ⟨h1, (rdT_iff _ _ _ ?_).1 h2⟩
  have h3 : (rdT r.s).isSome = true := by rw [h2]; rfl
  unfold rdT at h2
  split at h2
  · rename_i n q hi
    split at h2
    · simp only [Option.some.injEq, Prod.mk.injEq] at h2
      have := rdI_len hi
      have h4 : r.text.1 = q.take n.toNat := h2.1.symm
      show r.text.1.length ≤ _
      rw [h4, List.length_take]
      omega
    · cases h2
  · cases h2
theorem text_out (x t : List UInt8) (h : x.length ≤ 1000000000000) : Rs.text ⟨tb x ++ t, false⟩ = (x, ⟨t, false⟩) := get_out ((rdT_iff _ _ _ h).2 rfl)
theorem bool_in {r : Rs} (h : r.bool.2.bad = false) : r.bad = false ∧ r.s = bb r.bool.1 ++ r.bool.2.s := by
  obtain ⟨h1, h2⟩ := get_in h
  exact ⟨h1, (rdB_iff _ _ _).1 h2⟩
theorem bool_out (b : Bool) (t : List UInt8) : Rs.bool ⟨bb b ++ t, false⟩ = (b, ⟨t, false⟩) := get_out ((rdB_iff _ _ _).2 rfl)
theorem vots_in {r : Rs} (h : r.vots.2.bad = false) : r.bad = false ∧ r.vots.1.length ≤ 9 ∧ (∀ x ∈ r.vots.1, Wide64 x) ∧ r.s = vtx r.vots.1 ++ r.vots.2.s := by
  obtain ⟨h1, h2⟩ := get_in h
  exact ⟨h1, (rdVs_iff _ _ _).1 h2⟩
theorem vots_out (l : List Int) (t : List UInt8) (h : l.length ≤ 9) (hw : ∀ x ∈ l, Wide64 x) : Rs.vots ⟨vtx l ++ t, false⟩ = (l, ⟨t, false⟩) := get_out ((rdVs_iff _ _ _).2 ⟨h, hw, rfl⟩)
theorem after_len (r : Rs) (n : Nat) (h : r.s.length ≤ n) : ∀ k, (r.after k).s.length ≤ n := by
  have hg : ∀ q : Rs, q.s.length ≤ n → q.int.2.s.length ≤ n := fun q hq => by
    unfold Rs.int Rs.get
    split
    · rename_i x t hx
      split
      · exact hq
      · exact Nat.le_trans (rdI_len hx) hq
    · exact hq
  intro k
  induction k with
  | zero => exact h
  | succ k ih => exact hg _ ih
theorem ints3 (r : Rs) : r.ints 3 = [r.nth 0, r.nth 1, r.nth 2] := rfl
theorem en_in {r : Rs} (h : r.en.2.bad = false) (hl : r.s.length ≤ 1000000000000) : r.bad = false ∧ r.s = enb r.en.1 ++ r.en.2.s := by
  have hl3 := after_len r _ hl 3
  obtain ⟨a1, a2⟩ := text_in (r := r.after 3) h hl3
  obtain ⟨b1, b2, b3⟩ := after_in r 3 a1
  refine ⟨b1, ?_⟩
  rw [b3, a2, ints3]
  show _ = isb [r.nth 0, r.nth 1, r.nth 2] ++ tb (bl ⟨(r.after 3).text.1.toArray⟩) ++ _
  rw [List.append_assoc]
  rfl
structure EnOk (x : En) : Prop where
  ix : Wide64 x.ix
  tm : Wide64 x.tm
  kd : Wide64 x.kd
  d : x.d.size ≤ 1000000000000
theorem EnRight.w {x : En} (h : EnRight x) : EnOk x := by
  have := h.ix; have := h.tm; have := h.kd; have := h.d
  unfold In40 at *
  exact ⟨⟨by omega, by omega⟩, ⟨by omega, by omega⟩, ⟨by omega, by omega⟩, by omega⟩
theorem en_out (x : En) (t : List UInt8) (h : EnOk x) : Rs.en ⟨enb x ++ t, false⟩ = (x, ⟨t, false⟩) := by
  have h3 : ∀ y ∈ [x.ix, x.tm, x.kd], Wide64 y := by
    intro y hy; simp at hy; rcases hy with rfl | rfl | rfl
    · exact h.ix
    · exact h.tm
    · exact h.kd
  obtain ⟨a1, a2⟩ := after_out' [x.ix, x.tm, x.kd] (tb (bl x.d) ++ t) h3
  rw [← List.append_assoc] at a1 a2
  have a1 : Rs.ints ⟨enb x ++ t, false⟩ 3 = [x.ix, x.tm, x.kd] := a1
  have a2 : Rs.after ⟨enb x ++ t, false⟩ 3 = ⟨tb (bl x.d) ++ t, false⟩ := a2
  have n0 := nth_of a1 0 (by omega)
  have n1 := nth_of a1 1 (by omega)
  have n2 := nth_of a1 2 (by omega)
  simp only [List.getElem?_cons_zero, List.getElem?_cons_succ, Option.some.injEq] at n0 n1 n2
  unfold Rs.en
  rw [n0, n1, n2, a2, text_out (bl x.d) t (by rw [bl_size]; exact h.d), bl_ba]
def Rs.ens (r : Rs) : Nat → List En × Rs
  | 0 => ([], r)
  | k + 1 => ((r.ens k).1 ++ [(r.ens k).2.en.1], (r.ens k).2.en.2)
theorem get_len {α : Type} {f : List UInt8 → Option (α × List UInt8)} {d : α} {r : Rs} {n : Nat} (hf : ∀ x t, f r.s = some (x, t) → t.length ≤ r.s.length) (h : r.s.length ≤ n) : (r.get f d).2.s.length ≤ n := by
  unfold Rs.get
  split
  · rename_i x t hx
    split
    · exact h
    · exact Nat.le_trans (hf x t hx) h
  · exact h
theorem int_len {r : Rs} {n : Nat} (h : r.s.length ≤ n) : r.int.2.s.length ≤ n := get_len (fun _ _ hx => rdI_len hx) h
theorem bool_len {r : Rs} {n : Nat} (h : r.s.length ≤ n) : r.bool.2.s.length ≤ n := get_len (fun _ _ hx => rdB_len hx) h
theorem vots_len {r : Rs} {n : Nat} (h : r.s.length ≤ n) : r.vots.2.s.length ≤ n := get_len (fun _ _ hx => rdVs_le hx) h
theorem text_len {r : Rs} {n : Nat} (h : r.s.length ≤ n) : r.text.2.s.length ≤ n := get_len (fun _ _ hx => rdT_len hx) h
theorem en_len {r : Rs} {n : Nat} (h : r.s.length ≤ n) : r.en.2.s.length ≤ n := text_len (after_len r n h 3)
theorem ens_len {r : Rs} {n : Nat} (h : r.s.length ≤ n) : ∀ k, (r.ens k).2.s.length ≤ n
  | 0 => h
  | k + 1 => en_len (ens_len h k)
theorem esb_end (l : List En) (x : En) : esb (l ++ [x]) = esb l ++ enb x := by unfold esb; rw [List.flatMap_append]; simp
theorem ens_length (r : Rs) : ∀ k, (r.ens k).1.length = k
  | 0 => rfl
  | k + 1 => by show ((r.ens k).1 ++ [_]).length = _; rw [List.length_append, ens_length r k]; rfl
theorem ens_in (r : Rs) (hl : r.s.length ≤ 1000000000000) : ∀ k : Nat, (r.ens k).2.bad = false → r.bad = false ∧ r.s = esb (r.ens k).1 ++ (r.ens k).2.s
  | 0, h => ⟨h, rfl⟩
  | k + 1, h => by
    obtain ⟨a1, a2⟩ := en_in (r := (r.ens k).2) h (ens_len hl k)
    obtain ⟨b1, b2⟩ := ens_in r hl k a1
    refine ⟨b1, ?_⟩
    rw [b2, a2]
    show _ = esb ((r.ens k).1 ++ [(r.ens k).2.en.1]) ++ (r.ens k).2.en.2.s
    rw [esb_end, List.append_assoc]
theorem ens_out : ∀ (l : List En) (t : List UInt8), (∀ x ∈ l, EnOk x) → ∀ k, k ≤ l.length → Rs.ens ⟨esb l ++ t, false⟩ k = (l.take k, ⟨esb (l.drop k) ++ t, false⟩) := by
  intro l t hw k
  induction k with
  | zero => intro _; rfl
  | succ k ih =>
    intro hk
    have a1 := ih (by omega)
    have h1 : l.drop k = l[k] :: l.drop (k + 1) := List.drop_eq_getElem_cons (by omega)
    show ((Rs.ens ⟨esb l ++ t, false⟩ k).1 ++ [(Rs.ens ⟨esb l ++ t, false⟩ k).2.en.1], (Rs.ens ⟨esb l ++ t, false⟩ k).2.en.2) = _
    rw [a1]
    dsimp only
    have h2 : esb (l.drop k) ++ t = enb l[k] ++ (esb (l.drop (k + 1)) ++ t) := by rw [h1, ← List.append_assoc]; rfl
    rw [h2, en_out _ _ (hw _ (List.getElem_mem _)), List.take_add_one, List.getElem?_eq_getElem (by omega)]
    rfl
theorem ens_out' (l : List En) (t : List UInt8) (hw : ∀ x ∈ l, EnOk x) : Rs.ens ⟨esb l ++ t, false⟩ l.length = (l, ⟨t, false⟩) := by
  have := ens_out l t hw l.length (Nat.le_refl _)
  simpa [esb] using this
/-- All that is read of a message. -/
structure Chn where
  r7 : Rs
  r8 : Rs
  r9 : Rs
  rE : Rs
  rB : Rs
  rV : Rs
  rD : Rs
  rF : Rs
  n : Int
  es : List En
structure Chn.Is (s : List UInt8) (c : Chn) : Prop where
  h7 : Rs.after ⟨s, false⟩ 7 = c.r7
  h8 : c.r7.bool.2 = c.r8
  hn : c.r8.int.1 = c.n
  h9 : c.r8.int.2 = c.r9
  hE : c.r9.ens c.n.toNat = (c.es, c.rE)
  hB : c.rE.after 2 = c.rB
  hV : c.rB.vots.2 = c.rV
  hD : c.rV.text.2 = c.rD
  hF : c.rD.text.2 = c.rF
def Chn.ms (s : List UInt8) (c : Chn) : Ms := ⟨Rs.nth ⟨s, false⟩ 0, Rs.nth ⟨s, false⟩ 1, Rs.nth ⟨s, false⟩ 2, Rs.nth ⟨s, false⟩ 3, Rs.nth ⟨s, false⟩ 4, Rs.nth ⟨s, false⟩ 5, Rs.nth ⟨s, false⟩ 6, c.r7.bool.1, c.es, ⟨c.rE.nth 0, c.rE.nth 1, c.rB.vots.1, ⟨c.rV.text.1.toArray⟩⟩, ⟨c.rD.text.1.toArray⟩⟩
theorem In40.w {x : Int} (h : In40 x) : Wide64 x := by unfold In40 at h; exact ⟨by omega, by omega⟩
theorem Ms.Right.w7 {m : Ms} (h : m.Right) : ∀ x ∈ [m.kd, m.fr, m.to, m.tm, m.ix, m.lt, m.cm], Wide64 x := by
  have h1 := h.kd; have h2 := h.fr; have h3 := h.to; have hn := h.ns
  unfold Node at h2 h3
  intro x hx
  simp only [List.mem_cons, List.not_mem_nil, or_false] at hx
  rcases hx with rfl | rfl | rfl | rfl | rfl | rfl | rfl
  · exact ⟨by omega, by omega⟩
  · exact ⟨by omega, by omega⟩
  · exact ⟨by omega, by omega⟩
  all_goals exact (hn _ (by simp)).w
theorem Ms.Right.wv {m : Ms} (h : m.Right) : ∀ x ∈ m.b.vs, Wide64 x := by
  intro x hx
  obtain ⟨j, hj⟩ := List.getElem?_of_mem hx
  have := h.vs j x hj
  exact ⟨by have := this.1; omega, by have := this.2.1; omega⟩
theorem chn_in {s : List UInt8} {c : Chn} (h : c.Is s) (hl : s.length ≤ 1000000000000) (h0 : 0 ≤ c.n) (hb : c.rF.bad = false) (he : c.rF.s = []) : msb (c.ms s) = s := by
  obtain ⟨h7, h8, hn, h9, hE, hB, hV, hD, hF⟩ := h
  obtain ⟨r7, r8, r9, rE, rB, rV, rD, rF, n, es⟩ := c
  dsimp only at *
  have l7 := after_len ⟨s, false⟩ _ hl 7
  rw [h7] at l7
  have l8 := bool_len l7
  rw [h8] at l8
  have l9 := int_len l8
  rw [h9] at l9
  have lE := ens_len l9 n.toNat
  rw [hE] at lE
  have lB := after_len rE _ lE 2
  rw [hB] at lB
  have lV := vots_len lB
  rw [hV] at lV
  have lD := text_len lV
  rw [hD] at lD
  obtain ⟨b1, e1⟩ := text_in (r := rD) (by rw [hF]; exact hb) lD
  obtain ⟨b2, e2⟩ := text_in (r := rV) (by rw [hD]; exact b1) lV
  obtain ⟨b3, _, _, e3⟩ := vots_in (r := rB) (by rw [hV]; exact b2)
  obtain ⟨b4, _, e4⟩ := after_in rE 2 (by rw [hB]; exact b3)
  obtain ⟨b5, e5⟩ := ens_in r9 l9 n.toNat (by rw [hE]; exact b4)
  obtain ⟨b6, _, e6⟩ := int_in (r := r8) (by rw [h9]; exact b5)
  obtain ⟨b7, e7⟩ := bool_in (r := r7) (by rw [h8]; exact b6)
  obtain ⟨b8, _, e8⟩ := after_in ⟨s, false⟩ 7 (by rw [h7]; exact b7)
  have hlen : (es.length : Int) = n := by
    have := ens_length r9 n.toNat
    rw [hE] at this
    dsimp only at this
    omega
  rw [hF, he, List.append_nil] at e1
  rw [hD, e1] at e2
  rw [hV, e2] at e3
  rw [hB, e3] at e4
  rw [hE] at e5
  dsimp only at e5
  rw [e4] at e5
  rw [h9, hn, e5] at e6
  rw [h8, e6] at e7
  rw [h7, e7] at e8
  dsimp only at e8
  refine Eq.trans ?_ e8.symm
  unfold Chn.ms msb msA msC
  dsimp only
  rw [show bl ⟨rV.text.1.toArray⟩ = rV.text.1 from by unfold bl; simp, show bl ⟨rD.text.1.toArray⟩ = rD.text.1 from by unfold bl; simp, hlen]
  simp only [List.append_assoc]
  rfl
theorem chn_out {s : List UInt8} {c : Chn} (h : c.Is s) {m : Ms} (hR : m.Right) (hm : msb m = s) : m = c.ms s ∧ 0 ≤ c.n ∧ c.n ≤ 8 ∧ c.rF.bad = false ∧ c.rF.s = [] := by
  obtain ⟨h7, h8, hn, h9, hE, hB, hV, hD, hF⟩ := h
  obtain ⟨r7, r8, r9, rE, rB, rV, rD, rF, n, es⟩ := c
  unfold Chn.ms
  dsimp only at *
  have h2 : ∀ x ∈ [m.b.ix, m.b.tm], Wide64 x := by
    intro x hx
    simp only [List.mem_cons, List.not_mem_nil, or_false] at hx
    rcases hx with rfl | rfl <;> exact (hR.ns _ (by simp)).w
  obtain ⟨a1, a2⟩ := after_out' [m.kd, m.fr, m.to, m.tm, m.ix, m.lt, m.cm] (bb m.ok ++ (ib m.es.length ++ (esb m.es ++ (isb [m.b.ix, m.b.tm] ++ (vtx m.b.vs ++ (tb (bl m.b.d) ++ (tb (bl m.d) ++ []))))))) hR.w7
  have a3 := bool_out m.ok (ib m.es.length ++ (esb m.es ++ (isb [m.b.ix, m.b.tm] ++ (vtx m.b.vs ++ (tb (bl m.b.d) ++ (tb (bl m.d) ++ []))))))
  have a4 := int_out (m.es.length : Int) ⟨by omega, by have := hR.ln; omega⟩ (esb m.es ++ (isb [m.b.ix, m.b.tm] ++ (vtx m.b.vs ++ (tb (bl m.b.d) ++ (tb (bl m.d) ++ [])))))
  have a5 := ens_out' m.es (isb [m.b.ix, m.b.tm] ++ (vtx m.b.vs ++ (tb (bl m.b.d) ++ (tb (bl m.d) ++ [])))) (fun x hx => (hR.es x hx).w)
  obtain ⟨a6, a7⟩ := after_out' [m.b.ix, m.b.tm] (vtx m.b.vs ++ (tb (bl m.b.d) ++ (tb (bl m.d) ++ []))) h2
  have a8 := vots_out m.b.vs (tb (bl m.b.d) ++ (tb (bl m.d) ++ [])) (rise_len hR.vs) hR.wv
  have a9 := text_out (bl m.b.d) (tb (bl m.d) ++ []) (by rw [bl_size]; have := hR.bd; omega)
  have a10 := text_out (bl m.d) [] (by rw [bl_size]; have := hR.d; omega)
  have hs' : isb [m.kd, m.fr, m.to, m.tm, m.ix, m.lt, m.cm] ++ (bb m.ok ++ (ib m.es.length ++ (esb m.es ++ (isb [m.b.ix, m.b.tm] ++ (vtx m.b.vs ++ (tb (bl m.b.d) ++ (tb (bl m.d) ++ []))))))) = s := by
    rw [← hm]; unfold msb msA msC; simp only [List.append_assoc, List.append_nil]
  rw [hs'] at a1 a2
  have a2 : Rs.after ⟨s, false⟩ 7 = _ := a2
  have a1 : Rs.ints ⟨s, false⟩ 7 = _ := a1
  rw [h7] at a2
  subst a2
  rw [a3] at h8
  subst h8
  rw [a4] at hn h9
  subst hn
  subst h9
  have hE2 : Rs.ens ⟨esb m.es ++ (isb [m.b.ix, m.b.tm] ++ (vtx m.b.vs ++ (tb (bl m.b.d) ++ (tb (bl m.d) ++ [])))), false⟩ m.es.length = (es, rE) := hE
  rw [a5] at hE2
  simp only [Prod.mk.injEq] at hE2
  obtain ⟨he1, he2⟩ := hE2
  subst he1
  subst he2
  have a7 : Rs.after ⟨isb [m.b.ix, m.b.tm] ++ (vtx m.b.vs ++ (tb (bl m.b.d) ++ (tb (bl m.d) ++ []))), false⟩ 2 = _ := a7
  have a6 : Rs.ints ⟨isb [m.b.ix, m.b.tm] ++ (vtx m.b.vs ++ (tb (bl m.b.d) ++ (tb (bl m.d) ++ []))), false⟩ 2 = _ := a6
  rw [a7] at hB
  subst hB
  rw [a8] at hV
  subst hV
  rw [a9] at hD
  subst hD
  rw [a10] at hF
  subst hF
  have n7 := nth_of a1
  have k0 := n7 0 (by omega)
  have k1 := n7 1 (by omega)
  have k2 := n7 2 (by omega)
  have k3 := n7 3 (by omega)
  have k4 := n7 4 (by omega)
  have k5 := n7 5 (by omega)
  have k6 := n7 6 (by omega)
  have n2 := nth_of a6
  have j0 := n2 0 (by omega)
  have j1 := n2 1 (by omega)
  simp only [List.getElem?_cons_zero, List.getElem?_cons_succ, Option.some.injEq] at k0 k1 k2 k3 k4 k5 k6 j0 j1
  refine ⟨?_, by omega, by have := hR.ln; omega, rfl, rfl⟩
  rw [k0, k1, k2, k3, k4, k5, k6, j0, j1, a3, a8, a9, a10]
  dsimp only
  rw [bl_ba, bl_ba]
end Go.Proofs.Ytagklgodcbmcaaa
