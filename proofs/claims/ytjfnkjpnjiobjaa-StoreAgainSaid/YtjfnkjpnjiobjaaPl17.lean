/-
  Chapter 17: plain facts about what acts make of a store, with no program in sight.
-/
import Derived.Test.YtjfnkjpnjiobjaaS17d
namespace Go.Proofs.Ytjfnkjpnjiobjaa
open Go.RowKit
def run17 (S : Sv) (l : List A17) : Sv := l.foldl (fun S a => (D17 S a).2.2.2) S
theorem run17_step (S : Sv) (l : List A17) (k : Nat) (a : A17) (h : l[k]? = some a) : run17 S (l.take (k + 1)) = (D17 (run17 S (l.take k)) a).2.2.2 := by
  unfold run17
  rw [List.take_add_one, h, List.foldl_append]; rfl
theorem fnd_ins {S : Sv} {k : List UInt8} (f : Fd) (h : fnd S k = none) (k' : List UInt8) : fnd (insBy Prod.fst (k, f) S) k' = if k' = k then some f else fnd S k' := by
  unfold fnd at h ⊢
  have hn : ∀ a ∈ S, a.1 ≠ (k, f).1 := by
    intro a ha he
    have h1 : S.find? (fun x => x.1 == k) = none := by simpa using h
    have := List.find?_eq_none.1 h1 a ha
    simp at this
    exact this he
  rw [insBy_find Prod.fst (k, f) S k' hn]
  by_cases h1 : k' = k
  · rw [if_pos h1, if_pos h1]; rfl
  · rw [if_neg h1, if_neg h1]
theorem fnd_put {S : Sv} {k : List UInt8} {f0 : Fd} (f : Fd) (h : fnd S k = some f0) (k' : List UInt8) : fnd (putBy Prod.fst k (k, f) S) k' = if k' = k then some f else fnd S k' := by
  unfold fnd at h ⊢
  rw [putBy_find Prod.fst k (k, f) S rfl k']
  by_cases h1 : k' = k
  · rw [if_pos h1, if_pos h1, Option.map_map]
    cases h2 : S.find? (fun x => x.1 == k) with
    | none => rw [h2] at h; cases h
    | some x => rfl
  · rw [if_neg h1, if_neg h1]
theorem fnd_del (S : Sv) (k k' : List UInt8) : fnd (delBy Prod.fst k S) k' = if k' = k then none else fnd S k' := by
  unfold fnd
  rw [delBy_find Prod.fst k S k']
  by_cases h1 : k' = k
  · rw [if_pos h1, if_pos h1]; rfl
  · rw [if_neg h1, if_neg h1]
theorem subS_fnd (S : Sv) (k k' : List UInt8) : fnd (subS S k).2 k' = fnd S k' ∨ k' = k ∧ fnd S k = none ∧ fnd (subS S k).2 k' = some ⟨-1, 0, []⟩ := by
  unfold subS
  split
  · split
    · exact .inl rfl
    · rename_i h
      split
      · exact .inl rfl
      · have h' : fnd S k = none := by simpa using h
        by_cases h1 : k' = k
        · exact .inr ⟨h1, h', by show fnd (insBy _ _ _) k' = _; rw [fnd_ins _ h', if_pos h1]⟩
        · exact .inl (by show fnd (insBy _ _ _) k' = _; rw [fnd_ins _ h', if_neg h1])
  · exact .inl rfl
theorem unS_fnd (S : Sv) (k k' : List UInt8) : fnd (unS S k).2 k' = fnd S k' ∨ k' = k ∧ fnd (unS S k).2 k' = none := by
  unfold unS
  split
  · by_cases h1 : k' = k
    · exact .inr ⟨h1, by show fnd (delBy _ _ _) k' = _; rw [fnd_del, if_pos h1]⟩
    · exact .inl (by show fnd (delBy _ _ _) k' = _; rw [fnd_del, if_neg h1])
  · exact .inl rfl
theorem failS_fnd (S : Sv) (k : List UInt8) (n : Int) (k' : List UInt8) : fnd (failS S k n).2 k' = fnd S k' ∨ k' = k ∧ ∃ f, fnd S k = some f ∧ fnd (failS S k n).2 k' = some (failF f n) := by
  unfold failS
  split
  · exact .inl rfl
  · rename_i f h
    split
    · by_cases h1 : k' = k
      · exact .inr ⟨h1, f, h, by show fnd (putBy _ _ _ _) k' = _; rw [fnd_put _ h, if_pos h1]⟩
      · exact .inl (by show fnd (putBy _ _ _ _) k' = _; rw [fnd_put _ h, if_neg h1])
    · exact .inl rfl
theorem markS_fnd (S : Sv) (k id k' : List UInt8) : fnd (markS S k id).2 k' = fnd S k' ∨ k' = k ∧ ∃ f i, fnd S k = some f ∧ idx f.ps id = some i ∧ fnd (markS S k id).2 k' = some (markF f i) := by
  unfold markS
  split
  · exact .inl rfl
  · rename_i f h
    split
    · exact .inl rfl
    · rename_i i hi
      by_cases h1 : k' = k
      · exact .inr ⟨h1, f, i, h, hi, by show fnd (putBy _ _ _ _) k' = _; rw [fnd_put _ h, if_pos h1]⟩
      · exact .inl (by show fnd (putBy _ _ _ _) k' = _; rw [fnd_put _ h, if_neg h1])
theorem ingR_fnd (S : Sv) (k : List UInt8) (l : List It) (n : Int) (k' : List UInt8) : fnd (ingR S k l n).2.2 k' = fnd S k' ∨ k' = k ∧ ∃ f, fnd S k = some f ∧ fnd (ingR S k l n).2.2 k' = some ⟨n, 0, (ingF f l).1.ps⟩ := by
  unfold ingR
  split
  · exact .inl rfl
  · rename_i f h
    split
    · split
      · by_cases h1 : k' = k
        · exact .inr ⟨h1, f, h, by show fnd (putBy _ _ _ _) k' = _; rw [fnd_put _ h, if_pos h1]⟩
        · exact .inl (by show fnd (putBy _ _ _ _) k' = _; rw [fnd_put _ h, if_neg h1])
      · exact .inl rfl
    · exact .inl rfl
/-- What an act makes of a feed k. -/
inductive Made (q : Int) (a : A17) (S : Sv) (k : List UInt8) : Option Fd → Prop where
  | same : Made q a S k (fnd S k)
  | sub : k = a.fd → fnd S k = none → Made q a S k (some ⟨-1, 0, []⟩)
  | un : k = a.fd → q = 2 → Made q a S k none
  | fail (f : Fd) : k = a.fd → fnd S k = some f → Made q a S k (some (failF f a.n))
  | mark (f : Fd) (i : Nat) : k = a.fd → fnd S k = some f → idx f.ps a.id = some i → Made q a S k (some (markF f i))
  | ing (f : Fd) : k = a.fd → fnd S k = some f → Made q a S k (some ⟨a.n, 0, (ingF f a.its).1.ps⟩)
theorem D17_made (S : Sv) (a : A17) (k : List UInt8) : Made (pkI a.op 10) a S k (fnd (D17 S a).2.2.2 k) := by
  unfold D17
  generalize pkI a.op 10 = q
  unfold D17q
  split
  · show Made q a S k (fnd (subS S a.fd).2 k)
    rcases subS_fnd S a.fd k with h | ⟨h1, h2, h3⟩
    · rw [h]; exact .same
    · rw [h3]; exact .sub h1 (h1 ▸ h2)
  split
  · show Made q a S k (fnd (subS S a.fd).2 k)
    rcases subS_fnd S a.fd k with h | ⟨h1, h2, h3⟩
    · rw [h]; exact .same
    · rw [h3]; exact .sub h1 (h1 ▸ h2)
  split
  · rename_i hq
    show Made q a S k (fnd (unS S a.fd).2 k)
    rcases unS_fnd S a.fd k with h | ⟨h1, h3⟩
    · rw [h]; exact .same
    · rw [h3]; exact .un h1 hq
  split
  · show Made q a S k (fnd (failS S a.fd a.n).2 k)
    rcases failS_fnd S a.fd a.n k with h | ⟨h1, f, h2, h3⟩
    · rw [h]; exact .same
    · rw [h3]; exact .fail f h1 (h1 ▸ h2)
  split
  · show Made q a S k (fnd (markS S a.fd a.id).2 k)
    rcases markS_fnd S a.fd a.id k with h | ⟨h1, f, i, h2, h4, h3⟩
    · rw [h]; exact .same
    · rw [h3]; exact .mark f i h1 (h1 ▸ h2) h4
  split
  · exact .same
  · show Made q a S k (fnd (ingR S a.fd a.its a.n).2.2 k)
    rcases ingR_fnd S a.fd a.its a.n k with h | ⟨h1, f, h2, h3⟩
    · rw [h]; exact .same
    · rw [h3]; exact .ing f h1 (h1 ▸ h2)
theorem D17_other (S : Sv) (a : A17) (k : List UInt8) (h : k ≠ a.fd) : fnd (D17 S a).2.2.2 k = fnd S k := by
  generalize hf : fnd (D17 S a).2.2.2 k = o
  have := D17_made S a k
  rw [hf] at this
  cases this with
  | same => rfl
  | sub h1 => exact absurd h1 h
  | un h1 => exact absurd h1 h
  | fail f h1 => exact absurd h1 h
  | mark f i h1 => exact absurd h1 h
  | ing f h1 => exact absurd h1 h
/-- A row of posts as a feed has it. -/
structure PsOk (ps : List Po) : Prop where
  sq : ∀ (i : Nat) (x : Po), ps[i]? = some x → x.sq = (i : Int) + 1
  ids : (ps.map (·.it.id)).Nodup
  n : ps.length ≤ 200
/-- ps is the beginning of ps', but for what was read since. -/
def Pre (ps ps' : List Po) : Prop := ∀ (i : Nat) (x : Po), ps[i]? = some x → ∃ x', ps'[i]? = some x' ∧ x'.sq = x.sq ∧ x'.it = x.it ∧ (x.rd = true → x'.rd = true)
theorem Pre.refl (ps : List Po) : Pre ps ps := fun i x h => ⟨x, h, rfl, rfl, id⟩
theorem Pre.trans {a b c : List Po} (h : Pre a b) (h' : Pre b c) : Pre a c := fun i x hx => by
  obtain ⟨y, h1, h2, h3, h4⟩ := h i x hx
  obtain ⟨z, g1, g2, g3, g4⟩ := h' i y h1
  exact ⟨z, g1, g2.trans h2, g3.trans h3, fun h => g4 (h4 h)⟩
theorem idx_none {ps : List Po} {k : List UInt8} (h : idx ps k = none) : ∀ x ∈ ps, x.it.id ≠ k := by
  intro x hx he
  have := List.findIdx?_eq_none_iff.1 h x hx
  simp [he] at this
theorem addF_ok {f : Fd} (x : It) (h : PsOk f.ps) : PsOk (addF f x).ps ∧ Pre f.ps (addF f x).ps := by
  unfold addF
  split
  · rename_i hb
    unfold addB at hb
    simp only [Bool.and_eq_true, Option.isNone_iff_eq_none, Bool.not_eq_true', beq_eq_false_iff_ne, ne_eq] at hb
    obtain ⟨h1, h2⟩ := hb
    have h1 := idx_none h1
    refine ⟨⟨fun i y hy => ?_, ?_, ?_⟩, fun i y hy => ?_⟩
    · dsimp only at hy
      rcases Nat.lt_or_ge i f.ps.length with hi | hi
      · rw [List.getElem?_append_left hi] at hy
        exact h.sq i y hy
      · rw [List.getElem?_append_right hi] at hy
        have h0 : i - f.ps.length = 0 := by
          rcases Nat.eq_zero_or_pos (i - f.ps.length) with h0 | h0
          · exact h0
          · rw [List.getElem?_eq_none (by rw [List.length_singleton]; omega)] at hy; cases hy
        rw [h0] at hy
        simp at hy
        subst hy
        show (f.ps.length : Int) + 1 = _
        omega
    · rw [List.map_append]
      refine List.nodup_append.2 ⟨h.ids, by simp, fun a ha b hb => ?_⟩
      simp at hb
      subst hb
      obtain ⟨y, hy, rfl⟩ := List.mem_map.1 ha
      exact h1 y hy
    · have := h.n
      simp only [List.length_append, List.length_singleton]
      omega
    · have hi := (List.getElem?_eq_some_iff.1 hy).1
      exact ⟨y, by show (f.ps ++ _)[i]? = _; rw [List.getElem?_append_left hi]; exact hy, rfl, rfl, id⟩
  · exact ⟨h, Pre.refl _⟩
theorem ingF_ok {f : Fd} (l : List It) (h : PsOk f.ps) : PsOk (ingF f l).1.ps ∧ Pre f.ps (ingF f l).1.ps := by
  unfold ingF
  have : ∀ (l : List It) (s : Fd × Nat), PsOk s.1.ps → PsOk (l.foldl ingS s).1.ps ∧ Pre s.1.ps (l.foldl ingS s).1.ps := by
    intro l
    induction l with
    | nil => intro s h; exact ⟨h, Pre.refl _⟩
    | cons x r ih =>
      intro s h
      obtain ⟨h1, h2⟩ := addF_ok x h
      obtain ⟨h3, h4⟩ := ih (ingS s x) h1
      exact ⟨h3, h2.trans h4⟩
  exact this l (f, 0) h
theorem markAt_get (ps : List Po) (i j : Nat) : (markAt ps i)[j]? = (ps[j]?).map fun x => if j = i then x.mark else x := by
  unfold markAt
  split
  · rename_i x hx
    rw [List.getElem?_set]
    by_cases h : i = j
    · subst h
      have := (List.getElem?_eq_some_iff.1 hx).1
      rw [if_pos rfl, if_pos this, hx]
      simp
    · rw [if_neg h]
      cases ps[j]? with
      | none => rfl
      | some y => simp only [Option.map_some]; rw [if_neg (fun e => h e.symm)]
  · rename_i hx
    cases hj : ps[j]? with
    | none => rfl
    | some y =>
      simp only [Option.map_some]
      rw [if_neg (fun e => by subst e; rw [hx] at hj; cases hj)]
theorem markAt_len (ps : List Po) (i : Nat) : (markAt ps i).length = ps.length := by
  unfold markAt
  split <;> simp
theorem mark_ok {ps : List Po} (i : Nat) (h : PsOk ps) : PsOk (markAt ps i) ∧ Pre ps (markAt ps i) := by
  have hl := markAt_len ps i
  have hm : (markAt ps i).map (·.it.id) = ps.map (·.it.id) := by
    apply List.ext_getElem?
    intro j
    rw [List.getElem?_map, markAt_get, List.getElem?_map, Option.map_map]
    congr 1
    funext x
    simp only [Function.comp]
    split <;> rfl
  refine ⟨⟨fun j y hy => ?_, by rw [hm]; exact h.ids, by rw [hl]; exact h.n⟩, fun j y hy => ?_⟩
  · rw [markAt_get] at hy
    cases hp : ps[j]? with
    | none => rw [hp] at hy; cases hy
    | some x =>
      rw [hp] at hy
      simp only [Option.map_some, Option.some.injEq] at hy
      have := h.sq j x hp
      subst hy
      split <;> exact this
  · refine ⟨_, by rw [markAt_get, hy]; rfl, ?_, ?_, ?_⟩
    · split <;> rfl
    · split <;> rfl
    · intro h1; split
      · rfl
      · exact h1
def SvOk (S : Sv) : Prop := ∀ k f, fnd S k = some f → PsOk f.ps
theorem PsOk.nil : PsOk [] := ⟨fun i x h => by simp at h, by simp, by simp⟩
theorem SvOk.nil : SvOk [] := fun k f h => by cases h
theorem D17_ok {S : Sv} (a : A17) (h : SvOk S) : SvOk (D17 S a).2.2.2 := by
  intro k f hf
  have hm := D17_made S a k
  rw [hf] at hm
  generalize ho : some f = o at hm
  cases hm with
  | same => exact h k f ho.symm
  | sub h1 h2 => cases ho; exact PsOk.nil
  | un h1 => cases ho
  | fail g h1 h2 => cases ho; exact h k g h2
  | mark g i h1 h2 h3 => cases ho; exact (mark_ok i (h k g h2)).1
  | ing g h1 h2 => cases ho; exact (ingF_ok a.its (h k g h2)).1
theorem run17_ok (l : List A17) : ∀ S, SvOk S → SvOk (run17 S l) := by
  induction l with
  | nil => intro S h; exact h
  | cons a r ih => intro S h; exact ih _ (D17_ok a h)
theorem D17_pre {S : Sv} (a : A17) (h : SvOk S) (hq : pkI a.op 10 ≠ 2) (k : List UInt8) : Pre (allS S k) (allS (D17 S a).2.2.2 k) := by
  unfold allS
  have hm := D17_made S a k
  generalize hf : fnd (D17 S a).2.2.2 k = o at hm
  cases hm with
  | same => exact Pre.refl _
  | sub h1 h2 => rw [h2]; exact Pre.refl _
  | un h1 h2 => exact absurd h2 hq
  | fail g h1 h2 => rw [h2]; exact Pre.refl _
  | mark g i h1 h2 h3 => rw [h2]; exact (mark_ok i (h k g h2)).2
  | ing g h1 h2 => rw [h2]; exact (ingF_ok a.its (h k g h2)).2
theorem allS_ok {S : Sv} (h : SvOk S) (k : List UInt8) : PsOk (allS S k) := by
  unfold allS
  cases hf : fnd S k with
  | none => exact PsOk.nil
  | some f => exact h k f hf
end Go.Proofs.Ytjfnkjpnjiobjaa
