/-
  Chapter 8: what a match does, in plain words.
-/
import Derived.Test.YtagklgodcbmcaaaR8r
namespace Go.Proofs.Ytagklgodcbmcaaa
open Go.RowKit
def LG.skip (g : LG) (fixed p : Int) (y : En) : Prop := p ≤ fixed ∨ (g.term p).2 = true ∧ (g.term p).1 = y.tm
theorem matchGo_all (g : LG) (index fixed : Int) : ∀ (r : List En) (k : Nat), (∀ (i : Nat) y, r[i]? = some y → g.skip fixed (index + 1 + ((k + i : Nat) : Int)) y) → g.matchGo index fixed k r = (g, 0)
  | [], _, _ => rfl
  | e :: r, k, h => by
    unfold LG.matchGo
    rw [if_pos (by have := h 0 e rfl; simpa [LG.skip] using this)]
    exact matchGo_all g index fixed r (k + 1) fun i y hy => by
      have := h (i + 1) y (by simpa using hy)
      rwa [show k + (i + 1) = k + 1 + i from by omega] at this
theorem matchGo_cut (g : LG) (index fixed : Int) : ∀ (r : List En) (k : Nat), (∀ (i : Nat) y, r[i]? = some y → g.skip fixed (index + 1 + ((k + i : Nat) : Int)) y) ∨
    ∃ (j : Nat) (z : En), r[j]? = some z ∧ ¬ g.skip fixed (index + 1 + ((k + j : Nat) : Int)) z ∧ (∀ (i : Nat) y, i < j → r[i]? = some y → g.skip fixed (index + 1 + ((k + i : Nat) : Int)) y) ∧
      g.matchGo index fixed k r = ((⟨g.b, g.l.take (index + 1 + ((k + j : Nat) : Int) - g.b.ix - 1).toNat⟩ : LG).addAll (r.drop j), index + 1 + ((k + j : Nat) : Int))
  | [], _ => .inl fun i y h => by simp at h
  | e :: r, k => by
    by_cases hs : g.skip fixed (index + 1 + (k : Int)) e
    · have hgo : g.matchGo index fixed k (e :: r) = g.matchGo index fixed (k + 1) r := by
        conv => lhs; unfold LG.matchGo
        rw [if_pos (by simpa [LG.skip] using hs)]
      rcases matchGo_cut g index fixed r (k + 1) with h | ⟨j, z, h1, h2, h3, h4⟩
      · left
        intro i y hy
        cases i with
        | zero => simp at hy; subst hy; simpa using hs
        | succ i => have := h i y (by simpa using hy); rwa [show k + 1 + i = k + (i + 1) from by omega] at this
      · right
        refine ⟨j + 1, z, by simpa using h1, ?_, ?_, ?_⟩
        · rwa [show k + (j + 1) = k + 1 + j from by omega]
        · intro i y hi hy
          cases i with
          | zero => simp at hy; subst hy; simpa using hs
          | succ i => have := h3 i y (by omega) (by simpa using hy); rwa [show k + 1 + i = k + (i + 1) from by omega] at this
        · rw [hgo, h4, show k + (j + 1) = k + 1 + j from by omega]; rfl
    · right
      refine ⟨0, e, rfl, by simpa using hs, fun i y hi => by omega, ?_⟩
      unfold LG.matchGo
      rw [if_neg (by simpa [LG.skip] using hs)]
      rfl
theorem addAll_ix : ∀ (l : List En) (g : LG), (∀ (i : Nat) y, l[i]? = some y → y.ix = g.last + 1 + (i : Int)) → g.addAll l = ⟨g.b, g.l ++ l⟩
  | [], g, _ => by simp [LG.addAll]
  | e :: r, g, h => by
    have he : g.new e.tm e.kd e.d = e := by
      have := h 0 e rfl
      unfold LG.new
      rw [show g.last + 1 = e.ix from by rw [this]; simp]
    have := addAll_ix r ⟨g.b, g.l ++ [e]⟩ fun i y hy => by
      have := h (i + 1) y (by simpa using hy)
      rw [this]
      unfold LG.last
      simp
      omega
    unfold LG.addAll at this ⊢
    rw [List.foldl_cons, he, this]
    simp
theorem term_pos (x : Bas) (l : List En) (j : Nat) (y : En) (h : l[j]? = some y) : (⟨x, l⟩ : LG).term (x.ix + 1 + (j : Int)) = (y.tm, true) := by
  have hj := (List.getElem?_eq_some_iff.1 h).1
  unfold LG.term LG.last
  dsimp only
  rw [if_neg (by omega), if_neg (by omega), show (x.ix + 1 + (j : Int) - x.ix - 1).toNat = j from by omega, h]
theorem term_pos_iff (x : Bas) (l : List En) (j : Nat) (h : ((⟨x, l⟩ : LG).term (x.ix + 1 + (j : Int))).2 = true) : ∃ y, l[j]? = some y := by
  have := LG.term_ok h
  unfold LG.last at this
  dsimp only at this
  exact ⟨_, List.getElem?_eq_getElem (show j < l.length by omega)⟩
/-- The term of an Index lies in what stands up to it. -/
theorem term_take (x : Bas) (l l' : List En) (n : Nat) (h : l.take n = l'.take n) (hn : n ≤ l.length) (hn' : n ≤ l'.length) : (⟨x, l⟩ : LG).term (x.ix + (n : Int)) = (⟨x, l'⟩ : LG).term (x.ix + (n : Int)) := by
  cases n with
  | zero =>
    unfold LG.term LG.last
    dsimp only
    rw [if_neg (by omega), if_pos (by omega), if_neg (by omega), if_pos (by omega)]
  | succ n =>
    obtain ⟨y, hy⟩ : ∃ y, l[n]? = some y := ⟨_, List.getElem?_eq_getElem (by omega)⟩
    have hy' : l'[n]? = some y := by
      have := congrArg (fun q : List En => q[n]?) h
      simp only [List.getElem?_take_of_lt (Nat.lt_succ_self n)] at this
      rw [← this]; exact hy
    rw [show x.ix + ((n + 1 : Nat) : Int) = x.ix + 1 + (n : Int) from by omega, term_pos x l n y hy, term_pos x l' n y hy']
theorem match_spec (x : Bas) (l e : List En) (n1 n2 : Nat) (tm : Int) (h0 : 0 ≤ x.ix) (hix : ∀ (j : Nat) y, l[j]? = some y → y.ix = x.ix + 1 + (j : Int)) (hex : ∀ (j : Nat) y, e[j]? = some y → y.ix = x.ix + (n1 : Int) + 1 + (j : Int)) (h2 : n2 ≤ l.length) :
    ∃ (l' : List En) (xx yy : Int) (ok : Bool), (⟨x, l⟩ : LG).matchR (x.ix + n1) tm (x.ix + n2) e = ⟨⟨x, l'⟩, xx, yy, ok⟩ ∧
      ((ok = false ∧ l' = l ∧ yy = 0 ∧ xx < x.ix + (n1 : Int)) ∨
       (ok = true ∧ xx = x.ix + (n1 : Int) + (e.length : Int) ∧ 0 ≤ yy ∧ (yy = 0 → l' = l) ∧ n1 ≤ l.length ∧ l'.length ≤ l.length + e.length ∧ n2 ≤ l'.length ∧
        (∀ (i : Nat) y, e[i]? = some y → n2 < n1 + 1 + i → ∃ s, l'[n1 + i]? = some s ∧ s.tm = y.tm ∧ (0 < yy → yy ≤ y.ix → s = y)) ∧
        (∀ (i : Nat) a, l[i]? = some a → i < l'.length → (yy = 0 ∨ a.ix < yy) → l'[i]? = some a) ∧
        (⟨x, l'⟩ : LG).matchR (x.ix + n1) tm (x.ix + n2) e = ⟨⟨x, l'⟩, xx, 0, true⟩)) := by
  by_cases hlast : (⟨x, l⟩ : LG).last < x.ix + (n1 : Int)
  · refine ⟨l, (⟨x, l⟩ : LG).last, 0, false, ?_, .inl ⟨rfl, rfl, rfl, hlast⟩⟩
    unfold LG.matchR
    rw [if_pos hlast]
  by_cases htm : x.ix + (n2 : Int) < x.ix + (n1 : Int) ∧ ((⟨x, l⟩ : LG).term (x.ix + (n1 : Int))).1 ≠ tm
  · refine ⟨l, x.ix + (n1 : Int) - 1, 0, false, ?_, .inl ⟨rfl, rfl, rfl, by omega⟩⟩
    unfold LG.matchR
    rw [if_neg hlast, if_pos htm]
  have hn1 : n1 ≤ l.length := by unfold LG.last at hlast; dsimp only at hlast; omega
  have hR : (⟨x, l⟩ : LG).matchR (x.ix + n1) tm (x.ix + n2) e = ⟨((⟨x, l⟩ : LG).matchGo (x.ix + n1) (x.ix + n2) 0 e).1, x.ix + n1 + (e.length : Int), ((⟨x, l⟩ : LG).matchGo (x.ix + n1) (x.ix + n2) 0 e).2, true⟩ := by
    unfold LG.matchR
    rw [if_neg hlast, if_neg htm]
  -- what is skipped has its term there
  have hskip : ∀ (i : Nat) y, (⟨x, l⟩ : LG).skip (x.ix + n2) (x.ix + (n1 : Int) + 1 + ((0 + i : Nat) : Int)) y → n2 < n1 + 1 + i → ∃ s, l[n1 + i]? = some s ∧ s.tm = y.tm := by
    intro i y hs hlt
    rcases hs with hs | ⟨h1, h3⟩
    · omega
    · rw [show x.ix + (n1 : Int) + 1 + ((0 + i : Nat) : Int) = x.ix + 1 + ((n1 + i : Nat) : Int) from by omega] at h1 h3
      obtain ⟨s, hs⟩ := term_pos_iff x l _ h1
      rw [term_pos x l _ s hs] at h3
      exact ⟨s, hs, h3⟩
  rcases matchGo_cut ⟨x, l⟩ (x.ix + n1) (x.ix + n2) e 0 with hall | ⟨j, z, hz, hnz, hbef, hgo⟩
  · have hgo := matchGo_all ⟨x, l⟩ (x.ix + n1) (x.ix + n2) e 0 hall
    rw [hgo] at hR
    refine ⟨l, _, 0, true, hR, .inr ⟨rfl, rfl, by omega, fun _ => rfl, hn1, by omega, h2, ?_, ?_, hR⟩⟩
    · intro i y hy hlt
      obtain ⟨s, h1, h3⟩ := hskip i y (hall i y hy) hlt
      exact ⟨s, h1, h3, fun h => by omega⟩
    · exact fun i a ha _ _ => ha
  · have hj := (List.getElem?_eq_some_iff.1 hz).1
    have hpos : n2 < n1 + 1 + j := by
      have : ¬ (x.ix + (n1 : Int) + 1 + ((0 + j : Nat) : Int) ≤ x.ix + (n2 : Int)) := fun h => hnz (.inl h)
      omega
    have hnj : n1 + j ≤ l.length := by
      cases j with
      | zero => omega
      | succ j =>
        obtain ⟨y, hy⟩ : ∃ y, e[j]? = some y := ⟨_, List.getElem?_eq_getElem (by omega)⟩
        by_cases hlt : n2 < n1 + 1 + j
        · obtain ⟨s, h1, _⟩ := hskip j y (hbef j y (by omega) hy) hlt
          have := (List.getElem?_eq_some_iff.1 h1).1
          omega
        · omega
    have htn : (x.ix + (n1 : Int) + 1 + ((0 + j : Nat) : Int) - x.ix - 1).toNat = n1 + j := by omega
    have hadd : (⟨x, l.take (n1 + j)⟩ : LG).addAll (e.drop j) = ⟨x, l.take (n1 + j) ++ e.drop j⟩ := addAll_ix _ _ fun i y hy => by
      rw [List.getElem?_drop] at hy
      have := hex _ _ hy
      unfold LG.last
      rw [List.length_take, Nat.min_eq_left hnj, this]
      dsimp only
      omega
    dsimp only at hgo
    rw [htn, hadd] at hgo
    rw [hgo] at hR
    have hlen : (l.take (n1 + j) ++ e.drop j).length = n1 + e.length := by
      rw [List.length_append, List.length_take, Nat.min_eq_left hnj, List.length_drop]; omega
    have hlow : ∀ i, i < n1 + j → (l.take (n1 + j) ++ e.drop j)[i]? = l[i]? := fun i hi => by
      rw [List.getElem?_append_left (by rw [List.length_take]; omega), List.getElem?_take_of_lt hi]
    have hhigh : ∀ i, j ≤ i → (l.take (n1 + j) ++ e.drop j)[n1 + i]? = e[i]? := fun i hi => by
      rw [List.getElem?_append_right (by rw [List.length_take]; omega), List.length_take, Nat.min_eq_left hnj, List.getElem?_drop, show j + (n1 + i - (n1 + j)) = i from by omega]
    have hterm : ∀ (i : Nat) y, e[i]? = some y → n2 < n1 + 1 + i → ∃ s, (l.take (n1 + j) ++ e.drop j)[n1 + i]? = some s ∧ s.tm = y.tm ∧ (j ≤ i → s = y) := by
      intro i y hy hlt
      by_cases hij : i < j
      · obtain ⟨s, h1, h3⟩ := hskip i y (hbef i y hij hy) hlt
        exact ⟨s, by rw [hlow _ (by omega)]; exact h1, h3, fun h => by omega⟩
      · exact ⟨y, by rw [hhigh i (by omega)]; exact hy, rfl, fun _ => rfl⟩
    refine ⟨l.take (n1 + j) ++ e.drop j, _, _, true, hR, .inr ⟨rfl, rfl, by omega, fun h => by omega, hn1, by rw [hlen]; omega, by rw [hlen]; omega, ?_, ?_, ?_⟩⟩
    · intro i y hy hlt
      obtain ⟨s, h1, h3, h4⟩ := hterm i y hy hlt
      refine ⟨s, h1, h3, fun _ hle => h4 ?_⟩
      rw [hex i y hy] at hle
      omega
    · intro i a ha _ hor
      have hai := hix i a ha
      rcases hor with hor | hor
      · omega
      · rw [hlow i (by omega)]; exact ha
    · have hT : (⟨x, l.take (n1 + j) ++ e.drop j⟩ : LG).term (x.ix + (n1 : Int)) = (⟨x, l⟩ : LG).term (x.ix + (n1 : Int)) := by
        refine term_take x _ _ n1 ?_ (by rw [hlen]; omega) hn1
        rw [List.take_append_of_le_length (by rw [List.length_take]; omega), List.take_take, Nat.min_eq_left (by omega)]
      have hG := matchGo_all ⟨x, l.take (n1 + j) ++ e.drop j⟩ (x.ix + n1) (x.ix + n2) e 0 fun i y hy => by
        by_cases hlt : n2 < n1 + 1 + i
        · obtain ⟨s, h1, h3, _⟩ := hterm i y hy hlt
          right
          rw [show x.ix + (n1 : Int) + 1 + ((0 + i : Nat) : Int) = x.ix + 1 + ((n1 + i : Nat) : Int) from by omega, term_pos x _ _ s h1]
          exact ⟨rfl, h3⟩
        · left; omega
      unfold LG.matchR
      rw [if_neg (by unfold LG.last; dsimp only; rw [hlen]; omega), hT, if_neg htm, hG]
end Go.Proofs.Ytagklgodcbmcaaa
