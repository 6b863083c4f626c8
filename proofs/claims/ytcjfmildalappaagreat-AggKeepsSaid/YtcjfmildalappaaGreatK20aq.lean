/-
  What the laws of the chapters 19 and 23 lean on, part K20aq: contracts of the functions that they reach, and plain facts; each theorem bears its own conditions.
-/
import Derived.Test.YtcjfmildalappaaGreatK20ab
import Derived.Test.YtcjfmildalappaaGreatK20ap
set_option linter.unusedVariables false
set_option linter.unusedSimpArgs false
namespace Go.Proofs.YtcjfmildalappaaGreat
open Go.RowKit
section
variable {α : Type} (key : α → List UInt8)
/-- Where a key stands, or would stand. -/
def ixB (k : List UInt8) (l : List α) : Nat := (l.takeWhile fun a => decide (key a < k)).length
theorem find_at (k : List UInt8) (l : List α) (hs : l.Pairwise (fun a b => key a < key b)) : l.find? (fun a => key a == k) = match l[ixB key k l]? with
    | none => none
    | some a => if key a = k then some a else none := by
  induction l with
  | nil => rfl
  | cons a r ih =>
    have h1 := List.pairwise_cons.1 hs
    have ih := ih h1.2
    unfold ixB
    rw [List.takeWhile_cons, List.find?_cons]
    by_cases h : key a < k
    · have hne : (key a == k) = false := by
        have : key a ≠ k := fun e => by rw [e] at h; exact List.lt_irrefl k h
        simpa using this
      rw [if_pos (by simpa using h), hne]
      simpa [ixB] using ih
    · rw [if_neg (by simpa using h)]
      simp only [List.length_nil, List.getElem?_cons_zero]
      by_cases he : key a = k
      · rw [if_pos he, show (key a == k) = true from by simpa using he]
      · rw [if_neg he, show (key a == k) = false from by simpa using he]
        refine List.find?_eq_none.2 fun b hb => ?_
        have h2 : k < key a := lt_of_not h he
        have h3 := List.lt_trans h2 (h1.1 b hb)
        simp only [beq_iff_eq]
        intro e
        rw [e] at h3
        exact List.lt_irrefl k h3
theorem ixB_lt1 {k : List UInt8} {x : α} (r : List α) (h : key x < k) : ixB key k (x :: r) = ixB key k r + 1 := by
  unfold ixB
  rw [List.takeWhile_cons, if_pos (by simpa using h)]
  rfl
theorem ixB_ge1 {k : List UInt8} {x : α} (r : List α) (h : ¬ key x < k) : ixB key k (x :: r) = 0 := by
  unfold ixB
  rw [List.takeWhile_cons, if_neg (by simpa using h)]
  rfl
theorem ne_lt {a k : List UInt8} (h : a < k) : (a == k) = false := by
  have : a ≠ k := fun e => by rw [e] at h; exact List.lt_irrefl k h
  simpa using this
theorem ne_gt {a k : List UInt8} (h : k < a) : (a == k) = false := by
  have : a ≠ k := fun e => by rw [e] at h; exact List.lt_irrefl k h
  simpa using this
theorem putBy_at (k : List UInt8) (y : α) (l : List α) (hs : l.Pairwise (fun a b => key a < key b)) (a : α) (ha : l[ixB key k l]? = some a) (hk : key a = k) : putBy key k y l = l.set (ixB key k l) y := by
  induction l with
  | nil => simp at ha
  | cons x r ih =>
    have h1 := List.pairwise_cons.1 hs
    by_cases h : key x < k
    · rw [ixB_lt1 key r h] at ha ⊢
      have := ih h1.2 (by simpa using ha)
      show (x :: r).map _ = _
      rw [List.map_cons, ne_lt h]
      simp only [Bool.false_eq_true, if_false, List.set_cons_succ]
      exact congrArg _ this
    · rw [ixB_ge1 key r h] at ha ⊢
      simp at ha
      subst ha
      show (x :: r).map _ = _
      rw [List.map_cons, show (key x == k) = true from by simpa using hk]
      simp only [if_true, List.set_cons_zero]
      refine congrArg _ ?_
      refine (List.map_congr_left fun b hb => ?_).trans (List.map_id' r)
      have h3 := h1.1 b hb
      rw [hk] at h3
      rw [ne_gt h3]
      rfl
end
/-- A slice that nobody writes to. -/
structure RfS (w : World) (v : Value) (sz n : Nat) (xs : List Value) : Prop where
  sl : SlAt w w.heap.size v sz n xs
  nil : ∀ n c, v = .slice none n c → n = 0 ∧ c = 0
  one : ∀ u ∈ xs, u.oneCell' = true
theorem slat_keep {S : List Nat} {w w' : World} {B sz n : Nat} {v : Value} {xs : List Value} (h : SlAt w B v sz n xs) (hB : B ≤ w.heap.size) (ho : Only S w w') (hS : ∀ x, x ∈ S → v.ownBlock ≠ some x) : SlAt w' w'.heap.size v sz n xs := by
  obtain ⟨hl, A, c, hv, hnc, hc, h⟩ := h
  refine ⟨hl, A, c, hv, hnc, hc, fun hn => ?_⟩
  obtain ⟨b, o, hA, hb, hh⟩ := h hn
  subst hv
  subst hA
  exact ⟨b, o, rfl, Nat.lt_of_lt_of_le hb (Nat.le_trans hB ho.size), fun j u hu => (ho.cell (p := ⟨b, o + j, none⟩) (show b < _ by omega) (fun hm => hS b hm rfl)).trans (hh j u hu)⟩
theorem RfS.keep {S : List Nat} {w w' : World} {sz n : Nat} {v : Value} {xs : List Value} (h : RfS w v sz n xs) (ho : Only S w w') (hS : ∀ x, x ∈ S → v.ownBlock ≠ some x) : RfS w' v sz n xs :=
  ⟨slat_keep h.sl (Nat.le_refl _) ho hS, h.nil, h.one⟩
theorem RfS.only {w w' : World} {sz n : Nat} {v : Value} {xs : List Value} (h : RfS w v sz n xs) (ho : Only [] w w') : RfS w' v sz n xs := h.keep ho (by simp)
theorem RfS.shape {w : World} {sz n : Nat} {v : Value} {xs : List Value} (h : RfS w v sz n xs) : ∃ A c, v = .slice A n c ∧ n ≤ c ∧ c ≤ maxLen := by
  obtain ⟨_, A, c, hv, h1, h2, _⟩ := h.sl
  exact ⟨A, c, hv, h1, h2⟩
theorem RfS.of_own {w : World} {base : Nat} {e : TypeId} {sz n : Nat} {v : Value} {xs : List Value} (h : w.ownsRow base e sz v n xs) (h1 : ∀ u ∈ xs, u.oneCell' = true) : RfS w v sz n xs :=
  ⟨SlAt.of_own h, fun m c hv => by
    rcases h.2 with ⟨h2, _⟩ | ⟨g, cap, cur, h2, _⟩
    · rw [h2] at hv; injection hv with _ e1 e2; exact ⟨e1.symm, e2.symm⟩
    · rw [h2] at hv; injection hv with e1; (cases e1), h1⟩
/-- A slice from a place on. -/
theorem RfS.drop {w : World} {sz n c j : Nat} {A : Option Addr} {xs : List Value} (h : RfS w (.slice A n c) sz n xs) (hj : j ≤ n) : RfS w (.slice (if c = j then A else Option.map (fun x => x.add (j * sz)) A) (n - j) (c - j)) sz (n - j) (xs.drop (j * sz)) := by
  obtain ⟨hl, A', c', hv, hnc, hcm, hh⟩ := h.sl
  injection hv with e1 _ e3
  subst e1
  subst e3
  refine ⟨⟨by rw [List.length_drop, hl, Nat.sub_mul], _, _, rfl, by omega, by omega, fun hp => ?_⟩, ?_, fun u hu => h.one u (List.mem_of_mem_drop hu)⟩
  · have hjn : j < n := by
      rcases Nat.lt_or_ge j n with h | h
      · exact h
      · rw [Nat.sub_eq_zero_of_le h] at hp; omega
    obtain ⟨b, o, hb, hlt, hc⟩ := hh (Nat.lt_of_lt_of_le hp (Nat.mul_le_mul_right _ (Nat.sub_le _ _)))
    subst hb
    refine ⟨b, o + j * sz, by rw [if_neg (by omega)]; simp [Addr.add_lit], hlt, fun i u hu => ?_⟩
    rw [List.getElem?_drop] at hu
    rw [Nat.add_assoc]
    exact hc _ u hu
  · intro m k hv
    injection hv with e1 e2 e3
    cases A with
    | none =>
      obtain ⟨h1, h2⟩ := h.nil n c rfl
      exact ⟨by rw [← e2, h1]; simp, by rw [← e3, h2]; simp⟩
    | some a => split at e1 <;> simp at e1
/-- A slice up to a place. -/
theorem RfS.take {w : World} {sz n c m : Nat} {A : Option Addr} {xs : List Value} (h : RfS w (.slice A n c) sz n xs) (hm : m ≤ n) : RfS w (.slice A m c) sz m (xs.take (m * sz)) := by
  obtain ⟨hl, A', c', hv, hnc, hcm, hh⟩ := h.sl
  injection hv with e1 _ e3
  subst e1
  subst e3
  have hms : m * sz ≤ n * sz := Nat.mul_le_mul_right _ hm
  refine ⟨⟨by rw [List.length_take, hl]; omega, _, _, rfl, by omega, hcm, fun hp => ?_⟩, ?_, fun u hu => h.one u (List.mem_of_mem_take hu)⟩
  · obtain ⟨b, o, hb, hlt, hc⟩ := hh (by omega)
    refine ⟨b, o, hb, hlt, fun i u hu => ?_⟩
    have hi : i < m * sz := by have := (List.getElem?_eq_some_iff.1 hu).1; rw [List.length_take] at this; omega
    rw [List.getElem?_take_of_lt hi] at hu
    exact hc i u hu
  · intro k q hv
    injection hv with e1 e2 e3
    subst e1
    obtain ⟨h1, h2⟩ := h.nil n c rfl
    omega
/-- A feed of the document's, with its row of posts. -/
structure Rf where
  nm : List UInt8
  fd : Fd
  v : Value
def Rf.cells (t : Rf) : List Value := [.string ⟨t.nm.toArray⟩, .int .i64 t.fd.pol, .int .i64 t.fd.fai, t.v]
def rfL (T : List Rf) : List Value := T.flatMap Rf.cells
theorem rfL_get (l : List Rf) (i j : Nat) (x : Rf) (h : l[i]? = some x) (hj : j < 4) : (rfL l)[i * 4 + j]? = x.cells[j]? := flat_get Rf.cells 4 (fun _ => rfl) l i j x h hj
def pR (T : List Rf) : Sv := T.map fun t => (t.nm, t.fd)
def allR (b : Nat) (v : Value) (T : List Rf) : List Nat := b :: (rb v ++ T.flatMap fun t => rb t.v)
/-- What is true of a feed, wherever it is written. -/
structure FdG (f : Fd) : Prop where
  cap : f.ps.length ≤ 200
  nb : -1 ≤ f.pol ∧ f.pol ≤ 1099511627776 ∧ 0 ≤ f.fai ∧ f.fai ≤ 1000
structure RsX (w : World) (b : Nat) (v : Value) (T : List Rf) : Prop where
  cells : Cells w b 128 [v]
  row : w.ownsRow 0 142 4 v T.length (rfL T)
  ps : ∀ t ∈ T, RfS w t.v 5 t.fd.ps.length (poL t.fd.ps)
  pb : ∀ t ∈ T, ∀ g, t.v.ownBlock = some g → g < w.heap.size ∧ g ≠ b ∧ v.ownBlock ≠ some g
  srt : T.Pairwise (fun a b => a.nm < b.nm)
  cap : T.length ≤ 20
  nml : ∀ t ∈ T, nmL t.nm = true
  fg : ∀ t ∈ T, FdG t.fd
theorem mem_rb' {v : Value} {g : Nat} : g ∈ rb v ↔ v.ownBlock = some g := by unfold rb; simp
theorem RsX.vb {w : World} {b : Nat} {v : Value} {T : List Rf} (h : RsX w b v T) : v.ownBlock ≠ some b := own_ne_block h.row h.cells (by decide)
theorem RsX.lts {w : World} {b : Nat} {v : Value} {T : List Rf} (h : RsX w b v T) : ∀ x ∈ allR b v T, x < w.heap.size := by
  intro x hx
  unfold allR at hx
  rcases List.mem_cons.1 hx with rfl | hx
  · exact h.cells.lt
  · rcases List.mem_append.1 hx with hx | hx
    · exact (h.row.lt x (mem_rb'.1 hx)).2
    · obtain ⟨t, ht, hg⟩ := List.mem_flatMap.1 hx
      exact (h.pb t ht x (mem_rb'.1 hg)).1
theorem mem_allR {b : Nat} {v : Value} {T : List Rf} {t : Rf} (ht : t ∈ T) {g : Nat} (hg : t.v.ownBlock = some g) : g ∈ allR b v T := by
  unfold allR
  exact List.mem_cons_of_mem _ (List.mem_append_right _ (List.mem_flatMap.2 ⟨t, ht, mem_rb'.2 hg⟩))
theorem RsX.keep {S : List Nat} {w w' : World} {b : Nat} {v : Value} {T : List Rf} (h : RsX w b v T) (ho : Only S w w') (hS : ∀ x ∈ allR b v T, x ∉ S) : RsX w' b v T :=
  ⟨h.cells.only ho (hS b (by simp [allR])), own_keep h.row ho (fun x hx e => hS x (by unfold allR; exact List.mem_cons_of_mem _ (List.mem_append_left _ (mem_rb'.2 e))) hx), fun t ht => (h.ps t ht).keep ho (fun x hx e => hS x (mem_allR ht e) hx), fun t ht g hg => ⟨Nat.lt_of_lt_of_le (h.pb t ht g hg).1 ho.size, (h.pb t ht g hg).2⟩, h.srt, h.cap, h.nml, h.fg⟩
theorem RsX.only {w w' : World} {b : Nat} {v : Value} {T : List Rf} (h : RsX w b v T) (ho : Only [] w w') : RsX w' b v T := h.keep ho (by simp)
theorem RsX.at_ {w : World} {b : Nat} {v : Value} {T : List Rf} (h : RsX w b v T) {k : Nat} {t : Rf} (ht : T[k]? = some t) :
    ∃ g c, v = .slice (some ⟨g, 0, none⟩) T.length c ∧ g < w.heap.size ∧ w.cell? ⟨g, k * 4, none⟩ = some (.string ⟨t.nm.toArray⟩) ∧ w.cell? ⟨g, k * 4 + 1, none⟩ = some (.int .i64 t.fd.pol) ∧ w.cell? ⟨g, k * 4 + 2, none⟩ = some (.int .i64 t.fd.fai) ∧ w.cell? ⟨g, k * 4 + 3, none⟩ = some t.v := by
  obtain ⟨g, c, hv, _, hg, h0⟩ := own_cell h.row (rfL_get T k 0 t ht (by omega))
  obtain ⟨g1, c1, hv1, _, _, h1⟩ := own_cell h.row (rfL_get T k 1 t ht (by omega))
  obtain ⟨g2, c2, hv2, _, _, h2⟩ := own_cell h.row (rfL_get T k 2 t ht (by omega))
  obtain ⟨g3, c3, hv3, _, _, h3⟩ := own_cell h.row (rfL_get T k 3 t ht (by omega))
  rw [hv] at hv1 hv2 hv3
  injection hv1 with e1
  injection e1 with e1
  injection e1 with e1
  injection hv2 with e2
  injection e2 with e2
  injection e2 with e2
  injection hv3 with e3
  injection e3 with e3
  injection e3 with e3
  subst e1; subst e2; subst e3
  exact ⟨g, c, hv, hg, h0, h1, h2, h3⟩
def rT (T : List Rf) (k : List UInt8) : Option Rf := T.find? (fun t => t.nm == k)
def ixR (T : List Rf) (k : List UInt8) : Nat := ixB Rf.nm k T
end Go.Proofs.YtcjfmildalappaaGreat
namespace Go.Proofs.YtcjfmildalappaaGreat
open Go.RowKit
/-- What an operation on the document's store does to the world. -/
structure OpX (w w' : World) (b : Nat) (v v' : Value) (T T' : List Rf) : Prop where
  st : RsX w' b v' T'
  ho : Only (allR b v T) w w'
  new : ∀ x ∈ allR b v' T', x ∈ allR b v T ∨ w.heap.size ≤ x
theorem OpX.same {w w' : World} {b : Nat} {v : Value} {T : List Rf} (h : RsX w b v T) (ho : Only [] w w') : OpX w w' b v v T T := ⟨h.only ho, ho.of0, fun _ hx => .inl hx⟩
theorem Rf.one {T : List Rf} (h : ∀ t ∈ T, t.v.oneCell' = true) : ∀ u ∈ rfL T, u.oneCell' = true := by
  intro u hu
  obtain ⟨t, ht, hm⟩ := List.mem_flatMap.1 hu
  simp only [Rf.cells, List.mem_cons, List.not_mem_nil, or_false] at hm
  rcases hm with rfl | rfl | rfl | rfl
  · rfl
  · rfl
  · rfl
  · exact h t ht
theorem pR_len (T : List Rf) : (pR T).length = T.length := List.length_map _
end Go.Proofs.YtcjfmildalappaaGreat
namespace Go.Proofs.YtcjfmildalappaaGreat
open Go.RowKit
theorem rT_at {T : List Rf} {k : List UInt8} {t : Rf} (hs : T.Pairwise (fun a b => a.nm < b.nm)) (hf : rT T k = some t) : T[ixR T k]? = some t ∧ t.nm = k := by
  have hfa := find_at Rf.nm k T hs
  unfold rT at hf
  rw [hf] at hfa
  unfold ixR
  cases hx : T[ixB Rf.nm k T]? with
  | none => rw [hx] at hfa; cases hfa
  | some a =>
    rw [hx] at hfa
    dsimp only at hfa
    split at hfa
    · rename_i he; injection hfa with hfa; subst hfa; exact ⟨rfl, he⟩
    · cases hfa
/-- The row with one feed's three cells set. -/
def Rf.with (t : Rf) (f : Fd) (v : Value) : Rf := ⟨t.nm, f, v⟩
/-- A feed of the store is another now: in the row's block alone, and in new ones. -/
theorem RsX.put {w w' : World} {b g c : Nat} {T : List Rf} {k : List UInt8} {t : Rf} {f : Fd} {pv : Value} (h : RsX w b (.slice (some ⟨g, 0, none⟩) T.length c) T) (hf : rT T k = some t)
    (ho : Only [g] w w') (hrow : w'.ownsRow 0 142 4 (.slice (some ⟨g, 0, none⟩) T.length c) T.length (rfL (T.set (ixR T k) (t.with f pv))))
    (hp : RfS w' pv 5 f.ps.length (poL f.ps)) (hpb : ∀ q, pv.ownBlock = some q → t.v.ownBlock = some q ∨ (w.heap.size ≤ q ∧ q < w'.heap.size)) (hg : FdG f) :
    OpX w w' b (.slice (some ⟨g, 0, none⟩) T.length c) (.slice (some ⟨g, 0, none⟩) T.length c) T (T.set (ixR T k) (t.with f pv)) ∧ pR (T.set (ixR T k) (t.with f pv)) = putBy Prod.fst k (k, f) (pR T) := by
  obtain ⟨hat, hk⟩ := rT_at h.srt hf
  have hgl := (h.row.lt g rfl).2
  have hbg : b ≠ g := fun e => h.vb (by rw [e]; rfl)
  have hT : T.set (ixR T k) (t.with f pv) = putBy Rf.nm k (t.with f pv) T := (putBy_at Rf.nm k _ T h.srt t hat hk).symm
  have hmem : ∀ u ∈ T.set (ixR T k) (t.with f pv), u = t.with f pv ∨ u ∈ T := fun u hu => (List.mem_or_eq_of_mem_set hu).symm
  have htm := List.mem_of_getElem? hat
  have hpbt := h.pb t htm
  refine ⟨⟨⟨h.cells.only ho (by simpa using hbg), ?_, fun u hu => ?_, fun u hu q hq => ?_, ?_, ?_, fun u hu => ?_, fun u hu => ?_⟩, ?_, fun x hx => ?_⟩, ?_⟩
  · rw [List.length_set]; exact hrow
  · rcases hmem u hu with rfl | hu
    · exact hp
    · exact (h.ps u hu).keep ho (fun x hx e => by simp at hx; subst hx; exact (h.pb u hu x e).2.2 rfl)
  · rcases hmem u hu with rfl | hu
    · rcases hpb q hq with h1 | ⟨h1, h2⟩
      · have := hpbt q h1
        exact ⟨Nat.lt_of_lt_of_le this.1 ho.size, this.2.1, this.2.2⟩
      · have := h.cells.lt
        refine ⟨h2, by omega, fun e => ?_⟩
        simp only [Value.ownBlock, Option.some.injEq] at e
        omega
    · have := h.pb u hu q hq
      exact ⟨Nat.lt_of_lt_of_le this.1 ho.size, this.2.1, this.2.2⟩
  · rw [hT, sorted_keys Rf.nm, putBy_keys Rf.nm k (t.with f pv) T hk, ← sorted_keys]; exact h.srt
  · rw [List.length_set]; exact h.cap
  · rcases hmem u hu with rfl | hu
    · exact h.nml t htm
    · exact h.nml u hu
  · rcases hmem u hu with rfl | hu
    · exact hg
    · exact h.fg u hu
  · exact ho.mono (fun x hx => .inl (by simp at hx; subst hx; simp [allR, rb, Value.ownBlock]))
  · unfold allR at hx
    rcases List.mem_cons.1 hx with rfl | hx
    · left; simp [allR]
    · rcases List.mem_append.1 hx with hx | hx
      · left
        unfold allR
        exact List.mem_cons_of_mem _ (List.mem_append_left _ (by simpa [rb, Value.ownBlock] using hx))
      · obtain ⟨u, hu, hq⟩ := List.mem_flatMap.1 hx
        rcases hmem u hu with rfl | hu
        · rcases hpb x (mem_rb'.1 hq) with h1 | ⟨h1, _⟩
          · exact .inl (mem_allR htm h1)
          · exact .inr h1
        · exact .inl (mem_allR hu (mem_rb'.1 hq))
  · rw [hT]
    unfold pR
    rw [putBy_map Rf.nm (fun t => (t.nm, t.fd)) Prod.fst (fun _ => rfl)]
    rw [show (t.with f pv).nm = k from hk]
    rfl
end Go.Proofs.YtcjfmildalappaaGreat
namespace Go.Proofs.YtcjfmildalappaaGreat
open Go.RowKit
def Rs (w : World) (b : Nat) (K : List Nat) (S : Sv) : Prop := ∃ v T, RsX w b v T ∧ K = allR b v T ∧ S = pR T
theorem Rs.keep {X : List Nat} {w w' : World} {b : Nat} {K : List Nat} {S : Sv} (h : Rs w b K S) (ho : Only X w w') (hX : ∀ k ∈ K, k ∉ X) : Rs w' b K S := by
  obtain ⟨v, T, h1, rfl, rfl⟩ := h
  exact ⟨v, T, h1.keep ho hX, rfl, rfl⟩
theorem Rs.bw {w : World} {b : Nat} {K : List Nat} {S : Sv} (h : Rs w b K S) : ∀ x ∈ K, x < w.heap.size := by
  obtain ⟨v, T, h, rfl, rfl⟩ := h
  exact h.lts
theorem Rs.sorted {w : World} {b : Nat} {K : List Nat} {S : Sv} (h : Rs w b K S) : S.Pairwise (fun a b => a.1 < b.1) ∧ S.length ≤ 20 ∧ ∀ x ∈ S, nmL x.1 = true := by
  obtain ⟨v, T, h, rfl, rfl⟩ := h
  refine ⟨List.pairwise_map.2 h.srt, by rw [pR_len]; exact h.cap, fun x hx => ?_⟩
  obtain ⟨t, ht, rfl⟩ := List.mem_map.1 hx
  exact h.nml t ht
/-- Where a feed's cells lie. -/
structure At17 (w : World) (b : Nat) (n k : Nat) (x : List UInt8 × Fd) : Prop where
  ex : ∃ g c, w.cell? ⟨b, 0, none⟩ = some (.slice (some ⟨g, 0, none⟩) n c) ∧ w.cell? ⟨g, k * 4, none⟩ = some (.string ⟨x.1.toArray⟩) ∧ w.cell? ⟨g, k * 4 + 1, none⟩ = some (.int .i64 x.2.pol) ∧ w.cell? ⟨g, k * 4 + 2, none⟩ = some (.int .i64 x.2.fai)
theorem Rs.head {w : World} {b : Nat} {K : List Nat} {S : Sv} (h : Rs w b K S) : ∃ A c, w.cell? ⟨b, 0, none⟩ = some (.slice A S.length c) := by
  obtain ⟨v, T, h, rfl, rfl⟩ := h
  obtain ⟨A, c, rfl⟩ := (SlAt.of_own h.row).shape
  exact ⟨A, c, by rw [pR_len]; exact h.cells.cell (k := 0) rfl⟩
theorem Rs.at_ {w : World} {b : Nat} {K : List Nat} {S : Sv} (h : Rs w b K S) {k : Nat} {x : List UInt8 × Fd} (hx : S[k]? = some x) : At17 w b S.length k x := by
  obtain ⟨v, T, h, rfl, rfl⟩ := h
  unfold pR at hx
  rw [List.getElem?_map] at hx
  cases ht : T[k]? with
  | none => rw [ht] at hx; cases hx
  | some t =>
    rw [ht] at hx
    simp only [Option.map_some, Option.some.injEq] at hx
    subst hx
    obtain ⟨g, c, rfl, _, h0, h1, h2, _⟩ := h.at_ ht
    exact ⟨g, c, by rw [pR_len]; exact h.cells.cell (k := 0) rfl, h0, h1, h2⟩
end Go.Proofs.YtcjfmildalappaaGreat
