/-
  What StoreReads leans on, part 4: contracts of the functions that it reaches, and plain facts; each theorem bears its own conditions.
-/
import Derived.WideKeyEntry
import Derived.StringKeys
import Derived.Laws.Tables
import Derived.Laws.Rows
import Derived.Test.YtjfnkjpnjiobjaaGreatStoreReadsC
namespace Go.Proofs.YtjfnkjpnjiobjaaGreat
open Go.RowKit
/-- The next post of a row: none, if it may not be. -/
def rdPo (ps : List Po) (s : List UInt8) : Option (List Po × List UInt8) :=
  match rdT s with
  | none => none
  | some (a, s1) => match rdT s1 with
    | none => none
    | some (b, s2) => match rdT s2 with
      | none => none
      | some (c, s3) => match rdB s3 with
        | none => none
        | some (q, s4) => if itR ⟨a, b, c⟩ = true ∧ idx ps a = none then some (ps ++ [⟨(ps.length : Int) + 1, ⟨a, b, c⟩, q⟩], s4) else none
def rdPs : Nat → List Po → List UInt8 → Option (List Po × List UInt8)
  | 0, ps, s => some (ps, s)
  | n + 1, ps, s => match rdPo ps s with
    | none => none
    | some (qs, t) => rdPs n qs t
def okHd (nm : List UInt8) (pol fai n : Int) : Bool := nmL nm && decide (-1 ≤ pol) && decide (pol ≤ 1099511627776) && decide (0 ≤ fai) && decide (fai ≤ 1000) && decide (0 ≤ n) && decide (n ≤ 200) && !(pol == -1 && decide (0 < fai + n))
/-- A feed's name and numbers. -/
def rdHd (s : List UInt8) : Option ((List UInt8 × Int × Int × Int) × List UInt8) :=
  match rdT s with
  | none => none
  | some (nm, s1) => match rdI s1 with
    | none => none
    | some (pol, s2) => match rdI s2 with
      | none => none
      | some (fai, s3) => match rdI s3 with
        | none => none
        | some (n, s4) => if okHd nm pol fai n = true then some ((nm, pol, fai, n), s4) else none
def rdFd (s : List UInt8) : Option ((List UInt8 × Fd) × List UInt8) :=
  match rdHd s with
  | none => none
  | some ((nm, pol, fai, n), t) => match rdPs n.toNat [] t with
    | none => none
    | some (ps, u) => some ((nm, ⟨pol, fai, ps⟩), u)
def lastN (S : Sv) : List UInt8 := (S.getLast?.map (·.1)).getD []
def rdFs : Nat → Sv → List UInt8 → Option (Sv × List UInt8)
  | 0, S, s => some (S, s)
  | n + 1, S, s => match rdFd s with
    | none => none
    | some (x, t) => if lastN S < x.1 then rdFs n (S ++ [x]) t else none
def unSt (s : List UInt8) : Option Sv :=
  match rdI s with
  | none => none
  | some (n, t) => if 0 ≤ n ∧ n ≤ 20 then (match rdFs n.toNat [] t with
    | none => none
    | some (S, u) => if u = [] then some S else none) else none
/-- What a feed is, whatever was done; never polled, it has nothing. -/
structure FdJ (f : Fd) : Prop where
  i : FdI f
  z : f.pol = -1 → f.fai = 0 ∧ f.ps = []
structure SvJ (S : Sv) : Prop where
  all : ∀ x ∈ S, FdJ x.2 ∧ nmL x.1 = true
  srt : S.Pairwise (fun a b => a.1 < b.1)
  n : S.length ≤ 20
theorem rdPo_len {ps qs : List Po} {s t : List UInt8} (h : rdPo ps s = some (qs, t)) : t.length ≤ s.length ∧ qs.length = ps.length + 1 := by
  unfold rdPo at h
  split at h
  · cases h
  · rename_i a s1 h1
    split at h
    · cases h
    · rename_i b s2 h2
      split at h
      · cases h
      · rename_i c s3 h3
        split at h
        · cases h
        · rename_i q s4 h4
          split at h
          · simp only [Option.some.injEq, Prod.mk.injEq] at h
            obtain ⟨rfl, rfl⟩ := h
            have e1 := rdT_len h1
            have e2 := rdT_len h2
            have e3 := rdT_len h3
            have e4 := rdB_len h4
            exact ⟨by omega, by simp⟩
          · cases h
theorem rdPo_iff (ps qs : List Po) (s t : List UInt8) (hs : s.length ≤ 1000000000000) : rdPo ps s = some (qs, t) ↔ ∃ x q, itR x = true ∧ idx ps x.id = none ∧ qs = ps ++ [⟨(ps.length : Int) + 1, x, q⟩] ∧ s = itT x ++ bb q ++ t ∧ x.id.length ≤ 1000000000000 ∧ x.ti.length ≤ 1000000000000 ∧ x.li.length ≤ 1000000000000 := by
  constructor
  · intro h
    unfold rdPo at h
    split at h
    · cases h
    · rename_i a s1 h1
      split at h
      · cases h
      · rename_i b s2 h2
        split at h
        · cases h
        · rename_i c s3 h3
          split at h
          · cases h
          · rename_i q s4 h4
            split at h
            · rename_i hc
              simp only [Option.some.injEq, Prod.mk.injEq] at h
              obtain ⟨rfl, rfl⟩ := h
              have e1 := rdT_len h1
              have e2 := rdT_len h2
              have l1 := rdT_short h1
              have l2 := rdT_short h2
              have l3 := rdT_short h3
              rw [rdT_iff _ _ _ (by omega)] at h1
              rw [rdT_iff _ _ _ (by omega)] at h2
              rw [rdT_iff _ _ _ (by omega)] at h3
              rw [rdB_iff] at h4
              refine ⟨⟨a, b, c⟩, q, hc.1, hc.2, rfl, ?_, by show a.length ≤ _; omega, by show b.length ≤ _; omega, by show c.length ≤ _; omega⟩
              unfold itT
              rw [h1, h2, h3, h4]
              simp only [List.append_assoc]
            · cases h
  · rintro ⟨⟨a, b, c⟩, q, h1, h2, rfl, rfl, l1, l2, l3⟩
    dsimp only at l1 l2 l3 h2
    unfold rdPo itT
    dsimp only
    have e1 : rdT (tb a ++ (tb b ++ tb c) ++ bb q ++ t) = some (a, tb b ++ (tb c ++ (bb q ++ t))) := (rdT_iff _ _ _ l1).2 (by simp only [List.append_assoc])
    have e2 : rdT (tb b ++ (tb c ++ (bb q ++ t))) = some (b, tb c ++ (bb q ++ t)) := (rdT_iff _ _ _ l2).2 rfl
    have e3 : rdT (tb c ++ (bb q ++ t)) = some (c, bb q ++ t) := (rdT_iff _ _ _ l3).2 rfl
    have e4 : rdB (bb q ++ t) = some (q, t) := (rdB_iff _ _ _).2 rfl
    rw [e1]
    dsimp only
    rw [e2]
    dsimp only
    rw [e3]
    dsimp only
    rw [e4]
    dsimp only
    rw [if_pos ⟨h1, h2⟩]
/-- Posts that follow ps in a row. -/
def After (ps : List Po) : List Po → Prop
  | [] => True
  | p :: r => itR p.it = true ∧ idx ps p.it.id = none ∧ p.sq = (ps.length : Int) + 1 ∧ After (ps ++ [p]) r
theorem rdPs_iff (n : Nat) : ∀ (ps qs : List Po) (s t : List UInt8), s.length ≤ 1000000000000 → (rdPs n ps s = some (qs, t) ↔ ∃ m, qs = ps ++ m ∧ m.length = n ∧ After ps m ∧ s = psB m ++ t) := by
  induction n with
  | zero =>
    intro ps qs s t hs
    unfold rdPs
    constructor
    · intro h
      simp only [Option.some.injEq, Prod.mk.injEq] at h
      obtain ⟨rfl, rfl⟩ := h
      exact ⟨[], by simp, rfl, trivial, rfl⟩
    · rintro ⟨m, rfl, hm, _, rfl⟩
      have : m = [] := List.length_eq_zero_iff.1 hm
      subst this
      simp [psB]
  | succ n ih =>
    intro ps qs s t hs
    unfold rdPs
    constructor
    · intro h
      split at h
      · cases h
      · rename_i qs1 t1 h1
        have hl := rdPo_len h1
        obtain ⟨x, q, a1, a2, rfl, rfl, _⟩ := (rdPo_iff _ _ _ _ hs).1 h1
        obtain ⟨m, rfl, hm, hA, rfl⟩ := (ih _ _ _ _ (by omega)).1 h
        refine ⟨⟨(ps.length : Int) + 1, x, q⟩ :: m, by simp, by simp [hm], ⟨a1, a2, rfl, hA⟩, ?_⟩
        unfold psB
        rw [List.flatMap_cons]
        simp [spB]
    · rintro ⟨m, rfl, hm, hA, rfl⟩
      cases m with
      | nil => simp at hm
      | cons p r =>
        obtain ⟨b1, b2, b3, b4⟩ := hA
        obtain ⟨sq, x, q⟩ := p
        dsimp only at b1 b2 b3
        subst b3
        have hsh := itR_sh b1
        have l1 := hsh.id
        have l2 := hsh.ti
        have l3 := hsh.li
        have e1 : psB (⟨(ps.length : Int) + 1, x, q⟩ :: r) ++ t = itT x ++ bb q ++ (psB r ++ t) := by
          unfold psB
          rw [List.flatMap_cons]
          simp [spB]
        rw [e1] at hs ⊢
        have h1 := (rdPo_iff ps (ps ++ [⟨(ps.length : Int) + 1, x, q⟩]) _ (psB r ++ t) hs).2 ⟨x, q, b1, b2, rfl, rfl, by omega, by omega, by omega⟩
        rw [h1]
        dsimp only
        refine (ih _ _ _ _ ?_).2 ⟨r, by simp, by simpa using hm, b4, rfl⟩
        rw [List.length_append] at hs
        omega
theorem idx_no {ps : List Po} {k : List UInt8} (h : ∀ y ∈ ps, y.it.id ≠ k) : idx ps k = none := by
  unfold idx
  refine List.findIdx?_eq_none_iff.2 fun y hy => ?_
  simpa using h y hy
theorem after_ok17 : ∀ (m ps : List Po), PsOk ps → (∀ p ∈ ps, itR p.it = true) → (ps ++ m).length ≤ 200 → (After ps m ↔ PsOk (ps ++ m) ∧ ∀ p ∈ ps ++ m, itR p.it = true)
  | [], ps, h1, h2, _ => by simp [After, h1]; exact h2
  | p :: r, ps, h1, h2, hl => by
    constructor
    · rintro ⟨a1, a2, a3, a4⟩
      have hp : PsOk (ps ++ [p]) := by
        refine ⟨fun i x hx => ?_, ?_, ?_⟩
        · rcases Nat.lt_or_ge i ps.length with hi | hi
          · rw [List.getElem?_append_left hi] at hx; exact h1.sq i x hx
          · rw [List.getElem?_append_right hi] at hx
            have h0 : i - ps.length = 0 := by
              have := (List.getElem?_eq_some_iff.1 hx).1
              simp at this
              omega
            rw [h0] at hx
            simp at hx
            subst hx
            rw [a3]; omega
        · rw [List.map_append]
          refine List.nodup_append.2 ⟨h1.ids, by simp, fun a ha b hb => ?_⟩
          simp at hb
          subst hb
          obtain ⟨y, hy, rfl⟩ := List.mem_map.1 ha
          exact idx_none a2 y hy
        · rw [List.length_append] at hl ⊢
          simp at hl ⊢
          omega
      have := (after_ok17 r (ps ++ [p]) hp (fun q hq => by
        rcases List.mem_append.1 hq with hq | hq
        · exact h2 q hq
        · obtain rfl := List.mem_singleton.1 hq; exact a1) (by simpa using hl)).1 a4
      simpa using this
    · rintro ⟨b1, b2⟩
      have hp1 : (ps ++ p :: r)[ps.length]? = some p := by rw [List.getElem?_append_right (Nat.le_refl _)]; simp
      have hsq := b1.sq ps.length p hp1
      have hid : idx ps p.it.id = none := by
        refine idx_no fun y hy e => ?_
        have h3 := b1.ids
        rw [List.map_append, List.map_cons] at h3
        exact (List.nodup_append.1 h3).2.2 _ (List.mem_map_of_mem (f := (·.it.id)) hy) _ (by simp) e
      refine ⟨b2 p (by simp), hid, hsq, ?_⟩
      have hp : PsOk (ps ++ [p]) := by
        refine ⟨fun i x hx => ?_, ?_, ?_⟩
        · refine b1.sq i x ?_
          have hi := (List.getElem?_eq_some_iff.1 hx).1
          have : ps ++ p :: r = (ps ++ [p]) ++ r := by simp
          rw [this, List.getElem?_append_left hi]
          exact hx
        · have h3 := b1.ids
          have : ps ++ p :: r = (ps ++ [p]) ++ r := by simp
          rw [this, List.map_append] at h3
          exact (List.nodup_append.1 h3).1
        · rw [List.length_append] at hl ⊢
          simp at hl ⊢
          omega
      exact (after_ok17 r (ps ++ [p]) hp (fun q hq => b2 q (by
        rcases List.mem_append.1 hq with hq | hq
        · simp [hq]
        · obtain rfl := List.mem_singleton.1 hq; simp)) (by simpa using hl)).2 ⟨by simpa using b1, fun q hq => b2 q (by simpa using hq)⟩
theorem okHd_iff (nm : List UInt8) (pol fai n : Int) : okHd nm pol fai n = true ↔ nmL nm = true ∧ -1 ≤ pol ∧ pol ≤ 1099511627776 ∧ 0 ≤ fai ∧ fai ≤ 1000 ∧ 0 ≤ n ∧ n ≤ 200 ∧ ¬ (pol = -1 ∧ 0 < fai + n) := by
  unfold okHd
  simp only [Bool.and_eq_true, decide_eq_true_eq, Bool.not_eq_true', Bool.and_eq_false_iff, beq_eq_false_iff_ne, decide_eq_false_iff_not]
  constructor
  · rintro ⟨⟨⟨⟨⟨⟨⟨h0, h1⟩, h2⟩, h3⟩, h4⟩, h5⟩, h6⟩, h7⟩
    exact ⟨h0, h1, h2, h3, h4, h5, h6, fun h => h7.elim (fun a => a h.1) (fun a => a h.2)⟩
  · rintro ⟨h0, h1, h2, h3, h4, h5, h6, h7⟩
    refine ⟨⟨⟨⟨⟨⟨⟨h0, h1⟩, h2⟩, h3⟩, h4⟩, h5⟩, h6⟩, ?_⟩
    by_cases h : pol = -1
    · exact .inr fun a => h7 ⟨h, a⟩
    · exact .inl h
theorem rdHd_iff (s t : List UInt8) (nm : List UInt8) (pol fai n : Int) (hs : s.length ≤ 1000000000000) : rdHd s = some ((nm, pol, fai, n), t) ↔ okHd nm pol fai n = true ∧ s = tb nm ++ (ib pol ++ (ib fai ++ (ib n ++ t))) := by
  constructor
  · intro h
    unfold rdHd at h
    split at h
    · cases h
    · rename_i a s1 h1
      split at h
      · cases h
      · rename_i b s2 h2
        split at h
        · cases h
        · rename_i c s3 h3
          split at h
          · cases h
          · rename_i d s4 h4
            split at h
            · rename_i hok
              simp only [Option.some.injEq, Prod.mk.injEq] at h
              obtain ⟨⟨rfl, rfl, rfl, rfl⟩, rfl⟩ := h
              have l1 := rdT_short h1
              rw [rdT_iff _ _ _ (by omega)] at h1
              obtain ⟨_, e2⟩ := (rdI_iff _ _ _).1 h2
              obtain ⟨_, e3⟩ := (rdI_iff _ _ _).1 h3
              obtain ⟨_, e4⟩ := (rdI_iff _ _ _).1 h4
              exact ⟨hok, by rw [h1, e2, e3, e4]⟩
            · cases h
  · rintro ⟨hok, rfl⟩
    obtain ⟨h0, h1, h2, h3, h4, h5, h6, _⟩ := (okHd_iff _ _ _ _).1 hok
    have hn := nmL_len h0
    unfold rdHd
    rw [(rdT_iff _ nm _ (by omega)).2 rfl]
    dsimp only
    rw [(rdI_iff _ pol _).2 ⟨⟨by omega, by omega⟩, rfl⟩]
    dsimp only
    rw [(rdI_iff _ fai _).2 ⟨⟨by omega, by omega⟩, rfl⟩]
    dsimp only
    rw [(rdI_iff _ n _).2 ⟨⟨by omega, by omega⟩, rfl⟩]
    dsimp only
    rw [if_pos hok]
theorem rdHd_len {s t : List UInt8} {x : List UInt8 × Int × Int × Int} (hs : s.length ≤ 1000000000000) (h : rdHd s = some (x, t)) : t.length ≤ s.length := by
  obtain ⟨nm, pol, fai, n⟩ := x
  obtain ⟨_, e⟩ := (rdHd_iff s t nm pol fai n hs).1 h
  rw [e]
  simp only [List.length_append]
  omega
theorem rdFd_iff (s t : List UInt8) (x : List UInt8 × Fd) (hs : s.length ≤ 1000000000000) : rdFd s = some (x, t) ↔ FdJ x.2 ∧ nmL x.1 = true ∧ s = fdB x ++ t := by
  constructor
  · intro h
    unfold rdFd at h
    split at h
    · cases h
    · rename_i nm pol fai n s1 h1
      split at h
      · cases h
      · rename_i ps u h2
        simp only [Option.some.injEq, Prod.mk.injEq] at h
        obtain ⟨rfl, rfl⟩ := h
        have hl := rdHd_len hs h1
        obtain ⟨hok, rfl⟩ := (rdHd_iff _ _ _ _ _ _ hs).1 h1
        obtain ⟨m, rfl, hm, hA, rfl⟩ := (rdPs_iff _ _ _ _ _ (by omega)).1 h2
        obtain ⟨h0, a1, a2, a3, a4, a5, a6, a7⟩ := (okHd_iff _ _ _ _).1 hok
        obtain ⟨p1, p2⟩ := (after_ok17 ps [] PsOk.nil (by simp) (by rw [List.nil_append]; omega)).1 hA
        rw [List.nil_append] at p1 p2
        refine ⟨⟨⟨p1, p2, ⟨a1, a2, a3, a4⟩⟩, fun h => ?_⟩, h0, ?_⟩
        · have h8 : ¬ 0 < fai + n := fun h9 => a7 ⟨h, h9⟩
          refine ⟨by show fai = 0; omega, List.length_eq_zero_iff.1 (by rw [hm]; omega)⟩
        · unfold fdB fdH
          dsimp only
          rw [show (ps.length : Int) = n from by omega]
          simp [isb]
  · rintro ⟨⟨hi, hz⟩, hn, rfl⟩
    obtain ⟨nm, pol, fai, ps⟩ := x
    dsimp only at hi hz hn
    have hps : PsOk ps := hi.ps
    have hnb : -1 ≤ pol ∧ pol ≤ 1099511627776 ∧ 0 ≤ fai ∧ fai ≤ 1000 := hi.nb
    have hcap := hps.n
    have hok : okHd nm pol fai ps.length = true := (okHd_iff _ _ _ _).2 ⟨hn, hnb.1, hnb.2.1, hnb.2.2.1, hnb.2.2.2, by omega, by omega, fun h => by
      obtain ⟨h1, h2⟩ := hz h.1
      have := h.2
      rw [h1, h2] at this
      simp at this⟩
    have e1 : fdB (nm, ⟨pol, fai, ps⟩) ++ t = tb nm ++ (ib pol ++ (ib fai ++ (ib (ps.length : Int) ++ (psB ps ++ t)))) := by
      unfold fdB fdH
      simp [isb]
    rw [e1] at hs ⊢
    have h1 := (rdHd_iff _ (psB ps ++ t) nm pol fai ps.length hs).2 ⟨hok, rfl⟩
    have hl := rdHd_len hs h1
    unfold rdFd
    rw [h1]
    dsimp only
    have hA : After [] ps := (after_ok17 ps [] PsOk.nil (by simp) (by simpa using hcap)).2 ⟨by simpa using hps, fun p hp => hi.its p (by simpa using hp)⟩
    rw [(rdPs_iff _ [] ps _ t (by omega)).2 ⟨ps, by simp, by simp, hA, rfl⟩]
theorem rdFd_len {s t : List UInt8} {x : List UInt8 × Fd} (hs : s.length ≤ 1000000000000) (h : rdFd s = some (x, t)) : t.length ≤ s.length := by
  obtain ⟨_, _, e⟩ := (rdFd_iff s t x hs).1 h
  rw [e, List.length_append]
  omega
theorem lastN_lt {S : Sv} {k : List UInt8} (hs : S.Pairwise (fun a b => a.1 < b.1)) (hk : k ≠ []) : lastN S < k ↔ ∀ x ∈ S, x.1 < k := by
  unfold lastN
  rcases List.eq_nil_or_concat S with rfl | ⟨S', z, rfl⟩
  · simp only [List.getLast?_nil, Option.map_none, Option.getD_none, List.not_mem_nil, false_implies, implies_true, iff_true]
    cases k with
    | nil => exact absurd rfl hk
    | cons a r => exact List.nil_lt_cons a r
  · rw [List.concat_eq_append] at hs ⊢
    rw [List.getLast?_append]
    simp only [List.getLast?_singleton, Option.some_or, Option.map_some, Option.getD_some]
    constructor
    · intro h x hx
      rcases List.mem_append.1 hx with hx | hx
      · exact List.lt_trans ((List.pairwise_append.1 hs).2.2 x hx z (by simp)) h
      · obtain rfl := List.mem_singleton.1 hx; exact h
    · intro h
      exact h z (by simp)
theorem srt_snoc {S : Sv} {x : List UInt8 × Fd} (hs : S.Pairwise (fun a b => a.1 < b.1)) (h : ∀ y ∈ S, y.1 < x.1) : (S ++ [x]).Pairwise (fun a b => a.1 < b.1) :=
  List.pairwise_append.2 ⟨hs, by simp, fun a ha b hb => by obtain rfl := List.mem_singleton.1 hb; exact h a ha⟩
theorem nmL_ne {k : List UInt8} (h : nmL k = true) : k ≠ [] := fun e => by have := (nmL_len h).1; rw [e] at this; simp at this
theorem rdFs_iff (n : Nat) : ∀ (S S' : Sv) (s t : List UInt8), s.length ≤ 1000000000000 → S.Pairwise (fun a b => a.1 < b.1) → (rdFs n S s = some (S', t) ↔ ∃ m, S' = S ++ m ∧ m.length = n ∧ (∀ x ∈ m, FdJ x.2 ∧ nmL x.1 = true) ∧ (S ++ m).Pairwise (fun a b => a.1 < b.1) ∧ s = fsB m ++ t) := by
  induction n with
  | zero =>
    intro S S' s t hs hS
    unfold rdFs
    constructor
    · intro h
      simp only [Option.some.injEq, Prod.mk.injEq] at h
      obtain ⟨rfl, rfl⟩ := h
      exact ⟨[], by simp, rfl, by simp, by simpa using hS, rfl⟩
    · rintro ⟨m, rfl, hm, _, _, rfl⟩
      have : m = [] := List.length_eq_zero_iff.1 hm
      subst this
      simp [fsB]
  | succ n ih =>
    intro S S' s t hs hS
    unfold rdFs
    constructor
    · intro h
      split at h
      · cases h
      · rename_i x t1 h1
        split at h
        · rename_i hlt
          have hl := rdFd_len hs h1
          obtain ⟨a1, a2, rfl⟩ := (rdFd_iff _ _ _ hs).1 h1
          have hall := (lastN_lt hS (nmL_ne a2)).1 hlt
          obtain ⟨m, rfl, hm, hg, hp, rfl⟩ := (ih _ _ _ _ (by omega) (srt_snoc hS hall)).1 h
          refine ⟨x :: m, by simp, by simp [hm], fun y hy => ?_, by simpa using hp, ?_⟩
          · rcases List.mem_cons.1 hy with rfl | hy
            · exact ⟨a1, a2⟩
            · exact hg y hy
          · unfold fsB
            rw [List.flatMap_cons]
            simp
        · cases h
    · rintro ⟨m, rfl, hm, hg, hp, rfl⟩
      cases m with
      | nil => simp at hm
      | cons x r =>
        obtain ⟨a1, a2⟩ := hg x (by simp)
        have e1 : fsB (x :: r) ++ t = fdB x ++ (fsB r ++ t) := by unfold fsB; rw [List.flatMap_cons]; simp
        rw [e1] at hs ⊢
        have h1 := (rdFd_iff _ (fsB r ++ t) x hs).2 ⟨a1, a2, rfl⟩
        rw [h1]
        dsimp only
        have hall : ∀ y ∈ S, y.1 < x.1 := fun y hy => (List.pairwise_append.1 hp).2.2 y hy x (by simp)
        rw [if_pos ((lastN_lt hS (nmL_ne a2)).2 hall)]
        rw [List.length_append] at hs
        exact (ih _ _ _ _ (by omega) (srt_snoc hS hall)).2 ⟨r, by simp, by simpa using hm, fun y hy => hg y (List.mem_cons_of_mem _ hy), by simpa using hp, rfl⟩
theorem unSt_iff (s : List UInt8) (S : Sv) (hs : s.length ≤ 1000000000000) : unSt s = some S ↔ SvJ S ∧ s = stB S := by
  constructor
  · intro h
    unfold unSt at h
    split at h
    · cases h
    · rename_i n t h1
      have hl := rdI_length h1
      obtain ⟨_, rfl⟩ := (rdI_iff _ _ _).1 h1
      split at h
      · rename_i hn
        split at h
        · cases h
        · rename_i S1 u h2
          split at h
          · rename_i hu
            subst hu
            simp only [Option.some.injEq] at h
            subst h
            obtain ⟨m, rfl, hm, hg, hp, rfl⟩ := (rdFs_iff _ _ _ _ _ (by omega) List.Pairwise.nil).1 h2
            rw [List.nil_append] at hp
            refine ⟨⟨hg, hp, by rw [hm]; omega⟩, ?_⟩
            unfold stB
            rw [show (S1.length : Int) = n from by omega]
            simp
          · cases h
      · cases h
  · rintro ⟨hJ, rfl⟩
    have h20 := hJ.n
    unfold stB at hs ⊢
    unfold unSt
    rw [(rdI_iff _ (S.length : Int) (fsB S)).2 ⟨⟨by omega, by omega⟩, rfl⟩]
    dsimp only
    rw [if_pos (by omega), Int.toNat_natCast]
    rw [List.length_append] at hs
    rw [(rdFs_iff S.length [] S (fsB S) [] (by omega) List.Pairwise.nil).2 ⟨S, by simp, rfl, hJ.all, by simpa using hJ.srt, by simp⟩]
    simp
end Go.Proofs.YtjfnkjpnjiobjaaGreat
namespace Go.Proofs.YtjfnkjpnjiobjaaGreat
open Go.RowKit
/-- A number within bounds. -/
def Rd.num (r : Rd) (lo hi : Int) : Rd := ⟨r.int.2.s, r.int.2.bad || decide (r.int.1 < lo) || decide (hi < r.int.1)⟩
def hdB (r4 : Rd) (nm : List UInt8) (pol fai n : Int) : Bool := r4.bad || !nmL nm || (pol == -1 && decide (0 < fai + n))
theorem hd_chain (r r1 r2 r3 r4 : Rd) (hb : r.bad = false) (h1 : r1 = r.text.2) (h2 : r2 = r1.num (-1) 1099511627776) (h3 : r3 = r2.num 0 1000) (h4 : r4 = r3.num 0 200) :
    rdHd r.s = if hdB r4 r.text.1 r1.int.1 r2.int.1 r3.int.1 = true then none else some ((r.text.1, r1.int.1, r2.int.1, r3.int.1), r4.s) := by
  obtain ⟨s, b⟩ := r
  dsimp only at hb
  subst hb
  have keep : ∀ (q : Rd) (lo hi : Int), q.bad = true → (q.num lo hi).bad = true := fun q lo hi h => by
    unfold Rd.num
    have : q.int.2.bad = true := get_bad h
    rw [this]; rfl
  have hbad : ∀ nm p f n, r4.bad = true → hdB r4 nm p f n = true := fun nm p f n h => by unfold hdB; rw [h]; rfl
  have num_some : ∀ (u t : List UInt8) (x lo hi : Int), rdI u = some (x, t) → Rd.int ⟨u, false⟩ = (x, ⟨t, false⟩) ∧ Rd.num ⟨u, false⟩ lo hi = ⟨t, decide (x < lo) || decide (hi < x)⟩ := fun u t x lo hi h => by
    have e : Rd.int ⟨u, false⟩ = (x, ⟨t, false⟩) := get_out h
    refine ⟨e, ?_⟩
    unfold Rd.num
    rw [e]
    simp
  have num_none : ∀ (u : List UInt8) (lo hi : Int), rdI u = none → (Rd.num ⟨u, false⟩ lo hi).bad = true := fun u lo hi h => by
    unfold Rd.num Rd.int Rd.get
    simp only [h]
    rfl
  unfold rdHd
  cases hT : rdT s with
  | none =>
    have e1 : r1.bad = true := by rw [h1]; unfold Rd.text Rd.get; simp only [hT]
    have e4 : r4.bad = true := by rw [h4]; exact keep _ _ _ (by rw [h3]; exact keep _ _ _ (by rw [h2]; exact keep _ _ _ e1))
    rw [if_pos (hbad _ _ _ _ e4)]
  | some p =>
    obtain ⟨nm, s1⟩ := p
    have eT : Rd.text ⟨s, false⟩ = (nm, ⟨s1, false⟩) := get_out hT
    have e1 : r1 = ⟨s1, false⟩ := by rw [h1, eT]
    rw [eT]
    dsimp only
    subst e1
    cases h5 : rdI s1 with
    | none =>
      have e4 : r4.bad = true := by rw [h4]; exact keep _ _ _ (by rw [h3]; exact keep _ _ _ (by rw [h2]; exact num_none _ _ _ h5))
      rw [if_pos (hbad _ _ _ _ e4)]
    | some p =>
      obtain ⟨pol, s2⟩ := p
      obtain ⟨i1, i2⟩ := num_some s1 s2 pol (-1) 1099511627776 h5
      rw [i1]
      dsimp only
      rw [i2] at h2
      have hok : ∀ f n, okHd nm pol f n = true → r2 = ⟨s2, false⟩ := fun f n h => by
        obtain ⟨_, a1, a2, _⟩ := (okHd_iff _ _ _ _).1 h
        rw [h2, decide_eq_false (by omega), decide_eq_false (by omega)]; rfl
      cases hb2 : r2.bad with
      | true =>
        have e4 : r4.bad = true := by rw [h4]; exact keep _ _ _ (by rw [h3]; exact keep _ _ _ hb2)
        rw [if_pos (hbad _ _ _ _ e4)]
        cases h6 : rdI s2 with
        | none => rfl
        | some p =>
          dsimp only
          cases h7 : rdI p.2 with
          | none => rfl
          | some q =>
            dsimp only
            rw [if_neg fun h => by rw [hok _ _ h] at hb2; cases hb2]
      | false =>
        have e2 : r2 = ⟨s2, false⟩ := by
          rw [h2] at hb2 ⊢
          dsimp only at hb2
          rw [hb2]
        rw [h2] at hb2
        simp only [Bool.or_eq_false_iff, decide_eq_false_iff_not] at hb2
        subst e2
        cases h6 : rdI s2 with
        | none =>
          have e4 : r4.bad = true := by rw [h4]; exact keep _ _ _ (by rw [h3]; exact num_none _ _ _ h6)
          rw [if_pos (hbad _ _ _ _ e4)]
        | some p =>
          obtain ⟨fai, s3⟩ := p
          obtain ⟨j1, j2⟩ := num_some s2 s3 fai 0 1000 h6
          rw [j1]
          dsimp only
          rw [j2] at h3
          cases hb3 : r3.bad with
          | true =>
            have e4 : r4.bad = true := by rw [h4]; exact keep _ _ _ hb3
            rw [if_pos (hbad _ _ _ _ e4)]
            cases h7 : rdI s3 with
            | none => rfl
            | some q =>
              dsimp only
              rw [if_neg fun h => by
                obtain ⟨_, _, _, a1, a2, _⟩ := (okHd_iff _ _ _ _).1 h
                rw [h3] at hb3
                simp only [Bool.or_eq_true, decide_eq_true_eq] at hb3
                omega]
          | false =>
            have e3 : r3 = ⟨s3, false⟩ := by
              rw [h3] at hb3 ⊢
              dsimp only at hb3
              rw [hb3]
            rw [h3] at hb3
            simp only [Bool.or_eq_false_iff, decide_eq_false_iff_not] at hb3
            subst e3
            cases h7 : rdI s3 with
            | none =>
              have e4 : r4.bad = true := by rw [h4]; exact num_none _ _ _ h7
              rw [if_pos (hbad _ _ _ _ e4)]
            | some p =>
              obtain ⟨n, s4⟩ := p
              obtain ⟨k1, k2⟩ := num_some s3 s4 n 0 200 h7
              rw [k1]
              dsimp only
              rw [k2] at h4
              rw [h4]
              dsimp only
              by_cases hO : okHd nm pol fai n = true
              · obtain ⟨a0, a1, a2, a3, a4, a5, a6, a7⟩ := (okHd_iff _ _ _ _).1 hO
                rw [if_pos hO, if_neg]
                unfold hdB
                dsimp only
                rw [a0, decide_eq_false (by omega : ¬ n < 0), decide_eq_false (by omega : ¬ 200 < n)]
                simp only [Bool.or_self, Bool.not_true, Bool.false_or, Bool.and_eq_true, beq_iff_eq, decide_eq_true_eq]
                exact a7
              · rw [if_neg hO, if_pos]
                unfold hdB
                dsimp only
                cases hB : (decide (n < 0) || decide (200 < n) || !nmL nm || (pol == -1 && decide (0 < fai + n))) with
                | true => rfl
                | false =>
                  exfalso
                  simp only [Bool.or_eq_false_iff, decide_eq_false_iff_not, Bool.not_eq_false', Bool.and_eq_false_iff, beq_eq_false_iff_ne] at hB
                  obtain ⟨⟨⟨b1, b2⟩, b3⟩, b4⟩ := hB
                  refine hO ((okHd_iff _ _ _ _).2 ⟨b3, by omega, by omega, by omega, by omega, by omega, by omega, fun h => ?_⟩)
                  rcases b4 with b4 | b4
                  · exact b4 h.1
                  · exact b4 h.2
theorem hdB_ok {r4 : Rd} {nm : List UInt8} {pol fai n : Int} {s : List UInt8} (hs : s.length ≤ 1000000000000) (h : rdHd s = some ((nm, pol, fai, n), r4.s)) : nmL nm = true ∧ -1 ≤ pol ∧ pol ≤ 1099511627776 ∧ 0 ≤ fai ∧ fai ≤ 1000 ∧ 0 ≤ n ∧ n ≤ 200 := by
  obtain ⟨a0, a1, a2, a3, a4, a5, a6, _⟩ := (okHd_iff _ _ _ _).1 ((rdHd_iff _ _ _ _ _ _ hs).1 h).1
  exact ⟨a0, a1, a2, a3, a4, a5, a6⟩
/-- The next post, by a reader. -/
theorem po_chain (r r1 r2 r3 r4 : Rd) (ps : List Po) (hb : r.bad = false) (h1 : r1 = r.text.2) (h2 : r2 = r1.text.2) (h3 : r3 = r2.text.2) (h4 : r4 = r3.bool.2) :
    rdPo ps r.s = if r4.bad = true then none else if itR ⟨r.text.1, r1.text.1, r2.text.1⟩ = true ∧ idx ps r.text.1 = none then some (ps ++ [⟨(ps.length : Int) + 1, ⟨r.text.1, r1.text.1, r2.text.1⟩, r3.bool.1⟩], r4.s) else none := by
  obtain ⟨s, b⟩ := r
  dsimp only at hb
  subst hb
  have kt : ∀ q : Rd, q.bad = true → q.text.2.bad = true := fun q h => get_bad h
  have kb : ∀ q : Rd, q.bad = true → q.bool.2.bad = true := fun q h => get_bad h
  unfold rdPo
  cases hT : rdT s with
  | none =>
    have e1 : r1.bad = true := by rw [h1]; unfold Rd.text Rd.get; simp only [hT]
    have e4 : r4.bad = true := by rw [h4]; exact kb _ (by rw [h3]; exact kt _ (by rw [h2]; exact kt _ e1))
    rw [if_pos e4]
  | some p =>
    obtain ⟨a, s1⟩ := p
    have eT : Rd.text ⟨s, false⟩ = (a, ⟨s1, false⟩) := get_out hT
    rw [eT] at h1 ⊢
    dsimp only at h1 ⊢
    subst h1
    cases h5 : rdT s1 with
    | none =>
      have e1 : r2.bad = true := by rw [h2]; unfold Rd.text Rd.get; simp only [h5]
      have e4 : r4.bad = true := by rw [h4]; exact kb _ (by rw [h3]; exact kt _ e1)
      rw [if_pos e4]
    | some p =>
      obtain ⟨b, s2⟩ := p
      have e5 : Rd.text ⟨s1, false⟩ = (b, ⟨s2, false⟩) := get_out h5
      rw [e5] at h2 ⊢
      dsimp only at h2 ⊢
      subst h2
      cases h6 : rdT s2 with
      | none =>
        have e1 : r3.bad = true := by rw [h3]; unfold Rd.text Rd.get; simp only [h6]
        have e4 : r4.bad = true := by rw [h4]; exact kb _ e1
        rw [if_pos e4]
      | some p =>
        obtain ⟨c, s3⟩ := p
        have e6 : Rd.text ⟨s2, false⟩ = (c, ⟨s3, false⟩) := get_out h6
        rw [e6] at h3 ⊢
        dsimp only at h3 ⊢
        subst h3
        cases h7 : rdB s3 with
        | none =>
          have e4 : r4.bad = true := by rw [h4]; unfold Rd.bool Rd.get; simp only [h7]
          rw [if_pos e4]
        | some p =>
          obtain ⟨q, s4⟩ := p
          have e7 : Rd.bool ⟨s3, false⟩ = (q, ⟨s4, false⟩) := get_out h7
          rw [e7] at h4 ⊢
          dsimp only at h4 ⊢
          subst h4
          simp only [Bool.false_eq_true, if_false]
end Go.Proofs.YtjfnkjpnjiobjaaGreat
namespace Go.Proofs.YtjfnkjpnjiobjaaGreat
open Go.RowKit Go.Maps
theorem StX.keys {w : World} {b mb : Nat} {T : List Pl} (h : StX w b mb T) : ∃ D, w.ownsMap Tryz.prog 9 hv mb T.length D ∧ size D = T.length ∧ ∀ ss : List (List UInt8), ss.Perm (strKeys D) → ss.mergeSort (fun x y => decide (x ≤ y)) = T.map Pl.nm := by
  refine h.map.keys (T.map Pl.nm) (List.pairwise_map.2 h.srt) fun k => ?_
  unfold ptT fT
  rw [Option.isSome_map, List.find?_isSome, List.mem_map]
  constructor
  · rintro ⟨t, ht, e⟩; exact ⟨t, ht, by simpa using e⟩
  · rintro ⟨t, ht, e⟩; exact ⟨t, ht, by simpa using e⟩
theorem encStr_eq : (Go.Proofs.encStr : List UInt8 → Value) = fun s => .string ⟨s.toArray⟩ := by funext s; rfl
set_option maxRecDepth 100000 in
theorem store_feeds (b mb : Nat) (T : List Pl) (w : World) (h : StX w b mb T) :
    Calls Tryz.prog 49 #[.pointer (some ⟨b, 0, none⟩)] w fun e w' => ∃ v, e = .returned v ∧ w'.ownsRow w.heap.size 9 1 v T.length (svs (T.map Pl.nm)) ∧ Only [] w w' := by
  obtain ⟨D, ho, hs, hk⟩ := h.keys
  have c0 := h.cells.cell (k := 0) rfl
  have hcap := h.cap
  have CK := Lib.hid (callsIn_wide.1 (Tryz.maps_Keys_69 (some mb) w))
  have CS := Lib.hid (callsIn_wide.1 (Tryz.slices_Sorted_keys_68_69 mb T.length D hv w ho (by rw [hs]; unfold maxLen; omega) (by rw [hs]; omega)))
  have HK := Lib.hid hk
  clear h ho hs hk
  go_enter Tryz.func49, Tryz.ntmps49
  go_wp2_with fail
  refine CK.out.mono ?_
  rintro e w1 ⟨rfl, rfl⟩
  go_wp2_with fail
  refine CS.out.mono ?_
  rintro e w2 ⟨v, ss, rfl, hp, hown, _, hb⟩
  have e1 : ss.mergeSort (fun x y => decide (x ≤ y)) = T.map Pl.nm := HK.out ss hp
  have e2 : ss.length = T.length := by have := congrArg List.length e1; rw [List.length_mergeSort, List.length_map] at this; exact this
  rw [e1, e2, encStr_eq] at hown
  have HO : Hid (Only [] w w2) := Lib.hid (((Only.refl [] w).alloc _).tr0 (Only.of_below hb))
  have HW : Hid (w2.ownsRow w.heap.size 9 1 v T.length (svs (T.map Pl.nm))) := Lib.hid (own_low hown (by simp))
  clear hown hb e1 e2 hp CS CK HK
  go_wp2_with fail
  go_ret
  exact ⟨_, rfl, HW.out, HO.out⟩
theorem st_feeds (b : Nat) (O : List Nat) (S : Sv) (w : World) (h : St w b O S) :
    Calls Tryz.prog 49 #[.pointer (some ⟨b, 0, none⟩)] w fun e w' => ∃ v, e = .returned v ∧ w'.ownsRow w.heap.size 9 1 v S.length (svs (S.map (·.1))) ∧ Only [] w w' := by
  obtain ⟨mb, T, h, rfl, rfl⟩ := h
  refine (store_feeds b mb T w h).mono fun e w' ⟨v, h1, h2, h3⟩ => ⟨v, h1, ?_, h3⟩
  have e1 : ((T.map fun t => (t.nm, t.fd)).map (·.1)) = T.map Pl.nm := by rw [List.map_map]; rfl
  rw [e1, List.length_map]
  exact h2
end Go.Proofs.YtjfnkjpnjiobjaaGreat
namespace Go.Proofs.YtjfnkjpnjiobjaaGreat
open Go.RowKit
theorem codec_ints_w (l : List Int) (hl : l.length ≤ 100) (hw : ∀ x ∈ l, Wide64 x) (n : Nat) (hn : l.length = n) (W : World) (b' : Nat) (hC : Cells W b' 3 (gvs l)) :
    Calls Tryz.prog 51 #[.slice (some ⟨b', 0, none⟩) n n] W fun e w' => e = .returned (.string ⟨(isb l).toArray⟩) ∧ Only [] W w' := by
  subst hn
  exact codec_int (.slice (some ⟨b', 0, none⟩) l.length l.length) l W (SlAt.cells (n := l.length) (sz := 1) hC (by simp [gvs, ivs]) (by unfold maxLen; omega)) hw (by omega)
theorem codec_texts_w (l : List (List UInt8)) (hl : l.length ≤ 10) (hb : (tsb l).length ≤ 70368744177600) (n : Nat) (hn : l.length = n) (W : World) (b' : Nat) (hC : Cells W b' 9 (svs l)) :
    Calls Tryz.prog 52 #[.slice (some ⟨b', 0, none⟩) n n] W fun e w' => e = .returned (.string ⟨(tsb l).toArray⟩) ∧ Only [] W w' := by
  subst hn
  exact codec_text (.slice (some ⟨b', 0, none⟩) l.length l.length) l W (SlAt.cells (n := l.length) (sz := 1) hC (by simp [svs]) (by unfold maxLen; omega)) (by omega) hb
theorem isbld_lt {T : TypeId} {B z : Nat} {l : List UInt8} {w : World} (h : IsBld T B z l w) : z < w.heap.size := by
  rcases h with h | h
  · obtain ⟨_, _, h, _⟩ := h; exact h.lt
  · obtain ⟨_, _, h, _⟩ := h; exact h.lt
/-- A slice whose cells a builder's writes let alone. -/
def KpS (z : Nat) (w : World) (t : TypeId) (A : Option Addr) (xs : List Value) : Prop := xs = [] ∨ ∃ (g : Nat) (cs : List Value), A = some ⟨g, 0, none⟩ ∧ Cells w g t cs ∧ g ≠ z ∧ ∀ (j : Nat) (u : Value), xs[j]? = some u → cs[j]? = some u
theorem KpS.keep {z : Nat} {w w' : World} {t : TypeId} {A : Option Addr} {xs : List Value} (h : KpS z w t A xs) (hk : Keeps z w w') (ht : t ≠ 5) : KpS z w' t A xs := by
  rcases h with h | ⟨g, cs, h1, h2, h3, h4⟩
  · exact .inl h
  · exact .inr ⟨g, cs, h1, hk g t cs h3 ht h2, h3, h4⟩
theorem KpS.only {z : Nat} {w w' : World} {t : TypeId} {A : Option Addr} {xs : List Value} (h : KpS z w t A xs) (ho : Only [] w w') : KpS z w' t A xs := by
  rcases h with h | ⟨g, cs, h1, h2, h3, h4⟩
  · exact .inl h
  · exact .inr ⟨g, cs, h1, h2.only ho (by simp), h3, h4⟩
theorem KpS.of_own {z B n c : Nat} {w : World} {t T : TypeId} {A : Option Addr} {xs zc : List Value} (h : w.ownsRow B t 1 (.slice A n c) n xs) (hz : Cells w z T zc) (hne : t ≠ T) : KpS z w t A xs := by
  have hne2 := own_ne_block h hz hne
  obtain ⟨hl, h⟩ := h
  rcases h with ⟨hv, h0⟩ | ⟨g, cap, cur, hv, hb, hh, hnc, h1, hsz, hxs⟩
  · left; rw [h0] at hl; simpa using hl
  · injection hv with e1 _ e3
    subst e1
    refine .inr ⟨g, cur.toList, rfl, by simpa [Cells] using hh, fun e => hne2 (by simp [Value.ownBlock, e]), fun j u hu => ?_⟩
    rw [← hxs] at hu
    have hj := (List.getElem?_eq_some_iff.1 hu).1
    rw [List.getElem?_take_of_lt (by rw [List.length_take] at hj; omega)] at hu
    exact hu
theorem KpS.at_ {z k : Nat} {w : World} {t : TypeId} {A : Option Addr} {xs : List Value} {u : Value} (h : KpS z w t A xs) (hk : xs[k]? = some u) : ∃ g, A = some ⟨g, 0, none⟩ ∧ g < w.heap.size ∧ w.cell? ⟨g, k, none⟩ = some u := by
  rcases h with h | ⟨g, cs, h1, h2, _, h4⟩
  · subst h; simp at hk
  · exact ⟨g, h1, h2.lt, h2.cell (h4 k u hk)⟩
theorem fT_of {T : List Pl} (hs : T.Pairwise (fun a b => a.nm < b.nm)) {t : Pl} (ht : t ∈ T) : fT T t.nm = some t := by
  cases hf : fT T t.nm with
  | none => have := List.find?_eq_none.1 hf t ht; simp at this
  | some u =>
    obtain ⟨h1, h2⟩ := fT_mem hf
    rw [nm_one hs h1 ht h2]
set_option maxRecDepth 100000 in
set_option maxHeartbeats 4000000 in
theorem store_pack (b mb : Nat) (T : List Pl) (w : World) (h : StX w b mb T) (hsh : ∀ t ∈ T, t.fd.Sh) :
    Calls Tryz.prog 30 #[.pointer (some ⟨b, 0, none⟩)] w fun e w' => e = .returned (.string ⟨(stB (T.map fun t => (t.nm, t.fd))).toArray⟩) ∧ Only [] w w' := by
  have H := Lib.hid h
  have HSH := Lib.hid hsh
  have hcap := h.cap
  have CF := Lib.hid (fun w' (ho : Only [] w w') => store_feeds b mb T w' (h.keep ho (by simp)))
  have hln := (ib_length (T.length : Int) ⟨by omega, by omega⟩).2
  have CI : Hid (∀ W b', Cells W b' 3 [.int .i64 T.length] → Calls Tryz.prog 51 #[.slice (some ⟨b', 0, none⟩) 1 1] W fun e w' => e = .returned (.string ⟨(ib T.length).toArray⟩) ∧ Only [] W w') := Lib.hid (by
    intro W b' hC
    have := codec_ints_w [(T.length : Int)] (by simp) (by intro x hx; simp at hx; subst hx; exact ⟨by omega, by omega⟩) 1 rfl W b' hC
    simpa [isb] using this)
  obtain ⟨W0, hW0⟩ : ∃ W0, w.alloc (.cells #[.pointer none, .slice none 0 0] 101) = W0 := ⟨_, rfl⟩
  obtain ⟨z, hz⟩ : ∃ z, w.heap.size = z := ⟨_, rfl⟩
  have HZ := Lib.hid hz
  have O0 : Only [] w W0 := hW0 ▸ (Only.refl _ _).alloc _
  have HBl : Hid (Bld 101 z z (.pointer none) [] W0) := Lib.hid (hW0 ▸ hz ▸ Bld.new 101 w)
  have hz0 : z < W0.heap.size := isbld_lt (.inl HBl.out)
  have HO0 := Lib.hid O0
  have c0 := (h.cells.only O0 (by simp)).cell (k := 0) rfl
  have hlen := fun ty => (h.map.only O0 (by simp)).len (t := 67) (e := 70) Tryz.underlying67 ty
  clear h hsh O0
  go_enter Tryz.func30, Tryz.ntmps30
  go_wp2_with fail
  have HW1 : Hid (Cells (W0.alloc (.cells #[.int .i64 T.length] 3)) W0.heap.size 3 [.int .i64 T.length]) := Lib.hid (Cells.new W0 _ _)
  obtain ⟨W1, hW1⟩ : ∃ W1, W0.alloc (.cells #[.int .i64 T.length] 3) = W1 := ⟨_, rfl⟩
  have O1 : Only [] W0 W1 := hW1 ▸ (Only.refl _ _).alloc _
  rw [hW1] at HW1 ⊢
  have HO1 := Lib.hid (HO0.out.tr O1)
  have HB1 : Hid (IsBld 101 z z [] W1) := Lib.hid (IsBld.only (.inl HBl.out) O1)
  clear O1 hW1 c0 hlen HBl
  refine (CI.out _ _ HW1.out).mono ?_
  rintro e w1 ⟨rfl, ho1⟩
  have HB2 := Lib.hid (HB1.out.only ho1)
  have HO2 := Lib.hid (HO1.out.tr ho1)
  obtain ⟨L0, hL0⟩ : ∃ L, ib T.length = L := ⟨_, rfl⟩
  have HL0 := Lib.hid hL0
  rw [hL0] at hln ⊢
  clear ho1 HB1 HO1 HW1 CI hL0
  go_wp2_with fail
  refine (writeString_k _ holds_builder z z [] L0 w1 HB2.out (by simp; omega) (by have := HO2.out.size; have := HZ.out; omega)).mono ?_
  rintro e w2 ⟨rfl, hb2, hbe2, _⟩
  have HO3 : Hid (Only [] w w2) := Lib.hid (HO2.out.past_below HZ.out hbe2)
  have HB3 : Hid (Bld 101 z z (.pointer (some ⟨z, 0, none⟩)) L0 w2) := Lib.hid (by simpa using hb2)
  have CF2 := Lib.hid (CF.out w2 HO3.out)
  clear hb2 hbe2 HO2 HB2 CF hW0 hz
  go_wp2_with fail
  refine CF2.out.mono ?_
  rintro e w3 ⟨v, rfl, hown, ho3⟩
  obtain ⟨A, c, rfl⟩ := (SlAt.of_own hown).shape
  have HO4 := Lib.hid (HO3.out.tr ho3)
  have hb4 := HB3.out.only ho3
  have HB4 : Hid (IsBld 101 z z (L0 ++ fsB ((T.take 0).map fun t => (t.nm, t.fd))) w3) := Lib.hid (by simp [fsB]; exact .inr hb4)
  have HK4 : Hid (KpS z w3 9 A (svs (T.map Pl.nm))) := Lib.hid (by
    obtain ⟨_, _, hc, _, _⟩ := hb4
    exact KpS.of_own hown hc (by decide))
  clear hown ho3 hb4 CF2 HB3 HO3
  go_wp2_with fail
  go_loopw [20] (fun i wr => ∃ k : Nat, k ≤ T.length ∧ i = .int .i64 k ∧ Hid (IsBld 101 z z (L0 ++ fsB ((T.take k).map fun t => (t.nm, t.fd))) wr) ∧ Hid (KpS z wr 9 A (svs (T.map Pl.nm))) ∧ Hid (Only [] w wr)) (fun i _ => T.length - (intOf i).toNat)
  case atStart => exact ⟨0, by omega, rfl, HB4, HK4, HO4⟩
  case round =>
    obtain ⟨k, hk, rfl, hb, hks, ho⟩ := hrel
    by_cases hlt : k < T.length
    · have hlt' : (k : Int) < (T.length : Int) := by omega
      obtain ⟨t, ht⟩ : ∃ t, T[k]? = some t := ⟨_, List.getElem?_eq_getElem hlt⟩
      have htm := List.mem_of_getElem? ht
      obtain ⟨g, hA, hg, hcn⟩ := hks.out.at_ (k := k) (u := .string ⟨t.nm.toArray⟩) (by unfold svs; rw [List.getElem?_map, List.getElem?_map, ht]; rfl)
      subst hA
      have hX := H.out.keep ho.out (by simp)
      have hfT := fT_of H.out.srt htm
      have hlk := hX.map.look (t := 67) (e := 70) (z := .pointer none) Tryz.underlying67 (Tryz.zeroValue70 wr) t.nm (by have := (nmL_len (H.out.nml t htm)).2; unfold maxLen; omega)
      rw [show (ptT T t.nm) = some (.pointer (some ⟨t.p, 0, none⟩)) from by unfold ptT; rw [hfT]; rfl] at hlk
      have cb := hX.cells.cell (k := 0) rfl
      have hfd := hX.fds t htm
      have hsh := HSH.out t htm
      have f0 := hfd.cells.cell (k := 0) rfl
      have f1 := hfd.cells.cell (k := 1) rfl
      have f2 := hfd.cells.cell (k := 2) rfl
      obtain ⟨A2, c2, hv2⟩ := (SlAt.of_own hfd.row).shape
      rw [hv2] at f2
      have HV2 := Lib.hid hv2
      have HRow : Hid (SlAt w w.heap.size (.slice A2 t.fd.ps.length c2) 5 t.fd.ps.length (poL t.fd.ps)) := Lib.hid (hv2 ▸ SlAt.of_own (H.out.fds t htm).row)
      have htp : t.p < wr.heap.size := hfd.cells.lt
      have hnm := (nmL_len (H.out.nml t htm)).2
      have hfh := fdH_le (t.nm, t.fd) (by show t.nm.length ≤ 1000; omega) hsh
      have hpl := psB_le t.fd.ps hsh.cap hsh.its
      have hps := fun j => psB_le (t.fd.ps.take j) (by rw [List.length_take]; have := hsh.cap; omega) (fun p hp => hsh.its p (List.mem_of_mem_take hp))
      have hns := hsh.cap
      have hfs := fsB_le ((T.take k).map fun t => (t.nm, t.fd)) (by rw [List.length_map, List.length_take]; omega) (by
        intro x hx
        obtain ⟨t', ht', rfl⟩ := List.mem_map.1 hx
        have hm := List.mem_of_mem_take ht'
        have := (nmL_len (H.out.nml t' hm)).2
        exact ⟨by show t'.nm.length ≤ 1000; omega, HSH.out t' hm⟩)
      have HSN : Hid (fsB ((T.take (k + 1)).map fun t => (t.nm, t.fd)) = fsB ((T.take k).map fun t => (t.nm, t.fd)) ++ fdB (t.nm, t.fd)) := Lib.hid (by
        unfold fsB
        rw [List.take_add_one, ht, List.map_append, List.flatMap_append]; simp)
      obtain ⟨M, hM⟩ : ∃ M, L0 ++ fsB ((T.take k).map fun t => (t.nm, t.fd)) = M := ⟨_, rfl⟩
      have hMl : M.length ≤ 13000000000 := by rw [← hM, List.length_append]; omega
      have HSM : Hid (L0 ++ fsB ((T.take (k + 1)).map fun t => (t.nm, t.fd)) = M ++ (fdH (t.nm, t.fd) ++ psB t.fd.ps)) := Lib.hid (by rw [HSN.out, ← List.append_assoc, hM]; rfl)
      rw [hM] at hb
      obtain ⟨tT, hT⟩ : ∃ x, tb t.nm = x := ⟨_, rfl⟩
      obtain ⟨tI, hI⟩ : ∃ x, isb [t.fd.pol, t.fd.fai, (t.fd.ps.length : Int)] = x := ⟨_, rfl⟩
      have HFH : Hid (fdH (t.nm, t.fd) = tT ++ tI) := Lib.hid (by rw [← hT, ← hI]; rfl)
      have CT : Hid (∀ W b', Cells W b' 9 [.string ⟨t.nm.toArray⟩] → Calls Tryz.prog 52 #[.slice (some ⟨b', 0, none⟩) 1 1] W fun e w' => e = .returned (.string ⟨tT.toArray⟩) ∧ Only [] W w') := Lib.hid (by
        intro W b' hC
        have := codec_texts_w [t.nm] (by simp) (by have := tb_top t.nm 1000 (by omega) (by omega); simp [tsb]; omega) 1 rfl W b' hC
        rw [← hT]
        simpa [tsb] using this)
      have CJ : Hid (∀ W b', Cells W b' 3 [.int .i64 t.fd.pol, .int .i64 t.fd.fai, .int .i64 t.fd.ps.length] → Calls Tryz.prog 51 #[.slice (some ⟨b', 0, none⟩) 3 3] W fun e w' => e = .returned (.string ⟨tI.toArray⟩) ∧ Only [] W w') := Lib.hid (by
        intro W b' hC
        have := codec_ints_w [t.fd.pol, t.fd.fai, (t.fd.ps.length : Int)] (by simp) hsh.ws 3 rfl W b' hC
        rw [← hI]
        exact this)
      have hTI : (tT ++ tI).length ≤ 1040 := by rw [← HFH.out]; exact hfh
      rw [List.length_append] at hTI
      have HSHT := Lib.hid hsh.its
      clear hM hT hI HSN hfs hfh hsh hfd hv2 hX hfT
      go_upto_region 7 with fail
      clear hlk cb hcn
      have t0 : ∀ u : Since wr, u.w.cell? ⟨t.p, 0, none⟩ = some (.int .i64 t.fd.pol) := fun u => u.cell f0
      have t1 : ∀ u : Since wr, u.w.cell? ⟨t.p, 1, none⟩ = some (.int .i64 t.fd.fai) := fun u => u.cell f1
      have t2 : ∀ u : Since wr, u.w.cell? ⟨t.p, 2, none⟩ = some (.slice A2 t.fd.ps.length c2) := fun u => u.cell f2
      refine wp_region_pendN wr (Only.refl _ _) [(31, SlW wr.heap.size 9 [.string ⟨t.nm.toArray⟩] 1), (46, SlW wr.heap.size 3 [.int .i64 t.fd.pol, .int .i64 t.fd.fai, .int .i64 t.fd.ps.length] 3)] [] 19 (by intro p hp; simp at hp; rcases hp with rfl | rfl <;> exact SlW.lasts _ _ _ _) (by kernel_rfl) (by kernel_rfl) (by decide) (fun val => ?_)
      simp only [List.take_succ_cons, List.take_zero, List.drop_succ_cons, List.drop_zero]
      refine fit_segN 1 (by kernel_rfl) ?_
      simp only [List.take_succ_cons, List.take_zero, List.drop_succ_cons, List.drop_zero]
      repeat (go_big_quiet_step (fail))
      refine wpQuiet_nil ?_
      refine fit_lit 31 9 [.string ⟨t.nm.toArray⟩] 1 rfl rfl (by simp) (by simp) (fun w5 => by go_simp) rfl ?_
      simp only [Act.put, List.setIfInBounds_toArray, List.set_cons_zero, List.set_cons_succ]
      refine fit_call1 (.string ⟨tT.toArray⟩) 52 31 9 [.string ⟨t.nm.toArray⟩] 1 (by simp) (by decide) rfl (by simp) (fun w5 => by go_simp) rfl (by kernel_rfl) (fun w5 b5 _ h5 => CT.out w5 b5 h5) ?_
      simp only [Act.put, List.setIfInBounds_toArray, List.set_cons_zero, List.set_cons_succ]
      refine fit_segN 13 (by kernel_rfl) ?_
      simp only [List.take_succ_cons, List.take_zero, List.drop_succ_cons, List.drop_zero]
      repeat (go_big_quiet_step (fail))
      refine wpQuiet_nil ?_
      refine fit_lit 46 3 [.int .i64 t.fd.pol, .int .i64 t.fd.fai, .int .i64 t.fd.ps.length] 3 rfl rfl (by simp) (by simp) (fun w5 => by go_simp) rfl ?_
      simp only [Act.put, List.setIfInBounds_toArray, List.set_cons_zero, List.set_cons_succ]
      refine fit_call1 (.string ⟨tI.toArray⟩) 51 46 3 [.int .i64 t.fd.pol, .int .i64 t.fd.fai, .int .i64 t.fd.ps.length] 3 (by simp) (by decide) rfl (by simp) (fun w5 => by go_simp) rfl (by kernel_rfl) (fun w5 b5 _ h5 => CJ.out w5 b5 h5) ?_
      simp only [Act.put, List.setIfInBounds_toArray, List.set_cons_zero, List.set_cons_succ]
      refine fit_segN 1 (by kernel_rfl) ?_
      simp only [List.take_succ_cons, List.take_zero, List.drop_succ_cons, List.drop_zero]
      repeat (go_big_quiet_step (fail))
      refine wpQuiet_nil ?_
      intro w5 ho5 _
      have HB5 := Lib.hid (hb.out.only ho5)
      have HO5 := Lib.hid (ho.out.tr ho5)
      have HK5 := Lib.hid (hks.out.only ho5)
      clear t0 t1 t2 f0 f1 f2 CT CJ ho5 hb ho hks
      go_wp2_with fail
      refine (writeString_k _ holds_builder z z M (tT ++ tI) w5 HB5.out (by rw [List.length_append]; omega) (by have := HO5.out.size; have := HZ.out; omega)).mono ?_
      rintro e w6 ⟨rfl, hb6, hbe6, hk6⟩
      have HO6 : Hid (Only [] w w6) := Lib.hid (HO5.out.past_below HZ.out hbe6)
      have HB6 : Hid (IsBld 101 z z (M ++ (fdH (t.nm, t.fd) ++ psB (t.fd.ps.take 0))) w6) := Lib.hid (by rw [HFH.out]; exact .inr (by simpa [psB] using hb6))
      have HK6 := Lib.hid (HK5.out.keep hk6 (by decide))
      have f2 := ((H.out.keep HO6.out (by simp)).fds t htm).cells.cell (k := 2) rfl
      clear hb6 hbe6 hk6 HB5 HO5 HK5
      rw [HV2.out] at f2
      go_upto_region 9 with fail
      clear f2
      go_loopw [55] (fun i wr => ∃ j : Nat, j ≤ t.fd.ps.length ∧ i = .int .i64 j ∧ Hid (IsBld 101 z z (M ++ (fdH (t.nm, t.fd) ++ psB (t.fd.ps.take j))) wr) ∧ Hid (KpS z wr 9 (some ⟨g, 0, none⟩) (svs (T.map Pl.nm))) ∧ Hid (Only [] w wr)) (fun i _ => t.fd.ps.length - (intOf i).toNat)
      case atStart => exact ⟨0, by omega, rfl, HB6, HK6, HO6⟩
      case round =>
        obtain ⟨wo, rfl⟩ : ∃ wo, wo = wr := ⟨_, rfl⟩
        obtain ⟨j, hj, rfl, hb, hks, ho⟩ := hrel
        by_cases hjl : j < t.fd.ps.length
        · have hjl' : (j : Int) < (t.fd.ps.length : Int) := by omega
          obtain ⟨x, hx⟩ : ∃ x, t.fd.ps[j]? = some x := ⟨_, List.getElem?_eq_getElem hjl⟩
          obtain ⟨b1, o1, c1', g1, p0, p1, p2, p3, p4⟩ := poL_at (HRow.out.only ho.out (Nat.le_refl _) (by simp)) rfl hx
          injection g1 with i1 i2 i3
          subst i1; subst i3
          have hxs := HSHT.out x (List.mem_of_getElem? hx)
          have hxl := spB_le x hxs
          have hpj := hps j
          have HSJ : Hid (M ++ (fdH (t.nm, t.fd) ++ psB (t.fd.ps.take (j + 1))) = M ++ (fdH (t.nm, t.fd) ++ psB (t.fd.ps.take j)) ++ (itT x.it ++ bb x.rd)) := Lib.hid (by
            have : psB (t.fd.ps.take (j + 1)) = psB (t.fd.ps.take j) ++ spB x := flat_snoc spB t.fd.ps j x hx
            rw [this, List.append_assoc, List.append_assoc]; rfl)
          obtain ⟨L, hL⟩ : ∃ L, M ++ (fdH (t.nm, t.fd) ++ psB (t.fd.ps.take j)) = L := ⟨_, rfl⟩
          have hLl : L.length ≤ 14000000000 := by
            rw [← hL, HFH.out]
            simp only [List.length_append]
            omega
          rw [hL] at hb HSJ
          have hil := itT_le x.it hxs
          have hTS : tsb [x.it.id, x.it.ti, x.it.li] = itT x.it := by unfold tsb itT; simp
          obtain ⟨tX, hX⟩ : ∃ y, itT x.it = y := ⟨_, rfl⟩
          obtain ⟨tB, hB⟩ : ∃ y, bb x.rd = y := ⟨_, rfl⟩
          have hBl : tB.length = 1 := by rw [← hB]; rfl
          rw [hX] at hTS hil HSJ
          rw [hB] at HSJ
          have CT : Hid (∀ W b', Cells W b' 9 [.string ⟨x.it.id.toArray⟩, .string ⟨x.it.ti.toArray⟩, .string ⟨x.it.li.toArray⟩] → Calls Tryz.prog 52 #[.slice (some ⟨b', 0, none⟩) 3 3] W fun e w' => e = .returned (.string ⟨tX.toArray⟩) ∧ Only [] W w') := Lib.hid (by
            intro W b' hC
            have := codec_texts_w [x.it.id, x.it.ti, x.it.li] (by simp) (by rw [hTS]; omega) 3 rfl W b' hC
            rw [hTS] at this
            exact this)
          have CB : Hid (∀ W, Calls Tryz.prog 53 #[.bool x.rd] W fun e w' => e = .returned (.string ⟨tB.toArray⟩) ∧ W = w') := Lib.hid (fun W => by have := codec_bool x.rd W; rw [hB] at this; exact this)
          obtain ⟨wx, hwx⟩ : ∃ wx, wo.alloc (.cells #[.int .i64 x.sq, .string ⟨x.it.id.toArray⟩, .string ⟨x.it.ti.toArray⟩, .string ⟨x.it.li.toArray⟩, .bool x.rd] 52) = wx := ⟨_, rfl⟩
          obtain ⟨bx, hbx⟩ : ∃ b, wo.heap.size = b := ⟨_, rfl⟩
          have OX : Only [] wo wx := hwx ▸ (Only.refl _ _).alloc _
          have hCX : Cells wx bx 52 x.cells := hwx ▸ hbx ▸ Cells.new wo _ _
          have HBX := Lib.hid (hb.out.only OX)
          have HOX := Lib.hid (ho.out.tr OX)
          have HKX := Lib.hid (hks.out.only OX)
          have HCX := Lib.hid hCX
          clear i2 hx hxs hxl hpj hL hX hB hTS OX hCX hb ho hks
          go_upto_region 11 with fail
          clear hwx hbx p0 p1 p2 p3 p4
          have t1 := fun u : Since wx => u.cell (HCX.out.cell (k := 1) rfl)
          have t2 := fun u : Since wx => u.cell (HCX.out.cell (k := 2) rfl)
          have t3 := fun u : Since wx => u.cell (HCX.out.cell (k := 3) rfl)
          have t4 := fun u : Since wx => u.cell (HCX.out.cell (k := 4) rfl)
          refine wp_region_pendN wx (Only.refl _ _) [(68, SlW wx.heap.size 9 [.string ⟨x.it.id.toArray⟩, .string ⟨x.it.ti.toArray⟩, .string ⟨x.it.li.toArray⟩] 3)] [] 15 (by intro p hp; simp at hp; rcases hp with rfl; exact SlW.lasts _ _ _ _) (by kernel_rfl) (by kernel_rfl) (by decide) (fun val2 => ?_)
          simp only [List.take_succ_cons, List.take_zero, List.drop_succ_cons, List.drop_zero]
          refine fit_segN 9 (by kernel_rfl) ?_
          simp only [List.take_succ_cons, List.take_zero, List.drop_succ_cons, List.drop_zero]
          repeat (go_big_quiet_step (fail))
          refine wpQuiet_nil ?_
          refine fit_lit 68 9 [.string ⟨x.it.id.toArray⟩, .string ⟨x.it.ti.toArray⟩, .string ⟨x.it.li.toArray⟩] 3 rfl rfl (by simp) (by simp) (fun w5 => by go_simp) rfl ?_
          simp only [Act.put, List.setIfInBounds_toArray, List.set_cons_zero, List.set_cons_succ]
          refine fit_call1 (.string ⟨tX.toArray⟩) 52 68 9 [.string ⟨x.it.id.toArray⟩, .string ⟨x.it.ti.toArray⟩, .string ⟨x.it.li.toArray⟩] 3 (by simp) (by decide) rfl (by simp) (fun w5 => by go_simp) rfl (by kernel_rfl) (fun w5 b5 _ h5 => CT.out w5 b5 h5) ?_
          simp only [Act.put, List.setIfInBounds_toArray, List.set_cons_zero, List.set_cons_succ]
          refine fit_segN 2 (by kernel_rfl) ?_
          simp only [List.take_succ_cons, List.take_zero, List.drop_succ_cons, List.drop_zero]
          repeat (go_big_quiet_step (fail))
          refine wpQuiet_nil ?_
          refine fit_call (.string ⟨tB.toArray⟩) 53 #[.bool x.rd] rfl (by simp) (fun w5 => by go_simp) rfl (by kernel_rfl) (fun w5 hw5 => (CB.out w5).mono fun e w' ⟨h1, h2⟩ => ⟨h1, h2 ▸ Only.refl _ _⟩) ?_
          simp only [Act.put, List.setIfInBounds_toArray, List.set_cons_zero, List.set_cons_succ]
          refine fit_segN 1 (by kernel_rfl) ?_
          simp only [List.take_succ_cons, List.take_zero, List.drop_succ_cons, List.drop_zero]
          repeat (go_big_quiet_step (fail))
          refine wpQuiet_nil ?_
          intro w7 ho7 _
          have HB7 := Lib.hid (HBX.out.only ho7)
          have HO7 := Lib.hid (HOX.out.tr ho7)
          have HK7 := Lib.hid (HKX.out.only ho7)
          clear t1 t2 t3 t4 CT CB ho7 HBX HOX HKX HCX
          go_wp2_with fail
          refine (writeString_k _ holds_builder z z L (tX ++ tB) w7 HB7.out (by rw [List.length_append]; omega) (by have := HO7.out.size; have := HZ.out; omega)).mono ?_
          rintro e w8 ⟨rfl, hb8, hbe8, hk8⟩
          have HO8 : Hid (Only [] w w8) := Lib.hid (HO7.out.past_below HZ.out hbe8)
          have HB8 : Hid (IsBld 101 z z (M ++ (fdH (t.nm, t.fd) ++ psB (t.fd.ps.take (j + 1)))) w8) := Lib.hid (by rw [HSJ.out]; exact .inr hb8)
          have HK8 := Lib.hid (HK7.out.keep hk8 (by decide))
          clear hb8 hbe8 hk8 HB7 HO7 HK7
          go_wp2_with fail
          go_roundw
          case rel => exact ⟨j + 1, by omega, by go_num, HB8, HK8, HO8⟩
          case measure => simp [intOf]; omega
        · have hd0 : decide ((j : Int) < (t.fd.ps.length : Int)) = false := by simp; omega
          obtain rfl : j = t.fd.ps.length := by omega
          rw [List.take_length] at hb
          have HB9 : Hid (IsBld 101 z z (L0 ++ fsB ((T.take (k + 1)).map fun t => (t.nm, t.fd))) wo) := Lib.hid (by rw [HSM.out]; exact hb.out)
          clear hb
          go_wp2_with fail
          go_roundw
          case rel => exact ⟨k + 1, by omega, by go_num, HB9, hks, ho⟩
          case measure => simp [intOf]; omega
    · have hd0 : decide ((k : Int) < (T.length : Int)) = false := by simp; omega
      obtain rfl : k = T.length := by omega
      rw [List.take_length] at hb
      have HSt := Lib.hid (builder_string_any _ _ _ _ _ hb.out)
      clear hb
      go_wp2_with fail
      refine HSt.out.mono ?_
      rintro e w3 ⟨rfl, hbe3⟩
      have HOF : Hid (Only [] w w3) := Lib.hid (ho.out.past_below HZ.out hbe3)
      clear hbe3
      go_wp2_with fail
      go_ret
      exact ⟨by rw [← HL0.out]; simp [stB], HOF.out⟩
theorem st_pack (b : Nat) (O : List Nat) (S : Sv) (w : World) (h : St w b O S) (hsh : ∀ x ∈ S, x.2.Sh) :
    Calls Tryz.prog 30 #[.pointer (some ⟨b, 0, none⟩)] w fun e w' => e = .returned (.string ⟨(stB S).toArray⟩) ∧ Only [] w w' := by
  obtain ⟨mb, T, h, rfl, rfl⟩ := h
  exact store_pack b mb T w h (fun t ht => hsh (t.nm, t.fd) (List.mem_map.2 ⟨t, ht, rfl⟩))
end Go.Proofs.YtjfnkjpnjiobjaaGreat
namespace Go.Proofs.YtjfnkjpnjiobjaaGreat
open Go.RowKit Go.Maps
theorem setBlock_again (w : World) (b : Nat) (o o' : Obj) : Go.ChangeMaps.setBlock (Go.ChangeMaps.setBlock w b o) b o' = Go.ChangeMaps.setBlock w b o' := by
  unfold Go.ChangeMaps.setBlock
  simp
theorem MapF.entry {w : World} {b n : Nat} {f : List UInt8 → Option Value} {t e : TypeId} (h : MapF w b n f) (ht : Tryz.prog.underlying t = some (.map 9 e)) {z : Value} (hz : ∀ u : World, (zeroValue e).run Tryz.prog u = .ok z u) (hn : n < maxLen) (k : List UInt8) (hk : k.length ≤ maxLen) (v : Value) :
    ∃ v0 st w1 w', (Instr.mapEntry t (.map (some b)) (.string ⟨k.toArray⟩)).run Tryz.prog w = .ok (.tuple #[v0, .int .i64 st]) w1 ∧ (Instr.entryStore t (.map (some b)) (.int .i64 st) v).run Tryz.prog w1 = .ok () w' ∧
      MapF w' b (if (f k).isSome then n else n + 1) (fun k' => if k' = k then some v else f k') ∧ w.mapTurned w' b := by
  obtain ⟨w', hr, hm, ht'⟩ := h.store ht hn k hk v
  obtain ⟨D, ho, _⟩ := h.ex
  obtain ⟨es, clock, hb, F, _⟩ := ho
  obtain ⟨v0, st, es1, clock1, h1, _, h2⟩ := Go.WideElems.entry_then_store (Go.WideMaps.string_law Tryz.underlying9) ht hz hb F (key_str k hk)
  have hb1 : (Go.ChangeMaps.setBlock w b (.map es1 clock1)).heap[b]? = some (.map es1 clock1) := by
    unfold Go.ChangeMaps.setBlock
    exact (MapKept.heap_set hb).1
  obtain ⟨es', clock', h3, h4⟩ := h2 _ v hb1
  rw [hr] at h4
  injection h4 with _ h4
  refine ⟨v0, st, _, _, h1, h3, ?_, ?_⟩
  · rw [setBlock_again, ← h4]; exact hm
  · rw [setBlock_again, ← h4]; exact ht'
end Go.Proofs.YtjfnkjpnjiobjaaGreat
namespace Go.Proofs.YtjfnkjpnjiobjaaGreat
open Go.RowKit
set_option maxRecDepth 100000 in
set_option maxHeartbeats 1000000 in
theorem sr_number (z : Nat) (r : Rd) (lo hi : Int) (w : World) (h : SrAt w z r) :
    Calls Tryz.prog 45 #[.pointer (some ⟨z, 0, none⟩), .int .i64 lo, .int .i64 hi] w fun e w' => e = .returned (.int .i64 r.int.1) ∧ SrAt w' z (r.num lo hi) ∧ Only [z] w w' := by
  have C := Lib.hid (sr_read_int z r w h)
  have HN : Hid (r.num lo hi = ⟨r.int.2.s, r.int.2.bad || decide (r.int.1 < lo) || decide (hi < r.int.1)⟩) := Lib.hid rfl
  clear h
  obtain ⟨n, hn⟩ : ∃ n, r.int.1 = n := ⟨_, rfl⟩
  obtain ⟨q, hq⟩ : ∃ q, r.int.2 = q := ⟨_, rfl⟩
  rw [hn, hq] at C HN
  rw [hn, HN.out]
  clear HN hn hq
  obtain ⟨s, bad⟩ := q
  go_enter Tryz.func45, Tryz.ntmps45
  go_wp2_with fail
  refine C.out.mono ?_
  rintro e w1 ⟨rfl, ⟨hC, hl⟩, ho⟩
  have c1 := hC.cell (k := 1) rfl
  have f1 := hC.frozen 1
  have hlt := hC.lt
  have H := Lib.hid hC
  have HO := Lib.hid ho
  clear C hC ho
  obtain ⟨b1, h1⟩ : ∃ b, decide (n < lo) = b := ⟨_, rfl⟩
  obtain ⟨b2, h2⟩ : ∃ b, decide (hi < n) = b := ⟨_, rfl⟩
  cases bad <;> cases b1 <;> cases b2 <;> (
    go_wp2_with fail
    go_ret
    refine ⟨rfl, ⟨?_, hl⟩, HO.out.setCell (.inl (by simp)) _⟩
    dsimp only
    rw [h1, h2]
    exact H.out.set 1 _)
theorem Rd.len_text {r : Rd} (h : r.s.length ≤ 1000000000000) : r.text.1.length ≤ maxLen := by
  have := text_short h
  unfold maxLen
  omega
/-- A feed's last post is read, or not. -/
theorem row_read {w : World} {base g cap n : Nat} {e : TypeId} {ps : List Po} {x : Po} (h : w.ownsRow base e 5 (.slice (some ⟨g, 0, none⟩) n cap) n (poL (ps ++ [x]))) (q : Bool) :
    (w.setCell ⟨g, ps.length * 5 + 4, none⟩ (.bool q)).ownsRow base e 5 (.slice (some ⟨g, 0, none⟩) n cap) n (poL (ps ++ [⟨x.sq, x.it, q⟩])) := by
  have h1 := (h.stored (ps.length * 5 + 4) (.bool q)).1
  unfold poL at h1 ⊢
  rw [flat_set Po.cells 5 (fun _ => rfl) (ps ++ [x]) ps.length 4 x ⟨x.sq, x.it, q⟩ (.bool q) (by simp) (by omega) rfl] at h1
  rwa [List.set_append_right _ _ (Nat.le_refl _), Nat.sub_self, List.set_cons_zero] at h1
def SrP (w w' : World) (z p m : Nat) (v : Value) (r : Rd) (f : Fd) : Prop := ∃ r' f' v', SrAt w' z r' ∧ FdAt w' p m v' f' ∧ Only ([z, p, m] ++ rb v) w w' ∧ NewOf w v v' ∧ match rdPo f.ps r.s with
  | none => r'.bad = true
  | some (qs, t) => r' = ⟨t, false⟩ ∧ f' = ⟨f.pol, f.fai, qs⟩
set_option maxRecDepth 100000 in
set_option maxHeartbeats 4000000 in
theorem sr_post (z p m : Nat) (v : Value) (r : Rd) (f : Fd) (w : World) (h : SrAt w z r) (hf : FdAt w p m v f) (hb : r.bad = false) (hn : f.ps.length < 200) (hz : z ≠ p ∧ z ≠ m ∧ v.ownBlock ≠ some z) :
    Calls Tryz.prog 64 #[.pointer (some ⟨z, 0, none⟩), .pointer (some ⟨p, 0, none⟩)] w fun e w' => e = .returned (.tuple #[]) ∧ SrP w w' z p m v r f := by
  obtain ⟨hzp, hzm, hzv⟩ := hz
  have HZV := Lib.hid hzv
  have hl := h.2
  have hzw := h.1.lt
  obtain ⟨r1, h1⟩ : ∃ q, r.text.2 = q := ⟨_, rfl⟩
  obtain ⟨r2, h2⟩ : ∃ q, r1.text.2 = q := ⟨_, rfl⟩
  obtain ⟨r3, h3⟩ : ∃ q, r2.text.2 = q := ⟨_, rfl⟩
  obtain ⟨r4, h4⟩ : ∃ q, r3.bool.2 = q := ⟨_, rfl⟩
  have hl1 : r1.s.length ≤ 1000000000000 := h1 ▸ text_len hl
  have hl2 : r2.s.length ≤ 1000000000000 := h2 ▸ text_len hl1
  have hl3 : r3.s.length ≤ 1000000000000 := h3 ▸ text_len hl2
  have HCH := Lib.hid (po_chain r r1 r2 r3 r4 f.ps hb h1.symm h2.symm h3.symm h4.symm)
  have HL : Hid (It.Len ⟨r.text.1, r1.text.1, r2.text.1⟩) := Lib.hid ⟨Rd.len_text hl, Rd.len_text hl1, Rd.len_text hl2⟩
  have C1 := Lib.hid (sr_read_text z r w h)
  rw [h1] at C1
  have C2 := Lib.hid (fun w' hh => sr_read_text z r1 w' hh)
  have C3 := Lib.hid (fun w' hh => sr_read_text z r2 w' hh)
  have C4 := Lib.hid (fun w' hh => sr_read_bool z r3 w' hh)
  rw [h2] at C2
  rw [h3] at C3
  rw [h4] at C4
  obtain ⟨a, ha⟩ : ∃ q, r.text.1 = q := ⟨_, rfl⟩
  obtain ⟨b, hb'⟩ : ∃ q, r1.text.1 = q := ⟨_, rfl⟩
  obtain ⟨c, hc⟩ : ∃ q, r2.text.1 = q := ⟨_, rfl⟩
  obtain ⟨d, hd⟩ : ∃ q, r3.bool.1 = q := ⟨_, rfl⟩
  rw [ha] at C1 HCH HL
  rw [hb'] at C2 HCH HL
  rw [hc] at C3 HCH HL
  rw [hd] at C4 HCH
  have HF := Lib.hid hf
  clear h hf h1 h2 h3 h4 ha hb' hc hd
  go_enter Tryz.func64, Tryz.ntmps64
  go_wp2_with fail
  refine C1.out.mono ?_
  rintro e w1 ⟨rfl, hA, ho⟩
  have HA1 := Lib.hid hA
  have HO1 := Lib.hid ho
  clear hA ho C1
  go_wp2_with fail
  refine (C2.out w1 HA1.out).mono ?_
  rintro e w2 ⟨rfl, hA, ho⟩
  have HA2 := Lib.hid hA
  have HO2 := Lib.hid (HO1.out.tr ho)
  clear hA ho C2 HA1 HO1
  go_wp2_with fail
  refine (C3.out w2 HA2.out).mono ?_
  rintro e w3 ⟨rfl, hA, ho⟩
  have HA3 := Lib.hid hA
  have HO3 := Lib.hid (HO2.out.tr ho)
  clear hA ho C3 HA2 HO2
  obtain ⟨w4, hw4⟩ : ∃ w4, w3.alloc (.cells #[.string ⟨a.toArray⟩, .string ⟨b.toArray⟩, .string ⟨c.toArray⟩] 45) = w4 := ⟨_, rfl⟩
  obtain ⟨y, hy⟩ : ∃ z, w3.heap.size = z := ⟨_, rfl⟩
  have o4 : Only [] w3 w4 := hw4 ▸ (Only.refl _ _).alloc _
  have hC4 : Cells w4 y 45 [.string ⟨a.toArray⟩, .string ⟨b.toArray⟩, .string ⟨c.toArray⟩] := hw4 ▸ hy ▸ Cells.new w3 _ _
  have HA4 := Lib.hid (HA3.out.only o4 (by simp))
  have HO4 := Lib.hid (HO3.out.tr0 o4)
  have HC4 := Lib.hid hC4
  have hyz : y ≠ z := by have := HA3.out.lt; omega
  clear o4 hC4 HA3 HO3
  go_wp2_with fail
  clear hw4 hy
  refine (C4.out w4 HA4.out).mono ?_
  rintro e w5 ⟨rfl, hA, ho⟩
  have HC5 := Lib.hid (HC4.out.only ho (by simpa using hyz))
  have HA5 := Lib.hid hA
  have HO5 := Lib.hid (HO4.out.tr ho)
  have HF5 : Hid (FdAt w5 p m v f) := Lib.hid (HF.out.only (HO4.out.tr ho) (by simpa using fun e => hzp e.symm) (by simpa using fun e => hzm e.symm) (fun g hg hm => by simp at hm; subst hm; exact HZV.out hg))
  have s1 := hA.1.cell (k := 1) rfl
  have y0 := HC5.out.cell (k := 0) rfl
  have y1 := HC5.out.cell (k := 1) rfl
  have y2 := HC5.out.cell (k := 2) rfl
  clear hA ho C4 HA4 HO4 HC4
  obtain ⟨s4, b4⟩ := r4
  dsimp only at s1 HCH
  cases b4 with
  | true =>
    have hz1 := HA5.out.1.frozen 1
    have hzl := HA5.out.lt
    have hR : Hid (rdPo f.ps r.s = none) := Lib.hid HCH.out
    have HFIN : Hid (SrP w (w5.setCell ⟨z, 1, none⟩ (.bool true)) z p m v r f) := Lib.hid (by
      have o : Only [z] w5 (w5.setCell ⟨z, 1, none⟩ (.bool true)) := (Only.refl _ _).setCell (.inl (by simp)) _
      refine ⟨⟨s4, true⟩, f, v, ⟨HA5.out.1.set 1 _, HA5.out.2⟩, HF5.out.only o (by simpa using fun e => hzp e.symm) (by simpa using fun e => hzm e.symm) (fun g hg hm => by simp at hm; subst hm; exact HZV.out hg), (HO5.out.tr o).mono (by simp), NewOf.refl _ _, ?_⟩
      rw [hR.out])
    go_wp2_with fail
    refine bodyPost_ret (results_none rfl _ _ _) rfl ?_
    exact ⟨rfl, HFIN.out⟩
  | false =>
  have CR := Lib.hid (feed_right ⟨a, b, c⟩ HL.out w5)
  obtain ⟨q, hq⟩ : ∃ q, itR ⟨a, b, c⟩ = q := ⟨_, rfl⟩
  rw [hq] at CR HCH
  clear hq
  go_wp2_with fail
  refine CR.out.mono ?_
  rintro e w6 ⟨rfl, ho6⟩
  have HC6 := HC5.out.only ho6 (by simp)
  have HA6 := Lib.hid (HA5.out.only ho6 (by simp))
  have HO6 := Lib.hid (HO5.out.tr0 ho6)
  have HF6 := Lib.hid (HF5.out.only ho6 (by simp) (by simp) (by simp))
  have y0 := HC6.cell (k := 0) rfl
  have y1 := HC6.cell (k := 1) rfl
  have y2 := HC6.cell (k := 2) rfl
  have t1 := HA6.out.1.cell (k := 1) rfl
  have hz1 := HA6.out.1.frozen 1
  have hzl := HA6.out.lt
  have HCC6 := Lib.hid HC6
  clear HC5 HA5 HO5 HF5 s1 ho6 CR HC6
  have HBAD : Hid (rdPo f.ps r.s = none → ∀ (w7 : World) (v' : Value), SrAt w7 z ⟨s4, true⟩ → FdAt w7 p m v' f → Only ([z, p, m] ++ rb v) w w7 → NewOf w v v' → SrP w w7 z p m v r f) := Lib.hid (fun hR w7 v' a b c d => ⟨⟨s4, true⟩, f, v', a, b, c, d, by rw [hR]⟩)
  have oz : ∀ (w' : World), Only [z] w' (w'.setCell ⟨z, 1, none⟩ (.bool true)) := fun w' => (Only.refl _ _).setCell (.inl (by simp)) _
  have hpz : p ∉ [z] := by simpa using fun e => hzp e.symm
  have hmz : m ∉ [z] := by simpa using fun e => hzm e.symm
  cases q with
  | false =>
    have hR : rdPo f.ps r.s = none := by rw [HCH.out]; simp
    have HFIN := Lib.hid (HBAD.out hR (w6.setCell ⟨z, 1, none⟩ (.bool true)) v ⟨HA6.out.1.set 1 _, HA6.out.2⟩ (HF6.out.only (oz _) hpz hmz (fun g hg hm => by simp at hm; subst hm; exact HZV.out hg)) ((HO6.out.tr (oz _)).mono (by simp)) (NewOf.refl _ _))
    clear y0 y1 y2 HBAD hR oz
    go_wp2_with fail
    refine bodyPost_ret (results_none rfl _ _ _) rfl ?_
    exact ⟨rfl, HFIN.out⟩
  | true =>
  have CA := Lib.hid (source_add p m v f ⟨a, b, c⟩ HL.out w6 HF6.out)
  have hab : addB f ⟨a, b, c⟩ = (idx f.ps a).isNone := by
    unfold addB
    rw [show (f.ps.length == 200) = false from by simp; omega]
    simp
  obtain ⟨ab, hab2⟩ : ∃ q, addB f ⟨a, b, c⟩ = q := ⟨_, rfl⟩
  rw [hab2] at CA
  clear oz
  go_wp2_with fail
  refine CA.out.mono ?_
  rintro e w7 ⟨v', rfl, hf7, ho7, hn7⟩
  have hps : addF f ⟨a, b, c⟩ = if ab = true then ⟨f.pol, f.fai, f.ps ++ [⟨(f.ps.length : Int) + 1, ⟨a, b, c⟩, false⟩]⟩ else f := by
    unfold addF
    rw [hab2]
  have hzv' : z ∉ [p, m] ++ rb v := by
    simp only [List.cons_append, List.nil_append, List.mem_cons, not_or]
    exact ⟨hzp, hzm, fun hm => HZV.out (by simpa [rb] using hm)⟩
  have HA7 := Lib.hid (HA6.out.only ho7 hzv')
  have HO7 : Hid (Only ([z, p, m] ++ rb v) w w7) := Lib.hid ((HO6.out.mono (by simp)).tr (ho7.mono (by intro k hk; simp at hk ⊢; grind)))
  have HN7 := Lib.hid hn7
  have hzv7 : v'.ownBlock ≠ some z := fun e => (hn7 z e).elim HZV.out (fun hh => by have := HA6.out.1.lt; omega)
  have t1 := HA7.out.1.cell (k := 1) rfl
  have hz1 := HA7.out.1.frozen 1
  have hzl := HA7.out.lt
  have oz : ∀ (w' : World), Only [z] w' (w'.setCell ⟨z, 1, none⟩ (.bool true)) := fun w' => (Only.refl _ _).setCell (.inl (by simp)) _
  cases ab with
  | false =>
    have hR : rdPo f.ps r.s = none := by
      rw [HCH.out, if_neg (by simp), if_neg]
      rintro ⟨_, hi⟩
      rw [hi] at hab
      rw [hab2] at hab
      cases hab
    have hf7' : FdAt w7 p m v' f := by rw [hps] at hf7; exact hf7
    have HF7 := Lib.hid hf7'
    have HN : Hid (NewOf w v v') := Lib.hid (fun g hg => (HN7.out g hg).elim .inl (fun hh => .inr (Nat.le_trans HO6.out.size hh)))
    have HFIN := Lib.hid (HBAD.out hR (w7.setCell ⟨z, 1, none⟩ (.bool true)) v' ⟨HA7.out.1.set 1 _, HA7.out.2⟩ (HF7.out.only (oz _) hpz hmz (fun g hg hm => by simp at hm; subst hm; exact hzv7 hg)) (HO7.out.tr ((oz _).mono (by simp))) HN.out)
    clear y0 y1 y2 HBAD hR oz hf7 hf7' ho7 hn7 hps hab hab2
    go_wp2_with fail
    refine bodyPost_ret (results_none rfl _ _ _) rfl ?_
    exact ⟨rfl, HFIN.out⟩
  | true =>
  have hR : rdPo f.ps r.s = some (f.ps ++ [⟨(f.ps.length : Int) + 1, ⟨a, b, c⟩, d⟩], s4) := by
    rw [HCH.out, if_neg (by simp), if_pos]
    refine ⟨by trivial, ?_⟩
    rw [hab2] at hab
    exact Option.isNone_iff_eq_none.1 hab.symm
  have hf7' : FdAt w7 p m v' ⟨f.pol, f.fai, f.ps ++ [⟨(f.ps.length : Int) + 1, ⟨a, b, c⟩, false⟩]⟩ := by rw [hps] at hf7; exact hf7
  have HR := Lib.hid hR
  clear hR hps hf7 hab hab2 HBAD HCH oz t1 hz1
  have HN : Hid (NewOf w v v') := Lib.hid (fun g hg => (HN7.out g hg).elim .inl (fun hh => .inr (Nat.le_trans HO6.out.size hh)))
  clear CA y0 y1 y2 HCC6 ho7 hn7 hzv' hzv7
  have hlen : (f.ps ++ [(⟨(f.ps.length : Int) + 1, ⟨a, b, c⟩, false⟩ : Po)]).length = f.ps.length + 1 := by simp
  have hrow7 := hf7'.row
  have hat7 : (poL (f.ps ++ [⟨(f.ps.length : Int) + 1, ⟨a, b, c⟩, false⟩]))[f.ps.length * 5 + 4]? = some (.bool false) := by
    unfold poL
    rw [flat_get Po.cells 5 (fun _ => rfl) _ f.ps.length 4 ⟨(f.ps.length : Int) + 1, ⟨a, b, c⟩, false⟩ (by simp) (by omega)]
    rfl
  obtain ⟨g, cc, rfl, hgl, _, q4⟩ := own_cell hrow7 hat7
  have c2 := hf7'.cells.cell (k := 2) rfl
  have hplt := hf7'.cells.lt
  dsimp only at c2 hrow7
  rw [hlen] at c2 hrow7
  have HF7 := Lib.hid hf7'
  have HROW7 := Lib.hid hrow7
  have hgp : g ≠ p := fun e => hf7'.vp (by rw [e]; rfl)
  have hgm : g ≠ m := fun e => hf7'.vm (by rw [e]; rfl)
  have hgz : g ≠ z := fun e => (HN.out g rfl).elim (fun hh => HZV.out (e ▸ hh)) (fun hh => by omega)
  clear hf7' hrow7
  obtain ⟨n, hn'⟩ : ∃ n, f.ps.length = n := ⟨_, rfl⟩
  rw [hn'] at c2 hn q4
  have u2 := fun u : Since w7 => u.cell c2
  have hi0 : IntKind.i64.wrap (((n + 1 : Nat) : Int) - 1) = (n : Int) := by rw [IntKind.wrap_i64]; omega
  have hi1 : (n : Int) < ((n + 1 : Nat) : Int) := by omega
  have hi2 : (0 : Int) ≤ (n : Int) := by omega
  go_upto_region 4 with fail
  refine wp_region_only_tail w7 (Only.refl _ _) 13 (by kernel_rfl) (by kernel_rfl) ?_
  simp only [List.take_succ_cons, List.take_zero, List.drop_succ_cons, List.drop_zero]
  repeat (go_big_quiet_step (fail))
  refine wpQuiet_nil ?_
  rintro ⟨w8, ho8⟩
  dsimp only
  have hrow8 := own_keep HROW7.out ho8 (by simp)
  have z4 : w8.frozen? ⟨g, n * 5 + 4, none⟩ = false := hrow8.frozenAt _
  have q5 := (ho8.cell (p := ⟨g, n * 5 + 4, none⟩) (World.block_lt_of_cell? w7 _ q4) (by simp)).trans q4
  have hg8 : g < w8.heap.size := World.block_lt_of_cell? w8 _ q5
  have HFIN : Hid (SrP w (w8.setCell ⟨g, n * 5 + 4, none⟩ (.bool d)) z p m v r f) := Lib.hid (by
    subst hn'
    have o9 : Only [g] w8 (w8.setCell ⟨g, f.ps.length * 5 + 4, none⟩ (.bool d)) := (Only.refl _ _).setCell (.inl (by simp)) _
    have hF8 := HF7.out.only ho8 (by simp) (by simp) (by simp)
    have hr9 := row_read (x := ⟨(f.ps.length : Int) + 1, ⟨a, b, c⟩, false⟩) hrow8 d
    have hl2 : (f.ps ++ [(⟨(f.ps.length : Int) + 1, ⟨a, b, c⟩, d⟩ : Po)]).length = f.ps.length + 1 := by simp
    refine ⟨⟨s4, false⟩, ⟨f.pol, f.fai, f.ps ++ [⟨(f.ps.length : Int) + 1, ⟨a, b, c⟩, d⟩]⟩, .slice (some ⟨g, 0, none⟩) (f.ps.length + 1) cc, (HA7.out.only (ho8.of0.tr o9) (by simpa using fun e => hgz e.symm)), ⟨?_, ?_, ?_, ?_, ?_⟩, ?_, HN.out, ?_⟩
    · have := hF8.cells.only o9 (by simpa using fun e => hgp e.symm)
      dsimp only at this ⊢
      rw [hlen] at this
      exact this
    · show World.ownsRow _ _ _ _ _ (f.ps ++ [(⟨(f.ps.length : Int) + 1, ⟨a, b, c⟩, d⟩ : Po)]).length _
      rw [hl2]
      exact hr9
    · show MapF _ m (f.ps ++ [(⟨(f.ps.length : Int) + 1, ⟨a, b, c⟩, d⟩ : Po)]).length (atF (f.ps ++ [(⟨(f.ps.length : Int) + 1, ⟨a, b, c⟩, d⟩ : Po)]))
      have hm := hF8.map.only o9 (by simpa using fun e => hgm e.symm)
      rw [hl2]
      rw [hlen] at hm
      rw [show atF (f.ps ++ [(⟨(f.ps.length : Int) + 1, ⟨a, b, c⟩, d⟩ : Po)]) = atF (f.ps ++ [(⟨(f.ps.length : Int) + 1, ⟨a, b, c⟩, false⟩ : Po)]) from by funext k; unfold atF idx; rw [List.findIdx?_append, List.findIdx?_append]; rfl]
      exact hm
    · have := hF8.cap; simpa using this
    · exact hF8.nb
    · by_cases hv : v.ownBlock = some g
      · exact (HO7.out.tr0 ho8).tr (o9.mono (by intro k hk; simp at hk; subst hk; simp [rb, hv]))
      · have hgw : w.heap.size ≤ g := (HN.out g rfl).elim (fun h => absurd h hv) id
        exact (HO7.out.tr0 ho8).trans o9 (fun x hx => by simp at hx; subst hx; exact .inr hgw)
    · rw [HR.out]; exact ⟨rfl, rfl⟩)
  go_wp2_with fail
  go_end0
  exact ⟨rfl, HFIN.out⟩
end Go.Proofs.YtjfnkjpnjiobjaaGreat
namespace Go.Proofs.YtjfnkjpnjiobjaaGreat
open Go.RowKit
theorem rdPs_len {n : Nat} : ∀ {ps qs : List Po} {s t : List UInt8}, rdPs n ps s = some (qs, t) → qs.length = ps.length + n := by
  induction n with
  | zero => intro ps qs s t h; unfold rdPs at h; simp at h; rw [h.1]; simp
  | succ n ih =>
    intro ps qs s t h
    unfold rdPs at h
    split at h
    · cases h
    · rename_i q u h1
      have e1 := (rdPo_len h1).2
      have e2 := ih h
      omega
theorem num_ok {r : Rd} {lo hi : Int} (h : (r.num lo hi).bad = false) : r.bad = false ∧ lo ≤ r.int.1 ∧ r.int.1 ≤ hi := by
  unfold Rd.num at h
  simp only [Bool.or_eq_false_iff, decide_eq_false_iff_not] at h
  obtain ⟨⟨h1, h2⟩, h3⟩ := h
  refine ⟨?_, by omega, by omega⟩
  cases hb : r.bad with
  | false => rfl
  | true =>
    have : r.int.2.bad = true := get_bad hb
    rw [this] at h1
    cases h1
def SrS (w w' : World) (z : Nat) (r : Rd) (e : Ending) : Prop := ∃ r' nm p, e = .returned (.tuple #[.string ⟨nm.toArray⟩, .pointer (some ⟨p, 0, none⟩)]) ∧ SrAt w' z r' ∧ Only [z] w w' ∧ nm.length ≤ maxLen ∧ match rdFd r.s with
  | none => r'.bad = true
  | some (x, t) => r' = ⟨t, false⟩ ∧ nm = x.1 ∧ nmL nm = true ∧ ∃ m v, FdAt w' p m v x.2 ∧ ∀ g ∈ [p, m] ++ rb v, w.heap.size ≤ g
set_option maxRecDepth 100000 in
set_option maxHeartbeats 4000000 in
theorem sr_source (z : Nat) (r : Rd) (w : World) (h : SrAt w z r) (hb : r.bad = false) :
    Calls Tryz.prog 46 #[.pointer (some ⟨z, 0, none⟩)] w fun e w' => SrS w w' z r e := by
  have hl := h.2
  have hzw := h.1.lt
  obtain ⟨r1, h1⟩ : ∃ q, r.text.2 = q := ⟨_, rfl⟩
  obtain ⟨r2, h2⟩ : ∃ q, r1.num (-1) 1099511627776 = q := ⟨_, rfl⟩
  obtain ⟨r3, h3⟩ : ∃ q, r2.num 0 1000 = q := ⟨_, rfl⟩
  obtain ⟨r4, h4⟩ : ∃ q, r3.num 0 200 = q := ⟨_, rfl⟩
  have HCH := Lib.hid (hd_chain r r1 r2 r3 r4 hb h1.symm h2.symm h3.symm h4.symm)
  have HOK := Lib.hid (fun nm pol fai n => hdB_ok (r4 := r4) (nm := nm) (pol := pol) (fai := fai) (n := n) hl)
  have HNB : Hid (r4.bad = false → (-1 ≤ r1.int.1 ∧ r1.int.1 ≤ 1099511627776) ∧ (0 ≤ r2.int.1 ∧ r2.int.1 ≤ 1000) ∧ 0 ≤ r3.int.1 ∧ r3.int.1 ≤ 200) := Lib.hid (fun hq => by
    rw [← h4] at hq
    obtain ⟨k3, n3⟩ := num_ok hq
    rw [← h3] at k3
    obtain ⟨k2, n2⟩ := num_ok k3
    rw [← h2] at k2
    exact ⟨(num_ok k2).2, n2, n3⟩)
  have hnl := Rd.len_text hl
  have C1 := Lib.hid (fun w' hh => sr_read_text z r w' hh)
  rw [h1] at C1
  have C2 := Lib.hid (fun w' hh => sr_number z r1 (-1) 1099511627776 w' hh)
  have C3 := Lib.hid (fun w' hh => sr_number z r2 0 1000 w' hh)
  have C4 := Lib.hid (fun w' hh => sr_number z r3 0 200 w' hh)
  rw [h2] at C2
  rw [h3] at C3
  rw [h4] at C4
  obtain ⟨nm, ha⟩ : ∃ q, r.text.1 = q := ⟨_, rfl⟩
  obtain ⟨pol, hb'⟩ : ∃ q, r1.int.1 = q := ⟨_, rfl⟩
  obtain ⟨fai, hc⟩ : ∃ q, r2.int.1 = q := ⟨_, rfl⟩
  obtain ⟨n, hd⟩ : ∃ q, r3.int.1 = q := ⟨_, rfl⟩
  rw [ha] at C1 HCH hnl
  rw [hb'] at C2 HCH HNB
  rw [hc] at C3 HCH HNB
  rw [hd] at C4 HCH HNB
  have HS := Lib.hid h
  have CN := Lib.hid (fun w' => shard_name nm w' (by unfold maxLen at hnl; omega))
  have HF0 := Lib.hid (fun w' => fresh_at w')
  have CF := Lib.hid (fun w' => store_fresh w')
  clear h h1 h2 h3 h4 ha hb' hc hd
  go_enter Tryz.func46, Tryz.ntmps46
  go_wp2_with fail
  refine (CF.out _).mono ?_
  rintro e w1 ⟨rfl, hw1⟩
  obtain ⟨p, hp⟩ : ∃ p, w.heap.size + 1 = p := ⟨_, rfl⟩
  obtain ⟨m, hm⟩ : ∃ m, w.heap.size = m := ⟨_, rfl⟩
  have hf1 := HF0.out w
  rw [← hw1] at hf1
  have ho1 : Only [] w w1 := hw1 ▸ ((Only.refl [] w).alloc _).alloc _
  rw [hp, hm] at hf1
  rw [hp]
  have HA1 := Lib.hid (HS.out.only ho1 (by simp))
  have HO1 := Lib.hid ho1
  have HF1 := Lib.hid hf1
  have hmp : m < p := by omega
  have hzm : z < m := by omega
  have HM := Lib.hid hm
  clear hw1 hf1 ho1 CF HF0 hp hm
  go_wp2_with fail
  refine (C1.out _ HA1.out).mono ?_
  rintro e w2 ⟨rfl, hA, ho⟩
  have HA2 := Lib.hid hA
  have HO2 := Lib.hid (HO1.out.of0.tr ho)
  have HF2 := Lib.hid (HF1.out.only ho (by simp; omega) (by simp; omega) (by simp [Value.ownBlock]))
  clear hA ho C1 HA1 HO1 HF1
  go_wp2_with fail
  refine (C2.out _ HA2.out).mono ?_
  rintro e w3 ⟨rfl, hA, ho⟩
  have HA3 := Lib.hid hA
  have HO3 := Lib.hid (HO2.out.tr ho)
  have HF3 := Lib.hid (HF2.out.only ho (by simp; omega) (by simp; omega) (by simp [Value.ownBlock]))
  clear hA ho C2 HA2 HO2 HF2
  go_wp2_with fail
  refine (C3.out _ HA3.out).mono ?_
  rintro e w4 ⟨rfl, hA, ho⟩
  have HA4 := Lib.hid hA
  have HO4 := Lib.hid (HO3.out.tr ho)
  have hF4 := HF3.out.only ho (by simp; omega) (by simp; omega) (by simp [Value.ownBlock])
  have hplt := hF4.cells.lt
  have p0 := hF4.cells.cell (k := 0) rfl
  have p1 := hF4.cells.cell (k := 1) rfl
  have pz0 := hF4.cells.frozen 0
  have pz1 := hF4.cells.frozen 1
  have HF4 := Lib.hid hF4
  clear hA ho C3 HA3 HO3 HF3 hF4
  go_upto_region 3 with fail
  obtain ⟨w5, hw5⟩ : ∃ u, (w4.setCell ⟨p, 0, none⟩ (.int .i64 pol)).setCell ⟨p, 1, none⟩ (.int .i64 fai) = u := ⟨_, rfl⟩
  have o5 : Only [p] w4 w5 := hw5 ▸ ((Only.refl _ _).setCell (.inl (by simp)) _).setCell (.inl (by simp)) _
  have hwp : w.heap.size ≤ p := by have := HM.out; omega
  have hc5 : Cells w5 p 78 [.int .i64 pol, .int .i64 fai, .slice none 0 0, .map (some m)] := hw5 ▸ (HF4.out.cells.set 0 (.int .i64 pol)).set 1 (.int .i64 fai)
  have hm5 : MapF w5 m 0 (atF []) := HF4.out.map.only o5 (by simp; omega)
  have hr5 : w5.ownsRow 0 52 5 (.slice none 0 0) 0 (poL []) := own_keep HF4.out.row o5 (by simp [Value.ownBlock])
  have HA5 := Lib.hid (HA4.out.only o5 (by simp; omega))
  have HO5 := Lib.hid (HO4.out.trans o5 (fun x hx => by simp at hx; subst hx; exact .inr hwp))
  have HC5 := Lib.hid hc5
  have HM5 := Lib.hid hm5
  have HR5 := Lib.hid hr5
  rw [hw5]
  clear hw5 o5 hc5 hm5 hr5 HF4 HA4 HO4 p0 p1 pz0 pz1 hplt
  go_wp2_with fail
  refine (C4.out _ HA5.out).mono ?_
  rintro e w6 ⟨rfl, hA, ho⟩
  have HA6 := Lib.hid hA
  have HO6 := Lib.hid (HO5.out.tr ho)
  have HC6 := Lib.hid (HC5.out.only ho (by simp; omega))
  have HF6 : Hid (-1 ≤ pol ∧ pol ≤ 1099511627776 ∧ 0 ≤ fai ∧ fai ≤ 1000 → FdAt w6 p m (.slice none 0 0) ⟨pol, fai, []⟩) := Lib.hid (fun hnb => ⟨HC6.out, own_keep HR5.out ho (by simp [Value.ownBlock]), HM5.out.only ho (by simp; omega), by simp, hnb⟩)
  have p0 := HC6.out.cell (k := 0) rfl
  have p1 := HC6.out.cell (k := 1) rfl
  have s1 := hA.1.cell (k := 1) rfl
  have sz1 := hA.1.frozen 1
  have hzl := hA.1.lt
  clear hA ho C4 HA5 HO5 HC5 HM5 HR5
  obtain ⟨s4, b4⟩ := r4
  dsimp only at s1
  obtain ⟨q, hq⟩ : ∃ q, hdB ⟨s4, b4⟩ nm pol fai n = q := ⟨_, rfl⟩
  have HQ := Lib.hid hq
  clear hq
  go_upto_region 4 with fail
  go_cut [] from 22 (fun wx => wx = w6.setCell ⟨z, 1, none⟩ (.bool q))
  case first =>
    cases b4 with
    | true =>
      have e : Hid (true = q) := Lib.hid (by rw [← HQ.out]; unfold hdB; simp)
      go_wp2_with fail
      go_meet
      rw [← e.out]
    | false =>
    obtain ⟨⟨n0, n1⟩, ⟨n2, n3⟩, n4, n5⟩ := HNB.out rfl
    go_wp2_with fail
    refine (CN.out _).mono ?_
    rintro e w7 ⟨rfl, rfl⟩
    obtain ⟨ok, hok⟩ : ∃ b, nmL nm = b := ⟨_, rfl⟩
    rw [hok]
    cases ok with
    | false =>
      have e : Hid (true = q) := Lib.hid (by rw [← HQ.out]; unfold hdB; simp [hok])
      go_wp2_with fail
      go_meet
      rw [← e.out]
    | true =>
    obtain ⟨pm, hpm⟩ : ∃ b, (pol == -1) = b := ⟨_, rfl⟩
    have hok : Hid (nmL nm = true) := Lib.hid hok
    cases pm with
    | false =>
      have e : Hid (false = q) := Lib.hid (by rw [← HQ.out]; unfold hdB; simp [hok.out, hpm])
      go_wp2_with fail
      go_meet
      rw [← e.out]
    | true =>
    have e : Hid (decide (0 < fai + n) = q) := Lib.hid (by rw [← HQ.out]; unfold hdB; simp [hok.out, hpm])
    have hw : IntKind.i64.wrap (fai + n) = fai + n := by rw [IntKind.wrap_i64]; omega
    generalize hd : decide (0 < fai + n) = d at e
    go_wp2_with fail
    go_meet
    rw [← e.out]
  case rest =>
  subst hcut
  have HO7 : Hid (Only [z] w (w6.setCell ⟨z, 1, none⟩ (.bool q))) := Lib.hid (HO6.out.setCell (.inl (by simp)) _)
  have o67 : Only [z] w6 (w6.setCell ⟨z, 1, none⟩ (.bool q)) := (Only.refl _ _).setCell (.inl (by simp)) _
  have HA7 : Hid (SrAt (w6.setCell ⟨z, 1, none⟩ (.bool q)) z ⟨s4, q⟩) := Lib.hid ⟨HA6.out.1.set 1 _, HA6.out.2⟩
  obtain ⟨w7, hw7⟩ : ∃ u, w6.setCell ⟨z, 1, none⟩ (.bool q) = u := ⟨_, rfl⟩
  rw [hw7] at HO7 o67 HA7 ⊢
  have HF7 : Hid (-1 ≤ pol ∧ pol ≤ 1099511627776 ∧ 0 ≤ fai ∧ fai ≤ 1000 → FdAt w7 p m (.slice none 0 0) ⟨pol, fai, []⟩) := Lib.hid (fun hnb => (HF6.out hnb).only o67 (by simp; omega) (by simp; omega) (by simp [Value.ownBlock]))
  clear hw7 o67 HA6 HF6 HC6 HO6 p0 p1 s1 sz1 hzl CN
  cases q with
  | true =>
    have hR : rdFd r.s = none := by
      have := HCH.out
      rw [HQ.out, if_pos rfl] at this
      unfold rdFd
      rw [this]
    have HFIN : Hid (SrS w w7 z r (.returned (.tuple #[.string ⟨nm.toArray⟩, .pointer (some ⟨p, 0, none⟩)]))) := Lib.hid ⟨⟨s4, true⟩, nm, p, rfl, HA7.out, HO7.out, hnl, by rw [hR]⟩
    have s1 := HA7.out.1.cell (k := 1) rfl
    dsimp only at s1
    clear hR HO7
    go_wp2_with fail
    go_loopw [51] (fun i wr => i = .int .i64 0 ∧ w7 = wr) (fun _ _ => 0)
    case atStart => exact ⟨rfl, rfl⟩
    case round =>
      obtain ⟨rfl, rfl⟩ := hrel
      go_wp2_with fail
      all_goals
        go_ret2
        exact HFIN.out
  | false =>
  obtain ⟨hnm, b0⟩ : nmL nm = true ∧ b4 = false := by
    have := HQ.out
    unfold hdB at this
    simp only [Bool.or_eq_false_iff, Bool.not_eq_false'] at this
    exact ⟨this.1.2, this.1.1⟩
  obtain ⟨⟨n0, n1⟩, ⟨n2, n3⟩, n4, n5⟩ := HNB.out b0
  have hH : rdHd r.s = some ((nm, pol, fai, n), s4) := by
    have := HCH.out
    rw [HQ.out] at this
    exact this
  obtain ⟨N, hN⟩ : ∃ N : Nat, n.toNat = N := ⟨_, rfl⟩
  have hn : n = (N : Int) := by omega
  have hN2 : N ≤ 200 := by omega
  have HR : Hid (rdFd r.s = match rdPs N [] s4 with | none => none | some (ps, u) => some ((nm, ⟨pol, fai, ps⟩), u)) := Lib.hid (by unfold rdFd; rw [hH]; dsimp only; rw [hN]; all_goals (cases rdPs N [] s4 with | none => rfl | some x => (cases x; rfl)))
  have hF7 := HF7.out ⟨n0, n1, n2, n3⟩
  have HFF := Lib.hid hF7
  have HNM := Lib.hid hnm
  subst hn
  have hzpm : z ≠ p ∧ z ≠ m := ⟨by omega, by omega⟩
  have HW := HM.out
  clear hF7 hH hnm b0 HNB HOK HCH HQ HF7 hN hb
  go_wp2_with fail
  go_loopw [51] (fun i wr => ∃ (k : Nat) (r' : Rd) (v : Value) (f : Fd), k ≤ N ∧ i = .int .i64 k ∧ Hid (SrAt wr z r') ∧ Hid (Only [z] w wr) ∧ Hid (FdAt wr p m v f) ∧ Hid (∀ g ∈ rb v, w.heap.size ≤ g) ∧ (r'.bad = true ∧ Hid (rdPs N [] s4 = none) ∨ r'.bad = false ∧ f.ps.length = k ∧ f.pol = pol ∧ f.fai = fai ∧ Hid (rdPs N [] s4 = rdPs (N - k) f.ps r'.s))) (fun i _ => N - (intOf i).toNat)
  case atStart => exact ⟨0, ⟨s4, false⟩, _, _, by omega, rfl, HA7, HO7, HFF, Lib.hid (by simp [rb, Value.ownBlock]), .inr ⟨rfl, rfl, rfl, rfl, Lib.hid rfl⟩⟩
  case round =>
    obtain ⟨k, ⟨t, bad⟩, v, f, hk, rfl, HA, HO, HF, HV, hcase⟩ := hrel
    by_cases hlt : k < N
    · have hlt' : (k : Int) < (N : Int) := by omega
      have s1 := HA.out.1.cell (k := 1) rfl
      dsimp only at s1 hcase
      rcases hcase with ⟨rfl, HN⟩ | ⟨rfl, hkl, hpo, hfa, HN⟩
      · have HFIN : Hid (SrS w wr z r (.returned (.tuple #[.string ⟨nm.toArray⟩, .pointer (some ⟨p, 0, none⟩)]))) := Lib.hid ⟨⟨t, true⟩, nm, p, rfl, HA.out, HO.out, hnl, by rw [HR.out, HN.out]⟩
        clear HR HN
        go_wp2_with fail
        go_ret2
        exact HFIN.out
      · have CP := Lib.hid (sr_post z p m v ⟨t, false⟩ f wr HA.out HF.out rfl (by omega) ⟨hzpm.1, hzpm.2, fun e => by have := HV.out z (by simp [rb, e]); omega⟩)
        go_wp2_with fail
        refine CP.out.mono ?_
        rintro e w8 ⟨rfl, r', f', v', hA, hf, ho, hnw, hm⟩
        have hv' : ∀ g ∈ rb v', w.heap.size ≤ g := by
          intro g hg
          simp only [rb, Option.mem_toList] at hg
          rcases hnw g hg with h1 | h1
          · exact HV.out g (by simp [rb, h1])
          · exact Nat.le_trans HO.out.size h1
        have hOo : Only [z] w w8 := HO.out.trans ho (by
          intro x hx
          simp only [List.cons_append, List.nil_append, List.mem_cons] at hx ⊢
          rcases hx with rfl | rfl | rfl | hx
          · exact .inl (.inl rfl)
          · exact .inr (by omega)
          · exact .inr (by omega)
          · exact .inr (HV.out x hx))
        have hnext : rdPs N [] s4 = match rdPo f.ps t with | none => none | some (qs, u) => rdPs (N - (k + 1)) qs u := by
          rw [HN.out, show N - k = (N - (k + 1)) + 1 from by omega]
          rfl
        have hrel' : Hid (r'.bad = true ∧ Hid (rdPs N [] s4 = none) ∨ r'.bad = false ∧ f'.ps.length = k + 1 ∧ f'.pol = pol ∧ f'.fai = fai ∧ Hid (rdPs N [] s4 = rdPs (N - (k + 1)) f'.ps r'.s)) := Lib.hid (by
          dsimp only at hm
          cases hp : rdPo f.ps t with
          | none =>
            rw [hp] at hm hnext
            exact .inl ⟨hm, Lib.hid hnext⟩
          | some x =>
            obtain ⟨qs, u⟩ := x
            rw [hp] at hm hnext
            obtain ⟨rfl, rfl⟩ := hm
            exact .inr ⟨rfl, by have := (rdPo_len hp).2; dsimp only; omega, hpo, hfa, Lib.hid hnext⟩)
        have HA8 := Lib.hid hA
        have HF8 := Lib.hid hf
        have HO8 := Lib.hid hOo
        have HV8 := Lib.hid hv'
        have hw : IntKind.i64.wrap ((k : Int) + 1) = ((k + 1 : Nat) : Int) := by rw [IntKind.wrap_i64]; omega
        clear hA hf ho hnw hm hv' hOo hnext CP HN hpo hfa
        go_wp2_with fail
        go_roundw
        case rel => exact ⟨k + 1, r', v', f', by omega, rfl, HA8, HO8, HF8, HV8, hrel'.out⟩
        case measure => simp [intOf]; omega
    · have hlt' : ¬ (k : Int) < (N : Int) := by omega
      have hkN : k = N := by omega
      have HFIN : Hid (SrS w wr z r (.returned (.tuple #[.string ⟨nm.toArray⟩, .pointer (some ⟨p, 0, none⟩)]))) := Lib.hid (by
        refine ⟨⟨t, bad⟩, nm, p, rfl, HA.out, HO.out, hnl, ?_⟩
        rcases hcase with ⟨hb, HN⟩ | ⟨hb, hkl, hpo, hfa, HN⟩
        · rw [HR.out, HN.out]; exact hb
        · rw [HR.out, HN.out, hkN, Nat.sub_self]
          refine ⟨by dsimp only at hb; rw [hb], rfl, HNM.out, m, v, ?_, ?_⟩
          · have : (⟨pol, fai, f.ps⟩ : Fd) = f := by rw [← hpo, ← hfa]
            rw [this]; exact HF.out
          · intro g hg
            simp only [List.cons_append, List.nil_append, List.mem_cons] at hg
            rcases hg with rfl | rfl | hg
            · omega
            · omega
            · exact HV.out g hg)
      clear hcase HR HNM HA HF
      go_wp2_with fail
      go_ret2
      exact HFIN.out
end Go.Proofs.YtjfnkjpnjiobjaaGreat
namespace Go.Proofs.YtjfnkjpnjiobjaaGreat
open Go.RowKit
section
variable {α : Type} (key : α → List UInt8)
/-- Where a key stands, or would stand. -/
def ixB (k : List UInt8) (l : List α) : Nat := (l.takeWhile fun a => decide (key a < k)).length
theorem ixB_le (k : List UInt8) (l : List α) : ixB key k l ≤ l.length := by
  unfold ixB
  exact (List.takeWhile_prefix _).length_le
theorem ixB_lt (k : List UInt8) : ∀ (l : List α) (j : Nat) (a : α), j < ixB key k l → l[j]? = some a → key a < k
  | [], j, a, h, _ => by simp [ixB] at h
  | x :: r, j, a, h, ha => by
    unfold ixB at h
    rw [List.takeWhile_cons] at h
    split at h
    · rename_i hx
      cases j with
      | zero => simp at ha; subst ha; simpa using hx
      | succ j => exact ixB_lt k r j a (by unfold ixB; simpa using h) (by simpa using ha)
    · simp at h
theorem ixB_end (k : List UInt8) : ∀ (l : List α) (a : α), l[ixB key k l]? = some a → ¬ key a < k
  | [], a, h => by simp at h
  | x :: r, a, h => by
    unfold ixB at h
    rw [List.takeWhile_cons] at h
    split at h
    · exact ixB_end k r a (by unfold ixB; simpa using h)
    · rename_i hx
      simp at h
      subst h
      simpa using hx
theorem insBy_at (x : α) : ∀ l : List α, insBy key x l = l.take (ixB key (key x) l) ++ x :: l.drop (ixB key (key x) l)
  | [] => by simp [insBy, ixB]
  | a :: r => by
    unfold insBy ixB
    rw [List.takeWhile_cons]
    by_cases h : key a < key x
    · rw [if_pos h, if_pos (by simpa using h), insBy_at x r]
      simp [ixB]
    · rw [if_neg h, if_neg (by simpa using h)]
      simp
theorem find_at (k : List UInt8) (l : List α) (hs : l.Pairwise (fun a b => key a < key b)) : l.find? (fun a => key a == k) = match l[ixB key k l]? with
    | none => none
    | some a => if key a = k then some a else none := by
  induction l with
  | nil => rfl
  | cons a r ih =>
    have h1 := List.pairwise_cons.1 hs
    have ih := ih h1.2
    unfold ixB
    rw [List.takeWhile_cons, List.find?_cons]
    by_cases h : key a < k
    · have hne : (key a == k) = false := by
        have : key a ≠ k := fun e => by rw [e] at h; exact List.lt_irrefl k h
        simpa using this
      rw [if_pos (by simpa using h), hne]
      simpa [ixB] using ih
    · rw [if_neg (by simpa using h)]
      simp only [List.length_nil, List.getElem?_cons_zero]
      by_cases he : key a = k
      · rw [if_pos he, show (key a == k) = true from by simpa using he]
      · rw [if_neg he, show (key a == k) = false from by simpa using he]
        refine List.find?_eq_none.2 fun b hb => ?_
        have h2 : k < key a := lt_of_not h he
        have h3 := List.lt_trans h2 (h1.1 b hb)
        simp only [beq_iff_eq]
        intro e
        rw [e] at h3
        exact List.lt_irrefl k h3
theorem ixB_lt1 {k : List UInt8} {x : α} (r : List α) (h : key x < k) : ixB key k (x :: r) = ixB key k r + 1 := by
  unfold ixB
  rw [List.takeWhile_cons, if_pos (by simpa using h)]
  rfl
theorem ixB_ge1 {k : List UInt8} {x : α} (r : List α) (h : ¬ key x < k) : ixB key k (x :: r) = 0 := by
  unfold ixB
  rw [List.takeWhile_cons, if_neg (by simpa using h)]
  rfl
theorem ne_lt {a k : List UInt8} (h : a < k) : (a == k) = false := by
  have : a ≠ k := fun e => by rw [e] at h; exact List.lt_irrefl k h
  simpa using this
theorem ne_gt {a k : List UInt8} (h : k < a) : (a == k) = false := by
  have : a ≠ k := fun e => by rw [e] at h; exact List.lt_irrefl k h
  simpa using this
theorem delBy_at (k : List UInt8) (l : List α) (hs : l.Pairwise (fun a b => key a < key b)) (a : α) (ha : l[ixB key k l]? = some a) (hk : key a = k) : delBy key k l = l.take (ixB key k l) ++ l.drop (ixB key k l + 1) := by
  induction l with
  | nil => simp at ha
  | cons x r ih =>
    have h1 := List.pairwise_cons.1 hs
    by_cases h : key x < k
    · rw [ixB_lt1 key r h] at ha ⊢
      have := ih h1.2 (by simpa using ha)
      show (x :: r).filter _ = _
      rw [List.filter_cons, ne_lt h]
      simp only [Bool.not_false, if_true, List.take_succ_cons, List.drop_succ_cons, List.cons_append]
      exact congrArg _ this
    · rw [ixB_ge1 key r h] at ha ⊢
      simp at ha
      subst ha
      show (x :: r).filter _ = _
      rw [List.filter_cons, show (key x == k) = true from by simpa using hk]
      simp only [Bool.not_true, Bool.false_eq_true, if_false, List.take_zero, List.nil_append, Nat.zero_add, List.drop_succ_cons, List.drop_zero]
      refine List.filter_eq_self.2 fun b hb => ?_
      have h3 := h1.1 b hb
      rw [hk] at h3
      rw [ne_gt h3]
      rfl
theorem putBy_at (k : List UInt8) (y : α) (l : List α) (hs : l.Pairwise (fun a b => key a < key b)) (a : α) (ha : l[ixB key k l]? = some a) (hk : key a = k) : putBy key k y l = l.set (ixB key k l) y := by
  induction l with
  | nil => simp at ha
  | cons x r ih =>
    have h1 := List.pairwise_cons.1 hs
    by_cases h : key x < k
    · rw [ixB_lt1 key r h] at ha ⊢
      have := ih h1.2 (by simpa using ha)
      show (x :: r).map _ = _
      rw [List.map_cons, ne_lt h]
      simp only [Bool.false_eq_true, if_false, List.set_cons_succ]
      exact congrArg _ this
    · rw [ixB_ge1 key r h] at ha ⊢
      simp at ha
      subst ha
      show (x :: r).map _ = _
      rw [List.map_cons, show (key x == k) = true from by simpa using hk]
      simp only [if_true, List.set_cons_zero]
      refine congrArg _ ?_
      refine (List.map_congr_left fun b hb => ?_).trans (List.map_id' r)
      have h3 := h1.1 b hb
      rw [hk] at h3
      rw [ne_gt h3]
      rfl
end
/-- An append whose outcome is known. -/
theorem wpList_runapp {P : Program} {ops : Array Oper} {rest : List Oper} {o : Oper} {a : Act} {Q : Exit → Act → World → Prop} {w w' : World} {vs vx v' : Value} (hgd : o.guard = none) (s x : Operand) (t : TypeId)
    (ho : o.op = .call { callee := .builtin .append, args := #[s, x], argTypes := #[t, t] }) (hs : a.eval s = vs) (hx : a.eval x = vx) (hr : (Builtin.append_ #[t, t] o.type #[vs, vx]).run P w = .ok v' w') (h : wpList P ops Q rest (a.put o.dst v') w') : wpList P ops Q (o :: rest) a w := by
  refine wpList_plain hgd fun K hK => ?_
  unfold Oper.wp execOp
  simp only [ho, resolve, invoke, builtin, Sem.run_bind, Sem.run_pure, Result.andThen_ok, List.map_toArray, List.map_cons, List.map_nil, hs, hx, hr]
  exact hK _ _ h
/-- A slice that nobody writes to. -/
structure RfS (w : World) (v : Value) (sz n : Nat) (xs : List Value) : Prop where
  sl : SlAt w w.heap.size v sz n xs
  nil : ∀ n c, v = .slice none n c → n = 0 ∧ c = 0
  one : ∀ u ∈ xs, u.oneCell' = true
theorem slat_keep {S : List Nat} {w w' : World} {B sz n : Nat} {v : Value} {xs : List Value} (h : SlAt w B v sz n xs) (hB : B ≤ w.heap.size) (ho : Only S w w') (hS : ∀ x, x ∈ S → v.ownBlock ≠ some x) : SlAt w' w'.heap.size v sz n xs := by
  obtain ⟨hl, A, c, hv, hnc, hc, h⟩ := h
  refine ⟨hl, A, c, hv, hnc, hc, fun hn => ?_⟩
  obtain ⟨b, o, hA, hb, hh⟩ := h hn
  subst hv
  subst hA
  exact ⟨b, o, rfl, Nat.lt_of_lt_of_le hb (Nat.le_trans hB ho.size), fun j u hu => (ho.cell (p := ⟨b, o + j, none⟩) (show b < _ by omega) (fun hm => hS b hm rfl)).trans (hh j u hu)⟩
theorem RfS.keep {S : List Nat} {w w' : World} {sz n : Nat} {v : Value} {xs : List Value} (h : RfS w v sz n xs) (ho : Only S w w') (hS : ∀ x, x ∈ S → v.ownBlock ≠ some x) : RfS w' v sz n xs :=
  ⟨slat_keep h.sl (Nat.le_refl _) ho hS, h.nil, h.one⟩
theorem RfS.only {w w' : World} {sz n : Nat} {v : Value} {xs : List Value} (h : RfS w v sz n xs) (ho : Only [] w w') : RfS w' v sz n xs := h.keep ho (by simp)
theorem RfS.shape {w : World} {sz n : Nat} {v : Value} {xs : List Value} (h : RfS w v sz n xs) : ∃ A c, v = .slice A n c ∧ n ≤ c ∧ c ≤ maxLen := by
  obtain ⟨_, A, c, hv, h1, h2, _⟩ := h.sl
  exact ⟨A, c, hv, h1, h2⟩
theorem RfS.of_own {w : World} {base : Nat} {e : TypeId} {sz n : Nat} {v : Value} {xs : List Value} (h : w.ownsRow base e sz v n xs) (h1 : ∀ u ∈ xs, u.oneCell' = true) : RfS w v sz n xs :=
  ⟨SlAt.of_own h, fun m c hv => by
    rcases h.2 with ⟨h2, _⟩ | ⟨g, cap, cur, h2, _⟩
    · rw [h2] at hv; injection hv with _ e1 e2; exact ⟨e1.symm, e2.symm⟩
    · rw [h2] at hv; injection hv with e1; (cases e1), h1⟩
theorem RfS.src {w : World} {sz n : Nat} {v : Value} {xs : List Value} (h : RfS w v sz n xs) (hsz : 0 < sz) : SrcA w v sz n xs := by
  refine ⟨h.sl.1, h.one, ?_⟩
  obtain ⟨A, c, hv, _, _⟩ := h.shape
  cases A with
  | none => obtain ⟨h1, h2⟩ := h.nil n c hv; exact .inl ⟨by rw [hv, h1, h2], h1⟩
  | some ad =>
    refine .inr ⟨ad, c, hv, fun j u hu => ?_⟩
    have hj := (List.getElem?_eq_some_iff.1 hu).1
    obtain ⟨b, o, c', hv', _, hc⟩ := h.sl.at_ (by have := h.sl.1; omega)
    rw [hv] at hv'
    injection hv' with e1
    injection e1 with e1
    subst e1
    rw [Addr.add_lit]
    exact hc j u hu
/-- A slice from a place on. -/
theorem RfS.drop {w : World} {sz n c j : Nat} {A : Option Addr} {xs : List Value} (h : RfS w (.slice A n c) sz n xs) (hj : j ≤ n) : RfS w (.slice (if c = j then A else Option.map (fun x => x.add (j * sz)) A) (n - j) (c - j)) sz (n - j) (xs.drop (j * sz)) := by
  obtain ⟨hl, A', c', hv, hnc, hcm, hh⟩ := h.sl
  injection hv with e1 _ e3
  subst e1
  subst e3
  refine ⟨⟨by rw [List.length_drop, hl, Nat.sub_mul], _, _, rfl, by omega, by omega, fun hp => ?_⟩, ?_, fun u hu => h.one u (List.mem_of_mem_drop hu)⟩
  · have hjn : j < n := by
      rcases Nat.lt_or_ge j n with h | h
      · exact h
      · rw [Nat.sub_eq_zero_of_le h] at hp; omega
    obtain ⟨b, o, hb, hlt, hc⟩ := hh (Nat.lt_of_lt_of_le hp (Nat.mul_le_mul_right _ (Nat.sub_le _ _)))
    subst hb
    refine ⟨b, o + j * sz, by rw [if_neg (by omega)]; simp [Addr.add_lit], hlt, fun i u hu => ?_⟩
    rw [List.getElem?_drop] at hu
    rw [Nat.add_assoc]
    exact hc _ u hu
  · intro m k hv
    injection hv with e1 e2 e3
    cases A with
    | none =>
      obtain ⟨h1, h2⟩ := h.nil n c rfl
      exact ⟨by rw [← e2, h1]; simp, by rw [← e3, h2]; simp⟩
    | some a => split at e1 <;> simp at e1
/-- A slice up to a place. -/
theorem RfS.take {w : World} {sz n c m : Nat} {A : Option Addr} {xs : List Value} (h : RfS w (.slice A n c) sz n xs) (hm : m ≤ n) : RfS w (.slice A m c) sz m (xs.take (m * sz)) := by
  obtain ⟨hl, A', c', hv, hnc, hcm, hh⟩ := h.sl
  injection hv with e1 _ e3
  subst e1
  subst e3
  have hms : m * sz ≤ n * sz := Nat.mul_le_mul_right _ hm
  refine ⟨⟨by rw [List.length_take, hl]; omega, _, _, rfl, by omega, hcm, fun hp => ?_⟩, ?_, fun u hu => h.one u (List.mem_of_mem_take hu)⟩
  · obtain ⟨b, o, hb, hlt, hc⟩ := hh (by omega)
    refine ⟨b, o, hb, hlt, fun i u hu => ?_⟩
    have hi : i < m * sz := by have := (List.getElem?_eq_some_iff.1 hu).1; rw [List.length_take] at this; omega
    rw [List.getElem?_take_of_lt hi] at hu
    exact hc i u hu
  · intro k q hv
    injection hv with e1 e2 e3
    subst e1
    obtain ⟨h1, h2⟩ := h.nil n c rfl
    omega
/-- A feed of the document's, with its row of posts. -/
structure Rf where
  nm : List UInt8
  fd : Fd
  v : Value
def Rf.cells (t : Rf) : List Value := [.string ⟨t.nm.toArray⟩, .int .i64 t.fd.pol, .int .i64 t.fd.fai, t.v]
def rfL (T : List Rf) : List Value := T.flatMap Rf.cells
theorem rfL_get (l : List Rf) (i j : Nat) (x : Rf) (h : l[i]? = some x) (hj : j < 4) : (rfL l)[i * 4 + j]? = x.cells[j]? := flat_get Rf.cells 4 (fun _ => rfl) l i j x h hj
theorem rfL_length (l : List Rf) : (rfL l).length = l.length * 4 := flat_length Rf.cells 4 (fun _ => rfl) l
def pR (T : List Rf) : Sv := T.map fun t => (t.nm, t.fd)
def allR (b : Nat) (v : Value) (T : List Rf) : List Nat := b :: (rb v ++ T.flatMap fun t => rb t.v)
/-- What is true of a feed, wherever it is written. -/
structure FdG (f : Fd) : Prop where
  cap : f.ps.length ≤ 200
  nb : -1 ≤ f.pol ∧ f.pol ≤ 1099511627776 ∧ 0 ≤ f.fai ∧ f.fai ≤ 1000
structure RsX (w : World) (b : Nat) (v : Value) (T : List Rf) : Prop where
  cells : Cells w b 28 [v]
  row : w.ownsRow 0 59 4 v T.length (rfL T)
  ps : ∀ t ∈ T, RfS w t.v 5 t.fd.ps.length (poL t.fd.ps)
  pb : ∀ t ∈ T, ∀ g, t.v.ownBlock = some g → g < w.heap.size ∧ g ≠ b ∧ v.ownBlock ≠ some g
  srt : T.Pairwise (fun a b => a.nm < b.nm)
  cap : T.length ≤ 20
  nml : ∀ t ∈ T, nmL t.nm = true
  fg : ∀ t ∈ T, FdG t.fd
theorem mem_rb' {v : Value} {g : Nat} : g ∈ rb v ↔ v.ownBlock = some g := by unfold rb; simp
theorem RsX.vb {w : World} {b : Nat} {v : Value} {T : List Rf} (h : RsX w b v T) : v.ownBlock ≠ some b := own_ne_block h.row h.cells (by decide)
theorem RsX.lts {w : World} {b : Nat} {v : Value} {T : List Rf} (h : RsX w b v T) : ∀ x ∈ allR b v T, x < w.heap.size := by
  intro x hx
  unfold allR at hx
  rcases List.mem_cons.1 hx with rfl | hx
  · exact h.cells.lt
  · rcases List.mem_append.1 hx with hx | hx
    · exact (h.row.lt x (mem_rb'.1 hx)).2
    · obtain ⟨t, ht, hg⟩ := List.mem_flatMap.1 hx
      exact (h.pb t ht x (mem_rb'.1 hg)).1
theorem mem_allR {b : Nat} {v : Value} {T : List Rf} {t : Rf} (ht : t ∈ T) {g : Nat} (hg : t.v.ownBlock = some g) : g ∈ allR b v T := by
  unfold allR
  exact List.mem_cons_of_mem _ (List.mem_append_right _ (List.mem_flatMap.2 ⟨t, ht, mem_rb'.2 hg⟩))
theorem RsX.keep {S : List Nat} {w w' : World} {b : Nat} {v : Value} {T : List Rf} (h : RsX w b v T) (ho : Only S w w') (hS : ∀ x ∈ allR b v T, x ∉ S) : RsX w' b v T :=
  ⟨h.cells.only ho (hS b (by simp [allR])), own_keep h.row ho (fun x hx e => hS x (by unfold allR; exact List.mem_cons_of_mem _ (List.mem_append_left _ (mem_rb'.2 e))) hx), fun t ht => (h.ps t ht).keep ho (fun x hx e => hS x (mem_allR ht e) hx), fun t ht g hg => ⟨Nat.lt_of_lt_of_le (h.pb t ht g hg).1 ho.size, (h.pb t ht g hg).2⟩, h.srt, h.cap, h.nml, h.fg⟩
theorem RsX.only {w w' : World} {b : Nat} {v : Value} {T : List Rf} (h : RsX w b v T) (ho : Only [] w w') : RsX w' b v T := h.keep ho (by simp)
theorem RsX.at_ {w : World} {b : Nat} {v : Value} {T : List Rf} (h : RsX w b v T) {k : Nat} {t : Rf} (ht : T[k]? = some t) :
    ∃ g c, v = .slice (some ⟨g, 0, none⟩) T.length c ∧ g < w.heap.size ∧ w.cell? ⟨g, k * 4, none⟩ = some (.string ⟨t.nm.toArray⟩) ∧ w.cell? ⟨g, k * 4 + 1, none⟩ = some (.int .i64 t.fd.pol) ∧ w.cell? ⟨g, k * 4 + 2, none⟩ = some (.int .i64 t.fd.fai) ∧ w.cell? ⟨g, k * 4 + 3, none⟩ = some t.v := by
  obtain ⟨g, c, hv, _, hg, h0⟩ := own_cell h.row (rfL_get T k 0 t ht (by omega))
  obtain ⟨g1, c1, hv1, _, _, h1⟩ := own_cell h.row (rfL_get T k 1 t ht (by omega))
  obtain ⟨g2, c2, hv2, _, _, h2⟩ := own_cell h.row (rfL_get T k 2 t ht (by omega))
  obtain ⟨g3, c3, hv3, _, _, h3⟩ := own_cell h.row (rfL_get T k 3 t ht (by omega))
  rw [hv] at hv1 hv2 hv3
  injection hv1 with e1
  injection e1 with e1
  injection e1 with e1
  injection hv2 with e2
  injection e2 with e2
  injection e2 with e2
  injection hv3 with e3
  injection e3 with e3
  injection e3 with e3
  subst e1; subst e2; subst e3
  exact ⟨g, c, hv, hg, h0, h1, h2, h3⟩
def rT (T : List Rf) (k : List UInt8) : Option Rf := T.find? (fun t => t.nm == k)
def ixR (T : List Rf) (k : List UInt8) : Nat := ixB Rf.nm k T
set_option maxRecDepth 100000 in
set_option maxHeartbeats 1000000 in
theorem rs_find (b : Nat) (v : Value) (T : List Rf) (k : List UInt8) (hk : k.length ≤ maxLen) (w : World) (h : RsX w b v T) :
    Calls Tryz.prog 40 #[.pointer (some ⟨b, 0, none⟩), .string ⟨k.toArray⟩] w fun e w' => e = .returned (.tuple #[.int .i64 (ixR T k), .bool (rT T k).isSome]) ∧ Only [] w w' := by
  obtain ⟨A, c, rfl⟩ := (SlAt.of_own h.row).shape
  have H := Lib.hid h
  have c0 := h.cells.cell (k := 0) rfl
  have hcap := h.cap
  obtain ⟨n, hn⟩ : ∃ n, ixR T k = n := ⟨_, rfl⟩
  have hnl : n ≤ T.length := hn ▸ ixB_le Rf.nm k T
  clear h
  go_enter Tryz.func40, Tryz.ntmps40
  go_wp2_with fail
  go_loopw [6] (fun i wr => ∃ j : Nat, j ≤ n ∧ i = .int .i64 j ∧ w = wr) (fun i _ => T.length - (intOf i).toNat)
  case atStart => exact ⟨0, by omega, rfl, rfl⟩
  case round =>
    obtain ⟨j, hj, rfl, rfl⟩ := hrel
    by_cases hjn : j < n
    · have hlt : j < T.length := by omega
      have hlt' : (j : Int) < (T.length : Int) := by omega
      obtain ⟨t, ht⟩ : ∃ t, T[j]? = some t := ⟨_, List.getElem?_eq_getElem hlt⟩
      obtain ⟨g, c', hv, hg, q0, _, _, _⟩ := H.out.at_ ht
      injection hv with e1 _ e3
      subst e1; subst e3
      have hless : Op.bytesLess t.nm k = true := by
        rw [bytesLess_eq]
        simpa using ixB_lt Rf.nm k T j t (by unfold ixR at hn; omega) ht
      have hwr : IntKind.i64.wrap ((j : Int) + 1) = (j : Int) + 1 := by rw [IntKind.wrap_i64]; omega
      go_wp2_with fail
      go_roundw
      case rel => exact ⟨j + 1, by omega, by go_num, trivial⟩
      case measure => simp [intOf]; omega
    · obtain rfl : j = n := by omega
      by_cases hl : j < T.length
      · have hlt' : (j : Int) < (T.length : Int) := by omega
        obtain ⟨t, ht⟩ : ∃ t, T[j]? = some t := ⟨_, List.getElem?_eq_getElem hl⟩
        obtain ⟨g, c', hv, hg, q0, _, _, _⟩ := H.out.at_ ht
        injection hv with e1 _ e3
        subst e1; subst e3
        have hless : Op.bytesLess t.nm k = false := by
          rw [bytesLess_eq]
          simpa using ixB_end Rf.nm k T t (by unfold ixR at hn; rw [hn]; exact ht)
        have hfd : (rT T k).isSome = (t.nm == k) := by
          unfold rT
          rw [find_at Rf.nm k T H.out.srt]
          unfold ixR at hn
          rw [hn, ht]
          by_cases he : t.nm = k
          · simp [he]
          · simp [he]
        have hix : (ixR T k : Int) = j := by rw [hn]
        obtain ⟨q, hq⟩ : ∃ q, (t.nm == k) = q := ⟨_, rfl⟩
        rw [hq] at hfd
        have HFD := Lib.hid hfd
        have HIX := Lib.hid hix
        have u0 := fun u : Since w => u.cell q0
        have d0 := fun u : Since w => u.cell c0
        clear hfd ht hn hix
        go_wp2_with fail
        refine wp_region_only w (Only.refl _ _) (by kernel_rfl) (by kernel_rfl) ?_
        repeat (go_big_quiet_step (fail))
        refine wpQuiet_nil ?_
        rintro ⟨w3, ho3⟩
        dsimp only
        go_wp2_with fail
        go_ret2
        exact ⟨by rw [HFD.out, HIX.out]; rfl, ho3⟩
      · have hd : decide ((j : Int) < (T.length : Int)) = false := by simp; omega
        have hfd : (rT T k).isSome = false := by
          unfold rT
          rw [find_at Rf.nm k T H.out.srt]
          unfold ixR at hn
          rw [hn, List.getElem?_eq_none (by omega)]
          rfl
        have HFD := Lib.hid hfd
        have HIX : Hid ((ixR T k : Int) = j) := Lib.hid (by rw [hn])
        have d0 := fun u : Since w => u.cell c0
        clear hfd hn
        go_wp2_with fail
        refine wp_region_only w (Only.refl _ _) (by kernel_rfl) (by kernel_rfl) ?_
        repeat (go_big_quiet_step (fail))
        refine wpQuiet_nil ?_
        rintro ⟨w3, ho3⟩
        dsimp only
        go_wp2_with fail
        go_ret2
        exact ⟨by rw [HFD.out, HIX.out]; rfl, ho3⟩
end Go.Proofs.YtjfnkjpnjiobjaaGreat
namespace Go.Proofs.YtjfnkjpnjiobjaaGreat
open Go.RowKit
theorem info_rfeed : (Tryz.prog.info? 59).map (fun i => (i.zero, i.size, i.bytes)) = some (some (.agg #[.string .empty, .int .i64 0, .int .i64 0, .slice none 0 0]), 4, 56) := by kernel_rfl
/-- What an operation on the document's store does to the world. -/
structure OpX (w w' : World) (b : Nat) (v v' : Value) (T T' : List Rf) : Prop where
  st : RsX w' b v' T'
  ho : Only (allR b v T) w w'
  new : ∀ x ∈ allR b v' T', x ∈ allR b v T ∨ w.heap.size ≤ x
theorem OpX.same {w w' : World} {b : Nat} {v : Value} {T : List Rf} (h : RsX w b v T) (ho : Only [] w w') : OpX w w' b v v T T := ⟨h.only ho, ho.of0, fun _ hx => .inl hx⟩
theorem Rf.one {T : List Rf} (h : ∀ t ∈ T, t.v.oneCell' = true) : ∀ u ∈ rfL T, u.oneCell' = true := by
  intro u hu
  obtain ⟨t, ht, hm⟩ := List.mem_flatMap.1 hu
  simp only [Rf.cells, List.mem_cons, List.not_mem_nil, or_false] at hm
  rcases hm with rfl | rfl | rfl | rfl
  · rfl
  · rfl
  · rfl
  · exact h t ht
theorem RsX.oneC {w : World} {b : Nat} {v : Value} {T : List Rf} (h : RsX w b v T) : ∀ t ∈ T, t.v.oneCell' = true := fun t ht => by
  obtain ⟨A, c, e, _⟩ := (h.ps t ht).shape
  rw [e]; rfl
theorem rfL_take (T : List Rf) (i : Nat) : rfL (T.take i) = (rfL T).take (i * 4) := by
  induction T generalizing i with
  | nil => simp [rfL]
  | cons t r ih =>
    cases i with
    | zero => simp [rfL]
    | succ i =>
      have h := ih i
      unfold rfL at h ⊢
      rw [List.take_succ_cons, List.flatMap_cons, List.flatMap_cons, h, Nat.succ_mul, Nat.add_comm]
      show _ = (([_, _, _, _] : List Value) ++ _).take (4 + i * 4)
      rw [Nat.add_comm, show i * 4 + 4 = i * 4 + 1 + 1 + 1 + 1 from rfl]
      rfl
theorem rfL_drop (T : List Rf) (i : Nat) : rfL (T.drop i) = (rfL T).drop (i * 4) := by
  induction T generalizing i with
  | nil => simp [rfL]
  | cons t r ih =>
    cases i with
    | zero => simp [rfL]
    | succ i =>
      have h := ih i
      unfold rfL at h ⊢
      rw [List.drop_succ_cons, List.flatMap_cons, h, Nat.succ_mul]
      rfl
theorem RsX.rfs {w : World} {b : Nat} {v : Value} {T : List Rf} (h : RsX w b v T) : RfS w v 4 T.length (rfL T) := RfS.of_own h.row (Rf.one h.oneC)
theorem RsX.src1 {w : World} {b c i : Nat} {A : Option Addr} {T : List Rf} (h : RsX w b (.slice A T.length c) T) (hi : i ≤ T.length) : SrcA w (.slice A i c) 4 i (rfL (T.take i)) := by
  rw [rfL_take]
  exact (h.rfs.take hi).src (by decide)
theorem RsX.src2 {w : World} {b c i : Nat} {A : Option Addr} {T : List Rf} (h : RsX w b (.slice A T.length c) T) (hi : i ≤ T.length) : SrcA w (.slice (if c = i then A else Option.map (fun x => x.add (i * 4)) A) (T.length - i) (c - i)) 4 (T.length - i) (rfL (T.drop i)) := by
  rw [rfL_drop]
  exact (h.rfs.drop hi).src (by decide)
/-- Another row, of feeds that were there, and of empty ones. -/
theorem RsX.newrow {w w5 : World} {b B n : Nat} {v v' : Value} {T T' : List Rf} (h : RsX w b v T) (ho : Only [] w w5) (hB : w.heap.size ≤ B) (hown : w5.ownsRow B 59 4 v' n (rfL T')) (hn : T'.length = n)
    (hT : ∀ t ∈ T', t ∈ T ∨ (t.v = .slice none 0 0 ∧ t.fd = ⟨-1, 0, []⟩ ∧ nmL t.nm = true)) (hs : T'.Pairwise (fun a b => a.nm < b.nm)) (hc : T'.length ≤ 20) :
    OpX w (w5.setCell ⟨b, 0, none⟩ v') b v v' T T' := by
  subst hn
  have h5 := h.only ho
  have hb5 := h.cells.lt
  have hw : Only [b] w5 (w5.setCell ⟨b, 0, none⟩ v') := (Only.refl _ _).setCell (.inl (by simp)) _
  have hnb : v'.ownBlock ≠ some b := fun e => by have := (hown.lt b e).1; omega
  refine ⟨⟨h5.cells.set 0 v', own_low (own_keep hown hw (by simpa using hnb)) (Nat.zero_le _), fun t ht => ?_, fun t ht g hg => ?_, hs, hc, fun t ht => ?_, fun t ht => ?_⟩, ?_, fun x hx => ?_⟩
  · rcases hT t ht with h1 | ⟨h1, h2, _⟩
    · exact (h5.ps t h1).keep hw (fun x hx e => by simp at hx; subst hx; exact (h5.pb t h1 x e).2.1 rfl)
    · rw [h1, h2]
      exact RfS.of_own (World.ownsRow_nil _ 0 52 5) (by simp [poL])
  · rcases hT t ht with h1 | ⟨h1, _⟩
    · have h2 := h5.pb t h1 g hg
      refine ⟨Nat.lt_of_lt_of_le h2.1 hw.size, h2.2.1, fun e => ?_⟩
      have h3 := (hown.lt g e).1
      have h4 := (h.pb t h1 g hg).1
      omega
    · rw [h1] at hg; simp [Value.ownBlock] at hg
  · rcases hT t ht with h1 | ⟨_, _, h1⟩
    · exact h.nml t h1
    · exact h1
  · rcases hT t ht with h1 | ⟨_, h1, _⟩
    · exact h.fg t h1
    · rw [h1]; exact ⟨by simp, by simp⟩
  · exact (ho.of0).trans hw (fun x hx => .inl (by simp at hx; subst hx; simp [allR]))
  · unfold allR at hx
    rcases List.mem_cons.1 hx with rfl | hx
    · left; simp [allR]
    · rcases List.mem_append.1 hx with hx | hx
      · right
        have := (hown.lt x (mem_rb'.1 hx)).1
        omega
      · obtain ⟨t, ht, hg⟩ := List.mem_flatMap.1 hx
        rcases hT t ht with h1 | ⟨h1, _⟩
        · exact .inl (mem_allR h1 (mem_rb'.1 hg))
        · rw [h1] at hg; simp [rb, Value.ownBlock] at hg
theorem fnd_rT (T : List Rf) (k : List UInt8) : fnd (pR T) k = (rT T k).map (·.fd) := by
  unfold fnd pR rT
  rw [List.find?_map, Option.map_map]
  rfl
theorem fnd_rT' (T : List Rf) (k : List UInt8) : (fnd (pR T) k).isSome = (rT T k).isSome := by rw [fnd_rT]; simp
theorem pR_len (T : List Rf) : (pR T).length = T.length := List.length_map _
set_option maxRecDepth 100000 in
set_option maxHeartbeats 2000000 in
theorem rs_sub (b : Nat) (v : Value) (T : List Rf) (k : List UInt8) (hk : k.length ≤ maxLen) (w : World) (h : RsX w b v T) :
    Calls Tryz.prog 18 #[.pointer (some ⟨b, 0, none⟩), .string ⟨k.toArray⟩] w fun e w' => e = .returned (.int .i64 (subS (pR T) k).1) ∧ ∃ v' T', OpX w w' b v v' T T' ∧ pR T' = (subS (pR T) k).2 := by
  obtain ⟨i0, hi0, hz0, hz1, hz2⟩ := info_parts info_rfeed
  obtain ⟨A, c, rfl⟩ := (SlAt.of_own h.row).shape
  have H := Lib.hid h
  have CN := Lib.hid (fun w' => ref_name14 k w' (by unfold maxLen at hk; omega))
  have CF := Lib.hid (rs_find b _ T k hk w h)
  have hcap := h.cap
  cases hn : nmL k with
  | false =>
    have hE : Hid (subS (pR T) k = (3, pR T)) := Lib.hid (by unfold subS; rw [hn]; rfl)
    simp only [hn] at CN
    clear h
    go_enter Tryz.func18, Tryz.ntmps18
    go_wp2_with fail
    refine (CN.out _).mono ?_
    rintro e w1 ⟨rfl, rfl⟩
    go_wp2_with fail
    go_ret
    exact ⟨by rw [hE.out]; rfl, _, T, OpX.same H.out (Only.refl _ _), by rw [hE.out]⟩
  | true =>
  simp only [hn] at CN
  obtain ⟨is, his⟩ : ∃ q, (rT T k).isSome = q := ⟨_, rfl⟩
  rw [his] at CF
  clear h
  go_enter Tryz.func18, Tryz.ntmps18
  go_wp2_with fail
  refine (CN.out _).mono ?_
  rintro e w1 ⟨rfl, rfl⟩
  go_wp2_with fail
  refine CF.out.mono ?_
  rintro e w1 ⟨rfl, ho1⟩
  have HO1 := Lib.hid ho1
  clear ho1 CN CF
  cases is with
  | true =>
    have hE : Hid (subS (pR T) k = (5, pR T)) := Lib.hid (by unfold subS; rw [hn, fnd_rT', his]; rfl)
    go_wp2_with fail
    go_ret
    exact ⟨by rw [hE.out]; rfl, _, T, OpX.same H.out HO1.out, by rw [hE.out]⟩
  | false =>
  have H1 := Lib.hid (H.out.only HO1.out)
  have c0 := H1.out.cells.cell (k := 0) rfl
  by_cases h20 : T.length = 20
  · have hE : Hid (subS (pR T) k = (11, pR T)) := Lib.hid (by unfold subS; rw [hn, fnd_rT', his, pR_len, h20]; rfl)
    have d20 : decide ((20 : Int) ≤ (T.length : Int)) = true := by simp; omega
    go_wp2_with fail
    go_ret
    exact ⟨by rw [hE.out]; rfl, _, T, OpX.same H.out HO1.out, by rw [hE.out]⟩
  have hE : Hid (subS (pR T) k = (0, insBy Prod.fst (k, (⟨-1, 0, []⟩ : Fd)) (pR T))) := Lib.hid (by unfold subS; rw [hn, fnd_rT', his, pR_len]; simp [h20])
  have d20 : decide ((20 : Int) ≤ (T.length : Int)) = false := by simp; omega
  obtain ⟨i, hi⟩ : ∃ i, ixR T k = i := ⟨_, rfl⟩
  have hiN : i ≤ T.length := hi ▸ ixB_le Rf.nm k T
  have hNone : Hid (rT T k = none) := Lib.hid (by cases hh : rT T k with
    | none => rfl
    | some t => rw [hh] at his; cases his)
  have HI := Lib.hid hi
  rw [hi]
  obtain ⟨N, hN⟩ : ∃ N, T.length = N := ⟨_, rfl⟩
  have HN := Lib.hid hN
  have hcc : N ≤ c := by
    obtain ⟨_, A', c', hv, hnc, _, _⟩ := SlAt.of_own H.out.row
    injection hv with _ _ e3
    omega
  have HS1 := Lib.hid (H1.out.src1 hiN)
  have HS2 := Lib.hid (H1.out.src2 hiN)
  rw [hN] at c0 d20 hiN hcap HS2 H H1
  have hiN' : (i : Int) ≤ (N : Int) := by omega
  have hic : (i : Int) ≤ (c : Int) := by omega
  have t0 := fun u : Since w1 => u.cell c0
  clear hi his hN h20
  go_upto_region 9 with fail
  clear c0
  obtain ⟨P1, hP1⟩ : ∃ x, rfL (T.take i) = x := ⟨_, rfl⟩
  obtain ⟨P2, hP2⟩ : ∃ x, rfL (T.drop i) = x := ⟨_, rfl⟩
  rw [hP1] at HS1
  rw [hP2] at HS2
  have HP1 := Lib.hid hP1
  have HP2 := Lib.hid hP2
  clear hP1 hP2
  refine wp_region_pendN w1 (Only.refl _ _) [(26, OwW w1.heap.size 59 4 0 []), (33, OwW w1.heap.size 59 4 i P1), (36, OwW w1.heap.size 59 4 1 [.string ⟨k.toArray⟩, .int .i64 (-1), .int .i64 0, .slice none 0 0]), (37, OwW w1.heap.size 59 4 (i + 1) (P1 ++ [.string ⟨k.toArray⟩, .int .i64 (-1), .int .i64 0, .slice none 0 0])), (44, OwW w1.heap.size 59 4 (N + 1) ((P1 ++ [.string ⟨k.toArray⟩, .int .i64 (-1), .int .i64 0, .slice none 0 0]) ++ P2))] [(33, 26), (37, 33), (44, 37)] 22 (by intro p hp; simp at hp; rcases hp with rfl | rfl | rfl | rfl | rfl <;> exact OwW.lasts _ _ _ _ _) (by kernel_rfl) (by kernel_rfl) (by decide) (fun val => ?_)
  simp only [List.take_succ_cons, List.take_zero, List.drop_succ_cons, List.drop_zero]
  refine fit_segN 1 (by kernel_rfl) ?_
  simp only [List.take_succ_cons, List.take_zero, List.drop_succ_cons, List.drop_zero]
  repeat (go_big_quiet_step (fail))
  refine wpQuiet_nil ?_
  refine fit_litO 26 59 4 [] 0 rfl rfl (by simp) (by simp) rfl (by decide) (fun w5 => by go_simp) rfl ?_
  simp only [Act.put, List.setIfInBounds_toArray, List.set_cons_zero, List.set_cons_succ]
  refine fit_segN 6 (by kernel_rfl) ?_
  simp only [List.take_succ_cons, List.take_zero, List.drop_succ_cons, List.drop_zero]
  repeat (go_big_quiet_step (fail))
  refine wpQuiet_nil ?_
  refine fit_append 33 26 (.tmp 32) 26 59 i0 (.agg #[.string ⟨#[]⟩, .int .i64 0, .int .i64 0, .slice none 0 0]) 4 56 Tryz.underlying26 hi0 hz0 hz1 hz2 rfl (by decide) 0 i i [] P1 P1 (by omega) rfl rfl rfl rfl (by simp) (by simp) (by simp) (by decide) rfl rfl (fun w5 hw5 => HS1.out.only hw5.1) (by unfold maxLen; omega) (by omega) rfl ?_
  simp only [Act.put, List.setIfInBounds_toArray, List.set_cons_zero, List.set_cons_succ]
  refine fit_segN 2 (by kernel_rfl) ?_
  simp only [List.take_succ_cons, List.take_zero, List.drop_succ_cons, List.drop_zero]
  repeat (go_big_quiet_step (fail))
  refine wpQuiet_nil ?_
  refine fit_litO 36 59 4 [.string ⟨k.toArray⟩, .int .i64 (-1), .int .i64 0, .slice none 0 0] 1 rfl rfl (by simp) (by simp) rfl (by decide) (fun w5 => by go_simp) rfl ?_
  simp only [Act.put, List.setIfInBounds_toArray, List.set_cons_zero, List.set_cons_succ]
  refine fit_append 37 33 (.tmp 36) 26 59 i0 (.agg #[.string ⟨#[]⟩, .int .i64 0, .int .i64 0, .slice none 0 0]) 4 56 Tryz.underlying26 hi0 hz0 hz1 hz2 rfl (by decide) i 1 (i + 1) P1 [.string ⟨k.toArray⟩, .int .i64 (-1), .int .i64 0, .slice none 0 0] (P1 ++ [.string ⟨k.toArray⟩, .int .i64 (-1), .int .i64 0, .slice none 0 0]) (by omega) rfl rfl rfl rfl (by simp) (by simp) (by simp) (by decide) rfl rfl (fun w5 hw5 => SrcA.own (hw5.2 (36, OwW w1.heap.size 59 4 1 [.string ⟨k.toArray⟩, .int .i64 (-1), .int .i64 0, .slice none 0 0]) (by simp) (by show 36 ∈ Oper.looksAt _ _; decide)) (by simp [Value.oneCell'])) (by unfold maxLen; omega) (by omega) rfl ?_
  simp only [Act.put, List.setIfInBounds_toArray, List.set_cons_zero, List.set_cons_succ]
  refine fit_segN 6 (by kernel_rfl) ?_
  simp only [List.take_succ_cons, List.take_zero, List.drop_succ_cons, List.drop_zero]
  repeat (go_big_quiet_step (fail))
  refine wpQuiet_nil ?_
  refine fit_append 44 37 (.tmp 43) 26 59 i0 (.agg #[.string ⟨#[]⟩, .int .i64 0, .int .i64 0, .slice none 0 0]) 4 56 Tryz.underlying26 hi0 hz0 hz1 hz2 rfl (by decide) (i + 1) (N - i) (N + 1) (P1 ++ [.string ⟨k.toArray⟩, .int .i64 (-1), .int .i64 0, .slice none 0 0]) P2 ((P1 ++ [.string ⟨k.toArray⟩, .int .i64 (-1), .int .i64 0, .slice none 0 0]) ++ P2) (by omega) rfl rfl rfl rfl (by simp) (by simp) (by simp) (by decide) rfl rfl (fun w5 hw5 => HS2.out.only hw5.1) (by unfold maxLen; omega) (by omega) rfl ?_
  simp only [Act.put, List.setIfInBounds_toArray, List.set_cons_zero, List.set_cons_succ]
  refine fit_segN 2 (by kernel_rfl) ?_
  simp only [List.take_succ_cons, List.take_zero, List.drop_succ_cons, List.drop_zero]
  repeat (go_big_quiet_step (fail))
  refine wpQuiet_nil ?_
  intro w5 ho5 hV5
  have hown5 := hV5 (by decide) (44, OwW w1.heap.size 59 4 (N + 1) ((P1 ++ [.string ⟨k.toArray⟩, .int .i64 (-1), .int .i64 0, .slice none 0 0]) ++ P2)) (by simp) (by simp)
  obtain ⟨u, hu⟩ : ∃ u, val 44 = u := ⟨_, rfl⟩
  have hown5 : w5.ownsRow w1.heap.size 59 4 u (N + 1) ((P1 ++ [.string ⟨k.toArray⟩, .int .i64 (-1), .int .i64 0, .slice none 0 0]) ++ P2) := hu ▸ hown5
  rw [hu]
  have hO5 := HO1.out.tr0 ho5
  have HX := Lib.hid (RsX.newrow (T' := insBy Rf.nm ⟨k, ⟨-1, 0, []⟩, .slice none 0 0⟩ T) (n := N + 1) H.out hO5 HO1.out.size (by
      have e1 : rfL (insBy Rf.nm ⟨k, ⟨-1, 0, []⟩, .slice none 0 0⟩ T) = (P1 ++ [.string ⟨k.toArray⟩, .int .i64 (-1), .int .i64 0, .slice none 0 0]) ++ P2 := by
        rw [insBy_at]
        show rfL (T.take (ixR T k) ++ _ :: T.drop (ixR T k)) = _
        rw [HI.out]
        unfold rfL at HP1 HP2 ⊢
        rw [List.flatMap_append, List.flatMap_cons, HP1.out, HP2.out, List.append_assoc]
        rfl
      rw [e1]
      exact hown5) (by rw [insBy_length, HN.out]) (fun t ht => by
      rcases List.mem_cons.1 ((insBy_perm Rf.nm _ T).mem_iff.1 ht) with rfl | ht
      · exact .inr ⟨rfl, rfl, hn⟩
      · exact .inl ht) (insBy_sorted Rf.nm _ T H.out.srt (fun a ha e => by
      have := List.find?_eq_none.1 hNone.out a ha
      simp at this
      exact this e)) (by rw [insBy_length, HN.out]; have := of_decide_eq_false d20; omega))
  have hb5 := (H.out.only hO5).cells
  have b0 := hb5.cell (k := 0) rfl
  have b1 := hb5.frozen 0
  have b2 := hb5.lt
  clear hown5 hV5 hu t0 ho5 hO5 hb5
  obtain ⟨A5, c5, rfl⟩ : ∃ A5 c5, u = .slice A5 (N + 1) c5 := by
    have := (SlAt.of_own HX.out.st.row).shape
    rw [insBy_length, HN.out] at this
    exact this
  clear HS1 HS2
  generalize (if c = i then A else Option.map (fun x : Addr => x.add (i * 4)) A) = A9
  go_wp2_with fail
  go_ret
  have hN := HN.out
  subst hN
  refine ⟨by rw [hE.out]; rfl, _, _, HX.out, ?_⟩
  rw [hE.out]
  show pR (insBy Rf.nm _ T) = insBy Prod.fst _ (pR T)
  unfold pR
  rw [insBy_map Rf.nm (fun t => (t.nm, t.fd)) Prod.fst (fun _ => rfl)]
set_option maxRecDepth 100000 in
set_option maxHeartbeats 2000000 in
theorem rs_unsub (b : Nat) (v : Value) (T : List Rf) (k : List UInt8) (hk : k.length ≤ maxLen) (w : World) (h : RsX w b v T) :
    Calls Tryz.prog 19 #[.pointer (some ⟨b, 0, none⟩), .string ⟨k.toArray⟩] w fun e w' => e = .returned (.int .i64 (unS (pR T) k).1) ∧ ∃ v' T', OpX w w' b v v' T T' ∧ pR T' = (unS (pR T) k).2 := by
  obtain ⟨i0, hi0, hz0, hz1, hz2⟩ := info_parts info_rfeed
  obtain ⟨A, c, rfl⟩ := (SlAt.of_own h.row).shape
  have H := Lib.hid h
  have CF := Lib.hid (rs_find b _ T k hk w h)
  have hcap := h.cap
  clear h
  cases hf : rT T k with
  | none =>
    have hE : Hid (unS (pR T) k = (4, pR T)) := Lib.hid (by unfold unS; rw [fnd_rT', hf]; rfl)
    rw [hf] at CF
    go_enter Tryz.func19, Tryz.ntmps19
    go_wp2_with fail
    refine CF.out.mono ?_
    rintro e w1 ⟨rfl, ho1⟩
    have HO1 := Lib.hid ho1
    clear ho1 CF
    go_wp2_with fail
    go_ret
    exact ⟨by rw [hE.out]; rfl, _, T, OpX.same H.out HO1.out, by rw [hE.out]⟩
  | some t =>
  have hE : Hid (unS (pR T) k = (0, delBy Prod.fst k (pR T))) := Lib.hid (by unfold unS; rw [fnd_rT', hf]; rfl)
  have hfa := find_at Rf.nm k T H.out.srt
  have hat : T[ixR T k]? = some t ∧ t.nm = k := by
    unfold rT at hf
    rw [hf] at hfa
    unfold ixR
    cases hx : T[ixB Rf.nm k T]? with
    | none => rw [hx] at hfa; cases hfa
    | some a =>
      rw [hx] at hfa
      dsimp only at hfa
      split at hfa
      · rename_i he; injection hfa with hfa; subst hfa; exact ⟨rfl, he⟩
      · cases hfa
  obtain ⟨i, hi⟩ : ∃ i, ixR T k = i := ⟨_, rfl⟩
  rw [hi] at hat
  have hiN : i < T.length := (List.getElem?_eq_some_iff.1 hat.1).1
  have HAT := Lib.hid hat
  have HI := Lib.hid hi
  rw [hf, hi] at CF
  clear hf hfa hat hi
  go_enter Tryz.func19, Tryz.ntmps19
  go_wp2_with fail
  refine CF.out.mono ?_
  rintro e w1 ⟨rfl, ho1⟩
  have HO1 := Lib.hid ho1
  clear ho1 CF
  have H1 := Lib.hid (H.out.only HO1.out)
  have c0 := H1.out.cells.cell (k := 0) rfl
  obtain ⟨N, hN⟩ : ∃ N, T.length = N := ⟨_, rfl⟩
  have HN := Lib.hid hN
  have hcc : N ≤ c := by
    obtain ⟨_, A', c', hv, hnc, _, _⟩ := SlAt.of_own H.out.row
    injection hv with _ _ e3
    omega
  have HS1 := Lib.hid (H1.out.src1 (i := i) (by omega))
  have HS2 := Lib.hid (H1.out.src2 (i := i + 1) (by omega))
  rw [hN] at c0 hiN hcap HS2 H H1
  have hiN' : (i : Int) ≤ (N : Int) := by omega
  have hiN2 : (i : Int) + 1 ≤ (N : Int) := by omega
  have hic : (i : Int) ≤ (c : Int) := by omega
  have hic2 : (i : Int) + 1 ≤ (c : Int) := by omega
  have hwr : IntKind.i64.wrap ((i : Int) + 1) = ((i + 1 : Nat) : Int) := by rw [IntKind.wrap_i64]; omega
  have t0 := fun u : Since w1 => u.cell c0
  clear hN
  go_upto_region 4 with fail
  clear c0
  obtain ⟨P1, hP1⟩ : ∃ x, rfL (T.take i) = x := ⟨_, rfl⟩
  obtain ⟨P2, hP2⟩ : ∃ x, rfL (T.drop (i + 1)) = x := ⟨_, rfl⟩
  rw [hP1] at HS1
  rw [hP2] at HS2
  have HP1 := Lib.hid hP1
  have HP2 := Lib.hid hP2
  clear hP1 hP2
  refine wp_region_pendN w1 (Only.refl _ _) [(16, OwW w1.heap.size 59 4 0 []), (23, OwW w1.heap.size 59 4 i P1), (31, OwW w1.heap.size 59 4 (N - 1) (P1 ++ P2))] [(23, 16), (31, 23)] 19 (by intro p hp; simp at hp; rcases hp with rfl | rfl | rfl <;> exact OwW.lasts _ _ _ _ _) (by kernel_rfl) (by kernel_rfl) (by decide) (fun val => ?_)
  simp only [List.take_succ_cons, List.take_zero, List.drop_succ_cons, List.drop_zero]
  refine fit_segN 1 (by kernel_rfl) ?_
  simp only [List.take_succ_cons, List.take_zero, List.drop_succ_cons, List.drop_zero]
  repeat (go_big_quiet_step (fail))
  refine wpQuiet_nil ?_
  refine fit_litO 16 59 4 [] 0 rfl rfl (by simp) (by simp) rfl (by decide) (fun w5 => by go_simp) rfl ?_
  simp only [Act.put, List.setIfInBounds_toArray, List.set_cons_zero, List.set_cons_succ]
  refine fit_segN 6 (by kernel_rfl) ?_
  simp only [List.take_succ_cons, List.take_zero, List.drop_succ_cons, List.drop_zero]
  repeat (go_big_quiet_step (fail))
  refine wpQuiet_nil ?_
  refine fit_append 23 16 (.tmp 22) 26 59 i0 (.agg #[.string ⟨#[]⟩, .int .i64 0, .int .i64 0, .slice none 0 0]) 4 56 Tryz.underlying26 hi0 hz0 hz1 hz2 rfl (by decide) 0 i i [] P1 P1 (by omega) rfl rfl rfl rfl (by simp) (by simp) (by simp) (by decide) rfl rfl (fun w5 hw5 => HS1.out.only hw5.1) (by unfold maxLen; omega) (by omega) rfl ?_
  simp only [Act.put, List.setIfInBounds_toArray, List.set_cons_zero, List.set_cons_succ]
  refine fit_segN 7 (by kernel_rfl) ?_
  simp only [List.take_succ_cons, List.take_zero, List.drop_succ_cons, List.drop_zero]
  repeat (go_big_quiet_step (fail))
  refine wpQuiet_nil ?_
  refine fit_append 31 23 (.tmp 30) 26 59 i0 (.agg #[.string ⟨#[]⟩, .int .i64 0, .int .i64 0, .slice none 0 0]) 4 56 Tryz.underlying26 hi0 hz0 hz1 hz2 rfl (by decide) i (N - (i + 1)) (N - 1) P1 P2 (P1 ++ P2) (by omega) rfl rfl rfl rfl (by simp) (by simp) (by simp) (by decide) rfl rfl (fun w5 hw5 => HS2.out.only hw5.1) (by unfold maxLen; omega) (by omega) rfl ?_
  simp only [Act.put, List.setIfInBounds_toArray, List.set_cons_zero, List.set_cons_succ]
  refine fit_segN 2 (by kernel_rfl) ?_
  simp only [List.take_succ_cons, List.take_zero, List.drop_succ_cons, List.drop_zero]
  repeat (go_big_quiet_step (fail))
  refine wpQuiet_nil ?_
  intro w5 ho5 hV5
  have hown5 := hV5 (by decide) (31, OwW w1.heap.size 59 4 (N - 1) (P1 ++ P2)) (by simp) (by simp)
  obtain ⟨u, hu⟩ : ∃ u, val 31 = u := ⟨_, rfl⟩
  have hown5 : w5.ownsRow w1.heap.size 59 4 u (N - 1) (P1 ++ P2) := hu ▸ hown5
  rw [hu]
  have hO5 := HO1.out.tr0 ho5
  have hdl : delBy Rf.nm k T = T.take i ++ T.drop (i + 1) := by
    have := delBy_at Rf.nm k T H.out.srt t (by have := HAT.out.1; rw [← HI.out] at this; exact this) HAT.out.2
    rw [show ixB Rf.nm k T = i from HI.out] at this
    exact this
  have hlen : (delBy Rf.nm k T).length = N - 1 := by rw [hdl, List.length_append, List.length_take, List.length_drop, HN.out]; omega
  have HX := Lib.hid (RsX.newrow (T' := delBy Rf.nm k T) (n := N - 1) H.out hO5 HO1.out.size (by
      have e1 : rfL (delBy Rf.nm k T) = P1 ++ P2 := by
        rw [hdl]
        unfold rfL at HP1 HP2 ⊢
        rw [List.flatMap_append, HP1.out, HP2.out]
      rw [e1]
      exact hown5) hlen (fun t ht => .inl (List.mem_filter.1 ht).1) (H.out.srt.sublist List.filter_sublist) (by rw [hlen]; omega))
  have HL := Lib.hid hlen
  have hb5 := (H.out.only hO5).cells
  have b0 := hb5.cell (k := 0) rfl
  have b1 := hb5.frozen 0
  have b2 := hb5.lt
  clear hown5 hV5 hu t0 ho5 hO5 hb5 hdl hlen
  obtain ⟨A5, c5, rfl⟩ : ∃ A5 c5, u = .slice A5 (N - 1) c5 := by
    have := (SlAt.of_own HX.out.st.row).shape
    rw [HL.out] at this
    exact this
  clear HS1 HS2
  generalize (if c = i + 1 then A else Option.map (fun x : Addr => x.add ((i + 1) * 4)) A) = A9
  go_wp2_with fail
  go_ret
  have hN := HN.out
  subst hN
  refine ⟨by rw [hE.out]; rfl, _, _, HX.out, ?_⟩
  rw [hE.out]
  exact delBy_map Rf.nm (fun t => (t.nm, t.fd)) Prod.fst (fun _ => rfl) k T
end Go.Proofs.YtjfnkjpnjiobjaaGreat
namespace Go.Proofs.YtjfnkjpnjiobjaaGreat
open Go.RowKit
theorem rT_at {T : List Rf} {k : List UInt8} {t : Rf} (hs : T.Pairwise (fun a b => a.nm < b.nm)) (hf : rT T k = some t) : T[ixR T k]? = some t ∧ t.nm = k := by
  have hfa := find_at Rf.nm k T hs
  unfold rT at hf
  rw [hf] at hfa
  unfold ixR
  cases hx : T[ixB Rf.nm k T]? with
  | none => rw [hx] at hfa; cases hfa
  | some a =>
    rw [hx] at hfa
    dsimp only at hfa
    split at hfa
    · rename_i he; injection hfa with hfa; subst hfa; exact ⟨rfl, he⟩
    · cases hfa
def idxI (ps : List Po) (k : List UInt8) : Int := match idx ps k with
  | none => -1
  | some i => i
theorem idx_hit {ps : List Po} {k : List UInt8} {j : Nat} {x : Po} (hx : ps[j]? = some x) (he : x.it.id = k) (hno : ∀ i y, i < j → ps[i]? = some y → y.it.id ≠ k) : idx ps k = some j := by
  unfold idx
  obtain ⟨hj, rfl⟩ := List.getElem?_eq_some_iff.1 hx
  refine List.findIdx?_eq_some_iff_getElem.2 ⟨hj, by simpa using he, fun i hi => ?_⟩
  have := hno i ps[i] hi (List.getElem?_eq_getElem (by omega))
  simpa using this
theorem idx_miss {ps : List Po} {k : List UInt8} (hno : ∀ i y, i < ps.length → ps[i]? = some y → y.it.id ≠ k) : idx ps k = none := by
  unfold idx
  refine List.findIdx?_eq_none_iff.2 fun y hy => ?_
  obtain ⟨i, hi, rfl⟩ := List.getElem_of_mem hy
  have := hno i ps[i] hi (List.getElem?_eq_getElem hi)
  simpa using this
set_option maxRecDepth 100000 in
set_option maxHeartbeats 1000000 in
theorem ref17_post (nm : List UInt8) (p q : Int) (pv : Value) (ps : List Po) (k : List UInt8) (w : World) (h : RfS w pv 5 ps.length (poL ps)) (hl : ps.length ≤ 1000) :
    Calls Tryz.prog 42 #[.agg #[.string ⟨nm.toArray⟩, .int .i64 p, .int .i64 q, pv], .string ⟨k.toArray⟩] w fun e w' => e = .returned (.int .i64 (idxI ps k)) ∧ Only [] w w' := by
  obtain ⟨A, c, rfl, _, _⟩ := h.shape
  obtain ⟨w1, hw1⟩ : ∃ w1, w.alloc (.cells #[.string ⟨nm.toArray⟩, .int .i64 p, .int .i64 q, .slice A ps.length c] 59) = w1 := ⟨_, rfl⟩
  obtain ⟨z, hz⟩ : ∃ z, w.heap.size = z := ⟨_, rfl⟩
  have O1 : Only [] w w1 := hw1 ▸ (Only.refl _ _).alloc _
  have hC : Cells w1 z 59 [.string ⟨nm.toArray⟩, .int .i64 p, .int .i64 q, .slice A ps.length c] := hw1 ▸ hz ▸ Cells.new w _ _
  have HS := Lib.hid (h.only O1).sl
  have HO := Lib.hid O1
  have z3 := hC.cell (k := 3) rfl
  clear h O1 hC
  go_enter Tryz.func42, Tryz.ntmps42
  go_wp2_with fail
  clear hw1 hz
  go_loopw [5] (fun i wr => ∃ j : Nat, j ≤ ps.length ∧ i = .int .i64 j ∧ w1 = wr ∧ Hid (∀ i y, i < j → ps[i]? = some y → y.it.id ≠ k)) (fun i _ => ps.length - (intOf i).toNat)
  case atStart => exact ⟨0, by omega, rfl, rfl, Lib.hid (fun i y hi => by omega)⟩
  case round =>
    obtain ⟨j, hj, rfl, rfl, hno⟩ := hrel
    by_cases hlt : j < ps.length
    · have hlt' : (j : Int) < (ps.length : Int) := by omega
      obtain ⟨x, hx⟩ : ∃ x, ps[j]? = some x := ⟨_, List.getElem?_eq_getElem hlt⟩
      obtain ⟨b1, o1, c1, g1, _, p1, _, _, _⟩ := poL_at HS.out rfl hx
      injection g1 with i1 _ i3
      subst i1; subst i3
      by_cases he : x.it.id = k
      · have hE : Hid (idxI ps k = j) := Lib.hid (by unfold idxI; rw [idx_hit hx he hno.out])
        have heq : (x.it.id == k) = true := by simpa using he
        clear hx hno he
        go_wp2_with fail
        go_ret
        exact ⟨by rw [hE.out]; rfl, HO.out⟩
      · have heq : (x.it.id == k) = false := by simpa using he
        have HN : Hid (∀ i y, i < j + 1 → ps[i]? = some y → y.it.id ≠ k) := Lib.hid (fun i y hi hy => by
          by_cases hij : i = j
          · subst hij; rw [hx] at hy; injection hy with hy; subst hy; exact he
          · exact hno.out i y (by omega) hy)
        have hwr : IntKind.i64.wrap ((j : Int) + 1) = (j : Int) + 1 := by rw [IntKind.wrap_i64]; omega
        clear hx hno he
        go_wp2_with fail
        go_roundw
        case rel => exact ⟨j + 1, by omega, by go_num, trivial, HN⟩
        case measure => simp [intOf]; omega
    · obtain rfl : j = ps.length := by omega
      have hE : Hid (idxI ps k = -1) := Lib.hid (by unfold idxI; rw [idx_miss hno.out])
      have hd : decide ((ps.length : Int) < (ps.length : Int)) = false := by simp
      clear hno
      go_wp2_with fail
      go_ret
      exact ⟨by rw [hE.out]; rfl, HO.out⟩
theorem ref17_time (now : Int) (w : World) : Calls Tryz.prog 41 #[.int .i64 now] w fun e w' => e = .returned (.bool (okT now)) ∧ w = w' := by
  by_cases h0 : 0 ≤ now
  · have d0 : decide (0 ≤ now) = true := by simpa using h0
    obtain ⟨q, hq⟩ : ∃ q, decide (now ≤ 1099511627776) = q := ⟨_, rfl⟩
    have hE : okT now = q := by unfold okT; rw [d0, hq]; rfl
    rw [hE]
    go_enter Tryz.func41, Tryz.ntmps41
    go_wp2_with fail
    go_ret
    exact ⟨rfl, rfl⟩
  · have d0 : decide (0 ≤ now) = false := by simpa using h0
    have hE : okT now = false := by unfold okT; rw [d0]; rfl
    rw [hE]
    go_enter Tryz.func41, Tryz.ntmps41
    go_wp2_with fail
    go_ret
    exact ⟨rfl, rfl⟩
/-- The row with one feed's three cells set. -/
def Rf.with (t : Rf) (f : Fd) (v : Value) : Rf := ⟨t.nm, f, v⟩
def setF (w : World) (g i : Nat) (p q : Int) (pv : Value) : World := ((w.setCell ⟨g, i * 4 + 1, none⟩ (.int .i64 p)).setCell ⟨g, i * 4 + 2, none⟩ (.int .i64 q)).setCell ⟨g, i * 4 + 3, none⟩ pv
theorem row_f1 {w : World} {base g cap n i : Nat} {e : TypeId} {T : List Rf} {t : Rf} (h : w.ownsRow base e 4 (.slice (some ⟨g, 0, none⟩) n cap) n (rfL T)) (ht : T[i]? = some t) (p : Int) :
    (w.setCell ⟨g, i * 4 + 1, none⟩ (.int .i64 p)).ownsRow base e 4 (.slice (some ⟨g, 0, none⟩) n cap) n (rfL (T.set i (t.with ⟨p, t.fd.fai, t.fd.ps⟩ t.v))) := by
  have h1 := (h.stored (i * 4 + 1) (.int .i64 p)).1
  unfold rfL at h1 ⊢
  rwa [flat_set Rf.cells 4 (fun _ => rfl) T i 1 t (t.with ⟨p, t.fd.fai, t.fd.ps⟩ t.v) (.int .i64 p) ht (by omega) rfl] at h1
theorem row_f2 {w : World} {base g cap n i : Nat} {e : TypeId} {T : List Rf} {t : Rf} (h : w.ownsRow base e 4 (.slice (some ⟨g, 0, none⟩) n cap) n (rfL T)) (ht : T[i]? = some t) (q : Int) :
    (w.setCell ⟨g, i * 4 + 2, none⟩ (.int .i64 q)).ownsRow base e 4 (.slice (some ⟨g, 0, none⟩) n cap) n (rfL (T.set i (t.with ⟨t.fd.pol, q, t.fd.ps⟩ t.v))) := by
  have h1 := (h.stored (i * 4 + 2) (.int .i64 q)).1
  unfold rfL at h1 ⊢
  rwa [flat_set Rf.cells 4 (fun _ => rfl) T i 2 t (t.with ⟨t.fd.pol, q, t.fd.ps⟩ t.v) (.int .i64 q) ht (by omega) rfl] at h1
theorem row_f3 {w : World} {base g cap n i : Nat} {e : TypeId} {T : List Rf} {t : Rf} (h : w.ownsRow base e 4 (.slice (some ⟨g, 0, none⟩) n cap) n (rfL T)) (ht : T[i]? = some t) (ps : List Po) (pv : Value) :
    (w.setCell ⟨g, i * 4 + 3, none⟩ pv).ownsRow base e 4 (.slice (some ⟨g, 0, none⟩) n cap) n (rfL (T.set i (t.with ⟨t.fd.pol, t.fd.fai, ps⟩ pv))) := by
  have h1 := (h.stored (i * 4 + 3) pv).1
  unfold rfL at h1 ⊢
  rwa [flat_set Rf.cells 4 (fun _ => rfl) T i 3 t (t.with ⟨t.fd.pol, t.fd.fai, ps⟩ pv) pv ht (by omega) rfl] at h1
theorem row_f0 {w : World} {base g cap n i : Nat} {e : TypeId} {T : List Rf} {t : Rf} (h : w.ownsRow base e 4 (.slice (some ⟨g, 0, none⟩) n cap) n (rfL T)) (ht : T[i]? = some t) :
    (w.setCell ⟨g, i * 4, none⟩ (.string ⟨t.nm.toArray⟩)).ownsRow base e 4 (.slice (some ⟨g, 0, none⟩) n cap) n (rfL T) := by
  have h1 := (h.stored (i * 4 + 0) (.string ⟨t.nm.toArray⟩)).1
  unfold rfL at h1 ⊢
  rw [flat_set Rf.cells 4 (fun _ => rfl) T i 0 t t (.string ⟨t.nm.toArray⟩) ht (by omega) rfl] at h1
  have e1 : T.set i t = T := by
    obtain ⟨hi, rfl⟩ := List.getElem?_eq_some_iff.1 ht
    exact List.set_getElem_self hi
  rwa [e1] at h1
/-- A feed of the store is another now: in the row's block alone, and in new ones. -/
theorem RsX.put {w w' : World} {b g c : Nat} {T : List Rf} {k : List UInt8} {t : Rf} {f : Fd} {pv : Value} (h : RsX w b (.slice (some ⟨g, 0, none⟩) T.length c) T) (hf : rT T k = some t)
    (ho : Only [g] w w') (hrow : w'.ownsRow 0 59 4 (.slice (some ⟨g, 0, none⟩) T.length c) T.length (rfL (T.set (ixR T k) (t.with f pv))))
    (hp : RfS w' pv 5 f.ps.length (poL f.ps)) (hpb : ∀ q, pv.ownBlock = some q → t.v.ownBlock = some q ∨ (w.heap.size ≤ q ∧ q < w'.heap.size)) (hg : FdG f) :
    OpX w w' b (.slice (some ⟨g, 0, none⟩) T.length c) (.slice (some ⟨g, 0, none⟩) T.length c) T (T.set (ixR T k) (t.with f pv)) ∧ pR (T.set (ixR T k) (t.with f pv)) = putBy Prod.fst k (k, f) (pR T) := by
  obtain ⟨hat, hk⟩ := rT_at h.srt hf
  have hgl := (h.row.lt g rfl).2
  have hbg : b ≠ g := fun e => h.vb (by rw [e]; rfl)
  have hT : T.set (ixR T k) (t.with f pv) = putBy Rf.nm k (t.with f pv) T := (putBy_at Rf.nm k _ T h.srt t hat hk).symm
  have hmem : ∀ u ∈ T.set (ixR T k) (t.with f pv), u = t.with f pv ∨ u ∈ T := fun u hu => (List.mem_or_eq_of_mem_set hu).symm
  have htm := List.mem_of_getElem? hat
  have hpbt := h.pb t htm
  refine ⟨⟨⟨h.cells.only ho (by simpa using hbg), ?_, fun u hu => ?_, fun u hu q hq => ?_, ?_, ?_, fun u hu => ?_, fun u hu => ?_⟩, ?_, fun x hx => ?_⟩, ?_⟩
  · rw [List.length_set]; exact hrow
  · rcases hmem u hu with rfl | hu
    · exact hp
    · exact (h.ps u hu).keep ho (fun x hx e => by simp at hx; subst hx; exact (h.pb u hu x e).2.2 rfl)
  · rcases hmem u hu with rfl | hu
    · rcases hpb q hq with h1 | ⟨h1, h2⟩
      · have := hpbt q h1
        exact ⟨Nat.lt_of_lt_of_le this.1 ho.size, this.2.1, this.2.2⟩
      · have := h.cells.lt
        refine ⟨h2, by omega, fun e => ?_⟩
        simp only [Value.ownBlock, Option.some.injEq] at e
        omega
    · have := h.pb u hu q hq
      exact ⟨Nat.lt_of_lt_of_le this.1 ho.size, this.2.1, this.2.2⟩
  · rw [hT, sorted_keys Rf.nm, putBy_keys Rf.nm k (t.with f pv) T hk, ← sorted_keys]; exact h.srt
  · rw [List.length_set]; exact h.cap
  · rcases hmem u hu with rfl | hu
    · exact h.nml t htm
    · exact h.nml u hu
  · rcases hmem u hu with rfl | hu
    · exact hg
    · exact h.fg u hu
  · exact ho.mono (fun x hx => .inl (by simp at hx; subst hx; simp [allR, rb, Value.ownBlock]))
  · unfold allR at hx
    rcases List.mem_cons.1 hx with rfl | hx
    · left; simp [allR]
    · rcases List.mem_append.1 hx with hx | hx
      · left
        unfold allR
        exact List.mem_cons_of_mem _ (List.mem_append_left _ (by simpa [rb, Value.ownBlock] using hx))
      · obtain ⟨u, hu, hq⟩ := List.mem_flatMap.1 hx
        rcases hmem u hu with rfl | hu
        · rcases hpb x (mem_rb'.1 hq) with h1 | ⟨h1, _⟩
          · exact .inl (mem_allR htm h1)
          · exact .inr h1
        · exact .inl (mem_allR hu (mem_rb'.1 hq))
  · rw [hT]
    unfold pR
    rw [putBy_map Rf.nm (fun t => (t.nm, t.fd)) Prod.fst (fun _ => rfl)]
    rw [show (t.with f pv).nm = k from hk]
    rfl
end Go.Proofs.YtjfnkjpnjiobjaaGreat
namespace Go.Proofs.YtjfnkjpnjiobjaaGreat
open Go.RowKit
theorem Cells.setRow {w : World} {b : Nat} {t : TypeId} {cs : List Value} (h : Cells w b t cs) (new : List Value) : Cells (w.setRow b new.toArray) b t new := setRow_heap w b _ _ t _ h
theorem Only.setRow {S : List Nat} {a w : World} (h : Only S a w) {b : Nat} (hb : b ∈ S ∨ a.heap.size ≤ b) (new : Array Value) : Only S a (w.setRow b new) := by
  refine ⟨h.os, h.tape, h.output, ?_, fun i hi hn => ?_⟩
  · unfold World.setRow; simpa using h.size
  · have hne : i ≠ b := by
      rintro rfl
      rcases hb with hb | hb
      · exact hn hb
      · omega
    refine Eq.trans ?_ (h.block i hi hn)
    unfold World.setRow
    simp [Array.getElem?_modify, Ne.symm hne]
theorem Cells.farRow {w : World} {b q : Nat} {t : TypeId} {cs : List Value} (h : Cells w b t cs) (hne : b ≠ q) (new : Array Value) : Cells (w.setRow q new) b t cs := by
  unfold Cells at h ⊢
  refine Eq.trans ?_ h
  unfold World.setRow
  simp [Array.getElem?_modify, Ne.symm hne]
theorem results_row_tmp {P : Program} {fn : Func} {p u : Tmp} {ty : TypeId} (h : fn.results = #[.cell p ty, .tmp u]) (tmps : Array Value) (w : World) (g : Nat) (t : TypeId) (cs : List Value) (d : TypeDesc)
    (hp : tmps.getD p undef = .pointer (some ⟨g, 0, none⟩)) (hg : Cells w g t cs)
    (hu : P.underlying ty = some d) (hd : (match d with | .struct _ | .array _ _ => true | _ => false) = true) (hi : (P.info? ty).map (·.size) = some cs.length) :
    (results fn tmps).run P w = .ok (.tuple #[.agg cs.toArray, tmps.getD u undef]) w := by
  have hp' : tmps[p]?.getD undef = .pointer (some ⟨g, 0, none⟩) := by simpa using hp
  simp [results, h, hp', asAddr, run_loadVar_row w g t ty cs.toArray (0, 0) d hg hu hd (by simpa using hi), Result.andThen]
theorem results_row {P : Program} {fn : Func} {p : Tmp} {ty : TypeId} (h : fn.results = #[.cell p ty]) (tmps : Array Value) (w : World) (g : Nat) (t : TypeId) (cs : List Value) (d : TypeDesc)
    (hp : tmps.getD p undef = .pointer (some ⟨g, 0, none⟩)) (hg : Cells w g t cs)
    (hu : P.underlying ty = some d) (hd : (match d with | .struct _ | .array _ _ => true | _ => false) = true) (hi : (P.info? ty).map (·.size) = some cs.length) :
    (results fn tmps).run P w = .ok (.agg cs.toArray) w :=
  results_cell_row h tmps w g t cs.toArray (0, 0) d hp hg hu hd (by simpa using hi)
end Go.Proofs.YtjfnkjpnjiobjaaGreat
