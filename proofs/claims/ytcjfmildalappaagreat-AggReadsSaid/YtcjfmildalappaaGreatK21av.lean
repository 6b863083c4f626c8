/-
  Contracts; each theorem bears its own conditions.
-/
import Derived.Test.YtcjfmildalappaaGreatK21ad
import Derived.Test.YtcjfmildalappaaGreatK21ar
set_option linter.all false
set_option maxRecDepth 100000
set_option maxHeartbeats 8000000
namespace Go.Proofs.YtcjfmildalappaaGreat
open Go.RowKit
def rdPo (ps : List Po) (s : List UInt8) : Option (List Po × List UInt8) :=
 match rdT s with
 | none => none
 | some (a, s1) => match rdT s1 with
  | none => none
  | some (b, s2) => match rdT s2 with
   | none => none
   | some (c, s3) => match rdB s3 with
    | none => none
    | some (q, s4) => if itR ⟨a, b, c⟩ = true ∧ idx ps a = none then some (ps ++ [⟨(ps.length : Int) + 1, ⟨a, b, c⟩, q⟩], s4) else none
def rdPs : Nat → List Po → List UInt8 → Option (List Po × List UInt8)
 | 0, ps, s => some (ps, s)
 | n + 1, ps, s => match rdPo ps s with
  | none => none
  | some (qs, t) => rdPs n qs t
def okHd (nm : List UInt8) (pol fai n : Int) : Bool := nmL nm && decide (-1 ≤ pol) && decide (pol ≤ 1099511627776) && decide (0 ≤ fai) && decide (fai ≤ 1000) && decide (0 ≤ n) && decide (n ≤ 200) && !(pol == -1 && decide (0 < fai + n))
def rdHd (s : List UInt8) : Option ((List UInt8 × Int × Int × Int) × List UInt8) :=
 match rdT s with
 | none => none
 | some (nm, s1) => match rdI s1 with
  | none => none
  | some (pol, s2) => match rdI s2 with
   | none => none
   | some (fai, s3) => match rdI s3 with
    | none => none
    | some (n, s4) => if okHd nm pol fai n = true then some ((nm, pol, fai, n), s4) else none
def rdFd (s : List UInt8) : Option ((List UInt8 × Fd) × List UInt8) :=
 match rdHd s with
 | none => none
 | some ((nm, pol, fai, n), t) => match rdPs n.toNat [] t with
  | none => none
  | some (ps, u) => some ((nm, ⟨pol, fai, ps⟩), u)
def lastN (S : Sv) : List UInt8 := (S.getLast?.map (·.1)).getD []
def rdFs : Nat → Sv → List UInt8 → Option (Sv × List UInt8)
 | 0, S, s => some (S, s)
 | n + 1, S, s => match rdFd s with
  | none => none
  | some (x, t) => if lastN S < x.1 then rdFs n (S ++ [x]) t else none
def unSt (s : List UInt8) : Option Sv :=
 match rdI s with
 | none => none
 | some (n, t) => if 0 ≤ n ∧ n ≤ 20 then (match rdFs n.toNat [] t with
  | none => none
  | some (S, u) => if u = [] then some S else none) else none
structure FdJ (f : Fd) : Prop where
 i : FdI f
 z : f.pol = -1 → f.fai = 0 ∧ f.ps = []
structure SvJ (S : Sv) : Prop where
 all : ∀ x ∈ S, FdJ x.2 ∧ nmL x.1 = true
 srt : S.Pairwise (fun a b => a.1 < b.1)
 n : S.length ≤ 20
theorem rdPo_len {ps qs : List Po} {s t : List UInt8} (h : rdPo ps s = some (qs, t)) : t.length ≤ s.length ∧ qs.length = ps.length + 1 := by
 unfold rdPo at h
 split at h
 · cases h
 · rename_i a s1 h1
   split at h
   · cases h
   · rename_i b s2 h2
     split at h
     · cases h
     · rename_i c s3 h3
       split at h
       · cases h
       · rename_i q s4 h4
         split at h
         · simp only [Option.some.injEq, Prod.mk.injEq] at h
           obtain ⟨rfl, rfl⟩ := h
           have e1 := rdT_len h1
           have e2 := rdT_len h2
           have e3 := rdT_len h3
           have e4 := rdB_len h4
           exact ⟨by omega, by simp⟩
         · cases h
theorem rdPo_iff (ps qs : List Po) (s t : List UInt8) (hs : s.length ≤ 1000000000000) : rdPo ps s = some (qs, t) ↔ ∃ x q, itR x = true ∧ idx ps x.id = none ∧ qs = ps ++ [⟨(ps.length : Int) + 1, x, q⟩] ∧ s = itT x ++ bb q ++ t ∧ x.id.length ≤ 1000000000000 ∧ x.ti.length ≤ 1000000000000 ∧ x.li.length ≤ 1000000000000 := by
 constructor
 · intro h
   unfold rdPo at h
   split at h
   · cases h
   · rename_i a s1 h1
     split at h
     · cases h
     · rename_i b s2 h2
       split at h
       · cases h
       · rename_i c s3 h3
         split at h
         · cases h
         · rename_i q s4 h4
           split at h
           · rename_i hc
             simp only [Option.some.injEq, Prod.mk.injEq] at h
             obtain ⟨rfl, rfl⟩ := h
             have e1 := rdT_len h1
             have e2 := rdT_len h2
             have l1 := rdT_short h1
             have l2 := rdT_short h2
             have l3 := rdT_short h3
             rw [rdT_iff _ _ _ (by omega)] at h1
             rw [rdT_iff _ _ _ (by omega)] at h2
             rw [rdT_iff _ _ _ (by omega)] at h3
             rw [rdB_iff] at h4
             refine ⟨⟨a, b, c⟩, q, hc.1, hc.2, rfl, ?_, by show a.length ≤ _; omega, by show b.length ≤ _; omega, by show c.length ≤ _; omega⟩
             unfold itT
             rw [h1, h2, h3, h4]
             simp only [List.append_assoc]
           · cases h
 · rintro ⟨⟨a, b, c⟩, q, h1, h2, rfl, rfl, l1, l2, l3⟩
   dsimp only at l1 l2 l3 h2
   unfold rdPo itT
   dsimp only
   have e1 : rdT (tb a ++ (tb b ++ tb c) ++ bb q ++ t) = some (a, tb b ++ (tb c ++ (bb q ++ t))) := (rdT_iff _ _ _ l1).2 (by simp only [List.append_assoc])
   have e2 : rdT (tb b ++ (tb c ++ (bb q ++ t))) = some (b, tb c ++ (bb q ++ t)) := (rdT_iff _ _ _ l2).2 rfl
   have e3 : rdT (tb c ++ (bb q ++ t)) = some (c, bb q ++ t) := (rdT_iff _ _ _ l3).2 rfl
   have e4 : rdB (bb q ++ t) = some (q, t) := (rdB_iff _ _ _).2 rfl
   rw [e1]
   dsimp only
   rw [e2]
   dsimp only
   rw [e3]
   dsimp only
   rw [e4]
   dsimp only
   rw [if_pos ⟨h1, h2⟩]
def After (ps : List Po) : List Po → Prop
 | [] => True
 | p :: r => itR p.it = true ∧ idx ps p.it.id = none ∧ p.sq = (ps.length : Int) + 1 ∧ After (ps ++ [p]) r
theorem rdPs_iff (n : Nat) : ∀ (ps qs : List Po) (s t : List UInt8), s.length ≤ 1000000000000 → (rdPs n ps s = some (qs, t) ↔ ∃ m, qs = ps ++ m ∧ m.length = n ∧ After ps m ∧ s = psB m ++ t) := by
 induction n with
 | zero =>
  intro ps qs s t hs
  unfold rdPs
  constructor
  · intro h
    simp only [Option.some.injEq, Prod.mk.injEq] at h
    obtain ⟨rfl, rfl⟩ := h
    exact ⟨[], by simp, rfl, trivial, rfl⟩
  · rintro ⟨m, rfl, hm, _, rfl⟩
    have : m = [] := List.length_eq_zero_iff.1 hm
    subst this
    simp [psB]
 | succ n ih =>
  intro ps qs s t hs
  unfold rdPs
  constructor
  · intro h
    split at h
    · cases h
    · rename_i qs1 t1 h1
      have hl := rdPo_len h1
      obtain ⟨x, q, a1, a2, rfl, rfl, _⟩ := (rdPo_iff _ _ _ _ hs).1 h1
      obtain ⟨m, rfl, hm, hA, rfl⟩ := (ih _ _ _ _ (by omega)).1 h
      refine ⟨⟨(ps.length : Int) + 1, x, q⟩ :: m, by simp, by simp [hm], ⟨a1, a2, rfl, hA⟩, ?_⟩
      unfold psB
      rw [List.flatMap_cons]
      simp [spB]
  · rintro ⟨m, rfl, hm, hA, rfl⟩
    cases m with
    | nil => simp at hm
    | cons p r =>
     obtain ⟨b1, b2, b3, b4⟩ := hA
     obtain ⟨sq, x, q⟩ := p
     dsimp only at b1 b2 b3
     subst b3
     have hsh := itR_sh b1
     have l1 := hsh.id
     have l2 := hsh.ti
     have l3 := hsh.li
     have e1 : psB (⟨(ps.length : Int) + 1, x, q⟩ :: r) ++ t = itT x ++ bb q ++ (psB r ++ t) := by
      unfold psB
      rw [List.flatMap_cons]
      simp [spB]
     rw [e1] at hs ⊢
     have h1 := (rdPo_iff ps (ps ++ [⟨(ps.length : Int) + 1, x, q⟩]) _ (psB r ++ t) hs).2 ⟨x, q, b1, b2, rfl, rfl, by omega, by omega, by omega⟩
     rw [h1]
     dsimp only
     refine (ih _ _ _ _ ?_).2 ⟨r, by simp, by simpa using hm, b4, rfl⟩
     rw [List.length_append] at hs
     omega
theorem idx_no {ps : List Po} {k : List UInt8} (h : ∀ y ∈ ps, y.it.id ≠ k) : idx ps k = none := by
 unfold idx
 refine List.findIdx?_eq_none_iff.2 fun y hy => ?_
 simpa using h y hy
theorem after_ok17 : ∀ (m ps : List Po), PsOk ps → (∀ p ∈ ps, itR p.it = true) → (ps ++ m).length ≤ 200 → (After ps m ↔ PsOk (ps ++ m) ∧ ∀ p ∈ ps ++ m, itR p.it = true)
 | [], ps, h1, h2, _ => by simp [After, h1]; exact h2
 | p :: r, ps, h1, h2, hl => by
  constructor
  · rintro ⟨a1, a2, a3, a4⟩
    have hp : PsOk (ps ++ [p]) := by
     refine ⟨fun i x hx => ?_, ?_, ?_⟩
     · rcases Nat.lt_or_ge i ps.length with hi | hi
       · rw [List.getElem?_append_left hi] at hx; exact h1.sq i x hx
       · rw [List.getElem?_append_right hi] at hx
         have h0 : i - ps.length = 0 := by
            have := (List.getElem?_eq_some_iff.1 hx).1
            simp at this
            omega
         rw [h0] at hx
         simp at hx
         subst hx
         rw [a3]; omega
     · rw [List.map_append]
       refine List.nodup_append.2 ⟨h1.ids, by simp, fun a ha b hb => ?_⟩
       simp at hb
       subst hb
       obtain ⟨y, hy, rfl⟩ := List.mem_map.1 ha
       exact idx_none a2 y hy
     · rw [List.length_append] at hl ⊢
       simp at hl ⊢
       omega
    have := (after_ok17 r (ps ++ [p]) hp (fun q hq => by
     rcases List.mem_append.1 hq with hq | hq
     · exact h2 q hq
     · obtain rfl := List.mem_singleton.1 hq; exact a1) (by simpa using hl)).1 a4
    simpa using this
  · rintro ⟨b1, b2⟩
    have hp1 : (ps ++ p :: r)[ps.length]? = some p := by rw [List.getElem?_append_right (Nat.le_refl _)]; simp
    have hsq := b1.sq ps.length p hp1
    have hid : idx ps p.it.id = none := by
     refine idx_no fun y hy e => ?_
     have h3 := b1.ids
     rw [List.map_append, List.map_cons] at h3
     exact (List.nodup_append.1 h3).2.2 _ (List.mem_map_of_mem (f := (·.it.id)) hy) _ (by simp) e
    refine ⟨b2 p (by simp), hid, hsq, ?_⟩
    have hp : PsOk (ps ++ [p]) := by
     refine ⟨fun i x hx => ?_, ?_, ?_⟩
     · refine b1.sq i x ?_
       have hi := (List.getElem?_eq_some_iff.1 hx).1
       have : ps ++ p :: r = (ps ++ [p]) ++ r := by simp
       rw [this, List.getElem?_append_left hi]
       exact hx
     · have h3 := b1.ids
       have : ps ++ p :: r = (ps ++ [p]) ++ r := by simp
       rw [this, List.map_append] at h3
       exact (List.nodup_append.1 h3).1
     · rw [List.length_append] at hl ⊢
       simp at hl ⊢
       omega
    exact (after_ok17 r (ps ++ [p]) hp (fun q hq => b2 q (by
     rcases List.mem_append.1 hq with hq | hq
     · simp [hq]
     · obtain rfl := List.mem_singleton.1 hq; simp)) (by simpa using hl)).2 ⟨by simpa using b1, fun q hq => b2 q (by simpa using hq)⟩
theorem okHd_iff (nm : List UInt8) (pol fai n : Int) : okHd nm pol fai n = true ↔ nmL nm = true ∧ -1 ≤ pol ∧ pol ≤ 1099511627776 ∧ 0 ≤ fai ∧ fai ≤ 1000 ∧ 0 ≤ n ∧ n ≤ 200 ∧ ¬ (pol = -1 ∧ 0 < fai + n) := by
 unfold okHd
 simp only [Bool.and_eq_true, decide_eq_true_eq, Bool.not_eq_true', Bool.and_eq_false_iff, beq_eq_false_iff_ne, decide_eq_false_iff_not]
 constructor
 · rintro ⟨⟨⟨⟨⟨⟨⟨h0, h1⟩, h2⟩, h3⟩, h4⟩, h5⟩, h6⟩, h7⟩
   exact ⟨h0, h1, h2, h3, h4, h5, h6, fun h => h7.elim (fun a => a h.1) (fun a => a h.2)⟩
 · rintro ⟨h0, h1, h2, h3, h4, h5, h6, h7⟩
   refine ⟨⟨⟨⟨⟨⟨⟨h0, h1⟩, h2⟩, h3⟩, h4⟩, h5⟩, h6⟩, ?_⟩
   by_cases h : pol = -1
   · exact .inr fun a => h7 ⟨h, a⟩
   · exact .inl h
theorem rdHd_iff (s t : List UInt8) (nm : List UInt8) (pol fai n : Int) (hs : s.length ≤ 1000000000000) : rdHd s = some ((nm, pol, fai, n), t) ↔ okHd nm pol fai n = true ∧ s = tb nm ++ (ib pol ++ (ib fai ++ (ib n ++ t))) := by
 constructor
 · intro h
   unfold rdHd at h
   split at h
   · cases h
   · rename_i a s1 h1
     split at h
     · cases h
     · rename_i b s2 h2
       split at h
       · cases h
       · rename_i c s3 h3
         split at h
         · cases h
         · rename_i d s4 h4
           split at h
           · rename_i hok
             simp only [Option.some.injEq, Prod.mk.injEq] at h
             obtain ⟨⟨rfl, rfl, rfl, rfl⟩, rfl⟩ := h
             have l1 := rdT_short h1
             rw [rdT_iff _ _ _ (by omega)] at h1
             obtain ⟨_, e2⟩ := (rdI_iff _ _ _).1 h2
             obtain ⟨_, e3⟩ := (rdI_iff _ _ _).1 h3
             obtain ⟨_, e4⟩ := (rdI_iff _ _ _).1 h4
             exact ⟨hok, by rw [h1, e2, e3, e4]⟩
           · cases h
 · rintro ⟨hok, rfl⟩
   obtain ⟨h0, h1, h2, h3, h4, h5, h6, _⟩ := (okHd_iff _ _ _ _).1 hok
   have hn := nmL_len h0
   unfold rdHd
   rw [(rdT_iff _ nm _ (by omega)).2 rfl]
   dsimp only
   rw [(rdI_iff _ pol _).2 ⟨⟨by omega, by omega⟩, rfl⟩]
   dsimp only
   rw [(rdI_iff _ fai _).2 ⟨⟨by omega, by omega⟩, rfl⟩]
   dsimp only
   rw [(rdI_iff _ n _).2 ⟨⟨by omega, by omega⟩, rfl⟩]
   dsimp only
   rw [if_pos hok]
theorem rdHd_len {s t : List UInt8} {x : List UInt8 × Int × Int × Int} (hs : s.length ≤ 1000000000000) (h : rdHd s = some (x, t)) : t.length ≤ s.length := by
 obtain ⟨nm, pol, fai, n⟩ := x
 obtain ⟨_, e⟩ := (rdHd_iff s t nm pol fai n hs).1 h
 rw [e]
 simp only [List.length_append]
 omega
theorem rdFd_iff (s t : List UInt8) (x : List UInt8 × Fd) (hs : s.length ≤ 1000000000000) : rdFd s = some (x, t) ↔ FdJ x.2 ∧ nmL x.1 = true ∧ s = fdB x ++ t := by
 constructor
 · intro h
   unfold rdFd at h
   split at h
   · cases h
   · rename_i nm pol fai n s1 h1
     split at h
     · cases h
     · rename_i ps u h2
       simp only [Option.some.injEq, Prod.mk.injEq] at h
       obtain ⟨rfl, rfl⟩ := h
       have hl := rdHd_len hs h1
       obtain ⟨hok, rfl⟩ := (rdHd_iff _ _ _ _ _ _ hs).1 h1
       obtain ⟨m, rfl, hm, hA, rfl⟩ := (rdPs_iff _ _ _ _ _ (by omega)).1 h2
       obtain ⟨h0, a1, a2, a3, a4, a5, a6, a7⟩ := (okHd_iff _ _ _ _).1 hok
       obtain ⟨p1, p2⟩ := (after_ok17 ps [] PsOk.nil (by simp) (by rw [List.nil_append]; omega)).1 hA
       rw [List.nil_append] at p1 p2
       refine ⟨⟨⟨p1, p2, ⟨a1, a2, a3, a4⟩⟩, fun h => ?_⟩, h0, ?_⟩
       · have h8 : ¬ 0 < fai + n := fun h9 => a7 ⟨h, h9⟩
         refine ⟨by show fai = 0; omega, List.length_eq_zero_iff.1 (by rw [hm]; omega)⟩
       · unfold fdB fdH
         dsimp only
         rw [show (ps.length : Int) = n from by omega]
         simp [isb]
 · rintro ⟨⟨hi, hz⟩, hn, rfl⟩
   obtain ⟨nm, pol, fai, ps⟩ := x
   dsimp only at hi hz hn
   have hps : PsOk ps := hi.ps
   have hnb : -1 ≤ pol ∧ pol ≤ 1099511627776 ∧ 0 ≤ fai ∧ fai ≤ 1000 := hi.nb
   have hcap := hps.n
   have hok : okHd nm pol fai ps.length = true := (okHd_iff _ _ _ _).2 ⟨hn, hnb.1, hnb.2.1, hnb.2.2.1, hnb.2.2.2, by omega, by omega, fun h => by
    obtain ⟨h1, h2⟩ := hz h.1
    have := h.2
    rw [h1, h2] at this
    simp at this⟩
   have e1 : fdB (nm, ⟨pol, fai, ps⟩) ++ t = tb nm ++ (ib pol ++ (ib fai ++ (ib (ps.length : Int) ++ (psB ps ++ t)))) := by
    unfold fdB fdH
    simp [isb]
   rw [e1] at hs ⊢
   have h1 := (rdHd_iff _ (psB ps ++ t) nm pol fai ps.length hs).2 ⟨hok, rfl⟩
   have hl := rdHd_len hs h1
   unfold rdFd
   rw [h1]
   dsimp only
   have hA : After [] ps := (after_ok17 ps [] PsOk.nil (by simp) (by simpa using hcap)).2 ⟨by simpa using hps, fun p hp => hi.its p (by simpa using hp)⟩
   rw [(rdPs_iff _ [] ps _ t (by omega)).2 ⟨ps, by simp, by simp, hA, rfl⟩]
theorem rdFd_len {s t : List UInt8} {x : List UInt8 × Fd} (hs : s.length ≤ 1000000000000) (h : rdFd s = some (x, t)) : t.length ≤ s.length := by
 obtain ⟨_, _, e⟩ := (rdFd_iff s t x hs).1 h
 rw [e, List.length_append]
 omega
theorem lastN_lt {S : Sv} {k : List UInt8} (hs : S.Pairwise (fun a b => a.1 < b.1)) (hk : k ≠ []) : lastN S < k ↔ ∀ x ∈ S, x.1 < k := by
 unfold lastN
 rcases List.eq_nil_or_concat S with rfl | ⟨S', z, rfl⟩
 · simp only [List.getLast?_nil, Option.map_none, Option.getD_none, List.not_mem_nil, false_implies, implies_true, iff_true]
   cases k with
   | nil => exact absurd rfl hk
   | cons a r => exact List.nil_lt_cons a r
 · rw [List.concat_eq_append] at hs ⊢
   rw [List.getLast?_append]
   simp only [List.getLast?_singleton, Option.some_or, Option.map_some, Option.getD_some]
   constructor
   · intro h x hx
     rcases List.mem_append.1 hx with hx | hx
     · exact List.lt_trans ((List.pairwise_append.1 hs).2.2 x hx z (by simp)) h
     · obtain rfl := List.mem_singleton.1 hx; exact h
   · intro h
     exact h z (by simp)
theorem srt_snoc {S : Sv} {x : List UInt8 × Fd} (hs : S.Pairwise (fun a b => a.1 < b.1)) (h : ∀ y ∈ S, y.1 < x.1) : (S ++ [x]).Pairwise (fun a b => a.1 < b.1) :=
 List.pairwise_append.2 ⟨hs, by simp, fun a ha b hb => by obtain rfl := List.mem_singleton.1 hb; exact h a ha⟩
theorem nmL_ne {k : List UInt8} (h : nmL k = true) : k ≠ [] := fun e => by have := (nmL_len h).1; rw [e] at this; simp at this
theorem rdFs_iff (n : Nat) : ∀ (S S' : Sv) (s t : List UInt8), s.length ≤ 1000000000000 → S.Pairwise (fun a b => a.1 < b.1) → (rdFs n S s = some (S', t) ↔ ∃ m, S' = S ++ m ∧ m.length = n ∧ (∀ x ∈ m, FdJ x.2 ∧ nmL x.1 = true) ∧ (S ++ m).Pairwise (fun a b => a.1 < b.1) ∧ s = fsB m ++ t) := by
 induction n with
 | zero =>
  intro S S' s t hs hS
  unfold rdFs
  constructor
  · intro h
    simp only [Option.some.injEq, Prod.mk.injEq] at h
    obtain ⟨rfl, rfl⟩ := h
    exact ⟨[], by simp, rfl, by simp, by simpa using hS, rfl⟩
  · rintro ⟨m, rfl, hm, _, _, rfl⟩
    have : m = [] := List.length_eq_zero_iff.1 hm
    subst this
    simp [fsB]
 | succ n ih =>
  intro S S' s t hs hS
  unfold rdFs
  constructor
  · intro h
    split at h
    · cases h
    · rename_i x t1 h1
      split at h
      · rename_i hlt
        have hl := rdFd_len hs h1
        obtain ⟨a1, a2, rfl⟩ := (rdFd_iff _ _ _ hs).1 h1
        have hall := (lastN_lt hS (nmL_ne a2)).1 hlt
        obtain ⟨m, rfl, hm, hg, hp, rfl⟩ := (ih _ _ _ _ (by omega) (srt_snoc hS hall)).1 h
        refine ⟨x :: m, by simp, by simp [hm], fun y hy => ?_, by simpa using hp, ?_⟩
        · rcases List.mem_cons.1 hy with rfl | hy
          · exact ⟨a1, a2⟩
          · exact hg y hy
        · unfold fsB
          rw [List.flatMap_cons]
          simp
      · cases h
  · rintro ⟨m, rfl, hm, hg, hp, rfl⟩
    cases m with
    | nil => simp at hm
    | cons x r =>
     obtain ⟨a1, a2⟩ := hg x (by simp)
     have e1 : fsB (x :: r) ++ t = fdB x ++ (fsB r ++ t) := by unfold fsB; rw [List.flatMap_cons]; simp
     rw [e1] at hs ⊢
     have h1 := (rdFd_iff _ (fsB r ++ t) x hs).2 ⟨a1, a2, rfl⟩
     rw [h1]
     dsimp only
     have hall : ∀ y ∈ S, y.1 < x.1 := fun y hy => (List.pairwise_append.1 hp).2.2 y hy x (by simp)
     rw [if_pos ((lastN_lt hS (nmL_ne a2)).2 hall)]
     rw [List.length_append] at hs
     exact (ih _ _ _ _ (by omega) (srt_snoc hS hall)).2 ⟨r, by simp, by simpa using hm, fun y hy => hg y (List.mem_cons_of_mem _ hy), by simpa using hp, rfl⟩
theorem unSt_iff (s : List UInt8) (S : Sv) (hs : s.length ≤ 1000000000000) : unSt s = some S ↔ SvJ S ∧ s = stB S := by
 constructor
 · intro h
   unfold unSt at h
   split at h
   · cases h
   · rename_i n t h1
     have hl := rdI_length h1
     obtain ⟨_, rfl⟩ := (rdI_iff _ _ _).1 h1
     split at h
     · rename_i hn
       split at h
       · cases h
       · rename_i S1 u h2
         split at h
         · rename_i hu
           subst hu
           simp only [Option.some.injEq] at h
           subst h
           obtain ⟨m, rfl, hm, hg, hp, rfl⟩ := (rdFs_iff _ _ _ _ _ (by omega) List.Pairwise.nil).1 h2
           rw [List.nil_append] at hp
           refine ⟨⟨hg, hp, by rw [hm]; omega⟩, ?_⟩
           unfold stB
           rw [show (S1.length : Int) = n from by omega]
           simp
         · cases h
     · cases h
 · rintro ⟨hJ, rfl⟩
   have h20 := hJ.n
   unfold stB at hs ⊢
   unfold unSt
   rw [(rdI_iff _ (S.length : Int) (fsB S)).2 ⟨⟨by omega, by omega⟩, rfl⟩]
   dsimp only
   rw [if_pos (by omega), Int.toNat_natCast]
   rw [List.length_append] at hs
   rw [(rdFs_iff S.length [] S (fsB S) [] (by omega) List.Pairwise.nil).2 ⟨S, by simp, rfl, hJ.all, by simpa using hJ.srt, by simp⟩]
   simp
def Rd.num (r : Rd) (lo hi : Int) : Rd := ⟨r.int.2.s, r.int.2.bad || decide (r.int.1 < lo) || decide (hi < r.int.1)⟩
def hdB (r4 : Rd) (nm : List UInt8) (pol fai n : Int) : Bool := r4.bad || !nmL nm || (pol == -1 && decide (0 < fai + n))
theorem hd_chain (r r1 r2 r3 r4 : Rd) (hb : r.bad = false) (h1 : r1 = r.text.2) (h2 : r2 = r1.num (-1) 1099511627776) (h3 : r3 = r2.num 0 1000) (h4 : r4 = r3.num 0 200) :
 rdHd r.s = if hdB r4 r.text.1 r1.int.1 r2.int.1 r3.int.1 = true then none else some ((r.text.1, r1.int.1, r2.int.1, r3.int.1), r4.s) := by
 obtain ⟨s, b⟩ := r
 dsimp only at hb
 subst hb
 have keep : ∀ (q : Rd) (lo hi : Int), q.bad = true → (q.num lo hi).bad = true := fun q lo hi h => by
  unfold Rd.num
  have : q.int.2.bad = true := get_bad h
  rw [this]; rfl
 have hbad : ∀ nm p f n, r4.bad = true → hdB r4 nm p f n = true := fun nm p f n h => by unfold hdB; rw [h]; rfl
 have num_some : ∀ (u t : List UInt8) (x lo hi : Int), rdI u = some (x, t) → Rd.int ⟨u, false⟩ = (x, ⟨t, false⟩) ∧ Rd.num ⟨u, false⟩ lo hi = ⟨t, decide (x < lo) || decide (hi < x)⟩ := fun u t x lo hi h => by
  have e : Rd.int ⟨u, false⟩ = (x, ⟨t, false⟩) := get_out h
  refine ⟨e, ?_⟩
  unfold Rd.num
  rw [e]
  simp
 have num_none : ∀ (u : List UInt8) (lo hi : Int), rdI u = none → (Rd.num ⟨u, false⟩ lo hi).bad = true := fun u lo hi h => by
  unfold Rd.num Rd.int Rd.get
  simp only [h]
  rfl
 unfold rdHd
 cases hT : rdT s with
 | none =>
  have e1 : r1.bad = true := by rw [h1]; unfold Rd.text Rd.get; simp only [hT]
  have e4 : r4.bad = true := by rw [h4]; exact keep _ _ _ (by rw [h3]; exact keep _ _ _ (by rw [h2]; exact keep _ _ _ e1))
  rw [if_pos (hbad _ _ _ _ e4)]
 | some p =>
  obtain ⟨nm, s1⟩ := p
  have eT : Rd.text ⟨s, false⟩ = (nm, ⟨s1, false⟩) := get_out hT
  have e1 : r1 = ⟨s1, false⟩ := by rw [h1, eT]
  rw [eT]
  dsimp only
  subst e1
  cases h5 : rdI s1 with
  | none =>
   have e4 : r4.bad = true := by rw [h4]; exact keep _ _ _ (by rw [h3]; exact keep _ _ _ (by rw [h2]; exact num_none _ _ _ h5))
   rw [if_pos (hbad _ _ _ _ e4)]
  | some p =>
   obtain ⟨pol, s2⟩ := p
   obtain ⟨i1, i2⟩ := num_some s1 s2 pol (-1) 1099511627776 h5
   rw [i1]
   dsimp only
   rw [i2] at h2
   have hok : ∀ f n, okHd nm pol f n = true → r2 = ⟨s2, false⟩ := fun f n h => by
    obtain ⟨_, a1, a2, _⟩ := (okHd_iff _ _ _ _).1 h
    rw [h2, decide_eq_false (by omega), decide_eq_false (by omega)]; rfl
   cases hb2 : r2.bad with
   | true =>
    have e4 : r4.bad = true := by rw [h4]; exact keep _ _ _ (by rw [h3]; exact keep _ _ _ hb2)
    rw [if_pos (hbad _ _ _ _ e4)]
    cases h6 : rdI s2 with
    | none => rfl
    | some p =>
     dsimp only
     cases h7 : rdI p.2 with
     | none => rfl
     | some q =>
      dsimp only
      rw [if_neg fun h => by rw [hok _ _ h] at hb2; cases hb2]
   | false =>
    have e2 : r2 = ⟨s2, false⟩ := by
     rw [h2] at hb2 ⊢
     dsimp only at hb2
     rw [hb2]
    rw [h2] at hb2
    simp only [Bool.or_eq_false_iff, decide_eq_false_iff_not] at hb2
    subst e2
    cases h6 : rdI s2 with
    | none =>
     have e4 : r4.bad = true := by rw [h4]; exact keep _ _ _ (by rw [h3]; exact num_none _ _ _ h6)
     rw [if_pos (hbad _ _ _ _ e4)]
    | some p =>
     obtain ⟨fai, s3⟩ := p
     obtain ⟨j1, j2⟩ := num_some s2 s3 fai 0 1000 h6
     rw [j1]
     dsimp only
     rw [j2] at h3
     cases hb3 : r3.bad with
     | true =>
      have e4 : r4.bad = true := by rw [h4]; exact keep _ _ _ hb3
      rw [if_pos (hbad _ _ _ _ e4)]
      cases h7 : rdI s3 with
      | none => rfl
      | some q =>
       dsimp only
       rw [if_neg fun h => by
        obtain ⟨_, _, _, a1, a2, _⟩ := (okHd_iff _ _ _ _).1 h
        rw [h3] at hb3
        simp only [Bool.or_eq_true, decide_eq_true_eq] at hb3
        omega]
     | false =>
      have e3 : r3 = ⟨s3, false⟩ := by
       rw [h3] at hb3 ⊢
       dsimp only at hb3
       rw [hb3]
      rw [h3] at hb3
      simp only [Bool.or_eq_false_iff, decide_eq_false_iff_not] at hb3
      subst e3
      cases h7 : rdI s3 with
      | none =>
       have e4 : r4.bad = true := by rw [h4]; exact num_none _ _ _ h7
       rw [if_pos (hbad _ _ _ _ e4)]
      | some p =>
       obtain ⟨n, s4⟩ := p
       obtain ⟨k1, k2⟩ := num_some s3 s4 n 0 200 h7
       rw [k1]
       dsimp only
       rw [k2] at h4
       rw [h4]
       dsimp only
       by_cases hO : okHd nm pol fai n = true
       · obtain ⟨a0, a1, a2, a3, a4, a5, a6, a7⟩ := (okHd_iff _ _ _ _).1 hO
         rw [if_pos hO, if_neg]
         unfold hdB
         dsimp only
         rw [a0, decide_eq_false (by omega : ¬ n < 0), decide_eq_false (by omega : ¬ 200 < n)]
         simp only [Bool.or_self, Bool.not_true, Bool.false_or, Bool.and_eq_true, beq_iff_eq, decide_eq_true_eq]
         exact a7
       · rw [if_neg hO, if_pos]
         unfold hdB
         dsimp only
         cases hB : (decide (n < 0) || decide (200 < n) || !nmL nm || (pol == -1 && decide (0 < fai + n))) with
         | true => rfl
         | false =>
                  exfalso
                  simp only [Bool.or_eq_false_iff, decide_eq_false_iff_not, Bool.not_eq_false', Bool.and_eq_false_iff, beq_eq_false_iff_ne] at hB
                  obtain ⟨⟨⟨b1, b2⟩, b3⟩, b4⟩ := hB
                  refine hO ((okHd_iff _ _ _ _).2 ⟨b3, by omega, by omega, by omega, by omega, by omega, by omega, fun h => ?_⟩)
                  rcases b4 with b4 | b4
                  · exact b4 h.1
                  · exact b4 h.2
theorem hdB_ok {r4 : Rd} {nm : List UInt8} {pol fai n : Int} {s : List UInt8} (hs : s.length ≤ 1000000000000) (h : rdHd s = some ((nm, pol, fai, n), r4.s)) : nmL nm = true ∧ -1 ≤ pol ∧ pol ≤ 1099511627776 ∧ 0 ≤ fai ∧ fai ≤ 1000 ∧ 0 ≤ n ∧ n ≤ 200 := by
 obtain ⟨a0, a1, a2, a3, a4, a5, a6, _⟩ := (okHd_iff _ _ _ _).1 ((rdHd_iff _ _ _ _ _ _ hs).1 h).1
 exact ⟨a0, a1, a2, a3, a4, a5, a6⟩
theorem po_chain (r r1 r2 r3 r4 : Rd) (ps : List Po) (hb : r.bad = false) (h1 : r1 = r.text.2) (h2 : r2 = r1.text.2) (h3 : r3 = r2.text.2) (h4 : r4 = r3.bool.2) :
 rdPo ps r.s = if r4.bad = true then none else if itR ⟨r.text.1, r1.text.1, r2.text.1⟩ = true ∧ idx ps r.text.1 = none then some (ps ++ [⟨(ps.length : Int) + 1, ⟨r.text.1, r1.text.1, r2.text.1⟩, r3.bool.1⟩], r4.s) else none := by
 obtain ⟨s, b⟩ := r
 dsimp only at hb
 subst hb
 have kt : ∀ q : Rd, q.bad = true → q.text.2.bad = true := fun q h => get_bad h
 have kb : ∀ q : Rd, q.bad = true → q.bool.2.bad = true := fun q h => get_bad h
 unfold rdPo
 cases hT : rdT s with
 | none =>
  have e1 : r1.bad = true := by rw [h1]; unfold Rd.text Rd.get; simp only [hT]
  have e4 : r4.bad = true := by rw [h4]; exact kb _ (by rw [h3]; exact kt _ (by rw [h2]; exact kt _ e1))
  rw [if_pos e4]
 | some p =>
  obtain ⟨a, s1⟩ := p
  have eT : Rd.text ⟨s, false⟩ = (a, ⟨s1, false⟩) := get_out hT
  rw [eT] at h1 ⊢
  dsimp only at h1 ⊢
  subst h1
  cases h5 : rdT s1 with
  | none =>
   have e1 : r2.bad = true := by rw [h2]; unfold Rd.text Rd.get; simp only [h5]
   have e4 : r4.bad = true := by rw [h4]; exact kb _ (by rw [h3]; exact kt _ e1)
   rw [if_pos e4]
  | some p =>
   obtain ⟨b, s2⟩ := p
   have e5 : Rd.text ⟨s1, false⟩ = (b, ⟨s2, false⟩) := get_out h5
   rw [e5] at h2 ⊢
   dsimp only at h2 ⊢
   subst h2
   cases h6 : rdT s2 with
   | none =>
    have e1 : r3.bad = true := by rw [h3]; unfold Rd.text Rd.get; simp only [h6]
    have e4 : r4.bad = true := by rw [h4]; exact kb _ e1
    rw [if_pos e4]
   | some p =>
    obtain ⟨c, s3⟩ := p
    have e6 : Rd.text ⟨s2, false⟩ = (c, ⟨s3, false⟩) := get_out h6
    rw [e6] at h3 ⊢
    dsimp only at h3 ⊢
    subst h3
    cases h7 : rdB s3 with
    | none =>
     have e4 : r4.bad = true := by rw [h4]; unfold Rd.bool Rd.get; simp only [h7]
     rw [if_pos e4]
    | some p =>
     obtain ⟨q, s4⟩ := p
     have e7 : Rd.bool ⟨s3, false⟩ = (q, ⟨s4, false⟩) := get_out h7
     rw [e7] at h4 ⊢
     dsimp only at h4 ⊢
     subst h4
     simp only [Bool.false_eq_true, if_false]
end Go.Proofs.YtcjfmildalappaaGreat
