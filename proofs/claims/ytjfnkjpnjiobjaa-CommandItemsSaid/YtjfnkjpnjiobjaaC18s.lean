/-
  Chapter 18: what is read of a reply's bytes: plain.
-/
import Derived.Test.YtjfnkjpnjiobjaaC18r
import Derived.Test.YtjfnkjpnjiobjaaC18o
namespace Go.Proofs.Ytjfnkjpnjiobjaa
open Go.RowKit
def Rd.post (r : Rd) : Po × Rd := (⟨r.int.1, r.int.2.item.1, r.int.2.item.2.bool.1⟩, r.int.2.item.2.bool.2)
def Rd.posts (r : Rd) : Nat → List Po × Rd
  | 0 => ([], r)
  | k + 1 => ((r.posts k).1 ++ [(r.posts k).2.post.1], (r.posts k).2.post.2)
theorem post_in {r : Rd} (h : r.post.2.bad = false) (hl : r.s.length ≤ 1000000000000) : r.bad = false ∧ r.s = poB r.post.1 ++ r.post.2.s := by
  have l1 := int_len hl
  obtain ⟨a1, a2⟩ := bool_in (r := r.int.2.item.2) h
  obtain ⟨b1, b2⟩ := item_in (r := r.int.2) a1 l1
  obtain ⟨c1, _, c2⟩ := int_in (r := r) b1
  refine ⟨c1, ?_⟩
  show r.s = ib r.int.1 ++ (itB r.int.2.item.1 ++ bb r.int.2.item.2.bool.1) ++ r.int.2.item.2.bool.2.s
  rw [List.append_assoc, List.append_assoc, ← a2, ← b2, ← c2]
structure Po.Ok (x : Po) : Prop where
  sq : Wide64 x.sq
  it : x.it.Ok
theorem Po.Sm.ok {x : Po} (h : x.Sm) : x.Ok := ⟨h.sq, h.it.ok⟩
theorem post_out (x : Po) (hx : x.Ok) (t : List UInt8) (q : Bool) : Rd.post ⟨poB x ++ t, q⟩ = (x, ⟨t, q⟩) := by
  have h1 := int_out x.sq hx.sq (itB x.it ++ (bb x.rd ++ t)) q
  have h2 := item_out x.it hx.it (bb x.rd ++ t) q
  have h3 := bool_out x.rd t q
  have e : poB x ++ t = ib x.sq ++ (itB x.it ++ (bb x.rd ++ t)) := by unfold poB; simp
  unfold Rd.post
  rw [e, h1]
  dsimp only
  rw [h2]
  dsimp only
  rw [h3]
theorem post_len {r : Rd} {n : Nat} (h : r.s.length ≤ n) : r.post.2.s.length ≤ n := bool_len (item_len (int_len h))
theorem post_ok {r : Rd} (h : r.s.length ≤ 1000000000000) : r.post.1.Ok := ⟨int_wide _, item_ok (int_len h)⟩
theorem post_sm {r : Rd} (h : r.s.length ≤ 1000000) : r.post.1.Sm := ⟨int_wide _, item_sm (int_len h)⟩
theorem posts_len {r : Rd} {n : Nat} (h : r.s.length ≤ n) : ∀ k, (r.posts k).2.s.length ≤ n
  | 0 => h
  | k + 1 => post_len (posts_len h k)
theorem posts_length (r : Rd) : ∀ k, (r.posts k).1.length = k
  | 0 => rfl
  | k + 1 => by show ((r.posts k).1 ++ [_]).length = _; rw [List.length_append, posts_length r k]; rfl
theorem posts_all {r : Rd} {n : Nat} {p : Po → Prop} (hp : ∀ q : Rd, q.s.length ≤ n → p q.post.1) (h : r.s.length ≤ n) : ∀ k, ∀ x ∈ (r.posts k).1, p x
  | 0 => fun x hx => (List.not_mem_nil hx).elim
  | k + 1 => fun x hx => by
    rcases List.mem_append.1 hx with hx | hx
    · exact posts_all hp h k x hx
    · obtain rfl := List.mem_singleton.1 hx
      exact hp _ (posts_len h k)
theorem psB_end (l : List Po) (x : Po) : psB (l ++ [x]) = psB l ++ poB x := by unfold psB; rw [List.flatMap_append]; simp
theorem posts_in (r : Rd) (hl : r.s.length ≤ 1000000000000) : ∀ k : Nat, (r.posts k).2.bad = false → r.bad = false ∧ r.s = psB (r.posts k).1 ++ (r.posts k).2.s
  | 0, h => ⟨h, rfl⟩
  | k + 1, h => by
    obtain ⟨a1, a2⟩ := post_in (r := (r.posts k).2) h (posts_len hl k)
    obtain ⟨b1, b2⟩ := posts_in r hl k a1
    refine ⟨b1, ?_⟩
    rw [b2, a2]
    show _ = psB ((r.posts k).1 ++ [(r.posts k).2.post.1]) ++ (r.posts k).2.post.2.s
    rw [psB_end, List.append_assoc]
theorem posts_out (l : List Po) (t : List UInt8) (q : Bool) (hw : ∀ x ∈ l, x.Ok) : ∀ k, k ≤ l.length → Rd.posts ⟨psB l ++ t, q⟩ k = (l.take k, ⟨psB (l.drop k) ++ t, q⟩) := by
  intro k
  induction k with
  | zero => intro _; rfl
  | succ k ih =>
    intro hk
    have a1 := ih (by omega)
    have h1 : l.drop k = l[k] :: l.drop (k + 1) := List.drop_eq_getElem_cons (by omega)
    show ((Rd.posts ⟨psB l ++ t, q⟩ k).1 ++ [(Rd.posts ⟨psB l ++ t, q⟩ k).2.post.1], (Rd.posts ⟨psB l ++ t, q⟩ k).2.post.2) = _
    rw [a1]
    dsimp only
    have h2 : psB (l.drop k) ++ t = poB l[k] ++ (psB (l.drop (k + 1)) ++ t) := by rw [h1, ← List.append_assoc]; rfl
    rw [h2, post_out _ (hw _ (List.getElem_mem _)), List.take_add_one, List.getElem?_eq_getElem (by omega)]
    rfl
theorem posts_out' (l : List Po) (t : List UInt8) (q : Bool) (hw : ∀ x ∈ l, x.Ok) : Rd.posts ⟨psB l ++ t, q⟩ l.length = (l, ⟨t, q⟩) := by
  have := posts_out l t q hw l.length (Nat.le_refl _)
  simpa [psB] using this
theorem post_bad {r : Rd} (h : r.bad = true) : r.post.2.bad = true := get_bad (get_bad (get_bad (get_bad (get_bad h))))
theorem posts_bad {r : Rd} (h : r.bad = true) : ∀ k, (r.posts k).2.bad = true
  | 0 => h
  | k + 1 => post_bad (posts_bad h k)
theorem posts_mono (r : Rd) (j : Nat) (h : (r.posts j).2.bad = true) : ∀ m, (r.posts (j + m)).2.bad = true
  | 0 => h
  | m + 1 => post_bad (posts_mono r j h m)
/-! What is read of a reply's bytes. -/
def aE (s : List UInt8) : Int := (Rd.int ⟨s, false⟩).1
def a1 (s : List UInt8) : Rd := (Rd.int ⟨s, false⟩).2
def aN (s : List UInt8) : Int := (a1 s).int.1
def a2 (s : List UInt8) : Rd := (a1 s).int.2
def aK (s : List UInt8) : Int := (a2 s).int.1
def a3 (s : List UInt8) : Rd := (a2 s).int.2
structure Rp.Ok (r : Rp) : Prop where
  er : 0 ≤ r.er ∧ r.er ≤ 19
  n : Wide64 r.n
  len : r.ps.length ≤ 100
  ps : ∀ x ∈ r.ps, x.Ok
def unA (s : List UInt8) : Option Rp :=
  if (0 ≤ aK s ∧ aK s ≤ 100) ∧ ((a3 s).posts (aK s).toNat).2.bad = false ∧ ((a3 s).posts (aK s).toNat).2.s = [] ∧ 0 ≤ aE s ∧ aE s ≤ 19 then some ⟨aE s, aN s, ((a3 s).posts (aK s).toNat).1⟩ else none
theorem a1_len {s : List UInt8} {n : Nat} (h : s.length ≤ n) : (a1 s).s.length ≤ n := by unfold a1; exact int_len h
theorem a2_len {s : List UInt8} {n : Nat} (h : s.length ≤ n) : (a2 s).s.length ≤ n := by unfold a2; exact int_len (a1_len h)
theorem a3_len {s : List UInt8} {n : Nat} (h : s.length ≤ n) : (a3 s).s.length ≤ n := by unfold a3; exact int_len (a2_len h)
theorem rp_out (r : Rp) (h1 : Wide64 r.er) (h2 : Wide64 r.n) (h3 : r.ps.length ≤ 1000000000000) (h4 : ∀ x ∈ r.ps, x.Ok) : aE (rpb r) = r.er ∧ aN (rpb r) = r.n ∧ aK (rpb r) = r.ps.length ∧ (∀ k, k ≤ r.ps.length → (a3 (rpb r)).posts k = (r.ps.take k, ⟨psB (r.ps.drop k), false⟩)) := by
  obtain ⟨s, hs⟩ : ∃ s, rpb r = s := ⟨_, rfl⟩
  have e0 : s = ib r.er ++ (ib r.n ++ (ib r.ps.length ++ psB r.ps)) := by rw [← hs]; unfold rpb rpH; simp
  have g1 := int_out r.er h1 (ib r.n ++ (ib r.ps.length ++ psB r.ps)) false
  rw [← e0] at g1
  have e1 : a1 s = ⟨ib r.n ++ (ib r.ps.length ++ psB r.ps), false⟩ := by unfold a1; rw [g1]
  have g2 := int_out r.n h2 (ib r.ps.length ++ psB r.ps) false
  rw [← e1] at g2
  have e2 : a2 s = ⟨ib r.ps.length ++ psB r.ps, false⟩ := by unfold a2; rw [g2]
  have g3 := int_out r.ps.length ⟨by omega, by omega⟩ (psB r.ps) false
  rw [← e2] at g3
  have e3 : a3 s = ⟨psB r.ps, false⟩ := by unfold a3; rw [g3]
  rw [hs]
  refine ⟨by unfold aE; rw [g1], by unfold aN; rw [g2], by unfold aK; rw [g3], fun k hk => ?_⟩
  rw [e3]
  have := posts_out r.ps [] false h4 k hk
  rw [List.append_nil, List.append_nil] at this
  exact this
theorem unA_iff (s : List UInt8) (hl : s.length ≤ 1000000000000) (r : Rp) : unA s = some r ↔ r.Ok ∧ rpb r = s := by
  unfold unA
  constructor
  · intro h
    split at h
    · rename_i hc
      obtain ⟨⟨h0, h1⟩, h2, h3, h4, h5⟩ := hc
      injection h with h
      subst h
      have hpl := posts_length (a3 s) (aK s).toNat
      obtain ⟨b1, e1⟩ := posts_in (a3 s) (a3_len hl) _ h2
      rw [h3, List.append_nil] at e1
      unfold a3 at b1
      obtain ⟨b2, _, e2⟩ := int_in (r := a2 s) b1
      unfold a2 at b2
      obtain ⟨b3, w3, e3⟩ := int_in (r := a1 s) b2
      unfold a1 at b3
      obtain ⟨b4, _, e4⟩ := int_in (r := ⟨s, false⟩) b3
      refine ⟨⟨⟨h4, h5⟩, ?_, by dsimp only; omega, posts_all (fun q hq => post_ok hq) (a3_len hl) _⟩, ?_⟩
      · unfold aN; exact w3
      · unfold rpb rpH
        dsimp only
        have f2 : (a2 s).s = ib (aK s) ++ (a3 s).s := by unfold aK a3; exact e2
        have f3 : (a1 s).s = ib (aN s) ++ (a2 s).s := by unfold aN a2; exact e3
        have f4 : s = ib (aE s) ++ (a1 s).s := by unfold aE a1; exact e4
        rw [hpl, show (((aK s).toNat : Nat) : Int) = aK s from by omega]
        simp only [List.append_assoc]
        rw [← e1, ← f2, ← f3, ← f4]
    · cases h
  · rintro ⟨h1, rfl⟩
    have he := h1.er
    have hn := h1.len
    obtain ⟨b1, b2, b3, b4⟩ := rp_out r ⟨by omega, by omega⟩ h1.n (by omega) h1.ps
    have e : (aK (rpb r)).toNat = r.ps.length := by rw [b3]; simp
    have := b4 r.ps.length (Nat.le_refl _)
    rw [List.take_length, List.drop_length] at this
    rw [e, this, b1, b2, b3]
    rw [if_pos ⟨⟨by omega, by omega⟩, rfl, rfl, he⟩]
theorem unA_many (s : List UInt8) (mv : Int) (mq re : Rd) (ps : List Po) (hm : (a2 s).many = (mv, mq)) (hi : mq.posts mv.toNat = (ps, re)) :
    unA s = if re.bad = false ∧ re.s = [] ∧ 0 ≤ aE s ∧ aE s ≤ 19 then some ⟨aE s, aN s, ps⟩ else none := by
  have hcm : (a2 s).int = (aK s, a3 s) := by unfold aK a3; exact (Prod.eta _).symm
  unfold Rd.many at hm
  rw [hcm] at hm
  dsimp only at hm
  split at hm
  · rename_i hbad
    simp only [Prod.mk.injEq] at hm
    obtain ⟨rfl, rfl⟩ := hm
    have hrb : re.bad = true := by
      have h1 := posts_bad (r := ⟨(a3 s).s, true⟩) rfl (0 : Int).toNat
      rw [hi] at h1
      exact h1
    rw [if_neg (by rw [hrb]; simp)]
    unfold unA
    rw [if_neg]
    rintro ⟨h0, h1, _⟩
    rcases hbad with hbad | hbad | hbad
    · have := posts_bad hbad (aK s).toNat
      rw [h1] at this
      cases this
    · omega
    · omega
  · rename_i hbad
    simp only [Prod.mk.injEq] at hm
    obtain ⟨rfl, rfl⟩ := hm
    have h0 : 0 ≤ aK s ∧ aK s ≤ 100 := by
      constructor
      · rcases Int.lt_or_le (aK s) 0 with h | h
        · exact absurd (.inr (.inl h)) hbad
        · exact h
      · rcases Int.lt_or_le 100 (aK s) with h | h
        · exact absurd (.inr (.inr h)) hbad
        · exact h
    unfold unA
    rw [hi]
    by_cases hc : re.bad = false ∧ re.s = [] ∧ 0 ≤ aE s ∧ aE s ≤ 19
    · rw [if_pos hc, if_pos ⟨h0, hc⟩]
    · rw [if_neg hc, if_neg (fun h => hc h.2)]
theorem unA_loop (s : List UInt8) (k : Nat) (hk : (k : Int) ≤ aK s ∨ k = 0) (hex : ¬ ((k : Int) < aK s ∧ k ≤ 100 ∧ ((a3 s).posts k).2.bad = false)) :
    unA s = if ((a3 s).posts k).2.bad = false ∧ 0 ≤ aE s ∧ aE s ≤ 19 ∧ 0 ≤ aK s ∧ aK s ≤ 100 ∧ ((a3 s).posts k).2.s = [] then some ⟨aE s, aN s, ((a3 s).posts k).1⟩ else none := by
  by_cases h0 : 0 ≤ aK s ∧ aK s ≤ 100
  · by_cases hkk : k = (aK s).toNat
    · rw [hkk]
      unfold unA
      by_cases hc : ((a3 s).posts (aK s).toNat).2.bad = false ∧ ((a3 s).posts (aK s).toNat).2.s = [] ∧ 0 ≤ aE s ∧ aE s ≤ 19
      · rw [if_pos ⟨h0, hc⟩, if_pos ⟨hc.1, hc.2.2.1, hc.2.2.2, h0.1, h0.2, hc.2.1⟩]
      · rw [if_neg (fun h => hc h.2), if_neg (fun h => hc ⟨h.1, h.2.2.2.2.2, h.2.1, h.2.2.1⟩)]
    · have hb : ((a3 s).posts k).2.bad = true := by
        cases hb : ((a3 s).posts k).2.bad with
        | true => rfl
        | false => exact absurd ⟨by omega, by omega, hb⟩ hex
      have hb2 := posts_mono (a3 s) k hb ((aK s).toNat - k)
      rw [show k + ((aK s).toNat - k) = (aK s).toNat from by omega] at hb2
      unfold unA
      rw [if_neg (by rw [hb2]; simp), if_neg (by rw [hb]; simp)]
  · unfold unA
    rw [if_neg (fun h => h0 h.1), if_neg (fun h => h0 ⟨h.2.2.2.1, h.2.2.2.2.1⟩)]
end Go.Proofs.Ytjfnkjpnjiobjaa
