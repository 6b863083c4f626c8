/-
  Chapter 18: what is read of a command's bytes: plain.
-/
import Derived.Test.YtjfnkjpnjiobjaaC18f
import Derived.Test.YtjfnkjpnjiobjaaRd18
namespace Go.Proofs.Ytjfnkjpnjiobjaa
open Go.RowKit
def Rd.item (r : Rd) : It × Rd := (⟨r.text.1, r.text.2.text.1, r.text.2.text.2.text.1⟩, r.text.2.text.2.text.2)
def Rd.items (r : Rd) : Nat → List It × Rd
  | 0 => ([], r)
  | k + 1 => ((r.items k).1 ++ [(r.items k).2.item.1], (r.items k).2.item.2)
theorem item_in {r : Rd} (h : r.item.2.bad = false) (hl : r.s.length ≤ 1000000000000) : r.bad = false ∧ r.s = itB r.item.1 ++ r.item.2.s := by
  have l1 := text_len hl
  have l2 := text_len l1
  obtain ⟨a1, a2⟩ := text_in (r := r.text.2.text.2) h l2
  obtain ⟨b1, b2⟩ := text_in (r := r.text.2) a1 l1
  obtain ⟨c1, c2⟩ := text_in (r := r) b1 hl
  refine ⟨c1, ?_⟩
  show r.s = tb r.text.1 ++ (tb r.text.2.text.1 ++ tb r.text.2.text.2.text.1) ++ r.text.2.text.2.text.2.s
  rw [List.append_assoc, List.append_assoc, ← a2, ← b2, ← c2]
/-- An item whose texts can be written at all. -/
structure It.Ok (x : It) : Prop where
  id : x.id.length ≤ 1000000000000
  ti : x.ti.length ≤ 1000000000000
  li : x.li.length ≤ 1000000000000
theorem It.Sm.ok {x : It} (h : x.Sm) : x.Ok := by
  have := h.id; have := h.ti; have := h.li
  exact ⟨by omega, by omega, by omega⟩
theorem It.Ok.len {x : It} (h : x.Ok) : x.Len := by
  have := h.id; have := h.ti; have := h.li
  constructor <;> unfold maxLen <;> omega
theorem item_out (x : It) (hx : x.Ok) (t : List UInt8) (q : Bool) : Rd.item ⟨itB x ++ t, q⟩ = (x, ⟨t, q⟩) := by
  have h1 := text_out x.id (tb x.ti ++ (tb x.li ++ t)) hx.id q
  have h2 := text_out x.ti (tb x.li ++ t) hx.ti q
  have h3 := text_out x.li t hx.li q
  have e : itB x ++ t = tb x.id ++ (tb x.ti ++ (tb x.li ++ t)) := by unfold itB; simp
  unfold Rd.item
  rw [e, h1]
  dsimp only
  rw [h2]
  dsimp only
  rw [h3]
theorem item_len {r : Rd} {n : Nat} (h : r.s.length ≤ n) : r.item.2.s.length ≤ n := text_len (text_len (text_len h))
theorem item_ok {r : Rd} (h : r.s.length ≤ 1000000000000) : r.item.1.Ok := ⟨text_short h, text_short (text_len h), text_short (text_len (text_len h))⟩
theorem item_sm {r : Rd} (h : r.s.length ≤ 1000000) : r.item.1.Sm := ⟨text_short h, text_short (text_len h), text_short (text_len (text_len h))⟩
theorem items_len {r : Rd} {n : Nat} (h : r.s.length ≤ n) : ∀ k, (r.items k).2.s.length ≤ n
  | 0 => h
  | k + 1 => item_len (items_len h k)
theorem items_length (r : Rd) : ∀ k, (r.items k).1.length = k
  | 0 => rfl
  | k + 1 => by show ((r.items k).1 ++ [_]).length = _; rw [List.length_append, items_length r k]; rfl
theorem items_all {r : Rd} {n : Nat} {p : It → Prop} (hp : ∀ q : Rd, q.s.length ≤ n → p q.item.1) (h : r.s.length ≤ n) : ∀ k, ∀ x ∈ (r.items k).1, p x
  | 0 => fun x hx => (List.not_mem_nil hx).elim
  | k + 1 => fun x hx => by
    rcases List.mem_append.1 hx with hx | hx
    · exact items_all hp h k x hx
    · obtain rfl := List.mem_singleton.1 hx
      exact hp _ (items_len h k)
theorem itsB_end (l : List It) (x : It) : itsB (l ++ [x]) = itsB l ++ itB x := by unfold itsB; rw [List.flatMap_append]; simp
theorem items_in (r : Rd) (hl : r.s.length ≤ 1000000000000) : ∀ k : Nat, (r.items k).2.bad = false → r.bad = false ∧ r.s = itsB (r.items k).1 ++ (r.items k).2.s
  | 0, h => ⟨h, rfl⟩
  | k + 1, h => by
    obtain ⟨a1, a2⟩ := item_in (r := (r.items k).2) h (items_len hl k)
    obtain ⟨b1, b2⟩ := items_in r hl k a1
    refine ⟨b1, ?_⟩
    rw [b2, a2]
    show _ = itsB ((r.items k).1 ++ [(r.items k).2.item.1]) ++ (r.items k).2.item.2.s
    rw [itsB_end, List.append_assoc]
theorem items_out (l : List It) (t : List UInt8) (q : Bool) (hw : ∀ x ∈ l, x.Ok) : ∀ k, k ≤ l.length → Rd.items ⟨itsB l ++ t, q⟩ k = (l.take k, ⟨itsB (l.drop k) ++ t, q⟩) := by
  intro k
  induction k with
  | zero => intro _; rfl
  | succ k ih =>
    intro hk
    have a1 := ih (by omega)
    have h1 : l.drop k = l[k] :: l.drop (k + 1) := List.drop_eq_getElem_cons (by omega)
    show ((Rd.items ⟨itsB l ++ t, q⟩ k).1 ++ [(Rd.items ⟨itsB l ++ t, q⟩ k).2.item.1], (Rd.items ⟨itsB l ++ t, q⟩ k).2.item.2) = _
    rw [a1]
    dsimp only
    have h2 : itsB (l.drop k) ++ t = itB l[k] ++ (itsB (l.drop (k + 1)) ++ t) := by rw [h1, ← List.append_assoc]; rfl
    rw [h2, item_out _ (hw _ (List.getElem_mem _)), List.take_add_one, List.getElem?_eq_getElem (by omega)]
    rfl
theorem items_out' (l : List It) (t : List UInt8) (q : Bool) (hw : ∀ x ∈ l, x.Ok) : Rd.items ⟨itsB l ++ t, q⟩ l.length = (l, ⟨t, q⟩) := by
  have := items_out l t q hw l.length (Nat.le_refl _)
  simpa [itsB] using this
theorem items_bad {r : Rd} (h : r.bad = true) : ∀ k, (r.items k).2.bad = true
  | 0 => h
  | k + 1 => get_bad (get_bad (get_bad (items_bad h k)))
/-! What is read of a command's bytes, one thing after the other. -/
def c7 (s : List UInt8) : Rd := Rd.after ⟨s, false⟩ 7
def cF (s : List UInt8) : Rd := (c7 s).text.2
def cG (s : List UInt8) : Rd := (cF s).text.2
def cN (s : List UInt8) : Int := (cG s).int.1
def cM (s : List UInt8) : Rd := (cG s).int.2
def cI (s : List UInt8) (k : Nat) : List It × Rd := (cM s).items k
def cE (s : List UInt8) (k : Nat) : Rd := (cI s k).2.bool.2
def cC (s : List UInt8) (k : Nat) : Cm := ⟨Rd.nth ⟨s, false⟩ 0, Rd.nth ⟨s, false⟩ 1, Rd.nth ⟨s, false⟩ 2, Rd.nth ⟨s, false⟩ 3, Rd.nth ⟨s, false⟩ 4, Rd.nth ⟨s, false⟩ 5, Rd.nth ⟨s, false⟩ 6, (c7 s).text.1, (cF s).text.1, (cI s k).1, (cI s k).2.bool.1⟩
theorem ints7 (r : Rd) : r.ints 7 = [r.nth 0, r.nth 1, r.nth 2, r.nth 3, r.nth 4, r.nth 5, r.nth 6] := rfl
theorem cm_in {s : List UInt8} {k : Nat} (hl : s.length ≤ 1000000000000) (hk : cN s = k) (hb : (cE s k).bad = false) : s = cmdb (cC s k) ++ (cE s k).s := by
  have l7 : (c7 s).s.length ≤ 1000000000000 := by unfold c7; exact after_len (r := ⟨s, false⟩) hl 7
  have lF : (cF s).s.length ≤ 1000000000000 := by unfold cF; exact text_len l7
  have lG : (cG s).s.length ≤ 1000000000000 := by unfold cG; exact text_len lF
  have lM : (cM s).s.length ≤ 1000000000000 := by unfold cM; exact int_len lG
  unfold cE at hb
  obtain ⟨b1, e1⟩ := bool_in (r := (cI s k).2) hb
  unfold cI at b1
  obtain ⟨b2, e2⟩ := items_in (cM s) lM k b1
  unfold cM at b2
  obtain ⟨b3, _, e3⟩ := int_in (r := cG s) b2
  unfold cG at b3
  obtain ⟨b4, e4⟩ := text_in (r := cF s) b3 lF
  unfold cF at b4
  obtain ⟨b5, e5⟩ := text_in (r := c7 s) b4 l7
  unfold c7 at b5
  obtain ⟨b6, _, e6⟩ := after_in ⟨s, false⟩ 7 b5
  have hlen : ((cC s k).its.length : Int) = cN s := by
    rw [hk]
    have : (cC s k).its.length = k := items_length (cM s) k
    rw [this]
  have g1 : (cI s k).2.s = bb (cC s k).fl ++ (cE s k).s := by unfold cE cC; dsimp only; exact e1
  have g2 : (cM s).s = itsB (cC s k).its ++ (cI s k).2.s := by unfold cC; unfold cI; exact e2
  have g3 : (cG s).s = ib (cC s k).its.length ++ (cM s).s := by rw [hlen]; unfold cN cM; exact e3
  have g4 : (cF s).s = tb (cC s k).id ++ (cG s).s := by unfold cG cC; dsimp only; exact e4
  have g5 : (c7 s).s = tb (cC s k).fd ++ (cF s).s := by unfold cF cC; dsimp only; exact e5
  have hn7 : (cC s k).n7 = Rd.ints ⟨s, false⟩ 7 := by rw [ints7]; unfold cC Cm.n7; dsimp only
  have g6 : s = isb (cC s k).n7 ++ (c7 s).s := by rw [hn7]; unfold c7; dsimp only at e6; exact e6
  unfold cmdb cmH
  simp only [List.append_assoc]
  rw [← g1, ← g2, ← g3, ← g4, ← g5, ← g6]
/-- A command whose bytes can be read again. -/
structure Cm.Ok (c : Cm) : Prop where
  nums : ∀ x ∈ c.n7, Wide64 x
  fd : c.fd.length ≤ 1000000000000
  id : c.id.length ≤ 1000000000000
  n : c.its.length ≤ 1000000000000
  its : ∀ x ∈ c.its, x.Ok
theorem cm_out (c : Cm) (h : c.Ok) (t : List UInt8) : cN (cmdb c ++ t) = c.its.length ∧ (∀ k, k ≤ c.its.length → (cI (cmdb c ++ t) k).2.bad = false) ∧ cC (cmdb c ++ t) c.its.length = c ∧ cE (cmdb c ++ t) c.its.length = ⟨t, false⟩ := by
  obtain ⟨s, hs⟩ : ∃ s, cmdb c ++ t = s := ⟨_, rfl⟩
  have e0 : s = isb c.n7 ++ (tb c.fd ++ (tb c.id ++ (ib c.its.length ++ (itsB c.its ++ (bb c.fl ++ t))))) := by rw [← hs]; unfold cmdb cmH; simp
  rw [hs]
  obtain ⟨a1, a2⟩ := after_out' c.n7 (tb c.fd ++ (tb c.id ++ (ib c.its.length ++ (itsB c.its ++ (bb c.fl ++ t))))) h.nums
  rw [← e0] at a1 a2
  have n0 := nth_of (k := 7) a1 0 (by omega)
  have n1 := nth_of (k := 7) a1 1 (by omega)
  have n2 := nth_of (k := 7) a1 2 (by omega)
  have n3 := nth_of (k := 7) a1 3 (by omega)
  have n4 := nth_of (k := 7) a1 4 (by omega)
  have n5 := nth_of (k := 7) a1 5 (by omega)
  have n6 := nth_of (k := 7) a1 6 (by omega)
  simp only [Cm.n7, List.getElem?_cons_zero, List.getElem?_cons_succ, Option.some.injEq] at n0 n1 n2 n3 n4 n5 n6
  have h7 : c7 s = ⟨tb c.fd ++ (tb c.id ++ (ib c.its.length ++ (itsB c.its ++ (bb c.fl ++ t)))), false⟩ := a2
  have hF := text_out c.fd (tb c.id ++ (ib c.its.length ++ (itsB c.its ++ (bb c.fl ++ t)))) h.fd false
  rw [← h7] at hF
  have hF2 : cF s = ⟨tb c.id ++ (ib c.its.length ++ (itsB c.its ++ (bb c.fl ++ t))), false⟩ := congrArg Prod.snd hF
  have hG := text_out c.id (ib c.its.length ++ (itsB c.its ++ (bb c.fl ++ t))) h.id false
  rw [← hF2] at hG
  have hG2 : cG s = ⟨ib c.its.length ++ (itsB c.its ++ (bb c.fl ++ t)), false⟩ := congrArg Prod.snd hG
  have hN := int_out c.its.length ⟨by omega, by have := h.n; omega⟩ (itsB c.its ++ (bb c.fl ++ t)) false
  rw [← hG2] at hN
  have hM2 : cM s = ⟨itsB c.its ++ (bb c.fl ++ t), false⟩ := congrArg Prod.snd hN
  have hI : ∀ k, k ≤ c.its.length → cI s k = (c.its.take k, ⟨itsB (c.its.drop k) ++ (bb c.fl ++ t), false⟩) := fun k hk => by
    unfold cI
    rw [hM2]
    exact items_out c.its _ false h.its k hk
  have hI2 : cI s c.its.length = (c.its, ⟨bb c.fl ++ t, false⟩) := by
    rw [hI _ (Nat.le_refl _)]
    simp [itsB]
  have hE := bool_out c.fl t false
  refine ⟨congrArg Prod.fst hN, fun k hk => by rw [hI k hk], ?_, ?_⟩
  · unfold cC
    rw [n0, n1, n2, n3, n4, n5, n6, hF, hG, hI2]
    dsimp only
    rw [hE]
  · unfold cE
    rw [hI2]
    dsimp only
    rw [hE]
theorem cmdb_inj {c d : Cm} (hc : c.Ok) (hd : d.Ok) (h : cmdb c = cmdb d) : c = d := by
  obtain ⟨a1, _, a2, _⟩ := cm_out c hc []
  obtain ⟨b1, _, b2, _⟩ := cm_out d hd []
  rw [h] at a1 a2
  have e : c.its.length = d.its.length := by omega
  rw [← a2, e, b2]
theorem inB_wide {n t : Int} (ht : t ≤ 1099511627776) (h : inB n t = true) : Wide64 n := by
  have := inB_iff.1 h
  exact ⟨by omega, by omega⟩
theorem itR_len {x : It} (h : itR x = true) : x.id.length ≤ 200 ∧ x.ti.length ≤ 200 ∧ x.li.length ≤ 200 := by
  unfold itR bad1 at h
  simp only [List.any_cons, List.any_nil, Bool.or_false, Bool.and_eq_true, Bool.not_eq_true', Bool.or_eq_false_iff, decide_eq_false_iff_not] at h
  obtain ⟨_, h1, h2, h3⟩ := h
  exact ⟨by omega, by omega, by omega⟩
theorem numB_iff {c : Cm} : numB c = true ↔ (1 ≤ c.kd ∧ c.kd ≤ 9) ∧ inB c.ss 1099511627776 = true ∧ inB c.sq 1099511627776 = true ∧ inB c.ep 1099511627776 = true ∧ inB c.n 1099511627776 = true ∧ inB c.sh 7 = true ∧ inB c.nd 9 = true := by
  unfold numB
  simp only [Bool.and_eq_true, decide_eq_true_eq, and_assoc]
theorem lenB_iff {c : Cm} : lenB c = true ↔ c.fd.length ≤ 200 ∧ c.id.length ≤ 200 ∧ c.its.length ≤ 100 := by
  unfold lenB
  simp only [Bool.and_eq_true, decide_eq_true_eq, and_assoc]
theorem numB_wide {c : Cm} (h : numB c = true) : ∀ x ∈ c.n7, Wide64 x := by
  obtain ⟨h0, h1, h2, h3, h4, h5, h6⟩ := numB_iff.1 h
  intro x hx
  simp only [Cm.n7, List.mem_cons, List.not_mem_nil, or_false] at hx
  rcases hx with rfl | rfl | rfl | rfl | rfl | rfl | rfl
  · exact ⟨by omega, by omega⟩
  · exact inB_wide (by omega) h1
  · exact inB_wide (by omega) h2
  · exact inB_wide (by omega) h5
  · exact inB_wide (by omega) h6
  · exact inB_wide (by omega) h3
  · exact inB_wide (by omega) h4
theorem rightB_iff {c : Cm} : rightB c = true ↔ numB c = true ∧ lenB c = true ∧ bareB c = true ∧ ∀ x ∈ c.its, itR x = true := by
  unfold rightB
  simp only [Bool.and_eq_true, List.all_eq_true, and_assoc]
theorem right_ok {c : Cm} (h : rightB c = true) : c.Ok := by
  obtain ⟨h1, h2, _, h4⟩ := rightB_iff.1 h
  obtain ⟨a1, a2, a3⟩ := lenB_iff.1 h2
  refine ⟨numB_wide h1, by omega, by omega, by omega, fun x hx => ?_⟩
  have := itR_len (h4 x hx)
  exact ⟨by omega, by omega, by omega⟩
theorem right_sm {c : Cm} (h : rightB c = true) : c.Sm := by
  obtain ⟨h1, h2, _, h4⟩ := rightB_iff.1 h
  obtain ⟨a1, a2, a3⟩ := lenB_iff.1 h2
  refine ⟨by omega, by omega, by omega, fun x hx => ?_⟩
  have := itR_len (h4 x hx)
  exact ⟨by omega, by omega, by omega⟩
/-- What bytes are unpacked as. -/
def unC (s : List UInt8) : Option Cm := if 0 ≤ cN s ∧ rightB (cC s (cN s).toNat) = true ∧ (cE s (cN s).toNat).bad = false ∧ (cE s (cN s).toNat).s = [] then some (cC s (cN s).toNat) else none
theorem unC_iff (s : List UInt8) (hl : s.length ≤ 1000000000000) (c : Cm) : unC s = some c ↔ rightB c = true ∧ cmdb c = s := by
  unfold unC
  constructor
  · intro h
    split at h
    · rename_i hc
      obtain ⟨h0, h1, h2, h3⟩ := hc
      injection h with h
      subst h
      refine ⟨h1, ?_⟩
      have := cm_in (k := (cN s).toNat) hl (by omega) h2
      rw [h3, List.append_nil] at this
      exact this.symm
    · cases h
  · rintro ⟨h1, rfl⟩
    obtain ⟨a1, _, a2, a3⟩ := cm_out c (right_ok h1) []
    rw [List.append_nil] at a1 a2 a3
    have e : (cN (cmdb c)).toNat = c.its.length := by rw [a1]; simp
    rw [e, a2, a3, if_pos ⟨by omega, h1, rfl, rfl⟩]
end Go.Proofs.Ytjfnkjpnjiobjaa
