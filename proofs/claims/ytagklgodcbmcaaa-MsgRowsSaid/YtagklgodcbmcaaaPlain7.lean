/-
  Chapter 7, plain: the bytes of right messages: how long, and none is another one's beginning.
-/
import Derived.Test.YtagklgodcbmcaaaS7b
namespace Go.Proofs.Ytagklgodcbmcaaa
open Go.RowKit
theorem msb_bound {m : Ms} (hR : m.Right) : 1 ≤ (msb m).length ∧ (msb m).length ≤ 50000000 := by
  have wen : Wide64 (m.es.length : Int) := ⟨by omega, by have := hR.ln; omega⟩
  have h7 : (isb [m.kd, m.fr, m.to, m.tm, m.ix, m.lt, m.cm]).length ≤ 70 := isb_bound _ hR.w7 7 (by simp)
  have h2 : (isb [m.b.ix, m.b.tm]).length ≤ 20 := isb_bound _ (by
    intro x hx
    simp only [List.mem_cons, List.not_mem_nil, or_false] at hx
    rcases hx with rfl | rfl <;> exact (hR.ns _ (by simp)).w) 2 (by simp)
  have hv := vtx_bound m.b.vs hR.wv (rise_len hR.vs)
  have he := esb_bound m.es hR.es 8 hR.ln
  have l3 := ib_length _ wen
  have l4 := tb_bound m.b.d 4000000 hR.bd (by omega)
  have l5 := tb_bound m.d 4000000 hR.d (by omega)
  have l6 : (bb m.ok).length ≤ 1 := by unfold bb; simp
  unfold msb msA msC
  simp only [List.length_append]
  omega
theorem isb_front {l l' : List Int} {t t' : List UInt8} (hl : l.length = l'.length) (h : ∀ x ∈ l, Wide64 x) (h' : ∀ x ∈ l', Wide64 x) (e : isb l ++ t = isb l' ++ t') : l = l' ∧ t = t' := by
  have a := (rdIs_iff l.length (isb l ++ t) l t).2 ⟨rfl, h, rfl⟩
  have b := (rdIs_iff l.length (isb l ++ t) l' t').2 ⟨hl.symm, h', e⟩
  rw [a] at b
  simp only [Option.some.injEq, Prod.mk.injEq] at b
  exact b
theorem bb_front {x x' : Bool} {t t' : List UInt8} (e : bb x ++ t = bb x' ++ t') : x = x' ∧ t = t' := by
  have a := (rdB_iff (bb x ++ t) x t).2 rfl
  have b := (rdB_iff (bb x ++ t) x' t').2 e
  rw [a] at b
  simp only [Option.some.injEq, Prod.mk.injEq] at b
  exact b
theorem ib_front {x x' : Int} {t t' : List UInt8} (h : Wide64 x) (h' : Wide64 x') (e : ib x ++ t = ib x' ++ t') : x = x' ∧ t = t' := by
  have a := (rdI_iff (ib x ++ t) x t).2 ⟨h, rfl⟩
  have b := (rdI_iff (ib x ++ t) x' t').2 ⟨h', e⟩
  rw [a] at b
  simp only [Option.some.injEq, Prod.mk.injEq] at b
  exact b
theorem vtx_front {x x' : List Int} {t t' : List UInt8} (h : x.length ≤ 9 ∧ ∀ i ∈ x, Wide64 i) (h' : x'.length ≤ 9 ∧ ∀ i ∈ x', Wide64 i) (e : vtx x ++ t = vtx x' ++ t') : x = x' ∧ t = t' := by
  have a := (rdVs_iff (vtx x ++ t) x t).2 ⟨h.1, h.2, rfl⟩
  have b := (rdVs_iff (vtx x ++ t) x' t').2 ⟨h'.1, h'.2, e⟩
  rw [a] at b
  simp only [Option.some.injEq, Prod.mk.injEq] at b
  exact b
theorem tb_front {x x' : ByteArray} {t t' : List UInt8} (h : x.size ≤ 4000000) (h' : x'.size ≤ 4000000) (e : tb (bl x) ++ t = tb (bl x') ++ t') : x = x' ∧ t = t' := by
  have a := (rdT_iff (tb (bl x) ++ t) (bl x) t (by rw [bl_size]; omega)).2 rfl
  have b := (rdT_iff (tb (bl x) ++ t) (bl x') t' (by rw [bl_size]; omega)).2 e
  rw [a] at b
  simp only [Option.some.injEq, Prod.mk.injEq] at b
  exact ⟨by rw [← bl_ba x, b.1, bl_ba], b.2⟩
theorem esb_front {x x' : List En} {t t' : List UInt8} (hl : x.length = x'.length) (h : ∀ i ∈ x, EnOk i) (h' : ∀ i ∈ x', EnOk i) (e : esb x ++ t = esb x' ++ t') : x = x' ∧ t = t' := by
  have a := ens_out' x t h
  have b := ens_out' x' t' h'
  rw [← e, ← hl, a] at b
  simp only [Prod.mk.injEq, Rs.mk.injEq, and_true] at b
  exact b
theorem msb_front {m m' : Ms} (hR : m.Right) (hR' : m'.Right) {t : List UInt8} (e : msb m ++ t = msb m') : m = m' ∧ t = [] := by
  have e : msb m ++ t = msb m' ++ [] := by rw [e, List.append_nil]
  have w2 : ∀ q : Ms, q.Right → ∀ x ∈ [q.b.ix, q.b.tm], Wide64 x := by
    intro q hq x hx
    simp only [List.mem_cons, List.not_mem_nil, or_false] at hx
    rcases hx with rfl | rfl <;> exact (hq.ns _ (by simp)).w
  have wn : ∀ q : Ms, q.Right → Wide64 (q.es.length : Int) := fun q hq => ⟨by omega, by have := hq.ln; omega⟩
  unfold msb msA msC at e
  simp only [List.append_assoc] at e
  obtain ⟨e7, e⟩ := isb_front (by simp) hR.w7 hR'.w7 e
  obtain ⟨e8, e⟩ := bb_front e
  obtain ⟨e9, e⟩ := ib_front (wn _ hR) (wn _ hR') e
  obtain ⟨e10, e⟩ := esb_front (by omega) (fun x hx => (hR.es x hx).w) (fun x hx => (hR'.es x hx).w) e
  obtain ⟨e11, e⟩ := isb_front (by simp) (w2 _ hR) (w2 _ hR') e
  obtain ⟨e12, e⟩ := vtx_front ⟨rise_len hR.vs, hR.wv⟩ ⟨rise_len hR'.vs, hR'.wv⟩ e
  obtain ⟨e13, e⟩ := tb_front hR.bd hR'.bd e
  obtain ⟨e14, e⟩ := tb_front hR.d hR'.d e
  simp only [List.cons.injEq, and_true] at e7 e11
  obtain ⟨k0, k1, k2, k3, k4, k5, k6⟩ := e7
  obtain ⟨k7, k8⟩ := e11
  refine ⟨?_, e⟩
  obtain ⟨a0, a1, a2, a3, a4, a5, a6, a7, a8, ⟨a9, a10, a11, a12⟩, a13⟩ := m
  obtain ⟨b0, b1, b2, b3, b4, b5, b6, b7, b8, ⟨b9, b10, b11, b12⟩, b13⟩ := m'
  dsimp only at *
  subst k0 k1 k2 k3 k4 k5 k6 k7 k8 e8 e10 e12 e13 e14
  rfl
/-- What lies in a text that a right message's bytes begin or end short of is no message. -/
theorem cut_none {m : Ms} (hR : m.Right) {p : Nat} (hp : p < (msb m).length) {o : Option Ms} (ho : ∀ m', o = some m' ↔ m'.Right ∧ msb m' = (msb m).take p) : o = none := by
  cases o with
  | none => rfl
  | some m' =>
    obtain ⟨h1, h2⟩ := (ho m').1 rfl
    have := (msb_front h1 hR (t := (msb m).drop p) (by rw [h2, List.take_append_drop])).2
    have h3 : ((msb m).drop p).length = 0 := by rw [this]; rfl
    rw [List.length_drop] at h3
    omega
theorem more_none {m : Ms} (hR : m.Right) {t : List UInt8} (ht : t ≠ []) {o : Option Ms} (ho : ∀ m', o = some m' ↔ m'.Right ∧ msb m' = msb m ++ t) : o = none := by
  cases o with
  | none => rfl
  | some m' =>
    obtain ⟨h1, h2⟩ := (ho m').1 rfl
    exact absurd (msb_front hR h1 h2.symm).2 ht
def Ms.turn (m : Ms) : Ms := ⟨m.kd, m.to, m.fr, m.tm, m.ix, m.lt, m.cm, !m.ok, m.es, m.b, m.d⟩
def Ms.next (m : Ms) : Ms := ⟨m.kd, m.fr, m.to, m.tm + 1, m.ix, m.lt, m.cm, m.ok, m.es, m.b, m.d⟩
theorem turn_right {m : Ms} (h : m.Right) : m.turn.Right := ⟨h.es, h.kd, h.ln, h.to, h.fr, h.vs, h.ns, h.d, h.bd⟩
theorem turn_len (m : Ms) : (msb m.turn).length = (msb m).length := by
  unfold msb msA msC Ms.turn isb
  simp only [List.length_append, List.flatMap_cons, List.flatMap_nil, List.length_nil]
  have : (bb (!m.ok)).length = (bb m.ok).length := by unfold bb; simp
  omega
theorem turn_ne {m : Ms} (h : m.Right) : msb m ≠ msb m.turn := fun e => by
  have := (msb_front h (turn_right h) (t := []) (by rw [List.append_nil]; exact e)).1
  have h2 : m.ok = !m.ok := congrArg Ms.ok this
  cases hk : m.ok <;> rw [hk] at h2 <;> cases h2
theorem next_right {m : Ms} (h : m.Right) : m.next.Right ↔ m.tm < 1099511627776 := by
  constructor
  · intro hn
    have := (hn.ns (m.tm + 1) (by simp [Ms.next])).2
    omega
  · intro hlt
    refine ⟨h.es, h.kd, h.ln, h.fr, h.to, h.vs, ?_, h.d, h.bd⟩
    intro x hx
    simp only [Ms.next, List.mem_cons, List.not_mem_nil, or_false] at hx
    have ht := h.ns m.tm (by simp)
    rcases hx with rfl | rfl | rfl | rfl | rfl | rfl
    · unfold In40 at ht ⊢; omega
    all_goals exact h.ns _ (by simp)
theorem vs_front {l : List Int} {s : List UInt8} (h : l.length ≤ 9) (hw : ∀ x ∈ l, Wide64 x) : rdVs (vtx l ++ s) = some (l, s) := (rdVs_iff _ _ _).2 ⟨h, hw, rfl⟩
end Go.Proofs.Ytagklgodcbmcaaa
