/-
  What StoreReads leans on, part 2: contracts of the functions that it reaches, and plain facts; each theorem bears its own conditions.
-/
import Derived.Barred
import Derived.Maps.AppendAt
import Derived.Test.YtjfnkjpnjiobjaaGreatRows
import Derived.Deep.AppendLies
import Derived.Deep.RegionHeld3
import Derived.Deep.RegionLaw
import Derived.ArgAppend
import Derived.Lib.JoinLaws
import Derived.StillTailTactics
import Derived.Shelf.Strings.Builder1
import Derived.Shelf.Strings.OnBuilder
import Derived.Shelf.Small.Strs
import Derived.Shelf.Strings.Search1
import Derived.Shelf.Strings.FieldsFuncAny
import Derived.Shelf.SlIter.Nil
import Derived.Shelf.SortM.Plain
import Derived.Shelf.SortM.SortNone
import Derived.Ground.GgzProg
import Derived.Ground.SlgmProg
import Derived.Test.YtjfnkjpnjiobjaaGreatProg
import Derived.Lib.FieldsP
import Derived.Lib.MapLaws
import Derived.Lib.Join
import Derived.Laws.IdiomStrings
import Derived.Test.YtjfnkjpnjiobjaaGreatStoreReadsA
namespace Go.Proofs.YtjfnkjpnjiobjaaGreat
open Go.RowKit

/-- A call's outcome is one. -/
theorem calls_same {P : Program} {f : FuncId} {args : Array Value} {w : World} {R R' : Value → World → Prop} (hf : P.inits.idxOf? f = none)
    (h : Calls P f args w fun e w' => ∃ u, e = .returned u ∧ R u w') (h' : Calls P f args w fun e w' => ∃ u, e = .returned u ∧ R' u w') : ∃ u w1 w2, R u w1 ∧ R' u w2 := by
  obtain ⟨e, w1, fr, ⟨u, rfl, hr⟩, ⟨n, hn⟩, hfn, hl⟩ := h []
  obtain ⟨e', w2, fr2, ⟨u', rfl, hr'⟩, ⟨n2, hn2⟩, hfn2, hl2⟩ := h' []
  have h1 := step_leave_done hl (by rw [hfn]; exact hf)
  have h2 := step_leave_done hl2 (by rw [hfn2]; exact hf)
  have e1 : runN P (n + 1) (lone (Frame.enter P f args .normal) [] w) = .ended (.done u) w1 := by rw [runN_add, hn]; simp [runN, h1]
  have e2 : runN P (n2 + 1) (lone (Frame.enter P f args .normal) [] w) = .ended (.done u') w2 := by rw [runN_add, hn2]; simp [runN, h2]
  have := runN_same_end e1 e2
  injection this with this
  subst this
  exact ⟨u, w1, w2, hr, hr'⟩

/-- What lasts, while its block is let alone. -/
structure Lasts (V : Value → World → Prop) : Prop where
  keep : ∀ u w w' (S : List Nat), V u w → Only S w w' → (∀ b, b ∈ S → u.ownBlock ≠ some b) → V u w'
  lies : ∀ u w b, V u w → u.ownBlock = some b → b < w.heap.size
abbrev Words := List (Tmp × (Value → World → Prop))
/-- Which words an operation uses up, by the temporary that it fills. -/
abbrev Eats := List (Tmp × Tmp)
def eats (E : Eats) (o : Oper) : List Tmp := (E.filter fun x => o.dst == some x.1).map (·.2)
/-- The blocks of what it uses up. -/
def eaten (E : Eats) (val : Tmp → Value) (o : Oper) : List Nat := (eats E o).flatMap fun d => (val d).ownBlock.toList
/-- Which old blocks an operation (by its number) alone may touch, and what is true of them behind it, of the values of temporaries that it looks at. -/
structure Own where
  i : Nat
  bs : List Nat
  row : Bool
  ds : List Tmp
  F : List Value → World → Prop
abbrev Mine := List Own
def mine (M : Mine) (i : Nat) : List Nat := (M.filter fun x => x.i == i).flatMap (·.bs)
/-- What an operation waits for, through others: marks, from number t down. -/
def markEdge (m : Array Bool) (e : Edge) : Array Bool := if Region.binds .any e then m.setIfInBounds e.on true else m
def markStep (ops : Array Oper) (m : Array Bool) (k : Nat) : Array Bool :=
  if m.getD k false then (match ops[k]? with
    | some o => o.after.toList.foldl markEdge m
    | none => m) else m
def marks (ops : Array Oper) (t : Nat) : Array Bool := (List.range (t + 1)).reverse.foldl (markStep ops) ((Array.replicate ops.size false).setIfInBounds t true)
/-- Those of other operations that do not wait for this one. -/
def others (ops : Array Oper) (M : Mine) (i : Nat) : List Nat := (M.filter fun x => x.i != i && !(marks ops x.i).getD i false).flatMap (·.bs)
/-- Those in which a word's value may lie. -/
def rows (M : Mine) (i : Nat) : List Nat := (M.filter fun x => x.i == i && x.row).flatMap (·.bs)
def allM (M : Mine) : List Nat := M.flatMap (·.bs)
/-- What an operation comes to, in w. -/
def outs (P : Program) (w : World) (R : Value → World → Prop) : Result Next → Prop
  | .ok (.value u) w' => R u w'
  | .ok .skip w' => R undef w'
  | .ok (.enter f args) w' => w' = w ∧ P.inits.idxOf? f = none ∧ Calls P f args w fun e w'' => ∃ u, e = .returned u ∧ R u w''
  | _ => False
section
variable {P : Program} {ops : Array Oper} {W : World} {Vs : Words} {E : Eats} {M : Mine}
/-- The words that an operation may lean on. -/
def leans (ops : Array Oper) (W : World) (Vs : Words) (M : Mine) (i : Nat) (val : Tmp → Value) (o : Oper) (w : World) : Prop := Only (others ops M i) W w ∧ ∀ p, p ∈ Vs → p.1 ∈ o.looksAt ops → p.2 (val p.1) w
/-- A word's value lies in a new block, or in one that was used up. -/
def fresh (E : Eats) (M : Mine) (i : Nat) (val : Tmp → Value) (o : Oper) (w : World) (u : Value) : Prop := ∀ b, u.ownBlock = some b → w.heap.size ≤ b ∨ b ∈ rows M i ++ eaten E val o
def fitsV (P : Program) (ops : Array Oper) (W : World) (Vs : Words) (E : Eats) (M : Mine) (i : Nat) (val : Tmp → Value) (o : Oper) (v : Value) (a : Act) : Prop :=
  (Region.wanted o (yielded ops a.tmps) = true ∧ (∀ p, p ∈ Vs → o.dst = some p.1 → v = val p.1) ∧
    ∀ w, leans ops W Vs M i val o w → outs P w (fun u w' => Only (mine M i ++ eaten E val o) w w' ∧ (∀ p, p ∈ Vs → o.dst = some p.1 → p.2 u w' ∧ fresh E M i val o w u) ∧ (∀ x, x ∈ M → x.i = i → x.row = false → x.F (x.ds.map val) w') ∧ ((∀ p, p ∈ Vs → o.dst ≠ some p.1) → u = v)) ((execOp a.eval o).run P w)) ∨
  (Region.wanted o (yielded ops a.tmps) = false ∧ v = undef ∧ (∀ p, p ∈ Vs → o.dst ≠ some p.1) ∧ ∀ x, x ∈ M → x.i ≠ i)
/-- The walk, in the order of a list. -/
def wpFit (P : Program) (ops : Array Oper) (W : World) (Vs : Words) (E : Eats) (M : Mine) (val : Tmp → Value) (Q : Act → Prop) : Nat → List Oper → Act → Prop
  | _, [], a => Q a
  | i, o :: rest, a => ∃ v, fitsV P ops W Vs E M i val o v a ∧ wpFit P ops W Vs E M val Q (i + 1) rest (a.put o.dst v)
def fitOp (P : Program) (ops : Array Oper) (W : World) (Vs : Words) (E : Eats) (M : Mine) (val : Tmp → Value) (i : Nat) (K : Act → Prop) (a : Act) : Prop :=
  match ops[i]? with
  | none => K a
  | some o => ∃ v, fitsV P ops W Vs E M i val o v a ∧ K (a.put o.dst v)
theorem fitOp_mono {val : Tmp → Value} {i : Nat} {a : Act} {K K' : Act → Prop} (h : ∀ a, K a → K' a) (hh : fitOp P ops W Vs E M val i K a) : fitOp P ops W Vs E M val i K' a := by
  unfold fitOp at *
  split
  · rename_i ho; simp only [ho] at hh; exact h _ hh
  · rename_i o ho
    simp only [ho] at hh
    obtain ⟨v, h1, h2⟩ := hh
    exact ⟨v, h1, h _ h2⟩
theorem fitsV.put {i : Nat} {val : Tmp → Value} {o : Oper} {v : Value} {a : Act} (hs : ∀ cs b, o.op ≠ .select cs b) {dst : Option Tmp} {u : Value} (h : ∀ d, dst = some d → d ∉ o.looksAt ops) : fitsV P ops W Vs E M i val o v (a.put dst u) ↔ fitsV P ops W Vs E M i val o v a := by
  unfold fitsV
  rw [wanted_put o a dst u h, execOp_put o hs a dst u h]
theorem fitOp_put {val : Tmp → Value} {i j : Nat} {oi oj : Oper} {v : Value} (hj : ops[j]? = some oj) (hap : oi.apart ops oj = true) (hsi : ∀ cs b, oi.op ≠ .select cs b) (hsj : ∀ cs b, oj.op ≠ .select cs b) {K : Act → Prop} {a : Act}
    (hy : fitsV P ops W Vs E M i val oi v a) (h : fitOp P ops W Vs E M val j K (a.put oi.dst v)) : fitOp P ops W Vs E M val j (fun a' => fitsV P ops W Vs E M i val oi v a' ∧ K (a'.put oi.dst v)) a := by
  obtain ⟨h1, h2, h3⟩ := Oper.apart_spec hap
  unfold fitOp at *
  simp only [hj] at *
  obtain ⟨u, hu, hk⟩ := h
  exact ⟨u, (fitsV.put hsj h1).1 hu, (fitsV.put hsi h3).2 hy, by rw [← Act.put_comm a v u h2]; exact hk⟩

/-! The orders. -/
/-- All that number t waits for is listed, if t may come up. -/
theorem marks_listed' {ls : Array Bool} (hcl : ∀ j oj, ops[j]? = some oj → ls.getD j false = true → ∀ e ∈ oj.after, Region.binds .any e = true → ls.getD e.on false = true) {t : Nat} (hall : ∀ ot, ops[t]? = some ot → ∀ e ∈ ot.after, Region.binds .any e = true → ls.getD e.on false = true) (p : Nat) (hp : (marks ops t).getD p false = true) :
    p = t ∨ ls.getD p false = true := by
  have inner : ∀ (es : List Edge) (m : Array Bool), (∀ e ∈ es, Region.binds .any e = true → ls.getD e.on false = true) → (∀ p, m.getD p false = true → p = t ∨ ls.getD p false = true) →
      ∀ p, (es.foldl markEdge m).getD p false = true → p = t ∨ ls.getD p false = true := by
    intro es
    induction es with
    | nil => intro m _ h; exact h
    | cons e es ih2 =>
      intro m hes hm
      refine ih2 _ (fun x hx => hes x (List.mem_cons_of_mem _ hx)) ?_
      intro p hp
      unfold markEdge at hp
      split at hp
      · rename_i hb
        by_cases hpe : e.on = p
        · subst hpe
          exact .inr (hes e List.mem_cons_self hb)
        · rw [getD_set_ne false hpe] at hp
          exact hm p hp
      · exact hm p hp
  have key : ∀ (l : List Nat) (m : Array Bool), (∀ p, m.getD p false = true → p = t ∨ ls.getD p false = true) → ∀ p, (l.foldl (markStep ops) m).getD p false = true → p = t ∨ ls.getD p false = true := by
    intro l
    induction l with
    | nil => intro m h; exact h
    | cons k l ih =>
      intro m h
      refine ih _ ?_
      intro p hp
      unfold markStep at hp
      split at hp
      · rename_i hk
        cases ho : ops[k]? with
        | none => rw [ho] at hp; exact h p hp
        | some o =>
          rw [ho] at hp
          refine inner o.after.toList m (fun e he => ?_) h p hp
          have he' : e ∈ o.after := by simpa using he
          rcases h k hk with rfl | hk'
          · exact hall o ho e he'
          · exact hcl k o ho hk' e he'
      · exact h p hp
  refine key _ _ (fun p hp => ?_) p hp
  by_cases hpt : t = p
  · exact .inl hpt.symm
  · rw [getD_set_ne false hpt] at hp
    rw [getD_replicate_false] at hp
    cases hp
theorem marks_listed {ls : Array Bool} (hcl : ∀ j oj, ops[j]? = some oj → ls.getD j false = true → ∀ e ∈ oj.after, Region.binds .any e = true → ls.getD e.on false = true) {t : Nat} (ht : t ∈ Region.ready .any ops ls) (p : Nat) (hp : (marks ops t).getD p false = true) :
    p = t ∨ ls.getD p false = true := by
  obtain ⟨_, ot, hot, hall⟩ := mem_ready.1 ht
  exact marks_listed' hcl (fun o ho => by obtain rfl : ot = o := Option.some.inj (hot.symm.trans ho); exact hall) p hp
def headB (ops : Array Oper) (tail : Array Bool → Bool) : List Nat → Array Bool → Bool
  | [], ls => tail ls
  | i :: is, ls => (Region.ready .any ops ls).contains i && Region.free .any ops ls i && headB ops tail is (ls.setIfInBounds i true)
def tailB (ops : Array Oper) : List Nat → Array Bool → Bool
  | [], ls => (Region.ready .any ops ls).isEmpty
  | j :: js, ls => decide (Region.ready .any ops ls = [j]) && tailB ops js (ls.setIfInBounds j true)
/-- Whatever looks at a word's temporary waits for the operation that fills it; one operation fills it, and it has no guard. -/
def wordsB (ops : Array Oper) (ds : List Tmp) : Bool :=
  (List.range ops.size).all fun j => match ops[j]? with
    | none => true
    | some oj => (ds.all fun d => !(oj.looksAt ops).contains d || oj.after.toList.any fun e => Region.binds .any e && match ops[e.on]? with
        | some oi => oi.dst == some d
        | none => false) && (ds.all fun d => oj.dst != some d || (List.range ops.size).all fun i => i == j || match ops[i]? with
        | some oi => oi.dst != some d
        | none => true)
/-- What is used up is a word that the operation looks at, and no other one. -/
def eatsB (ops : Array Oper) (E : Eats) (ds : List Tmp) : Bool :=
  (List.range ops.size).all fun j => match ops[j]? with
    | none => true
    | some oj => (eats E oj).all fun d => (oj.looksAt ops).contains d && ds.contains d && (List.range ops.size).all fun i => i == j || match ops[i]? with
      | some oi => !(oi.looksAt ops).contains d
      | none => true
def pendB (ops : Array Oper) (is js : List Nat) (ds : List Tmp) (E : Eats) : Bool :=
  Region.noSelect ops && eatsB ops E ds && (ds.all fun d => is.any fun i => match ops[i]? with
    | some o => o.dst == some d
    | none => false) && wordsB ops ds && (js.all fun t => is.all fun i => (marks ops t).getD i false && i != t) && decide (is.length + js.length = ops.size) && headB ops (tailB ops js) is (Array.replicate ops.size false)

/-- What is listed is closed. -/
structure Closed (ops : Array Oper) (ls : Array Bool) : Prop where
  size : ls.size = ops.size
  closed : ∀ j oj, ops[j]? = some oj → ls.getD j false = true → ∀ e ∈ oj.after, Region.binds .any e = true → ls.getD e.on false = true
theorem Closed.set {ls : Array Bool} (h : Closed ops ls) {i : Nat} (hi : i ∈ Region.ready .any ops ls) : Closed ops (ls.setIfInBounds i true) := by
  obtain ⟨_, oi, hoi, hall⟩ := mem_ready.1 hi
  refine ⟨by simp [h.size], fun j oj hj hl e he hb => ?_⟩
  by_cases hij : i = j
  · subst hij
    obtain rfl : oj = oi := Option.some.inj (hj.symm.trans hoi)
    exact getD_set_true (hall e he hb)
  · rw [getD_set_ne false hij] at hl
    exact getD_set_true (h.closed j oj hj hl e he hb)

/-- The head's operations in whatever order; then L. -/
def headV (P : Program) (ops : Array Oper) (W : World) (Vs : Words) (E : Eats) (M : Mine) (val : Tmp → Value) (js : List Nat) (L : Array Bool → Act → Prop) : Nat → Array Bool → Act → Prop
  | 0, ls, a => L ls a
  | k + 1, ls, a => Region.ready .any ops ls ≠ [] ∧ ∀ i, i ∈ Region.ready .any ops ls → i ∉ js ∧ fitOp P ops W Vs E M val i (headV P ops W Vs E M val js L k (ls.setIfInBounds i true)) a
theorem headV_take {val : Tmp → Value} {js : List Nat} {i : Nat} {oi : Oper} {v : Value} {L : Array Bool → Act → Prop} (hi : ops[i]? = some oi) (hsel : ∀ (j : Nat) (o : Oper) cs b, ops[j]? = some o → o.op ≠ .select cs b)
    (hs : ∀ t, t ∈ js → (marks ops t).getD i false = true ∧ i ≠ t) (hdone : ∀ ls a, L ls a → ∀ j, j ∈ Region.ready .any ops ls → j ∈ js) (k : Nat) :
    ∀ (ls : Array Bool) (a : Act), Closed ops ls →
      (∀ j oj, ops[j]? = some oj → j ≠ i → ls.getD j true = false → (∀ e ∈ oj.after, Region.binds .any e = true → e.on ≠ i) → oi.apart ops oj = true) →
      i ∈ Region.ready .any ops ls → fitsV P ops W Vs E M i val oi v a → headV P ops W Vs E M val js L k (ls.setIfInBounds i true) (a.put oi.dst v) → headV P ops W Vs E M val js L (k + 1) ls a := by
  have waits : ∀ ls, Closed ops ls → ls.getD i true = false → ∀ j, j ∈ js → j ∉ Region.ready .any ops ls := by
    intro ls inv hun j hj hr
    obtain ⟨h1, h2⟩ := hs j hj
    rcases marks_listed inv.closed hr i h1 with h | h
    · exact h2 h
    · rw [getD_both hun] at h; cases h
  have own : ∀ (K : Act → Prop) a, fitsV P ops W Vs E M i val oi v a → K (a.put oi.dst v) → fitOp P ops W Vs E M val i K a := fun K a hy h => by
    unfold fitOp; simp only [hi]; exact ⟨v, hy, h⟩
  induction k with
  | zero =>
    intro ls a inv _ hr hy H
    have hun := (mem_ready.1 hr).1
    refine ⟨fun h => by rw [h] at hr; (cases hr), fun j hj => ?_⟩
    by_cases hji : j = i
    · subst hji; exact ⟨fun hm => waits ls inv hun j hm hj, own _ _ hy H⟩
    · exact absurd hj (waits ls inv hun j (hdone _ _ H j (ready_mono hj hji)))
  | succ k ih =>
    intro ls a inv hfree hr hy H
    have hun := (mem_ready.1 hr).1
    refine ⟨fun h => by rw [h] at hr; (cases hr), fun j hj => ⟨fun hm => waits ls inv hun j hm hj, ?_⟩⟩
    by_cases hji : j = i
    · subst hji; exact own _ _ hy H
    obtain ⟨hju, oj, hoj, hall⟩ := mem_ready.1 hj
    have hnot : ∀ e ∈ oj.after, Region.binds .any e = true → e.on ≠ i := fun e he hb heq => by
      have h1 := hall e he hb
      rw [heq, getD_both hun] at h1
      cases h1
    have h2 := fitOp_put hoj (hfree j oj hoj hji hju hnot) (fun cs b => hsel i oi cs b hi) (fun cs b => hsel j oj cs b hoj) hy ((H.2 j (ready_mono hj hji)).2)
    refine fitOp_mono (fun a' h3 => ih (ls.setIfInBounds j true) a' (inv.set hj) (fun m om hm hmi hmu hno => hfree m om hm hmi ?_ hno) (ready_mono hr (Ne.symm hji)) h3.1 ?_) h2
    · by_cases hjm : j = m
      · subst hjm; exact hju
      · rw [getD_set_ne true hjm] at hmu; exact hmu
    · rw [Array.setIfInBounds_comm _ _ hji]
      exact h3.2
theorem tailB_ready {js : List Nat} {ls : Array Bool} (h : tailB ops js ls = true) : ∀ j, j ∈ Region.ready .any ops ls → j ∈ js := by
  cases js with
  | nil => intro j hj; simp only [tailB, List.isEmpty_iff] at h; rw [h] at hj; cases hj
  | cons i js =>
    intro j hj
    simp only [tailB, Bool.and_eq_true, decide_eq_true_eq] at h
    rw [h.1] at hj
    simp at hj
    simp [hj]
theorem headV_list {val : Tmp → Value} {js : List Nat} {Lq : Act → Prop} (hsel : ∀ (j : Nat) (o : Oper) cs b, ops[j]? = some o → o.op ≠ .select cs b) (l : List Oper) :
    ∀ (k : Nat) (ls : Array Bool) (a : Act), (∀ i, i ∈ List.range' k l.length → ∀ t, t ∈ js → (marks ops t).getD i false = true ∧ i ≠ t) → (∀ j, j < l.length → ops[k + j]? = l[j]?) → Closed ops ls → headB ops (tailB ops js) (List.range' k l.length) ls = true → wpFit P ops W Vs E M val Lq k l a →
    headV P ops W Vs E M val js (fun ls' a' => tailB ops js ls' = true ∧ Lq a') l.length ls a := by
  induction l with
  | nil =>
    intro k ls a _ _ _ hB h
    exact ⟨by simpa [headB] using hB, h⟩
  | cons o l ih =>
    intro k ls a hs hl inv hB h
    have h0 : ops[k]? = some o := by simpa using hl 0 (by simp)
    rw [List.length_cons, List.range'_succ] at hB
    simp only [headB, Bool.and_eq_true] at hB
    obtain ⟨⟨hr, hf⟩, hB'⟩ := hB
    have hr' : k ∈ Region.ready .any ops ls := by simpa using hr
    obtain ⟨v, hy, hk⟩ := h
    exact headV_take h0 hsel (hs k (by rw [List.length_cons, List.range'_succ]; simp)) (fun ls' a' hL => tailB_ready hL.1) l.length ls a inv (Region.free_spec h0 hf) hr' hy
      (ih (k + 1) _ _ (fun i' h' => hs i' (by rw [List.length_cons, List.range'_succ]; simp [h'])) (fun j hj => by have := hl (j + 1) (by simpa using hj); simpa [Nat.add_assoc, Nat.add_comm 1 j] using this) (inv.set hr') hB' hk)
/-- Some listed operation fills this temporary. -/
def Filled (ops : Array Oper) (ls : Array Bool) (d : Tmp) : Prop := ∃ i o, ops[i]? = some o ∧ ls.getD i false = true ∧ o.dst = some d
theorem Filled.set {ls : Array Bool} {d : Tmp} (h : Filled ops ls d) (i : Nat) : Filled ops (ls.setIfInBounds i true) d := by
  obtain ⟨j, o, h1, h2, h3⟩ := h
  exact ⟨j, o, h1, getD_set_true h2, h3⟩
theorem Filled.back {ls : Array Bool} {d : Tmp} {i : Nat} {o : Oper} (hi : ops[i]? = some o) (h : Filled ops (ls.setIfInBounds i true) d) : o.dst = some d ∨ Filled ops ls d := by
  obtain ⟨j, o', h1, h2, h3⟩ := h
  by_cases hij : i = j
  · subst hij
    obtain rfl : o = o' := Option.some.inj (hi.symm.trans h1)
    exact .inl h3
  · rw [getD_set_ne false hij] at h2
    exact .inr ⟨j, o', h1, h2, h3⟩
theorem words_look {ds : List Tmp} (h : wordsB ops ds = true) {j : Nat} {oj : Oper} (hj : ops[j]? = some oj) {d : Tmp} (hd : d ∈ ds) (hl : d ∈ oj.looksAt ops) : ∃ e, e ∈ oj.after ∧ Region.binds .any e = true ∧ ∃ oi, ops[e.on]? = some oi ∧ oi.dst = some d := by
  have h1 := List.all_eq_true.1 h j (List.mem_range.2 (Array.getElem?_eq_some_iff.1 hj).1)
  simp only [hj, Bool.and_eq_true] at h1
  have h2 := List.all_eq_true.1 h1.1 d hd
  have hc : (oj.looksAt ops).contains d = true := by simpa using hl
  rw [hc] at h2
  simp only [Bool.not_true, Bool.false_or] at h2
  obtain ⟨e, he, hb⟩ := List.any_eq_true.1 h2
  simp only [Bool.and_eq_true] at hb
  refine ⟨e, by simpa using he, hb.1, ?_⟩
  cases ho : ops[e.on]? with
  | none => rw [ho] at hb; simp at hb
  | some oi =>
    have hb2 := hb.2
    rw [ho] at hb2
    exact ⟨oi, rfl, by simpa using hb2⟩
theorem words_one {ds : List Tmp} (h : wordsB ops ds = true) {i j : Nat} {oi oj : Oper} (hi : ops[i]? = some oi) (hj : ops[j]? = some oj) {d : Tmp} (hd : d ∈ ds) (h1 : oi.dst = some d) (h2 : oj.dst = some d) : i = j := by
  have h3 := List.all_eq_true.1 h j (List.mem_range.2 (Array.getElem?_eq_some_iff.1 hj).1)
  simp only [hj, Bool.and_eq_true] at h3
  have h4 := List.all_eq_true.1 h3.2 d hd
  rw [h2] at h4
  simp only [bne_self_eq_false, Bool.false_or] at h4
  have h5 := List.all_eq_true.1 h4 i (List.mem_range.2 (Array.getElem?_eq_some_iff.1 hi).1)
  simp only [hi, h1, bne_self_eq_false, Bool.or_false, beq_iff_eq] at h5
  exact h5

/-- Filled, and not used up. -/
def Live (ops : Array Oper) (E : Eats) (ls : Array Bool) (d : Tmp) : Prop := Filled ops ls d ∧ ∀ j o, ops[j]? = some o → ls.getD j false = true → d ∉ eats E o
theorem eats_look {ds : List Tmp} (h : eatsB ops E ds = true) {j : Nat} {oj : Oper} (hj : ops[j]? = some oj) {d : Tmp} (hd : d ∈ eats E oj) : d ∈ oj.looksAt ops ∧ d ∈ ds ∧ ∀ i oi, ops[i]? = some oi → i ≠ j → d ∉ oi.looksAt ops := by
  have h1 := List.all_eq_true.1 h j (List.mem_range.2 (Array.getElem?_eq_some_iff.1 hj).1)
  simp only [hj] at h1
  have h2 := List.all_eq_true.1 h1 d hd
  simp only [Bool.and_eq_true] at h2
  refine ⟨by simpa using h2.1.1, by simpa using h2.1.2, fun i oi hi hne => ?_⟩
  have h3 := List.all_eq_true.1 h2.2 i (List.mem_range.2 (Array.getElem?_eq_some_iff.1 hi).1)
  simp only [hi, Bool.or_eq_true, beq_iff_eq, hne, false_or] at h3
  simpa using h3
theorem eaten_of {val : Tmp → Value} {o : Oper} {b : Nat} (h : b ∈ eaten E val o) : ∃ d, d ∈ eats E o ∧ (val d).ownBlock = some b := by
  obtain ⟨d, hd, hb⟩ := List.mem_flatMap.1 h
  exact ⟨d, hd, by simpa using hb⟩
/-- The old blocks that have been touched. -/
def touched (M : Mine) (ls : Array Bool) (b : Nat) : Prop := ∃ x, x ∈ M ∧ ls.getD x.i false = true ∧ b ∈ x.bs
/-- Those of them in which a word may lie. -/
def touchedR (M : Mine) (ls : Array Bool) (b : Nat) : Prop := ∃ x, x ∈ M ∧ x.row = true ∧ ls.getD x.i false = true ∧ b ∈ x.bs
theorem touchedR.t {ls : Array Bool} {b : Nat} (h : touchedR M ls b) : touched M ls b := by
  obtain ⟨x, h1, _, h3, h4⟩ := h
  exact ⟨x, h1, h3, h4⟩
theorem rows_of {i b : Nat} (h : b ∈ rows M i) : ∃ x, x ∈ M ∧ x.i = i ∧ x.row = true ∧ b ∈ x.bs := by
  obtain ⟨x, hx, hb⟩ := List.mem_flatMap.1 h
  obtain ⟨h1, h2⟩ := List.mem_filter.1 hx
  simp only [Bool.and_eq_true, beq_iff_eq] at h2
  exact ⟨x, h1, h2.1, h2.2, hb⟩
theorem mine_of {i b : Nat} (h : b ∈ mine M i) : ∃ x, x ∈ M ∧ x.i = i ∧ b ∈ x.bs := by
  obtain ⟨x, hx, hb⟩ := List.mem_flatMap.1 h
  obtain ⟨h1, h2⟩ := List.mem_filter.1 hx
  exact ⟨x, h1, by simpa using h2, hb⟩
theorem rows_mine {i b : Nat} (h : b ∈ rows M i) : b ∈ mine M i := by
  obtain ⟨x, h1, h2, _, h4⟩ := rows_of h
  exact List.mem_flatMap.2 ⟨x, List.mem_filter.2 ⟨h1, by simpa using h2⟩, h4⟩
theorem mine_mem {x : Own} {b : Nat} (hx : x ∈ M) (hb : b ∈ x.bs) : b ∈ mine M x.i := List.mem_flatMap.2 ⟨x, List.mem_filter.2 ⟨hx, by simp⟩, hb⟩
theorem others_mem {i : Nat} {x : Own} {b : Nat} (hx : x ∈ M) (hd : x.i ≠ i) (hm : (marks ops x.i).getD i false = false) (hb : b ∈ x.bs) : b ∈ others ops M i := List.mem_flatMap.2 ⟨x, List.mem_filter.2 ⟨hx, by simp only [hm, Bool.not_false, Bool.and_true, bne_iff_ne]; exact hd⟩, hb⟩
/-- What an operation's own blocks are told of lasts while they are let alone; it speaks of words that the operation looks at. -/
structure Own.Ok (ops : Array Oper) (W : World) (Vs : Words) (x : Own) : Prop where
  old : ∀ b, b ∈ x.bs → b < W.heap.size
  keep : ∀ vs w w' S, x.F vs w → Only S w w' → (∀ b, b ∈ S → b ∉ x.bs) → x.F vs w'
/-- The words that it speaks of are looked at by the operation. -/
def ownB (ops : Array Oper) (M : Mine) (ds : List Tmp) : Bool := M.all fun x => match ops[x.i]? with
  | some o => x.ds.all fun d => (o.looksAt ops).contains d && ds.contains d
  | none => false
theorem headV_run {js : List Nat} {g : Nat} {L : (Tmp → Value) → Array Bool → Act → Prop} {Q' : Exit → Act → World → Prop} (hst : ∀ p, p ∈ Vs → Lasts p.2) (hwd : wordsB ops (Vs.map (·.1)) = true) (hea : eatsB ops E (Vs.map (·.1)) = true) (hob : ownB ops M (Vs.map (·.1)) = true) (hM1 : ∀ x, x ∈ M → x.Ok ops W Vs) (hM2 : ∀ x y, x ∈ M → y ∈ M → (x.i ≠ y.i ∨ x.row ≠ y.row) → ∀ b, b ∈ x.bs → b ∉ y.bs)
    (hL : ∀ val ls a w, Only (allM M) W w → Closed ops ls → (∀ p, p ∈ Vs → Live ops E ls p.1 → p.2 (val p.1) w) → (∀ x, x ∈ M → x.row = false → ls.getD x.i false = true → x.F (x.ds.map val) w) → L val ls a → wpAny P .any ops Q' g ls a w) (k : Nat) :
    ∀ (ls : Array Bool) (a : Act) (w : World) (sg : Tmp → Value) (T : List Nat), Only T W w → (∀ b, b ∈ T → touched M ls b) → (∀ p, p ∈ Vs → Live ops E ls p.1 → ∀ b, (sg p.1).ownBlock = some b → W.heap.size ≤ b ∨ touchedR M ls b) → Closed ops ls → (∀ p, p ∈ Vs → Live ops E ls p.1 → p.2 (sg p.1) w) → (∀ x, x ∈ M → x.row = false → ls.getD x.i false = true → x.F (x.ds.map sg) w) →
      (∀ p q, p ∈ Vs → q ∈ Vs → Live ops E ls p.1 → Live ops E ls q.1 → p.1 ≠ q.1 → ∀ b, (sg p.1).ownBlock = some b → (sg q.1).ownBlock ≠ some b) →
      (∀ val : Tmp → Value, (∀ p, p ∈ Vs → Filled ops ls p.1 → val p.1 = sg p.1) → headV P ops W Vs E M val js (L val) k ls a) → wpAny P .any ops Q' (k + g) ls a w := by
  induction k with
  | zero =>
    intro ls a w sg T ho hT hbl hcl hsg hF _ h
    rw [Nat.zero_add]
    refine hL sg ls a w (ho.mono fun x hx => .inl ?_) hcl hsg hF (h sg fun _ _ _ => rfl)
    obtain ⟨y, hy, _, hb⟩ := hT x hx
    exact List.mem_flatMap.2 ⟨y, hy, hb⟩
  | succ k ih =>
    intro ls a w sg T ho hT hbl hcl hsg hF hdis h
    rw [show k + 1 + g = (k + g) + 1 from by omega]
    have H := h sg fun _ _ _ => rfl
    refine ⟨fun h0 => absurd h0 H.1, fun i hi => ?_⟩
    obtain ⟨hun, o, hoi, hall⟩ := mem_ready.1 hi
    have hlt : i < ls.size := by rw [hcl.size]; exact (Array.getElem?_eq_some_iff.1 hoi).1
    have filled : ∀ p, p ∈ Vs → p.1 ∈ o.looksAt ops → Live ops E ls p.1 := fun p hp hl => by
      obtain ⟨e, he, hb, oe, hoe, hd⟩ := words_look hwd hoi (List.mem_map_of_mem (f := (·.1)) hp) hl
      refine ⟨⟨e.on, oe, hoe, hall e he hb, hd⟩, fun j oj hj hlj hde => ?_⟩
      refine (eats_look hea hj hde).2.2 i o hoi ?_ hl
      rintro rfl
      rw [getD_both hun] at hlj
      cases hlj
    have eat : ∀ d, d ∈ eats E o → ∃ p, p ∈ Vs ∧ p.1 = d ∧ Live ops E ls d := fun d hd => by
      obtain ⟨h1, h2, _⟩ := eats_look hea hoi hd
      obtain ⟨p, hp, rfl⟩ := List.mem_map.1 h2
      exact ⟨p, hp, rfl, filled p hp h1⟩
    -- what has been touched is none of its own
    have notM : ∀ x, touched M ls x → x ∉ mine M i := fun x ⟨y, hy, hly, hyb⟩ hx => by
      obtain ⟨z, hz, hzi, hzb⟩ := mine_of hx
      refine hM2 y z hy hz (.inl fun e => ?_) x hyb hzb
      rw [e, hzi, getD_both hun] at hly
      cases hly
    have toth : ∀ x, touched M ls x → x ∈ others ops M i := fun x ⟨y, hy, hly, hyb⟩ => others_mem hy (fun e => by
      rw [e, getD_both hun] at hly
      cases hly) (by
      cases hmk : (marks ops y.i).getD i false with
      | false => rfl
      | true =>
        exfalso
        rcases marks_listed' hcl.closed (fun o' ho' => hcl.closed y.i o' ho' hly) i hmk with h1 | h1
        · rw [← h1, getD_both hun] at hly; cases hly
        · rw [getD_both hun] at h1; cases h1) hyb
    have mlt : ∀ x, x ∈ mine M i → x < W.heap.size := fun x hx => by
      obtain ⟨z, hz, _, hzb⟩ := mine_of hx
      exact (hM1 z hz).old x hzb
    have dsf : ∀ x, x ∈ M → ∀ o', ops[x.i]? = some o' → ∀ d, d ∈ x.ds → d ∈ o'.looksAt ops ∧ d ∈ Vs.map (·.1) := fun x hx o' ho' d hd => by
      have h1 := List.all_eq_true.1 hob x hx
      simp only [ho'] at h1
      have h2 := List.all_eq_true.1 h1 d hd
      simp only [Bool.and_eq_true] at h2
      exact ⟨by simpa using h2.1, by simpa using h2.2⟩
    have look : ∀ (val : Tmp → Value), (∀ p, p ∈ Vs → Filled ops ls p.1 → val p.1 = sg p.1) → leans ops W Vs M i val o w := fun val hv => ⟨ho.mono fun x hx => .inl (toth x (hT x hx)), fun p hp hl => by
      have hf := filled p hp hl
      rw [hv p hp hf.1]
      exact hsg p hp hf⟩
    have step : ∀ (val : Tmp → Value), (∀ p, p ∈ Vs → Filled ops ls p.1 → val p.1 = sg p.1) → ∃ v, fitsV P ops W Vs E M i val o v a ∧ headV P ops W Vs E M val js (L val) k (ls.setIfInBounds i true) (a.put o.dst v) := fun val hv => by
      have h1 := ((h val hv).2 i hi).2
      unfold fitOp at h1
      simpa only [hoi] using h1
    have next : ∀ (u : Value) (w' : World), Only (mine M i ++ eaten E sg o) w w' → (∀ p, p ∈ Vs → o.dst = some p.1 → p.2 u w' ∧ fresh E M i sg o w u) → (∀ x, x ∈ M → x.i = i → x.row = false → x.F (x.ds.map sg) w') →
        (∀ (val : Tmp → Value) v, (∀ p, p ∈ Vs → Filled ops ls p.1 → val p.1 = sg p.1) → (∀ p, p ∈ Vs → o.dst = some p.1 → val p.1 = u) → fitsV P ops W Vs E M i val o v a → v = u) →
        wpAny P .any ops Q' (k + g) (ls.setIfInBounds i true) (a.put o.dst u) w' := by
      intro u w' how hpu hFu hone
      have back : ∀ d, Live ops E (ls.setIfInBounds i true) d → o.dst ≠ some d → Live ops E ls d ∧ d ∉ eats E o := fun d hl hd => by
        refine ⟨⟨(hl.1.back hoi).resolve_left hd, fun j oj hj hlj => hl.2 j oj hj (getD_set_true hlj)⟩, hl.2 i o hoi (by simp [hlt])⟩
      have apart : ∀ q, q ∈ Vs → Live ops E ls q.1 → q.1 ∉ eats E o → ∀ b, b ∈ mine M i ++ eaten E sg o → (sg q.1).ownBlock ≠ some b := fun q hq hl hne b hb hqb => by
        rcases List.mem_append.1 hb with hb | hb
        · rcases hbl q hq hl b hqb with h1 | h1
          · have := mlt b hb; omega
          · exact notM b h1.t hb
        · obtain ⟨d, hd, hdb⟩ := eaten_of hb
          obtain ⟨p, hp, rfl, hlp⟩ := eat d hd
          exact hdis p q hp hq hlp hl (fun e => hne (e ▸ hd)) b hdb hqb
      have fresh' : ∀ p q, p ∈ Vs → q ∈ Vs → o.dst = some p.1 → Live ops E ls q.1 → q.1 ∉ eats E o → ∀ b, u.ownBlock = some b → (sg q.1).ownBlock ≠ some b := fun p q hp hq hd hl hne b hb hqb => by
        rcases (hpu p hp hd).2 b hb with h1 | h1
        · have := (hst q hq).lies _ _ _ (hsg q hq hl) hqb
          omega
        · exact apart q hq hl hne b ((List.mem_append.1 h1).elim (fun h => List.mem_append_left _ (rows_mine h)) (List.mem_append_right _)) hqb
      have more : ∀ x, touched M ls x → touched M (ls.setIfInBounds i true) x := fun x ⟨y, hy, hly, hyb⟩ => ⟨y, hy, getD_set_true hly, hyb⟩
      have moreR : ∀ x, touchedR M ls x → touchedR M (ls.setIfInBounds i true) x := fun x ⟨y, hy, hyr, hly, hyb⟩ => ⟨y, hy, hyr, getD_set_true hly, hyb⟩
      have here : ∀ x, x ∈ mine M i → touched M (ls.setIfInBounds i true) x := fun x hx => by
        obtain ⟨z, hz, hzi, hzb⟩ := mine_of hx
        exact ⟨z, hz, by rw [hzi]; simp [hlt], hzb⟩
      have eatb : ∀ x, x ∈ eaten E sg o → W.heap.size ≤ x ∨ touchedR M ls x := fun x hx => by
        obtain ⟨d, hd, hdb⟩ := eaten_of hx
        obtain ⟨p, hp, rfl, hlp⟩ := eat d hd
        exact hbl p hp hlp x hdb
      refine ih _ _ _ (fun x => if o.dst = some x then u else sg x) (T ++ (mine M i ++ (eaten E sg o).filter fun x => decide (x < W.heap.size))) ((ho.mono fun x hx => .inl (List.mem_append_left _ hx)).trans how fun x hx => ?_) (fun x hx => ?_) (fun p hp hf b hb => ?_) (hcl.set hi) (fun p hp hf => ?_) (fun x hx hxr hlx => ?_) (fun p q hp hq hlp hlq hne b hb => ?_) (fun val hv => ?_)
      · rcases List.mem_append.1 hx with hx | hx
        · exact .inl (List.mem_append_right _ (List.mem_append_left _ hx))
        · by_cases hxs : x < W.heap.size
          · exact .inl (List.mem_append_right _ (List.mem_append_right _ (List.mem_filter.2 ⟨hx, by simpa using hxs⟩)))
          · exact .inr (by omega)
      · rcases List.mem_append.1 hx with hx | hx
        · exact more x (hT x hx)
        · rcases List.mem_append.1 hx with hx | hx
          · exact here x hx
          · obtain ⟨h1, h2⟩ := List.mem_filter.1 hx
            have h2 : x < W.heap.size := by simpa using h2
            rcases eatb x h1 with h3 | h3
            · omega
            · exact more x h3.t
      · have hb : (if o.dst = some p.1 then u else sg p.1).ownBlock = some b := hb
        by_cases hd : o.dst = some p.1
        · rw [if_pos hd] at hb
          rcases (hpu p hp hd).2 b hb with h1 | h1
          · exact .inl (Nat.le_trans ho.size h1)
          · rcases List.mem_append.1 h1 with h1 | h1
            · obtain ⟨z, hz, hzi, hzr, hzb⟩ := rows_of h1
              exact .inr ⟨z, hz, hzr, by rw [hzi]; simp [hlt], hzb⟩
            · exact (eatb b h1).imp_right (moreR b)
        · rw [if_neg hd] at hb
          exact (hbl p hp (back p.1 hf hd).1 b hb).imp_right (moreR b)
      · show p.2 (if o.dst = some p.1 then u else sg p.1) w'
        split
        · rename_i hd; exact (hpu p hp hd).1
        · rename_i hd
          obtain ⟨h1, h2⟩ := back p.1 hf hd
          exact (hst p hp).keep _ _ _ _ (hsg p hp h1) how (apart p hp h1 h2)
      · -- the facts
        have same : x.ds.map (fun y => if o.dst = some y then u else sg y) = x.ds.map sg := by
          refine List.map_congr_left fun d hd => ?_
          by_cases hod : o.dst = some d
          · exfalso
            have hxl : ∃ ox, ops[x.i]? = some ox := by
              have h1 := List.all_eq_true.1 hob x hx
              cases hox : ops[x.i]? with
              | none => simp only [hox] at h1; cases h1
              | some ox => exact ⟨ox, rfl⟩
            obtain ⟨ox, hox⟩ := hxl
            obtain ⟨h1, h2⟩ := dsf x hx ox hox d hd
            obtain ⟨e, he, hb, oe, hoe, hde⟩ := words_look hwd hox h2 h1
            have hei := words_one hwd hoi hoe h2 hod hde
            by_cases hxi : x.i = i
            · have hoo : ox = o := Option.some.inj ((hxi ▸ hox : ops[i]? = some ox).symm.trans hoi)
              subst hoo
              have := hall e he hb
              rw [← hei, getD_both hun] at this
              cases this
            · rw [getD_set_ne false (fun e => hxi e.symm)] at hlx
              have := hcl.closed x.i ox hox hlx e he hb
              rw [← hei, getD_both hun] at this
              cases this
          · rw [if_neg hod]
        rw [same]
        by_cases hxi : x.i = i
        · exact hFu x hx hxi hxr
        · rw [getD_set_ne false (fun e => hxi e.symm)] at hlx
          refine (hM1 x hx).keep _ _ _ _ (hF x hx hxr hlx) how fun b hb hbx => ?_
          rcases List.mem_append.1 hb with hb | hb
          · exact notM b ⟨x, hx, hlx, hbx⟩ hb
          · rcases eatb b hb with h1 | ⟨y, hy, hyr, hly, hyb⟩
            · have := (hM1 x hx).old b hbx; omega
            · exact hM2 x y hx hy (.inr (by rw [hxr, hyr]; decide)) b hbx hyb
      · by_cases hdp : o.dst = some p.1
        · rw [if_pos hdp] at hb
          have hdq : o.dst ≠ some q.1 := fun e => hne (by rw [hdp] at e; injection e)
          rw [if_neg hdq]
          obtain ⟨h1, h2⟩ := back q.1 hlq hdq
          exact fresh' p q hp hq hdp h1 h2 b hb
        · rw [if_neg hdp] at hb
          obtain ⟨h1, h2⟩ := back p.1 hlp hdp
          by_cases hdq : o.dst = some q.1
          · rw [if_pos hdq]
            exact fun hu => fresh' q p hq hp hdq h1 h2 b hu hb
          · rw [if_neg hdq]
            exact hdis p q hp hq h1 (back q.1 hlq hdq).1 hne b hb
      · have hv' : ∀ p, p ∈ Vs → o.dst = some p.1 → val p.1 = u := fun p hp hd => by
          have := hv p hp ⟨i, o, hoi, by simp [hlt], hd⟩
          rw [this, if_pos hd]
        have hag : ∀ p, p ∈ Vs → Filled ops ls p.1 → val p.1 = sg p.1 := fun p hp hf => by
          have := hv p hp (hf.set i)
          rw [this]
          split
          · rename_i hd
            obtain ⟨j, oj, hj, hlj, hdj⟩ := hf
            obtain rfl := words_one hwd hoi hj (List.mem_map_of_mem (f := (·.1)) hp) hd hdj
            rw [getD_both hun] at hlj
            cases hlj
          · rfl
        obtain ⟨v, hv1, hv2⟩ := step val hag
        rw [hone val v hag hv' hv1] at hv2
        exact hv2
    obtain ⟨v0, hf0, _⟩ := step sg fun _ _ _ => rfl
    unfold wpOp
    simp only [hoi]
    rcases hf0 with ⟨hw, hd0, hr0⟩ | ⟨hw, hv0, hd0, hx0⟩
    · simp only [hw, if_true]
      refine .inl ?_
      have h0 := hr0 w (look sg fun _ _ _ => rfl)
      have hone : ∀ (val : Tmp → Value) v, (∀ p, p ∈ Vs → Filled ops ls p.1 → val p.1 = sg p.1) → fitsV P ops W Vs E M i val o v a → (∀ p, p ∈ Vs → o.dst = some p.1 → v = val p.1) ∧
          outs P w (fun u w' => Only (mine M i ++ eaten E val o) w w' ∧ (∀ p, p ∈ Vs → o.dst = some p.1 → p.2 u w' ∧ fresh E M i val o w u) ∧ (∀ x, x ∈ M → x.i = i → x.row = false → x.F (x.ds.map val) w') ∧ ((∀ p, p ∈ Vs → o.dst ≠ some p.1) → u = v)) ((execOp a.eval o).run P w) := fun val v hv hf => by
        rcases hf with ⟨_, h1, h2⟩ | ⟨h1, _⟩
        · exact ⟨h1, h2 w (look val hv)⟩
        · rw [hw] at h1; cases h1
      have part : ∀ (u : Value) (val : Tmp → Value) (v : Value), (∀ p, p ∈ Vs → o.dst = some p.1 → val p.1 = u) → (∀ p, p ∈ Vs → o.dst = some p.1 → v = val p.1) → ((∀ p, p ∈ Vs → o.dst ≠ some p.1) → u = v) → v = u := fun u val v h1 h2 h3 => by
        by_cases hp : ∃ p, p ∈ Vs ∧ o.dst = some p.1
        · obtain ⟨p, hp, hd⟩ := hp
          rw [h2 p hp hd, h1 p hp hd]
        · exact (h3 fun p hp' hd => hp ⟨p, hp', hd⟩).symm
      unfold Oper.wp
      generalize (execOp a.eval o).run P w = r at *
      cases r with
      | halt x w' => exact h0.elim
      | ok n w' =>
        cases n with
        | value u =>
          exact next u w' h0.1 h0.2.1 h0.2.2.1 fun val v hv hv' hf => by
            obtain ⟨h1, h2⟩ := hone val v hv hf
            exact part u val v hv' h1 h2.2.2.2
        | skip =>
          exact next undef w' h0.1 h0.2.1 h0.2.2.1 fun val v hv hv' hf => by
            obtain ⟨h1, h2⟩ := hone val v hv hf
            exact part undef val v hv' h1 h2.2.2.2
        | enter f args =>
          obtain ⟨rfl, hin, hc⟩ := h0
          refine hc.mono ?_
          rintro e w'' ⟨u, rfl, hu1, hu2, hu4, hu3⟩
          refine next u w'' hu1 hu2 hu4 fun val v hv hv' hf => ?_
          obtain ⟨h1, h2⟩ := hone val v hv hf
          obtain ⟨_, _, hc2⟩ := h2
          refine part u val v hv' h1 fun hn => ?_
          obtain ⟨u0, _, _, ⟨_, _, _, e1⟩, ⟨_, _, _, e2⟩⟩ := calls_same hin hc hc2
          rw [hu3 hn, ← e1 hn, e2 hn]
        | _ => exact h0.elim
    · simp only [hw]
      exact next undef w (Only.refl _ _) (fun p hp hd => absurd hd (hd0 p hp)) (fun x hx hxi _ => absurd hxi (hx0 x hx)) fun val v hv hv' hf => by
        rcases hf with ⟨h1, _⟩ | ⟨_, h1, _, _⟩
        · rw [hw] at h1; cases h1
        · exact h1
theorem tail_any {Q' : Exit → Act → World → Prop} (js : List Nat) : ∀ (l : List Oper) (ls : Array Bool) (a : Act) (w : World), js.map (fun i => ops[i]?) = l.map some → tailB ops js ls = true → wpList P ops Q' l a w → wpAny P .any ops Q' js.length ls a w := by
  induction js with
  | nil =>
    intro l ls a w hl hB h
    have : l = [] := by simpa using hl.symm
    subst this
    exact ⟨by simpa [tailB] using hB, h⟩
  | cons j js ih =>
    intro l ls a w hl hB h
    cases l with
    | nil => simp at hl
    | cons o l =>
      simp only [List.map_cons, List.cons.injEq] at hl
      simp only [tailB, Bool.and_eq_true, decide_eq_true_eq] at hB
      refine ⟨fun h1 => (by rw [hB.1] at h1; cases h1), fun i hi => ?_⟩
      rw [hB.1] at hi
      have hik : i = j := by simpa using hi
      subst hik
      have hw : wpOp P ops Q' i (wpList P ops Q' l) a w := by unfold wpOp; simp only [hl.1]; exact h
      exact wpOp_mono (fun a' w' h' => ih l _ a' w' hl.2 hB.2 h') hw
/-- Every edge that binds goes back. -/
def downB (ops : Array Oper) : Bool := (List.range ops.size).all fun i => match ops[i]? with
  | some o => o.after.toList.all fun e => !Region.binds .any e || decide (e.on < i)
  | none => true
/-- When none of the first n may come up, all of them have. -/
theorem all_listed {ls : Array Bool} (hd : downB ops = true) (hcl : Closed ops ls) {n : Nat} (hn : n ≤ ops.size) (hr : ∀ i, i ∈ Region.ready .any ops ls → n ≤ i) (i : Nat) : i < n → ls.getD i false = true := by
  induction i using Nat.strongRecOn with
  | _ i ih =>
    intro hi
    cases hl : ls.getD i false with
    | true => rfl
    | false =>
      exfalso
      have hio : ops[i]? = some (ops[i]'(by omega)) := Array.getElem?_eq_getElem (by omega)
      have h1 := List.all_eq_true.1 hd i (List.mem_range.2 (by omega))
      simp only [hio] at h1
      have : i ∈ Region.ready .any ops ls := mem_ready.2 ⟨getD_in (by rw [hcl.size]; omega) hl, _, hio, fun e he hb => by
        have h2 := List.all_eq_true.1 h1 e (by simpa using he)
        simp only [hb, Bool.not_true, Bool.false_or, decide_eq_true_eq] at h2
        exact ih e.on h2 (by omega)⟩
      have := hr i this
      omega
/-- **The region.** Its first n operations in whatever order; the others, in their forced order. -/
theorem wp_region_pendM {id : Nat} {Q : Exit → Act → World → Prop} {a : Act} {w : World} {l : List Oper} (W : World) (hw : Only [] W w) (Vs : Words) (E : Eats) (M : Mine) (n : Nat) (hst : ∀ p, p ∈ Vs → Lasts p.2) (hM1 : ∀ x, x ∈ M → x.Ok l.toArray W Vs) (hM2 : ∀ x y, x ∈ M → y ∈ M → (x.i ≠ y.i ∨ x.row ≠ y.row) → ∀ b, b ∈ x.bs → b ∉ y.bs)
    (hm : P.follows .mixedOrders = true) (hB : (pendB l.toArray (List.range' 0 n) (List.range' n (l.length - n)) (Vs.map (·.1)) E && ownB l.toArray M (Vs.map (·.1)) && (M.all fun x => decide (x.i < n)) && downB l.toArray) = true) (hn : n ≤ l.length)
    (h : ∀ val : Tmp → Value, wpFit P l.toArray W Vs E M val (fun a' => ∀ w', Only (allM M) W w' → (∀ p, p ∈ Vs → (∀ x, x ∈ E → x.2 ≠ p.1) → p.2 (val p.1) w') → (∀ x, x ∈ M → x.row = false → x.F (x.ds.map val) w') → wpList P l.toArray Q (l.drop n) a' w') 0 (l.take n) a) : (Code.region id l.toArray true).wp P Q a w := by
  simp only [Bool.and_eq_true] at hB
  obtain ⟨⟨⟨hB, hob⟩, hMn⟩, hdn⟩ := hB
  unfold pendB at hB
  simp only [Bool.and_eq_true, decide_eq_true_eq] at hB
  obtain ⟨⟨⟨⟨⟨⟨hsel, hea⟩, hin⟩, hwd⟩, hsink⟩, hlen⟩, hhead⟩ := hB
  have htl : (l.take n).length = n := by simp; omega
  have hs : ∀ i, i ∈ List.range' 0 (l.take n).length → ∀ t, t ∈ List.range' n (l.length - n) → (marks l.toArray t).getD i false = true ∧ i ≠ t := fun i hi t ht => by
    rw [htl] at hi
    have h1 := List.all_eq_true.1 (List.all_eq_true.1 hsink t ht) i hi
    simp only [Bool.and_eq_true, bne_iff_ne] at h1
    exact h1
  have cl0 : Closed l.toArray (Array.replicate l.toArray.size false) := ⟨by simp, fun j oj _ hl => by rw [getD_replicate_false] at hl; cases hl⟩
  refine wp_region_any hm ?_
  have H := fun val => headV_list (P := P) (W := W) (Vs := Vs) (E := E) (M := M) (val := val) (js := List.range' n (l.length - n)) (Region.noSelect_spec hsel) (l.take n) 0 _ a hs (fun j hj => by
    rw [htl] at hj
    simp [hj]) cl0 (by rw [htl]; exact hhead) (h val)
  have := headV_run (P := P) (ops := l.toArray) (W := W) (Vs := Vs) (E := E) (M := M) (js := List.range' n (l.length - n)) (g := (List.range' n (l.length - n)).length) (Q' := Q)
    (L := fun val ls' a' => tailB l.toArray (List.range' n (l.length - n)) ls' = true ∧ ∀ w', Only (allM M) W w' → (∀ p, p ∈ Vs → (∀ x, x ∈ E → x.2 ≠ p.1) → p.2 (val p.1) w') → (∀ x, x ∈ M → x.row = false → x.F (x.ds.map val) w') → wpList P l.toArray Q (l.drop n) a' w') hst hwd hea hob hM1 hM2 (fun val ls a' w' ho hcl hp hF hL => by
      have hall := all_listed hdn hcl (n := n) (by simpa using hn) (fun i hi => by
        have := tailB_ready hL.1 i hi
        simp [List.mem_range'_1] at this
        omega)
      refine tail_any (List.range' n (l.length - n)) (l.drop n) ls a' w' ?_ hL.1 (hL.2 w' ho (fun p hpV hno => hp p hpV ⟨?_, fun j o _ _ hd => ?_⟩) fun x hx hxr => hF x hx hxr (hall x.i (by simpa using List.all_eq_true.1 hMn x hx)))
      · apply List.ext_getElem?
        intro i
        by_cases hi : i < l.length - n
        · have hil : n + i < l.length := by omega
          simp [hi, List.getElem?_eq_getElem hil]
        · rw [List.getElem?_eq_none (by simp; omega), List.getElem?_eq_none (by simp; omega)]
      · obtain ⟨i, hi, hd⟩ := List.any_eq_true.1 (List.all_eq_true.1 hin p.1 (List.mem_map_of_mem (f := (·.1)) hpV))
        cases ho : l.toArray[i]? with
        | none => rw [ho] at hd; simp at hd
        | some oi =>
          rw [ho] at hd
          exact ⟨i, oi, ho, hall i (by simp [List.mem_range'_1] at hi; omega), by simpa using hd⟩
      · unfold eats at hd
        obtain ⟨x, hx, hx2⟩ := List.mem_map.1 hd
        exact hno x (List.mem_filter.1 hx).1 hx2) (l.take n).length _ a w.drew (fun _ => undef) [] hw.drew (fun b hb => by cases hb) (fun p _ hf => by
      obtain ⟨i, o, _, h2, _⟩ := hf.1
      rw [getD_replicate_false] at h2; cases h2) cl0
    (fun p _ hf => by
      obtain ⟨i, o, _, h2, _⟩ := hf.1
      rw [getD_replicate_false] at h2; cases h2) (fun x _ _ hx => by rw [getD_replicate_false] at hx; cases hx) (fun p _ _ _ hf => by
      obtain ⟨i, o, _, h2, _⟩ := hf.1
      rw [getD_replicate_false] at h2; cases h2) (fun val _ => H val)
  rw [htl] at this
  simp only [List.length_range', List.size_toArray] at this hlen ⊢
  rw [show n + (l.length - n) = l.length from by omega] at this
  exact this
end
/-- Operations that yield a value and call no Go function. -/
def noGo (o : Oper) : Bool := match o.op with
  | .move _ | .assign _ | .pick .. | .load .. | .build .. | .nilCheck _ | .binOp .. | .unOp .. | .convert .. | .fieldAddr .. | .field .. | .indexAddr .. | .index .. | .extract .. | .slice .. => true
  | .call c => match c.callee with
    | .builtin .len | .builtin .cap | .builtin .min | .builtin .max => true
    | _ => false
  | _ => false
/-- It never enters a function. -/
def Dry (P : Program) (s : Sem Next) : Prop := ∀ w f args w', s.run P w ≠ .ok (.enter f args) w'
theorem dry_val {P : Program} (s : Sem Value) : Dry P (do pure (Next.value (← s))) := by
  intro w f args w' h
  rw [Sem.run_bind] at h
  cases hs : s.run P w with
  | ok v w1 => rw [hs] at h; simp [Result.andThen] at h
  | halt x w1 => rw [hs] at h; simp [Result.andThen] at h
theorem dry_pure {P : Program} (v : Value) : Dry P (pure (Next.value v)) := by
  intro w f args w' h
  simp at h
theorem dry_bind {P : Program} {α : Type} (s : Sem α) (k : α → Sem Next) (h : ∀ x, Dry P (k x)) : Dry P (s >>= k) := by
  intro w f args w' hh
  rw [Sem.run_bind] at hh
  cases hs : s.run P w with
  | ok v w1 => rw [hs] at hh; exact h v _ _ _ _ hh
  | halt x w1 => rw [hs] at hh; simp [Result.andThen] at hh
theorem dry_halt {P : Program} (h : Halt) : Dry P (.halt h) := by
  intro w f args w' hh
  simp [Sem.run] at hh
theorem dry_panic {P : Program} (e : RuntimeError) : Dry P (runtimePanic e) := by
  unfold runtimePanic
  refine dry_bind _ _ fun p => ?_
  dsimp only
  split
  all_goals (repeat (first | exact dry_halt _ | refine dry_bind _ _ fun _ => ?_ | split | dsimp only))
theorem noGo_dry {P : Program} {o : Oper} (h : noGo o = true) (ev : Operand → Value) : Dry P (execOp ev o) := by
  unfold noGo at h
  unfold execOp
  split at h
  all_goals (try (cases h; done))
  all_goals (rename_i he; rw [he]; dsimp only)
  all_goals (try exact dry_val _)
  all_goals (try exact dry_pure _)
  · exact dry_bind _ _ fun _ => dry_pure _
  · split
    all_goals (try exact dry_pure _)
    all_goals (try exact dry_panic _)
    split
    all_goals (try exact dry_pure _)
    all_goals (try exact dry_panic _)
    repeat (first | exact dry_pure _ | exact dry_halt _ | exact dry_panic _ | refine dry_bind _ _ fun _ => ?_ | split)
  · split at h
    all_goals (try (cases h; done))
    all_goals
      rename_i hc
      unfold resolve
      rw [hc]
      exact dry_val _
section
variable {P : Program} {ops : Array Oper} {W : World} {Vs : Words} {E : Eats} {M : Mine} {val : Tmp → Value} {Q : Act → Prop}
/-- A stretch of operations that only read: by the quiet walk. -/
theorem fit_seg {C : World → Prop} {rest : List Oper} : ∀ (l : List Oper) (i : Nat) (a : Act), (∀ j, j ∈ List.range' i l.length → ∀ w, Only (others ops M j) W w → C w) → ((List.range' i l.length).all fun j => M.all fun x => x.i != j) = true → (l.all fun o => noGo o && (Vs.map (·.1)).all fun d => o.dst != some d) = true →
    wpQuiet P ops C (fun a' => wpFit P ops W Vs E M val Q (i + l.length) rest a') l a → wpFit P ops W Vs E M val Q i (l ++ rest) a
  | [], _, _, _, _, _, h => h
  | o :: l, i, a, hC, hA, hB, h => by
    have hC0 := hC i (by rw [List.length_cons, List.range'_succ]; simp)
    have hC1 : ∀ j, j ∈ List.range' (i + 1) l.length → ∀ w, Only (others ops M j) W w → C w := fun j hj => hC j (by rw [List.length_cons, List.range'_succ]; simp [hj])
    rw [List.length_cons, List.range'_succ, List.all_cons, Bool.and_eq_true] at hA
    obtain ⟨hA1, hA2⟩ := hA
    have hx0 : ∀ x, x ∈ M → x.i ≠ i := fun x hx => by simpa using List.all_eq_true.1 hA1 x hx
    simp only [List.all_cons, Bool.and_eq_true] at hB
    obtain ⟨⟨hn, hd⟩, hB'⟩ := hB
    have hd' : ∀ p, p ∈ Vs → o.dst ≠ some p.1 := fun p hp => by
      have := List.all_eq_true.1 hd p.1 (List.mem_map_of_mem (f := (·.1)) hp)
      simpa using this
    unfold wpQuiet at h
    by_cases hw : Region.wanted o (yielded ops a.tmps) = true
    · simp only [hw, if_true] at h
      obtain ⟨v, h1, h2⟩ := h
      refine ⟨v, .inl ⟨hw, fun p hp hh => absurd hh (hd' p hp), fun w hl => ?_⟩, fit_seg l (i + 1) _ hC1 hA2 hB' (by rw [List.length_cons, show i + (l.length + 1) = i + 1 + l.length from by omega] at h2; exact h2)⟩
      have h3 := h1 w (hC0 w hl.1)
      unfold Oper.quietAt at h3
      have hdry := noGo_dry (P := P) hn a.eval w
      generalize (execOp a.eval o).run P w = r at *
      cases r with
      | halt x w' => exact h3.elim
      | ok n w' =>
        cases n with
        | value u => obtain ⟨rfl, rfl⟩ := h3; exact ⟨Only.refl _ _, fun p hp hh => absurd hh (hd' p hp), fun x hx hxi => absurd hxi (hx0 x hx), fun _ => rfl⟩
        | skip => obtain ⟨rfl, rfl⟩ := h3; exact ⟨Only.refl _ _, fun p hp hh => absurd hh (hd' p hp), fun x hx hxi => absurd hxi (hx0 x hx), fun _ => rfl⟩
        | enter f args => exact absurd rfl (hdry f args w')
        | _ => exact h3.elim
    · simp only [hw] at h
      exact ⟨undef, .inr ⟨by simpa using hw, rfl, hd', hx0⟩, fit_seg l (i + 1) _ hC1 hA2 hB' (by rw [List.length_cons, show i + (l.length + 1) = i + 1 + l.length from by omega] at h; exact h)⟩
theorem fit_segN {l : List Oper} (n : Nat) {i : Nat} {a : Act} (hB : (decide (n ≤ l.length) && (l.take n).all fun o => noGo o && (Vs.map (·.1)).all fun d => o.dst != some d) = true) (h : wpQuiet P ops (fun w' => ∃ u : Since W, w' = u.w) (fun a' => wpFit P ops W Vs E [] val Q (i + n) (l.drop n) a') (l.take n) a) :
    wpFit P ops W Vs E [] val Q i l a := by
  simp only [Bool.and_eq_true, decide_eq_true_eq] at hB
  have hl : (l.take n).length = n := by simp; omega
  have := fit_seg (M := []) (C := fun w' => ∃ u : Since W, w' = u.w) (rest := l.drop n) (l.take n) i a (fun _ _ w hw => ⟨⟨w, hw⟩, rfl⟩) (by rw [List.all_eq_true]; intro j _; rfl) hB.2 (by rw [hl]; exact h)
  rwa [List.take_append_drop] at this
/-- A world in which of W only the blocks of S may have turned. -/
structure SinceS (S : List Nat) (W : World) where
  w : World
  h : Only S W w
instance (S : List Nat) (W : World) : Nonempty (SinceS S W) := ⟨⟨W, Only.refl _ _⟩⟩
theorem SinceS.cell {S : List Nat} {W : World} (u : SinceS S W) {p : Addr} {v : Value} (h : W.cell? p = some v) (hn : p.block ∉ S) : u.w.cell? p = some v :=
  (u.h.cell (World.block_lt_of_cell? W _ h) hn).trans h
/-- The blocks of some operations. -/
def bsOf (M : Mine) (ks : List Nat) : List Nat := (M.filter fun x => ks.contains x.i).flatMap (·.bs)
theorem fit_segM {l : List Oper} (n : Nat) (ks : List Nat) {i : Nat} {a : Act} (hB : (decide (n ≤ l.length) && ((List.range' i n).all fun j => M.all fun x => x.i != j && ((marks ops x.i).getD j false || ks.contains x.i)) && (l.take n).all fun o => noGo o && (Vs.map (·.1)).all fun d => o.dst != some d) = true)
    (h : wpQuiet P ops (fun w' => ∃ u : SinceS (bsOf M ks) W, w' = u.w) (fun a' => wpFit P ops W Vs E M val Q (i + n) (l.drop n) a') (l.take n) a) : wpFit P ops W Vs E M val Q i l a := by
  simp only [Bool.and_eq_true, decide_eq_true_eq] at hB
  obtain ⟨⟨hn, hA⟩, hB⟩ := hB
  have hl : (l.take n).length = n := by simp; omega
  have key : ∀ j, j ∈ List.range' i n → ∀ x, x ∈ M → x.i ≠ j ∧ ((marks ops x.i).getD j false = true ∨ ks.contains x.i = true) := fun j hj x hx => by
    have h1 := List.all_eq_true.1 (List.all_eq_true.1 hA j hj) x hx
    simp only [Bool.and_eq_true, bne_iff_ne, Bool.or_eq_true] at h1
    exact h1
  have := fit_seg (C := fun w' => ∃ u : SinceS (bsOf M ks) W, w' = u.w) (rest := l.drop n) (l.take n) i a (fun j hj w hw => ⟨⟨w, hw.mono fun b hb => .inl (by
    rw [hl] at hj
    obtain ⟨x, hx, hxb⟩ := List.mem_flatMap.1 hb
    obtain ⟨h1, h2⟩ := List.mem_filter.1 hx
    simp only [Bool.and_eq_true, Bool.not_eq_true'] at h2
    refine List.mem_flatMap.2 ⟨x, List.mem_filter.2 ⟨h1, ?_⟩, hxb⟩
    rcases (key j hj x h1).2 with h3 | h3
    · rw [h2.2] at h3; cases h3
    · exact h3)⟩, rfl⟩) (by
      rw [hl, List.all_eq_true]
      intro j hj
      rw [List.all_eq_true]
      intro x hx
      simpa using (key j hj x hx).1) hB (by rw [hl]; exact h)
  rwa [List.take_append_drop] at this
theorem outs_mono {w : World} {R R' : Value → World → Prop} {r : Result Next} (h : ∀ u w', R u w' → R' u w') (hh : outs P w R r) : outs P w R' r := by
  cases r with
  | halt x w' => exact hh
  | ok n w' =>
    cases n with
    | value u => exact h _ _ hh
    | skip => exact h _ _ hh
    | enter f args => obtain ⟨h1, h2, h3⟩ := hh; exact ⟨h1, h2, h3.mono fun e w'' ⟨u, he, hr⟩ => ⟨u, he, h _ _ hr⟩⟩
    | _ => exact hh
/-- An operation that makes memory: its value meets its word. -/
theorem fit_make {i : Nat} {o : Oper} {rest : List Oper} {a : Act} (p0 : Tmp × (Value → World → Prop)) (hg : o.guard = none) (ho : o.dst = some p0.1) (hp0 : p0 ∈ Vs) (hone : ∀ p, p ∈ Vs → p0.1 = p.1 → p = p0)
    (h : ∀ w, leans ops W Vs M i val o w → outs P w (fun u w' => Only (mine M i ++ eaten E val o) w w' ∧ p0.2 u w' ∧ fresh E M i val o w u ∧ ∀ x, x ∈ M → x.i = i → x.row = false → x.F (x.ds.map val) w') ((execOp a.eval o).run P w)) (hk : wpFit P ops W Vs E M val Q (i + 1) rest (a.put (some p0.1) (val p0.1))) : wpFit P ops W Vs E M val Q i (o :: rest) a := by
  refine ⟨val p0.1, .inl ⟨by simp [Region.wanted, hg], fun p hp hd => ?_, fun w hl => ?_⟩, by rw [ho]; exact hk⟩
  · rw [ho] at hd; injection hd with hd; rw [hone p hp hd]
  · refine outs_mono (fun u w' hh => ⟨hh.1, fun p hp hd => ?_, hh.2.2.2, fun hn => absurd ho (hn p0 hp0)⟩) (h w hl)
    rw [ho] at hd; injection hd with hd; rw [hone p hp hd]; exact ⟨hh.2.1, hh.2.2.1⟩
/-- A call of a Go function that hands back one value, whatever the order. -/
theorem fit_call {i : Nat} {o : Oper} {rest : List Oper} {a : Act} (v : Value) (f : FuncId) (args : Array Value) (hw : Region.wanted o (yielded ops a.tmps) = true) (hd : ∀ p, p ∈ Vs → o.dst ≠ some p.1) (hrun : ∀ w, (execOp a.eval o).run P w = .ok (.enter f args) w) (hx0 : (M.all fun x => x.i != i) = true)
    (hin : P.inits.idxOf? f = none) (hc : ∀ w, leans ops W Vs M i val o w → Calls P f args w fun e w' => e = .returned v ∧ Only [] w w') (hk : wpFit P ops W Vs E M val Q (i + 1) rest (a.put o.dst v)) : wpFit P ops W Vs E M val Q i (o :: rest) a := by
  refine ⟨v, .inl ⟨hw, fun p hp hh => absurd hh (hd p hp), fun w hl => ?_⟩, hk⟩
  rw [hrun w]
  exact ⟨rfl, hin, (hc w hl).mono fun e w' ⟨he, ho⟩ => ⟨v, he, ho.of0, fun p hp hh => absurd hh (hd p hp), fun x hx hxi => absurd hxi (by simpa using List.all_eq_true.1 hx0 x hx), fun _ => rfl⟩⟩
/-- A call of a Go function whose value meets a word. -/
theorem fit_callW {i : Nat} {o : Oper} {rest : List Oper} {a : Act} (p0 : Tmp × (Value → World → Prop)) (hg : o.guard = none) (ho : o.dst = some p0.1) (hp0 : p0 ∈ Vs) (hone : ∀ p, p ∈ Vs → p0.1 = p.1 → p = p0) (f : FuncId) (args : Array Value) (hrun : ∀ w, (execOp a.eval o).run P w = .ok (.enter f args) w) (hx0 : (M.all fun x => x.i != i) = true)
    (hin : P.inits.idxOf? f = none) (hc : ∀ w, leans ops W Vs M i val o w → Calls P f args w fun e w' => ∃ u, e = .returned u ∧ Only [] w w' ∧ p0.2 u w' ∧ ∀ b, u.ownBlock = some b → w.heap.size ≤ b) (hk : wpFit P ops W Vs E M val Q (i + 1) rest (a.put (some p0.1) (val p0.1))) : wpFit P ops W Vs E M val Q i (o :: rest) a := by
  refine fit_make p0 hg ho hp0 hone (fun w hl => ?_) hk
  rw [hrun w]
  exact ⟨rfl, hin, (hc w hl).mono fun e w' ⟨u, he, h1, h2, h3⟩ => ⟨u, he, h1.of0, h2, fun b hb => .inl (h3 b hb), fun x hx hxi => absurd hxi (by simpa using List.all_eq_true.1 hx0 x hx)⟩⟩
end
/-- The word 'a slice at a new block of just these cells'. -/
def SlW (B : Nat) (t : TypeId) (cs : List Value) (n : Nat) (u : Value) (w : World) : Prop := ∃ b, B ≤ b ∧ u = .slice (some ⟨b, 0, none⟩) n n ∧ Cells w b t cs
theorem SlW.lasts (B : Nat) (t : TypeId) (cs : List Value) (n : Nat) : Lasts (SlW B t cs n) :=
  ⟨fun u w w' S ⟨b, hB, hu, hC⟩ ho hS => ⟨b, hB, hu, hC.only ho fun hm => hS b hm (by rw [hu]; rfl)⟩, fun u w b ⟨b', hB, hu, hC⟩ h => by
    rw [hu] at h
    simp only [Value.ownBlock, Option.some.injEq] at h
    subst h
    exact hC.lt⟩
theorem own_keep {S : List Nat} {w w' : World} {base : Nat} {e : TypeId} {sz n : Nat} {v : Value} {xs : List Value} (h : w.ownsRow base e sz v n xs) (ho : Only S w w') (hS : ∀ b, b ∈ S → v.ownBlock ≠ some b) : w'.ownsRow base e sz v n xs := by
  obtain ⟨hl, h⟩ := h
  refine ⟨hl, ?_⟩
  rcases h with h | ⟨g, cap, cur, hv, hb, hh, hr⟩
  · exact .inl h
  · refine .inr ⟨g, cap, cur, hv, hb, ?_, hr⟩
    have hlt : g < w.heap.size := by
      rcases Nat.lt_or_ge g w.heap.size with hlt | hge
      · exact hlt
      · rw [Array.getElem?_eq_none hge] at hh; cases hh
    rw [ho.block g hlt (fun hm => hS g hm (by rw [hv]; rfl))]
    exact hh
/-- The word 'a new slice of its own, of just these cells'. -/
def OwW (B : Nat) (e : TypeId) (sz n : Nat) (xs : List Value) (u : Value) (w : World) : Prop := w.ownsRow B e sz u n xs
theorem OwW.lasts (B : Nat) (e : TypeId) (sz n : Nat) (xs : List Value) : Lasts (OwW B e sz n xs) :=
  ⟨fun _ _ _ _ h ho hS => own_keep h ho hS, fun _ _ _ h hb => (h.lt _ hb).2⟩
section
variable {P : Program} {ops : Array Oper} {W : World} {Vs : Words} {E : Eats} {M : Mine} {val : Tmp → Value} {Q : Act → Prop}
/-- A slice's literal. -/
theorem fit_lit {i : Nat} {o : Oper} {rest : List Oper} {a : Act} (d : Tmp) (t : TypeId) (cs : List Value) (n : Nat) (hg : o.guard = none) (ho : o.dst = some d) (hp0 : (d, SlW W.heap.size t cs n) ∈ Vs) (hone : ∀ p, p ∈ Vs → d = p.1 → p = (d, SlW W.heap.size t cs n))
    (h : ∀ w, (execOp a.eval o).run P w = .ok (.value (.slice (some ⟨w.heap.size, 0, none⟩) n n)) (w.alloc (.cells cs.toArray t))) (hx0 : (M.all fun x => x.i != i) = true) (hk : wpFit P ops W Vs E M val Q (i + 1) rest (a.put (some d) (val d))) : wpFit P ops W Vs E M val Q i (o :: rest) a :=
  fit_make (d, SlW W.heap.size t cs n) hg ho hp0 hone (fun w hl => by
    rw [h w]
    exact ⟨(Only.refl _ _).alloc _, ⟨_, hl.1.size, rfl, Cells.new _ _ _⟩, fun b hb => .inl (by simp only [Value.ownBlock, Option.some.injEq] at hb; omega), fun x hx hxi => absurd hxi (by simpa using List.all_eq_true.1 hx0 x hx)⟩) hk
/-- A call whose one argument is a slice's literal. -/
theorem fit_call1 {i : Nat} {o : Oper} {rest : List Oper} {a : Act} (v : Value) (f : FuncId) (d : Tmp) (t : TypeId) (cs : List Value) (n : Nat) (hV : (d, SlW W.heap.size t cs n) ∈ Vs) (hl : d ∈ o.looksAt ops) (hw : Region.wanted o (yielded ops a.tmps) = true) (hd : ∀ p, p ∈ Vs → o.dst ≠ some p.1)
    (hrun : ∀ w, (execOp a.eval o).run P w = .ok (.enter f #[val d]) w) (hx0 : (M.all fun x => x.i != i) = true) (hin : P.inits.idxOf? f = none) (hc : ∀ w b, Only (others ops M i) W w → Cells w b t cs → Calls P f #[.slice (some ⟨b, 0, none⟩) n n] w fun e w' => e = .returned v ∧ Only [] w w') (hk : wpFit P ops W Vs E M val Q (i + 1) rest (a.put o.dst v)) :
    wpFit P ops W Vs E M val Q i (o :: rest) a := by
  refine fit_call v f _ hw hd hrun hx0 hin (fun w hl' => ?_) hk
  obtain ⟨b, _, hb, hC⟩ := hl'.2 _ hV hl
  have hb : val d = .slice (some ⟨b, 0, none⟩) n n := hb
  rw [hb]
  exact hc w b hl'.1 hC
end
/-- .. no operation touching an old block. -/
theorem wp_region_pendN {P : Program} {id : Nat} {Q : Exit → Act → World → Prop} {a : Act} {w : World} {l : List Oper} (W : World) (hw : Only [] W w) (Vs : Words) (E : Eats) (n : Nat) (hst : ∀ p, p ∈ Vs → Lasts p.2) (hm : P.follows .mixedOrders = true)
    (hB : (pendB l.toArray (List.range' 0 n) (List.range' n (l.length - n)) (Vs.map (·.1)) E && downB l.toArray) = true) (hn : n ≤ l.length)
    (h : ∀ val : Tmp → Value, wpFit P l.toArray W Vs E [] val (fun a' => ∀ w', Only [] W w' → (n < l.length → ∀ p, p ∈ Vs → (∀ x, x ∈ E → x.2 ≠ p.1) → p.2 (val p.1) w') → wpList P l.toArray Q (l.drop n) a' w') 0 (l.take n) a) : (Code.region id l.toArray true).wp P Q a w := by
  simp only [Bool.and_eq_true] at hB
  refine wp_region_pendM W hw Vs E [] n hst (fun x hx => by cases hx) (fun x _ hx => by cases hx) hm (by rw [hB.1, hB.2]; rfl) hn fun val => ?_
  have := h val
  have mono : ∀ (l : List Oper) (i : Nat) (a : Act) (Q Q' : Act → Prop), (∀ a, Q a → Q' a) → ∀ {ops : Array Oper}, wpFit P ops W Vs E [] val Q i l a → wpFit P ops W Vs E [] val Q' i l a := by
    intro l
    induction l with
    | nil => intro i a Q Q' hq ops h; exact hq _ h
    | cons o l ih => intro i a Q Q' hq ops ⟨v, h1, h2⟩; exact ⟨v, h1, ih _ _ _ _ hq h2⟩
  exact mono _ _ _ _ _ (fun a' ha w' ho hp _ => ha w' ho fun _ => hp) this
end Go.Proofs.YtjfnkjpnjiobjaaGreat
namespace Go.Proofs.YtjfnkjpnjiobjaaGreat
open Go.RowKit
/-- What is appended: m elements, these cells. -/
def SrcA (w : World) (v : Value) (sz m : Nat) (news : List Value) : Prop :=
  news.length = m * sz ∧ (∀ u ∈ news, u.oneCell' = true) ∧ ((v = .slice none 0 0 ∧ m = 0) ∨ ∃ ad c, v = .slice (some ad) m c ∧ ∀ j u, news[j]? = some u → w.cell? (ad.add j) = some u)
theorem SrcA.only {w w' : World} {v : Value} {sz m : Nat} {news : List Value} (h : SrcA w v sz m news) (ho : Only [] w w') : SrcA w' v sz m news := by
  obtain ⟨h1, h2, h⟩ := h
  refine ⟨h1, h2, h.imp_right fun ⟨ad, c, hv, hc⟩ => ⟨ad, c, hv, fun j u hu => ?_⟩⟩
  have := hc j u hu
  exact (ho.cell (World.block_lt_of_cell? w _ this) (by simp)).trans this
theorem SrcA.own {w : World} {base : Nat} {e : TypeId} {sz n : Nat} {v : Value} {xs : List Value} (h : w.ownsRow base e sz v n xs) (h1 : ∀ u ∈ xs, u.oneCell' = true) : SrcA w v sz n xs := by
  refine ⟨h.1, h1, ?_⟩
  rcases h.2 with ⟨rfl, rfl⟩ | ⟨g, cap, cur, rfl, _, hh, hnc, hcm, hs, hx⟩
  · exact .inl ⟨rfl, rfl⟩
  · refine .inr ⟨_, cap, rfl, fun j u hu => ?_⟩
    have hj : j < xs.length := (List.getElem?_eq_some_iff.1 hu).1
    have hj2 : j < n * sz := by rw [← h.1]; exact hj
    rw [Addr.add_lit, Nat.zero_add, cell_of_row w g j cur e (0, 0) hh, ← hu, ← hx, List.getElem?_take_of_lt hj2]
    simp
/-- A piece of a block known whole. -/
theorem SrcA.piece {w : World} {b o m c sz : Nat} {t : TypeId} {cs news : List Value} (hC : Cells w b t cs) (hl : news.length = m * sz) (h1 : ∀ u ∈ news, u.oneCell' = true) (hn : ∀ j u, news[j]? = some u → cs[o + j]? = some u) : SrcA w (.slice (some ⟨b, o, none⟩) m c) sz m news :=
  ⟨hl, h1, .inr ⟨_, c, rfl, fun j u hu => by rw [Addr.add_lit]; exact hC.cell (hn j u hu)⟩⟩
section
variable {P : Program}
theorem run_app (w : World) (base : Nat) (t ty e : TypeId) (i : TypeInfo) (z : Value) (sz bytes : Nat) (ht : P.underlying t = some (.slice e)) (hi : P.info? e = some i) (hz : i.zero = some z) (hsize : i.size = sz) (hby : i.bytes = bytes) (hzs : z.cells.size = sz) (hsz : 0 < sz)
    (v : Value) (n : Nat) (xs : List Value) (hown : w.ownsRow base e sz v n xs) (y : Value) (m : Nat) (news : List Value) (hs : SrcA w y sz m news) (h63 : n + m ≤ maxLen) (hbytes : (n + m) * bytes ≤ 140737488355328) (hbase : base ≤ w.heap.size) :
    ∃ v' w', (Builtin.append_ #[t, t] ty #[v, y]).run P w = .ok v' w' ∧ w'.ownsRow base e sz v' (n + m) (xs ++ news) ∧ Only v.ownBlock.toList w w' ∧ (∀ b, v'.ownBlock = some b → w.heap.size ≤ b ∨ v.ownBlock = some b) := by
  obtain ⟨hl, h1, ⟨rfl, rfl⟩ | ⟨ad, c, rfl, hc⟩⟩ := hs
  · refine ⟨v, w, run_append_owned_none w base t ty e i sz ht hi v n xs hown, ?_, Only.refl _ _, fun b hb => .inr hb⟩
    have : news = [] := by simpa using hl
    subst this
    simpa using hown
  · obtain ⟨v', w', hr, h2, h3, _, h5⟩ := run_append_own_at (P := P) w base t ty e i z sz bytes ht hi hz hsize hby hzs hsz v n xs hown ad m c news hl hc h1 h63 hbytes hbase
    refine ⟨v', w', hr, h2, (Only.refl _ w).grown h3 (fun g hg => .inl (by rw [hg]; simp)), fun b hb => ?_⟩
    rcases h5 with h5 | h5
    · exact .inr (by rw [← h5]; exact hb)
    · rw [h5] at hb; injection hb with hb; exact .inl (by omega)
variable {ops : Array Oper} {W : World} {Vs : Words} {E : Eats} {M : Mine} {val : Tmp → Value} {Q : Act → Prop}
/-- A slice's literal, as a slice of its own. -/
theorem fit_litO {k : Nat} {o : Oper} {rest : List Oper} {a : Act} (d : Tmp) (e : TypeId) (sz : Nat) (cs : List Value) (n : Nat) (hg : o.guard = none) (ho : o.dst = some d) (hp0 : (d, OwW W.heap.size e sz n cs) ∈ Vs) (hone : ∀ p, p ∈ Vs → d = p.1 → p = (d, OwW W.heap.size e sz n cs)) (hl : cs.length = n * sz) (hn : n ≤ maxLen)
    (h : ∀ w, (execOp a.eval o).run P w = .ok (.value (.slice (some ⟨w.heap.size, 0, none⟩) n n)) (w.alloc (.cells cs.toArray e))) (hx0 : (M.all fun x => x.i != k) = true) (hk : wpFit P ops W Vs E M val Q (k + 1) rest (a.put (some d) (val d))) : wpFit P ops W Vs E M val Q k (o :: rest) a :=
  fit_make (d, OwW W.heap.size e sz n cs) hg ho hp0 hone (fun w hl' => by
    rw [h w]
    refine ⟨(Only.refl _ _).alloc _, ?_, fun b hb => .inl (by simp only [Value.ownBlock, Option.some.injEq] at hb; omega), fun x hx hxi => absurd hxi (by simpa using List.all_eq_true.1 hx0 x hx)⟩
    have := World.ownsRow_lit (base := W.heap.size) (e := e) (size := sz) w cs.toArray n hl'.1.size hn (by simpa using hl)
    simpa [OwW] using this) hk
/-- append(x, y...), x a word. -/
theorem fit_append {k : Nat} {o : Oper} {rest : List Oper} {a : Act} (d0 d : Tmp) (y : Operand) (t e : TypeId) (i : TypeInfo) (z : Value) (sz bytes : Nat) (ht : P.underlying t = some (.slice e)) (hi : P.info? e = some i) (hz : i.zero = some z) (hsize : i.size = sz) (hby : i.bytes = bytes) (hzs : z.cells.size = sz) (hsz : 0 < sz)
    (n m N : Nat) (xs news zs : List Value) (hN : N = n + m) (hzl : zs = xs ++ news) (hop : o.op = .call { callee := .builtin .append, args := #[.tmp d, y], argTypes := #[t, t] }) (hg : o.guard = none) (ho : o.dst = some d0) (hp0 : (d0, OwW W.heap.size e sz N zs) ∈ Vs) (hone : ∀ p, p ∈ Vs → d0 = p.1 → p = (d0, OwW W.heap.size e sz N zs))
    (hV : (d, OwW W.heap.size e sz n xs) ∈ Vs) (hl : d ∈ o.looksAt ops) (heat : eats E o = [d]) (hd : a.eval (.tmp d) = val d) (hy : ∀ w, leans ops W Vs M k val o w → SrcA w (a.eval y) sz m news) (h63 : n + m ≤ maxLen) (hbytes : (n + m) * bytes ≤ 140737488355328) (hx0 : (M.all fun x => x.i != k) = true)
    (hk : wpFit P ops W Vs E M val Q (k + 1) rest (a.put (some d0) (val d0))) : wpFit P ops W Vs E M val Q k (o :: rest) a := by
  subst hN
  subst hzl
  refine fit_make (d0, OwW W.heap.size e sz (n + m) (xs ++ news)) hg ho hp0 hone (fun w hw => ?_) hk
  have hown : w.ownsRow W.heap.size e sz (val d) n xs := hw.2 _ hV hl
  obtain ⟨v', w', hr, h2, h3, h4⟩ := run_app w W.heap.size t o.type e i z sz bytes ht hi hz hsize hby hzs hsz (val d) n xs hown (a.eval y) m news (hy w hw) h63 hbytes hw.1.size
  have he : eaten E val o = (val d).ownBlock.toList := by unfold eaten; rw [heat]; simp
  have hrun : (execOp a.eval o).run P w = .ok (.value v') w' := by
    unfold execOp
    simp only [hop, resolve, invoke, builtin, Sem.run_bind, Sem.run_pure, Result.andThen_ok, List.map_toArray, List.map_cons, List.map_nil, hd, hr]
  rw [hrun]
  refine ⟨h3.mono fun x hx => .inl (List.mem_append_right _ (by rw [he]; exact hx)), h2, fun b hb => ?_, fun x hx hxi => absurd hxi (by simpa using List.all_eq_true.1 hx0 x hx)⟩
  rcases h4 b hb with h5 | h5
  · exact .inl h5
  · exact .inr (List.mem_append_right _ (by rw [he, h5]; simp))
theorem others_sub {k : Nat} {ks : List Nat} (h : (M.all fun x => x.i == k || (marks ops x.i).getD k false || ks.contains x.i) = true) {b : Nat} (hb : b ∈ others ops M k) : b ∈ bsOf M ks := by
  obtain ⟨x, hx, hxb⟩ := List.mem_flatMap.1 hb
  obtain ⟨h1, h2⟩ := List.mem_filter.1 hx
  simp only [Bool.and_eq_true, Bool.not_eq_true', bne_iff_ne] at h2
  have h3 := List.all_eq_true.1 h x h1
  simp only [Bool.or_eq_true, beq_iff_eq] at h3
  refine List.mem_flatMap.2 ⟨x, List.mem_filter.2 ⟨h1, ?_⟩, hxb⟩
  rcases h3 with (h3 | h3) | h3
  · exact absurd h3 h2.1
  · rw [h2.2] at h3; cases h3
  · exact h3
/-- append(x, y...), x a row that was there before, which this operation alone may touch. -/
theorem fit_appendM {k : Nat} {o : Oper} {rest : List Oper} {a : Act} (d0 : Tmp) (s y : Operand) (t e : TypeId) (i : TypeInfo) (z : Value) (sz bytes : Nat) (ht : P.underlying t = some (.slice e)) (hi : P.info? e = some i) (hz : i.zero = some z) (hsize : i.size = sz) (hby : i.bytes = bytes) (hzs : z.cells.size = sz) (hsz : 0 < sz)
    (B : Nat) (v : Value) (n m N : Nat) (xs news zs : List Value) (hN : N = n + m) (hzl : zs = xs ++ news) (hop : o.op = .call { callee := .builtin .append, args := #[s, y], argTypes := #[t, t] }) (hg : o.guard = none) (ho : o.dst = some d0) (hp0 : (d0, OwW B e sz N zs) ∈ Vs) (hone : ∀ p, p ∈ Vs → d0 = p.1 → p = (d0, OwW B e sz N zs))
    (hs : a.eval s = v) (hW : W.ownsRow B e sz v n xs) (hrow : rows M k = v.ownBlock.toList) (hall : ∀ x, x ∈ M → x.i = k → x.row = true) (ks : List Nat) (hks : (M.all fun x => x.i == k || (marks ops x.i).getD k false || ks.contains x.i) = true) (hoth : ∀ b, b ∈ bsOf M ks → v.ownBlock ≠ some b) (hB : B ≤ W.heap.size) (hy : ∀ w, leans ops W Vs M k val o w → SrcA w (a.eval y) sz m news) (h63 : n + m ≤ maxLen) (hbytes : (n + m) * bytes ≤ 140737488355328)
    (hk : wpFit P ops W Vs E M val Q (k + 1) rest (a.put (some d0) (val d0))) : wpFit P ops W Vs E M val Q k (o :: rest) a := by
  subst hN
  subst hzl
  refine fit_make (d0, OwW B e sz (n + m) (xs ++ news)) hg ho hp0 hone (fun w hw => ?_) hk
  have hown : w.ownsRow B e sz v n xs := own_keep hW hw.1 fun b hb => hoth b (others_sub hks hb)
  obtain ⟨v', w', hr, h2, h3, h4⟩ := run_app w B t o.type e i z sz bytes ht hi hz hsize hby hzs hsz v n xs hown (a.eval y) m news (hy w hw) h63 hbytes (Nat.le_trans hB hw.1.size)
  have hrun : (execOp a.eval o).run P w = .ok (.value v') w' := by
    unfold execOp
    simp only [hop, resolve, invoke, builtin, Sem.run_bind, Sem.run_pure, Result.andThen_ok, List.map_toArray, List.map_cons, List.map_nil, hs, hr]
  rw [hrun]
  refine ⟨h3.mono fun x hx => .inl (List.mem_append_left _ (rows_mine (by rw [hrow]; exact hx))), h2, fun b hb => ?_, fun x hx hxi hxr => by rw [hall x hx hxi] at hxr; cases hxr⟩
  rcases h4 b hb with h5 | h5
  · exact .inl h5
  · exact .inr (List.mem_append_left _ (by rw [hrow, h5]; simp))
/-- A row that was there before, to which operation k alone appends. -/
def rowOwn (k : Nat) (v : Value) : Own := ⟨k, v.ownBlock.toList, true, [], fun _ _ => True⟩
theorem rowOwn_ok {k B : Nat} {e : TypeId} {sz n : Nat} {v : Value} {xs : List Value} (h : W.ownsRow B e sz v n xs) : (rowOwn k v).Ok ops W Vs := ⟨fun b hb => (h.lt b (by simpa [rowOwn] using hb)).2, fun _ _ _ _ _ _ _ => trivial⟩
/-- A block that was there before, in which operation k alone stores the value of temporary d at a place. -/
def cellOwn (k b : Nat) (t : TypeId) (cs : List Value) (off : Nat) (d : Tmp) : Own := ⟨k, [b], false, [d], fun vs w => Cells w b t (cs.set off (vs.headD undef))⟩
theorem cellOwn_ok {k b : Nat} {t : TypeId} {cs : List Value} {off : Nat} {d : Tmp} (h : b < W.heap.size) : (cellOwn k b t cs off d).Ok ops W Vs :=
  ⟨fun b' hb => by simp [cellOwn] at hb; omega, fun vs w w' S hC ho hS => Cells.only hC ho fun hm => hS b hm (by simp [cellOwn])⟩
/-- The store of a slice that is a word. -/
theorem fit_storeW {k : Nat} {o : Oper} {rest : List Oper} {a : Act} (b : Nat) (t : TypeId) (cs : List Value) (off : Nat) (d : Tmp) (B : Nat) (e : TypeId) (sz n : Nat) (xs : List Value) (hg : o.guard = none) (ho : o.dst = none) (hV : (d, OwW B e sz n xs) ∈ Vs) (hl : d ∈ o.looksAt ops)
    (hC : Cells W b t cs) (ks : List Nat) (hks : (M.all fun x => x.i == k || (marks ops x.i).getD k false || ks.contains x.i) = true) (hoth : b ∉ bsOf M ks) (hmine : b ∈ mine M k) (hall : ∀ x, x ∈ M → x.i = k → x = cellOwn k b t cs off d)
    (hrun : ∀ w A m c, val d = .slice A m c → Cells w b t cs → (execOp a.eval o).run P w = .ok .skip (w.setCell ⟨b, off, none⟩ (val d)))
    (hk : wpFit P ops W Vs E M val Q (k + 1) rest (a.put none undef)) : wpFit P ops W Vs E M val Q k (o :: rest) a := by
  refine ⟨undef, .inl ⟨by simp [Region.wanted, hg], fun p hp hd => (by rw [ho] at hd; cases hd), fun w hw => ?_⟩, by rw [ho]; exact hk⟩
  have hown : w.ownsRow B e sz (val d) n xs := hw.2 _ hV hl
  obtain ⟨A, c, hs⟩ := (SlAt.of_own hown).shape
  have hCw := hC.only hw.1 fun h => hoth (others_sub hks h)
  rw [hrun w A n c hs hCw]
  refine ⟨(Only.refl _ _).setCell (.inl (List.mem_append_left _ hmine)) _, fun p hp hd => (by rw [ho] at hd; cases hd), fun x hx hxi _ => ?_, fun _ => rfl⟩
  rw [hall x hx hxi]
  exact hCw.set off (val d)
end
end Go.Proofs.YtjfnkjpnjiobjaaGreat
namespace Go.Proofs.YtjfnkjpnjiobjaaGreat
open Go.RowKit
def gvs (l : List Int) : List Value := l.map fun n => Value.int .i64 n
theorem gvs_length (l : List Int) : (gvs l).length = l.length := by simp [gvs]
theorem gvs_one (l : List Int) : ∀ u ∈ gvs l, u.oneCell' = true := by
  intro u hu
  obtain ⟨n, _, rfl⟩ := List.mem_map.1 hu
  rfl
theorem info_int : (Tryz.prog.info? 3).map (fun i => (i.zero, i.size, i.bytes)) = some (some (.int .i64 0), 1, 8) := by kernel_rfl
theorem gvs_cell {w : World} {B n : Nat} {v : Value} {l : List Int} (h : SlAt w B v 1 l.length (gvs l)) (hn : n < l.length) : ∃ b o c, v = .slice (some ⟨b, o, none⟩) l.length c ∧ w.cell? ⟨b, o + n, none⟩ = some (.int .i64 (l[n]'hn)) ∧ b < B := by
  obtain ⟨b, o, c, hv, hb, hc⟩ := h.at_ (by omega)
  exact ⟨b, o, c, hv, hc n _ (by simp [gvs, List.getElem?_eq_getElem hn]), hb⟩
/-- Appending a slice that came from anywhere to an own row. -/
theorem wpList_appX {P : Program} {ops : Array Oper} {rest : List Oper} {o : Oper} {a : Act} {Q : Exit → Act → World → Prop} (hgd : o.guard = none) (s x : Operand) (t : TypeId)
    (ho : o.op = .call { callee := .builtin .append, args := #[s, x], argTypes := #[t, t] })
    (base : Nat) (e : TypeId) (i : TypeInfo) (z : Value) (size bytes : Nat) (ht : P.underlying t = some (.slice e)) (hi : P.info? e = some i) (hz : i.zero = some z)
    (hsize : i.size = size) (hby : i.bytes = bytes) (hzs : z.cells.size = size) (hsz : 0 < size) (w : World)
    (v : Value) (n : Nat) (xs : List Value) (hs : a.eval s = v) (hown : w.ownsRow base e size v n xs)
    (B m : Nat) (cs : List Value) (A : Addr) (c : Nat) (hx : a.eval x = .slice (some A) m c) (hu : SlAt w B (.slice (some A) m c) size m cs) (h1 : ∀ u ∈ cs, u.oneCell' = true)
    (h63 : n + m ≤ maxLen) (hbytes : (n + m) * bytes ≤ 140737488355328) (hbase : base ≤ w.heap.size)
    (h : ∀ v' w', w'.ownsRow base e size v' (n + m) (xs ++ cs) → w.grownBy w' v.ownBlock → wpList P ops Q rest (a.put o.dst v') w') :
    wpList P ops Q (o :: rest) a w := by
  refine wpList_append_own _ hgd s x t ho base e i z size bytes ht hi hz hsize hby hzs hsz v n xs hs hown A m c cs hx hu.1 (fun j u hj => ?_) h1 h63 hbytes hbase fun v' w' h2 h3 h4 => h v' w' h2 h3
  have hlt : j < cs.length := (List.getElem?_eq_some_iff.1 hj).1
  have hl := hu.1
  obtain ⟨b, o', c', hv, hb, hc⟩ := hu.at_ (by omega)
  injection hv with hv
  injection hv with hv
  subst hv
  rw [Addr.add_lit]
  exact hc j u hj
def rb (v : Value) : List Nat := v.ownBlock.toList
theorem own_own_ne {w : World} {B B' : Nat} {e e' : TypeId} {sz sz' n n' : Nat} {v v' : Value} {xs xs' : List Value} (h : w.ownsRow B e sz v n xs) (h' : w.ownsRow B' e' sz' v' n' xs') (hne : e ≠ e') {g : Nat} (hg : v.ownBlock = some g) : v'.ownBlock ≠ some g := by
  intro hg'
  rcases h.2 with ⟨rfl, _⟩ | ⟨g1, cap, cur, rfl, _, hh, _⟩
  · simp [Value.ownBlock] at hg
  · rcases h'.2 with ⟨rfl, _⟩ | ⟨g2, cap2, cur2, rfl, _, hh2, _⟩
    · simp [Value.ownBlock] at hg'
    · simp only [Value.ownBlock, Option.some.injEq] at hg hg'
      subst hg; subst hg'
      rw [hh] at hh2
      injection hh2 with h1
      injection h1 with _ h2
      exact hne h2
/-- The new row is the old one, or one that was made since. -/
def NewOf (w : World) (v v' : Value) : Prop := ∀ g, v'.ownBlock = some g → v.ownBlock = some g ∨ w.heap.size ≤ g
theorem NewOf.refl (w : World) (v : Value) : NewOf w v v := fun _ h => .inl h
theorem NewOf.of_rb {w : World} {v v' : Value} (h : rb v' = rb v) : NewOf w v v' := fun g hg => .inl (by
  have : g ∈ rb v' := by simp [rb, hg]
  rw [h] at this
  simpa [rb] using this)
theorem wpList_appA {P : Program} {ops : Array Oper} {rest : List Oper} {o : Oper} {a : Act} {Q : Exit → Act → World → Prop} (hgd : o.guard = none) (s x : Operand) (t : TypeId)
    (ho : o.op = .call { callee := .builtin .append, args := #[s, x], argTypes := #[t, t] })
    (base : Nat) (e : TypeId) (i : TypeInfo) (z : Value) (size bytes : Nat) (ht : P.underlying t = some (.slice e)) (hi : P.info? e = some i) (hz : i.zero = some z)
    (hsize : i.size = size) (hby : i.bytes = bytes) (hzs : z.cells.size = size) (hsz : 0 < size) (w : World)
    (v : Value) (n : Nat) (xs : List Value) (hs : a.eval s = v) (hown : w.ownsRow base e size v n xs)
    (m c : Nat) (cs : List Value) (hx : a.eval x = .slice (some ⟨w.heap.size, 0, none⟩) m c) (hl : cs.length = m * size) (h1 : ∀ u ∈ cs, u.oneCell' = true)
    (h63 : n + m ≤ maxLen) (hbytes : (n + m) * bytes ≤ 140737488355328) (hbase : base ≤ w.heap.size)
    (h : ∀ v' w', w'.ownsRow base e size v' (n + m) (xs ++ cs) → w.grownBy w' v.ownBlock → NewOf w v v' → wpList P ops Q rest (a.put o.dst v') w') :
    wpList P ops Q (o :: rest) a (w.alloc (.cells cs.toArray e)) := by
  refine wpList_append_own_at (w := w.alloc (.cells cs.toArray e)) hgd s x t ho base e i z size bytes ht hi hz hsize hby hzs hsz v n xs hs (hown.alloc _) ⟨w.heap.size, 0, none⟩ m c cs hx hl (fun j u hu => ?_) h1 h63 hbytes (by simp; omega) fun v' w' h2 h3 _ h5 => h v' w' h2 ?_ ?_
  · have := (Cells.new w e cs).cell hu
    unfold Addr.add
    by_cases hj : j = 0
    · subst hj; simpa using this
    · simp only [hj, if_false, Nat.zero_add]; exact this
  · exact ⟨h3.os, h3.tape, h3.output, Nat.le_trans (by simp) h3.size, fun k hk hne => (h3.block k (by simp; omega) hne).trans (Below.heap_alloc w _ k hk)⟩
  · intro g hg
    rcases h5 with h5 | h5
    · exact .inl (by rw [← h5]; exact hg)
    · rw [h5] at hg
      injection hg with hg
      simp at hg
      exact .inr (by omega)
theorem own_low {w : World} {B B' n sz : Nat} {e : TypeId} {v : Value} {xs : List Value} (h : w.ownsRow B e sz v n xs) (hB : B' ≤ B) : w.ownsRow B' e sz v n xs :=
  ⟨h.1, h.2.imp_right fun ⟨q, cap, cur, e1, e2, e3⟩ => ⟨q, cap, cur, e1, Nat.le_trans hB e2, e3⟩⟩
theorem own_formX {w : World} {base n sz : Nat} {e : TypeId} {v : Value} {xs : List Value} (h : w.ownsRow base e sz v n xs) (hn : 0 < n) : ∃ g cap, v = .slice (some ⟨g, 0, none⟩) n cap := by
  obtain ⟨_, h⟩ := h
  rcases h with ⟨_, h⟩ | ⟨g, cap, cur, hv, _⟩
  · omega
  · exact ⟨g, cap, hv⟩
theorem lit4 {w : World} {b : Nat} {t : TypeId} {cs : List Value} (h : Cells w b t cs) : ∀ j u, cs[j]? = some u → w.cell? ((⟨b, 0, none⟩ : Addr).add j) = some u := fun j u hu => by
  rw [Addr.add_lit, Nat.zero_add]; exact h.cell hu
end Go.Proofs.YtjfnkjpnjiobjaaGreat
namespace Go.Proofs.YtjfnkjpnjiobjaaGreat
open Go.RowKit
structure Rd where
  s : List UInt8
  bad : Bool
def Rd.get {α : Type} (f : List UInt8 → Option (α × List UInt8)) (d : α) (r : Rd) : α × Rd :=
  match f r.s with
  | some (x, t) => (x, ⟨t, r.bad⟩)
  | none => (d, ⟨[], true⟩)
def Rd.int (r : Rd) : Int × Rd := r.get rdI 0
def Rd.bool (r : Rd) : Bool × Rd := r.get rdB false
def Rd.text (r : Rd) : List UInt8 × Rd := r.get rdT []
theorem rdB_len {s r : List UInt8} {x : Bool} (h : rdB s = some (x, r)) : r.length ≤ s.length := by
  match s, h with
  | c :: t, h =>
    have h : (if c.toNat ≤ 1 then some (c.toNat == 1, t) else none) = some (x, r) := h
    split at h
    · injection h with h; injection h with _ h; subst h; simp
    · cases h
theorem rdT_len {s r x : List UInt8} (h : rdT s = some (x, r)) : r.length ≤ s.length := by
  unfold rdT at h
  split at h
  · rename_i n t hr
    split at h
    · injection h with h; injection h with _ h; subst h; have := rdI_length hr; rw [List.length_drop]; omega
    · cases h
  · cases h
theorem rdT_iff (s t r : List UInt8) (hs : t.length ≤ 1000000000000) : rdT s = some (t, r) ↔ s = tb t ++ r := by
  unfold rdT tb
  constructor
  · intro h
    cases hi : rdI s with
    | none => rw [hi] at h; cases h
    | some p =>
      obtain ⟨n, q⟩ := p
      rw [hi] at h
      dsimp only at h
      obtain ⟨hw, e⟩ := (rdI_iff s n q).1 hi
      split at h
      · rename_i hn
        simp only [Option.some.injEq, Prod.mk.injEq] at h
        obtain ⟨h1, h2⟩ := h
        have hl : (t.length : Int) = n := by rw [← h1, List.length_take]; omega
        rw [hl, e, ← h1, ← h2, List.append_assoc, List.take_append_drop]
      · cases h
  · intro h
    have hi : rdI s = some ((t.length : Int), t ++ r) := (rdI_iff s _ _).2 ⟨⟨by omega, by omega⟩, by rw [h, List.append_assoc]⟩
    rw [hi]
    dsimp only
    rw [if_pos (by rw [List.length_append]; omega)]
    simp
theorem rdB_iff (s : List UInt8) (b : Bool) (r : List UInt8) : rdB s = some (b, r) ↔ s = bb b ++ r := by
  constructor
  · intro h
    match s, h with
    | c :: t, h =>
      have h : (if c.toNat ≤ 1 then some (c.toNat == 1, t) else none) = some (b, r) := h
      split at h
      · rename_i hc
        simp only [Option.some.injEq, Prod.mk.injEq] at h
        obtain ⟨h1, rfl⟩ := h
        have hc2 : c = 0 ∨ c = 1 := by
          rcases Nat.lt_or_ge c.toNat 1 with h2 | h2
          · left; apply UInt8.toNat_inj.1; show _ = 0; omega
          · right; apply UInt8.toNat_inj.1; show _ = 1; omega
        rcases hc2 with rfl | rfl
        · subst h1; rfl
        · subst h1; rfl
      · cases h
  · rintro rfl
    cases b <;> rfl
theorem get_in {α : Type} {f : List UInt8 → Option (α × List UInt8)} {d : α} {r : Rd} (h : (r.get f d).2.bad = false) : r.bad = false ∧ f r.s = some ((r.get f d).1, (r.get f d).2.s) := by
  unfold Rd.get at h ⊢
  cases hf : f r.s with
  | none => rw [hf] at h; cases h
  | some p =>
    obtain ⟨x, t⟩ := p
    rw [hf] at h
    exact ⟨h, rfl⟩
theorem get_out {α : Type} {f : List UInt8 → Option (α × List UInt8)} {d : α} {s : List UInt8} {x : α} {t : List UInt8} {b : Bool} (h : f s = some (x, t)) : Rd.get f d ⟨s, b⟩ = (x, ⟨t, b⟩) := by
  unfold Rd.get; rw [h]
theorem get_len {α : Type} {f : List UInt8 → Option (α × List UInt8)} {d : α} {r : Rd} {n : Nat} (hf : ∀ x t, f r.s = some (x, t) → t.length ≤ r.s.length) (h : r.s.length ≤ n) : (r.get f d).2.s.length ≤ n := by
  unfold Rd.get
  split
  · rename_i x t hx
    exact Nat.le_trans (hf x t hx) h
  · exact Nat.zero_le _
theorem int_in {r : Rd} (h : r.int.2.bad = false) : r.bad = false ∧ Wide64 r.int.1 ∧ r.s = ib r.int.1 ++ r.int.2.s := by
  obtain ⟨h1, h2⟩ := get_in h
  exact ⟨h1, (rdI_iff _ _ _).1 h2⟩
theorem int_out (n : Int) (h : Wide64 n) (t : List UInt8) (b : Bool) : Rd.int ⟨ib n ++ t, b⟩ = (n, ⟨t, b⟩) := get_out ((rdI_iff _ _ _).2 ⟨h, rfl⟩)
theorem bool_in {r : Rd} (h : r.bool.2.bad = false) : r.bad = false ∧ r.s = bb r.bool.1 ++ r.bool.2.s := by
  obtain ⟨h1, h2⟩ := get_in h
  exact ⟨h1, (rdB_iff _ _ _).1 h2⟩
theorem bool_out (b : Bool) (t : List UInt8) (q : Bool) : Rd.bool ⟨bb b ++ t, q⟩ = (b, ⟨t, q⟩) := get_out ((rdB_iff _ _ _).2 rfl)
theorem rdT_short {s t r : List UInt8} (h : rdT s = some (t, r)) : t.length ≤ s.length := by
  unfold rdT at h
  split at h
  · rename_i n q hi
    split at h
    · simp only [Option.some.injEq, Prod.mk.injEq] at h
      have := rdI_length hi
      rw [← h.1, List.length_take]
      omega
    · cases h
  · cases h
theorem text_in {r : Rd} (h : r.text.2.bad = false) (hl : r.s.length ≤ 1000000000000) : r.bad = false ∧ r.s = tb r.text.1 ++ r.text.2.s := by
  obtain ⟨h1, h2⟩ := get_in h
  exact ⟨h1, (rdT_iff _ _ _ (Nat.le_trans (rdT_short h2) hl)).1 h2⟩
theorem text_out (x t : List UInt8) (h : x.length ≤ 1000000000000) (q : Bool) : Rd.text ⟨tb x ++ t, q⟩ = (x, ⟨t, q⟩) := get_out ((rdT_iff _ _ _ h).2 rfl)
theorem int_len {r : Rd} {n : Nat} (h : r.s.length ≤ n) : r.int.2.s.length ≤ n := get_len (fun _ _ hx => rdI_length hx) h
theorem bool_len {r : Rd} {n : Nat} (h : r.s.length ≤ n) : r.bool.2.s.length ≤ n := get_len (fun _ _ hx => rdB_len hx) h
theorem text_len {r : Rd} {n : Nat} (h : r.s.length ≤ n) : r.text.2.s.length ≤ n := get_len (fun _ _ hx => rdT_len hx) h
theorem text_short {r : Rd} {n : Nat} (h : r.s.length ≤ n) : r.text.1.length ≤ n := by
  unfold Rd.text Rd.get
  split
  · rename_i x t hx
    exact Nat.le_trans (rdT_short hx) h
  · exact Nat.zero_le _
theorem int_wide (r : Rd) : Wide64 r.int.1 := by
  unfold Rd.int Rd.get
  split
  · rename_i x t hx
    exact ((rdI_iff _ _ _).1 hx).1
  · exact ⟨by omega, by omega⟩
theorem get_bad {α : Type} {f : List UInt8 → Option (α × List UInt8)} {d : α} {r : Rd} (h : r.bad = true) : (r.get f d).2.bad = true := by
  unfold Rd.get
  split
  · exact h
  · rfl
def Rd.after (r : Rd) : Nat → Rd
  | 0 => r
  | k + 1 => (r.after k).int.2
def Rd.nth (r : Rd) (k : Nat) : Int := (r.after k).int.1
def Rd.ints (r : Rd) : Nat → List Int
  | 0 => []
  | k + 1 => r.ints k ++ [r.nth k]
theorem Rd.ints_length (r : Rd) (n : Nat) : (r.ints n).length = n := by
  induction n with
  | zero => rfl
  | succ n ih => unfold Rd.ints; rw [List.length_append, ih]; rfl
theorem put_nth (r : Rd) (A B C : List Value) (k : Nat) (hk : k < B.length) : (A ++ (gvs (r.ints k) ++ (B.drop k ++ C))).set (A.length + k) (.int .i64 (r.nth k)) = A ++ (gvs (r.ints (k + 1)) ++ (B.drop (k + 1) ++ C)) := by
  have h1 : B.drop k = B[k] :: B.drop (k + 1) := List.drop_eq_getElem_cons hk
  have h2 : (gvs (r.ints k)).length = k := by unfold gvs; rw [List.length_map, Rd.ints_length]
  rw [List.set_append, if_neg (by omega), Nat.add_sub_cancel_left, List.set_append, if_neg (by omega), h2, Nat.sub_self, h1]
  show A ++ (gvs (r.ints k) ++ (Value.int .i64 (r.nth k) :: (B.drop (k + 1) ++ C))) = _
  rw [Rd.ints]
  unfold gvs
  rw [List.map_append, List.append_assoc]
  rfl
theorem after_in (r : Rd) : ∀ k : Nat, (r.after k).bad = false → r.bad = false ∧ (∀ x ∈ r.ints k, Wide64 x) ∧ r.s = isb (r.ints k) ++ (r.after k).s
  | 0, h => ⟨h, fun x hx => (List.not_mem_nil hx).elim, rfl⟩
  | k + 1, h => by
    obtain ⟨a1, a2, a3⟩ := int_in (r := r.after k) h
    obtain ⟨b1, b2, b3⟩ := after_in r k a1
    refine ⟨b1, fun x hx => ?_, ?_⟩
    · rcases List.mem_append.1 hx with hx | hx
      · exact b2 x hx
      · obtain rfl := List.mem_singleton.1 hx
        exact a2
    · rw [b3, a3]
      show _ = isb (r.ints k ++ [r.nth k]) ++ (r.after (k + 1)).s
      unfold isb
      rw [List.flatMap_append, List.append_assoc]
      simp only [List.flatMap_cons, List.flatMap_nil, List.append_nil]
      rfl
theorem after_out : ∀ (l : List Int) (t : List UInt8), (∀ x ∈ l, Wide64 x) → ∀ k, k ≤ l.length → Rd.ints ⟨isb l ++ t, false⟩ k = l.take k ∧ Rd.after ⟨isb l ++ t, false⟩ k = ⟨isb (l.drop k) ++ t, false⟩ := by
  intro l t hw k
  induction k with
  | zero => intro _; exact ⟨rfl, rfl⟩
  | succ k ih =>
    intro hk
    obtain ⟨a1, a2⟩ := ih (by omega)
    have h1 : l.drop k = l[k] :: l.drop (k + 1) := List.drop_eq_getElem_cons (by omega)
    have h2 : Rd.int (Rd.after ⟨isb l ++ t, false⟩ k) = (l[k], ⟨isb (l.drop (k + 1)) ++ t, false⟩) := by
      rw [a2, h1]
      have := int_out l[k] (hw _ (List.getElem_mem _)) (isb (l.drop (k + 1)) ++ t) false
      rw [← List.append_assoc] at this
      exact this
    constructor
    · show Rd.ints ⟨isb l ++ t, false⟩ k ++ [(Rd.int (Rd.after ⟨isb l ++ t, false⟩ k)).1] = _
      rw [a1, h2, List.take_add_one, List.getElem?_eq_getElem (by omega)]
      rfl
    · show (Rd.int (Rd.after ⟨isb l ++ t, false⟩ k)).2 = _
      rw [h2]
theorem after_out' (l : List Int) (t : List UInt8) (hw : ∀ x ∈ l, Wide64 x) : Rd.ints ⟨isb l ++ t, false⟩ l.length = l ∧ Rd.after ⟨isb l ++ t, false⟩ l.length = ⟨t, false⟩ := by
  have := after_out l t hw l.length (Nat.le_refl _)
  simpa [isb] using this
theorem nth_of {r : Rd} {k : Nat} {l : List Int} (h : r.ints k = l) : ∀ j, j < k → some (r.nth j) = l[j]? := by
  subst h
  intro j hj
  induction k with
  | zero => omega
  | succ k ih =>
    show _ = (r.ints k ++ [r.nth k])[j]?
    by_cases hk : j < k
    · rw [List.getElem?_append_left (by rw [Rd.ints_length]; exact hk)]
      exact ih hk
    · obtain rfl : j = k := by omega
      rw [List.getElem?_append_right (by rw [Rd.ints_length]; omega), Rd.ints_length, Nat.sub_self]
      rfl
theorem after_len {r : Rd} {n : Nat} (h : r.s.length ≤ n) : ∀ k, (r.after k).s.length ≤ n
  | 0 => h
  | k + 1 => int_len (after_len h k)
theorem ints_wide (r : Rd) : ∀ k, ∀ x ∈ r.ints k, Wide64 x
  | 0 => fun x hx => (List.not_mem_nil hx).elim
  | k + 1 => fun x hx => by
    rcases List.mem_append.1 hx with hx | hx
    · exact ints_wide r k x hx
    · obtain rfl := List.mem_singleton.1 hx
      exact int_wide _
end Go.Proofs.YtjfnkjpnjiobjaaGreat
namespace Go.Proofs.YtjfnkjpnjiobjaaGreat
open Go.RowKit
def TrAt (w : World) (z : Nat) (r : Rd) : Prop := Cells w z 93 [.string ⟨r.s.toArray⟩, .bool (!r.bad)] ∧ r.s.length ≤ 1000000000000
theorem TrAt.only {w w' : World} {z : Nat} {r : Rd} {S : List Nat} (h : TrAt w z r) (ho : Only S w w') (hz : z ∉ S) : TrAt w' z r := ⟨h.1.only ho hz, h.2⟩
theorem TrAt.lt {w : World} {z : Nat} {r : Rd} (h : TrAt w z r) : z < w.heap.size := h.1.lt
set_option maxRecDepth 100000 in
set_option maxHeartbeats 1000000 in
theorem tr_int (z : Nat) (r : Rd) (w : World) (h : TrAt w z r) :
    Calls Tryz.prog 47 #[.pointer (some ⟨z, 0, none⟩)] w fun e w' => e = .returned (.int .i64 r.int.1) ∧ TrAt w' z r.int.2 ∧ Only [z] w w' := by
  obtain ⟨hC, hl⟩ := h
  obtain ⟨s, bad⟩ := r
  have CT := Lib.hid (ref_toInt s w hl)
  have hlt := hC.lt
  cases hr : rdI s with
  | none =>
    have HR : Hid (Rd.int ⟨s, bad⟩ = (0, ⟨[], true⟩)) := by show _ = _; unfold Rd.int Rd.get; simp only [hr]
    rw [hr] at CT
    unfold rdV at CT
    have H := Lib.hid hC
    have c0 := hC.cell (k := 0) rfl
    have c1 := hC.cell (k := 1) rfl
    clear hr hC
    go_enter Tryz.func47, Tryz.ntmps47
    go_wp2_with fail
    refine CT.out.mono ?_
    rintro e w1 ⟨rfl, ho⟩
    have H1 := Lib.hid (H.out.only ho (by simp))
    have d0 := H1.out.cell (k := 0) rfl
    have d1 := H1.out.cell (k := 1) rfl
    have f0 := H1.out.frozen 0
    have f1 := H1.out.frozen 1
    have hlt1 := H1.out.lt
    have HO := Lib.hid ho
    clear c0 c1 H CT ho
    cases bad
    all_goals
      go_wp2_with fail
      go_ret
      rw [HR.out]
      exact ⟨rfl, ⟨(H1.out.set 1 _).set 0 _, by first | exact Nat.zero_le _ | exact Nat.le_trans hle hl⟩, ((HO.out.of0 (S := [z])).setCell (p := ⟨z, 1, none⟩) (.inl (by simp)) _).setCell (p := ⟨z, 0, none⟩) (.inl (by simp)) _⟩
  | some p =>
    obtain ⟨x, t⟩ := p
    have hle := rdI_length hr
    have HR : Hid (Rd.int ⟨s, bad⟩ = (x, ⟨t, bad⟩)) := by show _ = _; unfold Rd.int Rd.get; simp only [hr]
    rw [hr] at CT
    unfold rdV at CT
    have H := Lib.hid hC
    have c0 := hC.cell (k := 0) rfl
    have c1 := hC.cell (k := 1) rfl
    clear hr hC
    go_enter Tryz.func47, Tryz.ntmps47
    go_wp2_with fail
    refine CT.out.mono ?_
    rintro e w1 ⟨rfl, ho⟩
    have H1 := Lib.hid (H.out.only ho (by simp))
    have d0 := H1.out.cell (k := 0) rfl
    have d1 := H1.out.cell (k := 1) rfl
    have f0 := H1.out.frozen 0
    have f1 := H1.out.frozen 1
    have hlt1 := H1.out.lt
    have HO := Lib.hid ho
    clear c0 c1 H CT ho
    cases bad
    all_goals
      go_wp2_with fail
      go_ret
      rw [HR.out]
      exact ⟨rfl, ⟨(H1.out.set 1 _).set 0 _, by first | exact Nat.zero_le _ | exact Nat.le_trans hle hl⟩, ((HO.out.of0 (S := [z])).setCell (p := ⟨z, 1, none⟩) (.inl (by simp)) _).setCell (p := ⟨z, 0, none⟩) (.inl (by simp)) _⟩
set_option maxRecDepth 100000 in
set_option maxHeartbeats 1000000 in
theorem tr_text (z : Nat) (r : Rd) (w : World) (h : TrAt w z r) :
    Calls Tryz.prog 66 #[.pointer (some ⟨z, 0, none⟩)] w fun e w' => e = .returned (.string ⟨r.text.1.toArray⟩) ∧ TrAt w' z r.text.2 ∧ Only [z] w w' := by
  obtain ⟨hC, hl⟩ := h
  obtain ⟨s, bad⟩ := r
  have CT := Lib.hid (ref_toText s w hl)
  have hlt := hC.lt
  cases hr : rdT s with
  | none =>
    have HR : Hid (Rd.text ⟨s, bad⟩ = ([], ⟨[], true⟩)) := by show _ = _; unfold Rd.text Rd.get; simp only [hr]
    rw [hr] at CT
    unfold rdTV at CT
    have H := Lib.hid hC
    have c0 := hC.cell (k := 0) rfl
    have c1 := hC.cell (k := 1) rfl
    clear hr hC
    go_enter Tryz.func66, Tryz.ntmps66
    go_wp2_with fail
    refine CT.out.mono ?_
    rintro e w1 ⟨rfl, ho⟩
    have H1 := Lib.hid (H.out.only ho (by simp))
    have d0 := H1.out.cell (k := 0) rfl
    have d1 := H1.out.cell (k := 1) rfl
    have f0 := H1.out.frozen 0
    have f1 := H1.out.frozen 1
    have hlt1 := H1.out.lt
    have HO := Lib.hid ho
    clear c0 c1 H CT ho
    cases bad
    all_goals
      go_wp2_with fail
      go_ret
      rw [HR.out]
      exact ⟨rfl, ⟨(H1.out.set 1 _).set 0 _, by first | exact Nat.zero_le _ | exact Nat.le_trans hle hl⟩, ((HO.out.of0 (S := [z])).setCell (p := ⟨z, 1, none⟩) (.inl (by simp)) _).setCell (p := ⟨z, 0, none⟩) (.inl (by simp)) _⟩
  | some p =>
    obtain ⟨x, t⟩ := p
    have hle := rdT_len hr
    have HR : Hid (Rd.text ⟨s, bad⟩ = (x, ⟨t, bad⟩)) := by show _ = _; unfold Rd.text Rd.get; simp only [hr]
    rw [hr] at CT
    unfold rdTV at CT
    have H := Lib.hid hC
    have c0 := hC.cell (k := 0) rfl
    have c1 := hC.cell (k := 1) rfl
    clear hr hC
    go_enter Tryz.func66, Tryz.ntmps66
    go_wp2_with fail
    refine CT.out.mono ?_
    rintro e w1 ⟨rfl, ho⟩
    have H1 := Lib.hid (H.out.only ho (by simp))
    have d0 := H1.out.cell (k := 0) rfl
    have d1 := H1.out.cell (k := 1) rfl
    have f0 := H1.out.frozen 0
    have f1 := H1.out.frozen 1
    have hlt1 := H1.out.lt
    have HO := Lib.hid ho
    clear c0 c1 H CT ho
    cases bad
    all_goals
      go_wp2_with fail
      go_ret
      rw [HR.out]
      exact ⟨rfl, ⟨(H1.out.set 1 _).set 0 _, by first | exact Nat.zero_le _ | exact Nat.le_trans hle hl⟩, ((HO.out.of0 (S := [z])).setCell (p := ⟨z, 1, none⟩) (.inl (by simp)) _).setCell (p := ⟨z, 0, none⟩) (.inl (by simp)) _⟩
end Go.Proofs.YtjfnkjpnjiobjaaGreat
namespace Go.Proofs.YtjfnkjpnjiobjaaGreat
open Go.RowKit
def SrAt (w : World) (z : Nat) (r : Rd) : Prop := Cells w z 88 [.string ⟨r.s.toArray⟩, .bool r.bad] ∧ r.s.length ≤ 1000000000000
theorem SrAt.only {w w' : World} {z : Nat} {r : Rd} {S : List Nat} (h : SrAt w z r) (ho : Only S w w') (hz : z ∉ S) : SrAt w' z r := ⟨h.1.only ho hz, h.2⟩
theorem SrAt.lt {w : World} {z : Nat} {r : Rd} (h : SrAt w z r) : z < w.heap.size := h.1.lt
set_option maxRecDepth 100000 in
set_option maxHeartbeats 1000000 in
theorem sr_read_int (z : Nat) (r : Rd) (w : World) (h : SrAt w z r) :
    Calls Tryz.prog 60 #[.pointer (some ⟨z, 0, none⟩), .func (.func 61) #[] #[]] w fun e w' => e = .returned (.int .i64 r.int.1) ∧ SrAt w' z r.int.2 ∧ Only [z] w w' := by
  obtain ⟨hC, hl⟩ := h
  obtain ⟨s, bad⟩ := r
  have CT := Lib.hid (codec_toInt s w hl)
  have hlt := hC.lt
  cases hr : rdI s with
  | none =>
    have HR : Hid (Rd.int ⟨s, bad⟩ = (0, ⟨[], true⟩)) := by show _ = _; unfold Rd.int Rd.get; simp only [hr]
    rw [hr] at CT
    unfold rdV at CT
    have H := Lib.hid hC
    have c0 := hC.cell (k := 0) rfl
    have c1 := hC.cell (k := 1) rfl
    clear hr hC
    go_enter Tryz.func60, Tryz.ntmps60
    go_wp2_with fail
    refine CT.out.mono ?_
    rintro e w1 ⟨rfl, ho⟩
    have H1 := Lib.hid (H.out.only ho (by simp))
    have d0 := H1.out.cell (k := 0) rfl
    have d1 := H1.out.cell (k := 1) rfl
    have f0 := H1.out.frozen 0
    have f1 := H1.out.frozen 1
    have hlt1 := H1.out.lt
    have HO := Lib.hid ho
    clear c0 c1 H CT ho
    cases bad
    all_goals
      go_wp2_with fail
      go_ret
      rw [HR.out]
      exact ⟨rfl, ⟨(H1.out.set 0 _).set 1 _, by first | exact Nat.zero_le _ | exact Nat.le_trans hle hl⟩, ((HO.out.of0 (S := [z])).setCell (p := ⟨z, 0, none⟩) (.inl (by simp)) _).setCell (p := ⟨z, 1, none⟩) (.inl (by simp)) _⟩
  | some p =>
    obtain ⟨x, t⟩ := p
    have hle := rdI_length hr
    have HR : Hid (Rd.int ⟨s, bad⟩ = (x, ⟨t, bad⟩)) := by show _ = _; unfold Rd.int Rd.get; simp only [hr]
    rw [hr] at CT
    unfold rdV at CT
    have H := Lib.hid hC
    have c0 := hC.cell (k := 0) rfl
    have c1 := hC.cell (k := 1) rfl
    clear hr hC
    go_enter Tryz.func60, Tryz.ntmps60
    go_wp2_with fail
    refine CT.out.mono ?_
    rintro e w1 ⟨rfl, ho⟩
    have H1 := Lib.hid (H.out.only ho (by simp))
    have d0 := H1.out.cell (k := 0) rfl
    have d1 := H1.out.cell (k := 1) rfl
    have f0 := H1.out.frozen 0
    have f1 := H1.out.frozen 1
    have hlt1 := H1.out.lt
    have HO := Lib.hid ho
    clear c0 c1 H CT ho
    cases bad
    all_goals
      go_wp2_with fail
      go_ret
      rw [HR.out]
      exact ⟨rfl, ⟨(H1.out.set 0 _).set 1 _, by first | exact Nat.zero_le _ | exact Nat.le_trans hle hl⟩, ((HO.out.of0 (S := [z])).setCell (p := ⟨z, 0, none⟩) (.inl (by simp)) _).setCell (p := ⟨z, 1, none⟩) (.inl (by simp)) _⟩
set_option maxRecDepth 100000 in
set_option maxHeartbeats 1000000 in
theorem sr_read_text (z : Nat) (r : Rd) (w : World) (h : SrAt w z r) :
    Calls Tryz.prog 62 #[.pointer (some ⟨z, 0, none⟩), .func (.func 63) #[] #[]] w fun e w' => e = .returned (.string ⟨r.text.1.toArray⟩) ∧ SrAt w' z r.text.2 ∧ Only [z] w w' := by
  obtain ⟨hC, hl⟩ := h
  obtain ⟨s, bad⟩ := r
  have CT := Lib.hid (codec_toText s w hl)
  have hlt := hC.lt
  cases hr : rdT s with
  | none =>
    have HR : Hid (Rd.text ⟨s, bad⟩ = ([], ⟨[], true⟩)) := by show _ = _; unfold Rd.text Rd.get; simp only [hr]
    rw [hr] at CT
    unfold rdTV at CT
    have H := Lib.hid hC
    have c0 := hC.cell (k := 0) rfl
    have c1 := hC.cell (k := 1) rfl
    clear hr hC
    go_enter Tryz.func62, Tryz.ntmps62
    go_wp2_with fail
    refine CT.out.mono ?_
    rintro e w1 ⟨rfl, ho⟩
    have H1 := Lib.hid (H.out.only ho (by simp))
    have d0 := H1.out.cell (k := 0) rfl
    have d1 := H1.out.cell (k := 1) rfl
    have f0 := H1.out.frozen 0
    have f1 := H1.out.frozen 1
    have hlt1 := H1.out.lt
    have HO := Lib.hid ho
    clear c0 c1 H CT ho
    cases bad
    all_goals
      go_wp2_with fail
      go_ret
      rw [HR.out]
      exact ⟨rfl, ⟨(H1.out.set 0 _).set 1 _, by first | exact Nat.zero_le _ | exact Nat.le_trans hle hl⟩, ((HO.out.of0 (S := [z])).setCell (p := ⟨z, 0, none⟩) (.inl (by simp)) _).setCell (p := ⟨z, 1, none⟩) (.inl (by simp)) _⟩
  | some p =>
    obtain ⟨x, t⟩ := p
    have hle := rdT_len hr
    have HR : Hid (Rd.text ⟨s, bad⟩ = (x, ⟨t, bad⟩)) := by show _ = _; unfold Rd.text Rd.get; simp only [hr]
    rw [hr] at CT
    unfold rdTV at CT
    have H := Lib.hid hC
    have c0 := hC.cell (k := 0) rfl
    have c1 := hC.cell (k := 1) rfl
    clear hr hC
    go_enter Tryz.func62, Tryz.ntmps62
    go_wp2_with fail
    refine CT.out.mono ?_
    rintro e w1 ⟨rfl, ho⟩
    have H1 := Lib.hid (H.out.only ho (by simp))
    have d0 := H1.out.cell (k := 0) rfl
    have d1 := H1.out.cell (k := 1) rfl
    have f0 := H1.out.frozen 0
    have f1 := H1.out.frozen 1
    have hlt1 := H1.out.lt
    have HO := Lib.hid ho
    clear c0 c1 H CT ho
    cases bad
    all_goals
      go_wp2_with fail
      go_ret
      rw [HR.out]
      exact ⟨rfl, ⟨(H1.out.set 0 _).set 1 _, by first | exact Nat.zero_le _ | exact Nat.le_trans hle hl⟩, ((HO.out.of0 (S := [z])).setCell (p := ⟨z, 0, none⟩) (.inl (by simp)) _).setCell (p := ⟨z, 1, none⟩) (.inl (by simp)) _⟩
set_option maxRecDepth 100000 in
set_option maxHeartbeats 1000000 in
theorem sr_read_bool (z : Nat) (r : Rd) (w : World) (h : SrAt w z r) :
    Calls Tryz.prog 81 #[.pointer (some ⟨z, 0, none⟩), .func (.func 82) #[] #[]] w fun e w' => e = .returned (.bool r.bool.1) ∧ SrAt w' z r.bool.2 ∧ Only [z] w w' := by
  obtain ⟨hC, hl⟩ := h
  obtain ⟨s, bad⟩ := r
  have CT := Lib.hid (codec_toBool s w hl)
  have hlt := hC.lt
  cases hr : rdB s with
  | none =>
    have HR : Hid (Rd.bool ⟨s, bad⟩ = (false, ⟨[], true⟩)) := by show _ = _; unfold Rd.bool Rd.get; simp only [hr]
    rw [hr] at CT
    unfold rdBV at CT
    have H := Lib.hid hC
    have c0 := hC.cell (k := 0) rfl
    have c1 := hC.cell (k := 1) rfl
    clear hr hC
    go_enter Tryz.func81, Tryz.ntmps81
    go_wp2_with fail
    refine CT.out.mono ?_
    rintro e w1 ⟨rfl, ho⟩
    have H1 := Lib.hid (H.out.only ho (by simp))
    have d0 := H1.out.cell (k := 0) rfl
    have d1 := H1.out.cell (k := 1) rfl
    have f0 := H1.out.frozen 0
    have f1 := H1.out.frozen 1
    have hlt1 := H1.out.lt
    have HO := Lib.hid ho
    clear c0 c1 H CT ho
    cases bad
    all_goals
      go_wp2_with fail
      go_ret
      rw [HR.out]
      exact ⟨rfl, ⟨(H1.out.set 0 _).set 1 _, by first | exact Nat.zero_le _ | exact Nat.le_trans hle hl⟩, ((HO.out.of0 (S := [z])).setCell (p := ⟨z, 0, none⟩) (.inl (by simp)) _).setCell (p := ⟨z, 1, none⟩) (.inl (by simp)) _⟩
  | some p =>
    obtain ⟨x, t⟩ := p
    have hle := rdB_len hr
    have HR : Hid (Rd.bool ⟨s, bad⟩ = (x, ⟨t, bad⟩)) := by show _ = _; unfold Rd.bool Rd.get; simp only [hr]
    rw [hr] at CT
    unfold rdBV at CT
    have H := Lib.hid hC
    have c0 := hC.cell (k := 0) rfl
    have c1 := hC.cell (k := 1) rfl
    clear hr hC
    go_enter Tryz.func81, Tryz.ntmps81
    go_wp2_with fail
    refine CT.out.mono ?_
    rintro e w1 ⟨rfl, ho⟩
    have H1 := Lib.hid (H.out.only ho (by simp))
    have d0 := H1.out.cell (k := 0) rfl
    have d1 := H1.out.cell (k := 1) rfl
    have f0 := H1.out.frozen 0
    have f1 := H1.out.frozen 1
    have hlt1 := H1.out.lt
    have HO := Lib.hid ho
    clear c0 c1 H CT ho
    cases bad
    all_goals
      go_wp2_with fail
      go_ret
      rw [HR.out]
      exact ⟨rfl, ⟨(H1.out.set 0 _).set 1 _, by first | exact Nat.zero_le _ | exact Nat.le_trans hle hl⟩, ((HO.out.of0 (S := [z])).setCell (p := ⟨z, 0, none⟩) (.inl (by simp)) _).setCell (p := ⟨z, 1, none⟩) (.inl (by simp)) _⟩
end Go.Proofs.YtjfnkjpnjiobjaaGreat
namespace Go.Proofs.YtjfnkjpnjiobjaaGreat
open Go.Shelf
def Tryz.lays156_ren : Go.Shelf.Ren := ⟨fun | 156 => 76 | 165 => 89 | 166 => 50 | 169 => 54 | 240 => 70 | 241 => 95 | 276 => 87 | 277 => 108 | n => n, fun | 31 => 97 | 9 => 9 | 3 => 3 | 4 => 4 | 0 => 0 | 20 => 20 | 72 => 101 | 76 => 104 | 70 => 99 | 37 => 36 | 75 => 103 | 127 => 130 | 164 => 141 | 5 => 5 | 80 => 37 | n => n, fun | n => n⟩
theorem Tryz.lays156 : Go.Proofs.Lays.n156 Tryz.prog Tryz.lays156_ren := {
  mixed := by kernel_rfl
  f156 := Tryz.func76.trans (congrArg some (by kernel_rfl))
  f165 := Tryz.func89.trans (congrArg some (by kernel_rfl))
  f166 := Tryz.func50.trans (congrArg some (by kernel_rfl))
  f169 := Tryz.func54.trans (congrArg some (by kernel_rfl))
  f240 := Tryz.func70.trans (congrArg some (by kernel_rfl))
  f241 := Tryz.func95.trans (congrArg some (by kernel_rfl))
  f276 := Tryz.func87.trans (congrArg some (by kernel_rfl))
  f277 := Tryz.func108.trans (congrArg some (by kernel_rfl))
  t0 := Tryz.underlying0
  a0 := Tryz.isAgg0
  z0 := Tryz.sizeOf0
  v0 := Tryz.zeroValue0
  t3 := Tryz.underlying3
  a3 := Tryz.isAgg3
  z3 := Tryz.sizeOf3
  v3 := Tryz.zeroValue3
  t4 := Tryz.underlying4
  a4 := Tryz.isAgg4
  z4 := Tryz.sizeOf4
  v4 := Tryz.zeroValue4
  t9 := Tryz.underlying9
  a9 := Tryz.isAgg9
  z9 := Tryz.sizeOf9
  v9 := Tryz.zeroValue9
  t20 := Tryz.underlying20
  a20 := Tryz.isAgg20
  z20 := Tryz.sizeOf20
  v20 := Tryz.zeroValue20
  t31 := Tryz.underlying97
  a31 := Tryz.isAgg97
  z31 := Tryz.sizeOf97
  v31 := Tryz.zeroValue97
  t37 := Tryz.underlying36
  a37 := Tryz.isAgg36
  z37 := Tryz.sizeOf36
  v37 := Tryz.zeroValue36
  t70 := Tryz.underlying99
  a70 := Tryz.isAgg99
  z70 := Tryz.sizeOf99
  v70 := Tryz.zeroValue99
  t72 := Tryz.underlying101
  a72 := Tryz.isAgg101
  z72 := Tryz.sizeOf101
  v72 := Tryz.zeroValue101
  t75 := Tryz.underlying103
  a75 := Tryz.isAgg103
  z75 := Tryz.sizeOf103
  v75 := Tryz.zeroValue103
  t76 := Tryz.underlying104
  a76 := Tryz.isAgg104
  z76 := Tryz.sizeOf104
  v76 := Tryz.zeroValue104
  t127 := Tryz.underlying130
  a127 := Tryz.isAgg130
  z127 := Tryz.sizeOf130
  v127 := Tryz.zeroValue130
  t164 := Tryz.underlying141
  a164 := Tryz.isAgg141
  z164 := Tryz.sizeOf141
  v164 := Tryz.zeroValue141 }
theorem Tryz.Builder_Extra_156 : Builder.Extra Tryz.prog Tryz.lays156_ren := {
  sizeBuilder := by kernel_rfl
  liesBuilder := by kernel_rfl
  t5 := Tryz.underlying5
  a5 := Tryz.isAgg5
  z5 := Tryz.sizeOf5
  v5 := Tryz.zeroValue5
  infoByte := by kernel_rfl
  cellsByte := by kernel_rfl
  sizeByte := by kernel_rfl
  neB5 := by decide }
open Go.RowKit in
theorem Tryz.strings_Join_none (a : Option Addr) (c : Nat) (sep : ByteArray) (w : World) :
    Calls Tryz.prog 76 #[.slice a 0 c, .string sep] w fun e w' => e = .returned (.string ⟨#[]⟩) ∧ w' = w := Any.strings_Join_none Tryz.lays156 Tryz.Builder_Extra_156 a c sep w
open Go.RowKit in
theorem Tryz.strings_Join (bk o c : Nat) (xs : List ByteArray) (sep : ByteArray) (w : World) (hcells : ∀ (j : Nat) x, xs[j]? = some x → w.cell? ⟨bk, o + j, none⟩ = some (.string x)) (hbk : bk < w.heap.size) (hN : xs.length ≤ 140737488355328) (hcap : xs.length ≤ c) (hlen : (Lib.join (xs.map (·.data.toList)) sep.data.toList).length ≤ 140737488355328) :
    Calls Tryz.prog 76 #[.slice (some ⟨bk, o, none⟩) xs.length c, .string sep] w fun e w' => e = .returned (.string ⟨(Lib.join (xs.map (·.data.toList)) sep.data.toList).toArray⟩) ∧ Below w.heap.size w w' := Any.strings_Join Tryz.lays156 Tryz.Builder_Extra_156 bk o c xs sep w hcells hbk hN hcap hlen
def Tryz.lays137_ren : Go.Shelf.Ren := ⟨fun | 137 => 79 | 217 => 90 | 266 => 96 | n => n, fun | 9 => 9 | 5 => 5 | 3 => 3 | n => n, fun | n => n⟩
theorem Tryz.lays137 : Go.Proofs.Lays.n137 Tryz.prog Tryz.lays137_ren := {
  mixed := by kernel_rfl
  f137 := Tryz.func79.trans (congrArg some (by kernel_rfl))
  f217 := Tryz.func90.trans (congrArg some (by kernel_rfl))
  f266 := Tryz.func96.trans (congrArg some (by kernel_rfl))
  t3 := Tryz.underlying3
  a3 := Tryz.isAgg3
  z3 := Tryz.sizeOf3
  v3 := Tryz.zeroValue3
  t5 := Tryz.underlying5
  a5 := Tryz.isAgg5
  z5 := Tryz.sizeOf5
  v5 := Tryz.zeroValue5
  t9 := Tryz.underlying9
  a9 := Tryz.isAgg9
  z9 := Tryz.sizeOf9
  v9 := Tryz.zeroValue9 }
open Go.RowKit in
theorem Tryz.strings_IndexByte (s : ByteArray) (c : Int) (w : World) :
    Calls Tryz.prog 79 #[.string s, .int .u8 c] w fun e w' => e = .returned (.int .i64 (Lib.indexByte s.data.toList c.toNat.toUInt8)) ∧ w' = w := Any.strings_IndexByte Tryz.lays137 s c w
def Tryz.lays229_ren : Go.Shelf.Ren := ⟨fun | 229 => 77 | n => n, fun | 9 => 9 | 40 => 135 | 31 => 97 | 152 => 144 | 3 => 3 | 0 => 0 | 4 => 4 | 21 => 21 | 154 => 146 | n => n, fun | n => n⟩
theorem Tryz.lays229 : Go.Proofs.Lays.n229 Tryz.prog Tryz.lays229_ren := {
  mixed := by kernel_rfl
  f229 := Tryz.func77.trans (congrArg some (by kernel_rfl))
  t0 := Tryz.underlying0
  a0 := Tryz.isAgg0
  z0 := Tryz.sizeOf0
  v0 := Tryz.zeroValue0
  t3 := Tryz.underlying3
  a3 := Tryz.isAgg3
  z3 := Tryz.sizeOf3
  v3 := Tryz.zeroValue3
  t4 := Tryz.underlying4
  a4 := Tryz.isAgg4
  z4 := Tryz.sizeOf4
  v4 := Tryz.zeroValue4
  t9 := Tryz.underlying9
  a9 := Tryz.isAgg9
  z9 := Tryz.sizeOf9
  v9 := Tryz.zeroValue9
  t21 := Tryz.underlying21
  a21 := Tryz.isAgg21
  z21 := Tryz.sizeOf21
  v21 := Tryz.zeroValue21
  t31 := Tryz.underlying97
  a31 := Tryz.isAgg97
  z31 := Tryz.sizeOf97
  v31 := Tryz.zeroValue97
  t40 := Tryz.underlying135
  a40 := Tryz.isAgg135
  z40 := Tryz.sizeOf135
  v40 := Tryz.zeroValue135
  t152 := Tryz.underlying144
  a152 := Tryz.isAgg144
  z152 := Tryz.sizeOf144
  v152 := Tryz.zeroValue144
  t154 := Tryz.underlying146
  a154 := Tryz.isAgg146
  z154 := Tryz.sizeOf146
  v154 := Tryz.zeroValue146 }
open Go.RowKit Go.Lib in
theorem Tryz.strings_FieldsFunc_runes (g : Nat) (lb : Array Value) (eg : ∀ args w, (callFunc g args).run Tryz.prog w = .ok (.enter g args) w) (p : Nat → Bool) (s : ByteArray) (w : World) (hs : s.size ≤ 4294967296) (hp : PredAtRunes Tryz.prog g lb p w) :
    Calls Tryz.prog 77 #[.string s, .func (.func g) #[] lb] w fun e w' => ∃ A, e = .returned (.slice (some ⟨A, 0, none⟩) (Lib.goFieldsP p s).length (Lib.goFieldsP p s).length) ∧ w.heap.size ≤ A ∧
      w'.ownsRow w.heap.size 9 1 (.slice (some ⟨A, 0, none⟩) (Lib.goFieldsP p s).length (Lib.goFieldsP p s).length) (Lib.goFieldsP p s).length ((Lib.goFieldsP p s).map Value.string) ∧ Below w.heap.size w w' := Any.strings_FieldsFunc_runes Tryz.lays229 g lb eg p s w hs hp (by kernel_rfl) (by kernel_rfl)
open Go.RowKit Go.Lib in
theorem Tryz.strings_FieldsFunc (g : Nat) (lb : Array Value) (eg : ∀ args w, (callFunc g args).run Tryz.prog w = .ok (.enter g args) w) (p : Nat → Bool) (s : ByteArray) (w : World) (hs : s.size ≤ 4294967296) (hp : PredAt Tryz.prog g lb encR p w) :
    Calls Tryz.prog 77 #[.string s, .func (.func g) #[] lb] w fun e w' => ∃ A, e = .returned (.slice (some ⟨A, 0, none⟩) (Lib.goFieldsP p s).length (Lib.goFieldsP p s).length) ∧ w.heap.size ≤ A ∧
      w'.ownsRow w.heap.size 9 1 (.slice (some ⟨A, 0, none⟩) (Lib.goFieldsP p s).length (Lib.goFieldsP p s).length) (Lib.goFieldsP p s).length ((Lib.goFieldsP p s).map Value.string) ∧ Below w.heap.size w w' := Any.strings_FieldsFunc Tryz.lays229 g lb eg p s w hs hp (by kernel_rfl) (by kernel_rfl)
def Tryz.keys69_ren : Go.Shelf.Ren := ⟨fun | 7 => 69 | 10 => 86 | n => n, fun | 23 => 67 | 26 => 9 | 3 => 70 | 28 => 120 | 0 => 0 | 27 => 119 | 33 => 38 | 4 => 4 | n => n, fun | n => n⟩
theorem Tryz.keys69 : Go.Proofs.SlLaysZ.n7 Tryz.prog Tryz.keys69_ren := {
  mixed := by kernel_rfl
  f7 := ⟨Tryz.f69.name, by decide, Tryz.func69.trans (congrArg some (by kernel_rfl))⟩
  f10 := ⟨Tryz.f86.name, by decide, Tryz.func86.trans (congrArg some (by kernel_rfl))⟩
  t0 := Tryz.underlying0
  a0 := Tryz.isAgg0
  z0 := Tryz.sizeOf0
  v0 := Tryz.zeroValue0
  t4 := Tryz.underlying4
  a4 := Tryz.isAgg4
  z4 := Tryz.sizeOf4
  v4 := Tryz.zeroValue4
  t23 := Tryz.underlying67
  a23 := Tryz.isAgg67
  z23 := Tryz.sizeOf67
  v23 := Tryz.zeroValue67
  t26 := Tryz.underlying9
  a26 := Tryz.isAgg9
  z26 := Tryz.sizeOf9
  v26 := Tryz.zeroValue9
  t27 := Tryz.underlying119
  a27 := Tryz.isAgg119
  z27 := Tryz.sizeOf119
  v27 := Tryz.zeroValue119
  t28 := Tryz.underlying120
  a28 := Tryz.isAgg120
  z28 := Tryz.sizeOf120
  v28 := Tryz.zeroValue120
  t33 := Tryz.underlying38
  a33 := Tryz.isAgg38
  z33 := Tryz.sizeOf38
  v33 := Tryz.zeroValue38 }
def Tryz.sorted68_ren : Go.Shelf.Ren := ⟨fun | 6 => 68 | 8 => 84 | 9 => 85 | 11 => 91 | 13 => 93 | 12 => 92 | 23 => 106 | 24 => 107 | 14 => 97 | 15 => 98 | 16 => 99 | 17 => 100 | 18 => 101 | 19 => 102 | 20 => 103 | 21 => 104 | 22 => 105 | 25 => 109 | 26 => 110 | 27 => 111 | 28 => 112 | 29 => 113 | 30 => 114 | 31 => 115 | n => n, fun | 26 => 9 | 28 => 120 | 24 => 97 | 0 => 0 | 3 => 3 | 37 => 137 | 48 => 160 | 50 => 84 | 4 => 4 | 40 => 153 | 39 => 152 | 45 => 80 | 5 => 5 | 9 => 9 | 51 => 163 | 55 => 167 | 57 => 169 | 58 => 170 | 33 => 38 | n => n, fun | n => n⟩
theorem Tryz.sorted68 : Go.Proofs.SlLaysZ.n6 Tryz.prog Tryz.sorted68_ren := {
  mixed := by kernel_rfl
  f6 := ⟨Tryz.f68.name, by decide, Tryz.func68.trans (congrArg some (by kernel_rfl))⟩
  f8 := ⟨Tryz.f84.name, by decide, Tryz.func84.trans (congrArg some (by kernel_rfl))⟩
  f11 := ⟨Tryz.f91.name, by decide, Tryz.func91.trans (congrArg some (by kernel_rfl))⟩
  t0 := Tryz.underlying0
  a0 := Tryz.isAgg0
  z0 := Tryz.sizeOf0
  v0 := Tryz.zeroValue0
  t24 := Tryz.underlying97
  a24 := Tryz.isAgg97
  z24 := Tryz.sizeOf97
  v24 := Tryz.zeroValue97
  t26 := Tryz.underlying9
  a26 := Tryz.isAgg9
  z26 := Tryz.sizeOf9
  v26 := Tryz.zeroValue9
  t28 := Tryz.underlying120
  a28 := Tryz.isAgg120
  z28 := Tryz.sizeOf120
  v28 := Tryz.zeroValue120
  i26 := by kernel_rfl }
def Tryz.sort85_ren : Go.Shelf.Ren := ⟨fun | 6 => 85 | 8 => 93 | 9 => 92 | 19 => 106 | 20 => 107 | 21 => 97 | 22 => 98 | 23 => 99 | 24 => 100 | 25 => 101 | 26 => 102 | 27 => 103 | 28 => 104 | 29 => 105 | 36 => 109 | 31 => 110 | 32 => 111 | 37 => 112 | 38 => 113 | 39 => 114 | 41 => 115 | n => n, fun | 27 => 97 | 29 => 9 | 3 => 3 | 32 => 137 | 26 => 97 | 0 => 0 | 44 => 160 | 46 => 84 | 4 => 4 | 36 => 153 | 35 => 152 | 41 => 80 | 5 => 5 | 9 => 9 | 53 => 163 | 57 => 167 | 63 => 169 | 64 => 170 | n => n, fun | n => n⟩
theorem Tryz.sort85 : Go.Proofs.SlLaysM.n6 Tryz.prog Tryz.sort85_ren := {
  mixed := by kernel_rfl
  f6 := ⟨Tryz.f85.name, by decide, Tryz.func85.trans (congrArg some (by kernel_rfl))⟩
  f8 := Tryz.func93.trans (congrArg some (by kernel_rfl))
  f9 := ⟨Tryz.f92.name, by decide, Tryz.func92.trans (congrArg some (by kernel_rfl))⟩
  f19 := Tryz.func106.trans (congrArg some (by kernel_rfl))
  f20 := Tryz.func107.trans (congrArg some (by kernel_rfl))
  f21 := ⟨Tryz.f97.name, by decide, Tryz.func97.trans (congrArg some (by kernel_rfl))⟩
  f22 := ⟨Tryz.f98.name, by decide, Tryz.func98.trans (congrArg some (by kernel_rfl))⟩
  f23 := ⟨Tryz.f99.name, by decide, Tryz.func99.trans (congrArg some (by kernel_rfl))⟩
  f24 := ⟨Tryz.f100.name, by decide, Tryz.func100.trans (congrArg some (by kernel_rfl))⟩
  f25 := ⟨Tryz.f101.name, by decide, Tryz.func101.trans (congrArg some (by kernel_rfl))⟩
  f26 := ⟨Tryz.f102.name, by decide, Tryz.func102.trans (congrArg some (by kernel_rfl))⟩
  f27 := ⟨Tryz.f103.name, by decide, Tryz.func103.trans (congrArg some (by kernel_rfl))⟩
  f28 := ⟨Tryz.f104.name, by decide, Tryz.func104.trans (congrArg some (by kernel_rfl))⟩
  f29 := ⟨Tryz.f105.name, by decide, Tryz.func105.trans (congrArg some (by kernel_rfl))⟩
  f31 := Tryz.func110.trans (congrArg some (by kernel_rfl))
  f32 := Tryz.func111.trans (congrArg some (by kernel_rfl))
  f36 := ⟨Tryz.f109.name, by decide, Tryz.func109.trans (congrArg some (by kernel_rfl))⟩
  f37 := ⟨Tryz.f112.name, by decide, Tryz.func112.trans (congrArg some (by kernel_rfl))⟩
  f38 := ⟨Tryz.f113.name, by decide, Tryz.func113.trans (congrArg some (by kernel_rfl))⟩
  f39 := ⟨Tryz.f114.name, by decide, Tryz.func114.trans (congrArg some (by kernel_rfl))⟩
  f41 := ⟨Tryz.f115.name, by decide, Tryz.func115.trans (congrArg some (by kernel_rfl))⟩
  t0 := Tryz.underlying0
  a0 := Tryz.isAgg0
  z0 := Tryz.sizeOf0
  v0 := Tryz.zeroValue0
  t3 := Tryz.underlying3
  a3 := Tryz.isAgg3
  z3 := Tryz.sizeOf3
  v3 := Tryz.zeroValue3
  t4 := Tryz.underlying4
  a4 := Tryz.isAgg4
  z4 := Tryz.sizeOf4
  v4 := Tryz.zeroValue4
  t5 := Tryz.underlying5
  a5 := Tryz.isAgg5
  z5 := Tryz.sizeOf5
  v5 := Tryz.zeroValue5
  t9 := Tryz.underlying9
  a9 := Tryz.isAgg9
  z9 := Tryz.sizeOf9
  v9 := Tryz.zeroValue9
  t26 := Tryz.underlying97
  a26 := Tryz.isAgg97
  z26 := Tryz.sizeOf97
  v26 := Tryz.zeroValue97
  t27 := Tryz.underlying97
  a27 := Tryz.isAgg97
  z27 := Tryz.sizeOf97
  v27 := Tryz.zeroValue97
  t29 := Tryz.underlying9
  a29 := Tryz.isAgg9
  z29 := Tryz.sizeOf9
  v29 := Tryz.zeroValue9
  t32 := Tryz.underlying137
  a32 := Tryz.isAgg137
  z32 := Tryz.sizeOf137
  v32 := Tryz.zeroValue137
  t35 := Tryz.underlying152
  a35 := Tryz.isAgg152
  z35 := Tryz.sizeOf152
  v35 := Tryz.zeroValue152
  t36 := Tryz.underlying153
  a36 := Tryz.isAgg153
  z36 := Tryz.sizeOf153
  v36 := Tryz.zeroValue153
  t41 := Tryz.underlying80
  a41 := Tryz.isAgg80
  z41 := Tryz.sizeOf80
  v41 := Tryz.zeroValue80
  t44 := Tryz.underlying160
  a44 := Tryz.isAgg160
  z44 := Tryz.sizeOf160
  v44 := Tryz.zeroValue160
  t46 := Tryz.underlying84
  a46 := Tryz.isAgg84
  z46 := Tryz.sizeOf84
  v46 := Tryz.zeroValue84
  t53 := Tryz.underlying163
  a53 := Tryz.isAgg163
  z53 := Tryz.sizeOf163
  v53 := Tryz.zeroValue163
  t57 := Tryz.underlying167
  a57 := Tryz.isAgg167
  z57 := Tryz.sizeOf167
  v57 := Tryz.zeroValue167
  t63 := Tryz.underlying169
  a63 := Tryz.isAgg169
  z63 := Tryz.sizeOf169
  v63 := Tryz.zeroValue169
  t64 := Tryz.underlying170
  a64 := Tryz.isAgg170
  z64 := Tryz.sizeOf170
  v64 := Tryz.zeroValue170 }
open Go.RowKit Go.Maps Go.Sort in
theorem Tryz.sorts68 (m : Nat) : AnyZ.SortsIn Tryz.prog Tryz.sorted68_ren Fence.wide m :=
  ⟨fun blk off cap ss W hH hblk hsz => callsIn_wide.2 (AnyM.slices_Sort_string Tryz.sort85 blk off cap ss W hH hblk hsz),
   fun p cap W => callsIn_wide.2 (AnyM.slices_Sort_string_none Tryz.sort85 p cap W)⟩
open Go.RowKit Go.Maps Go.Sort in
theorem Tryz.maps_Keys_69 (mb : Option Nat) (W : World) : CallsIn Fence.wide 5 Tryz.prog 69 #[.map mb] W fun e w' => e = .returned (.func (.func 86) #[] #[.pointer (some ⟨W.heap.size, 0, none⟩)]) ∧ w' = W.alloc (.cells #[.map mb] 67) :=
  AnyZ.keys_in Tryz.keys69 Fence.wide 5 trivial rfl mb W
open Go.RowKit Go.Maps Go.Sort in
theorem Tryz.slices_Sorted_keys_68_69 {H : Type} (b nn : Nat) (D0 : DataW H) (R : Value → Option (DataW H × List MemPlace)) (w : World) (hown : w.ownsMap Tryz.prog 9 R b nn D0) (hmax : Maps.size D0 ≤ maxLen) (hbytes : Maps.size D0 * 16 ≤ 140737488355328) :
    CallsIn Fence.wide 5 Tryz.prog 68 #[.func (.func 86) #[] #[.pointer (some ⟨w.heap.size, 0, none⟩)]] (w.alloc (.cells #[.map (some b)] 67)) fun e w' => ∃ (v : Value) (ss : List (List UInt8)), e = .returned v ∧ ss.Perm (strKeys D0) ∧
      w'.ownsRow (w.alloc (.cells #[.map (some b)] 67)).heap.size 9 1 v ss.length ((ss.mergeSort (fun x y => decide (x ≤ y))).map encStr) ∧ (v = .slice none 0 0 ↔ ss = []) ∧ Below (w.alloc (.cells #[.map (some b)] 67)).heap.size (w.alloc (.cells #[.map (some b)] 67)) w' := by
  have hbl := hown.lt
  have hseq : SeqGives Fence.wide 2 Tryz.prog 86 #[.pointer (some ⟨w.heap.size, 0, none⟩)] encStr (fun ss => ss.Perm (strKeys D0)) (Maps.size D0) (w.alloc (.cells #[.map (some b)] 67)) :=
    AnyZ.keys_gives (ρ := Tryz.keys69_ren) { Tryz.keys69 with } Fence.wide _ trivial rfl (by omega) w.heap.size b nn D0 _ (by simp) (by simp) (by
      obtain ⟨es, clock, hb, Ft, hs, hD⟩ := hown
      exact ⟨es, clock, (Below.heap_alloc _ _ b hbl).trans hb, Ft, hs, hD⟩)
  exact AnyZ.sorted_in Tryz.sorted68 Fence.wide 5 trivial trivial trivial trivial rfl (by omega) (Tryz.sorts68 _) (enters_of Tryz.func85 (by kernel_rfl) rfl) 86 #[.pointer (some ⟨w.heap.size, 0, none⟩)] trivial (enters_of Tryz.func86 (by kernel_rfl) rfl) _ _ hmax hbytes _ hseq
open Go.RowKit Go.Maps Go.Sort in
theorem Tryz.slices_Sorted_keys_nil_68_69 (w : World) :
    CallsIn Fence.wide 5 Tryz.prog 68 #[.func (.func 86) #[] #[.pointer (some ⟨w.heap.size, 0, none⟩)]] (w.alloc (.cells #[.map none] 67)) fun e w' => ∃ (v : Value) (ss : List (List UInt8)), e = .returned v ∧ ss = [] ∧
      w'.ownsRow (w.alloc (.cells #[.map none] 67)).heap.size 9 1 v ss.length ((ss.mergeSort (fun x y => decide (x ≤ y))).map encStr) ∧ (v = .slice none 0 0 ↔ ss = []) ∧ Below (w.alloc (.cells #[.map none] 67)).heap.size (w.alloc (.cells #[.map none] 67)) w' := by
  have hseq : SeqGives Fence.wide 2 Tryz.prog 86 #[.pointer (some ⟨w.heap.size, 0, none⟩)] encStr (fun ss : List (List UInt8) => ss = []) 0 (w.alloc (.cells #[.map none] 67)) :=
    AnyZ.keys_gives_nil (ρ := Tryz.keys69_ren) { Tryz.keys69 with } Fence.wide _ trivial rfl w.heap.size _ (by simp) (by simp)
  exact AnyZ.sorted_in Tryz.sorted68 Fence.wide 5 trivial trivial trivial trivial rfl (by omega) (Tryz.sorts68 _) (enters_of Tryz.func85 (by kernel_rfl) rfl) 86 #[.pointer (some ⟨w.heap.size, 0, none⟩)] trivial (enters_of Tryz.func86 (by kernel_rfl) rfl) _ 0 (Nat.zero_le _) (by omega) _ hseq
end Go.Proofs.YtjfnkjpnjiobjaaGreat
namespace Go.Proofs.YtjfnkjpnjiobjaaGreat
open Go.RowKit Go.Lib
def blank (b : UInt8) : Bool := b == 32 || b == 9 || b == 10 || b == 13
def blankR (r : Nat) : Bool := r == 32 || r == 9 || r == 10 || r == 13
theorem blank_nat (b : UInt8) : blank b = blankR b.toNat := by
  unfold blank blankR
  rw [Bool.eq_iff_iff]
  simp only [Bool.or_eq_true, beq_iff_eq, ← UInt8.toNat_inj]
  rfl
theorem blankR_high {r : Nat} (h : 128 ≤ r) : blankR r = false := by
  unfold blankR
  simp only [Bool.or_eq_false_iff, beq_eq_false_iff_ne]
  omega
def fieldsB : Option (List UInt8) → List UInt8 → List (List UInt8)
  | cur, [] => cur.toList
  | cur, b :: r => if blank b then cur.toList ++ fieldsB none r else fieldsB (some (cur.getD [] ++ [b])) r
theorem fieldsB_run (u : List UInt8) : ∀ (cur : Option (List UInt8)) (r : List UInt8), (∀ b ∈ u, blank b = false) → u ≠ [] → fieldsB cur (u ++ r) = fieldsB (some (cur.getD [] ++ u)) r := by
  induction u with
  | nil => intro _ _ _ h; exact absurd rfl h
  | cons b u ih =>
    intro cur r h _
    have hb := h b (by simp)
    rw [List.cons_append, fieldsB, if_neg (by simp [hb])]
    cases u with
    | nil => rfl
    | cons c u =>
      rw [ih _ r (fun x hx => h x (List.mem_cons_of_mem _ hx)) (by simp)]
      simp
theorem get_list (l : List UInt8) (i : Nat) : (⟨l.toArray⟩ : ByteArray).get! i = l.getD i 0 := by
  show l.toArray[i]! = _
  rw [List.getElem!_toArray, List.getElem!_eq_getElem?_getD, List.getD_eq_getElem?_getD]
  rfl
theorem dec_step (l : List UInt8) (pos : Nat) (h : pos < l.length) : ∃ r n, Utf8.decode ⟨l.toArray⟩ pos = (r, n) ∧ blank l[pos] = blankR r ∧ 1 ≤ n ∧ pos + n ≤ l.length ∧ (blankR r = true → n = 1) ∧ ∀ j, j < n → 0 < j → blank (l.getD (pos + j) 0) = false := by
  rw [decode_at]
  have e0 : (⟨l.toArray⟩ : ByteArray).get! pos = l[pos] := by rw [get_list]; simp [List.getD_eq_getElem?_getD, List.getElem?_eq_getElem h]
  rw [e0, get_list, get_list, get_list, str_size]
  have hb := blank_nat l[pos]
  have hb8 := l[pos].toNat_lt
  have hh : ∀ c : UInt8, c.toNat / 64 = 2 → blank c = false := fun c hc => by rw [blank_nat]; exact blankR_high (by omega)
  by_cases h0 : l[pos].toNat < 128
  · refine ⟨l[pos].toNat, 1, ?_, hb, Nat.le_refl _, by omega, fun _ => rfl, fun j h1 h2 => by omega⟩
    unfold decodeN
    rw [if_pos h0]
  · have hbf : blank l[pos] = false := by rw [hb]; exact blankR_high (by omega)
    rcases decodeN_shape (l.length - pos) l[pos].toNat (l.getD (pos + 1) 0).toNat (l.getD (pos + 2) 0).toNat (l.getD (pos + 3) 0).toNat with ⟨c, e⟩ | ⟨c1, c2, c3, cv, e⟩ | ⟨c1, c2, c3, c4, cv, cs, e⟩ | ⟨c1, c2, c3, c4, c5, cv, cw, e⟩ | e
    · omega
    · have hr := blankR_high cv
      refine ⟨_, 2, e, by rw [hbf, hr], by omega, by omega, fun h => (by rw [hr] at h; cases h), fun j h1 h2 => ?_⟩
      obtain rfl : j = 1 := by omega
      exact hh _ c3
    · have hr := blankR_high (Nat.le_trans (by omega : 128 ≤ 2048) cv)
      refine ⟨_, 3, e, by rw [hbf, hr], by omega, by omega, fun h => (by rw [hr] at h; cases h), fun j h1 h2 => ?_⟩
      have : j = 1 ∨ j = 2 := by omega
      rcases this with rfl | rfl
      · exact hh _ c3
      · exact hh _ c4
    · have hr := blankR_high (Nat.le_trans (by omega : 128 ≤ 65536) cv)
      refine ⟨_, 4, e, by rw [hbf, hr], by omega, by omega, fun h => (by rw [hr] at h; cases h), fun j h1 h2 => ?_⟩
      have : j = 1 ∨ j = 2 ∨ j = 3 := by omega
      rcases this with rfl | rfl | rfl
      · exact hh _ c3
      · exact hh _ c4
      · exact hh _ c5
    · have hr : blankR 65533 = false := rfl
      exact ⟨_, 1, e, by rw [hbf, hr], Nat.le_refl _, by omega, fun h => rfl, fun j h1 h2 => by omega⟩
theorem extr (l : List UInt8) (a b : Nat) : (⟨l.toArray⟩ : ByteArray).extract a b = ⟨((l.drop a).take (b - a)).toArray⟩ := by
  apply ByteArray.ext
  simp [List.extract_eq_take_drop]
theorem spans_eq (l : List UInt8) : ∀ (f pos : Nat) (st : Option Nat) (acc : List (Nat × Nat)), pos ≤ l.length → l.length - pos ≤ f → (∀ a, st = some a → a ≤ pos) →
    (closeSpans ⟨l.toArray⟩ (spansFromP blankR ⟨l.toArray⟩ f pos st acc)).map (fun x => (l.drop x.1).take (x.2 - x.1)) = acc.map (fun x => (l.drop x.1).take (x.2 - x.1)) ++ fieldsB (st.map fun a => (l.drop a).take (pos - a)) (l.drop pos) := by
  intro f
  induction f with
  | zero =>
    intro pos st acc h1 h2 h3
    have he : l.drop pos = [] := List.drop_eq_nil_of_le (by omega)
    rw [he]
    cases st with
    | none => simp [spansFromP, closeSpans, fieldsB]
    | some a =>
      have : pos = l.length := by omega
      simp [spansFromP, closeSpans, fieldsB, str_size, this]
  | succ f ih =>
    intro pos st acc h1 h2 h3
    by_cases hlt : pos < l.length
    · obtain ⟨r, n, hd, hb, hn1, hn2, hn3, hrest⟩ := dec_step l pos hlt
      unfold spansFromP
      rw [str_size, if_pos hlt, hd]
      dsimp only
      have hdr := List.drop_eq_getElem_cons hlt
      by_cases hp : blankR r = true
      · have hn := hn3 hp
        subst hn
        rw [if_pos hp]
        have hfb : ∀ cur, fieldsB cur (l.drop pos) = cur.toList ++ fieldsB none (l.drop (pos + 1)) := fun cur => by rw [hdr, fieldsB, if_pos (by rw [hb]; exact hp)]
        cases st with
        | none =>
          dsimp only
          rw [ih _ _ _ hn2 (by omega) (fun a h => by cases h), hfb]
          rfl
        | some a =>
          dsimp only
          rw [ih _ _ _ hn2 (by omega) (fun a h => by cases h), hfb]
          simp
      · rw [if_neg hp]
        have hp : blankR r = false := by simpa using hp
        have hu : l.drop pos = (l.drop pos).take n ++ l.drop (pos + n) := by rw [← List.drop_drop, List.take_append_drop]
        have hall : ∀ b ∈ (l.drop pos).take n, blank b = false := by
          intro b hbm
          obtain ⟨j, hj, rfl⟩ := List.getElem_of_mem hbm
          have hjn : j < n := by rw [List.length_take] at hj; omega
          have hjl : pos + j < l.length := by omega
          rw [List.getElem_take, List.getElem_drop]
          by_cases hj0 : j = 0
          · subst hj0; simpa [hp] using hb
          · have := hrest j hjn (by omega)
            rw [List.getD_eq_getElem?_getD, List.getElem?_eq_getElem hjl] at this
            exact this
        have hne : (l.drop pos).take n ≠ [] := fun h => by
          have := congrArg List.length h
          rw [List.length_take, List.length_drop, List.length_nil] at this
          omega
        have hfb : ∀ cur, fieldsB cur (l.drop pos) = fieldsB (some (cur.getD [] ++ (l.drop pos).take n)) (l.drop (pos + n)) := fun cur => by
          conv => lhs; rw [hu]
          exact fieldsB_run _ cur _ hall hne
        cases st with
        | none =>
          dsimp only
          rw [ih _ _ _ hn2 (by omega) (fun a h => by cases h; omega), hfb]
          simp
        | some a =>
          have ha := h3 a rfl
          dsimp only
          rw [ih _ _ _ hn2 (by omega) (fun a' h => by cases h; omega), hfb]
          simp only [Option.map_some, Option.getD_some]
          rw [show pos + n - a = (pos - a) + n from by omega, List.take_add, List.drop_drop, show a + (pos - a) = pos from by omega]
    · have he : l.drop pos = [] := List.drop_eq_nil_of_le (by omega)
      rw [spansFromP_end _ _ _ _ _ _ (by rw [str_size]; exact hlt), he]
      cases st with
      | none => simp [closeSpans, fieldsB]
      | some a =>
        have : pos = l.length := by omega
        simp [closeSpans, fieldsB, str_size, this]
/-- The text, squeezed. -/
def sq (l : List UInt8) : List UInt8 := Lib.join (fieldsB none l) [32]
theorem fields_eq (l : List UInt8) : (goFieldsP blankR ⟨l.toArray⟩).map (fun x => x.data.toList) = fieldsB none l := by
  have := spans_eq l l.length 0 none [] (Nat.zero_le _) (by omega) (fun a h => by cases h)
  simp only [List.map_nil, List.nil_append, Option.map_none, List.drop_zero] at this
  rw [← this]
  unfold goFieldsP spansOfP
  rw [List.map_map, str_size]
  apply List.map_congr_left
  intro x _
  show ((⟨l.toArray⟩ : ByteArray).extract x.1 x.2).data.toList = _
  rw [extr]
/-- The document's way: byte by byte. -/
def sqStep (s : List UInt8 × Bool) (c : UInt8) : List UInt8 × Bool :=
  if blank c then (s.1, decide (0 < s.1.length)) else (if s.2 then s.1 ++ [32] ++ [c] else s.1 ++ [c], false)
theorem join_snoc (xs : List (List UInt8)) (x : List UInt8) (h : xs ≠ []) (sep : List UInt8) : Lib.join (xs ++ [x]) sep = Lib.join xs sep ++ sep ++ x := by
  obtain ⟨y, r, rfl⟩ := List.exists_cons_of_ne_nil h
  rw [List.cons_append, Lib.join_cons, Lib.join_cons]
  unfold Lib.joinTail
  simp
theorem join_grow (xs : List (List UInt8)) (x y : List UInt8) (sep : List UInt8) : Lib.join (xs ++ [x ++ y]) sep = Lib.join (xs ++ [x]) sep ++ y := by
  cases xs with
  | nil => simp [Lib.join_one]
  | cons a r => rw [join_snoc _ _ (by simp), join_snoc _ _ (by simp)]; simp only [List.append_assoc]
theorem sq_steps : ∀ (r : List UInt8) (F : List (List UInt8)) (cur : Option (List UInt8)) (s : List UInt8 × Bool), (∀ x ∈ F, x ≠ []) → (∀ x, cur = some x → x ≠ []) → s.1 = Lib.join (F ++ cur.toList) [32] → s.2 = (cur.isNone && !F.isEmpty) →
    (r.foldl sqStep s).1 = Lib.join (F ++ fieldsB cur r) [32] := by
  intro r
  induction r with
  | nil => intro F cur s _ _ h _; simpa [fieldsB] using h
  | cons c r ih =>
    intro F cur s hF hc h1 h2
    rw [List.foldl_cons]
    have hpos : ∀ G : List (List UInt8), G ≠ [] → (∀ x ∈ G, x ≠ []) → 0 < (Lib.join G [32]).length := fun G hG hne => by
      obtain ⟨y, t, rfl⟩ := List.exists_cons_of_ne_nil hG
      rw [Lib.join_cons, List.length_append]
      have := List.length_pos_iff.2 (hne y (by simp))
      omega
    by_cases hb : blank c = true
    · unfold sqStep
      rw [if_pos hb, fieldsB, if_pos hb, ← List.append_assoc]
      have hne : ∀ x ∈ F ++ cur.toList, x ≠ [] := fun x hx => by
        rcases List.mem_append.1 hx with hx | hx
        · exact hF x hx
        · exact hc x (by simpa using hx)
      refine ih (F ++ cur.toList) none _ hne (fun x hx => by cases hx) (by simpa using h1) ?_
      dsimp only
      rw [h1]
      by_cases he : F ++ cur.toList = []
      · rw [he]; simp [Lib.join_nil]
      · have := hpos _ he hne
        simp only [Option.isNone_none, Bool.true_and]
        cases hE : (F ++ cur.toList) with
        | nil => exact absurd hE he
        | cons a t => rw [hE] at this; simpa using this
    · have hb' : blank c = false := by simpa using hb
      unfold sqStep
      rw [if_neg hb, fieldsB, if_neg hb]
      refine ih F (some (cur.getD [] ++ [c])) _ hF (fun x hx => by cases hx; simp) ?_ (by simp)
      dsimp only
      rw [h2, h1]
      cases cur with
      | some x =>
        simp only [Option.isNone_some, Bool.false_and, Bool.false_eq_true, if_false, Option.toList_some, Option.getD_some]
        exact (join_grow F x [c] [32]).symm
      | none =>
        cases F with
        | nil => simp [Lib.join_nil, Lib.join_one]
        | cons a t =>
          simp only [Option.isNone_none, List.isEmpty_cons, Bool.not_false, Bool.and_true, if_true, Option.toList_none, List.append_nil, Option.toList_some, Option.getD_none, List.nil_append]
          exact (join_snoc _ _ (by simp) _).symm
theorem sq_doc (l : List UInt8) : (l.foldl sqStep ([], false)).1 = sq l := by
  have := sq_steps l [] none ([], false) (by simp) (by simp) rfl rfl
  simpa [sq] using this
end Go.Proofs.YtjfnkjpnjiobjaaGreat
namespace Go.Proofs.YtjfnkjpnjiobjaaGreat
open Go.RowKit
theorem below_only0 {w w' : World} (h : Below w.heap.size w w') : Only [] w w' := ⟨h.os, h.tape, h.output, h.size, fun k hk _ => h.block k hk⟩
theorem sq_len (l : List UInt8) : (sq l).length ≤ 2 * l.length := by
  rw [← sq_doc]
  have : ∀ (r : List UInt8) (s : List UInt8 × Bool), (r.foldl sqStep s).1.length ≤ s.1.length + 2 * r.length := by
    intro r
    induction r with
    | nil => intro s; simp
    | cons c r ih =>
      intro s
      rw [List.foldl_cons]
      have h1 := ih (sqStep s c)
      have h2 : (sqStep s c).1.length ≤ s.1.length + 2 := by
        unfold sqStep
        split
        · show s.1.length ≤ _; omega
        · show (if s.2 = true then s.1 ++ [32] ++ [c] else s.1 ++ [c]).length ≤ _; split <;> simp
      simp only [List.length_cons]
      omega
  simpa using this l ([], false)
theorem toNat_byte17 (x : Nat) (h : x < 256) : (UInt8.ofNat x).toNat = x := by
  rw [UInt8.toNat_ofNat']; omega
theorem index_blank (b : UInt8) : Lib.indexByte [32, 9, 10, 13] b < 0 ↔ blank b = false := by
  unfold blank
  by_cases h0 : b = 32
  · subst h0; decide
  by_cases h1 : b = 9
  · subst h1; decide
  by_cases h2 : b = 10
  · subst h2; decide
  by_cases h3 : b = 13
  · subst h3; decide
  have e : ∀ k : UInt8, ¬ b = k → ¬ k = b := fun k h e => h e.symm
  simp [Lib.indexByte, h0, h1, h2, h3, e 32 h0, e 9 h1, e 10 h2, e 13 h3]
set_option maxRecDepth 100000 in
theorem squeeze1 (x : Nat) (hx : x ≤ 1114111) (W : World) : Calls Tryz.prog 78 #[.int .i32 x] W fun e w' => e = .returned (.bool (blankR x)) ∧ w' = W := by
  by_cases h : x < 128
  · have d1 : decide ((x : Int) < 128) = true := by simp; omega
    have hb : ((UInt8.ofNat x).toNat : Int) = x := by rw [toNat_byte17 _ (by omega)]
    have hbl := blank_nat (UInt8.ofNat x)
    rw [toNat_byte17 _ (by omega)] at hbl
    have CI := Lib.hid (fun w' => Tryz.strings_IndexByte ⟨#[32, 9, 10, 13]⟩ x w')
    go_enter Tryz.func78, Tryz.ntmps78
    go_wp2_with fail
    refine (CI.out _).mono ?_
    rintro e w' ⟨rfl, rfl⟩
    have hI := index_blank (UInt8.ofNat x)
    rw [hbl] at hI
    rw [show ((x : Int)).toNat.toUInt8 = UInt8.ofNat x from rfl]
    obtain ⟨I, hIe⟩ : ∃ I, Lib.indexByte [32, 9, 10, 13] (UInt8.ofNat x) = I := ⟨_, rfl⟩
    rw [hIe] at hI ⊢
    have hd : decide (0 ≤ I) = blankR x := by
      cases hb : blankR x with
      | true => rw [hb] at hI; have : ¬ I < 0 := fun h => by cases hI.1 h
                simp; omega
      | false => rw [hb] at hI; have : I < 0 := hI.2 rfl
                 simp; omega
    clear hI hIe hbl hb
    go_wp2_with fail
    go_ret
    exact ⟨by rw [← hd]; rfl, rfl⟩
  · have d1 : decide ((x : Int) < 128) = false := by simp; omega
    have hr := blankR_high (r := x) (by omega)
    go_enter Tryz.func78, Tryz.ntmps78
    go_wp2_with fail
    go_ret
    exact ⟨by rw [hr]; rfl, rfl⟩
theorem fieldsB_len : ∀ (l : List UInt8) (cur : Option (List UInt8)), (fieldsB cur l).length ≤ l.length + cur.toList.length := by
  intro l
  induction l with
  | nil => intro cur; simp [fieldsB]
  | cons b r ih =>
    intro cur
    unfold fieldsB
    split
    · have := ih none
      rw [List.length_append]
      simp at this ⊢
      omega
    · have := ih (some (cur.getD [] ++ [b]))
      simp at this ⊢
      omega
theorem enters_sq : ∀ args w, (callFunc 78 args).run Tryz.prog w = .ok (.enter 78 args) w := fun args w => enters_of Tryz.func78 (by kernel_rfl) rfl args w
set_option maxRecDepth 100000 in
theorem tree_squeeze (l : List UInt8) (w : World) (hl : l.length ≤ 4294967296) :
    Calls Tryz.prog 58 #[.string ⟨l.toArray⟩] w fun e w' => e = .returned (.string ⟨(sq l).toArray⟩) ∧ Only [] w w' := by
  have hp : PredAtRunes Tryz.prog 78 #[] blankR w := fun W x hx _ => (squeeze1 x hx W).mono fun e w' ⟨h1, h2⟩ => ⟨h1, 0, h2⟩
  have CF := Lib.hid (Tryz.strings_FieldsFunc_runes 78 #[] enters_sq blankR ⟨l.toArray⟩ w hl hp)
  have hfe := fields_eq l
  obtain ⟨xs, hxs⟩ : ∃ xs, Lib.goFieldsP blankR ⟨l.toArray⟩ = xs := ⟨_, rfl⟩
  rw [hxs] at CF hfe
  have hjn : Lib.join (xs.map (·.data.toList)) [32] = sq l := by rw [hfe]; rfl
  have hsl := sq_len l
  have hxl : xs.length ≤ l.length + 0 := by rw [← List.length_map (f := fun x : ByteArray => x.data.toList), hfe]; exact fieldsB_len l none
  clear hp hxs hfe
  go_enter Tryz.func58, Tryz.ntmps58
  go_wp2_with fail
  refine CF.out.mono ?_
  rintro e w1 ⟨A, rfl, hA, hown, hb⟩
  have HB := Lib.hid (Only.of_below (S := []) hb)
  have hcells : ∀ (j : Nat) x, xs[j]? = some x → w1.cell? ⟨A, 0 + j, none⟩ = some (.string x) := fun j x hx => by
    have := hown.cells (g := A) rfl j (.string x) (by rw [List.getElem?_map, hx]; rfl)
    rw [Addr.add_lit] at this
    exact this
  have hAl := (hown.lt A rfl).2
  have hN : xs.length ≤ 140737488355328 := by omega
  have CJ := Lib.hid (Tryz.strings_Join A 0 xs.length xs ⟨#[32]⟩ w1 hcells hAl hN (Nat.le_refl _) (by rw [show (⟨#[32]⟩ : ByteArray).data.toList = [32] from rfl, hjn]; omega))
  rw [show (⟨#[32]⟩ : ByteArray).data.toList = [32] from rfl, hjn] at CJ
  clear hcells hown hb
  go_wp2_with fail
  refine CJ.out.mono ?_
  rintro e w2 ⟨rfl, hb2⟩
  have HB2 := Lib.hid (HB.out.tr (Only.of_below (S := []) hb2))
  go_wp2_with fail
  go_ret
  exact ⟨rfl, HB2.out⟩
theorem ref12_blank (b : UInt8) (w : World) : Calls Tryz.prog 80 #[.int .u8 b.toNat] w fun e w' => e = .returned (.bool (blank b)) ∧ w = w' := by
  have hb := blank_nat b
  have hb8 := b.toNat_lt
  unfold blankR at hb
  obtain ⟨n, hn⟩ : ∃ n, b.toNat = n := ⟨_, rfl⟩
  rw [hn] at hb hb8 ⊢
  by_cases h0 : n = 32
  · subst h0
    go_enter Tryz.func80, Tryz.ntmps80
    go_wp2_with fail
    go_ret
    exact ⟨by rw [hb]; rfl, rfl⟩
  by_cases h1 : n = 9
  · subst h1
    go_enter Tryz.func80, Tryz.ntmps80
    go_wp2_with fail
    go_ret
    exact ⟨by rw [hb]; rfl, rfl⟩
  by_cases h2 : n = 10
  · subst h2
    go_enter Tryz.func80, Tryz.ntmps80
    go_wp2_with fail
    go_ret
    exact ⟨by rw [hb]; rfl, rfl⟩
  have d0 : ((n : Int) == 32) = false := by simp; omega
  have d1 : ((n : Int) == 9) = false := by simp; omega
  have d2 : ((n : Int) == 10) = false := by simp; omega
  have hb3 : blank b = ((n : Int) == 13) := by
    rw [hb, Bool.eq_iff_iff]; simp; omega
  obtain ⟨z, hz⟩ : ∃ z, blank b = z := ⟨_, rfl⟩
  rw [hz] at hb3 ⊢
  clear hb hz
  go_enter Tryz.func80, Tryz.ntmps80
  go_wp2_with fail
  go_ret
  exact ⟨by rw [hb3]; rfl, rfl⟩
set_option maxRecDepth 100000 in
theorem conv_row_back {w : World} {B : Nat} {l : List UInt8} {A : Option Addr} {c : Nat} (h : w.ownsRow B 5 1 (.slice A l.length c) l.length (bytes l)) :
    (convert 36 9 (.slice A l.length c)).run Tryz.prog w = .ok (.string ⟨l.toArray⟩) w := by
  rcases h.2 with ⟨h1, h2⟩ | ⟨g, cap, cur, hv, _⟩
  · injection h1 with e1 e2 e3
    subst e1 e3
    obtain rfl : l = [] := List.eq_nil_of_length_eq_zero h2
    kernel_rfl
  · injection hv with e1 e2 e3
    subst e1 e3
    refine run_convert_bytes_back _ _ _ _ _ _ l Tryz.underlying36 Tryz.underlying5 Tryz.underlying9 fun j hj => ?_
    exact h.cells (g := g) rfl j (.int .u8 (l[j].toNat : Int)) (by unfold bytes; rw [List.getElem?_map, List.getElem?_eq_getElem hj]; rfl)
set_option maxRecDepth 100000 in
set_option maxHeartbeats 1000000 in
theorem ref12_squeeze (l : List UInt8) (w : World) (hl : l.length ≤ 4294967296) :
    Calls Tryz.prog 59 #[.string ⟨l.toArray⟩] w fun e w' => e = .returned (.string ⟨(sq l).toArray⟩) ∧ Only [] w w' := by
  obtain ⟨i0, hi, hz0, hz1, hz2⟩ := info_parts info_byte
  have hdoc := Lib.hid (sq_doc l)
  have CB := Lib.hid (fun b w' => ref12_blank b w')
  go_enter Tryz.func59, Tryz.ntmps59
  go_wp2_with fail
  go_loopw [3, 4, 5] (fun v g i wr => ∃ (k : Nat) (st : List UInt8 × Bool), k ≤ l.length ∧ i = .int .i64 k ∧ Hid ((l.take k).foldl sqStep ([], false) = st) ∧ st.1.length ≤ 2 * k ∧ g = .bool st.2 ∧ wr.ownsRow w.heap.size 5 1 v st.1.length (bytes st.1) ∧ Only [] w wr) (fun _ _ i _ => l.length - (intOf i).toNat)
  case atStart => exact ⟨0, ([], false), by omega, rfl, Lib.hid rfl, by simp, rfl, World.ownsRow_nil _ _ _ _, Only.refl _ _⟩
  case round =>
    obtain ⟨k, ⟨b, g⟩, hk, rfl, hst, hsl, rfl, hown, ho⟩ := hrel
    have hsl : b.length ≤ 2 * k := hsl
    have hown : wr.ownsRow w.heap.size 5 1 u3 b.length (bytes b) := hown
    have hbl := bytes_length b
    have hsz1 : w.heap.size ≤ wr.heap.size := ho.size
    obtain ⟨VA, vc, rfl⟩ := (SlAt.of_own hown).shape
    by_cases hlt : k < l.length
    · have hlt' : decide ((k : Int) < (l.length : Int)) = true := by simp; omega
      have hk1 := List.getElem?_eq_getElem hlt
      obtain ⟨c, hc⟩ : ∃ c, l[k] = c := ⟨_, rfl⟩
      rw [hc] at hk1
      have hix : ∀ h : k < (⟨l.toArray⟩ : ByteArray).size, (⟨l.toArray⟩ : ByteArray)[k]'h = c := fun _ => hc
      have hc8 := c.toNat_lt
      have HT : Hid ((l.take (k + 1)).foldl sqStep ([], false) = sqStep (b, g) c) := by
        show _ = _
        rw [List.take_add_one, hk1, List.foldl_append, hst.out]; rfl
      clear hc hk1 hst
      go_wp2_with fail
      refine (CB.out c _).mono ?_
      rintro e w1 ⟨rfl, rfl⟩
      cases hb : blank c with
      | true =>
        have HT2 : Hid ((l.take (k + 1)).foldl sqStep ([], false) = (b, decide (0 < b.length))) := by
          show _ = _
          rw [HT.out]; unfold sqStep; rw [if_pos hb]
        have hdl : decide (0 < (b.length : Int)) = decide (0 < b.length) := by rw [Bool.eq_iff_iff]; simp
        obtain ⟨z, hz⟩ : ∃ z, decide (0 < b.length) = z := ⟨_, rfl⟩
        rw [hz] at HT2 hdl
        clear hb HT
        go_wp2_with fail
        go_roundw
        case rel => exact ⟨k + 1, (b, z), by omega, by go_num, HT2, by show b.length ≤ _; omega, by first | rfl | (rw [hz]), hown, ho⟩
        case measure => simp [intOf]; omega
      | false =>
        cases g with
        | false =>
          have HT2 : Hid ((l.take (k + 1)).foldl sqStep ([], false) = (b ++ [c], false)) := by
            show _ = _
            rw [HT.out]; unfold sqStep; rw [if_neg (by rw [hb]; simp)]; rfl
          clear hb HT
          go_wp2_with (at_builtin; go_loud (refine wpList_app rfl _ _ 36 rfl w.heap.size 5 i0 (.int .u8 0) 1 1 Tryz.underlying36 hi hz0 hz1 hz2 rfl (by decide) wr (.slice VA b.length vc) b.length (bytes b) rfl hown 1 1 [.int .u8 (c.toNat : Int)] rfl rfl (by simp [Value.oneCell']) (by unfold maxLen; omega) (by omega) hsz1 ?_))
          intro v' w2 hown' hgrow _
          go_wp2_with fail
          go_roundw
          case rel => exact ⟨k + 1, (b ++ [c], false), by omega, by go_num, HT2, by show (b ++ [c]).length ≤ _; simp; omega, rfl, by rw [List.length_append, bytes_append]; exact hown', (ho.own hown hgrow (Nat.le_refl _))⟩
          case measure => simp [intOf]; omega
        | true =>
          have HT2 : Hid ((l.take (k + 1)).foldl sqStep ([], false) = (b ++ [32] ++ [c], false)) := by
            show _ = _
            rw [HT.out]; unfold sqStep; rw [if_neg (by rw [hb]; simp)]; rfl
          clear hb HT
          go_wp2_with (at_builtin; go_loud (refine wpList_app rfl _ _ 36 rfl w.heap.size 5 i0 (.int .u8 0) 1 1 Tryz.underlying36 hi hz0 hz1 hz2 rfl (by decide) wr (.slice VA b.length vc) b.length (bytes b) rfl hown 1 1 [.int .u8 32] rfl rfl (by simp [Value.oneCell']) (by unfold maxLen; omega) (by omega) hsz1 ?_))
          intro v' w2 hown' hgrow _
          have hsz2 := (ho.own hown hgrow (Nat.le_refl _)).size
          obtain ⟨VB, vd, rfl⟩ := (SlAt.of_own hown').shape
          go_wp2_with (at_builtin; go_loud (refine wpList_app rfl _ _ 36 rfl w.heap.size 5 i0 (.int .u8 0) 1 1 Tryz.underlying36 hi hz0 hz1 hz2 rfl (by decide) w2 (.slice VB (b.length + 1) vd) (b.length + 1) (bytes b ++ [.int .u8 32]) rfl hown' 1 1 [.int .u8 (c.toNat : Int)] rfl rfl (by simp [Value.oneCell']) (by unfold maxLen; omega) (by omega) hsz2 ?_))
          intro v3 w3 hown3 hgrow3 _
          go_wp2_with fail
          go_roundw
          case rel => exact ⟨k + 1, (b ++ [32] ++ [c], false), by omega, by go_num, HT2, by show (b ++ [32] ++ [c]).length ≤ _; simp; omega, rfl, by rw [List.length_append, List.length_append, bytes_append, bytes_append, List.append_assoc]; exact hown3, ((ho.own hown hgrow (Nat.le_refl _)).own hown' hgrow3 (Nat.le_refl _))⟩
          case measure => simp [intOf]; omega
    · have hlt' : decide ((k : Int) < (l.length : Int)) = false := by simp; omega
      obtain rfl : k = l.length := by omega
      have hR : b = sq l := by
        have := hst.out
        rw [List.take_length] at this
        rw [← hdoc.out, this]
      have hcv : (convert 36 9 (.slice VA b.length vc)).run Tryz.prog wr = .ok (.string ⟨b.toArray⟩) wr := conv_row_back hown
      clear hst
      subst hR
      go_wp2_with fail
      go_ret
      exact ⟨rfl, ho⟩
end Go.Proofs.YtjfnkjpnjiobjaaGreat
