/-
  Rows and blocks, generally: helpers that name no type of the program but int.
-/
import Derived.Test.YtjfnkjpnjiobjaaRows
import Derived.Test.YtjfnkjpnjiobjaaRow
import Derived.Test.YtjfnkjpnjiobjaaOpen
import Derived.Test.YtjfnkjpnjiobjaaPend
import Derived.Test.YtjfnkjpnjiobjaaApp
import Derived.Test.YtjfnkjpnjiobjaaQTail
import Derived.Maps.AppendAt
import Derived.Deep.AppendLies
import Derived.Deep.RegionHeld3
import Derived.Deep.RegionLaw
import Derived.ArgAppend
import Derived.Lib.JoinLaws
import Derived.StillTailTactics
namespace Go.Proofs.Ytjfnkjpnjiobjaa
open Go.RowKit
def gvs (l : List Int) : List Value := l.map fun n => Value.int .i64 n
theorem gvs_length (l : List Int) : (gvs l).length = l.length := by simp [gvs]
theorem gvs_one (l : List Int) : ∀ u ∈ gvs l, u.oneCell' = true := by
  intro u hu
  obtain ⟨n, _, rfl⟩ := List.mem_map.1 hu
  rfl
theorem info_int : (Try.prog.info? 3).map (fun i => (i.zero, i.size, i.bytes)) = some (some (.int .i64 0), 1, 8) := by kernel_rfl
theorem gvs_cell {w : World} {B n : Nat} {v : Value} {l : List Int} (h : SlAt w B v 1 l.length (gvs l)) (hn : n < l.length) : ∃ b o c, v = .slice (some ⟨b, o, none⟩) l.length c ∧ w.cell? ⟨b, o + n, none⟩ = some (.int .i64 (l[n]'hn)) ∧ b < B := by
  obtain ⟨b, o, c, hv, hb, hc⟩ := h.at_ (by omega)
  exact ⟨b, o, c, hv, hc n _ (by simp [gvs, List.getElem?_eq_getElem hn]), hb⟩
/-- Appending a slice that came from anywhere to an own row. -/
theorem wpList_appX {P : Program} {ops : Array Oper} {rest : List Oper} {o : Oper} {a : Act} {Q : Exit → Act → World → Prop} (hgd : o.guard = none) (s x : Operand) (t : TypeId)
    (ho : o.op = .call { callee := .builtin .append, args := #[s, x], argTypes := #[t, t] })
    (base : Nat) (e : TypeId) (i : TypeInfo) (z : Value) (size bytes : Nat) (ht : P.underlying t = some (.slice e)) (hi : P.info? e = some i) (hz : i.zero = some z)
    (hsize : i.size = size) (hby : i.bytes = bytes) (hzs : z.cells.size = size) (hsz : 0 < size) (w : World)
    (v : Value) (n : Nat) (xs : List Value) (hs : a.eval s = v) (hown : w.ownsRow base e size v n xs)
    (B m : Nat) (cs : List Value) (A : Addr) (c : Nat) (hx : a.eval x = .slice (some A) m c) (hu : SlAt w B (.slice (some A) m c) size m cs) (h1 : ∀ u ∈ cs, u.oneCell' = true)
    (h63 : n + m ≤ maxLen) (hbytes : (n + m) * bytes ≤ 140737488355328) (hbase : base ≤ w.heap.size)
    (h : ∀ v' w', w'.ownsRow base e size v' (n + m) (xs ++ cs) → w.grownBy w' v.ownBlock → wpList P ops Q rest (a.put o.dst v') w') :
    wpList P ops Q (o :: rest) a w := by
  refine wpList_append_own _ hgd s x t ho base e i z size bytes ht hi hz hsize hby hzs hsz v n xs hs hown A m c cs hx hu.1 (fun j u hj => ?_) h1 h63 hbytes hbase fun v' w' h2 h3 h4 => h v' w' h2 h3
  have hlt : j < cs.length := (List.getElem?_eq_some_iff.1 hj).1
  have hl := hu.1
  obtain ⟨b, o', c', hv, hb, hc⟩ := hu.at_ (by omega)
  injection hv with hv
  injection hv with hv
  subst hv
  rw [Addr.add_lit]
  exact hc j u hj
def rb (v : Value) : List Nat := v.ownBlock.toList
theorem own_own_ne {w : World} {B B' : Nat} {e e' : TypeId} {sz sz' n n' : Nat} {v v' : Value} {xs xs' : List Value} (h : w.ownsRow B e sz v n xs) (h' : w.ownsRow B' e' sz' v' n' xs') (hne : e ≠ e') {g : Nat} (hg : v.ownBlock = some g) : v'.ownBlock ≠ some g := by
  intro hg'
  rcases h.2 with ⟨rfl, _⟩ | ⟨g1, cap, cur, rfl, _, hh, _⟩
  · simp [Value.ownBlock] at hg
  · rcases h'.2 with ⟨rfl, _⟩ | ⟨g2, cap2, cur2, rfl, _, hh2, _⟩
    · simp [Value.ownBlock] at hg'
    · simp only [Value.ownBlock, Option.some.injEq] at hg hg'
      subst hg; subst hg'
      rw [hh] at hh2
      injection hh2 with h1
      injection h1 with _ h2
      exact hne h2
/-- The new row is the old one, or one that was made since. -/
def NewOf (w : World) (v v' : Value) : Prop := ∀ g, v'.ownBlock = some g → v.ownBlock = some g ∨ w.heap.size ≤ g
theorem NewOf.refl (w : World) (v : Value) : NewOf w v v := fun _ h => .inl h
theorem NewOf.of_rb {w : World} {v v' : Value} (h : rb v' = rb v) : NewOf w v v' := fun g hg => .inl (by
  have : g ∈ rb v' := by simp [rb, hg]
  rw [h] at this
  simpa [rb] using this)
theorem wpList_appA {P : Program} {ops : Array Oper} {rest : List Oper} {o : Oper} {a : Act} {Q : Exit → Act → World → Prop} (hgd : o.guard = none) (s x : Operand) (t : TypeId)
    (ho : o.op = .call { callee := .builtin .append, args := #[s, x], argTypes := #[t, t] })
    (base : Nat) (e : TypeId) (i : TypeInfo) (z : Value) (size bytes : Nat) (ht : P.underlying t = some (.slice e)) (hi : P.info? e = some i) (hz : i.zero = some z)
    (hsize : i.size = size) (hby : i.bytes = bytes) (hzs : z.cells.size = size) (hsz : 0 < size) (w : World)
    (v : Value) (n : Nat) (xs : List Value) (hs : a.eval s = v) (hown : w.ownsRow base e size v n xs)
    (m c : Nat) (cs : List Value) (hx : a.eval x = .slice (some ⟨w.heap.size, 0, none⟩) m c) (hl : cs.length = m * size) (h1 : ∀ u ∈ cs, u.oneCell' = true)
    (h63 : n + m ≤ maxLen) (hbytes : (n + m) * bytes ≤ 140737488355328) (hbase : base ≤ w.heap.size)
    (h : ∀ v' w', w'.ownsRow base e size v' (n + m) (xs ++ cs) → w.grownBy w' v.ownBlock → NewOf w v v' → wpList P ops Q rest (a.put o.dst v') w') :
    wpList P ops Q (o :: rest) a (w.alloc (.cells cs.toArray e)) := by
  refine wpList_append_own_at (w := w.alloc (.cells cs.toArray e)) hgd s x t ho base e i z size bytes ht hi hz hsize hby hzs hsz v n xs hs (hown.alloc _) ⟨w.heap.size, 0, none⟩ m c cs hx hl (fun j u hu => ?_) h1 h63 hbytes (by simp; omega) fun v' w' h2 h3 _ h5 => h v' w' h2 ?_ ?_
  · have := (Cells.new w e cs).cell hu
    unfold Addr.add
    by_cases hj : j = 0
    · subst hj; simpa using this
    · simp only [hj, if_false, Nat.zero_add]; exact this
  · exact ⟨h3.os, h3.tape, h3.output, Nat.le_trans (by simp) h3.size, fun k hk hne => (h3.block k (by simp; omega) hne).trans (Below.heap_alloc w _ k hk)⟩
  · intro g hg
    rcases h5 with h5 | h5
    · exact .inl (by rw [← h5]; exact hg)
    · rw [h5] at hg
      injection hg with hg
      simp at hg
      exact .inr (by omega)
theorem own_low {w : World} {B B' n sz : Nat} {e : TypeId} {v : Value} {xs : List Value} (h : w.ownsRow B e sz v n xs) (hB : B' ≤ B) : w.ownsRow B' e sz v n xs :=
  ⟨h.1, h.2.imp_right fun ⟨q, cap, cur, e1, e2, e3⟩ => ⟨q, cap, cur, e1, Nat.le_trans hB e2, e3⟩⟩
theorem own_formX {w : World} {base n sz : Nat} {e : TypeId} {v : Value} {xs : List Value} (h : w.ownsRow base e sz v n xs) (hn : 0 < n) : ∃ g cap, v = .slice (some ⟨g, 0, none⟩) n cap := by
  obtain ⟨_, h⟩ := h
  rcases h with ⟨_, h⟩ | ⟨g, cap, cur, hv, _⟩
  · omega
  · exact ⟨g, cap, hv⟩
theorem lit4 {w : World} {b : Nat} {t : TypeId} {cs : List Value} (h : Cells w b t cs) : ∀ j u, cs[j]? = some u → w.cell? ((⟨b, 0, none⟩ : Addr).add j) = some u := fun j u hu => by
  rw [Addr.add_lit, Nat.zero_add]; exact h.cell hu
end Go.Proofs.Ytjfnkjpnjiobjaa
