/-
  Maps keyed by strings, told by a function: what each key holds.
-/
import Derived.Maps.OwnSet
import Derived.Maps.Ext
import Derived.Sort.KeysCollected
import Derived.Test.YtjfnkjpnjiobjaaRows
import Derived.Test.YtjfnkjpnjiobjaaStr
namespace Go.Proofs.Ytjfnkjpnjiobjaa
open Go.RowKit Go.Maps
theorem string_law : Keyed Try.prog 9 := string_keyed Try.underlying9
theorem key_str (s : List UInt8) (h : s.length ≤ maxLen) : keyOf Try.prog 9 (.string ⟨s.toArray⟩) = some (.string s) := by
  have := WideMaps.keyOf_string_mk (P := Try.prog) Try.underlying9 (s := ⟨s.toArray⟩) (by simpa [ByteArray.size] using h)
  simpa using this
theorem isk (k : List UInt8) : WideAt.IsKeyLit (.string k) := trivial
theorem lit_ne {k k' : List UInt8} (h : ¬ k' = k) : (Lit.string k') ≠ Lit.string k := fun e => by injection e with e; exact h e
/-- How an element reads: as itself. -/
def hv (v : Value) : Option (DataW Value × List MemPlace) := some (.held v, [])
theorem hv_inv {v : Value} {d : DataW Value} {ps : List MemPlace} (h : hv v = some (d, ps)) : d = .held v := by
  unfold hv at h
  simp only [Option.some.injEq, Prod.mk.injEq] at h
  exact h.1.symm
/-- Block b is a map of n entries, at key k the value f k. -/
structure MapF (w : World) (b n : Nat) (f : List UInt8 → Option Value) : Prop where
  ex : ∃ D, w.ownsMap Try.prog 9 hv b n D ∧ size D = n ∧ (∀ k, has D (.string k) = (f k).isSome) ∧ ∀ k v, f k = some v → ∀ z, D.atKey (.string k) z = .held v
theorem MapF.lt {w : World} {b n : Nat} {f : List UInt8 → Option Value} (h : MapF w b n f) : b < w.heap.size := by
  obtain ⟨D, h1, _⟩ := h.ex; exact h1.lt
theorem own_tight {w : World} {b n : Nat} {D : DataW Value} (h : w.ownsMap Try.prog 9 hv b n D) : w.ownsMap Try.prog 9 hv b (size D) D := by
  obtain ⟨es, clock, hb, F, _, rfl⟩ := h
  exact ⟨es, clock, hb, F, by rw [size_eq, length_read]; exact Nat.le_refl _, rfl⟩
theorem MapF.made (w : World) : MapF (w.alloc (.map #[] 0)) w.heap.size 0 (fun _ => none) :=
  ⟨.map [], World.ownsMap_made w _ _ _, rfl, fun _ => rfl, fun k v h => by cases h⟩
theorem MapF.block {w w' : World} {b n : Nat} {f : List UInt8 → Option Value} (h : MapF w b n f) (hb : w'.heap[b]? = w.heap[b]?) : MapF w' b n f := by
  obtain ⟨D, ⟨es, clock, hh, F, hs, hD⟩, r⟩ := h.ex
  exact ⟨D, ⟨es, clock, hb.trans hh, F, hs, hD⟩, r⟩
theorem MapF.only {S : List Nat} {w w' : World} {b n : Nat} {f : List UInt8 → Option Value} (h : MapF w b n f) (ho : Only S w w') (hS : b ∉ S) : MapF w' b n f := h.block (ho.block b h.lt hS)
section
variable {w : World} {b n : Nat} {f : List UInt8 → Option Value}
theorem MapF.look {t e : TypeId} (h : MapF w b n f) (ht : Try.prog.underlying t = some (.map 9 e)) {z : Value} (hz : (zeroValue e).run Try.prog w = .ok z w) (k : List UInt8) (hk : k.length ≤ maxLen) :
    (Instr.lookup t (.map (some b)) (.string ⟨k.toArray⟩) false).run Try.prog w = .ok ((f k).getD z) w := by
  obtain ⟨D, ho, _, hh, ha⟩ := h.ex
  obtain ⟨v, ps, hr, hv'⟩ := ho.lookup string_law ht hz (zd := .held z) (zp := []) rfl (key_str k hk)
  have e1 := hv_inv hv'
  have hvv : v = (f k).getD z := by
    cases hf : f k with
    | none =>
      have h2 := hh k
      rw [hf] at h2
      rw [atKey_of_not_has h2] at e1
      exact (DataW.held.inj e1).symm
    | some u =>
      rw [ha k u hf] at e1
      exact (DataW.held.inj e1).symm
  rw [hr, hvv]
theorem MapF.lookOk {t e : TypeId} (h : MapF w b n f) (ht : Try.prog.underlying t = some (.map 9 e)) {z : Value} (hz : (zeroValue e).run Try.prog w = .ok z w) (k : List UInt8) (hk : k.length ≤ maxLen) :
    (Instr.lookup t (.map (some b)) (.string ⟨k.toArray⟩) true).run Try.prog w = .ok (.tuple #[(f k).getD z, .bool (f k).isSome]) w := by
  obtain ⟨D, ho, _, hh, ha⟩ := h.ex
  obtain ⟨v, ps, hr, hv'⟩ := ho.look_ok string_law ht hz (zd := .held z) (zp := []) rfl (key_str k hk)
  have e1 := hv_inv hv'
  have hvv : v = (f k).getD z := by
    cases hf : f k with
    | none =>
      have h2 := hh k
      rw [hf] at h2
      rw [atKey_of_not_has h2] at e1
      exact (DataW.held.inj e1).symm
    | some u =>
      rw [ha k u hf] at e1
      exact (DataW.held.inj e1).symm
  rw [hr, hh k, hvv]
theorem MapF.len {t e : TypeId} (h : MapF w b n f) (ht : Try.prog.underlying t = some (.map 9 e)) (ty : TypeId) : (Builtin.len_ #[t] ty #[.map (some b)]).run Try.prog w = .ok (.int .i64 n) w := by
  obtain ⟨D, ho, hn, _⟩ := h.ex
  rw [ho.len ht ty, hn]
theorem mapTurned_only {w w' : World} {b : Nat} (h : w.mapTurned w' b) : Only [b] w w' := by
  have hg := h.grown
  exact ⟨hg.os, hg.tape, hg.output, hg.size, fun k hk hS => hg.block k hk (by simpa using fun e => hS (by simp [e]))⟩
theorem MapF.store {t e : TypeId} (h : MapF w b n f) (ht : Try.prog.underlying t = some (.map 9 e)) (hn : n < maxLen) (k : List UInt8) (hk : k.length ≤ maxLen) (v : Value) :
    ∃ w', (Instr.mapUpdate t (.map (some b)) (.string ⟨k.toArray⟩) v).run Try.prog w = .ok () w' ∧ MapF w' b (if (f k).isSome then n else n + 1) (fun k' => if k' = k then some v else f k') ∧ w.mapTurned w' b := by
  obtain ⟨D, ho, hs, hh, ha⟩ := h.ex
  obtain ⟨w', hr, ho', ht'⟩ := ho.store string_law ht hn (key_str k hk) (val := v) (d := .held v) (ps := []) rfl
  have him := ho.isMap
  have hsz : size (D.put (.string k) (.held v)) = if (f k).isSome then n else n + 1 := by rw [size_put (ho.tidy string_law), hh k, hs]
  refine ⟨w', hr, ⟨_, ?_, hsz, ?_, ?_⟩, ht'⟩
  · rw [← hsz]; exact own_tight ho'
  · intro k'
    by_cases he : k' = k
    · subst he; rw [has_put_same him (isk _), if_pos rfl]; rfl
    · rw [has_put_other (lit_ne he), if_neg he]; exact hh k'
  · intro k' u hu z
    by_cases he : k' = k
    · subst he; rw [if_pos rfl] at hu; have hu := Option.some.inj hu; rw [atKey_put_same him (isk _), hu]
    · rw [if_neg he] at hu; rw [atKey_put_other (lit_ne he)]; exact ha k' u hu z
theorem MapF.drop {t e : TypeId} (h : MapF w b n f) (ht : Try.prog.underlying t = some (.map 9 e)) (k : List UInt8) (hk : k.length ≤ maxLen) (ty : TypeId) :
    ∃ w', (Builtin.delete_ #[t, 9] ty #[.map (some b), .string ⟨k.toArray⟩]).run Try.prog w = .ok (.tuple #[]) w' ∧ MapF w' b (if (f k).isSome then n - 1 else n) (fun k' => if k' = k then none else f k') ∧ w.mapTurned w' b := by
  obtain ⟨D, ho, hs, hh, ha⟩ := h.ex
  obtain ⟨w', hr, ho', ht'⟩ := ho.drop string_law ht (key_str k hk) ty
  have hsz : size (D.del (.string k)) = if (f k).isSome then n - 1 else n := by
    have := size_del (k := .string k) (ho.tidy string_law)
    rw [hh k, hs] at this
    cases hf : (f k).isSome <;> rw [hf] at this <;> simp at this ⊢ <;> omega
  refine ⟨w', hr, ⟨_, ?_, hsz, ?_, ?_⟩, ht'⟩
  · rw [← hsz]; exact own_tight ho'
  · intro k'
    by_cases he : k' = k
    · subst he; rw [has_del_same, if_pos rfl]; rfl
    · rw [has_del_other (lit_ne he), if_neg he]; exact hh k'
  · intro k' u hu z
    by_cases he : k' = k
    · rw [if_pos he] at hu; cases hu
    · rw [if_neg he] at hu; rw [atKey_del_other (lit_ne he)]; exact ha k' u hu z
/-- The keys, sorted. -/
theorem MapF.keys (h : MapF w b n f) (L : List (List UInt8)) (hL : L.Pairwise (fun x y => x < y)) (hm : ∀ k, k ∈ L ↔ (f k).isSome = true) :
    ∃ D, w.ownsMap Try.prog 9 hv b n D ∧ size D = n ∧ ∀ ss : List (List UInt8), ss.Perm (strKeys D) → ss.mergeSort (fun x y => decide (x ≤ y)) = L := by
  obtain ⟨D, ho, hs, hh, ha⟩ := h.ex
  refine ⟨D, ho, hs, fun ss hp => ?_⟩
  have hnd : L.Nodup := hL.imp fun {x y} h e => by subst e; exact List.lt_irrefl x h
  have hpL : L.Perm (strKeys D) := by
    obtain ⟨es, hD, hpw, _⟩ := ho.entries string_law
    obtain ⟨es', hD', hko⟩ := ho.keysOf
    obtain rfl : es = es' := by rw [hD] at hD'; simpa using hD'
    subst hD
    exact perm_strKeys hpw (fun p hp => by obtain ⟨v, hv⟩ := hko p hp; obtain ⟨x, _, hx, _⟩ := Maps.keyOf_str Try.underlying9 hv; exact ⟨x, hx⟩) hnd (fun x => by rw [hm x, hh x])
  rw [mergeSort_of_perm (hp.trans hpL.symm)]
  exact List.mergeSort_of_pairwise (hL.imp fun {x y} h => by simpa using List.le_of_lt h)
end
end Go.Proofs.Ytjfnkjpnjiobjaa
