/-
  append(x, make([]T, m)...): m zeros behind an owned row whose elements are one cell wide.
-/
import Derived.Laws.AppendOwn
import Derived.Test.YtagklgodcbmcaaaPlain7
namespace Go.Proofs.Ytagklgodcbmcaaa
open Go.RowKit
theorem zeroCells_one (z : Value) (h : z.cells = #[z]) (m : Nat) : Builtin.zeroCells z.cells m = (List.replicate m z).toArray := by
  apply Array.ext
  · simp [Builtin.zeroCells, h]
  · intro j h1 h2
    simp [Builtin.zeroCells, h, Nat.mod_one]
section
variable {P : Program} (w : World)
theorem run_append_zeros (base : Nat) (t u ty e : TypeId) (k : IntKind) (i : TypeInfo) (z : Value) (bytes : Nat) (ht : P.underlying t = some (.slice e)) (hu : P.underlying u = some (.int k)) (hi : P.info? e = some i) (hz : i.zero = some z)
    (hsize : i.size = 1) (hby : i.bytes = bytes) (hzs : z.cells = #[z]) (hz1 : z.oneCell' = true)
    (v : Value) (n : Nat) (xs : List Value) (hown : w.ownsRow base e 1 v n xs) (m : Nat) (hm : 0 < m) (hw : IntKind.i64.wrap (m : Int) = m)
    (h63 : n + m ≤ maxLen) (hbytes : (n + m) * bytes ≤ 140737488355328) (hbase : base ≤ w.heap.size) :
    ∃ v' w', (Builtin.append_ #[t, u] ty #[v, .int .i64 m]).run P w = .ok v' w' ∧ w'.ownsRow base e 1 v' (n + m) (xs ++ List.replicate m z) ∧ w.grownBy w' v.ownBlock := by
  subst hby
  have hzc := zeroCells_one z hzs
  have hlen : (xs ++ List.replicate m z).length = (n + m) * 1 := by rw [List.length_append, hown.1, List.length_replicate]; omega
  have hmi : ¬ ((m : Int) < 0) := by omega
  have hmb : ¬ (281474976710656 < (m : Int) * (i.bytes : Int)) := by
    have h1 : m * i.bytes ≤ (n + m) * i.bytes := Nat.mul_le_mul_right _ (by omega)
    have h2 : (m : Int) * (i.bytes : Int) = ((m * i.bytes : Nat) : Int) := by simp
    rw [h2]; omega
  have hm0 : m ≠ 0 := by omega
  have hm1 : ¬ ((m : Int) ≤ 0) := by omega
  have hmax : max (m : Int) 0 = m := by omega
  have h63' : ¬ (9223372036854775807 < ((n : Int) + (m : Int))) := by unfold maxLen at h63; omega
  have grown : ∀ (old : Nat), old < n + m → ∀ (row : Option Nat),
      (w.drew.alloc (.cells (xs.toArray ++ (List.replicate m z).toArray ++ Builtin.zeroCells z.cells (grownCap w (n + m) old e - (n + m))) e)).ownsRow base e 1
        (.slice (some ⟨w.heap.size, 0, none⟩) (n + m) (grownCap w (n + m) old e)) (n + m) (xs ++ List.replicate m z) ∧
      w.grownBy (w.drew.alloc (.cells (xs.toArray ++ (List.replicate m z).toArray ++ Builtin.zeroCells z.cells (grownCap w (n + m) old e - (n + m))) e)) row := by
    intro old ho row
    have hge := grownCap_ge w (n + m) old e
    have hcm : grownCap w (n + m) old e ≤ maxLen := grownCap_le_maxLen w (n + m) old e h63
    refine ⟨⟨hlen, .inr ⟨w.heap.size, _, _, rfl, hbase, heap_alloc_new w.drew _, hge, hcm, ?_, ?_⟩⟩, ⟨rfl, rfl, rfl, by simp, fun k hk _ => Below.heap_alloc w.drew _ k hk⟩⟩
    · simp only [Array.size_append, List.size_toArray, size_zeroCells, hzs, hown.1, List.length_replicate]
      simp
      omega
    · simp only [Array.toList_append, List.append_assoc]
      rw [← List.append_assoc, ← hlen]
      exact List.take_left
  rcases hown.2 with ⟨rfl, rfl⟩ | ⟨g, cap, cur, rfl, hbg, hg, hnc, hcm, hcs, htake⟩
  · have hx : xs = [] := List.eq_nil_of_length_eq_zero (by simpa using hown.1)
    subst hx
    have h48' : ¬ (281474976710656 < Builtin.nextslicecap m 0 * i.bytes) := by rw [nextslicecap_zero hm]; simp only [Nat.zero_add] at hbytes; omega
    have h63' : ¬ (9223372036854775807 < (m : Int)) := by omega
    have hgr := grown 0 (by omega) (Value.ownBlock (.slice none 0 0))
    simp only [Nat.zero_add, List.nil_append, Array.empty_append] at hgr ⊢
    refine ⟨_, _, ?_, hgr.1, hgr.2⟩
    simp [Builtin.append_, run_underlying ht, run_underlying hu, sizeOf, typeInfo, zeroValue, hi, hz, hw, hmi, hmb, hm0, hsize, h48', h63', Question.forced, run_firstCells_none, newRow, grownCap, hzc, asInt, asIntOf, hm1, hmax]
  · by_cases hroom : n + m ≤ cap
    · have hfit : n + m ≤ cur.size := by rw [hcs]; omega
      have hst := run_storeCells_at P g (n * i.size) e (List.replicate m z) 0 cur w hg (by rw [List.length_replicate, hsize]; omega) (fun u hu => by rw [List.eq_of_mem_replicate hu]; exact hz1)
      simp only [Nat.add_zero] at hst
      have hr : (Builtin.append_ #[t, u] ty #[.slice (some ⟨g, 0, none⟩) n cap, .int .i64 m]).run P w =
          .ok (.slice (some ⟨g, 0, none⟩) (n + m) cap) (w.setRow g (cur.toList.take (n * i.size) ++ List.replicate m z ++ cur.toList.drop (n * i.size + (List.replicate m z).length)).toArray) := by
        simp [Builtin.append_, run_underlying ht, run_underlying hu, sizeOf, typeInfo, zeroValue, hi, hz, hw, hmi, hmb, hm0, hsize, hroom, Addr.add_lit, hzc, asInt, asIntOf, hm1, hmax]
        simp [hsize] at hst
        rw [hst]
        rfl
      refine ⟨_, _, hr, ⟨hlen, .inr ⟨g, cap, _, rfl, hbg, setRow_heap w g cur _ e _ hg, hroom, hcm, ?_, ?_⟩⟩, ⟨rfl, rfl, rfl, by simp, fun k _ hk => setRow_other w g k _ (fun e => hk (by simp [Value.ownBlock, e]))⟩⟩
      · simp only [List.size_toArray, List.length_append, List.length_take, List.length_drop, Array.length_toList, List.length_replicate, hsize, Nat.mul_one] at hcs ⊢
        omega
      · rw [hsize, htake, ← hlen]
        exact List.take_left
    · have holds : ∀ j u, xs[j]? = some u → w.cell? ((⟨g, 0, none⟩ : Addr).add j) = some u := hown.cells (g := g) rfl
      have hgr := grown cap (by omega) (Value.ownBlock (.slice (some ⟨g, 0, none⟩) n cap))
      refine ⟨_, _, ?_, hgr.1, hgr.2⟩
      have h48' : ¬ (281474976710656 < Builtin.nextslicecap (n + m) cap * i.bytes) := by have := growslice_fits (old := cap) (need := n + m) (bytes := i.bytes) (by omega) hbytes; omega
      have hfo := run_firstCells_some (P := P) w.drew i.size n ⟨g, 0, none⟩ n cap xs (by rw [hsize]; exact hown.1) (by simpa using holds)
      rw [hsize] at hfo
      simp [Builtin.append_, run_underlying ht, run_underlying hu, sizeOf, typeInfo, zeroValue, hi, hz, hw, hmi, hmb, hm0, hsize, hroom, h48', h63', Question.forced, hfo, newRow, grownCap, hzc, asInt, asIntOf, hm1, hmax]
theorem wpList_append_zeros {ops : Array Oper} {rest : List Oper} {o : Oper} {a : Act} {Q : Exit → Act → World → Prop} (hgd : o.guard = none) (s x : Operand) (t u : TypeId)
    (ho : o.op = .call { callee := .builtin .append, args := #[s, x], argTypes := #[t, u] })
    (base : Nat) (e : TypeId) (k : IntKind) (i : TypeInfo) (z : Value) (bytes : Nat) (ht : P.underlying t = some (.slice e)) (hu : P.underlying u = some (.int k)) (hi : P.info? e = some i) (hz : i.zero = some z)
    (hsize : i.size = 1) (hby : i.bytes = bytes) (hzs : z.cells = #[z]) (hz1 : z.oneCell' = true)
    (v : Value) (n : Nat) (xs : List Value) (hs : a.eval s = v) (hown : w.ownsRow base e 1 v n xs) (m : Nat) (hx : a.eval x = .int .i64 m) (hm : 0 < m) (hw : IntKind.i64.wrap (m : Int) = m)
    (h63 : n + m ≤ maxLen) (hbytes : (n + m) * bytes ≤ 140737488355328) (hbase : base ≤ w.heap.size)
    (h : ∀ v' w', w'.ownsRow base e 1 v' (n + m) (xs ++ List.replicate m z) → w.grownBy w' v.ownBlock → wpList P ops Q rest (a.put o.dst v') w') :
    wpList P ops Q (o :: rest) a w := by
  refine wpList_plain hgd fun _ hK => ?_
  obtain ⟨v', w', hr, h2, h3⟩ := run_append_zeros (P := P) w base t u o.type e k i z bytes ht hu hi hz hsize hby hzs hz1 v n xs hown m hm hw h63 hbytes hbase
  unfold Oper.wp execOp
  simp only [ho, resolve, invoke, builtin, Sem.run_bind, Sem.run_pure, Result.andThen_ok, List.map_toArray, List.map_cons, List.map_nil, hs, hx, hr]
  exact hK _ _ (h v' w' h2 h3)
end
end Go.Proofs.Ytagklgodcbmcaaa
