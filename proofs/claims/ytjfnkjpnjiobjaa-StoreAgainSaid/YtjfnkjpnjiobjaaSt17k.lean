/-
  Chapter 17: what a store's operations do, told by its feeds alone.
-/
import Derived.Test.YtjfnkjpnjiobjaaSt17j
namespace Go.Proofs.Ytjfnkjpnjiobjaa
open Go.RowKit
def subS (S : Sv) (k : List UInt8) : Int × Sv := if nmL k = true then (if (fnd S k).isSome = true then (5, S) else if S.length = 20 then (11, S) else (0, insBy Prod.fst (k, ⟨-1, 0, []⟩) S)) else (3, S)
def unS (S : Sv) (k : List UInt8) : Int × Sv := if (fnd S k).isSome = true then (0, delBy Prod.fst k S) else (4, S)
def failS (S : Sv) (k : List UInt8) (now : Int) : Int × Sv := match fnd S k with
  | none => (4, S)
  | some f => if okT now then (0, putBy Prod.fst k (k, failF f now) S) else (1, S)
def markS (S : Sv) (k id : List UInt8) : Int × Sv := match fnd S k with
  | none => (4, S)
  | some f => match idx f.ps id with
    | none => (4, S)
    | some i => (0, putBy Prod.fst k (k, markF f i) S)
def listS (S : Sv) (k : List UInt8) (after : Int) : List Po × Int := match fnd S k with
  | none => ([], 4)
  | some f => (pgF f.ps after, 0)
def allS (S : Sv) (k : List UInt8) : List Po := (fnd S k).elim [] (·.ps)
/-- An operation on a store: it is S now. -/
def OpS (w w' : World) (b : Nat) (O : List Nat) (S : Sv) : Prop := ∃ O', St w' b O' S ∧ Only O w w' ∧ ∀ x ∈ O', x ∈ O ∨ w.heap.size ≤ x
theorem Op17.ops {w w' : World} {b mb : Nat} {T T' : List Pl} {S : Sv} (h : Op17 w w' b mb T T') (hS : prT T' = S) : OpS w w' b (allX b mb T) S := ⟨_, ⟨mb, T', h.st, rfl, hS.symm⟩, h.ho, h.new⟩
theorem St.bw {w : World} {b : Nat} {O : List Nat} {S : Sv} (h : St w b O S) : ∀ x ∈ O, x < w.heap.size := by
  obtain ⟨mb, T, h, rfl, rfl⟩ := h
  exact h.lts
theorem st_new (w : World) : Calls Try.prog 17 #[] w fun e w' => ∃ b O, e = .returned (.pointer (some ⟨b, 0, none⟩)) ∧ St w' b O [] ∧ (∀ x ∈ O, w.heap.size ≤ x) ∧ Only [] w w' :=
  (store_new w).mono fun e w' ⟨h1, h2, h3⟩ => ⟨_, _, h1, ⟨_, [], h2, rfl, rfl⟩, by intro x hx; simp [allX] at hx; omega, h3⟩
theorem st_sub (b : Nat) (O : List Nat) (S : Sv) (k : List UInt8) (hk : k.length ≤ maxLen) (w : World) (h : St w b O S) :
    Calls Try.prog 46 #[.pointer (some ⟨b, 0, none⟩), .string ⟨k.toArray⟩] w fun e w' => e = .returned (.int .i64 (subS S k).1) ∧ OpS w w' b O (subS S k).2 := by
  obtain ⟨mb, T, h, rfl, rfl⟩ := h
  have hfn : (fnd (prT T) k).isSome = (fT T k).isSome := by rw [show fnd (prT T) k = _ from fnd_fT T k]; simp
  have e1 : (subS (prT T) k).1 = subE T k := by
    unfold subS subE
    rw [hfn, show (prT T).length = T.length from List.length_map _]
    split
    · split
      · rfl
      · split <;> rfl
    · rfl
  have e2 : (subS (prT T) k).2 = if subE T k = 0 then insBy Prod.fst (k, (⟨-1, 0, []⟩ : Fd)) (prT T) else prT T := by
    unfold subS subE
    rw [hfn, show (prT T).length = T.length from List.length_map _]
    split
    · split
      · rfl
      · split <;> rfl
    · rfl
  refine (store_sub b mb T k hk w h).mono fun e w' ⟨h1, T', h2, h3⟩ => ⟨by rw [h1]; show _ = Ending.returned (.int .i64 (subS (prT T) k).1); rw [e1], ?_⟩
  show OpS w w' b _ (subS (prT T) k).2
  rw [e2]
  exact h2.ops h3
theorem prT_put (T : List Pl) (k : List UInt8) (t : Pl) (f : Fd) (ht : t.nm = k) : prT (putBy Pl.nm k (withF t f) T) = putBy Prod.fst k (k, f) (prT T) := by
  unfold prT
  rw [putBy_map Pl.nm (fun t => (t.nm, t.fd)) Prod.fst (fun _ => rfl)]
  rw [show (withF t f).nm = k from ht, show (withF t f).fd = f from rfl]
theorem st_un (b : Nat) (O : List Nat) (S : Sv) (k : List UInt8) (hk : k.length ≤ maxLen) (w : World) (h : St w b O S) :
    Calls Try.prog 48 #[.pointer (some ⟨b, 0, none⟩), .string ⟨k.toArray⟩] w fun e w' => e = .returned (.int .i64 (unS S k).1) ∧ OpS w w' b O (unS S k).2 := by
  obtain ⟨mb, T, h, rfl, rfl⟩ := h
  have hfn : fnd (prT T) k = (fT T k).map (·.fd) := fnd_fT T k
  refine (store_unsub b mb T k hk w h).mono fun e w' ⟨h1, h2⟩ => ?_
  show e = .returned (.int .i64 (unS (prT T) k).1) ∧ OpS w w' b _ (unS (prT T) k).2
  unfold unS
  rw [hfn]
  unfold unT at h2
  cases hf : fT T k with
  | none =>
    rw [hf] at h1 h2
    exact ⟨by rw [h1]; rfl, h2.ops rfl⟩
  | some t =>
    rw [hf] at h1 h2
    exact ⟨by rw [h1]; rfl, h2.ops (delBy_map Pl.nm (fun t => (t.nm, t.fd)) Prod.fst (fun _ => rfl) k T)⟩
theorem st_fail (b : Nat) (O : List Nat) (S : Sv) (k : List UInt8) (hk : k.length ≤ maxLen) (now : Int) (w : World) (h : St w b O S) :
    Calls Try.prog 47 #[.pointer (some ⟨b, 0, none⟩), .string ⟨k.toArray⟩, .int .i64 now] w fun e w' => e = .returned (.int .i64 (failS S k now).1) ∧ OpS w w' b O (failS S k now).2 := by
  obtain ⟨mb, T, h, rfl, rfl⟩ := h
  have hfn : fnd (prT T) k = (fT T k).map (·.fd) := fnd_fT T k
  refine (store_fail b mb T k hk now w h).mono fun e w' ⟨h1, h2⟩ => ?_
  show e = .returned (.int .i64 (failS (prT T) k now).1) ∧ OpS w w' b _ (failS (prT T) k now).2
  unfold failS
  rw [hfn]
  unfold failT at h2
  cases hf : fT T k with
  | none =>
    rw [hf] at h1 h2
    exact ⟨h1, h2.ops rfl⟩
  | some t =>
    rw [hf] at h1 h2
    simp only [Option.map_some]
    unfold fndE at h1
    dsimp only at h1 h2
    cases hn : okT now with
    | false => rw [hn] at h1 h2; exact ⟨h1, h2.ops rfl⟩
    | true => rw [hn] at h1 h2; exact ⟨h1, h2.ops (prT_put T k t _ (fT_mem hf).2)⟩
theorem st_mark (b : Nat) (O : List Nat) (S : Sv) (k : List UInt8) (hk : k.length ≤ maxLen) (id : List UInt8) (hid : id.length ≤ maxLen) (w : World) (h : St w b O S) :
    Calls Try.prog 25 #[.pointer (some ⟨b, 0, none⟩), .string ⟨k.toArray⟩, .string ⟨id.toArray⟩] w fun e w' => e = .returned (.int .i64 (markS S k id).1) ∧ OpS w w' b O (markS S k id).2 := by
  obtain ⟨mb, T, h, rfl, rfl⟩ := h
  have hfn : fnd (prT T) k = (fT T k).map (·.fd) := fnd_fT T k
  refine (store_mark b mb T k hk id hid w h).mono fun e w' ⟨h1, h2⟩ => ?_
  show e = .returned (.int .i64 (markS (prT T) k id).1) ∧ OpS w w' b _ (markS (prT T) k id).2
  unfold markS
  rw [hfn]
  unfold markT at h2
  unfold markE at h1
  cases hf : fT T k with
  | none =>
    rw [hf] at h1 h2
    exact ⟨h1, h2.ops rfl⟩
  | some t =>
    rw [hf] at h1 h2
    simp only [Option.map_some]
    dsimp only at h1 h2
    cases hi : idx t.fd.ps id with
    | none => rw [hi] at h1 h2; exact ⟨h1, h2.ops rfl⟩
    | some i => rw [hi] at h1 h2; exact ⟨h1, h2.ops (prT_put T k t _ (fT_mem hf).2)⟩
theorem st_ingest (b : Nat) (O : List Nat) (S : Sv) (k : List UInt8) (hk : k.length ≤ maxLen) (v : Value) (l : List It) (now : Int) (w : World) (h : St w b O S) (hs : ∀ w', Only O w w' → SlAt w' w'.heap.size v 3 l.length (itL l)) (hl : l.length ≤ 1000000) (hx : ∀ x ∈ l, x.Len) :
    Calls Try.prog 21 #[.pointer (some ⟨b, 0, none⟩), .string ⟨k.toArray⟩, v, .int .i64 now] w fun e w' =>
      e = .returned (.tuple #[.int .i64 (ingR S k l now).1, .int .i64 (ingR S k l now).2.1]) ∧ OpS w w' b O (ingR S k l now).2.2 := by
  obtain ⟨mb, T, h, rfl, rfl⟩ := h
  exact (store_ingest b mb T k hk v l now w h hs hl hx).mono fun e w' ⟨h1, T', h2, h3⟩ => ⟨h1, h2.ops h3⟩
theorem st_list (b : Nat) (O : List Nat) (S : Sv) (k : List UInt8) (hk : k.length ≤ maxLen) (after : Int) (w : World) (h : St w b O S) :
    Calls Try.prog 24 #[.pointer (some ⟨b, 0, none⟩), .string ⟨k.toArray⟩, .int .i64 after] w fun e w' => ∃ v', e = .returned (.tuple #[v', .int .i64 (listS S k after).2]) ∧ w'.ownsRow w.heap.size 38 5 v' (listS S k after).1.length (poL (listS S k after).1) ∧ Only [] w w' := by
  obtain ⟨mb, T, h, rfl, rfl⟩ := h
  have hfn : fnd (prT T) k = (fT T k).map (·.fd) := fnd_fT T k
  refine (store_list b mb T k hk after w h).mono fun e w' ⟨v', h1, h2, h3⟩ => ⟨v', ?_, ?_, h3⟩
  · show e = .returned (.tuple #[v', .int .i64 (listS (prT T) k after).2])
    unfold listS
    rw [hfn, h1]
    cases fT T k <;> rfl
  · show w'.ownsRow _ _ 5 v' (listS (prT T) k after).1.length (poL (listS (prT T) k after).1)
    unfold listS
    rw [hfn]
    cases hf : fT T k <;> rw [hf] at h2 <;> exact h2
theorem st_all (b : Nat) (O : List Nat) (S : Sv) (k : List UInt8) (hk : k.length ≤ maxLen) (w : World) (h : St w b O S) :
    Calls Try.prog 19 #[.pointer (some ⟨b, 0, none⟩), .string ⟨k.toArray⟩] w fun e w' => ∃ v', e = .returned v' ∧ w'.ownsRow w.heap.size 38 5 v' (allS S k).length (poL (allS S k)) ∧ Only [] w w' := by
  obtain ⟨mb, T, h, rfl, rfl⟩ := h
  have hfn : fnd (prT T) k = (fT T k).map (·.fd) := fnd_fT T k
  have e1 : allS (prT T) k = allF (fT T k) := by unfold allS; rw [hfn]; cases fT T k <;> rfl
  refine (law_all b mb T k hk w h).mono fun e w' ⟨v', h1, h2, h3⟩ => ⟨v', h1, ?_, h3⟩
  show w'.ownsRow _ _ 5 v' (allS (prT T) k).length (poL (allS (prT T) k))
  rw [e1]; exact h2
theorem st_polled (b : Nat) (O : List Nat) (S : Sv) (k : List UInt8) (hk : k.length ≤ maxLen) (w : World) (h : St w b O S) :
    Calls Try.prog 23 #[.pointer (some ⟨b, 0, none⟩), .string ⟨k.toArray⟩] w fun e w' =>
      e = .returned (.tuple #[.int .i64 ((fnd S k).elim 0 (·.pol)), .int .i64 ((fnd S k).elim 0 (·.fai)), .bool (fnd S k).isSome]) ∧ Only [] w w' := by
  obtain ⟨mb, T, h, rfl, rfl⟩ := h
  have hfn : fnd (prT T) k = (fT T k).map (·.fd) := fnd_fT T k
  refine (store_polled b mb T k hk w h).mono fun e w' ⟨h1, h2⟩ => ⟨?_, h2⟩
  show e = .returned (.tuple #[.int .i64 ((fnd (prT T) k).elim 0 (·.pol)), .int .i64 ((fnd (prT T) k).elim 0 (·.fai)), .bool (fnd (prT T) k).isSome])
  rw [hfn, h1]
  cases fT T k <;> rfl
end Go.Proofs.Ytjfnkjpnjiobjaa
