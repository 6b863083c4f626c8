/-
  Chapter 14: shard.Part: a range over a function (within) that itself ranges over slices.Values.
-/
import Derived.RangeFuncNested
import Derived.RangeFuncBound
import Derived.RangeFuncCalls
import Derived.RangeFuncLeaves
import Derived.Shelf.Abstract
import Derived.Shelf.RegionOpen
import Derived.WalkKit
import Derived.OwnWalkIn
import Derived.TacticsInMore
import Derived.LoopNIn
import Derived.LoopIn
import Derived.Maps.AppendAt
import Derived.Test.YtlonaniomnalnaaShard
namespace Go.Proofs.Ytlonaniomnalnaa
open Go.RowKit Go.Shelf
attribute [local go_sem] Oper.semAt_some

/-- A text within the reach (what a round is handed bears its own bound). -/
abbrev Tx := { s : List UInt8 // s.length ≤ 9223372036854775807 }
abbrev sv (s : Tx) : Value := .string ⟨s.1.toArray⟩
abbrev strs (l : List Tx) : List Value := l.map sv
/-- The slice value v holds the texts zs, in a block below n₀; or there are none. -/
def Strs (n₀ : Nat) (W : World) (v : Value) (zs : List Tx) : Prop :=
  ∃ A cap, v = .slice A zs.length cap ∧ (0 < zs.length → ∃ b off, A = some ⟨b, off, none⟩ ∧ b < n₀ ∧ ∀ j x, zs[j]? = some x → W.cell? ⟨b, off + j, none⟩ = some (sv x))
theorem Strs.below {n₀ : Nat} {A B : World} (h : Below n₀ A B) {v : Value} {zs : List Tx} : Strs n₀ A v zs → Strs n₀ B v zs
  | ⟨a, cap, e, hc⟩ => ⟨a, cap, e, fun hp => by obtain ⟨b, off, ha, hb, hc⟩ := hc hp; exact ⟨b, off, ha, hb, fun j x hx => (h.cell (p := ⟨b, off + j, none⟩) hb).trans (hc j x hx)⟩⟩
theorem Strs.of_sl {n₀ : Nat} {W : World} {v : Value} {zs : List Tx} (h : SlAt W n₀ v 1 zs.length (strs zs)) : Strs n₀ W v zs := by
  obtain ⟨_, A, c, hv, _, _, h⟩ := h
  refine ⟨A, c, hv, fun hp => ?_⟩
  obtain ⟨b, o, hA, hb, hh⟩ := h (by omega)
  exact ⟨b, o, hA, hb, fun j x hx => hh j _ (by simp [strs, hx])⟩

set_option maxRecDepth 100000 in
set_option maxHeartbeats 2000000 in
/-- slices.Values's closure: it reads the slice between two rounds. -/
theorem values1 (n l Bs n₀ : Nat) (v : Value) (zs : List Tx) (hreach : zs.length ≤ 1000000000) (J Jx : List Tx → World → Prop)
    (hY : ∀ pre x W, J pre W → pre.length < zs.length → YieldAt Fence.wide (n - 1) Try.prog l #[sv x] W fun e W' =>
      (e = .returned (.bool true) ∧ J (pre ++ [x]) W' ∧ Below n₀ W W') ∨ (e = .returned (.bool false) ∧ Jx (pre ++ [x]) W'))
    (W : World) (hBs : W.cell? ⟨Bs, 0, none⟩ = some v) (hI : Strs n₀ W v zs) (h0 : J [] W) :
    CallsIn Fence.wide n Try.prog 65 #[.func (.yield l) #[] #[], .pointer (some ⟨Bs, 0, none⟩)] W fun e W' => (∃ v, e = .returned v) ∧
      ((∃ ys, ys = zs ∧ J ys W') ∨ (∃ pre, pre <+: zs ∧ Jx pre W')) := by
  have HI := Lib.hid hI
  obtain ⟨A, cap, rfl, -⟩ := hI
  refine callsIn_of_wp Try.func65 rfl trivial ?_ rfl
  simp only [Try.ntmps65, List.size_toArray, List.length_cons, List.length_nil, Nat.reduceAdd, Nat.reduceSub, Array.replicate_succ, Array.replicate_zero, List.push_toArray, List.append_toArray, List.nil_append, List.cons_append]
  gi_wp2
  gi_loopw [7] (fun i wr => ∃ k : Nat, k ≤ zs.length ∧ i = .int .i64 k ∧ J (zs.take k) wr ∧ Below n₀ W wr)
    (fun i _ => zs.length - (intOf i).toNat)
  case atStart => exact ⟨0, Nat.zero_le _, rfl, h0, Below.refl _ _⟩
  case round =>
    obtain ⟨k, hk, rfl, hJs, hnx⟩ := hrel
    by_cases hlt : k < zs.length
    · have hk1 := List.getElem?_eq_getElem hlt
      obtain ⟨x, hx⟩ : ∃ x, zs[k] = x := ⟨_, rfl⟩
      rw [hx] at hk1
      obtain ⟨A', cap', hv, hc⟩ := HI.out
      injection hv with e1 e2 e3
      subst e1; subst e3
      obtain ⟨b, off, rfl, hb, hc⟩ := hc (by omega)
      have hcx : wr.cell? ⟨b, off + k, none⟩ = some (.string ⟨x.1.toArray⟩) := (hnx.cell (p := ⟨b, off + k, none⟩) hb).trans (hc k x hk1)
      obtain ⟨fn, tmps, assign, body, hy, hR⟩ := hY _ x wr hJs (by rw [List.length_take]; omega)
      have HT : Hid (zs.take (k + 1) = zs.take k ++ [x]) := by show _ = _; rw [List.take_add_one, hk1]; rfl
      clear e2 hc hx hk1
      gi_wp2
      refine ⟨fun h => (by cases h), hR.mono ?_⟩
      rintro e W3 (⟨rfl, hJ3, hk3⟩ | ⟨rfl, hJx3⟩)
      · gi_wp2
        go_roundw
        case rel => exact ⟨k + 1, by omega, by simp, by rw [HT.out]; exact hJ3, hnx.trans hk3⟩
        case measure => simp [intOf]; omega
      · gi_wp2
        refine bodyPost_ret (results_none rfl _ _ _) rfl ?_
        exact ⟨⟨_, rfl⟩, .inr ⟨_, by rw [← HT.out]; exact List.take_prefix _ _, hJx3⟩⟩
    · obtain rfl : k = zs.length := by omega
      rw [List.take_length] at hJs
      gi_wp2
      go_end0
      exact ⟨⟨_, rfl⟩, .inl ⟨_, rfl, hJs⟩⟩
set_option maxHeartbeats 1000000 in
theorem values (n : Nat) (a : Option Addr) (len cap : Nat) (w : World) :
    CallsIn Fence.wide n Try.prog 60 #[.slice a len cap] w fun e w' => e = .returned (.func (.func 65) #[] #[.pointer (some ⟨w.heap.size, 0, none⟩)]) ∧ w' = w.alloc (.cells #[.slice a len cap] 29) := by
  refine callsIn_of_wp Try.func60 rfl trivial ?_ rfl
  simp only [Try.ntmps60, List.size_toArray, List.length_cons, List.length_nil, Nat.reduceAdd, Nat.reduceSub, Array.replicate_succ, Array.replicate_zero, List.push_toArray, List.append_toArray, List.nil_append, List.cons_append]
  gi_wp2
  go_ret
  exact ⟨rfl, rfl⟩
theorem values_stops (n Bs n₀ : Nat) (v : Value) (zs : List Tx) (hreach : zs.length ≤ 1000000000) (w : World) (hBs : Bs < w.heap.size) (hn₀ : n₀ ≤ w.heap.size)
    (hc : w.cell? ⟨Bs, 0, none⟩ = some v) (hI : Strs n₀ w v zs) :
    SeqStopsK Fence.wide n Try.prog 65 #[.pointer (some ⟨Bs, 0, none⟩)] (fun x : Tx => #[sv x]) (Below n₀) (fun ys => ys = zs) (fun pre => pre <+: zs) zs.length w := fun l J Jx W hW _ _ hY h0 =>
  values1 n l Bs n₀ v zs hreach J Jx hY W ((hW.cell (p := ⟨Bs, 0, none⟩) hBs).trans hc) (hI.below (hW.mono hn₀)) h0

theorem within (a : Option Addr) (len cap : Nat) (n : Int) (w : World) :
    Calls Try.prog 47 #[.slice a len cap, .int .i64 n] w fun e w' => e = .returned (.func (.func 59) #[] #[.pointer (some ⟨w.heap.size, 0, none⟩), .pointer (some ⟨w.heap.size + 1, 0, none⟩)]) ∧ w' = (w.alloc (.cells #[.slice a len cap] 29)).alloc (.cells #[.int .i64 n] 3) := by
  go_enter Try.func47, Try.ntmps47
  go_wp2_with fail
  go_ret
  exact ⟨rfl, rfl⟩

def inShard (n : Int) (l : List Tx) : List Tx := l.filter fun s => decide ((shardL s.1 : Int) = n)
theorem inShard_hit {n : Int} (pre : List Tx) {x : Tx} (h : (shardL x.1 : Int) = n) : inShard n (pre ++ [x]) = inShard n pre ++ [x] := by simp [inShard, h]
theorem inShard_miss {n : Int} (pre : List Tx) {x : Tx} (h : ¬ (shardL x.1 : Int) = n) : inShard n (pre ++ [x]) = inShard n pre := by simp [inShard, h]

set_option maxRecDepth 100000 in
set_option maxHeartbeats 4000000 in
/-- within's closure, at whatever invariant of its caller's. -/
theorem within1 (n l Bs Bn n₀ : Nat) (v : Value) (m : Int) (zs : List Tx) (hreach : zs.length ≤ 1000000000) (W : World)
    (hBs : Boxed W Bs 29 v) (hBn : Boxed W Bn 3 (.int .i64 m)) (hn₀ : n₀ ≤ W.heap.size) (hI : Strs n₀ W v zs)
    (X : Nat → List Tx → World → Prop) (hX : ∀ H, W.heap.size ≤ H → OwnFrom H (X H)) (h0 : ∀ W', Below W.heap.size W W' → X W'.heap.size [] W')
    (hY : ∀ H pre x W1, W.heap.size ≤ H → X H pre W1 → pre.length < zs.length → YieldAt Fence.wide n Try.prog l #[sv x] W1 fun e W' =>
      e = .returned (.bool true) ∧ X H (pre ++ [x]) W' ∧ KeepsFrom W.heap.size W1 W' ∧ Below n₀ W1 W' ∧ W'.heap[Bn]? = W1.heap[Bn]? ∧ ∀ k, W.heap.size ≤ k → k < H → W'.heap[k]? = W1.heap[k]?) :
    CallsIn Fence.wide (n + 3) Try.prog 59 #[.func (.yield l) #[] #[], .pointer (some ⟨Bs, 0, none⟩), .pointer (some ⟨Bn, 0, none⟩)] W fun e W' => (∃ v, e = .returned v) ∧ X (W.heap.size + 2) (inShard m zs) W' := by
  have HI := Lib.hid hI
  obtain ⟨A, cap, rfl, -⟩ := hI
  have c1 := (hBs.alloc (.cells #[.func (.yield l) #[] #[]] 23)).cell
  have HN := Lib.hid hBn
  have bY := Boxed.new W 23 (.func (.yield l) #[] #[])
  clear hBn
  refine callsIn_of_wp_marks Try.func59 rfl trivial ?_ rfl
  simp only [Try.ntmps59, List.size_toArray, List.length_cons, List.length_nil, Nat.reduceAdd, Nat.reduceSub, Array.replicate_succ, Array.replicate_zero, List.push_toArray, List.append_toArray, List.nil_append, List.cons_append]
  gi_wp2_with (refine ⟨trivial, ?_⟩; gi_at_call 60; refine (values _ _ _ _ _).mono ?_; rintro e w' ⟨rfl, rfl⟩)
  have bV := Boxed.new (W.alloc (.cells #[.func (.yield l) #[] #[]] 23)) 29 (.slice A zs.length cap)
  obtain ⟨W3, hW3⟩ : ∃ W3, ((W.alloc (.cells #[.func (.yield l) #[] #[]] 23)).alloc (.cells #[.slice A zs.length cap] 29)) = W3 := ⟨_, rfl⟩
  have hs3 : W3.heap.size = W.heap.size + 2 := by rw [← hW3]; simp
  rw [World.size_alloc] at bV
  have bY3 : Boxed W3 W.heap.size 23 (.func (.yield l) #[] #[]) := by rw [← hW3]; exact bY.alloc _
  have bN3 : Boxed W3 Bn 3 (.int .i64 m) := by rw [← hW3]; exact (HN.out.alloc _).alloc _
  have hB3 : Below W.heap.size W W3 := by rw [← hW3]; exact ((Below.refl _ W).alloc (Nat.le_refl _) _).alloc (by simp) _
  rw [hW3] at bV ⊢
  have hX3 := hX (W.heap.size + 2) (by omega)
  have h03 : X (W.heap.size + 2) [] W3 := by rw [← hs3]; exact h0 W3 hB3
  clear hBs c1 bY
  refine wpIn_rangeFunc_ownG rfl (by omega) (gf := 65) (lb := #[.pointer (some ⟨W.heap.size + 1, 0, none⟩)]) rfl trivial (enters_of Try.func65 (by kernel_rfl) rfl)
    (values_stops _ (W.heap.size + 1) n₀ _ zs hreach W3 (by omega) (by omega) bV.cell (HI.out.below (hB3.mono hn₀))) belowK_t (belowK_b (by omega)) (Below.refl _ _) (fun _ => rfl)
    (fun pre W' => X (W.heap.size + 2) (inShard m pre) W' ∧ (Boxed W' W.heap.size 23 (.func (.yield l) #[] #[]) ∧ Boxed W' Bn 3 (.int .i64 m)))
    (fun _ _ _ => False)
    (by rw [hs3]; exact OwnFrom.and (fun s => hX3 (inShard m s)) (Own.from (fun s A B row hs hg hr => ⟨boxed_own _ _ (fun _ : List Tx => _) s A B row hs.1 hg hr, boxed_own _ _ (fun _ : List Tx => _) s A B row hs.2 hg hr⟩) _))
    (fun _ _ _ _ _ hs _ _ => hs)
    ⟨h03, bY3, bN3⟩
    (fun x => { tmps := #[.func (.yield l) #[] #[], .pointer (some ⟨Bs, 0, none⟩), .pointer (some ⟨Bn, 0, none⟩), .pointer (some ⟨W.heap.size, 0, none⟩), sv x, .slice A zs.length cap, .func (.func 65) #[] #[.pointer (some ⟨W.heap.size + 1, 0, none⟩)], sv x, undef, undef, undef, undef, undef, undef, undef, undef, undef, undef], defers := [] }) ?assign ?body ?done ?stop
  case assign =>
    intro l x W K hK
    gi_wp2
    exact hK
  case body =>
    rintro l' pre x W1 ⟨hx1, hy1, hn1⟩ hlen
    have CO := fun w => CallsIn.inRound l' ((callsIn_wide (n := n + 3 - 1 - 1 - 1)).2 (shard_of x.1 w x.2))
    have cy := hy1.cell
    have cn := hn1.cell
    have hx1d : X (W.heap.size + 2) (inShard m pre) W1.drew := hX3 _ _ _ none hx1 ⟨rfl, rfl, rfl, Nat.le_refl _, fun _ _ _ => rfl⟩ (fun _ h => by cases h)
    obtain ⟨fn, tmps, assign, body, hy, hR⟩ := hY _ _ x W1.drew (by omega) hx1d (Nat.lt_of_le_of_lt (List.length_filter_le _ _) hlen)
    have hmx : Try.prog.follows .mixedOrders = true := by kernel_rfl
    have hs8 := shardL_lt x.1
    by_cases heq : (shardL x.1 : Int) = m
    · have hb : ((shardL x.1 : Int) == m) = true := by simpa using heq
      gi_wp2
      gi_region_with_o (first | (refine ⟨trivial, ?_⟩; gi_at_call 20; refine (CO _).mono ?_; rintro e w' ⟨rfl, rfl⟩) | (refine RoundIn.mono (show RoundIn (Fence.wide.inRound l') n _ _ _ _ _ _ _ _ from hR) ?_; rintro e W5 ⟨rfl, hx3, hk3, hb3, hn3, hk3'⟩))
      all_goals gi_wp2
      all_goals refine ⟨⟨hk3.size, fun k o hk h ho => hk3.same k o (by omega) h ho⟩, ⟨hb3.os, hb3.tape, hb3.output, hb3.size, hb3.block⟩, by rw [inShard_hit pre heq]; exact hx3, ?_, ?_⟩
      all_goals first | exact (hk3' _ (Nat.le_refl _) (by omega)).trans hy1 | exact hn3.trans hn1
    · have hb : ((shardL x.1 : Int) == m) = false := by simpa using heq
      gi_wp2
      gi_region_with_o (first | (refine ⟨trivial, ?_⟩; gi_at_call 20; refine (CO _).mono ?_; rintro e w' ⟨rfl, rfl⟩) | (with_reducible show (∀ f, none = some f → _) ∧ _; refine ⟨fun _ h => (by cases h), ?_⟩))
      all_goals gi_wp2
      all_goals exact ⟨(KeepsOthers.drew W1).from _, (Below.refl _ W1).drew, by rw [inShard_miss pre heq]; exact hx1d, hy1, hn1⟩
  case done =>
    rintro D ys W4 hD rfl ⟨hx4, -, -⟩ hK
    gi_wp2
    refine ⟨by simp, .inl ⟨_, _, rfl, run_takeDeferred hK, ?_⟩⟩
    exact ⟨_, results_none rfl _ _ _, ⟨_, rfl⟩, hX3.putObj _ hx4 (by omega) hK rfl⟩
  case stop =>
    rintro D c pre W4 _ _ h _
    exact h.elim

/-- How a round's body that never leaves is left. -/
def goesOn (R : World → Prop) : Exit → Act → World → Prop
  | .normal, _, W' => R W'
  | _, _, _ => False
/-- What a round keeps for within's closure. -/
structure KeepsIt (n₀ Bn s H : Nat) (W W' : World) : Prop where
  bel : Below n₀ W W'
  num : W'.heap[Bn]? = W.heap[Bn]?
  mid : ∀ k, s ≤ k → k < H → W'.heap[k]? = W.heap[k]?
theorem KeepsIt.trans {n₀ Bn s H : Nat} {A B C : World} (h : KeepsIt n₀ Bn s H A B) (k : KeepsIt n₀ Bn s H B C) : KeepsIt n₀ Bn s H A C :=
  ⟨h.bel.trans k.bel, k.num.trans h.num, fun i h1 h2 => (k.mid i h1 h2).trans (h.mid i h1 h2)⟩
theorem KeepsIt.putObj {n₀ Bn s H : Nat} (W : World) (l : Nat) (o : Obj) (h1 : n₀ ≤ l) (h2 : Bn ≠ l) (h3 : l < s) : KeepsIt n₀ Bn s H W (W.putObj l o) :=
  ⟨⟨rfl, rfl, rfl, by simp, fun k hk => World.putObj_heap_other (by omega)⟩, World.putObj_heap_other h2, fun k hk _ => World.putObj_heap_other (by omega)⟩

/-- A range over a function whose iterator ranges over another one. -/
theorem wpIn_range_it {P : Program} {α : Type} {g : Operand} {ps : Array Tmp} {assign body : Code} {Q : Exit → Act → World → Prop} {a : Act} {w : World} {n : Nat}
    {gf : Nat} {lb : Array Value} (hg : a.eval g = .func (.func gf) #[] lb) (eg : ∀ args w, (callFunc gf args).run P w = .ok (.enter gf args) w)
    {encs : α → Array Value} (hps : ∀ x, (encs x).size = ps.size) (n₀ Bn : Nat) (hn₀ : n₀ ≤ w.heap.size) (hBn : Bn < w.heap.size) (ys : List α) (N : Nat)
    (hcall : ∀ (X : Nat → List α → World → Prop) (W : World), Below w.heap.size w W → W.heap.size = w.heap.size + 2 → (∀ H, W.heap.size ≤ H → OwnFrom H (X H)) → (∀ W', Below W.heap.size W W' → X W'.heap.size [] W') →
      (∀ H pre x W1, W.heap.size ≤ H → X H pre W1 → pre.length < N → YieldAt Fence.wide n P (w.heap.size + 1) (encs x) W1 fun e W' => e = .returned (.bool true) ∧ X H (pre ++ [x]) W' ∧ KeepsFrom W.heap.size W1 W' ∧ KeepsIt n₀ Bn W.heap.size H W1 W') →
      CallsIn Fence.wide (n + 3) P gf (#[.func (.yield (w.heap.size + 1)) #[] #[]] ++ lb) W fun e W' => (∃ v, e = .returned v) ∧ X (W.heap.size + 2) ys W')
    (I : Nat → List α → World → Prop) (hI : ∀ H, OwnFrom w.heap.size (I H)) (h0 : ∀ W', Below w.heap.size w W' → I W'.heap.size [] W') (a₁ : α → Act)
    (hassign : ∀ (l : Nat) (x : α) (W : World) (K : Act → World → Prop), K (a₁ x) W →
      assign.wpIn (Fence.wide.inRound l) n P (Exit.then K (fun _ _ _ => False)) { tmps := (ps.zip (encs x)).foldl (fun t (p, v) => t.setIfInBounds p v) a.tmps, defers := [] } W)
    (hbody : ∀ (l H : Nat) (pre : List α) (x : α) (W : World), w.heap.size + 2 ≤ H → I H pre W → pre.length < N → body.wpIn (Fence.wide.inRound l) n P (goesOn fun W' => KeepsFrom w.heap.size W W' ∧ KeepsIt n₀ Bn (w.heap.size + 2) H W W' ∧ I H (pre ++ [x]) W') (a₁ x) W)
    (hdone : ∀ (D H : Nat) (W : World), w.heap.size ≤ D → w.heap.size ≤ H → I H ys W → W.heap[D]? = some (.deferred (some [])) → Q .normal { a with defers := { target := .collected D, args := #[] } :: a.defers } W) :
    (Code.rangeFunc g ps assign body).wpIn Fence.wide (n + 4) P Q a w := by
  refine wpIn_rangeFunc ?_
  intro fn hfn
  show ∃ l mark w₁ d w₁' f args w₂, (Instr.enterLoop fn a.tmps ps assign body none).run P w = .ok (l, mark) w₁ ∧ _
  obtain ⟨rec, hrec⟩ : ∃ rec : LoopState → Option Code → Loop, rec = fun st pe => { state := st, pending := pe, fn, tmps := a.tmps, params := ps, assign, body, defers := w.heap.size } := ⟨_, rfl⟩
  obtain ⟨W1, hW1⟩ : ∃ W1, (w.alloc (.deferred (some []))).alloc (.loop (rec .ready none)) = W1 := ⟨_, rfl⟩
  have hs1 : W1.heap.size = w.heap.size + 2 := by rw [← hW1]; simp
  have hL1 : W1.heap[w.heap.size + 1]? = some (.loop (rec .ready none)) := by
    rw [← hW1]; have := World.alloc_heap_new (w.alloc (.deferred (some []))) (.loop (rec .ready none)); rwa [World.size_alloc] at this
  have hK1 : W1.heap[w.heap.size]? = some (.deferred (some [])) := by
    rw [← hW1]; exact (Below.heap_alloc _ _ _ (by simp)).trans (World.alloc_heap_new w _)
  have hb1 : Below w.heap.size w W1 := by
    rw [← hW1]; exact ((Below.refl _ w).alloc (Nat.le_refl _) _).alloc (by simp) _
  refine ⟨w.heap.size + 1, [{ target := .collected w.heap.size, args := #[] }], W1, { target := .fn (.func gf) lb, args := #[.func (.yield (w.heap.size + 1)) #[] #[]] }, W1, gf,
    #[.func (.yield (w.heap.size + 1)) #[] #[]] ++ lb, W1, ?_, ?_, ?_, ?_, (fun h => (by cases h)), ?_⟩
  · rw [← hW1, hrec]; exact run_enterLoop_outer _ _ _ _ _
  · simp only [resolve, hg]
    simp [go_sem]
  · intro f' hf'; trivial
  · simp [invoke, go_sem, eg]
  · have hkeep : ∀ {H : Nat} {A B : World} {row : Option Nat} {k : Nat} {o : Obj}, W1.heap.size ≤ H → A.grownBy B row → (∀ r, row = some r → H ≤ r ∧ ∃ o : Obj, A.heap[r]? = some o ∧ o.isCells = false) → k < w.heap.size + 2 → A.heap[k]? = some o → B.heap[k]? = some o :=
      fun {H A B row k o} hH hg' hr hk h => (hg'.block k (Array.getElem?_eq_some_iff.1 h).1 (fun e => by have := (hr k e.symm).1; omega)).trans h
    refine (hcall (fun H pre W => I H pre W ∧ W.heap[w.heap.size + 1]? = some (.loop (rec .ready none)) ∧ W.heap[w.heap.size]? = some (.deferred (some []))) W1 hb1 hs1
      (fun H hH s A B row hs hg' hr => ⟨hI H s A B row hs.1 hg' (fun r e => ⟨by have := (hr r e).1; omega, (hr r e).2⟩), hkeep hH hg' hr (by omega) hs.2.1, hkeep hH hg' hr (by omega) hs.2.2⟩)
      (fun W' hW' => ⟨h0 W' (hb1.trans (hW'.mono (by omega))), (hW'.block _ (by omega)).trans hL1, (hW'.block _ (by omega)).trans hK1⟩) ?_).mono ?_
    · rintro H pre x W hH ⟨hi, hl, hk⟩ hlen
      have hlt : w.heap.size + 1 < W.heap.size := (Array.getElem?_eq_some_iff.1 hl).1
      have hy := run_yield (P := P) (args := encs x) hl (by rw [hrec]; exact hps x)
      rw [hrec] at hy
      refine ⟨fn, _, assign, body, hy, roundIn_of_wpIn hfn (hassign _ x W _ ?_)⟩
      refine ⟨_, run_beginRound hl (by rw [hrec]), ?_⟩
      have hl2 : (W.putObj (w.heap.size + 1) (.loop { rec .ready none with state := .busy })).heap[w.heap.size + 1]? = some (.loop { rec .ready none with state := .busy }) := World.putObj_heap_same hlt
      have hk2 : (W.putObj (w.heap.size + 1) (.loop { rec .ready none with state := .busy })).heap[w.heap.size]? = some (.deferred (some [])) := (World.putObj_heap_other (by omega)).trans hk
      refine wpIn_mono (hbody _ H pre x _ (by omega) ((hI H).putObj _ hi (by omega) hl rfl) hlen) ?_
      rintro e a3 W3 hp
      cases e with
      | normal =>
        obtain ⟨hk3, hkp3, hi3⟩ := hp
        have hl3 := hk3.same _ _ (by omega) hl2 rfl
        have hr := run_endRound (P := P) none hl3
        have e1 : (.loop { { rec .ready none with state := .busy } with state := if (none : Option Code).isNone then .ready else .done, pending := none } : Obj) = .loop (rec .ready none) := by rw [hrec]; rfl
        refine ⟨_, _, hr, rfl, ⟨(hI H).putObj _ hi3 (by omega) hl3 rfl, ?_, (World.putObj_heap_other (by omega)).trans (hk3.same _ _ (Nat.le_refl _) hk2 rfl)⟩, ?_, ?_⟩
        · rw [World.putObj_heap_same (Array.getElem?_eq_some_iff.1 hl3).1, e1]
        · refine ⟨Nat.le_trans (by simp) (Nat.le_trans hk3.size (by simp)), fun k o hk h ho => ?_⟩
          have h1 : (W.putObj (w.heap.size + 1) (.loop { rec .ready none with state := .busy })).heap[k]? = some o := (World.putObj_heap_other (by omega)).trans h
          exact (World.putObj_heap_other (by omega)).trans (hk3.same k o (by omega) h1 ho)
        · rw [hs1]
          exact ((KeepsIt.putObj W _ _ (by omega) (by omega) (by omega)).trans hkp3).trans (KeepsIt.putObj W3 _ _ (by omega) (by omega) (by omega))
      | ret => exact hp.elim
      | exit id => exact hp.elim
      | goto t => exact hp.elim
      | panic ch => exact hp.elim
      | outgrown => exact hp.elim
    · rintro e W2 ⟨⟨v, rfl⟩, hi, hl, hk⟩
      have := run_endLoop (P := P) hl (by rw [hrec]; simp)
      rw [hrec] at this
      exact ⟨none, _, this, hdone _ _ _ (Nat.le_refl _) (by omega) ((hI _).putObj _ hi (by omega) hl rfl) ((World.putObj_heap_other (by omega)).trans hk)⟩
end Go.Proofs.Ytlonaniomnalnaa
