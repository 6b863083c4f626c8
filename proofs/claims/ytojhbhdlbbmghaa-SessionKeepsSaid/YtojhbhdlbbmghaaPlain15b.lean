/-
  Chapter 15's table in plain terms: each number once; what was done is never fresh again.
-/
import Derived.Test.YtojhbhdlbbmghaaPlain15
namespace Go.Proofs.Ytojhbhdlbbmghaa
open Go.RowKit
def Once (l : List Ses) : Prop := (l.map Ses.id).Nodup
theorem once_reg {t : TS} (h : t.Ok) (ho : Once t.l) : Once (regL t.l ⟨t.ever + 1, 0, .empty⟩) := by
  have hnew : ∀ l' : List Ses, (∀ s ∈ l', s ∈ t.l) → (l'.map Ses.id).Nodup → Once (l' ++ [⟨t.ever + 1, 0, .empty⟩]) := by
    intro l' hsub hnd
    unfold Once
    rw [List.map_append, List.nodup_append]
    refine ⟨hnd, by simp, fun a ha b hb => ?_⟩
    obtain ⟨s, hs, rfl⟩ := List.mem_map.1 ha
    simp at hb
    subst hb
    have := h.ids s (hsub s hs)
    omega
  unfold regL
  split
  · refine hnew _ (fun s hs => List.mem_of_mem_drop hs) ?_
    rw [List.map_drop]
    exact List.Nodup.sublist (List.drop_sublist _ _) ho
  · exact hnew _ (fun s hs => hs) ho
theorem erase_no {l : List Ses} (ho : Once l) {k : Nat} {x : Ses} (hx : l[k]? = some x) : ∀ s ∈ l.eraseIdx k, s.id ≠ x.id := by
  intro s hs he
  obtain ⟨j, hj, hjs⟩ := List.mem_iff_getElem.1 hs
  obtain ⟨hk, hkx⟩ := List.getElem?_eq_some_iff.1 hx
  have hnd : (l.map Ses.id).Nodup := ho
  rw [List.getElem_eraseIdx] at hjs
  have key : ∀ i (hi : i < l.length), i ≠ k → l[i].id ≠ x.id := by
    intro i hi hne heq
    have hp := List.pairwise_iff_getElem.1 hnd
    rcases Nat.lt_or_gt_of_ne hne with h | h
    · refine hp i k (by simpa using hi) (by simpa using hk) h ?_
      rw [List.getElem_map, List.getElem_map, heq, hkx]
    · refine hp k i (by simpa using hk) (by simpa using hi) h ?_
      rw [List.getElem_map, List.getElem_map, heq, hkx]
  rw [List.length_eraseIdx_of_lt hk] at hj
  split at hjs
  · subst hjs
    exact key j (by omega) (by omega) he
  · subst hjs
    exact key (j + 1) (by omega) (by omega) he
theorem once_done {l : List Ses} (ho : Once l) (id seq : Int) (r : ByteArray) : Once (doneL l id seq r) := by
  unfold doneL
  split
  · rename_i h0
    obtain ⟨x, hx, hlt, _⟩ := askS_zero h0
    obtain ⟨y, hy, hyi⟩ := fndS_id hlt
    have hno := erase_no ho hy
    unfold Once
    rw [List.map_append, List.nodup_append]
    refine ⟨?_, by simp, fun a ha b hb => ?_⟩
    · exact List.Nodup.sublist ((List.eraseIdx_sublist _ _).map _) ho
    · obtain ⟨s, hs, rfl⟩ := List.mem_map.1 ha
      simp at hb
      subst hb
      rw [← hyi]
      exact hno s hs
  · exact ho
theorem once_does {t : TS} (h : t.Ok) (ho : Once t.l) (a : Act) : Once (t.does a).l := by
  unfold TS.does
  split
  · exact once_reg h ho
  · split
    · exact ho
    · exact once_done ho _ _ _
/-- What is known of a session's number since it did something. -/
structure Did (id seq : Int) (r : ByteArray) (t : TS) : Prop where
  ok : t.Ok
  pos : 1 ≤ seq
  old : id ≤ t.ever
  mem : ∀ s ∈ t.l, s.id = id → seq ≤ s.seq ∧ (s.seq = seq → s.reply = r)
theorem did_first {t : TS} (h : t.Ok) (ho : Once t.l) (id seq : Int) (r : ByteArray) (h0 : (askS t.l id seq).1 = 0) : Did id seq r ⟨doneL t.l id seq r, t.ever⟩ := by
  obtain ⟨x, hx, hlt, _, hp, _⟩ := askS_zero h0
  obtain ⟨y, hy, hyi⟩ := fndS_id hlt
  have hno := erase_no ho hy
  refine ⟨⟨doneL_len h.len _ _ _, h.ever, fun s hs => ?_⟩, hp, by rw [← hyi]; exact (h.ids y (List.mem_of_getElem? hy)).2, fun s hs he => ?_⟩
  · rcases doneL_mem hs with hs | ⟨rfl, z, hz, hzi⟩
    · exact h.ids s hs
    · have := h.ids z hz
      rw [hzi] at this
      exact this
  · have hs : s ∈ doneL t.l id seq r := hs
    unfold doneL at hs
    rw [if_pos h0] at hs
    rcases List.mem_append.1 hs with hs | hs
    · exact absurd (he.trans hyi.symm) (hno s hs)
    · simp at hs
      subst hs
      exact ⟨Int.le_refl _, fun _ => rfl⟩
theorem did_does {id seq : Int} {r : ByteArray} {t : TS} (h : Did id seq r t) (a : Act) : Did id seq r (t.does a) := by
  refine ⟨ok_does h.ok a, h.pos, ?_, ?_⟩
  · have := h.old
    unfold TS.does
    split
    · show id ≤ t.ever + 1; omega
    · split
      · exact h.old
      · exact h.old
  · unfold TS.does
    split
    · intro s hs he
      rcases regL_mem hs with hs | rfl
      · exact h.mem s hs he
      · have he : t.ever + 1 = id := he
        have := h.old
        omega
    · split
      · exact h.mem
      · intro s hs he
        have hs : s ∈ doneL t.l a.id a.seq a.reply := hs
        unfold doneL at hs
        split at hs
        · rename_i h0
          obtain ⟨x, hx, hlt, _, hp, hsq⟩ := askS_zero h0
          obtain ⟨y, hy, hyi⟩ := fndS_id hlt
          rw [hx] at hy
          injection hy with hy
          subst hy
          rcases List.mem_append.1 hs with hs | hs
          · exact h.mem s (List.mem_of_mem_eraseIdx hs) he
          · simp at hs
            subst hs
            have he : a.id = id := he
            have := (h.mem x (List.mem_of_getElem? hx) (hyi.trans he)).1
            exact ⟨by show seq ≤ a.seq; omega, fun e => by have e : a.seq = seq := e; omega⟩
        · exact h.mem s hs he
theorem did_ask {id seq : Int} {r : ByteArray} {t : TS} (h : Did id seq r t) : askS t.l id seq = (1, r) ∨ askS t.l id seq = (2, .empty) ∨ askS t.l id seq = (3, .empty) := by
  have hp := h.pos
  unfold askS atS
  cases hx : t.l[fndS t.l id]? with
  | none => exact .inr (.inr rfl)
  | some x =>
    have hlt := (List.getElem?_eq_some_iff.1 hx).1
    obtain ⟨y, hy, hyi⟩ := fndS_id hlt
    rw [hx] at hy
    injection hy with hy
    subst hy
    obtain ⟨h1, h2⟩ := h.mem x (List.mem_of_getElem? hx) hyi
    simp only
    by_cases h3 : seq < x.seq
    · exact .inr (.inl (if_pos (.inr h3)))
    · left
      rw [if_neg (by omega), if_pos (by omega), h2 (by omega)]
end Go.Proofs.Ytojhbhdlbbmghaa
