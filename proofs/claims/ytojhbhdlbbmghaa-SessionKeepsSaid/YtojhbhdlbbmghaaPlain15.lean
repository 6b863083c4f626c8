/-
  Chapter 15's table in plain terms.
-/
import Derived.Test.YtojhbhdlbbmghaaLaw15a
namespace Go.Proofs.Ytojhbhdlbbmghaa
open Go.RowKit
/-- What holds of a table at all times. -/
structure TS.Ok (t : TS) : Prop where
  len : t.l.length ≤ 8
  ever : 0 ≤ t.ever
  ids : ∀ s ∈ t.l, 1 ≤ s.id ∧ s.id ≤ t.ever
theorem ok_new : TS.Ok ⟨[], 0⟩ := ⟨by simp, by simp, fun s h => by cases h⟩
theorem regL_len {l : List Ses} (h : l.length ≤ 8) (x : Ses) : (regL l x).length ≤ 8 := by
  unfold regL
  split
  · simp; omega
  · simp; omega
theorem regL_mem {l : List Ses} {x s : Ses} (h : s ∈ regL l x) : s ∈ l ∨ s = x := by
  unfold regL at h
  split at h
  · rcases List.mem_append.1 h with h | h
    · exact .inl (List.mem_of_mem_drop h)
    · exact .inr (by simpa using h)
  · rcases List.mem_append.1 h with h | h
    · exact .inl h
    · exact .inr (by simpa using h)
theorem ok_reg {t : TS} (h : t.Ok) : TS.Ok ⟨regL t.l ⟨t.ever + 1, 0, .empty⟩, t.ever + 1⟩ := by
  refine ⟨regL_len h.len _, by have := h.ever; show 0 ≤ t.ever + 1; omega, fun s hs => ?_⟩
  have he := h.ever
  rcases regL_mem hs with hs | rfl
  · have := h.ids s hs
    exact ⟨this.1, by show s.id ≤ t.ever + 1; omega⟩
  · exact ⟨by show 1 ≤ t.ever + 1; omega, Int.le_refl _⟩
theorem fndS_id {l : List Ses} {id : Int} (h : fndS l id < l.length) : ∃ x, l[fndS l id]? = some x ∧ x.id = id := by
  refine ⟨_, List.getElem?_eq_getElem h, ?_⟩
  unfold fndS at h ⊢
  have := List.findIdx_getElem (w := h)
  simpa using this
theorem doneL_len {l : List Ses} (h : l.length ≤ 8) (id seq : Int) (r : ByteArray) : (doneL l id seq r).length ≤ 8 := by
  unfold doneL
  split
  · rename_i h0
    obtain ⟨x, hx, hlt, _⟩ := askS_zero h0
    rw [List.length_append, List.length_eraseIdx_of_lt hlt]; simp; omega
  · exact h
theorem doneL_mem {l : List Ses} {id seq : Int} {r : ByteArray} {s : Ses} (h : s ∈ doneL l id seq r) : s ∈ l ∨ (s = ⟨id, seq, r⟩ ∧ ∃ x ∈ l, x.id = id) := by
  unfold doneL at h
  split at h
  · rename_i h0
    obtain ⟨x, hx, hlt, _⟩ := askS_zero h0
    rcases List.mem_append.1 h with h | h
    · exact .inl (List.mem_of_mem_eraseIdx h)
    · obtain ⟨y, hy, hyi⟩ := fndS_id hlt
      exact .inr ⟨by simpa using h, y, List.mem_of_getElem? hy, hyi⟩
  · exact .inl h
theorem ok_does {t : TS} (h : t.Ok) (a : Act) : (t.does a).Ok := by
  unfold TS.does
  split
  · exact ok_reg h
  · split
    · exact h
    · refine ⟨doneL_len h.len _ _ _, h.ever, fun s hs => ?_⟩
      rcases doneL_mem hs with hs | ⟨rfl, x, hx, hxi⟩
      · exact h.ids s hs
      · have := h.ids x hx
        rw [hxi] at this
        exact this
theorem ever_does (t : TS) (a : Act) : (t.does a).ever ≤ t.ever + 1 := by
  unfold TS.does
  split
  · exact Int.le_refl _
  · split
    · show t.ever ≤ t.ever + 1; omega
    · show t.ever ≤ t.ever + 1; omega
/-- What a table is after acts. -/
def TS.after (l : List Act) : TS := l.foldl TS.does ⟨[], 0⟩
theorem after_snoc (l : List Act) (k : Nat) (a : Act) (h : l[k]? = some a) : TS.after (l.take (k + 1)) = (TS.after (l.take k)).does a := by
  unfold TS.after
  rw [List.take_add_one, h, List.foldl_append]; rfl
theorem after_ok (l : List Act) : (TS.after l).Ok ∧ (TS.after l).ever ≤ l.length := by
  suffices H : ∀ (m : List Act) (t : TS), t.Ok → (m.foldl TS.does t).Ok ∧ (m.foldl TS.does t).ever ≤ t.ever + m.length by
    have := H l ⟨[], 0⟩ ok_new
    exact ⟨this.1, by have h2 := this.2; unfold TS.after; simpa using h2⟩
  intro m
  induction m with
  | nil => intro t h; exact ⟨h, by simp⟩
  | cons a m ih =>
    intro t h
    have := ih (t.does a) (ok_does h a)
    refine ⟨this.1, ?_⟩
    have h2 := this.2
    have h3 := ever_does t a
    simp only [List.foldl_cons, List.length_cons]
    omega
/-- The session 'id' after m others have been registered behind it. -/
structure Stay (id : Int) (m : Nat) (l : List Ses) : Prop where
  len : l.length ≤ 8
  there : m < 8 → ∃ pre post, l = pre ++ ⟨id, 0, .empty⟩ :: post ∧ post.length = m ∧ (∀ s ∈ pre, s.id ≠ id) ∧ (∀ s ∈ post, s.id ≠ id)
  gone : 8 ≤ m → ∀ s ∈ l, s.id ≠ id
theorem stay_first {t : TS} (h : t.Ok) : Stay (t.ever + 1) 0 (regL t.l ⟨t.ever + 1, 0, .empty⟩) := by
  refine ⟨regL_len h.len _, fun _ => ?_, fun h => by omega⟩
  unfold regL
  split
  · exact ⟨t.l.drop 1, [], rfl, rfl, fun s hs => by have := h.ids s (List.mem_of_mem_drop hs); omega, fun s hs => by cases hs⟩
  · exact ⟨t.l, [], rfl, rfl, fun s hs => by have := h.ids s hs; omega, fun s hs => by cases hs⟩
theorem stay_next {id : Int} {m : Nat} {l : List Ses} (h : Stay id m l) (x : Ses) (hx : x.id ≠ id) : Stay id (m + 1) (regL l x) := by
  refine ⟨regL_len h.len _, fun hm => ?_, fun hm s hs => ?_⟩
  · obtain ⟨pre, post, rfl, hp, hpre, hpost⟩ := h.there (by omega)
    have hpx : ∀ s ∈ post ++ [x], s.id ≠ id := by
      intro s hs
      rcases List.mem_append.1 hs with hs | hs
      · exact hpost s hs
      · obtain rfl : s = x := by simpa using hs
        exact hx
    unfold regL
    split
    · rename_i h8
      match pre, hpre with
      | [], _ => simp at h8; omega
      | y :: pre, hpre => exact ⟨pre, post ++ [x], by simp, by simp; omega, fun s hs => hpre s (by simp [hs]), hpx⟩
    · exact ⟨pre, post ++ [x], by simp, by simp; omega, hpre, hpx⟩
  · rcases Nat.lt_or_ge m 8 with h7 | h7
    · obtain ⟨pre, post, hl, hp, hpre, hpost⟩ := h.there h7
      have hlen := h.len
      rw [hl] at hlen
      simp at hlen
      obtain rfl : pre = [] := List.length_eq_zero_iff.1 (by omega)
      rw [hl] at hs
      unfold regL at hs
      rw [if_pos (by simp; omega)] at hs
      simp at hs
      rcases hs with hs | rfl
      · exact hpost s hs
      · exact hx
    · rcases regL_mem hs with hs | rfl
      · exact h.gone h7 s hs
      · exact hx
/-- What it is asked then. -/
theorem stay_ask {id : Int} {m : Nat} {l : List Ses} (h : Stay id m l) : askS l id 1 = if m < 8 then (0, .empty) else (3, .empty) := by
  by_cases hm : m < 8
  · rw [if_pos hm]
    obtain ⟨pre, post, rfl, hp, hpre, _⟩ := h.there hm
    have hf : fndS (pre ++ ⟨id, 0, .empty⟩ :: post) id = pre.length := by
      unfold fndS
      refine (List.findIdx_eq (by simp)).2 ⟨by simp, fun j hj => ?_⟩
      rw [List.getElem_append_left hj]
      have := hpre pre[j] (List.getElem_mem hj)
      simpa using this
    unfold askS atS
    rw [hf, List.getElem?_append_right (Nat.le_refl _)]
    simp
  · rw [if_neg hm]
    have hf : ¬fndS l id < l.length := by
      intro hlt
      obtain ⟨x, hx, hxi⟩ := fndS_id hlt
      exact h.gone (by omega) x (List.mem_of_getElem? hx) hxi
    unfold askS atS
    rw [List.getElem?_eq_none (by omega)]
end Go.Proofs.Ytojhbhdlbbmghaa
