/-
  Squeezing, plain: the fields between blanks, joined by one blank.
-/
import Derived.Lib.FieldsP
import Derived.Lib.MapLaws
import Derived.Lib.Join
import Derived.Test.YtjfnkjpnjiobjaaStr
namespace Go.Proofs.Ytjfnkjpnjiobjaa
open Go.RowKit Go.Lib
def blank (b : UInt8) : Bool := b == 32 || b == 9 || b == 10 || b == 13
def blankR (r : Nat) : Bool := r == 32 || r == 9 || r == 10 || r == 13
theorem blank_nat (b : UInt8) : blank b = blankR b.toNat := by
  unfold blank blankR
  rw [Bool.eq_iff_iff]
  simp only [Bool.or_eq_true, beq_iff_eq, ← UInt8.toNat_inj]
  rfl
theorem blankR_high {r : Nat} (h : 128 ≤ r) : blankR r = false := by
  unfold blankR
  simp only [Bool.or_eq_false_iff, beq_eq_false_iff_ne]
  omega
def fieldsB : Option (List UInt8) → List UInt8 → List (List UInt8)
  | cur, [] => cur.toList
  | cur, b :: r => if blank b then cur.toList ++ fieldsB none r else fieldsB (some (cur.getD [] ++ [b])) r
theorem fieldsB_run (u : List UInt8) : ∀ (cur : Option (List UInt8)) (r : List UInt8), (∀ b ∈ u, blank b = false) → u ≠ [] → fieldsB cur (u ++ r) = fieldsB (some (cur.getD [] ++ u)) r := by
  induction u with
  | nil => intro _ _ _ h; exact absurd rfl h
  | cons b u ih =>
    intro cur r h _
    have hb := h b (by simp)
    rw [List.cons_append, fieldsB, if_neg (by simp [hb])]
    cases u with
    | nil => rfl
    | cons c u =>
      rw [ih _ r (fun x hx => h x (List.mem_cons_of_mem _ hx)) (by simp)]
      simp
theorem get_list (l : List UInt8) (i : Nat) : (⟨l.toArray⟩ : ByteArray).get! i = l.getD i 0 := by
  show l.toArray[i]! = _
  rw [List.getElem!_toArray, List.getElem!_eq_getElem?_getD, List.getD_eq_getElem?_getD]
  rfl
theorem dec_step (l : List UInt8) (pos : Nat) (h : pos < l.length) : ∃ r n, Utf8.decode ⟨l.toArray⟩ pos = (r, n) ∧ blank l[pos] = blankR r ∧ 1 ≤ n ∧ pos + n ≤ l.length ∧ (blankR r = true → n = 1) ∧ ∀ j, j < n → 0 < j → blank (l.getD (pos + j) 0) = false := by
  rw [decode_at]
  have e0 : (⟨l.toArray⟩ : ByteArray).get! pos = l[pos] := by rw [get_list]; simp [List.getD_eq_getElem?_getD, List.getElem?_eq_getElem h]
  rw [e0, get_list, get_list, get_list, str_size]
  have hb := blank_nat l[pos]
  have hb8 := l[pos].toNat_lt
  have hh : ∀ c : UInt8, c.toNat / 64 = 2 → blank c = false := fun c hc => by rw [blank_nat]; exact blankR_high (by omega)
  by_cases h0 : l[pos].toNat < 128
  · refine ⟨l[pos].toNat, 1, ?_, hb, Nat.le_refl _, by omega, fun _ => rfl, fun j h1 h2 => by omega⟩
    unfold decodeN
    rw [if_pos h0]
  · have hbf : blank l[pos] = false := by rw [hb]; exact blankR_high (by omega)
    rcases decodeN_shape (l.length - pos) l[pos].toNat (l.getD (pos + 1) 0).toNat (l.getD (pos + 2) 0).toNat (l.getD (pos + 3) 0).toNat with ⟨c, e⟩ | ⟨c1, c2, c3, cv, e⟩ | ⟨c1, c2, c3, c4, cv, cs, e⟩ | ⟨c1, c2, c3, c4, c5, cv, cw, e⟩ | e
    · omega
    · have hr := blankR_high cv
      refine ⟨_, 2, e, by rw [hbf, hr], by omega, by omega, fun h => (by rw [hr] at h; cases h), fun j h1 h2 => ?_⟩
      obtain rfl : j = 1 := by omega
      exact hh _ c3
    · have hr := blankR_high (Nat.le_trans (by omega : 128 ≤ 2048) cv)
      refine ⟨_, 3, e, by rw [hbf, hr], by omega, by omega, fun h => (by rw [hr] at h; cases h), fun j h1 h2 => ?_⟩
      have : j = 1 ∨ j = 2 := by omega
      rcases this with rfl | rfl
      · exact hh _ c3
      · exact hh _ c4
    · have hr := blankR_high (Nat.le_trans (by omega : 128 ≤ 65536) cv)
      refine ⟨_, 4, e, by rw [hbf, hr], by omega, by omega, fun h => (by rw [hr] at h; cases h), fun j h1 h2 => ?_⟩
      have : j = 1 ∨ j = 2 ∨ j = 3 := by omega
      rcases this with rfl | rfl | rfl
      · exact hh _ c3
      · exact hh _ c4
      · exact hh _ c5
    · have hr : blankR 65533 = false := rfl
      exact ⟨_, 1, e, by rw [hbf, hr], Nat.le_refl _, by omega, fun h => rfl, fun j h1 h2 => by omega⟩
theorem extr (l : List UInt8) (a b : Nat) : (⟨l.toArray⟩ : ByteArray).extract a b = ⟨((l.drop a).take (b - a)).toArray⟩ := by
  apply ByteArray.ext
  simp [List.extract_eq_take_drop]
theorem spans_eq (l : List UInt8) : ∀ (f pos : Nat) (st : Option Nat) (acc : List (Nat × Nat)), pos ≤ l.length → l.length - pos ≤ f → (∀ a, st = some a → a ≤ pos) →
    (closeSpans ⟨l.toArray⟩ (spansFromP blankR ⟨l.toArray⟩ f pos st acc)).map (fun x => (l.drop x.1).take (x.2 - x.1)) = acc.map (fun x => (l.drop x.1).take (x.2 - x.1)) ++ fieldsB (st.map fun a => (l.drop a).take (pos - a)) (l.drop pos) := by
  intro f
  induction f with
  | zero =>
    intro pos st acc h1 h2 h3
    have he : l.drop pos = [] := List.drop_eq_nil_of_le (by omega)
    rw [he]
    cases st with
    | none => simp [spansFromP, closeSpans, fieldsB]
    | some a =>
      have : pos = l.length := by omega
      simp [spansFromP, closeSpans, fieldsB, str_size, this]
  | succ f ih =>
    intro pos st acc h1 h2 h3
    by_cases hlt : pos < l.length
    · obtain ⟨r, n, hd, hb, hn1, hn2, hn3, hrest⟩ := dec_step l pos hlt
      unfold spansFromP
      rw [str_size, if_pos hlt, hd]
      dsimp only
      have hdr := List.drop_eq_getElem_cons hlt
      by_cases hp : blankR r = true
      · have hn := hn3 hp
        subst hn
        rw [if_pos hp]
        have hfb : ∀ cur, fieldsB cur (l.drop pos) = cur.toList ++ fieldsB none (l.drop (pos + 1)) := fun cur => by rw [hdr, fieldsB, if_pos (by rw [hb]; exact hp)]
        cases st with
        | none =>
          dsimp only
          rw [ih _ _ _ hn2 (by omega) (fun a h => by cases h), hfb]
          rfl
        | some a =>
          dsimp only
          rw [ih _ _ _ hn2 (by omega) (fun a h => by cases h), hfb]
          simp
      · rw [if_neg hp]
        have hp : blankR r = false := by simpa using hp
        have hu : l.drop pos = (l.drop pos).take n ++ l.drop (pos + n) := by rw [← List.drop_drop, List.take_append_drop]
        have hall : ∀ b ∈ (l.drop pos).take n, blank b = false := by
          intro b hbm
          obtain ⟨j, hj, rfl⟩ := List.getElem_of_mem hbm
          have hjn : j < n := by rw [List.length_take] at hj; omega
          have hjl : pos + j < l.length := by omega
          rw [List.getElem_take, List.getElem_drop]
          by_cases hj0 : j = 0
          · subst hj0; simpa [hp] using hb
          · have := hrest j hjn (by omega)
            rw [List.getD_eq_getElem?_getD, List.getElem?_eq_getElem hjl] at this
            exact this
        have hne : (l.drop pos).take n ≠ [] := fun h => by
          have := congrArg List.length h
          rw [List.length_take, List.length_drop, List.length_nil] at this
          omega
        have hfb : ∀ cur, fieldsB cur (l.drop pos) = fieldsB (some (cur.getD [] ++ (l.drop pos).take n)) (l.drop (pos + n)) := fun cur => by
          conv => lhs; rw [hu]
          exact fieldsB_run _ cur _ hall hne
        cases st with
        | none =>
          dsimp only
          rw [ih _ _ _ hn2 (by omega) (fun a h => by cases h; omega), hfb]
          simp
        | some a =>
          have ha := h3 a rfl
          dsimp only
          rw [ih _ _ _ hn2 (by omega) (fun a' h => by cases h; omega), hfb]
          simp only [Option.map_some, Option.getD_some]
          rw [show pos + n - a = (pos - a) + n from by omega, List.take_add, List.drop_drop, show a + (pos - a) = pos from by omega]
    · have he : l.drop pos = [] := List.drop_eq_nil_of_le (by omega)
      rw [spansFromP_end _ _ _ _ _ _ (by rw [str_size]; exact hlt), he]
      cases st with
      | none => simp [closeSpans, fieldsB]
      | some a =>
        have : pos = l.length := by omega
        simp [closeSpans, fieldsB, str_size, this]
/-- The text, squeezed. -/
def sq (l : List UInt8) : List UInt8 := Lib.join (fieldsB none l) [32]
theorem fields_eq (l : List UInt8) : (goFieldsP blankR ⟨l.toArray⟩).map (fun x => x.data.toList) = fieldsB none l := by
  have := spans_eq l l.length 0 none [] (Nat.zero_le _) (by omega) (fun a h => by cases h)
  simp only [List.map_nil, List.nil_append, Option.map_none, List.drop_zero] at this
  rw [← this]
  unfold goFieldsP spansOfP
  rw [List.map_map, str_size]
  apply List.map_congr_left
  intro x _
  show ((⟨l.toArray⟩ : ByteArray).extract x.1 x.2).data.toList = _
  rw [extr]
/-- The document's way: byte by byte. -/
def sqStep (s : List UInt8 × Bool) (c : UInt8) : List UInt8 × Bool :=
  if blank c then (s.1, decide (0 < s.1.length)) else (if s.2 then s.1 ++ [32] ++ [c] else s.1 ++ [c], false)
theorem join_snoc (xs : List (List UInt8)) (x : List UInt8) (h : xs ≠ []) (sep : List UInt8) : Lib.join (xs ++ [x]) sep = Lib.join xs sep ++ sep ++ x := by
  obtain ⟨y, r, rfl⟩ := List.exists_cons_of_ne_nil h
  rw [List.cons_append, Lib.join_cons, Lib.join_cons]
  unfold Lib.joinTail
  simp
theorem join_grow (xs : List (List UInt8)) (x y : List UInt8) (sep : List UInt8) : Lib.join (xs ++ [x ++ y]) sep = Lib.join (xs ++ [x]) sep ++ y := by
  cases xs with
  | nil => simp [Lib.join_one]
  | cons a r => rw [join_snoc _ _ (by simp), join_snoc _ _ (by simp)]; simp only [List.append_assoc]
theorem sq_steps : ∀ (r : List UInt8) (F : List (List UInt8)) (cur : Option (List UInt8)) (s : List UInt8 × Bool), (∀ x ∈ F, x ≠ []) → (∀ x, cur = some x → x ≠ []) → s.1 = Lib.join (F ++ cur.toList) [32] → s.2 = (cur.isNone && !F.isEmpty) →
    (r.foldl sqStep s).1 = Lib.join (F ++ fieldsB cur r) [32] := by
  intro r
  induction r with
  | nil => intro F cur s _ _ h _; simpa [fieldsB] using h
  | cons c r ih =>
    intro F cur s hF hc h1 h2
    rw [List.foldl_cons]
    have hpos : ∀ G : List (List UInt8), G ≠ [] → (∀ x ∈ G, x ≠ []) → 0 < (Lib.join G [32]).length := fun G hG hne => by
      obtain ⟨y, t, rfl⟩ := List.exists_cons_of_ne_nil hG
      rw [Lib.join_cons, List.length_append]
      have := List.length_pos_iff.2 (hne y (by simp))
      omega
    by_cases hb : blank c = true
    · unfold sqStep
      rw [if_pos hb, fieldsB, if_pos hb, ← List.append_assoc]
      have hne : ∀ x ∈ F ++ cur.toList, x ≠ [] := fun x hx => by
        rcases List.mem_append.1 hx with hx | hx
        · exact hF x hx
        · exact hc x (by simpa using hx)
      refine ih (F ++ cur.toList) none _ hne (fun x hx => by cases hx) (by simpa using h1) ?_
      dsimp only
      rw [h1]
      by_cases he : F ++ cur.toList = []
      · rw [he]; simp [Lib.join_nil]
      · have := hpos _ he hne
        simp only [Option.isNone_none, Bool.true_and]
        cases hE : (F ++ cur.toList) with
        | nil => exact absurd hE he
        | cons a t => rw [hE] at this; simpa using this
    · have hb' : blank c = false := by simpa using hb
      unfold sqStep
      rw [if_neg hb, fieldsB, if_neg hb]
      refine ih F (some (cur.getD [] ++ [c])) _ hF (fun x hx => by cases hx; simp) ?_ (by simp)
      dsimp only
      rw [h2, h1]
      cases cur with
      | some x =>
        simp only [Option.isNone_some, Bool.false_and, Bool.false_eq_true, if_false, Option.toList_some, Option.getD_some]
        exact (join_grow F x [c] [32]).symm
      | none =>
        cases F with
        | nil => simp [Lib.join_nil, Lib.join_one]
        | cons a t =>
          simp only [Option.isNone_none, List.isEmpty_cons, Bool.not_false, Bool.and_true, if_true, Option.toList_none, List.append_nil, Option.toList_some, Option.getD_none, List.nil_append]
          exact (join_snoc _ _ (by simp) _).symm
theorem sq_doc (l : List UInt8) : (l.foldl sqStep ([], false)).1 = sq l := by
  have := sq_steps l [] none ([], false) (by simp) (by simp) rfl rfl
  simpa [sq] using this
end Go.Proofs.Ytjfnkjpnjiobjaa
