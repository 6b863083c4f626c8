/-
  Chapter 15 in plain terms: what is true of every session that acts have made; what asking comes to; a table's bytes, read.
-/
import Derived.Test.YtojhbhdlbbmghaaPlain15b
import Derived.Test.YtojhbhdlbbmghaaPack15
namespace Go.Proofs.Ytojhbhdlbbmghaa
open Go.RowKit
structure SesG (s : Ses) : Prop where
  wide : Wide64 s.seq
  pos : 0 ≤ s.seq
  size : s.reply.size ≤ 3000
  zero : s.seq = 0 → s.reply = .empty
def AllG (t : TS) : Prop := ∀ s ∈ t.l, SesG s
theorem g_new : AllG ⟨[], 0⟩ := fun s h => by cases h
theorem g_reg {l : List Ses} (h : ∀ s ∈ l, SesG s) (ever : Int) : ∀ s ∈ regL l ⟨ever, 0, .empty⟩, SesG s := fun s hs => by
  rcases regL_mem hs with h1 | rfl
  · exact h s h1
  · exact ⟨⟨by simp, by simp⟩, by simp, by simp, fun _ => rfl⟩
theorem g_done {l : List Ses} (h : ∀ s ∈ l, SesG s) (id seq : Int) (r : ByteArray) (hw : Wide64 seq) (hr : r.size ≤ 3000) : ∀ s ∈ doneL l id seq r, SesG s := fun s hs => by
  unfold doneL at hs
  split at hs
  · rename_i h0
    obtain ⟨x, _, _, _, h1, _⟩ := askS_zero h0
    rcases List.mem_append.1 hs with h2 | h2
    · exact h s (List.mem_of_mem_eraseIdx h2)
    · simp at h2
      subst h2
      exact ⟨hw, by show 0 ≤ seq; omega, hr, fun e => by have : seq = 0 := e; omega⟩
  · exact h s hs
theorem g_does {t : TS} (h : AllG t) (a : Act) (ha : a.wide) (hr : a.reply.size ≤ 3000) : AllG (t.does a) := by
  unfold TS.does
  split
  · exact g_reg h _
  · split
    · exact h
    · exact g_done h a.id a.seq a.reply ha.2.2.1 hr
theorem g_fit {t : TS} (hk : t.Ok) (h : AllG t) (he : t.ever ≤ 1000000000000) : ∀ s ∈ t.l, s.Fit := fun s hs => by
  have h1 := hk.ids s hs
  have h2 := h s hs
  exact ⟨⟨by omega, by omega⟩, h2.wide, Nat.le_trans h2.size (by omega)⟩
theorem small_reply {l : List Act} (h : small15 l = true) : l.length ≤ 200 ∧ ∀ a ∈ l, a.reply.size ≤ 3000 := by
  unfold small15 at h
  simp only [Bool.and_eq_true, decide_eq_true_eq, List.all_eq_true] at h
  exact ⟨h.1, fun a ha => Nat.le_trans (h.2 a ha) (by omega)⟩

/-! Asking. -/
theorem ask_kind (l : List Ses) (id seq : Int) : 0 ≤ (askS l id seq).1 ∧ (askS l id seq).1 ≤ 3 ∧ ((askS l id seq).1 ≠ 1 → (askS l id seq).2 = .empty) := by
  unfold askS
  split
  · simp
  · split
    · simp
    · split <;> simp
/-- What is asked of a number above what was done, and below. -/
theorem ask_near (l : List Ses) (id seq : Int) (h1 : 1 ≤ seq) (h3 : (askS l id seq).1 ≠ 3) :
    ((askS l id seq).1 ≠ 2 → (askS l id (seq + 1)).1 = 0) ∧ ((askS l id seq).1 ≠ 0 → (askS l id (seq - 1)).1 = 2) := by
  unfold askS at h3 ⊢
  cases h : atS l id with
  | none => rw [h] at h3; exact absurd rfl h3
  | some x =>
    dsimp only
    by_cases a : seq < x.seq
    · refine ⟨fun h => ?_, fun _ => ?_⟩
      · rw [if_pos (.inr a)] at h; exact absurd rfl h
      · rw [if_pos (by omega : seq - 1 < 1 ∨ seq - 1 < x.seq)]
    · by_cases b : seq = x.seq
      · rw [if_neg (by omega), if_pos b, if_neg (by omega : ¬ (seq + 1 < 1 ∨ seq + 1 < x.seq)), if_neg (by omega : ¬ (seq + 1 = x.seq)), if_pos (by omega : seq - 1 < 1 ∨ seq - 1 < x.seq)]
        simp
      · rw [if_neg (by omega), if_neg b, if_neg (by omega : ¬ (seq + 1 < 1 ∨ seq + 1 < x.seq)), if_neg (by omega : ¬ (seq + 1 = x.seq))]
        simp
theorem ask_low (l : List Ses) (id seq : Int) (h1 : seq < 1) : (askS l id seq).1 = 3 ∨ (askS l id seq).1 = 2 := by
  unfold askS
  split
  · exact .inl rfl
  · rw [if_pos (.inl h1)]; exact .inr rfl

/-! A table's bytes, read. -/
def rdS (s : List UInt8) : Option (Ses × List UInt8) :=
  match rdI s with
  | none => none
  | some (id, r) => match rdI r with
    | none => none
    | some (q, r2) => match rdT r2 with
      | none => none
      | some (t, r3) => some (⟨id, q, ⟨t.toArray⟩⟩, r3)
def okSes (ever : Int) (l : List Ses) (x : Ses) : Bool := decide (0 < x.id) && decide (x.id ≤ ever) && decide (fndI l x.id < 0) && decide (0 ≤ x.seq) && (decide (0 < x.seq) || x.reply.data.toList.isEmpty)
def unG (ever : Int) : Nat → List Ses → List UInt8 → Option (List Ses × List UInt8)
  | 0, l, s => some (l, s)
  | n + 1, l, s => match rdS s with
    | none => none
    | some (x, r) => if okSes ever l x then unG ever n (l ++ [x]) r else none
def unS (s : List UInt8) : Option TS :=
  match rdI s with
  | none => none
  | some (ever, r) => match rdI r with
    | none => none
    | some (n, r2) => if 0 ≤ ever ∧ ever ≤ 1099511627776 ∧ 0 ≤ n ∧ n ≤ 8 then match unG ever n.toNat [] r2 with
        | some (l, []) => some ⟨l, ever⟩
        | _ => none
      else none
theorem rdT_iff (s t r : List UInt8) (hs : t.length ≤ 1000000000000) : rdT s = some (t, r) ↔ s = tb t ++ r := by
  unfold rdT tb
  constructor
  · intro h
    cases hi : rdI s with
    | none => rw [hi] at h; cases h
    | some p =>
      obtain ⟨n, q⟩ := p
      rw [hi] at h
      dsimp only at h
      obtain ⟨hw, e⟩ := (rdI_iff s n q).1 hi
      split at h
      · rename_i hn
        simp only [Option.some.injEq, Prod.mk.injEq] at h
        obtain ⟨h1, h2⟩ := h
        have hl : (t.length : Int) = n := by rw [← h1, List.length_take]; omega
        rw [hl, e, ← h1, ← h2, List.append_assoc, List.take_append_drop]
      · cases h
  · intro h
    have hi : rdI s = some ((t.length : Int), t ++ r) := (rdI_iff s _ _).2 ⟨⟨by omega, by omega⟩, by rw [h, List.append_assoc]⟩
    rw [hi]
    dsimp only
    rw [if_pos (by rw [List.length_append]; omega)]
    simp
theorem rdT_len {s t r : List UInt8} (h : rdT s = some (t, r)) : t.length + r.length ≤ s.length := by
  unfold rdT at h
  cases hi : rdI s with
  | none => rw [hi] at h; cases h
  | some p =>
    obtain ⟨n, q⟩ := p
    rw [hi] at h
    dsimp only at h
    have := rdI_length hi
    split at h
    · simp only [Option.some.injEq, Prod.mk.injEq] at h
      obtain ⟨h1, h2⟩ := h
      rw [← h1, ← h2, List.length_take, List.length_drop]; omega
    · cases h
theorem rdS_iff (s : List UInt8) (x : Ses) (r : List UInt8) (hs : s.length ≤ 1000000000) : rdS s = some (x, r) ↔ Wide64 x.id ∧ Wide64 x.seq ∧ s = x.bytes ++ r := by
  have hx : x.reply = ⟨x.reply.data.toList.toArray⟩ := (ba_list _).symm
  unfold rdS Ses.bytes
  constructor
  · intro h
    cases h1 : rdI s with
    | none => rw [h1] at h; cases h
    | some p =>
      obtain ⟨id, r1⟩ := p
      rw [h1] at h; dsimp only at h
      cases h2 : rdI r1 with
      | none => rw [h2] at h; cases h
      | some p =>
        obtain ⟨q, r2⟩ := p
        rw [h2] at h; dsimp only at h
        cases h3 : rdT r2 with
        | none => rw [h3] at h; cases h
        | some p =>
          obtain ⟨t, r3⟩ := p
          rw [h3] at h
          simp only [Option.some.injEq, Prod.mk.injEq] at h
          obtain ⟨rfl, rfl⟩ := h
          obtain ⟨w1, e1⟩ := (rdI_iff _ _ _).1 h1
          obtain ⟨w2, e2⟩ := (rdI_iff _ _ _).1 h2
          have l1 := rdI_length h1
          have l2 := rdI_length h2
          have l3 := rdT_len h3
          have e3 := (rdT_iff _ _ _ (by omega)).1 h3
          refine ⟨w1, w2, ?_⟩
          rw [e1, e2, e3]
          simp
  · rintro ⟨w1, w2, e⟩
    have h1 : rdI s = some (x.id, ib x.seq ++ tb x.reply.data.toList ++ r) := (rdI_iff _ _ _).2 ⟨w1, by rw [e]; simp⟩
    have h2 : rdI (ib x.seq ++ tb x.reply.data.toList ++ r) = some (x.seq, tb x.reply.data.toList ++ r) := (rdI_iff _ _ _).2 ⟨w2, by simp⟩
    have hl : x.reply.data.toList.length ≤ s.length := by
      rw [e]; simp only [List.length_append, tb]; omega
    have h3 : rdT (tb x.reply.data.toList ++ r) = some (x.reply.data.toList, r) := (rdT_iff _ _ _ (by omega)).2 rfl
    rw [h1]; dsimp only
    rw [h2]; dsimp only
    rw [h3]
/-- What has been read: each session is right over those before it. -/
def Fine (ever : Int) : List Ses → List Ses → Prop
  | _, [] => True
  | l, x :: m => okSes ever l x = true ∧ Wide64 x.id ∧ Wide64 x.seq ∧ Fine ever (l ++ [x]) m
theorem unG_iff (ever : Int) (n : Nat) : ∀ (l m : List Ses) (s r : List UInt8), s.length ≤ 1000000000 → (unG ever n l s = some (l ++ m, r) ∧ m.length = n ↔ m.length = n ∧ Fine ever l m ∧ s = sesB m ++ r) := by
  induction n with
  | zero =>
    intro l m s r hs
    constructor
    · rintro ⟨h, hm⟩
      have : m = [] := List.length_eq_zero_iff.1 hm
      subst this
      simp [unG] at h
      exact ⟨rfl, trivial, by simp [sesB, h]⟩
    · rintro ⟨hm, _, h⟩
      have : m = [] := List.length_eq_zero_iff.1 hm
      subst this
      exact ⟨by simp [unG, h, sesB], rfl⟩
  | succ n ih =>
    intro l m s r hs
    constructor
    · rintro ⟨h, hm⟩
      refine ⟨hm, ?_⟩
      unfold unG at h
      cases h1 : rdS s with
      | none => rw [h1] at h; cases h
      | some p =>
        obtain ⟨x, q⟩ := p
        rw [h1] at h
        dsimp only at h
        split at h
        · rename_i hok
          obtain ⟨w1, w2, e⟩ := (rdS_iff s x q hs).1 h1
          cases m with
          | nil => simp at hm
          | cons y m =>
            have hq : q.length ≤ 1000000000 := by rw [e, List.length_append] at hs; omega
            have hpre : ∃ z, unG ever n (l ++ [x]) q = some ((l ++ [x]) ++ z, r) := by
              have mono : ∀ (n : Nat) (a : List Ses) (s : List UInt8) (b : List Ses) (r : List UInt8), unG ever n a s = some (b, r) → ∃ z, b = a ++ z := by
                intro n
                induction n with
                | zero => intro a s b r h; simp [unG] at h; exact ⟨[], by simp [h.1]⟩
                | succ n ih2 =>
                  intro a s b r h
                  unfold unG at h
                  cases hh : rdS s with
                  | none => rw [hh] at h; cases h
                  | some p =>
                    obtain ⟨y, q⟩ := p
                    rw [hh] at h
                    dsimp only at h
                    split at h
                    · obtain ⟨z, hz⟩ := ih2 _ _ _ _ h
                      exact ⟨y :: z, by rw [hz]; simp⟩
                    · cases h
              obtain ⟨z, hz⟩ := mono _ _ _ _ _ h
              exact ⟨z, by rw [← hz]; exact h⟩
            obtain ⟨z, hz⟩ := hpre
            rw [hz] at h
            simp only [Option.some.injEq, Prod.mk.injEq, and_true] at h
            have hyz : x :: z = y :: m := by
              have : l ++ (x :: z) = l ++ (y :: m) := by rw [← h]; simp
              exact List.append_cancel_left this
            injection hyz with h3 h4
            subst h3; subst h4
            obtain ⟨_, h5, h6⟩ := (ih (l ++ [x]) z q r hq).1 ⟨hz, by simpa using hm⟩
            refine ⟨⟨hok, w1, w2, h5⟩, ?_⟩
            rw [e, h6]
            simp [sesB]
        · cases h
    · rintro ⟨hm, hf, e⟩
      refine ⟨?_, hm⟩
      cases m with
      | nil => simp at hm
      | cons x m =>
        obtain ⟨h1, w1, w2, h2⟩ := hf
        have he : s = x.bytes ++ (sesB m ++ r) := by rw [e]; simp [sesB]
        have hr : rdS s = some (x, sesB m ++ r) := (rdS_iff s x _ hs).2 ⟨w1, w2, he⟩
        have hq : (sesB m ++ r).length ≤ 1000000000 := by rw [he, List.length_append] at hs; omega
        unfold unG
        rw [hr]
        dsimp only
        rw [if_pos h1]
        have := ((ih (l ++ [x]) m (sesB m ++ r) r hq).2 ⟨by simpa using hm, h2, rfl⟩).1
        rw [this]
        simp
theorem unG_mono {ever : Int} : ∀ (n : Nat) (a : List Ses) (s : List UInt8) (b : List Ses) (r : List UInt8), unG ever n a s = some (b, r) → ∃ z, b = a ++ z ∧ z.length = n
  | 0, a, s, b, r, h => by simp [unG] at h; exact ⟨[], by simp [h.1], rfl⟩
  | n + 1, a, s, b, r, h => by
    unfold unG at h
    cases hh : rdS s with
    | none => rw [hh] at h; cases h
    | some p =>
      obtain ⟨y, q⟩ := p
      rw [hh] at h
      dsimp only at h
      split at h
      · obtain ⟨z, hz, hl⟩ := unG_mono n _ _ _ _ h
        exact ⟨y :: z, by rw [hz]; simp, by simp [hl]⟩
      · cases h
/-- A table that is read is one that was packed so. -/
theorem unS_iff (s : List UInt8) (t : TS) (hs : s.length ≤ 1000000000) : unS s = some t ↔ 0 ≤ t.ever ∧ t.ever ≤ 1099511627776 ∧ t.l.length ≤ 8 ∧ Fine t.ever [] t.l ∧ s = packL t.l t.ever := by
  unfold unS packL
  constructor
  · intro h
    cases h1 : rdI s with
    | none => rw [h1] at h; cases h
    | some p =>
      obtain ⟨ever, r⟩ := p
      rw [h1] at h; dsimp only at h
      cases h2 : rdI r with
      | none => rw [h2] at h; cases h
      | some p =>
        obtain ⟨n, r2⟩ := p
        rw [h2] at h; dsimp only at h
        split at h
        · rename_i hb
          cases h3 : unG ever n.toNat [] r2 with
          | none => rw [h3] at h; cases h
          | some p =>
            obtain ⟨l, q⟩ := p
            rw [h3] at h
            cases q with
            | cons c q => simp at h
            | nil =>
              simp only [Option.some.injEq] at h
              subst h
              obtain ⟨w1, e1⟩ := (rdI_iff _ _ _).1 h1
              obtain ⟨w2, e2⟩ := (rdI_iff _ _ _).1 h2
              have l1 := rdI_length h1
              have l2 := rdI_length h2
              obtain ⟨z, hz, hl⟩ := unG_mono _ _ _ _ _ h3
              rw [List.nil_append] at hz
              subst hz
              obtain ⟨_, h4, h5⟩ := (unG_iff ever n.toNat [] l r2 [] (by omega)).1 ⟨by simpa using h3, hl⟩
              refine ⟨hb.1, hb.2.1, by show l.length ≤ 8; omega, h4, ?_⟩
              have : (l.length : Int) = n := by omega
              rw [this, e1, e2, h5]
              simp
        · cases h
  · rintro ⟨b1, b2, b3, hf, e⟩
    have h1 : rdI s = some (t.ever, ib t.l.length ++ sesB t.l) := (rdI_iff _ _ _).2 ⟨⟨by omega, by omega⟩, by rw [e]; simp⟩
    have h2 : rdI (ib t.l.length ++ sesB t.l) = some ((t.l.length : Int), sesB t.l) := (rdI_iff _ _ _).2 ⟨⟨by omega, by omega⟩, rfl⟩
    have hl : (sesB t.l).length ≤ s.length := by rw [e, List.length_append]; omega
    have h3 := ((unG_iff t.ever t.l.length [] t.l (sesB t.l) [] (by omega)).2 ⟨rfl, hf, by simp⟩).1
    rw [h1]; dsimp only
    rw [h2]; dsimp only
    rw [if_pos ⟨b1, b2, by omega, by omega⟩, Int.toNat_natCast, h3]
    simp
theorem fnd_not {l : List Ses} {id : Int} (h : ∀ s ∈ l, s.id ≠ id) : fndI l id = -1 := by
  unfold fndI
  rw [if_neg]
  intro hlt
  obtain ⟨x, hx, he⟩ := fndS_id hlt
  exact h x (List.mem_of_getElem? hx) he
theorem fine_of (ever : Int) (he : Wide64 ever) : ∀ (m l : List Ses), (∀ s ∈ m, 1 ≤ s.id ∧ s.id ≤ ever ∧ SesG s) → ((l ++ m).map Ses.id).Nodup → Fine ever l m
  | [], _, _, _ => trivial
  | x :: m, l, h, hn => by
    obtain ⟨h1, h2, hg⟩ := h x (by simp)
    have hw := he.2
    refine ⟨?_, ⟨by omega, by omega⟩, hg.wide, fine_of ever he m (l ++ [x]) (fun s hs => h s (by simp [hs])) (by simpa using hn)⟩
    have hf : fndI l x.id = -1 := fnd_not fun s hs e => by
      rw [List.map_append, List.nodup_append] at hn
      exact hn.2.2 s.id (List.mem_map_of_mem hs) x.id (by simp) e
    unfold okSes
    rw [hf]
    have hz := hg.zero
    have hp := hg.pos
    by_cases h0 : x.seq = 0
    · simp [hz h0, hp, h1, h2]; omega
    · have : 0 < x.seq := by omega
      simp [this, hp, h1, h2]; omega
theorem fine_mem {ever : Int} : ∀ {m l : List Ses}, Fine ever l m → ∀ s ∈ m, Wide64 s.id ∧ Wide64 s.seq
  | x :: m, l, h, s, hs => by
    obtain ⟨_, w1, w2, h2⟩ := h
    rcases List.mem_cons.1 hs with rfl | hs
    · exact ⟨w1, w2⟩
    · exact fine_mem h2 s hs
theorem reply_le {m : List Ses} {s : Ses} (hs : s ∈ m) : s.reply.size ≤ (sesB m).length := by
  obtain ⟨a, b, rfl⟩ := List.append_of_mem hs
  have h5 : s.reply.data.toList.length = s.reply.size := by simp
  simp only [sesB, List.flatMap_append, List.flatMap_cons, List.length_append, Ses.bytes, tb]
  omega
theorem unS_fit {s : List UInt8} {t : TS} (hs : s.length ≤ 1000000) (h : unS s = some t) : Wide64 t.ever ∧ t.l.length ≤ 8 ∧ (∀ x ∈ t.l, x.Fit) ∧ packL t.l t.ever = s := by
  obtain ⟨h1, h2, h3, h4, h5⟩ := (unS_iff s t (by omega)).1 h
  refine ⟨⟨by omega, by omega⟩, h3, fun x hx => ?_, h5.symm⟩
  have hw := fine_mem h4 x hx
  have hr := reply_le hx
  have : (sesB t.l).length ≤ s.length := by rw [h5]; unfold packL; simp only [List.length_append]; omega
  exact ⟨hw.1, hw.2, by omega⟩
/-- What acts have made is read as it was. -/
theorem unS_pack {t : TS} (hk : t.Ok) (ho : Once t.l) (hg : AllG t) (he : t.ever ≤ 1000) : unS (packL t.l t.ever) = some t := by
  have h0 := hk.ever
  have hl := hk.len
  have hw : Wide64 t.ever := ⟨by omega, by omega⟩
  have hf := g_fit hk hg (by omega)
  have hb := sesB_length hf
  have l1 := (ib_length _ hw).2
  have l2 := (ib_length (t.l.length : Int) ⟨by omega, by omega⟩).2
  refine (unS_iff _ t (by unfold packL; simp only [List.length_append]; omega)).2 ⟨h0, by omega, hl, fine_of _ hw _ _ (fun s hs => ?_) (by simpa [Once] using ho), rfl⟩
  have := hk.ids s hs
  exact ⟨this.1, this.2, hg s hs⟩
end Go.Proofs.Ytojhbhdlbbmghaa
