/-
  Contracts; each theorem bears its own conditions.
-/
import Derived.Test.YtcjfmildalappaaGreatK21ag
set_option linter.all false
set_option maxRecDepth 100000
set_option maxHeartbeats 8000000
namespace Go.Proofs.YtcjfmildalappaaGreat.S15
open Go.RowKit
structure SesG (s : Ses) : Prop where
 wide : Wide64 s.seq
 pos : 0 ≤ s.seq
 size : s.reply.size ≤ 100000
 zero : s.seq = 0 → s.reply = .empty
def AllG (t : TS) : Prop := ∀ s ∈ t.l, SesG s
theorem g_new : AllG ⟨[], 0⟩ := fun s h => by cases h
theorem g_reg {l : List Ses} (h : ∀ s ∈ l, SesG s) (ever : Int) : ∀ s ∈ regL l ⟨ever, 0, .empty⟩, SesG s := fun s hs => by
 rcases regL_mem hs with h1 | rfl
 · exact h s h1
 · exact ⟨⟨by simp, by simp⟩, by simp, by simp, fun _ => rfl⟩
theorem g_done {l : List Ses} (h : ∀ s ∈ l, SesG s) (id seq : Int) (r : ByteArray) (hw : Wide64 seq) (hr : r.size ≤ 100000) : ∀ s ∈ doneL l id seq r, SesG s := fun s hs => by
 unfold doneL at hs
 split at hs
 · rename_i h0
   obtain ⟨x, _, _, _, h1, _⟩ := askS_zero h0
   rcases List.mem_append.1 hs with h2 | h2
   · exact h s (List.mem_of_mem_eraseIdx h2)
   · simp at h2
     subst h2
     exact ⟨hw, by show 0 ≤ seq; omega, hr, fun e => by have : seq = 0 := e; omega⟩
 · exact h s hs
theorem g_fit {t : TS} (hk : t.Ok) (h : AllG t) (he : t.ever ≤ 1000000000000) : ∀ s ∈ t.l, s.Fit := fun s hs => by
 have h1 := hk.ids s hs
 have h2 := h s hs
 exact ⟨⟨by omega, by omega⟩, h2.wide, Nat.le_trans h2.size (by omega)⟩
theorem ask_kind (l : List Ses) (id seq : Int) : 0 ≤ (askS l id seq).1 ∧ (askS l id seq).1 ≤ 3 ∧ ((askS l id seq).1 ≠ 1 → (askS l id seq).2 = .empty) := by
 unfold askS
 split
 · simp
 · split
   · simp
   · split <;> simp
def rdS (s : List UInt8) : Option (Ses × List UInt8) :=
 match rdI s with
 | none => none
 | some (id, r) => match rdI r with
  | none => none
  | some (q, r2) => match rdT r2 with
   | none => none
   | some (t, r3) => some (⟨id, q, ⟨t.toArray⟩⟩, r3)
def okSes (ever : Int) (l : List Ses) (x : Ses) : Bool := decide (0 < x.id) && decide (x.id ≤ ever) && decide (fndI l x.id < 0) && decide (0 ≤ x.seq) && (decide (0 < x.seq) || x.reply.data.toList.isEmpty)
def unG (ever : Int) : Nat → List Ses → List UInt8 → Option (List Ses × List UInt8)
 | 0, l, s => some (l, s)
 | n + 1, l, s => match rdS s with
  | none => none
  | some (x, r) => if okSes ever l x then unG ever n (l ++ [x]) r else none
def unS (s : List UInt8) : Option TS :=
 match rdI s with
 | none => none
 | some (ever, r) => match rdI r with
  | none => none
  | some (n, r2) => if 0 ≤ ever ∧ ever ≤ 1099511627776 ∧ 0 ≤ n ∧ n ≤ 8 then match unG ever n.toNat [] r2 with
   | some (l, []) => some ⟨l, ever⟩
   | _ => none
   else none
theorem rdT_iff (s t r : List UInt8) (hs : t.length ≤ 1000000000000) : rdT s = some (t, r) ↔ s = tb t ++ r := by
 unfold rdT tb
 constructor
 · intro h
   cases hi : rdI s with
   | none => rw [hi] at h; cases h
   | some p =>
    obtain ⟨n, q⟩ := p
    rw [hi] at h
    dsimp only at h
    obtain ⟨hw, e⟩ := (rdI_iff s n q).1 hi
    split at h
    · rename_i hn
      simp only [Option.some.injEq, Prod.mk.injEq] at h
      obtain ⟨h1, h2⟩ := h
      have hl : (t.length : Int) = n := by rw [← h1, List.length_take]; omega
      rw [hl, e, ← h1, ← h2, List.append_assoc, List.take_append_drop]
    · cases h
 · intro h
   have hi : rdI s = some ((t.length : Int), t ++ r) := (rdI_iff s _ _).2 ⟨⟨by omega, by omega⟩, by rw [h, List.append_assoc]⟩
   rw [hi]
   dsimp only
   rw [if_pos (by rw [List.length_append]; omega)]
   simp
theorem rdT_len {s t r : List UInt8} (h : rdT s = some (t, r)) : t.length + r.length ≤ s.length := by
 unfold rdT at h
 cases hi : rdI s with
 | none => rw [hi] at h; cases h
 | some p =>
  obtain ⟨n, q⟩ := p
  rw [hi] at h
  dsimp only at h
  have := rdI_length hi
  split at h
  · simp only [Option.some.injEq, Prod.mk.injEq] at h
    obtain ⟨h1, h2⟩ := h
    rw [← h1, ← h2, List.length_take, List.length_drop]; omega
  · cases h
theorem rdS_iff (s : List UInt8) (x : Ses) (r : List UInt8) (hs : s.length ≤ 1000000000) : rdS s = some (x, r) ↔ Wide64 x.id ∧ Wide64 x.seq ∧ s = x.bytes ++ r := by
 have hx : x.reply = ⟨x.reply.data.toList.toArray⟩ := (ba_list _).symm
 unfold rdS Ses.bytes
 constructor
 · intro h
   cases h1 : rdI s with
   | none => rw [h1] at h; cases h
   | some p =>
    obtain ⟨id, r1⟩ := p
    rw [h1] at h; dsimp only at h
    cases h2 : rdI r1 with
    | none => rw [h2] at h; cases h
    | some p =>
     obtain ⟨q, r2⟩ := p
     rw [h2] at h; dsimp only at h
     cases h3 : rdT r2 with
     | none => rw [h3] at h; cases h
     | some p =>
      obtain ⟨t, r3⟩ := p
      rw [h3] at h
      simp only [Option.some.injEq, Prod.mk.injEq] at h
      obtain ⟨rfl, rfl⟩ := h
      obtain ⟨w1, e1⟩ := (rdI_iff _ _ _).1 h1
      obtain ⟨w2, e2⟩ := (rdI_iff _ _ _).1 h2
      have l1 := rdI_length h1
      have l2 := rdI_length h2
      have l3 := rdT_len h3
      have e3 := (rdT_iff _ _ _ (by omega)).1 h3
      refine ⟨w1, w2, ?_⟩
      rw [e1, e2, e3]
      simp
 · rintro ⟨w1, w2, e⟩
   have h1 : rdI s = some (x.id, ib x.seq ++ tb x.reply.data.toList ++ r) := (rdI_iff _ _ _).2 ⟨w1, by rw [e]; simp⟩
   have h2 : rdI (ib x.seq ++ tb x.reply.data.toList ++ r) = some (x.seq, tb x.reply.data.toList ++ r) := (rdI_iff _ _ _).2 ⟨w2, by simp⟩
   have hl : x.reply.data.toList.length ≤ s.length := by
    rw [e]; simp only [List.length_append, tb]; omega
   have h3 : rdT (tb x.reply.data.toList ++ r) = some (x.reply.data.toList, r) := (rdT_iff _ _ _ (by omega)).2 rfl
   rw [h1]; dsimp only
   rw [h2]; dsimp only
   rw [h3]
def Fine (ever : Int) : List Ses → List Ses → Prop
 | _, [] => True
 | l, x :: m => okSes ever l x = true ∧ Wide64 x.id ∧ Wide64 x.seq ∧ Fine ever (l ++ [x]) m
theorem unG_iff (ever : Int) (n : Nat) : ∀ (l m : List Ses) (s r : List UInt8), s.length ≤ 1000000000 → (unG ever n l s = some (l ++ m, r) ∧ m.length = n ↔ m.length = n ∧ Fine ever l m ∧ s = sesB m ++ r) := by
 induction n with
 | zero =>
  intro l m s r hs
  constructor
  · rintro ⟨h, hm⟩
    have : m = [] := List.length_eq_zero_iff.1 hm
    subst this
    simp [unG] at h
    exact ⟨rfl, trivial, by simp [sesB, h]⟩
  · rintro ⟨hm, _, h⟩
    have : m = [] := List.length_eq_zero_iff.1 hm
    subst this
    exact ⟨by simp [unG, h, sesB], rfl⟩
 | succ n ih =>
  intro l m s r hs
  constructor
  · rintro ⟨h, hm⟩
    refine ⟨hm, ?_⟩
    unfold unG at h
    cases h1 : rdS s with
    | none => rw [h1] at h; cases h
    | some p =>
     obtain ⟨x, q⟩ := p
     rw [h1] at h
     dsimp only at h
     split at h
     · rename_i hok
       obtain ⟨w1, w2, e⟩ := (rdS_iff s x q hs).1 h1
       cases m with
       | nil => simp at hm
       | cons y m =>
        have hq : q.length ≤ 1000000000 := by rw [e, List.length_append] at hs; omega
        have hpre : ∃ z, unG ever n (l ++ [x]) q = some ((l ++ [x]) ++ z, r) := by
            have mono : ∀ (n : Nat) (a : List Ses) (s : List UInt8) (b : List Ses) (r : List UInt8), unG ever n a s = some (b, r) → ∃ z, b = a ++ z := by
             intro n
             induction n with
             | zero => intro a s b r h; simp [unG] at h; exact ⟨[], by simp [h.1]⟩
             | succ n ih2 =>
              intro a s b r h
              unfold unG at h
              cases hh : rdS s with
              | none => rw [hh] at h; cases h
              | some p =>
               obtain ⟨y, q⟩ := p
               rw [hh] at h
               dsimp only at h
               split at h
               · obtain ⟨z, hz⟩ := ih2 _ _ _ _ h
                 exact ⟨y :: z, by rw [hz]; simp⟩
               · cases h
            obtain ⟨z, hz⟩ := mono _ _ _ _ _ h
            exact ⟨z, by rw [← hz]; exact h⟩
        obtain ⟨z, hz⟩ := hpre
        rw [hz] at h
        simp only [Option.some.injEq, Prod.mk.injEq, and_true] at h
        have hyz : x :: z = y :: m := by
            have : l ++ (x :: z) = l ++ (y :: m) := by rw [← h]; simp
            exact List.append_cancel_left this
        injection hyz with h3 h4
        subst h3; subst h4
        obtain ⟨_, h5, h6⟩ := (ih (l ++ [x]) z q r hq).1 ⟨hz, by simpa using hm⟩
        refine ⟨⟨hok, w1, w2, h5⟩, ?_⟩
        rw [e, h6]
        simp [sesB]
     · cases h
  · rintro ⟨hm, hf, e⟩
    refine ⟨?_, hm⟩
    cases m with
    | nil => simp at hm
    | cons x m =>
     obtain ⟨h1, w1, w2, h2⟩ := hf
     have he : s = x.bytes ++ (sesB m ++ r) := by rw [e]; simp [sesB]
     have hr : rdS s = some (x, sesB m ++ r) := (rdS_iff s x _ hs).2 ⟨w1, w2, he⟩
     have hq : (sesB m ++ r).length ≤ 1000000000 := by rw [he, List.length_append] at hs; omega
     unfold unG
     rw [hr]
     dsimp only
     rw [if_pos h1]
     have := ((ih (l ++ [x]) m (sesB m ++ r) r hq).2 ⟨by simpa using hm, h2, rfl⟩).1
     rw [this]
     simp
theorem unG_mono {ever : Int} : ∀ (n : Nat) (a : List Ses) (s : List UInt8) (b : List Ses) (r : List UInt8), unG ever n a s = some (b, r) → ∃ z, b = a ++ z ∧ z.length = n
 | 0, a, s, b, r, h => by simp [unG] at h; exact ⟨[], by simp [h.1], rfl⟩
 | n + 1, a, s, b, r, h => by
  unfold unG at h
  cases hh : rdS s with
  | none => rw [hh] at h; cases h
  | some p =>
   obtain ⟨y, q⟩ := p
   rw [hh] at h
   dsimp only at h
   split at h
   · obtain ⟨z, hz, hl⟩ := unG_mono n _ _ _ _ h
     exact ⟨y :: z, by rw [hz]; simp, by simp [hl]⟩
   · cases h
theorem unS_iff (s : List UInt8) (t : TS) (hs : s.length ≤ 1000000000) : unS s = some t ↔ 0 ≤ t.ever ∧ t.ever ≤ 1099511627776 ∧ t.l.length ≤ 8 ∧ Fine t.ever [] t.l ∧ s = packL t.l t.ever := by
 unfold unS packL
 constructor
 · intro h
   cases h1 : rdI s with
   | none => rw [h1] at h; cases h
   | some p =>
    obtain ⟨ever, r⟩ := p
    rw [h1] at h; dsimp only at h
    cases h2 : rdI r with
    | none => rw [h2] at h; cases h
    | some p =>
     obtain ⟨n, r2⟩ := p
     rw [h2] at h; dsimp only at h
     split at h
     · rename_i hb
       cases h3 : unG ever n.toNat [] r2 with
       | none => rw [h3] at h; cases h
       | some p =>
        obtain ⟨l, q⟩ := p
        rw [h3] at h
        cases q with
        | cons c q => simp at h
        | nil =>
         simp only [Option.some.injEq] at h
         subst h
         obtain ⟨w1, e1⟩ := (rdI_iff _ _ _).1 h1
         obtain ⟨w2, e2⟩ := (rdI_iff _ _ _).1 h2
         have l1 := rdI_length h1
         have l2 := rdI_length h2
         obtain ⟨z, hz, hl⟩ := unG_mono _ _ _ _ _ h3
         rw [List.nil_append] at hz
         subst hz
         obtain ⟨_, h4, h5⟩ := (unG_iff ever n.toNat [] l r2 [] (by omega)).1 ⟨by simpa using h3, hl⟩
         refine ⟨hb.1, hb.2.1, by show l.length ≤ 8; omega, h4, ?_⟩
         have : (l.length : Int) = n := by omega
         rw [this, e1, e2, h5]
         simp
     · cases h
 · rintro ⟨b1, b2, b3, hf, e⟩
   have h1 : rdI s = some (t.ever, ib t.l.length ++ sesB t.l) := (rdI_iff _ _ _).2 ⟨⟨by omega, by omega⟩, by rw [e]; simp⟩
   have h2 : rdI (ib t.l.length ++ sesB t.l) = some ((t.l.length : Int), sesB t.l) := (rdI_iff _ _ _).2 ⟨⟨by omega, by omega⟩, rfl⟩
   have hl : (sesB t.l).length ≤ s.length := by rw [e, List.length_append]; omega
   have h3 := ((unG_iff t.ever t.l.length [] t.l (sesB t.l) [] (by omega)).2 ⟨rfl, hf, by simp⟩).1
   rw [h1]; dsimp only
   rw [h2]; dsimp only
   rw [if_pos ⟨b1, b2, by omega, by omega⟩, Int.toNat_natCast, h3]
   simp
theorem fine_mem {ever : Int} : ∀ {m l : List Ses}, Fine ever l m → ∀ s ∈ m, Wide64 s.id ∧ Wide64 s.seq
 | x :: m, l, h, s, hs => by
  obtain ⟨_, w1, w2, h2⟩ := h
  rcases List.mem_cons.1 hs with rfl | hs
  · exact ⟨w1, w2⟩
  · exact fine_mem h2 s hs
theorem reply_le {m : List Ses} {s : Ses} (hs : s ∈ m) : s.reply.size ≤ (sesB m).length := by
 obtain ⟨a, b, rfl⟩ := List.append_of_mem hs
 have h5 : s.reply.data.toList.length = s.reply.size := by simp
 simp only [sesB, List.flatMap_append, List.flatMap_cons, List.length_append, Ses.bytes, tb]
 omega
theorem unS_fit {s : List UInt8} {t : TS} (hs : s.length ≤ 100000000) (h : unS s = some t) : Wide64 t.ever ∧ t.l.length ≤ 8 ∧ (∀ x ∈ t.l, x.Fit) ∧ packL t.l t.ever = s := by
 obtain ⟨h1, h2, h3, h4, h5⟩ := (unS_iff s t (by omega)).1 h
 refine ⟨⟨by omega, by omega⟩, h3, fun x hx => ?_, h5.symm⟩
 have hw := fine_mem h4 x hx
 have hr := reply_le hx
 have : (sesB t.l).length ≤ s.length := by rw [h5]; unfold packL; simp only [List.length_append]; omega
 exact ⟨hw.1, hw.2, by omega⟩
theorem own_own_ne {w : World} {B B' : Nat} {e e' : TypeId} {sz sz' n n' : Nat} {v v' : Value} {xs xs' : List Value} (h : w.ownsRow B e sz v n xs) (h' : w.ownsRow B' e' sz' v' n' xs') (hne : e ≠ e') {g : Nat} (hg : v.ownBlock = some g) : v'.ownBlock ≠ some g := by
 intro hg'
 rcases h.2 with ⟨rfl, _⟩ | ⟨g1, cap, cur, rfl, _, hh, _⟩
 · simp [Value.ownBlock] at hg
 · rcases h'.2 with ⟨rfl, _⟩ | ⟨g2, cap2, cur2, rfl, _, hh2, _⟩
   · simp [Value.ownBlock] at hg'
   · simp only [Value.ownBlock, Option.some.injEq] at hg hg'
     subst hg; subst hg'
     rw [hh] at hh2
     injection hh2 with h1
     injection h1 with _ h2
     exact hne h2
theorem RtV.past {w w' : World} {B B' b b' : Nat} {v v' : Value} {l l' : List Ses} {ever ever' : Int} (h : RtV w B' b' v' l' ever') (ht : TbV w B b v l ever) (ho : Only (b :: rb v) w w') : RtV w' B' b' v' l' ever' := by
 obtain ⟨h1, h2, h3⟩ := h
 obtain ⟨t1, t2, t3⟩ := ht
 refine ⟨h1, h2.only ho fun hm => ?_, own_keep h3 ho fun x hx => ?_⟩
 · rcases List.mem_cons.1 hm with e | hm
   · exact (h2.ne t2 (by decide)) e
   · exact own_ne_block t3 h2 (by decide) (by simpa [rb] using hm)
 · rcases List.mem_cons.1 hx with rfl | hx
   · exact own_ne_block h3 t2 (by decide)
   · exact own_own_ne t3 h3 (by decide) (by simpa [rb] using hx)
theorem TbV.past {w w' : World} {B B' b b' : Nat} {v v' : Value} {l l' : List Ses} {ever ever' : Int} (ht : TbV w B b v l ever) (h : RtV w B' b' v' l' ever') (ho : Only [b'] w w') : TbV w' B b v l ever := by
 obtain ⟨h1, h2, h3⟩ := h
 obtain ⟨t1, t2, t3⟩ := ht
 refine ⟨t1, t2.only ho fun hm => ?_, own_keep t3 ho fun x hx => ?_⟩
 · rw [List.mem_singleton] at hm
   exact (t2.ne h2 (by decide)) hm
 · rw [List.mem_singleton] at hx
   subst hx
   exact own_ne_block t3 h2 (by decide)
theorem str_nil_beq (s : ByteArray) : (s.data.toList.isEmpty) = (s == ByteArray.empty) := by
 cases s with
 | mk d =>
  cases d with
  | mk l => cases l <;> rfl
theorem ba_isEmpty (s : ByteArray) : s.toList.isEmpty = (s == ByteArray.empty) := by
 cases s with
 | mk d =>
  cases d with
  | mk l => rw [show (⟨⟨l⟩⟩ : ByteArray) = ⟨l.toArray⟩ from rfl, ba_toList]; cases l <;> rfl
theorem ses_right (B b : Nat) (l : List Ses) (ever : Int) (x : Ses) (w : World) (h : TbS w B b l ever) (hl : l.length ≤ 1000000) :
 Calls Tryz.prog 182 #[.pointer (some ⟨b, 0, none⟩), .agg #[.int .i64 x.id, .int .i64 x.seq, .string x.reply]] w fun e w' => e = .returned (.bool (okSes ever l x)) ∧ Only [] w w' := by
 have hob : Only [] w (w.alloc (.cells #[.int .i64 x.id, .int .i64 x.seq, .string x.reply] 220)) := oz.alloc _
 have HF : Hid (∀ w', Only [] w w' → Calls Tryz.prog 192 #[.pointer (some ⟨b, 0, none⟩), .int .i64 x.id] w' fun e w2 => e = .returned (.int .i64 (fndI l x.id)) ∧ Only [] w' w2) := fun w' ho => tbs_find B b l ever x.id w' (h.only ho) hl
 obtain ⟨hB, v, hc, hown⟩ := h
 have hlt := hc.lt
 have r0 : (w.alloc (.cells #[.int .i64 x.id, .int .i64 x.seq, .string x.reply] 220)).cell? ⟨w.heap.size, 0, none⟩ = some (.int .i64 x.id) := by simp
 have r1 : (w.alloc (.cells #[.int .i64 x.id, .int .i64 x.seq, .string x.reply] 220)).cell? ⟨w.heap.size, 1, none⟩ = some (.int .i64 x.seq) := by simp
 have r2 : (w.alloc (.cells #[.int .i64 x.id, .int .i64 x.seq, .string x.reply] 220)).cell? ⟨w.heap.size, 2, none⟩ = some (.string x.reply) := by simp
 have r3 := (hc.alloc (.cells #[.int .i64 x.id, .int .i64 x.seq, .string x.reply] 220)).cell (k := 1) rfl
 obtain ⟨W0, hW0⟩ : ∃ W0, w.alloc (.cells #[.int .i64 x.id, .int .i64 x.seq, .string x.reply] 220) = W0 := ⟨_, rfl⟩
 obtain ⟨b0, hb0⟩ : ∃ b0, w.heap.size = b0 := ⟨_, rfl⟩
 rw [hW0] at r0 r1 r2 r3 hob
 rw [hb0] at r0 r1 r2
 have HW0 := Hd hW0
 have HB0 := Hd hb0
 obtain ⟨fi, hfi⟩ : ∃ fi, fndI l x.id = fi := ⟨_, rfl⟩
 have hok : okSes ever l x = (decide (0 < x.id) && decide (x.id ≤ ever) && decide (fi < 0) && decide (0 ≤ x.seq) && (decide (0 < x.seq) || (x.reply == ByteArray.empty))) := by unfold okSes; rw [hfi, str_nil_beq]
 rw [hfi] at HF
 have HOK := Hd hok
 have t0 : ∀ u : Since W0, u.w.cell? ⟨b0, 0, none⟩ = some (.int .i64 x.id) := fun u => u.cell r0
 have t1 : ∀ u : Since W0, u.w.cell? ⟨b0, 1, none⟩ = some (.int .i64 x.seq) := fun u => u.cell r1
 have t2 : ∀ u : Since W0, u.w.cell? ⟨b0, 2, none⟩ = some (.string x.reply) := fun u => u.cell r2
 have t3 : ∀ u : Since W0, u.w.cell? ⟨b, 1, none⟩ = some (.int .i64 ever) := fun u => u.cell r3
 clear hW0 hb0 hc hown hfi hok r0 r1 r2 r3
 cases d1 : decide (0 < x.id) with
 | false =>
  have HV : Hid (okSes ever l x = false) := by show _ = _; rw [HOK.out, d1]; simp
  clear HOK
  go_enter Tryz.func182, Tryz.ntmps182
  go_wp2_with fail
  rw [HW0.out, HB0.out]
  refine wp_region_only W0 oz (by kernel_rfl) (by kernel_rfl) ?_
  repeat (go_big_quiet_step ((go_at_call 192; refine Calls.only (HF.out _ (hob.tr0 (Since.h _))))))
  refine wpQuiet_nil ?_
  rintro ⟨w8, ho8⟩
  dsimp only
  go_wp2_with fail
  go_ret
  exact ⟨by rw [HV.out]; first | rfl | simp [ba_isEmpty], hob.tr0 ho8⟩
 | true =>
  cases d2 : decide (x.id ≤ ever) with
  | false =>
   have HV : Hid (okSes ever l x = false) := by show _ = _; rw [HOK.out, d1, d2]; simp
   clear HOK
   go_enter Tryz.func182, Tryz.ntmps182
   go_wp2_with fail
   rw [HW0.out, HB0.out]
   refine wp_region_only W0 oz (by kernel_rfl) (by kernel_rfl) ?_
   repeat (go_big_quiet_step ((go_at_call 192; refine Calls.only (HF.out _ (hob.tr0 (Since.h _))))))
   refine wpQuiet_nil ?_
   rintro ⟨w8, ho8⟩
   dsimp only
   go_wp2_with fail
   go_ret
   exact ⟨by rw [HV.out]; first | rfl | simp [ba_isEmpty], hob.tr0 ho8⟩
  | true =>
   cases d3 : decide (fi < 0) with
   | false =>
    have HV : Hid (okSes ever l x = false) := by show _ = _; rw [HOK.out, d1, d2, d3]; simp
    clear HOK
    go_enter Tryz.func182, Tryz.ntmps182
    go_wp2_with fail
    rw [HW0.out, HB0.out]
    refine wp_region_only W0 oz (by kernel_rfl) (by kernel_rfl) ?_
    repeat (go_big_quiet_step ((go_at_call 192; refine Calls.only (HF.out _ (hob.tr0 (Since.h _))))))
    refine wpQuiet_nil ?_
    rintro ⟨w8, ho8⟩
    dsimp only
    go_wp2_with fail
    go_ret
    exact ⟨by rw [HV.out]; first | rfl | simp [ba_isEmpty], hob.tr0 ho8⟩
   | true =>
    cases d4 : decide (0 ≤ x.seq) with
    | false =>
     have HV : Hid (okSes ever l x = false) := by show _ = _; rw [HOK.out, d1, d2, d3, d4]; simp
     clear HOK
     go_enter Tryz.func182, Tryz.ntmps182
     go_wp2_with fail
     rw [HW0.out, HB0.out]
     refine wp_region_only W0 oz (by kernel_rfl) (by kernel_rfl) ?_
     repeat (go_big_quiet_step ((go_at_call 192; refine Calls.only (HF.out _ (hob.tr0 (Since.h _))))))
     refine wpQuiet_nil ?_
     rintro ⟨w8, ho8⟩
     dsimp only
     go_wp2_with fail
     go_ret
     exact ⟨by rw [HV.out]; first | rfl | simp [ba_isEmpty], hob.tr0 ho8⟩
    | true =>
     cases d5 : decide (0 < x.seq) with
     | true =>
      have HV : Hid (okSes ever l x = true) := by show _ = _; rw [HOK.out, d1, d2, d3, d4, d5]; simp
      clear HOK
      go_enter Tryz.func182, Tryz.ntmps182
      go_wp2_with fail
      rw [HW0.out, HB0.out]
      refine wp_region_only W0 oz (by kernel_rfl) (by kernel_rfl) ?_
      repeat (go_big_quiet_step ((go_at_call 192; refine Calls.only (HF.out _ (hob.tr0 (Since.h _))))))
      refine wpQuiet_nil ?_
      rintro ⟨w8, ho8⟩
      dsimp only
      go_wp2_with fail
      go_ret
      exact ⟨by rw [HV.out]; first | rfl | simp [ba_isEmpty], hob.tr0 ho8⟩
     | false =>
      have HV : Hid (okSes ever l x = (x.reply == ByteArray.empty)) := by show _ = _; rw [HOK.out, d1, d2, d3, d4, d5]; simp
      clear HOK
      go_enter Tryz.func182, Tryz.ntmps182
      go_wp2_with fail
      rw [HW0.out, HB0.out]
      refine wp_region_only W0 oz (by kernel_rfl) (by kernel_rfl) ?_
      repeat (go_big_quiet_step ((go_at_call 192; refine Calls.only (HF.out _ (hob.tr0 (Since.h _))))))
      refine wpQuiet_nil ?_
      rintro ⟨w8, ho8⟩
      dsimp only
      go_wp2_with fail
      go_ret
      exact ⟨by rw [HV.out]; first | rfl | simp [ba_isEmpty], hob.tr0 ho8⟩
def UnP (T : World → Nat → Nat → Value → List Ses → Int → Prop) (w : World) (s : List UInt8) (e : Ending) (w' : World) : Prop :=
 Only [] w w' ∧ ((unS s = none ∧ e = .returned (.tuple #[.pointer none, .bool false])) ∨ ∃ (t : TS) (b : Nat) (v : Value), unS s = some t ∧ e = .returned (.tuple #[.pointer (some ⟨b, 0, none⟩), .bool true]) ∧ T w' w.heap.size b v t.l t.ever)
theorem unG_bad1 {ever : Int} {n : Nat} {l : List Ses} {s : List UInt8} (h : rdS s = none) : unG ever (n + 1) l s = none := by unfold unG; rw [h]
theorem unG_bad2 {ever : Int} {n : Nat} {l : List Ses} {s r : List UInt8} {x : Ses} (h : rdS s = some (x, r)) (h2 : okSes ever l x = false) : unG ever (n + 1) l s = none := by unfold unG; rw [h]; dsimp only; rw [h2]; rfl
theorem unG_next {ever : Int} {n : Nat} {l : List Ses} {s r : List UInt8} {x : Ses} (h : rdS s = some (x, r)) (h2 : okSes ever l x = true) : unG ever (n + 1) l s = unG ever n (l ++ [x]) r := by
 rw [show unG ever (n + 1) l s = (match rdS s with | none => none | some (x, r) => if okSes ever l x then unG ever n (l ++ [x]) r else none) from rfl, h]
 dsimp only
 rw [if_pos h2]
theorem unS_of {s r r2 : List UInt8} {ever : Int} {m : Nat} (h1 : rdI s = some (ever, r)) (h2 : rdI r = some ((m : Int), r2)) (hb : 0 ≤ ever ∧ ever ≤ 1099511627776 ∧ m ≤ 8) :
 unS s = match unG ever m [] r2 with
  | some (l, []) => some ⟨l, ever⟩
  | _ => none := by
 unfold unS
 rw [h1]; dsimp only
 rw [h2]; dsimp only
 rw [if_pos ⟨hb.1, hb.2.1, by omega, by omega⟩, Int.toNat_natCast]
 all_goals (rcases unG ever m [] r2 with _ | ⟨l, _ | ⟨q0, q⟩⟩ <;> rfl)
theorem unS_out {s r r2 : List UInt8} {ever n : Int} (h1 : rdI s = some (ever, r)) (h2 : rdI r = some (n, r2)) (hb : ¬ (0 ≤ ever ∧ ever ≤ 1099511627776 ∧ 0 ≤ n ∧ n ≤ 8)) : unS s = none := by
 unfold unS
 rw [h1]; dsimp only
 rw [h2]; dsimp only
 rw [if_neg hb]
theorem rdS_parts (s : List UInt8) : (rdI s = none ∧ rdS s = none) ∨ (∃ id r1, rdI s = some (id, r1) ∧ ((rdI r1 = none ∧ rdS s = none) ∨ (∃ q r2, rdI r1 = some (q, r2) ∧ ((rdT r2 = none ∧ rdS s = none) ∨ (∃ t r3, rdT r2 = some (t, r3) ∧ rdS s = some (⟨id, q, ⟨t.toArray⟩⟩, r3)))))) := by
 unfold rdS
 cases h1 : rdI s with
 | none => exact .inl ⟨rfl, rfl⟩
 | some p =>
  refine .inr ⟨p.1, p.2, rfl, ?_⟩
  dsimp only
  cases h2 : rdI p.2 with
  | none => exact .inl ⟨rfl, rfl⟩
  | some q =>
   refine .inr ⟨q.1, q.2, rfl, ?_⟩
   dsimp only
   cases h3 : rdT q.2 with
   | none => exact .inl ⟨rfl, rfl⟩
   | some t => exact .inr ⟨t.1, t.2, rfl, rfl⟩
theorem ses_unpack (s : List UInt8) (w : World) (hl : s.length ≤ 100000000) :
 Calls Tryz.prog 105 #[.string ⟨s.toArray⟩] w (UnP TbV w s) := by
 obtain ⟨i0, hi0, hz0, hz1, hz2⟩ := info_parts info_ses
 have CN : Hid (∀ w', Calls Tryz.prog 181 #[.string ⟨#[]⟩] w' fun e w2 => e = .returned (.tuple #[.int .i64 0, .string ⟨#[]⟩, .bool false]) ∧ Only [] w' w2) := fun w' => codec_toInt [] w' (by decide)
 have CNT : Hid (∀ w', Calls Tryz.prog 104 #[.string ⟨#[]⟩] w' fun e w2 => e = .returned (.tuple #[.string ⟨#[]⟩, .string ⟨#[]⟩, .bool false]) ∧ Only [] w' w2) := fun w' => codec_toText [] w' (by decide)
 have C0 := codec_toInt s w (by omega)
 cases h1 : rdI s with
 | none =>
  have HU : Hid (unS s = none) := by show _ = _; unfold unS; rw [h1]
  rw [h1, show rdV none = .tuple #[.int .i64 0, .string ⟨#[]⟩, .bool false] from rfl] at C0
  have HC0 := Hd C0
  clear C0 h1
  go_enter Tryz.func105, Tryz.ntmps105
  go_wp2_with fail
  refine HC0.out.mono ?_
  rintro e w1 ⟨rfl, ho1⟩
  go_wp2_with fail
  refine (CN.out _).mono ?_
  rintro e w2 ⟨rfl, ho2⟩
  go_wp2_with fail
  go_ret2
  exact ⟨ho1.tr0 ho2, .inl ⟨HU.out, rfl⟩⟩
 | some p =>
  obtain ⟨ever, r⟩ := p
  have hr := rdI_length h1
  rw [h1, show rdV (some (ever, r)) = .tuple #[.int .i64 ever, .string ⟨r.toArray⟩, .bool true] from rfl] at C0
  have HC0 := Hd C0
  have C1 := fun w' => codec_toInt r w' (by omega)
  cases h2 : rdI r with
  | none =>
   have HU : Hid (unS s = none) := by show _ = _; unfold unS; rw [h1]; dsimp only; rw [h2]
   rw [h2, show rdV none = .tuple #[.int .i64 0, .string ⟨#[]⟩, .bool false] from rfl] at C1
   have HC1 := Hd C1
   clear C0 C1 h1 h2
   go_enter Tryz.func105, Tryz.ntmps105
   go_wp2_with fail
   refine HC0.out.mono ?_
   rintro e w1 ⟨rfl, ho1⟩
   go_wp2_with fail
   refine (HC1.out _).mono ?_
   rintro e w2 ⟨rfl, ho2⟩
   go_wp2_with fail
   go_ret2
   exact ⟨ho1.tr0 ho2, .inl ⟨HU.out, rfl⟩⟩
  | some p =>
   obtain ⟨n, r2⟩ := p
   have hr2 := rdI_length h2
   rw [h2, show rdV (some (n, r2)) = .tuple #[.int .i64 n, .string ⟨r2.toArray⟩, .bool true] from rfl] at C1
   have HC1 := Hd C1
   by_cases hb : 0 ≤ ever ∧ ever ≤ 1099511627776 ∧ 0 ≤ n ∧ n ≤ 8
   · obtain ⟨hb1, hb2, hb3, hb4⟩ := hb
     obtain ⟨m, rfl⟩ := Int.eq_ofNat_of_zero_le hb3
     have hm8 : m ≤ 8 := by omega
     have HU := Hd (unS_of h1 h2 ⟨hb1, hb2, hm8⟩)
     have d1 : decide (ever < 0) = false := by simp; omega
     have d2 : decide ((1099511627776 : Int) < ever) = false := by simp; omega
     have d3 : decide ((m : Int) < 0) = false := by simp
     have d4 : decide ((8 : Int) < m) = false := by simp; omega
     clear C0 C1 h1 h2 hb3 hb4
     go_enter Tryz.func105, Tryz.ntmps105
     go_wp2_with fail
     refine HC0.out.mono ?_
     rintro e w1 ⟨rfl, ho1⟩
     go_wp2_with fail
     refine (HC1.out _).mono ?_
     rintro e w2 ⟨rfl, ho2⟩
     have HO2 := ho1.tr0 ho2
     have hoT : Only [] w (w2.alloc (.cells #[.slice none 0 0, .int .i64 ever] 178)) := HO2.alloc _
     have HT0 : Hid (TbV (w2.alloc (.cells #[.slice none 0 0, .int .i64 ever] 178)) w2.heap.size w2.heap.size (.slice none 0 0) [] ever) := ⟨Nat.le_refl _, Cells.new _ _ _, World.ownsRow_nil _ _ _ _⟩
     have hz := HO2.size
     clear ho1 ho2 HC0 HC1 HO2
     go_wp2_with fail
     obtain ⟨z, hzz⟩ : ∃ z, w2.heap.size = z := ⟨_, rfl⟩
     rw [hzz] at HT0 hz ⊢
     clear hzz
     go_loopw [0, 55] (fun sv i wr => ∃ (k : Nat) (l : List Ses) (s' : List UInt8) (tv : Value), k ≤ m ∧ i = .int .i64 k ∧ sv = .string ⟨s'.toArray⟩ ∧ Hid (TbV wr z z tv l ever) ∧ l.length = k ∧ s'.length ≤ 100000000 ∧ Hid (unG ever m [] r2 = unG ever (m - k) l s') ∧ Only [] w wr) (fun _ i _ => m - (intOf i).toNat)
     case atStart => exact ⟨0, [], r2, _, by omega, rfl, rfl, HT0, rfl, by omega, rfl, hoT⟩
     case round =>
      obtain ⟨k, l, s', tv, hk, rfl, rfl, ht, hlk, hs', hg, ho⟩ := hrel
      by_cases hlt : k < m
      · have hlt' : (k : Int) < (m : Int) := by omega
        obtain ⟨j, hj⟩ : ∃ j, m - k = j + 1 := ⟨m - k - 1, by omega⟩
        rw [hj] at hg
        have hbad : ∀ h : rdS s' = none, unS s = none := fun h => by
         have hg2 : unG ever m [] r2 = none := by rw [hg.out, unG_bad1 h]
         rw [HU.out, hg2]
        rcases rdS_parts s' with ⟨p1, pS⟩ | ⟨id, q1, p1, p2⟩
        · have HV := Hd (hbad pS)
          have D0 := fun w' => codec_toInt s' w' (by omega)
          rw [p1, show rdV none = .tuple #[.int .i64 0, .string ⟨#[]⟩, .bool false] from rfl] at D0
          have HD0 := Hd D0
          clear D0 p1 pS hbad hg
          go_wp2_with fail
          refine (HD0.out _).mono ?_
          rintro e w3 ⟨rfl, ho3⟩
          go_wp2_with fail
          refine (CN.out _).mono ?_
          rintro e w4 ⟨rfl, ho4⟩
          go_wp2_with fail
          refine (CNT.out _).mono ?_
          rintro e w5 ⟨rfl, ho5⟩
          go_wp2_with fail
          go_ret2
          exact ⟨(ho.tr0 ((ho3.tr0 ho4).tr0 ho5)).alloc _, .inl ⟨HV.out, rfl⟩⟩
        · have hq1 := rdI_length p1
          have D0 := fun w' => codec_toInt s' w' (by omega)
          rw [p1, show rdV (some (id, q1)) = .tuple #[.int .i64 id, .string ⟨q1.toArray⟩, .bool true] from rfl] at D0
          have HD0 := Hd D0
          have D1 := fun w' => codec_toInt q1 w' (by omega)
          rcases p2 with ⟨p2, pS⟩ | ⟨q, q2, p2, p3⟩
          · have HV := Hd (hbad pS)
            rw [p2, show rdV none = .tuple #[.int .i64 0, .string ⟨#[]⟩, .bool false] from rfl] at D1
            have HD1 := Hd D1
            clear D0 D1 p1 p2 pS hbad hg
            go_wp2_with fail
            refine (HD0.out _).mono ?_
            rintro e w3 ⟨rfl, ho3⟩
            go_wp2_with fail
            refine (HD1.out _).mono ?_
            rintro e w4 ⟨rfl, ho4⟩
            go_wp2_with fail
            refine (CNT.out _).mono ?_
            rintro e w5 ⟨rfl, ho5⟩
            go_wp2_with fail
            go_ret2
            exact ⟨(ho.tr0 ((ho3.tr0 ho4).tr0 ho5)).alloc _, .inl ⟨HV.out, rfl⟩⟩
          · have hq2 := rdI_length p2
            rw [p2, show rdV (some (q, q2)) = .tuple #[.int .i64 q, .string ⟨q2.toArray⟩, .bool true] from rfl] at D1
            have HD1 := Hd D1
            have D2 := fun w' => codec_toText q2 w' (by omega)
            rcases p3 with ⟨p3, pS⟩ | ⟨t, q3, p3, pS⟩
            · have HV := Hd (hbad pS)
              rw [p3, show rdTV none = .tuple #[.string ⟨#[]⟩, .string ⟨#[]⟩, .bool false] from rfl] at D2
              have HD2 := Hd D2
              clear D0 D1 D2 p1 p2 p3 pS hbad hg
              go_wp2_with fail
              refine (HD0.out _).mono ?_
              rintro e w3 ⟨rfl, ho3⟩
              go_wp2_with fail
              refine (HD1.out _).mono ?_
              rintro e w4 ⟨rfl, ho4⟩
              go_wp2_with fail
              refine (HD2.out _).mono ?_
              rintro e w5 ⟨rfl, ho5⟩
              go_wp2_with fail
              go_ret2
              exact ⟨(ho.tr0 ((ho3.tr0 ho4).tr0 ho5)).alloc _, .inl ⟨HV.out, rfl⟩⟩
            · have hq3 := rdT_len p3
              rw [p3, show rdTV (some (t, q3)) = .tuple #[.string ⟨t.toArray⟩, .string ⟨q3.toArray⟩, .bool true] from rfl] at D2
              have HD2 := Hd D2
              obtain ⟨x, hx⟩ : ∃ x : Ses, x = ⟨id, q, ⟨t.toArray⟩⟩ := ⟨_, rfl⟩
              rw [← hx] at pS
              have hxc : x.cells = [.int .i64 id, .int .i64 q, .string ⟨t.toArray⟩] := by rw [hx]; rfl
              have hx1 : ∀ u ∈ x.cells, u.oneCell' = true := by rw [hxc]; simp [Value.oneCell']
              have HXC := Hd hxc
              have CR : Hid (∀ w', Only [] wr w' → Calls Tryz.prog 182 #[.pointer (some ⟨z, 0, none⟩), .agg #[.int .i64 id, .int .i64 q, .string ⟨t.toArray⟩]] w' fun e w2 => e = .returned (.bool (okSes ever l x)) ∧ Only [] w' w2) := fun w' ho' => by
                    have := ses_right z z l ever x w' (ht.out.s.only ho') (by omega)
                    rw [hx] at this ⊢
                    exact this
              cases hok : okSes ever l x with
              | false =>
                    have hg2 : unG ever m [] r2 = none := by rw [hg.out, unG_bad2 pS hok]
                    have HV : Hid (unS s = none) := by show _ = _; rw [HU.out, hg2]
                    rw [hok] at CR
                    clear D0 D1 D2 p1 p2 p3 pS hbad hg hg2 hx hxc hok
                    go_wp2_with fail
                    refine (HD0.out _).mono ?_
                    rintro e w3 ⟨rfl, ho3⟩
                    go_wp2_with fail
                    refine (HD1.out _).mono ?_
                    rintro e w4 ⟨rfl, ho4⟩
                    go_wp2_with fail
                    refine (HD2.out _).mono ?_
                    rintro e w5 ⟨rfl, ho5⟩
                    have hoB := ((ho3.tr0 ho4).tr0 ho5).alloc (.cells #[.int .i64 id, .int .i64 q, .string ⟨t.toArray⟩] 220)
                    go_wp2_with fail
                    refine (CR.out _ hoB).mono ?_
                    rintro e w6 ⟨rfl, ho6⟩
                    go_wp2_with fail
                    go_ret2
                    exact ⟨(ho.tr0 hoB).tr0 ho6, .inl ⟨HV.out, rfl⟩⟩
              | true =>
                    have HG2 : Hid (unG ever m [] r2 = unG ever j (l ++ [x]) q3) := by show _ = _; rw [hg.out, unG_next pS hok]
                    rw [hok] at CR
                    clear D0 D1 D2 p1 p2 p3 pS hbad hg hx hxc hok
                    go_wp2_with fail
                    refine (HD0.out _).mono ?_
                    rintro e w3 ⟨rfl, ho3⟩
                    go_wp2_with fail
                    refine (HD1.out _).mono ?_
                    rintro e w4 ⟨rfl, ho4⟩
                    go_wp2_with fail
                    refine (HD2.out _).mono ?_
                    rintro e w5 ⟨rfl, ho5⟩
                    have hoB := ((ho3.tr0 ho4).tr0 ho5).alloc (.cells #[.int .i64 id, .int .i64 q, .string ⟨t.toArray⟩] 220)
                    have HXB : Hid (Cells (w5.alloc (.cells #[.int .i64 id, .int .i64 q, .string ⟨t.toArray⟩] 220)) w5.heap.size 220 [.int .i64 id, .int .i64 q, .string ⟨t.toArray⟩]) := Cells.new _ _ _
                    obtain ⟨bx, hbx⟩ : ∃ bx, w5.heap.size = bx := ⟨_, rfl⟩
                    rw [hbx] at HXB
                    go_wp2_with fail
                    refine (CR.out _ hoB).mono ?_
                    rintro e w6 ⟨rfl, ho6⟩
                    have hoC := hoB.tr0 ho6
                    have HX6 := Hd (HXB.out.only ho6 (by simp))
                    have HBX : Hid (∀ y, tv.ownBlock = some y → y < bx) := fun y hy => Nat.lt_of_lt_of_le (ht.out.2.2.lt y hy).2 (by rw [← hbx]; exact ((ho3.tr0 ho4).tr0 ho5).size)
                    have HT6 := Hd (TbV.only ht.out hoC)
                    have hoD := ho.tr0 hoC
                    clear hbx hoB HXB ho3 ho4 ho5 ho6 CR ht HD0 HD1 HD2 hoC
                    go_wp2_with fail
                    obtain ⟨-, hcT, hoT6⟩ := HT6.out
                    have hzn : z ∉ rb tv := by intro hm; exact own_ne_block hoT6 hcT (by decide) (by simpa [rb] using hm)
                    have hxn : bx ∉ rb tv := by intro hm; have := HBX.out bx (by simpa [rb] using hm); omega
                    have hMlt : ∀ b, b ∈ rb tv → b < w6.heap.size := fun b hb => (hoT6.lt b (by simpa [rb] using hb)).2
                    have HOT := Hd hoT6
                    have HCT := Hd hcT
                    have hb7 : ∀ y, y ∈ bsOf [rowOwn 7 tv, cellOwn 11 z 178 [tv, .int .i64 ever] 0 102] [7] → y ∈ rb tv := fun y hy => by simpa [bsOf, rowOwn, cellOwn, rb] using hy
                    have s0 : ∀ u : SinceS (bsOf [rowOwn 7 tv, cellOwn 11 z 178 [tv, .int .i64 ever] 0 102] [7]) w6, u.w.cell? ⟨z, 0, none⟩ = some tv := fun u => u.cell (HCT.out.cell rfl) (fun h => hzn (hb7 _ h))
                    have s1 : ∀ u : SinceS (bsOf [rowOwn 7 tv, cellOwn 11 z 178 [tv, .int .i64 ever] 0 102] [7]) w6, u.w.cell? ⟨bx, 0, none⟩ = some (.int .i64 id) := fun u => u.cell (HX6.out.cell rfl) (fun h => hxn (hb7 _ h))
                    have s2 : ∀ u : SinceS (bsOf [rowOwn 7 tv, cellOwn 11 z 178 [tv, .int .i64 ever] 0 102] [7]) w6, u.w.cell? ⟨bx, 1, none⟩ = some (.int .i64 q) := fun u => u.cell (HX6.out.cell rfl) (fun h => hxn (hb7 _ h))
                    have s3 : ∀ u : SinceS (bsOf [rowOwn 7 tv, cellOwn 11 z 178 [tv, .int .i64 ever] 0 102] [7]) w6, u.w.cell? ⟨bx, 2, none⟩ = some (.string ⟨t.toArray⟩) := fun u => u.cell (HX6.out.cell rfl) (fun h => hxn (hb7 _ h))
                    have HZN := Hd hzn
                    have hzw : z ≤ w6.heap.size := Nat.le_of_lt hcT.lt
                    have hzw' : z < w6.heap.size := hcT.lt
                    clear hcT hoT6 hxn hb7
                    refine wp_region_pendM w6 oz [(101, OwW w6.heap.size 220 3 1 x.cells), (102, OwW z 220 3 (k + 1) (sesL (l ++ [x])))] [] [rowOwn 7 tv, cellOwn 11 z 178 [tv, .int .i64 ever] 0 102] 13 (by intro p hp; simp at hp; rcases hp with rfl | rfl <;> exact OwW.lasts _ _ _ _ _) (by intro y hy; simp at hy; rcases hy with rfl | rfl; exact rowOwn_ok HOT.out; exact cellOwn_ok hzw') (by intro y y' hy hy' hne b hb hb'; simp at hy hy'; rcases hy with rfl | rfl <;> rcases hy' with rfl | rfl <;> simp [rowOwn, cellOwn] at hne hb hb' <;> (first | exact HZN.out (by simpa [rb, hb'] using hb) | exact HZN.out (by simpa [rb, hb] using hb'))) (by kernel_rfl) (by kernel_rfl) (by decide) (fun val => ?_)
                    simp only [tk1, tk0, dr1, dr0]
                    refine fit_segM 6 [7] (by kernel_rfl) ?_
                    simp only [tk1, tk0, dr1, dr0]
                    repeat (go_big_quiet_step (fail))
                    refine wpQuiet_nil ?_
                    refine fit_litO 101 220 3 x.cells 1 rfl rfl (by simp) (by simp) rfl (by decide) (fun w7 => by rw [HXC.out]; go_simp) rfl ?_
                    simp only [Act.put, sia, sc0, sc1]
                    refine fit_appendM 102 (.tmp 99) (.tmp 101) 176 220 i0 (.agg #[.int .i64 0, .int .i64 0, .string .empty]) 3 32 Tryz.underlying176 hi0 hz0 hz1 hz2 rfl (by decide) z tv k 1 (k + 1) (sesL l) x.cells (sesL (l ++ [x])) rfl (by rw [sesL_append]; simp [sesL]) rfl rfl rfl (by simp) (by simp) rfl (by have := HOT.out; rw [hlk] at this; exact this) (by simp [rows, rowOwn, cellOwn]) (by intro y hy hyi; simp at hy; rcases hy with rfl | rfl; rfl; exact absurd hyi (by simp [rowOwn, cellOwn])) [] (by kernel_rfl) (by intro b hb; simp [bsOf] at hb) hzw (fun w7 hw7 => SrcA.own (hw7.2 (101, OwW w6.heap.size 220 3 1 x.cells) (by simp) (by show 101 ∈ Oper.looksAt _ _; decide)) hx1) (by unfold maxLen; omega) (by omega) ?_
                    simp only [Act.put, sia, sc0, sc1]
                    refine fit_segM 3 [7, 11] (by kernel_rfl) ?_
                    simp only [tk1, tk0, dr1, dr0]
                    repeat (go_big_quiet_step (fail))
                    refine wpQuiet_nil ?_
                    refine fit_storeW z 178 [tv, .int .i64 ever] 0 102 z 220 3 (k + 1) (sesL (l ++ [x])) rfl rfl (by simp) (by show 102 ∈ Oper.looksAt _ _; decide) HCT.out [7] (by kernel_rfl) (fun h => HZN.out (by simpa [bsOf, rowOwn, cellOwn, rb] using h)) (by simp [mine, rowOwn, cellOwn]) (by intro y hy hyi; simp at hy; rcases hy with rfl | rfl; exact absurd hyi (by simp [rowOwn, cellOwn]); rfl) (fun w7 A m c hA hC7 => by have d0 := hC7.cell (k := 0) rfl; have f0 := hC7.frozen 0; rw [hA]; go_simp) ?_
                    simp only [Act.put, sia, sc0, sc1]
                    refine fit_segM 1 [7, 11] (by kernel_rfl) ?_
                    simp only [tk1, tk0, dr1, dr0]
                    repeat (go_big_quiet_step (fail))
                    refine wpQuiet_nil ?_
                    intro w7 ho7 hV7 hF7
                    have hown7 : w7.ownsRow z 220 3 (val 102) (k + 1) (sesL (l ++ [x])) := hV7 (102, OwW z 220 3 (k + 1) (sesL (l ++ [x]))) (by simp) (by simp)
                    have hC7 : Cells w7 z 178 [val 102, .int .i64 ever] := hF7 (cellOwn 11 z 178 [tv, .int .i64 ever] 0 102) (by simp) rfl
                    have hrbz : ∀ y, y ∈ rb tv → w.heap.size ≤ y := fun y hy => Nat.le_trans hz (HOT.out.lt y (by simpa [rb] using hy)).1
                    have hoE : Only [] w w7 := hoD.trans ho7 fun y hy => .inr (by simp [allM, rowOwn, cellOwn] at hy; rcases hy with h | h; exact hrbz y (by simpa [rb] using h); omega)
                    have HT7 : Hid (TbV w7 z z (val 102) (l ++ [x]) ever) := ⟨Nat.le_refl _, hC7, by rw [List.length_append, List.length_singleton, hlk]; exact hown7⟩
                    clear hC7 hown7 hV7 hF7 s0 s1 s2 s3 hrbz
                    go_wp2_with fail
                    go_roundw
                    case rel => exact ⟨k + 1, l ++ [x], q3, _, by omega, by go_num, rfl, HT7, by rw [List.length_append, hlk]; rfl, by omega, by show _ = _; rw [HG2.out, show m - (k + 1) = j from by omega], hoE⟩
                    case measure => simp [intOf]; omega
      · have hd0 : decide ((k : Int) < (m : Int)) = false := by simp; omega
        obtain rfl : k = m := by omega
        rw [Nat.sub_self] at hg
        have hg2 : unG ever k [] r2 = some (l, s') := hg.out
        have hu := HU.out
        rw [hg2] at hu
        cases s' with
        | nil =>
         have HV : Hid (unS s = some ⟨l, ever⟩) := hu
         clear hg hg2 hu HU
         go_wp2_with fail
         go_ret2
         exact ⟨ho, .inr ⟨_, z, tv, HV.out, rfl, hz, ht.out.2.1, own_base ht.out.2.2 hz⟩⟩
        | cons c s' =>
         have HV : Hid (unS s = none) := hu
         clear hg hg2 hu HU
         go_wp2_with fail
         go_ret2
         exact ⟨ho, .inl ⟨HV.out, rfl⟩⟩
   · have HU := Hd (unS_out h1 h2 hb)
     clear C0 C1 h1 h2
     by_cases a1 : ever < 0
     · have d1 : decide (ever < 0) = true := by simpa using a1
       clear a1 hb
       go_enter Tryz.func105, Tryz.ntmps105
       go_wp2_with fail
       refine HC0.out.mono ?_
       rintro e w1 ⟨rfl, ho1⟩
       go_wp2_with fail
       refine (HC1.out _).mono ?_
       rintro e w2 ⟨rfl, ho2⟩
       go_wp2_with fail
       go_ret2
       exact ⟨ho1.tr0 ho2, .inl ⟨HU.out, rfl⟩⟩
     · have d1 : decide (ever < 0) = false := by simpa using a1
       by_cases a2 : 1099511627776 < ever
       · have d2 : decide ((1099511627776 : Int) < ever) = true := by simpa using a2
         clear a1 a2 hb
         go_enter Tryz.func105, Tryz.ntmps105
         go_wp2_with fail
         refine HC0.out.mono ?_
         rintro e w1 ⟨rfl, ho1⟩
         go_wp2_with fail
         refine (HC1.out _).mono ?_
         rintro e w2 ⟨rfl, ho2⟩
         go_wp2_with fail
         go_ret2
         exact ⟨ho1.tr0 ho2, .inl ⟨HU.out, rfl⟩⟩
       · have d2 : decide ((1099511627776 : Int) < ever) = false := by simpa using a2
         by_cases a3 : n < 0
         · have d3 : decide (n < 0) = true := by simpa using a3
           clear a1 a2 a3 hb
           go_enter Tryz.func105, Tryz.ntmps105
           go_wp2_with fail
           refine HC0.out.mono ?_
           rintro e w1 ⟨rfl, ho1⟩
           go_wp2_with fail
           refine (HC1.out _).mono ?_
           rintro e w2 ⟨rfl, ho2⟩
           go_wp2_with fail
           go_ret2
           exact ⟨ho1.tr0 ho2, .inl ⟨HU.out, rfl⟩⟩
         · have d3 : decide (n < 0) = false := by simpa using a3
           have d4 : decide ((8 : Int) < n) = true := by simp; omega
           clear a1 a2 a3 hb
           go_enter Tryz.func105, Tryz.ntmps105
           go_wp2_with fail
           refine HC0.out.mono ?_
           rintro e w1 ⟨rfl, ho1⟩
           go_wp2_with fail
           refine (HC1.out _).mono ?_
           rintro e w2 ⟨rfl, ho2⟩
           go_wp2_with fail
           go_ret2
           exact ⟨ho1.tr0 ho2, .inl ⟨HU.out, rfl⟩⟩
theorem unS_ofr {s r r2 : List UInt8} {ever : Int} {m : Nat} (h1 : rdI s = some (ever, r)) (h2 : rdI r = some ((m : Int), r2)) (hb : m ≤ 8) :
 unS s = if 0 ≤ ever ∧ ever ≤ 1099511627776 then (match unG ever m [] r2 with
  | some (l, []) => some ⟨l, ever⟩
  | _ => none) else none := by
 by_cases he : 0 ≤ ever ∧ ever ≤ 1099511627776
 · rw [if_pos he]; exact unS_of h1 h2 ⟨he.1, he.2, hb⟩
 · rw [if_neg he]; exact unS_out h1 h2 fun h => he ⟨h.1, h.2.1⟩
theorem ref_unpack (s : List UInt8) (w : World) (hl : s.length ≤ 100000000) :
 Calls Tryz.prog 178 #[.string ⟨s.toArray⟩] w (UnP RtV w s) := by
 obtain ⟨i0, hi0, hz0, hz1, hz2⟩ := info_parts info_rses
 have CN : Hid (∀ w', Calls Tryz.prog 186 #[.string ⟨#[]⟩] w' fun e w2 => e = .returned (.tuple #[.int .i64 0, .string ⟨#[]⟩, .bool false]) ∧ Only [] w' w2) := fun w' => ref_toInt [] w' (by decide)
 have CNT : Hid (∀ w', Calls Tryz.prog 177 #[.string ⟨#[]⟩] w' fun e w2 => e = .returned (.tuple #[.string ⟨#[]⟩, .string ⟨#[]⟩, .bool false]) ∧ Only [] w' w2) := fun w' => ref_toText [] w' (by decide)
 have C0 := ref_toInt s w (by omega)
 cases h1 : rdI s with
 | none =>
  have HU : Hid (unS s = none) := by show _ = _; unfold unS; rw [h1]
  rw [h1, show rdV none = .tuple #[.int .i64 0, .string ⟨#[]⟩, .bool false] from rfl] at C0
  have HC0 := Hd C0
  clear C0 h1
  go_enter Tryz.func178, Tryz.ntmps178
  go_wp2_with fail
  refine HC0.out.mono ?_
  rintro e w1 ⟨rfl, ho1⟩
  go_wp2_with fail
  refine (CN.out _).mono ?_
  rintro e w2 ⟨rfl, ho2⟩
  go_wp2_with fail
  go_ret2
  exact ⟨ho1.tr0 ho2, .inl ⟨HU.out, rfl⟩⟩
 | some p =>
  obtain ⟨ever, r⟩ := p
  have hr := rdI_length h1
  rw [h1, show rdV (some (ever, r)) = .tuple #[.int .i64 ever, .string ⟨r.toArray⟩, .bool true] from rfl] at C0
  have HC0 := Hd C0
  have C1 := fun w' => ref_toInt r w' (by omega)
  cases h2 : rdI r with
  | none =>
   have HU : Hid (unS s = none) := by show _ = _; unfold unS; rw [h1]; dsimp only; rw [h2]
   rw [h2, show rdV none = .tuple #[.int .i64 0, .string ⟨#[]⟩, .bool false] from rfl] at C1
   have HC1 := Hd C1
   clear C0 C1 h1 h2
   go_enter Tryz.func178, Tryz.ntmps178
   go_wp2_with fail
   refine HC0.out.mono ?_
   rintro e w1 ⟨rfl, ho1⟩
   go_wp2_with fail
   refine (HC1.out _).mono ?_
   rintro e w2 ⟨rfl, ho2⟩
   go_wp2_with fail
   go_ret2
   exact ⟨ho1.tr0 ho2, .inl ⟨HU.out, rfl⟩⟩
  | some p =>
   obtain ⟨n, r2⟩ := p
   have hr2 := rdI_length h2
   rw [h2, show rdV (some (n, r2)) = .tuple #[.int .i64 n, .string ⟨r2.toArray⟩, .bool true] from rfl] at C1
   have HC1 := Hd C1
   by_cases hb : 0 ≤ n ∧ n ≤ 8
   · obtain ⟨hb3, hb4⟩ := hb
     obtain ⟨m, rfl⟩ := Int.eq_ofNat_of_zero_le hb3
     have hm8 : m ≤ 8 := by omega
     have HU := Hd (unS_ofr h1 h2 hm8)
     have d3 : decide ((m : Int) < 0) = false := by simp
     have d4 : decide ((8 : Int) < m) = false := by simp; omega
     clear C0 C1 h1 h2 hb3 hb4
     go_enter Tryz.func178, Tryz.ntmps178
     go_wp2_with fail
     refine HC0.out.mono ?_
     rintro e w1 ⟨rfl, ho1⟩
     go_wp2_with fail
     refine (HC1.out _).mono ?_
     rintro e w2 ⟨rfl, ho2⟩
     have HO2 := ho1.tr0 ho2
     have hoT : Only [] w (w2.alloc (.cells #[.slice none 0 0, .int .i64 ever] 122)) := HO2.alloc _
     have HT0 : Hid (RtV (w2.alloc (.cells #[.slice none 0 0, .int .i64 ever] 122)) w2.heap.size w2.heap.size (.slice none 0 0) [] ever) := ⟨Nat.le_refl _, Cells.new _ _ _, World.ownsRow_nil _ _ _ _⟩
     have hz := HO2.size
     clear ho1 ho2 HC0 HC1 HO2
     go_wp2_with fail
     obtain ⟨z, hzz⟩ : ∃ z, w2.heap.size = z := ⟨_, rfl⟩
     rw [hzz] at HT0 hz ⊢
     clear hzz
     go_loopw [5, 10] (fun sv i wr => ∃ (k : Nat) (l : List Ses) (s' : List UInt8) (tv : Value), k ≤ m ∧ i = .int .i64 k ∧ sv = .string ⟨s'.toArray⟩ ∧ Hid (RtV wr z z tv l ever) ∧ l.length = k ∧ s'.length ≤ 100000000 ∧ Hid (unG ever m [] r2 = unG ever (m - k) l s') ∧ Only [] w wr) (fun _ i _ => m - (intOf i).toNat)
     case atStart => exact ⟨0, [], r2, _, by omega, rfl, rfl, HT0, rfl, by omega, rfl, hoT⟩
     case round =>
      obtain ⟨k, l, s', tv, hk, rfl, rfl, ht, hlk, hs', hg, ho⟩ := hrel
      by_cases hlt : k < m
      · have hlt' : (k : Int) < (m : Int) := by omega
        obtain ⟨j, hj⟩ : ∃ j, m - k = j + 1 := ⟨m - k - 1, by omega⟩
        rw [hj] at hg
        have hnone : unG ever m [] r2 = none → unS s = none := fun h => by
         rw [HU.out, h]; split <;> rfl
        have hbad : ∀ h : rdS s' = none, unS s = none := fun h => hnone (by rw [hg.out, unG_bad1 h])
        have CF : Hid (∀ id' w', Only [] wr w' → Calls Tryz.prog 170 #[.pointer (some ⟨z, 0, none⟩), .int .i64 id'] w' fun e w2 => e = .returned (.int .i64 (fndI l id')) ∧ w' = w2) := fun id' w' ho' => rt_find z z tv l ever id' w' (ht.out.only ho') (by omega)
        rcases rdS_parts s' with ⟨p1, pS⟩ | ⟨id, q1, p1, p2⟩
        · have HV := Hd (hbad pS)
          have D0 := fun w' => ref_toInt s' w' (by omega)
          rw [p1, show rdV none = .tuple #[.int .i64 0, .string ⟨#[]⟩, .bool false] from rfl] at D0
          have HD0 := Hd D0
          clear D0 p1 pS hbad hnone hg
          go_wp2_with fail
          refine (HD0.out _).mono ?_
          rintro e w3 ⟨rfl, ho3⟩
          go_wp2_with fail
          refine (CN.out _).mono ?_
          rintro e w4 ⟨rfl, ho4⟩
          go_wp2_with fail
          refine (CNT.out _).mono ?_
          rintro e w5 ⟨rfl, ho5⟩
          have hoA := (ho3.tr0 ho4).tr0 ho5
          clear ho3 ho4 ho5
          go_wp2_with fail
          refine (CF.out _ _ hoA).mono ?_
          rintro e w6 ⟨rfl, rfl⟩
          go_wp2_with fail
          go_ret2
          exact ⟨ho.tr0 hoA, .inl ⟨HV.out, rfl⟩⟩
        · have hq1 := rdI_length p1
          have D0 := fun w' => ref_toInt s' w' (by omega)
          rw [p1, show rdV (some (id, q1)) = .tuple #[.int .i64 id, .string ⟨q1.toArray⟩, .bool true] from rfl] at D0
          have HD0 := Hd D0
          have D1 := fun w' => ref_toInt q1 w' (by omega)
          rcases p2 with ⟨p2, pS⟩ | ⟨q, q2, p2, p3⟩
          · have HV := Hd (hbad pS)
            rw [p2, show rdV none = .tuple #[.int .i64 0, .string ⟨#[]⟩, .bool false] from rfl] at D1
            have HD1 := Hd D1
            clear D0 D1 p1 p2 pS hbad hnone hg
            go_wp2_with fail
            refine (HD0.out _).mono ?_
            rintro e w3 ⟨rfl, ho3⟩
            go_wp2_with fail
            refine (HD1.out _).mono ?_
            rintro e w4 ⟨rfl, ho4⟩
            go_wp2_with fail
            refine (CNT.out _).mono ?_
            rintro e w5 ⟨rfl, ho5⟩
            have hoA := (ho3.tr0 ho4).tr0 ho5
            clear ho3 ho4 ho5
            go_wp2_with fail
            refine (CF.out _ _ hoA).mono ?_
            rintro e w6 ⟨rfl, rfl⟩
            go_wp2_with fail
            go_ret2
            exact ⟨ho.tr0 hoA, .inl ⟨HV.out, rfl⟩⟩
          · have hq2 := rdI_length p2
            rw [p2, show rdV (some (q, q2)) = .tuple #[.int .i64 q, .string ⟨q2.toArray⟩, .bool true] from rfl] at D1
            have HD1 := Hd D1
            have D2 := fun w' => ref_toText q2 w' (by omega)
            rcases p3 with ⟨p3, pS⟩ | ⟨t, q3, p3, pS⟩
            · have HV := Hd (hbad pS)
              rw [p3, show rdTV none = .tuple #[.string ⟨#[]⟩, .string ⟨#[]⟩, .bool false] from rfl] at D2
              have HD2 := Hd D2
              clear D0 D1 D2 p1 p2 p3 pS hbad hnone hg
              go_wp2_with fail
              refine (HD0.out _).mono ?_
              rintro e w3 ⟨rfl, ho3⟩
              go_wp2_with fail
              refine (HD1.out _).mono ?_
              rintro e w4 ⟨rfl, ho4⟩
              go_wp2_with fail
              refine (HD2.out _).mono ?_
              rintro e w5 ⟨rfl, ho5⟩
              have hoA := (ho3.tr0 ho4).tr0 ho5
              clear ho3 ho4 ho5
              go_wp2_with fail
              refine (CF.out _ _ hoA).mono ?_
              rintro e w6 ⟨rfl, rfl⟩
              go_wp2_with fail
              go_ret2
              exact ⟨ho.tr0 hoA, .inl ⟨HV.out, rfl⟩⟩
            · have hq3 := rdT_len p3
              rw [p3, show rdTV (some (t, q3)) = .tuple #[.string ⟨t.toArray⟩, .string ⟨q3.toArray⟩, .bool true] from rfl] at D2
              have HD2 := Hd D2
              obtain ⟨x, hx⟩ : ∃ x : Ses, x = ⟨id, q, ⟨t.toArray⟩⟩ := ⟨_, rfl⟩
              rw [← hx] at pS
              have hxc : x.cells = [.int .i64 id, .int .i64 q, .string ⟨t.toArray⟩] := by rw [hx]; rfl
              have hx1 : ∀ u ∈ x.cells, u.oneCell' = true := by rw [hxc]; simp [Value.oneCell']
              have HXC := Hd hxc
              obtain ⟨fi, hfi⟩ : ∃ fi, fndI l id = fi := ⟨_, rfl⟩
              have hok : okSes ever l x = (decide (0 < id) && decide (id ≤ ever) && decide (fi < 0) && decide (0 ≤ q) && (decide (0 < q) || t.isEmpty)) := by rw [← hfi, hx]; rfl
              have CF : Hid (∀ w', Only [] wr w' → Calls Tryz.prog 170 #[.pointer (some ⟨z, 0, none⟩), .int .i64 id] w' fun e w2 => e = .returned (.int .i64 fi) ∧ w' = w2) := fun w' ho' => by rw [← hfi]; exact CF.out id w' ho'
              have hbad2 : okSes ever l x = false → unS s = none := fun h => hnone (by rw [hg.out, unG_bad2 pS h])
              have hgood : okSes ever l x = true → unG ever m [] r2 = unG ever j (l ++ [x]) q3 := fun h => by rw [hg.out, unG_next pS h]
              clear D0 D1 D2 p1 p2 p3 pS hbad hnone hg hx hxc hfi
              by_cases c1 : id < 1
              · have HV := Hd (hbad2 (by rw [hok]; simp; omega))
                have ec1 : decide (id < 1) = true := by simpa using c1
                clear hbad2 hgood hok c1
                go_wp2_with fail
                refine (HD0.out _).mono ?_
                rintro e w3 ⟨rfl, ho3⟩
                go_wp2_with fail
                refine (HD1.out _).mono ?_
                rintro e w4 ⟨rfl, ho4⟩
                go_wp2_with fail
                refine (HD2.out _).mono ?_
                rintro e w5 ⟨rfl, ho5⟩
                have hoA := (ho3.tr0 ho4).tr0 ho5
                clear ho3 ho4 ho5
                go_wp2_with fail
                refine (CF.out _ hoA).mono ?_
                rintro e w6 ⟨rfl, rfl⟩
                go_wp2_with fail
                go_ret2
                exact ⟨ho.tr0 hoA, .inl ⟨HV.out, rfl⟩⟩
              have ec1 : decide (id < 1) = false := by simpa using c1
              by_cases c2 : ever < id
              · have HV := Hd (hbad2 (by rw [hok]; simp; omega))
                have ec2 : decide (ever < id) = true := by simpa using c2
                clear hbad2 hgood hok c1 c2
                go_wp2_with fail
                refine (HD0.out _).mono ?_
                rintro e w3 ⟨rfl, ho3⟩
                go_wp2_with fail
                refine (HD1.out _).mono ?_
                rintro e w4 ⟨rfl, ho4⟩
                go_wp2_with fail
                refine (HD2.out _).mono ?_
                rintro e w5 ⟨rfl, ho5⟩
                have hoA := (ho3.tr0 ho4).tr0 ho5
                clear ho3 ho4 ho5
                go_wp2_with fail
                refine (CF.out _ hoA).mono ?_
                rintro e w6 ⟨rfl, rfl⟩
                go_wp2_with fail
                go_ret2
                exact ⟨ho.tr0 hoA, .inl ⟨HV.out, rfl⟩⟩
              have ec2 : decide (ever < id) = false := by simpa using c2
              by_cases c3 : 0 ≤ fi
              · have HV := Hd (hbad2 (by rw [hok]; simp; omega))
                have ec3 : decide (0 ≤ fi) = true := by simpa using c3
                clear hbad2 hgood hok c1 c2 c3
                go_wp2_with fail
                refine (HD0.out _).mono ?_
                rintro e w3 ⟨rfl, ho3⟩
                go_wp2_with fail
                refine (HD1.out _).mono ?_
                rintro e w4 ⟨rfl, ho4⟩
                go_wp2_with fail
                refine (HD2.out _).mono ?_
                rintro e w5 ⟨rfl, ho5⟩
                have hoA := (ho3.tr0 ho4).tr0 ho5
                clear ho3 ho4 ho5
                go_wp2_with fail
                refine (CF.out _ hoA).mono ?_
                rintro e w6 ⟨rfl, rfl⟩
                go_wp2_with fail
                go_ret2
                exact ⟨ho.tr0 hoA, .inl ⟨HV.out, rfl⟩⟩
              have ec3 : decide (0 ≤ fi) = false := by simpa using c3
              by_cases c4 : q < 0
              · have HV := Hd (hbad2 (by rw [hok]; simp; omega))
                have ec4 : decide (q < 0) = true := by simpa using c4
                clear hbad2 hgood hok c1 c2 c3 c4
                go_wp2_with fail
                refine (HD0.out _).mono ?_
                rintro e w3 ⟨rfl, ho3⟩
                go_wp2_with fail
                refine (HD1.out _).mono ?_
                rintro e w4 ⟨rfl, ho4⟩
                go_wp2_with fail
                refine (HD2.out _).mono ?_
                rintro e w5 ⟨rfl, ho5⟩
                have hoA := (ho3.tr0 ho4).tr0 ho5
                clear ho3 ho4 ho5
                go_wp2_with fail
                refine (CF.out _ hoA).mono ?_
                rintro e w6 ⟨rfl, rfl⟩
                go_wp2_with fail
                go_ret2
                exact ⟨ho.tr0 hoA, .inl ⟨HV.out, rfl⟩⟩
              have ec4 : decide (q < 0) = false := by simpa using c4
              by_cases c5 : q = 0 ∧ t ≠ []
              · obtain ⟨c5, c6⟩ := c5
                obtain ⟨ch, t', rfl⟩ : ∃ ch t', t = ch :: t' := List.exists_cons_of_ne_nil c6
                subst c5
                have HV := Hd (hbad2 (by rw [hok]; simp))
                clear hbad2 hgood hok c1 c2 c3 c4 c6
                go_wp2_with fail
                refine (HD0.out _).mono ?_
                rintro e w3 ⟨rfl, ho3⟩
                go_wp2_with fail
                refine (HD1.out _).mono ?_
                rintro e w4 ⟨rfl, ho4⟩
                go_wp2_with fail
                refine (HD2.out _).mono ?_
                rintro e w5 ⟨rfl, ho5⟩
                have hoA := (ho3.tr0 ho4).tr0 ho5
                clear ho3 ho4 ho5
                go_wp2_with fail
                refine (CF.out _ hoA).mono ?_
                rintro e w6 ⟨rfl, rfl⟩
                go_wp2_with fail
                go_ret2
                exact ⟨ho.tr0 hoA, .inl ⟨HV.out, rfl⟩⟩
              have HG2 := Hd (hgood (by rw [hok]; simp; refine ⟨⟨⟨⟨by omega, by omega⟩, by omega⟩, by omega⟩, ?_⟩; by_cases hq0 : q = 0; exact .inr (Classical.byContradiction fun h => c5 ⟨hq0, h⟩); exact .inl (by omega)))
              obtain ⟨b5, e5, he5⟩ : ∃ b5, (q == 0) = b5 ∧ (b5 = false ∨ (b5 = true ∧ t = [])) := by
                    by_cases h : q = 0
                    · exact ⟨true, by simp [h], .inr ⟨rfl, Classical.byContradiction fun h2 => c5 ⟨h, h2⟩⟩⟩
                    · exact ⟨false, by simpa using h, .inl rfl⟩
              clear hbad2 hgood hok c1 c2 c3 c4 c5
              rcases he5 with rfl | ⟨rfl, rfl⟩
              all_goals
                    go_wp2_with fail
                    refine (HD0.out _).mono ?_
                    rintro e w3 ⟨rfl, ho3⟩
                    go_wp2_with fail
                    refine (HD1.out _).mono ?_
                    rintro e w4 ⟨rfl, ho4⟩
                    go_wp2_with fail
                    refine (HD2.out _).mono ?_
                    rintro e w5 ⟨rfl, ho5⟩
                    have hoA := (ho3.tr0 ho4).tr0 ho5
                    clear ho3 ho4 ho5
                    go_wp2_with fail
                    refine (CF.out _ hoA).mono ?_
                    rintro e w6 ⟨rfl, rfl⟩
                    have HT6 := Hd (ht.out.only hoA)
                    have hoD := ho.tr0 hoA
                    clear CF ht HD0 HD1 HD2 hoA
                    obtain ⟨-, hcT, hoT6⟩ := HT6.out
                    have hzn : z ∉ rb tv := by intro hm; exact own_ne_block hoT6 hcT (by decide) (by simpa [rb] using hm)
                    have HOT := Hd hoT6
                    have HCT := Hd hcT
                    have HZN := Hd hzn
                    have hzw : z ≤ w5.heap.size := Nat.le_of_lt hcT.lt
                    have hzw' : z < w5.heap.size := hcT.lt
                    have e0 := HCT.out.cell (k := 0) rfl
                    have hown5 : w5.ownsRow z 237 3 tv k (sesL l) := by rw [← hlk]; exact hoT6
                    clear hcT hoT6 hzn
                    go_wp2_with (at_builtin; refine wpList_app rfl _ _ 120 rfl z 237 i0 (.agg #[.int .i64 0, .int .i64 0, .string .empty]) 3 32 Tryz.underlying120 hi0 hz0 hz1 hz2 rfl (by decide) w5 tv k (sesL l) rfl hown5 1 1 [.int .i64 id, .int .i64 q, .string _] rfl rfl (by simp [Value.oneCell']) (by unfold maxLen; omega) (by omega) hzw ?_)
                    intro v' w7 hown7 hgrow _
                    have hnez : tv.ownBlock ≠ some z := fun h => HZN.out (by simp [rb, h])
                    have hC7 := HCT.out.grown hgrow hnez
                    obtain ⟨g7, cap7, hv7⟩ : ∃ g cap, v' = .slice (some ⟨g, 0, none⟩) (k + 1) cap := by
                     obtain ⟨g, cap, _, h, _⟩ := own_block hown7 (by omega)
                     exact ⟨g, cap, h⟩
                    subst hv7
                    have d0 := hC7.cell (k := 0) rfl
                    have f0 := hC7.frozen 0
                    have hl7 := hC7.lt
                    have hoE : Only [] w w7 := hoD.grown hgrow fun y hy => .inr (Nat.le_trans hz (HOT.out.lt y hy).1)
                    have HT7 : Hid (RtV (w7.setCell ⟨z, 0, none⟩ (.slice (some ⟨g7, 0, none⟩) (k + 1) cap7)) z z (.slice (some ⟨g7, 0, none⟩) (k + 1) cap7) (l ++ [x]) ever) := by
                     refine ⟨Nat.le_refl _, hC7.set 0 _, ?_⟩
                     rw [List.length_append, List.length_singleton, hlk, sesL_append]
                     have h2 : sesL [x] = x.cells := by simp [sesL]
                     rw [h2, HXC.out]
                     exact ownsRow_setCell_other hown7 (a := ⟨z, 0, none⟩) (own_ne_block hown7 hC7 (by decide)) _
                    clear hC7 hown7 hgrow e0 hown5
                    go_wp2_with fail
                    go_roundw
                    case rel => exact ⟨k + 1, l ++ [x], q3, _, by omega, by go_num, rfl, HT7, by rw [List.length_append, hlk]; rfl, by simp at *; omega, by show _ = _; rw [HG2.out, show m - (k + 1) = j from by omega], hoE.setCell (.inr (by simp; omega)) _⟩
                    case measure => simp [intOf]; omega
      · have hd0 : decide ((k : Int) < (m : Int)) = false := by simp; omega
        obtain rfl : k = m := by omega
        rw [Nat.sub_self] at hg
        have hg2 : unG ever k [] r2 = some (l, s') := hg.out
        have hu := HU.out
        rw [hg2] at hu
        cases s' with
        | nil =>
         have hu : unS s = if 0 ≤ ever ∧ ever ≤ 1099511627776 then some ⟨l, ever⟩ else none := hu
         by_cases a1 : ever < 0
         · have HV : Hid (unS s = none) := by show _ = _; rw [hu, if_neg (by omega)]
           have d1 : decide (ever < 0) = true := by simpa using a1
           clear hg hg2 hu HU a1
           go_wp2_with fail
           go_ret2
           exact ⟨ho, .inl ⟨HV.out, rfl⟩⟩
         · have d1 : decide (ever < 0) = false := by simpa using a1
           by_cases a2 : 1099511627776 < ever
           · have HV : Hid (unS s = none) := by show _ = _; rw [hu, if_neg (by omega)]
             have d2 : decide ((1099511627776 : Int) < ever) = true := by simpa using a2
             clear hg hg2 hu HU a1 a2
             go_wp2_with fail
             go_ret2
             exact ⟨ho, .inl ⟨HV.out, rfl⟩⟩
           · have HV : Hid (unS s = some ⟨l, ever⟩) := by show _ = _; rw [hu, if_pos (by omega)]
             have d2 : decide ((1099511627776 : Int) < ever) = false := by simpa using a2
             clear hg hg2 hu HU a1 a2
             go_wp2_with fail
             go_ret2
             exact ⟨ho, .inr ⟨_, z, tv, HV.out, rfl, hz, ht.out.2.1, own_base ht.out.2.2 hz⟩⟩
        | cons c s' =>
         have HV : Hid (unS s = none) := by show _ = _; rw [hu]; split <;> rfl
         clear hg hg2 hu HU
         go_wp2_with fail
         go_ret2
         exact ⟨ho, .inl ⟨HV.out, rfl⟩⟩
   · have HU := Hd (unS_out h1 h2 fun h => hb ⟨h.2.2.1, h.2.2.2⟩)
     clear C0 C1 h1 h2
     by_cases a3 : n < 0
     · have d3 : decide (n < 0) = true := by simpa using a3
       clear a3 hb
       go_enter Tryz.func178, Tryz.ntmps178
       go_wp2_with fail
       refine HC0.out.mono ?_
       rintro e w1 ⟨rfl, ho1⟩
       go_wp2_with fail
       refine (HC1.out _).mono ?_
       rintro e w2 ⟨rfl, ho2⟩
       go_wp2_with fail
       go_ret2
       exact ⟨ho1.tr0 ho2, .inl ⟨HU.out, rfl⟩⟩
     · have d3 : decide (n < 0) = false := by simpa using a3
       have d4 : decide ((8 : Int) < n) = true := by simp; omega
       clear a3 hb
       go_enter Tryz.func178, Tryz.ntmps178
       go_wp2_with fail
       refine HC0.out.mono ?_
       rintro e w1 ⟨rfl, ho1⟩
       go_wp2_with fail
       refine (HC1.out _).mono ?_
       rintro e w2 ⟨rfl, ho2⟩
       go_wp2_with fail
       go_ret2
       exact ⟨ho1.tr0 ho2, .inl ⟨HU.out, rfl⟩⟩
end Go.Proofs.YtcjfmildalappaaGreat.S15
