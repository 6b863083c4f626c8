/-
  The walk over SessionKeeps.
-/
import Derived.Test.YtojhbhdlbbmghaaSessionReadsW
import Derived.Test.YtojhbhdlbbmghaaSessionOnceW
namespace Go.Proofs.Ytojhbhdlbbmghaa
open Go.RowKit
/-- Two tables of one kind beside one another. -/
def Apart (b : Nat) (v : Value) (b' : Nat) (v' : Value) : Prop := b ≠ b' ∧ ∀ g, v.ownBlock = some g → v'.ownBlock ≠ some g
theorem Apart.symm {b b' : Nat} {v v' : Value} (h : Apart b v b' v') : Apart b' v' b v := ⟨h.1.symm, fun g h1 h2 => h.2 g h2 h1⟩
theorem TbV.apart {w w' : World} {B B' b b' : Nat} {v v' : Value} {l l' : List Ses} {ever ever' : Int} (h : TbV w B' b' v' l' ever') (ht : TbV w B b v l ever) (ha : Apart b v b' v') (ho : Only (b :: rb v) w w') : TbV w' B' b' v' l' ever' := by
  obtain ⟨h1, h2, h3⟩ := h
  obtain ⟨t1, t2, t3⟩ := ht
  refine ⟨h1, h2.only ho fun hm => ?_, own_keep h3 ho fun x hx => ?_⟩
  · rcases List.mem_cons.1 hm with e | hm
    · exact ha.1 e.symm
    · exact own_ne_block t3 h2 (by decide) (by simpa [rb] using hm)
  · rcases List.mem_cons.1 hx with rfl | hx
    · exact own_ne_block h3 t2 (by decide)
    · exact ha.2 x (by simpa [rb] using hx)
theorem Apart.next {w : World} {B' b b' : Nat} {v v2 v' : Value} {l' : List Ses} {ever' : Int} (ha : Apart b v b' v') (h : TbV w B' b' v' l' ever') (hv : ∀ g, v2.ownBlock = some g → v.ownBlock = some g ∨ w.heap.size ≤ g) : Apart b v2 b' v' :=
  ⟨ha.1, fun g hg hg' => by
    rcases hv g hg with h1 | h1
    · exact ha.2 g h1 hg'
    · have := (h.2.2.lt g hg').2; omega⟩
theorem all_after {l : List Act} (hw : ∀ a ∈ l, a.wide) (hr : ∀ a ∈ l, a.reply.size ≤ 3000) : AllG (TS.after l) := by
  suffices H : ∀ (m : List Act) (t : TS), AllG t → (∀ a ∈ m, a.wide) → (∀ a ∈ m, a.reply.size ≤ 3000) → AllG (m.foldl TS.does t) from H l ⟨[], 0⟩ g_new hw hr
  intro m
  induction m with
  | nil => exact fun t h _ _ => h
  | cons a m ih => exact fun t h h1 h2 => ih _ (g_does h a (h1 a (by simp)) (h2 a (by simp))) (fun x hx => h1 x (by simp [hx])) (fun x hx => h2 x (by simp [hx]))
set_option maxRecDepth 100000 in
set_option maxHeartbeats 4000000 in
theorem sessionKeeps_walk (W : World) (v : Value) (l : List Act) (hs : SlAt W W.heap.size v 4 l.length (l.flatMap Act.cells)) (hg : ∀ a ∈ l, a.wide) (v2 : Value) (l2 : List Act) (hs2 : SlAt W W.heap.size v2 4 l2.length (l2.flatMap Act.cells)) (hg2 : ∀ a ∈ l2, a.wide) :
    Calls Try.prog 17 #[v, v2] W fun e W' => e = .returned (.bool true) ∧ Only [] W W' := by
  obtain ⟨A, c, rfl⟩ := hs.shape
  obtain ⟨A2, c2, rfl⟩ := hs2.shape
  have HS := Lib.hid hs
  have HG := Lib.hid hg
  have HS2 := Lib.hid hs2
  have HG2 := Lib.hid hg2
  clear hs hg hs2 hg2
  have CS : Hid (∀ w, Only [] W w → Calls Try.prog 44 #[.slice A l.length c] w fun e w' => e = .returned (.bool (small15 l)) ∧ w = w') := by
    intro w ho
    refine small_of _ l w ?_ HG.out
    obtain ⟨h1, a1, c1, h2, h3, h4, h5⟩ := HS.out.only ho (Nat.le_refl _) (by simp)
    exact ⟨h1, a1, c1, h2, h3, h4, fun h => by obtain ⟨b, o, e1, e2, e3⟩ := h5 h; exact ⟨b, o, e1, Nat.lt_of_lt_of_le e2 ho.size, e3⟩⟩
  have CS2 : Hid (∀ w, Only [] W w → Calls Try.prog 44 #[.slice A2 l2.length c2] w fun e w' => e = .returned (.bool (small15 l2)) ∧ w = w') := by
    intro w ho
    refine small_of _ l2 w ?_ HG2.out
    obtain ⟨h1, a1, c1, h2, h3, h4, h5⟩ := HS2.out.only ho (Nat.le_refl _) (by simp)
    exact ⟨h1, a1, c1, h2, h3, h4, fun h => by obtain ⟨b, o, e1, e2, e3⟩ := h5 h; exact ⟨b, o, e1, Nat.lt_of_lt_of_le e2 ho.size, e3⟩⟩
  obtain ⟨s1, s2, e1, e2, hss⟩ : ∃ s1 s2, small15 l = s1 ∧ small15 l2 = s2 ∧ ((s1 = false) ∨ (s1 = true ∧ s2 = false) ∨ (s1 = true ∧ s2 = true ∧ (l.length ≤ 200 ∧ ∀ a ∈ l, a.reply.size ≤ 3000) ∧ (l2.length ≤ 200 ∧ ∀ a ∈ l2, a.reply.size ≤ 3000))) := by
    refine ⟨_, _, rfl, rfl, ?_⟩
    cases h1 : small15 l with
    | false => exact .inl rfl
    | true =>
      cases h2 : small15 l2 with
      | false => exact .inr (.inl ⟨rfl, rfl⟩)
      | true =>
        exact .inr (.inr ⟨rfl, rfl, small_reply h1, small_reply h2⟩)
  rw [e1] at CS
  rw [e2] at CS2
  clear e1 e2
  rcases hss with rfl | ⟨rfl, rfl⟩ | ⟨rfl, rfl, ⟨hl200, hr1⟩, hl2, hr2⟩
  · go_enter Try.func17, Try.ntmps17
    go_wp2_with fail
    refine (shown15 W).mono ?_
    rintro e w1 ⟨rfl, ho1⟩
    go_wp2_with fail
    refine (CS.out _ ho1).mono ?_
    rintro e w2 ⟨rfl, rfl⟩
    go_wp2_with fail
    refine (CS2.out _ ho1).mono ?_
    rintro e w2 ⟨rfl, rfl⟩
    go_wp2_with fail
    go_ret
    exact ⟨rfl, ho1⟩
  · go_enter Try.func17, Try.ntmps17
    go_wp2_with fail
    refine (shown15 W).mono ?_
    rintro e w1 ⟨rfl, ho1⟩
    go_wp2_with fail
    refine (CS.out _ ho1).mono ?_
    rintro e w2 ⟨rfl, rfl⟩
    go_wp2_with fail
    refine (CS2.out _ ho1).mono ?_
    rintro e w2 ⟨rfl, rfl⟩
    go_wp2_with fail
    go_ret
    exact ⟨rfl, ho1⟩
  · have HAG := Lib.hid (all_after HG.out hr1)
    have HR2 := Lib.hid hr2
    clear hr1 hr2
    go_enter Try.func17, Try.ntmps17
    go_wp2_with fail
    refine (shown15 W).mono ?_
    rintro e w1 ⟨rfl, ho1⟩
    go_wp2_with fail
    refine (CS.out _ ho1).mono ?_
    rintro e w2 ⟨rfl, rfl⟩
    go_wp2_with fail
    refine (CS2.out _ ho1).mono ?_
    rintro e w2 ⟨rfl, rfl⟩
    go_wp2_with fail
    refine (new15 _).mono ?_
    rintro e w2 ⟨rfl, ht2, ho2, -⟩
    have hWB : W.heap.size ≤ w1.heap.size := ho1.size
    have hoA := ho1.tr0 ho2
    obtain ⟨b, hb⟩ : ∃ b, w1.heap.size = b := ⟨_, rfl⟩
    rw [hb] at ht2 hWB ⊢
    have HT2 := Lib.hid ht2
    clear ht2 ho1 ho2 hb
    go_wp2_with fail
    go_loopw [9] (fun i wr => ∃ (k : Nat) (tv : Value), k ≤ l.length ∧ i = .int .i64 k ∧ Hid (TbT wr b b tv (TS.after (l.take k))) ∧ Only [] W wr) (fun i _ => l.length - (intOf i).toNat)
    case atStart => exact ⟨0, _, by omega, rfl, HT2, hoA⟩
    case round =>
      obtain ⟨k, tv, hk, rfl, ht, ho⟩ := hrel
      obtain ⟨hok, hev⟩ := after_ok (l.take k)
      rw [List.length_take] at hev
      by_cases hlt : k < l.length
      · have hlt' : (k : Int) < (l.length : Int) := by omega
        have hk1 := List.getElem?_eq_getElem hlt
        obtain ⟨x, hx⟩ : ∃ x, l[k] = x := ⟨_, rfl⟩
        rw [hx] at hk1
        have hw := HG.out x (List.mem_of_getElem? hk1)
        obtain ⟨ab, ao, ac, hv, hab, hc⟩ := (HS.out.only ho (Nat.le_refl _) (by simp)).at_ (by omega)
        have q0 : wr.cell? ⟨ab, ao + k * 4, none⟩ = some (.int .i64 x.op) := hc (k * 4 + 0) _ (acts_get l k 0 x hk1 (by omega))
        have q1 : wr.cell? ⟨ab, ao + k * 4 + 1, none⟩ = some (.int .i64 x.id) := hc (k * 4 + 1) _ (acts_get l k 1 x hk1 (by omega))
        have q2 : wr.cell? ⟨ab, ao + k * 4 + 2, none⟩ = some (.int .i64 x.seq) := hc (k * 4 + 2) _ (acts_get l k 2 x hk1 (by omega))
        have q3 : wr.cell? ⟨ab, ao + k * 4 + 3, none⟩ = some (.string x.reply) := hc (k * 4 + 3) _ (acts_get l k 3 x hk1 (by omega))
        have hsz := ho.size
        have CD := Lib.hid (does15 b b tv _ x wr hw ht.out hok.len ⟨hok.ever, by omega⟩)
        have HE := Lib.hid (after_snoc l k x hk1)
        injection hv with e1 e2 e3
        subst e1; subst e3
        clear e2 hc hx hk1 hw hok hev
        unfold Act.val at CD
        go_wp2_with (go_at_call 46; refine CD.out.mono ?_; rintro e w3 ⟨rfl, tv3, ht3, ho3, _⟩; have HT3 := Lib.hid ht3; clear ht3)
        go_roundw
        case rel => exact ⟨k + 1, tv3, by omega, by go_num, by show TbT _ _ _ _ _; rw [HE.out]; exact HT3.out, ho.past ht.out hWB ho3⟩
        case measure => simp [intOf]; omega
      · have hd0 : decide ((k : Int) < (l.length : Int)) = false := by simp; omega
        obtain rfl : k = l.length := by omega
        rw [List.take_length] at ht hok hev
        have honce := once_after l
        have hag := HAG.out
        obtain ⟨t, htt⟩ : ∃ t, TS.after l = t := ⟨_, rfl⟩
        rw [htt] at ht hok hev honce hag
        have hfit := g_fit hok hag (by omega)
        have hwe : Wide64 t.ever := by have := hok.ever; exact ⟨by omega, by omega⟩
        have hl8 := hok.len
        have hev0 := hok.ever
        have HUS := Lib.hid (unS_pack hok honce hag (by omega))
        have hplen : (packL t.l t.ever).length ≤ 1000000 := by
          have h1 := (ib_length _ hwe).2
          have h2 := (ib_length (t.l.length : Int) ⟨by omega, by omega⟩).2
          have h3 : (sesB t.l).length ≤ 3100 * t.l.length := by
            have key : ∀ m : List Ses, (∀ s ∈ m, s ∈ t.l) → (sesB m).length ≤ 3100 * m.length := by
              intro m
              induction m with
              | nil => intro _; simp [sesB]
              | cons s m ih =>
                intro hm
                have i1 := ih fun x hx => hm x (by simp [hx])
                have hs := hfit s (hm s (by simp))
                have hz := (hag s (hm s (by simp))).size
                have j1 := (ib_length _ hs.id).2
                have j2 := (ib_length _ hs.seq).2
                have j5 : s.reply.data.toList.length = s.reply.size := by simp
                have j3 := (tb_length s.reply.data.toList (by omega)).2
                have e : sesB (s :: m) = s.bytes ++ sesB m := rfl
                rw [e, List.length_append, List.length_cons]
                unfold Ses.bytes
                rw [List.length_append, List.length_append]; omega
            exact key t.l fun _ h => h
          unfold packL
          rw [List.length_append, List.length_append]; omega
        have CPK := Lib.hid (tbs_pack b b t.l t.ever wr ht.out.s (by omega) hwe hfit)
        have CUN := Lib.hid (fun w => un_some (ses_unpack (packL t.l t.ever) w hplen) HUS.out)
        have HOKS : Hid (t.Ok ∧ AllG t) := ⟨hok, hag⟩
        have hev200 : t.ever ≤ 200 := by omega
        clear hok hev htt honce hag hfit hwe hl8 hev0
        go_wp2_with fail
        refine CPK.out.mono ?_
        rintro e w3 ⟨rfl, ho3⟩
        go_wp2_with fail
        refine (CUN.out _).mono ?_
        rintro e w4 ⟨b2, uv, rfl, hU, ho4⟩
        have hT4 := TbV.only ht.out (ho3.tr0 ho4)
        have hap : Apart b tv b2 uv := ⟨by have h1 := ht.out.2.1.lt; have h2 := hU.1; have h3 := ho3.size; omega, fun g h1 h2 => by have h3 := (ht.out.2.2.lt g h1).2; have h4 := (hU.2.2.lt g h2).1; have h5 := ho3.size; omega⟩
        have hWB2 : W.heap.size ≤ b2 := by have h1 := ho.size; have h2 := ho3.size; have h3 := hU.1; omega
        have hU' : TbV w4 W.heap.size b2 uv t.l t.ever := ⟨hWB2, hU.2.1, own_base hU.2.2 (by have h1 := ho.size; have h2 := ho3.size; omega)⟩
        have hT4' : TbV w4 W.heap.size b tv t.l t.ever := ⟨hWB, hT4.2.1, own_base hT4.2.2 hWB⟩
        have HT4 := Lib.hid hT4'
        have HU4 := Lib.hid hU'
        have HAP := Lib.hid hap
        have hoB := ho.tr0 (ho3.tr0 ho4)
        clear hT4 hT4' hU hU' hap ht ho3 ho4 ho CPK CUN
        go_wp2_with fail
        go_loopw [12] (fun i wr => ∃ (k : Nat) (tv uv : Value) (t : TS), k ≤ l2.length ∧ i = .int .i64 k ∧ Hid (TbV wr W.heap.size b tv t.l t.ever) ∧ Hid (TbV wr W.heap.size b2 uv t.l t.ever) ∧ Hid (Apart b tv b2 uv) ∧ Hid (t.Ok ∧ AllG t) ∧ t.ever ≤ 200 + k ∧ Only [] W wr) (fun i _ => l2.length - (intOf i).toNat)
        case atStart => exact ⟨0, tv, uv, t, by omega, rfl, HT4, HU4, HAP, HOKS, by omega, hoB⟩
        case round =>
          obtain ⟨k, tv, uv, t, hk, rfl, hT, hU, hap, hoks, hev, ho⟩ := hrel
          have hl8 := hoks.out.1.len
          have hev0 := hoks.out.1.ever
          by_cases hlt : k < l2.length
          · have hlt' : (k : Int) < (l2.length : Int) := by omega
            have hk1 := List.getElem?_eq_getElem hlt
            obtain ⟨x, hx⟩ : ∃ x, l2[k] = x := ⟨_, rfl⟩
            rw [hx] at hk1
            have hw := HG2.out x (List.mem_of_getElem? hk1)
            have hrp := HR2.out x (List.mem_of_getElem? hk1)
            have HAC : Hid (∀ w', Only [] W w' → ∃ ab ao ac, Value.slice A2 l2.length c2 = .slice (some ⟨ab, ao, none⟩) l2.length ac ∧ w'.cell? ⟨ab, ao + k * 4, none⟩ = some (.int .i64 x.op) ∧ w'.cell? ⟨ab, ao + k * 4 + 1, none⟩ = some (.int .i64 x.id) ∧ w'.cell? ⟨ab, ao + k * 4 + 2, none⟩ = some (.int .i64 x.seq) ∧ w'.cell? ⟨ab, ao + k * 4 + 3, none⟩ = some (.string x.reply)) := fun w' ho' => by
              obtain ⟨ab, ao, ac, hv, hab, hc⟩ := (HS2.out.only ho' (Nat.le_refl _) (by simp)).at_ (by omega)
              exact ⟨ab, ao, ac, hv, hc (k * 4 + 0) _ (acts_get l2 k 0 x hk1 (by omega)), hc (k * 4 + 1) _ (acts_get l2 k 1 x hk1 (by omega)), hc (k * 4 + 2) _ (acts_get l2 k 2 x hk1 (by omega)), hc (k * 4 + 3) _ (acts_get l2 k 3 x hk1 (by omega))⟩
            obtain ⟨ab, ao, ac, hv, q0, q1, q2, q3⟩ := HAC.out _ ho
            have CD := Lib.hid (does15 W.heap.size b tv t x wr hw hT.out hl8 ⟨hev0, by omega⟩)
            have CD2 : Hid (∀ w', TbV w' W.heap.size b2 uv t.l t.ever → Calls Try.prog 46 #[.pointer (some ⟨b2, 0, none⟩), .agg #[.int .i64 x.op, .int .i64 x.id, .int .i64 x.seq, .string x.reply]] w' fun e w2 => e = .returned (.tuple #[]) ∧ ∃ v', TbT w2 W.heap.size b2 v' (t.does x) ∧ Only (b2 :: rb uv) w' w2 ∧ (∀ g, v'.ownBlock = some g → uv.ownBlock = some g ∨ w'.heap.size ≤ g)) := fun w' h' => does15 W.heap.size b2 uv t x w' hw h' hl8 ⟨hev0, by omega⟩
            have HOK2 : Hid ((t.does x).Ok ∧ AllG (t.does x)) := ⟨ok_does hoks.out.1 x, g_does hoks.out.2 x hw hrp⟩
            have hev2 := ever_does t x
            unfold Act.val at CD
            injection hv with e1 e2 e3
            subst e1; subst e3
            clear e2 hx hk1 hw hrp
            go_wp2_with fail
            refine CD.out.mono ?_
            rintro e w3 ⟨rfl, tv3, ht3, ho3, hg3⟩
            have hU3 := TbV.apart hU.out hT.out hap.out ho3
            have hap3 := hap.out.next hU.out hg3
            have hoC := ho.past hT.out (Nat.le_refl _) ho3
            obtain ⟨ab', ao', ac', hv', q0', q1', q2', q3'⟩ := HAC.out _ hoC
            simp only [Value.slice.injEq, Option.some.injEq, Addr.mk.injEq, and_true, true_and] at hv'
            obtain ⟨⟨rfl, rfl⟩, rfl⟩ := hv'
            have HU3 := Lib.hid hU3
            have HT3 := Lib.hid ht3
            have HAP3 := Lib.hid hap3
            clear hU3 ht3 hap3 ho3 hg3 CD q0 q1 q2 q3 hT hU hap HAC ho
            go_wp2_with fail
            refine (CD2.out _ HU3.out).mono ?_
            rintro e w5 ⟨rfl, uv5, hu5, ho5, hg5⟩
            have HT5 : Hid (TbV w5 W.heap.size b tv3 (t.does x).l (t.does x).ever) := TbV.apart HT3.out HU3.out HAP3.out.symm ho5
            have HAP5 : Hid (Apart b tv3 b2 uv5) := (HAP3.out.symm.next HT3.out hg5).symm
            have HU5 : Hid (TbV w5 W.heap.size b2 uv5 (t.does x).l (t.does x).ever) := hu5
            have hoD := hoC.past HU3.out (Nat.le_refl _) ho5
            clear hu5 ho5 hg5 CD2 q0' q1' q2' q3'
            go_wp2_with fail
            go_roundw
            case rel => exact ⟨k + 1, tv3, uv5, t.does x, by omega, by go_num, HT5, HU5, HAP5, HOK2, by omega, hoD⟩
            case measure => simp [intOf]; omega
          · have hd0 : decide ((k : Int) < (l2.length : Int)) = false := by simp; omega
            have hfit := g_fit hoks.out.1 hoks.out.2 (by omega)
            have hwe : Wide64 t.ever := ⟨by omega, by omega⟩
            have CI := Lib.hid (tbs_ids W.heap.size b t.l t.ever wr (TbV.s hT.out) (by omega))
            have CP : Hid (∀ w', Only [] wr w' → Calls Try.prog 56 #[.pointer (some ⟨b, 0, none⟩)] w' fun e w2 => e = .returned (.string ⟨(packL t.l t.ever).toArray⟩) ∧ Only [] w' w2) := fun w' ho' => tbs_pack _ b t.l t.ever w' ((TbV.s hT.out).only ho') (by omega) hwe hfit
            have CP2 : Hid (∀ w', Only [] wr w' → Calls Try.prog 56 #[.pointer (some ⟨b2, 0, none⟩)] w' fun e w2 => e = .returned (.string ⟨(packL t.l t.ever).toArray⟩) ∧ Only [] w' w2) := fun w' ho' => tbs_pack _ b2 t.l t.ever w' ((TbV.s hU.out).only ho') (by omega) hwe hfit
            have h8 : decide ((t.l.length : Int) ≤ 8) = true := by simp; omega
            clear hfit hwe
            go_wp2_with fail
            refine CI.out.mono ?_
            rintro e w3 ⟨vi, rfl, hown, ho3⟩
            obtain ⟨Ai, ci, rfl⟩ := (SlAt.of_own hown).shape
            clear hown
            go_wp2_with fail
            refine (CP.out _ ho3).mono ?_
            rintro e w5 ⟨rfl, ho5⟩
            go_wp2_with fail
            refine (CP2.out _ (ho3.tr0 ho5)).mono ?_
            rintro e w6 ⟨rfl, ho6⟩
            go_wp2_with fail
            go_ret
            exact ⟨by simp, ho.tr0 ((ho3.tr0 ho5).tr0 ho6)⟩
end Go.Proofs.Ytojhbhdlbbmghaa
