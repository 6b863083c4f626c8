/-
  The walk over SessionOnce.
-/
import Derived.Test.YtojhbhdlbbmghaaShown15
import Derived.Test.YtojhbhdlbbmghaaPlain15b
namespace Go.Proofs.Ytojhbhdlbbmghaa
open Go.RowKit
theorem once_after (l : List Act) : Once (TS.after l).l := by
  suffices H : ∀ (m : List Act) (t : TS), t.Ok → Once t.l → Once (m.foldl TS.does t).l from H l ⟨[], 0⟩ ok_new (by simp [Once])
  intro m
  induction m with
  | nil => exact fun t _ h => h
  | cons a m ih => exact fun t h ho => ih _ (ok_does h a) (once_does h ho a)
theorem did_now {t : TS} (ho : Once t.l) (id seq : Int) (r : ByteArray) (h0 : (askS t.l id seq).1 = 0) : askS (doneL t.l id seq r) id seq = (1, r) := by
  obtain ⟨x, hx, hlt, _, hp, _⟩ := askS_zero h0
  obtain ⟨y, hy, hyi⟩ := fndS_id hlt
  have hno := erase_no ho hy
  unfold doneL
  rw [if_pos h0]
  obtain ⟨l', hl'⟩ : ∃ l', t.l.eraseIdx (fndS t.l id) = l' := ⟨_, rfl⟩
  rw [hl'] at hno ⊢
  have hf : fndS (l' ++ [⟨id, seq, r⟩]) id = l'.length := by
    unfold fndS
    refine (List.findIdx_eq (by simp)).2 ⟨by simp, fun j hj => ?_⟩
    rw [List.getElem_append_left hj]
    have := hno l'[j] (List.getElem_mem hj)
    rw [hyi] at this
    simpa using this
  unfold askS atS
  rw [hf, List.getElem?_append_right (Nat.le_refl _)]
  simp
  omega
set_option maxRecDepth 100000 in
set_option maxHeartbeats 4000000 in
theorem sessionOnce_walk (W : World) (v : Value) (l : List Act) (hs : SlAt W W.heap.size v 4 l.length (l.flatMap Act.cells)) (hg : ∀ a ∈ l, a.wide) (id : Int) (_hi' : (Lit.int .i64 id).wf = true) (seq : Int) (_hq' : (Lit.int .i64 seq).wf = true)
    (v2 : Value) (l2 : List Act) (hs2 : SlAt W W.heap.size v2 4 l2.length (l2.flatMap Act.cells)) (hg2 : ∀ a ∈ l2, a.wide) :
    Calls Try.prog 11 #[v, .int .i64 id, .int .i64 seq, v2] W fun e W' => e = .returned (.bool true) ∧ Only [] W W' := by
  obtain ⟨A, c, rfl⟩ := hs.shape
  obtain ⟨A2, c2, rfl⟩ := hs2.shape
  have HS := Lib.hid hs
  have HG := Lib.hid hg
  have HS2 := Lib.hid hs2
  have HG2 := Lib.hid hg2
  clear hs hg hs2 hg2
  have CS : Hid (∀ w, Only [] W w → Calls Try.prog 44 #[.slice A l.length c] w fun e w' => e = .returned (.bool (small15 l)) ∧ w = w') := by
    intro w ho
    refine small_of _ l w ?_ HG.out
    obtain ⟨h1, a1, c1, h2, h3, h4, h5⟩ := HS.out.only ho (Nat.le_refl _) (by simp)
    exact ⟨h1, a1, c1, h2, h3, h4, fun h => by obtain ⟨b, o, e1, e2, e3⟩ := h5 h; exact ⟨b, o, e1, Nat.lt_of_lt_of_le e2 ho.size, e3⟩⟩
  have CS2 : Hid (∀ w, Only [] W w → Calls Try.prog 44 #[.slice A2 l2.length c2] w fun e w' => e = .returned (.bool (small15 l2)) ∧ w = w') := by
    intro w ho
    refine small_of _ l2 w ?_ HG2.out
    obtain ⟨h1, a1, c1, h2, h3, h4, h5⟩ := HS2.out.only ho (Nat.le_refl _) (by simp)
    exact ⟨h1, a1, c1, h2, h3, h4, fun h => by obtain ⟨b, o, e1, e2, e3⟩ := h5 h; exact ⟨b, o, e1, Nat.lt_of_lt_of_le e2 ho.size, e3⟩⟩
  obtain ⟨s1, s2, e1, e2, hss⟩ : ∃ s1 s2, small15 l = s1 ∧ small15 l2 = s2 ∧ ((s1 = false) ∨ (s1 = true ∧ s2 = false) ∨ (s1 = true ∧ s2 = true ∧ l.length ≤ 200 ∧ l2.length ≤ 200)) := by
    refine ⟨_, _, rfl, rfl, ?_⟩
    cases h1 : small15 l with
    | false => exact .inl rfl
    | true =>
      cases h2 : small15 l2 with
      | false => exact .inr (.inl ⟨rfl, rfl⟩)
      | true =>
        unfold small15 at h1 h2
        simp at h1 h2
        exact .inr (.inr ⟨rfl, rfl, h1.1, h2.1⟩)
  rw [e1] at CS
  rw [e2] at CS2
  clear e1 e2
  rcases hss with rfl | ⟨rfl, rfl⟩ | ⟨rfl, rfl, hl200, hl2⟩
  · go_enter Try.func11, Try.ntmps11
    go_wp2_with fail
    refine (shown15 W).mono ?_
    rintro e w1 ⟨rfl, ho1⟩
    go_wp2_with fail
    refine (CS.out _ ho1).mono ?_
    rintro e w2 ⟨rfl, rfl⟩
    go_wp2_with fail
    refine (CS2.out _ ho1).mono ?_
    rintro e w2 ⟨rfl, rfl⟩
    go_wp2_with fail
    go_ret
    exact ⟨rfl, ho1⟩
  · go_enter Try.func11, Try.ntmps11
    go_wp2_with fail
    refine (shown15 W).mono ?_
    rintro e w1 ⟨rfl, ho1⟩
    go_wp2_with fail
    refine (CS.out _ ho1).mono ?_
    rintro e w2 ⟨rfl, rfl⟩
    go_wp2_with fail
    refine (CS2.out _ ho1).mono ?_
    rintro e w2 ⟨rfl, rfl⟩
    go_wp2_with fail
    go_ret
    exact ⟨rfl, ho1⟩
  · go_enter Try.func11, Try.ntmps11
    go_wp2_with fail
    refine (shown15 W).mono ?_
    rintro e w1 ⟨rfl, ho1⟩
    go_wp2_with fail
    refine (CS.out _ ho1).mono ?_
    rintro e w2 ⟨rfl, rfl⟩
    go_wp2_with fail
    refine (CS2.out _ ho1).mono ?_
    rintro e w2 ⟨rfl, rfl⟩
    go_wp2_with fail
    refine (new15 _).mono ?_
    rintro e w2 ⟨rfl, ht2, ho2, _⟩
    have hWB : W.heap.size ≤ w1.heap.size := ho1.size
    have hoA := ho1.tr0 ho2
    obtain ⟨b, hb⟩ : ∃ b, w1.heap.size = b := ⟨_, rfl⟩
    rw [hb] at ht2 hWB ⊢
    have HT2 := Lib.hid ht2
    clear ht2 ho1 ho2 hb
    go_wp2_with fail
    go_loopw [13] (fun i wr => ∃ (k : Nat) (tv : Value), k ≤ l.length ∧ i = .int .i64 k ∧ Hid (TbT wr b b tv (TS.after (l.take k))) ∧ Only [] W wr) (fun i _ => l.length - (intOf i).toNat)
    case atStart => exact ⟨0, _, by omega, rfl, HT2, hoA⟩
    case round =>
      obtain ⟨k, tv, hk, rfl, ht, ho⟩ := hrel
      obtain ⟨hok, hev⟩ := after_ok (l.take k)
      rw [List.length_take] at hev
      by_cases hlt : k < l.length
      · have hlt' : (k : Int) < (l.length : Int) := by omega
        have hk1 := List.getElem?_eq_getElem hlt
        obtain ⟨x, hx⟩ : ∃ x, l[k] = x := ⟨_, rfl⟩
        rw [hx] at hk1
        have hw := HG.out x (List.mem_of_getElem? hk1)
        obtain ⟨ab, ao, ac, hv, hab, hc⟩ := (HS.out.only ho (Nat.le_refl _) (by simp)).at_ (by omega)
        have q0 : wr.cell? ⟨ab, ao + k * 4, none⟩ = some (.int .i64 x.op) := hc (k * 4 + 0) _ (acts_get l k 0 x hk1 (by omega))
        have q1 : wr.cell? ⟨ab, ao + k * 4 + 1, none⟩ = some (.int .i64 x.id) := hc (k * 4 + 1) _ (acts_get l k 1 x hk1 (by omega))
        have q2 : wr.cell? ⟨ab, ao + k * 4 + 2, none⟩ = some (.int .i64 x.seq) := hc (k * 4 + 2) _ (acts_get l k 2 x hk1 (by omega))
        have q3 : wr.cell? ⟨ab, ao + k * 4 + 3, none⟩ = some (.string x.reply) := hc (k * 4 + 3) _ (acts_get l k 3 x hk1 (by omega))
        have hsz := ho.size
        have CD := Lib.hid (does15 b b tv _ x wr hw ht.out hok.len ⟨hok.ever, by omega⟩)
        have HE := Lib.hid (after_snoc l k x hk1)
        injection hv with e1 e2 e3
        subst e1; subst e3
        clear e2 hc hx hk1 hw hok hev
        unfold Act.val at CD
        go_wp2_with (go_at_call 46; refine CD.out.mono ?_; rintro e w3 ⟨rfl, tv3, ht3, ho3, _⟩; have HT3 := Lib.hid ht3; clear ht3)
        go_roundw
        case rel => exact ⟨k + 1, tv3, by omega, by go_num, by show TbT _ _ _ _ _; rw [HE.out]; exact HT3.out, ho.past ht.out hWB ho3⟩
        case measure => simp [intOf]; omega
      · have hd0 : decide ((k : Int) < (l.length : Int)) = false := by simp; omega
        obtain rfl : k = l.length := by omega
        rw [List.take_length] at ht hok hev
        have honce := once_after l
        obtain ⟨t, htt⟩ : ∃ t, TS.after l = t := ⟨_, rfl⟩
        rw [htt] at ht hok hev honce
        have CA := Lib.hid (tbs_ask b b t.l t.ever id seq wr ht.out.s (by have := hok.len; omega))
        obtain ⟨r1, r2, hask⟩ : ∃ r1 r2, askS t.l id seq = (r1, r2) := ⟨_, _, rfl⟩
        have HASK := Lib.hid hask
        rw [hask] at CA
        have CA : Hid (Calls Try.prog 47 #[.pointer (some ⟨b, 0, none⟩), .int .i64 id, .int .i64 seq] wr fun e w' => e = .returned (.tuple #[.int .i64 r1, .string r2]) ∧ Only [] wr w') := CA
        have HOK := Lib.hid hok
        have HON := Lib.hid honce
        have he1 : t.ever ≤ 200 := by omega
        clear hok hev htt honce hask
        go_wp2_with fail
        refine CA.out.mono ?_
        rintro e w3 ⟨rfl, ho3⟩
        have hoB := ho.tr0 ho3
        have HT3 := Lib.hid (TbV.only ht.out ho3)
        clear ho ht ho3
        have CD := tbs_done b b tv t.l t.ever id seq ⟨#[114, 101, 112, 108, 121]⟩ w3 HT3.out HOK.out.len
        rw [show (askS t.l id seq).1 = r1 from by rw [HASK.out]] at CD
        have HCD := Lib.hid CD
        clear CD
        by_cases hr : r1 = 0
        · subst hr
          go_wp2_with fail
          refine HCD.out.mono ?_
          rintro e w4 ⟨rfl, tv4, ht4, ho4, _⟩
          have hoC := hoB.past HT3.out hWB ho4
          have hdid := did_first HOK.out HON.out id seq ⟨#[114, 101, 112, 108, 121]⟩ (by rw [HASK.out])
          obtain ⟨t4, ht4e⟩ : ∃ t4 : TS, (⟨doneL t.l id seq ⟨#[114, 101, 112, 108, 121]⟩, t.ever⟩ : TS) = t4 := ⟨_, rfl⟩
          have HT4 : Hid (TbT w4 b b tv4 t4) := by rw [← ht4e]; exact ht4
          have hnow := did_now HON.out id seq ⟨#[114, 101, 112, 108, 121]⟩ (by rw [HASK.out])
          have CN := tbs_ask b b _ t.ever id seq w4 ht4.s (by have := doneL_len HOK.out.len id seq ⟨#[114, 101, 112, 108, 121]⟩; omega)
          rw [hnow] at CN
          have CN : Calls Try.prog 47 #[.pointer (some ⟨b, 0, none⟩), .int .i64 id, .int .i64 seq] w4 fun e w' => e = .returned (.tuple #[.int .i64 1, .string ⟨#[114, 101, 112, 108, 121]⟩]) ∧ Only [] w4 w' := CN
          have HCN := Lib.hid CN
          have hev4 : t4.ever ≤ 200 := by rw [← ht4e]; exact he1
          rw [ht4e] at hdid
          have HDID := Lib.hid hdid
          clear CN hnow ht4 ht4e hdid ho4 HCD
          go_wp2_with fail
          refine HCN.out.mono ?_
          rintro e w5 ⟨rfl, ho5⟩
          have hoD := hoC.tr0 ho5
          have HT5 := Lib.hid (TbV.only HT4.out ho5)
          clear hoC ho5 HCN
          go_wp2_with fail
          go_loopw [18] (fun i wr => ∃ (k : Nat) (tv : Value) (t : TS), k ≤ l2.length ∧ i = .int .i64 k ∧ Hid (TbT wr b b tv t) ∧ Hid (Did id seq ⟨#[114, 101, 112, 108, 121]⟩ t) ∧ t.ever ≤ 200 + k ∧ Only [] W wr) (fun i _ => l2.length - (intOf i).toNat)
          case atStart => exact ⟨0, _, _, by omega, rfl, HT5, HDID, by omega, hoD⟩
          case round =>
            obtain ⟨k, tv, t, hk, rfl, ht, hdd, hev, ho⟩ := hrel
            by_cases hlt : k < l2.length
            · have hlt' : (k : Int) < (l2.length : Int) := by omega
              have hk1 := List.getElem?_eq_getElem hlt
              obtain ⟨x, hx⟩ : ∃ x, l2[k] = x := ⟨_, rfl⟩
              rw [hx] at hk1
              have hw := HG2.out x (List.mem_of_getElem? hk1)
              obtain ⟨ab, ao, ac, hv, hab, hc⟩ := (HS2.out.only ho (Nat.le_refl _) (by simp)).at_ (by omega)
              have q0 : wr.cell? ⟨ab, ao + k * 4, none⟩ = some (.int .i64 x.op) := hc (k * 4 + 0) _ (acts_get l2 k 0 x hk1 (by omega))
              have q1 : wr.cell? ⟨ab, ao + k * 4 + 1, none⟩ = some (.int .i64 x.id) := hc (k * 4 + 1) _ (acts_get l2 k 1 x hk1 (by omega))
              have q2 : wr.cell? ⟨ab, ao + k * 4 + 2, none⟩ = some (.int .i64 x.seq) := hc (k * 4 + 2) _ (acts_get l2 k 2 x hk1 (by omega))
              have q3 : wr.cell? ⟨ab, ao + k * 4 + 3, none⟩ = some (.string x.reply) := hc (k * 4 + 3) _ (acts_get l2 k 3 x hk1 (by omega))
              have hsz := ho.size
              have hok := hdd.out.ok
              have CD := Lib.hid (does15 b b tv t x wr hw ht.out hok.len ⟨hok.ever, by omega⟩)
              have HD2 := Lib.hid (did_does hdd.out x)
              have hev2 := ever_does t x
              injection hv with e1 e2 e3
              subst e1; subst e3
              clear e2 hc hx hk1 hw hok
              unfold Act.val at CD
              go_wp2_with (go_at_call 46; refine CD.out.mono ?_; rintro e w6 ⟨rfl, tv6, ht6, ho6, _⟩; have HT6 := Lib.hid ht6; clear ht6)
              have hoE := ho.past ht.out hWB ho6
              have CN := tbs_ask b b (t.does x).l (t.does x).ever id seq w6 HT6.out.s (by have := HD2.out.ok.len; omega)
              rcases did_ask HD2.out with ha | ha | ha
              all_goals
                rw [ha] at CN
                have CN : Calls Try.prog 47 #[.pointer (some ⟨b, 0, none⟩), .int .i64 id, .int .i64 seq] w6 fun e w' => e = .returned (.tuple #[.int .i64 _, .string _]) ∧ Only [] w6 w' := CN
                have HCN := Lib.hid CN
                clear CN ha
                refine HCN.out.mono ?_
                rintro e w7 ⟨rfl, ho7⟩
                go_wp2_with fail
                go_roundw
                case rel => exact ⟨k + 1, tv6, t.does x, by omega, by go_num, TbV.only HT6.out ho7, HD2, by omega, hoE.tr0 ho7⟩
                case measure => simp [intOf]; omega
            · have hd0 : decide ((k : Int) < (l2.length : Int)) = false := by simp; omega
              go_wp2_with fail
              go_ret
              exact ⟨rfl, ho⟩
        · have hr0 : (r1 == 0) = false := by simpa using hr
          go_wp2_with fail
          refine HCD.out.mono ?_
          rintro e w4 ⟨rfl, tv4, ht4, ho4, _⟩
          have hoC := hoB.past HT3.out hWB ho4
          clear ht4 ho4
          go_wp2_with fail
          go_ret
          exact ⟨rfl, hoC⟩
end Go.Proofs.Ytojhbhdlbbmghaa
