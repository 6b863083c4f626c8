/-
  The walk over StoreAgain: the same items again add nothing; those that are new are added, in their order, behind the others.
-/
import Derived.Test.YtjfnkjpnjiobjaaOpn17
namespace Go.Proofs.Ytjfnkjpnjiobjaa
open Go.RowKit
theorem ingF_spec (l : List It) : ∀ s : Fd × Nat, ∃ R : List Po, (l.foldl ingS s).1.ps = s.1.ps ++ R ∧ (l.foldl ingS s).2 = s.2 + R.length ∧ (R.map (·.it)).Sublist l ∧ ∀ x ∈ R, x.rd = false := by
  induction l with
  | nil => intro s; exact ⟨[], by simp, by simp, by simp, by simp⟩
  | cons x r ih =>
    intro s
    obtain ⟨R, h1, h2, h3, h4⟩ := ih (ingS s x)
    rw [List.foldl_cons]
    cases hb : addB s.1 x with
    | true =>
      have e1 : (ingS s x).1.ps = s.1.ps ++ [⟨(s.1.ps.length : Int) + 1, x, false⟩] := by unfold ingS addF; dsimp only; rw [if_pos hb]
      have e2 : (ingS s x).2 = s.2 + 1 := by unfold ingS; dsimp only; rw [if_pos hb]
      refine ⟨⟨(s.1.ps.length : Int) + 1, x, false⟩ :: R, by rw [h1, e1]; simp, by rw [h2, e2]; simp; omega, by rw [List.map_cons]; exact h3.cons_cons x, ?_⟩
      intro y hy
      rcases List.mem_cons.1 hy with rfl | hy
      · rfl
      · exact h4 y hy
    | false =>
      have e1 : (ingS s x).1.ps = s.1.ps := by unfold ingS addF; dsimp only; rw [if_neg (by rw [hb]; simp)]
      have e2 : (ingS s x).2 = s.2 := by unfold ingS; dsimp only; rw [if_neg (by rw [hb]; simp)]
      exact ⟨R, by rw [h1, e1], by rw [h2, e2], h3.cons x, h4⟩
theorem idx_some {ps : List Po} {y : Po} (h : y ∈ ps) : (idx ps y.it.id).isSome = true := by
  cases hi : idx ps y.it.id with
  | none => exact absurd rfl (idx_none hi y h)
  | some i => rfl
theorem ingF_all (l : List It) : ∀ s : Fd × Nat, (l.foldl ingS s).1.ps.length < 200 → ∀ x ∈ l, ∃ y ∈ (l.foldl ingS s).1.ps, y.it.id = x.id := by
  induction l with
  | nil => intro s _ x hx; simp at hx
  | cons z r ih =>
    intro s hl x hx
    rw [List.foldl_cons] at hl ⊢
    rcases List.mem_cons.1 hx with rfl | hx
    · obtain ⟨R, h1, _⟩ := ingF_spec r (ingS s x)
      rw [h1] at hl ⊢
      cases hb : addB s.1 x with
      | true =>
        have e1 : (ingS s x).1.ps = s.1.ps ++ [⟨(s.1.ps.length : Int) + 1, x, false⟩] := by unfold ingS addF; dsimp only; rw [if_pos hb]
        rw [e1]
        exact ⟨⟨(s.1.ps.length : Int) + 1, x, false⟩, by simp, rfl⟩
      | false =>
        have e1 : (ingS s x).1.ps = s.1.ps := by unfold ingS addF; dsimp only; rw [if_neg (by rw [hb]; simp)]
        rw [e1] at hl ⊢
        unfold addB at hb
        rw [Bool.and_eq_false_iff] at hb
        rcases hb with hb | hb
        · cases hi : idx s.1.ps x.id with
          | none => rw [hi] at hb; simp at hb
          | some i =>
            obtain ⟨h1, h2, _⟩ := List.findIdx?_eq_some_iff_getElem.1 hi
            exact ⟨s.1.ps[i], by simp [List.getElem_mem], by simpa using h2⟩
        · have : s.1.ps.length = 200 := by simpa using hb
          rw [List.length_append] at hl
          omega
    · exact ih _ hl x hx
theorem ingF_none (f : Fd) (l : List It) : ∀ c, (∀ x ∈ l, ∃ y ∈ f.ps, y.it.id = x.id) → l.foldl ingS (f, c) = (f, c) := by
  induction l with
  | nil => intro c _; rfl
  | cons x r ih =>
    intro c h
    obtain ⟨y, hy, hyx⟩ := h x (by simp)
    have hs := idx_some hy
    rw [hyx] at hs
    have hb : addB f x = false := by
      unfold addB
      cases hi : idx f.ps x.id with
      | none => rw [hi] at hs; cases hs
      | some i => rfl
    have e : ingS (f, c) x = (f, c) := by unfold ingS addF; dsimp only; rw [hb]; rfl
    rw [List.foldl_cons, e]
    exact ih c (fun z hz => h z (by simp [hz]))
def NewR (P Q : List Po) (its : List It) (R : List Po) : Prop := Q = P ++ R ∧ (R.map (·.it)).Sublist its ∧ ∀ x ∈ R, x.rd = false
theorem again_law (S : Sv) (k : List UInt8) (its : List It) :
    ((ingR S k its 7).2.1 = 4 ∨ (ingR S k its 7).2.1 = 1) ∧ (ingR S k its 7).1 = 0 ∧ (ingR S k its 7).2.2 = S ∨
    (ingR S k its 7).2.1 = 0 ∧ ∃ R : List Po, NewR (allS S k) (allS (ingR S k its 7).2.2 k) its R ∧ (ingR S k its 7).1 = R.length ∧
      (ingR (ingR S k its 7).2.2 k its 8).2.1 = 0 ∧ ((ingR (ingR S k its 7).2.2 k its 8).1 = 0 ∨ 200 ≤ (allS (ingR S k its 7).2.2 k).length) := by
  cases hf : fnd S k with
  | none =>
    have e1 : ingR S k its 7 = (0, 4, S) := by unfold ingR; rw [hf]
    rw [e1]
    exact .inl ⟨.inl rfl, rfl, rfl⟩
  | some f =>
  cases ha : its.all itR with
  | false =>
    have e1 : ingR S k its 7 = (0, 1, S) := by unfold ingR; rw [hf]; dsimp only; rw [ha]; rfl
    rw [e1]
    exact .inl ⟨.inr rfl, rfl, rfl⟩
  | true =>
    have e1 : ingR S k its 7 = (((ingF f its).2 : Int), (0 : Int), putBy Prod.fst k (k, ⟨7, 0, (ingF f its).1.ps⟩) S) := by unfold ingR; rw [hf]; dsimp only; rw [ha]; rfl
    have hf1 : fnd (putBy Prod.fst k (k, ⟨7, 0, (ingF f its).1.ps⟩) S) k = some ⟨7, 0, (ingF f its).1.ps⟩ := by rw [fnd_put _ hf, if_pos rfl]
    obtain ⟨R, h1, h2, h3, h4⟩ := ingF_spec its (f, 0)
    have h1 : (ingF f its).1.ps = f.ps ++ R := h1
    have h2 : (ingF f its).2 = R.length := by have : (ingF f its).2 = 0 + R.length := h2; omega
    have e2 : ingR (putBy Prod.fst k (k, ⟨7, 0, (ingF f its).1.ps⟩) S) k its 8 = (((ingF ⟨7, 0, (ingF f its).1.ps⟩ its).2 : Int), (0 : Int), putBy Prod.fst k (k, ⟨8, 0, (ingF ⟨7, 0, (ingF f its).1.ps⟩ its).1.ps⟩) (putBy Prod.fst k (k, ⟨7, 0, (ingF f its).1.ps⟩) S)) := by unfold ingR; rw [hf1]; dsimp only; rw [ha]; rfl
    have e3 : allS (putBy Prod.fst k (k, ⟨7, 0, (ingF f its).1.ps⟩) S) k = (ingF f its).1.ps := by unfold allS; rw [hf1]; rfl
    have e4 : allS S k = f.ps := by unfold allS; rw [hf]; rfl
    rw [e1]
    dsimp only
    rw [e2, e3, e4]
    refine .inr ⟨rfl, R, ⟨h1, h3, h4⟩, by rw [h2], rfl, ?_⟩
    rcases Nat.lt_or_ge (ingF f its).1.ps.length 200 with hl | hl
    · left
      have := ingF_all its (f, 0) hl
      have := ingF_none ⟨7, 0, (ingF f its).1.ps⟩ its 0 this
      show (((ingF ⟨7, 0, (ingF f its).1.ps⟩ its).2 : Nat) : Int) = 0
      unfold ingF at this ⊢
      rw [this]
      rfl
    · exact .inr hl
theorem sl_front {w : World} {B e n : Nat} {b o c m : Nat} {P Q : List Po} (h : SlAt w B (.slice (some ⟨b, o, none⟩) n c) 5 n (poL Q)) (hn : n = Q.length) (hm : m = P.length) (hle : m ≤ n) (he : e ≤ maxLen) (hme : m ≤ e) (hpre : ∃ R, Q = P ++ R) : SlAt w B (.slice (some ⟨b, o, none⟩) m e) 5 m (poL P) := by
  obtain ⟨R, rfl⟩ := hpre
  obtain ⟨hl, A, c', hv, h1, h2, hh⟩ := h
  refine ⟨by rw [poL_length, hm], _, _, rfl, hme, he, fun h0 => ?_⟩
  obtain ⟨b', o', hA, hb, hc⟩ := hh (by omega)
  injection hv with e1 e2 e3
  rw [← e1] at hA
  injection hA with hA
  injection hA with j1 j2 j3
  subst j1; subst j2
  exact ⟨b, o, rfl, hb, fun j u hu => hc j u (by rw [poL_append, List.getElem?_append_left ((List.getElem?_eq_some_iff.1 hu).1)]; exact hu)⟩
theorem sub_step {x : It} {y : Po} {r : List Po} {its : List It} {k : Nat} (h : ((y :: r).map (·.it)).Sublist (its.drop k)) (hx : its[k]? = some x) (hne : x ≠ y.it) : ((y :: r).map (·.it)).Sublist (its.drop (k + 1)) := by
  have e : its.drop k = x :: its.drop (k + 1) := by
    obtain ⟨h1, h2⟩ := List.getElem?_eq_some_iff.1 hx
    rw [List.drop_eq_getElem_cons h1, h2]
  rw [e, List.map_cons] at h
  rw [List.map_cons]
  cases h with
  | cons _ h => exact h
  | cons_cons _ h => exact absurd rfl hne
theorem sub_lt {y : Po} {r : List Po} {its : List It} {k : Nat} (h : ((y :: r).map (·.it)).Sublist (its.drop k)) : k < its.length := by
  have := h.length_le
  rw [List.length_map, List.length_drop, List.length_cons] at this
  omega
theorem sub_tail {y : Po} {r : List Po} {l : List It} (h : ((y :: r).map (·.it)).Sublist l) : (r.map (·.it)).Sublist l := by
  rw [List.map_cons] at h
  exact (List.sublist_cons_self _ _).trans h
set_option maxRecDepth 100000 in
set_option maxHeartbeats 8000000 in
theorem storeAgain_walk (W : World) (v0 : Value) (l : List A17) (s0 : SlAt W W.heap.size v0 5 l.length (acL l)) (g0 : ∀ a ∈ l, a.Ok W) (feed : ByteArray) (hf0 : feed.size ≤ maxLen) (v2 : Value) (its : List It) (s2 : SlAt W W.heap.size v2 3 its.length (itL its)) (g2 : ∀ x ∈ its, x.Len) :
    Calls Try.prog 4 #[v0, .string feed, v2] W fun e W' => e = .returned (.bool true) ∧ Only [] W W' := by
  obtain ⟨LA, lc, rfl⟩ := s0.shape
  obtain ⟨fd, rfl, efd⟩ := str_of feed
  rw [efd] at hf0
  clear efd
  have hf1 := hf0
  unfold maxLen at hf0
  obtain ⟨IA, ic, rfl⟩ := s2.shape
  have hll2 := sl_len s2
  unfold maxLen at hll2
  have HAO : Hid (A17.Ok W ⟨0, 0, fd, [], .slice IA its.length ic, its⟩) := Lib.hid ⟨⟨by show (-9223372036854775808 : Int) ≤ 0; omega, by show (0 : Int) ≤ 9223372036854775807; omega⟩, ⟨by show (-9223372036854775808 : Int) ≤ 0; omega, by show (0 : Int) ≤ 9223372036854775807; omega⟩, hf1, by show 0 ≤ maxLen; omega, s2, g2⟩
  have HGI := Lib.hid g2
  clear s2 g2
  have HS := Lib.hid s0
  have HG := Lib.hid g0
  have C0 := Lib.hid (shown17 W)
  have CS := Lib.hid (fun w' (ho : Only [] W w') => small17 (.slice LA l.length lc) l w' ((s0.only ho (Nat.le_refl _) (by simp)).more ho.size) (fun a ha => (g0 a ha).only ho))
  have hll := sl_len s0
  unfold maxLen at hll
  clear s0 g0
  go_enter Try.func4, Try.ntmps4
  go_wp2_with fail
  refine C0.out.mono ?_
  rintro e w1 ⟨rfl, ho1⟩
  have HO1 := Lib.hid ho1
  clear ho1 C0
  go_wp2_with fail
  refine (CS.out _ HO1.out).mono ?_
  rintro e w3 ⟨okA, rfl, hokA, ho3⟩
  have HO3 := Lib.hid (HO1.out.tr ho3)
  have HM := Lib.hid hokA
  obtain ⟨w4, hw4⟩ : ∃ w4, w3.alloc (.cells #[.int .i64 0, .int .i64 0, .string ⟨fd.toArray⟩, .string ⟨#[]⟩, .slice IA its.length ic] 33) = w4 := ⟨_, rfl⟩
  obtain ⟨y, hy⟩ : ∃ y, w3.heap.size = y := ⟨_, rfl⟩
  have hO4 : Only [] w3 w4 := hw4 ▸ (Only.refl _ _).alloc _
  have hC4 : Cells w4 y 33 [.int .i64 0, .int .i64 0, .string ⟨fd.toArray⟩, .string ⟨#[]⟩, .slice IA its.length ic] := hw4 ▸ hy ▸ Cells.new w3 _ _
  have HOB := Lib.hid (HO3.out.tr hO4)
  have CT := Lib.hid (small17 (.slice (some ⟨y, 0, none⟩) 1 1) [⟨0, 0, fd, [], .slice IA its.length ic, its⟩] w4 (SlAt.cells (n := 1) (sz := 5) hC4 rfl (by unfold maxLen; omega)) (fun x hx => by rw [List.mem_singleton.1 hx]; exact HAO.out.only HOB.out))
  clear ho3 hokA hC4 hO4 HO1 HO3
  go_wp2_with fail
  clear hw4 hy
  refine CT.out.mono ?_
  rintro e w5 ⟨okB, rfl, hokB, ho5⟩
  have HO := Lib.hid (HOB.out.tr ho5)
  have HN := Lib.hid hokB
  clear ho5 hokB HOB CT
  cases okA with
  | false =>
    cases okB <;> (
      go_wp2_with fail
      go_ret
      exact ⟨rfl, HO.out⟩)
  | true =>
  have HM1 := Lib.hid (HM.out rfl)
  clear HM
  cases okB with
  | false =>
    go_wp2_with fail
    go_ret
    exact ⟨rfl, HO.out⟩
  | true =>
  have HN1 := Lib.hid (HN.out rfl)
  clear HN
  go_wp2_with fail
  refine (st_new _).mono ?_
  rintro e wn ⟨b, O, rfl, h1, h2, h3⟩
  have H : Hid (StW W wn b O (run17 [] (l.take 0))) := Lib.hid ⟨h1, HO.out.tr h3, fun x hx => Nat.le_trans HO.out.size (h2 x hx)⟩
  clear h1 h2 h3
  go_wp2_with fail
  go_loopw [11] (fun i wr => ∃ (k : Nat) (O : List Nat), k ≤ l.length ∧ i = .int .i64 k ∧ Hid (StW W wr b O (run17 [] (l.take k)))) (fun i _ => l.length - (intOf i).toNat)
  case atStart => exact ⟨0, _, by omega, rfl, H⟩
  case round =>
    obtain ⟨k, O, hk, rfl, H⟩ := hrel
    by_cases hlt : k < l.length
    · have hlt' : (k : Int) < (l.length : Int) := by omega
      obtain ⟨a, ha⟩ : ∃ a, l[k]? = some a := ⟨_, List.getElem?_eq_getElem hlt⟩
      have HA := Lib.hid (HG.out a (List.mem_of_getElem? ha))
      obtain ⟨ab, ao, ac, hv, q0, q1, q2, q3, q4⟩ := acL_at (HS.out.only H.out.ho (Nat.le_refl _) (by simp)) ha
      injection hv with e1 e2 e3
      subst e1; subst e3
      obtain ⟨IA, ic, hiv⟩ := HA.out.its.shape
      have C := Lib.hid (does17' a HA.out (HM1.out.al a (List.mem_of_getElem? ha)).n H.out)
      rw [hiv] at q4 C
      have HT : Hid (run17 [] (l.take (k + 1)) = (D17 (run17 [] (l.take k)) a).2.2.2) := Lib.hid (run17_step [] l k a ha)
      clear e2 ha
      go_wp2_with fail
      clear q0 q1 q2 q3 q4
      refine C.out.mono ?_
      rintro e w3 ⟨v', O', rfl, hown, hdis, h1, h2, h3⟩
      have H' := Lib.hid (H.out.step h1 h2 h3)
      rw [← HT.out] at H'
      clear hown hdis h1 h2 h3 H C HT
      go_wp2_with fail
      go_roundw
      case rel => exact ⟨k + 1, O', by omega, by go_num, H'⟩
      case measure => simp [intOf]; omega
    · have hd : decide ((k : Int) < (l.length : Int)) = false := by simp; omega
      obtain rfl : k = l.length := by omega
      rw [List.take_length] at H
      have SK : Hid (SvOk (run17 [] l)) := Lib.hid (run17_ok l _ SvOk.nil)
      obtain ⟨S, hS⟩ : ∃ S, run17 [] l = S := ⟨_, rfl⟩
      rw [hS] at H SK
      clear hS
      have n1 := (allS_ok SK.out fd).n
      have CA := Lib.hid (st_all b O S fd hf1 wr H.out.st)
      have hAG := again_law S fd its
      have n2 := (allS_ok (S := (ingR S fd its 7).2.2) (fun k f hf => by
        rcases ingR_fnd S fd its 7 k with h | ⟨_, g, h2, h3⟩
        · exact SK.out k f (h ▸ hf)
        · rw [h3] at hf
          injection hf with hf
          subst hf
          exact (ingF_ok its (SK.out fd g h2)).1) fd).n
      have hits : its.length ≤ 60 := (HN1.out.al ⟨0, 0, fd, [], .slice IA its.length ic, its⟩ (by simp)).n
      obtain ⟨r1, hr1⟩ : ∃ r1, ingR S fd its 7 = r1 := ⟨_, rfl⟩
      rw [hr1] at hAG n2
      obtain ⟨m1, e1, S1⟩ := r1
      dsimp only at hAG n2
      obtain ⟨r2, hr2⟩ : ∃ r2, ingR S1 fd its 8 = r2 := ⟨_, rfl⟩
      rw [hr2] at hAG
      obtain ⟨m2, e2, S2⟩ := r2
      dsimp only at hAG
      obtain ⟨P, hP⟩ : ∃ P, allS S fd = P := ⟨_, rfl⟩
      obtain ⟨Q, hQ⟩ : ∃ Q, allS S1 fd = Q := ⟨_, rfl⟩
      rw [hP] at CA n1 hAG
      rw [hQ] at n2 hAG
      have HAG := Lib.hid hAG
      have HPE := Lib.hid hP
      have HQE := Lib.hid hQ
      have HR1 := Lib.hid hr1
      have HR2 := Lib.hid hr2
      clear hAG hP hQ hr1 hr2
      go_wp2_with fail
      refine CA.out.mono ?_
      rintro e w6 ⟨v1, rfl, hw1, ho6⟩
      have H1 := Lib.hid (H.out.read ho6)
      have hlow : ∀ x ∈ O, v1.ownBlock ≠ some x := fun x hx e => by
        have h1 := H.out.st.bw x hx
        have h2 := (hw1.lt x e).1
        omega
      have CI := Lib.hid (st_ingest b O S fd hf1 (.slice IA its.length ic) its 7 w6 H1.out.st (fun w' ho => HAO.out.later H1.out ho) (by omega) HGI.out)
      rw [HR1.out] at CI
      obtain ⟨A1, c1, rfl⟩ := (SlAt.of_own hw1).shape
      have HW1 := Lib.hid (own_low hw1 (Nat.zero_le _))
      have HL1 := Lib.hid hlow
      clear hw1 hlow ho6 CA H
      go_wp2_with fail
      refine CI.out.mono ?_
      rintro e w7 ⟨rfl, hop⟩
      obtain ⟨O1, hs1, hf7, hn7⟩ := H1.out.op hop
      have H2 := Lib.hid hs1
      have HW2 := Lib.hid (own_keep HW1.out hf7 HL1.out)
      have HL2 : Hid (∀ x ∈ O1, (Value.slice A1 P.length c1).ownBlock ≠ some x) := Lib.hid (fun x hx e => by
        rcases hn7 x hx with h | h
        · exact HL1.out x h e
        · have := (HW1.out.lt x e).2
          omega)
      have CB := Lib.hid (st_all b O1 S1 fd hf1 w7 H2.out.st)
      rw [HQE.out] at CB
      clear hop hs1 hf7 hn7 CI H1 HL1 HW1
      go_wp2_with fail
      refine CB.out.mono ?_
      rintro e w8 ⟨v3, rfl, hw3, ho8⟩
      have H3 := Lib.hid (H2.out.read ho8)
      have HW3 := Lib.hid (own_keep HW2.out ho8 (by simp))
      have hlow3 : ∀ x ∈ O1, v3.ownBlock ≠ some x := fun x hx e => by
        have h1 := H2.out.st.bw x hx
        have h2 := (hw3.lt x e).1
        omega
      have HL3 := Lib.hid hlow3
      have HV3 := Lib.hid hw3
      clear ho8 CB H2 HW2 hlow3
      rcases HAG.out with ⟨he, rfl, rfl⟩ | ⟨rfl, R, hNR, rfl, rfl, hm2⟩
      · obtain ⟨A3, c3, rfl⟩ := (SlAt.of_own hw3).shape
        obtain rfl : P = Q := HPE.out.symm.trans HQE.out
        have hd0 : (e1 == 0) = false := by rcases he with rfl | rfl <;> rfl
        have CP := Lib.hid (posts17 (.slice A1 P.length c1) (.slice A3 P.length c3) P w8 (SlAt.of_own HW3.out) (SlAt.of_own HV3.out) (by omega))
        clear he hw3 HAG
        go_wp2_with fail
        refine CP.out.mono ?_
        rintro e w9 ⟨rfl, ho9⟩
        have HF := Lib.hid (H3.out.read ho9).ho
        clear ho9
        go_wp2_with fail
        go_ret
        exact ⟨rfl, HF.out⟩
      · have CJ := Lib.hid (st_ingest b O1 S1 fd hf1 (.slice IA its.length ic) its 8 w8 H3.out.st (fun w' ho => HAO.out.later H3.out ho) (by omega) HGI.out)
        rw [HR2.out] at CJ
        have HNR := Lib.hid hNR
        have hql : Q.length = P.length + R.length := by rw [hNR.1, List.length_append]
        have HM2 := Lib.hid hm2
        have hHOLD : Hid (∃ A3 c3, v3 = .slice A3 Q.length c3 ∧ Q.length ≤ c3 ∧ c3 ≤ maxLen ∧ (A3 = none ∧ Q.length = 0 ∨ ∃ g, A3 = some ⟨g, 0, none⟩)) := Lib.hid (by
          rcases hw3.2 with ⟨h1, h2⟩ | ⟨g, cap, cur, h1, _, _, h2, _⟩
          · exact ⟨none, 0, by rw [h1, h2], by omega, by unfold maxLen; omega, .inl ⟨rfl, h2⟩⟩
          · obtain ⟨_, _, _, k0, k1, k2, _⟩ := SlAt.of_own hw3
            subst h1
            injection k0 with k3 k4 k5
            exact ⟨_, cap, rfl, h2, by omega, .inr ⟨g, rfl⟩⟩)
        have hwr : IntKind.i64.wrap ((P.length : Int) + (R.length : Int)) = (Q.length : Int) := by rw [IntKind.wrap_i64]; omega
        have hqq : ((Q.length : Int) == (Q.length : Int)) = true := by simp
        have hle : P.length ≤ Q.length := by omega
        have hle' : (P.length : Int) ≤ (Q.length : Int) := by omega
        have HQL := Lib.hid hql
        clear hNR hm2 hw3 HAG hql
        obtain ⟨A3, c3, rfl, hqc, hcm, hA3⟩ := hHOLD.out
        have hpc : P.length ≤ c3 := by omega
        have hpc' : (P.length : Int) ≤ (c3 : Int) := by omega
        have HSP : Hid (∀ w', Only [] w8 w' → True) := Lib.hid (fun _ _ => trivial)
        unfold maxLen at hcm
        rcases hA3 with ⟨rfl, hq0⟩ | ⟨g, rfl⟩
        · have HQ0 := Lib.hid hq0
          clear hq0 hHOLD
          by_cases hm0 : m2 = 0
          · subst hm0
            clear HM2
            go_wp2_with fail
            refine CJ.out.mono ?_
            rintro e w9 ⟨rfl, hop⟩
            obtain ⟨O2, hs2, hf9, hn9⟩ := H3.out.op hop
            have HW9 := Lib.hid (own_keep HW3.out hf9 HL2.out)
            have HV9 := Lib.hid (own_keep HV3.out hf9 HL3.out)
            have H4 := Lib.hid hs2.ho
            clear hop hs2 hf9 hn9 CJ H3
            go_wp2_with fail
            have hqp : P.length ≤ c3 := hpc
            have CP := Lib.hid (posts17 (.slice none P.length c3) (.slice A1 P.length c1) P w9 (⟨poL_length _, none, c3, rfl, hqp, by unfold maxLen; omega, fun h => by have := HQ0.out; omega⟩) (SlAt.of_own HW9.out) (by omega))
            have HS3 := Lib.hid (SlAt.of_own HV9.out)
            clear HW9 HV9
            go_wp2_with fail
            refine CP.out.mono ?_
            rintro e w10 ⟨rfl, ho10⟩
            have HF := Lib.hid (H4.out.tr ho10)
            have HS4 := Lib.hid ((HS3.out.only ho10 (Nat.le_refl _) (by simp)).more ho10.size)
            clear ho10 CP HS3 H4
            go_wp2_with fail
            go_loopw [18, 19] (fun kk i wr => ∃ (j k : Nat), j ≤ R.length ∧ k ≤ its.length ∧ i = .int .i64 ((P.length + j : Nat) : Int) ∧ kk = .int .i64 k ∧ Hid (((R.drop j).map (·.it)).Sublist (its.drop k)) ∧ Hid (Only [] w10 wr)) (fun _ i _ => Q.length - (intOf i).toNat)
            case atStart => exact ⟨0, 0, by omega, by omega, by simp, rfl, Lib.hid (by simpa using HNR.out.2.1), Lib.hid (Only.refl _ _)⟩
            case round =>
              obtain ⟨j, k, hj, hk, rfl, rfl, hsub, ho⟩ := hrel
              obtain ⟨wo, rfl⟩ : ∃ wo, wo = wr := ⟨_, rfl⟩
              obtain ⟨i, hi⟩ : ∃ i, P.length + j = i := ⟨_, rfl⟩
              rw [hi]
              by_cases hlt : j < R.length
              · exact absurd hlt (by have := HQ0.out; have := HQL.out; omega)
              · have hil : decide ((i : Int) < (Q.length : Int)) = false := by have := HQL.out; simp; omega
                have hil4 : ¬ i < Q.length := by have := HQL.out; omega
                have HFF := Lib.hid (HF.out.tr ho.out)
                clear hsub ho
                go_wp2_with fail
                go_ret
                exact ⟨rfl, HFF.out⟩
          · exact absurd (HM2.out.resolve_left hm0) (by have := HQ0.out; omega)
        · by_cases hm0 : m2 = 0
          · subst hm0
            go_wp2_with fail
            refine CJ.out.mono ?_
            rintro e w9 ⟨rfl, hop⟩
            obtain ⟨O2, hs2, hf9, hn9⟩ := H3.out.op hop
            have HW9 := Lib.hid (own_keep HW3.out hf9 HL2.out)
            have HV9 := Lib.hid (own_keep HV3.out hf9 HL3.out)
            have H4 := Lib.hid hs2.ho
            clear hop hs2 hf9 hn9 CJ H3
            go_wp2_with fail
            have CP := Lib.hid (posts17 (.slice (some ⟨g, 0, none⟩) P.length c3) (.slice A1 P.length c1) P w9 (sl_front (SlAt.of_own HV9.out) rfl rfl hle (by unfold maxLen; omega) hpc ⟨R, HNR.out.1⟩) (SlAt.of_own HW9.out) (by omega))
            have HS3 := Lib.hid (SlAt.of_own HV9.out)
            clear HW9 HV9
            go_wp2_with fail
            refine CP.out.mono ?_
            rintro e w10 ⟨rfl, ho10⟩
            have HF := Lib.hid (H4.out.tr ho10)
            have HS4 := Lib.hid ((HS3.out.only ho10 (Nat.le_refl _) (by simp)).more ho10.size)
            clear ho10 CP HS3 H4
            go_wp2_with fail
            go_loopw [18, 19] (fun kk i wr => ∃ (j k : Nat), j ≤ R.length ∧ k ≤ its.length ∧ i = .int .i64 ((P.length + j : Nat) : Int) ∧ kk = .int .i64 k ∧ Hid (((R.drop j).map (·.it)).Sublist (its.drop k)) ∧ Hid (Only [] w10 wr)) (fun _ i _ => Q.length - (intOf i).toNat)
            case atStart => exact ⟨0, 0, by omega, by omega, by simp, rfl, Lib.hid (by simpa using HNR.out.2.1), Lib.hid (Only.refl _ _)⟩
            case round =>
              obtain ⟨j, k, hj, hk, rfl, rfl, hsub, ho⟩ := hrel
              obtain ⟨wo, rfl⟩ : ∃ wo, wo = wr := ⟨_, rfl⟩
              obtain ⟨i, hi⟩ : ∃ i, P.length + j = i := ⟨_, rfl⟩
              rw [hi]
              by_cases hlt : j < R.length
              · have hil : decide ((i : Int) < (Q.length : Int)) = true := by have := HQL.out; simp; omega
                have hil2 : (i : Int) < (Q.length : Int) := by have := HQL.out; omega
                have hil3 : i < Q.length := by have := HQL.out; omega
                have hi200 : i ≤ 200 := by omega
                obtain ⟨y, hy⟩ : ∃ y, R[j]? = some y := ⟨_, List.getElem?_eq_getElem hlt⟩
                have hdr : R.drop j = y :: R.drop (j + 1) := by
                  obtain ⟨h1, h2⟩ := List.getElem?_eq_some_iff.1 hy
                  rw [List.drop_eq_getElem_cons h1, h2]
                have hyr := HNR.out.2.2 y (List.mem_of_getElem? hy)
                have hyq : Q[i]? = some y := by rw [HNR.out.1, ← hi, List.getElem?_append_right (by omega), Nat.add_sub_cancel_left]; exact hy
                obtain ⟨ys, yi, yr⟩ := y
                dsimp only at hyr
                subst hyr
                rw [hdr] at hsub
                have HQI := Lib.hid hyq
                have HII := Lib.hid hi
                have HSQ : Hid (SlAt wo w10.heap.size (.slice (some ⟨g, 0, none⟩) Q.length c3) 5 Q.length (poL Q)) := Lib.hid (HS4.out.only ho.out (Nat.le_refl _) (by simp))
                clear hy hdr hyq hi
                go_wp2_with fail
                go_loopw [18] (fun kk wr => ∃ k : Nat, k ≤ its.length ∧ kk = .int .i64 k ∧ Hid ((((⟨ys, yi, false⟩ : Po) :: R.drop (j + 1)).map (·.it)).Sublist (its.drop k)) ∧ Hid (Only [] wo wr)) (fun kk _ => its.length - (intOf kk).toNat)
                case atStart => exact ⟨k, hk, rfl, hsub, Lib.hid (Only.refl _ _)⟩
                case round =>
                  obtain ⟨q, hq, rfl, hsq, hoq⟩ := hrel
                  have hql := sub_lt hsq.out
                  have hql2 : (q : Int) < (its.length : Int) := by omega
                  have hql3 : decide (q < its.length) = true := by simpa using hql
                  have hqe : ((q : Int) == (its.length : Int)) = false := by simp; omega
                  obtain ⟨x, hx⟩ : ∃ x, its[q]? = some x := ⟨_, List.getElem?_eq_getElem hql⟩
                  have HST := Lib.hid (fun (h : x ≠ yi) => sub_step hsq.out hx h)
                  obtain ⟨b2, o2, c2', g2, _, p1, p2, p3, p4⟩ := poL_at (HSQ.out.only hoq.out ho.out.size (by simp)) rfl HQI.out
                  obtain ⟨ib, io, ic', hv3, x0, x1, x2⟩ := itL_at ((HAO.out.only HF.out).only (ho.out.tr hoq.out)).its hx
                  injection g2 with g2 ga gb
                  injection g2 with g2
                  injection g2 with j1 j2 j3
                  subst j1; subst j2
                  injection hv3 with k1 k2 k3
                  subst k1; subst k3
                  dsimp only at p1 p2 p3 p4
                  simp only [Nat.zero_add] at p1 p2 p3 p4
                  have HSS := Lib.hid (sub_tail hsq.out)
                  have p4' := p4
                  have u1 := fun u : Since wr => u.cell p1
                  have u2 := fun u : Since wr => u.cell p2
                  have u3 := fun u : Since wr => u.cell p3
                  have t0 := fun u : Since wr => u.cell x0
                  have t1 := fun u : Since wr => u.cell x1
                  have t2 := fun u : Since wr => u.cell x2
                  clear hx ga gb j3 k2 p1 p2 p3 p4 x0 x1 x2 hsq
                  by_cases c0 : x.id = yi.id
                  · have d0 : (x.id == yi.id) = true := by simpa using c0
                    by_cases c1 : x.ti = yi.ti
                    · have d1 : (x.ti == yi.ti) = true := by simpa using c1
                      by_cases c2 : x.li = yi.li
                      · have d2 : (x.li == yi.li) = true := by simpa using c2
                        clear c0 c1 c2
                        go_wp2_with fail
                        refine wp_region_only wr (Only.refl _ _) (by kernel_rfl) (by kernel_rfl) ?_
                        repeat (go_big_quiet_step (fail))
                        refine wpQuiet_nil ?_
                        rintro ⟨w3, ho3⟩
                        dsimp only
                        have HO3 := Lib.hid (hoq.out.tr ho3)
                        clear u1 u2 u3 t0 t1 t2
                        have p5 : w3.cell? ⟨g, i * 5 + 4, none⟩ = some (.bool false) := (ho3.cell (World.block_lt_of_cell? wr _ p4') (by simp)).trans p4'
                        have HO4 := Lib.hid (ho.out.tr (hoq.out.tr ho3))
                        have hi5 := HII.out
                        clear p4' ho3
                        go_wp2_with fail
                        go_roundw
                        case rel => exact ⟨j + 1, q, by omega, by omega, by rw [← hi5]; go_num, rfl, HSS, HO4⟩
                        case measure => simp [intOf]; omega
                      · have d2 : (x.li == yi.li) = false := by simpa using c2
                        have hne : x ≠ yi := fun h => c2 (by rw [h])
                        clear c0 c1 c2
                        go_wp2_with fail
                        refine wp_region_only wr (Only.refl _ _) (by kernel_rfl) (by kernel_rfl) ?_
                        repeat (go_big_quiet_step (fail))
                        refine wpQuiet_nil ?_
                        rintro ⟨w3, ho3⟩
                        dsimp only
                        have HO3 := Lib.hid (hoq.out.tr ho3)
                        clear u1 u2 u3 t0 t1 t2
                        clear p4'
                        go_wp2_with fail
                        go_roundw
                        case rel => exact ⟨q + 1, by omega, by go_num, HST.out hne, HO3⟩
                        case measure => simp [intOf]; omega
                    · have d1 : (x.ti == yi.ti) = false := by simpa using c1
                      have hne : x ≠ yi := fun h => c1 (by rw [h])
                      clear c0 c1
                      go_wp2_with fail
                      refine wp_region_only wr (Only.refl _ _) (by kernel_rfl) (by kernel_rfl) ?_
                      repeat (go_big_quiet_step (fail))
                      refine wpQuiet_nil ?_
                      rintro ⟨w3, ho3⟩
                      dsimp only
                      have HO3 := Lib.hid (hoq.out.tr ho3)
                      clear u1 u2 u3 t0 t1 t2
                      clear p4'
                      go_wp2_with fail
                      go_roundw
                      case rel => exact ⟨q + 1, by omega, by go_num, HST.out hne, HO3⟩
                      case measure => simp [intOf]; omega
                  · have d0 : (x.id == yi.id) = false := by simpa using c0
                    have hne : x ≠ yi := fun h => c0 (by rw [h])
                    clear c0
                    go_wp2_with fail
                    refine wp_region_only wr (Only.refl _ _) (by kernel_rfl) (by kernel_rfl) ?_
                    repeat (go_big_quiet_step (fail))
                    refine wpQuiet_nil ?_
                    rintro ⟨w3, ho3⟩
                    dsimp only
                    have HO3 := Lib.hid (hoq.out.tr ho3)
                    clear u1 u2 u3 t0 t1 t2
                    clear p4'
                    go_wp2_with fail
                    go_roundw
                    case rel => exact ⟨q + 1, by omega, by go_num, HST.out hne, HO3⟩
                    case measure => simp [intOf]; omega
              · have hil : decide ((i : Int) < (Q.length : Int)) = false := by have := HQL.out; simp; omega
                have hil4 : ¬ i < Q.length := by have := HQL.out; omega
                have HFF := Lib.hid (HF.out.tr ho.out)
                clear hsub ho
                go_wp2_with fail
                go_ret
                exact ⟨rfl, HFF.out⟩
          · have hm1 : (m2 == 0) = false := by simpa using hm0
            have hq2 : 200 ≤ Q.length := HM2.out.resolve_left hm0
            have hq3 : decide ((Q.length : Int) < 200) = false := by simp; omega
            have hq4 : ¬ Q.length < 200 := by omega
            go_wp2_with fail
            refine CJ.out.mono ?_
            rintro e w9 ⟨rfl, hop⟩
            obtain ⟨O2, hs2, hf9, hn9⟩ := H3.out.op hop
            have HW9 := Lib.hid (own_keep HW3.out hf9 HL2.out)
            have HV9 := Lib.hid (own_keep HV3.out hf9 HL3.out)
            have H4 := Lib.hid hs2.ho
            clear hop hs2 hf9 hn9 CJ H3
            go_wp2_with fail
            have CP := Lib.hid (posts17 (.slice (some ⟨g, 0, none⟩) P.length c3) (.slice A1 P.length c1) P w9 (sl_front (SlAt.of_own HV9.out) rfl rfl hle (by unfold maxLen; omega) hpc ⟨R, HNR.out.1⟩) (SlAt.of_own HW9.out) (by omega))
            have HS3 := Lib.hid (SlAt.of_own HV9.out)
            clear HW9 HV9
            go_wp2_with fail
            refine CP.out.mono ?_
            rintro e w10 ⟨rfl, ho10⟩
            have HF := Lib.hid (H4.out.tr ho10)
            have HS4 := Lib.hid ((HS3.out.only ho10 (Nat.le_refl _) (by simp)).more ho10.size)
            clear ho10 CP HS3 H4
            go_wp2_with fail
            go_loopw [18, 19] (fun kk i wr => ∃ (j k : Nat), j ≤ R.length ∧ k ≤ its.length ∧ i = .int .i64 ((P.length + j : Nat) : Int) ∧ kk = .int .i64 k ∧ Hid (((R.drop j).map (·.it)).Sublist (its.drop k)) ∧ Hid (Only [] w10 wr)) (fun _ i _ => Q.length - (intOf i).toNat)
            case atStart => exact ⟨0, 0, by omega, by omega, by simp, rfl, Lib.hid (by simpa using HNR.out.2.1), Lib.hid (Only.refl _ _)⟩
            case round =>
              obtain ⟨j, k, hj, hk, rfl, rfl, hsub, ho⟩ := hrel
              obtain ⟨wo, rfl⟩ : ∃ wo, wo = wr := ⟨_, rfl⟩
              obtain ⟨i, hi⟩ : ∃ i, P.length + j = i := ⟨_, rfl⟩
              rw [hi]
              by_cases hlt : j < R.length
              · have hil : decide ((i : Int) < (Q.length : Int)) = true := by have := HQL.out; simp; omega
                have hil2 : (i : Int) < (Q.length : Int) := by have := HQL.out; omega
                have hil3 : i < Q.length := by have := HQL.out; omega
                have hi200 : i ≤ 200 := by omega
                obtain ⟨y, hy⟩ : ∃ y, R[j]? = some y := ⟨_, List.getElem?_eq_getElem hlt⟩
                have hdr : R.drop j = y :: R.drop (j + 1) := by
                  obtain ⟨h1, h2⟩ := List.getElem?_eq_some_iff.1 hy
                  rw [List.drop_eq_getElem_cons h1, h2]
                have hyr := HNR.out.2.2 y (List.mem_of_getElem? hy)
                have hyq : Q[i]? = some y := by rw [HNR.out.1, ← hi, List.getElem?_append_right (by omega), Nat.add_sub_cancel_left]; exact hy
                obtain ⟨ys, yi, yr⟩ := y
                dsimp only at hyr
                subst hyr
                rw [hdr] at hsub
                have HQI := Lib.hid hyq
                have HII := Lib.hid hi
                have HSQ : Hid (SlAt wo w10.heap.size (.slice (some ⟨g, 0, none⟩) Q.length c3) 5 Q.length (poL Q)) := Lib.hid (HS4.out.only ho.out (Nat.le_refl _) (by simp))
                clear hy hdr hyq hi
                go_wp2_with fail
                go_loopw [18] (fun kk wr => ∃ k : Nat, k ≤ its.length ∧ kk = .int .i64 k ∧ Hid ((((⟨ys, yi, false⟩ : Po) :: R.drop (j + 1)).map (·.it)).Sublist (its.drop k)) ∧ Hid (Only [] wo wr)) (fun kk _ => its.length - (intOf kk).toNat)
                case atStart => exact ⟨k, hk, rfl, hsub, Lib.hid (Only.refl _ _)⟩
                case round =>
                  obtain ⟨q, hq, rfl, hsq, hoq⟩ := hrel
                  have hql := sub_lt hsq.out
                  have hql2 : (q : Int) < (its.length : Int) := by omega
                  have hql3 : decide (q < its.length) = true := by simpa using hql
                  have hqe : ((q : Int) == (its.length : Int)) = false := by simp; omega
                  obtain ⟨x, hx⟩ : ∃ x, its[q]? = some x := ⟨_, List.getElem?_eq_getElem hql⟩
                  have HST := Lib.hid (fun (h : x ≠ yi) => sub_step hsq.out hx h)
                  obtain ⟨b2, o2, c2', g2, _, p1, p2, p3, p4⟩ := poL_at (HSQ.out.only hoq.out ho.out.size (by simp)) rfl HQI.out
                  obtain ⟨ib, io, ic', hv3, x0, x1, x2⟩ := itL_at ((HAO.out.only HF.out).only (ho.out.tr hoq.out)).its hx
                  injection g2 with g2 ga gb
                  injection g2 with g2
                  injection g2 with j1 j2 j3
                  subst j1; subst j2
                  injection hv3 with k1 k2 k3
                  subst k1; subst k3
                  dsimp only at p1 p2 p3 p4
                  simp only [Nat.zero_add] at p1 p2 p3 p4
                  have HSS := Lib.hid (sub_tail hsq.out)
                  have p4' := p4
                  have u1 := fun u : Since wr => u.cell p1
                  have u2 := fun u : Since wr => u.cell p2
                  have u3 := fun u : Since wr => u.cell p3
                  have t0 := fun u : Since wr => u.cell x0
                  have t1 := fun u : Since wr => u.cell x1
                  have t2 := fun u : Since wr => u.cell x2
                  clear hx ga gb j3 k2 p1 p2 p3 p4 x0 x1 x2 hsq
                  by_cases c0 : x.id = yi.id
                  · have d0 : (x.id == yi.id) = true := by simpa using c0
                    by_cases c1 : x.ti = yi.ti
                    · have d1 : (x.ti == yi.ti) = true := by simpa using c1
                      by_cases c2 : x.li = yi.li
                      · have d2 : (x.li == yi.li) = true := by simpa using c2
                        clear c0 c1 c2
                        go_wp2_with fail
                        refine wp_region_only wr (Only.refl _ _) (by kernel_rfl) (by kernel_rfl) ?_
                        repeat (go_big_quiet_step (fail))
                        refine wpQuiet_nil ?_
                        rintro ⟨w3, ho3⟩
                        dsimp only
                        have HO3 := Lib.hid (hoq.out.tr ho3)
                        clear u1 u2 u3 t0 t1 t2
                        have p5 : w3.cell? ⟨g, i * 5 + 4, none⟩ = some (.bool false) := (ho3.cell (World.block_lt_of_cell? wr _ p4') (by simp)).trans p4'
                        have HO4 := Lib.hid (ho.out.tr (hoq.out.tr ho3))
                        have hi5 := HII.out
                        clear p4' ho3
                        go_wp2_with fail
                        go_roundw
                        case rel => exact ⟨j + 1, q, by omega, by omega, by rw [← hi5]; go_num, rfl, HSS, HO4⟩
                        case measure => simp [intOf]; omega
                      · have d2 : (x.li == yi.li) = false := by simpa using c2
                        have hne : x ≠ yi := fun h => c2 (by rw [h])
                        clear c0 c1 c2
                        go_wp2_with fail
                        refine wp_region_only wr (Only.refl _ _) (by kernel_rfl) (by kernel_rfl) ?_
                        repeat (go_big_quiet_step (fail))
                        refine wpQuiet_nil ?_
                        rintro ⟨w3, ho3⟩
                        dsimp only
                        have HO3 := Lib.hid (hoq.out.tr ho3)
                        clear u1 u2 u3 t0 t1 t2
                        clear p4'
                        go_wp2_with fail
                        go_roundw
                        case rel => exact ⟨q + 1, by omega, by go_num, HST.out hne, HO3⟩
                        case measure => simp [intOf]; omega
                    · have d1 : (x.ti == yi.ti) = false := by simpa using c1
                      have hne : x ≠ yi := fun h => c1 (by rw [h])
                      clear c0 c1
                      go_wp2_with fail
                      refine wp_region_only wr (Only.refl _ _) (by kernel_rfl) (by kernel_rfl) ?_
                      repeat (go_big_quiet_step (fail))
                      refine wpQuiet_nil ?_
                      rintro ⟨w3, ho3⟩
                      dsimp only
                      have HO3 := Lib.hid (hoq.out.tr ho3)
                      clear u1 u2 u3 t0 t1 t2
                      clear p4'
                      go_wp2_with fail
                      go_roundw
                      case rel => exact ⟨q + 1, by omega, by go_num, HST.out hne, HO3⟩
                      case measure => simp [intOf]; omega
                  · have d0 : (x.id == yi.id) = false := by simpa using c0
                    have hne : x ≠ yi := fun h => c0 (by rw [h])
                    clear c0
                    go_wp2_with fail
                    refine wp_region_only wr (Only.refl _ _) (by kernel_rfl) (by kernel_rfl) ?_
                    repeat (go_big_quiet_step (fail))
                    refine wpQuiet_nil ?_
                    rintro ⟨w3, ho3⟩
                    dsimp only
                    have HO3 := Lib.hid (hoq.out.tr ho3)
                    clear u1 u2 u3 t0 t1 t2
                    clear p4'
                    go_wp2_with fail
                    go_roundw
                    case rel => exact ⟨q + 1, by omega, by go_num, HST.out hne, HO3⟩
                    case measure => simp [intOf]; omega
              · have hil : decide ((i : Int) < (Q.length : Int)) = false := by have := HQL.out; simp; omega
                have hil4 : ¬ i < Q.length := by have := HQL.out; omega
                have HFF := Lib.hid (HF.out.tr ho.out)
                clear hsub ho
                go_wp2_with fail
                go_ret
                exact ⟨rfl, HFF.out⟩
end Go.Proofs.Ytjfnkjpnjiobjaa
