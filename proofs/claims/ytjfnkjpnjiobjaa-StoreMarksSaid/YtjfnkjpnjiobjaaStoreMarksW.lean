/-
  The walk over StoreMarks: what is marked is read, for ever; no other post is; marked again it is the same.
-/
import Derived.Test.YtjfnkjpnjiobjaaS17e
namespace Go.Proofs.Ytjfnkjpnjiobjaa
open Go.RowKit
theorem mark_law {S : Sv} (h : SvOk S) (k id : List UInt8) :
    (markS (markS S k id).2 k id).1 = (markS S k id).1 ∧ allS (markS (markS S k id).2 k id).2 k = allS (markS S k id).2 k ∧ (allS S k).length = (allS (markS S k id).2 k).length ∧
    (∀ (i : Nat) (x : Po), (allS S k)[i]? = some x → (allS (markS S k id).2 k)[i]? = some ⟨x.sq, x.it, x.rd || (x.it.id == id)⟩) ∧
    ((markS S k id).1 = 0 ∧ (allS (markS S k id).2 k).any (fun x => x.it.id == id) = true ∨ (markS S k id).1 = 4 ∧ (allS (markS S k id).2 k).any (fun x => x.it.id == id) = false) := by
  cases hf : fnd S k with
  | none =>
    have e1 : markS S k id = (4, S) := by unfold markS; rw [hf]
    have e2 : allS S k = [] := by unfold allS; rw [hf]; rfl
    rw [e1]
    dsimp only
    rw [e1]
    dsimp only
    rw [e2]
    exact ⟨rfl, rfl, rfl, fun i x hx => by simp at hx, .inr ⟨rfl, rfl⟩⟩
  | some f =>
  have e2 : allS S k = f.ps := by unfold allS; rw [hf]; rfl
  cases hi : idx f.ps id with
  | none =>
    have e1 : markS S k id = (4, S) := by unfold markS; rw [hf]; dsimp only; rw [hi]
    rw [e1]
    dsimp only
    rw [e1]
    dsimp only
    rw [e2]
    have hn := idx_none hi
    have hb : ∀ x ∈ f.ps, (x.it.id == id) = false := fun x hx => by simpa using hn x hx
    refine ⟨rfl, rfl, rfl, fun i x hx => by rw [hx, hb x (List.mem_of_getElem? hx), Bool.or_false], .inr ⟨rfl, List.any_eq_false.2 fun x hx => by simpa using hn x hx⟩⟩
  | some i =>
    have e1 : markS S k id = (0, putBy Prod.fst k (k, markF f i) S) := by unfold markS; rw [hf]; dsimp only; rw [hi]
    have hf1 : fnd (putBy Prod.fst k (k, markF f i) S) k = some (markF f i) := by rw [fnd_put _ hf, if_pos rfl]
    obtain ⟨x0, hx0, hid0⟩ : ∃ x0, f.ps[i]? = some x0 ∧ x0.it.id = id := by
      obtain ⟨h1, h2, _⟩ := List.findIdx?_eq_some_iff_getElem.1 hi
      exact ⟨f.ps[i], List.getElem?_eq_getElem h1, by simpa using h2⟩
    have hil := (List.getElem?_eq_some_iff.1 hx0).1
    have hnd := (h k f hf).ids
    have hrow : ∀ (j : Nat) (x : Po), f.ps[j]? = some x → (markAt f.ps i)[j]? = some ⟨x.sq, x.it, x.rd || (x.it.id == id)⟩ := by
      intro j x hx
      rw [markAt_get, hx, Option.map_some]
      by_cases hj : j = i
      · subst hj
        rw [hx0] at hx
        injection hx with hx
        subst hx
        rw [if_pos rfl]
        have : (x0.it.id == id) = true := by simpa using hid0
        rw [this, Bool.or_true]
        rfl
      · rw [if_neg hj]
        have hne : x.it.id ≠ id := fun e => hj (by
          have hjl := (List.getElem?_eq_some_iff.1 hx).1
          have := (List.getElem?_inj (i := j) (j := i) (by simpa using hjl) hnd).1 (by rw [List.getElem?_map, List.getElem?_map, hx, hx0]; simp [e, hid0])
          exact this)
        have : (x.it.id == id) = false := by simpa using hne
        rw [this, Bool.or_false]
    have hit : (markAt f.ps i).map (·.it.id) = f.ps.map (·.it.id) := by
      apply List.ext_getElem?
      intro j
      rw [List.getElem?_map, List.getElem?_map]
      cases hj : f.ps[j]? with
      | none => rw [List.getElem?_eq_none (by rw [markAt_len]; exact List.getElem?_eq_none_iff.1 hj)]
      | some x => rw [hrow j x hj]; rfl
    have hidx : idx (markAt f.ps i) id = some i := by
      have h1 : idx (markAt f.ps i) id = ((markAt f.ps i).map (·.it.id)).findIdx? (· == id) := by unfold idx; rw [List.findIdx?_map]; rfl
      have h2 : idx f.ps id = (f.ps.map (·.it.id)).findIdx? (· == id) := by unfold idx; rw [List.findIdx?_map]; rfl
      rw [h1, hit, ← h2, hi]
    have hmm : markAt (markAt f.ps i) i = markAt f.ps i := by
      apply List.ext_getElem?
      intro j
      rw [markAt_get]
      cases hj : (markAt f.ps i)[j]? with
      | none => rfl
      | some y =>
        rw [Option.map_some]
        by_cases hji : j = i
        · subst hji
          rw [if_pos rfl]
          rw [markAt_get, hx0, Option.map_some, if_pos rfl] at hj
          injection hj with hj
          subst hj
          rfl
        · rw [if_neg hji]
    have e3 : markS (putBy Prod.fst k (k, markF f i) S) k id = (0, putBy Prod.fst k (k, markF (markF f i) i) (putBy Prod.fst k (k, markF f i) S)) := by
      unfold markS
      rw [hf1]
      dsimp only
      rw [show (markF f i).ps = markAt f.ps i from rfl, hidx]
    have e4 : allS (putBy Prod.fst k (k, markF f i) S) k = markAt f.ps i := by unfold allS; rw [hf1]; rfl
    have e5 : allS (putBy Prod.fst k (k, markF (markF f i) i) (putBy Prod.fst k (k, markF f i) S)) k = markAt f.ps i := by unfold allS; rw [fnd_put _ hf1, if_pos rfl]; exact hmm
    rw [e1]
    dsimp only
    rw [e3]
    dsimp only
    rw [e4, e5, e2]
    refine ⟨rfl, rfl, (markAt_len _ _).symm, hrow, .inl ⟨rfl, ?_⟩⟩
    refine List.any_eq_true.2 ⟨⟨x0.sq, x0.it, true⟩, List.mem_of_getElem? (i := i) ?_, by simpa using hid0⟩
    rw [markAt_get, hx0, Option.map_some, if_pos rfl]
    rfl
theorem any_step (l : List Po) (id : List UInt8) (k : Nat) (x : Po) (h : l[k]? = some x) : (l.take (k + 1)).any (fun x => x.it.id == id) = ((l.take k).any (fun x => x.it.id == id) || (x.it.id == id)) := by
  rw [List.take_add_one, h, List.any_append]
  simp
set_option maxRecDepth 100000 in
set_option maxHeartbeats 8000000 in
theorem storeMarks_walk (W : World) (v0 : Value) (l : List A17) (s0 : SlAt W W.heap.size v0 5 l.length (acL l)) (g0 : ∀ a ∈ l, a.Ok W) (feed : ByteArray) (hf0 : feed.size ≤ maxLen) (id : ByteArray) (hi0 : id.size ≤ maxLen) :
    Calls Try.prog 7 #[v0, .string feed, .string id] W fun e W' => e = .returned (.bool true) ∧ Only [] W W' := by
  obtain ⟨LA, lc, rfl⟩ := s0.shape
  obtain ⟨fd, rfl, efd⟩ := str_of feed
  rw [efd] at hf0
  clear efd
  obtain ⟨iz, rfl, eiz⟩ := str_of id
  rw [eiz] at hi0
  clear eiz
  have hf1 := hf0
  have hi1 := hi0
  unfold maxLen at hf0 hi0
  have HS := Lib.hid s0
  have HG := Lib.hid g0
  have C0 := Lib.hid (shown17 W)
  have CS := Lib.hid (fun w' (ho : Only [] W w') => small17 (.slice LA l.length lc) l w' ((s0.only ho (Nat.le_refl _) (by simp)).more ho.size) (fun a ha => (g0 a ha).only ho))
  have hll := sl_len s0
  unfold maxLen at hll
  clear s0 g0
  go_enter Try.func7, Try.ntmps7
  go_wp2_with fail
  refine C0.out.mono ?_
  rintro e w1 ⟨rfl, ho1⟩
  have HO1 := Lib.hid ho1
  clear ho1 C0
  go_wp2_with fail
  refine (CS.out _ HO1.out).mono ?_
  rintro e w2 ⟨okw2, rfl, hokw2, how2⟩
  have HO := Lib.hid (HO1.out.tr how2)
  have HM := Lib.hid hokw2
  clear how2 hokw2
  cases okw2 with
  | false =>
    go_wp2_with fail
    go_ret
    exact ⟨rfl, HO.out⟩
  | true =>
  have HM1 := Lib.hid (HM.out rfl)
  clear HM
  by_cases t1 : 200 < fd.length
  · have dt1 : decide ((200 : Int) < (fd.length : Int)) = true := by simp; omega
    go_wp2_with fail
    go_ret
    exact ⟨rfl, HO.out⟩
  have dt1 : decide ((200 : Int) < (fd.length : Int)) = false := by simp; omega
  by_cases t2 : 300 < iz.length
  · have dt2 : decide ((300 : Int) < (iz.length : Int)) = true := by simp; omega
    go_wp2_with fail
    go_ret
    exact ⟨rfl, HO.out⟩
  have dt2 : decide ((300 : Int) < (iz.length : Int)) = false := by simp; omega
  go_wp2_with fail
  refine (st_new _).mono ?_
  rintro e wn ⟨b, O, rfl, h1, h2, h3⟩
  have H : Hid (StW W wn b O (run17 [] (l.take 0))) := Lib.hid ⟨h1, HO.out.tr h3, fun x hx => Nat.le_trans HO.out.size (h2 x hx)⟩
  clear h1 h2 h3
  go_wp2_with fail
  go_loopw [10] (fun i wr => ∃ (k : Nat) (O : List Nat), k ≤ l.length ∧ i = .int .i64 k ∧ Hid (StW W wr b O (run17 [] (l.take k)))) (fun i _ => l.length - (intOf i).toNat)
  case atStart => exact ⟨0, _, by omega, rfl, H⟩
  case round =>
    obtain ⟨k, O, hk, rfl, H⟩ := hrel
    by_cases hlt : k < l.length
    · have hlt' : (k : Int) < (l.length : Int) := by omega
      obtain ⟨a, ha⟩ : ∃ a, l[k]? = some a := ⟨_, List.getElem?_eq_getElem hlt⟩
      have HA := Lib.hid (HG.out a (List.mem_of_getElem? ha))
      obtain ⟨ab, ao, ac, hv, q0, q1, q2, q3, q4⟩ := acL_at (HS.out.only H.out.ho (Nat.le_refl _) (by simp)) ha
      injection hv with e1 e2 e3
      subst e1; subst e3
      obtain ⟨IA, ic, hiv⟩ := HA.out.its.shape
      have C := Lib.hid (does17' a HA.out (HM1.out.al a (List.mem_of_getElem? ha)).n H.out)
      rw [hiv] at q4 C
      have HT : Hid (run17 [] (l.take (k + 1)) = (D17 (run17 [] (l.take k)) a).2.2.2) := Lib.hid (run17_step [] l k a ha)
      clear e2 ha
      go_wp2_with fail
      clear q0 q1 q2 q3 q4
      refine C.out.mono ?_
      rintro e w3 ⟨v', O', rfl, hown, hdis, h1, h2, h3⟩
      have H' := Lib.hid (H.out.step h1 h2 h3)
      rw [← HT.out] at H'
      clear hown hdis h1 h2 h3 H C HT
      go_wp2_with fail
      go_roundw
      case rel => exact ⟨k + 1, O', by omega, by go_num, H'⟩
      case measure => simp [intOf]; omega
    · have hd : decide ((k : Int) < (l.length : Int)) = false := by simp; omega
      obtain rfl : k = l.length := by omega
      rw [List.take_length] at H
      have SK : Hid (SvOk (run17 [] l)) := Lib.hid (run17_ok l _ SvOk.nil)
      obtain ⟨S, hS⟩ : ∃ S, run17 [] l = S := ⟨_, rfl⟩
      rw [hS] at H SK
      clear hS
      obtain ⟨k1, k2, k3, k4, k5⟩ := mark_law SK.out fd iz
      have n1 := (allS_ok SK.out fd).n
      have CA := Lib.hid (st_all b O S fd hf1 wr H.out.st)
      go_wp2_with fail
      refine CA.out.mono ?_
      rintro e w4 ⟨v1, rfl, hw1, ho4⟩
      have H1 := Lib.hid (H.out.read ho4)
      have hlow : ∀ x ∈ O, v1.ownBlock ≠ some x := fun x hx e => by
        have h1 := H.out.st.bw x hx
        have h2 := (hw1.lt x e).1
        omega
      have hb1 : ∀ g, v1.ownBlock = some g → g < w4.heap.size := fun g hg => (hw1.lt g hg).2
      have CM := Lib.hid (st_mark b O S fd hf1 iz hi1 w4 H1.out.st)
      obtain ⟨rr, hrr⟩ : ∃ rr, markS S fd iz = rr := ⟨_, rfl⟩
      rw [hrr] at CM k1 k2 k3 k4 k5
      obtain ⟨er, S1⟩ := rr
      dsimp only at CM k1 k2 k3 k4 k5
      go_wp2_with fail
      refine CM.out.mono ?_
      rintro e w5 ⟨rfl, hop⟩
      obtain ⟨O1, hs1, hf5, hn5⟩ := H1.out.op hop
      have H2 := Lib.hid hs1
      have hw1 := own_keep hw1 hf5 hlow
      have CB := Lib.hid (st_all b O1 S1 fd hf1 w5 H2.out.st)
      go_wp2_with fail
      refine CB.out.mono ?_
      rintro e w6 ⟨v2, rfl, hw2, ho6⟩
      have hw1 := own_keep hw1 ho6 (by simp)
      have hlow2 : ∀ x ∈ O1, v2.ownBlock ≠ some x := fun x hx e => by
        have h1 := H2.out.st.bw x hx
        have h2 := (hw2.lt x e).1
        omega
      have CN := Lib.hid (st_mark b O1 S1 fd hf1 iz hi1 w6 (H2.out.read ho6).st)
      obtain ⟨rs, hrs⟩ : ∃ rs, markS S1 fd iz = rs := ⟨_, rfl⟩
      rw [hrs] at CN k1 k2
      obtain ⟨es, S2⟩ := rs
      dsimp only at CN k1 k2
      subst k1
      obtain ⟨P, hP⟩ : ∃ P, allS S fd = P := ⟨_, rfl⟩
      obtain ⟨Q, hQ⟩ : ∃ Q, allS S1 fd = Q := ⟨_, rfl⟩
      rw [hP] at hw1 k3 k4 n1
      rw [hQ] at hw2 k2 k3 k4 k5
      rw [k3] at hw1 n1
      obtain ⟨A1, c1, rfl⟩ := (SlAt.of_own hw1).shape
      obtain ⟨A2, c2, rfl⟩ := (SlAt.of_own hw2).shape
      have hee : (es == es) = true := by simp
      have H3 := Lib.hid (H2.out.read ho6)
      have HW1 := Lib.hid hw1
      have HW2 := Lib.hid hw2
      have HL2 := Lib.hid hlow2
      have HL1 : Hid (∀ x ∈ O1, (Value.slice A1 Q.length c1).ownBlock ≠ some x) := Lib.hid (fun x hx e => by
        rcases hn5 x hx with h | h
        · exact hlow x h e
        · have := hb1 x e
          omega)
      go_wp2_with fail
      refine CN.out.mono ?_
      rintro e w7 ⟨rfl, hop⟩
      obtain ⟨O2, hs2, hf7, hn7⟩ := H3.out.op hop
      have H4 := Lib.hid hs2
      have CC := Lib.hid (st_all b O2 S2 fd hf1 w7 H4.out.st)
      rw [k2] at CC
      have HW1 := Lib.hid (own_keep HW1.out hf7 HL1.out)
      have HW2 := Lib.hid (own_keep HW2.out hf7 HL2.out)
      have K4 := Lib.hid k4
      have K5 := Lib.hid k5
      have K3 := Lib.hid k3
      clear k4 k5 k3 hw1 hw2 hlow hlow2 hb1 hf7 hn7 hs2 hop CN H3 H2 H1 CB CA CM hrr hrs HL1 HL2 hs1 hf5 hn5 ho4 ho6 k2
      go_wp2_with fail
      refine CC.out.mono ?_
      rintro e w8 ⟨v3, rfl, hw3, ho8⟩
      have CP := Lib.hid (posts17 (.slice A2 Q.length c2) v3 Q w8 (SlAt.of_own (own_keep HW2.out ho8 (by simp))) (SlAt.of_own hw3) (by omega))
      have HW1 := Lib.hid (own_keep HW1.out ho8 (by simp))
      have HW2 := Lib.hid (own_keep HW2.out ho8 (by simp))
      have H5 := Lib.hid (H4.out.read ho8)
      clear hw3 ho8 CC H4
      go_wp2_with fail
      refine CP.out.mono ?_
      rintro e w9 ⟨rfl, ho9⟩
      have HS1 := Lib.hid (SlAt.of_own (own_keep HW1.out ho9 (by simp)))
      have HS2 := Lib.hid (SlAt.of_own (own_keep HW2.out ho9 (by simp)))
      have H6 := Lib.hid (H5.out.read ho9).ho
      clear ho9 CP H5 HW1 HW2
      go_wp2_with fail
      go_loopw [15, 16, 17] (fun fo i mi wr => ∃ k : Nat, k ≤ Q.length ∧ i = .int .i64 k ∧ fo = .bool ((Q.take k).any (fun x => x.it.id == iz)) ∧ Hid (Only [] w9 wr)) (fun _ i _ _ => Q.length - (intOf i).toNat)
      case atStart => exact ⟨0, by omega, rfl, rfl, Lib.hid (Only.refl _ _)⟩
      case round =>
        obtain ⟨k, hk, rfl, rfl, ho⟩ := hrel
        by_cases hlt : k < Q.length
        · have hlt' : (k : Int) < (Q.length : Int) := by omega
          have hlp : k < P.length := by rw [K3.out]; exact hlt
          obtain ⟨x, hx⟩ : ∃ x, P[k]? = some x := ⟨_, List.getElem?_eq_getElem hlp⟩
          have hy := K4.out k x hx
          have hst := any_step Q iz k _ hy
          obtain ⟨sq, it, rd⟩ := x
          dsimp only at hy hst
          obtain ⟨m, hm⟩ : ∃ m, (it.id == iz) = m := ⟨_, rfl⟩
          obtain ⟨fb, hfb⟩ : ∃ fb, (Q.take k).any (fun x => x.it.id == iz) = fb := ⟨_, rfl⟩
          rw [hm] at hy hst
          rw [hfb] at hst ⊢
          obtain ⟨b1, o1, c1', g1, p0, p1, p2, p3, p4⟩ := poL_at (HS1.out.only ho.out (Nat.le_refl _) (by simp)) (K3.out) hx
          obtain ⟨b2, o2, c2', g2, s0, s1, s2, s3, s4⟩ := poL_at (HS2.out.only ho.out (Nat.le_refl _) (by simp)) rfl hy
          injection g1 with i1 i2 i3
          injection g2 with j1 j2 j3
          subst i1; subst i3; subst j1; subst j3
          have HST := Lib.hid hst
          dsimp only at p0 p1 p2 p3 p4 s0 s1 s2 s3 s4
          clear hst hfb hx hy i2 j2
          cases fb <;> cases m <;> cases rd <;> (
            have u0 := fun u : Since wr => u.cell p0
            have u1 := fun u : Since wr => u.cell p1
            have u2 := fun u : Since wr => u.cell p2
            have u3 := fun u : Since wr => u.cell p3
            have u4 := fun u : Since wr => u.cell p4
            have t0 := fun u : Since wr => u.cell s0
            have t1 := fun u : Since wr => u.cell s1
            have t2 := fun u : Since wr => u.cell s2
            have t3 := fun u : Since wr => u.cell s3
            have t4 := fun u : Since wr => u.cell s4
            go_wp2_with fail
            clear p0 p1 p2 p3 p4 s0 s1 s2 s3 s4
            refine wp_region_only wr (Only.refl _ _) (by kernel_rfl) (by kernel_rfl) ?_
            repeat (go_big_quiet_step (fail))
            refine wpQuiet_nil ?_
            rintro ⟨w3, ho3⟩
            dsimp only
            have HO3 := Lib.hid (ho.out.tr ho3)
            clear u0 u1 u2 u3 u4 t0 t1 t2 t3 t4
            go_wp2_with fail
            go_roundw
            case rel => exact ⟨k + 1, by omega, by go_num, by rw [HST.out]; rfl, HO3⟩
            case measure => simp [intOf]; omega)
        · have hd : decide ((k : Int) < (Q.length : Int)) = false := by simp; omega
          obtain rfl : k = Q.length := by omega
          rw [List.take_length]
          have HO3 := Lib.hid (H6.out.tr ho.out)
          rcases K5.out with ⟨h1, h2⟩ | ⟨h1, h2⟩
          · subst h1
            rw [h2]
            clear K5 h2
            go_wp2_with fail
            go_ret
            exact ⟨rfl, HO3.out⟩
          · subst h1
            rw [h2]
            clear K5 h2
            go_wp2_with fail
            go_ret
            exact ⟨rfl, HO3.out⟩
end Go.Proofs.Ytjfnkjpnjiobjaa
