/-
  The walk over StoreOthers: what is done with one feed changes nothing of another one.
-/
import Derived.Test.YtjfnkjpnjiobjaaOpn17
namespace Go.Proofs.Ytjfnkjpnjiobjaa
open Go.RowKit
set_option maxRecDepth 100000 in
set_option maxHeartbeats 8000000 in
theorem storeOthers_walk (W : World) (v0 : Value) (l : List A17) (s0 : SlAt W W.heap.size v0 5 l.length (acL l)) (g0 : ∀ a ∈ l, a.Ok W) (v1 : Value) (a : A17) (s1 : v1 = a.val ∧ a.Ok W) (_ : True) (feed : ByteArray) (hf0 : feed.size ≤ maxLen) :
    Calls Try.prog 5 #[v0, v1, .string feed] W fun e W' => e = .returned (.bool true) ∧ Only [] W W' := by
  obtain ⟨LA, lc, rfl⟩ := s0.shape
  obtain ⟨fd, rfl, efd⟩ := str_of feed
  rw [efd] at hf0
  clear efd
  obtain ⟨rfl, hA⟩ := s1
  obtain ⟨IA, ic, hiv⟩ := hA.its.shape
  have hf1 := hf0
  unfold maxLen at hf0
  have hil := sl_len hA.its
  have hfl := hA.fd
  have hdl := hA.id
  unfold maxLen at hil hfl hdl
  rw [show a.val = .agg #[.int .i64 a.op, .int .i64 a.n, .string ⟨a.fd.toArray⟩, .string ⟨a.id.toArray⟩, .slice IA a.its.length ic] from by unfold A17.val; rw [hiv]]
  obtain ⟨w1, hw1⟩ : ∃ w1, W.alloc (.cells #[.int .i64 a.op, .int .i64 a.n, .string ⟨a.fd.toArray⟩, .string ⟨a.id.toArray⟩, .slice IA a.its.length ic] 33) = w1 := ⟨_, rfl⟩
  obtain ⟨z, hz⟩ : ∃ z, W.heap.size = z := ⟨_, rfl⟩
  have O1 : Only [] W w1 := hw1 ▸ (Only.refl _ _).alloc _
  have a1 : Cells w1 z 33 [.int .i64 a.op, .int .i64 a.n, .string ⟨a.fd.toArray⟩, .string ⟨a.id.toArray⟩, .slice IA a.its.length ic] := hw1 ▸ hz ▸ Cells.new W _ _
  have HOA := Lib.hid O1
  have HZ := Lib.hid a1
  have HIV := Lib.hid hiv
  have HAO := Lib.hid hA
  clear O1 a1 hA
  have HS := Lib.hid s0
  have HG := Lib.hid g0
  have C0 := Lib.hid (shown17 w1)
  have CS := Lib.hid (fun w' (ho : Only [] W w') => small17 (.slice LA l.length lc) l w' ((s0.only ho (Nat.le_refl _) (by simp)).more ho.size) (fun a ha => (g0 a ha).only ho))
  have hll := sl_len s0
  unfold maxLen at hll
  clear s0 g0
  clear hiv
  go_enter Try.func5, Try.ntmps5
  go_wp2_with fail
  refine C0.out.mono ?_
  rintro e w2 ⟨rfl, ho2⟩
  have HO1 := Lib.hid (HOA.out.tr ho2)
  have HZ2 := Lib.hid (HZ.out.only ho2 (by simp))
  clear ho2 C0 hw1 hz HOA HZ
  go_wp2_with fail
  refine (CS.out _ HO1.out).mono ?_
  rintro e w3 ⟨okA, rfl, hokA, ho3⟩
  have HO3 := Lib.hid (HO1.out.tr ho3)
  have HM := Lib.hid hokA
  have HZ3 := HZ2.out.only ho3 (by simp)
  obtain ⟨w4, hw4⟩ : ∃ w4, w3.alloc (.cells #[.int .i64 a.op, .int .i64 a.n, .string ⟨a.fd.toArray⟩, .string ⟨a.id.toArray⟩, .slice IA a.its.length ic] 33) = w4 := ⟨_, rfl⟩
  obtain ⟨y, hy⟩ : ∃ y, w3.heap.size = y := ⟨_, rfl⟩
  have hO4 : Only [] w3 w4 := hw4 ▸ (Only.refl _ _).alloc _
  have hC4 : Cells w4 y 33 [.int .i64 a.op, .int .i64 a.n, .string ⟨a.fd.toArray⟩, .string ⟨a.id.toArray⟩, .slice IA a.its.length ic] := hw4 ▸ hy ▸ Cells.new w3 _ _
  have HOB := Lib.hid (HO3.out.tr hO4)
  have HZ4 := Lib.hid (HZ3.only hO4 (by simp))
  have CT := Lib.hid (small17 (.slice (some ⟨y, 0, none⟩) 1 1) [a] w4 (by
    have := SlAt.cells (n := 1) (sz := 5) hC4 rfl (by unfold maxLen; omega)
    rw [show acL [a] = [.int .i64 a.op, .int .i64 a.n, .string ⟨a.fd.toArray⟩, .string ⟨a.id.toArray⟩, .slice IA a.its.length ic] from by unfold acL A17.cells; rw [← HIV.out]; rfl]
    exact this) (fun x hx => by rw [List.mem_singleton.1 hx]; exact HAO.out.only HOB.out))
  have z0 := HZ3.cell (k := 0) rfl
  have z1 := HZ3.cell (k := 1) rfl
  have z2 := HZ3.cell (k := 2) rfl
  have z3 := HZ3.cell (k := 3) rfl
  have z4 := HZ3.cell (k := 4) rfl
  clear ho3 hokA HZ3 hC4 hO4 HZ2 HO1 HO3
  go_wp2_with fail
  clear z0 z1 z2 z3 z4 hw4 hy
  refine CT.out.mono ?_
  rintro e w5 ⟨okB, rfl, hokB, ho5⟩
  have HO := Lib.hid (HOB.out.tr ho5)
  have HN := Lib.hid hokB
  have HZ5 := HZ4.out.only ho5 (by simp)
  clear ho5 hokB HZ4 HOB CT
  cases okA with
  | false =>
    cases okB <;> (
      go_wp2_with fail
      go_ret
      exact ⟨rfl, HO.out⟩)
  | true =>
  have HM1 := Lib.hid (HM.out rfl)
  clear HM
  cases okB with
  | false =>
    go_wp2_with fail
    go_ret
    exact ⟨rfl, HO.out⟩
  | true =>
  have HN1 := Lib.hid (HN.out rfl)
  clear HN
  have z2 := HZ5.cell (k := 2) rfl
  by_cases h1 : fd = a.fd
  · have d1 : (fd == a.fd) = true := by simpa using h1
    clear h1
    go_wp2_with fail
    go_ret
    exact ⟨rfl, HO.out⟩
  have d1 : (fd == a.fd) = false := by simpa using h1
  have HNE := Lib.hid h1
  clear h1
  by_cases t1 : 200 < fd.length
  · have dt1 : decide ((200 : Int) < (fd.length : Int)) = true := by simp; omega
    go_wp2_with fail
    go_ret
    exact ⟨rfl, HO.out⟩
  have dt1 : decide ((200 : Int) < (fd.length : Int)) = false := by simp; omega
  go_wp2_with fail
  clear z2
  have HZ5 := Lib.hid HZ5
  refine (st_new _).mono ?_
  rintro e wn ⟨b, O, rfl, h1, h2, h3⟩
  have H : Hid (StW W wn b O (run17 [] (l.take 0))) := Lib.hid ⟨h1, HO.out.tr h3, fun x hx => Nat.le_trans HO.out.size (h2 x hx)⟩
  have HZ6 := Lib.hid (HZ5.out.only h3 (by simp))
  have HLZ : Hid (∀ x ∈ O, x ≠ z) := Lib.hid (fun x hx e => by have := h2 x hx; have := HZ5.out.lt; omega)
  clear h1 h2 h3
  go_wp2_with fail
  go_loopw [11] (fun i wr => ∃ (k : Nat) (O : List Nat), k ≤ l.length ∧ i = .int .i64 k ∧ Hid (StW W wr b O (run17 [] (l.take k))) ∧ Hid (Cells wr z 33 [.int .i64 a.op, .int .i64 a.n, .string ⟨a.fd.toArray⟩, .string ⟨a.id.toArray⟩, .slice IA a.its.length ic]) ∧ Hid (∀ x ∈ O, x ≠ z)) (fun i _ => l.length - (intOf i).toNat)
  case atStart => exact ⟨0, _, by omega, rfl, H, HZ6, HLZ⟩
  case round =>
    obtain ⟨k, O, hk, rfl, H, HZ, HLZ⟩ := hrel
    by_cases hlt : k < l.length
    · have hlt' : (k : Int) < (l.length : Int) := by omega
      obtain ⟨c, ha⟩ : ∃ a, l[k]? = some a := ⟨_, List.getElem?_eq_getElem hlt⟩
      have HA := Lib.hid (HG.out c (List.mem_of_getElem? ha))
      obtain ⟨ab, ao, ac, hv, q0, q1, q2, q3, q4⟩ := acL_at (HS.out.only H.out.ho (Nat.le_refl _) (by simp)) ha
      injection hv with e1 e2 e3
      subst e1; subst e3
      obtain ⟨IC, ic2, hiv⟩ := HA.out.its.shape
      have C := Lib.hid (does17' c HA.out (HM1.out.al c (List.mem_of_getElem? ha)).n H.out)
      rw [hiv] at q4 C
      have HT : Hid (run17 [] (l.take (k + 1)) = (D17 (run17 [] (l.take k)) c).2.2.2) := Lib.hid (run17_step [] l k c ha)
      clear e2 ha
      go_wp2_with fail
      clear q0 q1 q2 q3 q4
      refine C.out.mono ?_
      rintro e w3 ⟨v', O', rfl, hown, hdis, h1, h2, h3⟩
      have H' := Lib.hid (H.out.step h1 h2 h3)
      have HZ' := Lib.hid (HZ.out.only h2 (fun e => HLZ.out z e rfl))
      have HLZ' : Hid (∀ x ∈ O', x ≠ z) := Lib.hid (fun x hx e => by
        rcases h3 x hx with h | h
        · exact HLZ.out x h e
        · have := HZ.out.lt; omega)
      rw [← HT.out] at H'
      clear hown hdis h1 h2 h3 H C HT
      go_wp2_with fail
      go_roundw
      case rel => exact ⟨k + 1, O', by omega, by go_num, H', HZ', HLZ'⟩
      case measure => simp [intOf]; omega
    · have hd : decide ((k : Int) < (l.length : Int)) = false := by simp; omega
      obtain rfl : k = l.length := by omega
      rw [List.take_length] at H
      have SK : Hid (SvOk (run17 [] l)) := Lib.hid (run17_ok l _ SvOk.nil)
      obtain ⟨S, hS⟩ : ∃ S, run17 [] l = S := ⟨_, rfl⟩
      rw [hS] at H SK
      clear hS
      have n1 := (allS_ok SK.out fd).n
      have HEQ := Lib.hid (D17_other S a fd HNE.out)
      have CA := Lib.hid (st_all b O S fd hf1 wr H.out.st)
      go_wp2_with fail
      refine CA.out.mono ?_
      rintro e w6 ⟨v1, rfl, hw1, ho6⟩
      have H1 := Lib.hid (H.out.read ho6)
      have hlow : ∀ x ∈ O, v1.ownBlock ≠ some x := fun x hx e => by
        have h1 := H.out.st.bw x hx
        have h2 := (hw1.lt x e).1
        omega
      have CP := Lib.hid (st_polled b O S fd hf1 w6 H1.out.st)
      obtain ⟨p1, hp1⟩ : ∃ p1, (fnd S fd).elim 0 (·.pol) = p1 := ⟨_, rfl⟩
      obtain ⟨p2, hp2⟩ : ∃ p2, (fnd S fd).elim 0 (·.fai) = p2 := ⟨_, rfl⟩
      obtain ⟨p3, hp3⟩ : ∃ p3, (fnd S fd).isSome = p3 := ⟨_, rfl⟩
      rw [hp1, hp2, hp3] at CP
      have HE1 := Lib.hid hp1
      have HE2 := Lib.hid hp2
      have HE3 := Lib.hid hp3
      clear hp1 hp2 hp3
      obtain ⟨A1, c1, rfl⟩ := (SlAt.of_own hw1).shape
      have HW1 := Lib.hid hw1
      have HL1 := Lib.hid hlow
      have HZ6 := Lib.hid (HZ.out.only ho6 (by simp))
      clear hw1 hlow ho6 CA HZ
      go_wp2_with fail
      refine CP.out.mono ?_
      rintro e w7 ⟨rfl, ho7⟩
      have H2 := Lib.hid (H1.out.read ho7)
      have HZ7 := HZ6.out.only ho7 (by simp)
      have HW2 := Lib.hid (own_keep HW1.out ho7 (by simp))
      have z0 := HZ7.cell (k := 0) rfl
      have z1 := HZ7.cell (k := 1) rfl
      have z2 := HZ7.cell (k := 2) rfl
      have z3 := HZ7.cell (k := 3) rfl
      have z4 := HZ7.cell (k := 4) rfl
      have CD := Lib.hid (does17' a HAO.out ((HN1.out.al a (by simp))).n H2.out)
      rw [HIV.out] at CD
      clear ho7 CP H1 HW1 HZ7 HZ6
      go_wp2_with fail
      clear z0 z1 z2 z3 z4
      refine CD.out.mono ?_
      rintro e w8 ⟨v', O', rfl, hown, hdis, h1, h2, h3⟩
      have H3 := Lib.hid (H2.out.step h1 h2 h3)
      have HW3 := Lib.hid (own_keep HW2.out h2 HL1.out)
      obtain ⟨S2, hS2⟩ : ∃ S2, (D17 S a).2.2.2 = S2 := ⟨_, rfl⟩
      rw [hS2] at H3 HEQ
      have CB := Lib.hid (st_all b O' S2 fd hf1 w8 H3.out.st)
      rw [show allS S2 fd = allS S fd from by unfold allS; rw [HEQ.out]] at CB
      clear hown hdis h1 h2 h3 H2 CD HW2 hS2
      go_wp2_with fail
      refine CB.out.mono ?_
      rintro e w9 ⟨v2, rfl, hw2, ho9⟩
      have H4 := Lib.hid (H3.out.read ho9)
      have HW4 := Lib.hid (own_keep HW3.out ho9 (by simp))
      have CQ := Lib.hid (st_polled b O' S2 fd hf1 w9 H4.out.st)
      rw [HEQ.out, HE1.out, HE2.out, HE3.out] at CQ
      obtain ⟨A2, c2, rfl⟩ := (SlAt.of_own hw2).shape
      have HV2 := Lib.hid hw2
      clear hw2 ho9 CB H3 HW3
      go_wp2_with fail
      refine CQ.out.mono ?_
      rintro e w10 ⟨rfl, ho10⟩
      have H5 := Lib.hid (H4.out.read ho10)
      have CR := Lib.hid (posts17 (.slice A1 (allS S fd).length c1) (.slice A2 (allS S fd).length c2) (allS S fd) w10 (SlAt.of_own (own_keep HW4.out ho10 (by simp))) (SlAt.of_own (own_keep HV2.out ho10 (by simp))) (by omega))
      have b1 : (p1 == p1) = true := by simp
      have b2 : (p2 == p2) = true := by simp
      have b3 : (p3 == p3) = true := by simp
      clear ho10 CQ H4 HW4 HV2
      go_wp2_with fail
      refine CR.out.mono ?_
      rintro e w11 ⟨rfl, ho11⟩
      have HF := Lib.hid (H5.out.read ho11).ho
      clear ho11 CR H5
      go_wp2_with fail
      go_ret
      exact ⟨rfl, HF.out⟩
end Go.Proofs.Ytjfnkjpnjiobjaa
