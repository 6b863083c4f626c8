/-
  Chapter 17: does. (Printed by gen_s17c.py.)
-/
import Derived.Test.YtjfnkjpnjiobjaaS17b
import Derived.Test.YtjfnkjpnjiobjaaSt17k
namespace Go.Proofs.Ytjfnkjpnjiobjaa
open Go.RowKit
def D17q (q : Int) (S : Sv) (a : A17) : Int × List Po × Int × Sv :=
  if q = 0 then (0, [], subS S a.fd)
  else if q = 1 then (0, [], subS S a.fd)
  else if q = 2 then (0, [], unS S a.fd)
  else if q = 7 then (0, [], failS S a.fd a.n)
  else if q = 8 then (0, [], markS S a.fd a.id)
  else if q = 9 then (0, (listS S a.fd a.n).1, (listS S a.fd a.n).2, S)
  else ((ingR S a.fd a.its a.n).1, [], (ingR S a.fd a.its a.n).2)
def D17 (S : Sv) (a : A17) : Int × List Po × Int × Sv := D17q (pkI a.op 10) S a
/-- What an act's answer is. -/
def DoesW (w : World) (b : Nat) (O : List Nat) (D : Int × List Po × Int × Sv) (e : Ending) (w' : World) : Prop :=
  ∃ v' O', e = .returned (.tuple #[.int .i64 D.1, v', .int .i64 D.2.2.1]) ∧ w'.ownsRow w.heap.size 38 5 v' D.2.1.length (poL D.2.1) ∧ (∀ g, v'.ownBlock = some g → g ∉ O') ∧ St w' b O' D.2.2.2 ∧ Only O w w' ∧ ∀ x ∈ O', x ∈ O ∨ w.heap.size ≤ x
theorem DoesW.of {w w' : World} {b : Nat} {O : List Nat} {n r : Int} {S : Sv} {e : Ending} (he : e = .returned (.tuple #[.int .i64 n, .slice none 0 0, .int .i64 r])) (h : OpS w w' b O S) : DoesW w b O (n, [], r, S) e w' := by
  obtain ⟨O', h1, h2, h3⟩ := h
  exact ⟨_, O', he, World.ownsRow_nil _ _ _ _, fun g hg => by simp [Value.ownBlock] at hg, h1, h2, h3⟩
theorem OpS.pre {w0 w w' : World} {b : Nat} {O : List Nat} {S : Sv} (h : OpS w w' b O S) (h0 : Only [] w0 w) : OpS w0 w' b O S := by
  obtain ⟨O', h1, h2, h3⟩ := h
  exact ⟨O', h1, (h0.of0).trans h2 (fun x hx => .inl hx), fun x hx => (h3 x hx).imp id (fun h => Nat.le_trans h0.size h)⟩
set_option maxRecDepth 100000 in
set_option maxHeartbeats 2000000 in
theorem does17 (b : Nat) (O : List Nat) (S : Sv) (a : A17) (w : World) (h : St w b O S) (ho : Wide64 a.op) (hfd : a.fd.length ≤ maxLen) (hid : a.id.length ≤ maxLen) (hl : a.its.length ≤ 1000000) (hx : ∀ x ∈ a.its, x.Len) (hs : ∀ w', Only O w w' → SlAt w' w'.heap.size a.iv 3 a.its.length (itL a.its)) :
    Calls Try.prog 18 #[.pointer (some ⟨b, 0, none⟩), .agg #[.int .i64 a.op, .int .i64 a.n, .string ⟨a.fd.toArray⟩, .string ⟨a.id.toArray⟩, a.iv]] w (DoesW w b O (D17 S a)) := by
  obtain ⟨IA, ic, hiv⟩ := (hs w (Only.refl _ _)).shape
  rw [hiv] at hs ⊢
  obtain ⟨w1, hw1⟩ : ∃ w1, w.alloc (.cells #[.int .i64 a.op, .int .i64 a.n, .string ⟨a.fd.toArray⟩, .string ⟨a.id.toArray⟩, .slice IA a.its.length ic] 33) = w1 := ⟨_, rfl⟩
  obtain ⟨z, hz⟩ : ∃ z, w.heap.size = z := ⟨_, rfl⟩
  have O1 : Only [] w w1 := hw1 ▸ (Only.refl _ _).alloc _
  have a1 : Cells w1 z 33 [.int .i64 a.op, .int .i64 a.n, .string ⟨a.fd.toArray⟩, .string ⟨a.id.toArray⟩, .slice IA a.its.length ic] := hw1 ▸ hz ▸ Cells.new w _ _
  have h1 := h.keep O1 (by simp)
  have c0 := a1.cell (k := 0) rfl
  have c1 := a1.cell (k := 1) rfl
  have c2 := a1.cell (k := 2) rfl
  have c3 := a1.cell (k := 3) rfl
  have c4 := a1.cell (k := 4) rfl
  have CK := Lib.hid (fun w' => pick17 a.op 10 w' ho (by omega) (by omega))
  have hq := pkI_lt a.op 10 (by omega)
  have hD : D17 S a = D17q (pkI a.op 10) S a := rfl
  rw [hD]
  obtain ⟨q, hqq⟩ : ∃ q, pkI a.op 10 = q := ⟨_, rfl⟩
  rw [hqq] at CK hq ⊢
  have CSub := Lib.hid (st_sub b O S a.fd hfd w1 h1)
  have CUn := Lib.hid (st_un b O S a.fd hfd w1 h1)
  have CFail := Lib.hid (st_fail b O S a.fd hfd a.n w1 h1)
  have CMark := Lib.hid (st_mark b O S a.fd hfd a.id hid w1 h1)
  have CList := Lib.hid (st_list b O S a.fd hfd a.n w1 h1)
  have CIng := Lib.hid (st_ingest b O S a.fd hfd _ a.its a.n w1 h1 (fun w' ho => hs w' (O1.of0.trans ho (fun x hx => .inl hx))) hl hx)
  have HO1 := Lib.hid O1
  have H1 := Lib.hid h1
  have HB := Lib.hid h.bw
  clear h h1 hs hx O1 a1 hD hqq hiv
  have hcase : q = 0 ∨ q = 1 ∨ q = 2 ∨ q = 7 ∨ q = 8 ∨ q = 9 ∨ q = 3 ∨ q = 4 ∨ q = 5 ∨ q = 6 := by omega
  clear hq
  rcases hcase with rfl | rfl | rfl | rfl | rfl | rfl | rfl | rfl | rfl | rfl
  · rw [show D17q 0 S a = (0, [], subS S a.fd) from rfl]
    obtain ⟨rr, SS⟩ : ∃ rr, subS S a.fd = rr := ⟨_, rfl⟩
    rw [SS] at CSub ⊢
    clear SS
    obtain ⟨r1, S1⟩ := rr
    go_enter Try.func18, Try.ntmps18
    go_wp2_with fail
    refine (CK.out _).mono ?_
    rintro e w2 ⟨rfl, rfl⟩
    go_wp2_with fail
    refine CSub.out.mono ?_
    rintro e w3 ⟨rfl, hop⟩
    have HOP := Lib.hid (hop.pre HO1.out)
    clear hop hw1 hz c0 c1 c2 c3 c4
    go_wp2_with fail
    go_ret3
    exact DoesW.of rfl HOP.out
  · rw [show D17q 1 S a = (0, [], subS S a.fd) from rfl]
    obtain ⟨rr, SS⟩ : ∃ rr, subS S a.fd = rr := ⟨_, rfl⟩
    rw [SS] at CSub ⊢
    clear SS
    obtain ⟨r1, S1⟩ := rr
    go_enter Try.func18, Try.ntmps18
    go_wp2_with fail
    refine (CK.out _).mono ?_
    rintro e w2 ⟨rfl, rfl⟩
    go_wp2_with fail
    refine CSub.out.mono ?_
    rintro e w3 ⟨rfl, hop⟩
    have HOP := Lib.hid (hop.pre HO1.out)
    clear hop hw1 hz c0 c1 c2 c3 c4
    go_wp2_with fail
    go_ret3
    exact DoesW.of rfl HOP.out
  · rw [show D17q 2 S a = (0, [], unS S a.fd) from rfl]
    obtain ⟨rr, SS⟩ : ∃ rr, unS S a.fd = rr := ⟨_, rfl⟩
    rw [SS] at CUn ⊢
    clear SS
    obtain ⟨r1, S1⟩ := rr
    go_enter Try.func18, Try.ntmps18
    go_wp2_with fail
    refine (CK.out _).mono ?_
    rintro e w2 ⟨rfl, rfl⟩
    go_wp2_with fail
    refine CUn.out.mono ?_
    rintro e w3 ⟨rfl, hop⟩
    have HOP := Lib.hid (hop.pre HO1.out)
    clear hop hw1 hz c0 c1 c2 c3 c4
    go_wp2_with fail
    go_ret3
    exact DoesW.of rfl HOP.out
  · rw [show D17q 7 S a = (0, [], failS S a.fd a.n) from rfl]
    obtain ⟨rr, SS⟩ : ∃ rr, failS S a.fd a.n = rr := ⟨_, rfl⟩
    rw [SS] at CFail ⊢
    clear SS
    obtain ⟨r1, S1⟩ := rr
    go_enter Try.func18, Try.ntmps18
    go_wp2_with fail
    refine (CK.out _).mono ?_
    rintro e w2 ⟨rfl, rfl⟩
    go_wp2_with fail
    refine CFail.out.mono ?_
    rintro e w3 ⟨rfl, hop⟩
    have HOP := Lib.hid (hop.pre HO1.out)
    clear hop hw1 hz c0 c1 c2 c3 c4
    go_wp2_with fail
    go_ret3
    exact DoesW.of rfl HOP.out
  · rw [show D17q 8 S a = (0, [], markS S a.fd a.id) from rfl]
    obtain ⟨rr, SS⟩ : ∃ rr, markS S a.fd a.id = rr := ⟨_, rfl⟩
    rw [SS] at CMark ⊢
    clear SS
    obtain ⟨r1, S1⟩ := rr
    go_enter Try.func18, Try.ntmps18
    go_wp2_with fail
    refine (CK.out _).mono ?_
    rintro e w2 ⟨rfl, rfl⟩
    go_wp2_with fail
    refine CMark.out.mono ?_
    rintro e w3 ⟨rfl, hop⟩
    have HOP := Lib.hid (hop.pre HO1.out)
    clear hop hw1 hz c0 c1 c2 c3 c4
    go_wp2_with fail
    go_ret3
    exact DoesW.of rfl HOP.out
  · rw [show D17q 9 S a = (0, (listS S a.fd a.n).1, (listS S a.fd a.n).2, S) from rfl]
    obtain ⟨rr, SS⟩ : ∃ rr, listS S a.fd a.n = rr := ⟨_, rfl⟩
    rw [SS] at CList ⊢
    clear SS
    obtain ⟨L1, r1⟩ := rr
    go_enter Try.func18, Try.ntmps18
    go_wp2_with fail
    refine (CK.out _).mono ?_
    rintro e w2 ⟨rfl, rfl⟩
    go_wp2_with fail
    refine CList.out.mono ?_
    rintro e w3 ⟨v', rfl, hown, ho3⟩
    have hlow : ∀ g, v'.ownBlock = some g → g ∉ O := fun g hg hx => by
      have h1 := HB.out g hx
      have h2 := (hown.lt g hg).1
      have h3 := HO1.out.size
      omega
    have HL := Lib.hid hlow
    have HW := Lib.hid (own_low hown HO1.out.size)
    have HS3 := Lib.hid (H1.out.keep ho3 (by simp))
    have HO3 := Lib.hid (HO1.out.tr ho3)
    clear hown ho3 hlow hw1 hz c0 c1 c2 c3 c4
    go_wp2_with fail
    go_ret3
    exact ⟨v', O, rfl, HW.out, HL.out, HS3.out, HO3.out.of0, fun x hx => .inl hx⟩
  · rw [show D17q 3 S a = ((ingR S a.fd a.its a.n).1, [], (ingR S a.fd a.its a.n).2) from rfl]
    obtain ⟨rr, SS⟩ : ∃ rr, ingR S a.fd a.its a.n = rr := ⟨_, rfl⟩
    rw [SS] at CIng ⊢
    clear SS
    obtain ⟨n1, r1, S1⟩ := rr
    go_enter Try.func18, Try.ntmps18
    go_wp2_with fail
    refine (CK.out _).mono ?_
    rintro e w2 ⟨rfl, rfl⟩
    go_wp2_with fail
    refine CIng.out.mono ?_
    rintro e w3 ⟨rfl, hop⟩
    have HOP := Lib.hid (hop.pre HO1.out)
    clear hop hw1 hz c0 c1 c2 c3 c4
    go_wp2_with fail
    go_ret3
    exact DoesW.of rfl HOP.out
  · rw [show D17q 4 S a = ((ingR S a.fd a.its a.n).1, [], (ingR S a.fd a.its a.n).2) from rfl]
    obtain ⟨rr, SS⟩ : ∃ rr, ingR S a.fd a.its a.n = rr := ⟨_, rfl⟩
    rw [SS] at CIng ⊢
    clear SS
    obtain ⟨n1, r1, S1⟩ := rr
    go_enter Try.func18, Try.ntmps18
    go_wp2_with fail
    refine (CK.out _).mono ?_
    rintro e w2 ⟨rfl, rfl⟩
    go_wp2_with fail
    refine CIng.out.mono ?_
    rintro e w3 ⟨rfl, hop⟩
    have HOP := Lib.hid (hop.pre HO1.out)
    clear hop hw1 hz c0 c1 c2 c3 c4
    go_wp2_with fail
    go_ret3
    exact DoesW.of rfl HOP.out
  · rw [show D17q 5 S a = ((ingR S a.fd a.its a.n).1, [], (ingR S a.fd a.its a.n).2) from rfl]
    obtain ⟨rr, SS⟩ : ∃ rr, ingR S a.fd a.its a.n = rr := ⟨_, rfl⟩
    rw [SS] at CIng ⊢
    clear SS
    obtain ⟨n1, r1, S1⟩ := rr
    go_enter Try.func18, Try.ntmps18
    go_wp2_with fail
    refine (CK.out _).mono ?_
    rintro e w2 ⟨rfl, rfl⟩
    go_wp2_with fail
    refine CIng.out.mono ?_
    rintro e w3 ⟨rfl, hop⟩
    have HOP := Lib.hid (hop.pre HO1.out)
    clear hop hw1 hz c0 c1 c2 c3 c4
    go_wp2_with fail
    go_ret3
    exact DoesW.of rfl HOP.out
  · rw [show D17q 6 S a = ((ingR S a.fd a.its a.n).1, [], (ingR S a.fd a.its a.n).2) from rfl]
    obtain ⟨rr, SS⟩ : ∃ rr, ingR S a.fd a.its a.n = rr := ⟨_, rfl⟩
    rw [SS] at CIng ⊢
    clear SS
    obtain ⟨n1, r1, S1⟩ := rr
    go_enter Try.func18, Try.ntmps18
    go_wp2_with fail
    refine (CK.out _).mono ?_
    rintro e w2 ⟨rfl, rfl⟩
    go_wp2_with fail
    refine CIng.out.mono ?_
    rintro e w3 ⟨rfl, hop⟩
    have HOP := Lib.hid (hop.pre HO1.out)
    clear hop hw1 hz c0 c1 c2 c3 c4
    go_wp2_with fail
    go_ret3
    exact DoesW.of rfl HOP.out
end Go.Proofs.Ytjfnkjpnjiobjaa
