/-
  Chapter 17: Ingest.
-/
import Derived.Test.YtjfnkjpnjiobjaaSt17g
namespace Go.Proofs.Ytjfnkjpnjiobjaa
open Go.RowKit
abbrev Sv := List (List UInt8 × Fd)
def prT (T : List Pl) : Sv := T.map fun t => (t.nm, t.fd)
def ingS (s : Fd × Nat) (x : It) : Fd × Nat := (addF s.1 x, if addB s.1 x then s.2 + 1 else s.2)
def ingF (f : Fd) (l : List It) : Fd × Nat := l.foldl ingS (f, 0)
def ingR (S : Sv) (k : List UInt8) (l : List It) (now : Int) : Int × Int × Sv := match fnd S k with
  | none => (0, 4, S)
  | some f => if okT now then (if l.all itR then ((ingF f l).2, 0, putBy Prod.fst k (k, ⟨now, 0, (ingF f l).1.ps⟩) S) else (0, 1, S)) else (0, 1, S)
theorem ingF_step (f : Fd) (l : List It) (k : Nat) (x : It) (h : l[k]? = some x) : ingF f (l.take (k + 1)) = ingS (ingF f (l.take k)) x := by
  unfold ingF
  rw [List.take_add_one, h, List.foldl_append]; rfl
theorem ingF_nb (f : Fd) (l : List It) : (ingF f l).1.pol = f.pol ∧ (ingF f l).1.fai = f.fai ∧ (ingF f l).2 ≤ l.length := by
  unfold ingF
  have : ∀ (l : List It) (s : Fd × Nat), (l.foldl ingS s).1.pol = s.1.pol ∧ (l.foldl ingS s).1.fai = s.1.fai ∧ (l.foldl ingS s).2 ≤ s.2 + l.length := by
    intro l
    induction l with
    | nil => intro s; simp
    | cons x r ih =>
      intro s
      obtain ⟨h1, h2, h3⟩ := ih (ingS s x)
      rw [List.foldl_cons]
      refine ⟨h1.trans ?_, h2.trans ?_, Nat.le_trans h3 ?_⟩
      · unfold ingS addF; dsimp only; split <;> rfl
      · unfold ingS addF; dsimp only; split <;> rfl
      · unfold ingS; dsimp only [List.length_cons]; split <;> omega
  simpa using this l (f, 0)
set_option maxRecDepth 100000 in
set_option maxHeartbeats 2000000 in
theorem store_ingest (b mb : Nat) (T : List Pl) (k : List UInt8) (hk : k.length ≤ maxLen) (v : Value) (l : List It) (now : Int) (w : World) (h : StX w b mb T) (hs : ∀ w', Only (allX b mb T) w w' → SlAt w' w'.heap.size v 3 l.length (itL l)) (hl : l.length ≤ 1000000) (hx : ∀ x ∈ l, x.Len) :
    Calls Try.prog 21 #[.pointer (some ⟨b, 0, none⟩), .string ⟨k.toArray⟩, v, .int .i64 now] w fun e w' =>
      e = .returned (.tuple #[.int .i64 (ingR (prT T) k l now).1, .int .i64 (ingR (prT T) k l now).2.1]) ∧ ∃ T', Op17 w w' b mb T T' ∧ prT T' = (ingR (prT T) k l now).2.2 := by
  obtain ⟨A, c, rfl⟩ := (hs w (Only.refl _ _)).shape
  have CF := Lib.hid (store_find b mb T k hk now w h)
  have CI := Lib.hid (fun w' (ho : Only [] w w') => containsFunc_it _ l w' (hs w' ho.of0) hl hx)
  have HX := Lib.hid h
  have hfn : fnd (prT T) k = (fT T k).map (·.fd) := fnd_fT T k
  cases hf : fT T k with
  | none =>
    rw [fndV_none now hf] at CF
    have hR : ingR (prT T) k l now = (0, 4, prT T) := by unfold ingR; rw [hfn, hf]; rfl
    rw [hR]
    clear h hs
    go_enter Try.func21, Try.ntmps21
    go_wp2_with fail
    refine CF.out.mono ?_
    rintro e w1 ⟨rfl, rfl⟩
    go_wp2_with fail
    go_ret2
    exact ⟨rfl, T, Op17.same HX.out (Only.refl _ _), rfl⟩
  | some t =>
  cases hn : okT now with
  | false =>
    rw [fndV_bad hf hn] at CF
    have hR : ingR (prT T) k l now = (0, 1, prT T) := by unfold ingR; rw [hfn, hf]; show (if okT now = true then _ else _) = _; rw [hn]; rfl
    rw [hR]
    clear h hs
    go_enter Try.func21, Try.ntmps21
    go_wp2_with fail
    refine CF.out.mono ?_
    rintro e w1 ⟨rfl, rfl⟩
    go_wp2_with fail
    go_ret2
    exact ⟨rfl, T, Op17.same HX.out (Only.refl _ _), rfl⟩
  | true =>
  rw [fndV_ok hf hn] at CF
  cases ha : l.all itR with
  | false =>
    have hR : ingR (prT T) k l now = (0, 1, prT T) := by unfold ingR; rw [hfn, hf]; show (if okT now = true then _ else _) = _; rw [hn, if_pos rfl, ha]; rfl
    rw [hR]
    simp only [ha] at CI
    clear h hs
    go_enter Try.func21, Try.ntmps21
    go_wp2_with fail
    refine CF.out.mono ?_
    rintro e w1 ⟨rfl, rfl⟩
    go_wp2_with fail
    refine (CI.out _ (Only.refl _ _)).mono ?_
    rintro e w2 ⟨rfl, ho2⟩
    have HO2 := Lib.hid ho2
    clear ho2
    go_wp2_with fail
    go_ret2
    exact ⟨rfl, T, Op17.same HX.out HO2.out, rfl⟩
  | true =>
  have hR : ingR (prT T) k l now = (((ingF t.fd l).2 : Int), (0 : Int), putBy Prod.fst k (k, ⟨now, 0, (ingF t.fd l).1.ps⟩) (prT T)) := by unfold ingR; rw [hfn, hf]; show (if okT now = true then _ else _) = _; rw [hn, if_pos rfl, ha]; rfl
  rw [hR]
  simp only [ha] at CI
  have ht := (fT_mem hf).1
  have HS := Lib.hid (fun w' (ho : Only t.own w w') => hs w' (ho.mono fun x hx => .inl (own_mem ht hx)))
  have HF := Lib.hid (h.fds t ht)
  obtain ⟨hn0, hn1⟩ := okT_iff.1 hn
  have HXL := Lib.hid hx
  clear h hs hR hx
  go_enter Try.func21, Try.ntmps21
  go_wp2_with fail
  refine CF.out.mono ?_
  rintro e w1 ⟨rfl, rfl⟩
  go_wp2_with fail
  refine (CI.out _ (Only.refl _ _)).mono ?_
  rintro e w2 ⟨rfl, ho2⟩
  have HO2 := Lib.hid ho2
  clear ho2
  go_wp2_with fail
  go_loopw [12, 29] (fun cn i wr => ∃ (j : Nat) (v : Value) (s : Fd × Nat), j ≤ l.length ∧ i = .int .i64 j ∧ cn = .int .i64 s.2 ∧ Hid (ingF t.fd (l.take j) = s) ∧ s.2 ≤ j ∧ Hid (FdAt wr t.p t.m v s.1) ∧ Hid (Only t.own w wr) ∧ Hid (NewOf w t.v v)) (fun _ i _ => l.length - (intOf i).toNat)
  case atStart => exact ⟨0, t.v, (t.fd, 0), by omega, rfl, rfl, Lib.hid rfl, by simp, Lib.hid (HF.out.only HO2.out (by simp) (by simp) (by simp)), Lib.hid HO2.out.of0, Lib.hid (NewOf.refl _ _)⟩
  case round =>
    obtain ⟨j, v, s, hj, rfl, rfl, hst, hsj, hfd, ho, hnw⟩ := hrel
    by_cases hlt : j < l.length
    · have hlt' : (j : Int) < (l.length : Int) := by omega
      have hk1 := List.getElem?_eq_getElem hlt
      obtain ⟨x, hx⟩ : ∃ x, l[j] = x := ⟨_, rfl⟩
      have hxl := HXL.out l[j] (List.getElem_mem _)
      rw [hx] at hk1 hxl
      obtain ⟨ab, ao, ac, hv, hab, hc⟩ := (HS.out wr ho.out).at_ (by omega)
      have q0 : wr.cell? ⟨ab, ao + j * 3, none⟩ = some (.string ⟨x.id.toArray⟩) := hc (j * 3 + 0) _ (itL_get l j 0 x hk1 (by omega))
      have q1 : wr.cell? ⟨ab, ao + j * 3 + 1, none⟩ = some (.string ⟨x.ti.toArray⟩) := hc (j * 3 + 1) _ (itL_get l j 1 x hk1 (by omega))
      have q2 : wr.cell? ⟨ab, ao + j * 3 + 2, none⟩ = some (.string ⟨x.li.toArray⟩) := hc (j * 3 + 2) _ (itL_get l j 2 x hk1 (by omega))
      have HT : Hid (ingF t.fd (l.take (j + 1)) = ingS s x) := by show _ = _; rw [ingF_step t.fd l j x hk1, hst.out]
      injection hv with e1 e2 e3
      subst e1; subst e3
      obtain ⟨w2, hw2⟩ : ∃ w2, wr.alloc (.cells #[.string ⟨x.id.toArray⟩, .string ⟨x.ti.toArray⟩, .string ⟨x.li.toArray⟩] 36) = w2 := ⟨_, rfl⟩
      have hO2 : Only [] wr w2 := hw2 ▸ (Only.refl _ _).alloc _
      obtain ⟨z, hz⟩ : ∃ z, wr.heap.size = z := ⟨_, rfl⟩
      have hzc : Cells w2 z 36 x.cells := hw2 ▸ hz ▸ Cells.new wr _ _
      have z0 := hzc.cell (k := 0) rfl
      have z1 := hzc.cell (k := 1) rfl
      have z2 := hzc.cell (k := 2) rfl
      have hF2 := hfd.out.only hO2 (by simp) (by simp) (by simp)
      have CA := Lib.hid (source_add t.p t.m v s.1 x hxl w2 hF2)
      have HO2 := Lib.hid (ho.out.trans hO2 (by simp))
      have HZ2 := Lib.hid hO2.size
      clear e2 hc hx hk1 hst hO2 hF2 hzc
      go_wp2_with fail
      clear hw2 q0 q1 q2 z0 z1 z2 hz
      refine CA.out.mono ?_
      rintro e w3 ⟨v', rfl, hfd', ho', hn'⟩
      have HFD := Lib.hid hfd'
      have hsz : w.heap.size ≤ w2.heap.size := HO2.out.size
      have HO3 : Hid (Only t.own w w3) := Lib.hid (HO2.out.trans ho' (by
        intro y hy
        simp only [List.cons_append, List.nil_append, List.mem_cons] at hy
        rcases hy with rfl | rfl | hy
        · left; simp [Pl.own]
        · left; simp [Pl.own]
        · rcases hnw.out y (by simpa [rb] using hy) with h | h
          · left; simp [Pl.own, rb, h]
          · right; exact h))
      have HN3 : Hid (NewOf w t.v v') := Lib.hid (fun g hg => by
        rcases hn' g hg with h | h
        · exact hnw.out g h
        · right; omega)
      clear hfd' ho' hn'
      obtain ⟨f1, n1⟩ := s
      have hsj : n1 ≤ j := hsj
      cases hb : addB f1 x with
      | true =>
        have HT2 : Hid (ingF t.fd (l.take (j + 1)) = (addF f1 x, n1 + 1)) := by show _ = _; rw [HT.out]; unfold ingS; dsimp only; rw [hb]; rfl
        have hwr : IntKind.i64.wrap ((n1 : Int) + 1) = (n1 : Int) + 1 := by rw [IntKind.wrap_i64]; omega
        clear HT hb
        go_wp2_with fail
        go_roundw
        case rel => exact ⟨j + 1, v', (addF f1 x, n1 + 1), by omega, by go_num, by show _ = Value.int .i64 ((n1 + 1 : Nat) : Int); go_num, HT2, by show n1 + 1 ≤ _; omega, HFD, HO3, HN3⟩
        case measure => simp [intOf]; omega
      | false =>
        have HT2 : Hid (ingF t.fd (l.take (j + 1)) = (addF f1 x, n1)) := by show _ = _; rw [HT.out]; unfold ingS; dsimp only; rw [hb]; rfl
        clear HT hb
        go_wp2_with fail
        go_roundw
        case rel => exact ⟨j + 1, v', (addF f1 x, n1), by omega, by go_num, rfl, HT2, by show n1 ≤ _; omega, HFD, HO3, HN3⟩
        case measure => simp [intOf]; omega
    · have hd0 : decide ((j : Int) < (l.length : Int)) = false := by simp; omega
      obtain rfl : j = l.length := by omega
      have hst2 : ingF t.fd l = s := by have := hst.out; rwa [List.take_length] at this
      have hfd := hfd.out
      have p0 := hfd.cells.cell (k := 0) rfl
      have f0 := hfd.cells.frozen 0
      have hlp := hfd.cells.lt
      obtain ⟨w2, hw2⟩ : ∃ w2, wr.setCell ⟨t.p, 0, none⟩ (.int .i64 now) = w2 := ⟨_, rfl⟩
      have c2 : Cells w2 t.p 99 _ := hw2 ▸ hfd.cells.set 0 (.int .i64 now)
      have p2 := c2.cell (k := 1) rfl
      have f2 := c2.frozen 1
      have l2 := c2.lt
      obtain ⟨w3, hw3⟩ : ∃ w3, w2.setCell ⟨t.p, 1, none⟩ (.int .i64 0) = w3 := ⟨_, rfl⟩
      have c3 : Cells w3 t.p 99 [.int .i64 now, .int .i64 0, v, .map (some t.m)] := hw3 ▸ c2.set 1 (.int .i64 0)
      have ho3 : Only [t.p] wr w3 := hw3 ▸ (hw2 ▸ (Only.refl _ _).setCell (p := ⟨t.p, 0, none⟩) (.inl (by simp)) _).setCell (p := ⟨t.p, 1, none⟩) (.inl (by simp)) _
      have hvp := hfd.vp
      have hpm := hfd.pm
      have hfd3 : FdAt w3 t.p t.m v ⟨now, 0, s.1.ps⟩ := by
        refine ⟨c3, own_keep hfd.row ho3 (by simpa using hvp), hfd.map.only ho3 (by simpa using fun e => hpm e.symm), hfd.cap, ?_⟩
        exact ⟨by show -1 ≤ now; omega, by show now ≤ _; omega, by show (0 : Int) ≤ 0; omega, by show (0 : Int) ≤ _; omega⟩
      have HP := Lib.hid (HX.out.put (t' := ⟨t.nm, ⟨now, 0, s.1.ps⟩, t.p, t.m, v⟩) hf rfl rfl rfl hfd3 (ho.out.trans ho3 (fun y hy => .inl (by simp at hy; subst hy; simp [Pl.own]))) hnw.out)
      have HK := Lib.hid ((fT_mem hf).2)
      have HS2 := Lib.hid hst2
      clear hst hst2 hfd3 ho3 hvp hpm c2 c3 hfd
      go_wp2_with fail
      go_ret2
      refine ⟨by rw [HS2.out]; rfl, _, HP.out, ?_⟩
      rw [HS2.out]
      show prT (putBy Pl.nm k _ T) = putBy Prod.fst k _ (prT T)
      unfold prT
      rw [putBy_map Pl.nm (fun t => (t.nm, t.fd)) Prod.fst (fun _ => rfl), HK.out]
end Go.Proofs.Ytjfnkjpnjiobjaa
