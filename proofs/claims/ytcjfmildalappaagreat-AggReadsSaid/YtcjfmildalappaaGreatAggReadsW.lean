/-
  The walk over AggReads: bytes are loaded, or refused, as the chapter says: any bytes, those of any commands with a byte turned.
-/
import Derived.Test.YtcjfmildalappaaGreatK21ab
import Derived.Test.YtcjfmildalappaaGreatK21ad
import Derived.Test.YtcjfmildalappaaGreatK21ba
set_option linter.all false
namespace Go.Proofs.YtcjfmildalappaaGreat
open Go.RowKit
theorem CellsZ.only {w w' : World} {b : Nat} {t : TypeId} {cs : List Value} {S : List Nat} (h : CellsZ w b t cs) (ho : Only S w w') (hb : b ∉ S) : CellsZ w' b t cs := (ho.block b h.lt hb).trans h
set_option maxRecDepth 100000 in
set_option maxHeartbeats 8000000 in
theorem aggReads_walk (W : World) (S0 : ByteArray) (hS0 : S0.size ≤ maxLen) (v0 : Value) (l : List C19) (s0 : SlAt W W.heap.size v0 11 l.length (cmL l)) (g0 : ∀ a ∈ l, CmAt W a.iv a.c) (at_ : Int) (wat : (Lit.int .i64 at_).wf = true) (to_ : Int) (_ : (Lit.int .i64 to_).wf = true) :
    Calls Tryz.prog 8 #[.string S0, v0, .int .i64 at_, .int .i64 to_] W fun e W' => e = .returned (.bool true) ∧ Only [] W W' := by
  obtain ⟨s, rfl, hsl⟩ := str_of S0
  rw [hsl] at hS0
  unfold maxLen at hS0
  clear hsl
  have wat := wide64_of_wf wat
  obtain ⟨LA1, lc1, rfl⟩ := s0.shape
  have HS1 := Lib.hid s0
  have HG1 := Lib.hid g0
  have CS1 := Lib.hid (fun w' (ho : Only [] W w') => small19 (.slice LA1 l.length lc1) l w' ((s0.only ho (Nat.le_refl _) (by simp)).more ho.size) (fun a ha => (g0 a ha).only ho))
  have hll1 := sl_len s0
  unfold maxLen at hll1
  clear s0 g0
  have C0 := Lib.hid (shown19 W)
  go_enter Tryz.func8, Tryz.ntmps8
  go_wp2_with fail
  refine C0.out.mono ?_
  rintro e w1 ⟨rfl, ho1⟩
  have HO1 := Lib.hid ho1
  clear ho1 C0
  go_wp2_with fail
  refine (CS1.out _ HO1.out).mono ?_
  rintro e w2 ⟨ok1, rfl, hok, how⟩
  have HO := Lib.hid (HO1.out.tr how)
  have HMo1 := Lib.hid hok
  clear how hok
  cases ok1 with
  | false =>
    go_wp2_with fail
    go_ret
    exact ⟨rfl, HO.out⟩
  | true =>
  have HM1 := Lib.hid (HMo1.out rfl)
  clear HMo1
  by_cases t1 : 3000 < s.length
  · have dt1 : decide ((3000 : Int) < (s.length : Int)) = true := by simp; omega
    go_wp2_with fail
    go_ret
    exact ⟨rfl, HO.out⟩
  have dt1 : decide ((3000 : Int) < (s.length : Int)) = false := by simp; omega
  by_cases t2 : 20 < l.length
  · have dt2 : decide ((20 : Int) < (l.length : Int)) = true := by simp; omega
    go_wp2_with fail
    go_ret
    exact ⟨rfl, HO.out⟩
  have dt2 : decide ((20 : Int) < (l.length : Int)) = false := by simp; omega
  go_wp2_with fail
  refine (rgw_new W _ HO.out).mono ?_
  rintro e wn ⟨p, K0, rfl, hA0, _, _⟩
  have H0 : Hid (RgW W wn p K0 0 (runB AgS.new (l.take 0))) := Lib.hid hA0
  clear hA0
  go_wp2_with fail
  go_loopw [12] (fun i wr => ∃ (k : Nat) (K : List Nat), k ≤ l.length ∧ i = .int .i64 k ∧ Hid (RgW W wr p K k (runB AgS.new (l.take k)))) (fun i _ => l.length - (intOf i).toNat)
  case atStart => exact ⟨0, _, by omega, rfl, H0⟩
  case round =>
    obtain ⟨k, K, hk, rfl, H⟩ := hrel
    obtain ⟨wq, rfl⟩ : ∃ wq, wq = wr := ⟨_, rfl⟩
    by_cases hlt : k < l.length
    · have hlt' : (k : Int) < (l.length : Int) := by omega
      obtain ⟨a, ha⟩ : ∃ a, l[k]? = some a := ⟨_, List.getElem?_eq_getElem hlt⟩
      have ham := List.mem_of_getElem? ha
      have hn80 := HM1.out.n
      obtain ⟨ab, ao, ac, hv, q0, q1, q2, q3, q4, q5, q6, q7, q8, q9, q10⟩ := cmL_at (HS1.out.only H.out.ho (Nat.le_refl _) (by simp)) ha
      injection hv with e1 e2 e3
      subst e1; subst e3
      have CD := Lib.hid (rgw_do p K _ _ (by omega) a.c a.iv W wq H.out ((HG1.out a ham).only H.out.ho) (HM1.out.al a ham).sm (itk_baseG (HG1.out a ham) H.out))
      have HT : Hid (runB AgS.new (l.take (k + 1)) = (doA (runB AgS.new (l.take k)) a.c).2) := Lib.hid (runB_step _ l k a ha)
      unfold Cm.val at CD
      clear hn80 ha ham e2
      go_wp2_with fail
      refine CD.out.mono ?_
      rintro e w5 ⟨pv, K2, rfl, hp5, hg5, hA5, ho5, hN5, hk5⟩
      have H5 : Hid (RgW W w5 p K2 (k + 1) (runB AgS.new (l.take (k + 1)))) := Lib.hid (by rw [HT.out]; exact hA5)
      clear q0 q1 q2 q3 q4 q5 q6 q7 q8 q9 q10 hp5 hg5 hA5 ho5 hN5 hk5 CD HT H
      go_wp2_with fail
      go_roundw
      case rel => exact ⟨k + 1, K2, by omega, by go_num, H5⟩
      case measure => simp [intOf]; omega
    · have hdd : decide ((k : Int) < (l.length : Int)) = false := by simp; omega
      obtain rfl : k = l.length := by omega
      rw [List.take_length] at H
      have HO := Lib.hid H.out.ho
      have hn80 := HM1.out.n
      have CP := Lib.hid (rgw_save (by omega) H.out)
      have hsj := H.out.at_.sj H.out.i
      have hB2 := agB_le H.out.i (by omega) hsj
      have hB1 : 1 ≤ (agB (runB AgS.new l)).length := by
        have := (tb_length (S15.packL (runB AgS.new l).t.l (runB AgS.new l).t.ever) (by have := packL_le H.out.i (by omega); omega)).1
        rw [agB_parts, List.length_append]
        omega
      obtain ⟨B, hBB⟩ : ∃ B, agB (runB AgS.new l) = B := ⟨_, rfl⟩
      rw [hBB] at CP hB1 hB2
      clear hBB H hsj hn80
      go_wp2_with fail
      refine CP.out.mono ?_
      rintro e w5 ⟨rfl, ho5⟩
      have HO5 := Lib.hid (HO.out.tr ho5)
      clear ho5 CP HO
      obtain ⟨cap, zs, w6, hcap, hC6, ho6, hcv⟩ := conv_row B w5
      obtain ⟨g, hg⟩ : ∃ g, w5.heap.size = g := ⟨_, rfl⟩
      have hgw : W.heap.size ≤ g := by have := HO5.out.size; omega
      rw [hg] at hC6 hcv
      have HC6 := Lib.hid hC6
      have HO6 := Lib.hid (HO5.out.tr ho6)
      have CR1 := Lib.hid (reads19 B (by omega) w6)
      have hcb := conv_back B zs g cap w6 hC6
      clear ho6 hC6 hg HO5
      go_wp2_with fail
      refine CR1.out.mono ?_
      rintro e w7 ⟨rfl, ho7⟩
      have HC7 := Lib.hid (HC6.out.only ho7 (by simp))
      have HO7 := Lib.hid (HO6.out.tr ho7)
      have CK := Lib.hid (fun w' => pick19 at_ B.length w' wat (by omega) (by omega))
      obtain ⟨k0, k1⟩ := pkI_lt at_ B.length (by omega)
      obtain ⟨p, hp⟩ : ∃ p : Nat, pkI at_ B.length = p := ⟨(pkI at_ B.length).toNat, by omega⟩
      rw [hp] at CK k0 k1
      have kp : p < B.length := by omega
      clear hp ho7 CR1 HC6 HO6 hcv hcb
      go_wp2_with fail
      refine (CK.out _).mono ?_
      rintro e w8 ⟨rfl, rfl⟩
      have f5 := HC7.out.frozen p (by rw [List.length_append, bytes_length]; omega)
      have l5 := HC7.out.lt
      have hbk := HC7.out.cell (k := p) (v := .int .u8 (B[p].toNat : Int)) (by rw [List.getElem?_append_left (by rw [bytes_length]; exact kp)]; simp [bytes, List.getElem?_eq_getElem kp])
      obtain ⟨c, hc⟩ : ∃ c : UInt8, (c.toNat : Int) = to_ % 256 := ⟨UInt8.ofNat (to_ % 256).toNat, by
        rw [toNat_byte _ (by omega)]; omega⟩
      obtain ⟨w9, hw9⟩ : ∃ w9, w7.setCell ⟨g, p, none⟩ (.int .u8 (to_ % 256)) = w9 := ⟨_, rfl⟩
      have hC9 : CellsZ w9 g 5 (bytes (B.set p c) ++ zs) := by
        have h1 := HC7.out.set p (.int .u8 (to_ % 256))
        rw [hw9, List.set_append_left _ _ (by rw [bytes_length]; exact kp), ← hc] at h1
        rw [show bytes (B.set p c) = (bytes B).set p (.int .u8 c.toNat) from by unfold bytes; rw [List.map_set]]
        exact h1
      have HO9 : Hid (Only [] W w9) := Lib.hid (hw9 ▸ HO7.out.setCell (p := ⟨g, p, none⟩) (.inr hgw) _)
      obtain ⟨X, hX⟩ : ∃ X, B.set p c = X := ⟨_, rfl⟩
      have hXl : X.length = B.length := by rw [← hX, List.length_set]
      rw [hX] at hC9
      have hcv := conv_back X zs g cap w9 hC9
      rw [hXl] at hcv
      have CR2 := Lib.hid (reads19 X (by omega) w9)
      have CR3 := Lib.hid (fun w' => reads19 s (by omega) w')
      clear hX hC9 hXl hc CK
      go_wp2_with fail
      clear f5 l5 hbk hw9 hcv
      refine CR2.out.mono ?_
      rintro e w10 ⟨rfl, ho10⟩
      have HO10 := Lib.hid (HO9.out.tr ho10)
      clear ho10 CR2
      go_wp2_with fail
      refine (CR3.out _).mono ?_
      rintro e w11 ⟨rfl, ho11⟩
      have HO11 := Lib.hid (HO10.out.tr ho11)
      clear ho11 CR3
      go_wp2_with fail
      go_ret
      exact ⟨rfl, HO11.out⟩
end Go.Proofs.YtcjfmildalappaaGreat
