/-
  The walk over AggLists: what a fresh list is answered is what the feed has; a feed that is subscribed is there, one that is not is not.
-/
import Derived.Test.YtcjfmildalappaaGreatK19au
set_option linter.unusedVariables false
set_option linter.unusedSimpArgs false
namespace Go.Proofs.YtcjfmildalappaaGreat
open Go.RowKit
theorem field_reply1 (x y : Int) (u : Value) (w : World) : (Instr.field 34 (.agg #[.int .i64 x, .int .i64 y, u]) 1).run Tryz.prog w = .ok (.int .i64 y) w := by kernel_rfl
theorem any_snoc {l : List (List UInt8)} {k : Nat} {x : List UInt8} (h : l[k]? = some x) (f : List UInt8 → Bool) : (l.take (k + 1)).any f = ((l.take k).any f || f x) := by
  rw [List.take_add_one, h]
  simp
theorem names_ok {w : World} {p : Nat} {K : List Nat} {a : AgS} (h : AgAt w p K a) : ∀ x ∈ a.s, nmL x.1 = true := by
  obtain ⟨tb, tv, lb, sb, O, B, h, rfl⟩ := h
  exact h.s.sorted.2.2
theorem svs_at {w : World} {B : Nat} {v : Value} {l : List (List UInt8)} (h : SlAt w B v 1 l.length (svs l)) {k : Nat} {x : List UInt8} (hk : l[k]? = some x) : ∃ b o c, v = .slice (some ⟨b, o, none⟩) l.length c ∧ w.cell? ⟨b, o + k, none⟩ = some (.string ⟨x.toArray⟩) := by
  have hlt : k < l.length := (List.getElem?_eq_some_iff.1 hk).1
  obtain ⟨b, o, c, hv, _, hc⟩ := h.at_ (by omega)
  exact ⟨b, o, c, hv, hc k _ (by unfold svs; rw [List.getElem?_map, hk]; rfl)⟩
set_option maxRecDepth 100000 in
set_option maxHeartbeats 8000000 in
theorem aggLists_walk (W : World) (v0 : Value) (l : List C19) (s0 : SlAt W W.heap.size v0 11 l.length (cmL l)) (g0 : ∀ a ∈ l, CmAt W a.iv a.c) (feed : ByteArray) (hf0 : feed.size ≤ maxLen) (nr : Int) (hw0 : (Lit.int .i64 nr).wf = true) :
    Calls Tryz.prog 4 #[v0, .string feed, .int .i64 nr] W fun e W' => e = .returned (.bool true) ∧ Only [] W W' := by
  obtain ⟨LA1, lc1, rfl⟩ := s0.shape
  have HS1 := Lib.hid s0
  have HG1 := Lib.hid g0
  have CS1 := Lib.hid (fun w' (ho : Only [] W w') => small19 (.slice LA1 l.length lc1) l w' ((s0.only ho (Nat.le_refl _) (by simp)).more ho.size) (fun a ha => (g0 a ha).only ho))
  have hll1 := sl_len s0
  unfold maxLen at hll1
  clear s0 g0
  obtain ⟨fd, rfl, efd⟩ := str_of feed
  rw [efd] at hf0
  clear efd
  have hf1 := hf0
  unfold maxLen at hf0
  have hwn := wide64_of_wf hw0
  clear hw0
  have C0 := Lib.hid (shown19 W)
  go_enter Tryz.func4, Tryz.ntmps4
  go_wp2_with fail
  refine C0.out.mono ?_
  rintro e w1 ⟨rfl, ho1⟩
  have HO1 := Lib.hid ho1
  clear ho1 C0
  go_wp2_with fail
  refine (CS1.out _ HO1.out).mono ?_
  rintro e w2 ⟨ok1, rfl, hok, how⟩
  have HO := Lib.hid (HO1.out.tr how)
  have HMo1 := Lib.hid hok
  clear how hok
  cases ok1 with
  | false =>
    go_wp2_with fail
    go_ret
    exact ⟨rfl, HO.out⟩
  | true =>
  have HM1 := Lib.hid (HMo1.out rfl)
  clear HMo1
  by_cases t1 : 200 < fd.length
  · have dt1 : decide ((200 : Int) < (fd.length : Int)) = true := by simp; omega
    go_wp2_with fail
    go_ret
    exact ⟨rfl, HO.out⟩
  have dt1 : decide ((200 : Int) < (fd.length : Int)) = false := by simp; omega
  go_wp2_with fail
  refine (agw_new W _ HO.out).mono ?_
  rintro e wn ⟨p, K0, rfl, hA0, _, _⟩
  have H0 : Hid (AgW W wn p K0 0 (runB AgS.new (l.take 0))) := Lib.hid hA0
  clear hA0 dt1
  go_wp2_with fail
  go_loopw [10] (fun i wr => ∃ (k : Nat) (K : List Nat), k ≤ l.length ∧ i = .int .i64 k ∧ Hid (AgW W wr p K (k) (runB AgS.new (l.take k)))) (fun i _ => l.length - (intOf i).toNat)
  case atStart => exact ⟨0, _, by omega, rfl, H0⟩
  case round =>
    obtain ⟨k, K, hk, rfl, H⟩ := hrel
    obtain ⟨wq, rfl⟩ : ∃ wq, wq = wr := ⟨_, rfl⟩
    by_cases hlt : k < l.length
    · have hlt' : (k : Int) < (l.length : Int) := by omega
      obtain ⟨a, ha⟩ : ∃ a, l[k]? = some a := ⟨_, List.getElem?_eq_getElem hlt⟩
      have ham := List.mem_of_getElem? ha
      have CM := Lib.hid ((HG1.out a ham).only H.out.ho)
      have IK := Lib.hid (itk_base (HG1.out a ham) H.out)
      have hil : a.c.its.length ≤ 1000000 := by have := (HM1.out.al a ham).n; omega
      obtain ⟨ab, ao, ac, hv, q0, q1, q2, q3, q4, q5, q6, q7, q8, q9, q10⟩ := cmL_at (HS1.out.only H.out.ho (Nat.le_refl _) (by simp)) ha
      injection hv with e1 e2 e3
      subst e1; subst e3

      have hn80 := HM1.out.n
      have CD := Lib.hid (agw_do p K _ _ (by omega) a.c a.iv W wq H.out CM.out hil IK.out)
      have HT : Hid (runB AgS.new (l.take (k + 1)) = (doA (runB AgS.new (l.take k)) a.c).2) := Lib.hid (runB_step _ l k a ha)
      unfold Cm.val at CD
      clear hn80 ha ham e2 hil CM IK
      go_wp2_with fail
      refine CD.out.mono ?_
      intro e w5 hd5
      obtain ⟨pv, K2, rfl, hp5, hA5, ho5, hN5, hk5, PA, pc, rfl⟩ := hd5.of
      have H5 : Hid (AgW W w5 p K2 ((k + 1)) (runB AgS.new (l.take (k + 1)))) := Lib.hid (by rw [HT.out]; exact hA5)
      skip
      clear q0 q1 q2 q3 q4 q5 q6 q7 q8 q9 q10 hp5 hA5 ho5 hN5 hk5 CD HT H hd5
      go_wp2_with fail
      go_roundw
      case rel => exact ⟨k + 1, K2, by omega, by go_num, H5⟩
      case measure => simp [intOf]; omega
    · have hdd : decide ((k : Int) < (l.length : Int)) = false := by simp; omega
      obtain rfl : k = l.length := by omega
      rw [List.take_length] at H
      obtain ⟨a0, ha0⟩ : ∃ a0, runB AgS.new l = a0 := ⟨_, rfl⟩
      rw [ha0] at H
      clear ha0
      have hn80 := HM1.out.n
      have hpk := pkI_lt nr 60 (by omega)
      have CPK := Lib.hid (fun w' => pick19 nr 60 w' hwn (by omega) (by omega))
      obtain ⟨k, hk0⟩ : ∃ k, pkI nr 60 = k := ⟨_, rfl⟩
      rw [hk0] at hpk CPK
      have hv1 := H.out.i.ever
      have hv2 := H.out.i.ok.ever
      obtain ⟨a1, a2, e1, e1s, e2, e3, e4⟩ := lists19 H.out.i (by omega) fd (by omega) k hpk
      have HS0 : Hid (∀ x ∈ a0.s, nmL x.1 = true) := Lib.hid (names_ok H.out.at_)
      obtain ⟨id, hid⟩ : ∃ x, a0.t.ever + 1 = x := ⟨_, rfl⟩
      rw [hid] at e1 e2 e3 e4
      obtain ⟨r, hr⟩ : ∃ r, listS a0.s fd k = r := ⟨_, rfl⟩
      have HR := Lib.hid hr
      rw [hr] at e2
      clear hr
      have hidb : 1 ≤ id ∧ id ≤ 1000 := by omega
      have HE1s := Lib.hid e1s
      have HE2 := Lib.hid e2
      have HE3 := Lib.hid e3
      have HE4 := Lib.hid e4
      have HPK := Lib.hid hpk
      have HID := Lib.hid hidb
      have CD : Hid (Calls Tryz.prog 20 #[.pointer (some ⟨p, 0, none⟩), .agg #[.int .i64 1, .int .i64 0, .int .i64 0, .int .i64 0, .int .i64 0, .int .i64 0, .int .i64 0, .string ⟨#[]⟩, .string ⟨#[]⟩, .slice none 0 0, .bool false]] wq fun e w' => DoW W wq w' p K (l.length + 1) a1 ⟨0, id, []⟩ e) := Lib.hid (by
        have := agw_do p K a0 _ (by omega) cReg (.slice none 0 0) W wq H.out ⟨SlAt.of_own (World.ownsRow_nil wq 0 99 3), (fun x hx => by cases hx), (by show (0 : Nat) ≤ maxLen; omega), (by show (0 : Nat) ≤ maxLen; omega), (fun x hx => by
            simp only [List.mem_cons, List.not_mem_nil, or_false] at hx
            rcases hx with rfl | rfl | rfl | rfl | rfl | rfl | rfl <;> exact wide_lt (by first | omega | (dsimp only [cReg, cCl]; omega)) (by first | omega | (dsimp only [cReg, cCl]; omega)))⟩ (by show (0 : Nat) ≤ _; omega) (itk_nil _ _ _ rfl)
        rw [e1] at this
        exact this)
      clear e1 e2 e3 e4 e1s hpk hv1 hv2 hid hidb hk0 hwn
      go_wp2_with fail
      refine CD.out.mono ?_
      intro e w5 hd5
      obtain ⟨pv, K5, he, hp5, hA5, ho5, hN5, hk5, PA, pc, rfl⟩ := hd5.of
      have he : e = .returned (.agg #[.int .i64 0, .int .i64 id, .slice PA 0 pc]) := he
      subst he
      have H5 := Lib.hid hA5
      have hfd := fun w' => field_reply1 0 id (.slice PA 0 pc) w'
      clear hd5 hp5 hA5 ho5 hN5 hk5 CD H
      go_wp2_with fail
      refine (CPK.out _).mono ?_
      rintro e w6 ⟨rfl, rfl⟩
      clear hfd
      have CP := Lib.hid (ag_posts p K5 a1 fd hf1 k w5 H5.out.at_)
      rw [HE1s.out, HR.out] at CP
      go_wp2_with fail
      refine CP.out.mono ?_
      rintro e w7 ⟨v1, rfl, hw1, ho7⟩
      have H7 := Lib.hid (H5.out.read ho7)
      have hlow : ∀ g, v1.ownBlock = some g → g ∉ K5 := fun g e hm => by
        have h1 := H5.out.at_.bw g hm
        have h2 := (hw1.lt g e).1
        omega
      obtain ⟨A1, c1, rfl⟩ := (SlAt.of_own hw1).shape
      have hlk := listS_k H5.out.i.si fd k
      rw [HE1s.out, HR.out] at hlk
      have HP7 : Hid (Pv w7 K5 (.slice A1 r.1.length c1) ⟨r.2, 0, r.1⟩) := Lib.hid ⟨hlk.at hw1, fun _ => hlow⟩
      clear hw1 hlow ho7 CP H5 hlk
      have CF := Lib.hid (fun w' (ho : Only [] w7 w') => ag_feeds p K5 a1 w' (H7.out.read ho).at_)
      rw [HE1s.out] at CF
      go_wp2_with fail
      refine (CF.out w7 (Only.refl _ _)).mono ?_
      rintro e w8 ⟨v2, rfl, hw2, ho8⟩
      have H8 := Lib.hid (H7.out.read ho8)
      have HP8 := Lib.hid (HP7.out.read ho8)
      obtain ⟨nm, hnm⟩ : ∃ nm, a0.s.map (·.1) = nm := ⟨_, rfl⟩
      have hnl : a0.s.length = nm.length := by rw [← hnm, List.length_map]
      rw [hnm, hnl] at hw2
      obtain ⟨A2, c2, rfl⟩ := (SlAt.of_own hw2).shape
      have HF8 : Hid (SlAt w8 w8.heap.size (.slice A2 nm.length c2) 1 nm.length (svs nm)) := Lib.hid (SlAt.of_own hw2)
      have HNM := Lib.hid hnm
      have hnml := sl_len HF8.out
      unfold maxLen at hnml
      clear hw2 ho8 CF H7 HP7 hnm hnl CPK
      go_wp2_with fail
      go_loopw [14, 16] (fun b i wr => ∃ j : Nat, j ≤ nm.length ∧ b = .bool ((nm.take j).any (fun x => x == fd)) ∧ i = .int .i64 j ∧ Hid (Only [] w8 wr)) (fun _ i _ => nm.length - (intOf i).toNat)
      case atStart => exact ⟨0, by omega, rfl, rfl, Lib.hid (Only.refl _ _)⟩
      case round =>
        obtain ⟨j, hj, rfl, rfl, ho⟩ := hrel
        obtain ⟨wo, rfl⟩ : ∃ wo, wo = wr := ⟨_, rfl⟩
        by_cases hjl : j < nm.length
        · have hjl' : (j : Int) < (nm.length : Int) := by omega
          obtain ⟨x, hx⟩ : ∃ x, nm[j]? = some x := ⟨_, List.getElem?_eq_getElem hjl⟩
          obtain ⟨fb, fo, fc, hfv, q0⟩ := svs_at (HF8.out.only ho.out (Nat.le_refl _) (by simp)) hx
          injection hfv with f1 f2 f3
          subst f1; subst f3
          have HAN := Lib.hid (any_snoc hx (fun x => x == fd))
          obtain ⟨bb, hbb⟩ : ∃ b, (nm.take j).any (fun x => x == fd) = b := ⟨_, rfl⟩
          rw [hbb] at HAN ⊢
          clear hx f2 hbb
          cases bb with
          | true =>
            go_wp2_with fail
            go_roundw
            case rel => exact ⟨j + 1, by omega, by rw [HAN.out]; rfl, by go_num, ho⟩
            case measure => simp [intOf]; omega
          | false =>
            cases hxe : (x == fd) with
            | true =>
              have : x = fd := by simpa using hxe
              subst this
              go_wp2_with fail
              go_roundw
              case rel => exact ⟨j + 1, by omega, by rw [HAN.out]; simp, by go_num, ho⟩
              case measure => simp [intOf]; omega
            | false =>
              have hxe' : Hid (x ≠ fd) := Lib.hid (by simpa using hxe)
              have hdd : decide (x = fd) = false := decide_eq_false hxe'.out
              go_wp2_with fail
              go_roundw
              case rel => exact ⟨j + 1, by omega, by rw [HAN.out]; simp [hxe'.out], by go_num, ho⟩
              case measure => simp [intOf]; omega
        · have hjl' : decide ((j : Int) < (nm.length : Int)) = false := by simp; omega
          obtain rfl : j = nm.length := by omega
          rw [List.take_length, ← HNM.out, any_fnd]
          have hnn : nm.length = a0.s.length := by rw [← HNM.out, List.length_map]
          have H9 := Lib.hid (H8.out.read ho.out)
          have HP9 := Lib.hid (HP8.out.read ho.out)
          have CD : Hid (Calls Tryz.prog 20 #[.pointer (some ⟨p, 0, none⟩), .agg #[.int .i64 5, .int .i64 id, .int .i64 1, .int .i64 0, .int .i64 0, .int .i64 0, .int .i64 k, .string ⟨fd.toArray⟩, .string ⟨#[]⟩, .slice none 0 0, .bool false]] wo fun e w' => DoW W wo w' p K5 (l.length + 1 + 1) a2 ⟨r.2, 0, r.1⟩ e) := Lib.hid (by
            have := agw_do p K5 a1 _ (by have := HM1.out.n; omega) (cCl 5 id 1 k fd) (.slice none 0 0) W wo H9.out ⟨SlAt.of_own (World.ownsRow_nil wo 0 99 3), (fun x hx => by cases hx), hf1, (by show (0 : Nat) ≤ maxLen; omega), (by have := HID.out; have := HPK.out; exact (fun x hx => by
                simp only [List.mem_cons, List.not_mem_nil, or_false] at hx
                rcases hx with rfl | rfl | rfl | rfl | rfl | rfl | rfl <;> exact wide_lt (by first | omega | (dsimp only [cReg, cCl]; omega)) (by first | omega | (dsimp only [cReg, cCl]; omega))))⟩ (by show (0 : Nat) ≤ _; omega) (itk_nil _ _ _ rfl)
            rw [HE2.out] at this
            exact this)
          have hrk := listS_k H9.out.i.si fd k
          rw [HE1s.out, HR.out] at hrk
          have hrl : r.1.length ≤ 1000 := by have := hrk.len; dsimp only at this; omega
          have HRL := Lib.hid hrl
          clear hrk
          go_wp2_with fail
          refine CD.out.mono ?_
          intro e w10 hd10
          obtain ⟨pv, K10, he, hp10, hA10, ho10, hN10, hk10, PA10, pc10, rfl⟩ := hd10.of
          have he : e = .returned (.agg #[.int .i64 r.2, .int .i64 0, .slice PA10 r.1.length pc10]) := he
          subst he
          have HA10 := Lib.hid hA10
          have HQ10 : Hid (Pv w10 K10 (.slice PA10 r.1.length pc10) ⟨r.2, 0, r.1⟩) := Lib.hid hp10
          have HP10 := Lib.hid (HP9.out.does ho10 hN10)
          clear hd10 hp10 hA10 ho10 hN10 hk10 CD HP9 HP8 H9 H8 HF8
          obtain ⟨b1, b2, b3⟩ := box_row w10 34 [.int .i64 0, .int .i64 0, .slice none 0 0] [.int .i64 r.2, .int .i64 0, .slice PA10 r.1.length pc10]
          have hone : (#[.int .i64 r.2, .int .i64 0, .slice PA10 r.1.length pc10] : Array Value).all (·.oneCell') = true := by simp [Value.oneCell']
          have hnew : w10.heap.size ∉ K10 := fun hm => by have := HA10.out.at_.bw _ hm; omega
          go_upto_region 20 with (refine wpList_store_row rfl 34 _ _ rfl w10.heap.size #[.int .i64 r.2, .int .i64 0, .slice PA10 r.1.length pc10] rfl rfl 34 _ b2 (by kernel_rfl) rfl hone ?_)
          (try simp only [Act.put])
          obtain ⟨v10, hv⟩ : ∃ u, (w10.alloc (.cells #[.int .i64 0, .int .i64 0, .slice none 0 0] 34)).setRow w10.heap.size #[.int .i64 r.2, .int .i64 0, .slice PA10 r.1.length pc10] = u := ⟨_, rfl⟩
          rw [hv]
          have b1 : Only [] w10 v10 := hv ▸ b1
          have b3 : Cells v10 w10.heap.size 34 [.int .i64 r.2, .int .i64 0, .slice PA10 r.1.length pc10] := hv ▸ b3
          obtain ⟨z10, hz⟩ : ∃ z, w10.heap.size = z := ⟨_, rfl⟩
          rw [hz] at b3 hnew ⊢
          have BZ10 : Hid (Bx v10 K10 z10 34 [.int .i64 r.2, .int .i64 0, .slice PA10 r.1.length pc10]) := Lib.hid ⟨b3, hnew⟩
          have H11 := Lib.hid (HA10.out.read b1)
          have HQ11 := Lib.hid (HQ10.out.read b1)
          have HP11 := Lib.hid (HP10.out.read b1)
          have HKE : Hid ((fnd a0.s fd = none → r = ([], 4)) ∧ (∀ f, fnd a0.s fd = some f → r.2 = 0)) := Lib.hid ⟨fun h => by rw [← HR.out]; unfold listS; rw [h], fun f h => by rw [← HR.out]; unfold listS; rw [h]⟩
          clear b1 b2 b3 hone hnew hv hz HA10 HQ10 HP10 HR
          cases hfn : (fnd a0.s fd).isSome with
          | false =>
            have hnone : fnd a0.s fd = none := by simpa using hfn
            obtain rfl := HKE.out.1 hnone
            have hun : unS a0.s fd = (4, a0.s) := by unfold unS; rw [if_neg (by rw [hfn]; decide)]
            rw [hun] at HE3
            clear hfn hnone HKE hun
            have CD2 : Hid (Calls Tryz.prog 20 #[.pointer (some ⟨p, 0, none⟩), .agg #[.int .i64 3, .int .i64 id, .int .i64 2, .int .i64 0, .int .i64 0, .int .i64 0, .int .i64 0, .string ⟨fd.toArray⟩, .string ⟨#[]⟩, .slice none 0 0, .bool false]] v10 fun e w' => DoW W v10 w' p K10 (l.length + 1 + 1 + 1) (doA a2 (cCl 3 id 2 0 fd)).2 (errR 4) e) := Lib.hid (by
              have := agw_do p K10 a2 _ (by have := HM1.out.n; omega) (cCl 3 id 2 0 fd) (.slice none 0 0) W v10 H11.out ⟨SlAt.of_own (World.ownsRow_nil v10 0 99 3), (fun x hx => by cases hx), hf1, (by show (0 : Nat) ≤ maxLen; omega), (by have := HID.out; exact (fun x hx => by
                  simp only [List.mem_cons, List.not_mem_nil, or_false] at hx
                  rcases hx with rfl | rfl | rfl | rfl | rfl | rfl | rfl <;> exact wide_lt (by first | omega | (dsimp only [cReg, cCl]; omega)) (by first | omega | (dsimp only [cReg, cCl]; omega))))⟩ (by show (0 : Nat) ≤ _; omega) (itk_nil _ _ _ rfl)
              rw [HE3.out] at this
              exact this)
            clear H11
            go_wp2_with fail
            refine CD2.out.mono ?_
            intro e w12 hd12
            obtain ⟨pv, K12, he, hp12, hA12, ho12, hN12, hk12, PA12, pc12, rfl⟩ := hd12.of
            have he : e = .returned (.agg #[.int .i64 4, .int .i64 0, .slice PA12 0 pc12]) := he
            subst he
            have HA12 := Lib.hid hA12
            have HQ12 := Lib.hid (HQ11.out.does ho12 hN12)
            have HP12 := Lib.hid (HP11.out.does ho12 hN12)
            have BZ12 := Lib.hid (BZ10.out.does ho12 hN12)
            clear hd12 hp12 hA12 ho12 hN12 hk12 CD2 HQ11 HP11 BZ10
            obtain ⟨b1, b2, b3⟩ := box_row w12 34 [.int .i64 0, .int .i64 0, .slice none 0 0] [.int .i64 4, .int .i64 0, .slice PA12 0 pc12]
            have hone : (#[.int .i64 4, .int .i64 0, .slice PA12 0 pc12] : Array Value).all (·.oneCell') = true := by simp [Value.oneCell']
            go_upto_region 22 with (refine wpList_store_row rfl 34 _ _ rfl w12.heap.size #[.int .i64 4, .int .i64 0, .slice PA12 0 pc12] rfl rfl 34 _ b2 (by kernel_rfl) rfl hone ?_)
            (try simp only [Act.put])
            obtain ⟨v12, hv⟩ : ∃ u, (w12.alloc (.cells #[.int .i64 0, .int .i64 0, .slice none 0 0] 34)).setRow w12.heap.size #[.int .i64 4, .int .i64 0, .slice PA12 0 pc12] = u := ⟨_, rfl⟩
            rw [hv]
            have b1 : Only [] w12 v12 := hv ▸ b1
            have b3 : Cells v12 w12.heap.size 34 [.int .i64 4, .int .i64 0, .slice PA12 0 pc12] := hv ▸ b3
            obtain ⟨z12, hz⟩ : ∃ z, w12.heap.size = z := ⟨_, rfl⟩
            rw [hz] at b3 ⊢
            have s0 := b3.cell (k := 0) rfl
            have sl := b3.lt
            have t0 := (BZ12.out.read b1).1.cell (k := 0) rfl
            have t2 := (BZ12.out.read b1).1.cell (k := 2) rfl
            have tl := (BZ12.out.read b1).1.lt
            have HW := Lib.hid (HA12.out.read b1).ho
            clear b1 b2 b3 hone hv hz
            go_wp2_with fail
            go_ret
            exact ⟨rfl, HW.out⟩
          | true =>
            obtain ⟨f, hf⟩ := Option.isSome_iff_exists.1 hfn
            have her := HKE.out.2 f hf
            have hnmf := HS0.out _ (fnd_mem hf)
            have hsu : subS a0.s fd = (5, a0.s) := by unfold subS; rw [if_pos hnmf, if_pos hfn]
            rw [hsu] at HE4
            obtain ⟨rl, re⟩ := r
            have her : re = 0 := her
            subst her
            dsimp only at HQ11 HP11 BZ10 HRL ⊢
            clear hfn hf HKE hnmf hsu
            have CD2 : Hid (Calls Tryz.prog 20 #[.pointer (some ⟨p, 0, none⟩), .agg #[.int .i64 2, .int .i64 id, .int .i64 2, .int .i64 0, .int .i64 0, .int .i64 0, .int .i64 0, .string ⟨fd.toArray⟩, .string ⟨#[]⟩, .slice none 0 0, .bool false]] v10 fun e w' => DoW W v10 w' p K10 (l.length + 1 + 1 + 1) (doA a2 (cCl 2 id 2 0 fd)).2 (errR 5) e) := Lib.hid (by
              have := agw_do p K10 a2 _ (by have := HM1.out.n; omega) (cCl 2 id 2 0 fd) (.slice none 0 0) W v10 H11.out ⟨SlAt.of_own (World.ownsRow_nil v10 0 99 3), (fun x hx => by cases hx), hf1, (by show (0 : Nat) ≤ maxLen; omega), (by have := HID.out; exact (fun x hx => by
                  simp only [List.mem_cons, List.not_mem_nil, or_false] at hx
                  rcases hx with rfl | rfl | rfl | rfl | rfl | rfl | rfl <;> exact wide_lt (by first | omega | (dsimp only [cReg, cCl]; omega)) (by first | omega | (dsimp only [cReg, cCl]; omega))))⟩ (by show (0 : Nat) ≤ _; omega) (itk_nil _ _ _ rfl)
              rw [HE4.out] at this
              exact this)
            clear H11
            go_wp2_with fail
            refine CD2.out.mono ?_
            intro e w12 hd12
            obtain ⟨pv, K12, he, hp12, hA12, ho12, hN12, hk12, PA12, pc12, rfl⟩ := hd12.of
            have he : e = .returned (.agg #[.int .i64 5, .int .i64 0, .slice PA12 0 pc12]) := he
            subst he
            have HA12 := Lib.hid hA12
            have HQ12 := Lib.hid (HQ11.out.does ho12 hN12)
            have HP12 := Lib.hid (HP11.out.does ho12 hN12)
            have BZ12 := Lib.hid (BZ10.out.does ho12 hN12)
            clear hd12 hp12 hA12 ho12 hN12 hk12 CD2 HQ11 HP11 BZ10
            obtain ⟨b1, b2, b3⟩ := box_row w12 34 [.int .i64 0, .int .i64 0, .slice none 0 0] [.int .i64 5, .int .i64 0, .slice PA12 0 pc12]
            have hone : (#[.int .i64 5, .int .i64 0, .slice PA12 0 pc12] : Array Value).all (·.oneCell') = true := by simp [Value.oneCell']
            go_upto_region 24 with (refine wpList_store_row rfl 34 _ _ rfl w12.heap.size #[.int .i64 5, .int .i64 0, .slice PA12 0 pc12] rfl rfl 34 _ b2 (by kernel_rfl) rfl hone ?_)
            (try simp only [Act.put])
            obtain ⟨v12, hv⟩ : ∃ u, (w12.alloc (.cells #[.int .i64 0, .int .i64 0, .slice none 0 0] 34)).setRow w12.heap.size #[.int .i64 5, .int .i64 0, .slice PA12 0 pc12] = u := ⟨_, rfl⟩
            rw [hv]
            have b1 : Only [] w12 v12 := hv ▸ b1
            have b3 : Cells v12 w12.heap.size 34 [.int .i64 5, .int .i64 0, .slice PA12 0 pc12] := hv ▸ b3
            obtain ⟨z12, hz⟩ : ∃ z, w12.heap.size = z := ⟨_, rfl⟩
            rw [hz] at b3 ⊢
            have s0 := b3.cell (k := 0) rfl
            have sl := b3.lt
            have t0 := (BZ12.out.read b1).1.cell (k := 0) rfl
            have t2 := (BZ12.out.read b1).1.cell (k := 2) rfl
            have tl := (BZ12.out.read b1).1.lt
            have HW := Lib.hid (HA12.out.read b1).ho
            have CQ := Lib.hid (posts19 _ _ rl v12 (HQ12.out.read b1).1.ps (HP12.out.read b1).1.ps (by have := HRL.out; omega))
            clear b1 b2 b3 hone hv hz
            go_wp2_with fail
            refine CQ.out.mono ?_
            rintro e w13 ⟨rfl, ho13⟩
            have s0' := (ho13.cell (p := ⟨z12, 0, none⟩) sl (by simp)).trans s0
            have hsl := Nat.lt_of_lt_of_le sl ho13.size
            clear s0 t0 t2
            go_wp2_with fail
            go_ret
            exact ⟨rfl, HW.out.tr ho13⟩

end Go.Proofs.YtcjfmildalappaaGreat
