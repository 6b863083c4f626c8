/-
  Chapter 16: package lease's Unpack.
-/
import Derived.Test.YtlonaniomnalnaaUn16
namespace Go.Proofs.Ytlonaniomnalnaa
open Go.RowKit
theorem wrap_six {u : Int} (h : 6 ≤ u) (h1 : Wide64 u) : wrap64 (u - 6) = u - 6 := by
  have := h1.2
  unfold wrap64; omega
set_option maxRecDepth 100000 in
set_option maxHeartbeats 1000000 in
theorem lease_right0 (e u now : Int) (w : World) : Calls Try.prog 56 #[.agg #[.int .i64 0, .int .i64 e, .int .i64 u], .int .i64 now] w fun r w' => r = .returned (.bool (decide (e = 0) && decide (u = 0))) ∧ Only [] w w' := by
  go_enter Try.func56, Try.ntmps56
  go_wp2_with fail
  all_goals
    go_ret
    exact ⟨by simp_all, (Only.refl _ _).alloc _⟩
set_option maxRecDepth 100000 in
set_option maxHeartbeats 1000000 in
theorem lease_right1 (x : Ls) (now : Int) (w : World) (h0 : x.node ≠ 0) (h1 : Wide64 x.till) (d1 d2 d3 d4 d5 d6 : Bool) (hd1 : decide (0 < x.node) = d1) (hd2 : decide (x.node ≤ 9) = d2) (hd3 : decide (0 < x.epoch) = d3) (hd4 : decide (x.epoch ≤ 1099511627776) = d4)
    (hd5 : decide (6 ≤ x.till) = d5) (hd6 : decide (x.till - 6 ≤ now) = d6) (hc : d1 = false ∨ (d1 = true ∧ d2 = false) ∨ (d1 = true ∧ d2 = true ∧ d3 = false) ∨ (d1 = true ∧ d2 = true ∧ d3 = true ∧ d4 = false) ∨ (d1 = true ∧ d2 = true ∧ d3 = true ∧ d4 = true ∧ d5 = false) ∨ (d1 = true ∧ d2 = true ∧ d3 = true ∧ d4 = true ∧ d5 = true)) :
    Calls Try.prog 56 #[.agg #[.int .i64 x.node, .int .i64 x.epoch, .int .i64 x.till], .int .i64 now] w fun r w' => r = .returned (.bool (d1 && d2 && d3 && d4 && d5 && d6)) ∧ Only [] w w' := by
  have hq : (x.node == 0) = false := by simpa using h0
  clear h0
  rcases hc with rfl | ⟨rfl, rfl⟩ | ⟨rfl, rfl, rfl⟩ | ⟨rfl, rfl, rfl, rfl⟩ | ⟨rfl, rfl, rfl, rfl, rfl⟩ | ⟨rfl, rfl, rfl, rfl, rfl⟩
  all_goals
    go_enter Try.func56, Try.ntmps56
    go_wp2_with fail
    go_ret
    exact ⟨by first | (simp [*]; done) | (have := wrap_six (by simpa using hd5) h1; simp [*]), (Only.refl _ _).alloc _⟩
theorem lease_right (x : Ls) (now : Int) (w : World) (h1 : Wide64 x.till) :
    Calls Try.prog 56 #[.agg #[.int .i64 x.node, .int .i64 x.epoch, .int .i64 x.till], .int .i64 now] w fun r w' => r = .returned (.bool (okLs now x)) ∧ Only [] w w' := by
  by_cases h : x.node = 0
  · have e : okLs now x = (decide (x.epoch = 0) && decide (x.till = 0)) := by unfold okLs; rw [if_pos h]
    rw [e, h]
    exact lease_right0 _ _ _ _
  · have e : okLs now x = (decide (0 < x.node) && decide (x.node ≤ 9) && decide (0 < x.epoch) && decide (x.epoch ≤ 1099511627776) && decide (6 ≤ x.till) && decide (x.till - 6 ≤ now)) := by unfold okLs; rw [if_neg h]
    rw [e]
    refine lease_right1 x now w h h1 _ _ _ _ _ _ rfl rfl rfl rfl rfl rfl ?_
    cases decide (0 < x.node) <;> cases decide (x.node ≤ 9) <;> cases decide (0 < x.epoch) <;> cases decide (x.epoch ≤ 1099511627776) <;> cases decide (6 ≤ x.till) <;> simp
/-- The row of pointers to a block's first n cells. -/
def ptrs (b n : Nat) : List Value := (List.range n).map fun j => Value.pointer (some ⟨b, j, none⟩)
theorem ptrs_length (b n : Nat) : (ptrs b n).length = n := by simp [ptrs]
theorem ptrs_get (b n k : Nat) (h : k < n) : (ptrs b n)[k]? = some (.pointer (some ⟨b, k, none⟩)) := by simp [ptrs, h]
theorem ptrs_three (b n : Nat) : ptrs b (n + 3) = ptrs b n ++ [.pointer (some ⟨b, n, none⟩), .pointer (some ⟨b, n + 1, none⟩), .pointer (some ⟨b, n + 2, none⟩)] := by
  unfold ptrs
  rw [List.range_succ, List.range_succ, List.range_succ]; simp
theorem wpList_appS {P : Program} {ops : Array Oper} {rest : List Oper} {o : Oper} {a : Go.Act} {Q : Exit → Go.Act → World → Prop} (hgd : o.guard = none) (s x : Operand) (t : TypeId)
    (ho : o.op = .call { callee := .builtin .append, args := #[s, x], argTypes := #[t, t] })
    (base : Nat) (e : TypeId) (i : TypeInfo) (z : Value) (size bytes : Nat) (ht : P.underlying t = some (.slice e)) (hi : P.info? e = some i) (hz : i.zero = some z)
    (hsize : i.size = size) (hby : i.bytes = bytes) (hzs : z.cells.size = size) (hsz : 0 < size) (w : World)
    (v : Value) (n : Nat) (xs : List Value) (hs : a.eval s = v) (hown : w.ownsRow base e size v n xs)
    (B m : Nat) (cs : List Value) (u : Value) (hx : a.eval x = u) (hu : SlW B e cs m u w) (hl : cs.length = m * size) (h1 : ∀ u ∈ cs, u.oneCell' = true)
    (h63 : n + m ≤ maxLen) (hbytes : (n + m) * bytes ≤ 140737488355328) (hbase : base ≤ w.heap.size)
    (h : ∀ v' w', w'.ownsRow base e size v' (n + m) (xs ++ cs) → w.grownBy w' v.ownBlock → wpList P ops Q rest (a.put o.dst v') w') :
    wpList P ops Q (o :: rest) a w := by
  obtain ⟨g, hg, rfl, hC⟩ := hu
  refine wpList_append_own _ hgd s x t ho base e i z size bytes ht hi hz hsize hby hzs hsz v n xs hs hown ⟨g, 0, none⟩ m m cs hx hl (fun j u hu => ?_) h1 h63 hbytes hbase fun v' w' h2 h3 h4 => h v' w' h2 h3
  have := hC.cell hu
  unfold Addr.add
  by_cases hj : j = 0
  · subst hj; simpa using this
  · simp only [hj, if_false, Nat.zero_add]; exact this
theorem info_ptr : (Try.prog.info? 88).map (fun i => (i.zero, i.size, i.bytes)) = some (some (.pointer none), 1, 8) := by kernel_rfl
/-- The cells while they are read. -/
def half (ns : List Int) : List Value := ivals ns ++ List.replicate (25 - ns.length) (.int .i64 0)
theorem half_zero : half [] = Tb.empty.cells := rfl
theorem half_set (ns : List Int) (h : ns.length < 25) (n : Int) : (half ns).set ns.length (.int .i64 n) = half (ns ++ [n]) := by
  have hl : (ivals ns).length = ns.length := by simp [ivals]
  unfold half
  rw [List.set_append_right (h := by omega), hl, Nat.sub_self, show 25 - ns.length = (25 - (ns ++ [n]).length) + 1 from by simp; omega, List.replicate_succ, List.set_cons_zero]
  simp [ivals]
theorem half_full (ns : List Int) (h : ns.length = 25) : half ns = (tbOf ns).cells := by
  rw [(tbOf_facts ns h).1]
  unfold half
  rw [h]; simp
def UnT (T : World → Nat → Nat → Tb → Prop) (w : World) (s : List UInt8) (e : Ending) (w' : World) : Prop :=
  Only [] w w' ∧ ((unT s = none ∧ e = .returned (.tuple #[.pointer none, .bool false])) ∨ ∃ (t : Tb) (b : Nat), unT s = some t ∧ e = .returned (.tuple #[.pointer (some ⟨b, 0, none⟩), .bool true]) ∧ T w' w.heap.size b t)
def TbC (w : World) (B b : Nat) (t : Tb) : Prop := B ≤ b ∧ Cells w b 81 t.cells
set_option maxRecDepth 100000 in
set_option maxHeartbeats 4000000 in
theorem lease_unpack (s : List UInt8) (w : World) (hl : s.length ≤ 1000000) :
    Calls Try.prog 44 #[.string ⟨s.toArray⟩] w (UnT TbC w s) := by
  obtain ⟨i0, hi0, hz0, hz1, hz2⟩ := info_parts info_ptr
  go_enter Try.func44, Try.ntmps44
  go_wp2_with fail
  refine (lease_new _).mono ?_
  rintro e w1 ⟨rfl, ho1, hc1⟩
  obtain ⟨b, hb⟩ : ∃ b, w.heap.size = b := ⟨_, rfl⟩
  have hbw : w.heap.size ≤ b := by omega
  rw [hb] at hc1 ⊢
  have hb1 := hc1.lt
  go_wp2_with fail
  have hown := World.ownsRow_lit (base := w1.heap.size) (e := 88) (size := 1) w1 #[.pointer (some ⟨b, 0, none⟩)] 1 (Nat.le_refl _) (by decide) rfl
  have hP : Hid (Cells (w1.alloc (.cells #[.pointer (some ⟨b, 0, none⟩)] 88)) b 81 Tb.empty.cells ∧ Only [] w (w1.alloc (.cells #[.pointer (some ⟨b, 0, none⟩)] 88))) := ⟨hc1.alloc _, ho1.alloc _⟩
  obtain ⟨B1, hB1⟩ : ∃ B1, w1.heap.size = B1 := ⟨_, rfl⟩
  have hWB : w.heap.size ≤ B1 := by have := ho1.size; omega
  have hbB : b < B1 := by omega
  rw [hB1] at hown ⊢
  go_loopw [5, 20] (fun v i wr => ∃ k : Nat, k ≤ 8 ∧ i = .int .i64 k ∧ wr.ownsRow B1 88 1 v (1 + 3 * k) (ptrs b (1 + 3 * k)) ∧ B1 ≤ wr.heap.size ∧ Hid (Cells wr b 81 Tb.empty.cells ∧ Only [] w wr)) (fun _ i _ => 8 - (intOf i).toNat)
  case atStart => exact ⟨0, by omega, rfl, hown, by simp; omega, hP⟩
  case round =>
    obtain ⟨k, hk, rfl, hrow, hsz, hp⟩ := hrel
    clear hown hP
    by_cases hk8 : k < 8
    · have hk8' : (k : Int) < 8 := by omega
      go_wp2_with fail
      refine wp_region_pendN wr (Only.refl _ _) [(38, SlW wr.heap.size 88 [.pointer (some ⟨b, 1 + k * 3, none⟩), .pointer (some ⟨b, 1 + k * 3 + 1, none⟩), .pointer (some ⟨b, 1 + k * 3 + 2, none⟩)] 3)] [] 11 (by intro p hp; simp at hp; subst hp; exact SlW.lasts _ _ _ _) (by kernel_rfl) (by kernel_rfl) (by decide) (fun val => ?_)
      simp only [List.take_succ_cons, List.take_zero, List.drop_succ_cons, List.drop_zero]
      refine fit_segN 10 (by kernel_rfl) ?_
      simp only [List.take_succ_cons, List.take_zero, List.drop_succ_cons, List.drop_zero]
      repeat (go_big_quiet_step (fail))
      refine wpQuiet_nil ?_
      refine fit_lit 38 88 [.pointer (some ⟨b, 1 + k * 3, none⟩), .pointer (some ⟨b, 1 + k * 3 + 1, none⟩), .pointer (some ⟨b, 1 + k * 3 + 2, none⟩)] 3 rfl rfl (by simp) (by simp) (fun w5 => by go_simp) rfl ?_
      simp only [Act.put, List.setIfInBounds_toArray, List.set_cons_zero, List.set_cons_succ]
      intro w8 ho8 hv8
      have hv := hv8 (by simp) _ (List.mem_singleton_self _) (by simp)
      dsimp only at hv
      have hrow8 := own_only hrow ho8 (by simp)
      have hp8 : Hid (Cells w8 b 81 Tb.empty.cells ∧ Only [] w w8) := ⟨hp.out.1.only ho8 (by simp), hp.out.2.tr ho8⟩
      have hsz8 : B1 ≤ w8.heap.size := Nat.le_trans hsz ho8.size
      clear hv8 hrow hp hsz
      refine wpList_appS rfl _ _ 89 rfl B1 88 i0 _ 1 8 Try.underlying89 hi0 hz0 hz1 hz2 rfl (by decide) w8 u5 (1 + 3 * k) (ptrs b (1 + 3 * k)) rfl hrow8 wr.heap.size 3 [.pointer (some ⟨b, 1 + k * 3, none⟩), .pointer (some ⟨b, 1 + k * 3 + 1, none⟩), .pointer (some ⟨b, 1 + k * 3 + 2, none⟩)] (val 38) rfl hv rfl (by simp [Value.oneCell']) (by simp only [maxLen]; omega) (by omega) hsz8 ?_
      intro v9 w9 hown9 hgrow9
      have hne : u5.ownBlock ≠ some b := fun hh => by have := (hrow8.lt _ hh).1; omega
      have hp9 : Hid (Cells w9 b 81 Tb.empty.cells ∧ Only [] w w9) := ⟨hp8.out.1.grown hgrow9 hne, hp8.out.2.own hrow8 hgrow9 hWB⟩
      have hsz9 : B1 ≤ w9.heap.size := Nat.le_trans hsz8 hgrow9.size
      have hrow9 : w9.ownsRow B1 88 1 v9 (1 + 3 * (k + 1)) (ptrs b (1 + 3 * (k + 1))) := by
        rw [show 1 + 3 * (k + 1) = 1 + 3 * k + 3 from by omega, ptrs_three, show 1 + 3 * k = 1 + k * 3 from by omega]
        rw [show 1 + 3 * k = 1 + k * 3 from by omega] at hown9
        exact hown9
      clear hrow8 hp8 hsz8 hv hown9 hgrow9
      go_wp2_with fail
      go_roundw
      case rel => exact ⟨k + 1, by omega, by go_num, hrow9, hsz9, hp9⟩
      case measure => simp [intOf]; omega
    · obtain rfl : k = 8 := by omega
      have hd0 : decide ((8 : Int) < 8) = false := by simp
      replace hrow : wr.ownsRow B1 88 1 u5 25 (ptrs b 25) := hrow
      obtain ⟨gr, cr, hu5⟩ := own_form hrow (by omega)
      subst hu5
      rw [show ((8 : Nat) : Int) = (8 : Int) from rfl]
      have hgl := hrow.lt gr rfl
      have hcr : ∀ j, j < 25 → wr.cell? ⟨gr, j, none⟩ = some (.pointer (some ⟨b, j, none⟩)) := fun j hj => by
        rw [hrow.cellAt j (by omega), ptrs_get _ _ _ (by omega)]
      have HCR := Lib.hid hcr
      have HB := Lib.hid hp.out.1
      have HO := Lib.hid hp.out.2
      clear hcr hp hrow
      go_wp2_with fail
      have hgb : gr ≠ b := by omega
      obtain ⟨wA, hwA⟩ : ∃ wA, wA = wr := ⟨_, rfl⟩
      subst hwA
      go_loopw [0, 43] (fun sv i wq => ∃ (k : Nat) (ns : List Int) (r : List UInt8), k ≤ 25 ∧ i = .int .i64 k ∧ sv = .string ⟨r.toArray⟩ ∧ Hid (rdN k s = some (ns, r)) ∧ Hid (Cells wq b 81 (half ns)) ∧ Hid (Only [b] wA wq)) (fun _ i _ => 25 - (intOf i).toNat)
      case atStart => exact ⟨0, [], s, by omega, rfl, rfl, rfl, by exact HB, Only.refl _ _⟩
      case round =>
        obtain ⟨k, ns, r, hk, rfl, rfl, HRD, HC, HOq⟩ := hrel
        obtain ⟨hns, hwd, hsr⟩ := (rdN_iff _ _ _ _).1 HRD.out
        have hrl : r.length ≤ 1000000 := by rw [hsr, List.length_append] at hl; omega
        by_cases hk25 : k < 25
        · have hk25' : (k : Int) < 25 := by omega
          have p0 : wr.cell? ⟨gr, k, none⟩ = some (.pointer (some ⟨b, k, none⟩)) := (HOq.out.cell (p := ⟨gr, k, none⟩) hgl.2 (by simpa using hgb)).trans (HCR.out k hk25)
          have HW := Lib.hid hwd
          clear hwd hsr
          cases h1 : rdI r with
          | none =>
            have HU : Hid (unT s = none) := unT_short (k := k + 1) (by omega) (rdN_bad HRD.out h1)
            have CT := codec_toInt r wr (by omega)
            rw [h1] at CT
            have HCT := Lib.hid CT
            clear CT h1
            go_wp2_with fail
            refine HCT.out.mono ?_
            rintro e w5 ⟨rfl, ho5⟩
            unfold rdV
            go_wp2_with fail
            go_ret2
            exact ⟨(HO.out.trans HOq.out (fun y hy => .inr (by simp at hy; omega))).tr0 ho5, .inl ⟨HU.out, rfl⟩⟩
          | some p =>
            obtain ⟨n, r2⟩ := p
            have HN : Hid (rdN (k + 1) s = some (ns ++ [n], r2)) := rdN_next HRD.out h1
            have CT := codec_toInt r wr (by omega)
            rw [h1] at CT
            have HCT := Lib.hid CT
            clear CT h1
            go_wp2_with fail
            refine HCT.out.mono ?_
            rintro e w5 ⟨rfl, ho5⟩
            unfold rdV
            have hC5 := HC.out.only ho5 (by simp)
            have f5 := hC5.frozen k
            have c5 : w5.cell? ⟨b, k, none⟩ = some (.int .i64 0) := hC5.cell (by unfold half; rw [List.getElem?_append_right (by simp [ivals, hns]), show (ivals ns).length = k from by simp [ivals, hns], Nat.sub_self, List.getElem?_replicate, if_pos (by omega)])
            have hC6 := hC5.set k (.int .i64 n)
            rw [show k = ns.length from hns.symm, half_set ns (by omega) n, hns] at hC6
            have HC6 := Lib.hid hC6
            have HO6 : Hid (Only [b] wA (w5.setCell ⟨b, k, none⟩ (.int .i64 n))) := (HOq.out.tr0 ho5).setCell (.inl (by simp)) _
            clear hC5 hC6
            go_wp2_with fail
            go_roundw
            case rel => exact ⟨k + 1, ns ++ [n], r2, by omega, by go_num, rfl, HN, HC6, HO6⟩
            case measure => simp [intOf]; omega
        · obtain rfl : k = 25 := by omega
          have hd1 : decide ((25 : Int) < 25) = false := by simp
          have HRD2 := Lib.hid (unT_of HRD.out)
          have hCt := HC.out
          rw [half_full ns hns] at hCt
          have HF := Lib.hid (tbOf_fit ns hns hwd)
          have hlen := (tbOf_facts ns hns).2.1
          obtain ⟨t, ht⟩ : ∃ t, tbOf ns = t := ⟨_, rfl⟩
          rw [ht] at hCt HRD2 HF hlen
          have H := Lib.hid hCt
          have HOw : Hid (Only [] w wr) := HO.out.trans HOq.out (fun y hy => .inr (by simp at hy; omega))
          clear ht HC hwd hsr hns HRD hCt HO HOq HB HCR
          obtain ⟨CS, hCS⟩ : ∃ CS, (t.l.flatMap Ls.cells) = CS := ⟨_, rfl⟩
          have HIX := Lib.hid (fun k x => index_lease t.l k x)
          have HL := Lib.hid (range_leases b t wr H.out)
          have HZ := Lib.hid (size_leases t hlen)
          rw [hCS] at HIX HL HZ
          clear hCS
          go_wp2_with (refine wpList_load_mid rfl 79 _ rfl b 1 rfl CS _ HL.out Try.underlying79 rfl HZ.out ?_)
          go_loopw [64] (fun i wq => ∃ k : Nat, k ≤ 8 ∧ i = .int .i64 k ∧ (∀ x ∈ t.l.take k, okLs t.now x = true) ∧ Only [] w wq ∧ Hid (Cells wq b 81 t.cells)) (fun i _ => 8 - (intOf i).toNat)
          case atStart => exact ⟨0, by omega, rfl, by simp, HOw.out, H⟩
          case round =>
            obtain ⟨k, hk, rfl, hok, hok2, hok3⟩ := hrel
            have HOK := Lib.hid hok
            clear hok
            by_cases hk8 : k < 8
            · have hk8' : (k : Int) < 8 := by omega
              have hk1 := List.getElem?_eq_getElem (l := t.l) (i := k) (by omega)
              obtain ⟨x, hx⟩ : ∃ x, t.l[k]'(by omega) = x := ⟨_, rfl⟩
              rw [hx] at hk1
              have hm := List.mem_of_getElem? hk1
              have hix := HIX.out k x hk8 hk1
              unfold Ls.val at hix
              have HM := Lib.hid hm
              have HK := Lib.hid hk1
              clear hx hk1 hm
              obtain ⟨d, hd⟩ : ∃ d, okLs t.now x = d := ⟨_, rfl⟩
              have CR : Hid (∀ w, Calls Try.prog 56 #[.agg #[.int .i64 x.node, .int .i64 x.epoch, .int .i64 x.till], .int .i64 t.now] w fun r w' => r = .returned (.bool d) ∧ Only [] w w') := fun w => by
                rw [← hd]; exact lease_right x t.now w (HF.out.till x HM.out)
              have HD := Lib.hid hd
              clear hd
              have hX : Hid (Cells (wr.alloc (.cells #[.int .i64 x.node, .int .i64 x.epoch, .int .i64 x.till] 44)) wr.heap.size 44 [.int .i64 x.node, .int .i64 x.epoch, .int .i64 x.till]) := Cells.new _ _ _
              have hT : Hid (Cells (wr.alloc (.cells #[.int .i64 x.node, .int .i64 x.epoch, .int .i64 x.till] 44)) b 81 t.cells) := hok3.out.alloc _
              have hOX : Only [] w (wr.alloc (.cells #[.int .i64 x.node, .int .i64 x.epoch, .int .i64 x.till] 44)) := hok2.alloc _
              have z0 := fun u : Since (wr.alloc (.cells #[.int .i64 x.node, .int .i64 x.epoch, .int .i64 x.till] 44)) => u.cell (hX.out.cell (k := 0) rfl)
              have z1 := fun u : Since (wr.alloc (.cells #[.int .i64 x.node, .int .i64 x.epoch, .int .i64 x.till] 44)) => u.cell (hX.out.cell (k := 1) rfl)
              have z2 := fun u : Since (wr.alloc (.cells #[.int .i64 x.node, .int .i64 x.epoch, .int .i64 x.till] 44)) => u.cell (hX.out.cell (k := 2) rfl)
              have z3 := fun u : Since (wr.alloc (.cells #[.int .i64 x.node, .int .i64 x.epoch, .int .i64 x.till] 44)) => u.cell (hT.out.cell t.cell0)
              go_wp2_with fail
              refine wp_region_only (wr.alloc (.cells #[.int .i64 x.node, .int .i64 x.epoch, .int .i64 x.till] 44)) (Only.refl _ _) (by kernel_rfl) (by kernel_rfl) ?_
              repeat (go_big_quiet_step ((go_at_call 56; refine Calls.only (CR.out _))))
              refine wpQuiet_nil ?_
              rintro ⟨w8, ho8⟩
              dsimp only
              have hT8 : Hid (Cells w8 b 81 t.cells) := hT.out.only ho8 (by simp)
              have hO8 := hOX.tr ho8
              clear z0 z1 z2 z3 hX hT hOX hok2 hok3
              have HN : Hid (d = false → unT s = none) := fun h => by
                rw [HRD2.out, if_neg]
                rintro ⟨-, h2⟩
                unfold okT at h2
                rw [Bool.and_eq_true, Bool.and_eq_true, List.all_eq_true] at h2
                have := h2.1.1 x HM.out
                rw [HD.out, h] at this
                cases this
              cases d
              · go_wp2_with fail
                go_ret2
                exact ⟨hO8, .inl ⟨HN.out (by trivial), rfl⟩⟩
              · go_wp2_with fail
                go_roundw
                case rel =>
                  refine ⟨k + 1, by omega, by go_num, fun y hy => ?_, hO8, hT8⟩
                  rw [List.take_add_one, HK.out] at hy
                  rcases List.mem_append.1 hy with hy | hy
                  · exact HOK.out y hy
                  · simp at hy; subst hy; exact HD.out
                case measure => simp [intOf]; omega
            · obtain rfl : k = 8 := by omega
              have hd2 : decide ((8 : Int) < 8) = false := by simp
              have hall : Hid (∀ x ∈ t.l, okLs t.now x = true) := fun x hx => HOK.out x (by rw [List.take_of_length_le (by omega)]; exact hx)
              have HU : Hid (unT s = if r = [] ∧ 0 ≤ t.now ∧ t.now ≤ 1099511627776 then some t else none) := by
                show _ = _
                rw [HRD2.out]
                have : okT t = true ↔ 0 ≤ t.now ∧ t.now ≤ 1099511627776 := by
                  unfold okT
                  rw [List.all_eq_true.2 hall.out]; simp
                simp only [this]
              have m0 := hok3.out.cell t.cell0
              clear HOK hall HRD2 HIX HL HZ
              have hwn := HF.out.now
              cases r with
              | cons c r' =>
                have hne : ¬ (⟨(c :: r').toArray⟩ : ByteArray).toList = [] := by rw [ba_toList]; simp
                have HN : Hid (unT s = none) := by show _ = _; rw [HU.out, if_neg (by simp)]
                clear HU
                obtain ⟨R, hR⟩ : ∃ R : ByteArray, (⟨(c :: r').toArray⟩ : ByteArray) = R := ⟨_, rfl⟩
                rw [hR] at hne ⊢
                clear hR
                go_wp2_with fail
                go_ret2
                exact ⟨hok2, .inl ⟨HN.out, rfl⟩⟩
              | nil =>
                by_cases h0 : 0 ≤ t.now
                · have e0 : decide (t.now < 0) = false := by simpa using h0
                  by_cases h1 : t.now ≤ 1099511627776
                  · have e1 : decide (1099511627776 < t.now) = false := by simpa using h1
                    have HN : Hid (unT s = some t) := by show _ = _; rw [HU.out, if_pos ⟨rfl, h0, h1⟩]
                    clear h0 h1 HU
                    go_wp2_with fail
                    go_ret2
                    exact ⟨hok2, .inr ⟨t, b, HN.out, rfl, hbw, hok3.out⟩⟩
                  · have e1 : decide (1099511627776 < t.now) = true := by simp; omega
                    have HN : Hid (unT s = none) := by show _ = _; rw [HU.out, if_neg (by omega)]
                    clear h0 h1 HU
                    go_wp2_with fail
                    go_ret2
                    exact ⟨hok2, .inl ⟨HN.out, rfl⟩⟩
                · have e0 : decide (t.now < 0) = true := by simp; omega
                  have HN : Hid (unT s = none) := by show _ = _; rw [HU.out, if_neg (by omega)]
                  clear h0 HU
                  go_wp2_with fail
                  go_ret2
                  exact ⟨hok2, .inl ⟨HN.out, rfl⟩⟩
end Go.Proofs.Ytlonaniomnalnaa
