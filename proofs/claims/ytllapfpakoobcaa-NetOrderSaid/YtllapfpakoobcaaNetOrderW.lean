/-
  NetOrder: the walk.
-/
import Derived.Test.YtllapfpakoobcaaNet9
import Derived.Test.YtllapfpakoobcaaApp
namespace Go.Proofs.Ytllapfpakoobcaa
open Go.RowKit
def bas (l : List ByteArray) : List Value := l.map Value.string
theorem bas_length (l : List ByteArray) : (bas l).length = l.length := by simp [bas]
theorem bas_append (l m : List ByteArray) : bas (l ++ m) = bas l ++ bas m := by simp [bas]
theorem bas_one (l : List ByteArray) : ∀ u ∈ bas l, u.oneCell' = true := by
  intro u hu
  obtain ⟨n, _, rfl⟩ := List.mem_map.1 hu
  rfl
theorem bas_get {l : List ByteArray} {k : Nat} {x : ByteArray} (h : l[k]? = some x) : (bas l)[k]? = some (.string x) := by simp [bas, h]
theorem open_bas {H : Type} {enc : TypeId × Value → H} {w : World} {base : Nat} {spare : Nat → Bool} {held : Bool} {r : Reach} {b0 : Nat} {v : Value} {d : DataW H} {p : List MemPlace}
    (hv : Value.okWide Try.prog w r b0 53 v) (h : DataW.Trod enc Try.prog w base spare held 53 v d p) :
    ∃ l : List ByteArray, SlAt w w.heap.size v 1 l.length (bas l) ∧ ∀ x ∈ l, x.size ≤ maxLen :=
  open_strlist Try.underlying53 Try.underlying9 (by kernel_rfl) hv h
theorem info_string : (Try.prog.info? 9).map (fun i => (i.zero, i.size, i.bytes)) = some (some (.string ⟨#[]⟩), 1, 16) := by kernel_rfl
def mkLt (x : ByteArray) : Lt := ⟨1, 2, x⟩
theorem send_mk (l : List ByteArray) (x : ByteArray) (h : l.length < 300) : (NS.mk (l.map mkLt) [] 0).send (mkLt x) = ⟨(l ++ [x]).map mkLt, [], 0⟩ := by
  unfold NS.send
  rw [if_neg (by simp; omega)]
  simp
theorem late_mk (l : List ByteArray) (k : Nat) (x : ByteArray) (h : l[k]? = some x) : (NS.mk (l.map mkLt) [] 0).late (k : Int) = (⟨(l.take k ++ l.drop (k + 1) ++ [x]).map mkLt, [], 0⟩, true) := by
  have hat : (NS.mk (l.map mkLt) [] 0).at (k : Int) = some (mkLt x) := by
    unfold NS.at
    rw [if_pos (by omega), Int.toNat_natCast, List.getElem?_map, h]; rfl
  unfold NS.late
  rw [hat]
  dsimp only
  rw [Int.toNat_natCast, List.eraseIdx_eq_take_drop_succ]
  simp [List.map_take, List.map_drop]
theorem twice_mk (l : List ByteArray) (m : Nat) (x : ByteArray) (h : l[m]? = some x) (hl : l.length < 300) : (NS.mk (l.map mkLt) [] 0).twice (m : Int) = (⟨(l ++ [x]).map mkLt, [], 0⟩, true) := by
  have hat : (NS.mk (l.map mkLt) [] 0).at (m : Int) = some (mkLt x) := by
    unfold NS.at
    rw [if_pos (by omega), Int.toNat_natCast, List.getElem?_map, h]; rfl
  unfold NS.twice
  rw [hat]
  dsimp only
  rw [send_mk l x hl]
theorem take_mk (x : ByteArray) (l : List ByteArray) : (NS.mk ((x :: l).map mkLt) [] 0).take 0 = (⟨l.map mkLt, [], 0⟩, mkLt x, true) := by
  unfold NS.take NS.at NS.apart inG NS.out
  simp
theorem bas_cell {w : World} {B n : Nat} {v : Value} {l : List ByteArray} {x : ByteArray} (h : SlAt w B v 1 l.length (bas l)) (hx : l[n]? = some x) : ∃ b o c, v = .slice (some ⟨b, o, none⟩) l.length c ∧ w.cell? ⟨b, o + n, none⟩ = some (.string x) ∧ b < B ∧ l.length ≤ c ∧ c ≤ maxLen := by
  have hn : n < l.length := (List.getElem?_eq_some_iff.1 hx).1
  have h' := h
  obtain ⟨_, A, c', hv', hnc, hcm, _⟩ := h'
  obtain ⟨b, o, c, hv, hb, hc⟩ := h.at_ (by omega)
  rw [hv] at hv'
  injection hv' with _ _ e
  subst e
  exact ⟨b, o, c, hv, hc n _ (bas_get hx), hb, hnc, hcm⟩
theorem own_formX {w : World} {base n sz : Nat} {e : TypeId} {v : Value} {xs : List Value} (h : w.ownsRow base e sz v n xs) (hn : 0 < n) : ∃ g cap, v = .slice (some ⟨g, 0, none⟩) n cap := by
  obtain ⟨_, h⟩ := h
  rcases h with ⟨_, h⟩ | ⟨g, cap, cur, hv, _⟩
  · omega
  · exact ⟨g, cap, hv⟩
theorem NetV.rows {w w' : World} {B b B' sz n : Nat} {v f u : Value} {s : NS} {e : TypeId} {xs : List Value} (h : NetV w B b v f s) (ho : Only (b :: rb v) w w') (h1 : e ≠ 57) (h2 : 37 ≠ e) (hr : w.ownsRow B' e sz u n xs) : w'.ownsRow B' e sz u n xs := by
  refine own_keep hr ho fun x hx => ?_
  rcases List.mem_cons.1 hx with rfl | hx
  · exact own_ne_block hr h.cells h1
  · exact own_own_ne h.own hr h2 (by simpa [rb] using hx)
theorem NetAt.growS {W w w' : World} {b B' n : Nat} {s : NS} {u : Value} {xs : List Value} (h : NetAt W w b s) (hr : w.ownsRow B' 9 1 u n xs) (hg : w.grownBy w' u.ownBlock) (hB : W.heap.size ≤ B') : NetAt W w' b s := by
  obtain ⟨v, f, hn⟩ := h.net
  have ho : Only (rb u) w w' := (Only.refl _ w).grown hg (fun g hh => .inl (by simp [rb, hh]))
  refine ⟨h.ge, ⟨v, f, hn.ge, hn.cells.only ho (fun hm => own_ne_block hr hn.cells (by decide) (by simpa [rb] using hm)), own_keep hn.own ho (fun x hx => own_own_ne hr hn.own (by decide) (by simpa [rb] using hx)), ?_, hn.len⟩, h.only.trans ho fun x hx => .inr (Nat.le_trans hB (hr.lt x (by simpa [rb] using hx)).1)⟩
  rcases hn.inf with h | ⟨c, gv, hf, hB, hC, hr2, hl⟩
  · exact .inl h
  · exact .inr ⟨c, gv, hf, hB, hC.only ho (fun hm => own_ne_block hr hC (by decide) (by simpa [rb] using hm)), own_keep hr2 ho (fun x hx => own_own_ne hr hr2 (by decide) (by simpa [rb] using hx)), hl⟩
theorem na_sendR {W w : World} {b : Nat} {s s' : NS} (h : Hid (NetAt W w b s)) (x : Lt) (hlo : s.lo) (he : s.send x = s') {B' n : Nat} {u : Value} {xs : List Value} (hr : Hid (w.ownsRow B' 9 1 u n xs)) :
    Calls Try.prog 12 #[.pointer (some ⟨b, 0, none⟩), .int .i64 x.fr, .int .i64 x.to, .string x.d] w fun e w' => e = .returned (.tuple #[]) ∧ Hid (NetAt W w' b s') ∧ Hid (w'.ownsRow B' 9 1 u n xs) ∧ w.heap.size ≤ w'.heap.size := by
  obtain ⟨v, f, hn⟩ := h.out.net
  subst he
  exact (net_send b b v f s x w hn hlo).mono fun e w' ⟨h1, v', h2, h3, _⟩ => ⟨h1, h.out.turn hn h2 h3, hn.rows h3 (by decide) (by decide) hr.out, h3.size⟩
theorem na_takeR {W w : World} {b : Nat} {s s' : NS} {x : Lt} {ok : Bool} (h : Hid (NetAt W w b s)) (k : Int) (he : s.take k = (s', x, ok)) {B' n : Nat} {u : Value} {xs : List Value} (hr : Hid (w.ownsRow B' 9 1 u n xs)) :
    Calls Try.prog 22 #[.pointer (some ⟨b, 0, none⟩), .int .i64 k] w fun e w' => e = .returned (.tuple #[.agg #[.int .i64 x.fr, .int .i64 x.to, .string x.d], .bool ok]) ∧ Hid (NetAt W w' b s') ∧ Hid (w'.ownsRow B' 9 1 u n xs) := by
  obtain ⟨v, f, hn⟩ := h.out.net
  have := net_take b b k v f s w hn
  rw [he] at this
  exact this.mono fun e w' ⟨h1, v', h2, h3, _⟩ => ⟨h1, h.out.turn hn h2 h3, hn.rows h3 (by decide) (by decide) hr.out⟩
theorem row_ba {w : World} {B n k : Nat} {A : Option Addr} {c : Nat} {l : List ByteArray} {x : ByteArray} (hn : n = l.length) (h : w.ownsRow B 9 1 (.slice A n c) n (bas l)) (hx : l[k]? = some x) : ∃ g, A = some ⟨g, 0, none⟩ ∧ w.cell? ⟨g, k, none⟩ = some (.string x) := by
  subst hn
  have hk : k < l.length := (List.getElem?_eq_some_iff.1 hx).1
  obtain ⟨g, cap, hv⟩ := own_formX h (by omega)
  injection hv with e1 e2 e3
  subst e1; subst e3
  exact ⟨g, rfl, by rw [h.cellAt k (by omega)]; exact bas_get hx⟩
set_option maxRecDepth 100000 in
set_option maxHeartbeats 4000000 in
theorem netOrder_walk (W : World) (v : Value) (l : List ByteArray) (hs : SlAt W W.heap.size v 1 l.length (bas l)) (hg : ∀ x ∈ l, x.size ≤ maxLen) (late : Int) (h1 : (Lit.int .i64 late).wf = true) (twice : Int) (h2 : (Lit.int .i64 twice).wf = true) :
    Calls Try.prog 6 #[v, .int .i64 late, .int .i64 twice] W fun e W' => e = .returned (.bool true) ∧ Only [] W W' := by
  obtain ⟨i0, hi0, hz0, hz1, hz2⟩ := info_parts info_string
  obtain ⟨A, c, rfl⟩ := hs.shape
  have HS := Lib.hid hs
  have hw1 := wide_of_wf h1
  have hw2 := wide_of_wf h2
  have HG := Lib.hid hg
  clear hs hg h1 h2
  by_cases h100 : 100 < l.length
  · have hd : decide ((100 : Int) < (l.length : Int)) = true := by simp; omega
    go_enter Try.func6, Try.ntmps6
    go_wp2_with fail
    refine (shown6 W).mono ?_
    rintro e w1 ⟨rfl, ho⟩
    go_wp2_with fail
    go_ret
    exact ⟨rfl, ho⟩
  have hd : decide ((100 : Int) < (l.length : Int)) = false := by simp; omega
  by_cases h0 : l.length = 0
  · have hd0 : ((l.length : Int) == 0) = true := by rw [h0]; rfl
    go_enter Try.func6, Try.ntmps6
    go_wp2_with fail
    refine (shown6 W).mono ?_
    rintro e w1 ⟨rfl, ho⟩
    go_wp2_with fail
    go_ret
    exact ⟨rfl, ho⟩
  have hd0 : ((l.length : Int) == 0) = false := by rw [beq_eq_false_iff_ne]; omega
  have CP1 : Hid (∀ w, Calls Try.prog 11 #[.int .i64 late, .int .i64 l.length] w fun e w' => e = .returned (.int .i64 (pickI late l.length)) ∧ w = w') := fun w => pick6 late l.length w hw1 (by omega) (by omega)
  have CP2 : Hid (∀ w, Calls Try.prog 11 #[.int .i64 twice, .int .i64 l.length] w fun e w' => e = .returned (.int .i64 (pickI twice l.length)) ∧ w = w') := fun w => pick6 twice l.length w hw2 (by omega) (by omega)
  have hp1 := pickI_lt late l.length (by omega)
  have hp2 := pickI_lt twice l.length (by omega)
  obtain ⟨k, hk⟩ := Int.eq_ofNat_of_zero_le hp1.1
  obtain ⟨m, hm⟩ := Int.eq_ofNat_of_zero_le hp2.1
  rw [hk] at CP1
  rw [hm] at CP2
  have hkl : k < l.length := by omega
  have hml : m < l.length := by omega
  clear hw1 hw2 hp1 hp2 hk hm
  go_enter Try.func6, Try.ntmps6
  go_wp2_with fail
  refine (shown6 W).mono ?_
  rintro e w1 ⟨rfl, ho⟩
  go_wp2_with fail
  refine (na_new W w1 ho).mono ?_
  rintro e w2 ⟨b, rfl, h2⟩
  go_wp2_with fail
  go_loopw [9, 10] (fun wv i wr => ∃ j : Nat, j ≤ l.length ∧ i = .int .i64 j ∧ Hid (NetAt W wr b ⟨(l.take j).map mkLt, [], 0⟩) ∧ Hid (wr.ownsRow w2.heap.size 9 1 wv j (bas (l.take j))) ∧ w2.heap.size ≤ wr.heap.size) (fun _ i _ => l.length - (intOf i).toNat)
  case atStart => exact ⟨0, by omega, rfl, h2, World.ownsRow_nil _ _ _ _, Nat.le_refl _⟩
  case round =>
    obtain ⟨j, hj, rfl, hN, hR, hsz2⟩ := hrel
    obtain ⟨wA, wc, rfl⟩ := (SlAt.of_own hR.out).shape
    by_cases hlt : j < l.length
    · have hlt' : (j : Int) < (l.length : Int) := by omega
      have hkx := List.getElem?_eq_getElem hlt
      obtain ⟨x, hx⟩ : ∃ x, l[j] = x := ⟨_, rfl⟩
      rw [hx] at hkx
      obtain ⟨ab, ao, ac, hv, q0, hab, hlc, hcm⟩ := bas_cell (HS.out.only hN.out.only (Nat.le_refl _) (by simp)) hkx
      injection hv with e1 e2 e3
      subst e1; subst e3
      have HX := Lib.hid hkx
      have hWB2 : W.heap.size ≤ w2.heap.size := h2.out.only.size
      have hsx : (x.size : Int) ≤ 9223372036854775807 := by have := HG.out x (List.mem_of_getElem? hkx); unfold maxLen at this; omega
      clear e2 hx hkx h2
      by_cases h300 : 300 < x.size
      · have hd3 : decide ((300 : Int) < (x.size : Int)) = true := by simp; omega
        go_wp2_with fail
        go_ret
        exact ⟨rfl, hN.out.only⟩
      · have hd3 : decide ((300 : Int) < (x.size : Int)) = false := by simp; omega
        have htk : l.take (j + 1) = l.take j ++ [x] := by rw [List.take_add_one, HX.out]; rfl
        have CS := Lib.hid (na_sendR (s' := ⟨(l.take (j + 1)).map mkLt, [], 0⟩) hN (mkLt x) ⟨by show (0 : Int) ≤ 0; decide, by show (0 : Int) ≤ 1000000000000; decide⟩ (by rw [htk]; exact send_mk _ _ (by rw [List.length_take]; omega)) hR)
        have HTK := Lib.hid htk
        clear htk hN hR
        unfold mkLt at CS
        dsimp only at CS
        go_wp2_with fail
        refine CS.out.mono ?_
        rintro e w5 ⟨rfl, h5, hR5, hsz5⟩
        obtain ⟨ab', ao', ac', hv, q5, -, -, -⟩ := bas_cell (HS.out.only h5.out.only (Nat.le_refl _) (by simp)) HX.out
        injection hv with e1 e2 e3
        injection e1 with e1
        injection e1 with e4 e5
        subst e4; subst e5
        have hb5 : w2.heap.size ≤ w5.heap.size := Nat.le_trans hsz2 hsz5
        clear e2 e3 q0
        go_wp2_with (at_builtin
                     refine wpList_app rfl _ _ 53 rfl w2.heap.size 9 i0 _ 1 16 Try.underlying53 hi0 hz0 hz1 hz2 rfl (by decide) w5 (.slice wA j wc) j (bas (l.take j)) rfl hR5.out 1 1 [.string x] rfl rfl (by simp [Value.oneCell']) (by simp only [maxLen]; omega) (by omega) hb5 ?_
                     intro v9 w9 hown9 hgrow _)
        have h9 := h5.out.growS hR5.out hgrow hWB2
        have hbx : bas (l.take (j + 1)) = bas (l.take j) ++ [.string x] := by rw [HTK.out, bas_append]; rfl
        rw [← hbx] at hown9
        have HO9 := Lib.hid hown9
        have hgs := hgrow.size
        clear hbx hown9 hgrow
        go_roundw
        case rel => exact ⟨j + 1, by omega, by go_num, h9, HO9, by omega⟩
        case measure => simp [intOf]; omega
    · obtain rfl : j = l.length := by omega
      clear hR
      have hlt' : decide ((l.length : Int) < (l.length : Int)) = false := by simp
      rw [List.take_of_length_le (Nat.le_refl _)] at hN
      have hkx := List.getElem?_eq_getElem hkl
      obtain ⟨x, hx⟩ : ∃ x, l[k] = x := ⟨_, rfl⟩
      rw [hx] at hkx
      obtain ⟨L1, hL1⟩ : ∃ L1, l.take k ++ l.drop (k + 1) ++ [x] = L1 := ⟨_, rfl⟩
      have hL1l : L1.length = l.length := by rw [← hL1, List.length_append, List.length_append, List.length_take, List.length_drop, List.length_singleton]; omega
      have hmy := List.getElem?_eq_getElem (l := L1) (i := m) (by omega)
      obtain ⟨y, hy⟩ : ∃ y, L1[m]'(by omega) = y := ⟨_, rfl⟩
      rw [hy] at hmy
      have CL := Lib.hid (na_lateE (s' := ⟨L1.map mkLt, [], 0⟩) (ok := true) hN k (by have := late_mk l k x hkx; rw [hL1] at this; exact this))
      have CT := Lib.hid (fun w' (h : Hid (NetAt W w' b ⟨L1.map mkLt, [], 0⟩)) => na_twiceE (s' := ⟨(L1 ++ [y]).map mkLt, [], 0⟩) (ok := true) h m ⟨by show (0 : Int) ≤ 0; decide, by show (0 : Int) ≤ 1000000000000; decide⟩ (twice_mk L1 m y hmy (by omega)))
      obtain ⟨ab, ao, ac, hv, q0, hab, hlc, hcm⟩ := bas_cell (HS.out.only hN.out.only (Nat.le_refl _) (by simp)) hkx
      injection hv with e1 e2 e3
      subst e1; subst e3
      have HX := Lib.hid hkx
      have HY := Lib.hid hmy
      have HL1 := Lib.hid hL1
      clear e2 hx hy hkx hmy hL1 hN h2 q0
      go_wp2_with fail
      refine (CP1.out _).mono ?_
      rintro e w3 ⟨rfl, rfl⟩
      go_wp2_with fail
      refine (CP2.out _).mono ?_
      rintro e w3 ⟨rfl, rfl⟩
      go_wp2_with fail
      refine CL.out.mono ?_
      rintro e w3 ⟨rfl, h3⟩
      go_wp2_with fail
      refine (CT.out _ h3).mono ?_
      rintro e w4 ⟨rfl, h4⟩
      go_wp2_with fail
      have HS4 := HS.out.only h4.out.only (Nat.le_refl _) (by simp)
      have hcell : ∀ j u, l[j]? = some u → w4.cell? ⟨ab, ao + j, none⟩ = some (.string u) := fun j u hu => by
        obtain ⟨b', o', c', hv', hc', _⟩ := bas_cell HS4 hu
        injection hv' with e1
        injection e1 with e1
        injection e1 with e1 e2
        subst e1; subst e2
        exact hc'
      have hS1 : SrcA w4 (.slice (some ⟨ab, ao, none⟩) k c) 1 k (bas (l.take k)) := by
        refine ⟨by rw [bas_length, List.length_take]; omega, bas_one _, .inr ⟨_, _, rfl, fun j u hu => ?_⟩⟩
        have hj := (List.getElem?_eq_some_iff.1 hu).1
        rw [bas_length, List.length_take] at hj
        rw [bas, List.getElem?_map, List.getElem?_take_of_lt (by omega), List.getElem?_eq_getElem (by omega)] at hu
        simp only [Option.map_some, Option.some.injEq] at hu
        subst hu
        rw [Addr.add_lit]
        exact hcell j _ (List.getElem?_eq_getElem (by omega))
      obtain ⟨A2, hA2, hS2⟩ : ∃ A2 : Addr, (if c = k + 1 then some (⟨ab, ao, none⟩ : Addr) else some ⟨ab, ao + (k + 1), none⟩) = some A2 ∧ Hid (SrcA w4 (.slice (some A2) (l.length - (k + 1)) (c - (k + 1))) 1 (l.length - (k + 1)) (bas (l.drop (k + 1)))) := by
        by_cases h : c = k + 1
        · refine ⟨⟨ab, ao, none⟩, by simp [h], by rw [bas_length, List.length_drop]; omega, bas_one _, .inr ⟨_, _, rfl, fun j u hu => ?_⟩⟩
          have : l.drop (k + 1) = [] := List.drop_eq_nil_of_le (by omega)
          rw [this] at hu
          simp [bas] at hu
        · refine ⟨⟨ab, ao + (k + 1), none⟩, by simp [h], by rw [bas_length, List.length_drop]; omega, bas_one _, .inr ⟨_, _, rfl, fun j u hu => ?_⟩⟩
          have hj := (List.getElem?_eq_some_iff.1 hu).1
          rw [bas_length, List.length_drop] at hj
          rw [bas, List.getElem?_map, List.getElem?_drop, List.getElem?_eq_getElem (by omega)] at hu
          simp only [Option.map_some, Option.some.injEq] at hu
          subst hu
          rw [Addr.add_lit, Nat.add_assoc]
          exact hcell _ _ (List.getElem?_eq_getElem (by omega))
      have t0 := fun u : Since w4 => u.cell (hcell k x HX.out)
      have hkw : IntKind.i64.wrap ((k : Int) + 1) = (k : Int) + 1 := by rw [IntKind.wrap_i64]; omega
      have hkc : k ≤ c := by omega
      have hkl' : k ≤ l.length := by omega
      have hk1c : k + 1 ≤ c := by omega
      have hk1l : k + 1 ≤ l.length := by omega
      have hkI : (k : Int) < (l.length : Int) := by omega
      have hcm2 : c ≤ 9223372036854775807 := by unfold maxLen at hcm; omega
      have HS1 := Lib.hid hS1
      have HBL : Hid (bas L1 = bas (l.take k ++ l.drop (k + 1)) ++ [.string x]) := by show _ = _; rw [← HL1.out, bas_append]; rfl
      clear hS1 hcell HS4 CL CT CP1 CP2 h3
      refine wp_region_pendN w4 (Only.refl _ _) [(76, OwW w4.heap.size 9 1 0 []), (80, OwW w4.heap.size 9 1 k (bas (l.take k))), (85, OwW w4.heap.size 9 1 (l.length - 1) (bas (l.take k ++ l.drop (k + 1)))), (90, OwW w4.heap.size 9 1 1 [.string x]), (91, OwW w4.heap.size 9 1 l.length (bas L1))] [(80, 76), (85, 80), (91, 85)] 16 (by intro p hp; simp at hp; rcases hp with rfl | rfl | rfl | rfl | rfl <;> exact OwW.lasts _ _ _ _ _) (by kernel_rfl) (by kernel_rfl) (by decide) (fun val => ?_)
      simp only [List.take_succ_cons, List.take_zero, List.drop_succ_cons, List.drop_zero]
      refine fit_litO 76 9 1 [] 0 rfl rfl (by simp) (by simp) rfl (by decide) (fun w5 => by go_simp) rfl ?_
      simp only [Act.put, List.setIfInBounds_toArray, List.set_cons_zero, List.set_cons_succ]
      refine fit_segN 3 (by kernel_rfl) ?_
      simp only [List.take_succ_cons, List.take_zero, List.drop_succ_cons, List.drop_zero]
      repeat (go_big_quiet_step (fail))
      refine wpQuiet_nil ?_
      refine fit_append 80 76 (.tmp 79) 53 9 i0 (.string ⟨#[]⟩) 1 16 Try.underlying53 hi0 hz0 hz1 hz2 rfl (by decide) 0 k k [] (bas (l.take k)) (bas (l.take k)) (by omega) rfl rfl rfl rfl (by simp) (by simp) (by simp) (by decide) rfl rfl (fun w5 hw5 => HS1.out.only hw5.1) (by unfold maxLen; omega) (by omega) rfl ?_
      simp only [Act.put, List.setIfInBounds_toArray, List.set_cons_zero, List.set_cons_succ]
      refine fit_segN 4 (by kernel_rfl) ?_
      simp only [List.take_succ_cons, List.take_zero, List.drop_succ_cons, List.drop_zero]
      repeat (go_big_quiet_step (fail))
      refine wpQuiet_nil ?_
      refine fit_append 85 80 (.tmp 84) 53 9 i0 (.string ⟨#[]⟩) 1 16 Try.underlying53 hi0 hz0 hz1 hz2 rfl (by decide) k (l.length - (k + 1)) (l.length - 1) (bas (l.take k)) (bas (l.drop (k + 1))) (bas (l.take k ++ l.drop (k + 1))) (by omega) (bas_append _ _) rfl rfl rfl (by simp) (by simp) (by simp) (by decide) rfl rfl (fun w5 hw5 => hS2.out.only hw5.1) (by unfold maxLen; omega) (by omega) rfl ?_
      simp only [Act.put, List.setIfInBounds_toArray, List.set_cons_zero, List.set_cons_succ]
      refine fit_segN 4 (by kernel_rfl) ?_
      simp only [List.take_succ_cons, List.take_zero, List.drop_succ_cons, List.drop_zero]
      repeat (go_big_quiet_step (fail))
      refine wpQuiet_nil ?_
      refine fit_litO 90 9 1 [.string x] 1 rfl rfl (by simp) (by simp) rfl (by decide) (fun w5 => by go_simp) rfl ?_
      simp only [Act.put, List.setIfInBounds_toArray, List.set_cons_zero, List.set_cons_succ]
      refine fit_append 91 85 (.tmp 90) 53 9 i0 (.string ⟨#[]⟩) 1 16 Try.underlying53 hi0 hz0 hz1 hz2 rfl (by decide) (l.length - 1) 1 l.length (bas (l.take k ++ l.drop (k + 1))) [.string x] (bas L1) (by omega) HBL.out rfl rfl rfl (by simp) (by simp) (by simp) (by decide) rfl rfl (fun w5 hw5 => SrcA.own (hw5.2 (90, OwW w4.heap.size 9 1 1 [.string x]) (by simp) (by show 90 ∈ Oper.looksAt _ _; decide)) (by simp [Value.oneCell'])) (by unfold maxLen; omega) (by omega) rfl ?_
      simp only [Act.put, List.setIfInBounds_toArray, List.set_cons_zero, List.set_cons_succ]
      intro w5 ho5 hV5
      have hown5 : w5.ownsRow w4.heap.size 9 1 (val 91) l.length (bas L1) := hV5 (by simp) (91, OwW w4.heap.size 9 1 l.length (bas L1)) (by simp) (by simp)
      obtain ⟨u, hu⟩ : ∃ u, val 91 = u := ⟨_, rfl⟩
      rw [hu] at hown5 ⊢
      obtain ⟨A5, c5, rfl⟩ := (SlAt.of_own hown5).shape
      have h5 : Hid (NetAt W w5 b ⟨(L1 ++ [y]).map mkLt, [], 0⟩) := h4.out.keep ho5
      have hWB4 : W.heap.size ≤ w4.heap.size := h4.out.only.size
      have HO5 := Lib.hid hown5
      clear hV5 hown5 hu t0 hA2 hkw h4 hS2 HS1
      obtain ⟨g5, hA5, q5⟩ := row_ba hL1l.symm HO5.out HY.out
      subst hA5
      have hmI : (m : Int) < (l.length : Int) := by omega
      have hbw5 : w4.heap.size ≤ w5.heap.size := ho5.size
      have HYc : Hid (bas (L1 ++ [y]) = bas L1 ++ [.string y]) := bas_append _ _
      go_wp2_with (at_builtin
                   refine wpList_app rfl _ _ 53 rfl w4.heap.size 9 i0 _ 1 16 Try.underlying53 hi0 hz0 hz1 hz2 rfl (by decide) w5 (.slice (some ⟨g5, 0, none⟩) l.length c5) l.length (bas L1) rfl HO5.out 1 1 [.string y] rfl rfl (by simp [Value.oneCell']) (by simp only [maxLen]; omega) (by omega) hbw5 ?_
                   intro v9 w9 hown9 hgrow _)
      obtain ⟨A9, c9, rfl⟩ := (SlAt.of_own hown9).shape
      have h9 : Hid (NetAt W w9 b ⟨(L1 ++ [y]).map mkLt, [], 0⟩) := h5.out.growS HO5.out hgrow hWB4
      have HO9 := Lib.hid hown9
      rw [← HYc.out] at HO9
      have hwl : (L1 ++ [y]).length = l.length + 1 := by rw [List.length_append, hL1l]; rfl
      clear h5 HO5 hown9 hgrow HBL HL1 HX HS
      go_wp2_with fail
      obtain ⟨Q, hQ⟩ : ∃ Q, L1 ++ [y] = Q := ⟨_, rfl⟩
      rw [hQ] at HO9 h9 hwl
      clear HYc hQ
      go_loopw [13] (fun i wr => ∃ t : Nat, t ≤ l.length + 1 ∧ i = .int .i64 t ∧ Hid (NetAt W wr b ⟨(Q.drop t).map mkLt, [], 0⟩) ∧ Hid (wr.ownsRow w4.heap.size 9 1 (.slice A9 (l.length + 1) c9) (l.length + 1) (bas Q))) (fun i _ => l.length + 1 - (intOf i).toNat)
      case atStart => exact ⟨0, by omega, rfl, h9, HO9⟩
      case round =>
        obtain ⟨t, ht, rfl, hN, hR⟩ := hrel
        by_cases htl : t < l.length + 1
        · have htl' : (t : Int) < (l.length : Int) + 1 := by omega
          have htlen : t < Q.length := by omega
          have hqx := List.getElem?_eq_getElem htlen
          have hdr := List.drop_eq_getElem_cons htlen
          obtain ⟨q, hq⟩ : ∃ q, Q[t] = q := ⟨_, rfl⟩
          rw [hq] at hqx hdr
          have CT := Lib.hid (na_takeR (s' := ⟨(Q.drop (t + 1)).map mkLt, [], 0⟩) (x := mkLt q) (ok := true) hN 0 (by rw [hdr]; exact take_mk q _) hR)
          have HQ := Lib.hid hqx
          clear hqx hdr hq hN hR h9 HO9
          go_wp2_with fail
          refine CT.out.mono ?_
          rintro e w11 ⟨rfl, h11, hR11⟩
          have hoX : Only [] w11 (w11.alloc (.cells #[.int .i64 (mkLt q).fr, .int .i64 (mkLt q).to, .string (mkLt q).d] 37)) := (Only.refl _ _).alloc _
          have hXB := Cells.new w11 37 [.int .i64 (mkLt q).fr, .int .i64 (mkLt q).to, .string (mkLt q).d]
          have h12 : Hid (NetAt W (w11.alloc (.cells #[.int .i64 (mkLt q).fr, .int .i64 (mkLt q).to, .string (mkLt q).d] 37)) b ⟨(Q.drop (t + 1)).map mkLt, [], 0⟩) := h11.out.keep hoX
          have hR12 := own_only hR11.out hoX (by simp)
          obtain ⟨g9, hA9, q9⟩ := row_ba hwl.symm hR12 HQ.out
          subst hA9
          have HR12 := Lib.hid hR12
          have z0 := fun u : Since (w11.alloc (.cells #[.int .i64 (mkLt q).fr, .int .i64 (mkLt q).to, .string (mkLt q).d] 37)) => u.cell (hXB.cell (k := 0) rfl)
          have z1 := fun u : Since (w11.alloc (.cells #[.int .i64 (mkLt q).fr, .int .i64 (mkLt q).to, .string (mkLt q).d] 37)) => u.cell (hXB.cell (k := 1) rfl)
          have z2 := fun u : Since (w11.alloc (.cells #[.int .i64 (mkLt q).fr, .int .i64 (mkLt q).to, .string (mkLt q).d] 37)) => u.cell (hXB.cell (k := 2) rfl)
          have z3 := fun u : Since (w11.alloc (.cells #[.int .i64 (mkLt q).fr, .int .i64 (mkLt q).to, .string (mkLt q).d] 37)) => u.cell q9
          unfold mkLt at z0 z1 z2 z3
          dsimp only at z0 z1 z2 z3
          clear hXB hR12 hR11 h11 q9 hoX CT
          unfold mkLt
          go_wp2_with fail
          refine wp_region_only (w11.alloc (.cells #[.int .i64 1, .int .i64 2, .string q] 37)) (Only.refl _ _) (by kernel_rfl) (by kernel_rfl) ?_
          repeat (go_big_quiet_step (fail))
          refine wpQuiet_nil ?_
          rintro ⟨w13, ho13⟩
          dsimp only
          clear z0 z1 z2 z3
          go_wp2_with fail
          go_roundw
          case rel => exact ⟨t + 1, by omega, by go_num, h12.out.keep ho13, own_only HR12.out ho13 (by simp)⟩
          case measure => simp [intOf]; omega
        · obtain rfl : t = l.length + 1 := by omega
          have htl' : decide ((l.length : Int) + 1 < (l.length : Int) + 1) = false := by simp
          have hdr : Q.drop (l.length + 1) = [] := List.drop_eq_nil_of_le (by omega)
          rw [hdr] at hN
          have CT := Lib.hid (na_takeE (s' := ⟨[], [], 0⟩) (x := Lt.zero) (ok := false) hN 0 rfl)
          clear hdr
          go_wp2_with fail
          refine CT.out.mono ?_
          rintro e w11 ⟨rfl, h11⟩
          go_wp2_with fail
          refine (na_lost (h11.out.keep ((Only.refl _ _).alloc _))).mono ?_
          rintro e w12 ⟨rfl, rfl⟩
          go_wp2_with fail
          go_ret
          exact ⟨rfl, h11.out.only.alloc _⟩
end Go.Proofs.Ytllapfpakoobcaa
