/-
  What StoreReads leans on, part 3: contracts of the functions that it reaches, and plain facts; each theorem bears its own conditions.
-/
import Derived.Maps.OwnSet
import Derived.Maps.Ext
import Derived.Sort.KeysCollected
import Derived.Test.YtjfnkjpnjiobjaaGreatRows
import Derived.Test.YtjfnkjpnjiobjaaGreatStoreReadsB
namespace Go.Proofs.YtjfnkjpnjiobjaaGreat
open Go.RowKit
def Keeps (b : Nat) (w w' : World) : Prop := ∀ (k : Nat) (t : TypeId) (cs : List Value), k ≠ b → t ≠ 5 → Cells w k t cs → Cells w' k t cs
theorem Keeps.refl (b : Nat) (w : World) : Keeps b w w := fun _ _ _ _ _ h => h
theorem Keeps.trans {b : Nat} {w w' w2 : World} (h : Keeps b w w') (k : Keeps b w' w2) : Keeps b w w2 := fun i t cs hi ht hC => k i t cs hi ht (h i t cs hi ht hC)
theorem Keeps.set {b : Nat} {w w' : World} (h : Keeps b w w') (i : Nat) (u : Value) : Keeps b w (w'.setCell ⟨b, i, none⟩ u) := fun k t cs hk ht hC => (h k t cs hk ht hC).far hk u
theorem holds_builder : Holds 101 := ⟨by kernel_rfl, by decide⟩
theorem SlAt.cells {w : World} {b n sz : Nat} {t : TypeId} {cs : List Value} (hC : Cells w b t cs) (hl : cs.length = n * sz) (hn : n ≤ maxLen) : SlAt w w.heap.size (.slice (some ⟨b, 0, none⟩) n n) sz n cs :=
  ⟨hl, _, _, rfl, Nat.le_refl _, hn, fun _ => ⟨b, 0, rfl, hC.lt, fun j u hu => by rw [Nat.zero_add]; exact hC.cell hu⟩⟩
theorem Cells.new' {w : World} {b : Nat} (h : w.heap.size = b) (t : TypeId) (cs : List Value) : Cells (w.alloc (.cells cs.toArray t)) b t cs := by subst h; exact Cells.new w t cs
theorem Bld.only {T : TypeId} {B b : Nat} {p : Value} {l : List UInt8} {w w' : World} (h : Bld T B b p l w) (ho : Only [] w w') : Bld T B b p l w' := by
  obtain ⟨hB, v, hc, hown, hn⟩ := h
  exact ⟨hB, v, hc.only ho (by simp), own_only hown ho (by simp), hn⟩
theorem IsBld.only {T : TypeId} {B b : Nat} {l : List UInt8} {w w' : World} (h : IsBld T B b l w) (ho : Only [] w w') : IsBld T B b l w' := h.imp (fun h => h.only ho) (fun h => h.only ho)
theorem Only.past_below {z : Nat} {a w w' : World} (h : Only [] a w) (hz : a.heap.size = z) (k : Below z w w') : Only [] a w' := by subst hz; exact Only.of_below (h.below.trans k)
theorem ba_list (s : ByteArray) : (⟨s.data.toList.toArray⟩ : ByteArray) = s := by cases s; simp
theorem copyCheck_k (T : TypeId) (hT : Holds T) (B b : Nat) (l : List UInt8) (w : World) (h : IsBld T B b l w) :
    Calls Tryz.prog 70 #[.pointer (some ⟨b, 0, none⟩)] w fun e w' => e = .returned (.tuple #[]) ∧ Bld T B b (.pointer (some ⟨b, 0, none⟩)) l w' ∧ Below B w w' ∧ w.heap.size = w'.heap.size ∧ Keeps b w w' := by
  rcases h with ⟨hB, v, hc, hown, hnil⟩ | ⟨hB, v, hc, hown, hnil⟩
  · refine (copyCheck_fresh T hT b w (hc.cell rfl) ?_ (hc.frozen 0)).mono ?_
    · unfold Cells at hc; simp [World.shape?, hc]
    · rintro e w' ⟨rfl, rfl⟩
      refine ⟨rfl, ⟨hB, v, hc.set 0 _, ?_, hnil⟩, (Below.refl B w).setCell (p := ⟨b, 0, none⟩) hB _, by simp [World.setCell], (Keeps.refl b w).set 0 _⟩
      exact ownsRow_setCell_other hown (own_ne_block hown hc hT.ne) _
  · refine (copyCheck_used b w (hc.cell rfl)).mono ?_
    rintro e w' ⟨rfl, rfl⟩
    exact ⟨rfl, ⟨hB, v, hc, hown, hnil⟩, Below.refl B w, rfl, Keeps.refl b w⟩

set_option maxHeartbeats 1000000 in
set_option maxRecDepth 100000 in
theorem writeString_k (T : TypeId) (hT : Holds T) (B b : Nat) (l s : List UInt8) (w : World) (h : IsBld T B b l w) (hlen : l.length + s.length ≤ 140737488355328) (hBw : B ≤ w.heap.size) :
    Calls Tryz.prog 50 #[.pointer (some ⟨b, 0, none⟩), .string ⟨s.toArray⟩] w fun e w' => e = .returned (.tuple #[.int .i64 s.length, .nilIface]) ∧ Bld T B b (.pointer (some ⟨b, 0, none⟩)) (l ++ s) w' ∧ Below B w w' ∧ Keeps b w w' := by
  obtain ⟨i0, hi, hz0, hz1, hz2⟩ := info_parts info_byte
  have HC := Lib.hid (copyCheck_k T hT B b l w h)
  have hbl := bytes_length l
  have HBL := Lib.hid hbl
  clear h hbl
  go_enter Tryz.func50, Tryz.ntmps50
  go_wp2_with fail
  refine HC.out.mono ?_
  rintro e w1 ⟨rfl, ⟨hB, v, hc, hown, hnil⟩, hb1, hsz, hk1⟩
  have HK1 := Lib.hid hk1
  clear hk1
  have hsz1 : B ≤ w1.heap.size := Nat.le_trans hBw hb1.size
  have c1 := hc.cell (k := 1) rfl
  have hlt := hc.lt
  have H := Lib.hid hc
  have hne := own_ne_block hown hc hT.ne
  clear hc hsz
  go_wp2_with (at_builtin; refine Lib.wpList_append_own_string w1 rfl _ _ 36 9 rfl B 5 i0 Tryz.underlying36 Tryz.underlying9 hi hz0 hz1 hz2 v l.length (bytes l) rfl hown ⟨s.toArray⟩ rfl (by rw [str_size]; unfold maxLen; omega) (by rw [str_size]; omega) hsz1 ?_)
  rw [strCells_bytes]
  intro v' w2 hown' hgrow hnil'
  obtain ⟨A', cap', hv⟩ : ∃ A cap, v' = .slice A (l.length + s.length) cap := by
    rcases hown'.2 with ⟨hv, h0⟩ | ⟨g, cap, cur, hv, _⟩
    · exact ⟨none, 0, by rw [hv, h0]⟩
    · exact ⟨_, cap, hv⟩
  subst hv
  have hc2 := H.out.grown hgrow hne
  have HK2 : Hid (Keeps b w w2) := HK1.out.trans fun k t cs hk ht hC => hC.grown hgrow (own_ne_block hown hC ht.symm)
  have d1 := hc2.cell (k := 1) rfl
  have f1 := hc2.frozen 1
  have hlt2 := hc2.lt
  have H2 := Lib.hid hc2
  clear hc2
  go_wp2
  go_ret2
  refine ⟨rfl, ⟨hB, _, H2.out.set 1 _, ?_, fun h => hnil'.2 ?_⟩, (hb1.grown hgrow hsz1 (fun k hk => (hown.lt k hk).1)).setCell (p := ⟨b, 1, none⟩) hB _, HK2.out.set 1 _⟩
  · have := ownsRow_setCell_other hown' (a := ⟨b, 1, none⟩) (own_ne_block hown' H2.out hT.ne) (.slice A' (l.length + s.length) cap')
    rw [List.length_append, bytes_append]
    exact this
  · obtain ⟨rfl, rfl⟩ := List.append_eq_nil_iff.1 h
    exact ⟨hnil rfl, rfl⟩

end Go.Proofs.YtjfnkjpnjiobjaaGreat
namespace Go.Proofs.YtjfnkjpnjiobjaaGreat
open Go.RowKit
structure It where
  id : List UInt8
  ti : List UInt8
  li : List UInt8
def It.cells (x : It) : List Value := [.string ⟨x.id.toArray⟩, .string ⟨x.ti.toArray⟩, .string ⟨x.li.toArray⟩]
structure It.Len (x : It) : Prop where
  id : x.id.length ≤ maxLen
  ti : x.ti.length ≤ maxLen
  li : x.li.length ≤ maxLen
def bad1 (s : List UInt8) : Bool := decide (200 < s.length) || !(sq s == s)
def itR (x : It) : Bool := !x.id.isEmpty && !([x.id, x.ti, x.li].any bad1)
set_option maxRecDepth 100000 in
theorem right1 (s : List UInt8) (w : World) (hs : s.length ≤ maxLen) : Calls Tryz.prog 57 #[.string ⟨s.toArray⟩] w fun e w' => e = .returned (.bool (bad1 s)) ∧ Only [] w w' := by
  unfold maxLen at hs
  by_cases h : 200 < s.length
  · have d1 : decide ((200 : Int) < (s.length : Int)) = true := by simp; omega
    have hb : bad1 s = true := by unfold bad1; rw [decide_eq_true h]; rfl
    go_enter Tryz.func57, Tryz.ntmps57
    go_wp2_with fail
    go_ret
    exact ⟨by rw [hb]; rfl, Only.refl _ _⟩
  · have d1 : decide ((200 : Int) < (s.length : Int)) = false := by simp; omega
    have hb : bad1 s = !(sq s == s) := by unfold bad1; rw [decide_eq_false h]; rfl
    have C := Lib.hid (fun w' => tree_squeeze s w' (by omega))
    obtain ⟨q, hq⟩ : ∃ q, sq s = q := ⟨_, rfl⟩
    rw [hq] at hb C
    have HB := Lib.hid hb
    clear hb hq
    go_enter Tryz.func57, Tryz.ntmps57
    go_wp2_with fail
    refine (C.out _).mono ?_
    rintro e w1 ⟨rfl, ho⟩
    go_wp2_with fail
    go_ret
    exact ⟨by rw [HB.out]; rfl, ho⟩
set_option maxRecDepth 100000 in
set_option maxHeartbeats 1000000 in
theorem indexFunc_str (v : Value) (l : List (List UInt8)) (w : World) (hs : SlAt w w.heap.size v 1 l.length (svs l)) (hl : l.length ≤ 1000000) (hx : ∀ x ∈ l, x.length ≤ maxLen) :
    Calls Tryz.prog 75 #[v, .func (.func 57) #[] #[]] w fun e w' => (∃ i : Int, e = .returned (.int .i64 i) ∧ (decide (0 ≤ i) = l.any bad1)) ∧ Only [] w w' := by
  obtain ⟨A, c, rfl⟩ := hs.shape
  have HS := Lib.hid hs
  have HX := Lib.hid hx
  clear hs hx
  go_enter Tryz.func75, Tryz.ntmps75
  go_wp2_with fail
  go_loopw [8] (fun i wr => ∃ k : Nat, k ≤ l.length ∧ i = .int .i64 k ∧ Hid ((l.take k).any bad1 = false) ∧ Only [] w wr) (fun i _ => l.length - (intOf i).toNat)
  case atStart => exact ⟨0, by omega, rfl, Lib.hid rfl, Only.refl _ _⟩
  case round =>
    obtain ⟨k, hk, rfl, hno, ho⟩ := hrel
    by_cases hlt : k < l.length
    · have hlt' : (k : Int) < (l.length : Int) := by omega
      have hk1 := List.getElem?_eq_getElem hlt
      obtain ⟨x, hx⟩ : ∃ x, l[k] = x := ⟨_, rfl⟩
      have hxl := HX.out l[k] (List.getElem_mem _)
      rw [hx] at hk1 hxl
      obtain ⟨ab, ao, ac, hv, hab, hc⟩ := (HS.out.only ho (Nat.le_refl _) (by simp)).at_ (by omega)
      have q0 : wr.cell? ⟨ab, ao + k, none⟩ = some (.string ⟨x.toArray⟩) := hc k _ (by unfold svs; rw [List.getElem?_map, hk1]; rfl)
      have F1 := Lib.hid (right1 x wr hxl)
      have HT : Hid ((l.take (k + 1)).any bad1 = bad1 x) := by show _ = _; rw [List.take_add_one, hk1, List.any_append, hno.out]; simp
      have HA : Hid (bad1 x = true → l.any bad1 = true) := fun h => List.any_eq_true.2 ⟨x, List.mem_of_getElem? hk1, h⟩
      injection hv with e1 e2 e3
      subst e1; subst e3
      clear e2 hc hx hk1 hno
      cases hb : bad1 x with
      | true =>
        rw [hb] at F1 HA
        have HR := HA.out rfl
        clear HT hb HA
        go_wp2_with (go_at_call 57; refine F1.out.mono ?_; rintro e w1 ⟨rfl, ho1⟩)
        go_ret
        exact ⟨⟨k, rfl, by rw [HR]; simp⟩, ho.tr0 ho1⟩
      | false =>
        rw [hb] at F1 HT
        clear hb HA
        go_wp2_with (go_at_call 57; refine F1.out.mono ?_; rintro e w1 ⟨rfl, ho1⟩)
        go_roundw
        case rel => exact ⟨k + 1, by omega, by go_num, HT, ho.tr0 ho1⟩
        case measure => simp [intOf]; omega
    · have hd0 : decide ((k : Int) < (l.length : Int)) = false := by simp; omega
      have HF : l.any bad1 = false := by have := hno.out; rwa [List.take_of_length_le (by omega)] at this
      clear hno
      go_wp2_with fail
      go_ret
      exact ⟨⟨-1, rfl, by rw [HF]; simp⟩, ho⟩
set_option maxRecDepth 100000 in
theorem containsFunc_str (v : Value) (l : List (List UInt8)) (w : World) (hs : SlAt w w.heap.size v 1 l.length (svs l)) (hl : l.length ≤ 1000000) (hx : ∀ x ∈ l, x.length ≤ maxLen) :
    Calls Tryz.prog 56 #[v, .func (.func 57) #[] #[]] w fun e w' => e = .returned (.bool (l.any bad1)) ∧ Only [] w w' := by
  have C := Lib.hid (indexFunc_str v l w hs hl hx)
  obtain ⟨A, c, rfl⟩ := hs.shape
  clear hs hx
  go_enter Tryz.func56, Tryz.ntmps56
  go_wp2_with fail
  refine C.out.mono ?_
  rintro e w1 ⟨⟨i, rfl, hi⟩, ho⟩
  have HI := Lib.hid hi
  clear hi
  go_wp2_with fail
  go_ret
  exact ⟨by rw [← HI.out]; rfl, ho⟩
def It.list (x : It) : List (List UInt8) := [x.id, x.ti, x.li]
theorem It.Len.all {x : It} (h : x.Len) : ∀ s ∈ x.list, s.length ≤ maxLen := by
  intro s hs
  simp only [It.list, List.mem_cons, List.not_mem_nil, or_false] at hs
  rcases hs with rfl | rfl | rfl
  · exact h.id
  · exact h.ti
  · exact h.li
theorem contains_it (x : It) (hx : x.Len) (W : World) (b' : Nat) (hC : Cells W b' 9 (svs x.list)) :
    Calls Tryz.prog 56 #[.slice (some ⟨b', 0, none⟩) 3 3, .func (.func 57) #[] #[]] W fun e w' => e = .returned (.bool (x.list.any bad1)) ∧ Only [] W w' :=
  containsFunc_str _ x.list W (SlAt.cells (n := 3) (sz := 1) hC rfl (by unfold maxLen; omega)) (by simp [It.list]) hx.all
set_option maxRecDepth 100000 in
set_option maxHeartbeats 1000000 in
theorem feed_right (x : It) (hx : x.Len) (w : World) :
    Calls Tryz.prog 36 #[.agg #[.string ⟨x.id.toArray⟩, .string ⟨x.ti.toArray⟩, .string ⟨x.li.toArray⟩]] w fun e w' => e = .returned (.bool (itR x)) ∧ Only [] w w' := by
  by_cases h0 : x.id = []
  · have hr : itR x = false := by unfold itR; rw [h0]; rfl
    have h1 : x.id.isEmpty = true := by rw [h0]; rfl
    go_enter Tryz.func36, Tryz.ntmps36
    go_wp2_with fail
    go_ret
    exact ⟨by rw [hr]; rfl, (Only.refl _ _).alloc _⟩
  · have h1 : x.id.isEmpty = false := by simpa using h0
    have hr : itR x = !(x.list.any bad1) := by unfold itR; rw [h1]; rfl
    obtain ⟨z, hz⟩ : ∃ z, x.list.any bad1 = z := ⟨_, rfl⟩
    obtain ⟨w1, hw1⟩ : ∃ w1, w.alloc (.cells #[.string ⟨x.id.toArray⟩, .string ⟨x.ti.toArray⟩, .string ⟨x.li.toArray⟩] 45) = w1 := ⟨_, rfl⟩
    obtain ⟨zb, hzb⟩ : ∃ zb, w.heap.size = zb := ⟨_, rfl⟩
    have a1 : Cells w1 zb 45 x.cells := hw1 ▸ hzb ▸ Cells.new w _ _
    obtain ⟨w2, hw2⟩ : ∃ w2, w1.alloc (.cells #[.string ⟨x.id.toArray⟩, .string ⟨x.ti.toArray⟩, .string ⟨x.li.toArray⟩] 9) = w2 := ⟨_, rfl⟩
    obtain ⟨y, hy⟩ : ∃ y, w1.heap.size = y := ⟨_, rfl⟩
    have a2 : Cells w2 y 9 (svs x.list) := hw2 ▸ hy ▸ Cells.new w1 _ _
    have b1 : Cells w2 zb 45 x.cells := hw2 ▸ a1.alloc _
    have O2 : Only [] w w2 := hw2 ▸ (hw1 ▸ (Only.refl _ _).alloc _).alloc _
    have C := Lib.hid (contains_it x hx w2 y a2)
    rw [hz] at hr C
    have HR := Lib.hid hr
    have HO2 := Lib.hid O2
    have r0 := a1.cell (k := 0) rfl
    have r1 := a1.cell (k := 1) rfl
    have r2 := a1.cell (k := 2) rfl
    clear hr hz h0 a1 a2 b1 O2
    go_enter Tryz.func36, Tryz.ntmps36
    go_wp2_with fail
    refine C.out.mono ?_
    rintro e w3 ⟨rfl, ho⟩
    have HO := Lib.hid (HO2.out.tr ho)
    clear ho C hw1 hw2 hy hzb r0 r1 r2
    go_wp2_with fail
    go_ret
    exact ⟨by rw [HR.out]; rfl, HO.out⟩
set_option maxRecDepth 100000 in
set_option maxHeartbeats 2000000 in
theorem ref13_right (x : It) (hx : x.Len) (w : World) :
    Calls Tryz.prog 43 #[.agg #[.string ⟨x.id.toArray⟩, .string ⟨x.ti.toArray⟩, .string ⟨x.li.toArray⟩]] w fun e w' => e = .returned (.bool (itR x)) ∧ Only [] w w' := by
  obtain ⟨w1, hw1⟩ : ∃ w1, w.alloc (.cells #[.string ⟨x.id.toArray⟩, .string ⟨x.ti.toArray⟩, .string ⟨x.li.toArray⟩] 45) = w1 := ⟨_, rfl⟩
  obtain ⟨z, hz⟩ : ∃ z, w.heap.size = z := ⟨_, rfl⟩
  have a1 : Cells w1 z 45 x.cells := hw1 ▸ hz ▸ Cells.new w _ _
  obtain ⟨w2, hw2⟩ : ∃ w2, w1.alloc (.cells #[.string ⟨x.id.toArray⟩, .string ⟨x.ti.toArray⟩, .string ⟨x.li.toArray⟩] 9) = w2 := ⟨_, rfl⟩
  obtain ⟨y, hy⟩ : ∃ y, w1.heap.size = y := ⟨_, rfl⟩
  have a2 : Cells w2 y 9 (svs x.list) := hw2 ▸ hy ▸ Cells.new w1 _ _
  have b1 : Cells w2 z 45 x.cells := hw2 ▸ a1.alloc _
  have O2 : Only [] w w2 := hw2 ▸ (hw1 ▸ (Only.refl _ _).alloc _).alloc _
  have HL := Lib.hid a2
  have HX := Lib.hid hx.all
  have HI := Lib.hid (b1.cell (k := 0) rfl)
  have HO := Lib.hid O2
  have HZ := Lib.hid b1.lt
  have r0 := a1.cell (k := 0) rfl
  have r1 := a1.cell (k := 1) rfl
  have r2 := a1.cell (k := 2) rfl
  clear a1 a2 b1 O2
  go_enter Tryz.func43, Tryz.ntmps43
  go_wp2_with fail
  clear hw1 hw2 hz hy r0 r1 r2
  go_loopw [4] (fun i wr => ∃ k : Nat, k ≤ 3 ∧ i = .int .i64 k ∧ Hid ((x.list.take k).any bad1 = false) ∧ Only [] w2 wr) (fun i _ => 3 - (intOf i).toNat)
  case atStart => exact ⟨0, by omega, rfl, Lib.hid rfl, Only.refl _ _⟩
  case round =>
    obtain ⟨k, hk, rfl, hno, ho⟩ := hrel
    by_cases hlt : k < 3
    · have hlt' : decide ((k : Int) < 3) = true := by simp; omega
      have hkl : k < x.list.length := by simpa [It.list] using hlt
      have hk1 := List.getElem?_eq_getElem hkl
      obtain ⟨s, hs⟩ : ∃ s, x.list[k] = s := ⟨_, rfl⟩
      have hsl := HX.out x.list[k] (List.getElem_mem _)
      rw [hs] at hk1 hsl
      unfold maxLen at hsl
      have q0 : wr.cell? ⟨y, k, none⟩ = some (.string ⟨s.toArray⟩) := (HL.out.only ho (by simp)).cell (by unfold svs; rw [List.getElem?_map, hk1]; rfl)
      have HT : Hid ((x.list.take (k + 1)).any bad1 = bad1 s) := by show _ = _; rw [List.take_add_one, hk1, List.any_append, hno.out]; simp
      have HA : Hid (bad1 s = true → itR x = false) := fun h => by
        have : x.list.any bad1 = true := List.any_eq_true.2 ⟨s, List.mem_of_getElem? hk1, h⟩
        unfold itR
        rw [show [x.id, x.ti, x.li].any bad1 = true from this]; simp
      clear hs hk1 hno
      have t0 := fun u : Since wr => u.cell q0
      by_cases h2 : 200 < s.length
      · have d1 : decide ((200 : Int) < (s.length : Int)) = true := by simp; omega
        have hb : bad1 s = true := by unfold bad1; rw [decide_eq_true h2]; rfl
        have HR := HA.out hb
        clear hb HA HT q0
        go_wp2_with fail
        refine wp_region_only wr (Only.refl _ _) (by kernel_rfl) (by kernel_rfl) ?_
        repeat (go_big_quiet_step (fail))
        refine wpQuiet_nil ?_
        rintro ⟨w9, ho9⟩
        dsimp only
        have HO9 := Lib.hid ((HO.out.tr ho).tr ho9)
        go_wp2_with fail
        go_ret
        exact ⟨by rw [HR]; rfl, HO9.out⟩
      · have d1 : decide ((200 : Int) < (s.length : Int)) = false := by simp; omega
        have C := Lib.hid (fun u : Since wr => ref12_squeeze s u.w (by omega))
        have hbs : bad1 s = !(sq s == s) := by unfold bad1; rw [decide_eq_false h2]; rfl
        obtain ⟨q, hq⟩ : ∃ q, sq s = q := ⟨_, rfl⟩
        rw [hq] at C hbs
        clear hq q0
        cases hb : (q == s) with
        | true =>
          have hb1 : bad1 s = false := by rw [hbs, hb]; rfl
          rw [hb1] at HT
          clear hb1 HA hbs
          go_wp2_with fail
          refine wp_region_only wr (Only.refl _ _) (by kernel_rfl) (by kernel_rfl) ?_
          repeat (go_big_quiet_step (first | (go_at_call 59; refine Calls.only (C.out _))))
          refine wpQuiet_nil ?_
          rintro ⟨w9, ho9⟩
          dsimp only
          have ho9' := ho.tr ho9
          go_wp2_with fail
          go_roundw
          case rel => exact ⟨k + 1, by omega, by go_num, HT, ho9'⟩
          case measure => simp [intOf]; omega
        | false =>
          have hb1 : bad1 s = true := by rw [hbs, hb]; rfl
          have HR := HA.out hb1
          clear hb1 HA hbs HT
          go_wp2_with fail
          refine wp_region_only wr (Only.refl _ _) (by kernel_rfl) (by kernel_rfl) ?_
          repeat (go_big_quiet_step (first | (go_at_call 59; refine Calls.only (C.out _))))
          refine wpQuiet_nil ?_
          rintro ⟨w9, ho9⟩
          dsimp only
          have HO9 := Lib.hid ((HO.out.tr ho).tr ho9)
          go_wp2_with fail
          go_ret
          exact ⟨by rw [HR]; rfl, HO9.out⟩
    · have hlt' : decide ((k : Int) < 3) = false := by simp; omega
      have HR : Hid (itR x = !x.id.isEmpty) := by
        show _ = _
        have := hno.out
        rw [List.take_of_length_le (by simp [It.list]; omega)] at this
        unfold itR
        rw [show [x.id, x.ti, x.li].any bad1 = false from this]; simp
      have q1 : wr.cell? ⟨z, 0, none⟩ = some (.string ⟨x.id.toArray⟩) := (ho.cell (p := ⟨z, 0, none⟩) HZ.out (by simp)).trans HI.out
      have HO9 := Lib.hid (HO.out.tr ho)
      clear hno
      go_wp2_with fail
      go_ret
      exact ⟨by rw [HR.out]; rfl, HO9.out⟩
end Go.Proofs.YtjfnkjpnjiobjaaGreat
namespace Go.Proofs.YtjfnkjpnjiobjaaGreat
open Go.RowKit
structure Po where
  sq : Int
  it : It
  rd : Bool
def Po.cells (x : Po) : List Value := [.int .i64 x.sq, .string ⟨x.it.id.toArray⟩, .string ⟨x.it.ti.toArray⟩, .string ⟨x.it.li.toArray⟩, .bool x.rd]
def poL (l : List Po) : List Value := l.flatMap Po.cells
theorem poL_length (l : List Po) : (poL l).length = l.length * 5 := by
  induction l with
  | nil => rfl
  | cons x r ih => simp [poL, List.flatMap_cons, Po.cells] at ih ⊢; omega
theorem poL_append (l r : List Po) : poL (l ++ r) = poL l ++ poL r := by unfold poL; rw [List.flatMap_append]
theorem poL_get (l : List Po) (i j : Nat) (x : Po) (h : l[i]? = some x) (hj : j < 5) : (poL l)[i * 5 + j]? = x.cells[j]? := flat_get Po.cells 5 (fun _ => rfl) l i j x h hj
theorem poL_one (l : List Po) : ∀ u ∈ poL l, u.oneCell' = true := by
  intro u hu
  obtain ⟨x, _, hx⟩ := List.mem_flatMap.1 hu
  simp only [Po.cells, List.mem_cons, List.not_mem_nil, or_false] at hx
  rcases hx with rfl | rfl | rfl | rfl | rfl <;> rfl
theorem info_post : (Tryz.prog.info? 52).map (fun i => (i.zero, i.size, i.bytes)) = some (some (.agg #[.int .i64 0, .string ⟨#[]⟩, .string ⟨#[]⟩, .string ⟨#[]⟩, .bool false]), 5, 64) := by kernel_rfl
def itL (l : List It) : List Value := l.flatMap It.cells
theorem itL_get (l : List It) (i j : Nat) (x : It) (h : l[i]? = some x) (hj : j < 3) : (itL l)[i * 3 + j]? = x.cells[j]? := flat_get It.cells 3 (fun _ => rfl) l i j x h hj
theorem itL_at {w : World} {B : Nat} {v : Value} {l : List It} (h : SlAt w B v 3 l.length (itL l)) {k : Nat} {x : It} (hk : l[k]? = some x) :
    ∃ b o c, v = .slice (some ⟨b, o, none⟩) l.length c ∧ w.cell? ⟨b, o + k * 3, none⟩ = some (.string ⟨x.id.toArray⟩) ∧ w.cell? ⟨b, o + k * 3 + 1, none⟩ = some (.string ⟨x.ti.toArray⟩) ∧ w.cell? ⟨b, o + k * 3 + 2, none⟩ = some (.string ⟨x.li.toArray⟩) := by
  have hlt : k < l.length := (List.getElem?_eq_some_iff.1 hk).1
  obtain ⟨b, o, c, hv, _, hc⟩ := h.at_ (by omega)
  exact ⟨b, o, c, hv, hc (k * 3 + 0) _ (itL_get l k 0 x hk (by omega)), hc (k * 3 + 1) _ (itL_get l k 1 x hk (by omega)), hc (k * 3 + 2) _ (itL_get l k 2 x hk (by omega))⟩
theorem sl_len {w : World} {B sz n : Nat} {v : Value} {xs : List Value} (h : SlAt w B v sz n xs) : n ≤ maxLen := by
  obtain ⟨_, _, _, _, h1, h2, _⟩ := h
  omega
theorem poL_at {w : World} {B n : Nat} {v : Value} {l : List Po} (h : SlAt w B v 5 n (poL l)) (hn : l.length = n) {k : Nat} {x : Po} (hk : l[k]? = some x) :
    ∃ b o c, v = .slice (some ⟨b, o, none⟩) n c ∧ w.cell? ⟨b, o + k * 5, none⟩ = some (.int .i64 x.sq) ∧ w.cell? ⟨b, o + k * 5 + 1, none⟩ = some (.string ⟨x.it.id.toArray⟩) ∧ w.cell? ⟨b, o + k * 5 + 2, none⟩ = some (.string ⟨x.it.ti.toArray⟩) ∧ w.cell? ⟨b, o + k * 5 + 3, none⟩ = some (.string ⟨x.it.li.toArray⟩) ∧ w.cell? ⟨b, o + k * 5 + 4, none⟩ = some (.bool x.rd) := by
  have hlt : k < l.length := (List.getElem?_eq_some_iff.1 hk).1
  subst hn
  obtain ⟨b, o, c, hv, _, hc⟩ := h.at_ (by omega)
  exact ⟨b, o, c, hv, hc (k * 5 + 0) _ (poL_get l k 0 x hk (by omega)), hc (k * 5 + 1) _ (poL_get l k 1 x hk (by omega)), hc (k * 5 + 2) _ (poL_get l k 2 x hk (by omega)), hc (k * 5 + 3) _ (poL_get l k 3 x hk (by omega)), hc (k * 5 + 4) _ (poL_get l k 4 x hk (by omega))⟩
end Go.Proofs.YtjfnkjpnjiobjaaGreat
namespace Go.Proofs.YtjfnkjpnjiobjaaGreat
open Go.RowKit Go.Maps
theorem string_law : Keyed Tryz.prog 9 := string_keyed Tryz.underlying9
theorem key_str (s : List UInt8) (h : s.length ≤ maxLen) : keyOf Tryz.prog 9 (.string ⟨s.toArray⟩) = some (.string s) := by
  have := WideMaps.keyOf_string_mk (P := Tryz.prog) Tryz.underlying9 (s := ⟨s.toArray⟩) (by simpa [ByteArray.size] using h)
  simpa using this
theorem isk (k : List UInt8) : WideAt.IsKeyLit (.string k) := trivial
theorem lit_ne {k k' : List UInt8} (h : ¬ k' = k) : (Lit.string k') ≠ Lit.string k := fun e => by injection e with e; exact h e
/-- How an element reads: as itself. -/
def hv (v : Value) : Option (DataW Value × List MemPlace) := some (.held v, [])
theorem hv_inv {v : Value} {d : DataW Value} {ps : List MemPlace} (h : hv v = some (d, ps)) : d = .held v := by
  unfold hv at h
  simp only [Option.some.injEq, Prod.mk.injEq] at h
  exact h.1.symm
/-- Block b is a map of n entries, at key k the value f k. -/
structure MapF (w : World) (b n : Nat) (f : List UInt8 → Option Value) : Prop where
  ex : ∃ D, w.ownsMap Tryz.prog 9 hv b n D ∧ size D = n ∧ (∀ k, has D (.string k) = (f k).isSome) ∧ ∀ k v, f k = some v → ∀ z, D.atKey (.string k) z = .held v
theorem MapF.lt {w : World} {b n : Nat} {f : List UInt8 → Option Value} (h : MapF w b n f) : b < w.heap.size := by
  obtain ⟨D, h1, _⟩ := h.ex; exact h1.lt
theorem own_tight {w : World} {b n : Nat} {D : DataW Value} (h : w.ownsMap Tryz.prog 9 hv b n D) : w.ownsMap Tryz.prog 9 hv b (size D) D := by
  obtain ⟨es, clock, hb, F, _, rfl⟩ := h
  exact ⟨es, clock, hb, F, by rw [size_eq, length_read]; exact Nat.le_refl _, rfl⟩
theorem MapF.made (w : World) : MapF (w.alloc (.map #[] 0)) w.heap.size 0 (fun _ => none) :=
  ⟨.map [], World.ownsMap_made w _ _ _, rfl, fun _ => rfl, fun k v h => by cases h⟩
theorem MapF.block {w w' : World} {b n : Nat} {f : List UInt8 → Option Value} (h : MapF w b n f) (hb : w'.heap[b]? = w.heap[b]?) : MapF w' b n f := by
  obtain ⟨D, ⟨es, clock, hh, F, hs, hD⟩, r⟩ := h.ex
  exact ⟨D, ⟨es, clock, hb.trans hh, F, hs, hD⟩, r⟩
theorem MapF.only {S : List Nat} {w w' : World} {b n : Nat} {f : List UInt8 → Option Value} (h : MapF w b n f) (ho : Only S w w') (hS : b ∉ S) : MapF w' b n f := h.block (ho.block b h.lt hS)
section
variable {w : World} {b n : Nat} {f : List UInt8 → Option Value}
theorem MapF.look {t e : TypeId} (h : MapF w b n f) (ht : Tryz.prog.underlying t = some (.map 9 e)) {z : Value} (hz : (zeroValue e).run Tryz.prog w = .ok z w) (k : List UInt8) (hk : k.length ≤ maxLen) :
    (Instr.lookup t (.map (some b)) (.string ⟨k.toArray⟩) false).run Tryz.prog w = .ok ((f k).getD z) w := by
  obtain ⟨D, ho, _, hh, ha⟩ := h.ex
  obtain ⟨v, ps, hr, hv'⟩ := ho.lookup string_law ht hz (zd := .held z) (zp := []) rfl (key_str k hk)
  have e1 := hv_inv hv'
  have hvv : v = (f k).getD z := by
    cases hf : f k with
    | none =>
      have h2 := hh k
      rw [hf] at h2
      rw [atKey_of_not_has h2] at e1
      exact (DataW.held.inj e1).symm
    | some u =>
      rw [ha k u hf] at e1
      exact (DataW.held.inj e1).symm
  rw [hr, hvv]
theorem MapF.lookOk {t e : TypeId} (h : MapF w b n f) (ht : Tryz.prog.underlying t = some (.map 9 e)) {z : Value} (hz : (zeroValue e).run Tryz.prog w = .ok z w) (k : List UInt8) (hk : k.length ≤ maxLen) :
    (Instr.lookup t (.map (some b)) (.string ⟨k.toArray⟩) true).run Tryz.prog w = .ok (.tuple #[(f k).getD z, .bool (f k).isSome]) w := by
  obtain ⟨D, ho, _, hh, ha⟩ := h.ex
  obtain ⟨v, ps, hr, hv'⟩ := ho.look_ok string_law ht hz (zd := .held z) (zp := []) rfl (key_str k hk)
  have e1 := hv_inv hv'
  have hvv : v = (f k).getD z := by
    cases hf : f k with
    | none =>
      have h2 := hh k
      rw [hf] at h2
      rw [atKey_of_not_has h2] at e1
      exact (DataW.held.inj e1).symm
    | some u =>
      rw [ha k u hf] at e1
      exact (DataW.held.inj e1).symm
  rw [hr, hh k, hvv]
theorem MapF.len {t e : TypeId} (h : MapF w b n f) (ht : Tryz.prog.underlying t = some (.map 9 e)) (ty : TypeId) : (Builtin.len_ #[t] ty #[.map (some b)]).run Tryz.prog w = .ok (.int .i64 n) w := by
  obtain ⟨D, ho, hn, _⟩ := h.ex
  rw [ho.len ht ty, hn]
theorem mapTurned_only {w w' : World} {b : Nat} (h : w.mapTurned w' b) : Only [b] w w' := by
  have hg := h.grown
  exact ⟨hg.os, hg.tape, hg.output, hg.size, fun k hk hS => hg.block k hk (by simpa using fun e => hS (by simp [e]))⟩
theorem MapF.store {t e : TypeId} (h : MapF w b n f) (ht : Tryz.prog.underlying t = some (.map 9 e)) (hn : n < maxLen) (k : List UInt8) (hk : k.length ≤ maxLen) (v : Value) :
    ∃ w', (Instr.mapUpdate t (.map (some b)) (.string ⟨k.toArray⟩) v).run Tryz.prog w = .ok () w' ∧ MapF w' b (if (f k).isSome then n else n + 1) (fun k' => if k' = k then some v else f k') ∧ w.mapTurned w' b := by
  obtain ⟨D, ho, hs, hh, ha⟩ := h.ex
  obtain ⟨w', hr, ho', ht'⟩ := ho.store string_law ht hn (key_str k hk) (val := v) (d := .held v) (ps := []) rfl
  have him := ho.isMap
  have hsz : size (D.put (.string k) (.held v)) = if (f k).isSome then n else n + 1 := by rw [size_put (ho.tidy string_law), hh k, hs]
  refine ⟨w', hr, ⟨_, ?_, hsz, ?_, ?_⟩, ht'⟩
  · rw [← hsz]; exact own_tight ho'
  · intro k'
    by_cases he : k' = k
    · subst he; rw [has_put_same him (isk _), if_pos rfl]; rfl
    · rw [has_put_other (lit_ne he), if_neg he]; exact hh k'
  · intro k' u hu z
    by_cases he : k' = k
    · subst he; rw [if_pos rfl] at hu; have hu := Option.some.inj hu; rw [atKey_put_same him (isk _), hu]
    · rw [if_neg he] at hu; rw [atKey_put_other (lit_ne he)]; exact ha k' u hu z
theorem MapF.drop {t e : TypeId} (h : MapF w b n f) (ht : Tryz.prog.underlying t = some (.map 9 e)) (k : List UInt8) (hk : k.length ≤ maxLen) (ty : TypeId) :
    ∃ w', (Builtin.delete_ #[t, 9] ty #[.map (some b), .string ⟨k.toArray⟩]).run Tryz.prog w = .ok (.tuple #[]) w' ∧ MapF w' b (if (f k).isSome then n - 1 else n) (fun k' => if k' = k then none else f k') ∧ w.mapTurned w' b := by
  obtain ⟨D, ho, hs, hh, ha⟩ := h.ex
  obtain ⟨w', hr, ho', ht'⟩ := ho.drop string_law ht (key_str k hk) ty
  have hsz : size (D.del (.string k)) = if (f k).isSome then n - 1 else n := by
    have := size_del (k := .string k) (ho.tidy string_law)
    rw [hh k, hs] at this
    cases hf : (f k).isSome <;> rw [hf] at this <;> simp at this ⊢ <;> omega
  refine ⟨w', hr, ⟨_, ?_, hsz, ?_, ?_⟩, ht'⟩
  · rw [← hsz]; exact own_tight ho'
  · intro k'
    by_cases he : k' = k
    · subst he; rw [has_del_same, if_pos rfl]; rfl
    · rw [has_del_other (lit_ne he), if_neg he]; exact hh k'
  · intro k' u hu z
    by_cases he : k' = k
    · rw [if_pos he] at hu; cases hu
    · rw [if_neg he] at hu; rw [atKey_del_other (lit_ne he)]; exact ha k' u hu z
/-- The keys, sorted. -/
theorem MapF.keys (h : MapF w b n f) (L : List (List UInt8)) (hL : L.Pairwise (fun x y => x < y)) (hm : ∀ k, k ∈ L ↔ (f k).isSome = true) :
    ∃ D, w.ownsMap Tryz.prog 9 hv b n D ∧ size D = n ∧ ∀ ss : List (List UInt8), ss.Perm (strKeys D) → ss.mergeSort (fun x y => decide (x ≤ y)) = L := by
  obtain ⟨D, ho, hs, hh, ha⟩ := h.ex
  refine ⟨D, ho, hs, fun ss hp => ?_⟩
  have hnd : L.Nodup := hL.imp fun {x y} h e => by subst e; exact List.lt_irrefl x h
  have hpL : L.Perm (strKeys D) := by
    obtain ⟨es, hD, hpw, _⟩ := ho.entries string_law
    obtain ⟨es', hD', hko⟩ := ho.keysOf
    obtain rfl : es = es' := by rw [hD] at hD'; simpa using hD'
    subst hD
    exact perm_strKeys hpw (fun p hp => by obtain ⟨v, hv⟩ := hko p hp; obtain ⟨x, _, hx, _⟩ := Maps.keyOf_str Tryz.underlying9 hv; exact ⟨x, hx⟩) hnd (fun x => by rw [hm x, hh x])
  rw [mergeSort_of_perm (hp.trans hpL.symm)]
  exact List.mergeSort_of_pairwise (hL.imp fun {x y} h => by simpa using List.le_of_lt h)
end
end Go.Proofs.YtjfnkjpnjiobjaaGreat
namespace Go.Proofs.YtjfnkjpnjiobjaaGreat
open Go.RowKit
def nmL (l : List UInt8) : Bool := l.all (fun b => decide (33 ≤ b.toNat ∧ b.toNat ≤ 126)) && decide (1 ≤ l.length ∧ l.length ≤ 60)
def okN (b : UInt8) : Bool := decide (33 ≤ b.toNat ∧ b.toNat ≤ 126)
theorem nmL_eq (l : List UInt8) : nmL l = (l.all okN && decide (1 ≤ l.length ∧ l.length ≤ 60)) := rfl
theorem nmL_bad (l : List UInt8) (b : UInt8) (hm : b ∈ l) (h : okN b = false) : nmL l = false := by
  rw [nmL_eq]
  have : l.all okN = false := by
    cases hc : l.all okN with
    | false => rfl
    | true => rw [List.all_eq_true] at hc; rw [hc b hm] at h; cases h
  rw [this]; rfl
set_option maxRecDepth 100000 in
set_option maxHeartbeats 1000000 in
theorem shard_name (l : List UInt8) (w : World) (hl : l.length ≤ 9223372036854775807) :
    Calls Tryz.prog 31 #[.string ⟨l.toArray⟩] w fun e w' => e = .returned (.bool (nmL l)) ∧ w = w' := by
  go_enter Tryz.func31, Tryz.ntmps31
  go_wp2_with fail
  go_loop [6] (fun i => ∃ k : Nat, k ≤ l.length ∧ i = .int .i64 k ∧ (l.take k).all okN = true) (fun i => l.length - (intOf i).toNat)
  case atStart => exact ⟨0, by omega, rfl, rfl⟩
  case round =>
    obtain ⟨k, hk, rfl, hall⟩ := hrel
    by_cases hlt : k < l.length
    · have hk1 := List.getElem?_eq_getElem hlt
      obtain ⟨b, hb⟩ : ∃ b, l[k] = b := ⟨_, rfl⟩
      rw [hb] at hk1
      have hix : ∀ h : k < (⟨l.toArray⟩ : ByteArray).size, (⟨l.toArray⟩ : ByteArray)[k]'h = b := fun _ => hb
      have hb8 := b.toNat_lt
      have HA := Lib.hid hall
      have HT : Hid ((l.take (k + 1)).all okN = okN b) := by show _ = _; rw [List.take_add_one, hk1, List.all_append, hall]; simp
      have HF : Hid (okN b = false → nmL l = false) := fun h => nmL_bad l b (List.mem_of_getElem? hk1) h
      clear hb hk1 hall
      by_cases h1 : b.toNat ≤ 32
      · have hbad := HF.out (by simp [okN]; omega)
        have d1 : decide ((b.toNat : Int) ≤ 32) = true := by simp; omega
        go_wp2_with fail
        go_ret
        exact ⟨rfl, rfl⟩
      · have d1 : decide ((b.toNat : Int) ≤ 32) = false := by simp; omega
        by_cases h2 : 126 < b.toNat
        · have hbad := HF.out (by simp [okN]; omega)
          have d2 : decide (126 < (b.toNat : Int)) = true := by simp; omega
          go_wp2_with fail
          go_ret
          exact ⟨rfl, rfl⟩
        · have hgood : okN b = true := by simp [okN]; omega
          have d2 : decide (126 < (b.toNat : Int)) = false := by simp; omega
          go_wp2_with fail
          go_round
          case rel => exact ⟨k + 1, by omega, by go_num, by rw [HT.out]; exact hgood⟩
          case measure => simp [intOf]; omega
    · obtain rfl : k = l.length := by omega
      rw [List.take_length] at hall
      have HN : Hid (nmL l = decide (1 ≤ l.length ∧ l.length ≤ 60)) := by show _ = _; rw [nmL_eq, hall]; simp
      clear hall
      by_cases h0 : l = []
      · subst h0
        have HN' := HN.out
        go_wp2_with fail
        go_ret
        exact ⟨rfl, rfl⟩
      · have he : l.isEmpty = false := by simpa using h0
        have hl0 : 1 ≤ l.length := by
          have := List.length_pos_iff.2 h0; omega
        by_cases h60 : l.length ≤ 60
        · have d : decide ((l.length : Int) ≤ 60) = true := by simp; omega
          go_wp2_with fail
          go_ret
          exact ⟨by rw [HN.out]; simp; omega, rfl⟩
        · have d : decide ((l.length : Int) ≤ 60) = false := by simp; omega
          go_wp2_with fail
          go_ret
          exact ⟨by rw [HN.out]; simp; omega, rfl⟩
set_option maxRecDepth 100000 in
set_option maxHeartbeats 1000000 in
theorem ref_name14 (l : List UInt8) (w : World) (hl : l.length ≤ 9223372036854775807) :
    Calls Tryz.prog 39 #[.string ⟨l.toArray⟩] w fun e w' => e = .returned (.bool (nmL l)) ∧ w = w' := by
  go_enter Tryz.func39, Tryz.ntmps39
  go_wp2_with fail
  go_loop [3] (fun i => ∃ k : Nat, k ≤ l.length ∧ i = .int .i64 k ∧ (l.take k).all okN = true) (fun i => l.length - (intOf i).toNat)
  case atStart => exact ⟨0, by omega, rfl, rfl⟩
  case round =>
    obtain ⟨k, hk, rfl, hall⟩ := hrel
    by_cases hlt : k < l.length
    · have hk1 := List.getElem?_eq_getElem hlt
      obtain ⟨b, hb⟩ : ∃ b, l[k] = b := ⟨_, rfl⟩
      rw [hb] at hk1
      have hix : ∀ h : k < (⟨l.toArray⟩ : ByteArray).size, (⟨l.toArray⟩ : ByteArray)[k]'h = b := fun _ => hb
      have hb8 := b.toNat_lt
      have HA := Lib.hid hall
      have HT : Hid ((l.take (k + 1)).all okN = okN b) := by show _ = _; rw [List.take_add_one, hk1, List.all_append, hall]; simp
      have HF : Hid (okN b = false → nmL l = false) := fun h => nmL_bad l b (List.mem_of_getElem? hk1) h
      clear hb hk1 hall
      by_cases h1 : b.toNat ≤ 32
      · have hbad := HF.out (by simp [okN]; omega)
        have d1 : decide ((b.toNat : Int) < 33) = true := by simp; omega
        go_wp2_with fail
        go_ret
        exact ⟨rfl, rfl⟩
      · have d1 : decide ((b.toNat : Int) < 33) = false := by simp; omega
        by_cases h2 : 126 < b.toNat
        · have hbad := HF.out (by simp [okN]; omega)
          have d2 : decide (126 < (b.toNat : Int)) = true := by simp; omega
          go_wp2_with fail
          go_ret
          exact ⟨rfl, rfl⟩
        · have hgood : okN b = true := by simp [okN]; omega
          have d2 : decide (126 < (b.toNat : Int)) = false := by simp; omega
          go_wp2_with fail
          go_round
          case rel => exact ⟨k + 1, by omega, by go_num, by rw [HT.out]; exact hgood⟩
          case measure => simp [intOf]; omega
    · obtain rfl : k = l.length := by omega
      rw [List.take_length] at hall
      have HN : Hid (nmL l = decide (1 ≤ l.length ∧ l.length ≤ 60)) := by show _ = _; rw [nmL_eq, hall]; simp
      clear hall
      by_cases h1 : 1 ≤ l.length
      · have d1 : decide (1 ≤ (l.length : Int)) = true := by simp; omega
        by_cases h60 : l.length ≤ 60
        · have d : decide ((l.length : Int) ≤ 60) = true := by simp; omega
          go_wp2_with fail
          go_ret
          exact ⟨by rw [HN.out]; simp; omega, rfl⟩
        · have d : decide ((l.length : Int) ≤ 60) = false := by simp; omega
          go_wp2_with fail
          go_ret
          exact ⟨by rw [HN.out]; simp; omega, rfl⟩
      · have d1 : decide (1 ≤ (l.length : Int)) = false := by simp; omega
        go_wp2_with fail
        go_ret
        exact ⟨by rw [HN.out]; simp; omega, rfl⟩
end Go.Proofs.YtjfnkjpnjiobjaaGreat
namespace Go.Proofs.YtjfnkjpnjiobjaaGreat
open Go.RowKit
structure Fd where
  pol : Int
  fai : Int
  ps : List Po
def idx (ps : List Po) (k : List UInt8) : Option Nat := ps.findIdx? (fun x => x.it.id == k)
def atF (ps : List Po) (k : List UInt8) : Option Value := (idx ps k).map fun i : Nat => Value.int .i64 (i : Int)
/-- A feed in memory: its block p, its map m, its row v. -/
structure FdAt (w : World) (p m : Nat) (v : Value) (f : Fd) : Prop where
  cells : Cells w p 78 [.int .i64 f.pol, .int .i64 f.fai, v, .map (some m)]
  row : w.ownsRow 0 52 5 v f.ps.length (poL f.ps)
  map : MapF w m f.ps.length (atF f.ps)
  cap : f.ps.length ≤ 200
  nb : -1 ≤ f.pol ∧ f.pol ≤ 1099511627776 ∧ 0 ≤ f.fai ∧ f.fai ≤ 1000
theorem FdAt.pm {w : World} {p m : Nat} {v : Value} {f : Fd} (h : FdAt w p m v f) : p ≠ m := by
  intro e
  obtain ⟨D, ⟨es, clock, hh, _⟩, _⟩ := h.map.ex
  have := h.cells
  unfold Cells at this
  rw [e, hh] at this
  cases this
theorem FdAt.vm {w : World} {p m : Nat} {v : Value} {f : Fd} (h : FdAt w p m v f) : v.ownBlock ≠ some m := by
  intro e
  obtain ⟨D, ⟨es, clock, hh, _⟩, _⟩ := h.map.ex
  rcases h.row.2 with ⟨rfl, _⟩ | ⟨g, cap, cur, rfl, _, hg, _⟩
  · simp [Value.ownBlock] at e
  · simp only [Value.ownBlock, Option.some.injEq] at e
    subst e
    rw [hh] at hg
    cases hg
theorem FdAt.vp {w : World} {p m : Nat} {v : Value} {f : Fd} (h : FdAt w p m v f) : v.ownBlock ≠ some p := own_ne_block h.row h.cells (by decide)
theorem FdAt.only {S : List Nat} {w w' : World} {p m : Nat} {v : Value} {f : Fd} (h : FdAt w p m v f) (ho : Only S w w') (h1 : p ∉ S) (h2 : m ∉ S) (h3 : ∀ g, v.ownBlock = some g → g ∉ S) : FdAt w' p m v f :=
  ⟨h.cells.only ho h1, own_keep h.row ho (fun b hb e => h3 b e hb), h.map.only ho h2, h.cap, h.nb⟩
theorem MapF.grown {w w' : World} {b n : Nat} {f : List UInt8 → Option Value} {row : Option Nat} (h : MapF w b n f) (hg : w.grownBy w' row) (hne : some b ≠ row) : MapF w' b n f := h.block (hg.block b h.lt hne)
theorem grown_only {w w' : World} {v : Value} (h : w.grownBy w' v.ownBlock) : Only (rb v) w w' :=
  ⟨h.os, h.tape, h.output, h.size, fun k hk hS => h.block k hk (fun e => hS (by simp [rb, ← e]))⟩
def addB (f : Fd) (x : It) : Bool := (idx f.ps x.id).isNone && !(f.ps.length == 200)
def addF (f : Fd) (x : It) : Fd := if addB f x then ⟨f.pol, f.fai, f.ps ++ [⟨(f.ps.length : Int) + 1, x, false⟩]⟩ else f
theorem atF_snoc (ps : List Po) (x : Po) (h : idx ps x.it.id = none) : atF (ps ++ [x]) = fun k => if k = x.it.id then some (.int .i64 (ps.length : Int)) else atF ps k := by
  funext k
  unfold atF idx at *
  rw [List.findIdx?_append]
  by_cases hk : k = x.it.id
  · subst hk
    rw [h, if_pos rfl]
    simp
  · rw [if_neg hk]
    have : ¬ x.it.id = k := fun e => hk e.symm
    simp [List.findIdx?_cons, this]
set_option maxRecDepth 100000 in
set_option maxHeartbeats 2000000 in
theorem source_add (p m : Nat) (v : Value) (f : Fd) (x : It) (hx : x.Len) (w : World) (h : FdAt w p m v f) :
    Calls Tryz.prog 37 #[.pointer (some ⟨p, 0, none⟩), .agg #[.string ⟨x.id.toArray⟩, .string ⟨x.ti.toArray⟩, .string ⟨x.li.toArray⟩]] w fun e w' => ∃ v', e = .returned (.bool (addB f x)) ∧ FdAt w' p m v' (addF f x) ∧ Only ([p, m] ++ rb v) w w' ∧ NewOf w v v' := by
  obtain ⟨i0, hi0, hz0, hz1, hz2⟩ := info_parts info_post
  obtain ⟨A, c, rfl⟩ := (SlAt.of_own h.row).shape
  have hcap := h.cap
  have hplt := h.cells.lt
  obtain ⟨w1, hw1⟩ : ∃ w1, w.alloc (.cells #[.string ⟨x.id.toArray⟩, .string ⟨x.ti.toArray⟩, .string ⟨x.li.toArray⟩] 45) = w1 := ⟨_, rfl⟩
  obtain ⟨z, hz⟩ : ∃ z, w.heap.size = z := ⟨_, rfl⟩
  have a1 : Cells w1 z 45 x.cells := hw1 ▸ hz ▸ Cells.new w _ _
  have O1 : Only [] w w1 := hw1 ▸ (Only.refl _ _).alloc _
  have h1 := h.only O1 (by simp) (by simp) (by simp)
  have p2 := h1.cells.cell (k := 2) rfl
  have p3 := h1.cells.cell (k := 3) rfl
  have q0 := a1.cell (k := 0) rfl
  have hlk := fun w' (hm : MapF w' m f.ps.length (atF f.ps)) => hm.lookOk (t := 76) (e := 3) (z := .int .i64 0) Tryz.underlying76 (Tryz.zeroValue3 w') x.id hx.id
  have hl1 := hlk w1.drew (h1.map.block rfl)
  obtain ⟨oi, hoi⟩ : ∃ oi, idx f.ps x.id = oi := ⟨_, rfl⟩
  have hat : atF f.ps x.id = oi.map (fun i : Nat => Value.int .i64 (i : Int)) := by unfold atF; rw [hoi]
  rw [hat] at hl1
  go_enter Tryz.func37, Tryz.ntmps37
  go_wp2_with fail
  go_region
  have d1 := h1.only (w' := w1.drew) (Only.drew (S := []) (Only.refl _ _)) (by simp) (by simp) (by simp)
  have OD : Only [] w w1.drew := O1.drew
  have az : Cells w1.drew z 45 x.cells := a1
  clear hl1 hw1 p2 p3 q0
  cases oi with
  | some i =>
    have hB : addB f x = false := by unfold addB; rw [hoi]; rfl
    have HD := Lib.hid d1
    have HO := Lib.hid OD
    clear d1 OD az a1 O1 h1 h
    go_wp2_with fail
    go_ret
    refine ⟨_, by rw [hB]; rfl, ?_, HO.out.of0, NewOf.refl _ _⟩
    unfold addF
    rw [hB]
    exact HD.out
  | none =>
  have p2 : w1.drew.cell? ⟨p, 2, none⟩ = _ := d1.cells.cell (k := 2) rfl
  by_cases h200 : f.ps.length = 200
  · have hB : addB f x = false := by unfold addB; rw [h200]; simp
    have HD := Lib.hid d1
    have HO := Lib.hid OD
    have e2 : ((f.ps.length : Int) == 200) = true := by rw [h200]; rfl
    clear d1 OD az a1 O1 h1 h
    go_wp2_with fail
    go_ret
    refine ⟨_, by rw [hB]; rfl, ?_, HO.out.of0, NewOf.refl _ _⟩
    unfold addF
    rw [hB]
    exact HD.out
  have hB : addB f x = true := by unfold addB; rw [hoi]; simp [h200]
  have e2 : ((f.ps.length : Int) == 200) = false := by simp; omega
  obtain ⟨w2, hw2⟩ : ∃ w2, w1.drew = w2 := ⟨_, rfl⟩
  rw [hw2] at d1 OD az p2 ⊢
  have p3 : w2.cell? ⟨p, 3, none⟩ = _ := d1.cells.cell (k := 3) rfl
  have q0 : w2.cell? ⟨z, 0, none⟩ = _ := az.cell (k := 0) rfl
  obtain ⟨w3, hst, hm3, ht3⟩ := (d1.map.block (w' := w2.drew) rfl).store (t := 76) (e := 3) Tryz.underlying76 (by unfold maxLen; omega) x.id hx.id (.int .i64 (f.ps.length : Int))
  have hO3 := mapTurned_only ht3
  have hns : (atF f.ps x.id).isSome = false := by rw [hat]; rfl
  rw [hns] at hm3
  have hm3 : MapF w3 m (f.ps.length + 1) (fun k' => if k' = x.id then some (.int .i64 (f.ps.length : Int)) else atF f.ps k') := hm3
  have hpm := d1.pm
  have hvm := d1.vm
  have hvp := d1.vp
  have c3 : Cells w3 p 78 _ := Cells.only (S := [m]) (a := w2.drew) d1.cells hO3 (by simpa using hpm)
  have r3 : w3.ownsRow 0 52 5 (.slice A f.ps.length c) f.ps.length (poL f.ps) := own_keep (S := [m]) (w := w2.drew) d1.row hO3 (by simpa using hvm)
  have hzm : z ≠ m := by
    intro e
    obtain ⟨D, ⟨es, clock, hh, _⟩, _⟩ := d1.map.ex
    unfold Cells at az
    rw [e, hh] at az
    cases az
  have hzp : z ≠ p := by omega
  have z3 : Cells w3 z 45 x.cells := Cells.only (S := [m]) (a := w2.drew) az hO3 (by simpa using hzm)
  have HZ3 := Lib.hid z3
  have HC3 := Lib.hid c3
  have HR3 := Lib.hid r3
  have HR3d : Hid (w3.drew.ownsRow 0 52 5 (.slice A f.ps.length c) f.ps.length (poL f.ps)) := Lib.hid r3
  have HM3 := Lib.hid hm3
  have HO3 : Hid (Only [m] w w3) := Lib.hid ((OD.drew).of0.trans hO3 (by simp))
  clear c3 r3 hm3 z3 ht3 hO3 d1 OD az a1 O1 h1
  go_wp2_with fail
  go_still_tail 11, (by kernel_rfl)
  change wpList _ _ _ _ _ w2.drew
  go_wp2_with fail
  clear hst p2 p3 q0
  have c2 := HC3.out.cell (k := 2) rfl
  have z0 := HZ3.out.cell (k := 0) rfl
  have z1 := HZ3.out.cell (k := 1) rfl
  have z2 := HZ3.out.cell (k := 2) rfl
  have hsz : 0 < w3.heap.size := by have := HZ3.out.lt; omega
  have hple := HC3.out.lt
  obtain ⟨n, hn⟩ : ∃ n, f.ps.length = n := ⟨_, rfl⟩
  rw [hn] at c2 hcap HR3 HR3d hvp hvm HC3
  have hwr : IntKind.i64.wrap ((n : Int) + 1) = (n : Int) + 1 := by rw [IntKind.wrap_i64]; omega
  go_region_law (go_loud (refine step_append_lies ((w3.alloc (.cells #[.int .i64 ((n : Int) + 1), .string ⟨x.id.toArray⟩, .string ⟨x.ti.toArray⟩, .string ⟨x.li.toArray⟩, .bool false] 52)).drew) (by rfl) _ _ 29 (by rfl) 0 52 i0 _ 5 64 Tryz.underlying29 hi0 hz0 hz1 hz2 rfl (by omega) (.slice A n c) n (poL f.ps) (by rfl) (World.ownsRow.alloc HR3.out _) ⟨w3.heap.size, 0, none⟩ 1 1 [.int .i64 ((n : Int) + 1), .string ⟨x.id.toArray⟩, .string ⟨x.ti.toArray⟩, .string ⟨x.li.toArray⟩, .bool false] (by rfl) (by rfl) (lit4 (Cells.new w3 52 [.int .i64 ((n : Int) + 1), .string ⟨x.id.toArray⟩, .string ⟨x.ti.toArray⟩, .string ⟨x.li.toArray⟩, .bool false])) (by simp [Value.oneCell']) (by omega) (by unfold maxLen; omega) (by omega) (Nat.zero_le _) (w3.heap.size + 1) (by simp) ?_; intro g9 cap9 w9 hown9 hgrow hat9 hgl1; have hc9 : Cells w9 p 78 _ := Cells.grown (w := (w3.alloc (.cells #[.int .i64 ((n : Int) + 1), .string ⟨x.id.toArray⟩, .string ⟨x.ti.toArray⟩, .string ⟨x.li.toArray⟩, .bool false] 52)).drew) (Cells.drew (Cells.alloc HC3.out _)) hgrow hvp; have p9 := hc9.cell (k := 2) rfl; have f9 := hc9.frozen 2; have l9 := hc9.lt))
  all_goals
    have hvm9 : (Value.slice (some ⟨g9, 0, none⟩) (n + 1) cap9).ownBlock ≠ some p := own_ne_block hown9 hc9 (by decide)
    have hm9 := (HM3.out.block (w' := (w3.alloc (.cells #[.int .i64 ((n : Int) + 1), .string ⟨x.id.toArray⟩, .string ⟨x.ti.toArray⟩, .string ⟨x.li.toArray⟩, .bool false] 52)).drew) (Below.heap_alloc w3 _ m HM3.out.lt)).grown hgrow (by simpa using fun e => hvm e.symm)
    have HW : Only [p] w9 (w9.setCell ⟨p, 2, none⟩ (.slice (some ⟨g9, 0, none⟩) (n + 1) cap9)) := (Only.refl _ _).setCell (.inl (by simp)) _
    have ho9 : Only ([p, m] ++ rb (.slice A n c)) w w9 := (((HO3.out.alloc _).drew).mono (by simp)).trans (w := (w3.alloc (.cells #[.int .i64 ((n : Int) + 1), .string ⟨x.id.toArray⟩, .string ⟨x.ti.toArray⟩, .string ⟨x.li.toArray⟩, .bool false] 52)).drew) (grown_only hgrow) (by intro y hy; exact .inl (by simp at hy ⊢; simp [hy]))
    have hfin : FdAt (w9.setCell ⟨p, 2, none⟩ (.slice (some ⟨g9, 0, none⟩) (n + 1) cap9)) p m (.slice (some ⟨g9, 0, none⟩) (n + 1) cap9) (addF f x) := by
      unfold addF
      rw [hB]
      refine ⟨hc9.set 2 _, ?_, ?_, ?_, ?_⟩
      · have := own_keep hown9 HW (by simpa using hvm9)
        show World.ownsRow _ _ _ _ _ (f.ps ++ [_]).length (poL (f.ps ++ [_]))
        rw [List.length_append, poL_append, hn]
        exact this
      · show MapF _ m (f.ps ++ [_]).length (atF (f.ps ++ [_]))
        rw [atF_snoc _ ⟨(f.ps.length : Int) + 1, x, false⟩ hoi, List.length_append]
        exact hm9.only HW (by simpa using fun e => hpm e.symm)
      · show (f.ps ++ [_]).length ≤ 200
        rw [List.length_append, hn]; simp; omega
      · exact h.nb
    have HF := Lib.hid hfin
    have HOF := Lib.hid (ho9.trans HW (by intro y hy; simp at hy; exact .inl (by simp [hy])))
    have HNW : Hid (NewOf w (.slice A n c) (.slice (some ⟨g9, 0, none⟩) (n + 1) cap9)) := Lib.hid (fun g hg => by
        rcases hat9 with h | h
        · left; rw [h, ← hg]; rfl
        · right; have := HO3.out.size; simp [Value.ownBlock] at hg; omega)
    clear hfin ho9 HW hm9 hvm9 hown9 hgrow hat9 hgl1 hc9 p9 f9 l9 c2 z0 z1 z2
    go_wp2_with fail
    go_ret
    exact ⟨_, by rw [hB]; rfl, HF.out, by rw [hn]; exact HOF.out, by rw [hn]; exact HNW.out⟩
end Go.Proofs.YtjfnkjpnjiobjaaGreat
namespace Go.Proofs.YtjfnkjpnjiobjaaGreat
open Go.RowKit
/-- A feed and where it lies. -/
structure Pl where
  nm : List UInt8
  fd : Fd
  p : Nat
  m : Nat
  v : Value
def Pl.own (t : Pl) : List Nat := [t.p, t.m] ++ rb t.v
def fT (T : List Pl) (k : List UInt8) : Option Pl := T.find? (fun t => t.nm == k)
def ptT (T : List Pl) (k : List UInt8) : Option Value := (fT T k).map fun t => Value.pointer (some ⟨t.p, 0, none⟩)
def allX (b mb : Nat) (T : List Pl) : List Nat := b :: mb :: T.flatMap Pl.own
structure StX (w : World) (b mb : Nat) (T : List Pl) : Prop where
  cells : Cells w b 69 [.map (some mb)]
  map : MapF w mb T.length (ptT T)
  fds : ∀ t ∈ T, FdAt w t.p t.m t.v t.fd
  srt : T.Pairwise (fun a b => a.nm < b.nm)
  dis : ∀ t ∈ T, ∀ u ∈ T, t.nm ≠ u.nm → ∀ x ∈ t.own, x ∉ u.own
  dib : ∀ t ∈ T, b ∉ t.own ∧ mb ∉ t.own
  cap : T.length ≤ 20
  nml : ∀ t ∈ T, nmL t.nm = true
theorem nmL_len {k : List UInt8} (h : nmL k = true) : 1 ≤ k.length ∧ k.length ≤ 60 := by
  rw [nmL_eq] at h
  simp only [Bool.and_eq_true, decide_eq_true_eq] at h
  exact h.2
theorem fT_mem {T : List Pl} {k : List UInt8} {t : Pl} (h : fT T k = some t) : t ∈ T ∧ t.nm = k := by
  unfold fT at h
  exact ⟨List.mem_of_find?_eq_some h, by simpa using List.find?_some h⟩
theorem own_mem {b mb : Nat} {T : List Pl} {t : Pl} (ht : t ∈ T) {k : Nat} (hk : k ∈ t.own) : k ∈ allX b mb T := by
  unfold allX
  exact List.mem_cons_of_mem _ (List.mem_cons_of_mem _ (List.mem_flatMap.2 ⟨t, ht, hk⟩))
theorem FdAt.lts {w : World} {p m : Nat} {v : Value} {f : Fd} (h : FdAt w p m v f) : ∀ k ∈ [p, m] ++ rb v, k < w.heap.size := by
  intro k hk
  simp only [List.cons_append, List.nil_append, List.mem_cons] at hk
  rcases hk with rfl | rfl | hk
  · exact h.cells.lt
  · exact h.map.lt
  · exact (h.row.lt k (by simpa [rb] using hk)).2
theorem StX.lts {w : World} {b mb : Nat} {T : List Pl} (h : StX w b mb T) : ∀ k ∈ allX b mb T, k < w.heap.size := by
  intro k hk
  unfold allX at hk
  simp only [List.mem_cons] at hk
  rcases hk with rfl | rfl | hk
  · exact h.cells.lt
  · exact h.map.lt
  · obtain ⟨t, ht, hk⟩ := List.mem_flatMap.1 hk
    exact (h.fds t ht).lts k hk
theorem FdAt.keep {S : List Nat} {w w' : World} {t : Pl} (h : FdAt w t.p t.m t.v t.fd) (ho : Only S w w') (hS : ∀ k ∈ t.own, k ∉ S) : FdAt w' t.p t.m t.v t.fd :=
  h.only ho (hS _ (by simp [Pl.own])) (hS _ (by simp [Pl.own])) (fun g hg => hS g (by simp [Pl.own, rb, hg]))
theorem StX.keep {S : List Nat} {w w' : World} {b mb : Nat} {T : List Pl} (h : StX w b mb T) (ho : Only S w w') (hS : ∀ k ∈ allX b mb T, k ∉ S) : StX w' b mb T :=
  ⟨h.cells.only ho (hS _ (by simp [allX])), h.map.only ho (hS _ (by simp [allX])), fun t ht => (h.fds t ht).keep ho (fun k hk => hS k (own_mem ht hk)), h.srt, h.dis, h.dib, h.cap, h.nml⟩
/-- A store whose blocks are O. -/
def St (w : World) (b : Nat) (O : List Nat) (S : List (List UInt8 × Fd)) : Prop := ∃ mb T, StX w b mb T ∧ O = allX b mb T ∧ S = T.map fun t => (t.nm, t.fd)
theorem St.keep {X : List Nat} {w w' : World} {b : Nat} {O : List Nat} {S : List (List UInt8 × Fd)} (h : St w b O S) (ho : Only X w w') (hX : ∀ k ∈ O, k ∉ X) : St w' b O S := by
  obtain ⟨mb, T, h1, rfl, rfl⟩ := h
  exact ⟨mb, T, h1.keep ho hX, rfl, rfl⟩
def fnd (S : List (List UInt8 × Fd)) (k : List UInt8) : Option Fd := (S.find? (fun x => x.1 == k)).map (·.2)
theorem fnd_fT (T : List Pl) (k : List UInt8) : fnd (T.map fun t => (t.nm, t.fd)) k = (fT T k).map (·.fd) := by
  unfold fnd fT
  rw [List.find?_map, Option.map_map]
  rfl
def okT (now : Int) : Bool := decide (0 ≤ now) && decide (now ≤ 1099511627776)
def fndV (o : Option Pl) (now : Int) : Value := match o with
  | none => .tuple #[.pointer none, .int .i64 4]
  | some t => if okT now then .tuple #[.pointer (some ⟨t.p, 0, none⟩), .int .i64 0] else .tuple #[.pointer none, .int .i64 1]
set_option maxRecDepth 100000 in
theorem store_find (b mb : Nat) (T : List Pl) (k : List UInt8) (hk : k.length ≤ maxLen) (now : Int) (w : World) (h : StX w b mb T) :
    Calls Tryz.prog 33 #[.pointer (some ⟨b, 0, none⟩), .string ⟨k.toArray⟩, .int .i64 now] w fun e w' =>
      e = .returned (fndV (fT T k) now) ∧ w = w' := by
  have c0 := h.cells.cell (k := 0) rfl
  have hlk := h.map.look (t := 67) (e := 70) (z := .pointer none) Tryz.underlying67 (Tryz.zeroValue70 w) k hk
  cases hf : fT T k with
  | none =>
    rw [show (ptT T k) = none from by unfold ptT; rw [hf]; rfl] at hlk
    go_enter Tryz.func33, Tryz.ntmps33
    go_wp2_with fail
    go_ret2
    exact ⟨rfl, rfl⟩
  | some t =>
    rw [show (ptT T k) = some (.pointer (some ⟨t.p, 0, none⟩)) from by unfold ptT; rw [hf]; rfl] at hlk
    by_cases h0 : now < 0
    · have d0 : decide (now < 0) = true := decide_eq_true h0
      have hr : okT now = false := by unfold okT; rw [decide_eq_false (by omega)]; rfl
      go_enter Tryz.func33, Tryz.ntmps33
      go_wp2_with fail
      go_ret2
      exact ⟨by unfold fndV; rw [hr]; rfl, rfl⟩
    · have d0 : decide (now < 0) = false := decide_eq_false h0
      by_cases h1 : 1099511627776 < now
      · have d1 : decide (1099511627776 < now) = true := decide_eq_true h1
        have hr : okT now = false := by unfold okT; rw [decide_eq_false (p := now ≤ 1099511627776) (by omega)]; simp
        go_enter Tryz.func33, Tryz.ntmps33
        go_wp2_with fail
        go_ret2
        exact ⟨by unfold fndV; rw [hr]; rfl, rfl⟩
      · have d1 : decide (1099511627776 < now) = false := decide_eq_false h1
        have hr : okT now = true := by unfold okT; rw [decide_eq_true (p := 0 ≤ now) (by omega), decide_eq_true (p := now ≤ 1099511627776) (by omega)]; rfl
        go_enter Tryz.func33, Tryz.ntmps33
        go_wp2_with fail
        go_ret2
        exact ⟨by unfold fndV; rw [hr]; rfl, rfl⟩
set_option maxRecDepth 100000 in
theorem store_polled (b mb : Nat) (T : List Pl) (k : List UInt8) (hk : k.length ≤ maxLen) (w : World) (h : StX w b mb T) :
    Calls Tryz.prog 17 #[.pointer (some ⟨b, 0, none⟩), .string ⟨k.toArray⟩] w fun e w' =>
      e = .returned (.tuple #[.int .i64 ((fT T k).elim 0 (·.fd.pol)), .int .i64 ((fT T k).elim 0 (·.fd.fai)), .bool (fT T k).isSome]) ∧ Only [] w w' := by
  have c0 := h.cells.cell (k := 0) rfl
  have hlk := h.map.look (t := 67) (e := 70) (z := .pointer none) Tryz.underlying67 (Tryz.zeroValue70 w) k hk
  cases hf : fT T k with
  | none =>
    rw [show (ptT T k) = none from by unfold ptT; rw [hf]; rfl] at hlk
    go_enter Tryz.func17, Tryz.ntmps17
    go_wp2_with fail
    go_ret3
    exact ⟨rfl, Only.refl _ _⟩
  | some t =>
    rw [show (ptT T k) = some (.pointer (some ⟨t.p, 0, none⟩)) from by unfold ptT; rw [hf]; rfl] at hlk
    have hfd := h.fds t (fT_mem hf).1
    have p0 := hfd.cells.cell (k := 0) rfl
    have p1 := hfd.cells.cell (k := 1) rfl
    go_enter Tryz.func17, Tryz.ntmps17
    go_wp2_with fail
    go_region
    go_wp2_with fail
    go_ret3
    exact ⟨rfl, (Only.refl _ _).drew⟩
end Go.Proofs.YtjfnkjpnjiobjaaGreat
namespace Go.Proofs.YtjfnkjpnjiobjaaGreat
open Go.RowKit
section
variable {α β : Type} (key : α → List UInt8)
def insBy (x : α) : List α → List α
  | [] => [x]
  | a :: r => if key a < key x then a :: insBy x r else x :: a :: r
theorem insBy_perm (x : α) (l : List α) : (insBy key x l).Perm (x :: l) := by
  induction l with
  | nil => exact List.Perm.refl _
  | cons a r ih =>
    unfold insBy
    split
    · exact (ih.cons a).trans (List.Perm.swap x a r)
    · exact List.Perm.refl _
theorem insBy_length (x : α) (l : List α) : (insBy key x l).length = l.length + 1 := by rw [(insBy_perm key x l).length_eq]; rfl
theorem insBy_map (f : α → β) (key' : β → List UInt8) (h : ∀ a, key' (f a) = key a) (x : α) (l : List α) : (insBy key x l).map f = insBy key' (f x) (l.map f) := by
  induction l with
  | nil => rfl
  | cons a r ih =>
    simp only [insBy, List.map_cons, h]
    split
    · rw [List.map_cons, ih]
    · rfl
theorem lt_of_not {a b : List UInt8} (h : ¬ a < b) (hne : a ≠ b) : b < a := by
  by_cases h1 : b < a
  · exact h1
  · exact absurd (List.le_antisymm (List.not_lt.1 h1) (List.not_lt.1 h)) hne
theorem insBy_sorted (x : α) (l : List α) (hs : l.Pairwise (fun a b => key a < key b)) (hn : ∀ a ∈ l, key a ≠ key x) : (insBy key x l).Pairwise (fun a b => key a < key b) := by
  induction l with
  | nil => simp [insBy]
  | cons a r ih =>
    have h1 := List.pairwise_cons.1 hs
    unfold insBy
    split
    · rename_i hlt
      refine List.pairwise_cons.2 ⟨fun b hb => ?_, ih h1.2 (fun c hc => hn c (List.mem_cons_of_mem _ hc))⟩
      rcases List.mem_cons.1 ((insBy_perm key x r).mem_iff.1 hb) with rfl | hb
      · exact hlt
      · exact h1.1 b hb
    · rename_i hlt
      have hxa := lt_of_not hlt (hn a (by simp))
      refine List.pairwise_cons.2 ⟨fun b hb => ?_, hs⟩
      rcases List.mem_cons.1 hb with rfl | hb
      · exact hxa
      · exact List.lt_trans hxa (h1.1 b hb)
theorem insBy_find (x : α) (l : List α) (k : List UInt8) (hn : ∀ a ∈ l, key a ≠ key x) : (insBy key x l).find? (fun a => key a == k) = if k = key x then some x else l.find? (fun a => key a == k) := by
  induction l with
  | nil =>
    by_cases h : k = key x
    · subst h; simp [insBy]
    · have : ¬ key x = k := fun e => h e.symm
      simp [insBy, h, this]
  | cons a r ih =>
    have ih := ih (fun c hc => hn c (List.mem_cons_of_mem _ hc))
    have ha := hn a (by simp)
    unfold insBy
    split
    · rw [List.find?_cons, List.find?_cons, ih]
      by_cases h : k = key x
      · subst h
        have : (key a == key x) = false := by simpa using ha
        rw [this]
        try simp
      · rw [if_neg h, if_neg h]
    · rw [List.find?_cons (a := x)]
      by_cases h : k = key x
      · subst h; simp
      · have : (key x == k) = false := by simpa using fun e : key x = k => h e.symm
        rw [this, if_neg h]
/-- The one with key k is turned into another with that key. -/
def putBy (k : List UInt8) (x : α) (l : List α) : List α := l.map fun a => if key a == k then x else a
theorem putBy_find (k : List UInt8) (x : α) (l : List α) (hx : key x = k) (k' : List UInt8) : (putBy key k x l).find? (fun a => key a == k') = if k' = k then (l.find? (fun a => key a == k)).map (fun _ => x) else l.find? (fun a => key a == k') := by
  induction l with
  | nil => simp [putBy]
  | cons a r ih =>
    unfold putBy at ih ⊢
    rw [List.map_cons, List.find?_cons, ih, List.find?_cons, List.find?_cons]
    by_cases ha : key a = k
    · have e1 : (key a == k) = true := by simpa using ha
      rw [e1]
      simp only [if_true, hx]
      by_cases h : k' = k
      · subst h; simp
      · have : (k == k') = false := by simpa using fun e : k = k' => h e.symm
        have h3 : (key a == k') = false := by rw [ha]; exact this
        rw [this, if_neg h, if_neg h, h3]
    · have e1 : (key a == k) = false := by simpa using ha
      rw [e1]
      simp only [Bool.false_eq_true, if_false]
      by_cases h : k' = k
      · subst h; rw [e1]
      · rw [if_neg h, if_neg h]
theorem putBy_keys (k : List UInt8) (x : α) (l : List α) (hx : key x = k) : (putBy key k x l).map key = l.map key := by
  unfold putBy
  rw [List.map_map]
  apply List.map_congr_left
  intro a _
  show key (if key a == k then x else a) = key a
  split
  · rename_i h; rw [hx]; exact (by simpa using h : key a = k).symm
  · rfl
theorem sorted_keys (l : List α) : l.Pairwise (fun a b => key a < key b) ↔ (l.map key).Pairwise (· < ·) := by rw [List.pairwise_map]
theorem putBy_map (f : α → β) (key' : β → List UInt8) (h : ∀ a, key' (f a) = key a) (k : List UInt8) (x : α) (l : List α) : (putBy key k x l).map f = putBy key' k (f x) (l.map f) := by
  unfold putBy
  rw [List.map_map, List.map_map]
  apply List.map_congr_left
  intro a _
  show f (if key a == k then x else a) = if key' (f a) == k then f x else f a
  rw [h]
  split <;> rfl
def delBy (k : List UInt8) (l : List α) : List α := l.filter fun a => !(key a == k)
theorem delBy_find (k : List UInt8) (l : List α) (k' : List UInt8) : (delBy key k l).find? (fun a => key a == k') = if k' = k then none else l.find? (fun a => key a == k') := by
  unfold delBy
  induction l with
  | nil => simp
  | cons a r ih =>
    rw [List.filter_cons, List.find?_cons]
    by_cases ha : key a = k
    · have e1 : (key a == k) = true := by simpa using ha
      rw [e1]
      simp only [Bool.not_true, Bool.false_eq_true, if_false]
      rw [ih]
      by_cases h : k' = k
      · rw [if_pos h, if_pos h]
      · rw [if_neg h, if_neg h]
        have : (key a == k') = false := by rw [ha]; simpa using fun e : k = k' => h e.symm
        rw [this]
    · have e1 : (key a == k) = false := by simpa using ha
      rw [e1]
      simp only [Bool.not_false, if_true]
      rw [List.find?_cons, ih]
      by_cases h : k' = k
      · subst h; rw [e1]; try simp
      · rw [if_neg h, if_neg h]
theorem delBy_map (f : α → β) (key' : β → List UInt8) (h : ∀ a, key' (f a) = key a) (k : List UInt8) (l : List α) : (delBy key k l).map f = delBy key' k (l.map f) := by
  unfold delBy
  rw [List.filter_map]
  congr 1
  apply List.filter_congr
  intro a _
  show (!(key a == k)) = !(key' (f a) == k)
  rw [h]
theorem delBy_length (k : List UInt8) (l : List α) (hs : l.Pairwise (fun a b => key a < key b)) : (delBy key k l).length = if (l.find? (fun a => key a == k)).isSome then l.length - 1 else l.length := by
  unfold delBy
  induction l with
  | nil => simp
  | cons a r ih =>
    have h1 := List.pairwise_cons.1 hs
    rw [List.filter_cons, List.find?_cons]
    by_cases ha : key a = k
    · have e1 : (key a == k) = true := by simpa using ha
      rw [e1]
      simp only [Bool.not_true, Bool.false_eq_true, if_false, Option.isSome_some, if_true, List.length_cons, Nat.add_sub_cancel]
      rw [List.filter_eq_self.2]
      intro b hb
      have := h1.1 b hb
      rw [ha] at this
      simpa using fun e : key b = k => by rw [e] at this; exact List.lt_irrefl _ this
    · have e1 : (key a == k) = false := by simpa using ha
      rw [e1]
      simp only [Bool.not_false, if_true, List.length_cons]
      rw [ih h1.2]
      split
      · rename_i h
        have : 0 < r.length := by
          cases r with
          | nil => simp at h
          | cons _ _ => simp
        omega
      · rfl
end
end Go.Proofs.YtjfnkjpnjiobjaaGreat
namespace Go.Proofs.YtjfnkjpnjiobjaaGreat
open Go.RowKit
theorem nm_one {T : List Pl} (hs : T.Pairwise (fun a b => a.nm < b.nm)) {a b : Pl} (ha : a ∈ T) (hb : b ∈ T) (h : a.nm = b.nm) : a = b := by
  induction T with
  | nil => cases ha
  | cons c r ih =>
    have h1 := List.pairwise_cons.1 hs
    rcases List.mem_cons.1 ha with rfl | ha'
    · rcases List.mem_cons.1 hb with rfl | hb'
      · rfl
      · have := h1.1 b hb'; rw [h] at this; exact absurd this (List.lt_irrefl _)
    · rcases List.mem_cons.1 hb with rfl | hb'
      · have := h1.1 a ha'; rw [h] at this; exact absurd this (List.lt_irrefl _)
      · exact ih h1.2 ha' hb'
theorem StX.bm {w : World} {b mb : Nat} {T : List Pl} (h : StX w b mb T) : b ≠ mb := by
  intro e
  obtain ⟨D, ⟨es, clock, hh, _⟩, _⟩ := h.map.ex
  have := h.cells
  unfold Cells at this
  rw [e, hh] at this
  cases this
/-- What an operation on a store does to the world. -/
structure Op17 (w w' : World) (b mb : Nat) (T T' : List Pl) : Prop where
  st : StX w' b mb T'
  ho : Only (allX b mb T) w w'
  new : ∀ x ∈ allX b mb T', x ∈ allX b mb T ∨ w.heap.size ≤ x
theorem Op17.same {w w' : World} {b mb : Nat} {T : List Pl} (h : StX w b mb T) (ho : Only [] w w') : Op17 w w' b mb T T :=
  ⟨h.keep ho (by simp), ho.of0, fun x hx => .inl hx⟩
theorem mem_putBy {k : List UInt8} {t' a : Pl} {T : List Pl} (h : a ∈ putBy Pl.nm k t' T) : a = t' ∨ (a ∈ T ∧ a.nm ≠ k) := by
  unfold putBy at h
  obtain ⟨c, hc, rfl⟩ := List.mem_map.1 h
  by_cases hk : c.nm = k
  · left; rw [if_pos (by simpa using hk)]
  · right; rw [if_neg (by simpa using hk)]; exact ⟨hc, hk⟩
theorem StX.put {w w' : World} {b mb : Nat} {T : List Pl} {k : List UInt8} {t t' : Pl} (h : StX w b mb T) (hf : fT T k = some t) (hnm : t'.nm = t.nm) (hp : t'.p = t.p) (hm : t'.m = t.m) (hfd : FdAt w' t'.p t'.m t'.v t'.fd) (ho : Only t.own w w') (hnew : NewOf w t.v t'.v) :
    Op17 w w' b mb T (putBy Pl.nm k t' T) := by
  obtain ⟨ht, hk⟩ := fT_mem hf
  have hpo : ∀ x ∈ t'.own, x ∈ t.own ∨ w.heap.size ≤ x := by
    intro x hx
    simp only [Pl.own, List.cons_append, List.nil_append, List.mem_cons] at hx ⊢
    rcases hx with rfl | rfl | hx
    · left; left; exact hp
    · left; right; left; exact hm
    · rcases hnew x (by simpa [rb] using hx) with h | h
      · left; right; right; simpa [rb] using h
      · right; exact h
  have hlts := h.lts
  have hkeep : ∀ a ∈ T, a.nm ≠ k → ∀ x ∈ a.own, x ∉ t.own := fun a ha hne => h.dis a ha t ht (by rw [hk]; exact hne)
  have hlt' : ∀ a ∈ T, ∀ x ∈ a.own, x < w.heap.size := fun a ha x hx => hlts x (own_mem ha hx)
  refine ⟨⟨h.cells.only ho (h.dib t ht).1, ?_, ?_, ?_, ?_, ?_, ?_, ?_⟩, ?_, ?_⟩
  · have : ptT (putBy Pl.nm k t' T) = ptT T := by
      funext k'
      unfold ptT fT
      rw [putBy_find Pl.nm k t' T (by rw [hnm, hk])]
      by_cases he : k' = k
      · subst he
        rw [if_pos rfl]
        unfold fT at hf
        rw [hf]
        show some (Value.pointer (some ⟨t'.p, 0, none⟩)) = some (Value.pointer (some ⟨t.p, 0, none⟩))
        rw [hp]
      · rw [if_neg he]
    rw [this, show (putBy Pl.nm k t' T).length = T.length from by unfold putBy; simp]
    exact h.map.only ho (h.dib t ht).2
  · intro a ha
    rcases mem_putBy ha with rfl | ⟨ha, hne⟩
    · exact hfd
    · exact (h.fds a ha).keep ho (hkeep a ha hne)
  · rw [sorted_keys Pl.nm, putBy_keys Pl.nm k t' T (by rw [hnm, hk]), ← sorted_keys]; exact h.srt
  · intro a ha c hc hne x hx
    rcases mem_putBy ha with rfl | ⟨ha2, hna⟩
    · rcases mem_putBy hc with rfl | ⟨hc2, hnc⟩
      · exact absurd rfl hne
      · intro hxc
        rcases hpo x hx with h1 | h1
        · exact hkeep c hc2 hnc x hxc h1
        · have := hlt' c hc2 x hxc; omega
    · rcases mem_putBy hc with rfl | ⟨hc2, hnc⟩
      · intro hxc
        rcases hpo x hxc with h1 | h1
        · exact hkeep a ha2 hna x hx h1
        · have := hlt' a ha2 x hx; omega
      · exact h.dis a ha2 c hc2 hne x hx
  · intro a ha
    rcases mem_putBy ha with rfl | ⟨ha, _⟩
    · have hd := h.dib t ht
      have hb1 := h.cells.lt
      have hb2 := h.map.lt
      refine ⟨fun hx => ?_, fun hx => ?_⟩
      · rcases hpo _ hx with h1 | h1
        · exact hd.1 h1
        · omega
      · rcases hpo _ hx with h1 | h1
        · exact hd.2 h1
        · omega
    · exact h.dib a ha
  · unfold putBy; rw [List.length_map]; exact h.cap
  · intro a ha
    rcases mem_putBy ha with rfl | ⟨ha, _⟩
    · rw [hnm]; exact h.nml t ht
    · exact h.nml a ha
  · exact ho.mono fun x hx => .inl (own_mem ht hx)
  · intro x hx
    unfold allX at hx
    simp only [List.mem_cons] at hx
    rcases hx with rfl | rfl | hx
    · left; simp [allX]
    · left; simp [allX]
    · obtain ⟨a, ha, hxa⟩ := List.mem_flatMap.1 hx
      rcases mem_putBy ha with rfl | ⟨ha2, _⟩
      · exact (hpo x hxa).imp (own_mem ht) id
      · exact .inl (own_mem ha2 hxa)
set_option maxRecDepth 100000 in
theorem store_fresh (w : World) : Calls Tryz.prog 32 #[] w fun e w' => e = .returned (.pointer (some ⟨w.heap.size + 1, 0, none⟩)) ∧ w' = (w.alloc (.map #[] 0)).alloc (.cells #[.int .i64 (-1), .int .i64 0, .slice none 0 0, .map (some w.heap.size)] 78) := by
  have hmm := @run_makeMap Tryz.prog
  go_enter Tryz.func32, Tryz.ntmps32
  go_wp2_with fail
  go_ret
  exact ⟨by simp, rfl⟩
theorem fresh_at (w : World) : FdAt ((w.alloc (.map #[] 0)).alloc (.cells #[.int .i64 (-1), .int .i64 0, .slice none 0 0, .map (some w.heap.size)] 78)) (w.heap.size + 1) w.heap.size (.slice none 0 0) ⟨-1, 0, []⟩ := by
  refine ⟨?_, World.ownsRow_nil _ _ _ _, ?_, by simp, by simp⟩
  · have := Cells.new (w.alloc (.map #[] 0)) 78 [.int .i64 (-1), .int .i64 0, .slice none 0 0, .map (some w.heap.size)]
    rw [World.size_alloc] at this
    exact this
  · exact (MapF.made w).only ((Only.refl [] _).alloc _) (by simp)
set_option maxRecDepth 100000 in
theorem store_new (w : World) : Calls Tryz.prog 10 #[] w fun e w' => e = .returned (.pointer (some ⟨w.heap.size + 1, 0, none⟩)) ∧ StX w' (w.heap.size + 1) w.heap.size [] ∧ Only [] w w' := by
  have hmm := @run_makeMap Tryz.prog
  have hs : StX ((w.alloc (.map #[] 0)).alloc (.cells #[.map (some w.heap.size)] 69)) (w.heap.size + 1) w.heap.size [] := by
    refine ⟨?_, ?_, by simp, List.Pairwise.nil, by simp, by simp, by simp, by simp⟩
    · have := Cells.new (w.alloc (.map #[] 0)) 69 [.map (some w.heap.size)]
      rw [World.size_alloc] at this
      exact this
    · exact (MapF.made w).only ((Only.refl [] _).alloc _) (by simp)
  have HS := Lib.hid hs
  clear hs
  go_enter Tryz.func10, Tryz.ntmps10
  go_wp2_with fail
  go_ret
  exact ⟨by simp, HS.out, ((Only.refl [] w).alloc _).alloc _⟩
end Go.Proofs.YtjfnkjpnjiobjaaGreat
namespace Go.Proofs.YtjfnkjpnjiobjaaGreat
open Go.RowKit
def failF (f : Fd) (now : Int) : Fd := ⟨now, min (f.fai + 1) 1000, f.ps⟩
def withF (t : Pl) (f : Fd) : Pl := ⟨t.nm, f, t.p, t.m, t.v⟩
/-- The answer of an operation that asks find first. -/
def fndE (o : Option Pl) (now : Int) : Int := match o with
  | none => 4
  | some _ => if okT now then 0 else 1
theorem fndV_none {T : List Pl} {k : List UInt8} (now : Int) (h : fT T k = none) : fndV (fT T k) now = .tuple #[.pointer none, .int .i64 4] := by rw [h]; rfl
theorem fndV_bad {T : List Pl} {k : List UInt8} {t : Pl} {now : Int} (h : fT T k = some t) (hn : okT now = false) : fndV (fT T k) now = .tuple #[.pointer none, .int .i64 1] := by rw [h]; unfold fndV; rw [hn]; rfl
theorem fndV_ok {T : List Pl} {k : List UInt8} {t : Pl} {now : Int} (h : fT T k = some t) (hn : okT now = true) : fndV (fT T k) now = .tuple #[.pointer (some ⟨t.p, 0, none⟩), .int .i64 0] := by rw [h]; unfold fndV; rw [hn]; rfl
theorem okT_iff {now : Int} : okT now = true ↔ 0 ≤ now ∧ now ≤ 1099511627776 := by unfold okT; simp
def failT (T : List Pl) (k : List UInt8) (now : Int) : List Pl := match fT T k with
  | none => T
  | some t => if okT now then putBy Pl.nm k (withF t (failF t.fd now)) T else T
set_option maxRecDepth 100000 in
theorem store_fail (b mb : Nat) (T : List Pl) (k : List UInt8) (hk : k.length ≤ maxLen) (now : Int) (w : World) (h : StX w b mb T) :
    Calls Tryz.prog 16 #[.pointer (some ⟨b, 0, none⟩), .string ⟨k.toArray⟩, .int .i64 now] w fun e w' => e = .returned (.int .i64 (fndE (fT T k) now)) ∧ Op17 w w' b mb T (failT T k now) := by
  have CF := Lib.hid (store_find b mb T k hk now w h)
  have HX := Lib.hid h
  cases hf : fT T k with
  | none =>
    rw [fndV_none now hf] at CF
    have hT : failT T k now = T := by unfold failT; rw [hf]
    rw [hT]
    go_enter Tryz.func16, Tryz.ntmps16
    go_wp2_with fail
    refine CF.out.mono ?_
    rintro e w1 ⟨rfl, rfl⟩
    go_wp2_with fail
    go_ret
    exact ⟨rfl, Op17.same HX.out (Only.refl _ _)⟩
  | some t =>
    cases hn : okT now with
    | false =>
      rw [fndV_bad hf hn] at CF
      have hT : failT T k now = T := by unfold failT; rw [hf]; show (if okT now = true then _ else _) = _; rw [hn]; rfl
      have hE : fndE (some t) now = 1 := by unfold fndE; rw [hn]; rfl
      rw [hT, hE]
      go_enter Tryz.func16, Tryz.ntmps16
      go_wp2_with fail
      refine CF.out.mono ?_
      rintro e w1 ⟨rfl, rfl⟩
      go_wp2_with fail
      go_ret
      exact ⟨rfl, Op17.same HX.out (Only.refl _ _)⟩
    | true =>
      rw [fndV_ok hf hn] at CF
      have hT : failT T k now = putBy Pl.nm k (withF t (failF t.fd now)) T := by unfold failT; rw [hf]; show (if okT now = true then _ else _) = _; rw [hn]; rfl
      have hE : fndE (some t) now = 0 := by unfold fndE; rw [hn]; rfl
      rw [hT, hE]
      have ht := (fT_mem hf).1
      have hfd := h.fds t ht
      have hnb := hfd.nb
      obtain ⟨hn0, hn1⟩ := okT_iff.1 hn
      have p1 := hfd.cells.cell (k := 1) rfl
      have p0 := hfd.cells.cell (k := 0) rfl
      have f0 := hfd.cells.frozen 0
      have hlt := hfd.cells.lt
      obtain ⟨w2, hw2⟩ : ∃ w2, w.setCell ⟨t.p, 0, none⟩ (.int .i64 now) = w2 := ⟨_, rfl⟩
      have c2 : Cells w2 t.p 78 _ := hw2 ▸ hfd.cells.set 0 (.int .i64 now)
      have p2 := c2.cell (k := 1) rfl
      have f2 := c2.frozen 1
      have l2 := c2.lt
      obtain ⟨mn, hmn⟩ : ∃ mn, min (t.fd.fai + 1) 1000 = mn := ⟨_, rfl⟩
      obtain ⟨w3, hw3⟩ : ∃ w3, w2.setCell ⟨t.p, 1, none⟩ (.int .i64 mn) = w3 := ⟨_, rfl⟩
      have c3 : Cells w3 t.p 78 [.int .i64 now, .int .i64 mn, t.v, .map (some t.m)] := hw3 ▸ c2.set 1 (.int .i64 mn)
      have ho : Only [t.p] w w3 := hw3 ▸ (hw2 ▸ (Only.refl _ _).setCell (p := ⟨t.p, 0, none⟩) (.inl (by simp)) _).setCell (p := ⟨t.p, 1, none⟩) (.inl (by simp)) _
      have hvp := hfd.vp
      have hpm := hfd.pm
      have hfd3 : FdAt w3 t.p t.m t.v (failF t.fd now) := by
        refine ⟨?_, own_keep hfd.row ho (by simpa using hvp), hfd.map.only ho (by simpa using fun e => hpm e.symm), hfd.cap, ?_⟩
        · unfold failF
          rw [hmn]; exact c3
        · unfold failF
          exact ⟨by show -1 ≤ now; omega, by show now ≤ _; omega, by show 0 ≤ min _ _; omega, by show min _ _ ≤ _; omega⟩
      have HF := Lib.hid (HX.out.put (t' := withF t (failF t.fd now)) hf rfl rfl rfl hfd3 (ho.mono (fun x hx => .inl (by simp at hx; subst hx; simp [Pl.own]))) (NewOf.refl _ _))
      clear hfd3 ho hvp hpm c2 c3 hfd h
      go_enter Tryz.func16, Tryz.ntmps16
      go_wp2_with fail
      refine CF.out.mono ?_
      rintro e w1 ⟨rfl, rfl⟩
      go_wp2_with fail
      go_ret
      exact ⟨rfl, HF.out⟩
end Go.Proofs.YtjfnkjpnjiobjaaGreat
namespace Go.Proofs.YtjfnkjpnjiobjaaGreat
open Go.RowKit
def Po.mark (x : Po) : Po := ⟨x.sq, x.it, true⟩
def markAt (ps : List Po) (i : Nat) : List Po := match ps[i]? with
  | some x => ps.set i x.mark
  | none => ps
def markF (f : Fd) (i : Nat) : Fd := ⟨f.pol, f.fai, markAt f.ps i⟩
def markT (T : List Pl) (k id : List UInt8) : List Pl := match fT T k with
  | none => T
  | some t => match idx t.fd.ps id with
    | none => T
    | some i => putBy Pl.nm k (withF t (markF t.fd i)) T
def markE (o : Option Pl) (id : List UInt8) : Int := match o with
  | none => 4
  | some t => if (idx t.fd.ps id).isSome then 0 else 4
theorem markAt_some {ps : List Po} {i : Nat} {x : Po} (h : ps[i]? = some x) : markAt ps i = ps.set i x.mark := by unfold markAt; rw [h]
theorem markAt_length (ps : List Po) (i : Nat) : (markAt ps i).length = ps.length := by
  unfold markAt
  split <;> simp
theorem idx_ids {ps qs : List Po} (h : ps.map (·.it.id) = qs.map (·.it.id)) (k : List UInt8) : idx ps k = idx qs k := by
  have e : ∀ l : List Po, idx l k = (l.map (·.it.id)).findIdx? (fun s => s == k) := by
    intro l
    unfold idx
    rw [List.findIdx?_map]
    rfl
  rw [e, e, h]
theorem markAt_ids (ps : List Po) (i : Nat) : (markAt ps i).map (·.it.id) = ps.map (·.it.id) := by
  unfold markAt
  split
  · rename_i x hx
    obtain ⟨hi, rfl⟩ := List.getElem?_eq_some_iff.1 hx
    rw [List.map_set]
    apply List.ext_getElem
    · simp
    · intro j h1 h2
      rw [List.getElem_set]
      split
      · subst_vars; simp [Po.mark]
      · rfl
  · rfl
theorem atF_ids {ps qs : List Po} (h : ps.map (·.it.id) = qs.map (·.it.id)) : atF ps = atF qs := by
  funext k
  unfold atF
  rw [idx_ids h]
theorem idx_lt {ps : List Po} {k : List UInt8} {i : Nat} (h : idx ps k = some i) : i < ps.length := by
  unfold idx at h
  exact (List.findIdx?_eq_some_iff_getElem.1 h).1
set_option maxRecDepth 100000 in
set_option maxHeartbeats 1000000 in
theorem store_mark (b mb : Nat) (T : List Pl) (k : List UInt8) (hk : k.length ≤ maxLen) (id : List UInt8) (hid : id.length ≤ maxLen) (w : World) (h : StX w b mb T) :
    Calls Tryz.prog 15 #[.pointer (some ⟨b, 0, none⟩), .string ⟨k.toArray⟩, .string ⟨id.toArray⟩] w fun e w' => e = .returned (.int .i64 (markE (fT T k) id)) ∧ Op17 w w' b mb T (markT T k id) := by
  have CF := Lib.hid (store_find b mb T k hk 0 w h)
  have HX := Lib.hid h
  cases hf : fT T k with
  | none =>
    rw [fndV_none 0 hf] at CF
    have hT : markT T k id = T := by unfold markT; rw [hf]
    rw [hT]
    go_enter Tryz.func15, Tryz.ntmps15
    go_wp2_with fail
    refine CF.out.mono ?_
    rintro e w1 ⟨rfl, rfl⟩
    go_wp2_with fail
    go_ret
    exact ⟨rfl, Op17.same HX.out (Only.refl _ _)⟩
  | some t =>
    rw [fndV_ok hf (by decide)] at CF
    have ht := (fT_mem hf).1
    have hfd := h.fds t ht
    have p3 := hfd.cells.cell (k := 3) rfl
    have hlk := hfd.map.lookOk (t := 76) (e := 3) (z := .int .i64 0) Tryz.underlying76 (Tryz.zeroValue3 w) id hid
    cases hi : idx t.fd.ps id with
    | none =>
      rw [show atF t.fd.ps id = none from by unfold atF; rw [hi]; rfl] at hlk
      have hT : markT T k id = T := by unfold markT; rw [hf]; dsimp only; rw [hi]
      have hE : markE (some t) id = 4 := by unfold markE; dsimp only; rw [hi]; rfl
      rw [hT, hE]
      clear h
      go_enter Tryz.func15, Tryz.ntmps15
      go_wp2_with fail
      refine CF.out.mono ?_
      rintro e w1 ⟨rfl, rfl⟩
      go_wp2_with fail
      go_ret
      exact ⟨rfl, Op17.same HX.out (Only.refl _ _)⟩
    | some i =>
      rw [show atF t.fd.ps id = some (.int .i64 (i : Int)) from by unfold atF; rw [hi]; rfl] at hlk
      have hT : markT T k id = putBy Pl.nm k (withF t (markF t.fd i)) T := by unfold markT; rw [hf]; dsimp only; rw [hi]
      have hE : markE (some t) id = 0 := by unfold markE; dsimp only; rw [hi]; rfl
      have hil := idx_lt hi
      obtain ⟨x, hx⟩ : ∃ x, t.fd.ps[i]? = some x := ⟨_, List.getElem?_eq_getElem hil⟩
      obtain ⟨g, cap, hv⟩ := own_formX hfd.row (by omega)
      have hrow := hfd.row
      rw [hv] at hrow
      have p2 := hfd.cells.cell (k := 2) rfl
      rw [hv] at p2
      have q4 : w.cell? ⟨g, i * 5 + 4, none⟩ = some (.bool x.rd) := by
        have := hrow.cells (g := g) rfl (i * 5 + 4) _ (poL_get t.fd.ps i 4 x hx (by omega))
        rw [Addr.add_lit, Nat.zero_add] at this
        exact this
      have f4 : w.frozen? ⟨g, i * 5 + 4, none⟩ = false := hrow.frozenAt _
      have lg : g < w.heap.size := (hrow.lt g rfl).2
      obtain ⟨w3, hw3⟩ : ∃ w3, w.setCell ⟨g, i * 5 + 4, none⟩ (.bool true) = w3 := ⟨_, rfl⟩
      have ho : Only [g] w w3 := hw3 ▸ (Only.refl _ _).setCell (p := ⟨g, i * 5 + 4, none⟩) (.inl (by simp)) _
      have hvp := hfd.vp
      have hvm := hfd.vm
      rw [hv] at hvp hvm
      have hfd3 : FdAt w3 t.p t.m t.v (markF t.fd i) := by
        refine ⟨hfd.cells.only ho (by simpa [Value.ownBlock] using fun e => hvp (by simp [Value.ownBlock, e])), ?_, ?_, ?_, hfd.nb⟩
        · have h1 := (hrow.stored (i * 5 + 4) (.bool true)).1
          have hfs : (poL t.fd.ps).set (i * 5 + 4) (.bool true) = poL (t.fd.ps.set i x.mark) := flat_set Po.cells 5 (fun _ => rfl) t.fd.ps i 4 x x.mark (.bool true) hx (by omega) rfl
          rw [hfs, hw3] at h1
          show World.ownsRow w3 _ _ _ _ (markAt t.fd.ps i).length (poL (markAt t.fd.ps i))
          rw [markAt_length, markAt_some hx, hv]
          exact h1
        · show MapF w3 _ (markAt t.fd.ps i).length (atF (markAt t.fd.ps i))
          rw [markAt_length, atF_ids (markAt_ids _ _)]
          exact hfd.map.only ho (by simpa [Value.ownBlock] using fun e => hvm (by simp [Value.ownBlock, e]))
        · show (markAt t.fd.ps i).length ≤ 200
          rw [markAt_length]; exact hfd.cap
      have HF := Lib.hid (HX.out.put (t' := withF t (markF t.fd i)) hf rfl rfl rfl hfd3 (ho.mono (fun y hy => .inl (by simp at hy; subst hy; simp [Pl.own, hv, rb, Value.ownBlock]))) (NewOf.refl _ _))
      rw [hT, hE]
      clear hfd3 ho hvp hvm hfd hrow h
      go_enter Tryz.func15, Tryz.ntmps15
      go_wp2_with fail
      refine CF.out.mono ?_
      rintro e w1 ⟨rfl, rfl⟩
      have hil' : (i : Int) < (t.fd.ps.length : Int) := by omega
      go_wp2_with fail
      go_ret
      exact ⟨rfl, HF.out⟩
end Go.Proofs.YtjfnkjpnjiobjaaGreat
namespace Go.Proofs.YtjfnkjpnjiobjaaGreat
open Go.RowKit
theorem mem_delBy {k : List UInt8} {a : Pl} {T : List Pl} (h : a ∈ delBy Pl.nm k T) : a ∈ T := (List.mem_filter.1 h).1
theorem StX.del {w w' : World} {b mb : Nat} {T : List Pl} (h : StX w b mb T) (k : List UInt8) (hm : MapF w' mb (delBy Pl.nm k T).length (ptT (delBy Pl.nm k T))) (ho : Only [mb] w w') : Op17 w w' b mb T (delBy Pl.nm k T) := by
  have hbm := h.bm
  refine ⟨⟨h.cells.only ho (by simpa using hbm), hm, fun t ht => (h.fds t (mem_delBy ht)).keep ho (fun x hx => ?_), h.srt.sublist List.filter_sublist, fun t ht u hu => h.dis t (mem_delBy ht) u (mem_delBy hu), fun t ht => h.dib t (mem_delBy ht), Nat.le_trans (List.length_filter_le _ _) h.cap, fun t ht => h.nml t (mem_delBy ht)⟩, ho.mono (fun x hx => .inl (by simp at hx; subst hx; simp [allX])), fun x hx => ?_⟩
  · have := (h.dib t (mem_delBy ht)).2
    simp only [List.mem_cons, List.not_mem_nil, or_false]
    intro e
    subst e
    exact this hx
  · left
    unfold allX at hx
    simp only [List.mem_cons] at hx
    rcases hx with rfl | rfl | hx
    · simp [allX]
    · simp [allX]
    · obtain ⟨a, ha, hxa⟩ := List.mem_flatMap.1 hx
      exact own_mem (mem_delBy ha) hxa
def unT (T : List Pl) (k : List UInt8) : List Pl := match fT T k with
  | none => T
  | some _ => delBy Pl.nm k T
theorem ptT_ins {T : List Pl} {t : Pl} (hn : fT T t.nm = none) : ptT (insBy Pl.nm t T) = fun k' => if k' = t.nm then some (.pointer (some ⟨t.p, 0, none⟩)) else ptT T k' := by
  have hne : ∀ a ∈ T, a.nm ≠ t.nm := fun a ha e => by
    have := List.find?_eq_none.1 hn a ha
    simp [e] at this
  funext k'
  unfold ptT fT
  rw [insBy_find Pl.nm t T k' hne]
  by_cases he : k' = t.nm
  · rw [if_pos he, if_pos he]; rfl
  · rw [if_neg he, if_neg he]
theorem StX.ins {w w2 w' : World} {b mb : Nat} {T : List Pl} {t : Pl} (h : StX w b mb T) (hn : fT T t.nm = none) (hnm : nmL t.nm = true) (hcap : T.length < 20) (h2 : Only [] w w2) (hfd : FdAt w2 t.p t.m t.v t.fd) (hnew : ∀ x ∈ t.own, w.heap.size ≤ x) (ho : Only [mb] w2 w') (hm : MapF w' mb (T.length + 1) (fun k' => if k' = t.nm then some (.pointer (some ⟨t.p, 0, none⟩)) else ptT T k')) :
    Op17 w w' b mb T (insBy Pl.nm t T) := by
  have hbm := h.bm
  have hne : ∀ a ∈ T, a.nm ≠ t.nm := fun a ha e => by
    have := List.find?_eq_none.1 hn a ha
    simp [e] at this
  have hmem : ∀ a, a ∈ insBy Pl.nm t T ↔ a = t ∨ a ∈ T := fun a => by rw [(insBy_perm Pl.nm t T).mem_iff, List.mem_cons]
  have hb := h.cells.lt
  have hml := h.map.lt
  have hlts := h.lts
  have hol : ∀ a ∈ T, ∀ x ∈ a.own, x < w.heap.size := fun a ha x hx => hlts x (own_mem ha hx)
  have k2 := h.keep h2 (by simp)
  refine ⟨⟨k2.cells.only ho (by simpa using hbm), ?_, ?_, insBy_sorted Pl.nm t T h.srt hne, ?_, ?_, ?_, ?_⟩, ?_, ?_⟩
  · rw [insBy_length, ptT_ins hn]; exact hm
  · intro a ha
    rcases (hmem a).1 ha with rfl | ha
    · exact hfd.keep ho (fun x hx => by have := hnew x hx; simp only [List.mem_cons, List.not_mem_nil, or_false]; omega)
    · exact (k2.fds a ha).keep ho (fun x hx => by
        have := (h.dib a ha).2
        simp only [List.mem_cons, List.not_mem_nil, or_false]
        intro e; subst e; exact this hx)
  · intro a ha c hc hac x hx
    rcases (hmem a).1 ha with rfl | ha2
    · rcases (hmem c).1 hc with rfl | hc2
      · exact absurd rfl hac
      · intro hxc
        have := hnew x hx
        have := hol c hc2 x hxc
        omega
    · rcases (hmem c).1 hc with rfl | hc2
      · intro hxc
        have := hnew x hxc
        have := hol a ha2 x hx
        omega
      · exact h.dis a ha2 c hc2 hac x hx
  · intro a ha
    rcases (hmem a).1 ha with rfl | ha2
    · exact ⟨fun hx => by have := hnew _ hx; omega, fun hx => by have := hnew _ hx; omega⟩
    · exact h.dib a ha2
  · rw [insBy_length]; omega
  · intro a ha
    rcases (hmem a).1 ha with rfl | ha2
    · exact hnm
    · exact h.nml a ha2
  · exact (h2.of0).trans ho (fun x hx => .inl (by simp at hx; subst hx; simp [allX]))
  · intro x hx
    unfold allX at hx
    simp only [List.mem_cons] at hx
    rcases hx with rfl | rfl | hx
    · left; simp [allX]
    · left; simp [allX]
    · obtain ⟨a, ha, hxa⟩ := List.mem_flatMap.1 hx
      rcases (hmem a).1 ha with rfl | ha2
      · exact .inr (hnew x hxa)
      · exact .inl (own_mem ha2 hxa)
def subE (T : List Pl) (k : List UInt8) : Int := if nmL k = true then (if (fT T k).isSome = true then 5 else if T.length = 20 then 11 else 0) else 3
set_option maxRecDepth 100000 in
set_option maxHeartbeats 1000000 in
theorem store_sub (b mb : Nat) (T : List Pl) (k : List UInt8) (hk : k.length ≤ maxLen) (w : World) (h : StX w b mb T) :
    Calls Tryz.prog 11 #[.pointer (some ⟨b, 0, none⟩), .string ⟨k.toArray⟩] w fun e w' => e = .returned (.int .i64 (subE T k)) ∧ ∃ T', Op17 w w' b mb T T' ∧ T'.map (fun t => (t.nm, t.fd)) = (if subE T k = 0 then insBy Prod.fst (k, (⟨-1, 0, []⟩ : Fd)) (T.map fun t => (t.nm, t.fd)) else T.map fun t => (t.nm, t.fd)) := by
  have HX := Lib.hid h
  have CN := Lib.hid (fun w' => shard_name k w' (by unfold maxLen at hk; omega))
  have c0 := h.cells.cell (k := 0) rfl
  have hlk := h.map.look (t := 67) (e := 70) (z := .pointer none) Tryz.underlying67 (Tryz.zeroValue70 w) k hk
  cases hn : nmL k with
  | false =>
    have hE : subE T k = 3 := by unfold subE; rw [hn]; rfl
    rw [hE]
    simp only [hn] at CN
    clear h hlk
    go_enter Tryz.func11, Tryz.ntmps11
    go_wp2_with fail
    refine (CN.out _).mono ?_
    rintro e w1 ⟨rfl, rfl⟩
    go_wp2_with fail
    go_ret
    exact ⟨rfl, T, Op17.same HX.out (Only.refl _ _), rfl⟩
  | true =>
  simp only [hn] at CN
  cases hf : fT T k with
  | some t =>
    rw [show (ptT T k) = some (.pointer (some ⟨t.p, 0, none⟩)) from by unfold ptT; rw [hf]; rfl] at hlk
    have hE : subE T k = 5 := by unfold subE; rw [hn, hf]; rfl
    rw [hE]
    clear h
    go_enter Tryz.func11, Tryz.ntmps11
    go_wp2_with fail
    refine (CN.out _).mono ?_
    rintro e w1 ⟨rfl, rfl⟩
    go_wp2_with fail
    go_ret
    exact ⟨rfl, T, Op17.same HX.out (Only.refl _ _), rfl⟩
  | none =>
    rw [show (ptT T k) = none from by unfold ptT; rw [hf]; rfl] at hlk
    have hlen := h.map.len (t := 67) (e := 70) Tryz.underlying67
    by_cases h20 : T.length = 20
    · have hE : subE T k = 11 := by unfold subE; rw [hn, hf, h20]; rfl
      rw [hE]
      rw [h20] at hlen
      clear h
      go_enter Tryz.func11, Tryz.ntmps11
      go_wp2_with fail
      refine (CN.out _).mono ?_
      rintro e w1 ⟨rfl, rfl⟩
      go_wp2_with fail
      go_ret
      exact ⟨rfl, T, Op17.same HX.out (Only.refl _ _), rfl⟩
    · have hE : subE T k = 0 := by unfold subE; rw [hn, hf, if_neg h20]; rfl
      have hcap : T.length < 20 := by have := h.cap; omega
      have e20 : ((T.length : Int) == 20) = false := by simp; omega
      rw [hE]
      have hb := h.cells.lt
      have hml := h.map.lt
      have CF := Lib.hid (fun w' => store_fresh w')
      obtain ⟨w2, hw2⟩ : ∃ w2, (w.drew.alloc (.map #[] 0)).alloc (.cells #[.int .i64 (-1), .int .i64 0, .slice none 0 0, .map (some w.drew.heap.size)] 78) = w2 := ⟨_, rfl⟩
      have hO2 : Only [] w w2 := hw2 ▸ (((Only.refl [] w).drew).alloc _).alloc _
      have hfr : FdAt w2 (w.heap.size + 1) w.heap.size (.slice none 0 0) ⟨-1, 0, []⟩ := hw2 ▸ fresh_at w.drew
      have h2 := h.keep hO2 (by simp)
      have c2 := h2.cells.cell (k := 0) rfl
      obtain ⟨w3, hst, hm3, ht3⟩ := h2.map.store (t := 67) (e := 70) Tryz.underlying67 (by unfold maxLen; omega) k hk (.pointer (some ⟨w.heap.size + 1, 0, none⟩))
      rw [show (ptT T k).isSome = false from by unfold ptT; rw [hf]; rfl] at hm3
      have hF := h.ins (t := ⟨k, ⟨-1, 0, []⟩, w.heap.size + 1, w.heap.size, .slice none 0 0⟩) hf hn hcap hO2 hfr (by intro x hx; simp [Pl.own, rb, Value.ownBlock] at hx; omega) (mapTurned_only ht3) hm3
      have HF := Lib.hid hF
      have HW2 := Lib.hid hw2
      clear h hw2 hO2 hfr h2 hm3 ht3 hF
      go_enter Tryz.func11, Tryz.ntmps11
      go_wp2_with fail
      refine (CN.out _).mono ?_
      rintro e w1 ⟨rfl, rfl⟩
      go_wp2_with fail
      go_region_law (go_simp; go_at_call 32; go_loud (refine (CF.out _).mono ?_; rintro e w4 ⟨rfl, hw4⟩; have hw5 := hw4.trans HW2.out; clear hw4; subst hw5))
      all_goals
        go_wp2_with fail
        go_ret
        exact ⟨rfl, _, HF.out, insBy_map Pl.nm (fun t => (t.nm, t.fd)) Prod.fst (fun _ => rfl) _ _⟩
end Go.Proofs.YtjfnkjpnjiobjaaGreat
namespace Go.Proofs.YtjfnkjpnjiobjaaGreat
open Go.RowKit
set_option maxRecDepth 100000 in
theorem ingest1 (x : It) (hx : x.Len) (w : World) : Calls Tryz.prog 35 #[.agg #[.string ⟨x.id.toArray⟩, .string ⟨x.ti.toArray⟩, .string ⟨x.li.toArray⟩]] w fun e w' => e = .returned (.bool (!itR x)) ∧ Only [] w w' := by
  have C := Lib.hid (fun w' => feed_right x hx w')
  obtain ⟨r, hr⟩ : ∃ r, itR x = r := ⟨_, rfl⟩
  rw [hr] at C ⊢
  clear hr
  go_enter Tryz.func35, Tryz.ntmps35
  go_wp2_with fail
  refine (C.out _).mono ?_
  rintro e w1 ⟨rfl, ho⟩
  have HO := Lib.hid (((Only.refl [] w).alloc _).tr ho)
  clear ho
  go_wp2_with fail
  go_ret
  exact ⟨rfl, HO.out⟩
set_option maxRecDepth 100000 in
set_option maxHeartbeats 1000000 in
theorem indexFunc_it (v : Value) (l : List It) (w : World) (hs : SlAt w w.heap.size v 3 l.length (itL l)) (hl : l.length ≤ 1000000) (hx : ∀ x ∈ l, x.Len) :
    Calls Tryz.prog 55 #[v, .func (.func 35) #[] #[]] w fun e w' => (∃ i : Int, e = .returned (.int .i64 i) ∧ (decide (0 ≤ i) = l.any (fun x => !itR x))) ∧ Only [] w w' := by
  obtain ⟨A, c, rfl⟩ := hs.shape
  have HS := Lib.hid hs
  have HX := Lib.hid hx
  clear hs hx
  go_enter Tryz.func55, Tryz.ntmps55
  go_wp2_with fail
  go_loopw [8] (fun i wr => ∃ k : Nat, k ≤ l.length ∧ i = .int .i64 k ∧ Hid ((l.take k).any (fun x => !itR x) = false) ∧ Only [] w wr) (fun i _ => l.length - (intOf i).toNat)
  case atStart => exact ⟨0, by omega, rfl, Lib.hid rfl, Only.refl _ _⟩
  case round =>
    obtain ⟨k, hk, rfl, hno, ho⟩ := hrel
    by_cases hlt : k < l.length
    · have hlt' : (k : Int) < (l.length : Int) := by omega
      have hk1 := List.getElem?_eq_getElem hlt
      obtain ⟨x, hx⟩ : ∃ x, l[k] = x := ⟨_, rfl⟩
      have hxl := HX.out l[k] (List.getElem_mem _)
      rw [hx] at hk1 hxl
      obtain ⟨ab, ao, ac, hv, hab, hc⟩ := (HS.out.only ho (Nat.le_refl _) (by simp)).at_ (by omega)
      have q0 : wr.cell? ⟨ab, ao + k * 3, none⟩ = some (.string ⟨x.id.toArray⟩) := hc (k * 3 + 0) _ (itL_get l k 0 x hk1 (by omega))
      have q1 : wr.cell? ⟨ab, ao + k * 3 + 1, none⟩ = some (.string ⟨x.ti.toArray⟩) := hc (k * 3 + 1) _ (itL_get l k 1 x hk1 (by omega))
      have q2 : wr.cell? ⟨ab, ao + k * 3 + 2, none⟩ = some (.string ⟨x.li.toArray⟩) := hc (k * 3 + 2) _ (itL_get l k 2 x hk1 (by omega))
      have F1 := Lib.hid (ingest1 x hxl wr)
      have HT : Hid ((l.take (k + 1)).any (fun x => !itR x) = !itR x) := by show _ = _; rw [List.take_add_one, hk1, List.any_append, hno.out]; simp
      have HA : Hid ((!itR x) = true → l.any (fun x => !itR x) = true) := fun h => List.any_eq_true.2 ⟨x, List.mem_of_getElem? hk1, h⟩
      injection hv with e1 e2 e3
      subst e1; subst e3
      clear e2 hc hx hk1 hno
      obtain ⟨rb1, hb⟩ : ∃ rb1, (!itR x) = rb1 := ⟨_, rfl⟩
      rw [hb] at F1 HA HT
      clear hb
      cases rb1 with
      | true =>
        have HR := Lib.hid (HA.out rfl)
        clear HT HA
        go_wp2_with (go_at_call 35; refine F1.out.mono ?_; rintro e w1 ⟨rfl, ho1⟩)
        go_ret
        exact ⟨⟨k, rfl, by rw [HR.out]; simp⟩, ho.tr0 ho1⟩
      | false =>
        clear HA
        go_wp2_with (go_at_call 35; refine F1.out.mono ?_; rintro e w1 ⟨rfl, ho1⟩)
        go_roundw
        case rel => exact ⟨k + 1, by omega, by go_num, HT, ho.tr0 ho1⟩
        case measure => simp [intOf]; omega
    · have hd0 : decide ((k : Int) < (l.length : Int)) = false := by simp; omega
      have HF : Hid (l.any (fun x => !itR x) = false) := by have := hno.out; rwa [List.take_of_length_le (by omega)] at this
      clear hno
      go_wp2_with fail
      go_ret
      exact ⟨⟨-1, rfl, by rw [HF.out]; simp⟩, ho⟩
set_option maxRecDepth 100000 in
theorem containsFunc_it (v : Value) (l : List It) (w : World) (hs : SlAt w w.heap.size v 3 l.length (itL l)) (hl : l.length ≤ 1000000) (hx : ∀ x ∈ l, x.Len) :
    Calls Tryz.prog 34 #[v, .func (.func 35) #[] #[]] w fun e w' => e = .returned (.bool (!l.all itR)) ∧ Only [] w w' := by
  have C := Lib.hid (indexFunc_it v l w hs hl hx)
  have hall : (l.any fun x => !itR x) = !l.all itR := by rw [List.not_all_eq_any_not]
  rw [hall] at C
  obtain ⟨A, c, rfl⟩ := hs.shape
  clear hs hx hall
  obtain ⟨r, hr⟩ : ∃ r, (!l.all itR) = r := ⟨_, rfl⟩
  rw [hr] at C ⊢
  clear hr
  go_enter Tryz.func34, Tryz.ntmps34
  go_wp2_with fail
  refine C.out.mono ?_
  rintro e w1 ⟨⟨i, rfl, hi⟩, ho⟩
  have HI := Lib.hid hi
  clear hi
  go_wp2_with fail
  go_ret
  exact ⟨by rw [← HI.out]; rfl, ho⟩
end Go.Proofs.YtjfnkjpnjiobjaaGreat
namespace Go.Proofs.YtjfnkjpnjiobjaaGreat
open Go.RowKit
abbrev Sv := List (List UInt8 × Fd)
def prT (T : List Pl) : Sv := T.map fun t => (t.nm, t.fd)
def ingS (s : Fd × Nat) (x : It) : Fd × Nat := (addF s.1 x, if addB s.1 x then s.2 + 1 else s.2)
def ingF (f : Fd) (l : List It) : Fd × Nat := l.foldl ingS (f, 0)
def ingR (S : Sv) (k : List UInt8) (l : List It) (now : Int) : Int × Int × Sv := match fnd S k with
  | none => (0, 4, S)
  | some f => if okT now then (if l.all itR then ((ingF f l).2, 0, putBy Prod.fst k (k, ⟨now, 0, (ingF f l).1.ps⟩) S) else (0, 1, S)) else (0, 1, S)
theorem ingF_step (f : Fd) (l : List It) (k : Nat) (x : It) (h : l[k]? = some x) : ingF f (l.take (k + 1)) = ingS (ingF f (l.take k)) x := by
  unfold ingF
  rw [List.take_add_one, h, List.foldl_append]; rfl
theorem ingF_nb (f : Fd) (l : List It) : (ingF f l).1.pol = f.pol ∧ (ingF f l).1.fai = f.fai ∧ (ingF f l).2 ≤ l.length := by
  unfold ingF
  have : ∀ (l : List It) (s : Fd × Nat), (l.foldl ingS s).1.pol = s.1.pol ∧ (l.foldl ingS s).1.fai = s.1.fai ∧ (l.foldl ingS s).2 ≤ s.2 + l.length := by
    intro l
    induction l with
    | nil => intro s; simp
    | cons x r ih =>
      intro s
      obtain ⟨h1, h2, h3⟩ := ih (ingS s x)
      rw [List.foldl_cons]
      refine ⟨h1.trans ?_, h2.trans ?_, Nat.le_trans h3 ?_⟩
      · unfold ingS addF; dsimp only; split <;> rfl
      · unfold ingS addF; dsimp only; split <;> rfl
      · unfold ingS; dsimp only [List.length_cons]; split <;> omega
  simpa using this l (f, 0)
set_option maxRecDepth 100000 in
set_option maxHeartbeats 2000000 in
theorem store_ingest (b mb : Nat) (T : List Pl) (k : List UInt8) (hk : k.length ≤ maxLen) (v : Value) (l : List It) (now : Int) (w : World) (h : StX w b mb T) (hs : ∀ w', Only (allX b mb T) w w' → SlAt w' w'.heap.size v 3 l.length (itL l)) (hl : l.length ≤ 1000000) (hx : ∀ x ∈ l, x.Len) :
    Calls Tryz.prog 12 #[.pointer (some ⟨b, 0, none⟩), .string ⟨k.toArray⟩, v, .int .i64 now] w fun e w' =>
      e = .returned (.tuple #[.int .i64 (ingR (prT T) k l now).1, .int .i64 (ingR (prT T) k l now).2.1]) ∧ ∃ T', Op17 w w' b mb T T' ∧ prT T' = (ingR (prT T) k l now).2.2 := by
  obtain ⟨A, c, rfl⟩ := (hs w (Only.refl _ _)).shape
  have CF := Lib.hid (store_find b mb T k hk now w h)
  have CI := Lib.hid (fun w' (ho : Only [] w w') => containsFunc_it _ l w' (hs w' ho.of0) hl hx)
  have HX := Lib.hid h
  have hfn : fnd (prT T) k = (fT T k).map (·.fd) := fnd_fT T k
  cases hf : fT T k with
  | none =>
    rw [fndV_none now hf] at CF
    have hR : ingR (prT T) k l now = (0, 4, prT T) := by unfold ingR; rw [hfn, hf]; rfl
    rw [hR]
    clear h hs
    go_enter Tryz.func12, Tryz.ntmps12
    go_wp2_with fail
    refine CF.out.mono ?_
    rintro e w1 ⟨rfl, rfl⟩
    go_wp2_with fail
    go_ret2
    exact ⟨rfl, T, Op17.same HX.out (Only.refl _ _), rfl⟩
  | some t =>
  cases hn : okT now with
  | false =>
    rw [fndV_bad hf hn] at CF
    have hR : ingR (prT T) k l now = (0, 1, prT T) := by unfold ingR; rw [hfn, hf]; show (if okT now = true then _ else _) = _; rw [hn]; rfl
    rw [hR]
    clear h hs
    go_enter Tryz.func12, Tryz.ntmps12
    go_wp2_with fail
    refine CF.out.mono ?_
    rintro e w1 ⟨rfl, rfl⟩
    go_wp2_with fail
    go_ret2
    exact ⟨rfl, T, Op17.same HX.out (Only.refl _ _), rfl⟩
  | true =>
  rw [fndV_ok hf hn] at CF
  cases ha : l.all itR with
  | false =>
    have hR : ingR (prT T) k l now = (0, 1, prT T) := by unfold ingR; rw [hfn, hf]; show (if okT now = true then _ else _) = _; rw [hn, if_pos rfl, ha]; rfl
    rw [hR]
    simp only [ha] at CI
    clear h hs
    go_enter Tryz.func12, Tryz.ntmps12
    go_wp2_with fail
    refine CF.out.mono ?_
    rintro e w1 ⟨rfl, rfl⟩
    go_wp2_with fail
    refine (CI.out _ (Only.refl _ _)).mono ?_
    rintro e w2 ⟨rfl, ho2⟩
    have HO2 := Lib.hid ho2
    clear ho2
    go_wp2_with fail
    go_ret2
    exact ⟨rfl, T, Op17.same HX.out HO2.out, rfl⟩
  | true =>
  have hR : ingR (prT T) k l now = (((ingF t.fd l).2 : Int), (0 : Int), putBy Prod.fst k (k, ⟨now, 0, (ingF t.fd l).1.ps⟩) (prT T)) := by unfold ingR; rw [hfn, hf]; show (if okT now = true then _ else _) = _; rw [hn, if_pos rfl, ha]; rfl
  rw [hR]
  simp only [ha] at CI
  have ht := (fT_mem hf).1
  have HS := Lib.hid (fun w' (ho : Only t.own w w') => hs w' (ho.mono fun x hx => .inl (own_mem ht hx)))
  have HF := Lib.hid (h.fds t ht)
  obtain ⟨hn0, hn1⟩ := okT_iff.1 hn
  have HXL := Lib.hid hx
  clear h hs hR hx
  go_enter Tryz.func12, Tryz.ntmps12
  go_wp2_with fail
  refine CF.out.mono ?_
  rintro e w1 ⟨rfl, rfl⟩
  go_wp2_with fail
  refine (CI.out _ (Only.refl _ _)).mono ?_
  rintro e w2 ⟨rfl, ho2⟩
  have HO2 := Lib.hid ho2
  clear ho2
  go_wp2_with fail
  go_loopw [12, 29] (fun cn i wr => ∃ (j : Nat) (v : Value) (s : Fd × Nat), j ≤ l.length ∧ i = .int .i64 j ∧ cn = .int .i64 s.2 ∧ Hid (ingF t.fd (l.take j) = s) ∧ s.2 ≤ j ∧ Hid (FdAt wr t.p t.m v s.1) ∧ Hid (Only t.own w wr) ∧ Hid (NewOf w t.v v)) (fun _ i _ => l.length - (intOf i).toNat)
  case atStart => exact ⟨0, t.v, (t.fd, 0), by omega, rfl, rfl, Lib.hid rfl, by simp, Lib.hid (HF.out.only HO2.out (by simp) (by simp) (by simp)), Lib.hid HO2.out.of0, Lib.hid (NewOf.refl _ _)⟩
  case round =>
    obtain ⟨j, v, s, hj, rfl, rfl, hst, hsj, hfd, ho, hnw⟩ := hrel
    by_cases hlt : j < l.length
    · have hlt' : (j : Int) < (l.length : Int) := by omega
      have hk1 := List.getElem?_eq_getElem hlt
      obtain ⟨x, hx⟩ : ∃ x, l[j] = x := ⟨_, rfl⟩
      have hxl := HXL.out l[j] (List.getElem_mem _)
      rw [hx] at hk1 hxl
      obtain ⟨ab, ao, ac, hv, hab, hc⟩ := (HS.out wr ho.out).at_ (by omega)
      have q0 : wr.cell? ⟨ab, ao + j * 3, none⟩ = some (.string ⟨x.id.toArray⟩) := hc (j * 3 + 0) _ (itL_get l j 0 x hk1 (by omega))
      have q1 : wr.cell? ⟨ab, ao + j * 3 + 1, none⟩ = some (.string ⟨x.ti.toArray⟩) := hc (j * 3 + 1) _ (itL_get l j 1 x hk1 (by omega))
      have q2 : wr.cell? ⟨ab, ao + j * 3 + 2, none⟩ = some (.string ⟨x.li.toArray⟩) := hc (j * 3 + 2) _ (itL_get l j 2 x hk1 (by omega))
      have HT : Hid (ingF t.fd (l.take (j + 1)) = ingS s x) := by show _ = _; rw [ingF_step t.fd l j x hk1, hst.out]
      injection hv with e1 e2 e3
      subst e1; subst e3
      obtain ⟨w2, hw2⟩ : ∃ w2, wr.alloc (.cells #[.string ⟨x.id.toArray⟩, .string ⟨x.ti.toArray⟩, .string ⟨x.li.toArray⟩] 45) = w2 := ⟨_, rfl⟩
      have hO2 : Only [] wr w2 := hw2 ▸ (Only.refl _ _).alloc _
      obtain ⟨z, hz⟩ : ∃ z, wr.heap.size = z := ⟨_, rfl⟩
      have hzc : Cells w2 z 45 x.cells := hw2 ▸ hz ▸ Cells.new wr _ _
      have z0 := hzc.cell (k := 0) rfl
      have z1 := hzc.cell (k := 1) rfl
      have z2 := hzc.cell (k := 2) rfl
      have hF2 := hfd.out.only hO2 (by simp) (by simp) (by simp)
      have CA := Lib.hid (source_add t.p t.m v s.1 x hxl w2 hF2)
      have HO2 := Lib.hid (ho.out.trans hO2 (by simp))
      have HZ2 := Lib.hid hO2.size
      clear e2 hc hx hk1 hst hO2 hF2 hzc
      go_wp2_with fail
      clear hw2 q0 q1 q2 z0 z1 z2 hz
      refine CA.out.mono ?_
      rintro e w3 ⟨v', rfl, hfd', ho', hn'⟩
      have HFD := Lib.hid hfd'
      have hsz : w.heap.size ≤ w2.heap.size := HO2.out.size
      have HO3 : Hid (Only t.own w w3) := Lib.hid (HO2.out.trans ho' (by
        intro y hy
        simp only [List.cons_append, List.nil_append, List.mem_cons] at hy
        rcases hy with rfl | rfl | hy
        · left; simp [Pl.own]
        · left; simp [Pl.own]
        · rcases hnw.out y (by simpa [rb] using hy) with h | h
          · left; simp [Pl.own, rb, h]
          · right; exact h))
      have HN3 : Hid (NewOf w t.v v') := Lib.hid (fun g hg => by
        rcases hn' g hg with h | h
        · exact hnw.out g h
        · right; omega)
      clear hfd' ho' hn'
      obtain ⟨f1, n1⟩ := s
      have hsj : n1 ≤ j := hsj
      cases hb : addB f1 x with
      | true =>
        have HT2 : Hid (ingF t.fd (l.take (j + 1)) = (addF f1 x, n1 + 1)) := by show _ = _; rw [HT.out]; unfold ingS; dsimp only; rw [hb]; rfl
        have hwr : IntKind.i64.wrap ((n1 : Int) + 1) = (n1 : Int) + 1 := by rw [IntKind.wrap_i64]; omega
        clear HT hb
        go_wp2_with fail
        go_roundw
        case rel => exact ⟨j + 1, v', (addF f1 x, n1 + 1), by omega, by go_num, by show _ = Value.int .i64 ((n1 + 1 : Nat) : Int); go_num, HT2, by show n1 + 1 ≤ _; omega, HFD, HO3, HN3⟩
        case measure => simp [intOf]; omega
      | false =>
        have HT2 : Hid (ingF t.fd (l.take (j + 1)) = (addF f1 x, n1)) := by show _ = _; rw [HT.out]; unfold ingS; dsimp only; rw [hb]; rfl
        clear HT hb
        go_wp2_with fail
        go_roundw
        case rel => exact ⟨j + 1, v', (addF f1 x, n1), by omega, by go_num, rfl, HT2, by show n1 ≤ _; omega, HFD, HO3, HN3⟩
        case measure => simp [intOf]; omega
    · have hd0 : decide ((j : Int) < (l.length : Int)) = false := by simp; omega
      obtain rfl : j = l.length := by omega
      have hst2 : ingF t.fd l = s := by have := hst.out; rwa [List.take_length] at this
      have hfd := hfd.out
      have p0 := hfd.cells.cell (k := 0) rfl
      have f0 := hfd.cells.frozen 0
      have hlp := hfd.cells.lt
      obtain ⟨w2, hw2⟩ : ∃ w2, wr.setCell ⟨t.p, 0, none⟩ (.int .i64 now) = w2 := ⟨_, rfl⟩
      have c2 : Cells w2 t.p 78 _ := hw2 ▸ hfd.cells.set 0 (.int .i64 now)
      have p2 := c2.cell (k := 1) rfl
      have f2 := c2.frozen 1
      have l2 := c2.lt
      obtain ⟨w3, hw3⟩ : ∃ w3, w2.setCell ⟨t.p, 1, none⟩ (.int .i64 0) = w3 := ⟨_, rfl⟩
      have c3 : Cells w3 t.p 78 [.int .i64 now, .int .i64 0, v, .map (some t.m)] := hw3 ▸ c2.set 1 (.int .i64 0)
      have ho3 : Only [t.p] wr w3 := hw3 ▸ (hw2 ▸ (Only.refl _ _).setCell (p := ⟨t.p, 0, none⟩) (.inl (by simp)) _).setCell (p := ⟨t.p, 1, none⟩) (.inl (by simp)) _
      have hvp := hfd.vp
      have hpm := hfd.pm
      have hfd3 : FdAt w3 t.p t.m v ⟨now, 0, s.1.ps⟩ := by
        refine ⟨c3, own_keep hfd.row ho3 (by simpa using hvp), hfd.map.only ho3 (by simpa using fun e => hpm e.symm), hfd.cap, ?_⟩
        exact ⟨by show -1 ≤ now; omega, by show now ≤ _; omega, by show (0 : Int) ≤ 0; omega, by show (0 : Int) ≤ _; omega⟩
      have HP := Lib.hid (HX.out.put (t' := ⟨t.nm, ⟨now, 0, s.1.ps⟩, t.p, t.m, v⟩) hf rfl rfl rfl hfd3 (ho.out.trans ho3 (fun y hy => .inl (by simp at hy; subst hy; simp [Pl.own]))) hnw.out)
      have HK := Lib.hid ((fT_mem hf).2)
      have HS2 := Lib.hid hst2
      clear hst hst2 hfd3 ho3 hvp hpm c2 c3 hfd
      go_wp2_with fail
      go_ret2
      refine ⟨by rw [HS2.out]; rfl, _, HP.out, ?_⟩
      rw [HS2.out]
      show prT (putBy Pl.nm k _ T) = putBy Prod.fst k _ (prT T)
      unfold prT
      rw [putBy_map Pl.nm (fun t => (t.nm, t.fd)) Prod.fst (fun _ => rfl), HK.out]
end Go.Proofs.YtjfnkjpnjiobjaaGreat
namespace Go.Proofs.YtjfnkjpnjiobjaaGreat
open Go.RowKit
theorem nil_post0 (c : Nat) (w : World) : (binOp .eql 29 (.slice none 0 c) (.slice none 0 0)).run Tryz.prog w = .ok (.bool true) w := by kernel_rfl
theorem nil_post1 (A : Addr) (n c : Nat) (w : World) : (binOp .eql 29 (.slice (some A) n c) (.slice none 0 0)).run Tryz.prog w = .ok (.bool false) w := by kernel_rfl
attribute [local go_sem] nil_post0 nil_post1
theorem sl_nil {w : World} {B sz n c : Nat} {xs : List Value} (h : SlAt w B (.slice none n c) sz n xs) (hsz : 0 < sz) : n = 0 := by
  rcases Nat.eq_zero_or_pos n with h0 | h0
  · exact h0
  · obtain ⟨b, o, c', hv, _⟩ := h.at_ (Nat.mul_pos h0 hsz); injection hv with hv; cases hv
set_option maxRecDepth 100000 in
theorem clone_post (v : Value) (l : List Po) (B : Nat) (w : World) (hB : B ≤ w.heap.size) (hl : l.length ≤ 1000000000) (hs : SlAt w B v 5 l.length (poL l)) :
    Calls Tryz.prog 38 #[v] w fun e w' => ∃ v', e = .returned v' ∧ w'.ownsRow w.heap.size 52 5 v' l.length (poL l) ∧ Only [] w w' := by
  obtain ⟨i0, hi0, hz0, hz1, hz2⟩ := info_parts info_post
  obtain ⟨A, c, rfl⟩ := hs.shape
  cases A with
  | none =>
    have h0 : l = [] := List.eq_nil_of_length_eq_zero (sl_nil hs (by omega))
    subst h0
    clear hs
    go_enter Tryz.func38, Tryz.ntmps38
    go_wp2_with fail
    go_ret
    exact ⟨_, rfl, World.ownsRow_nil _ _ _ _, Only.refl _ _⟩
  | some A =>
    have HS := Lib.hid hs
    clear hs
    go_enter Tryz.func38, Tryz.ntmps38
    go_wp2_with (at_builtin
                 refine wpList_appX rfl _ _ 29 rfl w.heap.size 52 i0 _ 5 64 Tryz.underlying29 hi0 hz0 hz1 hz2 rfl (by decide) (w.alloc (.cells #[] 52)) (.slice (some ⟨w.heap.size, 0, none⟩) 0 0) 0 [] rfl (World.ownsRow_lit (base := w.heap.size) (e := 52) (size := 5) w #[] 0 (Nat.le_refl _) (by decide) rfl) B l.length (poL l) A c rfl (HS.out.only ((Only.refl [] w).alloc _) hB (by simp)) (poL_one l) (by simp only [maxLen]; omega) (by omega) (by simp) ?_
                 intro v' w' hown' hgrow)
    go_ret
    exact ⟨_, rfl, by simpa using hown', ((Only.refl [] w).alloc _).own (World.ownsRow_lit (base := w.heap.size) (e := 52) (size := 5) w #[] 0 (Nat.le_refl _) (by decide) rfl) hgrow (Nat.le_refl _)⟩
/-- A part of a row of posts. -/
theorem sub_post {w : World} {B0 g n cap fr m : Nat} {ps : List Po} (h : w.ownsRow B0 52 5 (.slice (some ⟨g, 0, none⟩) n cap) n (poL ps)) (hn : ps.length = n) (hm : fr + m ≤ n) (c : Nat) (hc : m ≤ c) (hcm : c ≤ maxLen) :
    SlAt w w.heap.size (.slice (some ⟨g, fr * 5, none⟩) m c) 5 m (poL ((ps.drop fr).take m)) := by
  have hl : ((ps.drop fr).take m).length = m := by rw [List.length_take, List.length_drop]; omega
  have hg := (h.lt g rfl).2
  refine ⟨by rw [poL_length, hl], _, _, rfl, hc, hcm, fun _ => ⟨g, fr * 5, rfl, hg, fun j u hu => ?_⟩⟩
  have hj : j < m * 5 := by
    have := (List.getElem?_eq_some_iff.1 hu).1
    rwa [poL_length, hl] at this
  have e : (poL ps)[fr * 5 + j]? = some u := by
    have hi : j / 5 < ((ps.drop fr).take m).length := by rw [hl]; omega
    have h1 := List.getElem?_eq_getElem hi
    have hj5 : j % 5 < 5 := Nat.mod_lt _ (by omega)
    have h2 := poL_get _ (j / 5) (j % 5) _ h1 hj5
    rw [show j / 5 * 5 + j % 5 = j from by omega, hu] at h2
    have h3 : ps[fr + j / 5]? = some ((ps.drop fr).take m)[j / 5] := by
      rw [List.getElem_take, List.getElem_drop, List.getElem?_eq_getElem (by rw [hl] at hi; omega)]
    have h4 := poL_get ps (fr + j / 5) (j % 5) _ h3 hj5
    rw [show (fr + j / 5) * 5 + j % 5 = fr * 5 + j from by omega, ← h2] at h4
    exact h4
  have := h.cells (g := g) rfl (fr * 5 + j) u e
  rw [Addr.add_lit, Nat.zero_add] at this
  exact this
/-- A page of posts behind a number. -/
def pgF (ps : List Po) (after : Int) : List Po := (ps.drop (min (max after 0).toNat ps.length)).take 50
def lsV (o : Option Pl) (after : Int) : List Po := o.elim [] (fun t => pgF t.fd.ps after)
set_option maxRecDepth 100000 in
set_option maxHeartbeats 1000000 in
theorem store_list (b mb : Nat) (T : List Pl) (k : List UInt8) (hk : k.length ≤ maxLen) (after : Int) (w : World) (h : StX w b mb T) :
    Calls Tryz.prog 13 #[.pointer (some ⟨b, 0, none⟩), .string ⟨k.toArray⟩, .int .i64 after] w fun e w' => ∃ v', e = .returned (.tuple #[v', .int .i64 (if (fT T k).isSome = true then 0 else 4)]) ∧ w'.ownsRow w.heap.size 52 5 v' (lsV (fT T k) after).length (poL (lsV (fT T k) after)) ∧ Only [] w w' := by
  have CF := Lib.hid (store_find b mb T k hk 0 w h)
  cases hf : fT T k with
  | none =>
    rw [fndV_none 0 hf] at CF
    go_enter Tryz.func13, Tryz.ntmps13
    go_wp2_with fail
    refine CF.out.mono ?_
    rintro e w1 ⟨rfl, rfl⟩
    go_wp2_with fail
    go_ret2
    exact ⟨_, rfl, World.ownsRow_nil _ _ _ _, Only.refl _ _⟩
  | some t =>
    rw [fndV_ok hf (by decide)] at CF
    have hfd := h.fds t (fT_mem hf).1
    have p2 := hfd.cells.cell (k := 2) rfl
    have hcap := hfd.cap
    obtain ⟨A, c, hv⟩ := (SlAt.of_own hfd.row).shape
    have hrow := hfd.row
    rw [hv] at p2 hrow
    obtain ⟨n, hn⟩ : ∃ n, t.fd.ps.length = n := ⟨_, rfl⟩
    rw [hn] at p2 hrow hcap
    obtain ⟨fr, hfr⟩ : ∃ fr : Nat, min (max after 0) (n : Int) = fr := ⟨(min (max after 0) (n : Int)).toNat, by omega⟩
    have hfrn : fr ≤ n := by omega
    obtain ⟨tt, hto⟩ : ∃ tt : Nat, min (n : Int) ((fr : Int) + 50) = tt := ⟨(min (n : Int) ((fr : Int) + 50)).toNat, by omega⟩
    have hft : fr ≤ tt := by omega
    have htn : tt ≤ n := by omega
    have hpg : lsV (some t) after = (t.fd.ps.drop fr).take (tt - fr) := by
      show (t.fd.ps.drop (min (max after 0).toNat t.fd.ps.length)).take 50 = _
      rw [hn, show min (max after 0).toNat n = fr from by omega]
      by_cases h50 : fr + 50 ≤ n
      · rw [show tt - fr = 50 from by omega]
      · rw [List.take_of_length_le (by rw [List.length_drop]; omega), List.take_of_length_le (by rw [List.length_drop]; omega)]
    rw [hpg]
    have hll : ((t.fd.ps.drop fr).take (tt - fr)).length = tt - fr := by rw [List.length_take, List.length_drop]; omega
    have hnc : n ≤ c ∧ c ≤ maxLen := by
      obtain ⟨_, A', c', e, h1, h2, _⟩ := SlAt.of_own hrow
      injection e with e1 e2 e3
      subst e3
      exact ⟨h1, h2⟩
    have hwr : IntKind.i64.wrap ((fr : Int) + 50) = (fr : Int) + 50 := by rw [IntKind.wrap_i64]; omega
    have i1 : (fr : Int) ≤ (tt : Int) := by omega
    have i2 : (tt : Int) ≤ (c : Int) := by omega
    have i3 : (0 : Int) ≤ (fr : Int) := by omega
    have hrow1 : w.drew.ownsRow 0 52 5 (.slice A n c) n (poL t.fd.ps) := hrow
    have HO1 : Hid (Only [] w w.drew) := Lib.hid (Only.refl _ _).drew
    cases A with
    | none =>
      have h0 : n = 0 := sl_nil (SlAt.of_own hrow) (by omega)
      subst h0
      obtain rfl : fr = 0 := by omega
      obtain rfl : tt = 0 := by omega
      have hm0 : min (max after 0) 0 = 0 := by omega
      have hps : t.fd.ps = [] := List.eq_nil_of_length_eq_zero hn
      have hc0 : c = 0 := by
        rcases hrow.2 with ⟨h1, _⟩ | ⟨g, cap, cur, h1, _⟩
        · injection h1
        · cases h1
      subst hc0
      have CC := Lib.hid (clone_post (.slice none 0 0) [] w.drew.heap.size w.drew (Nat.le_refl _) (by simp) (SlAt.of_own (World.ownsRow_nil w.drew 0 52 5)))
      have hw50 : IntKind.i64.wrap 50 = 50 := by decide
      have hm1 : min (0 : Int) 50 = 0 := by decide
      have HPS := Lib.hid hps
      clear h hfd hpg hrow hn hv hrow1 hps
      go_enter Tryz.func13, Tryz.ntmps13
      go_wp2_with fail
      refine CF.out.mono ?_
      rintro e w2 ⟨rfl, rfl⟩
      go_wp2_with fail
      go_still_tail 14, (by kernel_rfl)
      change wpList _ _ _ _ _ w.drew
      go_wp2_with fail
      refine CC.out.mono ?_
      rintro e w3 ⟨v', rfl, hown, ho3⟩
      have HOW := Lib.hid hown
      have HO3 := Lib.hid (HO1.out.tr ho3)
      clear hown ho3
      go_wp2_with fail
      go_ret2
      exact ⟨v', rfl, HOW.out, HO3.out⟩
    | some A =>
      obtain ⟨g, hg⟩ : ∃ g, A = ⟨g, 0, none⟩ := by
        rcases hrow.2 with ⟨h1, _⟩ | ⟨g, cap, cur, h1, _⟩
        · cases h1
        · injection h1 with h1; injection h1 with h1; exact ⟨g, h1⟩
      subst hg
      obtain ⟨Ao, hAo⟩ : ∃ Ao : Option Addr, (if c = fr then some ⟨g, 0, none⟩ else some ⟨g, fr * 5, none⟩) = Ao := ⟨_, rfl⟩
      have hsl : SlAt w.drew w.drew.heap.size (.slice Ao (tt - fr) (c - fr)) 5 (tt - fr) (poL ((t.fd.ps.drop fr).take (tt - fr))) := by
        by_cases hcf : c = fr
        · rw [if_pos hcf] at hAo
          subst hAo
          have h0 : tt - fr = 0 := by omega
          refine ⟨by rw [poL_length, hll], _, _, rfl, by omega, by omega, fun h => by omega⟩
        · rw [if_neg hcf] at hAo
          subst hAo
          exact sub_post hrow1 hn (by omega) (c - fr) (by omega) (by omega)
      have CC := Lib.hid (clone_post (.slice Ao (tt - fr) (c - fr)) ((t.fd.ps.drop fr).take (tt - fr)) w.drew.heap.size w.drew (Nat.le_refl _) (by omega) (by rw [hll]; exact hsl))
      clear h hfd hpg hrow hn hv hrow1 hsl
      go_enter Tryz.func13, Tryz.ntmps13
      go_wp2_with fail
      refine CF.out.mono ?_
      rintro e w2 ⟨rfl, rfl⟩
      go_wp2_with fail
      go_still_tail 14, (by kernel_rfl)
      change wpList _ _ _ _ _ w.drew
      go_wp2_with fail
      refine CC.out.mono ?_
      rintro e w3 ⟨v', rfl, hown, ho3⟩
      have HOW := Lib.hid hown
      have HO3 := Lib.hid (HO1.out.tr ho3)
      clear hown ho3 hAo
      go_wp2_with fail
      go_ret2
      exact ⟨v', rfl, by have := HOW.out; rw [hll] at this; exact this, HO3.out⟩
end Go.Proofs.YtjfnkjpnjiobjaaGreat
namespace Go.Proofs.YtjfnkjpnjiobjaaGreat
open Go.RowKit
def subS (S : Sv) (k : List UInt8) : Int × Sv := if nmL k = true then (if (fnd S k).isSome = true then (5, S) else if S.length = 20 then (11, S) else (0, insBy Prod.fst (k, ⟨-1, 0, []⟩) S)) else (3, S)
def unS (S : Sv) (k : List UInt8) : Int × Sv := if (fnd S k).isSome = true then (0, delBy Prod.fst k S) else (4, S)
def failS (S : Sv) (k : List UInt8) (now : Int) : Int × Sv := match fnd S k with
  | none => (4, S)
  | some f => if okT now then (0, putBy Prod.fst k (k, failF f now) S) else (1, S)
def markS (S : Sv) (k id : List UInt8) : Int × Sv := match fnd S k with
  | none => (4, S)
  | some f => match idx f.ps id with
    | none => (4, S)
    | some i => (0, putBy Prod.fst k (k, markF f i) S)
def listS (S : Sv) (k : List UInt8) (after : Int) : List Po × Int := match fnd S k with
  | none => ([], 4)
  | some f => (pgF f.ps after, 0)
def allS (S : Sv) (k : List UInt8) : List Po := (fnd S k).elim [] (·.ps)
/-- An operation on a store: it is S now. -/
def OpS (w w' : World) (b : Nat) (O : List Nat) (S : Sv) : Prop := ∃ O', St w' b O' S ∧ Only O w w' ∧ ∀ x ∈ O', x ∈ O ∨ w.heap.size ≤ x
theorem Op17.ops {w w' : World} {b mb : Nat} {T T' : List Pl} {S : Sv} (h : Op17 w w' b mb T T') (hS : prT T' = S) : OpS w w' b (allX b mb T) S := ⟨_, ⟨mb, T', h.st, rfl, hS.symm⟩, h.ho, h.new⟩
theorem St.bw {w : World} {b : Nat} {O : List Nat} {S : Sv} (h : St w b O S) : ∀ x ∈ O, x < w.heap.size := by
  obtain ⟨mb, T, h, rfl, rfl⟩ := h
  exact h.lts
theorem st_new (w : World) : Calls Tryz.prog 10 #[] w fun e w' => ∃ b O, e = .returned (.pointer (some ⟨b, 0, none⟩)) ∧ St w' b O [] ∧ (∀ x ∈ O, w.heap.size ≤ x) ∧ Only [] w w' :=
  (store_new w).mono fun e w' ⟨h1, h2, h3⟩ => ⟨_, _, h1, ⟨_, [], h2, rfl, rfl⟩, by intro x hx; simp [allX] at hx; omega, h3⟩
theorem st_sub (b : Nat) (O : List Nat) (S : Sv) (k : List UInt8) (hk : k.length ≤ maxLen) (w : World) (h : St w b O S) :
    Calls Tryz.prog 11 #[.pointer (some ⟨b, 0, none⟩), .string ⟨k.toArray⟩] w fun e w' => e = .returned (.int .i64 (subS S k).1) ∧ OpS w w' b O (subS S k).2 := by
  obtain ⟨mb, T, h, rfl, rfl⟩ := h
  have hfn : (fnd (prT T) k).isSome = (fT T k).isSome := by rw [show fnd (prT T) k = _ from fnd_fT T k]; simp
  have e1 : (subS (prT T) k).1 = subE T k := by
    unfold subS subE
    rw [hfn, show (prT T).length = T.length from List.length_map _]
    split
    · split
      · rfl
      · split <;> rfl
    · rfl
  have e2 : (subS (prT T) k).2 = if subE T k = 0 then insBy Prod.fst (k, (⟨-1, 0, []⟩ : Fd)) (prT T) else prT T := by
    unfold subS subE
    rw [hfn, show (prT T).length = T.length from List.length_map _]
    split
    · split
      · rfl
      · split <;> rfl
    · rfl
  refine (store_sub b mb T k hk w h).mono fun e w' ⟨h1, T', h2, h3⟩ => ⟨by rw [h1]; show _ = Ending.returned (.int .i64 (subS (prT T) k).1); rw [e1], ?_⟩
  show OpS w w' b _ (subS (prT T) k).2
  rw [e2]
  exact h2.ops h3
theorem prT_put (T : List Pl) (k : List UInt8) (t : Pl) (f : Fd) (ht : t.nm = k) : prT (putBy Pl.nm k (withF t f) T) = putBy Prod.fst k (k, f) (prT T) := by
  unfold prT
  rw [putBy_map Pl.nm (fun t => (t.nm, t.fd)) Prod.fst (fun _ => rfl)]
  rw [show (withF t f).nm = k from ht, show (withF t f).fd = f from rfl]
theorem st_fail (b : Nat) (O : List Nat) (S : Sv) (k : List UInt8) (hk : k.length ≤ maxLen) (now : Int) (w : World) (h : St w b O S) :
    Calls Tryz.prog 16 #[.pointer (some ⟨b, 0, none⟩), .string ⟨k.toArray⟩, .int .i64 now] w fun e w' => e = .returned (.int .i64 (failS S k now).1) ∧ OpS w w' b O (failS S k now).2 := by
  obtain ⟨mb, T, h, rfl, rfl⟩ := h
  have hfn : fnd (prT T) k = (fT T k).map (·.fd) := fnd_fT T k
  refine (store_fail b mb T k hk now w h).mono fun e w' ⟨h1, h2⟩ => ?_
  show e = .returned (.int .i64 (failS (prT T) k now).1) ∧ OpS w w' b _ (failS (prT T) k now).2
  unfold failS
  rw [hfn]
  unfold failT at h2
  cases hf : fT T k with
  | none =>
    rw [hf] at h1 h2
    exact ⟨h1, h2.ops rfl⟩
  | some t =>
    rw [hf] at h1 h2
    simp only [Option.map_some]
    unfold fndE at h1
    dsimp only at h1 h2
    cases hn : okT now with
    | false => rw [hn] at h1 h2; exact ⟨h1, h2.ops rfl⟩
    | true => rw [hn] at h1 h2; exact ⟨h1, h2.ops (prT_put T k t _ (fT_mem hf).2)⟩
theorem st_mark (b : Nat) (O : List Nat) (S : Sv) (k : List UInt8) (hk : k.length ≤ maxLen) (id : List UInt8) (hid : id.length ≤ maxLen) (w : World) (h : St w b O S) :
    Calls Tryz.prog 15 #[.pointer (some ⟨b, 0, none⟩), .string ⟨k.toArray⟩, .string ⟨id.toArray⟩] w fun e w' => e = .returned (.int .i64 (markS S k id).1) ∧ OpS w w' b O (markS S k id).2 := by
  obtain ⟨mb, T, h, rfl, rfl⟩ := h
  have hfn : fnd (prT T) k = (fT T k).map (·.fd) := fnd_fT T k
  refine (store_mark b mb T k hk id hid w h).mono fun e w' ⟨h1, h2⟩ => ?_
  show e = .returned (.int .i64 (markS (prT T) k id).1) ∧ OpS w w' b _ (markS (prT T) k id).2
  unfold markS
  rw [hfn]
  unfold markT at h2
  unfold markE at h1
  cases hf : fT T k with
  | none =>
    rw [hf] at h1 h2
    exact ⟨h1, h2.ops rfl⟩
  | some t =>
    rw [hf] at h1 h2
    simp only [Option.map_some]
    dsimp only at h1 h2
    cases hi : idx t.fd.ps id with
    | none => rw [hi] at h1 h2; exact ⟨h1, h2.ops rfl⟩
    | some i => rw [hi] at h1 h2; exact ⟨h1, h2.ops (prT_put T k t _ (fT_mem hf).2)⟩
theorem st_ingest (b : Nat) (O : List Nat) (S : Sv) (k : List UInt8) (hk : k.length ≤ maxLen) (v : Value) (l : List It) (now : Int) (w : World) (h : St w b O S) (hs : ∀ w', Only O w w' → SlAt w' w'.heap.size v 3 l.length (itL l)) (hl : l.length ≤ 1000000) (hx : ∀ x ∈ l, x.Len) :
    Calls Tryz.prog 12 #[.pointer (some ⟨b, 0, none⟩), .string ⟨k.toArray⟩, v, .int .i64 now] w fun e w' =>
      e = .returned (.tuple #[.int .i64 (ingR S k l now).1, .int .i64 (ingR S k l now).2.1]) ∧ OpS w w' b O (ingR S k l now).2.2 := by
  obtain ⟨mb, T, h, rfl, rfl⟩ := h
  exact (store_ingest b mb T k hk v l now w h hs hl hx).mono fun e w' ⟨h1, T', h2, h3⟩ => ⟨h1, h2.ops h3⟩
theorem st_list (b : Nat) (O : List Nat) (S : Sv) (k : List UInt8) (hk : k.length ≤ maxLen) (after : Int) (w : World) (h : St w b O S) :
    Calls Tryz.prog 13 #[.pointer (some ⟨b, 0, none⟩), .string ⟨k.toArray⟩, .int .i64 after] w fun e w' => ∃ v', e = .returned (.tuple #[v', .int .i64 (listS S k after).2]) ∧ w'.ownsRow w.heap.size 52 5 v' (listS S k after).1.length (poL (listS S k after).1) ∧ Only [] w w' := by
  obtain ⟨mb, T, h, rfl, rfl⟩ := h
  have hfn : fnd (prT T) k = (fT T k).map (·.fd) := fnd_fT T k
  refine (store_list b mb T k hk after w h).mono fun e w' ⟨v', h1, h2, h3⟩ => ⟨v', ?_, ?_, h3⟩
  · show e = .returned (.tuple #[v', .int .i64 (listS (prT T) k after).2])
    unfold listS
    rw [hfn, h1]
    cases fT T k <;> rfl
  · show w'.ownsRow _ _ 5 v' (listS (prT T) k after).1.length (poL (listS (prT T) k after).1)
    unfold listS
    rw [hfn]
    cases hf : fT T k <;> rw [hf] at h2 <;> exact h2
theorem st_polled (b : Nat) (O : List Nat) (S : Sv) (k : List UInt8) (hk : k.length ≤ maxLen) (w : World) (h : St w b O S) :
    Calls Tryz.prog 17 #[.pointer (some ⟨b, 0, none⟩), .string ⟨k.toArray⟩] w fun e w' =>
      e = .returned (.tuple #[.int .i64 ((fnd S k).elim 0 (·.pol)), .int .i64 ((fnd S k).elim 0 (·.fai)), .bool (fnd S k).isSome]) ∧ Only [] w w' := by
  obtain ⟨mb, T, h, rfl, rfl⟩ := h
  have hfn : fnd (prT T) k = (fT T k).map (·.fd) := fnd_fT T k
  refine (store_polled b mb T k hk w h).mono fun e w' ⟨h1, h2⟩ => ⟨?_, h2⟩
  show e = .returned (.tuple #[.int .i64 ((fnd (prT T) k).elim 0 (·.pol)), .int .i64 ((fnd (prT T) k).elim 0 (·.fai)), .bool (fnd (prT T) k).isSome])
  rw [hfn, h1]
  cases fT T k <;> rfl
end Go.Proofs.YtjfnkjpnjiobjaaGreat
namespace Go.Proofs.YtjfnkjpnjiobjaaGreat
open Go.RowKit
/-- An item whose texts are no longer than n. -/
structure It.Sh (n : Nat) (x : It) : Prop where
  id : x.id.length ≤ n
  ti : x.ti.length ≤ n
  li : x.li.length ≤ n
theorem tb_top (s : List UInt8) (n : Nat) (h : s.length ≤ n) (hn : n ≤ 1000000) : (tb s).length ≤ n + 10 := Nat.le_trans (tb_length s (by omega)).2 (by omega)
def itT (x : It) : List UInt8 := tb x.id ++ (tb x.ti ++ tb x.li)
def spB (p : Po) : List UInt8 := itT p.it ++ bb p.rd
def psB (l : List Po) : List UInt8 := l.flatMap spB
def fdH (x : List UInt8 × Fd) : List UInt8 := tb x.1 ++ isb [x.2.pol, x.2.fai, (x.2.ps.length : Int)]
def fdB (x : List UInt8 × Fd) : List UInt8 := fdH x ++ psB x.2.ps
def fsB (S : Sv) : List UInt8 := S.flatMap fdB
def stB (S : Sv) : List UInt8 := ib S.length ++ fsB S
theorem itT_le (x : It) (h : x.Sh 1000000) : (itT x).length ≤ 3000030 := by
  have h1 := tb_top x.id _ h.id (by omega)
  have h2 := tb_top x.ti _ h.ti (by omega)
  have h3 := tb_top x.li _ h.li (by omega)
  unfold itT
  rw [List.length_append, List.length_append]
  omega
theorem spB_le (p : Po) (h : p.it.Sh 1000000) : (spB p).length ≤ 3000031 := by
  have := itT_le p.it h
  unfold spB
  rw [List.length_append]
  show _ + 1 ≤ _
  omega
theorem flat_le {α : Type} (f : α → List UInt8) (n : Nat) : ∀ l : List α, (∀ x ∈ l, (f x).length ≤ n) → (l.flatMap f).length ≤ n * l.length
  | [], _ => by simp
  | x :: r, h => by
    have h1 := h x (by simp)
    have h2 := flat_le f n r (fun y hy => h y (List.mem_cons_of_mem _ hy))
    rw [List.flatMap_cons, List.length_append, List.length_cons, Nat.mul_succ]
    omega
theorem flat_snoc {α β : Type} (f : α → List β) (l : List α) (k : Nat) (x : α) (h : l[k]? = some x) : (l.take (k + 1)).flatMap f = (l.take k).flatMap f ++ f x := by
  rw [List.take_add_one, h, List.flatMap_append]; simp
/-- A feed that can be written down. -/
structure Fd.Sh (f : Fd) : Prop where
  cap : f.ps.length ≤ 200
  nb : -1 ≤ f.pol ∧ f.pol ≤ 1099511627776 ∧ 0 ≤ f.fai ∧ f.fai ≤ 1000
  its : ∀ p ∈ f.ps, p.it.Sh 1000000
theorem Fd.Sh.ws {f : Fd} (h : f.Sh) : ∀ x ∈ [f.pol, f.fai, (f.ps.length : Int)], Wide64 x := by
  obtain ⟨h1, h2, h3, h4⟩ := h.nb
  have := h.cap
  intro x hx
  simp only [List.mem_cons, List.not_mem_nil, or_false] at hx
  rcases hx with rfl | rfl | rfl <;> exact ⟨by omega, by omega⟩
theorem psB_le (l : List Po) (h : l.length ≤ 200) (hs : ∀ p ∈ l, p.it.Sh 1000000) : (psB l).length ≤ 600006200 := by
  have := flat_le spB 3000031 l (fun p hp => spB_le p (hs p hp))
  unfold psB
  have : 3000031 * l.length ≤ 3000031 * 200 := Nat.mul_le_mul_left _ h
  omega
theorem fdH_le (x : List UInt8 × Fd) (hn : x.1.length ≤ 1000) (h : x.2.Sh) : (fdH x).length ≤ 1040 := by
  have h1 := tb_top x.1 1000 hn (by omega)
  have h2 := isb_length [x.2.pol, x.2.fai, (x.2.ps.length : Int)] h.ws
  unfold fdH
  rw [List.length_append]
  simp at h2
  omega
theorem fdB_le (x : List UInt8 × Fd) (hn : x.1.length ≤ 1000) (h : x.2.Sh) : (fdB x).length ≤ 600008000 := by
  have h1 := fdH_le x hn h
  have h2 := psB_le x.2.ps h.cap h.its
  unfold fdB
  rw [List.length_append]
  omega
theorem fsB_le (S : Sv) (hl : S.length ≤ 20) (h : ∀ x ∈ S, x.1.length ≤ 1000 ∧ x.2.Sh) : (fsB S).length ≤ 12000160000 := by
  have := flat_le fdB 600008000 S (fun x hx => fdB_le x (h x hx).1 (h x hx).2)
  unfold fsB
  have : 600008000 * S.length ≤ 600008000 * 20 := Nat.mul_le_mul_left _ hl
  omega
end Go.Proofs.YtjfnkjpnjiobjaaGreat
namespace Go.Proofs.YtjfnkjpnjiobjaaGreat
open Go.RowKit
theorem fnd_ins {S : Sv} {k : List UInt8} (f : Fd) (h : fnd S k = none) (k' : List UInt8) : fnd (insBy Prod.fst (k, f) S) k' = if k' = k then some f else fnd S k' := by
  unfold fnd at h ⊢
  have hn : ∀ a ∈ S, a.1 ≠ (k, f).1 := by
    intro a ha he
    have h1 : S.find? (fun x => x.1 == k) = none := by simpa using h
    have := List.find?_eq_none.1 h1 a ha
    simp at this
    exact this he
  rw [insBy_find Prod.fst (k, f) S k' hn]
  by_cases h1 : k' = k
  · rw [if_pos h1, if_pos h1]; rfl
  · rw [if_neg h1, if_neg h1]
theorem fnd_put {S : Sv} {k : List UInt8} {f0 : Fd} (f : Fd) (h : fnd S k = some f0) (k' : List UInt8) : fnd (putBy Prod.fst k (k, f) S) k' = if k' = k then some f else fnd S k' := by
  unfold fnd at h ⊢
  rw [putBy_find Prod.fst k (k, f) S rfl k']
  by_cases h1 : k' = k
  · rw [if_pos h1, if_pos h1, Option.map_map]
    cases h2 : S.find? (fun x => x.1 == k) with
    | none => rw [h2] at h; cases h
    | some x => rfl
  · rw [if_neg h1, if_neg h1]
theorem fnd_del (S : Sv) (k k' : List UInt8) : fnd (delBy Prod.fst k S) k' = if k' = k then none else fnd S k' := by
  unfold fnd
  rw [delBy_find Prod.fst k S k']
  by_cases h1 : k' = k
  · rw [if_pos h1, if_pos h1]; rfl
  · rw [if_neg h1, if_neg h1]
theorem subS_fnd (S : Sv) (k k' : List UInt8) : fnd (subS S k).2 k' = fnd S k' ∨ k' = k ∧ fnd S k = none ∧ fnd (subS S k).2 k' = some ⟨-1, 0, []⟩ := by
  unfold subS
  split
  · split
    · exact .inl rfl
    · rename_i h
      split
      · exact .inl rfl
      · have h' : fnd S k = none := by simpa using h
        by_cases h1 : k' = k
        · exact .inr ⟨h1, h', by show fnd (insBy _ _ _) k' = _; rw [fnd_ins _ h', if_pos h1]⟩
        · exact .inl (by show fnd (insBy _ _ _) k' = _; rw [fnd_ins _ h', if_neg h1])
  · exact .inl rfl
theorem unS_fnd (S : Sv) (k k' : List UInt8) : fnd (unS S k).2 k' = fnd S k' ∨ k' = k ∧ fnd (unS S k).2 k' = none := by
  unfold unS
  split
  · by_cases h1 : k' = k
    · exact .inr ⟨h1, by show fnd (delBy _ _ _) k' = _; rw [fnd_del, if_pos h1]⟩
    · exact .inl (by show fnd (delBy _ _ _) k' = _; rw [fnd_del, if_neg h1])
  · exact .inl rfl
theorem failS_fnd (S : Sv) (k : List UInt8) (n : Int) (k' : List UInt8) : fnd (failS S k n).2 k' = fnd S k' ∨ k' = k ∧ ∃ f, fnd S k = some f ∧ fnd (failS S k n).2 k' = some (failF f n) := by
  unfold failS
  split
  · exact .inl rfl
  · rename_i f h
    split
    · by_cases h1 : k' = k
      · exact .inr ⟨h1, f, h, by show fnd (putBy _ _ _ _) k' = _; rw [fnd_put _ h, if_pos h1]⟩
      · exact .inl (by show fnd (putBy _ _ _ _) k' = _; rw [fnd_put _ h, if_neg h1])
    · exact .inl rfl
theorem markS_fnd (S : Sv) (k id k' : List UInt8) : fnd (markS S k id).2 k' = fnd S k' ∨ k' = k ∧ ∃ f i, fnd S k = some f ∧ idx f.ps id = some i ∧ fnd (markS S k id).2 k' = some (markF f i) := by
  unfold markS
  split
  · exact .inl rfl
  · rename_i f h
    split
    · exact .inl rfl
    · rename_i i hi
      by_cases h1 : k' = k
      · exact .inr ⟨h1, f, i, h, hi, by show fnd (putBy _ _ _ _) k' = _; rw [fnd_put _ h, if_pos h1]⟩
      · exact .inl (by show fnd (putBy _ _ _ _) k' = _; rw [fnd_put _ h, if_neg h1])
theorem ingR_fnd (S : Sv) (k : List UInt8) (l : List It) (n : Int) (k' : List UInt8) : fnd (ingR S k l n).2.2 k' = fnd S k' ∨ k' = k ∧ ∃ f, fnd S k = some f ∧ fnd (ingR S k l n).2.2 k' = some ⟨n, 0, (ingF f l).1.ps⟩ := by
  unfold ingR
  split
  · exact .inl rfl
  · rename_i f h
    split
    · split
      · by_cases h1 : k' = k
        · exact .inr ⟨h1, f, h, by show fnd (putBy _ _ _ _) k' = _; rw [fnd_put _ h, if_pos h1]⟩
        · exact .inl (by show fnd (putBy _ _ _ _) k' = _; rw [fnd_put _ h, if_neg h1])
      · exact .inl rfl
    · exact .inl rfl
/-- A row of posts as a feed has it. -/
structure PsOk (ps : List Po) : Prop where
  sq : ∀ (i : Nat) (x : Po), ps[i]? = some x → x.sq = (i : Int) + 1
  ids : (ps.map (·.it.id)).Nodup
  n : ps.length ≤ 200
/-- ps is the beginning of ps', but for what was read since. -/
def Pre (ps ps' : List Po) : Prop := ∀ (i : Nat) (x : Po), ps[i]? = some x → ∃ x', ps'[i]? = some x' ∧ x'.sq = x.sq ∧ x'.it = x.it ∧ (x.rd = true → x'.rd = true)
theorem Pre.refl (ps : List Po) : Pre ps ps := fun i x h => ⟨x, h, rfl, rfl, id⟩
theorem Pre.trans {a b c : List Po} (h : Pre a b) (h' : Pre b c) : Pre a c := fun i x hx => by
  obtain ⟨y, h1, h2, h3, h4⟩ := h i x hx
  obtain ⟨z, g1, g2, g3, g4⟩ := h' i y h1
  exact ⟨z, g1, g2.trans h2, g3.trans h3, fun h => g4 (h4 h)⟩
theorem idx_none {ps : List Po} {k : List UInt8} (h : idx ps k = none) : ∀ x ∈ ps, x.it.id ≠ k := by
  intro x hx he
  have := List.findIdx?_eq_none_iff.1 h x hx
  simp [he] at this
theorem addF_ok {f : Fd} (x : It) (h : PsOk f.ps) : PsOk (addF f x).ps ∧ Pre f.ps (addF f x).ps := by
  unfold addF
  split
  · rename_i hb
    unfold addB at hb
    simp only [Bool.and_eq_true, Option.isNone_iff_eq_none, Bool.not_eq_true', beq_eq_false_iff_ne, ne_eq] at hb
    obtain ⟨h1, h2⟩ := hb
    have h1 := idx_none h1
    refine ⟨⟨fun i y hy => ?_, ?_, ?_⟩, fun i y hy => ?_⟩
    · dsimp only at hy
      rcases Nat.lt_or_ge i f.ps.length with hi | hi
      · rw [List.getElem?_append_left hi] at hy
        exact h.sq i y hy
      · rw [List.getElem?_append_right hi] at hy
        have h0 : i - f.ps.length = 0 := by
          rcases Nat.eq_zero_or_pos (i - f.ps.length) with h0 | h0
          · exact h0
          · rw [List.getElem?_eq_none (by rw [List.length_singleton]; omega)] at hy; cases hy
        rw [h0] at hy
        simp at hy
        subst hy
        show (f.ps.length : Int) + 1 = _
        omega
    · rw [List.map_append]
      refine List.nodup_append.2 ⟨h.ids, by simp, fun a ha b hb => ?_⟩
      simp at hb
      subst hb
      obtain ⟨y, hy, rfl⟩ := List.mem_map.1 ha
      exact h1 y hy
    · have := h.n
      simp only [List.length_append, List.length_singleton]
      omega
    · have hi := (List.getElem?_eq_some_iff.1 hy).1
      exact ⟨y, by show (f.ps ++ _)[i]? = _; rw [List.getElem?_append_left hi]; exact hy, rfl, rfl, id⟩
  · exact ⟨h, Pre.refl _⟩
theorem ingF_ok {f : Fd} (l : List It) (h : PsOk f.ps) : PsOk (ingF f l).1.ps ∧ Pre f.ps (ingF f l).1.ps := by
  unfold ingF
  have : ∀ (l : List It) (s : Fd × Nat), PsOk s.1.ps → PsOk (l.foldl ingS s).1.ps ∧ Pre s.1.ps (l.foldl ingS s).1.ps := by
    intro l
    induction l with
    | nil => intro s h; exact ⟨h, Pre.refl _⟩
    | cons x r ih =>
      intro s h
      obtain ⟨h1, h2⟩ := addF_ok x h
      obtain ⟨h3, h4⟩ := ih (ingS s x) h1
      exact ⟨h3, h2.trans h4⟩
  exact this l (f, 0) h
theorem markAt_get (ps : List Po) (i j : Nat) : (markAt ps i)[j]? = (ps[j]?).map fun x => if j = i then x.mark else x := by
  unfold markAt
  split
  · rename_i x hx
    rw [List.getElem?_set]
    by_cases h : i = j
    · subst h
      have := (List.getElem?_eq_some_iff.1 hx).1
      rw [if_pos rfl, if_pos this, hx]
      simp
    · rw [if_neg h]
      cases ps[j]? with
      | none => rfl
      | some y => simp only [Option.map_some]; rw [if_neg (fun e => h e.symm)]
  · rename_i hx
    cases hj : ps[j]? with
    | none => rfl
    | some y =>
      simp only [Option.map_some]
      rw [if_neg (fun e => by subst e; rw [hx] at hj; cases hj)]
theorem markAt_len (ps : List Po) (i : Nat) : (markAt ps i).length = ps.length := by
  unfold markAt
  split <;> simp
theorem mark_ok {ps : List Po} (i : Nat) (h : PsOk ps) : PsOk (markAt ps i) ∧ Pre ps (markAt ps i) := by
  have hl := markAt_len ps i
  have hm : (markAt ps i).map (·.it.id) = ps.map (·.it.id) := by
    apply List.ext_getElem?
    intro j
    rw [List.getElem?_map, markAt_get, List.getElem?_map, Option.map_map]
    congr 1
    funext x
    simp only [Function.comp]
    split <;> rfl
  refine ⟨⟨fun j y hy => ?_, by rw [hm]; exact h.ids, by rw [hl]; exact h.n⟩, fun j y hy => ?_⟩
  · rw [markAt_get] at hy
    cases hp : ps[j]? with
    | none => rw [hp] at hy; cases hy
    | some x =>
      rw [hp] at hy
      simp only [Option.map_some, Option.some.injEq] at hy
      have := h.sq j x hp
      subst hy
      split <;> exact this
  · refine ⟨_, by rw [markAt_get, hy]; rfl, ?_, ?_, ?_⟩
    · split <;> rfl
    · split <;> rfl
    · intro h1; split
      · rfl
      · exact h1
def SvOk (S : Sv) : Prop := ∀ k f, fnd S k = some f → PsOk f.ps
theorem PsOk.nil : PsOk [] := ⟨fun i x h => by simp at h, by simp, by simp⟩
theorem SvOk.nil : SvOk [] := fun k f h => by cases h
theorem fnd_mem {S : Sv} {k : List UInt8} {f : Fd} (h : fnd S k = some f) : (k, f) ∈ S := by
  unfold fnd at h
  cases hf : S.find? (fun x => x.1 == k) with
  | none => rw [hf] at h; cases h
  | some x =>
    rw [hf] at h
    have h1 := List.mem_of_find?_eq_some hf
    have h2 := List.find?_some hf
    simp only [Option.map_some, Option.some.injEq] at h
    have h2 : x.1 = k := by simpa using h2
    obtain ⟨a, b⟩ := x
    simp only at h h2
    subst h; subst h2
    exact h1
theorem fnd_of {S : Sv} (hs : S.Pairwise (fun a b => a.1 < b.1)) {x : List UInt8 × Fd} (hx : x ∈ S) : fnd S x.1 = some x.2 := by
  unfold fnd
  induction S with
  | nil => cases hx
  | cons a r ih =>
    have h1 := List.pairwise_cons.1 hs
    rw [List.find?_cons]
    rcases List.mem_cons.1 hx with rfl | hx
    · simp
    · have h2 := h1.1 x hx
      have : (a.1 == x.1) = false := by
        have : a.1 ≠ x.1 := fun e => by rw [e] at h2; exact List.lt_irrefl _ h2
        simpa using this
      rw [this]
      exact ih h1.2 hx
/-- What a feed is, whatever was done. -/
structure FdI (f : Fd) : Prop where
  ps : PsOk f.ps
  its : ∀ p ∈ f.ps, itR p.it = true
  nb : -1 ≤ f.pol ∧ f.pol ≤ 1099511627776 ∧ 0 ≤ f.fai ∧ f.fai ≤ 1000
def SvI (S : Sv) : Prop := ∀ x ∈ S, FdI x.2
theorem SvI.nil : SvI [] := fun x h => by cases h
theorem SvI.ok {S : Sv} (h : SvI S) : SvOk S := fun k f hf => (h _ (fnd_mem hf)).ps
theorem FdI.fresh : FdI ⟨-1, 0, []⟩ := ⟨PsOk.nil, by simp, by simp⟩
theorem mem_put {S : Sv} {k : List UInt8} {f : Fd} {x : List UInt8 × Fd} (h : x ∈ putBy Prod.fst k (k, f) S) : x = (k, f) ∨ x ∈ S := by
  unfold putBy at h
  obtain ⟨c, hc, rfl⟩ := List.mem_map.1 h
  split
  · exact .inl rfl
  · exact .inr hc
theorem SvI.put {S : Sv} (h : SvI S) (k : List UInt8) {f : Fd} (hf : FdI f) : SvI (putBy Prod.fst k (k, f) S) := fun x hx => by
  rcases mem_put hx with rfl | hx
  · exact hf
  · exact h x hx
theorem SvI.sub {S : Sv} (h : SvI S) (k : List UInt8) : SvI (subS S k).2 := by
  unfold subS
  split
  · split
    · exact h
    · split
      · exact h
      · intro x hx
        rcases List.mem_cons.1 ((insBy_perm Prod.fst _ S).mem_iff.1 hx) with rfl | hx
        · exact FdI.fresh
        · exact h x hx
  · exact h
theorem SvI.un {S : Sv} (h : SvI S) (k : List UInt8) : SvI (unS S k).2 := by
  unfold unS
  split
  · exact fun x hx => h x (List.mem_filter.1 hx).1
  · exact h
theorem okT_nb {now : Int} (h : okT now = true) : 0 ≤ now ∧ now ≤ 1099511627776 := by
  unfold okT at h
  simpa using h
theorem SvI.fail {S : Sv} (h : SvI S) (k : List UInt8) (now : Int) : SvI (failS S k now).2 := by
  unfold failS
  split
  · exact h
  · rename_i f hf
    split
    · rename_i hn
      have h1 := h _ (fnd_mem hf)
      have h2 := okT_nb hn
      have h3 := h1.nb
      dsimp only at h3
      exact h.put k ⟨h1.ps, h1.its, by unfold failF; exact ⟨by show -1 ≤ now; omega, h2.2, by show 0 ≤ min (f.fai + 1) 1000; omega, by show min (f.fai + 1) 1000 ≤ 1000; omega⟩⟩
    · exact h
theorem mark_it (ps : List Po) (i : Nat) (h : ∀ p ∈ ps, itR p.it = true) : ∀ p ∈ markAt ps i, itR p.it = true := by
  unfold markAt
  split
  · rename_i x hx
    intro p hp
    rcases List.mem_or_eq_of_mem_set hp with hp | rfl
    · exact h p hp
    · exact h x (List.mem_of_getElem? hx)
  · exact h
theorem SvI.mark {S : Sv} (h : SvI S) (k id : List UInt8) : SvI (markS S k id).2 := by
  unfold markS
  split
  · exact h
  · rename_i f hf
    split
    · exact h
    · rename_i i hi
      have h1 := h _ (fnd_mem hf)
      exact h.put k ⟨(mark_ok i h1.ps).1, mark_it _ _ h1.its, h1.nb⟩
theorem ing_it (l : List It) : ∀ s : Fd × Nat, (∀ p ∈ s.1.ps, itR p.it = true) → l.all itR = true → ∀ p ∈ (l.foldl ingS s).1.ps, itR p.it = true := by
  induction l with
  | nil => intro s h _; exact h
  | cons x r ih =>
    intro s h hl
    rw [List.all_cons, Bool.and_eq_true] at hl
    refine ih (ingS s x) ?_ hl.2
    intro p hp
    unfold ingS addF at hp
    dsimp only at hp
    split at hp
    · rcases List.mem_append.1 hp with hp | hp
      · exact h p hp
      · obtain rfl := List.mem_singleton.1 hp
        exact hl.1
    · exact h p hp
theorem SvI.ing {S : Sv} (h : SvI S) (k : List UInt8) (l : List It) (now : Int) : SvI (ingR S k l now).2.2 := by
  unfold ingR
  split
  · exact h
  · rename_i f hf
    split
    · rename_i hn
      split
      · rename_i ha
        have h1 := h _ (fnd_mem hf)
        have h2 := okT_nb hn
        exact h.put k ⟨(ingF_ok l h1.ps).1, ing_it l (f, 0) h1.its ha, ⟨by show -1 ≤ now; omega, h2.2, by simp, by simp⟩⟩
      · exact h
    · exact h
theorem itR_sh {x : It} (h : itR x = true) : x.Sh 200 := by
  unfold itR at h
  simp only [Bool.and_eq_true, Bool.not_eq_true', List.any_cons, List.any_nil, Bool.or_false, Bool.or_eq_false_iff] at h
  obtain ⟨_, h1, h2, h3⟩ := h
  have key : ∀ s, bad1 s = false → s.length ≤ 200 := fun s hs => by
    unfold bad1 at hs
    simp only [Bool.or_eq_false_iff, decide_eq_false_iff_not] at hs
    omega
  exact ⟨key _ h1, key _ h2, key _ h3⟩
theorem It.Sh.more {x : It} {n m : Nat} (h : x.Sh n) (hn : n ≤ m) : x.Sh m := ⟨Nat.le_trans h.id hn, Nat.le_trans h.ti hn, Nat.le_trans h.li hn⟩
theorem FdI.sh {f : Fd} (h : FdI f) : f.Sh := ⟨h.ps.n, h.nb, fun p hp => (itR_sh (h.its p hp)).more (by omega)⟩
theorem SvI.sh {S : Sv} (h : SvI S) : ∀ x ∈ S, x.2.Sh := fun x hx => (h x hx).sh
/-- Pages, told by the numbers. -/
theorem filt_sq (ps : List Po) (n : Nat) (h : ∀ (i : Nat) (x : Po), ps[i]? = some x → x.sq = ((n + i : Nat) : Int) + 1) (after : Int) : ps.filter (fun p => decide (after < p.sq)) = ps.drop (min (after - n).toNat ps.length) := by
  induction ps generalizing n with
  | nil => simp
  | cons x r ih =>
    have h0 : x.sq = (n : Int) + 1 := by simpa using h 0 x rfl
    have h1 := ih (n + 1) (fun i y hy => by have := h (i + 1) y (by simpa using hy); rw [this]; omega)
    rw [List.filter_cons]
    by_cases hc : after < x.sq
    · rw [if_pos (by simpa using hc), h1]
      have e1 : (after - n).toNat = 0 := by omega
      have e2 : (after - ((n + 1 : Nat) : Int)).toNat = 0 := by omega
      rw [e1, e2]
      simp
    · rw [if_neg (by simpa using hc), h1]
      have e1 : (after - n).toNat = (after - ((n + 1 : Nat) : Int)).toNat + 1 := by omega
      rw [e1, List.length_cons, Nat.succ_min_succ, List.drop_succ_cons]
theorem lsR_pg {ps : List Po} (h : PsOk ps) (after : Int) : (ps.filter fun p => decide (after < p.sq)).take 50 = pgF ps after := by
  rw [filt_sq ps 0 (fun i x hx => by rw [h.sq i x hx]; omega) after]
  unfold pgF
  congr 2
  omega
end Go.Proofs.YtjfnkjpnjiobjaaGreat
