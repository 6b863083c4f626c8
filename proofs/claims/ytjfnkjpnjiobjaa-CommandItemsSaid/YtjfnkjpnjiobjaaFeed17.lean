/-
  Whether an item is right, both answers.
-/
import Derived.Test.YtjfnkjpnjiobjaaSqW17
import Derived.Test.YtjfnkjpnjiobjaaTx
import Derived.Test.YtjfnkjpnjiobjaaGen
import Derived.Test.YtjfnkjpnjiobjaaWr
namespace Go.Proofs.Ytjfnkjpnjiobjaa
open Go.RowKit
structure It where
  id : List UInt8
  ti : List UInt8
  li : List UInt8
def It.cells (x : It) : List Value := [.string ⟨x.id.toArray⟩, .string ⟨x.ti.toArray⟩, .string ⟨x.li.toArray⟩]
structure It.Len (x : It) : Prop where
  id : x.id.length ≤ maxLen
  ti : x.ti.length ≤ maxLen
  li : x.li.length ≤ maxLen
def bad1 (s : List UInt8) : Bool := decide (200 < s.length) || !(sq s == s)
def itR (x : It) : Bool := !x.id.isEmpty && !([x.id, x.ti, x.li].any bad1)
set_option maxRecDepth 100000 in
theorem right1 (s : List UInt8) (w : World) (hs : s.length ≤ maxLen) : Calls Try.prog 91 #[.string ⟨s.toArray⟩] w fun e w' => e = .returned (.bool (bad1 s)) ∧ Only [] w w' := by
  unfold maxLen at hs
  by_cases h : 200 < s.length
  · have d1 : decide ((200 : Int) < (s.length : Int)) = true := by simp; omega
    have hb : bad1 s = true := by unfold bad1; rw [decide_eq_true h]; rfl
    go_enter Try.func91, Try.ntmps91
    go_wp2_with fail
    go_ret
    exact ⟨by rw [hb]; rfl, Only.refl _ _⟩
  · have d1 : decide ((200 : Int) < (s.length : Int)) = false := by simp; omega
    have hb : bad1 s = !(sq s == s) := by unfold bad1; rw [decide_eq_false h]; rfl
    have C := Lib.hid (fun w' => tree_squeeze s w' (by omega))
    obtain ⟨q, hq⟩ : ∃ q, sq s = q := ⟨_, rfl⟩
    rw [hq] at hb C
    have HB := Lib.hid hb
    clear hb hq
    go_enter Try.func91, Try.ntmps91
    go_wp2_with fail
    refine (C.out _).mono ?_
    rintro e w1 ⟨rfl, ho⟩
    go_wp2_with fail
    go_ret
    exact ⟨by rw [HB.out]; rfl, ho⟩
set_option maxRecDepth 100000 in
set_option maxHeartbeats 1000000 in
theorem indexFunc_str (v : Value) (l : List (List UInt8)) (w : World) (hs : SlAt w w.heap.size v 1 l.length (svs l)) (hl : l.length ≤ 1000000) (hx : ∀ x ∈ l, x.length ≤ maxLen) :
    Calls Try.prog 117 #[v, .func (.func 91) #[] #[]] w fun e w' => (∃ i : Int, e = .returned (.int .i64 i) ∧ (decide (0 ≤ i) = l.any bad1)) ∧ Only [] w w' := by
  obtain ⟨A, c, rfl⟩ := hs.shape
  have HS := Lib.hid hs
  have HX := Lib.hid hx
  clear hs hx
  go_enter Try.func117, Try.ntmps117
  go_wp2_with fail
  go_loopw [8] (fun i wr => ∃ k : Nat, k ≤ l.length ∧ i = .int .i64 k ∧ Hid ((l.take k).any bad1 = false) ∧ Only [] w wr) (fun i _ => l.length - (intOf i).toNat)
  case atStart => exact ⟨0, by omega, rfl, Lib.hid rfl, Only.refl _ _⟩
  case round =>
    obtain ⟨k, hk, rfl, hno, ho⟩ := hrel
    by_cases hlt : k < l.length
    · have hlt' : (k : Int) < (l.length : Int) := by omega
      have hk1 := List.getElem?_eq_getElem hlt
      obtain ⟨x, hx⟩ : ∃ x, l[k] = x := ⟨_, rfl⟩
      have hxl := HX.out l[k] (List.getElem_mem _)
      rw [hx] at hk1 hxl
      obtain ⟨ab, ao, ac, hv, hab, hc⟩ := (HS.out.only ho (Nat.le_refl _) (by simp)).at_ (by omega)
      have q0 : wr.cell? ⟨ab, ao + k, none⟩ = some (.string ⟨x.toArray⟩) := hc k _ (by unfold svs; rw [List.getElem?_map, hk1]; rfl)
      have F1 := Lib.hid (right1 x wr hxl)
      have HT : Hid ((l.take (k + 1)).any bad1 = bad1 x) := by show _ = _; rw [List.take_add_one, hk1, List.any_append, hno.out]; simp
      have HA : Hid (bad1 x = true → l.any bad1 = true) := fun h => List.any_eq_true.2 ⟨x, List.mem_of_getElem? hk1, h⟩
      injection hv with e1 e2 e3
      subst e1; subst e3
      clear e2 hc hx hk1 hno
      cases hb : bad1 x with
      | true =>
        rw [hb] at F1 HA
        have HR := HA.out rfl
        clear HT hb HA
        go_wp2_with (go_at_call 91; refine F1.out.mono ?_; rintro e w1 ⟨rfl, ho1⟩)
        go_ret
        exact ⟨⟨k, rfl, by rw [HR]; simp⟩, ho.tr0 ho1⟩
      | false =>
        rw [hb] at F1 HT
        clear hb HA
        go_wp2_with (go_at_call 91; refine F1.out.mono ?_; rintro e w1 ⟨rfl, ho1⟩)
        go_roundw
        case rel => exact ⟨k + 1, by omega, by go_num, HT, ho.tr0 ho1⟩
        case measure => simp [intOf]; omega
    · have hd0 : decide ((k : Int) < (l.length : Int)) = false := by simp; omega
      have HF : l.any bad1 = false := by have := hno.out; rwa [List.take_of_length_le (by omega)] at this
      clear hno
      go_wp2_with fail
      go_ret
      exact ⟨⟨-1, rfl, by rw [HF]; simp⟩, ho⟩
set_option maxRecDepth 100000 in
theorem containsFunc_str (v : Value) (l : List (List UInt8)) (w : World) (hs : SlAt w w.heap.size v 1 l.length (svs l)) (hl : l.length ≤ 1000000) (hx : ∀ x ∈ l, x.length ≤ maxLen) :
    Calls Try.prog 90 #[v, .func (.func 91) #[] #[]] w fun e w' => e = .returned (.bool (l.any bad1)) ∧ Only [] w w' := by
  have C := Lib.hid (indexFunc_str v l w hs hl hx)
  obtain ⟨A, c, rfl⟩ := hs.shape
  clear hs hx
  go_enter Try.func90, Try.ntmps90
  go_wp2_with fail
  refine C.out.mono ?_
  rintro e w1 ⟨⟨i, rfl, hi⟩, ho⟩
  have HI := Lib.hid hi
  clear hi
  go_wp2_with fail
  go_ret
  exact ⟨by rw [← HI.out]; rfl, ho⟩
def It.list (x : It) : List (List UInt8) := [x.id, x.ti, x.li]
theorem It.Len.all {x : It} (h : x.Len) : ∀ s ∈ x.list, s.length ≤ maxLen := by
  intro s hs
  simp only [It.list, List.mem_cons, List.not_mem_nil, or_false] at hs
  rcases hs with rfl | rfl | rfl
  · exact h.id
  · exact h.ti
  · exact h.li
theorem contains_it (x : It) (hx : x.Len) (W : World) (b' : Nat) (hC : Cells W b' 9 (svs x.list)) :
    Calls Try.prog 90 #[.slice (some ⟨b', 0, none⟩) 3 3, .func (.func 91) #[] #[]] W fun e w' => e = .returned (.bool (x.list.any bad1)) ∧ Only [] W w' :=
  containsFunc_str _ x.list W (SlAt.cells (n := 3) (sz := 1) hC rfl (by unfold maxLen; omega)) (by simp [It.list]) hx.all
set_option maxRecDepth 100000 in
set_option maxHeartbeats 1000000 in
theorem feed_right (x : It) (hx : x.Len) (w : World) :
    Calls Try.prog 52 #[.agg #[.string ⟨x.id.toArray⟩, .string ⟨x.ti.toArray⟩, .string ⟨x.li.toArray⟩]] w fun e w' => e = .returned (.bool (itR x)) ∧ Only [] w w' := by
  by_cases h0 : x.id = []
  · have hr : itR x = false := by unfold itR; rw [h0]; rfl
    have h1 : x.id.isEmpty = true := by rw [h0]; rfl
    go_enter Try.func52, Try.ntmps52
    go_wp2_with fail
    go_ret
    exact ⟨by rw [hr]; rfl, (Only.refl _ _).alloc _⟩
  · have h1 : x.id.isEmpty = false := by simpa using h0
    have hr : itR x = !(x.list.any bad1) := by unfold itR; rw [h1]; rfl
    obtain ⟨z, hz⟩ : ∃ z, x.list.any bad1 = z := ⟨_, rfl⟩
    obtain ⟨w1, hw1⟩ : ∃ w1, w.alloc (.cells #[.string ⟨x.id.toArray⟩, .string ⟨x.ti.toArray⟩, .string ⟨x.li.toArray⟩] 36) = w1 := ⟨_, rfl⟩
    obtain ⟨zb, hzb⟩ : ∃ zb, w.heap.size = zb := ⟨_, rfl⟩
    have a1 : Cells w1 zb 36 x.cells := hw1 ▸ hzb ▸ Cells.new w _ _
    obtain ⟨w2, hw2⟩ : ∃ w2, w1.alloc (.cells #[.string ⟨x.id.toArray⟩, .string ⟨x.ti.toArray⟩, .string ⟨x.li.toArray⟩] 9) = w2 := ⟨_, rfl⟩
    obtain ⟨y, hy⟩ : ∃ y, w1.heap.size = y := ⟨_, rfl⟩
    have a2 : Cells w2 y 9 (svs x.list) := hw2 ▸ hy ▸ Cells.new w1 _ _
    have b1 : Cells w2 zb 36 x.cells := hw2 ▸ a1.alloc _
    have O2 : Only [] w w2 := hw2 ▸ (hw1 ▸ (Only.refl _ _).alloc _).alloc _
    have C := Lib.hid (contains_it x hx w2 y a2)
    rw [hz] at hr C
    have HR := Lib.hid hr
    have HO2 := Lib.hid O2
    have r0 := a1.cell (k := 0) rfl
    have r1 := a1.cell (k := 1) rfl
    have r2 := a1.cell (k := 2) rfl
    clear hr hz h0 a1 a2 b1 O2
    go_enter Try.func52, Try.ntmps52
    go_wp2_with fail
    refine C.out.mono ?_
    rintro e w3 ⟨rfl, ho⟩
    have HO := Lib.hid (HO2.out.tr ho)
    clear ho C hw1 hw2 hy hzb r0 r1 r2
    go_wp2_with fail
    go_ret
    exact ⟨by rw [HR.out]; rfl, HO.out⟩
set_option maxRecDepth 100000 in
set_option maxHeartbeats 2000000 in
theorem ref13_right (x : It) (hx : x.Len) (w : World) :
    Calls Try.prog 74 #[.agg #[.string ⟨x.id.toArray⟩, .string ⟨x.ti.toArray⟩, .string ⟨x.li.toArray⟩]] w fun e w' => e = .returned (.bool (itR x)) ∧ Only [] w w' := by
  obtain ⟨w1, hw1⟩ : ∃ w1, w.alloc (.cells #[.string ⟨x.id.toArray⟩, .string ⟨x.ti.toArray⟩, .string ⟨x.li.toArray⟩] 36) = w1 := ⟨_, rfl⟩
  obtain ⟨z, hz⟩ : ∃ z, w.heap.size = z := ⟨_, rfl⟩
  have a1 : Cells w1 z 36 x.cells := hw1 ▸ hz ▸ Cells.new w _ _
  obtain ⟨w2, hw2⟩ : ∃ w2, w1.alloc (.cells #[.string ⟨x.id.toArray⟩, .string ⟨x.ti.toArray⟩, .string ⟨x.li.toArray⟩] 9) = w2 := ⟨_, rfl⟩
  obtain ⟨y, hy⟩ : ∃ y, w1.heap.size = y := ⟨_, rfl⟩
  have a2 : Cells w2 y 9 (svs x.list) := hw2 ▸ hy ▸ Cells.new w1 _ _
  have b1 : Cells w2 z 36 x.cells := hw2 ▸ a1.alloc _
  have O2 : Only [] w w2 := hw2 ▸ (hw1 ▸ (Only.refl _ _).alloc _).alloc _
  have HL := Lib.hid a2
  have HX := Lib.hid hx.all
  have HI := Lib.hid (b1.cell (k := 0) rfl)
  have HO := Lib.hid O2
  have HZ := Lib.hid b1.lt
  have r0 := a1.cell (k := 0) rfl
  have r1 := a1.cell (k := 1) rfl
  have r2 := a1.cell (k := 2) rfl
  clear a1 a2 b1 O2
  go_enter Try.func74, Try.ntmps74
  go_wp2_with fail
  clear hw1 hw2 hz hy r0 r1 r2
  go_loopw [4] (fun i wr => ∃ k : Nat, k ≤ 3 ∧ i = .int .i64 k ∧ Hid ((x.list.take k).any bad1 = false) ∧ Only [] w2 wr) (fun i _ => 3 - (intOf i).toNat)
  case atStart => exact ⟨0, by omega, rfl, Lib.hid rfl, Only.refl _ _⟩
  case round =>
    obtain ⟨k, hk, rfl, hno, ho⟩ := hrel
    by_cases hlt : k < 3
    · have hlt' : decide ((k : Int) < 3) = true := by simp; omega
      have hkl : k < x.list.length := by simpa [It.list] using hlt
      have hk1 := List.getElem?_eq_getElem hkl
      obtain ⟨s, hs⟩ : ∃ s, x.list[k] = s := ⟨_, rfl⟩
      have hsl := HX.out x.list[k] (List.getElem_mem _)
      rw [hs] at hk1 hsl
      unfold maxLen at hsl
      have q0 : wr.cell? ⟨y, k, none⟩ = some (.string ⟨s.toArray⟩) := (HL.out.only ho (by simp)).cell (by unfold svs; rw [List.getElem?_map, hk1]; rfl)
      have HT : Hid ((x.list.take (k + 1)).any bad1 = bad1 s) := by show _ = _; rw [List.take_add_one, hk1, List.any_append, hno.out]; simp
      have HA : Hid (bad1 s = true → itR x = false) := fun h => by
        have : x.list.any bad1 = true := List.any_eq_true.2 ⟨s, List.mem_of_getElem? hk1, h⟩
        unfold itR
        rw [show [x.id, x.ti, x.li].any bad1 = true from this]; simp
      clear hs hk1 hno
      have t0 := fun u : Since wr => u.cell q0
      by_cases h2 : 200 < s.length
      · have d1 : decide ((200 : Int) < (s.length : Int)) = true := by simp; omega
        have hb : bad1 s = true := by unfold bad1; rw [decide_eq_true h2]; rfl
        have HR := HA.out hb
        clear hb HA HT q0
        go_wp2_with fail
        refine wp_region_only wr (Only.refl _ _) (by kernel_rfl) (by kernel_rfl) ?_
        repeat (go_big_quiet_step (fail))
        refine wpQuiet_nil ?_
        rintro ⟨w9, ho9⟩
        dsimp only
        have HO9 := Lib.hid ((HO.out.tr ho).tr ho9)
        go_wp2_with fail
        go_ret
        exact ⟨by rw [HR]; rfl, HO9.out⟩
      · have d1 : decide ((200 : Int) < (s.length : Int)) = false := by simp; omega
        have C := Lib.hid (fun u : Since wr => ref12_squeeze s u.w (by omega))
        have hbs : bad1 s = !(sq s == s) := by unfold bad1; rw [decide_eq_false h2]; rfl
        obtain ⟨q, hq⟩ : ∃ q, sq s = q := ⟨_, rfl⟩
        rw [hq] at C hbs
        clear hq q0
        cases hb : (q == s) with
        | true =>
          have hb1 : bad1 s = false := by rw [hbs, hb]; rfl
          rw [hb1] at HT
          clear hb1 HA hbs
          go_wp2_with fail
          refine wp_region_only wr (Only.refl _ _) (by kernel_rfl) (by kernel_rfl) ?_
          repeat (go_big_quiet_step (first | (go_at_call 105; refine Calls.only (C.out _))))
          refine wpQuiet_nil ?_
          rintro ⟨w9, ho9⟩
          dsimp only
          have ho9' := ho.tr ho9
          go_wp2_with fail
          go_roundw
          case rel => exact ⟨k + 1, by omega, by go_num, HT, ho9'⟩
          case measure => simp [intOf]; omega
        | false =>
          have hb1 : bad1 s = true := by rw [hbs, hb]; rfl
          have HR := HA.out hb1
          clear hb1 HA hbs HT
          go_wp2_with fail
          refine wp_region_only wr (Only.refl _ _) (by kernel_rfl) (by kernel_rfl) ?_
          repeat (go_big_quiet_step (first | (go_at_call 105; refine Calls.only (C.out _))))
          refine wpQuiet_nil ?_
          rintro ⟨w9, ho9⟩
          dsimp only
          have HO9 := Lib.hid ((HO.out.tr ho).tr ho9)
          go_wp2_with fail
          go_ret
          exact ⟨by rw [HR]; rfl, HO9.out⟩
    · have hlt' : decide ((k : Int) < 3) = false := by simp; omega
      have HR : Hid (itR x = !x.id.isEmpty) := by
        show _ = _
        have := hno.out
        rw [List.take_of_length_le (by simp [It.list]; omega)] at this
        unfold itR
        rw [show [x.id, x.ti, x.li].any bad1 = false from this]; simp
      have q1 : wr.cell? ⟨z, 0, none⟩ = some (.string ⟨x.id.toArray⟩) := (ho.cell (p := ⟨z, 0, none⟩) HZ.out (by simp)).trans HI.out
      have HO9 := Lib.hid (HO.out.tr ho)
      clear hno
      go_wp2_with fail
      go_ret
      exact ⟨by rw [HR.out]; rfl, HO9.out⟩
end Go.Proofs.Ytjfnkjpnjiobjaa
