/-
  Chapter 16: the table's bytes: what Pack writes.
-/
import Derived.Test.YtlonaniomnalnaaRp16
import Derived.Test.YtlonaniomnalnaaCodecRd
import Derived.Deep.MidRow
namespace Go.Proofs.Ytlonaniomnalnaa
open Go.RowKit
theorem SlAt.lit1 (w : World) (t : TypeId) (cs : List Value) (n sz : Nat) (hl : cs.length = n * sz) (hn : n ≤ maxLen) : SlAt (w.alloc (.cells cs.toArray t)) (w.alloc (.cells cs.toArray t)).heap.size (.slice (some ⟨w.heap.size, 0, none⟩) n n) sz n cs :=
  SlAt.of_own (World.ownsRow_lit (base := w.heap.size) (e := t) (size := sz) w cs.toArray n (Nat.le_refl _) hn (by simpa using hl))
theorem range_leases (b : Nat) (t : Tb) (w : World) (hs : Cells w b 81 t.cells) : w.rangeAt b 1 (t.l.flatMap Ls.cells) := by
  intro j v hv
  rw [Nat.add_comm 1]
  exact hs.cell (k := j + 1) (by simpa [Tb.cells] using hv)
theorem size_leases (t : Tb) (hl : t.l.length = 8) : (Try.prog.info? 79).map (·.size) = some (t.l.flatMap Ls.cells).length := by
  rw [flat_length Ls.cells 3 Ls.cells_length, hl]; kernel_rfl
theorem flat_take {α : Type} (f : α → List Value) (n : Nat) (hf : ∀ x, (f x).length = n) (l : List α) (k : Nat) (x : α) (h : l[k]? = some x) : ((l.flatMap f).drop (k * n)).take n = f x := by
  apply List.ext_getElem?
  intro j
  by_cases hj : j < n
  · rw [List.getElem?_take_of_lt hj, List.getElem?_drop]
    exact flat_get f n hf l k j x h hj
  · rw [List.getElem?_eq_none (by rw [List.length_take]; omega), List.getElem?_eq_none (by rw [hf]; omega)]
theorem part_lease (l : List Ls) (k : Nat) (x : Ls) (hx : l[k]? = some x) (w : World) :
    (part 44 (l.flatMap Ls.cells).toArray (k * 3)).run Try.prog w = .ok x.val w := by
  have ha : (isAgg 44).run Try.prog w = .ok true w := by kernel_rfl
  have hs : (sizeOf 44).run Try.prog w = .ok 3 w := by kernel_rfl
  simp only [part, Sem.run_bind, ha, hs, Result.andThen_ok, if_true, Sem.run_pure]
  have e : (l.flatMap Ls.cells).toArray.extract (k * 3) (k * 3 + 3) = x.cells.toArray := by
    rw [← flat_take Ls.cells 3 Ls.cells_length l k x hx, List.extract_toArray, List.extract_eq_take_drop, Nat.add_sub_cancel_left]
  rw [e]; rfl
theorem index_lease (l : List Ls) (k : Nat) (x : Ls) (hk : k < 8) (hx : l[k]? = some x) (w : World) :
    (Instr.index 79 (.agg (l.flatMap Ls.cells).toArray) (.int .i64 k)).run Try.prog w = .ok x.val w := by
  have hu : (underlying 79).run Try.prog w = .ok (.array 8 44) w := by kernel_rfl
  have hs : (sizeOf 44).run Try.prog w = .ok 3 w := by kernel_rfl
  have hk' : (0 : Int) ≤ k ∧ (k : Int) < (8 : Nat) := ⟨by omega, by omega⟩
  simp only [Instr.index, asIntOf, Sem.run_bind, Sem.run_pure, Result.andThen_ok, hu]
  rw [if_pos hk']
  simp only [Sem.run_bind, Result.andThen_ok, hs, Int.toNat_natCast, part_lease l k x hx w]
theorem codec_int3 (n m k : Int) (h0 : Wide64 n) (h1 : Wide64 m) (h2 : Wide64 k) (w : World) (s : Nat) (hs : s = w.heap.size) :
    Calls Try.prog 58 #[.slice (some ⟨s, 0, none⟩) 3 3] (w.alloc (.cells #[.int .i64 n, .int .i64 m, .int .i64 k] 3)) fun e w' => e = .returned (.string ⟨(ib n ++ ib m ++ ib k).toArray⟩) ∧ Only [] (w.alloc (.cells #[.int .i64 n, .int .i64 m, .int .i64 k] 3)) w' := by
  subst hs
  have := codec_int _ [n, m, k] _ (SlAt.lit1 w 3 [.int .i64 n, .int .i64 m, .int .i64 k] 3 1 rfl (by decide)) (by intro y hy; simp at hy; rcases hy with rfl | rfl | rfl <;> assumption) (by simp)
  rw [show isb [n, m, k] = ib n ++ ib m ++ ib k from by simp [isb]] at this
  exact this
set_option maxRecDepth 100000 in
set_option maxHeartbeats 1000000 in
theorem lease_pack (b : Nat) (t : Tb) (w : World) (hs : Cells w b 81 t.cells) (hl : t.l.length = 8) (hf : t.Fit) :
    Calls Try.prog 46 #[.pointer (some ⟨b, 0, none⟩)] w fun e w' => e = .returned (.string ⟨t.bytes.toArray⟩) ∧ Only [] w w' := by
  have H := Lib.hid hs
  have HF := Lib.hid hf
  have c0 := hs.cell t.cell0
  have hbl := hs.lt
  have CN := Lib.hid (fun w : World => codec_int _ [t.now] _ (SlAt.lit1 w 3 [.int .i64 t.now] 1 1 rfl (by decide)) (by intro x hx; simp at hx; subst hx; exact hf.now) (by simp))
  have l1 := (ib_length _ hf.now).2
  obtain ⟨CS, hCS⟩ : ∃ CS, (t.l.flatMap Ls.cells) = CS := ⟨_, rfl⟩
  have HIX := Lib.hid (fun k x => index_lease t.l k x)
  have HL := Lib.hid (fun w' (ho : Only [] w w') => range_leases b t w' (hs.only ho (by simp)))
  have HZ := Lib.hid (size_leases t hl)
  rw [hCS] at HIX HL HZ
  clear hs hf hCS
  have e1 : isb [t.now] = ib t.now := by simp [isb]
  rw [e1] at CN
  clear e1
  go_enter Try.func46, Try.ntmps46
  go_wp2_with (first
    | (go_at_call 58; refine (CN.out _).mono ?_; rintro e w1 ⟨rfl, ho1⟩)
    | (refine wpList_load_mid rfl 79 _ rfl b 1 rfl CS _ (HL.out _ (((Only.refl [] w).alloc _).tr ho1)) Try.underlying79 rfl HZ.out ?_))
  clear c0
  go_loopw [3, 16] (fun s i wr => ∃ k : Nat, k ≤ 8 ∧ i = .int .i64 k ∧ s = .string ⟨(ib t.now ++ lsB (t.l.take k)).toArray⟩ ∧ Only [] w wr) (fun _ i _ => 8 - (intOf i).toNat)
  case atStart => exact ⟨0, by omega, rfl, by simp [lsB], ((Only.refl [] w).alloc _).tr ho1⟩
  case round =>
    obtain ⟨k, hk, rfl, rfl, ho⟩ := hrel
    by_cases hk8 : k < 8
    · have hk8' : (k : Int) < 8 := by omega
      have hk1 := List.getElem?_eq_getElem (l := t.l) (i := k) (by omega)
      obtain ⟨x, hx⟩ : ∃ x, t.l[k]'(by omega) = x := ⟨_, rfl⟩
      rw [hx] at hk1
      have hm := List.mem_of_getElem? hk1
      have w1 := HF.out.node x hm
      have w2 := HF.out.epoch x hm
      have w3 := HF.out.till x hm
      have hxl := Ls.bytes_length w1 w2 w3
      have hix := HIX.out k x hk8 hk1
      unfold Ls.val at hix
      have hLl := lsB_length (l := t.l.take k) (fun s hs => HF.out.node s (List.mem_of_mem_take hs)) (fun s hs => HF.out.epoch s (List.mem_of_mem_take hs)) (fun s hs => HF.out.till s (List.mem_of_mem_take hs))
      have hLk : (t.l.take k).length ≤ 8 := by rw [List.length_take]; omega
      obtain ⟨L, hL⟩ : ∃ L, ib t.now ++ lsB (t.l.take k) = L := ⟨_, rfl⟩
      have hLL : L.length ≤ 2000000 := by rw [← hL, List.length_append]; omega
      have hSL : ib t.now ++ lsB (t.l.take (k + 1)) = L ++ (ib x.node ++ ib x.epoch ++ ib x.till) := by rw [lsB_snoc t.l k x hk1, ← List.append_assoc, hL]; simp [Ls.bytes]
      have HSL := Lib.hid hSL
      have CI := Lib.hid (codec_int3 x.node x.epoch x.till w1 w2 w3)
      unfold Ls.bytes at hxl
      obtain ⟨BX, hBX⟩ : ∃ BX, ib x.node ++ ib x.epoch ++ ib x.till = BX := ⟨_, rfl⟩
      rw [hBX] at CI HSL hxl
      rw [hL]
      clear hx hk1 hm hL hSL hLl hLk hBX
      go_wp2_with (go_at_call 58; refine (CI.out _ _ (by simp)).mono ?_; rintro e w9 ⟨rfl, ho9⟩)
      go_roundw
      case rel => exact ⟨k + 1, by omega, by go_num, by rw [HSL.out]; simp [ba_append], (((ho.alloc _).alloc _).tr ho9)⟩
      case measure => simp [intOf]; omega
    · have hd0 : decide ((8 : Int) < 8) = false := by simp
      obtain rfl : k = 8 := by omega
      go_wp2_with fail
      go_ret
      exact ⟨by rw [List.take_of_length_le (by omega)]; rfl, ho⟩
end Go.Proofs.Ytlonaniomnalnaa
