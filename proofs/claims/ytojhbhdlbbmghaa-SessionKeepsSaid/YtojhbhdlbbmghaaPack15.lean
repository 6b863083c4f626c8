/-
  Chapter 15: a table's bytes.
-/
import Derived.Test.YtojhbhdlbbmghaaWrite
import Derived.Test.YtojhbhdlbbmghaaShown15
import Derived.Test.YtojhbhdlbbmghaaPend
import Derived.Deep.RegionHeld3
namespace Go.Proofs.Ytojhbhdlbbmghaa
open Go.RowKit
def Ses.bytes (s : Ses) : List UInt8 := ib s.id ++ ib s.seq ++ tb s.reply.data.toList
def sesB (l : List Ses) : List UInt8 := l.flatMap Ses.bytes
def packL (l : List Ses) (ever : Int) : List UInt8 := ib ever ++ ib l.length ++ sesB l
structure Ses.Fit (s : Ses) : Prop where
  id : Wide64 s.id
  seq : Wide64 s.seq
  reply : s.reply.size ≤ 1000000
theorem Ses.bytes_length {s : Ses} (h : s.Fit) : s.bytes.length ≤ 1000030 := by
  unfold Ses.bytes
  have h1 := (ib_length _ h.id).2
  have h2 := (ib_length _ h.seq).2
  have h4 := h.reply
  have h3 := (tb_length s.reply.data.toList (by have : s.reply.data.toList.length = s.reply.size := by simp
                                                omega)).2
  have h5 : s.reply.data.toList.length = s.reply.size := by simp
  rw [List.length_append, List.length_append]; omega
theorem sesB_length {l : List Ses} (h : ∀ s ∈ l, s.Fit) : (sesB l).length ≤ 1000030 * l.length := by
  induction l with
  | nil => simp [sesB]
  | cons s l ih =>
    have h1 := Ses.bytes_length (h s (by simp))
    have h2 := ih fun x hx => h x (by simp [hx])
    have : sesB (s :: l) = s.bytes ++ sesB l := rfl
    rw [this, List.length_append, List.length_cons]; omega
theorem sesB_snoc (l : List Ses) (k : Nat) (x : Ses) (h : l[k]? = some x) : sesB (l.take (k + 1)) = sesB (l.take k) ++ x.bytes := by
  unfold sesB
  rw [List.take_add_one, h, List.flatMap_append]; simp
theorem box3 {w : World} {b : Nat} {t : TypeId} {x y z : Value} (h : Cells w b t [x, y, z]) : Hid (Cells w b t [x, y, z]) ∧ w.cell? ⟨b, 0, none⟩ = some x ∧ w.cell? ⟨b, 1, none⟩ = some y ∧ w.cell? ⟨b, 2, none⟩ = some z :=
  ⟨h, h.cell rfl, h.cell rfl, h.cell rfl⟩
set_option maxRecDepth 100000 in
set_option maxHeartbeats 2000000 in
theorem tbs_pack (B b : Nat) (l : List Ses) (ever : Int) (w : World) (h : TbS w B b l ever) (hl : l.length ≤ 1000) (he : Wide64 ever) (hf : ∀ s ∈ l, s.Fit) :
    Calls Try.prog 56 #[.pointer (some ⟨b, 0, none⟩)] w fun e w' => e = .returned (.string ⟨(packL l ever).toArray⟩) ∧ Only [] w w' := by
  obtain ⟨hB, v, hc, hown⟩ := h
  have hs := SlAt.of_own hown
  obtain ⟨A, c, rfl⟩ := hs.shape
  have c0 := (hc.alloc (.cells #[.pointer none, .slice none 0 0] 113)).cell (k := 0) rfl
  have c1 := (hc.alloc (.cells #[.pointer none, .slice none 0 0] 113)).cell (k := 1) rfl
  have HS := Lib.hid hs
  have HCB := Lib.hid hc
  have HBl := Lib.hid (Bld.new 113 w)
  have HFit := Lib.hid hf
  have hei := ib_length _ he
  have hli := ib_length (l.length : Int) ⟨by omega, by omega⟩
  have CI : Hid (∀ W b', Cells W b' 3 [.int .i64 ever, .int .i64 l.length] → Calls Try.prog 26 #[.slice (some ⟨b', 0, none⟩) 2 2] W fun e w' => e = .returned (.string ⟨(ib ever ++ ib l.length).toArray⟩) ∧ Only [] W w') := by
    intro W b' hC
    have := codec_int (.slice (some ⟨b', 0, none⟩) 2 2) [ever, l.length] W (SlAt.cells hC rfl (by decide)) (by intro x hx; simp at hx; rcases hx with rfl | rfl; exact he; exact ⟨by omega, by omega⟩) (by simp)
    simpa [isb] using this
  clear hown hc hs hf
  go_enter Try.func56, Try.ntmps56
  go_wp2_with fail
  have hoA : Only [] w (w.alloc (.cells #[.pointer none, .slice none 0 0] 113)) := (Only.refl _ _).alloc _
  have hz : w.heap.size < (w.alloc (.cells #[.pointer none, .slice none 0 0] 113)).heap.size := by simp
  obtain ⟨W0, hW0⟩ : ∃ W0, w.alloc (.cells #[.pointer none, .slice none 0 0] 113) = W0 := ⟨_, rfl⟩
  rw [hW0] at c0 c1 HBl hoA hz ⊢
  obtain ⟨z, hzz⟩ : ∃ z, w.heap.size = z := ⟨_, rfl⟩
  rw [hzz] at hz HBl ⊢
  have HZ := Lib.hid hzz
  clear hW0 hzz
  go_still_tail 9, (by kernel_rfl)
  change wpList _ _ _ _ _ W0.drew
  go_wp2_with fail
  refine (CI.out _ _ (Cells.new' rfl _ _).drew).mono ?_
  rintro e w1 ⟨rfl, ho1⟩
  have HB1 : Hid (IsBld 113 z z [] w1) := IsBld.only (w := W0) (.inl HBl.out) (((Only.refl _ _).drew.alloc _).tr0 ho1)
  have hoB : Only [] w w1 := (hoA.drew.alloc _).tr0 ho1
  have HW1 := Lib.hid (writeString _ holds_builder z z [] (ib ever ++ ib l.length) w1 HB1.out (by rw [List.length_append]; simp; omega) (by have := ho1.size; simp at this; omega))
  clear ho1 HB1
  go_wp2_with fail
  refine HW1.out.mono ?_
  rintro e w2 ⟨rfl, hb2, hbe2⟩
  have hoC : Only [] w w2 := hoB.past_below HZ.out hbe2
  have HB2 : Hid (IsBld 113 z z (ib ever ++ ib l.length ++ sesB (l.take 0)) w2) := .inr (by simpa [sesB] using hb2)
  have HC2 := Lib.hid (HCB.out.only hoC (by simp))
  have c0 := HC2.out.cell (k := 0) rfl
  clear hb2 hbe2 HW1 HBl hoB hoA
  go_wp2_with fail
  go_loopw [23] (fun i wr => ∃ k : Nat, k ≤ l.length ∧ i = .int .i64 k ∧ Hid (IsBld 113 z z (ib ever ++ ib l.length ++ sesB (l.take k)) wr) ∧ Only [] w wr) (fun i _ => l.length - (intOf i).toNat)
  case atStart => exact ⟨0, by omega, rfl, HB2, hoC⟩
  case round =>
    obtain ⟨k, hk, rfl, hb, ho⟩ := hrel
    by_cases hlt : k < l.length
    · have hlt' : (k : Int) < (l.length : Int) := by omega
      have hk1 := List.getElem?_eq_getElem hlt
      obtain ⟨x, hx⟩ : ∃ x, l[k] = x := ⟨_, rfl⟩
      rw [hx] at hk1
      have hfx := HFit.out x (List.mem_of_getElem? hk1)
      obtain ⟨ab, ao, ac, hv, hab, hc⟩ := (HS.out.only ho (Nat.le_refl _) (by simp)).at_ (by omega)
      have q0 : wr.cell? ⟨ab, ao + k * 3, none⟩ = some (.int .i64 x.id) := hc (k * 3 + 0) _ (sesL_get l k 0 x hk1 (by omega))
      have q1 : wr.cell? ⟨ab, ao + k * 3 + 1, none⟩ = some (.int .i64 x.seq) := hc (k * 3 + 1) _ (sesL_get l k 1 x hk1 (by omega))
      have q2 : wr.cell? ⟨ab, ao + k * 3 + 2, none⟩ = some (.string x.reply) := hc (k * 3 + 2) _ (sesL_get l k 2 x hk1 (by omega))
      have hsz := ho.size
      injection hv with e1 e2 e3
      subst e1; subst e3
      clear e2 hc hx
      have HSn := Lib.hid (sesB_snoc l k x hk1)
      have hxl := Ses.bytes_length hfx
      have hLl := sesB_length (l := l.take k) (fun s hs => HFit.out s (List.mem_of_mem_take hs))
      have hLk : (l.take k).length ≤ 1000 := by rw [List.length_take]; omega
      obtain ⟨L, hL⟩ : ∃ L, ib ever ++ ib l.length ++ sesB (l.take k) = L := ⟨_, rfl⟩
      have hLL : L.length ≤ 2000000000 := by rw [← hL, List.length_append, List.length_append]; omega
      have HSL : Hid (ib ever ++ ib l.length ++ sesB (l.take (k + 1)) = L ++ x.bytes) := by show _ = _; rw [HSn.out, ← List.append_assoc, hL]
      rw [hL] at hb
      obtain ⟨I, hI⟩ : ∃ I, ib x.id ++ ib x.seq = I := ⟨_, rfl⟩
      obtain ⟨T, hT⟩ : ∃ T, tb x.reply.data.toList = T := ⟨_, rfl⟩
      have CI2 : Hid (∀ W b', Cells W b' 3 [.int .i64 x.id, .int .i64 x.seq] → Calls Try.prog 26 #[.slice (some ⟨b', 0, none⟩) 2 2] W fun e w' => e = .returned (.string ⟨I.toArray⟩) ∧ Only [] W w') := by
        intro W b' hC
        have := codec_int (.slice (some ⟨b', 0, none⟩) 2 2) [x.id, x.seq] W (SlAt.cells hC rfl (by decide)) (by intro y hy; simp at hy; rcases hy with rfl | rfl; exact hfx.id; exact hfx.seq) (by simp)
        rw [← hI]
        simpa [isb] using this
      have CT : Hid (∀ W b', Cells W b' 9 [.string x.reply] → Calls Try.prog 39 #[.slice (some ⟨b', 0, none⟩) 1 1] W fun e w' => e = .returned (.string ⟨T.toArray⟩) ∧ Only [] W w') := by
        intro W b' hC
        have hr := hfx.reply
        have := codec_text (.slice (some ⟨b', 0, none⟩) 1 1) [x.reply.data.toList] W (by
          have := SlAt.cells (n := 1) (sz := 1) hC rfl (by decide)
          simpa [svs, ba_list] using this) (by simp) (by
            have h3 := (tb_length x.reply.data.toList (by simp; omega)).2
            simp [tsb] at h3 ⊢; omega)
        rw [← hT]
        simpa [tsb] using this
      have hs1 := (ib_length _ hfx.id).2
      have hs2 := (ib_length _ hfx.seq).2
      have hs3 : (tb x.reply.data.toList).length ≤ 1000010 := by
        have hr := hfx.reply
        have h3 := (tb_length x.reply.data.toList (by simp; omega)).2
        simp at h3 ⊢; omega
      have hIl : I.length ≤ 20 := by rw [← hI, List.length_append]; omega
      have hTl : T.length ≤ 1000010 := by rw [← hT]; exact hs3
      have hIT : I.length + T.length ≤ 9223372036854775807 := by omega
      have HX : Hid (x.bytes = I ++ T) := by show x.bytes = _; rw [← hI, ← hT]; rfl
      have CW : Hid (∀ W, Only [] (wr.alloc (.cells #[.int .i64 x.id, .int .i64 x.seq, .string x.reply] 128)) W → Calls Try.prog 90 #[.pointer (some ⟨z, 0, none⟩), .string ⟨(I ++ T).toArray⟩] W fun e w' => e = .returned (.tuple #[.int .i64 (I ++ T).length, .nilIface]) ∧ Bld 113 z z (.pointer (some ⟨z, 0, none⟩)) (L ++ (I ++ T)) w' ∧ Below z W w' ∧ Keeps z W w') := by
        intro W hoW
        have hzW := hoW.size
        have hzz := HZ.out
        exact writeString_k _ holds_builder z z L (I ++ T) W (hb.out.only (((Only.refl _ _).alloc _).tr0 hoW)) (by rw [List.length_append]; omega) (by simp at hzW; omega)
      have r0 : (wr.alloc (.cells #[.int .i64 x.id, .int .i64 x.seq, .string x.reply] 128)).cell? ⟨wr.heap.size, 0, none⟩ = some (.int .i64 x.id) := by simp
      have r1 : (wr.alloc (.cells #[.int .i64 x.id, .int .i64 x.seq, .string x.reply] 128)).cell? ⟨wr.heap.size, 1, none⟩ = some (.int .i64 x.seq) := by simp
      have r2 : (wr.alloc (.cells #[.int .i64 x.id, .int .i64 x.seq, .string x.reply] 128)).cell? ⟨wr.heap.size, 2, none⟩ = some (.string x.reply) := by simp
      have HB3 : Hid (Cells (wr.alloc (.cells #[.int .i64 x.id, .int .i64 x.seq, .string x.reply] 128)) wr.heap.size 128 [.int .i64 x.id, .int .i64 x.seq, .string x.reply]) := Cells.new _ _ _
      have ho3 : Only [] w (wr.alloc (.cells #[.int .i64 x.id, .int .i64 x.seq, .string x.reply] 128)) := ho.alloc _
      have hzw : z < wr.heap.size := by
        rcases hb.out with h | h
        · obtain ⟨_, _, h, _⟩ := h; exact h.lt
        · obtain ⟨_, _, h, _⟩ := h; exact h.lt
      have hob : Only [] wr (wr.alloc (.cells #[.int .i64 x.id, .int .i64 x.seq, .string x.reply] 128)) := (Only.refl _ _).alloc _
      clear hb hk1 hL hLl hLk HSn hfx hI hT hs1 hs2 hs3 hxl
      go_wp2_with fail
      obtain ⟨b3, hb3⟩ : ∃ b3, wr.heap.size = b3 := ⟨_, rfl⟩
      obtain ⟨W3, hW3⟩ : ∃ W3, wr.alloc (.cells #[.int .i64 x.id, .int .i64 x.seq, .string x.reply] 128) = W3 := ⟨_, rfl⟩
      rw [hW3] at r0 r1 r2 HB3 ho3 CW hob ⊢
      rw [hb3] at r0 r1 r2 HB3 hzw ⊢
      clear hW3 hb3
      have hne : b3 ≠ z := by omega
      refine wp_region_pendN W3 (Only.refl _ _) [(31, SlW W3.heap.size 3 [.int .i64 x.id, .int .i64 x.seq] 2), (35, SlW W3.heap.size 9 [.string x.reply] 1)] [] 11 (by intro p hp; simp at hp; rcases hp with rfl | rfl <;> exact SlW.lasts _ _ _ _) (by kernel_rfl) (by kernel_rfl) (by decide) (fun val => ?_)
      simp only [List.take_succ_cons, List.take_zero, List.drop_succ_cons, List.drop_zero]
      refine fit_segN 4 (by kernel_rfl) ?_
      simp only [List.take_succ_cons, List.take_zero, List.drop_succ_cons, List.drop_zero]
      have t0 : ∀ u : Since W3, u.w.cell? ⟨b3, 0, none⟩ = some (.int .i64 x.id) := fun u => u.cell r0
      have t1 : ∀ u : Since W3, u.w.cell? ⟨b3, 1, none⟩ = some (.int .i64 x.seq) := fun u => u.cell r1
      have t2 : ∀ u : Since W3, u.w.cell? ⟨b3, 2, none⟩ = some (.string x.reply) := fun u => u.cell r2
      repeat (go_big_quiet_step (fail))
      refine wpQuiet_nil ?_
      refine fit_lit 31 3 [.int .i64 x.id, .int .i64 x.seq] 2 rfl rfl (by simp) (by simp) (fun w5 => by go_simp) rfl ?_
      simp only [Act.put, List.setIfInBounds_toArray, List.set_cons_zero, List.set_cons_succ]
      refine fit_call1 (.string ⟨I.toArray⟩) 26 31 3 [.int .i64 x.id, .int .i64 x.seq] 2 (by simp) (by decide) rfl (by simp) (fun w5 => by go_simp) rfl (by kernel_rfl) (fun w5 b5 _ h5 => CI2.out w5 b5 h5) ?_
      simp only [Act.put, List.setIfInBounds_toArray, List.set_cons_zero, List.set_cons_succ]
      refine fit_segN 2 (by kernel_rfl) ?_
      simp only [List.take_succ_cons, List.take_zero, List.drop_succ_cons, List.drop_zero]
      repeat (go_big_quiet_step (fail))
      refine wpQuiet_nil ?_
      refine fit_lit 35 9 [.string x.reply] 1 rfl rfl (by simp) (by simp) (fun w5 => by go_simp) rfl ?_
      simp only [Act.put, List.setIfInBounds_toArray, List.set_cons_zero, List.set_cons_succ]
      refine fit_call1 (.string ⟨T.toArray⟩) 39 35 9 [.string x.reply] 1 (by simp) (by decide) rfl (by simp) (fun w5 => by go_simp) rfl (by kernel_rfl) (fun w5 b5 _ h5 => CT.out w5 b5 h5) ?_
      simp only [Act.put, List.setIfInBounds_toArray, List.set_cons_zero, List.set_cons_succ]
      refine fit_segN 1 (by kernel_rfl) ?_
      simp only [List.take_succ_cons, List.take_zero, List.drop_succ_cons, List.drop_zero]
      repeat (go_big_quiet_step (fail))
      refine wpQuiet_nil ?_
      intro w5 ho5 _
      clear t0 t1 t2 r0 r1 r2
      go_wp2_with fail
      refine (CW.out _ ho5).mono ?_
      rintro e w6 ⟨rfl, hb6, hbe6, _⟩
      have HB6 : Hid (IsBld 113 z z (ib ever ++ ib l.length ++ sesB (l.take (k + 1))) w6) := by
        show IsBld _ _ _ _ _
        rw [HSL.out, HX.out]; exact .inr hb6
      clear hb6
      go_wp2_with fail
      go_roundw
      case rel => exact ⟨k + 1, by omega, by go_num, HB6, ((ho.tr0 hob).tr0 ho5).past_below HZ.out hbe6⟩
      case measure => simp [intOf]; omega
    · have hd0 : decide ((k : Int) < (l.length : Int)) = false := by simp; omega
      obtain rfl : k = l.length := by omega
      rw [List.take_length] at hb
      have HSt := Lib.hid (builder_string_any _ _ _ _ _ hb.out)
      clear hb
      go_wp2_with fail
      refine HSt.out.mono ?_
      rintro e w3 ⟨rfl, hbe3⟩
      go_wp2_with fail
      go_ret
      exact ⟨by simp [packL], ho.past_below HZ.out hbe3⟩
end Go.Proofs.Ytojhbhdlbbmghaa
