/-
  Chapter 15: the reference's table: Done, Pack.
-/
import Derived.Test.YtojhbhdlbbmghaaRef15b
import Derived.Test.YtojhbhdlbbmghaaRef1
namespace Go.Proofs.Ytojhbhdlbbmghaa
open Go.RowKit
theorem RtV.only {w w' : World} {B b : Nat} {v : Value} {l : List Ses} {ever : Int} (h : RtV w B b v l ever) (ho : Only [] w w') : RtV w' B b v l ever :=
  ⟨h.1, h.2.1.only ho (by simp), own_only h.2.2 ho (by simp)⟩
set_option maxRecDepth 100000 in
set_option maxHeartbeats 1000000 in
theorem rt_pack (B b : Nat) (v : Value) (l : List Ses) (ever : Int) (w : World) (h : RtV w B b v l ever) (hl : l.length ≤ 1000) (he : Wide64 ever) (hf : ∀ s ∈ l, s.Fit) :
    Calls Try.prog 89 #[.pointer (some ⟨b, 0, none⟩)] w fun e w' => e = .returned (.string ⟨(packL l ever).toArray⟩) ∧ Only [] w w' := by
  obtain ⟨hB, hc, hown⟩ := h
  have hs := SlAt.of_own hown
  obtain ⟨A, c, rfl⟩ := hs.shape
  have c0 := hc.cell (k := 0) rfl
  have c1 := hc.cell (k := 1) rfl
  have HS := Lib.hid hs
  have HF := Lib.hid hf
  have hln : Wide64 (l.length : Int) := ⟨by omega, by omega⟩
  have l1 := (ib_length _ he).2
  have l2 := (ib_length _ hln).2
  have t0 : ∀ u : Since w, u.w.cell? ⟨b, 0, none⟩ = some (.slice A l.length c) := fun u => u.cell c0
  have t1 : ∀ u : Since w, u.w.cell? ⟨b, 1, none⟩ = some (.int .i64 ever) := fun u => u.cell c1
  clear hs hown hc hf
  go_enter Try.func89, Try.ntmps89
  go_wp2_with fail
  refine wp_region_only w (Only.refl _ _) (by kernel_rfl) (by kernel_rfl) ?_
  repeat (go_big_quiet_step ((go_at_call 27; refine Calls.only (ref_int _ _ (by assumption)))))
  refine wpQuiet_nil ?_
  rintro ⟨w1, ho1⟩
  dsimp only
  go_wp2_with fail
  clear t0 t1
  go_loopw [3, 4] (fun s i wr => ∃ k : Nat, k ≤ l.length ∧ i = .int .i64 k ∧ s = .string ⟨(ib ever ++ ib l.length ++ sesB (l.take k)).toArray⟩ ∧ Only [] w wr) (fun _ i _ => l.length - (intOf i).toNat)
  case atStart => exact ⟨0, by omega, rfl, by simp [sesB, ba_append], ho1⟩
  case round =>
    obtain ⟨k, hk, rfl, rfl, ho⟩ := hrel
    have d0 : ∀ u : Since w, u.w.cell? ⟨b, 0, none⟩ = some (.slice A l.length c) := fun u => u.cell c0
    have e0 : wr.cell? ⟨b, 0, none⟩ = some (.slice A l.length c) := (Since.mk wr ho).cell c0
    by_cases hlt : k < l.length
    · have hlt' : (k : Int) < (l.length : Int) := by omega
      have hk1 := List.getElem?_eq_getElem hlt
      obtain ⟨x, hx⟩ : ∃ x, l[k] = x := ⟨_, rfl⟩
      rw [hx] at hk1
      have hfx := HF.out x (List.mem_of_getElem? hk1)
      obtain ⟨ab, ao, ac, hv, hab, hcc⟩ := HS.out.at_ (by omega)
      injection hv with e1 e2 e3
      subst e1; subst e3
      have q0 : ∀ u : Since wr, u.w.cell? ⟨ab, ao + k * 3, none⟩ = some (.int .i64 x.id) := fun u => (Since.mk u.w (ho.tr0 u.h)).cell (hcc (k * 3 + 0) _ (sesL_get l k 0 x hk1 (by omega)))
      have q1 : ∀ u : Since wr, u.w.cell? ⟨ab, ao + k * 3 + 1, none⟩ = some (.int .i64 x.seq) := fun u => (Since.mk u.w (ho.tr0 u.h)).cell (hcc (k * 3 + 1) _ (sesL_get l k 1 x hk1 (by omega)))
      have q2 : ∀ u : Since wr, u.w.cell? ⟨ab, ao + k * 3 + 2, none⟩ = some (.string x.reply) := fun u => (Since.mk u.w (ho.tr0 u.h)).cell (hcc (k * 3 + 2) _ (sesL_get l k 2 x hk1 (by omega)))
      have q3 : ∀ u : Since wr, u.w.cell? ⟨b, 0, none⟩ = some (.slice (some ⟨ab, ao, none⟩) l.length c) := fun u => (Since.mk u.w (ho.tr0 u.h)).cell c0
      have hxl := Ses.bytes_length hfx
      have hLl := sesB_length (l := l.take k) (fun s hs => HF.out s (List.mem_of_mem_take hs))
      have hLk : (l.take k).length ≤ 1000 := by rw [List.length_take]; omega
      obtain ⟨L, hL⟩ : ∃ L, ib ever ++ ib l.length ++ sesB (l.take k) = L := ⟨_, rfl⟩
      have hLL : L.length ≤ 2000000000 := by rw [← hL, List.length_append, List.length_append]; omega
      obtain ⟨T, hT⟩ : ∃ T, tb x.reply.data.toList = T := ⟨_, rfl⟩
      have hxb : x.bytes = ib x.id ++ ib x.seq ++ T := by rw [← hT]; rfl
      rw [hxb] at hxl
      have hSL : ib ever ++ ib l.length ++ sesB (l.take (k + 1)) = L ++ ib x.id ++ ib x.seq ++ T := by rw [sesB_snoc l k x hk1, ← List.append_assoc, hL, hxb, ← List.append_assoc, ← List.append_assoc]
      have HSL := Lib.hid hSL
      rw [List.length_append, List.length_append] at hxl
      have w1 := hfx.id
      have w2 := hfx.seq
      have CT : Hid (∀ W, Calls Try.prog 40 #[.string x.reply] W fun e w' => e = .returned (.string ⟨T.toArray⟩) ∧ Only [] W w') := fun W => by
        have hr := hfx.reply
        have := ref_text x.reply.data.toList W (by simp; omega)
        rw [ba_list] at this
        rw [← hT]; exact this
      rw [hL]
      clear e2 hcc hx hk1 hfx hL hT hxb hSL hLl hLk
      go_wp2_with fail
      refine wp_region_only wr (Only.refl _ _) (by kernel_rfl) (by kernel_rfl) ?_
      repeat (go_big_quiet_step (first | (go_at_call 27; refine Calls.only (ref_int _ _ (by assumption))) | (go_at_call 40; refine Calls.only (CT.out _))))
      refine wpQuiet_nil ?_
      rintro ⟨w8, ho8⟩
      dsimp only
      clear q0 q1 q2 q3
      go_wp2_with fail
      go_roundw
      case rel => exact ⟨k + 1, by omega, by go_num, by rw [HSL.out]; simp [ba_append], ho.tr0 ho8⟩
      case measure => simp [intOf]; omega
    · have hd0 : decide ((k : Int) < (l.length : Int)) = false := by simp; omega
      obtain rfl : k = l.length := by omega
      go_wp2_with fail
      go_ret
      exact ⟨by simp [packL], ho⟩
set_option maxRecDepth 100000 in
set_option maxHeartbeats 2000000 in
theorem rt_done (B b : Nat) (v : Value) (l : List Ses) (ever : Int) (id seq : Int) (reply : ByteArray) (w : World) (h : RtV w B b v l ever) (hl : l.length ≤ 8) (hp : ∀ s ∈ l, 0 ≤ s.seq) :
    Calls Try.prog 54 #[.pointer (some ⟨b, 0, none⟩), .int .i64 id, .int .i64 seq, .string reply] w fun e w' => e = .returned (.bool ((askS l id seq).1 == 0)) ∧ ∃ v', RtV w' B b v' (doneL l id seq reply) ever ∧ Only [b] w w' := by
  obtain ⟨i0, hi0, hz0, hz1, hz2⟩ := info_parts info_rses
  have HA := Lib.hid (rt_ask B b v l ever id seq w h (by omega) hp)
  have HH := Lib.hid h
  by_cases h0 : (askS l id seq).1 = 0
  · obtain ⟨x0, hx0, hlt, hfi, hsq, _⟩ := askS_zero h0
    have HFD := Lib.hid (fun w' (ho : Only [] w w') => rt_find B b v l ever id w' (h.only ho) (by omega))
    rw [hfi] at HFD
    obtain ⟨r, hr⟩ : ∃ r, askS l id seq = r := ⟨_, rfl⟩
    obtain ⟨r1, r2⟩ := r
    have hr1 : r1 = 0 := by rw [hr] at h0; exact h0
    subst hr1
    have HD : Hid (doneL l id seq reply = l.eraseIdx (fndS l id) ++ [⟨id, seq, reply⟩]) := by show _ = _; unfold doneL; rw [if_pos h0]
    rw [hr, show askV (0, r2) = .tuple #[.int .i64 0, .string r2] from rfl] at HA
    obtain ⟨k, hk⟩ : ∃ k, fndS l id = k := ⟨_, rfl⟩
    rw [hk] at HD HFD hlt
    have HR := Lib.hid hr
    obtain ⟨x, hx⟩ : ∃ x : Ses, x = ⟨id, seq, reply⟩ := ⟨_, rfl⟩
    rw [← hx] at HD
    have hxc : x.cells = [.int .i64 id, .int .i64 seq, .string reply] := by rw [hx]; rfl
    have hx1 : ∀ u ∈ x.cells, u.oneCell' = true := by rw [hxc]; simp [Value.oneCell']
    have HXC := Lib.hid hxc
    clear h hr h0 hx0 hfi hk hx hxc hp
    go_enter Try.func54, Try.ntmps54
    go_wp2_with fail
    refine HA.out.mono ?_
    rintro e w1 ⟨rfl, ho1⟩
    go_wp2_with fail
    refine (HFD.out _ ho1).mono ?_
    rintro e w2 ⟨rfl, rfl⟩
    obtain ⟨hB, hc, hown⟩ := HH.out.only ho1
    obtain ⟨g, cap, cs, rfl, hg, hC, hn, hcm, hcl, htk⟩ := own_block hown (by omega)
    have hcm2 : cap ≤ 9223372036854775807 := by unfold maxLen at hcm; omega
    have hkc : k ≤ cap := by omega
    have hkl : k ≤ l.length := by omega
    have hk1c : k + 1 ≤ cap := by omega
    have hk1l : k + 1 ≤ l.length := by omega
    have htl := sesL_take l k (by omega)
    have htl1 := sesL_take l (k + 1) (by omega)
    have hS1 : SrcA w1 (.slice (some ⟨g, 0, none⟩) k cap) 3 k (sesL (l.take k)) := by
      refine SrcA.piece hC (by rw [sesL_len, List.length_take]; omega) (sesL_one _) fun j u hu => ?_
      rw [← htl.1, ← htk] at hu
      have hj := (List.getElem?_eq_some_iff.1 hu).1
      simp only [List.length_take] at hj
      rw [List.getElem?_take_of_lt (by omega), List.getElem?_take_of_lt (by omega)] at hu
      rw [Nat.zero_add]; exact hu
    obtain ⟨A2, hA2, hS2⟩ : ∃ A2 : Addr, (if cap = k + 1 then some (⟨g, 0, none⟩ : Addr) else some ⟨g, (k + 1) * 3, none⟩) = some A2 ∧ Hid (SrcA w1 (.slice (some A2) (l.length - (k + 1)) (cap - (k + 1))) 3 (l.length - (k + 1)) (sesL (l.drop (k + 1)))) := by
      by_cases h : cap = k + 1
      · refine ⟨⟨g, 0, none⟩, by simp [h], by rw [sesL_len, List.length_drop], sesL_one _, .inr ⟨_, _, rfl, fun j u hu => ?_⟩⟩
        have : l.drop (k + 1) = [] := List.drop_eq_nil_of_le (by omega)
        rw [this] at hu
        simp [sesL] at hu
      · refine ⟨⟨g, (k + 1) * 3, none⟩, by simp [h], SrcA.piece hC (by rw [sesL_len, List.length_drop]) (sesL_one _) fun j u hu => ?_⟩
        rw [← htl1.2, List.getElem?_drop, ← htk] at hu
        have hj := (List.getElem?_eq_some_iff.1 hu).1
        simp only [List.length_take] at hj
        rw [List.getElem?_take_of_lt (by omega)] at hu
        exact hu
    have HS1 := Lib.hid hS1
    have HC1 := Lib.hid hc
    have t0 : ∀ u : Since w1, u.w.cell? ⟨b, 0, none⟩ = some (.slice (some ⟨g, 0, none⟩) l.length cap) := fun u => u.cell (HC1.out.cell rfl)
    have hkw : IntKind.i64.wrap ((k : Int) + 1) = (k : Int) + 1 := by rw [IntKind.wrap_i64]; omega
    have hbg : B ≤ g := hg
    clear hc hown hC htk htl htl1 hS1
    go_wp2_with fail
    refine wp_region_pendN w1 (Only.refl _ _) [(25, OwW w1.heap.size 131 3 0 []), (32, OwW w1.heap.size 131 3 k (sesL (l.take k))), (40, OwW w1.heap.size 131 3 (l.length - 1) (sesL (l.eraseIdx k))), (45, OwW w1.heap.size 131 3 1 x.cells), (46, OwW w1.heap.size 131 3 l.length (sesL (l.eraseIdx k) ++ x.cells))] [(32, 25), (40, 32), (46, 40)] 25 (by intro p hp; simp at hp; rcases hp with rfl | rfl | rfl | rfl | rfl <;> exact OwW.lasts _ _ _ _ _) (by kernel_rfl) (by kernel_rfl) (by decide) (fun val => ?_)
    simp only [List.take_succ_cons, List.take_zero, List.drop_succ_cons, List.drop_zero]
    refine fit_segN 1 (by kernel_rfl) ?_
    simp only [List.take_succ_cons, List.take_zero, List.drop_succ_cons, List.drop_zero]
    repeat (go_big_quiet_step (fail))
    refine wpQuiet_nil ?_
    refine fit_litO 25 131 3 [] 0 rfl rfl (by simp) (by simp) rfl (by decide) (fun w5 => by go_simp) rfl ?_
    simp only [Act.put, List.setIfInBounds_toArray, List.set_cons_zero, List.set_cons_succ]
    refine fit_segN 6 (by kernel_rfl) ?_
    simp only [List.take_succ_cons, List.take_zero, List.drop_succ_cons, List.drop_zero]
    repeat (go_big_quiet_step (fail))
    refine wpQuiet_nil ?_
    refine fit_append 32 25 (.tmp 31) 68 131 i0 (.agg #[.int .i64 0, .int .i64 0, .string .empty]) 3 32 Try.underlying68 hi0 hz0 hz1 hz2 rfl (by decide) 0 k k [] (sesL (l.take k)) (sesL (l.take k)) (by omega) rfl rfl rfl rfl (by simp) (by simp) (by simp) (by decide) rfl rfl (fun w5 hw5 => HS1.out.only hw5.1) (by unfold maxLen; omega) (by omega) rfl ?_
    simp only [Act.put, List.setIfInBounds_toArray, List.set_cons_zero, List.set_cons_succ]
    refine fit_segN 7 (by kernel_rfl) ?_
    simp only [List.take_succ_cons, List.take_zero, List.drop_succ_cons, List.drop_zero]
    repeat (go_big_quiet_step (fail))
    refine wpQuiet_nil ?_
    refine fit_append 40 32 (.tmp 39) 68 131 i0 (.agg #[.int .i64 0, .int .i64 0, .string .empty]) 3 32 Try.underlying68 hi0 hz0 hz1 hz2 rfl (by decide) k (l.length - (k + 1)) (l.length - 1) (sesL (l.take k)) (sesL (l.drop (k + 1))) (sesL (l.eraseIdx k)) (by omega) (by rw [List.eraseIdx_eq_take_drop_succ, sesL_append]) rfl rfl rfl (by simp) (by simp) (by simp) (by decide) rfl rfl (fun w5 hw5 => hS2.out.only hw5.1) (by unfold maxLen; omega) (by omega) rfl ?_
    simp only [Act.put, List.setIfInBounds_toArray, List.set_cons_zero, List.set_cons_succ]
    refine fit_segN 4 (by kernel_rfl) ?_
    simp only [List.take_succ_cons, List.take_zero, List.drop_succ_cons, List.drop_zero]
    repeat (go_big_quiet_step (fail))
    refine wpQuiet_nil ?_
    refine fit_litO 45 131 3 x.cells 1 rfl rfl (by simp) (by simp) rfl (by decide) (fun w5 => by rw [HXC.out]; go_simp) rfl ?_
    simp only [Act.put, List.setIfInBounds_toArray, List.set_cons_zero, List.set_cons_succ]
    refine fit_append 46 40 (.tmp 45) 68 131 i0 (.agg #[.int .i64 0, .int .i64 0, .string .empty]) 3 32 Try.underlying68 hi0 hz0 hz1 hz2 rfl (by decide) (l.length - 1) 1 l.length (sesL (l.eraseIdx k)) x.cells (sesL (l.eraseIdx k) ++ x.cells) (by omega) rfl rfl rfl rfl (by simp) (by simp) (by simp) (by decide) rfl rfl (fun w5 hw5 => SrcA.own (hw5.2 (45, OwW w1.heap.size 131 3 1 x.cells) (by simp) (by show 45 ∈ Oper.looksAt _ _; decide)) hx1) (by unfold maxLen; omega) (by omega) rfl ?_
    simp only [Act.put, List.setIfInBounds_toArray, List.set_cons_zero, List.set_cons_succ]
    refine fit_segN 2 (by kernel_rfl) ?_
    simp only [List.take_succ_cons, List.take_zero, List.drop_succ_cons, List.drop_zero]
    repeat (go_big_quiet_step (fail))
    refine wpQuiet_nil ?_
    intro w5 ho5 hV5
    have hown5 : w5.ownsRow w1.heap.size 131 3 (val 46) l.length (sesL (l.eraseIdx k) ++ x.cells) := hV5 (by decide) (46, OwW w1.heap.size 131 3 l.length (sesL (l.eraseIdx k) ++ x.cells)) (by simp) (by simp)
    obtain ⟨u, hu⟩ : ∃ u, val 46 = u := ⟨_, rfl⟩
    rw [hu] at hown5 ⊢
    obtain ⟨g5, cap5, hu5⟩ : ∃ g cap, u = .slice (some ⟨g, 0, none⟩) l.length cap := by
      obtain ⟨g, cap, _, h, _⟩ := own_block hown5 (by omega)
      exact ⟨g, cap, h⟩
    subst hu5
    have hC5 := HC1.out.only ho5 (by simp)
    have d0 := hC5.cell (k := 0) rfl
    have f0 := hC5.frozen 0
    have hb5 := hC5.lt
    have HC5 := Lib.hid hC5
    have HO5 := Lib.hid hown5
    have hsz := ho1.size
    clear hC5 hown5 hV5 t0 hu hA2 hkw
    go_wp2_with fail
    go_ret
    refine ⟨by rw [HR.out]; rfl, _, ⟨hB, HC5.out.set 0 _, ?_⟩, ((ho1.of0).tr0 ho5).setCell (.inl (by simp)) _⟩
    rw [HD.out, sesL_append, List.length_append, List.length_eraseIdx_of_lt hlt]
    have h1 := ownsRow_setCell_other HO5.out (a := ⟨b, 0, none⟩) (own_ne_block HO5.out HC5.out (by decide)) (.slice (some ⟨g5, 0, none⟩) l.length cap5)
    have h2 : sesL [x] = x.cells := by simp [sesL]
    rw [h2, show l.length - 1 + [x].length = l.length from by simp; omega]
    exact own_base h1 (by have := HC1.out.lt; omega)
  · have HD : Hid (doneL l id seq reply = l) := by show _ = _; unfold doneL; rw [if_neg h0]
    obtain ⟨r, hr⟩ : ∃ r, askS l id seq = r := ⟨_, rfl⟩
    obtain ⟨r1, r2⟩ := r
    have HR := Lib.hid hr
    have d0 : (r1 == 0) = false := by rw [hr] at h0; simpa using h0
    rw [hr, show askV (r1, r2) = .tuple #[.int .i64 r1, .string r2] from rfl] at HA
    clear h hr h0 hp
    go_enter Try.func54, Try.ntmps54
    go_wp2_with fail
    refine HA.out.mono ?_
    rintro e w1 ⟨rfl, ho1⟩
    go_wp2_with fail
    go_ret
    exact ⟨by rw [HR.out]; simp [d0], v, by rw [HD.out]; exact HH.out.only ho1, ho1.of0⟩
end Go.Proofs.Ytojhbhdlbbmghaa
