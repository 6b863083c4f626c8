/-
  The walks over session's Table: Done.
-/
import Derived.Test.YtojhbhdlbbmghaaSesR
namespace Go.Proofs.Ytojhbhdlbbmghaa
open Go.RowKit
def doneL (l : List Ses) (id seq : Int) (reply : ByteArray) : List Ses := if (askS l id seq).1 = 0 then l.eraseIdx (fndS l id) ++ [⟨id, seq, reply⟩] else l
theorem sesL_take (l : List Ses) (i : Nat) (h : i ≤ l.length) : (sesL l).take (i * 3) = sesL (l.take i) ∧ (sesL l).drop (i * 3) = sesL (l.drop i) := by
  have hl : (sesL (l.take i)).length = i * 3 := by
    unfold sesL; rw [flat_length Ses.cells 3 (fun _ => rfl), List.length_take, Nat.min_eq_left h]
  have e : sesL l = sesL (l.take i) ++ sesL (l.drop i) := by
    unfold sesL; rw [← List.flatMap_append, List.take_append_drop]
  constructor
  · rw [e, List.take_append_of_le_length (by omega), List.take_of_length_le (by omega)]
  · rw [e, ← hl, List.drop_left]
theorem askS_zero {l : List Ses} {id seq : Int} (h : (askS l id seq).1 = 0) : ∃ x, l[fndS l id]? = some x ∧ fndS l id < l.length ∧ fndI l id = (fndS l id : Nat) ∧ 1 ≤ seq ∧ x.seq < seq := by
  unfold askS atS at h
  cases hx : l[fndS l id]? with
  | none => rw [hx] at h; simp at h
  | some x =>
    rw [hx] at h
    have hlt := (List.getElem?_eq_some_iff.1 hx).1
    refine ⟨x, rfl, hlt, by unfold fndI; rw [if_pos hlt], ?_, ?_⟩
    · simp only at h
      split at h
      · simp at h
      · omega
    · simp only at h
      split at h
      · simp at h
      · split at h
        · simp at h
        · omega

set_option maxRecDepth 100000 in
set_option maxHeartbeats 2000000 in
theorem tbs_done (B b : Nat) (v : Value) (l : List Ses) (ever : Int) (id seq : Int) (reply : ByteArray) (w : World) (h : TbV w B b v l ever) (hl : l.length ≤ 8) :
    Calls Try.prog 48 #[.pointer (some ⟨b, 0, none⟩), .int .i64 id, .int .i64 seq, .string reply] w fun e w' => e = .returned (.bool ((askS l id seq).1 == 0)) ∧ ∃ v', TbV w' B b v' (doneL l id seq reply) ever ∧ Only (b :: rb v) w w' ∧ (∀ g, v'.ownBlock = some g → v.ownBlock = some g ∨ w.heap.size ≤ g) := by
  have HA := Lib.hid (tbs_ask B b l ever id seq w h.s (by omega))
  by_cases h0 : (askS l id seq).1 = 0
  · obtain ⟨x, hx, hlt, hI, _, _⟩ := askS_zero h0
    have hr : ((askS l id seq).1 == 0) = true := by simpa using h0
    have HD : Hid (doneL l id seq reply = l.eraseIdx (fndS l id) ++ [⟨id, seq, reply⟩]) := by show _ = _; unfold doneL; rw [if_pos h0]
    obtain ⟨r1, r2, hask⟩ : ∃ r1 r2, askS l id seq = (r1, r2) := ⟨_, _, rfl⟩
    rw [hr]
    rw [hask] at HA h0
    obtain rfl : r1 = 0 := h0
    have HAV : Hid (askV (0, r2) = .tuple #[.int .i64 0, .string r2]) := rfl
    rw [HAV.out] at HA
    obtain ⟨k, hk⟩ : ∃ k, fndS l id = k := ⟨_, rfl⟩
    rw [hk] at HD hI hlt
    have HT := Lib.hid h.s
    obtain ⟨hB, hc, hown⟩ := h
    obtain ⟨g, cap, cs, rfl, hg, hC, hn, hcm, hcl, htk⟩ := own_block hown (by omega)
    have hne : b ≠ g := hc.ne hC (by decide)
    have CF : Hid (∀ W, TbS W B b l ever → Calls Try.prog 86 #[.pointer (some ⟨b, 0, none⟩), .int .i64 id] W fun e w' => e = .returned (.int .i64 k) ∧ Only [] W w') := by
      intro W hW
      rw [← hI]; exact tbs_find B b l ever id W hW (by omega)
    have CL := Lib.hid (fun W hW => last_ses g cap l.length k cs id seq reply W hW hcl hn hcm hlt (by rw [htk]; exact sesL_one l))
    have HC := Lib.hid hc
    have HG := Lib.hid hC
    clear hc hC hown hr hask hI hk hx
    go_enter Try.func48, Try.ntmps48
    go_wp2_with fail
    refine HA.out.mono ?_
    rintro e wa ⟨rfl, hoa⟩
    go_wp2_with fail
    have r0 := (HC.out.only hoa (by simp)).cell (k := 0) rfl
    have rl := (HC.out.only hoa (by simp)).lt
    have HC2 := Lib.hid (HC.out.only hoa (by simp))
    have HG2 := Lib.hid (HG.out.only hoa (by simp))
    have HT2 := Lib.hid (HT.out.only hoa)
    have hgl2 := HG2.out.lt
    go_region_with (first
      | (go_at_call 86; refine (CF.out _ (by first | exact HT2.out)).mono ?_; rintro e wf ⟨rfl, hof⟩; have s0 := (hof.cell (p := ⟨b, 0, none⟩) rl (by simp)).trans r0)
      | (go_at_call 87; refine (CL.out _ (by first | exact HG2.out.drew.only hof (by simp) | exact HG2.out.only hof (by simp))).mono ?_; rintro e w1 ⟨rfl, cs', hC', hl', ht', hod⟩; have hb3 : Cells w1 b 125 _ := (Cells.only (S := []) HC2.out.drew hof (by simp)).only hod (by simp; omega); have u0 := hb3.cell (k := 0) rfl; have u1 := hb3.frozen 0))
    all_goals
      have hfin : TbV (w1.setCell ⟨b, 0, none⟩ (.slice (some ⟨g, 0, none⟩) l.length cap)) B b (.slice (some ⟨g, 0, none⟩) l.length cap) (doneL l id seq reply) ever := by
        refine ⟨hB, hb3.set 0 _, ?_⟩
        rw [HD.out]
        have hrl : (l.eraseIdx k ++ [(⟨id, seq, reply⟩ : Ses)]).length = l.length := by rw [List.length_append, List.length_eraseIdx_of_lt hlt]; simp; omega
        rw [hrl]
        refine block_own hg (hC'.far (p := ⟨b, 0, none⟩) (Ne.symm hne) _) hn hcm hl' ?_
        have hs1 := (sesL_take l k (by omega)).1
        have hs2 := (sesL_take l (k + 1) (by omega)).2
        have hcs : cs.take (k * 3) = (sesL l).take (k * 3) := by rw [← htk, List.take_take, Nat.min_eq_left (by omega)]
        rw [ht', htk, hcs, hs1, hs2, List.eraseIdx_eq_take_drop_succ]
        unfold sesL
        rw [List.flatMap_append, List.flatMap_append]
        rfl
      have hoF : Only (b :: rb (.slice (some ⟨g, 0, none⟩) l.length cap)) w (w1.setCell ⟨b, 0, none⟩ (.slice (some ⟨g, 0, none⟩) l.length cap)) :=
        (((hoa.drew.tr0 hof).of0.trans hod (by intro y hy; simp at hy; subst hy; exact .inl (by simp [rb, Value.ownBlock])))).setCell (p := ⟨b, 0, none⟩) (.inl (by simp)) _
      have HFI := Lib.hid hfin
      clear hfin
      go_wp2_with fail
      go_ret
      exact ⟨rfl, _, HFI.out, hoF, fun g' h => .inl h⟩
  · have hr : ((askS l id seq).1 == 0) = false := by simpa using h0
    have HD : Hid (doneL l id seq reply = l) := by show _ = _; unfold doneL; rw [if_neg h0]
    obtain ⟨r1, r2, hask⟩ : ∃ r1 r2, askS l id seq = (r1, r2) := ⟨_, _, rfl⟩
    rw [hr]
    rw [hask] at HA h0
    have hr1 : (r1 == 0) = false := by simpa using h0
    have HAV : Hid (askV (r1, r2) = .tuple #[.int .i64 r1, .string r2]) := rfl
    rw [HAV.out] at HA
    have HV := Lib.hid h
    clear h hr hask
    go_enter Try.func48, Try.ntmps48
    go_wp2_with fail
    refine HA.out.mono ?_
    rintro e wa ⟨rfl, hoa⟩
    go_wp2_with fail
    go_ret
    obtain ⟨h1, h2, h3⟩ := HV.out
    refine ⟨rfl, v, ⟨h1, h2.only hoa (by simp), ?_⟩, hoa.of0, fun g' h => .inl h⟩
    rw [HD.out]
    exact own_only h3 hoa (by simp)
end Go.Proofs.Ytojhbhdlbbmghaa
