/-
  The walks over session's Table: Register.
-/
import Derived.Test.YtojhbhdlbbmghaaSesA
import Derived.Deep.AppendLies
namespace Go.Proofs.Ytojhbhdlbbmghaa
open Go.RowKit
/-- A table whose row is the value v. -/
def TbV (w : World) (B b : Nat) (v : Value) (l : List Ses) (ever : Int) : Prop :=
  B ≤ b ∧ Cells w b 125 [v, .int .i64 ever] ∧ w.ownsRow B 128 3 v l.length (sesL l)
theorem TbS.v {w : World} {B b : Nat} {l : List Ses} {ever : Int} (h : TbS w B b l ever) : ∃ v, TbV w B b v l ever := by
  obtain ⟨h1, v, h2, h3⟩ := h
  exact ⟨v, h1, h2, h3⟩
theorem TbV.s {w : World} {B b : Nat} {v : Value} {l : List Ses} {ever : Int} (h : TbV w B b v l ever) : TbS w B b l ever := ⟨h.1, v, h.2⟩
def rb (v : Value) : List Nat := v.ownBlock.toList
theorem sesL_one (l : List Ses) : ∀ u ∈ sesL l, u.oneCell' = true := by
  intro u hu
  obtain ⟨x, _, hx⟩ := List.mem_flatMap.1 hu
  unfold Ses.cells at hx
  simp at hx
  rcases hx with rfl | rfl | rfl <;> rfl
def regL (l : List Ses) (x : Ses) : List Ses := if l.length = 8 then l.drop 1 ++ [x] else l ++ [x]
set_option maxRecDepth 100000 in
set_option maxHeartbeats 2000000 in
theorem tbs_register (B b : Nat) (v : Value) (l : List Ses) (ever : Int) (w : World) (h : TbV w B b v l ever) (hl : l.length ≤ 8) (he : 0 ≤ ever ∧ ever ≤ 1000000000000) :
    Calls Try.prog 49 #[.pointer (some ⟨b, 0, none⟩)] w fun e w' => e = .returned (.int .i64 (ever + 1)) ∧ ∃ v', TbV w' B b v' (regL l ⟨ever + 1, 0, .empty⟩) (ever + 1) ∧ Only (b :: rb v) w w' ∧ (∀ g, v'.ownBlock = some g → v.ownBlock = some g ∨ w.heap.size ≤ g) := by
  obtain ⟨hB, hc, hown⟩ := h
  have c0 := hc.cell (k := 0) rfl
  have c1 := hc.cell (k := 1) rfl
  have f0 := hc.frozen 0
  have f1 := hc.frozen 1
  have hlt := hc.lt
  by_cases h8 : l.length = 8
  · obtain ⟨g, cap, cs, rfl, hg, hC, hn, hcm, hcl, htk⟩ := own_block hown (by omega)
    rw [h8] at htk hn c0 hc
    have hne : b ≠ g := hc.ne hC (by decide)
    have hgl := hC.lt
    have HC := Lib.hid hc
    have HG := Lib.hid hC
    clear hc hC hown
    rw [h8]
    go_enter Try.func49, Try.ntmps49
    go_wp2_with fail
    have HG1 := Lib.hid ((HG.out.far (p := ⟨b, 1, none⟩) (Ne.symm hne) (.int .i64 (ever + 1))).alloc (.cells #[.int .i64 (ever + 1), .int .i64 0, .string ⟨#[]⟩] 128))
    have hb2 := (HC.out.set 1 (.int .i64 (ever + 1))).alloc (.cells #[.int .i64 (ever + 1), .int .i64 0, .string ⟨#[]⟩] 128)
    have hx2 := Cells.new (w.setCell ⟨b, 1, none⟩ (.int .i64 (ever + 1))) 128 [.int .i64 (ever + 1), .int .i64 0, .string ⟨#[]⟩]
    have ho0 : Only (b :: rb (.slice (some ⟨g, 0, none⟩) 8 cap)) w ((w.setCell ⟨b, 1, none⟩ (.int .i64 (ever + 1))).alloc (.cells #[.int .i64 (ever + 1), .int .i64 0, .string ⟨#[]⟩] 128)) := ((Only.refl _ _).setCell (p := ⟨b, 1, none⟩) (.inl (by simp)) _).alloc _
    rw [show (w.setCell ⟨b, 1, none⟩ (.int .i64 (ever + 1))).heap.size = w.heap.size from by simp [World.setCell]] at hx2
    obtain ⟨xb, hxb⟩ : ∃ xb, w.heap.size = xb := ⟨_, rfl⟩
    rw [hxb] at hx2 hlt hgl ⊢
    obtain ⟨W0, hW0⟩ : ∃ W0, (w.setCell ⟨b, 1, none⟩ (.int .i64 (ever + 1))).alloc (.cells #[.int .i64 (ever + 1), .int .i64 0, .string ⟨#[]⟩] 128) = W0 := ⟨_, rfl⟩
    rw [hW0] at HG1 hb2 ho0 ⊢
    have hx2 : Cells W0 xb 128 [.int .i64 (ever + 1), .int .i64 0, .string ⟨#[]⟩] := by rw [← hW0]; exact hx2
    clear hW0 hxb HG HC f0 f1 c1
    have hxg : xb ≠ g := by omega
    have hbx : b ≠ xb := by omega
    have r0 := hb2.cell (k := 0) rfl
    have rf := hb2.frozen 0
    have rl := hb2.lt
    have x0 := hx2.cell (k := 0) rfl
    have x1 := hx2.cell (k := 1) rfl
    have x2 := hx2.cell (k := 2) rfl
    have HB2 := Lib.hid hb2
    have CL := Lib.hid (fun W hW => last_ses g cap 8 0 cs (ever + 1) 0 ⟨#[]⟩ W hW hcl hn hcm (by omega) (by rw [htk]; exact sesL_one l))
    clear hb2 hx2
    go_region_with (go_at_call 87; refine (CL.out _ (by first | exact HG1.out | exact HG1.out.drew)).mono ?_; rintro e w1 ⟨rfl, cs', hC', hl', ht', hod⟩; have s0 := (hod.cell (p := ⟨b, 0, none⟩) rl (by simp; omega)).trans r0; have s1 := (hod.frozen (p := ⟨b, 0, none⟩) rl (by simp; omega)).trans rf)
    all_goals
      have hfin : TbV (w1.setCell ⟨b, 0, none⟩ (.slice (some ⟨g, 0, none⟩) 8 cap)) B b (.slice (some ⟨g, 0, none⟩) 8 cap) (regL l ⟨ever + 1, 0, .empty⟩) (ever + 1) := by
        refine ⟨hB, ((HB2.out.drew.only hod (by simp; omega)).set 0 _), ?_⟩
        have hrl : (regL l ⟨ever + 1, 0, .empty⟩).length = 8 := by unfold regL; rw [if_pos h8]; simp; omega
        rw [hrl]
        refine block_own hg (hC'.far (p := ⟨b, 0, none⟩) (Ne.symm hne) _) hn hcm hl' ?_
        rw [ht', htk]
        unfold regL
        rw [if_pos h8]
        unfold sesL
        rw [List.flatMap_append]
        congr 1
        match l, h8 with
        | x :: l', _ => simp [Ses.cells]
      have hoF : Only (b :: rb (.slice (some ⟨g, 0, none⟩) 8 cap)) w (w1.setCell ⟨b, 0, none⟩ (.slice (some ⟨g, 0, none⟩) 8 cap)) :=
        ((ho0.drew.trans hod (by intro y hy; simp at hy; subst hy; exact .inl (by simp [rb, Value.ownBlock])))).setCell (p := ⟨b, 0, none⟩) (.inl (by simp)) _
      have t1 := hfin.2.1.cell (k := 1) rfl
      have HFI := Lib.hid hfin
      clear hfin
      go_wp2_with fail
      go_ret
      exact ⟨rfl, _, HFI.out, hoF, fun g' h => .inl h⟩
  · have h8' : ((l.length : Int) == 8) = false := by simp; omega
    obtain ⟨i0, hi0, hz0, hz1, hz2⟩ := info_parts info_ses
    have hvb : v.ownBlock ≠ some b := own_ne_block hown hc (by decide)
    obtain ⟨A, vc, hv⟩ : ∃ A c, v = .slice A l.length c := by
      rcases hown.2 with ⟨hv, h0⟩ | ⟨g, cap, cur, hv, _⟩
      · exact ⟨none, 0, by rw [hv, h0]⟩
      · exact ⟨_, cap, hv⟩
    have hgl : ∀ g, v.ownBlock = some g → B ≤ g ∧ g < w.heap.size := fun g e => hown.lt g e
    have hown0 : (w.setCell ⟨b, 1, none⟩ (.int .i64 (ever + 1))).ownsRow B 128 3 v l.length (sesL l) := ownsRow_setCell_other hown (a := ⟨b, 1, none⟩) hvb _
    have HO := Lib.hid (hown0.alloc (.cells #[.int .i64 (ever + 1), .int .i64 0, .string ⟨#[]⟩] 128))
    have hb2 := (hc.set 1 (.int .i64 (ever + 1))).alloc (.cells #[.int .i64 (ever + 1), .int .i64 0, .string ⟨#[]⟩] 128)
    have hx2 := Cells.new (w.setCell ⟨b, 1, none⟩ (.int .i64 (ever + 1))) 128 [.int .i64 (ever + 1), .int .i64 0, .string ⟨#[]⟩]
    have ho0 : Only (b :: rb v) w ((w.setCell ⟨b, 1, none⟩ (.int .i64 (ever + 1))).alloc (.cells #[.int .i64 (ever + 1), .int .i64 0, .string ⟨#[]⟩] 128)) := ((Only.refl _ _).setCell (p := ⟨b, 1, none⟩) (.inl (by simp)) _).alloc _
    have hszW : ((w.setCell ⟨b, 1, none⟩ (.int .i64 (ever + 1))).alloc (.cells #[.int .i64 (ever + 1), .int .i64 0, .string ⟨#[]⟩] 128)).heap.size = w.heap.size + 1 := by simp [World.setCell]
    rw [show (w.setCell ⟨b, 1, none⟩ (.int .i64 (ever + 1))).heap.size = w.heap.size from by simp [World.setCell]] at hx2
    have HB0 := Lib.hid hc
    subst hv
    clear hown hown0 hc
    go_enter Try.func49, Try.ntmps49
    go_wp2_with fail
    obtain ⟨xb, hxb⟩ : ∃ xb, w.heap.size = xb := ⟨_, rfl⟩
    rw [hxb] at hx2 hlt hgl hszW ⊢
    obtain ⟨W0, hW0⟩ : ∃ W0, (w.setCell ⟨b, 1, none⟩ (.int .i64 (ever + 1))).alloc (.cells #[.int .i64 (ever + 1), .int .i64 0, .string ⟨#[]⟩] 128) = W0 := ⟨_, rfl⟩
    rw [hW0] at HO hb2 ho0 hszW ⊢
    have hx2 : Cells W0 xb 128 [.int .i64 (ever + 1), .int .i64 0, .string ⟨#[]⟩] := by rw [← hW0]; exact hx2
    have HXB := Lib.hid hxb
    clear hW0 hxb f0 f1 c1 HB0
    have hbx : b ≠ xb := by omega
    have r0 := hb2.cell (k := 0) rfl
    have rf := hb2.frozen 0
    have rl := hb2.lt
    have x0 := hx2.cell (k := 0) rfl
    have x1 := hx2.cell (k := 1) rfl
    have x2 := hx2.cell (k := 2) rfl
    have HB2 := Lib.hid hb2
    clear hb2 hx2
    have HL : Hid (Cells (W0.alloc (.cells #[.int .i64 (ever + 1), .int .i64 0, .string ⟨#[]⟩] 128)) (xb + 1) 128 [.int .i64 (ever + 1), .int .i64 0, .string ⟨#[]⟩]) := by
      show Cells _ _ _ _
      rw [← hszW]; exact Cells.new W0 _ _
    go_region_law (first
      | (go_loud (refine step_append_lies _ (by rfl) _ _ 123 (by rfl) B 128 i0 _ 3 32 Try.underlying123 hi0 hz0 hz1 hz2 rfl (by omega) (.slice A l.length vc) l.length (sesL l) (by rfl) (by first | exact HO.out.alloc _ | exact (HO.out.alloc _).drew | exact HO.out.drew.alloc _) ⟨xb + 1, 0, none⟩ 1 1 [.int .i64 (ever + 1), .int .i64 0, .string ⟨#[]⟩] (by rfl) (by rfl) (by first | exact lit3 HL.out | exact lit3 HL.out.drew) (by simp [Value.oneCell']) (by omega) (by unfold maxLen; omega) (by omega) (by simp; omega) (xb + 2) (by simp [hszW]) ?_); intro g cap w1 hown1 hgrow hat hgl1; have hb3 : Cells w1 b 125 _ := Cells.grown (by first | exact HB2.out.alloc _ | exact (HB2.out.alloc _).drew | exact HB2.out.drew.alloc _) hgrow hvb; have s0 := hb3.cell (k := 0) rfl; have s1 := hb3.frozen 0))
    all_goals
      have hgb : (Value.slice (some ⟨g, 0, none⟩) (l.length + 1) cap).ownBlock ≠ some b := by
        intro e
        simp [Value.ownBlock] at e
        rcases hat with h | h
        · exact hvb (by rw [h, e])
        · omega
      have hrl : (regL l ⟨ever + 1, 0, .empty⟩) = l ++ [⟨ever + 1, 0, .empty⟩] := by unfold regL; rw [if_neg h8]
      have hfin : TbV (w1.setCell ⟨b, 0, none⟩ (.slice (some ⟨g, 0, none⟩) (l.length + 1) cap)) B b (.slice (some ⟨g, 0, none⟩) (l.length + 1) cap) (regL l ⟨ever + 1, 0, .empty⟩) (ever + 1) := by
        refine ⟨hB, hb3.set 0 _, ?_⟩
        rw [hrl, List.length_append]
        unfold sesL
        rw [List.flatMap_append]
        exact ownsRow_setCell_other hown1 (a := ⟨b, 0, none⟩) hgb _
      have hoF : Only (b :: rb (.slice A l.length vc)) w (w1.setCell ⟨b, 0, none⟩ (.slice (some ⟨g, 0, none⟩) (l.length + 1) cap)) :=
        ((ho0.alloc _).drew.grown hgrow (fun y hy => .inl (by unfold rb; rw [hy]; simp))).setCell (p := ⟨b, 0, none⟩) (.inl (by simp)) _
      have t1 := hfin.2.1.cell (k := 1) rfl
      have HFI := Lib.hid hfin
      clear hfin hrl
      go_wp2_with fail
      go_ret
      refine ⟨rfl, _, HFI.out, hoF, fun g' h => ?_⟩
      simp [Value.ownBlock] at h
      subst h
      rcases hat with h | h
      · exact .inl h
      · right; rw [HXB.out]; omega
end Go.Proofs.Ytojhbhdlbbmghaa
