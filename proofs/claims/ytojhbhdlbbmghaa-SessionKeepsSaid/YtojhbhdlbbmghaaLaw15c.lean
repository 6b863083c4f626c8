/-
  Chapter 15: the sessions' numbers; the examples.
-/
import Derived.Test.YtojhbhdlbbmghaaLaw15b
namespace Go.Proofs.Ytojhbhdlbbmghaa
open Go.RowKit
theorem info_int : (Try.prog.info? 3).map (fun i => (i.zero, i.size, i.bytes)) = some (some (.int .i64 0), 1, 8) := by kernel_rfl
def idv (l : List Ses) : List Value := l.map fun s => Value.int .i64 s.id
set_option maxRecDepth 100000 in
set_option maxHeartbeats 1000000 in
theorem tbs_ids (B b : Nat) (l : List Ses) (ever : Int) (w : World) (h : TbS w B b l ever) (hl : l.length ≤ 1000) :
    Calls Try.prog 51 #[.pointer (some ⟨b, 0, none⟩)] w fun e w' => ∃ v, e = .returned v ∧ w'.ownsRow w.heap.size 3 1 v l.length (idv l) ∧ Only [] w w' := by
  obtain ⟨i0, hi0, hz0, hz1, hz2⟩ := info_parts info_int
  obtain ⟨hB, v, hc, hown⟩ := h
  have hs := SlAt.of_own hown
  obtain ⟨A, c, rfl⟩ := hs.shape
  have c0 := hc.cell (k := 0) rfl
  have HS := Lib.hid hs
  clear hs hown hc
  go_enter Try.func51, Try.ntmps51
  go_wp2_with fail
  go_loopw [3, 11] (fun r i wr => ∃ (k : Nat) (rv : Value), k ≤ l.length ∧ i = .int .i64 k ∧ rv = r ∧ Hid (wr.ownsRow w.heap.size 3 1 rv k (idv (l.take k))) ∧ Only [] w wr) (fun _ i _ => l.length - (intOf i).toNat)
  case atStart => exact ⟨0, _, by omega, rfl, rfl, World.ownsRow_nil _ _ _ _, Only.refl _ _⟩
  case round =>
    obtain ⟨k, rv, hk, rfl, hrv, hr, ho⟩ := hrel
    subst hrv
    by_cases hlt : k < l.length
    · have hlt' : (k : Int) < (l.length : Int) := by omega
      have hk1 := List.getElem?_eq_getElem hlt
      obtain ⟨x, hx⟩ : ∃ x, l[k] = x := ⟨_, rfl⟩
      rw [hx] at hk1
      obtain ⟨ab, ao, ac, hv, hab, hc⟩ := (HS.out.only ho (Nat.le_refl _) (by simp)).at_ (by omega)
      have q0 : wr.cell? ⟨ab, ao + k * 3, none⟩ = some (.int .i64 x.id) := hc (k * 3 + 0) _ (sesL_get l k 0 x hk1 (by omega))
      have q1 : wr.cell? ⟨ab, ao + k * 3 + 1, none⟩ = some (.int .i64 x.seq) := hc (k * 3 + 1) _ (sesL_get l k 1 x hk1 (by omega))
      have q2 : wr.cell? ⟨ab, ao + k * 3 + 2, none⟩ = some (.string x.reply) := hc (k * 3 + 2) _ (sesL_get l k 2 x hk1 (by omega))
      have hsz := ho.size
      have HE : Hid (idv (l.take (k + 1)) = idv (l.take k) ++ [.int .i64 x.id]) := by
        show _ = _
        unfold idv
        rw [List.take_add_one, hk1, List.map_append]; rfl
      have HO := Lib.hid (hr.out.alloc (.cells #[.int .i64 x.id, .int .i64 x.seq, .string x.reply] 128))
      have hoA : Only [] w (wr.alloc (.cells #[.int .i64 x.id, .int .i64 x.seq, .string x.reply] 128)) := ho.alloc _
      injection hv with e1 e2 e3
      subst e1; subst e3
      clear e2 hc hx hk1
      have HL : Hid (Cells ((wr.alloc (.cells #[.int .i64 x.id, .int .i64 x.seq, .string x.reply] 128)).alloc (.cells #[.int .i64 x.id] 3)) (wr.heap.size + 1) 3 [.int .i64 x.id]) := by
        have := Cells.new (wr.alloc (.cells #[.int .i64 x.id, .int .i64 x.seq, .string x.reply] 128)) 3 [.int .i64 x.id]
        rw [show (wr.alloc (.cells #[.int .i64 x.id, .int .i64 x.seq, .string x.reply] 128)).heap.size = wr.heap.size + 1 from by simp] at this
        exact this
      have hoB : Only [] w ((wr.alloc (.cells #[.int .i64 x.id, .int .i64 x.seq, .string x.reply] 128)).alloc (.cells #[.int .i64 x.id] 3)) := hoA.alloc _
      go_wp2_with (at_builtin; go_loud (refine wpList_append_own _ rfl _ _ 40 rfl w.heap.size 3 i0 (.int .i64 0) 1 8 Try.underlying40 hi0 hz0 hz1 hz2 rfl (by decide) rv k (idv (l.take k)) rfl (HO.out.alloc _) ⟨wr.heap.size + 1, 0, none⟩ 1 1 [.int .i64 x.id] rfl rfl (lit3 HL.out) (by simp [Value.oneCell']) (by unfold maxLen; omega) (by omega) (by simp; omega) ?_))
      intro v' w2 hown' hgrow _
      rw [← HE.out] at hown'
      have ho2 : Only [] w w2 := hoB.grown hgrow (fun g e => .inr (HO.out.lt g e).1)
      have HO2 := Lib.hid hown'
      clear hown' hgrow
      go_wp2_with fail
      go_roundw
      case rel => exact ⟨k + 1, _, by omega, by go_num, rfl, HO2, ho2⟩
      case measure => simp [intOf]; omega
    · have hd0 : decide ((k : Int) < (l.length : Int)) = false := by simp; omega
      obtain rfl : k = l.length := by omega
      rw [List.take_length] at hr
      go_wp2_with fail
      go_ret
      exact ⟨_, rfl, hr.out, ho⟩
end Go.Proofs.Ytojhbhdlbbmghaa
