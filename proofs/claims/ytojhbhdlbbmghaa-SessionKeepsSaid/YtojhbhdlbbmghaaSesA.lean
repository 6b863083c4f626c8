/-
  The walks over session's Table: Ask.
-/
import Derived.Test.YtojhbhdlbbmghaaSesT
namespace Go.Proofs.Ytojhbhdlbbmghaa
open Go.RowKit
def atS (l : List Ses) (id : Int) : Option Ses := l[fndS l id]?
def askS (l : List Ses) (id seq : Int) : Int × ByteArray :=
  match atS l id with
  | none => (3, .empty)
  | some x => if seq < 1 ∨ seq < x.seq then (2, .empty) else if seq = x.seq then (1, x.reply) else (0, .empty)
def askV (r : Int × ByteArray) : Value := .tuple #[.int .i64 r.1, .string r.2]

set_option maxRecDepth 100000 in
set_option maxHeartbeats 1000000 in
theorem tbs_ask (B b : Nat) (l : List Ses) (ever : Int) (id seq : Int) (w : World) (h : TbS w B b l ever) (hl : l.length ≤ 1000000) :
    Calls Try.prog 47 #[.pointer (some ⟨b, 0, none⟩), .int .i64 id, .int .i64 seq] w fun e w' => e = .returned (askV (askS l id seq)) ∧ Only [] w w' := by
  have HF := Lib.hid (tbs_find B b l ever id w h hl)
  have HT := Lib.hid h
  clear h
  cases hx : atS l id with
  | none =>
    have hI : fndI l id = -1 := by
      unfold fndI
      rw [if_neg]
      intro h
      unfold atS at hx
      rw [List.getElem?_eq_getElem h] at hx
      cases hx
    have HR : Hid (askS l id seq = (3, .empty)) := by show _ = _; unfold askS; rw [hx]
    rw [hI] at HF
    clear hx hI
    go_enter Try.func47, Try.ntmps47
    go_wp2_with fail
    refine HF.out.mono ?_
    rintro e w1 ⟨rfl, ho1⟩
    go_wp2_with fail
    go_ret2
    exact ⟨by rw [HR.out]; rfl, ho1⟩
  | some x =>
    obtain ⟨hlt, hxe⟩ := List.getElem?_eq_some_iff.1 hx
    have hI : fndI l id = (fndS l id : Nat) := by unfold fndI; rw [if_pos hlt]
    have HR0 : Hid (askS l id seq = if seq < 1 ∨ seq < x.seq then (2, .empty) else if seq = x.seq then (1, x.reply) else (0, .empty)) := by show _ = _; unfold askS; rw [hx]
    rw [hI] at HF
    obtain ⟨k, hk⟩ : ∃ k, fndS l id = k := ⟨_, rfl⟩
    rw [hk] at HF hlt
    have hxk : l[k]? = some x := by rw [← hk]; exact hx
    clear hx hI hxe hk
    -- the cells of the table and of the session, whatever has been made since
    have hcells : ∀ w1, Only [] w w1 → ∃ g cap, w1.cell? ⟨b, 0, none⟩ = some (.slice (some ⟨g, 0, none⟩) l.length cap) ∧ w1.cell? ⟨g, k * 3 + 1, none⟩ = some (.int .i64 x.seq) ∧ w1.cell? ⟨g, k * 3 + 2, none⟩ = some (.string x.reply) := by
      intro w1 ho1
      obtain ⟨_, v, hc, hown⟩ := HT.out.only ho1
      obtain ⟨g, cap, cs, rfl, _, hC, _, _, _, htk⟩ := own_block hown (by omega)
      have hget : ∀ j, j < 3 → cs[k * 3 + j]? = x.cells[j]? := by
        intro j hj
        rw [← sesL_get l k j x hxk hj, ← htk, List.getElem?_take_of_lt (by omega)]
      exact ⟨g, cap, hc.cell (k := 0) rfl, hC.cell (hget 1 (by omega)), hC.cell (hget 2 (by omega))⟩
    have HC := Lib.hid hcells
    have hk0 : decide ((k : Int) < 0) = false := by simp
    clear hcells
    obtain ⟨c1, c2, c3, h1, h2, h3, hcase⟩ : ∃ c1 c2 c3 : Bool, decide (seq < 1) = c1 ∧ decide (seq < x.seq) = c2 ∧ (seq == x.seq) = c3 ∧ ((c1 = true ∧ askS l id seq = (2, .empty)) ∨ (c1 = false ∧ c2 = true ∧ askS l id seq = (2, .empty)) ∨ (c1 = false ∧ c2 = false ∧ c3 = true ∧ askS l id seq = (1, x.reply)) ∨ (c1 = false ∧ c2 = false ∧ c3 = false ∧ askS l id seq = (0, .empty))) := by
      refine ⟨_, _, _, rfl, rfl, rfl, ?_⟩
      rw [HR0.out]
      by_cases a1 : seq < 1
      · exact .inl ⟨by simpa using a1, if_pos (.inl a1)⟩
      · by_cases a2 : seq < x.seq
        · exact .inr (.inl ⟨by simpa using a1, by simpa using a2, if_pos (.inr a2)⟩)
        · rw [if_neg (by omega)]
          by_cases a3 : seq = x.seq
          · exact .inr (.inr (.inl ⟨by simpa using a1, by simpa using a2, by simpa using a3, if_pos a3⟩))
          · exact .inr (.inr (.inr ⟨by simpa using a1, by simpa using a2, by simpa using a3, if_neg a3⟩))
    rcases hcase with ⟨rfl, hr⟩ | ⟨rfl, rfl, hr⟩ | ⟨rfl, rfl, rfl, hr⟩ | ⟨rfl, rfl, rfl, hr⟩
    all_goals
      have HR := Lib.hid hr
      clear hr
      go_enter Try.func47, Try.ntmps47
      go_wp2_with fail
      refine HF.out.mono ?_
      rintro e w1 ⟨rfl, ho1⟩
      obtain ⟨g, cap, q0, q1, q2⟩ := HC.out w1 ho1
      go_wp2_with fail
      first
        | (go_ret2; exact ⟨by rw [HR.out]; rfl, ho1⟩)
        | (go_quiet (fail); go_wp2_with fail; go_ret2; exact ⟨by rw [HR.out]; rfl, ho1.drewN _⟩)
end Go.Proofs.Ytojhbhdlbbmghaa
