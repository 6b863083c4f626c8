/-
  The walks over session's Table: find, Ask, Register, Done, IDs.
-/
import Derived.Test.YtojhbhdlbbmghaaSes
import Derived.Test.YtojhbhdlbbmghaaOpen
namespace Go.Proofs.Ytojhbhdlbbmghaa
open Go.RowKit
structure Ses where
  id : Int
  seq : Int
  reply : ByteArray
def Ses.cells (s : Ses) : List Value := [.int .i64 s.id, .int .i64 s.seq, .string s.reply]
def sesL (l : List Ses) : List Value := l.flatMap Ses.cells
theorem sesL_get (l : List Ses) (i j : Nat) (x : Ses) (h : l[i]? = some x) (hj : j < 3) : (sesL l)[i * 3 + j]? = x.cells[j]? := flat_get Ses.cells 3 (fun _ => rfl) l i j x h hj
def fndS (l : List Ses) (id : Int) : Nat := l.findIdx (fun x => x.id == id)
def fndI (l : List Ses) (id : Int) : Int := if fndS l id < l.length then (fndS l id : Int) else -1

set_option maxRecDepth 100000 in
theorem find1 (x : Ses) (p : Nat) (id : Int) (w : World) (hp : w.cell? ⟨p, 0, none⟩ = some (.int .i64 id)) (hpl : p < w.heap.size) :
    Calls Try.prog 108 #[.agg #[.int .i64 x.id, .int .i64 x.seq, .string x.reply], .pointer (some ⟨p, 0, none⟩)] w fun e w' => e = .returned (.bool (x.id == id)) ∧ Only [] w w' := by
  have hne : p ≠ w.heap.size := by omega
  go_enter Try.func108, Try.ntmps108
  go_wp2_with fail
  go_ret
  exact ⟨rfl, (Only.refl _ _).alloc _⟩

set_option maxRecDepth 100000 in
set_option maxHeartbeats 1000000 in
theorem indexFunc_ses (v : Value) (l : List Ses) (p : Nat) (id : Int) (w : World) (hs : SlAt w w.heap.size v 3 l.length (sesL l)) (hp : w.cell? ⟨p, 0, none⟩ = some (.int .i64 id)) (hpl : p < w.heap.size) (hl : l.length ≤ 1000000) :
    Calls Try.prog 107 #[v, .func (.func 108) #[] #[.pointer (some ⟨p, 0, none⟩)]] w fun e w' => e = .returned (.int .i64 (fndI l id)) ∧ Only [] w w' := by
  obtain ⟨A, c, rfl⟩ := hs.shape
  have HS := Lib.hid hs
  have HP := Lib.hid hp
  clear hs hp
  go_enter Try.func107, Try.ntmps107
  go_wp2_with fail
  go_loopw [8] (fun i wr => ∃ k : Nat, k ≤ l.length ∧ i = .int .i64 k ∧ Hid (∀ j x, j < k → l[j]? = some x → (x.id == id) = false) ∧ Only [] w wr) (fun i _ => l.length - (intOf i).toNat)
  case atStart => exact ⟨0, by omega, rfl, fun j x h => by omega, Only.refl _ _⟩
  case round =>
    obtain ⟨k, hk, rfl, hno, ho⟩ := hrel
    by_cases hlt : k < l.length
    · have hlt' : (k : Int) < (l.length : Int) := by omega
      have hk1 := List.getElem?_eq_getElem hlt
      obtain ⟨x, hx⟩ : ∃ x, l[k] = x := ⟨_, rfl⟩
      rw [hx] at hk1
      obtain ⟨ab, ao, ac, hv, hab, hc⟩ := (HS.out.only ho (Nat.le_refl _) (by simp)).at_ (by omega)
      have q0 : wr.cell? ⟨ab, ao + k * 3, none⟩ = some (.int .i64 x.id) := hc (k * 3 + 0) _ (sesL_get l k 0 x hk1 (by omega))
      have q1 : wr.cell? ⟨ab, ao + k * 3 + 1, none⟩ = some (.int .i64 x.seq) := hc (k * 3 + 1) _ (sesL_get l k 1 x hk1 (by omega))
      have q2 : wr.cell? ⟨ab, ao + k * 3 + 2, none⟩ = some (.string x.reply) := hc (k * 3 + 2) _ (sesL_get l k 2 x hk1 (by omega))
      have hsz := ho.size
      have F1 := Lib.hid (find1 x p id wr ((ho.cell (p := ⟨p, 0, none⟩) hpl (by simp)).trans HP.out) (Nat.lt_of_lt_of_le hpl ho.size))
      injection hv with e1 e2 e3
      subst e1; subst e3
      clear e2 hc hx
      by_cases heq : (x.id == id) = true
      · have HF : Hid (fndI l id = k) := by
          show _ = _
          have hS : fndS l id = k := by
           unfold fndS
           have hh := List.getElem?_eq_some_iff.1 hk1
           refine (List.findIdx_eq hlt).2 ⟨by rw [hh.2]; exact heq, fun j hj => ?_⟩
           have := hno.out j _ hj (List.getElem?_eq_getElem (by omega))
           simpa using this
          unfold fndI
          rw [hS, if_pos hlt]
        clear hno hk1
        go_wp2_with (go_at_call 108; refine F1.out.mono ?_; rintro e w1 ⟨rfl, ho1⟩)
        go_ret
        exact ⟨by rw [HF.out]; rfl, ho.tr0 ho1⟩
      · have heq : (x.id == id) = false := by simpa using heq
        have hno2 : Hid (∀ j x, j < k + 1 → l[j]? = some x → (x.id == id) = false) := by
          intro j y h1 h2
          rcases Nat.lt_or_ge j k with h | h
          · exact hno.out j y h h2
          · obtain rfl : j = k := by omega
            rw [hk1] at h2
            injection h2 with h2
            subst h2
            exact heq
        clear hno hk1
        go_wp2_with (go_at_call 108; refine F1.out.mono ?_; rintro e w1 ⟨rfl, ho1⟩)
        go_roundw
        case rel => exact ⟨k + 1, by omega, by go_num, hno2, ho.tr0 ho1⟩
        case measure => simp [intOf]; omega
    · have hd0 : decide ((k : Int) < (l.length : Int)) = false := by simp; omega
      have HF : Hid (fndI l id = -1) := by
        show _ = _
        unfold fndI
        rw [if_neg]
        intro h
        unfold fndS at h
        have := hno.out _ _ (by omega) (List.getElem?_eq_getElem h)
        have h2 := List.findIdx_getElem (w := h)
        rw [this] at h2
        cases h2
      go_wp2_with fail
      go_ret
      exact ⟨by rw [HF.out]; rfl, ho⟩

/-- A table: its block, its row, the number that was given last. -/
def TbS (w : World) (B b : Nat) (l : List Ses) (ever : Int) : Prop :=
  B ≤ b ∧ ∃ v, Cells w b 125 [v, .int .i64 ever] ∧ w.ownsRow B 128 3 v l.length (sesL l)
set_option maxRecDepth 100000 in
theorem tbs_find (B b : Nat) (l : List Ses) (ever : Int) (id : Int) (w : World) (h : TbS w B b l ever) (hl : l.length ≤ 1000000) :
    Calls Try.prog 86 #[.pointer (some ⟨b, 0, none⟩), .int .i64 id] w fun e w' => e = .returned (.int .i64 (fndI l id)) ∧ Only [] w w' := by
  obtain ⟨hb, v, hc, hown⟩ := h
  have ho0 : Only [] w (w.alloc (.cells #[.int .i64 id] 3)) := (Only.refl _ _).alloc _
  have hs1 : SlAt (w.alloc (.cells #[.int .i64 id] 3)) (w.alloc (.cells #[.int .i64 id] 3)).heap.size v 3 l.length (sesL l) := SlAt.of_own (hown.alloc _)
  have HI := Lib.hid (indexFunc_ses v l w.heap.size id (w.alloc (.cells #[.int .i64 id] 3)) hs1 (by simp) (by simp) hl)
  have c0 := (hc.alloc (.cells #[.int .i64 id] 3)).cell (k := 0) rfl
  have hlt := hc.lt
  clear hc hown hs1
  go_enter Try.func86, Try.ntmps86
  go_wp2_with fail
  refine HI.out.mono ?_
  rintro e w1 ⟨rfl, ho1⟩
  go_wp2_with fail
  go_ret
  exact ⟨rfl, ho0.tr0 ho1⟩
theorem TbS.only {w w' : World} {B b : Nat} {l : List Ses} {ever : Int} (h : TbS w B b l ever) (ho : Only [] w w') : TbS w' B b l ever := by
  obtain ⟨hb, v, hc, hown⟩ := h
  exact ⟨hb, v, hc.only ho (by simp), own_only hown ho (by simp)⟩
end Go.Proofs.Ytojhbhdlbbmghaa
