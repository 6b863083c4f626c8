/-
  Chapter 17: an act of a row is done, in a store made since W.
-/
import Derived.Test.YtjfnkjpnjiobjaaPl17
namespace Go.Proofs.Ytjfnkjpnjiobjaa
open Go.RowKit
theorem A17.Ok.later {W wr w' : World} {b : Nat} {O : List Nat} {S : Sv} {a : A17} (h : a.Ok W) (hs : StW W wr b O S) (ho : Only O wr w') : SlAt w' w'.heap.size a.iv 3 a.its.length (itL a.its) :=
  ((h.its.only hs.ho (Nat.le_refl _) (by simp)).only ho hs.ho.size hs.lo).more (Nat.le_trans hs.ho.size ho.size)
theorem sl_len {w : World} {B sz n : Nat} {v : Value} {xs : List Value} (h : SlAt w B v sz n xs) : n ≤ maxLen := by
  obtain ⟨_, _, _, _, h1, h2, _⟩ := h
  omega
theorem does17' (a : A17) {W wr : World} {b : Nat} {O : List Nat} {S : Sv} (h : a.Ok W) (hl : a.its.length ≤ 60) (hs : StW W wr b O S) :
    Calls Try.prog 18 #[.pointer (some ⟨b, 0, none⟩), .agg #[.int .i64 a.op, .int .i64 a.n, .string ⟨a.fd.toArray⟩, .string ⟨a.id.toArray⟩, a.iv]] wr (DoesW wr b O (D17 S a)) :=
  does17 b O S a wr hs.st h.op h.fd h.id (by omega) h.len (fun w' ho => h.later hs ho)
theorem poL_at {w : World} {B n : Nat} {v : Value} {l : List Po} (h : SlAt w B v 5 n (poL l)) (hn : l.length = n) {k : Nat} {x : Po} (hk : l[k]? = some x) :
    ∃ b o c, v = .slice (some ⟨b, o, none⟩) n c ∧ w.cell? ⟨b, o + k * 5, none⟩ = some (.int .i64 x.sq) ∧ w.cell? ⟨b, o + k * 5 + 1, none⟩ = some (.string ⟨x.it.id.toArray⟩) ∧ w.cell? ⟨b, o + k * 5 + 2, none⟩ = some (.string ⟨x.it.ti.toArray⟩) ∧ w.cell? ⟨b, o + k * 5 + 3, none⟩ = some (.string ⟨x.it.li.toArray⟩) ∧ w.cell? ⟨b, o + k * 5 + 4, none⟩ = some (.bool x.rd) := by
  have hlt : k < l.length := (List.getElem?_eq_some_iff.1 hk).1
  subst hn
  obtain ⟨b, o, c, hv, _, hc⟩ := h.at_ (by omega)
  exact ⟨b, o, c, hv, hc (k * 5 + 0) _ (poL_get l k 0 x hk (by omega)), hc (k * 5 + 1) _ (poL_get l k 1 x hk (by omega)), hc (k * 5 + 2) _ (poL_get l k 2 x hk (by omega)), hc (k * 5 + 3) _ (poL_get l k 3 x hk (by omega)), hc (k * 5 + 4) _ (poL_get l k 4 x hk (by omega))⟩
end Go.Proofs.Ytjfnkjpnjiobjaa
