/-
  Chapter 17: Fail, Mark, Unsubscribe, Subscribe.
-/
import Derived.Test.YtjfnkjpnjiobjaaSt17c
namespace Go.Proofs.Ytjfnkjpnjiobjaa
open Go.RowKit
def failF (f : Fd) (now : Int) : Fd := ⟨now, min (f.fai + 1) 1000, f.ps⟩
def withF (t : Pl) (f : Fd) : Pl := ⟨t.nm, f, t.p, t.m, t.v⟩
/-- The answer of an operation that asks find first. -/
def fndE (o : Option Pl) (now : Int) : Int := match o with
  | none => 4
  | some _ => if okT now then 0 else 1
theorem fndV_none {T : List Pl} {k : List UInt8} (now : Int) (h : fT T k = none) : fndV (fT T k) now = .tuple #[.pointer none, .int .i64 4] := by rw [h]; rfl
theorem fndV_bad {T : List Pl} {k : List UInt8} {t : Pl} {now : Int} (h : fT T k = some t) (hn : okT now = false) : fndV (fT T k) now = .tuple #[.pointer none, .int .i64 1] := by rw [h]; unfold fndV; rw [hn]; rfl
theorem fndV_ok {T : List Pl} {k : List UInt8} {t : Pl} {now : Int} (h : fT T k = some t) (hn : okT now = true) : fndV (fT T k) now = .tuple #[.pointer (some ⟨t.p, 0, none⟩), .int .i64 0] := by rw [h]; unfold fndV; rw [hn]; rfl
theorem okT_iff {now : Int} : okT now = true ↔ 0 ≤ now ∧ now ≤ 1099511627776 := by unfold okT; simp
def failT (T : List Pl) (k : List UInt8) (now : Int) : List Pl := match fT T k with
  | none => T
  | some t => if okT now then putBy Pl.nm k (withF t (failF t.fd now)) T else T
set_option maxRecDepth 100000 in
theorem store_fail (b mb : Nat) (T : List Pl) (k : List UInt8) (hk : k.length ≤ maxLen) (now : Int) (w : World) (h : StX w b mb T) :
    Calls Try.prog 47 #[.pointer (some ⟨b, 0, none⟩), .string ⟨k.toArray⟩, .int .i64 now] w fun e w' => e = .returned (.int .i64 (fndE (fT T k) now)) ∧ Op17 w w' b mb T (failT T k now) := by
  have CF := Lib.hid (store_find b mb T k hk now w h)
  have HX := Lib.hid h
  cases hf : fT T k with
  | none =>
    rw [fndV_none now hf] at CF
    have hT : failT T k now = T := by unfold failT; rw [hf]
    rw [hT]
    go_enter Try.func47, Try.ntmps47
    go_wp2_with fail
    refine CF.out.mono ?_
    rintro e w1 ⟨rfl, rfl⟩
    go_wp2_with fail
    go_ret
    exact ⟨rfl, Op17.same HX.out (Only.refl _ _)⟩
  | some t =>
    cases hn : okT now with
    | false =>
      rw [fndV_bad hf hn] at CF
      have hT : failT T k now = T := by unfold failT; rw [hf]; show (if okT now = true then _ else _) = _; rw [hn]; rfl
      have hE : fndE (some t) now = 1 := by unfold fndE; rw [hn]; rfl
      rw [hT, hE]
      go_enter Try.func47, Try.ntmps47
      go_wp2_with fail
      refine CF.out.mono ?_
      rintro e w1 ⟨rfl, rfl⟩
      go_wp2_with fail
      go_ret
      exact ⟨rfl, Op17.same HX.out (Only.refl _ _)⟩
    | true =>
      rw [fndV_ok hf hn] at CF
      have hT : failT T k now = putBy Pl.nm k (withF t (failF t.fd now)) T := by unfold failT; rw [hf]; show (if okT now = true then _ else _) = _; rw [hn]; rfl
      have hE : fndE (some t) now = 0 := by unfold fndE; rw [hn]; rfl
      rw [hT, hE]
      have ht := (fT_mem hf).1
      have hfd := h.fds t ht
      have hnb := hfd.nb
      obtain ⟨hn0, hn1⟩ := okT_iff.1 hn
      have p1 := hfd.cells.cell (k := 1) rfl
      have p0 := hfd.cells.cell (k := 0) rfl
      have f0 := hfd.cells.frozen 0
      have hlt := hfd.cells.lt
      obtain ⟨w2, hw2⟩ : ∃ w2, w.setCell ⟨t.p, 0, none⟩ (.int .i64 now) = w2 := ⟨_, rfl⟩
      have c2 : Cells w2 t.p 99 _ := hw2 ▸ hfd.cells.set 0 (.int .i64 now)
      have p2 := c2.cell (k := 1) rfl
      have f2 := c2.frozen 1
      have l2 := c2.lt
      obtain ⟨mn, hmn⟩ : ∃ mn, min (t.fd.fai + 1) 1000 = mn := ⟨_, rfl⟩
      obtain ⟨w3, hw3⟩ : ∃ w3, w2.setCell ⟨t.p, 1, none⟩ (.int .i64 mn) = w3 := ⟨_, rfl⟩
      have c3 : Cells w3 t.p 99 [.int .i64 now, .int .i64 mn, t.v, .map (some t.m)] := hw3 ▸ c2.set 1 (.int .i64 mn)
      have ho : Only [t.p] w w3 := hw3 ▸ (hw2 ▸ (Only.refl _ _).setCell (p := ⟨t.p, 0, none⟩) (.inl (by simp)) _).setCell (p := ⟨t.p, 1, none⟩) (.inl (by simp)) _
      have hvp := hfd.vp
      have hpm := hfd.pm
      have hfd3 : FdAt w3 t.p t.m t.v (failF t.fd now) := by
        refine ⟨?_, own_keep hfd.row ho (by simpa using hvp), hfd.map.only ho (by simpa using fun e => hpm e.symm), hfd.cap, ?_⟩
        · unfold failF
          rw [hmn]; exact c3
        · unfold failF
          exact ⟨by show -1 ≤ now; omega, by show now ≤ _; omega, by show 0 ≤ min _ _; omega, by show min _ _ ≤ _; omega⟩
      have HF := Lib.hid (HX.out.put (t' := withF t (failF t.fd now)) hf rfl rfl rfl hfd3 (ho.mono (fun x hx => .inl (by simp at hx; subst hx; simp [Pl.own]))) (NewOf.refl _ _))
      clear hfd3 ho hvp hpm c2 c3 hfd h
      go_enter Try.func47, Try.ntmps47
      go_wp2_with fail
      refine CF.out.mono ?_
      rintro e w1 ⟨rfl, rfl⟩
      go_wp2_with fail
      go_ret
      exact ⟨rfl, HF.out⟩
end Go.Proofs.Ytjfnkjpnjiobjaa
