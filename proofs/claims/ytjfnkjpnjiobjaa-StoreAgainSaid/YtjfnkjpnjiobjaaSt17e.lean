/-
  Chapter 17: Mark.
-/
import Derived.Test.YtjfnkjpnjiobjaaSt17d
namespace Go.Proofs.Ytjfnkjpnjiobjaa
open Go.RowKit
def Po.mark (x : Po) : Po := ⟨x.sq, x.it, true⟩
def markAt (ps : List Po) (i : Nat) : List Po := match ps[i]? with
  | some x => ps.set i x.mark
  | none => ps
def markF (f : Fd) (i : Nat) : Fd := ⟨f.pol, f.fai, markAt f.ps i⟩
def markT (T : List Pl) (k id : List UInt8) : List Pl := match fT T k with
  | none => T
  | some t => match idx t.fd.ps id with
    | none => T
    | some i => putBy Pl.nm k (withF t (markF t.fd i)) T
def markE (o : Option Pl) (id : List UInt8) : Int := match o with
  | none => 4
  | some t => if (idx t.fd.ps id).isSome then 0 else 4
theorem markAt_some {ps : List Po} {i : Nat} {x : Po} (h : ps[i]? = some x) : markAt ps i = ps.set i x.mark := by unfold markAt; rw [h]
theorem markAt_length (ps : List Po) (i : Nat) : (markAt ps i).length = ps.length := by
  unfold markAt
  split <;> simp
theorem idx_ids {ps qs : List Po} (h : ps.map (·.it.id) = qs.map (·.it.id)) (k : List UInt8) : idx ps k = idx qs k := by
  have e : ∀ l : List Po, idx l k = (l.map (·.it.id)).findIdx? (fun s => s == k) := by
    intro l
    unfold idx
    rw [List.findIdx?_map]
    rfl
  rw [e, e, h]
theorem markAt_ids (ps : List Po) (i : Nat) : (markAt ps i).map (·.it.id) = ps.map (·.it.id) := by
  unfold markAt
  split
  · rename_i x hx
    obtain ⟨hi, rfl⟩ := List.getElem?_eq_some_iff.1 hx
    rw [List.map_set]
    apply List.ext_getElem
    · simp
    · intro j h1 h2
      rw [List.getElem_set]
      split
      · subst_vars; simp [Po.mark]
      · rfl
  · rfl
theorem atF_ids {ps qs : List Po} (h : ps.map (·.it.id) = qs.map (·.it.id)) : atF ps = atF qs := by
  funext k
  unfold atF
  rw [idx_ids h]
theorem idx_lt {ps : List Po} {k : List UInt8} {i : Nat} (h : idx ps k = some i) : i < ps.length := by
  unfold idx at h
  exact (List.findIdx?_eq_some_iff_getElem.1 h).1
set_option maxRecDepth 100000 in
set_option maxHeartbeats 1000000 in
theorem store_mark (b mb : Nat) (T : List Pl) (k : List UInt8) (hk : k.length ≤ maxLen) (id : List UInt8) (hid : id.length ≤ maxLen) (w : World) (h : StX w b mb T) :
    Calls Try.prog 25 #[.pointer (some ⟨b, 0, none⟩), .string ⟨k.toArray⟩, .string ⟨id.toArray⟩] w fun e w' => e = .returned (.int .i64 (markE (fT T k) id)) ∧ Op17 w w' b mb T (markT T k id) := by
  have CF := Lib.hid (store_find b mb T k hk 0 w h)
  have HX := Lib.hid h
  cases hf : fT T k with
  | none =>
    rw [fndV_none 0 hf] at CF
    have hT : markT T k id = T := by unfold markT; rw [hf]
    rw [hT]
    go_enter Try.func25, Try.ntmps25
    go_wp2_with fail
    refine CF.out.mono ?_
    rintro e w1 ⟨rfl, rfl⟩
    go_wp2_with fail
    go_ret
    exact ⟨rfl, Op17.same HX.out (Only.refl _ _)⟩
  | some t =>
    rw [fndV_ok hf (by decide)] at CF
    have ht := (fT_mem hf).1
    have hfd := h.fds t ht
    have p3 := hfd.cells.cell (k := 3) rfl
    have hlk := hfd.map.lookOk (t := 97) (e := 3) (z := .int .i64 0) Try.underlying97 (Try.zeroValue3 w) id hid
    cases hi : idx t.fd.ps id with
    | none =>
      rw [show atF t.fd.ps id = none from by unfold atF; rw [hi]; rfl] at hlk
      have hT : markT T k id = T := by unfold markT; rw [hf]; dsimp only; rw [hi]
      have hE : markE (some t) id = 4 := by unfold markE; dsimp only; rw [hi]; rfl
      rw [hT, hE]
      clear h
      go_enter Try.func25, Try.ntmps25
      go_wp2_with fail
      refine CF.out.mono ?_
      rintro e w1 ⟨rfl, rfl⟩
      go_wp2_with fail
      go_ret
      exact ⟨rfl, Op17.same HX.out (Only.refl _ _)⟩
    | some i =>
      rw [show atF t.fd.ps id = some (.int .i64 (i : Int)) from by unfold atF; rw [hi]; rfl] at hlk
      have hT : markT T k id = putBy Pl.nm k (withF t (markF t.fd i)) T := by unfold markT; rw [hf]; dsimp only; rw [hi]
      have hE : markE (some t) id = 0 := by unfold markE; dsimp only; rw [hi]; rfl
      have hil := idx_lt hi
      obtain ⟨x, hx⟩ : ∃ x, t.fd.ps[i]? = some x := ⟨_, List.getElem?_eq_getElem hil⟩
      obtain ⟨g, cap, hv⟩ := own_formX hfd.row (by omega)
      have hrow := hfd.row
      rw [hv] at hrow
      have p2 := hfd.cells.cell (k := 2) rfl
      rw [hv] at p2
      have q4 : w.cell? ⟨g, i * 5 + 4, none⟩ = some (.bool x.rd) := by
        have := hrow.cells (g := g) rfl (i * 5 + 4) _ (poL_get t.fd.ps i 4 x hx (by omega))
        rw [Addr.add_lit, Nat.zero_add] at this
        exact this
      have f4 : w.frozen? ⟨g, i * 5 + 4, none⟩ = false := hrow.frozenAt _
      have lg : g < w.heap.size := (hrow.lt g rfl).2
      obtain ⟨w3, hw3⟩ : ∃ w3, w.setCell ⟨g, i * 5 + 4, none⟩ (.bool true) = w3 := ⟨_, rfl⟩
      have ho : Only [g] w w3 := hw3 ▸ (Only.refl _ _).setCell (p := ⟨g, i * 5 + 4, none⟩) (.inl (by simp)) _
      have hvp := hfd.vp
      have hvm := hfd.vm
      rw [hv] at hvp hvm
      have hfd3 : FdAt w3 t.p t.m t.v (markF t.fd i) := by
        refine ⟨hfd.cells.only ho (by simpa [Value.ownBlock] using fun e => hvp (by simp [Value.ownBlock, e])), ?_, ?_, ?_, hfd.nb⟩
        · have h1 := (hrow.stored (i * 5 + 4) (.bool true)).1
          have hfs : (poL t.fd.ps).set (i * 5 + 4) (.bool true) = poL (t.fd.ps.set i x.mark) := flat_set Po.cells 5 (fun _ => rfl) t.fd.ps i 4 x x.mark (.bool true) hx (by omega) rfl
          rw [hfs, hw3] at h1
          show World.ownsRow w3 _ _ _ _ (markAt t.fd.ps i).length (poL (markAt t.fd.ps i))
          rw [markAt_length, markAt_some hx, hv]
          exact h1
        · show MapF w3 _ (markAt t.fd.ps i).length (atF (markAt t.fd.ps i))
          rw [markAt_length, atF_ids (markAt_ids _ _)]
          exact hfd.map.only ho (by simpa [Value.ownBlock] using fun e => hvm (by simp [Value.ownBlock, e]))
        · show (markAt t.fd.ps i).length ≤ 200
          rw [markAt_length]; exact hfd.cap
      have HF := Lib.hid (HX.out.put (t' := withF t (markF t.fd i)) hf rfl rfl rfl hfd3 (ho.mono (fun y hy => .inl (by simp at hy; subst hy; simp [Pl.own, hv, rb, Value.ownBlock]))) (NewOf.refl _ _))
      rw [hT, hE]
      clear hfd3 ho hvp hvm hfd hrow h
      go_enter Try.func25, Try.ntmps25
      go_wp2_with fail
      refine CF.out.mono ?_
      rintro e w1 ⟨rfl, rfl⟩
      have hil' : (i : Int) < (t.fd.ps.length : Int) := by omega
      go_wp2_with fail
      go_ret
      exact ⟨rfl, HF.out⟩
end Go.Proofs.Ytjfnkjpnjiobjaa
