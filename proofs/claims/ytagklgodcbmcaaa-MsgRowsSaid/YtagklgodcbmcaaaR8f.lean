/-
  Chapters 7 and 8: voters read: msg.ToVoters.
-/
import Derived.Test.YtagklgodcbmcaaaR8a
import Derived.Test.YtagklgodcbmcaaaCodecRd
namespace Go.Proofs.Ytagklgodcbmcaaa
open Go.RowKit
def rdIs : Nat → List UInt8 → Option (List Int × List UInt8)
  | 0, s => some ([], s)
  | n + 1, s => match rdI s with
    | none => none
    | some (x, r) => (rdIs n r).map fun (l, q) => (x :: l, q)
def rdVs (s : List UInt8) : Option (List Int × List UInt8) := match rdI s with
  | none => none
  | some (n, r) => if n < 0 ∨ 9 < n then none else rdIs n.toNat r
def vsL (s : List UInt8) : List Int := match rdVs s with
  | some (l, _) => l
  | none => []
def vsR (s : List UInt8) : List UInt8 := match rdVs s with
  | some (_, r) => r
  | none => []
theorem rdI_len {s r : List UInt8} {n : Int} (h : rdI s = some (n, r)) : r.length ≤ s.length := by
  obtain ⟨_, rfl⟩ := (rdI_iff s n r).1 h
  simp
set_option maxRecDepth 100000 in
set_option maxHeartbeats 2000000 in
theorem msg_toVoters (s : List UInt8) (w : World) (hl : s.length ≤ 1000000000000) :
    Calls Try.prog 52 #[.string ⟨s.toArray⟩] w fun e w' => ∃ v', e = .returned (.tuple #[v', .string ⟨(vsR s).toArray⟩, .bool (rdVs s).isSome]) ∧ w'.ownsRow w.heap.size 3 1 v' (vsL s).length (gvs (vsL s)) ∧ Only [] w w' := by
  obtain ⟨i0, hi0, hz0, hz1, hz2⟩ := info_parts info_int
  have CT := Lib.hid (fun (s' : List UInt8) (hs : s'.length ≤ s.length) w' => codec_toInt s' w' (by omega))
  cases hr : rdI s with
  | none =>
    have hv : Hid (rdVs s = none) := by show _ = _; unfold rdVs; rw [hr]
    have C0 := CT.out s (Nat.le_refl _) w
    rw [hr] at C0
    unfold rdV at C0
    clear hr CT
    go_enter Try.func52, Try.ntmps52
    go_wp2_with fail
    refine C0.mono ?_
    clear C0
    rintro e w1 ⟨rfl, ho1⟩
    go_wp2_with fail
    go_ret3
    refine ⟨.slice none 0 0, ?_, ?_, ho1⟩
    · unfold vsR; rw [hv.out]; rfl
    · unfold vsL; rw [hv.out]; exact World.ownsRow_nil _ _ _ _
  | some p =>
    obtain ⟨n, r⟩ := p
    have hrl := rdI_len hr
    have C0 := CT.out s (Nat.le_refl _) w
    rw [hr] at C0
    unfold rdV at C0
    by_cases hn0 : n < 0
    · have hv : Hid (rdVs s = none) := by show _ = _; unfold rdVs; rw [hr]; simp [hn0]
      have d0 : decide (n < 0) = true := by simpa using hn0
      clear hr CT hn0
      go_enter Try.func52, Try.ntmps52
      go_wp2_with fail
      refine C0.mono ?_
      clear C0
      rintro e w1 ⟨rfl, ho1⟩
      go_wp2_with fail
      go_ret3
      refine ⟨.slice none 0 0, ?_, ?_, ho1⟩
      · unfold vsR; rw [hv.out]; rfl
      · unfold vsL; rw [hv.out]; exact World.ownsRow_nil _ _ _ _
    · have d0 : decide (n < 0) = false := by simpa using hn0
      by_cases hn9 : 9 < n
      · have hv : Hid (rdVs s = none) := by show _ = _; unfold rdVs; rw [hr]; simp [hn9]
        have d1 : decide (9 < n) = true := by simpa using hn9
        clear hr CT hn0 hn9
        go_enter Try.func52, Try.ntmps52
        go_wp2_with fail
        refine C0.mono ?_
        clear C0
        rintro e w1 ⟨rfl, ho1⟩
        go_wp2_with fail
        go_ret3
        refine ⟨.slice none 0 0, ?_, ?_, ho1⟩
        · unfold vsR; rw [hv.out]; rfl
        · unfold vsL; rw [hv.out]; exact World.ownsRow_nil _ _ _ _
      · have d1 : decide (9 < n) = false := by simpa using hn9
        obtain ⟨m, rfl⟩ : ∃ m : Nat, n = m := ⟨n.toNat, by omega⟩
        have hm9 : m ≤ 9 := by omega
        have hv : Hid (rdVs s = rdIs m r) := by show _ = _; unfold rdVs; rw [hr]; show (if _ then _ else _) = _; rw [if_neg (by omega), Int.toNat_natCast]
        clear hr hn0 hn9
        go_enter Try.func52, Try.ntmps52
        go_wp2_with fail
        refine C0.mono ?_
        clear C0
        rintro e w1 ⟨rfl, ho1⟩
        go_wp2_with fail
        go_loopw [0, 7, 28] (fun t u i wr => ∃ (k : Nat) (l : List Int) (q : List UInt8), k ≤ m ∧ i = .int .i64 k ∧ t = .string ⟨q.toArray⟩ ∧ q.length ≤ s.length ∧ l.length = k ∧ Hid (wr.ownsRow w.heap.size 3 1 u k (gvs l)) ∧ Only [] w wr ∧ Hid (rdIs m r = (rdIs (m - k) q).map fun (l', z) => (l ++ l', z))) (fun t u i _ => m - (intOf i).toNat)
        case atStart => exact ⟨0, [], r, by omega, rfl, rfl, hrl, rfl, Lib.hid (World.ownsRow_nil _ _ _ _), ho1, by show _ = _; cases rdIs m r <;> simp⟩
        case round =>
          obtain ⟨k, l, q, hk, rfl, rfl, hq, hlk, hown, ho, hgo⟩ := hrel
          by_cases hlt : k < m
          · have hlt' : (k : Int) < (m : Int) := by omega
            have hg2 : Hid (rdIs (m - k) q = match rdI q with | none => none | some (x, r) => (rdIs (m - (k + 1)) r).map fun (l, q) => (x :: l, q)) := by show _ = _; rw [show m - k = (m - (k + 1)) + 1 from by omega]; rfl
            have C1 := Lib.hid (CT.out q hq wr)
            cases hr2 : rdI q with
            | none =>
              rw [hr2] at C1 hg2
              have hv2 : Hid (rdVs s = none) := by show _ = _; rw [hv.out, hgo.out, hg2.out]; rfl
              unfold rdV at C1
              clear hr2 hgo hg2
              go_wp2_with fail
              refine C1.out.mono ?_
              rintro e w2 ⟨rfl, ho2⟩
              go_wp2_with fail
              go_ret3
              refine ⟨.slice none 0 0, ?_, ?_, ho.tr ho2⟩
              · unfold vsR; rw [hv2.out]; rfl
              · unfold vsL; rw [hv2.out]; exact World.ownsRow_nil _ _ _ _
            | some p =>
              obtain ⟨x, r2⟩ := p
              have hrl2 := rdI_len hr2
              rw [hr2] at C1 hg2
              unfold rdV at C1
              clear hr2
              have hg3 : Hid (rdIs m r = (rdIs (m - (k + 1)) r2).map fun (l', z) => ((l ++ [x]) ++ l', z)) := by
                show _ = _
                rw [hgo.out, hg2.out]
                dsimp only
                cases rdIs (m - (k + 1)) r2 <;> simp
              clear hgo hg2
              go_wp2_with fail
              refine C1.out.mono ?_
              rintro e w2 ⟨rfl, ho2⟩
              have hown2 := Lib.hid (own_only hown.out ho2 (by simp))
              have hsz := (ho.tr ho2).size
              have hoD := ho.tr ho2
              clear C1 hown ho2
              go_wp2_with (at_builtin
                           refine wpList_app rfl _ _ 25 rfl w.heap.size 3 i0 _ 1 8 Try.underlying25 hi0 hz0 hz1 hz2 rfl (by decide) w2 u7 k (gvs l) rfl hown2.out 1 1 [.int .i64 x] rfl rfl (by simp [Value.oneCell']) (by simp only [maxLen]; omega) (by omega) hsz ?_
                           intro v' w' hown' hgrow _)
              go_roundw
              case rel => exact ⟨k + 1, l ++ [x], r2, by omega, by go_num, rfl, by omega, by simp [hlk], Lib.hid (by rw [show gvs (l ++ [x]) = gvs l ++ [.int .i64 x] from by simp [gvs]]; exact hown'), hoD.own hown2.out hgrow (Nat.le_refl _), hg3⟩
              case measure => simp [intOf]; omega
          · have hd : decide ((k : Int) < (m : Int)) = false := by simp; omega
            have hkm : k = m := by omega
            have hv2 : Hid (rdVs s = some (l, q)) := by show _ = _; rw [hv.out, hgo.out, hkm, Nat.sub_self]; simp [rdIs]
            go_wp2_with fail
            go_ret3
            refine ⟨u7, ?_, ?_, ho⟩
            · unfold vsR; rw [hv2.out]; rfl
            · unfold vsL; rw [hv2.out]; show World.ownsRow _ _ _ _ _ l.length _; rw [hlk]; exact hown.out
end Go.Proofs.Ytagklgodcbmcaaa
