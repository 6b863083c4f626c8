/-
  LeaseOthers: the walk.
-/
import Derived.Test.YtlonaniomnalnaaLaw16c
namespace Go.Proofs.Ytlonaniomnalnaa
open Go.RowKit

theorem info_lease : (Try.prog.info? 44).map (fun i => (i.zero, i.size, i.bytes)) = some (some (.agg #[.int .i64 0, .int .i64 0, .int .i64 0]), 3, 24) := by kernel_rfl
/-- The leases below n. -/
def Tb.row (t : Tb) (n : Nat) : List Ls := (List.range n).map fun (k : Nat) => t.get (k : Int)
theorem Tb.row_succ (t : Tb) (n : Nat) : t.row (n + 1) = t.row n ++ [t.get n] := by unfold Tb.row; rw [List.range_succ, List.map_append]; rfl
theorem Tb.row_length (t : Tb) (n : Nat) : (t.row n).length = n := by simp [Tb.row]

/-- The first j out of t', the others out of t. -/
def Tb.mix (t t' : Tb) (j : Nat) : List Ls := (List.range 8).map fun (k : Nat) => if k < j then t'.get (k : Int) else t.get (k : Int)
theorem Tb.mix_zero (t t' : Tb) : t.mix t' 0 = t.row 8 := by simp [Tb.mix, Tb.row]
theorem Tb.mix_all (t t' : Tb) : t.mix t' 8 = t'.row 8 := by
  unfold Tb.mix Tb.row
  apply List.map_congr_left
  intro k hk
  rw [if_pos (by simpa using hk)]
theorem Tb.mix_at (t t' : Tb) (j : Nat) (hj : j < 8) : (t.mix t' j)[j]? = some (t.get j) := by
  unfold Tb.mix
  rw [List.getElem?_map, List.getElem?_range hj]
  simp
theorem Tb.mix_set (t t' : Tb) (j : Nat) : (t.mix t' j).set j (t'.get j) = t.mix t' (j + 1) := by
  apply List.ext_getElem?
  intro i
  unfold Tb.mix
  rw [List.getElem?_set]
  by_cases hi : i < 8
  · rw [List.getElem?_map, List.getElem?_map, List.getElem?_range hi]
    by_cases h : j = i
    · subst h; simp [hi]
    · by_cases h2 : i < j
      · simp [h, h2, show i < j + 1 from by omega]
      · simp [h, h2, show ¬ i < j + 1 from by omega]
  · rw [List.getElem?_eq_none (by simp; omega), List.getElem?_eq_none (by simp; omega)]
    split <;> simp_all
theorem Tb.row_at (t : Tb) (j : Nat) (hj : j < 8) : (t.row 8)[j]? = some (t.get j) := by
  unfold Tb.row
  rw [List.getElem?_map, List.getElem?_range hj]; rfl

set_option maxRecDepth 100000 in
set_option maxHeartbeats 800000 in
theorem leaseOthers_walk (W : World) (v : Value) (l : List Act) (hs : SlAt W W.heap.size v 3 l.length (l.flatMap Act.cells)) (hg : ∀ a ∈ l, a.wide) (shard : Int) (h1 : (Lit.int .i64 shard).wf = true) (node : Int) (h2 : (Lit.int .i64 node).wf = true) :
    Calls Try.prog 11 #[v, .int .i64 shard, .int .i64 node] W fun e W' => e = .returned (.bool true) ∧ Only [] W W' := by
  obtain ⟨A, c, rfl⟩ := hs.shape
  obtain ⟨i0, hi0, hz0, hz1, hz2⟩ := info_parts info_lease
  have HS := Lib.hid hs
  have HG := Lib.hid hg
  clear hs hg h1 h2
  by_cases hl : 150 < l.length
  · have hl' : (150 : Int) < (l.length : Int) := by omega
    go_enter Try.func11, Try.ntmps11
    go_wp2_with (go_at_call 27; refine (shown16 _).mono ?_; rintro e w1 ⟨rfl, ho⟩)
    go_ret
    exact ⟨rfl, ho⟩
  · have hl' : decide ((150 : Int) < (l.length : Int)) = false := by simp; omega
    go_enter Try.func11, Try.ntmps11
    go_wp2_with fail
    refine (shown16 _).mono ?_
    rintro e w1 ⟨rfl, ho⟩
    go_wp2_with fail
    refine (tb_new W _ ho).mono ?_
    rintro e w2 ⟨tb, rfl, ht⟩
    go_wp2_with fail
    go_loopw [9] (fun i wr => ∃ k : Nat, k ≤ l.length ∧ i = .int .i64 k ∧ Hid (TbAt W wr tb (Tb.after l k))) (fun i _ => l.length - (intOf i).toNat)
    case atStart => exact ⟨0, by omega, rfl, ht⟩
    case round =>
      obtain ⟨k, hk, rfl, hr⟩ := hrel
      by_cases hlt : k < l.length
      · have hlt' : (k : Int) < (l.length : Int) := by omega
        have hk1 := List.getElem?_eq_getElem hlt
        obtain ⟨x, hx⟩ : ∃ x, l[k] = x := ⟨_, rfl⟩
        rw [hx] at hk1
        obtain ⟨ab, ao, ac, hv, q0, q1, q2, hb⟩ := act_at HS.out hr.out.2.1 hk1
        have hw := Lib.hid (HG.out x (List.mem_of_getElem? hk1))
        have HS1 := Lib.hid (Tb.after_succ l k x hk1)
        have hu := Lib.hid (Tb.after_upto l k hk)
        clear hx hk1
        injection hv with e1 e2 e3
        subst e1; subst e3
        clear e2
        go_wp2_with (go_at_call 34; refine (tb_does hr x hw.out k hu.out (by omega)).mono ?_; rintro e w4 ⟨rfl, h4⟩)
        go_roundw
        case rel => exact ⟨k + 1, by omega, by go_num, by rw [HS1.out]; exact h4⟩
        case measure => simp [intOf]; omega
      · have hd0 : decide ((k : Int) < (l.length : Int)) = false := by simp; omega
        have hu := Lib.hid (Tb.after_upto l k hk)
        obtain ⟨t, ht0⟩ : ∃ t, Tb.after l k = t := ⟨_, rfl⟩
        rw [ht0] at hu hr
        clear ht0 HS HG
        have hk150 : (k : Int) ≤ 150 := by omega
        obtain ⟨w0, rfl⟩ : ∃ w0 : World, w0 = wr := ⟨_, rfl⟩
        go_wp2_with fail
        go_loopw [10, 11] (fun v i wr => ∃ j : Nat, j ≤ 8 ∧ i = .int .i64 j ∧ wr.ownsRow w0.heap.size 44 3 v j ((t.row j).flatMap Ls.cells) ∧ Hid (TbAt W wr tb t) ∧ Only [] w0 wr) (fun _ i _ => 8 - (intOf i).toNat)
        case atStart => exact ⟨0, by omega, rfl, by simpa [Tb.row] using World.ownsRow_nil _ _ _ _, hr, Only.refl _ _⟩
        case round =>
          obtain ⟨j, hj, rfl, hown, hrj, hoj⟩ := hrel
          by_cases hj8 : j < 8
          · have hj8' : (j : Int) < 8 := by omega
            have HR := Lib.hid (t.row_succ j)
            obtain ⟨x, hx⟩ : ∃ x, t.get j = x := ⟨_, rfl⟩
            rw [hx] at HR
            have HX := Lib.hid hx
            clear hx
            go_wp2_with (first
              | (go_at_call 30; refine (tb_get hrj j hu.out.len x HX.out).mono ?_; rintro e w5 ⟨rfl, ht5, ho5⟩)
              | (at_builtin
                 refine wpList_app rfl _ _ 57 rfl w0.heap.size 44 i0 _ 3 24 Try.underlying57 hi0 hz0 hz1 hz2 rfl (by decide) w5 _ _ _ rfl (own_only hown ho5 (by simp)) 1 1 [.int .i64 x.node, .int .i64 x.epoch, .int .i64 x.till] rfl rfl (by simp [Value.oneCell']) (by simp only [maxLen]; omega) (by omega) (hoj.tr ho5).size ?_
                 intro v' w' hown' hgrow _))
            go_roundw
            case rel => exact ⟨j + 1, by omega, by go_num, by rw [HR.out]; simpa [Ls.cells] using hown', TbAt.grown ht5 (own_only hown ho5 (by simp)) hgrow (by decide) hr.out.2.1.size, (hoj.tr ho5).own (own_only hown ho5 (by simp)) hgrow (Nat.le_refl _)⟩
            case measure => simp [intOf]; omega
          · obtain rfl : j = 8 := by omega
            obtain ⟨g, cap, rfl⟩ := own_form hown (by omega)
            have hgt : tb < w0.heap.size := hr.1.lt
            have hd8 : decide ((8 : Int) < 8) = false := by decide
            have hu1 := hu.out.grant shard node
            obtain ⟨t', hgr⟩ : ∃ t', (t.grant shard node).1 = t' := ⟨_, rfl⟩
            rw [hgr] at hu1
            have hoth : ∀ j : Int, j ≠ shard → t'.get j = t.get j := by
              intro j hj
              rw [← hgr]
              unfold Tb.grant
              split
              · rename_i hb
                split
                · split
                  · rw [Tb.get_set _ _ hu.out.len _ _ _ ⟨hb.1, hb.2.1⟩, if_neg hj]
                  · rfl
                · rw [Tb.get_set _ _ hu.out.len _ _ _ ⟨hb.1, hb.2.1⟩, if_neg hj]
              · rfl
            have hnow : t'.now = t.now := by
              rw [← hgr]
              unfold Tb.grant
              split
              · split
                · split <;> rfl
                · rfl
              · rfl
            have HGR := Lib.hid hgr
            have HOTH := Lib.hid hoth
            have HNOW := Lib.hid hnow
            have HU1 := Lib.hid hu1
            clear hgr hoth hnow hu1
            go_wp2_with fail
            refine (tb_now hrj).mono ?_
            rintro e w6 ⟨rfl, rfl⟩
            go_wp2_with fail
            refine (tb_grant' hrj shard node k hu.out (by omega) _ rfl t' HGR.out).mono ?_
            rintro e w7 ⟨rfl, ht7, ho7⟩
            have hown7 := own_only hown ho7 (by simpa using hgt)
            have hoj7 := hoj.size
            clear hown hrj
            go_wp2_with fail
            go_loopw [13] (fun i wr => ∃ j : Nat, j ≤ 8 ∧ i = .int .i64 j ∧ wr.ownsRow w0.heap.size 44 3 (.slice (some ⟨g, 0, none⟩) 8 cap) 8 ((t.mix t' j).flatMap Ls.cells) ∧ Hid (TbAt W wr tb t')) (fun i _ => 8 - (intOf i).toNat)
            case atStart => exact ⟨0, by omega, rfl, by rw [Tb.mix_zero]; exact hown7, ht7⟩
            case round =>
              obtain ⟨j, hj, rfl, hownj, hrj⟩ := hrel
              by_cases hj8 : j < 8
              · have hj8' : (j : Int) < 8 := by omega
                have HM := Lib.hid (t.mix_set t' j)
                obtain ⟨y, hy⟩ : ∃ y, t'.get j = y := ⟨_, rfl⟩
                rw [hy] at HM
                have HY := Lib.hid hy
                have HMA := Lib.hid (t.mix_at t' j hj8)
                obtain ⟨m0, m1, m2, z0, z1, z2, hg1, hg2⟩ := ls_at hownj HMA.out
                have HOWN := Lib.hid hownj
                have hgtb := own_ne hownj hrj.1 (by decide)
                clear hy hownj
                obtain ⟨x, hx⟩ : ∃ x, t.get j = x := ⟨_, rfl⟩
                rw [hx] at m0 m1 m2 HMA
                have hcase : ∃ d : Bool, ((j : Int) != shard) = d ∧ ((j : Int) == shard) = !d ∧ ((d = false) ∨ (d = true ∧ y = x)) := by
                  by_cases hsh : (j : Int) = shard
                  · exact ⟨false, by simpa using hsh, by simpa using hsh, .inl rfl⟩
                  · exact ⟨true, by simpa using hsh, by simpa using hsh, .inr ⟨rfl, by rw [← hx, ← HOTH.out j hsh]; exact HY.out.symm⟩⟩
                obtain ⟨d, hd, e1, hdc⟩ := hcase
                clear hx
                rcases hdc with rfl | ⟨rfl, rfl⟩
                all_goals
                  simp only [Bool.not_false, Bool.not_true] at e1
                  have r0 := fun u : Since wr => u.cell m0
                  have r1 := fun u : Since wr => u.cell m1
                  have r2 := fun u : Since wr => u.cell m2
                  go_wp2_with fail
                  refine wp_region_only wr (Only.refl _ _) (by kernel_rfl) (by kernel_rfl) ?_
                  repeat (go_big_quiet_step ((go_at_call 30; refine Calls.only ((tb_get (w := Since.w _) (hrj.out.only (Since.h _)) j HU1.out.len y HY.out).mono fun _ _ h => ⟨h.1, h.2.2⟩))))
                  refine wpQuiet_nil ?_
                  rintro ⟨w8, ho8⟩
                  dsimp only
                  clear r0 r1 r2 m0 m1 m2 z0 z1 z2 hg2
                  go_wp2_with fail
                  refine (tb_get (hrj.out.only ho8) j HU1.out.len y HY.out).mono ?_
                  rintro e w9 ⟨rfl, hr9, ho9⟩
                  have HO9 := Lib.hid (own_only (own_only HOWN.out ho8 (by simp)) ho9 (by simp))
                  obtain ⟨m0, m1, m2, z0, z1, z2, hg1, hg2⟩ := ls_at HO9.out HMA.out
                  go_wp2_with fail
                  go_roundw
                  case rel =>
                    refine ⟨j + 1, by omega, by go_num, by rw [← HM.out]; exact ls_set HO9.out HMA.out y, ?_⟩
                    have hW : W.heap.size ≤ g := Nat.le_trans hr.out.2.1.size hg1
                    exact TbAt.set (TbAt.set (TbAt.set hr9 (fun e => hgtb e.symm) hW _) (fun e => hgtb e.symm) hW _) (fun e => hgtb e.symm) hW _
                  case measure => simp [intOf]; omega
              · obtain rfl : j = 8 := by omega
                rw [Tb.mix_all] at hownj
                have HOWN := Lib.hid hownj
                clear hownj
                have en : (t'.now == t.now) = true := by simpa using HNOW.out
                have en2 : (t'.now != t.now) = false := by simpa using HNOW.out
                have hN := HNOW.out
                have b0 : 0 ≤ t'.now := HU1.out.n0
                have b1 : t'.now ≤ 200 := by have := HU1.out.n1; omega
                rw [← hN]
                clear hN
                have ed : decide ((8 : Int) < 8) = false := by decide
                obtain ⟨n0, hn0⟩ : ∃ n0, t'.now = n0 := ⟨_, rfl⟩
                have hn1 : t'.tick.now = n0 + 1 := by rw [← hn0]; rfl
                have HN0 := Lib.hid hn0
                have HN1 := Lib.hid hn1
                rw [hn0] at b0 b1
                have hN : t.now = n0 := by rw [← HNOW.out]; exact hn0
                rw [hn0]
                clear hn0 hn1 en en2 hN
                go_wp2_with fail
                refine (tb_now hrj).mono ?_
                rintro e w8 ⟨rfl, rfl⟩
                rw [HN0.out]
                go_wp2_with fail
                refine (tb_tick' hrj 200 ((HU1.out).mono (by omega)) (by omega)).mono ?_
                rintro e w9 ⟨rfl, hr9, ho9⟩
                rw [HN0.out]
                go_wp2_with fail
                refine (tb_now hr9).mono ?_
                rintro e w10 ⟨rfl, rfl⟩
                rw [HN1.out]
                have HO9 := Lib.hid (own_only HOWN.out ho9 (by simpa using hgt))
                go_wp2_with fail
                go_loopw [14] (fun i wr => ∃ j : Nat, j ≤ 8 ∧ i = .int .i64 j ∧ wr.ownsRow w0.heap.size 44 3 (.slice (some ⟨g, 0, none⟩) 8 cap) 8 ((t'.row 8).flatMap Ls.cells) ∧ Hid (TbAt W wr tb t'.tick)) (fun i _ => 8 - (intOf i).toNat)
                case atStart => exact ⟨0, by omega, rfl, HO9.out, hr9⟩
                case round =>
                  obtain ⟨j, hj, rfl, hownj, hrj⟩ := hrel
                  by_cases hj8 : j < 8
                  · have hj8' : (j : Int) < 8 := by omega
                    obtain ⟨y, hy⟩ : ∃ y, t'.get j = y := ⟨_, rfl⟩
                    have HYT : Hid (t'.tick.get j = y) := hy
                    have HMA := t'.row_at j hj8
                    rw [hy] at HMA
                    obtain ⟨m0, m1, m2, z0, z1, z2, hg1, hg2⟩ := ls_at hownj HMA
                    have HOWN2 := Lib.hid hownj
                    clear hy hownj HMA z0 z1 z2
                    have r0 := fun u : Since wr => u.cell m0
                    have r1 := fun u : Since wr => u.cell m1
                    have r2 := fun u : Since wr => u.cell m2
                    go_wp2_with fail
                    refine wp_region_only wr (Only.refl _ _) (by kernel_rfl) (by kernel_rfl) ?_
                    repeat (go_big_quiet_step ((go_at_call 30; refine Calls.only ((tb_get (w := Since.w _) (hrj.out.only (Since.h _)) j HU1.out.len y HYT.out).mono fun _ _ h => ⟨h.1, h.2.2⟩))))
                    refine wpQuiet_nil ?_
                    rintro ⟨w11, ho11⟩
                    dsimp only
                    go_wp2_with fail
                    go_roundw
                    case rel => exact ⟨j + 1, by omega, by go_num, own_only HOWN2.out ho11 (by simp), hrj.out.only ho11⟩
                    case measure => simp [intOf]; omega
                  · obtain rfl : j = 8 := by omega
                    have ed : decide ((8 : Int) < 8) = false := by decide
                    go_wp2_with fail
                    go_ret
                    exact ⟨rfl, hrj.out.2.1⟩
end Go.Proofs.Ytlonaniomnalnaa
