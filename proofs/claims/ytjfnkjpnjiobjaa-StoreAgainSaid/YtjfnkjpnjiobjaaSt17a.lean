/-
  Chapter 17: a feed in memory; add.
-/
import Derived.Test.YtjfnkjpnjiobjaaFeed17
import Derived.Test.YtjfnkjpnjiobjaaMap17
import Derived.Test.YtjfnkjpnjiobjaaName17
import Derived.Test.YtjfnkjpnjiobjaaGen
namespace Go.Proofs.Ytjfnkjpnjiobjaa
open Go.RowKit
structure Po where
  sq : Int
  it : It
  rd : Bool
def Po.cells (x : Po) : List Value := [.int .i64 x.sq, .string ⟨x.it.id.toArray⟩, .string ⟨x.it.ti.toArray⟩, .string ⟨x.it.li.toArray⟩, .bool x.rd]
def poL (l : List Po) : List Value := l.flatMap Po.cells
theorem poL_length (l : List Po) : (poL l).length = l.length * 5 := by
  induction l with
  | nil => rfl
  | cons x r ih => simp [poL, List.flatMap_cons, Po.cells] at ih ⊢; omega
theorem poL_append (l r : List Po) : poL (l ++ r) = poL l ++ poL r := by unfold poL; rw [List.flatMap_append]
theorem poL_get (l : List Po) (i j : Nat) (x : Po) (h : l[i]? = some x) (hj : j < 5) : (poL l)[i * 5 + j]? = x.cells[j]? := flat_get Po.cells 5 (fun _ => rfl) l i j x h hj
theorem poL_one (l : List Po) : ∀ u ∈ poL l, u.oneCell' = true := by
  intro u hu
  obtain ⟨x, _, hx⟩ := List.mem_flatMap.1 hu
  simp only [Po.cells, List.mem_cons, List.not_mem_nil, or_false] at hx
  rcases hx with rfl | rfl | rfl | rfl | rfl <;> rfl
theorem info_post : (Try.prog.info? 38).map (fun i => (i.zero, i.size, i.bytes)) = some (some (.agg #[.int .i64 0, .string ⟨#[]⟩, .string ⟨#[]⟩, .string ⟨#[]⟩, .bool false]), 5, 64) := by kernel_rfl
structure Fd where
  pol : Int
  fai : Int
  ps : List Po
def idx (ps : List Po) (k : List UInt8) : Option Nat := ps.findIdx? (fun x => x.it.id == k)
def atF (ps : List Po) (k : List UInt8) : Option Value := (idx ps k).map fun i : Nat => Value.int .i64 (i : Int)
/-- A feed in memory: its block p, its map m, its row v. -/
structure FdAt (w : World) (p m : Nat) (v : Value) (f : Fd) : Prop where
  cells : Cells w p 99 [.int .i64 f.pol, .int .i64 f.fai, v, .map (some m)]
  row : w.ownsRow 0 38 5 v f.ps.length (poL f.ps)
  map : MapF w m f.ps.length (atF f.ps)
  cap : f.ps.length ≤ 200
  nb : -1 ≤ f.pol ∧ f.pol ≤ 1099511627776 ∧ 0 ≤ f.fai ∧ f.fai ≤ 1000
theorem FdAt.pm {w : World} {p m : Nat} {v : Value} {f : Fd} (h : FdAt w p m v f) : p ≠ m := by
  intro e
  obtain ⟨D, ⟨es, clock, hh, _⟩, _⟩ := h.map.ex
  have := h.cells
  unfold Cells at this
  rw [e, hh] at this
  cases this
theorem FdAt.vm {w : World} {p m : Nat} {v : Value} {f : Fd} (h : FdAt w p m v f) : v.ownBlock ≠ some m := by
  intro e
  obtain ⟨D, ⟨es, clock, hh, _⟩, _⟩ := h.map.ex
  rcases h.row.2 with ⟨rfl, _⟩ | ⟨g, cap, cur, rfl, _, hg, _⟩
  · simp [Value.ownBlock] at e
  · simp only [Value.ownBlock, Option.some.injEq] at e
    subst e
    rw [hh] at hg
    cases hg
theorem FdAt.vp {w : World} {p m : Nat} {v : Value} {f : Fd} (h : FdAt w p m v f) : v.ownBlock ≠ some p := own_ne_block h.row h.cells (by decide)
theorem FdAt.only {S : List Nat} {w w' : World} {p m : Nat} {v : Value} {f : Fd} (h : FdAt w p m v f) (ho : Only S w w') (h1 : p ∉ S) (h2 : m ∉ S) (h3 : ∀ g, v.ownBlock = some g → g ∉ S) : FdAt w' p m v f :=
  ⟨h.cells.only ho h1, own_keep h.row ho (fun b hb e => h3 b e hb), h.map.only ho h2, h.cap, h.nb⟩
theorem MapF.grown {w w' : World} {b n : Nat} {f : List UInt8 → Option Value} {row : Option Nat} (h : MapF w b n f) (hg : w.grownBy w' row) (hne : some b ≠ row) : MapF w' b n f := h.block (hg.block b h.lt hne)
theorem grown_only {w w' : World} {v : Value} (h : w.grownBy w' v.ownBlock) : Only (rb v) w w' :=
  ⟨h.os, h.tape, h.output, h.size, fun k hk hS => h.block k hk (fun e => hS (by simp [rb, ← e]))⟩
def addB (f : Fd) (x : It) : Bool := (idx f.ps x.id).isNone && !(f.ps.length == 200)
def addF (f : Fd) (x : It) : Fd := if addB f x then ⟨f.pol, f.fai, f.ps ++ [⟨(f.ps.length : Int) + 1, x, false⟩]⟩ else f
theorem atF_snoc (ps : List Po) (x : Po) (h : idx ps x.it.id = none) : atF (ps ++ [x]) = fun k => if k = x.it.id then some (.int .i64 (ps.length : Int)) else atF ps k := by
  funext k
  unfold atF idx at *
  rw [List.findIdx?_append]
  by_cases hk : k = x.it.id
  · subst hk
    rw [h, if_pos rfl]
    simp
  · rw [if_neg hk]
    have : ¬ x.it.id = k := fun e => hk e.symm
    simp [List.findIdx?_cons, this]
set_option maxRecDepth 100000 in
set_option maxHeartbeats 2000000 in
theorem source_add (p m : Nat) (v : Value) (f : Fd) (x : It) (hx : x.Len) (w : World) (h : FdAt w p m v f) :
    Calls Try.prog 53 #[.pointer (some ⟨p, 0, none⟩), .agg #[.string ⟨x.id.toArray⟩, .string ⟨x.ti.toArray⟩, .string ⟨x.li.toArray⟩]] w fun e w' => ∃ v', e = .returned (.bool (addB f x)) ∧ FdAt w' p m v' (addF f x) ∧ Only ([p, m] ++ rb v) w w' ∧ NewOf w v v' := by
  obtain ⟨i0, hi0, hz0, hz1, hz2⟩ := info_parts info_post
  obtain ⟨A, c, rfl⟩ := (SlAt.of_own h.row).shape
  have hcap := h.cap
  have hplt := h.cells.lt
  obtain ⟨w1, hw1⟩ : ∃ w1, w.alloc (.cells #[.string ⟨x.id.toArray⟩, .string ⟨x.ti.toArray⟩, .string ⟨x.li.toArray⟩] 36) = w1 := ⟨_, rfl⟩
  obtain ⟨z, hz⟩ : ∃ z, w.heap.size = z := ⟨_, rfl⟩
  have a1 : Cells w1 z 36 x.cells := hw1 ▸ hz ▸ Cells.new w _ _
  have O1 : Only [] w w1 := hw1 ▸ (Only.refl _ _).alloc _
  have h1 := h.only O1 (by simp) (by simp) (by simp)
  have p2 := h1.cells.cell (k := 2) rfl
  have p3 := h1.cells.cell (k := 3) rfl
  have q0 := a1.cell (k := 0) rfl
  have hlk := fun w' (hm : MapF w' m f.ps.length (atF f.ps)) => hm.lookOk (t := 97) (e := 3) (z := .int .i64 0) Try.underlying97 (Try.zeroValue3 w') x.id hx.id
  have hl1 := hlk w1.drew (h1.map.block rfl)
  obtain ⟨oi, hoi⟩ : ∃ oi, idx f.ps x.id = oi := ⟨_, rfl⟩
  have hat : atF f.ps x.id = oi.map (fun i : Nat => Value.int .i64 (i : Int)) := by unfold atF; rw [hoi]
  rw [hat] at hl1
  go_enter Try.func53, Try.ntmps53
  go_wp2_with fail
  go_region
  have d1 := h1.only (w' := w1.drew) (Only.drew (S := []) (Only.refl _ _)) (by simp) (by simp) (by simp)
  have OD : Only [] w w1.drew := O1.drew
  have az : Cells w1.drew z 36 x.cells := a1
  clear hl1 hw1 p2 p3 q0
  cases oi with
  | some i =>
    have hB : addB f x = false := by unfold addB; rw [hoi]; rfl
    have HD := Lib.hid d1
    have HO := Lib.hid OD
    clear d1 OD az a1 O1 h1 h
    go_wp2_with fail
    go_ret
    refine ⟨_, by rw [hB]; rfl, ?_, HO.out.of0, NewOf.refl _ _⟩
    unfold addF
    rw [hB]
    exact HD.out
  | none =>
  have p2 : w1.drew.cell? ⟨p, 2, none⟩ = _ := d1.cells.cell (k := 2) rfl
  by_cases h200 : f.ps.length = 200
  · have hB : addB f x = false := by unfold addB; rw [h200]; simp
    have HD := Lib.hid d1
    have HO := Lib.hid OD
    have e2 : ((f.ps.length : Int) == 200) = true := by rw [h200]; rfl
    clear d1 OD az a1 O1 h1 h
    go_wp2_with fail
    go_ret
    refine ⟨_, by rw [hB]; rfl, ?_, HO.out.of0, NewOf.refl _ _⟩
    unfold addF
    rw [hB]
    exact HD.out
  have hB : addB f x = true := by unfold addB; rw [hoi]; simp [h200]
  have e2 : ((f.ps.length : Int) == 200) = false := by simp; omega
  obtain ⟨w2, hw2⟩ : ∃ w2, w1.drew = w2 := ⟨_, rfl⟩
  rw [hw2] at d1 OD az p2 ⊢
  have p3 : w2.cell? ⟨p, 3, none⟩ = _ := d1.cells.cell (k := 3) rfl
  have q0 : w2.cell? ⟨z, 0, none⟩ = _ := az.cell (k := 0) rfl
  obtain ⟨w3, hst, hm3, ht3⟩ := (d1.map.block (w' := w2.drew) rfl).store (t := 97) (e := 3) Try.underlying97 (by unfold maxLen; omega) x.id hx.id (.int .i64 (f.ps.length : Int))
  have hO3 := mapTurned_only ht3
  have hns : (atF f.ps x.id).isSome = false := by rw [hat]; rfl
  rw [hns] at hm3
  have hm3 : MapF w3 m (f.ps.length + 1) (fun k' => if k' = x.id then some (.int .i64 (f.ps.length : Int)) else atF f.ps k') := hm3
  have hpm := d1.pm
  have hvm := d1.vm
  have hvp := d1.vp
  have c3 : Cells w3 p 99 _ := Cells.only (S := [m]) (a := w2.drew) d1.cells hO3 (by simpa using hpm)
  have r3 : w3.ownsRow 0 38 5 (.slice A f.ps.length c) f.ps.length (poL f.ps) := own_keep (S := [m]) (w := w2.drew) d1.row hO3 (by simpa using hvm)
  have hzm : z ≠ m := by
    intro e
    obtain ⟨D, ⟨es, clock, hh, _⟩, _⟩ := d1.map.ex
    unfold Cells at az
    rw [e, hh] at az
    cases az
  have hzp : z ≠ p := by omega
  have z3 : Cells w3 z 36 x.cells := Cells.only (S := [m]) (a := w2.drew) az hO3 (by simpa using hzm)
  have HZ3 := Lib.hid z3
  have HC3 := Lib.hid c3
  have HR3 := Lib.hid r3
  have HR3d : Hid (w3.drew.ownsRow 0 38 5 (.slice A f.ps.length c) f.ps.length (poL f.ps)) := Lib.hid r3
  have HM3 := Lib.hid hm3
  have HO3 : Hid (Only [m] w w3) := Lib.hid ((OD.drew).of0.trans hO3 (by simp))
  clear c3 r3 hm3 z3 ht3 hO3 d1 OD az a1 O1 h1
  go_wp2_with fail
  go_still_tail 11, (by kernel_rfl)
  change wpList _ _ _ _ _ w2.drew
  go_wp2_with fail
  clear hst p2 p3 q0
  have c2 := HC3.out.cell (k := 2) rfl
  have z0 := HZ3.out.cell (k := 0) rfl
  have z1 := HZ3.out.cell (k := 1) rfl
  have z2 := HZ3.out.cell (k := 2) rfl
  have hsz : 0 < w3.heap.size := by have := HZ3.out.lt; omega
  have hple := HC3.out.lt
  obtain ⟨n, hn⟩ : ∃ n, f.ps.length = n := ⟨_, rfl⟩
  rw [hn] at c2 hcap HR3 HR3d hvp hvm HC3
  have hwr : IntKind.i64.wrap ((n : Int) + 1) = (n : Int) + 1 := by rw [IntKind.wrap_i64]; omega
  go_region_law (go_loud (refine step_append_lies ((w3.alloc (.cells #[.int .i64 ((n : Int) + 1), .string ⟨x.id.toArray⟩, .string ⟨x.ti.toArray⟩, .string ⟨x.li.toArray⟩, .bool false] 38)).drew) (by rfl) _ _ 27 (by rfl) 0 38 i0 _ 5 64 Try.underlying27 hi0 hz0 hz1 hz2 rfl (by omega) (.slice A n c) n (poL f.ps) (by rfl) (World.ownsRow.alloc HR3.out _) ⟨w3.heap.size, 0, none⟩ 1 1 [.int .i64 ((n : Int) + 1), .string ⟨x.id.toArray⟩, .string ⟨x.ti.toArray⟩, .string ⟨x.li.toArray⟩, .bool false] (by rfl) (by rfl) (lit4 (Cells.new w3 38 [.int .i64 ((n : Int) + 1), .string ⟨x.id.toArray⟩, .string ⟨x.ti.toArray⟩, .string ⟨x.li.toArray⟩, .bool false])) (by simp [Value.oneCell']) (by omega) (by unfold maxLen; omega) (by omega) (Nat.zero_le _) (w3.heap.size + 1) (by simp) ?_; intro g9 cap9 w9 hown9 hgrow hat9 hgl1; have hc9 : Cells w9 p 99 _ := Cells.grown (w := (w3.alloc (.cells #[.int .i64 ((n : Int) + 1), .string ⟨x.id.toArray⟩, .string ⟨x.ti.toArray⟩, .string ⟨x.li.toArray⟩, .bool false] 38)).drew) (Cells.drew (Cells.alloc HC3.out _)) hgrow hvp; have p9 := hc9.cell (k := 2) rfl; have f9 := hc9.frozen 2; have l9 := hc9.lt))
  all_goals
    have hvm9 : (Value.slice (some ⟨g9, 0, none⟩) (n + 1) cap9).ownBlock ≠ some p := own_ne_block hown9 hc9 (by decide)
    have hm9 := (HM3.out.block (w' := (w3.alloc (.cells #[.int .i64 ((n : Int) + 1), .string ⟨x.id.toArray⟩, .string ⟨x.ti.toArray⟩, .string ⟨x.li.toArray⟩, .bool false] 38)).drew) (Below.heap_alloc w3 _ m HM3.out.lt)).grown hgrow (by simpa using fun e => hvm e.symm)
    have HW : Only [p] w9 (w9.setCell ⟨p, 2, none⟩ (.slice (some ⟨g9, 0, none⟩) (n + 1) cap9)) := (Only.refl _ _).setCell (.inl (by simp)) _
    have ho9 : Only ([p, m] ++ rb (.slice A n c)) w w9 := (((HO3.out.alloc _).drew).mono (by simp)).trans (w := (w3.alloc (.cells #[.int .i64 ((n : Int) + 1), .string ⟨x.id.toArray⟩, .string ⟨x.ti.toArray⟩, .string ⟨x.li.toArray⟩, .bool false] 38)).drew) (grown_only hgrow) (by intro y hy; exact .inl (by simp at hy ⊢; simp [hy]))
    have hfin : FdAt (w9.setCell ⟨p, 2, none⟩ (.slice (some ⟨g9, 0, none⟩) (n + 1) cap9)) p m (.slice (some ⟨g9, 0, none⟩) (n + 1) cap9) (addF f x) := by
      unfold addF
      rw [hB]
      refine ⟨hc9.set 2 _, ?_, ?_, ?_, ?_⟩
      · have := own_keep hown9 HW (by simpa using hvm9)
        show World.ownsRow _ _ _ _ _ (f.ps ++ [_]).length (poL (f.ps ++ [_]))
        rw [List.length_append, poL_append, hn]
        exact this
      · show MapF _ m (f.ps ++ [_]).length (atF (f.ps ++ [_]))
        rw [atF_snoc _ ⟨(f.ps.length : Int) + 1, x, false⟩ hoi, List.length_append]
        exact hm9.only HW (by simpa using fun e => hpm e.symm)
      · show (f.ps ++ [_]).length ≤ 200
        rw [List.length_append, hn]; simp; omega
      · exact h.nb
    have HF := Lib.hid hfin
    have HOF := Lib.hid (ho9.trans HW (by intro y hy; simp at hy; exact .inl (by simp [hy])))
    have HNW : Hid (NewOf w (.slice A n c) (.slice (some ⟨g9, 0, none⟩) (n + 1) cap9)) := Lib.hid (fun g hg => by
        rcases hat9 with h | h
        · left; rw [h, ← hg]; rfl
        · right; have := HO3.out.size; simp [Value.ownBlock] at hg; omega)
    clear hfin ho9 HW hm9 hvm9 hown9 hgrow hat9 hgl1 hc9 p9 f9 l9 c2 z0 z1 z2
    go_wp2_with fail
    go_ret
    exact ⟨_, by rw [hB]; rfl, HF.out, by rw [hn]; exact HOF.out, by rw [hn]; exact HNW.out⟩
end Go.Proofs.Ytjfnkjpnjiobjaa
