/-
  What StoreReads leans on, part 6: contracts of the functions that it reaches, and plain facts; each theorem bears its own conditions.
-/
import Derived.Laws.StructEq
import Derived.Laws.IdiomStrings
import Derived.Test.YtjfnkjpnjiobjaaGreatStoreReadsE
namespace Go.Proofs.YtjfnkjpnjiobjaaGreat
open Go.RowKit
/-- Appending any slice, a nil one too, to an own row. -/
theorem wpList_appG {P : Program} {ops : Array Oper} {rest : List Oper} {o : Oper} {a : Act} {Q : Exit → Act → World → Prop} (hgd : o.guard = none) (s x : Operand) (t : TypeId)
    (ho : o.op = .call { callee := .builtin .append, args := #[s, x], argTypes := #[t, t] })
    (base : Nat) (e : TypeId) (i : TypeInfo) (z : Value) (size bytes : Nat) (ht : P.underlying t = some (.slice e)) (hi : P.info? e = some i) (hz : i.zero = some z)
    (hsize : i.size = size) (hby : i.bytes = bytes) (hzs : z.cells.size = size) (hsz : 0 < size) (w : World)
    (v : Value) (n : Nat) (xs : List Value) (hs : a.eval s = v) (hown : w.ownsRow base e size v n xs)
    (B m : Nat) (cs : List Value) (A : Option Addr) (c : Nat) (hx : a.eval x = .slice A m c) (hu : SlAt w B (.slice A m c) size m cs) (h1 : ∀ u ∈ cs, u.oneCell' = true)
    (h63 : n + m ≤ maxLen) (hbytes : (n + m) * bytes ≤ 140737488355328) (hbase : base ≤ w.heap.size)
    (h : ∀ v' w', w'.ownsRow base e size v' (n + m) (xs ++ cs) → w.grownBy w' v.ownBlock → wpList P ops Q rest (a.put o.dst v') w') :
    wpList P ops Q (o :: rest) a w := by
  cases A with
  | some A => exact wpList_appX hgd s x t ho base e i z size bytes ht hi hz hsize hby hzs hsz w v n xs hs hown B m cs A c hx hu h1 h63 hbytes hbase h
  | none =>
    have hm := sl_nil hu hsz
    subst hm
    have hcs : cs = [] := List.eq_nil_of_length_eq_zero (by simpa using hu.1)
    subst hcs
    have hr : (Builtin.append_ #[t, t] o.type #[v, .slice none 0 c]).run P w = .ok v w := by
      rcases hown.2 with ⟨rfl, rfl⟩ | ⟨g, cap, cur, rfl, _, _, hnc, _⟩
      · simp [Builtin.append_, run_underlying ht, sizeOf, typeInfo, hi, Builtin.lenOf, Builtin.firstCells, loadCells, loadCellsFrom]
      · have : n ≤ cap := hnc
        simp [Builtin.append_, run_underlying ht, sizeOf, typeInfo, hi, Builtin.lenOf, Builtin.firstCells, this, storeCells]
    refine wpList_plain hgd fun _ hK => ?_
    unfold Oper.wp execOp
    simp only [ho, resolve, invoke, builtin, Sem.run_bind, Sem.run_pure, Result.andThen_ok, List.map_toArray, List.map_cons, List.map_nil, hs, hx, hr]
    exact hK _ _ (h v w (by simpa using hown) ⟨rfl, rfl, rfl, Nat.le_refl _, fun _ _ _ => rfl⟩)
def allF (o : Option Pl) : List Po := o.elim [] (·.fd.ps)
theorem allF_page (o : Option Pl) (j : Nat) : (allF o).take (50 * j) ++ lsV o ((50 * j : Nat) : Int) = (allF o).take (50 * (j + 1)) := by
  cases o with
  | none => simp [allF, lsV]
  | some t =>
    show t.fd.ps.take (50 * j) ++ (t.fd.ps.drop (min (max ((50 * j : Nat) : Int) 0).toNat t.fd.ps.length)).take 50 = t.fd.ps.take (50 * (j + 1))
    rw [show (max ((50 * j : Nat) : Int) 0).toNat = 50 * j from by omega]
    by_cases h : 50 * j ≤ t.fd.ps.length
    · rw [Nat.min_eq_left h, show 50 * (j + 1) = 50 * j + 50 from by omega, List.take_add]
    · have e1 : t.fd.ps.take (50 * j) = t.fd.ps := List.take_of_length_le (by omega)
      have e2 : t.fd.ps.take (50 * (j + 1)) = t.fd.ps := List.take_of_length_le (by omega)
      rw [Nat.min_eq_right (by omega), List.drop_eq_nil_of_le (Nat.le_refl _), e1, e2]
      simp
theorem allF_len {w : World} {b mb : Nat} {T : List Pl} (h : StX w b mb T) (k : List UInt8) : (allF (fT T k)).length ≤ 200 := by
  cases hf : fT T k with
  | none => simp [allF]
  | some t => exact (h.fds t (fT_mem hf).1).cap
end Go.Proofs.YtjfnkjpnjiobjaaGreat
namespace Go.Proofs.YtjfnkjpnjiobjaaGreat
theorem wide64_of_wf {n : Int} (h : (Lit.int .i64 n).wf = true) : Wide64 n := by
  simp [Lit.wf, IntKind.min, IntKind.max, IntKind.signed, IntKind.bits] at h
  exact ⟨by omega, by omega⟩
end Go.Proofs.YtjfnkjpnjiobjaaGreat
namespace Go.Proofs.YtjfnkjpnjiobjaaGreat
open Go.RowKit Go.ChangeShapes Go.WideShapes Go.Deep
section
variable {H : Type} {enc : TypeId × Value → H} {P : Program} {w : World} {base : Nat} {spare : Nat → Bool} {held : Bool}
theorem open_structs_in {t e : TypeId} {fs : Array Field} {v : Value} {fuel : Nat} {yy : DataW H × List MemPlace} (ht : P.underlying t = some (.slice e)) (he : P.underlying e = some (.struct fs))
    (hone : oneCellFields P fs = true) (hC : P.cellsOf e = fs.size) (hf : DataW.trod enc P w base spare held fuel t [v] = some yy) :
    ∃ n xs, SlAt w w.heap.size v fs.size n xs ∧ ∀ i, i < n → ∀ (j : Nat) (f : Field), fs[j]? = some f → ∃ u y m, xs[i * fs.size + j]? = some u ∧ DataW.trod enc P w base spare held m f.type [u] = some y := by
  rcases open_slice ht hf with ⟨hcs, _⟩ | ⟨a, len, cap, m, n, D, Pl, hcs, hb, hl, hm, hmm, hx, hi⟩
  · simp at hcs
    subst hcs
    exact ⟨0, [], ⟨by simp, none, 0, rfl, by omega, by simp [maxLen], fun h => by simp at h⟩, fun i hi => by omega⟩
  · simp at hcs
    subst hcs
    have hlm : len ≤ m := by rw [hmm]; split <;> omega
    have key : ∀ i, i < len → ∀ (j : Nat) (f : Field), fs[j]? = some f → ∃ u y m, w.cell? (a.add (i * fs.size + j)) = some u ∧ DataW.trod enc P w base spare held m f.type [u] = some y := by
      intro i hil j f hj
      obtain ⟨cs', hc, ht'⟩ := hi i (by omega)
      rw [hC] at hc
      obtain ⟨ys, n', hn', hy, hlen, hyl, hf'⟩ := DataW.trod_struct he ht'
      obtain ⟨_, hcl, hat⟩ := World.cells?_some hc
      obtain ⟨ho, hk⟩ := hone_of hone j f hj
      have hjl : j < fs.size := (Array.getElem?_eq_some_iff.1 hj).1
      have hcell := hat j hjl
      have hv : cs'[j]? = some (cs'[j]'(by omega)) := List.getElem?_eq_getElem (by omega)
      have h1 := hf' j f hj
      rw [ho, hk] at h1
      have hone' : (cs'.drop j).take 1 = [cs'[j]'(by omega)] := by
        rw [List.drop_eq_getElem_cons (by omega)]
        rfl
      rw [hone'] at h1
      have hys : ys[j]? = some (ys[j]'(by omega)) := List.getElem?_eq_getElem (by omega)
      refine ⟨cs'[j]'(by omega), _, _, ?_, h1.trans hys⟩
      rw [← Go.Deep.add_add, hcell, hv]
    by_cases hz : 0 < len * fs.size
    · have hfs : 0 < fs.size := by rcases Nat.eq_zero_or_pos fs.size with h0 | h0; · simp [h0] at hz
                                   · exact h0
      have hlen : 0 < len := by rcases Nat.eq_zero_or_pos len with h0 | h0; · simp [h0] at hz
                                · exact h0
      obtain ⟨u0, _, _, hc0, _⟩ := key 0 hlen 0 fs[0] (Array.getElem?_eq_getElem hfs)
      have ha : a = ⟨a.block, a.off, none⟩ := by simpa [Addr.add] using cell_spot hc0
      have hblt : a.block < w.heap.size := by simpa [Addr.add] using World.block_lt_of_cell? w _ hc0
      have hadd : ∀ k, a.add k = ⟨a.block, a.off + k, none⟩ := by
        intro k; rw [ha]; unfold Addr.add; by_cases hk : k = 0 <;> simp [hk]
      refine ⟨len, (List.range (len * fs.size)).map fun k => (w.cell? ⟨a.block, a.off + k, none⟩).getD undef, ⟨by simp, some a, cap, rfl, hl, hm, fun _ => ⟨a.block, a.off, by rw [← ha], hblt, fun j u hu => ?_⟩⟩, fun i hil j f hj => ?_⟩
      · simp only [List.getElem?_map] at hu
        have hjl : j < len * fs.size := by
          rcases Nat.lt_or_ge j (len * fs.size) with h0 | h0
          · exact h0
          · rw [List.getElem?_eq_none (by simpa using h0)] at hu; simp at hu
        rw [List.getElem?_range hjl] at hu
        simp only [Option.map_some, Option.some.injEq] at hu
        obtain ⟨u', _, _, hc', _⟩ := key (j / fs.size) ((Nat.div_lt_iff_lt_mul hfs).2 hjl) (j % fs.size) (fs[j % fs.size]'(Nat.mod_lt _ hfs)) (Array.getElem?_eq_getElem (Nat.mod_lt _ hfs))
        rw [Nat.mul_comm, Nat.div_add_mod, hadd] at hc'
        rw [hc'] at hu ⊢
        simpa using hu
      · obtain ⟨u, y, m', hc', hy⟩ := key i hil j f hj
        have hjl : j < fs.size := (Array.getElem?_eq_some_iff.1 hj).1
        have hlt : i * fs.size + j < len * fs.size := by
          have : (i + 1) * fs.size ≤ len * fs.size := Nat.mul_le_mul_right _ hil
          rw [Nat.succ_mul] at this; omega
        refine ⟨u, y, m', ?_, hy⟩
        rw [List.getElem?_map, List.getElem?_range hlt]
        rw [hadd] at hc'
        simp [hc']
    · refine ⟨len, [], ⟨by simp; omega, some a, cap, rfl, hl, hm, fun h => absurd h hz⟩, fun i hil j f hj => ?_⟩
      have hjl : j < fs.size := (Array.getElem?_eq_some_iff.1 hj).1
      exact absurd (Nat.mul_pos (by omega) (by omega)) hz
end
theorem ba_len (z : ByteArray) : z.data.toList.length = z.size := by simp
set_option maxRecDepth 100000 in
theorem open_items_in {H : Type} {enc : TypeId × Value → H} {w : World} {base : Nat} {spare : Nat → Bool} {held : Bool} {v : Value} {fuel : Nat} {yy : DataW H × List MemPlace}
    (h : DataW.trod enc Tryz.prog w base spare held fuel 33 [v] = some yy) : ∃ l : List It, SlAt w w.heap.size v 3 l.length (itL l) ∧ ∀ x ∈ l, x.Len := by
  obtain ⟨n, xs, hs, hx⟩ := open_structs_in Tryz.underlying33 Tryz.underlying45 (by kernel_rfl) (by kernel_rfl) h
  obtain ⟨l, hl, rfl, hg⟩ := flat_of It.cells 3 (fun _ => rfl) It.Len n xs hs.1 fun i hi => by
    obtain ⟨u0, y0, m0, e0, h0⟩ := hx i hi 0 _ rfl
    obtain ⟨u1, y1, m1, e1, h1⟩ := hx i hi 1 _ rfl
    obtain ⟨u2, y2, m2, e2, h2⟩ := hx i hi 2 _ rfl
    obtain ⟨z0, q0, _, w0⟩ := DataW.trod_string Tryz.underlying9 h0
    obtain ⟨z1, q1, _, w1⟩ := DataW.trod_string Tryz.underlying9 h1
    obtain ⟨z2, q2, _, w2⟩ := DataW.trod_string Tryz.underlying9 h2
    simp at q0 q1 q2
    subst q0; subst q1; subst q2
    refine ⟨⟨z0.data.toList, z1.data.toList, z2.data.toList⟩, ⟨by rw [ba_len]; exact w0, by rw [ba_len]; exact w1, by rw [ba_len]; exact w2⟩, fun j hj => ?_⟩
    match j, hj with
    | 0, _ => simpa [It.cells] using e0
    | 1, _ => simpa [It.cells] using e1
    | 2, _ => simpa [It.cells] using e2
  subst hl
  exact ⟨l, hs, hg⟩
end Go.Proofs.YtjfnkjpnjiobjaaGreat
namespace Go.Proofs.YtjfnkjpnjiobjaaGreat
open Go.RowKit Go.ChangeShapes Go.WideShapes Go.Deep
structure A17 where
  op : Int
  n : Int
  fd : List UInt8
  id : List UInt8
  iv : Value
  its : List It
def A17.cells (a : A17) : List Value := [.int .i64 a.op, .int .i64 a.n, .string ⟨a.fd.toArray⟩, .string ⟨a.id.toArray⟩, a.iv]
def A17.val (a : A17) : Value := .agg #[.int .i64 a.op, .int .i64 a.n, .string ⟨a.fd.toArray⟩, .string ⟨a.id.toArray⟩, a.iv]
structure A17.Ok (w : World) (a : A17) : Prop where
  op : Wide64 a.op
  n : Wide64 a.n
  fd : a.fd.length ≤ maxLen
  id : a.id.length ≤ maxLen
  its : SlAt w w.heap.size a.iv 3 a.its.length (itL a.its)
  len : ∀ x ∈ a.its, x.Len
def acL (l : List A17) : List Value := l.flatMap A17.cells
set_option maxRecDepth 100000 in
set_option maxHeartbeats 1000000 in
theorem open_acts17 {H : Type} {enc : TypeId × Value → H} {w : World} {base : Nat} {spare : Nat → Bool} {held : Bool} {r : Reach} {b0 : Nat} {v : Value} {d : DataW H} {p : List MemPlace}
    (hv : Value.okWide Tryz.prog w r b0 22 v) (h : DataW.Trod enc Tryz.prog w base spare held 22 v d p) :
    ∃ l : List A17, SlAt w w.heap.size v 5 l.length (acL l) ∧ ∀ a ∈ l, a.Ok w := by
  obtain ⟨n, xs, hs, hx⟩ := open_structs Tryz.underlying22 Tryz.underlying35 (by kernel_rfl) (by kernel_rfl) hv h
  obtain ⟨l, hl, rfl, hg⟩ := flat_of A17.cells 5 (fun _ => rfl) (A17.Ok w) n xs hs.1 fun i hi => by
    obtain ⟨u0, y0, m0, e0, h0⟩ := hx i hi 0 _ rfl
    obtain ⟨u1, y1, m1, e1, h1⟩ := hx i hi 1 _ rfl
    obtain ⟨u2, y2, m2, e2, h2⟩ := hx i hi 2 _ rfl
    obtain ⟨u3, y3, m3, e3, h3⟩ := hx i hi 3 _ rfl
    obtain ⟨u4, y4, m4, e4, h4⟩ := hx i hi 4 _ rfl
    obtain ⟨z0, q0, _, w0⟩ := DataW.trod_int Tryz.underlying3 h0
    obtain ⟨z1, q1, _, w1⟩ := DataW.trod_int Tryz.underlying3 h1
    obtain ⟨z2, q2, _, w2⟩ := DataW.trod_string Tryz.underlying9 h2
    obtain ⟨z3, q3, _, w3⟩ := DataW.trod_string Tryz.underlying9 h3
    obtain ⟨its, hi1, hi2⟩ := open_items_in h4
    simp at q0 q1 q2 q3
    subst q0; subst q1; subst q2; subst q3
    refine ⟨⟨z0, z1, z2.data.toList, z3.data.toList, u4, its⟩, ⟨wide64_of_wf w0, wide64_of_wf w1, by rw [ba_len]; exact w2, by rw [ba_len]; exact w3, hi1, hi2⟩, fun j hj => ?_⟩
    match j, hj with
    | 0, _ => exact e0
    | 1, _ => exact e1
    | 2, _ => simpa [A17.cells] using e2
    | 3, _ => simpa [A17.cells] using e3
    | 4, _ => exact e4
  subst hl
  exact ⟨l, hs, hg⟩
set_option maxRecDepth 100000 in
theorem open_items17 {H : Type} {enc : TypeId × Value → H} {w : World} {base : Nat} {spare : Nat → Bool} {held : Bool} {r : Reach} {b0 : Nat} {v : Value} {d : DataW H} {p : List MemPlace}
    (hv : Value.okWide Tryz.prog w r b0 33 v) (h : DataW.Trod enc Tryz.prog w base spare held 33 v d p) :
    ∃ l : List It, SlAt w w.heap.size v 3 l.length (itL l) ∧ ∀ x ∈ l, x.Len := by
  obtain ⟨a0, len, cap, rfl⟩ := okWide_slice Tryz.underlying33 hv
  obtain ⟨fuel, hf⟩ := h
  simp only [Value.cells] at hf
  exact open_items_in hf
end Go.Proofs.YtjfnkjpnjiobjaaGreat
namespace Go.Proofs.YtjfnkjpnjiobjaaGreat
open Go.RowKit
end Go.Proofs.YtjfnkjpnjiobjaaGreat
namespace Go.Proofs.YtjfnkjpnjiobjaaGreat
open Go.RowKit
def pkI (c n : Int) : Int := if c < 0 then -(c + 1) % n else c % n
theorem pkI_lt (c n : Int) (hn : 0 < n) : 0 ≤ pkI c n ∧ pkI c n < n := by
  unfold pkI
  split
  · exact ⟨Int.emod_nonneg _ (by omega), Int.emod_lt_of_pos _ hn⟩
  · exact ⟨Int.emod_nonneg _ (by omega), Int.emod_lt_of_pos _ hn⟩
theorem pick17 (c n : Int) (w : World) (hc : Wide64 c) (h0 : 1 ≤ n) (h1 : n ≤ 1000000000000) :
    Calls Tryz.prog 9 #[.int .i64 c, .int .i64 n] w fun e w' => e = .returned (.int .i64 (pkI c n)) ∧ w = w' := by
  obtain ⟨c0, c1⟩ := hc
  have hn : (n == 0) = false := by simp; omega
  by_cases h : c < 0
  · have h2 : 0 ≤ -(c + 1) := by omega
    have h2' : c ≤ -1 := by omega
    go_enter Tryz.func9, Tryz.ntmps9
    go_wp2
    go_ret
    exact ⟨by unfold pkI; rw [if_pos (by omega), ← Int.tmod_eq_emod_of_nonneg h2]; first | rfl | simp, rfl⟩
  · have h2 : 0 ≤ c := by omega
    have hd : decide (c < 0) = false := by simpa using h
    go_enter Tryz.func9, Tryz.ntmps9
    go_wp2
    go_ret
    exact ⟨by unfold pkI; rw [if_neg (by omega)]; simp, rfl⟩
set_option maxRecDepth 100000 in
set_option maxHeartbeats 1000000 in
theorem posts17 (v1 v2 : Value) (l : List Po) (w : World) (hs1 : SlAt w w.heap.size v1 5 l.length (poL l)) (hs2 : SlAt w w.heap.size v2 5 l.length (poL l)) (hl : l.length ≤ 1000000) :
    Calls Tryz.prog 14 #[v1, v2] w fun e w' => e = .returned (.bool true) ∧ Only [] w w' := by
  obtain ⟨A1, c1, rfl⟩ := hs1.shape
  obtain ⟨A2, c2, rfl⟩ := hs2.shape
  have H1 := Lib.hid hs1
  have H2 := Lib.hid hs2
  clear hs1 hs2
  go_enter Tryz.func14, Tryz.ntmps14
  go_wp2_with fail
  go_loopw [5] (fun i wr => ∃ k : Nat, k ≤ l.length ∧ i = .int .i64 k ∧ Hid (Only [] w wr)) (fun i _ => l.length - (intOf i).toNat)
  case atStart => exact ⟨0, by omega, rfl, Lib.hid (Only.refl _ _)⟩
  case round =>
    obtain ⟨k, hk, rfl, ho⟩ := hrel
    by_cases hlt : k < l.length
    · have hlt' : (k : Int) < (l.length : Int) := by omega
      obtain ⟨x, hx⟩ : ∃ x, l[k]? = some x := ⟨_, List.getElem?_eq_getElem hlt⟩
      obtain ⟨b1, o1, c1', e1, hb1, hc1⟩ := (H1.out.only ho.out (Nat.le_refl _) (by simp)).at_ (by omega)
      obtain ⟨b2, o2, c2', e2, hb2, hc2⟩ := (H2.out.only ho.out (Nat.le_refl _) (by simp)).at_ (by omega)
      injection e1 with i1 i2 i3
      injection e2 with j1 j2 j3
      subst i1; subst i3; subst j1; subst j3
      have q0 : wr.cell? ⟨b1, o1 + k * 5, none⟩ = some (.int .i64 x.sq) := hc1 (k * 5 + 0) _ (poL_get l k 0 x hx (by omega))
      have q1 : wr.cell? ⟨b1, o1 + k * 5 + 1, none⟩ = some (.string ⟨x.it.id.toArray⟩) := hc1 (k * 5 + 1) _ (poL_get l k 1 x hx (by omega))
      have q2 : wr.cell? ⟨b1, o1 + k * 5 + 2, none⟩ = some (.string ⟨x.it.ti.toArray⟩) := hc1 (k * 5 + 2) _ (poL_get l k 2 x hx (by omega))
      have q3 : wr.cell? ⟨b1, o1 + k * 5 + 3, none⟩ = some (.string ⟨x.it.li.toArray⟩) := hc1 (k * 5 + 3) _ (poL_get l k 3 x hx (by omega))
      have q4 : wr.cell? ⟨b1, o1 + k * 5 + 4, none⟩ = some (.bool x.rd) := hc1 (k * 5 + 4) _ (poL_get l k 4 x hx (by omega))
      have s0 : wr.cell? ⟨b2, o2 + k * 5, none⟩ = some (.int .i64 x.sq) := hc2 (k * 5 + 0) _ (poL_get l k 0 x hx (by omega))
      have s1 : wr.cell? ⟨b2, o2 + k * 5 + 1, none⟩ = some (.string ⟨x.it.id.toArray⟩) := hc2 (k * 5 + 1) _ (poL_get l k 1 x hx (by omega))
      have s2 : wr.cell? ⟨b2, o2 + k * 5 + 2, none⟩ = some (.string ⟨x.it.ti.toArray⟩) := hc2 (k * 5 + 2) _ (poL_get l k 2 x hx (by omega))
      have s3 : wr.cell? ⟨b2, o2 + k * 5 + 3, none⟩ = some (.string ⟨x.it.li.toArray⟩) := hc2 (k * 5 + 3) _ (poL_get l k 3 x hx (by omega))
      have s4 : wr.cell? ⟨b2, o2 + k * 5 + 4, none⟩ = some (.bool x.rd) := hc2 (k * 5 + 4) _ (poL_get l k 4 x hx (by omega))
      have p0 := fun u : Since wr => u.cell q0
      have p1 := fun u : Since wr => u.cell q1
      have p2 := fun u : Since wr => u.cell q2
      have p3 := fun u : Since wr => u.cell q3
      have p4 := fun u : Since wr => u.cell q4
      have r0 := fun u : Since wr => u.cell s0
      have r1 := fun u : Since wr => u.cell s1
      have r2 := fun u : Since wr => u.cell s2
      have r3 := fun u : Since wr => u.cell s3
      have r4 := fun u : Since wr => u.cell s4
      clear hx q0 q1 q2 q3 q4 s0 s1 s2 s3 s4 i2 j2 hc1 hc2
      go_wp2_with fail
      refine wp_region_only wr (Only.refl _ _) (by kernel_rfl) (by kernel_rfl) ?_
      repeat (go_big_quiet_step (fail))
      refine wpQuiet_nil ?_
      rintro ⟨w3, ho3⟩
      dsimp only
      have HO3 := Lib.hid (ho.out.tr ho3)
      clear p0 p1 p2 p3 p4 r0 r1 r2 r3 r4
      go_wp2_with fail
      go_roundw
      case rel => exact ⟨k + 1, by omega, by go_num, HO3⟩
      case measure => simp [intOf]; omega
    · have hd : decide ((k : Int) < (l.length : Int)) = false := by simp; omega
      go_wp2_with fail
      go_ret
      exact ⟨rfl, ho.out⟩
end Go.Proofs.YtjfnkjpnjiobjaaGreat
namespace Go.Proofs.YtjfnkjpnjiobjaaGreat
open Go.RowKit
structure SmI (x : It) : Prop where
  id : x.id.length ≤ 300
  ti : x.ti.length ≤ 300
  li : x.li.length ≤ 300
structure SmA (a : A17) : Prop where
  fd : a.fd.length ≤ 200
  id : a.id.length ≤ 500
  n : a.its.length ≤ 60
  its : ∀ x ∈ a.its, SmI x
structure Sm17 (l : List A17) : Prop where
  n : l.length ≤ 100
  al : ∀ a ∈ l, SmA a
theorem acL_get (l : List A17) (i j : Nat) (x : A17) (h : l[i]? = some x) (hj : j < 5) : (acL l)[i * 5 + j]? = x.cells[j]? := flat_get A17.cells 5 (fun _ => rfl) l i j x h hj
theorem A17.Ok.only {w w' : World} {a : A17} (h : a.Ok w) (ho : Only [] w w') : a.Ok w' := ⟨h.op, h.n, h.fd, h.id, (h.its.only ho (Nat.le_refl _) (by simp)).more ho.size, h.len⟩
theorem all_snoc {α : Type} {P : α → Prop} {l : List α} {k : Nat} {x : α} (h : l[k]? = some x) (h1 : ∀ a ∈ l.take k, P a) (hx : P x) : ∀ a ∈ l.take (k + 1), P a := by
  intro a ha
  rw [List.take_add_one, h] at ha
  rcases List.mem_append.1 ha with ha | ha
  · exact h1 a ha
  · simp at ha; subst ha; exact hx
theorem acL_at {w : World} {B : Nat} {v : Value} {l : List A17} (h : SlAt w B v 5 l.length (acL l)) {k : Nat} {a : A17} (hk : l[k]? = some a) :
    ∃ b o c, v = .slice (some ⟨b, o, none⟩) l.length c ∧ w.cell? ⟨b, o + k * 5, none⟩ = some (.int .i64 a.op) ∧ w.cell? ⟨b, o + k * 5 + 1, none⟩ = some (.int .i64 a.n) ∧ w.cell? ⟨b, o + k * 5 + 2, none⟩ = some (.string ⟨a.fd.toArray⟩) ∧ w.cell? ⟨b, o + k * 5 + 3, none⟩ = some (.string ⟨a.id.toArray⟩) ∧ w.cell? ⟨b, o + k * 5 + 4, none⟩ = some a.iv := by
  have hlt : k < l.length := (List.getElem?_eq_some_iff.1 hk).1
  obtain ⟨b, o, c, hv, _, hc⟩ := h.at_ (by omega)
  exact ⟨b, o, c, hv, hc (k * 5 + 0) _ (acL_get l k 0 a hk (by omega)), hc (k * 5 + 1) _ (acL_get l k 1 a hk (by omega)), hc (k * 5 + 2) _ (acL_get l k 2 a hk (by omega)), hc (k * 5 + 3) _ (acL_get l k 3 a hk (by omega)), hc (k * 5 + 4) _ (acL_get l k 4 a hk (by omega))⟩
def SmR (l : List A17) (w : World) (e : Ending) (w' : World) : Prop := ∃ bo, e = .returned (.bool bo) ∧ (bo = true → Sm17 l) ∧ Only [] w w'
theorem SmR.no {l : List A17} {w w' : World} (ho : Only [] w w') : SmR l w (.returned (.bool false)) w' := ⟨false, rfl, fun h => (by cases h), ho⟩
set_option maxRecDepth 100000 in
set_option maxHeartbeats 2000000 in
theorem small17 (v : Value) (l : List A17) (w : World) (hs : SlAt w w.heap.size v 5 l.length (acL l)) (hok : ∀ a ∈ l, a.Ok w) :
    Calls Tryz.prog 5 #[v] w (SmR l w) := by
  obtain ⟨A, c, rfl⟩ := hs.shape
  have hll : l.length ≤ 9223372036854775807 := by obtain ⟨_, _, _, _, h1, h2, _⟩ := hs; unfold maxLen at h2; omega
  have HS := Lib.hid hs
  have HK := Lib.hid hok
  clear hs hok
  by_cases h100 : 100 < l.length
  · have d1 : decide ((100 : Int) < (l.length : Int)) = true := by simp; omega
    go_enter Tryz.func5, Tryz.ntmps5
    go_wp2_with fail
    go_ret
    exact SmR.no (Only.refl _ _)
  have d1 : decide ((100 : Int) < (l.length : Int)) = false := by simp; omega
  go_enter Tryz.func5, Tryz.ntmps5
  go_wp2_with fail
  go_loopw [3] (fun i wr => ∃ k : Nat, k ≤ l.length ∧ i = .int .i64 k ∧ Hid (∀ a ∈ l.take k, SmA a) ∧ Hid (Only [] w wr)) (fun i _ => l.length - (intOf i).toNat)
  case atStart => exact ⟨0, by omega, rfl, Lib.hid (by simp), Lib.hid (Only.refl _ _)⟩
  case round =>
    obtain ⟨k, hk, rfl, hall, ho⟩ := hrel
    obtain ⟨wo, rfl⟩ : ∃ wo, wo = wr := ⟨_, rfl⟩
    by_cases hlt : k < l.length
    · have hlt' : decide ((k : Int) < (l.length : Int)) = true := by simp; omega
      have hlt2 : (k : Int) < (l.length : Int) := by omega
      obtain ⟨a, ha⟩ : ∃ a, l[k]? = some a := ⟨_, List.getElem?_eq_getElem hlt⟩
      have HA := Lib.hid ((HK.out a (List.mem_of_getElem? ha)).only ho.out)
      obtain ⟨b, o, c', hv, q0, q1, q2, q3, q4⟩ := acL_at (HS.out.only ho.out (Nat.le_refl _) (by simp)) ha
      obtain ⟨IA, ic, hiv⟩ := HA.out.its.shape
      have hil : a.its.length ≤ 9223372036854775807 := by obtain ⟨_, _, _, _, h1, h2, _⟩ := HA.out.its; unfold maxLen at h2; omega
      have hfl := HA.out.fd
      have hdl := HA.out.id
      unfold maxLen at hfl hdl
      have HAT := Lib.hid ha
      rw [hiv] at q4
      injection hv with e1 e2 e3
      subst e1; subst e3
      clear e2 ha
      by_cases h1 : 200 < a.fd.length
      · have f1 : decide ((200 : Int) < (a.fd.length : Int)) = true := by simp; omega
        go_wp2_with fail
        go_ret
        exact SmR.no ho.out
      have f1 : decide ((200 : Int) < (a.fd.length : Int)) = false := by simp; omega
      by_cases h2 : 500 < a.id.length
      · have f2 : decide ((500 : Int) < (a.id.length : Int)) = true := by simp; omega
        go_wp2_with fail
        go_ret
        exact SmR.no ho.out
      have f2 : decide ((500 : Int) < (a.id.length : Int)) = false := by simp; omega
      by_cases h3 : 60 < a.its.length
      · have f3 : decide ((60 : Int) < (a.its.length : Int)) = true := by simp; omega
        go_wp2_with fail
        go_ret
        exact SmR.no ho.out
      have f3 : decide ((60 : Int) < (a.its.length : Int)) = false := by simp; omega
      have HIV := Lib.hid hiv
      have HHS : Hid (SlAt wo w.heap.size (.slice (some ⟨b, o, none⟩) l.length c) 5 l.length (acL l)) := Lib.hid (HS.out.only ho.out (Nat.le_refl _) (by simp))
      clear q0 q1 hiv
      go_wp2_with fail
      go_loopw [4] (fun i wq => ∃ j : Nat, j ≤ a.its.length ∧ i = .int .i64 j ∧ Hid (∀ x ∈ a.its.take j, SmI x) ∧ Hid (Only [] wo wq)) (fun i _ => a.its.length - (intOf i).toNat)
      case atStart => exact ⟨0, by omega, rfl, Lib.hid (by simp), Lib.hid (Only.refl _ _)⟩
      case round =>
        obtain ⟨j, hj, rfl, hall2, hoq⟩ := hrel
        obtain ⟨wq, rfl⟩ : ∃ wq, wq = wr := ⟨_, rfl⟩
        obtain ⟨b2, o2, c2, hv2, _, _, _, _, s4⟩ := acL_at (HHS.out.only hoq.out ho.out.size (by simp)) HAT.out
        rw [HIV.out] at s4
        injection hv2 with g1 g2 g3
        injection g1 with g1
        injection g1 with g4 g5 g6
        subst g4; subst g5
        have hoo := Lib.hid (ho.out.tr hoq.out)
        by_cases hjl : j < a.its.length
        · have hj' : decide ((j : Int) < (a.its.length : Int)) = true := by simp; omega
          have hj2 : (j : Int) < (a.its.length : Int) := by omega
          obtain ⟨x, hx⟩ : ∃ x, a.its[j]? = some x := ⟨_, List.getElem?_eq_getElem hjl⟩
          obtain ⟨ib, io, ic', hv3, x0, x1, x2⟩ := itL_at (HA.out.only hoq.out).its hx
          rw [HIV.out] at hv3
          injection hv3 with k1 k2 k3
          subst k1; subst k3
          have hxl := HA.out.len x (List.mem_of_getElem? hx)
          have n0 := hxl.id
          have n1 := hxl.ti
          have n2 := hxl.li
          unfold maxLen at n0 n1 n2
          have HXT := Lib.hid hx
          clear hx k2 g3 g6 hxl q2 q3 q4
          obtain ⟨w2, hw2⟩ : ∃ w2, wq.alloc (.cells #[.string ⟨x.id.toArray⟩, .string ⟨x.ti.toArray⟩, .string ⟨x.li.toArray⟩] 45) = w2 := ⟨_, rfl⟩
          have hO2 : Only [] wq w2 := hw2 ▸ (Only.refl _ _).alloc _
          obtain ⟨z, hz⟩ : ∃ z, wq.heap.size = z := ⟨_, rfl⟩
          have hzc : Cells w2 z 45 x.cells := hw2 ▸ hz ▸ Cells.new wq _ _
          have z0 := hzc.cell (k := 0) rfl
          have z1 := hzc.cell (k := 1) rfl
          have z2 := hzc.cell (k := 2) rfl
          have HO2 := Lib.hid (hoq.out.tr hO2)
          have HOO := Lib.hid (hoo.out.tr hO2)
          clear hzc hO2
          by_cases m0 : 300 < x.id.length
          · have t0 : decide ((300 : Int) < (x.id.length : Int)) = true := by simp; omega
            go_wp2_with fail
            go_ret
            exact SmR.no HOO.out
          have t0 : decide ((300 : Int) < (x.id.length : Int)) = false := by simp; omega
          by_cases m1 : 300 < x.ti.length
          · have t1 : decide ((300 : Int) < (x.ti.length : Int)) = true := by simp; omega
            go_wp2_with fail
            go_ret
            exact SmR.no HOO.out
          have t1 : decide ((300 : Int) < (x.ti.length : Int)) = false := by simp; omega
          by_cases m2 : 300 < x.li.length
          · have t2 : decide ((300 : Int) < (x.li.length : Int)) = true := by simp; omega
            go_wp2_with fail
            go_ret
            exact SmR.no HOO.out
          have t2 : decide ((300 : Int) < (x.li.length : Int)) = false := by simp; omega
          have HX2 := Lib.hid (all_snoc HXT.out hall2.out ⟨by omega, by omega, by omega⟩)
          go_wp2_with fail
          go_roundw
          case rel => exact ⟨j + 1, by omega, by go_num, HX2, HO2⟩
          case measure => simp [intOf]; omega
        · have hj' : decide ((j : Int) < (a.its.length : Int)) = false := by simp; omega
          obtain rfl : j = a.its.length := by omega
          have HX2 := Lib.hid (all_snoc HAT.out hall.out ⟨by omega, by omega, by omega, by have := hall2.out; rwa [List.take_length] at this⟩)
          go_wp2_with fail
          go_roundw
          case rel => exact ⟨k + 1, by omega, by go_num, HX2, hoo⟩
          case measure => simp [intOf]; omega
    · have hlt' : decide ((k : Int) < (l.length : Int)) = false := by simp; omega
      obtain rfl : k = l.length := by omega
      have HF := Lib.hid (⟨by omega, by have := hall.out; rwa [List.take_length] at this⟩ : Sm17 l)
      go_wp2_with fail
      go_ret
      exact ⟨true, rfl, fun _ => HF.out, ho.out⟩
end Go.Proofs.YtjfnkjpnjiobjaaGreat
namespace Go.Proofs.YtjfnkjpnjiobjaaGreat
open Go.RowKit
def D17q (q : Int) (S : Sv) (a : A17) : Int × List Po × Int × Sv :=
  if q = 0 then (0, [], subS S a.fd)
  else if q = 1 then (0, [], subS S a.fd)
  else if q = 2 then (0, [], unS S a.fd)
  else if q = 7 then (0, [], failS S a.fd a.n)
  else if q = 8 then (0, [], markS S a.fd a.id)
  else if q = 9 then (0, (listS S a.fd a.n).1, (listS S a.fd a.n).2, S)
  else ((ingR S a.fd a.its a.n).1, [], (ingR S a.fd a.its a.n).2)
def D17 (S : Sv) (a : A17) : Int × List Po × Int × Sv := D17q (pkI a.op 10) S a
/-- What an act's answer is. -/
def DoesW (w : World) (b : Nat) (O : List Nat) (D : Int × List Po × Int × Sv) (e : Ending) (w' : World) : Prop :=
  ∃ v' O', e = .returned (.tuple #[.int .i64 D.1, v', .int .i64 D.2.2.1]) ∧ w'.ownsRow w.heap.size 52 5 v' D.2.1.length (poL D.2.1) ∧ (∀ g, v'.ownBlock = some g → g ∉ O') ∧ St w' b O' D.2.2.2 ∧ Only O w w' ∧ ∀ x ∈ O', x ∈ O ∨ w.heap.size ≤ x
theorem DoesW.of {w w' : World} {b : Nat} {O : List Nat} {n r : Int} {S : Sv} {e : Ending} (he : e = .returned (.tuple #[.int .i64 n, .slice none 0 0, .int .i64 r])) (h : OpS w w' b O S) : DoesW w b O (n, [], r, S) e w' := by
  obtain ⟨O', h1, h2, h3⟩ := h
  exact ⟨_, O', he, World.ownsRow_nil _ _ _ _, fun g hg => by simp [Value.ownBlock] at hg, h1, h2, h3⟩
theorem OpS.pre {w0 w w' : World} {b : Nat} {O : List Nat} {S : Sv} (h : OpS w w' b O S) (h0 : Only [] w0 w) : OpS w0 w' b O S := by
  obtain ⟨O', h1, h2, h3⟩ := h
  exact ⟨O', h1, (h0.of0).trans h2 (fun x hx => .inl hx), fun x hx => (h3 x hx).imp id (fun h => Nat.le_trans h0.size h)⟩
end Go.Proofs.YtjfnkjpnjiobjaaGreat
namespace Go.Proofs.YtjfnkjpnjiobjaaGreat
open Go.RowKit
/-- What an act's answer is, of the document's store. -/
def ModelW (w : World) (b : Nat) (O : List Nat) (D : Int × List Po × Int × Sv) (e : Ending) (w' : World) : Prop :=
  ∃ v' O', e = .returned (.tuple #[.int .i64 D.1, v', .int .i64 D.2.2.1]) ∧ w'.ownsRow w.heap.size 52 5 v' D.2.1.length (poL D.2.1) ∧ (∀ g, v'.ownBlock = some g → g ∉ O') ∧ Rs w' b O' D.2.2.2 ∧ Only O w w' ∧ ∀ x ∈ O', x ∈ O ∨ w.heap.size ≤ x
theorem ModelW.of {w w' : World} {b : Nat} {O : List Nat} {n r : Int} {S : Sv} {e : Ending} (he : e = .returned (.tuple #[.int .i64 n, .slice none 0 0, .int .i64 r])) (h : OpR w w' b O S) : ModelW w b O (n, [], r, S) e w' := by
  obtain ⟨O', h1, h2, h3⟩ := h
  exact ⟨_, O', he, World.ownsRow_nil _ _ _ _, fun g hg => by simp [Value.ownBlock] at hg, h1, h2, h3⟩
set_option maxRecDepth 100000 in
set_option maxHeartbeats 2000000 in
theorem model17 (b : Nat) (O : List Nat) (S : Sv) (a : A17) (w : World) (h : Rs w b O S) (hI : SvI S) (ho : Wide64 a.op) (hfd : a.fd.length ≤ maxLen) (hl : a.its.length ≤ 1000000) (hx : ∀ x ∈ a.its, x.Len) (hs : ∀ w', Only O w w' → SlAt w' w'.heap.size a.iv 3 a.its.length (itL a.its)) :
    Calls Tryz.prog 6 #[.pointer (some ⟨b, 0, none⟩), .agg #[.int .i64 a.op, .int .i64 a.n, .string ⟨a.fd.toArray⟩, .string ⟨a.id.toArray⟩, a.iv]] w (ModelW w b O (D17 S a)) := by
  obtain ⟨IA, ic, hiv⟩ := (hs w (Only.refl _ _)).shape
  rw [hiv] at hs ⊢
  obtain ⟨w1, hw1⟩ : ∃ w1, w.alloc (.cells #[.int .i64 a.op, .int .i64 a.n, .string ⟨a.fd.toArray⟩, .string ⟨a.id.toArray⟩, .slice IA a.its.length ic] 35) = w1 := ⟨_, rfl⟩
  obtain ⟨z, hz⟩ : ∃ z, w.heap.size = z := ⟨_, rfl⟩
  have O1 : Only [] w w1 := hw1 ▸ (Only.refl _ _).alloc _
  have a1 : Cells w1 z 35 [.int .i64 a.op, .int .i64 a.n, .string ⟨a.fd.toArray⟩, .string ⟨a.id.toArray⟩, .slice IA a.its.length ic] := hw1 ▸ hz ▸ Cells.new w _ _
  have h1 := h.keep O1 (by simp)
  have c0 := a1.cell (k := 0) rfl
  have c1 := a1.cell (k := 1) rfl
  have c2 := a1.cell (k := 2) rfl
  have c3 := a1.cell (k := 3) rfl
  have c4 := a1.cell (k := 4) rfl
  have CK := Lib.hid (fun w' => pick17 a.op 10 w' ho (by omega) (by omega))
  have hq := pkI_lt a.op 10 (by omega)
  have hD : D17 S a = D17q (pkI a.op 10) S a := rfl
  rw [hD]
  obtain ⟨q, hqq⟩ : ∃ q, pkI a.op 10 = q := ⟨_, rfl⟩
  rw [hqq] at CK hq ⊢
  have CSub := Lib.hid (rr_sub b O S a.fd hfd w1 h1)
  have CUn := Lib.hid (rr_un b O S a.fd hfd w1 h1)
  have CFail := Lib.hid (rr_fail b O S a.fd hfd a.n w1 h1)
  have CMark := Lib.hid (rr_mark b O S a.fd hfd a.id w1 h1)
  have CList := Lib.hid (rr_list b O S a.fd hfd a.n w1 h1 hI)
  have CIng := Lib.hid (rr_ingest b O S a.fd hfd _ a.its a.n w1 h1 (fun w' ho => hs w' (O1.of0.trans ho (fun x hx => .inl hx))) hl hx)
  have HO1 := Lib.hid O1
  have H1 := Lib.hid h1
  have HB := Lib.hid h.bw
  clear h h1 hs hx O1 a1 hD hqq hiv
  have hcase : q = 0 ∨ q = 1 ∨ q = 2 ∨ q = 7 ∨ q = 8 ∨ q = 9 ∨ q = 3 ∨ q = 4 ∨ q = 5 ∨ q = 6 := by omega
  clear hq
  rcases hcase with rfl | rfl | rfl | rfl | rfl | rfl | rfl | rfl | rfl | rfl
  · rw [show D17q 0 S a = (0, [], subS S a.fd) from rfl]
    obtain ⟨rr, SS⟩ : ∃ rr, subS S a.fd = rr := ⟨_, rfl⟩
    rw [SS] at CSub ⊢
    clear SS
    obtain ⟨r1, S1⟩ := rr
    go_enter Tryz.func6, Tryz.ntmps6
    go_wp2_with fail
    refine (CK.out _).mono ?_
    rintro e w2 ⟨rfl, rfl⟩
    go_wp2_with fail
    refine CSub.out.mono ?_
    rintro e w3 ⟨rfl, hop⟩
    have HOP := Lib.hid (hop.pre HO1.out)
    clear hop hw1 hz c0 c1 c2 c3 c4
    go_wp2_with fail
    go_ret3
    exact ModelW.of rfl HOP.out
  · rw [show D17q 1 S a = (0, [], subS S a.fd) from rfl]
    obtain ⟨rr, SS⟩ : ∃ rr, subS S a.fd = rr := ⟨_, rfl⟩
    rw [SS] at CSub ⊢
    clear SS
    obtain ⟨r1, S1⟩ := rr
    go_enter Tryz.func6, Tryz.ntmps6
    go_wp2_with fail
    refine (CK.out _).mono ?_
    rintro e w2 ⟨rfl, rfl⟩
    go_wp2_with fail
    refine CSub.out.mono ?_
    rintro e w3 ⟨rfl, hop⟩
    have HOP := Lib.hid (hop.pre HO1.out)
    clear hop hw1 hz c0 c1 c2 c3 c4
    go_wp2_with fail
    go_ret3
    exact ModelW.of rfl HOP.out
  · rw [show D17q 2 S a = (0, [], unS S a.fd) from rfl]
    obtain ⟨rr, SS⟩ : ∃ rr, unS S a.fd = rr := ⟨_, rfl⟩
    rw [SS] at CUn ⊢
    clear SS
    obtain ⟨r1, S1⟩ := rr
    go_enter Tryz.func6, Tryz.ntmps6
    go_wp2_with fail
    refine (CK.out _).mono ?_
    rintro e w2 ⟨rfl, rfl⟩
    go_wp2_with fail
    refine CUn.out.mono ?_
    rintro e w3 ⟨rfl, hop⟩
    have HOP := Lib.hid (hop.pre HO1.out)
    clear hop hw1 hz c0 c1 c2 c3 c4
    go_wp2_with fail
    go_ret3
    exact ModelW.of rfl HOP.out
  · rw [show D17q 7 S a = (0, [], failS S a.fd a.n) from rfl]
    obtain ⟨rr, SS⟩ : ∃ rr, failS S a.fd a.n = rr := ⟨_, rfl⟩
    rw [SS] at CFail ⊢
    clear SS
    obtain ⟨r1, S1⟩ := rr
    go_enter Tryz.func6, Tryz.ntmps6
    go_wp2_with fail
    refine (CK.out _).mono ?_
    rintro e w2 ⟨rfl, rfl⟩
    go_wp2_with fail
    refine CFail.out.mono ?_
    rintro e w3 ⟨rfl, hop⟩
    have HOP := Lib.hid (hop.pre HO1.out)
    clear hop hw1 hz c0 c1 c2 c3 c4
    go_wp2_with fail
    go_ret3
    exact ModelW.of rfl HOP.out
  · rw [show D17q 8 S a = (0, [], markS S a.fd a.id) from rfl]
    obtain ⟨rr, SS⟩ : ∃ rr, markS S a.fd a.id = rr := ⟨_, rfl⟩
    rw [SS] at CMark ⊢
    clear SS
    obtain ⟨r1, S1⟩ := rr
    go_enter Tryz.func6, Tryz.ntmps6
    go_wp2_with fail
    refine (CK.out _).mono ?_
    rintro e w2 ⟨rfl, rfl⟩
    go_wp2_with fail
    refine CMark.out.mono ?_
    rintro e w3 ⟨rfl, hop⟩
    have HOP := Lib.hid (hop.pre HO1.out)
    clear hop hw1 hz c0 c1 c2 c3 c4
    go_wp2_with fail
    go_ret3
    exact ModelW.of rfl HOP.out
  · rw [show D17q 9 S a = (0, (listS S a.fd a.n).1, (listS S a.fd a.n).2, S) from rfl]
    obtain ⟨rr, SS⟩ : ∃ rr, listS S a.fd a.n = rr := ⟨_, rfl⟩
    rw [SS] at CList ⊢
    clear SS
    obtain ⟨L1, r1⟩ := rr
    go_enter Tryz.func6, Tryz.ntmps6
    go_wp2_with fail
    refine (CK.out _).mono ?_
    rintro e w2 ⟨rfl, rfl⟩
    go_wp2_with fail
    refine CList.out.mono ?_
    rintro e w3 ⟨v', rfl, hown, ho3⟩
    have hlow : ∀ g, v'.ownBlock = some g → g ∉ O := fun g hg hx => by
      have h1 := HB.out g hx
      have h2 := (hown.lt g hg).1
      have h3 := HO1.out.size
      omega
    have HL := Lib.hid hlow
    have HW := Lib.hid (own_low hown HO1.out.size)
    have HS3 := Lib.hid (H1.out.keep ho3 (by simp))
    have HO3 := Lib.hid (HO1.out.tr ho3)
    clear hown ho3 hlow hw1 hz c0 c1 c2 c3 c4
    go_wp2_with fail
    go_ret3
    exact ⟨v', O, rfl, HW.out, HL.out, HS3.out, HO3.out.of0, fun x hx => .inl hx⟩
  · rw [show D17q 3 S a = ((ingR S a.fd a.its a.n).1, [], (ingR S a.fd a.its a.n).2) from rfl]
    obtain ⟨rr, SS⟩ : ∃ rr, ingR S a.fd a.its a.n = rr := ⟨_, rfl⟩
    rw [SS] at CIng ⊢
    clear SS
    obtain ⟨n1, r1, S1⟩ := rr
    go_enter Tryz.func6, Tryz.ntmps6
    go_wp2_with fail
    refine (CK.out _).mono ?_
    rintro e w2 ⟨rfl, rfl⟩
    go_wp2_with fail
    refine CIng.out.mono ?_
    rintro e w3 ⟨rfl, hop⟩
    have HOP := Lib.hid (hop.pre HO1.out)
    clear hop hw1 hz c0 c1 c2 c3 c4
    go_wp2_with fail
    go_ret3
    exact ModelW.of rfl HOP.out
  · rw [show D17q 4 S a = ((ingR S a.fd a.its a.n).1, [], (ingR S a.fd a.its a.n).2) from rfl]
    obtain ⟨rr, SS⟩ : ∃ rr, ingR S a.fd a.its a.n = rr := ⟨_, rfl⟩
    rw [SS] at CIng ⊢
    clear SS
    obtain ⟨n1, r1, S1⟩ := rr
    go_enter Tryz.func6, Tryz.ntmps6
    go_wp2_with fail
    refine (CK.out _).mono ?_
    rintro e w2 ⟨rfl, rfl⟩
    go_wp2_with fail
    refine CIng.out.mono ?_
    rintro e w3 ⟨rfl, hop⟩
    have HOP := Lib.hid (hop.pre HO1.out)
    clear hop hw1 hz c0 c1 c2 c3 c4
    go_wp2_with fail
    go_ret3
    exact ModelW.of rfl HOP.out
  · rw [show D17q 5 S a = ((ingR S a.fd a.its a.n).1, [], (ingR S a.fd a.its a.n).2) from rfl]
    obtain ⟨rr, SS⟩ : ∃ rr, ingR S a.fd a.its a.n = rr := ⟨_, rfl⟩
    rw [SS] at CIng ⊢
    clear SS
    obtain ⟨n1, r1, S1⟩ := rr
    go_enter Tryz.func6, Tryz.ntmps6
    go_wp2_with fail
    refine (CK.out _).mono ?_
    rintro e w2 ⟨rfl, rfl⟩
    go_wp2_with fail
    refine CIng.out.mono ?_
    rintro e w3 ⟨rfl, hop⟩
    have HOP := Lib.hid (hop.pre HO1.out)
    clear hop hw1 hz c0 c1 c2 c3 c4
    go_wp2_with fail
    go_ret3
    exact ModelW.of rfl HOP.out
  · rw [show D17q 6 S a = ((ingR S a.fd a.its a.n).1, [], (ingR S a.fd a.its a.n).2) from rfl]
    obtain ⟨rr, SS⟩ : ∃ rr, ingR S a.fd a.its a.n = rr := ⟨_, rfl⟩
    rw [SS] at CIng ⊢
    clear SS
    obtain ⟨n1, r1, S1⟩ := rr
    go_enter Tryz.func6, Tryz.ntmps6
    go_wp2_with fail
    refine (CK.out _).mono ?_
    rintro e w2 ⟨rfl, rfl⟩
    go_wp2_with fail
    refine CIng.out.mono ?_
    rintro e w3 ⟨rfl, hop⟩
    have HOP := Lib.hid (hop.pre HO1.out)
    clear hop hw1 hz c0 c1 c2 c3 c4
    go_wp2_with fail
    go_ret3
    exact ModelW.of rfl HOP.out
end Go.Proofs.YtjfnkjpnjiobjaaGreat
namespace Go.Proofs.YtjfnkjpnjiobjaaGreat
open Go.RowKit
theorem D17_inv {S : Sv} (a : A17) (h : SvI S) : SvI (D17 S a).2.2.2 := by
  unfold D17
  generalize pkI a.op 10 = q
  unfold D17q
  split
  · exact h.sub _
  split
  · exact h.sub _
  split
  · exact h.un _
  split
  · exact h.fail _ _
  split
  · exact h.mark _ _
  split
  · exact h
  · exact h.ing _ _ _
theorem svs_at {w : World} {B n : Nat} {A : Option Addr} {c : Nat} {l : List (List UInt8)} (h : SlAt w B (.slice A n c) 1 n (svs l)) {k : Nat} {x : List UInt8} (hx : l[k]? = some x) : ∃ b o, A = some ⟨b, o, none⟩ ∧ w.cell? ⟨b, o + k, none⟩ = some (.string ⟨x.toArray⟩) := by
  have hl := h.1
  have hk := (List.getElem?_eq_some_iff.1 hx).1
  unfold svs at hl
  rw [List.length_map] at hl
  obtain ⟨b, o, c', hv, _, hc⟩ := h.at_ (by omega)
  injection hv with e1
  exact ⟨b, o, e1, hc k _ (by unfold svs; rw [List.getElem?_map, hx]; rfl)⟩
theorem St.sorted {w : World} {b : Nat} {O : List Nat} {S : Sv} (h : St w b O S) : S.Pairwise (fun a b => a.1 < b.1) ∧ S.length ≤ 20 ∧ ∀ x ∈ S, nmL x.1 = true := by
  obtain ⟨mb, T, h, rfl, rfl⟩ := h
  refine ⟨List.pairwise_map.2 h.srt, by rw [List.length_map]; exact h.cap, fun x hx => ?_⟩
  obtain ⟨t, ht, rfl⟩ := List.mem_map.1 hx
  exact h.nml t ht
set_option maxRecDepth 100000 in
set_option maxHeartbeats 2000000 in
theorem alike17 (b b' : Nat) (O K : List Nat) (S : Sv) (w : World) (h : St w b O S) (h' : Rs w b' K S) (hI : SvI S) :
    Calls Tryz.prog 29 #[.pointer (some ⟨b, 0, none⟩), .pointer (some ⟨b', 0, none⟩)] w fun e w' => e = .returned (.bool true) ∧ Only [] w w' := by
  have H := Lib.hid h
  have H' := Lib.hid h'
  have CF := Lib.hid (st_feeds b O S w h)
  have CP := Lib.hid (fun w' (ho : Only [] w w') => st_pack b O S w' (h.keep ho (by simp)) hI.sh)
  have CP' := Lib.hid (fun w' (ho : Only [] w w') => rr_pack b' K S w' (h'.keep ho (by simp)) hI)
  obtain ⟨hsrt, h20, hnml⟩ := h.sorted
  have HN := Lib.hid hnml
  have HSR := Lib.hid hsrt
  clear h h' hsrt hnml
  go_enter Tryz.func29, Tryz.ntmps29
  go_wp2_with fail
  refine CF.out.mono ?_
  rintro e w1 ⟨v, rfl, hown, ho1⟩
  have HO1 := Lib.hid ho1
  have HS := Lib.hid (SlAt.of_own hown)
  obtain ⟨A, c, rfl⟩ := (SlAt.of_own hown).shape
  obtain ⟨A', c', hh⟩ := (H'.out.keep ho1 (by simp)).head
  clear hown ho1 CF
  go_wp2_with fail
  clear hh
  go_loopw [6] (fun i wr => ∃ k : Nat, k ≤ S.length ∧ i = .int .i64 k ∧ Hid (Only [] w1 wr)) (fun i _ => S.length - (intOf i).toNat)
  case atStart => exact ⟨0, by omega, rfl, Lib.hid (Only.refl _ _)⟩
  case round =>
    obtain ⟨k, hk, rfl, ho⟩ := hrel
    obtain ⟨wo, rfl⟩ : ∃ wo, wo = wr := ⟨_, rfl⟩
    by_cases hlt : k < S.length
    · have hlt' : (k : Int) < (S.length : Int) := by omega
      obtain ⟨x, hx⟩ : ∃ x, S[k]? = some x := ⟨_, List.getElem?_eq_getElem hlt⟩
      have hxm := List.mem_of_getElem? hx
      have hSo := HS.out.only ho.out (Nat.le_refl _) (by simp)
      obtain ⟨b1, o1, hA, q0⟩ := svs_at hSo (x := x.1) (k := k) (by rw [List.getElem?_map, hx]; rfl)
      subst hA
      have hO := HO1.out.tr ho.out
      have hfx := fnd_of HSR.out hxm
      have CK := Lib.hid (st_polled b O S x.1 (by have := (nmL_len (HN.out x hxm)).2; unfold maxLen; omega) wo (H.out.keep hO (by simp)))
      rw [hfx] at CK
      have HAT := Lib.hid (fun w' (ho' : Only [] wo w') => (H'.out.keep (hO.tr ho') (by simp)).at_ hx)
      have HO := Lib.hid hO
      have hwr : IntKind.i64.wrap ((k : Int) + 1) = (k : Int) + 1 := by rw [IntKind.wrap_i64]; omega
      clear hx hxm hSo hO hfx
      go_wp2_with fail
      refine CK.out.mono ?_
      rintro e w2 ⟨rfl, ho2⟩
      obtain ⟨g, c2, r0, r1, r2, r3⟩ := (HAT.out w2 ho2).ex
      have q0' := (ho2.cell (p := ⟨b1, o1 + k, none⟩) (World.block_lt_of_cell? wo _ q0) (by simp)).trans q0
      have HO2 := Lib.hid (ho.out.tr ho2)
      have u0 := fun u : Since w2 => u.cell q0'
      have t0 := fun u : Since w2 => u.cell r0
      have t1 := fun u : Since w2 => u.cell r1
      have t2 := fun u : Since w2 => u.cell r2
      have t3 := fun u : Since w2 => u.cell r3
      clear q0 q0' r0 r1 r2 r3 ho2 CK HAT HO
      go_upto_region 8 with fail
      refine wp_region_only w2 (Only.refl _ _) (by kernel_rfl) (by kernel_rfl) ?_
      repeat (go_big_quiet_step (fail))
      refine wpQuiet_nil ?_
      rintro ⟨w3, ho3⟩
      dsimp only
      have HO3 := Lib.hid (HO2.out.tr ho3)
      clear u0 t0 t1 t2 t3 ho3
      go_wp2_with fail
      go_roundw
      case rel => exact ⟨k + 1, by omega, by go_num, HO3⟩
      case measure => simp [intOf]; omega
    · obtain rfl : k = S.length := by omega
      have hd : decide ((S.length : Int) < (S.length : Int)) = false := by simp
      have CP1 := Lib.hid (CP.out wo (HO1.out.tr ho.out))
      clear CP
      go_wp2_with fail
      refine CP1.out.mono ?_
      rintro e w2 ⟨rfl, ho2⟩
      have CP2 := Lib.hid (CP'.out w2 ((HO1.out.tr ho.out).tr ho2))
      have HO2 := Lib.hid ((HO1.out.tr ho.out).tr ho2)
      clear CP1 CP' ho2
      go_wp2_with fail
      refine CP2.out.mono ?_
      rintro e w3 ⟨rfl, ho3⟩
      have HO3 := Lib.hid (HO2.out.tr ho3)
      clear CP2 ho3
      go_wp2_with fail
      go_ret
      exact ⟨by simp, HO3.out⟩
end Go.Proofs.YtjfnkjpnjiobjaaGreat
namespace Go.Proofs.YtjfnkjpnjiobjaaGreat
open Go.RowKit
theorem SvJ.svi {S : Sv} (h : SvJ S) : SvI S := fun x hx => (h.all x hx).1.i
theorem SvI.shs {S : Sv} (h : SvI S) : ∀ x ∈ S, x.2.Sh := fun x hx => h.sh x hx
set_option maxRecDepth 100000 in
set_option maxHeartbeats 2000000 in
theorem reads17 (s : List UInt8) (hs : s.length ≤ 1000000000000) (w : World) :
    Calls Tryz.prog 8 #[.string ⟨s.toArray⟩] w fun e w' => e = .returned (.bool true) ∧ Only [] w w' := by
  have C1 := Lib.hid (store_unpack s hs w)
  have C2 := Lib.hid (fun w' => rs_unpack s hs w')
  unfold UnV at C1
  unfold UnR at C2
  have HIF := Lib.hid (fun S => unSt_iff s S hs)
  cases hu : unSt s with
  | none =>
    simp only [hu] at C1 C2
    clear hu HIF
    go_enter Tryz.func8, Tryz.ntmps8
    go_wp2_with fail
    refine C1.out.mono ?_
    rintro e w1 ⟨ho1, rfl⟩
    have HO1 := Lib.hid ho1
    clear ho1 C1
    go_wp2_with fail
    refine (C2.out _).mono ?_
    rintro e w2 ⟨ho2, rfl⟩
    have HO2 := Lib.hid (HO1.out.tr ho2)
    clear ho2 C2
    go_wp2_with fail
    go_ret
    exact ⟨rfl, HO2.out⟩
  | some S =>
    simp only [hu] at C1 C2
    obtain ⟨hJ, hse⟩ := (HIF.out S).1 hu
    have HI := Lib.hid hJ.svi
    have HSE := Lib.hid hse
    clear hu HIF hJ hse
    go_enter Tryz.func8, Tryz.ntmps8
    go_wp2_with fail
    refine C1.out.mono ?_
    rintro e w1 ⟨ho1, b, O, rfl, hst, hO⟩
    have HO1 := Lib.hid ho1
    have HST := Lib.hid hst
    clear ho1 C1 hst hO
    go_wp2_with fail
    refine (C2.out _).mono ?_
    rintro e w2 ⟨ho2, b', K, rfl, hrs, hK⟩
    have HO2 := Lib.hid (HO1.out.tr ho2)
    have h2 := HST.out.keep ho2 (by simp)
    have CA := Lib.hid (alike17 b b' O K S w2 h2 hrs HI.out)
    have CP := Lib.hid (fun w' (ho : Only [] w2 w') => st_pack b O S w' (h2.keep ho (by simp)) HI.out.shs)
    rw [← HSE.out] at CP
    clear ho2 C2 hrs hK h2
    go_wp2_with fail
    refine CA.out.mono ?_
    rintro e w3 ⟨rfl, ho3⟩
    have C3 := Lib.hid (CP.out w3 ho3)
    have HO3 := Lib.hid (HO2.out.tr ho3)
    clear ho3 CA CP
    go_wp2_with fail
    refine C3.out.mono ?_
    rintro e w4 ⟨rfl, ho4⟩
    have HO4 := Lib.hid (HO3.out.tr ho4)
    clear ho4 C3
    go_wp2_with fail
    go_ret
    exact ⟨rfl, HO4.out⟩
end Go.Proofs.YtjfnkjpnjiobjaaGreat
namespace Go.Proofs.YtjfnkjpnjiobjaaGreat
open Go.RowKit
/-- A store made since W. -/
structure StW (W w : World) (b : Nat) (O : List Nat) (S : Sv) : Prop where
  st : St w b O S
  ho : Only [] W w
  lo : ∀ x ∈ O, W.heap.size ≤ x
theorem StW.read {W w w' : World} {b : Nat} {O : List Nat} {S : Sv} (h : StW W w b O S) (ho : Only [] w w') : StW W w' b O S := ⟨h.st.keep ho (by simp), h.ho.tr ho, h.lo⟩
theorem StW.step {W w w' : World} {b : Nat} {O O' : List Nat} {S S' : Sv} (h : StW W w b O S) (h1 : St w' b O' S') (h2 : Only O w w') (h3 : ∀ x ∈ O', x ∈ O ∨ w.heap.size ≤ x) : StW W w' b O' S' :=
  ⟨h1, h.ho.trans h2 (fun x hx => .inr (h.lo x hx)), fun x hx => by
    rcases h3 x hx with h4 | h4
    · exact h.lo x h4
    · exact Nat.le_trans h.ho.size h4⟩
theorem StW.op {W w w' : World} {b : Nat} {O : List Nat} {S S' : Sv} (h : StW W w b O S) (h1 : OpS w w' b O S') : ∃ O', StW W w' b O' S' ∧ Only O w w' ∧ ∀ x ∈ O', x ∈ O ∨ w.heap.size ≤ x := by
  obtain ⟨O', h2, h3, h4⟩ := h1
  exact ⟨O', h.step h2 h3 h4, h3, h4⟩
def fF : List UInt8 := [102]
def iX : It := ⟨[120], [], []⟩
def iY : It := ⟨[121], [], []⟩
def sh1 : Sv := [(fF, ⟨-1, 0, []⟩)]
def sh2 : Sv := [(fF, ⟨3, 0, [⟨1, iX, false⟩, ⟨2, iY, false⟩]⟩)]
def sh3 : Sv := [(fF, ⟨3, 0, [⟨1, iX, false⟩, ⟨2, iY, true⟩]⟩)]
def sh4 : Sv := [(fF, ⟨5, 1, [⟨1, iX, false⟩, ⟨2, iY, true⟩]⟩)]
theorem e_s1 : subS [] [102] = (0, sh1) := by kernel_rfl
theorem e_s2 : subS sh1 [102] = (5, sh1) := by kernel_rfl
theorem e_s3 : subS sh1 [97, 32, 98] = (3, sh1) := by kernel_rfl
theorem e_i1 : ingR sh1 [102] [iX, iY, iX] 3 = (2, 0, sh2) := by kernel_rfl
theorem e_i2 : ingR sh2 [102] [iX, iY, iX] 3 = (0, 0, sh2) := by kernel_rfl
theorem e_l : listS sh2 [102] 1 = ([⟨2, iY, false⟩], 0) := by kernel_rfl
theorem e_m1 : markS sh2 [102] [121] = (0, sh3) := by kernel_rfl
theorem e_m2 : markS sh3 [102] [122] = (4, sh3) := by kernel_rfl
theorem e_f : failS sh3 [102] 5 = (0, sh4) := by kernel_rfl
theorem e_p : fnd sh4 [102] = some ⟨5, 1, [⟨1, iX, false⟩, ⟨2, iY, true⟩]⟩ := by kernel_rfl
theorem mx (n : Nat) (h : n ≤ 1000) : n ≤ maxLen := by unfold maxLen; omega
theorem len_xyx : ∀ x ∈ [iX, iY, iX], x.Len := by
  intro x hx
  simp only [List.mem_cons, List.not_mem_nil, or_false] at hx
  rcases hx with rfl | rfl | rfl <;> exact ⟨mx _ (by decide), mx _ (by decide), mx _ (by decide)⟩
set_option maxRecDepth 100000 in
set_option maxHeartbeats 4000000 in
theorem shown17 (w : World) : Calls Tryz.prog 4 #[] w fun e w' => e = .returned (.bool true) ∧ Only [] w w' := by
  have C0 := Lib.hid (st_new w)
  go_enter Tryz.func4, Tryz.ntmps4
  go_wp2_with fail
  refine C0.out.mono ?_
  rintro e w0 ⟨b, O0, rfl, hs0, hl0, ho0⟩
  have H0 : Hid (StW w w0 b O0 []) := Lib.hid ⟨hs0, ho0, hl0⟩
  clear C0 hs0 hl0 ho0
  have C1 := Lib.hid (st_sub b O0 [] [102] (mx _ (by decide)) w0 H0.out.st)
  rw [e_s1] at C1
  go_wp2_with fail
  refine C1.out.mono ?_
  rintro e w1 ⟨rfl, hop⟩
  obtain ⟨O1, hs1, hf1, _⟩ := H0.out.op hop
  have H1 := Lib.hid hs1
  clear hop hs1 hf1 C1
  have C2 := Lib.hid (st_sub b O1 sh1 [102] (mx _ (by decide)) w1 H1.out.st)
  rw [e_s2] at C2
  go_wp2_with fail
  refine C2.out.mono ?_
  rintro e w2 ⟨rfl, hop⟩
  obtain ⟨O2, hs2, hf2, _⟩ := H1.out.op hop
  have H2 := Lib.hid hs2
  clear hop hs2 hf2 C2
  have C3 := Lib.hid (st_sub b O2 sh1 [97, 32, 98] (mx _ (by decide)) w2 H2.out.st)
  rw [e_s3] at C3
  go_wp2_with fail
  refine C3.out.mono ?_
  rintro e w3 ⟨rfl, hop⟩
  obtain ⟨O3, hs3, hf3, _⟩ := H2.out.op hop
  have H3 := Lib.hid hs3
  clear hop hs3 hf3 C3
  obtain ⟨w4, hw4⟩ : ∃ w4, w3.alloc (.cells (itL [iX, iY, iX]).toArray 45) = w4 := ⟨_, rfl⟩
  obtain ⟨y, hy⟩ : ∃ y, w3.heap.size = y := ⟨_, rfl⟩
  have hO4 : Only [] w3 w4 := hw4 ▸ (Only.refl _ _).alloc _
  have hC4 : Cells w4 y 45 (itL [iX, iY, iX]) := hw4 ▸ hy ▸ Cells.new w3 _ _
  have H4 := Lib.hid (H3.out.read hO4)
  have HR4 : Hid (SlAt w4 w4.heap.size (.slice (some ⟨y, 0, none⟩) 3 3) 3 3 (itL [iX, iY, iX])) := Lib.hid (SlAt.cells (n := 3) (sz := 3) hC4 rfl (by unfold maxLen; omega))
  have HYO : Hid (∀ x ∈ O3, x ≠ y) := Lib.hid (fun x hx e => by have := H3.out.st.bw x hx; omega)
  have HC4 := Lib.hid hC4
  obtain ⟨O4, hO4e⟩ : ∃ O4, O3 = O4 := ⟨_, rfl⟩
  rw [hO4e] at H4 HYO
  have hw4' : w3.alloc (.cells #[.string ⟨#[120]⟩, .string ⟨#[]⟩, .string ⟨#[]⟩, .string ⟨#[121]⟩, .string ⟨#[]⟩, .string ⟨#[]⟩, .string ⟨#[120]⟩, .string ⟨#[]⟩, .string ⟨#[]⟩] 45) = w4 := hw4
  clear hw4 hC4 hO4 hO4e
  have hrow := Lib.hid (fun w' (X : List Nat) (ho : Only X w4 w') (hX : ∀ x ∈ X, x ≠ y) => (SlAt.cells (n := 3) (sz := 3) (HC4.out.only ho (fun h => hX y h rfl)) rfl (by unfold maxLen; omega) : SlAt w' w'.heap.size (.slice (some ⟨y, 0, none⟩) 3 3) 3 3 (itL [iX, iY, iX])))
  have C5 := Lib.hid (st_ingest b O4 sh1 [102] (mx _ (by decide)) (.slice (some ⟨y, 0, none⟩) 3 3) [iX, iY, iX] 3 w4 H4.out.st (fun w' ho => hrow.out w' O4 ho HYO.out) (by decide) len_xyx)
  rw [e_i1] at C5
  clear H0 H1 H2 H3 HR4
  go_wp2_with fail
  clear hw4' hy
  refine C5.out.mono ?_
  rintro e w5 ⟨rfl, hop⟩
  obtain ⟨O5, hs5, hf5, hn5⟩ := H4.out.op hop
  have H5 := Lib.hid hs5
  have hyl : y < w4.heap.size := HC4.out.lt
  have HYO5 : Hid (∀ x ∈ O5, x ≠ y) := Lib.hid (fun x hx => by
    rcases hn5 x hx with h | h
    · exact HYO.out x h
    · omega)
  have hrow5 := Lib.hid (fun w' (X : List Nat) (ho : Only X w5 w') (hX : ∀ x ∈ X, x ≠ y) => (SlAt.cells (n := 3) (sz := 3) ((HC4.out.only hf5 (fun h => HYO.out y h rfl)).only ho (fun h => hX y h rfl)) rfl (by unfold maxLen; omega) : SlAt w' w'.heap.size (.slice (some ⟨y, 0, none⟩) 3 3) 3 3 (itL [iX, iY, iX])))
  have C6 := Lib.hid (st_ingest b O5 sh2 [102] (mx _ (by decide)) (.slice (some ⟨y, 0, none⟩) 3 3) [iX, iY, iX] 3 w5 H5.out.st (fun w' ho => hrow5.out w' O5 ho HYO5.out) (by decide) len_xyx)
  rw [e_i2] at C6
  clear hop hs5 hf5 hn5 C5 hrow H4 HYO HC4
  go_wp2_with fail
  refine C6.out.mono ?_
  rintro e w6 ⟨rfl, hop⟩
  obtain ⟨O6, hs6, hf6, hn6⟩ := H5.out.op hop
  have H6 := Lib.hid hs6
  have C7 := Lib.hid (st_list b O6 sh2 [102] (mx _ (by decide)) 1 w6 H6.out.st)
  rw [e_l] at C7
  clear hop hs6 hf6 hn6 C6 hrow5 H5 HYO5
  go_wp2_with fail
  refine C7.out.mono ?_
  rintro e w7 ⟨v7, rfl, hown7, ho7⟩
  obtain ⟨A7, c7, rfl⟩ := (SlAt.of_own hown7).shape
  have H7 := Lib.hid (H6.out.read ho7)
  obtain ⟨w8, hw8⟩ : ∃ w8, w7.alloc (.cells (poL [⟨2, iY, false⟩]).toArray 52) = w8 := ⟨_, rfl⟩
  obtain ⟨y8, hy8⟩ : ∃ y, w7.heap.size = y := ⟨_, rfl⟩
  have hO8 : Only [] w7 w8 := hw8 ▸ (Only.refl _ _).alloc _
  have hC8 : Cells w8 y8 52 (poL [⟨2, iY, false⟩]) := hw8 ▸ hy8 ▸ Cells.new w7 _ _
  have C8 := Lib.hid (posts17 (.slice A7 1 c7) (.slice (some ⟨y8, 0, none⟩) 1 1) [⟨2, iY, false⟩] w8 (SlAt.of_own (own_keep hown7 hO8 (by simp))) (SlAt.cells (n := 1) (sz := 5) hC8 rfl (by unfold maxLen; omega)) (by decide))
  have H8 := Lib.hid (H7.out.read hO8)
  have hw8' : w7.alloc (.cells #[.int .i64 2, .string ⟨#[121]⟩, .string ⟨#[]⟩, .string ⟨#[]⟩, .bool false] 52) = w8 := hw8
  clear hown7 ho7 hw8 hO8 hC8 C7 H6
  go_wp2_with fail
  clear hw8' hy8
  refine C8.out.mono ?_
  rintro e w9 ⟨rfl, ho9⟩
  have H9 := Lib.hid (H8.out.read ho9)
  have C9 := Lib.hid (st_mark b O6 sh2 [102] (mx _ (by decide)) [121] (mx _ (by decide)) w9 H9.out.st)
  rw [e_m1] at C9
  clear ho9 C8 H7 H8
  go_wp2_with fail
  refine C9.out.mono ?_
  rintro e w10 ⟨rfl, hop⟩
  obtain ⟨O10, hs10, _, _⟩ := H9.out.op hop
  have H10 := Lib.hid hs10
  have C10 := Lib.hid (st_mark b O10 sh3 [102] (mx _ (by decide)) [122] (mx _ (by decide)) w10 H10.out.st)
  rw [e_m2] at C10
  clear hop hs10 C9 H9
  go_wp2_with fail
  refine C10.out.mono ?_
  rintro e w11 ⟨rfl, hop⟩
  obtain ⟨O11, hs11, _, _⟩ := H10.out.op hop
  have H11 := Lib.hid hs11
  have C11 := Lib.hid (st_fail b O11 sh3 [102] (mx _ (by decide)) 5 w11 H11.out.st)
  rw [e_f] at C11
  clear hop hs11 C10 H10
  go_wp2_with fail
  refine C11.out.mono ?_
  rintro e w12 ⟨rfl, hop⟩
  obtain ⟨O12, hs12, _, _⟩ := H11.out.op hop
  have H12 := Lib.hid hs12
  have C12 := Lib.hid (st_polled b O12 sh4 [102] (mx _ (by decide)) w12 H12.out.st)
  rw [e_p] at C12
  clear hop hs12 C11 H11
  go_wp2_with fail
  refine C12.out.mono ?_
  rintro e w13 ⟨rfl, ho13⟩
  have H13 := Lib.hid (H12.out.read ho13)
  clear ho13 C12 H12
  go_wp2_with fail
  go_ret
  exact ⟨rfl, H13.out.ho⟩
end Go.Proofs.YtjfnkjpnjiobjaaGreat
namespace Go.Proofs.YtjfnkjpnjiobjaaGreat
open Go.RowKit
/-- A block known whole, that bears the run-time's mark behind its cells. -/
def CellsZ (w : World) (b : Nat) (t : TypeId) (cs : List Value) : Prop := w.heap[b]? = some (.cells cs.toArray t (cs.length, cs.length + 1))
theorem CellsZ.lt {w : World} {b : Nat} {t : TypeId} {cs : List Value} (h : CellsZ w b t cs) : b < w.heap.size := by
  rcases Nat.lt_or_ge b w.heap.size with hlt | hge
  · exact hlt
  · unfold CellsZ at h; rw [Array.getElem?_eq_none hge] at h; cases h
theorem CellsZ.cell {w : World} {b : Nat} {t : TypeId} {cs : List Value} (h : CellsZ w b t cs) {k : Nat} {v : Value} (hv : cs[k]? = some v) : w.cell? ⟨b, k, none⟩ = some v := by
  have := cell_of_row w b k cs.toArray t _ h
  rw [this]; simpa using hv
theorem CellsZ.frozen {w : World} {b : Nat} {t : TypeId} {cs : List Value} (h : CellsZ w b t cs) (k : Nat) (hk : k < cs.length) : w.frozen? ⟨b, k, none⟩ = false := by
  unfold CellsZ at h
  simp [World.frozen?, h]
  omega
theorem CellsZ.set {w : World} {b : Nat} {t : TypeId} {cs : List Value} (h : CellsZ w b t cs) (i : Nat) (u : Value) : CellsZ (w.setCell ⟨b, i, none⟩ u) b t (cs.set i u) := by
  unfold CellsZ at h ⊢
  simp [World.setCell, Array.getElem?_modify, h]
theorem bytesRow_list (l : List UInt8) (cap : Nat) : bytesRow ⟨l.toArray⟩ cap = (bytes l ++ List.replicate (cap - l.length) (Value.int .u8 0)).toArray := by
  unfold bytesRow bytes
  apply Array.ext'
  simp [str_size]
theorem conv_row (f : List UInt8) (w : World) : ∃ cap zs W0, f.length ≤ cap ∧ CellsZ W0 w.heap.size 5 (bytes f ++ zs) ∧ Only [] w W0 ∧
    (convert 9 36 (.string ⟨f.toArray⟩)).run Tryz.prog w = .ok (.slice (some ⟨w.heap.size, 0, none⟩) f.length cap) W0 := by
  have := run_bytes_of_string (P := Tryz.prog) w _ _ _ (⟨f.toArray⟩ : ByteArray) Tryz.underlying9 Tryz.underlying36 Tryz.underlying5
  rw [bytesRow_list, List.size_toArray] at this
  exact ⟨_, _, _, grownCap_ge _ _ _ _, heap_alloc_new w.drew _, ((Only.refl [] w).drew).alloc _, this⟩
theorem conv_back (x : List UInt8) (zs : List Value) (g : Nat) (cap : Nat) (w : World) (h : CellsZ w g 5 (bytes x ++ zs)) :
    (convert 36 9 (.slice (some ⟨g, 0, none⟩) x.length cap)).run Tryz.prog w = .ok (.string ⟨x.toArray⟩) w := by
  refine run_convert_bytes_back _ _ _ _ _ _ x Tryz.underlying36 Tryz.underlying5 Tryz.underlying9 fun i hi => ?_
  have := h.cell (k := i) (v := .int .u8 (x[i].toNat : Int)) (by rw [List.getElem?_append_left (by rw [bytes_length]; exact hi)]; simp [bytes, List.getElem?_eq_getElem hi])
  unfold Addr.add
  by_cases h : i = 0
  · subst h; simpa using this
  · simp only [h, if_false, Nat.zero_add]; exact this
end Go.Proofs.YtjfnkjpnjiobjaaGreat
namespace Go.Proofs.YtjfnkjpnjiobjaaGreat
open Go.RowKit
theorem Rs.small {w : World} {b : Nat} {K : List Nat} {S : Sv} (h : Rs w b K S) : S.length ≤ 20 ∧ ∀ x ∈ S, nmL x.1 = true := by
  obtain ⟨v, T, h, _, rfl⟩ := h
  refine ⟨by unfold pR; rw [List.length_map]; exact h.cap, fun x hx => ?_⟩
  obtain ⟨t, ht, rfl⟩ := List.mem_map.1 hx
  exact h.nml t ht
theorem stB_le {w : World} {b : Nat} {K : List Nat} {S : Sv} (h : Rs w b K S) (hI : SvI S) : 1 ≤ (stB S).length ∧ (stB S).length ≤ 20000000000 := by
  obtain ⟨h1, h2⟩ := h.small
  have h3 := fsB_le S h1 (fun x hx => ⟨by have := (nmL_len (h2 x hx)).2; omega, hI.sh x hx⟩)
  have h4 := ib_length (S.length : Int) ⟨by omega, by omega⟩
  unfold stB
  rw [List.length_append]
  exact ⟨by omega, by omega⟩
theorem CellsZ.only {w w' : World} {b : Nat} {t : TypeId} {cs : List Value} {S : List Nat} (h : CellsZ w b t cs) (ho : Only S w w') (hb : b ∉ S) : CellsZ w' b t cs := (ho.block b h.lt hb).trans h
set_option maxRecDepth 100000 in
set_option maxHeartbeats 8000000 in
theorem storeReads_walk (W : World) (S0 : ByteArray) (hS0 : S0.size ≤ maxLen) (v0 : Value) (l : List A17) (s0 : SlAt W W.heap.size v0 5 l.length (acL l)) (g0 : ∀ a ∈ l, a.Ok W) (at_ : Int) (wat : (Lit.int .i64 at_).wf = true) (to_ : Int) (_ : (Lit.int .i64 to_).wf = true) :
    Calls Tryz.prog 3 #[.string S0, v0, .int .i64 at_, .int .i64 to_] W fun e W' => e = .returned (.bool true) ∧ Only [] W W' := by
  obtain ⟨LA, lc, rfl⟩ := s0.shape
  obtain ⟨s, rfl, hsl⟩ := str_of S0
  rw [hsl] at hS0
  unfold maxLen at hS0
  clear hsl
  have wat := wide64_of_wf wat
  have HS := Lib.hid s0
  have HG := Lib.hid g0
  have C0 := Lib.hid (shown17 W)
  have CS := Lib.hid (fun w' (ho : Only [] W w') => small17 (.slice LA l.length lc) l w' ((s0.only ho (Nat.le_refl _) (by simp)).more ho.size) (fun a ha => (g0 a ha).only ho))
  have hll := sl_len s0
  unfold maxLen at hll
  clear s0 g0
  go_enter Tryz.func3, Tryz.ntmps3
  go_wp2_with fail
  refine C0.out.mono ?_
  rintro e w2 ⟨rfl, ho2⟩
  have HO1 := Lib.hid ho2
  clear ho2 C0
  go_wp2_with fail
  refine (CS.out _ HO1.out).mono ?_
  rintro e w3 ⟨okA, rfl, hokA, ho3⟩
  have HO := Lib.hid (HO1.out.tr ho3)
  have HM := Lib.hid hokA
  clear ho3 hokA HO1 CS
  cases okA with
  | false =>
    go_wp2_with fail
    go_ret
    exact ⟨rfl, HO.out⟩
  | true =>
  have HM1 := Lib.hid (HM.out rfl)
  clear HM
  by_cases t1 : 3000 < s.length
  · have dt1 : decide ((3000 : Int) < (s.length : Int)) = true := by simp; omega
    go_wp2_with fail
    go_ret
    exact ⟨rfl, HO.out⟩
  have dt1 : decide ((3000 : Int) < (s.length : Int)) = false := by simp; omega
  by_cases t2 : 12 < l.length
  · have dt2 : decide ((12 : Int) < (l.length : Int)) = true := by simp; omega
    go_wp2_with fail
    go_ret
    exact ⟨rfl, HO.out⟩
  have dt2 : decide ((12 : Int) < (l.length : Int)) = false := by simp; omega
  go_upto_region 6 with fail
  obtain ⟨wm, hwm⟩ : ∃ wm, w3.alloc (.cells #[.slice none 0 0] 28) = wm := ⟨_, rfl⟩
  obtain ⟨b, hb⟩ : ∃ z, w3.heap.size = z := ⟨_, rfl⟩
  have hrs := rs_empty w3
  rw [hwm, hb] at hrs
  have HR0 := Lib.hid hrs
  have HO4 : Hid (Only [] W wm) := Lib.hid (hwm ▸ HO.out.alloc _)
  have HB : Hid (∀ x ∈ [b], W.heap.size ≤ x) := Lib.hid (fun x hx => by
    obtain rfl := List.mem_singleton.1 hx
    rw [← hb]
    exact HO.out.size)
  rw [hwm, hb]
  clear hwm hb hrs HO
  go_wp2_with fail
  go_loopw [12] (fun i wr => ∃ (k : Nat) (K : List Nat) (S : Sv), k ≤ l.length ∧ i = .int .i64 k ∧ Hid (Rs wr b K S) ∧ Hid (SvI S) ∧ Hid (∀ x ∈ K, W.heap.size ≤ x) ∧ Hid (Only [] W wr)) (fun i _ => l.length - (intOf i).toNat)
  case atStart => exact ⟨0, [b], [], by omega, rfl, HR0, Lib.hid SvI.nil, HB, HO4⟩
  case round =>
    obtain ⟨k, K, S, hk, rfl, HR, HI, HK, HO⟩ := hrel
    by_cases hlt : k < l.length
    · have hlt' : (k : Int) < (l.length : Int) := by omega
      obtain ⟨a, ha⟩ : ∃ a, l[k]? = some a := ⟨_, List.getElem?_eq_getElem hlt⟩
      have ham := List.mem_of_getElem? ha
      have hA := HG.out a ham
      have hAL := (HM1.out.al a ham).n
      obtain ⟨ab, ao, ac, hv, q0, q1, q2, q3, q4⟩ := acL_at (HS.out.only HO.out (Nat.le_refl _) (by simp)) ha
      injection hv with e1 e2 e3
      subst e1; subst e3
      obtain ⟨IA, ic, hiv⟩ := hA.its.shape
      have C := model17 b K S a wr HR.out HI.out hA.op hA.fd (by omega) hA.len (fun w' ho => by
        have hoW : Only [] W w' := HO.out.trans ho (fun x hx => .inr (HK.out x hx))
        exact (hA.its.only hoW (Nat.le_refl _) (by simp)).more hoW.size)
      have HI' : Hid (SvI (D17 S a).2.2.2) := Lib.hid (D17_inv a HI.out)
      rw [hiv] at C q4
      have C := Lib.hid C
      have hwr : IntKind.i64.wrap ((k : Int) + 1) = (k : Int) + 1 := by rw [IntKind.wrap_i64]; omega
      clear e2 ha ham hA hiv
      go_wp2_with fail
      clear q0 q1 q2 q3 q4
      refine C.out.mono ?_
      rintro e w4 ⟨v', O', rfl, hown, hdis, hrs, ho, hnew⟩
      have HR4 := Lib.hid hrs
      have HO5 : Hid (Only [] W w4) := Lib.hid (HO.out.trans ho (fun x hx => .inr (HK.out x hx)))
      have HK4 : Hid (∀ x ∈ O', W.heap.size ≤ x) := Lib.hid (fun x hx => (hnew x hx).elim (HK.out x) (fun h => Nat.le_trans HO.out.size h))
      clear hown hdis hrs ho hnew C
      go_wp2_with fail
      go_roundw
      case rel => exact ⟨k + 1, O', _, by omega, by go_num, HR4, HI', HK4, HO5⟩
      case measure => simp [intOf]; omega
    · obtain rfl : k = l.length := by omega
      have hd : decide ((l.length : Int) < (l.length : Int)) = false := by simp
      have CP := Lib.hid (rr_pack b K S wr HR.out HI.out)
      obtain ⟨hB1, hB2⟩ := stB_le HR.out HI.out
      obtain ⟨B, hBB⟩ : ∃ B, stB S = B := ⟨_, rfl⟩
      rw [hBB] at CP hB1 hB2
      clear hBB HR HI HK
      go_wp2_with fail
      refine CP.out.mono ?_
      rintro e w5 ⟨rfl, ho5⟩
      have HO5 := Lib.hid (HO.out.tr ho5)
      clear ho5 CP HO
      obtain ⟨cap, zs, w6, hcap, hC6, ho6, hcv⟩ := conv_row B w5
      obtain ⟨g, hg⟩ : ∃ g, w5.heap.size = g := ⟨_, rfl⟩
      have hgw : W.heap.size ≤ g := by have := HO5.out.size; omega
      rw [hg] at hC6 hcv
      have HC6 := Lib.hid hC6
      have HO6 := Lib.hid (HO5.out.tr ho6)
      have CR1 := Lib.hid (reads17 B (by omega) w6)
      have hcb := conv_back B zs g cap w6 hC6
      clear ho6 hC6 hg HO5
      go_wp2_with fail
      refine CR1.out.mono ?_
      rintro e w7 ⟨rfl, ho7⟩
      have HC7 := Lib.hid (HC6.out.only ho7 (by simp))
      have HO7 := Lib.hid (HO6.out.tr ho7)
      have CK := Lib.hid (fun w' => pick17 at_ B.length w' wat (by omega) (by omega))
      obtain ⟨k0, k1⟩ := pkI_lt at_ B.length (by omega)
      obtain ⟨p, hp⟩ : ∃ p : Nat, pkI at_ B.length = p := ⟨(pkI at_ B.length).toNat, by omega⟩
      rw [hp] at CK k0 k1
      have kp : p < B.length := by omega
      clear hp ho7 CR1 HC6 HO6 hcv hcb
      go_wp2_with fail
      refine (CK.out _).mono ?_
      rintro e w8 ⟨rfl, rfl⟩
      have f5 := HC7.out.frozen p (by rw [List.length_append, bytes_length]; omega)
      have l5 := HC7.out.lt
      have hbk := HC7.out.cell (k := p) (v := .int .u8 (B[p].toNat : Int)) (by rw [List.getElem?_append_left (by rw [bytes_length]; exact kp)]; simp [bytes, List.getElem?_eq_getElem kp])
      obtain ⟨c, hc⟩ : ∃ c : UInt8, (c.toNat : Int) = to_ % 256 := ⟨UInt8.ofNat (to_ % 256).toNat, by
        rw [toNat_byte _ (by omega)]; omega⟩
      obtain ⟨w9, hw9⟩ : ∃ w9, w7.setCell ⟨g, p, none⟩ (.int .u8 (to_ % 256)) = w9 := ⟨_, rfl⟩
      have hC9 : CellsZ w9 g 5 (bytes (B.set p c) ++ zs) := by
        have h1 := HC7.out.set p (.int .u8 (to_ % 256))
        rw [hw9, List.set_append_left _ _ (by rw [bytes_length]; exact kp), ← hc] at h1
        rw [show bytes (B.set p c) = (bytes B).set p (.int .u8 c.toNat) from by unfold bytes; rw [List.map_set]]
        exact h1
      have HO9 : Hid (Only [] W w9) := Lib.hid (hw9 ▸ HO7.out.setCell (p := ⟨g, p, none⟩) (.inr hgw) _)
      obtain ⟨X, hX⟩ : ∃ X, B.set p c = X := ⟨_, rfl⟩
      have hXl : X.length = B.length := by rw [← hX, List.length_set]
      rw [hX] at hC9
      have hcv := conv_back X zs g cap w9 hC9
      rw [hXl] at hcv
      have CR2 := Lib.hid (reads17 X (by omega) w9)
      have CR3 := Lib.hid (fun w' => reads17 s (by omega) w')
      clear hX hC9 hXl hc CK
      go_wp2_with fail
      clear f5 l5 hbk hw9 hcv
      refine CR2.out.mono ?_
      rintro e w10 ⟨rfl, ho10⟩
      have HO10 := Lib.hid (HO9.out.tr ho10)
      clear ho10 CR2
      go_wp2_with fail
      refine (CR3.out _).mono ?_
      rintro e w11 ⟨rfl, ho11⟩
      have HO11 := Lib.hid (HO10.out.tr ho11)
      clear ho11 CR3
      go_wp2_with fail
      go_ret
      exact ⟨rfl, HO11.out⟩
end Go.Proofs.YtjfnkjpnjiobjaaGreat
