/-
  Appends inside a region that draws its order: each uses up the slice that it appends to.
-/
import Derived.Test.YtjfnkjpnjiobjaaPend
import Derived.Test.YtjfnkjpnjiobjaaOpen
import Derived.Maps.AppendAt
namespace Go.Proofs.Ytjfnkjpnjiobjaa
open Go.RowKit
/-- What is appended: m elements, these cells. -/
def SrcA (w : World) (v : Value) (sz m : Nat) (news : List Value) : Prop :=
  news.length = m * sz ∧ (∀ u ∈ news, u.oneCell' = true) ∧ ((v = .slice none 0 0 ∧ m = 0) ∨ ∃ ad c, v = .slice (some ad) m c ∧ ∀ j u, news[j]? = some u → w.cell? (ad.add j) = some u)
theorem SrcA.only {w w' : World} {v : Value} {sz m : Nat} {news : List Value} (h : SrcA w v sz m news) (ho : Only [] w w') : SrcA w' v sz m news := by
  obtain ⟨h1, h2, h⟩ := h
  refine ⟨h1, h2, h.imp_right fun ⟨ad, c, hv, hc⟩ => ⟨ad, c, hv, fun j u hu => ?_⟩⟩
  have := hc j u hu
  exact (ho.cell (World.block_lt_of_cell? w _ this) (by simp)).trans this
theorem SrcA.own {w : World} {base : Nat} {e : TypeId} {sz n : Nat} {v : Value} {xs : List Value} (h : w.ownsRow base e sz v n xs) (h1 : ∀ u ∈ xs, u.oneCell' = true) : SrcA w v sz n xs := by
  refine ⟨h.1, h1, ?_⟩
  rcases h.2 with ⟨rfl, rfl⟩ | ⟨g, cap, cur, rfl, _, hh, hnc, hcm, hs, hx⟩
  · exact .inl ⟨rfl, rfl⟩
  · refine .inr ⟨_, cap, rfl, fun j u hu => ?_⟩
    have hj : j < xs.length := (List.getElem?_eq_some_iff.1 hu).1
    have hj2 : j < n * sz := by rw [← h.1]; exact hj
    rw [Addr.add_lit, Nat.zero_add, cell_of_row w g j cur e (0, 0) hh, ← hu, ← hx, List.getElem?_take_of_lt hj2]
    simp
/-- A piece of a block known whole. -/
theorem SrcA.piece {w : World} {b o m c sz : Nat} {t : TypeId} {cs news : List Value} (hC : Cells w b t cs) (hl : news.length = m * sz) (h1 : ∀ u ∈ news, u.oneCell' = true) (hn : ∀ j u, news[j]? = some u → cs[o + j]? = some u) : SrcA w (.slice (some ⟨b, o, none⟩) m c) sz m news :=
  ⟨hl, h1, .inr ⟨_, c, rfl, fun j u hu => by rw [Addr.add_lit]; exact hC.cell (hn j u hu)⟩⟩
section
variable {P : Program}
theorem run_app (w : World) (base : Nat) (t ty e : TypeId) (i : TypeInfo) (z : Value) (sz bytes : Nat) (ht : P.underlying t = some (.slice e)) (hi : P.info? e = some i) (hz : i.zero = some z) (hsize : i.size = sz) (hby : i.bytes = bytes) (hzs : z.cells.size = sz) (hsz : 0 < sz)
    (v : Value) (n : Nat) (xs : List Value) (hown : w.ownsRow base e sz v n xs) (y : Value) (m : Nat) (news : List Value) (hs : SrcA w y sz m news) (h63 : n + m ≤ maxLen) (hbytes : (n + m) * bytes ≤ 140737488355328) (hbase : base ≤ w.heap.size) :
    ∃ v' w', (Builtin.append_ #[t, t] ty #[v, y]).run P w = .ok v' w' ∧ w'.ownsRow base e sz v' (n + m) (xs ++ news) ∧ Only v.ownBlock.toList w w' ∧ (∀ b, v'.ownBlock = some b → w.heap.size ≤ b ∨ v.ownBlock = some b) := by
  obtain ⟨hl, h1, ⟨rfl, rfl⟩ | ⟨ad, c, rfl, hc⟩⟩ := hs
  · refine ⟨v, w, run_append_owned_none w base t ty e i sz ht hi v n xs hown, ?_, Only.refl _ _, fun b hb => .inr hb⟩
    have : news = [] := by simpa using hl
    subst this
    simpa using hown
  · obtain ⟨v', w', hr, h2, h3, _, h5⟩ := run_append_own_at (P := P) w base t ty e i z sz bytes ht hi hz hsize hby hzs hsz v n xs hown ad m c news hl hc h1 h63 hbytes hbase
    refine ⟨v', w', hr, h2, (Only.refl _ w).grown h3 (fun g hg => .inl (by rw [hg]; simp)), fun b hb => ?_⟩
    rcases h5 with h5 | h5
    · exact .inr (by rw [← h5]; exact hb)
    · rw [h5] at hb; injection hb with hb; exact .inl (by omega)
variable {ops : Array Oper} {W : World} {Vs : Words} {E : Eats} {M : Mine} {val : Tmp → Value} {Q : Act → Prop}
/-- A slice's literal, as a slice of its own. -/
theorem fit_litO {k : Nat} {o : Oper} {rest : List Oper} {a : Act} (d : Tmp) (e : TypeId) (sz : Nat) (cs : List Value) (n : Nat) (hg : o.guard = none) (ho : o.dst = some d) (hp0 : (d, OwW W.heap.size e sz n cs) ∈ Vs) (hone : ∀ p, p ∈ Vs → d = p.1 → p = (d, OwW W.heap.size e sz n cs)) (hl : cs.length = n * sz) (hn : n ≤ maxLen)
    (h : ∀ w, (execOp a.eval o).run P w = .ok (.value (.slice (some ⟨w.heap.size, 0, none⟩) n n)) (w.alloc (.cells cs.toArray e))) (hx0 : (M.all fun x => x.i != k) = true) (hk : wpFit P ops W Vs E M val Q (k + 1) rest (a.put (some d) (val d))) : wpFit P ops W Vs E M val Q k (o :: rest) a :=
  fit_make (d, OwW W.heap.size e sz n cs) hg ho hp0 hone (fun w hl' => by
    rw [h w]
    refine ⟨(Only.refl _ _).alloc _, ?_, fun b hb => .inl (by simp only [Value.ownBlock, Option.some.injEq] at hb; omega), fun x hx hxi => absurd hxi (by simpa using List.all_eq_true.1 hx0 x hx)⟩
    have := World.ownsRow_lit (base := W.heap.size) (e := e) (size := sz) w cs.toArray n hl'.1.size hn (by simpa using hl)
    simpa [OwW] using this) hk
/-- append(x, y...), x a word. -/
theorem fit_append {k : Nat} {o : Oper} {rest : List Oper} {a : Act} (d0 d : Tmp) (y : Operand) (t e : TypeId) (i : TypeInfo) (z : Value) (sz bytes : Nat) (ht : P.underlying t = some (.slice e)) (hi : P.info? e = some i) (hz : i.zero = some z) (hsize : i.size = sz) (hby : i.bytes = bytes) (hzs : z.cells.size = sz) (hsz : 0 < sz)
    (n m N : Nat) (xs news zs : List Value) (hN : N = n + m) (hzl : zs = xs ++ news) (hop : o.op = .call { callee := .builtin .append, args := #[.tmp d, y], argTypes := #[t, t] }) (hg : o.guard = none) (ho : o.dst = some d0) (hp0 : (d0, OwW W.heap.size e sz N zs) ∈ Vs) (hone : ∀ p, p ∈ Vs → d0 = p.1 → p = (d0, OwW W.heap.size e sz N zs))
    (hV : (d, OwW W.heap.size e sz n xs) ∈ Vs) (hl : d ∈ o.looksAt ops) (heat : eats E o = [d]) (hd : a.eval (.tmp d) = val d) (hy : ∀ w, leans ops W Vs M k val o w → SrcA w (a.eval y) sz m news) (h63 : n + m ≤ maxLen) (hbytes : (n + m) * bytes ≤ 140737488355328) (hx0 : (M.all fun x => x.i != k) = true)
    (hk : wpFit P ops W Vs E M val Q (k + 1) rest (a.put (some d0) (val d0))) : wpFit P ops W Vs E M val Q k (o :: rest) a := by
  subst hN
  subst hzl
  refine fit_make (d0, OwW W.heap.size e sz (n + m) (xs ++ news)) hg ho hp0 hone (fun w hw => ?_) hk
  have hown : w.ownsRow W.heap.size e sz (val d) n xs := hw.2 _ hV hl
  obtain ⟨v', w', hr, h2, h3, h4⟩ := run_app w W.heap.size t o.type e i z sz bytes ht hi hz hsize hby hzs hsz (val d) n xs hown (a.eval y) m news (hy w hw) h63 hbytes hw.1.size
  have he : eaten E val o = (val d).ownBlock.toList := by unfold eaten; rw [heat]; simp
  have hrun : (execOp a.eval o).run P w = .ok (.value v') w' := by
    unfold execOp
    simp only [hop, resolve, invoke, builtin, Sem.run_bind, Sem.run_pure, Result.andThen_ok, List.map_toArray, List.map_cons, List.map_nil, hd, hr]
  rw [hrun]
  refine ⟨h3.mono fun x hx => .inl (List.mem_append_right _ (by rw [he]; exact hx)), h2, fun b hb => ?_, fun x hx hxi => absurd hxi (by simpa using List.all_eq_true.1 hx0 x hx)⟩
  rcases h4 b hb with h5 | h5
  · exact .inl h5
  · exact .inr (List.mem_append_right _ (by rw [he, h5]; simp))
theorem others_sub {k : Nat} {ks : List Nat} (h : (M.all fun x => x.i == k || (marks ops x.i).getD k false || ks.contains x.i) = true) {b : Nat} (hb : b ∈ others ops M k) : b ∈ bsOf M ks := by
  obtain ⟨x, hx, hxb⟩ := List.mem_flatMap.1 hb
  obtain ⟨h1, h2⟩ := List.mem_filter.1 hx
  simp only [Bool.and_eq_true, Bool.not_eq_true', bne_iff_ne] at h2
  have h3 := List.all_eq_true.1 h x h1
  simp only [Bool.or_eq_true, beq_iff_eq] at h3
  refine List.mem_flatMap.2 ⟨x, List.mem_filter.2 ⟨h1, ?_⟩, hxb⟩
  rcases h3 with (h3 | h3) | h3
  · exact absurd h3 h2.1
  · rw [h2.2] at h3; cases h3
  · exact h3
/-- append(x, y...), x a row that was there before, which this operation alone may touch. -/
theorem fit_appendM {k : Nat} {o : Oper} {rest : List Oper} {a : Act} (d0 : Tmp) (s y : Operand) (t e : TypeId) (i : TypeInfo) (z : Value) (sz bytes : Nat) (ht : P.underlying t = some (.slice e)) (hi : P.info? e = some i) (hz : i.zero = some z) (hsize : i.size = sz) (hby : i.bytes = bytes) (hzs : z.cells.size = sz) (hsz : 0 < sz)
    (B : Nat) (v : Value) (n m N : Nat) (xs news zs : List Value) (hN : N = n + m) (hzl : zs = xs ++ news) (hop : o.op = .call { callee := .builtin .append, args := #[s, y], argTypes := #[t, t] }) (hg : o.guard = none) (ho : o.dst = some d0) (hp0 : (d0, OwW B e sz N zs) ∈ Vs) (hone : ∀ p, p ∈ Vs → d0 = p.1 → p = (d0, OwW B e sz N zs))
    (hs : a.eval s = v) (hW : W.ownsRow B e sz v n xs) (hrow : rows M k = v.ownBlock.toList) (hall : ∀ x, x ∈ M → x.i = k → x.row = true) (ks : List Nat) (hks : (M.all fun x => x.i == k || (marks ops x.i).getD k false || ks.contains x.i) = true) (hoth : ∀ b, b ∈ bsOf M ks → v.ownBlock ≠ some b) (hB : B ≤ W.heap.size) (hy : ∀ w, leans ops W Vs M k val o w → SrcA w (a.eval y) sz m news) (h63 : n + m ≤ maxLen) (hbytes : (n + m) * bytes ≤ 140737488355328)
    (hk : wpFit P ops W Vs E M val Q (k + 1) rest (a.put (some d0) (val d0))) : wpFit P ops W Vs E M val Q k (o :: rest) a := by
  subst hN
  subst hzl
  refine fit_make (d0, OwW B e sz (n + m) (xs ++ news)) hg ho hp0 hone (fun w hw => ?_) hk
  have hown : w.ownsRow B e sz v n xs := own_keep hW hw.1 fun b hb => hoth b (others_sub hks hb)
  obtain ⟨v', w', hr, h2, h3, h4⟩ := run_app w B t o.type e i z sz bytes ht hi hz hsize hby hzs hsz v n xs hown (a.eval y) m news (hy w hw) h63 hbytes (Nat.le_trans hB hw.1.size)
  have hrun : (execOp a.eval o).run P w = .ok (.value v') w' := by
    unfold execOp
    simp only [hop, resolve, invoke, builtin, Sem.run_bind, Sem.run_pure, Result.andThen_ok, List.map_toArray, List.map_cons, List.map_nil, hs, hr]
  rw [hrun]
  refine ⟨h3.mono fun x hx => .inl (List.mem_append_left _ (rows_mine (by rw [hrow]; exact hx))), h2, fun b hb => ?_, fun x hx hxi hxr => by rw [hall x hx hxi] at hxr; cases hxr⟩
  rcases h4 b hb with h5 | h5
  · exact .inl h5
  · exact .inr (List.mem_append_left _ (by rw [hrow, h5]; simp))
/-- A row that was there before, to which operation k alone appends. -/
def rowOwn (k : Nat) (v : Value) : Own := ⟨k, v.ownBlock.toList, true, [], fun _ _ => True⟩
theorem rowOwn_ok {k B : Nat} {e : TypeId} {sz n : Nat} {v : Value} {xs : List Value} (h : W.ownsRow B e sz v n xs) : (rowOwn k v).Ok ops W Vs := ⟨fun b hb => (h.lt b (by simpa [rowOwn] using hb)).2, fun _ _ _ _ _ _ _ => trivial⟩
/-- A block that was there before, in which operation k alone stores the value of temporary d at a place. -/
def cellOwn (k b : Nat) (t : TypeId) (cs : List Value) (off : Nat) (d : Tmp) : Own := ⟨k, [b], false, [d], fun vs w => Cells w b t (cs.set off (vs.headD undef))⟩
theorem cellOwn_ok {k b : Nat} {t : TypeId} {cs : List Value} {off : Nat} {d : Tmp} (h : b < W.heap.size) : (cellOwn k b t cs off d).Ok ops W Vs :=
  ⟨fun b' hb => by simp [cellOwn] at hb; omega, fun vs w w' S hC ho hS => Cells.only hC ho fun hm => hS b hm (by simp [cellOwn])⟩
/-- The store of a slice that is a word. -/
theorem fit_storeW {k : Nat} {o : Oper} {rest : List Oper} {a : Act} (b : Nat) (t : TypeId) (cs : List Value) (off : Nat) (d : Tmp) (B : Nat) (e : TypeId) (sz n : Nat) (xs : List Value) (hg : o.guard = none) (ho : o.dst = none) (hV : (d, OwW B e sz n xs) ∈ Vs) (hl : d ∈ o.looksAt ops)
    (hC : Cells W b t cs) (ks : List Nat) (hks : (M.all fun x => x.i == k || (marks ops x.i).getD k false || ks.contains x.i) = true) (hoth : b ∉ bsOf M ks) (hmine : b ∈ mine M k) (hall : ∀ x, x ∈ M → x.i = k → x = cellOwn k b t cs off d)
    (hrun : ∀ w A m c, val d = .slice A m c → Cells w b t cs → (execOp a.eval o).run P w = .ok .skip (w.setCell ⟨b, off, none⟩ (val d)))
    (hk : wpFit P ops W Vs E M val Q (k + 1) rest (a.put none undef)) : wpFit P ops W Vs E M val Q k (o :: rest) a := by
  refine ⟨undef, .inl ⟨by simp [Region.wanted, hg], fun p hp hd => (by rw [ho] at hd; cases hd), fun w hw => ?_⟩, by rw [ho]; exact hk⟩
  have hown : w.ownsRow B e sz (val d) n xs := hw.2 _ hV hl
  obtain ⟨A, c, hs⟩ := (SlAt.of_own hown).shape
  have hCw := hC.only hw.1 fun h => hoth (others_sub hks h)
  rw [hrun w A n c hs hCw]
  refine ⟨(Only.refl _ _).setCell (.inl (List.mem_append_left _ hmine)) _, fun p hp hd => (by rw [ho] at hd; cases hd), fun x hx hxi _ => ?_, fun _ => rfl⟩
  rw [hall x hx hxi]
  exact hCw.set off (val d)
end
end Go.Proofs.Ytjfnkjpnjiobjaa
