/-
  Chapter 8: laws' common pieces: what comes in, plain facts of slices and texts.
-/
import Derived.Test.YtagklgodcbmcaaaR8q
namespace Go.Proofs.Ytagklgodcbmcaaa
open Go.RowKit
set_option maxRecDepth 100000 in
theorem open_partsT {H : Type} {enc : TypeId × Value → H} {w : World} {base : Nat} {spare : Nat → Bool} {held : Bool} {r : Reach} {b0 : Nat} {v : Value} {d : DataW H} {p : List MemPlace}
    (hv : Value.okWide Try.prog w r b0 22 v) (h : DataW.Trod enc Try.prog w base spare held 22 v d p) : ∃ ps : List Pt, PtsAt w v ps ∧ True := by
  obtain ⟨ps, h⟩ := open_parts hv h
  exact ⟨ps, h, trivial⟩
theorem vtx_length (l : List Int) (h : ∀ x ∈ l, Wide64 x) (hl : l.length ≤ 30) : (vtx l).length ≤ 310 := by
  unfold vtx
  have h1 := isb_length l h
  have h2 := (ib_length l.length ⟨by omega, by omega⟩).2
  rw [List.length_append]
  omega
theorem Pt.text_size {w : World} {p : Pt} (h : p.Ok w) (hd : p.d.size ≤ 300) (hv : p.vs.length ≤ 30) : p.text.size ≤ 310 := by
  unfold Pt.text
  split
  · omega
  · exact vtx_length p.vs h.wide hv
theorem entL_dok {w : World} {v : Value} {ps : List Pt} (h : PtsAt w v ps) (hs : smallB ps = true) (f : Int) : DOk (entL ps f) := by
  intro x hx
  obtain ⟨k, hk⟩ := List.getElem?_of_mem hx
  rw [entL_get] at hk
  cases hp : ps[k]? with
  | none => rw [hp] at hk; cases hk
  | some p =>
    rw [hp] at hk
    simp only [Option.map_some, Option.some.injEq] at hk
    subst hk
    have hm := List.mem_of_getElem? hp
    obtain ⟨_, h2⟩ := smallB_iff hs
    have := Pt.text_size (h.ok p hm) (h2 p hm).1 (h2 p hm).2
    show p.text.size ≤ _
    omega
theorem takeL_entL (ps : List Pt) : ∀ (x : Bas) (l : List En) (f : Int), f = x.ix + l.length + 1 → takeL ⟨x, l⟩ (entL ps f) = ⟨x, l ++ entL ps f⟩ := by
  induction ps with
  | nil => intro x l f _; simp [entL, takeL]
  | cons p r ih =>
    intro x l f hf
    have hl : (⟨x, l⟩ : LG).last = x.ix + l.length := rfl
    have hx : (p.en f).ix = f := rfl
    unfold entL takeL
    rw [if_neg (by rw [hl, hx]; omega), if_pos (by rw [hl, hx]; omega)]
    show takeL ⟨x, l ++ [p.en f]⟩ (entL r (f + 1)) = _
    rw [ih x (l ++ [p.en f]) (f + 1) (by simp; omega)]
    simp
theorem takeL_ent0 (ps : List Pt) (x : Bas) : takeL ⟨x, []⟩ (entL ps (x.ix + 1)) = ⟨x, entL ps (x.ix + 1)⟩ := by
  rw [takeL_entL ps x [] (x.ix + 1) (by simp)]; rfl
theorem slice_all (x : Bas) (l : List En) (h : l.length ≤ 1000) : (⟨x, l⟩ : LG).slice (x.ix + 1) 1000 = l := by
  unfold LG.slice LG.last
  dsimp only
  split
  · rename_i hc
    have : l.length = 0 := by omega
    rw [List.eq_nil_of_length_eq_zero this]
  · rw [show (x.ix + 1 - x.ix - 1).toNat = 0 from by omega, List.drop_zero, List.take_of_length_le (by simpa using h)]
theorem entL_take (ps : List Pt) (f : Int) (k : Nat) : (entL ps f).take k = entL (ps.take k) f := by
  induction ps generalizing f k with
  | nil => simp [entL]
  | cons p r ih =>
    cases k with
    | zero => simp [entL]
    | succ k => simp [entL, ih]
/-- Entries in a row of the call's own, apart from a log. -/
structure EnW (W w : World) (K : List Nat) (v : Value) (l : List En) : Prop where
  own : w.ownsRow W.heap.size 40 4 v l.length (enL l)
  off : ∀ q, v.ownBlock = some q → q ∉ K
theorem EnW.toR {W w : World} {K : List Nat} {v : Value} {l : List En} (h : EnW W w K v l) : EnR w K v l := ⟨own_low h.own (Nat.zero_le _), h.off⟩
theorem EnW.keep {S K : List Nat} {W w w' : World} {v : Value} {l : List En} (h : EnW W w K v l) (ho : Only S w w') (hS : ∀ x, x ∈ S → x ∈ K) : EnW W w' K v l :=
  ⟨own_keep h.own ho (fun x hx he => h.off x he (hS x hx)), h.off⟩
theorem EnW.grew {K K' : List Nat} {W w w' : World} {v : Value} {l : List En} (h : EnW W w K v l) (hg : Grew w w' K K') : EnW W w' K' v l :=
  ⟨own_keep h.own hg.only (fun x hx he => h.off x he hx), fun q hq hm => (hg.blocks q hm).elim (h.off q hq) fun h2 => by have := (h.own.lt q hq).2; omega⟩
theorem EnW.only {K : List Nat} {W w w' : World} {v : Value} {l : List En} (h : EnW W w K v l) (ho : Only [] w w') : EnW W w' K v l := h.keep ho (by simp)
theorem EnW.nil (W w : World) (K : List Nat) : EnW W w K (.slice none 0 0) [] := ⟨World.ownsRow_nil _ _ _ _, fun q hq => by simp [Value.ownBlock] at hq⟩
theorem EnW.sl {W w : World} {K : List Nat} {v : Value} {l : List En} (h : EnW W w K v l) : SlAt w w.heap.size v 4 l.length (enL l) := SlAt.of_own h.own
/-- A row that was made behind the log. -/
theorem EnW.mk' {W w w' : World} {K : List Nat} {b : Nat} {g : LG} {v : Value} {l : List En} (h : LogAt W w K b g) (hr : w'.ownsRow w.heap.size 40 4 v l.length (enL l)) : EnW W w' K v l :=
  ⟨own_low hr h.only.size, fun q hq hm => by have := (hr.lt q hq).1; have := h.k.below q hm; omega⟩
theorem en_cells {w : World} {z : Nat} {y : En} (h : Cells w z 40 y.cells) : w.cell? ⟨z, 0, none⟩ = some (.int .i64 y.ix) ∧ w.cell? ⟨z, 1, none⟩ = some (.int .i64 y.tm) ∧ w.cell? ⟨z, 2, none⟩ = some (.int .i64 y.kd) ∧ w.cell? ⟨z, 3, none⟩ = some (.string y.d) :=
  ⟨h.cell (k := 0) rfl, h.cell (k := 1) rfl, h.cell (k := 2) rfl, h.cell (k := 3) rfl⟩
theorem wpList_appXA {P : Program} {ops : Array Oper} {rest : List Oper} {o : Oper} {a : Act} {Q : Exit → Act → World → Prop} (hgd : o.guard = none) (s x : Operand) (t : TypeId)
    (ho : o.op = .call { callee := .builtin .append, args := #[s, x], argTypes := #[t, t] })
    (base : Nat) (e : TypeId) (i : TypeInfo) (z : Value) (size bytes : Nat) (ht : P.underlying t = some (.slice e)) (hi : P.info? e = some i) (hz : i.zero = some z)
    (hsize : i.size = size) (hby : i.bytes = bytes) (hzs : z.cells.size = size) (hsz : 0 < size) (w : World)
    (v : Value) (n : Nat) (xs : List Value) (hs : a.eval s = v) (hown : w.ownsRow base e size v n xs)
    (B m : Nat) (cs : List Value) (A : Addr) (c : Nat) (hx : a.eval x = .slice (some A) m c) (hu : SlAt w B (.slice (some A) m c) size m cs) (h1 : ∀ u ∈ cs, u.oneCell' = true)
    (h63 : n + m ≤ maxLen) (hbytes : (n + m) * bytes ≤ 140737488355328) (hbase : base ≤ w.heap.size)
    (h : ∀ v' w', w'.ownsRow base e size v' (n + m) (xs ++ cs) → w.grownBy w' v.ownBlock → NewOf w v v' → wpList P ops Q rest (a.put o.dst v') w') :
    wpList P ops Q (o :: rest) a w := by
  refine wpList_append_own_at (w := w) hgd s x t ho base e i z size bytes ht hi hz hsize hby hzs hsz v n xs hs hown A m c cs hx hu.1 (fun j u hj => ?_) h1 h63 hbytes hbase fun v' w' h2 h3 _ h5 => h v' w' h2 h3 ?_
  · have hlt : j < cs.length := (List.getElem?_eq_some_iff.1 hj).1
    have hl := hu.1
    obtain ⟨b, o', c', hv, hb, hc⟩ := hu.at_ (by omega)
    injection hv with hv
    injection hv with hv
    subst hv
    rw [Addr.add_lit]
    exact hc j u hj
  · intro g hg
    rcases h5 with h5 | h5
    · exact .inl (by rw [← h5]; exact hg)
    · rw [h5] at hg
      injection hg with hg
      exact .inr (by omega)
theorem EnW.app {W w w' : World} {K : List Nat} {b : Nat} {g : LG} {v v' : Value} {l m : List En} (h : EnW W w K v l) (hL : LogAt W w K b g) (hown : w'.ownsRow W.heap.size 40 4 v' (l.length + m.length) (enL l ++ enL m)) (hg : w.grownBy w' v.ownBlock) (hn : NewOf w v v') :
    EnW W w' K v' (l ++ m) ∧ LogAt W w' K b g ∧ Only (rb v) w w' := by
  have ho : Only (rb v) w w' := (Only.refl _ w).grown hg (fun g hg => .inl (by simp [rb, hg]))
  refine ⟨⟨by rw [List.length_append, enL_append]; exact hown, fun q hq hm => (hn q hq).elim (fun h2 => h.off q h2 hm) (fun h2 => by have := hL.k.below q hm; omega)⟩, ?_, ho⟩
  exact hL.keep ho (fun q hq => h.off q (mem_rb.1 hq)) (hL.only.trans ho (fun q hq => .inr (h.own.lt q (mem_rb.1 hq)).1))
theorem la_newE {W w : World} (ho : Only [] W w) (x : Bas) (vv va : Value) (ps : List Pt) (B B' : Nat) (hv : w.ownsRow B 3 1 vv x.vs.length (gvs x.vs)) (he : w.ownsRow B' 40 4 va ps.length (enL (entL ps (x.ix + 1))))
    (h0 : 0 ≤ x.ix) (h30 : x.ix < 30) (h3 : x.vs.length = 3) (h60 : ps.length ≤ 60) (hd : DOk (entL ps (x.ix + 1))) :
    Calls Try.prog 18 #[.agg #[.int .i64 x.ix, .int .i64 x.tm, vv, .string x.d], va] w fun e w' => ∃ b K, e = .returned (.pointer (some ⟨b, 0, none⟩)) ∧ Hid (LogAt W w' K b ⟨x, entL ps (x.ix + 1)⟩) ∧ Hid (Only [] w w') ∧ Hid (∀ q, q ∈ K → w.heap.size ≤ q) :=
  la_new W w ho x vv va (entL ps (x.ix + 1)) (SlAt.of_own hv) (by rw [entL_length]; exact own_low he (Nat.zero_le _)) h0 (by rw [entL_length]; omega) (by omega) hd _ (takeL_ent0 ps x)
theorem bas_cells {w : World} {z : Nat} {x : Bas} {vv : Value} (h : Cells w z 27 [.int .i64 x.ix, .int .i64 x.tm, vv, .string x.d]) : w.cell? ⟨z, 0, none⟩ = some (.int .i64 x.ix) ∧ w.cell? ⟨z, 1, none⟩ = some (.int .i64 x.tm) ∧ w.cell? ⟨z, 2, none⟩ = some vv ∧ w.cell? ⟨z, 3, none⟩ = some (.string x.d) :=
  ⟨h.cell (k := 0) rfl, h.cell (k := 1) rfl, h.cell (k := 2) rfl, h.cell (k := 3) rfl⟩
theorem bfld0 (w : World) (a b c d : Value) : (Instr.field 27 (.agg #[a, b, c, d]) 0).run Try.prog w = .ok a w := by kernel_rfl
theorem bfld1 (w : World) (a b c d : Value) : (Instr.field 27 (.agg #[a, b, c, d]) 1).run Try.prog w = .ok b w := by kernel_rfl
theorem bfld2 (w : World) (a b c d : Value) : (Instr.field 27 (.agg #[a, b, c, d]) 2).run Try.prog w = .ok c w := by kernel_rfl
theorem bfld3 (w : World) (a b c d : Value) : (Instr.field 27 (.agg #[a, b, c, d]) 3).run Try.prog w = .ok d w := by kernel_rfl
theorem bas_bound (b t : Int) : 0 ≤ (bas b t).ix ∧ (bas b t).ix < 30 ∧ (bas b t).vs.length = 3 := ⟨(pickI_lt b 30 (by omega)).1, (pickI_lt b 30 (by omega)).2, rfl⟩
end Go.Proofs.Ytagklgodcbmcaaa
