/-
  Chapter 6: the library's small functions: Index, Contains, Clone.
-/
import Derived.Test.YtllapfpakoobcaaDelL
import Derived.Test.YtllapfpakoobcaaOpen
import Derived.Test.YtllapfpakoobcaaPend
namespace Go.Proofs.Ytllapfpakoobcaa
open Go.RowKit
def gvs (l : List Int) : List Value := l.map fun n => Value.int .i64 n
theorem gvs_length (l : List Int) : (gvs l).length = l.length := by simp [gvs]
theorem gvs_one (l : List Int) : ∀ u ∈ gvs l, u.oneCell' = true := by
  intro u hu
  obtain ⟨n, _, rfl⟩ := List.mem_map.1 hu
  rfl
theorem info_int : (Try.prog.info? 3).map (fun i => (i.zero, i.size, i.bytes)) = some (some (.int .i64 0), 1, 8) := by kernel_rfl
theorem gvs_cell {w : World} {B n : Nat} {v : Value} {l : List Int} (h : SlAt w B v 1 l.length (gvs l)) (hn : n < l.length) : ∃ b o c, v = .slice (some ⟨b, o, none⟩) l.length c ∧ w.cell? ⟨b, o + n, none⟩ = some (.int .i64 (l[n]'hn)) ∧ b < B := by
  obtain ⟨b, o, c, hv, hb, hc⟩ := h.at_ (by omega)
  exact ⟨b, o, c, hv, hc n _ (by simp [gvs, List.getElem?_eq_getElem hn]), hb⟩
set_option maxRecDepth 100000 in
theorem index_int (v : Value) (l : List Int) (x : Int) (B : Nat) (w : World) (hl : l.length ≤ 1000000000) (hs : SlAt w B v 1 l.length (gvs l)) :
    Calls Try.prog 41 #[v, .int .i64 x] w fun e w' => ∃ n : Int, e = .returned (.int .i64 n) ∧ decide (0 ≤ n) = decide (x ∈ l) ∧ w = w' := by
  obtain ⟨A, c, rfl⟩ := hs.shape
  have HS := Lib.hid hs
  clear hs
  go_enter Try.func41, Try.ntmps41
  go_wp2_with fail
  go_loop [8] (fun i => ∃ k : Nat, k ≤ l.length ∧ i = .int .i64 k ∧ Hid (x ∉ l.take k)) (fun i => l.length - (intOf i).toNat)
  case atStart => exact ⟨0, by omega, rfl, by show _ ∉ _; simp⟩
  case round =>
    obtain ⟨k, hk, rfl, hno⟩ := hrel
    by_cases hlt : k < l.length
    · have hlt' : (k : Int) < (l.length : Int) := by omega
      obtain ⟨b1, o1, c1, e1, q1, -⟩ := gvs_cell HS.out hlt
      injection e1 with i1 i2 i3
      subst i1; subst i3
      have hk1 := List.getElem?_eq_getElem hlt
      obtain ⟨y, hy⟩ : ∃ y, l[k] = y := ⟨_, rfl⟩
      rw [hy] at q1 hk1
      have HK := Lib.hid hk1
      clear hy hk1
      by_cases hxy : x = y
      · have hm : decide (x ∈ l) = true := by simpa [hxy] using List.mem_of_getElem? HK.out
        have HM := Lib.hid hm
        subst hxy
        clear hm
        go_wp2_with fail
        go_ret
        exact ⟨_, rfl, by have := HM.out; simp at this; simp [this], rfl⟩
      · have hne : (x == y) = false := by simpa using hxy
        have hn2 : Hid (x ∉ l.take (k + 1)) := by
          show _ ∉ _
          rw [List.take_add_one, HK.out]
          simp only [Option.toList_some, List.mem_append, List.mem_singleton, not_or]
          exact ⟨hno.out, hxy⟩
        clear hxy
        go_wp2_with fail
        go_round
        case rel => exact ⟨k + 1, by omega, by go_num, hn2⟩
        case measure => simp [intOf]; omega
    · have hd : decide ((k : Int) < (l.length : Int)) = false := by simp; omega
      have hm : decide (x ∈ l) = false := by
        have := hno.out
        rw [List.take_of_length_le (by omega)] at this
        simpa using this
      have HM := Lib.hid hm
      clear hm
      go_wp2_with fail
      go_ret
      exact ⟨-1, rfl, by have := HM.out; simp at this; simp [this], rfl⟩
theorem contains_int (v : Value) (l : List Int) (x : Int) (B : Nat) (w : World) (hl : l.length ≤ 1000000000) (hs : SlAt w B v 1 l.length (gvs l)) :
    Calls Try.prog 36 #[v, .int .i64 x] w fun e w' => e = .returned (.bool (decide (x ∈ l))) ∧ w = w' := by
  have CI := Lib.hid (index_int v l x B w hl hs)
  clear hs
  go_enter Try.func36, Try.ntmps36
  go_wp2_with fail
  refine CI.out.mono ?_
  rintro e w1 ⟨n, rfl, hn, rfl⟩
  have HN := Lib.hid hn
  clear hn
  go_wp2_with fail
  all_goals
    go_ret
    exact ⟨by have := HN.out; simp_all, rfl⟩
/-- Appending a slice that came from anywhere to an own row. -/
theorem wpList_appX {P : Program} {ops : Array Oper} {rest : List Oper} {o : Oper} {a : Act} {Q : Exit → Act → World → Prop} (hgd : o.guard = none) (s x : Operand) (t : TypeId)
    (ho : o.op = .call { callee := .builtin .append, args := #[s, x], argTypes := #[t, t] })
    (base : Nat) (e : TypeId) (i : TypeInfo) (z : Value) (size bytes : Nat) (ht : P.underlying t = some (.slice e)) (hi : P.info? e = some i) (hz : i.zero = some z)
    (hsize : i.size = size) (hby : i.bytes = bytes) (hzs : z.cells.size = size) (hsz : 0 < size) (w : World)
    (v : Value) (n : Nat) (xs : List Value) (hs : a.eval s = v) (hown : w.ownsRow base e size v n xs)
    (B m : Nat) (cs : List Value) (A : Addr) (c : Nat) (hx : a.eval x = .slice (some A) m c) (hu : SlAt w B (.slice (some A) m c) size m cs) (h1 : ∀ u ∈ cs, u.oneCell' = true)
    (h63 : n + m ≤ maxLen) (hbytes : (n + m) * bytes ≤ 140737488355328) (hbase : base ≤ w.heap.size)
    (h : ∀ v' w', w'.ownsRow base e size v' (n + m) (xs ++ cs) → w.grownBy w' v.ownBlock → wpList P ops Q rest (a.put o.dst v') w') :
    wpList P ops Q (o :: rest) a w := by
  refine wpList_append_own _ hgd s x t ho base e i z size bytes ht hi hz hsize hby hzs hsz v n xs hs hown A m c cs hx hu.1 (fun j u hj => ?_) h1 h63 hbytes hbase fun v' w' h2 h3 h4 => h v' w' h2 h3
  have hlt : j < cs.length := (List.getElem?_eq_some_iff.1 hj).1
  have hl := hu.1
  obtain ⟨b, o', c', hv, hb, hc⟩ := hu.at_ (by omega)
  injection hv with hv
  injection hv with hv
  subst hv
  rw [Addr.add_lit]
  exact hc j u hj
theorem nil_int0 (c : Nat) (w : World) : (binOp .eql 29 (.slice none 0 c) (.slice none 0 0)).run Try.prog w = .ok (.bool true) w := by kernel_rfl
theorem nil_int1 (A : Addr) (n c : Nat) (w : World) : (binOp .eql 29 (.slice (some A) n c) (.slice none 0 0)).run Try.prog w = .ok (.bool false) w := by kernel_rfl
theorem nil_let0 (c : Nat) (w : World) : (binOp .eql 46 (.slice none 0 c) (.slice none 0 0)).run Try.prog w = .ok (.bool true) w := by kernel_rfl
theorem nil_let1 (A : Addr) (n c : Nat) (w : World) : (binOp .eql 46 (.slice (some A) n c) (.slice none 0 0)).run Try.prog w = .ok (.bool false) w := by kernel_rfl
attribute [local go_sem] nil_int0 nil_int1 nil_let0 nil_let1
set_option maxRecDepth 100000 in
theorem clone_int (v : Value) (l : List Int) (B : Nat) (w : World) (hB : B ≤ w.heap.size) (hl : l.length ≤ 1000000000) (hs : SlAt w B v 1 l.length (gvs l)) :
    Calls Try.prog 34 #[v] w fun e w' => ∃ v', e = .returned v' ∧ w'.ownsRow w.heap.size 3 1 v' l.length (gvs l) ∧ Only [] w w' := by
  obtain ⟨i0, hi0, hz0, hz1, hz2⟩ := info_parts info_int
  obtain ⟨A, c, rfl⟩ := hs.shape
  cases A with
  | none =>
    have h0 : l = [] := by
      rcases Nat.eq_zero_or_pos l.length with h | h
      · exact List.eq_nil_of_length_eq_zero h
      · obtain ⟨b, o, c', hv, _⟩ := hs.at_ (by omega); injection hv with hv; cases hv
    subst h0
    clear hs
    go_enter Try.func34, Try.ntmps34
    go_wp2_with fail
    go_ret
    exact ⟨_, rfl, World.ownsRow_nil _ _ _ _, Only.refl _ _⟩
  | some A =>
    have HS := Lib.hid hs
    clear hs
    go_enter Try.func34, Try.ntmps34
    go_wp2_with (at_builtin
                 refine wpList_appX rfl _ _ 29 rfl w.heap.size 3 i0 _ 1 8 Try.underlying29 hi0 hz0 hz1 hz2 rfl (by decide) (w.alloc (.cells #[] 3)) (.slice (some ⟨w.heap.size, 0, none⟩) 0 0) 0 [] rfl (World.ownsRow_lit (base := w.heap.size) (e := 3) (size := 1) w #[] 0 (Nat.le_refl _) (by decide) rfl) B l.length (gvs l) A c rfl (HS.out.only ((Only.refl [] w).alloc _) hB (by simp)) (gvs_one l) (by simp only [maxLen]; omega) (by omega) (by simp) ?_
                 intro v' w' hown' hgrow)
    go_ret
    exact ⟨_, rfl, by simpa using hown', ((Only.refl [] w).alloc _).own (World.ownsRow_lit (base := w.heap.size) (e := 3) (size := 1) w #[] 0 (Nat.le_refl _) (by decide) rfl) hgrow (Nat.le_refl _)⟩
structure Lt where
  fr : Int
  to : Int
  d : ByteArray
def Lt.cells (x : Lt) : List Value := [.int .i64 x.fr, .int .i64 x.to, .string x.d]
def Lt.val (x : Lt) : Value := .agg #[.int .i64 x.fr, .int .i64 x.to, .string x.d]
theorem Lt.cells_length (x : Lt) : x.cells.length = 3 := rfl
def ltL (l : List Lt) : List Value := l.flatMap Lt.cells
theorem ltL_length (l : List Lt) : (ltL l).length = l.length * 3 := flat_length Lt.cells 3 Lt.cells_length l
theorem ltL_append (l m : List Lt) : ltL (l ++ m) = ltL l ++ ltL m := by unfold ltL; rw [List.flatMap_append]
theorem ltL_get (l : List Lt) (k j : Nat) (x : Lt) (h : l[k]? = some x) (hj : j < 3) : (ltL l)[k * 3 + j]? = x.cells[j]? := flat_get Lt.cells 3 Lt.cells_length l k j x h hj
theorem ltL_one (l : List Lt) : ∀ u ∈ ltL l, u.oneCell' = true := by
  intro u hu
  obtain ⟨x, _, hx⟩ := List.mem_flatMap.1 hu
  unfold Lt.cells at hx
  simp at hx
  rcases hx with rfl | rfl | rfl <;> rfl
set_option maxRecDepth 100000 in
theorem clone_let (v : Value) (l : List Lt) (B : Nat) (w : World) (hB : B ≤ w.heap.size) (hl : l.length ≤ 1000000000) (hs : SlAt w B v 3 l.length (ltL l)) :
    Calls Try.prog 32 #[v] w fun e w' => ∃ v', e = .returned v' ∧ w'.ownsRow w.heap.size 37 3 v' l.length (ltL l) ∧ Only [] w w' := by
  obtain ⟨i0, hi0, hz0, hz1, hz2⟩ := info_parts info_let
  obtain ⟨A, c, rfl⟩ := hs.shape
  cases A with
  | none =>
    have h0 : l = [] := by
      rcases Nat.eq_zero_or_pos l.length with h | h
      · exact List.eq_nil_of_length_eq_zero h
      · obtain ⟨b, o, c', hv, _⟩ := hs.at_ (by omega); injection hv with hv; cases hv
    subst h0
    clear hs
    go_enter Try.func32, Try.ntmps32
    go_wp2_with fail
    go_ret
    exact ⟨_, rfl, World.ownsRow_nil _ _ _ _, Only.refl _ _⟩
  | some A =>
    have HS := Lib.hid hs
    clear hs
    go_enter Try.func32, Try.ntmps32
    go_wp2_with (at_builtin
                 refine wpList_appX rfl _ _ 46 rfl w.heap.size 37 i0 _ 3 32 Try.underlying46 hi0 hz0 hz1 hz2 rfl (by decide) (w.alloc (.cells #[] 37)) (.slice (some ⟨w.heap.size, 0, none⟩) 0 0) 0 [] rfl (World.ownsRow_lit (base := w.heap.size) (e := 37) (size := 3) w #[] 0 (Nat.le_refl _) (by decide) rfl) B l.length (ltL l) A c rfl (HS.out.only ((Only.refl [] w).alloc _) hB (by simp)) (ltL_one l) (by simp only [maxLen]; omega) (by omega) (by simp) ?_
                 intro v' w' hown' hgrow)
    go_ret
    exact ⟨_, rfl, by simpa using hown', ((Only.refl [] w).alloc _).own (World.ownsRow_lit (base := w.heap.size) (e := 37) (size := 3) w #[] 0 (Nat.le_refl _) (by decide) rfl) hgrow (Nat.le_refl _)⟩
end Go.Proofs.Ytllapfpakoobcaa
