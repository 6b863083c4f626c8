/-
  Squeezing, both answers; whether an item is right, both answers.
-/
import Derived.Test.YtjfnkjpnjiobjaaShelf17
import Derived.Test.YtjfnkjpnjiobjaaSq17
import Derived.Test.YtjfnkjpnjiobjaaRows
import Derived.Test.YtjfnkjpnjiobjaaOpen
import Derived.Test.YtjfnkjpnjiobjaaBuild
import Derived.Laws.IdiomStrings
namespace Go.Proofs.Ytjfnkjpnjiobjaa
open Go.RowKit
theorem below_only0 {w w' : World} (h : Below w.heap.size w w') : Only [] w w' := ⟨h.os, h.tape, h.output, h.size, fun k hk _ => h.block k hk⟩
theorem sq_len (l : List UInt8) : (sq l).length ≤ 2 * l.length := by
  rw [← sq_doc]
  have : ∀ (r : List UInt8) (s : List UInt8 × Bool), (r.foldl sqStep s).1.length ≤ s.1.length + 2 * r.length := by
    intro r
    induction r with
    | nil => intro s; simp
    | cons c r ih =>
      intro s
      rw [List.foldl_cons]
      have h1 := ih (sqStep s c)
      have h2 : (sqStep s c).1.length ≤ s.1.length + 2 := by
        unfold sqStep
        split
        · show s.1.length ≤ _; omega
        · show (if s.2 = true then s.1 ++ [32] ++ [c] else s.1 ++ [c]).length ≤ _; split <;> simp
      simp only [List.length_cons]
      omega
  simpa using this l ([], false)
theorem toNat_byte17 (x : Nat) (h : x < 256) : (UInt8.ofNat x).toNat = x := by
  rw [UInt8.toNat_ofNat']; omega
theorem index_blank (b : UInt8) : Lib.indexByte [32, 9, 10, 13] b < 0 ↔ blank b = false := by
  unfold blank
  by_cases h0 : b = 32
  · subst h0; decide
  by_cases h1 : b = 9
  · subst h1; decide
  by_cases h2 : b = 10
  · subst h2; decide
  by_cases h3 : b = 13
  · subst h3; decide
  have e : ∀ k : UInt8, ¬ b = k → ¬ k = b := fun k h e => h e.symm
  simp [Lib.indexByte, h0, h1, h2, h3, e 32 h0, e 9 h1, e 10 h2, e 13 h3]
set_option maxRecDepth 100000 in
theorem squeeze1 (x : Nat) (hx : x ≤ 1114111) (W : World) : Calls Try.prog 120 #[.int .i32 x] W fun e w' => e = .returned (.bool (blankR x)) ∧ w' = W := by
  by_cases h : x < 128
  · have d1 : decide ((x : Int) < 128) = true := by simp; omega
    have hb : ((UInt8.ofNat x).toNat : Int) = x := by rw [toNat_byte17 _ (by omega)]
    have hbl := blank_nat (UInt8.ofNat x)
    rw [toNat_byte17 _ (by omega)] at hbl
    have CI := Lib.hid (fun w' => Try.strings_IndexByte ⟨#[32, 9, 10, 13]⟩ x w')
    go_enter Try.func120, Try.ntmps120
    go_wp2_with fail
    refine (CI.out _).mono ?_
    rintro e w' ⟨rfl, rfl⟩
    have hI := index_blank (UInt8.ofNat x)
    rw [hbl] at hI
    rw [show ((x : Int)).toNat.toUInt8 = UInt8.ofNat x from rfl]
    obtain ⟨I, hIe⟩ : ∃ I, Lib.indexByte [32, 9, 10, 13] (UInt8.ofNat x) = I := ⟨_, rfl⟩
    rw [hIe] at hI ⊢
    have hd : decide (0 ≤ I) = blankR x := by
      cases hb : blankR x with
      | true => rw [hb] at hI; have : ¬ I < 0 := fun h => by cases hI.1 h
                simp; omega
      | false => rw [hb] at hI; have : I < 0 := hI.2 rfl
                 simp; omega
    clear hI hIe hbl hb
    go_wp2_with fail
    go_ret
    exact ⟨by rw [← hd]; rfl, rfl⟩
  · have d1 : decide ((x : Int) < 128) = false := by simp; omega
    have hr := blankR_high (r := x) (by omega)
    go_enter Try.func120, Try.ntmps120
    go_wp2_with fail
    go_ret
    exact ⟨by rw [hr]; rfl, rfl⟩
theorem fieldsB_len : ∀ (l : List UInt8) (cur : Option (List UInt8)), (fieldsB cur l).length ≤ l.length + cur.toList.length := by
  intro l
  induction l with
  | nil => intro cur; simp [fieldsB]
  | cons b r ih =>
    intro cur
    unfold fieldsB
    split
    · have := ih none
      rw [List.length_append]
      simp at this ⊢
      omega
    · have := ih (some (cur.getD [] ++ [b]))
      simp at this ⊢
      omega
theorem enters_sq : ∀ args w, (callFunc 120 args).run Try.prog w = .ok (.enter 120 args) w := fun args w => enters_of Try.func120 (by kernel_rfl) rfl args w
set_option maxRecDepth 100000 in
theorem tree_squeeze (l : List UInt8) (w : World) (hl : l.length ≤ 4294967296) :
    Calls Try.prog 92 #[.string ⟨l.toArray⟩] w fun e w' => e = .returned (.string ⟨(sq l).toArray⟩) ∧ Only [] w w' := by
  have hp : PredAtRunes Try.prog 120 #[] blankR w := fun W x hx _ => (squeeze1 x hx W).mono fun e w' ⟨h1, h2⟩ => ⟨h1, 0, h2⟩
  have CF := Lib.hid (Try.strings_FieldsFunc_runes 120 #[] enters_sq blankR ⟨l.toArray⟩ w hl hp)
  have hfe := fields_eq l
  obtain ⟨xs, hxs⟩ : ∃ xs, Lib.goFieldsP blankR ⟨l.toArray⟩ = xs := ⟨_, rfl⟩
  rw [hxs] at CF hfe
  have hjn : Lib.join (xs.map (·.data.toList)) [32] = sq l := by rw [hfe]; rfl
  have hsl := sq_len l
  have hxl : xs.length ≤ l.length + 0 := by rw [← List.length_map (f := fun x : ByteArray => x.data.toList), hfe]; exact fieldsB_len l none
  clear hp hxs hfe
  go_enter Try.func92, Try.ntmps92
  go_wp2_with fail
  refine CF.out.mono ?_
  rintro e w1 ⟨A, rfl, hA, hown, hb⟩
  have HB := Lib.hid (Only.of_below (S := []) hb)
  have hcells : ∀ (j : Nat) x, xs[j]? = some x → w1.cell? ⟨A, 0 + j, none⟩ = some (.string x) := fun j x hx => by
    have := hown.cells (g := A) rfl j (.string x) (by rw [List.getElem?_map, hx]; rfl)
    rw [Addr.add_lit] at this
    exact this
  have hAl := (hown.lt A rfl).2
  have hN : xs.length ≤ 140737488355328 := by omega
  have CJ := Lib.hid (Try.strings_Join A 0 xs.length xs ⟨#[32]⟩ w1 hcells hAl hN (Nat.le_refl _) (by rw [show (⟨#[32]⟩ : ByteArray).data.toList = [32] from rfl, hjn]; omega))
  rw [show (⟨#[32]⟩ : ByteArray).data.toList = [32] from rfl, hjn] at CJ
  clear hcells hown hb
  go_wp2_with fail
  refine CJ.out.mono ?_
  rintro e w2 ⟨rfl, hb2⟩
  have HB2 := Lib.hid (HB.out.tr (Only.of_below (S := []) hb2))
  go_wp2_with fail
  go_ret
  exact ⟨rfl, HB2.out⟩
theorem ref12_blank (b : UInt8) (w : World) : Calls Try.prog 131 #[.int .u8 b.toNat] w fun e w' => e = .returned (.bool (blank b)) ∧ w = w' := by
  have hb := blank_nat b
  have hb8 := b.toNat_lt
  unfold blankR at hb
  obtain ⟨n, hn⟩ : ∃ n, b.toNat = n := ⟨_, rfl⟩
  rw [hn] at hb hb8 ⊢
  by_cases h0 : n = 32
  · subst h0
    go_enter Try.func131, Try.ntmps131
    go_wp2_with fail
    go_ret
    exact ⟨by rw [hb]; rfl, rfl⟩
  by_cases h1 : n = 9
  · subst h1
    go_enter Try.func131, Try.ntmps131
    go_wp2_with fail
    go_ret
    exact ⟨by rw [hb]; rfl, rfl⟩
  by_cases h2 : n = 10
  · subst h2
    go_enter Try.func131, Try.ntmps131
    go_wp2_with fail
    go_ret
    exact ⟨by rw [hb]; rfl, rfl⟩
  have d0 : ((n : Int) == 32) = false := by simp; omega
  have d1 : ((n : Int) == 9) = false := by simp; omega
  have d2 : ((n : Int) == 10) = false := by simp; omega
  have hb3 : blank b = ((n : Int) == 13) := by
    rw [hb, Bool.eq_iff_iff]; simp; omega
  obtain ⟨z, hz⟩ : ∃ z, blank b = z := ⟨_, rfl⟩
  rw [hz] at hb3 ⊢
  clear hb hz
  go_enter Try.func131, Try.ntmps131
  go_wp2_with fail
  go_ret
  exact ⟨by rw [hb3]; rfl, rfl⟩
set_option maxRecDepth 100000 in
theorem conv_row_back {w : World} {B : Nat} {l : List UInt8} {A : Option Addr} {c : Nat} (h : w.ownsRow B 5 1 (.slice A l.length c) l.length (bytes l)) :
    (convert 106 9 (.slice A l.length c)).run Try.prog w = .ok (.string ⟨l.toArray⟩) w := by
  rcases h.2 with ⟨h1, h2⟩ | ⟨g, cap, cur, hv, _⟩
  · injection h1 with e1 e2 e3
    subst e1 e3
    obtain rfl : l = [] := List.eq_nil_of_length_eq_zero h2
    kernel_rfl
  · injection hv with e1 e2 e3
    subst e1 e3
    refine run_convert_bytes_back _ _ _ _ _ _ l Try.underlying106 Try.underlying5 Try.underlying9 fun j hj => ?_
    exact h.cells (g := g) rfl j (.int .u8 (l[j].toNat : Int)) (by unfold bytes; rw [List.getElem?_map, List.getElem?_eq_getElem hj]; rfl)
set_option maxRecDepth 100000 in
set_option maxHeartbeats 1000000 in
theorem ref12_squeeze (l : List UInt8) (w : World) (hl : l.length ≤ 4294967296) :
    Calls Try.prog 105 #[.string ⟨l.toArray⟩] w fun e w' => e = .returned (.string ⟨(sq l).toArray⟩) ∧ Only [] w w' := by
  obtain ⟨i0, hi, hz0, hz1, hz2⟩ := info_parts info_byte
  have hdoc := Lib.hid (sq_doc l)
  have CB := Lib.hid (fun b w' => ref12_blank b w')
  go_enter Try.func105, Try.ntmps105
  go_wp2_with fail
  go_loopw [3, 4, 5] (fun v g i wr => ∃ (k : Nat) (st : List UInt8 × Bool), k ≤ l.length ∧ i = .int .i64 k ∧ Hid ((l.take k).foldl sqStep ([], false) = st) ∧ st.1.length ≤ 2 * k ∧ g = .bool st.2 ∧ wr.ownsRow w.heap.size 5 1 v st.1.length (bytes st.1) ∧ Only [] w wr) (fun _ _ i _ => l.length - (intOf i).toNat)
  case atStart => exact ⟨0, ([], false), by omega, rfl, Lib.hid rfl, by simp, rfl, World.ownsRow_nil _ _ _ _, Only.refl _ _⟩
  case round =>
    obtain ⟨k, ⟨b, g⟩, hk, rfl, hst, hsl, rfl, hown, ho⟩ := hrel
    have hsl : b.length ≤ 2 * k := hsl
    have hown : wr.ownsRow w.heap.size 5 1 u3 b.length (bytes b) := hown
    have hbl := bytes_length b
    have hsz1 : w.heap.size ≤ wr.heap.size := ho.size
    obtain ⟨VA, vc, rfl⟩ := (SlAt.of_own hown).shape
    by_cases hlt : k < l.length
    · have hlt' : decide ((k : Int) < (l.length : Int)) = true := by simp; omega
      have hk1 := List.getElem?_eq_getElem hlt
      obtain ⟨c, hc⟩ : ∃ c, l[k] = c := ⟨_, rfl⟩
      rw [hc] at hk1
      have hix : ∀ h : k < (⟨l.toArray⟩ : ByteArray).size, (⟨l.toArray⟩ : ByteArray)[k]'h = c := fun _ => hc
      have hc8 := c.toNat_lt
      have HT : Hid ((l.take (k + 1)).foldl sqStep ([], false) = sqStep (b, g) c) := by
        show _ = _
        rw [List.take_add_one, hk1, List.foldl_append, hst.out]; rfl
      clear hc hk1 hst
      go_wp2_with fail
      refine (CB.out c _).mono ?_
      rintro e w1 ⟨rfl, rfl⟩
      cases hb : blank c with
      | true =>
        have HT2 : Hid ((l.take (k + 1)).foldl sqStep ([], false) = (b, decide (0 < b.length))) := by
          show _ = _
          rw [HT.out]; unfold sqStep; rw [if_pos hb]
        have hdl : decide (0 < (b.length : Int)) = decide (0 < b.length) := by rw [Bool.eq_iff_iff]; simp
        obtain ⟨z, hz⟩ : ∃ z, decide (0 < b.length) = z := ⟨_, rfl⟩
        rw [hz] at HT2 hdl
        clear hb HT
        go_wp2_with fail
        go_roundw
        case rel => exact ⟨k + 1, (b, z), by omega, by go_num, HT2, by show b.length ≤ _; omega, by first | rfl | (rw [hz]), hown, ho⟩
        case measure => simp [intOf]; omega
      | false =>
        cases g with
        | false =>
          have HT2 : Hid ((l.take (k + 1)).foldl sqStep ([], false) = (b ++ [c], false)) := by
            show _ = _
            rw [HT.out]; unfold sqStep; rw [if_neg (by rw [hb]; simp)]; rfl
          clear hb HT
          go_wp2_with (at_builtin; go_loud (refine wpList_app rfl _ _ 106 rfl w.heap.size 5 i0 (.int .u8 0) 1 1 Try.underlying106 hi hz0 hz1 hz2 rfl (by decide) wr (.slice VA b.length vc) b.length (bytes b) rfl hown 1 1 [.int .u8 (c.toNat : Int)] rfl rfl (by simp [Value.oneCell']) (by unfold maxLen; omega) (by omega) hsz1 ?_))
          intro v' w2 hown' hgrow _
          go_wp2_with fail
          go_roundw
          case rel => exact ⟨k + 1, (b ++ [c], false), by omega, by go_num, HT2, by show (b ++ [c]).length ≤ _; simp; omega, rfl, by rw [List.length_append, bytes_append]; exact hown', (ho.own hown hgrow (Nat.le_refl _))⟩
          case measure => simp [intOf]; omega
        | true =>
          have HT2 : Hid ((l.take (k + 1)).foldl sqStep ([], false) = (b ++ [32] ++ [c], false)) := by
            show _ = _
            rw [HT.out]; unfold sqStep; rw [if_neg (by rw [hb]; simp)]; rfl
          clear hb HT
          go_wp2_with (at_builtin; go_loud (refine wpList_app rfl _ _ 106 rfl w.heap.size 5 i0 (.int .u8 0) 1 1 Try.underlying106 hi hz0 hz1 hz2 rfl (by decide) wr (.slice VA b.length vc) b.length (bytes b) rfl hown 1 1 [.int .u8 32] rfl rfl (by simp [Value.oneCell']) (by unfold maxLen; omega) (by omega) hsz1 ?_))
          intro v' w2 hown' hgrow _
          have hsz2 := (ho.own hown hgrow (Nat.le_refl _)).size
          obtain ⟨VB, vd, rfl⟩ := (SlAt.of_own hown').shape
          go_wp2_with (at_builtin; go_loud (refine wpList_app rfl _ _ 106 rfl w.heap.size 5 i0 (.int .u8 0) 1 1 Try.underlying106 hi hz0 hz1 hz2 rfl (by decide) w2 (.slice VB (b.length + 1) vd) (b.length + 1) (bytes b ++ [.int .u8 32]) rfl hown' 1 1 [.int .u8 (c.toNat : Int)] rfl rfl (by simp [Value.oneCell']) (by unfold maxLen; omega) (by omega) hsz2 ?_))
          intro v3 w3 hown3 hgrow3 _
          go_wp2_with fail
          go_roundw
          case rel => exact ⟨k + 1, (b ++ [32] ++ [c], false), by omega, by go_num, HT2, by show (b ++ [32] ++ [c]).length ≤ _; simp; omega, rfl, by rw [List.length_append, List.length_append, bytes_append, bytes_append, List.append_assoc]; exact hown3, ((ho.own hown hgrow (Nat.le_refl _)).own hown' hgrow3 (Nat.le_refl _))⟩
          case measure => simp [intOf]; omega
    · have hlt' : decide ((k : Int) < (l.length : Int)) = false := by simp; omega
      obtain rfl : k = l.length := by omega
      have hR : b = sq l := by
        have := hst.out
        rw [List.take_length] at this
        rw [← hdoc.out, this]
      have hcv : (convert 106 9 (.slice VA b.length vc)).run Try.prog wr = .ok (.string ⟨b.toArray⟩) wr := conv_row_back hown
      clear hst
      subst hR
      go_wp2_with fail
      go_ret
      exact ⟨rfl, ho⟩
end Go.Proofs.Ytjfnkjpnjiobjaa
