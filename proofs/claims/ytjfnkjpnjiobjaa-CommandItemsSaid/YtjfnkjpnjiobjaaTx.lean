/-
  Texts: WriteString, codec.Text, codec.ToText; bools.
-/
import Derived.Test.YtjfnkjpnjiobjaaCodecRd
import Derived.Test.YtjfnkjpnjiobjaaRef1i
namespace Go.Proofs.Ytjfnkjpnjiobjaa
open Go.RowKit
theorem strCells_bytes (s : List UInt8) : Lib.strCells ⟨s.toArray⟩ = bytes s := by
  simp [Lib.strCells, bytes]

set_option maxHeartbeats 1000000 in
set_option maxRecDepth 100000 in
theorem writeString (T : TypeId) (hT : Holds T) (B b : Nat) (l s : List UInt8) (w : World) (h : IsBld T B b l w) (hlen : l.length + s.length ≤ 140737488355328) (hBw : B ≤ w.heap.size) :
    Calls Try.prog 98 #[.pointer (some ⟨b, 0, none⟩), .string ⟨s.toArray⟩] w fun e w' => e = .returned (.tuple #[.int .i64 s.length, .nilIface]) ∧ Bld T B b (.pointer (some ⟨b, 0, none⟩)) (l ++ s) w' ∧ Below B w w' := by
  obtain ⟨i0, hi, hz0, hz1, hz2⟩ := info_parts info_byte
  have HC := Lib.hid (copyCheck T hT B b l w h)
  have hbl := bytes_length l
  have HBL := Lib.hid hbl
  clear h hbl
  go_enter Try.func98, Try.ntmps98
  go_wp2_with fail
  refine HC.out.mono ?_
  rintro e w1 ⟨rfl, ⟨hB, v, hc, hown, hnil⟩, hb1, hsz⟩
  have hsz1 : B ≤ w1.heap.size := Nat.le_trans hBw hb1.size
  have c1 := hc.cell (k := 1) rfl
  have hlt := hc.lt
  have H := Lib.hid hc
  have hne := own_ne_block hown hc hT.ne
  clear hc hsz
  go_wp2_with (at_builtin; refine Lib.wpList_append_own_string w1 rfl _ _ 106 9 rfl B 5 i0 Try.underlying106 Try.underlying9 hi hz0 hz1 hz2 v l.length (bytes l) rfl hown ⟨s.toArray⟩ rfl (by rw [str_size]; unfold maxLen; omega) (by rw [str_size]; omega) hsz1 ?_)
  rw [strCells_bytes]
  intro v' w2 hown' hgrow hnil'
  obtain ⟨A', cap', hv⟩ : ∃ A cap, v' = .slice A (l.length + s.length) cap := by
    rcases hown'.2 with ⟨hv, h0⟩ | ⟨g, cap, cur, hv, _⟩
    · exact ⟨none, 0, by rw [hv, h0]⟩
    · exact ⟨_, cap, hv⟩
  subst hv
  have hc2 := H.out.grown hgrow hne
  have d1 := hc2.cell (k := 1) rfl
  have f1 := hc2.frozen 1
  have hlt2 := hc2.lt
  have H2 := Lib.hid hc2
  clear hc2
  go_wp2
  go_ret2
  refine ⟨rfl, ⟨hB, _, H2.out.set 1 _, ?_, fun h => hnil'.2 ?_⟩, (hb1.grown hgrow hsz1 (fun k hk => (hown.lt k hk).1)).setCell (p := ⟨b, 1, none⟩) hB _⟩
  · have := ownsRow_setCell_other hown' (a := ⟨b, 1, none⟩) (own_ne_block hown' H2.out hT.ne) (.slice A' (l.length + s.length) cap')
    rw [List.length_append, bytes_append]
    exact this
  · obtain ⟨rfl, rfl⟩ := List.append_eq_nil_iff.1 h
    exact ⟨hnil rfl, rfl⟩

/-- The bytes of a text; of texts. -/
def tb (s : List UInt8) : List UInt8 := ib s.length ++ s
def tsb (l : List (List UInt8)) : List UInt8 := l.flatMap tb
theorem tb_length (s : List UInt8) (h : s.length ≤ 70368744177664) : s.length + 1 ≤ (tb s).length ∧ (tb s).length ≤ s.length + 10 := by
  have := ib_length (s.length : Int) ⟨by omega, by omega⟩
  unfold tb; rw [List.length_append]; omega
set_option maxRecDepth 100000 in
theorem writer_text (B b : Nat) (s l : List UInt8) (w : World) (h : IsBld 169 B b l w) (hB : B ≤ w.heap.size) (hl : l.length + s.length ≤ 70368744177600) :
    Calls Try.prog 129 #[.pointer (some ⟨b, 0, none⟩), .string ⟨s.toArray⟩] w fun e w' => e = .returned (.tuple #[]) ∧ Bld 169 B b (.pointer (some ⟨b, 0, none⟩)) (l ++ tb s) w' ∧ Below B w w' := by
  have HN := Lib.hid (writer_int B b s.length l w ⟨by omega, by omega⟩ h hB (by omega))
  clear h
  go_enter Try.func129, Try.ntmps129
  go_wp2_with fail
  refine HN.out.mono ?_
  rintro e w1 ⟨rfl, hb, hbel⟩
  have hsz := hbel.size
  have hil := ib_length (s.length : Int) ⟨by omega, by omega⟩
  have HW := Lib.hid (writeString _ holds_writer B b (l ++ ib s.length) s w1 (.inr hb) (by rw [List.length_append]; omega) (by omega))
  clear hb hsz hil
  go_wp2_with fail
  refine HW.out.mono ?_
  rintro e w2 ⟨rfl, hb2, hbel2⟩
  have HB := Lib.hid hb2
  clear hb2
  go_wp2_with fail
  go_end0
  exact ⟨rfl, by unfold tb; rw [← List.append_assoc]; exact HB.out, hbel.trans hbel2⟩

def svs (l : List (List UInt8)) : List Value := l.map fun s => Value.string ⟨s.toArray⟩
theorem tsb_snoc (l : List (List UInt8)) (k : Nat) (x : List UInt8) (h : l[k]? = some x) : tsb (l.take (k + 1)) = tsb (l.take k) ++ tb x := by
  unfold tsb
  rw [List.take_add_one, h, List.flatMap_append]; simp
theorem tsb_take (l : List (List UInt8)) (k : Nat) : (tsb (l.take k)).length ≤ (tsb l).length := by
  conv => rhs; rw [← List.take_append_drop k l]
  unfold tsb
  rw [List.flatMap_append, List.length_append]; omega
set_option maxRecDepth 100000 in
set_option maxHeartbeats 1000000 in
theorem each_text (B b : Nat) (v : Value) (xs : List (List UInt8)) (l : List UInt8) (w : World) (hs : SlAt w B v 1 xs.length (svs xs)) (h : IsBld 169 B b l w) (hB : B ≤ w.heap.size) (hxl : xs.length ≤ 70368744177664) (hl : l.length + (tsb xs).length ≤ 70368744177600) :
    Calls Try.prog 128 #[v, .func (.func 129) #[.pointer (some ⟨b, 0, none⟩)] #[]] w fun e w' => e = .returned (.tuple #[]) ∧ IsBld 169 B b (l ++ tsb xs) w' ∧ Below B w w' := by
  obtain ⟨A, c, rfl⟩ := hs.shape
  have H := Lib.hid h
  have HS := Lib.hid hs
  clear h hs
  go_enter Try.func128, Try.ntmps128
  go_wp2_with fail
  go_loopw [8] (fun i wr => ∃ k : Nat, k ≤ xs.length ∧ i = .int .i64 k ∧ Hid (IsBld 169 B b (l ++ tsb (xs.take k)) wr) ∧ Below B w wr) (fun i _ => xs.length - (intOf i).toNat)
  case atStart => exact ⟨0, by omega, rfl, by simpa [tsb] using H, Below.refl _ _⟩
  case round =>
    obtain ⟨k, hk, rfl, hb, hbel⟩ := hrel
    by_cases hlt : k < xs.length
    · have hlt' : (k : Int) < (xs.length : Int) := by omega
      have hk1 := List.getElem?_eq_getElem hlt
      obtain ⟨x, hx⟩ : ∃ x, xs[k] = x := ⟨_, rfl⟩
      rw [hx] at hk1
      obtain ⟨ab, ao, ac, hv, hab, hc⟩ := (HS.out.below hbel).at_ (by omega)
      have q0 := hc k (.string ⟨x.toArray⟩) (by unfold svs; rw [List.getElem?_map, hk1]; rfl)
      have hsz := hbel.size
      have hE := tsb_snoc xs k x hk1
      have hlen := tsb_take xs (k + 1)
      have hxx : x.length ≤ (tb x).length := by unfold tb; rw [List.length_append]; omega
      rw [hE, List.length_append] at hlen
      have HW := Lib.hid (writer_text B b x _ wr hb.out (by omega) (by rw [List.length_append]; omega))
      have HE := Lib.hid hE
      injection hv with e1 e2 e3
      subst e1; subst e3
      clear e2 hx hk1 hc hlen hxx hE
      go_wp2_with (go_at_call 129; refine HW.out.mono ?_; rintro e w1 ⟨rfl, hb1, hbel1⟩; have HB1 := Lib.hid hb1; clear hb1)
      go_roundw
      case rel => exact ⟨k + 1, by omega, by go_num, by show IsBld _ _ _ _ _; rw [HE.out, ← List.append_assoc]; exact .inr HB1.out, hbel.trans hbel1⟩
      case measure => simp [intOf]; omega
    · have hd0 : decide ((k : Int) < (xs.length : Int)) = false := by simp; omega
      obtain rfl : k = xs.length := by omega
      rw [List.take_length] at hb
      go_wp2_with fail
      go_end0
      exact ⟨rfl, hb.out, hbel⟩

set_option maxRecDepth 100000 in
theorem codec_text (v : Value) (xs : List (List UInt8)) (w : World) (hs : SlAt w w.heap.size v 1 xs.length (svs xs)) (hl : xs.length ≤ 1000000000) (hl2 : (tsb xs).length ≤ 70368744177600) :
    Calls Try.prog 100 #[v] w fun e w' => e = .returned (.string ⟨(tsb xs).toArray⟩) ∧ Only [] w w' := by
  obtain ⟨A, c, rfl⟩ := hs.shape
  have hs1 : SlAt (w.alloc (.cells #[.pointer none, .slice none 0 0] 169)) w.heap.size (.slice A xs.length c) 1 xs.length (svs xs) := hs.below ((Below.refl _ w).alloc (Nat.le_refl _) _)
  have HE := Lib.hid (each_text w.heap.size w.heap.size _ xs [] _ hs1 (.inl (Bld.new 169 w)) (by simp) (by omega) (by simp; omega))
  clear hs hs1
  go_enter Try.func100, Try.ntmps100
  go_wp2_with fail
  refine HE.out.mono ?_
  rintro e w1 ⟨rfl, hb, hbel⟩
  have HS := Lib.hid (builder_string_any _ _ _ _ _ hb)
  clear hb
  go_wp2_with fail
  refine HS.out.mono ?_
  rintro e w2 ⟨rfl, hbel2⟩
  go_wp2_with fail
  go_ret
  exact ⟨by simp, Only.of_below ((((Below.refl _ w).alloc (Nat.le_refl _) _).trans hbel).trans hbel2)⟩

/-- What is read as a text; as a bool. -/
def rdT (s : List UInt8) : Option (List UInt8 × List UInt8) :=
  match rdI s with
  | some (n, r) => if 0 ≤ n ∧ n ≤ r.length then some (r.take n.toNat, r.drop n.toNat) else none
  | none => none
def rdTV : Option (List UInt8 × List UInt8) → Value
  | some (a, r) => .tuple #[.string ⟨a.toArray⟩, .string ⟨r.toArray⟩, .bool true]
  | none => .tuple #[.string ⟨#[]⟩, .string ⟨#[]⟩, .bool false]
theorem rdI_length {s : List UInt8} {n : Int} {r : List UInt8} (h : rdI s = some (n, r)) : r.length ≤ s.length := by
  obtain ⟨_, rfl⟩ := (rdI_iff s n r).1 h
  rw [List.length_append]; omega
set_option maxRecDepth 100000 in
theorem codec_toText (s : List UInt8) (w : World) (hl : s.length ≤ 1000000000000) :
    Calls Try.prog 114 #[.string ⟨s.toArray⟩] w fun e w' => e = .returned (rdTV (rdT s)) ∧ Only [] w w' := by
  have HC := Lib.hid (codec_toInt s w hl)
  go_enter Try.func114, Try.ntmps114
  go_wp2_with fail
  refine HC.out.mono ?_
  rintro e w1 ⟨he, ho⟩
  cases hr : rdI s with
  | none =>
    rw [hr] at he
    have he : e = .returned (.tuple #[.int .i64 0, .string ⟨#[]⟩, .bool false]) := he
    subst he
    have HR : Hid (rdT s = none) := by show _ = _; unfold rdT; rw [hr]
    clear hr
    go_wp2_with fail
    go_ret3
    exact ⟨by rw [HR.out]; rfl, ho⟩
  | some nr =>
    obtain ⟨n, r⟩ := nr
    rw [hr] at he
    have he : e = .returned (.tuple #[.int .i64 n, .string ⟨r.toArray⟩, .bool true]) := he
    subst he
    have hrl := rdI_length hr
    by_cases h0 : 0 ≤ n
    · by_cases h1 : n ≤ r.length
      · have HR : Hid (rdT s = some (r.take n.toNat, r.drop n.toNat)) := by show _ = _; unfold rdT; rw [hr]; exact if_pos ⟨h0, h1⟩
        obtain ⟨k, rfl⟩ : ∃ k : Nat, n = k := ⟨n.toNat, by omega⟩
        clear hr
        have hd : decide ((k : Int) < 0) = false := by simp
        have hd1 : decide ((r.length : Int) < k) = false := by simp; omega
        go_wp2_with fail
        go_quiet (fail)
        rw [str_to_end, str_from_start]
        go_wp2_with fail
        go_ret3
        exact ⟨by rw [HR.out]; rfl, ho.drewN _⟩
      · have HR : Hid (rdT s = none) := by show _ = _; unfold rdT; rw [hr]; exact if_neg fun h => h1 h.2
        clear hr
        have hd : decide (n < 0) = false := by simp; omega
        have hd1 : decide ((r.length : Int) < n) = true := by simp; omega
        go_wp2_with fail
        go_ret3
        exact ⟨by rw [HR.out]; rfl, ho⟩
    · have HR : Hid (rdT s = none) := by show _ = _; unfold rdT; rw [hr]; exact if_neg fun h => h0 h.1
      clear hr
      have hd : decide (n < 0) = true := by simp; omega
      go_wp2_with fail
      go_ret3
      exact ⟨by rw [HR.out]; rfl, ho⟩
end Go.Proofs.Ytjfnkjpnjiobjaa
