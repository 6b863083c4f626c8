/-
  The walk over CodecFramed.
-/
import Derived.Test.YtojhbhdlbbmghaaShown1
import Derived.Test.YtojhbhdlbbmghaaFramePlain
namespace Go.Proofs.Ytojhbhdlbbmghaa
open Go.RowKit
set_option maxRecDepth 100000 in
theorem open_texts {H : Type} {enc : TypeId × Value → H} {w : World} {base : Nat} {spare : Nat → Bool} {held : Bool} {r : Reach} {b0 : Nat} {v : Value} {d : DataW H} {p : List MemPlace}
    (hv : Value.okWide Try.prog w r b0 43 v) (h : DataW.Trod enc Try.prog w base spare held 43 v d p) :
    ∃ l : List (List UInt8), SlAt w w.heap.size v 1 l.length (svs l) ∧ ∀ x ∈ l, x.length ≤ maxLen := by
  obtain ⟨l, hs, hl⟩ := open_strlist Try.underlying43 Try.underlying9 (by kernel_rfl) hv h
  refine ⟨l.map fun b => b.data.toList, ?_, fun x hx => ?_⟩
  · have : svs (l.map fun b => b.data.toList) = l.map Value.string := by
      unfold svs
      rw [List.map_map]
      apply List.map_congr_left
      intro b _
      simp
    rw [this, List.length_map]
    exact hs
  · obtain ⟨b, hb, rfl⟩ := List.mem_map.1 hx
    have := hl b hb
    simpa using this
def ff (l : List (List UInt8)) : List UInt8 := l.flatMap frameL
theorem ff_snoc (l : List (List UInt8)) (k : Nat) (x : List UInt8) (h : l[k]? = some x) : ff (l.take (k + 1)) = ff (l.take k) ++ frameL x := by
  unfold ff
  rw [List.take_add_one, h, List.flatMap_append]; simp
theorem ff_drop (l : List (List UInt8)) (k : Nat) (x : List UInt8) (h : l[k]? = some x) : ff (l.drop k) = frameL x ++ ff (l.drop (k + 1)) := by
  obtain ⟨hk, rfl⟩ := List.getElem?_eq_some_iff.1 h
  rw [List.drop_eq_getElem_cons hk]; rfl
theorem ff_length (l : List (List UInt8)) (h : ∀ x ∈ l, x.length ≤ 500) : (ff l).length ≤ 508 * l.length := by
  induction l with
  | nil => simp [ff]
  | cons x l ih =>
    have h1 := h x (by simp)
    have h2 := ih fun y hy => h y (by simp [hy])
    have : ff (x :: l) = frameL x ++ ff l := rfl
    rw [this, List.length_append, frameL_length, List.length_cons]; omega
set_option maxRecDepth 100000 in
set_option maxHeartbeats 1000000 in
theorem codecFramed_walk (W : World) (v : Value) (xs : List (List UInt8)) (hs : SlAt W W.heap.size v 1 xs.length (svs xs)) (hg : ∀ x ∈ xs, x.length ≤ maxLen) :
    Calls Try.prog 8 #[v] W fun e W' => e = .returned (.bool true) ∧ Only [] W W' := by
  obtain ⟨A, c, rfl⟩ := hs.shape
  have HS := Lib.hid hs
  have HG := Lib.hid hg
  clear hs hg
  by_cases hn : xs.length ≤ 40
  · have hd1 : decide ((40 : Int) < xs.length) = false := by simp; omega
    go_enter Try.func8, Try.ntmps8
    go_wp2_with fail
    refine (shown1 W).mono ?_
    rintro e w1 ⟨rfl, ho1⟩
    go_wp2_with fail
    go_loopw [4, 5] (fun s i wr => ∃ k : Nat, k ≤ xs.length ∧ i = .int .i64 k ∧ s = .string ⟨(ff (xs.take k)).toArray⟩ ∧ Hid (∀ x ∈ xs.take k, x.length ≤ 500) ∧ Only [] W wr) (fun _ i _ => xs.length - (intOf i).toNat)
    case atStart => exact ⟨0, by omega, rfl, rfl, fun x hx => by simp at hx, ho1⟩
    case round =>
      obtain ⟨k, hk, rfl, rfl, hA, ho⟩ := hrel
      by_cases hlt : k < xs.length
      · have hlt' : (k : Int) < (xs.length : Int) := by omega
        have hk1 := List.getElem?_eq_getElem hlt
        obtain ⟨x, hx⟩ : ∃ x, xs[k] = x := ⟨_, rfl⟩
        rw [hx] at hk1
        have hxm := HG.out x (List.mem_of_getElem? hk1)
        unfold maxLen at hxm
        obtain ⟨ab, ao, ac, hv, hab, hc⟩ := (HS.out.only ho (Nat.le_refl _) (by simp)).at_ (by omega)
        have q0 := hc k (.string ⟨x.toArray⟩) (by unfold svs; rw [List.getElem?_map, hk1]; rfl)
        have hsz := ho.size
        injection hv with e1 e2 e3
        subst e1; subst e3
        by_cases hx5 : x.length ≤ 500
        · have hd2 : decide ((500 : Int) < x.length) = false := by simp; omega
          have HE := Lib.hid (ff_snoc xs k x hk1)
          have C1 := Lib.hid (codec_Frame' x wr (by omega) _ _ (frE_small x (by omega)))
          have hL := ff_length (xs.take k) hA.out
          have hL2 := frameL_length x
          have hA2 : Hid (∀ x ∈ xs.take (k + 1), x.length ≤ 500) := by
            intro y hy
            rw [List.take_add_one, hk1] at hy
            rcases List.mem_append.1 hy with hy | hy
            · exact hA.out y hy
            · simp at hy; subst hy; exact hx5
          rw [List.length_take] at hL
          clear e2 hx hk1 hc hA
          obtain ⟨fx, hfx⟩ : ∃ fx, frameL x = fx := ⟨_, rfl⟩
          obtain ⟨s, hs⟩ : ∃ s, ff (xs.take k) = s := ⟨_, rfl⟩
          rw [hfx] at HE C1 hL2
          rw [hs] at HE hL ⊢
          have hcat := ba_append s fx
          clear hfx hs
          go_wp2_with (go_at_call 28; refine C1.out.mono ?_; rintro e w2 ⟨rfl, ho2⟩)
          go_roundw
          case rel => exact ⟨k + 1, by omega, by go_num, by rw [HE.out], hA2, ho.tr0 ho2⟩
          case measure => simp [intOf]; omega
        · have hd2 : decide ((500 : Int) < x.length) = true := by simp; omega
          clear e2 hx hk1 hc hA
          go_wp2_with fail
          go_ret
          exact ⟨rfl, ho⟩
      · have hd0 : decide ((k : Int) < (xs.length : Int)) = false := by simp; omega
        have hA2 := hA.out
        obtain rfl : k = xs.length := by omega
        rw [List.take_length] at hA2 ⊢
        have HA := Lib.hid hA2
        clear hA hA2
        go_wp2_with fail
        obtain ⟨w3, rfl⟩ : ∃ w3 : World, w3 = wr := ⟨_, rfl⟩
        have ho3 := ho
        clear ho
        go_loopw [4, 8] (fun s i wr => ∃ k : Nat, k ≤ xs.length ∧ i = .int .i64 k ∧ s = .string ⟨(ff (xs.drop k)).toArray⟩ ∧ Only [] W wr) (fun _ i _ => xs.length - (intOf i).toNat)
        case atStart => exact ⟨0, by omega, rfl, rfl, ho3⟩
        case round =>
          obtain ⟨k, hk, rfl, rfl, ho⟩ := hrel
          by_cases hlt : k < xs.length
          · have hlt' : (k : Int) < (xs.length : Int) := by omega
            have hk1 := List.getElem?_eq_getElem hlt
            obtain ⟨x, hx⟩ : ∃ x, xs[k] = x := ⟨_, rfl⟩
            rw [hx] at hk1
            have hx5 := HA.out x (List.mem_of_getElem? hk1)
            have hE := ff_drop xs k x hk1
            have hL := ff_length (xs.drop (k + 1)) fun y hy => HA.out y (List.mem_of_mem_drop hy)
            rw [List.length_drop] at hL
            obtain ⟨s, hs⟩ : ∃ s, ff (xs.drop (k + 1)) = s := ⟨_, rfl⟩
            rw [hs] at hE hL
            have hsl : (frameL x ++ s).length = 8 + x.length + s.length := by rw [List.length_append, frameL_length]; omega
            have C1 := Lib.hid (codec_Unframe' (frameL x ++ s) wr (by omega) _ _ _ (unE_frame x s (by omega)))
            have hdr : Hid ((frameL x ++ s).drop (8 + x.length) = s) := by
              show _ = _
              rw [show 8 + x.length = (frameL x).length from by rw [frameL_length]; omega, List.drop_left]
            rw [hE]
            obtain ⟨f, hf⟩ : ∃ f, frameL x ++ s = f := ⟨_, rfl⟩
            rw [hf] at C1 hdr hsl ⊢
            have HSD := Lib.hid hs
            clear hf hE hs
            have hcm : ((8 + (x.length : Int)) == (x.length : Int) + 8) = true := by simp; omega
            go_wp2_with fail
            refine C1.out.mono ?_
            rintro e w2 ⟨rfl, ho2⟩
            obtain ⟨ab, ao, ac, hv, hab, hc⟩ := (HS.out.only (ho.tr0 ho2) (Nat.le_refl _) (by simp)).at_ (by omega)
            have q0 := hc k (.string ⟨x.toArray⟩) (by unfold svs; rw [List.getElem?_map, hk1]; rfl)
            have hsz := (ho.tr0 ho2).size
            injection hv with e1 e2 e3
            subst e1; subst e3
            clear e2 hx hk1 hc
            go_wp2_with fail
            rw [← hsl]
            exact ⟨⟨k + 1, by omega, by go_num, by rw [HSD.out, str_to_end, hdr.out], ho.tr0 ho2⟩, by simp [intOf]; omega⟩
          · have hd0 : decide ((k : Int) < (xs.length : Int)) = false := by simp; omega
            obtain rfl : k = xs.length := by omega
            rw [List.drop_length]
            go_wp2_with fail
            go_ret
            exact ⟨rfl, ho⟩
  · have hd1 : decide ((40 : Int) < xs.length) = true := by simp; omega
    go_enter Try.func8, Try.ntmps8
    go_wp2_with fail
    refine (shown1 W).mono ?_
    rintro e w1 ⟨rfl, ho1⟩
    go_wp2_with fail
    go_ret
    exact ⟨rfl, ho1⟩
end Go.Proofs.Ytojhbhdlbbmghaa
