/-
  Chapter 17: Unsubscribe, Subscribe.
-/
import Derived.Test.YtjfnkjpnjiobjaaSt17e
namespace Go.Proofs.Ytjfnkjpnjiobjaa
open Go.RowKit
theorem mem_delBy {k : List UInt8} {a : Pl} {T : List Pl} (h : a ∈ delBy Pl.nm k T) : a ∈ T := (List.mem_filter.1 h).1
theorem StX.del {w w' : World} {b mb : Nat} {T : List Pl} (h : StX w b mb T) (k : List UInt8) (hm : MapF w' mb (delBy Pl.nm k T).length (ptT (delBy Pl.nm k T))) (ho : Only [mb] w w') : Op17 w w' b mb T (delBy Pl.nm k T) := by
  have hbm := h.bm
  refine ⟨⟨h.cells.only ho (by simpa using hbm), hm, fun t ht => (h.fds t (mem_delBy ht)).keep ho (fun x hx => ?_), h.srt.sublist List.filter_sublist, fun t ht u hu => h.dis t (mem_delBy ht) u (mem_delBy hu), fun t ht => h.dib t (mem_delBy ht), Nat.le_trans (List.length_filter_le _ _) h.cap, fun t ht => h.nml t (mem_delBy ht)⟩, ho.mono (fun x hx => .inl (by simp at hx; subst hx; simp [allX])), fun x hx => ?_⟩
  · have := (h.dib t (mem_delBy ht)).2
    simp only [List.mem_cons, List.not_mem_nil, or_false]
    intro e
    subst e
    exact this hx
  · left
    unfold allX at hx
    simp only [List.mem_cons] at hx
    rcases hx with rfl | rfl | hx
    · simp [allX]
    · simp [allX]
    · obtain ⟨a, ha, hxa⟩ := List.mem_flatMap.1 hx
      exact own_mem (mem_delBy ha) hxa
def unT (T : List Pl) (k : List UInt8) : List Pl := match fT T k with
  | none => T
  | some _ => delBy Pl.nm k T
set_option maxRecDepth 100000 in
theorem store_unsub (b mb : Nat) (T : List Pl) (k : List UInt8) (hk : k.length ≤ maxLen) (w : World) (h : StX w b mb T) :
    Calls Try.prog 48 #[.pointer (some ⟨b, 0, none⟩), .string ⟨k.toArray⟩] w fun e w' => e = .returned (.int .i64 (if (fT T k).isSome = true then 0 else 4)) ∧ Op17 w w' b mb T (unT T k) := by
  have HX := Lib.hid h
  have c0 := h.cells.cell (k := 0) rfl
  have hlk := h.map.look (t := 89) (e := 92) (z := .pointer none) Try.underlying89 (Try.zeroValue92 w) k hk
  cases hf : fT T k with
  | none =>
    rw [show (ptT T k) = none from by unfold ptT; rw [hf]; rfl] at hlk
    have hT : unT T k = T := by unfold unT; rw [hf]
    rw [hT]
    clear h
    go_enter Try.func48, Try.ntmps48
    go_wp2_with fail
    go_ret
    exact ⟨rfl, Op17.same HX.out (Only.refl _ _)⟩
  | some t =>
    rw [show (ptT T k) = some (.pointer (some ⟨t.p, 0, none⟩)) from by unfold ptT; rw [hf]; rfl] at hlk
    have hT : unT T k = delBy Pl.nm k T := by unfold unT; rw [hf]
    obtain ⟨w3, hdr, hm3, ht3⟩ := h.map.drop (t := 89) (e := 92) Try.underlying89 k hk 0
    have hm3' : MapF w3 mb (delBy Pl.nm k T).length (ptT (delBy Pl.nm k T)) := by
      have e1 : ptT (delBy Pl.nm k T) = fun k' => if k' = k then none else ptT T k' := by
        funext k'
        unfold ptT fT
        rw [delBy_find]
        by_cases he : k' = k
        · rw [if_pos he, if_pos he]; rfl
        · rw [if_neg he, if_neg he]
      rw [e1, delBy_length Pl.nm k T h.srt]
      have e2 : (ptT T k).isSome = (T.find? (fun a => a.nm == k)).isSome := by unfold ptT fT; simp
      rw [← e2]
      exact hm3
    have HF := Lib.hid (h.del k hm3' (mapTurned_only ht3))
    rw [hT]
    clear hm3 hm3' ht3 h
    go_enter Try.func48, Try.ntmps48
    go_wp2_with fail
    go_ret
    exact ⟨rfl, HF.out⟩
theorem ptT_ins {T : List Pl} {t : Pl} (hn : fT T t.nm = none) : ptT (insBy Pl.nm t T) = fun k' => if k' = t.nm then some (.pointer (some ⟨t.p, 0, none⟩)) else ptT T k' := by
  have hne : ∀ a ∈ T, a.nm ≠ t.nm := fun a ha e => by
    have := List.find?_eq_none.1 hn a ha
    simp [e] at this
  funext k'
  unfold ptT fT
  rw [insBy_find Pl.nm t T k' hne]
  by_cases he : k' = t.nm
  · rw [if_pos he, if_pos he]; rfl
  · rw [if_neg he, if_neg he]
theorem StX.ins {w w2 w' : World} {b mb : Nat} {T : List Pl} {t : Pl} (h : StX w b mb T) (hn : fT T t.nm = none) (hnm : nmL t.nm = true) (hcap : T.length < 20) (h2 : Only [] w w2) (hfd : FdAt w2 t.p t.m t.v t.fd) (hnew : ∀ x ∈ t.own, w.heap.size ≤ x) (ho : Only [mb] w2 w') (hm : MapF w' mb (T.length + 1) (fun k' => if k' = t.nm then some (.pointer (some ⟨t.p, 0, none⟩)) else ptT T k')) :
    Op17 w w' b mb T (insBy Pl.nm t T) := by
  have hbm := h.bm
  have hne : ∀ a ∈ T, a.nm ≠ t.nm := fun a ha e => by
    have := List.find?_eq_none.1 hn a ha
    simp [e] at this
  have hmem : ∀ a, a ∈ insBy Pl.nm t T ↔ a = t ∨ a ∈ T := fun a => by rw [(insBy_perm Pl.nm t T).mem_iff, List.mem_cons]
  have hb := h.cells.lt
  have hml := h.map.lt
  have hlts := h.lts
  have hol : ∀ a ∈ T, ∀ x ∈ a.own, x < w.heap.size := fun a ha x hx => hlts x (own_mem ha hx)
  have k2 := h.keep h2 (by simp)
  refine ⟨⟨k2.cells.only ho (by simpa using hbm), ?_, ?_, insBy_sorted Pl.nm t T h.srt hne, ?_, ?_, ?_, ?_⟩, ?_, ?_⟩
  · rw [insBy_length, ptT_ins hn]; exact hm
  · intro a ha
    rcases (hmem a).1 ha with rfl | ha
    · exact hfd.keep ho (fun x hx => by have := hnew x hx; simp only [List.mem_cons, List.not_mem_nil, or_false]; omega)
    · exact (k2.fds a ha).keep ho (fun x hx => by
        have := (h.dib a ha).2
        simp only [List.mem_cons, List.not_mem_nil, or_false]
        intro e; subst e; exact this hx)
  · intro a ha c hc hac x hx
    rcases (hmem a).1 ha with rfl | ha2
    · rcases (hmem c).1 hc with rfl | hc2
      · exact absurd rfl hac
      · intro hxc
        have := hnew x hx
        have := hol c hc2 x hxc
        omega
    · rcases (hmem c).1 hc with rfl | hc2
      · intro hxc
        have := hnew x hxc
        have := hol a ha2 x hx
        omega
      · exact h.dis a ha2 c hc2 hac x hx
  · intro a ha
    rcases (hmem a).1 ha with rfl | ha2
    · exact ⟨fun hx => by have := hnew _ hx; omega, fun hx => by have := hnew _ hx; omega⟩
    · exact h.dib a ha2
  · rw [insBy_length]; omega
  · intro a ha
    rcases (hmem a).1 ha with rfl | ha2
    · exact hnm
    · exact h.nml a ha2
  · exact (h2.of0).trans ho (fun x hx => .inl (by simp at hx; subst hx; simp [allX]))
  · intro x hx
    unfold allX at hx
    simp only [List.mem_cons] at hx
    rcases hx with rfl | rfl | hx
    · left; simp [allX]
    · left; simp [allX]
    · obtain ⟨a, ha, hxa⟩ := List.mem_flatMap.1 hx
      rcases (hmem a).1 ha with rfl | ha2
      · exact .inr (hnew x hxa)
      · exact .inl (own_mem ha2 hxa)
def subE (T : List Pl) (k : List UInt8) : Int := if nmL k = true then (if (fT T k).isSome = true then 5 else if T.length = 20 then 11 else 0) else 3
set_option maxRecDepth 100000 in
set_option maxHeartbeats 1000000 in
theorem store_sub (b mb : Nat) (T : List Pl) (k : List UInt8) (hk : k.length ≤ maxLen) (w : World) (h : StX w b mb T) :
    Calls Try.prog 46 #[.pointer (some ⟨b, 0, none⟩), .string ⟨k.toArray⟩] w fun e w' => e = .returned (.int .i64 (subE T k)) ∧ ∃ T', Op17 w w' b mb T T' ∧ T'.map (fun t => (t.nm, t.fd)) = (if subE T k = 0 then insBy Prod.fst (k, (⟨-1, 0, []⟩ : Fd)) (T.map fun t => (t.nm, t.fd)) else T.map fun t => (t.nm, t.fd)) := by
  have HX := Lib.hid h
  have CN := Lib.hid (fun w' => shard_name k w' (by unfold maxLen at hk; omega))
  have c0 := h.cells.cell (k := 0) rfl
  have hlk := h.map.look (t := 89) (e := 92) (z := .pointer none) Try.underlying89 (Try.zeroValue92 w) k hk
  cases hn : nmL k with
  | false =>
    have hE : subE T k = 3 := by unfold subE; rw [hn]; rfl
    rw [hE]
    simp only [hn] at CN
    clear h hlk
    go_enter Try.func46, Try.ntmps46
    go_wp2_with fail
    refine (CN.out _).mono ?_
    rintro e w1 ⟨rfl, rfl⟩
    go_wp2_with fail
    go_ret
    exact ⟨rfl, T, Op17.same HX.out (Only.refl _ _), rfl⟩
  | true =>
  simp only [hn] at CN
  cases hf : fT T k with
  | some t =>
    rw [show (ptT T k) = some (.pointer (some ⟨t.p, 0, none⟩)) from by unfold ptT; rw [hf]; rfl] at hlk
    have hE : subE T k = 5 := by unfold subE; rw [hn, hf]; rfl
    rw [hE]
    clear h
    go_enter Try.func46, Try.ntmps46
    go_wp2_with fail
    refine (CN.out _).mono ?_
    rintro e w1 ⟨rfl, rfl⟩
    go_wp2_with fail
    go_ret
    exact ⟨rfl, T, Op17.same HX.out (Only.refl _ _), rfl⟩
  | none =>
    rw [show (ptT T k) = none from by unfold ptT; rw [hf]; rfl] at hlk
    have hlen := h.map.len (t := 89) (e := 92) Try.underlying89
    by_cases h20 : T.length = 20
    · have hE : subE T k = 11 := by unfold subE; rw [hn, hf, h20]; rfl
      rw [hE]
      rw [h20] at hlen
      clear h
      go_enter Try.func46, Try.ntmps46
      go_wp2_with fail
      refine (CN.out _).mono ?_
      rintro e w1 ⟨rfl, rfl⟩
      go_wp2_with fail
      go_ret
      exact ⟨rfl, T, Op17.same HX.out (Only.refl _ _), rfl⟩
    · have hE : subE T k = 0 := by unfold subE; rw [hn, hf, if_neg h20]; rfl
      have hcap : T.length < 20 := by have := h.cap; omega
      have e20 : ((T.length : Int) == 20) = false := by simp; omega
      rw [hE]
      have hb := h.cells.lt
      have hml := h.map.lt
      have CF := Lib.hid (fun w' => store_fresh w')
      obtain ⟨w2, hw2⟩ : ∃ w2, (w.drew.alloc (.map #[] 0)).alloc (.cells #[.int .i64 (-1), .int .i64 0, .slice none 0 0, .map (some w.drew.heap.size)] 99) = w2 := ⟨_, rfl⟩
      have hO2 : Only [] w w2 := hw2 ▸ (((Only.refl [] w).drew).alloc _).alloc _
      have hfr : FdAt w2 (w.heap.size + 1) w.heap.size (.slice none 0 0) ⟨-1, 0, []⟩ := hw2 ▸ fresh_at w.drew
      have h2 := h.keep hO2 (by simp)
      have c2 := h2.cells.cell (k := 0) rfl
      obtain ⟨w3, hst, hm3, ht3⟩ := h2.map.store (t := 89) (e := 92) Try.underlying89 (by unfold maxLen; omega) k hk (.pointer (some ⟨w.heap.size + 1, 0, none⟩))
      rw [show (ptT T k).isSome = false from by unfold ptT; rw [hf]; rfl] at hm3
      have hF := h.ins (t := ⟨k, ⟨-1, 0, []⟩, w.heap.size + 1, w.heap.size, .slice none 0 0⟩) hf hn hcap hO2 hfr (by intro x hx; simp [Pl.own, rb, Value.ownBlock] at hx; omega) (mapTurned_only ht3) hm3
      have HF := Lib.hid hF
      have HW2 := Lib.hid hw2
      clear h hw2 hO2 hfr h2 hm3 ht3 hF
      go_enter Try.func46, Try.ntmps46
      go_wp2_with fail
      refine (CN.out _).mono ?_
      rintro e w1 ⟨rfl, rfl⟩
      go_wp2_with fail
      go_region_law (go_simp; go_at_call 88; go_loud (refine (CF.out _).mono ?_; rintro e w4 ⟨rfl, hw4⟩; have hw5 := hw4.trans HW2.out; clear hw4; subst hw5))
      all_goals
        go_wp2_with fail
        go_ret
        exact ⟨rfl, _, HF.out, insBy_map Pl.nm (fun t => (t.nm, t.fd)) Prod.fst (fun _ => rfl) _ _⟩
end Go.Proofs.Ytjfnkjpnjiobjaa
