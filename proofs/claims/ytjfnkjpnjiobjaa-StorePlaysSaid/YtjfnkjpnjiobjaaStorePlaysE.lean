/-
  What StorePlays leans on, part 5: contracts of the functions that it reaches, and plain facts; each theorem bears its own conditions.
-/
import Derived.Test.YtjfnkjpnjiobjaaStorePlaysD
namespace Go.Proofs.Ytjfnkjpnjiobjaa
open Go.RowKit
/-- What an act's answer is, of the document's store. -/
def ModelW (w : World) (b : Nat) (O : List Nat) (D : Int × List Po × Int × Sv) (e : Ending) (w' : World) : Prop :=
  ∃ v' O', e = .returned (.tuple #[.int .i64 D.1, v', .int .i64 D.2.2.1]) ∧ w'.ownsRow w.heap.size 38 5 v' D.2.1.length (poL D.2.1) ∧ (∀ g, v'.ownBlock = some g → g ∉ O') ∧ Rs w' b O' D.2.2.2 ∧ Only O w w' ∧ ∀ x ∈ O', x ∈ O ∨ w.heap.size ≤ x
theorem ModelW.of {w w' : World} {b : Nat} {O : List Nat} {n r : Int} {S : Sv} {e : Ending} (he : e = .returned (.tuple #[.int .i64 n, .slice none 0 0, .int .i64 r])) (h : OpR w w' b O S) : ModelW w b O (n, [], r, S) e w' := by
  obtain ⟨O', h1, h2, h3⟩ := h
  exact ⟨_, O', he, World.ownsRow_nil _ _ _ _, fun g hg => by simp [Value.ownBlock] at hg, h1, h2, h3⟩
set_option maxRecDepth 100000 in
set_option maxHeartbeats 2000000 in
theorem model17 (b : Nat) (O : List Nat) (S : Sv) (a : A17) (w : World) (h : Rs w b O S) (hI : SvI S) (ho : Wide64 a.op) (hfd : a.fd.length ≤ maxLen) (hl : a.its.length ≤ 1000000) (hx : ∀ x ∈ a.its, x.Len) (hs : ∀ w', Only O w w' → SlAt w' w'.heap.size a.iv 3 a.its.length (itL a.its)) :
    Calls Try.prog 26 #[.pointer (some ⟨b, 0, none⟩), .agg #[.int .i64 a.op, .int .i64 a.n, .string ⟨a.fd.toArray⟩, .string ⟨a.id.toArray⟩, a.iv]] w (ModelW w b O (D17 S a)) := by
  obtain ⟨IA, ic, hiv⟩ := (hs w (Only.refl _ _)).shape
  rw [hiv] at hs ⊢
  obtain ⟨w1, hw1⟩ : ∃ w1, w.alloc (.cells #[.int .i64 a.op, .int .i64 a.n, .string ⟨a.fd.toArray⟩, .string ⟨a.id.toArray⟩, .slice IA a.its.length ic] 33) = w1 := ⟨_, rfl⟩
  obtain ⟨z, hz⟩ : ∃ z, w.heap.size = z := ⟨_, rfl⟩
  have O1 : Only [] w w1 := hw1 ▸ (Only.refl _ _).alloc _
  have a1 : Cells w1 z 33 [.int .i64 a.op, .int .i64 a.n, .string ⟨a.fd.toArray⟩, .string ⟨a.id.toArray⟩, .slice IA a.its.length ic] := hw1 ▸ hz ▸ Cells.new w _ _
  have h1 := h.keep O1 (by simp)
  have c0 := a1.cell (k := 0) rfl
  have c1 := a1.cell (k := 1) rfl
  have c2 := a1.cell (k := 2) rfl
  have c3 := a1.cell (k := 3) rfl
  have c4 := a1.cell (k := 4) rfl
  have CK := Lib.hid (fun w' => pick17 a.op 10 w' ho (by omega) (by omega))
  have hq := pkI_lt a.op 10 (by omega)
  have hD : D17 S a = D17q (pkI a.op 10) S a := rfl
  rw [hD]
  obtain ⟨q, hqq⟩ : ∃ q, pkI a.op 10 = q := ⟨_, rfl⟩
  rw [hqq] at CK hq ⊢
  have CSub := Lib.hid (rr_sub b O S a.fd hfd w1 h1)
  have CUn := Lib.hid (rr_un b O S a.fd hfd w1 h1)
  have CFail := Lib.hid (rr_fail b O S a.fd hfd a.n w1 h1)
  have CMark := Lib.hid (rr_mark b O S a.fd hfd a.id w1 h1)
  have CList := Lib.hid (rr_list b O S a.fd hfd a.n w1 h1 hI)
  have CIng := Lib.hid (rr_ingest b O S a.fd hfd _ a.its a.n w1 h1 (fun w' ho => hs w' (O1.of0.trans ho (fun x hx => .inl hx))) hl hx)
  have HO1 := Lib.hid O1
  have H1 := Lib.hid h1
  have HB := Lib.hid h.bw
  clear h h1 hs hx O1 a1 hD hqq hiv
  have hcase : q = 0 ∨ q = 1 ∨ q = 2 ∨ q = 7 ∨ q = 8 ∨ q = 9 ∨ q = 3 ∨ q = 4 ∨ q = 5 ∨ q = 6 := by omega
  clear hq
  rcases hcase with rfl | rfl | rfl | rfl | rfl | rfl | rfl | rfl | rfl | rfl
  · rw [show D17q 0 S a = (0, [], subS S a.fd) from rfl]
    obtain ⟨rr, SS⟩ : ∃ rr, subS S a.fd = rr := ⟨_, rfl⟩
    rw [SS] at CSub ⊢
    clear SS
    obtain ⟨r1, S1⟩ := rr
    go_enter Try.func26, Try.ntmps26
    go_wp2_with fail
    refine (CK.out _).mono ?_
    rintro e w2 ⟨rfl, rfl⟩
    go_wp2_with fail
    refine CSub.out.mono ?_
    rintro e w3 ⟨rfl, hop⟩
    have HOP := Lib.hid (hop.pre HO1.out)
    clear hop hw1 hz c0 c1 c2 c3 c4
    go_wp2_with fail
    go_ret3
    exact ModelW.of rfl HOP.out
  · rw [show D17q 1 S a = (0, [], subS S a.fd) from rfl]
    obtain ⟨rr, SS⟩ : ∃ rr, subS S a.fd = rr := ⟨_, rfl⟩
    rw [SS] at CSub ⊢
    clear SS
    obtain ⟨r1, S1⟩ := rr
    go_enter Try.func26, Try.ntmps26
    go_wp2_with fail
    refine (CK.out _).mono ?_
    rintro e w2 ⟨rfl, rfl⟩
    go_wp2_with fail
    refine CSub.out.mono ?_
    rintro e w3 ⟨rfl, hop⟩
    have HOP := Lib.hid (hop.pre HO1.out)
    clear hop hw1 hz c0 c1 c2 c3 c4
    go_wp2_with fail
    go_ret3
    exact ModelW.of rfl HOP.out
  · rw [show D17q 2 S a = (0, [], unS S a.fd) from rfl]
    obtain ⟨rr, SS⟩ : ∃ rr, unS S a.fd = rr := ⟨_, rfl⟩
    rw [SS] at CUn ⊢
    clear SS
    obtain ⟨r1, S1⟩ := rr
    go_enter Try.func26, Try.ntmps26
    go_wp2_with fail
    refine (CK.out _).mono ?_
    rintro e w2 ⟨rfl, rfl⟩
    go_wp2_with fail
    refine CUn.out.mono ?_
    rintro e w3 ⟨rfl, hop⟩
    have HOP := Lib.hid (hop.pre HO1.out)
    clear hop hw1 hz c0 c1 c2 c3 c4
    go_wp2_with fail
    go_ret3
    exact ModelW.of rfl HOP.out
  · rw [show D17q 7 S a = (0, [], failS S a.fd a.n) from rfl]
    obtain ⟨rr, SS⟩ : ∃ rr, failS S a.fd a.n = rr := ⟨_, rfl⟩
    rw [SS] at CFail ⊢
    clear SS
    obtain ⟨r1, S1⟩ := rr
    go_enter Try.func26, Try.ntmps26
    go_wp2_with fail
    refine (CK.out _).mono ?_
    rintro e w2 ⟨rfl, rfl⟩
    go_wp2_with fail
    refine CFail.out.mono ?_
    rintro e w3 ⟨rfl, hop⟩
    have HOP := Lib.hid (hop.pre HO1.out)
    clear hop hw1 hz c0 c1 c2 c3 c4
    go_wp2_with fail
    go_ret3
    exact ModelW.of rfl HOP.out
  · rw [show D17q 8 S a = (0, [], markS S a.fd a.id) from rfl]
    obtain ⟨rr, SS⟩ : ∃ rr, markS S a.fd a.id = rr := ⟨_, rfl⟩
    rw [SS] at CMark ⊢
    clear SS
    obtain ⟨r1, S1⟩ := rr
    go_enter Try.func26, Try.ntmps26
    go_wp2_with fail
    refine (CK.out _).mono ?_
    rintro e w2 ⟨rfl, rfl⟩
    go_wp2_with fail
    refine CMark.out.mono ?_
    rintro e w3 ⟨rfl, hop⟩
    have HOP := Lib.hid (hop.pre HO1.out)
    clear hop hw1 hz c0 c1 c2 c3 c4
    go_wp2_with fail
    go_ret3
    exact ModelW.of rfl HOP.out
  · rw [show D17q 9 S a = (0, (listS S a.fd a.n).1, (listS S a.fd a.n).2, S) from rfl]
    obtain ⟨rr, SS⟩ : ∃ rr, listS S a.fd a.n = rr := ⟨_, rfl⟩
    rw [SS] at CList ⊢
    clear SS
    obtain ⟨L1, r1⟩ := rr
    go_enter Try.func26, Try.ntmps26
    go_wp2_with fail
    refine (CK.out _).mono ?_
    rintro e w2 ⟨rfl, rfl⟩
    go_wp2_with fail
    refine CList.out.mono ?_
    rintro e w3 ⟨v', rfl, hown, ho3⟩
    have hlow : ∀ g, v'.ownBlock = some g → g ∉ O := fun g hg hx => by
      have h1 := HB.out g hx
      have h2 := (hown.lt g hg).1
      have h3 := HO1.out.size
      omega
    have HL := Lib.hid hlow
    have HW := Lib.hid (own_low hown HO1.out.size)
    have HS3 := Lib.hid (H1.out.keep ho3 (by simp))
    have HO3 := Lib.hid (HO1.out.tr ho3)
    clear hown ho3 hlow hw1 hz c0 c1 c2 c3 c4
    go_wp2_with fail
    go_ret3
    exact ⟨v', O, rfl, HW.out, HL.out, HS3.out, HO3.out.of0, fun x hx => .inl hx⟩
  · rw [show D17q 3 S a = ((ingR S a.fd a.its a.n).1, [], (ingR S a.fd a.its a.n).2) from rfl]
    obtain ⟨rr, SS⟩ : ∃ rr, ingR S a.fd a.its a.n = rr := ⟨_, rfl⟩
    rw [SS] at CIng ⊢
    clear SS
    obtain ⟨n1, r1, S1⟩ := rr
    go_enter Try.func26, Try.ntmps26
    go_wp2_with fail
    refine (CK.out _).mono ?_
    rintro e w2 ⟨rfl, rfl⟩
    go_wp2_with fail
    refine CIng.out.mono ?_
    rintro e w3 ⟨rfl, hop⟩
    have HOP := Lib.hid (hop.pre HO1.out)
    clear hop hw1 hz c0 c1 c2 c3 c4
    go_wp2_with fail
    go_ret3
    exact ModelW.of rfl HOP.out
  · rw [show D17q 4 S a = ((ingR S a.fd a.its a.n).1, [], (ingR S a.fd a.its a.n).2) from rfl]
    obtain ⟨rr, SS⟩ : ∃ rr, ingR S a.fd a.its a.n = rr := ⟨_, rfl⟩
    rw [SS] at CIng ⊢
    clear SS
    obtain ⟨n1, r1, S1⟩ := rr
    go_enter Try.func26, Try.ntmps26
    go_wp2_with fail
    refine (CK.out _).mono ?_
    rintro e w2 ⟨rfl, rfl⟩
    go_wp2_with fail
    refine CIng.out.mono ?_
    rintro e w3 ⟨rfl, hop⟩
    have HOP := Lib.hid (hop.pre HO1.out)
    clear hop hw1 hz c0 c1 c2 c3 c4
    go_wp2_with fail
    go_ret3
    exact ModelW.of rfl HOP.out
  · rw [show D17q 5 S a = ((ingR S a.fd a.its a.n).1, [], (ingR S a.fd a.its a.n).2) from rfl]
    obtain ⟨rr, SS⟩ : ∃ rr, ingR S a.fd a.its a.n = rr := ⟨_, rfl⟩
    rw [SS] at CIng ⊢
    clear SS
    obtain ⟨n1, r1, S1⟩ := rr
    go_enter Try.func26, Try.ntmps26
    go_wp2_with fail
    refine (CK.out _).mono ?_
    rintro e w2 ⟨rfl, rfl⟩
    go_wp2_with fail
    refine CIng.out.mono ?_
    rintro e w3 ⟨rfl, hop⟩
    have HOP := Lib.hid (hop.pre HO1.out)
    clear hop hw1 hz c0 c1 c2 c3 c4
    go_wp2_with fail
    go_ret3
    exact ModelW.of rfl HOP.out
  · rw [show D17q 6 S a = ((ingR S a.fd a.its a.n).1, [], (ingR S a.fd a.its a.n).2) from rfl]
    obtain ⟨rr, SS⟩ : ∃ rr, ingR S a.fd a.its a.n = rr := ⟨_, rfl⟩
    rw [SS] at CIng ⊢
    clear SS
    obtain ⟨n1, r1, S1⟩ := rr
    go_enter Try.func26, Try.ntmps26
    go_wp2_with fail
    refine (CK.out _).mono ?_
    rintro e w2 ⟨rfl, rfl⟩
    go_wp2_with fail
    refine CIng.out.mono ?_
    rintro e w3 ⟨rfl, hop⟩
    have HOP := Lib.hid (hop.pre HO1.out)
    clear hop hw1 hz c0 c1 c2 c3 c4
    go_wp2_with fail
    go_ret3
    exact ModelW.of rfl HOP.out
end Go.Proofs.Ytjfnkjpnjiobjaa
namespace Go.Proofs.Ytjfnkjpnjiobjaa
open Go.RowKit Go.Maps
theorem StX.keys {w : World} {b mb : Nat} {T : List Pl} (h : StX w b mb T) : ∃ D, w.ownsMap Try.prog 9 hv mb T.length D ∧ size D = T.length ∧ ∀ ss : List (List UInt8), ss.Perm (strKeys D) → ss.mergeSort (fun x y => decide (x ≤ y)) = T.map Pl.nm := by
  refine h.map.keys (T.map Pl.nm) (List.pairwise_map.2 h.srt) fun k => ?_
  unfold ptT fT
  rw [Option.isSome_map, List.find?_isSome, List.mem_map]
  constructor
  · rintro ⟨t, ht, e⟩; exact ⟨t, ht, by simpa using e⟩
  · rintro ⟨t, ht, e⟩; exact ⟨t, ht, by simpa using e⟩
theorem encStr_eq : (Go.Proofs.encStr : List UInt8 → Value) = fun s => .string ⟨s.toArray⟩ := by funext s; rfl
set_option maxRecDepth 100000 in
theorem store_feeds (b mb : Nat) (T : List Pl) (w : World) (h : StX w b mb T) :
    Calls Try.prog 61 #[.pointer (some ⟨b, 0, none⟩)] w fun e w' => ∃ v, e = .returned v ∧ w'.ownsRow w.heap.size 9 1 v T.length (svs (T.map Pl.nm)) ∧ Only [] w w' := by
  obtain ⟨D, ho, hs, hk⟩ := h.keys
  have c0 := h.cells.cell (k := 0) rfl
  have hcap := h.cap
  have CK := Lib.hid (callsIn_wide.1 (Try.maps_Keys_97 (some mb) w))
  have CS := Lib.hid (callsIn_wide.1 (Try.slices_Sorted_keys_96_97 mb T.length D hv w ho (by rw [hs]; unfold maxLen; omega) (by rw [hs]; omega)))
  have HK := Lib.hid hk
  clear h ho hs hk
  go_enter Try.func61, Try.ntmps61
  go_wp2_with fail
  refine CK.out.mono ?_
  rintro e w1 ⟨rfl, rfl⟩
  go_wp2_with fail
  refine CS.out.mono ?_
  rintro e w2 ⟨v, ss, rfl, hp, hown, _, hb⟩
  have e1 : ss.mergeSort (fun x y => decide (x ≤ y)) = T.map Pl.nm := HK.out ss hp
  have e2 : ss.length = T.length := by have := congrArg List.length e1; rw [List.length_mergeSort, List.length_map] at this; exact this
  rw [e1, e2, encStr_eq] at hown
  have HO : Hid (Only [] w w2) := Lib.hid (((Only.refl [] w).alloc _).tr0 (Only.of_below hb))
  have HW : Hid (w2.ownsRow w.heap.size 9 1 v T.length (svs (T.map Pl.nm))) := Lib.hid (own_low hown (by simp))
  clear hown hb e1 e2 hp CS CK HK
  go_wp2_with fail
  go_ret
  exact ⟨_, rfl, HW.out, HO.out⟩
theorem st_feeds (b : Nat) (O : List Nat) (S : Sv) (w : World) (h : St w b O S) :
    Calls Try.prog 61 #[.pointer (some ⟨b, 0, none⟩)] w fun e w' => ∃ v, e = .returned v ∧ w'.ownsRow w.heap.size 9 1 v S.length (svs (S.map (·.1))) ∧ Only [] w w' := by
  obtain ⟨mb, T, h, rfl, rfl⟩ := h
  refine (store_feeds b mb T w h).mono fun e w' ⟨v, h1, h2, h3⟩ => ⟨v, h1, ?_, h3⟩
  have e1 : ((T.map fun t => (t.nm, t.fd)).map (·.1)) = T.map Pl.nm := by rw [List.map_map]; rfl
  rw [e1, List.length_map]
  exact h2
end Go.Proofs.Ytjfnkjpnjiobjaa
namespace Go.Proofs.Ytjfnkjpnjiobjaa
open Go.RowKit
theorem codec_ints_w (l : List Int) (hl : l.length ≤ 100) (hw : ∀ x ∈ l, Wide64 x) (n : Nat) (hn : l.length = n) (W : World) (b' : Nat) (hC : Cells W b' 3 (gvs l)) :
    Calls Try.prog 99 #[.slice (some ⟨b', 0, none⟩) n n] W fun e w' => e = .returned (.string ⟨(isb l).toArray⟩) ∧ Only [] W w' := by
  subst hn
  exact codec_int (.slice (some ⟨b', 0, none⟩) l.length l.length) l W (SlAt.cells (n := l.length) (sz := 1) hC (by simp [gvs, ivs]) (by unfold maxLen; omega)) hw (by omega)
theorem codec_texts_w (l : List (List UInt8)) (hl : l.length ≤ 10) (hb : (tsb l).length ≤ 70368744177600) (n : Nat) (hn : l.length = n) (W : World) (b' : Nat) (hC : Cells W b' 9 (svs l)) :
    Calls Try.prog 100 #[.slice (some ⟨b', 0, none⟩) n n] W fun e w' => e = .returned (.string ⟨(tsb l).toArray⟩) ∧ Only [] W w' := by
  subst hn
  exact codec_text (.slice (some ⟨b', 0, none⟩) l.length l.length) l W (SlAt.cells (n := l.length) (sz := 1) hC (by simp [svs]) (by unfold maxLen; omega)) (by omega) hb
theorem isbld_lt {T : TypeId} {B z : Nat} {l : List UInt8} {w : World} (h : IsBld T B z l w) : z < w.heap.size := by
  rcases h with h | h
  · obtain ⟨_, _, h, _⟩ := h; exact h.lt
  · obtain ⟨_, _, h, _⟩ := h; exact h.lt
/-- A slice whose cells a builder's writes let alone. -/
def KpS (z : Nat) (w : World) (t : TypeId) (A : Option Addr) (xs : List Value) : Prop := xs = [] ∨ ∃ (g : Nat) (cs : List Value), A = some ⟨g, 0, none⟩ ∧ Cells w g t cs ∧ g ≠ z ∧ ∀ (j : Nat) (u : Value), xs[j]? = some u → cs[j]? = some u
theorem KpS.keep {z : Nat} {w w' : World} {t : TypeId} {A : Option Addr} {xs : List Value} (h : KpS z w t A xs) (hk : Keeps z w w') (ht : t ≠ 5) : KpS z w' t A xs := by
  rcases h with h | ⟨g, cs, h1, h2, h3, h4⟩
  · exact .inl h
  · exact .inr ⟨g, cs, h1, hk g t cs h3 ht h2, h3, h4⟩
theorem KpS.only {z : Nat} {w w' : World} {t : TypeId} {A : Option Addr} {xs : List Value} (h : KpS z w t A xs) (ho : Only [] w w') : KpS z w' t A xs := by
  rcases h with h | ⟨g, cs, h1, h2, h3, h4⟩
  · exact .inl h
  · exact .inr ⟨g, cs, h1, h2.only ho (by simp), h3, h4⟩
theorem KpS.of_own {z B n c : Nat} {w : World} {t T : TypeId} {A : Option Addr} {xs zc : List Value} (h : w.ownsRow B t 1 (.slice A n c) n xs) (hz : Cells w z T zc) (hne : t ≠ T) : KpS z w t A xs := by
  have hne2 := own_ne_block h hz hne
  obtain ⟨hl, h⟩ := h
  rcases h with ⟨hv, h0⟩ | ⟨g, cap, cur, hv, hb, hh, hnc, h1, hsz, hxs⟩
  · left; rw [h0] at hl; simpa using hl
  · injection hv with e1 _ e3
    subst e1
    refine .inr ⟨g, cur.toList, rfl, by simpa [Cells] using hh, fun e => hne2 (by simp [Value.ownBlock, e]), fun j u hu => ?_⟩
    rw [← hxs] at hu
    have hj := (List.getElem?_eq_some_iff.1 hu).1
    rw [List.getElem?_take_of_lt (by rw [List.length_take] at hj; omega)] at hu
    exact hu
theorem KpS.at_ {z k : Nat} {w : World} {t : TypeId} {A : Option Addr} {xs : List Value} {u : Value} (h : KpS z w t A xs) (hk : xs[k]? = some u) : ∃ g, A = some ⟨g, 0, none⟩ ∧ g < w.heap.size ∧ w.cell? ⟨g, k, none⟩ = some u := by
  rcases h with h | ⟨g, cs, h1, h2, _, h4⟩
  · subst h; simp at hk
  · exact ⟨g, h1, h2.lt, h2.cell (h4 k u hk)⟩
theorem fT_of {T : List Pl} (hs : T.Pairwise (fun a b => a.nm < b.nm)) {t : Pl} (ht : t ∈ T) : fT T t.nm = some t := by
  cases hf : fT T t.nm with
  | none => have := List.find?_eq_none.1 hf t ht; simp at this
  | some u =>
    obtain ⟨h1, h2⟩ := fT_mem hf
    rw [nm_one hs h1 ht h2]
set_option maxRecDepth 100000 in
set_option maxHeartbeats 4000000 in
theorem store_pack (b mb : Nat) (T : List Pl) (w : World) (h : StX w b mb T) (hsh : ∀ t ∈ T, t.fd.Sh) :
    Calls Try.prog 62 #[.pointer (some ⟨b, 0, none⟩)] w fun e w' => e = .returned (.string ⟨(stB (T.map fun t => (t.nm, t.fd))).toArray⟩) ∧ Only [] w w' := by
  have H := Lib.hid h
  have HSH := Lib.hid hsh
  have hcap := h.cap
  have CF := Lib.hid (fun w' (ho : Only [] w w') => store_feeds b mb T w' (h.keep ho (by simp)))
  have hln := (ib_length (T.length : Int) ⟨by omega, by omega⟩).2
  have CI : Hid (∀ W b', Cells W b' 3 [.int .i64 T.length] → Calls Try.prog 99 #[.slice (some ⟨b', 0, none⟩) 1 1] W fun e w' => e = .returned (.string ⟨(ib T.length).toArray⟩) ∧ Only [] W w') := Lib.hid (by
    intro W b' hC
    have := codec_ints_w [(T.length : Int)] (by simp) (by intro x hx; simp at hx; subst hx; exact ⟨by omega, by omega⟩) 1 rfl W b' hC
    simpa [isb] using this)
  obtain ⟨W0, hW0⟩ : ∃ W0, w.alloc (.cells #[.pointer none, .slice none 0 0] 108) = W0 := ⟨_, rfl⟩
  obtain ⟨z, hz⟩ : ∃ z, w.heap.size = z := ⟨_, rfl⟩
  have HZ := Lib.hid hz
  have O0 : Only [] w W0 := hW0 ▸ (Only.refl _ _).alloc _
  have HBl : Hid (Bld 108 z z (.pointer none) [] W0) := Lib.hid (hW0 ▸ hz ▸ Bld.new 108 w)
  have hz0 : z < W0.heap.size := isbld_lt (.inl HBl.out)
  have HO0 := Lib.hid O0
  have c0 := (h.cells.only O0 (by simp)).cell (k := 0) rfl
  have hlen := fun ty => (h.map.only O0 (by simp)).len (t := 89) (e := 92) Try.underlying89 ty
  clear h hsh O0
  go_enter Try.func62, Try.ntmps62
  go_wp2_with fail
  have HW1 : Hid (Cells (W0.alloc (.cells #[.int .i64 T.length] 3)) W0.heap.size 3 [.int .i64 T.length]) := Lib.hid (Cells.new W0 _ _)
  obtain ⟨W1, hW1⟩ : ∃ W1, W0.alloc (.cells #[.int .i64 T.length] 3) = W1 := ⟨_, rfl⟩
  have O1 : Only [] W0 W1 := hW1 ▸ (Only.refl _ _).alloc _
  rw [hW1] at HW1 ⊢
  have HO1 := Lib.hid (HO0.out.tr O1)
  have HB1 : Hid (IsBld 108 z z [] W1) := Lib.hid (IsBld.only (.inl HBl.out) O1)
  clear O1 hW1 c0 hlen HBl
  refine (CI.out _ _ HW1.out).mono ?_
  rintro e w1 ⟨rfl, ho1⟩
  have HB2 := Lib.hid (HB1.out.only ho1)
  have HO2 := Lib.hid (HO1.out.tr ho1)
  obtain ⟨L0, hL0⟩ : ∃ L, ib T.length = L := ⟨_, rfl⟩
  have HL0 := Lib.hid hL0
  rw [hL0] at hln ⊢
  clear ho1 HB1 HO1 HW1 CI hL0
  go_wp2_with fail
  refine (writeString_k _ holds_builder z z [] L0 w1 HB2.out (by simp; omega) (by have := HO2.out.size; have := HZ.out; omega)).mono ?_
  rintro e w2 ⟨rfl, hb2, hbe2, _⟩
  have HO3 : Hid (Only [] w w2) := Lib.hid (HO2.out.past_below HZ.out hbe2)
  have HB3 : Hid (Bld 108 z z (.pointer (some ⟨z, 0, none⟩)) L0 w2) := Lib.hid (by simpa using hb2)
  have CF2 := Lib.hid (CF.out w2 HO3.out)
  clear hb2 hbe2 HO2 HB2 CF hW0 hz
  go_wp2_with fail
  refine CF2.out.mono ?_
  rintro e w3 ⟨v, rfl, hown, ho3⟩
  obtain ⟨A, c, rfl⟩ := (SlAt.of_own hown).shape
  have HO4 := Lib.hid (HO3.out.tr ho3)
  have hb4 := HB3.out.only ho3
  have HB4 : Hid (IsBld 108 z z (L0 ++ fsB ((T.take 0).map fun t => (t.nm, t.fd))) w3) := Lib.hid (by simp [fsB]; exact .inr hb4)
  have HK4 : Hid (KpS z w3 9 A (svs (T.map Pl.nm))) := Lib.hid (by
    obtain ⟨_, _, hc, _, _⟩ := hb4
    exact KpS.of_own hown hc (by decide))
  clear hown ho3 hb4 CF2 HB3 HO3
  go_wp2_with fail
  go_loopw [20] (fun i wr => ∃ k : Nat, k ≤ T.length ∧ i = .int .i64 k ∧ Hid (IsBld 108 z z (L0 ++ fsB ((T.take k).map fun t => (t.nm, t.fd))) wr) ∧ Hid (KpS z wr 9 A (svs (T.map Pl.nm))) ∧ Hid (Only [] w wr)) (fun i _ => T.length - (intOf i).toNat)
  case atStart => exact ⟨0, by omega, rfl, HB4, HK4, HO4⟩
  case round =>
    obtain ⟨k, hk, rfl, hb, hks, ho⟩ := hrel
    by_cases hlt : k < T.length
    · have hlt' : (k : Int) < (T.length : Int) := by omega
      obtain ⟨t, ht⟩ : ∃ t, T[k]? = some t := ⟨_, List.getElem?_eq_getElem hlt⟩
      have htm := List.mem_of_getElem? ht
      obtain ⟨g, hA, hg, hcn⟩ := hks.out.at_ (k := k) (u := .string ⟨t.nm.toArray⟩) (by unfold svs; rw [List.getElem?_map, List.getElem?_map, ht]; rfl)
      subst hA
      have hX := H.out.keep ho.out (by simp)
      have hfT := fT_of H.out.srt htm
      have hlk := hX.map.look (t := 89) (e := 92) (z := .pointer none) Try.underlying89 (Try.zeroValue92 wr) t.nm (by have := (nmL_len (H.out.nml t htm)).2; unfold maxLen; omega)
      rw [show (ptT T t.nm) = some (.pointer (some ⟨t.p, 0, none⟩)) from by unfold ptT; rw [hfT]; rfl] at hlk
      have cb := hX.cells.cell (k := 0) rfl
      have hfd := hX.fds t htm
      have hsh := HSH.out t htm
      have f0 := hfd.cells.cell (k := 0) rfl
      have f1 := hfd.cells.cell (k := 1) rfl
      have f2 := hfd.cells.cell (k := 2) rfl
      obtain ⟨A2, c2, hv2⟩ := (SlAt.of_own hfd.row).shape
      rw [hv2] at f2
      have HV2 := Lib.hid hv2
      have HRow : Hid (SlAt w w.heap.size (.slice A2 t.fd.ps.length c2) 5 t.fd.ps.length (poL t.fd.ps)) := Lib.hid (hv2 ▸ SlAt.of_own (H.out.fds t htm).row)
      have htp : t.p < wr.heap.size := hfd.cells.lt
      have hnm := (nmL_len (H.out.nml t htm)).2
      have hfh := fdH_le (t.nm, t.fd) (by show t.nm.length ≤ 1000; omega) hsh
      have hpl := psB_le t.fd.ps hsh.cap hsh.its
      have hps := fun j => psB_le (t.fd.ps.take j) (by rw [List.length_take]; have := hsh.cap; omega) (fun p hp => hsh.its p (List.mem_of_mem_take hp))
      have hns := hsh.cap
      have hfs := fsB_le ((T.take k).map fun t => (t.nm, t.fd)) (by rw [List.length_map, List.length_take]; omega) (by
        intro x hx
        obtain ⟨t', ht', rfl⟩ := List.mem_map.1 hx
        have hm := List.mem_of_mem_take ht'
        have := (nmL_len (H.out.nml t' hm)).2
        exact ⟨by show t'.nm.length ≤ 1000; omega, HSH.out t' hm⟩)
      have HSN : Hid (fsB ((T.take (k + 1)).map fun t => (t.nm, t.fd)) = fsB ((T.take k).map fun t => (t.nm, t.fd)) ++ fdB (t.nm, t.fd)) := Lib.hid (by
        unfold fsB
        rw [List.take_add_one, ht, List.map_append, List.flatMap_append]; simp)
      obtain ⟨M, hM⟩ : ∃ M, L0 ++ fsB ((T.take k).map fun t => (t.nm, t.fd)) = M := ⟨_, rfl⟩
      have hMl : M.length ≤ 13000000000 := by rw [← hM, List.length_append]; omega
      have HSM : Hid (L0 ++ fsB ((T.take (k + 1)).map fun t => (t.nm, t.fd)) = M ++ (fdH (t.nm, t.fd) ++ psB t.fd.ps)) := Lib.hid (by rw [HSN.out, ← List.append_assoc, hM]; rfl)
      rw [hM] at hb
      obtain ⟨tT, hT⟩ : ∃ x, tb t.nm = x := ⟨_, rfl⟩
      obtain ⟨tI, hI⟩ : ∃ x, isb [t.fd.pol, t.fd.fai, (t.fd.ps.length : Int)] = x := ⟨_, rfl⟩
      have HFH : Hid (fdH (t.nm, t.fd) = tT ++ tI) := Lib.hid (by rw [← hT, ← hI]; rfl)
      have CT : Hid (∀ W b', Cells W b' 9 [.string ⟨t.nm.toArray⟩] → Calls Try.prog 100 #[.slice (some ⟨b', 0, none⟩) 1 1] W fun e w' => e = .returned (.string ⟨tT.toArray⟩) ∧ Only [] W w') := Lib.hid (by
        intro W b' hC
        have := codec_texts_w [t.nm] (by simp) (by have := tb_top t.nm 1000 (by omega) (by omega); simp [tsb]; omega) 1 rfl W b' hC
        rw [← hT]
        simpa [tsb] using this)
      have CJ : Hid (∀ W b', Cells W b' 3 [.int .i64 t.fd.pol, .int .i64 t.fd.fai, .int .i64 t.fd.ps.length] → Calls Try.prog 99 #[.slice (some ⟨b', 0, none⟩) 3 3] W fun e w' => e = .returned (.string ⟨tI.toArray⟩) ∧ Only [] W w') := Lib.hid (by
        intro W b' hC
        have := codec_ints_w [t.fd.pol, t.fd.fai, (t.fd.ps.length : Int)] (by simp) hsh.ws 3 rfl W b' hC
        rw [← hI]
        exact this)
      have hTI : (tT ++ tI).length ≤ 1040 := by rw [← HFH.out]; exact hfh
      rw [List.length_append] at hTI
      have HSHT := Lib.hid hsh.its
      clear hM hT hI HSN hfs hfh hsh hfd hv2 hX hfT
      go_upto_region 7 with fail
      clear hlk cb hcn
      have t0 : ∀ u : Since wr, u.w.cell? ⟨t.p, 0, none⟩ = some (.int .i64 t.fd.pol) := fun u => u.cell f0
      have t1 : ∀ u : Since wr, u.w.cell? ⟨t.p, 1, none⟩ = some (.int .i64 t.fd.fai) := fun u => u.cell f1
      have t2 : ∀ u : Since wr, u.w.cell? ⟨t.p, 2, none⟩ = some (.slice A2 t.fd.ps.length c2) := fun u => u.cell f2
      refine wp_region_pendN wr (Only.refl _ _) [(31, SlW wr.heap.size 9 [.string ⟨t.nm.toArray⟩] 1), (46, SlW wr.heap.size 3 [.int .i64 t.fd.pol, .int .i64 t.fd.fai, .int .i64 t.fd.ps.length] 3)] [] 19 (by intro p hp; simp at hp; rcases hp with rfl | rfl <;> exact SlW.lasts _ _ _ _) (by kernel_rfl) (by kernel_rfl) (by decide) (fun val => ?_)
      simp only [List.take_succ_cons, List.take_zero, List.drop_succ_cons, List.drop_zero]
      refine fit_segN 1 (by kernel_rfl) ?_
      simp only [List.take_succ_cons, List.take_zero, List.drop_succ_cons, List.drop_zero]
      repeat (go_big_quiet_step (fail))
      refine wpQuiet_nil ?_
      refine fit_lit 31 9 [.string ⟨t.nm.toArray⟩] 1 rfl rfl (by simp) (by simp) (fun w5 => by go_simp) rfl ?_
      simp only [Act.put, List.setIfInBounds_toArray, List.set_cons_zero, List.set_cons_succ]
      refine fit_call1 (.string ⟨tT.toArray⟩) 100 31 9 [.string ⟨t.nm.toArray⟩] 1 (by simp) (by decide) rfl (by simp) (fun w5 => by go_simp) rfl (by kernel_rfl) (fun w5 b5 _ h5 => CT.out w5 b5 h5) ?_
      simp only [Act.put, List.setIfInBounds_toArray, List.set_cons_zero, List.set_cons_succ]
      refine fit_segN 13 (by kernel_rfl) ?_
      simp only [List.take_succ_cons, List.take_zero, List.drop_succ_cons, List.drop_zero]
      repeat (go_big_quiet_step (fail))
      refine wpQuiet_nil ?_
      refine fit_lit 46 3 [.int .i64 t.fd.pol, .int .i64 t.fd.fai, .int .i64 t.fd.ps.length] 3 rfl rfl (by simp) (by simp) (fun w5 => by go_simp) rfl ?_
      simp only [Act.put, List.setIfInBounds_toArray, List.set_cons_zero, List.set_cons_succ]
      refine fit_call1 (.string ⟨tI.toArray⟩) 99 46 3 [.int .i64 t.fd.pol, .int .i64 t.fd.fai, .int .i64 t.fd.ps.length] 3 (by simp) (by decide) rfl (by simp) (fun w5 => by go_simp) rfl (by kernel_rfl) (fun w5 b5 _ h5 => CJ.out w5 b5 h5) ?_
      simp only [Act.put, List.setIfInBounds_toArray, List.set_cons_zero, List.set_cons_succ]
      refine fit_segN 1 (by kernel_rfl) ?_
      simp only [List.take_succ_cons, List.take_zero, List.drop_succ_cons, List.drop_zero]
      repeat (go_big_quiet_step (fail))
      refine wpQuiet_nil ?_
      intro w5 ho5 _
      have HB5 := Lib.hid (hb.out.only ho5)
      have HO5 := Lib.hid (ho.out.tr ho5)
      have HK5 := Lib.hid (hks.out.only ho5)
      clear t0 t1 t2 f0 f1 f2 CT CJ ho5 hb ho hks
      go_wp2_with fail
      refine (writeString_k _ holds_builder z z M (tT ++ tI) w5 HB5.out (by rw [List.length_append]; omega) (by have := HO5.out.size; have := HZ.out; omega)).mono ?_
      rintro e w6 ⟨rfl, hb6, hbe6, hk6⟩
      have HO6 : Hid (Only [] w w6) := Lib.hid (HO5.out.past_below HZ.out hbe6)
      have HB6 : Hid (IsBld 108 z z (M ++ (fdH (t.nm, t.fd) ++ psB (t.fd.ps.take 0))) w6) := Lib.hid (by rw [HFH.out]; exact .inr (by simpa [psB] using hb6))
      have HK6 := Lib.hid (HK5.out.keep hk6 (by decide))
      have f2 := ((H.out.keep HO6.out (by simp)).fds t htm).cells.cell (k := 2) rfl
      clear hb6 hbe6 hk6 HB5 HO5 HK5
      rw [HV2.out] at f2
      go_upto_region 9 with fail
      clear f2
      go_loopw [55] (fun i wr => ∃ j : Nat, j ≤ t.fd.ps.length ∧ i = .int .i64 j ∧ Hid (IsBld 108 z z (M ++ (fdH (t.nm, t.fd) ++ psB (t.fd.ps.take j))) wr) ∧ Hid (KpS z wr 9 (some ⟨g, 0, none⟩) (svs (T.map Pl.nm))) ∧ Hid (Only [] w wr)) (fun i _ => t.fd.ps.length - (intOf i).toNat)
      case atStart => exact ⟨0, by omega, rfl, HB6, HK6, HO6⟩
      case round =>
        obtain ⟨wo, rfl⟩ : ∃ wo, wo = wr := ⟨_, rfl⟩
        obtain ⟨j, hj, rfl, hb, hks, ho⟩ := hrel
        by_cases hjl : j < t.fd.ps.length
        · have hjl' : (j : Int) < (t.fd.ps.length : Int) := by omega
          obtain ⟨x, hx⟩ : ∃ x, t.fd.ps[j]? = some x := ⟨_, List.getElem?_eq_getElem hjl⟩
          obtain ⟨b1, o1, c1', g1, p0, p1, p2, p3, p4⟩ := poL_at (HRow.out.only ho.out (Nat.le_refl _) (by simp)) rfl hx
          injection g1 with i1 i2 i3
          subst i1; subst i3
          have hxs := HSHT.out x (List.mem_of_getElem? hx)
          have hxl := spB_le x hxs
          have hpj := hps j
          have HSJ : Hid (M ++ (fdH (t.nm, t.fd) ++ psB (t.fd.ps.take (j + 1))) = M ++ (fdH (t.nm, t.fd) ++ psB (t.fd.ps.take j)) ++ (itT x.it ++ bb x.rd)) := Lib.hid (by
            have : psB (t.fd.ps.take (j + 1)) = psB (t.fd.ps.take j) ++ spB x := flat_snoc spB t.fd.ps j x hx
            rw [this, List.append_assoc, List.append_assoc]; rfl)
          obtain ⟨L, hL⟩ : ∃ L, M ++ (fdH (t.nm, t.fd) ++ psB (t.fd.ps.take j)) = L := ⟨_, rfl⟩
          have hLl : L.length ≤ 14000000000 := by
            rw [← hL, HFH.out]
            simp only [List.length_append]
            omega
          rw [hL] at hb HSJ
          have hil := itT_le x.it hxs
          have hTS : tsb [x.it.id, x.it.ti, x.it.li] = itT x.it := by unfold tsb itT; simp
          obtain ⟨tX, hX⟩ : ∃ y, itT x.it = y := ⟨_, rfl⟩
          obtain ⟨tB, hB⟩ : ∃ y, bb x.rd = y := ⟨_, rfl⟩
          have hBl : tB.length = 1 := by rw [← hB]; rfl
          rw [hX] at hTS hil HSJ
          rw [hB] at HSJ
          have CT : Hid (∀ W b', Cells W b' 9 [.string ⟨x.it.id.toArray⟩, .string ⟨x.it.ti.toArray⟩, .string ⟨x.it.li.toArray⟩] → Calls Try.prog 100 #[.slice (some ⟨b', 0, none⟩) 3 3] W fun e w' => e = .returned (.string ⟨tX.toArray⟩) ∧ Only [] W w') := Lib.hid (by
            intro W b' hC
            have := codec_texts_w [x.it.id, x.it.ti, x.it.li] (by simp) (by rw [hTS]; omega) 3 rfl W b' hC
            rw [hTS] at this
            exact this)
          have CB : Hid (∀ W, Calls Try.prog 101 #[.bool x.rd] W fun e w' => e = .returned (.string ⟨tB.toArray⟩) ∧ W = w') := Lib.hid (fun W => by have := codec_bool x.rd W; rw [hB] at this; exact this)
          obtain ⟨wx, hwx⟩ : ∃ wx, wo.alloc (.cells #[.int .i64 x.sq, .string ⟨x.it.id.toArray⟩, .string ⟨x.it.ti.toArray⟩, .string ⟨x.it.li.toArray⟩, .bool x.rd] 38) = wx := ⟨_, rfl⟩
          obtain ⟨bx, hbx⟩ : ∃ b, wo.heap.size = b := ⟨_, rfl⟩
          have OX : Only [] wo wx := hwx ▸ (Only.refl _ _).alloc _
          have hCX : Cells wx bx 38 x.cells := hwx ▸ hbx ▸ Cells.new wo _ _
          have HBX := Lib.hid (hb.out.only OX)
          have HOX := Lib.hid (ho.out.tr OX)
          have HKX := Lib.hid (hks.out.only OX)
          have HCX := Lib.hid hCX
          clear i2 hx hxs hxl hpj hL hX hB hTS OX hCX hb ho hks
          go_upto_region 11 with fail
          clear hwx hbx p0 p1 p2 p3 p4
          have t1 := fun u : Since wx => u.cell (HCX.out.cell (k := 1) rfl)
          have t2 := fun u : Since wx => u.cell (HCX.out.cell (k := 2) rfl)
          have t3 := fun u : Since wx => u.cell (HCX.out.cell (k := 3) rfl)
          have t4 := fun u : Since wx => u.cell (HCX.out.cell (k := 4) rfl)
          refine wp_region_pendN wx (Only.refl _ _) [(68, SlW wx.heap.size 9 [.string ⟨x.it.id.toArray⟩, .string ⟨x.it.ti.toArray⟩, .string ⟨x.it.li.toArray⟩] 3)] [] 15 (by intro p hp; simp at hp; rcases hp with rfl; exact SlW.lasts _ _ _ _) (by kernel_rfl) (by kernel_rfl) (by decide) (fun val2 => ?_)
          simp only [List.take_succ_cons, List.take_zero, List.drop_succ_cons, List.drop_zero]
          refine fit_segN 9 (by kernel_rfl) ?_
          simp only [List.take_succ_cons, List.take_zero, List.drop_succ_cons, List.drop_zero]
          repeat (go_big_quiet_step (fail))
          refine wpQuiet_nil ?_
          refine fit_lit 68 9 [.string ⟨x.it.id.toArray⟩, .string ⟨x.it.ti.toArray⟩, .string ⟨x.it.li.toArray⟩] 3 rfl rfl (by simp) (by simp) (fun w5 => by go_simp) rfl ?_
          simp only [Act.put, List.setIfInBounds_toArray, List.set_cons_zero, List.set_cons_succ]
          refine fit_call1 (.string ⟨tX.toArray⟩) 100 68 9 [.string ⟨x.it.id.toArray⟩, .string ⟨x.it.ti.toArray⟩, .string ⟨x.it.li.toArray⟩] 3 (by simp) (by decide) rfl (by simp) (fun w5 => by go_simp) rfl (by kernel_rfl) (fun w5 b5 _ h5 => CT.out w5 b5 h5) ?_
          simp only [Act.put, List.setIfInBounds_toArray, List.set_cons_zero, List.set_cons_succ]
          refine fit_segN 2 (by kernel_rfl) ?_
          simp only [List.take_succ_cons, List.take_zero, List.drop_succ_cons, List.drop_zero]
          repeat (go_big_quiet_step (fail))
          refine wpQuiet_nil ?_
          refine fit_call (.string ⟨tB.toArray⟩) 101 #[.bool x.rd] rfl (by simp) (fun w5 => by go_simp) rfl (by kernel_rfl) (fun w5 hw5 => (CB.out w5).mono fun e w' ⟨h1, h2⟩ => ⟨h1, h2 ▸ Only.refl _ _⟩) ?_
          simp only [Act.put, List.setIfInBounds_toArray, List.set_cons_zero, List.set_cons_succ]
          refine fit_segN 1 (by kernel_rfl) ?_
          simp only [List.take_succ_cons, List.take_zero, List.drop_succ_cons, List.drop_zero]
          repeat (go_big_quiet_step (fail))
          refine wpQuiet_nil ?_
          intro w7 ho7 _
          have HB7 := Lib.hid (HBX.out.only ho7)
          have HO7 := Lib.hid (HOX.out.tr ho7)
          have HK7 := Lib.hid (HKX.out.only ho7)
          clear t1 t2 t3 t4 CT CB ho7 HBX HOX HKX HCX
          go_wp2_with fail
          refine (writeString_k _ holds_builder z z L (tX ++ tB) w7 HB7.out (by rw [List.length_append]; omega) (by have := HO7.out.size; have := HZ.out; omega)).mono ?_
          rintro e w8 ⟨rfl, hb8, hbe8, hk8⟩
          have HO8 : Hid (Only [] w w8) := Lib.hid (HO7.out.past_below HZ.out hbe8)
          have HB8 : Hid (IsBld 108 z z (M ++ (fdH (t.nm, t.fd) ++ psB (t.fd.ps.take (j + 1)))) w8) := Lib.hid (by rw [HSJ.out]; exact .inr hb8)
          have HK8 := Lib.hid (HK7.out.keep hk8 (by decide))
          clear hb8 hbe8 hk8 HB7 HO7 HK7
          go_wp2_with fail
          go_roundw
          case rel => exact ⟨j + 1, by omega, by go_num, HB8, HK8, HO8⟩
          case measure => simp [intOf]; omega
        · have hd0 : decide ((j : Int) < (t.fd.ps.length : Int)) = false := by simp; omega
          obtain rfl : j = t.fd.ps.length := by omega
          rw [List.take_length] at hb
          have HB9 : Hid (IsBld 108 z z (L0 ++ fsB ((T.take (k + 1)).map fun t => (t.nm, t.fd))) wo) := Lib.hid (by rw [HSM.out]; exact hb.out)
          clear hb
          go_wp2_with fail
          go_roundw
          case rel => exact ⟨k + 1, by omega, by go_num, HB9, hks, ho⟩
          case measure => simp [intOf]; omega
    · have hd0 : decide ((k : Int) < (T.length : Int)) = false := by simp; omega
      obtain rfl : k = T.length := by omega
      rw [List.take_length] at hb
      have HSt := Lib.hid (builder_string_any _ _ _ _ _ hb.out)
      clear hb
      go_wp2_with fail
      refine HSt.out.mono ?_
      rintro e w3 ⟨rfl, hbe3⟩
      have HOF : Hid (Only [] w w3) := Lib.hid (ho.out.past_below HZ.out hbe3)
      clear hbe3
      go_wp2_with fail
      go_ret
      exact ⟨by rw [← HL0.out]; simp [stB], HOF.out⟩
theorem st_pack (b : Nat) (O : List Nat) (S : Sv) (w : World) (h : St w b O S) (hsh : ∀ x ∈ S, x.2.Sh) :
    Calls Try.prog 62 #[.pointer (some ⟨b, 0, none⟩)] w fun e w' => e = .returned (.string ⟨(stB S).toArray⟩) ∧ Only [] w w' := by
  obtain ⟨mb, T, h, rfl, rfl⟩ := h
  exact store_pack b mb T w h (fun t ht => hsh (t.nm, t.fd) (List.mem_map.2 ⟨t, ht, rfl⟩))
end Go.Proofs.Ytjfnkjpnjiobjaa
namespace Go.Proofs.Ytjfnkjpnjiobjaa
open Go.RowKit
theorem svs_at {w : World} {B n : Nat} {A : Option Addr} {c : Nat} {l : List (List UInt8)} (h : SlAt w B (.slice A n c) 1 n (svs l)) {k : Nat} {x : List UInt8} (hx : l[k]? = some x) : ∃ b o, A = some ⟨b, o, none⟩ ∧ w.cell? ⟨b, o + k, none⟩ = some (.string ⟨x.toArray⟩) := by
  have hl := h.1
  have hk := (List.getElem?_eq_some_iff.1 hx).1
  unfold svs at hl
  rw [List.length_map] at hl
  obtain ⟨b, o, c', hv, _, hc⟩ := h.at_ (by omega)
  injection hv with e1
  exact ⟨b, o, e1, hc k _ (by unfold svs; rw [List.getElem?_map, hx]; rfl)⟩
theorem St.sorted {w : World} {b : Nat} {O : List Nat} {S : Sv} (h : St w b O S) : S.Pairwise (fun a b => a.1 < b.1) ∧ S.length ≤ 20 ∧ ∀ x ∈ S, nmL x.1 = true := by
  obtain ⟨mb, T, h, rfl, rfl⟩ := h
  refine ⟨List.pairwise_map.2 h.srt, by rw [List.length_map]; exact h.cap, fun x hx => ?_⟩
  obtain ⟨t, ht, rfl⟩ := List.mem_map.1 hx
  exact h.nml t ht
set_option maxRecDepth 100000 in
set_option maxHeartbeats 2000000 in
theorem alike17 (b b' : Nat) (O K : List Nat) (S : Sv) (w : World) (h : St w b O S) (h' : Rs w b' K S) (hI : SvI S) :
    Calls Try.prog 28 #[.pointer (some ⟨b, 0, none⟩), .pointer (some ⟨b', 0, none⟩)] w fun e w' => e = .returned (.bool true) ∧ Only [] w w' := by
  have H := Lib.hid h
  have H' := Lib.hid h'
  have CF := Lib.hid (st_feeds b O S w h)
  have CP := Lib.hid (fun w' (ho : Only [] w w') => st_pack b O S w' (h.keep ho (by simp)) hI.sh)
  have CP' := Lib.hid (fun w' (ho : Only [] w w') => rr_pack b' K S w' (h'.keep ho (by simp)) hI)
  obtain ⟨hsrt, h20, hnml⟩ := h.sorted
  have HN := Lib.hid hnml
  have HSR := Lib.hid hsrt
  clear h h' hsrt hnml
  go_enter Try.func28, Try.ntmps28
  go_wp2_with fail
  refine CF.out.mono ?_
  rintro e w1 ⟨v, rfl, hown, ho1⟩
  have HO1 := Lib.hid ho1
  have HS := Lib.hid (SlAt.of_own hown)
  obtain ⟨A, c, rfl⟩ := (SlAt.of_own hown).shape
  obtain ⟨A', c', hh⟩ := (H'.out.keep ho1 (by simp)).head
  clear hown ho1 CF
  go_wp2_with fail
  clear hh
  go_loopw [6] (fun i wr => ∃ k : Nat, k ≤ S.length ∧ i = .int .i64 k ∧ Hid (Only [] w1 wr)) (fun i _ => S.length - (intOf i).toNat)
  case atStart => exact ⟨0, by omega, rfl, Lib.hid (Only.refl _ _)⟩
  case round =>
    obtain ⟨k, hk, rfl, ho⟩ := hrel
    obtain ⟨wo, rfl⟩ : ∃ wo, wo = wr := ⟨_, rfl⟩
    by_cases hlt : k < S.length
    · have hlt' : (k : Int) < (S.length : Int) := by omega
      obtain ⟨x, hx⟩ : ∃ x, S[k]? = some x := ⟨_, List.getElem?_eq_getElem hlt⟩
      have hxm := List.mem_of_getElem? hx
      have hSo := HS.out.only ho.out (Nat.le_refl _) (by simp)
      obtain ⟨b1, o1, hA, q0⟩ := svs_at hSo (x := x.1) (k := k) (by rw [List.getElem?_map, hx]; rfl)
      subst hA
      have hO := HO1.out.tr ho.out
      have hfx := fnd_of HSR.out hxm
      have CK := Lib.hid (st_polled b O S x.1 (by have := (nmL_len (HN.out x hxm)).2; unfold maxLen; omega) wo (H.out.keep hO (by simp)))
      rw [hfx] at CK
      have HAT := Lib.hid (fun w' (ho' : Only [] wo w') => (H'.out.keep (hO.tr ho') (by simp)).at_ hx)
      have HO := Lib.hid hO
      have hwr : IntKind.i64.wrap ((k : Int) + 1) = (k : Int) + 1 := by rw [IntKind.wrap_i64]; omega
      clear hx hxm hSo hO hfx
      go_wp2_with fail
      refine CK.out.mono ?_
      rintro e w2 ⟨rfl, ho2⟩
      obtain ⟨g, c2, r0, r1, r2, r3⟩ := (HAT.out w2 ho2).ex
      have q0' := (ho2.cell (p := ⟨b1, o1 + k, none⟩) (World.block_lt_of_cell? wo _ q0) (by simp)).trans q0
      have HO2 := Lib.hid (ho.out.tr ho2)
      have u0 := fun u : Since w2 => u.cell q0'
      have t0 := fun u : Since w2 => u.cell r0
      have t1 := fun u : Since w2 => u.cell r1
      have t2 := fun u : Since w2 => u.cell r2
      have t3 := fun u : Since w2 => u.cell r3
      clear q0 q0' r0 r1 r2 r3 ho2 CK HAT HO
      go_upto_region 8 with fail
      refine wp_region_only w2 (Only.refl _ _) (by kernel_rfl) (by kernel_rfl) ?_
      repeat (go_big_quiet_step (fail))
      refine wpQuiet_nil ?_
      rintro ⟨w3, ho3⟩
      dsimp only
      have HO3 := Lib.hid (HO2.out.tr ho3)
      clear u0 t0 t1 t2 t3 ho3
      go_wp2_with fail
      go_roundw
      case rel => exact ⟨k + 1, by omega, by go_num, HO3⟩
      case measure => simp [intOf]; omega
    · obtain rfl : k = S.length := by omega
      have hd : decide ((S.length : Int) < (S.length : Int)) = false := by simp
      have CP1 := Lib.hid (CP.out wo (HO1.out.tr ho.out))
      clear CP
      go_wp2_with fail
      refine CP1.out.mono ?_
      rintro e w2 ⟨rfl, ho2⟩
      have CP2 := Lib.hid (CP'.out w2 ((HO1.out.tr ho.out).tr ho2))
      have HO2 := Lib.hid ((HO1.out.tr ho.out).tr ho2)
      clear CP1 CP' ho2
      go_wp2_with fail
      refine CP2.out.mono ?_
      rintro e w3 ⟨rfl, ho3⟩
      have HO3 := Lib.hid (HO2.out.tr ho3)
      clear CP2 ho3
      go_wp2_with fail
      go_ret
      exact ⟨by simp, HO3.out⟩
end Go.Proofs.Ytjfnkjpnjiobjaa
namespace Go.Proofs.Ytjfnkjpnjiobjaa
open Go.RowKit
/-- A store made since W. -/
structure StW (W w : World) (b : Nat) (O : List Nat) (S : Sv) : Prop where
  st : St w b O S
  ho : Only [] W w
  lo : ∀ x ∈ O, W.heap.size ≤ x
theorem StW.read {W w w' : World} {b : Nat} {O : List Nat} {S : Sv} (h : StW W w b O S) (ho : Only [] w w') : StW W w' b O S := ⟨h.st.keep ho (by simp), h.ho.tr ho, h.lo⟩
theorem StW.step {W w w' : World} {b : Nat} {O O' : List Nat} {S S' : Sv} (h : StW W w b O S) (h1 : St w' b O' S') (h2 : Only O w w') (h3 : ∀ x ∈ O', x ∈ O ∨ w.heap.size ≤ x) : StW W w' b O' S' :=
  ⟨h1, h.ho.trans h2 (fun x hx => .inr (h.lo x hx)), fun x hx => by
    rcases h3 x hx with h4 | h4
    · exact h.lo x h4
    · exact Nat.le_trans h.ho.size h4⟩
theorem StW.op {W w w' : World} {b : Nat} {O : List Nat} {S S' : Sv} (h : StW W w b O S) (h1 : OpS w w' b O S') : ∃ O', StW W w' b O' S' ∧ Only O w w' ∧ ∀ x ∈ O', x ∈ O ∨ w.heap.size ≤ x := by
  obtain ⟨O', h2, h3, h4⟩ := h1
  exact ⟨O', h.step h2 h3 h4, h3, h4⟩
def fF : List UInt8 := [102]
def iX : It := ⟨[120], [], []⟩
def iY : It := ⟨[121], [], []⟩
def sh1 : Sv := [(fF, ⟨-1, 0, []⟩)]
def sh2 : Sv := [(fF, ⟨3, 0, [⟨1, iX, false⟩, ⟨2, iY, false⟩]⟩)]
def sh3 : Sv := [(fF, ⟨3, 0, [⟨1, iX, false⟩, ⟨2, iY, true⟩]⟩)]
def sh4 : Sv := [(fF, ⟨5, 1, [⟨1, iX, false⟩, ⟨2, iY, true⟩]⟩)]
theorem e_s1 : subS [] [102] = (0, sh1) := by kernel_rfl
theorem e_s2 : subS sh1 [102] = (5, sh1) := by kernel_rfl
theorem e_s3 : subS sh1 [97, 32, 98] = (3, sh1) := by kernel_rfl
theorem e_i1 : ingR sh1 [102] [iX, iY, iX] 3 = (2, 0, sh2) := by kernel_rfl
theorem e_i2 : ingR sh2 [102] [iX, iY, iX] 3 = (0, 0, sh2) := by kernel_rfl
theorem e_l : listS sh2 [102] 1 = ([⟨2, iY, false⟩], 0) := by kernel_rfl
theorem e_m1 : markS sh2 [102] [121] = (0, sh3) := by kernel_rfl
theorem e_m2 : markS sh3 [102] [122] = (4, sh3) := by kernel_rfl
theorem e_f : failS sh3 [102] 5 = (0, sh4) := by kernel_rfl
theorem e_p : fnd sh4 [102] = some ⟨5, 1, [⟨1, iX, false⟩, ⟨2, iY, true⟩]⟩ := by kernel_rfl
theorem mx (n : Nat) (h : n ≤ 1000) : n ≤ maxLen := by unfold maxLen; omega
theorem len_xyx : ∀ x ∈ [iX, iY, iX], x.Len := by
  intro x hx
  simp only [List.mem_cons, List.not_mem_nil, or_false] at hx
  rcases hx with rfl | rfl | rfl <;> exact ⟨mx _ (by decide), mx _ (by decide), mx _ (by decide)⟩
set_option maxRecDepth 100000 in
set_option maxHeartbeats 4000000 in
theorem shown17 (w : World) : Calls Try.prog 15 #[] w fun e w' => e = .returned (.bool true) ∧ Only [] w w' := by
  have C0 := Lib.hid (st_new w)
  go_enter Try.func15, Try.ntmps15
  go_wp2_with fail
  refine C0.out.mono ?_
  rintro e w0 ⟨b, O0, rfl, hs0, hl0, ho0⟩
  have H0 : Hid (StW w w0 b O0 []) := Lib.hid ⟨hs0, ho0, hl0⟩
  clear C0 hs0 hl0 ho0
  have C1 := Lib.hid (st_sub b O0 [] [102] (mx _ (by decide)) w0 H0.out.st)
  rw [e_s1] at C1
  go_wp2_with fail
  refine C1.out.mono ?_
  rintro e w1 ⟨rfl, hop⟩
  obtain ⟨O1, hs1, hf1, _⟩ := H0.out.op hop
  have H1 := Lib.hid hs1
  clear hop hs1 hf1 C1
  have C2 := Lib.hid (st_sub b O1 sh1 [102] (mx _ (by decide)) w1 H1.out.st)
  rw [e_s2] at C2
  go_wp2_with fail
  refine C2.out.mono ?_
  rintro e w2 ⟨rfl, hop⟩
  obtain ⟨O2, hs2, hf2, _⟩ := H1.out.op hop
  have H2 := Lib.hid hs2
  clear hop hs2 hf2 C2
  have C3 := Lib.hid (st_sub b O2 sh1 [97, 32, 98] (mx _ (by decide)) w2 H2.out.st)
  rw [e_s3] at C3
  go_wp2_with fail
  refine C3.out.mono ?_
  rintro e w3 ⟨rfl, hop⟩
  obtain ⟨O3, hs3, hf3, _⟩ := H2.out.op hop
  have H3 := Lib.hid hs3
  clear hop hs3 hf3 C3
  obtain ⟨w4, hw4⟩ : ∃ w4, w3.alloc (.cells (itL [iX, iY, iX]).toArray 36) = w4 := ⟨_, rfl⟩
  obtain ⟨y, hy⟩ : ∃ y, w3.heap.size = y := ⟨_, rfl⟩
  have hO4 : Only [] w3 w4 := hw4 ▸ (Only.refl _ _).alloc _
  have hC4 : Cells w4 y 36 (itL [iX, iY, iX]) := hw4 ▸ hy ▸ Cells.new w3 _ _
  have H4 := Lib.hid (H3.out.read hO4)
  have HR4 : Hid (SlAt w4 w4.heap.size (.slice (some ⟨y, 0, none⟩) 3 3) 3 3 (itL [iX, iY, iX])) := Lib.hid (SlAt.cells (n := 3) (sz := 3) hC4 rfl (by unfold maxLen; omega))
  have HYO : Hid (∀ x ∈ O3, x ≠ y) := Lib.hid (fun x hx e => by have := H3.out.st.bw x hx; omega)
  have HC4 := Lib.hid hC4
  obtain ⟨O4, hO4e⟩ : ∃ O4, O3 = O4 := ⟨_, rfl⟩
  rw [hO4e] at H4 HYO
  have hw4' : w3.alloc (.cells #[.string ⟨#[120]⟩, .string ⟨#[]⟩, .string ⟨#[]⟩, .string ⟨#[121]⟩, .string ⟨#[]⟩, .string ⟨#[]⟩, .string ⟨#[120]⟩, .string ⟨#[]⟩, .string ⟨#[]⟩] 36) = w4 := hw4
  clear hw4 hC4 hO4 hO4e
  have hrow := Lib.hid (fun w' (X : List Nat) (ho : Only X w4 w') (hX : ∀ x ∈ X, x ≠ y) => (SlAt.cells (n := 3) (sz := 3) (HC4.out.only ho (fun h => hX y h rfl)) rfl (by unfold maxLen; omega) : SlAt w' w'.heap.size (.slice (some ⟨y, 0, none⟩) 3 3) 3 3 (itL [iX, iY, iX])))
  have C5 := Lib.hid (st_ingest b O4 sh1 [102] (mx _ (by decide)) (.slice (some ⟨y, 0, none⟩) 3 3) [iX, iY, iX] 3 w4 H4.out.st (fun w' ho => hrow.out w' O4 ho HYO.out) (by decide) len_xyx)
  rw [e_i1] at C5
  clear H0 H1 H2 H3 HR4
  go_wp2_with fail
  clear hw4' hy
  refine C5.out.mono ?_
  rintro e w5 ⟨rfl, hop⟩
  obtain ⟨O5, hs5, hf5, hn5⟩ := H4.out.op hop
  have H5 := Lib.hid hs5
  have hyl : y < w4.heap.size := HC4.out.lt
  have HYO5 : Hid (∀ x ∈ O5, x ≠ y) := Lib.hid (fun x hx => by
    rcases hn5 x hx with h | h
    · exact HYO.out x h
    · omega)
  have hrow5 := Lib.hid (fun w' (X : List Nat) (ho : Only X w5 w') (hX : ∀ x ∈ X, x ≠ y) => (SlAt.cells (n := 3) (sz := 3) ((HC4.out.only hf5 (fun h => HYO.out y h rfl)).only ho (fun h => hX y h rfl)) rfl (by unfold maxLen; omega) : SlAt w' w'.heap.size (.slice (some ⟨y, 0, none⟩) 3 3) 3 3 (itL [iX, iY, iX])))
  have C6 := Lib.hid (st_ingest b O5 sh2 [102] (mx _ (by decide)) (.slice (some ⟨y, 0, none⟩) 3 3) [iX, iY, iX] 3 w5 H5.out.st (fun w' ho => hrow5.out w' O5 ho HYO5.out) (by decide) len_xyx)
  rw [e_i2] at C6
  clear hop hs5 hf5 hn5 C5 hrow H4 HYO HC4
  go_wp2_with fail
  refine C6.out.mono ?_
  rintro e w6 ⟨rfl, hop⟩
  obtain ⟨O6, hs6, hf6, hn6⟩ := H5.out.op hop
  have H6 := Lib.hid hs6
  have C7 := Lib.hid (st_list b O6 sh2 [102] (mx _ (by decide)) 1 w6 H6.out.st)
  rw [e_l] at C7
  clear hop hs6 hf6 hn6 C6 hrow5 H5 HYO5
  go_wp2_with fail
  refine C7.out.mono ?_
  rintro e w7 ⟨v7, rfl, hown7, ho7⟩
  obtain ⟨A7, c7, rfl⟩ := (SlAt.of_own hown7).shape
  have H7 := Lib.hid (H6.out.read ho7)
  obtain ⟨w8, hw8⟩ : ∃ w8, w7.alloc (.cells (poL [⟨2, iY, false⟩]).toArray 38) = w8 := ⟨_, rfl⟩
  obtain ⟨y8, hy8⟩ : ∃ y, w7.heap.size = y := ⟨_, rfl⟩
  have hO8 : Only [] w7 w8 := hw8 ▸ (Only.refl _ _).alloc _
  have hC8 : Cells w8 y8 38 (poL [⟨2, iY, false⟩]) := hw8 ▸ hy8 ▸ Cells.new w7 _ _
  have C8 := Lib.hid (posts17 (.slice A7 1 c7) (.slice (some ⟨y8, 0, none⟩) 1 1) [⟨2, iY, false⟩] w8 (SlAt.of_own (own_keep hown7 hO8 (by simp))) (SlAt.cells (n := 1) (sz := 5) hC8 rfl (by unfold maxLen; omega)) (by decide))
  have H8 := Lib.hid (H7.out.read hO8)
  have hw8' : w7.alloc (.cells #[.int .i64 2, .string ⟨#[121]⟩, .string ⟨#[]⟩, .string ⟨#[]⟩, .bool false] 38) = w8 := hw8
  clear hown7 ho7 hw8 hO8 hC8 C7 H6
  go_wp2_with fail
  clear hw8' hy8
  refine C8.out.mono ?_
  rintro e w9 ⟨rfl, ho9⟩
  have H9 := Lib.hid (H8.out.read ho9)
  have C9 := Lib.hid (st_mark b O6 sh2 [102] (mx _ (by decide)) [121] (mx _ (by decide)) w9 H9.out.st)
  rw [e_m1] at C9
  clear ho9 C8 H7 H8
  go_wp2_with fail
  refine C9.out.mono ?_
  rintro e w10 ⟨rfl, hop⟩
  obtain ⟨O10, hs10, _, _⟩ := H9.out.op hop
  have H10 := Lib.hid hs10
  have C10 := Lib.hid (st_mark b O10 sh3 [102] (mx _ (by decide)) [122] (mx _ (by decide)) w10 H10.out.st)
  rw [e_m2] at C10
  clear hop hs10 C9 H9
  go_wp2_with fail
  refine C10.out.mono ?_
  rintro e w11 ⟨rfl, hop⟩
  obtain ⟨O11, hs11, _, _⟩ := H10.out.op hop
  have H11 := Lib.hid hs11
  have C11 := Lib.hid (st_fail b O11 sh3 [102] (mx _ (by decide)) 5 w11 H11.out.st)
  rw [e_f] at C11
  clear hop hs11 C10 H10
  go_wp2_with fail
  refine C11.out.mono ?_
  rintro e w12 ⟨rfl, hop⟩
  obtain ⟨O12, hs12, _, _⟩ := H11.out.op hop
  have H12 := Lib.hid hs12
  have C12 := Lib.hid (st_polled b O12 sh4 [102] (mx _ (by decide)) w12 H12.out.st)
  rw [e_p] at C12
  clear hop hs12 C11 H11
  go_wp2_with fail
  refine C12.out.mono ?_
  rintro e w13 ⟨rfl, ho13⟩
  have H13 := Lib.hid (H12.out.read ho13)
  clear ho13 C12 H12
  go_wp2_with fail
  go_ret
  exact ⟨rfl, H13.out.ho⟩
end Go.Proofs.Ytjfnkjpnjiobjaa
namespace Go.Proofs.Ytjfnkjpnjiobjaa
open Go.RowKit
def run17 (S : Sv) (l : List A17) : Sv := l.foldl (fun S a => (D17 S a).2.2.2) S
theorem run17_step (S : Sv) (l : List A17) (k : Nat) (a : A17) (h : l[k]? = some a) : run17 S (l.take (k + 1)) = (D17 (run17 S (l.take k)) a).2.2.2 := by
  unfold run17
  rw [List.take_add_one, h, List.foldl_append]; rfl
/-- What an act makes of a feed k. -/
inductive Made (q : Int) (a : A17) (S : Sv) (k : List UInt8) : Option Fd → Prop where
  | same : Made q a S k (fnd S k)
  | sub : k = a.fd → fnd S k = none → Made q a S k (some ⟨-1, 0, []⟩)
  | un : k = a.fd → q = 2 → Made q a S k none
  | fail (f : Fd) : k = a.fd → fnd S k = some f → Made q a S k (some (failF f a.n))
  | mark (f : Fd) (i : Nat) : k = a.fd → fnd S k = some f → idx f.ps a.id = some i → Made q a S k (some (markF f i))
  | ing (f : Fd) : k = a.fd → fnd S k = some f → Made q a S k (some ⟨a.n, 0, (ingF f a.its).1.ps⟩)
theorem D17_made (S : Sv) (a : A17) (k : List UInt8) : Made (pkI a.op 10) a S k (fnd (D17 S a).2.2.2 k) := by
  unfold D17
  generalize pkI a.op 10 = q
  unfold D17q
  split
  · show Made q a S k (fnd (subS S a.fd).2 k)
    rcases subS_fnd S a.fd k with h | ⟨h1, h2, h3⟩
    · rw [h]; exact .same
    · rw [h3]; exact .sub h1 (h1 ▸ h2)
  split
  · show Made q a S k (fnd (subS S a.fd).2 k)
    rcases subS_fnd S a.fd k with h | ⟨h1, h2, h3⟩
    · rw [h]; exact .same
    · rw [h3]; exact .sub h1 (h1 ▸ h2)
  split
  · rename_i hq
    show Made q a S k (fnd (unS S a.fd).2 k)
    rcases unS_fnd S a.fd k with h | ⟨h1, h3⟩
    · rw [h]; exact .same
    · rw [h3]; exact .un h1 hq
  split
  · show Made q a S k (fnd (failS S a.fd a.n).2 k)
    rcases failS_fnd S a.fd a.n k with h | ⟨h1, f, h2, h3⟩
    · rw [h]; exact .same
    · rw [h3]; exact .fail f h1 (h1 ▸ h2)
  split
  · show Made q a S k (fnd (markS S a.fd a.id).2 k)
    rcases markS_fnd S a.fd a.id k with h | ⟨h1, f, i, h2, h4, h3⟩
    · rw [h]; exact .same
    · rw [h3]; exact .mark f i h1 (h1 ▸ h2) h4
  split
  · exact .same
  · show Made q a S k (fnd (ingR S a.fd a.its a.n).2.2 k)
    rcases ingR_fnd S a.fd a.its a.n k with h | ⟨h1, f, h2, h3⟩
    · rw [h]; exact .same
    · rw [h3]; exact .ing f h1 (h1 ▸ h2)
theorem D17_other (S : Sv) (a : A17) (k : List UInt8) (h : k ≠ a.fd) : fnd (D17 S a).2.2.2 k = fnd S k := by
  generalize hf : fnd (D17 S a).2.2.2 k = o
  have := D17_made S a k
  rw [hf] at this
  cases this with
  | same => rfl
  | sub h1 => exact absurd h1 h
  | un h1 => exact absurd h1 h
  | fail f h1 => exact absurd h1 h
  | mark f i h1 => exact absurd h1 h
  | ing f h1 => exact absurd h1 h
theorem D17_ok {S : Sv} (a : A17) (h : SvOk S) : SvOk (D17 S a).2.2.2 := by
  intro k f hf
  have hm := D17_made S a k
  rw [hf] at hm
  generalize ho : some f = o at hm
  cases hm with
  | same => exact h k f ho.symm
  | sub h1 h2 => cases ho; exact PsOk.nil
  | un h1 => cases ho
  | fail g h1 h2 => cases ho; exact h k g h2
  | mark g i h1 h2 h3 => cases ho; exact (mark_ok i (h k g h2)).1
  | ing g h1 h2 => cases ho; exact (ingF_ok a.its (h k g h2)).1
theorem run17_ok (l : List A17) : ∀ S, SvOk S → SvOk (run17 S l) := by
  induction l with
  | nil => intro S h; exact h
  | cons a r ih => intro S h; exact ih _ (D17_ok a h)
theorem D17_pre {S : Sv} (a : A17) (h : SvOk S) (hq : pkI a.op 10 ≠ 2) (k : List UInt8) : Pre (allS S k) (allS (D17 S a).2.2.2 k) := by
  unfold allS
  have hm := D17_made S a k
  generalize hf : fnd (D17 S a).2.2.2 k = o at hm
  cases hm with
  | same => exact Pre.refl _
  | sub h1 h2 => rw [h2]; exact Pre.refl _
  | un h1 h2 => exact absurd h2 hq
  | fail g h1 h2 => rw [h2]; exact Pre.refl _
  | mark g i h1 h2 h3 => rw [h2]; exact (mark_ok i (h k g h2)).2
  | ing g h1 h2 => rw [h2]; exact (ingF_ok a.its (h k g h2)).2
theorem allS_ok {S : Sv} (h : SvOk S) (k : List UInt8) : PsOk (allS S k) := by
  unfold allS
  cases hf : fnd S k with
  | none => exact PsOk.nil
  | some f => exact h k f hf
end Go.Proofs.Ytjfnkjpnjiobjaa
namespace Go.Proofs.Ytjfnkjpnjiobjaa
open Go.RowKit
theorem A17.Ok.later {W wr w' : World} {b : Nat} {O : List Nat} {S : Sv} {a : A17} (h : a.Ok W) (hs : StW W wr b O S) (ho : Only O wr w') : SlAt w' w'.heap.size a.iv 3 a.its.length (itL a.its) :=
  ((h.its.only hs.ho (Nat.le_refl _) (by simp)).only ho hs.ho.size hs.lo).more (Nat.le_trans hs.ho.size ho.size)
theorem does17' (a : A17) {W wr : World} {b : Nat} {O : List Nat} {S : Sv} (h : a.Ok W) (hl : a.its.length ≤ 60) (hs : StW W wr b O S) :
    Calls Try.prog 18 #[.pointer (some ⟨b, 0, none⟩), .agg #[.int .i64 a.op, .int .i64 a.n, .string ⟨a.fd.toArray⟩, .string ⟨a.id.toArray⟩, a.iv]] wr (DoesW wr b O (D17 S a)) :=
  does17 b O S a wr hs.st h.op h.fd h.id (by omega) h.len (fun w' ho => h.later hs ho)
end Go.Proofs.Ytjfnkjpnjiobjaa
namespace Go.Proofs.Ytjfnkjpnjiobjaa
open Go.RowKit
theorem D17_inv {S : Sv} (a : A17) (h : SvI S) : SvI (D17 S a).2.2.2 := by
  unfold D17
  generalize pkI a.op 10 = q
  unfold D17q
  split
  · exact h.sub _
  split
  · exact h.sub _
  split
  · exact h.un _
  split
  · exact h.fail _ _
  split
  · exact h.mark _ _
  split
  · exact h
  · exact h.ing _ _ _
theorem D17_posts (S : Sv) (a : A17) : (D17 S a).2.1.length ≤ 50 := by
  have h0 : ([] : List Po).length ≤ 50 := by simp
  unfold D17
  generalize pkI a.op 10 = q
  unfold D17q
  split
  · exact h0
  split
  · exact h0
  split
  · exact h0
  split
  · exact h0
  split
  · exact h0
  split
  · show (listS S a.fd a.n).1.length ≤ 50
    unfold listS
    split
    · exact h0
    · unfold pgF
      rw [List.length_take]
      omega
  · exact h0
/-- Both stores since W. -/
structure Two17 (W w : World) (b b' : Nat) (O K : List Nat) (S : Sv) : Prop where
  st : StW W w b O S
  rs : Rs w b' K S
  lo : ∀ x ∈ K, W.heap.size ≤ x
  dis : ∀ x ∈ O, x ∉ K
  inv : SvI S
theorem Two17.read {W w w' : World} {b b' : Nat} {O K : List Nat} {S : Sv} (h : Two17 W w b b' O K S) (ho : Only [] w w') : Two17 W w' b b' O K S := ⟨h.st.read ho, h.rs.keep ho (by simp), h.lo, h.dis, h.inv⟩
/-- What an act does: both answers. -/
theorem two_does (a : A17) {W w : World} {b b' : Nat} {O K : List Nat} {S : Sv} (h : Two17 W w b b' O K S) (ha : a.Ok W) (hl : a.its.length ≤ 60) :
    Calls Try.prog 18 #[.pointer (some ⟨b, 0, none⟩), .agg #[.int .i64 a.op, .int .i64 a.n, .string ⟨a.fd.toArray⟩, .string ⟨a.id.toArray⟩, a.iv]] w fun e w' => ∃ v' O', e = .returned (.tuple #[.int .i64 (D17 S a).1, v', .int .i64 (D17 S a).2.2.1]) ∧ w'.ownsRow w.heap.size 38 5 v' (D17 S a).2.1.length (poL (D17 S a).2.1) ∧
      StW W w' b O' (D17 S a).2.2.2 ∧ Rs w' b' K S ∧ (∀ x ∈ O', x ∉ K) ∧ ∀ x ∈ K, x < w.heap.size :=
  (does17' a ha hl h.st).mono fun e w' ⟨v', O', h1, h2, _, h4, h5, h6⟩ => ⟨v', O', h1, h2, h.st.step h4 h5 h6, h.rs.keep h5 (fun k hk hm => h.dis k hm hk), fun x hx hk => by
    rcases h6 x hx with h7 | h7
    · exact h.dis x h7 hk
    · have := h.rs.bw x hk; omega, h.rs.bw⟩
theorem two_model (a : A17) {W w w1 : World} {b b' : Nat} {O K : List Nat} {S S' : Sv} {v : Value} {l : List Po} (hs : StW W w1 b O S') (hr : Rs w1 b' K S) (hd : ∀ x ∈ O, x ∉ K) (hlo : ∀ x ∈ K, W.heap.size ≤ x) (hK : ∀ x ∈ K, x < w.heap.size) (hI : SvI S) (ha : a.Ok W) (hl : a.its.length ≤ 60) (hS : S' = (D17 S a).2.2.2)
    (hv : w1.ownsRow w.heap.size 38 5 v l.length (poL l)) :
    Calls Try.prog 26 #[.pointer (some ⟨b', 0, none⟩), .agg #[.int .i64 a.op, .int .i64 a.n, .string ⟨a.fd.toArray⟩, .string ⟨a.id.toArray⟩, a.iv]] w1 fun e w' => ∃ v' K', e = .returned (.tuple #[.int .i64 (D17 S a).1, v', .int .i64 (D17 S a).2.2.1]) ∧ SlAt w' w'.heap.size v' 5 (D17 S a).2.1.length (poL (D17 S a).2.1) ∧
      SlAt w' w'.heap.size v 5 l.length (poL l) ∧ Two17 W w' b b' O K' S' := by
  subst hS
  refine (model17 b' K S a w1 hr hI ha.op ha.fd (by omega) ha.len (fun w' ho => ((ha.its.only hs.ho (Nat.le_refl _) (by simp)).only ho hs.ho.size hlo).more (Nat.le_trans hs.ho.size ho.size))).mono fun e w' ⟨v', K', h1, h2, _, h4, h5, h6⟩ => ⟨v', K', h1, SlAt.of_own h2, SlAt.of_own (own_keep hv h5 (fun x hx e => by
    have := hK x hx
    have := (hv.lt x e).1
    omega)), ⟨?_, h4, fun x hx => ?_, fun x hx hk => ?_, D17_inv a hI⟩⟩
  · exact ⟨hs.st.keep h5 hd, hs.ho.trans h5 (fun x hx => .inr (hlo x hx)), hs.lo⟩
  · rcases h6 x hx with h7 | h7
    · exact hlo x h7
    · exact Nat.le_trans hs.ho.size h7
  · rcases h6 x hk with h7 | h7
    · exact hd x hx h7
    · have := hs.st.bw x hx; omega
end Go.Proofs.Ytjfnkjpnjiobjaa
namespace Go.Proofs.Ytjfnkjpnjiobjaa
open Go.RowKit Go.ChangeShapes Go.WideShapes Go.Deep
theorem fld {H : Type} {enc : TypeId × Value → H} {P : Program} {w : World} {base : Nat} {spare : Nat → Bool} {held : Bool} {fs : Array Field} {cs : List Value} {n : Nat} {xs : List (DataW H × List MemPlace)} (hf : ∀ (i : Nat) (f : Field), fs[i]? = some f → DataW.trod enc P w base spare held n f.type ((cs.drop f.offset).take (P.cellsOf f.type)) = xs[i]?) (hl : xs.length = fs.size) (i : Nat) (f : Field) (hi : fs[i]? = some f) (k : Nat) (hk : P.cellsOf f.type = k) :
    ∃ y, DataW.trod enc P w base spare held n f.type ((cs.drop f.offset).take k) = some y := by
  have h := hf i f hi
  rw [hk] at h
  have : i < fs.size := (Array.getElem?_eq_some_iff.1 hi).1
  exact ⟨_, h.trans (List.getElem?_eq_getElem (by omega))⟩
set_option maxRecDepth 100000 in
set_option maxHeartbeats 1000000 in
theorem open_act17 {H : Type} {enc : TypeId × Value → H} {w : World} {base : Nat} {spare : Nat → Bool} {held : Bool} {r : Reach} {b0 : Nat} {v : Value} {d : DataW H} {p : List MemPlace}
    (hv : Value.okWide Try.prog w r b0 33 v) (h : DataW.Trod enc Try.prog w base spare held 33 v d p) :
    ∃ a : A17, (v = a.val ∧ a.Ok w) ∧ True := by
  obtain ⟨cs, rfl, hcs⟩ := okWide_struct Try.underlying33 hv
  rw [show Try.prog.cellsOf 33 = 5 from by kernel_rfl] at hcs
  obtain ⟨fuel, hf⟩ := h
  obtain ⟨l⟩ := cs
  have hl : l.length = 5 := hcs
  match l, hl with
  | [x0, x1, x2, x3, x4], _ =>
    have hf : DataW.trod enc Try.prog w base spare held fuel 33 [x0, x1, x2, x3, x4] = some (d, p) := hf
    obtain ⟨ys, n, -, -, -, hyl, hF⟩ := DataW.trod_struct Try.underlying33 hf
    obtain ⟨y0, h0⟩ := fld hF hyl 0 _ rfl 1 (by kernel_rfl)
    obtain ⟨y1, h1⟩ := fld hF hyl 1 _ rfl 1 (by kernel_rfl)
    obtain ⟨y2, h2⟩ := fld hF hyl 2 _ rfl 1 (by kernel_rfl)
    obtain ⟨y3, h3⟩ := fld hF hyl 3 _ rfl 1 (by kernel_rfl)
    obtain ⟨y4, h4⟩ := fld hF hyl 4 _ rfl 1 (by kernel_rfl)
    obtain ⟨z0, q0, _, w0⟩ := DataW.trod_int (cs := [x0]) Try.underlying3 h0
    obtain ⟨z1, q1, _, w1⟩ := DataW.trod_int (cs := [x1]) Try.underlying3 h1
    obtain ⟨z2, q2, _, w2⟩ := DataW.trod_string (cs := [x2]) Try.underlying9 h2
    obtain ⟨z3, q3, _, w3⟩ := DataW.trod_string (cs := [x3]) Try.underlying9 h3
    obtain ⟨its, hi1, hi2⟩ := open_items_in (v := x4) h4
    simp at q0 q1 q2 q3
    subst q0; subst q1; subst q2; subst q3
    exact ⟨⟨z0, z1, z2.data.toList, z3.data.toList, x4, its⟩, ⟨by simp [A17.val], ⟨wide64_of_wf w0, wide64_of_wf w1, by rw [ba_len]; exact w2, by rw [ba_len]; exact w3, hi1, hi2⟩⟩, trivial⟩
end Go.Proofs.Ytjfnkjpnjiobjaa
namespace Go.Proofs.Ytjfnkjpnjiobjaa
open Go.RowKit
set_option maxRecDepth 100000 in
set_option maxHeartbeats 8000000 in
theorem storePlays_walk (W : World) (v0 : Value) (l : List A17) (s0 : SlAt W W.heap.size v0 5 l.length (acL l)) (g0 : ∀ a ∈ l, a.Ok W) (feed : ByteArray) (hf0 : feed.size ≤ maxLen) :
    Calls Try.prog 8 #[v0, .string feed] W fun e W' => e = .returned (.bool true) ∧ Only [] W W' := by
  obtain ⟨LA, lc, rfl⟩ := s0.shape
  obtain ⟨fd, rfl, efd⟩ := str_of feed
  rw [efd] at hf0
  clear efd
  have hf1 := hf0
  unfold maxLen at hf0
  have HS := Lib.hid s0
  have HG := Lib.hid g0
  have C0 := Lib.hid (shown17 W)
  have CS := Lib.hid (fun w' (ho : Only [] W w') => small17 (.slice LA l.length lc) l w' ((s0.only ho (Nat.le_refl _) (by simp)).more ho.size) (fun a ha => (g0 a ha).only ho))
  have hll := sl_len s0
  unfold maxLen at hll
  clear s0 g0
  go_enter Try.func8, Try.ntmps8
  go_wp2_with fail
  refine C0.out.mono ?_
  rintro e w2 ⟨rfl, ho2⟩
  have HO1 := Lib.hid ho2
  clear ho2 C0
  go_wp2_with fail
  refine (CS.out _ HO1.out).mono ?_
  rintro e w3 ⟨okA, rfl, hokA, ho3⟩
  have HO := Lib.hid (HO1.out.tr ho3)
  have HM := Lib.hid hokA
  clear ho3 hokA HO1 CS
  cases okA with
  | false =>
    go_wp2_with fail
    go_ret
    exact ⟨rfl, HO.out⟩
  | true =>
  have HM1 := Lib.hid (HM.out rfl)
  clear HM
  by_cases t1 : 200 < fd.length
  · have dt1 : decide ((200 : Int) < (fd.length : Int)) = true := by simp; omega
    go_wp2_with fail
    go_ret
    exact ⟨rfl, HO.out⟩
  have dt1 : decide ((200 : Int) < (fd.length : Int)) = false := by simp; omega
  go_wp2_with fail
  refine (st_new _).mono ?_
  rintro e wn ⟨b, O, rfl, h1, h2, h3⟩
  have HN := Lib.hid (⟨h1, HO.out.tr h3, fun x hx => Nat.le_trans HO.out.size (h2 x hx)⟩ : StW W wn b O [])
  clear h1 h2 h3
  obtain ⟨wm, hwm⟩ : ∃ wm, wn.alloc (.cells #[.slice none 0 0] 56) = wm := ⟨_, rfl⟩
  obtain ⟨b', hb'⟩ : ∃ z, wn.heap.size = z := ⟨_, rfl⟩
  have hrs := rs_empty wn
  rw [hwm, hb'] at hrs
  have H : Hid (Two17 W wm b b' O [b'] (run17 [] (l.take 0))) := Lib.hid ⟨HN.out.read (hwm ▸ (Only.refl _ _).alloc _), hrs, by
    intro x hx
    obtain rfl := List.mem_singleton.1 hx
    rw [← hb']
    exact HN.out.ho.size, fun x hx hk => by
    obtain rfl := List.mem_singleton.1 hk
    have := HN.out.st.bw x hx
    omega, SvI.nil⟩
  clear hrs HN
  go_upto_region 8 with fail
  clear hwm hb'
  go_loopw [9] (fun i wr => ∃ (k : Nat) (O K : List Nat), k ≤ l.length ∧ i = .int .i64 k ∧ Hid (Two17 W wr b b' O K (run17 [] (l.take k)))) (fun i _ => l.length - (intOf i).toNat)
  case atStart => exact ⟨0, _, _, by omega, rfl, H⟩
  case round =>
    obtain ⟨k, O, K, hk, rfl, H⟩ := hrel
    obtain ⟨wo, rfl⟩ : ∃ wo, wo = wr := ⟨_, rfl⟩
    by_cases hlt : k < l.length
    · have hlt' : (k : Int) < (l.length : Int) := by omega
      obtain ⟨a, ha⟩ : ∃ a, l[k]? = some a := ⟨_, List.getElem?_eq_getElem hlt⟩
      have ham := List.mem_of_getElem? ha
      have HA := Lib.hid (HG.out a ham)
      have hAL : Hid (a.its.length ≤ 60) := Lib.hid (HM1.out.al a ham).n
      obtain ⟨ab, ao, ac, hv, q0, q1, q2, q3, q4⟩ := acL_at (HS.out.only H.out.st.ho (Nat.le_refl _) (by simp)) ha
      injection hv with e1 e2 e3
      subst e1; subst e3
      obtain ⟨IA, ic, hiv⟩ := HA.out.its.shape
      obtain ⟨S, hS⟩ : ∃ S, run17 [] (l.take k) = S := ⟨_, rfl⟩
      have HT : Hid (run17 [] (l.take (k + 1)) = (D17 S a).2.2.2) := Lib.hid (by rw [← hS]; exact run17_step [] l k a ha)
      rw [hS] at H
      have C := Lib.hid (two_does a H.out HA.out hAL.out)
      have CMM := fun (w1 : World) (O' : List Nat) (v : Value) (lp : List Po) (hs : StW W w1 b O' (D17 S a).2.2.2) (hr : Rs w1 b' K S) (hd : ∀ x ∈ O', x ∉ K) (hv : w1.ownsRow wo.heap.size 38 5 v lp.length (poL lp)) => two_model a (w := wo) (v := v) (l := lp) hs hr hd H.out.lo H.out.rs.bw H.out.inv HA.out hAL.out rfl hv
      have CMM := Lib.hid CMM
      have hIV := Lib.hid hiv
      rw [hiv] at q4 C CMM
      have hp50 := D17_posts S a
      have HACL := Lib.hid (fun w' (ho : Only [] W w') => acL_at (HS.out.only ho (Nat.le_refl _) (by simp)) ha)
      have hwr : IntKind.i64.wrap ((k : Int) + 1) = (k : Int) + 1 := by rw [IntKind.wrap_i64]; omega
      obtain ⟨D, hD⟩ : ∃ D, D17 S a = D := ⟨_, rfl⟩
      rw [hD] at C CMM HT hp50
      obtain ⟨dn, dp, de, dS⟩ := D
      dsimp only at C CMM HT hp50
      clear e2 ha ham hS hiv hD H
      go_wp2_with fail
      clear q0 q1 q2 q3 q4
      refine C.out.mono ?_
      rintro e w3 ⟨v', O', rfl, hown, hst, hrs, hdis, _⟩
      obtain ⟨VA, vc, rfl⟩ := (SlAt.of_own hown).shape
      obtain ⟨ab', ao', ac', hv, q0, q1, q2, q3, q4⟩ := HACL.out w3 hst.ho
      injection hv with e1 e2 e3
      injection e1 with e1
      injection e1 with e1 e1'
      subst e1; subst e1'; subst e3
      rw [hIV.out] at q4
      have CM := Lib.hid (CMM.out w3 O' _ dp hst hrs hdis hown)
      clear hown hst hrs hdis C CMM HACL e2
      go_wp2_with fail
      clear q0 q1 q2 q3 q4
      refine CM.out.mono ?_
      rintro e w4 ⟨u', K', rfl, hu, hv, hT⟩
      obtain ⟨UA, uc, rfl⟩ := hu.shape
      have HT4 := Lib.hid hT
      have CQ := Lib.hid (posts17 _ _ dp w4 hv hu (by omega))
      clear hu hv hT CM
      go_wp2_with fail
      refine CQ.out.mono ?_
      rintro e w5 ⟨rfl, ho5⟩
      have HT5 := Lib.hid (HT4.out.read ho5)
      rw [← HT.out] at HT5
      clear ho5 CQ HT4 HT
      go_wp2_with fail
      go_roundw
      case rel => exact ⟨k + 1, O', K', by omega, by go_num, HT5⟩
      case measure => simp [intOf]; omega
    · obtain rfl : k = l.length := by omega
      have hd : decide ((l.length : Int) < (l.length : Int)) = false := by simp
      rw [List.take_length] at H
      obtain ⟨S, hS⟩ : ∃ S, run17 [] l = S := ⟨_, rfl⟩
      rw [hS] at H
      have CP := Lib.hid (st_polled b O S fd hf1 wo H.out.st.st)
      have CFI := Lib.hid (fun w' (ho : Only [] wo w') => rr_find b' K S fd hf1 w' (H.out.rs.keep ho (by simp)))
      have CAL := Lib.hid (fun w' (ho : Only [] wo w') => alike17 b b' O K S w' (H.out.st.st.keep ho (by simp)) (H.out.rs.keep ho (by simp)) H.out.inv)
      have HOo := Lib.hid H.out.st.ho
      have HATf := Lib.hid (fun (f : Fd) (hf : fnd S fd = some f) w' (ho : Only [] wo w') => (H.out.rs.keep ho (by simp)).at_ (ixS_at H.out.rs hf))
      have HLF := Lib.hid (fun (f : Fd) (hf : fnd S fd = some f) => (List.getElem?_eq_some_iff.1 (ixS_at H.out.rs hf)).1)
      obtain ⟨i, hi⟩ : ∃ i, ixS S fd = i := ⟨_, rfl⟩
      rw [hi] at CFI HATf HLF
      obtain ⟨of, hof⟩ : ∃ o, fnd S fd = o := ⟨_, rfl⟩
      rw [hof] at CP CFI HATf HLF
      clear hS hof hi H
      cases of with
      | none =>
        simp only [Option.elim, Option.isSome_none] at CP CFI
        go_wp2_with fail
        refine CP.out.mono ?_
        rintro e w5 ⟨rfl, ho5⟩
        have HO5 := Lib.hid ho5
        have C5 := Lib.hid (CFI.out w5 ho5)
        clear ho5 CP CFI
        go_wp2_with fail
        refine C5.out.mono ?_
        rintro e w6 ⟨rfl, ho6⟩
        have HO6 := Lib.hid (HO5.out.tr ho6)
        have C6 := Lib.hid (CAL.out w6 (HO5.out.tr ho6))
        clear ho6 C5 CAL
        go_wp2_with fail
        refine C6.out.mono ?_
        rintro e w7 ⟨rfl, ho7⟩
        have HO7 := Lib.hid (HOo.out.tr (HO6.out.tr ho7))
        clear ho7 C6
        go_wp2_with fail
        go_ret
        exact ⟨rfl, HO7.out⟩
      | some f =>
        simp only [Option.elim, Option.isSome_some] at CP CFI
        have hil := HLF.out f rfl
        have hil' : (i : Int) < (S.length : Int) := by omega
        go_wp2_with fail
        refine CP.out.mono ?_
        rintro e w5 ⟨rfl, ho5⟩
        have HO5 := Lib.hid ho5
        have C5 := Lib.hid (CFI.out w5 ho5)
        clear ho5 CP CFI
        go_wp2_with fail
        refine C5.out.mono ?_
        rintro e w6 ⟨rfl, ho6⟩
        have HO6 := Lib.hid (HO5.out.tr ho6)
        obtain ⟨g, c2, r0, r1, r2, r3⟩ := (HATf.out f rfl w6 HO6.out).ex
        dsimp only at r1 r2 r3
        have C6 := Lib.hid (CAL.out w6 (HO5.out.tr ho6))
        clear ho6 C5 CAL
        go_wp2_with fail
        refine C6.out.mono ?_
        rintro e w7 ⟨rfl, ho7⟩
        have HO7 := Lib.hid (HOo.out.tr (HO6.out.tr ho7))
        clear ho7 C6
        go_wp2_with fail
        go_ret
        exact ⟨rfl, HO7.out⟩
end Go.Proofs.Ytjfnkjpnjiobjaa
