/-
  Contracts; each theorem bears its own conditions.
-/
import Derived.Test.YtcjfmildalappaaGreatK26ab
set_option linter.all false
set_option maxRecDepth 100000
set_option maxHeartbeats 8000000
namespace Go.Proofs.YtcjfmildalappaaGreat
open Go.RowKit
structure Rd where
 s:List UInt8
 bad:Bool
def Rd.get {α:Type} (f:List UInt8 → Option (α × List UInt8)) (d:α) (r:Rd):α × Rd:=
 match f r.s with
 | some (x,t) => (x,⟨t,r.bad⟩)
 | none => (d,⟨[],true⟩)
def Rd.int (r:Rd):Int × Rd:=r.get rdI 0
def Rd.bool (r:Rd):Bool × Rd:=r.get rdB false
def Rd.text (r:Rd):List UInt8 × Rd:=r.get rdT []
theorem rdB_len {s r:List UInt8} {x:Bool} (h:rdB s = some (x,r)):r.length ≤ s.length:=by
 match s,h with
 | c :: t,h =>
  have h:(if c.toNat ≤ 1 then some (c.toNat == 1,t) else none) = some (x,r):=h
  split at h
  · injection h with h;injection h with _ h;subst h;simp
  · cases h
theorem rdT_len {s r x:List UInt8} (h:rdT s = some (x,r)):r.length ≤ s.length:=by
 unfold rdT at h
 split at h
 · rename_i n t hr
   split at h
   · injection h with h;injection h with _ h;subst h;have:=rdI_length hr;rw [List.length_drop];omega
   · cases h
 · cases h
theorem rdT_iff (s t r:List UInt8) (hs:t.length ≤ 1000000000000):rdT s = some (t,r) ↔ s = tb t ++ r:=by
 unfold rdT tb
 constructor
 · intro h
   cases hi:rdI s with
   | none => rw [hi] at h;cases h
   | some p =>
    obtain ⟨n,q⟩:=p
    rw [hi] at h
    dsimp only at h
    obtain ⟨hw,e⟩:=(rdI_iff s n q).1 hi
    split at h
    · rename_i hn
      simp only [Option.some.injEq,Prod.mk.injEq] at h
      obtain ⟨h1,h2⟩:=h
      have hl:(t.length:Int) = n:=by rw [← h1,List.length_take];omega
      rw [hl,e,← h1,← h2,List.append_assoc,List.take_append_drop]
    · cases h
 · intro h
   have hi:rdI s = some ((t.length:Int),t ++ r):=(rdI_iff s _ _).2 ⟨⟨by omega,by omega⟩,by rw [h,List.append_assoc]⟩
   rw [hi]
   dsimp only
   rw [if_pos (by rw [List.length_append];omega)]
   simp
theorem rdB_iff (s:List UInt8) (b:Bool) (r:List UInt8):rdB s = some (b,r) ↔ s = bb b ++ r:=by
 constructor
 · intro h
   match s,h with
   | c :: t,h =>
    have h:(if c.toNat ≤ 1 then some (c.toNat == 1,t) else none) = some (b,r):=h
    split at h
    · rename_i hc
      simp only [Option.some.injEq,Prod.mk.injEq] at h
      obtain ⟨h1,rfl⟩:=h
      have hc2:c = 0 ∨ c = 1:=by
       rcases Nat.lt_or_ge c.toNat 1 with h2 | h2
       · left;apply UInt8.toNat_inj.1;show _ = 0;omega
       · right;apply UInt8.toNat_inj.1;show _ = 1;omega
      rcases hc2 with rfl | rfl
      · subst h1;rfl
      · subst h1;rfl
    · cases h
 · rintro rfl
   cases b <;> rfl
theorem get_in {α:Type} {f:List UInt8 → Option (α × List UInt8)} {d:α} {r:Rd} (h:(r.get f d).2.bad = false):r.bad = false ∧ f r.s = some ((r.get f d).1,(r.get f d).2.s):=by
 unfold Rd.get at h ⊢
 cases hf:f r.s with
 | none => rw [hf] at h;cases h
 | some p =>
  obtain ⟨x,t⟩:=p
  rw [hf] at h
  exact ⟨h,rfl⟩
theorem get_out {α:Type} {f:List UInt8 → Option (α × List UInt8)} {d:α} {s:List UInt8} {x:α} {t:List UInt8} {b:Bool} (h:f s = some (x,t)):Rd.get f d ⟨s,b⟩ = (x,⟨t,b⟩):=by
 unfold Rd.get;rw [h]
theorem get_len {α:Type} {f:List UInt8 → Option (α × List UInt8)} {d:α} {r:Rd} {n:Nat} (hf:∀ x t,f r.s = some (x,t) → t.length ≤ r.s.length) (h:r.s.length ≤ n):(r.get f d).2.s.length ≤ n:=by
 unfold Rd.get
 split
 · rename_i x t hx
   exact Nat.le_trans (hf x t hx) h
 · exact Nat.zero_le _
theorem int_in {r:Rd} (h:r.int.2.bad = false):r.bad = false ∧ Wide64 r.int.1 ∧ r.s = ib r.int.1 ++ r.int.2.s:=by
 obtain ⟨h1,h2⟩:=get_in h
 exact ⟨h1,(rdI_iff _ _ _).1 h2⟩
theorem int_out (n:Int) (h:Wide64 n) (t:List UInt8) (b:Bool):Rd.int ⟨ib n ++ t,b⟩ = (n,⟨t,b⟩):=get_out ((rdI_iff _ _ _).2 ⟨h,rfl⟩)
theorem bool_in {r:Rd} (h:r.bool.2.bad = false):r.bad = false ∧ r.s = bb r.bool.1 ++ r.bool.2.s:=by
 obtain ⟨h1,h2⟩:=get_in h
 exact ⟨h1,(rdB_iff _ _ _).1 h2⟩
theorem bool_out (b:Bool) (t:List UInt8) (q:Bool):Rd.bool ⟨bb b ++ t,q⟩ = (b,⟨t,q⟩):=get_out ((rdB_iff _ _ _).2 rfl)
theorem rdT_short {s t r:List UInt8} (h:rdT s = some (t,r)):t.length ≤ s.length:=by
 unfold rdT at h
 split at h
 · rename_i n q hi
   split at h
   · simp only [Option.some.injEq,Prod.mk.injEq] at h
     have:=rdI_length hi
     rw [← h.1,List.length_take]
     omega
   · cases h
 · cases h
theorem text_in {r:Rd} (h:r.text.2.bad = false) (hl:r.s.length ≤ 1000000000000):r.bad = false ∧ r.s = tb r.text.1 ++ r.text.2.s:=by
 obtain ⟨h1,h2⟩:=get_in h
 exact ⟨h1,(rdT_iff _ _ _ (Nat.le_trans (rdT_short h2) hl)).1 h2⟩
theorem text_out (x t:List UInt8) (h:x.length ≤ 1000000000000) (q:Bool):Rd.text ⟨tb x ++ t,q⟩ = (x,⟨t,q⟩):=get_out ((rdT_iff _ _ _ h).2 rfl)
theorem int_len {r:Rd} {n:Nat} (h:r.s.length ≤ n):r.int.2.s.length ≤ n:=get_len (fun _ _ hx => rdI_length hx) h
theorem bool_len {r:Rd} {n:Nat} (h:r.s.length ≤ n):r.bool.2.s.length ≤ n:=get_len (fun _ _ hx => rdB_len hx) h
theorem text_len {r:Rd} {n:Nat} (h:r.s.length ≤ n):r.text.2.s.length ≤ n:=get_len (fun _ _ hx => rdT_len hx) h
theorem text_short {r:Rd} {n:Nat} (h:r.s.length ≤ n):r.text.1.length ≤ n:=by
 unfold Rd.text Rd.get
 split
 · rename_i x t hx
   exact Nat.le_trans (rdT_short hx) h
 · exact Nat.zero_le _
theorem int_wide (r:Rd):Wide64 r.int.1:=by
 unfold Rd.int Rd.get
 split
 · rename_i x t hx
   exact ((rdI_iff _ _ _).1 hx).1
 · exact ⟨by omega,by omega⟩
theorem get_bad {α:Type} {f:List UInt8 → Option (α × List UInt8)} {d:α} {r:Rd} (h:r.bad = true):(r.get f d).2.bad = true:=by
 unfold Rd.get
 split
 · exact h
 · rfl
def Rd.after (r:Rd):Nat → Rd
 | 0 => r
 | k + 1 => (r.after k).int.2
def Rd.nth (r:Rd) (k:Nat):Int:=(r.after k).int.1
def Rd.ints (r:Rd):Nat → List Int
 | 0 => []
 | k + 1 => r.ints k ++ [r.nth k]
theorem Rd.ints_length (r:Rd) (n:Nat):(r.ints n).length = n:=by
 induction n with
 | zero => rfl
 | succ n ih => unfold Rd.ints;rw [List.length_append,ih];rfl
theorem put_nth (r:Rd) (A B C:List Value) (k:Nat) (hk:k < B.length):(A ++ (gvs (r.ints k) ++ (B.drop k ++ C))).set (A.length + k) (.int .i64 (r.nth k)) = A ++ (gvs (r.ints (k + 1)) ++ (B.drop (k + 1) ++ C)):=by
 have h1:B.drop k = B[k] :: B.drop (k + 1):=List.drop_eq_getElem_cons hk
 have h2:(gvs (r.ints k)).length = k:=by unfold gvs;rw [List.length_map,Rd.ints_length]
 rw [List.set_append,if_neg (by omega),Nat.add_sub_cancel_left,List.set_append,if_neg (by omega),h2,Nat.sub_self,h1]
 show A ++ (gvs (r.ints k) ++ (Value.int .i64 (r.nth k) :: (B.drop (k + 1) ++ C))) = _
 rw [Rd.ints]
 unfold gvs
 rw [List.map_append,List.append_assoc]
 rfl
theorem after_in (r:Rd):∀ k:Nat,(r.after k).bad = false → r.bad = false ∧ (∀ x ∈ r.ints k,Wide64 x) ∧ r.s = isb (r.ints k) ++ (r.after k).s
 | 0,h => ⟨h,fun x hx => (List.not_mem_nil hx).elim,rfl⟩
 | k + 1,h => by
  obtain ⟨a1,a2,a3⟩:=int_in (r:=r.after k) h
  obtain ⟨b1,b2,b3⟩:=after_in r k a1
  refine ⟨b1,fun x hx => ?_,?_⟩
  · rcases List.mem_append.1 hx with hx | hx
    · exact b2 x hx
    · obtain rfl:=List.mem_singleton.1 hx
      exact a2
  · rw [b3,a3]
    show _ = isb (r.ints k ++ [r.nth k]) ++ (r.after (k + 1)).s
    unfold isb
    rw [List.flatMap_append,List.append_assoc]
    simp only [List.flatMap_cons,List.flatMap_nil,List.append_nil]
    rfl
theorem after_out:∀ (l:List Int) (t:List UInt8),(∀ x ∈ l,Wide64 x) → ∀ k,k ≤ l.length → Rd.ints ⟨isb l ++ t,false⟩ k = l.take k ∧ Rd.after ⟨isb l ++ t,false⟩ k = ⟨isb (l.drop k) ++ t,false⟩:=by
 intro l t hw k
 induction k with
 | zero => intro _;exact ⟨rfl,rfl⟩
 | succ k ih =>
  intro hk
  obtain ⟨a1,a2⟩:=ih (by omega)
  have h1:l.drop k = l[k] :: l.drop (k + 1):=List.drop_eq_getElem_cons (by omega)
  have h2:Rd.int (Rd.after ⟨isb l ++ t,false⟩ k) = (l[k],⟨isb (l.drop (k + 1)) ++ t,false⟩):=by
   rw [a2,h1]
   have:=int_out l[k] (hw _ (List.getElem_mem _)) (isb (l.drop (k + 1)) ++ t) false
   rw [← List.append_assoc] at this
   exact this
  constructor
  · show Rd.ints ⟨isb l ++ t,false⟩ k ++ [(Rd.int (Rd.after ⟨isb l ++ t,false⟩ k)).1] = _
    rw [a1,h2,List.take_add_one,List.getElem?_eq_getElem (by omega)]
    rfl
  · show (Rd.int (Rd.after ⟨isb l ++ t,false⟩ k)).2 = _
    rw [h2]
theorem after_out' (l:List Int) (t:List UInt8) (hw:∀ x ∈ l,Wide64 x):Rd.ints ⟨isb l ++ t,false⟩ l.length = l ∧ Rd.after ⟨isb l ++ t,false⟩ l.length = ⟨t,false⟩:=by
 have:=after_out l t hw l.length (Nat.le_refl _)
 simpa [isb] using this
theorem nth_of {r:Rd} {k:Nat} {l:List Int} (h:r.ints k = l):∀ j,j < k → some (r.nth j) = l[j]?:=by
 subst h
 intro j hj
 induction k with
 | zero => omega
 | succ k ih =>
  show _ = (r.ints k ++ [r.nth k])[j]?
  by_cases hk:j < k
  · rw [List.getElem?_append_left (by rw [Rd.ints_length];exact hk)]
    exact ih hk
  · obtain rfl:j = k:=by omega
    rw [List.getElem?_append_right (by rw [Rd.ints_length];omega),Rd.ints_length,Nat.sub_self]
    rfl
theorem after_len {r:Rd} {n:Nat} (h:r.s.length ≤ n):∀ k,(r.after k).s.length ≤ n
 | 0 => h
 | k + 1 => int_len (after_len h k)
theorem ints_wide (r:Rd):∀ k,∀ x ∈ r.ints k,Wide64 x
 | 0 => fun x hx => (List.not_mem_nil hx).elim
 | k + 1 => fun x hx => by
  rcases List.mem_append.1 hx with hx | hx
  · exact ints_wide r k x hx
  · obtain rfl:=List.mem_singleton.1 hx
    exact int_wide _
def QrAt (w:World) (z:Nat) (r:Rd):Prop:=Cells w z 162 [.string ⟨r.s.toArray⟩,.bool (!r.bad)] ∧ r.s.length ≤ 1000000000000
theorem QrAt.only {w w':World} {z:Nat} {r:Rd} {S:List Nat} (h:QrAt w z r) (ho:Only S w w') (hz:z ∉ S):QrAt w' z r:=⟨h.1.only ho hz,h.2⟩
theorem QrAt.lt {w:World} {z:Nat} {r:Rd} (h:QrAt w z r):z < w.heap.size:=h.1.lt
theorem qr_int (z:Nat) (r:Rd) (w:World) (h:QrAt w z r):
 Calls Tryz.prog 109 #[.pointer (some ⟨z,0,none⟩)] w fun e w' => e = .returned (.int .i64 r.int.1) ∧ QrAt w' z r.int.2 ∧ Only [z] w w':=by
 obtain ⟨hC,hl⟩:=h
 obtain ⟨s,bad⟩:=r
 have CT:=Hd (ref_toInt s w hl)
 have hlt:=hC.lt
 cases hr:rdI s with
 | none =>
  have HR:Hid (Rd.int ⟨s,bad⟩ = (0,⟨[],true⟩)):=by show _ = _;unfold Rd.int Rd.get;simp only [hr]
  rw [hr] at CT
  unfold rdV at CT
  have H:=Hd hC
  have c0:=hC.cell (k:=0) rfl
  have c1:=hC.cell (k:=1) rfl
  clear hr hC
  go_enter Tryz.func109,Tryz.ntmps109
  go_wp2_with fail
  refine CT.out.mono ?_
  rintro e w1 ⟨rfl,ho⟩
  have H1:=Hd (H.out.only ho (by simp))
  have d0:=H1.out.cell (k:=0) rfl
  have d1:=H1.out.cell (k:=1) rfl
  have f0:=H1.out.frozen 0
  have f1:=H1.out.frozen 1
  have hlt1:=H1.out.lt
  have HO:=Hd ho
  clear c0 c1 H CT ho
  cases bad
  all_goals
   go_wp2_with fail
   go_ret
   rw [HR.out]
   exact ⟨rfl,⟨(H1.out.set 1 _).set 0 _,by first | exact Nat.zero_le _ | exact Nat.le_trans hle hl⟩,((HO.out.of0 (S:=[z])).setCell (p:=⟨z,1,none⟩) (.inl (by simp)) _).setCell (p:=⟨z,0,none⟩) (.inl (by simp)) _⟩
 | some p =>
  obtain ⟨x,t⟩:=p
  have hle:=rdI_length hr
  have HR:Hid (Rd.int ⟨s,bad⟩ = (x,⟨t,bad⟩)):=by show _ = _;unfold Rd.int Rd.get;simp only [hr]
  rw [hr] at CT
  unfold rdV at CT
  have H:=Hd hC
  have c0:=hC.cell (k:=0) rfl
  have c1:=hC.cell (k:=1) rfl
  clear hr hC
  go_enter Tryz.func109,Tryz.ntmps109
  go_wp2_with fail
  refine CT.out.mono ?_
  rintro e w1 ⟨rfl,ho⟩
  have H1:=Hd (H.out.only ho (by simp))
  have d0:=H1.out.cell (k:=0) rfl
  have d1:=H1.out.cell (k:=1) rfl
  have f0:=H1.out.frozen 0
  have f1:=H1.out.frozen 1
  have hlt1:=H1.out.lt
  have HO:=Hd ho
  clear c0 c1 H CT ho
  cases bad
  all_goals
   go_wp2_with fail
   go_ret
   rw [HR.out]
   exact ⟨rfl,⟨(H1.out.set 1 _).set 0 _,by first | exact Nat.zero_le _ | exact Nat.le_trans hle hl⟩,((HO.out.of0 (S:=[z])).setCell (p:=⟨z,1,none⟩) (.inl (by simp)) _).setCell (p:=⟨z,0,none⟩) (.inl (by simp)) _⟩
theorem qr_text (z:Nat) (r:Rd) (w:World) (h:QrAt w z r):
 Calls Tryz.prog 164 #[.pointer (some ⟨z,0,none⟩)] w fun e w' => e = .returned (.string ⟨r.text.1.toArray⟩) ∧ QrAt w' z r.text.2 ∧ Only [z] w w':=by
 obtain ⟨hC,hl⟩:=h
 obtain ⟨s,bad⟩:=r
 have CT:=Hd (ref_toText s w hl)
 have hlt:=hC.lt
 cases hr:rdT s with
 | none =>
  have HR:Hid (Rd.text ⟨s,bad⟩ = ([],⟨[],true⟩)):=by show _ = _;unfold Rd.text Rd.get;simp only [hr]
  rw [hr] at CT
  unfold rdTV at CT
  have H:=Hd hC
  have c0:=hC.cell (k:=0) rfl
  have c1:=hC.cell (k:=1) rfl
  clear hr hC
  go_enter Tryz.func164,Tryz.ntmps164
  go_wp2_with fail
  refine CT.out.mono ?_
  rintro e w1 ⟨rfl,ho⟩
  have H1:=Hd (H.out.only ho (by simp))
  have d0:=H1.out.cell (k:=0) rfl
  have d1:=H1.out.cell (k:=1) rfl
  have f0:=H1.out.frozen 0
  have f1:=H1.out.frozen 1
  have hlt1:=H1.out.lt
  have HO:=Hd ho
  clear c0 c1 H CT ho
  cases bad
  all_goals
   go_wp2_with fail
   go_ret
   rw [HR.out]
   exact ⟨rfl,⟨(H1.out.set 1 _).set 0 _,by first | exact Nat.zero_le _ | exact Nat.le_trans hle hl⟩,((HO.out.of0 (S:=[z])).setCell (p:=⟨z,1,none⟩) (.inl (by simp)) _).setCell (p:=⟨z,0,none⟩) (.inl (by simp)) _⟩
 | some p =>
  obtain ⟨x,t⟩:=p
  have hle:=rdT_len hr
  have HR:Hid (Rd.text ⟨s,bad⟩ = (x,⟨t,bad⟩)):=by show _ = _;unfold Rd.text Rd.get;simp only [hr]
  rw [hr] at CT
  unfold rdTV at CT
  have H:=Hd hC
  have c0:=hC.cell (k:=0) rfl
  have c1:=hC.cell (k:=1) rfl
  clear hr hC
  go_enter Tryz.func164,Tryz.ntmps164
  go_wp2_with fail
  refine CT.out.mono ?_
  rintro e w1 ⟨rfl,ho⟩
  have H1:=Hd (H.out.only ho (by simp))
  have d0:=H1.out.cell (k:=0) rfl
  have d1:=H1.out.cell (k:=1) rfl
  have f0:=H1.out.frozen 0
  have f1:=H1.out.frozen 1
  have hlt1:=H1.out.lt
  have HO:=Hd ho
  clear c0 c1 H CT ho
  cases bad
  all_goals
   go_wp2_with fail
   go_ret
   rw [HR.out]
   exact ⟨rfl,⟨(H1.out.set 1 _).set 0 _,by first | exact Nat.zero_le _ | exact Nat.le_trans hle hl⟩,((HO.out.of0 (S:=[z])).setCell (p:=⟨z,1,none⟩) (.inl (by simp)) _).setCell (p:=⟨z,0,none⟩) (.inl (by simp)) _⟩
theorem qr_bool (z:Nat) (r:Rd) (w:World) (h:QrAt w z r):
 Calls Tryz.prog 111 #[.pointer (some ⟨z,0,none⟩)] w fun e w' => e = .returned (.bool r.bool.1) ∧ QrAt w' z r.bool.2 ∧ Only [z] w w':=by
 obtain ⟨hC,hl⟩:=h
 obtain ⟨s,bad⟩:=r
 have CT:=Hd (ref_toBool s w hl)
 have hlt:=hC.lt
 cases hr:rdB s with
 | none =>
  have HR:Hid (Rd.bool ⟨s,bad⟩ = (false,⟨[],true⟩)):=by show _ = _;unfold Rd.bool Rd.get;simp only [hr]
  rw [hr] at CT
  unfold rdBV at CT
  have H:=Hd hC
  have c0:=hC.cell (k:=0) rfl
  have c1:=hC.cell (k:=1) rfl
  clear hr hC
  go_enter Tryz.func111,Tryz.ntmps111
  go_wp2_with fail
  refine CT.out.mono ?_
  rintro e w1 ⟨rfl,ho⟩
  have H1:=Hd (H.out.only ho (by simp))
  have d0:=H1.out.cell (k:=0) rfl
  have d1:=H1.out.cell (k:=1) rfl
  have f0:=H1.out.frozen 0
  have f1:=H1.out.frozen 1
  have hlt1:=H1.out.lt
  have HO:=Hd ho
  clear c0 c1 H CT ho
  cases bad
  all_goals
   go_wp2_with fail
   go_ret
   rw [HR.out]
   exact ⟨rfl,⟨(H1.out.set 1 _).set 0 _,by first | exact Nat.zero_le _ | exact Nat.le_trans hle hl⟩,((HO.out.of0 (S:=[z])).setCell (p:=⟨z,1,none⟩) (.inl (by simp)) _).setCell (p:=⟨z,0,none⟩) (.inl (by simp)) _⟩
 | some p =>
  obtain ⟨x,t⟩:=p
  have hle:=rdB_len hr
  have HR:Hid (Rd.bool ⟨s,bad⟩ = (x,⟨t,bad⟩)):=by show _ = _;unfold Rd.bool Rd.get;simp only [hr]
  rw [hr] at CT
  unfold rdBV at CT
  have H:=Hd hC
  have c0:=hC.cell (k:=0) rfl
  have c1:=hC.cell (k:=1) rfl
  clear hr hC
  go_enter Tryz.func111,Tryz.ntmps111
  go_wp2_with fail
  refine CT.out.mono ?_
  rintro e w1 ⟨rfl,ho⟩
  have H1:=Hd (H.out.only ho (by simp))
  have d0:=H1.out.cell (k:=0) rfl
  have d1:=H1.out.cell (k:=1) rfl
  have f0:=H1.out.frozen 0
  have f1:=H1.out.frozen 1
  have hlt1:=H1.out.lt
  have HO:=Hd ho
  clear c0 c1 H CT ho
  cases bad
  all_goals
   go_wp2_with fail
   go_ret
   rw [HR.out]
   exact ⟨rfl,⟨(H1.out.set 1 _).set 0 _,by first | exact Nat.zero_le _ | exact Nat.le_trans hle hl⟩,((HO.out.of0 (S:=[z])).setCell (p:=⟨z,1,none⟩) (.inl (by simp)) _).setCell (p:=⟨z,0,none⟩) (.inl (by simp)) _⟩
def CrAt (w:World) (z:Nat) (r:Rd):Prop:=Cells w z 225 [.string ⟨r.s.toArray⟩,.bool r.bad] ∧ r.s.length ≤ 1000000000000
theorem CrAt.only {w w':World} {z:Nat} {r:Rd} {S:List Nat} (h:CrAt w z r) (ho:Only S w w') (hz:z ∉ S):CrAt w' z r:=⟨h.1.only ho hz,h.2⟩
theorem CrAt.lt {w:World} {z:Nat} {r:Rd} (h:CrAt w z r):z < w.heap.size:=h.1.lt
theorem cr_read_int (z:Nat) (r:Rd) (w:World) (h:CrAt w z r):
 Calls Tryz.prog 214 #[.pointer (some ⟨z,0,none⟩),.func (.func 181) #[] #[]] w fun e w' => e = .returned (.int .i64 r.int.1) ∧ CrAt w' z r.int.2 ∧ Only [z] w w':=by
 obtain ⟨hC,hl⟩:=h
 obtain ⟨s,bad⟩:=r
 have CT:=Hd (codec_toInt s w hl)
 have hlt:=hC.lt
 cases hr:rdI s with
 | none =>
  have HR:Hid (Rd.int ⟨s,bad⟩ = (0,⟨[],true⟩)):=by show _ = _;unfold Rd.int Rd.get;simp only [hr]
  rw [hr] at CT
  unfold rdV at CT
  have H:=Hd hC
  have c0:=hC.cell (k:=0) rfl
  have c1:=hC.cell (k:=1) rfl
  clear hr hC
  go_enter Tryz.func214,Tryz.ntmps214
  go_wp2_with fail
  refine CT.out.mono ?_
  rintro e w1 ⟨rfl,ho⟩
  have H1:=Hd (H.out.only ho (by simp))
  have d0:=H1.out.cell (k:=0) rfl
  have d1:=H1.out.cell (k:=1) rfl
  have f0:=H1.out.frozen 0
  have f1:=H1.out.frozen 1
  have hlt1:=H1.out.lt
  have HO:=Hd ho
  clear c0 c1 H CT ho
  cases bad
  all_goals
   go_wp2_with fail
   go_ret
   rw [HR.out]
   exact ⟨rfl,⟨(H1.out.set 0 _).set 1 _,by first | exact Nat.zero_le _ | exact Nat.le_trans hle hl⟩,((HO.out.of0 (S:=[z])).setCell (p:=⟨z,0,none⟩) (.inl (by simp)) _).setCell (p:=⟨z,1,none⟩) (.inl (by simp)) _⟩
 | some p =>
  obtain ⟨x,t⟩:=p
  have hle:=rdI_length hr
  have HR:Hid (Rd.int ⟨s,bad⟩ = (x,⟨t,bad⟩)):=by show _ = _;unfold Rd.int Rd.get;simp only [hr]
  rw [hr] at CT
  unfold rdV at CT
  have H:=Hd hC
  have c0:=hC.cell (k:=0) rfl
  have c1:=hC.cell (k:=1) rfl
  clear hr hC
  go_enter Tryz.func214,Tryz.ntmps214
  go_wp2_with fail
  refine CT.out.mono ?_
  rintro e w1 ⟨rfl,ho⟩
  have H1:=Hd (H.out.only ho (by simp))
  have d0:=H1.out.cell (k:=0) rfl
  have d1:=H1.out.cell (k:=1) rfl
  have f0:=H1.out.frozen 0
  have f1:=H1.out.frozen 1
  have hlt1:=H1.out.lt
  have HO:=Hd ho
  clear c0 c1 H CT ho
  cases bad
  all_goals
   go_wp2_with fail
   go_ret
   rw [HR.out]
   exact ⟨rfl,⟨(H1.out.set 0 _).set 1 _,by first | exact Nat.zero_le _ | exact Nat.le_trans hle hl⟩,((HO.out.of0 (S:=[z])).setCell (p:=⟨z,0,none⟩) (.inl (by simp)) _).setCell (p:=⟨z,1,none⟩) (.inl (by simp)) _⟩
theorem cr_int (z:Nat) (r:Rd) (w:World) (h:CrAt w z r):
 Calls Tryz.prog 155 #[.pointer (some ⟨z,0,none⟩)] w fun e w' => e = .returned (.int .i64 r.int.1) ∧ CrAt w' z r.int.2 ∧ Only [z] w w':=by
 have C:=Hd (cr_read_int z r w h)
 clear h
 go_enter Tryz.func155,Tryz.ntmps155
 go_wp2_with fail
 refine C.out.mono ?_
 rintro e w1 ⟨rfl,h1,ho⟩
 have H1:=Hd h1
 have HO:=Hd ho
 clear h1 ho
 go_wp2_with fail
 go_ret
 exact ⟨rfl,H1.out,HO.out⟩
theorem cr_read_text (z:Nat) (r:Rd) (w:World) (h:CrAt w z r):
 Calls Tryz.prog 215 #[.pointer (some ⟨z,0,none⟩),.func (.func 104) #[] #[]] w fun e w' => e = .returned (.string ⟨r.text.1.toArray⟩) ∧ CrAt w' z r.text.2 ∧ Only [z] w w':=by
 obtain ⟨hC,hl⟩:=h
 obtain ⟨s,bad⟩:=r
 have CT:=Hd (codec_toText s w hl)
 have hlt:=hC.lt
 cases hr:rdT s with
 | none =>
  have HR:Hid (Rd.text ⟨s,bad⟩ = ([],⟨[],true⟩)):=by show _ = _;unfold Rd.text Rd.get;simp only [hr]
  rw [hr] at CT
  unfold rdTV at CT
  have H:=Hd hC
  have c0:=hC.cell (k:=0) rfl
  have c1:=hC.cell (k:=1) rfl
  clear hr hC
  go_enter Tryz.func215,Tryz.ntmps215
  go_wp2_with fail
  refine CT.out.mono ?_
  rintro e w1 ⟨rfl,ho⟩
  have H1:=Hd (H.out.only ho (by simp))
  have d0:=H1.out.cell (k:=0) rfl
  have d1:=H1.out.cell (k:=1) rfl
  have f0:=H1.out.frozen 0
  have f1:=H1.out.frozen 1
  have hlt1:=H1.out.lt
  have HO:=Hd ho
  clear c0 c1 H CT ho
  cases bad
  all_goals
   go_wp2_with fail
   go_ret
   rw [HR.out]
   exact ⟨rfl,⟨(H1.out.set 0 _).set 1 _,by first | exact Nat.zero_le _ | exact Nat.le_trans hle hl⟩,((HO.out.of0 (S:=[z])).setCell (p:=⟨z,0,none⟩) (.inl (by simp)) _).setCell (p:=⟨z,1,none⟩) (.inl (by simp)) _⟩
 | some p =>
  obtain ⟨x,t⟩:=p
  have hle:=rdT_len hr
  have HR:Hid (Rd.text ⟨s,bad⟩ = (x,⟨t,bad⟩)):=by show _ = _;unfold Rd.text Rd.get;simp only [hr]
  rw [hr] at CT
  unfold rdTV at CT
  have H:=Hd hC
  have c0:=hC.cell (k:=0) rfl
  have c1:=hC.cell (k:=1) rfl
  clear hr hC
  go_enter Tryz.func215,Tryz.ntmps215
  go_wp2_with fail
  refine CT.out.mono ?_
  rintro e w1 ⟨rfl,ho⟩
  have H1:=Hd (H.out.only ho (by simp))
  have d0:=H1.out.cell (k:=0) rfl
  have d1:=H1.out.cell (k:=1) rfl
  have f0:=H1.out.frozen 0
  have f1:=H1.out.frozen 1
  have hlt1:=H1.out.lt
  have HO:=Hd ho
  clear c0 c1 H CT ho
  cases bad
  all_goals
   go_wp2_with fail
   go_ret
   rw [HR.out]
   exact ⟨rfl,⟨(H1.out.set 0 _).set 1 _,by first | exact Nat.zero_le _ | exact Nat.le_trans hle hl⟩,((HO.out.of0 (S:=[z])).setCell (p:=⟨z,0,none⟩) (.inl (by simp)) _).setCell (p:=⟨z,1,none⟩) (.inl (by simp)) _⟩
theorem cr_text (z:Nat) (r:Rd) (w:World) (h:CrAt w z r):
 Calls Tryz.prog 156 #[.pointer (some ⟨z,0,none⟩)] w fun e w' => e = .returned (.string ⟨r.text.1.toArray⟩) ∧ CrAt w' z r.text.2 ∧ Only [z] w w':=by
 have C:=Hd (cr_read_text z r w h)
 clear h
 go_enter Tryz.func156,Tryz.ntmps156
 go_wp2_with fail
 refine C.out.mono ?_
 rintro e w1 ⟨rfl,h1,ho⟩
 have H1:=Hd h1
 have HO:=Hd ho
 clear h1 ho
 go_wp2_with fail
 go_ret
 exact ⟨rfl,H1.out,HO.out⟩
theorem cr_read_bool (z:Nat) (r:Rd) (w:World) (h:CrAt w z r):
 Calls Tryz.prog 216 #[.pointer (some ⟨z,0,none⟩),.func (.func 217) #[] #[]] w fun e w' => e = .returned (.bool r.bool.1) ∧ CrAt w' z r.bool.2 ∧ Only [z] w w':=by
 obtain ⟨hC,hl⟩:=h
 obtain ⟨s,bad⟩:=r
 have CT:=Hd (codec_toBool s w hl)
 have hlt:=hC.lt
 cases hr:rdB s with
 | none =>
  have HR:Hid (Rd.bool ⟨s,bad⟩ = (false,⟨[],true⟩)):=by show _ = _;unfold Rd.bool Rd.get;simp only [hr]
  rw [hr] at CT
  unfold rdBV at CT
  have H:=Hd hC
  have c0:=hC.cell (k:=0) rfl
  have c1:=hC.cell (k:=1) rfl
  clear hr hC
  go_enter Tryz.func216,Tryz.ntmps216
  go_wp2_with fail
  refine CT.out.mono ?_
  rintro e w1 ⟨rfl,ho⟩
  have H1:=Hd (H.out.only ho (by simp))
  have d0:=H1.out.cell (k:=0) rfl
  have d1:=H1.out.cell (k:=1) rfl
  have f0:=H1.out.frozen 0
  have f1:=H1.out.frozen 1
  have hlt1:=H1.out.lt
  have HO:=Hd ho
  clear c0 c1 H CT ho
  cases bad
  all_goals
   go_wp2_with fail
   go_ret
   rw [HR.out]
   exact ⟨rfl,⟨(H1.out.set 0 _).set 1 _,by first | exact Nat.zero_le _ | exact Nat.le_trans hle hl⟩,((HO.out.of0 (S:=[z])).setCell (p:=⟨z,0,none⟩) (.inl (by simp)) _).setCell (p:=⟨z,1,none⟩) (.inl (by simp)) _⟩
 | some p =>
  obtain ⟨x,t⟩:=p
  have hle:=rdB_len hr
  have HR:Hid (Rd.bool ⟨s,bad⟩ = (x,⟨t,bad⟩)):=by show _ = _;unfold Rd.bool Rd.get;simp only [hr]
  rw [hr] at CT
  unfold rdBV at CT
  have H:=Hd hC
  have c0:=hC.cell (k:=0) rfl
  have c1:=hC.cell (k:=1) rfl
  clear hr hC
  go_enter Tryz.func216,Tryz.ntmps216
  go_wp2_with fail
  refine CT.out.mono ?_
  rintro e w1 ⟨rfl,ho⟩
  have H1:=Hd (H.out.only ho (by simp))
  have d0:=H1.out.cell (k:=0) rfl
  have d1:=H1.out.cell (k:=1) rfl
  have f0:=H1.out.frozen 0
  have f1:=H1.out.frozen 1
  have hlt1:=H1.out.lt
  have HO:=Hd ho
  clear c0 c1 H CT ho
  cases bad
  all_goals
   go_wp2_with fail
   go_ret
   rw [HR.out]
   exact ⟨rfl,⟨(H1.out.set 0 _).set 1 _,by first | exact Nat.zero_le _ | exact Nat.le_trans hle hl⟩,((HO.out.of0 (S:=[z])).setCell (p:=⟨z,0,none⟩) (.inl (by simp)) _).setCell (p:=⟨z,1,none⟩) (.inl (by simp)) _⟩
theorem cr_bool (z:Nat) (r:Rd) (w:World) (h:CrAt w z r):
 Calls Tryz.prog 159 #[.pointer (some ⟨z,0,none⟩)] w fun e w' => e = .returned (.bool r.bool.1) ∧ CrAt w' z r.bool.2 ∧ Only [z] w w':=by
 have C:=Hd (cr_read_bool z r w h)
 clear h
 go_enter Tryz.func159,Tryz.ntmps159
 go_wp2_with fail
 refine C.out.mono ?_
 rintro e w1 ⟨rfl,h1,ho⟩
 have H1:=Hd h1
 have HO:=Hd ho
 clear h1 ho
 go_wp2_with fail
 go_ret
 exact ⟨rfl,H1.out,HO.out⟩
end Go.Proofs.YtcjfmildalappaaGreat
