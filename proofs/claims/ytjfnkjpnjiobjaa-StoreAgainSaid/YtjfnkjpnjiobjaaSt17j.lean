/-
  Chapter 17: all of a feed's posts, page by page.
-/
import Derived.Test.YtjfnkjpnjiobjaaSt17i
namespace Go.Proofs.Ytjfnkjpnjiobjaa
open Go.RowKit
/-- Appending any slice, a nil one too, to an own row. -/
theorem wpList_appG {P : Program} {ops : Array Oper} {rest : List Oper} {o : Oper} {a : Act} {Q : Exit → Act → World → Prop} (hgd : o.guard = none) (s x : Operand) (t : TypeId)
    (ho : o.op = .call { callee := .builtin .append, args := #[s, x], argTypes := #[t, t] })
    (base : Nat) (e : TypeId) (i : TypeInfo) (z : Value) (size bytes : Nat) (ht : P.underlying t = some (.slice e)) (hi : P.info? e = some i) (hz : i.zero = some z)
    (hsize : i.size = size) (hby : i.bytes = bytes) (hzs : z.cells.size = size) (hsz : 0 < size) (w : World)
    (v : Value) (n : Nat) (xs : List Value) (hs : a.eval s = v) (hown : w.ownsRow base e size v n xs)
    (B m : Nat) (cs : List Value) (A : Option Addr) (c : Nat) (hx : a.eval x = .slice A m c) (hu : SlAt w B (.slice A m c) size m cs) (h1 : ∀ u ∈ cs, u.oneCell' = true)
    (h63 : n + m ≤ maxLen) (hbytes : (n + m) * bytes ≤ 140737488355328) (hbase : base ≤ w.heap.size)
    (h : ∀ v' w', w'.ownsRow base e size v' (n + m) (xs ++ cs) → w.grownBy w' v.ownBlock → wpList P ops Q rest (a.put o.dst v') w') :
    wpList P ops Q (o :: rest) a w := by
  cases A with
  | some A => exact wpList_appX hgd s x t ho base e i z size bytes ht hi hz hsize hby hzs hsz w v n xs hs hown B m cs A c hx hu h1 h63 hbytes hbase h
  | none =>
    have hm := sl_nil hu hsz
    subst hm
    have hcs : cs = [] := List.eq_nil_of_length_eq_zero (by simpa using hu.1)
    subst hcs
    have hr : (Builtin.append_ #[t, t] o.type #[v, .slice none 0 c]).run P w = .ok v w := by
      rcases hown.2 with ⟨rfl, rfl⟩ | ⟨g, cap, cur, rfl, _, _, hnc, _⟩
      · simp [Builtin.append_, run_underlying ht, sizeOf, typeInfo, hi, Builtin.lenOf, Builtin.firstCells, loadCells, loadCellsFrom]
      · have : n ≤ cap := hnc
        simp [Builtin.append_, run_underlying ht, sizeOf, typeInfo, hi, Builtin.lenOf, Builtin.firstCells, this, storeCells]
    refine wpList_plain hgd fun _ hK => ?_
    unfold Oper.wp execOp
    simp only [ho, resolve, invoke, builtin, Sem.run_bind, Sem.run_pure, Result.andThen_ok, List.map_toArray, List.map_cons, List.map_nil, hs, hx, hr]
    exact hK _ _ (h v w (by simpa using hown) ⟨rfl, rfl, rfl, Nat.le_refl _, fun _ _ _ => rfl⟩)
def allF (o : Option Pl) : List Po := o.elim [] (·.fd.ps)
theorem allF_page (o : Option Pl) (j : Nat) : (allF o).take (50 * j) ++ lsV o ((50 * j : Nat) : Int) = (allF o).take (50 * (j + 1)) := by
  cases o with
  | none => simp [allF, lsV]
  | some t =>
    show t.fd.ps.take (50 * j) ++ (t.fd.ps.drop (min (max ((50 * j : Nat) : Int) 0).toNat t.fd.ps.length)).take 50 = t.fd.ps.take (50 * (j + 1))
    rw [show (max ((50 * j : Nat) : Int) 0).toNat = 50 * j from by omega]
    by_cases h : 50 * j ≤ t.fd.ps.length
    · rw [Nat.min_eq_left h, show 50 * (j + 1) = 50 * j + 50 from by omega, List.take_add]
    · have e1 : t.fd.ps.take (50 * j) = t.fd.ps := List.take_of_length_le (by omega)
      have e2 : t.fd.ps.take (50 * (j + 1)) = t.fd.ps := List.take_of_length_le (by omega)
      rw [Nat.min_eq_right (by omega), List.drop_eq_nil_of_le (Nat.le_refl _), e1, e2]
      simp
theorem allF_len {w : World} {b mb : Nat} {T : List Pl} (h : StX w b mb T) (k : List UInt8) : (allF (fT T k)).length ≤ 200 := by
  cases hf : fT T k with
  | none => simp [allF]
  | some t => exact (h.fds t (fT_mem hf).1).cap
set_option maxRecDepth 100000 in
set_option maxHeartbeats 1000000 in
theorem law_all (b mb : Nat) (T : List Pl) (k : List UInt8) (hk : k.length ≤ maxLen) (w : World) (h : StX w b mb T) :
    Calls Try.prog 19 #[.pointer (some ⟨b, 0, none⟩), .string ⟨k.toArray⟩] w fun e w' => ∃ v', e = .returned v' ∧ w'.ownsRow w.heap.size 38 5 v' (allF (fT T k)).length (poL (allF (fT T k))) ∧ Only [] w w' := by
  obtain ⟨i0, hi0, hz0, hz1, hz2⟩ := info_parts info_post
  have hlen := allF_len h k
  obtain ⟨L, hL⟩ : ∃ L, allF (fT T k) = L := ⟨_, rfl⟩
  have HPG := Lib.hid (fun j => allF_page (fT T k) j)
  have HX := Lib.hid h
  rw [hL] at hlen ⊢
  have CL := Lib.hid (fun after w' (ho : Only [] w w') => store_list b mb T k hk after w' (HX.out.keep ho (by simp)))
  rw [hL] at HPG
  obtain ⟨pg, hpg⟩ : ∃ pg : Int → List Po, (fun after => lsV (fT T k) after) = pg := ⟨_, rfl⟩
  have hpg' : ∀ a, lsV (fT T k) a = pg a := fun a => by rw [← hpg]
  simp only [hpg'] at CL HPG
  obtain ⟨er, her⟩ : ∃ er : Int, (if (fT T k).isSome = true then 0 else 4) = er := ⟨_, rfl⟩
  rw [her] at CL
  clear h hL hpg hpg' her
  go_enter Try.func19, Try.ntmps19
  go_wp2_with fail
  go_loopw [5, 6] (fun v i wr => ∃ (j : Nat), j ≤ 4 ∧ i = .int .i64 ((50 * j : Nat) : Int) ∧ Hid (wr.ownsRow w.heap.size 38 5 v (L.take (50 * j)).length (poL (L.take (50 * j)))) ∧ Hid (Only [] w wr)) (fun _ i _ => 200 - (intOf i).toNat)
  case atStart => exact ⟨0, by omega, rfl, Lib.hid (World.ownsRow_nil _ _ _ _), Lib.hid (Only.refl _ _)⟩
  case round =>
    obtain ⟨j, hj, rfl, hown, ho⟩ := hrel
    by_cases hlt : j < 4
    · have d1 : decide (((50 * j : Nat) : Int) < 200) = true := by simp; omega
      have C := Lib.hid (CL.out ((50 * j : Nat) : Int) wr ho.out)
      have hpj := Lib.hid (HPG.out j)
      obtain ⟨a, ha⟩ : ∃ a : Nat, 50 * j = a := ⟨_, rfl⟩
      have hwr : IntKind.i64.wrap ((a : Int) + 50) = ((50 * (j + 1) : Nat) : Int) := by rw [IntKind.wrap_i64]; omega
      rw [ha] at d1 C hpj hown ⊢
      obtain ⟨P, hP⟩ : ∃ P, pg (a : Int) = P := ⟨_, rfl⟩
      rw [hP] at C hpj
      have hl1 : (L.take a).length ≤ 200 := by rw [List.length_take]; omega
      have hl2 : (L.take a).length + P.length ≤ 200 := by
        have := congrArg List.length hpj.out
        rw [List.length_append, List.length_take (i := 50 * (j + 1))] at this
        omega
      obtain ⟨Q, hQ⟩ : ∃ Q, L.take a = Q := ⟨_, rfl⟩
      rw [hQ] at hown hpj hl1 hl2
      clear hQ hP
      obtain ⟨VA, vc, rfl⟩ := (SlAt.of_own hown.out).shape
      go_wp2_with fail
      refine C.out.mono ?_
      rintro e w2 ⟨v2, rfl, hown2, ho2⟩
      obtain ⟨A2, c2, rfl⟩ := (SlAt.of_own hown2).shape
      have HS2 := Lib.hid (SlAt.of_own hown2)
      have hownK := own_keep hown.out ho2 (by simp)
      have HOK := Lib.hid hownK
      have HO2 := Lib.hid (ho.out.tr ho2)
      have hsz : w.heap.size ≤ w2.heap.size := HO2.out.size
      clear hown2 ho2 C
      go_wp2_with (at_builtin; go_loud (refine wpList_appG rfl _ _ 27 rfl w.heap.size 38 i0 _ 5 64 Try.underlying27 hi0 hz0 hz1 hz2 rfl (by decide) w2 (.slice VA Q.length vc) Q.length (poL Q) rfl HOK.out w2.heap.size P.length (poL P) A2 c2 rfl HS2.out (poL_one P) (by unfold maxLen; omega) (by omega) hsz ?_; intro v3 w3 hown3 hgrow3; have HW3 := Lib.hid hown3; have HO3 := Lib.hid (HO2.out.own HOK.out hgrow3 (Nat.le_refl _)); clear hown3 hgrow3))
      go_roundw
      case rel => exact ⟨j + 1, by omega, by go_num, by
        have h1 := HW3.out
        rw [← poL_append, hpj.out] at h1
        have h2 := congrArg List.length hpj.out
        rw [List.length_append] at h2
        rw [h2] at h1
        exact Lib.hid h1, HO3⟩
      case measure => simp [intOf]; omega
    · have d1 : decide (((50 * j : Nat) : Int) < 200) = false := by simp; omega
      have hj4 : j = 4 := by omega
      have HF : Hid (wr.ownsRow w.heap.size 38 5 _ L.length (poL L)) := Lib.hid (by
        have := hown.out
        rw [List.take_of_length_le (by omega)] at this
        exact this)
      clear hown
      go_wp2_with fail
      go_ret
      exact ⟨_, rfl, HF.out, ho.out⟩
end Go.Proofs.Ytjfnkjpnjiobjaa
