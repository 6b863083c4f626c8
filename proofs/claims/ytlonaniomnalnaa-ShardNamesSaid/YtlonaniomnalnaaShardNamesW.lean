/-
  The walk over ShardNames.
-/
import Derived.Test.YtlonaniomnalnaaSnoc14
namespace Go.Proofs.Ytlonaniomnalnaa
open Go.RowKit
theorem name_snoc (l : List UInt8) (b : UInt8) : nameL (l ++ [b]) = ((nameL l || decide (l = [])) && (decide ((l.length : Int) < 60) && (decide (33 ≤ (b.toNat : Int)) && decide ((b.toNat : Int) ≤ 126)))) := by
  rw [Bool.eq_iff_iff]
  simp only [nameL_eq, List.all_append, Bool.and_eq_true, Bool.or_eq_true, decide_eq_true_eq, List.length_append, List.all_eq_true, List.length_cons, List.length_nil, List.mem_singleton, forall_eq, okB]
  constructor
  · rintro ⟨⟨h1, h2⟩, h3, h4⟩
    refine ⟨?_, by omega, by omega, by omega⟩
    by_cases h0 : l = []
    · exact .inr h0
    · have := List.length_pos_iff.2 h0
      exact .inl ⟨h1, by omega, by omega⟩
  · rintro ⟨h1, h2, h3, h4⟩
    refine ⟨⟨?_, by omega, by omega⟩, by omega, by omega⟩
    rcases h1 with ⟨h1, _⟩ | rfl
    · exact h1
    · simp
theorem name_drop (l : List UInt8) (h : nameL l = true) (h1 : l.length ≠ 1) : nameL l.tail = true := by
  rw [← List.drop_one]
  simp only [nameL_eq, Bool.and_eq_true, decide_eq_true_eq, List.all_eq_true, List.length_drop] at h ⊢
  exact ⟨fun x hx => h.1 x (List.mem_of_mem_drop hx), by omega, by omega⟩
set_option maxRecDepth 100000 in
set_option maxHeartbeats 8000000 in
theorem shardNames_walk (W : World) (s : ByteArray) (hz : s.size ≤ maxLen) (c : Int) (wc : (Lit.int .u8 c).wf = true) :
    Calls Try.prog 5 #[.string s, .int .u8 c] W fun e W' => e = .returned (.bool true) ∧ Only [] W W' := by
  obtain ⟨l, rfl, hsz⟩ := str_of s
  rw [hsz] at hz
  clear hsz
  obtain ⟨b, rfl⟩ := u8_of c wc
  unfold maxLen at hz
  by_cases hl : l.length ≤ 300
  · have hd : decide ((300 : Int) < l.length) = false := by simp; omega
    have hb8 := b.toNat_lt
    have HS := Lib.hid (name_snoc l b)
    have HD := Lib.hid (name_drop l)
    obtain ⟨is, his⟩ : ∃ is, nameL l = is := ⟨_, rfl⟩
    obtain ⟨M, hM⟩ : ∃ M, nameL (l ++ [b]) = M := ⟨_, rfl⟩
    rw [his, hM] at HS
    rw [his] at HD
    have HM := Lib.hid hM
    have HIS := Lib.hid his
    clear hM
    go_enter Try.func5, Try.ntmps5
    go_wp2_with fail
    refine (shown14 W).mono ?_
    rintro e w1 ⟨rfl, ho⟩
    go_wp2_with fail
    refine (shard_name l w1 (by omega)).mono ?_
    rintro e w' ⟨rfl, rfl⟩
    rw [his]
    clear his
    obtain ⟨cap, W0, hcap, hrow, hoW, hcv⟩ := conv_bytes l w1
    go_wp2_with (at_builtin; go_loud (refine wpList_snoc rfl _ _ rfl w1 W0 l b cap (by omega) hcap hrow hoW rfl rfl ?_); clear hcv; intro A cap' w2 ho2 hcv)
    have CO := shard_name (l ++ [b]) w2 (by simp; omega)
    have CD := Lib.hid (shard_name l.tail w2 (by rw [List.length_tail]; omega))
    rw [HM.out] at CO
    clear hcv hrow hoW
    refine CO.mono ?_
    rintro e w' ⟨rfl, rfl⟩
    obtain ⟨t60, q60⟩ : ∃ t, decide ((l.length : Int) < 60) = t := ⟨_, rfl⟩
    obtain ⟨t33, q33⟩ : ∃ t, decide (33 ≤ (b.toNat : Int)) = t := ⟨_, rfl⟩
    obtain ⟨t126, q126⟩ : ∃ t, decide ((b.toNat : Int) ≤ 126) = t := ⟨_, rfl⟩
    rw [q60, q33, q126] at HS
    have hex : (⟨l.toArray⟩ : ByteArray).extract 1 l.length = ⟨l.tail.toArray⟩ := by rw [← List.drop_one]; exact str_to_end l 1
    cases is with
    | true =>
      have h0 : ¬ l = [] := by rintro rfl; have := HIS.out; revert this; decide
      have hpos : 1 ≤ l.length := by have := List.length_pos_iff.2 h0; omega
      have hMe : M = (t60 && (t33 && t126)) := by rw [HS.out]; simp
      clear HM HS HIS
      by_cases h1 : l.length = 1
      · have q1 : ((l.length : Int) == 1) = true := by simp; omega
        clear CD HD hex h1
        cases t60 <;> cases t33 <;> cases t126
        all_goals (simp only [Bool.and_true, Bool.and_false, Bool.true_and, Bool.false_and] at hMe; subst hMe; go_wp2_with fail; go_ret; exact ⟨rfl, ho.tr0 ho2⟩)
      · have q1 : ((l.length : Int) == 1) = false := by simp; omega
        have hdr := HD.out rfl h1
        rw [hdr] at CD
        clear HD hdr h1
        cases t60 <;> cases t33 <;> cases t126
        all_goals (simp only [Bool.and_true, Bool.and_false, Bool.true_and, Bool.false_and] at hMe; subst hMe; go_wp2_with fail; refine CD.out.mono ?_; rintro e w' ⟨rfl, rfl⟩; go_wp2_with fail; go_ret; exact ⟨rfl, ho.tr0 ho2⟩)
    | false =>
      clear HM HIS CD HD hex
      by_cases h0 : l = []
      · have hMe : M = (t60 && (t33 && t126)) := by rw [HS.out]; simp [h0]
        have h60 : t60 = true := by rw [← q60, h0]; simp
        clear HS
        subst h0
        subst h60
        cases t33 <;> cases t126
        all_goals (simp only [Bool.and_true, Bool.and_false, Bool.true_and, Bool.false_and] at hMe; subst hMe; go_wp2_with fail; go_ret; exact ⟨rfl, ho.tr0 ho2⟩)
      · have hMe : M = false := by rw [HS.out]; simp [h0]
        have he : l.isEmpty = false := by simpa using h0
        clear HS
        subst hMe
        go_wp2_with fail
        go_ret
        exact ⟨rfl, ho.tr0 ho2⟩
  · have hd : decide ((300 : Int) < l.length) = true := by simp; omega
    go_enter Try.func5, Try.ntmps5
    go_wp2_with fail
    refine (shown14 W).mono ?_
    rintro e w1 ⟨rfl, ho⟩
    go_wp2_with fail
    go_ret
    exact ⟨rfl, ho⟩
end Go.Proofs.Ytlonaniomnalnaa
