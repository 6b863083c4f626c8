/-
  Contracts; each theorem bears its own conditions.
-/
import Derived.Test.YtcjfmildalappaaGreatK26an
set_option linter.all false
set_option maxRecDepth 100000
set_option maxHeartbeats 8000000
namespace Go.Proofs.YtcjfmildalappaaGreat
open Go.RowKit
section
variable {α β:Type} (key:α → List UInt8)
def insBy (x:α):List α → List α
 | [] => [x]
 | a :: r => if key a < key x then a :: insBy x r else x :: a :: r
theorem insBy_perm (x:α) (l:List α):(insBy key x l).Perm (x :: l):=by
 induction l with
 | nil => exact List.Perm.refl _
 | cons a r ih =>
  unfold insBy
  split
  · exact (ih.cons a).trans (List.Perm.swap x a r)
  · exact List.Perm.refl _
theorem insBy_length (x:α) (l:List α):(insBy key x l).length = l.length + 1:=by rw [(insBy_perm key x l).length_eq];rfl
theorem insBy_map (f:α → β) (key':β → List UInt8) (h:∀ a,key' (f a) = key a) (x:α) (l:List α):(insBy key x l).map f = insBy key' (f x) (l.map f):=by
 induction l with
 | nil => rfl
 | cons a r ih =>
  simp only [insBy,List.map_cons,h]
  split
  · rw [List.map_cons,ih]
  · rfl
theorem lt_of_not {a b:List UInt8} (h:¬ a < b) (hne:a ≠ b):b < a:=by
 by_cases h1:b < a
 · exact h1
 · exact absurd (List.le_antisymm (List.not_lt.1 h1) (List.not_lt.1 h)) hne
theorem insBy_sorted (x:α) (l:List α) (hs:l.Pairwise (fun a b => key a < key b)) (hn:∀ a ∈ l,key a ≠ key x):(insBy key x l).Pairwise (fun a b => key a < key b):=by
 induction l with
 | nil => simp [insBy]
 | cons a r ih =>
  have h1:=List.pairwise_cons.1 hs
  unfold insBy
  split
  · rename_i hlt
    refine List.pairwise_cons.2 ⟨fun b hb => ?_,ih h1.2 (fun c hc => hn c (List.mem_cons_of_mem _ hc))⟩
    rcases List.mem_cons.1 ((insBy_perm key x r).mem_iff.1 hb) with rfl | hb
    · exact hlt
    · exact h1.1 b hb
  · rename_i hlt
    have hxa:=lt_of_not hlt (hn a (by simp))
    refine List.pairwise_cons.2 ⟨fun b hb => ?_,hs⟩
    rcases List.mem_cons.1 hb with rfl | hb
    · exact hxa
    · exact List.lt_trans hxa (h1.1 b hb)
theorem insBy_find (x:α) (l:List α) (k:List UInt8) (hn:∀ a ∈ l,key a ≠ key x):(insBy key x l).find? (fun a => key a == k) = if k = key x then some x else l.find? (fun a => key a == k):=by
 induction l with
 | nil =>
  by_cases h:k = key x
  · subst h;simp [insBy]
  · have:¬ key x = k:=fun e => h e.symm
    simp [insBy,h,this]
 | cons a r ih =>
  have ih:=ih (fun c hc => hn c (List.mem_cons_of_mem _ hc))
  have ha:=hn a (by simp)
  unfold insBy
  split
  · rw [List.find?_cons,List.find?_cons,ih]
    by_cases h:k = key x
    · subst h
      have:(key a == key x) = false:=by simpa using ha
      rw [this]
      try simp
    · rw [if_neg h,if_neg h]
  · rw [List.find?_cons (a:=x)]
    by_cases h:k = key x
    · subst h;simp
    · have:(key x == k) = false:=by simpa using fun e:key x = k => h e.symm
      rw [this,if_neg h]
def putBy (k:List UInt8) (x:α) (l:List α):List α:=l.map fun a => if key a == k then x else a
theorem putBy_find (k:List UInt8) (x:α) (l:List α) (hx:key x = k) (k':List UInt8):(putBy key k x l).find? (fun a => key a == k') = if k' = k then (l.find? (fun a => key a == k)).map (fun _ => x) else l.find? (fun a => key a == k'):=by
 induction l with
 | nil => simp [putBy]
 | cons a r ih =>
  unfold putBy at ih ⊢
  rw [List.map_cons,List.find?_cons,ih,List.find?_cons,List.find?_cons]
  by_cases ha:key a = k
  · have e1:(key a == k) = true:=by simpa using ha
    rw [e1]
    simp only [if_true,hx]
    by_cases h:k' = k
    · subst h;simp
    · have:(k == k') = false:=by simpa using fun e:k = k' => h e.symm
      have h3:(key a == k') = false:=by rw [ha];exact this
      rw [this,if_neg h,if_neg h,h3]
  · have e1:(key a == k) = false:=by simpa using ha
    rw [e1]
    simp only [Bool.false_eq_true,if_false]
    by_cases h:k' = k
    · subst h;rw [e1]
    · rw [if_neg h,if_neg h]
theorem putBy_keys (k:List UInt8) (x:α) (l:List α) (hx:key x = k):(putBy key k x l).map key = l.map key:=by
 unfold putBy
 rw [List.map_map]
 apply List.map_congr_left
 intro a _
 show key (if key a == k then x else a) = key a
 split
 · rename_i h;rw [hx];exact (by simpa using h:key a = k).symm
 · rfl
theorem sorted_keys (l:List α):l.Pairwise (fun a b => key a < key b) ↔ (l.map key).Pairwise (· < ·):=by rw [List.pairwise_map]
theorem putBy_map (f:α → β) (key':β → List UInt8) (h:∀ a,key' (f a) = key a) (k:List UInt8) (x:α) (l:List α):(putBy key k x l).map f = putBy key' k (f x) (l.map f):=by
 unfold putBy
 rw [List.map_map,List.map_map]
 apply List.map_congr_left
 intro a _
 show f (if key a == k then x else a) = if key' (f a) == k then f x else f a
 rw [h]
 split <;> rfl
def delBy (k:List UInt8) (l:List α):List α:=l.filter fun a => !(key a == k)
theorem delBy_find (k:List UInt8) (l:List α) (k':List UInt8):(delBy key k l).find? (fun a => key a == k') = if k' = k then none else l.find? (fun a => key a == k'):=by
 unfold delBy
 induction l with
 | nil => simp
 | cons a r ih =>
  rw [List.filter_cons,List.find?_cons]
  by_cases ha:key a = k
  · have e1:(key a == k) = true:=by simpa using ha
    rw [e1]
    simp only [Bool.not_true,Bool.false_eq_true,if_false]
    rw [ih]
    by_cases h:k' = k
    · rw [if_pos h,if_pos h]
    · rw [if_neg h,if_neg h]
      have:(key a == k') = false:=by rw [ha];simpa using fun e:k = k' => h e.symm
      rw [this]
  · have e1:(key a == k) = false:=by simpa using ha
    rw [e1]
    simp only [Bool.not_false,if_true]
    rw [List.find?_cons,ih]
    by_cases h:k' = k
    · subst h;rw [e1];try simp
    · rw [if_neg h,if_neg h]
theorem delBy_map (f:α → β) (key':β → List UInt8) (h:∀ a,key' (f a) = key a) (k:List UInt8) (l:List α):(delBy key k l).map f = delBy key' k (l.map f):=by
 unfold delBy
 rw [List.filter_map]
 congr 1
 apply List.filter_congr
 intro a _
 show (!(key a == k)) = !(key' (f a) == k)
 rw [h]
theorem delBy_length (k:List UInt8) (l:List α) (hs:l.Pairwise (fun a b => key a < key b)):(delBy key k l).length = if (l.find? (fun a => key a == k)).isSome then l.length - 1 else l.length:=by
 unfold delBy
 induction l with
 | nil => simp
 | cons a r ih =>
  have h1:=List.pairwise_cons.1 hs
  rw [List.filter_cons,List.find?_cons]
  by_cases ha:key a = k
  · have e1:(key a == k) = true:=by simpa using ha
    rw [e1]
    simp only [Bool.not_true,Bool.false_eq_true,if_false,Option.isSome_some,if_true,List.length_cons,Nat.add_sub_cancel]
    rw [List.filter_eq_self.2]
    intro b hb
    have:=h1.1 b hb
    rw [ha] at this
    simpa using fun e:key b = k => by rw [e] at this;exact List.lt_irrefl _ this
  · have e1:(key a == k) = false:=by simpa using ha
    rw [e1]
    simp only [Bool.not_false,if_true,List.length_cons]
    rw [ih h1.2]
    split
    · rename_i h
      have:0 < r.length:=by
       cases r with
       | nil => simp at h
       | cons _ _ => simp
      omega
    · rfl
end
end Go.Proofs.YtcjfmildalappaaGreat
