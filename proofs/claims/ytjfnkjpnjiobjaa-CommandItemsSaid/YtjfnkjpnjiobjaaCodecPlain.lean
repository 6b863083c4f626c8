/-
  Layer 1's numbers, in plain terms: what an int is turned into, its bytes, and how they are read.
-/
import Derived.WalkKit
namespace Go.Proofs.Ytjfnkjpnjiobjaa

/-- What an int is turned into, and back. -/
def zig (n : Int) : Nat := if 0 ≤ n then 2 * n.toNat else 2 * (-(n + 1)).toNat + 1
def unzig (v : Nat) : Int := if v % 2 = 0 then (v / 2 : Nat) else -((v / 2 : Nat) : Int) - 1
theorem unzig_zig (n : Int) : unzig (zig n) = n := by
  unfold zig unzig
  by_cases h : 0 ≤ n
  · rw [if_pos h, if_pos (by omega)]; omega
  · rw [if_neg h, if_neg (by omega)]; omega
theorem zig_unzig (v : Nat) : zig (unzig v) = v := by
  unfold unzig zig
  by_cases h : v % 2 = 0
  · rw [if_pos h, if_pos (by omega)]; omega
  · rw [if_neg h, if_neg (by omega)]; omega
theorem zig_lt (n : Int) (h0 : -9223372036854775808 ≤ n) (h1 : n ≤ 9223372036854775807) : zig n < 18446744073709551616 := by
  unfold zig; split <;> omega
theorem unzig_wide (v : Nat) (h : v < 18446744073709551616) : -9223372036854775808 ≤ unzig v ∧ unzig v ≤ 9223372036854775807 := by
  unfold unzig; split <;> omega

/-- The bytes ahead of the last one. -/
def hiF : Nat → Nat → List UInt8
  | 0, _ => []
  | f + 1, u => if u = 0 then [] else hiF f (u / 128) ++ [UInt8.ofNat (128 + u % 128)]
theorem hiF_more : ∀ (f g u : Nat), u < 128 ^ f → f ≤ g → hiF g u = hiF f u
  | 0, g, u, h, _ => by
    have : u = 0 := by simpa using h
    subst this
    cases g <;> rfl
  | f + 1, 0, u, _, hg => by omega
  | f + 1, g + 1, u, h, hg => by
    unfold hiF
    split
    · rfl
    · rw [hiF_more f g (u / 128) (by rw [Nat.div_lt_iff_lt_mul (by omega)]; rw [Nat.pow_succ] at h; exact h) (by omega)]
def hi (u : Nat) : List UInt8 := hiF 10 u
theorem hi_zero : hi 0 = [] := rfl
theorem hi_step (u : Nat) (h0 : u ≠ 0) (h : u < 18446744073709551616) : hi u = hi (u / 128) ++ [UInt8.ofNat (128 + u % 128)] := by
  show (if u = 0 then [] else hiF 9 (u / 128) ++ [UInt8.ofNat (128 + u % 128)]) = _
  rw [if_neg h0]
  unfold hi
  rw [hiF_more 9 10 (u / 128) (by omega) (by omega)]
/-- A natural's bytes. -/
def vb (v : Nat) : List UInt8 := hi (v / 128) ++ [UInt8.ofNat (v % 128)]

/-- How bytes are read: the natural, and what is left. -/
def go : Nat → List UInt8 → Option (Nat × List UInt8)
  | _, [] => none
  | v, c :: t => if (v = 0 ∧ c.toNat = 128) ∨ 144115188075855872 ≤ v then none else if c.toNat < 128 then some (v * 128 + c.toNat, t) else go (v * 128 + c.toNat % 128) t
theorem go_hi (n : Nat) : ∀ u t, u ≤ n → u < 18446744073709551616 → go 0 (hi u ++ t) = go u t := by
  induction n with
  | zero =>
    intro u t h _
    obtain rfl : u = 0 := by omega
    rfl
  | succ n ih =>
    intro u t h hu
    by_cases h0 : u = 0
    · subst h0; rfl
    · rw [hi_step u h0 hu, List.append_assoc, ih (u / 128) _ (by omega) (by omega)]
      have hc : (UInt8.ofNat (128 + u % 128)).toNat = 128 + u % 128 := by
        rw [UInt8.toNat_ofNat']; omega
      show go (u / 128) (UInt8.ofNat (128 + u % 128) :: t) = _
      unfold go
      rw [hc, if_neg (by omega), if_neg (by omega)]
      rw [show u / 128 * 128 + (128 + u % 128) % 128 = u from by omega]
      cases t <;> rfl
theorem go_vb (v : Nat) (hv : v < 18446744073709551616) (r : List UInt8) : go 0 (vb v ++ r) = some (v, r) := by
  unfold vb
  rw [List.append_assoc, go_hi (v / 128) _ _ (Nat.le_refl _) (by omega)]
  have hc : (UInt8.ofNat (v % 128)).toNat = v % 128 := by rw [UInt8.toNat_ofNat']; omega
  show go (v / 128) (UInt8.ofNat (v % 128) :: r) = _
  unfold go
  rw [hc, if_neg (by omega), if_pos (by omega)]
  rw [show v / 128 * 128 + v % 128 = v from by omega]
theorem go_some : ∀ (t : List UInt8) (v u : Nat) (r : List UInt8), v < 18446744073709551616 → go v t = some (u, r) → u < 18446744073709551616 ∧ hi v ++ t = vb u ++ r
  | [], v, u, r, _, h => by simp [go] at h
  | c :: t, v, u, r, hv, h => by
    unfold go at h
    split at h
    · cases h
    · rename_i hn
      have hc8 := c.toNat_lt
      split at h
      · rename_i hc
        simp only [Option.some.injEq, Prod.mk.injEq] at h
        obtain ⟨rfl, rfl⟩ := h
        refine ⟨by omega, ?_⟩
        unfold vb
        rw [show (v * 128 + c.toNat) / 128 = v from by omega, show (v * 128 + c.toNat) % 128 = c.toNat from by omega]
        simp
      · rename_i hc
        have hlt : v * 128 + c.toNat % 128 < 18446744073709551616 := by omega
        obtain ⟨h1, h2⟩ := go_some t _ u r hlt h
        refine ⟨h1, ?_⟩
        rw [← h2, hi_step (v * 128 + c.toNat % 128) (by omega) hlt]
        rw [show (v * 128 + c.toNat % 128) / 128 = v from by omega, show 128 + (v * 128 + c.toNat % 128) % 128 = c.toNat from by omega]
        simp
/-- What is read was written so; what was written is read. -/
theorem go_iff (s : List UInt8) (u : Nat) (r : List UInt8) : go 0 s = some (u, r) ↔ u < 18446744073709551616 ∧ s = vb u ++ r :=
  ⟨fun h => by
    have := go_some s 0 u r (by omega) h
    rwa [hi_zero, List.nil_append] at this, fun ⟨h1, h2⟩ => by rw [h2]; exact go_vb u h1 r⟩
theorem hiF_length : ∀ f u, (hiF f u).length ≤ f
  | 0, _ => by simp [hiF]
  | f + 1, u => by
    unfold hiF
    split
    · simp
    · have := hiF_length f (u / 128); simp; omega
theorem vb_length (v : Nat) (h : v < 18446744073709551616) : 1 ≤ (vb v).length ∧ (vb v).length ≤ 10 := by
  unfold vb hi
  rw [hiF_more 9 10 (v / 128) (by omega) (by omega)]
  have := hiF_length 9 (v / 128)
  simp; omega

/-- A number's bytes; numbers' bytes; how a number is read. -/
def ib (n : Int) : List UInt8 := vb (zig n)
def isb (l : List Int) : List UInt8 := l.flatMap ib
def rdI (s : List UInt8) : Option (Int × List UInt8) := (go 0 s).map fun (u, r) => (unzig u, r)
def Wide64 (x : Int) : Prop := -9223372036854775808 ≤ x ∧ x ≤ 9223372036854775807
theorem rdI_iff (s : List UInt8) (n : Int) (r : List UInt8) : rdI s = some (n, r) ↔ Wide64 n ∧ s = ib n ++ r := by
  unfold rdI ib
  constructor
  · intro h
    rw [Option.map_eq_some_iff] at h
    obtain ⟨⟨u, r'⟩, h1, h2⟩ := h
    simp only [Prod.mk.injEq] at h2
    obtain ⟨rfl, rfl⟩ := h2
    obtain ⟨h3, h4⟩ := (go_iff _ _ _).1 h1
    exact ⟨unzig_wide u h3, by rw [zig_unzig]; exact h4⟩
  · rintro ⟨⟨h0, h1⟩, h2⟩
    rw [(go_iff _ _ _).2 ⟨zig_lt n h0 h1, h2⟩, Option.map_some]
    show some (unzig (zig n), r) = _
    rw [unzig_zig]
theorem ib_length (n : Int) (h : Wide64 n) : 1 ≤ (ib n).length ∧ (ib n).length ≤ 10 := vb_length _ (zig_lt n h.1 h.2)
theorem isb_length (l : List Int) (h : ∀ x ∈ l, Wide64 x) : (isb l).length ≤ 10 * l.length := by
  unfold isb
  induction l with
  | nil => simp
  | cons x l ih =>
    have h1 := ib_length x (h x (by simp))
    have h2 := ih fun y hy => h y (by simp [hy])
    rw [List.flatMap_cons, List.length_append, List.length_cons]; omega

/-! ### The bytes as the program writes them: from the highest place down -/
def w7 (v : Nat) : Nat → List UInt8
  | 0 => [UInt8.ofNat (v % 128)]
  | j + 1 => UInt8.ofNat (128 + v / 128 ^ (j + 1) % 128) :: w7 v j
def wd : Nat → Nat → Nat
  | 0, _ => 0
  | f + 1, v => if v / 128 = 0 then 0 else wd f (v / 128) + 1
theorem w7_snoc (v : Nat) : ∀ j, w7 v (j + 1) = (w7 (v / 128) j).dropLast ++ [UInt8.ofNat (128 + v / 128 % 128)] ++ [UInt8.ofNat (v % 128)]
  | 0 => by simp [w7]
  | j + 1 => by
    rw [w7, w7_snoc v j]
    rw [show v / 128 ^ (j + 1 + 1) = v / 128 / 128 ^ (j + 1) from by rw [Nat.div_div_eq_div_mul, Nat.pow_succ, Nat.mul_comm (128 ^ (j + 1))]]
    have : w7 (v / 128) (j + 1) = UInt8.ofNat (128 + v / 128 / 128 ^ (j + 1) % 128) :: w7 (v / 128) j := rfl
    rw [this]
    have hne : w7 (v / 128) j ≠ [] := by cases j <;> simp [w7]
    rw [List.dropLast_cons_of_ne_nil hne]
    simp
theorem w7_hi (f : Nat) : ∀ v, v / 128 < 128 ^ f → (w7 v (wd f v)).dropLast = hiF f (v / 128) ∧ (w7 v (wd f v)).getLast? = some (UInt8.ofNat (v % 128)) := by
  induction f with
  | zero =>
    intro v h
    simp [wd, w7, hiF]
  | succ f ih =>
    intro v h
    unfold wd hiF
    by_cases h0 : v / 128 = 0
    · rw [if_pos h0, if_pos h0]; simp [w7]
    · rw [if_neg h0, if_neg h0, w7_snoc]
      have h2 : v / 128 / 128 < 128 ^ f := by rw [Nat.div_lt_iff_lt_mul (by omega)]; rw [Nat.pow_succ] at h; exact h
      rw [(ih (v / 128) h2).1]
      simp
theorem vb_eq_w7 (v : Nat) (h : v < 18446744073709551616) : vb v = w7 v (wd 9 v) := by
  obtain ⟨h1, h2⟩ := w7_hi 9 v (by omega)
  unfold vb hi
  rw [hiF_more 9 10 (v / 128) (by omega) (by omega), ← h1]
  obtain ⟨ys, hy⟩ := List.getLast?_eq_some_iff.1 h2
  rw [hy]
  simp
end Go.Proofs.Ytjfnkjpnjiobjaa
