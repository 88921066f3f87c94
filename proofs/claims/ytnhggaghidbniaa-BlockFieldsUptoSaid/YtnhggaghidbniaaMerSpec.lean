/- Merkle trees, in plain Lean. -/
import Derived.Test.YtnhggaghidbniaaApp
import Derived.Test.YtnhggaghidbniaaShaSpec
import Derived.Test.YtnhggaghidbniaaKeyL
namespace Go.Proofs.Ytnhggaghidbniaa
set_option linter.unusedVariables false
open Sha

/-- the greatest power of two below n -/
def halfN (n : Nat) : Nat := 2 ^ Nat.log2 (n - 1)
theorem halfN_pos (n : Nat) : 1 ≤ halfN n := Nat.one_le_two_pow
theorem halfN_lt {n : Nat} (h : 2 ≤ n) : halfN n < n ∧ n ≤ 2 * halfN n := by
  unfold halfN
  have h1 := Nat.log2_self_le (n := n - 1) (by omega)
  have h2 := Nat.lt_log2_self (n := n - 1)
  rw [Nat.pow_succ] at h2
  omega
/-- a power of two that lies so is it -/
theorem halfN_eq {n e : Nat} (h : 2 ≤ n) (h1 : 2 ^ e < n) (h2 : n ≤ 2 * 2 ^ e) : 2 ^ e = halfN n := by
  unfold halfN
  congr 1
  have : Nat.log2 (n - 1) = e := (Nat.log2_eq_iff (by omega)).2 ⟨by omega, by rw [Nat.pow_succ]; omega⟩
  exact this.symm
def leafK (n : Nat) (f : Nat → UInt8) : Ky := sha (1 + n) (glue 1 (fun _ => 0) f)
def innerK (a b : Ky) : Ky := sha 65 (glue 1 (fun _ => 1) (glue 32 a b))
theorem innerK_congr {a b a' b' : Ky} (ha : ∀ j, j < 32 → a j = a' j) (hb : ∀ j, j < 32 → b j = b' j) : innerK a b = innerK a' b' := by
  unfold innerK
  refine sha_congr (fun j hj => ?_)
  unfold glue
  by_cases h1 : j < 1
  · rw [if_pos h1, if_pos h1]
  · rw [if_neg h1, if_neg h1]
    by_cases h2 : j - 1 < 32
    · rw [if_pos h2, if_pos h2]; exact ha _ h2
    · rw [if_neg h2, if_neg h2]; exact hb _ (by omega)
def zeroK : Ky := sha 0 (fun _ => 0)
def rootK (n : Nat) (L : Nat → Nat) (F : Nat → Nat → UInt8) : Ky :=
  if n = 0 then zeroK else if n = 1 then leafK (L 0) (F 0) else
    if h : 2 ≤ n then innerK (rootK (halfN n) L F) (rootK (n - halfN n) (fun r => L (halfN n + r)) (fun r => F (halfN n + r))) else zeroK
termination_by n
decreasing_by
  · exact (halfN_lt h).1
  · have := halfN_pos n; omega
theorem rootK_zero (L : Nat → Nat) (F : Nat → Nat → UInt8) : rootK 0 L F = zeroK := by rw [rootK, if_pos rfl]
theorem rootK_one (L : Nat → Nat) (F : Nat → Nat → UInt8) : rootK 1 L F = leafK (L 0) (F 0) := by rw [rootK, if_neg (by omega), if_pos rfl]
theorem rootK_more {n : Nat} (h : 2 ≤ n) (L : Nat → Nat) (F : Nat → Nat → UInt8) : rootK n L F = innerK (rootK (halfN n) L F) (rootK (n - halfN n) (fun r => L (halfN n + r)) (fun r => F (halfN n + r))) := by
  rw [rootK, if_neg (by omega), if_neg (by omega), dif_pos h]
/-- the path of the leaf i, from the leaf up -/
def pathK (n i : Nat) (L : Nat → Nat) (F : Nat → Nat → UInt8) : List Ky :=
  if h : 2 ≤ n then
    if i < halfN n then pathK (halfN n) i L F ++ [rootK (n - halfN n) (fun r => L (halfN n + r)) (fun r => F (halfN n + r))]
    else pathK (n - halfN n) (i - halfN n) (fun r => L (halfN n + r)) (fun r => F (halfN n + r)) ++ [rootK (halfN n) L F]
  else []
termination_by n
decreasing_by
  · exact (halfN_lt h).1
  · have := halfN_pos n; omega
theorem pathK_one {n : Nat} (h : n < 2) (i : Nat) (L : Nat → Nat) (F : Nat → Nat → UInt8) : pathK n i L F = [] := by rw [pathK, dif_neg (by omega)]
theorem pathK_left {n i : Nat} (h : 2 ≤ n) (hi : i < halfN n) (L : Nat → Nat) (F : Nat → Nat → UInt8) : pathK n i L F = pathK (halfN n) i L F ++ [rootK (n - halfN n) (fun r => L (halfN n + r)) (fun r => F (halfN n + r))] := by
  rw [pathK, dif_pos h, if_pos hi]
theorem pathK_right {n i : Nat} (h : 2 ≤ n) (hi : ¬ i < halfN n) (L : Nat → Nat) (F : Nat → Nat → UInt8) : pathK n i L F = pathK (n - halfN n) (i - halfN n) (fun r => L (halfN n + r)) (fun r => F (halfN n + r)) ++ [rootK (halfN n) L F] := by
  rw [pathK, dif_pos h, if_neg hi]
theorem pathK_len : ∀ (n i : Nat) (L : Nat → Nat) (F : Nat → Nat → UInt8), (pathK n i L F).length ≤ n
  | n, i, L, F => by
    by_cases h : 2 ≤ n
    · have hh := halfN_lt h
      have hp := halfN_pos n
      by_cases hi : i < halfN n
      · rw [pathK_left h hi]
        have := pathK_len (halfN n) i L F
        simp only [List.length_append, List.length_singleton]
        omega
      · rw [pathK_right h hi]
        have := pathK_len (n - halfN n) (i - halfN n) (fun r => L (halfN n + r)) (fun r => F (halfN n + r))
        simp only [List.length_append, List.length_singleton]
        omega
    · rw [pathK_one (by omega)]; simp
termination_by n => n
/-- the root to which a path (read from its end) leads; none: its length is wrong -/
def climbK (h : Ky) (i n : Nat) (p : Nat → Ky) (m : Nat) : Ky × Bool :=
  if hn : 2 ≤ n then
    if m = 0 then ((fun _ => 0), false)
    else if i < halfN n then (innerK (climbK h i (halfN n) p (m - 1)).1 (p (m - 1)), (climbK h i (halfN n) p (m - 1)).2)
    else (innerK (p (m - 1)) (climbK h (i - halfN n) (n - halfN n) p (m - 1)).1, (climbK h (i - halfN n) (n - halfN n) p (m - 1)).2)
  else (h, m == 0)
termination_by n
decreasing_by
  all_goals first
    | exact (halfN_lt hn).1
    | (have := halfN_pos n; omega)
theorem climbK_one {n : Nat} (hn : n < 2) (h : Ky) (i : Nat) (p : Nat → Ky) (m : Nat) : climbK h i n p m = (h, m == 0) := by rw [climbK, dif_neg (by omega)]
theorem climbK_none {n : Nat} (hn : 2 ≤ n) (h : Ky) (i : Nat) (p : Nat → Ky) : climbK h i n p 0 = ((fun _ => 0), false) := by rw [climbK, dif_pos hn, if_pos rfl]
theorem climbK_left {n i m : Nat} (hn : 2 ≤ n) (hi : i < halfN n) (hm : 0 < m) (h : Ky) (p : Nat → Ky) : climbK h i n p m = (innerK (climbK h i (halfN n) p (m - 1)).1 (p (m - 1)), (climbK h i (halfN n) p (m - 1)).2) := by
  rw [climbK, dif_pos hn, if_neg (by omega), if_pos hi]
theorem climbK_right {n i m : Nat} (hn : 2 ≤ n) (hi : ¬ i < halfN n) (hm : 0 < m) (h : Ky) (p : Nat → Ky) : climbK h i n p m = (innerK (p (m - 1)) (climbK h (i - halfN n) (n - halfN n) p (m - 1)).1, (climbK h (i - halfN n) (n - halfN n) p (m - 1)).2) := by
  rw [climbK, dif_pos hn, if_neg (by omega), if_neg hi]
theorem climbK_congr (h : Ky) : ∀ (n i m : Nat) (p q : Nat → Ky), (∀ r, r < m → p r = q r) → climbK h i n p m = climbK h i n q m
  | n, i, m, p, q, hpq => by
    by_cases hn : 2 ≤ n
    · have hh := halfN_lt hn
      have hp := halfN_pos n
      by_cases hm : m = 0
      · subst hm; rw [climbK_none hn, climbK_none hn]
      · by_cases hi : i < halfN n
        · rw [climbK_left hn hi (by omega), climbK_left hn hi (by omega), climbK_congr h (halfN n) i (m - 1) p q (fun r hr => hpq r (by omega)), hpq (m - 1) (by omega)]
        · rw [climbK_right hn hi (by omega), climbK_right hn hi (by omega), climbK_congr h (n - halfN n) (i - halfN n) (m - 1) p q (fun r hr => hpq r (by omega)), hpq (m - 1) (by omega)]
    · rw [climbK_one (by omega), climbK_one (by omega)]
termination_by n => n
theorem climb_snoc (h : Ky) (i n : Nat) (l : List Ky) (x z : Ky) : climbK h i n (fun r => (l ++ [x]).getD r z) l.length = climbK h i n (fun r => l.getD r z) l.length :=
  climbK_congr h n i l.length _ _ (fun r hr => by simp [List.getD_eq_getElem?_getD, List.getElem?_append_left hr])
theorem getD_last (l : List Ky) (x z : Ky) : (l ++ [x]).getD l.length z = x := by simp [List.getD_eq_getElem?_getD]
/-- the path of a leaf leads to the root -/
theorem climb_path : ∀ (n i : Nat) (L : Nat → Nat) (F : Nat → Nat → UInt8), i < n → climbK (leafK (L i) (F i)) i n (fun r => (pathK n i L F).getD r (fun _ => 0)) (pathK n i L F).length = (rootK n L F, true)
  | n, i, L, F, hin => by
    by_cases hn : 2 ≤ n
    · have hh := halfN_lt hn
      have hp := halfN_pos n
      by_cases hi : i < halfN n
      · have e := pathK_left hn hi L F
        have ih := climb_path (halfN n) i L F hi
        rw [e, climbK_left hn hi (by simp), rootK_more hn]
        simp only [List.length_append, List.length_singleton, Nat.add_sub_cancel]
        rw [climb_snoc, getD_last, ih]
      · have e := pathK_right hn hi L F
        have ih := climb_path (n - halfN n) (i - halfN n) (fun r => L (halfN n + r)) (fun r => F (halfN n + r)) (by omega)
        rw [show halfN n + (i - halfN n) = i by omega] at ih
        rw [e, climbK_right hn hi (by simp), rootK_more hn]
        simp only [List.length_append, List.length_singleton, Nat.add_sub_cancel]
        rw [climb_snoc, getD_last, ih]
    · obtain rfl : n = 1 := by omega
      obtain rfl : i = 0 := by omega
      rw [pathK_one (by omega), climbK_one (by omega), rootK_one]
      rfl
termination_by n => n
end Go.Proofs.Ytnhggaghidbniaa
