/- The contracts of package gas and of its reference. -/
import Derived.Test.YtkinjnmlkccanaaMoneyW3
namespace Go.Proofs.Ytkinjnmlkccanaa
open Go.RowKit
open MM
set_option linter.unusedVariables false

def lim (n : Int) : Nat := (min (max n 0) 1073741824).toNat
theorem lim_le (n : Int) : lim n ≤ 1073741824 := by unfold lim; omega

theorem limited_any (n : Int) (h1 : -9223372036854775808 ≤ n) (h2 : n ≤ 9223372036854775807) (w : World) :
    Calls Try.prog 16 #[.int .i64 n] w fun e w' => e = .returned (.int .u64 (lim n)) ∧ w = w' := by
  go_enter Try.func16, Try.ntmps16
  go_wp2
  go_ret
  exact ⟨ret_n (by unfold lim; omega), rfl⟩
theorem rlimited_any (n : Int) (h1 : -9223372036854775808 ≤ n) (h2 : n ≤ 9223372036854775807) (w : World) :
    Calls Try.prog 17 #[.int .i64 n] w fun e w' => e = .returned (.int .u64 (lim n)) ∧ w = w' := by
  go_enter Try.func17, Try.ntmps17
  go_wp2
  go_ret
  exact ⟨ret_n (by unfold lim; omega), rfl⟩


/-- the gas of a size and a number of transfers -/
def used (a b : Int) : Nat := 50 + lim a + 20 * lim b
theorem used_any (a b : Int) (h1 : -9223372036854775808 ≤ a) (h2 : a ≤ 9223372036854775807) (h3 : -9223372036854775808 ≤ b) (h4 : b ≤ 9223372036854775807) (w : World) :
    Calls Try.prog 9 #[.int .i64 a, .int .i64 b] w fun e w' => e = .returned (.int .u64 (used a b)) ∧ w = w' := by
  have g1 := limited_any a h1 h2
  have g2 := limited_any b h3 h4
  have l1 := lim_le a
  have l2 := lim_le b
  unfold used
  generalize lim a = x at *
  generalize lim b = y at *
  have G1 := Lib.hid g1
  have G2 := Lib.hid g2
  clear g1 g2
  go_enter Try.func9, Try.ntmps9
  go_wp2_with fail
  refine (G1.out _).mono ?_; rintro e w' ⟨rfl, rfl⟩
  go_wp2_with fail
  refine (G2.out _).mono ?_; rintro e w' ⟨rfl, rfl⟩
  go_wp2_with fail
  go_ret
  exact ⟨ret_n (by omega), rfl⟩
theorem rused_any (a b : Int) (h1 : -9223372036854775808 ≤ a) (h2 : a ≤ 9223372036854775807) (h3 : -9223372036854775808 ≤ b) (h4 : b ≤ 9223372036854775807) (w : World) :
    Calls Try.prog 10 #[.int .i64 a, .int .i64 b] w fun e w' => e = .returned (.int .u64 (used a b)) ∧ w = w' := by
  have g1 := rlimited_any a h1 h2
  have g2 := rlimited_any b h3 h4
  have l1 := lim_le a
  have l2 := lim_le b
  unfold used
  generalize lim a = x at *
  generalize lim b = y at *
  have G1 := Lib.hid g1
  have G2 := Lib.hid g2
  clear g1 g2
  go_enter Try.func10, Try.ntmps10
  go_wp2_with fail
  refine (G1.out _).mono ?_; rintro e w' ⟨rfl, rfl⟩
  go_wp2_with fail
  refine (G2.out _).mono ?_; rintro e w' ⟨rfl, rfl⟩
  go_wp2_with fail
  go_ret
  exact ⟨ret_n (by omega), rfl⟩

theorem need_any (a b : Nat) (ha : a < 18446744073709551616) (hb : b < 18446744073709551616) (w : World) :
    Calls Try.prog 12 #[.int .u64 a, .int .u64 b] w fun e w' => e = .returned (.tuple #[.int .u64 (mulV a b : Nat), .bool (mulOk a b)]) ∧ w = w' := by
  have g1 := mul_any a b ha hb
  have G1 := Lib.hid g1
  clear g1
  go_enter Try.func12, Try.ntmps12
  go_wp2_with fail
  refine (G1.out _).mono ?_; rintro e w' ⟨rfl, rfl⟩
  go_wp2_with fail
  go_ret2
  exact ⟨rfl, rfl⟩
theorem rneed_any (a b : Nat) (ha : a < 18446744073709551616) (hb : b < 18446744073709551616) (w : World) :
    Calls Try.prog 13 #[.int .u64 a, .int .u64 b] w fun e w' => e = .returned (.tuple #[.int .u64 (mulV a b : Nat), .bool (mulOk a b)]) ∧ w = w' := by
  have g1 := rmul_any a b ha hb
  have G1 := Lib.hid g1
  clear g1
  go_enter Try.func13, Try.ntmps13
  go_wp2_with fail
  refine (G1.out _).mono ?_; rintro e w' ⟨rfl, rfl⟩
  go_wp2_with fail
  go_ret2
  exact ⟨rfl, rfl⟩

/-- the priority of a fee and a gas -/
def prio (f g : Nat) : Nat := if g = 0 then 0 else if divOk 1000 f g then divV 1000 f g else 18446744073709551615
theorem prio_zero (f : Nat) : prio f 0 = 0 := by simp [prio]
theorem prio_yes {f g : Nat} (h : g ≠ 0) (k : divOk 1000 f g = true) : prio f g = divV 1000 f g := by simp [prio, h, k]
theorem prio_no {f g : Nat} (h : g ≠ 0) (k : divOk 1000 f g = false) : prio f g = 18446744073709551615 := by simp [prio, h, k]
theorem priority_any (f g : Nat) (hf : f < 18446744073709551616) (hg : g < 18446744073709551616) (w : World) :
    Calls Try.prog 14 #[.int .u64 f, .int .u64 g] w fun e w' => e = .returned (.int .u64 (prio f g)) ∧ ∃ n, w' = w.drewN n := by
  by_cases h0 : g = 0
  · subst h0
    rw [prio_zero]
    go_enter Try.func14, Try.ntmps14
    go_wp2
    go_ret
    exact ⟨rfl, 0, rfl⟩
  · have hb1 : ((g : Int) == 0) = false := by rw [beq_eq_false_iff_ne]; omega
    have g1 := muldiv_any 1000 f g (by omega) hf hg
    cases hk : divOk 1000 f g
    · rw [prio_no h0 hk]
      rw [hk] at g1
      generalize divV 1000 f g = x at *
      have G1 := Lib.hid g1
      clear g1 hk
      go_enter Try.func14, Try.ntmps14
      go_wp2_with fail
      refine (G1.out _).mono ?_; rintro e w' ⟨rfl, n, rfl⟩
      go_wp2_with fail
      go_ret
      exact ⟨rfl, n, rfl⟩
    · rw [prio_yes h0 hk]
      rw [hk] at g1
      generalize divV 1000 f g = x at *
      have G1 := Lib.hid g1
      clear g1 hk
      go_enter Try.func14, Try.ntmps14
      go_wp2_with fail
      refine (G1.out _).mono ?_; rintro e w' ⟨rfl, n, rfl⟩
      go_wp2_with fail
      go_ret
      exact ⟨rfl, n, rfl⟩
theorem rpriority_any (f g : Nat) (hf : f < 18446744073709551616) (hg : g < 18446744073709551616) (w : World) :
    Calls Try.prog 15 #[.int .u64 f, .int .u64 g] w fun e w' => e = .returned (.int .u64 (prio f g)) ∧ w = w' := by
  by_cases h0 : g = 0
  · subst h0
    rw [prio_zero]
    go_enter Try.func15, Try.ntmps15
    go_wp2
    go_ret
    exact ⟨rfl, rfl⟩
  · have hb1 : ((g : Int) == 0) = false := by rw [beq_eq_false_iff_ne]; omega
    have g1 := rmuldiv_any f 1000 g hf (by omega) hg
    have ex : divV f 1000 g = divV 1000 f g := by unfold divV divOk; rw [Nat.mul_comm]
    have ey : divOk f 1000 g = divOk 1000 f g := by unfold divOk; rw [Nat.mul_comm]
    rw [ex, ey] at g1
    clear ex ey
    cases hk : divOk 1000 f g
    · rw [prio_no h0 hk]
      rw [hk] at g1
      generalize divV 1000 f g = x at *
      have G1 := Lib.hid g1
      clear g1 hk
      go_enter Try.func15, Try.ntmps15
      go_wp2_with fail
      refine (G1.out _).mono ?_; rintro e w' ⟨rfl, rfl⟩
      go_wp2_with fail
      go_ret
      exact ⟨rfl, rfl⟩
    · rw [prio_yes h0 hk]
      rw [hk] at g1
      generalize divV 1000 f g = x at *
      have G1 := Lib.hid g1
      clear g1 hk
      go_enter Try.func15, Try.ntmps15
      go_wp2_with fail
      refine (G1.out _).mono ?_; rintro e w' ⟨rfl, rfl⟩
      go_wp2_with fail
      go_ret
      exact ⟨rfl, rfl⟩

/-- the example of the statements -/
theorem known_any (w : World) : Calls Try.prog 11 #[] w fun e w' => e = .returned (.bool true) ∧ ∃ n, w' = w.drewN n := by
  have a1 : ∀ w, Calls Try.prog 12 #[.int .u64 200, .int .u64 3] w fun e w' => e = .returned (.tuple #[.int .u64 600, .bool true]) ∧ w = w' := fun w => need_any 200 3 (by omega) (by omega) w
  have a2 : ∀ w, Calls Try.prog 12 #[.int .u64 9223372036854775808, .int .u64 2] w fun e w' => e = .returned (.tuple #[.int .u64 0, .bool false]) ∧ w = w' := fun w => need_any 9223372036854775808 2 (by omega) (by omega) w
  have a3 : ∀ w, Calls Try.prog 9 #[.int .i64 100, .int .i64 2] w fun e w' => e = .returned (.int .u64 190) ∧ w = w' := fun w => used_any 100 2 (by omega) (by omega) (by omega) (by omega) w
  have a4 : ∀ w, Calls Try.prog 14 #[.int .u64 1, .int .u64 3] w fun e w' => e = .returned (.int .u64 333) ∧ ∃ n, w' = w.drewN n := fun w => priority_any 1 3 (by omega) (by omega) w
  have a5 : ∀ w, Calls Try.prog 14 #[.int .u64 18446744073709551615, .int .u64 1] w fun e w' => e = .returned (.int .u64 18446744073709551615) ∧ ∃ n, w' = w.drewN n := fun w => priority_any 18446744073709551615 1 (by omega) (by omega) w
  have a6 : ∀ w, Calls Try.prog 14 #[.int .u64 5, .int .u64 0] w fun e w' => e = .returned (.int .u64 0) ∧ ∃ n, w' = w.drewN n := fun w => priority_any 5 0 (by omega) (by omega) w
  have A1 := Lib.hid a1
  have A2 := Lib.hid a2
  have A3 := Lib.hid a3
  have A4 := Lib.hid a4
  have A5 := Lib.hid a5
  have A6 := Lib.hid a6
  clear a1 a2 a3 a4 a5 a6
  go_enter Try.func11, Try.ntmps11
  go_wp2_with fail
  refine (A1.out _).mono ?_; rintro e w' ⟨rfl, rfl⟩
  go_wp2_with fail
  refine (A2.out _).mono ?_; rintro e w' ⟨rfl, rfl⟩
  go_wp2_with fail
  refine (A3.out _).mono ?_; rintro e w' ⟨rfl, rfl⟩
  go_wp2_with fail
  refine (A4.out _).mono ?_; rintro e w' ⟨rfl, n1, rfl⟩
  go_wp2_with fail
  refine (A5.out _).mono ?_; rintro e w' ⟨rfl, n2, rfl⟩
  go_wp2_with fail
  refine (A6.out _).mono ?_; rintro e w' ⟨rfl, n3, rfl⟩
  go_wp2_with fail
  go_ret
  exact ⟨rfl, _, rfl⟩
end Go.Proofs.Ytkinjnmlkccanaa
