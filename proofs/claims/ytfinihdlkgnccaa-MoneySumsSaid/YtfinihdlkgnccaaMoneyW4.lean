/- The fixed example of the statements about package money. -/
import Derived.Test.YtfinihdlkgnccaaMoneyW3
namespace Go.Proofs.Ytfinihdlkgnccaa
open Go.RowKit
open MM
set_option linter.unusedVariables false

theorem known_any (w : World) : Calls Try.prog 11 #[] w fun e w' => e = .returned (.bool true) ∧ Below w.heap.size w w' := by
  have a1 : ∀ w, Calls Try.prog 14 #[.int .u64 18446744073709551615, .int .u64 1] w fun e w' => e = .returned (.tuple #[.int .u64 0, .bool false]) ∧ w = w' := fun w => add_any 18446744073709551615 1 (by omega) (by omega) w
  have a2 : ∀ w, Calls Try.prog 9 #[.int .u64 9223372036854775808, .int .u64 6, .int .u64 4] w fun e w' => e = .returned (.tuple #[.int .u64 13835058055282163712, .bool true]) ∧ ∃ n, w' = w.drewN n := fun w => muldiv_any 9223372036854775808 6 4 (by omega) (by omega) (by omega) w
  have a3 : ∀ w, Calls Try.prog 9 #[.int .u64 9223372036854775808, .int .u64 4, .int .u64 2] w fun e w' => e = .returned (.tuple #[.int .u64 0, .bool false]) ∧ ∃ n, w' = w.drewN n := fun w => muldiv_any 9223372036854775808 4 2 (by omega) (by omega) (by omega) w
  have A1 := Lib.hid a1
  have A2 := Lib.hid a2
  have A3 := Lib.hid a3
  clear a1 a2 a3
  go_enter Try.func11, Try.ntmps11
  go_wp2_with fail
  refine (A1.out _).mono ?_; rintro e w' ⟨rfl, rfl⟩
  go_wp2_with fail
  refine (A2.out _).mono ?_; rintro e w' ⟨rfl, n1, rfl⟩
  go_wp2_with fail
  refine (A3.out _).mono ?_; rintro e w' ⟨rfl, n2, rfl⟩
  go_wp2_with fail
  refine (sum_any _ w.heap.size 0 3 3 (fun j => j + 1) (by omega) (by intro j hj; omega) _ (fun _ => rfl) ?_).mono ?_
  · intro j hj
    have : j = 0 ∨ j = 1 ∨ j = 2 := by omega
    rcases this with rfl | rfl | rfl <;> exact World.cell?_alloc_at _ _ _ _ rfl
  rintro e w' ⟨rfl, rfl⟩
  have s1 : (sumV (fun j => j + 1) 3 : Nat) = 6 := by decide
  have s2 : sumOk (fun j => j + 1) 3 = true := by decide
  rw [s1, s2]
  go_wp2_with fail
  go_ret
  exact ⟨rfl, (below_drewN (Below.refl _ _) _).alloc (by simp) _⟩

theorem u64_nat (a : Int) (h : (Lit.int .u64 a).wf = true) : ∃ n : Nat, a = n ∧ n < 18446744073709551616 := by
  have : 0 ≤ a ∧ a ≤ 18446744073709551615 := by simpa [Lit.wf, IntKind.min, IntKind.max, IntKind.signed, IntKind.bits] using h
  exact ⟨a.toNat, by omega, by omega⟩
theorem u32_nat (a : Int) (h : (Lit.int .u32 a).wf = true) : ∃ n : Nat, a = n ∧ n < 4294967296 := by
  have : 0 ≤ a ∧ a ≤ 4294967295 := by simpa [Lit.wf, IntKind.min, IntKind.max, IntKind.signed, IntKind.bits] using h
  exact ⟨a.toNat, by omega, by omega⟩
theorem u8_nat (a : Int) (h : (Lit.int .u8 a).wf = true) : ∃ n : Nat, a = n ∧ n < 256 := by
  have : 0 ≤ a ∧ a ≤ 255 := by simpa [Lit.wf, IntKind.min, IntKind.max, IntKind.signed, IntKind.bits] using h
  exact ⟨a.toNat, by omega, by omega⟩

set_option maxRecDepth 100000 in
theorem quotients_any (a b c : Nat) (ha : a < 4294967296) (hb : b < 4294967296) (hc : c < 4294967296) (w : World) :
    Calls Try.prog 4 #[.int .u32 a, .int .u32 b, .int .u32 c] w fun e w' => e = .returned (.bool true) ∧ Below w.heap.size w w' := by
  have hab : a * b ≤ 18446744065119617025 := Lib.half_mul_le (by omega) (by omega)
  have hk := known_any
  have hm := muldiv_any a b c (by omega) (by omega) (by omega)
  have HK := Lib.hid hk
  clear hk
  by_cases h0 : c = 0
  · subst h0
    rw [divV_no (by omega), divOk_no (by omega)] at hm
    have HM := Lib.hid hm
    clear hm
    go_enter Try.func4, Try.ntmps4
    go_wp2_with (first | (go_at_call 9; refine (HM.out _).mono ?_; rintro e w' ⟨rfl, n, rfl⟩) | (go_at_call 11; refine (HK.out _).mono ?_; rintro e w' ⟨rfl, hb⟩))
    go_ret
    exact ⟨rfl, (below_drewN (Below.refl _ _) _).trans (by assumption)⟩
  · have e0 : a * b / 18446744073709551616 < c := by omega
    rw [divV_yes e0, divOk_yes e0] at hm
    have HM := Lib.hid hm
    have hc1 : ((c : Int) == 0) = false := by rw [beq_eq_false_iff_ne]; omega
    have hw : (a : Int) * b = ((a * b : Nat) : Int) := by simp
    obtain ⟨p, hp⟩ : ∃ p, a * b = p := ⟨_, rfl⟩
    rw [hp] at hw hab HM
    clear hm hp e0
    obtain ⟨q, hq⟩ : ∃ q, p / c = q := ⟨_, rfl⟩
    have hq2 : (p : Int) / c = q := by rw [← hq]; simp
    have hqb : q ≤ 18446744065119617025 := by have := Nat.div_le_self p c; omega
    rw [hq] at HM
    clear hq
    go_enter Try.func4, Try.ntmps4
    go_wp2_with fail
    refine (HM.out _).mono ?_; rintro e w' ⟨rfl, n, rfl⟩
    go_wp2_with fail
    refine (HK.out _).mono ?_; rintro e w' ⟨rfl, hb⟩
    go_wp2_with fail
    go_ret
    exact ⟨rfl, (below_drewN (Below.refl _ _) _).trans hb⟩
end Go.Proofs.Ytfinihdlkgnccaa
