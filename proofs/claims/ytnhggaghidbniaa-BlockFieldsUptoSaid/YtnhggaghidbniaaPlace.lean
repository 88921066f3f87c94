/- Place of the statements' own generators: a number from 0 to below n. -/
import Derived.Test.YtnhggaghidbniaaRows
import Derived.WalkKit
import Derived.WalkSpells
import Derived.WalkLawsBesides
import Derived.Lib.Hide
namespace Go.Proofs.Ytnhggaghidbniaa
open Go.RowKit
set_option linter.unusedVariables false

theorem place_eq (x n : Int) (hn : 0 < n) : (x.tmod n < 0 → x.tmod n + n = x % n) ∧ (¬ x.tmod n < 0 → x.tmod n = x % n) := by
  rw [Int.tmod_eq_emod]
  have h1 := Int.emod_nonneg x (show n ≠ 0 by omega)
  have h2 := Int.emod_lt_of_pos x hn
  split
  · omega
  · rename_i h
    have : x % n ≠ 0 := by intro h0; exact h (.inr (Int.dvd_of_emod_eq_zero h0))
    omega

theorem place_any (x n : Int) (h1 : -9223372036854775808 ≤ x) (h2 : x ≤ 9223372036854775807) (h3 : 0 < n) (h4 : n ≤ 9223372036854775807) (w : World) :
    Calls Try.prog 24 #[.int .i64 x, .int .i64 n] w fun e w' => e = .returned (.int .i64 (x % n)) ∧ w = w' := by
  obtain ⟨a, b⟩ := place_eq x n h3
  have c1 := Int.emod_nonneg x (show n ≠ 0 by omega)
  have c2 := Int.emod_lt_of_pos x h3
  by_cases h : x.tmod n < 0
  · have e := a h
    have hlo : -n ≤ x.tmod n := by omega
    have HE := Lib.hid e
    clear e a b
    go_enter Try.func24, Try.ntmps24
    go_wp2
    go_ret
    exact ⟨by rw [← HE.out]; rfl, rfl⟩
  · have HE := Lib.hid (b h)
    clear a b
    go_enter Try.func24, Try.ntmps24
    go_wp2
    go_ret
    exact ⟨by rw [← HE.out]; rfl, rfl⟩
end Go.Proofs.Ytnhggaghidbniaa
