/- The contracts of the small functions of package money and of its reference. -/
import Derived.Test.YtfinihdlkgnccaaRows
import Derived.WalkKit
import Derived.WalkSpells
import Derived.WalkLawsBesides
import Derived.Lib.Mul64
import Derived.Lib.Hide
import Derived.Test.YtfinihdlkgnccaaMoneyMath
namespace Go.Proofs.Ytfinihdlkgnccaa
open Go.RowKit
open MM
set_option linter.unusedVariables false

theorem ret_nb {n m : Int} {b c : Bool} (h : n = m) (k : b = c) : Ending.returned (.tuple #[.int .u64 n, .bool b]) = .returned (.tuple #[.int .u64 m, .bool c]) := by rw [h, k]
theorem ret_nn {n m p q : Int} (h : n = m) (k : p = q) : Ending.returned (.tuple #[.int .u64 n, .int .u64 p]) = .returned (.tuple #[.int .u64 m, .int .u64 q]) := by rw [h, k]
theorem ret_n {t : IntKind} {n m : Int} (h : n = m) : Ending.returned (.int t n) = .returned (.int t m) := by rw [h]

theorem only_any (n : Nat) (b : Bool) (w : World) :
    Calls Try.prog 24 #[.int .u64 n, .bool b] w fun e w' => e = .returned (.tuple #[.int .u64 ((if b then n else 0 : Nat) : Int), .bool b]) ∧ w = w' := by
  cases b
  · go_enter Try.func24, Try.ntmps24
    go_wp2
    go_ret2
    exact ⟨rfl, rfl⟩
  · go_enter Try.func24, Try.ntmps24
    go_wp2
    go_ret2
    exact ⟨rfl, rfl⟩

theorem radd_any (a b : Nat) (ha : a < 18446744073709551616) (hb : b < 18446744073709551616) (w : World) :
    Calls Try.prog 16 #[.int .u64 a, .int .u64 b] w fun e w' => e = .returned (.tuple #[.int .u64 (addV a b : Nat), .bool (addOk a b)]) ∧ w = w' := by
  go_enter Try.func16, Try.ntmps16
  go_wp2
  · go_ret2
    exact ⟨ret_nb (by rw [addV_no (by omega)]; rfl) (by rw [addOk_no (by omega)]), rfl⟩
  · go_ret2
    exact ⟨ret_nb (by rw [addV_yes (by omega)]; rfl) (by rw [addOk_yes (by omega)]), rfl⟩
theorem rsub_any (a b : Nat) (ha : a < 18446744073709551616) (hb : b < 18446744073709551616) (w : World) :
    Calls Try.prog 17 #[.int .u64 a, .int .u64 b] w fun e w' => e = .returned (.tuple #[.int .u64 (subV a b : Nat), .bool (subOk a b)]) ∧ w = w' := by
  go_enter Try.func17, Try.ntmps17
  go_wp2
  · go_ret2
    exact ⟨ret_nb (by rw [subV_no (by omega)]; rfl) (by rw [subOk_no (by omega)]), rfl⟩
  · go_ret2
    exact ⟨ret_nb (by rw [subV_yes (by omega)]; omega) (by rw [subOk_yes (by omega)]), rfl⟩

theorem rmul_any (a b : Nat) (ha : a < 18446744073709551616) (hb : b < 18446744073709551616) (w : World) :
    Calls Try.prog 19 #[.int .u64 a, .int .u64 b] w fun e w' => e = .returned (.tuple #[.int .u64 (mulV a b : Nat), .bool (mulOk a b)]) ∧ w = w' := by
  by_cases h0 : a = 0
  · subst h0
    go_enter Try.func19, Try.ntmps19
    go_wp2
    go_ret2
    exact ⟨ret_nb (by simp [mulV, mulOk]) (by simp [mulOk]), rfl⟩
  · have h1 := mul_le_iff (b := b) (Nat.pos_of_ne_zero h0)
    have hne : ((a : Int) != 0) = true := by rw [bne_iff_ne]; omega
    by_cases h2 : a * b < 18446744073709551616
    · have h3 : ¬ ((18446744073709551615 : Int) / a < b) := by rw [h1]; omega
      clear h1
      go_enter Try.func19, Try.ntmps19
      go_wp2
      go_ret2
      exact ⟨ret_nb (by rw [mulV_yes h2]; simp) (by rw [mulOk_yes h2]), rfl⟩
    · have h3 : ((18446744073709551615 : Int) / a < b) := by rw [h1]; omega
      clear h1
      go_enter Try.func19, Try.ntmps19
      go_wp2
      go_ret2
      exact ⟨ret_nb (by rw [mulV_no h2]; rfl) (by rw [mulOk_no h2]), rfl⟩

theorem wrap_sub (a b : Nat) (ha : a < 18446744073709551616) (hb : b < 18446744073709551616) : ∃ n : Nat, IntKind.u64.wrap ((a : Int) - b) = n ∧ (b ≤ a → n = a - b) := by
  refine ⟨(IntKind.u64.wrap ((a : Int) - b)).toNat, ?_, ?_⟩ <;> rw [IntKind.wrap_u64] <;> omega
theorem sub_any (a b : Nat) (ha : a < 18446744073709551616) (hb : b < 18446744073709551616) (w : World) :
    Calls Try.prog 15 #[.int .u64 a, .int .u64 b] w fun e w' => e = .returned (.tuple #[.int .u64 (subV a b : Nat), .bool (subOk a b)]) ∧ w = w' := by
  obtain ⟨n, hn, hs⟩ := wrap_sub a b ha hb
  have HS := Lib.hid hs
  clear hs
  by_cases h : b ≤ a
  · go_enter Try.func15, Try.ntmps15
    go_wp2_with (go_at_call 24; refine (only_any n _ _).mono ?_; rintro e w' ⟨rfl, rfl⟩)
    go_ret2
    exact ⟨ret_nb (by rw [subV_yes h, HS.out h]) (by rw [subOk_yes h]), rfl⟩
  · go_enter Try.func15, Try.ntmps15
    go_wp2_with (go_at_call 24; refine (only_any n _ _).mono ?_; rintro e w' ⟨rfl, rfl⟩)
    go_ret2
    exact ⟨ret_nb (by rw [subV_no h]; rfl) (by rw [subOk_no h]), rfl⟩

theorem wrapM (a : Nat) : IntKind.u64.wrap (a : Int) = ((a % 18446744073709551616 : Nat) : Int) := by rw [IntKind.wrap_u64]; omega
theorem maskN (a : Nat) (ha : a < 18446744073709551616) : bits .and .u64 (a : Int) 4294967295 = ((a % 4294967296 : Nat) : Int) := by
  have h := bits_and_u64_nat a 4294967295 ha (by omega)
  have e : a &&& 4294967295 = a % 4294967296 := Nat.and_two_pow_sub_one_eq_mod a 32
  rw [e] at h
  exact h
theorem divN (a : Nat) : (a : Int) / 4294967296 = ((a / 4294967296 : Nat) : Int) := by omega
theorem mulN (a b : Nat) : (a : Int) * (b : Int) = ((a * b : Nat) : Int) := (Int.natCast_mul a b).symm
theorem addN (a b : Nat) : (a : Int) + (b : Int) = ((a + b : Nat) : Int) := (Int.natCast_add a b).symm
theorem wrapN (a : Nat) (ha : a < 18446744073709551616) : IntKind.u64.wrap (a : Int) = (a : Int) := by rw [IntKind.wrap_u64]; omega
theorem mulK (a : Nat) : (a : Int) * 4294967296 = ((a * 4294967296 : Nat) : Int) := by omega

set_option maxHeartbeats 1000000 in
theorem mul64_any (x y : Nat) (hx : x < 18446744073709551616) (hy : y < 18446744073709551616) (w : World) :
    Calls Try.prog 20 #[.int .u64 x, .int .u64 y] w fun e w' => e = .returned (.tuple #[.int .u64 ((x * y / 18446744073709551616 : Nat) : Int), .int .u64 ((x * y % 18446744073709551616 : Nat) : Int)]) ∧ w = w' := by
  obtain ⟨bd, bt, bw, hhi⟩ := Lib.mul64_hi x y hx hy
  have ba := Lib.half_mul_le (a := x / 4294967296) (b := y / 4294967296) (by omega) (by omega)
  have bb := Lib.half_mul_le (a := x / 4294967296) (b := y % 4294967296) (by omega) (by omega)
  have bc := Lib.half_mul_le (a := x % 4294967296) (b := y / 4294967296) (by omega) (by omega)
  have ba' : x / 4294967296 * (y / 4294967296) < 18446744073709551616 := by omega
  have bb' : x / 4294967296 * (y % 4294967296) < 18446744073709551616 := by omega
  have bc' : x % 4294967296 * (y / 4294967296) < 18446744073709551616 := by omega
  have bh1 : x / 4294967296 * (y / 4294967296) + (x / 4294967296 * (y % 4294967296) + x % 4294967296 * (y % 4294967296) / 4294967296) / 4294967296 < 18446744073709551616 := by omega
  have bh : x / 4294967296 * (y / 4294967296) + (x / 4294967296 * (y % 4294967296) + x % 4294967296 * (y % 4294967296) / 4294967296) / 4294967296 + ((x / 4294967296 * (y % 4294967296) + x % 4294967296 * (y % 4294967296) / 4294967296) % 4294967296 + x % 4294967296 * (y / 4294967296)) / 4294967296 < 18446744073709551616 := by omega
  go_enter Try.func20, Try.ntmps20
  go_wp2
  go_ret2
  refine ⟨ret_nn ?_ ?_, rfl⟩
  · simp only [maskN x hx, maskN y hy, divN, mulN, addN, wrapN _ bd, wrapN _ bb', wrapN _ bt, maskN _ bt, wrapN _ bc', wrapN _ bw, wrapN _ ba', wrapN _ bh1, wrapN _ bh]
    rw [hhi]
  · rw [mulN, wrapM]

theorem add64_run (x y : Nat) (w : World) :
    (callFunc 23 #[.int .u64 x, .int .u64 y, .int .u64 0]).run Try.prog w =
      .ok (.value (.tuple #[.int .u64 (((x + y) % 18446744073709551616 : Nat) : Int), .int .u64 (((x + y) / 18446744073709551616 : Nat) : Int)])) w := by
  kernel_rfl
theorem add_any (a b : Nat) (ha : a < 18446744073709551616) (hb : b < 18446744073709551616) (w : World) :
    Calls Try.prog 14 #[.int .u64 a, .int .u64 b] w fun e w' => e = .returned (.tuple #[.int .u64 (addV a b : Nat), .bool (addOk a b)]) ∧ w = w' := by
  have hrun := add64_run a b
  by_cases h : a + b < 18446744073709551616
  · rw [Nat.mod_eq_of_lt h, Nat.div_eq_of_lt h] at hrun
    go_enter Try.func14, Try.ntmps14
    go_wp2_with (go_at_call 24; refine (only_any (a + b) _ _).mono ?_; rintro e w' ⟨rfl, rfl⟩)
    go_ret2
    exact ⟨ret_nb (by rw [addV_yes h]; first | rfl | simp) (by rw [addOk_yes h]), rfl⟩
  · obtain ⟨m, hm⟩ : ∃ m, (a + b) % 18446744073709551616 = m := ⟨_, rfl⟩
    have h1 : (a + b) / 18446744073709551616 = 1 := by omega
    rw [hm, h1] at hrun
    clear hm h1
    go_enter Try.func14, Try.ntmps14
    go_wp2_with (go_at_call 24; refine (only_any m _ _).mono ?_; rintro e w' ⟨rfl, rfl⟩)
    go_ret2
    exact ⟨ret_nb (by rw [addV_no h]; rfl) (by rw [addOk_no h]), rfl⟩
theorem mul_any (a b : Nat) (ha : a < 18446744073709551616) (hb : b < 18446744073709551616) (w : World) :
    Calls Try.prog 18 #[.int .u64 a, .int .u64 b] w fun e w' => e = .returned (.tuple #[.int .u64 (mulV a b : Nat), .bool (mulOk a b)]) ∧ w = w' := by
  have hm := mul64_any a b ha hb
  by_cases h : a * b < 18446744073709551616
  · rw [Nat.mod_eq_of_lt h, Nat.div_eq_of_lt h] at hm
    have H := Lib.hid hm
    clear hm
    go_enter Try.func18, Try.ntmps18
    go_wp2_with (first | (go_at_call 24; refine (only_any (a * b) _ _).mono ?_; rintro e w' ⟨rfl, rfl⟩) | (go_at_call 20; refine (H.out _).mono ?_; rintro e w' ⟨rfl, rfl⟩))
    go_ret2
    exact ⟨ret_nb (by rw [mulV_yes h]; first | rfl | simp) (by rw [mulOk_yes h]), rfl⟩
  · obtain ⟨m, hm'⟩ : ∃ m, a * b % 18446744073709551616 = m := ⟨_, rfl⟩
    obtain ⟨k, hk⟩ : ∃ k, a * b / 18446744073709551616 = k := ⟨_, rfl⟩
    have hk0 : ((k : Int) == 0) = false := by rw [beq_eq_false_iff_ne]; omega
    rw [hm', hk] at hm
    clear hm' hk
    have H := Lib.hid hm
    clear hm
    go_enter Try.func18, Try.ntmps18
    go_wp2_with (first | (go_at_call 24; refine (only_any m _ _).mono ?_; rintro e w' ⟨rfl, rfl⟩) | (go_at_call 20; refine (H.out _).mono ?_; rintro e w' ⟨rfl, rfl⟩))
    go_ret2
    exact ⟨ret_nb (by rw [mulV_no h]; rfl) (by rw [mulOk_no h]), rfl⟩

theorem shl_or (m d : Nat) (hm : m < 18446744073709551616) (hd : d < 18446744073709551616) : bits .or .u64 (IntKind.u64.wrap ((m * 4294967296 : Nat) : Int)) ((d % 4294967296 : Nat) : Int) = ((m % 4294967296 * 4294967296 + d % 4294967296 : Nat) : Int) := by
  rw [wrapM, bits_or_u64_nat _ _ (by omega) (by omega)]
  congr 1
  have e : m * 4294967296 % 18446744073709551616 = (m % 4294967296) * 2 ^ 32 := by omega
  rw [e, Nat.mul_comm _ (2 ^ 32), ← Nat.two_pow_add_eq_or_of_lt (show d % 4294967296 < 2 ^ 32 by omega)]
set_option maxHeartbeats 1000000 in
theorem product_any (x y : Nat) (hx : x < 18446744073709551616) (hy : y < 18446744073709551616) (w : World) :
    Calls Try.prog 22 #[.int .u64 x, .int .u64 y] w fun e w' => e = .returned (.tuple #[.int .u64 ((x * y / 18446744073709551616 : Nat) : Int), .int .u64 ((x * y % 18446744073709551616 : Nat) : Int)]) ∧ w = w' := by
  have e : x * y = (x / 4294967296) * (y / 4294967296) * (4294967296 * 4294967296) + ((x / 4294967296) * (y % 4294967296) + (x % 4294967296) * (y / 4294967296)) * 4294967296 + (x % 4294967296) * (y % 4294967296) := by
    rw [← Lib.split_mul, Nat.div_add_mod' x 4294967296, Nat.div_add_mod' y 4294967296]
  have hh : x * y / 18446744073709551616 < 18446744073709551616 := by
    rw [Nat.div_lt_iff_lt_mul (by omega)]
    exact Nat.mul_lt_mul_of_lt_of_lt hx hy
  have ha := Lib.half_mul_le (a := x / 4294967296) (b := y / 4294967296) (by omega) (by omega)
  have hb := Lib.half_mul_le (a := x / 4294967296) (b := y % 4294967296) (by omega) (by omega)
  have hc := Lib.half_mul_le (a := x % 4294967296) (b := y / 4294967296) (by omega) (by omega)
  have hd := Lib.half_mul_le (a := x % 4294967296) (b := y % 4294967296) (by omega) (by omega)
  have P := prod_end e ha hb hc hd hh
  have HP := Lib.hid P
  clear P e hh
  go_enter Try.func22, Try.ntmps22
  go_wp2
  go_ret2
  have P := HP.out
  clear HP
  refine ⟨ret_nn ?_ ?_, rfl⟩
  all_goals simp only [maskN x hx, maskN y hy, divN, mulN]
  all_goals generalize (x / 4294967296) * (y / 4294967296) = a at *
  all_goals generalize (x / 4294967296) * (y % 4294967296) = b at *
  all_goals generalize (x % 4294967296) * (y / 4294967296) = c at *
  all_goals generalize (x % 4294967296) * (y % 4294967296) = d at *
  all_goals obtain ⟨m, hm, hm1, h1, h2, h3⟩ := P
  all_goals rw [wrapN b (by omega), wrapN c (by omega), wrapN d (by omega)]
  all_goals rw [maskN b (by omega), maskN c (by omega), divN d, addN _ (b % 4294967296), wrapN (d / 4294967296 + b % 4294967296) (by omega), addN _ (c % 4294967296), hm, wrapN m hm1]
  · rw [wrapN a (by omega), divN b, addN a, wrapN _ (by omega), divN c, addN _ (c / 4294967296), wrapN _ (by omega), divN m, addN _ (m / 4294967296), wrapN _ h2, h1]
  · rw [mulK, maskN d (by omega), shl_or m d hm1 (by omega), h3]
end Go.Proofs.Ytfinihdlkgnccaa
