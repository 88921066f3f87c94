/- half, of the program and of the reference. -/
import Derived.Test.YtnhggaghidbniaaMerW1
import Derived.Test.YtnhggaghidbniaaLen64
namespace Go.Proofs.Ytnhggaghidbniaa
open Go.RowKit
set_option linter.unusedVariables false
open ShaW Sha

theorem bitLenAux_log : ∀ f x, 0 < x → x < 2 ^ f → Lib.bitLenAux f x = Nat.log2 x + 1
  | 0, x, h, h' => by rw [Nat.pow_zero] at h'; omega
  | f + 1, x, h, h' => by
    rw [Nat.pow_succ] at h'
    show (if x = 0 then 0 else 1 + Lib.bitLenAux f (x / 2)) = _
    rw [if_neg (by omega), Nat.log2_def]
    by_cases h2 : 2 ≤ x
    · rw [if_pos h2, bitLenAux_log f (x / 2) (by omega) (by omega)]
      omega
    · obtain rfl : x = 1 := by omega
      rw [if_neg (by omega)]
      cases f with
      | zero => rfl
      | succ f => rfl
theorem half_log (n : Nat) (h : 2 ≤ n) (hn : n ≤ 1099511627776) : Lib.bitLen (n - 1) = Nat.log2 (n - 1) + 1 :=
  bitLenAux_log 64 (n - 1) (by omega) (by omega)

set_option maxRecDepth 100000 in
theorem blen_any (w : World) (x : Nat) (h : x < 1099511627776) :
    Calls Try.prog 62 #[.int .u64 (x : Int)] w fun e w' => e = .returned (.int .i64 (Lib.bitLen x : Int)) ∧ w' = w := by
  go_enter Try.func62, Try.ntmps62
  go_wp2_with fail
  refine (len64_any _ _ (by omega) (by omega)).mono ?_
  rintro e w' ⟨rfl, rfl⟩
  go_wp2_with fail
  go_ret
  exact ⟨by simp, rfl⟩

set_option maxRecDepth 100000 in
theorem mhalf_any (w : World) (n : Nat) (h : 2 ≤ n) (hn : n ≤ 1099511627776) :
    Calls Try.prog 52 #[.int .i64 (n : Int)] w fun e w' => e = .returned (.int .i64 (halfN n : Int)) ∧ w' = w := by
  have e1 : ((n - 1 : Nat) : Int) = (n : Int) - 1 := by omega
  have hb := blen_any
  have hl : Nat.log2 (n - 1) ≤ 39 := by
    have : Nat.log2 (n - 1) < 40 := (Nat.log2_lt (by omega)).2 (by omega)
    omega
  obtain ⟨k, hk⟩ : ∃ k, Nat.log2 (n - 1) = k := ⟨_, rfl⟩
  have hhalf : halfN n = 2 ^ k := by unfold halfN; rw [hk]
  have hlen : Lib.bitLen (n - 1) = k + 1 := by rw [half_log n h hn, hk]
  have hcall : ∀ w, Calls Try.prog 62 #[.int .u64 ((n : Int) - 1)] w fun e w' => e = .returned (.int .i64 ((k : Int) + 1)) ∧ w' = w := fun w => by
    have h := blen_any w (n - 1) (by omega)
    rw [e1, hlen] at h
    exact h
  rw [hhalf]
  rw [hk] at hl
  clear hb e1 hlen hk hhalf
  have hp : (2 : Nat) ^ k ≤ 2 ^ 39 := Nat.pow_le_pow_right (by omega) hl
  have hpi : (2 : Int) ^ k = ((2 ^ k : Nat) : Int) := by push_cast; rfl
  have hw : IntKind.i64.wrap (2 ^ k) = 2 ^ k := by
    rw [hpi]
    generalize (2 : Nat) ^ k = P at hp
    exact IntWalk.i64_in _ (by omega)
  have HPI := Lib.hid hpi
  clear hpi hp
  go_enter Try.func52, Try.ntmps52
  go_wp2_with fail
  refine (hcall _).mono ?_
  rintro e w' ⟨rfl, rfl⟩
  go_wp2_with fail
  go_ret
  exact ⟨by rw [← HPI.out]; rfl, rfl⟩

set_option maxRecDepth 100000 in
theorem rhalf_any (w : World) (n : Nat) (h : 2 ≤ n) (hn : n ≤ 1099511627776) :
    Calls Try.prog 38 #[.int .i64 (n : Int)] w fun e w' => e = .returned (.int .i64 (halfN n : Int)) ∧ w' = w := by
  go_enter Try.func38, Try.ntmps38
  go_wp2_with fail
  go_loopw [3] (fun v wr => ∃ e k : Nat, v = .int .i64 (k : Int) ∧ k = 2 ^ e ∧ k < n ∧ w = wr) (fun v _ => n - (intOf v).toNat)
  case atStart => exact ⟨0, 1, rfl, rfl, by omega, rfl⟩
  case round =>
    obtain ⟨x, k, rfl, hk, hlt, rfl⟩ := hrel
    have hpos : 0 < k := by rw [hk]; exact Nat.two_pow_pos x
    have HK := Lib.hid hk
    clear hk
    by_cases hm : 2 * k < n
    · have hmi : (k : Int) < (n : Int) - k := by omega
      go_wp2_with fail
      go_roundw
      case rel => exact ⟨x + 1, k * 2, by congr 1, by rw [HK.out, Nat.pow_succ], by omega, trivial⟩
      case measure => simp [intOf]; omega
    · have hmi : ¬ (k : Int) < (n : Int) - k := by omega
      have he : k = halfN n := by rw [HK.out]; exact halfN_eq h (by rw [← HK.out]; exact hlt) (by rw [← HK.out]; omega)
      have HE := Lib.hid he
      clear he hm
      go_wp2_with fail
      go_ret
      exact ⟨by rw [← HE.out]; rfl, rfl⟩
end Go.Proofs.Ytnhggaghidbniaa
