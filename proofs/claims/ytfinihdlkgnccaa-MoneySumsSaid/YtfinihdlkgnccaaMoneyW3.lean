/- MulDiv and Sum, of package money and of the reference. -/
import Derived.Test.YtfinihdlkgnccaaMoneyW2
import Derived.Deep.QuietTactic
import Derived.BigQuiet
namespace Go.Proofs.Ytfinihdlkgnccaa
open Go.RowKit
open MM
set_option linter.unusedVariables false

theorem muldiv_any (a b c : Nat) (ha : a < 18446744073709551616) (hb : b < 18446744073709551616) (hc : c < 18446744073709551616) (w : World) :
    Calls Try.prog 9 #[.int .u64 a, .int .u64 b, .int .u64 c] w fun e w' => e = .returned (.tuple #[.int .u64 (divV a b c : Nat), .bool (divOk a b c)]) ∧ ∃ n, w' = w.drewN n := by
  have hm := mul64_any a b ha hb w
  obtain ⟨h, hh⟩ : ∃ h, a * b / 18446744073709551616 = h := ⟨_, rfl⟩
  obtain ⟨l, hl⟩ : ∃ l, a * b % 18446744073709551616 = l := ⟨_, rfl⟩
  rw [hh, hl] at hm
  have HM := Lib.hid hm
  clear hm
  have hl2 : l < 18446744073709551616 := by omega
  by_cases hlt : h < c
  · by_cases h0 : h = 0
    · subst h0
      have hd : Calls Try.prog 21 #[.int .u64 (0 : Int), .int .u64 l, .int .u64 c] w fun e w' => (∃ r : Int, e = .returned (.tuple #[.int .u64 (l / c : Nat), .int .u64 r])) ∧ ∃ n, w' = w.drewN n := by
        have hb1 : ((c : Int) == 0) = false := by rw [beq_eq_false_iff_ne]; omega
        clear hh hl HM
        go_enter Try.func21, Try.ntmps21
        go_wp2
        go_quiet (fail)
        go_wp2
        go_ret2
        exact ⟨⟨_, ret_nn (by rw [show (l : Int) / c = ((l / c : Nat) : Int) by simp, wrapN _ (Nat.lt_of_le_of_lt (Nat.div_le_self _ _) hl2)]) rfl⟩, _, rfl⟩
      have HD := Lib.hid hd
      have F1 : Hid (divV a b c = l / c) := by show _ = _; rw [divV_yes (by omega)]; congr 1; omega
      have F2 : Hid (divOk a b c = true) := divOk_yes (by omega)
      clear hd hh hl
      go_enter Try.func9, Try.ntmps9
      go_wp2_with (first | (go_at_call 20; refine HM.out.mono ?_; rintro e w' ⟨rfl, rfl⟩) | (go_at_call 21; refine HD.out.mono ?_; rintro e w' ⟨⟨r, rfl⟩, n, rfl⟩))
      go_ret2
      exact ⟨ret_nb (by rw [F1.out]; rfl) (by rw [F2.out]), n, rfl⟩
    · have hd := div64_any h l c hlt hl2 hc (by omega) w
      have HD := Lib.hid hd
      have e : h * 18446744073709551616 + l = a * b := by omega
      have F1 : Hid (divV a b c = (h * 18446744073709551616 + l) / c) := by show _ = _; rw [divV_yes (by omega), e]
      have F2 : Hid (divOk a b c = true) := divOk_yes (by omega)
      clear hd hh hl e
      go_enter Try.func9, Try.ntmps9
      go_wp2_with (first | (go_at_call 20; refine HM.out.mono ?_; rintro e w' ⟨rfl, rfl⟩) | (go_at_call 21; refine HD.out.mono ?_; rintro e w' ⟨⟨r, rfl⟩, rfl⟩))
      go_ret2
      exact ⟨ret_nb (by rw [F1.out]; rfl) (by rw [F2.out]), 0, rfl⟩
  · have F1 : Hid (divV a b c = 0) := divV_no (by omega)
    have F2 : Hid (divOk a b c = false) := divOk_no (by omega)
    clear hh hl
    go_enter Try.func9, Try.ntmps9
    go_wp2_with (first | (go_at_call 20; refine HM.out.mono ?_; rintro e w' ⟨rfl, rfl⟩))
    go_ret2
    exact ⟨ret_nb (by rw [F1.out]; rfl) (by rw [F2.out]), 0, rfl⟩

set_option maxHeartbeats 1000000 in
theorem rmuldiv_any (a b c : Nat) (ha : a < 18446744073709551616) (hb : b < 18446744073709551616) (hc : c < 18446744073709551616) (w : World) :
    Calls Try.prog 10 #[.int .u64 a, .int .u64 b, .int .u64 c] w fun e w' => e = .returned (.tuple #[.int .u64 (divV a b c : Nat), .bool (divOk a b c)]) ∧ w = w' := by
  have hm := product_any a b ha hb w
  obtain ⟨h, hh⟩ : ∃ h, a * b / 18446744073709551616 = h := ⟨_, rfl⟩
  obtain ⟨l, hl⟩ : ∃ l, a * b % 18446744073709551616 = l := ⟨_, rfl⟩
  rw [hh, hl] at hm
  have HM := Lib.hid hm
  clear hm
  have hl2 : l < 18446744073709551616 := by omega
  by_cases hlt : h < c
  · have F1 : Hid (divV a b c = (h * 18446744073709551616 + l) / c) := by
      have e : h * 18446744073709551616 + l = a * b := by omega
      show _ = _; rw [divV_yes (by omega), e]
    have F2 : Hid (divOk a b c = true) := divOk_yes (by omega)
    clear hh hl
    have hb1 : ((c : Int) == 0) = false := by rw [beq_eq_false_iff_ne]; omega
    have hb2 : decide ((c : Int) ≤ h) = false := decide_eq_false (by omega)
    go_enter Try.func10, Try.ntmps10
    go_wp2_with (first | (go_at_call 22; refine HM.out.mono ?_; rintro e w' ⟨rfl, rfl⟩))
    go_loop [8, 10, 11] (fun r o i => ∃ (k q t : Nat), k ≤ 64 ∧ r = .int .u64 t ∧ o = .int .u64 q ∧ i = .int .i64 (63 - (k : Int)) ∧ t < c ∧ Hid (q * c + t = h * 2 ^ k + l / 2 ^ (64 - k)) ∧ Hid (q < 2 ^ k)) (fun _ _ i => (intOf i + 1).toNat)
    case atStart => exact ⟨0, 0, h, by omega, rfl, rfl, rfl, hlt, by show _ = _; simp; omega, by show _ < _; simp⟩
    case round =>
      obtain ⟨k, q, t, hk, rfl, rfl, rfl, htc, H, hq⟩ := hrel
      by_cases hk2 : k < 64
      · have H2 := md_step hk2 H.out
        have hq2 : q < 9223372036854775808 := by
          have := Nat.pow_le_pow_right (n := 2) (by omega) (show k ≤ 63 by omega)
          have := hq.out
          omega
        have hqs : ∀ m : Nat, m ≤ 1 → Hid (2 * q + m < 2 ^ (k + 1)) := by intro m hm; show _ < _; rw [Nat.pow_succ]; have := hq.out; omega
        have hqa := hqs 0 (by omega)
        have hqb := hqs 1 (by omega)
        obtain ⟨b, hb⟩ : ∃ b, l / 2 ^ (63 - k) % 2 = b := ⟨_, rfl⟩
        have hb2 : b < 2 := by omega
        have hll : l / 2 ^ (63 - k) < 18446744073709551616 := Nat.lt_of_le_of_lt (Nat.div_le_self _ _) hl2
        have r1 : bits .and .u64 ((l : Int) / 2 ^ (63 - k)) 1 = b := by
          rw [show ((l : Int) / 2 ^ (63 - k)) = ((l / 2 ^ (63 - k) : Nat) : Int) by simp, show (1 : Int) = ((1 : Nat) : Int) from rfl, bits_and_u64_nat _ _ hll (by omega), Nat.and_one_is_mod, hb]
        have r2 : bits .or .u64 ((q : Int) * 2) 1 = 2 * (q : Int) + 1 := by
          rw [show (q : Int) * 2 = ((2 * q : Nat) : Int) by omega, show (1 : Int) = ((1 : Nat) : Int) from rfl, bits_or_u64_nat _ _ (by omega) (by omega), or_one]; omega
        rw [hb] at H2
        clear hb hll hqs
        by_cases ht : t < 9223372036854775808
        · have r3 : (t : Int) / 9223372036854775808 = 0 := by omega
          have r4 : bits .or .u64 ((t : Int) * 2) b = 2 * (t : Int) + b := by
            rw [show (t : Int) * 2 = ((2 * t : Nat) : Int) by omega, bits_or_u64_nat _ _ (by omega) (by omega), or_bit t b hb2]; omega
          by_cases hc2 : c ≤ 2 * t + b
          · have H3 : Hid _ := md_step1 H2 hc2
            have d1 : decide ((c : Int) ≤ 2 * (t : Int) + b) = true := decide_eq_true (by omega)
            clear H2
            go_wp2
            go_round
            case rel => exact ⟨k + 1, 2 * q + 1, 2 * t + b - c, by omega, by go_num, by go_num, by go_num, by omega, H3, hqb⟩
            case measure => simp [intOf]; omega
          · have H3 : Hid _ := H2
            have d1 : decide ((c : Int) ≤ 2 * (t : Int) + b) = false := decide_eq_false (by omega)
            clear H2
            go_wp2
            go_round
            case rel => exact ⟨k + 1, 2 * q, 2 * t + b, by omega, by go_num, by go_num, by go_num, by omega, H3, hqa⟩
            case measure => simp [intOf]; omega
        · have r3 : (t : Int) / 9223372036854775808 = 1 := by omega
          have H3 : Hid _ := md_step1 H2 (by omega)
          obtain ⟨t2, ht2⟩ : ∃ t2, 2 * t = t2 + 18446744073709551616 := ⟨2 * t - 18446744073709551616, by omega⟩
          have r5 : IntKind.u64.wrap ((t : Int) * 2) = 2 * ((t2 / 2 : Nat) : Int) := by rw [IntKind.wrap_u64]; omega
          have r4 : bits .or .u64 (2 * ((t2 / 2 : Nat) : Int)) b = 2 * ((t2 / 2 : Nat) : Int) + b := by
            rw [show 2 * ((t2 / 2 : Nat) : Int) = ((2 * (t2 / 2) : Nat) : Int) by omega, bits_or_u64_nat _ _ (by omega) (by omega), or_bit _ b hb2]; omega
          have r6 : IntKind.u64.wrap (2 * ((t2 / 2 : Nat) : Int) + b - c) = ((2 * t + b - c : Nat) : Int) := by rw [IntKind.wrap_u64]; omega
          have htc' : 2 * t + b - c < c := by omega
          obtain ⟨t3, ht3⟩ : ∃ t3, 2 * t + b - c = t3 := ⟨_, rfl⟩
          obtain ⟨t4, ht4⟩ : ∃ t4, t2 / 2 = t4 := ⟨_, rfl⟩
          rw [ht3] at H3 htc' r6
          rw [ht4] at r4 r5 r6
          clear H2 ht2 ht3 ht4
          go_wp2
          go_round
          case rel => exact ⟨k + 1, 2 * q + 1, t3, by omega, rfl, by go_num, by go_num, htc', H3, hqb⟩
          case measure => simp [intOf]; omega
      · obtain rfl : k = 64 := by omega
        have hfin := md_end htc H.out
        have G : Hid (divV a b c = q) := by show _ = _; rw [F1.out, hfin]
        clear hfin
        go_wp2
        go_ret2
        exact ⟨ret_nb (by rw [G.out]) (by rw [F2.out]), rfl⟩
  · have F1 : Hid (divV a b c = 0) := divV_no (by omega)
    have F2 : Hid (divOk a b c = false) := divOk_no (by omega)
    clear hh hl
    by_cases hc0 : c = 0
    · subst hc0
      go_enter Try.func10, Try.ntmps10
      go_wp2_with (first | (go_at_call 22; refine HM.out.mono ?_; rintro e w' ⟨rfl, rfl⟩))
      go_ret2
      exact ⟨ret_nb (by rw [F1.out]; rfl) (by rw [F2.out]), rfl⟩
    · have hb1 : ((c : Int) == 0) = false := by rw [beq_eq_false_iff_ne]; omega
      have hb2 : decide ((c : Int) ≤ h) = true := decide_eq_true (by omega)
      go_enter Try.func10, Try.ntmps10
      go_wp2_with (first | (go_at_call 22; refine HM.out.mono ?_; rintro e w' ⟨rfl, rfl⟩))
      go_ret2
      exact ⟨ret_nb (by rw [F1.out]; rfl) (by rw [F2.out]), rfl⟩

theorem sum_any (ao : Option Addr) (b off n cap : Nat) (f : Nat → Nat) (hn : n ≤ 9223372036854775807) (hf : ∀ j, j < n → f j < 18446744073709551616) (w : World)
    (hao : 0 < n → ao = some ⟨b, off, none⟩) (hc : ∀ j, j < n → w.cell? ⟨b, off + j, none⟩ = some (.int .u64 (f j))) :
    Calls Try.prog 12 #[.slice ao n cap] w fun e w' => e = .returned (.tuple #[.int .u64 (sumV f n : Nat), .bool (sumOk f n)]) ∧ w = w' := by
  have HC := Lib.hid hc
  have HF := Lib.hid hf
  have HA := Lib.hid hao
  clear hc hf hao
  go_enter Try.func12, Try.ntmps12
  go_wp2
  go_loop [4, 11] (fun s i => ∃ k : Nat, k ≤ n ∧ s = .int .u64 (psum f k) ∧ i = .int .i64 k ∧ psum f k < 18446744073709551616) (fun _ i => (n - intOf i).toNat)
  case atStart => exact ⟨0, Nat.zero_le _, rfl, rfl, by simp [psum]⟩
  case round =>
    obtain ⟨k, hk, rfl, rfl, hs⟩ := hrel
    by_cases hlt : k < n
    · have hcell := HC.out k hlt
      obtain rfl := HA.out (by omega)
      have hadd := add_any (psum f k) (f k) hs (HF.out k hlt)
      by_cases hok : psum f k + f k < 18446744073709551616
      · rw [addV_yes hok, addOk_yes hok] at hadd
        have HADD := Lib.hid hadd
        clear hadd
        go_wp2_with (go_at_call 14; refine (HADD.out _).mono ?_; rintro e w' ⟨rfl, rfl⟩)
        go_round
        case rel => exact ⟨k + 1, hlt, rfl, by go_num, hok⟩
        case measure => simp [intOf]; omega
      · rw [addV_no hok, addOk_no hok] at hadd
        have HADD := Lib.hid hadd
        have hbig : Hid (¬ psum f n < 18446744073709551616) := by
          have : psum f (k + 1) ≤ psum f n := psum_le f hlt
          show ¬ _; show ¬ psum f n < _; have h2 : psum f (k + 1) = psum f k + f k := rfl; omega
        clear hadd hok
        go_wp2_with (go_at_call 14; refine (HADD.out _).mono ?_; rintro e w' ⟨rfl, rfl⟩)
        go_ret2
        exact ⟨ret_nb (by rw [sumV_no hbig.out]; rfl) (by rw [sumOk_no hbig.out]), rfl⟩
    · obtain rfl : k = n := by omega
      go_wp2
      go_ret2
      exact ⟨ret_nb (by rw [sumV_yes hs]) (by rw [sumOk_yes hs]), rfl⟩

theorem rsum_any (ao : Option Addr) (b off n cap : Nat) (f : Nat → Nat) (hn : n ≤ 9223372036854775807) (hf : ∀ j, j < n → f j < 18446744073709551616) (w : World)
    (hao : 0 < n → ao = some ⟨b, off, none⟩) (hc : ∀ j, j < n → w.cell? ⟨b, off + j, none⟩ = some (.int .u64 (f j))) :
    Calls Try.prog 13 #[.slice ao n cap] w fun e w' => e = .returned (.tuple #[.int .u64 (sumV f n : Nat), .bool (sumOk f n)]) ∧ w = w' := by
  have HC := Lib.hid hc
  have HF := Lib.hid hf
  have HA := Lib.hid hao
  clear hc hf hao
  go_enter Try.func13, Try.ntmps13
  go_wp2
  go_loop [4, 11] (fun s i => ∃ k : Nat, k ≤ n ∧ s = .int .u64 (psum f k) ∧ i = .int .i64 k ∧ psum f k < 18446744073709551616) (fun _ i => (n - intOf i).toNat)
  case atStart => exact ⟨0, Nat.zero_le _, rfl, rfl, by simp [psum]⟩
  case round =>
    obtain ⟨k, hk, rfl, rfl, hs⟩ := hrel
    by_cases hlt : k < n
    · have hcell := HC.out k hlt
      obtain rfl := HA.out (by omega)
      have hadd := radd_any (psum f k) (f k) hs (HF.out k hlt)
      by_cases hok : psum f k + f k < 18446744073709551616
      · rw [addV_yes hok, addOk_yes hok] at hadd
        have HADD := Lib.hid hadd
        clear hadd
        go_wp2_with (go_at_call 16; refine (HADD.out _).mono ?_; rintro e w' ⟨rfl, rfl⟩)
        go_round
        case rel => exact ⟨k + 1, hlt, rfl, by go_num, hok⟩
        case measure => simp [intOf]; omega
      · rw [addV_no hok, addOk_no hok] at hadd
        have HADD := Lib.hid hadd
        have hbig : Hid (¬ psum f n < 18446744073709551616) := by
          have : psum f (k + 1) ≤ psum f n := psum_le f hlt
          show ¬ _; show ¬ psum f n < _; have h2 : psum f (k + 1) = psum f k + f k := rfl; omega
        clear hadd hok
        go_wp2_with (go_at_call 16; refine (HADD.out _).mono ?_; rintro e w' ⟨rfl, rfl⟩)
        go_ret2
        exact ⟨ret_nb (by rw [sumV_no hbig.out]; rfl) (by rw [sumOk_no hbig.out]), rfl⟩
    · obtain rfl : k = n := by omega
      go_wp2
      go_ret2
      exact ⟨ret_nb (by rw [sumV_yes hs]) (by rw [sumOk_yes hs]), rfl⟩

end Go.Proofs.Ytfinihdlkgnccaa
