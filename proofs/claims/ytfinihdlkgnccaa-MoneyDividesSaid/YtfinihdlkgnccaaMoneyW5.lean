/- The statements MoneyUndoes, MoneyExchanges, MoneyBasics and MoneyDivides, walked. -/
import Derived.Test.YtfinihdlkgnccaaMoneyW4
namespace Go.Proofs.Ytfinihdlkgnccaa
open Go.RowKit
open MM
set_option linter.unusedVariables false

theorem undoes_any (a b : Nat) (ha : a < 18446744073709551616) (hb : b < 18446744073709551616) (w : World) :
    Calls Try.prog 7 #[.int .u64 a, .int .u64 b] w fun e w' => e = .returned (.bool true) ∧ Below w.heap.size w w' := by
  have HK := Lib.hid known_any
  have h1 := add_any a b ha hb
  have h2 := sub_any (18446744073709551615 - a) b (by omega) hb
  have hc : ((18446744073709551615 - a : Nat) : Int) = 18446744073709551615 - (a : Int) := by omega
  rw [hc] at h2
  clear hc
  by_cases h : a + b < 18446744073709551616
  · have h3 := sub_any (a + b) b h hb
    rw [subV_yes (by omega), subOk_yes (by omega), Nat.add_sub_cancel] at h3
    rw [addV_yes h, addOk_yes h] at h1
    rw [subV_yes (by omega), subOk_yes (by omega)] at h2
    have H1 := Lib.hid h1
    have H2 := Lib.hid h2
    have H3 := Lib.hid h3
    clear h1 h2 h3
    go_enter Try.func7, Try.ntmps7
    go_wp2_with fail
    refine (H1.out _).mono ?_; rintro e w' ⟨rfl, rfl⟩
    go_wp2_with fail
    refine (H2.out _).mono ?_; rintro e w' ⟨rfl, rfl⟩
    go_wp2_with fail
    refine (H3.out _).mono ?_; rintro e w' ⟨rfl, rfl⟩
    go_wp2_with fail
    refine (HK.out _).mono ?_; rintro e w' ⟨rfl, hb⟩
    go_wp2_with fail
    go_ret
    exact ⟨rfl, hb⟩
  · rw [addV_no h, addOk_no h] at h1
    rw [subV_no (by omega), subOk_no (by omega)] at h2
    have H1 := Lib.hid h1
    have H2 := Lib.hid h2
    clear h1 h2
    go_enter Try.func7, Try.ntmps7
    go_wp2_with fail
    refine (H1.out _).mono ?_; rintro e w' ⟨rfl, rfl⟩
    go_wp2_with fail
    refine (H2.out _).mono ?_; rintro e w' ⟨rfl, rfl⟩
    go_wp2_with fail
    refine (HK.out _).mono ?_; rintro e w' ⟨rfl, hb⟩
    go_wp2_with fail
    go_ret
    exact ⟨rfl, hb⟩

theorem exchanges_any (a b c : Nat) (ha : a < 18446744073709551616) (hb : b < 18446744073709551616) (hc : c < 18446744073709551616) (w : World) :
    Calls Try.prog 5 #[.int .u64 a, .int .u64 b, .int .u64 c] w fun e w' => e = .returned (.bool true) ∧ Below w.heap.size w w' := by
  have HK := Lib.hid known_any
  have h1 := muldiv_any a b c ha hb hc
  have h2 := muldiv_any b a c hb ha hc
  have h3 := muldiv_any a b b ha hb hb
  have ex : divV b a c = divV a b c := by unfold divV divOk; rw [Nat.mul_comm]
  have ey : divOk b a c = divOk a b c := by unfold divOk; rw [Nat.mul_comm]
  rw [ex, ey] at h2
  clear ex ey
  generalize divV a b c = x at h1 h2
  generalize divOk a b c = i at h1 h2
  have H1 := Lib.hid h1
  have H2 := Lib.hid h2
  clear h1 h2
  by_cases h0 : b = 0
  · subst h0
    rw [divV_no (by omega), divOk_no (by omega)] at h3
    have H3 := Lib.hid h3
    clear h3
    cases i
    all_goals
      go_enter Try.func5, Try.ntmps5
      go_wp2_with fail
      refine (H1.out _).mono ?_; rintro e w' ⟨rfl, n1, rfl⟩
      go_wp2_with fail
      refine (H2.out _).mono ?_; rintro e w' ⟨rfl, n2, rfl⟩
      go_wp2_with fail
      refine (H3.out _).mono ?_; rintro e w' ⟨rfl, n3, rfl⟩
      go_wp2_with fail
      refine (HK.out _).mono ?_; rintro e w' ⟨rfl, hb⟩
      go_wp2_with fail
      go_ret
      exact ⟨rfl, (below_drewN (Below.refl _ _) _).trans hb⟩
  · have hlt : a * b / 18446744073709551616 < b := by
      rw [Nat.div_lt_iff_lt_mul (by omega), Nat.mul_comm b]
      exact Nat.mul_lt_mul_of_pos_right ha (by omega)
    rw [divV_yes hlt, divOk_yes hlt, Nat.mul_div_cancel a (Nat.pos_of_ne_zero h0)] at h3
    have H3 := Lib.hid h3
    clear h3 hlt
    have hb1 : ((b : Int) == 0) = false := by rw [beq_eq_false_iff_ne]; omega
    have hb2 : decide ((0 : Int) < b) = true := decide_eq_true (by omega)
    cases i
    all_goals
      go_enter Try.func5, Try.ntmps5
      go_wp2_with fail
      refine (H1.out _).mono ?_; rintro e w' ⟨rfl, n1, rfl⟩
      go_wp2_with fail
      refine (H2.out _).mono ?_; rintro e w' ⟨rfl, n2, rfl⟩
      go_wp2_with fail
      refine (H3.out _).mono ?_; rintro e w' ⟨rfl, n3, rfl⟩
      go_wp2_with fail
      refine (HK.out _).mono ?_; rintro e w' ⟨rfl, hb⟩
      go_wp2_with fail
      go_ret
      exact ⟨rfl, (below_drewN (Below.refl _ _) _).trans hb⟩

theorem max_xor (a : Nat) (ha : a < 18446744073709551616) : bits .xor .u64 IntKind.u64.max (a : Int) = ((18446744073709551615 - a : Nat) : Int) := by
  rw [show IntKind.u64.max = ((18446744073709551615 : Nat) : Int) from rfl, bits_xor_u64_nat _ _ (by omega) ha]
  congr 1
  have := BitVec.toNat_not (x := BitVec.ofNat 64 a)
  have h2 : (BitVec.allOnes 64 ^^^ BitVec.ofNat 64 a) = ~~~ (BitVec.ofNat 64 a) := by rw [BitVec.xor_comm, BitVec.xor_allOnes]
  have h3 := congrArg BitVec.toNat h2
  rw [this, BitVec.toNat_xor, BitVec.toNat_allOnes, BitVec.toNat_ofNat, Nat.mod_eq_of_lt (by omega)] at h3
  simpa using h3

set_option maxRecDepth 100000 in
set_option maxHeartbeats 2000000 in
theorem basics_any (a b : Nat) (ha : a < 18446744073709551616) (hb : b < 18446744073709551616) (w : World) :
    Calls Try.prog 8 #[.int .u64 a, .int .u64 b] w fun e w' => e = .returned (.bool true) ∧ Below w.heap.size w w' := by
  have HK := Lib.hid known_any
  have e1 := max_xor a ha
  obtain ⟨c, hc⟩ : ∃ c, 18446744073709551615 - a = c := ⟨_, rfl⟩
  have hc2 : c < 18446744073709551616 := by omega
  rw [hc] at e1
  obtain ⟨a1, ha1⟩ : ∃ c, a / 4294967296 = c := ⟨_, rfl⟩
  obtain ⟨b1, hb1⟩ : ∃ c, b / 4294967296 = c := ⟨_, rfl⟩
  have e2 : (a : Int) / 4294967296 = a1 := by omega
  have e3 : (b : Int) / 4294967296 = b1 := by omega
  have ha2 : a1 < 18446744073709551616 := by omega
  have hb2 : b1 < 18446744073709551616 := by omega
  clear hc ha1 hb1
  go_enter Try.func8, Try.ntmps8
  go_wp2_with fail
  clear e1 e2 e3
  have i0 : ∀ w, (Instr.index 42 (.agg #[.int .u64 a, .int .u64 b, .int .u64 a, .int .u64 c, .int .u64 a1, .int .u64 b1]) (.int .i64 0)).run Try.prog w = .ok (.agg #[.int .u64 a, .int .u64 b]) w := fun _ => by kernel_rfl
  have i1 : ∀ w, (Instr.index 42 (.agg #[.int .u64 a, .int .u64 b, .int .u64 a, .int .u64 c, .int .u64 a1, .int .u64 b1]) (.int .i64 1)).run Try.prog w = .ok (.agg #[.int .u64 a, .int .u64 c]) w := fun _ => by kernel_rfl
  have i2 : ∀ w, (Instr.index 42 (.agg #[.int .u64 a, .int .u64 b, .int .u64 a, .int .u64 c, .int .u64 a1, .int .u64 b1]) (.int .i64 2)).run Try.prog w = .ok (.agg #[.int .u64 a1, .int .u64 b1]) w := fun _ => by kernel_rfl
  go_loopw [32] (fun i wr => ∃ k : Nat, k ≤ 3 ∧ i = .int .i64 k ∧ Below w.heap.size w wr) (fun i _ => (3 - intOf i).toNat)
  case atStart => exact ⟨0, by omega, rfl, Below.refl _ _⟩
  case round =>
    obtain ⟨k, hk, rfl, hbel⟩ := hrel
    have hsz := hbel.size
    by_cases h3 : k = 3
    · subst h3
      go_wp2_with fail
      refine (HK.out _).mono ?_; rintro e w' ⟨rfl, hb⟩
      go_wp2_with fail
      go_ret
      exact ⟨rfl, hbel.trans (hb.mono (by omega))⟩
    · obtain ⟨x, y, hx, hy, hi⟩ : ∃ x y : Nat, x < 18446744073709551616 ∧ y < 18446744073709551616 ∧ ∀ w, (Instr.index 42 (.agg #[.int .u64 a, .int .u64 b, .int .u64 a, .int .u64 c, .int .u64 a1, .int .u64 b1]) (.int .i64 k)).run Try.prog w = .ok (.agg #[.int .u64 x, .int .u64 y]) w := by
        have : k = 0 ∨ k = 1 ∨ k = 2 := by omega
        rcases this with rfl | rfl | rfl
        · exact ⟨a, b, ha, hb, i0⟩
        · exact ⟨a, c, ha, hc2, i1⟩
        · exact ⟨a1, b1, ha2, hb2, i2⟩
      have g1 := add_any x y hx hy
      have g2 := radd_any x y hx hy
      have g3 := sub_any x y hx hy
      have g4 := rsub_any x y hx hy
      have g5 := mul_any x y hx hy
      have g6 := rmul_any x y hx hy
      generalize addV x y = s1 at *
      generalize addOk x y = s2 at *
      generalize subV x y = s3 at *
      generalize subOk x y = s4 at *
      generalize mulV x y = s5 at *
      generalize mulOk x y = s6 at *
      have G1 := Lib.hid g1
      have G2 := Lib.hid g2
      have G3 := Lib.hid g3
      have G4 := Lib.hid g4
      have G5 := Lib.hid g5
      have G6 := Lib.hid g6
      clear g1 g2 g3 g4 g5 g6 i0 i1 i2
      have hlt : k < 3 := by omega
      go_wp2_with fail
      refine (G1.out _).mono ?_; rintro e w' ⟨rfl, rfl⟩
      go_wp2_with fail
      refine (G2.out _).mono ?_; rintro e w' ⟨rfl, rfl⟩
      go_wp2_with fail
      refine (G3.out _).mono ?_; rintro e w' ⟨rfl, rfl⟩
      go_wp2_with fail
      refine (G4.out _).mono ?_; rintro e w' ⟨rfl, rfl⟩
      go_wp2_with fail
      refine (G5.out _).mono ?_; rintro e w' ⟨rfl, rfl⟩
      go_wp2_with fail
      refine (G6.out _).mono ?_; rintro e w' ⟨rfl, rfl⟩
      go_wp2_with fail
      go_roundw
      case rel => exact ⟨k + 1, by omega, by go_num, (hbel.alloc (by omega) _)⟩
      case measure => simp [intOf]; omega
set_option maxRecDepth 100000 in
set_option maxHeartbeats 2000000 in
theorem divides_any (a b c k : Nat) (ha : a < 18446744073709551616) (hb : b < 18446744073709551616) (hc : c < 18446744073709551616) (hk : k < 256) (w : World) :
    Calls Try.prog 3 #[.int .u64 a, .int .u64 b, .int .u64 c, .int .u8 k] w fun e w' => e = .returned (.bool true) ∧ Below w.heap.size w w' := by
  have HK := Lib.hid known_any
  obtain ⟨m, hm⟩ : ∃ m, k % 64 = m := ⟨_, rfl⟩
  have e0 : (k : Int) % 64 = m := by omega
  have hm2 : m < 64 := by omega
  obtain ⟨c1, hc1⟩ : ∃ d, c / 2 ^ m = d := ⟨_, rfl⟩
  obtain ⟨b1, hb1⟩ : ∃ d, b / 2 ^ m = d := ⟨_, rfl⟩
  have e2 : (c : Int) / 2 ^ m = c1 := by rw [← hc1]; simp
  have e3 : (b : Int) / 2 ^ m = b1 := by rw [← hb1]; simp
  have hc2 : c1 < 18446744073709551616 := by rw [← hc1]; exact Nat.lt_of_le_of_lt (Nat.div_le_self _ _) hc
  have hb2 : b1 < 18446744073709551616 := by rw [← hb1]; exact Nat.lt_of_le_of_lt (Nat.div_le_self _ _) hb
  clear hc1 hb1 hm
  go_enter Try.func3, Try.ntmps3
  go_wp2_with fail
  clear e0 e2 e3
  have i0 : ∀ w, (Instr.index 24 (.agg #[.int .u64 a, .int .u64 b, .int .u64 c, .int .u64 a, .int .u64 b, .int .u64 c1, .int .u64 a, .int .u64 b1, .int .u64 c, .int .u64 a, .int .u64 c, .int .u64 c]) (.int .i64 0)).run Try.prog w = .ok (.agg #[.int .u64 a, .int .u64 b, .int .u64 c]) w := fun _ => by kernel_rfl
  have i1 : ∀ w, (Instr.index 24 (.agg #[.int .u64 a, .int .u64 b, .int .u64 c, .int .u64 a, .int .u64 b, .int .u64 c1, .int .u64 a, .int .u64 b1, .int .u64 c, .int .u64 a, .int .u64 c, .int .u64 c]) (.int .i64 1)).run Try.prog w = .ok (.agg #[.int .u64 a, .int .u64 b, .int .u64 c1]) w := fun _ => by kernel_rfl
  have i2 : ∀ w, (Instr.index 24 (.agg #[.int .u64 a, .int .u64 b, .int .u64 c, .int .u64 a, .int .u64 b, .int .u64 c1, .int .u64 a, .int .u64 b1, .int .u64 c, .int .u64 a, .int .u64 c, .int .u64 c]) (.int .i64 2)).run Try.prog w = .ok (.agg #[.int .u64 a, .int .u64 b1, .int .u64 c]) w := fun _ => by kernel_rfl
  have i3 : ∀ w, (Instr.index 24 (.agg #[.int .u64 a, .int .u64 b, .int .u64 c, .int .u64 a, .int .u64 b, .int .u64 c1, .int .u64 a, .int .u64 b1, .int .u64 c, .int .u64 a, .int .u64 c, .int .u64 c]) (.int .i64 3)).run Try.prog w = .ok (.agg #[.int .u64 a, .int .u64 c, .int .u64 c]) w := fun _ => by kernel_rfl
  go_loopw [39] (fun i wr => ∃ k : Nat, k ≤ 4 ∧ i = .int .i64 k ∧ Below w.heap.size w wr) (fun i _ => (4 - intOf i).toNat)
  case atStart => exact ⟨0, by omega, rfl, Below.refl _ _⟩
  case round =>
    obtain ⟨k, hk, rfl, hbel⟩ := hrel
    have hsz := hbel.size
    by_cases h3 : k = 4
    · subst h3
      go_wp2_with fail
      refine (HK.out _).mono ?_; rintro e w' ⟨rfl, hb⟩
      go_wp2_with fail
      go_ret
      exact ⟨rfl, hbel.trans (hb.mono (by omega))⟩
    · obtain ⟨x, y, z, hx, hy, hz, hi⟩ : ∃ x y z : Nat, x < 18446744073709551616 ∧ y < 18446744073709551616 ∧ z < 18446744073709551616 ∧ ∀ w, (Instr.index 24 (.agg #[.int .u64 a, .int .u64 b, .int .u64 c, .int .u64 a, .int .u64 b, .int .u64 c1, .int .u64 a, .int .u64 b1, .int .u64 c, .int .u64 a, .int .u64 c, .int .u64 c]) (.int .i64 k)).run Try.prog w = .ok (.agg #[.int .u64 x, .int .u64 y, .int .u64 z]) w := by
        have : k = 0 ∨ k = 1 ∨ k = 2 ∨ k = 3 := by omega
        rcases this with rfl | rfl | rfl | rfl
        · exact ⟨a, b, c, ha, hb, hc, i0⟩
        · exact ⟨a, b, c1, ha, hb, hc2, i1⟩
        · exact ⟨a, b1, c, ha, hb2, hc, i2⟩
        · exact ⟨a, c, c, ha, hc, hc, i3⟩
      have g1 := muldiv_any x y z hx hy hz
      have g2 := rmuldiv_any x y z hx hy hz
      generalize divV x y z = s1 at *
      generalize divOk x y z = s2 at *
      have G1 := Lib.hid g1
      have G2 := Lib.hid g2
      clear g1 g2 i0 i1 i2 i3
      have hlt : k < 4 := by omega
      go_wp2_with fail
      refine (G1.out _).mono ?_; rintro e w' ⟨rfl, n, rfl⟩
      go_wp2_with fail
      refine (G2.out _).mono ?_; rintro e w' ⟨rfl, rfl⟩
      go_wp2_with fail
      go_roundw
      case rel => exact ⟨k + 1, by omega, by go_num, by first | exact below_drewN (hbel.alloc (by omega) _) _ | exact (below_drewN hbel _).alloc (by simp; omega) _⟩
      case measure => simp [intOf]; omega
end Go.Proofs.Ytfinihdlkgnccaa
