/- math/bits.Div64 divides 128 bits by 64, for every divisor greater than the upper half. -/
import Derived.Test.YtfinihdlkgnccaaMoneyW1
import Derived.Test.YtfinihdlkgnccaaLen64
import Derived.Deep.CutBlock
import Derived.Deep.DeepCutAuto
namespace Go.Proofs.Ytfinihdlkgnccaa
open Go.RowKit
open MM
set_option linter.unusedVariables false

theorem bl_spec (f x : Nat) (h : x < 2 ^ f) : x < 2 ^ Lib.bitLenAux f x ∧ Lib.bitLenAux f x ≤ f ∧ (0 < x → 2 ^ Lib.bitLenAux f x ≤ 2 * x) := by
  induction f generalizing x with
  | zero => simp at h; subst h; simp [Lib.bitLenAux]
  | succ f ih =>
    unfold Lib.bitLenAux
    by_cases h0 : x = 0
    · subst h0; simp
    · rw [if_neg h0]
      have h2 : x / 2 < 2 ^ f := by rw [Nat.pow_succ] at h; omega
      obtain ⟨a, b, c⟩ := ih (x / 2) h2
      have e : 2 ^ (1 + Lib.bitLenAux f (x / 2)) = 2 * 2 ^ Lib.bitLenAux f (x / 2) := by rw [Nat.add_comm, Nat.pow_succ, Nat.mul_comm]
      rw [e]
      refine ⟨by omega, by omega, fun _ => ?_⟩
      by_cases h1 : x / 2 = 0
      · rw [h1]
        have : x = 1 := by omega
        subst this
        cases f <;> simp [Lib.bitLenAux]
      · have := c (by omega); omega

def lz (y : Nat) : Nat := 64 - Lib.bitLenAux 64 y
theorem lz_spec (y : Nat) (hy : y < 18446744073709551616) (h0 : 0 < y) : lz y ≤ 63 ∧ 9223372036854775808 ≤ y * 2 ^ lz y ∧ y * 2 ^ lz y < 18446744073709551616 := by
  have hb := bl_spec 64 y hy
  unfold lz
  generalize Lib.bitLenAux 64 y = b at *
  obtain ⟨b1, b2, b3⟩ := hb
  have b3 := b3 h0
  have hb0 : b ≠ 0 := by intro h; subst h; simp at b1; omega
  have e : 2 ^ b * 2 ^ (64 - b) = 18446744073709551616 := by rw [← Nat.pow_add, show b + (64 - b) = 64 by omega]
  have hp : 0 < 2 ^ (64 - b) := Nat.pow_pos (by omega)
  have l1 := Nat.mul_lt_mul_of_pos_right b1 hp
  have l2 := Nat.mul_le_mul_right (2 ^ (64 - b)) b3
  rw [Nat.mul_assoc] at l2
  omega
theorem lz_any (y : Nat) (hy : y < 18446744073709551616) (h0 : 0 < y) (w : World) :
    Calls Try.prog 25 #[.int .u64 y] w fun e w' => e = .returned (.int .i64 (lz y)) ∧ w = w' := by
  have hs := lz_spec y hy h0
  have hb := bl_spec 64 y hy
  have hc : Calls Try.prog 26 #[.int .u64 y] w fun e w' => e = .returned (.int .i64 (Lib.bitLenAux 64 y)) ∧ w' = w := by
    have := len64_any y w (by omega) (by omega)
    rw [show (y : Int).toNat = y by omega] at this
    exact this
  unfold lz at *
  generalize Lib.bitLenAux 64 y = b at *
  obtain ⟨b1, b2, b3⟩ := hb
  have HC := Lib.hid hc
  clear hc b1 b3 hs
  go_enter Try.func25, Try.ntmps25
  go_wp2_with (go_at_call 26; refine HC.out.mono ?_; rintro e w' ⟨rfl, rfl⟩)
  go_ret
  exact ⟨ret_n (by omega), rfl⟩

theorem or_shift (a b s : Nat) (h63 : s ≤ 63) (ha : a * 2 ^ s < 18446744073709551616) (hb : b < 2 ^ s) : bits .or .u64 (IntKind.u64.wrap ((a : Int) * 2 ^ s)) (b : Int) = ((a * 2 ^ s + b : Nat) : Int) := by
  have hs : 2 ^ s ≤ 18446744073709551616 ∨ a = 0 := by
    rcases Nat.eq_zero_or_pos a with h | h
    · exact .inr h
    · left
      have := Nat.mul_le_mul_right (2 ^ s) h
      omega
  rw [show ((a : Int) * 2 ^ s) = ((a * 2 ^ s : Nat) : Int) by simp, wrapN _ ha]
  rcases hs with hs | hs
  · rw [bits_or_u64_nat _ _ ha (by omega), Nat.mul_comm a, ← Nat.two_pow_add_eq_or_of_lt hb]
  · subst hs
    rw [Nat.zero_mul, Nat.zero_add]
    by_cases hb2 : b < 18446744073709551616
    · rw [bits_or_u64_nat _ _ (by omega) hb2]; simp
    · have : 2 ^ s ≤ 2 ^ 63 := Nat.pow_le_pow_right (by omega) h63
      omega

set_option maxRecDepth 100000 in
set_option maxHeartbeats 2000000 in
theorem div64_any (hi lo y : Nat) (h1 : hi < y) (hlo : lo < 18446744073709551616) (hy : y < 18446744073709551616) (h0 : 0 < hi) (w : World) :
    Calls Try.prog 21 #[.int .u64 hi, .int .u64 lo, .int .u64 y] w fun e w' => (∃ r : Int, e = .returned (.tuple #[.int .u64 ((hi * 18446744073709551616 + lo) / y : Nat), .int .u64 r])) ∧ w = w' := by
  have hl := lz_any y hy (by omega) w
  obtain ⟨hs1, hs2, hs3⟩ := lz_spec y hy (by omega)
  obtain ⟨s, hs⟩ : ∃ s, lz y = s := ⟨_, rfl⟩
  rw [hs] at hs1 hs2 hs3 hl
  clear hs
  have HL := Lib.hid hl
  clear hl
  have hb1 : ((y : Int) == 0) = false := by rw [beq_eq_false_iff_ne]; omega
  have hb2 : ¬ y ≤ hi := by omega
  have hb3 : ((hi : Int) == 0) = false := by rw [beq_eq_false_iff_ne]; omega
  obtain ⟨Y, hY⟩ : ∃ Y, y * 2 ^ s = Y := ⟨_, rfl⟩
  rw [hY] at hs2 hs3
  obtain ⟨u, L, hu, hL, hu1, hu2, huY, hq⟩ := div_setup h1 hlo hs1 hY hs3
  have hL2 : L < 18446744073709551616 := by omega
  have e1 : IntKind.u64.wrap ((y : Int) * 2 ^ s) = Y := by
    rw [show ((y : Int) * 2 ^ s) = ((y * 2 ^ s : Nat) : Int) by simp, hY, wrapN Y hs3]
  have e4 : bits .or .u64 (IntKind.u64.wrap ((hi : Int) * 2 ^ s)) ((lo : Int) / 2 ^ (64 - s)) = u := by
    rw [show ((lo : Int) / 2 ^ (64 - s)) = ((lo / 2 ^ (64 - s) : Nat) : Int) by simp, or_shift _ _ _ hs1 hu1 hu2, hu]
  have e5 : IntKind.u64.wrap ((lo : Int) * 2 ^ s) = L := by
    rw [show ((lo : Int) * 2 ^ s) = ((lo * 2 ^ s : Nat) : Int) by simp, wrapM, hL]
  clear hY hu hL hu1 hu2
  obtain ⟨yn1, hyn1⟩ : ∃ n, Y / 4294967296 = n := ⟨_, rfl⟩
  obtain ⟨yn0, hyn0⟩ : ∃ n, Y % 4294967296 = n := ⟨_, rfl⟩
  obtain ⟨un1, hun1⟩ : ∃ n, L / 4294967296 = n := ⟨_, rfl⟩
  obtain ⟨un0, hun0⟩ : ∃ n, L % 4294967296 = n := ⟨_, rfl⟩
  have e2 : (Y : Int) / 4294967296 = yn1 := by rw [divN, hyn1]
  have e3 : bits .and .u64 (Y : Int) 4294967295 = yn0 := by rw [maskN Y hs3, hyn0]
  have e6 : (L : Int) / 4294967296 = un1 := by rw [divN, hun1]
  have e7 : bits .and .u64 (L : Int) 4294967295 = un0 := by rw [maskN L hL2, hun0]
  have n1 : 2147483648 ≤ yn1 := by omega
  have n2 : yn1 < 4294967296 := by omega
  have n3 : yn0 < 4294967296 := by omega
  have n4 : un1 < 4294967296 := by omega
  have n5 : un0 < 4294967296 := by omega
  have hYe : Y = yn1 * 4294967296 + yn0 := by omega
  have hLe : L = un1 * 4294967296 + un0 := by omega
  clear hyn1 hyn0 hun1 hun0
  obtain ⟨q1, hq1⟩ : ∃ n, u / yn1 = n := ⟨_, rfl⟩
  obtain ⟨m1, hm1⟩ : ∃ n, q1 * yn1 = n := ⟨_, rfl⟩
  have hm1u : m1 ≤ u ∧ u < m1 + yn1 := by
    have a := Nat.div_add_mod u yn1
    have b := Nat.mod_lt u (show 0 < yn1 by omega)
    rw [hq1, Nat.mul_comm, hm1] at a; omega
  obtain ⟨g1, g2⟩ := hm1u
  have e8 : (u : Int) / yn1 = q1 := by rw [← hq1]; simp
  have e9 : (q1 : Int) * yn1 = m1 := by rw [← hm1]; simp
  have hq1K : q1 ≤ 4294967297 := by rw [← hq1]; exact q_start (by omega) n3 (by omega) (by rw [← hYe]; exact huY)
  have hp : 0 < yn1 * 4294967296 := by omega
  obtain ⟨D, hD⟩ : ∃ n, (u * 4294967296 + un1) / Y = n := ⟨_, rfl⟩
  have hDK : D < 4294967296 := by rw [← hD]; exact digit_lt huY n4
  have HD := Lib.hid hD
  have HY := Lib.hid hYe
  have HLe := Lib.hid hLe
  have HQ := Lib.hid hq
  have HM := Lib.hid hm1
  have HHP := Lib.hid hp
  clear hq1 hm1 hq hYe hLe hD hp
  have hz : ((yn1 : Int) == 0) = false := by rw [beq_eq_false_iff_ne]; omega
  go_enter Try.func21, Try.ntmps21
  go_upto_block 0 with (go_at_call 25; refine HL.out.mono ?_; rintro e w' ⟨rfl, rfl⟩)
  go_cut [15] (fun v wx => v = .int .u64 D ∧ w = wx)
  case first =>
    have A1 : Hid (q1 * yn1 + (u - m1) = u ∧ D ≤ q1) := ⟨by rw [HM.out]; omega, by rw [← HD.out, HY.out]; exact up (by omega) (show q1 * yn1 + (u - m1) = u by rw [HM.out]; omega) (by omega) n4⟩
    clear e1 e2 e3 e4 e5 e6 e7 hb1 hb2 hb3 hs2 h1
    go_wp2
    go_loop [15, 16] (fun v r => ∃ q k : Nat, v = .int .u64 q ∧ r = .int .u64 k ∧ Hid (q * yn1 + k = u ∧ D ≤ q) ∧ k < 4294967296 ∧ q ≤ 4294967297) (fun v _ => (intOf v).toNat)
    case atStart => exact ⟨q1, u - m1, rfl, by go_num, A1, by omega, hq1K⟩
    case round =>
      obtain ⟨q, k, rfl, rfl, H, hk, hqq⟩ := hrel
      clear A1 e8 e9 g1 g2
      by_cases c1 : 4294967296 ≤ q
      · have d1 : decide ((4294967296 : Int) ≤ (q : Int)) = true := decide_eq_true (by omega)
        have hq0 : 1 ≤ q := by omega
        have hst := stepdown (show 1 ≤ q by omega) H.out.1
        have hDq : D ≤ q - 1 := by omega
        have B : Hid ((q - 1) * yn1 + (k + yn1) = u ∧ D ≤ q - 1) := ⟨hst, hDq⟩
        clear hst
        by_cases c2 : 4294967296 ≤ k + yn1
        · have hb := broken (un1 := un1) HHP.out n3 B.out.1 c2 (by omega)
          rw [← HY.out, HD.out] at hb
          have C : Hid (q - 1 = D) := by show q - 1 = D; omega
          have d2 : decide ((4294967296 : Int) ≤ (k : Int) + yn1) = true := decide_eq_true (by omega)
          clear c1 c2 hb; try clear c3
          go_wp2
          go_meet
          exact ⟨by rw [← C.out]; go_num, rfl⟩
        · have d2 : decide ((4294967296 : Int) ≤ (k : Int) + yn1) = false := decide_eq_false (by omega)
          have C2 := Lib.hid c2
          have C1 := Lib.hid c1
          clear c1 c2; try clear c3
          go_wp2
          go_round
          case rel => exact ⟨q - 1, k + yn1, by go_num, by go_num, B, by have := C2.out; omega, by omega⟩
          case measure => simp [intOf]; omega
      · obtain ⟨p, hp⟩ : ∃ p, q * yn0 = p := ⟨_, rfl⟩
        have hpl : p ≤ 18446744065119617025 := by rw [← hp]; exact Lib.half_mul_le (by omega) (by omega)
        have ep : (q : Int) * yn0 = p := by rw [← hp]; simp
        have d1 : decide ((4294967296 : Int) ≤ (q : Int)) = false := decide_eq_false (by omega)
        by_cases c3 : k * 4294967296 + un1 < p
        · have d3 : decide ((4294967296 : Int) * (k : Int) + un1 < (p : Int)) = true := decide_eq_true (by omega)
          have hmo := more (un1 := un1) HHP.out H.out.1 (by rw [hp]; exact c3)
          rw [← HY.out, HD.out] at hmo
          obtain ⟨hDq, hq1'⟩ := hmo
          have hst := stepdown hq1' H.out.1
          have B : Hid ((q - 1) * yn1 + (k + yn1) = u ∧ D ≤ q - 1) := ⟨hst, hDq⟩
          clear hst hp
          by_cases c2 : 4294967296 ≤ k + yn1
          · have hb := broken (un1 := un1) HHP.out n3 B.out.1 c2 (by omega)
            rw [← HY.out, HD.out] at hb
            have C : Hid (q - 1 = D) := by show q - 1 = D; omega
            have d2 : decide ((4294967296 : Int) ≤ (k : Int) + yn1) = true := decide_eq_true (by omega)
            clear c1 c2 hb; try clear c3
            go_wp2
            go_meet
            exact ⟨by rw [← C.out]; go_num, rfl⟩
          · have d2 : decide ((4294967296 : Int) ≤ (k : Int) + yn1) = false := decide_eq_false (by omega)
            have C2 := Lib.hid c2
            have C1 := Lib.hid c1
            clear c1 c2; try clear c3
            go_wp2
            go_round
            case rel => exact ⟨q - 1, k + yn1, by go_num, by go_num, B, by have := C2.out; omega, by omega⟩
            case measure => simp [intOf]; omega
        · have d3 : decide ((4294967296 : Int) * (k : Int) + un1 < (p : Int)) = false := decide_eq_false (by omega)
          have hb := down (un1 := un1) HHP.out H.out.1 (by rw [hp]; omega)
          rw [← HY.out, HD.out] at hb
          have C : Hid (q = D) := by have := H.out.2; show q = D; omega
          clear hp hb c1 c3
          go_wp2
          go_meet
          exact ⟨by rw [C.out], rfl⟩
  case rest =>
    obtain ⟨rfl, rfl⟩ := hcut
    clear e1 e2 e3 e4 e5 e6 e7 hb1 hb2 hb3 hs2 h1 e8 e9
    obtain ⟨v, hv⟩ : ∃ v, u * 4294967296 + un1 - D * Y = v := ⟨_, rfl⟩
    have hvY : v < Y := by rw [← hv, ← HD.out]; exact mod_lt' (by omega)
    have hDY : D * Y ≤ u * 4294967296 + un1 := by rw [← HD.out]; exact Nat.div_mul_le_self _ _
    have f1 : IntKind.u64.wrap (IntKind.u64.wrap (IntKind.u64.wrap ((u : Int) * 4294967296) + un1) - IntKind.u64.wrap ((D : Int) * Y)) = v := by
      rw [mulN D Y]
      generalize D * Y = dy at *
      simp only [IntKind.wrap_u64]
      omega
    obtain ⟨q2, hq2⟩ : ∃ n, v / yn1 = n := ⟨_, rfl⟩
    obtain ⟨m2, hm2⟩ : ∃ n, q2 * yn1 = n := ⟨_, rfl⟩
    have hm2u : m2 ≤ v ∧ v < m2 + yn1 := by
      have a := Nat.div_add_mod v yn1
      have b := Nat.mod_lt v (show 0 < yn1 by omega)
      rw [hq2, Nat.mul_comm, hm2] at a; omega
    obtain ⟨g3, g4⟩ := hm2u
    have e8 : (v : Int) / yn1 = q2 := by rw [← hq2]; simp
    have e9 : (q2 : Int) * yn1 = m2 := by rw [← hm2]; simp
    have hq2K : q2 ≤ 4294967297 := by rw [← hq2]; exact q_start (by omega) n3 (by omega) (by rw [← HY.out]; exact hvY)
    obtain ⟨E, hE⟩ : ∃ n, (v * 4294967296 + un0) / Y = n := ⟨_, rfl⟩
    have hEK : E < 4294967296 := by rw [← hE]; exact digit_lt hvY n5
    have HE := Lib.hid hE
    have A2 : Hid (q2 * yn1 + (v - m2) = v ∧ E ≤ q2) := ⟨by rw [hm2]; omega, by rw [← hE, HY.out]; exact up (by omega) (show q2 * yn1 + (v - m2) = v by rw [hm2]; omega) (by omega) n5⟩
    have fin : Hid ((hi * 18446744073709551616 + lo) / y = D * 4294967296 + E) := by
      show _ = _
      rw [HQ.out, HLe.out, show u * 18446744073709551616 + (un1 * 4294967296 + un0) = u * (4294967296 * 4294967296) + un1 * 4294967296 + un0 by omega, quot (by omega), HD.out, hv, hE]
    clear hm2 hq2 hE hv hDY
    go_upto_block 2 with (fail)
    go_cut [18] (fun v wx => v = .int .u64 E ∧ w = wx)
    case first =>
      go_wp2
      go_loop [18, 16] (fun a r => ∃ q k : Nat, a = .int .u64 q ∧ r = .int .u64 k ∧ Hid (q * yn1 + k = v ∧ E ≤ q) ∧ k < 4294967296 ∧ q ≤ 4294967297) (fun v _ => (intOf v).toNat)
      case atStart => exact ⟨q2, v - m2, rfl, by go_num, A2, by omega, hq2K⟩
      case round =>
        obtain ⟨q, k, rfl, rfl, H, hk, hqq⟩ := hrel
        clear A2 e8 e9 g3 g4 f1
        by_cases c1 : 4294967296 ≤ q
        · have d1 : decide ((4294967296 : Int) ≤ (q : Int)) = true := decide_eq_true (by omega)
          have hq0 : 1 ≤ q := by omega
          have hst := stepdown (show 1 ≤ q by omega) H.out.1
          have hDq : E ≤ q - 1 := by omega
          have B : Hid ((q - 1) * yn1 + (k + yn1) = v ∧ E ≤ q - 1) := ⟨hst, hDq⟩
          clear hst
          by_cases c2 : 4294967296 ≤ k + yn1
          · have hb := broken (un1 := un0) HHP.out n3 B.out.1 c2 (by omega)
            rw [← HY.out, HE.out] at hb
            have C : Hid (q - 1 = E) := by show q - 1 = E; omega
            have d2 : decide ((4294967296 : Int) ≤ (k : Int) + yn1) = true := decide_eq_true (by omega)
            clear c1 c2 hb; try clear c3
            go_wp2
            go_meet
            exact ⟨by rw [← C.out]; go_num, rfl⟩
          · have d2 : decide ((4294967296 : Int) ≤ (k : Int) + yn1) = false := decide_eq_false (by omega)
            have C2 := Lib.hid c2
            have C1 := Lib.hid c1
            clear c1 c2; try clear c3
            go_wp2
            go_round
            case rel => exact ⟨q - 1, k + yn1, by go_num, by go_num, B, by have := C2.out; omega, by omega⟩
            case measure => simp [intOf]; omega
        · obtain ⟨p, hp⟩ : ∃ p, q * yn0 = p := ⟨_, rfl⟩
          have hpl : p ≤ 18446744065119617025 := by rw [← hp]; exact Lib.half_mul_le (by omega) (by omega)
          have ep : (q : Int) * yn0 = p := by rw [← hp]; simp
          have d1 : decide ((4294967296 : Int) ≤ (q : Int)) = false := decide_eq_false (by omega)
          by_cases c3 : k * 4294967296 + un0 < p
          · have d3 : decide ((4294967296 : Int) * (k : Int) + un0 < (p : Int)) = true := decide_eq_true (by omega)
            have hmo := more (un1 := un0) HHP.out H.out.1 (by rw [hp]; exact c3)
            rw [← HY.out, HE.out] at hmo
            obtain ⟨hDq, hq1'⟩ := hmo
            have hst := stepdown hq1' H.out.1
            have B : Hid ((q - 1) * yn1 + (k + yn1) = v ∧ E ≤ q - 1) := ⟨hst, hDq⟩
            clear hst hp
            by_cases c2 : 4294967296 ≤ k + yn1
            · have hb := broken (un1 := un0) HHP.out n3 B.out.1 c2 (by omega)
              rw [← HY.out, HE.out] at hb
              have C : Hid (q - 1 = E) := by show q - 1 = E; omega
              have d2 : decide ((4294967296 : Int) ≤ (k : Int) + yn1) = true := decide_eq_true (by omega)
              clear c1 c2 hb; try clear c3
              go_wp2
              go_meet
              exact ⟨by rw [← C.out]; go_num, rfl⟩
            · have d2 : decide ((4294967296 : Int) ≤ (k : Int) + yn1) = false := decide_eq_false (by omega)
              have C2 := Lib.hid c2
              have C1 := Lib.hid c1
              clear c1 c2; try clear c3
              go_wp2
              go_round
              case rel => exact ⟨q - 1, k + yn1, by go_num, by go_num, B, by have := C2.out; omega, by omega⟩
              case measure => simp [intOf]; omega
          · have d3 : decide ((4294967296 : Int) * (k : Int) + un0 < (p : Int)) = false := decide_eq_false (by omega)
            have hb := down (un1 := un0) HHP.out H.out.1 (by rw [hp]; omega)
            rw [← HY.out, HE.out] at hb
            have C : Hid (q = E) := by have := H.out.2; show q = E; omega
            clear hp hb c1 c3
            go_wp2
            go_meet
            exact ⟨by rw [C.out], rfl⟩
    case rest =>
      obtain ⟨rfl, rfl⟩ := hcut
      clear e8 e9 f1
      go_wp2
      go_ret2
      exact ⟨⟨_, ret_nn (by rw [fin.out]; omega) rfl⟩, rfl⟩
end Go.Proofs.Ytfinihdlkgnccaa
