/- The statements about package gas, walked. -/
import Derived.Test.YtkinjnmlkccanaaGasW1
import Derived.Test.YtkinjnmlkccanaaPlace
import Derived.Deep.QuietTactic
import Derived.BigQuiet
namespace Go.Proofs.Ytkinjnmlkccanaa
open Go.RowKit
open MM
set_option linter.unusedVariables false

theorem used_q (X Y : Int) (h1 : -9223372036854775808 ≤ X) (h2 : X ≤ 9223372036854775807) (h3 : -9223372036854775808 ≤ Y) (h4 : Y ≤ 9223372036854775807) : ∃ u : Nat, ∀ (w : World) (n : Nat),
    (Calls Try.prog 9 #[.int .i64 X, .int .i64 Y] (w.drewN n) fun e w'' => e = .returned (.int .u64 u) ∧ ∃ m, w'' = w.drewN m) ∧
    (Calls Try.prog 10 #[.int .i64 X, .int .i64 Y] (w.drewN n) fun e w'' => e = .returned (.int .u64 u) ∧ ∃ m, w'' = w.drewN m) :=
  ⟨used X Y, fun w n => ⟨Calls.quiet_of_same ((used_any X Y h1 h2 h3 h4 _).mono fun _ _ h => ⟨h.1, h.2.symm⟩), Calls.quiet_of_same ((rused_any X Y h1 h2 h3 h4 _).mono fun _ _ h => ⟨h.1, h.2.symm⟩)⟩⟩

set_option maxRecDepth 100000 in
set_option maxHeartbeats 2000000 in
theorem uses_any (a b : Int) (h1 : -9223372036854775808 ≤ a) (h2 : a ≤ 9223372036854775807) (h3 : -9223372036854775808 ≤ b) (h4 : b ≤ 9223372036854775807) (w : World) :
    Calls Try.prog 3 #[.int .i64 a, .int .i64 b] w fun e w' => e = .returned (.bool true) ∧ Below w.heap.size w w' := by
  have HK := Lib.hid known_any
  have g1 := place_any a 5000 h1 h2 (by omega) (by omega)
  have g2 := place_any b 20 h3 h4 (by omega) (by omega)
  have g3 := place_any a 3 h1 h2 (by omega) (by omega)
  have k1 := used_any 0 0 (by omega) (by omega) (by omega) (by omega)
  obtain ⟨x, hx⟩ : ∃ x, a % 5000 = x := ⟨_, rfl⟩
  obtain ⟨y, hy⟩ : ∃ x, b % 20 = x := ⟨_, rfl⟩
  obtain ⟨z, hz⟩ : ∃ x, a % 3 = x := ⟨_, rfl⟩
  rw [hx] at g1
  rw [hy] at g2
  rw [hz] at g3
  have x1 : 0 ≤ x := by omega
  have x2 : x < 5000 := by omega
  have y1 : 0 ≤ y := by omega
  have y2 : y < 20 := by omega
  have z1 : 0 ≤ z := by omega
  have z2 : z < 3 := by omega
  have G1 := Lib.hid g1
  have G2 := Lib.hid g2
  have G3 := Lib.hid g3
  clear g1 g2 g3 hx hy hz
  go_enter Try.func3, Try.ntmps3
  go_wp2_with fail
  refine (G1.out _).mono ?_; rintro e w' ⟨rfl, rfl⟩
  go_wp2_with fail
  refine (G2.out _).mono ?_; rintro e w' ⟨rfl, rfl⟩
  go_wp2_with fail
  refine (G3.out _).mono ?_; rintro e w' ⟨rfl, rfl⟩
  go_wp2_with fail
  have hcell : ∀ j, (w.alloc (Obj.cells #[Value.int IntKind.i64 a, Value.int IntKind.i64 b, Value.int IntKind.i64 x, Value.int IntKind.i64 y, Value.int IntKind.i64 (1073741824 + z - 1), Value.int IntKind.i64 (-1)] 22)).cell? ⟨w.heap.size, j, none⟩ = #[Value.int IntKind.i64 a, Value.int IntKind.i64 b, Value.int IntKind.i64 x, Value.int IntKind.i64 y, Value.int IntKind.i64 (1073741824 + z - 1), Value.int IntKind.i64 (-1)][j]? := fun j => World.cell?_alloc_at _ _ _ _ rfl
  have HC := Lib.hid hcell
  clear hcell
  go_loopw [22] (fun i wr => ∃ k : Nat, k ≤ 3 ∧ i = .int .i64 k ∧ Below (w.heap.size + 1) (w.alloc (Obj.cells #[Value.int IntKind.i64 a, Value.int IntKind.i64 b, Value.int IntKind.i64 x, Value.int IntKind.i64 y, Value.int IntKind.i64 (1073741824 + z - 1), Value.int IntKind.i64 (-1)] 22)) wr) (fun i _ => (3 - intOf i).toNat)
  case atStart => exact ⟨0, by omega, rfl, Below.refl _ _⟩
  case round =>
    obtain ⟨k, hk, rfl, hbel⟩ := hrel
    have hsz := hbel.size
    have hc := fun j => (hbel.cell (p := ⟨w.heap.size, j, none⟩) (by simp)).trans (HC.out j)
    simp only [World.size_alloc] at hsz
    have hbig : Below w.heap.size w wr := ((Below.refl w.heap.size w).alloc (Nat.le_refl _) _).trans (hbel.mono (by omega))
    have HB := Lib.hid hbig
    have HW := Lib.hid hbel
    clear hbig hbel
    have : k = 0 ∨ k = 1 ∨ k = 2 ∨ k = 3 := by omega
    rcases this with rfl | rfl | rfl | rfl
    · have c0 := hc 0
      have c1 := hc 1
      simp at c0 c1
      obtain ⟨u, hu⟩ := used_q (a) (b) (by omega) (by omega) (by omega) (by omega)
      have HU := Lib.hid hu
      clear hc hu
      go_wp2_with fail
      go_quiet (first | (go_at_call 9; exact (HU.out _ _).1) | (go_at_call 10; exact (HU.out _ _).2))
      go_wp2_with fail
      go_roundw
      case rel => exact ⟨1, by omega, by go_num, below_drewN (HW.out.alloc (by omega) _) _⟩
      case measure => simp [intOf]
    · have c0 := hc 2
      have c1 := hc 3
      simp at c0 c1
      obtain ⟨u, hu⟩ := used_q (x) (y) (by omega) (by omega) (by omega) (by omega)
      have HU := Lib.hid hu
      clear hc hu
      go_wp2_with fail
      go_quiet (first | (go_at_call 9; exact (HU.out _ _).1) | (go_at_call 10; exact (HU.out _ _).2))
      go_wp2_with fail
      go_roundw
      case rel => exact ⟨2, by omega, by go_num, below_drewN (HW.out.alloc (by omega) _) _⟩
      case measure => simp [intOf]
    · have c0 := hc 4
      have c1 := hc 5
      simp at c0 c1
      obtain ⟨u, hu⟩ := used_q (1073741824 + z - 1) (-1) (by omega) (by omega) (by omega) (by omega)
      have HU := Lib.hid hu
      clear hc hu
      go_wp2_with fail
      go_quiet (first | (go_at_call 9; exact (HU.out _ _).1) | (go_at_call 10; exact (HU.out _ _).2))
      go_wp2_with fail
      go_roundw
      case rel => exact ⟨3, by omega, by go_num, below_drewN (HW.out.alloc (by omega) _) _⟩
      case measure => simp [intOf]
    · clear hc
      have K1 := Lib.hid k1
      clear k1
      go_wp2_with fail
      refine (K1.out _).mono ?_; rintro e w' ⟨rfl, rfl⟩
      go_wp2_with fail
      refine (HK.out _).mono ?_; rintro e w' ⟨rfl, n, rfl⟩
      go_wp2_with fail
      go_ret
      exact ⟨rfl, below_drewN HB.out _⟩

theorem monotone_prio {f g : Nat} (h0 : 0 < g) : prio f g = if 1000 * f / 18446744073709551616 < g then 1000 * f / g else 18446744073709551615 := by
  by_cases h : 1000 * f / 18446744073709551616 < g
  · rw [prio_yes (by omega) (divOk_yes h), divV_yes h, if_pos h]
  · rw [prio_no (by omega) (divOk_no h), if_neg h]
theorem prio_lt {f g : Nat} (h0 : 0 < g) : prio f g ≤ 18446744073709551615 := by
  rw [monotone_prio h0]
  split
  · rename_i h
    have : 1000 * f / g < 18446744073709551616 := by
      rw [Nat.div_lt_iff_lt_mul h0]
      have := (Nat.div_lt_iff_lt_mul (show 0 < 18446744073709551616 by omega)).1 h
      omega
    omega
  · omega
theorem prio_fee {f f' g : Nat} (h0 : 0 < g) (h : f ≤ f') : prio f g ≤ prio f' g := by
  have hm : 1000 * f ≤ 1000 * f' := Nat.mul_le_mul_left _ h
  have hd := Nat.div_le_div_right (c := 18446744073709551616) hm
  by_cases h1 : 1000 * f' / 18446744073709551616 < g
  · rw [monotone_prio h0, monotone_prio h0, if_pos (by omega), if_pos h1]
    exact Nat.div_le_div_right hm
  · have := prio_lt (f := f) h0
    rw [monotone_prio (f := f') h0, if_neg h1]; exact this
theorem prio_gas {f g g' : Nat} (h0 : 0 < g) (h : g ≤ g') : prio f g' ≤ prio f g := by
  by_cases h1 : 1000 * f / 18446744073709551616 < g
  · rw [monotone_prio h0, monotone_prio (by omega), if_pos h1, if_pos (by omega)]
    exact Nat.div_le_div_left h h0
  · have := prio_lt (f := f) (g := g') (by omega)
    rw [monotone_prio (f := f) h0, if_neg h1]; exact this

set_option maxRecDepth 100000 in
theorem monotone_any (f a m : Nat) (hf : f < 18446744073709551616) (ha : a < 18446744073709551616) (hm : m < 18446744073709551616) (w : World) :
    Calls Try.prog 6 #[.int .u64 f, .int .u64 a, .int .u64 m] w fun e w' => e = .returned (.bool true) ∧ Below w.heap.size w w' := by
  have HK := Lib.hid known_any
  obtain ⟨a1, ha1⟩ : ∃ x, a / 2 = x := ⟨_, rfl⟩
  obtain ⟨f1, hf1⟩ : ∃ x, f / 2 = x := ⟨_, rfl⟩
  obtain ⟨m1, hm1⟩ : ∃ x, m / 4 = x := ⟨_, rfl⟩
  have e1 : (a : Int) / 2 = a1 := by omega
  have e2 : (f : Int) / 2 = f1 := by omega
  have e3 : (m : Int) / 4 = m1 := by omega
  have b1 : a1 < 9223372036854775808 := by omega
  have b2 : f1 < 9223372036854775808 := by omega
  have b3 : m1 < 4611686018427387904 := by omega
  clear ha1 hf1 hm1
  have g1 := priority_any (f1 + m1) (a1 + 1) (by omega) (by omega)
  have g2 := priority_any f1 (a1 + 1) (by omega) (by omega)
  have g3 := priority_any f1 (a1 + 1 + m1) (by omega) (by omega)
  have l1 := prio_fee (f := f1) (f' := f1 + m1) (g := a1 + 1) (by omega) (by omega)
  have l2 := prio_gas (f := f1) (g := a1 + 1) (g' := a1 + 1 + m1) (by omega) (by omega)
  generalize prio (f1 + m1) (a1 + 1) = p1 at *
  generalize prio f1 (a1 + 1) = p2 at *
  generalize prio f1 (a1 + 1 + m1) = p3 at *
  have G1 := Lib.hid g1
  have G2 := Lib.hid g2
  have G3 := Lib.hid g3
  clear g1 g2 g3
  have d1 : decide ((p2 : Int) ≤ p1) = true := decide_eq_true (by omega)
  have d2 : decide ((p3 : Int) ≤ p2) = true := decide_eq_true (by omega)
  have n1 : ((a1 + 1 : Nat) : Int) = (a1 : Int) + 1 := by omega
  have n2 : ((f1 + m1 : Nat) : Int) = (f1 : Int) + m1 := by omega
  have n3 : ((a1 + 1 + m1 : Nat) : Int) = (a1 : Int) + 1 + m1 := by omega
  rw [n1, n2] at G1
  rw [n1] at G2
  rw [n3] at G3
  clear n1 n2 n3
  go_enter Try.func6, Try.ntmps6
  go_wp2_with fail
  refine (G1.out _).mono ?_; rintro e w' ⟨rfl, n1, rfl⟩
  go_wp2_with fail
  refine (G2.out _).mono ?_; rintro e w' ⟨rfl, n2, rfl⟩
  go_wp2_with fail
  refine (G3.out _).mono ?_; rintro e w' ⟨rfl, n3, rfl⟩
  go_wp2_with fail
  refine (G2.out _).mono ?_; rintro e w' ⟨rfl, n4, rfl⟩
  go_wp2_with fail
  refine (HK.out _).mono ?_; rintro e w' ⟨rfl, n5, rfl⟩
  go_wp2_with fail
  go_ret
  exact ⟨rfl, below_drewN (Below.refl _ _) _⟩

set_option maxRecDepth 100000 in
theorem exact_any (f a : Nat) (hf : f < 4294967296) (ha : a < 4294967296) (w : World) :
    Calls Try.prog 7 #[.int .u32 f, .int .u32 a] w fun e w' => e = .returned (.bool true) ∧ Below w.heap.size w w' := by
  have HK := Lib.hid known_any
  have g1 := priority_any f (a + 1) (by omega) (by omega)
  rw [monotone_prio (by omega), if_pos (by omega)] at g1
  obtain ⟨p, hp⟩ : ∃ p, 1000 * f / (a + 1) = p := ⟨_, rfl⟩
  have q1 := Nat.div_mul_le_self (1000 * f) (a + 1)
  have q2 := Nat.lt_div_mul_add (a := 1000 * f) (b := a + 1) (by omega)
  have q3 := Nat.div_le_self (1000 * f) (a + 1)
  rw [hp] at g1 q1 q2 q3
  clear hp
  obtain ⟨pg, hpg⟩ : ∃ x, p * (a + 1) = x := ⟨_, rfl⟩
  rw [hpg] at q1 q2
  have e1 : (p : Int) * ((a : Int) + 1) = pg := by rw [← hpg]; simp
  have e2 : ((p : Int) + 1) * ((a : Int) + 1) = pg + a + 1 := by rw [Int.add_mul, e1]; omega
  clear hpg
  have n1 : ((a + 1 : Nat) : Int) = (a : Int) + 1 := by omega
  rw [n1] at g1
  clear n1
  have G1 := Lib.hid g1
  clear g1
  have d1 : decide ((pg : Int) ≤ 1000 * (f : Int)) = true := decide_eq_true (by omega)
  have d2 : decide (1000 * (f : Int) < pg + a + 1) = true := decide_eq_true (by omega)
  go_enter Try.func7, Try.ntmps7
  go_wp2_with fail
  refine (G1.out _).mono ?_; rintro e w' ⟨rfl, n1, rfl⟩
  go_wp2_with fail
  refine (HK.out _).mono ?_; rintro e w' ⟨rfl, n2, rfl⟩
  go_wp2_with fail
  go_ret
  exact ⟨rfl, below_drewN (Below.refl _ _) _⟩
set_option maxRecDepth 100000 in
set_option maxHeartbeats 2000000 in
theorem needs_any (a p sh : Nat) (ha : a < 18446744073709551616) (hp : p < 18446744073709551616) (hsh : sh < 256) (w : World) :
    Calls Try.prog 4 #[.int .u64 a, .int .u64 p, .int .u8 sh] w fun e w' => e = .returned (.bool true) ∧ Below w.heap.size w w' := by
  have HK := Lib.hid known_any
  obtain ⟨m, hm⟩ : ∃ m, sh % 64 = m := ⟨_, rfl⟩
  have e0 : (sh : Int) % 64 = m := by omega
  have hm2 : m < 64 := by omega
  obtain ⟨a2, ha2⟩ : ∃ d, a / 2 ^ m = d := ⟨_, rfl⟩
  have e2 : (a : Int) / 2 ^ m = a2 := by rw [← ha2]; simp
  have k2 : a2 < 18446744073709551616 := by rw [← ha2]; exact Nat.lt_of_le_of_lt (Nat.div_le_self _ _) ha
  obtain ⟨a1, ha1⟩ : ∃ c, a / 4294967296 = c := ⟨_, rfl⟩
  obtain ⟨p1, hp1⟩ : ∃ c, p / 4294967296 = c := ⟨_, rfl⟩
  have e3 : (a : Int) / 4294967296 = a1 := by omega
  have e4 : (p : Int) / 4294967296 = p1 := by omega
  have k3 : a1 < 18446744073709551616 := by omega
  have k4 : p1 < 18446744073709551616 := by omega
  clear hm ha2 ha1 hp1
  go_enter Try.func4, Try.ntmps4
  go_wp2_with fail
  clear e0 e2 e3 e4
  have hcell : ∀ j, (w.alloc (Obj.cells #[Value.int IntKind.u64 a, Value.int IntKind.u64 p, Value.int IntKind.u64 a2, Value.int IntKind.u64 p, Value.int IntKind.u64 a1, Value.int IntKind.u64 p1] 29)).cell? ⟨w.heap.size, j, none⟩ = #[Value.int IntKind.u64 a, Value.int IntKind.u64 p, Value.int IntKind.u64 a2, Value.int IntKind.u64 p, Value.int IntKind.u64 a1, Value.int IntKind.u64 p1][j]? := fun j => World.cell?_alloc_at _ _ _ _ rfl
  have HC := Lib.hid hcell
  clear hcell
  go_loopw [29] (fun i wr => ∃ k : Nat, k ≤ 3 ∧ i = .int .i64 k ∧ Below (w.heap.size + 1) (w.alloc (Obj.cells #[Value.int IntKind.u64 a, Value.int IntKind.u64 p, Value.int IntKind.u64 a2, Value.int IntKind.u64 p, Value.int IntKind.u64 a1, Value.int IntKind.u64 p1] 29)) wr) (fun i _ => (3 - intOf i).toNat)
  case atStart => exact ⟨0, by omega, rfl, Below.refl _ _⟩
  case round =>
    obtain ⟨k, hk, rfl, hbel⟩ := hrel
    have hsz := hbel.size
    have hc := fun j => (hbel.cell (p := ⟨w.heap.size, j, none⟩) (by simp)).trans (HC.out j)
    simp only [World.size_alloc] at hsz
    have hbig : Below w.heap.size w wr := ((Below.refl w.heap.size w).alloc (Nat.le_refl _) _).trans (hbel.mono (by omega))
    have HB := Lib.hid hbig
    have HW := Lib.hid hbel
    clear hbig hbel
    have : k = 0 ∨ k = 1 ∨ k = 2 ∨ k = 3 := by omega
    rcases this with rfl | rfl | rfl | rfl
    · have c0 := hc 0
      have c1 := hc 1
      simp at c0 c1
      have g1 := need_any a p ha hp
      have g2 := rneed_any a p ha hp
      generalize mulV a p = s1 at *
      generalize mulOk a p = s2 at *
      have G1 := Lib.hid g1
      have G2 := Lib.hid g2
      clear g1 g2
      clear hc
      go_wp2_with fail
      refine (G1.out _).mono ?_; rintro e w' ⟨rfl, rfl⟩
      go_wp2_with fail
      refine (G2.out _).mono ?_; rintro e w' ⟨rfl, rfl⟩
      go_wp2_with fail
      go_roundw
      case rel => exact ⟨1, by omega, by go_num, HW.out.alloc (by omega) _⟩
      case measure => simp [intOf]
    · have c0 := hc 2
      have c1 := hc 3
      simp at c0 c1
      have g1 := need_any a2 p k2 hp
      have g2 := rneed_any a2 p k2 hp
      generalize mulV a2 p = s1 at *
      generalize mulOk a2 p = s2 at *
      have G1 := Lib.hid g1
      have G2 := Lib.hid g2
      clear g1 g2
      clear hc
      go_wp2_with fail
      refine (G1.out _).mono ?_; rintro e w' ⟨rfl, rfl⟩
      go_wp2_with fail
      refine (G2.out _).mono ?_; rintro e w' ⟨rfl, rfl⟩
      go_wp2_with fail
      go_roundw
      case rel => exact ⟨2, by omega, by go_num, HW.out.alloc (by omega) _⟩
      case measure => simp [intOf]
    · have c0 := hc 4
      have c1 := hc 5
      simp at c0 c1
      have g1 := need_any a1 p1 k3 k4
      have g2 := rneed_any a1 p1 k3 k4
      generalize mulV a1 p1 = s1 at *
      generalize mulOk a1 p1 = s2 at *
      have G1 := Lib.hid g1
      have G2 := Lib.hid g2
      clear g1 g2
      clear hc
      go_wp2_with fail
      refine (G1.out _).mono ?_; rintro e w' ⟨rfl, rfl⟩
      go_wp2_with fail
      refine (G2.out _).mono ?_; rintro e w' ⟨rfl, rfl⟩
      go_wp2_with fail
      go_roundw
      case rel => exact ⟨3, by omega, by go_num, HW.out.alloc (by omega) _⟩
      case measure => simp [intOf]
    · clear hc
      go_wp2_with fail
      refine (HK.out _).mono ?_; rintro e w' ⟨rfl, n, rfl⟩
      go_wp2_with fail
      go_ret
      exact ⟨rfl, below_drewN HB.out _⟩

theorem prio_q (X Y : Nat) (h1 : X < 18446744073709551616) (h2 : Y < 18446744073709551616) : ∃ u : Nat, ∀ (w : World) (n : Nat),
    (Calls Try.prog 14 #[.int .u64 X, .int .u64 Y] (w.drewN n) fun e w'' => e = .returned (.int .u64 u) ∧ ∃ m, w'' = w.drewN m) ∧
    (Calls Try.prog 15 #[.int .u64 X, .int .u64 Y] (w.drewN n) fun e w'' => e = .returned (.int .u64 u) ∧ ∃ m, w'' = w.drewN m) :=
  ⟨prio X Y, fun w n => ⟨Calls.quiet_of (priority_any X Y h1 h2 _), Calls.quiet_of_same ((rpriority_any X Y h1 h2 _).mono fun _ _ h => ⟨h.1, h.2.symm⟩)⟩⟩

set_option maxRecDepth 100000 in
set_option maxHeartbeats 2000000 in
theorem priorities_any (f a sh : Nat) (hf : f < 18446744073709551616) (ha : a < 18446744073709551616) (hsh : sh < 256) (w : World) :
    Calls Try.prog 5 #[.int .u64 f, .int .u64 a, .int .u8 sh] w fun e w' => e = .returned (.bool true) ∧ Below w.heap.size w w' := by
  have HK := Lib.hid known_any
  obtain ⟨m, hm⟩ : ∃ m, sh % 64 = m := ⟨_, rfl⟩
  have e0 : (sh : Int) % 64 = m := by omega
  have hm2 : m < 64 := by omega
  obtain ⟨a2, ha2⟩ : ∃ d, a / 2 ^ m = d := ⟨_, rfl⟩
  have e2 : (a : Int) / 2 ^ m = a2 := by rw [← ha2]; simp
  have k2 : a2 < 18446744073709551616 := by rw [← ha2]; exact Nat.lt_of_le_of_lt (Nat.div_le_self _ _) ha
  obtain ⟨f2, hf2⟩ : ∃ d, f / 2 ^ m = d := ⟨_, rfl⟩
  have e5 : (f : Int) / 2 ^ m = f2 := by rw [← hf2]; simp
  have k5 : f2 < 18446744073709551616 := by rw [← hf2]; exact Nat.lt_of_le_of_lt (Nat.div_le_self _ _) hf
  obtain ⟨a1, ha1⟩ : ∃ c, a / 1099511627776 = c := ⟨_, rfl⟩
  obtain ⟨f1, hf1⟩ : ∃ c, f / 4096 = c := ⟨_, rfl⟩
  have e3 : (a : Int) / 1099511627776 = a1 := by omega
  have e4 : (f : Int) / 4096 = f1 := by omega
  have k3 : a1 < 18446744073709551616 := by omega
  have k4 : f1 < 18446744073709551616 := by omega
  clear hm ha2 ha1 hf1 hf2
  go_enter Try.func5, Try.ntmps5
  go_wp2_with fail
  clear e0 e2 e3 e4 e5
  have hcell : ∀ j, (w.alloc (Obj.cells #[Value.int IntKind.u64 f, Value.int IntKind.u64 a, Value.int IntKind.u64 f, Value.int IntKind.u64 a2, Value.int IntKind.u64 f2, Value.int IntKind.u64 a, Value.int IntKind.u64 f1, Value.int IntKind.u64 a1] 29)).cell? ⟨w.heap.size, j, none⟩ = #[Value.int IntKind.u64 f, Value.int IntKind.u64 a, Value.int IntKind.u64 f, Value.int IntKind.u64 a2, Value.int IntKind.u64 f2, Value.int IntKind.u64 a, Value.int IntKind.u64 f1, Value.int IntKind.u64 a1][j]? := fun j => World.cell?_alloc_at _ _ _ _ rfl
  have HC := Lib.hid hcell
  clear hcell
  go_loopw [31] (fun i wr => ∃ k : Nat, k ≤ 4 ∧ i = .int .i64 k ∧ Below (w.heap.size + 1) (w.alloc (Obj.cells #[Value.int IntKind.u64 f, Value.int IntKind.u64 a, Value.int IntKind.u64 f, Value.int IntKind.u64 a2, Value.int IntKind.u64 f2, Value.int IntKind.u64 a, Value.int IntKind.u64 f1, Value.int IntKind.u64 a1] 29)) wr) (fun i _ => (4 - intOf i).toNat)
  case atStart => exact ⟨0, by omega, rfl, Below.refl _ _⟩
  case round =>
    obtain ⟨k, hk, rfl, hbel⟩ := hrel
    have hsz := hbel.size
    have hc := fun j => (hbel.cell (p := ⟨w.heap.size, j, none⟩) (by simp)).trans (HC.out j)
    simp only [World.size_alloc] at hsz
    have hbig : Below w.heap.size w wr := ((Below.refl w.heap.size w).alloc (Nat.le_refl _) _).trans (hbel.mono (by omega))
    have HB := Lib.hid hbig
    have HW := Lib.hid hbel
    clear hbig hbel
    have : k = 0 ∨ k = 1 ∨ k = 2 ∨ k = 3 ∨ k = 4 := by omega
    rcases this with rfl | rfl | rfl | rfl | rfl
    · have c0 := hc 0
      have c1 := hc 1
      simp at c0 c1
      obtain ⟨u, hu⟩ := prio_q f a hf ha
      have HU := Lib.hid hu
      clear hu
      clear hc
      go_wp2_with fail
      go_quiet (first | (go_at_call 14; exact (HU.out _ _).1) | (go_at_call 15; exact (HU.out _ _).2))
      go_wp2_with fail
      go_roundw
      case rel => exact ⟨1, by omega, by go_num, below_drewN (HW.out.alloc (by omega) _) _⟩
      case measure => simp [intOf]
    · have c0 := hc 2
      have c1 := hc 3
      simp at c0 c1
      obtain ⟨u, hu⟩ := prio_q f a2 hf k2
      have HU := Lib.hid hu
      clear hu
      clear hc
      go_wp2_with fail
      go_quiet (first | (go_at_call 14; exact (HU.out _ _).1) | (go_at_call 15; exact (HU.out _ _).2))
      go_wp2_with fail
      go_roundw
      case rel => exact ⟨2, by omega, by go_num, below_drewN (HW.out.alloc (by omega) _) _⟩
      case measure => simp [intOf]
    · have c0 := hc 4
      have c1 := hc 5
      simp at c0 c1
      obtain ⟨u, hu⟩ := prio_q f2 a k5 ha
      have HU := Lib.hid hu
      clear hu
      clear hc
      go_wp2_with fail
      go_quiet (first | (go_at_call 14; exact (HU.out _ _).1) | (go_at_call 15; exact (HU.out _ _).2))
      go_wp2_with fail
      go_roundw
      case rel => exact ⟨3, by omega, by go_num, below_drewN (HW.out.alloc (by omega) _) _⟩
      case measure => simp [intOf]
    · have c0 := hc 6
      have c1 := hc 7
      simp at c0 c1
      obtain ⟨u, hu⟩ := prio_q f1 a1 k4 k3
      have HU := Lib.hid hu
      clear hu
      clear hc
      go_wp2_with fail
      go_quiet (first | (go_at_call 14; exact (HU.out _ _).1) | (go_at_call 15; exact (HU.out _ _).2))
      go_wp2_with fail
      go_roundw
      case rel => exact ⟨4, by omega, by go_num, below_drewN (HW.out.alloc (by omega) _) _⟩
      case measure => simp [intOf]
    · clear hc
      go_wp2_with fail
      refine (HK.out _).mono ?_; rintro e w' ⟨rfl, n, rfl⟩
      go_wp2_with fail
      go_ret
      exact ⟨rfl, below_drewN HB.out _⟩

end Go.Proofs.Ytkinjnmlkccanaa
