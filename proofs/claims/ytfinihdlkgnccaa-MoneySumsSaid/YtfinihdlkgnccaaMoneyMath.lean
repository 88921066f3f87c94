/- Plain facts about checked arithmetic of 64 bits: what the functions of package money compute, as functions of natural numbers. -/
namespace Go.Proofs.Ytfinihdlkgnccaa.MM
set_option linter.unusedVariables false

def addOk (a b : Nat) : Bool := decide (a + b < 18446744073709551616)
def addV (a b : Nat) : Nat := if addOk a b then a + b else 0
def subOk (a b : Nat) : Bool := decide (b ≤ a)
def subV (a b : Nat) : Nat := if subOk a b then a - b else 0
def mulOk (a b : Nat) : Bool := decide (a * b < 18446744073709551616)
def mulV (a b : Nat) : Nat := if mulOk a b then a * b else 0
def divOk (a b c : Nat) : Bool := decide (a * b / 18446744073709551616 < c)
def divV (a b c : Nat) : Nat := if divOk a b c then a * b / c else 0

theorem addOk_yes {a b : Nat} (h : a + b < 18446744073709551616) : addOk a b = true := by simp [addOk, h]
theorem addOk_no {a b : Nat} (h : ¬ a + b < 18446744073709551616) : addOk a b = false := by simp [addOk]; omega
theorem addV_yes {a b : Nat} (h : a + b < 18446744073709551616) : addV a b = a + b := by simp [addV, addOk_yes h]
theorem addV_no {a b : Nat} (h : ¬ a + b < 18446744073709551616) : addV a b = 0 := by simp [addV, addOk_no h]
theorem subOk_yes {a b : Nat} (h : b ≤ a) : subOk a b = true := by simp [subOk, h]
theorem subOk_no {a b : Nat} (h : ¬ b ≤ a) : subOk a b = false := by simp [subOk]; omega
theorem subV_yes {a b : Nat} (h : b ≤ a) : subV a b = a - b := by simp [subV, subOk_yes h]
theorem subV_no {a b : Nat} (h : ¬ b ≤ a) : subV a b = 0 := by simp [subV, subOk_no h]
theorem mulOk_yes {a b : Nat} (h : a * b < 18446744073709551616) : mulOk a b = true := by simp [mulOk, h]
theorem mulOk_no {a b : Nat} (h : ¬ a * b < 18446744073709551616) : mulOk a b = false := by simp [mulOk]; omega
theorem mulV_yes {a b : Nat} (h : a * b < 18446744073709551616) : mulV a b = a * b := by simp [mulV, mulOk_yes h]
theorem mulV_no {a b : Nat} (h : ¬ a * b < 18446744073709551616) : mulV a b = 0 := by simp [mulV, mulOk_no h]
theorem divOk_yes {a b c : Nat} (h : a * b / 18446744073709551616 < c) : divOk a b c = true := by simp [divOk, h]
theorem divOk_no {a b c : Nat} (h : ¬ a * b / 18446744073709551616 < c) : divOk a b c = false := by simp [divOk]; omega
theorem divV_yes {a b c : Nat} (h : a * b / 18446744073709551616 < c) : divV a b c = a * b / c := by simp [divV, divOk_yes h]
theorem divV_no {a b c : Nat} (h : ¬ a * b / 18446744073709551616 < c) : divV a b c = 0 := by simp [divV, divOk_no h]
theorem mul_le_iff {a b : Nat} (ha : 0 < a) : (18446744073709551615 : Int) / (a : Int) < b ↔ ¬ a * b < 18446744073709551616 := by
  have e : ((18446744073709551615 : Nat) : Int) / (a : Int) = ((18446744073709551615 / a : Nat) : Int) := (Int.natCast_ediv _ _).symm
  rw [show (18446744073709551615 : Int) = ((18446744073709551615 : Nat) : Int) from rfl, e, Int.ofNat_lt, Nat.div_lt_iff_lt_mul ha, Nat.mul_comm b a]; omega
theorem addV_lt (a b : Nat) : addV a b < 18446744073709551616 := by
  by_cases h : a + b < 18446744073709551616
  · rw [addV_yes h]; exact h
  · rw [addV_no h]; omega
/-- the last step of the school method -/
theorem prod_end {x y a b c d : Nat} (e : x * y = a * (4294967296 * 4294967296) + (b + c) * 4294967296 + d) (ha : a ≤ 18446744065119617025) (hb : b ≤ 18446744065119617025) (hc : c ≤ 18446744065119617025) (hd : d ≤ 18446744065119617025) (hh : x * y / 18446744073709551616 < 18446744073709551616) :
    ∃ m, d / 4294967296 + b % 4294967296 + c % 4294967296 = m ∧ m < 18446744073709551616 ∧ a + b / 4294967296 + c / 4294967296 + m / 4294967296 = x * y / 18446744073709551616 ∧ a + b / 4294967296 + c / 4294967296 + m / 4294967296 < 18446744073709551616 ∧ m % 4294967296 * 4294967296 + d % 4294967296 = x * y % 18446744073709551616 := by
  refine ⟨_, rfl, ?_, ?_, ?_, ?_⟩ <;> omega

theorem digit_lt {K y u un1 : Nat} (hu : u < y) (h1 : un1 < K) : (u * K + un1) / y < K := by
  have hy : 0 < y := by omega
  rw [Nat.div_lt_iff_lt_mul hy]
  have h2 : u + 1 ≤ y := hu
  have h3 := Nat.mul_le_mul_right K h2
  rw [Nat.add_mul] at h3
  rw [Nat.mul_comm K y]
  omega

/-- the first trial digit is at most K + 1 -/
theorem q_start {K u yn1 yn0 : Nat} (hn : K ≤ 2 * yn1) (h0 : yn0 < K) (hK : 1 < K) (hu : u < yn1 * K + yn0) : u / yn1 ≤ K + 1 := by
  have hy : 0 < yn1 := by omega
  rw [← Nat.lt_succ_iff, Nat.div_lt_iff_lt_mul hy]
  have : (K + 1 + 1) * yn1 = yn1 * K + 2 * yn1 := by
    rw [Nat.add_mul, Nat.add_mul, Nat.mul_comm K yn1]; omega
  show u < (K + 1).succ * yn1
  rw [Nat.succ_eq_add_one, this]
  omega

/-- q is the digit or greater: from the trial q * yn1 + r = u -/
theorem up {K u un1 yn1 yn0 q r : Nat} (hy : 0 < yn1) (e : q * yn1 + r = u) (hr : r < yn1) (h1 : un1 < K) : (u * K + un1) / (yn1 * K + yn0) ≤ q := by
  have hK : 0 < K := by omega
  have hp : 0 < yn1 * K := Nat.mul_pos hy hK
  rw [← Nat.lt_succ_iff, Nat.div_lt_iff_lt_mul (by omega), Nat.succ_eq_add_one, Nat.add_mul, Nat.mul_add, ← Nat.mul_assoc]
  have hrk : (r + 1) * K ≤ yn1 * K := Nat.mul_le_mul_right K hr
  have : u * K = q * yn1 * K + r * K := by rw [← e, Nat.add_mul]
  rw [Nat.add_mul, Nat.one_mul] at hrk
  omega

/-- the test says no: q is at most the digit -/
theorem down {K u un1 yn1 yn0 q r : Nat} (hp : 0 < yn1 * K) (e : q * yn1 + r = u) (ht : q * yn0 ≤ r * K + un1) : q ≤ (u * K + un1) / (yn1 * K + yn0) := by
  rw [Nat.le_div_iff_mul_le (by omega), Nat.mul_add, ← Nat.mul_assoc]
  have : u * K = q * yn1 * K + r * K := by rw [← e, Nat.add_mul]
  omega

/-- the test says yes: q is greater than the digit -/
theorem more {K u un1 yn1 yn0 q r : Nat} (hp : 0 < yn1 * K) (e : q * yn1 + r = u) (ht : r * K + un1 < q * yn0) : (u * K + un1) / (yn1 * K + yn0) ≤ q - 1 ∧ 1 ≤ q := by
  have hq : 1 ≤ q := by
    rcases Nat.eq_zero_or_pos q with h | h
    · subst h; omega
    · exact h
  refine ⟨?_, hq⟩
  have : (u * K + un1) / (yn1 * K + yn0) < q := by
    rw [Nat.div_lt_iff_lt_mul (by omega), Nat.mul_add, ← Nat.mul_assoc]
    have : u * K = q * yn1 * K + r * K := by rw [← e, Nat.add_mul]
    omega
  omega

theorem stepdown {yn1 q r u : Nat} (hq : 1 ≤ q) (e : q * yn1 + r = u) : (q - 1) * yn1 + (r + yn1) = u := by
  obtain ⟨k, rfl⟩ : ∃ k, q = k + 1 := ⟨q - 1, by omega⟩
  rw [Nat.add_mul] at e
  simp only [Nat.add_sub_cancel]
  omega

/-- broken off: rhat has grown to K: q is at most the digit -/
theorem broken {K u un1 yn1 yn0 q r : Nat} (hp : 0 < yn1 * K) (h0 : yn0 < K) (e : q * yn1 + r = u) (hr : K ≤ r) (hq : q ≤ K) : q ≤ (u * K + un1) / (yn1 * K + yn0) := by
  refine down hp e ?_
  have a : q * yn0 ≤ K * yn0 := Nat.mul_le_mul_right _ hq
  have b : K * yn0 ≤ K * K := Nat.mul_le_mul_left _ (by omega)
  have c : K * K ≤ r * K := Nat.mul_le_mul_right _ hr
  omega

/-- the two digits together are the quotient -/
theorem quot {K u un1 un0 y : Nat} (hy : 0 < y) : (u * (K * K) + un1 * K + un0) / y = (u * K + un1) / y * K + (((u * K + un1) - (u * K + un1) / y * y) * K + un0) / y := by
  have h := Nat.div_add_mod (u * K + un1) y
  have hm : (u * K + un1) - (u * K + un1) / y * y = (u * K + un1) % y := by
    rw [Nat.mul_comm ((u * K + un1) / y) y]; omega
  rw [hm]
  have e : u * (K * K) + un1 * K + un0 = y * ((u * K + un1) / y * K) + ((u * K + un1) % y * K + un0) := by
    have : u * (K * K) + un1 * K = (u * K + un1) * K := by rw [Nat.add_mul, Nat.mul_assoc]
    rw [this, ← Nat.mul_assoc, ← Nat.add_assoc, ← Nat.add_mul, h]
  rw [e, Nat.mul_add_div hy]

theorem mod_lt' {K u un1 y : Nat} (hy : 0 < y) : (u * K + un1) - (u * K + un1) / y * y < y := by
  have h := Nat.div_add_mod (u * K + un1) y
  have := Nat.mod_lt (u * K + un1) hy
  rw [Nat.mul_comm ((u * K + un1) / y) y]; omega

/-- everything that is known of the numbers ahead of the first loop -/
theorem div_setup {hi lo y s Y : Nat} (h1 : hi < y) (hlo : lo < 18446744073709551616) (hs : s ≤ 63) (hY : y * 2 ^ s = Y) (hY2 : Y < 18446744073709551616) :
    ∃ u L : Nat, hi * 2 ^ s + lo / 2 ^ (64 - s) = u ∧ lo * 2 ^ s % 18446744073709551616 = L ∧ hi * 2 ^ s < 18446744073709551616 ∧ lo / 2 ^ (64 - s) < 2 ^ s ∧ u < Y ∧ (hi * 18446744073709551616 + lo) / y = (u * 18446744073709551616 + L) / Y := by
  have e : 2 ^ s * 2 ^ (64 - s) = 18446744073709551616 := by rw [← Nat.pow_add, show s + (64 - s) = 64 by omega]
  have hp : 0 < 2 ^ s := Nat.pow_pos (by omega)
  have hp2 : 0 < 2 ^ (64 - s) := Nat.pow_pos (by omega)
  have hd : lo / 2 ^ (64 - s) < 2 ^ s := by rw [Nat.div_lt_iff_lt_mul hp2, e]; exact hlo
  have hm : (hi + 1) * 2 ^ s ≤ y * 2 ^ s := Nat.mul_le_mul_right _ h1
  rw [Nat.add_mul, hY] at hm
  have hL : lo * 2 ^ s % 18446744073709551616 = lo % 2 ^ (64 - s) * 2 ^ s := by
    rw [← e, Nat.mul_comm (2 ^ s) (2 ^ (64 - s)), Nat.mul_mod_mul_right]
  refine ⟨_, _, rfl, rfl, by omega, hd, by omega, ?_⟩
  rw [← hY, ← Nat.mul_div_mul_right _ y hp, hL]
  congr 1
  have f := Nat.div_add_mod lo (2 ^ (64 - s))
  have g : lo * 2 ^ s = 2 ^ s * 2 ^ (64 - s) * (lo / 2 ^ (64 - s)) + lo % 2 ^ (64 - s) * 2 ^ s := by
    rw [Nat.mul_assoc, Nat.mul_comm (2 ^ s), ← Nat.add_mul, f]
  rw [e] at g
  rw [Nat.add_mul, Nat.add_mul, g, Nat.mul_right_comm hi]
  omega

/-- one round of the reference's long division -/
theorem md_step {h l c q t k : Nat} (hk : k < 64) (H : q * c + t = h * 2 ^ k + l / 2 ^ (64 - k)) : (2 * q) * c + (2 * t + l / 2 ^ (63 - k) % 2) = h * 2 ^ (k + 1) + l / 2 ^ (64 - (k + 1)) := by
  have e : 64 - (k + 1) = 63 - k := by omega
  have f : 64 - k = (63 - k) + 1 := by omega
  rw [e, Nat.pow_succ, ← Nat.mul_assoc]
  rw [f, Nat.pow_succ, ← Nat.div_div_eq_div_mul] at H
  rw [Nat.mul_assoc]
  omega
theorem md_step1 {q t c b r : Nat} (H : (2 * q) * c + (2 * t + b) = r) (h : c ≤ 2 * t + b) : (2 * q + 1) * c + (2 * t + b - c) = r := by
  rw [Nat.add_mul]; omega
theorem or_one (q : Nat) : 2 * q ||| 1 = 2 * q + 1 := by
  have := Nat.two_pow_add_eq_or_of_lt (i := 1) (show 1 < 2 ^ 1 by omega) q
  simpa using this.symm
theorem or_bit (t b : Nat) (hb : b < 2) : 2 * t ||| b = 2 * t + b := by
  have := Nat.two_pow_add_eq_or_of_lt (i := 1) (show b < 2 ^ 1 by omega) t
  simpa using this.symm
theorem md_end {h l c q t : Nat} (ht : t < c) (H : q * c + t = h * 2 ^ 64 + l / 2 ^ (64 - 64)) : (h * 18446744073709551616 + l) / c = q := by
  have : h * 18446744073709551616 + l = q * c + t := by rw [H]; simp
  rw [this, Nat.mul_comm, Nat.mul_add_div (by omega), Nat.div_eq_of_lt ht, Nat.add_zero]

/-- the sum of the first k numbers -/
def psum (f : Nat → Nat) : Nat → Nat
  | 0 => 0
  | k + 1 => psum f k + f k
theorem psum_le (f : Nat → Nat) {k n : Nat} (h : k ≤ n) : psum f k ≤ psum f n := by
  induction n with
  | zero => obtain rfl : k = 0 := by omega
            exact Nat.le_refl _
  | succ n ih =>
    rcases Nat.lt_or_ge k (n + 1) with h1 | h1
    · have := ih (by omega)
      show _ ≤ psum f n + f n
      omega
    · obtain rfl : k = n + 1 := by omega
      exact Nat.le_refl _
def sumOk (f : Nat → Nat) (n : Nat) : Bool := decide (psum f n < 18446744073709551616)
def sumV (f : Nat → Nat) (n : Nat) : Nat := if sumOk f n then psum f n else 0
theorem sumOk_yes {f : Nat → Nat} {n : Nat} (h : psum f n < 18446744073709551616) : sumOk f n = true := by simp [sumOk, h]
theorem sumOk_no {f : Nat → Nat} {n : Nat} (h : ¬ psum f n < 18446744073709551616) : sumOk f n = false := by simp [sumOk]; omega
theorem sumV_yes {f : Nat → Nat} {n : Nat} (h : psum f n < 18446744073709551616) : sumV f n = psum f n := by simp [sumV, sumOk_yes h]
theorem sumV_no {f : Nat → Nat} {n : Nat} (h : ¬ psum f n < 18446744073709551616) : sumV f n = 0 := by simp [sumV, sumOk_no h]
end Go.Proofs.Ytfinihdlkgnccaa.MM
