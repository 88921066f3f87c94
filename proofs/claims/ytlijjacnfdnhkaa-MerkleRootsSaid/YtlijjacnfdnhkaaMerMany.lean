/- many. -/
import Derived.Test.YtlijjacnfdnhkaaMerW8
namespace Go.Proofs.Ytlijjacnfdnhkaa
open Go.RowKit
set_option linter.unusedVariables false
open ShaW Sha

/-- a list of byte slices of any lengths -/
def RowsL (w : World) (A : Option Addr) (n c : Nat) (L : Nat → Nat) (F : Nat → Nat → UInt8) : Prop :=
  n ≤ c ∧ c ≤ 9223372036854775807 ∧ ∃ b o, (0 < n → A = some ⟨b, o, none⟩) ∧ ∀ r, r < n → ∃ A' c', w.cell? ⟨b, o + r, none⟩ = some (.slice A' (L r) c') ∧ Reads w w.heap.size 1 A' (L r) (bytesOf (L r) (F r)) ∧ L r ≤ 9223372036854775807
theorem RowsL.rows {w : World} {A : Option Addr} {n c : Nat} {L : Nat → Nat} {F : Nat → Nat → UInt8} (h : RowsL w A n c L F) (hl : ∀ r, r < n → L r ≤ 1073741823) : RowsAt w A n c L F := by
  obtain ⟨h1, h2, b, o, hA, hr⟩ := h
  refine ⟨h1, h2, b, o, hA, fun r hr' => ?_⟩
  obtain ⟨A', c', e, hd, _⟩ := hr r hr'
  exact ⟨A', c', e, hd, hl r hr'⟩
/-- the lengths are few and small -/
def Small (n : Nat) (L : Nat → Nat) : Prop := n ≤ 40 ∧ ∀ r, r < n → L r ≤ 300
def ManyPost (w : World) (n : Nat) (L : Nat → Nat) (e : Ending) (w' : World) : Prop := ∃ b : Bool, e = .returned (.bool b) ∧ w = w' ∧ (b = false → Small n L)
def sumL (n : Nat) (L : Nat → Nat) : Nat → Nat
  | 0 => n
  | k + 1 => sumL n L k + L k
theorem sumL_ge (n : Nat) (L : Nat → Nat) (k : Nat) : n ≤ sumL n L k := by
  induction k with
  | zero => exact Nat.le_refl _
  | succ k ih => show n ≤ sumL n L k + L k; omega
theorem sumL_mem (n : Nat) (L : Nat → Nat) (k r : Nat) (h : r < k) : L r ≤ sumL n L k := by
  induction k with
  | zero => omega
  | succ k ih =>
    show L r ≤ sumL n L k + L k
    rcases Nat.lt_or_ge r k with h1 | h1
    · have := ih h1; omega
    · have : r = k := by omega
      subst this; omega

set_option maxHeartbeats 1000000 in
theorem many_few (w : World) (A : Option Addr) (n c : Nat) (L : Nat → Nat) (F : Nat → Nat → UInt8) (h : RowsL w A n c L F) (hn : n ≤ 40) (hL : ∀ r, r < n → L r ≤ 140737488355328) :
    Calls Try.prog 7 #[.slice A n c] w (ManyPost w n L) := by
  have hs : ∀ k, k ≤ n → sumL n L k ≤ 40 + k * 140737488355328 := fun k => by
    induction k with
    | zero => intro _; show n ≤ _; omega
    | succ k ih => intro hk; have := ih (by omega); have := hL k (by omega); show sumL n L k + L k ≤ _; omega
  obtain ⟨_, _, b, o, hA, hr⟩ := h
  have HA := Lib.hid hA
  have HR := Lib.hid hr
  have HS := Lib.hid hs
  have HL := Lib.hid hL
  clear hA hr hs hL
  go_enter Try.func7, Try.ntmps7
  go_wp2
  go_loop [3, 10] (fun s i => ∃ k : Nat, k ≤ n ∧ i = .int .i64 (k : Int) ∧ s = .int .i64 (sumL n L k : Int)) (fun _ i => n - (intOf i).toNat)
  case atStart => exact ⟨0, by omega, rfl, rfl⟩
  case round =>
    obtain ⟨k, hk, rfl, rfl⟩ := hrel
    rcases Nat.lt_or_ge k n with hlt | hge
    · obtain rfl := HA.out (by omega)
      obtain ⟨A', c', e, _, _⟩ := HR.out k hlt
      have hlt' : (k : Int) < n := by omega
      have h1 := HS.out k hk
      have h2 := HL.out k hlt
      have hq : (sumL n L (k + 1) : Int) = (sumL n L k : Int) + (L k : Int) := by show ((sumL n L k + L k : Nat) : Int) = _; omega
      have HQ := Lib.hid hq
      clear hq
      go_wp2
      go_round
      case rel => exact ⟨k + 1, by omega, by go_num, by rw [HQ.out]⟩
      case measure => simp [intOf]; omega
    · have hge' : ¬ ((k : Int) < n) := by omega
      obtain rfl : k = n := by omega
      have h1 := sumL_ge k L k
      have h2 : ∀ r, r < k → L r ≤ sumL k L k := fun r hr => sumL_mem k L k r (by omega)
      have H2 := Lib.hid h2
      clear h2
      have hn40 : ¬ (40 : Int) < k := by omega
      have hn41 : decide ((40 : Int) < k) = false := by simpa using hn40
      rcases Nat.lt_or_ge 300 (sumL k L k) with hb | hb
      · have hb' : (300 : Int) < (sumL k L k : Int) := by omega
        go_wp2
        go_ret
        exact ⟨true, rfl, rfl, fun h => by cases h⟩
      · have hb' : ¬ (300 : Int) < (sumL k L k : Int) := by omega
        go_wp2
        go_ret
        exact ⟨false, rfl, rfl, fun _ => ⟨hn, fun r hr => Nat.le_trans (H2.out r hr) hb⟩⟩

set_option maxHeartbeats 1000000 in
theorem many_more (w : World) (A : Option Addr) (n c : Nat) (L : Nat → Nat) (F : Nat → Nat → UInt8) (h : RowsL w A n c L F) (hn : 40 < n) :
    Calls Try.prog 7 #[.slice A n c] w (ManyPost w n L) := by
  obtain ⟨hnc, hcm, b, o, hA, hr⟩ := h
  obtain rfl := hA (by omega)
  have HR := Lib.hid hr
  clear hA hr
  have hnm : n ≤ 9223372036854775807 := by omega
  go_enter Try.func7, Try.ntmps7
  go_wp2
  go_loop [3, 10] (fun s i => ∃ k : Nat, ∃ z : Int, k ≤ n ∧ i = .int .i64 (k : Int) ∧ s = .int .i64 z) (fun _ i => n - (intOf i).toNat)
  case atStart => exact ⟨0, _, by omega, rfl, rfl⟩
  case round =>
    obtain ⟨k, z, hk, rfl, rfl⟩ := hrel
    rcases Nat.lt_or_ge k n with hlt | hge
    · obtain ⟨A', c', e, _, _⟩ := HR.out k hlt
      have hlt' : (k : Int) < n := by omega
      go_wp2
      go_round
      case rel => exact ⟨k + 1, _, by omega, by go_num, rfl⟩
      case measure => simp [intOf]; omega
    · have hge' : ¬ ((k : Int) < n) := by omega
      have hn40 : (40 : Int) < n := by omega
      by_cases hb' : (300 : Int) < z
      all_goals
        go_wp2
        go_ret
        exact ⟨true, by first | rfl | simp [hb'], rfl, fun h => by cases h⟩
theorem many_any (w : World) (A : Option Addr) (n c : Nat) (L : Nat → Nat) (F : Nat → Nat → UInt8) (h : RowsL w A n c L F) (hL : ∀ r, r < n → L r ≤ 140737488355328) :
    Calls Try.prog 7 #[.slice A n c] w (ManyPost w n L) := by
  rcases Nat.lt_or_ge 40 n with h1 | h1
  · exact many_more w A n c L F h h1
  · exact many_few w A n c L F h h1 hL
end Go.Proofs.Ytlijjacnfdnhkaa
