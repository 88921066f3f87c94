/- The text of a key, the order of keys; no program in sight. -/
import Derived.Test.YtbhklhpeppaadaaApp
import Derived.Lib.Bytealg
namespace Go.Proofs.Ytbhklhpeppaadaa
set_option linter.unusedVariables false
set_option linter.unusedSimpArgs false

/-- a hexadecimal digit -/
def hexD (x : Nat) : UInt8 := if x < 10 then UInt8.ofNat (48 + x) else UInt8.ofNat (87 + x)
/-- the text of the first n bytes -/
def hexL (k : Nat → UInt8) : Nat → List UInt8
  | 0 => []
  | n + 1 => hexL k n ++ [hexD ((k n).toNat / 16), hexD ((k n).toNat % 16)]
theorem hexL_length (k : Nat → UInt8) (n : Nat) : (hexL k n).length = 2 * n := by
  induction n with
  | zero => rfl
  | succ n ih => simp [hexL, ih]; omega
theorem hexL_get (k : Nat → UInt8) : ∀ (n i : Nat), i < n → (hexL k n)[2 * i]? = some (hexD ((k i).toNat / 16)) ∧ (hexL k n)[2 * i + 1]? = some (hexD ((k i).toNat % 16))
  | 0, i, h => by omega
  | n + 1, i, h => by
    have hl := hexL_length k n
    unfold hexL
    rcases Nat.lt_or_ge i n with h1 | h1
    · rw [List.getElem?_append_left (by omega), List.getElem?_append_left (by omega)]
      exact hexL_get k n i h1
    · obtain rfl : i = n := by omega
      rw [List.getElem?_append_right (by omega), List.getElem?_append_right (by omega), hl, show 2 * i - 2 * i = 0 by omega, show 2 * i + 1 - 2 * i = 1 by omega]
      exact ⟨rfl, rfl⟩
/-- the value of a digit; none if it is no digit -/
def unD (b : UInt8) : Option Nat := if 48 ≤ b.toNat ∧ b.toNat ≤ 57 then some (b.toNat - 48) else if 97 ≤ b.toNat ∧ b.toNat ≤ 102 then some (b.toNat - 87) else none
theorem unD_hexD (x : Nat) (h : x < 16) : unD (hexD x) = some x := by
  have : x = 0 ∨ x = 1 ∨ x = 2 ∨ x = 3 ∨ x = 4 ∨ x = 5 ∨ x = 6 ∨ x = 7 ∨ x = 8 ∨ x = 9 ∨ x = 10 ∨ x = 11 ∨ x = 12 ∨ x = 13 ∨ x = 14 ∨ x = 15 := by omega
  rcases this with rfl | rfl | rfl | rfl | rfl | rfl | rfl | rfl | rfl | rfl | rfl | rfl | rfl | rfl | rfl | rfl <;> decide
theorem unD_lt {b : UInt8} {x : Nat} (h : unD b = some x) : x < 16 := by
  unfold unD at h
  split at h
  · injection h with h; omega
  · split at h
    · injection h with h; omega
    · cases h
def digitsL : List UInt8 := [48, 49, 50, 51, 52, 53, 54, 55, 56, 57, 97, 98, 99, 100, 101, 102]
theorem idx_unD (b : UInt8) : Lib.indexByte digitsL b = match unD b with | some x => (x : Int) | none => -1 := by
  have h : ∀ n : Fin 256, Lib.indexByte digitsL (UInt8.ofNat n) = match unD (UInt8.ofNat n) with | some x => (x : Int) | none => -1 := by decide +kernel
  have := h ⟨b.toNat, b.toNat_lt⟩
  simpa using this
end Go.Proofs.Ytbhklhpeppaadaa
