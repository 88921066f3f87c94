/- Four bytes as a number: the shifts and ors of Go. -/
import Derived.Laws.Bits64
import Derived.Test.YtjiiaepmdlempaaJourSpec
namespace Go.Proofs.Ytjiiaepmdlempaa
set_option linter.unusedVariables false

theorem bits_or_i64 (a b : Nat) (ha : a < 4294967296) (hb : b < 4294967296) : bits .or .i64 (a : Int) (b : Int) = ((a ||| b : Nat) : Int) := by
  have hx : a ||| b < 2 ^ 32 := Nat.or_lt_two_pow (by omega) (by omega)
  have h1 : (BitVec.ofInt 64 (a : Int)).toNat = a := by
    rw [BitVec.ofInt_natCast, BitVec.toNat_ofNat]; exact Nat.mod_eq_of_lt (by omega)
  have h2 : (BitVec.ofInt 64 (b : Int)).toNat = b := by
    rw [BitVec.ofInt_natCast, BitVec.toNat_ofNat]; exact Nat.mod_eq_of_lt (by omega)
  show IntKind.i64.wrap ((BitVec.ofInt 64 (a : Int) ||| BitVec.ofInt 64 (b : Int)).toNat : Int) = _
  rw [BitVec.toNat_or, h1, h2, IntKind.wrap_i64]
  omega
theorem or4 (f : Nat → UInt8) : bits .or .i64 (bits .or .i64 (bits .or .i64 (((f 0).toNat : Int) * 16777216) (((f 1).toNat : Int) * 65536)) (((f 2).toNat : Int) * 256)) ((f 3).toNat : Int) = ((be32 f : Nat) : Int) := by
  have l0 := (f 0).toNat_lt
  have l1 := (f 1).toNat_lt
  have l2 := (f 2).toNat_lt
  have l3 := (f 3).toNat_lt
  unfold be32
  generalize (f 0).toNat = a at *
  generalize (f 1).toNat = b at *
  generalize (f 2).toNat = c at *
  generalize (f 3).toNat = d at *
  have e1 : bits .or .i64 ((a : Int) * 16777216) ((b : Int) * 65536) = ((a * 16777216 + b * 65536 : Nat) : Int) := by
    rw [show (a : Int) * 16777216 = ((a * 16777216 : Nat) : Int) by omega, show (b : Int) * 65536 = ((b * 65536 : Nat) : Int) by omega, bits_or_i64 _ _ (by omega) (by omega)]
    have h := Nat.two_pow_add_eq_or_of_lt (i := 24) (b := b * 65536) (by omega) a
    rw [show 2 ^ 24 * a = a * 16777216 by omega] at h
    rw [h]
  have e2 : bits .or .i64 ((a * 16777216 + b * 65536 : Nat) : Int) ((c : Int) * 256) = ((a * 16777216 + b * 65536 + c * 256 : Nat) : Int) := by
    rw [show (c : Int) * 256 = ((c * 256 : Nat) : Int) by omega, bits_or_i64 _ _ (by omega) (by omega)]
    have h := Nat.two_pow_add_eq_or_of_lt (i := 16) (b := c * 256) (by omega) (a * 256 + b)
    rw [show 2 ^ 16 * (a * 256 + b) = a * 16777216 + b * 65536 by omega] at h
    rw [h]
  have e3 : bits .or .i64 ((a * 16777216 + b * 65536 + c * 256 : Nat) : Int) (d : Int) = ((a * 16777216 + b * 65536 + c * 256 + d : Nat) : Int) := by
    rw [bits_or_i64 _ _ (by omega) (by omega)]
    have h := Nat.two_pow_add_eq_or_of_lt (i := 8) (b := d) (by omega) (a * 65536 + b * 256 + c)
    rw [show 2 ^ 8 * (a * 65536 + b * 256 + c) = a * 16777216 + b * 65536 + c * 256 by omega] at h
    rw [h]
  rw [e1, e2, e3]
theorem be32_lt (f : Nat → UInt8) : be32 f < 4294967296 := by
  have l0 := (f 0).toNat_lt
  have l1 := (f 1).toNat_lt
  have l2 := (f 2).toNat_lt
  have l3 := (f 3).toNat_lt
  unfold be32
  omega
end Go.Proofs.Ytjiiaepmdlempaa
