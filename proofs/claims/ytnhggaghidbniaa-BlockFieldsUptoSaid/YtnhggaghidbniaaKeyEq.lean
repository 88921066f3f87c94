/- Keys compared by == and !=. -/
import Derived.Test.YtnhggaghidbniaaApp
import Derived.ChangeKeysEq
import Derived.Laws.StructEq
namespace Go.Proofs.Ytnhggaghidbniaa
open Go.RowKit
set_option linter.unusedVariables false

/-- two keys are equal -/
def keyEq (k1 k2 : Nat → UInt8) : Bool := (List.range 32).all (fun i => k1 i == k2 i)
theorem keyEq_refl (k : Nat → UInt8) : keyEq k k = true := by simp [keyEq]
theorem keyEq_iff (k1 k2 : Nat → UInt8) : keyEq k1 k2 = true ↔ ∀ i, i < 32 → k1 i = k2 i := by
  simp only [keyEq, List.all_eq_true, List.mem_range, beq_iff_eq]
theorem plain_u8 : Try.prog.plainKey 5 = true := by kernel_rfl
theorem cells_u8 : Try.prog.cellsOf 5 = 1 := by kernel_rfl

theorem eqItems_bytes (w : World) (d n : Nat) (k1 k2 : Nat → UInt8) : ∀ is : List Nat, (∀ i ∈ is, i < n) →
    (Op.eqItems (d + 1) 5 1 (bytesOf n k1).toArray (bytesOf n k2).toArray is).run Try.prog w = .ok (is.all (fun i => k1 i == k2 i)) w
  | [], _ => by simp [Op.eqItems]
  | i :: is, h => by
    have hi := h i (by simp)
    have ih := eqItems_bytes w d n k1 k2 is (fun j hj => h j (by simp [hj]))
    have p1 := run_part_plain (P := Try.prog) w plain_u8 (xs := (bytesOf n k1).toArray) (off := i * 1) (v := .int .u8 ((k1 i).toNat : Int)) (by rw [Nat.mul_one]; exact List.getElem?_toArray.trans (bytesOf_get k1 hi))
    have p2 := run_part_plain (P := Try.prog) w plain_u8 (xs := (bytesOf n k2).toArray) (off := i * 1) (v := .int .u8 ((k2 i).toNat : Int)) (by rw [Nat.mul_one]; exact List.getElem?_toArray.trans (bytesOf_get k2 hi))
    have p3 := run_equalIn_int (P := Try.prog) w d 5 .u8 .u8 ((k1 i).toNat : Int) ((k2 i).toNat : Int) Try.underlying5
    simp only [Op.eqItems, Sem.run_bind, p1, p2, p3, Result.andThen_ok]
    have hb : (((k1 i).toNat : Int) == ((k2 i).toNat : Int)) = (k1 i == k2 i) := by
      rw [Bool.eq_iff_iff, beq_iff_eq, beq_iff_eq]
      constructor
      · intro e; exact UInt8.toNat_inj.mp (by omega)
      · intro e; rw [e]
    rw [hb, List.all_cons]
    cases k1 i == k2 i
    · simp
    · simpa using ih

theorem key_underlying : ∃ i, Try.prog.info? 5 = some i ∧ Try.prog.underlying 23 = some (.array 32 5) := by
  have h : (Try.prog.info? 5).map (fun i => (i.zero, i.size, i.bytes)) = some (some (.int .u8 0), 1, 1) := by kernel_rfl
  obtain ⟨i0, hi0, _⟩ := info_parts h
  exact ⟨i0, hi0, Try.underlying23⟩

theorem run_keyEq (w : World) (k1 k2 : Nat → UInt8) : (binOp .eql 23 (.agg (bytesOf 32 k1).toArray) (.agg (bytesOf 32 k2).toArray)).run Try.prog w = .ok (.bool (keyEq k1 k2)) w := by
  obtain ⟨i, hi, hu⟩ := key_underlying
  rw [run_eql_struct, run_equalIn_array w 9999 _ _ hu hi, cells_u8, eqItems_bytes w 9998 32 k1 k2 (List.range 32) (fun j hj => List.mem_range.mp hj)]
  rfl
theorem run_keyNe (w : World) (k1 k2 : Nat → UInt8) : (binOp .neq 23 (.agg (bytesOf 32 k1).toArray) (.agg (bytesOf 32 k2).toArray)).run Try.prog w = .ok (.bool (!keyEq k1 k2)) w := by
  obtain ⟨i, hi, hu⟩ := key_underlying
  rw [run_neq_struct, run_equalIn_array w 9999 _ _ hu hi, cells_u8, eqItems_bytes w 9998 32 k1 k2 (List.range 32) (fun j hj => List.mem_range.mp hj)]
  rfl
end Go.Proofs.Ytnhggaghidbniaa
