/- Format, of the program and of the reference. -/
import Derived.Test.YtbhklhpeppaadaaKeyBd
import Derived.Test.YtbhklhpeppaadaaKeySpec
import Derived.Test.YtbhklhpeppaadaaShaW8
import Derived.Test.YtbhklhpeppaadaaListB
import Derived.Test.YtbhklhpeppaadaaOnly
import Derived.Deep.MidRow
import Derived.Deep.QuietTactic
import Derived.BigQuiet
namespace Go.Proofs.Ytbhklhpeppaadaa
open Go.RowKit
set_option linter.unusedVariables false
set_option linter.unusedSimpArgs false
open ShaW Sha

theorem dig_index (q : Nat) (hq : q < 16) (w : World) : (Instr.index 9 (.string ⟨#[48, 49, 50, 51, 52, 53, 54, 55, 56, 57, 97, 98, 99, 100, 101, 102]⟩) (.int .u8 (q : Int))).run Try.prog w = .ok (.int .u8 ((hexD q).toNat : Int)) w := by
  have : q = 0 ∨ q = 1 ∨ q = 2 ∨ q = 3 ∨ q = 4 ∨ q = 5 ∨ q = 6 ∨ q = 7 ∨ q = 8 ∨ q = 9 ∨ q = 10 ∨ q = 11 ∨ q = 12 ∨ q = 13 ∨ q = 14 ∨ q = 15 := by omega
  rcases this with rfl | rfl | rfl | rfl | rfl | rfl | rfl | rfl | rfl | rfl | rfl | rfl | rfl | rfl | rfl | rfl <;> (show _ = _; kernel_rfl)
theorem key_index (k : Nat → UInt8) (i : Nat) (hi : i < 32) (w : World) : (Instr.index 25 (.agg (bytesOf 32 k).toArray) (.int .i64 (i : Int))).run Try.prog w = .ok (.int .u8 ((k i).toNat : Int)) w := by
  obtain ⟨i0, hi0, hz0, hz1, hz2⟩ := info_parts byte_info
  have hget : (bytesOf 32 k).toArray[i]? = some (.int .u8 ((k i).toNat : Int)) := List.getElem?_toArray.trans (bytesOf_get k hi)
  have hagg : (isAgg 5).run Try.prog w = .ok false w := by
    unfold isAgg
    rw [Sem.run_bind, run_underlying Try.underlying5 w]
    rfl
  simp only [Instr.index, asIntOf, Sem.run_bind, Sem.run_pure, Result.andThen_ok, run_underlying Try.underlying25 w]
  rw [if_pos ⟨by omega, by omega⟩]
  have hget' : (bytesOf 32 k)[i]? = some (.int .u8 ((k i).toNat : Int)) := bytesOf_get k hi
  simp [part, hagg, sizeOf, typeInfo, hi0, hz1, hget', Sem.run_bind]

set_option maxRecDepth 100000 in
set_option maxHeartbeats 1000000 in
theorem format_any (w : World) (k : Nat → UInt8) :
    Calls Try.prog 12 #[keyV k] w fun e w' => e = .returned (.string ⟨(hexL k 32).toArray⟩) ∧ Below w.heap.size w w' := by
  have hix := fun i hi w => key_index k i hi w
  have hr1 : ∀ o, ((w.alloc (.cells (bytesOf 32 k).toArray 25)).alloc o).rangeAt w.heap.size 0 (bytesOf 32 k) := fun o j v hv => by
    rw [Nat.zero_add]
    have h1 : Blk ((w.alloc (.cells (bytesOf 32 k).toArray 25)).alloc o) w.heap.size 25 (bytesOf 32 k).toArray := (Blk.new w _ _).alloc _
    rw [h1.cell]
    exact List.getElem?_toArray.trans hv
  have hb0 : ∀ cx : Array Value, Lib.IsBuilder 48 5 (w.heap.size + 1) (w.heap.size + 1) [] ((w.alloc (.cells cx 25)).alloc (.cells #[.pointer none, .slice none 0 0] 48)) := fun cx => by
    have h := Lib.fresh_isBuilder 48 5 (w.alloc (.cells cx 25))
    rw [show (w.alloc (.cells cx 25)).heap.size = w.heap.size + 1 by simp] at h
    exact h
  obtain ⟨cx, hcx⟩ : ∃ cx, (bytesOf 32 k).toArray = cx := ⟨_, rfl⟩
  show Calls _ _ #[.agg (bytesOf 32 k).toArray] _ _
  rw [hcx] at hix hr1 ⊢
  have HIX := Lib.hid hix
  have HCX := Lib.hid hcx
  have HR1 := Lib.hid hr1
  have HBD := Lib.hid (hb0 cx)
  clear hix hcx hr1 hb0
  go_enter Try.func12, Try.ntmps12
  go_wp2_with (refine wpList_load_mid rfl 25 (.tmp 1) rfl w.heap.size 0 rfl (bytesOf 32 k) _ (HR1.out _) Try.underlying25 rfl (by rw [bytesOf_length]; kernel_rfl) ?_)
  rw [HCX.out]
  generalize hwa : World.alloc (World.alloc w _) _ = wa
  rw [hwa] at HBD
  have hba : Below w.heap.size w wa := by rw [← hwa]; exact ((Below.refl _ _).alloc (Nat.le_refl _) _).alloc (by simp) _
  have hza : wa.heap.size = w.heap.size + 1 + 1 := by rw [← hwa]; simp
  have HBA := Lib.hid hba
  have HZA := Lib.hid hza
  clear hwa hba hza
  go_loopw [7] (fun i wr => ∃ n : Nat, n ≤ 32 ∧ i = .int .i64 (n : Int) ∧ Lib.IsBuilder 48 5 (w.heap.size + 1) (w.heap.size + 1) (Lib.byteCells (hexL k n)) wr ∧ Below (w.heap.size + 1) wa wr) (fun i _ => 32 - (intOf i).toNat)
  case atStart => exact ⟨0, by omega, rfl, HBD.out, Below.refl _ _⟩
  case round =>
    obtain ⟨n, hn, rfl, hbd, hbw⟩ := hrel
    have HBD := Lib.hid hbd
    have HBW := Lib.hid hbw
    have hzw : w.heap.size + 1 ≤ wr.heap.size := by have := hbw.size; have := HZA.out; omega
    clear hbd hbw
    rcases Nat.lt_or_ge n 32 with hlt | hge
    · have hlt' : (n : Int) < 32 := by omega
      obtain ⟨a, ha⟩ : ∃ a, (k n).toNat = a := ⟨_, rfl⟩
      have hix := HIX.out n hlt
      rw [ha] at hix
      have hal : a < 256 := by rw [← ha]; exact (k n).toNat_lt
      have dg := fun w => dig_index (a / 16) (by omega) w
      have dg2 := fun w => dig_index (a % 16) (by omega) w
      have e1 : (((a / 16 : Nat) : Nat) : Int) = (a : Int) / 16 := by omega
      have e2 : (((a % 16 : Nat) : Nat) : Int) = (a : Int) % 16 := by omega
      rw [e1] at dg
      rw [e2] at dg2
      have HA := Lib.hid ha
      clear e1 e2 ha
      go_wp2_with fail
      refine (bd_byte (w.heap.size + 1) (w.heap.size + 1) _ _ wr HBD.out (by rw [Lib.byteCells_length, hexL_length]; omega) hzw).mono ?_
      rintro e w1 ⟨rfl, hbd1, hbw1⟩
      have HBD1 := Lib.hid hbd1
      have HBW1 := Lib.hid (HBW.out.trans hbw1)
      have hz1 := hbw1.size
      clear hbd1 hbw1
      go_wp2_with fail
      refine (bd_byte (w.heap.size + 1) (w.heap.size + 1) _ _ w1 HBD1.out (by rw [List.length_append, Lib.byteCells_length, hexL_length]; simp; omega) (by omega)).mono ?_
      rintro e w2 ⟨rfl, hbd2, hbw2⟩
      have HBD2 := Lib.hid hbd2
      have HBW2 := Lib.hid (HBW1.out.trans hbw2)
      clear hbd2 hbw2
      go_wp2_with fail
      go_roundw
      case rel =>
        refine ⟨n + 1, by omega, by go_num, ?_, HBW2.out⟩
        have h := HBD2.out
        have e : Lib.byteCells (hexL k (n + 1)) = Lib.byteCells (hexL k n) ++ [.int .u8 ((hexD (a / 16)).toNat : Int)] ++ [.int .u8 ((hexD (a % 16)).toNat : Int)] := by
          rw [show hexL k (n + 1) = hexL k n ++ [hexD ((k n).toNat / 16), hexD ((k n).toNat % 16)] from rfl, HA.out, Lib.byteCells_append, List.append_assoc]
          rfl
        rw [e]
        exact h
      case measure => simp [intOf]; omega
    · have hge' : ¬ (n : Int) < 32 := by omega
      obtain rfl : n = 32 := by omega
      go_wp2_with fail
      refine (Try.Builder_String_any (w.heap.size + 1) (w.heap.size + 1) _ wr HBD.out hzw).mono ?_
      rintro e w1 ⟨rfl, hbw1⟩
      have HBW1 := Lib.hid (HBW.out.trans hbw1)
      clear hbw1
      go_wp2_with fail
      go_ret
      exact ⟨rfl, HBA.out.trans (HBW1.out.mono (by omega))⟩

theorem and15 (a : Nat) (ha : a < 256) : bits BinOp.and IntKind.u8 (a : Int) 15 = (a : Int) % 16 := by
  have h : ∀ n : Fin 256, bits BinOp.and IntKind.u8 (n.val : Int) 15 = (n.val : Int) % 16 := by decide +kernel
  exact h ⟨a, ha⟩
theorem dig_slice (q : Nat) (hq : q < 16) (w : World) : (Instr.sliceAt 9 (.string ⟨#[48, 49, 50, 51, 52, 53, 54, 55, 56, 57, 97, 98, 99, 100, 101, 102]⟩) (some (.int .u8 (q : Int))) (some (.int .u8 ((q + 1 : Nat) : Int))) none).run Try.prog w = .ok (.string ⟨#[hexD q]⟩) w := by
  have : q = 0 ∨ q = 1 ∨ q = 2 ∨ q = 3 ∨ q = 4 ∨ q = 5 ∨ q = 6 ∨ q = 7 ∨ q = 8 ∨ q = 9 ∨ q = 10 ∨ q = 11 ∨ q = 12 ∨ q = 13 ∨ q = 14 ∨ q = 15 := by omega
  rcases this with rfl | rfl | rfl | rfl | rfl | rfl | rfl | rfl | rfl | rfl | rfl | rfl | rfl | rfl | rfl | rfl <;> (show _ = _; kernel_rfl)

set_option maxRecDepth 100000 in
set_option maxHeartbeats 1000000 in
theorem hex_any (w : World) (A : Option Addr) (m c : Nat) (k : Nat → UInt8) (hr : Reads w w.heap.size 1 A m (bytesOf m k)) (hm : m ≤ 1048576) :
    Calls Try.prog 26 #[.slice A m c] w fun e w' => e = .returned (.string ⟨(hexL k m).toArray⟩) ∧ ∃ n, w' = w.drewN n := by
  have HR := Lib.hid hr
  clear hr
  go_enter Try.func26, Try.ntmps26
  go_wp2_with fail
  go_loopw [3, 8] (fun s i wr => ∃ n : Nat, n ≤ m ∧ i = .int .i64 (n : Int) ∧ s = .string ⟨(hexL k n).toArray⟩ ∧ ∃ q, wr = w.drewN q) (fun _ i _ => m - (intOf i).toNat)
  case atStart => exact ⟨0, by omega, rfl, rfl, 0, rfl⟩
  case round =>
    obtain ⟨n, hn, rfl, rfl, q, rfl⟩ := hrel
    rcases Nat.lt_or_ge n m with hlt | hge
    · have hlt' : (n : Int) < m := by omega
      obtain ⟨a, ha⟩ : ∃ a, (k n).toNat = a := ⟨_, rfl⟩
      have hal : a < 256 := by rw [← ha]; exact (k n).toNat_lt
      obtain ⟨ad, u, rfl, hab, hu, hcell⟩ := HR.out.at_ hlt
      rw [bytesOf_get k hlt, ha] at hu
      injection hu with hu
      subst hu
      have hcell : (w.drewN q).cell? (ad.add n) = some (.int .u8 (a : Int)) := hcell
      have d1 := fun w => dig_slice (a / 16) (by omega) w
      have d2 := fun w => dig_slice (a % 16) (by omega) w
      have e1 : ((a / 16 : Nat) : Int) = (a : Int) / 16 := by omega
      have e2 : ((a % 16 : Nat) : Int) = (a : Int) % 16 := by omega
      have e3 : ((a / 16 + 1 : Nat) : Int) = (a : Int) / 16 + 1 := by omega
      have e4 : ((a % 16 + 1 : Nat) : Int) = (a : Int) % 16 + 1 := by omega
      rw [e1, e3] at d1
      rw [e2, e4] at d2
      have f1 : IntKind.u8.wrap ((a : Int) / 16 + 1) = (a : Int) / 16 + 1 := IntWalk.u8_in _ (by omega)
      have f2 : IntKind.u8.wrap ((a : Int) % 16 + 1) = (a : Int) % 16 + 1 := IntWalk.u8_in _ (by omega)
      have f3 := and15 a hal
      have hsum : ∀ w, (Op.stringOp .add ⟨(hexL k n).toArray⟩ (⟨#[hexD (a / 16)]⟩ ++ ⟨#[hexD (a % 16)]⟩)).run Try.prog w = .ok (.string ⟨(hexL k (n + 1)).toArray⟩) w := fun w => by
        have hl := hexL_length k n
        refine (run_string_add_sum w _ _ ?_).trans ?_
        · show (hexL k n).toArray.size + 2 ≤ _
          rw [List.size_toArray]
          omega
        congr 2
        rw [show hexL k (n + 1) = hexL k n ++ [hexD ((k n).toNat / 16), hexD ((k n).toNat % 16)] from rfl, ha]
        apply ByteArray.ext
        simp [ByteArray.data_append]
      have HA := Lib.hid ha
      clear e1 e2 e3 e4 ha
      go_wp2_with fail
      go_quiet (fail)
      go_wp2_with fail
      go_roundw
      case rel => exact ⟨n + 1, by omega, by go_num, rfl, q + nq, rfl⟩
      case measure => simp [intOf]; omega
    · have hge' : ¬ (n : Int) < m := by omega
      obtain rfl : n = m := by omega
      go_wp2_with fail
      go_ret
      exact ⟨rfl, q, rfl⟩

set_option maxRecDepth 100000 in
set_option maxHeartbeats 1000000 in
theorem rformat_any (w : World) (k : Nat → UInt8) :
    Calls Try.prog 13 #[keyV k] w fun e w' => e = .returned (.string ⟨(hexL k 32).toArray⟩) ∧ Below w.heap.size w w' := by
  have hr : Reads (w.alloc (.cells (bytesOf 32 k).toArray 25)) (w.alloc (.cells (bytesOf 32 k).toArray 25)).heap.size 1 (some ⟨w.heap.size, 0, none⟩) 32 (bytesOf 32 k) :=
    Reads.flat (o := 0) (fun _ => ⟨rfl, by simp⟩) (fun j hj => by
      have h1 : Blk (w.alloc (.cells (bytesOf 32 k).toArray 25)) w.heap.size 25 (bytesOf 32 k).toArray := Blk.new w _ _
      rw [Nat.zero_add, h1.cell]
      exact List.getElem?_toArray.trans (bytesOf_get _ hj))
  obtain ⟨cx, hcx⟩ : ∃ cx, (bytesOf 32 k).toArray = cx := ⟨_, rfl⟩
  show Calls _ _ #[.agg (bytesOf 32 k).toArray] _ _
  rw [hcx] at hr ⊢
  have HR := Lib.hid hr
  clear hcx hr
  go_enter Try.func13, Try.ntmps13
  go_wp2_with fail
  refine (hex_any _ _ 32 32 k HR.out (by omega)).mono ?_
  rintro e w1 ⟨rfl, q, rfl⟩
  go_wp2_with fail
  go_ret
  exact ⟨rfl, below_drewN ((Below.refl _ _).alloc (Nat.le_refl _) _) q⟩
end Go.Proofs.Ytbhklhpeppaadaa
