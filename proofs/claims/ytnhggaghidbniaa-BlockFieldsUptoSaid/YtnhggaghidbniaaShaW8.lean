/- sha.Sum, Len, and the methods of a nil Digest. -/
import Derived.Test.YtnhggaghidbniaaShaW7
namespace Go.Proofs.Ytnhggaghidbniaa
open Go.RowKit
set_option linter.unusedVariables false
open ShaW Sha

theorem write_nil (w : World) (A : Option Addr) (n c : Nat) :
    Calls Try.prog 48 #[.pointer none, .slice A n c] w fun e w' => e = .returned (.tuple #[]) ∧ w = w' := by
  go_enter Try.func48, Try.ntmps48
  go_wp2
  exact bodyPost_ret (results_none rfl _ _ _) rfl ⟨rfl, rfl⟩
theorem ret_row {w : World} {b : Nat} {t : TypeId} {φ : Nat → Value} (h : w.rowIs b t 32 φ) : ∃ old, w.heap[b]? = some (.cells old t (0, 0)) ∧ old.size = 32 := by
  obtain ⟨cs, h1, h2, _⟩ := h
  exact ⟨cs, h1, h2⟩

set_option maxRecDepth 100000 in
set_option maxHeartbeats 1000000 in
theorem dsum_nil (w : World) :
    Calls Try.prog 49 #[.pointer none] w fun e w' => e = .returned (keyV (fun _ => 0)) ∧ Below w.heap.size w w' := by
  go_enter Try.func49, Try.ntmps49
  go_upto_region 2 with (fail)
  generalize hwa : World.alloc (World.alloc w _) _ = wa
  have hb : Below w.heap.size w wa := by rw [← hwa]; exact ((Below.refl _ _).alloc (Nat.le_refl _) _).alloc (by simp) _
  have hr : wa.rowIs w.heap.size 23 32 (fun _ => .int .u8 0) := by rw [← hwa]; exact (zero_row w 23 _ rfl _ rfl).alloc _
  have ho : wa.rowIs (w.heap.size + 1) 23 32 (fun i => .int .u8 (((fun _ => 0 : Nat → UInt8) i).toNat : Int)) := by rw [← hwa]; exact zero_row _ 23 _ (by simp) _ rfl
  clear hwa
  have hko := key_heap ho
  obtain ⟨old, hkr, hold⟩ := ret_row hr
  obtain ⟨ks, hks⟩ : ∃ ks, (bytesOf 32 (fun _ => 0)).toArray = ks := ⟨_, rfl⟩
  have hks1 : ks.size = 32 := by rw [← hks]; simp only [List.size_toArray]; exact bytesOf_length _ _
  have hks2 : ks.all (·.oneCell') = true := by
    rw [← hks]
    exact all_one _ (bytesOf_one _ _)
  rw [hks] at hko
  have HKO := Lib.hid hko
  have HKR := Lib.hid hkr
  have HKS := Lib.hid hks
  have HB := Lib.hid hb
  clear hko hkr hks hb hr ho
  go_wp2_with (first
    | (refine wpList_load_row rfl 23 (.tmp 3) rfl (w.heap.size + 1) rfl _ ks (0, 0) _ HKO.out Try.underlying23 rfl (by rw [hks1]; kernel_rfl) ?_)
    | (refine wpList_store_rowTo rfl 23 (.tmp 2) (.tmp 12) rfl rfl w.heap.size ks rfl rfl _ _ HKR.out (by rw [hks1]; kernel_rfl) (by rw [hks1, hold]) hks2 ?_))
  refine bodyPost_ret (results_cell_row rfl _ _ w.heap.size _ ks (0, 0) _ rfl (setRow_same _ _ _ _ _ HKR.out) Try.underlying23 rfl (by rw [hks1]; kernel_rfl)) rfl ⟨?_, ?_⟩
  · rw [← HKS.out]
  · exact below_setRow HB.out (Nat.le_refl _) _

set_option maxRecDepth 100000 in
set_option maxHeartbeats 1000000 in
theorem sum_any (w : World) (A : Option Addr) (n c : Nat) (f : Nat → UInt8) (hr : Reads w w.heap.size 1 A n (bytesOf n f)) (hn : n ≤ 1099511627776) :
    Calls Try.prog 34 #[.slice A n c] w fun e w' => e = .returned (keyV (sha n f)) ∧ Below w.heap.size w w' := by
  have HR := Lib.hid hr
  clear hr
  go_enter Try.func34, Try.ntmps34
  go_wp2_with fail
  generalize hwa : World.alloc w _ = wa
  have hb0 : Below w.heap.size w wa := by rw [← hwa]; exact ((Below.refl _ _).alloc (Nat.le_refl _) _)
  have hr0 : wa.rowIs w.heap.size 23 32 (fun _ => .int .u8 0) := by rw [← hwa]; exact (zero_row w 23 _ rfl _ rfl)
  have hs0 : wa.heap.size = w.heap.size + 1 := by rw [← hwa]; simp
  clear hwa
  refine (new_any _ f).mono ?_
  rintro e w1 ⟨rfl, hb1, hd1⟩
  have hs1 := hb1.size
  have hb1' : Below w.heap.size w w1 := hb0.trans (hb1.mono (by omega))
  have hr1' := hr0.of_block (hb1.block _ hr0.lt)
  have HRA := Lib.hid hr1'
  have HS0 := Lib.hid hs0
  clear hr1' hs0 hr0 hb0
  have hr1 := (HR.out.below hb1').more hb1'.size
  have HD1 := Lib.hid hd1
  have HR1 := Lib.hid hr1
  have HB1 := Lib.hid hb1'
  clear hd1 hr1 hb1 hb1'
  go_wp2_with fail
  refine (write_any w1 _ _ 0 n f f A c HD1.out HR1.out (by omega) hs1).mono ?_
  rintro e w2 ⟨rfl, hg2, hd2⟩
  have HG2 := Lib.hid hg2
  have HD2 := Lib.hid hd2
  clear hg2 hd2
  go_wp2_with fail
  refine (dsum_any w2 _ _ _ _ HD2.out (by omega)).mono ?_
  rintro e w3 ⟨rfl, hb3⟩
  have hret : ∃ old, w3.heap[w.heap.size]? = some (.cells old 23 (0, 0)) ∧ old.size = 32 := by
    refine ret_row (φ := fun _ => .int .u8 0) ?_
    have h1 := HRA.out
    have h2 := h1.of_block (HG2.out.block _ h1.lt (by simp; have := HS0.out; omega))
    exact h2.of_block (hb3.block _ h2.lt)
  obtain ⟨old, hkr, hold⟩ := hret
  obtain ⟨ks, hks⟩ : ∃ ks, (bytesOf 32 (sha (0 + n) (glue 0 f f))).toArray = ks := ⟨_, rfl⟩
  have hks1 : ks.size = 32 := by rw [← hks]; simp only [List.size_toArray]; exact bytesOf_length _ _
  have hks2 : ks.all (·.oneCell') = true := by
    rw [← hks]
    exact all_one _ (bytesOf_one _ _)
  rw [show keyV (sha (0 + n) (glue 0 f f)) = .agg ks from by rw [← hks]]
  have HKS := Lib.hid hks
  have HKR := Lib.hid hkr
  have HB3 := Lib.hid hb3
  clear hks hkr hb3
  go_wp2_with (refine wpList_store_rowTo rfl 23 (.tmp 2) (.tmp 9) rfl rfl w.heap.size ks rfl rfl _ _ HKR.out (by rw [hks1]; kernel_rfl) (by rw [hks1, hold]) hks2 ?_)
  refine bodyPost_ret (results_cell_row rfl _ _ w.heap.size _ ks (0, 0) _ rfl (setRow_same _ _ _ _ _ HKR.out) Try.underlying23 rfl (by rw [hks1]; kernel_rfl)) rfl ⟨?_, ?_⟩
  · rw [← HKS.out]
    show Ending.returned (.agg _) = Ending.returned (.agg _)
    rw [Nat.zero_add, sha_congr (f := glue 0 f f) (f' := f) (fun j hj => rfl)]
  · have h2 : Below w.heap.size w w2 := ⟨HG2.out.os.trans HB1.out.os, HG2.out.tape.trans HB1.out.tape, HG2.out.output.trans HB1.out.output, Nat.le_trans HB1.out.size HG2.out.size, fun i hi => (HG2.out.block i (Nat.lt_of_lt_of_le hi HB1.out.size) (by simp; have := HS0.out; omega)).trans (HB1.out.block i hi)⟩
    exact below_setRow (h2.trans (HB3.out.mono h2.size)) (Nat.le_refl _) _
end Go.Proofs.Ytnhggaghidbniaa
