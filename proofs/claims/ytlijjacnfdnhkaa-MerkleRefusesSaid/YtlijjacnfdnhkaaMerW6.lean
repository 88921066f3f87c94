/- Verify, of the program and of the reference. -/
import Derived.Test.YtlijjacnfdnhkaaMerW5
import Derived.Test.YtlijjacnfdnhkaaMerW5r
import Derived.Test.YtlijjacnfdnhkaaKeyEq
namespace Go.Proofs.Ytlijjacnfdnhkaa
open Go.RowKit
set_option linter.unusedVariables false
open ShaW Sha

/-- what Verify says of a leaf's key -/
def verifyB (root lf : Ky) (i n : Nat) (ps : List Ky) : Bool := (climbK lf i n (fun r => ps.getD r (fun _ => 0)) ps.length).2 && keyEq (climbK lf i n (fun r => ps.getD r (fun _ => 0)) ps.length).1 root

set_option maxRecDepth 100000 in
set_option maxHeartbeats 1000000 in
attribute [local go_sem ↓] wp_load_k in
theorem mverify_any (w : World) (root : Ky) (A : Option Addr) (l c : Nat) (f : Nat → UInt8) (i n : Nat) (P : Option Addr) (m cp : Nat) (ps : List Ky) (hr : Reads w w.heap.size 1 A l (bytesOf l f)) (hl : l ≤ 1073741823) (hin : i < n) (hn : n ≤ 1073741823) (hk : KeysAt w P m cp ps) (hm64 : m ≤ 64) :
    Calls Try.prog 19 #[keyV root, .slice A l c, .int .i64 (i : Int), .int .i64 (n : Int), .slice P m cp] w fun e w' => e = .returned (.bool (verifyB root (leafK l f) i n ps)) ∧ Below w.heap.size w w' := by
  have hpm : ps.length = m := hk.1
  obtain ⟨R, hR⟩ : ∃ R, verifyB root (leafK l f) i n ps = R := ⟨_, rfl⟩
  rw [hR]
  have HRR := Lib.hid hR
  have HK := Lib.hid hk
  have HR := Lib.hid hr
  obtain ⟨cr, hcr⟩ : ∃ cr, (bytesOf 32 root).toArray = cr := ⟨_, rfl⟩
  show Calls _ _ #[.agg (bytesOf 32 root).toArray, _, _, _, _] _ _
  rw [hcr]
  have HCR := Lib.hid hcr
  clear hR hk hr hcr
  have q0 : ¬ (n : Int) ≤ i := by omega
  have q1 : (m : Int) ≤ 64 := by omega
  go_enter Try.func19, Try.ntmps19
  go_upto_region 1 with (fail)
  generalize hwa : World.alloc w _ = wa
  have hb0 : Below w.heap.size w wa := by rw [← hwa]; exact (Below.refl _ _).alloc (Nat.le_refl _) _
  have hk0 : Blk wa w.heap.size 24 (bytesOf 32 root).toArray := by rw [← hwa, HCR.out]; exact Blk.new w _ cr
  clear hwa
  have HB0 := Lib.hid hb0
  have HK0 := Lib.hid hk0
  have HRD := Lib.hid ((HR.out.below hb0).more hb0.size)
  have HKY := Lib.hid (HK.out.below hb0)
  clear hb0 hk0
  go_wp2_with fail
  refine (mleaf_any wa A l c f HRD.out (by omega)).mono ?_
  rintro e w1 ⟨rfl, hb1⟩
  obtain ⟨kl, hkl⟩ : ∃ kl, leafK l f = kl := ⟨_, rfl⟩
  rw [hkl] at HRR ⊢
  have HB1 := Lib.hid (HB0.out.trans (hb1.mono HB0.out.size))
  have HK1 := Lib.hid (HK0.out.below hb1 HK0.out.lt)
  have HKY1 := Lib.hid (HKY.out.below hb1)
  clear hb1 hkl HKY HB0 HK0 HRD
  go_wp2_with fail
  refine (mclimb_any n (by omega) hn w1 kl i P m cp ps hin HKY1.out).mono ?_
  obtain ⟨⟨kx, okx⟩, hX⟩ : ∃ X, climbK kl i n (fun r => ps.getD r (fun _ => 0)) m = X := ⟨_, rfl⟩
  rw [hX]
  have hfin : Hid (R = (okx && keyEq kx root)) := by
    show _ = _
    rw [← HRR.out]
    unfold verifyB
    rw [hpm, hX]
  clear hX
  rintro e w2 ⟨rfl, hb2⟩
  have HB2 := Lib.hid (HB1.out.trans (hb2.mono HB1.out.size))
  have HK2 := Lib.hid (HK1.out.below hb2 HK1.out.lt)
  have hz2 := HB2.out.size
  clear hb2 HB1 HK1 HKY1
  have heq : ∀ W, (binOp .eql 24 (keyV kx) (keyV root)).run Try.prog W = .ok (.bool (keyEq kx root)) W := fun W => run_keyEq W kx root
  obtain ⟨bq, hbq⟩ : ∃ bq, keyEq kx root = bq := ⟨_, rfl⟩
  rw [hbq] at heq hfin
  clear hbq
  cases okx with
  | true =>
    have hf : R = bq := hfin.out
    subst hf
    go_wp2_with (refine wpList_store_rowTo rfl 24 (.tmp 11) (.tmp 27) rfl rfl w2.heap.size (bytesOf 32 kx).toArray rfl rfl _ _ (heap_alloc_new _ _) (by rw [keyV_size]; kernel_rfl) (by rw [keyV_size]; kernel_rfl) (keyV_one _) ?_
                 generalize hwc : World.setRow _ _ _ = wc
                 have hkc : Blk wc w2.heap.size 24 (bytesOf 32 kx).toArray := by rw [← hwc]; exact setRow_same _ _ _ _ _ (heap_alloc_new _ _)
                 have hkr : Blk wc w.heap.size 24 (bytesOf 32 root).toArray := by rw [← hwc]; exact (setRow_other _ _ _ _ (by have := HK2.out.lt; omega)).trans (HK2.out.alloc _)
                 have HBC : Hid (Below w.heap.size w wc) := by
                   show Below _ _ _
                   rw [← hwc]
                   exact below_setRow (HB2.out.alloc hz2 _) hz2 _
                 clear hwc
                 have hok1 := keyOk_mk (blk_key hkc)
                 have hlk1 := loadK_eq (blk_key hkc)
                 have hok2 := keyOk_mk (blk_key hkr)
                 have hlk2 := loadK_eq (blk_key hkr)
                 clear hkc hkr)
    go_ret
    exact ⟨rfl, HBC.out⟩
  | false =>
    have hf : R = false := hfin.out
    subst hf
    go_wp2_with (refine wpList_store_rowTo rfl 24 (.tmp 11) (.tmp 27) rfl rfl w2.heap.size (bytesOf 32 kx).toArray rfl rfl _ _ (heap_alloc_new _ _) (by rw [keyV_size]; kernel_rfl) (by rw [keyV_size]; kernel_rfl) (keyV_one _) ?_
                 generalize hwc : World.setRow _ _ _ = wc
                 have HBC : Hid (Below w.heap.size w wc) := by
                   show Below _ _ _
                   rw [← hwc]
                   exact below_setRow (HB2.out.alloc hz2 _) hz2 _
                 clear hwc)
    go_ret
    exact ⟨rfl, HBC.out⟩

set_option maxRecDepth 100000 in
theorem mverify_out (w : World) (root : Ky) (A : Option Addr) (l c : Nat) (i n : Int) (P : Option Addr) (m cp : Nat) (h : i < 0 ∨ n ≤ i) :
    Calls Try.prog 19 #[keyV root, .slice A l c, .int .i64 i, .int .i64 n, .slice P m cp] w fun e w' => e = .returned (.bool false) ∧ Below w.heap.size w w' := by
  show Calls _ _ #[.agg (bytesOf 32 root).toArray, _, _, _, _] _ _
  generalize (bytesOf 32 root).toArray = cr
  by_cases h0 : i < 0
  · go_enter Try.func19, Try.ntmps19
    go_wp2_with fail
    go_ret
    exact ⟨rfl, (Below.refl _ _).alloc (Nat.le_refl _) _⟩
  · have h1 : n ≤ i := by omega
    go_enter Try.func19, Try.ntmps19
    go_wp2_with fail
    go_ret
    exact ⟨rfl, (Below.refl _ _).alloc (Nat.le_refl _) _⟩

set_option maxRecDepth 100000 in
set_option maxHeartbeats 1000000 in
attribute [local go_sem ↓] wp_load_k in
theorem rverify_any (w : World) (root : Ky) (A : Option Addr) (l c : Nat) (f : Nat → UInt8) (i n : Nat) (P : Option Addr) (m cp : Nat) (ps : List Ky) (hr : Reads w w.heap.size 1 A l (bytesOf l f)) (hl : l ≤ 1073741823) (hin : i < n) (hn : n ≤ 1073741823) (hk : KeysAt w P m cp ps) (hm64 : m ≤ 64) :
    Calls Try.prog 20 #[keyV root, .slice A l c, .int .i64 (i : Int), .int .i64 (n : Int), .slice P m cp] w fun e w' => e = .returned (.bool (verifyB root (leafK l f) i n ps)) ∧ Below w.heap.size w w' := by
  have hpm : ps.length = m := hk.1
  obtain ⟨R, hR⟩ : ∃ R, verifyB root (leafK l f) i n ps = R := ⟨_, rfl⟩
  rw [hR]
  have HRR := Lib.hid hR
  have HK := Lib.hid hk
  have HR := Lib.hid hr
  obtain ⟨cr, hcr⟩ : ∃ cr, (bytesOf 32 root).toArray = cr := ⟨_, rfl⟩
  show Calls _ _ #[.agg (bytesOf 32 root).toArray, _, _, _, _] _ _
  rw [hcr]
  have HCR := Lib.hid hcr
  clear hR hk hr hcr
  have q0 : ¬ (n : Int) ≤ i := by omega
  have q1 : (m : Int) ≤ 64 := by omega
  go_enter Try.func20, Try.ntmps20
  go_upto_region 1 with (fail)
  generalize hwa : World.alloc w _ = wa
  have hb0 : Below w.heap.size w wa := by rw [← hwa]; exact (Below.refl _ _).alloc (Nat.le_refl _) _
  have hk0 : Blk wa w.heap.size 24 (bytesOf 32 root).toArray := by rw [← hwa, HCR.out]; exact Blk.new w _ cr
  clear hwa
  have HB0 := Lib.hid hb0
  have HK0 := Lib.hid hk0
  have HRD := Lib.hid ((HR.out.below hb0).more hb0.size)
  have HKY := Lib.hid (HK.out.below hb0)
  clear hb0 hk0
  go_wp2_with fail
  refine (rleaf_any wa A l c f HRD.out (by omega)).mono ?_
  rintro e w1 ⟨rfl, hb1⟩
  obtain ⟨kl, hkl⟩ : ∃ kl, leafK l f = kl := ⟨_, rfl⟩
  rw [hkl] at HRR ⊢
  have HB1 := Lib.hid (HB0.out.trans (hb1.mono HB0.out.size))
  have HK1 := Lib.hid (HK0.out.below hb1 HK0.out.lt)
  have HKY1 := Lib.hid (HKY.out.below hb1)
  clear hb1 hkl HKY HB0 HK0 HRD
  go_wp2_with fail
  refine (rclimb_any n (by omega) hn w1 kl i P m cp ps hin HKY1.out).mono ?_
  obtain ⟨⟨kx, okx⟩, hX⟩ : ∃ X, climbK kl i n (fun r => ps.getD r (fun _ => 0)) m = X := ⟨_, rfl⟩
  rw [hX]
  have hfin : Hid (R = (okx && keyEq kx root)) := by
    show _ = _
    rw [← HRR.out]
    unfold verifyB
    rw [hpm, hX]
  clear hX
  rintro e w2 ⟨rfl, hb2⟩
  have HB2 := Lib.hid (HB1.out.trans (hb2.mono HB1.out.size))
  have HK2 := Lib.hid (HK1.out.below hb2 HK1.out.lt)
  have hz2 := HB2.out.size
  clear hb2 HB1 HK1 HKY1
  have heq : ∀ W, (binOp .eql 24 (keyV kx) (keyV root)).run Try.prog W = .ok (.bool (keyEq kx root)) W := fun W => run_keyEq W kx root
  obtain ⟨bq, hbq⟩ : ∃ bq, keyEq kx root = bq := ⟨_, rfl⟩
  rw [hbq] at heq hfin
  clear hbq
  cases okx with
  | true =>
    have hf : R = bq := hfin.out
    subst hf
    go_wp2_with (refine wpList_store_rowTo rfl 24 (.tmp 11) (.tmp 32) rfl rfl w2.heap.size (bytesOf 32 kx).toArray rfl rfl _ _ (heap_alloc_new _ _) (by rw [keyV_size]; kernel_rfl) (by rw [keyV_size]; kernel_rfl) (keyV_one _) ?_
                 generalize hwc : World.setRow _ _ _ = wc
                 have hkc : Blk wc w2.heap.size 24 (bytesOf 32 kx).toArray := by rw [← hwc]; exact setRow_same _ _ _ _ _ (heap_alloc_new _ _)
                 have hkr : Blk wc w.heap.size 24 (bytesOf 32 root).toArray := by rw [← hwc]; exact (setRow_other _ _ _ _ (by have := HK2.out.lt; omega)).trans (HK2.out.alloc _)
                 have HBC : Hid (Below w.heap.size w wc) := by
                   show Below _ _ _
                   rw [← hwc]
                   exact below_setRow (HB2.out.alloc hz2 _) hz2 _
                 clear hwc
                 have hok1 := keyOk_mk (blk_key hkc)
                 have hlk1 := loadK_eq (blk_key hkc)
                 have hok2 := keyOk_mk (blk_key hkr)
                 have hlk2 := loadK_eq (blk_key hkr)
                 clear hkc hkr)
    go_ret
    exact ⟨rfl, HBC.out⟩
  | false =>
    have hf : R = false := hfin.out
    subst hf
    go_wp2_with (refine wpList_store_rowTo rfl 24 (.tmp 11) (.tmp 32) rfl rfl w2.heap.size (bytesOf 32 kx).toArray rfl rfl _ _ (heap_alloc_new _ _) (by rw [keyV_size]; kernel_rfl) (by rw [keyV_size]; kernel_rfl) (keyV_one _) ?_
                 generalize hwc : World.setRow _ _ _ = wc
                 have HBC : Hid (Below w.heap.size w wc) := by
                   show Below _ _ _
                   rw [← hwc]
                   exact below_setRow (HB2.out.alloc hz2 _) hz2 _
                 clear hwc)
    go_ret
    exact ⟨rfl, HBC.out⟩

set_option maxRecDepth 100000 in
theorem rverify_out (w : World) (root : Ky) (A : Option Addr) (l c : Nat) (i n : Int) (P : Option Addr) (m cp : Nat) (h : i < 0 ∨ n ≤ i) :
    Calls Try.prog 20 #[keyV root, .slice A l c, .int .i64 i, .int .i64 n, .slice P m cp] w fun e w' => e = .returned (.bool false) ∧ Below w.heap.size w w' := by
  show Calls _ _ #[.agg (bytesOf 32 root).toArray, _, _, _, _] _ _
  generalize (bytesOf 32 root).toArray = cr
  by_cases h0 : i < 0
  · go_enter Try.func20, Try.ntmps20
    go_wp2_with fail
    go_ret
    exact ⟨rfl, (Below.refl _ _).alloc (Nat.le_refl _) _⟩
  · have h1 : n ≤ i := by omega
    go_enter Try.func20, Try.ntmps20
    go_wp2_with fail
    go_ret
    exact ⟨rfl, (Below.refl _ _).alloc (Nat.le_refl _) _⟩
end Go.Proofs.Ytlijjacnfdnhkaa
