/- Merkle trees: Leaf, Inner and half, of the program and of the reference. -/
import Derived.Test.YtnhggaghidbniaaMerSpec
import Derived.Test.YtnhggaghidbniaaListB
import Derived.Deep.RegionLaw
namespace Go.Proofs.Ytnhggaghidbniaa
open Go.RowKit
set_option linter.unusedVariables false
open ShaW Sha

theorem leaf_eq (n : Nat) (f : Nat → UInt8) : sha (0 + 1 + n) (glue (0 + 1) (glue 0 (fun _ => 0) (fun _ => 0)) f) = leafK n f := by
  unfold leafK
  rw [Nat.zero_add]
  refine sha_congr (fun j hj => ?_)
  unfold glue
  by_cases h : j < 1
  · rw [if_pos h, if_pos h]; split <;> rfl
  · rw [if_neg h, if_neg h]
theorem inner_eq (a b : Ky) : sha (0 + 1 + 32 + 32) (glue (0 + 1 + 32) (glue (0 + 1) (glue 0 (fun _ => 0) (fun _ => 1)) a) b) = innerK a b := by
  unfold innerK
  refine sha_congr (fun j hj => ?_)
  unfold glue
  by_cases h1 : j < 1
  · rw [if_pos (by omega), if_pos (by omega), if_neg (by omega), if_pos h1]
  · by_cases h2 : j < 33
    · rw [if_pos (by omega), if_neg (by omega), if_neg h1, if_pos (by omega)]
    · rw [if_neg (by omega), if_neg h1, if_neg (by omega)]
      congr 1

theorem inner_eq2 (a b : Ky) : sha (1 + 32 + 32) (glue (1 + 32) (glue 1 (fun _ => 1) a) b) = innerK a b := by
  unfold innerK
  refine sha_congr (fun j hj => ?_)
  unfold glue
  by_cases h1 : j < 1
  · rw [if_pos (by omega), if_pos h1, if_pos h1]
  · by_cases h2 : j < 33
    · rw [if_pos (by omega), if_neg h1, if_neg h1, if_pos (by omega)]
    · rw [if_neg (by omega), if_neg h1, if_neg (by omega)]
      congr 1

set_option maxRecDepth 100000 in
set_option maxHeartbeats 1000000 in
theorem mleaf_any (w : World) (A : Option Addr) (n c : Nat) (f : Nat → UInt8) (hr : Reads w w.heap.size 1 A n (bytesOf n f)) (hn : n ≤ 1073741824) :
    Calls Try.prog 51 #[.slice A n c] w fun e w' => e = .returned (keyV (leafK n f)) ∧ Below w.heap.size w w' := by
  have HR := Lib.hid hr
  clear hr
  go_enter Try.func51, Try.ntmps51
  go_wp2_with fail
  generalize hwa : World.alloc w _ = wa
  have hb0 : Below w.heap.size w wa := by rw [← hwa]; exact ((Below.refl _ _).alloc (Nat.le_refl _) _)
  have hr0 : wa.rowIs w.heap.size 23 32 (fun _ => .int .u8 0) := by rw [← hwa]; exact (zero_row w 23 _ rfl _ rfl)
  have hs0 : wa.heap.size = w.heap.size + 1 := by rw [← hwa]; simp
  obtain ⟨old, hkr, hold⟩ := ret_row hr0
  have hkr : Blk wa w.heap.size 23 old := hkr
  clear hwa hr0
  refine (new_any wa (fun _ => 0)).mono ?_
  rintro e w1 ⟨rfl, hb1, hd1⟩
  have hk1 := hkr.below hb1 hkr.lt
  have hb1' := hb0.trans (hb1.mono hb0.size)
  rw [hs0] at hd1 ⊢
  have hz1 := hb1'.size
  have HB1 := Lib.hid hb1'
  have HK1 := Lib.hid hk1
  have HD1 := Lib.hid hd1
  clear hb1 hb1' hk1 hd1 hkr hb0 hs0
  go_wp2_with fail
  refine (write_any _ _ _ 0 1 (fun _ => 0) (fun _ => 0) (some ⟨w1.heap.size, 0, none⟩) 1 (HD1.out.below ((Below.refl _ _).alloc (Nat.le_refl _) _)) (Reads.flat (o := 0) (fun _ => ⟨rfl, by rw [World.size_alloc]; omega⟩) (fun j hj => by
    obtain rfl : j = 0 := by omega
    exact lit_cell _ _ _ _ _)) (by omega) (by rw [World.size_alloc]; have := HD1.out.lt; omega)).mono ?_
  rintro e w2 ⟨rfl, hg2, hd2⟩
  have hD := HD1.out.lt
  have hb2 := only_below (HB1.out.alloc HB1.out.size _) hg2 (by omega)
  have hk2 := (HK1.out.alloc _).grown hg2 (by intro e; injection e with e; omega)
  have HB2 := Lib.hid hb2
  have HK2 := Lib.hid hk2
  have HD2 := Lib.hid hd2
  have hz2 := hb2.size
  have hrd2 := Lib.hid ((HR.out.below hb2).more hz2)
  clear hg2 hb2 hk2 hd2 HB1 HK1 HD1
  go_wp2_with fail
  refine (write_any _ _ _ _ n _ f A c HD2.out hrd2.out (by omega) (by have := HD2.out.lt; omega)).mono ?_
  rintro e w3 ⟨rfl, hg3, hd3⟩
  have hD2 := HD2.out.lt
  have hb3 := only_below HB2.out hg3 (by omega)
  have hk3 := HK2.out.grown hg3 (by intro e; injection e with e; omega)
  have HB3 := Lib.hid hb3
  have HK3 := Lib.hid hk3
  have HD3 := Lib.hid hd3
  clear hg3 hb3 hk3 hd3 HB2 HK2 HD2 hrd2
  go_wp2_with fail
  refine (dsum_any _ _ _ _ _ HD3.out (by omega)).mono ?_
  rintro e w4 ⟨rfl, hb4⟩
  rw [leaf_eq]
  obtain ⟨kk, hkk⟩ : ∃ k, leafK n f = k := ⟨_, rfl⟩
  rw [hkk]
  have HKK := Lib.hid hkk
  have HB4 := Lib.hid (HB3.out.trans (hb4.mono HB3.out.size))
  have HK4 := Lib.hid (HK3.out.below hb4 HK3.out.lt)
  clear hkk hb4 HB3 HK3 HD3
  go_wp2_with (refine wpList_store_rowTo rfl 23 (.tmp 2) (.tmp 12) rfl rfl w.heap.size (bytesOf 32 kk).toArray rfl rfl _ _ HK4.out (by rw [keyV_size]; kernel_rfl) (by rw [keyV_size, hold]) (keyV_one _) ?_)
  refine bodyPost_ret (results_cell_row rfl _ _ w.heap.size _ (bytesOf 32 kk).toArray (0, 0) _ rfl (setRow_same _ _ _ _ _ HK4.out) Try.underlying23 rfl (by rw [keyV_size]; kernel_rfl)) rfl ⟨by rw [HKK.out], ?_⟩
  exact below_setRow HB4.out (Nat.le_refl _) _

set_option maxRecDepth 100000 in
set_option maxHeartbeats 1000000 in
theorem rleaf_any (w : World) (A : Option Addr) (n c : Nat) (f : Nat → UInt8) (hr : Reads w w.heap.size 1 A n (bytesOf n f)) (hn : n ≤ 1073741824) :
    Calls Try.prog 37 #[.slice A n c] w fun e w' => e = .returned (keyV (leafK n f)) ∧ Below w.heap.size w w' := by
  obtain ⟨i0, hi0, hz0, hz1, hz2⟩ := info_parts u8_info
  have HR := Lib.hid hr
  clear hr
  go_enter Try.func37, Try.ntmps37
  go_upto_region 1 with (fail)
  generalize hwa : World.alloc w _ = wa
  have hb0 : Below w.heap.size w wa := by rw [← hwa]; exact ((Below.refl _ _).alloc (Nat.le_refl _) _)
  have hr0 : wa.rowIs w.heap.size 23 32 (fun _ => .int .u8 0) := by rw [← hwa]; exact (zero_row w 23 _ rfl _ rfl)
  obtain ⟨old, hkr, hold⟩ := ret_row hr0
  have hkr : Blk wa w.heap.size 23 old := hkr
  clear hwa hr0
  have hown : (wa.alloc (.cells #[.int .u8 0] 5)).ownsRow wa.heap.size 5 1 (.slice (some ⟨wa.heap.size, 0, none⟩) 1 1) 1 (bytesOf 1 (fun _ => 0)) :=
    World.ownsRow_lit (base := wa.heap.size) (e := 5) (size := 1) wa #[.int .u8 0] 1 (by simp) (by unfold maxLen; omega) rfl
  have hba : Below w.heap.size w (wa.alloc (.cells #[.int .u8 0] 5)) := hb0.alloc hb0.size _
  have HO := Lib.hid hown
  have HBA := Lib.hid hba
  have HK := Lib.hid (hkr.alloc (.cells #[.int .u8 0] 5))
  have HRD := Lib.hid (HR.out.below hba)
  have hzz := hb0.size
  have hkl := hkr.lt
  clear hown hba hkr hb0
  go_wp2_with (first
    | (at_builtin
       refine wpList_append_any _ rfl (.tmp 3) (.tmp 4) _ rfl wa.heap.size 5 i0 _ 1 1 Try.underlying33 hi0 hz0 hz1 hz2 rfl (by omega) _ 1 _ rfl HO.out w.heap.size A n c _ rfl HRD.out (bytesOf_one _ _) (by unfold maxLen; omega) (by omega) (by simp) ?_
       intro v1 w1 ho1 hg1 hat1
       rw [bytesOf_glue] at ho1
       have hb1 : Below w.heap.size w w1 := HBA.out.grown hg1 (by rw [World.size_alloc]; omega) (fun g e => by have := Option.some.inj (show some wa.heap.size = some g from e); omega)
       have hk1 := HK.out.grown hg1 (fun e => by have := Option.some.inj (show some w.heap.size = some wa.heap.size from e); omega)
       obtain ⟨A1, c1, rfl⟩ := own_form ho1
       have HO1 := Lib.hid ho1
       have HB1 := Lib.hid hb1
       have HK1 := Lib.hid hk1
       clear ho1 hg1 hat1 hb1 hk1))
  refine (rsha_any _ _ _ _ _ (Reads.of_own HO1.out) (by omega)).mono ?_
  rintro e w4 ⟨rfl, hb4⟩
  rw [show sha (1 + n) (glue 1 (fun _ => 0) f) = leafK n f from rfl]
  obtain ⟨kk, hkk⟩ : ∃ k, leafK n f = k := ⟨_, rfl⟩
  rw [hkk]
  have HKK := Lib.hid hkk
  have HB4 := Lib.hid (HB1.out.trans (hb4.mono HB1.out.size))
  have HK4 := Lib.hid (HK1.out.below hb4 HK1.out.lt)
  clear hkk hb4 HB1 HK1 HO1
  go_wp2_with (refine wpList_store_rowTo rfl 23 (.tmp 2) (.tmp 6) rfl rfl w.heap.size (bytesOf 32 kk).toArray rfl rfl _ _ HK4.out (by rw [keyV_size]; kernel_rfl) (by rw [keyV_size, hold]) (keyV_one _) ?_)
  refine bodyPost_ret (results_cell_row rfl _ _ w.heap.size _ (bytesOf 32 kk).toArray (0, 0) _ rfl (setRow_same _ _ _ _ _ HK4.out) Try.underlying23 rfl (by rw [keyV_size]; kernel_rfl)) rfl ⟨by rw [HKK.out], ?_⟩
  exact below_setRow HB4.out (Nat.le_refl _) _

set_option maxRecDepth 100000 in
set_option maxHeartbeats 1000000 in
theorem minner_any (w : World) (a b : Ky) :
    Calls Try.prog 53 #[keyV a, keyV b] w fun e w' => e = .returned (keyV (innerK a b)) ∧ Below w.heap.size w w' := by
  obtain ⟨ka, hka⟩ : ∃ ka, (bytesOf 32 a).toArray = ka := ⟨_, rfl⟩
  obtain ⟨kb, hkb⟩ : ∃ kb, (bytesOf 32 b).toArray = kb := ⟨_, rfl⟩
  have hsa : ka.size = 32 := by rw [← hka]; exact keyV_size a
  have hsb : kb.size = 32 := by rw [← hkb]; exact keyV_size b
  show Calls _ _ #[.agg (bytesOf 32 a).toArray, .agg (bytesOf 32 b).toArray] _ _
  rw [hka, hkb]
  have HKA := Lib.hid hka
  have HKB := Lib.hid hkb
  clear hka hkb
  go_enter Try.func53, Try.ntmps53
  go_wp2_with fail
  generalize hwa : World.alloc (World.alloc (World.alloc w _) _) _ = wa
  have hb0 : Below w.heap.size w wa := by rw [← hwa]; exact ((((Below.refl _ _).alloc (Nat.le_refl _) _).alloc (by simp) _).alloc (by simp; omega) _)
  have ha0 : Blk wa w.heap.size 23 ka := by rw [← hwa]; exact (Blk.new w _ ka).alloc _ |>.alloc _
  have hb0' : Blk wa (w.heap.size + 1) 23 kb := by rw [← hwa]; exact Blk.alloc (heap_alloc_at _ _ _ (by simp)) _
  have hr0 : wa.rowIs (w.heap.size + 1 + 1) 23 32 (fun _ => .int .u8 0) := by rw [← hwa]; exact (zero_row _ 23 _ (by simp) _ rfl)
  obtain ⟨old, hkr, hold⟩ := ret_row hr0
  have hkr : Blk wa (w.heap.size + 1 + 1) 23 old := hkr
  clear hwa hr0
  refine (new_any wa (fun _ => 0)).mono ?_
  rintro e w1 ⟨rfl, hb1, hd1⟩
  have hk1 := hkr.below hb1 hkr.lt
  have ha1 := ha0.below hb1 ha0.lt
  have hb1k := hb0'.below hb1 hb0'.lt
  have hb1' := hb0.trans (hb1.mono hb0.size)
  have hwal := hkr.lt
  have hz1 := hb1'.size
  have HB1 := Lib.hid hb1'
  have HK1 := Lib.hid hk1
  have HA1 := Lib.hid ha1
  have HBB1 := Lib.hid hb1k
  have HD1 := Lib.hid hd1
  have hD1 := hd1.lt
  clear hb1 hb1' hk1 hd1 hkr hb0 ha0 hb0' ha1 hb1k
  obtain ⟨D, hD⟩ : ∃ D, wa.heap.size = D := ⟨_, rfl⟩
  rw [hD] at HD1 hD1 hwal ⊢
  clear hD
  go_wp2_with fail
  refine (write_any _ _ _ 0 1 (fun _ => 0) (fun _ => 1) (some ⟨w1.heap.size, 0, none⟩) 1 (HD1.out.below ((Below.refl _ _).alloc (Nat.le_refl _) _)) (Reads.flat (o := 0) (fun _ => ⟨rfl, by rw [World.size_alloc]; omega⟩) (fun j hj => by
    obtain rfl : j = 0 := by omega
    exact lit_cell _ _ _ _ _)) (by omega) (by rw [World.size_alloc]; omega)).mono ?_
  rintro e w2 ⟨rfl, hg2, hd2⟩
  have HB2 := Lib.hid (only_below (HB1.out.alloc HB1.out.size _) hg2 (by omega))
  have HK2 := Lib.hid ((HK1.out.alloc _).grown hg2 (by intro e; injection e with e; omega))
  have HA2 := Lib.hid ((HA1.out.alloc _).grown hg2 (by intro e; injection e with e; omega))
  have HBB2 := Lib.hid ((HBB1.out.alloc _).grown hg2 (by intro e; injection e with e; omega))
  have HD2 := Lib.hid hd2
  have hz2 := hd2.lt
  clear hg2 hd2 HB1 HK1 HA1 HBB1 HD1
  go_wp2_with fail
  refine (write_any _ _ _ _ 32 _ a (some ⟨w.heap.size, 0, none⟩) 32 HD2.out (Reads.flat (o := 0) (fun _ => ⟨rfl, HA2.out.lt⟩) (fun j hj => by
    rw [Nat.zero_add, HA2.out.cell, ← HKA.out]
    exact List.getElem?_toArray.trans (bytesOf_get _ (by omega)))) (by omega) (by omega)).mono ?_
  rintro e w3 ⟨rfl, hg3, hd3⟩
  have HB3 := Lib.hid (only_below HB2.out hg3 (by omega))
  have HK3 := Lib.hid (HK2.out.grown hg3 (by intro e; injection e with e; omega))
  have HBB3 := Lib.hid (HBB2.out.grown hg3 (by intro e; injection e with e; omega))
  have HD3 := Lib.hid hd3
  have hz3 := hd3.lt
  clear hg3 hd3 HB2 HK2 HA2 HBB2 HD2
  go_wp2_with fail
  refine (write_any _ _ _ _ 32 _ b (some ⟨w.heap.size + 1, 0, none⟩) 32 HD3.out (Reads.flat (o := 0) (fun _ => ⟨rfl, HBB3.out.lt⟩) (fun j hj => by
    rw [Nat.zero_add, HBB3.out.cell, ← HKB.out]
    exact List.getElem?_toArray.trans (bytesOf_get _ (by omega)))) (by omega) (by omega)).mono ?_
  rintro e w4 ⟨rfl, hg4, hd4⟩
  have HB4 := Lib.hid (only_below HB3.out hg4 (by omega))
  have HK4 := Lib.hid (HK3.out.grown hg4 (by intro e; injection e with e; omega))
  have HD4 := Lib.hid hd4
  clear hg4 hd4 HB3 HK3 HBB3 HD3
  go_wp2_with fail
  refine (dsum_any _ _ _ _ _ HD4.out (by omega)).mono ?_
  rintro e w5 ⟨rfl, hb5⟩
  rw [inner_eq]
  obtain ⟨kk, hkk⟩ : ∃ k, innerK a b = k := ⟨_, rfl⟩
  rw [hkk]
  have HKK := Lib.hid hkk
  have HB5 := Lib.hid (HB4.out.trans (hb5.mono HB4.out.size))
  have HK5 := Lib.hid (HK4.out.below hb5 HK4.out.lt)
  clear hkk hb5 HB4 HK4 HD4
  go_wp2_with (refine wpList_store_rowTo rfl 23 (.tmp 4) (.tmp 17) rfl rfl (w.heap.size + 1 + 1) (bytesOf 32 kk).toArray rfl rfl _ _ HK5.out (by rw [keyV_size]; kernel_rfl) (by rw [keyV_size, hold]) (keyV_one _) ?_)
  refine bodyPost_ret (results_cell_row rfl _ _ (w.heap.size + 1 + 1) _ (bytesOf 32 kk).toArray (0, 0) _ rfl (setRow_same _ _ _ _ _ HK5.out) Try.underlying23 rfl (by rw [keyV_size]; kernel_rfl)) rfl ⟨by rw [HKK.out], ?_⟩
  exact below_setRow HB5.out (by omega) _

set_option maxRecDepth 100000 in
set_option maxHeartbeats 1000000 in
attribute [local go_sem ↓] wp_store_key in
attribute [local go_sem] storeRow_eq storeRow_key isKey_keyV isKey_keyV' in
theorem rinner_any (w : World) (a b : Ky) :
    Calls Try.prog 39 #[keyV a, keyV b] w fun e w' => e = .returned (keyV (innerK a b)) ∧ Below w.heap.size w w' := by
  obtain ⟨i0, hi0, hz0, hz1, hz2⟩ := info_parts u8_info
  obtain ⟨ka, hka⟩ : ∃ ka, (bytesOf 32 a).toArray = ka := ⟨_, rfl⟩
  obtain ⟨kb, hkb⟩ : ∃ kb, (bytesOf 32 b).toArray = kb := ⟨_, rfl⟩
  have hsa : ka.size = 32 := by rw [← hka]; exact keyV_size a
  have hsb : kb.size = 32 := by rw [← hkb]; exact keyV_size b
  show Calls _ _ #[.agg (bytesOf 32 a).toArray, .agg (bytesOf 32 b).toArray] _ _
  rw [hka, hkb]
  have HKA := Lib.hid hka
  have HKB := Lib.hid hkb
  clear hka hkb
  go_enter Try.func39, Try.ntmps39
  go_upto_region 1 with (fail)
  generalize hwa : World.alloc (World.alloc (World.alloc w _) _) _ = wa
  have hb0 : Below w.heap.size w wa := by rw [← hwa]; exact ((((Below.refl _ _).alloc (Nat.le_refl _) _).alloc (by simp) _).alloc (by simp; omega) _)
  have ha0 : Blk wa w.heap.size 23 ka := by rw [← hwa]; exact (Blk.new w _ ka).alloc _ |>.alloc _
  have hb0' : Blk wa (w.heap.size + 1) 23 kb := by rw [← hwa]; exact Blk.alloc (heap_alloc_at _ _ _ (by simp)) _
  have hr0 : wa.rowIs (w.heap.size + 1 + 1) 23 32 (fun _ => .int .u8 0) := by rw [← hwa]; exact (zero_row _ 23 _ (by simp) _ rfl)
  obtain ⟨old, hkr, hold⟩ := ret_row hr0
  have hkr : Blk wa (w.heap.size + 1 + 1) 23 old := hkr
  have hwal := hkr.lt
  clear hwa hr0
  have hown : (wa.alloc (.cells #[.int .u8 1] 5)).drew.ownsRow wa.heap.size 5 1 (.slice (some ⟨wa.heap.size, 0, none⟩) 1 1) 1 (bytesOf 1 (fun _ => 1)) :=
    World.ownsRow_lit (base := wa.heap.size) (e := 5) (size := 1) wa #[.int .u8 1] 1 (Nat.le_refl _) (by unfold maxLen; omega) rfl
  have hbl : Below wa.heap.size wa (wa.alloc (.cells #[.int .u8 1] 5)).drew := below_drewN ((Below.refl wa.heap.size wa).alloc (Nat.le_refl _) _) 1
  have hrd : ∀ W, Below wa.heap.size wa W → Reads W W.heap.size 1 (some ⟨w.heap.size, 0, none⟩) 32 (bytesOf 32 a) ∧ Reads W W.heap.size 1 (some ⟨w.heap.size + 1, 0, none⟩) 32 (bytesOf 32 b) := by
    intro W hW
    have h1 := ha0.below hW ha0.lt
    have h2 := hb0'.below hW hb0'.lt
    refine ⟨Reads.flat (o := 0) (fun _ => ⟨rfl, h1.lt⟩) (fun j hj => ?_), Reads.flat (o := 0) (fun _ => ⟨rfl, h2.lt⟩) (fun j hj => ?_)⟩
    · rw [Nat.zero_add, h1.cell, ← HKA.out]
      exact List.getElem?_toArray.trans (bytesOf_get _ (by omega))
    · rw [Nat.zero_add, h2.cell, ← HKB.out]
      exact List.getElem?_toArray.trans (bytesOf_get _ (by omega))
  have HO := Lib.hid hown
  have HRD := Lib.hid hrd
  have HBL := Lib.hid hbl
  have HB0 := Lib.hid hb0
  have HK := Lib.hid hkr
  have HR1 := Lib.hid (hrd _ hbl).1
  have hw3 : 3 ≤ wa.heap.size := by omega
  clear hown hrd hbl hb0 hkr ha0 hb0'
  go_region_law (first
    | (refine step_append_any _ rfl (.tmp 5) (.tmp 6) _ rfl wa.heap.size 5 i0 _ 1 1 Try.underlying33 hi0 hz0 hz1 hz2 rfl (by omega) _ 1 _ rfl
         HO.out _ _ 32 32 _ rfl HR1.out (bytesOf_one _ _) (by unfold maxLen; omega) (by omega) HBL.out.size ?_
       intro v1 w1 ho1 hg1 hat1
       rw [bytesOf_glue] at ho1
       have hb1 : Below wa.heap.size wa w1 := HBL.out.grown hg1 HBL.out.size (fun g e => by have := Option.some.inj (show some wa.heap.size = some g from e); omega)
       obtain ⟨A1, c1, rfl⟩ := own_form ho1
       have HO1 := Lib.hid ho1
       have HR2 := Lib.hid (HRD.out _ hb1).2
       have HB1 := Lib.hid hb1
       have hz1' := hb1.size
       clear ho1 hg1 hat1 hb1)
    | (refine step_append_any _ rfl (.tmp 7) (.tmp 8) _ rfl wa.heap.size 5 i0 _ 1 1 Try.underlying33 hi0 hz0 hz1 hz2 rfl (by omega) _ (1 + 32) _ rfl
         HO1.out _ _ 32 32 _ rfl HR2.out (bytesOf_one _ _) (by unfold maxLen; omega) (by omega) hz1' ?_
       intro v2 w2 ho2 hg2 hat2
       rw [bytesOf_glue] at ho2
       have hb2 : Below wa.heap.size wa w2 := HB1.out.grown hg2 hz1' (fun g e => (HO1.out.lt g e).1)
       obtain ⟨A2, c2, rfl⟩ := own_form ho2
       have HO2 := Lib.hid ho2
       have HB2 := Lib.hid hb2
       clear ho2 hg2 hat2 hb2)
    | (go_simp; go_at_call 35; refine (rsha_any _ _ _ _ _ (Reads.of_own HO2.out) (by omega)).mono ?_; rintro e w4 ⟨rfl, hb4⟩
       rw [inner_eq2]
       obtain ⟨kk, hkk⟩ : ∃ k, innerK a b = k := ⟨_, rfl⟩
       rw [hkk]
       have HKK := Lib.hid hkk
       clear hkk
       have HB4 := Lib.hid (HB2.out.trans (hb4.mono HB2.out.size))
       have hk4 := HK.out.below HB4.out HK.out.lt
       have hkat : KeyAt w4 (.pointer (some ⟨w.heap.size + 1 + 1, 0, none⟩)) := ⟨_, _, rfl, hk4, hold⟩
       have HK4 := Lib.hid hk4
       clear hb4 hk4))
  all_goals
    go_wp2_with fail
    refine bodyPost_ret (results_cell_row rfl _ _ (w.heap.size + 1 + 1) _ (bytesOf 32 kk).toArray (0, 0) _ rfl (setRow_same _ _ _ _ _ HK4.out) Try.underlying23 rfl (by rw [keyV_size]; kernel_rfl)) rfl ⟨by rw [HKK.out], ?_⟩
    exact below_setRow (HB0.out.trans (HB4.out.mono HB0.out.size)) (by omega) _
end Go.Proofs.Ytnhggaghidbniaa
