/- MerkleVerifies: the walk. -/
import Derived.Test.YtlijjacnfdnhkaaMerW8
namespace Go.Proofs.Ytlijjacnfdnhkaa
open Go.RowKit
set_option linter.unusedVariables false
open ShaW Sha

set_option maxRecDepth 100000 in
set_option maxHeartbeats 1000000 in
attribute [local go_sem ↓] wp_load_k in
theorem merVerifies_any (w : World) (A : Option Addr) (n c b o : Nat) (f : Nat → UInt8) (x : Nat) (hx : x < 256) (hnc : n ≤ c) (hcm : c ≤ 9223372036854775807) (hA : 0 < n → A = some ⟨b, o, none⟩) (hc : ∀ j, j < n → w.cell? ⟨b, o + j, none⟩ = some (.int .u8 ((f j).toNat : Int))) :
    Calls Try.prog 5 #[.slice A n c, .int .u8 (x : Int)] w fun e w' => e = .returned (.bool true) ∧ Below w.heap.size w w' := by
  have HLV := Lib.hid (leaves_any w A n c b o f x hx hnc hcm hA hc)
  clear hA hc
  go_enter Try.func5, Try.ntmps5
  by_cases hbig : 100 < n
  · have hbi : (100 : Int) < n := by omega
    go_wp2_with fail
    refine (known_any _).mono ?_
    rintro e w3 ⟨rfl, hb4⟩
    go_wp2_with fail
    go_ret
    exact ⟨rfl, hb4⟩
  · have hbi : ¬ (100 : Int) < n := by omega
    obtain ⟨m, hm⟩ : ∃ m, x % 20 = m := ⟨_, rfl⟩
    have hml : m < 20 := by omega
    obtain ⟨F, hF⟩ : ∃ F, leafF n f = F := ⟨_, rfl⟩
    rw [hm, hF] at HLV
    clear hm hF
    go_wp2_with fail
    refine HLV.out.mono ?_
    rintro e w1 ⟨v, rfl, hl, hb1⟩
    obtain ⟨Al, cl, rfl, hrows⟩ := hl.rows hb1
    have HB1 := Lib.hid hb1
    have HR1 := Lib.hid hrows
    clear hl hb1 hrows HLV
    go_wp2_with fail
    refine (mroot_any m (by omega) w1 Al cl _ _ HR1.out).mono ?_
    obtain ⟨kr, hkr⟩ : ∃ kr, rootK m (fun _ => 1) F = kr := ⟨_, rfl⟩
    rw [hkr]
    rintro e w2 ⟨rfl, hb2⟩
    have HKR := Lib.hid hkr
    have HB2 := Lib.hid (HB1.out.trans (hb2.mono HB1.out.size))
    have HR2 := Lib.hid (HR1.out.below hb2)
    have hz2 := HB2.out.size
    clear hb2 HB1 HR1 hkr
    go_wp2_with (refine wpList_store_rowTo rfl 24 (.tmp 6) (.tmp 19) rfl rfl w2.heap.size (bytesOf 32 kr).toArray rfl rfl _ _ (heap_alloc_new _ _) (by rw [keyV_size]; kernel_rfl) (by rw [keyV_size]; kernel_rfl) (keyV_one _) ?_
                 generalize hwc : World.setRow _ _ _ = wc
                 have HKC : Hid (Blk wc w2.heap.size 24 (bytesOf 32 kr).toArray) := by
                   show Blk _ _ _ _
                   rw [← hwc]
                   exact setRow_same _ _ _ _ _ (heap_alloc_new _ _)
                 have hb2c : Below w2.heap.size w2 wc := by
                   rw [← hwc]
                   exact below_setRow ((Below.refl _ _).alloc (Nat.le_refl _) _) (Nat.le_refl _) _
                 clear hwc
                 have HBC := Lib.hid (HB2.out.trans (hb2c.mono hz2))
                 have HRC := Lib.hid (HR2.out.below hb2c)
                 clear hb2c)
    have hzc := HBC.out.size
    go_loopw [22] (fun i wr => ∃ k : Nat, k ≤ m ∧ i = .int .i64 (k : Int) ∧ Below wc.heap.size wc wr) (fun i _ => m - (intOf i).toNat)
    case atStart => exact ⟨0, by omega, rfl, Below.refl _ _⟩
    case round =>
      obtain ⟨k, hk, rfl, hb⟩ := hrel
      have HB := Lib.hid hb
      have hzb := hb.size
      clear hb
      by_cases hlt : k < m
      · have hki : (k : Int) < (m : Int) := by omega
        have hrw := HRC.out.below HB.out
        obtain ⟨_, _, bl, ol, hAl, hrr⟩ := id hrw
        obtain rfl := hAl (by omega)
        obtain ⟨A', c', y0, hrd, _⟩ := hrr k hlt
        have HRW := Lib.hid hrw
        have HRD := Lib.hid hrd
        clear hrw hrr hAl hrd
        go_wp2_with fail
        refine (mproof_any m (by omega) wr _ cl _ _ k HRW.out hlt).mono ?_
        have hver : verifyB kr (leafK 1 (F k)) k m (pathK m k (fun _ => 1) F) = true := by rw [← HKR.out]; exact verify_path m k (fun _ => 1) F hlt
        have hpl : (pathK m k (fun _ => 1) F).length ≤ m := pathK_len _ _ _ _
        obtain ⟨pp, hpp⟩ : ∃ pp, pathK m k (fun _ => 1) F = pp := ⟨_, rfl⟩
        rw [hpp] at hver hpl ⊢
        obtain ⟨pl, hple⟩ : ∃ pl, pp.length = pl := ⟨_, rfl⟩
        rw [hple] at hpl
        have HVER := Lib.hid hver
        clear hver hpp
        rintro e w5 ⟨Ap, cp, rfl, hb5, ho5⟩
        rw [hple] at ho5 ⊢
        have HP5 := Lib.hid (KeysAt.of_own ho5)
        have HB5 := Lib.hid (HB.out.trans (hb5.mono hzb))
        have HRD5 := Lib.hid ((HRD.out.below hb5).more hb5.size)
        have hk5 := blk_key (HKC.out.below HB5.out HKC.out.lt)
        have hok := keyOk_mk hk5
        have hlk := loadK_eq hk5
        clear hb5 ho5 hk5 hple
        go_wp2_with fail
        have hv := mverify_any w5 kr A' 1 c' (F k) k m Ap pl cp pp HRD5.out (by omega) hlt (by omega) HP5.out (by omega)
        rw [HVER.out] at hv
        refine hv.mono ?_
        clear hv
        rintro e w6 ⟨rfl, hb6⟩
        have HB6 := Lib.hid (HB5.out.trans (hb6.mono HB5.out.size))
        clear hb6 hok hlk
        go_wp2_with fail
        go_roundw
        case rel => exact ⟨k + 1, by omega, by go_num, HB6.out⟩
        case measure => simp [intOf]; omega
      · obtain rfl : k = m := by omega
        clear hlt
        go_wp2_with fail
        refine (known_any _).mono ?_
        rintro e w3 ⟨rfl, hb4⟩
        go_wp2_with fail
        go_ret
        exact ⟨rfl, HBC.out.trans ((HB.out.trans (hb4.mono HB.out.size)).mono hzc)⟩
end Go.Proofs.Ytlijjacnfdnhkaa
