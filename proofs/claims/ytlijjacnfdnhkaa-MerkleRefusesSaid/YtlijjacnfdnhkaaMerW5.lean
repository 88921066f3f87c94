/- climb, of the program. -/
import Derived.Test.YtlijjacnfdnhkaaMerW5a
import Derived.Deep.DeepCutAuto
namespace Go.Proofs.Ytlijjacnfdnhkaa
open Go.RowKit
set_option linter.unusedVariables false
open ShaW Sha

set_option maxRecDepth 100000 in
set_option maxHeartbeats 40000000 in
attribute [local go_sem ↓] wp_store_key wp_load_k in
attribute [local go_sem] storeRow_eq storeRow_key isKey_keyV isKey_keyV' in
theorem mclimb_any : ∀ (n : Nat), 1 ≤ n → n ≤ 1073741823 → ∀ (w : World) (h : Ky) (i : Nat) (A : Option Addr) (m c : Nat) (ps : List Ky), i < n → KeysAt w A m c ps →
    Calls Try.prog 28 #[keyV h, .int .i64 (i : Int), .int .i64 (n : Int), .slice A m c] w fun e w' => e = .returned (.tuple #[keyV (climbK h i n (fun r => ps.getD r (fun _ => 0)) m).1, .bool (climbK h i n (fun r => ps.getD r (fun _ => 0)) m).2]) ∧ Below w.heap.size w w' := by
  intro n
  induction n using Nat.strongRecOn with
  | _ n ih =>
  intro hn1 hn w h i A m c ps hin hkeys
  obtain ⟨R, hR⟩ : ∃ R, climbK h i n (fun r => ps.getD r (fun _ => 0)) m = R := ⟨_, rfl⟩
  rw [hR]
  obtain ⟨kr, okr⟩ := R
  show Calls _ _ _ _ fun e w' => e = .returned (.tuple #[keyV kr, .bool okr]) ∧ Below w.heap.size w w'
  obtain ⟨ch, hch⟩ : ∃ ch, (bytesOf 32 h).toArray = ch := ⟨_, rfl⟩
  have hsh : ch.size = 32 := by rw [← hch]; exact keyV_size h
  have hoh : ch.all (·.oneCell') = true := by rw [← hch]; exact keyV_one h
  show Calls _ _ #[.agg (bytesOf 32 h).toArray, _, _, _] _ _
  rw [hch]
  have HCH := Lib.hid hch
  have HRR := Lib.hid hR
  have HIH := Lib.hid ih
  have HKY := Lib.hid hkeys
  have hmc : m ≤ c := hkeys.2.1
  have hcm : c ≤ 9223372036854775807 := hkeys.2.2.1
  clear hR ih hkeys hch
  go_enter Try.func28, Try.ntmps28
  go_upto_region 1 with (fail)
  generalize hwa : World.alloc (World.alloc w _) _ = wa
  have hb0 : Below w.heap.size w wa := by rw [← hwa]; exact ((Below.refl _ _).alloc (Nat.le_refl _) _).alloc (by simp) _
  have hk0 : Blk wa w.heap.size 24 ch := by rw [← hwa]; exact (Blk.new w _ ch).alloc _
  have hr0 : wa.rowIs (w.heap.size + 1) 24 32 (fun _ => .int .u8 0) := by rw [← hwa]; exact (zero_row _ 24 _ (by simp) _ rfl)
  obtain ⟨old, hkz, hold⟩ := ret_row hr0
  have hkz : Blk wa (w.heap.size + 1) 24 old := hkz
  have hwal := hkz.lt
  clear hwa hr0
  have HB0 := Lib.hid hb0
  have HK0 := Lib.hid hk0
  have HKZ := Lib.hid hkz
  clear hb0 hk0 hkz
  rcases Nat.lt_or_ge n 2 with h2 | h2
  · obtain rfl : n = 1 := by omega
    have hm : Hid (kr = h ∧ okr = (m == 0)) := by
      show _ ∧ _
      have := HRR.out
      rw [climbK_one (by omega)] at this
      injection this with e1 e2
      exact ⟨e1.symm, e2.symm⟩
    have hmb : ((m : Int) == 0) = (m == 0) := by
      rw [Bool.eq_iff_iff]; simp
    go_wp2_with (first
      | (refine wpList_load_row rfl 24 (.tmp 4) rfl w.heap.size rfl _ ch (0, 0) _ HK0.out Try.underlying24 rfl (by rw [hsh]; kernel_rfl) ?_)
      | (refine wpList_store_rowTo rfl 24 (.tmp 8) (.tmp 18) rfl rfl (w.heap.size + 1) ch rfl rfl _ _ HKZ.out (by rw [hsh]; kernel_rfl) (by rw [hsh, hold]) hoh ?_))
    obtain ⟨hk1, hk2⟩ := hm.out
    refine bodyPost_ret (results_cell_tmp rfl _ _ (w.heap.size + 1) _ ch (0, 0) _ rfl (setRow_same _ _ _ _ _ HKZ.out) Try.underlying24 rfl (by rw [hsh]; kernel_rfl)) rfl ⟨?_, below_setRow HB0.out (by omega) _⟩
    rw [hk1, hk2]
    show Ending.returned (.tuple #[.agg ch, _]) = Ending.returned (.tuple #[.agg (bytesOf 32 h).toArray, _])
    rw [HCH.out]
    rfl
  · have e1 : ((n : Int) == 1) = false := by simp; omega
    rcases Nat.eq_zero_or_pos m with rfl | hm0
    · have hm : Hid (kr = (fun _ => 0) ∧ okr = false) := by
        show _ ∧ _
        have := HRR.out
        rw [climbK_none h2] at this
        injection this with e1 e2
        exact ⟨e1.symm, e2.symm⟩
      go_wp2_with (first
        | (refine wpList_store_rowTo rfl 24 (.tmp 8) (.tmp 25) rfl rfl (w.heap.size + 1) (bytesOf 32 (fun _ => 0)).toArray rfl rfl _ _ HKZ.out (by rw [keyV_size]; kernel_rfl) (by rw [keyV_size, hold]) (keyV_one _) ?_))
      obtain ⟨hk1, hk2⟩ := hm.out
      refine bodyPost_ret (results_cell_tmp rfl _ _ (w.heap.size + 1) _ (bytesOf 32 (fun _ => 0)).toArray (0, 0) _ rfl (setRow_same _ _ _ _ _ HKZ.out) Try.underlying24 rfl (by rw [keyV_size]; kernel_rfl)) rfl ⟨?_, below_setRow HB0.out (by omega) _⟩
      rw [hk1, hk2]
      rfl
    · obtain ⟨M, rfl⟩ : ∃ M, m = M + 1 := ⟨m - 1, by omega⟩
      have hh := halfN_lt h2
      have hp := halfN_pos n
      have hhalf := fun w => mhalf_any w n h2 (by omega)
      have hleft := fun hi => climbK_left (n := n) (i := i) (m := M + 1) h2 hi (by omega) h (fun r => ps.getD r (fun _ => 0))
      have hright := fun hi => climbK_right (n := n) (i := i) (m := M + 1) h2 hi (by omega) h (fun r => ps.getD r (fun _ => 0))
      obtain ⟨k, hk⟩ : ∃ k, halfN n = k := ⟨_, rfl⟩
      rw [hk] at hh hp hhalf hleft hright
      have HHALF := Lib.hid hhalf
      have HLEFT := Lib.hid hleft
      have HRIGHT := Lib.hid hright
      clear hk hhalf hleft hright
      have hky := HKY.out.below HB0.out
      obtain ⟨_, _, _, g, o, hA, _⟩ := id hky
      obtain rfl := hA (by omega)
      obtain ⟨kp, hkp⟩ : ∃ kp, ps.getD M (fun _ => 0) = kp := ⟨_, rfl⟩
      have hlast := hky.last
      rw [hkp] at hlast
      have HKP := Lib.hid hkp
      have HLAST := Lib.hid hlast
      have HKYA := Lib.hid hky
      clear hA hkp hlast hky
      have e2 : (((M + 1 : Nat) : Int) == 0) = false := by simp; omega
      have hok0 : KeyOk wa.drew (.pointer (some ⟨g, o + M * 32, none⟩)) := keyOk_mk HLAST.out
      have hlk0 : loadK wa.drew (.pointer (some ⟨g, o + M * 32, none⟩)) = keyV kp := loadK_eq HLAST.out
      have q1 : (M : Int) < (M : Int) + 1 := by omega
      have hMc : M ≤ c := by omega
      have qw : IntKind.i64.wrap (M : Int) = (M : Int) := IntWalk.i64_in _ (by omega)
      have hka0 := keyAt_drew wa
      have hbz : Below wa.heap.size wa (wa.alloc (.cells #[.int .u8 0, .int .u8 0, .int .u8 0, .int .u8 0, .int .u8 0, .int .u8 0, .int .u8 0, .int .u8 0, .int .u8 0, .int .u8 0, .int .u8 0, .int .u8 0, .int .u8 0, .int .u8 0, .int .u8 0, .int .u8 0, .int .u8 0, .int .u8 0, .int .u8 0, .int .u8 0, .int .u8 0, .int .u8 0, .int .u8 0, .int .u8 0, .int .u8 0, .int .u8 0, .int .u8 0, .int .u8 0, .int .u8 0, .int .u8 0, .int .u8 0, .int .u8 0] 24)).drew := belowDrew ((Below.refl _ _).alloc (Nat.le_refl _) _)
      have hlast2 : ∀ j u, (bytesOf 32 kp)[j]? = some u → (wa.alloc (.cells #[.int .u8 0, .int .u8 0, .int .u8 0, .int .u8 0, .int .u8 0, .int .u8 0, .int .u8 0, .int .u8 0, .int .u8 0, .int .u8 0, .int .u8 0, .int .u8 0, .int .u8 0, .int .u8 0, .int .u8 0, .int .u8 0, .int .u8 0, .int .u8 0, .int .u8 0, .int .u8 0, .int .u8 0, .int .u8 0, .int .u8 0, .int .u8 0, .int .u8 0, .int .u8 0, .int .u8 0, .int .u8 0, .int .u8 0, .int .u8 0, .int .u8 0, .int .u8 0] 24)).drew.cell? ((⟨g, o + M * 32, none⟩ : Addr).add j) = some u := fun j u hu => by
        have h0 := HLAST.out j u hu
        have hlt := World.block_lt_of_cell? wa _ h0
        exact (hbz.cell hlt).trans h0
      have hok2 : KeyOk (wa.alloc (.cells #[.int .u8 0, .int .u8 0, .int .u8 0, .int .u8 0, .int .u8 0, .int .u8 0, .int .u8 0, .int .u8 0, .int .u8 0, .int .u8 0, .int .u8 0, .int .u8 0, .int .u8 0, .int .u8 0, .int .u8 0, .int .u8 0, .int .u8 0, .int .u8 0, .int .u8 0, .int .u8 0, .int .u8 0, .int .u8 0, .int .u8 0, .int .u8 0, .int .u8 0, .int .u8 0, .int .u8 0, .int .u8 0, .int .u8 0, .int .u8 0, .int .u8 0, .int .u8 0] 24)).drew (.pointer (some ⟨g, o + M * 32, none⟩)) := keyOk_mk hlast2
      have hlk2 : loadK (wa.alloc (.cells #[.int .u8 0, .int .u8 0, .int .u8 0, .int .u8 0, .int .u8 0, .int .u8 0, .int .u8 0, .int .u8 0, .int .u8 0, .int .u8 0, .int .u8 0, .int .u8 0, .int .u8 0, .int .u8 0, .int .u8 0, .int .u8 0, .int .u8 0, .int .u8 0, .int .u8 0, .int .u8 0, .int .u8 0, .int .u8 0, .int .u8 0, .int .u8 0, .int .u8 0, .int .u8 0, .int .u8 0, .int .u8 0, .int .u8 0, .int .u8 0, .int .u8 0, .int .u8 0] 24)).drew (.pointer (some ⟨g, o + M * 32, none⟩)) = keyV kp := loadK_eq hlast2
      clear hlast2 hbz
      have HK0' : Hid (Blk wa w.heap.size 24 (bytesOf 32 h).toArray) := by
        show Blk _ _ _ _
        rw [HCH.out]
        exact HK0.out
      clear HK0
      have hAft : ∀ W, Below wa.heap.size wa W → KeyOk W (.pointer (some ⟨w.heap.size, 0, none⟩)) ∧ loadK W (.pointer (some ⟨w.heap.size, 0, none⟩)) = keyV h := fun W hW => by
        have hk := blk_key (HK0'.out.below hW HK0'.out.lt)
        exact ⟨keyOk_mk hk, loadK_eq hk⟩
      have HAFT := Lib.hid hAft
      clear hAft
      go_upto_region 5 with (fail)
      go_cut [10, 11] (fun sk sp wx => sk = .int .i64 (k : Int) ∧ sp = .pointer (some ⟨wa.heap.size, 0, none⟩) ∧ Below wa.heap.size wa wx ∧ Blk wx wa.heap.size 24 (bytesOf 32 kp).toArray)
      case first =>
        go_region_law (go_simp; go_at_call 23; refine (HHALF.out _).mono ?_; rintro e w4 ⟨rfl, rfl⟩)
        all_goals
          generalize hwb : World.setRow _ _ _ = wb
          have hbb : Below wa.heap.size wa wb := by
            rw [← hwb]
            exact below_setRow (belowDrew ((Below.refl wa.heap.size wa).alloc (Nat.le_refl _) _)) (Nat.le_refl _) _
          have hkb : Blk wb wa.heap.size 24 (bytesOf 32 kp).toArray := by
            rw [← hwb]
            exact setRow_same _ _ _ _ _ (heap_alloc_new wa _)
          clear hwb
          have HBB := Lib.hid hbb
          have HKB := Lib.hid hkb
          clear hbb hkb
          go_wp2_with fail
          go_meet
          exact ⟨rfl, rfl, HBB.out, HKB.out⟩
      case rest =>
      obtain ⟨rfl, rfl, hbb, hkb⟩ := hcut
      have HBB := Lib.hid hbb
      have HKB := Lib.hid hkb
      have hzb := hbb.size
      have hkbl := hkb.lt
      clear hbb hkb
      clear hok0 hlk0 hka0 hok2 hlk2
      obtain ⟨hok1, hlk1⟩ := HAFT.out wc.drew (belowDrew HBB.out)
      have hbz : Below wc.heap.size wc (wc.alloc (.cells #[.int .u8 0, .int .u8 0, .int .u8 0, .int .u8 0, .int .u8 0, .int .u8 0, .int .u8 0, .int .u8 0, .int .u8 0, .int .u8 0, .int .u8 0, .int .u8 0, .int .u8 0, .int .u8 0, .int .u8 0, .int .u8 0, .int .u8 0, .int .u8 0, .int .u8 0, .int .u8 0, .int .u8 0, .int .u8 0, .int .u8 0, .int .u8 0, .int .u8 0, .int .u8 0, .int .u8 0, .int .u8 0, .int .u8 0, .int .u8 0, .int .u8 0, .int .u8 0] 24)).drew := belowDrew ((Below.refl _ _).alloc (Nat.le_refl _) _)
      obtain ⟨hok3, hlk3⟩ := HAFT.out (wc.alloc (.cells #[.int .u8 0, .int .u8 0, .int .u8 0, .int .u8 0, .int .u8 0, .int .u8 0, .int .u8 0, .int .u8 0, .int .u8 0, .int .u8 0, .int .u8 0, .int .u8 0, .int .u8 0, .int .u8 0, .int .u8 0, .int .u8 0, .int .u8 0, .int .u8 0, .int .u8 0, .int .u8 0, .int .u8 0, .int .u8 0, .int .u8 0, .int .u8 0, .int .u8 0, .int .u8 0, .int .u8 0, .int .u8 0, .int .u8 0, .int .u8 0, .int .u8 0, .int .u8 0] 24)).drew (HBB.out.trans (hbz.mono hzb))
      have HBZ := Lib.hid hbz
      clear hbz
      by_cases hik : i < k
      · have hik' : (i : Int) < k := by omega
        obtain ⟨⟨kx, okx⟩, hX⟩ : ∃ X, climbK h i k (fun r => ps.getD r (fun _ => 0)) M = X := ⟨_, rfl⟩
        have hfin : Hid (kr = innerK kx kp ∧ okr = okx) := by
          show _ ∧ _
          have := HRR.out
          rw [HLEFT.out hik, show M + 1 - 1 = M from rfl, hX] at this
          simp only [HKP.out] at this
          injection this with e1 e2
          exact ⟨e1.symm, e2.symm⟩
        have hcl : ∀ W, Below wc.heap.size wc W → Calls Try.prog 28 #[keyV h, .int .i64 (i : Int), .int .i64 (k : Int), .slice (some ⟨g, o, none⟩) M c] W fun e w' => e = .returned (.tuple #[keyV kx, .bool okx]) ∧ Below W.heap.size W w' := fun W hW => by
          have hcl := HIH.out k (by omega) (by omega) (by omega) W h i (some ⟨g, o, none⟩) M c (ps.take M) hik ((HKYA.out.below (HBB.out.trans (hW.mono hzb))).front)
          rw [climb_take, hX] at hcl
          exact hcl
        have HCLA := Lib.hid (hcl wc.drew (belowDrew (Below.refl _ _)))
        have HCLB := Lib.hid (hcl _ HBZ.out)
        clear hcl hX
        go_upto_region 7 with (fail)
        go_cut [12, 13] (fun sx so wx => ∃ g7 : Nat, sx = .pointer (some ⟨g7, 0, none⟩) ∧ so = .bool okx ∧ Below wa.heap.size wa wx ∧ Blk wx g7 24 (bytesOf 32 kx).toArray ∧ Blk wx wa.heap.size 24 (bytesOf 32 kp).toArray)
        case first =>
          go_region_law (first
            | (go_simp; go_at_call 28; refine HCLA.out.mono ?_; rintro e w5 ⟨rfl, hb5⟩
               have HB5 := Lib.hid (⟨hb5.os, hb5.tape, hb5.output, hb5.size, hb5.block⟩ : Below wc.heap.size wc w5)
               have hka5 := keyAt_new w5
               clear hb5)
            | (go_simp; go_at_call 28; refine HCLB.out.mono ?_; rintro e w5 ⟨rfl, hb5⟩
               have HB5 := Lib.hid (HBZ.out.trans (hb5.mono HBZ.out.size))
               have HZ5 : Hid (Blk w5 wc.heap.size 24 #[.int .u8 0, .int .u8 0, .int .u8 0, .int .u8 0, .int .u8 0, .int .u8 0, .int .u8 0, .int .u8 0, .int .u8 0, .int .u8 0, .int .u8 0, .int .u8 0, .int .u8 0, .int .u8 0, .int .u8 0, .int .u8 0, .int .u8 0, .int .u8 0, .int .u8 0, .int .u8 0, .int .u8 0, .int .u8 0, .int .u8 0, .int .u8 0, .int .u8 0, .int .u8 0, .int .u8 0, .int .u8 0, .int .u8 0, .int .u8 0, .int .u8 0, .int .u8 0]) := by
                 show Blk _ _ _ _
                 exact Blk.below (w := (wc.alloc (.cells #[.int .u8 0, .int .u8 0, .int .u8 0, .int .u8 0, .int .u8 0, .int .u8 0, .int .u8 0, .int .u8 0, .int .u8 0, .int .u8 0, .int .u8 0, .int .u8 0, .int .u8 0, .int .u8 0, .int .u8 0, .int .u8 0, .int .u8 0, .int .u8 0, .int .u8 0, .int .u8 0, .int .u8 0, .int .u8 0, .int .u8 0, .int .u8 0, .int .u8 0, .int .u8 0, .int .u8 0, .int .u8 0, .int .u8 0, .int .u8 0, .int .u8 0, .int .u8 0] 24)).drew) (heap_alloc_new wc _) hb5 (by show wc.heap.size < (wc.alloc (.cells #[.int .u8 0, .int .u8 0, .int .u8 0, .int .u8 0, .int .u8 0, .int .u8 0, .int .u8 0, .int .u8 0, .int .u8 0, .int .u8 0, .int .u8 0, .int .u8 0, .int .u8 0, .int .u8 0, .int .u8 0, .int .u8 0, .int .u8 0, .int .u8 0, .int .u8 0, .int .u8 0, .int .u8 0, .int .u8 0, .int .u8 0, .int .u8 0, .int .u8 0, .int .u8 0, .int .u8 0, .int .u8 0, .int .u8 0, .int .u8 0, .int .u8 0, .int .u8 0] 24)).heap.size; rw [World.size_alloc]; omega)
               have hka5 : KeyAt w5 (.pointer (some ⟨wc.heap.size, 0, none⟩)) := ⟨_, _, rfl, HZ5.out, rfl⟩
               clear hb5))
          all_goals first
            | (have hk5 : Blk w5 wa.heap.size 24 (bytesOf 32 kp).toArray := HKB.out.below HB5.out HKB.out.lt
               have hz5 := HB5.out.size
               have HBC : Hid (Below wa.heap.size wa (World.setRow (w5.alloc (.cells #[.int .u8 0, .int .u8 0, .int .u8 0, .int .u8 0, .int .u8 0, .int .u8 0, .int .u8 0, .int .u8 0, .int .u8 0, .int .u8 0, .int .u8 0, .int .u8 0, .int .u8 0, .int .u8 0, .int .u8 0, .int .u8 0, .int .u8 0, .int .u8 0, .int .u8 0, .int .u8 0, .int .u8 0, .int .u8 0, .int .u8 0, .int .u8 0, .int .u8 0, .int .u8 0, .int .u8 0, .int .u8 0, .int .u8 0, .int .u8 0, .int .u8 0, .int .u8 0] 24)) w5.heap.size (bytesOf 32 kx).toArray)) := by
                 show Below _ _ _
                 exact below_setRow ((HBB.out.trans (HB5.out.mono hzb)).alloc (by omega) _) (by omega) _
               have HKX : Hid (Blk (World.setRow (w5.alloc (.cells #[.int .u8 0, .int .u8 0, .int .u8 0, .int .u8 0, .int .u8 0, .int .u8 0, .int .u8 0, .int .u8 0, .int .u8 0, .int .u8 0, .int .u8 0, .int .u8 0, .int .u8 0, .int .u8 0, .int .u8 0, .int .u8 0, .int .u8 0, .int .u8 0, .int .u8 0, .int .u8 0, .int .u8 0, .int .u8 0, .int .u8 0, .int .u8 0, .int .u8 0, .int .u8 0, .int .u8 0, .int .u8 0, .int .u8 0, .int .u8 0, .int .u8 0, .int .u8 0] 24)) w5.heap.size (bytesOf 32 kx).toArray) w5.heap.size 24 (bytesOf 32 kx).toArray) := by
                 show Blk _ _ _ _
                 exact setRow_same _ _ _ _ _ (heap_alloc_new w5 _)
               have HKC : Hid (Blk (World.setRow (w5.alloc (.cells #[.int .u8 0, .int .u8 0, .int .u8 0, .int .u8 0, .int .u8 0, .int .u8 0, .int .u8 0, .int .u8 0, .int .u8 0, .int .u8 0, .int .u8 0, .int .u8 0, .int .u8 0, .int .u8 0, .int .u8 0, .int .u8 0, .int .u8 0, .int .u8 0, .int .u8 0, .int .u8 0, .int .u8 0, .int .u8 0, .int .u8 0, .int .u8 0, .int .u8 0, .int .u8 0, .int .u8 0, .int .u8 0, .int .u8 0, .int .u8 0, .int .u8 0, .int .u8 0] 24)) w5.heap.size (bytesOf 32 kx).toArray) wa.heap.size 24 (bytesOf 32 kp).toArray) := by
                 show Blk _ _ _ _
                 exact (setRow_other _ _ _ _ (by omega)).trans (hk5.alloc _)
               clear hka5 hok1 hlk1 hok3 hlk3 hk5
               go_wp2_with fail
               go_meet
               exact ⟨_, rfl, rfl, HBC.out, HKX.out, HKC.out⟩)
            | (have hk5 : Blk w5 wa.heap.size 24 (bytesOf 32 kp).toArray := HKB.out.below HB5.out HKB.out.lt
               have hz5 := HB5.out.size
               have HBC : Hid (Below wa.heap.size wa (World.setRow w5 wc.heap.size (bytesOf 32 kx).toArray)) := by
                 show Below _ _ _
                 exact below_setRow (HBB.out.trans (HB5.out.mono hzb)) (by omega) _
               have HKX : Hid (Blk (World.setRow w5 wc.heap.size (bytesOf 32 kx).toArray) wc.heap.size 24 (bytesOf 32 kx).toArray) := by
                 show Blk _ _ _ _
                 exact setRow_same _ _ _ _ _ (HZ5.out)
               have HKC : Hid (Blk (World.setRow w5 wc.heap.size (bytesOf 32 kx).toArray) wa.heap.size 24 (bytesOf 32 kp).toArray) := by
                 show Blk _ _ _ _
                 exact (setRow_other _ _ _ _ (by omega)).trans (hk5)
               clear hka5 hok1 hlk1 hok3 hlk3 hk5
               go_wp2_with fail
               go_meet
               exact ⟨_, rfl, rfl, HBC.out, HKX.out, HKC.out⟩)
        case rest =>
          obtain ⟨g7, rfl, rfl, hbc, hkx, hkc⟩ := hcut
          clear hok1 hlk1 hok3 hlk3
          have HBC := Lib.hid hbc
          have HKX := Lib.hid hkx
          have HKC := Lib.hid hkc
          clear hbc hkx hkc
          have HKZC := Lib.hid (HKZ.out.below HBC.out HKZ.out.lt)
          go_wp2_with (first
            | (refine wpList_load_row rfl 24 (.tmp 12) rfl g7 rfl _ (bytesOf 32 kx).toArray (0, 0) _ HKX.out Try.underlying24 rfl (by rw [keyV_size]; kernel_rfl) ?_)
            | (refine wpList_load_row rfl 24 (.tmp 11) rfl wa.heap.size rfl _ (bytesOf 32 kp).toArray (0, 0) _ HKC.out Try.underlying24 rfl (by rw [keyV_size]; kernel_rfl) ?_))
          refine (minner_any _ kx kp).mono ?_
          rintro e w6 ⟨rfl, hb6⟩
          obtain ⟨hf1, hf2⟩ := hfin.out
          rw [← hf1, ← hf2]
          clear hf1 hf2
          have HB6 := Lib.hid (HB0.out.trans ((HBC.out.trans (hb6.mono HBC.out.size)).mono HB0.out.size))
          have HK6 := Lib.hid (HKZC.out.below hb6 HKZC.out.lt)
          clear hb6
          go_wp2_with (refine wpList_store_rowTo rfl 24 (.tmp 8) (.tmp 51) rfl rfl (w.heap.size + 1) (bytesOf 32 kr).toArray rfl rfl _ _ HK6.out (by rw [keyV_size]; kernel_rfl) (by rw [keyV_size, hold]) (keyV_one _) ?_)
          (try simp only [Exit.inBlock, Exit.then])
          refine bodyPost_ret (results_cell_tmp rfl _ _ (w.heap.size + 1) _ (bytesOf 32 kr).toArray (0, 0) _ rfl (setRow_same _ _ _ _ _ HK6.out) Try.underlying24 rfl (by rw [keyV_size]; kernel_rfl)) rfl ⟨rfl, below_setRow HB6.out (by omega) _⟩
      · have hik' : ¬ (i : Int) < k := by omega
        obtain ⟨j, hj⟩ : ∃ j, i - k = j := ⟨_, rfl⟩
        obtain ⟨nk, hnk⟩ : ∃ nk, n - k = nk := ⟨_, rfl⟩
        obtain ⟨⟨kx, okx⟩, hX⟩ : ∃ X, climbK h j nk (fun r => ps.getD r (fun _ => 0)) M = X := ⟨_, rfl⟩
        have hfin : Hid (kr = innerK kp kx ∧ okr = okx) := by
          show _ ∧ _
          have := HRR.out
          rw [HRIGHT.out hik, show M + 1 - 1 = M from rfl, hj, hnk, hX] at this
          simp only [HKP.out] at this
          injection this with e1 e2
          exact ⟨e1.symm, e2.symm⟩
        have r1 : IntKind.i64.wrap ((i : Int) - k) = (j : Int) := by rw [IntWalk.i64_in _ (by omega)]; omega
        have r2 : IntKind.i64.wrap ((n : Int) - k) = (nk : Int) := by rw [IntWalk.i64_in _ (by omega)]; omega
        have r5 : IntKind.i64.wrap (j : Int) = (j : Int) := IntWalk.i64_in _ (by omega)
        have r6 : IntKind.i64.wrap (nk : Int) = (nk : Int) := IntWalk.i64_in _ (by omega)
        have r3 : (i : Int) - k = (j : Int) := by omega
        have r4 : (n : Int) - k = (nk : Int) := by omega
        have hcl : ∀ W, Below wc.heap.size wc W → Calls Try.prog 28 #[keyV h, .int .i64 (j : Int), .int .i64 (nk : Int), .slice (some ⟨g, o, none⟩) M c] W fun e w' => e = .returned (.tuple #[keyV kx, .bool okx]) ∧ Below W.heap.size W w' := fun W hW => by
          have hcl := HIH.out nk (by omega) (by omega) (by omega) W h j (some ⟨g, o, none⟩) M c (ps.take M) (by omega) ((HKYA.out.below (HBB.out.trans (hW.mono hzb))).front)
          rw [climb_take, hX] at hcl
          exact hcl
        have HCLA := Lib.hid (hcl wc.drew (belowDrew (Below.refl _ _)))
        have HCLB := Lib.hid (hcl _ HBZ.out)
        clear hcl hX
        go_upto_region 9 with (fail)
        go_cut [14, 15] (fun sx so wx => ∃ g7 : Nat, sx = .pointer (some ⟨g7, 0, none⟩) ∧ so = .bool okx ∧ Below wa.heap.size wa wx ∧ Blk wx g7 24 (bytesOf 32 kx).toArray ∧ Blk wx wa.heap.size 24 (bytesOf 32 kp).toArray)
        case first =>
          go_region_law (first
            | (go_simp; go_at_call 28; refine HCLA.out.mono ?_; rintro e w5 ⟨rfl, hb5⟩
               have HB5 := Lib.hid (⟨hb5.os, hb5.tape, hb5.output, hb5.size, hb5.block⟩ : Below wc.heap.size wc w5)
               have hka5 := keyAt_new w5
               clear hb5)
            | (go_simp; go_at_call 28; refine HCLB.out.mono ?_; rintro e w5 ⟨rfl, hb5⟩
               have HB5 := Lib.hid (HBZ.out.trans (hb5.mono HBZ.out.size))
               have HZ5 : Hid (Blk w5 wc.heap.size 24 #[.int .u8 0, .int .u8 0, .int .u8 0, .int .u8 0, .int .u8 0, .int .u8 0, .int .u8 0, .int .u8 0, .int .u8 0, .int .u8 0, .int .u8 0, .int .u8 0, .int .u8 0, .int .u8 0, .int .u8 0, .int .u8 0, .int .u8 0, .int .u8 0, .int .u8 0, .int .u8 0, .int .u8 0, .int .u8 0, .int .u8 0, .int .u8 0, .int .u8 0, .int .u8 0, .int .u8 0, .int .u8 0, .int .u8 0, .int .u8 0, .int .u8 0, .int .u8 0]) := by
                 show Blk _ _ _ _
                 exact Blk.below (w := (wc.alloc (.cells #[.int .u8 0, .int .u8 0, .int .u8 0, .int .u8 0, .int .u8 0, .int .u8 0, .int .u8 0, .int .u8 0, .int .u8 0, .int .u8 0, .int .u8 0, .int .u8 0, .int .u8 0, .int .u8 0, .int .u8 0, .int .u8 0, .int .u8 0, .int .u8 0, .int .u8 0, .int .u8 0, .int .u8 0, .int .u8 0, .int .u8 0, .int .u8 0, .int .u8 0, .int .u8 0, .int .u8 0, .int .u8 0, .int .u8 0, .int .u8 0, .int .u8 0, .int .u8 0] 24)).drew) (heap_alloc_new wc _) hb5 (by show wc.heap.size < (wc.alloc (.cells #[.int .u8 0, .int .u8 0, .int .u8 0, .int .u8 0, .int .u8 0, .int .u8 0, .int .u8 0, .int .u8 0, .int .u8 0, .int .u8 0, .int .u8 0, .int .u8 0, .int .u8 0, .int .u8 0, .int .u8 0, .int .u8 0, .int .u8 0, .int .u8 0, .int .u8 0, .int .u8 0, .int .u8 0, .int .u8 0, .int .u8 0, .int .u8 0, .int .u8 0, .int .u8 0, .int .u8 0, .int .u8 0, .int .u8 0, .int .u8 0, .int .u8 0, .int .u8 0] 24)).heap.size; rw [World.size_alloc]; omega)
               have hka5 : KeyAt w5 (.pointer (some ⟨wc.heap.size, 0, none⟩)) := ⟨_, _, rfl, HZ5.out, rfl⟩
               clear hb5))
          all_goals first
            | (have hk5 : Blk w5 wa.heap.size 24 (bytesOf 32 kp).toArray := HKB.out.below HB5.out HKB.out.lt
               have hz5 := HB5.out.size
               have HBC : Hid (Below wa.heap.size wa (World.setRow (w5.alloc (.cells #[.int .u8 0, .int .u8 0, .int .u8 0, .int .u8 0, .int .u8 0, .int .u8 0, .int .u8 0, .int .u8 0, .int .u8 0, .int .u8 0, .int .u8 0, .int .u8 0, .int .u8 0, .int .u8 0, .int .u8 0, .int .u8 0, .int .u8 0, .int .u8 0, .int .u8 0, .int .u8 0, .int .u8 0, .int .u8 0, .int .u8 0, .int .u8 0, .int .u8 0, .int .u8 0, .int .u8 0, .int .u8 0, .int .u8 0, .int .u8 0, .int .u8 0, .int .u8 0] 24)) w5.heap.size (bytesOf 32 kx).toArray)) := by
                 show Below _ _ _
                 exact below_setRow ((HBB.out.trans (HB5.out.mono hzb)).alloc (by omega) _) (by omega) _
               have HKX : Hid (Blk (World.setRow (w5.alloc (.cells #[.int .u8 0, .int .u8 0, .int .u8 0, .int .u8 0, .int .u8 0, .int .u8 0, .int .u8 0, .int .u8 0, .int .u8 0, .int .u8 0, .int .u8 0, .int .u8 0, .int .u8 0, .int .u8 0, .int .u8 0, .int .u8 0, .int .u8 0, .int .u8 0, .int .u8 0, .int .u8 0, .int .u8 0, .int .u8 0, .int .u8 0, .int .u8 0, .int .u8 0, .int .u8 0, .int .u8 0, .int .u8 0, .int .u8 0, .int .u8 0, .int .u8 0, .int .u8 0] 24)) w5.heap.size (bytesOf 32 kx).toArray) w5.heap.size 24 (bytesOf 32 kx).toArray) := by
                 show Blk _ _ _ _
                 exact setRow_same _ _ _ _ _ (heap_alloc_new w5 _)
               have HKC : Hid (Blk (World.setRow (w5.alloc (.cells #[.int .u8 0, .int .u8 0, .int .u8 0, .int .u8 0, .int .u8 0, .int .u8 0, .int .u8 0, .int .u8 0, .int .u8 0, .int .u8 0, .int .u8 0, .int .u8 0, .int .u8 0, .int .u8 0, .int .u8 0, .int .u8 0, .int .u8 0, .int .u8 0, .int .u8 0, .int .u8 0, .int .u8 0, .int .u8 0, .int .u8 0, .int .u8 0, .int .u8 0, .int .u8 0, .int .u8 0, .int .u8 0, .int .u8 0, .int .u8 0, .int .u8 0, .int .u8 0] 24)) w5.heap.size (bytesOf 32 kx).toArray) wa.heap.size 24 (bytesOf 32 kp).toArray) := by
                 show Blk _ _ _ _
                 exact (setRow_other _ _ _ _ (by omega)).trans (hk5.alloc _)
               clear hka5 hok1 hlk1 hok3 hlk3 hk5
               go_wp2_with fail
               go_meet
               exact ⟨_, rfl, rfl, HBC.out, HKX.out, HKC.out⟩)
            | (have hk5 : Blk w5 wa.heap.size 24 (bytesOf 32 kp).toArray := HKB.out.below HB5.out HKB.out.lt
               have hz5 := HB5.out.size
               have HBC : Hid (Below wa.heap.size wa (World.setRow w5 wc.heap.size (bytesOf 32 kx).toArray)) := by
                 show Below _ _ _
                 exact below_setRow (HBB.out.trans (HB5.out.mono hzb)) (by omega) _
               have HKX : Hid (Blk (World.setRow w5 wc.heap.size (bytesOf 32 kx).toArray) wc.heap.size 24 (bytesOf 32 kx).toArray) := by
                 show Blk _ _ _ _
                 exact setRow_same _ _ _ _ _ (HZ5.out)
               have HKC : Hid (Blk (World.setRow w5 wc.heap.size (bytesOf 32 kx).toArray) wa.heap.size 24 (bytesOf 32 kp).toArray) := by
                 show Blk _ _ _ _
                 exact (setRow_other _ _ _ _ (by omega)).trans (hk5)
               clear hka5 hok1 hlk1 hok3 hlk3 hk5
               go_wp2_with fail
               go_meet
               exact ⟨_, rfl, rfl, HBC.out, HKX.out, HKC.out⟩)
        case rest =>
          obtain ⟨g7, rfl, rfl, hbc, hkx, hkc⟩ := hcut
          clear hok1 hlk1 hok3 hlk3
          have HBC := Lib.hid hbc
          have HKX := Lib.hid hkx
          have HKC := Lib.hid hkc
          clear hbc hkx hkc
          have HKZC := Lib.hid (HKZ.out.below HBC.out HKZ.out.lt)
          go_wp2_with (first
            | (refine wpList_load_row rfl 24 (.tmp 14) rfl g7 rfl _ (bytesOf 32 kx).toArray (0, 0) _ HKX.out Try.underlying24 rfl (by rw [keyV_size]; kernel_rfl) ?_)
            | (refine wpList_load_row rfl 24 (.tmp 11) rfl wa.heap.size rfl _ (bytesOf 32 kp).toArray (0, 0) _ HKC.out Try.underlying24 rfl (by rw [keyV_size]; kernel_rfl) ?_))
          refine (minner_any _ kp kx).mono ?_
          rintro e w6 ⟨rfl, hb6⟩
          obtain ⟨hf1, hf2⟩ := hfin.out
          rw [← hf1, ← hf2]
          clear hf1 hf2
          have HB6 := Lib.hid (HB0.out.trans ((HBC.out.trans (hb6.mono HBC.out.size)).mono HB0.out.size))
          have HK6 := Lib.hid (HKZC.out.below hb6 HKZC.out.lt)
          clear hb6
          go_wp2_with (refine wpList_store_rowTo rfl 24 (.tmp 8) (.tmp 71) rfl rfl (w.heap.size + 1) (bytesOf 32 kr).toArray rfl rfl _ _ HK6.out (by rw [keyV_size]; kernel_rfl) (by rw [keyV_size, hold]) (keyV_one _) ?_)
          (try simp only [Exit.inBlock, Exit.then])
          refine bodyPost_ret (results_cell_tmp rfl _ _ (w.heap.size + 1) _ (bytesOf 32 kr).toArray (0, 0) _ rfl (setRow_same _ _ _ _ _ HK6.out) Try.underlying24 rfl (by rw [keyV_size]; kernel_rfl)) rfl ⟨rfl, below_setRow HB6.out (by omega) _⟩

end Go.Proofs.Ytlijjacnfdnhkaa
