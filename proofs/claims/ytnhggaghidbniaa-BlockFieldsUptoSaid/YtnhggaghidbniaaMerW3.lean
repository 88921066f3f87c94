/- Root, of the program and of the reference. -/
import Derived.Test.YtnhggaghidbniaaMerW2
namespace Go.Proofs.Ytnhggaghidbniaa
open Go.RowKit
set_option linter.unusedVariables false
open ShaW Sha

theorem belowDrew {B : Nat} {w wr : World} (h : Below B w wr) : Below B w wr.drew := ⟨h.os, h.tape, h.output, h.size, h.block⟩
/-- a list of byte slices, to be read and cut -/
def RowsAt (w : World) (A : Option Addr) (n c : Nat) (L : Nat → Nat) (F : Nat → Nat → UInt8) : Prop :=
  n ≤ c ∧ c ≤ 9223372036854775807 ∧ ∃ b o, (0 < n → A = some ⟨b, o, none⟩) ∧ ∀ r, r < n → ∃ A' c', w.cell? ⟨b, o + r, none⟩ = some (.slice A' (L r) c') ∧ Reads w w.heap.size 1 A' (L r) (bytesOf (L r) (F r)) ∧ L r ≤ 1073741823
theorem RowsAt.below {w w' : World} {A : Option Addr} {n c : Nat} {L : Nat → Nat} {F : Nat → Nat → UInt8} (h : RowsAt w A n c L F) (hb : Below w.heap.size w w') : RowsAt w' A n c L F := by
  obtain ⟨h1, h2, b, o, hA, hr⟩ := h
  refine ⟨h1, h2, b, o, hA, fun r hr' => ?_⟩
  obtain ⟨A', c', e, hd, hl⟩ := hr r hr'
  exact ⟨A', c', (hb.cell (p := ⟨b, o + r, none⟩) (World.block_lt_of_cell? w _ e)).trans e, (hd.below hb).more hb.size, hl⟩
theorem RowsAt.take {w : World} {A : Option Addr} {n c k : Nat} {L : Nat → Nat} {F : Nat → Nat → UInt8} (h : RowsAt w A n c L F) (hk : k ≤ n) : RowsAt w A k c L F := by
  obtain ⟨h1, h2, b, o, hA, hr⟩ := h
  exact ⟨by omega, h2, b, o, fun h => hA (by omega), fun r hr' => hr r (by omega)⟩
theorem RowsAt.drop {w : World} {b o n c k : Nat} {L : Nat → Nat} {F : Nat → Nat → UInt8} (h : RowsAt w (some ⟨b, o, none⟩) n c L F) (hk : k < n) : RowsAt w (some ⟨b, o + k, none⟩) (n - k) (c - k) (fun r => L (k + r)) (fun r => F (k + r)) := by
  obtain ⟨h1, h2, b', o', hA, hr⟩ := h
  have e := hA (by omega)
  injection e with e
  injection e with e1 e2
  subst e1 e2
  refine ⟨by omega, by omega, b, o + k, fun _ => rfl, fun r hr' => ?_⟩
  obtain ⟨A', c', e, hd, hl⟩ := hr (k + r) (by omega)
  exact ⟨A', c', by rw [Nat.add_assoc]; exact e, hd, hl⟩

set_option maxRecDepth 100000 in
set_option maxHeartbeats 1000000 in
attribute [local go_sem ↓] wp_store_key in
attribute [local go_sem] storeRow_eq storeRow_key isKey_keyV isKey_keyV' in
theorem mroot_any : ∀ (n : Nat), n ≤ 1073741823 → ∀ (w : World) (A : Option Addr) (c : Nat) (L : Nat → Nat) (F : Nat → Nat → UInt8), RowsAt w A n c L F →
    Calls Try.prog 36 #[.slice A n c] w fun e w' => e = .returned (keyV (rootK n L F)) ∧ Below w.heap.size w w' := by
  intro n
  induction n using Nat.strongRecOn with
  | _ n ih =>
  intro hn w A c L F hrows
  obtain ⟨kr, hkr0⟩ : ∃ kr, rootK n L F = kr := ⟨_, rfl⟩
  rw [hkr0]
  have HKR := Lib.hid hkr0
  have HIH := Lib.hid ih
  have HRW := Lib.hid hrows
  have hnc : n ≤ c := hrows.1
  have hcm : c ≤ 9223372036854775807 := hrows.2.1
  clear hkr0 ih hrows
  go_enter Try.func36, Try.ntmps36
  rcases Nat.lt_or_ge n 2 with h2 | h2
  · rcases Nat.eq_zero_or_pos n with rfl | h0
    · go_wp2_with fail
      generalize hwa : World.alloc w _ = wa
      have hb0 : Below w.heap.size w wa := by rw [← hwa]; exact ((Below.refl _ _).alloc (Nat.le_refl _) _)
      have hr0 : wa.rowIs w.heap.size 23 32 (fun _ => .int .u8 0) := by rw [← hwa]; exact (zero_row w 23 _ rfl _ rfl)
      obtain ⟨old, hkr, hold⟩ := ret_row hr0
      have hkr : Blk wa w.heap.size 23 old := hkr
      clear hwa hr0
      refine (sum_any wa none 0 0 (fun _ => 0) Reads.none_ (by omega)).mono ?_
      rintro e w1 ⟨rfl, hb1⟩
      have HK1 := Lib.hid (hkr.below hb1 hkr.lt)
      have HB1 := Lib.hid (hb0.trans (hb1.mono hb0.size))
      have hkk : Hid (sha 0 (fun _ => 0) = kr) := by show _ = _; rw [← HKR.out, rootK_zero]; rfl
      rw [hkk.out]
      clear hkr hb1 hb0
      go_wp2_with (refine wpList_store_rowTo rfl 23 (.tmp 2) (.tmp 8) rfl rfl w.heap.size (bytesOf 32 kr).toArray rfl rfl _ _ HK1.out (by rw [keyV_size]; kernel_rfl) (by rw [keyV_size, hold]) (keyV_one _) ?_)
      refine bodyPost_ret (results_cell_row rfl _ _ w.heap.size _ (bytesOf 32 kr).toArray (0, 0) _ rfl (setRow_same _ _ _ _ _ HK1.out) Try.underlying23 rfl (by rw [keyV_size]; kernel_rfl)) rfl ⟨rfl, ?_⟩
      exact below_setRow HB1.out (Nat.le_refl _) _
    · obtain rfl : n = 1 := by omega
      go_upto_region 5 with (fail)
      generalize hwa : World.alloc w _ = wa
      have hb0 : Below w.heap.size w wa := by rw [← hwa]; exact ((Below.refl _ _).alloc (Nat.le_refl _) _)
      have hr0 : wa.rowIs w.heap.size 23 32 (fun _ => .int .u8 0) := by rw [← hwa]; exact (zero_row w 23 _ rfl _ rfl)
      obtain ⟨old, hkr, hold⟩ := ret_row hr0
      have hkr : Blk wa w.heap.size 23 old := hkr
      clear hwa hr0
      obtain ⟨_, _, b, o, hA, hr⟩ := HRW.out.below hb0
      obtain rfl := hA (by omega)
      obtain ⟨A', c', y0, hrd, hl⟩ := hr 0 (by omega)
      rw [Nat.add_zero] at y0
      have HRD := Lib.hid hrd
      have HKW := Lib.hid hkr
      have HB0 := Lib.hid hb0
      obtain ⟨l, hle⟩ : ∃ l, L 0 = l := ⟨_, rfl⟩
      rw [hle] at y0 HRD hl
      have HLE := Lib.hid hle
      clear hr hrd hkr hb0 hle
      go_wp2_with fail
      refine (mleaf_any wa A' l c' (F 0) HRD.out (by omega)).mono ?_
      rintro e w1 ⟨rfl, hb1⟩
      have HK1 := Lib.hid (HKW.out.below hb1 HKW.out.lt)
      have HB1 := Lib.hid (HB0.out.trans (hb1.mono HB0.out.size))
      have hkk : Hid (leafK l (F 0) = kr) := by show _ = _; rw [← HKR.out, rootK_one, HLE.out]
      rw [hkk.out]
      clear hb1 HKW HB0 HRD
      go_wp2_with (refine wpList_store_rowTo rfl 23 (.tmp 2) (.tmp 14) rfl rfl w.heap.size (bytesOf 32 kr).toArray rfl rfl _ _ HK1.out (by rw [keyV_size]; kernel_rfl) (by rw [keyV_size, hold]) (keyV_one _) ?_)
      refine bodyPost_ret (results_cell_row rfl _ _ w.heap.size _ (bytesOf 32 kr).toArray (0, 0) _ rfl (setRow_same _ _ _ _ _ HK1.out) Try.underlying23 rfl (by rw [keyV_size]; kernel_rfl)) rfl ⟨rfl, ?_⟩
      exact below_setRow HB1.out (Nat.le_refl _) _
  · have e0 : ((n : Int) == 0) = false := by simp; omega
    have e1 : ((n : Int) == 1) = false := by simp; omega
    have hh := halfN_lt h2
    have hp := halfN_pos n
    have hhalf := fun w => mhalf_any w n h2 (by omega)
    obtain ⟨k, hk⟩ : ∃ k, halfN n = k := ⟨_, rfl⟩
    have hmore := rootK_more h2 L F
    rw [hk] at hh hp hhalf hmore
    have HHALF := Lib.hid hhalf
    have HMORE := Lib.hid hmore
    clear hk hhalf hmore
    go_wp2_with fail
    generalize hwa : World.alloc w _ = wa
    have hb0 : Below w.heap.size w wa := by rw [← hwa]; exact ((Below.refl _ _).alloc (Nat.le_refl _) _)
    have hr0 : wa.rowIs w.heap.size 23 32 (fun _ => .int .u8 0) := by rw [← hwa]; exact (zero_row w 23 _ rfl _ rfl)
    obtain ⟨old, hkr, hold⟩ := ret_row hr0
    have hkr : Blk wa w.heap.size 23 old := hkr
    clear hwa hr0
    refine (HHALF.out _).mono ?_
    rintro e w' ⟨rfl, rfl⟩
    have hrw := HRW.out.below hb0
    obtain ⟨_, _, b, o, hA, _⟩ := id hrw
    obtain rfl := hA (by omega)
    obtain ⟨kl, hkl⟩ : ∃ kl, rootK k L F = kl := ⟨_, rfl⟩
    obtain ⟨kq, hkq⟩ : ∃ kq, rootK (n - k) (fun r => L (k + r)) (fun r => F (k + r)) = kq := ⟨_, rfl⟩
    have hleft : ∀ W, Below w'.heap.size w' W → Calls Try.prog 36 #[.slice (some ⟨b, o, none⟩) k c] W fun e w2 => e = .returned (keyV kl) ∧ Below W.heap.size W w2 := fun W hW => by
      have h := HIH.out k (by omega) (by omega) W _ c L F ((hrw.below hW).take (by omega))
      rw [hkl] at h
      exact h
    have hright : ∀ W, Below w'.heap.size w' W → Calls Try.prog 36 #[.slice (some ⟨b, o + k, none⟩) (n - k) (c - k)] W fun e w2 => e = .returned (keyV kq) ∧ Below W.heap.size W w2 := fun W hW => by
      have h := HIH.out (n - k) (by omega) (by omega) W _ (c - k) _ _ ((hrw.below hW).drop (by omega))
      rw [hkq] at h
      exact h
    have hmo : Hid (innerK kl kq = kr) := by
      show _ = _
      rw [← HKR.out, HMORE.out, hkl, hkq]
    have HLF := Lib.hid (hleft w'.drew (belowDrew (Below.refl _ _)))
    have HRT := Lib.hid hright
    have HKW := Lib.hid hkr
    have HB0 := Lib.hid hb0
    have q1 : (k : Int) ≤ n := by omega
    have q2 : (k : Int) ≤ c := by omega
    have q3 : ¬ c = k := by omega
    clear hleft hright hkr hb0 hrw hA hkl hkq HIH HMORE HHALF HRW
    go_wp2_with fail
    go_region_law (first
      | (go_simp; go_at_call 36; refine (HRT.out _ HB4.out).mono ?_; rintro e w5 ⟨rfl, hb5⟩
         have HB5 := Lib.hid (HB4.out.trans (hb5.mono HB4.out.size))
         clear hb5)
      | (go_simp; go_at_call 36; refine HLF.out.mono ?_; rintro e w4 ⟨rfl, hb4⟩
         have HB4 := Lib.hid (⟨hb4.os, hb4.tape, hb4.output, hb4.size, hb4.block⟩ : Below w'.heap.size w' w4)
         clear hb4)
      | (go_simp; go_at_call 53; refine (minner_any _ _ _).mono ?_; rintro e w6 ⟨rfl, hb6⟩
         rw [hmo.out]
         have HB6 := Lib.hid (HB5.out.trans (hb6.mono HB5.out.size))
         have hk6 := HKW.out.below HB6.out HKW.out.lt
         have hkat : KeyAt w6 (.pointer (some ⟨w.heap.size, 0, none⟩)) := ⟨_, _, rfl, hk6, hold⟩
         have HK6 := Lib.hid hk6
         clear hb6 hk6))
    all_goals
      go_wp2_with fail
      refine bodyPost_ret (results_cell_row rfl _ _ w.heap.size _ (bytesOf 32 kr).toArray (0, 0) _ rfl (setRow_same _ _ _ _ _ HK6.out) Try.underlying23 rfl (by rw [keyV_size]; kernel_rfl)) rfl ⟨rfl, ?_⟩
      exact below_setRow (HB0.out.trans (HB6.out.mono HB0.out.size)) (Nat.le_refl _) _

set_option maxRecDepth 100000 in
set_option maxHeartbeats 1000000 in
attribute [local go_sem ↓] wp_store_key in
attribute [local go_sem] storeRow_eq storeRow_key isKey_keyV isKey_keyV' in
theorem rroot_any : ∀ (n : Nat), n ≤ 1073741823 → ∀ (w : World) (A : Option Addr) (c : Nat) (L : Nat → Nat) (F : Nat → Nat → UInt8), RowsAt w A n c L F →
    Calls Try.prog 23 #[.slice A n c] w fun e w' => e = .returned (keyV (rootK n L F)) ∧ Below w.heap.size w w' := by
  intro n
  induction n using Nat.strongRecOn with
  | _ n ih =>
  intro hn w A c L F hrows
  obtain ⟨kr, hkr0⟩ : ∃ kr, rootK n L F = kr := ⟨_, rfl⟩
  rw [hkr0]
  have HKR := Lib.hid hkr0
  have HIH := Lib.hid ih
  have HRW := Lib.hid hrows
  have hnc : n ≤ c := hrows.1
  have hcm : c ≤ 9223372036854775807 := hrows.2.1
  clear hkr0 ih hrows
  go_enter Try.func23, Try.ntmps23
  rcases Nat.lt_or_ge n 2 with h2 | h2
  · rcases Nat.eq_zero_or_pos n with rfl | h0
    · go_wp2_with fail
      generalize hwa : World.alloc w _ = wa
      have hb0 : Below w.heap.size w wa := by rw [← hwa]; exact ((Below.refl _ _).alloc (Nat.le_refl _) _)
      have hr0 : wa.rowIs w.heap.size 23 32 (fun _ => .int .u8 0) := by rw [← hwa]; exact (zero_row w 23 _ rfl _ rfl)
      obtain ⟨old, hkr, hold⟩ := ret_row hr0
      have hkr : Blk wa w.heap.size 23 old := hkr
      clear hwa hr0
      refine (rsha_any wa none 0 0 (fun _ => 0) Reads.none_ (by omega)).mono ?_
      rintro e w1 ⟨rfl, hb1⟩
      have HK1 := Lib.hid (hkr.below hb1 hkr.lt)
      have HB1 := Lib.hid (hb0.trans (hb1.mono hb0.size))
      have hkk : Hid (sha 0 (fun _ => 0) = kr) := by show _ = _; rw [← HKR.out, rootK_zero]; rfl
      rw [hkk.out]
      clear hkr hb1 hb0
      go_wp2_with (refine wpList_store_rowTo rfl 23 (.tmp 2) (.tmp 8) rfl rfl w.heap.size (bytesOf 32 kr).toArray rfl rfl _ _ HK1.out (by rw [keyV_size]; kernel_rfl) (by rw [keyV_size, hold]) (keyV_one _) ?_)
      refine bodyPost_ret (results_cell_row rfl _ _ w.heap.size _ (bytesOf 32 kr).toArray (0, 0) _ rfl (setRow_same _ _ _ _ _ HK1.out) Try.underlying23 rfl (by rw [keyV_size]; kernel_rfl)) rfl ⟨rfl, ?_⟩
      exact below_setRow HB1.out (Nat.le_refl _) _
    · obtain rfl : n = 1 := by omega
      go_upto_region 5 with (fail)
      generalize hwa : World.alloc w _ = wa
      have hb0 : Below w.heap.size w wa := by rw [← hwa]; exact ((Below.refl _ _).alloc (Nat.le_refl _) _)
      have hr0 : wa.rowIs w.heap.size 23 32 (fun _ => .int .u8 0) := by rw [← hwa]; exact (zero_row w 23 _ rfl _ rfl)
      obtain ⟨old, hkr, hold⟩ := ret_row hr0
      have hkr : Blk wa w.heap.size 23 old := hkr
      clear hwa hr0
      obtain ⟨_, _, b, o, hA, hr⟩ := HRW.out.below hb0
      obtain rfl := hA (by omega)
      obtain ⟨A', c', y0, hrd, hl⟩ := hr 0 (by omega)
      rw [Nat.add_zero] at y0
      have HRD := Lib.hid hrd
      have HKW := Lib.hid hkr
      have HB0 := Lib.hid hb0
      obtain ⟨l, hle⟩ : ∃ l, L 0 = l := ⟨_, rfl⟩
      rw [hle] at y0 HRD hl
      have HLE := Lib.hid hle
      clear hr hrd hkr hb0 hle
      go_wp2_with fail
      refine (rleaf_any wa A' l c' (F 0) HRD.out (by omega)).mono ?_
      rintro e w1 ⟨rfl, hb1⟩
      have HK1 := Lib.hid (HKW.out.below hb1 HKW.out.lt)
      have HB1 := Lib.hid (HB0.out.trans (hb1.mono HB0.out.size))
      have hkk : Hid (leafK l (F 0) = kr) := by show _ = _; rw [← HKR.out, rootK_one, HLE.out]
      rw [hkk.out]
      clear hb1 HKW HB0 HRD
      go_wp2_with (refine wpList_store_rowTo rfl 23 (.tmp 2) (.tmp 14) rfl rfl w.heap.size (bytesOf 32 kr).toArray rfl rfl _ _ HK1.out (by rw [keyV_size]; kernel_rfl) (by rw [keyV_size, hold]) (keyV_one _) ?_)
      refine bodyPost_ret (results_cell_row rfl _ _ w.heap.size _ (bytesOf 32 kr).toArray (0, 0) _ rfl (setRow_same _ _ _ _ _ HK1.out) Try.underlying23 rfl (by rw [keyV_size]; kernel_rfl)) rfl ⟨rfl, ?_⟩
      exact below_setRow HB1.out (Nat.le_refl _) _
  · have e0 : ((n : Int) == 0) = false := by simp; omega
    have e1 : ((n : Int) == 1) = false := by simp; omega
    have hh := halfN_lt h2
    have hp := halfN_pos n
    have hhalf := fun w => rhalf_any w n h2 (by omega)
    obtain ⟨k, hk⟩ : ∃ k, halfN n = k := ⟨_, rfl⟩
    have hmore := rootK_more h2 L F
    rw [hk] at hh hp hhalf hmore
    have HHALF := Lib.hid hhalf
    have HMORE := Lib.hid hmore
    clear hk hhalf hmore
    go_wp2_with fail
    generalize hwa : World.alloc w _ = wa
    have hb0 : Below w.heap.size w wa := by rw [← hwa]; exact ((Below.refl _ _).alloc (Nat.le_refl _) _)
    have hr0 : wa.rowIs w.heap.size 23 32 (fun _ => .int .u8 0) := by rw [← hwa]; exact (zero_row w 23 _ rfl _ rfl)
    obtain ⟨old, hkr, hold⟩ := ret_row hr0
    have hkr : Blk wa w.heap.size 23 old := hkr
    clear hwa hr0
    refine (HHALF.out _).mono ?_
    rintro e w' ⟨rfl, rfl⟩
    have hrw := HRW.out.below hb0
    obtain ⟨_, _, b, o, hA, _⟩ := id hrw
    obtain rfl := hA (by omega)
    obtain ⟨kl, hkl⟩ : ∃ kl, rootK k L F = kl := ⟨_, rfl⟩
    obtain ⟨kq, hkq⟩ : ∃ kq, rootK (n - k) (fun r => L (k + r)) (fun r => F (k + r)) = kq := ⟨_, rfl⟩
    have hleft : ∀ W, Below w'.heap.size w' W → Calls Try.prog 23 #[.slice (some ⟨b, o, none⟩) k c] W fun e w2 => e = .returned (keyV kl) ∧ Below W.heap.size W w2 := fun W hW => by
      have h := HIH.out k (by omega) (by omega) W _ c L F ((hrw.below hW).take (by omega))
      rw [hkl] at h
      exact h
    have hright : ∀ W, Below w'.heap.size w' W → Calls Try.prog 23 #[.slice (some ⟨b, o + k, none⟩) (n - k) (c - k)] W fun e w2 => e = .returned (keyV kq) ∧ Below W.heap.size W w2 := fun W hW => by
      have h := HIH.out (n - k) (by omega) (by omega) W _ (c - k) _ _ ((hrw.below hW).drop (by omega))
      rw [hkq] at h
      exact h
    have hmo : Hid (innerK kl kq = kr) := by
      show _ = _
      rw [← HKR.out, HMORE.out, hkl, hkq]
    have HLF := Lib.hid (hleft w'.drew (belowDrew (Below.refl _ _)))
    have HRT := Lib.hid hright
    have HKW := Lib.hid hkr
    have HB0 := Lib.hid hb0
    have q1 : (k : Int) ≤ n := by omega
    have q2 : (k : Int) ≤ c := by omega
    have q3 : ¬ c = k := by omega
    clear hleft hright hkr hb0 hrw hA hkl hkq HIH HMORE HHALF HRW
    go_wp2_with fail
    go_region_law (first
      | (go_simp; go_at_call 23; refine (HRT.out _ HB4.out).mono ?_; rintro e w5 ⟨rfl, hb5⟩
         have HB5 := Lib.hid (HB4.out.trans (hb5.mono HB4.out.size))
         clear hb5)
      | (go_simp; go_at_call 23; refine HLF.out.mono ?_; rintro e w4 ⟨rfl, hb4⟩
         have HB4 := Lib.hid (⟨hb4.os, hb4.tape, hb4.output, hb4.size, hb4.block⟩ : Below w'.heap.size w' w4)
         clear hb4)
      | (go_simp; go_at_call 39; refine (rinner_any _ _ _).mono ?_; rintro e w6 ⟨rfl, hb6⟩
         rw [hmo.out]
         have HB6 := Lib.hid (HB5.out.trans (hb6.mono HB5.out.size))
         have hk6 := HKW.out.below HB6.out HKW.out.lt
         have hkat : KeyAt w6 (.pointer (some ⟨w.heap.size, 0, none⟩)) := ⟨_, _, rfl, hk6, hold⟩
         have HK6 := Lib.hid hk6
         clear hb6 hk6))
    all_goals
      go_wp2_with fail
      refine bodyPost_ret (results_cell_row rfl _ _ w.heap.size _ (bytesOf 32 kr).toArray (0, 0) _ rfl (setRow_same _ _ _ _ _ HK6.out) Try.underlying23 rfl (by rw [keyV_size]; kernel_rfl)) rfl ⟨rfl, ?_⟩
      exact below_setRow (HB0.out.trans (HB6.out.mono HB0.out.size)) (Nat.le_refl _) _
end Go.Proofs.Ytnhggaghidbniaa
