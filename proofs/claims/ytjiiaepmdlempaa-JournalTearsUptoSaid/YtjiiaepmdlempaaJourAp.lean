/- JournalAppends: the walk. -/
import Derived.Test.YtjiiaepmdlempaaJourH
namespace Go.Proofs.Ytjiiaepmdlempaa
open Go.RowKit
set_option linter.unusedVariables false
open ShaW Sha

/-- two slices side by side -/
def two (a b : Nat) : Nat → Nat
  | 0 => a
  | _ => b
def twoF (f g : Nat → UInt8) : Nat → Nat → UInt8
  | 0 => f
  | _ => g
theorem two_rows (w : World) (A1 A2 : Option Addr) (n1 c1 n2 c2 : Nat) (f g : Nat → UInt8) (h1 : Reads w w.heap.size 1 A1 n1 (bytesOf n1 f)) (h2 : Reads w w.heap.size 1 A2 n2 (bytesOf n2 g)) :
    RowsB (w.alloc (.cells #[.slice A1 n1 c1, .slice A2 n2 c2] 22)) (.slice (some ⟨w.heap.size, 0, none⟩) 2 2) 2 (two n1 n2) (twoF f g) := by
  refine ⟨_, _, w.heap.size, 0, rfl, fun _ => rfl, fun r hr => ?_⟩
  have : r = 0 ∨ r = 1 := by omega
  rcases this with rfl | rfl
  · exact ⟨A1, c1, lit_cell' _ _ _ _ _, (h1.alloc (Nat.le_refl _) _).more (by rw [World.size_alloc]; omega)⟩
  · exact ⟨A2, c2, lit_cell' _ _ _ _ _, (h2.alloc (Nat.le_refl _) _).more (by rw [World.size_alloc]; omega)⟩
theorem two_len (a b : Nat) : catLen (two a b) 2 = a + b := by simp only [catLen, two]; omega
theorem catLen_ge (L : Nat → Nat) {n r : Nat} (h : r < n) : L r ≤ catLen L n := by
  have := catLen_mono L (show r + 1 ≤ n by omega)
  simp only [catLen] at this
  omega
theorem catLen_bound (L : Nat → Nat) (n B : Nat) (h : ∀ r, r < n → L r ≤ B) : catLen L n ≤ n * B := by
  induction n with
  | zero => simp [catLen]
  | succ n ih =>
    have := ih (fun r hr => h r (by omega))
    have := h n (by omega)
    simp only [catLen, Nat.succ_mul]
    omega

set_option maxRecDepth 100000 in
set_option maxHeartbeats 1000000 in
theorem jourAppends_any (w : World) (A0 A1 : Option Addr) (n0 c0 n1 c1 : Nat) (f0 f1 : Nat → UInt8) (v2 : Value) (n2 : Nat) (L : Nat → Nat) (F : Nat → Nat → UInt8)
    (hr0 : Reads w w.heap.size 1 A0 n0 (bytesOf n0 f0)) (hr1 : Reads w w.heap.size 1 A1 n1 (bytesOf n1 f1)) (h2 : RowsB w v2 n2 L F) (hn0 : n0 ≤ 1048576) (hn1 : n1 ≤ 1048576) (hn2 : n2 ≤ 1048576) (hL : ∀ r, r < n2 → L r ≤ 1048576) :
    Calls Try.prog 3 #[.slice A0 n0 c0, .slice A1 n1 c1, v2] w fun e w' => e = .returned (.bool true) ∧ Below w.heap.size w w' := by
  have hcat := catLen_bound L n2 1048576 hL
  have hcat2 : catLen L n2 ≤ 1099511627776 := Nat.le_trans hcat (Nat.le_trans (Nat.mul_le_mul_right _ hn2) (by omega))
  clear hcat
  have HMANY := Lib.hid (many_any w v2 n2 L F h2 hn2 hcat2)
  have HH2 := Lib.hid h2
  have HR0 := Lib.hid hr0
  have HR1 := Lib.hid hr1
  have HL := Lib.hid hL
  clear hr0 hr1 hL h2
  go_enter Try.func3, Try.ntmps3
  go_wp2_with fail
  refine HMANY.out.mono ?_
  rintro e w' ⟨rfl, rfl⟩
  by_cases hm : 1000 < catLen L n2 ∨ 20 < n2
  · rw [show tooMany L n2 = true from decide_eq_true hm]
    clear hm hcat2
    go_wp2_with fail
    refine (known_any _).mono ?_
    rintro e w3 ⟨rfl, hb4⟩
    go_wp2_with fail
    go_ret
    exact ⟨rfl, hb4⟩
  · rw [show tooMany L n2 = false from decide_eq_false hm]
    have hn20 : n2 ≤ 20 := by omega
    have HLT : Hid (∀ r, r < n2 → L r ≤ 1000) := fun r hr => by have := catLen_ge L hr; omega
    clear hm hcat2
    go_wp2_with fail
    refine (many_any _ _ 2 (two n0 n1) (twoF f0 f1) (two_rows w A0 A1 n0 c0 n1 c1 f0 f1 HR0.out HR1.out) (by omega) (by rw [two_len]; omega)).mono ?_
    rintro e w' ⟨rfl, rfl⟩
    obtain ⟨wa, hwa⟩ : ∃ wa, w.alloc (.cells #[.slice A0 n0 c0, .slice A1 n1 c1] 22) = wa := ⟨_, rfl⟩
    have hb0 : Below w.heap.size w wa := by rw [← hwa]; exact (Below.refl _ _).alloc (Nat.le_refl _) _
    rw [hwa]
    clear hwa
    have HB0 := Lib.hid hb0
    clear hb0
    by_cases hm : 1000 < n0 + n1
    · rw [show tooMany (two n0 n1) 2 = true from decide_eq_true (.inl (by rw [two_len]; exact hm))]
      go_wp2_with fail
      refine (known_any _).mono ?_
      rintro e w3 ⟨rfl, hb4⟩
      go_wp2_with fail
      go_ret
      exact ⟨rfl, HB0.out.trans (hb4.mono HB0.out.size)⟩
    · rw [show tooMany (two n0 n1) 2 = false from decide_eq_false (by rw [two_len]; omega)]
      go_wp2_with fail
      refine (written_any _ _ n2 L F (HH2.out.below HB0.out) hn20 HLT.out).mono ?_
      rintro e w1 ⟨A3, c3, rfl, hb1, ho1⟩
      have hz0 := HB0.out.size
      have hz1 := hb1.size
      have hlog : logLen L n2 ≤ 20160 := by
        have : ∀ k, k ≤ n2 → logLen L k ≤ k * 1008 := by
          intro k
          induction k with
          | zero => intro _; simp [logLen]
          | succ k ih => intro hk; have := ih (by omega); have := HLT.out k (by omega); simp only [logLen]; omega
        have := this n2 (Nat.le_refl _)
        omega
      have hb2 : Below w.heap.size w (w1.alloc (.cells #[.slice A0 n0 c0, .slice A3 (logLen L n2) c3] 22)) := (HB0.out.trans (hb1.mono hz0)).alloc (by omega) _
      have hrows := two_rows w1 A0 A3 n0 c0 (logLen L n2) c3 f0 (logF L F n2) ((HR0.out.below (HB0.out.trans (hb1.mono hz0))).more (by omega)) (Reads.of_own ho1)
      obtain ⟨lg, hlg⟩ : ∃ lg, logLen L n2 = lg := ⟨_, rfl⟩
      rw [hlg] at hlog hb2 hrows ⊢
      have HB2 := Lib.hid hb2
      have HROWS := Lib.hid hrows
      clear hlg hb1 ho1 hb2 hrows
      go_wp2_with fail
      obtain ⟨wo, hwo⟩ : ∃ wo, w1.alloc (.cells #[.slice A0 n0 c0, .slice A3 lg c3] 22) = wo := ⟨_, rfl⟩
      rw [hwo] at HB2 HROWS ⊢
      clear hwo
      go_loopw [27] (fun i wr => ∃ k : Nat, k ≤ 2 ∧ i = .int .i64 (k : Int) ∧ Below wo.heap.size wo wr) (fun i _ => 2 - (intOf i).toNat)
      case atStart => exact ⟨0, by omega, rfl, Below.refl _ _⟩
      case round =>
        obtain ⟨k, hk, rfl, hb⟩ := hrel
        have hz2 := HB2.out.size
        have hz3 := hb.size
        by_cases hlt : k < 2
        · obtain ⟨Av, cv, bv, ov, hv, hAv, hrr⟩ := HROWS.out.below hb
          injection hv with hv1 hv2 hv3
          have hbo := hAv (by omega)
          rw [hbo] at hv1
          injection hv1 with hv1
          injection hv1 with hv1 hv4
          subst hv1 hv4
          obtain ⟨A4, c4, y0, hrd⟩ := hrr k hlt
          rw [Nat.zero_add] at y0
          have hx : two n0 lg k ≤ 20160 := by
            have : k = 0 ∨ k = 1 := by omega
            rcases this with rfl | rfl
            · show n0 ≤ _; omega
            · exact hlog
          obtain ⟨nx, hnx⟩ : ∃ nx, two n0 lg k = nx := ⟨_, rfl⟩
          obtain ⟨fx, hfx⟩ : ∃ fx, twoF f0 (logF L F n2) k = fx := ⟨_, rfl⟩
          rw [hnx] at y0 hrd hx
          rw [hfx] at hrd
          have hrp := (HR1.out.below (HB2.out.trans (hb.mono hz2))).more (show w.heap.size ≤ wr.heap.size by omega)
          have HRD := Lib.hid hrd
          have HRP := Lib.hid hrp
          have HB := Lib.hid hb
          have hki : (k : Int) < 2 := by omega
          clear hrd hrp hb hnx hfx hrr hAv hv2 hv3 hbo
          go_wp2_with fail
          refine (append_ok _ _ _ nx _ n1 _ fx f1 HRD.out HRP.out (by omega) (by omega)).mono ?_
          rintro e w4 ⟨A5, c5, rfl, hb4, ho4⟩
          have hz4 := hb4.size
          have HRD4 := Lib.hid ((HRD.out.below hb4).more hz4)
          have HRP4 := Lib.hid ((HRP.out.below hb4).more hz4)
          have HB4 := Lib.hid hb4
          have HO4 := Lib.hid ho4
          clear hb4 ho4
          go_wp2_with fail
          refine (applog_ok _ _ _ nx _ n1 _ fx f1 HRD4.out HRP4.out (by omega) (by omega)).mono ?_
          rintro e w5 ⟨A6, c6, rfl, hb5, ho5⟩
          have HO5 := Lib.hid (owns_below HO4.out hb5)
          have HO6 := Lib.hid ho5
          have HB5 := Lib.hid (HB.out.trans ((HB4.out.trans (hb5.mono hz4)).mono hz3))
          clear hb5 ho5
          go_wp2_with fail
          refine (same_reads _ _ _ _ _ _ _ _ _ _ (Reads.of_own HO5.out) (Reads.of_own HO6.out) (fun _ _ => rfl)).mono ?_
          rintro e w6 ⟨rfl, rfl⟩
          go_wp2_with fail
          go_roundw
          case rel => exact ⟨k + 1, by omega, by go_num, HB5.out⟩
          case measure => simp [intOf]; omega
        · obtain rfl : k = 2 := by omega
          clear hlt
          have HB := Lib.hid (HB2.out.trans (hb.mono hz2))
          clear hb
          go_wp2_with fail
          refine (known_any _).mono ?_
          rintro e w3 ⟨rfl, hb4⟩
          go_wp2_with fail
          go_ret
          exact ⟨rfl, HB.out.trans (hb4.mono HB.out.size)⟩
end Go.Proofs.Ytjiiaepmdlempaa
