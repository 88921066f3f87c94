/- JournalLimits: the walk. -/
import Derived.Test.YtjiiaepmdlempaaJourH
import Derived.Deep.OwnRows
namespace Go.Proofs.Ytjiiaepmdlempaa
open Go.RowKit
set_option linter.unusedVariables false
open ShaW Sha

theorem made_reads (w : World) (m : Nat) (W : World) (hb : Below (w.heap.size + 1) (w.alloc (.cells (madeCells #[.int .u8 0] m) 5)) W) : Reads W W.heap.size 1 (some ⟨w.heap.size, 0, none⟩) m (bytesOf m (fun _ => 0)) := by
  have hr := World.rowIs_made w (.int .u8 0) m 5
  have hz := hb.size
  rw [World.size_alloc] at hz
  refine Reads.flat (o := 0) (fun _ => ⟨rfl, by omega⟩) (fun j hj => ?_)
  rw [Nat.zero_add]
  exact (hb.cell (p := ⟨w.heap.size, j, none⟩) (by show w.heap.size < _; omega)).trans (hr.cell (i := j) hj)

set_option maxRecDepth 100000 in
set_option maxHeartbeats 1000000 in
theorem jourLimits_any (w : World) (n t : Int) (h1 : -9223372036854775808 ≤ n) (h2 : n ≤ 9223372036854775807) (h3 : -9223372036854775808 ≤ t) (h4 : t ≤ 9223372036854775807) :
    Calls Try.prog 4 #[.int .i64 n, .int .i64 t] w fun e w' => e = .returned (.bool true) ∧ Below w.heap.size w w' := by
  obtain ⟨i0, hi0, hz0, hz1, hz2⟩ := info_parts u8_info
  have hp0 := Int.emod_nonneg n (show (3 : Int) ≠ 0 by omega)
  have hp1 := Int.emod_lt_of_pos n (show (0 : Int) < 3 by omega)
  obtain ⟨p, hp⟩ : ∃ p : Nat, n % 3 = (p : Int) := ⟨(n % 3).toNat, by omega⟩
  have hp2 : p ≤ 2 := by omega
  have HP := fun w => place_any n 3 h1 h2 (by omega) (by omega) w
  have HT := fun w => place_any t 20 h3 h4 (by omega) (by omega) w
  rw [hp] at HP
  have HPL := Lib.hid HP
  have HTL := Lib.hid HT
  clear HP HT hp0 hp1 hp h1 h2 h3 h4
  obtain ⟨q, hq⟩ : ∃ q, t % 20 = q := ⟨_, rfl⟩
  rw [hq] at HTL
  clear hq
  go_enter Try.func4, Try.ntmps4
  go_wp2_with fail
  refine (HTL.out _).mono ?_
  rintro e w1 ⟨rfl, rfl⟩
  by_cases hq1 : q = 1
  · subst hq1
    have hmk := run_make_row (P := Try.prog) 22 5 i0 _ Try.underlying22 hi0 hz0 hz1 rfl .i64 .i64 (2097151 + p) (by rw [hz2]; omega) (by omega)
    have hmk3 := run_make_row (P := Try.prog) 22 5 i0 _ Try.underlying22 hi0 hz0 hz1 rfl .i64 .i64 (1 + p) (by rw [hz2]; omega) (by omega)
    obtain ⟨M, hM⟩ : ∃ M : Nat, M = 16777206 := ⟨_, rfl⟩
    have hmk2 : ∀ w, (Instr.makeSlice 22 (.int .i64 16777206) (.int .i64 16777206)).run Try.prog w = .ok (.slice (some ⟨w.heap.size, 0, none⟩) M M) (w.alloc (.cells (madeCells #[.int .u8 0] M) 5)) := by
      intro w
      have h := run_make_row (P := Try.prog) 22 5 i0 _ Try.underlying22 hi0 hz0 hz1 rfl .i64 .i64 M (by rw [hz2]; omega) (by omega) w
      rw [show ((M : Nat) : Int) = 16777206 by omega] at h
      exact h
    have ec : ((2097151 + p : Nat) : Int) = 2097151 + (p : Int) := by omega
    have ec3 : ((1 + p : Nat) : Int) = 1 + (p : Int) := by omega
    rw [ec] at hmk
    rw [ec3] at hmk3
    have hpi : (p : Int) ≤ 2 := by omega
    have HM := Lib.hid hM
    clear ec ec3 hM
    go_wp2_with fail
    refine (HPL.out _).mono ?_
    rintro e w1 ⟨rfl, rfl⟩
    go_wp2_with fail
    have hb0 : Below w.heap.size w (w.alloc (.cells (madeCells #[.int .u8 0] (2097151 + p)) 5)) := (Below.refl _ _).alloc (Nat.le_refl _) _
    have HB0 := Lib.hid hb0
    have HR0 := Lib.hid (made_reads w (2097151 + p) _ (Below.refl _ _))
    clear hb0
    by_cases hple : p ≤ 1
    · have hpl : (p : Int) < 2 := by omega
      have hpm : 2097151 + (p : Int) ≤ 2097152 := by omega
      refine (append_ok _ none _ 0 0 (2097151 + p) _ (fun _ => 0) (fun _ => 0) Reads.none_ HR0.out (by omega) (by omega)).mono ?_
      rintro e w2 ⟨A2, c2, rfl, hb2, _⟩
      have HB2 := Lib.hid (HB0.out.trans (hb2.mono HB0.out.size))
      clear hb2
      go_wp2_with fail
      refine (HPL.out _).mono ?_
      rintro e w1 ⟨rfl, rfl⟩
      go_wp2_with fail
      have hr1 := made_reads w2 M ((w2.alloc (.cells (madeCells #[.int .u8 0] M) 5)).alloc (.cells (madeCells #[.int .u8 0] (1 + p)) 5)) ((Below.refl _ _).alloc (by rw [World.size_alloc]; omega) _)
      have hr2 := made_reads (w2.alloc (.cells (madeCells #[.int .u8 0] M) 5)) (1 + p) _ (Below.refl _ _)
      rw [show (w2.alloc (.cells (madeCells #[.int .u8 0] M) 5)).heap.size = w2.heap.size + 1 from World.size_alloc _ _] at hr2
      have hb3 : Below w.heap.size w ((w2.alloc (.cells (madeCells #[.int .u8 0] M) 5)).alloc (.cells (madeCells #[.int .u8 0] (1 + p)) 5)) := (HB2.out.alloc HB2.out.size _).alloc (by have := HB2.out.size; rw [World.size_alloc]; omega) _
      have HB3 := Lib.hid hb3
      have hM2 := HM.out
      refine (append_ok _ _ _ M _ (1 + p) _ (fun _ => 0) (fun _ => 0) hr1 hr2 (by omega) (by omega)).mono ?_
      rintro e w4 ⟨A4, c4, rfl, hb4, _⟩
      have HB4 := Lib.hid (HB3.out.trans (hb4.mono HB3.out.size))
      clear hb3 hb4 hr1 hr2 HB3 HB2 hM2
      go_wp2_with fail
      refine (HPL.out _).mono ?_
      rintro e w1 ⟨rfl, rfl⟩
      go_wp2_with fail
      refine (known_any _).mono ?_
      rintro e w5 ⟨rfl, hb5⟩
      go_wp2_with fail
      go_ret
      exact ⟨rfl, HB4.out.trans (hb5.mono HB4.out.size)⟩
    · have hpl : decide ((p : Int) < 2) = false := decide_eq_false (by omega)
      have hpm : decide (2097151 + (p : Int) ≤ 2097152) = false := decide_eq_false (by omega)
      refine (append_limit _ none _ 0 0 (2097151 + p) _ (by omega) (by omega) (.inl (by omega))).mono ?_
      rintro e w2 ⟨rfl, rfl⟩
      obtain ⟨w2, hw2⟩ : ∃ w2, w.alloc (.cells (madeCells #[.int .u8 0] (2097151 + p)) 5) = w2 := ⟨_, rfl⟩
      rw [hw2] at HB0 ⊢
      clear hw2 HR0
      go_wp2_with fail
      refine (HPL.out _).mono ?_
      rintro e w1 ⟨rfl, rfl⟩
      go_wp2_with fail
      have hb3 : Below w.heap.size w ((w2.alloc (.cells (madeCells #[.int .u8 0] M) 5)).alloc (.cells (madeCells #[.int .u8 0] (1 + p)) 5)) := (HB0.out.alloc HB0.out.size _).alloc (by have := HB0.out.size; rw [World.size_alloc]; omega) _
      have HB3 := Lib.hid hb3
      have hM2 := HM.out
      refine (append_limit _ _ _ M _ (1 + p) _ (by omega) (by omega) (.inr (by omega))).mono ?_
      rintro e w4 ⟨rfl, rfl⟩
      clear hb3 hM2
      go_wp2_with fail
      refine (HPL.out _).mono ?_
      rintro e w1 ⟨rfl, rfl⟩
      go_wp2_with fail
      refine (known_any _).mono ?_
      rintro e w5 ⟨rfl, hb5⟩
      go_wp2_with fail
      go_ret
      exact ⟨rfl, HB3.out.trans (hb5.mono HB3.out.size)⟩
  · have hq2 : (q == 1) = false := by simpa using hq1
    go_wp2_with fail
    refine (known_any _).mono ?_
    rintro e w3 ⟨rfl, hb4⟩
    go_wp2_with fail
    go_ret
    exact ⟨rfl, hb4⟩
end Go.Proofs.Ytjiiaepmdlempaa
