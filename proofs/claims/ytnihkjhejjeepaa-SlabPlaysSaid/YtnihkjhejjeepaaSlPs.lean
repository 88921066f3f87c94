/- SlabPlays: the walk. -/
import Derived.Test.YtnihkjhejjeepaaSlPl
namespace Go.Proofs.Ytnihkjhejjeepaa
open Go.RowKit
set_option linter.unusedVariables false
set_option linter.unusedSimpArgs false
open ShaW Sha

set_option maxRecDepth 100000 in
set_option maxHeartbeats 4000000 in
theorem slabPlays_any (w : World) (A : Option Addr) (n c : Nat) (f : Nat → Int) (h : IntsAt w w.heap.size A n c f) :
    Calls Try.prog 3 #[.slice A n c] w fun e w' => e = .returned (.bool true) ∧ Below w.heap.size w w' := by
  have hnc : n ≤ 9223372036854775807 := Nat.le_trans h.1 h.2.1
  have HI := Lib.hid h
  clear h
  by_cases hbig : 160 < n
  · have hb : decide (160 < (n : Int)) = true := by simp; omega
    go_enter Try.func3, Try.ntmps3
    go_wp2_with fail
    refine (long_any w A n c _ _ rfl hnc true hb).mono ?_
    rintro e w1 ⟨rfl, rfl⟩
    go_wp2_with fail
    refine (known_any _).mono ?_
    rintro e w1 ⟨rfl, hb1⟩
    have HB := Lib.hid (((Below.refl w.heap.size w).alloc (Nat.le_refl _) _).trans (hb1.mono (by simp)))
    clear hb1
    go_wp2_with fail
    go_ret
    exact ⟨rfl, HB.out⟩
  have hb : decide (160 < (n : Int)) = false := by simp; omega
  have hn : n ≤ 160 := by omega
  clear hbig
  go_enter Try.func3, Try.ntmps3
  go_wp2_with fail
  refine (long_any w A n c _ _ rfl hnc false hb).mono ?_
  rintro e w1 ⟨rfl, rfl⟩
  go_wp2_with fail
  generalize hwa : World.alloc w _ = wa
  have hb0 : Below w.heap.size w wa := by rw [← hwa]; exact (Below.refl _ _).alloc (Nat.le_refl _) _
  have hI : IntsAt wa wa.heap.size A n c f := (HI.out.below hb0).more hb0.size
  have HB0 := Lib.hid hb0
  have hz0 := hb0.size
  clear hwa hb0 hb HI
  refine (play_any wa wa.heap.size n c A f hI (Nat.le_refl _) hn).mono ?_
  rintro e w2 ⟨C, m, pv, fv, L, k, rfl, hb2, hz2, hs2, hr2, hw2, hk2⟩
  obtain ⟨Ap, cp, hpv⟩ := own_form hr2.row
  obtain ⟨Af, cf, hfv⟩ := own_form hr2.fre
  obtain ⟨pn, hpn⟩ : ∃ x, L.length = x := ⟨_, rfl⟩
  obtain ⟨fn, hfn⟩ : ∃ x, m.fr.length = x := ⟨_, rfl⟩
  obtain ⟨most, hmo⟩ : ∃ x, m.most = x := ⟨_, rfl⟩
  rw [hpn] at hpv
  rw [hfn] at hfv
  have HSV : Hid (storeV m pv fv = .agg #[.int .i64 (most : Int), .slice Ap pn cp, .slice Af fn cf]) := Lib.hid (by rw [hpv, hfv, ← hmo])
  rw [HSV.out]
  have HB2 := Lib.hid (HB0.out.trans (hb2.mono hz0))
  clear hb2 hs2 hr2 hw2 hpv hfv hpn hfn hmo
  go_upto_region 4 with (fail)
  generalize hwa : World.alloc _ _ = w3
  have hb3 : Below w2.heap.size w2 w3 := by rw [← hwa]; exact (Below.refl _ _).alloc (Nat.le_refl _) _
  have HB3 := Lib.hid (HB2.out.trans (hb3.mono (by omega)))
  clear hwa hb3
  go_wp2_with fail
  refine (known_any _).mono ?_
  rintro e w4 ⟨rfl, hb4⟩
  have HB4 := Lib.hid (HB3.out.trans (hb4.mono HB3.out.size))
  clear hb4
  go_wp2_with fail
  go_ret
  exact ⟨rfl, HB4.out⟩
end Go.Proofs.Ytnihkjhejjeepaa
