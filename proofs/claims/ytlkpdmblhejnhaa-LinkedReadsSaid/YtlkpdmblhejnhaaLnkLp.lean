/- LinkedPlays: the walk. -/
import Derived.Test.YtlkpdmblhejnhaaLnkPl
namespace Go.Proofs.Ytlkpdmblhejnhaa
open Go.RowKit
set_option linter.unusedVariables false
open Lnk

set_option maxHeartbeats 1000000 in
theorem long_gen (w : World) (g : Nat) (A : Option Addr) (n c : Nat) (b : Bool) (hc : w.cell? ⟨g, 0, none⟩ = some (.slice A n c)) (hn : n ≤ 9223372036854775807) (hb : decide (160 < (n : Int)) = b) :
    Calls Try.prog 8 #[.slice (some ⟨g, 0, none⟩) 1 1] w fun e w' => e = .returned (.bool b) ∧ w = w' := by
  have HB := Lib.hid hb
  clear hb
  go_enter Try.func8, Try.ntmps8
  go_wp2
  go_loop [3, 8] (fun s i => (s = .int .i64 0 ∧ i = .int .i64 0) ∨ (s = .int .i64 (n : Int) ∧ i = .int .i64 1)) (fun _ i => 1 - (intOf i).toNat)
  case atStart => exact .inl ⟨rfl, rfl⟩
  case round =>
    rcases hrel with ⟨rfl, rfl⟩ | ⟨rfl, rfl⟩
    · go_wp2
      go_round
      case rel => exact .inr ⟨rfl, rfl⟩
      case measure => simp [intOf]
    · go_wp2
      go_ret
      refine ⟨?_, rfl⟩
      rw [← HB.out]
      rfl
theorem below_dn {B : Nat} {a w : World} (h : Below B a w) (k : Nat) : Below B a (w.drewN k) := ⟨h.os, h.tape, h.output, h.size, h.block⟩
theorem long_any (w : World) (A : Option Addr) (n c g : Nat) (t : TypeId) (hg : g = w.heap.size) (hn : n ≤ 9223372036854775807) (b : Bool) (hb : decide (160 < (n : Int)) = b) :
    Calls Try.prog 8 #[.slice (some ⟨g, 0, none⟩) 1 1] (w.alloc (.cells #[.slice A n c] t)) fun e w' => e = .returned (.bool b) ∧ w.alloc (.cells #[.slice A n c] t) = w' :=
  long_gen _ g A n c b (by subst hg; rw [World.cell?_alloc_at _ _ _ _ rfl]; rfl) hn hb

set_option maxHeartbeats 4000000 in
theorem linkedPlays_any (w : World) (A : Option Addr) (n c : Nat) (f : Nat → Int) (h : IntsAt w w.heap.size A n c f) :
    Calls Try.prog 3 #[.slice A n c] w fun e w' => e = .returned (.bool true) ∧ Below w.heap.size w w' := by
  have hnc : n ≤ 9223372036854775807 := Nat.le_trans h.1 h.2.1
  have HI := Lib.hid h
  clear h
  by_cases hbig : 160 < n
  · have hb : decide (160 < (n : Int)) = true := by simp; omega
    go_enter Try.func3, Try.ntmps3
    go_wp2_with fail
    refine (long_any w A n c _ _ rfl hnc true hb).mono ?_
    rintro e w1 ⟨rfl, rfl⟩
    go_wp2_with fail
    refine (known_any _).mono ?_
    rintro e w1 ⟨rfl, hb1⟩
    have HB := Lib.hid (((Below.refl w.heap.size w).alloc (Nat.le_refl _) _).trans (hb1.mono (by simp)))
    clear hb1
    go_wp2_with fail
    go_ret
    exact ⟨rfl, HB.out⟩
  · have hb : decide (160 < (n : Int)) = false := by simp; omega
    have hn : n ≤ 160 := by omega
    go_enter Try.func3, Try.ntmps3
    go_wp2_with fail
    refine (long_any w A n c _ _ rfl hnc false hb).mono ?_
    rintro e w1 ⟨rfl, rfl⟩
    go_wp2_with fail
    generalize hwa : World.alloc w _ = wa
    have hb0 : Below w.heap.size w wa := by rw [← hwa]; exact (Below.refl _ _).alloc (Nat.le_refl _) _
    have hI : IntsAt wa wa.heap.size A n c f := (HI.out.below hb0).more hb0.size
    clear hwa
    refine (play_any wa A n c f hI hn).mono ?_
    rintro e w1 ⟨Dl, rv, ev, fv, r, rfl, hb1, hl1, hr1, hf1⟩
    obtain ⟨a5, c5, rfl⟩ := owns_form hr1.el
    obtain ⟨a6, c6, rfl⟩ := owns_form hr1.fr
    unfold refV
    have HB1 := Lib.hid hb1
    have HL1 := Lib.hid hl1
    have HR1 := Lib.hid hr1
    have HF1 := Lib.hid hf1
    have HB0 := Lib.hid hb0
    have hz1 := hb1.size
    clear hb1 hl1 hr1 hf1 hI hb0
    go_wp2_with fail
    generalize hwb : World.alloc w1 _ = wb
    have hkb : Blk wb w1.heap.size 28 #[.slice a5 r.E.length c5, .slice a6 r.F.length c6, .int .i64 (r.U : Int)] := by rw [← hwb]; exact Blk.new w1 _ _
    have hbb : Below w1.heap.size w1 wb := by rw [← hwb]; exact (Below.refl _ _).alloc (Nat.le_refl _) _
    have hwl : w1.heap.size < wb.heap.size := hkb.lt
    clear hwb
    have x0 := hkb.cell 0
    have x1 := hkb.cell 1
    have x2 := hkb.cell 2
    simp at x0 x1 x2
    have HLF : Hid (∀ W, Below wb.heap.size wb W → Lis W wa.heap.size Dl rv r) := fun W hW => (HL1.out.below hbb).below hW
    have HRF : Hid (∀ W, Below wb.heap.size wb W → RefAt W wa.heap.size (.slice a5 r.E.length c5) (.slice a6 r.F.length c6) r) := fun W hW => (HR1.out.below hbb).below hW
    have HBB := Lib.hid (HB0.out.trans ((HB1.out.trans (hbb.mono hz1)).mono HB0.out.size))
    have HBC := Lib.hid (Below.refl wb.heap.size wb)
    have hzw : wa.heap.size ≤ wb.heap.size := by omega
    clear hkb hbb
    go_region_held3 (fun w' => w'.cell? ⟨w1.heap.size, 0, none⟩ = some (.slice a5 r.E.length c5) ∧ w'.cell? ⟨w1.heap.size, 1, none⟩ = some (.slice a6 r.F.length c6) ∧ w'.cell? ⟨w1.heap.size, 2, none⟩ = some (.int .i64 (r.U : Int)))
      (first | go_keep | exact ⟨(HBC.out.cell (p := ⟨w1.heap.size, 0, none⟩) hwl).trans x0, (HBC.out.cell (p := ⟨w1.heap.size, 1, none⟩) hwl).trans x1, (HBC.out.cell (p := ⟨w1.heap.size, 2, none⟩) hwl).trans x2⟩ | (dsimp only; (repeat' apply And.intro) <;> go_keep))
      (first
        | (go_simp; go_at_call 12; refine (lvals_any _ wa.heap.size Dl rv r (HLF.out _ ?_) ?_ (by have := HF1.out.E; omega)).mono ?_
           · repeat (first | (with_reducible exact HBC.out) | (with_reducible refine belowDrew2 ?_) | (with_reducible refine below_dn ?_ _) | (with_reducible refine below_al ?_ _))
           · have := HBC.out.size; simp; omega
           rintro e w5 ⟨v5, rfl, hb5, ho5⟩
           have hBEL : Below wb.heap.size wb w5 := below_step (a := wb) (by repeat (first | (with_reducible exact HBC.out) | (with_reducible refine belowDrew2 ?_) | (with_reducible refine below_dn ?_ _) | (with_reducible refine below_al ?_ _))) hb5
           have HV5 := Lib.hid ho5
           have HBC := Lib.hid hBEL
           clear hb5 ho5 hBEL)
        | (go_simp; go_at_call 13; change Calls _ _ #[refV (.slice a5 r.E.length c5) (.slice a6 r.F.length c6) r] _ _; refine (rvalues_any _ wa.heap.size _ _ r (HRF.out _ ?_) (by have := HF1.out.E; omega)).mono ?_
           · repeat (first | (with_reducible exact HBC.out) | (with_reducible refine belowDrew2 ?_) | (with_reducible refine below_dn ?_ _) | (with_reducible refine below_al ?_ _))
           rintro e w6 ⟨v6, rfl, hb6, ho6⟩
           have hBEL : Below wb.heap.size wb w6 := below_step (a := wb) (by repeat (first | (with_reducible exact HBC.out) | (with_reducible refine belowDrew2 ?_) | (with_reducible refine below_dn ?_ _) | (with_reducible refine below_al ?_ _))) hb6
           have HV6 := Lib.hid ho6
           have HV5 := Lib.hid (HV5.out.below hb6)
           have HBC := Lib.hid hBEL
           clear hb6 ho6 hBEL)
        | (go_simp; go_at_call 11; refine (sameInts_any _ v5 v6 _ HV5.out.reads HV6.out.reads (by rw [List.length_map]; have := HF1.out.E; omega)).mono ?_
           rintro e w7 ⟨rfl, q7, rfl⟩
           have HBC := Lib.hid (below_dn HBC.out q7))
        | (go_simp; go_at_call 14; refine (llenR_any _ wa.heap.size Dl rv r (HLF.out _ HBC.out)).mono ?_
           rintro e w8 ⟨rfl, rfl⟩)
        | (go_simp; go_at_call 9; refine (known_any _).mono ?_
           rintro e w9 ⟨rfl, hb9⟩
           have hBEL : Below wb.heap.size wb w9 := below_step (a := wb) HBC.out hb9
           have HBC := Lib.hid hBEL
           clear hb9 hBEL))
    all_goals
      go_wp2
      go_ret
      exact ⟨rfl, HBB.out.trans (HBC.out.mono (by have := HB0.out.size; omega))⟩
end Go.Proofs.Ytlkpdmblhejnhaa
