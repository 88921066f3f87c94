/- LinkedWalks: the walk. -/
import Derived.Test.YtlkpdmblhejnhaaLnkLp
namespace Go.Proofs.Ytlkpdmblhejnhaa
open Go.RowKit
set_option linter.unusedVariables false
open Lnk

theorem Lis.place {w : World} {B D : Nat} {rv : Value} {r : R} (h : Lis w B D rv r) {k : Nat} {x : Nat × Int} (hx : r.E[k]? = some x) : placeR r.E (x.1 : Int) = some k := by
  obtain ⟨c, h1, h2⟩ := h
  refine placeR_some hx rfl fun j y hj hy e => ?_
  have := h2.ch.nd j k y x hy hx (by omega)
  omega
theorem Lis.facts {w : World} {B D : Nat} {rv : Value} {r : R} (h : Lis w B D rv r) {k : Nat} {x : Nat × Int} (hx : r.E[k]? = some x) :
    placeR r.E (x.1 : Int) = some k ∧ valueR r.E (x.1 : Int) = x.2 ∧ behindR r.E (x.1 : Int) = slotAt r.E (k + 1) ∧ beforeR r.E (x.1 : Int) = before r.E k := by
  have hp := h.place hx
  refine ⟨hp, ?_, ?_, ?_⟩
  · unfold valueR; rw [hp]; show (r.E.getD k (0, 0)).2 = _; rw [List.getD_eq_getElem?_getD, hx]; rfl
  · unfold behindR; rw [hp]
  · unfold beforeR; rw [hp]

set_option maxRecDepth 100000 in
set_option maxHeartbeats 4000000 in
theorem linkedWalks_any (w : World) (A : Option Addr) (n c : Nat) (f : Nat → Int) (h : IntsAt w w.heap.size A n c f) :
    Calls Try.prog 6 #[.slice A n c] w fun e w' => e = .returned (.bool true) ∧ Below w.heap.size w w' := by
  have hnc : n ≤ 9223372036854775807 := Nat.le_trans h.1 h.2.1
  have HI := Lib.hid h
  clear h
  by_cases hbig : 160 < n
  · have hb : decide (160 < (n : Int)) = true := by simp; omega
    go_enter Try.func6, Try.ntmps6
    go_wp2_with fail
    refine (long_any w A n c _ _ rfl hnc true hb).mono ?_
    rintro e w1 ⟨rfl, rfl⟩
    go_wp2_with fail
    refine (known_any _).mono ?_
    rintro e w1 ⟨rfl, hb1⟩
    have HB := Lib.hid (((Below.refl w.heap.size w).alloc (Nat.le_refl _) _).trans (hb1.mono (by simp)))
    clear hb1
    go_wp2_with fail
    go_ret
    exact ⟨rfl, HB.out⟩
  · have hb : decide (160 < (n : Int)) = false := by simp; omega
    have hn : n ≤ 160 := by omega
    go_enter Try.func6, Try.ntmps6
    go_wp2_with fail
    refine (long_any w A n c _ _ rfl hnc false hb).mono ?_
    rintro e w1 ⟨rfl, rfl⟩
    go_wp2_with fail
    generalize hwa : World.alloc w _ = wa
    have hb0 : Below w.heap.size w wa := by rw [← hwa]; exact (Below.refl _ _).alloc (Nat.le_refl _) _
    have hI : IntsAt wa wa.heap.size A n c f := (HI.out.below hb0).more hb0.size
    clear hwa
    refine (play_any wa A n c f hI hn).mono ?_
    rintro e w1 ⟨Dl, rv, ev, fv, r, rfl, hb1, hl1, hr1, hf1⟩
    obtain ⟨a5, c5, rfl⟩ := owns_form hr1.el
    obtain ⟨a6, c6, rfl⟩ := owns_form hr1.fr
    unfold refV
    have HB1 := Lib.hid hb1
    have HL1 := Lib.hid hl1
    have HR1 := Lib.hid hr1
    have HF1 := Lib.hid hf1
    have HB0 := Lib.hid hb0
    have hz1 := hb1.size
    clear hb1 hl1 hr1 hf1 hI hb0
    go_wp2_with fail
    refine (lvals_any _ wa.heap.size Dl rv r (HL1.out.below ((Below.refl _ _).alloc (Nat.le_refl _) _)) (by simp; omega) (by have := HF1.out.E; omega)).mono ?_
    rintro e w2 ⟨vv, rfl, hb2, ho2⟩
    have HL2 := Lib.hid ((HL1.out.below ((Below.refl _ _).alloc (Nat.le_refl _) (.cells #[.slice a5 r.E.length c5, .slice a6 r.F.length c6, .int .i64 (r.U : Int)] 28))).below hb2)
    have HB2 := Lib.hid (HB0.out.trans ((HB1.out.trans (((Below.refl w1.heap.size w1).alloc (Nat.le_refl _) (.cells #[.slice a5 r.E.length c5, .slice a6 r.F.length c6, .int .i64 (r.U : Int)] 28)).trans (hb2.mono (by simp)) |>.mono hz1)).mono HB0.out.size))
    obtain ⟨Av, cv, gv, ov, hvv, hAv, hcv⟩ := OwnInts.reads ho2
    rw [List.length_map] at hvv hAv
    subst hvv
    have HCV : Hid (∀ (j : Nat) (x : Nat × Int), r.E[j]? = some x → w2.cell? ⟨gv, ov + j, none⟩ = some (.int .i64 x.2)) := fun j x hj => hcv j x.2 (by rw [List.getElem?_map, hj]; rfl)
    have HAV := Lib.hid hAv
    have hE := HF1.out.E
    have hz2 : w.heap.size ≤ w2.heap.size := HB2.out.size
    clear hb2 ho2 hAv hcv
    go_wp2_with fail
    refine (lfst_any w2 wa.heap.size Dl rv r HL2.out).mono ?_
    rintro e w3 ⟨rfl, rfl⟩
    go_wp2_with fail
    go_loop [7, 8] (fun s x => ∃ k : Nat, k ≤ r.E.length ∧ s = .int .i64 (k : Int) ∧ x = .int .i64 (oi (slotAt r.E k))) (fun s _ => r.E.length - (intOf s).toNat)
    case atStart => exact ⟨0, Nat.zero_le _, rfl, rfl⟩
    case round =>
      obtain ⟨k, hk, rfl, rfl⟩ := hrel
      rcases Nat.lt_or_ge k r.E.length with hlt | hge
      · obtain ⟨x, hx⟩ : ∃ x, r.E[k]? = some x := ⟨r.E[k]'hlt, List.getElem?_eq_getElem hlt⟩
        have hs : slotAt r.E k = some x.1 := by unfold slotAt; rw [hx]; rfl
        obtain ⟨f1, f2, f3, _⟩ := HL2.out.facts hx
        have d1 := HCV.out k x hx
        obtain rfl := HAV.out (by omega)
        have hV := lval_any w2 wa.heap.size Dl rv r (x.1 : Int) HL2.out
        rw [f1, f2] at hV
        have hN := lnxt_any w2 wa.heap.size Dl rv r (x.1 : Int) HL2.out
        rw [f3] at hN
        obtain ⟨s, xv⟩ := x
        rw [hs, show oi (some (s, xv).1) = (s : Int) from rfl]
        have HV := Lib.hid hV
        have HN := Lib.hid hN
        have hlt' : (k : Int) < r.E.length := by omega
        have hk0 : (0 : Int) ≤ k := by omega
        have hs0 : (0 : Int) ≤ s := by omega
        have hkl : (k : Int) ≤ r.E.length := by omega
        clear hx hs f1 f2 f3 hV hN
        go_wp2_with fail
        refine HV.out.mono ?_
        rintro e w3 ⟨rfl, rfl⟩
        go_wp2_with fail
        refine HN.out.mono ?_
        rintro e w3 ⟨rfl, rfl⟩
        go_wp2_with fail
        go_round
        case rel => exact ⟨k + 1, by omega, by go_num, rfl⟩
        case measure => simp [intOf]; omega
      · have hk2 : k = r.E.length := by omega
        have e1 : slotAt r.E k = none := slotAt_none (by omega)
        rw [e1, show oi none = -1 from rfl]
        subst hk2
        clear e1 hge
        have t1 : ((r.E.length : Int) != (r.E.length : Int)) = false := by simp
        go_wp2_with fail
        refine (llst_any w2 wa.heap.size Dl rv r HL2.out).mono ?_
        rintro e w3 ⟨rfl, rfl⟩
        go_wp2_with fail
        go_loop [7, 11] (fun s x => ∃ k : Nat, k ≤ r.E.length ∧ s = .int .i64 (k : Int) ∧ x = .int .i64 (oi (before r.E k))) (fun s _ => (intOf s).toNat)
        case atStart => exact ⟨r.E.length, Nat.le_refl _, rfl, rfl⟩
        case round =>
          obtain ⟨k, hk, rfl, rfl⟩ := hrel
          cases k with
          | zero =>
            rw [show oi (before r.E 0) = -1 from rfl]
            go_wp2_with fail
            refine (known_any w2).mono ?_
            rintro e w3 ⟨rfl, hb3⟩
            have HB3 := Lib.hid (HB2.out.trans (hb3.mono hz2))
            clear hb3
            go_wp2_with fail
            go_ret
            exact ⟨rfl, HB3.out⟩
          | succ k =>
            have hlt : k < r.E.length := by omega
            obtain ⟨x, hx⟩ : ∃ x, r.E[k]? = some x := ⟨r.E[k]'hlt, List.getElem?_eq_getElem hlt⟩
            have hs : before r.E (k + 1) = some x.1 := by rw [before_succ]; unfold slotAt; rw [hx]; rfl
            obtain ⟨f1, f2, _, f3⟩ := HL2.out.facts hx
            have d1 := HCV.out k x hx
            obtain rfl := HAV.out (by omega)
            have hV := lval_any w2 wa.heap.size Dl rv r (x.1 : Int) HL2.out
            rw [f1, f2] at hV
            have hN := lprv_any w2 wa.heap.size Dl rv r (x.1 : Int) HL2.out
            rw [f3] at hN
            obtain ⟨s, xv⟩ := x
            rw [hs, show oi (some (s, xv).1) = (s : Int) from rfl]
            have HV := Lib.hid hV
            have HN := Lib.hid hN
            have hlt' : (k : Int) < r.E.length := by omega
            have hk0 : (0 : Int) ≤ k := by omega
            have hs0 : (0 : Int) ≤ s := by omega
            have hk1 : (0 : Int) ≤ (k : Int) + 1 := by omega
            clear hx hs f1 f2 f3 hV hN
            go_wp2_with fail
            refine HV.out.mono ?_
            rintro e w3 ⟨rfl, rfl⟩
            go_wp2_with fail
            refine HN.out.mono ?_
            rintro e w3 ⟨rfl, rfl⟩
            go_wp2_with fail
            go_round
            case rel => exact ⟨k, by omega, by go_num, rfl⟩
            case measure => simp [intOf]
end Go.Proofs.Ytlkpdmblhejnhaa
