/- LinkedReads: the walk. -/
import Derived.Test.YtlkpdmblhejnhaaLnkLp
import Derived.Deep.RegionHeld3
namespace Go.Proofs.Ytlkpdmblhejnhaa
open Go.RowKit
set_option linter.unusedVariables false
open Lnk

theorem lastAt_is (E : List (Nat × Int)) : lastAt E = if ((E.length : Int) - 1) < 0 then none else slotAt E ((E.length : Int) - 1).toNat := by
  unfold lastAt
  cases h : E.length with
  | zero => rfl
  | succ m =>
    rw [before_succ, if_neg (by omega)]
    congr 1
    omega
theorem next_is (E : List (Nat × Int)) (s : Int) : nextR E s 1 = behindR E s := by
  unfold nextR behindR
  cases placeR E s with
  | none => rfl
  | some i =>
    show (if (i : Int) + 1 < 0 then none else slotAt E ((i : Int) + 1).toNat) = slotAt E (i + 1)
    rw [if_neg (by omega)]
    congr 1
theorem prev_is (E : List (Nat × Int)) (s : Int) : nextR E s (-1) = beforeR E s := by
  unfold nextR beforeR
  cases placeR E s with
  | none => rfl
  | some i =>
    show (if (i : Int) + -1 < 0 then none else slotAt E ((i : Int) + -1).toNat) = before E i
    cases i with
    | zero => rfl
    | succ i =>
      rw [if_neg (by omega), before_succ]
      congr 1
      omega
/-- the slots that LinkedReads asks about -/
def asked (slot : Int) (U : Nat) (k : Nat) : Int :=
  if k = 0 then slot else if k = 1 then -1 else if k = 8 then (U : Int) else (k : Int) - 2

set_option maxRecDepth 100000 in
set_option maxHeartbeats 80000000 in
theorem linkedReads_any (w : World) (A : Option Addr) (n c : Nat) (slot : Int) (f : Nat → Int) (h : IntsAt w w.heap.size A n c f) :
    Calls Try.prog 5 #[.slice A n c, .int .i64 slot] w fun e w' => e = .returned (.bool true) ∧ Below w.heap.size w w' := by
  have hnc : n ≤ 9223372036854775807 := Nat.le_trans h.1 h.2.1
  have HI := Lib.hid h
  clear h
  by_cases hbig : 160 < n
  · have hb : decide (160 < (n : Int)) = true := by simp; omega
    go_enter Try.func5, Try.ntmps5
    go_wp2_with fail
    refine (long_any w A n c _ _ rfl hnc true hb).mono ?_
    rintro e w1 ⟨rfl, rfl⟩
    go_wp2_with fail
    refine (known_any _).mono ?_
    rintro e w1 ⟨rfl, hb1⟩
    have HB := Lib.hid (((Below.refl w.heap.size w).alloc (Nat.le_refl _) _).trans (hb1.mono (by simp)))
    clear hb1
    go_wp2_with fail
    go_ret
    exact ⟨rfl, HB.out⟩
  · have hb : decide (160 < (n : Int)) = false := by simp; omega
    have hn : n ≤ 160 := by omega
    go_enter Try.func5, Try.ntmps5
    go_wp2_with fail
    refine (long_any w A n c _ _ rfl hnc false hb).mono ?_
    rintro e w1 ⟨rfl, rfl⟩
    go_wp2_with fail
    generalize hwa : World.alloc w _ = wa
    have hb0 : Below w.heap.size w wa := by rw [← hwa]; exact (Below.refl _ _).alloc (Nat.le_refl _) _
    have hI : IntsAt wa wa.heap.size A n c f := (HI.out.below hb0).more hb0.size
    clear hwa
    refine (play_any wa A n c f hI hn).mono ?_
    rintro e w1 ⟨Dl, rv, ev, fv, r, rfl, hb1, hl1, hr1, hf1⟩
    obtain ⟨a5, c5, rfl⟩ := owns_form hr1.el
    obtain ⟨a6, c6, rfl⟩ := owns_form hr1.fr
    unfold refV
    have HB1 := Lib.hid hb1
    have HL1 := Lib.hid hl1
    have HR1 := Lib.hid hr1
    have HF1 := Lib.hid hf1
    have HB0 := Lib.hid hb0
    have hz1 := hb1.size
    clear hb1 hl1 hr1 hf1 hI hb0
    go_wp2_with fail
    generalize hwb : World.alloc w1 _ = wb
    have hkb : Blk wb w1.heap.size 28 #[.slice a5 r.E.length c5, .slice a6 r.F.length c6, .int .i64 (r.U : Int)] := by rw [← hwb]; exact Blk.new w1 _ _
    have hbb : Below w1.heap.size w1 wb := by rw [← hwb]; exact (Below.refl _ _).alloc (Nat.le_refl _) _
    have hwl : w1.heap.size < wb.heap.size := hkb.lt
    clear hwb
    have x0 := hkb.cell 0
    have x1 := hkb.cell 1
    have x2 := hkb.cell 2
    simp at x0 x1 x2
    have HLF : Hid (∀ W, Below wb.heap.size wb W → Lis W wa.heap.size Dl rv r) := fun W hW => (HL1.out.below hbb).below hW
    have HRF : Hid (∀ W, Below wb.heap.size wb W → RefAt W wa.heap.size (.slice a5 r.E.length c5) (.slice a6 r.F.length c6) r) := fun W hW => (HR1.out.below hbb).below hW
    have HBB := Lib.hid (HB0.out.trans ((HB1.out.trans (hbb.mono hz1)).mono HB0.out.size))
    have HSA : Hid (∀ W, Below wb.heap.size wb W → Calls Try.prog 24 #[refV (.slice a5 r.E.length c5) (.slice a6 r.F.length c6) r, .int .i64 0] W fun e w' => e = .returned (.int .i64 (oi (slotAt r.E 0))) ∧ Below W.heap.size W w') := fun W hW => slotAt_any W wa.heap.size _ _ r 0 (HRF.out W hW) (by omega)
    have hE5 := HF1.out.E
    have hqE : IntKind.i64.wrap ((r.E.length : Int) - 1) = (r.E.length : Int) - 1 := IntWalk.i64_in _ (by omega)
    have HSB : Hid (∀ W, Below wb.heap.size wb W → Calls Try.prog 24 #[refV (.slice a5 r.E.length c5) (.slice a6 r.F.length c6) r, .int .i64 ((r.E.length : Int) - 1)] W fun e w' => e = .returned (.int .i64 (oi (lastAt r.E))) ∧ Below W.heap.size W w') := fun W hW => by
      rw [lastAt_is]
      exact slotAt_any W wa.heap.size _ _ r ((r.E.length : Int) - 1) (HRF.out W hW) (by omega)
    have HBC := Lib.hid (Below.refl wb.heap.size wb)
    have hzw : wa.heap.size ≤ wb.heap.size := by omega
    clear hkb hbb
    go_region_held3 (fun w' => w'.cell? ⟨w1.heap.size, 0, none⟩ = some (.slice a5 r.E.length c5) ∧ w'.cell? ⟨w1.heap.size, 1, none⟩ = some (.slice a6 r.F.length c6) ∧ w'.cell? ⟨w1.heap.size, 2, none⟩ = some (.int .i64 (r.U : Int)))
      (first | go_keep | exact ⟨(HBC.out.cell (p := ⟨w1.heap.size, 0, none⟩) hwl).trans x0, (HBC.out.cell (p := ⟨w1.heap.size, 1, none⟩) hwl).trans x1, (HBC.out.cell (p := ⟨w1.heap.size, 2, none⟩) hwl).trans x2⟩)
      (first
        | (go_simp; go_at_call 23; refine (lfst_any _ wa.heap.size Dl rv r (HLF.out _ ?_)).mono ?_
           · repeat (first | (with_reducible exact HBC.out) | (with_reducible refine belowDrew2 ?_) | (with_reducible refine below_dn ?_ _) | (with_reducible refine below_al ?_ _))
           rintro e w5 ⟨rfl, rfl⟩)
        | (go_simp; go_at_call 25; refine (llst_any _ wa.heap.size Dl rv r (HLF.out _ ?_)).mono ?_
           · repeat (first | (with_reducible exact HBC.out) | (with_reducible refine belowDrew2 ?_) | (with_reducible refine below_dn ?_ _) | (with_reducible refine below_al ?_ _))
           rintro e w5 ⟨rfl, rfl⟩)
        | (go_simp; go_at_call 24; change Calls _ _ #[refV (.slice a5 r.E.length c5) (.slice a6 r.F.length c6) r, _] _ _; first | (with_reducible refine (HSA.out _ ?_).mono ?_) | (with_reducible refine (HSB.out _ ?_).mono ?_)
           · repeat (first | (with_reducible exact HBC.out) | (with_reducible refine belowDrew2 ?_) | (with_reducible refine below_dn ?_ _) | (with_reducible refine below_al ?_ _))
           rintro e w6 ⟨rfl, hb6⟩
           have hBEL : Below wb.heap.size wb w6 := below_step (a := wb) (by repeat (first | (with_reducible exact HBC.out) | (with_reducible refine belowDrew2 ?_) | (with_reducible refine below_dn ?_ _) | (with_reducible refine below_al ?_ _))) hb6
           have HBC := Lib.hid hBEL
           clear hb6 hBEL))
    have k0 := (HBC.out.cell (p := ⟨w1.heap.size, 0, none⟩) hwl).trans x0
    have k1 := (HBC.out.cell (p := ⟨w1.heap.size, 1, none⟩) hwl).trans x1
    have k2 := (HBC.out.cell (p := ⟨w1.heap.size, 2, none⟩) hwl).trans x2
    have hwl6 : w1.heap.size < w6.heap.size := by have := HBC.out.size; omega
    clear x0 x1 x2
    go_wp2_with fail
    generalize hwd : World.alloc w6 _ = wd
    have hbd : Below w6.heap.size w6 wd := by rw [← hwd]; exact (Below.refl _ _).alloc (Nat.le_refl _) _
    have hkd : Blk wd w6.heap.size 3 #[.int .i64 slot, .int .i64 (-1), .int .i64 0, .int .i64 1, .int .i64 2, .int .i64 3, .int .i64 4, .int .i64 5, .int .i64 (r.U : Int)] := by rw [← hwd]; exact Blk.new w6 _ _
    clear hwd
    have k0 := (hbd.cell (p := ⟨w1.heap.size, 0, none⟩) hwl6).trans k0
    have k1 := (hbd.cell (p := ⟨w1.heap.size, 1, none⟩) hwl6).trans k1
    have k2 := (hbd.cell (p := ⟨w1.heap.size, 2, none⟩) hwl6).trans k2
    have HDB : Hid (∀ W, Below wd.heap.size wd W → Below wb.heap.size wb W) := fun W hW => below_step (a := wb) (below_step (a := wb) HBC.out hbd) hW
    have HASK : Hid (∀ k, k < 9 → wd.cell? ⟨w6.heap.size, 0 + k, none⟩ = some (.int .i64 (asked slot r.U k))) := fun k hk => by
      rw [Nat.zero_add, hkd.cell]
      have : k = 0 ∨ k = 1 ∨ k = 2 ∨ k = 3 ∨ k = 4 ∨ k = 5 ∨ k = 6 ∨ k = 7 ∨ k = 8 := by omega
      rcases this with rfl | rfl | rfl | rfl | rfl | rfl | rfl | rfl | rfl <;> rfl
    have hwd : w1.heap.size < wd.heap.size := by have := hbd.size; omega
    have hw6 : w6.heap.size < wd.heap.size := hkd.lt
    have HBB2 := Lib.hid (HBB.out.trans ((HDB.out wd (Below.refl _ _)).mono (by have := HB0.out.size; omega)))
    clear hkd hbd HSA HSB HBC
    go_loopw [48] (fun i wr => ∃ k : Nat, k ≤ 9 ∧ i = .int .i64 (k : Int) ∧ Below wd.heap.size wd wr) (fun i _ => 9 - (intOf i).toNat)
    case atStart => exact ⟨0, by omega, rfl, Below.refl _ _⟩
    case round =>
      obtain ⟨k, hk, rfl, hb⟩ := hrel
      rcases Nat.lt_or_ge k 9 with hlt | hge
      · have hlt' : (k : Int) < 9 := by omega
        obtain ⟨q, hq⟩ : ∃ q, asked slot r.U k = q := ⟨_, rfl⟩
        have hwr : wr.cell? ⟨w6.heap.size, k, none⟩ = some (.int .i64 q) := by rw [← hq]; have h := (hb.cell (p := ⟨w6.heap.size, 0 + k, none⟩) hw6).trans (HASK.out k hlt); rw [Nat.zero_add] at h; exact h
        clear hq
        obtain ⟨nn, hnn⟩ : ∃ nn, oi (behindR r.E q) = nn := ⟨_, rfl⟩
        obtain ⟨bb, hbb⟩ : ∃ bb, oi (beforeR r.E q) = bb := ⟨_, rfl⟩
        cases hp : placeR r.E q with
        | none =>
          have HVAL : Hid (∀ W, Below wd.heap.size wd W → Calls Try.prog 22 #[.pointer (some ⟨Dl, 0, none⟩), .int .i64 q] W fun e w' => e = .returned (.tuple #[.int .i64 (0), .bool false]) ∧ W = w') := fun W hW => by
            have h := lval_any W wa.heap.size Dl rv r q (HLF.out W (HDB.out W hW))
            have e : valueR r.E q = 0 := by unfold valueR; rw [hp]
            rw [e, hp] at h
            exact h
          have HPL : Hid (∀ W, Below wd.heap.size wd W → Calls Try.prog 26 #[refV (.slice a5 r.E.length c5) (.slice a6 r.F.length c6) r, .int .i64 q] W fun e w' => e = .returned (.int .i64 (-1)) ∧ Below W.heap.size W w') := fun W hW => by
            have h := rplace_any W wa.heap.size _ _ r q (HRF.out W (HDB.out W hW)) (by omega)
            rw [hp] at h
            exact h
          have HNX : Hid (∀ W, Below wd.heap.size wd W → Calls Try.prog 27 #[.pointer (some ⟨Dl, 0, none⟩), .int .i64 q] W fun e w' => e = .returned (.int .i64 nn) ∧ W = w') := fun W hW => by
            rw [← hnn]; exact lnxt_any W wa.heap.size Dl rv r q (HLF.out W (HDB.out W hW))
          have HPV : Hid (∀ W, Below wd.heap.size wd W → Calls Try.prog 29 #[.pointer (some ⟨Dl, 0, none⟩), .int .i64 q] W fun e w' => e = .returned (.int .i64 bb) ∧ W = w') := fun W hW => by
            rw [← hbb]; exact lprv_any W wa.heap.size Dl rv r q (HLF.out W (HDB.out W hW))
          have HRN : Hid (∀ W, Below wd.heap.size wd W → Calls Try.prog 28 #[refV (.slice a5 r.E.length c5) (.slice a6 r.F.length c6) r, .int .i64 q, .int .i64 1] W fun e w' => e = .returned (.int .i64 nn) ∧ Below W.heap.size W w') := fun W hW => by
            rw [← hnn, ← next_is]; exact rnext_any W wa.heap.size _ _ r q 1 (HRF.out W (HDB.out W hW)) (by omega) (by omega)
          have HRP : Hid (∀ W, Below wd.heap.size wd W → Calls Try.prog 28 #[refV (.slice a5 r.E.length c5) (.slice a6 r.F.length c6) r, .int .i64 q, .int .i64 (-1)] W fun e w' => e = .returned (.int .i64 bb) ∧ Below W.heap.size W w') := fun W hW => by
            rw [← hbb, ← prev_is]; exact rnext_any W wa.heap.size _ _ r q (-1) (HRF.out W (HDB.out W hW)) (by omega) (by omega)
          have HCELL : Hid (∀ W, Below wd.heap.size wd W → W.cell? ⟨w1.heap.size, 0, none⟩ = some (.slice a5 r.E.length c5) ∧ W.cell? ⟨w1.heap.size, 1, none⟩ = some (.slice a6 r.F.length c6) ∧ W.cell? ⟨w1.heap.size, 2, none⟩ = some (.int .i64 (r.U : Int))) := fun W hW => ⟨(hW.cell (p := ⟨w1.heap.size, 0, none⟩) hwd).trans k0, (hW.cell (p := ⟨w1.heap.size, 1, none⟩) hwd).trans k1, (hW.cell (p := ⟨w1.heap.size, 2, none⟩) hwd).trans k2⟩
          have f1 : decide ((0 : Int) ≤ -1) = false := by decide
          have HP := Lib.hid hp
          have HBC := Lib.hid hb
          have z9 := hwr
          clear hp hb hwr hnn hbb
          go_wp2_with fail
          (with_reducible refine (HVAL.out _ HBC.out).mono ?_)
          rintro e w8 ⟨rfl, rfl⟩
          obtain ⟨z0, z1, z2⟩ := HCELL.out wr HBC.out
          go_wp2_with fail
          change Calls _ _ #[refV (.slice a5 r.E.length c5) (.slice a6 r.F.length c6) r, _] _ _
          (with_reducible refine (HPL.out _ HBC.out).mono ?_)
          rintro e w8 ⟨rfl, hb8⟩
          have hBEL : Below wd.heap.size wd w8 := below_step (a := wd) HBC.out hb8
          have HBC := Lib.hid hBEL
          clear hb8 hBEL z0 z1 z2
          obtain ⟨z0, z1, z2⟩ := HCELL.out w8 HBC.out
          go_wp2_with fail
          refine wp_region_noPanic ?_
          refine wp_region_held_drew (S := fun w' => w'.cell? ⟨w1.heap.size, 0, none⟩ = some (.slice a5 r.E.length c5) ∧ w'.cell? ⟨w1.heap.size, 1, none⟩ = some (.slice a6 r.F.length c6) ∧ w'.cell? ⟨w1.heap.size, 2, none⟩ = some (.int .i64 (r.U : Int))) (by kernel_rfl) ⟨z0, z1, z2⟩ (fun hHeld => ?_)
          clear z0 z1 z2
          refine wpAnyH_take (i := 0) (oi := _) (v := ?_) rfl (by kernel_rfl) (by kernel_rfl) (by kernel_rfl) (fun _ _ _ h => h) (Or.inl ⟨by kernel_rfl, ?_⟩) hHeld ?_
          rotate_left
          · intro w hSw
            obtain ⟨z0, z1, z2⟩ := hSw
            go_simp
            all_goals (with_reducible rfl)
          conv => arg 8; simp only [Act.put, List.setIfInBounds_toArray, List.set_cons_zero, List.set_cons_succ]
          refine wpAnyH_take (i := 1) (oi := _) (v := ?_) rfl (by kernel_rfl) (by kernel_rfl) (by kernel_rfl) (fun _ _ _ h => h) (Or.inl ⟨by kernel_rfl, ?_⟩) hHeld ?_
          rotate_left
          · intro w hSw
            obtain ⟨z0, z1, z2⟩ := hSw
            go_simp
            all_goals (with_reducible rfl)
          conv => arg 8; simp only [Act.put, List.setIfInBounds_toArray, List.set_cons_zero, List.set_cons_succ]
          refine wpAnyH_take (i := 2) (oi := _) (v := ?_) rfl (by kernel_rfl) (by kernel_rfl) (by kernel_rfl) (fun _ _ _ h => h) (Or.inl ⟨by kernel_rfl, ?_⟩) hHeld ?_
          rotate_left
          · intro w hSw
            obtain ⟨z0, z1, z2⟩ := hSw
            go_simp
            all_goals (with_reducible rfl)
          conv => arg 8; simp only [Act.put, List.setIfInBounds_toArray, List.set_cons_zero, List.set_cons_succ]
          refine wpAnyH_take (i := 3) (oi := _) (v := ?_) rfl (by kernel_rfl) (by kernel_rfl) (by kernel_rfl) (fun _ _ _ h => h) (Or.inl ⟨by kernel_rfl, ?_⟩) hHeld ?_
          rotate_left
          · intro w hSw
            obtain ⟨z0, z1, z2⟩ := hSw
            go_simp
            all_goals (with_reducible rfl)
          conv => arg 8; simp only [Act.put, List.setIfInBounds_toArray, List.set_cons_zero, List.set_cons_succ]
          refine wpAnyH_take (i := 4) (oi := _) (v := ?_) rfl (by kernel_rfl) (by kernel_rfl) (by kernel_rfl) (fun _ _ _ h => h) (Or.inl ⟨by kernel_rfl, ?_⟩) hHeld ?_
          rotate_left
          · intro w hSw
            obtain ⟨z0, z1, z2⟩ := hSw
            go_simp
            all_goals (with_reducible rfl)
          conv => arg 8; simp only [Act.put, List.setIfInBounds_toArray, List.set_cons_zero, List.set_cons_succ]
          refine wpAnyH_take (i := 5) (oi := _) (v := ?_) rfl (by kernel_rfl) (by kernel_rfl) (by kernel_rfl) (fun _ _ _ h => h) (Or.inl ⟨by kernel_rfl, ?_⟩) hHeld ?_
          rotate_left
          · intro w hSw
            obtain ⟨z0, z1, z2⟩ := hSw
            go_simp
            all_goals (with_reducible rfl)
          conv => arg 8; simp only [Act.put, List.setIfInBounds_toArray, List.set_cons_zero, List.set_cons_succ]
          refine wpAnyH_take (i := 6) (oi := _) (v := ?_) rfl (by kernel_rfl) (by kernel_rfl) (by kernel_rfl) (fun _ _ _ h => h) (Or.inl ⟨by kernel_rfl, ?_⟩) hHeld ?_
          rotate_left
          · intro w hSw
            obtain ⟨z0, z1, z2⟩ := hSw
            go_simp
            all_goals (with_reducible rfl)
          conv => arg 8; simp only [Act.put, List.setIfInBounds_toArray, List.set_cons_zero, List.set_cons_succ]
          refine wpAnyH_take (i := 7) (oi := _) (v := undef) rfl (by kernel_rfl) (by kernel_rfl) (by kernel_rfl) (fun _ _ _ h => h) (Or.inr ⟨by kernel_rfl, rfl⟩) hHeld ?_
          conv => arg 8; simp only [Act.put, List.setIfInBounds_toArray, List.set_cons_zero, List.set_cons_succ]
          refine wpAnyH_take (i := 8) (oi := _) (v := undef) rfl (by kernel_rfl) (by kernel_rfl) (by kernel_rfl) (fun _ _ _ h => h) (Or.inr ⟨by kernel_rfl, rfl⟩) hHeld ?_
          conv => arg 8; simp only [Act.put, List.setIfInBounds_toArray, List.set_cons_zero, List.set_cons_succ]
          refine wpAnyH_take (i := 9) (oi := _) (v := undef) rfl (by kernel_rfl) (by kernel_rfl) (by kernel_rfl) (fun _ _ _ h => h) (Or.inr ⟨by kernel_rfl, rfl⟩) hHeld ?_
          conv => arg 8; simp only [Act.put, List.setIfInBounds_toArray, List.set_cons_zero, List.set_cons_succ]
          refine wpAnyH_take (i := 10) (oi := _) (v := undef) rfl (by kernel_rfl) (by kernel_rfl) (by kernel_rfl) (fun _ _ _ h => h) (Or.inr ⟨by kernel_rfl, rfl⟩) hHeld ?_
          conv => arg 8; simp only [Act.put, List.setIfInBounds_toArray, List.set_cons_zero, List.set_cons_succ]
          refine wpAnyH_take (i := 11) (oi := _) (v := undef) rfl (by kernel_rfl) (by kernel_rfl) (by kernel_rfl) (fun _ _ _ h => h) (Or.inr ⟨by kernel_rfl, rfl⟩) hHeld ?_
          conv => arg 8; simp only [Act.put, List.setIfInBounds_toArray, List.set_cons_zero, List.set_cons_succ]
          refine wpAnyH_take (i := 12) (oi := _) (v := undef) rfl (by kernel_rfl) (by kernel_rfl) (by kernel_rfl) (fun _ _ _ h => h) (Or.inr ⟨by kernel_rfl, rfl⟩) hHeld ?_
          conv => arg 8; simp only [Act.put, List.setIfInBounds_toArray, List.set_cons_zero, List.set_cons_succ]
          refine wpAnyH_take (i := 13) (oi := _) (v := undef) rfl (by kernel_rfl) (by kernel_rfl) (by kernel_rfl) (fun _ _ _ h => h) (Or.inr ⟨by kernel_rfl, rfl⟩) hHeld ?_
          conv => arg 8; simp only [Act.put, List.setIfInBounds_toArray, List.set_cons_zero, List.set_cons_succ]
          refine wpAnyH_take (i := 14) (oi := _) (v := undef) rfl (by kernel_rfl) (by kernel_rfl) (by kernel_rfl) (fun _ _ _ h => h) (Or.inr ⟨by kernel_rfl, rfl⟩) hHeld ?_
          conv => arg 8; simp only [Act.put, List.setIfInBounds_toArray, List.set_cons_zero, List.set_cons_succ]
          refine wpAnyH_take (i := 15) (oi := _) (v := ?_) rfl (by kernel_rfl) (by kernel_rfl) (by kernel_rfl) (fun _ _ _ h => h) (Or.inl ⟨by kernel_rfl, ?_⟩) hHeld ?_
          rotate_left
          · intro w hSw
            obtain ⟨z0, z1, z2⟩ := hSw
            go_simp
            all_goals (with_reducible rfl)
          conv => arg 8; simp only [Act.put, List.setIfInBounds_toArray, List.set_cons_zero, List.set_cons_succ]
          refine wpAnyH_take (i := 16) (oi := _) (v := ?_) rfl (by kernel_rfl) (by kernel_rfl) (by kernel_rfl) (fun _ _ _ h => h) (Or.inl ⟨by kernel_rfl, ?_⟩) hHeld ?_
          rotate_left
          · intro w hSw
            obtain ⟨z0, z1, z2⟩ := hSw
            go_simp
            all_goals (with_reducible rfl)
          conv => arg 8; simp only [Act.put, List.setIfInBounds_toArray, List.set_cons_zero, List.set_cons_succ]
          refine wpAnyH_take (i := 17) (oi := _) (v := ?_) rfl (by kernel_rfl) (by kernel_rfl) (by kernel_rfl) (fun _ _ _ h => h) (Or.inl ⟨by kernel_rfl, ?_⟩) hHeld ?_
          rotate_left
          · intro w hSw
            obtain ⟨z0, z1, z2⟩ := hSw
            go_simp
            all_goals (with_reducible rfl)
          conv => arg 8; simp only [Act.put, List.setIfInBounds_toArray, List.set_cons_zero, List.set_cons_succ]
          refine wpAnyH_take (i := 18) (oi := _) (v := ?_) rfl (by kernel_rfl) (by kernel_rfl) (by kernel_rfl) (fun _ _ _ h => h) (Or.inl ⟨by kernel_rfl, ?_⟩) hHeld ?_
          rotate_left
          · intro w hSw
            obtain ⟨z0, z1, z2⟩ := hSw
            go_simp
            all_goals (with_reducible rfl)
          conv => arg 8; simp only [Act.put, List.setIfInBounds_toArray, List.set_cons_zero, List.set_cons_succ]
          refine wpAnyH_take (i := 19) (oi := _) (v := ?_) rfl (by kernel_rfl) (by kernel_rfl) (by kernel_rfl) (fun _ _ _ h => h) (Or.inl ⟨by kernel_rfl, ?_⟩) hHeld ?_
          rotate_left
          · intro w hSw
            obtain ⟨z0, z1, z2⟩ := hSw
            go_simp
            all_goals (with_reducible rfl)
          conv => arg 8; simp only [Act.put, List.setIfInBounds_toArray, List.set_cons_zero, List.set_cons_succ]
          refine wpAnyH_take (i := 20) (oi := _) (v := ?_) rfl (by kernel_rfl) (by kernel_rfl) (by kernel_rfl) (fun _ _ _ h => h) (Or.inl ⟨by kernel_rfl, ?_⟩) hHeld ?_
          rotate_left
          · intro w hSw
            obtain ⟨z0, z1, z2⟩ := hSw
            go_simp
            all_goals (with_reducible rfl)
          conv => arg 8; simp only [Act.put, List.setIfInBounds_toArray, List.set_cons_zero, List.set_cons_succ]
          refine wpAnyH_take (i := 21) (oi := _) (v := ?_) rfl (by kernel_rfl) (by kernel_rfl) (by kernel_rfl) (fun _ _ _ h => h) (Or.inl ⟨by kernel_rfl, ?_⟩) hHeld ?_
          rotate_left
          · intro w hSw
            obtain ⟨z0, z1, z2⟩ := hSw
            go_simp
            all_goals (with_reducible rfl)
          conv => arg 8; simp only [Act.put, List.setIfInBounds_toArray, List.set_cons_zero, List.set_cons_succ]
          refine wpAnyH_take (i := 22) (oi := _) (v := ?_) rfl (by kernel_rfl) (by kernel_rfl) (by kernel_rfl) (fun _ _ _ h => h) (Or.inl ⟨by kernel_rfl, ?_⟩) hHeld ?_
          rotate_left
          · intro w hSw
            obtain ⟨z0, z1, z2⟩ := hSw
            go_simp
            all_goals (with_reducible rfl)
          conv => arg 8; simp only [Act.put, List.setIfInBounds_toArray, List.set_cons_zero, List.set_cons_succ]
          refine wpAnyH_take (i := 23) (oi := _) (v := ?_) rfl (by kernel_rfl) (by kernel_rfl) (by kernel_rfl) (fun _ _ _ h => h) (Or.inl ⟨by kernel_rfl, ?_⟩) hHeld ?_
          rotate_left
          · intro w hSw
            obtain ⟨z0, z1, z2⟩ := hSw
            go_simp
            all_goals (with_reducible rfl)
          conv => arg 8; simp only [Act.put, List.setIfInBounds_toArray, List.set_cons_zero, List.set_cons_succ]
          refine wpAnyH_take (i := 24) (oi := _) (v := ?_) rfl (by kernel_rfl) (by kernel_rfl) (by kernel_rfl) (fun _ _ _ h => h) (Or.inl ⟨by kernel_rfl, ?_⟩) hHeld ?_
          rotate_left
          · intro w hSw
            obtain ⟨z0, z1, z2⟩ := hSw
            go_simp
            all_goals (with_reducible rfl)
          conv => arg 8; simp only [Act.put, List.setIfInBounds_toArray, List.set_cons_zero, List.set_cons_succ]
          refine wpAnyH_take (i := 25) (oi := _) (v := ?_) rfl (by kernel_rfl) (by kernel_rfl) (by kernel_rfl) (fun _ _ _ h => h) (Or.inl ⟨by kernel_rfl, ?_⟩) hHeld ?_
          rotate_left
          · intro w hSw
            obtain ⟨z0, z1, z2⟩ := hSw
            go_simp
            all_goals (with_reducible rfl)
          conv => arg 8; simp only [Act.put, List.setIfInBounds_toArray, List.set_cons_zero, List.set_cons_succ]
          refine wpAnyH_take (i := 26) (oi := _) (v := ?_) rfl (by kernel_rfl) (by kernel_rfl) (by kernel_rfl) (fun _ _ _ h => h) (Or.inl ⟨by kernel_rfl, ?_⟩) hHeld ?_
          rotate_left
          · intro w hSw
            obtain ⟨z0, z1, z2⟩ := hSw
            go_simp
            all_goals (with_reducible rfl)
          conv => arg 8; simp only [Act.put, List.setIfInBounds_toArray, List.set_cons_zero, List.set_cons_succ]
          refine wpAnyH_take (i := 27) (oi := _) (v := ?_) rfl (by kernel_rfl) (by kernel_rfl) (by kernel_rfl) (fun _ _ _ h => h) (Or.inl ⟨by kernel_rfl, ?_⟩) hHeld ?_
          rotate_left
          · intro w hSw
            obtain ⟨z0, z1, z2⟩ := hSw
            go_simp
            all_goals (with_reducible rfl)
          conv => arg 8; simp only [Act.put, List.setIfInBounds_toArray, List.set_cons_zero, List.set_cons_succ]
          refine wpAnyH_take (i := 29) (oi := _) (v := ?_) rfl (by kernel_rfl) (by kernel_rfl) (by kernel_rfl) (fun _ _ _ h => h) (Or.inl ⟨by kernel_rfl, ?_⟩) hHeld ?_
          rotate_left
          · intro w hSw
            obtain ⟨z0, z1, z2⟩ := hSw
            go_simp
            all_goals (with_reducible rfl)
          conv => arg 8; simp only [Act.put, List.setIfInBounds_toArray, List.set_cons_zero, List.set_cons_succ]
          refine wpAnyH_take (i := 30) (oi := ⟨some 91, _, _, _, _, _⟩) (v := ?_) rfl (by kernel_rfl) (by kernel_rfl) (by kernel_rfl) (fun _ _ _ h => h) (Or.inl ⟨by kernel_rfl, ?_⟩) hHeld ?_
          rotate_left
          · intro w hSw
            obtain ⟨z0, z1, z2⟩ := hSw
            go_simp
            all_goals (with_reducible rfl)
          conv => arg 8; simp only [Act.put, List.setIfInBounds_toArray, List.set_cons_zero, List.set_cons_succ]
          refine wpAnyH_ready (rs := [28]) (by kernel_rfl) (by simp) ?_
          refine AllReadyH.cons (o := _) rfl (fun K hK => ?_) AllReadyH.nil
          go_simp
          go_at_call 27
          (with_reducible refine (HNX.out _ ?_).mono ?_)
          · repeat (first | (with_reducible exact HBC.out) | (with_reducible refine belowDrew2 ?_) | (with_reducible refine below_dn ?_ _) | (with_reducible refine below_al ?_ _))
          rintro e w9 ⟨rfl, rfl⟩
          refine hK.out _ _ (HCELL.out _ (by repeat (first | (with_reducible exact HBC.out) | (with_reducible refine belowDrew2 ?_) | (with_reducible refine below_dn ?_ _) | (with_reducible refine below_al ?_ _)))) (fun hHeld => ?_)
          clear hK K
          conv => arg 8; simp only [Act.put, List.setIfInBounds_toArray, List.set_cons_zero, List.set_cons_succ]
          refine wpAnyH_ready (rs := [31]) (by kernel_rfl) (by simp) ?_
          refine AllReadyH.cons (o := ⟨some 92, _, _, _, _, _⟩) rfl (fun K hK => ?_) AllReadyH.nil
          go_simp
          go_at_call 28
          change Calls _ _ #[refV (.slice a5 r.E.length c5) (.slice a6 r.F.length c6) r, _, _] _ _
          (with_reducible refine (HRN.out _ ?_).mono ?_)
          · repeat (first | (with_reducible exact HBC.out) | (with_reducible refine belowDrew2 ?_) | (with_reducible refine below_dn ?_ _) | (with_reducible refine below_al ?_ _))
          rintro e w8 ⟨rfl, hb8⟩
          have hBEL : Below wd.heap.size wd w8 := below_step (a := wd) (by repeat (first | (with_reducible exact HBC.out) | (with_reducible refine belowDrew2 ?_) | (with_reducible refine below_dn ?_ _) | (with_reducible refine below_al ?_ _))) hb8
          have HBC := Lib.hid hBEL
          clear hb8 hBEL
          refine hK.out _ _ (HCELL.out _ HBC.out) (fun hHeld => ?_)
          clear hK K
          conv => arg 8; simp only [Act.put, List.setIfInBounds_toArray, List.set_cons_zero, List.set_cons_succ]
          refine wpAnyH_take (i := 32) (oi := ⟨some 93, _, _, _, _, _⟩) (v := ?_) rfl (by kernel_rfl) (by kernel_rfl) (by kernel_rfl) (fun _ _ _ h => h) (Or.inl ⟨by kernel_rfl, ?_⟩) hHeld ?_
          rotate_left
          · intro w hSw
            obtain ⟨z0, z1, z2⟩ := hSw
            go_simp
            all_goals (with_reducible rfl)
          conv => arg 8; simp only [Act.put, List.setIfInBounds_toArray, List.set_cons_zero, List.set_cons_succ]
          refine wpAnyH_take (i := 33) (oi := ⟨some 94, _, _, _, _, _⟩) (v := ?_) rfl (by kernel_rfl) (by kernel_rfl) (by kernel_rfl) (fun _ _ _ h => h) (Or.inl ⟨by kernel_rfl, ?_⟩) hHeld ?_
          rotate_left
          · intro w hSw
            obtain ⟨z0, z1, z2⟩ := hSw
            go_simp
            all_goals (with_reducible rfl)
          conv => arg 8; simp only [Act.put, List.setIfInBounds_toArray, List.set_cons_zero, List.set_cons_succ]
          refine wpAnyH_take (i := 34) (oi := ⟨some 95, _, _, _, _, _⟩) (v := ?_) rfl (by kernel_rfl) (by kernel_rfl) (by kernel_rfl) (fun _ _ _ h => h) (Or.inl ⟨by kernel_rfl, ?_⟩) hHeld ?_
          rotate_left
          · intro w hSw
            obtain ⟨z0, z1, z2⟩ := hSw
            go_simp
            all_goals (with_reducible rfl)
          conv => arg 8; simp only [Act.put, List.setIfInBounds_toArray, List.set_cons_zero, List.set_cons_succ]
          refine wpAnyH_take (i := 35) (oi := ⟨some 96, _, _, _, _, _⟩) (v := ?_) rfl (by kernel_rfl) (by kernel_rfl) (by kernel_rfl) (fun _ _ _ h => h) (Or.inl ⟨by kernel_rfl, ?_⟩) hHeld ?_
          rotate_left
          · intro w hSw
            obtain ⟨z0, z1, z2⟩ := hSw
            go_simp
            all_goals (with_reducible rfl)
          conv => arg 8; simp only [Act.put, List.setIfInBounds_toArray, List.set_cons_zero, List.set_cons_succ]
          refine wpAnyH_take (i := 36) (oi := ⟨some 97, _, _, _, _, _⟩) (v := ?_) rfl (by kernel_rfl) (by kernel_rfl) (by kernel_rfl) (fun _ _ _ h => h) (Or.inl ⟨by kernel_rfl, ?_⟩) hHeld ?_
          rotate_left
          · intro w hSw
            obtain ⟨z0, z1, z2⟩ := hSw
            go_simp
            all_goals (with_reducible rfl)
          conv => arg 8; simp only [Act.put, List.setIfInBounds_toArray, List.set_cons_zero, List.set_cons_succ]
          refine wpAnyH_take (i := 38) (oi := ⟨some 99, _, _, _, _, _⟩) (v := ?_) rfl (by kernel_rfl) (by kernel_rfl) (by kernel_rfl) (fun _ _ _ h => h) (Or.inl ⟨by kernel_rfl, ?_⟩) hHeld ?_
          rotate_left
          · intro w hSw
            obtain ⟨z0, z1, z2⟩ := hSw
            go_simp
            all_goals (with_reducible rfl)
          conv => arg 8; simp only [Act.put, List.setIfInBounds_toArray, List.set_cons_zero, List.set_cons_succ]
          refine wpAnyH_take (i := 39) (oi := ⟨some 100, _, _, _, _, _⟩) (v := ?_) rfl (by kernel_rfl) (by kernel_rfl) (by kernel_rfl) (fun _ _ _ h => h) (Or.inl ⟨by kernel_rfl, ?_⟩) hHeld ?_
          rotate_left
          · intro w hSw
            obtain ⟨z0, z1, z2⟩ := hSw
            go_simp
            all_goals (with_reducible rfl)
          conv => arg 8; simp only [Act.put, List.setIfInBounds_toArray, List.set_cons_zero, List.set_cons_succ]
          refine wpAnyH_ready (rs := [37]) (by kernel_rfl) (by simp) ?_
          refine AllReadyH.cons (o := ⟨some 98, _, _, _, _, _⟩) rfl (fun K hK => ?_) AllReadyH.nil
          go_simp
          go_at_call 29
          (with_reducible refine (HPV.out _ ?_).mono ?_)
          · repeat (first | (with_reducible exact HBC.out) | (with_reducible refine belowDrew2 ?_) | (with_reducible refine below_dn ?_ _) | (with_reducible refine below_al ?_ _))
          rintro e w9 ⟨rfl, rfl⟩
          refine hK.out _ _ (HCELL.out _ (by repeat (first | (with_reducible exact HBC.out) | (with_reducible refine belowDrew2 ?_) | (with_reducible refine below_dn ?_ _) | (with_reducible refine below_al ?_ _)))) (fun hHeld => ?_)
          clear hK K
          conv => arg 8; simp only [Act.put, List.setIfInBounds_toArray, List.set_cons_zero, List.set_cons_succ]
          refine wpAnyH_ready (rs := [40]) (by kernel_rfl) (by simp) ?_
          refine AllReadyH.cons (o := ⟨some 101, _, _, _, _, _⟩) rfl (fun K hK => ?_) AllReadyH.nil
          go_simp
          go_at_call 28
          change Calls _ _ #[refV (.slice a5 r.E.length c5) (.slice a6 r.F.length c6) r, _, _] _ _
          (with_reducible refine (HRP.out _ ?_).mono ?_)
          · repeat (first | (with_reducible exact HBC.out) | (with_reducible refine belowDrew2 ?_) | (with_reducible refine below_dn ?_ _) | (with_reducible refine below_al ?_ _))
          rintro e w8 ⟨rfl, hb8⟩
          have hBEL : Below wd.heap.size wd w8 := below_step (a := wd) (by repeat (first | (with_reducible exact HBC.out) | (with_reducible refine belowDrew2 ?_) | (with_reducible refine below_dn ?_ _) | (with_reducible refine below_al ?_ _))) hb8
          have HBC := Lib.hid hBEL
          clear hb8 hBEL
          refine hK.out _ _ (HCELL.out _ HBC.out) (fun hHeld => ?_)
          clear hK K
          conv => arg 8; simp only [Act.put, List.setIfInBounds_toArray, List.set_cons_zero, List.set_cons_succ]
          refine wpAnyH_take (i := 41) (oi := ⟨some 102, _, _, _, _, _⟩) (v := ?_) rfl (by kernel_rfl) (by kernel_rfl) (by kernel_rfl) (fun _ _ _ h => h) (Or.inl ⟨by kernel_rfl, ?_⟩) hHeld ?_
          rotate_left
          · intro w hSw
            obtain ⟨z0, z1, z2⟩ := hSw
            go_simp
            all_goals (with_reducible rfl)
          conv => arg 8; simp only [Act.put, List.setIfInBounds_toArray, List.set_cons_zero, List.set_cons_succ]
          refine wpAnyH_take (i := 42) (oi := ⟨some 103, _, _, _, _, _⟩) (v := ?_) rfl (by kernel_rfl) (by kernel_rfl) (by kernel_rfl) (fun _ _ _ h => h) (Or.inl ⟨by kernel_rfl, ?_⟩) hHeld ?_
          rotate_left
          · intro w hSw
            obtain ⟨z0, z1, z2⟩ := hSw
            go_simp
            all_goals (with_reducible rfl)
          conv => arg 8; simp only [Act.put, List.setIfInBounds_toArray, List.set_cons_zero, List.set_cons_succ]
          refine wpAnyH_done (by kernel_rfl) ?_ _
          refine NoPanic.normal ?_
          go_wp2_with fail
          all_goals (exact ⟨⟨k + 1, by omega, by go_num, HBC.out⟩, by simp [intOf]; omega⟩)
        | some i =>
          obtain ⟨x, hx, hqx, hgx⟩ := placeR_ex hp
          have hil : i < r.E.length := by
            rcases Nat.lt_or_ge i r.E.length with h1 | h1
            · exact h1
            · rw [List.getElem?_eq_none h1] at hx; cases hx
          obtain ⟨ae, ge, ce, hev, hAe, hce, hcells⟩ := elem_cells (HRF.out wd (HDB.out wd (Below.refl _ _)))
          obtain ⟨hAe1, hge⟩ := hAe (by omega)
          obtain ⟨_, d2⟩ := hcells i x hx
          have ha5 : a5 = some ⟨ge, 0, none⟩ := by
            injection hev with e1 e2 e3
            rw [e1, hAe1]
          subst ha5
          have hi' : (i : Int) < r.E.length := by omega
          have hi0 : (0 : Int) ≤ i := by omega
          have HVAL : Hid (∀ W, Below wd.heap.size wd W → Calls Try.prog 22 #[.pointer (some ⟨Dl, 0, none⟩), .int .i64 q] W fun e w' => e = .returned (.tuple #[.int .i64 (x.2), .bool true]) ∧ W = w') := fun W hW => by
            have h := lval_any W wa.heap.size Dl rv r q (HLF.out W (HDB.out W hW))
            have e : valueR r.E q = x.2 := by unfold valueR; rw [hp]; show (r.E.getD i (0, 0)).2 = _; rw [hgx]
            rw [e, hp] at h
            exact h
          have HPL : Hid (∀ W, Below wd.heap.size wd W → Calls Try.prog 26 #[refV (.slice (some ⟨ge, 0, none⟩) r.E.length c5) (.slice a6 r.F.length c6) r, .int .i64 q] W fun e w' => e = .returned (.int .i64 ((i : Int))) ∧ Below W.heap.size W w') := fun W hW => by
            have h := rplace_any W wa.heap.size _ _ r q (HRF.out W (HDB.out W hW)) (by omega)
            rw [hp] at h
            exact h
          have HNX : Hid (∀ W, Below wd.heap.size wd W → Calls Try.prog 27 #[.pointer (some ⟨Dl, 0, none⟩), .int .i64 q] W fun e w' => e = .returned (.int .i64 nn) ∧ W = w') := fun W hW => by
            rw [← hnn]; exact lnxt_any W wa.heap.size Dl rv r q (HLF.out W (HDB.out W hW))
          have HPV : Hid (∀ W, Below wd.heap.size wd W → Calls Try.prog 29 #[.pointer (some ⟨Dl, 0, none⟩), .int .i64 q] W fun e w' => e = .returned (.int .i64 bb) ∧ W = w') := fun W hW => by
            rw [← hbb]; exact lprv_any W wa.heap.size Dl rv r q (HLF.out W (HDB.out W hW))
          have HRN : Hid (∀ W, Below wd.heap.size wd W → Calls Try.prog 28 #[refV (.slice (some ⟨ge, 0, none⟩) r.E.length c5) (.slice a6 r.F.length c6) r, .int .i64 q, .int .i64 1] W fun e w' => e = .returned (.int .i64 nn) ∧ Below W.heap.size W w') := fun W hW => by
            rw [← hnn, ← next_is]; exact rnext_any W wa.heap.size _ _ r q 1 (HRF.out W (HDB.out W hW)) (by omega) (by omega)
          have HRP : Hid (∀ W, Below wd.heap.size wd W → Calls Try.prog 28 #[refV (.slice (some ⟨ge, 0, none⟩) r.E.length c5) (.slice a6 r.F.length c6) r, .int .i64 q, .int .i64 (-1)] W fun e w' => e = .returned (.int .i64 bb) ∧ Below W.heap.size W w') := fun W hW => by
            rw [← hbb, ← prev_is]; exact rnext_any W wa.heap.size _ _ r q (-1) (HRF.out W (HDB.out W hW)) (by omega) (by omega)
          have HCELL : Hid (∀ W, Below wd.heap.size wd W → W.cell? ⟨w1.heap.size, 0, none⟩ = some (.slice (some ⟨ge, 0, none⟩) r.E.length c5) ∧ W.cell? ⟨w1.heap.size, 1, none⟩ = some (.slice a6 r.F.length c6) ∧ W.cell? ⟨w1.heap.size, 2, none⟩ = some (.int .i64 (r.U : Int)) ∧ W.cell? ⟨ge, i * 2 + 1, none⟩ = some (.int .i64 x.2)) := fun W hW => ⟨(hW.cell (p := ⟨w1.heap.size, 0, none⟩) hwd).trans k0, (hW.cell (p := ⟨w1.heap.size, 1, none⟩) hwd).trans k1, (hW.cell (p := ⟨w1.heap.size, 2, none⟩) hwd).trans k2, (hW.cell (p := ⟨ge, i * 2 + 1, none⟩) hge).trans d2⟩
          have f1 : decide ((0 : Int) ≤ (i : Int)) = true := by simp
          clear hcells hev hAe1 hx hgx hqx
          have HP := Lib.hid hp
          have HBC := Lib.hid hb
          have z9 := hwr
          clear hp hb hwr hnn hbb
          go_wp2_with fail
          (with_reducible refine (HVAL.out _ HBC.out).mono ?_)
          rintro e w8 ⟨rfl, rfl⟩
          obtain ⟨z0, z1, z2, z3⟩ := HCELL.out wr HBC.out
          go_wp2_with fail
          change Calls _ _ #[refV (.slice (some ⟨ge, 0, none⟩) r.E.length c5) (.slice a6 r.F.length c6) r, _] _ _
          (with_reducible refine (HPL.out _ HBC.out).mono ?_)
          rintro e w8 ⟨rfl, hb8⟩
          have hBEL : Below wd.heap.size wd w8 := below_step (a := wd) HBC.out hb8
          have HBC := Lib.hid hBEL
          clear hb8 hBEL z0 z1 z2 z3
          obtain ⟨z0, z1, z2, z3⟩ := HCELL.out w8 HBC.out
          go_wp2_with fail
          refine wp_region_noPanic ?_
          refine wp_region_held_drew (S := fun w' => w'.cell? ⟨w1.heap.size, 0, none⟩ = some (.slice (some ⟨ge, 0, none⟩) r.E.length c5) ∧ w'.cell? ⟨w1.heap.size, 1, none⟩ = some (.slice a6 r.F.length c6) ∧ w'.cell? ⟨w1.heap.size, 2, none⟩ = some (.int .i64 (r.U : Int)) ∧ w'.cell? ⟨ge, i * 2 + 1, none⟩ = some (.int .i64 x.2)) (by kernel_rfl) ⟨z0, z1, z2, z3⟩ (fun hHeld => ?_)
          clear z0 z1 z2 z3
          refine wpAnyH_take (i := 0) (oi := _) (v := ?_) rfl (by kernel_rfl) (by kernel_rfl) (by kernel_rfl) (fun _ _ _ h => h) (Or.inl ⟨by kernel_rfl, ?_⟩) hHeld ?_
          rotate_left
          · intro w hSw
            obtain ⟨z0, z1, z2, z3⟩ := hSw
            go_simp
            all_goals (with_reducible rfl)
          conv => arg 8; simp only [Act.put, List.setIfInBounds_toArray, List.set_cons_zero, List.set_cons_succ]
          refine wpAnyH_take (i := 1) (oi := _) (v := ?_) rfl (by kernel_rfl) (by kernel_rfl) (by kernel_rfl) (fun _ _ _ h => h) (Or.inl ⟨by kernel_rfl, ?_⟩) hHeld ?_
          rotate_left
          · intro w hSw
            obtain ⟨z0, z1, z2, z3⟩ := hSw
            go_simp
            all_goals (with_reducible rfl)
          conv => arg 8; simp only [Act.put, List.setIfInBounds_toArray, List.set_cons_zero, List.set_cons_succ]
          refine wpAnyH_take (i := 2) (oi := _) (v := ?_) rfl (by kernel_rfl) (by kernel_rfl) (by kernel_rfl) (fun _ _ _ h => h) (Or.inl ⟨by kernel_rfl, ?_⟩) hHeld ?_
          rotate_left
          · intro w hSw
            obtain ⟨z0, z1, z2, z3⟩ := hSw
            go_simp
            all_goals (with_reducible rfl)
          conv => arg 8; simp only [Act.put, List.setIfInBounds_toArray, List.set_cons_zero, List.set_cons_succ]
          refine wpAnyH_take (i := 3) (oi := _) (v := ?_) rfl (by kernel_rfl) (by kernel_rfl) (by kernel_rfl) (fun _ _ _ h => h) (Or.inl ⟨by kernel_rfl, ?_⟩) hHeld ?_
          rotate_left
          · intro w hSw
            obtain ⟨z0, z1, z2, z3⟩ := hSw
            go_simp
            all_goals (with_reducible rfl)
          conv => arg 8; simp only [Act.put, List.setIfInBounds_toArray, List.set_cons_zero, List.set_cons_succ]
          refine wpAnyH_take (i := 4) (oi := _) (v := ?_) rfl (by kernel_rfl) (by kernel_rfl) (by kernel_rfl) (fun _ _ _ h => h) (Or.inl ⟨by kernel_rfl, ?_⟩) hHeld ?_
          rotate_left
          · intro w hSw
            obtain ⟨z0, z1, z2, z3⟩ := hSw
            go_simp
            all_goals (with_reducible rfl)
          conv => arg 8; simp only [Act.put, List.setIfInBounds_toArray, List.set_cons_zero, List.set_cons_succ]
          refine wpAnyH_take (i := 5) (oi := _) (v := ?_) rfl (by kernel_rfl) (by kernel_rfl) (by kernel_rfl) (fun _ _ _ h => h) (Or.inl ⟨by kernel_rfl, ?_⟩) hHeld ?_
          rotate_left
          · intro w hSw
            obtain ⟨z0, z1, z2, z3⟩ := hSw
            go_simp
            all_goals (with_reducible rfl)
          conv => arg 8; simp only [Act.put, List.setIfInBounds_toArray, List.set_cons_zero, List.set_cons_succ]
          refine wpAnyH_take (i := 6) (oi := _) (v := ?_) rfl (by kernel_rfl) (by kernel_rfl) (by kernel_rfl) (fun _ _ _ h => h) (Or.inl ⟨by kernel_rfl, ?_⟩) hHeld ?_
          rotate_left
          · intro w hSw
            obtain ⟨z0, z1, z2, z3⟩ := hSw
            go_simp
            all_goals (with_reducible rfl)
          conv => arg 8; simp only [Act.put, List.setIfInBounds_toArray, List.set_cons_zero, List.set_cons_succ]
          refine wpAnyH_take (i := 7) (oi := _) (v := ?_) rfl (by kernel_rfl) (by kernel_rfl) (by kernel_rfl) (fun _ _ _ h => h) (Or.inl ⟨by kernel_rfl, ?_⟩) hHeld ?_
          rotate_left
          · intro w hSw
            obtain ⟨z0, z1, z2, z3⟩ := hSw
            go_simp
            all_goals (with_reducible rfl)
          conv => arg 8; simp only [Act.put, List.setIfInBounds_toArray, List.set_cons_zero, List.set_cons_succ]
          refine wpAnyH_take (i := 8) (oi := _) (v := ?_) rfl (by kernel_rfl) (by kernel_rfl) (by kernel_rfl) (fun _ _ _ h => h) (Or.inl ⟨by kernel_rfl, ?_⟩) hHeld ?_
          rotate_left
          · intro w hSw
            obtain ⟨z0, z1, z2, z3⟩ := hSw
            go_simp
            all_goals (with_reducible rfl)
          conv => arg 8; simp only [Act.put, List.setIfInBounds_toArray, List.set_cons_zero, List.set_cons_succ]
          refine wpAnyH_take (i := 9) (oi := _) (v := ?_) rfl (by kernel_rfl) (by kernel_rfl) (by kernel_rfl) (fun _ _ _ h => h) (Or.inl ⟨by kernel_rfl, ?_⟩) hHeld ?_
          rotate_left
          · intro w hSw
            obtain ⟨z0, z1, z2, z3⟩ := hSw
            go_simp
            all_goals (with_reducible rfl)
          conv => arg 8; simp only [Act.put, List.setIfInBounds_toArray, List.set_cons_zero, List.set_cons_succ]
          refine wpAnyH_take (i := 10) (oi := _) (v := ?_) rfl (by kernel_rfl) (by kernel_rfl) (by kernel_rfl) (fun _ _ _ h => h) (Or.inl ⟨by kernel_rfl, ?_⟩) hHeld ?_
          rotate_left
          · intro w hSw
            obtain ⟨z0, z1, z2, z3⟩ := hSw
            go_simp
            all_goals (with_reducible rfl)
          conv => arg 8; simp only [Act.put, List.setIfInBounds_toArray, List.set_cons_zero, List.set_cons_succ]
          refine wpAnyH_take (i := 11) (oi := _) (v := ?_) rfl (by kernel_rfl) (by kernel_rfl) (by kernel_rfl) (fun _ _ _ h => h) (Or.inl ⟨by kernel_rfl, ?_⟩) hHeld ?_
          rotate_left
          · intro w hSw
            obtain ⟨z0, z1, z2, z3⟩ := hSw
            go_simp
            all_goals (with_reducible rfl)
          conv => arg 8; simp only [Act.put, List.setIfInBounds_toArray, List.set_cons_zero, List.set_cons_succ]
          refine wpAnyH_take (i := 12) (oi := _) (v := ?_) rfl (by kernel_rfl) (by kernel_rfl) (by kernel_rfl) (fun _ _ _ h => h) (Or.inl ⟨by kernel_rfl, ?_⟩) hHeld ?_
          rotate_left
          · intro w hSw
            obtain ⟨z0, z1, z2, z3⟩ := hSw
            go_simp
            all_goals (with_reducible rfl)
          conv => arg 8; simp only [Act.put, List.setIfInBounds_toArray, List.set_cons_zero, List.set_cons_succ]
          refine wpAnyH_take (i := 13) (oi := _) (v := ?_) rfl (by kernel_rfl) (by kernel_rfl) (by kernel_rfl) (fun _ _ _ h => h) (Or.inl ⟨by kernel_rfl, ?_⟩) hHeld ?_
          rotate_left
          · intro w hSw
            obtain ⟨z0, z1, z2, z3⟩ := hSw
            go_simp
            all_goals (with_reducible rfl)
          conv => arg 8; simp only [Act.put, List.setIfInBounds_toArray, List.set_cons_zero, List.set_cons_succ]
          refine wpAnyH_take (i := 14) (oi := _) (v := ?_) rfl (by kernel_rfl) (by kernel_rfl) (by kernel_rfl) (fun _ _ _ h => h) (Or.inl ⟨by kernel_rfl, ?_⟩) hHeld ?_
          rotate_left
          · intro w hSw
            obtain ⟨z0, z1, z2, z3⟩ := hSw
            go_simp
            all_goals (with_reducible rfl)
          conv => arg 8; simp only [Act.put, List.setIfInBounds_toArray, List.set_cons_zero, List.set_cons_succ]
          refine wpAnyH_take (i := 15) (oi := _) (v := ?_) rfl (by kernel_rfl) (by kernel_rfl) (by kernel_rfl) (fun _ _ _ h => h) (Or.inl ⟨by kernel_rfl, ?_⟩) hHeld ?_
          rotate_left
          · intro w hSw
            obtain ⟨z0, z1, z2, z3⟩ := hSw
            go_simp
            all_goals (with_reducible rfl)
          conv => arg 8; simp only [Act.put, List.setIfInBounds_toArray, List.set_cons_zero, List.set_cons_succ]
          refine wpAnyH_take (i := 16) (oi := _) (v := ?_) rfl (by kernel_rfl) (by kernel_rfl) (by kernel_rfl) (fun _ _ _ h => h) (Or.inl ⟨by kernel_rfl, ?_⟩) hHeld ?_
          rotate_left
          · intro w hSw
            obtain ⟨z0, z1, z2, z3⟩ := hSw
            go_simp
            all_goals (with_reducible rfl)
          conv => arg 8; simp only [Act.put, List.setIfInBounds_toArray, List.set_cons_zero, List.set_cons_succ]
          refine wpAnyH_take (i := 17) (oi := _) (v := ?_) rfl (by kernel_rfl) (by kernel_rfl) (by kernel_rfl) (fun _ _ _ h => h) (Or.inl ⟨by kernel_rfl, ?_⟩) hHeld ?_
          rotate_left
          · intro w hSw
            obtain ⟨z0, z1, z2, z3⟩ := hSw
            go_simp
            all_goals (with_reducible rfl)
          conv => arg 8; simp only [Act.put, List.setIfInBounds_toArray, List.set_cons_zero, List.set_cons_succ]
          refine wpAnyH_take (i := 18) (oi := _) (v := ?_) rfl (by kernel_rfl) (by kernel_rfl) (by kernel_rfl) (fun _ _ _ h => h) (Or.inl ⟨by kernel_rfl, ?_⟩) hHeld ?_
          rotate_left
          · intro w hSw
            obtain ⟨z0, z1, z2, z3⟩ := hSw
            go_simp
            all_goals (with_reducible rfl)
          conv => arg 8; simp only [Act.put, List.setIfInBounds_toArray, List.set_cons_zero, List.set_cons_succ]
          refine wpAnyH_take (i := 19) (oi := _) (v := ?_) rfl (by kernel_rfl) (by kernel_rfl) (by kernel_rfl) (fun _ _ _ h => h) (Or.inl ⟨by kernel_rfl, ?_⟩) hHeld ?_
          rotate_left
          · intro w hSw
            obtain ⟨z0, z1, z2, z3⟩ := hSw
            go_simp
            all_goals (with_reducible rfl)
          conv => arg 8; simp only [Act.put, List.setIfInBounds_toArray, List.set_cons_zero, List.set_cons_succ]
          refine wpAnyH_take (i := 20) (oi := _) (v := ?_) rfl (by kernel_rfl) (by kernel_rfl) (by kernel_rfl) (fun _ _ _ h => h) (Or.inl ⟨by kernel_rfl, ?_⟩) hHeld ?_
          rotate_left
          · intro w hSw
            obtain ⟨z0, z1, z2, z3⟩ := hSw
            go_simp
            all_goals (with_reducible rfl)
          conv => arg 8; simp only [Act.put, List.setIfInBounds_toArray, List.set_cons_zero, List.set_cons_succ]
          refine wpAnyH_take (i := 21) (oi := _) (v := undef) rfl (by kernel_rfl) (by kernel_rfl) (by kernel_rfl) (fun _ _ _ h => h) (Or.inr ⟨by kernel_rfl, rfl⟩) hHeld ?_
          conv => arg 8; simp only [Act.put, List.setIfInBounds_toArray, List.set_cons_zero, List.set_cons_succ]
          refine wpAnyH_take (i := 22) (oi := _) (v := undef) rfl (by kernel_rfl) (by kernel_rfl) (by kernel_rfl) (fun _ _ _ h => h) (Or.inr ⟨by kernel_rfl, rfl⟩) hHeld ?_
          conv => arg 8; simp only [Act.put, List.setIfInBounds_toArray, List.set_cons_zero, List.set_cons_succ]
          refine wpAnyH_take (i := 23) (oi := _) (v := ?_) rfl (by kernel_rfl) (by kernel_rfl) (by kernel_rfl) (fun _ _ _ h => h) (Or.inl ⟨by kernel_rfl, ?_⟩) hHeld ?_
          rotate_left
          · intro w hSw
            obtain ⟨z0, z1, z2, z3⟩ := hSw
            go_simp
            all_goals (with_reducible rfl)
          conv => arg 8; simp only [Act.put, List.setIfInBounds_toArray, List.set_cons_zero, List.set_cons_succ]
          refine wpAnyH_take (i := 24) (oi := _) (v := ?_) rfl (by kernel_rfl) (by kernel_rfl) (by kernel_rfl) (fun _ _ _ h => h) (Or.inl ⟨by kernel_rfl, ?_⟩) hHeld ?_
          rotate_left
          · intro w hSw
            obtain ⟨z0, z1, z2, z3⟩ := hSw
            go_simp
            all_goals (with_reducible rfl)
          conv => arg 8; simp only [Act.put, List.setIfInBounds_toArray, List.set_cons_zero, List.set_cons_succ]
          refine wpAnyH_take (i := 25) (oi := _) (v := ?_) rfl (by kernel_rfl) (by kernel_rfl) (by kernel_rfl) (fun _ _ _ h => h) (Or.inl ⟨by kernel_rfl, ?_⟩) hHeld ?_
          rotate_left
          · intro w hSw
            obtain ⟨z0, z1, z2, z3⟩ := hSw
            go_simp
            all_goals (with_reducible rfl)
          conv => arg 8; simp only [Act.put, List.setIfInBounds_toArray, List.set_cons_zero, List.set_cons_succ]
          refine wpAnyH_take (i := 26) (oi := _) (v := ?_) rfl (by kernel_rfl) (by kernel_rfl) (by kernel_rfl) (fun _ _ _ h => h) (Or.inl ⟨by kernel_rfl, ?_⟩) hHeld ?_
          rotate_left
          · intro w hSw
            obtain ⟨z0, z1, z2, z3⟩ := hSw
            go_simp
            all_goals (with_reducible rfl)
          conv => arg 8; simp only [Act.put, List.setIfInBounds_toArray, List.set_cons_zero, List.set_cons_succ]
          refine wpAnyH_take (i := 27) (oi := _) (v := ?_) rfl (by kernel_rfl) (by kernel_rfl) (by kernel_rfl) (fun _ _ _ h => h) (Or.inl ⟨by kernel_rfl, ?_⟩) hHeld ?_
          rotate_left
          · intro w hSw
            obtain ⟨z0, z1, z2, z3⟩ := hSw
            go_simp
            all_goals (with_reducible rfl)
          conv => arg 8; simp only [Act.put, List.setIfInBounds_toArray, List.set_cons_zero, List.set_cons_succ]
          refine wpAnyH_take (i := 29) (oi := _) (v := ?_) rfl (by kernel_rfl) (by kernel_rfl) (by kernel_rfl) (fun _ _ _ h => h) (Or.inl ⟨by kernel_rfl, ?_⟩) hHeld ?_
          rotate_left
          · intro w hSw
            obtain ⟨z0, z1, z2, z3⟩ := hSw
            go_simp
            all_goals (with_reducible rfl)
          conv => arg 8; simp only [Act.put, List.setIfInBounds_toArray, List.set_cons_zero, List.set_cons_succ]
          refine wpAnyH_take (i := 30) (oi := ⟨some 91, _, _, _, _, _⟩) (v := ?_) rfl (by kernel_rfl) (by kernel_rfl) (by kernel_rfl) (fun _ _ _ h => h) (Or.inl ⟨by kernel_rfl, ?_⟩) hHeld ?_
          rotate_left
          · intro w hSw
            obtain ⟨z0, z1, z2, z3⟩ := hSw
            go_simp
            all_goals (with_reducible rfl)
          conv => arg 8; simp only [Act.put, List.setIfInBounds_toArray, List.set_cons_zero, List.set_cons_succ]
          refine wpAnyH_ready (rs := [28]) (by kernel_rfl) (by simp) ?_
          refine AllReadyH.cons (o := _) rfl (fun K hK => ?_) AllReadyH.nil
          go_simp
          go_at_call 27
          (with_reducible refine (HNX.out _ ?_).mono ?_)
          · repeat (first | (with_reducible exact HBC.out) | (with_reducible refine belowDrew2 ?_) | (with_reducible refine below_dn ?_ _) | (with_reducible refine below_al ?_ _))
          rintro e w9 ⟨rfl, rfl⟩
          refine hK.out _ _ (HCELL.out _ (by repeat (first | (with_reducible exact HBC.out) | (with_reducible refine belowDrew2 ?_) | (with_reducible refine below_dn ?_ _) | (with_reducible refine below_al ?_ _)))) (fun hHeld => ?_)
          clear hK K
          conv => arg 8; simp only [Act.put, List.setIfInBounds_toArray, List.set_cons_zero, List.set_cons_succ]
          refine wpAnyH_ready (rs := [31]) (by kernel_rfl) (by simp) ?_
          refine AllReadyH.cons (o := ⟨some 92, _, _, _, _, _⟩) rfl (fun K hK => ?_) AllReadyH.nil
          go_simp
          go_at_call 28
          change Calls _ _ #[refV (.slice (some ⟨ge, 0, none⟩) r.E.length c5) (.slice a6 r.F.length c6) r, _, _] _ _
          (with_reducible refine (HRN.out _ ?_).mono ?_)
          · repeat (first | (with_reducible exact HBC.out) | (with_reducible refine belowDrew2 ?_) | (with_reducible refine below_dn ?_ _) | (with_reducible refine below_al ?_ _))
          rintro e w8 ⟨rfl, hb8⟩
          have hBEL : Below wd.heap.size wd w8 := below_step (a := wd) (by repeat (first | (with_reducible exact HBC.out) | (with_reducible refine belowDrew2 ?_) | (with_reducible refine below_dn ?_ _) | (with_reducible refine below_al ?_ _))) hb8
          have HBC := Lib.hid hBEL
          clear hb8 hBEL
          refine hK.out _ _ (HCELL.out _ HBC.out) (fun hHeld => ?_)
          clear hK K
          conv => arg 8; simp only [Act.put, List.setIfInBounds_toArray, List.set_cons_zero, List.set_cons_succ]
          refine wpAnyH_take (i := 32) (oi := ⟨some 93, _, _, _, _, _⟩) (v := ?_) rfl (by kernel_rfl) (by kernel_rfl) (by kernel_rfl) (fun _ _ _ h => h) (Or.inl ⟨by kernel_rfl, ?_⟩) hHeld ?_
          rotate_left
          · intro w hSw
            obtain ⟨z0, z1, z2, z3⟩ := hSw
            go_simp
            all_goals (with_reducible rfl)
          conv => arg 8; simp only [Act.put, List.setIfInBounds_toArray, List.set_cons_zero, List.set_cons_succ]
          refine wpAnyH_take (i := 33) (oi := ⟨some 94, _, _, _, _, _⟩) (v := ?_) rfl (by kernel_rfl) (by kernel_rfl) (by kernel_rfl) (fun _ _ _ h => h) (Or.inl ⟨by kernel_rfl, ?_⟩) hHeld ?_
          rotate_left
          · intro w hSw
            obtain ⟨z0, z1, z2, z3⟩ := hSw
            go_simp
            all_goals (with_reducible rfl)
          conv => arg 8; simp only [Act.put, List.setIfInBounds_toArray, List.set_cons_zero, List.set_cons_succ]
          refine wpAnyH_take (i := 34) (oi := ⟨some 95, _, _, _, _, _⟩) (v := ?_) rfl (by kernel_rfl) (by kernel_rfl) (by kernel_rfl) (fun _ _ _ h => h) (Or.inl ⟨by kernel_rfl, ?_⟩) hHeld ?_
          rotate_left
          · intro w hSw
            obtain ⟨z0, z1, z2, z3⟩ := hSw
            go_simp
            all_goals (with_reducible rfl)
          conv => arg 8; simp only [Act.put, List.setIfInBounds_toArray, List.set_cons_zero, List.set_cons_succ]
          refine wpAnyH_take (i := 35) (oi := ⟨some 96, _, _, _, _, _⟩) (v := ?_) rfl (by kernel_rfl) (by kernel_rfl) (by kernel_rfl) (fun _ _ _ h => h) (Or.inl ⟨by kernel_rfl, ?_⟩) hHeld ?_
          rotate_left
          · intro w hSw
            obtain ⟨z0, z1, z2, z3⟩ := hSw
            go_simp
            all_goals (with_reducible rfl)
          conv => arg 8; simp only [Act.put, List.setIfInBounds_toArray, List.set_cons_zero, List.set_cons_succ]
          refine wpAnyH_take (i := 36) (oi := ⟨some 97, _, _, _, _, _⟩) (v := ?_) rfl (by kernel_rfl) (by kernel_rfl) (by kernel_rfl) (fun _ _ _ h => h) (Or.inl ⟨by kernel_rfl, ?_⟩) hHeld ?_
          rotate_left
          · intro w hSw
            obtain ⟨z0, z1, z2, z3⟩ := hSw
            go_simp
            all_goals (with_reducible rfl)
          conv => arg 8; simp only [Act.put, List.setIfInBounds_toArray, List.set_cons_zero, List.set_cons_succ]
          refine wpAnyH_take (i := 38) (oi := ⟨some 99, _, _, _, _, _⟩) (v := ?_) rfl (by kernel_rfl) (by kernel_rfl) (by kernel_rfl) (fun _ _ _ h => h) (Or.inl ⟨by kernel_rfl, ?_⟩) hHeld ?_
          rotate_left
          · intro w hSw
            obtain ⟨z0, z1, z2, z3⟩ := hSw
            go_simp
            all_goals (with_reducible rfl)
          conv => arg 8; simp only [Act.put, List.setIfInBounds_toArray, List.set_cons_zero, List.set_cons_succ]
          refine wpAnyH_take (i := 39) (oi := ⟨some 100, _, _, _, _, _⟩) (v := ?_) rfl (by kernel_rfl) (by kernel_rfl) (by kernel_rfl) (fun _ _ _ h => h) (Or.inl ⟨by kernel_rfl, ?_⟩) hHeld ?_
          rotate_left
          · intro w hSw
            obtain ⟨z0, z1, z2, z3⟩ := hSw
            go_simp
            all_goals (with_reducible rfl)
          conv => arg 8; simp only [Act.put, List.setIfInBounds_toArray, List.set_cons_zero, List.set_cons_succ]
          refine wpAnyH_ready (rs := [37]) (by kernel_rfl) (by simp) ?_
          refine AllReadyH.cons (o := ⟨some 98, _, _, _, _, _⟩) rfl (fun K hK => ?_) AllReadyH.nil
          go_simp
          go_at_call 29
          (with_reducible refine (HPV.out _ ?_).mono ?_)
          · repeat (first | (with_reducible exact HBC.out) | (with_reducible refine belowDrew2 ?_) | (with_reducible refine below_dn ?_ _) | (with_reducible refine below_al ?_ _))
          rintro e w9 ⟨rfl, rfl⟩
          refine hK.out _ _ (HCELL.out _ (by repeat (first | (with_reducible exact HBC.out) | (with_reducible refine belowDrew2 ?_) | (with_reducible refine below_dn ?_ _) | (with_reducible refine below_al ?_ _)))) (fun hHeld => ?_)
          clear hK K
          conv => arg 8; simp only [Act.put, List.setIfInBounds_toArray, List.set_cons_zero, List.set_cons_succ]
          refine wpAnyH_ready (rs := [40]) (by kernel_rfl) (by simp) ?_
          refine AllReadyH.cons (o := ⟨some 101, _, _, _, _, _⟩) rfl (fun K hK => ?_) AllReadyH.nil
          go_simp
          go_at_call 28
          change Calls _ _ #[refV (.slice (some ⟨ge, 0, none⟩) r.E.length c5) (.slice a6 r.F.length c6) r, _, _] _ _
          (with_reducible refine (HRP.out _ ?_).mono ?_)
          · repeat (first | (with_reducible exact HBC.out) | (with_reducible refine belowDrew2 ?_) | (with_reducible refine below_dn ?_ _) | (with_reducible refine below_al ?_ _))
          rintro e w8 ⟨rfl, hb8⟩
          have hBEL : Below wd.heap.size wd w8 := below_step (a := wd) (by repeat (first | (with_reducible exact HBC.out) | (with_reducible refine belowDrew2 ?_) | (with_reducible refine below_dn ?_ _) | (with_reducible refine below_al ?_ _))) hb8
          have HBC := Lib.hid hBEL
          clear hb8 hBEL
          refine hK.out _ _ (HCELL.out _ HBC.out) (fun hHeld => ?_)
          clear hK K
          conv => arg 8; simp only [Act.put, List.setIfInBounds_toArray, List.set_cons_zero, List.set_cons_succ]
          refine wpAnyH_take (i := 41) (oi := ⟨some 102, _, _, _, _, _⟩) (v := ?_) rfl (by kernel_rfl) (by kernel_rfl) (by kernel_rfl) (fun _ _ _ h => h) (Or.inl ⟨by kernel_rfl, ?_⟩) hHeld ?_
          rotate_left
          · intro w hSw
            obtain ⟨z0, z1, z2, z3⟩ := hSw
            go_simp
            all_goals (with_reducible rfl)
          conv => arg 8; simp only [Act.put, List.setIfInBounds_toArray, List.set_cons_zero, List.set_cons_succ]
          refine wpAnyH_take (i := 42) (oi := ⟨some 103, _, _, _, _, _⟩) (v := ?_) rfl (by kernel_rfl) (by kernel_rfl) (by kernel_rfl) (fun _ _ _ h => h) (Or.inl ⟨by kernel_rfl, ?_⟩) hHeld ?_
          rotate_left
          · intro w hSw
            obtain ⟨z0, z1, z2, z3⟩ := hSw
            go_simp
            all_goals (with_reducible rfl)
          conv => arg 8; simp only [Act.put, List.setIfInBounds_toArray, List.set_cons_zero, List.set_cons_succ]
          refine wpAnyH_done (by kernel_rfl) ?_ _
          refine NoPanic.normal ?_
          go_wp2_with fail
          all_goals (exact ⟨⟨k + 1, by omega, by go_num, HBC.out⟩, by simp [intOf]; omega⟩)
      · have hge' : ¬ ((k : Int) < 9) := by omega
        have HBR := Lib.hid hb
        clear hb
        go_wp2_with fail
        refine (known_any _).mono ?_
        rintro e w9 ⟨rfl, hb9⟩
        have HB9 := Lib.hid (HBB2.out.trans ((HBR.out.trans (hb9.mono HBR.out.size)).mono HBB2.out.size))
        clear hb9
        go_wp2_with fail
        go_ret
        exact ⟨rfl, HB9.out⟩
end Go.Proofs.Ytlkpdmblhejnhaa
