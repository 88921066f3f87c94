/- The record at the beginning of a log: first and record. -/
import Derived.Test.YtjiiaepmdlempaaJourB
import Derived.Test.YtjiiaepmdlempaaOr4
import Derived.Deep.QuietTactic
import Derived.BigQuiet
namespace Go.Proofs.Ytjiiaepmdlempaa
open Go.RowKit
set_option linter.unusedVariables false
open ShaW Sha

theorem keyV_size (k : Nat → UInt8) : (bytesOf 32 k).toArray.size = 32 := by simp only [List.size_toArray]; exact bytesOf_length _ _
theorem keyV_one (k : Nat → UInt8) : (bytesOf 32 k).toArray.all (·.oneCell') = true := all_one _ (bytesOf_one _ _)
theorem sumOk_eqN (m : Nat) (f : Nat → UInt8) : sumOk m f = eqN 4 (sha m (from_ 8 f)) (fun j => f (4 + j)) := rfl
theorem recAt_none1 {n : Nat} {f : Nat → UInt8} (h : 2097152 < be32 f ∨ n - 8 < be32 f) : recAt n f = none := by
  unfold recAt
  by_cases h0 : n < 8
  · rw [if_pos h0]
  rw [if_neg h0]
  by_cases h1 : 2097152 < be32 f
  · rw [if_pos h1]
  rw [if_neg h1, if_pos (by omega)]
theorem recAt_eq {n : Nat} {f : Nat → UInt8} (h0 : 8 ≤ n) (h1 : be32 f ≤ 2097152) (h2 : be32 f ≤ n - 8) : recAt n f = if sumOk (be32 f) f = true then some (be32 f) else none := by
  unfold recAt
  rw [if_neg (by omega), if_neg (by omega), if_neg (by omega)]

/-- what first returns -/
def firstLen (n : Nat) (f : Nat → UInt8) : Int := match recAt n f with | none => 0 | some m => ((8 + m : Nat) : Int)
theorem firstLen_none {n : Nat} {f : Nat → UInt8} (h : recAt n f = none) : firstLen n f = 0 := by unfold firstLen; rw [h]
theorem firstLen_some {n m : Nat} {f : Nat → UInt8} (h : recAt n f = some m) : firstLen n f = ((8 + m : Nat) : Int) := by unfold firstLen; rw [h]

set_option maxRecDepth 100000 in
theorem first_short (w : World) (A : Option Addr) (c n : Nat) (h8 : n < 8) :
    Calls Try.prog 21 #[.slice A n c] w fun e w' => e = .returned (.int .i64 0) ∧ w = w' := by
  have hi8 : (n : Int) < 8 := by omega
  go_enter Try.func21, Try.ntmps21
  go_wp2_with fail
  go_ret
  exact ⟨rfl, rfl⟩

set_option maxRecDepth 100000 in
set_option maxHeartbeats 1000000 in
theorem first_any (w : World) (b o c n : Nat) (f : Nat → UInt8) (hn : n ≤ 1099511627776) (hnc : n ≤ c) (hc : ∀ j, j < n → w.cell? ⟨b, o + j, none⟩ = some (.int .u8 ((f j).toNat : Int))) (h8 : 8 ≤ n) :
    Calls Try.prog 21 #[.slice (some ⟨b, o, none⟩) n c] w fun e w' => e = .returned (.int .i64 (firstLen n f)) ∧ Below w.heap.size w w' := by
  have y0 := hc 0 (by omega)
  have y1 := hc 1 (by omega)
  have y2 := hc 2 (by omega)
  have y3 := hc 3 (by omega)
  rw [Nat.add_zero] at y0
  have HC := Lib.hid hc
  clear hc
  have hi0 : (0 : Int) < n := by omega
  have hi1 : (1 : Int) < n := by omega
  have hi2 : (2 : Int) < n := by omega
  have hi3 : (3 : Int) < n := by omega
  have l0 := (f 0).toNat_lt
  have l1 := (f 1).toNat_lt
  have l2 := (f 2).toNat_lt
  have l3 := (f 3).toNat_lt
  have hi8 : ¬ (n : Int) < 8 := by omega
  go_enter Try.func21, Try.ntmps21
  go_wp2_with fail
  go_quiet (fail)
  rw [or4 f]
  clear y0 y1 y2 y3 hi0 hi1 hi2 hi3 l0 l1 l2 l3
  obtain ⟨M, hM⟩ : ∃ M, be32 f = M := ⟨_, rfl⟩
  have hMlt : M < 4294967296 := by rw [← hM]; exact be32_lt f
  have HM := Lib.hid hM
  rw [hM]
  clear hM
  have hb0 : Below w.heap.size w (w.drewN nq) := below_drewN (Below.refl _ _) _
  by_cases hbig : 2097152 < M
  · have hno := Lib.hid (recAt_none1 (n := n) (f := f) (.inl (by rw [HM.out]; exact hbig)))
    have hbi : (2097152 : Int) < M := by omega
    go_wp2_with fail
    go_ret
    rw [firstLen_none hno.out]
    exact ⟨rfl, hb0⟩
  · have hbi : ¬ (2097152 : Int) < M := by omega
    by_cases hlong : n - 8 < M
    · have hno := Lib.hid (recAt_none1 (n := n) (f := f) (.inr (by rw [HM.out]; exact hlong)))
      have hlo : (n : Int) - 8 < M := by omega
      go_wp2_with fail
      go_ret
      rw [firstLen_none hno.out]
      exact ⟨rfl, hb0⟩
    · have hlo : ¬ (n : Int) - 8 < M := by omega
      have hyes := recAt_eq h8 (by rw [HM.out]; omega) (by rw [HM.out]; omega)
      rw [HM.out, sumOk_eqN] at hyes
      have HY := Lib.hid hyes
      clear hyes
      have q0 : IntKind.i64.wrap (8 + (M : Int)) = 8 + M := IntWalk.i64_in _ (by omega)
      have q1 : (8 + (M : Int)).toNat - 8 = M := by omega
      have q2 : (8 + (M : Int)) ≤ c := by omega
      have hrd : c ≠ 8 → Reads (w.drewN nq) (w.drewN nq).heap.size 1 (some ⟨b, o + 8, none⟩) M (bytesOf M (from_ 8 f)) := by
        intro hc8
        refine Reads.flat (o := o + 8) (fun h => ⟨rfl, World.block_lt_of_cell? w _ (HC.out 0 (by omega))⟩) (fun j hj => ?_)
        rw [Nat.add_assoc]
        exact HC.out (8 + j) (by omega)
      have HRD := Lib.hid hrd
      have HB0 := Lib.hid hb0
      clear hrd hb0 hbig hMlt
      go_wp2_with fail
      all_goals
        refine (sum_any _ _ M _ (from_ 8 f) (by first | exact HRD.out (by assumption) | exact Reads.flat (g := b) (o := o) (fun h => absurd h (by omega)) (fun j hj => absurd hj (by omega))) (by omega)).mono ?_
        rintro e w1 ⟨rfl, hb1⟩
        obtain ⟨kk, hkk⟩ : ∃ k, sha M (from_ 8 f) = k := ⟨_, rfl⟩
        rw [hkk]
        have HKK := Lib.hid hkk
        clear hkk
        have HB1 := Lib.hid (HB0.out.trans (hb1.mono HB0.out.size))
        clear hb1
        go_wp2_with (refine wpList_store_rowTo rfl 41 (.tmp 4) (.tmp 43) rfl rfl w1.heap.size (bytesOf 32 kk).toArray rfl rfl _ _ (heap_alloc_new _ _) (by rw [keyV_size]; kernel_rfl) (by rw [keyV_size]; kernel_rfl) (keyV_one _) ?_)
        generalize hwa : World.setRow _ _ _ = wa
        have hba : Below w.heap.size w wa := by
          rw [← hwa]
          exact below_setRow (HB1.out.alloc HB1.out.size _) (HB1.out.size) _
        have hra : Blk wa w1.heap.size 41 (bytesOf 32 kk).toArray := by
          rw [← hwa]
          exact setRow_same _ _ _ _ _ (heap_alloc_new _ _)
        clear hwa
        have heq : ∀ W c4, Below wa.heap.size wa W → Calls Try.prog 29 #[.slice (some ⟨w1.heap.size, 0, none⟩) 4 32, .slice (some ⟨b, o + 4, none⟩) 4 c4] W fun e w' => e = .returned (.bool (eqN 4 kk (fun j => f (4 + j)))) ∧ Below W.heap.size W w' := by
          intro W c4 hW
          refine equal_any W _ 0 _ _ (o + 4) _ 4 kk _ (by omega) (fun j hj => ?_) (fun j hj => ?_)
          · rw [Nat.zero_add, (hra.below hW hra.lt).cell]
            exact List.getElem?_toArray.trans (bytesOf_get kk (by omega))
          · rw [Nat.add_assoc]
            have h0 := HC.out (4 + j) (by omega)
            exact ((hba.trans (hW.mono hba.size)).cell (p := ⟨b, o + (4 + j), none⟩) (World.block_lt_of_cell? w _ h0)).trans h0
        obtain ⟨bb, hbb⟩ : ∃ bb, eqN 4 kk (fun j => f (4 + j)) = bb := ⟨_, rfl⟩
        rw [hbb] at heq
        have HEQ := Lib.hid heq
        have HBA := Lib.hid hba
        have hyes := HY.out
        rw [HKK.out, hbb] at hyes
        have HYS := Lib.hid hyes
        have q4 : (8 : Int) ≤ c := by omega
        have q5 : ¬ c = 4 := by omega
        have heq1 := fun c4 => heq wa.drew c4 (belowDrew (Below.refl _ _))
        have HEQ1 := Lib.hid heq1
        clear heq hba hra hbb hyes HY heq1 HEQ
        go_wp2_with fail
        go_region_law (go_simp; go_at_call 29; refine (HEQ1.out _).mono ?_; rintro e w2 ⟨rfl, hb2⟩)
        all_goals
          have HB2 := Lib.hid (HBA.out.trans (Below.mono (⟨hb2.os, hb2.tape, hb2.output, hb2.size, hb2.block⟩ : Below wa.heap.size wa w2) HBA.out.size))
          clear hb2
          cases bb with
          | true =>
            go_wp2_with fail
            go_ret
            rw [firstLen_some (HYS.out.trans (if_pos (by trivial)))]
            exact ⟨by first | rfl | (push_cast; rfl), HB2.out⟩
          | false =>
            go_wp2_with fail
            go_ret
            rw [firstLen_none (HYS.out.trans (if_neg (by simp)))]
            exact ⟨rfl, HB2.out⟩
/-- what record returns -/
def RecV (n c b o : Nat) (f : Nat → UInt8) (v : Value) (ok : Bool) : Prop :=
  match recAt n f with
  | none => ok = false
  | some m => ok = true ∧ ∃ A c', v = .slice A m c' ∧ (0 < m → A = some ⟨b, o + 8, none⟩)
def RecPost (n c b o : Nat) (f : Nat → UInt8) (e : Ending) : Prop := ∃ v ok, e = .returned (.tuple #[v, .bool ok]) ∧ RecV n c b o f v ok
theorem RecPost.mk_ {n c b o : Nat} {f : Nat → UInt8} {v : Value} {ok : Bool} (h : RecV n c b o f v ok) : RecPost n c b o f (.returned (.tuple #[v, .bool ok])) := ⟨_, _, rfl, h⟩
theorem RecV.no {n c b o : Nat} {f : Nat → UInt8} {v : Value} (h : recAt n f = none) : RecV n c b o f v false := by unfold RecV; rw [h]
theorem RecV.yes {n c b o m c' : Nat} {f : Nat → UInt8} {A : Option Addr} (h : recAt n f = some m) (hA : 0 < m → A = some ⟨b, o + 8, none⟩) : RecV n c b o f (.slice A m c') true := by unfold RecV; rw [h]; exact ⟨rfl, A, c', rfl, hA⟩
set_option maxRecDepth 100000 in
theorem record_short (w : World) (A : Option Addr) (c n b o : Nat) (f : Nat → UInt8) (h8 : n < 8) :
    Calls Try.prog 23 #[.slice A n c] w fun e w' => RecPost n c b o f e ∧ Below w.heap.size w w' := by
  have hi8 : (n : Int) < 8 := by omega
  go_enter Try.func23, Try.ntmps23
  go_wp2_with fail
  go_ret2
  exact ⟨RecPost.mk_ (RecV.no (by unfold recAt; rw [if_pos h8])), Below.refl _ _⟩

set_option maxRecDepth 100000 in
set_option maxHeartbeats 1000000 in
theorem record_any (w : World) (b o c n : Nat) (f : Nat → UInt8) (hn : n ≤ 1099511627776) (hnc : n ≤ c) (hc : ∀ j, j < n → w.cell? ⟨b, o + j, none⟩ = some (.int .u8 ((f j).toNat : Int))) (h8 : 8 ≤ n) :
    Calls Try.prog 23 #[.slice (some ⟨b, o, none⟩) n c] w fun e w' => RecPost n c b o f e ∧ Below w.heap.size w w' := by
  have y0 := hc 0 (by omega)
  have y1 := hc 1 (by omega)
  have y2 := hc 2 (by omega)
  have y3 := hc 3 (by omega)
  rw [Nat.add_zero] at y0
  have HC := Lib.hid hc
  clear hc
  have hi0 : (0 : Int) < n := by omega
  have hi1 : (1 : Int) < n := by omega
  have hi2 : (2 : Int) < n := by omega
  have hi3 : (3 : Int) < n := by omega
  have l0 := (f 0).toNat_lt
  have l1 := (f 1).toNat_lt
  have l2 := (f 2).toNat_lt
  have l3 := (f 3).toNat_lt
  have hi8 : ¬ (n : Int) < 8 := by omega
  go_enter Try.func23, Try.ntmps23
  go_wp2_with fail
  go_quiet (fail)
  rw [or4 f]
  clear y0 y1 y2 y3 hi0 hi1 hi2 hi3 l0 l1 l2 l3
  obtain ⟨M, hM⟩ : ∃ M, be32 f = M := ⟨_, rfl⟩
  have hMlt : M < 4294967296 := by rw [← hM]; exact be32_lt f
  have HM := Lib.hid hM
  rw [hM]
  clear hM
  have hb0 : Below w.heap.size w (w.drewN nq) := below_drewN (Below.refl _ _) _
  by_cases hbig : 2097152 < M
  · have hno := Lib.hid (recAt_none1 (n := n) (f := f) (.inl (by rw [HM.out]; exact hbig)))
    have hbi : (2097152 : Int) < M := by omega
    go_wp2_with fail
    go_ret2
    exact ⟨RecPost.mk_ (RecV.no hno.out), hb0⟩
  · have hbi : ¬ (2097152 : Int) < M := by omega
    by_cases hlong : n - 8 < M
    · have hno := Lib.hid (recAt_none1 (n := n) (f := f) (.inr (by rw [HM.out]; exact hlong)))
      have hlo : (n : Int) - 8 < M := by omega
      go_wp2_with fail
      go_ret2
      exact ⟨RecPost.mk_ (RecV.no hno.out), hb0⟩
    · have hlo : ¬ (n : Int) - 8 < M := by omega
      have hyes := recAt_eq h8 (by rw [HM.out]; omega) (by rw [HM.out]; omega)
      rw [HM.out, sumOk_eqN] at hyes
      have HY := Lib.hid hyes
      clear hyes
      have q0 : IntKind.i64.wrap (8 + (M : Int)) = 8 + M := IntWalk.i64_in _ (by omega)
      have q1 : (8 + (M : Int)).toNat - 8 = M := by omega
      have q2 : (8 + (M : Int)) ≤ c := by omega
      have hrd : c ≠ 8 → Reads (w.drewN nq) (w.drewN nq).heap.size 1 (some ⟨b, o + 8, none⟩) M (bytesOf M (from_ 8 f)) := by
        intro hc8
        refine Reads.flat (o := o + 8) (fun h => ⟨rfl, World.block_lt_of_cell? w _ (HC.out 0 (by omega))⟩) (fun j hj => ?_)
        rw [Nat.add_assoc]
        exact HC.out (8 + j) (by omega)
      have HRD := Lib.hid hrd
      have HB0 := Lib.hid hb0
      clear hrd hb0 hbig hMlt
      go_wp2_with fail
      all_goals
        refine (rsha_any _ _ M _ (from_ 8 f) (by first | exact HRD.out (by assumption) | exact Reads.flat (g := b) (o := o) (fun h => absurd h (by omega)) (fun j hj => absurd hj (by omega))) (by omega)).mono ?_
        rintro e w1 ⟨rfl, hb1⟩
        obtain ⟨kk, hkk⟩ : ∃ k, sha M (from_ 8 f) = k := ⟨_, rfl⟩
        rw [hkk]
        have HKK := Lib.hid hkk
        clear hkk
        have HB1 := Lib.hid (HB0.out.trans (hb1.mono HB0.out.size))
        clear hb1
        go_wp2_with (refine wpList_store_rowTo rfl 41 (.tmp 5) (.tmp 44) rfl rfl w1.heap.size (bytesOf 32 kk).toArray rfl rfl _ _ (heap_alloc_new _ _) (by rw [keyV_size]; kernel_rfl) (by rw [keyV_size]; kernel_rfl) (keyV_one _) ?_)
        generalize hwa : World.setRow _ _ _ = wa
        have hba : Below w.heap.size w wa := by
          rw [← hwa]
          exact below_setRow (HB1.out.alloc HB1.out.size _) (HB1.out.size) _
        have hra : Blk wa w1.heap.size 41 (bytesOf 32 kk).toArray := by
          rw [← hwa]
          exact setRow_same _ _ _ _ _ (heap_alloc_new _ _)
        clear hwa
        have heq : ∀ W c4, Below wa.heap.size wa W → Calls Try.prog 12 #[.slice (some ⟨w1.heap.size, 0, none⟩) 4 32, .slice (some ⟨b, o + 4, none⟩) 4 c4] W fun e w' => e = .returned (.bool (eqN 4 kk (fun j => f (4 + j)))) ∧ W = w' := by
          intro W c4 hW
          refine samegen_any W _ 0 _ _ (o + 4) _ 4 kk _ (fun j hj => ?_) (fun j hj => ?_)
          · rw [Nat.zero_add, (hra.below hW hra.lt).cell]
            exact List.getElem?_toArray.trans (bytesOf_get kk (by omega))
          · rw [Nat.add_assoc]
            have h0 := HC.out (4 + j) (by omega)
            exact ((hba.trans (hW.mono hba.size)).cell (p := ⟨b, o + (4 + j), none⟩) (World.block_lt_of_cell? w _ h0)).trans h0
        obtain ⟨bb, hbb⟩ : ∃ bb, eqN 4 kk (fun j => f (4 + j)) = bb := ⟨_, rfl⟩
        rw [hbb] at heq
        have HEQ := Lib.hid heq
        have HBA := Lib.hid hba
        have hyes := HY.out
        rw [HKK.out, hbb] at hyes
        have HYS := Lib.hid hyes
        have q4 : (8 : Int) ≤ c := by omega
        have q5 : ¬ c = 4 := by omega
        try (have q6 : 8 + (M : Int) ≤ 8 := by omega)
        have q7 : 8 ≤ max (8 + (M : Int)) 0 := by omega
        have q8 : 0 ≤ 8 + (M : Int) := by omega
        have heq1 := fun c4 => heq wa.drew c4 (belowDrew (Below.refl _ _))
        have HEQ1 := Lib.hid heq1
        clear heq hba hra hbb hyes HY heq1 HEQ
        go_wp2_with fail
        go_region_law (go_simp; go_at_call 12; refine (HEQ1.out _).mono ?_; rintro e w2 ⟨rfl, rfl⟩)
        all_goals
          have HB2 := Lib.hid (belowDrew HBA.out)
          cases bb with
          | true =>
            go_wp2_with fail
            go_ret2
            exact ⟨RecPost.mk_ (RecV.yes (HYS.out.trans (if_pos (by trivial))) (fun h => by first | rfl | (exfalso; omega))), HB2.out⟩
          | false =>
            go_wp2_with fail
            go_ret2
            exact ⟨RecPost.mk_ (RecV.no (HYS.out.trans (if_neg (by simp)))), HB2.out⟩
end Go.Proofs.Ytjiiaepmdlempaa
