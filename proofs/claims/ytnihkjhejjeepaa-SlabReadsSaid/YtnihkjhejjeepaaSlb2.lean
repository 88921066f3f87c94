/- The store of entries: has, Remove. -/
import Derived.Test.YtnihkjhejjeepaaSlb1
import Derived.Deep.QuietTactic
import Derived.BigQuiet
namespace Go.Proofs.Ytnihkjhejjeepaa
open Go.RowKit
set_option linter.unusedVariables false
set_option linter.unusedSimpArgs false
open ShaW Sha

/-- a handle is valid -/
def hasS (L : List SRow) (s u : Int) : Bool := decide (0 ≤ s) && (match L[s.toNat]? with | some r => r.s.full && decide ((r.s.use : Int) = u) | none => false)
abbrev hdl (s u : Int) : Value := .agg #[.int .i64 s, .int .i64 u]
theorem hasS_some {L : List SRow} {s u : Int} (h : hasS L s u = true) : ∃ i r, s = ((i : Nat) : Int) ∧ L[i]? = some r ∧ r.s.full = true ∧ (r.s.use : Int) = u := by
  unfold hasS at h
  simp only [Bool.and_eq_true, decide_eq_true_eq] at h
  obtain ⟨h1, h2⟩ := h
  cases hr : L[s.toNat]? with
  | none => rw [hr] at h2; cases h2
  | some r =>
    rw [hr] at h2
    simp only [Bool.and_eq_true, decide_eq_true_eq] at h2
    exact ⟨s.toNat, r, by omega, hr, h2.1, h2.2⟩
theorem hasS_at {L : List SRow} {i : Nat} {r : SRow} (h : L[i]? = some r) (u : Int) : hasS L (i : Int) u = (r.s.full && decide ((r.s.use : Int) = u)) := by
  unfold hasS
  rw [Int.toNat_natCast, h]
  simp
theorem hasS_none {L : List SRow} {s u : Int} (h : s < 0 ∨ (L.length : Int) ≤ s) : hasS L s u = false := by
  unfold hasS
  by_cases h0 : 0 ≤ s
  · rw [List.getElem?_eq_none (by omega)]
    simp
  · simp [h0]
set_option maxRecDepth 100000 in
set_option maxHeartbeats 4000000 in
theorem shas_any (w : World) (B C most : Nat) (L : List SRow) (sv : Value) (size : Nat) (free : Int) (h : SlAt w B C most L sv size free) (hl : L.length ≤ 1048576) (s u : Int) :
    Calls Try.prog 33 #[.pointer (some ⟨C, 0, none⟩), hdl s u] w fun e w' => e = .returned (.bool (hasS L s u)) ∧ Below w.heap.size w w' := by
  have HS := Lib.hid h
  obtain ⟨A, c, hsv⟩ := own_form h.row
  have x2 : w.cell? ⟨C, 2, none⟩ = some (.slice A L.length c) := by rw [← hsv]; exact h.blk.cell 2
  have hCl := h.blk.lt
  obtain ⟨b, hb⟩ : ∃ b, hasS L s u = b := ⟨_, rfl⟩
  rw [hb]
  have HBB := Lib.hid hb
  obtain ⟨n, hn⟩ : ∃ n, L.length = n := ⟨_, rfl⟩
  have HSV := Lib.hid hsv
  have HN := Lib.hid hn
  rw [hn] at x2 hl
  clear h hb hsv hn
  by_cases hs0 : s < 0
  · have hbf : b = false := by rw [← HBB.out]; exact hasS_none (.inl hs0)
    subst hbf
    have t1 : decide (0 ≤ s) = false := by simp; omega
    have t2 : ¬ 0 ≤ s := by omega
    go_enter Try.func33, Try.ntmps33
    go_upto_region 1 with (fail)
    generalize hwa : World.alloc w _ = wa
    have hb0 : Below w.heap.size w wa := by rw [← hwa]; exact (Below.refl _ _).alloc (Nat.le_refl _) _
    have hk : Blk wa w.heap.size 43 #[.int .i64 s, .int .i64 u] := by rw [← hwa]; exact Blk.new _ _ _
    have k0 := hk.cell 0
    have k1 := hk.cell 1
    simp at k0 k1
    have HB0 := Lib.hid hb0
    clear hwa hb0 hk x2
    go_quiet (fail)
    go_wp2_with fail
    go_ret
    exact ⟨rfl, below_drewN HB0.out _⟩
  · obtain ⟨i, rfl⟩ : ∃ i : Nat, s = (i : Int) := ⟨s.toNat, by omega⟩
    clear hs0
    by_cases hin : i < n
    · obtain ⟨r, hr⟩ : ∃ r, L[i]? = some r := ⟨L[i]'(by have := HN.out; omega), List.getElem?_eq_getElem _⟩
      obtain ⟨g, c', hv, _, _, hcell, _, _⟩ := HS.out.at_ hr
      have hAe : A = some ⟨g, 0, none⟩ := by
        have := HSV.out
        rw [hv] at this
        injection this with h1 _ _
        exact h1.symm
      subst hAe
      have z42 := (hcell 42 (by omega)).trans (cells_full r)
      have z41 := (hcell 41 (by omega)).trans (cells_use r)
      have hat := hasS_at hr u
      rw [HBB.out] at hat
      obtain ⟨us, hus⟩ : ∃ us, r.s.use = us := ⟨_, rfl⟩
      have hgl := World.block_lt_of_cell? w _ z42
      rw [hus] at z41 hat
      have t1 : (0 : Int) ≤ (i : Int) := by omega
      have t2 : (i : Int) < (n : Int) := by omega
      clear hv hcell hr hus
      cases hf : r.s.full with
      | false =>
        rw [hf] at z42 hat
        have hat2 : b = false := by rw [hat]; rfl
        clear hat
        subst hat2
        clear hf
        go_enter Try.func33, Try.ntmps33
        go_upto_region 1 with (fail)
        generalize hwa : World.alloc w _ = wa
        have hb0 : Below w.heap.size w wa := by rw [← hwa]; exact (Below.refl _ _).alloc (Nat.le_refl _) _
        have hk : Blk wa w.heap.size 43 #[.int .i64 (i : Int), .int .i64 u] := by rw [← hwa]; exact Blk.new _ _ _
        have k0 := hk.cell 0
        have k1 := hk.cell 1
        simp at k0 k1
        have x2 := (hb0.cell (p := ⟨C, 2, none⟩) hCl).trans x2
        have z42 := (hb0.cell (p := ⟨g, i * 44 + 42, none⟩) hgl).trans z42
        have HB0 := Lib.hid hb0
        clear hwa hb0 hk z41
        go_quiet (fail)
        go_wp2_with fail
        go_ret
        exact ⟨rfl, below_drewN HB0.out _⟩
      | true =>
        rw [hf] at z42 hat
        rw [Bool.true_and] at hat
        clear hf
        have HAT := Lib.hid hat
        clear hat
        go_enter Try.func33, Try.ntmps33
        go_upto_region 1 with (fail)
        generalize hwa : World.alloc w _ = wa
        have hb0 : Below w.heap.size w wa := by rw [← hwa]; exact (Below.refl _ _).alloc (Nat.le_refl _) _
        have hk : Blk wa w.heap.size 43 #[.int .i64 (i : Int), .int .i64 u] := by rw [← hwa]; exact Blk.new _ _ _
        have k0 := hk.cell 0
        have k1 := hk.cell 1
        simp at k0 k1
        have x2 := (hb0.cell (p := ⟨C, 2, none⟩) hCl).trans x2
        have z42 := (hb0.cell (p := ⟨g, i * 44 + 42, none⟩) hgl).trans z42
        have z41 := (hb0.cell (p := ⟨g, i * 44 + 41, none⟩) hgl).trans z41
        have HB0 := Lib.hid hb0
        clear hwa hb0 hk
        go_quiet (fail)
        go_wp2_with fail
        go_ret
        refine ⟨?_, below_drewN HB0.out _⟩
        rw [HAT.out]
        rfl
    · have hbf : b = false := by rw [← HBB.out]; exact hasS_none (.inr (by have := HN.out; omega))
      subst hbf
      have t1 : (0 : Int) ≤ (i : Int) := by omega
      have t2 : ¬ (i : Int) < (n : Int) := by omega
      have t3 : decide ((i : Int) < (n : Int)) = false := by simp; omega
      have t4 : decide (i < n) = false := by simp; omega
      go_enter Try.func33, Try.ntmps33
      go_upto_region 1 with (fail)
      generalize hwa : World.alloc w _ = wa
      have hb0 : Below w.heap.size w wa := by rw [← hwa]; exact (Below.refl _ _).alloc (Nat.le_refl _) _
      have hk : Blk wa w.heap.size 43 #[.int .i64 (i : Int), .int .i64 u] := by rw [← hwa]; exact Blk.new _ _ _
      have k0 := hk.cell 0
      have k1 := hk.cell 1
      simp at k0 k1
      have x2 := (hb0.cell (p := ⟨C, 2, none⟩) hCl).trans x2
      have HB0 := Lib.hid hb0
      clear hwa hb0 hk
      go_quiet (fail)
      go_wp2_with fail
      go_ret
      exact ⟨rfl, below_drewN HB0.out _⟩
end Go.Proofs.Ytnihkjhejjeepaa
