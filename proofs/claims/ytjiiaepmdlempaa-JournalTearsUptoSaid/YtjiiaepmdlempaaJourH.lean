/- The example of chapter 29. -/
import Derived.Test.YtjiiaepmdlempaaJourG
namespace Go.Proofs.Ytjiiaepmdlempaa
open Go.RowKit
set_option linter.unusedVariables false
open ShaW Sha

/-- the log of one empty payload -/
def one0 : Nat → UInt8 := logNext 0 (fun _ => 0) 0 (fun _ => 0)
theorem one0_rec (j : Nat) : one0 j = recF 0 (fun _ => 0) j := by
  unfold one0 logNext glue
  rw [if_neg (by omega), Nat.sub_zero]
theorem read_one0 : readFrom 8 0 one0 = ([(8, 0)], 8) := by
  have h : recAt (8 - 0) (from_ 0 one0) = some 0 := recAt_hit (f := fun _ => 0) (by omega) (by omega) (fun j hj => by unfold from_; rw [Nat.zero_add]; exact one0_rec j)
  rw [readFrom_some h, readFrom_none (by unfold recAt; rw [if_pos (by omega)])]
theorem read_one7 : readFrom 7 0 one0 = ([], 0) := readFrom_none (by unfold recAt; rw [if_pos (by omega)])

set_option maxRecDepth 100000 in
set_option maxHeartbeats 1000000 in
theorem known_any (w : World) : Calls Try.prog 8 #[] w fun e w' => e = .returned (.bool true) ∧ Below w.heap.size w w' := by
  go_enter Try.func8, Try.ntmps8
  go_wp2_with fail
  refine (append_ok w none none 0 0 0 0 (fun _ => 0) (fun _ => 0) Reads.none_ Reads.none_ (by omega) (by omega)).mono ?_
  rw [show 0 + (8 + 0) = 8 from rfl]
  rintro e w1 ⟨A1, c1, rfl, hb1, ho1⟩
  obtain ⟨A', g1, c', hv, hA1, hc1, hcm1, hcell1⟩ := own_bytes ho1
  injection hv with hv1 hv2 hv3
  subst hv1 hv3
  obtain ⟨rfl, _⟩ := hA1 (by omega)
  have HO1 := Lib.hid ho1
  have HB1 := Lib.hid hb1
  have HC1 := Lib.hid hcell1
  have hcm2 : c1 ≤ 9223372036854775807 := hcm1
  clear ho1 hb1 hA1 hcell1 hv2
  go_wp2_with fail
  refine (read_g w1 _ g1 0 c1 8 one0 (fun _ => rfl) (by omega) hc1 hcm1 HC1.out).mono ?_
  rintro e w2 ⟨v2, rfl, hl2, hb2⟩
  rw [read_one0] at hl2 ⊢
  have hv2 : ∃ A c, v2 = .slice A 1 c := by
    obtain ⟨xs, hx, _⟩ := hl2
    exact own_form hx
  obtain ⟨A2, c2, rfl⟩ := hv2
  have HB2 := Lib.hid hb2
  clear hl2 hb2
  have q7 : (7 : Int) ≤ c1 := by omega
  go_wp2_with fail
  refine (read_g w2 _ g1 0 c1 7 one0 (fun _ => rfl) (by omega) (by omega) hcm1 (fun j hj => ?_)).mono ?_
  · have h0 := HC1.out j (by omega)
    exact (HB2.out.cell (p := ⟨g1, 0 + j, none⟩) (World.block_lt_of_cell? _ _ h0)).trans h0
  rintro e w3 ⟨v3, rfl, hl3, hb3⟩
  rw [read_one7] at hl3 ⊢
  have hv3 : ∃ A c, v3 = .slice A 0 c := by
    obtain ⟨xs, hx, _⟩ := hl3
    exact own_form hx
  obtain ⟨A3, c3, rfl⟩ := hv3
  have hz1 := HB1.out.size
  have hb4 : Below w.heap.size w w3 := HB1.out.trans ((HB2.out.trans (hb3.mono HB2.out.size)).mono hz1)
  have hrd : Reads w3 w3.heap.size 1 (some ⟨g1, 0, none⟩) 8 (bytesOf 8 one0) := Reads.flat (o := 0) (fun _ => ⟨rfl, by
      have := World.block_lt_of_cell? _ _ (HC1.out 0 (by omega))
      have := HB2.out.size
      have := hb3.size
      exact Nat.lt_of_lt_of_le (by assumption) (by omega)⟩) (fun j hj => by
    have h0 := HC1.out j hj
    have h1 := World.block_lt_of_cell? _ _ h0
    exact (hb3.cell (p := ⟨g1, 0 + j, none⟩) (Nat.lt_of_lt_of_le h1 HB2.out.size)).trans ((HB2.out.cell (p := ⟨g1, 0 + j, none⟩) h1).trans h0))
  have HB4 := Lib.hid hb4
  have HRD := Lib.hid hrd
  clear hl3 hb3 hb4 hrd HB1 HB2 HC1 HO1
  go_wp2_with fail
  refine (same_reads _ _ _ 8 _ _ _ (w3.alloc (.cells #[.int .u8 0, .int .u8 0, .int .u8 0, .int .u8 0, .int .u8 227, .int .u8 176, .int .u8 196, .int .u8 66] 5)).heap.size one0 one0 (HRD.out.alloc (Nat.le_refl _) _) (Reads.flat (g := w3.heap.size) (o := 0) (fun _ => ⟨rfl, by rw [World.size_alloc]; omega⟩) (fun j hj => ?_)) (fun _ _ => rfl)).mono ?_
  · have e0 : ∀ j, j < 4 → one0 j = 0 := by
      intro j hj
      rw [one0_rec]
      unfold recF
      rw [if_pos hj]
      unfold lenB
      rw [Nat.zero_div]
      rfl
    have e1 : ∀ j, j < 4 → one0 (4 + j) = sha 0 (fun _ => 0) j := by
      intro j hj
      rw [one0_rec]
      unfold recF
      rw [if_neg (by omega), if_pos (by omega), show 4 + j - 4 = j by omega]
    have : j = 0 ∨ j = 1 ∨ j = 2 ∨ j = 3 ∨ j = 4 + 0 ∨ j = 4 + 1 ∨ j = 4 + 2 ∨ j = 4 + 3 := by omega
    rcases this with rfl | rfl | rfl | rfl | rfl | rfl | rfl | rfl
    · rw [e0 0 (by omega)]; exact lit_cell' _ _ _ _ _
    · rw [e0 1 (by omega)]; exact lit_cell' _ _ _ _ _
    · rw [e0 2 (by omega)]; exact lit_cell' _ _ _ _ _
    · rw [e0 3 (by omega)]; exact lit_cell' _ _ _ _ _
    · rw [e1 0 (by omega), shaE_0]; exact lit_cell' _ _ _ _ _
    · rw [e1 1 (by omega), shaE_1]; exact lit_cell' _ _ _ _ _
    · rw [e1 2 (by omega), shaE_2]; exact lit_cell' _ _ _ _ _
    · rw [e1 3 (by omega), shaE_3]; exact lit_cell' _ _ _ _ _
  rintro e w4 ⟨rfl, rfl⟩
  go_wp2_with fail
  go_ret
  exact ⟨rfl, HB4.out.alloc HB4.out.size _⟩
end Go.Proofs.Ytjiiaepmdlempaa
