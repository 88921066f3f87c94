/- Slices of bytes: Equal, SameBytes, Clone, Grow, Concat. -/
import Derived.Test.YtjiiaepmdlempaaListB
import Derived.Test.YtjiiaepmdlempaaShaW9
import Derived.Lib.AppendZeros
namespace Go.Proofs.Ytjiiaepmdlempaa
open Go.RowKit
set_option linter.unusedVariables false
open ShaW Sha

def eqN (n : Nat) (f g : Nat → UInt8) : Bool := (List.range n).all fun j => f j == g j
theorem eqN_iff (n : Nat) (f g : Nat → UInt8) : eqN n f g = true ↔ ∀ j, j < n → f j = g j := by
  unfold eqN
  simp [List.all_eq_true, List.mem_range]

theorem belowDrew {B : Nat} {w wr : World} (h : Below B w wr) : Below B w wr.drew := ⟨h.os, h.tape, h.output, h.size, h.block⟩

set_option maxRecDepth 100000 in
theorem equal_any (w : World) (b o c b' o' c' n : Nat) (f g : Nat → UInt8) (hn : n ≤ 1099511627776) (hc : ∀ j, j < n → w.cell? ⟨b, o + j, none⟩ = some (.int .u8 ((f j).toNat : Int))) (hc' : ∀ j, j < n → w.cell? ⟨b', o' + j, none⟩ = some (.int .u8 ((g j).toNat : Int))) :
    Calls Try.prog 29 #[.slice (some ⟨b, o, none⟩) n c, .slice (some ⟨b', o', none⟩) n c'] w fun e w' => e = .returned (.bool (eqN n f g)) ∧ Below w.heap.size w w' := by
  have HC := Lib.hid hc
  have HC' := Lib.hid hc'
  clear hc hc'
  go_enter Try.func29, Try.ntmps29
  go_wp2_with fail
  go_loopw [13] (fun i wr => ∃ k : Nat, k ≤ n ∧ i = .int .i64 (k : Int) ∧ Below w.heap.size w wr ∧ (∀ j, j < k → f j = g j)) (fun i _ => n - (intOf i).toNat)
  case atStart => exact ⟨0, by omega, rfl, Below.refl _ _, fun j hj => absurd hj (by omega)⟩
  case round =>
    obtain ⟨k, hk, rfl, hb, hpre⟩ := hrel
    have HB := Lib.hid hb
    have HP := Lib.hid hpre
    by_cases hlt : k < n
    · have y0 : wr.cell? ⟨b, o + k, none⟩ = some (.int .u8 ((f k).toNat : Int)) := (hb.cell (p := ⟨b, o + k, none⟩) (World.block_lt_of_cell? w _ (HC.out k hlt))).trans (HC.out k hlt)
      have y1 : wr.cell? ⟨b', o' + k, none⟩ = some (.int .u8 ((g k).toNat : Int)) := (hb.cell (p := ⟨b', o' + k, none⟩) (World.block_lt_of_cell? w _ (HC'.out k hlt))).trans (HC'.out k hlt)
      clear hb hpre
      by_cases he : f k = g k
      · have e1 : ((((f k).toNat : Nat) : Int) != ((g k).toNat : Int)) = false := by rw [he]; simp
        go_wp2_with fail
        have hnext : ∀ j, j < k + 1 → f j = g j := by
          intro j hj
          by_cases h : j = k
          · rw [h]; exact he
          · exact HP.out j (by omega)
        have HN := Lib.hid hnext
        clear hnext
        go_region_law (fail)
        all_goals
          go_wp2_with fail
          go_roundw
          case rel => exact ⟨k + 1, by omega, by go_num, belowDrew HB.out, HN.out⟩
          case measure => simp [intOf]; omega
      · have e1 : ((((f k).toNat : Nat) : Int) != ((g k).toNat : Int)) = true := by
          rw [bne_iff_ne]
          intro e
          exact he (UInt8.toNat_inj.mp (by omega))
        go_wp2_with fail
        have hf : eqN n f g = false := by
          rw [Bool.eq_false_iff]
          intro h
          exact he ((eqN_iff n f g).1 h k hlt)
        have HF := Lib.hid hf
        clear hf
        go_region_law (fail)
        all_goals
          go_wp2_with fail
          go_ret
          refine ⟨?_, belowDrew HB.out⟩
          rw [HF.out]
          rfl
    · obtain rfl : k = n := by omega
      clear hb hpre hlt
      have : eqN k f g = true := (eqN_iff k f g).2 HP.out
      go_wp2_with fail
      go_ret
      refine ⟨?_, HB.out⟩
      rw [this]
      rfl

theorem lists_eqN (n : Nat) (f g : Nat → UInt8) : ((ByteArray.mk ((List.range n).map f).toArray).toList == (ByteArray.mk ((List.range n).map g).toArray).toList) = eqN n f g := by
  rw [ByteArray.toList_eq, ByteArray.toList_eq]
  show ((List.range n).map f == (List.range n).map g) = _
  by_cases h : eqN n f g = true
  · rw [h, List.map_congr_left (fun j hj => (eqN_iff n f g).1 h j (List.mem_range.1 hj))]
    simp
  · have h' : eqN n f g = false := by simpa using h
    rw [h', Bool.eq_false_iff]
    intro e
    refine h ((eqN_iff n f g).2 (fun j hj => ?_))
    have h2 : (List.range n).map f = (List.range n).map g := by simpa using e
    have h3 := congrArg (fun l => l[j]?) h2
    simpa [hj] using h3

theorem samegen_any (w : World) (b o c b' o' c' n : Nat) (f g : Nat → UInt8) (hc : ∀ j, j < n → w.cell? ⟨b, o + j, none⟩ = some (.int .u8 ((f j).toNat : Int))) (hc' : ∀ j, j < n → w.cell? ⟨b', o' + j, none⟩ = some (.int .u8 ((g j).toNat : Int))) :
    Calls Try.prog 12 #[.slice (some ⟨b, o, none⟩) n c, .slice (some ⟨b', o', none⟩) n c'] w fun e w' => e = .returned (.bool (eqN n f g)) ∧ w = w' := by
  have h1 := conv_bytes w b o c n f hc
  have h2 := conv_bytes w b' o' c' n g hc'
  have h4 := lists_eqN n f g
  generalize (ByteArray.mk ((List.range n).map f).toArray) = S at h1 h4
  generalize (ByteArray.mk ((List.range n).map g).toArray) = T at h2 h4
  clear hc hc'
  go_enter Try.func12, Try.ntmps12
  go_wp2_with fail
  go_ret
  refine ⟨?_, rfl⟩
  rw [← h4]
  rfl
end Go.Proofs.Ytjiiaepmdlempaa
