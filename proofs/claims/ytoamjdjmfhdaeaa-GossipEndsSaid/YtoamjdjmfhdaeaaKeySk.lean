/- SameKeys, of two lists that are equal. -/
import Derived.Test.YtoamjdjmfhdaeaaKeyDs
import Derived.Deep.RegionLaw
namespace Go.Proofs.Ytoamjdjmfhdaeaa
open Go.RowKit
set_option linter.unusedVariables false

theorem belowDrewK {B : Nat} {a w : World} (h : Below B a w) : Below B a w.drew := below_drewN h 1
set_option maxRecDepth 100000 in
set_option maxHeartbeats 1000000 in
attribute [local go_sem ↓] wp_load_k in
theorem sameKeys_any (w : World) (A1 A2 : Option Addr) (m c1 c2 : Nat) (ps : List Ky) (h1 : KeysAt w A1 m c1 ps) (h2 : KeysAt w A2 m c2 ps) (hm : m ≤ 977343669106) :
    Calls Try.prog 10 #[.slice A1 m c1, .slice A2 m c2] w fun e w' => e = .returned (.bool true) ∧ Below w.heap.size w w' := by
  obtain ⟨g1, o1, hA1, hc1⟩ := h1.at_
  obtain ⟨g2, o2, hA2, hc2⟩ := h2.at_
  have t0 : ((m : Int) != (m : Int)) = false := by simp
  have HA1 := Lib.hid hA1
  have HA2 := Lib.hid hA2
  have HC1 := Lib.hid hc1
  have HC2 := Lib.hid hc2
  have heq := fun (W : World) (k : Ky) => run_keyNe W k k
  simp only [keyEq_refl] at heq
  clear h1 h2 hA1 hA2 hc1 hc2
  go_enter Try.func10, Try.ntmps10
  go_wp2_with fail
  go_loopw [13] (fun i wr => ∃ k : Nat, k ≤ m ∧ i = .int .i64 (k : Int) ∧ Below w.heap.size w wr) (fun i _ => m - (intOf i).toNat)
  case atStart => exact ⟨0, by omega, rfl, Below.refl _ _⟩
  case round =>
    obtain ⟨k, hk, rfl, hb⟩ := hrel
    rcases Nat.lt_or_ge k m with hlt | hge
    · obtain rfl := HA1.out (by omega)
      obtain rfl := HA2.out (by omega)
      obtain ⟨kk, hkk, hl1⟩ := HC1.out k hlt
      obtain ⟨kk', hkk', hl2⟩ := HC2.out k hlt
      obtain rfl : kk' = kk := by rw [hkk] at hkk'; injection hkk' with e; exact e.symm
      have hlt' : (k : Int) < m := by omega
      have hk0 : (0 : Int) ≤ k := by omega
      have HB := Lib.hid hb
      have b1 : ∀ j u, (bytesOf 32 kk')[j]? = some u → wr.drew.cell? ((⟨g1, o1 + k * 32, none⟩ : Addr).add j) = some u := fun j u hu => (HB.out.cell (p := (⟨g1, o1 + k * 32, none⟩ : Addr).add j) (World.block_lt_of_cell? w _ (hl1 j u hu))).trans (hl1 j u hu)
      have b2 : ∀ j u, (bytesOf 32 kk')[j]? = some u → wr.drew.cell? ((⟨g2, o2 + k * 32, none⟩ : Addr).add j) = some u := fun j u hu => (HB.out.cell (p := (⟨g2, o2 + k * 32, none⟩ : Addr).add j) (World.block_lt_of_cell? w _ (hl2 j u hu))).trans (hl2 j u hu)
      have k1 := keyOk_mk b1
      have l1 := loadK_eq b1
      have k2 := keyOk_mk b2
      have l2 := loadK_eq b2
      clear hb b1 b2 hkk hkk' hl1 hl2
      go_wp2_with fail
      go_region_law (fail)
      all_goals
        go_wp2_with fail
        go_roundw
        case rel => exact ⟨k + 1, by omega, by go_num, belowDrewK HB.out⟩
        case measure => simp [intOf]; omega
    · have hge' : ¬ ((k : Int) < m) := by omega
      go_wp2_with fail
      go_ret
      exact ⟨rfl, hb⟩
end Go.Proofs.Ytoamjdjmfhdaeaa
