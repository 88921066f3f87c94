/- KeyOf: the walk. -/
import Derived.Test.YtbhklhpeppaadaaKeyKn
namespace Go.Proofs.Ytbhklhpeppaadaa
open Go.RowKit
set_option linter.unusedVariables false
set_option linter.unusedSimpArgs false
open ShaW Sha

set_option maxRecDepth 100000 in
set_option maxHeartbeats 1000000 in
theorem keyOf_any (w : World) (A : Option Addr) (n c b o : Nat) (f : Nat → UInt8) (hnc : n ≤ c) (hcm : c ≤ 9223372036854775807) (hA : 0 < n → A = some ⟨b, o, none⟩) (hc : ∀ j, j < n → w.cell? ⟨b, o + j, none⟩ = some (.int .u8 ((f j).toNat : Int))) :
    Calls Try.prog 3 #[.slice A n c] w fun e w' => e = .returned (.bool true) ∧ Below w.heap.size w w' := by
  have hR : ∀ W, Below w.heap.size w W → Reads W W.heap.size 1 A n (bytesOf n f) := fun W hW => by
    have h0 : Reads w w.heap.size 1 A n (bytesOf n f) := Reads.flat (o := o) (fun hp => ⟨hA hp, World.block_lt_of_cell? w _ (hc 0 hp)⟩) hc
    exact (h0.below hW).more hW.size
  have HR := Lib.hid hR
  clear hR hA hc
  by_cases hbig : 300 < n
  · have hbi : (300 : Int) < n := by omega
    go_enter Try.func3, Try.ntmps3
    go_wp2_with fail
    refine (known_any _).mono ?_
    rintro e w1 ⟨rfl, hb1⟩
    go_wp2_with fail
    go_ret
    exact ⟨rfl, hb1⟩
  · have hbi : ¬ (300 : Int) < n := by omega
    go_enter Try.func3, Try.ntmps3
    go_wp2_with fail
    refine (kof_any w A n c f (HR.out w (Below.refl _ _)) (by omega)).mono ?_
    rintro e w1 ⟨rfl, hb1⟩
    have HB1 := Lib.hid hb1
    clear hb1
    go_wp2_with fail
    refine (rsha_any w1 A n c f (HR.out w1 HB1.out) (by omega)).mono ?_
    obtain ⟨k, hk⟩ : ∃ k, sha n f = k := ⟨_, rfl⟩
    rw [hk]
    have heq : ∀ W, (binOp .eql 25 (keyV k) (keyV k)).run Try.prog W = .ok (.bool true) W := fun W => by rw [run_keyEq, keyEq_refl]
    rintro e w2 ⟨rfl, hb2⟩
    have HB2 := Lib.hid (HB1.out.trans (hb2.mono HB1.out.size))
    clear hb2 hk
    go_wp2_with fail
    refine (known_any _).mono ?_
    rintro e w3 ⟨rfl, hb3⟩
    have HB3 := Lib.hid (HB2.out.trans (hb3.mono HB2.out.size))
    clear hb3
    go_wp2_with fail
    go_ret
    exact ⟨rfl, HB3.out⟩
end Go.Proofs.Ytbhklhpeppaadaa
