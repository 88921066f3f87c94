/- ShaBlocks: the walk. -/
import Derived.Test.YtpnbaoollmhkgaaShaW10
import Derived.Deep.OwnRows
namespace Go.Proofs.Ytpnbaoollmhkgaa
open Go.RowKit
set_option linter.unusedVariables false
open ShaW Sha

theorem u8_of (a : Int) (h0 : 0 ≤ a) (h1 : a < 256) : ∃ b : UInt8, a = (b.toNat : Int) := ⟨UInt8.ofNat a.toNat, by rw [UInt8.toNat_ofNat', Nat.mod_eq_of_lt (by omega)]; omega⟩
/-- a row filled with φ up to k -/
def upTo (k : Nat) (φ : Nat → UInt8) (j : Nat) : UInt8 := if j < k then φ j else 0
theorem rowIs_upTo {w : World} {g n k : Nat} {t : TypeId} {φ : Nat → UInt8} (h : w.rowIs g t n (fun j => .int .u8 ((upTo k φ j).toNat : Int))) :
    (w.setCell ⟨g, k, none⟩ (.int .u8 ((φ k).toNat : Int))).rowIs g t n (fun j => .int .u8 ((upTo (k + 1) φ j).toNat : Int)) := by
  refine (h.set k _).congr ?_
  intro j hj
  show (if j = k then _ else _) = _
  unfold upTo
  by_cases h1 : j = k
  · subst h1; rw [if_pos rfl, if_pos (by omega)]
  · rw [if_neg h1]
    by_cases h2 : j < k
    · rw [if_pos h2, if_pos (by omega)]
    · rw [if_neg h2, if_neg (by omega)]
theorem rowIs_reads {w : World} {g n m : Nat} {t : TypeId} {φ : Nat → UInt8} (h : w.rowIs g t n (fun j => .int .u8 ((upTo m φ j).toNat : Int))) (hm : n ≤ m) (B : Nat) (hB : g < B) :
    Reads w B 1 (some ⟨g, 0, none⟩) n (bytesOf n φ) := by
  refine Reads.flat (o := 0) (fun _ => ⟨rfl, hB⟩) (fun j hj => ?_)
  rw [Nat.zero_add]
  refine (h.cell (i := j) hj).trans ?_
  show some (Value.int .u8 ((upTo m φ j).toNat : Int)) = _
  unfold upTo
  rw [if_pos (by omega)]
theorem below_setNew {w wr : World} (h : Below w.heap.size w wr) (p : Addr) (hp : w.heap.size ≤ p.block) (u : Value) : Below w.heap.size w (wr.setCell p u) := h.setCell hp u

set_option maxRecDepth 100000 in
set_option maxHeartbeats 2000000 in
theorem shaBlocks_any (w : World) (n : Nat) (hn : n < 256) (b : UInt8) :
    Calls Try.prog 6 #[.int .u8 (n : Int), .int .u8 (b.toNat : Int)] w fun e w' => e = .returned (.bool true) ∧ Below w.heap.size w w' := by
  obtain ⟨i0, hi0, hz0, hz1, hz2⟩ := info_parts u8_info
  obtain ⟨m, hm⟩ : ∃ m, n % 193 = m := ⟨_, rfl⟩
  have hm2 : m < 193 := by omega
  have hmi : (n : Int) % 193 = (m : Int) := by omega
  have hmk := run_make_row (P := Try.prog) 22 5 i0 _ Try.underlying22 hi0 hz0 hz1 rfl .i64 .i64 m (by rw [hz2]; omega) (by omega)
  clear hm
  go_enter Try.func6, Try.ntmps6
  go_wp2_with fail
  have hb0 : Below w.heap.size w (w.alloc (.cells (madeCells #[.int .u8 0] m) 5)) := (Below.refl _ _).alloc (Nat.le_refl _) _
  have hr0 := World.rowIs_made w (.int .u8 0) m 5
  have HR0 := Lib.hid hr0
  have HB0 := Lib.hid hb0
  clear hr0 hb0 hmk hmi
  go_loopw [13] (fun i wr => ∃ k : Nat, k ≤ m ∧ i = .int .i64 (k : Int) ∧ Below w.heap.size w wr ∧ wr.rowIs w.heap.size 5 m (fun j => .int .u8 ((upTo k (fun _ => b) j).toNat : Int))) (fun i _ => m - (intOf i).toNat)
  case atStart => exact ⟨0, by omega, rfl, HB0.out, HR0.out.congr (fun j hj => by simp [upTo])⟩
  case round =>
    obtain ⟨k, hk, rfl, hb, hr⟩ := hrel
    clear HR0 HB0
    by_cases hlt : k < m
    · have y1 : wr.cell? ⟨w.heap.size, k, none⟩ = some (.int .u8 _) := hr.cell (i := k) hlt
      have y2 : wr.frozen? ⟨w.heap.size, k, none⟩ = false := hr.frozen k
      have HB := Lib.hid hb
      have HR := Lib.hid hr
      clear hb hr
      go_wp2_with fail
      go_roundw
      case rel => exact ⟨k + 1, by omega, by go_num, HB.out.setCell (by simp) _, rowIs_upTo HR.out⟩
      case measure => simp [intOf]; omega
    · obtain rfl : k = m := by omega
      clear hlt
      have hrd := rowIs_reads hr (Nat.le_refl _) wr.heap.size hr.lt
      have HB := Lib.hid hb
      have HR := Lib.hid hrd
      clear hb hr hrd
      go_wp2_with fail
      refine (sum_any _ _ _ _ _ HR.out (by omega)).mono ?_
      rintro e w1 ⟨rfl, hb1⟩
      have hrd1 := (HR.out.below hb1).more hb1.size
      have HB1 := Lib.hid hb1
      have HR1 := Lib.hid hrd1
      clear hb1 hrd1
      go_wp2_with fail
      refine (rsha_any _ _ _ _ _ HR1.out (by omega)).mono ?_
      rintro e w2 ⟨rfl, hb2⟩
      have hb3 : Below w.heap.size w w2 := (HB.out.trans (HB1.out.mono HB.out.size)).trans (hb2.mono (by have := HB.out.size; have := HB1.out.size; omega))
      have HB2 := Lib.hid hb3
      have heq : ∀ W, (binOp .eql 26 (keyV (sha k (fun _ => b))) (keyV (sha k (fun _ => b)))).run Try.prog W = .ok (.bool true) W := fun W => by
        rw [run_keyEq, keyEq_refl]
      clear hb2 hb3 HB HB1 HR HR1
      obtain ⟨kk, hkk⟩ : ∃ kk, sha k (fun _ => b) = kk := ⟨_, rfl⟩
      rw [hkk] at heq ⊢
      clear hkk
      go_wp2_with fail
      refine (known_any _).mono ?_
      rintro e w3 ⟨rfl, hb4⟩
      go_wp2_with fail
      go_ret
      exact ⟨rfl, HB2.out.trans (hb4.mono HB2.out.size)⟩
end Go.Proofs.Ytpnbaoollmhkgaa
