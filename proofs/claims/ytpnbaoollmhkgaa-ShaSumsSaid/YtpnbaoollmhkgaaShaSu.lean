/- ShaSums: the walk. -/
import Derived.Test.YtpnbaoollmhkgaaShaBk
namespace Go.Proofs.Ytpnbaoollmhkgaa
open Go.RowKit
set_option linter.unusedVariables false
open ShaW Sha

theorem bits_xor_u8 (a b : Int) : ∃ c : UInt8, bits .xor .u8 a b = (c.toNat : Int) := by
  obtain ⟨c, hc⟩ := u8_of (bits .xor .u8 a b) (by unfold bits; rw [IntKind.wrap_u8]; omega) (by unfold bits; rw [IntKind.wrap_u8]; omega)
  exact ⟨c, hc⟩
theorem rowIs_xor {w : World} {g n k : Nat} {t : TypeId} {φ : Nat → UInt8} (a b : Int) (h : w.rowIs g t n (fun j => .int .u8 ((φ j).toNat : Int))) :
    ∃ ψ : Nat → UInt8, (w.setCell ⟨g, k, none⟩ (.int .u8 (bits .xor .u8 a b))).rowIs g t n (fun j => .int .u8 ((ψ j).toNat : Int)) := by
  obtain ⟨c, hc⟩ := bits_xor_u8 a b
  rw [hc]
  refine ⟨fun j => if j = k then c else φ j, (h.set k _).congr ?_⟩
  intro j hj
  show (if j = k then _ else _) = _
  by_cases h1 : j = k
  · rw [if_pos h1]; show _ = Value.int .u8 (((if j = k then c else φ j : UInt8)).toNat : Int); rw [if_pos h1]
  · rw [if_neg h1]; show _ = Value.int .u8 (((if j = k then c else φ j : UInt8)).toNat : Int); rw [if_neg h1]

set_option maxRecDepth 100000 in
set_option maxHeartbeats 2000000 in
theorem shaSums_any (w : World) (A1 : Option Addr) (n1 c1 b1 o1 : Nat) (f : Nat → UInt8) (hc1 : n1 ≤ c1) 
    (ha1 : 0 < n1 → A1 = some ⟨b1, o1, none⟩)
    (hf1 : ∀ j, j < n1 → w.cell? ⟨b1, o1 + j, none⟩ = some (.int .u8 ((f j).toNat : Int))) (x : Nat) (hx : x < 256) :
    Calls Try.prog 3 #[.slice A1 n1 c1, .int .u8 (x : Int)] w fun e w' => e = .returned (.bool true) ∧ Below w.heap.size w w' := by
  have hl1 : 0 < n1 → b1 < w.heap.size := fun h => World.block_lt_of_cell? w _ (hf1 0 h)
  have hr1 : Reads w w.heap.size 1 A1 n1 (bytesOf n1 f) := Reads.flat (fun h => ⟨ha1 h, hl1 h⟩) hf1
  have HF1 := Lib.hid hf1
  have HL1 := Lib.hid hl1
  have HA1 := Lib.hid ha1
  have HR1 := Lib.hid hr1
  clear hf1 hl1 ha1 hr1
  go_enter Try.func3, Try.ntmps3
  by_cases hbig : 300 < n1
  · have hbi : (300 : Int) < (n1 : Int) := by omega
    go_wp2_with fail
    refine (known_any _).mono ?_
    rintro e w3 ⟨rfl, hb4⟩
    go_wp2_with fail
    go_ret
    exact ⟨rfl, hb4⟩
  · have hbi : ¬ (300 : Int) < (n1 : Int) := by omega
    obtain ⟨i0, hi0, hz0, hz1, hz2⟩ := info_parts u8_info
    obtain ⟨m, hm⟩ : ∃ m, 50 + x % 90 = m := ⟨_, rfl⟩
    have hm2 : m < 140 := by omega
    have hmi : 50 + (x : Int) % 90 = (m : Int) := by omega
    have hmk := run_make_row (P := Try.prog) 22 5 i0 _ Try.underlying22 hi0 hz0 hz1 rfl .i64 .i64 m (by rw [hz2]; omega) (by omega)
    clear hm
    go_wp2_with fail
    have hb0 : Below w.heap.size w (w.alloc (.cells (madeCells #[.int .u8 0] m) 5)) := (Below.refl _ _).alloc (Nat.le_refl _) _
    have hr0 := World.rowIs_made w (.int .u8 0) m 5
    have HR0 := Lib.hid hr0
    have HB0 := Lib.hid hb0
    clear hr0 hb0 hmk hmi
    go_loopw [20] (fun i wr => ∃ k : Nat, k ≤ m ∧ i = .int .i64 (k : Int) ∧ Below w.heap.size w wr ∧ ∃ φ : Nat → UInt8, wr.rowIs w.heap.size 5 m (fun j => .int .u8 ((φ j).toNat : Int))) (fun i _ => m - (intOf i).toNat)
    case atStart => exact ⟨0, by omega, rfl, HB0.out, fun _ => 0, HR0.out⟩
    case round =>
      obtain ⟨k, hk, rfl, hb, φ, hr⟩ := hrel
      clear HR0 HB0
      by_cases hlt : k < m
      · have y1 : wr.cell? ⟨w.heap.size, k, none⟩ = some (.int .u8 _) := hr.cell (i := k) hlt
        have y2 : wr.frozen? ⟨w.heap.size, k, none⟩ = false := hr.frozen k
        have HB := Lib.hid hb
        have HR := Lib.hid hr
        clear hb hr
        go_wp2_with fail
        go_roundw
        case rel => exact ⟨k + 1, by omega, by go_num, HB.out.setCell (by simp) _, rowIs_xor _ _ HR.out⟩
        case measure => simp [intOf]; omega
      · obtain rfl : k = m := by omega
        clear hlt
        have hrd : Reads wr wr.heap.size 1 (some ⟨w.heap.size, 0, none⟩) k (bytesOf k φ) := Reads.flat (o := 0) (fun _ => ⟨rfl, hr.lt⟩) (fun j hj => by rw [Nat.zero_add]; exact hr.cell hj)
        have HB := Lib.hid hb
        have HR := Lib.hid hrd
        clear hb hr hrd
        go_wp2_with fail
        obtain ⟨cs3, hcs3⟩ : ∃ cs3 : Array Value, cs3 = #[.slice A1 n1 c1, .slice A1 (n1 / 2) c1, .slice (some ⟨w.heap.size, 0, none⟩) k k] := ⟨_, rfl⟩
        rw [← hcs3]
        have hz := HB.out.size
        have hra := (HR1.out.below HB.out).more hz
        have hra2 : Reads wr wr.heap.size 1 A1 (n1 / 2) (bytesOf (n1 / 2) f) := Reads.flat (g := b1) (o := o1) (fun h => ⟨HA1.out (by omega), Nat.lt_of_lt_of_le (HL1.out (by omega)) hz⟩) (fun j hj => (HB.out.cell (p := ⟨b1, o1 + j, none⟩) (HL1.out (by omega))).trans (HF1.out j (by omega)))
        have hall : ∀ q, q < 3 → ∃ A n c h, cs3[q]? = some (.slice A n c) ∧ n ≤ 300 ∧ Reads wr wr.heap.size 1 A n (bytesOf n h) := by
          intro q hq
          have : q = 0 ∨ q = 1 ∨ q = 2 := by omega
          rcases this with rfl | rfl | rfl
          · exact ⟨A1, n1, c1, f, by rw [hcs3]; rfl, by omega, hra⟩
          · exact ⟨A1, n1 / 2, c1, f, by rw [hcs3]; rfl, by omega, hra2⟩
          · exact ⟨_, k, k, φ, by rw [hcs3]; rfl, by omega, HR.out⟩
        have HALL := Lib.hid hall
        obtain ⟨wo, rfl⟩ : ∃ wo : World, wo = wr := ⟨_, rfl⟩
        clear hcs3 hra hra2 hall HR HR1 HF1 HL1 HA1
        have hblk : Blk (wo.alloc (.cells cs3 22)) wo.heap.size 22 cs3 := Blk.new _ _ _
        have hbl0 : Below wo.heap.size wo (wo.alloc (.cells cs3 22)) := (Below.refl _ _).alloc (Nat.le_refl _) _
        have HBK := Lib.hid hblk
        have HB0 := Lib.hid hbl0
        clear hblk hbl0
        go_loopw [40] (fun i wr => ∃ q : Nat, q ≤ 3 ∧ i = .int .i64 (q : Int) ∧ Below wo.heap.size wo wr ∧ Blk wr wo.heap.size 22 cs3) (fun i _ => 3 - (intOf i).toNat)
        case atStart => exact ⟨0, by omega, rfl, HB0.out, HBK.out⟩
        case round =>
          obtain ⟨q, hq, rfl, hb, hk⟩ := hrel
          clear HBK HB0
          have hz2 := hb.size
          by_cases hlt : q < 3
          · obtain ⟨A, n, c, h, hcell, hn, hrd⟩ := HALL.out q hlt
            have y0 : wr.cell? ⟨wo.heap.size, q, none⟩ = some (.slice A n c) := (hk.cell q).trans hcell
            have hrd' := (hrd.below hb).more hz2
            have HRD := Lib.hid hrd'
            have HB2 := Lib.hid hb
            have HK := Lib.hid hk
            obtain ⟨kk, hkk⟩ : ∃ kk, sha n h = kk := ⟨_, rfl⟩
            have HKK := Lib.hid hkk
            have heq : ∀ W, (binOp .neq 26 (keyV kk) (keyV kk)).run Try.prog W = .ok (.bool false) W := fun W => by
              rw [run_keyNe, keyEq_refl]; rfl
            have hc3 : (q : Int) < 3 := by omega
            clear hrd hrd' hb hk hcell hkk
            go_wp2_with fail
            refine (sum_any _ _ _ _ _ HRD.out (by omega)).mono ?_
            rintro e w1 ⟨rfl, hb1⟩
            rw [HKK.out]
            have hrd1 := (HRD.out.below hb1).more hb1.size
            have hk1 := HK.out.below hb1 HK.out.lt
            have HB1 := Lib.hid (HB2.out.trans (hb1.mono hz2))
            have HR1 := Lib.hid hrd1
            have HK1 := Lib.hid hk1
            clear hb1 hrd1 hk1 HRD HB2 HK hz2
            go_wp2_with fail
            refine (rsha_any _ _ _ _ _ HR1.out (by omega)).mono ?_
            rintro e w2 ⟨rfl, hb2⟩
            rw [HKK.out]
            have hk2 := HK1.out.below hb2 HK1.out.lt
            have HB3 := Lib.hid (HB1.out.trans (hb2.mono HB1.out.size))
            have HK2 := Lib.hid hk2
            clear hb2 hk2 HB1 HK1 HR1
            go_wp2_with fail
            go_roundw
            case rel => exact ⟨q + 1, by omega, by go_num, HB3.out, HK2.out⟩
            case measure => simp [intOf]; omega
          · obtain rfl : q = 3 := by omega
            have HB2 := Lib.hid (HB.out.trans (hb.mono hz))
            clear hlt hb hk
            go_wp2_with fail
            refine (known_any _).mono ?_
            rintro e w3 ⟨rfl, hb4⟩
            go_wp2_with fail
            go_ret
            exact ⟨rfl, HB2.out.trans (hb4.mono HB2.out.size)⟩
end Go.Proofs.Ytpnbaoollmhkgaa
