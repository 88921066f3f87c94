/- ShaIndependent: the walk. -/
import Derived.Test.YtpnbaoollmhkgaaShaBk
namespace Go.Proofs.Ytpnbaoollmhkgaa
open Go.RowKit
set_option linter.unusedVariables false
open ShaW Sha

theorem glue_self (k : Nat) (f : Nat → UInt8) : glue k f (fun j => f (k + j)) = f := by
  funext j
  unfold glue
  by_cases h : j < k
  · rw [if_pos h]
  · rw [if_neg h]; show f _ = _; congr 1; omega
/-- the two Digests behind k1 and k2 bytes -/
def Two (w wr : World) (B2 D2 k1 k2 : Nat) (f g : Nat → UInt8) : Prop :=
  Below w.heap.size w wr ∧ DigestAt wr w.heap.size (w.heap.size + 1) k1 f ∧ DigestAt wr B2 D2 k2 g
theorem DigestAt.blk {w : World} {B D m : Nat} {f : Nat → UInt8} (h : DigestAt w B D m f) : ∃ cs, Blk w D 44 cs := by obtain ⟨_, rv, hb, _⟩ := h; exact ⟨_, hb⟩
theorem Two.one {w wr w' : World} {B2 D2 k1 k2 : Nat} {f g : Nat → UInt8} (h : Two w wr B2 D2 k1 k2 f g) (hg : wr.grownBy w' (some (w.heap.size + 1))) (hd : DigestAt w' w.heap.size (w.heap.size + 1) (k1 + 1) (glue k1 f (fun j => f (k1 + j)))) (hne : w.heap.size + 1 ≠ D2) :
    Two w w' B2 D2 (k1 + 1) k2 f g := by
  obtain ⟨cs, hcs⟩ := h.2.1.blk
  rw [glue_self] at hd
  exact ⟨only_below h.1 hg (by omega), hd, h.2.2.kept hcs hg (Ne.symm hne)⟩
theorem Two.two {w wr w' : World} {B2 D2 k1 k2 : Nat} {f g : Nat → UInt8} (h : Two w wr B2 D2 k1 k2 f g) (hg : wr.grownBy w' (some D2)) (hd : DigestAt w' B2 D2 (k2 + 1) (glue k2 g (fun j => g (k2 + j)))) (hne : w.heap.size + 1 ≠ D2) (hD : w.heap.size ≤ D2) :
    Two w w' B2 D2 k1 (k2 + 1) f g := by
  obtain ⟨cs, hcs⟩ := h.2.2.blk
  rw [glue_self] at hd
  exact ⟨only_below h.1 hg hD, h.2.1.kept hcs hg hne, hd⟩

set_option maxRecDepth 100000 in
set_option maxHeartbeats 2000000 in
theorem shaInd_any (w : World) (A1 A2 : Option Addr) (n1 c1 n2 c2 b1 o1 b2 o2 : Nat) (f g : Nat → UInt8) (hc1 : n1 ≤ c1) (hc2 : n2 ≤ c2)
    (ha1 : 0 < n1 → A1 = some ⟨b1, o1, none⟩) (ha2 : 0 < n2 → A2 = some ⟨b2, o2, none⟩)
    (hf1 : ∀ j, j < n1 → w.cell? ⟨b1, o1 + j, none⟩ = some (.int .u8 ((f j).toNat : Int))) (hf2 : ∀ j, j < n2 → w.cell? ⟨b2, o2 + j, none⟩ = some (.int .u8 ((g j).toNat : Int)))
    (hn : n1 + n2 ≤ 1048576) :
    Calls Try.prog 5 #[.slice A1 n1 c1, .slice A2 n2 c2] w fun e w' => e = .returned (.bool true) ∧ Below w.heap.size w w' := by
  have hl1 : 0 < n1 → b1 < w.heap.size := fun h => World.block_lt_of_cell? w _ (hf1 0 h)
  have hl2 : 0 < n2 → b2 < w.heap.size := fun h => World.block_lt_of_cell? w _ (hf2 0 h)
  have hr1 : Reads w w.heap.size 1 A1 n1 (bytesOf n1 f) := Reads.flat (fun h => ⟨ha1 h, hl1 h⟩) hf1
  have hr2 : Reads w w.heap.size 1 A2 n2 (bytesOf n2 g) := Reads.flat (fun h => ⟨ha2 h, hl2 h⟩) hf2
  have HF1 := Lib.hid hf1
  have HF2 := Lib.hid hf2
  have HL1 := Lib.hid hl1
  have HL2 := Lib.hid hl2
  have HA1 := Lib.hid ha1
  have HA2 := Lib.hid ha2
  have HR1 := Lib.hid hr1
  have HR2 := Lib.hid hr2
  clear hf1 hf2 hl1 hl2 ha1 ha2 hr1 hr2
  go_enter Try.func5, Try.ntmps5
  by_cases hbig : 300 < n1 + n2
  · have hbi : (300 : Int) < (n1 : Int) + n2 := by omega
    go_wp2_with fail
    refine (known_any _).mono ?_
    rintro e w3 ⟨rfl, hb4⟩
    go_wp2_with fail
    go_ret
    exact ⟨rfl, hb4⟩
  · have hbi : ¬ (300 : Int) < (n1 : Int) + n2 := by omega
    go_wp2_with fail
    refine (new_any w f).mono ?_
    rintro e w1 ⟨rfl, hb1, hd1⟩
    have HB1 := Lib.hid hb1
    have HD1 := Lib.hid hd1
    clear hb1 hd1
    go_wp2_with fail
    refine (new_any w1 g).mono ?_
    rintro e w2 ⟨rfl, hb2, hd2⟩
    have hz1 := HB1.out.size
    have htwo : Two w w2 w1.heap.size (w1.heap.size + 1) 0 0 f g := ⟨HB1.out.trans (hb2.mono hz1), HD1.out.below hb2, hd2⟩
    have hne : w.heap.size + 1 ≠ w1.heap.size + 1 := by
      have := HD1.out.lt
      omega
    have HT := Lib.hid htwo
    clear hb2 hd2 htwo HD1 HB1
    obtain ⟨B2, hB2⟩ : ∃ B2, w1.heap.size = B2 := ⟨_, rfl⟩
    rw [hB2] at HT hne hz1 ⊢
    clear hB2
    go_wp2_with fail
    go_loopw [7] (fun i wr => ∃ k : Nat, k ≤ n1 + n2 ∧ i = .int .i64 (k : Int) ∧ Two w wr B2 (B2 + 1) (min k n1) (min k n2) f g) (fun i _ => n1 + n2 - (intOf i).toNat)
    case atStart => exact ⟨0, by omega, rfl, by rw [Nat.zero_min, Nat.zero_min]; exact HT.out⟩
    case round =>
      obtain ⟨k, hk, rfl, hT⟩ := hrel
      clear HT
      have hcall1 : k < n1 → ∀ k2 g', Two w wr B2 (B2 + 1) k k2 f g' → Calls Try.prog 11 #[.pointer (some ⟨w.heap.size + 1, 0, none⟩), .slice (some ⟨b1, o1 + k, none⟩) 1 (c1 - k)] wr fun e w' => e = .returned (.tuple #[]) ∧ Two w w' B2 (B2 + 1) (k + 1) k2 f g' := by
        intro hk1 k2 g' h2
        refine (write_any wr _ _ k 1 f (fun j => f (k + j)) (some ⟨b1, o1 + k, none⟩) (c1 - k) h2.2.1 (Reads.flat (o := o1 + k) (fun _ => ⟨rfl, Nat.lt_of_lt_of_le (HL1.out (by omega)) h2.1.size⟩) (fun j hj => ?_)) (by omega) h2.1.size).mono ?_
        · obtain rfl : j = 0 := by omega
          exact (h2.1.cell (p := ⟨b1, o1 + k, none⟩) (HL1.out (by omega))).trans (HF1.out k hk1)
        · rintro e w' ⟨rfl, hg, hd⟩
          exact ⟨rfl, h2.one hg hd hne⟩
      have hcall2 : ∀ wr, k < n2 → ∀ k1 f', Two w wr B2 (B2 + 1) k1 k f' g → Calls Try.prog 11 #[.pointer (some ⟨B2 + 1, 0, none⟩), .slice (some ⟨b2, o2 + k, none⟩) 1 (c2 - k)] wr fun e w' => e = .returned (.tuple #[]) ∧ Two w w' B2 (B2 + 1) k1 (k + 1) f' g := by
        intro wr hk1 k1 f' h2
        have hB2 : B2 ≤ wr.heap.size := by have := h2.2.2.lt; omega
        refine (write_any wr _ _ k 1 g (fun j => g (k + j)) (some ⟨b2, o2 + k, none⟩) (c2 - k) h2.2.2 (Reads.flat (o := o2 + k) (fun _ => ⟨rfl, Nat.lt_of_lt_of_le (HL2.out (by omega)) h2.1.size⟩) (fun j hj => ?_)) (by omega) hB2).mono ?_
        · obtain rfl : j = 0 := by omega
          exact (h2.1.cell (p := ⟨b2, o2 + k, none⟩) (HL2.out (by omega))).trans (HF2.out k hk1)
        · rintro e w' ⟨rfl, hg, hd⟩
          exact ⟨rfl, h2.two hg hd hne (by omega)⟩
      have HC1 := Lib.hid hcall1
      have HC2 := Lib.hid hcall2
      have HT := Lib.hid hT
      clear hT hcall1 hcall2
      by_cases hk1 : k < n1
      · obtain rfl := HA1.out (by omega)
        have hc1k : c1 ≠ k := by omega
        have e1 : (k + 1 - k : Nat) = 1 := by omega
        have hkc : (k : Int) + 1 ≤ c1 := by omega
        rw [Nat.min_eq_left (by omega : k ≤ n1)] at HT
        go_wp2_with fail
        refine (HC1.out hk1 _ _ HT.out).mono ?_
        rintro e w4 ⟨rfl, h4⟩
        have HT4 := Lib.hid h4
        clear h4
        by_cases hk2 : k < n2
        · obtain rfl := HA2.out (by omega)
          have hc2k : c2 ≠ k := by omega
          have hkc2 : (k : Int) + 1 ≤ c2 := by omega
          rw [Nat.min_eq_left (by omega : k ≤ n2)] at HT4
          go_wp2_with fail
          refine (HC2.out _ hk2 _ _ HT4.out).mono ?_
          rintro e w5 ⟨rfl, h5⟩
          have HT5 := Lib.hid h5
          clear h5 HT HT4
          go_wp2_with fail
          go_roundw
          case rel => exact ⟨k + 1, by omega, by go_num, by rw [Nat.min_eq_left (by omega : k + 1 ≤ n1), Nat.min_eq_left (by omega : k + 1 ≤ n2)]; exact HT5.out⟩
          case measure => simp [intOf]; omega
        · rw [Nat.min_eq_right (by omega : n2 ≤ k)] at HT4
          clear HT
          go_wp2_with fail
          go_roundw
          case rel => exact ⟨k + 1, by omega, by go_num, by rw [Nat.min_eq_left (by omega : k + 1 ≤ n1), Nat.min_eq_right (by omega : n2 ≤ k + 1)]; exact HT4.out⟩
          case measure => simp [intOf]; omega
      · rw [Nat.min_eq_right (by omega : n1 ≤ k)] at HT
        by_cases hk2 : k < n2
        · obtain rfl := HA2.out (by omega)
          have hc2k : c2 ≠ k := by omega
          have hkc2 : (k : Int) + 1 ≤ c2 := by omega
          have e1 : (k + 1 - k : Nat) = 1 := by omega
          rw [Nat.min_eq_left (by omega : k ≤ n2)] at HT
          go_wp2_with fail
          refine (HC2.out _ hk2 _ _ HT.out).mono ?_
          rintro e w5 ⟨rfl, h5⟩
          have HT5 := Lib.hid h5
          clear h5 HT
          go_wp2_with fail
          go_roundw
          case rel => exact ⟨k + 1, by omega, by go_num, by rw [Nat.min_eq_right (by omega : n1 ≤ k + 1), Nat.min_eq_left (by omega : k + 1 ≤ n2)]; exact HT5.out⟩
          case measure => simp [intOf]; omega
        · rw [Nat.min_eq_right (by omega : n2 ≤ k)] at HT
          clear HC1 HC2 HL1 HL2 HF1 HF2 HA1 HA2
          have hbl := HT.out.1
          have hz := hbl.size
          have hr1' := (HR1.out.below hbl).more hz
          have hr2' := (HR2.out.below hbl).more hz
          have HRA := Lib.hid hr1'
          have HRB := Lib.hid hr2'
          have HBL := Lib.hid hbl
          clear hr1' hr2' hbl
          obtain ⟨kf, hkf⟩ : ∃ kf, sha n1 f = kf := ⟨_, rfl⟩
          obtain ⟨kg, hkg⟩ : ∃ kg, sha n2 g = kg := ⟨_, rfl⟩
          have HKF := Lib.hid hkf
          have HKG := Lib.hid hkg
          clear hkf hkg
          have heqF : ∀ W, (binOp .eql 26 (keyV kf) (keyV kf)).run Try.prog W = .ok (.bool true) W := fun W => by
            rw [run_keyEq, keyEq_refl]
          have heqG : ∀ W, (binOp .eql 26 (keyV kg) (keyV kg)).run Try.prog W = .ok (.bool true) W := fun W => by
            rw [run_keyEq, keyEq_refl]
          go_wp2_with fail
          refine (write_nil _ _ _ _).mono ?_
          rintro e w4 ⟨rfl, rfl⟩
          go_wp2_with fail
          refine (dsum_any _ _ _ _ _ HT.out.2.1 (by omega)).mono ?_
          rintro e w4 ⟨rfl, hb4⟩
          rw [HKF.out]
          have ht4 := HT.out.2.2.below hb4
          have hra4 := (HRA.out.below hb4).more hb4.size
          have hrb4 := (HRB.out.below hb4).more hb4.size
          have hbl4 := HBL.out.trans (hb4.mono hz)
          have HT4 := Lib.hid ht4
          have HRA4 := Lib.hid hra4
          have HRB4 := Lib.hid hrb4
          have HBL4 := Lib.hid hbl4
          clear hb4 ht4 hra4 hrb4 hbl4 HT HRA HRB HBL hz
          go_wp2_with fail
          refine (rsha_any _ _ _ _ _ HRA4.out (by omega)).mono ?_
          rintro e w5 ⟨rfl, hb5⟩
          rw [HKF.out]
          have hz4 := HBL4.out.size
          have ht5 := HT4.out.below hb5
          have hrb5 := (HRB4.out.below hb5).more hb5.size
          have hbl5 := HBL4.out.trans (hb5.mono hz4)
          have HT5 := Lib.hid ht5
          have HRB5 := Lib.hid hrb5
          have HBL5 := Lib.hid hbl5
          clear hb5 ht5 hrb5 hbl5 HT4 HRA4 HRB4 HBL4 hz4
          go_wp2_with fail
          refine (dsum_any _ _ _ _ _ HT5.out (by omega)).mono ?_
          rintro e w6 ⟨rfl, hb6⟩
          rw [HKG.out]
          have hz4 := HBL5.out.size
          have hrb5 := (HRB5.out.below hb6).more hb6.size
          have hbl5 := HBL5.out.trans (hb6.mono hz4)
          have HRB6 := Lib.hid hrb5
          have HBL6 := Lib.hid hbl5
          clear hb6 hrb5 hbl5 HT5 HRB5 HBL5 hz4
          go_wp2_with fail
          refine (rsha_any _ _ _ _ _ HRB6.out (by omega)).mono ?_
          rintro e w7 ⟨rfl, hb7⟩
          rw [HKG.out]
          have hz4 := HBL6.out.size
          have hbl5 := HBL6.out.trans (hb7.mono hz4)
          have HBL7 := Lib.hid hbl5
          clear hb7 hbl5 HRB6 HBL6 hz4
          go_wp2_with fail
          refine (dsum_nil _).mono ?_
          rintro e w8 ⟨rfl, hb8⟩
          have hz4 := HBL7.out.size
          have hbl5 := HBL7.out.trans (hb8.mono hz4)
          have HBL8 := Lib.hid hbl5
          clear hb8 hbl5 HBL7 hz4
          have heq0 : ∀ W, (binOp .eql 26 (keyV (fun _ => 0)) (.agg #[.int .u8 0, .int .u8 0, .int .u8 0, .int .u8 0, .int .u8 0, .int .u8 0, .int .u8 0, .int .u8 0, .int .u8 0, .int .u8 0, .int .u8 0, .int .u8 0, .int .u8 0, .int .u8 0, .int .u8 0, .int .u8 0, .int .u8 0, .int .u8 0, .int .u8 0, .int .u8 0, .int .u8 0, .int .u8 0, .int .u8 0, .int .u8 0, .int .u8 0, .int .u8 0, .int .u8 0, .int .u8 0, .int .u8 0, .int .u8 0, .int .u8 0, .int .u8 0])).run Try.prog W = .ok (.bool true) W := fun W => by
            rw [show (Value.agg #[.int .u8 0, .int .u8 0, .int .u8 0, .int .u8 0, .int .u8 0, .int .u8 0, .int .u8 0, .int .u8 0, .int .u8 0, .int .u8 0, .int .u8 0, .int .u8 0, .int .u8 0, .int .u8 0, .int .u8 0, .int .u8 0, .int .u8 0, .int .u8 0, .int .u8 0, .int .u8 0, .int .u8 0, .int .u8 0, .int .u8 0, .int .u8 0, .int .u8 0, .int .u8 0, .int .u8 0, .int .u8 0, .int .u8 0, .int .u8 0, .int .u8 0, .int .u8 0]) = keyV (fun _ => 0) from rfl, run_keyEq, keyEq_refl]
          go_wp2_with fail
          refine (len_nil _).mono ?_
          rintro e w9 ⟨rfl, rfl⟩
          go_wp2_with fail
          refine (known_any _).mono ?_
          rintro e w9 ⟨rfl, hb9⟩
          go_wp2_with fail
          go_ret
          exact ⟨rfl, HBL8.out.trans (hb9.mono HBL8.out.size)⟩
end Go.Proofs.Ytpnbaoollmhkgaa
