/- CacheHas: the walk. -/
import Derived.Test.YtegdchlbmjokmaaCacKn
import Derived.Outline
namespace Go.Proofs.Ytegdchlbmjokmaa
open Go.RowKit
set_option linter.unusedVariables false
set_option linter.unusedSimpArgs false
open Lnk

def kN (n : Nat) : Ky := kOf (UInt8.ofNat n)
theorem keyN_any (w : World) (n : Nat) (hn : n < 256) : Calls Try.prog 11 #[.int .i64 (n : Int)] w fun e w' => e = .returned (keyV (kN n)) ∧ Below w.heap.size w w' := by
  have h := keyOf_any w (UInt8.ofNat n)
  have e : ((UInt8.ofNat n).toNat : Int) = (n : Int) := by rw [UInt8.toNat_ofNat', Nat.mod_eq_of_lt hn]
  rw [e] at h
  exact h
def ksN (n : Nat) : List Ky := (List.range n).map kN
theorem ksN_len (n : Nat) : (ksN n).length = n := by simp [ksN]
theorem ksN_snoc (n : Nat) : ksN (n + 1) = ksN n ++ [kN n] := by unfold ksN; rw [List.range_succ, List.map_append]; rfl
theorem ksN_new (n : Nat) (h : n < 10) : hasK (ksN n) (kN n) = false := by
  have : ∀ n, n < 10 → hasK (ksN n) (kN n) = false := by decide +kernel
  exact this n h
theorem ksN_first (n : Nat) (h0 : 0 < n) (h : n < 10) : hasK (ksN n) (kN 0) = true := by
  have : ∀ n, n < 10 → 0 < n → hasK (ksN n) (kN 0) = true := by decide +kernel
  exact this n h h0
theorem ksN_end (n : Nat) (h0 : 0 < n) (h : n < 10) : hasK ((ksN (n + 1)).drop 1) (kN 0) = false ∧ hasK ((ksN (n + 1)).drop 1) (kN n) = true := by
  have : ∀ n, n < 10 → 0 < n → hasK ((ksN (n + 1)).drop 1) (kN 0) = false ∧ hasK ((ksN (n + 1)).drop 1) (kN n) = true := by decide +kernel
  exact this n h h0
theorem pushN (s n : Nat) (hs : s < 10) (h : n < s) : pushK (ksN n) s (kN n) = ksN (n + 1) := by
  unfold pushK
  rw [idxK_none (ksN_new n (by omega)), ksN_len, if_pos h, ksN_snoc]
  rfl
theorem pushN_full (s : Nat) (hs : s < 10) : pushK (ksN s) s (kN s) = (ksN (s + 1)).drop 1 := by
  unfold pushK
  rw [idxK_none (ksN_new s hs), ksN_len, if_neg (Nat.lt_irrefl _), ksN_snoc]
/-- what a call of the cache leaves, for a walk in which all is new -/
theorem CPost.step {w0 w w' : World} {B C sz : Nat} {kb : Option Nat} {L : List Ky} {v : Value} {e : Ending} (hb : Below B w0 w) (hB : B ≤ w.heap.size) (h : CPost w B C sz kb L v e w') : e = .returned v ∧ Below B w0 w' ∧ ∃ kb', CacL w' B C sz L kb' := by
  obtain ⟨_, _, kb2, _, hc⟩ := id h
  exact ⟨h.1, h.below hb hB, kb2, hc⟩
def HsRel (w : World) (C s i : Nat) (wr : World) : Prop := Below w.heap.size w wr ∧ ∃ kb, CacL wr w.heap.size C s (ksN i) kb

set_option maxRecDepth 100000 in
set_option maxHeartbeats 2000000 in
theorem cacheHas_any (w : World) (size asks : Int) (h1 : -9223372036854775808 ≤ size ∧ size ≤ 9223372036854775807) (h2 : -9223372036854775808 ≤ asks ∧ asks ≤ 9223372036854775807) :
    Calls Try.prog 4 #[.int .i64 size, .int .i64 asks] w fun e w' => e = .returned (.bool true) ∧ Below w.heap.size w w' := by
  obtain ⟨p, hp⟩ : ∃ p, placeN size 8 = p := ⟨_, rfl⟩
  obtain ⟨q, hq⟩ : ∃ q, placeN asks 4 = q := ⟨_, rfl⟩
  have hp8 : p < 8 := by rw [← hp]; exact placeN_lt _ (by omega)
  have hq4 : q < 4 := by rw [← hq]; exact placeN_lt _ (by omega)
  have HP1 : Hid (∀ W, Calls Try.prog 9 #[.int .i64 size, .int .i64 8] W fun e w' => e = .returned (.int .i64 (p : Int)) ∧ W = w') := fun W => by rw [← hp]; exact place_any W size 8 h1.1 h1.2 (by omega) (by omega)
  have HP2 : Hid (∀ W, Calls Try.prog 9 #[.int .i64 asks, .int .i64 4] W fun e w' => e = .returned (.int .i64 (q : Int)) ∧ W = w') := fun W => by rw [← hq]; exact place_any W asks 4 h2.1 h2.2 (by omega) (by omega)
  obtain ⟨s, hs⟩ : ∃ s, p + 1 = s := ⟨_, rfl⟩
  have hs' : 1 + (p : Int) = (s : Int) := by omega
  have hs1 : 1 ≤ s := by omega
  have hs8 : s ≤ 8 := by omega
  have HS := Lib.hid hs'
  have HNW : Hid (∀ W, Calls Try.prog 10 #[.int .i64 (s : Int)] W fun e w' => ∃ C, e = .returned (.pointer (some ⟨C, 0, none⟩)) ∧ Below W.heap.size W w' ∧ CacL w' W.heap.size C s [] none ∧ W.heap.size ≤ C) := fun W => by
    have := cnewL_any W W.heap.size (Nat.le_refl _) (s : Int) ⟨by omega, by omega⟩
    rw [show clampC (s : Int) = s by unfold clampC; omega] at this
    exact this
  clear hp hq h1 h2 hs
  go_enter Try.func4, Try.ntmps4
  go_wp2_with fail
  refine (HP1.out _).mono ?_
  rintro e w' ⟨rfl, rfl⟩
  go_wp2_with fail
  refine (HNW.out _).mono ?_
  rintro e w1 ⟨C, rfl, hb1, hc1, hC⟩
  have HR : Hid (HsRel w C s 0 w1) := ⟨hb1, none, hc1⟩
  clear hb1 hc1 hs' HS HNW
  go_wp2_with fail
  go_loopw [6] (fun i wr => ∃ n : Nat, n ≤ s ∧ i = .int .i64 (n : Int) ∧ HsRel w C s n wr) (fun i _ => s - (intOf i).toNat)
  case atStart => exact ⟨0, by omega, rfl, HR.out⟩
  case round =>
    obtain ⟨n, hn, rfl, hr⟩ := hrel
    have HRn := Lib.hid hr
    clear hr HR
    rcases Nat.lt_or_ge n s with hlt | hge
    · have t1 : (n : Int) < s := by omega
      go_wp2_with fail
      refine (keyN_any _ n (by omega)).mono ?_
      rintro e w2 ⟨rfl, hb2⟩
      obtain ⟨kk, hkk⟩ : ∃ k, kN n = k := ⟨_, rfl⟩
      have hzr := HRn.out.1.size
      have hB2 := HRn.out.1.trans (hb2.mono hzr)
      obtain ⟨kb, hc⟩ := HRn.out.2
      have hp := cpush_any w2 w.heap.size C s (ksN n) kb (kN n) (hc.below hb2) hB2.size
      rw [pushN s n (by omega) hlt, ksN_new n (by omega)] at hp
      rw [hkk] at hp ⊢
      have HPP := Lib.hid hp
      have HB2 := Lib.hid hB2
      have HKK := Lib.hid hkk
      clear hb2 hc hp hB2 hkk
      go_wp2_with fail
      refine HPP.out.mono ?_
      rintro e w3 hp3
      obtain ⟨rfl, hr3⟩ := hp3.step HB2.out HB2.out.size
      have HR3 : Hid (HsRel w C s (n + 1) w3) := hr3
      clear hr3 hp3 HPP
      go_wp2_with fail
      go_roundw
      case rel => exact ⟨n + 1, by omega, by go_num, HR3.out⟩
      case measure => simp [intOf]; omega
    · obtain rfl : n = s := by omega
      go_wp2_with fail
      refine (HP2.out _).mono ?_
      rintro e w' ⟨rfl, rfl⟩
      go_wp2_with fail
      obtain ⟨wo, rfl⟩ : ∃ wo : World, wo = wr := ⟨_, rfl⟩
      have hqi : (q : Int) = ((q + 1 : Nat) : Int) - 1 := by omega
      have HQI := Lib.hid hqi
      clear hqi
      go_loopw [7] (fun i wr => ∃ j : Nat, j ≤ q + 1 ∧ i = .int .i64 ((j : Int) - 1) ∧ HsRel w C n n wr) (fun i _ => (intOf i + 1).toNat)
      case atStart => exact ⟨q + 1, by omega, by rw [← HQI.out], HRn.out⟩
      case round =>
        obtain ⟨j, hj, rfl, hr⟩ := hrel
        have HRj := Lib.hid hr
        clear hr HRn HQI
        rcases Nat.eq_zero_or_pos j with rfl | hj0
        · have t2 : ¬ (0 : Int) ≤ ((0 : Nat) : Int) - 1 := by omega
          go_wp2_with fail
          refine (keyN_any _ n (by omega)).mono ?_
          rintro e w2 ⟨rfl, hb2⟩
          have hzr := HRj.out.1.size
          have hB2 := HRj.out.1.trans (hb2.mono hzr)
          obtain ⟨kb, hc⟩ := HRj.out.2
          have hp := cpush_any w2 w.heap.size C n (ksN n) kb (kN n) (hc.below hb2) hB2.size
          rw [pushN_full n (by omega), ksN_new n (by omega)] at hp
          have HB2 := Lib.hid hB2
          obtain ⟨kk, hkk⟩ : ∃ k, kN n = k := ⟨_, rfl⟩
          obtain ⟨k0', hk0⟩ : ∃ k, kN 0 = k := ⟨_, rfl⟩
          have HK0 : Hid (∀ W, Calls Try.prog 11 #[.int .i64 0] W fun e w' => e = .returned (keyV k0') ∧ Below W.heap.size W w') := fun W => by rw [← hk0]; exact keyN_any W 0 (by omega)
          have HKn : Hid (∀ W, Calls Try.prog 11 #[.int .i64 (n : Int)] W fun e w' => e = .returned (keyV kk) ∧ Below W.heap.size W w') := fun W => by rw [← hkk]; exact keyN_any W n (by omega)
          obtain ⟨L, hL⟩ : ∃ L, (ksN (n + 1)).drop 1 = L := ⟨_, rfl⟩
          obtain ⟨e1, e2⟩ := ksN_end n (by omega) (by omega)
          have hlen : L.length = n := by rw [← hL, List.length_drop, ksN_len]; omega
          rw [hL] at hp e1 e2
          rw [hkk] at hp e2 ⊢
          rw [hk0] at e1
          have HPP := Lib.hid hp
          have HE := Lib.hid (And.intro e1 (And.intro e2 hlen))
          clear hb2 hc hp hB2 hkk hk0 hL e1 e2 hlen
          go_wp2_with fail
          refine HPP.out.mono ?_
          rintro e w3 hp3
          obtain ⟨rfl, hB3, kb3, hc3⟩ := hp3.step HB2.out HB2.out.size
          have HB3 := Lib.hid hB3
          have HC3 := Lib.hid hc3
          clear hB3 hc3 hp3 HPP HRj
          go_wp2_with fail
          refine (HK0.out _).mono ?_
          rintro e w4 ⟨rfl, hb4⟩
          have HB4 := Lib.hid (HB3.out.trans (hb4.mono HB3.out.size))
          have HC4 := Lib.hid (HC3.out.below hb4)
          clear hb4
          go_wp2_with fail
          have hp := chasL_any w4 w.heap.size C n L kb3 k0' HC4.out
          rw [HE.out.1] at hp
          refine hp.mono ?_
          clear hp
          rintro e w5 ⟨rfl, hb5⟩
          have HB5 := Lib.hid (HB4.out.trans (hb5.mono HB4.out.size))
          have HC5 := Lib.hid (HC4.out.below hb5)
          clear hb5
          go_wp2_with fail
          refine (HKn.out _).mono ?_
          rintro e w6 ⟨rfl, hb6⟩
          have HB6 := Lib.hid (HB5.out.trans (hb6.mono HB5.out.size))
          have HC6 := Lib.hid (HC5.out.below hb6)
          clear hb6
          go_wp2_with fail
          have hp := chasL_any w6 w.heap.size C n L kb3 kk HC6.out
          rw [HE.out.2.1] at hp
          refine hp.mono ?_
          clear hp
          rintro e w7 ⟨rfl, hb7⟩
          have HB7 := Lib.hid (HB6.out.trans (hb7.mono HB6.out.size))
          have HC7 := Lib.hid (HC6.out.below hb7)
          clear hb7
          go_wp2_with fail
          have hlen := clenL_any w7 w.heap.size C n L kb3 HC7.out
          rw [HE.out.2.2] at hlen
          refine hlen.mono ?_
          clear hlen
          rintro e w8 ⟨rfl, rfl⟩
          go_wp2_with fail
          refine (known_any _).mono ?_
          rintro e w9 ⟨rfl, hb9⟩
          have HB9 := Lib.hid (HB7.out.trans (hb9.mono HB7.out.size))
          clear hb9
          go_wp2_with fail
          go_ret
          exact ⟨rfl, HB9.out⟩
        · have t2 : (0 : Int) ≤ (j : Int) - 1 := by omega
          go_wp2_with fail
          have HK0 := keyN_any wr 0 (by omega)
          rw [show ((0 : Nat) : Int) = 0 from rfl] at HK0
          refine HK0.mono ?_
          rintro e w2 ⟨rfl, hb2⟩
          have hzr := HRj.out.1.size
          have hB2 := HRj.out.1.trans (hb2.mono hzr)
          obtain ⟨kb, hc⟩ := HRj.out.2
          have hc2 := hc.below hb2
          have hp := chasL_any w2 w.heap.size C n (ksN n) kb (kN 0) hc2
          rw [ksN_first n (by omega) (by omega)] at hp
          have HB2 := Lib.hid hB2
          have HC2 := Lib.hid hc2
          obtain ⟨kk, hkk⟩ : ∃ k, kN 0 = k := ⟨_, rfl⟩
          rw [hkk] at hp ⊢
          have HPP := Lib.hid hp
          clear hb2 hc hc2 hp hB2 hkk HK0
          go_wp2_with fail
          refine HPP.out.mono ?_
          rintro e w3 ⟨rfl, hb3⟩
          have HR3 : Hid (HsRel w C n n w3) := ⟨HB2.out.trans (hb3.mono HB2.out.size), kb, HC2.out.below hb3⟩
          clear hb3 HPP
          go_wp2_with fail
          go_roundw
          case rel => exact ⟨j - 1, by omega, by congr 1; omega, HR3.out⟩
          case measure => simp [intOf]; omega
end Go.Proofs.Ytegdchlbmjokmaa
