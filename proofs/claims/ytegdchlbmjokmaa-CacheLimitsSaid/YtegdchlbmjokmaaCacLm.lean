/- CacheLimits: the walk. -/
import Derived.Test.YtegdchlbmjokmaaCacHs
import Derived.Outline
namespace Go.Proofs.Ytegdchlbmjokmaa
open Go.RowKit
set_option linter.unusedVariables false
set_option linter.unusedSimpArgs false
open Lnk

/-- the keys of CacheLimits -/
def lK (i : Nat) : Ky := fun j => if j = 0 then UInt8.ofNat i else if j = 1 then UInt8.ofNat (i / 256) else 0
theorem lK_ne {i j : Nat} (hi : i < 65536) (hj : j < 65536) (h : keyEq (lK i) (lK j) = true) : i = j := by
  rw [keyEq_iff] at h
  have h0 := h 0 (by omega)
  have h1 := h 1 (by omega)
  have e0 : UInt8.ofNat i = UInt8.ofNat j := h0
  have e1 : UInt8.ofNat (i / 256) = UInt8.ofNat (j / 256) := h1
  have f0 := congrArg UInt8.toNat e0
  have f1 := congrArg UInt8.toNat e1
  rw [UInt8.toNat_ofNat', UInt8.toNat_ofNat'] at f0 f1
  omega
/-- the keys behind i pushes -/
def lL (s i : Nat) : List Ky := ((List.range i).map lK).drop (i - s)
theorem lL_len (s i : Nat) : (lL s i).length = min i s := by unfold lL; rw [List.length_drop, List.length_map, List.length_range]; omega
theorem lL_new (s i : Nat) (hi : i < 65536) : hasK (lL s i) (lK i) = false := by
  rw [← Bool.not_eq_true]
  intro h
  obtain ⟨x, hx, hk⟩ := List.any_eq_true.1 h
  obtain ⟨j, hj, rfl⟩ := List.mem_map.1 (List.mem_of_mem_drop hx)
  have hj' := List.mem_range.1 hj
  have := lK_ne (by omega) hi hk
  omega
theorem push_lL (s i : Nat) (hi : i < 65536) : pushK (lL s i) s (lK i) = lL s (i + 1) := by
  unfold pushK
  rw [idxK_none (lL_new s i hi), lL_len]
  unfold lL
  rw [List.range_succ, List.map_append, List.map_singleton]
  by_cases h : i < s
  · rw [if_pos (by omega), show i - s = 0 by omega, show i + 1 - s = 0 by omega, List.drop_zero, List.drop_zero]
    first | rfl | skip
  · have e : ((List.range i).map lK).length = i := by simp
    rw [if_neg (by omega), show i + 1 - s = 1 + (i - s) by omega]
    have e2 : ((List.range i).map lK).drop (i - s) ++ [lK i] = ((List.range i).map lK ++ [lK i]).drop (i - s) := (List.drop_append_of_le_length (by rw [e]; omega)).symm
    show List.drop 1 (((List.range i).map lK).drop (i - s) ++ [lK i]) = _
    rw [e2, List.drop_drop, Nat.add_comm]
theorem built_lK (i a b : Nat) (ha : (UInt8.ofNat i).toNat = a) (hb : (UInt8.ofNat (i / 256)).toNat = b) : Try.prog.built 30 [(0, .int .u8 (a : Int)), (1, .int .u8 (b : Int))] = some (bytesOf 32 (lK i)).toArray := by
  have e : (bytesOf 32 (lK i)).toArray = #[.int .u8 (a : Int), .int .u8 (b : Int), .int .u8 0, .int .u8 0, .int .u8 0, .int .u8 0, .int .u8 0, .int .u8 0, .int .u8 0, .int .u8 0, .int .u8 0, .int .u8 0, .int .u8 0, .int .u8 0, .int .u8 0, .int .u8 0, .int .u8 0, .int .u8 0, .int .u8 0, .int .u8 0, .int .u8 0, .int .u8 0, .int .u8 0, .int .u8 0, .int .u8 0, .int .u8 0, .int .u8 0, .int .u8 0, .int .u8 0, .int .u8 0, .int .u8 0, .int .u8 0] := by
    rw [← ha, ← hb]
    kernel_rfl
  rw [e]
  clear e ha hb
  show _ = _
  kernel_rfl
def LmRel (w : World) (C s i : Nat) (wr : World) : Prop := Below w.heap.size w wr ∧ ∃ kb, CacL wr w.heap.size C s (lL s i) kb

set_option maxRecDepth 100000 in
set_option maxHeartbeats 2000000 in
theorem cacheLimits_0 (w : World) (z : Int) (h1 : -9223372036854775808 ≤ z ∧ z ≤ 9223372036854775807) (hp : placeN z 4 = 0) :
    Calls Try.prog 6 #[.int .i64 z] w fun e w' => e = .returned (.bool true) ∧ Below w.heap.size w w' := by
  have HP1 : Hid (∀ W, Calls Try.prog 9 #[.int .i64 z, .int .i64 4] W fun e w' => e = .returned (.int .i64 0) ∧ W = w') := fun W => by
    have := place_any W z 4 h1.1 h1.2 (by omega) (by omega)
    rw [hp] at this
    exact this
  have HNW : Hid (∀ W, Calls Try.prog 10 #[.int .i64 1023] W fun e w' => ∃ C, e = .returned (.pointer (some ⟨C, 0, none⟩)) ∧ Below W.heap.size W w' ∧ CacL w' W.heap.size C 1023 [] none ∧ W.heap.size ≤ C) := fun W => by
    have := cnewL_any W W.heap.size (Nat.le_refl _) 1023 ⟨by omega, by omega⟩
    rw [show clampC 1023 = 1023 by unfold clampC; omega] at this
    exact this
  obtain ⟨k1, hk1⟩ : ∃ k, kN 1 = k := ⟨_, rfl⟩
  have HK1 : Hid (∀ W, Calls Try.prog 11 #[.int .i64 1] W fun e w' => e = .returned (keyV k1) ∧ Below W.heap.size W w') := fun W => by rw [← hk1]; exact keyN_any W 1 (by omega)
  clear hp h1 hk1
  go_enter Try.func6, Try.ntmps6
  go_wp2_with fail
  refine (HP1.out _).mono ?_
  rintro e w' ⟨rfl, rfl⟩
  go_wp2_with fail
  refine (HNW.out _).mono ?_
  rintro e w1 ⟨C, rfl, hb1, hc1, hC⟩
  have HR : Hid (LmRel w C 1023 0 w1) := ⟨hb1, none, hc1⟩
  clear hb1 hc1 HNW
  go_wp2_with fail
  go_loopw [4] (fun i wr => ∃ n : Nat, n ≤ 1026 ∧ i = .int .i64 (n : Int) ∧ LmRel w C 1023 n wr) (fun i _ => 1026 - (intOf i).toNat)
  case atStart => exact ⟨0, by omega, rfl, HR.out⟩
  case round =>
    obtain ⟨n, hn, rfl, hr⟩ := hrel
    have HRn := Lib.hid hr
    clear hr HR
    rcases Nat.lt_or_ge n 1026 with hlt | hge
    · have t1 : (n : Int) < 1026 := by omega
      obtain ⟨a, ha⟩ : ∃ a : Nat, (UInt8.ofNat n).toNat = a := ⟨_, rfl⟩
      obtain ⟨b, hb⟩ : ∃ b : Nat, (UInt8.ofNat (n / 256)).toNat = b := ⟨_, rfl⟩
      have ha' : n % 256 = a := by rw [← ha, UInt8.toNat_ofNat']
      have hb' : n / 256 = b := by rw [← hb, UInt8.toNat_ofNat']; omega
      have HBD : Hid (Try.prog.built 30 [(0, .int .u8 (a : Int)), (1, .int .u8 (b : Int))] = some (bytesOf 32 (lK n)).toArray) := built_lK n a b ha hb
      have ha2 : a < 256 := by omega
      have hb2 : b < 256 := by omega
      have g1 : IntKind.u8.wrap (n : Int) = (a : Int) := by
        have : ((n : Int) % 256) = (a : Int) := by omega
        simp [IntKind.wrap, IntKind.bits, IntKind.signed, this]
      have g2 : IntKind.u8.wrap (b : Int) = (b : Int) := IntWalk.u8_in _ (by omega)
      have g3 : (n : Int) / 256 = (b : Int) := by omega
      clear ha hb ha' hb'
      obtain ⟨kb, hc⟩ := HRn.out.2
      have hzr := HRn.out.1.size
      have hp := cpush_any wr w.heap.size C 1023 (lL 1023 n) kb (lK n) hc hzr
      rw [push_lL 1023 n (by omega), lL_new 1023 n (by omega)] at hp
      have HPP := Lib.hid hp
      clear hc hp
      go_wp2_with ((refine wpList_buildTo rfl 30 _ rfl (bytesOf 32 (lK n)).toArray (by simp only [List.map_toArray, List.map_cons, List.map_nil]; exact HBD.out) ?_))
      refine HPP.out.mono ?_
      rintro e w3 hp3
      obtain ⟨rfl, hr3⟩ := hp3.step HRn.out.1 hzr
      have HR3 : Hid (LmRel w C 1023 (n + 1) w3) := hr3
      clear hr3 hp3 HPP
      go_wp2_with fail
      go_roundw
      case rel => exact ⟨n + 1, by omega, by go_num, HR3.out⟩
      case measure => simp [intOf]; omega
    · obtain rfl : n = 1026 := by omega
      have HB0 := Lib.hid HRn.out.1
      obtain ⟨kb, hc⟩ := HRn.out.2
      have hlen := clenL_any wr w.heap.size C 1023 (lL 1023 1026) kb hc
      rw [lL_len, show min 1026 1023 = 1023 from rfl] at hlen
      have HLN := Lib.hid hlen
      clear hlen hc
      go_wp2_with fail
      refine (nreset_any _).mono ?_
      rintro e w' ⟨rfl, rfl⟩
      go_wp2_with fail
      refine HLN.out.mono ?_
      rintro e w' ⟨rfl, rfl⟩
      go_wp2_with fail
      refine (HP1.out _).mono ?_
      rintro e w' ⟨rfl, rfl⟩
      go_wp2_with fail
      refine (HK1.out _).mono ?_
      rintro e w2 ⟨rfl, hb2⟩
      have HB2 := Lib.hid (HB0.out.trans (hb2.mono HB0.out.size))
      clear hb2
      go_wp2_with fail
      refine (npush_any _ k1).mono ?_
      rintro e w3 ⟨rfl, hb3⟩
      have HB3 := Lib.hid (HB2.out.trans (hb3.mono HB2.out.size))
      clear hb3
      go_wp2_with fail
      refine (HK1.out _).mono ?_
      rintro e w4 ⟨rfl, hb4⟩
      have HB4 := Lib.hid (HB3.out.trans (hb4.mono HB3.out.size))
      clear hb4
      go_wp2_with fail
      refine (npush_any _ k1).mono ?_
      rintro e w5 ⟨rfl, hb5⟩
      have HB5 := Lib.hid (HB4.out.trans (hb5.mono HB4.out.size))
      clear hb5
      go_wp2_with fail
      refine (HK1.out _).mono ?_
      rintro e w6 ⟨rfl, hb6⟩
      have HB6 := Lib.hid (HB5.out.trans (hb6.mono HB5.out.size))
      clear hb6
      go_wp2_with fail
      refine (nremove_any _ k1).mono ?_
      rintro e w7 ⟨rfl, hb7⟩
      have HB7 := Lib.hid (HB6.out.trans (hb7.mono HB6.out.size))
      clear hb7
      go_wp2_with fail
      refine (HK1.out _).mono ?_
      rintro e w8 ⟨rfl, hb8⟩
      have HB8 := Lib.hid (HB7.out.trans (hb8.mono HB7.out.size))
      clear hb8
      go_wp2_with fail
      refine (nhas_any _ k1).mono ?_
      rintro e w9 ⟨rfl, hb9⟩
      have HB9 := Lib.hid (HB8.out.trans (hb9.mono HB8.out.size))
      clear hb9
      go_wp2_with fail
      refine (nkeys_any _).mono ?_
      rintro e w' ⟨rfl, rfl⟩
      go_wp2_with fail
      refine (nlen_any _).mono ?_
      rintro e w' ⟨rfl, rfl⟩
      go_wp2_with fail
      refine (known_any _).mono ?_
      rintro e w10 ⟨rfl, hb10⟩
      have HB10 := Lib.hid (HB9.out.trans (hb10.mono HB9.out.size))
      clear hb10
      go_wp2_with fail
      go_ret
      exact ⟨rfl, HB10.out⟩

set_option maxRecDepth 100000 in
set_option maxHeartbeats 2000000 in
theorem cacheLimits_1 (w : World) (z : Int) (h1 : -9223372036854775808 ≤ z ∧ z ≤ 9223372036854775807) (hp : placeN z 4 = 1) :
    Calls Try.prog 6 #[.int .i64 z] w fun e w' => e = .returned (.bool true) ∧ Below w.heap.size w w' := by
  have HP1 : Hid (∀ W, Calls Try.prog 9 #[.int .i64 z, .int .i64 4] W fun e w' => e = .returned (.int .i64 1) ∧ W = w') := fun W => by
    have := place_any W z 4 h1.1 h1.2 (by omega) (by omega)
    rw [hp] at this
    exact this
  have HNW : Hid (∀ W, Calls Try.prog 10 #[.int .i64 1024] W fun e w' => ∃ C, e = .returned (.pointer (some ⟨C, 0, none⟩)) ∧ Below W.heap.size W w' ∧ CacL w' W.heap.size C 1024 [] none ∧ W.heap.size ≤ C) := fun W => by
    have := cnewL_any W W.heap.size (Nat.le_refl _) 1024 ⟨by omega, by omega⟩
    rw [show clampC 1024 = 1024 by unfold clampC; omega] at this
    exact this
  obtain ⟨k1, hk1⟩ : ∃ k, kN 1 = k := ⟨_, rfl⟩
  have HK1 : Hid (∀ W, Calls Try.prog 11 #[.int .i64 1] W fun e w' => e = .returned (keyV k1) ∧ Below W.heap.size W w') := fun W => by rw [← hk1]; exact keyN_any W 1 (by omega)
  clear hp h1 hk1
  go_enter Try.func6, Try.ntmps6
  go_wp2_with fail
  refine (HP1.out _).mono ?_
  rintro e w' ⟨rfl, rfl⟩
  go_wp2_with fail
  refine (HNW.out _).mono ?_
  rintro e w1 ⟨C, rfl, hb1, hc1, hC⟩
  have HR : Hid (LmRel w C 1024 0 w1) := ⟨hb1, none, hc1⟩
  clear hb1 hc1 HNW
  go_wp2_with fail
  go_loopw [4] (fun i wr => ∃ n : Nat, n ≤ 1026 ∧ i = .int .i64 (n : Int) ∧ LmRel w C 1024 n wr) (fun i _ => 1026 - (intOf i).toNat)
  case atStart => exact ⟨0, by omega, rfl, HR.out⟩
  case round =>
    obtain ⟨n, hn, rfl, hr⟩ := hrel
    have HRn := Lib.hid hr
    clear hr HR
    rcases Nat.lt_or_ge n 1026 with hlt | hge
    · have t1 : (n : Int) < 1026 := by omega
      obtain ⟨a, ha⟩ : ∃ a : Nat, (UInt8.ofNat n).toNat = a := ⟨_, rfl⟩
      obtain ⟨b, hb⟩ : ∃ b : Nat, (UInt8.ofNat (n / 256)).toNat = b := ⟨_, rfl⟩
      have ha' : n % 256 = a := by rw [← ha, UInt8.toNat_ofNat']
      have hb' : n / 256 = b := by rw [← hb, UInt8.toNat_ofNat']; omega
      have HBD : Hid (Try.prog.built 30 [(0, .int .u8 (a : Int)), (1, .int .u8 (b : Int))] = some (bytesOf 32 (lK n)).toArray) := built_lK n a b ha hb
      have ha2 : a < 256 := by omega
      have hb2 : b < 256 := by omega
      have g1 : IntKind.u8.wrap (n : Int) = (a : Int) := by
        have : ((n : Int) % 256) = (a : Int) := by omega
        simp [IntKind.wrap, IntKind.bits, IntKind.signed, this]
      have g2 : IntKind.u8.wrap (b : Int) = (b : Int) := IntWalk.u8_in _ (by omega)
      have g3 : (n : Int) / 256 = (b : Int) := by omega
      clear ha hb ha' hb'
      obtain ⟨kb, hc⟩ := HRn.out.2
      have hzr := HRn.out.1.size
      have hp := cpush_any wr w.heap.size C 1024 (lL 1024 n) kb (lK n) hc hzr
      rw [push_lL 1024 n (by omega), lL_new 1024 n (by omega)] at hp
      have HPP := Lib.hid hp
      clear hc hp
      go_wp2_with ((refine wpList_buildTo rfl 30 _ rfl (bytesOf 32 (lK n)).toArray (by simp only [List.map_toArray, List.map_cons, List.map_nil]; exact HBD.out) ?_))
      refine HPP.out.mono ?_
      rintro e w3 hp3
      obtain ⟨rfl, hr3⟩ := hp3.step HRn.out.1 hzr
      have HR3 : Hid (LmRel w C 1024 (n + 1) w3) := hr3
      clear hr3 hp3 HPP
      go_wp2_with fail
      go_roundw
      case rel => exact ⟨n + 1, by omega, by go_num, HR3.out⟩
      case measure => simp [intOf]; omega
    · obtain rfl : n = 1026 := by omega
      have HB0 := Lib.hid HRn.out.1
      obtain ⟨kb, hc⟩ := HRn.out.2
      have hlen := clenL_any wr w.heap.size C 1024 (lL 1024 1026) kb hc
      rw [lL_len, show min 1026 1024 = 1024 from rfl] at hlen
      have HLN := Lib.hid hlen
      clear hlen hc
      go_wp2_with fail
      refine (nreset_any _).mono ?_
      rintro e w' ⟨rfl, rfl⟩
      go_wp2_with fail
      refine HLN.out.mono ?_
      rintro e w' ⟨rfl, rfl⟩
      go_wp2_with fail
      refine (HP1.out _).mono ?_
      rintro e w' ⟨rfl, rfl⟩
      go_wp2_with fail
      refine (HK1.out _).mono ?_
      rintro e w2 ⟨rfl, hb2⟩
      have HB2 := Lib.hid (HB0.out.trans (hb2.mono HB0.out.size))
      clear hb2
      go_wp2_with fail
      refine (npush_any _ k1).mono ?_
      rintro e w3 ⟨rfl, hb3⟩
      have HB3 := Lib.hid (HB2.out.trans (hb3.mono HB2.out.size))
      clear hb3
      go_wp2_with fail
      refine (HK1.out _).mono ?_
      rintro e w4 ⟨rfl, hb4⟩
      have HB4 := Lib.hid (HB3.out.trans (hb4.mono HB3.out.size))
      clear hb4
      go_wp2_with fail
      refine (npush_any _ k1).mono ?_
      rintro e w5 ⟨rfl, hb5⟩
      have HB5 := Lib.hid (HB4.out.trans (hb5.mono HB4.out.size))
      clear hb5
      go_wp2_with fail
      refine (HK1.out _).mono ?_
      rintro e w6 ⟨rfl, hb6⟩
      have HB6 := Lib.hid (HB5.out.trans (hb6.mono HB5.out.size))
      clear hb6
      go_wp2_with fail
      refine (nremove_any _ k1).mono ?_
      rintro e w7 ⟨rfl, hb7⟩
      have HB7 := Lib.hid (HB6.out.trans (hb7.mono HB6.out.size))
      clear hb7
      go_wp2_with fail
      refine (HK1.out _).mono ?_
      rintro e w8 ⟨rfl, hb8⟩
      have HB8 := Lib.hid (HB7.out.trans (hb8.mono HB7.out.size))
      clear hb8
      go_wp2_with fail
      refine (nhas_any _ k1).mono ?_
      rintro e w9 ⟨rfl, hb9⟩
      have HB9 := Lib.hid (HB8.out.trans (hb9.mono HB8.out.size))
      clear hb9
      go_wp2_with fail
      refine (nkeys_any _).mono ?_
      rintro e w' ⟨rfl, rfl⟩
      go_wp2_with fail
      refine (nlen_any _).mono ?_
      rintro e w' ⟨rfl, rfl⟩
      go_wp2_with fail
      refine (known_any _).mono ?_
      rintro e w10 ⟨rfl, hb10⟩
      have HB10 := Lib.hid (HB9.out.trans (hb10.mono HB9.out.size))
      clear hb10
      go_wp2_with fail
      go_ret
      exact ⟨rfl, HB10.out⟩

set_option maxRecDepth 100000 in
set_option maxHeartbeats 2000000 in
theorem cacheLimits_2 (w : World) (z : Int) (h1 : -9223372036854775808 ≤ z ∧ z ≤ 9223372036854775807) (hp : placeN z 4 = 2) :
    Calls Try.prog 6 #[.int .i64 z] w fun e w' => e = .returned (.bool true) ∧ Below w.heap.size w w' := by
  have HP1 : Hid (∀ W, Calls Try.prog 9 #[.int .i64 z, .int .i64 4] W fun e w' => e = .returned (.int .i64 2) ∧ W = w') := fun W => by
    have := place_any W z 4 h1.1 h1.2 (by omega) (by omega)
    rw [hp] at this
    exact this
  have HNW : Hid (∀ W, Calls Try.prog 10 #[.int .i64 1025] W fun e w' => ∃ C, e = .returned (.pointer (some ⟨C, 0, none⟩)) ∧ Below W.heap.size W w' ∧ CacL w' W.heap.size C 1024 [] none ∧ W.heap.size ≤ C) := fun W => by
    have := cnewL_any W W.heap.size (Nat.le_refl _) 1025 ⟨by omega, by omega⟩
    rw [show clampC 1025 = 1024 by unfold clampC; omega] at this
    exact this
  obtain ⟨k1, hk1⟩ : ∃ k, kN 1 = k := ⟨_, rfl⟩
  have HK1 : Hid (∀ W, Calls Try.prog 11 #[.int .i64 1] W fun e w' => e = .returned (keyV k1) ∧ Below W.heap.size W w') := fun W => by rw [← hk1]; exact keyN_any W 1 (by omega)
  clear hp h1 hk1
  go_enter Try.func6, Try.ntmps6
  go_wp2_with fail
  refine (HP1.out _).mono ?_
  rintro e w' ⟨rfl, rfl⟩
  go_wp2_with fail
  refine (HNW.out _).mono ?_
  rintro e w1 ⟨C, rfl, hb1, hc1, hC⟩
  have HR : Hid (LmRel w C 1024 0 w1) := ⟨hb1, none, hc1⟩
  clear hb1 hc1 HNW
  go_wp2_with fail
  go_loopw [4] (fun i wr => ∃ n : Nat, n ≤ 1026 ∧ i = .int .i64 (n : Int) ∧ LmRel w C 1024 n wr) (fun i _ => 1026 - (intOf i).toNat)
  case atStart => exact ⟨0, by omega, rfl, HR.out⟩
  case round =>
    obtain ⟨n, hn, rfl, hr⟩ := hrel
    have HRn := Lib.hid hr
    clear hr HR
    rcases Nat.lt_or_ge n 1026 with hlt | hge
    · have t1 : (n : Int) < 1026 := by omega
      obtain ⟨a, ha⟩ : ∃ a : Nat, (UInt8.ofNat n).toNat = a := ⟨_, rfl⟩
      obtain ⟨b, hb⟩ : ∃ b : Nat, (UInt8.ofNat (n / 256)).toNat = b := ⟨_, rfl⟩
      have ha' : n % 256 = a := by rw [← ha, UInt8.toNat_ofNat']
      have hb' : n / 256 = b := by rw [← hb, UInt8.toNat_ofNat']; omega
      have HBD : Hid (Try.prog.built 30 [(0, .int .u8 (a : Int)), (1, .int .u8 (b : Int))] = some (bytesOf 32 (lK n)).toArray) := built_lK n a b ha hb
      have ha2 : a < 256 := by omega
      have hb2 : b < 256 := by omega
      have g1 : IntKind.u8.wrap (n : Int) = (a : Int) := by
        have : ((n : Int) % 256) = (a : Int) := by omega
        simp [IntKind.wrap, IntKind.bits, IntKind.signed, this]
      have g2 : IntKind.u8.wrap (b : Int) = (b : Int) := IntWalk.u8_in _ (by omega)
      have g3 : (n : Int) / 256 = (b : Int) := by omega
      clear ha hb ha' hb'
      obtain ⟨kb, hc⟩ := HRn.out.2
      have hzr := HRn.out.1.size
      have hp := cpush_any wr w.heap.size C 1024 (lL 1024 n) kb (lK n) hc hzr
      rw [push_lL 1024 n (by omega), lL_new 1024 n (by omega)] at hp
      have HPP := Lib.hid hp
      clear hc hp
      go_wp2_with ((refine wpList_buildTo rfl 30 _ rfl (bytesOf 32 (lK n)).toArray (by simp only [List.map_toArray, List.map_cons, List.map_nil]; exact HBD.out) ?_))
      refine HPP.out.mono ?_
      rintro e w3 hp3
      obtain ⟨rfl, hr3⟩ := hp3.step HRn.out.1 hzr
      have HR3 : Hid (LmRel w C 1024 (n + 1) w3) := hr3
      clear hr3 hp3 HPP
      go_wp2_with fail
      go_roundw
      case rel => exact ⟨n + 1, by omega, by go_num, HR3.out⟩
      case measure => simp [intOf]; omega
    · obtain rfl : n = 1026 := by omega
      have HB0 := Lib.hid HRn.out.1
      obtain ⟨kb, hc⟩ := HRn.out.2
      have hlen := clenL_any wr w.heap.size C 1024 (lL 1024 1026) kb hc
      rw [lL_len, show min 1026 1024 = 1024 from rfl] at hlen
      have HLN := Lib.hid hlen
      clear hlen hc
      go_wp2_with fail
      refine (nreset_any _).mono ?_
      rintro e w' ⟨rfl, rfl⟩
      go_wp2_with fail
      refine HLN.out.mono ?_
      rintro e w' ⟨rfl, rfl⟩
      go_wp2_with fail
      refine (HP1.out _).mono ?_
      rintro e w' ⟨rfl, rfl⟩
      go_wp2_with fail
      refine (HK1.out _).mono ?_
      rintro e w2 ⟨rfl, hb2⟩
      have HB2 := Lib.hid (HB0.out.trans (hb2.mono HB0.out.size))
      clear hb2
      go_wp2_with fail
      refine (npush_any _ k1).mono ?_
      rintro e w3 ⟨rfl, hb3⟩
      have HB3 := Lib.hid (HB2.out.trans (hb3.mono HB2.out.size))
      clear hb3
      go_wp2_with fail
      refine (HK1.out _).mono ?_
      rintro e w4 ⟨rfl, hb4⟩
      have HB4 := Lib.hid (HB3.out.trans (hb4.mono HB3.out.size))
      clear hb4
      go_wp2_with fail
      refine (npush_any _ k1).mono ?_
      rintro e w5 ⟨rfl, hb5⟩
      have HB5 := Lib.hid (HB4.out.trans (hb5.mono HB4.out.size))
      clear hb5
      go_wp2_with fail
      refine (HK1.out _).mono ?_
      rintro e w6 ⟨rfl, hb6⟩
      have HB6 := Lib.hid (HB5.out.trans (hb6.mono HB5.out.size))
      clear hb6
      go_wp2_with fail
      refine (nremove_any _ k1).mono ?_
      rintro e w7 ⟨rfl, hb7⟩
      have HB7 := Lib.hid (HB6.out.trans (hb7.mono HB6.out.size))
      clear hb7
      go_wp2_with fail
      refine (HK1.out _).mono ?_
      rintro e w8 ⟨rfl, hb8⟩
      have HB8 := Lib.hid (HB7.out.trans (hb8.mono HB7.out.size))
      clear hb8
      go_wp2_with fail
      refine (nhas_any _ k1).mono ?_
      rintro e w9 ⟨rfl, hb9⟩
      have HB9 := Lib.hid (HB8.out.trans (hb9.mono HB8.out.size))
      clear hb9
      go_wp2_with fail
      refine (nkeys_any _).mono ?_
      rintro e w' ⟨rfl, rfl⟩
      go_wp2_with fail
      refine (nlen_any _).mono ?_
      rintro e w' ⟨rfl, rfl⟩
      go_wp2_with fail
      refine (known_any _).mono ?_
      rintro e w10 ⟨rfl, hb10⟩
      have HB10 := Lib.hid (HB9.out.trans (hb10.mono HB9.out.size))
      clear hb10
      go_wp2_with fail
      go_ret
      exact ⟨rfl, HB10.out⟩

set_option maxRecDepth 100000 in
set_option maxHeartbeats 2000000 in
theorem cacheLimits_3 (w : World) (z : Int) (h1 : -9223372036854775808 ≤ z ∧ z ≤ 9223372036854775807) (hp : placeN z 4 = 3) :
    Calls Try.prog 6 #[.int .i64 z] w fun e w' => e = .returned (.bool true) ∧ Below w.heap.size w w' := by
  have HP1 : Hid (∀ W, Calls Try.prog 9 #[.int .i64 z, .int .i64 4] W fun e w' => e = .returned (.int .i64 3) ∧ W = w') := fun W => by
    have := place_any W z 4 h1.1 h1.2 (by omega) (by omega)
    rw [hp] at this
    exact this
  have HNW : Hid (∀ W, Calls Try.prog 10 #[.int .i64 1026] W fun e w' => ∃ C, e = .returned (.pointer (some ⟨C, 0, none⟩)) ∧ Below W.heap.size W w' ∧ CacL w' W.heap.size C 1024 [] none ∧ W.heap.size ≤ C) := fun W => by
    have := cnewL_any W W.heap.size (Nat.le_refl _) 1026 ⟨by omega, by omega⟩
    rw [show clampC 1026 = 1024 by unfold clampC; omega] at this
    exact this
  obtain ⟨k1, hk1⟩ : ∃ k, kN 1 = k := ⟨_, rfl⟩
  have HK1 : Hid (∀ W, Calls Try.prog 11 #[.int .i64 1] W fun e w' => e = .returned (keyV k1) ∧ Below W.heap.size W w') := fun W => by rw [← hk1]; exact keyN_any W 1 (by omega)
  clear hp h1 hk1
  go_enter Try.func6, Try.ntmps6
  go_wp2_with fail
  refine (HP1.out _).mono ?_
  rintro e w' ⟨rfl, rfl⟩
  go_wp2_with fail
  refine (HNW.out _).mono ?_
  rintro e w1 ⟨C, rfl, hb1, hc1, hC⟩
  have HR : Hid (LmRel w C 1024 0 w1) := ⟨hb1, none, hc1⟩
  clear hb1 hc1 HNW
  go_wp2_with fail
  go_loopw [4] (fun i wr => ∃ n : Nat, n ≤ 1026 ∧ i = .int .i64 (n : Int) ∧ LmRel w C 1024 n wr) (fun i _ => 1026 - (intOf i).toNat)
  case atStart => exact ⟨0, by omega, rfl, HR.out⟩
  case round =>
    obtain ⟨n, hn, rfl, hr⟩ := hrel
    have HRn := Lib.hid hr
    clear hr HR
    rcases Nat.lt_or_ge n 1026 with hlt | hge
    · have t1 : (n : Int) < 1026 := by omega
      obtain ⟨a, ha⟩ : ∃ a : Nat, (UInt8.ofNat n).toNat = a := ⟨_, rfl⟩
      obtain ⟨b, hb⟩ : ∃ b : Nat, (UInt8.ofNat (n / 256)).toNat = b := ⟨_, rfl⟩
      have ha' : n % 256 = a := by rw [← ha, UInt8.toNat_ofNat']
      have hb' : n / 256 = b := by rw [← hb, UInt8.toNat_ofNat']; omega
      have HBD : Hid (Try.prog.built 30 [(0, .int .u8 (a : Int)), (1, .int .u8 (b : Int))] = some (bytesOf 32 (lK n)).toArray) := built_lK n a b ha hb
      have ha2 : a < 256 := by omega
      have hb2 : b < 256 := by omega
      have g1 : IntKind.u8.wrap (n : Int) = (a : Int) := by
        have : ((n : Int) % 256) = (a : Int) := by omega
        simp [IntKind.wrap, IntKind.bits, IntKind.signed, this]
      have g2 : IntKind.u8.wrap (b : Int) = (b : Int) := IntWalk.u8_in _ (by omega)
      have g3 : (n : Int) / 256 = (b : Int) := by omega
      clear ha hb ha' hb'
      obtain ⟨kb, hc⟩ := HRn.out.2
      have hzr := HRn.out.1.size
      have hp := cpush_any wr w.heap.size C 1024 (lL 1024 n) kb (lK n) hc hzr
      rw [push_lL 1024 n (by omega), lL_new 1024 n (by omega)] at hp
      have HPP := Lib.hid hp
      clear hc hp
      go_wp2_with ((refine wpList_buildTo rfl 30 _ rfl (bytesOf 32 (lK n)).toArray (by simp only [List.map_toArray, List.map_cons, List.map_nil]; exact HBD.out) ?_))
      refine HPP.out.mono ?_
      rintro e w3 hp3
      obtain ⟨rfl, hr3⟩ := hp3.step HRn.out.1 hzr
      have HR3 : Hid (LmRel w C 1024 (n + 1) w3) := hr3
      clear hr3 hp3 HPP
      go_wp2_with fail
      go_roundw
      case rel => exact ⟨n + 1, by omega, by go_num, HR3.out⟩
      case measure => simp [intOf]; omega
    · obtain rfl : n = 1026 := by omega
      have HB0 := Lib.hid HRn.out.1
      obtain ⟨kb, hc⟩ := HRn.out.2
      have hlen := clenL_any wr w.heap.size C 1024 (lL 1024 1026) kb hc
      rw [lL_len, show min 1026 1024 = 1024 from rfl] at hlen
      have HLN := Lib.hid hlen
      clear hlen hc
      go_wp2_with fail
      refine (nreset_any _).mono ?_
      rintro e w' ⟨rfl, rfl⟩
      go_wp2_with fail
      refine HLN.out.mono ?_
      rintro e w' ⟨rfl, rfl⟩
      go_wp2_with fail
      refine (HP1.out _).mono ?_
      rintro e w' ⟨rfl, rfl⟩
      go_wp2_with fail
      refine (HK1.out _).mono ?_
      rintro e w2 ⟨rfl, hb2⟩
      have HB2 := Lib.hid (HB0.out.trans (hb2.mono HB0.out.size))
      clear hb2
      go_wp2_with fail
      refine (npush_any _ k1).mono ?_
      rintro e w3 ⟨rfl, hb3⟩
      have HB3 := Lib.hid (HB2.out.trans (hb3.mono HB2.out.size))
      clear hb3
      go_wp2_with fail
      refine (HK1.out _).mono ?_
      rintro e w4 ⟨rfl, hb4⟩
      have HB4 := Lib.hid (HB3.out.trans (hb4.mono HB3.out.size))
      clear hb4
      go_wp2_with fail
      refine (npush_any _ k1).mono ?_
      rintro e w5 ⟨rfl, hb5⟩
      have HB5 := Lib.hid (HB4.out.trans (hb5.mono HB4.out.size))
      clear hb5
      go_wp2_with fail
      refine (HK1.out _).mono ?_
      rintro e w6 ⟨rfl, hb6⟩
      have HB6 := Lib.hid (HB5.out.trans (hb6.mono HB5.out.size))
      clear hb6
      go_wp2_with fail
      refine (nremove_any _ k1).mono ?_
      rintro e w7 ⟨rfl, hb7⟩
      have HB7 := Lib.hid (HB6.out.trans (hb7.mono HB6.out.size))
      clear hb7
      go_wp2_with fail
      refine (HK1.out _).mono ?_
      rintro e w8 ⟨rfl, hb8⟩
      have HB8 := Lib.hid (HB7.out.trans (hb8.mono HB7.out.size))
      clear hb8
      go_wp2_with fail
      refine (nhas_any _ k1).mono ?_
      rintro e w9 ⟨rfl, hb9⟩
      have HB9 := Lib.hid (HB8.out.trans (hb9.mono HB8.out.size))
      clear hb9
      go_wp2_with fail
      refine (nkeys_any _).mono ?_
      rintro e w' ⟨rfl, rfl⟩
      go_wp2_with fail
      refine (nlen_any _).mono ?_
      rintro e w' ⟨rfl, rfl⟩
      go_wp2_with fail
      refine (known_any _).mono ?_
      rintro e w10 ⟨rfl, hb10⟩
      have HB10 := Lib.hid (HB9.out.trans (hb10.mono HB9.out.size))
      clear hb10
      go_wp2_with fail
      go_ret
      exact ⟨rfl, HB10.out⟩
theorem cacheLimits_any (w : World) (z : Int) (h1 : -9223372036854775808 ≤ z ∧ z ≤ 9223372036854775807) :
    Calls Try.prog 6 #[.int .i64 z] w fun e w' => e = .returned (.bool true) ∧ Below w.heap.size w w' := by
  have hp : placeN z 4 < 4 := placeN_lt _ (by omega)
  rcases (show placeN z 4 = 0 ∨ placeN z 4 = 1 ∨ placeN z 4 = 2 ∨ placeN z 4 = 3 by omega) with h | h | h | h
  · exact cacheLimits_0 w z h1 h
  · exact cacheLimits_1 w z h1 h
  · exact cacheLimits_2 w z h1 h
  · exact cacheLimits_3 w z h1 h
end Go.Proofs.Ytegdchlbmjokmaa
