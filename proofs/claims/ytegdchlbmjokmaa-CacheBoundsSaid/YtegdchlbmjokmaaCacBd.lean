/- CacheBounds: the walk. -/
import Derived.Test.YtegdchlbmjokmaaCacBs
import Derived.Outline
namespace Go.Proofs.Ytegdchlbmjokmaa
open Go.RowKit
set_option linter.unusedVariables false
set_option linter.unusedSimpArgs false
open Lnk

def kN (n : Nat) : Ky := kOf (UInt8.ofNat n)
theorem keyN_any (w : World) (n : Nat) (hn : n < 256) : Calls Try.prog 11 #[.int .i64 (n : Int)] w fun e w' => e = .returned (keyV (kN n)) ∧ Below w.heap.size w w' := by
  have h := keyOf_any w (UInt8.ofNat n)
  have e : ((UInt8.ofNat n).toNat : Int) = (n : Int) := by rw [UInt8.toNat_ofNat', Nat.mod_eq_of_lt hn]
  rw [e] at h
  exact h
set_option maxRecDepth 100000 in
set_option maxHeartbeats 16000000 in
attribute [local go_sem ↓] wp_load_k in
theorem cacheBounds_any (w : World) (A : Option Addr) (n c : Nat) (f : Nat → Int) (h : IntsAt w w.heap.size A n c f) (size : Int) (hsz : -9223372036854775808 ≤ size ∧ size ≤ 9223372036854775807) :
    Calls Try.prog 3 #[.slice A n c, .int .i64 size] w fun e w' => e = .returned (.bool true) ∧ Below w.heap.size w w' := by
  obtain ⟨i0, hi0, hz0', hz1, hz2⟩ := info_parts key_info
  have HI0 := Lib.hid hi0
  have HZ0 := Lib.hid hz0'
  have hnc : n ≤ 9223372036854775807 := Nat.le_trans h.1 h.2.1
  have HI := Lib.hid h
  clear h hi0 hz0'
  by_cases hbig : 160 < n
  · have hb : decide (160 < (n : Int)) = true := by simp; omega
    go_enter Try.func3, Try.ntmps3
    go_wp2_with fail
    refine (long_any w A n c _ _ rfl hnc true hb).mono ?_
    rintro e w1 ⟨rfl, rfl⟩
    go_wp2_with fail
    refine (known_any _).mono ?_
    rintro e w1 ⟨rfl, hb1⟩
    have HB := Lib.hid (((Below.refl w.heap.size w).alloc (Nat.le_refl _) _).trans (hb1.mono (by simp)))
    clear hb1
    go_wp2_with fail
    go_ret
    exact ⟨rfl, HB.out⟩
  have hb : decide (160 < (n : Int)) = false := by simp; omega
  have hn : n ≤ 160 := by omega
  obtain ⟨p, hp⟩ : ∃ p, placeN size 6 = p := ⟨_, rfl⟩
  have hp6 : p < 6 := by rw [← hp]; exact placeN_lt _ (by omega)
  have HP1 : Hid (∀ W, Calls Try.prog 9 #[.int .i64 size, .int .i64 6] W fun e w' => e = .returned (.int .i64 (p : Int)) ∧ W = w') := fun W => by rw [← hp]; exact place_any W size 6 hsz.1 hsz.2 (by omega) (by omega)
  obtain ⟨s, hs⟩ : ∃ s, p + 1 = s := ⟨_, rfl⟩
  have hs' : 1 + (p : Int) = (s : Int) := by omega
  have hs1 : 1 ≤ s := by omega
  have hs8 : s ≤ 6 := by omega
  clear hbig hp hsz hs
  go_enter Try.func3, Try.ntmps3
  go_wp2_with fail
  refine (long_any w A n c _ _ rfl hnc false hb).mono ?_
  rintro e w1 ⟨rfl, rfl⟩
  go_wp2_with fail
  generalize hwa : World.alloc w _ = wa
  have hb0 : Below w.heap.size w wa := by rw [← hwa]; exact (Below.refl _ _).alloc (Nat.le_refl _) _
  obtain ⟨B, hB⟩ : ∃ B, wa.heap.size = B := ⟨_, rfl⟩
  have hI : IntsAt wa B A n c f := by rw [← hB]; exact (HI.out.below hb0).more hb0.size
  have hwB : w.heap.size ≤ B := by rw [← hB]; exact hb0.size
  have HB0 := Lib.hid hb0
  have HIA := Lib.hid hI
  have HBB := Lib.hid hB
  clear hwa hb0 hb hI HI
  refine (HP1.out _).mono ?_
  rintro e w' ⟨rfl, rfl⟩
  go_wp2_with fail
  have HNW : Hid (Calls Try.prog 10 #[.int .i64 (s : Int)] wa fun e w' => ∃ C, e = .returned (.pointer (some ⟨C, 0, none⟩)) ∧ Below wa.heap.size wa w' ∧ CacL w' B C s [] none ∧ wa.heap.size ≤ C) := by
    have := cnewL_any wa B (by omega) (s : Int) ⟨by omega, by omega⟩
    rw [show clampC (s : Int) = s by unfold clampC; omega] at this
    exact this
  refine HNW.out.mono ?_
  rintro e w5 ⟨C, rfl, hb5, hc5, hC⟩
  have HR5 : Hid (BRel wa B C s (.slice none 0 0) w5) := ⟨[], none, none, by rw [← hB]; exact hb5, by rw [← hB]; exact hb5.size, hc5, KL.nil _, fun g hg => by cases hg⟩
  clear hb5 hc5 hC hs' HNW HP1 hB
  go_wp2_with fail
  obtain ⟨hI1, hI2, ib, io, hIA, hIc, hIb⟩ := HIA.out
  have HIC := Lib.hid hIc
  have HIB := Lib.hid hIb
  have HIAd := Lib.hid hIA
  clear hIA hIc hIb
  go_loopw [6, 25] (fun mv i wr => ∃ j : Nat, j ≤ n ∧ i = .int .i64 (j : Int) ∧ BRel wa B C s mv wr) (fun _ i _ => n - (intOf i).toNat)
  case atStart => exact ⟨0, by omega, rfl, HR5.out⟩
  case round =>
    obtain ⟨j, hj, rfl, L, kb, gb, hst⟩ := hrel
    have hmv : ∃ A8 c8, u6 = .slice A8 L.length c8 := by
      obtain ⟨A8, c8, h8, _⟩ := hst.kl.keys
      rw [List.length_reverse] at h8
      exact ⟨A8, c8, h8⟩
    obtain ⟨A8, c8, rfl⟩ := hmv
    have hLl := hst.cac.len
    obtain ⟨ln, hln⟩ : ∃ l, L.length = l := ⟨_, rfl⟩
    rw [hln] at hst hLl ⊢
    have HLN := Lib.hid hln
    have HST := Lib.hid hst
    clear hst hln HR5
    rcases Nat.lt_or_ge j n with hlt | hge
    · skip
      have t1 : (j : Int) < n := by omega
      have t2 : (0 : Int) ≤ j := by omega
      obtain ⟨rfl, hibB⟩ := HIAd.out (by omega)
      have x1 : wr.cell? ⟨ib, io + j, none⟩ = some (.int .i64 (f j)) := (HST.out.bel.cell (p := ⟨ib, io + j, none⟩) hibB).trans (HIC.out j hlt)
      obtain ⟨y1, y2⟩ := HIB.out j hlt
      obtain ⟨x, hx⟩ : ∃ x, f j = x := ⟨_, rfl⟩
      rw [hx] at x1 y1 y2
      obtain ⟨q, hq⟩ : ∃ q, placeN x 11 = q := ⟨_, rfl⟩
      have hq11 : q < 11 := by rw [← hq]; exact placeN_lt _ (by omega)
      have HPL : Hid (∀ W, Calls Try.prog 9 #[.int .i64 x, .int .i64 11] W fun e w' => e = .returned (.int .i64 (q : Int)) ∧ W = w') := fun W => by rw [← hq]; exact place_any W x 11 y1 y2 (by omega) (by omega)
      clear hx hq
      go_wp2_with fail
      refine (HPL.out _).mono ?_
      rintro e w' ⟨rfl, rfl⟩
      go_wp2_with fail
      refine (keyN_any wr q (by omega)).mono ?_
      rintro e w2 ⟨rfl, hb2⟩
      obtain ⟨kk, hkk⟩ : ∃ k, kN q = k := ⟨_, rfl⟩
      rw [hkk]
      have HS2 := Lib.hid (HST.out.below hb2)
      clear hb2 hkk x1
      go_wp2_with (refine wpList_store_rowTo rfl 30 (.tmp 9) (.tmp 31) rfl rfl w2.heap.size (bytesOf 32 kk).toArray rfl rfl _ _ (heap_alloc_new _ _) (by rw [keyV_size]; kernel_rfl) (by rw [keyV_size]; kernel_rfl) (keyV_one _) ?_
                   generalize hwc : World.setRow _ _ _ = w3
                   have hk3 : Blk w3 w2.heap.size 30 (bytesOf 32 kk).toArray := by rw [← hwc]; exact setRow_same _ _ _ _ _ (heap_alloc_new _ _)
                   have hb3 : Below w2.heap.size w2 w3 := by rw [← hwc]; exact below_setRow ((Below.refl _ _).alloc (Nat.le_refl _) _) (Nat.le_refl _) _
                   have hx3 : Box w3 w2.heap.size kk kb := ⟨hk3, fun e => by have := HS2.out.cac.kb_lt _ e; omega⟩
                   obtain ⟨box, hbox⟩ : ∃ b, w2.heap.size = b := ⟨_, rfl⟩
                   rw [hbox] at hx3 ⊢
                   have HX3 := Lib.hid hx3
                   have HS3 := Lib.hid (HS2.out.below hb3)
                   have q1 := keyOk_mk (blk_key hx3.blk)
                   have q2 := loadK_eq (blk_key hx3.blk)
                   have hcp := cpush_any w3 B C s L kb kk HS3.out.cac HS3.out.le
                   have HCP := Lib.hid hcp
                   clear hwc hk3 hb3 hx3 hbox hcp HS2)
      refine HCP.out.mono ?_
      rintro e w4 hp4
      obtain ⟨rfl, kb4, hs4, hx4⟩ := HS3.out.push HX3.out hp4
      have HS4 := Lib.hid hs4
      have HX4 := Lib.hid hx4
      clear hp4 hs4 hx4 q1 q2 HCP HS3 HX3
      have q1 := keyOk_mk (blk_key HX4.out.blk)
      have q2 := loadK_eq (blk_key HX4.out.blk)
      go_wp2_with fail
      refine (rdrop_any w4 _ L.reverse gb HS4.out.kl (by rw [List.length_reverse, HLN.out]; omega) kk).mono ?_
      rintro e w5 ⟨v5, gb5, rfl, hb5, hk5, hg5⟩
      obtain ⟨M, hM⟩ : ∃ M, dropK L.reverse kk = M := ⟨_, rfl⟩
      obtain ⟨A5, c5, rfl, _⟩ := hk5.keys
      rw [hM] at hk5 ⊢
      obtain ⟨m, hm⟩ : ∃ m, M.length = m := ⟨_, rfl⟩
      rw [hm] at hk5 ⊢
      obtain ⟨z1, z2, z3, hrd5⟩ := hk5.reads
      have hms : m ≤ s := by
        rw [← hm, ← hM]
        unfold dropK
        have hlr : L.reverse.length = ln := by rw [List.length_reverse, HLN.out]
        split
        · rename_i i _
          show (lackT L.reverse i).length ≤ s
          unfold lackT
          simp only [List.length_append, List.length_take, List.length_drop]
          omega
        · omega
      have hX5 := HX4.out.below hb5
      have hs5 := HS4.out.other hb5 hk5 hg5
      have HS5 := Lib.hid hs5
      have HX5 := Lib.hid hX5
      have HM := Lib.hid hM
      have HMM := Lib.hid hm
      have HRD : Hid (Reads (w5.alloc (.cells (bytesOf 32 kk).toArray 30)) (w5.alloc (.cells (bytesOf 32 kk).toArray 30)).heap.size 32 A5 m (keysOf M)) := (hrd5.alloc (Nat.le_refl _) _).more (by simp)
      have HO5 : Hid ((w5.alloc (.cells (bytesOf 32 kk).toArray 30)).ownsRow w5.heap.size 30 32 (.slice (some ⟨w5.heap.size, 0, none⟩) 1 1) 1 (keysOf [kk])) := by
        show World.ownsRow _ _ _ _ _ _ _
        rw [keysOf_one]
        exact ⟨by rw [bytesOf_length], .inr ⟨w5.heap.size, 1, _, rfl, Nat.le_refl _, heap_alloc_new _ _, Nat.le_refl _, by unfold maxLen; omega, by rw [keyV_size], by rw [List.toList_toArray, List.take_of_length_le (by rw [bytesOf_length]; omega)]⟩⟩
      clear q1 q2
      have q1 := keyOk_mk (blk_key HX5.out.blk)
      have q2 := loadK_eq (blk_key HX5.out.blk)
      clear hb5 hk5 hg5 hrd5 hX5 hs5 hM hm z1 HS4 HX4
      have hmm : 1 + m = m + 1 := by omega
      have hmi : 1 + (m : Int) = (m : Int) + 1 := by omega
      rcases Nat.lt_or_ge s (m + 1) with hcs | hcs
      · skip
        have t9 : (s : Int) < (m : Int) + 1 := by omega
        have t10 : (s : Int) ≤ (m : Int) + 1 := by omega
        have hTm : s ≤ m + 1 := by omega
        have HTM : Hid (min (m + 1) s = s) := by show min (m + 1) s = s; omega
        go_wp2_with (first
          | (refine wpList_buildSlice rfl 28 30 1 _ rfl (bytesOf 32 kk).toArray i0 _ Try.underlying28 HI0.out HZ0.out (by rw [hz1]; omega) (by rw [hz1]; omega) (by simp only [List.map_toArray, List.map_cons, List.map_nil]; exact key_fill kk i0 hz1) ?_)
          | (at_builtin
             refine wpList_append_any _ rfl (.tmp 42) (.tmp 43) _ rfl w5.heap.size 30 i0 _ 32 32 Try.underlying28 HI0.out HZ0.out hz1 hz2 rfl (by omega) _ 1 _ rfl
               HO5.out _ _ m c5 _ rfl HRD.out (keysOf_oneCell _) (by unfold maxLen; omega) (by omega) (by simp) ?_
             intro v6 w6 ho6 hg6 hat6
             rw [← keysOf_append, hmm] at ho6
             have hb6 : Below w5.heap.size w5 w6 := ((Below.refl w5.heap.size w5).alloc (Nat.le_refl _) (.cells (bytesOf 32 kk).toArray 30)).grown hg6 (by simp) (fun g e => (HO5.out.lt g e).1)
             obtain ⟨A6, c6, rfl⟩ := own_form ho6
             have hl6 : ([kk] ++ M).length = m + 1 := by rw [List.length_append, HMM.out]; simp; omega
             have hk6 : KL w6 (.slice A6 (m + 1) c6) ([kk] ++ M) (Value.ownBlock (.slice A6 (m + 1) c6)) := by
               have := KL.of_own (v := .slice A6 (m + 1) c6) (L := [kk] ++ M) (base := w5.heap.size) (w := w6) (by rw [hl6]; exact ho6)
               exact this
             have hs6 := HS5.out.other hb6 (hk6.take hTm) (.inr (fun g hg => (ho6.lt g hg).1))
             have hcc6 := hk6.reads.2.1
             have hcm6 := hk6.reads.2.2.1
             have hls := last_step (k := kk) (s := s) HST.out.cac.df (by rw [HLN.out]; omega) (by omega)
             rw [HM.out, show (kk :: M) = [kk] ++ M from rfl, hl6, HTM.out] at hls
             rw [← hls] at hs6
             have hs7 : BSt wa B C s w6 (pushK L s kk) (.slice A6 (s) c6) (pushK L s kk).reverse kb4 (Value.ownBlock (.slice A6 (m + 1) c6)) := hs6
             obtain ⟨L6, hL6⟩ : ∃ L6, pushK L s kk = L6 := ⟨_, rfl⟩
             obtain ⟨gb6, hgb6⟩ : ∃ g, Value.ownBlock (.slice A6 (m + 1) c6) = g := ⟨_, rfl⟩
             rw [hL6, hgb6] at hs7
             have HS6 := Lib.hid hs7
             clear ho6 hg6 hat6 hb6 hk6 hs6 hs7 hls hl6 hL6 hgb6))
        have hTl : L6.length = s := by
          have := HS6.out.kl.reads.1
          rw [List.length_reverse] at this
          exact this
        have hlen := clenL_any w6 B C s L6 kb4 HS6.out.cac
        rw [hTl] at hlen
        have HLE := Lib.hid hlen
        have HTL := Lib.hid hTl
        have hls : s ≤ s := by omega
        clear hlen hTl
        refine HLE.out.mono ?_
        rintro e w' ⟨rfl, rfl⟩
        clear HLE t9 t10
        have t11 : ¬ (s : Int) < ((s : Nat) : Int) := by omega
        have t12 : ¬ (s : Int) < ((m : Int) + 1) ∨ True := .inr trivial
        go_wp2_with fail
        refine (ckeys_any w6 B C s L6 kb4 HS6.out.cac HS6.out.le).mono ?_
        rintro e w7 ⟨v7, rfl, A7, c7, rfl, hb7, ho7⟩
        have HS7 := Lib.hid (HS6.out.below hb7)
        have HDS := Lib.hid (rdistinct_any w7 A7 L6.length c7 L6 (KeysAt.of_own ho7))
        clear hb7 ho7
        go_wp2_with fail
        refine HDS.out.mono ?_
        rintro e w8 ⟨rfl, hb8⟩
        rw [dist_of_df HS6.out.cac.df]
        have HS8 := Lib.hid (HS7.out.below hb8)
        clear hb8 HDS t12
        go_wp2_with fail
        go_loopw [63] (fun i wr2 => ∃ y : Nat, y ≤ s ∧ i = .int .i64 (y : Int) ∧ Below w8.heap.size w8 wr2) (fun i _ => s - (intOf i).toNat)
        case atStart => exact ⟨0, by omega, rfl, Below.refl _ _⟩
        case round =>
          obtain ⟨y, hy, rfl, hbr⟩ := hrel
          have HSr := Lib.hid (HS8.out.below hbr)
          have HBR := Lib.hid hbr
          clear hbr
          rcases Nat.lt_or_ge y (s) with hlt2 | hge2
          · have t13 : (y : Int) < ((s : Nat) : Int) := by omega
            skip
            have t15 : (0 : Int) ≤ y := by omega
            obtain ⟨Ay, cy, ey, hky⟩ := HSr.out.kl.keys
            have hly : L6.reverse.length = s := by rw [List.length_reverse]; exact HTL.out
            rw [hly] at ey hky
            injection ey with e1 _ e3
            subst e1 e3
            obtain ⟨gy, oy, hAy, haty⟩ := hky.at_
            obtain rfl := hAy (by omega)
            obtain ⟨ky, hkyy, hcy⟩ := haty y hlt2
            have hhas : hasK L6 ky = true := has_rev (List.mem_of_getElem? hkyy)
            have q1 := keyOk_mk hcy
            have q2 := loadK_eq hcy
            have HHAS := Lib.hid hhas
            have t16 : (y : Int) ≤ c6 := by omega
            clear hky hAy haty hkyy hcy hhas hly
            go_wp2_with (refine wpList_store_rowTo rfl 30 (.tmp 11) (.tmp 66) rfl rfl wr.heap.size (bytesOf 32 ky).toArray rfl rfl _ _ (heap_alloc_new _ _) (by rw [keyV_size]; kernel_rfl) (by rw [keyV_size]; kernel_rfl) (keyV_one _) ?_
                         generalize hwd : World.setRow _ _ _ = w9
                         have hk9 : Blk w9 wr.heap.size 30 (bytesOf 32 ky).toArray := by rw [← hwd]; exact setRow_same _ _ _ _ _ (heap_alloc_new _ _)
                         have hb9 : Below wr.heap.size wr w9 := by rw [← hwd]; exact below_setRow ((Below.refl _ _).alloc (Nat.le_refl _) _) (Nat.le_refl _) _
                         have q3 := keyOk_mk (blk_key hk9)
                         have q4 := loadK_eq (blk_key hk9)
                         have hch := chasL_any w9 B C s L6 kb4 ky (HSr.out.below hb9).cac
                         rw [HHAS.out] at hch
                         have HCH := Lib.hid hch
                         have HB9 := Lib.hid (HBR.out.trans (hb9.mono HBR.out.size))
                         clear hwd hk9 hb9 hch q1 q2)
            refine HCH.out.mono ?_
            rintro e w10 ⟨rfl, hb10⟩
            have HB10 := Lib.hid (HB9.out.trans (hb10.mono HB9.out.size))
            clear hb10 q3 q4 HCH
            go_wp2_with fail
            go_roundw
            case rel => exact ⟨y + 1, by omega, by go_num, HB10.out⟩
            case measure => simp [intOf]; omega
          · obtain rfl : y = s := by omega
            go_wp2_with fail
            go_roundw
            case rel => exact ⟨j + 1, by omega, by go_num, L6, kb4, gb6, HSr.out⟩
            case measure => simp [intOf]; omega
      · skip
        have t9 : ¬ (s : Int) < (m : Int) + 1 := by omega
        have t10 : (m : Int) + 1 ≤ (s : Int) := by omega
        have hTm : m + 1 ≤ m + 1 := by omega
        have HTM : Hid (min (m + 1) s = m + 1) := by show min (m + 1) s = m + 1; omega
        go_wp2_with (first
          | (refine wpList_buildSlice rfl 28 30 1 _ rfl (bytesOf 32 kk).toArray i0 _ Try.underlying28 HI0.out HZ0.out (by rw [hz1]; omega) (by rw [hz1]; omega) (by simp only [List.map_toArray, List.map_cons, List.map_nil]; exact key_fill kk i0 hz1) ?_)
          | (at_builtin
             refine wpList_append_any _ rfl (.tmp 42) (.tmp 43) _ rfl w5.heap.size 30 i0 _ 32 32 Try.underlying28 HI0.out HZ0.out hz1 hz2 rfl (by omega) _ 1 _ rfl
               HO5.out _ _ m c5 _ rfl HRD.out (keysOf_oneCell _) (by unfold maxLen; omega) (by omega) (by simp) ?_
             intro v6 w6 ho6 hg6 hat6
             rw [← keysOf_append, hmm] at ho6
             have hb6 : Below w5.heap.size w5 w6 := ((Below.refl w5.heap.size w5).alloc (Nat.le_refl _) (.cells (bytesOf 32 kk).toArray 30)).grown hg6 (by simp) (fun g e => (HO5.out.lt g e).1)
             obtain ⟨A6, c6, rfl⟩ := own_form ho6
             have hl6 : ([kk] ++ M).length = m + 1 := by rw [List.length_append, HMM.out]; simp; omega
             have hk6 : KL w6 (.slice A6 (m + 1) c6) ([kk] ++ M) (Value.ownBlock (.slice A6 (m + 1) c6)) := by
               have := KL.of_own (v := .slice A6 (m + 1) c6) (L := [kk] ++ M) (base := w5.heap.size) (w := w6) (by rw [hl6]; exact ho6)
               exact this
             have hs6 := HS5.out.other hb6 (hk6.take hTm) (.inr (fun g hg => (ho6.lt g hg).1))
             have hcc6 := hk6.reads.2.1
             have hcm6 := hk6.reads.2.2.1
             have hls := last_step (k := kk) (s := s) HST.out.cac.df (by rw [HLN.out]; omega) (by omega)
             rw [HM.out, show (kk :: M) = [kk] ++ M from rfl, hl6, HTM.out] at hls
             rw [← hls] at hs6
             have hs7 : BSt wa B C s w6 (pushK L s kk) (.slice A6 (m + 1) c6) (pushK L s kk).reverse kb4 (Value.ownBlock (.slice A6 (m + 1) c6)) := hs6
             obtain ⟨L6, hL6⟩ : ∃ L6, pushK L s kk = L6 := ⟨_, rfl⟩
             obtain ⟨gb6, hgb6⟩ : ∃ g, Value.ownBlock (.slice A6 (m + 1) c6) = g := ⟨_, rfl⟩
             rw [hL6, hgb6] at hs7
             have HS6 := Lib.hid hs7
             clear ho6 hg6 hat6 hb6 hk6 hs6 hs7 hls hl6 hL6 hgb6))
        have hTl : L6.length = m + 1 := by
          have := HS6.out.kl.reads.1
          rw [List.length_reverse] at this
          exact this
        have hlen := clenL_any w6 B C s L6 kb4 HS6.out.cac
        rw [hTl] at hlen
        have HLE := Lib.hid hlen
        have HTL := Lib.hid hTl
        have hls : m + 1 ≤ s := by omega
        clear hlen hTl
        refine HLE.out.mono ?_
        rintro e w' ⟨rfl, rfl⟩
        clear HLE t9 t10
        have t11 : ¬ (s : Int) < ((m + 1 : Nat) : Int) := by omega
        have t12 : ¬ (s : Int) < ((m : Int) + 1) ∨ True := .inr trivial
        go_wp2_with fail
        refine (ckeys_any w6 B C s L6 kb4 HS6.out.cac HS6.out.le).mono ?_
        rintro e w7 ⟨v7, rfl, A7, c7, rfl, hb7, ho7⟩
        have HS7 := Lib.hid (HS6.out.below hb7)
        have HDS := Lib.hid (rdistinct_any w7 A7 L6.length c7 L6 (KeysAt.of_own ho7))
        clear hb7 ho7
        go_wp2_with fail
        refine HDS.out.mono ?_
        rintro e w8 ⟨rfl, hb8⟩
        rw [dist_of_df HS6.out.cac.df]
        have HS8 := Lib.hid (HS7.out.below hb8)
        clear hb8 HDS t12
        go_wp2_with fail
        go_loopw [63] (fun i wr2 => ∃ y : Nat, y ≤ m + 1 ∧ i = .int .i64 (y : Int) ∧ Below w8.heap.size w8 wr2) (fun i _ => m + 1 - (intOf i).toNat)
        case atStart => exact ⟨0, by omega, rfl, Below.refl _ _⟩
        case round =>
          obtain ⟨y, hy, rfl, hbr⟩ := hrel
          have HSr := Lib.hid (HS8.out.below hbr)
          have HBR := Lib.hid hbr
          clear hbr
          rcases Nat.lt_or_ge y (m + 1) with hlt2 | hge2
          · have t13 : (y : Int) < ((m + 1 : Nat) : Int) := by omega
            have t14 : (y : Int) < (m : Int) + 1 := by omega
            have t15 : (0 : Int) ≤ y := by omega
            obtain ⟨Ay, cy, ey, hky⟩ := HSr.out.kl.keys
            have hly : L6.reverse.length = m + 1 := by rw [List.length_reverse]; exact HTL.out
            rw [hly] at ey hky
            injection ey with e1 _ e3
            subst e1 e3
            obtain ⟨gy, oy, hAy, haty⟩ := hky.at_
            obtain rfl := hAy (by omega)
            obtain ⟨ky, hkyy, hcy⟩ := haty y hlt2
            have hhas : hasK L6 ky = true := has_rev (List.mem_of_getElem? hkyy)
            have q1 := keyOk_mk hcy
            have q2 := loadK_eq hcy
            have HHAS := Lib.hid hhas
            have t16 : (y : Int) ≤ c6 := by omega
            clear hky hAy haty hkyy hcy hhas hly
            go_wp2_with (refine wpList_store_rowTo rfl 30 (.tmp 11) (.tmp 66) rfl rfl wr.heap.size (bytesOf 32 ky).toArray rfl rfl _ _ (heap_alloc_new _ _) (by rw [keyV_size]; kernel_rfl) (by rw [keyV_size]; kernel_rfl) (keyV_one _) ?_
                         generalize hwd : World.setRow _ _ _ = w9
                         have hk9 : Blk w9 wr.heap.size 30 (bytesOf 32 ky).toArray := by rw [← hwd]; exact setRow_same _ _ _ _ _ (heap_alloc_new _ _)
                         have hb9 : Below wr.heap.size wr w9 := by rw [← hwd]; exact below_setRow ((Below.refl _ _).alloc (Nat.le_refl _) _) (Nat.le_refl _) _
                         have q3 := keyOk_mk (blk_key hk9)
                         have q4 := loadK_eq (blk_key hk9)
                         have hch := chasL_any w9 B C s L6 kb4 ky (HSr.out.below hb9).cac
                         rw [HHAS.out] at hch
                         have HCH := Lib.hid hch
                         have HB9 := Lib.hid (HBR.out.trans (hb9.mono HBR.out.size))
                         clear hwd hk9 hb9 hch q1 q2)
            refine HCH.out.mono ?_
            rintro e w10 ⟨rfl, hb10⟩
            have HB10 := Lib.hid (HB9.out.trans (hb10.mono HB9.out.size))
            clear hb10 q3 q4 HCH
            go_wp2_with fail
            go_roundw
            case rel => exact ⟨y + 1, by omega, by go_num, HB10.out⟩
            case measure => simp [intOf]; omega
          · obtain rfl : y = m + 1 := by omega
            go_wp2_with fail
            go_roundw
            case rel => exact ⟨j + 1, by omega, by go_num, L6, kb4, gb6, HSr.out⟩
            case measure => simp [intOf]; omega
    · skip
      obtain rfl : j = n := by omega
      go_wp2_with fail
      refine (ckeys_any wr B C s L kb HST.out.cac HST.out.le).mono ?_
      rintro e w7 ⟨v7, rfl, A7, c7, rfl, hb7, ho7⟩
      have HS7 := Lib.hid (HST.out.below hb7)
      rw [HLN.out]
      clear hb7 ho7
      go_wp2_with fail
      refine (known_any _).mono ?_
      rintro e w8 ⟨rfl, hb8⟩
      have HB8 := Lib.hid ((HB0.out.trans (HS7.out.bel.mono hwB)).trans (hb8.mono (Nat.le_trans hwB HS7.out.le)))
      clear hb8
      go_wp2_with fail
      go_ret
      exact ⟨rfl, HB8.out⟩
end Go.Proofs.Ytegdchlbmjokmaa
