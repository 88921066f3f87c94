/- CachePlays: the walk. -/
import Derived.Test.YtegdchlbmjokmaaCacPs
import Derived.Deep.RegionLaw
import Derived.Outline
namespace Go.Proofs.Ytegdchlbmjokmaa
open Go.RowKit
set_option linter.unusedVariables false
set_option linter.unusedSimpArgs false
open Lnk

def kN (n : Nat) : Ky := kOf (UInt8.ofNat n)
theorem keyN_any (w : World) (n : Nat) (hn : n < 256) : Calls Try.prog 11 #[.int .i64 (n : Int)] w fun e w' => e = .returned (keyV (kN n)) ∧ Below w.heap.size w w' := by
  have h := keyOf_any w (UInt8.ofNat n)
  have e : ((UInt8.ofNat n).toNat : Int) = (n : Int) := by rw [UInt8.toNat_ofNat', Nat.mod_eq_of_lt hn]
  rw [e] at h
  exact h
theorem bool_ne (b : Bool) : (b != b) = false := by cases b <;> rfl
set_option maxRecDepth 100000 in
set_option maxHeartbeats 16000000 in
attribute [local go_sem ↓] wp_load_k in
theorem cachePlays_any (w : World) (A : Option Addr) (n c : Nat) (f : Nat → Int) (h : IntsAt w w.heap.size A n c f) (size : Int) (hsz : -9223372036854775808 ≤ size ∧ size ≤ 9223372036854775807) :
    Calls Try.prog 5 #[.slice A n c, .int .i64 size] w fun e w' => e = .returned (.bool true) ∧ Below w.heap.size w w' := by
  have hnc : n ≤ 9223372036854775807 := Nat.le_trans h.1 h.2.1
  have HI := Lib.hid h
  clear h
  by_cases hbig : 160 < n
  · have hb : decide (160 < (n : Int)) = true := by simp; omega
    go_enter Try.func5, Try.ntmps5
    go_wp2_with fail
    refine (long_any w A n c _ _ rfl hnc true hb).mono ?_
    rintro e w1 ⟨rfl, rfl⟩
    go_wp2_with fail
    refine (known_any _).mono ?_
    rintro e w1 ⟨rfl, hb1⟩
    have HB := Lib.hid (((Below.refl w.heap.size w).alloc (Nat.le_refl _) _).trans (hb1.mono (by simp)))
    clear hb1
    go_wp2_with fail
    go_ret
    exact ⟨rfl, HB.out⟩
  have hb : decide (160 < (n : Int)) = false := by simp; omega
  have hn : n ≤ 160 := by omega
  clear hbig
  go_enter Try.func5, Try.ntmps5
  go_wp2_with fail
  refine (long_any w A n c _ _ rfl hnc false hb).mono ?_
  rintro e w1 ⟨rfl, rfl⟩
  go_wp2_with fail
  generalize hwa : World.alloc w _ = wa
  have hb0 : Below w.heap.size w wa := by rw [← hwa]; exact (Below.refl _ _).alloc (Nat.le_refl _) _
  have hI : IntsAt wa wa.heap.size A n c f := (HI.out.below hb0).more hb0.size
  have HB0 := Lib.hid hb0
  have hz0 := hb0.size
  clear hwa hb0 hb
  refine (from_any wa wa.heap.size n c A f hI (Nat.le_refl _)).mono ?_
  rintro e w1 ⟨rfl, hb1, hz1, hn1⟩
  obtain ⟨D, hD⟩ : ∃ D, wa.heap.size = D := ⟨_, rfl⟩
  obtain ⟨B, hB⟩ : ∃ B, wa.heap.size = B := ⟨_, rfl⟩
  have hn1 : NumAt w1 B D n 0 := by rw [← hB, ← hD]; exact hn1
  have hb1 : Below B wa w1 := by rw [← hB]; exact hb1
  have hB1 : B ≤ w1.heap.size := by omega
  have hwB : w.heap.size ≤ B := by omega
  have HB1 := Lib.hid hb1
  have HN1 := Lib.hid hn1
  rw [hD]
  clear hb1 hn1 hI hD hB hz1 HI hz0
  go_wp2_with fail
  refine (next_any w1 B D n 0 7 HN1.out (by omega) (by omega) (by omega)).mono ?_
  rintro e w2 ⟨y, hy, rfl, ho2, hz2, hn2⟩
  have HB2 := Lib.hid (Only.below_trans HB1.out ho2 hB1 (fun k hk => hk ▸ HN1.out.ge))
  have HN2 := Lib.hid hn2
  have hB2 : B ≤ w2.heap.size := by omega
  clear ho2 hn2 hz2
  go_wp2_with fail
  generalize hwb : World.alloc w2 _ = w3
  have hb3 : Below w2.heap.size w2 w3 := by rw [← hwb]; exact (Below.refl _ _).alloc (Nat.le_refl _) _
  have hk3 : Blk w3 w2.heap.size 3 #[.int .i64 size, .int .i64 (y : Int), .int .i64 (-3), .int .i64 0, .int .i64 1] := by rw [← hwb]; exact heap_alloc_new _ _
  have HB3 := Lib.hid (HB2.out.trans (hb3.mono hB2))
  have HN3 := Lib.hid (HN2.out.below_ hB2 hb3)
  have HK3 := Lib.hid hk3
  have hB3 : B ≤ w3.heap.size := by have := hb3.size; omega
  clear hwb hb3 hk3
  refine (next_any w3 B D n (0 + 1) 5 HN3.out (by omega) (by omega) (by omega)).mono ?_
  rintro e w4 ⟨x, hx, rfl, ho4, hz4, hn4⟩
  obtain ⟨z, hz, hcell⟩ : ∃ z : Int, (-9223372036854775808 ≤ z ∧ z ≤ 9223372036854775807) ∧ w4.cell? ⟨w2.heap.size, x, none⟩ = some (.int .i64 z) := by
    obtain ⟨cs, hbn⟩ := HN3.out.blk
    have hk4 := HK3.out.only ho4 (Blk.ne_ HK3.out hbn (by decide))
    have hcl := hk4.cell x
    rcases (show x = 0 ∨ x = 1 ∨ x = 2 ∨ x = 3 ∨ x = 4 by omega) with rfl | rfl | rfl | rfl | rfl
    · exact ⟨size, hsz, hcl⟩
    · exact ⟨y, ⟨by omega, by omega⟩, hcl⟩
    · exact ⟨-3, ⟨by omega, by omega⟩, hcl⟩
    · exact ⟨0, ⟨by omega, by omega⟩, hcl⟩
    · exact ⟨1, ⟨by omega, by omega⟩, hcl⟩
  have HB4 := Lib.hid (Only.below_trans HB3.out ho4 hB3 (fun k hk => hk ▸ HN3.out.ge))
  have HN4 := Lib.hid hn4
  have hB4 : B ≤ w4.heap.size := by omega
  have hx5 : (x : Int) < 5 := by omega
  have hx0 : (0 : Int) ≤ x := by omega
  clear ho4 hn4 hz4 HK3 hsz
  go_wp2_with fail
  refine (cnewL_any w4 B hB4 z hz).mono ?_
  rintro e w5 ⟨C, rfl, hb5, hc5, hC⟩
  obtain ⟨sz, hsz⟩ : ∃ s, clampC z = s := ⟨_, rfl⟩
  rw [hsz] at hc5
  have HSZ := Lib.hid hsz
  have HZ := Lib.hid hz
  have HR5 : Hid (PRel wa B D C sz n (.slice none 0 0) (0 + 1 + 1) w5) := ⟨[], none, none, ⟨HB4.out.trans (hb5.mono hB4), Nat.le_trans hB4 hb5.size, HN4.out.below_ hB4 hb5, hc5, KL.nil _, fun g hg => by cases hg⟩⟩
  clear hb5 hc5 hsz hz hcell hC HB1 HN1 HB2 HN2 HB3 HN3 HB4 HN4 hB1 hB2 hB3 hB4 hy hx hx5 hx0
  go_wp2_with fail
  go_loopw [8] (fun mv wr => ∃ N, N ≤ n + 3 ∧ PRel wa B D C sz n mv N wr) (fun _ wr => (n + 3) - numC wr D)
  case atStart => exact ⟨0 + 1 + 1, by omega, HR5.out⟩
  case round =>
    obtain ⟨N, hN, L, kb, gb, hst⟩ := hrel
    have hnm : numC wr D = N := hst.num.numC
    have HNM := Lib.hid hnm
    have HST := Lib.hid hst
    have hmv : ∃ A8 c8, u8 = .slice A8 L.length c8 := by obtain ⟨A8, c8, h8, _⟩ := hst.kl.keys; exact ⟨A8, c8, h8⟩
    obtain ⟨A8, c8, rfl⟩ := hmv
    have hLl := hst.cac.len
    obtain ⟨cs, hbn⟩ := hst.num.blk
    have x1 : wr.cell? ⟨D, 1, none⟩ = some (.int .i64 (N : Int)) := by
      obtain ⟨A', c', f', _, hb', _⟩ := hst.num
      exact hb'.cell 1
    clear hnm hst hbn HR5
    rcases Nat.lt_or_ge N n with hlt | hge
    · skip
      have t1 : (N : Int) < n := by omega
      go_wp2_with fail
      refine (next_any wr B D n N 9 HST.out.num (by omega) (by omega) (by omega)).mono ?_
      rintro e w1 ⟨x9, hx9, rfl, ho1, _, hn1⟩
      have HS1 := Lib.hid (HST.out.next ho1 hn1)
      clear ho1 hn1 x1
      go_wp2_with fail
      refine (keyN_any w1 x9 (by omega)).mono ?_
      rintro e w2 ⟨rfl, hb2⟩
      obtain ⟨kk, hkk⟩ : ∃ k, kN x9 = k := ⟨_, rfl⟩
      rw [hkk]
      have HS2 := Lib.hid (HS1.out.below hb2)
      clear hb2 hkk
      go_wp2_with (refine wpList_store_rowTo rfl 30 (.tmp 9) (.tmp 41) rfl rfl w2.heap.size (bytesOf 32 kk).toArray rfl rfl _ _ (heap_alloc_new _ _) (by rw [keyV_size]; kernel_rfl) (by rw [keyV_size]; kernel_rfl) (keyV_one _) ?_
                   generalize hwc : World.setRow _ _ _ = w3
                   have hk3 : Blk w3 w2.heap.size 30 (bytesOf 32 kk).toArray := by rw [← hwc]; exact setRow_same _ _ _ _ _ (heap_alloc_new _ _)
                   have hb3 : Below w2.heap.size w2 w3 := by rw [← hwc]; exact below_setRow ((Below.refl _ _).alloc (Nat.le_refl _) _) (Nat.le_refl _) _
                   have HX3 : Hid (Box w3 w2.heap.size kk kb) := ⟨hk3, fun e => by have := HS2.out.cac.kb_lt _ e; omega⟩
                   have HS3 := Lib.hid (HS2.out.below hb3)
                   clear hwc hk3 hb3)
      refine (next_any w3 B D n (N + 1) 8 HS3.out.num (by omega) (by omega) (by omega)).mono ?_
      rintro e w4 ⟨x8, hx8, rfl, ho4, _, hn4⟩
      have hX4 : Box w4 w2.heap.size kk kb := HX3.out.only ho4 (fun e => by obtain ⟨cs, hbn⟩ := HS3.out.num.blk; exact Blk.ne_ HX3.out.blk hbn (by decide) e)
      have HS4 := Lib.hid (HS3.out.next ho4 hn4)
      have q1 := keyOk_mk (blk_key hX4.blk)
      have q2 := loadK_eq (blk_key hX4.blk)
      obtain ⟨box, hbox⟩ : ∃ b, w2.heap.size = b := ⟨_, rfl⟩
      rw [hbox] at hX4 q1 q2 ⊢
      have HX4 := Lib.hid hX4
      clear ho4 hn4 hX4 hbox HX3 HS1 HS2 HS3
      rcases (show x8 = 0 ∨ x8 = 1 ∨ 2 ≤ x8 by omega) with rfl | rfl | hx2
      · skip
        obtain ⟨okv, hokv⟩ : ∃ b : Bool, hasK L kk = b := ⟨_, rfl⟩
        have hrp := rdrop_any w4 _ L gb HS4.out.kl (by omega) kk
        rw [hokv] at hrp
        have HRP := Lib.hid hrp
        have HOK := Lib.hid hokv
        have tt := bool_ne okv
        clear hrp hokv
        go_wp2_with fail
        refine HRP.out.mono ?_
        rintro e w5 ⟨v5, gb5, rfl, hb5, hk5, hg5⟩
        have hX5 := HX4.out.below hb5
        have HS5 := Lib.hid (HS4.out.below hb5)
        obtain ⟨A9, c9, rfl, _⟩ := hk5.keys
        have HB5 := Lib.hid hb5
        have HK5 := Lib.hid hk5
        have HG5 := Lib.hid hg5
        clear q1 q2
        have HX5 := Lib.hid hX5
        clear hX5 hb5 hk5 hg5
        have q1 := keyOk_mk (blk_key HX5.out.blk)
        have q2 := loadK_eq (blk_key HX5.out.blk)
        have hcp := cremove_any w5 B C sz L kb kk HS5.out.cac HS5.out.le
        rw [HOK.out] at hcp
        have HCP := Lib.hid hcp
        clear hcp
        go_wp2_with fail
        refine HCP.out.mono ?_
        rintro e w6 hp6
        obtain ⟨rfl, kb6, hs6, hx6⟩ := HS4.out.step HX4.out HB5.out HK5.out HG5.out hp6
        have HS6 := Lib.hid hs6
        have HX6 := Lib.hid hx6
        clear hp6 hs6 hx6 q1 q2 HCP HB5 HK5 HG5
        go_upto_region 25 with (fail)
        clear tt
        have hu := Try.underlying30
        have hik := key_size kk
        have rra := blk_range HX6.out.blk
        have hlk := HX6.out.blk.lt
        have HBC := Lib.hid (Below.refl w6.heap.size w6)
        obtain ⟨b1, hb1⟩ : ∃ b, hasK (dropK L kk) kk = b := ⟨_, rfl⟩
        obtain ⟨ln, hln⟩ : ∃ l, (dropK L kk).length = l := ⟨_, rfl⟩
        have HLN := Lib.hid hln
        rw [hln]
        have hB6 := HS6.out.le
        have H1 : Hid (∀ W, Below w6.heap.size w6 W → Calls Try.prog 16 #[.pointer (some ⟨C, 0, none⟩)] W fun e w' => ∃ v, e = .returned v ∧ KeysOwn W w' (dropK L kk) v) := fun W hW => ckeys_any W B C sz (dropK L kk) kb6 (HS6.out.cac.below hW) (Nat.le_trans hB6 hW.size)
        have H2 : Hid (∀ W, Below w6.heap.size w6 W → Calls Try.prog 14 #[.pointer (some ⟨C, 0, none⟩)] W fun e w' => e = .returned (.int .i64 (ln : Int)) ∧ W = w') := fun W hW => by rw [← hln]; exact clenL_any W B C sz (dropK L kk) kb6 (HS6.out.cac.below hW)
        have H3 : Hid (∀ W, Below w6.heap.size w6 W → Calls Try.prog 17 #[.pointer (some ⟨C, 0, none⟩), keyV kk] W fun e w' => e = .returned (.bool b1) ∧ Below W.heap.size W w') := fun W hW => by rw [← hb1]; exact chasL_any W B C sz (dropK L kk) kb6 kk (HS6.out.cac.below hW)
        have hm9 : ∀ W, Below w6.heap.size w6 W → KeysAt W A9 ln c9 (dropK L kk) := fun W hW => by
          obtain ⟨A', c', e1, h1⟩ := (HS6.out.kl.below hW).keys
          injection e1 with e1 _ e2
          subst e1 e2
          rw [← hln]; exact h1
        have HM9 := Lib.hid hm9
        have H4 : Hid (∀ W, Below w6.heap.size w6 W → Calls Try.prog 24 #[.slice A9 ln c9, keyV kk] W fun e w' => e = .returned (.bool b1) ∧ Below W.heap.size W w') := fun W hW => by rw [← hb1]; exact rhas_any W A9 ln c9 (dropK L kk) kk (hm9 W hW)
        have tt := bool_ne b1
        have hlm : ln ≤ 1024 := by have := HS6.out.cac.len; omega
        clear hb1 hm9 hln
        refine wp_region_noPanic ?_
        refine wp_region_held_drew (S := fun w' => w'.rangeAt box 0 (bytesOf 32 kk)) (by kernel_rfl) rra (fun hHeld => ?_)
        refine wpAnyH_take (i := 0) (oi := ⟨some 78, _, _, _, _, _⟩) (v := ?_) rfl (by kernel_rfl) (by kernel_rfl) (by kernel_rfl) (fun _ _ _ h => h) (Or.inl ⟨by kernel_rfl, ?_⟩) hHeld ?_
        rotate_left
        · intro w hSw
          (try dsimp only at hSw)
          go_simp
          all_goals (with_reducible rfl)
        conv => arg 8; simp only [Act.put, List.setIfInBounds_toArray, List.set_cons_zero, List.set_cons_succ]
        refine wpAnyH_take (i := 2) (oi := ⟨some 80, _, _, _, _, _⟩) (v := ?_) rfl (by kernel_rfl) (by kernel_rfl) (by kernel_rfl) (fun _ _ _ h => h) (Or.inl ⟨by kernel_rfl, ?_⟩) hHeld ?_
        rotate_left
        · intro w hSw
          (try dsimp only at hSw)
          go_simp
          all_goals (with_reducible rfl)
        conv => arg 8; simp only [Act.put, List.setIfInBounds_toArray, List.set_cons_zero, List.set_cons_succ]
        refine wpAnyH_ready (rs := [1]) (by kernel_rfl) (by simp) ?_
        refine AllReadyH.cons (o := ⟨some 79, _, _, _, _, _⟩) rfl (fun K hK => ?_) AllReadyH.nil
        go_simp
        go_at_call 16
        (with_reducible refine (H1.out _ ?_).mono ?_)
        · repeat (first | (with_reducible exact HBC.out) | (with_reducible refine belowDrewR ?_) | (with_reducible refine below_dnR ?_ _) | (with_reducible refine below_al ?_ _))
        rintro e w9 ⟨v9, rfl, Av, cv, rfl, hb9, ho9⟩
        have hBEL : Below w6.heap.size w6 w9 := below_step (a := w6) (by repeat (first | (with_reducible exact HBC.out) | (with_reducible refine belowDrewR ?_) | (with_reducible refine below_dnR ?_ _) | (with_reducible refine below_al ?_ _))) hb9
        have HBC := Lib.hid hBEL
        have hkv := KeysAt.of_own ho9
        rw [HLN.out] at hkv
        have HKV := Lib.hid hkv
        rw [HLN.out]
        clear ho9 hkv
        clear hb9 hBEL
        refine hK.out _ _ (range_below (a := w6) HBC.out hlk rra) (fun hHeld => ?_)
        clear hK K
        conv => arg 8; simp only [Act.put, List.setIfInBounds_toArray, List.set_cons_zero, List.set_cons_succ]
        refine wpAnyH_ready (rs := [3]) (by kernel_rfl) (by simp) ?_
        refine AllReadyH.cons (o := ⟨some 81, _, _, _, _, _⟩) rfl (fun K hK => ?_) AllReadyH.nil
        go_simp
        go_at_call 23
        (with_reducible refine (sameKeys_any _ Av A9 ln cv c9 (dropK L kk) HKV.out (HM9.out _ HBC.out) (by omega)).mono ?_)
        rintro e w9 ⟨rfl, hb9⟩
        have hBEL : Below w6.heap.size w6 w9 := below_step (a := w6) (by repeat (first | (with_reducible exact HBC.out) | (with_reducible refine belowDrewR ?_) | (with_reducible refine below_dnR ?_ _) | (with_reducible refine below_al ?_ _))) hb9
        have HBC := Lib.hid hBEL
        clear hb9 hBEL
        refine hK.out _ _ (range_below (a := w6) HBC.out hlk rra) (fun hHeld => ?_)
        clear hK K
        conv => arg 8; simp only [Act.put, List.setIfInBounds_toArray, List.set_cons_zero, List.set_cons_succ]
        refine wpAnyH_take (i := 4) (oi := ⟨some 82, _, _, _, _, _⟩) (v := ?_) rfl (by kernel_rfl) (by kernel_rfl) (by kernel_rfl) (fun _ _ _ h => h) (Or.inl ⟨by kernel_rfl, ?_⟩) hHeld ?_
        rotate_left
        · intro w hSw
          (try dsimp only at hSw)
          go_simp
          all_goals (with_reducible rfl)
        conv => arg 8; simp only [Act.put, List.setIfInBounds_toArray, List.set_cons_zero, List.set_cons_succ]
        refine wpAnyH_take (i := 5) (oi := ⟨some 83, _, _, _, _, _⟩) (v := ?_) rfl (by kernel_rfl) (by kernel_rfl) (by kernel_rfl) (fun _ _ _ h => h) (Or.inl ⟨by kernel_rfl, ?_⟩) hHeld ?_
        rotate_left
        · intro w hSw
          (try dsimp only at hSw)
          go_simp
          all_goals (with_reducible rfl)
        conv => arg 8; simp only [Act.put, List.setIfInBounds_toArray, List.set_cons_zero, List.set_cons_succ]
        refine wpAnyH_take (i := 6) (oi := ⟨some 84, _, _, _, _, _⟩) (v := ?_) rfl (by kernel_rfl) (by kernel_rfl) (by kernel_rfl) (fun _ _ _ h => h) (Or.inl ⟨by kernel_rfl, ?_⟩) hHeld ?_
        rotate_left
        · intro w hSw
          (try dsimp only at hSw)
          go_simp
          all_goals (with_reducible rfl)
        conv => arg 8; simp only [Act.put, List.setIfInBounds_toArray, List.set_cons_zero, List.set_cons_succ]
        refine wpAnyH_take (i := 8) (oi := ⟨some 86, _, _, _, _, _⟩) (v := ?_) rfl (by kernel_rfl) (by kernel_rfl) (by kernel_rfl) (fun _ _ _ h => h) (Or.inl ⟨by kernel_rfl, ?_⟩) hHeld ?_
        rotate_left
        · intro w hSw
          (try dsimp only at hSw)
          go_simp
          all_goals (with_reducible rfl)
        conv => arg 8; simp only [Act.put, List.setIfInBounds_toArray, List.set_cons_zero, List.set_cons_succ]
        refine wpAnyH_take (i := 9) (oi := ⟨some 87, _, _, _, _, _⟩) (v := ?_) rfl (by kernel_rfl) (by kernel_rfl) (by kernel_rfl) (fun _ _ _ h => h) (Or.inl ⟨by kernel_rfl, ?_⟩) hHeld ?_
        rotate_left
        · intro w hSw
          (try dsimp only at hSw)
          go_simp
          all_goals (with_reducible rfl)
        conv => arg 8; simp only [Act.put, List.setIfInBounds_toArray, List.set_cons_zero, List.set_cons_succ]
        refine wpAnyH_ready (rs := [7]) (by kernel_rfl) (by simp) ?_
        refine AllReadyH.cons (o := ⟨some 85, _, _, _, _, _⟩) rfl (fun K hK => ?_) AllReadyH.nil
        refine ite_yes (by kernel_rfl) ?_
        go_simp
        go_at_call 14
        (with_reducible refine (H2.out _ ?_).mono ?_)
        · repeat (first | (with_reducible exact HBC.out) | (with_reducible refine belowDrewR ?_) | (with_reducible refine below_dnR ?_ _) | (with_reducible refine below_al ?_ _))
        rintro e w9 ⟨rfl, rfl⟩
        refine hK.out _ _ (range_below (a := w6) HBC.out hlk rra) (fun hHeld => ?_)
        clear hK K
        conv => arg 8; simp only [Act.put, List.setIfInBounds_toArray, List.set_cons_zero, List.set_cons_succ]
        refine wpAnyH_take (i := 10) (oi := ⟨some 88, _, _, _, _, _⟩) (v := ?_) rfl (by kernel_rfl) (by kernel_rfl) (by kernel_rfl) (fun _ _ _ h => h) (Or.inl ⟨by kernel_rfl, ?_⟩) hHeld ?_
        rotate_left
        · intro w hSw
          (try dsimp only at hSw)
          go_simp
          all_goals (with_reducible rfl)
        conv => arg 8; simp only [Act.put, List.setIfInBounds_toArray, List.set_cons_zero, List.set_cons_succ]
        refine wpAnyH_take (i := 11) (oi := ⟨some 89, _, _, _, _, _⟩) (v := ?_) rfl (by kernel_rfl) (by kernel_rfl) (by kernel_rfl) (fun _ _ _ h => h) (Or.inl ⟨by kernel_rfl, ?_⟩) hHeld ?_
        rotate_left
        · intro w hSw
          (try dsimp only at hSw)
          go_simp
          all_goals (with_reducible rfl)
        conv => arg 8; simp only [Act.put, List.setIfInBounds_toArray, List.set_cons_zero, List.set_cons_succ]
        refine wpAnyH_take (i := 12) (oi := ⟨some 90, _, _, _, _, _⟩) (v := ?_) rfl (by kernel_rfl) (by kernel_rfl) (by kernel_rfl) (fun _ _ _ h => h) (Or.inl ⟨by kernel_rfl, ?_⟩) hHeld ?_
        rotate_left
        · intro w hSw
          (try dsimp only at hSw)
          go_simp
          all_goals (with_reducible rfl)
        conv => arg 8; simp only [Act.put, List.setIfInBounds_toArray, List.set_cons_zero, List.set_cons_succ]
        refine wpAnyH_take (i := 13) (oi := ⟨some 91, _, _, _, _, _⟩) (v := ?_) rfl (by kernel_rfl) (by kernel_rfl) (by kernel_rfl) (fun _ _ _ h => h) (Or.inl ⟨by kernel_rfl, ?_⟩) hHeld ?_
        rotate_left
        · intro w hSw
          (try dsimp only at hSw)
          go_simp
          all_goals (with_reducible rfl)
        conv => arg 8; simp only [Act.put, List.setIfInBounds_toArray, List.set_cons_zero, List.set_cons_succ]
        refine wpAnyH_take (i := 14) (oi := ⟨some 92, _, _, _, _, _⟩) (v := _) rfl (by kernel_rfl) (by kernel_rfl) (by kernel_rfl) (fun _ _ _ h => h) (yieldsIf_load_mid (S := fun w' => w'.rangeAt box 0 (bytesOf 32 kk)) (by kernel_rfl) _ _ rfl _ _ rfl _ _ (fun w hSw => hSw) hu rfl hik) hHeld ?_
        conv => arg 8; simp only [Act.put, List.setIfInBounds_toArray, List.set_cons_zero, List.set_cons_succ]
        refine wpAnyH_take (i := 16) (oi := ⟨some 94, _, _, _, _, _⟩) (v := ?_) rfl (by kernel_rfl) (by kernel_rfl) (by kernel_rfl) (fun _ _ _ h => h) (Or.inl ⟨by kernel_rfl, ?_⟩) hHeld ?_
        rotate_left
        · intro w hSw
          (try dsimp only at hSw)
          go_simp
          all_goals (with_reducible rfl)
        conv => arg 8; simp only [Act.put, List.setIfInBounds_toArray, List.set_cons_zero, List.set_cons_succ]
        refine wpAnyH_take (i := 17) (oi := ⟨some 95, _, _, _, _, _⟩) (v := _) rfl (by kernel_rfl) (by kernel_rfl) (by kernel_rfl) (fun _ _ _ h => h) (yieldsIf_load_mid (S := fun w' => w'.rangeAt box 0 (bytesOf 32 kk)) (by kernel_rfl) _ _ rfl _ _ rfl _ _ (fun w hSw => hSw) hu rfl hik) hHeld ?_
        conv => arg 8; simp only [Act.put, List.setIfInBounds_toArray, List.set_cons_zero, List.set_cons_succ]
        refine wpAnyH_ready (rs := [15]) (by kernel_rfl) (by simp) ?_
        refine AllReadyH.cons (o := ⟨some 93, _, _, _, _, _⟩) rfl (fun K hK => ?_) AllReadyH.nil
        refine ite_yes (by kernel_rfl) ?_
        go_simp
        go_at_call 17
        (with_reducible refine (H3.out _ ?_).mono ?_)
        · repeat (first | (with_reducible exact HBC.out) | (with_reducible refine belowDrewR ?_) | (with_reducible refine below_dnR ?_ _) | (with_reducible refine below_al ?_ _))
        rintro e w9 ⟨rfl, hb9⟩
        have hBEL : Below w6.heap.size w6 w9 := below_step (a := w6) (by repeat (first | (with_reducible exact HBC.out) | (with_reducible refine belowDrewR ?_) | (with_reducible refine below_dnR ?_ _) | (with_reducible refine below_al ?_ _))) hb9
        have HBC := Lib.hid hBEL
        clear hb9 hBEL
        refine hK.out _ _ (range_below (a := w6) HBC.out hlk rra) (fun hHeld => ?_)
        clear hK K
        conv => arg 8; simp only [Act.put, List.setIfInBounds_toArray, List.set_cons_zero, List.set_cons_succ]
        refine wpAnyH_ready (rs := [18]) (by kernel_rfl) (by simp) ?_
        refine AllReadyH.cons (o := ⟨some 96, _, _, _, _, _⟩) rfl (fun K hK => ?_) AllReadyH.nil
        refine ite_yes (by kernel_rfl) ?_
        go_simp
        go_at_call 24
        (with_reducible refine (H4.out _ ?_).mono ?_)
        · repeat (first | (with_reducible exact HBC.out) | (with_reducible refine belowDrewR ?_) | (with_reducible refine below_dnR ?_ _) | (with_reducible refine below_al ?_ _))
        rintro e w9 ⟨rfl, hb9⟩
        have hBEL : Below w6.heap.size w6 w9 := below_step (a := w6) (by repeat (first | (with_reducible exact HBC.out) | (with_reducible refine belowDrewR ?_) | (with_reducible refine below_dnR ?_ _) | (with_reducible refine below_al ?_ _))) hb9
        have HBC := Lib.hid hBEL
        clear hb9 hBEL
        refine hK.out _ _ (range_below (a := w6) HBC.out hlk rra) (fun hHeld => ?_)
        clear hK K
        conv => arg 8; simp only [Act.put, List.setIfInBounds_toArray, List.set_cons_zero, List.set_cons_succ]
        refine wpAnyH_take (i := 19) (oi := ⟨some 97, _, _, _, _, _⟩) (v := ?_) rfl (by kernel_rfl) (by kernel_rfl) (by kernel_rfl) (fun _ _ _ h => h) (Or.inl ⟨by kernel_rfl, ?_⟩) hHeld ?_
        rotate_left
        · intro w hSw
          (try dsimp only at hSw)
          go_simp
          all_goals (with_reducible rfl)
        conv => arg 8; simp only [Act.put, List.setIfInBounds_toArray, List.set_cons_zero, List.set_cons_succ]
        refine wpAnyH_take (i := 20) (oi := ⟨some 98, _, _, _, _, _⟩) (v := ?_) rfl (by kernel_rfl) (by kernel_rfl) (by kernel_rfl) (fun _ _ _ h => h) (Or.inl ⟨by kernel_rfl, ?_⟩) hHeld ?_
        rotate_left
        · intro w hSw
          (try dsimp only at hSw)
          go_simp
          all_goals (with_reducible rfl)
        conv => arg 8; simp only [Act.put, List.setIfInBounds_toArray, List.set_cons_zero, List.set_cons_succ]
        refine wpAnyH_done (by kernel_rfl) ?_ _
        refine NoPanic.normal ?_
        clear tt
        rw [← HLN.out]
        go_wp2_with fail
        have hsE := HS6.out.below HBC.out
        go_roundw
        case rel => exact ⟨N + 1 + 1, by omega, (dropK L kk), kb6, gb5, hsE⟩
        case measure => rw [HNM.out, hsE.num.numC]; omega
      · skip
        go_wp2_with fail
        refine (next_any w4 B D n (N + 1 + 1) 4 HS4.out.num (by omega) (by omega) (by omega)).mono ?_
        rintro e w5 ⟨x4, hx4, rfl, ho5, _, hn5⟩
        have hX5 : Box w5 box kk kb := HX4.out.only ho5 (fun e => by obtain ⟨cs, hbn⟩ := HS4.out.num.blk; exact Blk.ne_ HX4.out.blk hbn (by decide) e)
        have HS5 := Lib.hid (HS4.out.next ho5 hn5)
        have HX5 := Lib.hid hX5
        clear ho5 hn5 hX5 q1 q2
        rcases Nat.eq_zero_or_pos x4 with rfl | hx4'
        · go_wp2_with fail
          refine (creset_any w5 B C sz L kb HS5.out.cac HS5.out.le).mono ?_
          rintro e w6 hp6
          obtain ⟨rfl, kb6, hs6, hx6⟩ := HS5.out.step HX5.out (Below.refl _ _) (KL.nil _) (.inr (fun g hg => by cases hg)) hp6
          have HS6 := Lib.hid hs6
          have HX6 := Lib.hid hx6
          clear hp6 hs6 hx6
          go_upto_region 25 with (fail)
          have hu := Try.underlying30
          have hik := key_size kk
          have rra := blk_range HX6.out.blk
          have hlk := HX6.out.blk.lt
          have HBC := Lib.hid (Below.refl w6.heap.size w6)
          obtain ⟨b1, hb1⟩ : ∃ b, hasK ([] : List Ky) kk = b := ⟨_, rfl⟩
          have hln : ([] : List Ky).length = 0 := rfl
          have HLN := Lib.hid hln
          have hB6 := HS6.out.le
          have H1 : Hid (∀ W, Below w6.heap.size w6 W → Calls Try.prog 16 #[.pointer (some ⟨C, 0, none⟩)] W fun e w' => ∃ v, e = .returned v ∧ KeysOwn W w' ([] : List Ky) v) := fun W hW => ckeys_any W B C sz ([] : List Ky) kb6 (HS6.out.cac.below hW) (Nat.le_trans hB6 hW.size)
          have H2 : Hid (∀ W, Below w6.heap.size w6 W → Calls Try.prog 14 #[.pointer (some ⟨C, 0, none⟩)] W fun e w' => e = .returned (.int .i64 (0 : Int)) ∧ W = w') := fun W hW => by exact clenL_any W B C sz ([] : List Ky) kb6 (HS6.out.cac.below hW)
          have H3 : Hid (∀ W, Below w6.heap.size w6 W → Calls Try.prog 17 #[.pointer (some ⟨C, 0, none⟩), keyV kk] W fun e w' => e = .returned (.bool b1) ∧ Below W.heap.size W w') := fun W hW => by rw [← hb1]; exact chasL_any W B C sz ([] : List Ky) kb6 kk (HS6.out.cac.below hW)
          have hm9 : ∀ W, Below w6.heap.size w6 W → KeysAt W none 0 0 ([] : List Ky) := fun W hW => by
            obtain ⟨A', c', e1, h1⟩ := (HS6.out.kl.below hW).keys
            injection e1 with e1 _ e2
            subst e1 e2
            exact h1
          have HM9 := Lib.hid hm9
          have H4 : Hid (∀ W, Below w6.heap.size w6 W → Calls Try.prog 24 #[.slice none 0 0, keyV kk] W fun e w' => e = .returned (.bool b1) ∧ Below W.heap.size W w') := fun W hW => by rw [← hb1]; exact rhas_any W none 0 0 ([] : List Ky) kk (hm9 W hW)
          have tt := bool_ne b1
          clear hb1 hm9 hln
          refine wp_region_noPanic ?_
          refine wp_region_held_drew (S := fun w' => w'.rangeAt box 0 (bytesOf 32 kk)) (by kernel_rfl) rra (fun hHeld => ?_)
          refine wpAnyH_take (i := 0) (oi := ⟨some 78, _, _, _, _, _⟩) (v := ?_) rfl (by kernel_rfl) (by kernel_rfl) (by kernel_rfl) (fun _ _ _ h => h) (Or.inl ⟨by kernel_rfl, ?_⟩) hHeld ?_
          rotate_left
          · intro w hSw
            (try dsimp only at hSw)
            go_simp
            all_goals (with_reducible rfl)
          conv => arg 8; simp only [Act.put, List.setIfInBounds_toArray, List.set_cons_zero, List.set_cons_succ]
          refine wpAnyH_take (i := 2) (oi := ⟨some 80, _, _, _, _, _⟩) (v := ?_) rfl (by kernel_rfl) (by kernel_rfl) (by kernel_rfl) (fun _ _ _ h => h) (Or.inl ⟨by kernel_rfl, ?_⟩) hHeld ?_
          rotate_left
          · intro w hSw
            (try dsimp only at hSw)
            go_simp
            all_goals (with_reducible rfl)
          conv => arg 8; simp only [Act.put, List.setIfInBounds_toArray, List.set_cons_zero, List.set_cons_succ]
          refine wpAnyH_ready (rs := [1]) (by kernel_rfl) (by simp) ?_
          refine AllReadyH.cons (o := ⟨some 79, _, _, _, _, _⟩) rfl (fun K hK => ?_) AllReadyH.nil
          go_simp
          go_at_call 16
          (with_reducible refine (H1.out _ ?_).mono ?_)
          · repeat (first | (with_reducible exact HBC.out) | (with_reducible refine belowDrewR ?_) | (with_reducible refine below_dnR ?_ _) | (with_reducible refine below_al ?_ _))
          rintro e w9 ⟨v9, rfl, Av, cv, rfl, hb9, ho9⟩
          have hBEL : Below w6.heap.size w6 w9 := below_step (a := w6) (by repeat (first | (with_reducible exact HBC.out) | (with_reducible refine belowDrewR ?_) | (with_reducible refine below_dnR ?_ _) | (with_reducible refine below_al ?_ _))) hb9
          have HBC := Lib.hid hBEL
          have hkv := KeysAt.of_own ho9
          have HKV := Lib.hid hkv
          clear ho9 hkv
          clear hb9 hBEL
          refine hK.out _ _ (range_below (a := w6) HBC.out hlk rra) (fun hHeld => ?_)
          clear hK K
          conv => arg 8; simp only [Act.put, List.setIfInBounds_toArray, List.set_cons_zero, List.set_cons_succ]
          refine wpAnyH_ready (rs := [3]) (by kernel_rfl) (by simp) ?_
          refine AllReadyH.cons (o := ⟨some 81, _, _, _, _, _⟩) rfl (fun K hK => ?_) AllReadyH.nil
          go_simp
          go_at_call 23
          (with_reducible refine (sameKeys_any _ Av none 0 cv 0 ([] : List Ky) HKV.out (HM9.out _ HBC.out) (by omega)).mono ?_)
          rintro e w9 ⟨rfl, hb9⟩
          have hBEL : Below w6.heap.size w6 w9 := below_step (a := w6) (by repeat (first | (with_reducible exact HBC.out) | (with_reducible refine belowDrewR ?_) | (with_reducible refine below_dnR ?_ _) | (with_reducible refine below_al ?_ _))) hb9
          have HBC := Lib.hid hBEL
          clear hb9 hBEL
          refine hK.out _ _ (range_below (a := w6) HBC.out hlk rra) (fun hHeld => ?_)
          clear hK K
          conv => arg 8; simp only [Act.put, List.setIfInBounds_toArray, List.set_cons_zero, List.set_cons_succ]
          refine wpAnyH_take (i := 4) (oi := ⟨some 82, _, _, _, _, _⟩) (v := ?_) rfl (by kernel_rfl) (by kernel_rfl) (by kernel_rfl) (fun _ _ _ h => h) (Or.inl ⟨by kernel_rfl, ?_⟩) hHeld ?_
          rotate_left
          · intro w hSw
            (try dsimp only at hSw)
            go_simp
            all_goals (with_reducible rfl)
          conv => arg 8; simp only [Act.put, List.setIfInBounds_toArray, List.set_cons_zero, List.set_cons_succ]
          refine wpAnyH_take (i := 5) (oi := ⟨some 83, _, _, _, _, _⟩) (v := ?_) rfl (by kernel_rfl) (by kernel_rfl) (by kernel_rfl) (fun _ _ _ h => h) (Or.inl ⟨by kernel_rfl, ?_⟩) hHeld ?_
          rotate_left
          · intro w hSw
            (try dsimp only at hSw)
            go_simp
            all_goals (with_reducible rfl)
          conv => arg 8; simp only [Act.put, List.setIfInBounds_toArray, List.set_cons_zero, List.set_cons_succ]
          refine wpAnyH_take (i := 6) (oi := ⟨some 84, _, _, _, _, _⟩) (v := ?_) rfl (by kernel_rfl) (by kernel_rfl) (by kernel_rfl) (fun _ _ _ h => h) (Or.inl ⟨by kernel_rfl, ?_⟩) hHeld ?_
          rotate_left
          · intro w hSw
            (try dsimp only at hSw)
            go_simp
            all_goals (with_reducible rfl)
          conv => arg 8; simp only [Act.put, List.setIfInBounds_toArray, List.set_cons_zero, List.set_cons_succ]
          refine wpAnyH_take (i := 8) (oi := ⟨some 86, _, _, _, _, _⟩) (v := ?_) rfl (by kernel_rfl) (by kernel_rfl) (by kernel_rfl) (fun _ _ _ h => h) (Or.inl ⟨by kernel_rfl, ?_⟩) hHeld ?_
          rotate_left
          · intro w hSw
            (try dsimp only at hSw)
            go_simp
            all_goals (with_reducible rfl)
          conv => arg 8; simp only [Act.put, List.setIfInBounds_toArray, List.set_cons_zero, List.set_cons_succ]
          refine wpAnyH_take (i := 9) (oi := ⟨some 87, _, _, _, _, _⟩) (v := ?_) rfl (by kernel_rfl) (by kernel_rfl) (by kernel_rfl) (fun _ _ _ h => h) (Or.inl ⟨by kernel_rfl, ?_⟩) hHeld ?_
          rotate_left
          · intro w hSw
            (try dsimp only at hSw)
            go_simp
            all_goals (with_reducible rfl)
          conv => arg 8; simp only [Act.put, List.setIfInBounds_toArray, List.set_cons_zero, List.set_cons_succ]
          refine wpAnyH_ready (rs := [7]) (by kernel_rfl) (by simp) ?_
          refine AllReadyH.cons (o := ⟨some 85, _, _, _, _, _⟩) rfl (fun K hK => ?_) AllReadyH.nil
          refine ite_yes (by kernel_rfl) ?_
          go_simp
          go_at_call 14
          (with_reducible refine (H2.out _ ?_).mono ?_)
          · repeat (first | (with_reducible exact HBC.out) | (with_reducible refine belowDrewR ?_) | (with_reducible refine below_dnR ?_ _) | (with_reducible refine below_al ?_ _))
          rintro e w9 ⟨rfl, rfl⟩
          refine hK.out _ _ (range_below (a := w6) HBC.out hlk rra) (fun hHeld => ?_)
          clear hK K
          conv => arg 8; simp only [Act.put, List.setIfInBounds_toArray, List.set_cons_zero, List.set_cons_succ]
          refine wpAnyH_take (i := 10) (oi := ⟨some 88, _, _, _, _, _⟩) (v := ?_) rfl (by kernel_rfl) (by kernel_rfl) (by kernel_rfl) (fun _ _ _ h => h) (Or.inl ⟨by kernel_rfl, ?_⟩) hHeld ?_
          rotate_left
          · intro w hSw
            (try dsimp only at hSw)
            go_simp
            all_goals (with_reducible rfl)
          conv => arg 8; simp only [Act.put, List.setIfInBounds_toArray, List.set_cons_zero, List.set_cons_succ]
          refine wpAnyH_take (i := 11) (oi := ⟨some 89, _, _, _, _, _⟩) (v := ?_) rfl (by kernel_rfl) (by kernel_rfl) (by kernel_rfl) (fun _ _ _ h => h) (Or.inl ⟨by kernel_rfl, ?_⟩) hHeld ?_
          rotate_left
          · intro w hSw
            (try dsimp only at hSw)
            go_simp
            all_goals (with_reducible rfl)
          conv => arg 8; simp only [Act.put, List.setIfInBounds_toArray, List.set_cons_zero, List.set_cons_succ]
          refine wpAnyH_take (i := 12) (oi := ⟨some 90, _, _, _, _, _⟩) (v := ?_) rfl (by kernel_rfl) (by kernel_rfl) (by kernel_rfl) (fun _ _ _ h => h) (Or.inl ⟨by kernel_rfl, ?_⟩) hHeld ?_
          rotate_left
          · intro w hSw
            (try dsimp only at hSw)
            go_simp
            all_goals (with_reducible rfl)
          conv => arg 8; simp only [Act.put, List.setIfInBounds_toArray, List.set_cons_zero, List.set_cons_succ]
          refine wpAnyH_take (i := 13) (oi := ⟨some 91, _, _, _, _, _⟩) (v := ?_) rfl (by kernel_rfl) (by kernel_rfl) (by kernel_rfl) (fun _ _ _ h => h) (Or.inl ⟨by kernel_rfl, ?_⟩) hHeld ?_
          rotate_left
          · intro w hSw
            (try dsimp only at hSw)
            go_simp
            all_goals (with_reducible rfl)
          conv => arg 8; simp only [Act.put, List.setIfInBounds_toArray, List.set_cons_zero, List.set_cons_succ]
          refine wpAnyH_take (i := 14) (oi := ⟨some 92, _, _, _, _, _⟩) (v := _) rfl (by kernel_rfl) (by kernel_rfl) (by kernel_rfl) (fun _ _ _ h => h) (yieldsIf_load_mid (S := fun w' => w'.rangeAt box 0 (bytesOf 32 kk)) (by kernel_rfl) _ _ rfl _ _ rfl _ _ (fun w hSw => hSw) hu rfl hik) hHeld ?_
          conv => arg 8; simp only [Act.put, List.setIfInBounds_toArray, List.set_cons_zero, List.set_cons_succ]
          refine wpAnyH_take (i := 16) (oi := ⟨some 94, _, _, _, _, _⟩) (v := ?_) rfl (by kernel_rfl) (by kernel_rfl) (by kernel_rfl) (fun _ _ _ h => h) (Or.inl ⟨by kernel_rfl, ?_⟩) hHeld ?_
          rotate_left
          · intro w hSw
            (try dsimp only at hSw)
            go_simp
            all_goals (with_reducible rfl)
          conv => arg 8; simp only [Act.put, List.setIfInBounds_toArray, List.set_cons_zero, List.set_cons_succ]
          refine wpAnyH_take (i := 17) (oi := ⟨some 95, _, _, _, _, _⟩) (v := _) rfl (by kernel_rfl) (by kernel_rfl) (by kernel_rfl) (fun _ _ _ h => h) (yieldsIf_load_mid (S := fun w' => w'.rangeAt box 0 (bytesOf 32 kk)) (by kernel_rfl) _ _ rfl _ _ rfl _ _ (fun w hSw => hSw) hu rfl hik) hHeld ?_
          conv => arg 8; simp only [Act.put, List.setIfInBounds_toArray, List.set_cons_zero, List.set_cons_succ]
          refine wpAnyH_ready (rs := [15]) (by kernel_rfl) (by simp) ?_
          refine AllReadyH.cons (o := ⟨some 93, _, _, _, _, _⟩) rfl (fun K hK => ?_) AllReadyH.nil
          refine ite_yes (by kernel_rfl) ?_
          go_simp
          go_at_call 17
          (with_reducible refine (H3.out _ ?_).mono ?_)
          · repeat (first | (with_reducible exact HBC.out) | (with_reducible refine belowDrewR ?_) | (with_reducible refine below_dnR ?_ _) | (with_reducible refine below_al ?_ _))
          rintro e w9 ⟨rfl, hb9⟩
          have hBEL : Below w6.heap.size w6 w9 := below_step (a := w6) (by repeat (first | (with_reducible exact HBC.out) | (with_reducible refine belowDrewR ?_) | (with_reducible refine below_dnR ?_ _) | (with_reducible refine below_al ?_ _))) hb9
          have HBC := Lib.hid hBEL
          clear hb9 hBEL
          refine hK.out _ _ (range_below (a := w6) HBC.out hlk rra) (fun hHeld => ?_)
          clear hK K
          conv => arg 8; simp only [Act.put, List.setIfInBounds_toArray, List.set_cons_zero, List.set_cons_succ]
          refine wpAnyH_ready (rs := [18]) (by kernel_rfl) (by simp) ?_
          refine AllReadyH.cons (o := ⟨some 96, _, _, _, _, _⟩) rfl (fun K hK => ?_) AllReadyH.nil
          refine ite_yes (by kernel_rfl) ?_
          go_simp
          go_at_call 24
          (with_reducible refine (H4.out _ ?_).mono ?_)
          · repeat (first | (with_reducible exact HBC.out) | (with_reducible refine belowDrewR ?_) | (with_reducible refine below_dnR ?_ _) | (with_reducible refine below_al ?_ _))
          rintro e w9 ⟨rfl, hb9⟩
          have hBEL : Below w6.heap.size w6 w9 := below_step (a := w6) (by repeat (first | (with_reducible exact HBC.out) | (with_reducible refine belowDrewR ?_) | (with_reducible refine below_dnR ?_ _) | (with_reducible refine below_al ?_ _))) hb9
          have HBC := Lib.hid hBEL
          clear hb9 hBEL
          refine hK.out _ _ (range_below (a := w6) HBC.out hlk rra) (fun hHeld => ?_)
          clear hK K
          conv => arg 8; simp only [Act.put, List.setIfInBounds_toArray, List.set_cons_zero, List.set_cons_succ]
          refine wpAnyH_take (i := 19) (oi := ⟨some 97, _, _, _, _, _⟩) (v := ?_) rfl (by kernel_rfl) (by kernel_rfl) (by kernel_rfl) (fun _ _ _ h => h) (Or.inl ⟨by kernel_rfl, ?_⟩) hHeld ?_
          rotate_left
          · intro w hSw
            (try dsimp only at hSw)
            go_simp
            all_goals (with_reducible rfl)
          conv => arg 8; simp only [Act.put, List.setIfInBounds_toArray, List.set_cons_zero, List.set_cons_succ]
          refine wpAnyH_take (i := 20) (oi := ⟨some 98, _, _, _, _, _⟩) (v := ?_) rfl (by kernel_rfl) (by kernel_rfl) (by kernel_rfl) (fun _ _ _ h => h) (Or.inl ⟨by kernel_rfl, ?_⟩) hHeld ?_
          rotate_left
          · intro w hSw
            (try dsimp only at hSw)
            go_simp
            all_goals (with_reducible rfl)
          conv => arg 8; simp only [Act.put, List.setIfInBounds_toArray, List.set_cons_zero, List.set_cons_succ]
          refine wpAnyH_done (by kernel_rfl) ?_ _
          refine NoPanic.normal ?_
          clear tt
          go_wp2_with fail
          have hsE := HS6.out.below HBC.out
          go_roundw
          case rel => exact ⟨N + 1 + 1 + 1, by omega, ([] : List Ky), kb6, none, hsE⟩
          case measure => rw [HNM.out, hsE.num.numC]; omega
        · have t4 : ((x4 : Int) == 0) = false := by simp; omega
          obtain ⟨A9, rfl⟩ : ∃ A, A = A8 := ⟨_, rfl⟩
          obtain ⟨c9, rfl⟩ : ∃ c, c = c8 := ⟨_, rfl⟩
          go_upto_region 25 with (fail)
          have hu := Try.underlying30
          have hik := key_size kk
          have rra := blk_range HX5.out.blk
          have hlk := HX5.out.blk.lt
          have HBC := Lib.hid (Below.refl w5.heap.size w5)
          obtain ⟨b1, hb1⟩ : ∃ b, hasK L kk = b := ⟨_, rfl⟩
          obtain ⟨ln, hln⟩ : ∃ l, L.length = l := ⟨_, rfl⟩
          have HLN := Lib.hid hln
          rw [hln]
          have hB5 := HS5.out.le
          have H1 : Hid (∀ W, Below w5.heap.size w5 W → Calls Try.prog 16 #[.pointer (some ⟨C, 0, none⟩)] W fun e w' => ∃ v, e = .returned v ∧ KeysOwn W w' L v) := fun W hW => ckeys_any W B C sz L kb (HS5.out.cac.below hW) (Nat.le_trans hB5 hW.size)
          have H2 : Hid (∀ W, Below w5.heap.size w5 W → Calls Try.prog 14 #[.pointer (some ⟨C, 0, none⟩)] W fun e w' => e = .returned (.int .i64 (ln : Int)) ∧ W = w') := fun W hW => by rw [← hln]; exact clenL_any W B C sz L kb (HS5.out.cac.below hW)
          have H3 : Hid (∀ W, Below w5.heap.size w5 W → Calls Try.prog 17 #[.pointer (some ⟨C, 0, none⟩), keyV kk] W fun e w' => e = .returned (.bool b1) ∧ Below W.heap.size W w') := fun W hW => by rw [← hb1]; exact chasL_any W B C sz L kb kk (HS5.out.cac.below hW)
          have hm9 : ∀ W, Below w5.heap.size w5 W → KeysAt W A9 ln c9 L := fun W hW => by
            obtain ⟨A', c', e1, h1⟩ := (HS5.out.kl.below hW).keys
            injection e1 with e1 _ e2
            subst e1 e2
            rw [← hln]; exact h1
          have HM9 := Lib.hid hm9
          have H4 : Hid (∀ W, Below w5.heap.size w5 W → Calls Try.prog 24 #[.slice A9 ln c9, keyV kk] W fun e w' => e = .returned (.bool b1) ∧ Below W.heap.size W w') := fun W hW => by rw [← hb1]; exact rhas_any W A9 ln c9 L kk (hm9 W hW)
          have tt := bool_ne b1
          have hlm : ln ≤ 1024 := by have := HS5.out.cac.len; omega
          clear hb1 hm9 hln
          refine wp_region_noPanic ?_
          refine wp_region_held_drew (S := fun w' => w'.rangeAt box 0 (bytesOf 32 kk)) (by kernel_rfl) rra (fun hHeld => ?_)
          refine wpAnyH_take (i := 0) (oi := ⟨some 78, _, _, _, _, _⟩) (v := ?_) rfl (by kernel_rfl) (by kernel_rfl) (by kernel_rfl) (fun _ _ _ h => h) (Or.inl ⟨by kernel_rfl, ?_⟩) hHeld ?_
          rotate_left
          · intro w hSw
            (try dsimp only at hSw)
            go_simp
            all_goals (with_reducible rfl)
          conv => arg 8; simp only [Act.put, List.setIfInBounds_toArray, List.set_cons_zero, List.set_cons_succ]
          refine wpAnyH_take (i := 2) (oi := ⟨some 80, _, _, _, _, _⟩) (v := ?_) rfl (by kernel_rfl) (by kernel_rfl) (by kernel_rfl) (fun _ _ _ h => h) (Or.inl ⟨by kernel_rfl, ?_⟩) hHeld ?_
          rotate_left
          · intro w hSw
            (try dsimp only at hSw)
            go_simp
            all_goals (with_reducible rfl)
          conv => arg 8; simp only [Act.put, List.setIfInBounds_toArray, List.set_cons_zero, List.set_cons_succ]
          refine wpAnyH_ready (rs := [1]) (by kernel_rfl) (by simp) ?_
          refine AllReadyH.cons (o := ⟨some 79, _, _, _, _, _⟩) rfl (fun K hK => ?_) AllReadyH.nil
          go_simp
          go_at_call 16
          (with_reducible refine (H1.out _ ?_).mono ?_)
          · repeat (first | (with_reducible exact HBC.out) | (with_reducible refine belowDrewR ?_) | (with_reducible refine below_dnR ?_ _) | (with_reducible refine below_al ?_ _))
          rintro e w9 ⟨v9, rfl, Av, cv, rfl, hb9, ho9⟩
          have hBEL : Below w5.heap.size w5 w9 := below_step (a := w5) (by repeat (first | (with_reducible exact HBC.out) | (with_reducible refine belowDrewR ?_) | (with_reducible refine below_dnR ?_ _) | (with_reducible refine below_al ?_ _))) hb9
          have HBC := Lib.hid hBEL
          have hkv := KeysAt.of_own ho9
          rw [HLN.out] at hkv
          have HKV := Lib.hid hkv
          rw [HLN.out]
          clear ho9 hkv
          clear hb9 hBEL
          refine hK.out _ _ (range_below (a := w5) HBC.out hlk rra) (fun hHeld => ?_)
          clear hK K
          conv => arg 8; simp only [Act.put, List.setIfInBounds_toArray, List.set_cons_zero, List.set_cons_succ]
          refine wpAnyH_ready (rs := [3]) (by kernel_rfl) (by simp) ?_
          refine AllReadyH.cons (o := ⟨some 81, _, _, _, _, _⟩) rfl (fun K hK => ?_) AllReadyH.nil
          go_simp
          go_at_call 23
          (with_reducible refine (sameKeys_any _ Av A9 ln cv c9 L HKV.out (HM9.out _ HBC.out) (by omega)).mono ?_)
          rintro e w9 ⟨rfl, hb9⟩
          have hBEL : Below w5.heap.size w5 w9 := below_step (a := w5) (by repeat (first | (with_reducible exact HBC.out) | (with_reducible refine belowDrewR ?_) | (with_reducible refine below_dnR ?_ _) | (with_reducible refine below_al ?_ _))) hb9
          have HBC := Lib.hid hBEL
          clear hb9 hBEL
          refine hK.out _ _ (range_below (a := w5) HBC.out hlk rra) (fun hHeld => ?_)
          clear hK K
          conv => arg 8; simp only [Act.put, List.setIfInBounds_toArray, List.set_cons_zero, List.set_cons_succ]
          refine wpAnyH_take (i := 4) (oi := ⟨some 82, _, _, _, _, _⟩) (v := ?_) rfl (by kernel_rfl) (by kernel_rfl) (by kernel_rfl) (fun _ _ _ h => h) (Or.inl ⟨by kernel_rfl, ?_⟩) hHeld ?_
          rotate_left
          · intro w hSw
            (try dsimp only at hSw)
            go_simp
            all_goals (with_reducible rfl)
          conv => arg 8; simp only [Act.put, List.setIfInBounds_toArray, List.set_cons_zero, List.set_cons_succ]
          refine wpAnyH_take (i := 5) (oi := ⟨some 83, _, _, _, _, _⟩) (v := ?_) rfl (by kernel_rfl) (by kernel_rfl) (by kernel_rfl) (fun _ _ _ h => h) (Or.inl ⟨by kernel_rfl, ?_⟩) hHeld ?_
          rotate_left
          · intro w hSw
            (try dsimp only at hSw)
            go_simp
            all_goals (with_reducible rfl)
          conv => arg 8; simp only [Act.put, List.setIfInBounds_toArray, List.set_cons_zero, List.set_cons_succ]
          refine wpAnyH_take (i := 6) (oi := ⟨some 84, _, _, _, _, _⟩) (v := ?_) rfl (by kernel_rfl) (by kernel_rfl) (by kernel_rfl) (fun _ _ _ h => h) (Or.inl ⟨by kernel_rfl, ?_⟩) hHeld ?_
          rotate_left
          · intro w hSw
            (try dsimp only at hSw)
            go_simp
            all_goals (with_reducible rfl)
          conv => arg 8; simp only [Act.put, List.setIfInBounds_toArray, List.set_cons_zero, List.set_cons_succ]
          refine wpAnyH_take (i := 8) (oi := ⟨some 86, _, _, _, _, _⟩) (v := ?_) rfl (by kernel_rfl) (by kernel_rfl) (by kernel_rfl) (fun _ _ _ h => h) (Or.inl ⟨by kernel_rfl, ?_⟩) hHeld ?_
          rotate_left
          · intro w hSw
            (try dsimp only at hSw)
            go_simp
            all_goals (with_reducible rfl)
          conv => arg 8; simp only [Act.put, List.setIfInBounds_toArray, List.set_cons_zero, List.set_cons_succ]
          refine wpAnyH_take (i := 9) (oi := ⟨some 87, _, _, _, _, _⟩) (v := ?_) rfl (by kernel_rfl) (by kernel_rfl) (by kernel_rfl) (fun _ _ _ h => h) (Or.inl ⟨by kernel_rfl, ?_⟩) hHeld ?_
          rotate_left
          · intro w hSw
            (try dsimp only at hSw)
            go_simp
            all_goals (with_reducible rfl)
          conv => arg 8; simp only [Act.put, List.setIfInBounds_toArray, List.set_cons_zero, List.set_cons_succ]
          refine wpAnyH_ready (rs := [7]) (by kernel_rfl) (by simp) ?_
          refine AllReadyH.cons (o := ⟨some 85, _, _, _, _, _⟩) rfl (fun K hK => ?_) AllReadyH.nil
          refine ite_yes (by kernel_rfl) ?_
          go_simp
          go_at_call 14
          (with_reducible refine (H2.out _ ?_).mono ?_)
          · repeat (first | (with_reducible exact HBC.out) | (with_reducible refine belowDrewR ?_) | (with_reducible refine below_dnR ?_ _) | (with_reducible refine below_al ?_ _))
          rintro e w9 ⟨rfl, rfl⟩
          refine hK.out _ _ (range_below (a := w5) HBC.out hlk rra) (fun hHeld => ?_)
          clear hK K
          conv => arg 8; simp only [Act.put, List.setIfInBounds_toArray, List.set_cons_zero, List.set_cons_succ]
          refine wpAnyH_take (i := 10) (oi := ⟨some 88, _, _, _, _, _⟩) (v := ?_) rfl (by kernel_rfl) (by kernel_rfl) (by kernel_rfl) (fun _ _ _ h => h) (Or.inl ⟨by kernel_rfl, ?_⟩) hHeld ?_
          rotate_left
          · intro w hSw
            (try dsimp only at hSw)
            go_simp
            all_goals (with_reducible rfl)
          conv => arg 8; simp only [Act.put, List.setIfInBounds_toArray, List.set_cons_zero, List.set_cons_succ]
          refine wpAnyH_take (i := 11) (oi := ⟨some 89, _, _, _, _, _⟩) (v := ?_) rfl (by kernel_rfl) (by kernel_rfl) (by kernel_rfl) (fun _ _ _ h => h) (Or.inl ⟨by kernel_rfl, ?_⟩) hHeld ?_
          rotate_left
          · intro w hSw
            (try dsimp only at hSw)
            go_simp
            all_goals (with_reducible rfl)
          conv => arg 8; simp only [Act.put, List.setIfInBounds_toArray, List.set_cons_zero, List.set_cons_succ]
          refine wpAnyH_take (i := 12) (oi := ⟨some 90, _, _, _, _, _⟩) (v := ?_) rfl (by kernel_rfl) (by kernel_rfl) (by kernel_rfl) (fun _ _ _ h => h) (Or.inl ⟨by kernel_rfl, ?_⟩) hHeld ?_
          rotate_left
          · intro w hSw
            (try dsimp only at hSw)
            go_simp
            all_goals (with_reducible rfl)
          conv => arg 8; simp only [Act.put, List.setIfInBounds_toArray, List.set_cons_zero, List.set_cons_succ]
          refine wpAnyH_take (i := 13) (oi := ⟨some 91, _, _, _, _, _⟩) (v := ?_) rfl (by kernel_rfl) (by kernel_rfl) (by kernel_rfl) (fun _ _ _ h => h) (Or.inl ⟨by kernel_rfl, ?_⟩) hHeld ?_
          rotate_left
          · intro w hSw
            (try dsimp only at hSw)
            go_simp
            all_goals (with_reducible rfl)
          conv => arg 8; simp only [Act.put, List.setIfInBounds_toArray, List.set_cons_zero, List.set_cons_succ]
          refine wpAnyH_take (i := 14) (oi := ⟨some 92, _, _, _, _, _⟩) (v := _) rfl (by kernel_rfl) (by kernel_rfl) (by kernel_rfl) (fun _ _ _ h => h) (yieldsIf_load_mid (S := fun w' => w'.rangeAt box 0 (bytesOf 32 kk)) (by kernel_rfl) _ _ rfl _ _ rfl _ _ (fun w hSw => hSw) hu rfl hik) hHeld ?_
          conv => arg 8; simp only [Act.put, List.setIfInBounds_toArray, List.set_cons_zero, List.set_cons_succ]
          refine wpAnyH_take (i := 16) (oi := ⟨some 94, _, _, _, _, _⟩) (v := ?_) rfl (by kernel_rfl) (by kernel_rfl) (by kernel_rfl) (fun _ _ _ h => h) (Or.inl ⟨by kernel_rfl, ?_⟩) hHeld ?_
          rotate_left
          · intro w hSw
            (try dsimp only at hSw)
            go_simp
            all_goals (with_reducible rfl)
          conv => arg 8; simp only [Act.put, List.setIfInBounds_toArray, List.set_cons_zero, List.set_cons_succ]
          refine wpAnyH_take (i := 17) (oi := ⟨some 95, _, _, _, _, _⟩) (v := _) rfl (by kernel_rfl) (by kernel_rfl) (by kernel_rfl) (fun _ _ _ h => h) (yieldsIf_load_mid (S := fun w' => w'.rangeAt box 0 (bytesOf 32 kk)) (by kernel_rfl) _ _ rfl _ _ rfl _ _ (fun w hSw => hSw) hu rfl hik) hHeld ?_
          conv => arg 8; simp only [Act.put, List.setIfInBounds_toArray, List.set_cons_zero, List.set_cons_succ]
          refine wpAnyH_ready (rs := [15]) (by kernel_rfl) (by simp) ?_
          refine AllReadyH.cons (o := ⟨some 93, _, _, _, _, _⟩) rfl (fun K hK => ?_) AllReadyH.nil
          refine ite_yes (by kernel_rfl) ?_
          go_simp
          go_at_call 17
          (with_reducible refine (H3.out _ ?_).mono ?_)
          · repeat (first | (with_reducible exact HBC.out) | (with_reducible refine belowDrewR ?_) | (with_reducible refine below_dnR ?_ _) | (with_reducible refine below_al ?_ _))
          rintro e w9 ⟨rfl, hb9⟩
          have hBEL : Below w5.heap.size w5 w9 := below_step (a := w5) (by repeat (first | (with_reducible exact HBC.out) | (with_reducible refine belowDrewR ?_) | (with_reducible refine below_dnR ?_ _) | (with_reducible refine below_al ?_ _))) hb9
          have HBC := Lib.hid hBEL
          clear hb9 hBEL
          refine hK.out _ _ (range_below (a := w5) HBC.out hlk rra) (fun hHeld => ?_)
          clear hK K
          conv => arg 8; simp only [Act.put, List.setIfInBounds_toArray, List.set_cons_zero, List.set_cons_succ]
          refine wpAnyH_ready (rs := [18]) (by kernel_rfl) (by simp) ?_
          refine AllReadyH.cons (o := ⟨some 96, _, _, _, _, _⟩) rfl (fun K hK => ?_) AllReadyH.nil
          refine ite_yes (by kernel_rfl) ?_
          go_simp
          go_at_call 24
          (with_reducible refine (H4.out _ ?_).mono ?_)
          · repeat (first | (with_reducible exact HBC.out) | (with_reducible refine belowDrewR ?_) | (with_reducible refine below_dnR ?_ _) | (with_reducible refine below_al ?_ _))
          rintro e w9 ⟨rfl, hb9⟩
          have hBEL : Below w5.heap.size w5 w9 := below_step (a := w5) (by repeat (first | (with_reducible exact HBC.out) | (with_reducible refine belowDrewR ?_) | (with_reducible refine below_dnR ?_ _) | (with_reducible refine below_al ?_ _))) hb9
          have HBC := Lib.hid hBEL
          clear hb9 hBEL
          refine hK.out _ _ (range_below (a := w5) HBC.out hlk rra) (fun hHeld => ?_)
          clear hK K
          conv => arg 8; simp only [Act.put, List.setIfInBounds_toArray, List.set_cons_zero, List.set_cons_succ]
          refine wpAnyH_take (i := 19) (oi := ⟨some 97, _, _, _, _, _⟩) (v := ?_) rfl (by kernel_rfl) (by kernel_rfl) (by kernel_rfl) (fun _ _ _ h => h) (Or.inl ⟨by kernel_rfl, ?_⟩) hHeld ?_
          rotate_left
          · intro w hSw
            (try dsimp only at hSw)
            go_simp
            all_goals (with_reducible rfl)
          conv => arg 8; simp only [Act.put, List.setIfInBounds_toArray, List.set_cons_zero, List.set_cons_succ]
          refine wpAnyH_take (i := 20) (oi := ⟨some 98, _, _, _, _, _⟩) (v := ?_) rfl (by kernel_rfl) (by kernel_rfl) (by kernel_rfl) (fun _ _ _ h => h) (Or.inl ⟨by kernel_rfl, ?_⟩) hHeld ?_
          rotate_left
          · intro w hSw
            (try dsimp only at hSw)
            go_simp
            all_goals (with_reducible rfl)
          conv => arg 8; simp only [Act.put, List.setIfInBounds_toArray, List.set_cons_zero, List.set_cons_succ]
          refine wpAnyH_done (by kernel_rfl) ?_ _
          refine NoPanic.normal ?_
          clear tt
          rw [← HLN.out]
          go_wp2_with fail
          have hsE := HS5.out.below HBC.out
          go_roundw
          case rel => exact ⟨N + 1 + 1 + 1, by omega, L, kb, gb, hsE⟩
          case measure => rw [HNM.out, hsE.num.numC]; omega
      · skip
        have t5 : ((x8 : Int) == 0) = false := by simp; omega
        have t6 : ((x8 : Int) == 1) = false := by simp; omega
        obtain ⟨okv, hokv⟩ : ∃ b : Bool, (!hasK L kk) = b := ⟨_, rfl⟩
        have hrp := rpush_any w4 _ L gb HS4.out.kl (by omega) z HZ.out kk
        rw [hokv, HSZ.out] at hrp
        have HRP := Lib.hid hrp
        have HOK := Lib.hid hokv
        have tt := bool_ne okv
        clear hrp hokv
        go_wp2_with fail
        refine HRP.out.mono ?_
        rintro e w5 ⟨v5, gb5, rfl, hb5, hk5, hg5⟩
        have hX5 := HX4.out.below hb5
        have HS5 := Lib.hid (HS4.out.below hb5)
        obtain ⟨A9, c9, rfl, _⟩ := hk5.keys
        have HB5 := Lib.hid hb5
        have HK5 := Lib.hid hk5
        have HG5 := Lib.hid hg5
        clear q1 q2
        have HX5 := Lib.hid hX5
        clear hX5 hb5 hk5 hg5
        have q1 := keyOk_mk (blk_key HX5.out.blk)
        have q2 := loadK_eq (blk_key HX5.out.blk)
        have hcp := cpush_any w5 B C sz L kb kk HS5.out.cac HS5.out.le
        rw [HOK.out] at hcp
        have HCP := Lib.hid hcp
        clear hcp
        go_wp2_with fail
        refine HCP.out.mono ?_
        rintro e w6 hp6
        obtain ⟨rfl, kb6, hs6, hx6⟩ := HS4.out.step HX4.out HB5.out HK5.out HG5.out hp6
        have HS6 := Lib.hid hs6
        have HX6 := Lib.hid hx6
        clear hp6 hs6 hx6 q1 q2 HCP HB5 HK5 HG5
        go_upto_region 25 with (fail)
        clear tt
        have hu := Try.underlying30
        have hik := key_size kk
        have rra := blk_range HX6.out.blk
        have hlk := HX6.out.blk.lt
        have HBC := Lib.hid (Below.refl w6.heap.size w6)
        obtain ⟨b1, hb1⟩ : ∃ b, hasK (pushK L sz kk) kk = b := ⟨_, rfl⟩
        obtain ⟨ln, hln⟩ : ∃ l, (pushK L sz kk).length = l := ⟨_, rfl⟩
        have HLN := Lib.hid hln
        rw [hln]
        have hB6 := HS6.out.le
        have H1 : Hid (∀ W, Below w6.heap.size w6 W → Calls Try.prog 16 #[.pointer (some ⟨C, 0, none⟩)] W fun e w' => ∃ v, e = .returned v ∧ KeysOwn W w' (pushK L sz kk) v) := fun W hW => ckeys_any W B C sz (pushK L sz kk) kb6 (HS6.out.cac.below hW) (Nat.le_trans hB6 hW.size)
        have H2 : Hid (∀ W, Below w6.heap.size w6 W → Calls Try.prog 14 #[.pointer (some ⟨C, 0, none⟩)] W fun e w' => e = .returned (.int .i64 (ln : Int)) ∧ W = w') := fun W hW => by rw [← hln]; exact clenL_any W B C sz (pushK L sz kk) kb6 (HS6.out.cac.below hW)
        have H3 : Hid (∀ W, Below w6.heap.size w6 W → Calls Try.prog 17 #[.pointer (some ⟨C, 0, none⟩), keyV kk] W fun e w' => e = .returned (.bool b1) ∧ Below W.heap.size W w') := fun W hW => by rw [← hb1]; exact chasL_any W B C sz (pushK L sz kk) kb6 kk (HS6.out.cac.below hW)
        have hm9 : ∀ W, Below w6.heap.size w6 W → KeysAt W A9 ln c9 (pushK L sz kk) := fun W hW => by
          obtain ⟨A', c', e1, h1⟩ := (HS6.out.kl.below hW).keys
          injection e1 with e1 _ e2
          subst e1 e2
          rw [← hln]; exact h1
        have HM9 := Lib.hid hm9
        have H4 : Hid (∀ W, Below w6.heap.size w6 W → Calls Try.prog 24 #[.slice A9 ln c9, keyV kk] W fun e w' => e = .returned (.bool b1) ∧ Below W.heap.size W w') := fun W hW => by rw [← hb1]; exact rhas_any W A9 ln c9 (pushK L sz kk) kk (hm9 W hW)
        have tt := bool_ne b1
        have hlm : ln ≤ 1024 := by have := HS6.out.cac.len; omega
        clear hb1 hm9 hln
        refine wp_region_noPanic ?_
        refine wp_region_held_drew (S := fun w' => w'.rangeAt box 0 (bytesOf 32 kk)) (by kernel_rfl) rra (fun hHeld => ?_)
        refine wpAnyH_take (i := 0) (oi := ⟨some 78, _, _, _, _, _⟩) (v := ?_) rfl (by kernel_rfl) (by kernel_rfl) (by kernel_rfl) (fun _ _ _ h => h) (Or.inl ⟨by kernel_rfl, ?_⟩) hHeld ?_
        rotate_left
        · intro w hSw
          (try dsimp only at hSw)
          go_simp
          all_goals (with_reducible rfl)
        conv => arg 8; simp only [Act.put, List.setIfInBounds_toArray, List.set_cons_zero, List.set_cons_succ]
        refine wpAnyH_take (i := 2) (oi := ⟨some 80, _, _, _, _, _⟩) (v := ?_) rfl (by kernel_rfl) (by kernel_rfl) (by kernel_rfl) (fun _ _ _ h => h) (Or.inl ⟨by kernel_rfl, ?_⟩) hHeld ?_
        rotate_left
        · intro w hSw
          (try dsimp only at hSw)
          go_simp
          all_goals (with_reducible rfl)
        conv => arg 8; simp only [Act.put, List.setIfInBounds_toArray, List.set_cons_zero, List.set_cons_succ]
        refine wpAnyH_ready (rs := [1]) (by kernel_rfl) (by simp) ?_
        refine AllReadyH.cons (o := ⟨some 79, _, _, _, _, _⟩) rfl (fun K hK => ?_) AllReadyH.nil
        go_simp
        go_at_call 16
        (with_reducible refine (H1.out _ ?_).mono ?_)
        · repeat (first | (with_reducible exact HBC.out) | (with_reducible refine belowDrewR ?_) | (with_reducible refine below_dnR ?_ _) | (with_reducible refine below_al ?_ _))
        rintro e w9 ⟨v9, rfl, Av, cv, rfl, hb9, ho9⟩
        have hBEL : Below w6.heap.size w6 w9 := below_step (a := w6) (by repeat (first | (with_reducible exact HBC.out) | (with_reducible refine belowDrewR ?_) | (with_reducible refine below_dnR ?_ _) | (with_reducible refine below_al ?_ _))) hb9
        have HBC := Lib.hid hBEL
        have hkv := KeysAt.of_own ho9
        rw [HLN.out] at hkv
        have HKV := Lib.hid hkv
        rw [HLN.out]
        clear ho9 hkv
        clear hb9 hBEL
        refine hK.out _ _ (range_below (a := w6) HBC.out hlk rra) (fun hHeld => ?_)
        clear hK K
        conv => arg 8; simp only [Act.put, List.setIfInBounds_toArray, List.set_cons_zero, List.set_cons_succ]
        refine wpAnyH_ready (rs := [3]) (by kernel_rfl) (by simp) ?_
        refine AllReadyH.cons (o := ⟨some 81, _, _, _, _, _⟩) rfl (fun K hK => ?_) AllReadyH.nil
        go_simp
        go_at_call 23
        (with_reducible refine (sameKeys_any _ Av A9 ln cv c9 (pushK L sz kk) HKV.out (HM9.out _ HBC.out) (by omega)).mono ?_)
        rintro e w9 ⟨rfl, hb9⟩
        have hBEL : Below w6.heap.size w6 w9 := below_step (a := w6) (by repeat (first | (with_reducible exact HBC.out) | (with_reducible refine belowDrewR ?_) | (with_reducible refine below_dnR ?_ _) | (with_reducible refine below_al ?_ _))) hb9
        have HBC := Lib.hid hBEL
        clear hb9 hBEL
        refine hK.out _ _ (range_below (a := w6) HBC.out hlk rra) (fun hHeld => ?_)
        clear hK K
        conv => arg 8; simp only [Act.put, List.setIfInBounds_toArray, List.set_cons_zero, List.set_cons_succ]
        refine wpAnyH_take (i := 4) (oi := ⟨some 82, _, _, _, _, _⟩) (v := ?_) rfl (by kernel_rfl) (by kernel_rfl) (by kernel_rfl) (fun _ _ _ h => h) (Or.inl ⟨by kernel_rfl, ?_⟩) hHeld ?_
        rotate_left
        · intro w hSw
          (try dsimp only at hSw)
          go_simp
          all_goals (with_reducible rfl)
        conv => arg 8; simp only [Act.put, List.setIfInBounds_toArray, List.set_cons_zero, List.set_cons_succ]
        refine wpAnyH_take (i := 5) (oi := ⟨some 83, _, _, _, _, _⟩) (v := ?_) rfl (by kernel_rfl) (by kernel_rfl) (by kernel_rfl) (fun _ _ _ h => h) (Or.inl ⟨by kernel_rfl, ?_⟩) hHeld ?_
        rotate_left
        · intro w hSw
          (try dsimp only at hSw)
          go_simp
          all_goals (with_reducible rfl)
        conv => arg 8; simp only [Act.put, List.setIfInBounds_toArray, List.set_cons_zero, List.set_cons_succ]
        refine wpAnyH_take (i := 6) (oi := ⟨some 84, _, _, _, _, _⟩) (v := ?_) rfl (by kernel_rfl) (by kernel_rfl) (by kernel_rfl) (fun _ _ _ h => h) (Or.inl ⟨by kernel_rfl, ?_⟩) hHeld ?_
        rotate_left
        · intro w hSw
          (try dsimp only at hSw)
          go_simp
          all_goals (with_reducible rfl)
        conv => arg 8; simp only [Act.put, List.setIfInBounds_toArray, List.set_cons_zero, List.set_cons_succ]
        refine wpAnyH_take (i := 8) (oi := ⟨some 86, _, _, _, _, _⟩) (v := ?_) rfl (by kernel_rfl) (by kernel_rfl) (by kernel_rfl) (fun _ _ _ h => h) (Or.inl ⟨by kernel_rfl, ?_⟩) hHeld ?_
        rotate_left
        · intro w hSw
          (try dsimp only at hSw)
          go_simp
          all_goals (with_reducible rfl)
        conv => arg 8; simp only [Act.put, List.setIfInBounds_toArray, List.set_cons_zero, List.set_cons_succ]
        refine wpAnyH_take (i := 9) (oi := ⟨some 87, _, _, _, _, _⟩) (v := ?_) rfl (by kernel_rfl) (by kernel_rfl) (by kernel_rfl) (fun _ _ _ h => h) (Or.inl ⟨by kernel_rfl, ?_⟩) hHeld ?_
        rotate_left
        · intro w hSw
          (try dsimp only at hSw)
          go_simp
          all_goals (with_reducible rfl)
        conv => arg 8; simp only [Act.put, List.setIfInBounds_toArray, List.set_cons_zero, List.set_cons_succ]
        refine wpAnyH_ready (rs := [7]) (by kernel_rfl) (by simp) ?_
        refine AllReadyH.cons (o := ⟨some 85, _, _, _, _, _⟩) rfl (fun K hK => ?_) AllReadyH.nil
        refine ite_yes (by kernel_rfl) ?_
        go_simp
        go_at_call 14
        (with_reducible refine (H2.out _ ?_).mono ?_)
        · repeat (first | (with_reducible exact HBC.out) | (with_reducible refine belowDrewR ?_) | (with_reducible refine below_dnR ?_ _) | (with_reducible refine below_al ?_ _))
        rintro e w9 ⟨rfl, rfl⟩
        refine hK.out _ _ (range_below (a := w6) HBC.out hlk rra) (fun hHeld => ?_)
        clear hK K
        conv => arg 8; simp only [Act.put, List.setIfInBounds_toArray, List.set_cons_zero, List.set_cons_succ]
        refine wpAnyH_take (i := 10) (oi := ⟨some 88, _, _, _, _, _⟩) (v := ?_) rfl (by kernel_rfl) (by kernel_rfl) (by kernel_rfl) (fun _ _ _ h => h) (Or.inl ⟨by kernel_rfl, ?_⟩) hHeld ?_
        rotate_left
        · intro w hSw
          (try dsimp only at hSw)
          go_simp
          all_goals (with_reducible rfl)
        conv => arg 8; simp only [Act.put, List.setIfInBounds_toArray, List.set_cons_zero, List.set_cons_succ]
        refine wpAnyH_take (i := 11) (oi := ⟨some 89, _, _, _, _, _⟩) (v := ?_) rfl (by kernel_rfl) (by kernel_rfl) (by kernel_rfl) (fun _ _ _ h => h) (Or.inl ⟨by kernel_rfl, ?_⟩) hHeld ?_
        rotate_left
        · intro w hSw
          (try dsimp only at hSw)
          go_simp
          all_goals (with_reducible rfl)
        conv => arg 8; simp only [Act.put, List.setIfInBounds_toArray, List.set_cons_zero, List.set_cons_succ]
        refine wpAnyH_take (i := 12) (oi := ⟨some 90, _, _, _, _, _⟩) (v := ?_) rfl (by kernel_rfl) (by kernel_rfl) (by kernel_rfl) (fun _ _ _ h => h) (Or.inl ⟨by kernel_rfl, ?_⟩) hHeld ?_
        rotate_left
        · intro w hSw
          (try dsimp only at hSw)
          go_simp
          all_goals (with_reducible rfl)
        conv => arg 8; simp only [Act.put, List.setIfInBounds_toArray, List.set_cons_zero, List.set_cons_succ]
        refine wpAnyH_take (i := 13) (oi := ⟨some 91, _, _, _, _, _⟩) (v := ?_) rfl (by kernel_rfl) (by kernel_rfl) (by kernel_rfl) (fun _ _ _ h => h) (Or.inl ⟨by kernel_rfl, ?_⟩) hHeld ?_
        rotate_left
        · intro w hSw
          (try dsimp only at hSw)
          go_simp
          all_goals (with_reducible rfl)
        conv => arg 8; simp only [Act.put, List.setIfInBounds_toArray, List.set_cons_zero, List.set_cons_succ]
        refine wpAnyH_take (i := 14) (oi := ⟨some 92, _, _, _, _, _⟩) (v := _) rfl (by kernel_rfl) (by kernel_rfl) (by kernel_rfl) (fun _ _ _ h => h) (yieldsIf_load_mid (S := fun w' => w'.rangeAt box 0 (bytesOf 32 kk)) (by kernel_rfl) _ _ rfl _ _ rfl _ _ (fun w hSw => hSw) hu rfl hik) hHeld ?_
        conv => arg 8; simp only [Act.put, List.setIfInBounds_toArray, List.set_cons_zero, List.set_cons_succ]
        refine wpAnyH_take (i := 16) (oi := ⟨some 94, _, _, _, _, _⟩) (v := ?_) rfl (by kernel_rfl) (by kernel_rfl) (by kernel_rfl) (fun _ _ _ h => h) (Or.inl ⟨by kernel_rfl, ?_⟩) hHeld ?_
        rotate_left
        · intro w hSw
          (try dsimp only at hSw)
          go_simp
          all_goals (with_reducible rfl)
        conv => arg 8; simp only [Act.put, List.setIfInBounds_toArray, List.set_cons_zero, List.set_cons_succ]
        refine wpAnyH_take (i := 17) (oi := ⟨some 95, _, _, _, _, _⟩) (v := _) rfl (by kernel_rfl) (by kernel_rfl) (by kernel_rfl) (fun _ _ _ h => h) (yieldsIf_load_mid (S := fun w' => w'.rangeAt box 0 (bytesOf 32 kk)) (by kernel_rfl) _ _ rfl _ _ rfl _ _ (fun w hSw => hSw) hu rfl hik) hHeld ?_
        conv => arg 8; simp only [Act.put, List.setIfInBounds_toArray, List.set_cons_zero, List.set_cons_succ]
        refine wpAnyH_ready (rs := [15]) (by kernel_rfl) (by simp) ?_
        refine AllReadyH.cons (o := ⟨some 93, _, _, _, _, _⟩) rfl (fun K hK => ?_) AllReadyH.nil
        refine ite_yes (by kernel_rfl) ?_
        go_simp
        go_at_call 17
        (with_reducible refine (H3.out _ ?_).mono ?_)
        · repeat (first | (with_reducible exact HBC.out) | (with_reducible refine belowDrewR ?_) | (with_reducible refine below_dnR ?_ _) | (with_reducible refine below_al ?_ _))
        rintro e w9 ⟨rfl, hb9⟩
        have hBEL : Below w6.heap.size w6 w9 := below_step (a := w6) (by repeat (first | (with_reducible exact HBC.out) | (with_reducible refine belowDrewR ?_) | (with_reducible refine below_dnR ?_ _) | (with_reducible refine below_al ?_ _))) hb9
        have HBC := Lib.hid hBEL
        clear hb9 hBEL
        refine hK.out _ _ (range_below (a := w6) HBC.out hlk rra) (fun hHeld => ?_)
        clear hK K
        conv => arg 8; simp only [Act.put, List.setIfInBounds_toArray, List.set_cons_zero, List.set_cons_succ]
        refine wpAnyH_ready (rs := [18]) (by kernel_rfl) (by simp) ?_
        refine AllReadyH.cons (o := ⟨some 96, _, _, _, _, _⟩) rfl (fun K hK => ?_) AllReadyH.nil
        refine ite_yes (by kernel_rfl) ?_
        go_simp
        go_at_call 24
        (with_reducible refine (H4.out _ ?_).mono ?_)
        · repeat (first | (with_reducible exact HBC.out) | (with_reducible refine belowDrewR ?_) | (with_reducible refine below_dnR ?_ _) | (with_reducible refine below_al ?_ _))
        rintro e w9 ⟨rfl, hb9⟩
        have hBEL : Below w6.heap.size w6 w9 := below_step (a := w6) (by repeat (first | (with_reducible exact HBC.out) | (with_reducible refine belowDrewR ?_) | (with_reducible refine below_dnR ?_ _) | (with_reducible refine below_al ?_ _))) hb9
        have HBC := Lib.hid hBEL
        clear hb9 hBEL
        refine hK.out _ _ (range_below (a := w6) HBC.out hlk rra) (fun hHeld => ?_)
        clear hK K
        conv => arg 8; simp only [Act.put, List.setIfInBounds_toArray, List.set_cons_zero, List.set_cons_succ]
        refine wpAnyH_take (i := 19) (oi := ⟨some 97, _, _, _, _, _⟩) (v := ?_) rfl (by kernel_rfl) (by kernel_rfl) (by kernel_rfl) (fun _ _ _ h => h) (Or.inl ⟨by kernel_rfl, ?_⟩) hHeld ?_
        rotate_left
        · intro w hSw
          (try dsimp only at hSw)
          go_simp
          all_goals (with_reducible rfl)
        conv => arg 8; simp only [Act.put, List.setIfInBounds_toArray, List.set_cons_zero, List.set_cons_succ]
        refine wpAnyH_take (i := 20) (oi := ⟨some 98, _, _, _, _, _⟩) (v := ?_) rfl (by kernel_rfl) (by kernel_rfl) (by kernel_rfl) (fun _ _ _ h => h) (Or.inl ⟨by kernel_rfl, ?_⟩) hHeld ?_
        rotate_left
        · intro w hSw
          (try dsimp only at hSw)
          go_simp
          all_goals (with_reducible rfl)
        conv => arg 8; simp only [Act.put, List.setIfInBounds_toArray, List.set_cons_zero, List.set_cons_succ]
        refine wpAnyH_done (by kernel_rfl) ?_ _
        refine NoPanic.normal ?_
        clear tt
        rw [← HLN.out]
        go_wp2_with fail
        have hsE := HS6.out.below HBC.out
        go_roundw
        case rel => exact ⟨N + 1 + 1, by omega, (pushK L sz kk), kb6, gb5, hsE⟩
        case measure => rw [HNM.out, hsE.num.numC]; omega
    · have t1 : ¬ (N : Int) < n := by omega
      go_wp2_with fail
      refine (known_any _).mono ?_
      rintro e w2 ⟨rfl, hb2⟩
      have HB2 := Lib.hid ((HB0.out.trans ((HST.out.bel).mono hwB)).trans (hb2.mono (Nat.le_trans hwB HST.out.le)))
      clear hb2
      go_wp2_with fail
      go_ret
      exact ⟨rfl, HB2.out⟩
end Go.Proofs.Ytegdchlbmjokmaa
