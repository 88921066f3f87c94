/- The cache's reference: Push of a key that is there. -/
import Derived.Test.YtegdchlbmjokmaaCacR
namespace Go.Proofs.Ytegdchlbmjokmaa
open Go.RowKit
set_option linter.unusedVariables false
set_option linter.unusedSimpArgs false
open Lnk

set_option maxRecDepth 100000 in
set_option maxHeartbeats 2000000 in
attribute [local go_sem ↓] wp_load_k wp_build_key in
theorem rpush_yes_neg (w : World) (v : Value) (L : List Ky) (gb : Option Nat) (hk : KL w v L gb) (hL : L.length ≤ 1048576) (z : Int) (hz : z < 0) (hz2 : -9223372036854775808 ≤ z) (k : Ky) (i : Nat) (hi : idxK L k = some i) :
    Calls Try.prog 22 #[v, .int .i64 z, keyV k] w (RefKPost w (lackT L i ++ [k]) false gb) := by
  obtain ⟨A, c, hv, hka⟩ := hk.keys
  have hKL := hk
  rw [hv] at hk ⊢
  obtain ⟨i0, hi0, hz0, hz1, hz2⟩ := info_parts key_info
  obtain ⟨cx, hcx⟩ : ∃ cx, (bytesOf 32 k).toArray = cx := ⟨_, rfl⟩
  show Calls _ _ #[_, .int .i64 z, .agg (bytesOf 32 k).toArray] _ _
  rw [hcx]
  have HCX := Lib.hid hcx
  have HKA := Lib.hid hka
  have HKL := Lib.hid hKL
  have HV := Lib.hid hv
  have HI0 := Lib.hid hi0
  have HZ0 := Lib.hid hz0
  obtain ⟨n, hn⟩ : ∃ n, L.length = n := ⟨_, rfl⟩
  have HN := Lib.hid hn
  rw [hn] at hL ⊢
  clear hcx hka hk hKL hi0 hz0 hn hv
  go_enter Try.func22, Try.ntmps22
  go_upto_region 1 with (fail)
  generalize hwa : World.alloc w _ = wa
  have hb0 : Below w.heap.size w wa := by rw [← hwa]; exact (Below.refl _ _).alloc (Nat.le_refl _) _
  have hk3 : Blk wa w.heap.size 30 (bytesOf 32 k).toArray := by rw [← hwa, HCX.out]; exact Blk.new w _ _
  have q1 := keyOk_mk (blk_key hk3)
  have q2 := loadK_eq (blk_key hk3)
  have HIX := Lib.hid (rindex_any wa A L.length c L k (HKA.out.below hb0))
  have HB0 := Lib.hid hb0
  have HK3 := Lib.hid hk3
  have hz0' := hb0.size
  clear hwa hb0 hk3
  go_wp2_with fail
  rw [← HN.out]
  refine HIX.out.mono ?_
  rintro e w1 ⟨rfl, hb1⟩
  rw [HN.out]
  have HB1 := Lib.hid (HB0.out.trans (hb1.mono hz0'))
  have hk4 := HK3.out.below hb1 HK3.out.lt
  have HK4 := Lib.hid hk4
  have hz1' := HB1.out.size
  clear q1 q2 hb1 HIX HK3
  obtain ⟨hix, hil⟩ := idxI_some hi
  obtain ⟨g, o, c', hf1, hgb, hcc, hc63, hrd⟩ := HKL.out.form (by omega)
  have hAe : A = some ⟨g, o, none⟩ ∧ c = c' := by
    rw [HV.out] at hf1
    injection hf1 with h1 _ h2
    exact ⟨h1, h2⟩
  obtain ⟨rfl, rfl⟩ := hAe
  have hiL : i < n := by have := HN.out; omega
  rw [HN.out] at hcc
  rw [hix] at *
  have HR1 : Hid (∀ W, Below w1.heap.size w1 W → Reads W w.heap.size 32 (some ⟨g, o, none⟩) i (keysOf (L.take i))) := fun W hW => reads_take ((hrd.below (HB1.out.mono (Nat.le_refl _))).below (hW.mono hz1')) (by omega)
  have HR2 : Hid (c ≠ i + 1 → ∀ W, Below w1.heap.size w1 W → Reads W w.heap.size 32 (some ⟨g, o + (i + 1) * 32, none⟩) (n - (i + 1)) (keysOf (L.drop (i + 1)))) := fun hne W hW => by
    have := reads_drop (c := c) (i := i + 1) ((hrd.below (HB1.out.mono (Nat.le_refl _))).below (hW.mono hz1')) (by omega) (by rw [HN.out]; exact hcc) hne
    rw [HN.out] at this
    exact this
  have hee : Hid (c = i + 1 → L.drop (i + 1) = []) := fun e => List.drop_of_length_le (by have := HN.out; omega)
  clear hrd hix
  by_cases hne : c ≠ i + 1
  · have HNE := Lib.hid hne
    have t1 : (i : Int) ≤ c := by omega
    have t2 : (i : Int) + 1 ≤ n := by omega
    have t3 : (n : Int) ≤ c := by omega
    have g1 : IntKind.i64.wrap ((i : Int) + 1) = (i : Int) + 1 := IntWalk.i64_in _ (by omega)
    have p0 : (0 : Int) ≤ (i : Int) + 1 := by omega
    have p1 : ((i : Int) + 1).toNat = i + 1 := by omega
    have t0 : (0 : Int) ≤ (i : Int) := by omega
    clear hne
    go_upto_region 4 with (fail)
    have hne := HNE.out
    have hu := Try.underlying30
    have hik := key_size k
    have rra := blk_range HK4.out
    have hlk := HK4.out.lt
    have q3 := isKy k
    refine wp_region_noPanic ?_
    refine wp_region_held_drew (S := fun w' => w'.rangeAt w.heap.size 0 (bytesOf 32 k)) (by kernel_rfl) rra (fun hHeld => ?_)
    refine wpAnyH_take (i := 1) (oi := ⟨some 19, _, _, _, _, _⟩) (v := ?_) rfl (by kernel_rfl) (by kernel_rfl) (by kernel_rfl) (fun _ _ _ h => h) (Or.inl ⟨by kernel_rfl, ?_⟩) hHeld ?_
    rotate_left
    · intro w hSw
      (try dsimp only at hSw)
      go_simp
      all_goals (with_reducible rfl)
    conv => arg 8; simp only [Act.put, List.setIfInBounds_toArray, List.set_cons_zero, List.set_cons_succ]
    refine wpAnyH_take (i := 2) (oi := ⟨some 20, _, _, _, _, _⟩) (v := ?_) rfl (by kernel_rfl) (by kernel_rfl) (by kernel_rfl) (fun _ _ _ h => h) (Or.inl ⟨by kernel_rfl, ?_⟩) hHeld ?_
    rotate_left
    · intro w hSw
      (try dsimp only at hSw)
      go_simp
      all_goals (with_reducible rfl)
    conv => arg 8; simp only [Act.put, List.setIfInBounds_toArray, List.set_cons_zero, List.set_cons_succ]
    refine wpAnyH_take (i := 3) (oi := ⟨some 21, _, _, _, _, _⟩) (v := ?_) rfl (by kernel_rfl) (by kernel_rfl) (by kernel_rfl) (fun _ _ _ h => h) (Or.inl ⟨by kernel_rfl, ?_⟩) hHeld ?_
    rotate_left
    · intro w hSw
      (try dsimp only at hSw)
      go_simp
      all_goals (with_reducible rfl)
    conv => arg 8; simp only [Act.put, List.setIfInBounds_toArray, List.set_cons_zero, List.set_cons_succ]
    refine wpAnyH_take (i := 5) (oi := ⟨some 23, _, _, _, _, _⟩) (v := ?_) rfl (by kernel_rfl) (by kernel_rfl) (by kernel_rfl) (fun _ _ _ h => h) (Or.inl ⟨by kernel_rfl, ?_⟩) hHeld ?_
    rotate_left
    · intro w hSw
      (try dsimp only at hSw)
      go_simp
      all_goals (with_reducible rfl)
    conv => arg 8; simp only [Act.put, List.setIfInBounds_toArray, List.set_cons_zero, List.set_cons_succ]
    refine wpAnyH_take (i := 6) (oi := ⟨some 24, _, _, _, _, _⟩) (v := ?_) rfl (by kernel_rfl) (by kernel_rfl) (by kernel_rfl) (fun _ _ _ h => h) (Or.inl ⟨by kernel_rfl, ?_⟩) hHeld ?_
    rotate_left
    · intro w hSw
      (try dsimp only at hSw)
      go_simp
      all_goals (with_reducible rfl)
    conv => arg 8; simp only [Act.put, List.setIfInBounds_toArray, List.set_cons_zero, List.set_cons_succ]
    refine wpAnyH_take (i := 7) (oi := ⟨some 25, _, _, _, _, _⟩) (v := ?_) rfl (by kernel_rfl) (by kernel_rfl) (by kernel_rfl) (fun _ _ _ h => h) (Or.inl ⟨by kernel_rfl, ?_⟩) hHeld ?_
    rotate_left
    · intro w hSw
      (try dsimp only at hSw)
      go_simp
      all_goals (with_reducible rfl)
    conv => arg 8; simp only [Act.put, List.setIfInBounds_toArray, List.set_cons_zero, List.set_cons_succ]
    refine wpAnyH_take (i := 8) (oi := ⟨some 26, _, _, _, _, _⟩) (v := ?_) rfl (by kernel_rfl) (by kernel_rfl) (by kernel_rfl) (fun _ _ _ h => h) (Or.inl ⟨by kernel_rfl, ?_⟩) hHeld ?_
    rotate_left
    · intro w hSw
      (try dsimp only at hSw)
      go_simp
      all_goals (with_reducible rfl)
    conv => arg 8; simp only [Act.put, List.setIfInBounds_toArray, List.set_cons_zero, List.set_cons_succ]
    refine wpAnyH_take (i := 10) (oi := ⟨some 28, _, _, _, _, _⟩) (v := _) rfl (by kernel_rfl) (by kernel_rfl) (by kernel_rfl) (fun _ _ _ h => h) (yieldsIf_load_mid (S := fun w' => w'.rangeAt w.heap.size 0 (bytesOf 32 k)) (by kernel_rfl) _ _ rfl _ _ rfl _ _ (fun w hSw => hSw) hu rfl hik) hHeld ?_
    conv => arg 8; simp only [Act.put, List.setIfInBounds_toArray, List.set_cons_zero, List.set_cons_succ]
    generalize hW : World.drew _ = wd at hHeld ⊢
    have hbd : Below w1.heap.size w1 wd := by rw [← hW]; exact belowDrewR (Below.refl _ _)
    have HBD := Lib.hid hbd
    clear hbd hW
    refine wpAnyH_ready (rs := [0, 11]) (by kernel_rfl) (by simp) ?_
    refine (AllReadyH.cons (o := ⟨some 18, _, _, _, _, _⟩) rfl (fun K hK => ?_) (AllReadyH.cons (o := ⟨some 29, _, _, _, _, _⟩) rfl (fun K hK => ?_) AllReadyH.nil))
    · go_simp
      refine hK.out _ _ (by exact range_below (a := w1) (by first | exact HBD.out | exact below_al HBD.out _ | exact hb1x) hlk rra) (fun hHeld => ?_)
      clear hK K
      conv => arg 8; simp only [Act.put, List.setIfInBounds_toArray, List.set_cons_zero, List.set_cons_succ]
      generalize hW : World.alloc _ _ = v1w at hHeld ⊢
      have hbx : Below wd.heap.size wd v1w := by rw [← hW]; exact (Below.refl _ _).alloc (Nat.le_refl _) _
      have hox : v1w.ownsRow w1.heap.size 30 32 (.slice (some ⟨wd.heap.size, 0, none⟩) 0 0) 0 [] := by rw [← hW]; exact owns_base2 (empty_own _) HBD.out.size
      have HOv1w := Lib.hid hox
      clear hox
      have HBv1w := Lib.hid (HBD.out.trans (hbx.mono HBD.out.size))
      clear hbx hW
      refine wpAnyH_ready (rs := [4, 11]) (by kernel_rfl) (by simp) ?_
      refine (AllReadyH.cons (o := ⟨some 22, _, _, _, _, _⟩) rfl (fun K hK => ?_) (AllReadyH.cons (o := ⟨some 29, _, _, _, _, _⟩) rfl (fun K hK => ?_) AllReadyH.nil))
      · refine step_append_any _ (by rfl) (.tmp 18) (.tmp 21) _ (by rfl) w1.heap.size 30 i0 _ 32 32 Try.underlying28 HI0.out HZ0.out hz1 hz2 rfl (by omega) (.slice (some ⟨wd.heap.size, 0, none⟩) 0 0) (0) ([]) (by rfl) HOv1w.out _ (some ⟨g, o, none⟩) (i) _ (keysOf (L.take i)) (by rfl) (HR1.out _ HBv1w.out) (keysOf_oneCell _) (by unfold maxLen; omega) (by omega) HBv1w.out.size ?_
        intro v3 v2w ho hg hat
        rw [Nat.zero_add, List.nil_append] at ho
        obtain ⟨Av2w, cv2w, rfl⟩ := own_form ho
        have hb1x : Below w1.heap.size w1 v2w := HBv1w.out.grown hg HBv1w.out.size (fun g e => (HOv1w.out.lt g e).1)
        have HOv2w := Lib.hid ho
        have HBv2w := Lib.hid hb1x
        clear ho hg hat hb1x
        refine hK.out _ _ (by exact range_below (a := w1) (by first | exact HBv2w.out | exact below_al HBv2w.out _ | exact hb1x) hlk rra) (fun hHeld => ?_)
        clear hK K
        conv => arg 8; simp only [Act.put, List.setIfInBounds_toArray, List.set_cons_zero, List.set_cons_succ]
        refine wpAnyH_ready (rs := [9, 11]) (by kernel_rfl) (by simp) ?_
        refine (AllReadyH.cons (o := ⟨some 27, _, _, _, _, _⟩) rfl (fun K hK => ?_) (AllReadyH.cons (o := ⟨some 29, _, _, _, _, _⟩) rfl (fun K hK => ?_) AllReadyH.nil))
        · refine step_append_any _ (by rfl) (.tmp 22) (.tmp 26) _ (by rfl) w1.heap.size 30 i0 _ 32 32 Try.underlying28 HI0.out HZ0.out hz1 hz2 rfl (by omega) (.slice Av2w (i) cv2w) (i) (keysOf (L.take i)) (by rfl) HOv2w.out _ (some ⟨g, o + (i + 1) * 32, none⟩) (n - (i + 1)) _ (keysOf (L.drop (i + 1))) (by rfl) (HR2.out HNE.out _ HBv2w.out) (keysOf_oneCell _) (by unfold maxLen; omega) (by omega) HBv2w.out.size ?_
          intro v3 v3w ho hg hat
          skip
          obtain ⟨Av3w, cv3w, rfl⟩ := own_form ho
          have hb1x : Below w1.heap.size w1 v3w := HBv2w.out.grown hg HBv2w.out.size (fun g e => (HOv2w.out.lt g e).1)
          have HOv3w := Lib.hid ho
          have HBv3w := Lib.hid hb1x
          clear ho hg hat hb1x
          refine hK.out _ _ (by exact range_below (a := w1) (by first | exact HBv3w.out | exact below_al HBv3w.out _ | exact hb1x) hlk rra) (fun hHeld => ?_)
          clear hK K
          conv => arg 8; simp only [Act.put, List.setIfInBounds_toArray, List.set_cons_zero, List.set_cons_succ]
          refine wpAnyH_ready (rs := [11]) (by kernel_rfl) (by simp) ?_
          refine (AllReadyH.cons (o := ⟨some 29, _, _, _, _, _⟩) rfl (fun K hK => ?_) AllReadyH.nil)
          go_simp
          refine hK.out _ _ (by exact range_below (a := w1) (by first | exact HBv3w.out | exact below_al HBv3w.out _ | exact hb1x) hlk rra) (fun hHeld => ?_)
          clear hK K
          conv => arg 8; simp only [Act.put, List.setIfInBounds_toArray, List.set_cons_zero, List.set_cons_succ]
          generalize hW : World.alloc _ _ = v4w at hHeld ⊢
          have hbx : Below v3w.heap.size v3w v4w := by rw [← hW]; exact (Below.refl _ _).alloc (Nat.le_refl _) _
          have hxx : Blk v4w v3w.heap.size 30 (bytesOf 32 k).toArray := by rw [← hW]; exact heap_alloc_new _ _
          have HXv4w := Lib.hid hxx
          clear hxx
          have HNv4w : Hid (∀ g, Value.ownBlock (.slice Av3w (i + (n - (i + 1))) cv3w) = some g → g ≠ v3w.heap.size) := fun g e => Nat.ne_of_lt (HOv3w.out.lt g e).2
          have HOv4w := Lib.hid (owns_below HOv3w.out hbx)
          have HBv4w := Lib.hid (HBv3w.out.trans (hbx.mono HBv3w.out.size))
          clear hbx hW
          refine wpAnyH_ready (rs := [12]) (by kernel_rfl) (by simp) ?_
          refine (AllReadyH.cons (o := ⟨some 30, _, _, _, _, _⟩) rfl (fun K hK => ?_) AllReadyH.nil)
          refine step_append_any _ (by rfl) (.tmp 27) (.tmp 29) _ (by rfl) w1.heap.size 30 i0 _ 32 32 Try.underlying28 HI0.out HZ0.out hz1 hz2 rfl (by omega) (.slice Av3w (i + (n - (i + 1))) cv3w) (i + (n - (i + 1))) (keysOf (L.take i) ++ keysOf (L.drop (i + 1))) (by rfl) HOv4w.out _ (some ⟨v3w.heap.size, 0, none⟩) (1) 1 (keysOf [k]) (by rfl) (reads_key HXv4w.out) (keysOf_oneCell _) (by unfold maxLen; omega) (by omega) HBv4w.out.size ?_
          intro v3 v5w ho hg hat
          skip
          obtain ⟨Av5w, cv5w, rfl⟩ := own_form ho
          have hb1x : Below w1.heap.size w1 v5w := HBv4w.out.grown hg HBv4w.out.size (fun g e => (HOv4w.out.lt g e).1)
          have HOv5w := Lib.hid ho
          have HBv5w := Lib.hid hb1x
          clear ho hg hat hb1x
          refine hK.out _ _ (by exact range_below (a := w1) (by first | exact HBv5w.out | exact below_al HBv5w.out _ | exact hb1x) hlk rra) (fun hHeld => ?_)
          clear hK K
          conv => arg 8; simp only [Act.put, List.setIfInBounds_toArray, List.set_cons_zero, List.set_cons_succ]
          refine wpAnyH_take (i := 13) (oi := ⟨some 6, _, _, _, _, _⟩) (v := ?_) rfl (by kernel_rfl) (by kernel_rfl) (by kernel_rfl) (fun _ _ _ h => h) (Or.inl ⟨by kernel_rfl, ?_⟩) hHeld ?_
          rotate_left
          · intro w hSw
            (try dsimp only at hSw)
            go_simp
            all_goals (with_reducible rfl)
          conv => arg 8; simp only [Act.put, List.setIfInBounds_toArray, List.set_cons_zero, List.set_cons_succ]
          refine wpAnyH_take (i := 14) (oi := ⟨some 7, _, _, _, _, _⟩) (v := ?_) rfl (by kernel_rfl) (by kernel_rfl) (by kernel_rfl) (fun _ _ _ h => h) (Or.inl ⟨by kernel_rfl, ?_⟩) hHeld ?_
          rotate_left
          · intro w hSw
            (try dsimp only at hSw)
            go_simp
            all_goals (with_reducible rfl)
          conv => arg 8; simp only [Act.put, List.setIfInBounds_toArray, List.set_cons_zero, List.set_cons_succ]
          refine wpAnyH_done (by kernel_rfl) ?_ _
          refine NoPanic.normal ?_
          go_wp2_with fail
          go_ret2
          have hl := lackT_len (List.getElem?_eq_getElem hil)
          have hn := HN.out
          have ho : v5w.ownsRow w1.heap.size 30 32 (.slice Av5w (i + (n - (i + 1)) + 1) cv5w) (lackT L i ++ [k]).length (keysOf (lackT L i ++ [k])) := by
            rw [keysOf_append, keysOf_lackT, show (lackT L i ++ [k]).length = i + (n - (i + 1)) + 1 by rw [List.length_append, List.length_singleton]; omega]
            exact HOv5w.out
          exact ⟨_, _, rfl, HB1.out.trans (HBv5w.out.mono hz1'), KL.of_own ho, .inr (fun g hg => Nat.le_trans hz1' (ho.lt g hg).1)⟩
        · go_simp
          refine hK.out _ _ (by exact range_below (a := w1) (by first | exact HBv2w.out | exact below_al HBv2w.out _ | exact hb1x) hlk rra) (fun hHeld => ?_)
          clear hK K
          conv => arg 8; simp only [Act.put, List.setIfInBounds_toArray, List.set_cons_zero, List.set_cons_succ]
          generalize hW : World.alloc _ _ = v6w at hHeld ⊢
          have hbx : Below v2w.heap.size v2w v6w := by rw [← hW]; exact (Below.refl _ _).alloc (Nat.le_refl _) _
          have hxx : Blk v6w v2w.heap.size 30 (bytesOf 32 k).toArray := by rw [← hW]; exact heap_alloc_new _ _
          have HXv6w := Lib.hid hxx
          clear hxx
          have HNv6w : Hid (∀ g, Value.ownBlock (.slice Av2w (i) cv2w) = some g → g ≠ v2w.heap.size) := fun g e => Nat.ne_of_lt (HOv2w.out.lt g e).2
          have HOv6w := Lib.hid (owns_below HOv2w.out hbx)
          have HBv6w := Lib.hid (HBv2w.out.trans (hbx.mono HBv2w.out.size))
          clear hbx hW
          refine wpAnyH_ready (rs := [9]) (by kernel_rfl) (by simp) ?_
          refine (AllReadyH.cons (o := ⟨some 27, _, _, _, _, _⟩) rfl (fun K hK => ?_) AllReadyH.nil)
          refine step_append_any _ (by rfl) (.tmp 22) (.tmp 26) _ (by rfl) w1.heap.size 30 i0 _ 32 32 Try.underlying28 HI0.out HZ0.out hz1 hz2 rfl (by omega) (.slice Av2w (i) cv2w) (i) (keysOf (L.take i)) (by rfl) HOv6w.out _ (some ⟨g, o + (i + 1) * 32, none⟩) (n - (i + 1)) _ (keysOf (L.drop (i + 1))) (by rfl) (HR2.out HNE.out _ HBv6w.out) (keysOf_oneCell _) (by unfold maxLen; omega) (by omega) HBv6w.out.size ?_
          intro v3 v7w ho hg hat
          skip
          obtain ⟨Av7w, cv7w, rfl⟩ := own_form ho
          have hb1x : Below w1.heap.size w1 v7w := HBv6w.out.grown hg HBv6w.out.size (fun g e => (HOv6w.out.lt g e).1)
          have HOv7w := Lib.hid ho
          have HXv7w := Lib.hid (HXv6w.out.grown hg (fun e => HNv6w.out _ e.symm rfl))
          have HNv7w : Hid (∀ g, Value.ownBlock (.slice Av7w (i + (n - (i + 1))) cv7w) = some g → g ≠ v2w.heap.size) := fun g e => by
            rcases hat with h | h
            · exact HNv6w.out g (h.symm.trans e)
            · have h1 := HXv6w.out.lt; rw [e] at h; injection h with h; omega
          have HBv7w := Lib.hid hb1x
          clear ho hg hat hb1x
          refine hK.out _ _ (by exact range_below (a := w1) (by first | exact HBv7w.out | exact below_al HBv7w.out _ | exact hb1x) hlk rra) (fun hHeld => ?_)
          clear hK K
          conv => arg 8; simp only [Act.put, List.setIfInBounds_toArray, List.set_cons_zero, List.set_cons_succ]
          refine wpAnyH_ready (rs := [12]) (by kernel_rfl) (by simp) ?_
          refine (AllReadyH.cons (o := ⟨some 30, _, _, _, _, _⟩) rfl (fun K hK => ?_) AllReadyH.nil)
          refine step_append_any _ (by rfl) (.tmp 27) (.tmp 29) _ (by rfl) w1.heap.size 30 i0 _ 32 32 Try.underlying28 HI0.out HZ0.out hz1 hz2 rfl (by omega) (.slice Av7w (i + (n - (i + 1))) cv7w) (i + (n - (i + 1))) (keysOf (L.take i) ++ keysOf (L.drop (i + 1))) (by rfl) HOv7w.out _ (some ⟨v2w.heap.size, 0, none⟩) (1) 1 (keysOf [k]) (by rfl) (reads_key HXv7w.out) (keysOf_oneCell _) (by unfold maxLen; omega) (by omega) HBv7w.out.size ?_
          intro v3 v8w ho hg hat
          skip
          obtain ⟨Av8w, cv8w, rfl⟩ := own_form ho
          have hb1x : Below w1.heap.size w1 v8w := HBv7w.out.grown hg HBv7w.out.size (fun g e => (HOv7w.out.lt g e).1)
          have HOv8w := Lib.hid ho
          have HBv8w := Lib.hid hb1x
          clear ho hg hat hb1x
          refine hK.out _ _ (by exact range_below (a := w1) (by first | exact HBv8w.out | exact below_al HBv8w.out _ | exact hb1x) hlk rra) (fun hHeld => ?_)
          clear hK K
          conv => arg 8; simp only [Act.put, List.setIfInBounds_toArray, List.set_cons_zero, List.set_cons_succ]
          refine wpAnyH_take (i := 13) (oi := ⟨some 6, _, _, _, _, _⟩) (v := ?_) rfl (by kernel_rfl) (by kernel_rfl) (by kernel_rfl) (fun _ _ _ h => h) (Or.inl ⟨by kernel_rfl, ?_⟩) hHeld ?_
          rotate_left
          · intro w hSw
            (try dsimp only at hSw)
            go_simp
            all_goals (with_reducible rfl)
          conv => arg 8; simp only [Act.put, List.setIfInBounds_toArray, List.set_cons_zero, List.set_cons_succ]
          refine wpAnyH_take (i := 14) (oi := ⟨some 7, _, _, _, _, _⟩) (v := ?_) rfl (by kernel_rfl) (by kernel_rfl) (by kernel_rfl) (fun _ _ _ h => h) (Or.inl ⟨by kernel_rfl, ?_⟩) hHeld ?_
          rotate_left
          · intro w hSw
            (try dsimp only at hSw)
            go_simp
            all_goals (with_reducible rfl)
          conv => arg 8; simp only [Act.put, List.setIfInBounds_toArray, List.set_cons_zero, List.set_cons_succ]
          refine wpAnyH_done (by kernel_rfl) ?_ _
          refine NoPanic.normal ?_
          go_wp2_with fail
          go_ret2
          have hl := lackT_len (List.getElem?_eq_getElem hil)
          have hn := HN.out
          have ho : v8w.ownsRow w1.heap.size 30 32 (.slice Av8w (i + (n - (i + 1)) + 1) cv8w) (lackT L i ++ [k]).length (keysOf (lackT L i ++ [k])) := by
            rw [keysOf_append, keysOf_lackT, show (lackT L i ++ [k]).length = i + (n - (i + 1)) + 1 by rw [List.length_append, List.length_singleton]; omega]
            exact HOv8w.out
          exact ⟨_, _, rfl, HB1.out.trans (HBv8w.out.mono hz1'), KL.of_own ho, .inr (fun g hg => Nat.le_trans hz1' (ho.lt g hg).1)⟩
      · go_simp
        refine hK.out _ _ (by exact range_below (a := w1) (by first | exact HBv1w.out | exact below_al HBv1w.out _ | exact hb1x) hlk rra) (fun hHeld => ?_)
        clear hK K
        conv => arg 8; simp only [Act.put, List.setIfInBounds_toArray, List.set_cons_zero, List.set_cons_succ]
        generalize hW : World.alloc _ _ = v9w at hHeld ⊢
        have hbx : Below v1w.heap.size v1w v9w := by rw [← hW]; exact (Below.refl _ _).alloc (Nat.le_refl _) _
        have hxx : Blk v9w v1w.heap.size 30 (bytesOf 32 k).toArray := by rw [← hW]; exact heap_alloc_new _ _
        have HXv9w := Lib.hid hxx
        clear hxx
        have HNv9w : Hid (∀ g, Value.ownBlock (.slice (some ⟨wd.heap.size, 0, none⟩) 0 0) = some g → g ≠ v1w.heap.size) := fun g e => Nat.ne_of_lt (HOv1w.out.lt g e).2
        have HOv9w := Lib.hid (owns_below HOv1w.out hbx)
        have HBv9w := Lib.hid (HBv1w.out.trans (hbx.mono HBv1w.out.size))
        clear hbx hW
        refine wpAnyH_ready (rs := [4]) (by kernel_rfl) (by simp) ?_
        refine (AllReadyH.cons (o := ⟨some 22, _, _, _, _, _⟩) rfl (fun K hK => ?_) AllReadyH.nil)
        refine step_append_any _ (by rfl) (.tmp 18) (.tmp 21) _ (by rfl) w1.heap.size 30 i0 _ 32 32 Try.underlying28 HI0.out HZ0.out hz1 hz2 rfl (by omega) (.slice (some ⟨wd.heap.size, 0, none⟩) 0 0) (0) ([]) (by rfl) HOv9w.out _ (some ⟨g, o, none⟩) (i) _ (keysOf (L.take i)) (by rfl) (HR1.out _ HBv9w.out) (keysOf_oneCell _) (by unfold maxLen; omega) (by omega) HBv9w.out.size ?_
        intro v3 v10w ho hg hat
        rw [Nat.zero_add, List.nil_append] at ho
        obtain ⟨Av10w, cv10w, rfl⟩ := own_form ho
        have hb1x : Below w1.heap.size w1 v10w := HBv9w.out.grown hg HBv9w.out.size (fun g e => (HOv9w.out.lt g e).1)
        have HOv10w := Lib.hid ho
        have HXv10w := Lib.hid (HXv9w.out.grown hg (fun e => HNv9w.out _ e.symm rfl))
        have HNv10w : Hid (∀ g, Value.ownBlock (.slice Av10w (i) cv10w) = some g → g ≠ v1w.heap.size) := fun g e => by
          rcases hat with h | h
          · exact HNv9w.out g (h.symm.trans e)
          · have h1 := HXv9w.out.lt; rw [e] at h; injection h with h; omega
        have HBv10w := Lib.hid hb1x
        clear ho hg hat hb1x
        refine hK.out _ _ (by exact range_below (a := w1) (by first | exact HBv10w.out | exact below_al HBv10w.out _ | exact hb1x) hlk rra) (fun hHeld => ?_)
        clear hK K
        conv => arg 8; simp only [Act.put, List.setIfInBounds_toArray, List.set_cons_zero, List.set_cons_succ]
        refine wpAnyH_ready (rs := [9]) (by kernel_rfl) (by simp) ?_
        refine (AllReadyH.cons (o := ⟨some 27, _, _, _, _, _⟩) rfl (fun K hK => ?_) AllReadyH.nil)
        refine step_append_any _ (by rfl) (.tmp 22) (.tmp 26) _ (by rfl) w1.heap.size 30 i0 _ 32 32 Try.underlying28 HI0.out HZ0.out hz1 hz2 rfl (by omega) (.slice Av10w (i) cv10w) (i) (keysOf (L.take i)) (by rfl) HOv10w.out _ (some ⟨g, o + (i + 1) * 32, none⟩) (n - (i + 1)) _ (keysOf (L.drop (i + 1))) (by rfl) (HR2.out HNE.out _ HBv10w.out) (keysOf_oneCell _) (by unfold maxLen; omega) (by omega) HBv10w.out.size ?_
        intro v3 v11w ho hg hat
        skip
        obtain ⟨Av11w, cv11w, rfl⟩ := own_form ho
        have hb1x : Below w1.heap.size w1 v11w := HBv10w.out.grown hg HBv10w.out.size (fun g e => (HOv10w.out.lt g e).1)
        have HOv11w := Lib.hid ho
        have HXv11w := Lib.hid (HXv10w.out.grown hg (fun e => HNv10w.out _ e.symm rfl))
        have HNv11w : Hid (∀ g, Value.ownBlock (.slice Av11w (i + (n - (i + 1))) cv11w) = some g → g ≠ v1w.heap.size) := fun g e => by
          rcases hat with h | h
          · exact HNv10w.out g (h.symm.trans e)
          · have h1 := HXv10w.out.lt; rw [e] at h; injection h with h; omega
        have HBv11w := Lib.hid hb1x
        clear ho hg hat hb1x
        refine hK.out _ _ (by exact range_below (a := w1) (by first | exact HBv11w.out | exact below_al HBv11w.out _ | exact hb1x) hlk rra) (fun hHeld => ?_)
        clear hK K
        conv => arg 8; simp only [Act.put, List.setIfInBounds_toArray, List.set_cons_zero, List.set_cons_succ]
        refine wpAnyH_ready (rs := [12]) (by kernel_rfl) (by simp) ?_
        refine (AllReadyH.cons (o := ⟨some 30, _, _, _, _, _⟩) rfl (fun K hK => ?_) AllReadyH.nil)
        refine step_append_any _ (by rfl) (.tmp 27) (.tmp 29) _ (by rfl) w1.heap.size 30 i0 _ 32 32 Try.underlying28 HI0.out HZ0.out hz1 hz2 rfl (by omega) (.slice Av11w (i + (n - (i + 1))) cv11w) (i + (n - (i + 1))) (keysOf (L.take i) ++ keysOf (L.drop (i + 1))) (by rfl) HOv11w.out _ (some ⟨v1w.heap.size, 0, none⟩) (1) 1 (keysOf [k]) (by rfl) (reads_key HXv11w.out) (keysOf_oneCell _) (by unfold maxLen; omega) (by omega) HBv11w.out.size ?_
        intro v3 v12w ho hg hat
        skip
        obtain ⟨Av12w, cv12w, rfl⟩ := own_form ho
        have hb1x : Below w1.heap.size w1 v12w := HBv11w.out.grown hg HBv11w.out.size (fun g e => (HOv11w.out.lt g e).1)
        have HOv12w := Lib.hid ho
        have HBv12w := Lib.hid hb1x
        clear ho hg hat hb1x
        refine hK.out _ _ (by exact range_below (a := w1) (by first | exact HBv12w.out | exact below_al HBv12w.out _ | exact hb1x) hlk rra) (fun hHeld => ?_)
        clear hK K
        conv => arg 8; simp only [Act.put, List.setIfInBounds_toArray, List.set_cons_zero, List.set_cons_succ]
        refine wpAnyH_take (i := 13) (oi := ⟨some 6, _, _, _, _, _⟩) (v := ?_) rfl (by kernel_rfl) (by kernel_rfl) (by kernel_rfl) (fun _ _ _ h => h) (Or.inl ⟨by kernel_rfl, ?_⟩) hHeld ?_
        rotate_left
        · intro w hSw
          (try dsimp only at hSw)
          go_simp
          all_goals (with_reducible rfl)
        conv => arg 8; simp only [Act.put, List.setIfInBounds_toArray, List.set_cons_zero, List.set_cons_succ]
        refine wpAnyH_take (i := 14) (oi := ⟨some 7, _, _, _, _, _⟩) (v := ?_) rfl (by kernel_rfl) (by kernel_rfl) (by kernel_rfl) (fun _ _ _ h => h) (Or.inl ⟨by kernel_rfl, ?_⟩) hHeld ?_
        rotate_left
        · intro w hSw
          (try dsimp only at hSw)
          go_simp
          all_goals (with_reducible rfl)
        conv => arg 8; simp only [Act.put, List.setIfInBounds_toArray, List.set_cons_zero, List.set_cons_succ]
        refine wpAnyH_done (by kernel_rfl) ?_ _
        refine NoPanic.normal ?_
        go_wp2_with fail
        go_ret2
        have hl := lackT_len (List.getElem?_eq_getElem hil)
        have hn := HN.out
        have ho : v12w.ownsRow w1.heap.size 30 32 (.slice Av12w (i + (n - (i + 1)) + 1) cv12w) (lackT L i ++ [k]).length (keysOf (lackT L i ++ [k])) := by
          rw [keysOf_append, keysOf_lackT, show (lackT L i ++ [k]).length = i + (n - (i + 1)) + 1 by rw [List.length_append, List.length_singleton]; omega]
          exact HOv12w.out
        exact ⟨_, _, rfl, HB1.out.trans (HBv12w.out.mono hz1'), KL.of_own ho, .inr (fun g hg => Nat.le_trans hz1' (ho.lt g hg).1)⟩
    · go_simp
      refine hK.out _ _ (by exact range_below (a := w1) (by first | exact HBD.out | exact below_al HBD.out _ | exact hb1x) hlk rra) (fun hHeld => ?_)
      clear hK K
      conv => arg 8; simp only [Act.put, List.setIfInBounds_toArray, List.set_cons_zero, List.set_cons_succ]
      generalize hW : World.alloc _ _ = v13w at hHeld ⊢
      have hbx : Below wd.heap.size wd v13w := by rw [← hW]; exact (Below.refl _ _).alloc (Nat.le_refl _) _
      have hxx : Blk v13w wd.heap.size 30 (bytesOf 32 k).toArray := by rw [← hW]; exact heap_alloc_new _ _
      have HXv13w := Lib.hid hxx
      clear hxx
      have HBv13w := Lib.hid (HBD.out.trans (hbx.mono HBD.out.size))
      clear hbx hW
      refine wpAnyH_ready (rs := [0]) (by kernel_rfl) (by simp) ?_
      refine (AllReadyH.cons (o := ⟨some 18, _, _, _, _, _⟩) rfl (fun K hK => ?_) AllReadyH.nil)
      go_simp
      refine hK.out _ _ (by exact range_below (a := w1) (by first | exact HBv13w.out | exact below_al HBv13w.out _ | exact hb1x) hlk rra) (fun hHeld => ?_)
      clear hK K
      conv => arg 8; simp only [Act.put, List.setIfInBounds_toArray, List.set_cons_zero, List.set_cons_succ]
      generalize hW : World.alloc _ _ = v14w at hHeld ⊢
      have hbx : Below v13w.heap.size v13w v14w := by rw [← hW]; exact (Below.refl _ _).alloc (Nat.le_refl _) _
      have hox : v14w.ownsRow w1.heap.size 30 32 (.slice (some ⟨v13w.heap.size, 0, none⟩) 0 0) 0 [] := by rw [← hW]; exact owns_base2 (empty_own _) HBv13w.out.size
      have HOv14w := Lib.hid hox
      clear hox
      have HNv14w : Hid (∀ g, Value.ownBlock (.slice (some ⟨v13w.heap.size, 0, none⟩) 0 0) = some g → g ≠ wd.heap.size) := fun g e => by have h1 := HXv13w.out.lt; injection e with e; have e : v13w.heap.size = g := e; omega
      have HXv14w := Lib.hid (HXv13w.out.below hbx HXv13w.out.lt)
      have HBv14w := Lib.hid (HBv13w.out.trans (hbx.mono HBv13w.out.size))
      clear hbx hW
      refine wpAnyH_ready (rs := [4]) (by kernel_rfl) (by simp) ?_
      refine (AllReadyH.cons (o := ⟨some 22, _, _, _, _, _⟩) rfl (fun K hK => ?_) AllReadyH.nil)
      refine step_append_any _ (by rfl) (.tmp 18) (.tmp 21) _ (by rfl) w1.heap.size 30 i0 _ 32 32 Try.underlying28 HI0.out HZ0.out hz1 hz2 rfl (by omega) (.slice (some ⟨v13w.heap.size, 0, none⟩) 0 0) (0) ([]) (by rfl) HOv14w.out _ (some ⟨g, o, none⟩) (i) _ (keysOf (L.take i)) (by rfl) (HR1.out _ HBv14w.out) (keysOf_oneCell _) (by unfold maxLen; omega) (by omega) HBv14w.out.size ?_
      intro v3 v15w ho hg hat
      rw [Nat.zero_add, List.nil_append] at ho
      obtain ⟨Av15w, cv15w, rfl⟩ := own_form ho
      have hb1x : Below w1.heap.size w1 v15w := HBv14w.out.grown hg HBv14w.out.size (fun g e => (HOv14w.out.lt g e).1)
      have HOv15w := Lib.hid ho
      have HXv15w := Lib.hid (HXv14w.out.grown hg (fun e => HNv14w.out _ e.symm rfl))
      have HNv15w : Hid (∀ g, Value.ownBlock (.slice Av15w (i) cv15w) = some g → g ≠ wd.heap.size) := fun g e => by
        rcases hat with h | h
        · exact HNv14w.out g (h.symm.trans e)
        · have h1 := HXv14w.out.lt; rw [e] at h; injection h with h; omega
      have HBv15w := Lib.hid hb1x
      clear ho hg hat hb1x
      refine hK.out _ _ (by exact range_below (a := w1) (by first | exact HBv15w.out | exact below_al HBv15w.out _ | exact hb1x) hlk rra) (fun hHeld => ?_)
      clear hK K
      conv => arg 8; simp only [Act.put, List.setIfInBounds_toArray, List.set_cons_zero, List.set_cons_succ]
      refine wpAnyH_ready (rs := [9]) (by kernel_rfl) (by simp) ?_
      refine (AllReadyH.cons (o := ⟨some 27, _, _, _, _, _⟩) rfl (fun K hK => ?_) AllReadyH.nil)
      refine step_append_any _ (by rfl) (.tmp 22) (.tmp 26) _ (by rfl) w1.heap.size 30 i0 _ 32 32 Try.underlying28 HI0.out HZ0.out hz1 hz2 rfl (by omega) (.slice Av15w (i) cv15w) (i) (keysOf (L.take i)) (by rfl) HOv15w.out _ (some ⟨g, o + (i + 1) * 32, none⟩) (n - (i + 1)) _ (keysOf (L.drop (i + 1))) (by rfl) (HR2.out HNE.out _ HBv15w.out) (keysOf_oneCell _) (by unfold maxLen; omega) (by omega) HBv15w.out.size ?_
      intro v3 v16w ho hg hat
      skip
      obtain ⟨Av16w, cv16w, rfl⟩ := own_form ho
      have hb1x : Below w1.heap.size w1 v16w := HBv15w.out.grown hg HBv15w.out.size (fun g e => (HOv15w.out.lt g e).1)
      have HOv16w := Lib.hid ho
      have HXv16w := Lib.hid (HXv15w.out.grown hg (fun e => HNv15w.out _ e.symm rfl))
      have HNv16w : Hid (∀ g, Value.ownBlock (.slice Av16w (i + (n - (i + 1))) cv16w) = some g → g ≠ wd.heap.size) := fun g e => by
        rcases hat with h | h
        · exact HNv15w.out g (h.symm.trans e)
        · have h1 := HXv15w.out.lt; rw [e] at h; injection h with h; omega
      have HBv16w := Lib.hid hb1x
      clear ho hg hat hb1x
      refine hK.out _ _ (by exact range_below (a := w1) (by first | exact HBv16w.out | exact below_al HBv16w.out _ | exact hb1x) hlk rra) (fun hHeld => ?_)
      clear hK K
      conv => arg 8; simp only [Act.put, List.setIfInBounds_toArray, List.set_cons_zero, List.set_cons_succ]
      refine wpAnyH_ready (rs := [12]) (by kernel_rfl) (by simp) ?_
      refine (AllReadyH.cons (o := ⟨some 30, _, _, _, _, _⟩) rfl (fun K hK => ?_) AllReadyH.nil)
      refine step_append_any _ (by rfl) (.tmp 27) (.tmp 29) _ (by rfl) w1.heap.size 30 i0 _ 32 32 Try.underlying28 HI0.out HZ0.out hz1 hz2 rfl (by omega) (.slice Av16w (i + (n - (i + 1))) cv16w) (i + (n - (i + 1))) (keysOf (L.take i) ++ keysOf (L.drop (i + 1))) (by rfl) HOv16w.out _ (some ⟨wd.heap.size, 0, none⟩) (1) 1 (keysOf [k]) (by rfl) (reads_key HXv16w.out) (keysOf_oneCell _) (by unfold maxLen; omega) (by omega) HBv16w.out.size ?_
      intro v3 v17w ho hg hat
      skip
      obtain ⟨Av17w, cv17w, rfl⟩ := own_form ho
      have hb1x : Below w1.heap.size w1 v17w := HBv16w.out.grown hg HBv16w.out.size (fun g e => (HOv16w.out.lt g e).1)
      have HOv17w := Lib.hid ho
      have HBv17w := Lib.hid hb1x
      clear ho hg hat hb1x
      refine hK.out _ _ (by exact range_below (a := w1) (by first | exact HBv17w.out | exact below_al HBv17w.out _ | exact hb1x) hlk rra) (fun hHeld => ?_)
      clear hK K
      conv => arg 8; simp only [Act.put, List.setIfInBounds_toArray, List.set_cons_zero, List.set_cons_succ]
      refine wpAnyH_take (i := 13) (oi := ⟨some 6, _, _, _, _, _⟩) (v := ?_) rfl (by kernel_rfl) (by kernel_rfl) (by kernel_rfl) (fun _ _ _ h => h) (Or.inl ⟨by kernel_rfl, ?_⟩) hHeld ?_
      rotate_left
      · intro w hSw
        (try dsimp only at hSw)
        go_simp
        all_goals (with_reducible rfl)
      conv => arg 8; simp only [Act.put, List.setIfInBounds_toArray, List.set_cons_zero, List.set_cons_succ]
      refine wpAnyH_take (i := 14) (oi := ⟨some 7, _, _, _, _, _⟩) (v := ?_) rfl (by kernel_rfl) (by kernel_rfl) (by kernel_rfl) (fun _ _ _ h => h) (Or.inl ⟨by kernel_rfl, ?_⟩) hHeld ?_
      rotate_left
      · intro w hSw
        (try dsimp only at hSw)
        go_simp
        all_goals (with_reducible rfl)
      conv => arg 8; simp only [Act.put, List.setIfInBounds_toArray, List.set_cons_zero, List.set_cons_succ]
      refine wpAnyH_done (by kernel_rfl) ?_ _
      refine NoPanic.normal ?_
      go_wp2_with fail
      go_ret2
      have hl := lackT_len (List.getElem?_eq_getElem hil)
      have hn := HN.out
      have ho : v17w.ownsRow w1.heap.size 30 32 (.slice Av17w (i + (n - (i + 1)) + 1) cv17w) (lackT L i ++ [k]).length (keysOf (lackT L i ++ [k])) := by
        rw [keysOf_append, keysOf_lackT, show (lackT L i ++ [k]).length = i + (n - (i + 1)) + 1 by rw [List.length_append, List.length_singleton]; omega]
        exact HOv17w.out
      exact ⟨_, _, rfl, HB1.out.trans (HBv17w.out.mono hz1'), KL.of_own ho, .inr (fun g hg => Nat.le_trans hz1' (ho.lt g hg).1)⟩
  · obtain rfl : c = i + 1 := by omega
    obtain rfl : n = i + 1 := by omega
    have t1 : (i : Int) ≤ (i : Int) + 1 := by omega
    have t2 : (i : Int) < (i : Int) + 1 := by omega
    have g1 : IntKind.i64.wrap ((i : Int) + 1) = (i : Int) + 1 := IntWalk.i64_in _ (by omega)
    have p0 : (0 : Int) ≤ (i : Int) + 1 := by omega
    have p1 : ((i : Int) + 1).toNat = i + 1 := by omega
    have t0 : (0 : Int) ≤ (i : Int) := by omega
    clear hne
    go_upto_region 4 with (fail)
    have hu := Try.underlying30
    have hik := key_size k
    have rra := blk_range HK4.out
    have hlk := HK4.out.lt
    have q3 := isKy k
    refine wp_region_noPanic ?_
    refine wp_region_held_drew (S := fun w' => w'.rangeAt w.heap.size 0 (bytesOf 32 k)) (by kernel_rfl) rra (fun hHeld => ?_)
    refine wpAnyH_take (i := 1) (oi := ⟨some 19, _, _, _, _, _⟩) (v := ?_) rfl (by kernel_rfl) (by kernel_rfl) (by kernel_rfl) (fun _ _ _ h => h) (Or.inl ⟨by kernel_rfl, ?_⟩) hHeld ?_
    rotate_left
    · intro w hSw
      (try dsimp only at hSw)
      go_simp
      all_goals (with_reducible rfl)
    conv => arg 8; simp only [Act.put, List.setIfInBounds_toArray, List.set_cons_zero, List.set_cons_succ]
    refine wpAnyH_take (i := 2) (oi := ⟨some 20, _, _, _, _, _⟩) (v := ?_) rfl (by kernel_rfl) (by kernel_rfl) (by kernel_rfl) (fun _ _ _ h => h) (Or.inl ⟨by kernel_rfl, ?_⟩) hHeld ?_
    rotate_left
    · intro w hSw
      (try dsimp only at hSw)
      go_simp
      all_goals (with_reducible rfl)
    conv => arg 8; simp only [Act.put, List.setIfInBounds_toArray, List.set_cons_zero, List.set_cons_succ]
    refine wpAnyH_take (i := 3) (oi := ⟨some 21, _, _, _, _, _⟩) (v := ?_) rfl (by kernel_rfl) (by kernel_rfl) (by kernel_rfl) (fun _ _ _ h => h) (Or.inl ⟨by kernel_rfl, ?_⟩) hHeld ?_
    rotate_left
    · intro w hSw
      (try dsimp only at hSw)
      go_simp
      all_goals (with_reducible rfl)
    conv => arg 8; simp only [Act.put, List.setIfInBounds_toArray, List.set_cons_zero, List.set_cons_succ]
    refine wpAnyH_take (i := 5) (oi := ⟨some 23, _, _, _, _, _⟩) (v := ?_) rfl (by kernel_rfl) (by kernel_rfl) (by kernel_rfl) (fun _ _ _ h => h) (Or.inl ⟨by kernel_rfl, ?_⟩) hHeld ?_
    rotate_left
    · intro w hSw
      (try dsimp only at hSw)
      go_simp
      all_goals (with_reducible rfl)
    conv => arg 8; simp only [Act.put, List.setIfInBounds_toArray, List.set_cons_zero, List.set_cons_succ]
    refine wpAnyH_take (i := 6) (oi := ⟨some 24, _, _, _, _, _⟩) (v := ?_) rfl (by kernel_rfl) (by kernel_rfl) (by kernel_rfl) (fun _ _ _ h => h) (Or.inl ⟨by kernel_rfl, ?_⟩) hHeld ?_
    rotate_left
    · intro w hSw
      (try dsimp only at hSw)
      go_simp
      all_goals (with_reducible rfl)
    conv => arg 8; simp only [Act.put, List.setIfInBounds_toArray, List.set_cons_zero, List.set_cons_succ]
    refine wpAnyH_take (i := 7) (oi := ⟨some 25, _, _, _, _, _⟩) (v := ?_) rfl (by kernel_rfl) (by kernel_rfl) (by kernel_rfl) (fun _ _ _ h => h) (Or.inl ⟨by kernel_rfl, ?_⟩) hHeld ?_
    rotate_left
    · intro w hSw
      (try dsimp only at hSw)
      go_simp
      all_goals (with_reducible rfl)
    conv => arg 8; simp only [Act.put, List.setIfInBounds_toArray, List.set_cons_zero, List.set_cons_succ]
    refine wpAnyH_take (i := 8) (oi := ⟨some 26, _, _, _, _, _⟩) (v := ?_) rfl (by kernel_rfl) (by kernel_rfl) (by kernel_rfl) (fun _ _ _ h => h) (Or.inl ⟨by kernel_rfl, ?_⟩) hHeld ?_
    rotate_left
    · intro w hSw
      (try dsimp only at hSw)
      go_simp
      all_goals (with_reducible rfl)
    conv => arg 8; simp only [Act.put, List.setIfInBounds_toArray, List.set_cons_zero, List.set_cons_succ]
    refine wpAnyH_take (i := 10) (oi := ⟨some 28, _, _, _, _, _⟩) (v := _) rfl (by kernel_rfl) (by kernel_rfl) (by kernel_rfl) (fun _ _ _ h => h) (yieldsIf_load_mid (S := fun w' => w'.rangeAt w.heap.size 0 (bytesOf 32 k)) (by kernel_rfl) _ _ rfl _ _ rfl _ _ (fun w hSw => hSw) hu rfl hik) hHeld ?_
    conv => arg 8; simp only [Act.put, List.setIfInBounds_toArray, List.set_cons_zero, List.set_cons_succ]
    generalize hW : World.drew _ = wd at hHeld ⊢
    have hbd : Below w1.heap.size w1 wd := by rw [← hW]; exact belowDrewR (Below.refl _ _)
    have HBD := Lib.hid hbd
    clear hbd hW
    refine wpAnyH_ready (rs := [0, 11]) (by kernel_rfl) (by simp) ?_
    refine (AllReadyH.cons (o := ⟨some 18, _, _, _, _, _⟩) rfl (fun K hK => ?_) (AllReadyH.cons (o := ⟨some 29, _, _, _, _, _⟩) rfl (fun K hK => ?_) AllReadyH.nil))
    · go_simp
      refine hK.out _ _ (by exact range_below (a := w1) (by first | exact HBD.out | exact below_al HBD.out _ | exact hb1x) hlk rra) (fun hHeld => ?_)
      clear hK K
      conv => arg 8; simp only [Act.put, List.setIfInBounds_toArray, List.set_cons_zero, List.set_cons_succ]
      generalize hW : World.alloc _ _ = v1w at hHeld ⊢
      have hbx : Below wd.heap.size wd v1w := by rw [← hW]; exact (Below.refl _ _).alloc (Nat.le_refl _) _
      have hox : v1w.ownsRow w1.heap.size 30 32 (.slice (some ⟨wd.heap.size, 0, none⟩) 0 0) 0 [] := by rw [← hW]; exact owns_base2 (empty_own _) HBD.out.size
      have HOv1w := Lib.hid hox
      clear hox
      have HBv1w := Lib.hid (HBD.out.trans (hbx.mono HBD.out.size))
      clear hbx hW
      refine wpAnyH_ready (rs := [4, 11]) (by kernel_rfl) (by simp) ?_
      refine (AllReadyH.cons (o := ⟨some 22, _, _, _, _, _⟩) rfl (fun K hK => ?_) (AllReadyH.cons (o := ⟨some 29, _, _, _, _, _⟩) rfl (fun K hK => ?_) AllReadyH.nil))
      · refine step_append_any _ (by rfl) (.tmp 18) (.tmp 21) _ (by rfl) w1.heap.size 30 i0 _ 32 32 Try.underlying28 HI0.out HZ0.out hz1 hz2 rfl (by omega) (.slice (some ⟨wd.heap.size, 0, none⟩) 0 0) (0) ([]) (by rfl) HOv1w.out _ (some ⟨g, o, none⟩) (i) _ (keysOf (L.take i)) (by rfl) (HR1.out _ HBv1w.out) (keysOf_oneCell _) (by unfold maxLen; omega) (by omega) HBv1w.out.size ?_
        intro v3 v2w ho hg hat
        rw [Nat.zero_add, List.nil_append] at ho
        obtain ⟨Av2w, cv2w, rfl⟩ := own_form ho
        have hb1x : Below w1.heap.size w1 v2w := HBv1w.out.grown hg HBv1w.out.size (fun g e => (HOv1w.out.lt g e).1)
        have HOv2w := Lib.hid ho
        have HBv2w := Lib.hid hb1x
        clear ho hg hat hb1x
        refine hK.out _ _ (by exact range_below (a := w1) (by first | exact HBv2w.out | exact below_al HBv2w.out _ | exact hb1x) hlk rra) (fun hHeld => ?_)
        clear hK K
        conv => arg 8; simp only [Act.put, List.setIfInBounds_toArray, List.set_cons_zero, List.set_cons_succ]
        refine wpAnyH_ready (rs := [9, 11]) (by kernel_rfl) (by simp) ?_
        refine (AllReadyH.cons (o := ⟨some 27, _, _, _, _, _⟩) rfl (fun K hK => ?_) (AllReadyH.cons (o := ⟨some 29, _, _, _, _, _⟩) rfl (fun K hK => ?_) AllReadyH.nil))
        · refine step_append_any _ (by rfl) (.tmp 22) (.tmp 26) _ (by rfl) w1.heap.size 30 i0 _ 32 32 Try.underlying28 HI0.out HZ0.out hz1 hz2 rfl (by omega) (.slice Av2w (i) cv2w) (i) (keysOf (L.take i)) (by rfl) HOv2w.out _ (some ⟨g, o, none⟩) (0) 0 ([]) (by rfl) (Reads.none_ (B := 0) (A := some ⟨g, o, none⟩)) (by simp) (by unfold maxLen; omega) (by omega) HBv2w.out.size ?_
          intro v3 v3w ho hg hat
          rw [Nat.add_zero, List.append_nil] at ho
          obtain ⟨Av3w, cv3w, rfl⟩ := own_form ho
          have hb1x : Below w1.heap.size w1 v3w := HBv2w.out.grown hg HBv2w.out.size (fun g e => (HOv2w.out.lt g e).1)
          have HOv3w := Lib.hid ho
          have HBv3w := Lib.hid hb1x
          clear ho hg hat hb1x
          refine hK.out _ _ (by exact range_below (a := w1) (by first | exact HBv3w.out | exact below_al HBv3w.out _ | exact hb1x) hlk rra) (fun hHeld => ?_)
          clear hK K
          conv => arg 8; simp only [Act.put, List.setIfInBounds_toArray, List.set_cons_zero, List.set_cons_succ]
          refine wpAnyH_ready (rs := [11]) (by kernel_rfl) (by simp) ?_
          refine (AllReadyH.cons (o := ⟨some 29, _, _, _, _, _⟩) rfl (fun K hK => ?_) AllReadyH.nil)
          go_simp
          refine hK.out _ _ (by exact range_below (a := w1) (by first | exact HBv3w.out | exact below_al HBv3w.out _ | exact hb1x) hlk rra) (fun hHeld => ?_)
          clear hK K
          conv => arg 8; simp only [Act.put, List.setIfInBounds_toArray, List.set_cons_zero, List.set_cons_succ]
          generalize hW : World.alloc _ _ = v4w at hHeld ⊢
          have hbx : Below v3w.heap.size v3w v4w := by rw [← hW]; exact (Below.refl _ _).alloc (Nat.le_refl _) _
          have hxx : Blk v4w v3w.heap.size 30 (bytesOf 32 k).toArray := by rw [← hW]; exact heap_alloc_new _ _
          have HXv4w := Lib.hid hxx
          clear hxx
          have HNv4w : Hid (∀ g, Value.ownBlock (.slice Av3w (i) cv3w) = some g → g ≠ v3w.heap.size) := fun g e => Nat.ne_of_lt (HOv3w.out.lt g e).2
          have HOv4w := Lib.hid (owns_below HOv3w.out hbx)
          have HBv4w := Lib.hid (HBv3w.out.trans (hbx.mono HBv3w.out.size))
          clear hbx hW
          refine wpAnyH_ready (rs := [12]) (by kernel_rfl) (by simp) ?_
          refine (AllReadyH.cons (o := ⟨some 30, _, _, _, _, _⟩) rfl (fun K hK => ?_) AllReadyH.nil)
          refine step_append_any _ (by rfl) (.tmp 27) (.tmp 29) _ (by rfl) w1.heap.size 30 i0 _ 32 32 Try.underlying28 HI0.out HZ0.out hz1 hz2 rfl (by omega) (.slice Av3w (i) cv3w) (i) (keysOf (L.take i)) (by rfl) HOv4w.out _ (some ⟨v3w.heap.size, 0, none⟩) (1) 1 (keysOf [k]) (by rfl) (reads_key HXv4w.out) (keysOf_oneCell _) (by unfold maxLen; omega) (by omega) HBv4w.out.size ?_
          intro v3 v5w ho hg hat
          skip
          obtain ⟨Av5w, cv5w, rfl⟩ := own_form ho
          have hb1x : Below w1.heap.size w1 v5w := HBv4w.out.grown hg HBv4w.out.size (fun g e => (HOv4w.out.lt g e).1)
          have HOv5w := Lib.hid ho
          have HBv5w := Lib.hid hb1x
          clear ho hg hat hb1x
          refine hK.out _ _ (by exact range_below (a := w1) (by first | exact HBv5w.out | exact below_al HBv5w.out _ | exact hb1x) hlk rra) (fun hHeld => ?_)
          clear hK K
          conv => arg 8; simp only [Act.put, List.setIfInBounds_toArray, List.set_cons_zero, List.set_cons_succ]
          refine wpAnyH_take (i := 13) (oi := ⟨some 6, _, _, _, _, _⟩) (v := ?_) rfl (by kernel_rfl) (by kernel_rfl) (by kernel_rfl) (fun _ _ _ h => h) (Or.inl ⟨by kernel_rfl, ?_⟩) hHeld ?_
          rotate_left
          · intro w hSw
            (try dsimp only at hSw)
            go_simp
            all_goals (with_reducible rfl)
          conv => arg 8; simp only [Act.put, List.setIfInBounds_toArray, List.set_cons_zero, List.set_cons_succ]
          refine wpAnyH_take (i := 14) (oi := ⟨some 7, _, _, _, _, _⟩) (v := ?_) rfl (by kernel_rfl) (by kernel_rfl) (by kernel_rfl) (fun _ _ _ h => h) (Or.inl ⟨by kernel_rfl, ?_⟩) hHeld ?_
          rotate_left
          · intro w hSw
            (try dsimp only at hSw)
            go_simp
            all_goals (with_reducible rfl)
          conv => arg 8; simp only [Act.put, List.setIfInBounds_toArray, List.set_cons_zero, List.set_cons_succ]
          refine wpAnyH_done (by kernel_rfl) ?_ _
          refine NoPanic.normal ?_
          go_wp2_with fail
          go_ret2
          have hl := lackT_len (List.getElem?_eq_getElem hil)
          have hn := HN.out
          have ho : v5w.ownsRow w1.heap.size 30 32 (.slice Av5w (i + 1) cv5w) (lackT L i ++ [k]).length (keysOf (lackT L i ++ [k])) := by
            rw [keysOf_append, keysOf_lackT, show (lackT L i ++ [k]).length = i + 1 by rw [List.length_append, List.length_singleton]; omega]
            rw [hee.out (by first | rfl | trivial)]; simpa [keysOf, List.append_assoc] using HOv5w.out
          exact ⟨_, _, rfl, HB1.out.trans (HBv5w.out.mono hz1'), KL.of_own ho, .inr (fun g hg => Nat.le_trans hz1' (ho.lt g hg).1)⟩
        · go_simp
          refine hK.out _ _ (by exact range_below (a := w1) (by first | exact HBv2w.out | exact below_al HBv2w.out _ | exact hb1x) hlk rra) (fun hHeld => ?_)
          clear hK K
          conv => arg 8; simp only [Act.put, List.setIfInBounds_toArray, List.set_cons_zero, List.set_cons_succ]
          generalize hW : World.alloc _ _ = v6w at hHeld ⊢
          have hbx : Below v2w.heap.size v2w v6w := by rw [← hW]; exact (Below.refl _ _).alloc (Nat.le_refl _) _
          have hxx : Blk v6w v2w.heap.size 30 (bytesOf 32 k).toArray := by rw [← hW]; exact heap_alloc_new _ _
          have HXv6w := Lib.hid hxx
          clear hxx
          have HNv6w : Hid (∀ g, Value.ownBlock (.slice Av2w (i) cv2w) = some g → g ≠ v2w.heap.size) := fun g e => Nat.ne_of_lt (HOv2w.out.lt g e).2
          have HOv6w := Lib.hid (owns_below HOv2w.out hbx)
          have HBv6w := Lib.hid (HBv2w.out.trans (hbx.mono HBv2w.out.size))
          clear hbx hW
          refine wpAnyH_ready (rs := [9]) (by kernel_rfl) (by simp) ?_
          refine (AllReadyH.cons (o := ⟨some 27, _, _, _, _, _⟩) rfl (fun K hK => ?_) AllReadyH.nil)
          refine step_append_any _ (by rfl) (.tmp 22) (.tmp 26) _ (by rfl) w1.heap.size 30 i0 _ 32 32 Try.underlying28 HI0.out HZ0.out hz1 hz2 rfl (by omega) (.slice Av2w (i) cv2w) (i) (keysOf (L.take i)) (by rfl) HOv6w.out _ (some ⟨g, o, none⟩) (0) 0 ([]) (by rfl) (Reads.none_ (B := 0) (A := some ⟨g, o, none⟩)) (by simp) (by unfold maxLen; omega) (by omega) HBv6w.out.size ?_
          intro v3 v7w ho hg hat
          rw [Nat.add_zero, List.append_nil] at ho
          obtain ⟨Av7w, cv7w, rfl⟩ := own_form ho
          have hb1x : Below w1.heap.size w1 v7w := HBv6w.out.grown hg HBv6w.out.size (fun g e => (HOv6w.out.lt g e).1)
          have HOv7w := Lib.hid ho
          have HXv7w := Lib.hid (HXv6w.out.grown hg (fun e => HNv6w.out _ e.symm rfl))
          have HNv7w : Hid (∀ g, Value.ownBlock (.slice Av7w (i) cv7w) = some g → g ≠ v2w.heap.size) := fun g e => by
            rcases hat with h | h
            · exact HNv6w.out g (h.symm.trans e)
            · have h1 := HXv6w.out.lt; rw [e] at h; injection h with h; omega
          have HBv7w := Lib.hid hb1x
          clear ho hg hat hb1x
          refine hK.out _ _ (by exact range_below (a := w1) (by first | exact HBv7w.out | exact below_al HBv7w.out _ | exact hb1x) hlk rra) (fun hHeld => ?_)
          clear hK K
          conv => arg 8; simp only [Act.put, List.setIfInBounds_toArray, List.set_cons_zero, List.set_cons_succ]
          refine wpAnyH_ready (rs := [12]) (by kernel_rfl) (by simp) ?_
          refine (AllReadyH.cons (o := ⟨some 30, _, _, _, _, _⟩) rfl (fun K hK => ?_) AllReadyH.nil)
          refine step_append_any _ (by rfl) (.tmp 27) (.tmp 29) _ (by rfl) w1.heap.size 30 i0 _ 32 32 Try.underlying28 HI0.out HZ0.out hz1 hz2 rfl (by omega) (.slice Av7w (i) cv7w) (i) (keysOf (L.take i)) (by rfl) HOv7w.out _ (some ⟨v2w.heap.size, 0, none⟩) (1) 1 (keysOf [k]) (by rfl) (reads_key HXv7w.out) (keysOf_oneCell _) (by unfold maxLen; omega) (by omega) HBv7w.out.size ?_
          intro v3 v8w ho hg hat
          skip
          obtain ⟨Av8w, cv8w, rfl⟩ := own_form ho
          have hb1x : Below w1.heap.size w1 v8w := HBv7w.out.grown hg HBv7w.out.size (fun g e => (HOv7w.out.lt g e).1)
          have HOv8w := Lib.hid ho
          have HBv8w := Lib.hid hb1x
          clear ho hg hat hb1x
          refine hK.out _ _ (by exact range_below (a := w1) (by first | exact HBv8w.out | exact below_al HBv8w.out _ | exact hb1x) hlk rra) (fun hHeld => ?_)
          clear hK K
          conv => arg 8; simp only [Act.put, List.setIfInBounds_toArray, List.set_cons_zero, List.set_cons_succ]
          refine wpAnyH_take (i := 13) (oi := ⟨some 6, _, _, _, _, _⟩) (v := ?_) rfl (by kernel_rfl) (by kernel_rfl) (by kernel_rfl) (fun _ _ _ h => h) (Or.inl ⟨by kernel_rfl, ?_⟩) hHeld ?_
          rotate_left
          · intro w hSw
            (try dsimp only at hSw)
            go_simp
            all_goals (with_reducible rfl)
          conv => arg 8; simp only [Act.put, List.setIfInBounds_toArray, List.set_cons_zero, List.set_cons_succ]
          refine wpAnyH_take (i := 14) (oi := ⟨some 7, _, _, _, _, _⟩) (v := ?_) rfl (by kernel_rfl) (by kernel_rfl) (by kernel_rfl) (fun _ _ _ h => h) (Or.inl ⟨by kernel_rfl, ?_⟩) hHeld ?_
          rotate_left
          · intro w hSw
            (try dsimp only at hSw)
            go_simp
            all_goals (with_reducible rfl)
          conv => arg 8; simp only [Act.put, List.setIfInBounds_toArray, List.set_cons_zero, List.set_cons_succ]
          refine wpAnyH_done (by kernel_rfl) ?_ _
          refine NoPanic.normal ?_
          go_wp2_with fail
          go_ret2
          have hl := lackT_len (List.getElem?_eq_getElem hil)
          have hn := HN.out
          have ho : v8w.ownsRow w1.heap.size 30 32 (.slice Av8w (i + 1) cv8w) (lackT L i ++ [k]).length (keysOf (lackT L i ++ [k])) := by
            rw [keysOf_append, keysOf_lackT, show (lackT L i ++ [k]).length = i + 1 by rw [List.length_append, List.length_singleton]; omega]
            rw [hee.out (by first | rfl | trivial)]; simpa [keysOf, List.append_assoc] using HOv8w.out
          exact ⟨_, _, rfl, HB1.out.trans (HBv8w.out.mono hz1'), KL.of_own ho, .inr (fun g hg => Nat.le_trans hz1' (ho.lt g hg).1)⟩
      · go_simp
        refine hK.out _ _ (by exact range_below (a := w1) (by first | exact HBv1w.out | exact below_al HBv1w.out _ | exact hb1x) hlk rra) (fun hHeld => ?_)
        clear hK K
        conv => arg 8; simp only [Act.put, List.setIfInBounds_toArray, List.set_cons_zero, List.set_cons_succ]
        generalize hW : World.alloc _ _ = v9w at hHeld ⊢
        have hbx : Below v1w.heap.size v1w v9w := by rw [← hW]; exact (Below.refl _ _).alloc (Nat.le_refl _) _
        have hxx : Blk v9w v1w.heap.size 30 (bytesOf 32 k).toArray := by rw [← hW]; exact heap_alloc_new _ _
        have HXv9w := Lib.hid hxx
        clear hxx
        have HNv9w : Hid (∀ g, Value.ownBlock (.slice (some ⟨wd.heap.size, 0, none⟩) 0 0) = some g → g ≠ v1w.heap.size) := fun g e => Nat.ne_of_lt (HOv1w.out.lt g e).2
        have HOv9w := Lib.hid (owns_below HOv1w.out hbx)
        have HBv9w := Lib.hid (HBv1w.out.trans (hbx.mono HBv1w.out.size))
        clear hbx hW
        refine wpAnyH_ready (rs := [4]) (by kernel_rfl) (by simp) ?_
        refine (AllReadyH.cons (o := ⟨some 22, _, _, _, _, _⟩) rfl (fun K hK => ?_) AllReadyH.nil)
        refine step_append_any _ (by rfl) (.tmp 18) (.tmp 21) _ (by rfl) w1.heap.size 30 i0 _ 32 32 Try.underlying28 HI0.out HZ0.out hz1 hz2 rfl (by omega) (.slice (some ⟨wd.heap.size, 0, none⟩) 0 0) (0) ([]) (by rfl) HOv9w.out _ (some ⟨g, o, none⟩) (i) _ (keysOf (L.take i)) (by rfl) (HR1.out _ HBv9w.out) (keysOf_oneCell _) (by unfold maxLen; omega) (by omega) HBv9w.out.size ?_
        intro v3 v10w ho hg hat
        rw [Nat.zero_add, List.nil_append] at ho
        obtain ⟨Av10w, cv10w, rfl⟩ := own_form ho
        have hb1x : Below w1.heap.size w1 v10w := HBv9w.out.grown hg HBv9w.out.size (fun g e => (HOv9w.out.lt g e).1)
        have HOv10w := Lib.hid ho
        have HXv10w := Lib.hid (HXv9w.out.grown hg (fun e => HNv9w.out _ e.symm rfl))
        have HNv10w : Hid (∀ g, Value.ownBlock (.slice Av10w (i) cv10w) = some g → g ≠ v1w.heap.size) := fun g e => by
          rcases hat with h | h
          · exact HNv9w.out g (h.symm.trans e)
          · have h1 := HXv9w.out.lt; rw [e] at h; injection h with h; omega
        have HBv10w := Lib.hid hb1x
        clear ho hg hat hb1x
        refine hK.out _ _ (by exact range_below (a := w1) (by first | exact HBv10w.out | exact below_al HBv10w.out _ | exact hb1x) hlk rra) (fun hHeld => ?_)
        clear hK K
        conv => arg 8; simp only [Act.put, List.setIfInBounds_toArray, List.set_cons_zero, List.set_cons_succ]
        refine wpAnyH_ready (rs := [9]) (by kernel_rfl) (by simp) ?_
        refine (AllReadyH.cons (o := ⟨some 27, _, _, _, _, _⟩) rfl (fun K hK => ?_) AllReadyH.nil)
        refine step_append_any _ (by rfl) (.tmp 22) (.tmp 26) _ (by rfl) w1.heap.size 30 i0 _ 32 32 Try.underlying28 HI0.out HZ0.out hz1 hz2 rfl (by omega) (.slice Av10w (i) cv10w) (i) (keysOf (L.take i)) (by rfl) HOv10w.out _ (some ⟨g, o, none⟩) (0) 0 ([]) (by rfl) (Reads.none_ (B := 0) (A := some ⟨g, o, none⟩)) (by simp) (by unfold maxLen; omega) (by omega) HBv10w.out.size ?_
        intro v3 v11w ho hg hat
        rw [Nat.add_zero, List.append_nil] at ho
        obtain ⟨Av11w, cv11w, rfl⟩ := own_form ho
        have hb1x : Below w1.heap.size w1 v11w := HBv10w.out.grown hg HBv10w.out.size (fun g e => (HOv10w.out.lt g e).1)
        have HOv11w := Lib.hid ho
        have HXv11w := Lib.hid (HXv10w.out.grown hg (fun e => HNv10w.out _ e.symm rfl))
        have HNv11w : Hid (∀ g, Value.ownBlock (.slice Av11w (i) cv11w) = some g → g ≠ v1w.heap.size) := fun g e => by
          rcases hat with h | h
          · exact HNv10w.out g (h.symm.trans e)
          · have h1 := HXv10w.out.lt; rw [e] at h; injection h with h; omega
        have HBv11w := Lib.hid hb1x
        clear ho hg hat hb1x
        refine hK.out _ _ (by exact range_below (a := w1) (by first | exact HBv11w.out | exact below_al HBv11w.out _ | exact hb1x) hlk rra) (fun hHeld => ?_)
        clear hK K
        conv => arg 8; simp only [Act.put, List.setIfInBounds_toArray, List.set_cons_zero, List.set_cons_succ]
        refine wpAnyH_ready (rs := [12]) (by kernel_rfl) (by simp) ?_
        refine (AllReadyH.cons (o := ⟨some 30, _, _, _, _, _⟩) rfl (fun K hK => ?_) AllReadyH.nil)
        refine step_append_any _ (by rfl) (.tmp 27) (.tmp 29) _ (by rfl) w1.heap.size 30 i0 _ 32 32 Try.underlying28 HI0.out HZ0.out hz1 hz2 rfl (by omega) (.slice Av11w (i) cv11w) (i) (keysOf (L.take i)) (by rfl) HOv11w.out _ (some ⟨v1w.heap.size, 0, none⟩) (1) 1 (keysOf [k]) (by rfl) (reads_key HXv11w.out) (keysOf_oneCell _) (by unfold maxLen; omega) (by omega) HBv11w.out.size ?_
        intro v3 v12w ho hg hat
        skip
        obtain ⟨Av12w, cv12w, rfl⟩ := own_form ho
        have hb1x : Below w1.heap.size w1 v12w := HBv11w.out.grown hg HBv11w.out.size (fun g e => (HOv11w.out.lt g e).1)
        have HOv12w := Lib.hid ho
        have HBv12w := Lib.hid hb1x
        clear ho hg hat hb1x
        refine hK.out _ _ (by exact range_below (a := w1) (by first | exact HBv12w.out | exact below_al HBv12w.out _ | exact hb1x) hlk rra) (fun hHeld => ?_)
        clear hK K
        conv => arg 8; simp only [Act.put, List.setIfInBounds_toArray, List.set_cons_zero, List.set_cons_succ]
        refine wpAnyH_take (i := 13) (oi := ⟨some 6, _, _, _, _, _⟩) (v := ?_) rfl (by kernel_rfl) (by kernel_rfl) (by kernel_rfl) (fun _ _ _ h => h) (Or.inl ⟨by kernel_rfl, ?_⟩) hHeld ?_
        rotate_left
        · intro w hSw
          (try dsimp only at hSw)
          go_simp
          all_goals (with_reducible rfl)
        conv => arg 8; simp only [Act.put, List.setIfInBounds_toArray, List.set_cons_zero, List.set_cons_succ]
        refine wpAnyH_take (i := 14) (oi := ⟨some 7, _, _, _, _, _⟩) (v := ?_) rfl (by kernel_rfl) (by kernel_rfl) (by kernel_rfl) (fun _ _ _ h => h) (Or.inl ⟨by kernel_rfl, ?_⟩) hHeld ?_
        rotate_left
        · intro w hSw
          (try dsimp only at hSw)
          go_simp
          all_goals (with_reducible rfl)
        conv => arg 8; simp only [Act.put, List.setIfInBounds_toArray, List.set_cons_zero, List.set_cons_succ]
        refine wpAnyH_done (by kernel_rfl) ?_ _
        refine NoPanic.normal ?_
        go_wp2_with fail
        go_ret2
        have hl := lackT_len (List.getElem?_eq_getElem hil)
        have hn := HN.out
        have ho : v12w.ownsRow w1.heap.size 30 32 (.slice Av12w (i + 1) cv12w) (lackT L i ++ [k]).length (keysOf (lackT L i ++ [k])) := by
          rw [keysOf_append, keysOf_lackT, show (lackT L i ++ [k]).length = i + 1 by rw [List.length_append, List.length_singleton]; omega]
          rw [hee.out (by first | rfl | trivial)]; simpa [keysOf, List.append_assoc] using HOv12w.out
        exact ⟨_, _, rfl, HB1.out.trans (HBv12w.out.mono hz1'), KL.of_own ho, .inr (fun g hg => Nat.le_trans hz1' (ho.lt g hg).1)⟩
    · go_simp
      refine hK.out _ _ (by exact range_below (a := w1) (by first | exact HBD.out | exact below_al HBD.out _ | exact hb1x) hlk rra) (fun hHeld => ?_)
      clear hK K
      conv => arg 8; simp only [Act.put, List.setIfInBounds_toArray, List.set_cons_zero, List.set_cons_succ]
      generalize hW : World.alloc _ _ = v13w at hHeld ⊢
      have hbx : Below wd.heap.size wd v13w := by rw [← hW]; exact (Below.refl _ _).alloc (Nat.le_refl _) _
      have hxx : Blk v13w wd.heap.size 30 (bytesOf 32 k).toArray := by rw [← hW]; exact heap_alloc_new _ _
      have HXv13w := Lib.hid hxx
      clear hxx
      have HBv13w := Lib.hid (HBD.out.trans (hbx.mono HBD.out.size))
      clear hbx hW
      refine wpAnyH_ready (rs := [0]) (by kernel_rfl) (by simp) ?_
      refine (AllReadyH.cons (o := ⟨some 18, _, _, _, _, _⟩) rfl (fun K hK => ?_) AllReadyH.nil)
      go_simp
      refine hK.out _ _ (by exact range_below (a := w1) (by first | exact HBv13w.out | exact below_al HBv13w.out _ | exact hb1x) hlk rra) (fun hHeld => ?_)
      clear hK K
      conv => arg 8; simp only [Act.put, List.setIfInBounds_toArray, List.set_cons_zero, List.set_cons_succ]
      generalize hW : World.alloc _ _ = v14w at hHeld ⊢
      have hbx : Below v13w.heap.size v13w v14w := by rw [← hW]; exact (Below.refl _ _).alloc (Nat.le_refl _) _
      have hox : v14w.ownsRow w1.heap.size 30 32 (.slice (some ⟨v13w.heap.size, 0, none⟩) 0 0) 0 [] := by rw [← hW]; exact owns_base2 (empty_own _) HBv13w.out.size
      have HOv14w := Lib.hid hox
      clear hox
      have HNv14w : Hid (∀ g, Value.ownBlock (.slice (some ⟨v13w.heap.size, 0, none⟩) 0 0) = some g → g ≠ wd.heap.size) := fun g e => by have h1 := HXv13w.out.lt; injection e with e; have e : v13w.heap.size = g := e; omega
      have HXv14w := Lib.hid (HXv13w.out.below hbx HXv13w.out.lt)
      have HBv14w := Lib.hid (HBv13w.out.trans (hbx.mono HBv13w.out.size))
      clear hbx hW
      refine wpAnyH_ready (rs := [4]) (by kernel_rfl) (by simp) ?_
      refine (AllReadyH.cons (o := ⟨some 22, _, _, _, _, _⟩) rfl (fun K hK => ?_) AllReadyH.nil)
      refine step_append_any _ (by rfl) (.tmp 18) (.tmp 21) _ (by rfl) w1.heap.size 30 i0 _ 32 32 Try.underlying28 HI0.out HZ0.out hz1 hz2 rfl (by omega) (.slice (some ⟨v13w.heap.size, 0, none⟩) 0 0) (0) ([]) (by rfl) HOv14w.out _ (some ⟨g, o, none⟩) (i) _ (keysOf (L.take i)) (by rfl) (HR1.out _ HBv14w.out) (keysOf_oneCell _) (by unfold maxLen; omega) (by omega) HBv14w.out.size ?_
      intro v3 v15w ho hg hat
      rw [Nat.zero_add, List.nil_append] at ho
      obtain ⟨Av15w, cv15w, rfl⟩ := own_form ho
      have hb1x : Below w1.heap.size w1 v15w := HBv14w.out.grown hg HBv14w.out.size (fun g e => (HOv14w.out.lt g e).1)
      have HOv15w := Lib.hid ho
      have HXv15w := Lib.hid (HXv14w.out.grown hg (fun e => HNv14w.out _ e.symm rfl))
      have HNv15w : Hid (∀ g, Value.ownBlock (.slice Av15w (i) cv15w) = some g → g ≠ wd.heap.size) := fun g e => by
        rcases hat with h | h
        · exact HNv14w.out g (h.symm.trans e)
        · have h1 := HXv14w.out.lt; rw [e] at h; injection h with h; omega
      have HBv15w := Lib.hid hb1x
      clear ho hg hat hb1x
      refine hK.out _ _ (by exact range_below (a := w1) (by first | exact HBv15w.out | exact below_al HBv15w.out _ | exact hb1x) hlk rra) (fun hHeld => ?_)
      clear hK K
      conv => arg 8; simp only [Act.put, List.setIfInBounds_toArray, List.set_cons_zero, List.set_cons_succ]
      refine wpAnyH_ready (rs := [9]) (by kernel_rfl) (by simp) ?_
      refine (AllReadyH.cons (o := ⟨some 27, _, _, _, _, _⟩) rfl (fun K hK => ?_) AllReadyH.nil)
      refine step_append_any _ (by rfl) (.tmp 22) (.tmp 26) _ (by rfl) w1.heap.size 30 i0 _ 32 32 Try.underlying28 HI0.out HZ0.out hz1 hz2 rfl (by omega) (.slice Av15w (i) cv15w) (i) (keysOf (L.take i)) (by rfl) HOv15w.out _ (some ⟨g, o, none⟩) (0) 0 ([]) (by rfl) (Reads.none_ (B := 0) (A := some ⟨g, o, none⟩)) (by simp) (by unfold maxLen; omega) (by omega) HBv15w.out.size ?_
      intro v3 v16w ho hg hat
      rw [Nat.add_zero, List.append_nil] at ho
      obtain ⟨Av16w, cv16w, rfl⟩ := own_form ho
      have hb1x : Below w1.heap.size w1 v16w := HBv15w.out.grown hg HBv15w.out.size (fun g e => (HOv15w.out.lt g e).1)
      have HOv16w := Lib.hid ho
      have HXv16w := Lib.hid (HXv15w.out.grown hg (fun e => HNv15w.out _ e.symm rfl))
      have HNv16w : Hid (∀ g, Value.ownBlock (.slice Av16w (i) cv16w) = some g → g ≠ wd.heap.size) := fun g e => by
        rcases hat with h | h
        · exact HNv15w.out g (h.symm.trans e)
        · have h1 := HXv15w.out.lt; rw [e] at h; injection h with h; omega
      have HBv16w := Lib.hid hb1x
      clear ho hg hat hb1x
      refine hK.out _ _ (by exact range_below (a := w1) (by first | exact HBv16w.out | exact below_al HBv16w.out _ | exact hb1x) hlk rra) (fun hHeld => ?_)
      clear hK K
      conv => arg 8; simp only [Act.put, List.setIfInBounds_toArray, List.set_cons_zero, List.set_cons_succ]
      refine wpAnyH_ready (rs := [12]) (by kernel_rfl) (by simp) ?_
      refine (AllReadyH.cons (o := ⟨some 30, _, _, _, _, _⟩) rfl (fun K hK => ?_) AllReadyH.nil)
      refine step_append_any _ (by rfl) (.tmp 27) (.tmp 29) _ (by rfl) w1.heap.size 30 i0 _ 32 32 Try.underlying28 HI0.out HZ0.out hz1 hz2 rfl (by omega) (.slice Av16w (i) cv16w) (i) (keysOf (L.take i)) (by rfl) HOv16w.out _ (some ⟨wd.heap.size, 0, none⟩) (1) 1 (keysOf [k]) (by rfl) (reads_key HXv16w.out) (keysOf_oneCell _) (by unfold maxLen; omega) (by omega) HBv16w.out.size ?_
      intro v3 v17w ho hg hat
      skip
      obtain ⟨Av17w, cv17w, rfl⟩ := own_form ho
      have hb1x : Below w1.heap.size w1 v17w := HBv16w.out.grown hg HBv16w.out.size (fun g e => (HOv16w.out.lt g e).1)
      have HOv17w := Lib.hid ho
      have HBv17w := Lib.hid hb1x
      clear ho hg hat hb1x
      refine hK.out _ _ (by exact range_below (a := w1) (by first | exact HBv17w.out | exact below_al HBv17w.out _ | exact hb1x) hlk rra) (fun hHeld => ?_)
      clear hK K
      conv => arg 8; simp only [Act.put, List.setIfInBounds_toArray, List.set_cons_zero, List.set_cons_succ]
      refine wpAnyH_take (i := 13) (oi := ⟨some 6, _, _, _, _, _⟩) (v := ?_) rfl (by kernel_rfl) (by kernel_rfl) (by kernel_rfl) (fun _ _ _ h => h) (Or.inl ⟨by kernel_rfl, ?_⟩) hHeld ?_
      rotate_left
      · intro w hSw
        (try dsimp only at hSw)
        go_simp
        all_goals (with_reducible rfl)
      conv => arg 8; simp only [Act.put, List.setIfInBounds_toArray, List.set_cons_zero, List.set_cons_succ]
      refine wpAnyH_take (i := 14) (oi := ⟨some 7, _, _, _, _, _⟩) (v := ?_) rfl (by kernel_rfl) (by kernel_rfl) (by kernel_rfl) (fun _ _ _ h => h) (Or.inl ⟨by kernel_rfl, ?_⟩) hHeld ?_
      rotate_left
      · intro w hSw
        (try dsimp only at hSw)
        go_simp
        all_goals (with_reducible rfl)
      conv => arg 8; simp only [Act.put, List.setIfInBounds_toArray, List.set_cons_zero, List.set_cons_succ]
      refine wpAnyH_done (by kernel_rfl) ?_ _
      refine NoPanic.normal ?_
      go_wp2_with fail
      go_ret2
      have hl := lackT_len (List.getElem?_eq_getElem hil)
      have hn := HN.out
      have ho : v17w.ownsRow w1.heap.size 30 32 (.slice Av17w (i + 1) cv17w) (lackT L i ++ [k]).length (keysOf (lackT L i ++ [k])) := by
        rw [keysOf_append, keysOf_lackT, show (lackT L i ++ [k]).length = i + 1 by rw [List.length_append, List.length_singleton]; omega]
        rw [hee.out (by first | rfl | trivial)]; simpa [keysOf, List.append_assoc] using HOv17w.out
      exact ⟨_, _, rfl, HB1.out.trans (HBv17w.out.mono hz1'), KL.of_own ho, .inr (fun g hg => Nat.le_trans hz1' (ho.lt g hg).1)⟩
set_option maxRecDepth 100000 in
set_option maxHeartbeats 2000000 in
attribute [local go_sem ↓] wp_load_k wp_build_key in
theorem rpush_yes_zero (w : World) (v : Value) (L : List Ky) (gb : Option Nat) (hk : KL w v L gb) (hL : L.length ≤ 1048576) (k : Ky) (i : Nat) (hi : idxK L k = some i) :
    Calls Try.prog 22 #[v, .int .i64 0, keyV k] w (RefKPost w (lackT L i ++ [k]) false gb) := by
  obtain ⟨A, c, hv, hka⟩ := hk.keys
  have hKL := hk
  rw [hv] at hk ⊢
  obtain ⟨i0, hi0, hz0, hz1, hz2⟩ := info_parts key_info
  obtain ⟨cx, hcx⟩ : ∃ cx, (bytesOf 32 k).toArray = cx := ⟨_, rfl⟩
  show Calls _ _ #[_, .int .i64 0, .agg (bytesOf 32 k).toArray] _ _
  rw [hcx]
  have HCX := Lib.hid hcx
  have HKA := Lib.hid hka
  have HKL := Lib.hid hKL
  have HV := Lib.hid hv
  have HI0 := Lib.hid hi0
  have HZ0 := Lib.hid hz0
  obtain ⟨n, hn⟩ : ∃ n, L.length = n := ⟨_, rfl⟩
  have HN := Lib.hid hn
  rw [hn] at hL ⊢
  clear hcx hka hk hKL hi0 hz0 hn hv
  go_enter Try.func22, Try.ntmps22
  go_upto_region 1 with (fail)
  generalize hwa : World.alloc w _ = wa
  have hb0 : Below w.heap.size w wa := by rw [← hwa]; exact (Below.refl _ _).alloc (Nat.le_refl _) _
  have hk3 : Blk wa w.heap.size 30 (bytesOf 32 k).toArray := by rw [← hwa, HCX.out]; exact Blk.new w _ _
  have q1 := keyOk_mk (blk_key hk3)
  have q2 := loadK_eq (blk_key hk3)
  have HIX := Lib.hid (rindex_any wa A L.length c L k (HKA.out.below hb0))
  have HB0 := Lib.hid hb0
  have HK3 := Lib.hid hk3
  have hz0' := hb0.size
  clear hwa hb0 hk3
  go_wp2_with fail
  rw [← HN.out]
  refine HIX.out.mono ?_
  rintro e w1 ⟨rfl, hb1⟩
  rw [HN.out]
  have HB1 := Lib.hid (HB0.out.trans (hb1.mono hz0'))
  have hk4 := HK3.out.below hb1 HK3.out.lt
  have HK4 := Lib.hid hk4
  have hz1' := HB1.out.size
  clear q1 q2 hb1 HIX HK3
  obtain ⟨hix, hil⟩ := idxI_some hi
  obtain ⟨g, o, c', hf1, hgb, hcc, hc63, hrd⟩ := HKL.out.form (by omega)
  have hAe : A = some ⟨g, o, none⟩ ∧ c = c' := by
    rw [HV.out] at hf1
    injection hf1 with h1 _ h2
    exact ⟨h1, h2⟩
  obtain ⟨rfl, rfl⟩ := hAe
  have hiL : i < n := by have := HN.out; omega
  rw [HN.out] at hcc
  rw [hix] at *
  have HR1 : Hid (∀ W, Below w1.heap.size w1 W → Reads W w.heap.size 32 (some ⟨g, o, none⟩) i (keysOf (L.take i))) := fun W hW => reads_take ((hrd.below (HB1.out.mono (Nat.le_refl _))).below (hW.mono hz1')) (by omega)
  have HR2 : Hid (c ≠ i + 1 → ∀ W, Below w1.heap.size w1 W → Reads W w.heap.size 32 (some ⟨g, o + (i + 1) * 32, none⟩) (n - (i + 1)) (keysOf (L.drop (i + 1)))) := fun hne W hW => by
    have := reads_drop (c := c) (i := i + 1) ((hrd.below (HB1.out.mono (Nat.le_refl _))).below (hW.mono hz1')) (by omega) (by rw [HN.out]; exact hcc) hne
    rw [HN.out] at this
    exact this
  have hee : Hid (c = i + 1 → L.drop (i + 1) = []) := fun e => List.drop_of_length_le (by have := HN.out; omega)
  clear hrd hix
  by_cases hne : c ≠ i + 1
  · have HNE := Lib.hid hne
    have t1 : (i : Int) ≤ c := by omega
    have t2 : (i : Int) + 1 ≤ n := by omega
    have t3 : (n : Int) ≤ c := by omega
    have g1 : IntKind.i64.wrap ((i : Int) + 1) = (i : Int) + 1 := IntWalk.i64_in _ (by omega)
    have p0 : (0 : Int) ≤ (i : Int) + 1 := by omega
    have p1 : ((i : Int) + 1).toNat = i + 1 := by omega
    have t0 : (0 : Int) ≤ (i : Int) := by omega
    clear hne
    go_upto_region 4 with (fail)
    have hne := HNE.out
    have hu := Try.underlying30
    have hik := key_size k
    have rra := blk_range HK4.out
    have hlk := HK4.out.lt
    have q3 := isKy k
    refine wp_region_noPanic ?_
    refine wp_region_held_drew (S := fun w' => w'.rangeAt w.heap.size 0 (bytesOf 32 k)) (by kernel_rfl) rra (fun hHeld => ?_)
    refine wpAnyH_take (i := 1) (oi := ⟨some 19, _, _, _, _, _⟩) (v := ?_) rfl (by kernel_rfl) (by kernel_rfl) (by kernel_rfl) (fun _ _ _ h => h) (Or.inl ⟨by kernel_rfl, ?_⟩) hHeld ?_
    rotate_left
    · intro w hSw
      (try dsimp only at hSw)
      go_simp
      all_goals (with_reducible rfl)
    conv => arg 8; simp only [Act.put, List.setIfInBounds_toArray, List.set_cons_zero, List.set_cons_succ]
    refine wpAnyH_take (i := 2) (oi := ⟨some 20, _, _, _, _, _⟩) (v := ?_) rfl (by kernel_rfl) (by kernel_rfl) (by kernel_rfl) (fun _ _ _ h => h) (Or.inl ⟨by kernel_rfl, ?_⟩) hHeld ?_
    rotate_left
    · intro w hSw
      (try dsimp only at hSw)
      go_simp
      all_goals (with_reducible rfl)
    conv => arg 8; simp only [Act.put, List.setIfInBounds_toArray, List.set_cons_zero, List.set_cons_succ]
    refine wpAnyH_take (i := 3) (oi := ⟨some 21, _, _, _, _, _⟩) (v := ?_) rfl (by kernel_rfl) (by kernel_rfl) (by kernel_rfl) (fun _ _ _ h => h) (Or.inl ⟨by kernel_rfl, ?_⟩) hHeld ?_
    rotate_left
    · intro w hSw
      (try dsimp only at hSw)
      go_simp
      all_goals (with_reducible rfl)
    conv => arg 8; simp only [Act.put, List.setIfInBounds_toArray, List.set_cons_zero, List.set_cons_succ]
    refine wpAnyH_take (i := 5) (oi := ⟨some 23, _, _, _, _, _⟩) (v := ?_) rfl (by kernel_rfl) (by kernel_rfl) (by kernel_rfl) (fun _ _ _ h => h) (Or.inl ⟨by kernel_rfl, ?_⟩) hHeld ?_
    rotate_left
    · intro w hSw
      (try dsimp only at hSw)
      go_simp
      all_goals (with_reducible rfl)
    conv => arg 8; simp only [Act.put, List.setIfInBounds_toArray, List.set_cons_zero, List.set_cons_succ]
    refine wpAnyH_take (i := 6) (oi := ⟨some 24, _, _, _, _, _⟩) (v := ?_) rfl (by kernel_rfl) (by kernel_rfl) (by kernel_rfl) (fun _ _ _ h => h) (Or.inl ⟨by kernel_rfl, ?_⟩) hHeld ?_
    rotate_left
    · intro w hSw
      (try dsimp only at hSw)
      go_simp
      all_goals (with_reducible rfl)
    conv => arg 8; simp only [Act.put, List.setIfInBounds_toArray, List.set_cons_zero, List.set_cons_succ]
    refine wpAnyH_take (i := 7) (oi := ⟨some 25, _, _, _, _, _⟩) (v := ?_) rfl (by kernel_rfl) (by kernel_rfl) (by kernel_rfl) (fun _ _ _ h => h) (Or.inl ⟨by kernel_rfl, ?_⟩) hHeld ?_
    rotate_left
    · intro w hSw
      (try dsimp only at hSw)
      go_simp
      all_goals (with_reducible rfl)
    conv => arg 8; simp only [Act.put, List.setIfInBounds_toArray, List.set_cons_zero, List.set_cons_succ]
    refine wpAnyH_take (i := 8) (oi := ⟨some 26, _, _, _, _, _⟩) (v := ?_) rfl (by kernel_rfl) (by kernel_rfl) (by kernel_rfl) (fun _ _ _ h => h) (Or.inl ⟨by kernel_rfl, ?_⟩) hHeld ?_
    rotate_left
    · intro w hSw
      (try dsimp only at hSw)
      go_simp
      all_goals (with_reducible rfl)
    conv => arg 8; simp only [Act.put, List.setIfInBounds_toArray, List.set_cons_zero, List.set_cons_succ]
    refine wpAnyH_take (i := 10) (oi := ⟨some 28, _, _, _, _, _⟩) (v := _) rfl (by kernel_rfl) (by kernel_rfl) (by kernel_rfl) (fun _ _ _ h => h) (yieldsIf_load_mid (S := fun w' => w'.rangeAt w.heap.size 0 (bytesOf 32 k)) (by kernel_rfl) _ _ rfl _ _ rfl _ _ (fun w hSw => hSw) hu rfl hik) hHeld ?_
    conv => arg 8; simp only [Act.put, List.setIfInBounds_toArray, List.set_cons_zero, List.set_cons_succ]
    generalize hW : World.drew _ = wd at hHeld ⊢
    have hbd : Below w1.heap.size w1 wd := by rw [← hW]; exact belowDrewR (Below.refl _ _)
    have HBD := Lib.hid hbd
    clear hbd hW
    refine wpAnyH_ready (rs := [0, 11]) (by kernel_rfl) (by simp) ?_
    refine (AllReadyH.cons (o := ⟨some 18, _, _, _, _, _⟩) rfl (fun K hK => ?_) (AllReadyH.cons (o := ⟨some 29, _, _, _, _, _⟩) rfl (fun K hK => ?_) AllReadyH.nil))
    · go_simp
      refine hK.out _ _ (by exact range_below (a := w1) (by first | exact HBD.out | exact below_al HBD.out _ | exact hb1x) hlk rra) (fun hHeld => ?_)
      clear hK K
      conv => arg 8; simp only [Act.put, List.setIfInBounds_toArray, List.set_cons_zero, List.set_cons_succ]
      generalize hW : World.alloc _ _ = v1w at hHeld ⊢
      have hbx : Below wd.heap.size wd v1w := by rw [← hW]; exact (Below.refl _ _).alloc (Nat.le_refl _) _
      have hox : v1w.ownsRow w1.heap.size 30 32 (.slice (some ⟨wd.heap.size, 0, none⟩) 0 0) 0 [] := by rw [← hW]; exact owns_base2 (empty_own _) HBD.out.size
      have HOv1w := Lib.hid hox
      clear hox
      have HBv1w := Lib.hid (HBD.out.trans (hbx.mono HBD.out.size))
      clear hbx hW
      refine wpAnyH_ready (rs := [4, 11]) (by kernel_rfl) (by simp) ?_
      refine (AllReadyH.cons (o := ⟨some 22, _, _, _, _, _⟩) rfl (fun K hK => ?_) (AllReadyH.cons (o := ⟨some 29, _, _, _, _, _⟩) rfl (fun K hK => ?_) AllReadyH.nil))
      · refine step_append_any _ (by rfl) (.tmp 18) (.tmp 21) _ (by rfl) w1.heap.size 30 i0 _ 32 32 Try.underlying28 HI0.out HZ0.out hz1 hz2 rfl (by omega) (.slice (some ⟨wd.heap.size, 0, none⟩) 0 0) (0) ([]) (by rfl) HOv1w.out _ (some ⟨g, o, none⟩) (i) _ (keysOf (L.take i)) (by rfl) (HR1.out _ HBv1w.out) (keysOf_oneCell _) (by unfold maxLen; omega) (by omega) HBv1w.out.size ?_
        intro v3 v2w ho hg hat
        rw [Nat.zero_add, List.nil_append] at ho
        obtain ⟨Av2w, cv2w, rfl⟩ := own_form ho
        have hb1x : Below w1.heap.size w1 v2w := HBv1w.out.grown hg HBv1w.out.size (fun g e => (HOv1w.out.lt g e).1)
        have HOv2w := Lib.hid ho
        have HBv2w := Lib.hid hb1x
        clear ho hg hat hb1x
        refine hK.out _ _ (by exact range_below (a := w1) (by first | exact HBv2w.out | exact below_al HBv2w.out _ | exact hb1x) hlk rra) (fun hHeld => ?_)
        clear hK K
        conv => arg 8; simp only [Act.put, List.setIfInBounds_toArray, List.set_cons_zero, List.set_cons_succ]
        refine wpAnyH_ready (rs := [9, 11]) (by kernel_rfl) (by simp) ?_
        refine (AllReadyH.cons (o := ⟨some 27, _, _, _, _, _⟩) rfl (fun K hK => ?_) (AllReadyH.cons (o := ⟨some 29, _, _, _, _, _⟩) rfl (fun K hK => ?_) AllReadyH.nil))
        · refine step_append_any _ (by rfl) (.tmp 22) (.tmp 26) _ (by rfl) w1.heap.size 30 i0 _ 32 32 Try.underlying28 HI0.out HZ0.out hz1 hz2 rfl (by omega) (.slice Av2w (i) cv2w) (i) (keysOf (L.take i)) (by rfl) HOv2w.out _ (some ⟨g, o + (i + 1) * 32, none⟩) (n - (i + 1)) _ (keysOf (L.drop (i + 1))) (by rfl) (HR2.out HNE.out _ HBv2w.out) (keysOf_oneCell _) (by unfold maxLen; omega) (by omega) HBv2w.out.size ?_
          intro v3 v3w ho hg hat
          skip
          obtain ⟨Av3w, cv3w, rfl⟩ := own_form ho
          have hb1x : Below w1.heap.size w1 v3w := HBv2w.out.grown hg HBv2w.out.size (fun g e => (HOv2w.out.lt g e).1)
          have HOv3w := Lib.hid ho
          have HBv3w := Lib.hid hb1x
          clear ho hg hat hb1x
          refine hK.out _ _ (by exact range_below (a := w1) (by first | exact HBv3w.out | exact below_al HBv3w.out _ | exact hb1x) hlk rra) (fun hHeld => ?_)
          clear hK K
          conv => arg 8; simp only [Act.put, List.setIfInBounds_toArray, List.set_cons_zero, List.set_cons_succ]
          refine wpAnyH_ready (rs := [11]) (by kernel_rfl) (by simp) ?_
          refine (AllReadyH.cons (o := ⟨some 29, _, _, _, _, _⟩) rfl (fun K hK => ?_) AllReadyH.nil)
          go_simp
          refine hK.out _ _ (by exact range_below (a := w1) (by first | exact HBv3w.out | exact below_al HBv3w.out _ | exact hb1x) hlk rra) (fun hHeld => ?_)
          clear hK K
          conv => arg 8; simp only [Act.put, List.setIfInBounds_toArray, List.set_cons_zero, List.set_cons_succ]
          generalize hW : World.alloc _ _ = v4w at hHeld ⊢
          have hbx : Below v3w.heap.size v3w v4w := by rw [← hW]; exact (Below.refl _ _).alloc (Nat.le_refl _) _
          have hxx : Blk v4w v3w.heap.size 30 (bytesOf 32 k).toArray := by rw [← hW]; exact heap_alloc_new _ _
          have HXv4w := Lib.hid hxx
          clear hxx
          have HNv4w : Hid (∀ g, Value.ownBlock (.slice Av3w (i + (n - (i + 1))) cv3w) = some g → g ≠ v3w.heap.size) := fun g e => Nat.ne_of_lt (HOv3w.out.lt g e).2
          have HOv4w := Lib.hid (owns_below HOv3w.out hbx)
          have HBv4w := Lib.hid (HBv3w.out.trans (hbx.mono HBv3w.out.size))
          clear hbx hW
          refine wpAnyH_ready (rs := [12]) (by kernel_rfl) (by simp) ?_
          refine (AllReadyH.cons (o := ⟨some 30, _, _, _, _, _⟩) rfl (fun K hK => ?_) AllReadyH.nil)
          refine step_append_any _ (by rfl) (.tmp 27) (.tmp 29) _ (by rfl) w1.heap.size 30 i0 _ 32 32 Try.underlying28 HI0.out HZ0.out hz1 hz2 rfl (by omega) (.slice Av3w (i + (n - (i + 1))) cv3w) (i + (n - (i + 1))) (keysOf (L.take i) ++ keysOf (L.drop (i + 1))) (by rfl) HOv4w.out _ (some ⟨v3w.heap.size, 0, none⟩) (1) 1 (keysOf [k]) (by rfl) (reads_key HXv4w.out) (keysOf_oneCell _) (by unfold maxLen; omega) (by omega) HBv4w.out.size ?_
          intro v3 v5w ho hg hat
          skip
          obtain ⟨Av5w, cv5w, rfl⟩ := own_form ho
          have hb1x : Below w1.heap.size w1 v5w := HBv4w.out.grown hg HBv4w.out.size (fun g e => (HOv4w.out.lt g e).1)
          have HOv5w := Lib.hid ho
          have HBv5w := Lib.hid hb1x
          clear ho hg hat hb1x
          refine hK.out _ _ (by exact range_below (a := w1) (by first | exact HBv5w.out | exact below_al HBv5w.out _ | exact hb1x) hlk rra) (fun hHeld => ?_)
          clear hK K
          conv => arg 8; simp only [Act.put, List.setIfInBounds_toArray, List.set_cons_zero, List.set_cons_succ]
          refine wpAnyH_take (i := 13) (oi := ⟨some 6, _, _, _, _, _⟩) (v := ?_) rfl (by kernel_rfl) (by kernel_rfl) (by kernel_rfl) (fun _ _ _ h => h) (Or.inl ⟨by kernel_rfl, ?_⟩) hHeld ?_
          rotate_left
          · intro w hSw
            (try dsimp only at hSw)
            go_simp
            all_goals (with_reducible rfl)
          conv => arg 8; simp only [Act.put, List.setIfInBounds_toArray, List.set_cons_zero, List.set_cons_succ]
          refine wpAnyH_take (i := 14) (oi := ⟨some 7, _, _, _, _, _⟩) (v := ?_) rfl (by kernel_rfl) (by kernel_rfl) (by kernel_rfl) (fun _ _ _ h => h) (Or.inl ⟨by kernel_rfl, ?_⟩) hHeld ?_
          rotate_left
          · intro w hSw
            (try dsimp only at hSw)
            go_simp
            all_goals (with_reducible rfl)
          conv => arg 8; simp only [Act.put, List.setIfInBounds_toArray, List.set_cons_zero, List.set_cons_succ]
          refine wpAnyH_done (by kernel_rfl) ?_ _
          refine NoPanic.normal ?_
          go_wp2_with fail
          go_ret2
          have hl := lackT_len (List.getElem?_eq_getElem hil)
          have hn := HN.out
          have ho : v5w.ownsRow w1.heap.size 30 32 (.slice Av5w (i + (n - (i + 1)) + 1) cv5w) (lackT L i ++ [k]).length (keysOf (lackT L i ++ [k])) := by
            rw [keysOf_append, keysOf_lackT, show (lackT L i ++ [k]).length = i + (n - (i + 1)) + 1 by rw [List.length_append, List.length_singleton]; omega]
            exact HOv5w.out
          exact ⟨_, _, rfl, HB1.out.trans (HBv5w.out.mono hz1'), KL.of_own ho, .inr (fun g hg => Nat.le_trans hz1' (ho.lt g hg).1)⟩
        · go_simp
          refine hK.out _ _ (by exact range_below (a := w1) (by first | exact HBv2w.out | exact below_al HBv2w.out _ | exact hb1x) hlk rra) (fun hHeld => ?_)
          clear hK K
          conv => arg 8; simp only [Act.put, List.setIfInBounds_toArray, List.set_cons_zero, List.set_cons_succ]
          generalize hW : World.alloc _ _ = v6w at hHeld ⊢
          have hbx : Below v2w.heap.size v2w v6w := by rw [← hW]; exact (Below.refl _ _).alloc (Nat.le_refl _) _
          have hxx : Blk v6w v2w.heap.size 30 (bytesOf 32 k).toArray := by rw [← hW]; exact heap_alloc_new _ _
          have HXv6w := Lib.hid hxx
          clear hxx
          have HNv6w : Hid (∀ g, Value.ownBlock (.slice Av2w (i) cv2w) = some g → g ≠ v2w.heap.size) := fun g e => Nat.ne_of_lt (HOv2w.out.lt g e).2
          have HOv6w := Lib.hid (owns_below HOv2w.out hbx)
          have HBv6w := Lib.hid (HBv2w.out.trans (hbx.mono HBv2w.out.size))
          clear hbx hW
          refine wpAnyH_ready (rs := [9]) (by kernel_rfl) (by simp) ?_
          refine (AllReadyH.cons (o := ⟨some 27, _, _, _, _, _⟩) rfl (fun K hK => ?_) AllReadyH.nil)
          refine step_append_any _ (by rfl) (.tmp 22) (.tmp 26) _ (by rfl) w1.heap.size 30 i0 _ 32 32 Try.underlying28 HI0.out HZ0.out hz1 hz2 rfl (by omega) (.slice Av2w (i) cv2w) (i) (keysOf (L.take i)) (by rfl) HOv6w.out _ (some ⟨g, o + (i + 1) * 32, none⟩) (n - (i + 1)) _ (keysOf (L.drop (i + 1))) (by rfl) (HR2.out HNE.out _ HBv6w.out) (keysOf_oneCell _) (by unfold maxLen; omega) (by omega) HBv6w.out.size ?_
          intro v3 v7w ho hg hat
          skip
          obtain ⟨Av7w, cv7w, rfl⟩ := own_form ho
          have hb1x : Below w1.heap.size w1 v7w := HBv6w.out.grown hg HBv6w.out.size (fun g e => (HOv6w.out.lt g e).1)
          have HOv7w := Lib.hid ho
          have HXv7w := Lib.hid (HXv6w.out.grown hg (fun e => HNv6w.out _ e.symm rfl))
          have HNv7w : Hid (∀ g, Value.ownBlock (.slice Av7w (i + (n - (i + 1))) cv7w) = some g → g ≠ v2w.heap.size) := fun g e => by
            rcases hat with h | h
            · exact HNv6w.out g (h.symm.trans e)
            · have h1 := HXv6w.out.lt; rw [e] at h; injection h with h; omega
          have HBv7w := Lib.hid hb1x
          clear ho hg hat hb1x
          refine hK.out _ _ (by exact range_below (a := w1) (by first | exact HBv7w.out | exact below_al HBv7w.out _ | exact hb1x) hlk rra) (fun hHeld => ?_)
          clear hK K
          conv => arg 8; simp only [Act.put, List.setIfInBounds_toArray, List.set_cons_zero, List.set_cons_succ]
          refine wpAnyH_ready (rs := [12]) (by kernel_rfl) (by simp) ?_
          refine (AllReadyH.cons (o := ⟨some 30, _, _, _, _, _⟩) rfl (fun K hK => ?_) AllReadyH.nil)
          refine step_append_any _ (by rfl) (.tmp 27) (.tmp 29) _ (by rfl) w1.heap.size 30 i0 _ 32 32 Try.underlying28 HI0.out HZ0.out hz1 hz2 rfl (by omega) (.slice Av7w (i + (n - (i + 1))) cv7w) (i + (n - (i + 1))) (keysOf (L.take i) ++ keysOf (L.drop (i + 1))) (by rfl) HOv7w.out _ (some ⟨v2w.heap.size, 0, none⟩) (1) 1 (keysOf [k]) (by rfl) (reads_key HXv7w.out) (keysOf_oneCell _) (by unfold maxLen; omega) (by omega) HBv7w.out.size ?_
          intro v3 v8w ho hg hat
          skip
          obtain ⟨Av8w, cv8w, rfl⟩ := own_form ho
          have hb1x : Below w1.heap.size w1 v8w := HBv7w.out.grown hg HBv7w.out.size (fun g e => (HOv7w.out.lt g e).1)
          have HOv8w := Lib.hid ho
          have HBv8w := Lib.hid hb1x
          clear ho hg hat hb1x
          refine hK.out _ _ (by exact range_below (a := w1) (by first | exact HBv8w.out | exact below_al HBv8w.out _ | exact hb1x) hlk rra) (fun hHeld => ?_)
          clear hK K
          conv => arg 8; simp only [Act.put, List.setIfInBounds_toArray, List.set_cons_zero, List.set_cons_succ]
          refine wpAnyH_take (i := 13) (oi := ⟨some 6, _, _, _, _, _⟩) (v := ?_) rfl (by kernel_rfl) (by kernel_rfl) (by kernel_rfl) (fun _ _ _ h => h) (Or.inl ⟨by kernel_rfl, ?_⟩) hHeld ?_
          rotate_left
          · intro w hSw
            (try dsimp only at hSw)
            go_simp
            all_goals (with_reducible rfl)
          conv => arg 8; simp only [Act.put, List.setIfInBounds_toArray, List.set_cons_zero, List.set_cons_succ]
          refine wpAnyH_take (i := 14) (oi := ⟨some 7, _, _, _, _, _⟩) (v := ?_) rfl (by kernel_rfl) (by kernel_rfl) (by kernel_rfl) (fun _ _ _ h => h) (Or.inl ⟨by kernel_rfl, ?_⟩) hHeld ?_
          rotate_left
          · intro w hSw
            (try dsimp only at hSw)
            go_simp
            all_goals (with_reducible rfl)
          conv => arg 8; simp only [Act.put, List.setIfInBounds_toArray, List.set_cons_zero, List.set_cons_succ]
          refine wpAnyH_done (by kernel_rfl) ?_ _
          refine NoPanic.normal ?_
          go_wp2_with fail
          go_ret2
          have hl := lackT_len (List.getElem?_eq_getElem hil)
          have hn := HN.out
          have ho : v8w.ownsRow w1.heap.size 30 32 (.slice Av8w (i + (n - (i + 1)) + 1) cv8w) (lackT L i ++ [k]).length (keysOf (lackT L i ++ [k])) := by
            rw [keysOf_append, keysOf_lackT, show (lackT L i ++ [k]).length = i + (n - (i + 1)) + 1 by rw [List.length_append, List.length_singleton]; omega]
            exact HOv8w.out
          exact ⟨_, _, rfl, HB1.out.trans (HBv8w.out.mono hz1'), KL.of_own ho, .inr (fun g hg => Nat.le_trans hz1' (ho.lt g hg).1)⟩
      · go_simp
        refine hK.out _ _ (by exact range_below (a := w1) (by first | exact HBv1w.out | exact below_al HBv1w.out _ | exact hb1x) hlk rra) (fun hHeld => ?_)
        clear hK K
        conv => arg 8; simp only [Act.put, List.setIfInBounds_toArray, List.set_cons_zero, List.set_cons_succ]
        generalize hW : World.alloc _ _ = v9w at hHeld ⊢
        have hbx : Below v1w.heap.size v1w v9w := by rw [← hW]; exact (Below.refl _ _).alloc (Nat.le_refl _) _
        have hxx : Blk v9w v1w.heap.size 30 (bytesOf 32 k).toArray := by rw [← hW]; exact heap_alloc_new _ _
        have HXv9w := Lib.hid hxx
        clear hxx
        have HNv9w : Hid (∀ g, Value.ownBlock (.slice (some ⟨wd.heap.size, 0, none⟩) 0 0) = some g → g ≠ v1w.heap.size) := fun g e => Nat.ne_of_lt (HOv1w.out.lt g e).2
        have HOv9w := Lib.hid (owns_below HOv1w.out hbx)
        have HBv9w := Lib.hid (HBv1w.out.trans (hbx.mono HBv1w.out.size))
        clear hbx hW
        refine wpAnyH_ready (rs := [4]) (by kernel_rfl) (by simp) ?_
        refine (AllReadyH.cons (o := ⟨some 22, _, _, _, _, _⟩) rfl (fun K hK => ?_) AllReadyH.nil)
        refine step_append_any _ (by rfl) (.tmp 18) (.tmp 21) _ (by rfl) w1.heap.size 30 i0 _ 32 32 Try.underlying28 HI0.out HZ0.out hz1 hz2 rfl (by omega) (.slice (some ⟨wd.heap.size, 0, none⟩) 0 0) (0) ([]) (by rfl) HOv9w.out _ (some ⟨g, o, none⟩) (i) _ (keysOf (L.take i)) (by rfl) (HR1.out _ HBv9w.out) (keysOf_oneCell _) (by unfold maxLen; omega) (by omega) HBv9w.out.size ?_
        intro v3 v10w ho hg hat
        rw [Nat.zero_add, List.nil_append] at ho
        obtain ⟨Av10w, cv10w, rfl⟩ := own_form ho
        have hb1x : Below w1.heap.size w1 v10w := HBv9w.out.grown hg HBv9w.out.size (fun g e => (HOv9w.out.lt g e).1)
        have HOv10w := Lib.hid ho
        have HXv10w := Lib.hid (HXv9w.out.grown hg (fun e => HNv9w.out _ e.symm rfl))
        have HNv10w : Hid (∀ g, Value.ownBlock (.slice Av10w (i) cv10w) = some g → g ≠ v1w.heap.size) := fun g e => by
          rcases hat with h | h
          · exact HNv9w.out g (h.symm.trans e)
          · have h1 := HXv9w.out.lt; rw [e] at h; injection h with h; omega
        have HBv10w := Lib.hid hb1x
        clear ho hg hat hb1x
        refine hK.out _ _ (by exact range_below (a := w1) (by first | exact HBv10w.out | exact below_al HBv10w.out _ | exact hb1x) hlk rra) (fun hHeld => ?_)
        clear hK K
        conv => arg 8; simp only [Act.put, List.setIfInBounds_toArray, List.set_cons_zero, List.set_cons_succ]
        refine wpAnyH_ready (rs := [9]) (by kernel_rfl) (by simp) ?_
        refine (AllReadyH.cons (o := ⟨some 27, _, _, _, _, _⟩) rfl (fun K hK => ?_) AllReadyH.nil)
        refine step_append_any _ (by rfl) (.tmp 22) (.tmp 26) _ (by rfl) w1.heap.size 30 i0 _ 32 32 Try.underlying28 HI0.out HZ0.out hz1 hz2 rfl (by omega) (.slice Av10w (i) cv10w) (i) (keysOf (L.take i)) (by rfl) HOv10w.out _ (some ⟨g, o + (i + 1) * 32, none⟩) (n - (i + 1)) _ (keysOf (L.drop (i + 1))) (by rfl) (HR2.out HNE.out _ HBv10w.out) (keysOf_oneCell _) (by unfold maxLen; omega) (by omega) HBv10w.out.size ?_
        intro v3 v11w ho hg hat
        skip
        obtain ⟨Av11w, cv11w, rfl⟩ := own_form ho
        have hb1x : Below w1.heap.size w1 v11w := HBv10w.out.grown hg HBv10w.out.size (fun g e => (HOv10w.out.lt g e).1)
        have HOv11w := Lib.hid ho
        have HXv11w := Lib.hid (HXv10w.out.grown hg (fun e => HNv10w.out _ e.symm rfl))
        have HNv11w : Hid (∀ g, Value.ownBlock (.slice Av11w (i + (n - (i + 1))) cv11w) = some g → g ≠ v1w.heap.size) := fun g e => by
          rcases hat with h | h
          · exact HNv10w.out g (h.symm.trans e)
          · have h1 := HXv10w.out.lt; rw [e] at h; injection h with h; omega
        have HBv11w := Lib.hid hb1x
        clear ho hg hat hb1x
        refine hK.out _ _ (by exact range_below (a := w1) (by first | exact HBv11w.out | exact below_al HBv11w.out _ | exact hb1x) hlk rra) (fun hHeld => ?_)
        clear hK K
        conv => arg 8; simp only [Act.put, List.setIfInBounds_toArray, List.set_cons_zero, List.set_cons_succ]
        refine wpAnyH_ready (rs := [12]) (by kernel_rfl) (by simp) ?_
        refine (AllReadyH.cons (o := ⟨some 30, _, _, _, _, _⟩) rfl (fun K hK => ?_) AllReadyH.nil)
        refine step_append_any _ (by rfl) (.tmp 27) (.tmp 29) _ (by rfl) w1.heap.size 30 i0 _ 32 32 Try.underlying28 HI0.out HZ0.out hz1 hz2 rfl (by omega) (.slice Av11w (i + (n - (i + 1))) cv11w) (i + (n - (i + 1))) (keysOf (L.take i) ++ keysOf (L.drop (i + 1))) (by rfl) HOv11w.out _ (some ⟨v1w.heap.size, 0, none⟩) (1) 1 (keysOf [k]) (by rfl) (reads_key HXv11w.out) (keysOf_oneCell _) (by unfold maxLen; omega) (by omega) HBv11w.out.size ?_
        intro v3 v12w ho hg hat
        skip
        obtain ⟨Av12w, cv12w, rfl⟩ := own_form ho
        have hb1x : Below w1.heap.size w1 v12w := HBv11w.out.grown hg HBv11w.out.size (fun g e => (HOv11w.out.lt g e).1)
        have HOv12w := Lib.hid ho
        have HBv12w := Lib.hid hb1x
        clear ho hg hat hb1x
        refine hK.out _ _ (by exact range_below (a := w1) (by first | exact HBv12w.out | exact below_al HBv12w.out _ | exact hb1x) hlk rra) (fun hHeld => ?_)
        clear hK K
        conv => arg 8; simp only [Act.put, List.setIfInBounds_toArray, List.set_cons_zero, List.set_cons_succ]
        refine wpAnyH_take (i := 13) (oi := ⟨some 6, _, _, _, _, _⟩) (v := ?_) rfl (by kernel_rfl) (by kernel_rfl) (by kernel_rfl) (fun _ _ _ h => h) (Or.inl ⟨by kernel_rfl, ?_⟩) hHeld ?_
        rotate_left
        · intro w hSw
          (try dsimp only at hSw)
          go_simp
          all_goals (with_reducible rfl)
        conv => arg 8; simp only [Act.put, List.setIfInBounds_toArray, List.set_cons_zero, List.set_cons_succ]
        refine wpAnyH_take (i := 14) (oi := ⟨some 7, _, _, _, _, _⟩) (v := ?_) rfl (by kernel_rfl) (by kernel_rfl) (by kernel_rfl) (fun _ _ _ h => h) (Or.inl ⟨by kernel_rfl, ?_⟩) hHeld ?_
        rotate_left
        · intro w hSw
          (try dsimp only at hSw)
          go_simp
          all_goals (with_reducible rfl)
        conv => arg 8; simp only [Act.put, List.setIfInBounds_toArray, List.set_cons_zero, List.set_cons_succ]
        refine wpAnyH_done (by kernel_rfl) ?_ _
        refine NoPanic.normal ?_
        go_wp2_with fail
        go_ret2
        have hl := lackT_len (List.getElem?_eq_getElem hil)
        have hn := HN.out
        have ho : v12w.ownsRow w1.heap.size 30 32 (.slice Av12w (i + (n - (i + 1)) + 1) cv12w) (lackT L i ++ [k]).length (keysOf (lackT L i ++ [k])) := by
          rw [keysOf_append, keysOf_lackT, show (lackT L i ++ [k]).length = i + (n - (i + 1)) + 1 by rw [List.length_append, List.length_singleton]; omega]
          exact HOv12w.out
        exact ⟨_, _, rfl, HB1.out.trans (HBv12w.out.mono hz1'), KL.of_own ho, .inr (fun g hg => Nat.le_trans hz1' (ho.lt g hg).1)⟩
    · go_simp
      refine hK.out _ _ (by exact range_below (a := w1) (by first | exact HBD.out | exact below_al HBD.out _ | exact hb1x) hlk rra) (fun hHeld => ?_)
      clear hK K
      conv => arg 8; simp only [Act.put, List.setIfInBounds_toArray, List.set_cons_zero, List.set_cons_succ]
      generalize hW : World.alloc _ _ = v13w at hHeld ⊢
      have hbx : Below wd.heap.size wd v13w := by rw [← hW]; exact (Below.refl _ _).alloc (Nat.le_refl _) _
      have hxx : Blk v13w wd.heap.size 30 (bytesOf 32 k).toArray := by rw [← hW]; exact heap_alloc_new _ _
      have HXv13w := Lib.hid hxx
      clear hxx
      have HBv13w := Lib.hid (HBD.out.trans (hbx.mono HBD.out.size))
      clear hbx hW
      refine wpAnyH_ready (rs := [0]) (by kernel_rfl) (by simp) ?_
      refine (AllReadyH.cons (o := ⟨some 18, _, _, _, _, _⟩) rfl (fun K hK => ?_) AllReadyH.nil)
      go_simp
      refine hK.out _ _ (by exact range_below (a := w1) (by first | exact HBv13w.out | exact below_al HBv13w.out _ | exact hb1x) hlk rra) (fun hHeld => ?_)
      clear hK K
      conv => arg 8; simp only [Act.put, List.setIfInBounds_toArray, List.set_cons_zero, List.set_cons_succ]
      generalize hW : World.alloc _ _ = v14w at hHeld ⊢
      have hbx : Below v13w.heap.size v13w v14w := by rw [← hW]; exact (Below.refl _ _).alloc (Nat.le_refl _) _
      have hox : v14w.ownsRow w1.heap.size 30 32 (.slice (some ⟨v13w.heap.size, 0, none⟩) 0 0) 0 [] := by rw [← hW]; exact owns_base2 (empty_own _) HBv13w.out.size
      have HOv14w := Lib.hid hox
      clear hox
      have HNv14w : Hid (∀ g, Value.ownBlock (.slice (some ⟨v13w.heap.size, 0, none⟩) 0 0) = some g → g ≠ wd.heap.size) := fun g e => by have h1 := HXv13w.out.lt; injection e with e; have e : v13w.heap.size = g := e; omega
      have HXv14w := Lib.hid (HXv13w.out.below hbx HXv13w.out.lt)
      have HBv14w := Lib.hid (HBv13w.out.trans (hbx.mono HBv13w.out.size))
      clear hbx hW
      refine wpAnyH_ready (rs := [4]) (by kernel_rfl) (by simp) ?_
      refine (AllReadyH.cons (o := ⟨some 22, _, _, _, _, _⟩) rfl (fun K hK => ?_) AllReadyH.nil)
      refine step_append_any _ (by rfl) (.tmp 18) (.tmp 21) _ (by rfl) w1.heap.size 30 i0 _ 32 32 Try.underlying28 HI0.out HZ0.out hz1 hz2 rfl (by omega) (.slice (some ⟨v13w.heap.size, 0, none⟩) 0 0) (0) ([]) (by rfl) HOv14w.out _ (some ⟨g, o, none⟩) (i) _ (keysOf (L.take i)) (by rfl) (HR1.out _ HBv14w.out) (keysOf_oneCell _) (by unfold maxLen; omega) (by omega) HBv14w.out.size ?_
      intro v3 v15w ho hg hat
      rw [Nat.zero_add, List.nil_append] at ho
      obtain ⟨Av15w, cv15w, rfl⟩ := own_form ho
      have hb1x : Below w1.heap.size w1 v15w := HBv14w.out.grown hg HBv14w.out.size (fun g e => (HOv14w.out.lt g e).1)
      have HOv15w := Lib.hid ho
      have HXv15w := Lib.hid (HXv14w.out.grown hg (fun e => HNv14w.out _ e.symm rfl))
      have HNv15w : Hid (∀ g, Value.ownBlock (.slice Av15w (i) cv15w) = some g → g ≠ wd.heap.size) := fun g e => by
        rcases hat with h | h
        · exact HNv14w.out g (h.symm.trans e)
        · have h1 := HXv14w.out.lt; rw [e] at h; injection h with h; omega
      have HBv15w := Lib.hid hb1x
      clear ho hg hat hb1x
      refine hK.out _ _ (by exact range_below (a := w1) (by first | exact HBv15w.out | exact below_al HBv15w.out _ | exact hb1x) hlk rra) (fun hHeld => ?_)
      clear hK K
      conv => arg 8; simp only [Act.put, List.setIfInBounds_toArray, List.set_cons_zero, List.set_cons_succ]
      refine wpAnyH_ready (rs := [9]) (by kernel_rfl) (by simp) ?_
      refine (AllReadyH.cons (o := ⟨some 27, _, _, _, _, _⟩) rfl (fun K hK => ?_) AllReadyH.nil)
      refine step_append_any _ (by rfl) (.tmp 22) (.tmp 26) _ (by rfl) w1.heap.size 30 i0 _ 32 32 Try.underlying28 HI0.out HZ0.out hz1 hz2 rfl (by omega) (.slice Av15w (i) cv15w) (i) (keysOf (L.take i)) (by rfl) HOv15w.out _ (some ⟨g, o + (i + 1) * 32, none⟩) (n - (i + 1)) _ (keysOf (L.drop (i + 1))) (by rfl) (HR2.out HNE.out _ HBv15w.out) (keysOf_oneCell _) (by unfold maxLen; omega) (by omega) HBv15w.out.size ?_
      intro v3 v16w ho hg hat
      skip
      obtain ⟨Av16w, cv16w, rfl⟩ := own_form ho
      have hb1x : Below w1.heap.size w1 v16w := HBv15w.out.grown hg HBv15w.out.size (fun g e => (HOv15w.out.lt g e).1)
      have HOv16w := Lib.hid ho
      have HXv16w := Lib.hid (HXv15w.out.grown hg (fun e => HNv15w.out _ e.symm rfl))
      have HNv16w : Hid (∀ g, Value.ownBlock (.slice Av16w (i + (n - (i + 1))) cv16w) = some g → g ≠ wd.heap.size) := fun g e => by
        rcases hat with h | h
        · exact HNv15w.out g (h.symm.trans e)
        · have h1 := HXv15w.out.lt; rw [e] at h; injection h with h; omega
      have HBv16w := Lib.hid hb1x
      clear ho hg hat hb1x
      refine hK.out _ _ (by exact range_below (a := w1) (by first | exact HBv16w.out | exact below_al HBv16w.out _ | exact hb1x) hlk rra) (fun hHeld => ?_)
      clear hK K
      conv => arg 8; simp only [Act.put, List.setIfInBounds_toArray, List.set_cons_zero, List.set_cons_succ]
      refine wpAnyH_ready (rs := [12]) (by kernel_rfl) (by simp) ?_
      refine (AllReadyH.cons (o := ⟨some 30, _, _, _, _, _⟩) rfl (fun K hK => ?_) AllReadyH.nil)
      refine step_append_any _ (by rfl) (.tmp 27) (.tmp 29) _ (by rfl) w1.heap.size 30 i0 _ 32 32 Try.underlying28 HI0.out HZ0.out hz1 hz2 rfl (by omega) (.slice Av16w (i + (n - (i + 1))) cv16w) (i + (n - (i + 1))) (keysOf (L.take i) ++ keysOf (L.drop (i + 1))) (by rfl) HOv16w.out _ (some ⟨wd.heap.size, 0, none⟩) (1) 1 (keysOf [k]) (by rfl) (reads_key HXv16w.out) (keysOf_oneCell _) (by unfold maxLen; omega) (by omega) HBv16w.out.size ?_
      intro v3 v17w ho hg hat
      skip
      obtain ⟨Av17w, cv17w, rfl⟩ := own_form ho
      have hb1x : Below w1.heap.size w1 v17w := HBv16w.out.grown hg HBv16w.out.size (fun g e => (HOv16w.out.lt g e).1)
      have HOv17w := Lib.hid ho
      have HBv17w := Lib.hid hb1x
      clear ho hg hat hb1x
      refine hK.out _ _ (by exact range_below (a := w1) (by first | exact HBv17w.out | exact below_al HBv17w.out _ | exact hb1x) hlk rra) (fun hHeld => ?_)
      clear hK K
      conv => arg 8; simp only [Act.put, List.setIfInBounds_toArray, List.set_cons_zero, List.set_cons_succ]
      refine wpAnyH_take (i := 13) (oi := ⟨some 6, _, _, _, _, _⟩) (v := ?_) rfl (by kernel_rfl) (by kernel_rfl) (by kernel_rfl) (fun _ _ _ h => h) (Or.inl ⟨by kernel_rfl, ?_⟩) hHeld ?_
      rotate_left
      · intro w hSw
        (try dsimp only at hSw)
        go_simp
        all_goals (with_reducible rfl)
      conv => arg 8; simp only [Act.put, List.setIfInBounds_toArray, List.set_cons_zero, List.set_cons_succ]
      refine wpAnyH_take (i := 14) (oi := ⟨some 7, _, _, _, _, _⟩) (v := ?_) rfl (by kernel_rfl) (by kernel_rfl) (by kernel_rfl) (fun _ _ _ h => h) (Or.inl ⟨by kernel_rfl, ?_⟩) hHeld ?_
      rotate_left
      · intro w hSw
        (try dsimp only at hSw)
        go_simp
        all_goals (with_reducible rfl)
      conv => arg 8; simp only [Act.put, List.setIfInBounds_toArray, List.set_cons_zero, List.set_cons_succ]
      refine wpAnyH_done (by kernel_rfl) ?_ _
      refine NoPanic.normal ?_
      go_wp2_with fail
      go_ret2
      have hl := lackT_len (List.getElem?_eq_getElem hil)
      have hn := HN.out
      have ho : v17w.ownsRow w1.heap.size 30 32 (.slice Av17w (i + (n - (i + 1)) + 1) cv17w) (lackT L i ++ [k]).length (keysOf (lackT L i ++ [k])) := by
        rw [keysOf_append, keysOf_lackT, show (lackT L i ++ [k]).length = i + (n - (i + 1)) + 1 by rw [List.length_append, List.length_singleton]; omega]
        exact HOv17w.out
      exact ⟨_, _, rfl, HB1.out.trans (HBv17w.out.mono hz1'), KL.of_own ho, .inr (fun g hg => Nat.le_trans hz1' (ho.lt g hg).1)⟩
  · obtain rfl : c = i + 1 := by omega
    obtain rfl : n = i + 1 := by omega
    have t1 : (i : Int) ≤ (i : Int) + 1 := by omega
    have t2 : (i : Int) < (i : Int) + 1 := by omega
    have g1 : IntKind.i64.wrap ((i : Int) + 1) = (i : Int) + 1 := IntWalk.i64_in _ (by omega)
    have p0 : (0 : Int) ≤ (i : Int) + 1 := by omega
    have p1 : ((i : Int) + 1).toNat = i + 1 := by omega
    have t0 : (0 : Int) ≤ (i : Int) := by omega
    clear hne
    go_upto_region 4 with (fail)
    have hu := Try.underlying30
    have hik := key_size k
    have rra := blk_range HK4.out
    have hlk := HK4.out.lt
    have q3 := isKy k
    refine wp_region_noPanic ?_
    refine wp_region_held_drew (S := fun w' => w'.rangeAt w.heap.size 0 (bytesOf 32 k)) (by kernel_rfl) rra (fun hHeld => ?_)
    refine wpAnyH_take (i := 1) (oi := ⟨some 19, _, _, _, _, _⟩) (v := ?_) rfl (by kernel_rfl) (by kernel_rfl) (by kernel_rfl) (fun _ _ _ h => h) (Or.inl ⟨by kernel_rfl, ?_⟩) hHeld ?_
    rotate_left
    · intro w hSw
      (try dsimp only at hSw)
      go_simp
      all_goals (with_reducible rfl)
    conv => arg 8; simp only [Act.put, List.setIfInBounds_toArray, List.set_cons_zero, List.set_cons_succ]
    refine wpAnyH_take (i := 2) (oi := ⟨some 20, _, _, _, _, _⟩) (v := ?_) rfl (by kernel_rfl) (by kernel_rfl) (by kernel_rfl) (fun _ _ _ h => h) (Or.inl ⟨by kernel_rfl, ?_⟩) hHeld ?_
    rotate_left
    · intro w hSw
      (try dsimp only at hSw)
      go_simp
      all_goals (with_reducible rfl)
    conv => arg 8; simp only [Act.put, List.setIfInBounds_toArray, List.set_cons_zero, List.set_cons_succ]
    refine wpAnyH_take (i := 3) (oi := ⟨some 21, _, _, _, _, _⟩) (v := ?_) rfl (by kernel_rfl) (by kernel_rfl) (by kernel_rfl) (fun _ _ _ h => h) (Or.inl ⟨by kernel_rfl, ?_⟩) hHeld ?_
    rotate_left
    · intro w hSw
      (try dsimp only at hSw)
      go_simp
      all_goals (with_reducible rfl)
    conv => arg 8; simp only [Act.put, List.setIfInBounds_toArray, List.set_cons_zero, List.set_cons_succ]
    refine wpAnyH_take (i := 5) (oi := ⟨some 23, _, _, _, _, _⟩) (v := ?_) rfl (by kernel_rfl) (by kernel_rfl) (by kernel_rfl) (fun _ _ _ h => h) (Or.inl ⟨by kernel_rfl, ?_⟩) hHeld ?_
    rotate_left
    · intro w hSw
      (try dsimp only at hSw)
      go_simp
      all_goals (with_reducible rfl)
    conv => arg 8; simp only [Act.put, List.setIfInBounds_toArray, List.set_cons_zero, List.set_cons_succ]
    refine wpAnyH_take (i := 6) (oi := ⟨some 24, _, _, _, _, _⟩) (v := ?_) rfl (by kernel_rfl) (by kernel_rfl) (by kernel_rfl) (fun _ _ _ h => h) (Or.inl ⟨by kernel_rfl, ?_⟩) hHeld ?_
    rotate_left
    · intro w hSw
      (try dsimp only at hSw)
      go_simp
      all_goals (with_reducible rfl)
    conv => arg 8; simp only [Act.put, List.setIfInBounds_toArray, List.set_cons_zero, List.set_cons_succ]
    refine wpAnyH_take (i := 7) (oi := ⟨some 25, _, _, _, _, _⟩) (v := ?_) rfl (by kernel_rfl) (by kernel_rfl) (by kernel_rfl) (fun _ _ _ h => h) (Or.inl ⟨by kernel_rfl, ?_⟩) hHeld ?_
    rotate_left
    · intro w hSw
      (try dsimp only at hSw)
      go_simp
      all_goals (with_reducible rfl)
    conv => arg 8; simp only [Act.put, List.setIfInBounds_toArray, List.set_cons_zero, List.set_cons_succ]
    refine wpAnyH_take (i := 8) (oi := ⟨some 26, _, _, _, _, _⟩) (v := ?_) rfl (by kernel_rfl) (by kernel_rfl) (by kernel_rfl) (fun _ _ _ h => h) (Or.inl ⟨by kernel_rfl, ?_⟩) hHeld ?_
    rotate_left
    · intro w hSw
      (try dsimp only at hSw)
      go_simp
      all_goals (with_reducible rfl)
    conv => arg 8; simp only [Act.put, List.setIfInBounds_toArray, List.set_cons_zero, List.set_cons_succ]
    refine wpAnyH_take (i := 10) (oi := ⟨some 28, _, _, _, _, _⟩) (v := _) rfl (by kernel_rfl) (by kernel_rfl) (by kernel_rfl) (fun _ _ _ h => h) (yieldsIf_load_mid (S := fun w' => w'.rangeAt w.heap.size 0 (bytesOf 32 k)) (by kernel_rfl) _ _ rfl _ _ rfl _ _ (fun w hSw => hSw) hu rfl hik) hHeld ?_
    conv => arg 8; simp only [Act.put, List.setIfInBounds_toArray, List.set_cons_zero, List.set_cons_succ]
    generalize hW : World.drew _ = wd at hHeld ⊢
    have hbd : Below w1.heap.size w1 wd := by rw [← hW]; exact belowDrewR (Below.refl _ _)
    have HBD := Lib.hid hbd
    clear hbd hW
    refine wpAnyH_ready (rs := [0, 11]) (by kernel_rfl) (by simp) ?_
    refine (AllReadyH.cons (o := ⟨some 18, _, _, _, _, _⟩) rfl (fun K hK => ?_) (AllReadyH.cons (o := ⟨some 29, _, _, _, _, _⟩) rfl (fun K hK => ?_) AllReadyH.nil))
    · go_simp
      refine hK.out _ _ (by exact range_below (a := w1) (by first | exact HBD.out | exact below_al HBD.out _ | exact hb1x) hlk rra) (fun hHeld => ?_)
      clear hK K
      conv => arg 8; simp only [Act.put, List.setIfInBounds_toArray, List.set_cons_zero, List.set_cons_succ]
      generalize hW : World.alloc _ _ = v1w at hHeld ⊢
      have hbx : Below wd.heap.size wd v1w := by rw [← hW]; exact (Below.refl _ _).alloc (Nat.le_refl _) _
      have hox : v1w.ownsRow w1.heap.size 30 32 (.slice (some ⟨wd.heap.size, 0, none⟩) 0 0) 0 [] := by rw [← hW]; exact owns_base2 (empty_own _) HBD.out.size
      have HOv1w := Lib.hid hox
      clear hox
      have HBv1w := Lib.hid (HBD.out.trans (hbx.mono HBD.out.size))
      clear hbx hW
      refine wpAnyH_ready (rs := [4, 11]) (by kernel_rfl) (by simp) ?_
      refine (AllReadyH.cons (o := ⟨some 22, _, _, _, _, _⟩) rfl (fun K hK => ?_) (AllReadyH.cons (o := ⟨some 29, _, _, _, _, _⟩) rfl (fun K hK => ?_) AllReadyH.nil))
      · refine step_append_any _ (by rfl) (.tmp 18) (.tmp 21) _ (by rfl) w1.heap.size 30 i0 _ 32 32 Try.underlying28 HI0.out HZ0.out hz1 hz2 rfl (by omega) (.slice (some ⟨wd.heap.size, 0, none⟩) 0 0) (0) ([]) (by rfl) HOv1w.out _ (some ⟨g, o, none⟩) (i) _ (keysOf (L.take i)) (by rfl) (HR1.out _ HBv1w.out) (keysOf_oneCell _) (by unfold maxLen; omega) (by omega) HBv1w.out.size ?_
        intro v3 v2w ho hg hat
        rw [Nat.zero_add, List.nil_append] at ho
        obtain ⟨Av2w, cv2w, rfl⟩ := own_form ho
        have hb1x : Below w1.heap.size w1 v2w := HBv1w.out.grown hg HBv1w.out.size (fun g e => (HOv1w.out.lt g e).1)
        have HOv2w := Lib.hid ho
        have HBv2w := Lib.hid hb1x
        clear ho hg hat hb1x
        refine hK.out _ _ (by exact range_below (a := w1) (by first | exact HBv2w.out | exact below_al HBv2w.out _ | exact hb1x) hlk rra) (fun hHeld => ?_)
        clear hK K
        conv => arg 8; simp only [Act.put, List.setIfInBounds_toArray, List.set_cons_zero, List.set_cons_succ]
        refine wpAnyH_ready (rs := [9, 11]) (by kernel_rfl) (by simp) ?_
        refine (AllReadyH.cons (o := ⟨some 27, _, _, _, _, _⟩) rfl (fun K hK => ?_) (AllReadyH.cons (o := ⟨some 29, _, _, _, _, _⟩) rfl (fun K hK => ?_) AllReadyH.nil))
        · refine step_append_any _ (by rfl) (.tmp 22) (.tmp 26) _ (by rfl) w1.heap.size 30 i0 _ 32 32 Try.underlying28 HI0.out HZ0.out hz1 hz2 rfl (by omega) (.slice Av2w (i) cv2w) (i) (keysOf (L.take i)) (by rfl) HOv2w.out _ (some ⟨g, o, none⟩) (0) 0 ([]) (by rfl) (Reads.none_ (B := 0) (A := some ⟨g, o, none⟩)) (by simp) (by unfold maxLen; omega) (by omega) HBv2w.out.size ?_
          intro v3 v3w ho hg hat
          rw [Nat.add_zero, List.append_nil] at ho
          obtain ⟨Av3w, cv3w, rfl⟩ := own_form ho
          have hb1x : Below w1.heap.size w1 v3w := HBv2w.out.grown hg HBv2w.out.size (fun g e => (HOv2w.out.lt g e).1)
          have HOv3w := Lib.hid ho
          have HBv3w := Lib.hid hb1x
          clear ho hg hat hb1x
          refine hK.out _ _ (by exact range_below (a := w1) (by first | exact HBv3w.out | exact below_al HBv3w.out _ | exact hb1x) hlk rra) (fun hHeld => ?_)
          clear hK K
          conv => arg 8; simp only [Act.put, List.setIfInBounds_toArray, List.set_cons_zero, List.set_cons_succ]
          refine wpAnyH_ready (rs := [11]) (by kernel_rfl) (by simp) ?_
          refine (AllReadyH.cons (o := ⟨some 29, _, _, _, _, _⟩) rfl (fun K hK => ?_) AllReadyH.nil)
          go_simp
          refine hK.out _ _ (by exact range_below (a := w1) (by first | exact HBv3w.out | exact below_al HBv3w.out _ | exact hb1x) hlk rra) (fun hHeld => ?_)
          clear hK K
          conv => arg 8; simp only [Act.put, List.setIfInBounds_toArray, List.set_cons_zero, List.set_cons_succ]
          generalize hW : World.alloc _ _ = v4w at hHeld ⊢
          have hbx : Below v3w.heap.size v3w v4w := by rw [← hW]; exact (Below.refl _ _).alloc (Nat.le_refl _) _
          have hxx : Blk v4w v3w.heap.size 30 (bytesOf 32 k).toArray := by rw [← hW]; exact heap_alloc_new _ _
          have HXv4w := Lib.hid hxx
          clear hxx
          have HNv4w : Hid (∀ g, Value.ownBlock (.slice Av3w (i) cv3w) = some g → g ≠ v3w.heap.size) := fun g e => Nat.ne_of_lt (HOv3w.out.lt g e).2
          have HOv4w := Lib.hid (owns_below HOv3w.out hbx)
          have HBv4w := Lib.hid (HBv3w.out.trans (hbx.mono HBv3w.out.size))
          clear hbx hW
          refine wpAnyH_ready (rs := [12]) (by kernel_rfl) (by simp) ?_
          refine (AllReadyH.cons (o := ⟨some 30, _, _, _, _, _⟩) rfl (fun K hK => ?_) AllReadyH.nil)
          refine step_append_any _ (by rfl) (.tmp 27) (.tmp 29) _ (by rfl) w1.heap.size 30 i0 _ 32 32 Try.underlying28 HI0.out HZ0.out hz1 hz2 rfl (by omega) (.slice Av3w (i) cv3w) (i) (keysOf (L.take i)) (by rfl) HOv4w.out _ (some ⟨v3w.heap.size, 0, none⟩) (1) 1 (keysOf [k]) (by rfl) (reads_key HXv4w.out) (keysOf_oneCell _) (by unfold maxLen; omega) (by omega) HBv4w.out.size ?_
          intro v3 v5w ho hg hat
          skip
          obtain ⟨Av5w, cv5w, rfl⟩ := own_form ho
          have hb1x : Below w1.heap.size w1 v5w := HBv4w.out.grown hg HBv4w.out.size (fun g e => (HOv4w.out.lt g e).1)
          have HOv5w := Lib.hid ho
          have HBv5w := Lib.hid hb1x
          clear ho hg hat hb1x
          refine hK.out _ _ (by exact range_below (a := w1) (by first | exact HBv5w.out | exact below_al HBv5w.out _ | exact hb1x) hlk rra) (fun hHeld => ?_)
          clear hK K
          conv => arg 8; simp only [Act.put, List.setIfInBounds_toArray, List.set_cons_zero, List.set_cons_succ]
          refine wpAnyH_take (i := 13) (oi := ⟨some 6, _, _, _, _, _⟩) (v := ?_) rfl (by kernel_rfl) (by kernel_rfl) (by kernel_rfl) (fun _ _ _ h => h) (Or.inl ⟨by kernel_rfl, ?_⟩) hHeld ?_
          rotate_left
          · intro w hSw
            (try dsimp only at hSw)
            go_simp
            all_goals (with_reducible rfl)
          conv => arg 8; simp only [Act.put, List.setIfInBounds_toArray, List.set_cons_zero, List.set_cons_succ]
          refine wpAnyH_take (i := 14) (oi := ⟨some 7, _, _, _, _, _⟩) (v := ?_) rfl (by kernel_rfl) (by kernel_rfl) (by kernel_rfl) (fun _ _ _ h => h) (Or.inl ⟨by kernel_rfl, ?_⟩) hHeld ?_
          rotate_left
          · intro w hSw
            (try dsimp only at hSw)
            go_simp
            all_goals (with_reducible rfl)
          conv => arg 8; simp only [Act.put, List.setIfInBounds_toArray, List.set_cons_zero, List.set_cons_succ]
          refine wpAnyH_done (by kernel_rfl) ?_ _
          refine NoPanic.normal ?_
          go_wp2_with fail
          go_ret2
          have hl := lackT_len (List.getElem?_eq_getElem hil)
          have hn := HN.out
          have ho : v5w.ownsRow w1.heap.size 30 32 (.slice Av5w (i + 1) cv5w) (lackT L i ++ [k]).length (keysOf (lackT L i ++ [k])) := by
            rw [keysOf_append, keysOf_lackT, show (lackT L i ++ [k]).length = i + 1 by rw [List.length_append, List.length_singleton]; omega]
            rw [hee.out (by first | rfl | trivial)]; simpa [keysOf, List.append_assoc] using HOv5w.out
          exact ⟨_, _, rfl, HB1.out.trans (HBv5w.out.mono hz1'), KL.of_own ho, .inr (fun g hg => Nat.le_trans hz1' (ho.lt g hg).1)⟩
        · go_simp
          refine hK.out _ _ (by exact range_below (a := w1) (by first | exact HBv2w.out | exact below_al HBv2w.out _ | exact hb1x) hlk rra) (fun hHeld => ?_)
          clear hK K
          conv => arg 8; simp only [Act.put, List.setIfInBounds_toArray, List.set_cons_zero, List.set_cons_succ]
          generalize hW : World.alloc _ _ = v6w at hHeld ⊢
          have hbx : Below v2w.heap.size v2w v6w := by rw [← hW]; exact (Below.refl _ _).alloc (Nat.le_refl _) _
          have hxx : Blk v6w v2w.heap.size 30 (bytesOf 32 k).toArray := by rw [← hW]; exact heap_alloc_new _ _
          have HXv6w := Lib.hid hxx
          clear hxx
          have HNv6w : Hid (∀ g, Value.ownBlock (.slice Av2w (i) cv2w) = some g → g ≠ v2w.heap.size) := fun g e => Nat.ne_of_lt (HOv2w.out.lt g e).2
          have HOv6w := Lib.hid (owns_below HOv2w.out hbx)
          have HBv6w := Lib.hid (HBv2w.out.trans (hbx.mono HBv2w.out.size))
          clear hbx hW
          refine wpAnyH_ready (rs := [9]) (by kernel_rfl) (by simp) ?_
          refine (AllReadyH.cons (o := ⟨some 27, _, _, _, _, _⟩) rfl (fun K hK => ?_) AllReadyH.nil)
          refine step_append_any _ (by rfl) (.tmp 22) (.tmp 26) _ (by rfl) w1.heap.size 30 i0 _ 32 32 Try.underlying28 HI0.out HZ0.out hz1 hz2 rfl (by omega) (.slice Av2w (i) cv2w) (i) (keysOf (L.take i)) (by rfl) HOv6w.out _ (some ⟨g, o, none⟩) (0) 0 ([]) (by rfl) (Reads.none_ (B := 0) (A := some ⟨g, o, none⟩)) (by simp) (by unfold maxLen; omega) (by omega) HBv6w.out.size ?_
          intro v3 v7w ho hg hat
          rw [Nat.add_zero, List.append_nil] at ho
          obtain ⟨Av7w, cv7w, rfl⟩ := own_form ho
          have hb1x : Below w1.heap.size w1 v7w := HBv6w.out.grown hg HBv6w.out.size (fun g e => (HOv6w.out.lt g e).1)
          have HOv7w := Lib.hid ho
          have HXv7w := Lib.hid (HXv6w.out.grown hg (fun e => HNv6w.out _ e.symm rfl))
          have HNv7w : Hid (∀ g, Value.ownBlock (.slice Av7w (i) cv7w) = some g → g ≠ v2w.heap.size) := fun g e => by
            rcases hat with h | h
            · exact HNv6w.out g (h.symm.trans e)
            · have h1 := HXv6w.out.lt; rw [e] at h; injection h with h; omega
          have HBv7w := Lib.hid hb1x
          clear ho hg hat hb1x
          refine hK.out _ _ (by exact range_below (a := w1) (by first | exact HBv7w.out | exact below_al HBv7w.out _ | exact hb1x) hlk rra) (fun hHeld => ?_)
          clear hK K
          conv => arg 8; simp only [Act.put, List.setIfInBounds_toArray, List.set_cons_zero, List.set_cons_succ]
          refine wpAnyH_ready (rs := [12]) (by kernel_rfl) (by simp) ?_
          refine (AllReadyH.cons (o := ⟨some 30, _, _, _, _, _⟩) rfl (fun K hK => ?_) AllReadyH.nil)
          refine step_append_any _ (by rfl) (.tmp 27) (.tmp 29) _ (by rfl) w1.heap.size 30 i0 _ 32 32 Try.underlying28 HI0.out HZ0.out hz1 hz2 rfl (by omega) (.slice Av7w (i) cv7w) (i) (keysOf (L.take i)) (by rfl) HOv7w.out _ (some ⟨v2w.heap.size, 0, none⟩) (1) 1 (keysOf [k]) (by rfl) (reads_key HXv7w.out) (keysOf_oneCell _) (by unfold maxLen; omega) (by omega) HBv7w.out.size ?_
          intro v3 v8w ho hg hat
          skip
          obtain ⟨Av8w, cv8w, rfl⟩ := own_form ho
          have hb1x : Below w1.heap.size w1 v8w := HBv7w.out.grown hg HBv7w.out.size (fun g e => (HOv7w.out.lt g e).1)
          have HOv8w := Lib.hid ho
          have HBv8w := Lib.hid hb1x
          clear ho hg hat hb1x
          refine hK.out _ _ (by exact range_below (a := w1) (by first | exact HBv8w.out | exact below_al HBv8w.out _ | exact hb1x) hlk rra) (fun hHeld => ?_)
          clear hK K
          conv => arg 8; simp only [Act.put, List.setIfInBounds_toArray, List.set_cons_zero, List.set_cons_succ]
          refine wpAnyH_take (i := 13) (oi := ⟨some 6, _, _, _, _, _⟩) (v := ?_) rfl (by kernel_rfl) (by kernel_rfl) (by kernel_rfl) (fun _ _ _ h => h) (Or.inl ⟨by kernel_rfl, ?_⟩) hHeld ?_
          rotate_left
          · intro w hSw
            (try dsimp only at hSw)
            go_simp
            all_goals (with_reducible rfl)
          conv => arg 8; simp only [Act.put, List.setIfInBounds_toArray, List.set_cons_zero, List.set_cons_succ]
          refine wpAnyH_take (i := 14) (oi := ⟨some 7, _, _, _, _, _⟩) (v := ?_) rfl (by kernel_rfl) (by kernel_rfl) (by kernel_rfl) (fun _ _ _ h => h) (Or.inl ⟨by kernel_rfl, ?_⟩) hHeld ?_
          rotate_left
          · intro w hSw
            (try dsimp only at hSw)
            go_simp
            all_goals (with_reducible rfl)
          conv => arg 8; simp only [Act.put, List.setIfInBounds_toArray, List.set_cons_zero, List.set_cons_succ]
          refine wpAnyH_done (by kernel_rfl) ?_ _
          refine NoPanic.normal ?_
          go_wp2_with fail
          go_ret2
          have hl := lackT_len (List.getElem?_eq_getElem hil)
          have hn := HN.out
          have ho : v8w.ownsRow w1.heap.size 30 32 (.slice Av8w (i + 1) cv8w) (lackT L i ++ [k]).length (keysOf (lackT L i ++ [k])) := by
            rw [keysOf_append, keysOf_lackT, show (lackT L i ++ [k]).length = i + 1 by rw [List.length_append, List.length_singleton]; omega]
            rw [hee.out (by first | rfl | trivial)]; simpa [keysOf, List.append_assoc] using HOv8w.out
          exact ⟨_, _, rfl, HB1.out.trans (HBv8w.out.mono hz1'), KL.of_own ho, .inr (fun g hg => Nat.le_trans hz1' (ho.lt g hg).1)⟩
      · go_simp
        refine hK.out _ _ (by exact range_below (a := w1) (by first | exact HBv1w.out | exact below_al HBv1w.out _ | exact hb1x) hlk rra) (fun hHeld => ?_)
        clear hK K
        conv => arg 8; simp only [Act.put, List.setIfInBounds_toArray, List.set_cons_zero, List.set_cons_succ]
        generalize hW : World.alloc _ _ = v9w at hHeld ⊢
        have hbx : Below v1w.heap.size v1w v9w := by rw [← hW]; exact (Below.refl _ _).alloc (Nat.le_refl _) _
        have hxx : Blk v9w v1w.heap.size 30 (bytesOf 32 k).toArray := by rw [← hW]; exact heap_alloc_new _ _
        have HXv9w := Lib.hid hxx
        clear hxx
        have HNv9w : Hid (∀ g, Value.ownBlock (.slice (some ⟨wd.heap.size, 0, none⟩) 0 0) = some g → g ≠ v1w.heap.size) := fun g e => Nat.ne_of_lt (HOv1w.out.lt g e).2
        have HOv9w := Lib.hid (owns_below HOv1w.out hbx)
        have HBv9w := Lib.hid (HBv1w.out.trans (hbx.mono HBv1w.out.size))
        clear hbx hW
        refine wpAnyH_ready (rs := [4]) (by kernel_rfl) (by simp) ?_
        refine (AllReadyH.cons (o := ⟨some 22, _, _, _, _, _⟩) rfl (fun K hK => ?_) AllReadyH.nil)
        refine step_append_any _ (by rfl) (.tmp 18) (.tmp 21) _ (by rfl) w1.heap.size 30 i0 _ 32 32 Try.underlying28 HI0.out HZ0.out hz1 hz2 rfl (by omega) (.slice (some ⟨wd.heap.size, 0, none⟩) 0 0) (0) ([]) (by rfl) HOv9w.out _ (some ⟨g, o, none⟩) (i) _ (keysOf (L.take i)) (by rfl) (HR1.out _ HBv9w.out) (keysOf_oneCell _) (by unfold maxLen; omega) (by omega) HBv9w.out.size ?_
        intro v3 v10w ho hg hat
        rw [Nat.zero_add, List.nil_append] at ho
        obtain ⟨Av10w, cv10w, rfl⟩ := own_form ho
        have hb1x : Below w1.heap.size w1 v10w := HBv9w.out.grown hg HBv9w.out.size (fun g e => (HOv9w.out.lt g e).1)
        have HOv10w := Lib.hid ho
        have HXv10w := Lib.hid (HXv9w.out.grown hg (fun e => HNv9w.out _ e.symm rfl))
        have HNv10w : Hid (∀ g, Value.ownBlock (.slice Av10w (i) cv10w) = some g → g ≠ v1w.heap.size) := fun g e => by
          rcases hat with h | h
          · exact HNv9w.out g (h.symm.trans e)
          · have h1 := HXv9w.out.lt; rw [e] at h; injection h with h; omega
        have HBv10w := Lib.hid hb1x
        clear ho hg hat hb1x
        refine hK.out _ _ (by exact range_below (a := w1) (by first | exact HBv10w.out | exact below_al HBv10w.out _ | exact hb1x) hlk rra) (fun hHeld => ?_)
        clear hK K
        conv => arg 8; simp only [Act.put, List.setIfInBounds_toArray, List.set_cons_zero, List.set_cons_succ]
        refine wpAnyH_ready (rs := [9]) (by kernel_rfl) (by simp) ?_
        refine (AllReadyH.cons (o := ⟨some 27, _, _, _, _, _⟩) rfl (fun K hK => ?_) AllReadyH.nil)
        refine step_append_any _ (by rfl) (.tmp 22) (.tmp 26) _ (by rfl) w1.heap.size 30 i0 _ 32 32 Try.underlying28 HI0.out HZ0.out hz1 hz2 rfl (by omega) (.slice Av10w (i) cv10w) (i) (keysOf (L.take i)) (by rfl) HOv10w.out _ (some ⟨g, o, none⟩) (0) 0 ([]) (by rfl) (Reads.none_ (B := 0) (A := some ⟨g, o, none⟩)) (by simp) (by unfold maxLen; omega) (by omega) HBv10w.out.size ?_
        intro v3 v11w ho hg hat
        rw [Nat.add_zero, List.append_nil] at ho
        obtain ⟨Av11w, cv11w, rfl⟩ := own_form ho
        have hb1x : Below w1.heap.size w1 v11w := HBv10w.out.grown hg HBv10w.out.size (fun g e => (HOv10w.out.lt g e).1)
        have HOv11w := Lib.hid ho
        have HXv11w := Lib.hid (HXv10w.out.grown hg (fun e => HNv10w.out _ e.symm rfl))
        have HNv11w : Hid (∀ g, Value.ownBlock (.slice Av11w (i) cv11w) = some g → g ≠ v1w.heap.size) := fun g e => by
          rcases hat with h | h
          · exact HNv10w.out g (h.symm.trans e)
          · have h1 := HXv10w.out.lt; rw [e] at h; injection h with h; omega
        have HBv11w := Lib.hid hb1x
        clear ho hg hat hb1x
        refine hK.out _ _ (by exact range_below (a := w1) (by first | exact HBv11w.out | exact below_al HBv11w.out _ | exact hb1x) hlk rra) (fun hHeld => ?_)
        clear hK K
        conv => arg 8; simp only [Act.put, List.setIfInBounds_toArray, List.set_cons_zero, List.set_cons_succ]
        refine wpAnyH_ready (rs := [12]) (by kernel_rfl) (by simp) ?_
        refine (AllReadyH.cons (o := ⟨some 30, _, _, _, _, _⟩) rfl (fun K hK => ?_) AllReadyH.nil)
        refine step_append_any _ (by rfl) (.tmp 27) (.tmp 29) _ (by rfl) w1.heap.size 30 i0 _ 32 32 Try.underlying28 HI0.out HZ0.out hz1 hz2 rfl (by omega) (.slice Av11w (i) cv11w) (i) (keysOf (L.take i)) (by rfl) HOv11w.out _ (some ⟨v1w.heap.size, 0, none⟩) (1) 1 (keysOf [k]) (by rfl) (reads_key HXv11w.out) (keysOf_oneCell _) (by unfold maxLen; omega) (by omega) HBv11w.out.size ?_
        intro v3 v12w ho hg hat
        skip
        obtain ⟨Av12w, cv12w, rfl⟩ := own_form ho
        have hb1x : Below w1.heap.size w1 v12w := HBv11w.out.grown hg HBv11w.out.size (fun g e => (HOv11w.out.lt g e).1)
        have HOv12w := Lib.hid ho
        have HBv12w := Lib.hid hb1x
        clear ho hg hat hb1x
        refine hK.out _ _ (by exact range_below (a := w1) (by first | exact HBv12w.out | exact below_al HBv12w.out _ | exact hb1x) hlk rra) (fun hHeld => ?_)
        clear hK K
        conv => arg 8; simp only [Act.put, List.setIfInBounds_toArray, List.set_cons_zero, List.set_cons_succ]
        refine wpAnyH_take (i := 13) (oi := ⟨some 6, _, _, _, _, _⟩) (v := ?_) rfl (by kernel_rfl) (by kernel_rfl) (by kernel_rfl) (fun _ _ _ h => h) (Or.inl ⟨by kernel_rfl, ?_⟩) hHeld ?_
        rotate_left
        · intro w hSw
          (try dsimp only at hSw)
          go_simp
          all_goals (with_reducible rfl)
        conv => arg 8; simp only [Act.put, List.setIfInBounds_toArray, List.set_cons_zero, List.set_cons_succ]
        refine wpAnyH_take (i := 14) (oi := ⟨some 7, _, _, _, _, _⟩) (v := ?_) rfl (by kernel_rfl) (by kernel_rfl) (by kernel_rfl) (fun _ _ _ h => h) (Or.inl ⟨by kernel_rfl, ?_⟩) hHeld ?_
        rotate_left
        · intro w hSw
          (try dsimp only at hSw)
          go_simp
          all_goals (with_reducible rfl)
        conv => arg 8; simp only [Act.put, List.setIfInBounds_toArray, List.set_cons_zero, List.set_cons_succ]
        refine wpAnyH_done (by kernel_rfl) ?_ _
        refine NoPanic.normal ?_
        go_wp2_with fail
        go_ret2
        have hl := lackT_len (List.getElem?_eq_getElem hil)
        have hn := HN.out
        have ho : v12w.ownsRow w1.heap.size 30 32 (.slice Av12w (i + 1) cv12w) (lackT L i ++ [k]).length (keysOf (lackT L i ++ [k])) := by
          rw [keysOf_append, keysOf_lackT, show (lackT L i ++ [k]).length = i + 1 by rw [List.length_append, List.length_singleton]; omega]
          rw [hee.out (by first | rfl | trivial)]; simpa [keysOf, List.append_assoc] using HOv12w.out
        exact ⟨_, _, rfl, HB1.out.trans (HBv12w.out.mono hz1'), KL.of_own ho, .inr (fun g hg => Nat.le_trans hz1' (ho.lt g hg).1)⟩
    · go_simp
      refine hK.out _ _ (by exact range_below (a := w1) (by first | exact HBD.out | exact below_al HBD.out _ | exact hb1x) hlk rra) (fun hHeld => ?_)
      clear hK K
      conv => arg 8; simp only [Act.put, List.setIfInBounds_toArray, List.set_cons_zero, List.set_cons_succ]
      generalize hW : World.alloc _ _ = v13w at hHeld ⊢
      have hbx : Below wd.heap.size wd v13w := by rw [← hW]; exact (Below.refl _ _).alloc (Nat.le_refl _) _
      have hxx : Blk v13w wd.heap.size 30 (bytesOf 32 k).toArray := by rw [← hW]; exact heap_alloc_new _ _
      have HXv13w := Lib.hid hxx
      clear hxx
      have HBv13w := Lib.hid (HBD.out.trans (hbx.mono HBD.out.size))
      clear hbx hW
      refine wpAnyH_ready (rs := [0]) (by kernel_rfl) (by simp) ?_
      refine (AllReadyH.cons (o := ⟨some 18, _, _, _, _, _⟩) rfl (fun K hK => ?_) AllReadyH.nil)
      go_simp
      refine hK.out _ _ (by exact range_below (a := w1) (by first | exact HBv13w.out | exact below_al HBv13w.out _ | exact hb1x) hlk rra) (fun hHeld => ?_)
      clear hK K
      conv => arg 8; simp only [Act.put, List.setIfInBounds_toArray, List.set_cons_zero, List.set_cons_succ]
      generalize hW : World.alloc _ _ = v14w at hHeld ⊢
      have hbx : Below v13w.heap.size v13w v14w := by rw [← hW]; exact (Below.refl _ _).alloc (Nat.le_refl _) _
      have hox : v14w.ownsRow w1.heap.size 30 32 (.slice (some ⟨v13w.heap.size, 0, none⟩) 0 0) 0 [] := by rw [← hW]; exact owns_base2 (empty_own _) HBv13w.out.size
      have HOv14w := Lib.hid hox
      clear hox
      have HNv14w : Hid (∀ g, Value.ownBlock (.slice (some ⟨v13w.heap.size, 0, none⟩) 0 0) = some g → g ≠ wd.heap.size) := fun g e => by have h1 := HXv13w.out.lt; injection e with e; have e : v13w.heap.size = g := e; omega
      have HXv14w := Lib.hid (HXv13w.out.below hbx HXv13w.out.lt)
      have HBv14w := Lib.hid (HBv13w.out.trans (hbx.mono HBv13w.out.size))
      clear hbx hW
      refine wpAnyH_ready (rs := [4]) (by kernel_rfl) (by simp) ?_
      refine (AllReadyH.cons (o := ⟨some 22, _, _, _, _, _⟩) rfl (fun K hK => ?_) AllReadyH.nil)
      refine step_append_any _ (by rfl) (.tmp 18) (.tmp 21) _ (by rfl) w1.heap.size 30 i0 _ 32 32 Try.underlying28 HI0.out HZ0.out hz1 hz2 rfl (by omega) (.slice (some ⟨v13w.heap.size, 0, none⟩) 0 0) (0) ([]) (by rfl) HOv14w.out _ (some ⟨g, o, none⟩) (i) _ (keysOf (L.take i)) (by rfl) (HR1.out _ HBv14w.out) (keysOf_oneCell _) (by unfold maxLen; omega) (by omega) HBv14w.out.size ?_
      intro v3 v15w ho hg hat
      rw [Nat.zero_add, List.nil_append] at ho
      obtain ⟨Av15w, cv15w, rfl⟩ := own_form ho
      have hb1x : Below w1.heap.size w1 v15w := HBv14w.out.grown hg HBv14w.out.size (fun g e => (HOv14w.out.lt g e).1)
      have HOv15w := Lib.hid ho
      have HXv15w := Lib.hid (HXv14w.out.grown hg (fun e => HNv14w.out _ e.symm rfl))
      have HNv15w : Hid (∀ g, Value.ownBlock (.slice Av15w (i) cv15w) = some g → g ≠ wd.heap.size) := fun g e => by
        rcases hat with h | h
        · exact HNv14w.out g (h.symm.trans e)
        · have h1 := HXv14w.out.lt; rw [e] at h; injection h with h; omega
      have HBv15w := Lib.hid hb1x
      clear ho hg hat hb1x
      refine hK.out _ _ (by exact range_below (a := w1) (by first | exact HBv15w.out | exact below_al HBv15w.out _ | exact hb1x) hlk rra) (fun hHeld => ?_)
      clear hK K
      conv => arg 8; simp only [Act.put, List.setIfInBounds_toArray, List.set_cons_zero, List.set_cons_succ]
      refine wpAnyH_ready (rs := [9]) (by kernel_rfl) (by simp) ?_
      refine (AllReadyH.cons (o := ⟨some 27, _, _, _, _, _⟩) rfl (fun K hK => ?_) AllReadyH.nil)
      refine step_append_any _ (by rfl) (.tmp 22) (.tmp 26) _ (by rfl) w1.heap.size 30 i0 _ 32 32 Try.underlying28 HI0.out HZ0.out hz1 hz2 rfl (by omega) (.slice Av15w (i) cv15w) (i) (keysOf (L.take i)) (by rfl) HOv15w.out _ (some ⟨g, o, none⟩) (0) 0 ([]) (by rfl) (Reads.none_ (B := 0) (A := some ⟨g, o, none⟩)) (by simp) (by unfold maxLen; omega) (by omega) HBv15w.out.size ?_
      intro v3 v16w ho hg hat
      rw [Nat.add_zero, List.append_nil] at ho
      obtain ⟨Av16w, cv16w, rfl⟩ := own_form ho
      have hb1x : Below w1.heap.size w1 v16w := HBv15w.out.grown hg HBv15w.out.size (fun g e => (HOv15w.out.lt g e).1)
      have HOv16w := Lib.hid ho
      have HXv16w := Lib.hid (HXv15w.out.grown hg (fun e => HNv15w.out _ e.symm rfl))
      have HNv16w : Hid (∀ g, Value.ownBlock (.slice Av16w (i) cv16w) = some g → g ≠ wd.heap.size) := fun g e => by
        rcases hat with h | h
        · exact HNv15w.out g (h.symm.trans e)
        · have h1 := HXv15w.out.lt; rw [e] at h; injection h with h; omega
      have HBv16w := Lib.hid hb1x
      clear ho hg hat hb1x
      refine hK.out _ _ (by exact range_below (a := w1) (by first | exact HBv16w.out | exact below_al HBv16w.out _ | exact hb1x) hlk rra) (fun hHeld => ?_)
      clear hK K
      conv => arg 8; simp only [Act.put, List.setIfInBounds_toArray, List.set_cons_zero, List.set_cons_succ]
      refine wpAnyH_ready (rs := [12]) (by kernel_rfl) (by simp) ?_
      refine (AllReadyH.cons (o := ⟨some 30, _, _, _, _, _⟩) rfl (fun K hK => ?_) AllReadyH.nil)
      refine step_append_any _ (by rfl) (.tmp 27) (.tmp 29) _ (by rfl) w1.heap.size 30 i0 _ 32 32 Try.underlying28 HI0.out HZ0.out hz1 hz2 rfl (by omega) (.slice Av16w (i) cv16w) (i) (keysOf (L.take i)) (by rfl) HOv16w.out _ (some ⟨wd.heap.size, 0, none⟩) (1) 1 (keysOf [k]) (by rfl) (reads_key HXv16w.out) (keysOf_oneCell _) (by unfold maxLen; omega) (by omega) HBv16w.out.size ?_
      intro v3 v17w ho hg hat
      skip
      obtain ⟨Av17w, cv17w, rfl⟩ := own_form ho
      have hb1x : Below w1.heap.size w1 v17w := HBv16w.out.grown hg HBv16w.out.size (fun g e => (HOv16w.out.lt g e).1)
      have HOv17w := Lib.hid ho
      have HBv17w := Lib.hid hb1x
      clear ho hg hat hb1x
      refine hK.out _ _ (by exact range_below (a := w1) (by first | exact HBv17w.out | exact below_al HBv17w.out _ | exact hb1x) hlk rra) (fun hHeld => ?_)
      clear hK K
      conv => arg 8; simp only [Act.put, List.setIfInBounds_toArray, List.set_cons_zero, List.set_cons_succ]
      refine wpAnyH_take (i := 13) (oi := ⟨some 6, _, _, _, _, _⟩) (v := ?_) rfl (by kernel_rfl) (by kernel_rfl) (by kernel_rfl) (fun _ _ _ h => h) (Or.inl ⟨by kernel_rfl, ?_⟩) hHeld ?_
      rotate_left
      · intro w hSw
        (try dsimp only at hSw)
        go_simp
        all_goals (with_reducible rfl)
      conv => arg 8; simp only [Act.put, List.setIfInBounds_toArray, List.set_cons_zero, List.set_cons_succ]
      refine wpAnyH_take (i := 14) (oi := ⟨some 7, _, _, _, _, _⟩) (v := ?_) rfl (by kernel_rfl) (by kernel_rfl) (by kernel_rfl) (fun _ _ _ h => h) (Or.inl ⟨by kernel_rfl, ?_⟩) hHeld ?_
      rotate_left
      · intro w hSw
        (try dsimp only at hSw)
        go_simp
        all_goals (with_reducible rfl)
      conv => arg 8; simp only [Act.put, List.setIfInBounds_toArray, List.set_cons_zero, List.set_cons_succ]
      refine wpAnyH_done (by kernel_rfl) ?_ _
      refine NoPanic.normal ?_
      go_wp2_with fail
      go_ret2
      have hl := lackT_len (List.getElem?_eq_getElem hil)
      have hn := HN.out
      have ho : v17w.ownsRow w1.heap.size 30 32 (.slice Av17w (i + 1) cv17w) (lackT L i ++ [k]).length (keysOf (lackT L i ++ [k])) := by
        rw [keysOf_append, keysOf_lackT, show (lackT L i ++ [k]).length = i + 1 by rw [List.length_append, List.length_singleton]; omega]
        rw [hee.out (by first | rfl | trivial)]; simpa [keysOf, List.append_assoc] using HOv17w.out
      exact ⟨_, _, rfl, HB1.out.trans (HBv17w.out.mono hz1'), KL.of_own ho, .inr (fun g hg => Nat.le_trans hz1' (ho.lt g hg).1)⟩
set_option maxRecDepth 100000 in
set_option maxHeartbeats 2000000 in
attribute [local go_sem ↓] wp_load_k wp_build_key in
theorem rpush_yes_mid (w : World) (v : Value) (L : List Ky) (gb : Option Nat) (hk : KL w v L gb) (hL : L.length ≤ 1048576) (s : Nat) (hs0 : 0 < s) (hs : s ≤ 1024) (k : Ky) (i : Nat) (hi : idxK L k = some i) :
    Calls Try.prog 22 #[v, .int .i64 (s : Int), keyV k] w (RefKPost w (lackT L i ++ [k]) false gb) := by
  obtain ⟨A, c, hv, hka⟩ := hk.keys
  have hKL := hk
  rw [hv] at hk ⊢
  obtain ⟨i0, hi0, hz0, hz1, hz2⟩ := info_parts key_info
  obtain ⟨cx, hcx⟩ : ∃ cx, (bytesOf 32 k).toArray = cx := ⟨_, rfl⟩
  show Calls _ _ #[_, .int .i64 (s : Int), .agg (bytesOf 32 k).toArray] _ _
  rw [hcx]
  have HCX := Lib.hid hcx
  have HKA := Lib.hid hka
  have HKL := Lib.hid hKL
  have HV := Lib.hid hv
  have HI0 := Lib.hid hi0
  have HZ0 := Lib.hid hz0
  obtain ⟨n, hn⟩ : ∃ n, L.length = n := ⟨_, rfl⟩
  have HN := Lib.hid hn
  rw [hn] at hL ⊢
  clear hcx hka hk hKL hi0 hz0 hn hv
  go_enter Try.func22, Try.ntmps22
  go_upto_region 1 with (fail)
  generalize hwa : World.alloc w _ = wa
  have hb0 : Below w.heap.size w wa := by rw [← hwa]; exact (Below.refl _ _).alloc (Nat.le_refl _) _
  have hk3 : Blk wa w.heap.size 30 (bytesOf 32 k).toArray := by rw [← hwa, HCX.out]; exact Blk.new w _ _
  have q1 := keyOk_mk (blk_key hk3)
  have q2 := loadK_eq (blk_key hk3)
  have HIX := Lib.hid (rindex_any wa A L.length c L k (HKA.out.below hb0))
  have HB0 := Lib.hid hb0
  have HK3 := Lib.hid hk3
  have hz0' := hb0.size
  clear hwa hb0 hk3
  go_wp2_with fail
  rw [← HN.out]
  refine HIX.out.mono ?_
  rintro e w1 ⟨rfl, hb1⟩
  rw [HN.out]
  have HB1 := Lib.hid (HB0.out.trans (hb1.mono hz0'))
  have hk4 := HK3.out.below hb1 HK3.out.lt
  have HK4 := Lib.hid hk4
  have hz1' := HB1.out.size
  clear q1 q2 hb1 HIX HK3
  obtain ⟨hix, hil⟩ := idxI_some hi
  obtain ⟨g, o, c', hf1, hgb, hcc, hc63, hrd⟩ := HKL.out.form (by omega)
  have hAe : A = some ⟨g, o, none⟩ ∧ c = c' := by
    rw [HV.out] at hf1
    injection hf1 with h1 _ h2
    exact ⟨h1, h2⟩
  obtain ⟨rfl, rfl⟩ := hAe
  have hiL : i < n := by have := HN.out; omega
  rw [HN.out] at hcc
  rw [hix] at *
  have HR1 : Hid (∀ W, Below w1.heap.size w1 W → Reads W w.heap.size 32 (some ⟨g, o, none⟩) i (keysOf (L.take i))) := fun W hW => reads_take ((hrd.below (HB1.out.mono (Nat.le_refl _))).below (hW.mono hz1')) (by omega)
  have HR2 : Hid (c ≠ i + 1 → ∀ W, Below w1.heap.size w1 W → Reads W w.heap.size 32 (some ⟨g, o + (i + 1) * 32, none⟩) (n - (i + 1)) (keysOf (L.drop (i + 1)))) := fun hne W hW => by
    have := reads_drop (c := c) (i := i + 1) ((hrd.below (HB1.out.mono (Nat.le_refl _))).below (hW.mono hz1')) (by omega) (by rw [HN.out]; exact hcc) hne
    rw [HN.out] at this
    exact this
  have hee : Hid (c = i + 1 → L.drop (i + 1) = []) := fun e => List.drop_of_length_le (by have := HN.out; omega)
  clear hrd hix
  by_cases hne : c ≠ i + 1
  · have HNE := Lib.hid hne
    have t1 : (i : Int) ≤ c := by omega
    have t2 : (i : Int) + 1 ≤ n := by omega
    have t3 : (n : Int) ≤ c := by omega
    have g1 : IntKind.i64.wrap ((i : Int) + 1) = (i : Int) + 1 := IntWalk.i64_in _ (by omega)
    have p0 : (0 : Int) ≤ (i : Int) + 1 := by omega
    have p1 : ((i : Int) + 1).toNat = i + 1 := by omega
    have t0 : (0 : Int) ≤ (i : Int) := by omega
    clear hne
    go_upto_region 4 with (fail)
    have hne := HNE.out
    have hu := Try.underlying30
    have hik := key_size k
    have rra := blk_range HK4.out
    have hlk := HK4.out.lt
    have q3 := isKy k
    refine wp_region_noPanic ?_
    refine wp_region_held_drew (S := fun w' => w'.rangeAt w.heap.size 0 (bytesOf 32 k)) (by kernel_rfl) rra (fun hHeld => ?_)
    refine wpAnyH_take (i := 1) (oi := ⟨some 19, _, _, _, _, _⟩) (v := ?_) rfl (by kernel_rfl) (by kernel_rfl) (by kernel_rfl) (fun _ _ _ h => h) (Or.inl ⟨by kernel_rfl, ?_⟩) hHeld ?_
    rotate_left
    · intro w hSw
      (try dsimp only at hSw)
      go_simp
      all_goals (with_reducible rfl)
    conv => arg 8; simp only [Act.put, List.setIfInBounds_toArray, List.set_cons_zero, List.set_cons_succ]
    refine wpAnyH_take (i := 2) (oi := ⟨some 20, _, _, _, _, _⟩) (v := ?_) rfl (by kernel_rfl) (by kernel_rfl) (by kernel_rfl) (fun _ _ _ h => h) (Or.inl ⟨by kernel_rfl, ?_⟩) hHeld ?_
    rotate_left
    · intro w hSw
      (try dsimp only at hSw)
      go_simp
      all_goals (with_reducible rfl)
    conv => arg 8; simp only [Act.put, List.setIfInBounds_toArray, List.set_cons_zero, List.set_cons_succ]
    refine wpAnyH_take (i := 3) (oi := ⟨some 21, _, _, _, _, _⟩) (v := ?_) rfl (by kernel_rfl) (by kernel_rfl) (by kernel_rfl) (fun _ _ _ h => h) (Or.inl ⟨by kernel_rfl, ?_⟩) hHeld ?_
    rotate_left
    · intro w hSw
      (try dsimp only at hSw)
      go_simp
      all_goals (with_reducible rfl)
    conv => arg 8; simp only [Act.put, List.setIfInBounds_toArray, List.set_cons_zero, List.set_cons_succ]
    refine wpAnyH_take (i := 5) (oi := ⟨some 23, _, _, _, _, _⟩) (v := ?_) rfl (by kernel_rfl) (by kernel_rfl) (by kernel_rfl) (fun _ _ _ h => h) (Or.inl ⟨by kernel_rfl, ?_⟩) hHeld ?_
    rotate_left
    · intro w hSw
      (try dsimp only at hSw)
      go_simp
      all_goals (with_reducible rfl)
    conv => arg 8; simp only [Act.put, List.setIfInBounds_toArray, List.set_cons_zero, List.set_cons_succ]
    refine wpAnyH_take (i := 6) (oi := ⟨some 24, _, _, _, _, _⟩) (v := ?_) rfl (by kernel_rfl) (by kernel_rfl) (by kernel_rfl) (fun _ _ _ h => h) (Or.inl ⟨by kernel_rfl, ?_⟩) hHeld ?_
    rotate_left
    · intro w hSw
      (try dsimp only at hSw)
      go_simp
      all_goals (with_reducible rfl)
    conv => arg 8; simp only [Act.put, List.setIfInBounds_toArray, List.set_cons_zero, List.set_cons_succ]
    refine wpAnyH_take (i := 7) (oi := ⟨some 25, _, _, _, _, _⟩) (v := ?_) rfl (by kernel_rfl) (by kernel_rfl) (by kernel_rfl) (fun _ _ _ h => h) (Or.inl ⟨by kernel_rfl, ?_⟩) hHeld ?_
    rotate_left
    · intro w hSw
      (try dsimp only at hSw)
      go_simp
      all_goals (with_reducible rfl)
    conv => arg 8; simp only [Act.put, List.setIfInBounds_toArray, List.set_cons_zero, List.set_cons_succ]
    refine wpAnyH_take (i := 8) (oi := ⟨some 26, _, _, _, _, _⟩) (v := ?_) rfl (by kernel_rfl) (by kernel_rfl) (by kernel_rfl) (fun _ _ _ h => h) (Or.inl ⟨by kernel_rfl, ?_⟩) hHeld ?_
    rotate_left
    · intro w hSw
      (try dsimp only at hSw)
      go_simp
      all_goals (with_reducible rfl)
    conv => arg 8; simp only [Act.put, List.setIfInBounds_toArray, List.set_cons_zero, List.set_cons_succ]
    refine wpAnyH_take (i := 10) (oi := ⟨some 28, _, _, _, _, _⟩) (v := _) rfl (by kernel_rfl) (by kernel_rfl) (by kernel_rfl) (fun _ _ _ h => h) (yieldsIf_load_mid (S := fun w' => w'.rangeAt w.heap.size 0 (bytesOf 32 k)) (by kernel_rfl) _ _ rfl _ _ rfl _ _ (fun w hSw => hSw) hu rfl hik) hHeld ?_
    conv => arg 8; simp only [Act.put, List.setIfInBounds_toArray, List.set_cons_zero, List.set_cons_succ]
    generalize hW : World.drew _ = wd at hHeld ⊢
    have hbd : Below w1.heap.size w1 wd := by rw [← hW]; exact belowDrewR (Below.refl _ _)
    have HBD := Lib.hid hbd
    clear hbd hW
    refine wpAnyH_ready (rs := [0, 11]) (by kernel_rfl) (by simp) ?_
    refine (AllReadyH.cons (o := ⟨some 18, _, _, _, _, _⟩) rfl (fun K hK => ?_) (AllReadyH.cons (o := ⟨some 29, _, _, _, _, _⟩) rfl (fun K hK => ?_) AllReadyH.nil))
    · go_simp
      refine hK.out _ _ (by exact range_below (a := w1) (by first | exact HBD.out | exact below_al HBD.out _ | exact hb1x) hlk rra) (fun hHeld => ?_)
      clear hK K
      conv => arg 8; simp only [Act.put, List.setIfInBounds_toArray, List.set_cons_zero, List.set_cons_succ]
      generalize hW : World.alloc _ _ = v1w at hHeld ⊢
      have hbx : Below wd.heap.size wd v1w := by rw [← hW]; exact (Below.refl _ _).alloc (Nat.le_refl _) _
      have hox : v1w.ownsRow w1.heap.size 30 32 (.slice (some ⟨wd.heap.size, 0, none⟩) 0 0) 0 [] := by rw [← hW]; exact owns_base2 (empty_own _) HBD.out.size
      have HOv1w := Lib.hid hox
      clear hox
      have HBv1w := Lib.hid (HBD.out.trans (hbx.mono HBD.out.size))
      clear hbx hW
      refine wpAnyH_ready (rs := [4, 11]) (by kernel_rfl) (by simp) ?_
      refine (AllReadyH.cons (o := ⟨some 22, _, _, _, _, _⟩) rfl (fun K hK => ?_) (AllReadyH.cons (o := ⟨some 29, _, _, _, _, _⟩) rfl (fun K hK => ?_) AllReadyH.nil))
      · refine step_append_any _ (by rfl) (.tmp 18) (.tmp 21) _ (by rfl) w1.heap.size 30 i0 _ 32 32 Try.underlying28 HI0.out HZ0.out hz1 hz2 rfl (by omega) (.slice (some ⟨wd.heap.size, 0, none⟩) 0 0) (0) ([]) (by rfl) HOv1w.out _ (some ⟨g, o, none⟩) (i) _ (keysOf (L.take i)) (by rfl) (HR1.out _ HBv1w.out) (keysOf_oneCell _) (by unfold maxLen; omega) (by omega) HBv1w.out.size ?_
        intro v3 v2w ho hg hat
        rw [Nat.zero_add, List.nil_append] at ho
        obtain ⟨Av2w, cv2w, rfl⟩ := own_form ho
        have hb1x : Below w1.heap.size w1 v2w := HBv1w.out.grown hg HBv1w.out.size (fun g e => (HOv1w.out.lt g e).1)
        have HOv2w := Lib.hid ho
        have HBv2w := Lib.hid hb1x
        clear ho hg hat hb1x
        refine hK.out _ _ (by exact range_below (a := w1) (by first | exact HBv2w.out | exact below_al HBv2w.out _ | exact hb1x) hlk rra) (fun hHeld => ?_)
        clear hK K
        conv => arg 8; simp only [Act.put, List.setIfInBounds_toArray, List.set_cons_zero, List.set_cons_succ]
        refine wpAnyH_ready (rs := [9, 11]) (by kernel_rfl) (by simp) ?_
        refine (AllReadyH.cons (o := ⟨some 27, _, _, _, _, _⟩) rfl (fun K hK => ?_) (AllReadyH.cons (o := ⟨some 29, _, _, _, _, _⟩) rfl (fun K hK => ?_) AllReadyH.nil))
        · refine step_append_any _ (by rfl) (.tmp 22) (.tmp 26) _ (by rfl) w1.heap.size 30 i0 _ 32 32 Try.underlying28 HI0.out HZ0.out hz1 hz2 rfl (by omega) (.slice Av2w (i) cv2w) (i) (keysOf (L.take i)) (by rfl) HOv2w.out _ (some ⟨g, o + (i + 1) * 32, none⟩) (n - (i + 1)) _ (keysOf (L.drop (i + 1))) (by rfl) (HR2.out HNE.out _ HBv2w.out) (keysOf_oneCell _) (by unfold maxLen; omega) (by omega) HBv2w.out.size ?_
          intro v3 v3w ho hg hat
          skip
          obtain ⟨Av3w, cv3w, rfl⟩ := own_form ho
          have hb1x : Below w1.heap.size w1 v3w := HBv2w.out.grown hg HBv2w.out.size (fun g e => (HOv2w.out.lt g e).1)
          have HOv3w := Lib.hid ho
          have HBv3w := Lib.hid hb1x
          clear ho hg hat hb1x
          refine hK.out _ _ (by exact range_below (a := w1) (by first | exact HBv3w.out | exact below_al HBv3w.out _ | exact hb1x) hlk rra) (fun hHeld => ?_)
          clear hK K
          conv => arg 8; simp only [Act.put, List.setIfInBounds_toArray, List.set_cons_zero, List.set_cons_succ]
          refine wpAnyH_ready (rs := [11]) (by kernel_rfl) (by simp) ?_
          refine (AllReadyH.cons (o := ⟨some 29, _, _, _, _, _⟩) rfl (fun K hK => ?_) AllReadyH.nil)
          go_simp
          refine hK.out _ _ (by exact range_below (a := w1) (by first | exact HBv3w.out | exact below_al HBv3w.out _ | exact hb1x) hlk rra) (fun hHeld => ?_)
          clear hK K
          conv => arg 8; simp only [Act.put, List.setIfInBounds_toArray, List.set_cons_zero, List.set_cons_succ]
          generalize hW : World.alloc _ _ = v4w at hHeld ⊢
          have hbx : Below v3w.heap.size v3w v4w := by rw [← hW]; exact (Below.refl _ _).alloc (Nat.le_refl _) _
          have hxx : Blk v4w v3w.heap.size 30 (bytesOf 32 k).toArray := by rw [← hW]; exact heap_alloc_new _ _
          have HXv4w := Lib.hid hxx
          clear hxx
          have HNv4w : Hid (∀ g, Value.ownBlock (.slice Av3w (i + (n - (i + 1))) cv3w) = some g → g ≠ v3w.heap.size) := fun g e => Nat.ne_of_lt (HOv3w.out.lt g e).2
          have HOv4w := Lib.hid (owns_below HOv3w.out hbx)
          have HBv4w := Lib.hid (HBv3w.out.trans (hbx.mono HBv3w.out.size))
          clear hbx hW
          refine wpAnyH_ready (rs := [12]) (by kernel_rfl) (by simp) ?_
          refine (AllReadyH.cons (o := ⟨some 30, _, _, _, _, _⟩) rfl (fun K hK => ?_) AllReadyH.nil)
          refine step_append_any _ (by rfl) (.tmp 27) (.tmp 29) _ (by rfl) w1.heap.size 30 i0 _ 32 32 Try.underlying28 HI0.out HZ0.out hz1 hz2 rfl (by omega) (.slice Av3w (i + (n - (i + 1))) cv3w) (i + (n - (i + 1))) (keysOf (L.take i) ++ keysOf (L.drop (i + 1))) (by rfl) HOv4w.out _ (some ⟨v3w.heap.size, 0, none⟩) (1) 1 (keysOf [k]) (by rfl) (reads_key HXv4w.out) (keysOf_oneCell _) (by unfold maxLen; omega) (by omega) HBv4w.out.size ?_
          intro v3 v5w ho hg hat
          skip
          obtain ⟨Av5w, cv5w, rfl⟩ := own_form ho
          have hb1x : Below w1.heap.size w1 v5w := HBv4w.out.grown hg HBv4w.out.size (fun g e => (HOv4w.out.lt g e).1)
          have HOv5w := Lib.hid ho
          have HBv5w := Lib.hid hb1x
          clear ho hg hat hb1x
          refine hK.out _ _ (by exact range_below (a := w1) (by first | exact HBv5w.out | exact below_al HBv5w.out _ | exact hb1x) hlk rra) (fun hHeld => ?_)
          clear hK K
          conv => arg 8; simp only [Act.put, List.setIfInBounds_toArray, List.set_cons_zero, List.set_cons_succ]
          refine wpAnyH_take (i := 13) (oi := ⟨some 6, _, _, _, _, _⟩) (v := ?_) rfl (by kernel_rfl) (by kernel_rfl) (by kernel_rfl) (fun _ _ _ h => h) (Or.inl ⟨by kernel_rfl, ?_⟩) hHeld ?_
          rotate_left
          · intro w hSw
            (try dsimp only at hSw)
            go_simp
            all_goals (with_reducible rfl)
          conv => arg 8; simp only [Act.put, List.setIfInBounds_toArray, List.set_cons_zero, List.set_cons_succ]
          refine wpAnyH_take (i := 14) (oi := ⟨some 7, _, _, _, _, _⟩) (v := ?_) rfl (by kernel_rfl) (by kernel_rfl) (by kernel_rfl) (fun _ _ _ h => h) (Or.inl ⟨by kernel_rfl, ?_⟩) hHeld ?_
          rotate_left
          · intro w hSw
            (try dsimp only at hSw)
            go_simp
            all_goals (with_reducible rfl)
          conv => arg 8; simp only [Act.put, List.setIfInBounds_toArray, List.set_cons_zero, List.set_cons_succ]
          refine wpAnyH_done (by kernel_rfl) ?_ _
          refine NoPanic.normal ?_
          go_wp2_with fail
          go_ret2
          have hl := lackT_len (List.getElem?_eq_getElem hil)
          have hn := HN.out
          have ho : v5w.ownsRow w1.heap.size 30 32 (.slice Av5w (i + (n - (i + 1)) + 1) cv5w) (lackT L i ++ [k]).length (keysOf (lackT L i ++ [k])) := by
            rw [keysOf_append, keysOf_lackT, show (lackT L i ++ [k]).length = i + (n - (i + 1)) + 1 by rw [List.length_append, List.length_singleton]; omega]
            exact HOv5w.out
          exact ⟨_, _, rfl, HB1.out.trans (HBv5w.out.mono hz1'), KL.of_own ho, .inr (fun g hg => Nat.le_trans hz1' (ho.lt g hg).1)⟩
        · go_simp
          refine hK.out _ _ (by exact range_below (a := w1) (by first | exact HBv2w.out | exact below_al HBv2w.out _ | exact hb1x) hlk rra) (fun hHeld => ?_)
          clear hK K
          conv => arg 8; simp only [Act.put, List.setIfInBounds_toArray, List.set_cons_zero, List.set_cons_succ]
          generalize hW : World.alloc _ _ = v6w at hHeld ⊢
          have hbx : Below v2w.heap.size v2w v6w := by rw [← hW]; exact (Below.refl _ _).alloc (Nat.le_refl _) _
          have hxx : Blk v6w v2w.heap.size 30 (bytesOf 32 k).toArray := by rw [← hW]; exact heap_alloc_new _ _
          have HXv6w := Lib.hid hxx
          clear hxx
          have HNv6w : Hid (∀ g, Value.ownBlock (.slice Av2w (i) cv2w) = some g → g ≠ v2w.heap.size) := fun g e => Nat.ne_of_lt (HOv2w.out.lt g e).2
          have HOv6w := Lib.hid (owns_below HOv2w.out hbx)
          have HBv6w := Lib.hid (HBv2w.out.trans (hbx.mono HBv2w.out.size))
          clear hbx hW
          refine wpAnyH_ready (rs := [9]) (by kernel_rfl) (by simp) ?_
          refine (AllReadyH.cons (o := ⟨some 27, _, _, _, _, _⟩) rfl (fun K hK => ?_) AllReadyH.nil)
          refine step_append_any _ (by rfl) (.tmp 22) (.tmp 26) _ (by rfl) w1.heap.size 30 i0 _ 32 32 Try.underlying28 HI0.out HZ0.out hz1 hz2 rfl (by omega) (.slice Av2w (i) cv2w) (i) (keysOf (L.take i)) (by rfl) HOv6w.out _ (some ⟨g, o + (i + 1) * 32, none⟩) (n - (i + 1)) _ (keysOf (L.drop (i + 1))) (by rfl) (HR2.out HNE.out _ HBv6w.out) (keysOf_oneCell _) (by unfold maxLen; omega) (by omega) HBv6w.out.size ?_
          intro v3 v7w ho hg hat
          skip
          obtain ⟨Av7w, cv7w, rfl⟩ := own_form ho
          have hb1x : Below w1.heap.size w1 v7w := HBv6w.out.grown hg HBv6w.out.size (fun g e => (HOv6w.out.lt g e).1)
          have HOv7w := Lib.hid ho
          have HXv7w := Lib.hid (HXv6w.out.grown hg (fun e => HNv6w.out _ e.symm rfl))
          have HNv7w : Hid (∀ g, Value.ownBlock (.slice Av7w (i + (n - (i + 1))) cv7w) = some g → g ≠ v2w.heap.size) := fun g e => by
            rcases hat with h | h
            · exact HNv6w.out g (h.symm.trans e)
            · have h1 := HXv6w.out.lt; rw [e] at h; injection h with h; omega
          have HBv7w := Lib.hid hb1x
          clear ho hg hat hb1x
          refine hK.out _ _ (by exact range_below (a := w1) (by first | exact HBv7w.out | exact below_al HBv7w.out _ | exact hb1x) hlk rra) (fun hHeld => ?_)
          clear hK K
          conv => arg 8; simp only [Act.put, List.setIfInBounds_toArray, List.set_cons_zero, List.set_cons_succ]
          refine wpAnyH_ready (rs := [12]) (by kernel_rfl) (by simp) ?_
          refine (AllReadyH.cons (o := ⟨some 30, _, _, _, _, _⟩) rfl (fun K hK => ?_) AllReadyH.nil)
          refine step_append_any _ (by rfl) (.tmp 27) (.tmp 29) _ (by rfl) w1.heap.size 30 i0 _ 32 32 Try.underlying28 HI0.out HZ0.out hz1 hz2 rfl (by omega) (.slice Av7w (i + (n - (i + 1))) cv7w) (i + (n - (i + 1))) (keysOf (L.take i) ++ keysOf (L.drop (i + 1))) (by rfl) HOv7w.out _ (some ⟨v2w.heap.size, 0, none⟩) (1) 1 (keysOf [k]) (by rfl) (reads_key HXv7w.out) (keysOf_oneCell _) (by unfold maxLen; omega) (by omega) HBv7w.out.size ?_
          intro v3 v8w ho hg hat
          skip
          obtain ⟨Av8w, cv8w, rfl⟩ := own_form ho
          have hb1x : Below w1.heap.size w1 v8w := HBv7w.out.grown hg HBv7w.out.size (fun g e => (HOv7w.out.lt g e).1)
          have HOv8w := Lib.hid ho
          have HBv8w := Lib.hid hb1x
          clear ho hg hat hb1x
          refine hK.out _ _ (by exact range_below (a := w1) (by first | exact HBv8w.out | exact below_al HBv8w.out _ | exact hb1x) hlk rra) (fun hHeld => ?_)
          clear hK K
          conv => arg 8; simp only [Act.put, List.setIfInBounds_toArray, List.set_cons_zero, List.set_cons_succ]
          refine wpAnyH_take (i := 13) (oi := ⟨some 6, _, _, _, _, _⟩) (v := ?_) rfl (by kernel_rfl) (by kernel_rfl) (by kernel_rfl) (fun _ _ _ h => h) (Or.inl ⟨by kernel_rfl, ?_⟩) hHeld ?_
          rotate_left
          · intro w hSw
            (try dsimp only at hSw)
            go_simp
            all_goals (with_reducible rfl)
          conv => arg 8; simp only [Act.put, List.setIfInBounds_toArray, List.set_cons_zero, List.set_cons_succ]
          refine wpAnyH_take (i := 14) (oi := ⟨some 7, _, _, _, _, _⟩) (v := ?_) rfl (by kernel_rfl) (by kernel_rfl) (by kernel_rfl) (fun _ _ _ h => h) (Or.inl ⟨by kernel_rfl, ?_⟩) hHeld ?_
          rotate_left
          · intro w hSw
            (try dsimp only at hSw)
            go_simp
            all_goals (with_reducible rfl)
          conv => arg 8; simp only [Act.put, List.setIfInBounds_toArray, List.set_cons_zero, List.set_cons_succ]
          refine wpAnyH_done (by kernel_rfl) ?_ _
          refine NoPanic.normal ?_
          go_wp2_with fail
          go_ret2
          have hl := lackT_len (List.getElem?_eq_getElem hil)
          have hn := HN.out
          have ho : v8w.ownsRow w1.heap.size 30 32 (.slice Av8w (i + (n - (i + 1)) + 1) cv8w) (lackT L i ++ [k]).length (keysOf (lackT L i ++ [k])) := by
            rw [keysOf_append, keysOf_lackT, show (lackT L i ++ [k]).length = i + (n - (i + 1)) + 1 by rw [List.length_append, List.length_singleton]; omega]
            exact HOv8w.out
          exact ⟨_, _, rfl, HB1.out.trans (HBv8w.out.mono hz1'), KL.of_own ho, .inr (fun g hg => Nat.le_trans hz1' (ho.lt g hg).1)⟩
      · go_simp
        refine hK.out _ _ (by exact range_below (a := w1) (by first | exact HBv1w.out | exact below_al HBv1w.out _ | exact hb1x) hlk rra) (fun hHeld => ?_)
        clear hK K
        conv => arg 8; simp only [Act.put, List.setIfInBounds_toArray, List.set_cons_zero, List.set_cons_succ]
        generalize hW : World.alloc _ _ = v9w at hHeld ⊢
        have hbx : Below v1w.heap.size v1w v9w := by rw [← hW]; exact (Below.refl _ _).alloc (Nat.le_refl _) _
        have hxx : Blk v9w v1w.heap.size 30 (bytesOf 32 k).toArray := by rw [← hW]; exact heap_alloc_new _ _
        have HXv9w := Lib.hid hxx
        clear hxx
        have HNv9w : Hid (∀ g, Value.ownBlock (.slice (some ⟨wd.heap.size, 0, none⟩) 0 0) = some g → g ≠ v1w.heap.size) := fun g e => Nat.ne_of_lt (HOv1w.out.lt g e).2
        have HOv9w := Lib.hid (owns_below HOv1w.out hbx)
        have HBv9w := Lib.hid (HBv1w.out.trans (hbx.mono HBv1w.out.size))
        clear hbx hW
        refine wpAnyH_ready (rs := [4]) (by kernel_rfl) (by simp) ?_
        refine (AllReadyH.cons (o := ⟨some 22, _, _, _, _, _⟩) rfl (fun K hK => ?_) AllReadyH.nil)
        refine step_append_any _ (by rfl) (.tmp 18) (.tmp 21) _ (by rfl) w1.heap.size 30 i0 _ 32 32 Try.underlying28 HI0.out HZ0.out hz1 hz2 rfl (by omega) (.slice (some ⟨wd.heap.size, 0, none⟩) 0 0) (0) ([]) (by rfl) HOv9w.out _ (some ⟨g, o, none⟩) (i) _ (keysOf (L.take i)) (by rfl) (HR1.out _ HBv9w.out) (keysOf_oneCell _) (by unfold maxLen; omega) (by omega) HBv9w.out.size ?_
        intro v3 v10w ho hg hat
        rw [Nat.zero_add, List.nil_append] at ho
        obtain ⟨Av10w, cv10w, rfl⟩ := own_form ho
        have hb1x : Below w1.heap.size w1 v10w := HBv9w.out.grown hg HBv9w.out.size (fun g e => (HOv9w.out.lt g e).1)
        have HOv10w := Lib.hid ho
        have HXv10w := Lib.hid (HXv9w.out.grown hg (fun e => HNv9w.out _ e.symm rfl))
        have HNv10w : Hid (∀ g, Value.ownBlock (.slice Av10w (i) cv10w) = some g → g ≠ v1w.heap.size) := fun g e => by
          rcases hat with h | h
          · exact HNv9w.out g (h.symm.trans e)
          · have h1 := HXv9w.out.lt; rw [e] at h; injection h with h; omega
        have HBv10w := Lib.hid hb1x
        clear ho hg hat hb1x
        refine hK.out _ _ (by exact range_below (a := w1) (by first | exact HBv10w.out | exact below_al HBv10w.out _ | exact hb1x) hlk rra) (fun hHeld => ?_)
        clear hK K
        conv => arg 8; simp only [Act.put, List.setIfInBounds_toArray, List.set_cons_zero, List.set_cons_succ]
        refine wpAnyH_ready (rs := [9]) (by kernel_rfl) (by simp) ?_
        refine (AllReadyH.cons (o := ⟨some 27, _, _, _, _, _⟩) rfl (fun K hK => ?_) AllReadyH.nil)
        refine step_append_any _ (by rfl) (.tmp 22) (.tmp 26) _ (by rfl) w1.heap.size 30 i0 _ 32 32 Try.underlying28 HI0.out HZ0.out hz1 hz2 rfl (by omega) (.slice Av10w (i) cv10w) (i) (keysOf (L.take i)) (by rfl) HOv10w.out _ (some ⟨g, o + (i + 1) * 32, none⟩) (n - (i + 1)) _ (keysOf (L.drop (i + 1))) (by rfl) (HR2.out HNE.out _ HBv10w.out) (keysOf_oneCell _) (by unfold maxLen; omega) (by omega) HBv10w.out.size ?_
        intro v3 v11w ho hg hat
        skip
        obtain ⟨Av11w, cv11w, rfl⟩ := own_form ho
        have hb1x : Below w1.heap.size w1 v11w := HBv10w.out.grown hg HBv10w.out.size (fun g e => (HOv10w.out.lt g e).1)
        have HOv11w := Lib.hid ho
        have HXv11w := Lib.hid (HXv10w.out.grown hg (fun e => HNv10w.out _ e.symm rfl))
        have HNv11w : Hid (∀ g, Value.ownBlock (.slice Av11w (i + (n - (i + 1))) cv11w) = some g → g ≠ v1w.heap.size) := fun g e => by
          rcases hat with h | h
          · exact HNv10w.out g (h.symm.trans e)
          · have h1 := HXv10w.out.lt; rw [e] at h; injection h with h; omega
        have HBv11w := Lib.hid hb1x
        clear ho hg hat hb1x
        refine hK.out _ _ (by exact range_below (a := w1) (by first | exact HBv11w.out | exact below_al HBv11w.out _ | exact hb1x) hlk rra) (fun hHeld => ?_)
        clear hK K
        conv => arg 8; simp only [Act.put, List.setIfInBounds_toArray, List.set_cons_zero, List.set_cons_succ]
        refine wpAnyH_ready (rs := [12]) (by kernel_rfl) (by simp) ?_
        refine (AllReadyH.cons (o := ⟨some 30, _, _, _, _, _⟩) rfl (fun K hK => ?_) AllReadyH.nil)
        refine step_append_any _ (by rfl) (.tmp 27) (.tmp 29) _ (by rfl) w1.heap.size 30 i0 _ 32 32 Try.underlying28 HI0.out HZ0.out hz1 hz2 rfl (by omega) (.slice Av11w (i + (n - (i + 1))) cv11w) (i + (n - (i + 1))) (keysOf (L.take i) ++ keysOf (L.drop (i + 1))) (by rfl) HOv11w.out _ (some ⟨v1w.heap.size, 0, none⟩) (1) 1 (keysOf [k]) (by rfl) (reads_key HXv11w.out) (keysOf_oneCell _) (by unfold maxLen; omega) (by omega) HBv11w.out.size ?_
        intro v3 v12w ho hg hat
        skip
        obtain ⟨Av12w, cv12w, rfl⟩ := own_form ho
        have hb1x : Below w1.heap.size w1 v12w := HBv11w.out.grown hg HBv11w.out.size (fun g e => (HOv11w.out.lt g e).1)
        have HOv12w := Lib.hid ho
        have HBv12w := Lib.hid hb1x
        clear ho hg hat hb1x
        refine hK.out _ _ (by exact range_below (a := w1) (by first | exact HBv12w.out | exact below_al HBv12w.out _ | exact hb1x) hlk rra) (fun hHeld => ?_)
        clear hK K
        conv => arg 8; simp only [Act.put, List.setIfInBounds_toArray, List.set_cons_zero, List.set_cons_succ]
        refine wpAnyH_take (i := 13) (oi := ⟨some 6, _, _, _, _, _⟩) (v := ?_) rfl (by kernel_rfl) (by kernel_rfl) (by kernel_rfl) (fun _ _ _ h => h) (Or.inl ⟨by kernel_rfl, ?_⟩) hHeld ?_
        rotate_left
        · intro w hSw
          (try dsimp only at hSw)
          go_simp
          all_goals (with_reducible rfl)
        conv => arg 8; simp only [Act.put, List.setIfInBounds_toArray, List.set_cons_zero, List.set_cons_succ]
        refine wpAnyH_take (i := 14) (oi := ⟨some 7, _, _, _, _, _⟩) (v := ?_) rfl (by kernel_rfl) (by kernel_rfl) (by kernel_rfl) (fun _ _ _ h => h) (Or.inl ⟨by kernel_rfl, ?_⟩) hHeld ?_
        rotate_left
        · intro w hSw
          (try dsimp only at hSw)
          go_simp
          all_goals (with_reducible rfl)
        conv => arg 8; simp only [Act.put, List.setIfInBounds_toArray, List.set_cons_zero, List.set_cons_succ]
        refine wpAnyH_done (by kernel_rfl) ?_ _
        refine NoPanic.normal ?_
        go_wp2_with fail
        go_ret2
        have hl := lackT_len (List.getElem?_eq_getElem hil)
        have hn := HN.out
        have ho : v12w.ownsRow w1.heap.size 30 32 (.slice Av12w (i + (n - (i + 1)) + 1) cv12w) (lackT L i ++ [k]).length (keysOf (lackT L i ++ [k])) := by
          rw [keysOf_append, keysOf_lackT, show (lackT L i ++ [k]).length = i + (n - (i + 1)) + 1 by rw [List.length_append, List.length_singleton]; omega]
          exact HOv12w.out
        exact ⟨_, _, rfl, HB1.out.trans (HBv12w.out.mono hz1'), KL.of_own ho, .inr (fun g hg => Nat.le_trans hz1' (ho.lt g hg).1)⟩
    · go_simp
      refine hK.out _ _ (by exact range_below (a := w1) (by first | exact HBD.out | exact below_al HBD.out _ | exact hb1x) hlk rra) (fun hHeld => ?_)
      clear hK K
      conv => arg 8; simp only [Act.put, List.setIfInBounds_toArray, List.set_cons_zero, List.set_cons_succ]
      generalize hW : World.alloc _ _ = v13w at hHeld ⊢
      have hbx : Below wd.heap.size wd v13w := by rw [← hW]; exact (Below.refl _ _).alloc (Nat.le_refl _) _
      have hxx : Blk v13w wd.heap.size 30 (bytesOf 32 k).toArray := by rw [← hW]; exact heap_alloc_new _ _
      have HXv13w := Lib.hid hxx
      clear hxx
      have HBv13w := Lib.hid (HBD.out.trans (hbx.mono HBD.out.size))
      clear hbx hW
      refine wpAnyH_ready (rs := [0]) (by kernel_rfl) (by simp) ?_
      refine (AllReadyH.cons (o := ⟨some 18, _, _, _, _, _⟩) rfl (fun K hK => ?_) AllReadyH.nil)
      go_simp
      refine hK.out _ _ (by exact range_below (a := w1) (by first | exact HBv13w.out | exact below_al HBv13w.out _ | exact hb1x) hlk rra) (fun hHeld => ?_)
      clear hK K
      conv => arg 8; simp only [Act.put, List.setIfInBounds_toArray, List.set_cons_zero, List.set_cons_succ]
      generalize hW : World.alloc _ _ = v14w at hHeld ⊢
      have hbx : Below v13w.heap.size v13w v14w := by rw [← hW]; exact (Below.refl _ _).alloc (Nat.le_refl _) _
      have hox : v14w.ownsRow w1.heap.size 30 32 (.slice (some ⟨v13w.heap.size, 0, none⟩) 0 0) 0 [] := by rw [← hW]; exact owns_base2 (empty_own _) HBv13w.out.size
      have HOv14w := Lib.hid hox
      clear hox
      have HNv14w : Hid (∀ g, Value.ownBlock (.slice (some ⟨v13w.heap.size, 0, none⟩) 0 0) = some g → g ≠ wd.heap.size) := fun g e => by have h1 := HXv13w.out.lt; injection e with e; have e : v13w.heap.size = g := e; omega
      have HXv14w := Lib.hid (HXv13w.out.below hbx HXv13w.out.lt)
      have HBv14w := Lib.hid (HBv13w.out.trans (hbx.mono HBv13w.out.size))
      clear hbx hW
      refine wpAnyH_ready (rs := [4]) (by kernel_rfl) (by simp) ?_
      refine (AllReadyH.cons (o := ⟨some 22, _, _, _, _, _⟩) rfl (fun K hK => ?_) AllReadyH.nil)
      refine step_append_any _ (by rfl) (.tmp 18) (.tmp 21) _ (by rfl) w1.heap.size 30 i0 _ 32 32 Try.underlying28 HI0.out HZ0.out hz1 hz2 rfl (by omega) (.slice (some ⟨v13w.heap.size, 0, none⟩) 0 0) (0) ([]) (by rfl) HOv14w.out _ (some ⟨g, o, none⟩) (i) _ (keysOf (L.take i)) (by rfl) (HR1.out _ HBv14w.out) (keysOf_oneCell _) (by unfold maxLen; omega) (by omega) HBv14w.out.size ?_
      intro v3 v15w ho hg hat
      rw [Nat.zero_add, List.nil_append] at ho
      obtain ⟨Av15w, cv15w, rfl⟩ := own_form ho
      have hb1x : Below w1.heap.size w1 v15w := HBv14w.out.grown hg HBv14w.out.size (fun g e => (HOv14w.out.lt g e).1)
      have HOv15w := Lib.hid ho
      have HXv15w := Lib.hid (HXv14w.out.grown hg (fun e => HNv14w.out _ e.symm rfl))
      have HNv15w : Hid (∀ g, Value.ownBlock (.slice Av15w (i) cv15w) = some g → g ≠ wd.heap.size) := fun g e => by
        rcases hat with h | h
        · exact HNv14w.out g (h.symm.trans e)
        · have h1 := HXv14w.out.lt; rw [e] at h; injection h with h; omega
      have HBv15w := Lib.hid hb1x
      clear ho hg hat hb1x
      refine hK.out _ _ (by exact range_below (a := w1) (by first | exact HBv15w.out | exact below_al HBv15w.out _ | exact hb1x) hlk rra) (fun hHeld => ?_)
      clear hK K
      conv => arg 8; simp only [Act.put, List.setIfInBounds_toArray, List.set_cons_zero, List.set_cons_succ]
      refine wpAnyH_ready (rs := [9]) (by kernel_rfl) (by simp) ?_
      refine (AllReadyH.cons (o := ⟨some 27, _, _, _, _, _⟩) rfl (fun K hK => ?_) AllReadyH.nil)
      refine step_append_any _ (by rfl) (.tmp 22) (.tmp 26) _ (by rfl) w1.heap.size 30 i0 _ 32 32 Try.underlying28 HI0.out HZ0.out hz1 hz2 rfl (by omega) (.slice Av15w (i) cv15w) (i) (keysOf (L.take i)) (by rfl) HOv15w.out _ (some ⟨g, o + (i + 1) * 32, none⟩) (n - (i + 1)) _ (keysOf (L.drop (i + 1))) (by rfl) (HR2.out HNE.out _ HBv15w.out) (keysOf_oneCell _) (by unfold maxLen; omega) (by omega) HBv15w.out.size ?_
      intro v3 v16w ho hg hat
      skip
      obtain ⟨Av16w, cv16w, rfl⟩ := own_form ho
      have hb1x : Below w1.heap.size w1 v16w := HBv15w.out.grown hg HBv15w.out.size (fun g e => (HOv15w.out.lt g e).1)
      have HOv16w := Lib.hid ho
      have HXv16w := Lib.hid (HXv15w.out.grown hg (fun e => HNv15w.out _ e.symm rfl))
      have HNv16w : Hid (∀ g, Value.ownBlock (.slice Av16w (i + (n - (i + 1))) cv16w) = some g → g ≠ wd.heap.size) := fun g e => by
        rcases hat with h | h
        · exact HNv15w.out g (h.symm.trans e)
        · have h1 := HXv15w.out.lt; rw [e] at h; injection h with h; omega
      have HBv16w := Lib.hid hb1x
      clear ho hg hat hb1x
      refine hK.out _ _ (by exact range_below (a := w1) (by first | exact HBv16w.out | exact below_al HBv16w.out _ | exact hb1x) hlk rra) (fun hHeld => ?_)
      clear hK K
      conv => arg 8; simp only [Act.put, List.setIfInBounds_toArray, List.set_cons_zero, List.set_cons_succ]
      refine wpAnyH_ready (rs := [12]) (by kernel_rfl) (by simp) ?_
      refine (AllReadyH.cons (o := ⟨some 30, _, _, _, _, _⟩) rfl (fun K hK => ?_) AllReadyH.nil)
      refine step_append_any _ (by rfl) (.tmp 27) (.tmp 29) _ (by rfl) w1.heap.size 30 i0 _ 32 32 Try.underlying28 HI0.out HZ0.out hz1 hz2 rfl (by omega) (.slice Av16w (i + (n - (i + 1))) cv16w) (i + (n - (i + 1))) (keysOf (L.take i) ++ keysOf (L.drop (i + 1))) (by rfl) HOv16w.out _ (some ⟨wd.heap.size, 0, none⟩) (1) 1 (keysOf [k]) (by rfl) (reads_key HXv16w.out) (keysOf_oneCell _) (by unfold maxLen; omega) (by omega) HBv16w.out.size ?_
      intro v3 v17w ho hg hat
      skip
      obtain ⟨Av17w, cv17w, rfl⟩ := own_form ho
      have hb1x : Below w1.heap.size w1 v17w := HBv16w.out.grown hg HBv16w.out.size (fun g e => (HOv16w.out.lt g e).1)
      have HOv17w := Lib.hid ho
      have HBv17w := Lib.hid hb1x
      clear ho hg hat hb1x
      refine hK.out _ _ (by exact range_below (a := w1) (by first | exact HBv17w.out | exact below_al HBv17w.out _ | exact hb1x) hlk rra) (fun hHeld => ?_)
      clear hK K
      conv => arg 8; simp only [Act.put, List.setIfInBounds_toArray, List.set_cons_zero, List.set_cons_succ]
      refine wpAnyH_take (i := 13) (oi := ⟨some 6, _, _, _, _, _⟩) (v := ?_) rfl (by kernel_rfl) (by kernel_rfl) (by kernel_rfl) (fun _ _ _ h => h) (Or.inl ⟨by kernel_rfl, ?_⟩) hHeld ?_
      rotate_left
      · intro w hSw
        (try dsimp only at hSw)
        go_simp
        all_goals (with_reducible rfl)
      conv => arg 8; simp only [Act.put, List.setIfInBounds_toArray, List.set_cons_zero, List.set_cons_succ]
      refine wpAnyH_take (i := 14) (oi := ⟨some 7, _, _, _, _, _⟩) (v := ?_) rfl (by kernel_rfl) (by kernel_rfl) (by kernel_rfl) (fun _ _ _ h => h) (Or.inl ⟨by kernel_rfl, ?_⟩) hHeld ?_
      rotate_left
      · intro w hSw
        (try dsimp only at hSw)
        go_simp
        all_goals (with_reducible rfl)
      conv => arg 8; simp only [Act.put, List.setIfInBounds_toArray, List.set_cons_zero, List.set_cons_succ]
      refine wpAnyH_done (by kernel_rfl) ?_ _
      refine NoPanic.normal ?_
      go_wp2_with fail
      go_ret2
      have hl := lackT_len (List.getElem?_eq_getElem hil)
      have hn := HN.out
      have ho : v17w.ownsRow w1.heap.size 30 32 (.slice Av17w (i + (n - (i + 1)) + 1) cv17w) (lackT L i ++ [k]).length (keysOf (lackT L i ++ [k])) := by
        rw [keysOf_append, keysOf_lackT, show (lackT L i ++ [k]).length = i + (n - (i + 1)) + 1 by rw [List.length_append, List.length_singleton]; omega]
        exact HOv17w.out
      exact ⟨_, _, rfl, HB1.out.trans (HBv17w.out.mono hz1'), KL.of_own ho, .inr (fun g hg => Nat.le_trans hz1' (ho.lt g hg).1)⟩
  · obtain rfl : c = i + 1 := by omega
    obtain rfl : n = i + 1 := by omega
    have t1 : (i : Int) ≤ (i : Int) + 1 := by omega
    have t2 : (i : Int) < (i : Int) + 1 := by omega
    have g1 : IntKind.i64.wrap ((i : Int) + 1) = (i : Int) + 1 := IntWalk.i64_in _ (by omega)
    have p0 : (0 : Int) ≤ (i : Int) + 1 := by omega
    have p1 : ((i : Int) + 1).toNat = i + 1 := by omega
    have t0 : (0 : Int) ≤ (i : Int) := by omega
    clear hne
    go_upto_region 4 with (fail)
    have hu := Try.underlying30
    have hik := key_size k
    have rra := blk_range HK4.out
    have hlk := HK4.out.lt
    have q3 := isKy k
    refine wp_region_noPanic ?_
    refine wp_region_held_drew (S := fun w' => w'.rangeAt w.heap.size 0 (bytesOf 32 k)) (by kernel_rfl) rra (fun hHeld => ?_)
    refine wpAnyH_take (i := 1) (oi := ⟨some 19, _, _, _, _, _⟩) (v := ?_) rfl (by kernel_rfl) (by kernel_rfl) (by kernel_rfl) (fun _ _ _ h => h) (Or.inl ⟨by kernel_rfl, ?_⟩) hHeld ?_
    rotate_left
    · intro w hSw
      (try dsimp only at hSw)
      go_simp
      all_goals (with_reducible rfl)
    conv => arg 8; simp only [Act.put, List.setIfInBounds_toArray, List.set_cons_zero, List.set_cons_succ]
    refine wpAnyH_take (i := 2) (oi := ⟨some 20, _, _, _, _, _⟩) (v := ?_) rfl (by kernel_rfl) (by kernel_rfl) (by kernel_rfl) (fun _ _ _ h => h) (Or.inl ⟨by kernel_rfl, ?_⟩) hHeld ?_
    rotate_left
    · intro w hSw
      (try dsimp only at hSw)
      go_simp
      all_goals (with_reducible rfl)
    conv => arg 8; simp only [Act.put, List.setIfInBounds_toArray, List.set_cons_zero, List.set_cons_succ]
    refine wpAnyH_take (i := 3) (oi := ⟨some 21, _, _, _, _, _⟩) (v := ?_) rfl (by kernel_rfl) (by kernel_rfl) (by kernel_rfl) (fun _ _ _ h => h) (Or.inl ⟨by kernel_rfl, ?_⟩) hHeld ?_
    rotate_left
    · intro w hSw
      (try dsimp only at hSw)
      go_simp
      all_goals (with_reducible rfl)
    conv => arg 8; simp only [Act.put, List.setIfInBounds_toArray, List.set_cons_zero, List.set_cons_succ]
    refine wpAnyH_take (i := 5) (oi := ⟨some 23, _, _, _, _, _⟩) (v := ?_) rfl (by kernel_rfl) (by kernel_rfl) (by kernel_rfl) (fun _ _ _ h => h) (Or.inl ⟨by kernel_rfl, ?_⟩) hHeld ?_
    rotate_left
    · intro w hSw
      (try dsimp only at hSw)
      go_simp
      all_goals (with_reducible rfl)
    conv => arg 8; simp only [Act.put, List.setIfInBounds_toArray, List.set_cons_zero, List.set_cons_succ]
    refine wpAnyH_take (i := 6) (oi := ⟨some 24, _, _, _, _, _⟩) (v := ?_) rfl (by kernel_rfl) (by kernel_rfl) (by kernel_rfl) (fun _ _ _ h => h) (Or.inl ⟨by kernel_rfl, ?_⟩) hHeld ?_
    rotate_left
    · intro w hSw
      (try dsimp only at hSw)
      go_simp
      all_goals (with_reducible rfl)
    conv => arg 8; simp only [Act.put, List.setIfInBounds_toArray, List.set_cons_zero, List.set_cons_succ]
    refine wpAnyH_take (i := 7) (oi := ⟨some 25, _, _, _, _, _⟩) (v := ?_) rfl (by kernel_rfl) (by kernel_rfl) (by kernel_rfl) (fun _ _ _ h => h) (Or.inl ⟨by kernel_rfl, ?_⟩) hHeld ?_
    rotate_left
    · intro w hSw
      (try dsimp only at hSw)
      go_simp
      all_goals (with_reducible rfl)
    conv => arg 8; simp only [Act.put, List.setIfInBounds_toArray, List.set_cons_zero, List.set_cons_succ]
    refine wpAnyH_take (i := 8) (oi := ⟨some 26, _, _, _, _, _⟩) (v := ?_) rfl (by kernel_rfl) (by kernel_rfl) (by kernel_rfl) (fun _ _ _ h => h) (Or.inl ⟨by kernel_rfl, ?_⟩) hHeld ?_
    rotate_left
    · intro w hSw
      (try dsimp only at hSw)
      go_simp
      all_goals (with_reducible rfl)
    conv => arg 8; simp only [Act.put, List.setIfInBounds_toArray, List.set_cons_zero, List.set_cons_succ]
    refine wpAnyH_take (i := 10) (oi := ⟨some 28, _, _, _, _, _⟩) (v := _) rfl (by kernel_rfl) (by kernel_rfl) (by kernel_rfl) (fun _ _ _ h => h) (yieldsIf_load_mid (S := fun w' => w'.rangeAt w.heap.size 0 (bytesOf 32 k)) (by kernel_rfl) _ _ rfl _ _ rfl _ _ (fun w hSw => hSw) hu rfl hik) hHeld ?_
    conv => arg 8; simp only [Act.put, List.setIfInBounds_toArray, List.set_cons_zero, List.set_cons_succ]
    generalize hW : World.drew _ = wd at hHeld ⊢
    have hbd : Below w1.heap.size w1 wd := by rw [← hW]; exact belowDrewR (Below.refl _ _)
    have HBD := Lib.hid hbd
    clear hbd hW
    refine wpAnyH_ready (rs := [0, 11]) (by kernel_rfl) (by simp) ?_
    refine (AllReadyH.cons (o := ⟨some 18, _, _, _, _, _⟩) rfl (fun K hK => ?_) (AllReadyH.cons (o := ⟨some 29, _, _, _, _, _⟩) rfl (fun K hK => ?_) AllReadyH.nil))
    · go_simp
      refine hK.out _ _ (by exact range_below (a := w1) (by first | exact HBD.out | exact below_al HBD.out _ | exact hb1x) hlk rra) (fun hHeld => ?_)
      clear hK K
      conv => arg 8; simp only [Act.put, List.setIfInBounds_toArray, List.set_cons_zero, List.set_cons_succ]
      generalize hW : World.alloc _ _ = v1w at hHeld ⊢
      have hbx : Below wd.heap.size wd v1w := by rw [← hW]; exact (Below.refl _ _).alloc (Nat.le_refl _) _
      have hox : v1w.ownsRow w1.heap.size 30 32 (.slice (some ⟨wd.heap.size, 0, none⟩) 0 0) 0 [] := by rw [← hW]; exact owns_base2 (empty_own _) HBD.out.size
      have HOv1w := Lib.hid hox
      clear hox
      have HBv1w := Lib.hid (HBD.out.trans (hbx.mono HBD.out.size))
      clear hbx hW
      refine wpAnyH_ready (rs := [4, 11]) (by kernel_rfl) (by simp) ?_
      refine (AllReadyH.cons (o := ⟨some 22, _, _, _, _, _⟩) rfl (fun K hK => ?_) (AllReadyH.cons (o := ⟨some 29, _, _, _, _, _⟩) rfl (fun K hK => ?_) AllReadyH.nil))
      · refine step_append_any _ (by rfl) (.tmp 18) (.tmp 21) _ (by rfl) w1.heap.size 30 i0 _ 32 32 Try.underlying28 HI0.out HZ0.out hz1 hz2 rfl (by omega) (.slice (some ⟨wd.heap.size, 0, none⟩) 0 0) (0) ([]) (by rfl) HOv1w.out _ (some ⟨g, o, none⟩) (i) _ (keysOf (L.take i)) (by rfl) (HR1.out _ HBv1w.out) (keysOf_oneCell _) (by unfold maxLen; omega) (by omega) HBv1w.out.size ?_
        intro v3 v2w ho hg hat
        rw [Nat.zero_add, List.nil_append] at ho
        obtain ⟨Av2w, cv2w, rfl⟩ := own_form ho
        have hb1x : Below w1.heap.size w1 v2w := HBv1w.out.grown hg HBv1w.out.size (fun g e => (HOv1w.out.lt g e).1)
        have HOv2w := Lib.hid ho
        have HBv2w := Lib.hid hb1x
        clear ho hg hat hb1x
        refine hK.out _ _ (by exact range_below (a := w1) (by first | exact HBv2w.out | exact below_al HBv2w.out _ | exact hb1x) hlk rra) (fun hHeld => ?_)
        clear hK K
        conv => arg 8; simp only [Act.put, List.setIfInBounds_toArray, List.set_cons_zero, List.set_cons_succ]
        refine wpAnyH_ready (rs := [9, 11]) (by kernel_rfl) (by simp) ?_
        refine (AllReadyH.cons (o := ⟨some 27, _, _, _, _, _⟩) rfl (fun K hK => ?_) (AllReadyH.cons (o := ⟨some 29, _, _, _, _, _⟩) rfl (fun K hK => ?_) AllReadyH.nil))
        · refine step_append_any _ (by rfl) (.tmp 22) (.tmp 26) _ (by rfl) w1.heap.size 30 i0 _ 32 32 Try.underlying28 HI0.out HZ0.out hz1 hz2 rfl (by omega) (.slice Av2w (i) cv2w) (i) (keysOf (L.take i)) (by rfl) HOv2w.out _ (some ⟨g, o, none⟩) (0) 0 ([]) (by rfl) (Reads.none_ (B := 0) (A := some ⟨g, o, none⟩)) (by simp) (by unfold maxLen; omega) (by omega) HBv2w.out.size ?_
          intro v3 v3w ho hg hat
          rw [Nat.add_zero, List.append_nil] at ho
          obtain ⟨Av3w, cv3w, rfl⟩ := own_form ho
          have hb1x : Below w1.heap.size w1 v3w := HBv2w.out.grown hg HBv2w.out.size (fun g e => (HOv2w.out.lt g e).1)
          have HOv3w := Lib.hid ho
          have HBv3w := Lib.hid hb1x
          clear ho hg hat hb1x
          refine hK.out _ _ (by exact range_below (a := w1) (by first | exact HBv3w.out | exact below_al HBv3w.out _ | exact hb1x) hlk rra) (fun hHeld => ?_)
          clear hK K
          conv => arg 8; simp only [Act.put, List.setIfInBounds_toArray, List.set_cons_zero, List.set_cons_succ]
          refine wpAnyH_ready (rs := [11]) (by kernel_rfl) (by simp) ?_
          refine (AllReadyH.cons (o := ⟨some 29, _, _, _, _, _⟩) rfl (fun K hK => ?_) AllReadyH.nil)
          go_simp
          refine hK.out _ _ (by exact range_below (a := w1) (by first | exact HBv3w.out | exact below_al HBv3w.out _ | exact hb1x) hlk rra) (fun hHeld => ?_)
          clear hK K
          conv => arg 8; simp only [Act.put, List.setIfInBounds_toArray, List.set_cons_zero, List.set_cons_succ]
          generalize hW : World.alloc _ _ = v4w at hHeld ⊢
          have hbx : Below v3w.heap.size v3w v4w := by rw [← hW]; exact (Below.refl _ _).alloc (Nat.le_refl _) _
          have hxx : Blk v4w v3w.heap.size 30 (bytesOf 32 k).toArray := by rw [← hW]; exact heap_alloc_new _ _
          have HXv4w := Lib.hid hxx
          clear hxx
          have HNv4w : Hid (∀ g, Value.ownBlock (.slice Av3w (i) cv3w) = some g → g ≠ v3w.heap.size) := fun g e => Nat.ne_of_lt (HOv3w.out.lt g e).2
          have HOv4w := Lib.hid (owns_below HOv3w.out hbx)
          have HBv4w := Lib.hid (HBv3w.out.trans (hbx.mono HBv3w.out.size))
          clear hbx hW
          refine wpAnyH_ready (rs := [12]) (by kernel_rfl) (by simp) ?_
          refine (AllReadyH.cons (o := ⟨some 30, _, _, _, _, _⟩) rfl (fun K hK => ?_) AllReadyH.nil)
          refine step_append_any _ (by rfl) (.tmp 27) (.tmp 29) _ (by rfl) w1.heap.size 30 i0 _ 32 32 Try.underlying28 HI0.out HZ0.out hz1 hz2 rfl (by omega) (.slice Av3w (i) cv3w) (i) (keysOf (L.take i)) (by rfl) HOv4w.out _ (some ⟨v3w.heap.size, 0, none⟩) (1) 1 (keysOf [k]) (by rfl) (reads_key HXv4w.out) (keysOf_oneCell _) (by unfold maxLen; omega) (by omega) HBv4w.out.size ?_
          intro v3 v5w ho hg hat
          skip
          obtain ⟨Av5w, cv5w, rfl⟩ := own_form ho
          have hb1x : Below w1.heap.size w1 v5w := HBv4w.out.grown hg HBv4w.out.size (fun g e => (HOv4w.out.lt g e).1)
          have HOv5w := Lib.hid ho
          have HBv5w := Lib.hid hb1x
          clear ho hg hat hb1x
          refine hK.out _ _ (by exact range_below (a := w1) (by first | exact HBv5w.out | exact below_al HBv5w.out _ | exact hb1x) hlk rra) (fun hHeld => ?_)
          clear hK K
          conv => arg 8; simp only [Act.put, List.setIfInBounds_toArray, List.set_cons_zero, List.set_cons_succ]
          refine wpAnyH_take (i := 13) (oi := ⟨some 6, _, _, _, _, _⟩) (v := ?_) rfl (by kernel_rfl) (by kernel_rfl) (by kernel_rfl) (fun _ _ _ h => h) (Or.inl ⟨by kernel_rfl, ?_⟩) hHeld ?_
          rotate_left
          · intro w hSw
            (try dsimp only at hSw)
            go_simp
            all_goals (with_reducible rfl)
          conv => arg 8; simp only [Act.put, List.setIfInBounds_toArray, List.set_cons_zero, List.set_cons_succ]
          refine wpAnyH_take (i := 14) (oi := ⟨some 7, _, _, _, _, _⟩) (v := ?_) rfl (by kernel_rfl) (by kernel_rfl) (by kernel_rfl) (fun _ _ _ h => h) (Or.inl ⟨by kernel_rfl, ?_⟩) hHeld ?_
          rotate_left
          · intro w hSw
            (try dsimp only at hSw)
            go_simp
            all_goals (with_reducible rfl)
          conv => arg 8; simp only [Act.put, List.setIfInBounds_toArray, List.set_cons_zero, List.set_cons_succ]
          refine wpAnyH_done (by kernel_rfl) ?_ _
          refine NoPanic.normal ?_
          go_wp2_with fail
          go_ret2
          have hl := lackT_len (List.getElem?_eq_getElem hil)
          have hn := HN.out
          have ho : v5w.ownsRow w1.heap.size 30 32 (.slice Av5w (i + 1) cv5w) (lackT L i ++ [k]).length (keysOf (lackT L i ++ [k])) := by
            rw [keysOf_append, keysOf_lackT, show (lackT L i ++ [k]).length = i + 1 by rw [List.length_append, List.length_singleton]; omega]
            rw [hee.out (by first | rfl | trivial)]; simpa [keysOf, List.append_assoc] using HOv5w.out
          exact ⟨_, _, rfl, HB1.out.trans (HBv5w.out.mono hz1'), KL.of_own ho, .inr (fun g hg => Nat.le_trans hz1' (ho.lt g hg).1)⟩
        · go_simp
          refine hK.out _ _ (by exact range_below (a := w1) (by first | exact HBv2w.out | exact below_al HBv2w.out _ | exact hb1x) hlk rra) (fun hHeld => ?_)
          clear hK K
          conv => arg 8; simp only [Act.put, List.setIfInBounds_toArray, List.set_cons_zero, List.set_cons_succ]
          generalize hW : World.alloc _ _ = v6w at hHeld ⊢
          have hbx : Below v2w.heap.size v2w v6w := by rw [← hW]; exact (Below.refl _ _).alloc (Nat.le_refl _) _
          have hxx : Blk v6w v2w.heap.size 30 (bytesOf 32 k).toArray := by rw [← hW]; exact heap_alloc_new _ _
          have HXv6w := Lib.hid hxx
          clear hxx
          have HNv6w : Hid (∀ g, Value.ownBlock (.slice Av2w (i) cv2w) = some g → g ≠ v2w.heap.size) := fun g e => Nat.ne_of_lt (HOv2w.out.lt g e).2
          have HOv6w := Lib.hid (owns_below HOv2w.out hbx)
          have HBv6w := Lib.hid (HBv2w.out.trans (hbx.mono HBv2w.out.size))
          clear hbx hW
          refine wpAnyH_ready (rs := [9]) (by kernel_rfl) (by simp) ?_
          refine (AllReadyH.cons (o := ⟨some 27, _, _, _, _, _⟩) rfl (fun K hK => ?_) AllReadyH.nil)
          refine step_append_any _ (by rfl) (.tmp 22) (.tmp 26) _ (by rfl) w1.heap.size 30 i0 _ 32 32 Try.underlying28 HI0.out HZ0.out hz1 hz2 rfl (by omega) (.slice Av2w (i) cv2w) (i) (keysOf (L.take i)) (by rfl) HOv6w.out _ (some ⟨g, o, none⟩) (0) 0 ([]) (by rfl) (Reads.none_ (B := 0) (A := some ⟨g, o, none⟩)) (by simp) (by unfold maxLen; omega) (by omega) HBv6w.out.size ?_
          intro v3 v7w ho hg hat
          rw [Nat.add_zero, List.append_nil] at ho
          obtain ⟨Av7w, cv7w, rfl⟩ := own_form ho
          have hb1x : Below w1.heap.size w1 v7w := HBv6w.out.grown hg HBv6w.out.size (fun g e => (HOv6w.out.lt g e).1)
          have HOv7w := Lib.hid ho
          have HXv7w := Lib.hid (HXv6w.out.grown hg (fun e => HNv6w.out _ e.symm rfl))
          have HNv7w : Hid (∀ g, Value.ownBlock (.slice Av7w (i) cv7w) = some g → g ≠ v2w.heap.size) := fun g e => by
            rcases hat with h | h
            · exact HNv6w.out g (h.symm.trans e)
            · have h1 := HXv6w.out.lt; rw [e] at h; injection h with h; omega
          have HBv7w := Lib.hid hb1x
          clear ho hg hat hb1x
          refine hK.out _ _ (by exact range_below (a := w1) (by first | exact HBv7w.out | exact below_al HBv7w.out _ | exact hb1x) hlk rra) (fun hHeld => ?_)
          clear hK K
          conv => arg 8; simp only [Act.put, List.setIfInBounds_toArray, List.set_cons_zero, List.set_cons_succ]
          refine wpAnyH_ready (rs := [12]) (by kernel_rfl) (by simp) ?_
          refine (AllReadyH.cons (o := ⟨some 30, _, _, _, _, _⟩) rfl (fun K hK => ?_) AllReadyH.nil)
          refine step_append_any _ (by rfl) (.tmp 27) (.tmp 29) _ (by rfl) w1.heap.size 30 i0 _ 32 32 Try.underlying28 HI0.out HZ0.out hz1 hz2 rfl (by omega) (.slice Av7w (i) cv7w) (i) (keysOf (L.take i)) (by rfl) HOv7w.out _ (some ⟨v2w.heap.size, 0, none⟩) (1) 1 (keysOf [k]) (by rfl) (reads_key HXv7w.out) (keysOf_oneCell _) (by unfold maxLen; omega) (by omega) HBv7w.out.size ?_
          intro v3 v8w ho hg hat
          skip
          obtain ⟨Av8w, cv8w, rfl⟩ := own_form ho
          have hb1x : Below w1.heap.size w1 v8w := HBv7w.out.grown hg HBv7w.out.size (fun g e => (HOv7w.out.lt g e).1)
          have HOv8w := Lib.hid ho
          have HBv8w := Lib.hid hb1x
          clear ho hg hat hb1x
          refine hK.out _ _ (by exact range_below (a := w1) (by first | exact HBv8w.out | exact below_al HBv8w.out _ | exact hb1x) hlk rra) (fun hHeld => ?_)
          clear hK K
          conv => arg 8; simp only [Act.put, List.setIfInBounds_toArray, List.set_cons_zero, List.set_cons_succ]
          refine wpAnyH_take (i := 13) (oi := ⟨some 6, _, _, _, _, _⟩) (v := ?_) rfl (by kernel_rfl) (by kernel_rfl) (by kernel_rfl) (fun _ _ _ h => h) (Or.inl ⟨by kernel_rfl, ?_⟩) hHeld ?_
          rotate_left
          · intro w hSw
            (try dsimp only at hSw)
            go_simp
            all_goals (with_reducible rfl)
          conv => arg 8; simp only [Act.put, List.setIfInBounds_toArray, List.set_cons_zero, List.set_cons_succ]
          refine wpAnyH_take (i := 14) (oi := ⟨some 7, _, _, _, _, _⟩) (v := ?_) rfl (by kernel_rfl) (by kernel_rfl) (by kernel_rfl) (fun _ _ _ h => h) (Or.inl ⟨by kernel_rfl, ?_⟩) hHeld ?_
          rotate_left
          · intro w hSw
            (try dsimp only at hSw)
            go_simp
            all_goals (with_reducible rfl)
          conv => arg 8; simp only [Act.put, List.setIfInBounds_toArray, List.set_cons_zero, List.set_cons_succ]
          refine wpAnyH_done (by kernel_rfl) ?_ _
          refine NoPanic.normal ?_
          go_wp2_with fail
          go_ret2
          have hl := lackT_len (List.getElem?_eq_getElem hil)
          have hn := HN.out
          have ho : v8w.ownsRow w1.heap.size 30 32 (.slice Av8w (i + 1) cv8w) (lackT L i ++ [k]).length (keysOf (lackT L i ++ [k])) := by
            rw [keysOf_append, keysOf_lackT, show (lackT L i ++ [k]).length = i + 1 by rw [List.length_append, List.length_singleton]; omega]
            rw [hee.out (by first | rfl | trivial)]; simpa [keysOf, List.append_assoc] using HOv8w.out
          exact ⟨_, _, rfl, HB1.out.trans (HBv8w.out.mono hz1'), KL.of_own ho, .inr (fun g hg => Nat.le_trans hz1' (ho.lt g hg).1)⟩
      · go_simp
        refine hK.out _ _ (by exact range_below (a := w1) (by first | exact HBv1w.out | exact below_al HBv1w.out _ | exact hb1x) hlk rra) (fun hHeld => ?_)
        clear hK K
        conv => arg 8; simp only [Act.put, List.setIfInBounds_toArray, List.set_cons_zero, List.set_cons_succ]
        generalize hW : World.alloc _ _ = v9w at hHeld ⊢
        have hbx : Below v1w.heap.size v1w v9w := by rw [← hW]; exact (Below.refl _ _).alloc (Nat.le_refl _) _
        have hxx : Blk v9w v1w.heap.size 30 (bytesOf 32 k).toArray := by rw [← hW]; exact heap_alloc_new _ _
        have HXv9w := Lib.hid hxx
        clear hxx
        have HNv9w : Hid (∀ g, Value.ownBlock (.slice (some ⟨wd.heap.size, 0, none⟩) 0 0) = some g → g ≠ v1w.heap.size) := fun g e => Nat.ne_of_lt (HOv1w.out.lt g e).2
        have HOv9w := Lib.hid (owns_below HOv1w.out hbx)
        have HBv9w := Lib.hid (HBv1w.out.trans (hbx.mono HBv1w.out.size))
        clear hbx hW
        refine wpAnyH_ready (rs := [4]) (by kernel_rfl) (by simp) ?_
        refine (AllReadyH.cons (o := ⟨some 22, _, _, _, _, _⟩) rfl (fun K hK => ?_) AllReadyH.nil)
        refine step_append_any _ (by rfl) (.tmp 18) (.tmp 21) _ (by rfl) w1.heap.size 30 i0 _ 32 32 Try.underlying28 HI0.out HZ0.out hz1 hz2 rfl (by omega) (.slice (some ⟨wd.heap.size, 0, none⟩) 0 0) (0) ([]) (by rfl) HOv9w.out _ (some ⟨g, o, none⟩) (i) _ (keysOf (L.take i)) (by rfl) (HR1.out _ HBv9w.out) (keysOf_oneCell _) (by unfold maxLen; omega) (by omega) HBv9w.out.size ?_
        intro v3 v10w ho hg hat
        rw [Nat.zero_add, List.nil_append] at ho
        obtain ⟨Av10w, cv10w, rfl⟩ := own_form ho
        have hb1x : Below w1.heap.size w1 v10w := HBv9w.out.grown hg HBv9w.out.size (fun g e => (HOv9w.out.lt g e).1)
        have HOv10w := Lib.hid ho
        have HXv10w := Lib.hid (HXv9w.out.grown hg (fun e => HNv9w.out _ e.symm rfl))
        have HNv10w : Hid (∀ g, Value.ownBlock (.slice Av10w (i) cv10w) = some g → g ≠ v1w.heap.size) := fun g e => by
          rcases hat with h | h
          · exact HNv9w.out g (h.symm.trans e)
          · have h1 := HXv9w.out.lt; rw [e] at h; injection h with h; omega
        have HBv10w := Lib.hid hb1x
        clear ho hg hat hb1x
        refine hK.out _ _ (by exact range_below (a := w1) (by first | exact HBv10w.out | exact below_al HBv10w.out _ | exact hb1x) hlk rra) (fun hHeld => ?_)
        clear hK K
        conv => arg 8; simp only [Act.put, List.setIfInBounds_toArray, List.set_cons_zero, List.set_cons_succ]
        refine wpAnyH_ready (rs := [9]) (by kernel_rfl) (by simp) ?_
        refine (AllReadyH.cons (o := ⟨some 27, _, _, _, _, _⟩) rfl (fun K hK => ?_) AllReadyH.nil)
        refine step_append_any _ (by rfl) (.tmp 22) (.tmp 26) _ (by rfl) w1.heap.size 30 i0 _ 32 32 Try.underlying28 HI0.out HZ0.out hz1 hz2 rfl (by omega) (.slice Av10w (i) cv10w) (i) (keysOf (L.take i)) (by rfl) HOv10w.out _ (some ⟨g, o, none⟩) (0) 0 ([]) (by rfl) (Reads.none_ (B := 0) (A := some ⟨g, o, none⟩)) (by simp) (by unfold maxLen; omega) (by omega) HBv10w.out.size ?_
        intro v3 v11w ho hg hat
        rw [Nat.add_zero, List.append_nil] at ho
        obtain ⟨Av11w, cv11w, rfl⟩ := own_form ho
        have hb1x : Below w1.heap.size w1 v11w := HBv10w.out.grown hg HBv10w.out.size (fun g e => (HOv10w.out.lt g e).1)
        have HOv11w := Lib.hid ho
        have HXv11w := Lib.hid (HXv10w.out.grown hg (fun e => HNv10w.out _ e.symm rfl))
        have HNv11w : Hid (∀ g, Value.ownBlock (.slice Av11w (i) cv11w) = some g → g ≠ v1w.heap.size) := fun g e => by
          rcases hat with h | h
          · exact HNv10w.out g (h.symm.trans e)
          · have h1 := HXv10w.out.lt; rw [e] at h; injection h with h; omega
        have HBv11w := Lib.hid hb1x
        clear ho hg hat hb1x
        refine hK.out _ _ (by exact range_below (a := w1) (by first | exact HBv11w.out | exact below_al HBv11w.out _ | exact hb1x) hlk rra) (fun hHeld => ?_)
        clear hK K
        conv => arg 8; simp only [Act.put, List.setIfInBounds_toArray, List.set_cons_zero, List.set_cons_succ]
        refine wpAnyH_ready (rs := [12]) (by kernel_rfl) (by simp) ?_
        refine (AllReadyH.cons (o := ⟨some 30, _, _, _, _, _⟩) rfl (fun K hK => ?_) AllReadyH.nil)
        refine step_append_any _ (by rfl) (.tmp 27) (.tmp 29) _ (by rfl) w1.heap.size 30 i0 _ 32 32 Try.underlying28 HI0.out HZ0.out hz1 hz2 rfl (by omega) (.slice Av11w (i) cv11w) (i) (keysOf (L.take i)) (by rfl) HOv11w.out _ (some ⟨v1w.heap.size, 0, none⟩) (1) 1 (keysOf [k]) (by rfl) (reads_key HXv11w.out) (keysOf_oneCell _) (by unfold maxLen; omega) (by omega) HBv11w.out.size ?_
        intro v3 v12w ho hg hat
        skip
        obtain ⟨Av12w, cv12w, rfl⟩ := own_form ho
        have hb1x : Below w1.heap.size w1 v12w := HBv11w.out.grown hg HBv11w.out.size (fun g e => (HOv11w.out.lt g e).1)
        have HOv12w := Lib.hid ho
        have HBv12w := Lib.hid hb1x
        clear ho hg hat hb1x
        refine hK.out _ _ (by exact range_below (a := w1) (by first | exact HBv12w.out | exact below_al HBv12w.out _ | exact hb1x) hlk rra) (fun hHeld => ?_)
        clear hK K
        conv => arg 8; simp only [Act.put, List.setIfInBounds_toArray, List.set_cons_zero, List.set_cons_succ]
        refine wpAnyH_take (i := 13) (oi := ⟨some 6, _, _, _, _, _⟩) (v := ?_) rfl (by kernel_rfl) (by kernel_rfl) (by kernel_rfl) (fun _ _ _ h => h) (Or.inl ⟨by kernel_rfl, ?_⟩) hHeld ?_
        rotate_left
        · intro w hSw
          (try dsimp only at hSw)
          go_simp
          all_goals (with_reducible rfl)
        conv => arg 8; simp only [Act.put, List.setIfInBounds_toArray, List.set_cons_zero, List.set_cons_succ]
        refine wpAnyH_take (i := 14) (oi := ⟨some 7, _, _, _, _, _⟩) (v := ?_) rfl (by kernel_rfl) (by kernel_rfl) (by kernel_rfl) (fun _ _ _ h => h) (Or.inl ⟨by kernel_rfl, ?_⟩) hHeld ?_
        rotate_left
        · intro w hSw
          (try dsimp only at hSw)
          go_simp
          all_goals (with_reducible rfl)
        conv => arg 8; simp only [Act.put, List.setIfInBounds_toArray, List.set_cons_zero, List.set_cons_succ]
        refine wpAnyH_done (by kernel_rfl) ?_ _
        refine NoPanic.normal ?_
        go_wp2_with fail
        go_ret2
        have hl := lackT_len (List.getElem?_eq_getElem hil)
        have hn := HN.out
        have ho : v12w.ownsRow w1.heap.size 30 32 (.slice Av12w (i + 1) cv12w) (lackT L i ++ [k]).length (keysOf (lackT L i ++ [k])) := by
          rw [keysOf_append, keysOf_lackT, show (lackT L i ++ [k]).length = i + 1 by rw [List.length_append, List.length_singleton]; omega]
          rw [hee.out (by first | rfl | trivial)]; simpa [keysOf, List.append_assoc] using HOv12w.out
        exact ⟨_, _, rfl, HB1.out.trans (HBv12w.out.mono hz1'), KL.of_own ho, .inr (fun g hg => Nat.le_trans hz1' (ho.lt g hg).1)⟩
    · go_simp
      refine hK.out _ _ (by exact range_below (a := w1) (by first | exact HBD.out | exact below_al HBD.out _ | exact hb1x) hlk rra) (fun hHeld => ?_)
      clear hK K
      conv => arg 8; simp only [Act.put, List.setIfInBounds_toArray, List.set_cons_zero, List.set_cons_succ]
      generalize hW : World.alloc _ _ = v13w at hHeld ⊢
      have hbx : Below wd.heap.size wd v13w := by rw [← hW]; exact (Below.refl _ _).alloc (Nat.le_refl _) _
      have hxx : Blk v13w wd.heap.size 30 (bytesOf 32 k).toArray := by rw [← hW]; exact heap_alloc_new _ _
      have HXv13w := Lib.hid hxx
      clear hxx
      have HBv13w := Lib.hid (HBD.out.trans (hbx.mono HBD.out.size))
      clear hbx hW
      refine wpAnyH_ready (rs := [0]) (by kernel_rfl) (by simp) ?_
      refine (AllReadyH.cons (o := ⟨some 18, _, _, _, _, _⟩) rfl (fun K hK => ?_) AllReadyH.nil)
      go_simp
      refine hK.out _ _ (by exact range_below (a := w1) (by first | exact HBv13w.out | exact below_al HBv13w.out _ | exact hb1x) hlk rra) (fun hHeld => ?_)
      clear hK K
      conv => arg 8; simp only [Act.put, List.setIfInBounds_toArray, List.set_cons_zero, List.set_cons_succ]
      generalize hW : World.alloc _ _ = v14w at hHeld ⊢
      have hbx : Below v13w.heap.size v13w v14w := by rw [← hW]; exact (Below.refl _ _).alloc (Nat.le_refl _) _
      have hox : v14w.ownsRow w1.heap.size 30 32 (.slice (some ⟨v13w.heap.size, 0, none⟩) 0 0) 0 [] := by rw [← hW]; exact owns_base2 (empty_own _) HBv13w.out.size
      have HOv14w := Lib.hid hox
      clear hox
      have HNv14w : Hid (∀ g, Value.ownBlock (.slice (some ⟨v13w.heap.size, 0, none⟩) 0 0) = some g → g ≠ wd.heap.size) := fun g e => by have h1 := HXv13w.out.lt; injection e with e; have e : v13w.heap.size = g := e; omega
      have HXv14w := Lib.hid (HXv13w.out.below hbx HXv13w.out.lt)
      have HBv14w := Lib.hid (HBv13w.out.trans (hbx.mono HBv13w.out.size))
      clear hbx hW
      refine wpAnyH_ready (rs := [4]) (by kernel_rfl) (by simp) ?_
      refine (AllReadyH.cons (o := ⟨some 22, _, _, _, _, _⟩) rfl (fun K hK => ?_) AllReadyH.nil)
      refine step_append_any _ (by rfl) (.tmp 18) (.tmp 21) _ (by rfl) w1.heap.size 30 i0 _ 32 32 Try.underlying28 HI0.out HZ0.out hz1 hz2 rfl (by omega) (.slice (some ⟨v13w.heap.size, 0, none⟩) 0 0) (0) ([]) (by rfl) HOv14w.out _ (some ⟨g, o, none⟩) (i) _ (keysOf (L.take i)) (by rfl) (HR1.out _ HBv14w.out) (keysOf_oneCell _) (by unfold maxLen; omega) (by omega) HBv14w.out.size ?_
      intro v3 v15w ho hg hat
      rw [Nat.zero_add, List.nil_append] at ho
      obtain ⟨Av15w, cv15w, rfl⟩ := own_form ho
      have hb1x : Below w1.heap.size w1 v15w := HBv14w.out.grown hg HBv14w.out.size (fun g e => (HOv14w.out.lt g e).1)
      have HOv15w := Lib.hid ho
      have HXv15w := Lib.hid (HXv14w.out.grown hg (fun e => HNv14w.out _ e.symm rfl))
      have HNv15w : Hid (∀ g, Value.ownBlock (.slice Av15w (i) cv15w) = some g → g ≠ wd.heap.size) := fun g e => by
        rcases hat with h | h
        · exact HNv14w.out g (h.symm.trans e)
        · have h1 := HXv14w.out.lt; rw [e] at h; injection h with h; omega
      have HBv15w := Lib.hid hb1x
      clear ho hg hat hb1x
      refine hK.out _ _ (by exact range_below (a := w1) (by first | exact HBv15w.out | exact below_al HBv15w.out _ | exact hb1x) hlk rra) (fun hHeld => ?_)
      clear hK K
      conv => arg 8; simp only [Act.put, List.setIfInBounds_toArray, List.set_cons_zero, List.set_cons_succ]
      refine wpAnyH_ready (rs := [9]) (by kernel_rfl) (by simp) ?_
      refine (AllReadyH.cons (o := ⟨some 27, _, _, _, _, _⟩) rfl (fun K hK => ?_) AllReadyH.nil)
      refine step_append_any _ (by rfl) (.tmp 22) (.tmp 26) _ (by rfl) w1.heap.size 30 i0 _ 32 32 Try.underlying28 HI0.out HZ0.out hz1 hz2 rfl (by omega) (.slice Av15w (i) cv15w) (i) (keysOf (L.take i)) (by rfl) HOv15w.out _ (some ⟨g, o, none⟩) (0) 0 ([]) (by rfl) (Reads.none_ (B := 0) (A := some ⟨g, o, none⟩)) (by simp) (by unfold maxLen; omega) (by omega) HBv15w.out.size ?_
      intro v3 v16w ho hg hat
      rw [Nat.add_zero, List.append_nil] at ho
      obtain ⟨Av16w, cv16w, rfl⟩ := own_form ho
      have hb1x : Below w1.heap.size w1 v16w := HBv15w.out.grown hg HBv15w.out.size (fun g e => (HOv15w.out.lt g e).1)
      have HOv16w := Lib.hid ho
      have HXv16w := Lib.hid (HXv15w.out.grown hg (fun e => HNv15w.out _ e.symm rfl))
      have HNv16w : Hid (∀ g, Value.ownBlock (.slice Av16w (i) cv16w) = some g → g ≠ wd.heap.size) := fun g e => by
        rcases hat with h | h
        · exact HNv15w.out g (h.symm.trans e)
        · have h1 := HXv15w.out.lt; rw [e] at h; injection h with h; omega
      have HBv16w := Lib.hid hb1x
      clear ho hg hat hb1x
      refine hK.out _ _ (by exact range_below (a := w1) (by first | exact HBv16w.out | exact below_al HBv16w.out _ | exact hb1x) hlk rra) (fun hHeld => ?_)
      clear hK K
      conv => arg 8; simp only [Act.put, List.setIfInBounds_toArray, List.set_cons_zero, List.set_cons_succ]
      refine wpAnyH_ready (rs := [12]) (by kernel_rfl) (by simp) ?_
      refine (AllReadyH.cons (o := ⟨some 30, _, _, _, _, _⟩) rfl (fun K hK => ?_) AllReadyH.nil)
      refine step_append_any _ (by rfl) (.tmp 27) (.tmp 29) _ (by rfl) w1.heap.size 30 i0 _ 32 32 Try.underlying28 HI0.out HZ0.out hz1 hz2 rfl (by omega) (.slice Av16w (i) cv16w) (i) (keysOf (L.take i)) (by rfl) HOv16w.out _ (some ⟨wd.heap.size, 0, none⟩) (1) 1 (keysOf [k]) (by rfl) (reads_key HXv16w.out) (keysOf_oneCell _) (by unfold maxLen; omega) (by omega) HBv16w.out.size ?_
      intro v3 v17w ho hg hat
      skip
      obtain ⟨Av17w, cv17w, rfl⟩ := own_form ho
      have hb1x : Below w1.heap.size w1 v17w := HBv16w.out.grown hg HBv16w.out.size (fun g e => (HOv16w.out.lt g e).1)
      have HOv17w := Lib.hid ho
      have HBv17w := Lib.hid hb1x
      clear ho hg hat hb1x
      refine hK.out _ _ (by exact range_below (a := w1) (by first | exact HBv17w.out | exact below_al HBv17w.out _ | exact hb1x) hlk rra) (fun hHeld => ?_)
      clear hK K
      conv => arg 8; simp only [Act.put, List.setIfInBounds_toArray, List.set_cons_zero, List.set_cons_succ]
      refine wpAnyH_take (i := 13) (oi := ⟨some 6, _, _, _, _, _⟩) (v := ?_) rfl (by kernel_rfl) (by kernel_rfl) (by kernel_rfl) (fun _ _ _ h => h) (Or.inl ⟨by kernel_rfl, ?_⟩) hHeld ?_
      rotate_left
      · intro w hSw
        (try dsimp only at hSw)
        go_simp
        all_goals (with_reducible rfl)
      conv => arg 8; simp only [Act.put, List.setIfInBounds_toArray, List.set_cons_zero, List.set_cons_succ]
      refine wpAnyH_take (i := 14) (oi := ⟨some 7, _, _, _, _, _⟩) (v := ?_) rfl (by kernel_rfl) (by kernel_rfl) (by kernel_rfl) (fun _ _ _ h => h) (Or.inl ⟨by kernel_rfl, ?_⟩) hHeld ?_
      rotate_left
      · intro w hSw
        (try dsimp only at hSw)
        go_simp
        all_goals (with_reducible rfl)
      conv => arg 8; simp only [Act.put, List.setIfInBounds_toArray, List.set_cons_zero, List.set_cons_succ]
      refine wpAnyH_done (by kernel_rfl) ?_ _
      refine NoPanic.normal ?_
      go_wp2_with fail
      go_ret2
      have hl := lackT_len (List.getElem?_eq_getElem hil)
      have hn := HN.out
      have ho : v17w.ownsRow w1.heap.size 30 32 (.slice Av17w (i + 1) cv17w) (lackT L i ++ [k]).length (keysOf (lackT L i ++ [k])) := by
        rw [keysOf_append, keysOf_lackT, show (lackT L i ++ [k]).length = i + 1 by rw [List.length_append, List.length_singleton]; omega]
        rw [hee.out (by first | rfl | trivial)]; simpa [keysOf, List.append_assoc] using HOv17w.out
      exact ⟨_, _, rfl, HB1.out.trans (HBv17w.out.mono hz1'), KL.of_own ho, .inr (fun g hg => Nat.le_trans hz1' (ho.lt g hg).1)⟩
set_option maxRecDepth 100000 in
set_option maxHeartbeats 2000000 in
attribute [local go_sem ↓] wp_load_k wp_build_key in
theorem rpush_yes_big (w : World) (v : Value) (L : List Ky) (gb : Option Nat) (hk : KL w v L gb) (hL : L.length ≤ 1048576) (z : Int) (hz : 1024 < z) (hz2 : z ≤ 9223372036854775807) (k : Ky) (i : Nat) (hi : idxK L k = some i) :
    Calls Try.prog 22 #[v, .int .i64 z, keyV k] w (RefKPost w (lackT L i ++ [k]) false gb) := by
  obtain ⟨A, c, hv, hka⟩ := hk.keys
  have hKL := hk
  rw [hv] at hk ⊢
  obtain ⟨i0, hi0, hz0, hz1, hz2⟩ := info_parts key_info
  obtain ⟨cx, hcx⟩ : ∃ cx, (bytesOf 32 k).toArray = cx := ⟨_, rfl⟩
  show Calls _ _ #[_, .int .i64 z, .agg (bytesOf 32 k).toArray] _ _
  rw [hcx]
  have HCX := Lib.hid hcx
  have HKA := Lib.hid hka
  have HKL := Lib.hid hKL
  have HV := Lib.hid hv
  have HI0 := Lib.hid hi0
  have HZ0 := Lib.hid hz0
  obtain ⟨n, hn⟩ : ∃ n, L.length = n := ⟨_, rfl⟩
  have HN := Lib.hid hn
  rw [hn] at hL ⊢
  clear hcx hka hk hKL hi0 hz0 hn hv
  go_enter Try.func22, Try.ntmps22
  go_upto_region 1 with (fail)
  generalize hwa : World.alloc w _ = wa
  have hb0 : Below w.heap.size w wa := by rw [← hwa]; exact (Below.refl _ _).alloc (Nat.le_refl _) _
  have hk3 : Blk wa w.heap.size 30 (bytesOf 32 k).toArray := by rw [← hwa, HCX.out]; exact Blk.new w _ _
  have q1 := keyOk_mk (blk_key hk3)
  have q2 := loadK_eq (blk_key hk3)
  have HIX := Lib.hid (rindex_any wa A L.length c L k (HKA.out.below hb0))
  have HB0 := Lib.hid hb0
  have HK3 := Lib.hid hk3
  have hz0' := hb0.size
  clear hwa hb0 hk3
  go_wp2_with fail
  rw [← HN.out]
  refine HIX.out.mono ?_
  rintro e w1 ⟨rfl, hb1⟩
  rw [HN.out]
  have HB1 := Lib.hid (HB0.out.trans (hb1.mono hz0'))
  have hk4 := HK3.out.below hb1 HK3.out.lt
  have HK4 := Lib.hid hk4
  have hz1' := HB1.out.size
  clear q1 q2 hb1 HIX HK3
  obtain ⟨hix, hil⟩ := idxI_some hi
  obtain ⟨g, o, c', hf1, hgb, hcc, hc63, hrd⟩ := HKL.out.form (by omega)
  have hAe : A = some ⟨g, o, none⟩ ∧ c = c' := by
    rw [HV.out] at hf1
    injection hf1 with h1 _ h2
    exact ⟨h1, h2⟩
  obtain ⟨rfl, rfl⟩ := hAe
  have hiL : i < n := by have := HN.out; omega
  rw [HN.out] at hcc
  rw [hix] at *
  have HR1 : Hid (∀ W, Below w1.heap.size w1 W → Reads W w.heap.size 32 (some ⟨g, o, none⟩) i (keysOf (L.take i))) := fun W hW => reads_take ((hrd.below (HB1.out.mono (Nat.le_refl _))).below (hW.mono hz1')) (by omega)
  have HR2 : Hid (c ≠ i + 1 → ∀ W, Below w1.heap.size w1 W → Reads W w.heap.size 32 (some ⟨g, o + (i + 1) * 32, none⟩) (n - (i + 1)) (keysOf (L.drop (i + 1)))) := fun hne W hW => by
    have := reads_drop (c := c) (i := i + 1) ((hrd.below (HB1.out.mono (Nat.le_refl _))).below (hW.mono hz1')) (by omega) (by rw [HN.out]; exact hcc) hne
    rw [HN.out] at this
    exact this
  have hee : Hid (c = i + 1 → L.drop (i + 1) = []) := fun e => List.drop_of_length_le (by have := HN.out; omega)
  clear hrd hix
  by_cases hne : c ≠ i + 1
  · have HNE := Lib.hid hne
    have t1 : (i : Int) ≤ c := by omega
    have t2 : (i : Int) + 1 ≤ n := by omega
    have t3 : (n : Int) ≤ c := by omega
    have g1 : IntKind.i64.wrap ((i : Int) + 1) = (i : Int) + 1 := IntWalk.i64_in _ (by omega)
    have p0 : (0 : Int) ≤ (i : Int) + 1 := by omega
    have p1 : ((i : Int) + 1).toNat = i + 1 := by omega
    have t0 : (0 : Int) ≤ (i : Int) := by omega
    clear hne
    go_upto_region 4 with (fail)
    have hne := HNE.out
    have hu := Try.underlying30
    have hik := key_size k
    have rra := blk_range HK4.out
    have hlk := HK4.out.lt
    have q3 := isKy k
    refine wp_region_noPanic ?_
    refine wp_region_held_drew (S := fun w' => w'.rangeAt w.heap.size 0 (bytesOf 32 k)) (by kernel_rfl) rra (fun hHeld => ?_)
    refine wpAnyH_take (i := 1) (oi := ⟨some 19, _, _, _, _, _⟩) (v := ?_) rfl (by kernel_rfl) (by kernel_rfl) (by kernel_rfl) (fun _ _ _ h => h) (Or.inl ⟨by kernel_rfl, ?_⟩) hHeld ?_
    rotate_left
    · intro w hSw
      (try dsimp only at hSw)
      go_simp
      all_goals (with_reducible rfl)
    conv => arg 8; simp only [Act.put, List.setIfInBounds_toArray, List.set_cons_zero, List.set_cons_succ]
    refine wpAnyH_take (i := 2) (oi := ⟨some 20, _, _, _, _, _⟩) (v := ?_) rfl (by kernel_rfl) (by kernel_rfl) (by kernel_rfl) (fun _ _ _ h => h) (Or.inl ⟨by kernel_rfl, ?_⟩) hHeld ?_
    rotate_left
    · intro w hSw
      (try dsimp only at hSw)
      go_simp
      all_goals (with_reducible rfl)
    conv => arg 8; simp only [Act.put, List.setIfInBounds_toArray, List.set_cons_zero, List.set_cons_succ]
    refine wpAnyH_take (i := 3) (oi := ⟨some 21, _, _, _, _, _⟩) (v := ?_) rfl (by kernel_rfl) (by kernel_rfl) (by kernel_rfl) (fun _ _ _ h => h) (Or.inl ⟨by kernel_rfl, ?_⟩) hHeld ?_
    rotate_left
    · intro w hSw
      (try dsimp only at hSw)
      go_simp
      all_goals (with_reducible rfl)
    conv => arg 8; simp only [Act.put, List.setIfInBounds_toArray, List.set_cons_zero, List.set_cons_succ]
    refine wpAnyH_take (i := 5) (oi := ⟨some 23, _, _, _, _, _⟩) (v := ?_) rfl (by kernel_rfl) (by kernel_rfl) (by kernel_rfl) (fun _ _ _ h => h) (Or.inl ⟨by kernel_rfl, ?_⟩) hHeld ?_
    rotate_left
    · intro w hSw
      (try dsimp only at hSw)
      go_simp
      all_goals (with_reducible rfl)
    conv => arg 8; simp only [Act.put, List.setIfInBounds_toArray, List.set_cons_zero, List.set_cons_succ]
    refine wpAnyH_take (i := 6) (oi := ⟨some 24, _, _, _, _, _⟩) (v := ?_) rfl (by kernel_rfl) (by kernel_rfl) (by kernel_rfl) (fun _ _ _ h => h) (Or.inl ⟨by kernel_rfl, ?_⟩) hHeld ?_
    rotate_left
    · intro w hSw
      (try dsimp only at hSw)
      go_simp
      all_goals (with_reducible rfl)
    conv => arg 8; simp only [Act.put, List.setIfInBounds_toArray, List.set_cons_zero, List.set_cons_succ]
    refine wpAnyH_take (i := 7) (oi := ⟨some 25, _, _, _, _, _⟩) (v := ?_) rfl (by kernel_rfl) (by kernel_rfl) (by kernel_rfl) (fun _ _ _ h => h) (Or.inl ⟨by kernel_rfl, ?_⟩) hHeld ?_
    rotate_left
    · intro w hSw
      (try dsimp only at hSw)
      go_simp
      all_goals (with_reducible rfl)
    conv => arg 8; simp only [Act.put, List.setIfInBounds_toArray, List.set_cons_zero, List.set_cons_succ]
    refine wpAnyH_take (i := 8) (oi := ⟨some 26, _, _, _, _, _⟩) (v := ?_) rfl (by kernel_rfl) (by kernel_rfl) (by kernel_rfl) (fun _ _ _ h => h) (Or.inl ⟨by kernel_rfl, ?_⟩) hHeld ?_
    rotate_left
    · intro w hSw
      (try dsimp only at hSw)
      go_simp
      all_goals (with_reducible rfl)
    conv => arg 8; simp only [Act.put, List.setIfInBounds_toArray, List.set_cons_zero, List.set_cons_succ]
    refine wpAnyH_take (i := 10) (oi := ⟨some 28, _, _, _, _, _⟩) (v := _) rfl (by kernel_rfl) (by kernel_rfl) (by kernel_rfl) (fun _ _ _ h => h) (yieldsIf_load_mid (S := fun w' => w'.rangeAt w.heap.size 0 (bytesOf 32 k)) (by kernel_rfl) _ _ rfl _ _ rfl _ _ (fun w hSw => hSw) hu rfl hik) hHeld ?_
    conv => arg 8; simp only [Act.put, List.setIfInBounds_toArray, List.set_cons_zero, List.set_cons_succ]
    generalize hW : World.drew _ = wd at hHeld ⊢
    have hbd : Below w1.heap.size w1 wd := by rw [← hW]; exact belowDrewR (Below.refl _ _)
    have HBD := Lib.hid hbd
    clear hbd hW
    refine wpAnyH_ready (rs := [0, 11]) (by kernel_rfl) (by simp) ?_
    refine (AllReadyH.cons (o := ⟨some 18, _, _, _, _, _⟩) rfl (fun K hK => ?_) (AllReadyH.cons (o := ⟨some 29, _, _, _, _, _⟩) rfl (fun K hK => ?_) AllReadyH.nil))
    · go_simp
      refine hK.out _ _ (by exact range_below (a := w1) (by first | exact HBD.out | exact below_al HBD.out _ | exact hb1x) hlk rra) (fun hHeld => ?_)
      clear hK K
      conv => arg 8; simp only [Act.put, List.setIfInBounds_toArray, List.set_cons_zero, List.set_cons_succ]
      generalize hW : World.alloc _ _ = v1w at hHeld ⊢
      have hbx : Below wd.heap.size wd v1w := by rw [← hW]; exact (Below.refl _ _).alloc (Nat.le_refl _) _
      have hox : v1w.ownsRow w1.heap.size 30 32 (.slice (some ⟨wd.heap.size, 0, none⟩) 0 0) 0 [] := by rw [← hW]; exact owns_base2 (empty_own _) HBD.out.size
      have HOv1w := Lib.hid hox
      clear hox
      have HBv1w := Lib.hid (HBD.out.trans (hbx.mono HBD.out.size))
      clear hbx hW
      refine wpAnyH_ready (rs := [4, 11]) (by kernel_rfl) (by simp) ?_
      refine (AllReadyH.cons (o := ⟨some 22, _, _, _, _, _⟩) rfl (fun K hK => ?_) (AllReadyH.cons (o := ⟨some 29, _, _, _, _, _⟩) rfl (fun K hK => ?_) AllReadyH.nil))
      · refine step_append_any _ (by rfl) (.tmp 18) (.tmp 21) _ (by rfl) w1.heap.size 30 i0 _ 32 32 Try.underlying28 HI0.out HZ0.out hz1 hz2 rfl (by omega) (.slice (some ⟨wd.heap.size, 0, none⟩) 0 0) (0) ([]) (by rfl) HOv1w.out _ (some ⟨g, o, none⟩) (i) _ (keysOf (L.take i)) (by rfl) (HR1.out _ HBv1w.out) (keysOf_oneCell _) (by unfold maxLen; omega) (by omega) HBv1w.out.size ?_
        intro v3 v2w ho hg hat
        rw [Nat.zero_add, List.nil_append] at ho
        obtain ⟨Av2w, cv2w, rfl⟩ := own_form ho
        have hb1x : Below w1.heap.size w1 v2w := HBv1w.out.grown hg HBv1w.out.size (fun g e => (HOv1w.out.lt g e).1)
        have HOv2w := Lib.hid ho
        have HBv2w := Lib.hid hb1x
        clear ho hg hat hb1x
        refine hK.out _ _ (by exact range_below (a := w1) (by first | exact HBv2w.out | exact below_al HBv2w.out _ | exact hb1x) hlk rra) (fun hHeld => ?_)
        clear hK K
        conv => arg 8; simp only [Act.put, List.setIfInBounds_toArray, List.set_cons_zero, List.set_cons_succ]
        refine wpAnyH_ready (rs := [9, 11]) (by kernel_rfl) (by simp) ?_
        refine (AllReadyH.cons (o := ⟨some 27, _, _, _, _, _⟩) rfl (fun K hK => ?_) (AllReadyH.cons (o := ⟨some 29, _, _, _, _, _⟩) rfl (fun K hK => ?_) AllReadyH.nil))
        · refine step_append_any _ (by rfl) (.tmp 22) (.tmp 26) _ (by rfl) w1.heap.size 30 i0 _ 32 32 Try.underlying28 HI0.out HZ0.out hz1 hz2 rfl (by omega) (.slice Av2w (i) cv2w) (i) (keysOf (L.take i)) (by rfl) HOv2w.out _ (some ⟨g, o + (i + 1) * 32, none⟩) (n - (i + 1)) _ (keysOf (L.drop (i + 1))) (by rfl) (HR2.out HNE.out _ HBv2w.out) (keysOf_oneCell _) (by unfold maxLen; omega) (by omega) HBv2w.out.size ?_
          intro v3 v3w ho hg hat
          skip
          obtain ⟨Av3w, cv3w, rfl⟩ := own_form ho
          have hb1x : Below w1.heap.size w1 v3w := HBv2w.out.grown hg HBv2w.out.size (fun g e => (HOv2w.out.lt g e).1)
          have HOv3w := Lib.hid ho
          have HBv3w := Lib.hid hb1x
          clear ho hg hat hb1x
          refine hK.out _ _ (by exact range_below (a := w1) (by first | exact HBv3w.out | exact below_al HBv3w.out _ | exact hb1x) hlk rra) (fun hHeld => ?_)
          clear hK K
          conv => arg 8; simp only [Act.put, List.setIfInBounds_toArray, List.set_cons_zero, List.set_cons_succ]
          refine wpAnyH_ready (rs := [11]) (by kernel_rfl) (by simp) ?_
          refine (AllReadyH.cons (o := ⟨some 29, _, _, _, _, _⟩) rfl (fun K hK => ?_) AllReadyH.nil)
          go_simp
          refine hK.out _ _ (by exact range_below (a := w1) (by first | exact HBv3w.out | exact below_al HBv3w.out _ | exact hb1x) hlk rra) (fun hHeld => ?_)
          clear hK K
          conv => arg 8; simp only [Act.put, List.setIfInBounds_toArray, List.set_cons_zero, List.set_cons_succ]
          generalize hW : World.alloc _ _ = v4w at hHeld ⊢
          have hbx : Below v3w.heap.size v3w v4w := by rw [← hW]; exact (Below.refl _ _).alloc (Nat.le_refl _) _
          have hxx : Blk v4w v3w.heap.size 30 (bytesOf 32 k).toArray := by rw [← hW]; exact heap_alloc_new _ _
          have HXv4w := Lib.hid hxx
          clear hxx
          have HNv4w : Hid (∀ g, Value.ownBlock (.slice Av3w (i + (n - (i + 1))) cv3w) = some g → g ≠ v3w.heap.size) := fun g e => Nat.ne_of_lt (HOv3w.out.lt g e).2
          have HOv4w := Lib.hid (owns_below HOv3w.out hbx)
          have HBv4w := Lib.hid (HBv3w.out.trans (hbx.mono HBv3w.out.size))
          clear hbx hW
          refine wpAnyH_ready (rs := [12]) (by kernel_rfl) (by simp) ?_
          refine (AllReadyH.cons (o := ⟨some 30, _, _, _, _, _⟩) rfl (fun K hK => ?_) AllReadyH.nil)
          refine step_append_any _ (by rfl) (.tmp 27) (.tmp 29) _ (by rfl) w1.heap.size 30 i0 _ 32 32 Try.underlying28 HI0.out HZ0.out hz1 hz2 rfl (by omega) (.slice Av3w (i + (n - (i + 1))) cv3w) (i + (n - (i + 1))) (keysOf (L.take i) ++ keysOf (L.drop (i + 1))) (by rfl) HOv4w.out _ (some ⟨v3w.heap.size, 0, none⟩) (1) 1 (keysOf [k]) (by rfl) (reads_key HXv4w.out) (keysOf_oneCell _) (by unfold maxLen; omega) (by omega) HBv4w.out.size ?_
          intro v3 v5w ho hg hat
          skip
          obtain ⟨Av5w, cv5w, rfl⟩ := own_form ho
          have hb1x : Below w1.heap.size w1 v5w := HBv4w.out.grown hg HBv4w.out.size (fun g e => (HOv4w.out.lt g e).1)
          have HOv5w := Lib.hid ho
          have HBv5w := Lib.hid hb1x
          clear ho hg hat hb1x
          refine hK.out _ _ (by exact range_below (a := w1) (by first | exact HBv5w.out | exact below_al HBv5w.out _ | exact hb1x) hlk rra) (fun hHeld => ?_)
          clear hK K
          conv => arg 8; simp only [Act.put, List.setIfInBounds_toArray, List.set_cons_zero, List.set_cons_succ]
          refine wpAnyH_take (i := 13) (oi := ⟨some 6, _, _, _, _, _⟩) (v := ?_) rfl (by kernel_rfl) (by kernel_rfl) (by kernel_rfl) (fun _ _ _ h => h) (Or.inl ⟨by kernel_rfl, ?_⟩) hHeld ?_
          rotate_left
          · intro w hSw
            (try dsimp only at hSw)
            go_simp
            all_goals (with_reducible rfl)
          conv => arg 8; simp only [Act.put, List.setIfInBounds_toArray, List.set_cons_zero, List.set_cons_succ]
          refine wpAnyH_take (i := 14) (oi := ⟨some 7, _, _, _, _, _⟩) (v := ?_) rfl (by kernel_rfl) (by kernel_rfl) (by kernel_rfl) (fun _ _ _ h => h) (Or.inl ⟨by kernel_rfl, ?_⟩) hHeld ?_
          rotate_left
          · intro w hSw
            (try dsimp only at hSw)
            go_simp
            all_goals (with_reducible rfl)
          conv => arg 8; simp only [Act.put, List.setIfInBounds_toArray, List.set_cons_zero, List.set_cons_succ]
          refine wpAnyH_done (by kernel_rfl) ?_ _
          refine NoPanic.normal ?_
          go_wp2_with fail
          go_ret2
          have hl := lackT_len (List.getElem?_eq_getElem hil)
          have hn := HN.out
          have ho : v5w.ownsRow w1.heap.size 30 32 (.slice Av5w (i + (n - (i + 1)) + 1) cv5w) (lackT L i ++ [k]).length (keysOf (lackT L i ++ [k])) := by
            rw [keysOf_append, keysOf_lackT, show (lackT L i ++ [k]).length = i + (n - (i + 1)) + 1 by rw [List.length_append, List.length_singleton]; omega]
            exact HOv5w.out
          exact ⟨_, _, rfl, HB1.out.trans (HBv5w.out.mono hz1'), KL.of_own ho, .inr (fun g hg => Nat.le_trans hz1' (ho.lt g hg).1)⟩
        · go_simp
          refine hK.out _ _ (by exact range_below (a := w1) (by first | exact HBv2w.out | exact below_al HBv2w.out _ | exact hb1x) hlk rra) (fun hHeld => ?_)
          clear hK K
          conv => arg 8; simp only [Act.put, List.setIfInBounds_toArray, List.set_cons_zero, List.set_cons_succ]
          generalize hW : World.alloc _ _ = v6w at hHeld ⊢
          have hbx : Below v2w.heap.size v2w v6w := by rw [← hW]; exact (Below.refl _ _).alloc (Nat.le_refl _) _
          have hxx : Blk v6w v2w.heap.size 30 (bytesOf 32 k).toArray := by rw [← hW]; exact heap_alloc_new _ _
          have HXv6w := Lib.hid hxx
          clear hxx
          have HNv6w : Hid (∀ g, Value.ownBlock (.slice Av2w (i) cv2w) = some g → g ≠ v2w.heap.size) := fun g e => Nat.ne_of_lt (HOv2w.out.lt g e).2
          have HOv6w := Lib.hid (owns_below HOv2w.out hbx)
          have HBv6w := Lib.hid (HBv2w.out.trans (hbx.mono HBv2w.out.size))
          clear hbx hW
          refine wpAnyH_ready (rs := [9]) (by kernel_rfl) (by simp) ?_
          refine (AllReadyH.cons (o := ⟨some 27, _, _, _, _, _⟩) rfl (fun K hK => ?_) AllReadyH.nil)
          refine step_append_any _ (by rfl) (.tmp 22) (.tmp 26) _ (by rfl) w1.heap.size 30 i0 _ 32 32 Try.underlying28 HI0.out HZ0.out hz1 hz2 rfl (by omega) (.slice Av2w (i) cv2w) (i) (keysOf (L.take i)) (by rfl) HOv6w.out _ (some ⟨g, o + (i + 1) * 32, none⟩) (n - (i + 1)) _ (keysOf (L.drop (i + 1))) (by rfl) (HR2.out HNE.out _ HBv6w.out) (keysOf_oneCell _) (by unfold maxLen; omega) (by omega) HBv6w.out.size ?_
          intro v3 v7w ho hg hat
          skip
          obtain ⟨Av7w, cv7w, rfl⟩ := own_form ho
          have hb1x : Below w1.heap.size w1 v7w := HBv6w.out.grown hg HBv6w.out.size (fun g e => (HOv6w.out.lt g e).1)
          have HOv7w := Lib.hid ho
          have HXv7w := Lib.hid (HXv6w.out.grown hg (fun e => HNv6w.out _ e.symm rfl))
          have HNv7w : Hid (∀ g, Value.ownBlock (.slice Av7w (i + (n - (i + 1))) cv7w) = some g → g ≠ v2w.heap.size) := fun g e => by
            rcases hat with h | h
            · exact HNv6w.out g (h.symm.trans e)
            · have h1 := HXv6w.out.lt; rw [e] at h; injection h with h; omega
          have HBv7w := Lib.hid hb1x
          clear ho hg hat hb1x
          refine hK.out _ _ (by exact range_below (a := w1) (by first | exact HBv7w.out | exact below_al HBv7w.out _ | exact hb1x) hlk rra) (fun hHeld => ?_)
          clear hK K
          conv => arg 8; simp only [Act.put, List.setIfInBounds_toArray, List.set_cons_zero, List.set_cons_succ]
          refine wpAnyH_ready (rs := [12]) (by kernel_rfl) (by simp) ?_
          refine (AllReadyH.cons (o := ⟨some 30, _, _, _, _, _⟩) rfl (fun K hK => ?_) AllReadyH.nil)
          refine step_append_any _ (by rfl) (.tmp 27) (.tmp 29) _ (by rfl) w1.heap.size 30 i0 _ 32 32 Try.underlying28 HI0.out HZ0.out hz1 hz2 rfl (by omega) (.slice Av7w (i + (n - (i + 1))) cv7w) (i + (n - (i + 1))) (keysOf (L.take i) ++ keysOf (L.drop (i + 1))) (by rfl) HOv7w.out _ (some ⟨v2w.heap.size, 0, none⟩) (1) 1 (keysOf [k]) (by rfl) (reads_key HXv7w.out) (keysOf_oneCell _) (by unfold maxLen; omega) (by omega) HBv7w.out.size ?_
          intro v3 v8w ho hg hat
          skip
          obtain ⟨Av8w, cv8w, rfl⟩ := own_form ho
          have hb1x : Below w1.heap.size w1 v8w := HBv7w.out.grown hg HBv7w.out.size (fun g e => (HOv7w.out.lt g e).1)
          have HOv8w := Lib.hid ho
          have HBv8w := Lib.hid hb1x
          clear ho hg hat hb1x
          refine hK.out _ _ (by exact range_below (a := w1) (by first | exact HBv8w.out | exact below_al HBv8w.out _ | exact hb1x) hlk rra) (fun hHeld => ?_)
          clear hK K
          conv => arg 8; simp only [Act.put, List.setIfInBounds_toArray, List.set_cons_zero, List.set_cons_succ]
          refine wpAnyH_take (i := 13) (oi := ⟨some 6, _, _, _, _, _⟩) (v := ?_) rfl (by kernel_rfl) (by kernel_rfl) (by kernel_rfl) (fun _ _ _ h => h) (Or.inl ⟨by kernel_rfl, ?_⟩) hHeld ?_
          rotate_left
          · intro w hSw
            (try dsimp only at hSw)
            go_simp
            all_goals (with_reducible rfl)
          conv => arg 8; simp only [Act.put, List.setIfInBounds_toArray, List.set_cons_zero, List.set_cons_succ]
          refine wpAnyH_take (i := 14) (oi := ⟨some 7, _, _, _, _, _⟩) (v := ?_) rfl (by kernel_rfl) (by kernel_rfl) (by kernel_rfl) (fun _ _ _ h => h) (Or.inl ⟨by kernel_rfl, ?_⟩) hHeld ?_
          rotate_left
          · intro w hSw
            (try dsimp only at hSw)
            go_simp
            all_goals (with_reducible rfl)
          conv => arg 8; simp only [Act.put, List.setIfInBounds_toArray, List.set_cons_zero, List.set_cons_succ]
          refine wpAnyH_done (by kernel_rfl) ?_ _
          refine NoPanic.normal ?_
          go_wp2_with fail
          go_ret2
          have hl := lackT_len (List.getElem?_eq_getElem hil)
          have hn := HN.out
          have ho : v8w.ownsRow w1.heap.size 30 32 (.slice Av8w (i + (n - (i + 1)) + 1) cv8w) (lackT L i ++ [k]).length (keysOf (lackT L i ++ [k])) := by
            rw [keysOf_append, keysOf_lackT, show (lackT L i ++ [k]).length = i + (n - (i + 1)) + 1 by rw [List.length_append, List.length_singleton]; omega]
            exact HOv8w.out
          exact ⟨_, _, rfl, HB1.out.trans (HBv8w.out.mono hz1'), KL.of_own ho, .inr (fun g hg => Nat.le_trans hz1' (ho.lt g hg).1)⟩
      · go_simp
        refine hK.out _ _ (by exact range_below (a := w1) (by first | exact HBv1w.out | exact below_al HBv1w.out _ | exact hb1x) hlk rra) (fun hHeld => ?_)
        clear hK K
        conv => arg 8; simp only [Act.put, List.setIfInBounds_toArray, List.set_cons_zero, List.set_cons_succ]
        generalize hW : World.alloc _ _ = v9w at hHeld ⊢
        have hbx : Below v1w.heap.size v1w v9w := by rw [← hW]; exact (Below.refl _ _).alloc (Nat.le_refl _) _
        have hxx : Blk v9w v1w.heap.size 30 (bytesOf 32 k).toArray := by rw [← hW]; exact heap_alloc_new _ _
        have HXv9w := Lib.hid hxx
        clear hxx
        have HNv9w : Hid (∀ g, Value.ownBlock (.slice (some ⟨wd.heap.size, 0, none⟩) 0 0) = some g → g ≠ v1w.heap.size) := fun g e => Nat.ne_of_lt (HOv1w.out.lt g e).2
        have HOv9w := Lib.hid (owns_below HOv1w.out hbx)
        have HBv9w := Lib.hid (HBv1w.out.trans (hbx.mono HBv1w.out.size))
        clear hbx hW
        refine wpAnyH_ready (rs := [4]) (by kernel_rfl) (by simp) ?_
        refine (AllReadyH.cons (o := ⟨some 22, _, _, _, _, _⟩) rfl (fun K hK => ?_) AllReadyH.nil)
        refine step_append_any _ (by rfl) (.tmp 18) (.tmp 21) _ (by rfl) w1.heap.size 30 i0 _ 32 32 Try.underlying28 HI0.out HZ0.out hz1 hz2 rfl (by omega) (.slice (some ⟨wd.heap.size, 0, none⟩) 0 0) (0) ([]) (by rfl) HOv9w.out _ (some ⟨g, o, none⟩) (i) _ (keysOf (L.take i)) (by rfl) (HR1.out _ HBv9w.out) (keysOf_oneCell _) (by unfold maxLen; omega) (by omega) HBv9w.out.size ?_
        intro v3 v10w ho hg hat
        rw [Nat.zero_add, List.nil_append] at ho
        obtain ⟨Av10w, cv10w, rfl⟩ := own_form ho
        have hb1x : Below w1.heap.size w1 v10w := HBv9w.out.grown hg HBv9w.out.size (fun g e => (HOv9w.out.lt g e).1)
        have HOv10w := Lib.hid ho
        have HXv10w := Lib.hid (HXv9w.out.grown hg (fun e => HNv9w.out _ e.symm rfl))
        have HNv10w : Hid (∀ g, Value.ownBlock (.slice Av10w (i) cv10w) = some g → g ≠ v1w.heap.size) := fun g e => by
          rcases hat with h | h
          · exact HNv9w.out g (h.symm.trans e)
          · have h1 := HXv9w.out.lt; rw [e] at h; injection h with h; omega
        have HBv10w := Lib.hid hb1x
        clear ho hg hat hb1x
        refine hK.out _ _ (by exact range_below (a := w1) (by first | exact HBv10w.out | exact below_al HBv10w.out _ | exact hb1x) hlk rra) (fun hHeld => ?_)
        clear hK K
        conv => arg 8; simp only [Act.put, List.setIfInBounds_toArray, List.set_cons_zero, List.set_cons_succ]
        refine wpAnyH_ready (rs := [9]) (by kernel_rfl) (by simp) ?_
        refine (AllReadyH.cons (o := ⟨some 27, _, _, _, _, _⟩) rfl (fun K hK => ?_) AllReadyH.nil)
        refine step_append_any _ (by rfl) (.tmp 22) (.tmp 26) _ (by rfl) w1.heap.size 30 i0 _ 32 32 Try.underlying28 HI0.out HZ0.out hz1 hz2 rfl (by omega) (.slice Av10w (i) cv10w) (i) (keysOf (L.take i)) (by rfl) HOv10w.out _ (some ⟨g, o + (i + 1) * 32, none⟩) (n - (i + 1)) _ (keysOf (L.drop (i + 1))) (by rfl) (HR2.out HNE.out _ HBv10w.out) (keysOf_oneCell _) (by unfold maxLen; omega) (by omega) HBv10w.out.size ?_
        intro v3 v11w ho hg hat
        skip
        obtain ⟨Av11w, cv11w, rfl⟩ := own_form ho
        have hb1x : Below w1.heap.size w1 v11w := HBv10w.out.grown hg HBv10w.out.size (fun g e => (HOv10w.out.lt g e).1)
        have HOv11w := Lib.hid ho
        have HXv11w := Lib.hid (HXv10w.out.grown hg (fun e => HNv10w.out _ e.symm rfl))
        have HNv11w : Hid (∀ g, Value.ownBlock (.slice Av11w (i + (n - (i + 1))) cv11w) = some g → g ≠ v1w.heap.size) := fun g e => by
          rcases hat with h | h
          · exact HNv10w.out g (h.symm.trans e)
          · have h1 := HXv10w.out.lt; rw [e] at h; injection h with h; omega
        have HBv11w := Lib.hid hb1x
        clear ho hg hat hb1x
        refine hK.out _ _ (by exact range_below (a := w1) (by first | exact HBv11w.out | exact below_al HBv11w.out _ | exact hb1x) hlk rra) (fun hHeld => ?_)
        clear hK K
        conv => arg 8; simp only [Act.put, List.setIfInBounds_toArray, List.set_cons_zero, List.set_cons_succ]
        refine wpAnyH_ready (rs := [12]) (by kernel_rfl) (by simp) ?_
        refine (AllReadyH.cons (o := ⟨some 30, _, _, _, _, _⟩) rfl (fun K hK => ?_) AllReadyH.nil)
        refine step_append_any _ (by rfl) (.tmp 27) (.tmp 29) _ (by rfl) w1.heap.size 30 i0 _ 32 32 Try.underlying28 HI0.out HZ0.out hz1 hz2 rfl (by omega) (.slice Av11w (i + (n - (i + 1))) cv11w) (i + (n - (i + 1))) (keysOf (L.take i) ++ keysOf (L.drop (i + 1))) (by rfl) HOv11w.out _ (some ⟨v1w.heap.size, 0, none⟩) (1) 1 (keysOf [k]) (by rfl) (reads_key HXv11w.out) (keysOf_oneCell _) (by unfold maxLen; omega) (by omega) HBv11w.out.size ?_
        intro v3 v12w ho hg hat
        skip
        obtain ⟨Av12w, cv12w, rfl⟩ := own_form ho
        have hb1x : Below w1.heap.size w1 v12w := HBv11w.out.grown hg HBv11w.out.size (fun g e => (HOv11w.out.lt g e).1)
        have HOv12w := Lib.hid ho
        have HBv12w := Lib.hid hb1x
        clear ho hg hat hb1x
        refine hK.out _ _ (by exact range_below (a := w1) (by first | exact HBv12w.out | exact below_al HBv12w.out _ | exact hb1x) hlk rra) (fun hHeld => ?_)
        clear hK K
        conv => arg 8; simp only [Act.put, List.setIfInBounds_toArray, List.set_cons_zero, List.set_cons_succ]
        refine wpAnyH_take (i := 13) (oi := ⟨some 6, _, _, _, _, _⟩) (v := ?_) rfl (by kernel_rfl) (by kernel_rfl) (by kernel_rfl) (fun _ _ _ h => h) (Or.inl ⟨by kernel_rfl, ?_⟩) hHeld ?_
        rotate_left
        · intro w hSw
          (try dsimp only at hSw)
          go_simp
          all_goals (with_reducible rfl)
        conv => arg 8; simp only [Act.put, List.setIfInBounds_toArray, List.set_cons_zero, List.set_cons_succ]
        refine wpAnyH_take (i := 14) (oi := ⟨some 7, _, _, _, _, _⟩) (v := ?_) rfl (by kernel_rfl) (by kernel_rfl) (by kernel_rfl) (fun _ _ _ h => h) (Or.inl ⟨by kernel_rfl, ?_⟩) hHeld ?_
        rotate_left
        · intro w hSw
          (try dsimp only at hSw)
          go_simp
          all_goals (with_reducible rfl)
        conv => arg 8; simp only [Act.put, List.setIfInBounds_toArray, List.set_cons_zero, List.set_cons_succ]
        refine wpAnyH_done (by kernel_rfl) ?_ _
        refine NoPanic.normal ?_
        go_wp2_with fail
        go_ret2
        have hl := lackT_len (List.getElem?_eq_getElem hil)
        have hn := HN.out
        have ho : v12w.ownsRow w1.heap.size 30 32 (.slice Av12w (i + (n - (i + 1)) + 1) cv12w) (lackT L i ++ [k]).length (keysOf (lackT L i ++ [k])) := by
          rw [keysOf_append, keysOf_lackT, show (lackT L i ++ [k]).length = i + (n - (i + 1)) + 1 by rw [List.length_append, List.length_singleton]; omega]
          exact HOv12w.out
        exact ⟨_, _, rfl, HB1.out.trans (HBv12w.out.mono hz1'), KL.of_own ho, .inr (fun g hg => Nat.le_trans hz1' (ho.lt g hg).1)⟩
    · go_simp
      refine hK.out _ _ (by exact range_below (a := w1) (by first | exact HBD.out | exact below_al HBD.out _ | exact hb1x) hlk rra) (fun hHeld => ?_)
      clear hK K
      conv => arg 8; simp only [Act.put, List.setIfInBounds_toArray, List.set_cons_zero, List.set_cons_succ]
      generalize hW : World.alloc _ _ = v13w at hHeld ⊢
      have hbx : Below wd.heap.size wd v13w := by rw [← hW]; exact (Below.refl _ _).alloc (Nat.le_refl _) _
      have hxx : Blk v13w wd.heap.size 30 (bytesOf 32 k).toArray := by rw [← hW]; exact heap_alloc_new _ _
      have HXv13w := Lib.hid hxx
      clear hxx
      have HBv13w := Lib.hid (HBD.out.trans (hbx.mono HBD.out.size))
      clear hbx hW
      refine wpAnyH_ready (rs := [0]) (by kernel_rfl) (by simp) ?_
      refine (AllReadyH.cons (o := ⟨some 18, _, _, _, _, _⟩) rfl (fun K hK => ?_) AllReadyH.nil)
      go_simp
      refine hK.out _ _ (by exact range_below (a := w1) (by first | exact HBv13w.out | exact below_al HBv13w.out _ | exact hb1x) hlk rra) (fun hHeld => ?_)
      clear hK K
      conv => arg 8; simp only [Act.put, List.setIfInBounds_toArray, List.set_cons_zero, List.set_cons_succ]
      generalize hW : World.alloc _ _ = v14w at hHeld ⊢
      have hbx : Below v13w.heap.size v13w v14w := by rw [← hW]; exact (Below.refl _ _).alloc (Nat.le_refl _) _
      have hox : v14w.ownsRow w1.heap.size 30 32 (.slice (some ⟨v13w.heap.size, 0, none⟩) 0 0) 0 [] := by rw [← hW]; exact owns_base2 (empty_own _) HBv13w.out.size
      have HOv14w := Lib.hid hox
      clear hox
      have HNv14w : Hid (∀ g, Value.ownBlock (.slice (some ⟨v13w.heap.size, 0, none⟩) 0 0) = some g → g ≠ wd.heap.size) := fun g e => by have h1 := HXv13w.out.lt; injection e with e; have e : v13w.heap.size = g := e; omega
      have HXv14w := Lib.hid (HXv13w.out.below hbx HXv13w.out.lt)
      have HBv14w := Lib.hid (HBv13w.out.trans (hbx.mono HBv13w.out.size))
      clear hbx hW
      refine wpAnyH_ready (rs := [4]) (by kernel_rfl) (by simp) ?_
      refine (AllReadyH.cons (o := ⟨some 22, _, _, _, _, _⟩) rfl (fun K hK => ?_) AllReadyH.nil)
      refine step_append_any _ (by rfl) (.tmp 18) (.tmp 21) _ (by rfl) w1.heap.size 30 i0 _ 32 32 Try.underlying28 HI0.out HZ0.out hz1 hz2 rfl (by omega) (.slice (some ⟨v13w.heap.size, 0, none⟩) 0 0) (0) ([]) (by rfl) HOv14w.out _ (some ⟨g, o, none⟩) (i) _ (keysOf (L.take i)) (by rfl) (HR1.out _ HBv14w.out) (keysOf_oneCell _) (by unfold maxLen; omega) (by omega) HBv14w.out.size ?_
      intro v3 v15w ho hg hat
      rw [Nat.zero_add, List.nil_append] at ho
      obtain ⟨Av15w, cv15w, rfl⟩ := own_form ho
      have hb1x : Below w1.heap.size w1 v15w := HBv14w.out.grown hg HBv14w.out.size (fun g e => (HOv14w.out.lt g e).1)
      have HOv15w := Lib.hid ho
      have HXv15w := Lib.hid (HXv14w.out.grown hg (fun e => HNv14w.out _ e.symm rfl))
      have HNv15w : Hid (∀ g, Value.ownBlock (.slice Av15w (i) cv15w) = some g → g ≠ wd.heap.size) := fun g e => by
        rcases hat with h | h
        · exact HNv14w.out g (h.symm.trans e)
        · have h1 := HXv14w.out.lt; rw [e] at h; injection h with h; omega
      have HBv15w := Lib.hid hb1x
      clear ho hg hat hb1x
      refine hK.out _ _ (by exact range_below (a := w1) (by first | exact HBv15w.out | exact below_al HBv15w.out _ | exact hb1x) hlk rra) (fun hHeld => ?_)
      clear hK K
      conv => arg 8; simp only [Act.put, List.setIfInBounds_toArray, List.set_cons_zero, List.set_cons_succ]
      refine wpAnyH_ready (rs := [9]) (by kernel_rfl) (by simp) ?_
      refine (AllReadyH.cons (o := ⟨some 27, _, _, _, _, _⟩) rfl (fun K hK => ?_) AllReadyH.nil)
      refine step_append_any _ (by rfl) (.tmp 22) (.tmp 26) _ (by rfl) w1.heap.size 30 i0 _ 32 32 Try.underlying28 HI0.out HZ0.out hz1 hz2 rfl (by omega) (.slice Av15w (i) cv15w) (i) (keysOf (L.take i)) (by rfl) HOv15w.out _ (some ⟨g, o + (i + 1) * 32, none⟩) (n - (i + 1)) _ (keysOf (L.drop (i + 1))) (by rfl) (HR2.out HNE.out _ HBv15w.out) (keysOf_oneCell _) (by unfold maxLen; omega) (by omega) HBv15w.out.size ?_
      intro v3 v16w ho hg hat
      skip
      obtain ⟨Av16w, cv16w, rfl⟩ := own_form ho
      have hb1x : Below w1.heap.size w1 v16w := HBv15w.out.grown hg HBv15w.out.size (fun g e => (HOv15w.out.lt g e).1)
      have HOv16w := Lib.hid ho
      have HXv16w := Lib.hid (HXv15w.out.grown hg (fun e => HNv15w.out _ e.symm rfl))
      have HNv16w : Hid (∀ g, Value.ownBlock (.slice Av16w (i + (n - (i + 1))) cv16w) = some g → g ≠ wd.heap.size) := fun g e => by
        rcases hat with h | h
        · exact HNv15w.out g (h.symm.trans e)
        · have h1 := HXv15w.out.lt; rw [e] at h; injection h with h; omega
      have HBv16w := Lib.hid hb1x
      clear ho hg hat hb1x
      refine hK.out _ _ (by exact range_below (a := w1) (by first | exact HBv16w.out | exact below_al HBv16w.out _ | exact hb1x) hlk rra) (fun hHeld => ?_)
      clear hK K
      conv => arg 8; simp only [Act.put, List.setIfInBounds_toArray, List.set_cons_zero, List.set_cons_succ]
      refine wpAnyH_ready (rs := [12]) (by kernel_rfl) (by simp) ?_
      refine (AllReadyH.cons (o := ⟨some 30, _, _, _, _, _⟩) rfl (fun K hK => ?_) AllReadyH.nil)
      refine step_append_any _ (by rfl) (.tmp 27) (.tmp 29) _ (by rfl) w1.heap.size 30 i0 _ 32 32 Try.underlying28 HI0.out HZ0.out hz1 hz2 rfl (by omega) (.slice Av16w (i + (n - (i + 1))) cv16w) (i + (n - (i + 1))) (keysOf (L.take i) ++ keysOf (L.drop (i + 1))) (by rfl) HOv16w.out _ (some ⟨wd.heap.size, 0, none⟩) (1) 1 (keysOf [k]) (by rfl) (reads_key HXv16w.out) (keysOf_oneCell _) (by unfold maxLen; omega) (by omega) HBv16w.out.size ?_
      intro v3 v17w ho hg hat
      skip
      obtain ⟨Av17w, cv17w, rfl⟩ := own_form ho
      have hb1x : Below w1.heap.size w1 v17w := HBv16w.out.grown hg HBv16w.out.size (fun g e => (HOv16w.out.lt g e).1)
      have HOv17w := Lib.hid ho
      have HBv17w := Lib.hid hb1x
      clear ho hg hat hb1x
      refine hK.out _ _ (by exact range_below (a := w1) (by first | exact HBv17w.out | exact below_al HBv17w.out _ | exact hb1x) hlk rra) (fun hHeld => ?_)
      clear hK K
      conv => arg 8; simp only [Act.put, List.setIfInBounds_toArray, List.set_cons_zero, List.set_cons_succ]
      refine wpAnyH_take (i := 13) (oi := ⟨some 6, _, _, _, _, _⟩) (v := ?_) rfl (by kernel_rfl) (by kernel_rfl) (by kernel_rfl) (fun _ _ _ h => h) (Or.inl ⟨by kernel_rfl, ?_⟩) hHeld ?_
      rotate_left
      · intro w hSw
        (try dsimp only at hSw)
        go_simp
        all_goals (with_reducible rfl)
      conv => arg 8; simp only [Act.put, List.setIfInBounds_toArray, List.set_cons_zero, List.set_cons_succ]
      refine wpAnyH_take (i := 14) (oi := ⟨some 7, _, _, _, _, _⟩) (v := ?_) rfl (by kernel_rfl) (by kernel_rfl) (by kernel_rfl) (fun _ _ _ h => h) (Or.inl ⟨by kernel_rfl, ?_⟩) hHeld ?_
      rotate_left
      · intro w hSw
        (try dsimp only at hSw)
        go_simp
        all_goals (with_reducible rfl)
      conv => arg 8; simp only [Act.put, List.setIfInBounds_toArray, List.set_cons_zero, List.set_cons_succ]
      refine wpAnyH_done (by kernel_rfl) ?_ _
      refine NoPanic.normal ?_
      go_wp2_with fail
      go_ret2
      have hl := lackT_len (List.getElem?_eq_getElem hil)
      have hn := HN.out
      have ho : v17w.ownsRow w1.heap.size 30 32 (.slice Av17w (i + (n - (i + 1)) + 1) cv17w) (lackT L i ++ [k]).length (keysOf (lackT L i ++ [k])) := by
        rw [keysOf_append, keysOf_lackT, show (lackT L i ++ [k]).length = i + (n - (i + 1)) + 1 by rw [List.length_append, List.length_singleton]; omega]
        exact HOv17w.out
      exact ⟨_, _, rfl, HB1.out.trans (HBv17w.out.mono hz1'), KL.of_own ho, .inr (fun g hg => Nat.le_trans hz1' (ho.lt g hg).1)⟩
  · obtain rfl : c = i + 1 := by omega
    obtain rfl : n = i + 1 := by omega
    have t1 : (i : Int) ≤ (i : Int) + 1 := by omega
    have t2 : (i : Int) < (i : Int) + 1 := by omega
    have g1 : IntKind.i64.wrap ((i : Int) + 1) = (i : Int) + 1 := IntWalk.i64_in _ (by omega)
    have p0 : (0 : Int) ≤ (i : Int) + 1 := by omega
    have p1 : ((i : Int) + 1).toNat = i + 1 := by omega
    have t0 : (0 : Int) ≤ (i : Int) := by omega
    clear hne
    go_upto_region 4 with (fail)
    have hu := Try.underlying30
    have hik := key_size k
    have rra := blk_range HK4.out
    have hlk := HK4.out.lt
    have q3 := isKy k
    refine wp_region_noPanic ?_
    refine wp_region_held_drew (S := fun w' => w'.rangeAt w.heap.size 0 (bytesOf 32 k)) (by kernel_rfl) rra (fun hHeld => ?_)
    refine wpAnyH_take (i := 1) (oi := ⟨some 19, _, _, _, _, _⟩) (v := ?_) rfl (by kernel_rfl) (by kernel_rfl) (by kernel_rfl) (fun _ _ _ h => h) (Or.inl ⟨by kernel_rfl, ?_⟩) hHeld ?_
    rotate_left
    · intro w hSw
      (try dsimp only at hSw)
      go_simp
      all_goals (with_reducible rfl)
    conv => arg 8; simp only [Act.put, List.setIfInBounds_toArray, List.set_cons_zero, List.set_cons_succ]
    refine wpAnyH_take (i := 2) (oi := ⟨some 20, _, _, _, _, _⟩) (v := ?_) rfl (by kernel_rfl) (by kernel_rfl) (by kernel_rfl) (fun _ _ _ h => h) (Or.inl ⟨by kernel_rfl, ?_⟩) hHeld ?_
    rotate_left
    · intro w hSw
      (try dsimp only at hSw)
      go_simp
      all_goals (with_reducible rfl)
    conv => arg 8; simp only [Act.put, List.setIfInBounds_toArray, List.set_cons_zero, List.set_cons_succ]
    refine wpAnyH_take (i := 3) (oi := ⟨some 21, _, _, _, _, _⟩) (v := ?_) rfl (by kernel_rfl) (by kernel_rfl) (by kernel_rfl) (fun _ _ _ h => h) (Or.inl ⟨by kernel_rfl, ?_⟩) hHeld ?_
    rotate_left
    · intro w hSw
      (try dsimp only at hSw)
      go_simp
      all_goals (with_reducible rfl)
    conv => arg 8; simp only [Act.put, List.setIfInBounds_toArray, List.set_cons_zero, List.set_cons_succ]
    refine wpAnyH_take (i := 5) (oi := ⟨some 23, _, _, _, _, _⟩) (v := ?_) rfl (by kernel_rfl) (by kernel_rfl) (by kernel_rfl) (fun _ _ _ h => h) (Or.inl ⟨by kernel_rfl, ?_⟩) hHeld ?_
    rotate_left
    · intro w hSw
      (try dsimp only at hSw)
      go_simp
      all_goals (with_reducible rfl)
    conv => arg 8; simp only [Act.put, List.setIfInBounds_toArray, List.set_cons_zero, List.set_cons_succ]
    refine wpAnyH_take (i := 6) (oi := ⟨some 24, _, _, _, _, _⟩) (v := ?_) rfl (by kernel_rfl) (by kernel_rfl) (by kernel_rfl) (fun _ _ _ h => h) (Or.inl ⟨by kernel_rfl, ?_⟩) hHeld ?_
    rotate_left
    · intro w hSw
      (try dsimp only at hSw)
      go_simp
      all_goals (with_reducible rfl)
    conv => arg 8; simp only [Act.put, List.setIfInBounds_toArray, List.set_cons_zero, List.set_cons_succ]
    refine wpAnyH_take (i := 7) (oi := ⟨some 25, _, _, _, _, _⟩) (v := ?_) rfl (by kernel_rfl) (by kernel_rfl) (by kernel_rfl) (fun _ _ _ h => h) (Or.inl ⟨by kernel_rfl, ?_⟩) hHeld ?_
    rotate_left
    · intro w hSw
      (try dsimp only at hSw)
      go_simp
      all_goals (with_reducible rfl)
    conv => arg 8; simp only [Act.put, List.setIfInBounds_toArray, List.set_cons_zero, List.set_cons_succ]
    refine wpAnyH_take (i := 8) (oi := ⟨some 26, _, _, _, _, _⟩) (v := ?_) rfl (by kernel_rfl) (by kernel_rfl) (by kernel_rfl) (fun _ _ _ h => h) (Or.inl ⟨by kernel_rfl, ?_⟩) hHeld ?_
    rotate_left
    · intro w hSw
      (try dsimp only at hSw)
      go_simp
      all_goals (with_reducible rfl)
    conv => arg 8; simp only [Act.put, List.setIfInBounds_toArray, List.set_cons_zero, List.set_cons_succ]
    refine wpAnyH_take (i := 10) (oi := ⟨some 28, _, _, _, _, _⟩) (v := _) rfl (by kernel_rfl) (by kernel_rfl) (by kernel_rfl) (fun _ _ _ h => h) (yieldsIf_load_mid (S := fun w' => w'.rangeAt w.heap.size 0 (bytesOf 32 k)) (by kernel_rfl) _ _ rfl _ _ rfl _ _ (fun w hSw => hSw) hu rfl hik) hHeld ?_
    conv => arg 8; simp only [Act.put, List.setIfInBounds_toArray, List.set_cons_zero, List.set_cons_succ]
    generalize hW : World.drew _ = wd at hHeld ⊢
    have hbd : Below w1.heap.size w1 wd := by rw [← hW]; exact belowDrewR (Below.refl _ _)
    have HBD := Lib.hid hbd
    clear hbd hW
    refine wpAnyH_ready (rs := [0, 11]) (by kernel_rfl) (by simp) ?_
    refine (AllReadyH.cons (o := ⟨some 18, _, _, _, _, _⟩) rfl (fun K hK => ?_) (AllReadyH.cons (o := ⟨some 29, _, _, _, _, _⟩) rfl (fun K hK => ?_) AllReadyH.nil))
    · go_simp
      refine hK.out _ _ (by exact range_below (a := w1) (by first | exact HBD.out | exact below_al HBD.out _ | exact hb1x) hlk rra) (fun hHeld => ?_)
      clear hK K
      conv => arg 8; simp only [Act.put, List.setIfInBounds_toArray, List.set_cons_zero, List.set_cons_succ]
      generalize hW : World.alloc _ _ = v1w at hHeld ⊢
      have hbx : Below wd.heap.size wd v1w := by rw [← hW]; exact (Below.refl _ _).alloc (Nat.le_refl _) _
      have hox : v1w.ownsRow w1.heap.size 30 32 (.slice (some ⟨wd.heap.size, 0, none⟩) 0 0) 0 [] := by rw [← hW]; exact owns_base2 (empty_own _) HBD.out.size
      have HOv1w := Lib.hid hox
      clear hox
      have HBv1w := Lib.hid (HBD.out.trans (hbx.mono HBD.out.size))
      clear hbx hW
      refine wpAnyH_ready (rs := [4, 11]) (by kernel_rfl) (by simp) ?_
      refine (AllReadyH.cons (o := ⟨some 22, _, _, _, _, _⟩) rfl (fun K hK => ?_) (AllReadyH.cons (o := ⟨some 29, _, _, _, _, _⟩) rfl (fun K hK => ?_) AllReadyH.nil))
      · refine step_append_any _ (by rfl) (.tmp 18) (.tmp 21) _ (by rfl) w1.heap.size 30 i0 _ 32 32 Try.underlying28 HI0.out HZ0.out hz1 hz2 rfl (by omega) (.slice (some ⟨wd.heap.size, 0, none⟩) 0 0) (0) ([]) (by rfl) HOv1w.out _ (some ⟨g, o, none⟩) (i) _ (keysOf (L.take i)) (by rfl) (HR1.out _ HBv1w.out) (keysOf_oneCell _) (by unfold maxLen; omega) (by omega) HBv1w.out.size ?_
        intro v3 v2w ho hg hat
        rw [Nat.zero_add, List.nil_append] at ho
        obtain ⟨Av2w, cv2w, rfl⟩ := own_form ho
        have hb1x : Below w1.heap.size w1 v2w := HBv1w.out.grown hg HBv1w.out.size (fun g e => (HOv1w.out.lt g e).1)
        have HOv2w := Lib.hid ho
        have HBv2w := Lib.hid hb1x
        clear ho hg hat hb1x
        refine hK.out _ _ (by exact range_below (a := w1) (by first | exact HBv2w.out | exact below_al HBv2w.out _ | exact hb1x) hlk rra) (fun hHeld => ?_)
        clear hK K
        conv => arg 8; simp only [Act.put, List.setIfInBounds_toArray, List.set_cons_zero, List.set_cons_succ]
        refine wpAnyH_ready (rs := [9, 11]) (by kernel_rfl) (by simp) ?_
        refine (AllReadyH.cons (o := ⟨some 27, _, _, _, _, _⟩) rfl (fun K hK => ?_) (AllReadyH.cons (o := ⟨some 29, _, _, _, _, _⟩) rfl (fun K hK => ?_) AllReadyH.nil))
        · refine step_append_any _ (by rfl) (.tmp 22) (.tmp 26) _ (by rfl) w1.heap.size 30 i0 _ 32 32 Try.underlying28 HI0.out HZ0.out hz1 hz2 rfl (by omega) (.slice Av2w (i) cv2w) (i) (keysOf (L.take i)) (by rfl) HOv2w.out _ (some ⟨g, o, none⟩) (0) 0 ([]) (by rfl) (Reads.none_ (B := 0) (A := some ⟨g, o, none⟩)) (by simp) (by unfold maxLen; omega) (by omega) HBv2w.out.size ?_
          intro v3 v3w ho hg hat
          rw [Nat.add_zero, List.append_nil] at ho
          obtain ⟨Av3w, cv3w, rfl⟩ := own_form ho
          have hb1x : Below w1.heap.size w1 v3w := HBv2w.out.grown hg HBv2w.out.size (fun g e => (HOv2w.out.lt g e).1)
          have HOv3w := Lib.hid ho
          have HBv3w := Lib.hid hb1x
          clear ho hg hat hb1x
          refine hK.out _ _ (by exact range_below (a := w1) (by first | exact HBv3w.out | exact below_al HBv3w.out _ | exact hb1x) hlk rra) (fun hHeld => ?_)
          clear hK K
          conv => arg 8; simp only [Act.put, List.setIfInBounds_toArray, List.set_cons_zero, List.set_cons_succ]
          refine wpAnyH_ready (rs := [11]) (by kernel_rfl) (by simp) ?_
          refine (AllReadyH.cons (o := ⟨some 29, _, _, _, _, _⟩) rfl (fun K hK => ?_) AllReadyH.nil)
          go_simp
          refine hK.out _ _ (by exact range_below (a := w1) (by first | exact HBv3w.out | exact below_al HBv3w.out _ | exact hb1x) hlk rra) (fun hHeld => ?_)
          clear hK K
          conv => arg 8; simp only [Act.put, List.setIfInBounds_toArray, List.set_cons_zero, List.set_cons_succ]
          generalize hW : World.alloc _ _ = v4w at hHeld ⊢
          have hbx : Below v3w.heap.size v3w v4w := by rw [← hW]; exact (Below.refl _ _).alloc (Nat.le_refl _) _
          have hxx : Blk v4w v3w.heap.size 30 (bytesOf 32 k).toArray := by rw [← hW]; exact heap_alloc_new _ _
          have HXv4w := Lib.hid hxx
          clear hxx
          have HNv4w : Hid (∀ g, Value.ownBlock (.slice Av3w (i) cv3w) = some g → g ≠ v3w.heap.size) := fun g e => Nat.ne_of_lt (HOv3w.out.lt g e).2
          have HOv4w := Lib.hid (owns_below HOv3w.out hbx)
          have HBv4w := Lib.hid (HBv3w.out.trans (hbx.mono HBv3w.out.size))
          clear hbx hW
          refine wpAnyH_ready (rs := [12]) (by kernel_rfl) (by simp) ?_
          refine (AllReadyH.cons (o := ⟨some 30, _, _, _, _, _⟩) rfl (fun K hK => ?_) AllReadyH.nil)
          refine step_append_any _ (by rfl) (.tmp 27) (.tmp 29) _ (by rfl) w1.heap.size 30 i0 _ 32 32 Try.underlying28 HI0.out HZ0.out hz1 hz2 rfl (by omega) (.slice Av3w (i) cv3w) (i) (keysOf (L.take i)) (by rfl) HOv4w.out _ (some ⟨v3w.heap.size, 0, none⟩) (1) 1 (keysOf [k]) (by rfl) (reads_key HXv4w.out) (keysOf_oneCell _) (by unfold maxLen; omega) (by omega) HBv4w.out.size ?_
          intro v3 v5w ho hg hat
          skip
          obtain ⟨Av5w, cv5w, rfl⟩ := own_form ho
          have hb1x : Below w1.heap.size w1 v5w := HBv4w.out.grown hg HBv4w.out.size (fun g e => (HOv4w.out.lt g e).1)
          have HOv5w := Lib.hid ho
          have HBv5w := Lib.hid hb1x
          clear ho hg hat hb1x
          refine hK.out _ _ (by exact range_below (a := w1) (by first | exact HBv5w.out | exact below_al HBv5w.out _ | exact hb1x) hlk rra) (fun hHeld => ?_)
          clear hK K
          conv => arg 8; simp only [Act.put, List.setIfInBounds_toArray, List.set_cons_zero, List.set_cons_succ]
          refine wpAnyH_take (i := 13) (oi := ⟨some 6, _, _, _, _, _⟩) (v := ?_) rfl (by kernel_rfl) (by kernel_rfl) (by kernel_rfl) (fun _ _ _ h => h) (Or.inl ⟨by kernel_rfl, ?_⟩) hHeld ?_
          rotate_left
          · intro w hSw
            (try dsimp only at hSw)
            go_simp
            all_goals (with_reducible rfl)
          conv => arg 8; simp only [Act.put, List.setIfInBounds_toArray, List.set_cons_zero, List.set_cons_succ]
          refine wpAnyH_take (i := 14) (oi := ⟨some 7, _, _, _, _, _⟩) (v := ?_) rfl (by kernel_rfl) (by kernel_rfl) (by kernel_rfl) (fun _ _ _ h => h) (Or.inl ⟨by kernel_rfl, ?_⟩) hHeld ?_
          rotate_left
          · intro w hSw
            (try dsimp only at hSw)
            go_simp
            all_goals (with_reducible rfl)
          conv => arg 8; simp only [Act.put, List.setIfInBounds_toArray, List.set_cons_zero, List.set_cons_succ]
          refine wpAnyH_done (by kernel_rfl) ?_ _
          refine NoPanic.normal ?_
          go_wp2_with fail
          go_ret2
          have hl := lackT_len (List.getElem?_eq_getElem hil)
          have hn := HN.out
          have ho : v5w.ownsRow w1.heap.size 30 32 (.slice Av5w (i + 1) cv5w) (lackT L i ++ [k]).length (keysOf (lackT L i ++ [k])) := by
            rw [keysOf_append, keysOf_lackT, show (lackT L i ++ [k]).length = i + 1 by rw [List.length_append, List.length_singleton]; omega]
            rw [hee.out (by first | rfl | trivial)]; simpa [keysOf, List.append_assoc] using HOv5w.out
          exact ⟨_, _, rfl, HB1.out.trans (HBv5w.out.mono hz1'), KL.of_own ho, .inr (fun g hg => Nat.le_trans hz1' (ho.lt g hg).1)⟩
        · go_simp
          refine hK.out _ _ (by exact range_below (a := w1) (by first | exact HBv2w.out | exact below_al HBv2w.out _ | exact hb1x) hlk rra) (fun hHeld => ?_)
          clear hK K
          conv => arg 8; simp only [Act.put, List.setIfInBounds_toArray, List.set_cons_zero, List.set_cons_succ]
          generalize hW : World.alloc _ _ = v6w at hHeld ⊢
          have hbx : Below v2w.heap.size v2w v6w := by rw [← hW]; exact (Below.refl _ _).alloc (Nat.le_refl _) _
          have hxx : Blk v6w v2w.heap.size 30 (bytesOf 32 k).toArray := by rw [← hW]; exact heap_alloc_new _ _
          have HXv6w := Lib.hid hxx
          clear hxx
          have HNv6w : Hid (∀ g, Value.ownBlock (.slice Av2w (i) cv2w) = some g → g ≠ v2w.heap.size) := fun g e => Nat.ne_of_lt (HOv2w.out.lt g e).2
          have HOv6w := Lib.hid (owns_below HOv2w.out hbx)
          have HBv6w := Lib.hid (HBv2w.out.trans (hbx.mono HBv2w.out.size))
          clear hbx hW
          refine wpAnyH_ready (rs := [9]) (by kernel_rfl) (by simp) ?_
          refine (AllReadyH.cons (o := ⟨some 27, _, _, _, _, _⟩) rfl (fun K hK => ?_) AllReadyH.nil)
          refine step_append_any _ (by rfl) (.tmp 22) (.tmp 26) _ (by rfl) w1.heap.size 30 i0 _ 32 32 Try.underlying28 HI0.out HZ0.out hz1 hz2 rfl (by omega) (.slice Av2w (i) cv2w) (i) (keysOf (L.take i)) (by rfl) HOv6w.out _ (some ⟨g, o, none⟩) (0) 0 ([]) (by rfl) (Reads.none_ (B := 0) (A := some ⟨g, o, none⟩)) (by simp) (by unfold maxLen; omega) (by omega) HBv6w.out.size ?_
          intro v3 v7w ho hg hat
          rw [Nat.add_zero, List.append_nil] at ho
          obtain ⟨Av7w, cv7w, rfl⟩ := own_form ho
          have hb1x : Below w1.heap.size w1 v7w := HBv6w.out.grown hg HBv6w.out.size (fun g e => (HOv6w.out.lt g e).1)
          have HOv7w := Lib.hid ho
          have HXv7w := Lib.hid (HXv6w.out.grown hg (fun e => HNv6w.out _ e.symm rfl))
          have HNv7w : Hid (∀ g, Value.ownBlock (.slice Av7w (i) cv7w) = some g → g ≠ v2w.heap.size) := fun g e => by
            rcases hat with h | h
            · exact HNv6w.out g (h.symm.trans e)
            · have h1 := HXv6w.out.lt; rw [e] at h; injection h with h; omega
          have HBv7w := Lib.hid hb1x
          clear ho hg hat hb1x
          refine hK.out _ _ (by exact range_below (a := w1) (by first | exact HBv7w.out | exact below_al HBv7w.out _ | exact hb1x) hlk rra) (fun hHeld => ?_)
          clear hK K
          conv => arg 8; simp only [Act.put, List.setIfInBounds_toArray, List.set_cons_zero, List.set_cons_succ]
          refine wpAnyH_ready (rs := [12]) (by kernel_rfl) (by simp) ?_
          refine (AllReadyH.cons (o := ⟨some 30, _, _, _, _, _⟩) rfl (fun K hK => ?_) AllReadyH.nil)
          refine step_append_any _ (by rfl) (.tmp 27) (.tmp 29) _ (by rfl) w1.heap.size 30 i0 _ 32 32 Try.underlying28 HI0.out HZ0.out hz1 hz2 rfl (by omega) (.slice Av7w (i) cv7w) (i) (keysOf (L.take i)) (by rfl) HOv7w.out _ (some ⟨v2w.heap.size, 0, none⟩) (1) 1 (keysOf [k]) (by rfl) (reads_key HXv7w.out) (keysOf_oneCell _) (by unfold maxLen; omega) (by omega) HBv7w.out.size ?_
          intro v3 v8w ho hg hat
          skip
          obtain ⟨Av8w, cv8w, rfl⟩ := own_form ho
          have hb1x : Below w1.heap.size w1 v8w := HBv7w.out.grown hg HBv7w.out.size (fun g e => (HOv7w.out.lt g e).1)
          have HOv8w := Lib.hid ho
          have HBv8w := Lib.hid hb1x
          clear ho hg hat hb1x
          refine hK.out _ _ (by exact range_below (a := w1) (by first | exact HBv8w.out | exact below_al HBv8w.out _ | exact hb1x) hlk rra) (fun hHeld => ?_)
          clear hK K
          conv => arg 8; simp only [Act.put, List.setIfInBounds_toArray, List.set_cons_zero, List.set_cons_succ]
          refine wpAnyH_take (i := 13) (oi := ⟨some 6, _, _, _, _, _⟩) (v := ?_) rfl (by kernel_rfl) (by kernel_rfl) (by kernel_rfl) (fun _ _ _ h => h) (Or.inl ⟨by kernel_rfl, ?_⟩) hHeld ?_
          rotate_left
          · intro w hSw
            (try dsimp only at hSw)
            go_simp
            all_goals (with_reducible rfl)
          conv => arg 8; simp only [Act.put, List.setIfInBounds_toArray, List.set_cons_zero, List.set_cons_succ]
          refine wpAnyH_take (i := 14) (oi := ⟨some 7, _, _, _, _, _⟩) (v := ?_) rfl (by kernel_rfl) (by kernel_rfl) (by kernel_rfl) (fun _ _ _ h => h) (Or.inl ⟨by kernel_rfl, ?_⟩) hHeld ?_
          rotate_left
          · intro w hSw
            (try dsimp only at hSw)
            go_simp
            all_goals (with_reducible rfl)
          conv => arg 8; simp only [Act.put, List.setIfInBounds_toArray, List.set_cons_zero, List.set_cons_succ]
          refine wpAnyH_done (by kernel_rfl) ?_ _
          refine NoPanic.normal ?_
          go_wp2_with fail
          go_ret2
          have hl := lackT_len (List.getElem?_eq_getElem hil)
          have hn := HN.out
          have ho : v8w.ownsRow w1.heap.size 30 32 (.slice Av8w (i + 1) cv8w) (lackT L i ++ [k]).length (keysOf (lackT L i ++ [k])) := by
            rw [keysOf_append, keysOf_lackT, show (lackT L i ++ [k]).length = i + 1 by rw [List.length_append, List.length_singleton]; omega]
            rw [hee.out (by first | rfl | trivial)]; simpa [keysOf, List.append_assoc] using HOv8w.out
          exact ⟨_, _, rfl, HB1.out.trans (HBv8w.out.mono hz1'), KL.of_own ho, .inr (fun g hg => Nat.le_trans hz1' (ho.lt g hg).1)⟩
      · go_simp
        refine hK.out _ _ (by exact range_below (a := w1) (by first | exact HBv1w.out | exact below_al HBv1w.out _ | exact hb1x) hlk rra) (fun hHeld => ?_)
        clear hK K
        conv => arg 8; simp only [Act.put, List.setIfInBounds_toArray, List.set_cons_zero, List.set_cons_succ]
        generalize hW : World.alloc _ _ = v9w at hHeld ⊢
        have hbx : Below v1w.heap.size v1w v9w := by rw [← hW]; exact (Below.refl _ _).alloc (Nat.le_refl _) _
        have hxx : Blk v9w v1w.heap.size 30 (bytesOf 32 k).toArray := by rw [← hW]; exact heap_alloc_new _ _
        have HXv9w := Lib.hid hxx
        clear hxx
        have HNv9w : Hid (∀ g, Value.ownBlock (.slice (some ⟨wd.heap.size, 0, none⟩) 0 0) = some g → g ≠ v1w.heap.size) := fun g e => Nat.ne_of_lt (HOv1w.out.lt g e).2
        have HOv9w := Lib.hid (owns_below HOv1w.out hbx)
        have HBv9w := Lib.hid (HBv1w.out.trans (hbx.mono HBv1w.out.size))
        clear hbx hW
        refine wpAnyH_ready (rs := [4]) (by kernel_rfl) (by simp) ?_
        refine (AllReadyH.cons (o := ⟨some 22, _, _, _, _, _⟩) rfl (fun K hK => ?_) AllReadyH.nil)
        refine step_append_any _ (by rfl) (.tmp 18) (.tmp 21) _ (by rfl) w1.heap.size 30 i0 _ 32 32 Try.underlying28 HI0.out HZ0.out hz1 hz2 rfl (by omega) (.slice (some ⟨wd.heap.size, 0, none⟩) 0 0) (0) ([]) (by rfl) HOv9w.out _ (some ⟨g, o, none⟩) (i) _ (keysOf (L.take i)) (by rfl) (HR1.out _ HBv9w.out) (keysOf_oneCell _) (by unfold maxLen; omega) (by omega) HBv9w.out.size ?_
        intro v3 v10w ho hg hat
        rw [Nat.zero_add, List.nil_append] at ho
        obtain ⟨Av10w, cv10w, rfl⟩ := own_form ho
        have hb1x : Below w1.heap.size w1 v10w := HBv9w.out.grown hg HBv9w.out.size (fun g e => (HOv9w.out.lt g e).1)
        have HOv10w := Lib.hid ho
        have HXv10w := Lib.hid (HXv9w.out.grown hg (fun e => HNv9w.out _ e.symm rfl))
        have HNv10w : Hid (∀ g, Value.ownBlock (.slice Av10w (i) cv10w) = some g → g ≠ v1w.heap.size) := fun g e => by
          rcases hat with h | h
          · exact HNv9w.out g (h.symm.trans e)
          · have h1 := HXv9w.out.lt; rw [e] at h; injection h with h; omega
        have HBv10w := Lib.hid hb1x
        clear ho hg hat hb1x
        refine hK.out _ _ (by exact range_below (a := w1) (by first | exact HBv10w.out | exact below_al HBv10w.out _ | exact hb1x) hlk rra) (fun hHeld => ?_)
        clear hK K
        conv => arg 8; simp only [Act.put, List.setIfInBounds_toArray, List.set_cons_zero, List.set_cons_succ]
        refine wpAnyH_ready (rs := [9]) (by kernel_rfl) (by simp) ?_
        refine (AllReadyH.cons (o := ⟨some 27, _, _, _, _, _⟩) rfl (fun K hK => ?_) AllReadyH.nil)
        refine step_append_any _ (by rfl) (.tmp 22) (.tmp 26) _ (by rfl) w1.heap.size 30 i0 _ 32 32 Try.underlying28 HI0.out HZ0.out hz1 hz2 rfl (by omega) (.slice Av10w (i) cv10w) (i) (keysOf (L.take i)) (by rfl) HOv10w.out _ (some ⟨g, o, none⟩) (0) 0 ([]) (by rfl) (Reads.none_ (B := 0) (A := some ⟨g, o, none⟩)) (by simp) (by unfold maxLen; omega) (by omega) HBv10w.out.size ?_
        intro v3 v11w ho hg hat
        rw [Nat.add_zero, List.append_nil] at ho
        obtain ⟨Av11w, cv11w, rfl⟩ := own_form ho
        have hb1x : Below w1.heap.size w1 v11w := HBv10w.out.grown hg HBv10w.out.size (fun g e => (HOv10w.out.lt g e).1)
        have HOv11w := Lib.hid ho
        have HXv11w := Lib.hid (HXv10w.out.grown hg (fun e => HNv10w.out _ e.symm rfl))
        have HNv11w : Hid (∀ g, Value.ownBlock (.slice Av11w (i) cv11w) = some g → g ≠ v1w.heap.size) := fun g e => by
          rcases hat with h | h
          · exact HNv10w.out g (h.symm.trans e)
          · have h1 := HXv10w.out.lt; rw [e] at h; injection h with h; omega
        have HBv11w := Lib.hid hb1x
        clear ho hg hat hb1x
        refine hK.out _ _ (by exact range_below (a := w1) (by first | exact HBv11w.out | exact below_al HBv11w.out _ | exact hb1x) hlk rra) (fun hHeld => ?_)
        clear hK K
        conv => arg 8; simp only [Act.put, List.setIfInBounds_toArray, List.set_cons_zero, List.set_cons_succ]
        refine wpAnyH_ready (rs := [12]) (by kernel_rfl) (by simp) ?_
        refine (AllReadyH.cons (o := ⟨some 30, _, _, _, _, _⟩) rfl (fun K hK => ?_) AllReadyH.nil)
        refine step_append_any _ (by rfl) (.tmp 27) (.tmp 29) _ (by rfl) w1.heap.size 30 i0 _ 32 32 Try.underlying28 HI0.out HZ0.out hz1 hz2 rfl (by omega) (.slice Av11w (i) cv11w) (i) (keysOf (L.take i)) (by rfl) HOv11w.out _ (some ⟨v1w.heap.size, 0, none⟩) (1) 1 (keysOf [k]) (by rfl) (reads_key HXv11w.out) (keysOf_oneCell _) (by unfold maxLen; omega) (by omega) HBv11w.out.size ?_
        intro v3 v12w ho hg hat
        skip
        obtain ⟨Av12w, cv12w, rfl⟩ := own_form ho
        have hb1x : Below w1.heap.size w1 v12w := HBv11w.out.grown hg HBv11w.out.size (fun g e => (HOv11w.out.lt g e).1)
        have HOv12w := Lib.hid ho
        have HBv12w := Lib.hid hb1x
        clear ho hg hat hb1x
        refine hK.out _ _ (by exact range_below (a := w1) (by first | exact HBv12w.out | exact below_al HBv12w.out _ | exact hb1x) hlk rra) (fun hHeld => ?_)
        clear hK K
        conv => arg 8; simp only [Act.put, List.setIfInBounds_toArray, List.set_cons_zero, List.set_cons_succ]
        refine wpAnyH_take (i := 13) (oi := ⟨some 6, _, _, _, _, _⟩) (v := ?_) rfl (by kernel_rfl) (by kernel_rfl) (by kernel_rfl) (fun _ _ _ h => h) (Or.inl ⟨by kernel_rfl, ?_⟩) hHeld ?_
        rotate_left
        · intro w hSw
          (try dsimp only at hSw)
          go_simp
          all_goals (with_reducible rfl)
        conv => arg 8; simp only [Act.put, List.setIfInBounds_toArray, List.set_cons_zero, List.set_cons_succ]
        refine wpAnyH_take (i := 14) (oi := ⟨some 7, _, _, _, _, _⟩) (v := ?_) rfl (by kernel_rfl) (by kernel_rfl) (by kernel_rfl) (fun _ _ _ h => h) (Or.inl ⟨by kernel_rfl, ?_⟩) hHeld ?_
        rotate_left
        · intro w hSw
          (try dsimp only at hSw)
          go_simp
          all_goals (with_reducible rfl)
        conv => arg 8; simp only [Act.put, List.setIfInBounds_toArray, List.set_cons_zero, List.set_cons_succ]
        refine wpAnyH_done (by kernel_rfl) ?_ _
        refine NoPanic.normal ?_
        go_wp2_with fail
        go_ret2
        have hl := lackT_len (List.getElem?_eq_getElem hil)
        have hn := HN.out
        have ho : v12w.ownsRow w1.heap.size 30 32 (.slice Av12w (i + 1) cv12w) (lackT L i ++ [k]).length (keysOf (lackT L i ++ [k])) := by
          rw [keysOf_append, keysOf_lackT, show (lackT L i ++ [k]).length = i + 1 by rw [List.length_append, List.length_singleton]; omega]
          rw [hee.out (by first | rfl | trivial)]; simpa [keysOf, List.append_assoc] using HOv12w.out
        exact ⟨_, _, rfl, HB1.out.trans (HBv12w.out.mono hz1'), KL.of_own ho, .inr (fun g hg => Nat.le_trans hz1' (ho.lt g hg).1)⟩
    · go_simp
      refine hK.out _ _ (by exact range_below (a := w1) (by first | exact HBD.out | exact below_al HBD.out _ | exact hb1x) hlk rra) (fun hHeld => ?_)
      clear hK K
      conv => arg 8; simp only [Act.put, List.setIfInBounds_toArray, List.set_cons_zero, List.set_cons_succ]
      generalize hW : World.alloc _ _ = v13w at hHeld ⊢
      have hbx : Below wd.heap.size wd v13w := by rw [← hW]; exact (Below.refl _ _).alloc (Nat.le_refl _) _
      have hxx : Blk v13w wd.heap.size 30 (bytesOf 32 k).toArray := by rw [← hW]; exact heap_alloc_new _ _
      have HXv13w := Lib.hid hxx
      clear hxx
      have HBv13w := Lib.hid (HBD.out.trans (hbx.mono HBD.out.size))
      clear hbx hW
      refine wpAnyH_ready (rs := [0]) (by kernel_rfl) (by simp) ?_
      refine (AllReadyH.cons (o := ⟨some 18, _, _, _, _, _⟩) rfl (fun K hK => ?_) AllReadyH.nil)
      go_simp
      refine hK.out _ _ (by exact range_below (a := w1) (by first | exact HBv13w.out | exact below_al HBv13w.out _ | exact hb1x) hlk rra) (fun hHeld => ?_)
      clear hK K
      conv => arg 8; simp only [Act.put, List.setIfInBounds_toArray, List.set_cons_zero, List.set_cons_succ]
      generalize hW : World.alloc _ _ = v14w at hHeld ⊢
      have hbx : Below v13w.heap.size v13w v14w := by rw [← hW]; exact (Below.refl _ _).alloc (Nat.le_refl _) _
      have hox : v14w.ownsRow w1.heap.size 30 32 (.slice (some ⟨v13w.heap.size, 0, none⟩) 0 0) 0 [] := by rw [← hW]; exact owns_base2 (empty_own _) HBv13w.out.size
      have HOv14w := Lib.hid hox
      clear hox
      have HNv14w : Hid (∀ g, Value.ownBlock (.slice (some ⟨v13w.heap.size, 0, none⟩) 0 0) = some g → g ≠ wd.heap.size) := fun g e => by have h1 := HXv13w.out.lt; injection e with e; have e : v13w.heap.size = g := e; omega
      have HXv14w := Lib.hid (HXv13w.out.below hbx HXv13w.out.lt)
      have HBv14w := Lib.hid (HBv13w.out.trans (hbx.mono HBv13w.out.size))
      clear hbx hW
      refine wpAnyH_ready (rs := [4]) (by kernel_rfl) (by simp) ?_
      refine (AllReadyH.cons (o := ⟨some 22, _, _, _, _, _⟩) rfl (fun K hK => ?_) AllReadyH.nil)
      refine step_append_any _ (by rfl) (.tmp 18) (.tmp 21) _ (by rfl) w1.heap.size 30 i0 _ 32 32 Try.underlying28 HI0.out HZ0.out hz1 hz2 rfl (by omega) (.slice (some ⟨v13w.heap.size, 0, none⟩) 0 0) (0) ([]) (by rfl) HOv14w.out _ (some ⟨g, o, none⟩) (i) _ (keysOf (L.take i)) (by rfl) (HR1.out _ HBv14w.out) (keysOf_oneCell _) (by unfold maxLen; omega) (by omega) HBv14w.out.size ?_
      intro v3 v15w ho hg hat
      rw [Nat.zero_add, List.nil_append] at ho
      obtain ⟨Av15w, cv15w, rfl⟩ := own_form ho
      have hb1x : Below w1.heap.size w1 v15w := HBv14w.out.grown hg HBv14w.out.size (fun g e => (HOv14w.out.lt g e).1)
      have HOv15w := Lib.hid ho
      have HXv15w := Lib.hid (HXv14w.out.grown hg (fun e => HNv14w.out _ e.symm rfl))
      have HNv15w : Hid (∀ g, Value.ownBlock (.slice Av15w (i) cv15w) = some g → g ≠ wd.heap.size) := fun g e => by
        rcases hat with h | h
        · exact HNv14w.out g (h.symm.trans e)
        · have h1 := HXv14w.out.lt; rw [e] at h; injection h with h; omega
      have HBv15w := Lib.hid hb1x
      clear ho hg hat hb1x
      refine hK.out _ _ (by exact range_below (a := w1) (by first | exact HBv15w.out | exact below_al HBv15w.out _ | exact hb1x) hlk rra) (fun hHeld => ?_)
      clear hK K
      conv => arg 8; simp only [Act.put, List.setIfInBounds_toArray, List.set_cons_zero, List.set_cons_succ]
      refine wpAnyH_ready (rs := [9]) (by kernel_rfl) (by simp) ?_
      refine (AllReadyH.cons (o := ⟨some 27, _, _, _, _, _⟩) rfl (fun K hK => ?_) AllReadyH.nil)
      refine step_append_any _ (by rfl) (.tmp 22) (.tmp 26) _ (by rfl) w1.heap.size 30 i0 _ 32 32 Try.underlying28 HI0.out HZ0.out hz1 hz2 rfl (by omega) (.slice Av15w (i) cv15w) (i) (keysOf (L.take i)) (by rfl) HOv15w.out _ (some ⟨g, o, none⟩) (0) 0 ([]) (by rfl) (Reads.none_ (B := 0) (A := some ⟨g, o, none⟩)) (by simp) (by unfold maxLen; omega) (by omega) HBv15w.out.size ?_
      intro v3 v16w ho hg hat
      rw [Nat.add_zero, List.append_nil] at ho
      obtain ⟨Av16w, cv16w, rfl⟩ := own_form ho
      have hb1x : Below w1.heap.size w1 v16w := HBv15w.out.grown hg HBv15w.out.size (fun g e => (HOv15w.out.lt g e).1)
      have HOv16w := Lib.hid ho
      have HXv16w := Lib.hid (HXv15w.out.grown hg (fun e => HNv15w.out _ e.symm rfl))
      have HNv16w : Hid (∀ g, Value.ownBlock (.slice Av16w (i) cv16w) = some g → g ≠ wd.heap.size) := fun g e => by
        rcases hat with h | h
        · exact HNv15w.out g (h.symm.trans e)
        · have h1 := HXv15w.out.lt; rw [e] at h; injection h with h; omega
      have HBv16w := Lib.hid hb1x
      clear ho hg hat hb1x
      refine hK.out _ _ (by exact range_below (a := w1) (by first | exact HBv16w.out | exact below_al HBv16w.out _ | exact hb1x) hlk rra) (fun hHeld => ?_)
      clear hK K
      conv => arg 8; simp only [Act.put, List.setIfInBounds_toArray, List.set_cons_zero, List.set_cons_succ]
      refine wpAnyH_ready (rs := [12]) (by kernel_rfl) (by simp) ?_
      refine (AllReadyH.cons (o := ⟨some 30, _, _, _, _, _⟩) rfl (fun K hK => ?_) AllReadyH.nil)
      refine step_append_any _ (by rfl) (.tmp 27) (.tmp 29) _ (by rfl) w1.heap.size 30 i0 _ 32 32 Try.underlying28 HI0.out HZ0.out hz1 hz2 rfl (by omega) (.slice Av16w (i) cv16w) (i) (keysOf (L.take i)) (by rfl) HOv16w.out _ (some ⟨wd.heap.size, 0, none⟩) (1) 1 (keysOf [k]) (by rfl) (reads_key HXv16w.out) (keysOf_oneCell _) (by unfold maxLen; omega) (by omega) HBv16w.out.size ?_
      intro v3 v17w ho hg hat
      skip
      obtain ⟨Av17w, cv17w, rfl⟩ := own_form ho
      have hb1x : Below w1.heap.size w1 v17w := HBv16w.out.grown hg HBv16w.out.size (fun g e => (HOv16w.out.lt g e).1)
      have HOv17w := Lib.hid ho
      have HBv17w := Lib.hid hb1x
      clear ho hg hat hb1x
      refine hK.out _ _ (by exact range_below (a := w1) (by first | exact HBv17w.out | exact below_al HBv17w.out _ | exact hb1x) hlk rra) (fun hHeld => ?_)
      clear hK K
      conv => arg 8; simp only [Act.put, List.setIfInBounds_toArray, List.set_cons_zero, List.set_cons_succ]
      refine wpAnyH_take (i := 13) (oi := ⟨some 6, _, _, _, _, _⟩) (v := ?_) rfl (by kernel_rfl) (by kernel_rfl) (by kernel_rfl) (fun _ _ _ h => h) (Or.inl ⟨by kernel_rfl, ?_⟩) hHeld ?_
      rotate_left
      · intro w hSw
        (try dsimp only at hSw)
        go_simp
        all_goals (with_reducible rfl)
      conv => arg 8; simp only [Act.put, List.setIfInBounds_toArray, List.set_cons_zero, List.set_cons_succ]
      refine wpAnyH_take (i := 14) (oi := ⟨some 7, _, _, _, _, _⟩) (v := ?_) rfl (by kernel_rfl) (by kernel_rfl) (by kernel_rfl) (fun _ _ _ h => h) (Or.inl ⟨by kernel_rfl, ?_⟩) hHeld ?_
      rotate_left
      · intro w hSw
        (try dsimp only at hSw)
        go_simp
        all_goals (with_reducible rfl)
      conv => arg 8; simp only [Act.put, List.setIfInBounds_toArray, List.set_cons_zero, List.set_cons_succ]
      refine wpAnyH_done (by kernel_rfl) ?_ _
      refine NoPanic.normal ?_
      go_wp2_with fail
      go_ret2
      have hl := lackT_len (List.getElem?_eq_getElem hil)
      have hn := HN.out
      have ho : v17w.ownsRow w1.heap.size 30 32 (.slice Av17w (i + 1) cv17w) (lackT L i ++ [k]).length (keysOf (lackT L i ++ [k])) := by
        rw [keysOf_append, keysOf_lackT, show (lackT L i ++ [k]).length = i + 1 by rw [List.length_append, List.length_singleton]; omega]
        rw [hee.out (by first | rfl | trivial)]; simpa [keysOf, List.append_assoc] using HOv17w.out
      exact ⟨_, _, rfl, HB1.out.trans (HBv17w.out.mono hz1'), KL.of_own ho, .inr (fun g hg => Nat.le_trans hz1' (ho.lt g hg).1)⟩
end Go.Proofs.Ytegdchlbmjokmaa
