/- The cache's reference: Push of a key that is not there. -/
import Derived.Test.YtegdchlbmjokmaaCacRy
namespace Go.Proofs.Ytegdchlbmjokmaa
open Go.RowKit
set_option linter.unusedVariables false
set_option linter.unusedSimpArgs false
open Lnk

set_option maxRecDepth 100000 in
set_option maxHeartbeats 2000000 in
attribute [local go_sem ↓] wp_load_k wp_build_key in
theorem rpush_full_neg (w : World) (v : Value) (L : List Ky) (gb : Option Nat) (hk : KL w v L gb) (hL : L.length ≤ 1048576) (z : Int) (hz : z < 0) (hz2 : -9223372036854775808 ≤ z) (k : Ky) (hno : hasK L k = false) :
    Calls Try.prog 22 #[v, .int .i64 z, keyV k] w (RefKPost w ((L ++ [k]).drop 1) true gb) := by
  obtain ⟨A, c, hv, hka⟩ := hk.keys
  have hKL := hk
  rw [hv] at hk ⊢
  obtain ⟨i0, hi0, hz0, hz1, hz2⟩ := info_parts key_info
  obtain ⟨cx, hcx⟩ : ∃ cx, (bytesOf 32 k).toArray = cx := ⟨_, rfl⟩
  show Calls _ _ #[_, .int .i64 z, .agg (bytesOf 32 k).toArray] _ _
  rw [hcx]
  have HCX := Lib.hid hcx
  have HKA := Lib.hid hka
  have HKL := Lib.hid hKL
  have HV := Lib.hid hv
  have HI0 := Lib.hid hi0
  have HZ0 := Lib.hid hz0
  obtain ⟨M, hM⟩ : ∃ M, (L ++ [k]).drop 1 = M := ⟨_, rfl⟩
  rw [hM]
  have HM := Lib.hid hM
  clear hM
  obtain ⟨n, hn⟩ : ∃ n, L.length = n := ⟨_, rfl⟩
  have HN := Lib.hid hn
  rw [hn] at hL ⊢
  clear hcx hka hk hKL hi0 hz0 hn hv
  go_enter Try.func22, Try.ntmps22
  go_upto_region 1 with (fail)
  generalize hwa : World.alloc w _ = wa
  have hb0 : Below w.heap.size w wa := by rw [← hwa]; exact (Below.refl _ _).alloc (Nat.le_refl _) _
  have hk3 : Blk wa w.heap.size 30 (bytesOf 32 k).toArray := by rw [← hwa, HCX.out]; exact Blk.new w _ _
  have q1 := keyOk_mk (blk_key hk3)
  have q2 := loadK_eq (blk_key hk3)
  have HIX := Lib.hid (rindex_any wa A L.length c L k (HKA.out.below hb0))
  have HB0 := Lib.hid hb0
  have HK3 := Lib.hid hk3
  have hz0' := hb0.size
  clear hwa hb0 hk3
  go_wp2_with fail
  rw [← HN.out]
  refine HIX.out.mono ?_
  rintro e w1 ⟨rfl, hb1⟩
  rw [HN.out]
  have HB1 := Lib.hid (HB0.out.trans (hb1.mono hz0'))
  have hk4 := HK3.out.below hb1 HK3.out.lt
  have HK4 := Lib.hid hk4
  have hz1' := HB1.out.size
  clear q1 q2 hb1 HIX HK3
  rw [idxI_no hno] at *
  have HRL : Hid (∀ W, Below w1.heap.size w1 W → Reads W w.heap.size 32 A n (keysOf L)) := fun W hW => by
    have h1 := HKL.out.below HB1.out
    obtain ⟨A', c', e1, e2⟩ := h1.keys
    rw [HV.out] at e1
    injection e1 with e1 _ _
    subst e1
    rcases Nat.eq_zero_or_pos n with h0 | h0
    · have hl := HN.out
      obtain rfl : L = [] := List.length_eq_zero_iff.1 (by omega)
      subst h0
      exact Reads.none_
    · have hl := HN.out
      obtain ⟨g, o, c', hf1, hgb, hcc, hc63, hrd⟩ := HKL.out.form (by omega)
      rw [HV.out] at hf1
      injection hf1 with h1 _ h2
      subst h1
      rw [← hl]
      exact (hrd.below HB1.out).below (hW.mono hz1')
  go_upto_region 5 with (fail)
  have hu := Try.underlying30
  have hik := key_size k
  have rra := blk_range HK4.out
  have hlk := HK4.out.lt
  have q3 := isKy k
  refine wp_region_noPanic ?_
  refine wp_region_held_drew (S := fun w' => w'.rangeAt w.heap.size 0 (bytesOf 32 k)) (by kernel_rfl) rra (fun hHeld => ?_)
  refine wpAnyH_take (i := 1) (oi := ⟨some 32, _, _, _, _, _⟩) (v := ?_) rfl (by kernel_rfl) (by kernel_rfl) (by kernel_rfl) (fun _ _ _ h => h) (Or.inl ⟨by kernel_rfl, ?_⟩) hHeld ?_
  rotate_left
  · intro w hSw
    (try dsimp only at hSw)
    go_simp
    all_goals (with_reducible rfl)
  conv => arg 8; simp only [Act.put, List.setIfInBounds_toArray, List.set_cons_zero, List.set_cons_succ]
  refine wpAnyH_take (i := 3) (oi := ⟨some 34, _, _, _, _, _⟩) (v := _) rfl (by kernel_rfl) (by kernel_rfl) (by kernel_rfl) (fun _ _ _ h => h) (yieldsIf_load_mid (S := fun w' => w'.rangeAt w.heap.size 0 (bytesOf 32 k)) (by kernel_rfl) _ _ rfl _ _ rfl _ _ (fun w hSw => hSw) hu rfl hik) hHeld ?_
  conv => arg 8; simp only [Act.put, List.setIfInBounds_toArray, List.set_cons_zero, List.set_cons_succ]
  generalize hW : World.drew _ = wd at hHeld ⊢
  have hbd : Below w1.heap.size w1 wd := by rw [← hW]; exact belowDrewR (Below.refl _ _)
  have HBD := Lib.hid hbd
  clear hbd hW
  refine wpAnyH_ready (rs := [0, 4]) (by kernel_rfl) (by simp) ?_
  refine (AllReadyH.cons (o := ⟨some 31, _, _, _, _, _⟩) rfl (fun K hK => ?_) (AllReadyH.cons (o := ⟨some 35, _, _, _, _, _⟩) rfl (fun K hK => ?_) AllReadyH.nil))
  · go_simp
    refine hK.out _ _ (by exact range_below (a := w1) (by first | exact HBD.out | exact below_al HBD.out _ | exact hb1x) hlk rra) (fun hHeld => ?_)
    clear hK K
    conv => arg 8; simp only [Act.put, List.setIfInBounds_toArray, List.set_cons_zero, List.set_cons_succ]
    generalize hW : World.alloc _ _ = v1w at hHeld ⊢
    have hbx : Below wd.heap.size wd v1w := by rw [← hW]; exact (Below.refl _ _).alloc (Nat.le_refl _) _
    have hox : v1w.ownsRow w1.heap.size 30 32 (.slice (some ⟨wd.heap.size, 0, none⟩) 0 0) 0 [] := by rw [← hW]; exact owns_base2 (empty_own _) HBD.out.size
    have HOv1w := Lib.hid hox
    clear hox
    have HBv1w := Lib.hid (HBD.out.trans (hbx.mono HBD.out.size))
    clear hbx hW
    refine wpAnyH_ready (rs := [2, 4]) (by kernel_rfl) (by simp) ?_
    refine (AllReadyH.cons (o := ⟨some 33, _, _, _, _, _⟩) rfl (fun K hK => ?_) (AllReadyH.cons (o := ⟨some 35, _, _, _, _, _⟩) rfl (fun K hK => ?_) AllReadyH.nil))
    · refine step_append_any _ (by rfl) (.tmp 31) (.tmp 32) _ (by rfl) w1.heap.size 30 i0 _ 32 32 Try.underlying28 HI0.out HZ0.out hz1 hz2 rfl (by omega) (.slice (some ⟨wd.heap.size, 0, none⟩) 0 0) (0) ([]) (by rfl) HOv1w.out _ A (n) c (keysOf L) (by rfl) (HRL.out _ HBv1w.out) (keysOf_oneCell _) (by unfold maxLen; omega) (by omega) HBv1w.out.size ?_
      intro v3 v2w ho hg hat
      rw [Nat.zero_add, List.nil_append] at ho
      obtain ⟨Av2w, cv2w, rfl⟩ := own_form ho
      have hb1x : Below w1.heap.size w1 v2w := HBv1w.out.grown hg HBv1w.out.size (fun g e => (HOv1w.out.lt g e).1)
      have HOv2w := Lib.hid ho
      have HBv2w := Lib.hid hb1x
      clear ho hg hat hb1x
      refine hK.out _ _ (by exact range_below (a := w1) (by first | exact HBv2w.out | exact below_al HBv2w.out _ | exact hb1x) hlk rra) (fun hHeld => ?_)
      clear hK K
      conv => arg 8; simp only [Act.put, List.setIfInBounds_toArray, List.set_cons_zero, List.set_cons_succ]
      refine wpAnyH_ready (rs := [4]) (by kernel_rfl) (by simp) ?_
      refine (AllReadyH.cons (o := ⟨some 35, _, _, _, _, _⟩) rfl (fun K hK => ?_) AllReadyH.nil)
      go_simp
      refine hK.out _ _ (by exact range_below (a := w1) (by first | exact HBv2w.out | exact below_al HBv2w.out _ | exact hb1x) hlk rra) (fun hHeld => ?_)
      clear hK K
      conv => arg 8; simp only [Act.put, List.setIfInBounds_toArray, List.set_cons_zero, List.set_cons_succ]
      generalize hW : World.alloc _ _ = v3w at hHeld ⊢
      have hbx : Below v2w.heap.size v2w v3w := by rw [← hW]; exact (Below.refl _ _).alloc (Nat.le_refl _) _
      have hxx : Blk v3w v2w.heap.size 30 (bytesOf 32 k).toArray := by rw [← hW]; exact heap_alloc_new _ _
      have HXv3w := Lib.hid hxx
      clear hxx
      have HNv3w : Hid (∀ g, Value.ownBlock (.slice Av2w (n) cv2w) = some g → g ≠ v2w.heap.size) := fun g e => Nat.ne_of_lt (HOv2w.out.lt g e).2
      have HOv3w := Lib.hid (owns_below HOv2w.out hbx)
      have HBv3w := Lib.hid (HBv2w.out.trans (hbx.mono HBv2w.out.size))
      clear hbx hW
      refine wpAnyH_ready (rs := [5]) (by kernel_rfl) (by simp) ?_
      refine (AllReadyH.cons (o := ⟨some 36, _, _, _, _, _⟩) rfl (fun K hK => ?_) AllReadyH.nil)
      refine step_append_any _ (by rfl) (.tmp 33) (.tmp 35) _ (by rfl) w1.heap.size 30 i0 _ 32 32 Try.underlying28 HI0.out HZ0.out hz1 hz2 rfl (by omega) (.slice Av2w (n) cv2w) (n) (keysOf L) (by rfl) HOv3w.out _ (some ⟨v2w.heap.size, 0, none⟩) (1) 1 (keysOf [k]) (by rfl) (reads_key HXv3w.out) (keysOf_oneCell _) (by unfold maxLen; omega) (by omega) HBv3w.out.size ?_
      intro v3 v4w ho hg hat
      skip
      obtain ⟨Av4w, cv4w, rfl⟩ := own_form ho
      have hb1x : Below w1.heap.size w1 v4w := HBv3w.out.grown hg HBv3w.out.size (fun g e => (HOv3w.out.lt g e).1)
      have HOv4w := Lib.hid ho
      have HBv4w := Lib.hid hb1x
      clear ho hg hat hb1x
      refine hK.out _ _ (by exact range_below (a := w1) (by first | exact HBv4w.out | exact below_al HBv4w.out _ | exact hb1x) hlk rra) (fun hHeld => ?_)
      clear hK K
      conv => arg 8; simp only [Act.put, List.setIfInBounds_toArray, List.set_cons_zero, List.set_cons_succ]
      refine wpAnyH_take (i := 6) (oi := ⟨some 9, _, _, _, _, _⟩) (v := ?_) rfl (by kernel_rfl) (by kernel_rfl) (by kernel_rfl) (fun _ _ _ h => h) (Or.inl ⟨by kernel_rfl, ?_⟩) hHeld ?_
      rotate_left
      · intro w hSw
        (try dsimp only at hSw)
        go_simp
        all_goals (with_reducible rfl)
      conv => arg 8; simp only [Act.put, List.setIfInBounds_toArray, List.set_cons_zero, List.set_cons_succ]
      refine wpAnyH_done (by kernel_rfl) ?_ _
      refine NoPanic.normal ?_
      have hlk1 : (L ++ [k]).length = n + 1 := by rw [List.length_append, HN.out]; rfl
      have ho : v4w.ownsRow w1.heap.size 30 32 (.slice Av4w (L ++ [k]).length cv4w) (L ++ [k]).length (keysOf (L ++ [k])) := by
        rw [hlk1, keysOf_append]
        exact HOv4w.out
      have HOO := Lib.hid ho
      have HLK := Lib.hid hlk1
      obtain ⟨g5, c5, hv5, hg5, _⟩ := ho.form (by omega)
      injection hv5 with e1 _ e2
      subst e1 e2
      have hcc5 := (KeysAt.of_own ho).2.1
      have hcm5 := (KeysAt.of_own ho).2.2.1
      rw [hlk1] at hcc5
      have HG5 := Lib.hid hg5
      clear ho hlk1 hg5
      by_cases hc1 : cv4w = 1
      · have HC1 := Lib.hid hc1
        subst hc1
        obtain rfl : n = 0 := by omega
        clear HC1
        go_wp2_with fail
        go_ret2
        have hl := HN.out
        have hnil : L = [] := List.length_eq_zero_iff.1 hl
        exact ⟨_, _, rfl, HB1.out.trans (HBv4w.out.mono hz1'), KL.empty HOO.out (by rw [← HM.out, hnil]; rfl), .inr (fun g hg => by injection hg with hg; rw [← hg]; exact Nat.le_trans hz1' HG5.out)⟩
      · have HC1 := Lib.hid hc1
        have t7 : (n : Int) + 1 ≤ cv4w := by omega
        have t8 : (1 : Int) ≤ (n : Int) + 1 := by omega
        go_wp2_with fail
        go_ret2
        have hl := HLK.out
        have h9 := KL.tail HOO.out HC1.out (by omega)
        rw [hl, HM.out, Nat.add_sub_cancel] at h9
        exact ⟨_, _, rfl, HB1.out.trans (HBv4w.out.mono hz1'), h9, .inr (fun g hg => by injection hg with hg; rw [← hg]; exact Nat.le_trans hz1' HG5.out)⟩
    · go_simp
      refine hK.out _ _ (by exact range_below (a := w1) (by first | exact HBv1w.out | exact below_al HBv1w.out _ | exact hb1x) hlk rra) (fun hHeld => ?_)
      clear hK K
      conv => arg 8; simp only [Act.put, List.setIfInBounds_toArray, List.set_cons_zero, List.set_cons_succ]
      generalize hW : World.alloc _ _ = v5w at hHeld ⊢
      have hbx : Below v1w.heap.size v1w v5w := by rw [← hW]; exact (Below.refl _ _).alloc (Nat.le_refl _) _
      have hxx : Blk v5w v1w.heap.size 30 (bytesOf 32 k).toArray := by rw [← hW]; exact heap_alloc_new _ _
      have HXv5w := Lib.hid hxx
      clear hxx
      have HNv5w : Hid (∀ g, Value.ownBlock (.slice (some ⟨wd.heap.size, 0, none⟩) 0 0) = some g → g ≠ v1w.heap.size) := fun g e => Nat.ne_of_lt (HOv1w.out.lt g e).2
      have HOv5w := Lib.hid (owns_below HOv1w.out hbx)
      have HBv5w := Lib.hid (HBv1w.out.trans (hbx.mono HBv1w.out.size))
      clear hbx hW
      refine wpAnyH_ready (rs := [2]) (by kernel_rfl) (by simp) ?_
      refine (AllReadyH.cons (o := ⟨some 33, _, _, _, _, _⟩) rfl (fun K hK => ?_) AllReadyH.nil)
      refine step_append_any _ (by rfl) (.tmp 31) (.tmp 32) _ (by rfl) w1.heap.size 30 i0 _ 32 32 Try.underlying28 HI0.out HZ0.out hz1 hz2 rfl (by omega) (.slice (some ⟨wd.heap.size, 0, none⟩) 0 0) (0) ([]) (by rfl) HOv5w.out _ A (n) c (keysOf L) (by rfl) (HRL.out _ HBv5w.out) (keysOf_oneCell _) (by unfold maxLen; omega) (by omega) HBv5w.out.size ?_
      intro v3 v6w ho hg hat
      rw [Nat.zero_add, List.nil_append] at ho
      obtain ⟨Av6w, cv6w, rfl⟩ := own_form ho
      have hb1x : Below w1.heap.size w1 v6w := HBv5w.out.grown hg HBv5w.out.size (fun g e => (HOv5w.out.lt g e).1)
      have HOv6w := Lib.hid ho
      have HXv6w := Lib.hid (HXv5w.out.grown hg (fun e => HNv5w.out _ e.symm rfl))
      have HNv6w : Hid (∀ g, Value.ownBlock (.slice Av6w (n) cv6w) = some g → g ≠ v1w.heap.size) := fun g e => by
        rcases hat with h | h
        · exact HNv5w.out g (h.symm.trans e)
        · have h1 := HXv5w.out.lt; rw [e] at h; injection h with h; omega
      have HBv6w := Lib.hid hb1x
      clear ho hg hat hb1x
      refine hK.out _ _ (by exact range_below (a := w1) (by first | exact HBv6w.out | exact below_al HBv6w.out _ | exact hb1x) hlk rra) (fun hHeld => ?_)
      clear hK K
      conv => arg 8; simp only [Act.put, List.setIfInBounds_toArray, List.set_cons_zero, List.set_cons_succ]
      refine wpAnyH_ready (rs := [5]) (by kernel_rfl) (by simp) ?_
      refine (AllReadyH.cons (o := ⟨some 36, _, _, _, _, _⟩) rfl (fun K hK => ?_) AllReadyH.nil)
      refine step_append_any _ (by rfl) (.tmp 33) (.tmp 35) _ (by rfl) w1.heap.size 30 i0 _ 32 32 Try.underlying28 HI0.out HZ0.out hz1 hz2 rfl (by omega) (.slice Av6w (n) cv6w) (n) (keysOf L) (by rfl) HOv6w.out _ (some ⟨v1w.heap.size, 0, none⟩) (1) 1 (keysOf [k]) (by rfl) (reads_key HXv6w.out) (keysOf_oneCell _) (by unfold maxLen; omega) (by omega) HBv6w.out.size ?_
      intro v3 v7w ho hg hat
      skip
      obtain ⟨Av7w, cv7w, rfl⟩ := own_form ho
      have hb1x : Below w1.heap.size w1 v7w := HBv6w.out.grown hg HBv6w.out.size (fun g e => (HOv6w.out.lt g e).1)
      have HOv7w := Lib.hid ho
      have HBv7w := Lib.hid hb1x
      clear ho hg hat hb1x
      refine hK.out _ _ (by exact range_below (a := w1) (by first | exact HBv7w.out | exact below_al HBv7w.out _ | exact hb1x) hlk rra) (fun hHeld => ?_)
      clear hK K
      conv => arg 8; simp only [Act.put, List.setIfInBounds_toArray, List.set_cons_zero, List.set_cons_succ]
      refine wpAnyH_take (i := 6) (oi := ⟨some 9, _, _, _, _, _⟩) (v := ?_) rfl (by kernel_rfl) (by kernel_rfl) (by kernel_rfl) (fun _ _ _ h => h) (Or.inl ⟨by kernel_rfl, ?_⟩) hHeld ?_
      rotate_left
      · intro w hSw
        (try dsimp only at hSw)
        go_simp
        all_goals (with_reducible rfl)
      conv => arg 8; simp only [Act.put, List.setIfInBounds_toArray, List.set_cons_zero, List.set_cons_succ]
      refine wpAnyH_done (by kernel_rfl) ?_ _
      refine NoPanic.normal ?_
      have hlk1 : (L ++ [k]).length = n + 1 := by rw [List.length_append, HN.out]; rfl
      have ho : v7w.ownsRow w1.heap.size 30 32 (.slice Av7w (L ++ [k]).length cv7w) (L ++ [k]).length (keysOf (L ++ [k])) := by
        rw [hlk1, keysOf_append]
        exact HOv7w.out
      have HOO := Lib.hid ho
      have HLK := Lib.hid hlk1
      obtain ⟨g5, c5, hv5, hg5, _⟩ := ho.form (by omega)
      injection hv5 with e1 _ e2
      subst e1 e2
      have hcc5 := (KeysAt.of_own ho).2.1
      have hcm5 := (KeysAt.of_own ho).2.2.1
      rw [hlk1] at hcc5
      have HG5 := Lib.hid hg5
      clear ho hlk1 hg5
      by_cases hc1 : cv7w = 1
      · have HC1 := Lib.hid hc1
        subst hc1
        obtain rfl : n = 0 := by omega
        clear HC1
        go_wp2_with fail
        go_ret2
        have hl := HN.out
        have hnil : L = [] := List.length_eq_zero_iff.1 hl
        exact ⟨_, _, rfl, HB1.out.trans (HBv7w.out.mono hz1'), KL.empty HOO.out (by rw [← HM.out, hnil]; rfl), .inr (fun g hg => by injection hg with hg; rw [← hg]; exact Nat.le_trans hz1' HG5.out)⟩
      · have HC1 := Lib.hid hc1
        have t7 : (n : Int) + 1 ≤ cv7w := by omega
        have t8 : (1 : Int) ≤ (n : Int) + 1 := by omega
        go_wp2_with fail
        go_ret2
        have hl := HLK.out
        have h9 := KL.tail HOO.out HC1.out (by omega)
        rw [hl, HM.out, Nat.add_sub_cancel] at h9
        exact ⟨_, _, rfl, HB1.out.trans (HBv7w.out.mono hz1'), h9, .inr (fun g hg => by injection hg with hg; rw [← hg]; exact Nat.le_trans hz1' HG5.out)⟩
  · go_simp
    refine hK.out _ _ (by exact range_below (a := w1) (by first | exact HBD.out | exact below_al HBD.out _ | exact hb1x) hlk rra) (fun hHeld => ?_)
    clear hK K
    conv => arg 8; simp only [Act.put, List.setIfInBounds_toArray, List.set_cons_zero, List.set_cons_succ]
    generalize hW : World.alloc _ _ = v8w at hHeld ⊢
    have hbx : Below wd.heap.size wd v8w := by rw [← hW]; exact (Below.refl _ _).alloc (Nat.le_refl _) _
    have hxx : Blk v8w wd.heap.size 30 (bytesOf 32 k).toArray := by rw [← hW]; exact heap_alloc_new _ _
    have HXv8w := Lib.hid hxx
    clear hxx
    have HBv8w := Lib.hid (HBD.out.trans (hbx.mono HBD.out.size))
    clear hbx hW
    refine wpAnyH_ready (rs := [0]) (by kernel_rfl) (by simp) ?_
    refine (AllReadyH.cons (o := ⟨some 31, _, _, _, _, _⟩) rfl (fun K hK => ?_) AllReadyH.nil)
    go_simp
    refine hK.out _ _ (by exact range_below (a := w1) (by first | exact HBv8w.out | exact below_al HBv8w.out _ | exact hb1x) hlk rra) (fun hHeld => ?_)
    clear hK K
    conv => arg 8; simp only [Act.put, List.setIfInBounds_toArray, List.set_cons_zero, List.set_cons_succ]
    generalize hW : World.alloc _ _ = v9w at hHeld ⊢
    have hbx : Below v8w.heap.size v8w v9w := by rw [← hW]; exact (Below.refl _ _).alloc (Nat.le_refl _) _
    have hox : v9w.ownsRow w1.heap.size 30 32 (.slice (some ⟨v8w.heap.size, 0, none⟩) 0 0) 0 [] := by rw [← hW]; exact owns_base2 (empty_own _) HBv8w.out.size
    have HOv9w := Lib.hid hox
    clear hox
    have HNv9w : Hid (∀ g, Value.ownBlock (.slice (some ⟨v8w.heap.size, 0, none⟩) 0 0) = some g → g ≠ wd.heap.size) := fun g e => by have h1 := HXv8w.out.lt; injection e with e; have e : v8w.heap.size = g := e; omega
    have HXv9w := Lib.hid (HXv8w.out.below hbx HXv8w.out.lt)
    have HBv9w := Lib.hid (HBv8w.out.trans (hbx.mono HBv8w.out.size))
    clear hbx hW
    refine wpAnyH_ready (rs := [2]) (by kernel_rfl) (by simp) ?_
    refine (AllReadyH.cons (o := ⟨some 33, _, _, _, _, _⟩) rfl (fun K hK => ?_) AllReadyH.nil)
    refine step_append_any _ (by rfl) (.tmp 31) (.tmp 32) _ (by rfl) w1.heap.size 30 i0 _ 32 32 Try.underlying28 HI0.out HZ0.out hz1 hz2 rfl (by omega) (.slice (some ⟨v8w.heap.size, 0, none⟩) 0 0) (0) ([]) (by rfl) HOv9w.out _ A (n) c (keysOf L) (by rfl) (HRL.out _ HBv9w.out) (keysOf_oneCell _) (by unfold maxLen; omega) (by omega) HBv9w.out.size ?_
    intro v3 v10w ho hg hat
    rw [Nat.zero_add, List.nil_append] at ho
    obtain ⟨Av10w, cv10w, rfl⟩ := own_form ho
    have hb1x : Below w1.heap.size w1 v10w := HBv9w.out.grown hg HBv9w.out.size (fun g e => (HOv9w.out.lt g e).1)
    have HOv10w := Lib.hid ho
    have HXv10w := Lib.hid (HXv9w.out.grown hg (fun e => HNv9w.out _ e.symm rfl))
    have HNv10w : Hid (∀ g, Value.ownBlock (.slice Av10w (n) cv10w) = some g → g ≠ wd.heap.size) := fun g e => by
      rcases hat with h | h
      · exact HNv9w.out g (h.symm.trans e)
      · have h1 := HXv9w.out.lt; rw [e] at h; injection h with h; omega
    have HBv10w := Lib.hid hb1x
    clear ho hg hat hb1x
    refine hK.out _ _ (by exact range_below (a := w1) (by first | exact HBv10w.out | exact below_al HBv10w.out _ | exact hb1x) hlk rra) (fun hHeld => ?_)
    clear hK K
    conv => arg 8; simp only [Act.put, List.setIfInBounds_toArray, List.set_cons_zero, List.set_cons_succ]
    refine wpAnyH_ready (rs := [5]) (by kernel_rfl) (by simp) ?_
    refine (AllReadyH.cons (o := ⟨some 36, _, _, _, _, _⟩) rfl (fun K hK => ?_) AllReadyH.nil)
    refine step_append_any _ (by rfl) (.tmp 33) (.tmp 35) _ (by rfl) w1.heap.size 30 i0 _ 32 32 Try.underlying28 HI0.out HZ0.out hz1 hz2 rfl (by omega) (.slice Av10w (n) cv10w) (n) (keysOf L) (by rfl) HOv10w.out _ (some ⟨wd.heap.size, 0, none⟩) (1) 1 (keysOf [k]) (by rfl) (reads_key HXv10w.out) (keysOf_oneCell _) (by unfold maxLen; omega) (by omega) HBv10w.out.size ?_
    intro v3 v11w ho hg hat
    skip
    obtain ⟨Av11w, cv11w, rfl⟩ := own_form ho
    have hb1x : Below w1.heap.size w1 v11w := HBv10w.out.grown hg HBv10w.out.size (fun g e => (HOv10w.out.lt g e).1)
    have HOv11w := Lib.hid ho
    have HBv11w := Lib.hid hb1x
    clear ho hg hat hb1x
    refine hK.out _ _ (by exact range_below (a := w1) (by first | exact HBv11w.out | exact below_al HBv11w.out _ | exact hb1x) hlk rra) (fun hHeld => ?_)
    clear hK K
    conv => arg 8; simp only [Act.put, List.setIfInBounds_toArray, List.set_cons_zero, List.set_cons_succ]
    refine wpAnyH_take (i := 6) (oi := ⟨some 9, _, _, _, _, _⟩) (v := ?_) rfl (by kernel_rfl) (by kernel_rfl) (by kernel_rfl) (fun _ _ _ h => h) (Or.inl ⟨by kernel_rfl, ?_⟩) hHeld ?_
    rotate_left
    · intro w hSw
      (try dsimp only at hSw)
      go_simp
      all_goals (with_reducible rfl)
    conv => arg 8; simp only [Act.put, List.setIfInBounds_toArray, List.set_cons_zero, List.set_cons_succ]
    refine wpAnyH_done (by kernel_rfl) ?_ _
    refine NoPanic.normal ?_
    have hlk1 : (L ++ [k]).length = n + 1 := by rw [List.length_append, HN.out]; rfl
    have ho : v11w.ownsRow w1.heap.size 30 32 (.slice Av11w (L ++ [k]).length cv11w) (L ++ [k]).length (keysOf (L ++ [k])) := by
      rw [hlk1, keysOf_append]
      exact HOv11w.out
    have HOO := Lib.hid ho
    have HLK := Lib.hid hlk1
    obtain ⟨g5, c5, hv5, hg5, _⟩ := ho.form (by omega)
    injection hv5 with e1 _ e2
    subst e1 e2
    have hcc5 := (KeysAt.of_own ho).2.1
    have hcm5 := (KeysAt.of_own ho).2.2.1
    rw [hlk1] at hcc5
    have HG5 := Lib.hid hg5
    clear ho hlk1 hg5
    by_cases hc1 : cv11w = 1
    · have HC1 := Lib.hid hc1
      subst hc1
      obtain rfl : n = 0 := by omega
      clear HC1
      go_wp2_with fail
      go_ret2
      have hl := HN.out
      have hnil : L = [] := List.length_eq_zero_iff.1 hl
      exact ⟨_, _, rfl, HB1.out.trans (HBv11w.out.mono hz1'), KL.empty HOO.out (by rw [← HM.out, hnil]; rfl), .inr (fun g hg => by injection hg with hg; rw [← hg]; exact Nat.le_trans hz1' HG5.out)⟩
    · have HC1 := Lib.hid hc1
      have t7 : (n : Int) + 1 ≤ cv11w := by omega
      have t8 : (1 : Int) ≤ (n : Int) + 1 := by omega
      go_wp2_with fail
      go_ret2
      have hl := HLK.out
      have h9 := KL.tail HOO.out HC1.out (by omega)
      rw [hl, HM.out, Nat.add_sub_cancel] at h9
      exact ⟨_, _, rfl, HB1.out.trans (HBv11w.out.mono hz1'), h9, .inr (fun g hg => by injection hg with hg; rw [← hg]; exact Nat.le_trans hz1' HG5.out)⟩
set_option maxRecDepth 100000 in
set_option maxHeartbeats 2000000 in
attribute [local go_sem ↓] wp_load_k wp_build_key in
theorem rpush_full_zero (w : World) (v : Value) (L : List Ky) (gb : Option Nat) (hk : KL w v L gb) (hL : L.length ≤ 1048576) (k : Ky) (hno : hasK L k = false) :
    Calls Try.prog 22 #[v, .int .i64 0, keyV k] w (RefKPost w ((L ++ [k]).drop 1) true gb) := by
  obtain ⟨A, c, hv, hka⟩ := hk.keys
  have hKL := hk
  rw [hv] at hk ⊢
  obtain ⟨i0, hi0, hz0, hz1, hz2⟩ := info_parts key_info
  obtain ⟨cx, hcx⟩ : ∃ cx, (bytesOf 32 k).toArray = cx := ⟨_, rfl⟩
  show Calls _ _ #[_, .int .i64 0, .agg (bytesOf 32 k).toArray] _ _
  rw [hcx]
  have HCX := Lib.hid hcx
  have HKA := Lib.hid hka
  have HKL := Lib.hid hKL
  have HV := Lib.hid hv
  have HI0 := Lib.hid hi0
  have HZ0 := Lib.hid hz0
  obtain ⟨M, hM⟩ : ∃ M, (L ++ [k]).drop 1 = M := ⟨_, rfl⟩
  rw [hM]
  have HM := Lib.hid hM
  clear hM
  obtain ⟨n, hn⟩ : ∃ n, L.length = n := ⟨_, rfl⟩
  have HN := Lib.hid hn
  rw [hn] at hL ⊢
  clear hcx hka hk hKL hi0 hz0 hn hv
  go_enter Try.func22, Try.ntmps22
  go_upto_region 1 with (fail)
  generalize hwa : World.alloc w _ = wa
  have hb0 : Below w.heap.size w wa := by rw [← hwa]; exact (Below.refl _ _).alloc (Nat.le_refl _) _
  have hk3 : Blk wa w.heap.size 30 (bytesOf 32 k).toArray := by rw [← hwa, HCX.out]; exact Blk.new w _ _
  have q1 := keyOk_mk (blk_key hk3)
  have q2 := loadK_eq (blk_key hk3)
  have HIX := Lib.hid (rindex_any wa A L.length c L k (HKA.out.below hb0))
  have HB0 := Lib.hid hb0
  have HK3 := Lib.hid hk3
  have hz0' := hb0.size
  clear hwa hb0 hk3
  go_wp2_with fail
  rw [← HN.out]
  refine HIX.out.mono ?_
  rintro e w1 ⟨rfl, hb1⟩
  rw [HN.out]
  have HB1 := Lib.hid (HB0.out.trans (hb1.mono hz0'))
  have hk4 := HK3.out.below hb1 HK3.out.lt
  have HK4 := Lib.hid hk4
  have hz1' := HB1.out.size
  clear q1 q2 hb1 HIX HK3
  rw [idxI_no hno] at *
  have HRL : Hid (∀ W, Below w1.heap.size w1 W → Reads W w.heap.size 32 A n (keysOf L)) := fun W hW => by
    have h1 := HKL.out.below HB1.out
    obtain ⟨A', c', e1, e2⟩ := h1.keys
    rw [HV.out] at e1
    injection e1 with e1 _ _
    subst e1
    rcases Nat.eq_zero_or_pos n with h0 | h0
    · have hl := HN.out
      obtain rfl : L = [] := List.length_eq_zero_iff.1 (by omega)
      subst h0
      exact Reads.none_
    · have hl := HN.out
      obtain ⟨g, o, c', hf1, hgb, hcc, hc63, hrd⟩ := HKL.out.form (by omega)
      rw [HV.out] at hf1
      injection hf1 with h1 _ h2
      subst h1
      rw [← hl]
      exact (hrd.below HB1.out).below (hW.mono hz1')
  go_upto_region 5 with (fail)
  have hu := Try.underlying30
  have hik := key_size k
  have rra := blk_range HK4.out
  have hlk := HK4.out.lt
  have q3 := isKy k
  refine wp_region_noPanic ?_
  refine wp_region_held_drew (S := fun w' => w'.rangeAt w.heap.size 0 (bytesOf 32 k)) (by kernel_rfl) rra (fun hHeld => ?_)
  refine wpAnyH_take (i := 1) (oi := ⟨some 32, _, _, _, _, _⟩) (v := ?_) rfl (by kernel_rfl) (by kernel_rfl) (by kernel_rfl) (fun _ _ _ h => h) (Or.inl ⟨by kernel_rfl, ?_⟩) hHeld ?_
  rotate_left
  · intro w hSw
    (try dsimp only at hSw)
    go_simp
    all_goals (with_reducible rfl)
  conv => arg 8; simp only [Act.put, List.setIfInBounds_toArray, List.set_cons_zero, List.set_cons_succ]
  refine wpAnyH_take (i := 3) (oi := ⟨some 34, _, _, _, _, _⟩) (v := _) rfl (by kernel_rfl) (by kernel_rfl) (by kernel_rfl) (fun _ _ _ h => h) (yieldsIf_load_mid (S := fun w' => w'.rangeAt w.heap.size 0 (bytesOf 32 k)) (by kernel_rfl) _ _ rfl _ _ rfl _ _ (fun w hSw => hSw) hu rfl hik) hHeld ?_
  conv => arg 8; simp only [Act.put, List.setIfInBounds_toArray, List.set_cons_zero, List.set_cons_succ]
  generalize hW : World.drew _ = wd at hHeld ⊢
  have hbd : Below w1.heap.size w1 wd := by rw [← hW]; exact belowDrewR (Below.refl _ _)
  have HBD := Lib.hid hbd
  clear hbd hW
  refine wpAnyH_ready (rs := [0, 4]) (by kernel_rfl) (by simp) ?_
  refine (AllReadyH.cons (o := ⟨some 31, _, _, _, _, _⟩) rfl (fun K hK => ?_) (AllReadyH.cons (o := ⟨some 35, _, _, _, _, _⟩) rfl (fun K hK => ?_) AllReadyH.nil))
  · go_simp
    refine hK.out _ _ (by exact range_below (a := w1) (by first | exact HBD.out | exact below_al HBD.out _ | exact hb1x) hlk rra) (fun hHeld => ?_)
    clear hK K
    conv => arg 8; simp only [Act.put, List.setIfInBounds_toArray, List.set_cons_zero, List.set_cons_succ]
    generalize hW : World.alloc _ _ = v1w at hHeld ⊢
    have hbx : Below wd.heap.size wd v1w := by rw [← hW]; exact (Below.refl _ _).alloc (Nat.le_refl _) _
    have hox : v1w.ownsRow w1.heap.size 30 32 (.slice (some ⟨wd.heap.size, 0, none⟩) 0 0) 0 [] := by rw [← hW]; exact owns_base2 (empty_own _) HBD.out.size
    have HOv1w := Lib.hid hox
    clear hox
    have HBv1w := Lib.hid (HBD.out.trans (hbx.mono HBD.out.size))
    clear hbx hW
    refine wpAnyH_ready (rs := [2, 4]) (by kernel_rfl) (by simp) ?_
    refine (AllReadyH.cons (o := ⟨some 33, _, _, _, _, _⟩) rfl (fun K hK => ?_) (AllReadyH.cons (o := ⟨some 35, _, _, _, _, _⟩) rfl (fun K hK => ?_) AllReadyH.nil))
    · refine step_append_any _ (by rfl) (.tmp 31) (.tmp 32) _ (by rfl) w1.heap.size 30 i0 _ 32 32 Try.underlying28 HI0.out HZ0.out hz1 hz2 rfl (by omega) (.slice (some ⟨wd.heap.size, 0, none⟩) 0 0) (0) ([]) (by rfl) HOv1w.out _ A (n) c (keysOf L) (by rfl) (HRL.out _ HBv1w.out) (keysOf_oneCell _) (by unfold maxLen; omega) (by omega) HBv1w.out.size ?_
      intro v3 v2w ho hg hat
      rw [Nat.zero_add, List.nil_append] at ho
      obtain ⟨Av2w, cv2w, rfl⟩ := own_form ho
      have hb1x : Below w1.heap.size w1 v2w := HBv1w.out.grown hg HBv1w.out.size (fun g e => (HOv1w.out.lt g e).1)
      have HOv2w := Lib.hid ho
      have HBv2w := Lib.hid hb1x
      clear ho hg hat hb1x
      refine hK.out _ _ (by exact range_below (a := w1) (by first | exact HBv2w.out | exact below_al HBv2w.out _ | exact hb1x) hlk rra) (fun hHeld => ?_)
      clear hK K
      conv => arg 8; simp only [Act.put, List.setIfInBounds_toArray, List.set_cons_zero, List.set_cons_succ]
      refine wpAnyH_ready (rs := [4]) (by kernel_rfl) (by simp) ?_
      refine (AllReadyH.cons (o := ⟨some 35, _, _, _, _, _⟩) rfl (fun K hK => ?_) AllReadyH.nil)
      go_simp
      refine hK.out _ _ (by exact range_below (a := w1) (by first | exact HBv2w.out | exact below_al HBv2w.out _ | exact hb1x) hlk rra) (fun hHeld => ?_)
      clear hK K
      conv => arg 8; simp only [Act.put, List.setIfInBounds_toArray, List.set_cons_zero, List.set_cons_succ]
      generalize hW : World.alloc _ _ = v3w at hHeld ⊢
      have hbx : Below v2w.heap.size v2w v3w := by rw [← hW]; exact (Below.refl _ _).alloc (Nat.le_refl _) _
      have hxx : Blk v3w v2w.heap.size 30 (bytesOf 32 k).toArray := by rw [← hW]; exact heap_alloc_new _ _
      have HXv3w := Lib.hid hxx
      clear hxx
      have HNv3w : Hid (∀ g, Value.ownBlock (.slice Av2w (n) cv2w) = some g → g ≠ v2w.heap.size) := fun g e => Nat.ne_of_lt (HOv2w.out.lt g e).2
      have HOv3w := Lib.hid (owns_below HOv2w.out hbx)
      have HBv3w := Lib.hid (HBv2w.out.trans (hbx.mono HBv2w.out.size))
      clear hbx hW
      refine wpAnyH_ready (rs := [5]) (by kernel_rfl) (by simp) ?_
      refine (AllReadyH.cons (o := ⟨some 36, _, _, _, _, _⟩) rfl (fun K hK => ?_) AllReadyH.nil)
      refine step_append_any _ (by rfl) (.tmp 33) (.tmp 35) _ (by rfl) w1.heap.size 30 i0 _ 32 32 Try.underlying28 HI0.out HZ0.out hz1 hz2 rfl (by omega) (.slice Av2w (n) cv2w) (n) (keysOf L) (by rfl) HOv3w.out _ (some ⟨v2w.heap.size, 0, none⟩) (1) 1 (keysOf [k]) (by rfl) (reads_key HXv3w.out) (keysOf_oneCell _) (by unfold maxLen; omega) (by omega) HBv3w.out.size ?_
      intro v3 v4w ho hg hat
      skip
      obtain ⟨Av4w, cv4w, rfl⟩ := own_form ho
      have hb1x : Below w1.heap.size w1 v4w := HBv3w.out.grown hg HBv3w.out.size (fun g e => (HOv3w.out.lt g e).1)
      have HOv4w := Lib.hid ho
      have HBv4w := Lib.hid hb1x
      clear ho hg hat hb1x
      refine hK.out _ _ (by exact range_below (a := w1) (by first | exact HBv4w.out | exact below_al HBv4w.out _ | exact hb1x) hlk rra) (fun hHeld => ?_)
      clear hK K
      conv => arg 8; simp only [Act.put, List.setIfInBounds_toArray, List.set_cons_zero, List.set_cons_succ]
      refine wpAnyH_take (i := 6) (oi := ⟨some 9, _, _, _, _, _⟩) (v := ?_) rfl (by kernel_rfl) (by kernel_rfl) (by kernel_rfl) (fun _ _ _ h => h) (Or.inl ⟨by kernel_rfl, ?_⟩) hHeld ?_
      rotate_left
      · intro w hSw
        (try dsimp only at hSw)
        go_simp
        all_goals (with_reducible rfl)
      conv => arg 8; simp only [Act.put, List.setIfInBounds_toArray, List.set_cons_zero, List.set_cons_succ]
      refine wpAnyH_done (by kernel_rfl) ?_ _
      refine NoPanic.normal ?_
      have hlk1 : (L ++ [k]).length = n + 1 := by rw [List.length_append, HN.out]; rfl
      have ho : v4w.ownsRow w1.heap.size 30 32 (.slice Av4w (L ++ [k]).length cv4w) (L ++ [k]).length (keysOf (L ++ [k])) := by
        rw [hlk1, keysOf_append]
        exact HOv4w.out
      have HOO := Lib.hid ho
      have HLK := Lib.hid hlk1
      obtain ⟨g5, c5, hv5, hg5, _⟩ := ho.form (by omega)
      injection hv5 with e1 _ e2
      subst e1 e2
      have hcc5 := (KeysAt.of_own ho).2.1
      have hcm5 := (KeysAt.of_own ho).2.2.1
      rw [hlk1] at hcc5
      have HG5 := Lib.hid hg5
      clear ho hlk1 hg5
      by_cases hc1 : cv4w = 1
      · have HC1 := Lib.hid hc1
        subst hc1
        obtain rfl : n = 0 := by omega
        clear HC1
        go_wp2_with fail
        go_ret2
        have hl := HN.out
        have hnil : L = [] := List.length_eq_zero_iff.1 hl
        exact ⟨_, _, rfl, HB1.out.trans (HBv4w.out.mono hz1'), KL.empty HOO.out (by rw [← HM.out, hnil]; rfl), .inr (fun g hg => by injection hg with hg; rw [← hg]; exact Nat.le_trans hz1' HG5.out)⟩
      · have HC1 := Lib.hid hc1
        have t7 : (n : Int) + 1 ≤ cv4w := by omega
        have t8 : (1 : Int) ≤ (n : Int) + 1 := by omega
        go_wp2_with fail
        go_ret2
        have hl := HLK.out
        have h9 := KL.tail HOO.out HC1.out (by omega)
        rw [hl, HM.out, Nat.add_sub_cancel] at h9
        exact ⟨_, _, rfl, HB1.out.trans (HBv4w.out.mono hz1'), h9, .inr (fun g hg => by injection hg with hg; rw [← hg]; exact Nat.le_trans hz1' HG5.out)⟩
    · go_simp
      refine hK.out _ _ (by exact range_below (a := w1) (by first | exact HBv1w.out | exact below_al HBv1w.out _ | exact hb1x) hlk rra) (fun hHeld => ?_)
      clear hK K
      conv => arg 8; simp only [Act.put, List.setIfInBounds_toArray, List.set_cons_zero, List.set_cons_succ]
      generalize hW : World.alloc _ _ = v5w at hHeld ⊢
      have hbx : Below v1w.heap.size v1w v5w := by rw [← hW]; exact (Below.refl _ _).alloc (Nat.le_refl _) _
      have hxx : Blk v5w v1w.heap.size 30 (bytesOf 32 k).toArray := by rw [← hW]; exact heap_alloc_new _ _
      have HXv5w := Lib.hid hxx
      clear hxx
      have HNv5w : Hid (∀ g, Value.ownBlock (.slice (some ⟨wd.heap.size, 0, none⟩) 0 0) = some g → g ≠ v1w.heap.size) := fun g e => Nat.ne_of_lt (HOv1w.out.lt g e).2
      have HOv5w := Lib.hid (owns_below HOv1w.out hbx)
      have HBv5w := Lib.hid (HBv1w.out.trans (hbx.mono HBv1w.out.size))
      clear hbx hW
      refine wpAnyH_ready (rs := [2]) (by kernel_rfl) (by simp) ?_
      refine (AllReadyH.cons (o := ⟨some 33, _, _, _, _, _⟩) rfl (fun K hK => ?_) AllReadyH.nil)
      refine step_append_any _ (by rfl) (.tmp 31) (.tmp 32) _ (by rfl) w1.heap.size 30 i0 _ 32 32 Try.underlying28 HI0.out HZ0.out hz1 hz2 rfl (by omega) (.slice (some ⟨wd.heap.size, 0, none⟩) 0 0) (0) ([]) (by rfl) HOv5w.out _ A (n) c (keysOf L) (by rfl) (HRL.out _ HBv5w.out) (keysOf_oneCell _) (by unfold maxLen; omega) (by omega) HBv5w.out.size ?_
      intro v3 v6w ho hg hat
      rw [Nat.zero_add, List.nil_append] at ho
      obtain ⟨Av6w, cv6w, rfl⟩ := own_form ho
      have hb1x : Below w1.heap.size w1 v6w := HBv5w.out.grown hg HBv5w.out.size (fun g e => (HOv5w.out.lt g e).1)
      have HOv6w := Lib.hid ho
      have HXv6w := Lib.hid (HXv5w.out.grown hg (fun e => HNv5w.out _ e.symm rfl))
      have HNv6w : Hid (∀ g, Value.ownBlock (.slice Av6w (n) cv6w) = some g → g ≠ v1w.heap.size) := fun g e => by
        rcases hat with h | h
        · exact HNv5w.out g (h.symm.trans e)
        · have h1 := HXv5w.out.lt; rw [e] at h; injection h with h; omega
      have HBv6w := Lib.hid hb1x
      clear ho hg hat hb1x
      refine hK.out _ _ (by exact range_below (a := w1) (by first | exact HBv6w.out | exact below_al HBv6w.out _ | exact hb1x) hlk rra) (fun hHeld => ?_)
      clear hK K
      conv => arg 8; simp only [Act.put, List.setIfInBounds_toArray, List.set_cons_zero, List.set_cons_succ]
      refine wpAnyH_ready (rs := [5]) (by kernel_rfl) (by simp) ?_
      refine (AllReadyH.cons (o := ⟨some 36, _, _, _, _, _⟩) rfl (fun K hK => ?_) AllReadyH.nil)
      refine step_append_any _ (by rfl) (.tmp 33) (.tmp 35) _ (by rfl) w1.heap.size 30 i0 _ 32 32 Try.underlying28 HI0.out HZ0.out hz1 hz2 rfl (by omega) (.slice Av6w (n) cv6w) (n) (keysOf L) (by rfl) HOv6w.out _ (some ⟨v1w.heap.size, 0, none⟩) (1) 1 (keysOf [k]) (by rfl) (reads_key HXv6w.out) (keysOf_oneCell _) (by unfold maxLen; omega) (by omega) HBv6w.out.size ?_
      intro v3 v7w ho hg hat
      skip
      obtain ⟨Av7w, cv7w, rfl⟩ := own_form ho
      have hb1x : Below w1.heap.size w1 v7w := HBv6w.out.grown hg HBv6w.out.size (fun g e => (HOv6w.out.lt g e).1)
      have HOv7w := Lib.hid ho
      have HBv7w := Lib.hid hb1x
      clear ho hg hat hb1x
      refine hK.out _ _ (by exact range_below (a := w1) (by first | exact HBv7w.out | exact below_al HBv7w.out _ | exact hb1x) hlk rra) (fun hHeld => ?_)
      clear hK K
      conv => arg 8; simp only [Act.put, List.setIfInBounds_toArray, List.set_cons_zero, List.set_cons_succ]
      refine wpAnyH_take (i := 6) (oi := ⟨some 9, _, _, _, _, _⟩) (v := ?_) rfl (by kernel_rfl) (by kernel_rfl) (by kernel_rfl) (fun _ _ _ h => h) (Or.inl ⟨by kernel_rfl, ?_⟩) hHeld ?_
      rotate_left
      · intro w hSw
        (try dsimp only at hSw)
        go_simp
        all_goals (with_reducible rfl)
      conv => arg 8; simp only [Act.put, List.setIfInBounds_toArray, List.set_cons_zero, List.set_cons_succ]
      refine wpAnyH_done (by kernel_rfl) ?_ _
      refine NoPanic.normal ?_
      have hlk1 : (L ++ [k]).length = n + 1 := by rw [List.length_append, HN.out]; rfl
      have ho : v7w.ownsRow w1.heap.size 30 32 (.slice Av7w (L ++ [k]).length cv7w) (L ++ [k]).length (keysOf (L ++ [k])) := by
        rw [hlk1, keysOf_append]
        exact HOv7w.out
      have HOO := Lib.hid ho
      have HLK := Lib.hid hlk1
      obtain ⟨g5, c5, hv5, hg5, _⟩ := ho.form (by omega)
      injection hv5 with e1 _ e2
      subst e1 e2
      have hcc5 := (KeysAt.of_own ho).2.1
      have hcm5 := (KeysAt.of_own ho).2.2.1
      rw [hlk1] at hcc5
      have HG5 := Lib.hid hg5
      clear ho hlk1 hg5
      by_cases hc1 : cv7w = 1
      · have HC1 := Lib.hid hc1
        subst hc1
        obtain rfl : n = 0 := by omega
        clear HC1
        go_wp2_with fail
        go_ret2
        have hl := HN.out
        have hnil : L = [] := List.length_eq_zero_iff.1 hl
        exact ⟨_, _, rfl, HB1.out.trans (HBv7w.out.mono hz1'), KL.empty HOO.out (by rw [← HM.out, hnil]; rfl), .inr (fun g hg => by injection hg with hg; rw [← hg]; exact Nat.le_trans hz1' HG5.out)⟩
      · have HC1 := Lib.hid hc1
        have t7 : (n : Int) + 1 ≤ cv7w := by omega
        have t8 : (1 : Int) ≤ (n : Int) + 1 := by omega
        go_wp2_with fail
        go_ret2
        have hl := HLK.out
        have h9 := KL.tail HOO.out HC1.out (by omega)
        rw [hl, HM.out, Nat.add_sub_cancel] at h9
        exact ⟨_, _, rfl, HB1.out.trans (HBv7w.out.mono hz1'), h9, .inr (fun g hg => by injection hg with hg; rw [← hg]; exact Nat.le_trans hz1' HG5.out)⟩
  · go_simp
    refine hK.out _ _ (by exact range_below (a := w1) (by first | exact HBD.out | exact below_al HBD.out _ | exact hb1x) hlk rra) (fun hHeld => ?_)
    clear hK K
    conv => arg 8; simp only [Act.put, List.setIfInBounds_toArray, List.set_cons_zero, List.set_cons_succ]
    generalize hW : World.alloc _ _ = v8w at hHeld ⊢
    have hbx : Below wd.heap.size wd v8w := by rw [← hW]; exact (Below.refl _ _).alloc (Nat.le_refl _) _
    have hxx : Blk v8w wd.heap.size 30 (bytesOf 32 k).toArray := by rw [← hW]; exact heap_alloc_new _ _
    have HXv8w := Lib.hid hxx
    clear hxx
    have HBv8w := Lib.hid (HBD.out.trans (hbx.mono HBD.out.size))
    clear hbx hW
    refine wpAnyH_ready (rs := [0]) (by kernel_rfl) (by simp) ?_
    refine (AllReadyH.cons (o := ⟨some 31, _, _, _, _, _⟩) rfl (fun K hK => ?_) AllReadyH.nil)
    go_simp
    refine hK.out _ _ (by exact range_below (a := w1) (by first | exact HBv8w.out | exact below_al HBv8w.out _ | exact hb1x) hlk rra) (fun hHeld => ?_)
    clear hK K
    conv => arg 8; simp only [Act.put, List.setIfInBounds_toArray, List.set_cons_zero, List.set_cons_succ]
    generalize hW : World.alloc _ _ = v9w at hHeld ⊢
    have hbx : Below v8w.heap.size v8w v9w := by rw [← hW]; exact (Below.refl _ _).alloc (Nat.le_refl _) _
    have hox : v9w.ownsRow w1.heap.size 30 32 (.slice (some ⟨v8w.heap.size, 0, none⟩) 0 0) 0 [] := by rw [← hW]; exact owns_base2 (empty_own _) HBv8w.out.size
    have HOv9w := Lib.hid hox
    clear hox
    have HNv9w : Hid (∀ g, Value.ownBlock (.slice (some ⟨v8w.heap.size, 0, none⟩) 0 0) = some g → g ≠ wd.heap.size) := fun g e => by have h1 := HXv8w.out.lt; injection e with e; have e : v8w.heap.size = g := e; omega
    have HXv9w := Lib.hid (HXv8w.out.below hbx HXv8w.out.lt)
    have HBv9w := Lib.hid (HBv8w.out.trans (hbx.mono HBv8w.out.size))
    clear hbx hW
    refine wpAnyH_ready (rs := [2]) (by kernel_rfl) (by simp) ?_
    refine (AllReadyH.cons (o := ⟨some 33, _, _, _, _, _⟩) rfl (fun K hK => ?_) AllReadyH.nil)
    refine step_append_any _ (by rfl) (.tmp 31) (.tmp 32) _ (by rfl) w1.heap.size 30 i0 _ 32 32 Try.underlying28 HI0.out HZ0.out hz1 hz2 rfl (by omega) (.slice (some ⟨v8w.heap.size, 0, none⟩) 0 0) (0) ([]) (by rfl) HOv9w.out _ A (n) c (keysOf L) (by rfl) (HRL.out _ HBv9w.out) (keysOf_oneCell _) (by unfold maxLen; omega) (by omega) HBv9w.out.size ?_
    intro v3 v10w ho hg hat
    rw [Nat.zero_add, List.nil_append] at ho
    obtain ⟨Av10w, cv10w, rfl⟩ := own_form ho
    have hb1x : Below w1.heap.size w1 v10w := HBv9w.out.grown hg HBv9w.out.size (fun g e => (HOv9w.out.lt g e).1)
    have HOv10w := Lib.hid ho
    have HXv10w := Lib.hid (HXv9w.out.grown hg (fun e => HNv9w.out _ e.symm rfl))
    have HNv10w : Hid (∀ g, Value.ownBlock (.slice Av10w (n) cv10w) = some g → g ≠ wd.heap.size) := fun g e => by
      rcases hat with h | h
      · exact HNv9w.out g (h.symm.trans e)
      · have h1 := HXv9w.out.lt; rw [e] at h; injection h with h; omega
    have HBv10w := Lib.hid hb1x
    clear ho hg hat hb1x
    refine hK.out _ _ (by exact range_below (a := w1) (by first | exact HBv10w.out | exact below_al HBv10w.out _ | exact hb1x) hlk rra) (fun hHeld => ?_)
    clear hK K
    conv => arg 8; simp only [Act.put, List.setIfInBounds_toArray, List.set_cons_zero, List.set_cons_succ]
    refine wpAnyH_ready (rs := [5]) (by kernel_rfl) (by simp) ?_
    refine (AllReadyH.cons (o := ⟨some 36, _, _, _, _, _⟩) rfl (fun K hK => ?_) AllReadyH.nil)
    refine step_append_any _ (by rfl) (.tmp 33) (.tmp 35) _ (by rfl) w1.heap.size 30 i0 _ 32 32 Try.underlying28 HI0.out HZ0.out hz1 hz2 rfl (by omega) (.slice Av10w (n) cv10w) (n) (keysOf L) (by rfl) HOv10w.out _ (some ⟨wd.heap.size, 0, none⟩) (1) 1 (keysOf [k]) (by rfl) (reads_key HXv10w.out) (keysOf_oneCell _) (by unfold maxLen; omega) (by omega) HBv10w.out.size ?_
    intro v3 v11w ho hg hat
    skip
    obtain ⟨Av11w, cv11w, rfl⟩ := own_form ho
    have hb1x : Below w1.heap.size w1 v11w := HBv10w.out.grown hg HBv10w.out.size (fun g e => (HOv10w.out.lt g e).1)
    have HOv11w := Lib.hid ho
    have HBv11w := Lib.hid hb1x
    clear ho hg hat hb1x
    refine hK.out _ _ (by exact range_below (a := w1) (by first | exact HBv11w.out | exact below_al HBv11w.out _ | exact hb1x) hlk rra) (fun hHeld => ?_)
    clear hK K
    conv => arg 8; simp only [Act.put, List.setIfInBounds_toArray, List.set_cons_zero, List.set_cons_succ]
    refine wpAnyH_take (i := 6) (oi := ⟨some 9, _, _, _, _, _⟩) (v := ?_) rfl (by kernel_rfl) (by kernel_rfl) (by kernel_rfl) (fun _ _ _ h => h) (Or.inl ⟨by kernel_rfl, ?_⟩) hHeld ?_
    rotate_left
    · intro w hSw
      (try dsimp only at hSw)
      go_simp
      all_goals (with_reducible rfl)
    conv => arg 8; simp only [Act.put, List.setIfInBounds_toArray, List.set_cons_zero, List.set_cons_succ]
    refine wpAnyH_done (by kernel_rfl) ?_ _
    refine NoPanic.normal ?_
    have hlk1 : (L ++ [k]).length = n + 1 := by rw [List.length_append, HN.out]; rfl
    have ho : v11w.ownsRow w1.heap.size 30 32 (.slice Av11w (L ++ [k]).length cv11w) (L ++ [k]).length (keysOf (L ++ [k])) := by
      rw [hlk1, keysOf_append]
      exact HOv11w.out
    have HOO := Lib.hid ho
    have HLK := Lib.hid hlk1
    obtain ⟨g5, c5, hv5, hg5, _⟩ := ho.form (by omega)
    injection hv5 with e1 _ e2
    subst e1 e2
    have hcc5 := (KeysAt.of_own ho).2.1
    have hcm5 := (KeysAt.of_own ho).2.2.1
    rw [hlk1] at hcc5
    have HG5 := Lib.hid hg5
    clear ho hlk1 hg5
    by_cases hc1 : cv11w = 1
    · have HC1 := Lib.hid hc1
      subst hc1
      obtain rfl : n = 0 := by omega
      clear HC1
      go_wp2_with fail
      go_ret2
      have hl := HN.out
      have hnil : L = [] := List.length_eq_zero_iff.1 hl
      exact ⟨_, _, rfl, HB1.out.trans (HBv11w.out.mono hz1'), KL.empty HOO.out (by rw [← HM.out, hnil]; rfl), .inr (fun g hg => by injection hg with hg; rw [← hg]; exact Nat.le_trans hz1' HG5.out)⟩
    · have HC1 := Lib.hid hc1
      have t7 : (n : Int) + 1 ≤ cv11w := by omega
      have t8 : (1 : Int) ≤ (n : Int) + 1 := by omega
      go_wp2_with fail
      go_ret2
      have hl := HLK.out
      have h9 := KL.tail HOO.out HC1.out (by omega)
      rw [hl, HM.out, Nat.add_sub_cancel] at h9
      exact ⟨_, _, rfl, HB1.out.trans (HBv11w.out.mono hz1'), h9, .inr (fun g hg => by injection hg with hg; rw [← hg]; exact Nat.le_trans hz1' HG5.out)⟩
set_option maxRecDepth 100000 in
set_option maxHeartbeats 2000000 in
attribute [local go_sem ↓] wp_load_k wp_build_key in
theorem rpush_full_mid (w : World) (v : Value) (L : List Ky) (gb : Option Nat) (hk : KL w v L gb) (hL : L.length ≤ 1048576) (s : Nat) (hs0 : 0 < s) (hs : s ≤ 1024) (hfu : s ≤ L.length) (k : Ky) (hno : hasK L k = false) :
    Calls Try.prog 22 #[v, .int .i64 (s : Int), keyV k] w (RefKPost w ((L ++ [k]).drop 1) true gb) := by
  obtain ⟨A, c, hv, hka⟩ := hk.keys
  have hKL := hk
  rw [hv] at hk ⊢
  obtain ⟨i0, hi0, hz0, hz1, hz2⟩ := info_parts key_info
  obtain ⟨cx, hcx⟩ : ∃ cx, (bytesOf 32 k).toArray = cx := ⟨_, rfl⟩
  show Calls _ _ #[_, .int .i64 (s : Int), .agg (bytesOf 32 k).toArray] _ _
  rw [hcx]
  have HCX := Lib.hid hcx
  have HKA := Lib.hid hka
  have HKL := Lib.hid hKL
  have HV := Lib.hid hv
  have HI0 := Lib.hid hi0
  have HZ0 := Lib.hid hz0
  obtain ⟨M, hM⟩ : ∃ M, (L ++ [k]).drop 1 = M := ⟨_, rfl⟩
  rw [hM]
  have HM := Lib.hid hM
  clear hM
  obtain ⟨n, hn⟩ : ∃ n, L.length = n := ⟨_, rfl⟩
  have HN := Lib.hid hn
  rw [hn] at hL hfu ⊢
  clear hcx hka hk hKL hi0 hz0 hn hv
  go_enter Try.func22, Try.ntmps22
  go_upto_region 1 with (fail)
  generalize hwa : World.alloc w _ = wa
  have hb0 : Below w.heap.size w wa := by rw [← hwa]; exact (Below.refl _ _).alloc (Nat.le_refl _) _
  have hk3 : Blk wa w.heap.size 30 (bytesOf 32 k).toArray := by rw [← hwa, HCX.out]; exact Blk.new w _ _
  have q1 := keyOk_mk (blk_key hk3)
  have q2 := loadK_eq (blk_key hk3)
  have HIX := Lib.hid (rindex_any wa A L.length c L k (HKA.out.below hb0))
  have HB0 := Lib.hid hb0
  have HK3 := Lib.hid hk3
  have hz0' := hb0.size
  clear hwa hb0 hk3
  go_wp2_with fail
  rw [← HN.out]
  refine HIX.out.mono ?_
  rintro e w1 ⟨rfl, hb1⟩
  rw [HN.out]
  have HB1 := Lib.hid (HB0.out.trans (hb1.mono hz0'))
  have hk4 := HK3.out.below hb1 HK3.out.lt
  have HK4 := Lib.hid hk4
  have hz1' := HB1.out.size
  clear q1 q2 hb1 HIX HK3
  rw [idxI_no hno] at *
  have HRL : Hid (∀ W, Below w1.heap.size w1 W → Reads W w.heap.size 32 A n (keysOf L)) := fun W hW => by
    have h1 := HKL.out.below HB1.out
    obtain ⟨A', c', e1, e2⟩ := h1.keys
    rw [HV.out] at e1
    injection e1 with e1 _ _
    subst e1
    rcases Nat.eq_zero_or_pos n with h0 | h0
    · have hl := HN.out
      obtain rfl : L = [] := List.length_eq_zero_iff.1 (by omega)
      subst h0
      exact Reads.none_
    · have hl := HN.out
      obtain ⟨g, o, c', hf1, hgb, hcc, hc63, hrd⟩ := HKL.out.form (by omega)
      rw [HV.out] at hf1
      injection hf1 with h1 _ h2
      subst h1
      rw [← hl]
      exact (hrd.below HB1.out).below (hW.mono hz1')
  go_upto_region 5 with (fail)
  have hu := Try.underlying30
  have hik := key_size k
  have rra := blk_range HK4.out
  have hlk := HK4.out.lt
  have q3 := isKy k
  refine wp_region_noPanic ?_
  refine wp_region_held_drew (S := fun w' => w'.rangeAt w.heap.size 0 (bytesOf 32 k)) (by kernel_rfl) rra (fun hHeld => ?_)
  refine wpAnyH_take (i := 1) (oi := ⟨some 32, _, _, _, _, _⟩) (v := ?_) rfl (by kernel_rfl) (by kernel_rfl) (by kernel_rfl) (fun _ _ _ h => h) (Or.inl ⟨by kernel_rfl, ?_⟩) hHeld ?_
  rotate_left
  · intro w hSw
    (try dsimp only at hSw)
    go_simp
    all_goals (with_reducible rfl)
  conv => arg 8; simp only [Act.put, List.setIfInBounds_toArray, List.set_cons_zero, List.set_cons_succ]
  refine wpAnyH_take (i := 3) (oi := ⟨some 34, _, _, _, _, _⟩) (v := _) rfl (by kernel_rfl) (by kernel_rfl) (by kernel_rfl) (fun _ _ _ h => h) (yieldsIf_load_mid (S := fun w' => w'.rangeAt w.heap.size 0 (bytesOf 32 k)) (by kernel_rfl) _ _ rfl _ _ rfl _ _ (fun w hSw => hSw) hu rfl hik) hHeld ?_
  conv => arg 8; simp only [Act.put, List.setIfInBounds_toArray, List.set_cons_zero, List.set_cons_succ]
  generalize hW : World.drew _ = wd at hHeld ⊢
  have hbd : Below w1.heap.size w1 wd := by rw [← hW]; exact belowDrewR (Below.refl _ _)
  have HBD := Lib.hid hbd
  clear hbd hW
  refine wpAnyH_ready (rs := [0, 4]) (by kernel_rfl) (by simp) ?_
  refine (AllReadyH.cons (o := ⟨some 31, _, _, _, _, _⟩) rfl (fun K hK => ?_) (AllReadyH.cons (o := ⟨some 35, _, _, _, _, _⟩) rfl (fun K hK => ?_) AllReadyH.nil))
  · go_simp
    refine hK.out _ _ (by exact range_below (a := w1) (by first | exact HBD.out | exact below_al HBD.out _ | exact hb1x) hlk rra) (fun hHeld => ?_)
    clear hK K
    conv => arg 8; simp only [Act.put, List.setIfInBounds_toArray, List.set_cons_zero, List.set_cons_succ]
    generalize hW : World.alloc _ _ = v1w at hHeld ⊢
    have hbx : Below wd.heap.size wd v1w := by rw [← hW]; exact (Below.refl _ _).alloc (Nat.le_refl _) _
    have hox : v1w.ownsRow w1.heap.size 30 32 (.slice (some ⟨wd.heap.size, 0, none⟩) 0 0) 0 [] := by rw [← hW]; exact owns_base2 (empty_own _) HBD.out.size
    have HOv1w := Lib.hid hox
    clear hox
    have HBv1w := Lib.hid (HBD.out.trans (hbx.mono HBD.out.size))
    clear hbx hW
    refine wpAnyH_ready (rs := [2, 4]) (by kernel_rfl) (by simp) ?_
    refine (AllReadyH.cons (o := ⟨some 33, _, _, _, _, _⟩) rfl (fun K hK => ?_) (AllReadyH.cons (o := ⟨some 35, _, _, _, _, _⟩) rfl (fun K hK => ?_) AllReadyH.nil))
    · refine step_append_any _ (by rfl) (.tmp 31) (.tmp 32) _ (by rfl) w1.heap.size 30 i0 _ 32 32 Try.underlying28 HI0.out HZ0.out hz1 hz2 rfl (by omega) (.slice (some ⟨wd.heap.size, 0, none⟩) 0 0) (0) ([]) (by rfl) HOv1w.out _ A (n) c (keysOf L) (by rfl) (HRL.out _ HBv1w.out) (keysOf_oneCell _) (by unfold maxLen; omega) (by omega) HBv1w.out.size ?_
      intro v3 v2w ho hg hat
      rw [Nat.zero_add, List.nil_append] at ho
      obtain ⟨Av2w, cv2w, rfl⟩ := own_form ho
      have hb1x : Below w1.heap.size w1 v2w := HBv1w.out.grown hg HBv1w.out.size (fun g e => (HOv1w.out.lt g e).1)
      have HOv2w := Lib.hid ho
      have HBv2w := Lib.hid hb1x
      clear ho hg hat hb1x
      refine hK.out _ _ (by exact range_below (a := w1) (by first | exact HBv2w.out | exact below_al HBv2w.out _ | exact hb1x) hlk rra) (fun hHeld => ?_)
      clear hK K
      conv => arg 8; simp only [Act.put, List.setIfInBounds_toArray, List.set_cons_zero, List.set_cons_succ]
      refine wpAnyH_ready (rs := [4]) (by kernel_rfl) (by simp) ?_
      refine (AllReadyH.cons (o := ⟨some 35, _, _, _, _, _⟩) rfl (fun K hK => ?_) AllReadyH.nil)
      go_simp
      refine hK.out _ _ (by exact range_below (a := w1) (by first | exact HBv2w.out | exact below_al HBv2w.out _ | exact hb1x) hlk rra) (fun hHeld => ?_)
      clear hK K
      conv => arg 8; simp only [Act.put, List.setIfInBounds_toArray, List.set_cons_zero, List.set_cons_succ]
      generalize hW : World.alloc _ _ = v3w at hHeld ⊢
      have hbx : Below v2w.heap.size v2w v3w := by rw [← hW]; exact (Below.refl _ _).alloc (Nat.le_refl _) _
      have hxx : Blk v3w v2w.heap.size 30 (bytesOf 32 k).toArray := by rw [← hW]; exact heap_alloc_new _ _
      have HXv3w := Lib.hid hxx
      clear hxx
      have HNv3w : Hid (∀ g, Value.ownBlock (.slice Av2w (n) cv2w) = some g → g ≠ v2w.heap.size) := fun g e => Nat.ne_of_lt (HOv2w.out.lt g e).2
      have HOv3w := Lib.hid (owns_below HOv2w.out hbx)
      have HBv3w := Lib.hid (HBv2w.out.trans (hbx.mono HBv2w.out.size))
      clear hbx hW
      refine wpAnyH_ready (rs := [5]) (by kernel_rfl) (by simp) ?_
      refine (AllReadyH.cons (o := ⟨some 36, _, _, _, _, _⟩) rfl (fun K hK => ?_) AllReadyH.nil)
      refine step_append_any _ (by rfl) (.tmp 33) (.tmp 35) _ (by rfl) w1.heap.size 30 i0 _ 32 32 Try.underlying28 HI0.out HZ0.out hz1 hz2 rfl (by omega) (.slice Av2w (n) cv2w) (n) (keysOf L) (by rfl) HOv3w.out _ (some ⟨v2w.heap.size, 0, none⟩) (1) 1 (keysOf [k]) (by rfl) (reads_key HXv3w.out) (keysOf_oneCell _) (by unfold maxLen; omega) (by omega) HBv3w.out.size ?_
      intro v3 v4w ho hg hat
      skip
      obtain ⟨Av4w, cv4w, rfl⟩ := own_form ho
      have hb1x : Below w1.heap.size w1 v4w := HBv3w.out.grown hg HBv3w.out.size (fun g e => (HOv3w.out.lt g e).1)
      have HOv4w := Lib.hid ho
      have HBv4w := Lib.hid hb1x
      clear ho hg hat hb1x
      refine hK.out _ _ (by exact range_below (a := w1) (by first | exact HBv4w.out | exact below_al HBv4w.out _ | exact hb1x) hlk rra) (fun hHeld => ?_)
      clear hK K
      conv => arg 8; simp only [Act.put, List.setIfInBounds_toArray, List.set_cons_zero, List.set_cons_succ]
      refine wpAnyH_take (i := 6) (oi := ⟨some 9, _, _, _, _, _⟩) (v := ?_) rfl (by kernel_rfl) (by kernel_rfl) (by kernel_rfl) (fun _ _ _ h => h) (Or.inl ⟨by kernel_rfl, ?_⟩) hHeld ?_
      rotate_left
      · intro w hSw
        (try dsimp only at hSw)
        go_simp
        all_goals (with_reducible rfl)
      conv => arg 8; simp only [Act.put, List.setIfInBounds_toArray, List.set_cons_zero, List.set_cons_succ]
      refine wpAnyH_done (by kernel_rfl) ?_ _
      refine NoPanic.normal ?_
      have hlk1 : (L ++ [k]).length = n + 1 := by rw [List.length_append, HN.out]; rfl
      have ho : v4w.ownsRow w1.heap.size 30 32 (.slice Av4w (L ++ [k]).length cv4w) (L ++ [k]).length (keysOf (L ++ [k])) := by
        rw [hlk1, keysOf_append]
        exact HOv4w.out
      have HOO := Lib.hid ho
      have HLK := Lib.hid hlk1
      obtain ⟨g5, c5, hv5, hg5, _⟩ := ho.form (by omega)
      injection hv5 with e1 _ e2
      subst e1 e2
      have hcc5 := (KeysAt.of_own ho).2.1
      have hcm5 := (KeysAt.of_own ho).2.2.1
      rw [hlk1] at hcc5
      have HG5 := Lib.hid hg5
      clear ho hlk1 hg5
      have hc1 : ¬ cv4w = 1 := by omega
      have HC1 := Lib.hid hc1
      have t7 : (n : Int) + 1 ≤ cv4w := by omega
      have t8 : (1 : Int) ≤ (n : Int) + 1 := by omega
      go_wp2_with fail
      go_ret2
      have hl := HLK.out
      have h9 := KL.tail HOO.out HC1.out (by omega)
      rw [hl, HM.out, Nat.add_sub_cancel] at h9
      exact ⟨_, _, rfl, HB1.out.trans (HBv4w.out.mono hz1'), h9, .inr (fun g hg => by injection hg with hg; rw [← hg]; exact Nat.le_trans hz1' HG5.out)⟩
    · go_simp
      refine hK.out _ _ (by exact range_below (a := w1) (by first | exact HBv1w.out | exact below_al HBv1w.out _ | exact hb1x) hlk rra) (fun hHeld => ?_)
      clear hK K
      conv => arg 8; simp only [Act.put, List.setIfInBounds_toArray, List.set_cons_zero, List.set_cons_succ]
      generalize hW : World.alloc _ _ = v5w at hHeld ⊢
      have hbx : Below v1w.heap.size v1w v5w := by rw [← hW]; exact (Below.refl _ _).alloc (Nat.le_refl _) _
      have hxx : Blk v5w v1w.heap.size 30 (bytesOf 32 k).toArray := by rw [← hW]; exact heap_alloc_new _ _
      have HXv5w := Lib.hid hxx
      clear hxx
      have HNv5w : Hid (∀ g, Value.ownBlock (.slice (some ⟨wd.heap.size, 0, none⟩) 0 0) = some g → g ≠ v1w.heap.size) := fun g e => Nat.ne_of_lt (HOv1w.out.lt g e).2
      have HOv5w := Lib.hid (owns_below HOv1w.out hbx)
      have HBv5w := Lib.hid (HBv1w.out.trans (hbx.mono HBv1w.out.size))
      clear hbx hW
      refine wpAnyH_ready (rs := [2]) (by kernel_rfl) (by simp) ?_
      refine (AllReadyH.cons (o := ⟨some 33, _, _, _, _, _⟩) rfl (fun K hK => ?_) AllReadyH.nil)
      refine step_append_any _ (by rfl) (.tmp 31) (.tmp 32) _ (by rfl) w1.heap.size 30 i0 _ 32 32 Try.underlying28 HI0.out HZ0.out hz1 hz2 rfl (by omega) (.slice (some ⟨wd.heap.size, 0, none⟩) 0 0) (0) ([]) (by rfl) HOv5w.out _ A (n) c (keysOf L) (by rfl) (HRL.out _ HBv5w.out) (keysOf_oneCell _) (by unfold maxLen; omega) (by omega) HBv5w.out.size ?_
      intro v3 v6w ho hg hat
      rw [Nat.zero_add, List.nil_append] at ho
      obtain ⟨Av6w, cv6w, rfl⟩ := own_form ho
      have hb1x : Below w1.heap.size w1 v6w := HBv5w.out.grown hg HBv5w.out.size (fun g e => (HOv5w.out.lt g e).1)
      have HOv6w := Lib.hid ho
      have HXv6w := Lib.hid (HXv5w.out.grown hg (fun e => HNv5w.out _ e.symm rfl))
      have HNv6w : Hid (∀ g, Value.ownBlock (.slice Av6w (n) cv6w) = some g → g ≠ v1w.heap.size) := fun g e => by
        rcases hat with h | h
        · exact HNv5w.out g (h.symm.trans e)
        · have h1 := HXv5w.out.lt; rw [e] at h; injection h with h; omega
      have HBv6w := Lib.hid hb1x
      clear ho hg hat hb1x
      refine hK.out _ _ (by exact range_below (a := w1) (by first | exact HBv6w.out | exact below_al HBv6w.out _ | exact hb1x) hlk rra) (fun hHeld => ?_)
      clear hK K
      conv => arg 8; simp only [Act.put, List.setIfInBounds_toArray, List.set_cons_zero, List.set_cons_succ]
      refine wpAnyH_ready (rs := [5]) (by kernel_rfl) (by simp) ?_
      refine (AllReadyH.cons (o := ⟨some 36, _, _, _, _, _⟩) rfl (fun K hK => ?_) AllReadyH.nil)
      refine step_append_any _ (by rfl) (.tmp 33) (.tmp 35) _ (by rfl) w1.heap.size 30 i0 _ 32 32 Try.underlying28 HI0.out HZ0.out hz1 hz2 rfl (by omega) (.slice Av6w (n) cv6w) (n) (keysOf L) (by rfl) HOv6w.out _ (some ⟨v1w.heap.size, 0, none⟩) (1) 1 (keysOf [k]) (by rfl) (reads_key HXv6w.out) (keysOf_oneCell _) (by unfold maxLen; omega) (by omega) HBv6w.out.size ?_
      intro v3 v7w ho hg hat
      skip
      obtain ⟨Av7w, cv7w, rfl⟩ := own_form ho
      have hb1x : Below w1.heap.size w1 v7w := HBv6w.out.grown hg HBv6w.out.size (fun g e => (HOv6w.out.lt g e).1)
      have HOv7w := Lib.hid ho
      have HBv7w := Lib.hid hb1x
      clear ho hg hat hb1x
      refine hK.out _ _ (by exact range_below (a := w1) (by first | exact HBv7w.out | exact below_al HBv7w.out _ | exact hb1x) hlk rra) (fun hHeld => ?_)
      clear hK K
      conv => arg 8; simp only [Act.put, List.setIfInBounds_toArray, List.set_cons_zero, List.set_cons_succ]
      refine wpAnyH_take (i := 6) (oi := ⟨some 9, _, _, _, _, _⟩) (v := ?_) rfl (by kernel_rfl) (by kernel_rfl) (by kernel_rfl) (fun _ _ _ h => h) (Or.inl ⟨by kernel_rfl, ?_⟩) hHeld ?_
      rotate_left
      · intro w hSw
        (try dsimp only at hSw)
        go_simp
        all_goals (with_reducible rfl)
      conv => arg 8; simp only [Act.put, List.setIfInBounds_toArray, List.set_cons_zero, List.set_cons_succ]
      refine wpAnyH_done (by kernel_rfl) ?_ _
      refine NoPanic.normal ?_
      have hlk1 : (L ++ [k]).length = n + 1 := by rw [List.length_append, HN.out]; rfl
      have ho : v7w.ownsRow w1.heap.size 30 32 (.slice Av7w (L ++ [k]).length cv7w) (L ++ [k]).length (keysOf (L ++ [k])) := by
        rw [hlk1, keysOf_append]
        exact HOv7w.out
      have HOO := Lib.hid ho
      have HLK := Lib.hid hlk1
      obtain ⟨g5, c5, hv5, hg5, _⟩ := ho.form (by omega)
      injection hv5 with e1 _ e2
      subst e1 e2
      have hcc5 := (KeysAt.of_own ho).2.1
      have hcm5 := (KeysAt.of_own ho).2.2.1
      rw [hlk1] at hcc5
      have HG5 := Lib.hid hg5
      clear ho hlk1 hg5
      have hc1 : ¬ cv7w = 1 := by omega
      have HC1 := Lib.hid hc1
      have t7 : (n : Int) + 1 ≤ cv7w := by omega
      have t8 : (1 : Int) ≤ (n : Int) + 1 := by omega
      go_wp2_with fail
      go_ret2
      have hl := HLK.out
      have h9 := KL.tail HOO.out HC1.out (by omega)
      rw [hl, HM.out, Nat.add_sub_cancel] at h9
      exact ⟨_, _, rfl, HB1.out.trans (HBv7w.out.mono hz1'), h9, .inr (fun g hg => by injection hg with hg; rw [← hg]; exact Nat.le_trans hz1' HG5.out)⟩
  · go_simp
    refine hK.out _ _ (by exact range_below (a := w1) (by first | exact HBD.out | exact below_al HBD.out _ | exact hb1x) hlk rra) (fun hHeld => ?_)
    clear hK K
    conv => arg 8; simp only [Act.put, List.setIfInBounds_toArray, List.set_cons_zero, List.set_cons_succ]
    generalize hW : World.alloc _ _ = v8w at hHeld ⊢
    have hbx : Below wd.heap.size wd v8w := by rw [← hW]; exact (Below.refl _ _).alloc (Nat.le_refl _) _
    have hxx : Blk v8w wd.heap.size 30 (bytesOf 32 k).toArray := by rw [← hW]; exact heap_alloc_new _ _
    have HXv8w := Lib.hid hxx
    clear hxx
    have HBv8w := Lib.hid (HBD.out.trans (hbx.mono HBD.out.size))
    clear hbx hW
    refine wpAnyH_ready (rs := [0]) (by kernel_rfl) (by simp) ?_
    refine (AllReadyH.cons (o := ⟨some 31, _, _, _, _, _⟩) rfl (fun K hK => ?_) AllReadyH.nil)
    go_simp
    refine hK.out _ _ (by exact range_below (a := w1) (by first | exact HBv8w.out | exact below_al HBv8w.out _ | exact hb1x) hlk rra) (fun hHeld => ?_)
    clear hK K
    conv => arg 8; simp only [Act.put, List.setIfInBounds_toArray, List.set_cons_zero, List.set_cons_succ]
    generalize hW : World.alloc _ _ = v9w at hHeld ⊢
    have hbx : Below v8w.heap.size v8w v9w := by rw [← hW]; exact (Below.refl _ _).alloc (Nat.le_refl _) _
    have hox : v9w.ownsRow w1.heap.size 30 32 (.slice (some ⟨v8w.heap.size, 0, none⟩) 0 0) 0 [] := by rw [← hW]; exact owns_base2 (empty_own _) HBv8w.out.size
    have HOv9w := Lib.hid hox
    clear hox
    have HNv9w : Hid (∀ g, Value.ownBlock (.slice (some ⟨v8w.heap.size, 0, none⟩) 0 0) = some g → g ≠ wd.heap.size) := fun g e => by have h1 := HXv8w.out.lt; injection e with e; have e : v8w.heap.size = g := e; omega
    have HXv9w := Lib.hid (HXv8w.out.below hbx HXv8w.out.lt)
    have HBv9w := Lib.hid (HBv8w.out.trans (hbx.mono HBv8w.out.size))
    clear hbx hW
    refine wpAnyH_ready (rs := [2]) (by kernel_rfl) (by simp) ?_
    refine (AllReadyH.cons (o := ⟨some 33, _, _, _, _, _⟩) rfl (fun K hK => ?_) AllReadyH.nil)
    refine step_append_any _ (by rfl) (.tmp 31) (.tmp 32) _ (by rfl) w1.heap.size 30 i0 _ 32 32 Try.underlying28 HI0.out HZ0.out hz1 hz2 rfl (by omega) (.slice (some ⟨v8w.heap.size, 0, none⟩) 0 0) (0) ([]) (by rfl) HOv9w.out _ A (n) c (keysOf L) (by rfl) (HRL.out _ HBv9w.out) (keysOf_oneCell _) (by unfold maxLen; omega) (by omega) HBv9w.out.size ?_
    intro v3 v10w ho hg hat
    rw [Nat.zero_add, List.nil_append] at ho
    obtain ⟨Av10w, cv10w, rfl⟩ := own_form ho
    have hb1x : Below w1.heap.size w1 v10w := HBv9w.out.grown hg HBv9w.out.size (fun g e => (HOv9w.out.lt g e).1)
    have HOv10w := Lib.hid ho
    have HXv10w := Lib.hid (HXv9w.out.grown hg (fun e => HNv9w.out _ e.symm rfl))
    have HNv10w : Hid (∀ g, Value.ownBlock (.slice Av10w (n) cv10w) = some g → g ≠ wd.heap.size) := fun g e => by
      rcases hat with h | h
      · exact HNv9w.out g (h.symm.trans e)
      · have h1 := HXv9w.out.lt; rw [e] at h; injection h with h; omega
    have HBv10w := Lib.hid hb1x
    clear ho hg hat hb1x
    refine hK.out _ _ (by exact range_below (a := w1) (by first | exact HBv10w.out | exact below_al HBv10w.out _ | exact hb1x) hlk rra) (fun hHeld => ?_)
    clear hK K
    conv => arg 8; simp only [Act.put, List.setIfInBounds_toArray, List.set_cons_zero, List.set_cons_succ]
    refine wpAnyH_ready (rs := [5]) (by kernel_rfl) (by simp) ?_
    refine (AllReadyH.cons (o := ⟨some 36, _, _, _, _, _⟩) rfl (fun K hK => ?_) AllReadyH.nil)
    refine step_append_any _ (by rfl) (.tmp 33) (.tmp 35) _ (by rfl) w1.heap.size 30 i0 _ 32 32 Try.underlying28 HI0.out HZ0.out hz1 hz2 rfl (by omega) (.slice Av10w (n) cv10w) (n) (keysOf L) (by rfl) HOv10w.out _ (some ⟨wd.heap.size, 0, none⟩) (1) 1 (keysOf [k]) (by rfl) (reads_key HXv10w.out) (keysOf_oneCell _) (by unfold maxLen; omega) (by omega) HBv10w.out.size ?_
    intro v3 v11w ho hg hat
    skip
    obtain ⟨Av11w, cv11w, rfl⟩ := own_form ho
    have hb1x : Below w1.heap.size w1 v11w := HBv10w.out.grown hg HBv10w.out.size (fun g e => (HOv10w.out.lt g e).1)
    have HOv11w := Lib.hid ho
    have HBv11w := Lib.hid hb1x
    clear ho hg hat hb1x
    refine hK.out _ _ (by exact range_below (a := w1) (by first | exact HBv11w.out | exact below_al HBv11w.out _ | exact hb1x) hlk rra) (fun hHeld => ?_)
    clear hK K
    conv => arg 8; simp only [Act.put, List.setIfInBounds_toArray, List.set_cons_zero, List.set_cons_succ]
    refine wpAnyH_take (i := 6) (oi := ⟨some 9, _, _, _, _, _⟩) (v := ?_) rfl (by kernel_rfl) (by kernel_rfl) (by kernel_rfl) (fun _ _ _ h => h) (Or.inl ⟨by kernel_rfl, ?_⟩) hHeld ?_
    rotate_left
    · intro w hSw
      (try dsimp only at hSw)
      go_simp
      all_goals (with_reducible rfl)
    conv => arg 8; simp only [Act.put, List.setIfInBounds_toArray, List.set_cons_zero, List.set_cons_succ]
    refine wpAnyH_done (by kernel_rfl) ?_ _
    refine NoPanic.normal ?_
    have hlk1 : (L ++ [k]).length = n + 1 := by rw [List.length_append, HN.out]; rfl
    have ho : v11w.ownsRow w1.heap.size 30 32 (.slice Av11w (L ++ [k]).length cv11w) (L ++ [k]).length (keysOf (L ++ [k])) := by
      rw [hlk1, keysOf_append]
      exact HOv11w.out
    have HOO := Lib.hid ho
    have HLK := Lib.hid hlk1
    obtain ⟨g5, c5, hv5, hg5, _⟩ := ho.form (by omega)
    injection hv5 with e1 _ e2
    subst e1 e2
    have hcc5 := (KeysAt.of_own ho).2.1
    have hcm5 := (KeysAt.of_own ho).2.2.1
    rw [hlk1] at hcc5
    have HG5 := Lib.hid hg5
    clear ho hlk1 hg5
    have hc1 : ¬ cv11w = 1 := by omega
    have HC1 := Lib.hid hc1
    have t7 : (n : Int) + 1 ≤ cv11w := by omega
    have t8 : (1 : Int) ≤ (n : Int) + 1 := by omega
    go_wp2_with fail
    go_ret2
    have hl := HLK.out
    have h9 := KL.tail HOO.out HC1.out (by omega)
    rw [hl, HM.out, Nat.add_sub_cancel] at h9
    exact ⟨_, _, rfl, HB1.out.trans (HBv11w.out.mono hz1'), h9, .inr (fun g hg => by injection hg with hg; rw [← hg]; exact Nat.le_trans hz1' HG5.out)⟩
set_option maxRecDepth 100000 in
set_option maxHeartbeats 2000000 in
attribute [local go_sem ↓] wp_load_k wp_build_key in
theorem rpush_full_big (w : World) (v : Value) (L : List Ky) (gb : Option Nat) (hk : KL w v L gb) (hL : L.length ≤ 1048576) (z : Int) (hz : 1024 < z) (hz2 : z ≤ 9223372036854775807) (hfu : 1024 ≤ L.length) (k : Ky) (hno : hasK L k = false) :
    Calls Try.prog 22 #[v, .int .i64 z, keyV k] w (RefKPost w ((L ++ [k]).drop 1) true gb) := by
  obtain ⟨A, c, hv, hka⟩ := hk.keys
  have hKL := hk
  rw [hv] at hk ⊢
  obtain ⟨i0, hi0, hz0, hz1, hz2⟩ := info_parts key_info
  obtain ⟨cx, hcx⟩ : ∃ cx, (bytesOf 32 k).toArray = cx := ⟨_, rfl⟩
  show Calls _ _ #[_, .int .i64 z, .agg (bytesOf 32 k).toArray] _ _
  rw [hcx]
  have HCX := Lib.hid hcx
  have HKA := Lib.hid hka
  have HKL := Lib.hid hKL
  have HV := Lib.hid hv
  have HI0 := Lib.hid hi0
  have HZ0 := Lib.hid hz0
  obtain ⟨M, hM⟩ : ∃ M, (L ++ [k]).drop 1 = M := ⟨_, rfl⟩
  rw [hM]
  have HM := Lib.hid hM
  clear hM
  obtain ⟨n, hn⟩ : ∃ n, L.length = n := ⟨_, rfl⟩
  have HN := Lib.hid hn
  rw [hn] at hL hfu ⊢
  clear hcx hka hk hKL hi0 hz0 hn hv
  go_enter Try.func22, Try.ntmps22
  go_upto_region 1 with (fail)
  generalize hwa : World.alloc w _ = wa
  have hb0 : Below w.heap.size w wa := by rw [← hwa]; exact (Below.refl _ _).alloc (Nat.le_refl _) _
  have hk3 : Blk wa w.heap.size 30 (bytesOf 32 k).toArray := by rw [← hwa, HCX.out]; exact Blk.new w _ _
  have q1 := keyOk_mk (blk_key hk3)
  have q2 := loadK_eq (blk_key hk3)
  have HIX := Lib.hid (rindex_any wa A L.length c L k (HKA.out.below hb0))
  have HB0 := Lib.hid hb0
  have HK3 := Lib.hid hk3
  have hz0' := hb0.size
  clear hwa hb0 hk3
  go_wp2_with fail
  rw [← HN.out]
  refine HIX.out.mono ?_
  rintro e w1 ⟨rfl, hb1⟩
  rw [HN.out]
  have HB1 := Lib.hid (HB0.out.trans (hb1.mono hz0'))
  have hk4 := HK3.out.below hb1 HK3.out.lt
  have HK4 := Lib.hid hk4
  have hz1' := HB1.out.size
  clear q1 q2 hb1 HIX HK3
  rw [idxI_no hno] at *
  have HRL : Hid (∀ W, Below w1.heap.size w1 W → Reads W w.heap.size 32 A n (keysOf L)) := fun W hW => by
    have h1 := HKL.out.below HB1.out
    obtain ⟨A', c', e1, e2⟩ := h1.keys
    rw [HV.out] at e1
    injection e1 with e1 _ _
    subst e1
    rcases Nat.eq_zero_or_pos n with h0 | h0
    · have hl := HN.out
      obtain rfl : L = [] := List.length_eq_zero_iff.1 (by omega)
      subst h0
      exact Reads.none_
    · have hl := HN.out
      obtain ⟨g, o, c', hf1, hgb, hcc, hc63, hrd⟩ := HKL.out.form (by omega)
      rw [HV.out] at hf1
      injection hf1 with h1 _ h2
      subst h1
      rw [← hl]
      exact (hrd.below HB1.out).below (hW.mono hz1')
  go_upto_region 5 with (fail)
  have hu := Try.underlying30
  have hik := key_size k
  have rra := blk_range HK4.out
  have hlk := HK4.out.lt
  have q3 := isKy k
  refine wp_region_noPanic ?_
  refine wp_region_held_drew (S := fun w' => w'.rangeAt w.heap.size 0 (bytesOf 32 k)) (by kernel_rfl) rra (fun hHeld => ?_)
  refine wpAnyH_take (i := 1) (oi := ⟨some 32, _, _, _, _, _⟩) (v := ?_) rfl (by kernel_rfl) (by kernel_rfl) (by kernel_rfl) (fun _ _ _ h => h) (Or.inl ⟨by kernel_rfl, ?_⟩) hHeld ?_
  rotate_left
  · intro w hSw
    (try dsimp only at hSw)
    go_simp
    all_goals (with_reducible rfl)
  conv => arg 8; simp only [Act.put, List.setIfInBounds_toArray, List.set_cons_zero, List.set_cons_succ]
  refine wpAnyH_take (i := 3) (oi := ⟨some 34, _, _, _, _, _⟩) (v := _) rfl (by kernel_rfl) (by kernel_rfl) (by kernel_rfl) (fun _ _ _ h => h) (yieldsIf_load_mid (S := fun w' => w'.rangeAt w.heap.size 0 (bytesOf 32 k)) (by kernel_rfl) _ _ rfl _ _ rfl _ _ (fun w hSw => hSw) hu rfl hik) hHeld ?_
  conv => arg 8; simp only [Act.put, List.setIfInBounds_toArray, List.set_cons_zero, List.set_cons_succ]
  generalize hW : World.drew _ = wd at hHeld ⊢
  have hbd : Below w1.heap.size w1 wd := by rw [← hW]; exact belowDrewR (Below.refl _ _)
  have HBD := Lib.hid hbd
  clear hbd hW
  refine wpAnyH_ready (rs := [0, 4]) (by kernel_rfl) (by simp) ?_
  refine (AllReadyH.cons (o := ⟨some 31, _, _, _, _, _⟩) rfl (fun K hK => ?_) (AllReadyH.cons (o := ⟨some 35, _, _, _, _, _⟩) rfl (fun K hK => ?_) AllReadyH.nil))
  · go_simp
    refine hK.out _ _ (by exact range_below (a := w1) (by first | exact HBD.out | exact below_al HBD.out _ | exact hb1x) hlk rra) (fun hHeld => ?_)
    clear hK K
    conv => arg 8; simp only [Act.put, List.setIfInBounds_toArray, List.set_cons_zero, List.set_cons_succ]
    generalize hW : World.alloc _ _ = v1w at hHeld ⊢
    have hbx : Below wd.heap.size wd v1w := by rw [← hW]; exact (Below.refl _ _).alloc (Nat.le_refl _) _
    have hox : v1w.ownsRow w1.heap.size 30 32 (.slice (some ⟨wd.heap.size, 0, none⟩) 0 0) 0 [] := by rw [← hW]; exact owns_base2 (empty_own _) HBD.out.size
    have HOv1w := Lib.hid hox
    clear hox
    have HBv1w := Lib.hid (HBD.out.trans (hbx.mono HBD.out.size))
    clear hbx hW
    refine wpAnyH_ready (rs := [2, 4]) (by kernel_rfl) (by simp) ?_
    refine (AllReadyH.cons (o := ⟨some 33, _, _, _, _, _⟩) rfl (fun K hK => ?_) (AllReadyH.cons (o := ⟨some 35, _, _, _, _, _⟩) rfl (fun K hK => ?_) AllReadyH.nil))
    · refine step_append_any _ (by rfl) (.tmp 31) (.tmp 32) _ (by rfl) w1.heap.size 30 i0 _ 32 32 Try.underlying28 HI0.out HZ0.out hz1 hz2 rfl (by omega) (.slice (some ⟨wd.heap.size, 0, none⟩) 0 0) (0) ([]) (by rfl) HOv1w.out _ A (n) c (keysOf L) (by rfl) (HRL.out _ HBv1w.out) (keysOf_oneCell _) (by unfold maxLen; omega) (by omega) HBv1w.out.size ?_
      intro v3 v2w ho hg hat
      rw [Nat.zero_add, List.nil_append] at ho
      obtain ⟨Av2w, cv2w, rfl⟩ := own_form ho
      have hb1x : Below w1.heap.size w1 v2w := HBv1w.out.grown hg HBv1w.out.size (fun g e => (HOv1w.out.lt g e).1)
      have HOv2w := Lib.hid ho
      have HBv2w := Lib.hid hb1x
      clear ho hg hat hb1x
      refine hK.out _ _ (by exact range_below (a := w1) (by first | exact HBv2w.out | exact below_al HBv2w.out _ | exact hb1x) hlk rra) (fun hHeld => ?_)
      clear hK K
      conv => arg 8; simp only [Act.put, List.setIfInBounds_toArray, List.set_cons_zero, List.set_cons_succ]
      refine wpAnyH_ready (rs := [4]) (by kernel_rfl) (by simp) ?_
      refine (AllReadyH.cons (o := ⟨some 35, _, _, _, _, _⟩) rfl (fun K hK => ?_) AllReadyH.nil)
      go_simp
      refine hK.out _ _ (by exact range_below (a := w1) (by first | exact HBv2w.out | exact below_al HBv2w.out _ | exact hb1x) hlk rra) (fun hHeld => ?_)
      clear hK K
      conv => arg 8; simp only [Act.put, List.setIfInBounds_toArray, List.set_cons_zero, List.set_cons_succ]
      generalize hW : World.alloc _ _ = v3w at hHeld ⊢
      have hbx : Below v2w.heap.size v2w v3w := by rw [← hW]; exact (Below.refl _ _).alloc (Nat.le_refl _) _
      have hxx : Blk v3w v2w.heap.size 30 (bytesOf 32 k).toArray := by rw [← hW]; exact heap_alloc_new _ _
      have HXv3w := Lib.hid hxx
      clear hxx
      have HNv3w : Hid (∀ g, Value.ownBlock (.slice Av2w (n) cv2w) = some g → g ≠ v2w.heap.size) := fun g e => Nat.ne_of_lt (HOv2w.out.lt g e).2
      have HOv3w := Lib.hid (owns_below HOv2w.out hbx)
      have HBv3w := Lib.hid (HBv2w.out.trans (hbx.mono HBv2w.out.size))
      clear hbx hW
      refine wpAnyH_ready (rs := [5]) (by kernel_rfl) (by simp) ?_
      refine (AllReadyH.cons (o := ⟨some 36, _, _, _, _, _⟩) rfl (fun K hK => ?_) AllReadyH.nil)
      refine step_append_any _ (by rfl) (.tmp 33) (.tmp 35) _ (by rfl) w1.heap.size 30 i0 _ 32 32 Try.underlying28 HI0.out HZ0.out hz1 hz2 rfl (by omega) (.slice Av2w (n) cv2w) (n) (keysOf L) (by rfl) HOv3w.out _ (some ⟨v2w.heap.size, 0, none⟩) (1) 1 (keysOf [k]) (by rfl) (reads_key HXv3w.out) (keysOf_oneCell _) (by unfold maxLen; omega) (by omega) HBv3w.out.size ?_
      intro v3 v4w ho hg hat
      skip
      obtain ⟨Av4w, cv4w, rfl⟩ := own_form ho
      have hb1x : Below w1.heap.size w1 v4w := HBv3w.out.grown hg HBv3w.out.size (fun g e => (HOv3w.out.lt g e).1)
      have HOv4w := Lib.hid ho
      have HBv4w := Lib.hid hb1x
      clear ho hg hat hb1x
      refine hK.out _ _ (by exact range_below (a := w1) (by first | exact HBv4w.out | exact below_al HBv4w.out _ | exact hb1x) hlk rra) (fun hHeld => ?_)
      clear hK K
      conv => arg 8; simp only [Act.put, List.setIfInBounds_toArray, List.set_cons_zero, List.set_cons_succ]
      refine wpAnyH_take (i := 6) (oi := ⟨some 9, _, _, _, _, _⟩) (v := ?_) rfl (by kernel_rfl) (by kernel_rfl) (by kernel_rfl) (fun _ _ _ h => h) (Or.inl ⟨by kernel_rfl, ?_⟩) hHeld ?_
      rotate_left
      · intro w hSw
        (try dsimp only at hSw)
        go_simp
        all_goals (with_reducible rfl)
      conv => arg 8; simp only [Act.put, List.setIfInBounds_toArray, List.set_cons_zero, List.set_cons_succ]
      refine wpAnyH_done (by kernel_rfl) ?_ _
      refine NoPanic.normal ?_
      have hlk1 : (L ++ [k]).length = n + 1 := by rw [List.length_append, HN.out]; rfl
      have ho : v4w.ownsRow w1.heap.size 30 32 (.slice Av4w (L ++ [k]).length cv4w) (L ++ [k]).length (keysOf (L ++ [k])) := by
        rw [hlk1, keysOf_append]
        exact HOv4w.out
      have HOO := Lib.hid ho
      have HLK := Lib.hid hlk1
      obtain ⟨g5, c5, hv5, hg5, _⟩ := ho.form (by omega)
      injection hv5 with e1 _ e2
      subst e1 e2
      have hcc5 := (KeysAt.of_own ho).2.1
      have hcm5 := (KeysAt.of_own ho).2.2.1
      rw [hlk1] at hcc5
      have HG5 := Lib.hid hg5
      clear ho hlk1 hg5
      have hc1 : ¬ cv4w = 1 := by omega
      have HC1 := Lib.hid hc1
      have t7 : (n : Int) + 1 ≤ cv4w := by omega
      have t8 : (1 : Int) ≤ (n : Int) + 1 := by omega
      go_wp2_with fail
      go_ret2
      have hl := HLK.out
      have h9 := KL.tail HOO.out HC1.out (by omega)
      rw [hl, HM.out, Nat.add_sub_cancel] at h9
      exact ⟨_, _, rfl, HB1.out.trans (HBv4w.out.mono hz1'), h9, .inr (fun g hg => by injection hg with hg; rw [← hg]; exact Nat.le_trans hz1' HG5.out)⟩
    · go_simp
      refine hK.out _ _ (by exact range_below (a := w1) (by first | exact HBv1w.out | exact below_al HBv1w.out _ | exact hb1x) hlk rra) (fun hHeld => ?_)
      clear hK K
      conv => arg 8; simp only [Act.put, List.setIfInBounds_toArray, List.set_cons_zero, List.set_cons_succ]
      generalize hW : World.alloc _ _ = v5w at hHeld ⊢
      have hbx : Below v1w.heap.size v1w v5w := by rw [← hW]; exact (Below.refl _ _).alloc (Nat.le_refl _) _
      have hxx : Blk v5w v1w.heap.size 30 (bytesOf 32 k).toArray := by rw [← hW]; exact heap_alloc_new _ _
      have HXv5w := Lib.hid hxx
      clear hxx
      have HNv5w : Hid (∀ g, Value.ownBlock (.slice (some ⟨wd.heap.size, 0, none⟩) 0 0) = some g → g ≠ v1w.heap.size) := fun g e => Nat.ne_of_lt (HOv1w.out.lt g e).2
      have HOv5w := Lib.hid (owns_below HOv1w.out hbx)
      have HBv5w := Lib.hid (HBv1w.out.trans (hbx.mono HBv1w.out.size))
      clear hbx hW
      refine wpAnyH_ready (rs := [2]) (by kernel_rfl) (by simp) ?_
      refine (AllReadyH.cons (o := ⟨some 33, _, _, _, _, _⟩) rfl (fun K hK => ?_) AllReadyH.nil)
      refine step_append_any _ (by rfl) (.tmp 31) (.tmp 32) _ (by rfl) w1.heap.size 30 i0 _ 32 32 Try.underlying28 HI0.out HZ0.out hz1 hz2 rfl (by omega) (.slice (some ⟨wd.heap.size, 0, none⟩) 0 0) (0) ([]) (by rfl) HOv5w.out _ A (n) c (keysOf L) (by rfl) (HRL.out _ HBv5w.out) (keysOf_oneCell _) (by unfold maxLen; omega) (by omega) HBv5w.out.size ?_
      intro v3 v6w ho hg hat
      rw [Nat.zero_add, List.nil_append] at ho
      obtain ⟨Av6w, cv6w, rfl⟩ := own_form ho
      have hb1x : Below w1.heap.size w1 v6w := HBv5w.out.grown hg HBv5w.out.size (fun g e => (HOv5w.out.lt g e).1)
      have HOv6w := Lib.hid ho
      have HXv6w := Lib.hid (HXv5w.out.grown hg (fun e => HNv5w.out _ e.symm rfl))
      have HNv6w : Hid (∀ g, Value.ownBlock (.slice Av6w (n) cv6w) = some g → g ≠ v1w.heap.size) := fun g e => by
        rcases hat with h | h
        · exact HNv5w.out g (h.symm.trans e)
        · have h1 := HXv5w.out.lt; rw [e] at h; injection h with h; omega
      have HBv6w := Lib.hid hb1x
      clear ho hg hat hb1x
      refine hK.out _ _ (by exact range_below (a := w1) (by first | exact HBv6w.out | exact below_al HBv6w.out _ | exact hb1x) hlk rra) (fun hHeld => ?_)
      clear hK K
      conv => arg 8; simp only [Act.put, List.setIfInBounds_toArray, List.set_cons_zero, List.set_cons_succ]
      refine wpAnyH_ready (rs := [5]) (by kernel_rfl) (by simp) ?_
      refine (AllReadyH.cons (o := ⟨some 36, _, _, _, _, _⟩) rfl (fun K hK => ?_) AllReadyH.nil)
      refine step_append_any _ (by rfl) (.tmp 33) (.tmp 35) _ (by rfl) w1.heap.size 30 i0 _ 32 32 Try.underlying28 HI0.out HZ0.out hz1 hz2 rfl (by omega) (.slice Av6w (n) cv6w) (n) (keysOf L) (by rfl) HOv6w.out _ (some ⟨v1w.heap.size, 0, none⟩) (1) 1 (keysOf [k]) (by rfl) (reads_key HXv6w.out) (keysOf_oneCell _) (by unfold maxLen; omega) (by omega) HBv6w.out.size ?_
      intro v3 v7w ho hg hat
      skip
      obtain ⟨Av7w, cv7w, rfl⟩ := own_form ho
      have hb1x : Below w1.heap.size w1 v7w := HBv6w.out.grown hg HBv6w.out.size (fun g e => (HOv6w.out.lt g e).1)
      have HOv7w := Lib.hid ho
      have HBv7w := Lib.hid hb1x
      clear ho hg hat hb1x
      refine hK.out _ _ (by exact range_below (a := w1) (by first | exact HBv7w.out | exact below_al HBv7w.out _ | exact hb1x) hlk rra) (fun hHeld => ?_)
      clear hK K
      conv => arg 8; simp only [Act.put, List.setIfInBounds_toArray, List.set_cons_zero, List.set_cons_succ]
      refine wpAnyH_take (i := 6) (oi := ⟨some 9, _, _, _, _, _⟩) (v := ?_) rfl (by kernel_rfl) (by kernel_rfl) (by kernel_rfl) (fun _ _ _ h => h) (Or.inl ⟨by kernel_rfl, ?_⟩) hHeld ?_
      rotate_left
      · intro w hSw
        (try dsimp only at hSw)
        go_simp
        all_goals (with_reducible rfl)
      conv => arg 8; simp only [Act.put, List.setIfInBounds_toArray, List.set_cons_zero, List.set_cons_succ]
      refine wpAnyH_done (by kernel_rfl) ?_ _
      refine NoPanic.normal ?_
      have hlk1 : (L ++ [k]).length = n + 1 := by rw [List.length_append, HN.out]; rfl
      have ho : v7w.ownsRow w1.heap.size 30 32 (.slice Av7w (L ++ [k]).length cv7w) (L ++ [k]).length (keysOf (L ++ [k])) := by
        rw [hlk1, keysOf_append]
        exact HOv7w.out
      have HOO := Lib.hid ho
      have HLK := Lib.hid hlk1
      obtain ⟨g5, c5, hv5, hg5, _⟩ := ho.form (by omega)
      injection hv5 with e1 _ e2
      subst e1 e2
      have hcc5 := (KeysAt.of_own ho).2.1
      have hcm5 := (KeysAt.of_own ho).2.2.1
      rw [hlk1] at hcc5
      have HG5 := Lib.hid hg5
      clear ho hlk1 hg5
      have hc1 : ¬ cv7w = 1 := by omega
      have HC1 := Lib.hid hc1
      have t7 : (n : Int) + 1 ≤ cv7w := by omega
      have t8 : (1 : Int) ≤ (n : Int) + 1 := by omega
      go_wp2_with fail
      go_ret2
      have hl := HLK.out
      have h9 := KL.tail HOO.out HC1.out (by omega)
      rw [hl, HM.out, Nat.add_sub_cancel] at h9
      exact ⟨_, _, rfl, HB1.out.trans (HBv7w.out.mono hz1'), h9, .inr (fun g hg => by injection hg with hg; rw [← hg]; exact Nat.le_trans hz1' HG5.out)⟩
  · go_simp
    refine hK.out _ _ (by exact range_below (a := w1) (by first | exact HBD.out | exact below_al HBD.out _ | exact hb1x) hlk rra) (fun hHeld => ?_)
    clear hK K
    conv => arg 8; simp only [Act.put, List.setIfInBounds_toArray, List.set_cons_zero, List.set_cons_succ]
    generalize hW : World.alloc _ _ = v8w at hHeld ⊢
    have hbx : Below wd.heap.size wd v8w := by rw [← hW]; exact (Below.refl _ _).alloc (Nat.le_refl _) _
    have hxx : Blk v8w wd.heap.size 30 (bytesOf 32 k).toArray := by rw [← hW]; exact heap_alloc_new _ _
    have HXv8w := Lib.hid hxx
    clear hxx
    have HBv8w := Lib.hid (HBD.out.trans (hbx.mono HBD.out.size))
    clear hbx hW
    refine wpAnyH_ready (rs := [0]) (by kernel_rfl) (by simp) ?_
    refine (AllReadyH.cons (o := ⟨some 31, _, _, _, _, _⟩) rfl (fun K hK => ?_) AllReadyH.nil)
    go_simp
    refine hK.out _ _ (by exact range_below (a := w1) (by first | exact HBv8w.out | exact below_al HBv8w.out _ | exact hb1x) hlk rra) (fun hHeld => ?_)
    clear hK K
    conv => arg 8; simp only [Act.put, List.setIfInBounds_toArray, List.set_cons_zero, List.set_cons_succ]
    generalize hW : World.alloc _ _ = v9w at hHeld ⊢
    have hbx : Below v8w.heap.size v8w v9w := by rw [← hW]; exact (Below.refl _ _).alloc (Nat.le_refl _) _
    have hox : v9w.ownsRow w1.heap.size 30 32 (.slice (some ⟨v8w.heap.size, 0, none⟩) 0 0) 0 [] := by rw [← hW]; exact owns_base2 (empty_own _) HBv8w.out.size
    have HOv9w := Lib.hid hox
    clear hox
    have HNv9w : Hid (∀ g, Value.ownBlock (.slice (some ⟨v8w.heap.size, 0, none⟩) 0 0) = some g → g ≠ wd.heap.size) := fun g e => by have h1 := HXv8w.out.lt; injection e with e; have e : v8w.heap.size = g := e; omega
    have HXv9w := Lib.hid (HXv8w.out.below hbx HXv8w.out.lt)
    have HBv9w := Lib.hid (HBv8w.out.trans (hbx.mono HBv8w.out.size))
    clear hbx hW
    refine wpAnyH_ready (rs := [2]) (by kernel_rfl) (by simp) ?_
    refine (AllReadyH.cons (o := ⟨some 33, _, _, _, _, _⟩) rfl (fun K hK => ?_) AllReadyH.nil)
    refine step_append_any _ (by rfl) (.tmp 31) (.tmp 32) _ (by rfl) w1.heap.size 30 i0 _ 32 32 Try.underlying28 HI0.out HZ0.out hz1 hz2 rfl (by omega) (.slice (some ⟨v8w.heap.size, 0, none⟩) 0 0) (0) ([]) (by rfl) HOv9w.out _ A (n) c (keysOf L) (by rfl) (HRL.out _ HBv9w.out) (keysOf_oneCell _) (by unfold maxLen; omega) (by omega) HBv9w.out.size ?_
    intro v3 v10w ho hg hat
    rw [Nat.zero_add, List.nil_append] at ho
    obtain ⟨Av10w, cv10w, rfl⟩ := own_form ho
    have hb1x : Below w1.heap.size w1 v10w := HBv9w.out.grown hg HBv9w.out.size (fun g e => (HOv9w.out.lt g e).1)
    have HOv10w := Lib.hid ho
    have HXv10w := Lib.hid (HXv9w.out.grown hg (fun e => HNv9w.out _ e.symm rfl))
    have HNv10w : Hid (∀ g, Value.ownBlock (.slice Av10w (n) cv10w) = some g → g ≠ wd.heap.size) := fun g e => by
      rcases hat with h | h
      · exact HNv9w.out g (h.symm.trans e)
      · have h1 := HXv9w.out.lt; rw [e] at h; injection h with h; omega
    have HBv10w := Lib.hid hb1x
    clear ho hg hat hb1x
    refine hK.out _ _ (by exact range_below (a := w1) (by first | exact HBv10w.out | exact below_al HBv10w.out _ | exact hb1x) hlk rra) (fun hHeld => ?_)
    clear hK K
    conv => arg 8; simp only [Act.put, List.setIfInBounds_toArray, List.set_cons_zero, List.set_cons_succ]
    refine wpAnyH_ready (rs := [5]) (by kernel_rfl) (by simp) ?_
    refine (AllReadyH.cons (o := ⟨some 36, _, _, _, _, _⟩) rfl (fun K hK => ?_) AllReadyH.nil)
    refine step_append_any _ (by rfl) (.tmp 33) (.tmp 35) _ (by rfl) w1.heap.size 30 i0 _ 32 32 Try.underlying28 HI0.out HZ0.out hz1 hz2 rfl (by omega) (.slice Av10w (n) cv10w) (n) (keysOf L) (by rfl) HOv10w.out _ (some ⟨wd.heap.size, 0, none⟩) (1) 1 (keysOf [k]) (by rfl) (reads_key HXv10w.out) (keysOf_oneCell _) (by unfold maxLen; omega) (by omega) HBv10w.out.size ?_
    intro v3 v11w ho hg hat
    skip
    obtain ⟨Av11w, cv11w, rfl⟩ := own_form ho
    have hb1x : Below w1.heap.size w1 v11w := HBv10w.out.grown hg HBv10w.out.size (fun g e => (HOv10w.out.lt g e).1)
    have HOv11w := Lib.hid ho
    have HBv11w := Lib.hid hb1x
    clear ho hg hat hb1x
    refine hK.out _ _ (by exact range_below (a := w1) (by first | exact HBv11w.out | exact below_al HBv11w.out _ | exact hb1x) hlk rra) (fun hHeld => ?_)
    clear hK K
    conv => arg 8; simp only [Act.put, List.setIfInBounds_toArray, List.set_cons_zero, List.set_cons_succ]
    refine wpAnyH_take (i := 6) (oi := ⟨some 9, _, _, _, _, _⟩) (v := ?_) rfl (by kernel_rfl) (by kernel_rfl) (by kernel_rfl) (fun _ _ _ h => h) (Or.inl ⟨by kernel_rfl, ?_⟩) hHeld ?_
    rotate_left
    · intro w hSw
      (try dsimp only at hSw)
      go_simp
      all_goals (with_reducible rfl)
    conv => arg 8; simp only [Act.put, List.setIfInBounds_toArray, List.set_cons_zero, List.set_cons_succ]
    refine wpAnyH_done (by kernel_rfl) ?_ _
    refine NoPanic.normal ?_
    have hlk1 : (L ++ [k]).length = n + 1 := by rw [List.length_append, HN.out]; rfl
    have ho : v11w.ownsRow w1.heap.size 30 32 (.slice Av11w (L ++ [k]).length cv11w) (L ++ [k]).length (keysOf (L ++ [k])) := by
      rw [hlk1, keysOf_append]
      exact HOv11w.out
    have HOO := Lib.hid ho
    have HLK := Lib.hid hlk1
    obtain ⟨g5, c5, hv5, hg5, _⟩ := ho.form (by omega)
    injection hv5 with e1 _ e2
    subst e1 e2
    have hcc5 := (KeysAt.of_own ho).2.1
    have hcm5 := (KeysAt.of_own ho).2.2.1
    rw [hlk1] at hcc5
    have HG5 := Lib.hid hg5
    clear ho hlk1 hg5
    have hc1 : ¬ cv11w = 1 := by omega
    have HC1 := Lib.hid hc1
    have t7 : (n : Int) + 1 ≤ cv11w := by omega
    have t8 : (1 : Int) ≤ (n : Int) + 1 := by omega
    go_wp2_with fail
    go_ret2
    have hl := HLK.out
    have h9 := KL.tail HOO.out HC1.out (by omega)
    rw [hl, HM.out, Nat.add_sub_cancel] at h9
    exact ⟨_, _, rfl, HB1.out.trans (HBv11w.out.mono hz1'), h9, .inr (fun g hg => by injection hg with hg; rw [← hg]; exact Nat.le_trans hz1' HG5.out)⟩
set_option maxRecDepth 100000 in
set_option maxHeartbeats 2000000 in
attribute [local go_sem ↓] wp_load_k wp_build_key in
theorem rpush_room_mid (w : World) (v : Value) (L : List Ky) (gb : Option Nat) (hk : KL w v L gb) (hL : L.length ≤ 1048576) (s : Nat) (hs0 : 0 < s) (hs : s ≤ 1024) (hro : L.length < s) (k : Ky) (hno : hasK L k = false) :
    Calls Try.prog 22 #[v, .int .i64 (s : Int), keyV k] w (RefKPost w (L ++ [k]) true gb) := by
  obtain ⟨A, c, hv, hka⟩ := hk.keys
  have hKL := hk
  rw [hv] at hk ⊢
  obtain ⟨i0, hi0, hz0, hz1, hz2⟩ := info_parts key_info
  obtain ⟨cx, hcx⟩ : ∃ cx, (bytesOf 32 k).toArray = cx := ⟨_, rfl⟩
  show Calls _ _ #[_, .int .i64 (s : Int), .agg (bytesOf 32 k).toArray] _ _
  rw [hcx]
  have HCX := Lib.hid hcx
  have HKA := Lib.hid hka
  have HKL := Lib.hid hKL
  have HV := Lib.hid hv
  have HI0 := Lib.hid hi0
  have HZ0 := Lib.hid hz0
  obtain ⟨n, hn⟩ : ∃ n, L.length = n := ⟨_, rfl⟩
  have HN := Lib.hid hn
  rw [hn] at hL hro ⊢
  clear hcx hka hk hKL hi0 hz0 hn hv
  go_enter Try.func22, Try.ntmps22
  go_upto_region 1 with (fail)
  generalize hwa : World.alloc w _ = wa
  have hb0 : Below w.heap.size w wa := by rw [← hwa]; exact (Below.refl _ _).alloc (Nat.le_refl _) _
  have hk3 : Blk wa w.heap.size 30 (bytesOf 32 k).toArray := by rw [← hwa, HCX.out]; exact Blk.new w _ _
  have q1 := keyOk_mk (blk_key hk3)
  have q2 := loadK_eq (blk_key hk3)
  have HIX := Lib.hid (rindex_any wa A L.length c L k (HKA.out.below hb0))
  have HB0 := Lib.hid hb0
  have HK3 := Lib.hid hk3
  have hz0' := hb0.size
  clear hwa hb0 hk3
  go_wp2_with fail
  rw [← HN.out]
  refine HIX.out.mono ?_
  rintro e w1 ⟨rfl, hb1⟩
  rw [HN.out]
  have HB1 := Lib.hid (HB0.out.trans (hb1.mono hz0'))
  have hk4 := HK3.out.below hb1 HK3.out.lt
  have HK4 := Lib.hid hk4
  have hz1' := HB1.out.size
  clear q1 q2 hb1 HIX HK3
  rw [idxI_no hno] at *
  have HRL : Hid (∀ W, Below w1.heap.size w1 W → Reads W w.heap.size 32 A n (keysOf L)) := fun W hW => by
    have h1 := HKL.out.below HB1.out
    obtain ⟨A', c', e1, e2⟩ := h1.keys
    rw [HV.out] at e1
    injection e1 with e1 _ _
    subst e1
    rcases Nat.eq_zero_or_pos n with h0 | h0
    · have hl := HN.out
      obtain rfl : L = [] := List.length_eq_zero_iff.1 (by omega)
      subst h0
      exact Reads.none_
    · have hl := HN.out
      obtain ⟨g, o, c', hf1, hgb, hcc, hc63, hrd⟩ := HKL.out.form (by omega)
      rw [HV.out] at hf1
      injection hf1 with h1 _ h2
      subst h1
      rw [← hl]
      exact (hrd.below HB1.out).below (hW.mono hz1')
  go_upto_region 5 with (fail)
  have hu := Try.underlying30
  have hik := key_size k
  have rra := blk_range HK4.out
  have hlk := HK4.out.lt
  have q3 := isKy k
  refine wp_region_noPanic ?_
  refine wp_region_held_drew (S := fun w' => w'.rangeAt w.heap.size 0 (bytesOf 32 k)) (by kernel_rfl) rra (fun hHeld => ?_)
  refine wpAnyH_take (i := 1) (oi := ⟨some 32, _, _, _, _, _⟩) (v := ?_) rfl (by kernel_rfl) (by kernel_rfl) (by kernel_rfl) (fun _ _ _ h => h) (Or.inl ⟨by kernel_rfl, ?_⟩) hHeld ?_
  rotate_left
  · intro w hSw
    (try dsimp only at hSw)
    go_simp
    all_goals (with_reducible rfl)
  conv => arg 8; simp only [Act.put, List.setIfInBounds_toArray, List.set_cons_zero, List.set_cons_succ]
  refine wpAnyH_take (i := 3) (oi := ⟨some 34, _, _, _, _, _⟩) (v := _) rfl (by kernel_rfl) (by kernel_rfl) (by kernel_rfl) (fun _ _ _ h => h) (yieldsIf_load_mid (S := fun w' => w'.rangeAt w.heap.size 0 (bytesOf 32 k)) (by kernel_rfl) _ _ rfl _ _ rfl _ _ (fun w hSw => hSw) hu rfl hik) hHeld ?_
  conv => arg 8; simp only [Act.put, List.setIfInBounds_toArray, List.set_cons_zero, List.set_cons_succ]
  generalize hW : World.drew _ = wd at hHeld ⊢
  have hbd : Below w1.heap.size w1 wd := by rw [← hW]; exact belowDrewR (Below.refl _ _)
  have HBD := Lib.hid hbd
  clear hbd hW
  refine wpAnyH_ready (rs := [0, 4]) (by kernel_rfl) (by simp) ?_
  refine (AllReadyH.cons (o := ⟨some 31, _, _, _, _, _⟩) rfl (fun K hK => ?_) (AllReadyH.cons (o := ⟨some 35, _, _, _, _, _⟩) rfl (fun K hK => ?_) AllReadyH.nil))
  · go_simp
    refine hK.out _ _ (by exact range_below (a := w1) (by first | exact HBD.out | exact below_al HBD.out _ | exact hb1x) hlk rra) (fun hHeld => ?_)
    clear hK K
    conv => arg 8; simp only [Act.put, List.setIfInBounds_toArray, List.set_cons_zero, List.set_cons_succ]
    generalize hW : World.alloc _ _ = v1w at hHeld ⊢
    have hbx : Below wd.heap.size wd v1w := by rw [← hW]; exact (Below.refl _ _).alloc (Nat.le_refl _) _
    have hox : v1w.ownsRow w1.heap.size 30 32 (.slice (some ⟨wd.heap.size, 0, none⟩) 0 0) 0 [] := by rw [← hW]; exact owns_base2 (empty_own _) HBD.out.size
    have HOv1w := Lib.hid hox
    clear hox
    have HBv1w := Lib.hid (HBD.out.trans (hbx.mono HBD.out.size))
    clear hbx hW
    refine wpAnyH_ready (rs := [2, 4]) (by kernel_rfl) (by simp) ?_
    refine (AllReadyH.cons (o := ⟨some 33, _, _, _, _, _⟩) rfl (fun K hK => ?_) (AllReadyH.cons (o := ⟨some 35, _, _, _, _, _⟩) rfl (fun K hK => ?_) AllReadyH.nil))
    · refine step_append_any _ (by rfl) (.tmp 31) (.tmp 32) _ (by rfl) w1.heap.size 30 i0 _ 32 32 Try.underlying28 HI0.out HZ0.out hz1 hz2 rfl (by omega) (.slice (some ⟨wd.heap.size, 0, none⟩) 0 0) (0) ([]) (by rfl) HOv1w.out _ A (n) c (keysOf L) (by rfl) (HRL.out _ HBv1w.out) (keysOf_oneCell _) (by unfold maxLen; omega) (by omega) HBv1w.out.size ?_
      intro v3 v2w ho hg hat
      rw [Nat.zero_add, List.nil_append] at ho
      obtain ⟨Av2w, cv2w, rfl⟩ := own_form ho
      have hb1x : Below w1.heap.size w1 v2w := HBv1w.out.grown hg HBv1w.out.size (fun g e => (HOv1w.out.lt g e).1)
      have HOv2w := Lib.hid ho
      have HBv2w := Lib.hid hb1x
      clear ho hg hat hb1x
      refine hK.out _ _ (by exact range_below (a := w1) (by first | exact HBv2w.out | exact below_al HBv2w.out _ | exact hb1x) hlk rra) (fun hHeld => ?_)
      clear hK K
      conv => arg 8; simp only [Act.put, List.setIfInBounds_toArray, List.set_cons_zero, List.set_cons_succ]
      refine wpAnyH_ready (rs := [4]) (by kernel_rfl) (by simp) ?_
      refine (AllReadyH.cons (o := ⟨some 35, _, _, _, _, _⟩) rfl (fun K hK => ?_) AllReadyH.nil)
      go_simp
      refine hK.out _ _ (by exact range_below (a := w1) (by first | exact HBv2w.out | exact below_al HBv2w.out _ | exact hb1x) hlk rra) (fun hHeld => ?_)
      clear hK K
      conv => arg 8; simp only [Act.put, List.setIfInBounds_toArray, List.set_cons_zero, List.set_cons_succ]
      generalize hW : World.alloc _ _ = v3w at hHeld ⊢
      have hbx : Below v2w.heap.size v2w v3w := by rw [← hW]; exact (Below.refl _ _).alloc (Nat.le_refl _) _
      have hxx : Blk v3w v2w.heap.size 30 (bytesOf 32 k).toArray := by rw [← hW]; exact heap_alloc_new _ _
      have HXv3w := Lib.hid hxx
      clear hxx
      have HNv3w : Hid (∀ g, Value.ownBlock (.slice Av2w (n) cv2w) = some g → g ≠ v2w.heap.size) := fun g e => Nat.ne_of_lt (HOv2w.out.lt g e).2
      have HOv3w := Lib.hid (owns_below HOv2w.out hbx)
      have HBv3w := Lib.hid (HBv2w.out.trans (hbx.mono HBv2w.out.size))
      clear hbx hW
      refine wpAnyH_ready (rs := [5]) (by kernel_rfl) (by simp) ?_
      refine (AllReadyH.cons (o := ⟨some 36, _, _, _, _, _⟩) rfl (fun K hK => ?_) AllReadyH.nil)
      refine step_append_any _ (by rfl) (.tmp 33) (.tmp 35) _ (by rfl) w1.heap.size 30 i0 _ 32 32 Try.underlying28 HI0.out HZ0.out hz1 hz2 rfl (by omega) (.slice Av2w (n) cv2w) (n) (keysOf L) (by rfl) HOv3w.out _ (some ⟨v2w.heap.size, 0, none⟩) (1) 1 (keysOf [k]) (by rfl) (reads_key HXv3w.out) (keysOf_oneCell _) (by unfold maxLen; omega) (by omega) HBv3w.out.size ?_
      intro v3 v4w ho hg hat
      skip
      obtain ⟨Av4w, cv4w, rfl⟩ := own_form ho
      have hb1x : Below w1.heap.size w1 v4w := HBv3w.out.grown hg HBv3w.out.size (fun g e => (HOv3w.out.lt g e).1)
      have HOv4w := Lib.hid ho
      have HBv4w := Lib.hid hb1x
      clear ho hg hat hb1x
      refine hK.out _ _ (by exact range_below (a := w1) (by first | exact HBv4w.out | exact below_al HBv4w.out _ | exact hb1x) hlk rra) (fun hHeld => ?_)
      clear hK K
      conv => arg 8; simp only [Act.put, List.setIfInBounds_toArray, List.set_cons_zero, List.set_cons_succ]
      refine wpAnyH_take (i := 6) (oi := ⟨some 9, _, _, _, _, _⟩) (v := ?_) rfl (by kernel_rfl) (by kernel_rfl) (by kernel_rfl) (fun _ _ _ h => h) (Or.inl ⟨by kernel_rfl, ?_⟩) hHeld ?_
      rotate_left
      · intro w hSw
        (try dsimp only at hSw)
        go_simp
        all_goals (with_reducible rfl)
      conv => arg 8; simp only [Act.put, List.setIfInBounds_toArray, List.set_cons_zero, List.set_cons_succ]
      refine wpAnyH_done (by kernel_rfl) ?_ _
      refine NoPanic.normal ?_
      have hlk1 : (L ++ [k]).length = n + 1 := by rw [List.length_append, HN.out]; rfl
      have ho : v4w.ownsRow w1.heap.size 30 32 (.slice Av4w (L ++ [k]).length cv4w) (L ++ [k]).length (keysOf (L ++ [k])) := by
        rw [hlk1, keysOf_append]
        exact HOv4w.out
      have HOO := Lib.hid ho
      have HLK := Lib.hid hlk1
      clear ho hlk1
      go_wp2_with fail
      go_ret2
      have ho := HOO.out
      have hl := HLK.out
      have h9 := KL.of_own ho
      rw [hl] at h9
      exact ⟨_, _, rfl, HB1.out.trans (HBv4w.out.mono hz1'), h9, .inr (fun g hg => Nat.le_trans hz1' (ho.lt g (by rw [hl]; exact hg)).1)⟩
    · go_simp
      refine hK.out _ _ (by exact range_below (a := w1) (by first | exact HBv1w.out | exact below_al HBv1w.out _ | exact hb1x) hlk rra) (fun hHeld => ?_)
      clear hK K
      conv => arg 8; simp only [Act.put, List.setIfInBounds_toArray, List.set_cons_zero, List.set_cons_succ]
      generalize hW : World.alloc _ _ = v5w at hHeld ⊢
      have hbx : Below v1w.heap.size v1w v5w := by rw [← hW]; exact (Below.refl _ _).alloc (Nat.le_refl _) _
      have hxx : Blk v5w v1w.heap.size 30 (bytesOf 32 k).toArray := by rw [← hW]; exact heap_alloc_new _ _
      have HXv5w := Lib.hid hxx
      clear hxx
      have HNv5w : Hid (∀ g, Value.ownBlock (.slice (some ⟨wd.heap.size, 0, none⟩) 0 0) = some g → g ≠ v1w.heap.size) := fun g e => Nat.ne_of_lt (HOv1w.out.lt g e).2
      have HOv5w := Lib.hid (owns_below HOv1w.out hbx)
      have HBv5w := Lib.hid (HBv1w.out.trans (hbx.mono HBv1w.out.size))
      clear hbx hW
      refine wpAnyH_ready (rs := [2]) (by kernel_rfl) (by simp) ?_
      refine (AllReadyH.cons (o := ⟨some 33, _, _, _, _, _⟩) rfl (fun K hK => ?_) AllReadyH.nil)
      refine step_append_any _ (by rfl) (.tmp 31) (.tmp 32) _ (by rfl) w1.heap.size 30 i0 _ 32 32 Try.underlying28 HI0.out HZ0.out hz1 hz2 rfl (by omega) (.slice (some ⟨wd.heap.size, 0, none⟩) 0 0) (0) ([]) (by rfl) HOv5w.out _ A (n) c (keysOf L) (by rfl) (HRL.out _ HBv5w.out) (keysOf_oneCell _) (by unfold maxLen; omega) (by omega) HBv5w.out.size ?_
      intro v3 v6w ho hg hat
      rw [Nat.zero_add, List.nil_append] at ho
      obtain ⟨Av6w, cv6w, rfl⟩ := own_form ho
      have hb1x : Below w1.heap.size w1 v6w := HBv5w.out.grown hg HBv5w.out.size (fun g e => (HOv5w.out.lt g e).1)
      have HOv6w := Lib.hid ho
      have HXv6w := Lib.hid (HXv5w.out.grown hg (fun e => HNv5w.out _ e.symm rfl))
      have HNv6w : Hid (∀ g, Value.ownBlock (.slice Av6w (n) cv6w) = some g → g ≠ v1w.heap.size) := fun g e => by
        rcases hat with h | h
        · exact HNv5w.out g (h.symm.trans e)
        · have h1 := HXv5w.out.lt; rw [e] at h; injection h with h; omega
      have HBv6w := Lib.hid hb1x
      clear ho hg hat hb1x
      refine hK.out _ _ (by exact range_below (a := w1) (by first | exact HBv6w.out | exact below_al HBv6w.out _ | exact hb1x) hlk rra) (fun hHeld => ?_)
      clear hK K
      conv => arg 8; simp only [Act.put, List.setIfInBounds_toArray, List.set_cons_zero, List.set_cons_succ]
      refine wpAnyH_ready (rs := [5]) (by kernel_rfl) (by simp) ?_
      refine (AllReadyH.cons (o := ⟨some 36, _, _, _, _, _⟩) rfl (fun K hK => ?_) AllReadyH.nil)
      refine step_append_any _ (by rfl) (.tmp 33) (.tmp 35) _ (by rfl) w1.heap.size 30 i0 _ 32 32 Try.underlying28 HI0.out HZ0.out hz1 hz2 rfl (by omega) (.slice Av6w (n) cv6w) (n) (keysOf L) (by rfl) HOv6w.out _ (some ⟨v1w.heap.size, 0, none⟩) (1) 1 (keysOf [k]) (by rfl) (reads_key HXv6w.out) (keysOf_oneCell _) (by unfold maxLen; omega) (by omega) HBv6w.out.size ?_
      intro v3 v7w ho hg hat
      skip
      obtain ⟨Av7w, cv7w, rfl⟩ := own_form ho
      have hb1x : Below w1.heap.size w1 v7w := HBv6w.out.grown hg HBv6w.out.size (fun g e => (HOv6w.out.lt g e).1)
      have HOv7w := Lib.hid ho
      have HBv7w := Lib.hid hb1x
      clear ho hg hat hb1x
      refine hK.out _ _ (by exact range_below (a := w1) (by first | exact HBv7w.out | exact below_al HBv7w.out _ | exact hb1x) hlk rra) (fun hHeld => ?_)
      clear hK K
      conv => arg 8; simp only [Act.put, List.setIfInBounds_toArray, List.set_cons_zero, List.set_cons_succ]
      refine wpAnyH_take (i := 6) (oi := ⟨some 9, _, _, _, _, _⟩) (v := ?_) rfl (by kernel_rfl) (by kernel_rfl) (by kernel_rfl) (fun _ _ _ h => h) (Or.inl ⟨by kernel_rfl, ?_⟩) hHeld ?_
      rotate_left
      · intro w hSw
        (try dsimp only at hSw)
        go_simp
        all_goals (with_reducible rfl)
      conv => arg 8; simp only [Act.put, List.setIfInBounds_toArray, List.set_cons_zero, List.set_cons_succ]
      refine wpAnyH_done (by kernel_rfl) ?_ _
      refine NoPanic.normal ?_
      have hlk1 : (L ++ [k]).length = n + 1 := by rw [List.length_append, HN.out]; rfl
      have ho : v7w.ownsRow w1.heap.size 30 32 (.slice Av7w (L ++ [k]).length cv7w) (L ++ [k]).length (keysOf (L ++ [k])) := by
        rw [hlk1, keysOf_append]
        exact HOv7w.out
      have HOO := Lib.hid ho
      have HLK := Lib.hid hlk1
      clear ho hlk1
      go_wp2_with fail
      go_ret2
      have ho := HOO.out
      have hl := HLK.out
      have h9 := KL.of_own ho
      rw [hl] at h9
      exact ⟨_, _, rfl, HB1.out.trans (HBv7w.out.mono hz1'), h9, .inr (fun g hg => Nat.le_trans hz1' (ho.lt g (by rw [hl]; exact hg)).1)⟩
  · go_simp
    refine hK.out _ _ (by exact range_below (a := w1) (by first | exact HBD.out | exact below_al HBD.out _ | exact hb1x) hlk rra) (fun hHeld => ?_)
    clear hK K
    conv => arg 8; simp only [Act.put, List.setIfInBounds_toArray, List.set_cons_zero, List.set_cons_succ]
    generalize hW : World.alloc _ _ = v8w at hHeld ⊢
    have hbx : Below wd.heap.size wd v8w := by rw [← hW]; exact (Below.refl _ _).alloc (Nat.le_refl _) _
    have hxx : Blk v8w wd.heap.size 30 (bytesOf 32 k).toArray := by rw [← hW]; exact heap_alloc_new _ _
    have HXv8w := Lib.hid hxx
    clear hxx
    have HBv8w := Lib.hid (HBD.out.trans (hbx.mono HBD.out.size))
    clear hbx hW
    refine wpAnyH_ready (rs := [0]) (by kernel_rfl) (by simp) ?_
    refine (AllReadyH.cons (o := ⟨some 31, _, _, _, _, _⟩) rfl (fun K hK => ?_) AllReadyH.nil)
    go_simp
    refine hK.out _ _ (by exact range_below (a := w1) (by first | exact HBv8w.out | exact below_al HBv8w.out _ | exact hb1x) hlk rra) (fun hHeld => ?_)
    clear hK K
    conv => arg 8; simp only [Act.put, List.setIfInBounds_toArray, List.set_cons_zero, List.set_cons_succ]
    generalize hW : World.alloc _ _ = v9w at hHeld ⊢
    have hbx : Below v8w.heap.size v8w v9w := by rw [← hW]; exact (Below.refl _ _).alloc (Nat.le_refl _) _
    have hox : v9w.ownsRow w1.heap.size 30 32 (.slice (some ⟨v8w.heap.size, 0, none⟩) 0 0) 0 [] := by rw [← hW]; exact owns_base2 (empty_own _) HBv8w.out.size
    have HOv9w := Lib.hid hox
    clear hox
    have HNv9w : Hid (∀ g, Value.ownBlock (.slice (some ⟨v8w.heap.size, 0, none⟩) 0 0) = some g → g ≠ wd.heap.size) := fun g e => by have h1 := HXv8w.out.lt; injection e with e; have e : v8w.heap.size = g := e; omega
    have HXv9w := Lib.hid (HXv8w.out.below hbx HXv8w.out.lt)
    have HBv9w := Lib.hid (HBv8w.out.trans (hbx.mono HBv8w.out.size))
    clear hbx hW
    refine wpAnyH_ready (rs := [2]) (by kernel_rfl) (by simp) ?_
    refine (AllReadyH.cons (o := ⟨some 33, _, _, _, _, _⟩) rfl (fun K hK => ?_) AllReadyH.nil)
    refine step_append_any _ (by rfl) (.tmp 31) (.tmp 32) _ (by rfl) w1.heap.size 30 i0 _ 32 32 Try.underlying28 HI0.out HZ0.out hz1 hz2 rfl (by omega) (.slice (some ⟨v8w.heap.size, 0, none⟩) 0 0) (0) ([]) (by rfl) HOv9w.out _ A (n) c (keysOf L) (by rfl) (HRL.out _ HBv9w.out) (keysOf_oneCell _) (by unfold maxLen; omega) (by omega) HBv9w.out.size ?_
    intro v3 v10w ho hg hat
    rw [Nat.zero_add, List.nil_append] at ho
    obtain ⟨Av10w, cv10w, rfl⟩ := own_form ho
    have hb1x : Below w1.heap.size w1 v10w := HBv9w.out.grown hg HBv9w.out.size (fun g e => (HOv9w.out.lt g e).1)
    have HOv10w := Lib.hid ho
    have HXv10w := Lib.hid (HXv9w.out.grown hg (fun e => HNv9w.out _ e.symm rfl))
    have HNv10w : Hid (∀ g, Value.ownBlock (.slice Av10w (n) cv10w) = some g → g ≠ wd.heap.size) := fun g e => by
      rcases hat with h | h
      · exact HNv9w.out g (h.symm.trans e)
      · have h1 := HXv9w.out.lt; rw [e] at h; injection h with h; omega
    have HBv10w := Lib.hid hb1x
    clear ho hg hat hb1x
    refine hK.out _ _ (by exact range_below (a := w1) (by first | exact HBv10w.out | exact below_al HBv10w.out _ | exact hb1x) hlk rra) (fun hHeld => ?_)
    clear hK K
    conv => arg 8; simp only [Act.put, List.setIfInBounds_toArray, List.set_cons_zero, List.set_cons_succ]
    refine wpAnyH_ready (rs := [5]) (by kernel_rfl) (by simp) ?_
    refine (AllReadyH.cons (o := ⟨some 36, _, _, _, _, _⟩) rfl (fun K hK => ?_) AllReadyH.nil)
    refine step_append_any _ (by rfl) (.tmp 33) (.tmp 35) _ (by rfl) w1.heap.size 30 i0 _ 32 32 Try.underlying28 HI0.out HZ0.out hz1 hz2 rfl (by omega) (.slice Av10w (n) cv10w) (n) (keysOf L) (by rfl) HOv10w.out _ (some ⟨wd.heap.size, 0, none⟩) (1) 1 (keysOf [k]) (by rfl) (reads_key HXv10w.out) (keysOf_oneCell _) (by unfold maxLen; omega) (by omega) HBv10w.out.size ?_
    intro v3 v11w ho hg hat
    skip
    obtain ⟨Av11w, cv11w, rfl⟩ := own_form ho
    have hb1x : Below w1.heap.size w1 v11w := HBv10w.out.grown hg HBv10w.out.size (fun g e => (HOv10w.out.lt g e).1)
    have HOv11w := Lib.hid ho
    have HBv11w := Lib.hid hb1x
    clear ho hg hat hb1x
    refine hK.out _ _ (by exact range_below (a := w1) (by first | exact HBv11w.out | exact below_al HBv11w.out _ | exact hb1x) hlk rra) (fun hHeld => ?_)
    clear hK K
    conv => arg 8; simp only [Act.put, List.setIfInBounds_toArray, List.set_cons_zero, List.set_cons_succ]
    refine wpAnyH_take (i := 6) (oi := ⟨some 9, _, _, _, _, _⟩) (v := ?_) rfl (by kernel_rfl) (by kernel_rfl) (by kernel_rfl) (fun _ _ _ h => h) (Or.inl ⟨by kernel_rfl, ?_⟩) hHeld ?_
    rotate_left
    · intro w hSw
      (try dsimp only at hSw)
      go_simp
      all_goals (with_reducible rfl)
    conv => arg 8; simp only [Act.put, List.setIfInBounds_toArray, List.set_cons_zero, List.set_cons_succ]
    refine wpAnyH_done (by kernel_rfl) ?_ _
    refine NoPanic.normal ?_
    have hlk1 : (L ++ [k]).length = n + 1 := by rw [List.length_append, HN.out]; rfl
    have ho : v11w.ownsRow w1.heap.size 30 32 (.slice Av11w (L ++ [k]).length cv11w) (L ++ [k]).length (keysOf (L ++ [k])) := by
      rw [hlk1, keysOf_append]
      exact HOv11w.out
    have HOO := Lib.hid ho
    have HLK := Lib.hid hlk1
    clear ho hlk1
    go_wp2_with fail
    go_ret2
    have ho := HOO.out
    have hl := HLK.out
    have h9 := KL.of_own ho
    rw [hl] at h9
    exact ⟨_, _, rfl, HB1.out.trans (HBv11w.out.mono hz1'), h9, .inr (fun g hg => Nat.le_trans hz1' (ho.lt g (by rw [hl]; exact hg)).1)⟩
set_option maxRecDepth 100000 in
set_option maxHeartbeats 2000000 in
attribute [local go_sem ↓] wp_load_k wp_build_key in
theorem rpush_room_big (w : World) (v : Value) (L : List Ky) (gb : Option Nat) (hk : KL w v L gb) (hL : L.length ≤ 1048576) (z : Int) (hz : 1024 < z) (hz2 : z ≤ 9223372036854775807) (hro : L.length < 1024) (k : Ky) (hno : hasK L k = false) :
    Calls Try.prog 22 #[v, .int .i64 z, keyV k] w (RefKPost w (L ++ [k]) true gb) := by
  obtain ⟨A, c, hv, hka⟩ := hk.keys
  have hKL := hk
  rw [hv] at hk ⊢
  obtain ⟨i0, hi0, hz0, hz1, hz2⟩ := info_parts key_info
  obtain ⟨cx, hcx⟩ : ∃ cx, (bytesOf 32 k).toArray = cx := ⟨_, rfl⟩
  show Calls _ _ #[_, .int .i64 z, .agg (bytesOf 32 k).toArray] _ _
  rw [hcx]
  have HCX := Lib.hid hcx
  have HKA := Lib.hid hka
  have HKL := Lib.hid hKL
  have HV := Lib.hid hv
  have HI0 := Lib.hid hi0
  have HZ0 := Lib.hid hz0
  obtain ⟨n, hn⟩ : ∃ n, L.length = n := ⟨_, rfl⟩
  have HN := Lib.hid hn
  rw [hn] at hL hro ⊢
  clear hcx hka hk hKL hi0 hz0 hn hv
  go_enter Try.func22, Try.ntmps22
  go_upto_region 1 with (fail)
  generalize hwa : World.alloc w _ = wa
  have hb0 : Below w.heap.size w wa := by rw [← hwa]; exact (Below.refl _ _).alloc (Nat.le_refl _) _
  have hk3 : Blk wa w.heap.size 30 (bytesOf 32 k).toArray := by rw [← hwa, HCX.out]; exact Blk.new w _ _
  have q1 := keyOk_mk (blk_key hk3)
  have q2 := loadK_eq (blk_key hk3)
  have HIX := Lib.hid (rindex_any wa A L.length c L k (HKA.out.below hb0))
  have HB0 := Lib.hid hb0
  have HK3 := Lib.hid hk3
  have hz0' := hb0.size
  clear hwa hb0 hk3
  go_wp2_with fail
  rw [← HN.out]
  refine HIX.out.mono ?_
  rintro e w1 ⟨rfl, hb1⟩
  rw [HN.out]
  have HB1 := Lib.hid (HB0.out.trans (hb1.mono hz0'))
  have hk4 := HK3.out.below hb1 HK3.out.lt
  have HK4 := Lib.hid hk4
  have hz1' := HB1.out.size
  clear q1 q2 hb1 HIX HK3
  rw [idxI_no hno] at *
  have HRL : Hid (∀ W, Below w1.heap.size w1 W → Reads W w.heap.size 32 A n (keysOf L)) := fun W hW => by
    have h1 := HKL.out.below HB1.out
    obtain ⟨A', c', e1, e2⟩ := h1.keys
    rw [HV.out] at e1
    injection e1 with e1 _ _
    subst e1
    rcases Nat.eq_zero_or_pos n with h0 | h0
    · have hl := HN.out
      obtain rfl : L = [] := List.length_eq_zero_iff.1 (by omega)
      subst h0
      exact Reads.none_
    · have hl := HN.out
      obtain ⟨g, o, c', hf1, hgb, hcc, hc63, hrd⟩ := HKL.out.form (by omega)
      rw [HV.out] at hf1
      injection hf1 with h1 _ h2
      subst h1
      rw [← hl]
      exact (hrd.below HB1.out).below (hW.mono hz1')
  go_upto_region 5 with (fail)
  have hu := Try.underlying30
  have hik := key_size k
  have rra := blk_range HK4.out
  have hlk := HK4.out.lt
  have q3 := isKy k
  refine wp_region_noPanic ?_
  refine wp_region_held_drew (S := fun w' => w'.rangeAt w.heap.size 0 (bytesOf 32 k)) (by kernel_rfl) rra (fun hHeld => ?_)
  refine wpAnyH_take (i := 1) (oi := ⟨some 32, _, _, _, _, _⟩) (v := ?_) rfl (by kernel_rfl) (by kernel_rfl) (by kernel_rfl) (fun _ _ _ h => h) (Or.inl ⟨by kernel_rfl, ?_⟩) hHeld ?_
  rotate_left
  · intro w hSw
    (try dsimp only at hSw)
    go_simp
    all_goals (with_reducible rfl)
  conv => arg 8; simp only [Act.put, List.setIfInBounds_toArray, List.set_cons_zero, List.set_cons_succ]
  refine wpAnyH_take (i := 3) (oi := ⟨some 34, _, _, _, _, _⟩) (v := _) rfl (by kernel_rfl) (by kernel_rfl) (by kernel_rfl) (fun _ _ _ h => h) (yieldsIf_load_mid (S := fun w' => w'.rangeAt w.heap.size 0 (bytesOf 32 k)) (by kernel_rfl) _ _ rfl _ _ rfl _ _ (fun w hSw => hSw) hu rfl hik) hHeld ?_
  conv => arg 8; simp only [Act.put, List.setIfInBounds_toArray, List.set_cons_zero, List.set_cons_succ]
  generalize hW : World.drew _ = wd at hHeld ⊢
  have hbd : Below w1.heap.size w1 wd := by rw [← hW]; exact belowDrewR (Below.refl _ _)
  have HBD := Lib.hid hbd
  clear hbd hW
  refine wpAnyH_ready (rs := [0, 4]) (by kernel_rfl) (by simp) ?_
  refine (AllReadyH.cons (o := ⟨some 31, _, _, _, _, _⟩) rfl (fun K hK => ?_) (AllReadyH.cons (o := ⟨some 35, _, _, _, _, _⟩) rfl (fun K hK => ?_) AllReadyH.nil))
  · go_simp
    refine hK.out _ _ (by exact range_below (a := w1) (by first | exact HBD.out | exact below_al HBD.out _ | exact hb1x) hlk rra) (fun hHeld => ?_)
    clear hK K
    conv => arg 8; simp only [Act.put, List.setIfInBounds_toArray, List.set_cons_zero, List.set_cons_succ]
    generalize hW : World.alloc _ _ = v1w at hHeld ⊢
    have hbx : Below wd.heap.size wd v1w := by rw [← hW]; exact (Below.refl _ _).alloc (Nat.le_refl _) _
    have hox : v1w.ownsRow w1.heap.size 30 32 (.slice (some ⟨wd.heap.size, 0, none⟩) 0 0) 0 [] := by rw [← hW]; exact owns_base2 (empty_own _) HBD.out.size
    have HOv1w := Lib.hid hox
    clear hox
    have HBv1w := Lib.hid (HBD.out.trans (hbx.mono HBD.out.size))
    clear hbx hW
    refine wpAnyH_ready (rs := [2, 4]) (by kernel_rfl) (by simp) ?_
    refine (AllReadyH.cons (o := ⟨some 33, _, _, _, _, _⟩) rfl (fun K hK => ?_) (AllReadyH.cons (o := ⟨some 35, _, _, _, _, _⟩) rfl (fun K hK => ?_) AllReadyH.nil))
    · refine step_append_any _ (by rfl) (.tmp 31) (.tmp 32) _ (by rfl) w1.heap.size 30 i0 _ 32 32 Try.underlying28 HI0.out HZ0.out hz1 hz2 rfl (by omega) (.slice (some ⟨wd.heap.size, 0, none⟩) 0 0) (0) ([]) (by rfl) HOv1w.out _ A (n) c (keysOf L) (by rfl) (HRL.out _ HBv1w.out) (keysOf_oneCell _) (by unfold maxLen; omega) (by omega) HBv1w.out.size ?_
      intro v3 v2w ho hg hat
      rw [Nat.zero_add, List.nil_append] at ho
      obtain ⟨Av2w, cv2w, rfl⟩ := own_form ho
      have hb1x : Below w1.heap.size w1 v2w := HBv1w.out.grown hg HBv1w.out.size (fun g e => (HOv1w.out.lt g e).1)
      have HOv2w := Lib.hid ho
      have HBv2w := Lib.hid hb1x
      clear ho hg hat hb1x
      refine hK.out _ _ (by exact range_below (a := w1) (by first | exact HBv2w.out | exact below_al HBv2w.out _ | exact hb1x) hlk rra) (fun hHeld => ?_)
      clear hK K
      conv => arg 8; simp only [Act.put, List.setIfInBounds_toArray, List.set_cons_zero, List.set_cons_succ]
      refine wpAnyH_ready (rs := [4]) (by kernel_rfl) (by simp) ?_
      refine (AllReadyH.cons (o := ⟨some 35, _, _, _, _, _⟩) rfl (fun K hK => ?_) AllReadyH.nil)
      go_simp
      refine hK.out _ _ (by exact range_below (a := w1) (by first | exact HBv2w.out | exact below_al HBv2w.out _ | exact hb1x) hlk rra) (fun hHeld => ?_)
      clear hK K
      conv => arg 8; simp only [Act.put, List.setIfInBounds_toArray, List.set_cons_zero, List.set_cons_succ]
      generalize hW : World.alloc _ _ = v3w at hHeld ⊢
      have hbx : Below v2w.heap.size v2w v3w := by rw [← hW]; exact (Below.refl _ _).alloc (Nat.le_refl _) _
      have hxx : Blk v3w v2w.heap.size 30 (bytesOf 32 k).toArray := by rw [← hW]; exact heap_alloc_new _ _
      have HXv3w := Lib.hid hxx
      clear hxx
      have HNv3w : Hid (∀ g, Value.ownBlock (.slice Av2w (n) cv2w) = some g → g ≠ v2w.heap.size) := fun g e => Nat.ne_of_lt (HOv2w.out.lt g e).2
      have HOv3w := Lib.hid (owns_below HOv2w.out hbx)
      have HBv3w := Lib.hid (HBv2w.out.trans (hbx.mono HBv2w.out.size))
      clear hbx hW
      refine wpAnyH_ready (rs := [5]) (by kernel_rfl) (by simp) ?_
      refine (AllReadyH.cons (o := ⟨some 36, _, _, _, _, _⟩) rfl (fun K hK => ?_) AllReadyH.nil)
      refine step_append_any _ (by rfl) (.tmp 33) (.tmp 35) _ (by rfl) w1.heap.size 30 i0 _ 32 32 Try.underlying28 HI0.out HZ0.out hz1 hz2 rfl (by omega) (.slice Av2w (n) cv2w) (n) (keysOf L) (by rfl) HOv3w.out _ (some ⟨v2w.heap.size, 0, none⟩) (1) 1 (keysOf [k]) (by rfl) (reads_key HXv3w.out) (keysOf_oneCell _) (by unfold maxLen; omega) (by omega) HBv3w.out.size ?_
      intro v3 v4w ho hg hat
      skip
      obtain ⟨Av4w, cv4w, rfl⟩ := own_form ho
      have hb1x : Below w1.heap.size w1 v4w := HBv3w.out.grown hg HBv3w.out.size (fun g e => (HOv3w.out.lt g e).1)
      have HOv4w := Lib.hid ho
      have HBv4w := Lib.hid hb1x
      clear ho hg hat hb1x
      refine hK.out _ _ (by exact range_below (a := w1) (by first | exact HBv4w.out | exact below_al HBv4w.out _ | exact hb1x) hlk rra) (fun hHeld => ?_)
      clear hK K
      conv => arg 8; simp only [Act.put, List.setIfInBounds_toArray, List.set_cons_zero, List.set_cons_succ]
      refine wpAnyH_take (i := 6) (oi := ⟨some 9, _, _, _, _, _⟩) (v := ?_) rfl (by kernel_rfl) (by kernel_rfl) (by kernel_rfl) (fun _ _ _ h => h) (Or.inl ⟨by kernel_rfl, ?_⟩) hHeld ?_
      rotate_left
      · intro w hSw
        (try dsimp only at hSw)
        go_simp
        all_goals (with_reducible rfl)
      conv => arg 8; simp only [Act.put, List.setIfInBounds_toArray, List.set_cons_zero, List.set_cons_succ]
      refine wpAnyH_done (by kernel_rfl) ?_ _
      refine NoPanic.normal ?_
      have hlk1 : (L ++ [k]).length = n + 1 := by rw [List.length_append, HN.out]; rfl
      have ho : v4w.ownsRow w1.heap.size 30 32 (.slice Av4w (L ++ [k]).length cv4w) (L ++ [k]).length (keysOf (L ++ [k])) := by
        rw [hlk1, keysOf_append]
        exact HOv4w.out
      have HOO := Lib.hid ho
      have HLK := Lib.hid hlk1
      clear ho hlk1
      go_wp2_with fail
      go_ret2
      have ho := HOO.out
      have hl := HLK.out
      have h9 := KL.of_own ho
      rw [hl] at h9
      exact ⟨_, _, rfl, HB1.out.trans (HBv4w.out.mono hz1'), h9, .inr (fun g hg => Nat.le_trans hz1' (ho.lt g (by rw [hl]; exact hg)).1)⟩
    · go_simp
      refine hK.out _ _ (by exact range_below (a := w1) (by first | exact HBv1w.out | exact below_al HBv1w.out _ | exact hb1x) hlk rra) (fun hHeld => ?_)
      clear hK K
      conv => arg 8; simp only [Act.put, List.setIfInBounds_toArray, List.set_cons_zero, List.set_cons_succ]
      generalize hW : World.alloc _ _ = v5w at hHeld ⊢
      have hbx : Below v1w.heap.size v1w v5w := by rw [← hW]; exact (Below.refl _ _).alloc (Nat.le_refl _) _
      have hxx : Blk v5w v1w.heap.size 30 (bytesOf 32 k).toArray := by rw [← hW]; exact heap_alloc_new _ _
      have HXv5w := Lib.hid hxx
      clear hxx
      have HNv5w : Hid (∀ g, Value.ownBlock (.slice (some ⟨wd.heap.size, 0, none⟩) 0 0) = some g → g ≠ v1w.heap.size) := fun g e => Nat.ne_of_lt (HOv1w.out.lt g e).2
      have HOv5w := Lib.hid (owns_below HOv1w.out hbx)
      have HBv5w := Lib.hid (HBv1w.out.trans (hbx.mono HBv1w.out.size))
      clear hbx hW
      refine wpAnyH_ready (rs := [2]) (by kernel_rfl) (by simp) ?_
      refine (AllReadyH.cons (o := ⟨some 33, _, _, _, _, _⟩) rfl (fun K hK => ?_) AllReadyH.nil)
      refine step_append_any _ (by rfl) (.tmp 31) (.tmp 32) _ (by rfl) w1.heap.size 30 i0 _ 32 32 Try.underlying28 HI0.out HZ0.out hz1 hz2 rfl (by omega) (.slice (some ⟨wd.heap.size, 0, none⟩) 0 0) (0) ([]) (by rfl) HOv5w.out _ A (n) c (keysOf L) (by rfl) (HRL.out _ HBv5w.out) (keysOf_oneCell _) (by unfold maxLen; omega) (by omega) HBv5w.out.size ?_
      intro v3 v6w ho hg hat
      rw [Nat.zero_add, List.nil_append] at ho
      obtain ⟨Av6w, cv6w, rfl⟩ := own_form ho
      have hb1x : Below w1.heap.size w1 v6w := HBv5w.out.grown hg HBv5w.out.size (fun g e => (HOv5w.out.lt g e).1)
      have HOv6w := Lib.hid ho
      have HXv6w := Lib.hid (HXv5w.out.grown hg (fun e => HNv5w.out _ e.symm rfl))
      have HNv6w : Hid (∀ g, Value.ownBlock (.slice Av6w (n) cv6w) = some g → g ≠ v1w.heap.size) := fun g e => by
        rcases hat with h | h
        · exact HNv5w.out g (h.symm.trans e)
        · have h1 := HXv5w.out.lt; rw [e] at h; injection h with h; omega
      have HBv6w := Lib.hid hb1x
      clear ho hg hat hb1x
      refine hK.out _ _ (by exact range_below (a := w1) (by first | exact HBv6w.out | exact below_al HBv6w.out _ | exact hb1x) hlk rra) (fun hHeld => ?_)
      clear hK K
      conv => arg 8; simp only [Act.put, List.setIfInBounds_toArray, List.set_cons_zero, List.set_cons_succ]
      refine wpAnyH_ready (rs := [5]) (by kernel_rfl) (by simp) ?_
      refine (AllReadyH.cons (o := ⟨some 36, _, _, _, _, _⟩) rfl (fun K hK => ?_) AllReadyH.nil)
      refine step_append_any _ (by rfl) (.tmp 33) (.tmp 35) _ (by rfl) w1.heap.size 30 i0 _ 32 32 Try.underlying28 HI0.out HZ0.out hz1 hz2 rfl (by omega) (.slice Av6w (n) cv6w) (n) (keysOf L) (by rfl) HOv6w.out _ (some ⟨v1w.heap.size, 0, none⟩) (1) 1 (keysOf [k]) (by rfl) (reads_key HXv6w.out) (keysOf_oneCell _) (by unfold maxLen; omega) (by omega) HBv6w.out.size ?_
      intro v3 v7w ho hg hat
      skip
      obtain ⟨Av7w, cv7w, rfl⟩ := own_form ho
      have hb1x : Below w1.heap.size w1 v7w := HBv6w.out.grown hg HBv6w.out.size (fun g e => (HOv6w.out.lt g e).1)
      have HOv7w := Lib.hid ho
      have HBv7w := Lib.hid hb1x
      clear ho hg hat hb1x
      refine hK.out _ _ (by exact range_below (a := w1) (by first | exact HBv7w.out | exact below_al HBv7w.out _ | exact hb1x) hlk rra) (fun hHeld => ?_)
      clear hK K
      conv => arg 8; simp only [Act.put, List.setIfInBounds_toArray, List.set_cons_zero, List.set_cons_succ]
      refine wpAnyH_take (i := 6) (oi := ⟨some 9, _, _, _, _, _⟩) (v := ?_) rfl (by kernel_rfl) (by kernel_rfl) (by kernel_rfl) (fun _ _ _ h => h) (Or.inl ⟨by kernel_rfl, ?_⟩) hHeld ?_
      rotate_left
      · intro w hSw
        (try dsimp only at hSw)
        go_simp
        all_goals (with_reducible rfl)
      conv => arg 8; simp only [Act.put, List.setIfInBounds_toArray, List.set_cons_zero, List.set_cons_succ]
      refine wpAnyH_done (by kernel_rfl) ?_ _
      refine NoPanic.normal ?_
      have hlk1 : (L ++ [k]).length = n + 1 := by rw [List.length_append, HN.out]; rfl
      have ho : v7w.ownsRow w1.heap.size 30 32 (.slice Av7w (L ++ [k]).length cv7w) (L ++ [k]).length (keysOf (L ++ [k])) := by
        rw [hlk1, keysOf_append]
        exact HOv7w.out
      have HOO := Lib.hid ho
      have HLK := Lib.hid hlk1
      clear ho hlk1
      go_wp2_with fail
      go_ret2
      have ho := HOO.out
      have hl := HLK.out
      have h9 := KL.of_own ho
      rw [hl] at h9
      exact ⟨_, _, rfl, HB1.out.trans (HBv7w.out.mono hz1'), h9, .inr (fun g hg => Nat.le_trans hz1' (ho.lt g (by rw [hl]; exact hg)).1)⟩
  · go_simp
    refine hK.out _ _ (by exact range_below (a := w1) (by first | exact HBD.out | exact below_al HBD.out _ | exact hb1x) hlk rra) (fun hHeld => ?_)
    clear hK K
    conv => arg 8; simp only [Act.put, List.setIfInBounds_toArray, List.set_cons_zero, List.set_cons_succ]
    generalize hW : World.alloc _ _ = v8w at hHeld ⊢
    have hbx : Below wd.heap.size wd v8w := by rw [← hW]; exact (Below.refl _ _).alloc (Nat.le_refl _) _
    have hxx : Blk v8w wd.heap.size 30 (bytesOf 32 k).toArray := by rw [← hW]; exact heap_alloc_new _ _
    have HXv8w := Lib.hid hxx
    clear hxx
    have HBv8w := Lib.hid (HBD.out.trans (hbx.mono HBD.out.size))
    clear hbx hW
    refine wpAnyH_ready (rs := [0]) (by kernel_rfl) (by simp) ?_
    refine (AllReadyH.cons (o := ⟨some 31, _, _, _, _, _⟩) rfl (fun K hK => ?_) AllReadyH.nil)
    go_simp
    refine hK.out _ _ (by exact range_below (a := w1) (by first | exact HBv8w.out | exact below_al HBv8w.out _ | exact hb1x) hlk rra) (fun hHeld => ?_)
    clear hK K
    conv => arg 8; simp only [Act.put, List.setIfInBounds_toArray, List.set_cons_zero, List.set_cons_succ]
    generalize hW : World.alloc _ _ = v9w at hHeld ⊢
    have hbx : Below v8w.heap.size v8w v9w := by rw [← hW]; exact (Below.refl _ _).alloc (Nat.le_refl _) _
    have hox : v9w.ownsRow w1.heap.size 30 32 (.slice (some ⟨v8w.heap.size, 0, none⟩) 0 0) 0 [] := by rw [← hW]; exact owns_base2 (empty_own _) HBv8w.out.size
    have HOv9w := Lib.hid hox
    clear hox
    have HNv9w : Hid (∀ g, Value.ownBlock (.slice (some ⟨v8w.heap.size, 0, none⟩) 0 0) = some g → g ≠ wd.heap.size) := fun g e => by have h1 := HXv8w.out.lt; injection e with e; have e : v8w.heap.size = g := e; omega
    have HXv9w := Lib.hid (HXv8w.out.below hbx HXv8w.out.lt)
    have HBv9w := Lib.hid (HBv8w.out.trans (hbx.mono HBv8w.out.size))
    clear hbx hW
    refine wpAnyH_ready (rs := [2]) (by kernel_rfl) (by simp) ?_
    refine (AllReadyH.cons (o := ⟨some 33, _, _, _, _, _⟩) rfl (fun K hK => ?_) AllReadyH.nil)
    refine step_append_any _ (by rfl) (.tmp 31) (.tmp 32) _ (by rfl) w1.heap.size 30 i0 _ 32 32 Try.underlying28 HI0.out HZ0.out hz1 hz2 rfl (by omega) (.slice (some ⟨v8w.heap.size, 0, none⟩) 0 0) (0) ([]) (by rfl) HOv9w.out _ A (n) c (keysOf L) (by rfl) (HRL.out _ HBv9w.out) (keysOf_oneCell _) (by unfold maxLen; omega) (by omega) HBv9w.out.size ?_
    intro v3 v10w ho hg hat
    rw [Nat.zero_add, List.nil_append] at ho
    obtain ⟨Av10w, cv10w, rfl⟩ := own_form ho
    have hb1x : Below w1.heap.size w1 v10w := HBv9w.out.grown hg HBv9w.out.size (fun g e => (HOv9w.out.lt g e).1)
    have HOv10w := Lib.hid ho
    have HXv10w := Lib.hid (HXv9w.out.grown hg (fun e => HNv9w.out _ e.symm rfl))
    have HNv10w : Hid (∀ g, Value.ownBlock (.slice Av10w (n) cv10w) = some g → g ≠ wd.heap.size) := fun g e => by
      rcases hat with h | h
      · exact HNv9w.out g (h.symm.trans e)
      · have h1 := HXv9w.out.lt; rw [e] at h; injection h with h; omega
    have HBv10w := Lib.hid hb1x
    clear ho hg hat hb1x
    refine hK.out _ _ (by exact range_below (a := w1) (by first | exact HBv10w.out | exact below_al HBv10w.out _ | exact hb1x) hlk rra) (fun hHeld => ?_)
    clear hK K
    conv => arg 8; simp only [Act.put, List.setIfInBounds_toArray, List.set_cons_zero, List.set_cons_succ]
    refine wpAnyH_ready (rs := [5]) (by kernel_rfl) (by simp) ?_
    refine (AllReadyH.cons (o := ⟨some 36, _, _, _, _, _⟩) rfl (fun K hK => ?_) AllReadyH.nil)
    refine step_append_any _ (by rfl) (.tmp 33) (.tmp 35) _ (by rfl) w1.heap.size 30 i0 _ 32 32 Try.underlying28 HI0.out HZ0.out hz1 hz2 rfl (by omega) (.slice Av10w (n) cv10w) (n) (keysOf L) (by rfl) HOv10w.out _ (some ⟨wd.heap.size, 0, none⟩) (1) 1 (keysOf [k]) (by rfl) (reads_key HXv10w.out) (keysOf_oneCell _) (by unfold maxLen; omega) (by omega) HBv10w.out.size ?_
    intro v3 v11w ho hg hat
    skip
    obtain ⟨Av11w, cv11w, rfl⟩ := own_form ho
    have hb1x : Below w1.heap.size w1 v11w := HBv10w.out.grown hg HBv10w.out.size (fun g e => (HOv10w.out.lt g e).1)
    have HOv11w := Lib.hid ho
    have HBv11w := Lib.hid hb1x
    clear ho hg hat hb1x
    refine hK.out _ _ (by exact range_below (a := w1) (by first | exact HBv11w.out | exact below_al HBv11w.out _ | exact hb1x) hlk rra) (fun hHeld => ?_)
    clear hK K
    conv => arg 8; simp only [Act.put, List.setIfInBounds_toArray, List.set_cons_zero, List.set_cons_succ]
    refine wpAnyH_take (i := 6) (oi := ⟨some 9, _, _, _, _, _⟩) (v := ?_) rfl (by kernel_rfl) (by kernel_rfl) (by kernel_rfl) (fun _ _ _ h => h) (Or.inl ⟨by kernel_rfl, ?_⟩) hHeld ?_
    rotate_left
    · intro w hSw
      (try dsimp only at hSw)
      go_simp
      all_goals (with_reducible rfl)
    conv => arg 8; simp only [Act.put, List.setIfInBounds_toArray, List.set_cons_zero, List.set_cons_succ]
    refine wpAnyH_done (by kernel_rfl) ?_ _
    refine NoPanic.normal ?_
    have hlk1 : (L ++ [k]).length = n + 1 := by rw [List.length_append, HN.out]; rfl
    have ho : v11w.ownsRow w1.heap.size 30 32 (.slice Av11w (L ++ [k]).length cv11w) (L ++ [k]).length (keysOf (L ++ [k])) := by
      rw [hlk1, keysOf_append]
      exact HOv11w.out
    have HOO := Lib.hid ho
    have HLK := Lib.hid hlk1
    clear ho hlk1
    go_wp2_with fail
    go_ret2
    have ho := HOO.out
    have hl := HLK.out
    have h9 := KL.of_own ho
    rw [hl] at h9
    exact ⟨_, _, rfl, HB1.out.trans (HBv11w.out.mono hz1'), h9, .inr (fun g hg => Nat.le_trans hz1' (ho.lt g (by rw [hl]; exact hg)).1)⟩

theorem rdrop_any (w : World) (v : Value) (L : List Ky) (gb : Option Nat) (hk : KL w v L gb) (hL : L.length ≤ 1048576) (k : Ky) : Calls Try.prog 13 #[v, keyV k] w (RefKPost w (dropK L k) (hasK L k) gb) := by
  cases hh : hasK L k with
  | true =>
    obtain ⟨i, p, h1, _, _⟩ := idxK_some hh
    have e : dropK L k = lackT L i := by unfold dropK; rw [h1]
    rw [e]
    exact rdrop_yes w v L gb hk hL k i h1
  | false =>
    have e : dropK L k = L := by unfold dropK; rw [idxK_none hh]
    rw [e]
    exact rdrop_no w v L gb hk hL k hh
theorem rpush_any (w : World) (v : Value) (L : List Ky) (gb : Option Nat) (hk : KL w v L gb) (hL : L.length ≤ 1048576) (z : Int) (hz : -9223372036854775808 ≤ z ∧ z ≤ 9223372036854775807) (k : Ky) : Calls Try.prog 22 #[v, .int .i64 z, keyV k] w (RefKPost w (pushK L (clampC z) k) (!hasK L k) gb) := by
  have hc : (z < 0 ∧ clampC z = 0) ∨ (z = 0 ∧ clampC z = 0) ∨ (0 < clampC z ∧ clampC z ≤ 1024 ∧ z = (clampC z : Int)) ∨ (1024 < z ∧ clampC z = 1024) := by unfold clampC; omega
  cases hh : hasK L k with
  | true =>
    obtain ⟨i, p, h1, _, _⟩ := idxK_some hh
    have e : ∀ s, pushK L s k = lackT L i ++ [k] := fun s => by unfold pushK; rw [h1]
    rw [e]
    rcases hc with ⟨h2, h3⟩ | ⟨h2, h3⟩ | ⟨h2, h3, h4⟩ | ⟨h2, h3⟩
    · exact rpush_yes_neg w v L gb hk hL z h2 hz.1 k i h1
    · subst h2; exact rpush_yes_zero w v L gb hk hL k i h1
    · rw [h4]; exact rpush_yes_mid w v L gb hk hL _ h2 h3 k i h1
    · exact rpush_yes_big w v L gb hk hL z h2 hz.2 k i h1
  | false =>
    have e : ∀ s, pushK L s k = (L ++ [k]).drop (if L.length < s then 0 else 1) := fun s => by unfold pushK; rw [idxK_none hh]
    rw [e]
    rcases hc with ⟨h2, h3⟩ | ⟨h2, h3⟩ | ⟨h2, h3, h4⟩ | ⟨h2, h3⟩
    · rw [h3, if_neg (by omega)]; exact rpush_full_neg w v L gb hk hL z h2 hz.1 k hh
    · subst h2; rw [h3, if_neg (by omega)]; exact rpush_full_zero w v L gb hk hL k hh
    · by_cases hl : L.length < clampC z
      · rw [if_pos hl, h4, List.drop_zero]
        exact rpush_room_mid w v L gb hk hL _ h2 h3 hl k hh
      · rw [if_neg hl]
        have := rpush_full_mid w v L gb hk hL _ h2 h3 (by omega) k hh
        rw [← h4] at this
        exact this
    · rw [h3]
      by_cases hl : L.length < 1024
      · rw [if_pos hl, List.drop_zero]
        exact rpush_room_big w v L gb hk hL z h2 hz.2 hl k hh
      · rw [if_neg hl]
        exact rpush_full_big w v L gb hk hL z h2 hz.2 (by omega) k hh
end Go.Proofs.Ytegdchlbmjokmaa
