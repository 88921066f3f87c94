/- KeyLists: the walk. -/
import Derived.Test.YtbhklhpeppaadaaKeyAp
namespace Go.Proofs.Ytbhklhpeppaadaa
open Go.RowKit
set_option linter.unusedVariables false
set_option linter.unusedSimpArgs false
open ShaW Sha

set_option maxRecDepth 100000 in
set_option maxHeartbeats 8000000 in
attribute [local go_sem ↓] wp_load_k in
theorem keyLists_any (w : World) (A : Option Addr) (n c b o : Nat) (f : Nat → UInt8) (hnc : n ≤ c) (hcm : c ≤ 9223372036854775807) (hA : 0 < n → A = some ⟨b, o, none⟩)
    (hc : ∀ j, j < n → w.cell? ⟨b, o + j, none⟩ = some (.int .u8 ((f j).toNat : Int))) (k : Ky) (Ar : Option Addr) (m cr : Nat) (rs : List Ky) (hr : KeysAt w Ar m cr rs) :
    Calls Try.prog 6 #[.slice A n c, .agg (bytesOf 32 k).toArray, .slice Ar m cr] w fun e w' => e = .returned (.bool true) ∧ Below w.heap.size w w' := by
  obtain ⟨ck, hck⟩ : ∃ ck, (bytesOf 32 k).toArray = ck := ⟨_, rfl⟩
  rw [hck]
  have HCK := Lib.hid hck
  obtain ⟨i0, hi0, hz0, hz1, hz2⟩ := info_parts key_info
  have HI0 := Lib.hid hi0
  have HZ0 := Lib.hid hz0
  have HC := Lib.hid hc
  have HA := Lib.hid hA
  have HR := Lib.hid hr
  clear hck hi0 hz0 hc hA hr
  go_enter Try.func6, Try.ntmps6
  go_upto_region 1 with (fail)
  generalize hwa : World.alloc w _ = wa
  have hb0 : Below w.heap.size w wa := by rw [← hwa]; exact (Below.refl _ _).alloc (Nat.le_refl _) _
  have hga : Blk wa w.heap.size 25 (bytesOf 32 k).toArray := by rw [← hwa, HCK.out]; exact Blk.new w _ ck
  have HB0 := Lib.hid hb0
  have HGA := Lib.hid hga
  have HR0 := Lib.hid (HR.out.below hb0)
  have hz0' := hb0.size
  clear hwa hb0 hga
  rcases Nat.lt_or_ge 20 n with h20 | h20
  · have t1 : (20 : Int) < (n : Int) := by omega
    go_wp2_with fail
    refine (known_any _).mono ?_
    rintro e w1 ⟨rfl, hb1⟩
    go_wp2_with fail
    go_ret
    exact ⟨rfl, HB0.out.trans (hb1.mono hz0')⟩
  have t1 : ¬ ((20 : Int) < (n : Int)) := by omega
  rcases Nat.lt_or_ge 20 m with h21 | h21
  · have t2 : (20 : Int) < (m : Int) := by omega
    go_wp2_with fail
    refine (known_any _).mono ?_
    rintro e w1 ⟨rfl, hb1⟩
    go_wp2_with fail
    go_ret
    exact ⟨rfl, HB0.out.trans (hb1.mono hz0')⟩
  have t2 : ¬ ((20 : Int) < (m : Int)) := by omega
  go_wp2_with fail
  refine (keys_any wa A n c b o f h20 hnc hcm HA.out (fun j hj => (HB0.out.cell (p := ⟨b, o + j, none⟩) (World.block_lt_of_cell? w _ (HC.out j hj))).trans (HC.out j hj))).mono ?_
  rintro e w1 ⟨v, rfl, A', c', ps, rfl, hps, hb1, ho⟩
  have ga := HGA.out.below hb1 HGA.out.lt
  have a1 := keyOk_mk (blk_key ga)
  have a2 := loadK_eq (blk_key ga)
  have hz1' := hb1.size
  have HO2 := Lib.hid (owns_below ho ((Below.refl w1.heap.size w1).alloc (Nat.le_refl _) (.cells (bytesOf 32 k).toArray 25)))
  have HNW : Hid (∀ j u, (keysOf [k])[j]? = some u → (w1.alloc (.cells (bytesOf 32 k).toArray 25)).cell? ((⟨w1.heap.size, 0, none⟩ : Addr).add j) = some u) := fun j u hu => by
    rw [keysOf_one] at hu
    rw [add_flat, Nat.zero_add, lit_cell]
    exact List.getElem?_toArray.trans hu
  have HB1 := Lib.hid (hb1.alloc hz1' (.cells (bytesOf 32 k).toArray 25))
  clear ga hps hb1 ho
  go_wp2_with (first
    | (refine wpList_buildSlice rfl 36 25 1 _ rfl (bytesOf 32 k).toArray i0 _ Try.underlying36 HI0.out HZ0.out (by rw [hz1]; omega) (by rw [hz1]; omega) (by simp only [List.map_toArray, List.map_cons, List.map_nil]; exact key_fill k i0 hz1) ?_)
    | (at_builtin
       refine wpList_append_key rfl (.tmp 21) (.tmp 23) rfl wa.heap.size A' n c' ps rfl HO2.out k ⟨w1.heap.size, 0, none⟩ rfl HNW.out (by omega) (by rw [World.size_alloc]; omega) ?_
       intro A2 c2 w3 hk1 hk2 hb3
       obtain ⟨q, hq⟩ : ∃ q, n + 1 = q := ⟨_, rfl⟩
       rw [hq] at hk1 ⊢
       have HK1 := Lib.hid hk1
       have HK2 := Lib.hid hk2
       have hb3' := HB1.out.trans hb3
       have HB3 := Lib.hid hb3'
       have HRR := Lib.hid (HR0.out.below hb3')
       have hz3 := hb3'.size
       have hqc : q ≤ c2 := hk1.2.1
       have hqm : c2 ≤ 9223372036854775807 := hk1.2.2.1
       clear a1 a2 hk1 hk2 hb3 hb3'))
  go_loopw [26] (fun i wr => ∃ j : Nat, j ≤ q ∧ i = .int .i64 (j : Int) ∧ Below w3.heap.size w3 wr) (fun i _ => q - (intOf i).toNat)
  case atStart => exact ⟨0, by omega, rfl, Below.refl _ _⟩
  case round =>
    obtain ⟨j, hj, rfl, hbr⟩ := hrel
    have hzr := hbr.size
    have HBR := Lib.hid hbr
    clear hbr
    rcases Nat.lt_or_ge j q with hlt | hge
    · skip
      have hlt' : (j : Int) < q := by omega
      have hn0 : (0 : Int) ≤ j := by omega
      have hjc : (j : Int) ≤ c2 := by omega
      have hc0 : ¬ c2 = 0 := by omega
      obtain ⟨g, o2, hA2, hat⟩ := HK1.out.at_
      obtain rfl := hA2 (by omega)
      obtain ⟨kk, hkk, hcell⟩ := hat j hlt
      have hc2 : ∀ i u, (bytesOf 32 kk)[i]? = some u → wr.cell? ((⟨g, o2 + j * 32, none⟩ : Addr).add i) = some u := fun i u hu => (HBR.out.cell (p := (⟨g, o2 + j * 32, none⟩ : Addr).add i) (World.block_lt_of_cell? w3 _ (hcell i u hu))).trans (hcell i u hu)
      have q1 := keyOk_mk hc2
      have q2 := loadK_eq hc2
      clear hA2 hat hkk hcell hc2
      go_wp2_with (refine wpList_store_rowTo rfl 25 (.tmp 9) (.tmp 29) rfl rfl wr.heap.size (bytesOf 32 kk).toArray rfl rfl _ _ (heap_alloc_new _ _) (by rw [keyV_size]; kernel_rfl) (by rw [keyV_size]; kernel_rfl) (keyV_one _) ?_
                   generalize hwc : World.setRow _ _ _ = wc
                   have hkc : Blk wc wr.heap.size 25 (bytesOf 32 kk).toArray := by rw [← hwc]; exact setRow_same _ _ _ _ _ (heap_alloc_new _ _)
                   have hbc : Below w3.heap.size w3 wc := by rw [← hwc]; exact below_setRow (HBR.out.alloc hzr _) hzr _
                   have HBW := Lib.hid hbc
                   have rra := blk_range hkc
                   have hlk := hkc.lt
                   have hzc := hbc.size
                   clear hwc hkc hbc q1 q2)
      have HKM : Hid (KeysAt wc A' n c' ps) := HK2.out.below HBW.out
      have HKR : Hid (KeysAt wc Ar m cr rs) := HRR.out.below HBW.out
      obtain ⟨b1, hb1⟩ : ∃ b1, hasK ps kk = b1 := ⟨_, rfl⟩
      obtain ⟨b2, hb2⟩ : ∃ b2, hasK rs kk = b2 := ⟨_, rfl⟩
      have H1 : Hid (∀ W, Below wc.heap.size wc W → Calls Try.prog 17 #[.slice A' n c', keyV kk] W fun e w' => e = .returned (.bool b1) ∧ Below W.heap.size W w') := fun W h => by rw [← hb1]; exact khas_any W A' n c' ps kk (HKM.out.below h)
      have H2 : Hid (∀ W, Below wc.heap.size wc W → Calls Try.prog 18 #[.slice A' n c', keyV kk] W fun e w' => e = .returned (.bool b1) ∧ Below W.heap.size W w') := fun W h => by rw [← hb1]; exact rhas_any W A' n c' ps kk (HKM.out.below h)
      have H3 : Hid (∀ W, Below wc.heap.size wc W → Calls Try.prog 17 #[.slice Ar m cr, keyV kk] W fun e w' => e = .returned (.bool b2) ∧ Below W.heap.size W w') := fun W h => by rw [← hb2]; exact khas_any W Ar m cr rs kk (HKR.out.below h)
      have H4 : Hid (∀ W, Below wc.heap.size wc W → Calls Try.prog 18 #[.slice Ar m cr, keyV kk] W fun e w' => e = .returned (.bool b2) ∧ Below W.heap.size W w') := fun W h => by rw [← hb2]; exact rhas_any W Ar m cr rs kk (HKR.out.below h)
      have hu := Try.underlying25
      have hik := key_size kk
      have HBC := Lib.hid (Below.refl wc.heap.size wc)
      clear hb1 hb2 HKM HKR
      refine wp_region_noPanic ?_
      refine wp_region_held_drew (S := fun w' => w'.rangeAt wr.heap.size 0 (bytesOf 32 kk)) (by kernel_rfl) rra (fun hHeld => ?_)
      refine wpAnyH_take (i := 0) (oi := ⟨some 30, _, _, _, _, _⟩) (v := ?_) rfl (by kernel_rfl) (by kernel_rfl) (by kernel_rfl) (fun _ _ _ h => h) (Or.inl ⟨by kernel_rfl, ?_⟩) hHeld ?_
      rotate_left
      · intro w hSw
        (try dsimp only at hSw)
        go_simp
        all_goals (with_reducible rfl)
      conv => arg 8; simp only [Act.put, List.setIfInBounds_toArray, List.set_cons_zero, List.set_cons_succ]
      refine wpAnyH_take (i := 1) (oi := ⟨some 31, _, _, _, _, _⟩) (v := _) rfl (by kernel_rfl) (by kernel_rfl) (by kernel_rfl) (fun _ _ _ h => h) (yieldsIf_load_mid (S := fun w' => w'.rangeAt wr.heap.size 0 (bytesOf 32 kk)) (by kernel_rfl) _ _ rfl _ _ rfl _ _ (fun w hSw => hSw) hu rfl hik) hHeld ?_
      conv => arg 8; simp only [Act.put, List.setIfInBounds_toArray, List.set_cons_zero, List.set_cons_succ]
      refine wpAnyH_take (i := 3) (oi := ⟨some 33, _, _, _, _, _⟩) (v := ?_) rfl (by kernel_rfl) (by kernel_rfl) (by kernel_rfl) (fun _ _ _ h => h) (Or.inl ⟨by kernel_rfl, ?_⟩) hHeld ?_
      rotate_left
      · intro w hSw
        (try dsimp only at hSw)
        go_simp
        all_goals (with_reducible rfl)
      conv => arg 8; simp only [Act.put, List.setIfInBounds_toArray, List.set_cons_zero, List.set_cons_succ]
      refine wpAnyH_take (i := 4) (oi := ⟨some 34, _, _, _, _, _⟩) (v := _) rfl (by kernel_rfl) (by kernel_rfl) (by kernel_rfl) (fun _ _ _ h => h) (yieldsIf_load_mid (S := fun w' => w'.rangeAt wr.heap.size 0 (bytesOf 32 kk)) (by kernel_rfl) _ _ rfl _ _ rfl _ _ (fun w hSw => hSw) hu rfl hik) hHeld ?_
      conv => arg 8; simp only [Act.put, List.setIfInBounds_toArray, List.set_cons_zero, List.set_cons_succ]
      refine wpAnyH_ready (rs := [2]) (by kernel_rfl) (by simp) ?_
      refine AllReadyH.cons (o := ⟨some 32, _, _, _, _, _⟩) rfl (fun K hK => ?_) AllReadyH.nil
      go_simp
      go_at_call 17
      (with_reducible refine (H1.out _ ?_).mono ?_)
      · repeat (first | (with_reducible exact HBC.out) | (with_reducible refine belowDrewR ?_) | (with_reducible refine below_dnR ?_ _) | (with_reducible refine below_al ?_ _))
      rintro e w9 ⟨rfl, hb9⟩
      have hBEL : Below wc.heap.size wc w9 := below_step (a := wc) (by repeat (first | (with_reducible exact HBC.out) | (with_reducible refine belowDrewR ?_) | (with_reducible refine below_dnR ?_ _) | (with_reducible refine below_al ?_ _))) hb9
      have HBC := Lib.hid hBEL
      clear hb9 hBEL
      refine hK.out _ _ (range_below (a := wc) HBC.out hlk rra) (fun hHeld => ?_)
      clear hK K
      conv => arg 8; simp only [Act.put, List.setIfInBounds_toArray, List.set_cons_zero, List.set_cons_succ]
      refine wpAnyH_ready (rs := [5]) (by kernel_rfl) (by simp) ?_
      refine AllReadyH.cons (o := ⟨some 35, _, _, _, _, _⟩) rfl (fun K hK => ?_) AllReadyH.nil
      go_simp
      go_at_call 18
      (with_reducible refine (H2.out _ ?_).mono ?_)
      · repeat (first | (with_reducible exact HBC.out) | (with_reducible refine belowDrewR ?_) | (with_reducible refine below_dnR ?_ _) | (with_reducible refine below_al ?_ _))
      rintro e w9 ⟨rfl, hb9⟩
      have hBEL : Below wc.heap.size wc w9 := below_step (a := wc) (by repeat (first | (with_reducible exact HBC.out) | (with_reducible refine belowDrewR ?_) | (with_reducible refine below_dnR ?_ _) | (with_reducible refine below_al ?_ _))) hb9
      have HBC := Lib.hid hBEL
      clear hb9 hBEL
      refine hK.out _ _ (range_below (a := wc) HBC.out hlk rra) (fun hHeld => ?_)
      clear hK K
      conv => arg 8; simp only [Act.put, List.setIfInBounds_toArray, List.set_cons_zero, List.set_cons_succ]
      refine wpAnyH_take (i := 6) (oi := ⟨some 36, _, _, _, _, _⟩) (v := ?_) rfl (by kernel_rfl) (by kernel_rfl) (by kernel_rfl) (fun _ _ _ h => h) (Or.inl ⟨by kernel_rfl, ?_⟩) hHeld ?_
      rotate_left
      · intro w hSw
        (try dsimp only at hSw)
        go_simp
        all_goals (with_reducible rfl)
      conv => arg 8; simp only [Act.put, List.setIfInBounds_toArray, List.set_cons_zero, List.set_cons_succ]
      refine wpAnyH_take (i := 7) (oi := ⟨some 37, _, _, _, _, _⟩) (v := ?_) rfl (by kernel_rfl) (by kernel_rfl) (by kernel_rfl) (fun _ _ _ h => h) (Or.inl ⟨by kernel_rfl, ?_⟩) hHeld ?_
      rotate_left
      · intro w hSw
        (try dsimp only at hSw)
        go_simp
        all_goals (with_reducible rfl)
      conv => arg 8; simp only [Act.put, List.setIfInBounds_toArray, List.set_cons_zero, List.set_cons_succ]
      refine wpAnyH_take (i := 8) (oi := ⟨some 38, _, _, _, _, _⟩) (v := ?_) rfl (by kernel_rfl) (by kernel_rfl) (by kernel_rfl) (fun _ _ _ h => h) (Or.inl ⟨by kernel_rfl, ?_⟩) hHeld ?_
      rotate_left
      · intro w hSw
        (try dsimp only at hSw)
        go_simp
        all_goals (with_reducible rfl)
      conv => arg 8; simp only [Act.put, List.setIfInBounds_toArray, List.set_cons_zero, List.set_cons_succ]
      refine wpAnyH_take (i := 9) (oi := ⟨some 39, _, _, _, _, _⟩) (v := _) rfl (by kernel_rfl) (by kernel_rfl) (by kernel_rfl) (fun _ _ _ h => h) (yieldsIf_load_mid (S := fun w' => w'.rangeAt wr.heap.size 0 (bytesOf 32 kk)) (by kernel_rfl) _ _ rfl _ _ rfl _ _ (fun w hSw => hSw) hu rfl hik) hHeld ?_
      conv => arg 8; simp only [Act.put, List.setIfInBounds_toArray, List.set_cons_zero, List.set_cons_succ]
      refine wpAnyH_take (i := 11) (oi := ⟨some 41, _, _, _, _, _⟩) (v := ?_) rfl (by kernel_rfl) (by kernel_rfl) (by kernel_rfl) (fun _ _ _ h => h) (Or.inl ⟨by kernel_rfl, ?_⟩) hHeld ?_
      rotate_left
      · intro w hSw
        (try dsimp only at hSw)
        go_simp
        all_goals (with_reducible rfl)
      conv => arg 8; simp only [Act.put, List.setIfInBounds_toArray, List.set_cons_zero, List.set_cons_succ]
      refine wpAnyH_take (i := 12) (oi := ⟨some 42, _, _, _, _, _⟩) (v := _) rfl (by kernel_rfl) (by kernel_rfl) (by kernel_rfl) (fun _ _ _ h => h) (yieldsIf_load_mid (S := fun w' => w'.rangeAt wr.heap.size 0 (bytesOf 32 kk)) (by kernel_rfl) _ _ rfl _ _ rfl _ _ (fun w hSw => hSw) hu rfl hik) hHeld ?_
      conv => arg 8; simp only [Act.put, List.setIfInBounds_toArray, List.set_cons_zero, List.set_cons_succ]
      refine wpAnyH_ready (rs := [10]) (by kernel_rfl) (by simp) ?_
      refine AllReadyH.cons (o := ⟨some 40, _, _, _, _, _⟩) rfl (fun K hK => ?_) AllReadyH.nil
      refine ite_yes (by kernel_rfl) ?_
      go_simp
      go_at_call 17
      (with_reducible refine (H3.out _ ?_).mono ?_)
      · repeat (first | (with_reducible exact HBC.out) | (with_reducible refine belowDrewR ?_) | (with_reducible refine below_dnR ?_ _) | (with_reducible refine below_al ?_ _))
      rintro e w9 ⟨rfl, hb9⟩
      have hBEL : Below wc.heap.size wc w9 := below_step (a := wc) (by repeat (first | (with_reducible exact HBC.out) | (with_reducible refine belowDrewR ?_) | (with_reducible refine below_dnR ?_ _) | (with_reducible refine below_al ?_ _))) hb9
      have HBC := Lib.hid hBEL
      clear hb9 hBEL
      refine hK.out _ _ (range_below (a := wc) HBC.out hlk rra) (fun hHeld => ?_)
      clear hK K
      conv => arg 8; simp only [Act.put, List.setIfInBounds_toArray, List.set_cons_zero, List.set_cons_succ]
      refine wpAnyH_ready (rs := [13]) (by kernel_rfl) (by simp) ?_
      refine AllReadyH.cons (o := ⟨some 43, _, _, _, _, _⟩) rfl (fun K hK => ?_) AllReadyH.nil
      refine ite_yes (by kernel_rfl) ?_
      go_simp
      go_at_call 18
      (with_reducible refine (H4.out _ ?_).mono ?_)
      · repeat (first | (with_reducible exact HBC.out) | (with_reducible refine belowDrewR ?_) | (with_reducible refine below_dnR ?_ _) | (with_reducible refine below_al ?_ _))
      rintro e w9 ⟨rfl, hb9⟩
      have hBEL : Below wc.heap.size wc w9 := below_step (a := wc) (by repeat (first | (with_reducible exact HBC.out) | (with_reducible refine belowDrewR ?_) | (with_reducible refine below_dnR ?_ _) | (with_reducible refine below_al ?_ _))) hb9
      have HBC := Lib.hid hBEL
      clear hb9 hBEL
      refine hK.out _ _ (range_below (a := wc) HBC.out hlk rra) (fun hHeld => ?_)
      clear hK K
      conv => arg 8; simp only [Act.put, List.setIfInBounds_toArray, List.set_cons_zero, List.set_cons_succ]
      refine wpAnyH_take (i := 14) (oi := ⟨some 44, _, _, _, _, _⟩) (v := ?_) rfl (by kernel_rfl) (by kernel_rfl) (by kernel_rfl) (fun _ _ _ h => h) (Or.inl ⟨by kernel_rfl, ?_⟩) hHeld ?_
      rotate_left
      · intro w hSw
        (try dsimp only at hSw)
        go_simp
        all_goals (with_reducible rfl)
      conv => arg 8; simp only [Act.put, List.setIfInBounds_toArray, List.set_cons_zero, List.set_cons_succ]
      refine wpAnyH_take (i := 15) (oi := ⟨some 45, _, _, _, _, _⟩) (v := ?_) rfl (by kernel_rfl) (by kernel_rfl) (by kernel_rfl) (fun _ _ _ h => h) (Or.inl ⟨by kernel_rfl, ?_⟩) hHeld ?_
      rotate_left
      · intro w hSw
        (try dsimp only at hSw)
        go_simp
        all_goals (with_reducible rfl)
      conv => arg 8; simp only [Act.put, List.setIfInBounds_toArray, List.set_cons_zero, List.set_cons_succ]
      refine wpAnyH_done (by kernel_rfl) ?_ _
      refine NoPanic.normal ?_
      go_wp2_with fail
      go_roundw
      case rel => exact ⟨j + 1, by omega, by go_num, HBW.out.trans (HBC.out.mono hzc)⟩
      case measure => simp [intOf]; omega
    · skip
      obtain rfl : j = q := by omega
      have hge' : ¬ (j : Int) < j := by omega
      obtain ⟨d1, hd1⟩ : ∃ d, distK ps = d := ⟨_, rfl⟩
      obtain ⟨d2, hd2⟩ : ∃ d, distK rs = d := ⟨_, rfl⟩
      have H1 : Hid (∀ W, Below w3.heap.size w3 W → Calls Try.prog 19 #[.slice A' n c'] W fun e w' => e = .returned (.bool d1) ∧ Below W.heap.size W w') := fun W h => by rw [← hd1]; exact kdistinct_any W A' n c' ps (HK2.out.below h) (by omega)
      have H2 : Hid (∀ W, Below w3.heap.size w3 W → Calls Try.prog 20 #[.slice A' n c'] W fun e w' => e = .returned (.bool d1) ∧ Below W.heap.size W w') := fun W h => by rw [← hd1]; exact rdistinct_any W A' n c' ps (HK2.out.below h)
      have H3 : Hid (∀ W, Below w3.heap.size w3 W → Calls Try.prog 19 #[.slice Ar m cr] W fun e w' => e = .returned (.bool d2) ∧ Below W.heap.size W w') := fun W h => by rw [← hd2]; exact kdistinct_any W Ar m cr rs (HRR.out.below h) (by omega)
      have H4 : Hid (∀ W, Below w3.heap.size w3 W → Calls Try.prog 20 #[.slice Ar m cr] W fun e w' => e = .returned (.bool d2) ∧ Below W.heap.size W w') := fun W h => by rw [← hd2]; exact rdistinct_any W Ar m cr rs (HRR.out.below h)
      clear hd1 hd2
      go_wp2_with fail
      refine (H1.out _ HBR.out).mono ?_
      rintro e w4 ⟨rfl, hb4⟩
      have B4 := Lib.hid (below_step (a := w3) HBR.out hb4)
      clear hb4
      go_wp2_with fail
      refine (H2.out _ B4.out).mono ?_
      rintro e w5 ⟨rfl, hb5⟩
      have B5 := Lib.hid (below_step (a := w3) B4.out hb5)
      clear hb5
      go_wp2_with fail
      refine (H3.out _ B5.out).mono ?_
      rintro e w6 ⟨rfl, hb6⟩
      have B6 := Lib.hid (below_step (a := w3) B5.out hb6)
      clear hb6
      go_wp2_with fail
      refine (H4.out _ B6.out).mono ?_
      rintro e w7 ⟨rfl, hb7⟩
      have B7 := Lib.hid (below_step (a := w3) B6.out hb7)
      clear hb7
      go_wp2_with fail
      refine (known_any _).mono ?_
      rintro e w8 ⟨rfl, hb8⟩
      have B8 := Lib.hid (below_step (a := w3) B7.out hb8)
      clear hb8
      go_wp2_with fail
      go_ret
      exact ⟨rfl, HB0.out.trans ((HB3.out.trans (B8.out.mono hz3)).mono hz0')⟩
end Go.Proofs.Ytbhklhpeppaadaa
